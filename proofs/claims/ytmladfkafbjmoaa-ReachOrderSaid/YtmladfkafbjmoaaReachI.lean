/-
  Walks: how many nodes, how many blocks.
-/
import Derived.Test.YtmladfkafbjmoaaReachD
namespace Go.Proofs.Ytmladfkafbjmoaa
open Go.RowKit

set_option maxHeartbeats 1000000 in
theorem Size_any (n : Int) (w : World) (hn : n ≤ 9223372036854775807) :
    Calls Try.prog 11 #[.int .i64 n] w fun e w' => e = .returned (.int .i64 (if n ≤ 0 then 0 else (n - 1) / 128 + 1)) ∧ w = w' := by
  by_cases h : n ≤ 0
  · rw [if_pos h]
    go_enter Try.func11, Try.ntmps11
    go_wp2
    go_ret
    exact ⟨rfl, rfl⟩
  · rw [if_neg h]
    go_enter Try.func11, Try.ntmps11
    go_wp2
    go_ret
    exact ⟨rfl, rfl⟩

set_option maxHeartbeats 1000000 in
theorem Count_low (n : Int) (w : World) (hn : n ≤ 6) :
    Calls Try.prog 9 #[.int .i64 n] w fun e w' => e = .returned (.int .i64 0) ∧ Below w.heap.size w w' := by
  go_enter Try.func9, Try.ntmps9
  go_wp2
  go_step3
  go_wp2
  try rw [Exit.noGoto_ret]
  go_ret
  exact ⟨rfl, Below.refl _ _⟩

theorem rounds_in {P : Program} {c : Code} {Q : Exit → Act → World → Prop} {n : Nat} {a : Act} {w : World}
    (h : c.wp P (Exit.then (Code.rounds P c Q n) Q) a w) : Code.rounds P c Q (n + 1) a w := h

set_option maxHeartbeats 1000000 in
set_option maxRecDepth 100000 in
theorem Count_a (n : Nat) (w : World) (h1 : 6 < n) (h2 : n ≤ 21) :
    Calls Try.prog 9 #[.int .i64 n] w fun e w' => e = .returned (.int .i64 1) ∧ Below w.heap.size w w' := by
  have k0 : ∀ w, (Instr.index 45 (.agg #[.int .i64 15, .int .i64 225, .int .i64 3375]) (.int .i64 0)).run Try.prog w = .ok (.int .i64 15) w := fun _ => by kernel_rfl
  have k1 : ∀ w, (Instr.index 45 (.agg #[.int .i64 15, .int .i64 225, .int .i64 3375]) (.int .i64 1)).run Try.prog w = .ok (.int .i64 225) w := fun _ => by kernel_rfl
  have k2 : ∀ w, (Instr.index 45 (.agg #[.int .i64 15, .int .i64 225, .int .i64 3375]) (.int .i64 2)).run Try.prog w = .ok (.int .i64 3375) w := fun _ => by kernel_rfl
  go_enter Try.func9, Try.ntmps9
  go_wp2
  go_step3
  go_wp2
  go_step3
  go_wp2_with fail
  refine (wide_any w).mono ?_
  rintro e w1 ⟨rfl, hb⟩
  go_wp2
  refine wp_loop_rounds 2 ?_
  refine rounds_in ?_
  go_wp2
  refine wp_loop_rounds 1 ?_
  refine rounds_in ?_
  go_wp2
  refine rounds_in ?_
  go_wp2
  try rw [Exit.noGoto_ret]
  go_ret
  exact ⟨rfl, hb⟩

set_option maxHeartbeats 1000000 in
set_option maxRecDepth 100000 in
theorem Count_b (n : Nat) (w : World) (h1 : 21 < n) (h2 : n ≤ 246) :
    Calls Try.prog 9 #[.int .i64 n] w fun e w' => e = .returned (.int .i64 (2 + (n - 21 + 14) / 15 : Nat)) ∧ Below w.heap.size w w' := by
  have k0 : ∀ w, (Instr.index 45 (.agg #[.int .i64 15, .int .i64 225, .int .i64 3375]) (.int .i64 0)).run Try.prog w = .ok (.int .i64 15) w := fun _ => by kernel_rfl
  have k1 : ∀ w, (Instr.index 45 (.agg #[.int .i64 15, .int .i64 225, .int .i64 3375]) (.int .i64 1)).run Try.prog w = .ok (.int .i64 225) w := fun _ => by kernel_rfl
  have k2 : ∀ w, (Instr.index 45 (.agg #[.int .i64 15, .int .i64 225, .int .i64 3375]) (.int .i64 2)).run Try.prog w = .ok (.int .i64 3375) w := fun _ => by kernel_rfl
  go_enter Try.func9, Try.ntmps9
  go_wp2
  go_step3
  go_wp2
  go_step3
  go_wp2_with fail
  refine (wide_any w).mono ?_
  rintro e w1 ⟨rfl, hb⟩
  go_wp2
  refine wp_loop_rounds 3 ?_
  refine rounds_in ?_
  go_wp2
  refine wp_loop_rounds 1 ?_
  refine rounds_in ?_
  go_wp2
  refine rounds_in ?_
  go_wp2
  refine wp_loop_rounds 2 ?_
  refine rounds_in ?_
  go_wp2
  refine rounds_in ?_
  go_wp2
  refine rounds_in ?_
  go_wp2
  try rw [Exit.noGoto_ret]
  go_ret
  refine ⟨?_, hb⟩
  show Ending.returned (.int .i64 _) = .returned (.int .i64 _)
  congr 2
  try omega

set_option maxHeartbeats 1000000 in
set_option maxRecDepth 100000 in
theorem Count_c (n : Nat) (w : World) (h1 : 246 < n) (h2 : n ≤ 3621) :
    Calls Try.prog 9 #[.int .i64 n] w fun e w' => e = .returned (.int .i64 (18 + (n - 246 + 14) / 15 + ((n - 246 + 14) / 15 + 14) / 15 : Nat)) ∧ Below w.heap.size w w' := by
  have k0 : ∀ w, (Instr.index 45 (.agg #[.int .i64 15, .int .i64 225, .int .i64 3375]) (.int .i64 0)).run Try.prog w = .ok (.int .i64 15) w := fun _ => by kernel_rfl
  have k1 : ∀ w, (Instr.index 45 (.agg #[.int .i64 15, .int .i64 225, .int .i64 3375]) (.int .i64 1)).run Try.prog w = .ok (.int .i64 225) w := fun _ => by kernel_rfl
  have k2 : ∀ w, (Instr.index 45 (.agg #[.int .i64 15, .int .i64 225, .int .i64 3375]) (.int .i64 2)).run Try.prog w = .ok (.int .i64 3375) w := fun _ => by kernel_rfl
  go_enter Try.func9, Try.ntmps9
  go_wp2
  go_step3
  go_wp2
  go_step3
  go_wp2_with fail
  refine (wide_any w).mono ?_
  rintro e w1 ⟨rfl, hb⟩
  go_wp2
  refine wp_loop_rounds 4 ?_
  refine rounds_in ?_
  go_wp2
  refine wp_loop_rounds 1 ?_
  refine rounds_in ?_
  go_wp2
  refine rounds_in ?_
  go_wp2
  refine wp_loop_rounds 2 ?_
  refine rounds_in ?_
  go_wp2
  refine rounds_in ?_
  go_wp2
  refine rounds_in ?_
  go_wp2
  refine wp_loop_rounds 3 ?_
  refine rounds_in ?_
  go_wp2
  refine rounds_in ?_
  go_wp2
  refine rounds_in ?_
  go_wp2
  refine rounds_in ?_
  go_wp2
  try rw [Exit.noGoto_ret]
  go_ret
  refine ⟨?_, hb⟩
  show Ending.returned (.int .i64 _) = .returned (.int .i64 _)
  congr 2
  try omega

set_option maxHeartbeats 1000000 in
set_option maxRecDepth 100000 in
theorem Count_d (n : Int) (w : World) (h1 : 3621 < n) (h2 : n ≤ 9223372036854775807) :
    Calls Try.prog 9 #[.int .i64 n] w fun e w' => e = .returned (.int .i64 258) ∧ Below w.heap.size w w' := by
  have k0 : ∀ w, (Instr.index 45 (.agg #[.int .i64 15, .int .i64 225, .int .i64 3375]) (.int .i64 0)).run Try.prog w = .ok (.int .i64 15) w := fun _ => by kernel_rfl
  have k1 : ∀ w, (Instr.index 45 (.agg #[.int .i64 15, .int .i64 225, .int .i64 3375]) (.int .i64 1)).run Try.prog w = .ok (.int .i64 225) w := fun _ => by kernel_rfl
  have k2 : ∀ w, (Instr.index 45 (.agg #[.int .i64 15, .int .i64 225, .int .i64 3375]) (.int .i64 2)).run Try.prog w = .ok (.int .i64 3375) w := fun _ => by kernel_rfl
  go_enter Try.func9, Try.ntmps9
  go_wp2
  go_step3
  go_wp2
  go_step3
  go_wp2_with fail
  refine (wide_any w).mono ?_
  rintro e w1 ⟨rfl, hb⟩
  go_wp2
  refine wp_loop_rounds 4 ?_
  refine rounds_in ?_
  go_wp2
  refine wp_loop_rounds 1 ?_
  refine rounds_in ?_
  go_wp2
  refine rounds_in ?_
  go_wp2
  refine wp_loop_rounds 2 ?_
  refine rounds_in ?_
  go_wp2
  refine rounds_in ?_
  go_wp2
  refine rounds_in ?_
  go_wp2
  refine wp_loop_rounds 3 ?_
  refine rounds_in ?_
  go_wp2
  refine rounds_in ?_
  go_wp2
  refine rounds_in ?_
  go_wp2
  refine rounds_in ?_
  go_wp2
  try rw [Exit.noGoto_ret]
  go_ret
  refine ⟨?_, hb⟩
  show Ending.returned (.int .i64 _) = .returned (.int .i64 _)
  congr 2
  try omega

theorem Count_any (n : Int) (w : World) (h2 : n ≤ 9223372036854775807) :
    Calls Try.prog 9 #[.int .i64 n] w fun e w' => e = .returned (.int .i64 (countN (min n 3621).toNat)) ∧ Below w.heap.size w w' := by
  by_cases h6 : n ≤ 6
  · have hc : countN (min n 3621).toNat = 0 := by unfold countN; rw [if_pos (by omega)]
    rw [hc]; exact Count_low n w h6
  · by_cases h7 : 3621 < n
    · have hc : countN (min n 3621).toNat = 258 := by unfold countN; rw [if_neg (by omega), if_neg (by omega), if_neg (by omega)]; omega
      rw [hc]; exact Count_d n w h7 h2
    · obtain ⟨m, rfl⟩ := Int.eq_ofNat_of_zero_le (show 0 ≤ n by omega)
      rw [show (min (m : Int) 3621).toNat = m from by omega]
      by_cases h21 : m ≤ 21
      · have hc : countN m = 1 := by unfold countN; rw [if_neg (by omega), if_pos h21]
        rw [hc]; exact Count_a m w (by omega) h21
      · by_cases h246 : m ≤ 246
        · have hc : countN m = 2 + (m - 21 + 14) / 15 := by unfold countN; rw [if_neg (by omega), if_neg (by omega), if_pos (by omega)]
          rw [hc]; exact Count_b m w (by omega) (by omega)
        · have hc : countN m = 18 + (m - 246 + 14) / 15 + ((m - 246 + 14) / 15 + 14) / 15 := by unfold countN; rw [if_neg (by omega), if_neg (by omega), if_neg (by omega)]
          rw [hc]; exact Count_c m w (by omega) (by omega)
end Go.Proofs.Ytmladfkafbjmoaa
