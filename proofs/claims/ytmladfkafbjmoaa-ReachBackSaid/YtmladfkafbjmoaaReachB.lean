/-
  Walks: paths of blocks.
-/
import Derived.Test.YtmladfkafbjmoaaMem
import Derived.Test.YtmladfkafbjmoaaReachA
import Derived.BigQuiet
import Derived.Deep.QuietTactic
namespace Go.Proofs.Ytmladfkafbjmoaa
open Go.RowKit

theorem Try.info3 : (Try.prog.info? 3).map (fun i => (i.zero, i.size, i.bytes)) = some (some (.int .i64 0), 1, 8) := by kernel_rfl

set_option maxHeartbeats 400000 in
theorem wide_any (w : World) :
    Calls Try.prog 26 #[] w fun e w' => e = .returned (.agg #[.int .i64 15, .int .i64 225, .int .i64 3375]) ∧ Below w.heap.size w w' := by
  go_enter Try.func26, Try.ntmps26
  go_wp2
  exact bodyPost_ret (v := .agg #[.int .i64 15, .int .i64 225, .int .i64 3375]) (by simp [results, Try.results26, go_sem]) rfl ⟨rfl, (Below.refl _ _).alloc (Nat.le_refl _) _⟩

set_option maxHeartbeats 1000000 in
theorem Same_any (A A' : Option Addr) (n c n' c' : Nat) (xs ys : List Int) (w : World) (hx : Rd w w.heap.size 1 A n (intsV xs)) (hy : Rd w w.heap.size 1 A' n' (intsV ys)) (hn : n ≤ 1000000) :
    Calls Try.prog 18 #[.slice A n c, .slice A' n' c'] w fun e w' => e = .returned (.bool (decide (xs = ys))) ∧ Below w.heap.size w w' := by
  have hlx := hx.1
  have hly := hy.1
  rw [intsV_len, Nat.mul_one] at hlx hly
  have HX := Lib.hid hlx
  have HY := Lib.hid hly
  by_cases hne : n = n'
  · have hb : ((n : Int) != (n' : Int)) = false := by simp; omega
    have HNE := Lib.hid hne
    clear hne hlx hly
    go_enter Try.func18, Try.ntmps18
    go_wp2
    go_loopw [5] (fun i wr => ∃ k : Nat, k ≤ n ∧ i = .int .i64 k ∧ xs.take k = ys.take k ∧ Below w.heap.size w wr) (fun i _ => n - (intOf i).toNat)
    case atStart => exact ⟨0, Nat.zero_le _, rfl, rfl, Below.refl _ _⟩
    case round =>
      obtain ⟨k, hk, rfl, htk, hbw⟩ := hrel
      have HTK := Lib.hid htk
      clear htk
      by_cases hlt : k < n
      · obtain ⟨g, o, x, rfl, hg, hxk, cx⟩ := int_at (hx.below hbw) hlt
        obtain ⟨g', o', y, rfl, hg', hyk, cy⟩ := int_at (hy.below hbw) (by rw [← HNE.out]; exact hlt)
        have h1 := take_snoc xs k x hxk
        have h2 := take_snoc ys k y hyk
        have H1 := Lib.hid h1
        have H2 := Lib.hid h2
        have HXK := Lib.hid hxk
        have HYK := Lib.hid hyk
        have hi0 : (0 : Int) ≤ (k : Int) := by omega
        have hi1 : (k : Int) < (n : Int) := by omega
        have hi2 : (k : Int) < (n' : Int) := by rw [← HNE.out]; exact hi1
        clear h1 h2 hxk hyk hx hy
        by_cases hxy : x = y
        · subst hxy
          go_wp2
          go_quiet (fail)
          go_wp2
          go_roundw
          case rel => exact ⟨k + 1, by omega, by go_num, by rw [H1.out, H2.out, HTK.out], below_drewN hbw _⟩
          case measure => simp [intOf]; omega
        · have hxb : (x != y) = true := by simpa using hxy
          have hres : decide (xs = ys) = false := decide_eq_false fun e => by
            subst e
            have h1 := HXK.out
            rw [HYK.out] at h1
            injection h1 with h1
            exact hxy h1.symm
          have HR := Lib.hid hres
          clear hres
          go_wp2
          go_quiet (fail)
          go_wp2
          go_ret
          exact ⟨ret_bool HR.out.symm, below_drewN hbw _⟩
      · have hres : decide (xs = ys) = true := by
          have h := HTK.out
          rw [List.take_of_length_le (by rw [HX.out]; omega), List.take_of_length_le (by rw [HY.out, ← HNE.out]; omega)] at h
          exact decide_eq_true h
        have HR := Lib.hid hres
        clear hres
        go_wp2
        go_ret
        exact ⟨ret_bool HR.out.symm, hbw⟩
  · have hb : ((n : Int) != (n' : Int)) = true := by simp; omega
    have hres : decide (xs = ys) = false := decide_eq_false fun e => by subst e; omega
    have HR := Lib.hid hres
    clear hres
    go_enter Try.func18, Try.ntmps18
    go_wp2
    go_ret
    exact ⟨ret_bool HR.out.symm, Below.refl _ _⟩

set_option maxHeartbeats 1000000 in
theorem digits_one (n d0 : Nat) (hn : n < 1000000) (e0 : Hid (n % 15 = d0)) (w : World) :
    Calls Try.prog 30 #[.int .i64 n, .int .i64 1] w fun e w' => e = .returned (.slice (some ⟨w.heap.size, 0, none⟩) 1 1) ∧ w' = w.alloc (.cells #[.int .i64 (d0 : Int)] 3) := by
  have hmk : ∀ w, (Instr.makeSlice 25 (.int .i64 1) (.int .i64 1)).run Try.prog w = .ok (.slice (some ⟨w.heap.size, 0, none⟩) 1 1) (w.alloc (.cells #[.int .i64 0] 3)) := fun _ => by kernel_rfl
  go_enter Try.func30, Try.ntmps30
  go_wp2
  refine wp_loop_rounds 2 ?_
  rw [rounds_succ]
  go_wp2
  rw [rounds_succ]
  go_wp2
  go_ret
  exact ⟨rfl, by rw [← e0.out]; rfl⟩
set_option maxHeartbeats 1000000 in
theorem digits_two (n d1 d0 : Nat) (hn : n < 1000000) (e1 : Hid (n / 15 % 15 = d1)) (e0 : Hid (n % 15 = d0)) (w : World) :
    Calls Try.prog 30 #[.int .i64 n, .int .i64 2] w fun e w' => e = .returned (.slice (some ⟨w.heap.size, 0, none⟩) 2 2) ∧ w' = w.alloc (.cells #[.int .i64 (d1 : Int), .int .i64 (d0 : Int)] 3) := by
  have hmk : ∀ w, (Instr.makeSlice 25 (.int .i64 2) (.int .i64 2)).run Try.prog w = .ok (.slice (some ⟨w.heap.size, 0, none⟩) 2 2) (w.alloc (.cells #[.int .i64 0, .int .i64 0] 3)) := fun _ => by kernel_rfl
  go_enter Try.func30, Try.ntmps30
  go_wp2
  refine wp_loop_rounds 3 ?_
  iterate 3 (rw [rounds_succ]; go_wp2)
  go_ret
  exact ⟨rfl, by rw [← e1.out, ← e0.out]; rfl⟩
set_option maxHeartbeats 1000000 in
theorem digits_three (n d2 d1 d0 : Nat) (hn : n < 1000000) (e2 : Hid (n / 15 / 15 % 15 = d2)) (e1 : Hid (n / 15 % 15 = d1)) (e0 : Hid (n % 15 = d0)) (w : World) :
    Calls Try.prog 30 #[.int .i64 n, .int .i64 3] w fun e w' => e = .returned (.slice (some ⟨w.heap.size, 0, none⟩) 3 3) ∧ w' = w.alloc (.cells #[.int .i64 (d2 : Int), .int .i64 (d1 : Int), .int .i64 (d0 : Int)] 3) := by
  have hmk : ∀ w, (Instr.makeSlice 25 (.int .i64 3) (.int .i64 3)).run Try.prog w = .ok (.slice (some ⟨w.heap.size, 0, none⟩) 3 3) (w.alloc (.cells #[.int .i64 0, .int .i64 0, .int .i64 0] 3)) := fun _ => by kernel_rfl
  go_enter Try.func30, Try.ntmps30
  go_wp2
  refine wp_loop_rounds 4 ?_
  iterate 4 (rw [rounds_succ]; go_wp2)
  go_ret
  exact ⟨rfl, by rw [← e2.out, ← e1.out, ← e0.out]; rfl⟩

/-- What a function hands back as a list of ints: a row of its own. -/
def OwnI (w w' : World) (v : Value) (l : List Int) : Prop := w'.ownsRow w.heap.size 3 1 v l.length (intsV l)

theorem own_lit (w : World) (base : Nat) (hb : base ≤ w.heap.size) (l : List Int) (hl : l.length ≤ 1000) :
    (w.alloc (.cells (intsV l).toArray 3)).ownsRow base 3 1 (.slice (some ⟨w.heap.size, 0, none⟩) l.length l.length) l.length (intsV l) := by
  have := World.ownsRow_lit (base := base) (e := 3) (size := 1) w (intsV l).toArray l.length hb (by unfold maxLen; omega) (by simp [intsV_len])
  simpa using this

set_option maxHeartbeats 1000000 in
theorem Path_bad (n : Int) (w : World) (h : n < 0 ∨ 3620 < n) :
    Calls Try.prog 19 #[.int .i64 n] w fun e w' => e = .returned (.tuple #[.slice none 0 0, .int .i64 4]) ∧ w' = w := by
  rcases h with h | h
  · go_enter Try.func19, Try.ntmps19
    go_wp2
    go_ret2
    exact ⟨rfl, rfl⟩
  · have h' : ¬ n < 0 := by omega
    go_enter Try.func19, Try.ntmps19
    go_wp2
    go_ret2
    exact ⟨rfl, rfl⟩
set_option maxHeartbeats 1000000 in
theorem Path_a (n : Nat) (w : World) (h : n < 6) :
    Calls Try.prog 19 #[.int .i64 n] w fun e w' => e = .returned (.tuple #[.slice (some ⟨w.heap.size, 0, none⟩) 1 1, .int .i64 0]) ∧ w' = w.alloc (.cells #[.int .i64 n] 3) := by
  go_enter Try.func19, Try.ntmps19
  go_wp2
  go_ret2
  exact ⟨rfl, rfl⟩


set_option maxHeartbeats 2000000 in
set_option maxRecDepth 100000 in
theorem Path_b (m d0 : Nat) (w : World) (h : m < 15) (e0 : Hid (m % 15 = d0)) :
    Calls Try.prog 19 #[.int .i64 ((m : Int) + 6)] w fun e w' => ∃ v, e = .returned (.tuple #[v, .int .i64 0]) ∧ OwnI w w' v [6, (d0 : Int)] ∧ Below w.heap.size w w' := by
  obtain ⟨i0, hi, hz0, hz1, hz2⟩ := info_parts Try.info3
  have k0 : ∀ w, (Instr.index 45 (.agg #[.int .i64 15, .int .i64 225, .int .i64 3375]) (.int .i64 0)).run Try.prog w = .ok (.int .i64 15) w := fun _ => by kernel_rfl
  have k1 : ∀ w, (Instr.index 45 (.agg #[.int .i64 15, .int .i64 225, .int .i64 3375]) (.int .i64 1)).run Try.prog w = .ok (.int .i64 225) w := fun _ => by kernel_rfl
  have k2 : ∀ w, (Instr.index 45 (.agg #[.int .i64 15, .int .i64 225, .int .i64 3375]) (.int .i64 2)).run Try.prog w = .ok (.int .i64 3375) w := fun _ => by kernel_rfl
  go_enter Try.func19, Try.ntmps19
  go_wp2_with fail
  refine (wide_any w).mono ?_
  rintro e w1 ⟨rfl, h1⟩
  go_wp2
  refine wp_loop_rounds 1 ?_
  rw [rounds_succ]
  go_wp2_with fail
  refine (digits_one m d0 (by omega) e0 _).mono ?_
  rintro e w2 ⟨rfl, rfl⟩
  have hol := own_lit w1 w.heap.size h1.size [6] (by simp)
  have hol2 := hol.alloc (.cells #[.int .i64 (d0 : Int)] 3)
  clear hol
  go_wp2_with (at_builtin; refine wpList_append_own _ rfl (.tmp 28) (.tmp 32) 25 rfl w.heap.size 3 i0 _ 1 8 Try.underlying25 hi hz0 hz1 hz2 rfl (by decide) _ _ _ rfl hol2 ⟨w1.heap.size + 1, 0, none⟩ 1 1 [.int .i64 (d0 : Int)] (by rfl) (by rfl) (fun j u hj => new_cells (w1.alloc _) _ _ _ (by simp) j u hj) (intsV_one [(d0 : Int)]) (by unfold maxLen; simp) (by simp) (by have := h1.size; simp; omega) ?_)
  intro v' w' hown' hgrow _
  have hb := ((h1.alloc h1.size _).alloc (by have := h1.size; simp; omega) _).grown hgrow (by have := h1.size; simp; omega) (fun k hk => by simp [Value.ownBlock] at hk; have := h1.size; omega)
  have HO := Lib.hid hown'
  clear hown' hol2 hgrow
  go_wp2
  go_ret2
  exact ⟨_, rfl, HO.out, hb⟩

set_option maxHeartbeats 2000000 in
set_option maxRecDepth 100000 in
theorem Path_c (m d1 d0 : Nat) (w : World) (h : m < 225) (e1 : Hid (m / 15 % 15 = d1)) (e0 : Hid (m % 15 = d0)) :
    Calls Try.prog 19 #[.int .i64 ((m : Int) + 21)] w fun e w' => ∃ v, e = .returned (.tuple #[v, .int .i64 0]) ∧ OwnI w w' v [7, (d1 : Int), (d0 : Int)] ∧ Below w.heap.size w w' := by
  obtain ⟨i0, hi, hz0, hz1, hz2⟩ := info_parts Try.info3
  have k0 : ∀ w, (Instr.index 45 (.agg #[.int .i64 15, .int .i64 225, .int .i64 3375]) (.int .i64 0)).run Try.prog w = .ok (.int .i64 15) w := fun _ => by kernel_rfl
  have k1 : ∀ w, (Instr.index 45 (.agg #[.int .i64 15, .int .i64 225, .int .i64 3375]) (.int .i64 1)).run Try.prog w = .ok (.int .i64 225) w := fun _ => by kernel_rfl
  have k2 : ∀ w, (Instr.index 45 (.agg #[.int .i64 15, .int .i64 225, .int .i64 3375]) (.int .i64 2)).run Try.prog w = .ok (.int .i64 3375) w := fun _ => by kernel_rfl
  go_enter Try.func19, Try.ntmps19
  go_wp2_with fail
  refine (wide_any w).mono ?_
  rintro e w1 ⟨rfl, h1⟩
  go_wp2
  refine wp_loop_rounds 2 ?_
  rw [rounds_succ]
  go_wp2
  rw [rounds_succ]
  go_wp2_with fail
  rw [show (m : Int) + 21 - 6 - 15 = (m : Int) from by omega]
  refine (digits_two m d1 d0 (by omega) e1 e0 _).mono ?_
  rintro e w2 ⟨rfl, rfl⟩
  have hol := own_lit w1 w.heap.size h1.size [7] (by simp)
  have hol2 := hol.alloc (.cells #[.int .i64 (d1 : Int), .int .i64 (d0 : Int)] 3)
  clear hol
  go_wp2_with (at_builtin; refine wpList_append_own _ rfl (.tmp 28) (.tmp 32) 25 rfl w.heap.size 3 i0 _ 1 8 Try.underlying25 hi hz0 hz1 hz2 rfl (by decide) _ _ _ rfl hol2 ⟨w1.heap.size + 1, 0, none⟩ 2 2 [.int .i64 (d1 : Int), .int .i64 (d0 : Int)] (by rfl) (by rfl) (fun j u hj => new_cells (w1.alloc _) _ _ _ (by simp) j u hj) (intsV_one [(d1 : Int), (d0 : Int)]) (by unfold maxLen; simp) (by simp) (by have := h1.size; simp; omega) ?_)
  intro v' w' hown' hgrow _
  have hb := ((h1.alloc h1.size _).alloc (by have := h1.size; simp; omega) _).grown hgrow (by have := h1.size; simp; omega) (fun k hk => by simp [Value.ownBlock] at hk; have := h1.size; omega)
  have HO := Lib.hid hown'
  clear hown' hol2 hgrow
  go_wp2
  go_ret2
  exact ⟨_, rfl, HO.out, hb⟩

set_option maxHeartbeats 2000000 in
set_option maxRecDepth 100000 in
theorem Path_d (m d2 d1 d0 : Nat) (w : World) (h : m < 3375) (e2 : Hid (m / 15 / 15 % 15 = d2)) (e1 : Hid (m / 15 % 15 = d1)) (e0 : Hid (m % 15 = d0)) :
    Calls Try.prog 19 #[.int .i64 ((m : Int) + 246)] w fun e w' => ∃ v, e = .returned (.tuple #[v, .int .i64 0]) ∧ OwnI w w' v [8, (d2 : Int), (d1 : Int), (d0 : Int)] ∧ Below w.heap.size w w' := by
  obtain ⟨i0, hi, hz0, hz1, hz2⟩ := info_parts Try.info3
  have k0 : ∀ w, (Instr.index 45 (.agg #[.int .i64 15, .int .i64 225, .int .i64 3375]) (.int .i64 0)).run Try.prog w = .ok (.int .i64 15) w := fun _ => by kernel_rfl
  have k1 : ∀ w, (Instr.index 45 (.agg #[.int .i64 15, .int .i64 225, .int .i64 3375]) (.int .i64 1)).run Try.prog w = .ok (.int .i64 225) w := fun _ => by kernel_rfl
  have k2 : ∀ w, (Instr.index 45 (.agg #[.int .i64 15, .int .i64 225, .int .i64 3375]) (.int .i64 2)).run Try.prog w = .ok (.int .i64 3375) w := fun _ => by kernel_rfl
  go_enter Try.func19, Try.ntmps19
  go_wp2_with fail
  refine (wide_any w).mono ?_
  rintro e w1 ⟨rfl, h1⟩
  go_wp2
  refine wp_loop_rounds 3 ?_
  rw [rounds_succ]
  go_wp2
  rw [rounds_succ]
  go_wp2
  rw [rounds_succ]
  go_wp2_with fail
  rw [show (m : Int) + 246 - 6 - 15 - 225 = (m : Int) from by omega]
  refine (digits_three m d2 d1 d0 (by omega) e2 e1 e0 _).mono ?_
  rintro e w2 ⟨rfl, rfl⟩
  have hol := own_lit w1 w.heap.size h1.size [8] (by simp)
  have hol2 := hol.alloc (.cells #[.int .i64 (d2 : Int), .int .i64 (d1 : Int), .int .i64 (d0 : Int)] 3)
  clear hol
  go_wp2_with (at_builtin; refine wpList_append_own _ rfl (.tmp 28) (.tmp 32) 25 rfl w.heap.size 3 i0 _ 1 8 Try.underlying25 hi hz0 hz1 hz2 rfl (by decide) _ _ _ rfl hol2 ⟨w1.heap.size + 1, 0, none⟩ 3 3 [.int .i64 (d2 : Int), .int .i64 (d1 : Int), .int .i64 (d0 : Int)] (by rfl) (by rfl) (fun j u hj => new_cells (w1.alloc _) _ _ _ (by simp) j u hj) (intsV_one [(d2 : Int), (d1 : Int), (d0 : Int)]) (by unfold maxLen; simp) (by simp) (by have := h1.size; simp; omega) ?_)
  intro v' w' hown' hgrow _
  have hb := ((h1.alloc h1.size _).alloc (by have := h1.size; simp; omega) _).grown hgrow (by have := h1.size; simp; omega) (fun k hk => by simp [Value.ownBlock] at hk; have := h1.size; omega)
  have HO := Lib.hid hown'
  clear hown' hol2 hgrow
  go_wp2
  go_ret2
  exact ⟨_, rfl, HO.out, hb⟩

theorem Path_ok (n : Nat) (w : World) (h : n < 3621) :
    Calls Try.prog 19 #[.int .i64 n] w fun e w' => ∃ v, e = .returned (.tuple #[v, .int .i64 0]) ∧ OwnI w w' v (toZ (pathN n)) ∧ Below w.heap.size w w' := by
  unfold pathN
  by_cases h1 : n < 6
  · rw [if_pos h1]
    refine (Path_a n w h1).mono fun e w' ⟨he, hw⟩ => ⟨_, he, ?_, ?_⟩
    · subst hw
      exact own_lit w w.heap.size (Nat.le_refl _) [(n : Int)] (by simp)
    · subst hw; exact (Below.refl _ _).alloc (Nat.le_refl _) _
  rw [if_neg h1]
  by_cases h2 : n < 21
  · rw [if_pos h2]
    obtain ⟨m, rfl⟩ : ∃ m, n = m + 6 := ⟨n - 6, by omega⟩
    have := Path_b m _ w (by omega) (Lib.hid rfl)
    rw [show (((m + 6 : Nat) : Int)) = (m : Int) + 6 from by omega]
    refine this.mono fun e w' ⟨v, he, ho, hb⟩ => ⟨v, he, ?_, hb⟩
    rw [show m + 6 - 6 = m % 15 from by omega]; exact ho
  rw [if_neg h2]
  by_cases h3 : n < 246
  · rw [if_pos h3]
    obtain ⟨m, rfl⟩ : ∃ m, n = m + 21 := ⟨n - 21, by omega⟩
    have := Path_c m _ _ w (by omega) (Lib.hid rfl) (Lib.hid rfl)
    rw [show (((m + 21 : Nat) : Int)) = (m : Int) + 21 from by omega]
    refine this.mono fun e w' ⟨v, he, ho, hb⟩ => ⟨v, he, ?_, hb⟩
    rw [show m + 21 - 21 = m from by omega, show m / 15 = m / 15 % 15 from by omega]; exact ho
  rw [if_neg h3]
  obtain ⟨m, rfl⟩ : ∃ m, n = m + 246 := ⟨n - 246, by omega⟩
  have := Path_d m _ _ _ w (by omega) (Lib.hid rfl) (Lib.hid rfl) (Lib.hid rfl)
  rw [show (((m + 246 : Nat) : Int)) = (m : Int) + 246 from by omega]
  refine this.mono fun e w' ⟨v, he, ho, hb⟩ => ⟨v, he, ?_, hb⟩
  rw [show m + 246 - 246 = m from by omega, show m / 225 = m / 15 / 15 % 15 from by omega]; exact ho
end Go.Proofs.Ytmladfkafbjmoaa
