/-
  Walks: the program's numbers, nodes and blocks.
-/
import Derived.Test.YtmladfkafbjmoaaReachF
namespace Go.Proofs.Ytmladfkafbjmoaa
open Go.RowKit

def numR (xs : List Int) : Int := if numberZ xs < 0 then 0 else numberZ xs
def numE (xs : List Int) : Int := if numberZ xs < 0 then 4 else 0
theorem num_bad {xs : List Int} (h : numberZ xs = -1) : numR xs = 0 ∧ numE xs = 4 := by unfold numR numE; rw [h]; decide
theorem num_good {xs : List Int} {v : Int} (h : numberZ xs = v) (hv : 0 ≤ v) : numR xs = v ∧ numE xs = 0 := by
  unfold numR numE; rw [h, if_neg (by omega), if_neg (by omega)]; exact ⟨rfl, rfl⟩
theorem ret_ints2 {a b a' b' : Int} {k : IntKind} (h : a' = a ∧ b' = b) : Ending.returned (.tuple #[.int k a, .int k b]) = .returned (.tuple #[.int k a', .int k b']) := by rw [h.1, h.2]

set_option maxHeartbeats 4000000 in
theorem Number_cons (g o n c : Nat) (x : Int) (t : List Int) (w : World) (hx : Rd w w.heap.size 1 (some ⟨g, o, none⟩) n (intsV (x :: t))) (hn : n ≤ 1000000) (hnc : n ≤ c) :
    Calls Try.prog 14 #[.slice (some ⟨g, o, none⟩) n c] w fun e w' => e = .returned (.tuple #[.int .i64 (numR (x :: t)), .int .i64 (numE (x :: t))]) ∧ Below w.heap.size w w' := by
  have hl := hx.1
  rw [intsV_len, List.length_cons, Nat.mul_one] at hl
  have c0 : w.cell? ⟨g, o, none⟩ = some (.int .i64 x) := by
    obtain ⟨g', o', y, e, _, hy, cy⟩ := int_at hx (show 0 < n by omega)
    injection e with e; injection e with e1 e2 _; subst e1 e2
    simp at hy; subst hy; simpa using cy
  have hn1 : 0 < n := by omega
  have hne : ((n : Int) == 0) = false := by simp; omega
  have hzc := numberZ_cons x t
  have HZ := Lib.hid hzc
  have HL := Lib.hid hl
  have hbad : ¬ (6 ≤ x ∧ x ≤ 8 ∧ t.all okD = true ∧ ((t.length : Int) + 1 ≤ x - 5)) → numR (x :: t) = 0 ∧ numE (x :: t) = 4 := fun h => num_bad (by rw [HZ.out, if_neg h])
  have HB := Lib.hid hbad
  clear hzc hbad
  by_cases q1 : x < 6
  · have hr := HB.out (by omega)
    have HR := Lib.hid hr
    clear hr hx hl
    go_enter Try.func14, Try.ntmps14
    go_wp2
    go_ret2
    exact ⟨ret_ints2 HR.out, Below.refl _ _⟩
  by_cases q2 : 8 < x
  · have hr := HB.out (by omega)
    have HR := Lib.hid hr
    clear hr hx hl
    go_enter Try.func14, Try.ntmps14
    go_wp2
    go_ret2
    exact ⟨ret_ints2 HR.out, Below.refl _ _⟩
  have hx2 : 6 ≤ x ∧ x ≤ 8 := by omega
  by_cases h1c : c = 1
  all_goals
    obtain ⟨o', ho'⟩ : ∃ o' : Nat, o' = if c = 1 then o else o + 1 := ⟨_, rfl⟩
    first | rw [if_pos h1c] at ho' | rw [if_neg h1c] at ho'
    have hrt := rd_cut hx o' (fun h => by omega)
    have HRT := Lib.hid hrt
    clear hrt hx
    cases hall : t.all okD with
    | false =>
      have hr := HB.out (by rw [hall]; simp)
      have HR := Lib.hid hr
      have HA := Lib.hid hall
      clear hr hl hall
      subst ho'
      go_enter Try.func14, Try.ntmps14
      go_wp2_with fail
      refine (places_any _ _ _ t w HRT.out (by omega)).mono ?_
      rintro e w' ⟨rfl, rfl⟩
      rw [HA.out]
      go_wp2
      go_ret2
      exact ⟨ret_ints2 HR.out, Below.refl _ _⟩
    | true =>
      have HA := Lib.hid hall
      clear hall
      by_cases hlen : (n : Int) ≤ x - 5
      · have hok : numberZ (x :: t) = if t.length = 0 then x - 6 else if t.length = 1 then 3 + 15 * (x - 7) + valZ t else 33 + valZ t := by
          rw [HZ.out, if_pos ⟨hx2.1, hx2.2, HA.out, by omega⟩]
        have hvb := val_bound t HA.out (by omega)
        have HOK := Lib.hid hok
        have HVB := Lib.hid hvb
        clear hok hvb hl
        subst ho'
        have hw6 : IntKind.i64.wrap (x - 6) = x - 6 := IntWalk.i64_in _ (by omega)
        have hcond : ((n : Int) > x - 6 + 1) = False := by simp; omega
        have hnot : ¬ (x - 6 + 1 < (n : Int)) := by omega
        clear hcond
        have HW6 := Lib.hid hw6
        clear hw6
        go_enter Try.func14, Try.ntmps14
        go_wp2_with fail
        refine (places_any _ _ _ t w HRT.out (by omega)).mono ?_
        rintro e w' ⟨rfl, rfl⟩
        rw [HA.out]
        go_wp2_with fail
        have hw6 := HW6.out
        go_quiet ((go_at_call 29; exact Calls.quiet_of_same (value_any _ _ _ t _ HRT.out (by omega) HA.out)))
        clear hw6
        have hvb := HVB.out
        have hok := HOK.out
        have hll := HL.out
        generalize valZ t = v at *
        rcases (show n = 1 ∨ n = 2 ∨ n = 3 from by omega) with h | h | h
        · have e1 : ((n : Int) == 1) = true := by simp; omega
          have hr := num_good (xs := x :: t) (v := x - 6) (by rw [hok, if_pos (by omega)]) (by omega)
          have HR := Lib.hid hr
          clear h hr hok hll
          go_wp2
          go_ret2
          exact ⟨ret_ints2 HR.out, below_drewN (Below.refl _ _) _⟩
        · have e1 : ((n : Int) == 1) = false := by simp; omega
          have e2 : ((n : Int) == 2) = true := by simp; omega
          have hr := num_good (xs := x :: t) (v := 3 + 15 * (x - 6 - 1) + v) (by rw [hok, if_neg (by omega), if_pos (by omega)]; omega) (by omega)
          have HR := Lib.hid hr
          clear h hr hok hll
          go_wp2
          go_ret2
          exact ⟨ret_ints2 HR.out, below_drewN (Below.refl _ _) _⟩
        · have e1 : ((n : Int) == 1) = false := by simp; omega
          have e2 : ((n : Int) == 2) = false := by simp; omega
          have hr := num_good (xs := x :: t) (v := 33 + v) (by rw [hok, if_neg (by omega), if_neg (by omega)]) (by omega)
          have HR := Lib.hid hr
          clear h hr hok hll
          go_wp2
          go_ret2
          exact ⟨ret_ints2 HR.out, below_drewN (Below.refl _ _) _⟩
      · have hr := HB.out (by omega)
        have HR := Lib.hid hr
        clear hr hl
        have hnot : x - 6 + 1 < (n : Int) := by omega
        subst ho'
        go_enter Try.func14, Try.ntmps14
        go_wp2_with fail
        refine (places_any _ _ _ t w HRT.out (by omega)).mono ?_
        rintro e w' ⟨rfl, rfl⟩
        rw [HA.out]
        go_wp2
        go_ret2
        exact ⟨ret_ints2 HR.out, Below.refl _ _⟩

set_option maxHeartbeats 1000000 in
theorem Number_any (A : Option Addr) (n c : Nat) (xs : List Int) (w : World) (hx : Rd w w.heap.size 1 A n (intsV xs)) (hn : n ≤ 1000000) (hnc : n ≤ c) :
    Calls Try.prog 14 #[.slice A n c] w fun e w' => e = .returned (.tuple #[.int .i64 (numR xs), .int .i64 (numE xs)]) ∧ Below w.heap.size w w' := by
  have hl := hx.1
  rw [intsV_len, Nat.mul_one] at hl
  cases xs with
  | nil =>
    obtain rfl : n = 0 := by simpa using hl.symm
    have hr := num_bad (xs := []) rfl
    have HR := Lib.hid hr
    clear hr hl hx
    go_enter Try.func14, Try.ntmps14
    go_wp2
    go_ret2
    exact ⟨ret_ints2 HR.out, Below.refl _ _⟩
  | cons x t =>
    obtain ⟨g, o, rfl, _, _⟩ := hx.2 (by rw [← hl]; simp)
    exact Number_cons g o n c x t w hx hn hnc

set_option maxHeartbeats 1000000 in
theorem Node_bad (k : Int) (w : World) (h : k < 0 ∨ 257 < k) (hk : k ≤ 9223372036854775807) :
    Calls Try.prog 16 #[.int .i64 k] w fun e w' => e = .returned (.tuple #[.slice none 0 0, .int .i64 4]) ∧ w = w' := by
  rcases h with h | h
  · go_enter Try.func16, Try.ntmps16
    go_wp2
    all_goals go_ret2
    all_goals exact ⟨rfl, rfl⟩
  · have h' : ¬ k < 0 := by omega
    go_enter Try.func16, Try.ntmps16
    go_wp2
    all_goals go_ret2
    all_goals exact ⟨rfl, rfl⟩

set_option maxHeartbeats 2000000 in
set_option maxRecDepth 100000 in
theorem Node_a (k : Nat) (w : World) (h : k < 3) :
    Calls Try.prog 16 #[.int .i64 k] w fun e w' => ∃ v, e = .returned (.tuple #[v, .int .i64 0]) ∧ OwnI w w' v (toZ (nodeN k)) ∧ Below w.heap.size w w' := by
  have hr : OwnI w (w.alloc (.cells #[.int .i64 (6 + (k : Int))] 3)) (.slice (some ⟨w.heap.size, 0, none⟩) 1 1) (toZ (nodeN k)) := by
    rw [toZ_eq1 (x := 6 + (k : Int)) (node1 k h) (by omega)]
    exact (OwnB.lit w w.heap.size (Nat.le_refl _) 3 1 1 #[.int .i64 (6 + (k : Int))] (by simp) (by simp [maxLen])).own
  have HR := Lib.hid hr
  clear hr
  go_enter Try.func16, Try.ntmps16
  go_wp2
  go_ret2
  exact ⟨_, rfl, HR.out, (Below.refl _ _).alloc (Nat.le_refl _) _⟩
set_option maxHeartbeats 2000000 in
set_option maxRecDepth 100000 in
theorem Node_b (m : Nat) (w : World) (h : m < 30) :
    Calls Try.prog 16 #[.int .i64 ((m : Int) + 3)] w fun e w' => ∃ v, e = .returned (.tuple #[v, .int .i64 0]) ∧ OwnI w w' v (toZ (nodeN (m + 3))) ∧ Below w.heap.size w w' := by
  have hr : OwnI w (w.alloc (.cells #[.int .i64 (7 + (m : Int) / 15), .int .i64 ((m : Int) % 15)] 3)) (.slice (some ⟨w.heap.size, 0, none⟩) 2 2) (toZ (nodeN (m + 3))) := by
    rw [toZ_eq2 (x := 7 + (m : Int) / 15) (y := (m : Int) % 15) (node2 (m + 3) (by omega)) (by omega) (by omega)]
    exact (OwnB.lit w w.heap.size (Nat.le_refl _) 3 1 2 #[.int .i64 (7 + (m : Int) / 15), .int .i64 ((m : Int) % 15)] (by simp) (by simp [maxLen])).own
  have HR := Lib.hid hr
  clear hr
  have hs : ((m : Int) + 3 - 3) = m := by omega
  go_enter Try.func16, Try.ntmps16
  go_wp2
  go_ret2
  exact ⟨_, rfl, HR.out, (Below.refl _ _).alloc (Nat.le_refl _) _⟩
set_option maxHeartbeats 2000000 in
set_option maxRecDepth 100000 in
theorem Node_c (m d1 d0 : Nat) (w : World) (h : m < 225) (e1 : Hid (m / 15 % 15 = d1)) (e0 : Hid (m % 15 = d0)) :
    Calls Try.prog 16 #[.int .i64 ((m : Int) + 33)] w fun e w' => ∃ v, e = .returned (.tuple #[v, .int .i64 0]) ∧ OwnI w w' v [8, (d1 : Int), (d0 : Int)] ∧ Below w.heap.size w w' := by
  obtain ⟨i0, hi, hz0, hz1, hz2⟩ := info_parts Try.info3
  go_enter Try.func16, Try.ntmps16
  go_wp2_with fail
  rw [show (m : Int) + 33 - 3 - 30 = (m : Int) from by omega]
  refine (digits_two m d1 d0 (by omega) e1 e0 _).mono ?_
  rintro e w2 ⟨rfl, rfl⟩
  have hol := own_lit w w.heap.size (Nat.le_refl _) [8] (by simp)
  have hol2 := hol.alloc (.cells #[.int .i64 (d1 : Int), .int .i64 (d0 : Int)] 3)
  clear hol
  go_wp2_with (at_builtin; refine wpList_append_own _ rfl (.tmp 29) (.tmp 32) 25 rfl w.heap.size 3 i0 _ 1 8 Try.underlying25 hi hz0 hz1 hz2 rfl (by decide) _ _ _ rfl hol2 ⟨w.heap.size + 1, 0, none⟩ 2 2 [.int .i64 (d1 : Int), .int .i64 (d0 : Int)] (by rfl) (by rfl) (fun j u hj => new_cells (w.alloc _) _ _ _ (by simp) j u hj) (intsV_one [(d1 : Int), (d0 : Int)]) (by unfold maxLen; simp) (by simp) (by simp; omega) ?_)
  intro v' w' hown' hgrow _
  have hb := (((Below.refl _ w).alloc (Nat.le_refl _) _).alloc (by simp) _).grown hgrow (by simp; omega) (fun k hk => by simp [Value.ownBlock] at hk; omega)
  have HO := Lib.hid hown'
  clear hown' hol2 hgrow
  go_wp2
  go_ret2
  exact ⟨_, rfl, HO.out, hb⟩
theorem Node_ok (k : Nat) (w : World) (h : k < 258) :
    Calls Try.prog 16 #[.int .i64 k] w fun e w' => ∃ v, e = .returned (.tuple #[v, .int .i64 0]) ∧ OwnI w w' v (toZ (nodeN k)) ∧ Below w.heap.size w w' := by
  by_cases h1 : k < 3
  · exact Node_a k w h1
  by_cases h2 : k < 33
  · obtain ⟨m, rfl⟩ : ∃ m, k = m + 3 := ⟨k - 3, by omega⟩
    rw [show (((m + 3 : Nat) : Int)) = (m : Int) + 3 from by omega]
    exact Node_b m w (by omega)
  · obtain ⟨m, rfl⟩ : ∃ m, k = m + 33 := ⟨k - 33, by omega⟩
    rw [show (((m + 33 : Nat) : Int)) = (m : Int) + 33 from by omega]
    rw [toZ_eq3 (x := 8) (y := ((m / 15 % 15 : Nat) : Int)) (z := ((m % 15 : Nat) : Int)) (node3 (m + 33) (by omega)) rfl (by omega) (by omega)]
    exact Node_c m _ _ w (by omega) (Lib.hid rfl) (Lib.hid rfl)
end Go.Proofs.Ytmladfkafbjmoaa
