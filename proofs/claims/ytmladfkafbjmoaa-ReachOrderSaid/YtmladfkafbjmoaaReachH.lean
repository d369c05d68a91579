/-
  Walks: the program's block of a path.
-/
import Derived.Test.YtmladfkafbjmoaaReachG
namespace Go.Proofs.Ytmladfkafbjmoaa
open Go.RowKit

def blkR (xs : List Int) : Int := if blockZ xs < 0 then 0 else blockZ xs
def blkE (xs : List Int) : Int := if blockZ xs < 0 then 4 else 0
theorem blk_bad {xs : List Int} (h : blockZ xs = -1) : blkR xs = 0 ∧ blkE xs = 4 := by unfold blkR blkE; rw [h]; decide
theorem blk_good {xs : List Int} {v : Int} (h : blockZ xs = v) (hv : 0 ≤ v) : blkR xs = v ∧ blkE xs = 0 := by
  unfold blkR blkE; rw [h, if_neg (by omega), if_neg (by omega)]; exact ⟨rfl, rfl⟩

set_option maxHeartbeats 4000000 in
theorem Block_cons (g o n c : Nat) (x : Int) (t : List Int) (w : World) (hx : Rd w w.heap.size 1 (some ⟨g, o, none⟩) n (intsV (x :: t))) (hn : n ≤ 1000000) (hnc : n ≤ c) :
    Calls Try.prog 21 #[.slice (some ⟨g, o, none⟩) n c] w fun e w' => e = .returned (.tuple #[.int .i64 (blkR (x :: t)), .int .i64 (blkE (x :: t))]) ∧ Below w.heap.size w w' := by
  have k0 : ∀ w, (Instr.index 45 (.agg #[.int .i64 15, .int .i64 225, .int .i64 3375]) (.int .i64 0)).run Try.prog w = .ok (.int .i64 15) w := fun _ => by kernel_rfl
  have k1 : ∀ w, (Instr.index 45 (.agg #[.int .i64 15, .int .i64 225, .int .i64 3375]) (.int .i64 1)).run Try.prog w = .ok (.int .i64 225) w := fun _ => by kernel_rfl
  have k2 : ∀ w, (Instr.index 45 (.agg #[.int .i64 15, .int .i64 225, .int .i64 3375]) (.int .i64 2)).run Try.prog w = .ok (.int .i64 3375) w := fun _ => by kernel_rfl
  have hl := hx.1
  rw [intsV_len, List.length_cons, Nat.mul_one] at hl
  have c0g : w.cell? ⟨g, o, none⟩ = some (.int .i64 x) ∧ g < w.heap.size := by
    obtain ⟨g', o', y, e, hg, hy, cy⟩ := int_at hx (show 0 < n by omega)
    injection e with e; injection e with e1 e2 _; subst e1 e2
    simp at hy; subst hy; exact ⟨by simpa using cy, hg⟩
  obtain ⟨c0, hg⟩ := c0g
  have hn1 : 0 < n := by omega
  have hne : ((n : Int) == 0) = false := by simp; omega
  have hzc := blockZ_cons x t
  have HZ := Lib.hid hzc
  have HL := Lib.hid hl
  have hbad : ¬ (0 ≤ x ∧ x < 9 ∧ t.all okD = true ∧ ((t.length : Int) + 1 = max 1 (x - 4))) → blkR (x :: t) = 0 ∧ blkE (x :: t) = 4 := fun h => blk_bad (by rw [HZ.out, if_neg h])
  have HB := Lib.hid hbad
  clear hzc hbad
  by_cases q1 : x < 0
  · have hr := HB.out (by omega)
    have HR := Lib.hid hr
    clear hr hx hl
    go_enter Try.func21, Try.ntmps21
    go_wp2
    go_ret2
    exact ⟨ret_ints2 HR.out, Below.refl _ _⟩
  by_cases q2 : 9 ≤ x
  · have hr := HB.out (by omega)
    have HR := Lib.hid hr
    clear hr hx hl
    go_enter Try.func21, Try.ntmps21
    go_wp2
    go_ret2
    exact ⟨ret_ints2 HR.out, Below.refl _ _⟩
  have hx2 : 0 ≤ x ∧ x ≤ 8 := by omega
  by_cases h1c : c = 1
  all_goals
    obtain ⟨o', ho'⟩ : ∃ o' : Nat, o' = if c = 1 then o else o + 1 := ⟨_, rfl⟩
    first | rw [if_pos h1c] at ho' | rw [if_neg h1c] at ho'
    have hrt := rd_cut hx o' (fun h => by omega)
    have HRT := Lib.hid hrt
    clear hrt hx
    subst ho'
    cases hall : t.all okD with
    | false =>
      have hr := HB.out (by rw [hall]; simp)
      have HR := Lib.hid hr
      have HA := Lib.hid hall
      clear hr hl hall
      go_enter Try.func21, Try.ntmps21
      go_wp2_with fail
      refine (places_any _ _ _ t w HRT.out (by omega)).mono ?_
      rintro e w' ⟨rfl, rfl⟩
      rw [HA.out]
      go_wp2
      go_ret2
      exact ⟨ret_ints2 HR.out, Below.refl _ _⟩
    | true =>
      have HA := Lib.hid hall
      clear hall
      by_cases hlen : (n : Int) = max 1 (x - 6 + 2)
      · have hok : blockZ (x :: t) = if x < 6 then x else if x = 6 then 6 + valZ t else if x = 7 then 21 + valZ t else 246 + valZ t := by
          rw [HZ.out, if_pos ⟨hx2.1, by omega, HA.out, by rw [show x - 4 = x - 6 + 2 from by omega]; omega⟩]
        have hvb := val_bound t HA.out (by omega)
        have HOK := Lib.hid hok
        have HVB := Lib.hid hvb
        have hneq : ((n : Int) != max 1 (x - 6 + 2)) = false := by simp; omega
        clear hok hvb hl
        by_cases hlow : x < 6
        · have hr := blk_good (xs := x :: t) (v := x) (by rw [HOK.out, if_pos hlow]) (by omega)
          have HR := Lib.hid hr
          have HLEN := Lib.hid hlen
          clear hr hlen
          go_enter Try.func21, Try.ntmps21
          go_wp2_with fail
          refine (places_any _ _ _ t w HRT.out (by omega)).mono ?_
          rintro e w' ⟨rfl, rfl⟩
          rw [HA.out]
          go_wp2
          go_ret2
          exact ⟨ret_ints2 HR.out, Below.refl _ _⟩
        · rcases (show x = 6 ∨ x = 7 ∨ x = 8 from by omega) with h | h | h
          · subst h
            have hll := HL.out
            have hvb2 := HVB.out
            have hok2 := HOK.out
            have hr := blk_good (xs := 6 :: t) (v := 6 + valZ t) (by rw [hok2]; simp) (by omega)
            have hq : ((n : Int) != 2) = false := by simp; omega
            have HR := Lib.hid hr
            have HV := Lib.hid hvb2
            have hn4 : n ≤ 4 := by omega
            clear hr hlen hll hok2 hvb2 hneq
            go_enter Try.func21, Try.ntmps21
            go_wp2_with fail
            refine (places_any _ _ _ t w HRT.out (by omega)).mono ?_
            rintro e w' ⟨rfl, rfl⟩
            rw [HA.out]
            go_wp2_with fail
            refine (wide_any w).mono ?_
            rintro e w1 ⟨rfl, h1⟩
            have c1 := (h1.cell (p := ⟨g, _, none⟩) hg).trans c0
            have HRT1 := Lib.hid ((HRT.out.below h1).more h1.size)
            clear c0
            go_wp2
            refine wp_loop_rounds 4 ?_
            rw [rounds_succ]
            go_wp2
            rw [rounds_succ]
            go_wp2
            rw [rounds_succ]
            go_wp2
            rw [rounds_succ]
            go_wp2_with fail
            refine (value_any _ _ _ t w1 HRT1.out (by omega) HA.out).mono ?_
            rintro e w2 ⟨rfl, rfl⟩
            have hvb := HV.out
            generalize valZ t = v at *
            go_wp2
            go_ret2
            exact ⟨ret_ints2 HR.out, h1⟩
          · subst h
            have hll := HL.out
            have hvb2 := HVB.out
            have hok2 := HOK.out
            have hr := blk_good (xs := 7 :: t) (v := 21 + valZ t) (by rw [hok2]; simp) (by omega)
            have hq : ((n : Int) != 3) = false := by simp; omega
            have HR := Lib.hid hr
            have HV := Lib.hid hvb2
            have hn4 : n ≤ 4 := by omega
            clear hr hlen hll hok2 hvb2 hneq
            go_enter Try.func21, Try.ntmps21
            go_wp2_with fail
            refine (places_any _ _ _ t w HRT.out (by omega)).mono ?_
            rintro e w' ⟨rfl, rfl⟩
            rw [HA.out]
            go_wp2_with fail
            refine (wide_any w).mono ?_
            rintro e w1 ⟨rfl, h1⟩
            have c1 := (h1.cell (p := ⟨g, _, none⟩) hg).trans c0
            have HRT1 := Lib.hid ((HRT.out.below h1).more h1.size)
            clear c0
            go_wp2
            refine wp_loop_rounds 4 ?_
            rw [rounds_succ]
            go_wp2
            rw [rounds_succ]
            go_wp2
            rw [rounds_succ]
            go_wp2
            rw [rounds_succ]
            go_wp2_with fail
            refine (value_any _ _ _ t w1 HRT1.out (by omega) HA.out).mono ?_
            rintro e w2 ⟨rfl, rfl⟩
            have hvb := HV.out
            generalize valZ t = v at *
            go_wp2
            go_ret2
            exact ⟨ret_ints2 HR.out, h1⟩
          · subst h
            have hll := HL.out
            have hvb2 := HVB.out
            have hok2 := HOK.out
            have hr := blk_good (xs := 8 :: t) (v := 246 + valZ t) (by rw [hok2]; simp) (by omega)
            have hq : ((n : Int) != 4) = false := by simp; omega
            have HR := Lib.hid hr
            have HV := Lib.hid hvb2
            have hn4 : n ≤ 4 := by omega
            clear hr hlen hll hok2 hvb2 hneq
            go_enter Try.func21, Try.ntmps21
            go_wp2_with fail
            refine (places_any _ _ _ t w HRT.out (by omega)).mono ?_
            rintro e w' ⟨rfl, rfl⟩
            rw [HA.out]
            go_wp2_with fail
            refine (wide_any w).mono ?_
            rintro e w1 ⟨rfl, h1⟩
            have c1 := (h1.cell (p := ⟨g, _, none⟩) hg).trans c0
            have HRT1 := Lib.hid ((HRT.out.below h1).more h1.size)
            clear c0
            go_wp2
            refine wp_loop_rounds 4 ?_
            rw [rounds_succ]
            go_wp2
            rw [rounds_succ]
            go_wp2
            rw [rounds_succ]
            go_wp2
            rw [rounds_succ]
            go_wp2_with fail
            refine (value_any _ _ _ t w1 HRT1.out (by omega) HA.out).mono ?_
            rintro e w2 ⟨rfl, rfl⟩
            have hvb := HV.out
            generalize valZ t = v at *
            go_wp2
            go_ret2
            exact ⟨ret_ints2 HR.out, h1⟩
      · have hr := HB.out (by rw [show x - 4 = x - 6 + 2 from by omega]; have := HL.out; omega)
        have HR := Lib.hid hr
        clear hr hl
        by_cases hlow : x < 6
        · have hq : ((n : Int) != 1) = true := by simp; omega
          clear hlen
          go_enter Try.func21, Try.ntmps21
          go_wp2_with fail
          refine (places_any _ _ _ t w HRT.out (by omega)).mono ?_
          rintro e w' ⟨rfl, rfl⟩
          rw [HA.out]
          go_wp2
          go_ret2
          exact ⟨ret_ints2 HR.out, Below.refl _ _⟩
        · rcases (show x = 6 ∨ x = 7 ∨ x = 8 from by omega) with h | h | h
          · subst h
            have hq : ((n : Int) != 2) = true := by simp; omega
            clear hlen
            go_enter Try.func21, Try.ntmps21
            go_wp2_with fail
            refine (places_any _ _ _ t w HRT.out (by omega)).mono ?_
            rintro e w' ⟨rfl, rfl⟩
            rw [HA.out]
            go_wp2
            go_ret2
            exact ⟨ret_ints2 HR.out, Below.refl _ _⟩
          · subst h
            have hq : ((n : Int) != 3) = true := by simp; omega
            clear hlen
            go_enter Try.func21, Try.ntmps21
            go_wp2_with fail
            refine (places_any _ _ _ t w HRT.out (by omega)).mono ?_
            rintro e w' ⟨rfl, rfl⟩
            rw [HA.out]
            go_wp2
            go_ret2
            exact ⟨ret_ints2 HR.out, Below.refl _ _⟩
          · subst h
            have hq : ((n : Int) != 4) = true := by simp; omega
            clear hlen
            go_enter Try.func21, Try.ntmps21
            go_wp2_with fail
            refine (places_any _ _ _ t w HRT.out (by omega)).mono ?_
            rintro e w' ⟨rfl, rfl⟩
            rw [HA.out]
            go_wp2
            go_ret2
            exact ⟨ret_ints2 HR.out, Below.refl _ _⟩

set_option maxHeartbeats 1000000 in
theorem Block_any (A : Option Addr) (n c : Nat) (xs : List Int) (w : World) (hx : Rd w w.heap.size 1 A n (intsV xs)) (hn : n ≤ 1000000) (hnc : n ≤ c) :
    Calls Try.prog 21 #[.slice A n c] w fun e w' => e = .returned (.tuple #[.int .i64 (blkR xs), .int .i64 (blkE xs)]) ∧ Below w.heap.size w w' := by
  have hl := hx.1
  rw [intsV_len, Nat.mul_one] at hl
  cases xs with
  | nil =>
    obtain rfl : n = 0 := by simpa using hl.symm
    have hr := blk_bad (xs := []) rfl
    have HR := Lib.hid hr
    clear hr hl hx
    go_enter Try.func21, Try.ntmps21
    go_wp2
    go_ret2
    exact ⟨ret_ints2 HR.out, Below.refl _ _⟩
  | cons x t =>
    obtain ⟨g, o, rfl, _, _⟩ := hx.2 (by rw [← hl]; simp)
    exact Block_cons g o n c x t w hx hn hnc
end Go.Proofs.Ytmladfkafbjmoaa
