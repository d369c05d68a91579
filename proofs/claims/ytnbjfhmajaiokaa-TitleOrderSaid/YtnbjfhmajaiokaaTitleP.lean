/-
  Walks: the laws of titles, more.
-/
import Derived.Test.YtnbjfhmajaiokaaTitleO
namespace Go.Proofs.Ytnbjfhmajaiokaa
open Go.RowKit

set_option maxHeartbeats 1000000 in
theorem order_law (a b c : ByteArray) (w : World) :
    Calls Try.prog 4 #[.string a, .string b, .string c] w fun e w' => e = .returned (.bool true) ∧ Below w.heap.size w w' := by
  have ha := fewS_size a
  have hb := fewS_size b
  have hc := fewS_size c
  have hr : ∀ s t : ByteArray, cmpL (oc s) (oc t) = -1 ∨ cmpL (oc s) (oc t) = 0 ∨ cmpL (oc s) (oc t) = 1 := fun s t => cmpL_range _ _
  have hneg : ∀ s t : ByteArray, cmpL (oc t) (oc s) = - cmpL (oc s) (oc t) := fun s t => cmpL_neg _ _
  have hz : ∀ s t : ByteArray, (s.toList == t.toList) = decide (cmpL (oc s) (oc t) = 0) := fun s t => by
    rw [toList_oc, toList_oc, beq_dec]; exact decide_eq_decide.2 (cmpL_zero _ _).symm
  have htr : ∀ s t u : ByteArray, 0 < cmpL (oc s) (oc t) ∨ 0 < cmpL (oc t) (oc u) ∨ cmpL (oc s) (oc u) ≤ 0 := fun s t u => by
    have := cmpL_trans (oc s) (oc t) (oc u); omega
  have HR := Lib.hid hr
  have HN := Lib.hid hneg
  have HZ := Lib.hid hz
  have HT := Lib.hid htr
  clear hr hneg hz htr
  go_enter Try.func4, Try.ntmps4
  go_wp2_with fail
  refine (few_any a w).mono ?_
  rintro e w0 ⟨rfl, rfl⟩
  generalize fewS a = s at *
  go_wp2_with fail
  refine (few_any b w).mono ?_
  rintro e w0 ⟨rfl, rfl⟩
  generalize fewS b = t at *
  go_wp2_with fail
  refine (few_any c w).mono ?_
  rintro e w0 ⟨rfl, rfl⟩
  generalize fewS c = u at *
  go_wp2_with fail
  refine (Order_any s t w).mono ?_
  rintro e w0 ⟨rfl, rfl⟩
  go_wp2_with fail
  refine (Order_any t u w).mono ?_
  rintro e w0 ⟨rfl, rfl⟩
  go_wp2_with fail
  refine (Order_any s u w).mono ?_
  rintro e w0 ⟨rfl, rfl⟩
  have r1 := HR.out s t
  have r4 := HN.out s t
  have r5 := HZ.out s t
  have r6 := HT.out s t u
  have R4 := Lib.hid r4
  generalize cmpL (oc s) (oc t) = x at *
  generalize cmpL (oc t) (oc u) = y at *
  generalize cmpL (oc s) (oc u) = z at *
  clear r4
  rcases r1 with rfl | rfl | rfl
  · have r7 : (s.toList == t.toList) = false := by rw [r5]; decide
    have R7 := Lib.hid r7
    clear r5 r7
    go_wp2_with fail
    refine (Order_any t s w).mono ?_
    rintro e w0 ⟨rfl, rfl⟩
    rw [R4.out]
    have r7 := R7.out
    by_cases hy : 0 < y
    · go_wp2_with fail
      refine (awake_any w).mono ?_
      rintro e w1 ⟨rfl, h1⟩
      go_wp2
      go_ret
      exact ⟨rfl, h1⟩
    · have hz' : z ≤ 0 := by omega
      go_wp2_with fail
      refine (awake_any w).mono ?_
      rintro e w1 ⟨rfl, h1⟩
      go_wp2
      go_ret
      exact ⟨rfl, h1⟩
  · have r7 : (s.toList == t.toList) = true := by rw [r5]; decide
    have R7 := Lib.hid r7
    clear r5 r7
    go_wp2_with fail
    refine (Order_any t s w).mono ?_
    rintro e w0 ⟨rfl, rfl⟩
    rw [R4.out]
    have r7 := R7.out
    by_cases hy : 0 < y
    · go_wp2_with fail
      refine (awake_any w).mono ?_
      rintro e w1 ⟨rfl, h1⟩
      go_wp2
      go_ret
      exact ⟨rfl, h1⟩
    · have hz' : z ≤ 0 := by omega
      go_wp2_with fail
      refine (awake_any w).mono ?_
      rintro e w1 ⟨rfl, h1⟩
      go_wp2
      go_ret
      exact ⟨rfl, h1⟩
  · have r7 : (s.toList == t.toList) = false := by rw [r5]; decide
    have R7 := Lib.hid r7
    clear r5 r7
    go_wp2_with fail
    refine (Order_any t s w).mono ?_
    rintro e w0 ⟨rfl, rfl⟩
    rw [R4.out]
    have r7 := R7.out
    go_wp2_with fail
    refine (awake_any w).mono ?_
    rintro e w1 ⟨rfl, h1⟩
    go_wp2
    go_ret
    exact ⟨rfl, h1⟩

set_option maxHeartbeats 4000000 in
theorem whole_law (s : ByteArray) (n : Nat) (hn : n < 256) (w : World) :
    Calls Try.prog 7 #[.string s, .int .u8 n] w fun e w' => e = .returned (.bool true) ∧ Below w.heap.size w w' := by
  have hs := fewS_size s
  go_enter Try.func7, Try.ntmps7
  go_wp2_with fail
  refine (few_any s w).mono ?_
  rintro e w0 ⟨rfl, rfl⟩
  generalize fewS s = t at *
  go_wp2_with fail
  refine (Fit_any t w (by omega)).mono ?_
  rintro e w1 ⟨rfl, h1⟩
  have q1 := fit_is (oc t)
  have q2 := fit_fit (oc t)
  have q3 := fit_name (oc t)
  have q5 : (fitL (oc t)).length ≤ 24 := ((isName_iff _).1 q1).2.1
  rw [← oc_st (fitL (oc t))] at q1 q2 q5
  rw [oc_len] at q5
  generalize hq : st (fitL (oc t)) = q at *
  have q4 : st (fitL (oc q)) = q := by rw [q2, st_oc]
  have HQ := Lib.hid hq
  have Q1 := Lib.hid q1
  have Q4 := Lib.hid q4
  have Q3 := Lib.hid q3
  clear hq q1 q2 q3 q4
  go_wp2_with fail
  refine (Is_any q w1 (by omega)).mono ?_
  rintro e w2 ⟨rfl, h2⟩
  have b2 := h1.trans (h2.mono h1.size)
  rw [Q1.out]
  go_wp2_with fail
  refine (Fit_any q w2 (by omega)).mono ?_
  rintro e w3 ⟨rfl, h3⟩
  have b3 := b2.trans (h3.mono b2.size)
  rw [Q4.out]
  go_wp2_with fail
  refine (Is_any t w3 (by omega)).mono ?_
  rintro e w4 ⟨rfl, h4⟩
  have b4 := b3.trans (h4.mono b3.size)
  have hQ : isName (oc t) = true → q = t := fun h => by rw [← HQ.out, Q3.out h, st_oc]
  have HQQ := Lib.hid hQ
  have g1 := head_len (oc t) n
  have g2 := head_take (oc t) n
  have g3 := head_count (oc t) n
  have g4 := head_strays (oc t) n
  have g5 := counts (oc t)
  have g6 := runes_len_le (oc t)
  rw [oc_len] at g1 g6
  have hst : (st (headL (oc t) n)).size = (headL (oc t) n).length := st_size _
  have hex : t.extract 0 (headL (oc t) n).length = st (headL (oc t) n) := oc_inj (by rw [oc_extract, oc_st]; simp [g2])
  have hoc := oc_st (headL (oc t) n)
  have HW := Lib.hid g3
  have HS := Lib.hid g4
  have HC := Lib.hid g5
  have HX := Lib.hid hex
  have HO := Lib.hid hoc
  have HSZ := Lib.hid hst
  clear hQ g2 g3 g4 g5 hex hoc hst
  cases hnm : isName (oc t) with
  | true =>
    have hqt := HQQ.out hnm
    subst hqt
    go_wp2_with fail
    refine (Head_any q n w4 (by omega) (by omega)).mono ?_
    rintro e w5 ⟨rfl, h5⟩
    have b5 := b4.trans (h5.mono b4.size)
    rw [Int.toNat_natCast]
    generalize headL (oc q) n = hl at *
    generalize st hl = hh at *
    have hhs : hh.size ≤ 200 := by have := HSZ.out; omega
    go_wp2_with fail
    refine (Count_any q w5 (by omega)).mono ?_
    rintro e w6 ⟨rfl, h6⟩
    have b6 := b5.trans (h6.mono b5.size)
    go_wp2_with fail
    refine (Count_any hh w6 (by omega)).mono ?_
    rintro e w7 ⟨rfl, h7⟩
    have b7 := b6.trans (h7.mono b6.size)
    rw [HO.out]
    have hw := HW.out
    have hs2 := HS.out
    generalize wholes (oc q) = wh at *
    generalize strays (oc q) = sr at *
    generalize wholes hl = ch at *
    generalize strays hl = dh at *
    have hcc := HC.out
    have hx := HX.out
    have hz := HSZ.out
    rw [← hz] at hx g1
    have HX2 := Lib.hid hx
    clear hz
    have hwr : ((wh : Int) + (sr : Int)) ≤ 1000 := by omega
    by_cases hgt : wh + sr < n
    all_goals
      have hsum : (((ch : Int) + (dh : Int)) == (if wh + sr < n then (wh : Int) + (sr : Int) else (n : Int))) = true := by
        simp only [beq_iff_eq]; split <;> omega
      simp only [hgt, if_true, if_false] at hsum
      have HSUM := Lib.hid hsum
      by_cases hsr : 0 < sr
      · have hsr' : (0 : Int) < (sr : Int) := by omega
        have hx := HX2.out
        have hsum2 := HSUM.out
        clear hsum hcc
        go_wp2_with fail
        refine (awake_any w7).mono ?_
        rintro e w8 ⟨rfl, h8⟩
        go_wp2
        go_ret
        exact ⟨rfl, b7.trans (h8.mono b7.size)⟩
      · have hd0 : ((dh : Int) == 0) = true := by simp only [beq_iff_eq]; omega
        have hsr' : ¬ (0 : Int) < (sr : Int) := by omega
        have hx := HX2.out
        have hsum2 := HSUM.out
        clear hsum hcc
        go_wp2_with fail
        refine (awake_any w7).mono ?_
        rintro e w8 ⟨rfl, h8⟩
        go_wp2
        go_ret
        exact ⟨rfl, b7.trans (h8.mono b7.size)⟩
  | false =>
    go_wp2_with fail
    refine (Head_any t n w4 (by omega) (by omega)).mono ?_
    rintro e w5 ⟨rfl, h5⟩
    have b5 := b4.trans (h5.mono b4.size)
    rw [Int.toNat_natCast]
    generalize headL (oc t) n = hl at *
    generalize st hl = hh at *
    have hhs : hh.size ≤ 200 := by have := HSZ.out; omega
    go_wp2_with fail
    refine (Count_any t w5 (by omega)).mono ?_
    rintro e w6 ⟨rfl, h6⟩
    have b6 := b5.trans (h6.mono b5.size)
    go_wp2_with fail
    refine (Count_any hh w6 (by omega)).mono ?_
    rintro e w7 ⟨rfl, h7⟩
    have b7 := b6.trans (h7.mono b6.size)
    rw [HO.out]
    have hw := HW.out
    have hs2 := HS.out
    generalize wholes (oc t) = wh at *
    generalize strays (oc t) = sr at *
    generalize wholes hl = ch at *
    generalize strays hl = dh at *
    have hcc := HC.out
    have hx := HX.out
    have hz := HSZ.out
    rw [← hz] at hx g1
    have HX2 := Lib.hid hx
    clear hz
    have hwr : ((wh : Int) + (sr : Int)) ≤ 1000 := by omega
    by_cases hgt : wh + sr < n
    all_goals
      have hsum : (((ch : Int) + (dh : Int)) == (if wh + sr < n then (wh : Int) + (sr : Int) else (n : Int))) = true := by
        simp only [beq_iff_eq]; split <;> omega
      simp only [hgt, if_true, if_false] at hsum
      have HSUM := Lib.hid hsum
      by_cases hsr : 0 < sr
      · have hsr' : (0 : Int) < (sr : Int) := by omega
        have hx := HX2.out
        have hsum2 := HSUM.out
        clear hsum hcc
        go_wp2_with fail
        refine (awake_any w7).mono ?_
        rintro e w8 ⟨rfl, h8⟩
        go_wp2
        go_ret
        exact ⟨rfl, b7.trans (h8.mono b7.size)⟩
      · have hd0 : ((dh : Int) == 0) = true := by simp only [beq_iff_eq]; omega
        have hsr' : ¬ (0 : Int) < (sr : Int) := by omega
        have hx := HX2.out
        have hsum2 := HSUM.out
        clear hsum hcc
        go_wp2_with fail
        refine (awake_any w7).mono ?_
        rintro e w8 ⟨rfl, h8⟩
        go_wp2
        go_ret
        exact ⟨rfl, b7.trans (h8.mono b7.size)⟩

end Go.Proofs.Ytnbjfhmajaiokaa
