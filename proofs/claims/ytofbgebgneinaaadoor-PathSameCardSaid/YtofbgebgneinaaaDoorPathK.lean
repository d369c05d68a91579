/-
  Walk: the law on parents.
-/
import Derived.Test.YtofbgebgneinaaaDoorPathJ
import Derived.Test.YtofbgebgneinaaaDoorAppB
namespace Go.Proofs.YtofbgebgneinaaaDoor
open Go.RowKit Go.Shelf
set_option linter.unusedVariables false

theorem under_self (l : List (List UInt8)) : underL l l = false := by unfold underL; rw [decide_eq_false (by omega), Bool.false_and]
theorem under_drop (l : List (List UInt8)) (h : l ≠ []) : underL l l.dropLast = true := by
  have := List.length_pos_iff.2 h
  unfold underL
  rw [decide_eq_true (by rw [List.length_dropLast]; omega), Bool.true_and, decide_eq_true_iff, List.length_dropLast, List.dropLast_eq_take]
theorem under_up (l : List (List UInt8)) : underL l.dropLast l = false := by
  unfold underL
  rw [decide_eq_false (by rw [List.length_dropLast]; omega), Bool.false_and]

set_option maxHeartbeats 4000000 in
set_option maxRecDepth 100000 in
theorem parents_11 (s t : ByteArray) (w : World) (hf : ∀ w1 : World, w1 = w → Calls Tryd.prog 7 #[.string s] w1 fun e w' => e = .returned (.string t) ∧ w = w') (ht : t.size ≤ 260) (hp : parseL (oc t) = ([], 11)) (hq : parentL (oc t) = ([], [], 11)) :
    Calls Tryd.prog 4 #[.string s] w fun e w' => e = .returned (.bool true) ∧ Below w.heap.size w w' := by
  have h1 := Parse_any t w (by omega)
  have h3 := fun w => Parent_any t w (by omega)
  unfold ParentPost at h3
  rw [hp] at h1
  simp only [hq] at h3
  have H1 := Lib.hid h1
  have H3 := Lib.hid h3
  clear h1 h3 hp hq
  go_enter Tryd.func4, Tryd.ntmps4
  go_wp2_with fail
  refine (hf w rfl).mono ?_
  rintro e w0 ⟨rfl, rfl⟩
  go_wp2_with fail
  refine H1.out.mono ?_
  rintro e w1 ⟨⟨A1, c1, rfl, _, _⟩, b1⟩
  go_wp2_with fail
  refine (H3.out w1).mono ?_
  rintro e w2 ⟨⟨A2, c2, x, rfl, hx, _, _, _⟩, e2⟩
  have b2 := b1.trans (e2.mono b1.size)
  obtain rfl : x = ⟨#[]⟩ := oc_inj hx
  clear hx
  go_wp2_with fail
  refine (awake_any w2).mono ?_
  rintro e w3 ⟨rfl, e3⟩
  go_wp2
  go_ret
  exact ⟨rfl, b2.trans (e3.mono b2.size)⟩
set_option maxHeartbeats 4000000 in
set_option maxRecDepth 100000 in
theorem parents_16 (s t : ByteArray) (w : World) (hf : ∀ w1 : World, w1 = w → Calls Tryd.prog 7 #[.string s] w1 fun e w' => e = .returned (.string t) ∧ w = w') (ht : t.size ≤ 260) (hp : parseL (oc t) = ([], 16)) (hq : parentL (oc t) = ([], [], 16)) :
    Calls Tryd.prog 4 #[.string s] w fun e w' => e = .returned (.bool true) ∧ Below w.heap.size w w' := by
  have h1 := Parse_any t w (by omega)
  have h3 := fun w => Parent_any t w (by omega)
  unfold ParentPost at h3
  rw [hp] at h1
  simp only [hq] at h3
  have H1 := Lib.hid h1
  have H3 := Lib.hid h3
  clear h1 h3 hp hq
  go_enter Tryd.func4, Tryd.ntmps4
  go_wp2_with fail
  refine (hf w rfl).mono ?_
  rintro e w0 ⟨rfl, rfl⟩
  go_wp2_with fail
  refine H1.out.mono ?_
  rintro e w1 ⟨⟨A1, c1, rfl, _, _⟩, b1⟩
  go_wp2_with fail
  refine (H3.out w1).mono ?_
  rintro e w2 ⟨⟨A2, c2, x, rfl, hx, _, _, _⟩, e2⟩
  have b2 := b1.trans (e2.mono b1.size)
  obtain rfl : x = ⟨#[]⟩ := oc_inj hx
  clear hx
  go_wp2_with fail
  refine (awake_any w2).mono ?_
  rintro e w3 ⟨rfl, e3⟩
  go_wp2
  go_ret
  exact ⟨rfl, b2.trans (e3.mono b2.size)⟩
set_option maxHeartbeats 4000000 in
set_option maxRecDepth 100000 in
theorem parents_nil (s t : ByteArray) (w : World) (hf : ∀ w1 : World, w1 = w → Calls Tryd.prog 7 #[.string s] w1 fun e w' => e = .returned (.string t) ∧ w = w') (ht : t.size ≤ 260) (hp : parseL (oc t) = ([], 0)) (hq : parentL (oc t) = ([], [], 1)) :
    Calls Tryd.prog 4 #[.string s] w fun e w' => e = .returned (.bool true) ∧ Below w.heap.size w w' := by
  have h1 := Parse_any t w (by omega)
  have h3 := fun w => Parent_any t w (by omega)
  unfold ParentPost at h3
  rw [hp] at h1
  simp only [hq] at h3
  have H1 := Lib.hid h1
  have H3 := Lib.hid h3
  clear h1 h3 hp hq
  go_enter Tryd.func4, Tryd.ntmps4
  go_wp2_with fail
  refine (hf w rfl).mono ?_
  rintro e w0 ⟨rfl, rfl⟩
  go_wp2_with fail
  refine H1.out.mono ?_
  rintro e w1 ⟨⟨A1, c1, rfl, _, _⟩, b1⟩
  go_wp2_with fail
  refine (H3.out w1).mono ?_
  rintro e w2 ⟨⟨A2, c2, x, rfl, hx, _, _, _⟩, e2⟩
  have b2 := b1.trans (e2.mono b1.size)
  obtain rfl : x = ⟨#[]⟩ := oc_inj hx
  clear hx
  go_wp2_with fail
  refine (awake_any w2).mono ?_
  rintro e w3 ⟨rfl, e3⟩
  go_wp2
  go_ret
  exact ⟨rfl, b2.trans (e3.mono b2.size)⟩
set_option maxHeartbeats 4000000 in
set_option maxRecDepth 100000 in
theorem parents_ok (s t : ByteArray) (w : World) (hf : ∀ w1 : World, w1 = w → Calls Tryd.prog 7 #[.string s] w1 fun e w' => e = .returned (.string t) ∧ w = w') (ht : t.size ≤ 260) (L : List (List UInt8)) (hL : L ≠ []) (hL8 : L.length ≤ 8) (hp : parseL (oc t) = (L, 0)) (hq : parentL (oc t) = (L.dropLast, L.getLast hL, 0)) :
    Calls Tryd.prog 4 #[.string s] w fun e w' => e = .returned (.bool true) ∧ Below w.heap.size w w' := by
  obtain ⟨i0, hi, hz0, hz1, hz2⟩ := info_parts (P := Tryd.prog) (e := 9) (z := .string ByteArray.empty) (size := 1) (bytes := 16) (by kernel_rfl)
  have h1 := Parse_any t w (by omega)
  have h3 := fun w => Parent_any t w (by omega)
  unfold ParentPost at h3
  rw [hp] at h1
  simp only [hq] at h3
  have hcat : L.dropLast ++ [L.getLast hL] = L := List.dropLast_concat_getLast hL
  have hu1 := under_drop L hL
  have hu2 := under_up L
  have hu3 := under_self L
  obtain ⟨m, hm⟩ : ∃ m, L.length = m + 1 := ⟨L.length - 1, by have := List.length_pos_iff.2 hL; omega⟩
  have hdm : L.dropLast.length = m := by rw [List.length_dropLast, hm]; rfl
  obtain ⟨D, hD⟩ : ∃ D, L.dropLast = D := ⟨_, rfl⟩
  obtain ⟨X, hX⟩ : ∃ X, L.getLast hL = X := ⟨_, rfl⟩
  simp only [hD, hX] at h3
  rw [hD, hX] at hcat
  rw [hD] at hu1 hu2 hdm
  rw [hdm] at h3
  simp only [hm] at h1
  have H1 := Lib.hid h1
  have H3 := Lib.hid h3
  have HCAT := Lib.hid hcat
  have HU1 := Lib.hid hu1
  have HU2 := Lib.hid hu2
  have HU3 := Lib.hid hu3
  have HDM := Lib.hid hdm
  have hm8 : m ≤ 7 := by omega
  clear h1 h3 hp hq hcat hu1 hu2 hu3 hdm hD hX hm hL8
  go_enter Tryd.func4, Tryd.ntmps4
  go_wp2_with fail
  refine (hf w rfl).mono ?_
  rintro e w0 ⟨rfl, rfl⟩
  go_wp2_with fail
  refine H1.out.mono ?_
  rintro e w1 ⟨⟨A1, c1, rfl, hc1, r1⟩, b1⟩
  have R1 := Lib.hid r1
  clear r1
  go_wp2_with fail
  refine (H3.out w1).mono ?_
  rintro e w2 ⟨⟨A2, c2, x, rfl, hx, hnl, hc2, r2⟩, e2⟩
  have b2 := b1.trans (e2.mono b1.size)
  have R2 := Lib.hid ((R1.out.below e2).more e2.size)
  have S2 := Lib.hid r2
  have hxs : st X = x := by rw [← hx, st_oc]
  have HXS := Lib.hid hxs
  clear r2 hx hxs
  have hnil := (OwnB.lit w2 w2.heap.size (Nat.le_refl _) 9 1 0 #[] (by simp) (by simp)).own
  have HN := Lib.hid hnil
  have HRD : Hid (Rd (w2.alloc (.cells #[] 9)) w2.heap.size 1 A2 m (strV D)) := Lib.hid (S2.out.keep (fun p hp => World.cell?_alloc_lt w2 _ p hp))
  have HS1 := Lib.hid (strV_one D)
  have HNL := Lib.hid hnl
  have HSX : Hid (strV D ++ [.string x] = strV L) := Lib.hid (by rw [← HCAT.out, strV_snoc, HXS.out])
  have d2 : Below w2.heap.size w2 (w2.alloc (.cells #[] 9)) := (Below.refl _ _).alloc (Nat.le_refl _) _
  clear hnil hnl
  go_wp2_with (at_builtin; refine wpList_append_rd rfl (.tmp 54) (.tmp 55) 23 rfl w2.heap.size 9 i0 (.string ByteArray.empty) 1 16 Tryd.underlying23 hi hz0 hz1 hz2 rfl (by decide) _ _ _ rfl HN.out A2 m c2 w2.heap.size (strV D) (by rfl) HNL.out HRD.out HS1.out (by unfold maxLen; omega) (by omega) (by simp) ?_)
  intro v3 w3 hown3 e3
  have d3 := d2.trans e3
  have b3 := b2.trans (d3.mono b2.size)
  have HO3 := Lib.hid hown3
  clear hown3
  go_wp2_with (at_builtin; refine wpList_append_own_g rfl (.tmp 56) (.tmp 58) 23 rfl w2.heap.size 9 i0 (.string ByteArray.empty) 1 16 Tryd.underlying23 hi hz0 hz1 hz2 rfl (by decide) _ _ _ rfl (HO3.out.alloc _) ⟨w3.heap.size, 0, none⟩ 1 1 [.string x] (by rfl) (by rfl) (fun j u hj => new_cells w3 _ _ _ rfl j u hj) (one_cell rfl) (by unfold maxLen; omega) (by omega) (base_alloc d3.size _) ?_)
  intro v4 w4 hown4 hgrow4
  have d4 := (d3.alloc d3.size (.cells #[.string x] 9)).grown hgrow4 (base_alloc d3.size _) (fun k hk => (HO3.out.lt k hk).1)
  have b4 := b2.trans (d4.mono b2.size)
  have ho4 : w4.ownsRow w2.heap.size 9 1 v4 (m + 1) (strV L) := by
    rw [← HSX.out]; exact hown4
  obtain ⟨A4, c4, rfl, hc4, _, r4⟩ := own_form ho4
  have R4 := Lib.hid ((R2.out.below d4).more d4.size)
  have S4 := Lib.hid ((S2.out.below d4).more d4.size)
  have T4 := Lib.hid r4
  clear hown4 hgrow4 ho4 r4
  go_wp2_with fail
  refine (rSame_yes _ _ (m + 1) _ (m + 1) _ L w4 T4.out R4.out (by omega) (by omega)).mono ?_
  rintro e w5 ⟨rfl, e5⟩
  have b5 := b4.trans (e5.mono b4.size)
  have R5 := Lib.hid ((R4.out.below e5).more e5.size)
  have S5 := Lib.hid ((S4.out.below e5).more e5.size)
  go_wp2_with fail
  refine (Under_any A1 A2 (m + 1) c1 m c2 L D w5 R5.out S5.out (by omega) (by omega) hc1).mono ?_
  rintro e w6 ⟨rfl, e6⟩
  rw [HU1.out]
  have b6 := b5.trans (e6.mono b5.size)
  have R6 := Lib.hid ((R5.out.below e6).more e6.size)
  have S6 := Lib.hid ((S5.out.below e6).more e6.size)
  go_wp2_with fail
  refine (Under_any A2 A1 m c2 (m + 1) c1 D L w6 S6.out R6.out (by omega) (by omega) hc2).mono ?_
  rintro e w7 ⟨rfl, e7⟩
  rw [HU2.out]
  have b7 := b6.trans (e7.mono b6.size)
  have R7 := Lib.hid ((R6.out.below e7).more e7.size)
  go_wp2_with fail
  refine (Under_any A1 A1 (m + 1) c1 (m + 1) c1 L L w7 R7.out R7.out (by omega) (by omega) hc1).mono ?_
  rintro e w8 ⟨rfl, e8⟩
  rw [HU3.out]
  have b8 := b7.trans (e8.mono b7.size)
  go_wp2_with fail
  refine (awake_any w8).mono ?_
  rintro e w9 ⟨rfl, e9⟩
  have b9 := b8.trans (e9.mono b8.size)
  go_wp2
  go_ret
  exact ⟨rfl, b9⟩

theorem few_is (s : ByteArray) (hs : s.size ≤ maxLen) (w : World) : ∃ t, t.size ≤ 260 ∧ ∀ w1 : World, w1 = w → Calls Tryd.prog 7 #[.string s] w1 fun e w' => e = .returned (.string t) ∧ w = w' := by
  unfold maxLen at hs
  by_cases h : s.size ≤ 260
  · refine ⟨s, h, ?_⟩
    rintro w1 rfl
    go_enter Tryd.func7, Tryd.ntmps7
    go_wp2
    go_ret
    exact ⟨rfl, rfl⟩
  · refine ⟨s.extract 0 260, by rw [ByteArray.size_extract]; omega, ?_⟩
    rintro w1 rfl
    go_enter Tryd.func7, Tryd.ntmps7
    go_wp2
    go_ret
    exact ⟨rfl, rfl⟩

theorem parents_law (s : ByteArray) (w : World) (hs : s.size ≤ maxLen) :
    Calls Tryd.prog 4 #[.string s] w fun e w' => e = .returned (.bool true) ∧ Below w.heap.size w w' := by
  obtain ⟨t, ht, hf⟩ := few_is s hs w
  obtain ⟨hf1, hf2, hf3, hf4⟩ := parse_form (oc t)
  have pe : parseL (oc t) = ((parseL (oc t)).1, (parseL (oc t)).2) := rfl
  rcases hf1 with h0 | h0 | h0
  · by_cases hnil : (parseL (oc t)).1 = []
    · exact parents_nil s t w hf ht (by rw [pe, hnil, h0]) (by unfold parentL; rw [if_neg (by rw [h0]; simp), if_pos hnil])
    · refine parents_ok s t w hf ht (parseL (oc t)).1 hnil hf4 (by rw [← h0]) ?_
      unfold parentL
      rw [if_neg (by rw [h0]; simp), if_neg hnil, List.getLastD_eq_getLast?, List.getLast?_eq_some_getLast hnil]; rfl
  · have h1 := hf2 (by rw [h0]; decide)
    exact parents_11 s t w hf ht (by rw [pe, h1, h0]) (by unfold parentL; rw [if_pos (by rw [h0]; decide), h0])
  · have h1 := hf2 (by rw [h0]; decide)
    exact parents_16 s t w hf ht (by rw [pe, h1, h0]) (by unfold parentL; rw [if_pos (by rw [h0]; decide), h0])
end Go.Proofs.YtofbgebgneinaaaDoor
