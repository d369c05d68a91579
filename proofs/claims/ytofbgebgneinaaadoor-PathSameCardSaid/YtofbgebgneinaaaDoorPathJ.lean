/-
  Walks: the reference's parent; the examples; the law on where paths lead.
-/
import Derived.Test.YtofbgebgneinaaaDoorPathI
namespace Go.Proofs.YtofbgebgneinaaaDoor
open Go.RowKit Go.Shelf
set_option linter.unusedVariables false

set_option maxHeartbeats 4000000 in
set_option maxRecDepth 100000 in
theorem rParent_any (s : ByteArray) (w : World) (hs : s.size ≤ 1000000) :
    Calls Tryd.prog 11 #[.string s] w (ParentPost (oc s) w) := by
  obtain ⟨hf1, hf2, hf3, hf4⟩ := parse_form (oc s)
  have hP := rParse_any s w hs
  unfold ReadPost at hP
  by_cases h0 : (parseL (oc s)).2 ≠ 0
  · have e1 := hf2 h0
    have e2 : parentL (oc s) = ([], [], (parseL (oc s)).2) := by unfold parentL; rw [if_pos h0]
    unfold ParentPost
    rw [e2]
    rw [e1] at hP
    obtain ⟨q, hq⟩ : ∃ q, (parseL (oc s)).2 = q := ⟨_, rfl⟩
    rw [hq] at hP hf1 h0 ⊢
    have HP := Lib.hid hP
    clear hP hf2 hf3 hf4 e1 e2 hq
    go_enter Tryd.func11, Tryd.ntmps11
    go_wp2_with fail
    refine HP.out.mono ?_
    rintro e w1 ⟨⟨A, c, rfl, hc, _⟩, hb⟩
    rcases hf1 with rfl | rfl | rfl
    · exact absurd rfl h0
    · go_wp2
      refine bodyPost_ret (v := .tuple #[.slice none 0 0, .string ⟨#[]⟩, .int .i64 11]) (by simp [results, Tryd.results11, go_sem]) rfl ?_
      exact ⟨⟨none, 0, _, rfl, rfl, (fun _ => rfl), Nat.le_refl _, Rd.nil⟩, hb⟩
    · go_wp2
      refine bodyPost_ret (v := .tuple #[.slice none 0 0, .string ⟨#[]⟩, .int .i64 16]) (by simp [results, Tryd.results11, go_sem]) rfl ?_
      exact ⟨⟨none, 0, _, rfl, rfl, (fun _ => rfl), Nat.le_refl _, Rd.nil⟩, hb⟩
  · have h0 : (parseL (oc s)).2 = 0 := by omega
    by_cases hnil : (parseL (oc s)).1 = []
    · have e2 : parentL (oc s) = ([], [], 1) := by unfold parentL; rw [if_neg (by rw [h0]; simp), if_pos hnil]
      unfold ParentPost
      rw [e2]
      rw [hnil, h0] at hP
      have HP := Lib.hid hP
      clear hP hf1 hf2 hf3 hf4 e2 hnil h0
      go_enter Tryd.func11, Tryd.ntmps11
      go_wp2_with fail
      refine HP.out.mono ?_
      rintro e w1 ⟨⟨A, c, rfl, hc, _⟩, hb⟩
      go_wp2
      refine bodyPost_ret (v := .tuple #[.slice none 0 0, .string ⟨#[]⟩, .int .i64 1]) (by simp [results, Tryd.results11, go_sem]) rfl ?_
      exact ⟨⟨none, 0, _, rfl, rfl, (fun _ => rfl), Nat.le_refl _, Rd.nil⟩, hb⟩
    · have e2 : parentL (oc s) = ((parseL (oc s)).1.dropLast, (parseL (oc s)).1.getLastD [], 0) := by unfold parentL; rw [if_neg (by rw [h0]; simp), if_neg hnil]
      unfold ParentPost
      rw [e2]
      rw [h0] at hP
      obtain ⟨L, hL⟩ : ∃ L, (parseL (oc s)).1 = L := ⟨_, rfl⟩
      rw [hL] at hP hnil hf4 ⊢
      obtain ⟨m, hm⟩ : ∃ m, L.length = m + 1 := ⟨L.length - 1, by have := List.length_pos_iff.2 hnil; omega⟩
      rw [hm] at hP
      have hdl : L.dropLast.length = m := by rw [List.length_dropLast, hm]; rfl
      have hdt : L.dropLast = L.take m := by rw [List.dropLast_eq_take, hm]; rfl
      have hgl : L[m]? = some (L.getLastD []) := by
        rw [List.getLastD_eq_getLast?, List.getLast?_eq_getElem?, hm, Nat.add_sub_cancel, List.getElem?_eq_getElem (by omega)]; rfl
      rw [hdl]
      have HD := Lib.hid hdt
      have HG := Lib.hid hgl
      have HP := Lib.hid hP
      have hmb : m ≤ 7 := by omega
      clear hP hf1 hf2 hf3 hf4 e2 hnil h0 hL hm hdl hdt hgl
      go_enter Tryd.func11, Tryd.ntmps11
      go_wp2_with fail
      refine HP.out.mono ?_
      rintro e w1 ⟨⟨A, c, rfl, hc, hr⟩, hb⟩
      obtain ⟨g, o, x, rfl, hg, hx, hcell⟩ := str_at hr (show m < m + 1 by omega)
      have hxx : x = L.getLastD [] := by have := HG.out; rw [hx] at this; exact Option.some.inj this
      have HX := Lib.hid hxx
      have HR := Lib.hid (rd_takeS hr (show m ≤ m + 1 by omega))
      clear hx hr hxx
      go_wp2
      have i1 : (m : Int) ≤ (c : Int) := by omega
      have i2 : (m : Int) < (m : Int) + 1 := by omega
      have i3 : (0 : Int) ≤ (m : Int) := by omega
      have i4 : m ≤ c := by omega
      have i5 : IntKind.i64.wrap (m : Int) = (m : Int) := wrap_id (by omega) (by omega)
      go_quiet (fail)
      go_wp2
      refine bodyPost_ret (v := .tuple #[.slice (some ⟨g, o, none⟩) m c, .string (st x), .int .i64 0]) (by simp [results, Tryd.results11, go_sem]) rfl ?_
      exact ⟨⟨_, c, _, rfl, by rw [oc_st, HX.out], (fun h => by cases h), by omega, by rw [HD.out]; exact HR.out⟩, below_drewN hb _⟩

theorem rSame_yes (A A' : Option Addr) (n c n' c' : Nat) (a : List (List UInt8)) (w : World) (ha : Rd w w.heap.size 1 A n (strV a)) (hb : Rd w w.heap.size 1 A' n' (strV a)) (hn : n ≤ 100000) (hn' : n' ≤ 100000) :
    Calls Tryd.prog 12 #[.slice A n c, .slice A' n' c'] w fun e w' => e = .returned (.bool true) ∧ Below w.heap.size w w' := by
  have := rSame_any A A' n c n' c' a a w ha hb hn hn'
  rw [decide_eq_true rfl] at this
  exact this
theorem few_any (s : ByteArray) (w : World) (hs : s.size ≤ maxLen) :
    Calls Tryd.prog 7 #[.string s] w fun e w' => (∃ t, e = .returned (.string t) ∧ t.size ≤ 260) ∧ w = w' := by
  unfold maxLen at hs
  by_cases h : s.size ≤ 260
  · go_enter Tryd.func7, Tryd.ntmps7
    go_wp2
    go_ret
    exact ⟨⟨s, rfl, h⟩, rfl⟩
  · go_enter Tryd.func7, Tryd.ntmps7
    go_wp2
    go_ret
    exact ⟨⟨s.extract 0 260, rfl, by rw [ByteArray.size_extract]; omega⟩, rfl⟩

theorem litS_rd (w : World) (cs : Array Value) (l : List (List UInt8)) (h : cs.toList = strV l) (hm : l.length ≤ 1000) : Rd (w.alloc (.cells cs 9)) (w.alloc (.cells cs 9)).heap.size 1 (some ⟨w.heap.size, 0, none⟩) l.length (strV l) := by
  have := (OwnB.lit w w.heap.size (Nat.le_refl _) 9 1 l.length cs (by rw [Nat.mul_one, ← strV_len l, ← h]; simp) (by unfold maxLen; omega)).rd
  rw [h] at this
  exact this

theorem ex1 (w : World) :
    Calls Tryd.prog 8 #[.string ⟨#[47, 97, 47, 47, 46, 47, 98, 47, 46, 46, 47, 99]⟩] w fun e w' => (∃ A c, e = .returned (.tuple #[.slice A 2 c, .int .i64 0]) ∧ Rd w' w'.heap.size 1 A 2 (strV [[97], [99]])) ∧ Below w.heap.size w w' := by
  have h := Parse_any ⟨#[47, 97, 47, 47, 46, 47, 98, 47, 46, 46, 47, 99]⟩ w (by decide)
  rw [show parseL (oc ⟨#[47, 97, 47, 47, 46, 47, 98, 47, 46, 46, 47, 99]⟩) = ([[97], [99]], 0) from by decide +kernel] at h
  exact h.mono fun e w' ⟨⟨A, c, he, _, hr⟩, hb⟩ => ⟨⟨A, c, he, hr⟩, hb⟩
theorem ex2 (w : World) :
    Calls Tryd.prog 8 #[.string ⟨#[97]⟩] w fun e w' => (∃ A c, e = .returned (.tuple #[.slice A 0 c, .int .i64 11]) ∧ Rd w' w'.heap.size 1 A 0 (strV [])) ∧ Below w.heap.size w w' := by
  have h := Parse_any ⟨#[97]⟩ w (by decide)
  rw [show parseL (oc ⟨#[97]⟩) = ([], 11) from by decide +kernel] at h
  exact h.mono fun e w' ⟨⟨A, c, he, _, hr⟩, hb⟩ => ⟨⟨A, c, he, hr⟩, hb⟩
theorem ex3 (w : World) :
    Calls Tryd.prog 10 #[.string ⟨#[47, 97, 47, 98]⟩] w fun e w' => (∃ A c, e = .returned (.tuple #[.slice A 1 c, .string ⟨#[98]⟩, .int .i64 0]) ∧ Rd w' w'.heap.size 1 A 1 (strV [[97]])) ∧ Below w.heap.size w w' := by
  have h := Parent_any ⟨#[47, 97, 47, 98]⟩ w (by decide)
  unfold ParentPost at h
  rw [show parentL (oc ⟨#[47, 97, 47, 98]⟩) = ([[97]], [98], 0) from by decide +kernel] at h
  refine h.mono ?_
  rintro e w' ⟨⟨A, c, x, he, hx, _, _, hr⟩, hb⟩
  have hxx : x = ⟨#[98]⟩ := oc_inj hx
  subst hxx
  exact ⟨⟨A, c, he, hr⟩, hb⟩
theorem ex4 (w : World) :
    Calls Tryd.prog 10 #[.string ⟨#[47]⟩] w fun e w' => (∃ A c, e = .returned (.tuple #[.slice A 0 c, .string ⟨#[]⟩, .int .i64 1]) ∧ Rd w' w'.heap.size 1 A 0 (strV [])) ∧ Below w.heap.size w w' := by
  have h := Parent_any ⟨#[47]⟩ w (by decide)
  unfold ParentPost at h
  rw [show parentL (oc ⟨#[47]⟩) = ([], [], 1) from by decide +kernel] at h
  refine h.mono ?_
  rintro e w' ⟨⟨A, c, x, he, hx, _, _, hr⟩, hb⟩
  have hxx : x = ⟨#[]⟩ := oc_inj hx
  subst hxx
  exact ⟨⟨A, c, he, hr⟩, hb⟩

set_option maxHeartbeats 2000000 in
set_option maxRecDepth 100000 in
theorem awake_any (w : World) : Calls Tryd.prog 13 #[] w fun e w' => e = .returned (.bool true) ∧ Below w.heap.size w w' := by
  go_enter Tryd.func13, Tryd.ntmps13
  go_wp2_with fail
  refine (ex1 w).mono ?_
  rintro e w1 ⟨⟨A1, c1, rfl, r1⟩, b1⟩
  have R1 := Lib.hid r1
  clear r1
  go_wp2_with fail
  refine (ex2 w1).mono ?_
  rintro e w2 ⟨⟨A2, c2, rfl, _⟩, e2⟩
  have b2 := b1.trans (e2.mono b1.size)
  have R2 := Lib.hid ((R1.out.below e2).more e2.size)
  go_wp2_with fail
  refine (ex3 w2).mono ?_
  rintro e w3 ⟨⟨A3, c3, rfl, r3⟩, e3⟩
  have b3 := b2.trans (e3.mono b2.size)
  have R3 := Lib.hid ((R2.out.below e3).more e3.size)
  have S3 := Lib.hid r3
  clear r3
  go_wp2_with fail
  refine (ex4 w3).mono ?_
  rintro e w4 ⟨⟨A4, c4, rfl, _⟩, e4⟩
  have b4 := b3.trans (e4.mono b3.size)
  have R4 := Lib.hid ((R3.out.below e4).more e4.size)
  have S4 := Lib.hid ((S3.out.below e4).more e4.size)
  have HL := Lib.hid (litS_rd w4 #[.string ⟨#[97]⟩, .string ⟨#[99]⟩] [[97], [99]] rfl (by decide))
  have d4 : Below w4.heap.size w4 (w4.alloc (.cells #[.string ⟨#[97]⟩, .string ⟨#[99]⟩] 9)) := (Below.refl _ _).alloc (Nat.le_refl _) _
  have b4' := b4.trans (d4.mono b4.size)
  have R4' := Lib.hid ((R4.out.below d4).more d4.size)
  have S4' := Lib.hid ((S4.out.below d4).more d4.size)
  clear d4
  go_wp2_with fail
  refine (rSame_yes _ _ 2 _ 2 _ [[97], [99]] _ R4'.out HL.out (by omega) (by omega)).mono ?_
  rintro e w5 ⟨rfl, e5⟩
  have b5 := b4'.trans (e5.mono b4'.size)
  have S5 := Lib.hid ((S4'.out.below e5).more e5.size)
  have HL2 := Lib.hid (litS_rd w5 #[.string ⟨#[97]⟩] [[97]] rfl (by decide))
  have d5 : Below w5.heap.size w5 (w5.alloc (.cells #[.string ⟨#[97]⟩] 9)) := (Below.refl _ _).alloc (Nat.le_refl _) _
  have b5' := b5.trans (d5.mono b5.size)
  have S5' := Lib.hid ((S5.out.below d5).more d5.size)
  clear d5
  go_wp2_with fail
  refine (rSame_yes _ _ 1 _ 1 _ [[97]] _ S5'.out HL2.out (by omega) (by omega)).mono ?_
  rintro e w6 ⟨rfl, e6⟩
  have b6 := b5'.trans (e6.mono b5'.size)
  go_wp2
  go_ret
  exact ⟨rfl, b6⟩

theorem parent_len (l : List UInt8) : (parentL l).1.length ≤ 8 ∧ ((parentL l).2.2 = 0 ∨ (parentL l).2.2 = 1 ∨ (parentL l).2.2 = 11 ∨ (parentL l).2.2 = 16) := by
  obtain ⟨h1, h2, h3, h4⟩ := parse_form l
  unfold parentL
  by_cases h0 : (parseL l).2 ≠ 0
  · rw [if_pos h0]; exact ⟨Nat.zero_le _, by show (parseL l).2 = 0 ∨ (parseL l).2 = 1 ∨ (parseL l).2 = 11 ∨ (parseL l).2 = 16; omega⟩
  · rw [if_neg h0]
    split
    · exact ⟨Nat.zero_le _, .inr (.inl rfl)⟩
    · exact ⟨by show (parseL l).1.dropLast.length ≤ 8; rw [List.length_dropLast]; omega, .inl rfl⟩

set_option maxHeartbeats 4000000 in
set_option maxRecDepth 100000 in
theorem parses_law (s : ByteArray) (w : World) (hs : s.size ≤ maxLen) :
    Calls Tryd.prog 3 #[.string s] w fun e w' => e = .returned (.bool true) ∧ Below w.heap.size w w' := by
  go_enter Tryd.func3, Tryd.ntmps3
  go_wp2_with fail
  refine (few_any s w hs).mono ?_
  rintro e w0 ⟨⟨t, rfl, ht⟩, rfl⟩
  obtain ⟨hf1, _, _, hf4⟩ := parse_form (oc t)
  obtain ⟨hp8, hpe⟩ := parent_len (oc t)
  have h1 := Parse_any t w (by omega)
  have h2 := fun w => rParse_any t w (by omega)
  have h3 := fun w => Parent_any t w (by omega)
  have h4 := fun w => rParent_any t w (by omega)
  unfold ReadPost at h2
  unfold ParentPost at h3 h4
  obtain ⟨L, hL⟩ : ∃ L, (parseL (oc t)).1 = L := ⟨_, rfl⟩
  obtain ⟨E, hE⟩ : ∃ E, (parseL (oc t)).2 = E := ⟨_, rfl⟩
  obtain ⟨M, hM⟩ : ∃ M, (parentL (oc t)).1 = M := ⟨_, rfl⟩
  obtain ⟨X, hX⟩ : ∃ X, (parentL (oc t)).2.1 = X := ⟨_, rfl⟩
  obtain ⟨G, hG⟩ : ∃ G, (parentL (oc t)).2.2 = G := ⟨_, rfl⟩
  rw [hL] at hf4
  rw [hE] at hf1
  rw [hM] at hp8
  rw [hG] at hpe
  rw [hL, hE] at h1
  simp only [hL, hE] at h2
  simp only [hM, hX, hG] at h3 h4
  obtain ⟨n, hn⟩ : ∃ n, L.length = n := ⟨_, rfl⟩
  obtain ⟨k, hk⟩ : ∃ k, M.length = k := ⟨_, rfl⟩
  rw [hn] at h1 hf4
  simp only [hn] at h2
  rw [hk] at hp8
  simp only [hk] at h3 h4
  have H1 := Lib.hid h1
  have H2 := Lib.hid h2
  have H3 := Lib.hid h3
  have H4 := Lib.hid h4
  clear h1 h2 h3 h4 hL hE hM hX hG hn hk
  go_wp2_with fail
  refine H1.out.mono ?_
  rintro e w1 ⟨⟨A1, c1, rfl, _, r1⟩, b1⟩
  have R1 := Lib.hid r1
  clear r1
  go_wp2_with fail
  refine (H2.out w1).mono ?_
  rintro e w2 ⟨⟨A2, c2, rfl, _, r2⟩, e2⟩
  have b2 := b1.trans (e2.mono b1.size)
  have R2 := Lib.hid ((R1.out.below e2).more e2.size)
  have S2 := Lib.hid r2
  clear r2
  go_wp2_with fail
  refine (H3.out w2).mono ?_
  rintro e w3 ⟨⟨A3, c3, x, rfl, hx, _, _, r3⟩, e3⟩
  have b3 := b2.trans (e3.mono b2.size)
  have R3 := Lib.hid ((R2.out.below e3).more e3.size)
  have S3 := Lib.hid ((S2.out.below e3).more e3.size)
  have T3 := Lib.hid r3
  clear r3
  go_wp2_with fail
  refine (H4.out w3).mono ?_
  rintro e w4 ⟨⟨A4, c4, y, rfl, hy, _, _, r4⟩, e4⟩
  obtain rfl : x = y := oc_inj (hx.trans hy.symm)
  have b4 := b3.trans (e4.mono b3.size)
  have R4 := Lib.hid ((R3.out.below e4).more e4.size)
  have S4 := Lib.hid ((S3.out.below e4).more e4.size)
  have T4 := Lib.hid ((T3.out.below e4).more e4.size)
  have U4 := Lib.hid r4
  clear r4 hx hy
  go_wp2_with fail
  refine (rSame_yes _ _ n _ n _ L w4 R4.out S4.out (by omega) (by omega)).mono ?_
  rintro e w5 ⟨rfl, e5⟩
  have b5 := b4.trans (e5.mono b4.size)
  have T5 := Lib.hid ((T4.out.below e5).more e5.size)
  have U5 := Lib.hid ((U4.out.below e5).more e5.size)
  go_wp2_with fail
  refine (rSame_yes _ _ k _ k _ M w5 T5.out U5.out (by omega) (by omega)).mono ?_
  rintro e w6 ⟨rfl, e6⟩
  have b6 := b5.trans (e6.mono b5.size)
  go_wp2_with fail
  refine (awake_any w6).mono ?_
  rintro e w7 ⟨rfl, e7⟩
  have b7 := b6.trans (e7.mono b6.size)
  go_wp2
  go_ret
  exact ⟨rfl, b7⟩
end Go.Proofs.YtofbgebgneinaaaDoor
