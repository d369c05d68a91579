/-
  Walks: the examples; few.
-/
import Derived.Test.YtmladfkafbjmoaaReachJ
import Derived.Test.YtmladfkafbjmoaaReachH
namespace Go.Proofs.Ytmladfkafbjmoaa
open Go.RowKit

theorem own_rd {w w' : World} {v : Value} {l : List Int} (h : OwnI w w' v l) : ∃ A c, v = .slice A l.length c ∧ l.length ≤ c ∧ Rd w' w'.heap.size 1 A l.length (intsV l) := by
  obtain ⟨A, c, e, h1, _, h2⟩ := own_form h
  exact ⟨A, c, e, h1, h2⟩
theorem Path_rd (n : Nat) (w : World) (h : n < 3621) :
    Calls Try.prog 19 #[.int .i64 n] w fun e w' => (∃ A c, e = .returned (.tuple #[.slice A (toZ (pathN n)).length c, .int .i64 0]) ∧ (toZ (pathN n)).length ≤ c ∧ Rd w' w'.heap.size 1 A (toZ (pathN n)).length (intsV (toZ (pathN n)))) ∧ Below w.heap.size w w' := by
  refine (Path_ok n w h).mono ?_
  rintro e w' ⟨v, rfl, ho, hb⟩
  obtain ⟨A, c, rfl, hc, hr⟩ := own_rd ho
  exact ⟨⟨A, c, rfl, hc, hr⟩, hb⟩
theorem Same_yes (A A' : Option Addr) (n c n' c' : Nat) (xs : List Int) (w : World) (hx : Rd w w.heap.size 1 A n (intsV xs)) (hy : Rd w w.heap.size 1 A' n' (intsV xs)) (hn : n ≤ 1000000) :
    Calls Try.prog 18 #[.slice A n c, .slice A' n' c'] w fun e w' => e = .returned (.bool true) ∧ Below w.heap.size w w' := by
  have := Same_any A A' n c n' c' xs xs w hx hy hn
  rw [decide_eq_true rfl] at this
  exact this
theorem lit_rd (w : World) (cs : Array Value) (l : List Int) (h : cs.toList = intsV l) (hm : l.length ≤ maxLen) : Rd (w.alloc (.cells cs 3)) (w.alloc (.cells cs 3)).heap.size 1 (some ⟨w.heap.size, 0, none⟩) l.length (intsV l) := by
  have := (OwnB.lit w w.heap.size (Nat.le_refl _) 3 1 l.length cs (by rw [Nat.mul_one, ← intsV_len l, ← h]; simp) hm).rd
  rw [h] at this
  exact this
theorem enough {n : Nat} (h : n ≤ 1000) : n ≤ maxLen := by unfold maxLen; omega

theorem Path_5 (w : World) :
    Calls Try.prog 19 #[.int .i64 5] w fun e w' => (∃ A c, e = .returned (.tuple #[.slice A 1 c, .int .i64 0]) ∧ Rd w' w'.heap.size 1 A 1 (intsV [5])) ∧ Below w.heap.size w w' :=
  (Path_rd 5 w (by omega)).mono fun e w' ⟨⟨A, c, he, _, hr⟩, hb⟩ => ⟨⟨A, c, he, hr⟩, hb⟩
theorem Path_6 (w : World) :
    Calls Try.prog 19 #[.int .i64 6] w fun e w' => (∃ A c, e = .returned (.tuple #[.slice A 2 c, .int .i64 0]) ∧ Rd w' w'.heap.size 1 A 2 (intsV [6, 0])) ∧ Below w.heap.size w w' :=
  (Path_rd 6 w (by omega)).mono fun e w' ⟨⟨A, c, he, _, hr⟩, hb⟩ => ⟨⟨A, c, he, hr⟩, hb⟩
theorem Path_21 (w : World) :
    Calls Try.prog 19 #[.int .i64 21] w fun e w' => (∃ A c, e = .returned (.tuple #[.slice A 3 c, .int .i64 0]) ∧ Rd w' w'.heap.size 1 A 3 (intsV [7, 0, 0])) ∧ Below w.heap.size w w' :=
  (Path_rd 21 w (by omega)).mono fun e w' ⟨⟨A, c, he, _, hr⟩, hb⟩ => ⟨⟨A, c, he, hr⟩, hb⟩
theorem Path_246 (w : World) :
    Calls Try.prog 19 #[.int .i64 246] w fun e w' => (∃ A c, e = .returned (.tuple #[.slice A 4 c, .int .i64 0]) ∧ Rd w' w'.heap.size 1 A 4 (intsV [8, 0, 0, 0])) ∧ Below w.heap.size w w' :=
  (Path_rd 246 w (by omega)).mono fun e w' ⟨⟨A, c, he, _, hr⟩, hb⟩ => ⟨⟨A, c, he, hr⟩, hb⟩
theorem Count_22 (w : World) : Calls Try.prog 9 #[.int .i64 22] w fun e w' => e = .returned (.int .i64 3) ∧ Below w.heap.size w w' := Count_any 22 w (by omega)

set_option maxHeartbeats 2000000 in
set_option maxRecDepth 100000 in
theorem awake_any (w : World) : Calls Try.prog 12 #[] w fun e w' => e = .returned (.bool true) ∧ Below w.heap.size w w' := by
  go_enter Try.func12, Try.ntmps12
  go_wp2_with fail
  refine (Path_5 w).mono ?_
  rintro e w1 ⟨⟨A5, c5, rfl, r5⟩, h1⟩
  have R5_1 := Lib.hid r5
  clear r5
  go_wp2_with fail
  refine (Path_6 w1).mono ?_
  rintro e w2 ⟨⟨A6, c6, rfl, r6⟩, h2⟩
  have b2 := h1.trans (h2.mono h1.size)
  have R6_2 := Lib.hid r6
  clear r6
  have R5_2 := Lib.hid ((R5_1.out.below h2).more h2.size)
  go_wp2_with fail
  refine (Path_21 w2).mono ?_
  rintro e w3 ⟨⟨A21, c21, rfl, r21⟩, h3⟩
  have b3 := b2.trans (h3.mono b2.size)
  have R21_3 := Lib.hid r21
  clear r21
  have R5_3 := Lib.hid ((R5_2.out.below h3).more h3.size)
  have R6_3 := Lib.hid ((R6_2.out.below h3).more h3.size)
  go_wp2_with fail
  refine (Path_246 w3).mono ?_
  rintro e w4 ⟨⟨A246, c246, rfl, r246⟩, h4⟩
  have b4 := b3.trans (h4.mono b3.size)
  have R246_4 := Lib.hid r246
  clear r246
  have R5_4 := Lib.hid ((R5_3.out.below h4).more h4.size)
  have R6_4 := Lib.hid ((R6_3.out.below h4).more h4.size)
  have R21_4 := Lib.hid ((R21_3.out.below h4).more h4.size)
  have a4 : Below w.heap.size w4 (w4.alloc (.cells #[.int .i64 7, .int .i64 2] 3)) := (Below.refl _ _).alloc b4.size _
  have d4 := (Below.refl w4.heap.size w4).alloc (Nat.le_refl _) (.cells #[.int .i64 7, .int .i64 2] 3)
  have l4 := Lib.hid (lit_rd w4 #[.int .i64 7, .int .i64 2] [7, 2] rfl (enough (by simp)))
  have B4 := b4.trans a4
  go_wp2_with fail
  refine (Number_any _ 2 2 [7, 2] _ l4.out (by omega) (by omega)).mono ?_
  rintro e w5 ⟨rfl, h5⟩
  have b5 := B4.trans (h5.mono B4.size)
  rw [show numR [7, 2] = 5 from by decide, show numE [7, 2] = 0 from by decide]
  have R5_5 := Lib.hid ((((R5_4.out.below d4).more d4.size).below h5).more h5.size)
  have R6_5 := Lib.hid ((((R6_4.out.below d4).more d4.size).below h5).more h5.size)
  have R21_5 := Lib.hid ((((R21_4.out.below d4).more d4.size).below h5).more h5.size)
  have R246_5 := Lib.hid ((((R246_4.out.below d4).more d4.size).below h5).more h5.size)
  have a5 : Below w.heap.size w5 (w5.alloc (.cells #[.int .i64 8, .int .i64 1, .int .i64 1] 3)) := (Below.refl _ _).alloc b5.size _
  have d5 := (Below.refl w5.heap.size w5).alloc (Nat.le_refl _) (.cells #[.int .i64 8, .int .i64 1, .int .i64 1] 3)
  have l5 := Lib.hid (lit_rd w5 #[.int .i64 8, .int .i64 1, .int .i64 1] [8, 1, 1] rfl (enough (by simp)))
  have B5 := b5.trans a5
  go_wp2_with fail
  refine (Number_any _ 3 3 [8, 1, 1] _ l5.out (by omega) (by omega)).mono ?_
  rintro e w6 ⟨rfl, h6⟩
  have b6 := B5.trans (h6.mono B5.size)
  rw [show numR [8, 1, 1] = 49 from by decide, show numE [8, 1, 1] = 0 from by decide]
  have R5_6 := Lib.hid ((((R5_5.out.below d5).more d5.size).below h6).more h6.size)
  have R6_6 := Lib.hid ((((R6_5.out.below d5).more d5.size).below h6).more h6.size)
  have R21_6 := Lib.hid ((((R21_5.out.below d5).more d5.size).below h6).more h6.size)
  have R246_6 := Lib.hid ((((R246_5.out.below d5).more d5.size).below h6).more h6.size)
  have a6 : Below w.heap.size w6 (w6.alloc (.cells #[.int .i64 5] 3)) := (Below.refl _ _).alloc b6.size _
  have d6 := (Below.refl w6.heap.size w6).alloc (Nat.le_refl _) (.cells #[.int .i64 5] 3)
  have l6 := Lib.hid (lit_rd w6 #[.int .i64 5] [5] rfl (enough (by simp)))
  have B6 := b6.trans a6
  go_wp2_with fail
  refine (Same_yes _ _ 1 _ 1 _ [5] _ ((R5_6.out.below d6).more d6.size) l6.out (by omega)).mono ?_
  rintro e w7 ⟨rfl, h7⟩
  have b7 := B6.trans (h7.mono B6.size)
  have R5_7 := Lib.hid ((((R5_6.out.below d6).more d6.size).below h7).more h7.size)
  have R6_7 := Lib.hid ((((R6_6.out.below d6).more d6.size).below h7).more h7.size)
  have R21_7 := Lib.hid ((((R21_6.out.below d6).more d6.size).below h7).more h7.size)
  have R246_7 := Lib.hid ((((R246_6.out.below d6).more d6.size).below h7).more h7.size)
  have a7 : Below w.heap.size w7 (w7.alloc (.cells #[.int .i64 6, .int .i64 0] 3)) := (Below.refl _ _).alloc b7.size _
  have d7 := (Below.refl w7.heap.size w7).alloc (Nat.le_refl _) (.cells #[.int .i64 6, .int .i64 0] 3)
  have l7 := Lib.hid (lit_rd w7 #[.int .i64 6, .int .i64 0] [6, 0] rfl (enough (by simp)))
  have B7 := b7.trans a7
  go_wp2_with fail
  refine (Same_yes _ _ 2 _ 2 _ [6, 0] _ ((R6_7.out.below d7).more d7.size) l7.out (by omega)).mono ?_
  rintro e w8 ⟨rfl, h8⟩
  have b8 := B7.trans (h8.mono B7.size)
  have R5_8 := Lib.hid ((((R5_7.out.below d7).more d7.size).below h8).more h8.size)
  have R6_8 := Lib.hid ((((R6_7.out.below d7).more d7.size).below h8).more h8.size)
  have R21_8 := Lib.hid ((((R21_7.out.below d7).more d7.size).below h8).more h8.size)
  have R246_8 := Lib.hid ((((R246_7.out.below d7).more d7.size).below h8).more h8.size)
  have a8 : Below w.heap.size w8 (w8.alloc (.cells #[.int .i64 7, .int .i64 0, .int .i64 0] 3)) := (Below.refl _ _).alloc b8.size _
  have d8 := (Below.refl w8.heap.size w8).alloc (Nat.le_refl _) (.cells #[.int .i64 7, .int .i64 0, .int .i64 0] 3)
  have l8 := Lib.hid (lit_rd w8 #[.int .i64 7, .int .i64 0, .int .i64 0] [7, 0, 0] rfl (enough (by simp)))
  have B8 := b8.trans a8
  go_wp2_with fail
  refine (Same_yes _ _ 3 _ 3 _ [7, 0, 0] _ ((R21_8.out.below d8).more d8.size) l8.out (by omega)).mono ?_
  rintro e w9 ⟨rfl, h9⟩
  have b9 := B8.trans (h9.mono B8.size)
  have R5_9 := Lib.hid ((((R5_8.out.below d8).more d8.size).below h9).more h9.size)
  have R6_9 := Lib.hid ((((R6_8.out.below d8).more d8.size).below h9).more h9.size)
  have R21_9 := Lib.hid ((((R21_8.out.below d8).more d8.size).below h9).more h9.size)
  have R246_9 := Lib.hid ((((R246_8.out.below d8).more d8.size).below h9).more h9.size)
  have a9 : Below w.heap.size w9 (w9.alloc (.cells #[.int .i64 8, .int .i64 0, .int .i64 0, .int .i64 0] 3)) := (Below.refl _ _).alloc b9.size _
  have d9 := (Below.refl w9.heap.size w9).alloc (Nat.le_refl _) (.cells #[.int .i64 8, .int .i64 0, .int .i64 0, .int .i64 0] 3)
  have l9 := Lib.hid (lit_rd w9 #[.int .i64 8, .int .i64 0, .int .i64 0, .int .i64 0] [8, 0, 0, 0] rfl (enough (by simp)))
  have B9 := b9.trans a9
  go_wp2_with fail
  refine (Same_yes _ _ 4 _ 4 _ [8, 0, 0, 0] _ ((R246_9.out.below d9).more d9.size) l9.out (by omega)).mono ?_
  rintro e w10 ⟨rfl, h10⟩
  have b10 := B9.trans (h10.mono B9.size)
  have R5_10 := Lib.hid ((((R5_9.out.below d9).more d9.size).below h10).more h10.size)
  have R6_10 := Lib.hid ((((R6_9.out.below d9).more d9.size).below h10).more h10.size)
  have R21_10 := Lib.hid ((((R21_9.out.below d9).more d9.size).below h10).more h10.size)
  have R246_10 := Lib.hid ((((R246_9.out.below d9).more d9.size).below h10).more h10.size)
  go_wp2_with fail
  refine (Count_22 w10).mono ?_
  rintro e w11 ⟨rfl, h11⟩
  have b11 := b10.trans (h11.mono b10.size)
  go_wp2
  go_ret
  exact ⟨rfl, b11⟩

theorem few_is (A : Option Addr) (n c : Nat) (xs : List Int) (w : World) (hx : Rd w w.heap.size 1 A n (intsV xs)) (hnc : n ≤ c) :
    ∃ A' n' c' ys, (∀ w1 : World, w1 = w → Calls Try.prog 13 #[.slice A n c] w1 fun e w' => e = .returned (.slice A' n' c') ∧ w = w') ∧ n' ≤ 6 ∧ n' ≤ c' ∧ Rd w w.heap.size 1 A' n' (intsV ys) := by
  by_cases h : n ≤ 6
  · refine ⟨A, n, c, xs, ?_, h, hnc, hx⟩
    rintro w1 rfl
    go_enter Try.func13, Try.ntmps13
    go_wp2
    go_ret
    exact ⟨rfl, rfl⟩
  · obtain ⟨g, o, rfl, hb, hc⟩ := hx.2 (by omega)
    have hl := hx.1
    rw [intsV_len] at hl
    have hr : Rd w w.heap.size 1 (some ⟨g, o, none⟩) 6 (intsV (xs.take 6)) := ⟨by rw [intsV_len, List.length_take]; omega, fun _ => ⟨g, o, rfl, hb, fun j u hu => hc j u (by
      unfold intsV at hu ⊢
      rw [List.map_take, List.getElem?_take] at hu
      split at hu
      · exact hu
      · exact absurd hu (by simp))⟩⟩
    refine ⟨_, 6, c, xs.take 6, ?_, by omega, by omega, hr⟩
    rintro w1 rfl
    clear hr hc hx
    go_enter Try.func13, Try.ntmps13
    go_wp2
    go_ret
    exact ⟨rfl, rfl⟩
end Go.Proofs.Ytmladfkafbjmoaa
