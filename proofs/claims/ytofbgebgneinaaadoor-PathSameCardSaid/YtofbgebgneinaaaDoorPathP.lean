/-
  Walk: the law on joined names.
-/
import Derived.Test.YtofbgebgneinaaaDoorPathO
namespace Go.Proofs.YtofbgebgneinaaaDoor
open Go.RowKit Go.Shelf
set_option linter.unusedVariables false

theorem join_bad (l : List (List UInt8)) (h : (joinL l).2 ≠ 0) : (joinL l).1 = [] := by
  unfold joinL at h ⊢
  split
  · rfl
  · rename_i h1
    rw [if_neg h1] at h
    split
    · rfl
    · rename_i h2
      rw [if_neg h2] at h
      split at h <;> simp at h

set_option maxHeartbeats 4000000 in
set_option maxRecDepth 100000 in
theorem joins_0 (A A' : Option Addr) (n c n' c' : Nat) (l t : List (List UInt8)) (w : World) (hr : Rd w w.heap.size 1 A n (strV l)) (ht : Rd w w.heap.size 1 A' n' (strV t)) (hsz : ∀ x ∈ l, x.length ≤ 9223372036854775807) (hst : ∀ x ∈ t, x.length ≤ 9223372036854775807) (hnc : n ≤ c) (hnc' : n' ≤ c') (hE : (joinL (namesL l)).2 = 0) :
    Calls Tryd.prog 6 #[.slice A n c, .slice A' n' c'] w fun e w' => e = .returned (.bool true) ∧ Below w.heap.size w w' := by
  have hN1 := names_cut A n c _ l w hr hsz hnc rfl
  have hN2 : ∀ w1, Below w.heap.size w w1 → Calls Tryd.prog 15 #[.slice A' n' c'] w1 fun e w' => (∃ v, e = .returned v ∧ OwnS w1 w' v (namesL t)) ∧ Below w1.heap.size w1 w' := fun w1 hb => names_cut A' n' c' _ t w1 ((ht.below hb).more hb.size) hst hnc' rfl
  have hm := names_len l
  have hk := names_len t
  have hs1 := names_size l
  obtain ⟨hp, h8, _, h200⟩ := parse_join (namesL l) hE
  have hJ : ∀ A m c w, m = (namesL l).length → m ≤ c → Rd w w.heap.size 1 A m (strV (namesL l)) → Calls Tryd.prog 16 #[.slice A m c] w fun e w' => e = .returned (.tuple #[.string (st (joinL (namesL l)).1), .int .i64 (joinL (namesL l)).2]) ∧ Below w.heap.size w w' :=
    fun A m c w he hmc h => Join_any A m c (namesL l) w h (by omega) hmc hs1
  have hR : ∀ A m c w, m = (namesL l).length → Rd w w.heap.size 1 A m (strV (namesL l)) → Calls Tryd.prog 17 #[.slice A m c] w fun e w' => e = .returned (.tuple #[.string (st (joinL (namesL l)).1), .int .i64 (joinL (namesL l)).2]) ∧ Below w.heap.size w w' :=
    fun A m c w he h => rJoin_any A m c (namesL l) w h (by omega) hs1
  rw [hE] at hJ hR
  obtain ⟨L, hL⟩ : ∃ L, namesL l = L := ⟨_, rfl⟩
  obtain ⟨T, hT⟩ : ∃ T, namesL t = T := ⟨_, rfl⟩
  rw [hL] at hN1 hJ hR hm hp h8 h200
  obtain ⟨S, hS⟩ : ∃ S, st (joinL L).1 = S := ⟨_, rfl⟩
  have hoc : oc S = (joinL L).1 := by rw [← hS, oc_st]
  have hss : S.size ≤ 200 := by rw [← oc_len, hoc]; exact h200
  rw [← hoc] at hp
  rw [hS] at hJ hR
  simp only [hT] at hN2
  rw [hT] at hk
  obtain ⟨m, hml⟩ : ∃ m, L.length = m := ⟨_, rfl⟩
  obtain ⟨k, hkl⟩ : ∃ k, T.length = k := ⟨_, rfl⟩
  rw [hml] at hm hJ hR
  rw [hkl] at hk
  rw [hml] at h8
  have hP := fun w => Parse_any S w (by omega)
  simp only [hp] at hP
  rw [hml] at hP
  have HP := Lib.hid hP
  clear hP hp hS hoc h200
  have HN1 := Lib.hid hN1
  have HN2 := Lib.hid hN2
  have HJ := Lib.hid hJ
  have HR := Lib.hid hR
  have HML := Lib.hid hml
  have HKL := Lib.hid hkl
  obtain ⟨U, hU⟩ : ∃ U, underL L T = U := ⟨_, rfl⟩
  have HU := Lib.hid hU
  clear hN1 hN2 hJ hR hml hkl hU hL hT hE hs1 hsz hst hr ht
  go_enter Tryd.func6, Tryd.ntmps6
  go_wp2_with fail
  refine HN1.out.mono ?_
  rintro e w1 ⟨⟨v1, rfl, o1⟩, b1⟩
  obtain ⟨A1, c1, rfl, hc1, r1⟩ := own_rdS o1
  rw [HML.out] at r1 hc1 ⊢
  have R1 := Lib.hid r1
  clear o1 r1
  go_wp2_with fail
  refine (HN2.out w1 b1).mono ?_
  rintro e w2 ⟨⟨v2, rfl, o2⟩, e2⟩
  obtain ⟨A2, c2, rfl, hc2, r2⟩ := own_rdS o2
  rw [HKL.out] at r2 hc2 ⊢
  have b2 := b1.trans (e2.mono b1.size)
  have R2 := Lib.hid ((R1.out.below e2).more e2.size)
  have S2 := Lib.hid r2
  clear o2 r2
  go_wp2_with fail
  refine (HJ.out A1 m c1 w2 rfl hc1 R2.out).mono ?_
  rintro e w3 ⟨rfl, e3⟩
  have b3 := b2.trans (e3.mono b2.size)
  have R3 := Lib.hid ((R2.out.below e3).more e3.size)
  have S3 := Lib.hid ((S2.out.below e3).more e3.size)
  go_wp2_with fail
  refine (HR.out A1 m c1 w3 rfl R3.out).mono ?_
  rintro e w4 ⟨rfl, e4⟩
  have b4 := b3.trans (e4.mono b3.size)
  have R4 := Lib.hid ((R3.out.below e4).more e4.size)
  have S4 := Lib.hid ((S3.out.below e4).more e4.size)
  go_wp2_with fail
  refine (Under_any A1 A2 m c1 k c2 L T w4 R4.out S4.out (by omega) (by omega) hc1).mono ?_
  rintro e w5 ⟨rfl, e5⟩
  rw [HU.out]
  have b5 := b4.trans (e5.mono b4.size)
  have R5 := Lib.hid ((R4.out.below e5).more e5.size)
  have S5 := Lib.hid ((S4.out.below e5).more e5.size)
  go_wp2_with fail
  refine (rUnder_any A1 A2 m c1 k c2 L T w5 R5.out S5.out (by omega) (by omega)).mono ?_
  rintro e w6 ⟨rfl, e6⟩
  rw [HU.out]
  have b6 := b5.trans (e6.mono b5.size)
  have R6 := Lib.hid ((R5.out.below e6).more e6.size)
  have huu : (U != U) = false := by cases U <;> rfl
  go_wp2_with fail
  refine (HP.out w6).mono ?_
  rintro e w7 ⟨⟨A7, c7, rfl, _, r7⟩, e7⟩
  have b7 := b6.trans (e7.mono b6.size)
  have R7 := Lib.hid ((R6.out.below e7).more e7.size)
  have T7 := Lib.hid r7
  clear r7
  go_wp2_with fail
  refine (rSame_yes _ _ m _ m _ L w7 T7.out R7.out (by omega) (by omega)).mono ?_
  rintro e w8 ⟨rfl, e8⟩
  have b8 := b7.trans (e8.mono b7.size)
  go_wp2_with fail
  refine (awake_any w8).mono ?_
  rintro e w9 ⟨rfl, e9⟩
  go_wp2
  go_ret
  exact ⟨rfl, b8.trans (e9.mono b8.size)⟩

set_option maxHeartbeats 4000000 in
set_option maxRecDepth 100000 in
theorem joins_11 (A A' : Option Addr) (n c n' c' : Nat) (l t : List (List UInt8)) (w : World) (hr : Rd w w.heap.size 1 A n (strV l)) (ht : Rd w w.heap.size 1 A' n' (strV t)) (hsz : ∀ x ∈ l, x.length ≤ 9223372036854775807) (hst : ∀ x ∈ t, x.length ≤ 9223372036854775807) (hnc : n ≤ c) (hnc' : n' ≤ c') (hE : (joinL (namesL l)).2 = 11) :
    Calls Tryd.prog 6 #[.slice A n c, .slice A' n' c'] w fun e w' => e = .returned (.bool true) ∧ Below w.heap.size w w' := by
  have hN1 := names_cut A n c _ l w hr hsz hnc rfl
  have hN2 : ∀ w1, Below w.heap.size w w1 → Calls Tryd.prog 15 #[.slice A' n' c'] w1 fun e w' => (∃ v, e = .returned v ∧ OwnS w1 w' v (namesL t)) ∧ Below w1.heap.size w1 w' := fun w1 hb => names_cut A' n' c' _ t w1 ((ht.below hb).more hb.size) hst hnc' rfl
  have hm := names_len l
  have hk := names_len t
  have hs1 := names_size l
  have hbad := join_bad (namesL l) (by rw [hE]; decide)
  have hJ : ∀ A m c w, m = (namesL l).length → m ≤ c → Rd w w.heap.size 1 A m (strV (namesL l)) → Calls Tryd.prog 16 #[.slice A m c] w fun e w' => e = .returned (.tuple #[.string (st (joinL (namesL l)).1), .int .i64 (joinL (namesL l)).2]) ∧ Below w.heap.size w w' :=
    fun A m c w he hmc h => Join_any A m c (namesL l) w h (by omega) hmc hs1
  have hR : ∀ A m c w, m = (namesL l).length → Rd w w.heap.size 1 A m (strV (namesL l)) → Calls Tryd.prog 17 #[.slice A m c] w fun e w' => e = .returned (.tuple #[.string (st (joinL (namesL l)).1), .int .i64 (joinL (namesL l)).2]) ∧ Below w.heap.size w w' :=
    fun A m c w he h => rJoin_any A m c (namesL l) w h (by omega) hs1
  rw [hE, hbad] at hJ hR
  obtain ⟨L, hL⟩ : ∃ L, namesL l = L := ⟨_, rfl⟩
  obtain ⟨T, hT⟩ : ∃ T, namesL t = T := ⟨_, rfl⟩
  rw [hL] at hN1 hJ hR hm
  rw [show st [] = (⟨#[]⟩ : ByteArray) from rfl] at hJ hR
  simp only [hT] at hN2
  rw [hT] at hk
  obtain ⟨m, hml⟩ : ∃ m, L.length = m := ⟨_, rfl⟩
  obtain ⟨k, hkl⟩ : ∃ k, T.length = k := ⟨_, rfl⟩
  rw [hml] at hm hJ hR
  rw [hkl] at hk
  clear hbad
  have HN1 := Lib.hid hN1
  have HN2 := Lib.hid hN2
  have HJ := Lib.hid hJ
  have HR := Lib.hid hR
  have HML := Lib.hid hml
  have HKL := Lib.hid hkl
  obtain ⟨U, hU⟩ : ∃ U, underL L T = U := ⟨_, rfl⟩
  have HU := Lib.hid hU
  clear hN1 hN2 hJ hR hml hkl hU hL hT hE hs1 hsz hst hr ht
  go_enter Tryd.func6, Tryd.ntmps6
  go_wp2_with fail
  refine HN1.out.mono ?_
  rintro e w1 ⟨⟨v1, rfl, o1⟩, b1⟩
  obtain ⟨A1, c1, rfl, hc1, r1⟩ := own_rdS o1
  rw [HML.out] at r1 hc1 ⊢
  have R1 := Lib.hid r1
  clear o1 r1
  go_wp2_with fail
  refine (HN2.out w1 b1).mono ?_
  rintro e w2 ⟨⟨v2, rfl, o2⟩, e2⟩
  obtain ⟨A2, c2, rfl, hc2, r2⟩ := own_rdS o2
  rw [HKL.out] at r2 hc2 ⊢
  have b2 := b1.trans (e2.mono b1.size)
  have R2 := Lib.hid ((R1.out.below e2).more e2.size)
  have S2 := Lib.hid r2
  clear o2 r2
  go_wp2_with fail
  refine (HJ.out A1 m c1 w2 rfl hc1 R2.out).mono ?_
  rintro e w3 ⟨rfl, e3⟩
  have b3 := b2.trans (e3.mono b2.size)
  have R3 := Lib.hid ((R2.out.below e3).more e3.size)
  have S3 := Lib.hid ((S2.out.below e3).more e3.size)
  go_wp2_with fail
  refine (HR.out A1 m c1 w3 rfl R3.out).mono ?_
  rintro e w4 ⟨rfl, e4⟩
  have b4 := b3.trans (e4.mono b3.size)
  have R4 := Lib.hid ((R3.out.below e4).more e4.size)
  have S4 := Lib.hid ((S3.out.below e4).more e4.size)
  go_wp2_with fail
  refine (Under_any A1 A2 m c1 k c2 L T w4 R4.out S4.out (by omega) (by omega) hc1).mono ?_
  rintro e w5 ⟨rfl, e5⟩
  rw [HU.out]
  have b5 := b4.trans (e5.mono b4.size)
  have R5 := Lib.hid ((R4.out.below e5).more e5.size)
  have S5 := Lib.hid ((S4.out.below e5).more e5.size)
  go_wp2_with fail
  refine (rUnder_any A1 A2 m c1 k c2 L T w5 R5.out S5.out (by omega) (by omega)).mono ?_
  rintro e w6 ⟨rfl, e6⟩
  rw [HU.out]
  have b6 := b5.trans (e6.mono b5.size)
  have R6 := Lib.hid ((R5.out.below e6).more e6.size)
  have huu : (U != U) = false := by cases U <;> rfl
  go_wp2_with fail
  refine (awake_any w6).mono ?_
  rintro e w7 ⟨rfl, e7⟩
  go_wp2
  go_ret
  exact ⟨rfl, b6.trans (e7.mono b6.size)⟩

set_option maxHeartbeats 4000000 in
set_option maxRecDepth 100000 in
theorem joins_16 (A A' : Option Addr) (n c n' c' : Nat) (l t : List (List UInt8)) (w : World) (hr : Rd w w.heap.size 1 A n (strV l)) (ht : Rd w w.heap.size 1 A' n' (strV t)) (hsz : ∀ x ∈ l, x.length ≤ 9223372036854775807) (hst : ∀ x ∈ t, x.length ≤ 9223372036854775807) (hnc : n ≤ c) (hnc' : n' ≤ c') (hE : (joinL (namesL l)).2 = 16) :
    Calls Tryd.prog 6 #[.slice A n c, .slice A' n' c'] w fun e w' => e = .returned (.bool true) ∧ Below w.heap.size w w' := by
  have hN1 := names_cut A n c _ l w hr hsz hnc rfl
  have hN2 : ∀ w1, Below w.heap.size w w1 → Calls Tryd.prog 15 #[.slice A' n' c'] w1 fun e w' => (∃ v, e = .returned v ∧ OwnS w1 w' v (namesL t)) ∧ Below w1.heap.size w1 w' := fun w1 hb => names_cut A' n' c' _ t w1 ((ht.below hb).more hb.size) hst hnc' rfl
  have hm := names_len l
  have hk := names_len t
  have hs1 := names_size l
  have hbad := join_bad (namesL l) (by rw [hE]; decide)
  have hJ : ∀ A m c w, m = (namesL l).length → m ≤ c → Rd w w.heap.size 1 A m (strV (namesL l)) → Calls Tryd.prog 16 #[.slice A m c] w fun e w' => e = .returned (.tuple #[.string (st (joinL (namesL l)).1), .int .i64 (joinL (namesL l)).2]) ∧ Below w.heap.size w w' :=
    fun A m c w he hmc h => Join_any A m c (namesL l) w h (by omega) hmc hs1
  have hR : ∀ A m c w, m = (namesL l).length → Rd w w.heap.size 1 A m (strV (namesL l)) → Calls Tryd.prog 17 #[.slice A m c] w fun e w' => e = .returned (.tuple #[.string (st (joinL (namesL l)).1), .int .i64 (joinL (namesL l)).2]) ∧ Below w.heap.size w w' :=
    fun A m c w he h => rJoin_any A m c (namesL l) w h (by omega) hs1
  rw [hE, hbad] at hJ hR
  obtain ⟨L, hL⟩ : ∃ L, namesL l = L := ⟨_, rfl⟩
  obtain ⟨T, hT⟩ : ∃ T, namesL t = T := ⟨_, rfl⟩
  rw [hL] at hN1 hJ hR hm
  rw [show st [] = (⟨#[]⟩ : ByteArray) from rfl] at hJ hR
  simp only [hT] at hN2
  rw [hT] at hk
  obtain ⟨m, hml⟩ : ∃ m, L.length = m := ⟨_, rfl⟩
  obtain ⟨k, hkl⟩ : ∃ k, T.length = k := ⟨_, rfl⟩
  rw [hml] at hm hJ hR
  rw [hkl] at hk
  clear hbad
  have HN1 := Lib.hid hN1
  have HN2 := Lib.hid hN2
  have HJ := Lib.hid hJ
  have HR := Lib.hid hR
  have HML := Lib.hid hml
  have HKL := Lib.hid hkl
  obtain ⟨U, hU⟩ : ∃ U, underL L T = U := ⟨_, rfl⟩
  have HU := Lib.hid hU
  clear hN1 hN2 hJ hR hml hkl hU hL hT hE hs1 hsz hst hr ht
  go_enter Tryd.func6, Tryd.ntmps6
  go_wp2_with fail
  refine HN1.out.mono ?_
  rintro e w1 ⟨⟨v1, rfl, o1⟩, b1⟩
  obtain ⟨A1, c1, rfl, hc1, r1⟩ := own_rdS o1
  rw [HML.out] at r1 hc1 ⊢
  have R1 := Lib.hid r1
  clear o1 r1
  go_wp2_with fail
  refine (HN2.out w1 b1).mono ?_
  rintro e w2 ⟨⟨v2, rfl, o2⟩, e2⟩
  obtain ⟨A2, c2, rfl, hc2, r2⟩ := own_rdS o2
  rw [HKL.out] at r2 hc2 ⊢
  have b2 := b1.trans (e2.mono b1.size)
  have R2 := Lib.hid ((R1.out.below e2).more e2.size)
  have S2 := Lib.hid r2
  clear o2 r2
  go_wp2_with fail
  refine (HJ.out A1 m c1 w2 rfl hc1 R2.out).mono ?_
  rintro e w3 ⟨rfl, e3⟩
  have b3 := b2.trans (e3.mono b2.size)
  have R3 := Lib.hid ((R2.out.below e3).more e3.size)
  have S3 := Lib.hid ((S2.out.below e3).more e3.size)
  go_wp2_with fail
  refine (HR.out A1 m c1 w3 rfl R3.out).mono ?_
  rintro e w4 ⟨rfl, e4⟩
  have b4 := b3.trans (e4.mono b3.size)
  have R4 := Lib.hid ((R3.out.below e4).more e4.size)
  have S4 := Lib.hid ((S3.out.below e4).more e4.size)
  go_wp2_with fail
  refine (Under_any A1 A2 m c1 k c2 L T w4 R4.out S4.out (by omega) (by omega) hc1).mono ?_
  rintro e w5 ⟨rfl, e5⟩
  rw [HU.out]
  have b5 := b4.trans (e5.mono b4.size)
  have R5 := Lib.hid ((R4.out.below e5).more e5.size)
  have S5 := Lib.hid ((S4.out.below e5).more e5.size)
  go_wp2_with fail
  refine (rUnder_any A1 A2 m c1 k c2 L T w5 R5.out S5.out (by omega) (by omega)).mono ?_
  rintro e w6 ⟨rfl, e6⟩
  rw [HU.out]
  have b6 := b5.trans (e6.mono b5.size)
  have R6 := Lib.hid ((R5.out.below e6).more e6.size)
  have huu : (U != U) = false := by cases U <;> rfl
  go_wp2_with fail
  refine (awake_any w6).mono ?_
  rintro e w7 ⟨rfl, e7⟩
  go_wp2
  go_ret
  exact ⟨rfl, b6.trans (e7.mono b6.size)⟩

theorem joins_law (A A' : Option Addr) (n c n' c' : Nat) (l t : List (List UInt8)) (w : World) (hr : Rd w w.heap.size 1 A n (strV l)) (ht : Rd w w.heap.size 1 A' n' (strV t)) (hsz : ∀ x ∈ l, x.length ≤ 9223372036854775807) (hst : ∀ x ∈ t, x.length ≤ 9223372036854775807) (hnc : n ≤ c) (hnc' : n' ≤ c') :
    Calls Tryd.prog 6 #[.slice A n c, .slice A' n' c'] w fun e w' => e = .returned (.bool true) ∧ Below w.heap.size w w' := by
  rcases join_err (namesL l) with h | h | h
  · exact joins_0 A A' n c n' c' l t w hr ht hsz hst hnc hnc' h
  · exact joins_11 A A' n c n' c' l t w hr ht hsz hst hnc hnc' h
  · exact joins_16 A A' n c n' c' l t w hr ht hsz hst hnc hnc' h
end Go.Proofs.YtofbgebgneinaaaDoor
