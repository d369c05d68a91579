/-
  Walk: the chapter's examples.
-/
import Derived.Test.YtpofkkoiicdpbaaSparseM
import Derived.Lib.SlBytesConst
namespace Go.Proofs.Ytpofkkoiicdpbaa
open Go.RowKit
set_option linter.unusedVariables false

theorem IsP.none (w : World) (B : Nat) : IsP w B none 0 0 [] := ⟨Nat.le_refl _, by simp [maxLen], fun _ => rfl, [], ⟨Rd.nil, by simp⟩, rfl⟩
theorem ok_nil : okF 0 [] = true := by decide
theorem octF_nil (i : Nat) : octF [] i = 0 := rfl
/-- The first example's file. -/
theorem ex_one (L1 : List Pc) (h : WInv [] 200 [97, 98] L1) : okF 202 L1 = true ∧ L1.length = 1 ∧ readF 202 L1 0 3 = [0, 0, 0] := by
  have hok := h.ok [] L1 0 200 [97, 98] ((okF_iff 0 []).1 ok_nil) (by simp)
  have h2 : sizeW 0 200 ([97, 98] : List UInt8).length = 202 := by decide
  rw [h2] at hok
  refine ⟨(okF_iff 202 L1).2 hok, ?_, ?_⟩
  · have hle := asc_low L1 1 h.1.1 (fun p hp => by
      obtain ⟨n, hn⟩ : ∃ n : Nat, p.1 = n := ⟨p.1.toNat, by have := (h.1.2 p hp).1; omega⟩
      have := std_has h.1.1 hp
      rw [hn, h.2.2] at this
      have ht : touched 200 2 n = true := by simpa [hasF, blk] using this
      unfold touched at ht
      simp only [Bool.and_eq_true, decide_eq_true_eq] at ht
      omega)
    have hlt : ∀ p ∈ L1, p.1 < 2 := fun p hp => by
      obtain ⟨n, hn⟩ : ∃ n : Nat, p.1 = n := ⟨p.1.toNat, by have := (h.1.2 p hp).1; omega⟩
      have := std_has h.1.1 hp
      rw [hn, h.2.2] at this
      have ht : touched 200 2 n = true := by simpa [hasF, blk] using this
      unfold touched at ht
      simp only [Bool.and_eq_true, decide_eq_true_eq] at ht
      omega
    have h1 : hasF L1 1 = true := by
      have := h.2.2 1
      rw [show ((1 : Nat) : Int) = 1 from rfl] at this
      rw [this]
      decide
    have hne : 0 < L1.length := by
      cases L1 with
      | nil => cases h1
      | cons a t => simp
    refine Nat.le_antisymm (Nat.le_of_not_lt fun h3 => ?_) hne
    obtain ⟨x, hx⟩ : ∃ x, L1[1]? = some x := ⟨_, List.getElem?_eq_getElem h3⟩
    have e1 := hle 1 x hx
    have e2 := hlt x (List.mem_iff_getElem?.2 ⟨1, hx⟩)
    omega
  · have hr : readF 202 L1 0 3 = tab 3 fun i => octF L1 (0 + i) := by rfl
    rw [hr]
    have : (tab 3 fun i => octF L1 (0 + i)) = tab 3 fun _ => 0 := (tab_ext _ _ _).2 fun i hi => by
      rw [h.2.1]
      unfold writO
      rw [if_neg (by omega)]
      rfl
    rw [this]; rfl
theorem ex_two (L1 L2 : List Pc) (h : WInv [] 200 [97, 98] L1) (h2 : CInv L1 201 L2) : readF 201 L2 199 9 = [0, 97] := by
  have hr : readF 201 L2 199 9 = tab 2 fun i => octF L2 (199 + i) := by rfl
  rw [hr]
  have : (tab 2 fun i => octF L2 (199 + i)) = tab 2 fun i => if i = 1 then 97 else 0 := (tab_ext _ _ _).2 fun i hi => by
    rw [h2.1, if_pos (by omega), h.2.1]
    unfold writO
    by_cases hi1 : i = 1
    · subst hi1; rfl
    · have : i = 0 := by omega
      subst this; rfl
  rw [this]; rfl

set_option maxHeartbeats 8000000 in
set_option maxRecDepth 100000 in
theorem awake_any (w : World) : Calls Try.prog 15 #[] w fun e w' => e = .returned (.bool true) ∧ Below w.heap.size w w' := by
  have kc := fun (w : World) (C : Array Value) (n c : Nat) => Lib.run_convert_bytes_const (P := Try.prog) w 25 5 C n c Try.underlying25 Try.underlying5
  obtain ⟨wx, hwx⟩ : ∃ wx, w.alloc (.cells #[.int .u8 97, .int .u8 98] 5 (2, 3)) = wx := ⟨_, rfl⟩
  have hbx : Below w.heap.size w wx := by rw [← hwx]; exact (Below.refl _ _).alloc (Nat.le_refl _) _
  have hsx : w.heap.size < wx.heap.size := by rw [← hwx]; simp
  have hBx : Blk wx w.heap.size 5 (2, 3) #[.int .u8 97, .int .u8 98] := by rw [← hwx]; exact Blk.new _ _ _ _
  have hrx : Rd wx wx.heap.size 1 (some ⟨w.heap.size, 0, none⟩) 2 (octV [97, 98]) :=
    ⟨rfl, fun _ => ⟨_, _, rfl, hsx, fun j u hu => by rw [Nat.zero_add, hBx.cell, ← Array.getElem?_toList]; exact hu⟩⟩
  have hW := Write_ok 0 200 none (some ⟨w.heap.size, 0, none⟩) 0 0 2 2 [] [97, 98] wx (IsP.none _ _) hrx (Nat.le_refl _) (by simp [maxLen]) ok_nil (by omega)
  have hs2 : sizeW 0 200 2 = 202 := by decide
  rw [hs2] at hW
  have HW := Lib.hid hW
  have HWX := Lib.hid hwx
  clear hW hwx hrx hs2 hBx
  go_enter Try.func15, Try.ntmps15
  go_wp2_with fail
  rw [HWX.out]
  refine HW.out.mono ?_
  rintro e w1 ⟨⟨A1, m1, c1, vw, L1, rfl, hI1, hinv, how⟩, h1⟩
  have hb1 := hbx.trans (h1.mono hbx.size)
  obtain ⟨q1, q2, q3⟩ := ex_one L1 hinv
  have hm1 : m1 = 1 := by rw [← hI1.count, q2]
  subst hm1
  have hbw : blocksW 200 2 = [1] := by decide
  rw [hbw] at how
  obtain ⟨Aw, cw, rfl, _, _, hrw⟩ := own_form how
  have hR := Read_ok 202 0 3 A1 1 c1 L1 (w1.alloc (.cells #[.int .i64 202, .slice A1 1 c1] 24)) (hI1.later ((Below.refl _ _).alloc (Nat.le_refl _) _)) (by omega) (by omega) (by omega) q1 (by omega) (by omega)
  rw [q3] at hR
  obtain ⟨wy, hwy⟩ : ∃ wy, w1.alloc (.cells #[.int .i64 202, .slice A1 1 c1] 24) = wy := ⟨_, rfl⟩
  have hby : Below w1.heap.size w1 wy := by rw [← hwy]; exact (Below.refl _ _).alloc (Nat.le_refl _) _
  have hBy : Blk wy w1.heap.size 24 (0, 0) #[.int .i64 202, .slice A1 1 c1] := by rw [← hwy]; exact Blk.new _ _ _ _
  rw [hwy] at hR
  have HR := Lib.hid hR
  have HI1 := Lib.hid hI1
  have HINV := Lib.hid hinv
  have HWY := Lib.hid hwy
  have HBY := Lib.hid hBy
  have HOK := Lib.hid q1
  have HRW := Lib.hid hrw
  have hb2 := hb1.trans (hby.mono hb1.size)
  have hly := hBy.lt
  clear hR hI1 hinv hwy hBy q1 q2 q3 how hrw hbw
  go_wp2_with fail
  rw [HWY.out]
  refine HR.out.mono ?_
  rintro e w2 ⟨⟨v2, rfl, hv2⟩, h2⟩
  have hb3 := hb2.trans (h2.mono hb2.size)
  have h12 := hby.trans (h2.mono hby.size)
  obtain ⟨A2, c2, rfl, _, _, _, hr2⟩ := hv2.form
  have hB2 := HBY.out.below h2 hly
  obtain ⟨d0, d1, _, _⟩ := blk2 hB2
  have hC := Cut_ok 202 201 A1 1 c1 L1 w2 (HI1.out.later h12) HOK.out (by omega)
  have HC := Lib.hid hC
  have HB2 := Lib.hid hB2
  have HR2 := Lib.hid hr2
  clear hC hB2 hr2 hv2
  go_wp2_with fail
  refine HC.out.mono ?_
  rintro e w3 ⟨hcp, h3⟩
  obtain ⟨A3, m3, c3, av, cv, L2, rfl, hI3, hst3, hcinv, hrd3⟩ := hcp
  have hwl : (wroteL L1 202 201).length = 1 := by
    have h201 : (201 : Int) / 128 = 1 := by decide
    have hh : hasF L1 1 = true := by
      have := HINV.out.2.2 1
      rw [show ((1 : Nat) : Int) = 1 from rfl] at this
      rw [this]
      decide
    unfold wroteL wroteC
    rw [h201, hh]; rfl
  have hsv : ∃ k, (wroteL L1 202 201).length = k := ⟨_, rfl⟩
  obtain ⟨kw, hkw⟩ := hsv
  rw [show ((201 : Nat) : Int) = 201 from rfl] at hcinv
  have hok3 : okF 201 L2 = true := (okF_iff 201 L2).2 (CInv.ok L1 L2 201 (by omega) (by omega) hst3 hcinv)
  have q4 := ex_two L1 L2 HINV.out hcinv
  have hn3 : m3 ≤ 3621 := by rw [← hI3.count]; exact ok_len ((okF_iff 201 L2).1 hok3)
  obtain ⟨wz, hwz⟩ : ∃ wz, w3.alloc (.cells #[.int .i64 201, .slice A3 m3 c3] 24) = wz := ⟨_, rfl⟩
  have hbz : Below w3.heap.size w3 wz := by rw [← hwz]; exact (Below.refl _ _).alloc (Nat.le_refl _) _
  have hR3 := Read_ok 201 199 9 A3 m3 c3 L2 wz (hI3.later hbz) (by omega) (by omega) (by omega) hok3 (by omega) (by omega)
  rw [q4] at hR3
  have HR3 := Lib.hid hR3
  have HWZ := Lib.hid hwz
  have h23 : Below wy.heap.size wy w3 := h2.trans (h3.mono h2.size)
  have h2z : Below wy.heap.size wy wz := h23.trans (hbz.mono h23.size)
  have hb4 := hb2.trans (h2z.mono hb2.size)
  have HR22 := Lib.hid ((HR2.out.below h3).below (hbz.mono h3.size))
  have hBz := HBY.out.below h2z hly
  obtain ⟨e0, e1, _, _⟩ := blk2 hBz
  have HBZ := Lib.hid hBz
  have hlz : w1.heap.size < wz.heap.size := by have := h2z.size; omega
  clear hR3 hwz hok3 q4 hI3 hst3 hcinv hrd3 hBz d0 d1 hwl hkw
  go_wp2_with fail
  rw [HWZ.out]
  refine HR3.out.mono ?_
  rintro e w4 ⟨⟨v4, rfl, hv4⟩, h4⟩
  obtain ⟨A4, c4, rfl, _, _, _, hr4⟩ := hv4.form
  have h24 := h2z.trans (h4.mono h2z.size)
  have hb5 := hb2.trans (h24.mono hb2.size)
  obtain ⟨g0, g1, _, _⟩ := blk2 (HBZ.out.below h4 hlz)
  obtain ⟨wu, hwu⟩ : ∃ wu, w4.alloc (.cells #[.int .u8 120] 5 (1, 2)) = wu := ⟨_, rfl⟩
  have hbu : Below w4.heap.size w4 wu := by rw [← hwu]; exact (Below.refl _ _).alloc (Nat.le_refl _) _
  have h2u := h24.trans (hbu.mono h24.size)
  have hWb := Write_bad 202 463488 16 A1 (some ⟨w4.heap.size, 0, none⟩) 1 c1 1 1 L1 wu (HI1.out.later (hby.trans (h2u.mono hby.size))) (by omega) (by omega) (by omega) (.inr (.inr ⟨HOK.out, by omega, by omega, rfl⟩))
  unfold refusedV at hWb
  have HWB := Lib.hid hWb
  have HWU := Lib.hid hwu
  have HR24 := Lib.hid ((HR22.out.below (h4.mono (Nat.le_trans h3.size hbz.size))).below (hbu.mono (Nat.le_trans (Nat.le_trans h3.size hbz.size) h4.size)))
  have HR44 := Lib.hid (hr4.below hbu)
  clear hWb hwu hr4 hv4 e0 e1
  go_wp2_with fail
  rw [HWU.out]
  refine HWB.out.mono ?_
  rintro e w5 ⟨rfl, h5⟩
  have h25 := h2u.trans (h5.mono h2u.size)
  obtain ⟨wv, hwv⟩ : ∃ wv, w5.alloc (.cells #[.int .i64 0, .slice none 0 0] 24) = wv := ⟨_, rfl⟩
  have hbv : Below w5.heap.size w5 wv := by rw [← hwv]; exact (Below.refl _ _).alloc (Nat.le_refl _) _
  have h2v := h25.trans (hbv.mono h25.size)
  obtain ⟨k0, k1, _, _⟩ := blk2 (HBY.out.below h25 hly)
  have hl5 : w1.heap.size < w5.heap.size := by have := h25.size; omega
  obtain ⟨w6, hw6⟩ : ∃ w6, wv.alloc (.cells #[.int .i64 1] 3) = w6 := ⟨_, rfl⟩
  have hb6 : Below wv.heap.size wv w6 := by rw [← hw6]; exact (Below.refl _ _).alloc (Nat.le_refl _) _
  have h26 := h2v.trans (hb6.mono h2v.size)
  have hvs : wv.heap.size = w5.heap.size + 1 := by rw [← hwv]; simp
  have hrn : Rd w6 w6.heap.size 1 (some ⟨wv.heap.size, 0, none⟩) 1 (intsV [1]) := by
    rw [← hw6]; exact (OwnB.lit wv wv.heap.size (Nat.le_refl _) 3 1 1 #[.int .i64 1] rfl (by simp [maxLen])).rd
  have hS := Ints_any Aw (some ⟨wv.heap.size, 0, none⟩) 1 cw 1 1 [1] [1] w6 ((HRW.out.below (hby.trans (h26.mono hby.size))).more (Nat.le_trans hby.size h26.size)) hrn (by omega)
  rw [decide_eq_true (rfl : ([1] : List Int) = [1]), hvs] at hS
  have HS := Lib.hid hS
  obtain ⟨l0, l1, _, _⟩ := blk2 (HBY.out.below h26 hly)
  rw [← hwv] at hw6
  have HW6 := Lib.hid hw6
  have HBY6 := Lib.hid (HBY.out.below h26 hly)
  have hlt6 : w1.heap.size < w6.heap.size := by have := h26.size; omega
  have hu5 : Below wu.heap.size wu w6 := (h5.trans (hbv.mono h5.size)).trans (hb6.mono (Nat.le_trans h5.size hbv.size))
  have hle1 : w2.heap.size ≤ wu.heap.size := Nat.le_trans (Nat.le_trans (Nat.le_trans h3.size hbz.size) h4.size) hbu.size
  have hle2 : w4.heap.size ≤ wu.heap.size := hbu.size
  have HR26 := Lib.hid (HR24.out.below (hu5.mono hle1))
  have HR46 := Lib.hid (HR44.out.below (hu5.mono hle2))
  clear hS hw6 hrn hvs hwv
  go_wp2_with fail
  rw [HW6.out]
  refine HS.out.mono ?_
  rintro e w7 ⟨rfl, h7⟩
  obtain ⟨m0, m1', _, _⟩ := blk2 (HBY6.out.below h7 hlt6)
  have hle3 : w2.heap.size ≤ w6.heap.size := Nat.le_trans hle1 hu5.size
  have hle4 : w4.heap.size ≤ w6.heap.size := Nat.le_trans hle2 hu5.size
  have hcv1 : (convert 25 9 (.slice A2 3 c2)).run Try.prog w7 = .ok (.string ⟨#[0, 0, 0]⟩) w7 := conv_bytes w7 25 9 5 (c := c2) Try.underlying25 Try.underlying5 Try.underlying9 (HR26.out.below (h7.mono hle3))
  have hcv2 : (convert 25 9 (.slice A4 2 c4)).run Try.prog w7 = .ok (.string ⟨#[0, 97]⟩) w7 := conv_bytes w7 25 9 5 (c := c4) Try.underlying25 Try.underlying5 Try.underlying9 (HR46.out.below (h7.mono hle4))
  have hb7 : Below w.heap.size w w7 := (hb2.trans (h26.mono hb2.size)).trans (h7.mono (Nat.le_trans hb2.size h26.size))
  clear k0 k1 l0 l1 kc
  go_wp2
  go_goals
  go_ret
  exact ⟨by simp, hb7⟩
end Go.Proofs.Ytpofkkoiicdpbaa
