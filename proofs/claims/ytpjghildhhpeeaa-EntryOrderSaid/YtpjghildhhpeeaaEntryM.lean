/-
  Walk: the law EntryBack.
-/
import Derived.Test.YtpjghildhhpeeaaEntryL
namespace Go.Proofs.Ytpjghildhhpeeaa
open Go.RowKit
set_option linter.unusedVariables false
theorem own_nil_or' {w : World} {base n sz : Nat} {e : TypeId} {v : Value} {xs : List Value} (h : w.ownsRow base e sz v n xs) {A : Option Addr} {c : Nat} (hv : v = .slice A n c) : A = none → c = 0 := by
  subst hv
  exact own_nil_or h

set_option maxHeartbeats 16000000 in
set_option maxRecDepth 100000 in
theorem back_law (A : Option Addr) (n c : Nat) (l : List Ent) (x : Ent) (w : World) (hr : Rd w w.heap.size 3 A n (rowE l)) (hn : n ≤ c) (hc : c ≤ maxLen) (hsz : ∀ x ∈ l, x.1.length ≤ 9223372036854775807) (hx : x.1.length ≤ 9223372036854775807) :
    Calls Try.prog 4 #[.slice A n c, vE x] w fun e w' => e = .returned (.bool true) ∧ Below w.heap.size w w' := by
  obtain ⟨nm0, ino, ty⟩ := x
  simp only at hx
  have hx2 : fewS nm0 = fewS nm0 := rfl
  obtain ⟨L, hL⟩ : ∃ L, fewE l = L := ⟨_, rfl⟩
  have hLn : L.length ≤ 33 := by rw [← hL]; exact few_len l
  have hLs : ∀ y ∈ L, y.1.length ≤ 1000000 := by rw [← hL]; exact few_names l
  have hLL : fewE L = L := by rw [← hL]; exact few_few l
  obtain ⟨nm, hnm⟩ : ∃ nm, fewS nm0 = nm := ⟨_, rfl⟩
  have hnl : nm.length ≤ 60 := by rw [← hnm]; exact fewS_len nm0
  obtain ⟨s0, hs0⟩ : ∃ s, st nm0 = s := ⟨_, rfl⟩
  have hfs : ∀ W, Calls Try.prog 8 #[.string s0] W fun e w' => e = .returned (.string (st nm)) ∧ W = w' := fun W => by
    have := few_any s0 W; rw [← hs0, oc_st, hnm] at this; rw [← hs0]; exact this
  obtain ⟨s, hs⟩ : ∃ s, st nm = s := ⟨_, rfl⟩
  have hos : oc s = nm := by rw [← hs, oc_st]
  have hss : s.size ≤ 60 := by rw [← oc_len, hos]; exact hnl
  show Calls _ _ #[_, .agg #[.string (st nm0), .int .i64 ino, .int .i64 ty]] _ _
  rw [hs0]
  rw [hs] at hfs
  obtain ⟨wx, hwx⟩ : ∃ wx, w.alloc (.cells #[.string s0, .int .i64 ino, .int .i64 ty] 24) = wx := ⟨_, rfl⟩
  have hbx : Below w.heap.size w wx := by rw [← hwx]; exact (Below.refl _ _).alloc (Nat.le_refl _) _
  have hsx : w.heap.size < wx.heap.size := by rw [← hwx]; simp
  have hB0 : Blk wx w.heap.size 24 (0, 0) #[.string s0, .int .i64 ino, .int .i64 ty] := by rw [← hwx]; exact Blk.new w _ _ _
  have hF1 := Few_any A n c l wx ((hr.below hbx).more hbx.size) hn hc hsz
  rw [hL] at hF1
  have hnl2 : nm.length ≤ 1000000 := by omega
  have hx' : vE (nm, ino, ty) = .agg #[.string s, .int .i64 ino, .int .i64 ty] := by rw [← hs]; rfl
  have HF1 := Lib.hid hF1
  have HFS := Lib.hid hfs
  have HWX := Lib.hid hwx
  have HB0 := Lib.hid hB0
  have HLS := Lib.hid hLs
  have HLL := Lib.hid hLL
  have HOS := Lib.hid hos
  have HXV := Lib.hid hx'
  obtain ⟨m, hm⟩ : ∃ m, L.length = m := ⟨_, rfl⟩
  have HM := Lib.hid hm
  rw [hm] at hLn
  clear hF1 hfs hwx hB0 hLs hLL hos hx' hr hsz hL hnm hs hs0 hx2 hnl hm hx
  have HNL := Lib.hid (show (nm, ino, ty).1.length ≤ 1000000 from hnl2)
  have HLB : Hid (∀ y ∈ L, y.1.length ≤ 9223372036854775807) := Lib.hid fun y hy => Nat.le_trans (HLS.out y hy) (by omega)
  have hal : (addE L (nm, ino, ty)).1.length ≤ 60 := by
    unfold addE
    repeat' split
    all_goals (try (show 0 ≤ 60; omega))
    show (insE L (nm, ino, ty)).length ≤ 60
    unfold insE loE hiE
    have h1 := List.length_filter_le (fun y : Ent => decide (cmpL y.1 nm = -1)) L
    have h2 := List.length_filter_le (fun y : Ent => decide (cmpL y.1 nm = 1)) L
    simp only [List.length_append, List.length_cons, List.length_nil]
    rename_i h3
    have h4 : L.length ≤ 29 := by omega
    omega
  have hbk := add_back L (nm, ino, ty)
  have htb := take_back L nm
  obtain ⟨ea, hea⟩ : ∃ ea, (addE L (nm, ino, ty)).2 = ea := ⟨_, rfl⟩
  obtain ⟨LA, hLA⟩ : ∃ LA, (addE L (nm, ino, ty)).1 = LA := ⟨_, rfl⟩
  rw [hLA] at hal hbk
  rw [hea] at hbk
  obtain ⟨mA, hmA⟩ : ∃ mA, LA.length = mA := ⟨_, rfl⟩
  rw [hmA] at hal hbk
  have had : ∀ (A1 : Option Addr) (c1 : Nat) (W : World), Rd W W.heap.size 3 A1 m (rowE L) → m ≤ c1 → (A1 = none → c1 = 0) → Calls Try.prog 11 #[.slice A1 m c1, .agg #[.string s, .int .i64 ino, .int .i64 ty]] W fun e w' => (∃ v, e = .returned (.tuple #[v, .int .i64 ea]) ∧ w'.ownsRow W.heap.size 24 3 v mA (rowE LA)) ∧ Below W.heap.size W w' := fun A1 c1 W h h2 h3 => by
    have := Add_any A1 m c1 L (nm, ino, ty) W h (by omega) h2 h3 HLS.out HNL.out
    unfold OwnE at this
    rw [hea, hLA, HXV.out, hmA] at this
    exact this
  obtain ⟨et, het⟩ : ∃ et, (takeE L nm).2 = et := ⟨_, rfl⟩
  obtain ⟨LT, hLT⟩ : ∃ LT, (takeE L nm).1 = LT := ⟨_, rfl⟩
  rw [het, hLT] at htb
  obtain ⟨mT, hmT⟩ : ∃ mT, LT.length = mT := ⟨_, rfl⟩
  rw [hmT] at htb
  have hta : ∀ (A1 : Option Addr) (c1 : Nat) (W : World), Rd W W.heap.size 3 A1 m (rowE L) → m ≤ c1 → (A1 = none → c1 = 0) → Calls Try.prog 13 #[.slice A1 m c1, .string s] W fun e w' => (∃ v, e = .returned (.tuple #[v, .int .i64 et]) ∧ w'.ownsRow W.heap.size 24 3 v mT (rowE LT)) ∧ Below W.heap.size W w' := fun A1 c1 W h h2 h3 => by
    have := Take_any A1 m c1 L s W h (by omega) h2 h3 HLS.out (by omega)
    unfold OwnE at this
    rw [HOS.out, het, hLT, hmT] at this
    exact this
  have hmLA : mayL LA = true → ∀ y ∈ LA, y.1.length ≤ 1000000 := fun h y hy => by
    have := (okE_bounds y (((mayL_iff LA).1 h).1.1 y hy)).2.1
    omega
  have hmLT : mayL LT = true → ∀ y ∈ LT, y.1.length ≤ 1000000 := fun h y hy => by
    have := (okE_bounds y (((mayL_iff LT).1 h).1.1 y hy)).2.1
    omega
  have HAD := Lib.hid had
  have HTA := Lib.hid hta
  have HMA := Lib.hid hmA
  have HMT := Lib.hid hmT
  have hgd : Try.prog.eqGuardType Try.prog.depth 24 = false := by kernel_rfl
  have heq := ent_eq s s ino ino ty ty
  rw [decide_eq_true rfl] at heq
  clear had hta hea hLA het hLT hmA hmT
  have hA : ea ≠ 0 ∨ (ea = 0 ∧ mA = m + 1 ∧ (∀ (A3 : Option Addr) (c3 : Nat) (W : World), Rd W W.heap.size 3 A3 mA (rowE LA) →
      (Calls Try.prog 9 #[.slice A3 mA c3, .string s] W fun e w' => e = .returned (.tuple #[.agg #[.string s, .int .i64 ino, .int .i64 ty], .int .i64 0]) ∧ Below W.heap.size W w') ∧
      (mA ≤ c3 → (A3 = none → c3 = 0) → Calls Try.prog 13 #[.slice A3 mA c3, .string s] W fun e w' => (∃ v, e = .returned (.tuple #[v, .int .i64 0]) ∧ w'.ownsRow W.heap.size 24 3 v m (rowE L)) ∧ Below W.heap.size W w') ∧
      (Calls Try.prog 17 #[.slice A3 mA c3] W fun e w' => e = .returned (.bool true) ∧ Below W.heap.size W w') ∧
      ∀ y ∈ L, Calls Try.prog 9 #[.slice A3 mA c3, .string (st y.1)] W fun e w' => e = .returned (.tuple #[.agg #[.string (st y.1), .int .i64 y.2.1, .int .i64 y.2.2], .int .i64 0]) ∧ Below W.heap.size W w')) := by
    by_cases h0 : ea = 0
    · obtain ⟨a1, a2, a3, a4, a5⟩ := hbk h0
      rw [HM.out] at a2
      refine .inr ⟨h0, a2, fun A3 c3 W h => ⟨?_, fun g1 g2 => ?_, ?_, fun y hy => ?_⟩⟩
      · have := Find_any A3 mA c3 LA s W h (by omega) (hmLA a1) (by omega)
        rw [HOS.out, a3, HXV.out] at this
        exact this
      · have := Take_any A3 mA c3 LA s W h (by omega) g1 g2 (hmLA a1) (by omega)
        unfold OwnE at this
        rw [HOS.out, a4, HM.out] at this
        exact this
      · have := May_any A3 mA c3 LA W h (by omega) (hmLA a1)
        rw [a1] at this
        exact this
      · have := Find_any A3 mA c3 LA (st y.1) W h (by omega) (hmLA a1) (by rw [st_size]; exact HLS.out y hy)
        rw [oc_st, a5 y hy] at this
        exact this
    · exact .inl h0
  have hT : et ≠ 0 ∨ (et = 0 ∧ mT + 1 = m ∧ ∃ (sz : ByteArray) (zi zt : Int), ∀ (A3 : Option Addr) (c3 : Nat) (W : World), Rd W W.heap.size 3 A3 mT (rowE LT) →
      (Calls Try.prog 9 #[.slice A3 mT c3, .string s] W fun e w' => e = .returned (.tuple #[.agg #[.string sz, .int .i64 zi, .int .i64 zt], .int .i64 6]) ∧ Below W.heap.size W w') ∧
      (Calls Try.prog 17 #[.slice A3 mT c3] W fun e w' => e = .returned (.bool true) ∧ Below W.heap.size W w')) := by
    by_cases h0 : et = 0
    · obtain ⟨a1, a2, a3⟩ := htb h0
      rw [HM.out] at a2
      refine .inr ⟨h0, a2, st (findE LT nm).1.1, (findE LT nm).1.2.1, (findE LT nm).1.2.2, fun A3 c3 W h => ⟨?_, ?_⟩⟩
      · have := Find_any A3 mT c3 LT s W h (by omega) (hmLT a1) (by omega)
        rw [HOS.out, a3] at this
        exact this
      · have := May_any A3 mT c3 LT W h (by omega) (hmLT a1)
        rw [a1] at this
        exact this
    · exact .inl h0
  have HAA := Lib.hid hA
  have HTT := Lib.hid hT
  clear hbk htb hmLA hmLT hA hT
  rcases HAA.out with hA | ⟨rfl, hma, hAB⟩
  · have hae : (ea == 0) = false := beq_false_of_ne hA
    clear hA
    rcases HTT.out with hT | ⟨rfl, hmt, sz, zi, zt, hTB⟩
    · have hte : (et == 0) = false := beq_false_of_ne hT
      clear hT
      go_enter Try.func4, Try.ntmps4
      go_wp2_with fail
      rw [HWX.out]
      refine HF1.out.mono ?_
      rintro e w1 ⟨⟨v1, rfl, o1⟩, h1⟩
      have b1 := hbx.trans (h1.mono hbx.size)
      obtain ⟨x0, x1, x2, xf0, _⟩ := blk3 (HB0.out.below h1 hsx)
      unfold OwnE at o1
      rw [HM.out] at o1
      have HO1 := Lib.hid o1
      clear o1
      go_wp2_with fail
      refine (HFS.out _).mono ?_
      rintro e w0 ⟨rfl, rfl⟩
      obtain ⟨wy, hwy⟩ : ∃ wy, w1.setCell ⟨w.heap.size, 0, none⟩ (.string s) = wy := ⟨_, rfl⟩
      have b2 : Below w.heap.size w wy := by rw [← hwy]; exact b1.setCell (Nat.le_refl _) _
      have hsy : wx.heap.size ≤ wy.heap.size := by rw [← hwy]; have := h1.size; simpa [World.setCell] using this
      have hBX : Blk wy w.heap.size 24 (0, 0) #[.string s, .int .i64 ino, .int .i64 ty] := by
        rw [← hwy]
        have := (HB0.out.below h1 hsx).set_ 0 (.string s)
        simpa using this
      have o1y : wy.ownsRow wx.heap.size 24 3 v1 m (rowE L) := by rw [← hwy]; exact own_setCell HO1.out (by show w.heap.size < _; omega) _
      obtain ⟨A1, c1, rfl, hn1, hm1, r1⟩ := own_form o1y
      have hnil1 := own_nil_or o1y
      have HNIL := Lib.hid hnil1
      have R1 := Lib.hid r1
      have HBX := Lib.hid hBX
      have HWY := Lib.hid hwy
      clear o1y r1 hBX hwy hnil1 HO1
      obtain ⟨x0, x1, x2, xf0, _⟩ := blk3 HBX.out
      go_wp2_with fail
      rw [HWY.out]
      refine (HAD.out _ _ _ R1.out hn1 HNIL.out).mono ?_
      rintro e w3 ⟨⟨v3, rfl, o3⟩, h3⟩
      have b3 : Below w.heap.size w w3 := b2.trans (h3.mono b2.size)
      have R1 := Lib.hid ((R1.out.below h3).more h3.size)
      have HBX := Lib.hid (HBX.out.below h3 HBX.out.lt)
      obtain ⟨x0, x1, x2, xf0, _⟩ := blk3 HBX.out
      have xl := HBX.out.lt
      go_wp2_with fail
      refine (HTA.out _ _ _ R1.out hn1 HNIL.out).mono ?_
      rintro e w4 ⟨⟨v7, rfl, o7⟩, h4⟩
      have b4 : Below w.heap.size w w4 := b3.trans (h4.mono b3.size)
      have R1 := Lib.hid ((R1.out.below h4).more h4.size)
      have HBX := Lib.hid (HBX.out.below h4 HBX.out.lt)
      obtain ⟨x0, x1, x2, xf0, _⟩ := blk3 HBX.out
      have xl := HBX.out.lt
      go_wp2_with fail
      refine (awake_any _).mono ?_
      rintro e w5 ⟨rfl, h5⟩
      have b5 : Below w.heap.size w w5 := b4.trans (h5.mono b4.size)
      have R1 := Lib.hid ((R1.out.below h5).more h5.size)
      have HBX := Lib.hid (HBX.out.below h5 HBX.out.lt)
      obtain ⟨x0, x1, x2, xf0, _⟩ := blk3 HBX.out
      have xl := HBX.out.lt
      go_wp2
      go_ret
      exact ⟨rfl, b5⟩
    · have hlt : ((mT : Int) != (m : Int) - 1) = false := by rw [bne_eq_false_iff_eq]; omega
      have HTB := Lib.hid hTB
      clear hTB hmt
      go_enter Try.func4, Try.ntmps4
      go_wp2_with fail
      rw [HWX.out]
      refine HF1.out.mono ?_
      rintro e w1 ⟨⟨v1, rfl, o1⟩, h1⟩
      have b1 := hbx.trans (h1.mono hbx.size)
      obtain ⟨x0, x1, x2, xf0, _⟩ := blk3 (HB0.out.below h1 hsx)
      unfold OwnE at o1
      rw [HM.out] at o1
      have HO1 := Lib.hid o1
      clear o1
      go_wp2_with fail
      refine (HFS.out _).mono ?_
      rintro e w0 ⟨rfl, rfl⟩
      obtain ⟨wy, hwy⟩ : ∃ wy, w1.setCell ⟨w.heap.size, 0, none⟩ (.string s) = wy := ⟨_, rfl⟩
      have b2 : Below w.heap.size w wy := by rw [← hwy]; exact b1.setCell (Nat.le_refl _) _
      have hsy : wx.heap.size ≤ wy.heap.size := by rw [← hwy]; have := h1.size; simpa [World.setCell] using this
      have hBX : Blk wy w.heap.size 24 (0, 0) #[.string s, .int .i64 ino, .int .i64 ty] := by
        rw [← hwy]
        have := (HB0.out.below h1 hsx).set_ 0 (.string s)
        simpa using this
      have o1y : wy.ownsRow wx.heap.size 24 3 v1 m (rowE L) := by rw [← hwy]; exact own_setCell HO1.out (by show w.heap.size < _; omega) _
      obtain ⟨A1, c1, rfl, hn1, hm1, r1⟩ := own_form o1y
      have hnil1 := own_nil_or o1y
      have HNIL := Lib.hid hnil1
      have R1 := Lib.hid r1
      have HBX := Lib.hid hBX
      have HWY := Lib.hid hwy
      clear o1y r1 hBX hwy hnil1 HO1
      obtain ⟨x0, x1, x2, xf0, _⟩ := blk3 HBX.out
      go_wp2_with fail
      rw [HWY.out]
      refine (HAD.out _ _ _ R1.out hn1 HNIL.out).mono ?_
      rintro e w3 ⟨⟨v3, rfl, o3⟩, h3⟩
      have b3 : Below w.heap.size w w3 := b2.trans (h3.mono b2.size)
      have R1 := Lib.hid ((R1.out.below h3).more h3.size)
      have HBX := Lib.hid (HBX.out.below h3 HBX.out.lt)
      obtain ⟨x0, x1, x2, xf0, _⟩ := blk3 HBX.out
      have xl := HBX.out.lt
      go_wp2_with fail
      refine (HTA.out _ _ _ R1.out hn1 HNIL.out).mono ?_
      rintro e w4 ⟨⟨v7, rfl, o7⟩, h4⟩
      have b4 : Below w.heap.size w w4 := b3.trans (h4.mono b3.size)
      have R1 := Lib.hid ((R1.out.below h4).more h4.size)
      have HBX := Lib.hid (HBX.out.below h4 HBX.out.lt)
      obtain ⟨x0, x1, x2, xf0, _⟩ := blk3 HBX.out
      have xl := HBX.out.lt
      obtain ⟨A7, c7, rfl, hn7, hm7, r7⟩ := own_form o7
      have R7 := Lib.hid r7
      clear r7
      go_wp2_with fail
      refine ((HTB.out _ c7 _ R7.out).1).mono ?_
      rintro e w5 ⟨rfl, h5⟩
      have b5 : Below w.heap.size w w5 := b4.trans (h5.mono b4.size)
      have R1 := Lib.hid ((R1.out.below h5).more h5.size)
      have R7 := Lib.hid ((R7.out.below h5).more h5.size)
      have HBX := Lib.hid (HBX.out.below h5 HBX.out.lt)
      obtain ⟨x0, x1, x2, xf0, _⟩ := blk3 HBX.out
      have xl := HBX.out.lt
      obtain ⟨w6, hw6⟩ : ∃ w6, w5.alloc (.cells #[.string sz, .int .i64 zi, .int .i64 zt] 24) = w6 := ⟨_, rfl⟩
      have h6 : Below w5.heap.size w5 w6 := by rw [← hw6]; exact (Below.refl _ _).alloc (Nat.le_refl _) _
      have HZ7 : Hid (Blk w6 w5.heap.size 24 (0, 0) #[.string sz, .int .i64 zi, .int .i64 zt]) := Lib.hid (by rw [← hw6]; exact Blk.new w5 _ _ _)
      have HW6 := Lib.hid hw6
      clear hw6
      have b6 : Below w.heap.size w w6 := b5.trans (h6.mono b5.size)
      have R1 := Lib.hid ((R1.out.below h6).more h6.size)
      have R7 := Lib.hid ((R7.out.below h6).more h6.size)
      have HBX := Lib.hid (HBX.out.below h6 HBX.out.lt)
      obtain ⟨x0, x1, x2, xf0, _⟩ := blk3 HBX.out
      have xl := HBX.out.lt
      go_wp2_with fail
      rw [HW6.out]
      refine ((HTB.out _ c7 _ R7.out).2).mono ?_
      rintro e w7 ⟨rfl, h7⟩
      have b7 : Below w.heap.size w w7 := b6.trans (h7.mono b6.size)
      have R1 := Lib.hid ((R1.out.below h7).more h7.size)
      have R7 := Lib.hid ((R7.out.below h7).more h7.size)
      have HBX := Lib.hid (HBX.out.below h7 HBX.out.lt)
      have HZ7 := Lib.hid (HZ7.out.below h7 HZ7.out.lt)
      obtain ⟨x0, x1, x2, xf0, _⟩ := blk3 HBX.out
      have xl := HBX.out.lt
      go_wp2_with fail
      refine (awake_any _).mono ?_
      rintro e w8 ⟨rfl, h8⟩
      have b8 : Below w.heap.size w w8 := b7.trans (h8.mono b7.size)
      have R1 := Lib.hid ((R1.out.below h8).more h8.size)
      have R7 := Lib.hid ((R7.out.below h8).more h8.size)
      have HBX := Lib.hid (HBX.out.below h8 HBX.out.lt)
      have HZ7 := Lib.hid (HZ7.out.below h8 HZ7.out.lt)
      obtain ⟨x0, x1, x2, xf0, _⟩ := blk3 HBX.out
      have xl := HBX.out.lt
      go_wp2
      go_ret
      exact ⟨rfl, b8⟩
  · have HAB := Lib.hid hAB
    have hl2 : ((mA : Int) != (m : Int) + 1) = false := by rw [bne_eq_false_iff_eq]; omega
    clear hAB hma
    rcases HTT.out with hT | ⟨rfl, hmt, sz, zi, zt, hTB⟩
    · have hte : (et == 0) = false := beq_false_of_ne hT
      clear hT
      go_enter Try.func4, Try.ntmps4
      go_wp2_with fail
      rw [HWX.out]
      refine HF1.out.mono ?_
      rintro e w1 ⟨⟨v1, rfl, o1⟩, h1⟩
      have b1 := hbx.trans (h1.mono hbx.size)
      obtain ⟨x0, x1, x2, xf0, _⟩ := blk3 (HB0.out.below h1 hsx)
      unfold OwnE at o1
      rw [HM.out] at o1
      have HO1 := Lib.hid o1
      clear o1
      go_wp2_with fail
      refine (HFS.out _).mono ?_
      rintro e w0 ⟨rfl, rfl⟩
      obtain ⟨wy, hwy⟩ : ∃ wy, w1.setCell ⟨w.heap.size, 0, none⟩ (.string s) = wy := ⟨_, rfl⟩
      have b2 : Below w.heap.size w wy := by rw [← hwy]; exact b1.setCell (Nat.le_refl _) _
      have hsy : wx.heap.size ≤ wy.heap.size := by rw [← hwy]; have := h1.size; simpa [World.setCell] using this
      have hBX : Blk wy w.heap.size 24 (0, 0) #[.string s, .int .i64 ino, .int .i64 ty] := by
        rw [← hwy]
        have := (HB0.out.below h1 hsx).set_ 0 (.string s)
        simpa using this
      have o1y : wy.ownsRow wx.heap.size 24 3 v1 m (rowE L) := by rw [← hwy]; exact own_setCell HO1.out (by show w.heap.size < _; omega) _
      obtain ⟨A1, c1, rfl, hn1, hm1, r1⟩ := own_form o1y
      have hnil1 := own_nil_or o1y
      have HNIL := Lib.hid hnil1
      have R1 := Lib.hid r1
      have HBX := Lib.hid hBX
      have HWY := Lib.hid hwy
      clear o1y r1 hBX hwy hnil1 HO1
      obtain ⟨x0, x1, x2, xf0, _⟩ := blk3 HBX.out
      go_wp2_with fail
      rw [HWY.out]
      refine (HAD.out _ _ _ R1.out hn1 HNIL.out).mono ?_
      rintro e w3 ⟨⟨v3, rfl, o3⟩, h3⟩
      have b3 : Below w.heap.size w w3 := b2.trans (h3.mono b2.size)
      have R1 := Lib.hid ((R1.out.below h3).more h3.size)
      have HBX := Lib.hid (HBX.out.below h3 HBX.out.lt)
      obtain ⟨x0, x1, x2, xf0, _⟩ := blk3 HBX.out
      have xl := HBX.out.lt
      obtain ⟨A3, c3, rfl, hn3, hm3, r3⟩ := own_form o3
      have hnil3 := own_nil_or o3
      have R3 := Lib.hid r3
      clear r3
      have HNIL3 := Lib.hid hnil3
      clear hnil3
      go_wp2_with fail
      refine ((HAB.out _ c3 _ R3.out).1).mono ?_
      rintro e w4 ⟨rfl, h4⟩
      have b4 : Below w.heap.size w w4 := b3.trans (h4.mono b3.size)
      have R1 := Lib.hid ((R1.out.below h4).more h4.size)
      have R3 := Lib.hid ((R3.out.below h4).more h4.size)
      have HBX := Lib.hid (HBX.out.below h4 HBX.out.lt)
      obtain ⟨x0, x1, x2, xf0, _⟩ := blk3 HBX.out
      have xl := HBX.out.lt
      obtain ⟨w5, hw5⟩ : ∃ w5, w4.alloc (.cells #[.string s, .int .i64 ino, .int .i64 ty] 24) = w5 := ⟨_, rfl⟩
      have h5 : Below w4.heap.size w4 w5 := by rw [← hw5]; exact (Below.refl _ _).alloc (Nat.le_refl _) _
      have HY : Hid (Blk w5 w4.heap.size 24 (0, 0) #[.string s, .int .i64 ino, .int .i64 ty]) := Lib.hid (by rw [← hw5]; exact Blk.new w4 _ _ _)
      have HW5 := Lib.hid hw5
      clear hw5
      have b5 : Below w.heap.size w w5 := b4.trans (h5.mono b4.size)
      have R1 := Lib.hid ((R1.out.below h5).more h5.size)
      have R3 := Lib.hid ((R3.out.below h5).more h5.size)
      have HBX := Lib.hid (HBX.out.below h5 HBX.out.lt)
      obtain ⟨x0, x1, x2, xf0, _⟩ := blk3 HBX.out
      have xl := HBX.out.lt
      go_wp2_with fail
      rw [HW5.out]
      refine ((HAB.out _ c3 _ R3.out).2.1 hn3 HNIL3.out).mono ?_
      rintro e w6 ⟨⟨v5, rfl, o5⟩, h6⟩
      have b6 : Below w.heap.size w w6 := b5.trans (h6.mono b5.size)
      have R1 := Lib.hid ((R1.out.below h6).more h6.size)
      have R3 := Lib.hid ((R3.out.below h6).more h6.size)
      have HBX := Lib.hid (HBX.out.below h6 HBX.out.lt)
      have HY := Lib.hid (HY.out.below h6 HY.out.lt)
      obtain ⟨x0, x1, x2, xf0, _⟩ := blk3 HBX.out
      have xl := HBX.out.lt
      obtain ⟨A5, c5, rfl, hn5, hm5, r5⟩ := own_form o5
      have R5 := Lib.hid r5
      clear r5
      obtain ⟨y0, y1, y2, _⟩ := blk3 HY.out
      go_wp2_with fail
      refine (rSame_any A5 A1 m c5 m c1 L L _ R5.out R1.out (by omega) (by omega)).mono ?_
      rintro e w7 ⟨rfl, h7⟩
      have b7 : Below w.heap.size w w7 := b6.trans (h7.mono b6.size)
      have R1 := Lib.hid ((R1.out.below h7).more h7.size)
      have R3 := Lib.hid ((R3.out.below h7).more h7.size)
      have R5 := Lib.hid ((R5.out.below h7).more h7.size)
      have HBX := Lib.hid (HBX.out.below h7 HBX.out.lt)
      have HY := Lib.hid (HY.out.below h7 HY.out.lt)
      obtain ⟨x0, x1, x2, xf0, _⟩ := blk3 HBX.out
      have xl := HBX.out.lt
      rw [decide_eq_true (rfl : L = L)]
      go_wp2_with fail
      refine ((HAB.out _ c3 _ R3.out).2.2.1).mono ?_
      rintro e w8 ⟨rfl, h8⟩
      have b8 : Below w.heap.size w w8 := b7.trans (h8.mono b7.size)
      have R1 := Lib.hid ((R1.out.below h8).more h8.size)
      have R3 := Lib.hid ((R3.out.below h8).more h8.size)
      have R5 := Lib.hid ((R5.out.below h8).more h8.size)
      have HBX := Lib.hid (HBX.out.below h8 HBX.out.lt)
      have HY := Lib.hid (HY.out.below h8 HY.out.lt)
      obtain ⟨x0, x1, x2, xf0, _⟩ := blk3 HBX.out
      have xl := HBX.out.lt
      go_wp2
      go_loopw [11] (fun i wr => ∃ k : Nat, k ≤ m ∧ i = .int .i64 k ∧ Below w8.heap.size w8 wr) (fun i _ => m - (intOf i).toNat)
      case atStart => exact ⟨0, Nat.zero_le _, rfl, Below.refl _ _⟩
      case round =>
        obtain ⟨k, hk, rfl, hbw⟩ := hrel
        by_cases hlt : k < m
        · obtain ⟨g, o, y, hA1, hg, hy, c0, c1', c2⟩ := ent_at (R1.out.below hbw) hlt
          subst hA1
          have hC := fun W (h : Rd W W.heap.size 3 A3 mA (rowE LA)) => (HAB.out A3 c3 W h).2.2.2 y (List.mem_iff_getElem?.2 ⟨k, hy⟩)
          have heqy := ent_eq (st y.1) (st y.1) y.2.1 y.2.1 y.2.2 y.2.2
          rw [decide_eq_true rfl] at heqy
          obtain ⟨ynm, yi, yt⟩ := y
          obtain ⟨sy, hsy0⟩ : ∃ sy, st ynm = sy := ⟨_, rfl⟩
          simp only [hsy0] at hC heqy c0 c1' c2
          have i0 : (0 : Int) ≤ (k : Int) := Int.natCast_nonneg _
          have i1 : (k : Int) < (m : Int) := by omega
          have HC := Lib.hid hC
          have HGS := Lib.hid hg
          clear hC hy hsy0
          go_wp2_with fail
          refine (HC.out wr ((R3.out.below hbw).more hbw.size)).mono ?_
          rintro e w' ⟨rfl, h'⟩
          have hbw' := hbw.trans (h'.mono hbw.size)
          have hgw : g < w'.heap.size := by have := HGS.out; have := hbw'.size; omega
          have c0' := (h'.cell (p := ⟨g, o + k * 3, none⟩) (by have := HGS.out; have := hbw.size; show g < _; omega)).trans c0
          have c1'' := (h'.cell (p := ⟨g, o + k * 3 + 1, none⟩) (by have := HGS.out; have := hbw.size; show g < _; omega)).trans c1'
          have c2' := (h'.cell (p := ⟨g, o + k * 3 + 2, none⟩) (by have := HGS.out; have := hbw.size; show g < _; omega)).trans c2
          clear c0 c1' c2
          go_wp2_with fail
          go_quiet (fail)
          go_wp2
          go_roundw
          case rel => exact ⟨k + 1, by omega, by go_num, below_drewN (hbw'.alloc hbw'.size _) _⟩
          case measure => simp [intOf]; omega
        · obtain rfl : k = m := by omega
          obtain ⟨m, hmk⟩ : ∃ m, m = k := ⟨_, rfl⟩
          subst hmk
          have b28 : Below w.heap.size w wr := b8.trans (hbw.mono b8.size)
          have R1 := Lib.hid ((R1.out.below hbw).more hbw.size)
          have HBX := Lib.hid (HBX.out.below hbw HBX.out.lt)
          obtain ⟨x0, x1, x2, xf0, _⟩ := blk3 HBX.out
          have xl := HBX.out.lt
          go_wp2_with fail
          refine (HTA.out _ _ _ R1.out hn1 HNIL.out).mono ?_
          rintro e w29 ⟨⟨v7, rfl, o7⟩, h29⟩
          have b29 : Below w.heap.size w w29 := b28.trans (h29.mono b28.size)
          have R1 := Lib.hid ((R1.out.below h29).more h29.size)
          have HBX := Lib.hid (HBX.out.below h29 HBX.out.lt)
          obtain ⟨x0, x1, x2, xf0, _⟩ := blk3 HBX.out
          have xl := HBX.out.lt
          go_wp2_with fail
          refine (awake_any _).mono ?_
          rintro e w30 ⟨rfl, h30⟩
          have b30 : Below w.heap.size w w30 := b29.trans (h30.mono b29.size)
          have R1 := Lib.hid ((R1.out.below h30).more h30.size)
          have HBX := Lib.hid (HBX.out.below h30 HBX.out.lt)
          obtain ⟨x0, x1, x2, xf0, _⟩ := blk3 HBX.out
          have xl := HBX.out.lt
          go_wp2
          go_ret
          exact ⟨rfl, b30⟩
    · have hlt : ((mT : Int) != (m : Int) - 1) = false := by rw [bne_eq_false_iff_eq]; omega
      have HTB := Lib.hid hTB
      clear hTB hmt
      go_enter Try.func4, Try.ntmps4
      go_wp2_with fail
      rw [HWX.out]
      refine HF1.out.mono ?_
      rintro e w1 ⟨⟨v1, rfl, o1⟩, h1⟩
      have b1 := hbx.trans (h1.mono hbx.size)
      obtain ⟨x0, x1, x2, xf0, _⟩ := blk3 (HB0.out.below h1 hsx)
      unfold OwnE at o1
      rw [HM.out] at o1
      have HO1 := Lib.hid o1
      clear o1
      go_wp2_with fail
      refine (HFS.out _).mono ?_
      rintro e w0 ⟨rfl, rfl⟩
      obtain ⟨wy, hwy⟩ : ∃ wy, w1.setCell ⟨w.heap.size, 0, none⟩ (.string s) = wy := ⟨_, rfl⟩
      have b2 : Below w.heap.size w wy := by rw [← hwy]; exact b1.setCell (Nat.le_refl _) _
      have hsy : wx.heap.size ≤ wy.heap.size := by rw [← hwy]; have := h1.size; simpa [World.setCell] using this
      have hBX : Blk wy w.heap.size 24 (0, 0) #[.string s, .int .i64 ino, .int .i64 ty] := by
        rw [← hwy]
        have := (HB0.out.below h1 hsx).set_ 0 (.string s)
        simpa using this
      have o1y : wy.ownsRow wx.heap.size 24 3 v1 m (rowE L) := by rw [← hwy]; exact own_setCell HO1.out (by show w.heap.size < _; omega) _
      obtain ⟨A1, c1, rfl, hn1, hm1, r1⟩ := own_form o1y
      have hnil1 := own_nil_or o1y
      have HNIL := Lib.hid hnil1
      have R1 := Lib.hid r1
      have HBX := Lib.hid hBX
      have HWY := Lib.hid hwy
      clear o1y r1 hBX hwy hnil1 HO1
      obtain ⟨x0, x1, x2, xf0, _⟩ := blk3 HBX.out
      go_wp2_with fail
      rw [HWY.out]
      refine (HAD.out _ _ _ R1.out hn1 HNIL.out).mono ?_
      rintro e w3 ⟨⟨v3, rfl, o3⟩, h3⟩
      have b3 : Below w.heap.size w w3 := b2.trans (h3.mono b2.size)
      have R1 := Lib.hid ((R1.out.below h3).more h3.size)
      have HBX := Lib.hid (HBX.out.below h3 HBX.out.lt)
      obtain ⟨x0, x1, x2, xf0, _⟩ := blk3 HBX.out
      have xl := HBX.out.lt
      obtain ⟨A3, c3, rfl, hn3, hm3, r3⟩ := own_form o3
      have hnil3 := own_nil_or o3
      have R3 := Lib.hid r3
      clear r3
      have HNIL3 := Lib.hid hnil3
      clear hnil3
      go_wp2_with fail
      refine ((HAB.out _ c3 _ R3.out).1).mono ?_
      rintro e w4 ⟨rfl, h4⟩
      have b4 : Below w.heap.size w w4 := b3.trans (h4.mono b3.size)
      have R1 := Lib.hid ((R1.out.below h4).more h4.size)
      have R3 := Lib.hid ((R3.out.below h4).more h4.size)
      have HBX := Lib.hid (HBX.out.below h4 HBX.out.lt)
      obtain ⟨x0, x1, x2, xf0, _⟩ := blk3 HBX.out
      have xl := HBX.out.lt
      obtain ⟨w5, hw5⟩ : ∃ w5, w4.alloc (.cells #[.string s, .int .i64 ino, .int .i64 ty] 24) = w5 := ⟨_, rfl⟩
      have h5 : Below w4.heap.size w4 w5 := by rw [← hw5]; exact (Below.refl _ _).alloc (Nat.le_refl _) _
      have HY : Hid (Blk w5 w4.heap.size 24 (0, 0) #[.string s, .int .i64 ino, .int .i64 ty]) := Lib.hid (by rw [← hw5]; exact Blk.new w4 _ _ _)
      have HW5 := Lib.hid hw5
      clear hw5
      have b5 : Below w.heap.size w w5 := b4.trans (h5.mono b4.size)
      have R1 := Lib.hid ((R1.out.below h5).more h5.size)
      have R3 := Lib.hid ((R3.out.below h5).more h5.size)
      have HBX := Lib.hid (HBX.out.below h5 HBX.out.lt)
      obtain ⟨x0, x1, x2, xf0, _⟩ := blk3 HBX.out
      have xl := HBX.out.lt
      go_wp2_with fail
      rw [HW5.out]
      refine ((HAB.out _ c3 _ R3.out).2.1 hn3 HNIL3.out).mono ?_
      rintro e w6 ⟨⟨v5, rfl, o5⟩, h6⟩
      have b6 : Below w.heap.size w w6 := b5.trans (h6.mono b5.size)
      have R1 := Lib.hid ((R1.out.below h6).more h6.size)
      have R3 := Lib.hid ((R3.out.below h6).more h6.size)
      have HBX := Lib.hid (HBX.out.below h6 HBX.out.lt)
      have HY := Lib.hid (HY.out.below h6 HY.out.lt)
      obtain ⟨x0, x1, x2, xf0, _⟩ := blk3 HBX.out
      have xl := HBX.out.lt
      obtain ⟨A5, c5, rfl, hn5, hm5, r5⟩ := own_form o5
      have R5 := Lib.hid r5
      clear r5
      obtain ⟨y0, y1, y2, _⟩ := blk3 HY.out
      go_wp2_with fail
      refine (rSame_any A5 A1 m c5 m c1 L L _ R5.out R1.out (by omega) (by omega)).mono ?_
      rintro e w7 ⟨rfl, h7⟩
      have b7 : Below w.heap.size w w7 := b6.trans (h7.mono b6.size)
      have R1 := Lib.hid ((R1.out.below h7).more h7.size)
      have R3 := Lib.hid ((R3.out.below h7).more h7.size)
      have R5 := Lib.hid ((R5.out.below h7).more h7.size)
      have HBX := Lib.hid (HBX.out.below h7 HBX.out.lt)
      have HY := Lib.hid (HY.out.below h7 HY.out.lt)
      obtain ⟨x0, x1, x2, xf0, _⟩ := blk3 HBX.out
      have xl := HBX.out.lt
      rw [decide_eq_true (rfl : L = L)]
      go_wp2_with fail
      refine ((HAB.out _ c3 _ R3.out).2.2.1).mono ?_
      rintro e w8 ⟨rfl, h8⟩
      have b8 : Below w.heap.size w w8 := b7.trans (h8.mono b7.size)
      have R1 := Lib.hid ((R1.out.below h8).more h8.size)
      have R3 := Lib.hid ((R3.out.below h8).more h8.size)
      have R5 := Lib.hid ((R5.out.below h8).more h8.size)
      have HBX := Lib.hid (HBX.out.below h8 HBX.out.lt)
      have HY := Lib.hid (HY.out.below h8 HY.out.lt)
      obtain ⟨x0, x1, x2, xf0, _⟩ := blk3 HBX.out
      have xl := HBX.out.lt
      go_wp2
      go_loopw [11] (fun i wr => ∃ k : Nat, k ≤ m ∧ i = .int .i64 k ∧ Below w8.heap.size w8 wr) (fun i _ => m - (intOf i).toNat)
      case atStart => exact ⟨0, Nat.zero_le _, rfl, Below.refl _ _⟩
      case round =>
        obtain ⟨k, hk, rfl, hbw⟩ := hrel
        by_cases hlt : k < m
        · obtain ⟨g, o, y, hA1, hg, hy, c0, c1', c2⟩ := ent_at (R1.out.below hbw) hlt
          subst hA1
          have hC := fun W (h : Rd W W.heap.size 3 A3 mA (rowE LA)) => (HAB.out A3 c3 W h).2.2.2 y (List.mem_iff_getElem?.2 ⟨k, hy⟩)
          have heqy := ent_eq (st y.1) (st y.1) y.2.1 y.2.1 y.2.2 y.2.2
          rw [decide_eq_true rfl] at heqy
          obtain ⟨ynm, yi, yt⟩ := y
          obtain ⟨sy, hsy0⟩ : ∃ sy, st ynm = sy := ⟨_, rfl⟩
          simp only [hsy0] at hC heqy c0 c1' c2
          have i0 : (0 : Int) ≤ (k : Int) := Int.natCast_nonneg _
          have i1 : (k : Int) < (m : Int) := by omega
          have HC := Lib.hid hC
          have HGS := Lib.hid hg
          clear hC hy hsy0
          go_wp2_with fail
          refine (HC.out wr ((R3.out.below hbw).more hbw.size)).mono ?_
          rintro e w' ⟨rfl, h'⟩
          have hbw' := hbw.trans (h'.mono hbw.size)
          have hgw : g < w'.heap.size := by have := HGS.out; have := hbw'.size; omega
          have c0' := (h'.cell (p := ⟨g, o + k * 3, none⟩) (by have := HGS.out; have := hbw.size; show g < _; omega)).trans c0
          have c1'' := (h'.cell (p := ⟨g, o + k * 3 + 1, none⟩) (by have := HGS.out; have := hbw.size; show g < _; omega)).trans c1'
          have c2' := (h'.cell (p := ⟨g, o + k * 3 + 2, none⟩) (by have := HGS.out; have := hbw.size; show g < _; omega)).trans c2
          clear c0 c1' c2
          go_wp2_with fail
          go_quiet (fail)
          go_wp2
          go_roundw
          case rel => exact ⟨k + 1, by omega, by go_num, below_drewN (hbw'.alloc hbw'.size _) _⟩
          case measure => simp [intOf]; omega
        · obtain rfl : k = m := by omega
          obtain ⟨m, hmk⟩ : ∃ m, m = k := ⟨_, rfl⟩
          subst hmk
          have b28 : Below w.heap.size w wr := b8.trans (hbw.mono b8.size)
          have R1 := Lib.hid ((R1.out.below hbw).more hbw.size)
          have HBX := Lib.hid (HBX.out.below hbw HBX.out.lt)
          obtain ⟨x0, x1, x2, xf0, _⟩ := blk3 HBX.out
          have xl := HBX.out.lt
          go_wp2_with fail
          refine (HTA.out _ _ _ R1.out hn1 HNIL.out).mono ?_
          rintro e w29 ⟨⟨v7, rfl, o7⟩, h29⟩
          have b29 : Below w.heap.size w w29 := b28.trans (h29.mono b28.size)
          have R1 := Lib.hid ((R1.out.below h29).more h29.size)
          have HBX := Lib.hid (HBX.out.below h29 HBX.out.lt)
          obtain ⟨x0, x1, x2, xf0, _⟩ := blk3 HBX.out
          have xl := HBX.out.lt
          obtain ⟨A7, c7, rfl, hn7, hm7, r7⟩ := own_form o7
          have R7 := Lib.hid r7
          clear r7
          go_wp2_with fail
          refine ((HTB.out _ c7 _ R7.out).1).mono ?_
          rintro e w30 ⟨rfl, h30⟩
          have b30 : Below w.heap.size w w30 := b29.trans (h30.mono b29.size)
          have R1 := Lib.hid ((R1.out.below h30).more h30.size)
          have R7 := Lib.hid ((R7.out.below h30).more h30.size)
          have HBX := Lib.hid (HBX.out.below h30 HBX.out.lt)
          obtain ⟨x0, x1, x2, xf0, _⟩ := blk3 HBX.out
          have xl := HBX.out.lt
          obtain ⟨w31, hw31⟩ : ∃ w31, w30.alloc (.cells #[.string sz, .int .i64 zi, .int .i64 zt] 24) = w31 := ⟨_, rfl⟩
          have h31 : Below w30.heap.size w30 w31 := by rw [← hw31]; exact (Below.refl _ _).alloc (Nat.le_refl _) _
          have HZ7 : Hid (Blk w31 w30.heap.size 24 (0, 0) #[.string sz, .int .i64 zi, .int .i64 zt]) := Lib.hid (by rw [← hw31]; exact Blk.new w30 _ _ _)
          have HW31 := Lib.hid hw31
          clear hw31
          have b31 : Below w.heap.size w w31 := b30.trans (h31.mono b30.size)
          have R1 := Lib.hid ((R1.out.below h31).more h31.size)
          have R7 := Lib.hid ((R7.out.below h31).more h31.size)
          have HBX := Lib.hid (HBX.out.below h31 HBX.out.lt)
          obtain ⟨x0, x1, x2, xf0, _⟩ := blk3 HBX.out
          have xl := HBX.out.lt
          go_wp2_with fail
          rw [HW31.out]
          refine ((HTB.out _ c7 _ R7.out).2).mono ?_
          rintro e w32 ⟨rfl, h32⟩
          have b32 : Below w.heap.size w w32 := b31.trans (h32.mono b31.size)
          have R1 := Lib.hid ((R1.out.below h32).more h32.size)
          have R7 := Lib.hid ((R7.out.below h32).more h32.size)
          have HBX := Lib.hid (HBX.out.below h32 HBX.out.lt)
          have HZ7 := Lib.hid (HZ7.out.below h32 HZ7.out.lt)
          obtain ⟨x0, x1, x2, xf0, _⟩ := blk3 HBX.out
          have xl := HBX.out.lt
          go_wp2_with fail
          refine (awake_any _).mono ?_
          rintro e w33 ⟨rfl, h33⟩
          have b33 : Below w.heap.size w w33 := b32.trans (h33.mono b32.size)
          have R1 := Lib.hid ((R1.out.below h33).more h33.size)
          have R7 := Lib.hid ((R7.out.below h33).more h33.size)
          have HBX := Lib.hid (HBX.out.below h33 HBX.out.lt)
          have HZ7 := Lib.hid (HZ7.out.below h33 HZ7.out.lt)
          obtain ⟨x0, x1, x2, xf0, _⟩ := blk3 HBX.out
          have xl := HBX.out.lt
          go_wp2
          go_ret
          exact ⟨rfl, b33⟩
end Go.Proofs.Ytpjghildhhpeeaa
