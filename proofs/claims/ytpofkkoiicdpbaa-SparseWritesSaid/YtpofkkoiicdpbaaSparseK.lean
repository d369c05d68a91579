/-
  Walk: a file made shorter, or longer.
-/
import Derived.Test.YtpofkkoiicdpbaaSparseI
import Derived.Test.YtpofkkoiicdpbaaSparseV
import Derived.Test.YtpofkkoiicdpbaaDelP
namespace Go.Proofs.Ytpofkkoiicdpbaa
open Go.RowKit
set_option linter.unusedVariables false

theorem need_Z (n : Int) : needN n = needZ n := rfl
theorem enters_cut1 : ∀ args w, (callFunc 30 args).run Try.prog w = .ok (.enter 30 args) w := enters_of Try.func30 (by kernel_rfl) rfl
set_option maxHeartbeats 1000000 in
set_option maxRecDepth 100000 in
theorem cut1_any (x : PW) (size : Int) (b : Nat) (w : World) (hs : size ≤ 9223372036854775807) (hb : w.cell? ⟨b, 0, none⟩ = some (.int .i64 size)) :
    Calls Try.prog 30 (#[vW x] ++ #[.pointer (some ⟨b, 0, none⟩)]) w fun e w' => e = .returned (.bool (decide (needZ size ≤ x.1))) ∧ Below w.heap.size w w' := by
  obtain ⟨N, ⟨A, n, c⟩, l⟩ := x
  obtain ⟨z, hz⟩ : ∃ z, needZ size = z := ⟨_, rfl⟩
  have hS : ∀ W, Calls Try.prog 31 #[.int .i64 size] W fun e w' => e = .returned (.int .i64 z) ∧ W = w' := fun W => by
    have := Size_any size W hs
    rw [need_Z, hz] at this
    exact this
  have HS := Lib.hid hS
  rw [hz]
  obtain ⟨wx, hwx⟩ : ∃ wx, w.alloc (.cells #[.int .i64 N, .slice A n c] 62) = wx := ⟨_, rfl⟩
  have hbx : Below w.heap.size w wx := by rw [← hwx]; exact (Below.refl _ _).alloc (Nat.le_refl _) _
  obtain ⟨y0, y1, _, _⟩ := blk2 (show Blk wx w.heap.size 62 (0, 0) #[.int .i64 N, .slice A n c] by rw [← hwx]; exact Blk.new _ _ _ _)
  have hbl : b < w.heap.size := by
    refine Nat.lt_of_not_le fun hge => ?_
    have : w.heap[b]? = none := Array.getElem?_eq_none hge
    simp [World.cell?, this] at hb
  have hb' : wx.cell? ⟨b, 0, none⟩ = some (.int .i64 size) := (hbx.cell (p := ⟨b, 0, none⟩) hbl).trans hb
  have HWX := Lib.hid hwx
  clear hS hz hwx
  show Calls _ _ #[.agg #[.int .i64 N, .slice A n c], .pointer (some ⟨b, 0, none⟩)] _ _
  go_enter Try.func30, Try.ntmps30
  go_wp2_with fail
  rw [HWX.out]
  go_quiet ((go_at_call 31; exact Calls.quiet_of_same ((HS.out _).mono fun _ _ h => ⟨h.1, h.2.symm⟩)))
  go_wp2
  go_ret
  exact ⟨rfl, below_drewN hbx _⟩

/-- The blocks that were laid over. -/
def wroteL (L : List Pc) (old size : Int) : List Int := if wroteC L old size = true then [size / 128] else []
def CutPost (L : List Pc) (old size : Int) (e : Ending) (w' : World) : Prop :=
  ∃ A' m c' av cv L', e = .returned (.tuple #[.agg #[.int .i64 size, .slice A' m c'], .slice av (wroteL L old size).length cv, .int .i64 0]) ∧ IsP w' w'.heap.size A' m c' L' ∧ Std L' ∧ CInv L size L' ∧ Rd w' w'.heap.size 1 av (wroteL L old size).length (intsV (wroteL L old size))
/-- Of each block of memory: it is none of these. -/
def NotC (H b : Nat) : Prop := b ≠ H ∧ b ≠ H + 1 + 1

set_option maxHeartbeats 8000000 in
set_option maxRecDepth 100000 in
theorem Cut_ok (old : Int) (size : Nat) (A : Option Addr) (n c : Nat) (L : List Pc) (w : World) (h : IsP w w.heap.size A n c L) (hok : okF old L = true) (hs : size ≤ 463488) :
    Calls Try.prog 18 #[.agg #[.int .i64 old, .slice A n c], .int .i64 size] w fun e w' =>
      CutPost L old size e w' ∧ Below w.heap.size w w' := by
  obtain ⟨i1, hi, hz0, hz1, hz2⟩ := info_parts Try.info5
  have hOK := (okF_iff old L).1 hok
  have hst := okF_std hok
  have hLn := h.count
  have hn : n ≤ 3621 := by rw [← hLn]; exact ok_len hOK
  have hM : ∀ W, Below w.heap.size w W → Calls Try.prog 21 #[.agg #[.int .i64 old, .slice A n c]] W fun e w' => e = .returned (.bool true) ∧ Below W.heap.size W w' := fun W hW => by
    have := May_any old A n c L W (h.later hW) (by have := hOK.2.1; omega) (by omega)
    rw [hok] at this; exact this
  obtain ⟨w0, hw0⟩ : ∃ w0, ((w.alloc (.cells #[.int .i64 old, .slice A n c] 24)).alloc (.cells #[.int .i64 size] 3)).alloc (.cells #[.int .i64 0, .slice none 0 0] 24) = w0 := ⟨_, rfl⟩
  have hb0 : Below w.heap.size w w0 := by rw [← hw0]; exact (((Below.refl _ _).alloc (Nat.le_refl _) _).alloc (by simp) _).alloc (by simp; omega) _
  have hB0 : Blk w0 w.heap.size 24 (0, 0) #[.int .i64 old, .slice A n c] := by rw [← hw0]; exact ((Blk.new w _ _ _).alloc _).alloc _
  have hB1 : Blk w0 (w.heap.size + 1) 3 (0, 0) #[.int .i64 size] := by
    rw [← hw0]
    have := (Blk.new (w.alloc (.cells #[.int .i64 old, .slice A n c] 24)) 3 (0, 0) #[.int .i64 size]).alloc (.cells #[.int .i64 0, .slice none 0 0] 24)
    simpa using this
  have hB2 : Blk w0 (w.heap.size + 1 + 1) 24 (0, 0) #[.int .i64 0, .slice none 0 0] := by
    rw [← hw0]
    have := Blk.new ((w.alloc (.cells #[.int .i64 old, .slice A n c] 24)).alloc (.cells #[.int .i64 size] 3)) 24 (0, 0) #[.int .i64 0, .slice none 0 0]
    simpa using this
  have hl0 := hB2.lt
  obtain ⟨hnc, hcm, hnil, T, hT, hTL⟩ := h
  obtain ⟨TW, hTW⟩ := pv_pw T (fun t ht => by obtain ⟨A', n', c', e, _⟩ := hT.2 t ht; exact ⟨A', n', c', e⟩)
  have hrowT : rowP T = rowW TW := by rw [← hTW, rowW_row]
  have hCl := fun W (hW : Below w.heap.size w W) => CloneP_any A n c (rowW TW) W (by rw [← hrowT]; exact (hT.1.below hW).more hW.size) (by rw [← hrowT]; exact hT.one) (by omega) hnc hnil
  -- what is left of it
  obtain ⟨L1, hL1⟩ : ∃ L1, cutL size L = L1 := ⟨_, rfl⟩
  obtain ⟨T1, hT1⟩ : ∃ T1, TW.filter (fun y => !decide (needZ size ≤ y.1)) = T1 := ⟨_, rfl⟩
  have hmap : (T1.map toPV).map pcP = L1 := by
    rw [← hT1, ← hL1, ← hTL, ← hTW]
    unfold cutL
    rw [List.map_map, List.map_map, List.filter_map]
    rfl
  have hel1 : ∀ t ∈ T1.map toPV, t ∈ T := fun t ht => by
    obtain ⟨y, hy, rfl⟩ := List.mem_map.1 ht
    rw [← hT1] at hy
    rw [← hTW]
    exact List.mem_map_of_mem (List.mem_filter.1 hy).1
  have hst1 : Std L1 := by rw [← hL1]; exact cut_std L size hst
  have hth : hasF L1 ((size / 128 : Nat) : Int) = (hasF L ((size / 128 : Nat) : Int) && decide (0 < size % 128)) := by rw [← hL1]; exact there_cut L size hst.1
  have hl1n : T1.length ≤ 3621 := by
    have : T1.length = L1.length := by rw [← hmap]; simp
    have h2 : L1.length ≤ L.length := by rw [← hL1]; exact List.length_filter_le _ _
    omega
  obtain ⟨q, hq⟩ : ∃ q, size / 128 = q := ⟨_, rfl⟩
  obtain ⟨r, hr⟩ : ∃ r, size % 128 = r := ⟨_, rfl⟩
  have hqi : (size : Int) / 128 = (q : Int) := by omega
  have hri : (size : Int) % 128 = (r : Int) := by omega
  have hwc : wroteC L old size = (hasF L (q : Int) && decide ((size : Int) < old) && decide (0 < (r : Int))) := by unfold wroteC; rw [hqi, hri]
  rw [hq, hr] at hth
  have hwl : wroteL L old size = if wroteC L old size = true then [(q : Int)] else [] := by unfold wroteL; rw [hqi]
  have hplain : wroteC L old size = false → CInv L size L1 := fun hw => by rw [← hL1]; exact CInv.plain L old size hOK hw
  have hlaid : wroteC L old size = true → 0 < r ∧ hasF L1 (q : Int) = true ∧ (size : Int) < old ∧ CInv L size (putF L1 q (layB (octB L1 q) r (zer (128 - r)))) := fun hw => by
    rw [hwc, Bool.and_eq_true, Bool.and_eq_true, decide_eq_true_eq, decide_eq_true_eq] at hw
    have hr0 : 0 < r := by omega
    refine ⟨hr0, by rw [hth, hw.1.1, decide_eq_true hr0]; rfl, hw.1.2, ?_⟩
    rw [← hL1]
    exact CInv.laid L size q r hst hq hr hr0 hw.1.1
  have hno : wroteC L old size = false → hasF L1 (q : Int) = true → (size : Int) < old → 0 < r → False := fun h1 h2 h3 h4 => by
    rw [hth, Bool.and_eq_true] at h2
    rw [hwc, h2.1, decide_eq_true h3, decide_eq_true (p := (0 : Int) < (r : Int)) (by omega)] at h1
    cases h1
  have HM := Lib.hid hM
  have HCL := Lib.hid hCl
  have HT := Lib.hid hT
  have HEL := Lib.hid hel1
  have HMAP := Lib.hid hmap
  have HST1 := Lib.hid hst1
  have HT1 := Lib.hid hT1
  have HW0 := Lib.hid hw0
  have HB0 := Lib.hid hB0
  have HB1 := Lib.hid hB1
  have HB2 := Lib.hid hB2
  have HPL := Lib.hid hplain
  have HLA := Lib.hid hlaid
  have HNO := Lib.hid hno
  have hd1 : decide ((463488 : Int) < (size : Int)) = false := decide_eq_false (by omega)
  obtain ⟨x0, x1, _, _⟩ := blk2 hB0
  have x2 : w0.cell? ⟨w.heap.size + 1, 0, none⟩ = some (.int .i64 size) := by rw [hB1.cell]; rfl
  have hr128 : r < 128 := by omega
  have hq0 : q ≤ 3621 := by omega
  obtain ⟨wr, hwr⟩ : ∃ wr, wroteC L old size = wr := ⟨_, rfl⟩
  obtain ⟨th, hthd⟩ : ∃ th, hasF L1 (q : Int) = th := ⟨_, rfl⟩
  rw [hwr] at HPL HLA HNO hwl
  have HWLL := Lib.hid hwl
  rw [hthd] at HLA HNO
  have HTHD := Lib.hid hthd
  have hsold : (0 : Int) ≤ old := hOK.1
  have hold : old ≤ 463488 := hOK.2.1
  clear hM hCl hT hel1 hmap hst1 hT1 hw0 hB0 hB1 hB2 hplain hlaid hno hrowT hTW hTL hL1 hth hst hok hOK hLn hnil hq hr hwc hwr hthd hwl
  go_enter Try.func18, Try.ntmps18
  go_wp2_with fail
  rw [HW0.out]
  refine (HM.out _ hb0).mono ?_
  rintro e w1 ⟨rfl, h1⟩
  have hb1 := hb0.trans (h1.mono hb0.size)
  have hC0 := HB0.out.below h1 (by omega)
  have hC1 := HB1.out.below h1 (by omega)
  have hC2 := HB2.out.below h1 (by omega)
  obtain ⟨a0, a1, f0, f1⟩ := blk2 hC0
  have a2 : w1.cell? ⟨w.heap.size + 1, 0, none⟩ = some (.int .i64 size) := by rw [hC1.cell]; rfl
  obtain ⟨w2, hw2⟩ : ∃ w2, w1.setCell ⟨w.heap.size, 0, none⟩ (.int .i64 size) = w2 := ⟨_, rfl⟩
  have hD0 : Blk w2 w.heap.size 24 (0, 0) #[.int .i64 size, .slice A n c] := by rw [← hw2]; exact hC0.set_ 0 _
  have hD1 : Blk w2 (w.heap.size + 1) 3 (0, 0) #[.int .i64 size] := by rw [← hw2]; exact hC1.far (by show w.heap.size + 1 ≠ w.heap.size; omega) _
  have hD2 : Blk w2 (w.heap.size + 1 + 1) 24 (0, 0) #[.int .i64 0, .slice none 0 0] := by rw [← hw2]; exact hC2.far (by show w.heap.size + 1 + 1 ≠ w.heap.size; omega) _
  have hb2 : Below w.heap.size w w2 := by rw [← hw2]; exact hb1.setCell (Nat.le_refl _) _
  have hl2 := hD2.lt
  obtain ⟨b0, b1, g0, g1⟩ := blk2 hD0
  have b2 : w2.cell? ⟨w.heap.size + 1, 0, none⟩ = some (.int .i64 size) := by rw [hD1.cell]; rfl
  have HD0 := Lib.hid hD0
  have HD1 := Lib.hid hD1
  have HD2 := Lib.hid hD2
  clear hC0 hC1 hC2 hD0 hD1 hD2
  go_wp2_with fail
  refine (HCL.out _ hb2).mono ?_
  rintro e w3 ⟨⟨v3, rfl, ho3⟩, h3⟩
  have HD := Lib.hid (DeleteFuncP_any w2.heap.size v3 n TW (fun y => decide (needZ size ≤ y.1)) 30 #[.pointer (some ⟨w.heap.size + 1, 0, none⟩)] enters_cut1 w3 ho3 (by omega) h3.size (fun W x hW hx => cut1_any x size (w.heap.size + 1) W (by omega) (by
    rw [hW.cell (p := ⟨w.heap.size + 1, 0, none⟩) (by show w.heap.size + 1 < w2.heap.size; omega), h3.cell (p := ⟨w.heap.size + 1, 0, none⟩) (by show w.heap.size + 1 < w2.heap.size; omega)]; exact b2)))
  clear hw2 a0 a1 a2 f0 f1 x0 x1 x2 ho3
  go_wp2_with fail
  refine HD.out.mono ?_
  rintro e w4 ⟨⟨v4, rfl, ho4⟩, h4⟩
  rw [HT1.out] at ho4
  obtain ⟨m1, hm1⟩ : ∃ m1, T1.length = m1 := ⟨_, rfl⟩
  rw [hm1] at ho4 hl1n
  obtain ⟨A4, c4, rfl, hn4, hm4, hr4⟩ := own_form ho4
  have hx3 := h3.size
  have hx4 := h4.size
  have hnil4 : A4 = none → c4 = 0 := own_nilc ho4
  have hvg : ∀ k, (Value.slice A4 m1 c4).ownBlock = some k → w2.heap.size ≤ k := fun k hk => (ho4.lt k hk).1
  have hE0' := HD0.out.below (h3.trans h4) (by omega)
  have hE1' := HD1.out.below (h3.trans h4) (by omega)
  have hE2' := HD2.out.below (h3.trans h4) (by omega)
  obtain ⟨a0, a1, f0, f1⟩ := blk2 hE0'
  obtain ⟨w5, hw5⟩ : ∃ w5, w4.setCell ⟨w.heap.size, 1, none⟩ (.slice A4 m1 c4) = w5 := ⟨_, rfl⟩
  have hE0 : Blk w5 w.heap.size 24 (0, 0) #[.int .i64 size, .slice A4 m1 c4] := by rw [← hw5]; exact hE0'.set_ 1 _
  have hE1 : Blk w5 (w.heap.size + 1) 3 (0, 0) #[.int .i64 size] := by rw [← hw5]; exact hE1'.far (by show w.heap.size + 1 ≠ w.heap.size; omega) _
  have hE2 : Blk w5 (w.heap.size + 1 + 1) 24 (0, 0) #[.int .i64 0, .slice none 0 0] := by rw [← hw5]; exact hE2'.far (by show w.heap.size + 1 + 1 ≠ w.heap.size; omega) _
  have hb5 : Below w.heap.size w w5 := by rw [← hw5]; exact (hb2.trans ((h3.trans h4).mono (by omega))).setCell (Nat.le_refl _) _
  have hs5 : w5.heap.size = w4.heap.size := by rw [← hw5]; simp
  have hI5 : IsQ w5 w5.heap.size (NotC w.heap.size) A4 m1 c4 L1 := by
    refine ⟨hn4, hm4, hnil4, (fun _ a e => by have := hvg a.block (by rw [e]; rfl); exact ⟨by omega, by omega⟩), T1.map toPV, ⟨⟨by rw [rowV_len fP_len, List.length_map, hm1], fun h0 => ?_⟩, fun t ht => ?_⟩, HMAP.out⟩
    · obtain ⟨g, o, e, hg, hc⟩ := hr4.2 h0
      refine ⟨g, o, e, by omega, fun j u hu => ?_⟩
      have hge := hvg g (by rw [e]; rfl)
      rw [← hw5, cell_far (by show g ≠ w.heap.size; omega)]
      exact hc j u (by rw [← rowW_row]; exact hu)
    · exact (((HT.out.2 t (HEL.out t ht)).below hb5).imp fun b hb _ => ⟨by omega, by omega⟩).more hb5.size
  have hl5 := hE2.lt
  obtain ⟨p0, p1, u0, u1⟩ := blk2 hE0
  have p2 : w5.cell? ⟨w.heap.size + 1, 0, none⟩ = some (.int .i64 size) := by rw [hE1.cell]; rfl
  have HE0 := Lib.hid hE0
  have HE1 := Lib.hid hE1
  have HE2 := Lib.hid hE2
  have HI5 := Lib.hid hI5
  have HTH2 := Lib.hid (show hasF L1 (q : Int) = th from HTHD.out)
  have hF := find_any (size : Int) (q : Int) A4 m1 c4 L1 w5 hI5.free HST1.out.1 (by omega)
  rw [HTHD.out] at hF
  have HF := Lib.hid hF
  unfold maxLen at hm4
  clear hE0' hE1' hE2' hE0 hE1 hE2 hI5 hF hr4 ho4 hvg hnil4 hm1 b0 b1 b2 g0 g1 hs5
  go_wp2_with fail
  refine HF.out.mono ?_
  rintro e w6 ⟨rfl, h6⟩
  have hb6 := hb5.trans (h6.mono hb5.size)
  have hx6 := h6.size
  have hG0 := HE0.out.below h6 (by omega)
  have hG1 := HE1.out.below h6 (by omega)
  have hG2 := HE2.out.below h6 (by omega)
  have hI6 := HI5.out.later h6
  obtain ⟨p0', p1', u0', u1'⟩ := blk2 hG0
  have p2' : w6.cell? ⟨w.heap.size + 1, 0, none⟩ = some (.int .i64 size) := by rw [hG1.cell]; rfl
  have HG0 := Lib.hid hG0
  have HG1 := Lib.hid hG1
  have HG2 := Lib.hid hG2
  have HI6 := Lib.hid hI6
  clear hG0 hG1 hG2 hI6 p0 p1 p2 u0 u1 a0 a1 f0 f1 hw5
  cases wr with
  | true =>
    obtain ⟨hr0, rfl, hso, hinv⟩ := HLA.out rfl
    have hd2 : decide ((size : Int) < old) = true := decide_eq_true hso
    have hd3 : decide ((0 : Int) < (r : Int)) = true := decide_eq_true (by omega)
    have hr00 : (0 : Int) ≤ (r : Int) := by omega
    have hr11 : (r : Int) ≤ 128 := by omega
    have hne128 : ¬ (128 = r) := by omega
    have hO := octB_any (size : Int) (q : Int) A4 m1 c4 L1 w6 HI6.out.free HST1.out (by omega)
    have hol := octB_len L1 q HST1.out
    obtain ⟨X, hX⟩ : ∃ X, layB (octB L1 q) r (zer (128 - r)) = X := ⟨_, rfl⟩
    have hzl : (zer (128 - r)).length = 128 - r := by simp [zer]
    have hXl : X.length = 128 := by rw [← hX, layB_len _ _ _ (by rw [hzl, hol]; omega), hol]
    rw [hX] at hinv
    have HO := Lib.hid hO
    have HOL := Lib.hid hol
    have HX := Lib.hid hX
    have HXL := Lib.hid hXl
    have HINV := Lib.hid hinv
    have HWL : Hid ((if true = true then [(q : Int)] else []) = [(q : Int)]) := Lib.hid rfl
    clear hO hol hX hzl hXl hinv
    go_wp2_with fail
    refine HO.out.mono ?_
    rintro e w7 ⟨⟨gx, rfl, hBo⟩, h7⟩
    have hgx := hBo.base_
    have hgxl := hBo.lt
    have hx7 := h7.size
    obtain ⟨cur, hkc, hcs, hct, hrest⟩ := hBo
    clear hrest
    have hcur : cur.toList = octV (octB L1 q) := by rw [← hct, List.take_of_length_le (by rw [Array.length_toList, hcs]; exact Nat.le_refl _)]
    have hkc' : Blk w7 gx 5 (0, 0) (octV (octB L1 q)).toArray := by rw [← hcur]; simpa using hkc
    have hzv : ∀ W : World, (zeroValue 5).run Try.prog W = .ok (.int .u8 0) W := fun W => by simp [zeroValue, typeInfo, hi, hz0]
    have hzc : (Builtin.zeroCells (Value.cells (.int .u8 0)) (128 - r)).toList = octV (zer (128 - r)) := by
      unfold octV zer
      rw [List.map_replicate, List.eq_replicate_iff]
      exact ⟨by rw [zeroCells_len]; simp [Value.cells], fun b' hb' => by have := zeroCells_mem _ _ _ hb'; simpa [Value.cells] using this⟩
    have hcl : ∀ ty, (Builtin.clear_ #[25] ty #[.slice (some ⟨gx, r, none⟩) (128 - r) (128 - r)]).run Try.prog w7 = .ok (.tuple #[]) (w7.setCells gx r (octV (zer (128 - r)))) := fun ty =>
      run_clear_many w7 25 5 ty (.int .u8 0) Try.underlying25 hzv gx r (128 - r) (128 - r) _ hzc (octV_one _) (by omega) (fun t ht => hkc'.isSome (by rw [octV_len] at ht; simp [zer] at ht; rw [octV_len, HOL.out]; omega)) (fun t _ => hkc'.free _)
    have hB8 := hkc'.setCells (octV (zer (128 - r))) r w7 _ (by rw [octV_len, octV_len, HOL.out]; simp [zer]; omega)
    have hlo : lay (octV (octB L1 q)) r (octV (zer (128 - r))) = octV X := by
      rw [← HX.out]; unfold lay layB
      rw [octV_append, octV_append, octV_take, octV_drop, octV_len]
    rw [hlo] at hB8
    have hb8 : Below w6.heap.size w6 (w7.setCells gx r (octV (zer (128 - r)))) := below_setCells hgx _ _ _ h7
    have hsz8 : (w7.setCells gx r (octV (zer (128 - r)))).heap.size = w7.heap.size := size_setCells _ _ _
    obtain ⟨w8, hw8⟩ : ∃ w8, w7.setCells gx r (octV (zer (128 - r))) = w8 := ⟨_, rfl⟩
    rw [hw8] at hcl hB8 hb8 hsz8
    have hE0 := HG0.out.below hb8 (by omega)
    have hE1 := HG1.out.below hb8 (by omega)
    have hE2 := HG2.out.below hb8 (by omega)
    obtain ⟨s0, s1, t0, t1⟩ := blk2 hE0
    have s2 : w8.cell? ⟨w.heap.size + 1, 0, none⟩ = some (.int .i64 size) := by rw [hE1.cell]; rfl
    have s3 : w7.cell? ⟨w.heap.size + 1, 0, none⟩ = some (.int .i64 size) := (h7.cell (p := ⟨w.heap.size + 1, 0, none⟩) (by show w.heap.size + 1 < w6.heap.size; omega)).trans p2'
    have hXrd : RdB w8 w8.heap.size (NotC w.heap.size) (.slice (some ⟨gx, 0, none⟩) X.length 128) X := by
      have hro : OwnB w8 gx 5 1 gx 128 128 (octV X) := ⟨(octV X).toArray, hB8, by simp [octV_len, HXL.out], by rw [List.take_of_length_le (by simp [octV_len, HXL.out])], by rw [octV_len, HXL.out], Nat.le_refl _, Nat.le_refl _, by simp [maxLen]⟩
      have q' := RdB.of_own hro.own
      rw [HXL.out]
      exact q'.imp fun b' _ hb' => ⟨by omega, by omega⟩
    have hP := put_any (NotC w.heap.size) (size : Int) q A4 (some ⟨gx, 0, none⟩) m1 c4 128 L1 X w8 (fun b' hb' => ⟨by omega, by omega⟩) (HI6.out.later hb8) HST1.out.1 (by omega) hXrd
    rw [HXL.out] at hP
    have hP2 := put_std L1 q X HST1.out (by omega) HXL.out
    obtain ⟨L2, hL2⟩ : ∃ L2, putF L1 q X = L2 := ⟨_, rfl⟩
    rw [hL2] at hP hP2
    have hinv2 := HINV.out
    rw [hL2] at hinv2
    have HP := Lib.hid hP
    have HP2 := Lib.hid hP2
    have HIN2 := Lib.hid hinv2
    have HE2 := Lib.hid hE2
    have HE0 := Lib.hid hE0
    clear hcur hkc hkc' hcs hct hzv hzc hB8 hlo hXrd hP hP2 hL2 hinv2 hE0 hE1 hE2 hw8 hsz8 cur p0' p1' p2' u0' u1'
    go_wp2_with fail
    refine HP.out.mono ?_
    rintro e w9 ⟨⟨A9, n9, c9, rfl, hI9⟩, h9⟩
    have hx8 := hb8.size
    have hx9 := h9.size
    have hF0 := HE0.out.below h9 (by omega)
    have hF2 := HE2.out.below h9 (by omega)
    have hn9 : n9 ≤ 3622 := by
      rw [← hI9.free.count]
      exact asc_len L2 3622 HP2.out.1 (fun p hp => (HP2.out.2 p hp).1) (fun p hp => by
        have h0 := (HP2.out.2 p hp).1
        obtain ⟨k, hk⟩ : ∃ k : Nat, p.1 = k := ⟨p.1.toNat, by omega⟩
        have := std_has HP2.out.1 hp
        rw [hk, HIN2.out.2, Bool.and_eq_true, decide_eq_true_eq] at this
        have h2 := this.2
        unfold needZ at h2
        split at h2 <;> omega)
    obtain ⟨wa, hwa⟩ : ∃ wa, w9.alloc (.cells #[.int .i64 q] 3) = wa := ⟨_, rfl⟩
    have hba : Below w9.heap.size w9 wa := by rw [← hwa]; exact (Below.refl _ _).alloc (Nat.le_refl _) _
    have hsa : wa.heap.size = w9.heap.size + 1 := by rw [← hwa]; simp
    have hwv : OwnB wa w9.heap.size 3 1 w9.heap.size 1 1 [.int .i64 q] := by rw [← hwa]; exact OwnB.lit w9 w9.heap.size (Nat.le_refl _) 3 1 1 #[.int .i64 q] rfl (by simp [maxLen])
    have hF0a := hF0.below hba (by omega)
    have hF2a := hF2.below hba (by omega)
    have hI9a := hI9.later hba
    obtain ⟨s0', s1', t0', t1'⟩ := blk2 hF0a
    obtain ⟨wb, hwb⟩ : ∃ wb, (wa.setCell ⟨w.heap.size, 0, none⟩ (.int .i64 size)).setCell ⟨w.heap.size, 1, none⟩ (.slice A9 n9 c9) = wb := ⟨_, rfl⟩
    have hJ0 : Blk wb w.heap.size 24 (0, 0) #[.int .i64 size, .slice A9 n9 c9] := by rw [← hwb]; exact (hF0a.set_ 0 (.int .i64 size)).set_ 1 (.slice A9 n9 c9)
    have hJ2 : Blk wb (w.heap.size + 1 + 1) 24 (0, 0) #[.int .i64 0, .slice none 0 0] := by rw [← hwb]; exact (hF2a.far (by show w.heap.size + 1 + 1 ≠ w.heap.size; omega) _).far (by show w.heap.size + 1 + 1 ≠ w.heap.size; omega) _
    have hbb : Below w.heap.size w wb := by
      rw [← hwb]
      exact Below.setCell (p := ⟨w.heap.size, 1, none⟩) (Below.setCell (p := ⟨w.heap.size, 0, none⟩) ((hb6.trans (hb8.mono (show w.heap.size ≤ w6.heap.size by omega))).trans ((h9.mono (show w.heap.size ≤ w8.heap.size by omega)).trans (hba.mono (show w.heap.size ≤ w9.heap.size by omega)))) (Nat.le_refl _) _) (Nat.le_refl _) _
    have hsb : wb.heap.size = wa.heap.size := by rw [← hwb]; simp
    have hIb : IsQ wb wb.heap.size (NotC w.heap.size) A9 n9 c9 L2 := by
      rw [hsb]
      refine hI9a.keep fun p' _ hq' => ?_
      rw [← hwb, cell_far (by show p'.block ≠ w.heap.size; exact hq'.1), cell_far (by show p'.block ≠ w.heap.size; exact hq'.1)]
    have hwvb : OwnB wb w9.heap.size 3 1 w9.heap.size 1 1 [.int .i64 q] := by rw [← hwb]; exact (hwv.far (by show w9.heap.size ≠ w.heap.size; omega) _).far (by show w9.heap.size ≠ w.heap.size; omega) _
    have HWV := Lib.hid hwvb
    have hwlt := hwvb.lt
    have HSTX := HP2
    have HINX := HIN2
    have hOw := own_any (NotC w.heap.size) (size : Int) A9 n9 c9 L2 wb (fun b' hb' => ⟨by omega, by omega⟩) hIb (by omega) (fun p' hp' => by have := (HP2.out.2 p' hp').2; omega)
    have HOWN := Lib.hid hOw
    have HJ2 := Lib.hid hJ2
    obtain ⟨y0, y1, _, _⟩ := blk2 hJ0
    have hsb2 : w.heap.size + 1 + 1 < wb.heap.size := hJ2.lt
    clear hF0 hF2 hF0a hF2a hI9 hI9a hJ0 hJ2 hIb hwv hwvb hOw hsb hsa s0 s1 t0 t1 s2 s3 hcl
    go_wp2_with fail
    refine HOWN.out.mono ?_
    rintro e wc ⟨⟨Ac, nc, cc, rfl, hIc⟩, hc⟩
    have hK2 := HJ2.out.below hc (by omega)
    have hbc : Below w.heap.size w wc := hbb.trans (hc.mono (by omega))
    have hxc := hc.size
    obtain ⟨y2, y3, z0, z1⟩ := blk2 hK2
    have hbf : Below w.heap.size w ((wc.setCell ⟨w.heap.size + 1 + 1, 0, none⟩ (.int .i64 size)).setCell ⟨w.heap.size + 1 + 1, 1, none⟩ (.slice Ac nc cc)) := (hbc.setCell (by simp; omega) _).setCell (by simp; omega) _
    have hIf : IsP ((wc.setCell ⟨w.heap.size + 1 + 1, 0, none⟩ (.int .i64 size)).setCell ⟨w.heap.size + 1 + 1, 1, none⟩ (.slice Ac nc cc)) ((wc.setCell ⟨w.heap.size + 1 + 1, 0, none⟩ (.int .i64 size)).setCell ⟨w.heap.size + 1 + 1, 1, none⟩ (.slice Ac nc cc)).heap.size Ac nc cc L2 := by
      refine ((hIc.keep fun p' _ hq' => ?_).more (by simp)).free
      rw [cell_far (by show p'.block ≠ w.heap.size + 1 + 1; exact hq'.2), cell_far (by show p'.block ≠ w.heap.size + 1 + 1; exact hq'.2)]
    have hwr1 : OwnB ((wc.setCell ⟨w.heap.size + 1 + 1, 0, none⟩ (.int .i64 size)).setCell ⟨w.heap.size + 1 + 1, 1, none⟩ (.slice Ac nc cc)) w9.heap.size 3 1 w9.heap.size 1 1 [.int .i64 q] := ((HWV.out.later hc).far (by show w9.heap.size ≠ w.heap.size + 1 + 1; omega) _).far (by show w9.heap.size ≠ w.heap.size + 1 + 1; omega) _
    have HWR := Lib.hid hwr1.rd
    clear hwr1
    have HIF := Lib.hid hIf
    clear hIf hIc hK2
    go_wp2
    exact bodyPost_ret (v := .tuple #[.agg #[.int .i64 size, .slice Ac nc cc], .slice (some ⟨w9.heap.size, 0, none⟩) 1 1, .int .i64 0]) (by simp [results, Try.results18, go_sem, y2, y3]) rfl ⟨by unfold CutPost; rw [HWLL.out]; exact ⟨_, nc, cc, _, _, _, rfl, HIF.out, HSTX.out, HINX.out, HWR.out⟩, hbf⟩
  | false =>
    have hinv := HPL.out rfl
    have HINX := Lib.hid hinv
    have HSTX := HST1
    have hcs : th = false ∨ (th = true ∧ old ≤ (size : Int)) ∨ (th = true ∧ (size : Int) < old ∧ r = 0) := by
      cases th
      · exact .inl rfl
      · by_cases h1' : (size : Int) < old
        · by_cases h2' : 0 < r
          · exact (HNO.out rfl rfl h1' h2').elim
          · exact .inr (.inr ⟨rfl, h1', by omega⟩)
        · exact .inr (.inl ⟨rfl, by omega⟩)
    have hOw := own_any (NotC w.heap.size) (size : Int) A4 m1 c4 L1 w6 (fun b' hb' => ⟨by omega, by omega⟩) HI6.out (by omega) (fun p' hp' => by have := (HST1.out.2 p' hp').2; omega)
    have HOWN := Lib.hid hOw
    clear hOw hinv
    rcases hcs with rfl | ⟨rfl, hso⟩ | ⟨rfl, hso, rfl⟩
    · go_wp2_with fail
      refine HOWN.out.mono ?_
      rintro e wc ⟨⟨Ac, nc, cc, rfl, hIc⟩, hc⟩
      have hK2 := HG2.out.below hc (by omega)
      have hbc : Below w.heap.size w wc := hb6.trans (hc.mono (by omega))
      have hxc := hc.size
      obtain ⟨y2, y3, z0, z1⟩ := blk2 hK2
      have hbf : Below w.heap.size w ((wc.setCell ⟨w.heap.size + 1 + 1, 0, none⟩ (.int .i64 size)).setCell ⟨w.heap.size + 1 + 1, 1, none⟩ (.slice Ac nc cc)) := (hbc.setCell (by simp; omega) _).setCell (by simp; omega) _
      have hIf : IsP ((wc.setCell ⟨w.heap.size + 1 + 1, 0, none⟩ (.int .i64 size)).setCell ⟨w.heap.size + 1 + 1, 1, none⟩ (.slice Ac nc cc)) ((wc.setCell ⟨w.heap.size + 1 + 1, 0, none⟩ (.int .i64 size)).setCell ⟨w.heap.size + 1 + 1, 1, none⟩ (.slice Ac nc cc)).heap.size Ac nc cc L1 := by
        refine ((hIc.keep fun p' _ hq' => ?_).more (by simp)).free
        rw [cell_far (by show p'.block ≠ w.heap.size + 1 + 1; exact hq'.2), cell_far (by show p'.block ≠ w.heap.size + 1 + 1; exact hq'.2)]
      skip
      have HIF := Lib.hid hIf
      clear hIf hIc hK2
      go_wp2
      exact bodyPost_ret (v := .tuple #[.agg #[.int .i64 size, .slice Ac nc cc], .slice none 0 0, .int .i64 0]) (by simp [results, Try.results18, go_sem, y2, y3]) rfl ⟨by unfold CutPost; rw [HWLL.out]; exact ⟨_, nc, cc, _, _, _, rfl, HIF.out, HSTX.out, HINX.out, Rd.nil⟩, hbf⟩
    · have hd2 : decide ((size : Int) < old) = false := decide_eq_false (by omega)
      go_wp2_with fail
      refine HOWN.out.mono ?_
      rintro e wc ⟨⟨Ac, nc, cc, rfl, hIc⟩, hc⟩
      have hK2 := HG2.out.below hc (by omega)
      have hbc : Below w.heap.size w wc := hb6.trans (hc.mono (by omega))
      have hxc := hc.size
      obtain ⟨y2, y3, z0, z1⟩ := blk2 hK2
      have hbf : Below w.heap.size w ((wc.setCell ⟨w.heap.size + 1 + 1, 0, none⟩ (.int .i64 size)).setCell ⟨w.heap.size + 1 + 1, 1, none⟩ (.slice Ac nc cc)) := (hbc.setCell (by simp; omega) _).setCell (by simp; omega) _
      have hIf : IsP ((wc.setCell ⟨w.heap.size + 1 + 1, 0, none⟩ (.int .i64 size)).setCell ⟨w.heap.size + 1 + 1, 1, none⟩ (.slice Ac nc cc)) ((wc.setCell ⟨w.heap.size + 1 + 1, 0, none⟩ (.int .i64 size)).setCell ⟨w.heap.size + 1 + 1, 1, none⟩ (.slice Ac nc cc)).heap.size Ac nc cc L1 := by
        refine ((hIc.keep fun p' _ hq' => ?_).more (by simp)).free
        rw [cell_far (by show p'.block ≠ w.heap.size + 1 + 1; exact hq'.2), cell_far (by show p'.block ≠ w.heap.size + 1 + 1; exact hq'.2)]
      skip
      have HIF := Lib.hid hIf
      clear hIf hIc hK2
      go_wp2
      exact bodyPost_ret (v := .tuple #[.agg #[.int .i64 size, .slice Ac nc cc], .slice none 0 0, .int .i64 0]) (by simp [results, Try.results18, go_sem, y2, y3]) rfl ⟨by unfold CutPost; rw [HWLL.out]; exact ⟨_, nc, cc, _, _, _, rfl, HIF.out, HSTX.out, HINX.out, Rd.nil⟩, hbf⟩
    · have hd2 : decide ((size : Int) < old) = true := decide_eq_true hso
      have hd3 : decide ((0 : Int) < ((0 : Nat) : Int)) = false := by decide
      go_wp2_with fail
      refine HOWN.out.mono ?_
      rintro e wc ⟨⟨Ac, nc, cc, rfl, hIc⟩, hc⟩
      have hK2 := HG2.out.below hc (by omega)
      have hbc : Below w.heap.size w wc := hb6.trans (hc.mono (by omega))
      have hxc := hc.size
      obtain ⟨y2, y3, z0, z1⟩ := blk2 hK2
      have hbf : Below w.heap.size w ((wc.setCell ⟨w.heap.size + 1 + 1, 0, none⟩ (.int .i64 size)).setCell ⟨w.heap.size + 1 + 1, 1, none⟩ (.slice Ac nc cc)) := (hbc.setCell (by simp; omega) _).setCell (by simp; omega) _
      have hIf : IsP ((wc.setCell ⟨w.heap.size + 1 + 1, 0, none⟩ (.int .i64 size)).setCell ⟨w.heap.size + 1 + 1, 1, none⟩ (.slice Ac nc cc)) ((wc.setCell ⟨w.heap.size + 1 + 1, 0, none⟩ (.int .i64 size)).setCell ⟨w.heap.size + 1 + 1, 1, none⟩ (.slice Ac nc cc)).heap.size Ac nc cc L1 := by
        refine ((hIc.keep fun p' _ hq' => ?_).more (by simp)).free
        rw [cell_far (by show p'.block ≠ w.heap.size + 1 + 1; exact hq'.2), cell_far (by show p'.block ≠ w.heap.size + 1 + 1; exact hq'.2)]
      skip
      have HIF := Lib.hid hIf
      clear hIf hIc hK2
      go_wp2
      exact bodyPost_ret (v := .tuple #[.agg #[.int .i64 size, .slice Ac nc cc], .slice none 0 0, .int .i64 0]) (by simp [results, Try.results18, go_sem, y2, y3]) rfl ⟨by unfold CutPost; rw [HWLL.out]; exact ⟨_, nc, cc, _, _, _, rfl, HIF.out, HSTX.out, HINX.out, Rd.nil⟩, hbf⟩
end Go.Proofs.Ytpofkkoiicdpbaa
