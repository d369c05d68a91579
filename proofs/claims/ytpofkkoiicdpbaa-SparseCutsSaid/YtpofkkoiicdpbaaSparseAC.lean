/-
  Walk: the document's Cut.
-/
import Derived.Test.YtpofkkoiicdpbaaSparseAB
namespace Go.Proofs.Ytpofkkoiicdpbaa
open Go.RowKit
set_option linter.unusedVariables false

set_option maxHeartbeats 8000000 in
set_option maxRecDepth 100000 in
theorem rCut_any (A1 A2 : Option Addr) (sz c1 z c2 s' z' : Nat) (bs : List UInt8) (tl : List Bool) (w : World) (hr1 : Rd w w.heap.size 1 A1 sz (octV bs)) (hr2 : Rd w w.heap.size 1 A2 z (boolV tl))
    (hz : (sz + 127) / 128 = z) (hsz : sz ≤ 463488) (hs1 : s' ≤ 463488) (hz' : (s' + 127) / 128 = z') :
    Calls Try.prog 19 #[.agg #[.slice A1 sz c1, .slice A2 z c2], .int .i64 (s' : Int)] w fun e w' =>
      (∃ g1 g2 vw k, e = .returned (.tuple #[.agg #[.slice (some ⟨g1, 0, none⟩) s' s', .slice (some ⟨g2, 0, none⟩) z' z'], vw]) ∧ Rd w' w'.heap.size 1 (some ⟨g1, 0, none⟩) s' (octV (tab s' fun i => (bs[i]?).getD 0)) ∧ Rd w' w'.heap.size 1 (some ⟨g2, 0, none⟩) z' (boolV (tab z' fun n => (tl[n]?).getD false))
        ∧ (z' ≤ k ∨ z ≤ k) ∧ w'.ownsRow w.heap.size 3 1 vw (cutW tl sz s' k).length (intsV (cutW tl sz s' k))) ∧ Below w.heap.size w w' := by
  have hls : bs.length = sz := by have := hr1.1; rw [octV_len] at this; omega
  have hlt' : tl.length = z := by have := hr2.1; rw [boolV_len] at this; omega
  have hz9 : z' ≤ 3621 := by omega
  have hz8 : z ≤ 3621 := by omega
  obtain ⟨i1, hi, hz0, hz1, hz2⟩ := info_parts Try.info5
  obtain ⟨i2, ki, kz0, kz1, kz2⟩ := info_parts (P := Try.prog) (e := 4) (z := .bool false) (size := 1) (bytes := 1) (by kernel_rfl)
  obtain ⟨i3, li, lz0, lz1, lz2⟩ := info_parts Try.info3
  have hS : ∀ W, Calls Try.prog 27 #[.int .i64 (s' : Int)] W fun e w' => e = .returned (.int .i64 (z' : Int)) ∧ W = w' := fun W => by
    have := rNeed_any (s' : Int) W (by omega) (by omega)
    rw [show needN (s' : Int) = (z' : Int) from by unfold needN; split <;> omega] at this
    exact this
  obtain ⟨C1, hC1⟩ : ∃ C1, madeCells #[Value.int .u8 0] s' = C1 := ⟨_, rfl⟩
  obtain ⟨C2, hC2⟩ : ∃ C2, madeCells #[Value.bool false] z' = C2 := ⟨_, rfl⟩
  have hm1 : ∀ W : World, (Instr.makeSlice 25 (.int .i64 (s' : Int)) (.int .i64 (s' : Int))).run Try.prog W = .ok (.slice (some ⟨W.heap.size, 0, none⟩) s' s') (W.alloc (.cells C1 5)) := fun W => by
    rw [← hC1]
    exact run_make_row 25 5 i1 (.int .u8 0) Try.underlying25 hi hz0 hz1 rfl .i64 .i64 s' (by rw [hz2]; omega) (by omega) W
  have hm2 : ∀ W : World, (Instr.makeSlice 34 (.int .i64 (z' : Int)) (.int .i64 (z' : Int))).run Try.prog W = .ok (.slice (some ⟨W.heap.size, 0, none⟩) z' z') (W.alloc (.cells C2 4)) := fun W => by
    rw [← hC2]
    exact run_make_row 34 4 i2 (.bool false) Try.underlying34 ki kz0 kz1 rfl .i64 .i64 z' (by rw [kz2]; omega) (by omega) W
  have hC1v : C1 = (octV (tab s' (copyT 0 bs 0))).toArray := by rw [← hC1, madeO, copyT_zero]
  have hC2v : C2 = (boolV (tab z' (copyT false tl 0))).toArray := by rw [← hC2, madeT, copyT_zero]
  obtain ⟨wx, hwx⟩ : ∃ wx, (w.alloc (.cells #[.slice A1 sz c1, .slice A2 z c2] 36)).alloc (.cells #[.slice none 0 0, .slice none 0 0] 36) = wx := ⟨_, rfl⟩
  have hsx : wx.heap.size = w.heap.size + 1 + 1 := by rw [← hwx]; simp
  have hbx : Below w.heap.size w wx := by rw [← hwx]; exact ((Below.refl _ _).alloc (Nat.le_refl _) _).alloc (by simp) _
  have hX0 : Blk wx w.heap.size 36 (0, 0) #[.slice A1 sz c1, .slice A2 z c2] := by rw [← hwx]; exact (Blk.new w _ _ _).alloc _
  have hX1 : Blk wx (w.heap.size + 1) 36 (0, 0) #[.slice none 0 0, .slice none 0 0] := by
    rw [← hwx]
    have := Blk.new (w.alloc (.cells #[.slice A1 sz c1, .slice A2 z c2] 36)) 36 (0, 0) #[.slice none 0 0, .slice none 0 0]
    simpa using this
  have HX0 := Lib.hid hX0
  have HX1 := Lib.hid hX1
  have HWX := Lib.hid hwx
  obtain ⟨d0, d1, _, _⟩ := blk2 hX0
  have hl0 := hX0.lt
  have HR1 := Lib.hid hr1
  have HR2 := Lib.hid hr2
  have HS := Lib.hid hS
  have HC1 := Lib.hid hC1v
  have HC2 := Lib.hid hC2v
  have HLS := Lib.hid hls
  have HLT := Lib.hid hlt'
  have HZ := Lib.hid hz'
  clear hX0 hX1 hr1 hr2 hS hC1 hC2 hC1v hC2v hls hlt' hz hz'
  go_enter Try.func19, Try.ntmps19
  go_upto_region 1 with fail
  try rw [hwx]
  clear hwx
  go_cut [6] (fun s9 wd => ∃ g1 g2 gf, s9 = .pointer (some ⟨gf, 0, none⟩) ∧ Blk wd gf 36 (0, 0) #[.slice (some ⟨g1, 0, none⟩) s' s', .slice (some ⟨g2, 0, none⟩) z' z'] ∧ Blk wd g1 5 (0, 0) C1 ∧ Blk wd g2 4 (0, 0) C2 ∧ g1 ≠ g2 ∧ g1 ≠ gf ∧ g2 ≠ gf ∧ wx.heap.size ≤ g1 ∧ wx.heap.size ≤ g2 ∧ wx.heap.size ≤ gf ∧ Below wx.heap.size wx wd)
  case first =>
    go_region_with (go_at_call 27; refine (HS.out _).mono ?_; rintro e w0 ⟨rfl, rfl⟩)
    all_goals
      go_wp2_with fail
      go_meet
      first
        | exact ⟨_, _, _, rfl, ((blk_at0 (by simp [hsx])).alloc _).alloc _, (blk_at0 (by simp [hsx])).alloc _, blk_at0 (by simp [hsx]), by omega, by omega, by omega, by omega, by omega, by omega, below_drew ((((Below.refl _ _).alloc (Nat.le_refl _) _).alloc (base_alloc (Nat.le_refl _) _) _).alloc (base_alloc (base_alloc (Nat.le_refl _) _) _) _)⟩
        | exact ⟨_, _, _, rfl, ((blk_at0 (by simp [hsx])).alloc _).alloc _, blk_at0 (by simp [hsx]), (blk_at0 (by simp [hsx])).alloc _, by omega, by omega, by omega, by omega, by omega, by omega, below_drew ((((Below.refl _ _).alloc (Nat.le_refl _) _).alloc (base_alloc (Nat.le_refl _) _) _).alloc (base_alloc (base_alloc (Nat.le_refl _) _) _) _)⟩
        | exact ⟨_, _, _, rfl, (blk_at0 (by simp [hsx])).alloc _, ((blk_at0 (by simp [hsx])).alloc _).alloc _, blk_at0 (by simp [hsx]), by omega, by omega, by omega, by omega, by omega, by omega, below_drew ((((Below.refl _ _).alloc (Nat.le_refl _) _).alloc (base_alloc (Nat.le_refl _) _) _).alloc (base_alloc (base_alloc (Nat.le_refl _) _) _) _)⟩
        | exact ⟨_, _, _, rfl, (blk_at0 (by simp [hsx])).alloc _, blk_at0 (by simp [hsx]), ((blk_at0 (by simp [hsx])).alloc _).alloc _, by omega, by omega, by omega, by omega, by omega, by omega, below_drew ((((Below.refl _ _).alloc (Nat.le_refl _) _).alloc (base_alloc (Nat.le_refl _) _) _).alloc (base_alloc (base_alloc (Nat.le_refl _) _) _) _)⟩
        | exact ⟨_, _, _, rfl, blk_at0 (by simp [hsx]), ((blk_at0 (by simp [hsx])).alloc _).alloc _, (blk_at0 (by simp [hsx])).alloc _, by omega, by omega, by omega, by omega, by omega, by omega, below_drew ((((Below.refl _ _).alloc (Nat.le_refl _) _).alloc (base_alloc (Nat.le_refl _) _) _).alloc (base_alloc (base_alloc (Nat.le_refl _) _) _) _)⟩
        | exact ⟨_, _, _, rfl, blk_at0 (by simp [hsx]), (blk_at0 (by simp [hsx])).alloc _, ((blk_at0 (by simp [hsx])).alloc _).alloc _, by omega, by omega, by omega, by omega, by omega, by omega, below_drew ((((Below.refl _ _).alloc (Nat.le_refl _) _).alloc (base_alloc (Nat.le_refl _) _) _).alloc (base_alloc (base_alloc (Nat.le_refl _) _) _) _)⟩
  case rest =>
    obtain ⟨g1, g2, gf, rfl, hBf, hB1, hB2, n12, n1f, n2f, l1, l2, lf, hbd⟩ := hcut
    have HBF0 := Lib.hid hBf
    have HB10 := Lib.hid (show Blk wc g1 5 (0, 0) (octV (tab s' (copyT 0 bs 0))).toArray by rw [← HC1.out]; exact hB1)
    have HB20 := Lib.hid (show Blk wc g2 4 (0, 0) (boolV (tab z' (copyT false tl 0))).toArray by rw [← HC2.out]; exact hB2)
    clear hBf hB1 hB2 hm1 hm2
    have hbw0 : Below w.heap.size w wc := hbx.trans (hbd.mono hbx.size)
    go_wp2
    go_loopw [7] (fun i wr => ∃ k : Nat, k ≤ sz ∧ k ≤ s' ∧ i = .int .i64 k ∧ Blk wr gf 36 (0, 0) #[.slice (some ⟨g1, 0, none⟩) s' s', .slice (some ⟨g2, 0, none⟩) z' z'] ∧ Blk wr g1 5 (0, 0) (octV (tab s' (copyT 0 bs k))).toArray ∧ Blk wr g2 4 (0, 0) (boolV (tab z' (copyT false tl 0))).toArray ∧ Below wx.heap.size wx wr) (fun i _ => sz - (intOf i).toNat)
    case atStart => exact ⟨0, Nat.zero_le _, Nat.zero_le _, rfl, HBF0.out, HB10.out, HB20.out, hbd⟩
    case round =>
      obtain ⟨k, hk, hk2, rfl, hBf, hB1, hB2, hbr⟩ := hrel
      have hbw := hbx.trans (hbr.mono hbx.size)
      obtain ⟨q0, q1, _, _⟩ := blk2 (HX0.out.below hbr HX0.out.lt)
      obtain ⟨b0, b1, _, _⟩ := blk2 hBf
      have i0 : (0 : Int) ≤ (k : Int) := Int.natCast_nonneg _
      obtain ⟨t, ht⟩ : ∃ t, (decide (k < s') && decide (k < sz)) = t := ⟨_, rfl⟩
      go_upto_region 3 with fail
      go_cut [25] (fun s25 wd => s25 = .bool t ∧ wd = wr)
      case first =>
        by_cases h0 : k < s'
        · have e1 : decide (k < s') = true := decide_eq_true h0
          have e3 : decide (k < sz) = t := by rw [← ht, e1]; rfl
          clear ht
          go_wp2_with fail
          go_wp2
          go_meet
          exact ⟨rfl, rfl⟩
        · have e1 : decide (k < s') = false := decide_eq_false h0
          have e3 : t = false := by rw [← ht, e1]; rfl
          clear ht
          go_wp2
          go_meet
          exact ⟨by rw [e3], rfl⟩
      case rest =>
      obtain ⟨rfl, hwc⟩ := hcut
      cases hwc
      by_cases hlt : k < s' ∧ k < sz
      · obtain ⟨hlt1, hlt⟩ := hlt
        obtain rfl : t = true := by rw [← ht, decide_eq_true hlt1, decide_eq_true hlt]; rfl
        clear ht
        have i1 : (k : Int) < (sz : Int) := by omega
        have i2 : (k : Int) < (s' : Int) := by omega
        obtain ⟨g, o, x, hA, hg, hx, hc⟩ := oct_at (HR1.out.below hbw) hlt
        have s1 := blk_free hB1 k
        obtain ⟨old, s0, _⟩ := blk_has hB1 (k := k) (by rw [octV_len, tab_len]; omega)
        obtain ⟨xn, hxn⟩ : ∃ xn, x.toNat = xn := ⟨_, rfl⟩
        rw [hxn] at hc
        obtain ⟨W, hW⟩ : ∃ W, (wr.setCell ⟨g1, k, none⟩ (.int .u8 (xn : Int))).drew = W := ⟨_, rfl⟩
        have HN0 := Lib.hid (show Blk W gf 36 (0, 0) #[.slice (some ⟨g1, 0, none⟩) s' s', .slice (some ⟨g2, 0, none⟩) z' z'] by rw [← hW]; exact hBf.far (by exact n1f.symm) _)
        have HN1 := Lib.hid (show Blk W g1 5 (0, 0) (octV (tab s' (copyT 0 bs (k + 1)))).toArray by
          rw [← hW, ← copyT_step 0 bs s' k x hx, octV_set, hxn]
          exact hB1.set_ k _)
        have HN2 := Lib.hid (show Blk W g2 4 (0, 0) (boolV (tab z' (copyT false tl 0))).toArray by rw [← hW]; exact hB2.far (by exact n12.symm) _)
        have HN3 := Lib.hid (show Below wx.heap.size wx W by rw [← hW]; exact below_drew (hbr.setCell l1 _))
        have HW := Lib.hid hW
        subst hA
        clear hW hBf hB1 hB2 hx hxn
        go_wp2_with fail
        go_still_tail 9, (by kernel_rfl)
        change wpList _ _ _ _ _ wr.drew
        go_wp2
        rw [HW.out]
        go_roundw
        case rel => exact ⟨k + 1, by omega, by omega, by go_num, HN0.out, HN1.out, HN2.out, HN3.out⟩
        case measure => simp [intOf]; omega
      · have hend : s' ≤ k ∨ sz ≤ k := by omega
        have HBF1 := Lib.hid hBf
        have HB11 := Lib.hid (show Blk wr g1 5 (0, 0) (octV (tab s' fun i => (bs[i]?).getD 0)).toArray by
          rcases hend with h | h
          · rw [← copyT_top 0 bs s' k h]; exact hB1
          · rw [← copyT_full 0 bs s' k (by rw [HLS.out]; exact h)]; exact hB1)
        have HB21 := Lib.hid hB2
        obtain rfl : t = false := by
          rw [← ht]
          rcases hend with h | h
          · rw [decide_eq_false (p := k < s') (by omega)]; rfl
          · rw [decide_eq_false (p := k < sz) (by omega), Bool.and_false]
        obtain ⟨wl, rfl⟩ : ∃ wl : World, wl = wr := ⟨wr, rfl⟩
        have lg1 := hB1.lt
        have lg2 := hB2.lt
        have lgf := hBf.lt
        have lwl := hbr.size
        clear hBf hB1 hB2 hlt ht hend
        go_wp2
        clear q0 q1 b0 b1
        go_loopw [8, 9] (fun vw i wr => ∃ m : Nat, m ≤ z' ∧ m ≤ z ∧ i = .int .i64 m ∧ Blk wr gf 36 (0, 0) #[.slice (some ⟨g1, 0, none⟩) s' s', .slice (some ⟨g2, 0, none⟩) z' z'] ∧ Blk wr g1 5 (0, 0) (octV (tab s' fun i => (bs[i]?).getD 0)).toArray ∧ Blk wr g2 4 (0, 0) (boolV (tab z' (copyT false tl m))).toArray ∧ Hid (wr.ownsRow wl.heap.size 3 1 vw (cutW tl sz s' m).length (intsV (cutW tl sz s' m))) ∧ Below wx.heap.size wx wr ∧ wl.heap.size ≤ wr.heap.size) (fun _ i _ => z - (intOf i).toNat)
        case atStart => exact ⟨0, Nat.zero_le _, Nat.zero_le _, rfl, HBF1.out, HB11.out, HB21.out, Lib.hid (by rw [cutW_zero]; exact ⟨rfl, .inl ⟨rfl, rfl⟩⟩), hbr, Nat.le_refl _⟩
        case round =>
          obtain ⟨m, hm, hm2, rfl, hBf, hB1, hB2, HOW, hbr, hsw⟩ := hrel
          have hbw := hbx.trans (hbr.mono hbx.size)
          obtain ⟨q0, q1, _, _⟩ := blk2 (HX0.out.below hbr HX0.out.lt)
          obtain ⟨b0, b1, _, _⟩ := blk2 hBf
          have i0 : (0 : Int) ≤ (m : Int) := Int.natCast_nonneg _
          obtain ⟨bl, hbl⟩ : ∃ bl, (cutW tl sz s' m).length = bl := ⟨_, rfl⟩
          have hlw : (cutW tl sz s' m).length ≤ 1 := by unfold cutW; split <;> simp
          have hOW := HOW.out
          rw [hbl] at hOW hlw
          obtain ⟨Av, cv, hv, hbc, hcm, hRv⟩ := own_form hOW
          subst hv
          clear HOW hRv
          have HBL := Lib.hid hbl
          obtain ⟨t, ht⟩ : ∃ t, (decide (m < z') && decide (m < z)) = t := ⟨_, rfl⟩
          have HOWB := Lib.hid hOW
          have HBBF := Lib.hid hBf
          have HBB1 := Lib.hid hB1
          have HBB2 := Lib.hid hB2
          clear hbl hOW hBf hB1 hB2
          go_upto_region 8 with fail
          go_cut [48] (fun s48 wd => s48 = .bool t ∧ wd = wr)
          case first =>
            by_cases h0 : m < z'
            · have e1 : decide (m < z') = true := decide_eq_true h0
              have e3 : decide (m < z) = t := by rw [← ht, e1]; rfl
              clear ht
              go_wp2_with fail
              go_wp2
              go_meet
              exact ⟨rfl, rfl⟩
            · have e1 : decide (m < z') = false := decide_eq_false h0
              have e3 : t = false := by rw [← ht, e1]; rfl
              clear ht
              go_wp2
              go_meet
              exact ⟨by rw [e3], rfl⟩
          case rest =>
          obtain ⟨rfl, hwc⟩ := hcut
          cases hwc
          by_cases hlt : m < z' ∧ m < z
          · obtain ⟨hlt1, hlt⟩ := hlt
            obtain rfl : t = true := by rw [← ht, decide_eq_true hlt1, decide_eq_true hlt]; rfl
            clear ht
            have i1 : (m : Int) < (z : Int) := by omega
            have i2 : (m : Int) < (z' : Int) := by omega
            obtain ⟨g, o, x, hA, hg, hx, hc⟩ := bool_at (HR2.out.below hbw) hlt
            have s1 := blk_free HBB2.out m
            obtain ⟨old, s0, _⟩ := blk_has HBB2.out (k := m) (by rw [boolV_len, tab_len]; omega)
            obtain ⟨W, hW⟩ : ∃ W, (wr.setCell ⟨g2, m, none⟩ (.bool x)).drew = W := ⟨_, rfl⟩
            have hN0 : Blk W gf 36 (0, 0) #[.slice (some ⟨g1, 0, none⟩) s' s', .slice (some ⟨g2, 0, none⟩) z' z'] := by rw [← hW]; exact HBBF.out.far (by exact n2f.symm) _
            have hN2 : Blk W g2 4 (0, 0) (boolV (tab z' (copyT false tl (m + 1)))).toArray := by
              rw [← hW, ← copyT_step false tl z' m x hx, boolV_set]
              exact HBB2.out.set_ m _
            have hN3 : Below wx.heap.size wx W := by rw [← hW]; exact below_drew (hbr.setCell l2 _)
            have HN1 := Lib.hid (show Blk W g1 5 (0, 0) (octV (tab s' fun i => (bs[i]?).getD 0)).toArray by rw [← hW]; exact HBB1.out.far (by exact n12) _)
            have HOW2 := Lib.hid (show W.ownsRow wl.heap.size 3 1 (.slice Av bl cv) bl (intsV (cutW tl sz s' m)) by
              rw [← hW]
              exact ownsRow_setCell_below HOWB.out (by exact lg2) _)
            have hs2 : wl.heap.size ≤ W.heap.size := by rw [← hW]; simp; omega
            obtain ⟨c0, c1', _, _⟩ := blk2 hN0
            obtain ⟨p0, p1, _, _⟩ := blk2 (HX0.out.below hN3 HX0.out.lt)
            have hcx : W.cell? ⟨g2, m, none⟩ = some (.bool x) := by
              rw [hN2.cell, ← Array.getElem?_toList]
              exact boolV_get _ _ _ (by rw [tab_get _ _ _ hlt1]; unfold copyT; rw [if_pos (by omega), hx]; rfl)
            have HN0 := Lib.hid hN0
            have HN2 := Lib.hid hN2
            have HN3 := Lib.hid hN3
            have HXX := Lib.hid hx
            have hbsl : ∀ (W : World) (x : Int), (Instr.buildSlice 28 1 #[(0, .int .i64 x)]).run Try.prog W = .ok (.slice (some ⟨W.heap.size, 0, none⟩) 1 1) (W.alloc (.cells #[.int .i64 x] 3)) := fun W x => by kernel_rfl
            subst hA
            clear hx hN0 hN2 hN3
            by_cases hall : x = true ∧ s' < sz ∧ 128 * m < s' ∧ s' < 128 * m + 128
            · obtain ⟨rfl, h1, h2, h3⟩ := hall
              have d1' : decide (s' < sz) = true := decide_eq_true h1
              have d2' : decide (128 * m < s') = true := decide_eq_true h2
              have d3' : decide (s' < 128 * m + 128) = true := decide_eq_true h3
              have HNW := Lib.hid (cutW_new tl sz s' m (by rw [HXX.out]; rfl) h1 h2 h3)
              go_wp2_with fail
              go_still_tail 9, (by kernel_rfl)
              change wpList _ _ _ _ _ wr.drew
              go_wp2_with (at_builtin; refine wpList_append_own _ rfl (.tmp 85) (.tmp 87) 28 rfl wl.heap.size 3 i3 _ 1 8 Try.underlying28 li lz0 lz1 lz2 rfl (by decide) (.slice Av bl cv) bl _ rfl (HOW2.out.alloc _) ⟨W.heap.size, 0, none⟩ 1 1 [.int .i64 (m : Int)] rfl rfl (fun j u hj => new_cells W _ _ _ rfl j u hj) (one_cell rfl) (by unfold maxLen; omega) (by omega) (by simp; omega) ?_)
              intro v6 w6 hown6 hgrow6 _
              have hr6 : Below wl.heap.size W w6 := ((Below.refl _ _).alloc hs2 _).grown hgrow6 (by simp; omega) (fun k' hk' => (HOW2.out.lt k' hk').1)
              have HO6 : Hid (w6.ownsRow wl.heap.size 3 1 v6 (cutW tl sz s' (m + 1)).length (intsV (cutW tl sz s' (m + 1)))) := Lib.hid (by rw [HNW.out, List.length_append, HBL.out, intsV_snoc]; exact hown6)
              clear hown6 hgrow6
              go_wp2
              go_roundw
              case rel => exact ⟨m + 1, by omega, by omega, by go_num, HN0.out.below hr6 lgf, HN1.out.below hr6 lg1, HN2.out.below hr6 lg2, HO6, HN3.out.trans (hr6.mono lwl), Nat.le_trans hs2 hr6.size⟩
              case measure => simp [intOf]; omega
            · have HO6 : Hid (W.ownsRow wl.heap.size 3 1 (.slice Av bl cv) (cutW tl sz s' (m + 1)).length (intsV (cutW tl sz s' (m + 1)))) := Lib.hid (by rw [cutW_same tl sz s' m (by rw [HXX.out]; exact hall), HBL.out]; exact HOW2.out)
              cases x with
              | false =>
                go_wp2_with fail
                go_still_tail 9, (by kernel_rfl)
                change wpList _ _ _ _ _ wr.drew
                go_wp2
                go_roundw
                case rel => exact ⟨m + 1, by omega, by omega, by go_num, HN0.out, HN1.out, HN2.out, HO6, HN3.out, hs2⟩
                case measure => simp [intOf]; omega
              | true =>
                by_cases h1 : s' < sz
                · have d1' : decide (s' < sz) = true := decide_eq_true h1
                  by_cases h2 : 128 * m < s'
                  · have d2' : decide (128 * m < s') = true := decide_eq_true h2
                    have h3 : ¬ s' < 128 * m + 128 := fun h => hall ⟨rfl, h1, h2, h⟩
                    have d3' : decide (s' < 128 * m + 128) = false := decide_eq_false h3
                    clear hall
                    go_wp2_with fail
                    go_still_tail 9, (by kernel_rfl)
                    change wpList _ _ _ _ _ wr.drew
                    go_wp2
                    go_roundw
                    case rel => exact ⟨m + 1, by omega, by omega, by go_num, HN0.out, HN1.out, HN2.out, HO6, HN3.out, hs2⟩
                    case measure => simp [intOf]; omega
                  · have d2' : decide (128 * m < s') = false := decide_eq_false h2
                    clear hall
                    go_wp2_with fail
                    go_still_tail 9, (by kernel_rfl)
                    change wpList _ _ _ _ _ wr.drew
                    go_wp2
                    go_roundw
                    case rel => exact ⟨m + 1, by omega, by omega, by go_num, HN0.out, HN1.out, HN2.out, HO6, HN3.out, hs2⟩
                    case measure => simp [intOf]; omega
                · have d1' : decide (s' < sz) = false := decide_eq_false h1
                  clear hall
                  go_wp2_with fail
                  go_still_tail 9, (by kernel_rfl)
                  change wpList _ _ _ _ _ wr.drew
                  go_wp2
                  go_roundw
                  case rel => exact ⟨m + 1, by omega, by omega, by go_num, HN0.out, HN1.out, HN2.out, HO6, HN3.out, hs2⟩
                  case measure => simp [intOf]; omega
          · have hend : z' ≤ m ∨ z ≤ m := by omega
            obtain rfl : t = false := by
              rw [← ht]
              rcases hend with h | h
              · rw [decide_eq_false (p := m < z') (by omega)]; rfl
              · rw [decide_eq_false (p := m < z) (by omega), Bool.and_false]
            have hB1 := HBB1.out
            have hBf := HBBF.out
            have hB2 : Blk wr g2 4 (0, 0) (boolV (tab z' fun n => (tl[n]?).getD false)).toArray := by
              rcases hend with h | h
              · rw [← copyT_top false tl z' m h]; exact HBB2.out
              · rw [← copyT_full false tl z' m (by rw [HLT.out]; exact h)]; exact HBB2.out
            have hR := HX1.out.below hbr HX1.out.lt
            have hlr : w.heap.size + 1 < wx.heap.size := by omega
            obtain ⟨e0, e1, _, _⟩ := blk2 hR
            have hOW := HOWB.out
            obtain ⟨wv, hwv⟩ : ∃ wv, (wr.setCell ⟨w.heap.size + 1, 0, none⟩ (.slice (some ⟨g1, 0, none⟩) s' s')).setCell ⟨w.heap.size + 1, 1, none⟩ (.slice (some ⟨g2, 0, none⟩) z' z') = wv := ⟨_, rfl⟩
            have hRw : Blk wv (w.heap.size + 1) 36 (0, 0) #[.slice (some ⟨g1, 0, none⟩) s' s', .slice (some ⟨g2, 0, none⟩) z' z'] := by
              rw [← hwv]; exact (hR.set_ 0 (.slice (some ⟨g1, 0, none⟩) s' s')).set_ 1 (.slice (some ⟨g2, 0, none⟩) z' z')
            have k1 : Blk wv g1 5 (0, 0) (octV (tab s' fun i => (bs[i]?).getD 0)).toArray := by
              rw [← hwv]; exact (hB1.far (by show g1 ≠ w.heap.size + 1; omega) _).far (by show g1 ≠ w.heap.size + 1; omega) _
            have k2 : Blk wv g2 4 (0, 0) (boolV (tab z' fun n => (tl[n]?).getD false)).toArray := by
              rw [← hwv]; exact (hB2.far (by show g2 ≠ w.heap.size + 1; omega) _).far (by show g2 ≠ w.heap.size + 1; omega) _
            have k3 : wv.ownsRow w.heap.size 3 1 (.slice Av bl cv) bl (intsV (cutW tl sz s' m)) := by
              rw [← hwv]
              exact own_base (ownsRow_setCell_below (ownsRow_setCell_below hOW (by show w.heap.size + 1 < _; omega) _) (by show w.heap.size + 1 < _; omega) _) (by omega)
            have hbv : Below w.heap.size w wv := by
              rw [← hwv]; exact (hbw.setCell (by show w.heap.size ≤ w.heap.size + 1; omega) _).setCell (by show w.heap.size ≤ w.heap.size + 1; omega) _
            obtain ⟨r0, r1, _, _⟩ := blk2 hRw
            have HK1 := Lib.hid (k1.rd (n := s') (by rw [octV_len, tab_len]) k1.lt)
            have HK2 := Lib.hid (k2.rd (n := z') (by rw [boolV_len, tab_len]) k2.lt)
            have HK3 := Lib.hid k3
            have HEND := Lib.hid hend
            clear k1 k2 k3 hRw hB1 hB2 hR hBf hOW hlt ht hend
            subst hwv
            go_wp2
            exact bodyPost_ret (v := .tuple #[.agg #[.slice (some ⟨g1, 0, none⟩) s' s', .slice (some ⟨g2, 0, none⟩) z' z'], .slice Av bl cv]) (by simp [results, Try.results19, go_sem, r0, r1]) rfl ⟨⟨g1, g2, _, m, rfl, HK1.out, HK2.out, HEND.out, by rw [HBL.out]; exact HK3.out⟩, hbv⟩
end Go.Proofs.Ytpofkkoiicdpbaa
