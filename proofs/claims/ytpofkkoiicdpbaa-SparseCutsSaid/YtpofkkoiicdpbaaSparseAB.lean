/-
  Walk: the document's Write.
-/
import Derived.Test.YtpofkkoiicdpbaaSparseZ
import Derived.Test.YtpofkkoiicdpbaaSparseAA
import Derived.StillTailTactics
namespace Go.Proofs.Ytpofkkoiicdpbaa
open Go.RowKit
set_option linter.unusedVariables false

theorem octV_set (l : List UInt8) (k : Nat) (x : UInt8) : (octV (l.set k x)).toArray = (octV l).toArray.setIfInBounds k (.int .u8 (x.toNat : Int)) := by
  unfold octV
  rw [List.map_set]
  simp
theorem boolV_set (l : List Bool) (k : Nat) (x : Bool) : (boolV (l.set k x)).toArray = (boolV l).toArray.setIfInBounds k (.bool x) := by
  unfold boolV
  rw [List.map_set]
  simp
theorem blk_has {w : World} {g k : Nat} {t : TypeId} {fz : Nat × Nat} {l : List Value} (h : Blk w g t fz l.toArray) (hk : k < l.length) : ∃ v, w.cell? ⟨g, k, none⟩ = some v ∧ l[k]? = some v := by
  refine ⟨l[k], ?_, List.getElem?_eq_getElem hk⟩
  rw [h.cell, ← Array.getElem?_toList]
  exact List.getElem?_eq_getElem hk
theorem blk_free {w : World} {g : Nat} {t : TypeId} {cs : Array Value} (h : Blk w g t (0, 0) cs) (k : Nat) : w.frozen? ⟨g, k, none⟩ = false := by rw [h.frozen]; simp
theorem madeO (n : Nat) : madeCells #[Value.int .u8 0] n = (octV (List.replicate n 0)).toArray := by
  rw [made_one]
  congr 1
  simp [octV]
theorem madeT (n : Nat) : madeCells #[Value.bool false] n = (boolV (List.replicate n false)).toArray := by
  rw [made_one]
  congr 1
  simp [boolV]

set_option maxHeartbeats 8000000 in
set_option maxRecDepth 100000 in
theorem rWrite_any (A1 A2 Ab : Option Addr) (sz c1 z c2 lb cb off s' z' : Nat) (bs : List UInt8) (tl : List Bool) (b : List UInt8) (w : World) (hr1 : Rd w w.heap.size 1 A1 sz (octV bs)) (hr2 : Rd w w.heap.size 1 A2 z (boolV tl)) (hrb : Rd w w.heap.size 1 Ab lb (octV b))
    (hz : (sz + 127) / 128 = z) (hsz : sz ≤ 463488) (ho : off + lb ≤ 463488) (hs' : sizeN sz off lb = s') (hz' : (s' + 127) / 128 = z') :
    Calls Try.prog 16 #[.agg #[.slice A1 sz c1, .slice A2 z c2], .int .i64 (off : Int), .slice Ab lb cb] w fun e w' =>
      (∃ g1 g2 vw, e = .returned (.tuple #[.agg #[.slice (some ⟨g1, 0, none⟩) s' s', .slice (some ⟨g2, 0, none⟩) z' z'], vw]) ∧ Rd w' w'.heap.size 1 (some ⟨g1, 0, none⟩) s' (octV (tab s' (wrB bs off b lb))) ∧ Rd w' w'.heap.size 1 (some ⟨g2, 0, none⟩) z' (boolV (tab z' (wrT tl off lb)))
        ∧ w'.ownsRow w.heap.size 3 1 vw (blocksW off lb).length (intsV (blocksW off lb))) ∧ Below w.heap.size w w' := by
  have hlb : b.length = lb := by have := hrb.1; rw [octV_len] at this; omega
  have hls : bs.length = sz := by have := hr1.1; rw [octV_len] at this; omega
  have hlt' : tl.length = z := by have := hr2.1; rw [boolV_len] at this; omega
  have hsc : (lb = 0 ∧ s' = sz) ∨ (0 < lb ∧ sz < off + lb ∧ s' = off + lb) ∨ (0 < lb ∧ off + lb ≤ sz ∧ s' = sz) := by
    unfold sizeN at hs'
    split at hs' <;> omega
  have hs1 : s' ≤ 463488 := by omega
  have hss : sz ≤ s' := by omega
  have hsb : lb = 0 ∨ off + lb ≤ s' := by omega
  have hz9 : z' ≤ 3621 := by omega
  have hzz : z ≤ z' := by omega
  obtain ⟨i1, hi, hz0, hz1, hz2⟩ := info_parts Try.info5
  obtain ⟨i2, ki, kz0, kz1, kz2⟩ := info_parts (P := Try.prog) (e := 4) (z := .bool false) (size := 1) (bytes := 1) (by kernel_rfl)
  obtain ⟨i3, li, lz0, lz1, lz2⟩ := info_parts Try.info3
  have hS : ∀ W, Calls Try.prog 27 #[.int .i64 (s' : Int)] W fun e w' => e = .returned (.int .i64 (z' : Int)) ∧ W = w' := fun W => by
    have := rNeed_any (s' : Int) W (by omega) (by omega)
    rw [show needN (s' : Int) = (z' : Int) from by unfold needN; split <;> omega] at this
    exact this
  obtain ⟨C1, hC1⟩ : ∃ C1, madeCells #[Value.int .u8 0] s' = C1 := ⟨_, rfl⟩
  obtain ⟨C2, hC2⟩ : ∃ C2, madeCells #[Value.bool false] z' = C2 := ⟨_, rfl⟩
  have hm1 : ∀ W : World, (Instr.makeSlice 25 (.int .i64 (s' : Int)) (.int .i64 (s' : Int))).run Try.prog W = .ok (.slice (some ⟨W.heap.size, 0, none⟩) s' s') (W.alloc (.cells C1 5)) := fun W => by
    rw [← hC1]
    exact run_make_row 25 5 i1 (.int .u8 0) Try.underlying25 hi hz0 hz1 rfl .i64 .i64 s' (by rw [hz2]; omega) (by omega) W
  have hm2 : ∀ W : World, (Instr.makeSlice 34 (.int .i64 (z' : Int)) (.int .i64 (z' : Int))).run Try.prog W = .ok (.slice (some ⟨W.heap.size, 0, none⟩) z' z') (W.alloc (.cells C2 4)) := fun W => by
    rw [← hC2]
    exact run_make_row 34 4 i2 (.bool false) Try.underlying34 ki kz0 kz1 rfl .i64 .i64 z' (by rw [kz2]; omega) (by omega) W
  have hC1v : C1 = (octV (tab s' (copyT 0 bs 0))).toArray := by rw [← hC1, madeO, copyT_zero]
  have hC2v : C2 = (boolV (tab z' (copyT false tl 0))).toArray := by rw [← hC2, madeT, copyT_zero]
  obtain ⟨wx, hwx⟩ : ∃ wx, (w.alloc (.cells #[.slice A1 sz c1, .slice A2 z c2] 36)).alloc (.cells #[.slice none 0 0, .slice none 0 0] 36) = wx := ⟨_, rfl⟩
  have hsx : wx.heap.size = w.heap.size + 1 + 1 := by rw [← hwx]; simp
  have hbx : Below w.heap.size w wx := by rw [← hwx]; exact ((Below.refl _ _).alloc (Nat.le_refl _) _).alloc (by simp) _
  have hX0 : Blk wx w.heap.size 36 (0, 0) #[.slice A1 sz c1, .slice A2 z c2] := by rw [← hwx]; exact (Blk.new w _ _ _).alloc _
  have hX1 : Blk wx (w.heap.size + 1) 36 (0, 0) #[.slice none 0 0, .slice none 0 0] := by
    rw [← hwx]
    have := Blk.new (w.alloc (.cells #[.slice A1 sz c1, .slice A2 z c2] 36)) 36 (0, 0) #[.slice none 0 0, .slice none 0 0]
    simpa using this
  have HX0 := Lib.hid hX0
  have HX1 := Lib.hid hX1
  have HWX := Lib.hid hwx
  obtain ⟨d0, d1, _, _⟩ := blk2 hX0
  have hl0 := hX0.lt
  have HR1 := Lib.hid hr1
  have HR2 := Lib.hid hr2
  have HRB := Lib.hid hrb
  have HS := Lib.hid hS
  have HC1 := Lib.hid hC1v
  have HC2 := Lib.hid hC2v
  have HLB := Lib.hid hlb
  have HLS := Lib.hid hls
  have HLT := Lib.hid hlt'
  have HZ := Lib.hid hz'
  clear hX0 hX1 hr1 hr2 hrb hS hC1 hC2 hC1v hC2v hlb hls hlt' hz hs' hz'
  go_enter Try.func16, Try.ntmps16
  go_upto_region 2 with fail
  try rw [hwx]
  clear hwx
  obtain ⟨t, ht⟩ : ∃ t, (decide (0 < lb) && decide (sz < off + lb)) = t := ⟨_, rfl⟩
  go_cut [28] (fun s28 wd => s28 = .bool t ∧ wd = wx)
  case first =>
    clear hm1 hm2
    by_cases h0 : 0 < lb
    · have e1 : decide (0 < lb) = true := decide_eq_true h0
      have e3 : decide (sz < off + lb) = t := by rw [← ht, e1]; rfl
      have e4 : decide ((sz : Int) < (off : Int) + (lb : Int)) = t := by rw [← e3]; exact decide_eq_decide.2 (by omega)
      clear ht e3 hsc
      go_wp2_with fail
      go_wp2
      go_meet
      exact ⟨rfl, rfl⟩
    · obtain rfl : lb = 0 := by omega
      have e3 : t = false := by rw [← ht]; rfl
      clear ht hsc
      go_wp2
      go_meet
      exact ⟨by rw [e3], rfl⟩
  case rest =>
  obtain ⟨rfl, hwc⟩ := hcut
  cases hwc
  go_upto_if 28 with fail
  go_cut [8] (fun s8 wd => s8 = .int .i64 (s' : Int) ∧ wd = wx)
  case first =>
    clear hm1 hm2
    cases t with
    | true =>
      simp only [Bool.and_eq_true, decide_eq_true_eq] at ht
      have e3 : (off : Int) + (lb : Int) = (s' : Int) := by omega
      clear hsc ht
      go_wp2
      go_meet
      exact ⟨rfl, rfl⟩
    | false =>
      have e3 : s' = sz := by
        rcases hsc with ⟨h0, h1⟩ | ⟨h0, h1, h2⟩ | ⟨h0, h1, h2⟩
        · exact h1
        · rw [decide_eq_true h0, decide_eq_true h1] at ht; cases ht
        · exact h2
      clear hsc ht
      go_wp2
      go_meet
      exact ⟨by rw [e3], rfl⟩
  case rest =>
    obtain ⟨rfl, hwc⟩ := hcut
    cases hwc
    go_upto_region 4 with fail
    go_cut [9] (fun s9 wd => ∃ g1 g2 gf, s9 = .pointer (some ⟨gf, 0, none⟩) ∧ Blk wd gf 36 (0, 0) #[.slice (some ⟨g1, 0, none⟩) s' s', .slice (some ⟨g2, 0, none⟩) z' z'] ∧ Blk wd g1 5 (0, 0) C1 ∧ Blk wd g2 4 (0, 0) C2 ∧ g1 ≠ g2 ∧ g1 ≠ gf ∧ g2 ≠ gf ∧ wx.heap.size ≤ g1 ∧ wx.heap.size ≤ g2 ∧ wx.heap.size ≤ gf ∧ Below wx.heap.size wx wd)
    case first =>
      go_region_with (go_at_call 27; refine (HS.out _).mono ?_; rintro e w0 ⟨rfl, rfl⟩)
      all_goals
        go_wp2_with fail
        go_meet
        first
          | exact ⟨_, _, _, rfl, ((blk_at0 (by simp [hsx])).alloc _).alloc _, (blk_at0 (by simp [hsx])).alloc _, blk_at0 (by simp [hsx]), by omega, by omega, by omega, by omega, by omega, by omega, below_drew ((((Below.refl _ _).alloc (Nat.le_refl _) _).alloc (base_alloc (Nat.le_refl _) _) _).alloc (base_alloc (base_alloc (Nat.le_refl _) _) _) _)⟩
          | exact ⟨_, _, _, rfl, ((blk_at0 (by simp [hsx])).alloc _).alloc _, blk_at0 (by simp [hsx]), (blk_at0 (by simp [hsx])).alloc _, by omega, by omega, by omega, by omega, by omega, by omega, below_drew ((((Below.refl _ _).alloc (Nat.le_refl _) _).alloc (base_alloc (Nat.le_refl _) _) _).alloc (base_alloc (base_alloc (Nat.le_refl _) _) _) _)⟩
          | exact ⟨_, _, _, rfl, (blk_at0 (by simp [hsx])).alloc _, ((blk_at0 (by simp [hsx])).alloc _).alloc _, blk_at0 (by simp [hsx]), by omega, by omega, by omega, by omega, by omega, by omega, below_drew ((((Below.refl _ _).alloc (Nat.le_refl _) _).alloc (base_alloc (Nat.le_refl _) _) _).alloc (base_alloc (base_alloc (Nat.le_refl _) _) _) _)⟩
          | exact ⟨_, _, _, rfl, (blk_at0 (by simp [hsx])).alloc _, blk_at0 (by simp [hsx]), ((blk_at0 (by simp [hsx])).alloc _).alloc _, by omega, by omega, by omega, by omega, by omega, by omega, below_drew ((((Below.refl _ _).alloc (Nat.le_refl _) _).alloc (base_alloc (Nat.le_refl _) _) _).alloc (base_alloc (base_alloc (Nat.le_refl _) _) _) _)⟩
          | exact ⟨_, _, _, rfl, blk_at0 (by simp [hsx]), ((blk_at0 (by simp [hsx])).alloc _).alloc _, (blk_at0 (by simp [hsx])).alloc _, by omega, by omega, by omega, by omega, by omega, by omega, below_drew ((((Below.refl _ _).alloc (Nat.le_refl _) _).alloc (base_alloc (Nat.le_refl _) _) _).alloc (base_alloc (base_alloc (Nat.le_refl _) _) _) _)⟩
          | exact ⟨_, _, _, rfl, blk_at0 (by simp [hsx]), (blk_at0 (by simp [hsx])).alloc _, ((blk_at0 (by simp [hsx])).alloc _).alloc _, by omega, by omega, by omega, by omega, by omega, by omega, below_drew ((((Below.refl _ _).alloc (Nat.le_refl _) _).alloc (base_alloc (Nat.le_refl _) _) _).alloc (base_alloc (base_alloc (Nat.le_refl _) _) _) _)⟩
    case rest =>
      obtain ⟨g1, g2, gf, rfl, hBf, hB1, hB2, n12, n1f, n2f, l1, l2, lf, hbd⟩ := hcut
      have HBF0 := Lib.hid hBf
      have HB10 := Lib.hid (show Blk wc g1 5 (0, 0) (octV (tab s' (copyT 0 bs 0))).toArray by rw [← HC1.out]; exact hB1)
      have HB20 := Lib.hid (show Blk wc g2 4 (0, 0) (boolV (tab z' (copyT false tl 0))).toArray by rw [← HC2.out]; exact hB2)
      clear hBf hB1 hB2 hm1 hm2
      have hbw0 : Below w.heap.size w wc := hbx.trans (hbd.mono hbx.size)
      go_wp2
      go_loopw [10] (fun i wr => ∃ k : Nat, k ≤ sz ∧ i = .int .i64 k ∧ Blk wr gf 36 (0, 0) #[.slice (some ⟨g1, 0, none⟩) s' s', .slice (some ⟨g2, 0, none⟩) z' z'] ∧ Blk wr g1 5 (0, 0) (octV (tab s' (copyT 0 bs k))).toArray ∧ Blk wr g2 4 (0, 0) (boolV (tab z' (copyT false tl 0))).toArray ∧ Below wx.heap.size wx wr) (fun i _ => sz - (intOf i).toNat)
      case atStart => exact ⟨0, Nat.zero_le _, rfl, HBF0.out, HB10.out, HB20.out, hbd⟩
      case round =>
        obtain ⟨k, hk, rfl, hBf, hB1, hB2, hbr⟩ := hrel
        have hbw := hbx.trans (hbr.mono hbx.size)
        obtain ⟨q0, q1, _, _⟩ := blk2 (HX0.out.below hbr HX0.out.lt)
        obtain ⟨b0, b1, _, _⟩ := blk2 hBf
        have i0 : (0 : Int) ≤ (k : Int) := Int.natCast_nonneg _
        by_cases hlt : k < sz
        · have i1 : (k : Int) < (sz : Int) := by omega
          have i2 : (k : Int) < (s' : Int) := by omega
          obtain ⟨g, o, x, hA, hg, hx, hc⟩ := oct_at (HR1.out.below hbw) hlt
          have s1 := blk_free hB1 k
          obtain ⟨old, s0, _⟩ := blk_has hB1 (k := k) (by rw [octV_len, tab_len]; omega)
          obtain ⟨xn, hxn⟩ : ∃ xn, x.toNat = xn := ⟨_, rfl⟩
          rw [hxn] at hc
          obtain ⟨W, hW⟩ : ∃ W, (wr.setCell ⟨g1, k, none⟩ (.int .u8 (xn : Int))).drew = W := ⟨_, rfl⟩
          have HN0 := Lib.hid (show Blk W gf 36 (0, 0) #[.slice (some ⟨g1, 0, none⟩) s' s', .slice (some ⟨g2, 0, none⟩) z' z'] by rw [← hW]; exact hBf.far (by exact n1f.symm) _)
          have HN1 := Lib.hid (show Blk W g1 5 (0, 0) (octV (tab s' (copyT 0 bs (k + 1)))).toArray by
            rw [← hW, ← copyT_step 0 bs s' k x hx, octV_set, hxn]
            exact hB1.set_ k _)
          have HN2 := Lib.hid (show Blk W g2 4 (0, 0) (boolV (tab z' (copyT false tl 0))).toArray by rw [← hW]; exact hB2.far (by exact n12.symm) _)
          have HN3 := Lib.hid (show Below wx.heap.size wx W by rw [← hW]; exact below_drew (hbr.setCell l1 _))
          have HW := Lib.hid hW
          subst hA
          clear hW hBf hB1 hB2 hx hxn
          go_wp2_with fail
          go_still_tail 9, (by kernel_rfl)
          change wpList _ _ _ _ _ wr.drew
          go_wp2
          rw [HW.out]
          go_roundw
          case rel => exact ⟨k + 1, by omega, by go_num, HN0.out, HN1.out, HN2.out, HN3.out⟩
          case measure => simp [intOf]; omega
        · obtain rfl : k = sz := by omega
          have HBF1 := Lib.hid hBf
          have HB11 := Lib.hid (show Blk wr g1 5 (0, 0) (octV (tab s' (wrB bs off b 0))).toArray by rw [wrB_zero, ← copyT_full 0 bs s' k (by rw [HLS.out]; exact Nat.le_refl _)]; exact hB1)
          have HB21 := Lib.hid hB2
          obtain ⟨wo, rfl⟩ : ∃ wo : World, wo = wr := ⟨wr, rfl⟩
          clear hBf hB1 hB2
          go_wp2
          clear q0 q1 b0 b1
          go_loopw [11] (fun i wr => ∃ m : Nat, m ≤ z ∧ i = .int .i64 m ∧ Blk wr gf 36 (0, 0) #[.slice (some ⟨g1, 0, none⟩) s' s', .slice (some ⟨g2, 0, none⟩) z' z'] ∧ Blk wr g1 5 (0, 0) (octV (tab s' (wrB bs off b 0))).toArray ∧ Blk wr g2 4 (0, 0) (boolV (tab z' (copyT false tl m))).toArray ∧ Below wx.heap.size wx wr) (fun i _ => z - (intOf i).toNat)
          case atStart => exact ⟨0, Nat.zero_le _, rfl, HBF1.out, HB11.out, HB21.out, hbr⟩
          case round =>
            obtain ⟨m, hm, rfl, hBf, hB1, hB2, hbr⟩ := hrel
            have hbw := hbx.trans (hbr.mono hbx.size)
            obtain ⟨q0, q1, _, _⟩ := blk2 (HX0.out.below hbr HX0.out.lt)
            obtain ⟨b0, b1, _, _⟩ := blk2 hBf
            have i0 : (0 : Int) ≤ (m : Int) := Int.natCast_nonneg _
            by_cases hlt : m < z
            · have i1 : (m : Int) < (z : Int) := by omega
              have i2 : (m : Int) < (z' : Int) := by omega
              obtain ⟨g, o, x, hA, hg, hx, hc⟩ := bool_at (HR2.out.below hbw) hlt
              have s1 := blk_free hB2 m
              obtain ⟨old, s0, _⟩ := blk_has hB2 (k := m) (by rw [boolV_len, tab_len]; omega)
              obtain ⟨W, hW⟩ : ∃ W, (wr.setCell ⟨g2, m, none⟩ (.bool x)).drew = W := ⟨_, rfl⟩
              have HN0 := Lib.hid (show Blk W gf 36 (0, 0) #[.slice (some ⟨g1, 0, none⟩) s' s', .slice (some ⟨g2, 0, none⟩) z' z'] by rw [← hW]; exact hBf.far (by exact n2f.symm) _)
              have HN1 := Lib.hid (show Blk W g1 5 (0, 0) (octV (tab s' (wrB bs off b 0))).toArray by rw [← hW]; exact hB1.far (by exact n12) _)
              have HN2 := Lib.hid (show Blk W g2 4 (0, 0) (boolV (tab z' (copyT false tl (m + 1)))).toArray by
                rw [← hW, ← copyT_step false tl z' m x hx, boolV_set]
                exact hB2.set_ m _)
              have HN3 := Lib.hid (show Below wx.heap.size wx W by rw [← hW]; exact below_drew (hbr.setCell l2 _))
              have HW := Lib.hid hW
              subst hA
              clear hW hBf hB1 hB2 hx
              go_wp2_with fail
              go_still_tail 9, (by kernel_rfl)
              change wpList _ _ _ _ _ wr.drew
              go_wp2
              rw [HW.out]
              go_roundw
              case rel => exact ⟨m + 1, by omega, by go_num, HN0.out, HN1.out, HN2.out, HN3.out⟩
              case measure => simp [intOf]; omega
            · obtain rfl : m = z := by omega
              have HBF2 := Lib.hid hBf
              have HB12 := Lib.hid hB1
              have HB22 := Lib.hid (show Blk wr g2 4 (0, 0) (boolV (tab z' (wrT tl off 0))).toArray by rw [wrT_zero, ← copyT_full false tl z' m (by rw [HLT.out]; exact Nat.le_refl _)]; exact hB2)
              obtain ⟨wl, rfl⟩ : ∃ wl : World, wl = wr := ⟨wr, rfl⟩
              have lg1 := hB1.lt
              have lg2 := hB2.lt
              have lgf := hBf.lt
              have lwl := hbr.size
              clear hBf hB1 hB2
              go_wp2
              clear q0 q1 b0 b1
              go_loopw [12, 13, 14] (fun vw i _ wr => ∃ j : Nat, j ≤ lb ∧ i = .int .i64 j ∧ Blk wr gf 36 (0, 0) #[.slice (some ⟨g1, 0, none⟩) s' s', .slice (some ⟨g2, 0, none⟩) z' z'] ∧ Blk wr g1 5 (0, 0) (octV (tab s' (wrB bs off b j))).toArray ∧ Blk wr g2 4 (0, 0) (boolV (tab z' (wrT tl off j))).toArray ∧ Hid (wr.ownsRow wl.heap.size 3 1 vw (blocksW off j).length (intsV (blocksW off j))) ∧ Below wx.heap.size wx wr ∧ wl.heap.size ≤ wr.heap.size) (fun _ i _ _ => lb - (intOf i).toNat)
              case atStart => exact ⟨0, Nat.zero_le _, rfl, HBF2.out, HB12.out, HB22.out, Lib.hid ⟨rfl, .inl ⟨rfl, rfl⟩⟩, hbr, Nat.le_refl _⟩
              case round =>
                obtain ⟨j, hj, rfl, hBf, hB1, hB2, HOW, hbr, hsw⟩ := hrel
                have hbw := hbx.trans (hbr.mono hbx.size)
                obtain ⟨b0, b1, _, _⟩ := blk2 hBf
                have i0 : (0 : Int) ≤ (j : Int) := Int.natCast_nonneg _
                by_cases hlt : j < lb
                · have i1 : (j : Int) < (lb : Int) := by omega
                  obtain ⟨bl, hbl⟩ : ∃ bl, (blocksW off j).length = bl := ⟨_, rfl⟩
                  have hlw := blocksW_len off j
                  have hOW := HOW.out
                  rw [hbl] at hOW hlw
                  obtain ⟨Av, cv, hv, hbc, hcm, hRv⟩ := own_form hOW
                  subst hv
                  clear HOW
                  obtain ⟨p, hp⟩ : ∃ p, off + j = p := ⟨_, rfl⟩
                  obtain ⟨q, hq⟩ : ∃ q : Nat, p / 128 = q := ⟨_, rfl⟩
                  have hpi : (off : Int) + (j : Int) = (p : Int) := by omega
                  have hqi : (p : Int) / 128 = (q : Int) := by omega
                  have hps : p < s' := by omega
                  have hqz : q < z' := by have := HZ.out; omega
                  have p0 : (0 : Int) ≤ (p : Int) := Int.natCast_nonneg _
                  have p1 : (p : Int) < (s' : Int) := by omega
                  have k0 : (0 : Int) ≤ (q : Int) := Int.natCast_nonneg _
                  have k1 : (q : Int) < (z' : Int) := by omega
                  have hwp1 : IntKind.i64.wrap (p : Int) = p := IntWalk.i64_in _ ⟨by omega, by omega⟩
                  obtain ⟨g, o, x, hA, hg, hx, hc⟩ := oct_at (HRB.out.below hbw) hlt
                  have s1 := blk_free hB1 p
                  obtain ⟨old, s0, _⟩ := blk_has hB1 (k := p) (by rw [octV_len, tab_len]; exact hps)
                  obtain ⟨xn, hxn⟩ : ∃ xn, x.toNat = xn := ⟨_, rfl⟩
                  rw [hxn] at hc
                  obtain ⟨W1, hW1⟩ : ∃ W, (wr.setCell ⟨g1, p, none⟩ (.int .u8 (xn : Int))).drew = W := ⟨_, rfl⟩
                  have hM0 : Blk W1 gf 36 (0, 0) #[.slice (some ⟨g1, 0, none⟩) s' s', .slice (some ⟨g2, 0, none⟩) z' z'] := by rw [← hW1]; exact hBf.far (by exact n1f.symm) _
                  have hM1 : Blk W1 g1 5 (0, 0) (octV (tab s' (wrB bs off b (j + 1)))).toArray := by
                    rw [← hW1, ← wrB_step bs b off s' j x hx, hp, octV_set, hxn]
                    exact hB1.set_ p _
                  have hM2 : Blk W1 g2 4 (0, 0) (boolV (tab z' (wrT tl off j))).toArray := by rw [← hW1]; exact hB2.far (by exact n12.symm) _
                  have hM3 : Below wx.heap.size wx W1 := by rw [← hW1]; exact below_drew (hbr.setCell l1 _)
                  have hM4 : W1.ownsRow wl.heap.size 3 1 (.slice Av bl cv) bl (intsV (blocksW off j)) := by
                    rw [← hW1]
                    exact ownsRow_setCell_below hOW (by exact lg1) _
                  have hM5 : W1.heap.size = wr.heap.size := by rw [← hW1]; simp
                  obtain ⟨c0, c1', _, _⟩ := blk2 hM0
                  have s3 := blk_free hM2 q
                  obtain ⟨old2, s2, _⟩ := blk_has hM2 (k := q) (by rw [boolV_len, tab_len]; exact hqz)
                  obtain ⟨W2, hW2⟩ : ∃ W, W1.setCell ⟨g2, q, none⟩ (.bool true) = W := ⟨_, rfl⟩
                  have HN0 := Lib.hid (show Blk W2 gf 36 (0, 0) #[.slice (some ⟨g1, 0, none⟩) s' s', .slice (some ⟨g2, 0, none⟩) z' z'] by rw [← hW2]; exact hM0.far (by exact n2f.symm) _)
                  have HN1 := Lib.hid (show Blk W2 g1 5 (0, 0) (octV (tab s' (wrB bs off b (j + 1)))).toArray by rw [← hW2]; exact hM1.far (by exact n12) _)
                  have HN2 := Lib.hid (show Blk W2 g2 4 (0, 0) (boolV (tab z' (wrT tl off (j + 1)))).toArray by
                    rw [← hW2, ← wrT_step, hp, hq, boolV_set]
                    exact hM2.set_ q _)
                  have HN3 := Lib.hid (show Below wx.heap.size wx W2 by rw [← hW2]; exact hM3.setCell l2 _)
                  have hO2 : W2.ownsRow wl.heap.size 3 1 (.slice Av bl cv) bl (intsV (blocksW off j)) := by
                    rw [← hW2]
                    exact ownsRow_setCell_below hM4 (by exact lg2) _
                  have hs2 : wl.heap.size ≤ W2.heap.size := by rw [← hW2]; simp; omega
                  have HOW2 := Lib.hid hO2
                  have HBL := Lib.hid hbl
                  have hRv2 := Rd.of_own hO2
                  have HPJ := Lib.hid hp
                  have HQJ := Lib.hid hq
                  subst hA
                  clear hBf hB1 hB2 hx hxn hM0 hM1 hM2 hM3 hM4 hp hq hOW hRv hO2 hbl
                  have hcase : bl = 0 ∨ ∃ (m2 gv ov q2 : Nat), bl = m2 + 1 ∧ Av = some ⟨gv, ov, none⟩ ∧ W2.cell? ⟨gv, ov + m2, none⟩ = some (.int .i64 (q2 : Int)) ∧ (p - 1) / 128 = q2 ∧ 0 < j := by
                    by_cases h0 : bl = 0
                    · exact .inl h0
                    · have hj0 : 0 < j := by omega
                      obtain ⟨m2, e1, e2⟩ := blocksW_last off j hj0
                      rw [HBL.out] at e1
                      rw [HPJ.out] at e2
                      obtain ⟨gv, ov, hAv, _, hcv⟩ := hRv2.2 (by omega)
                      exact .inr ⟨m2, gv, ov, _, e1, hAv, hcv m2 _ (intsV_get _ _ _ e2), rfl, hj0⟩
                  clear hRv2
                  have hbsl : ∀ (W : World) (x : Int), (Instr.buildSlice 28 1 #[(0, .int .i64 x)]).run Try.prog W = .ok (.slice (some ⟨W.heap.size, 0, none⟩) 1 1) (W.alloc (.cells #[.int .i64 x] 3)) := fun W x => by kernel_rfl
                  rcases hcase with h0 | ⟨m2, gv, ov, q2, h1, rfl, hcv, hq2, hj0⟩
                  · subst h0
                    have HNW := Lib.hid (show blocksW off (j + 1) = blocksW off j ++ [(q : Int)] by
                      rw [blocksW_new off j (by
                        by_cases h : j = 0
                        · exact .inl h
                        · obtain ⟨m2, e1, _⟩ := blocksW_last off j (by omega)
                          rw [HBL.out] at e1
                          omega), HPJ.out, HQJ.out])
                    go_wp2_with fail
                    go_still_tail 10, (by kernel_rfl)
                    change wpList _ _ _ _ _ wr.drew
                    go_wp2_with (at_builtin; refine wpList_append_own _ rfl (.tmp 108) (.tmp 110) 28 rfl wl.heap.size 3 i3 _ 1 8 Try.underlying28 li lz0 lz1 lz2 rfl (by decide) (.slice Av 0 cv) 0 _ rfl (HOW2.out.alloc _) ⟨W2.heap.size, 0, none⟩ 1 1 [.int .i64 (q : Int)] rfl rfl (fun j u hj => new_cells W2 _ _ _ rfl j u hj) (one_cell rfl) (by unfold maxLen; omega) (by omega) (by simp; omega) ?_)
                    intro v6 w6 hown6 hgrow6 _
                    have hr6 : Below wl.heap.size W2 w6 := ((Below.refl _ _).alloc hs2 _).grown hgrow6 (by simp; omega) (fun k' hk' => (HOW2.out.lt k' hk').1)
                    have HO6 : Hid (w6.ownsRow wl.heap.size 3 1 v6 (blocksW off (j + 1)).length (intsV (blocksW off (j + 1)))) := Lib.hid (by rw [HNW.out, List.length_append, HBL.out, intsV_snoc]; exact hown6)
                    clear hown6 hgrow6
                    go_wp2
                    go_roundw
                    case rel => exact ⟨j + 1, by omega, by go_num, HN0.out.below hr6 lgf, HN1.out.below hr6 lg1, HN2.out.below hr6 lg2, HO6, HN3.out.trans (hr6.mono lwl), Nat.le_trans hs2 hr6.size⟩
                    case measure => simp [intOf]; omega
                  · subst h1
                    have l1' : ((m2 + 1 : Nat) : Int) - 1 = (m2 : Int) := by omega
                    have l2' : (((m2 + 1 : Nat) : Int) == 0) = false := by rw [beq_eq_false_iff_ne]; omega
                    have l3 : (0 : Int) ≤ (m2 : Int) := Int.natCast_nonneg _
                    have l4 : (m2 : Int) < ((m2 + 1 : Nat) : Int) := by omega
                    by_cases hqq : q2 = q
                    · have hne : ((q2 : Int) != (q : Int)) = false := by rw [hqq]; simp
                      have hmod : (off + j) % 128 ≠ 0 := by have := HPJ.out; have := HQJ.out; omega
                      have HO6 : Hid (W2.ownsRow wl.heap.size 3 1 (.slice (some ⟨gv, ov, none⟩) (m2 + 1) cv) (blocksW off (j + 1)).length (intsV (blocksW off (j + 1)))) := Lib.hid (by rw [blocksW_same off j hj0 hmod, HBL.out]; exact HOW2.out)
                      clear hq2 hqq hmod
                      go_wp2_with fail
                      go_still_tail 10, (by kernel_rfl)
                      change wpList _ _ _ _ _ wr.drew
                      go_wp2
                      go_roundw
                      case rel => exact ⟨j + 1, by omega, by go_num, HN0.out, HN1.out, HN2.out, HO6, HN3.out, hs2⟩
                      case measure => simp [intOf]; omega
                    · have hne : ((q2 : Int) != (q : Int)) = true := by rw [bne_iff_ne]; omega
                      have HNW := Lib.hid (show blocksW off (j + 1) = blocksW off j ++ [(q : Int)] by
                        rw [blocksW_new off j (.inr (by have := HPJ.out; have := HQJ.out; omega)), HPJ.out, HQJ.out])
                      clear hq2 hqq
                      go_wp2_with fail
                      go_still_tail 10, (by kernel_rfl)
                      change wpList _ _ _ _ _ wr.drew
                      go_wp2_with (at_builtin; refine wpList_append_own _ rfl (.tmp 108) (.tmp 110) 28 rfl wl.heap.size 3 i3 _ 1 8 Try.underlying28 li lz0 lz1 lz2 rfl (by decide) (.slice (some ⟨gv, ov, none⟩) (m2 + 1) cv) (m2 + 1) _ rfl (HOW2.out.alloc _) ⟨W2.heap.size, 0, none⟩ 1 1 [.int .i64 (q : Int)] rfl rfl (fun j u hj => new_cells W2 _ _ _ rfl j u hj) (one_cell rfl) (by unfold maxLen; omega) (by omega) (by simp; omega) ?_)
                      intro v6 w6 hown6 hgrow6 _
                      have hr6 : Below wl.heap.size W2 w6 := ((Below.refl _ _).alloc hs2 _).grown hgrow6 (by simp; omega) (fun k' hk' => (HOW2.out.lt k' hk').1)
                      have HO6 : Hid (w6.ownsRow wl.heap.size 3 1 v6 (blocksW off (j + 1)).length (intsV (blocksW off (j + 1)))) := Lib.hid (by rw [HNW.out, List.length_append, HBL.out, intsV_snoc]; exact hown6)
                      clear hown6 hgrow6
                      go_wp2
                      go_roundw
                      case rel => exact ⟨j + 1, by omega, by go_num, HN0.out.below hr6 lgf, HN1.out.below hr6 lg1, HN2.out.below hr6 lg2, HO6, HN3.out.trans (hr6.mono lwl), Nat.le_trans hs2 hr6.size⟩
                      case measure => simp [intOf]; omega
                · obtain rfl : j = lb := by omega
                  have hR := HX1.out.below hbr HX1.out.lt
                  have hlr : w.heap.size + 1 < wx.heap.size := by omega
                  obtain ⟨e0, e1, _, _⟩ := blk2 hR
                  have hOW := HOW.out
                  obtain ⟨Av, cv, hv, hbc, hcm, hRv⟩ := own_form hOW
                  subst hv
                  clear HOW hRv
                  obtain ⟨wv, hwv⟩ : ∃ wv, (wr.setCell ⟨w.heap.size + 1, 0, none⟩ (.slice (some ⟨g1, 0, none⟩) s' s')).setCell ⟨w.heap.size + 1, 1, none⟩ (.slice (some ⟨g2, 0, none⟩) z' z') = wv := ⟨_, rfl⟩
                  have hRw : Blk wv (w.heap.size + 1) 36 (0, 0) #[.slice (some ⟨g1, 0, none⟩) s' s', .slice (some ⟨g2, 0, none⟩) z' z'] := by
                    rw [← hwv]; exact (hR.set_ 0 (.slice (some ⟨g1, 0, none⟩) s' s')).set_ 1 (.slice (some ⟨g2, 0, none⟩) z' z')
                  have k1 : Blk wv g1 5 (0, 0) (octV (tab s' (wrB bs off b j))).toArray := by
                    rw [← hwv]; exact (hB1.far (by show g1 ≠ w.heap.size + 1; omega) _).far (by show g1 ≠ w.heap.size + 1; omega) _
                  have k2 : Blk wv g2 4 (0, 0) (boolV (tab z' (wrT tl off j))).toArray := by
                    rw [← hwv]; exact (hB2.far (by show g2 ≠ w.heap.size + 1; omega) _).far (by show g2 ≠ w.heap.size + 1; omega) _
                  have k3 : wv.ownsRow w.heap.size 3 1 (.slice Av (blocksW off j).length cv) (blocksW off j).length (intsV (blocksW off j)) := by
                    rw [← hwv]
                    exact own_base (ownsRow_setCell_below (ownsRow_setCell_below hOW (by show w.heap.size + 1 < _; omega) _) (by show w.heap.size + 1 < _; omega) _) (by omega)
                  have hbv : Below w.heap.size w wv := by
                    rw [← hwv]; exact (hbw.setCell (by show w.heap.size ≤ w.heap.size + 1; omega) _).setCell (by show w.heap.size ≤ w.heap.size + 1; omega) _
                  obtain ⟨r0, r1, _, _⟩ := blk2 hRw
                  have HK1 := Lib.hid (k1.rd (n := s') (by rw [octV_len, tab_len]) k1.lt)
                  have HK2 := Lib.hid (k2.rd (n := z') (by rw [boolV_len, tab_len]) k2.lt)
                  have HK3 := Lib.hid k3
                  obtain ⟨bl, hbl⟩ : ∃ bl, (blocksW off j).length = bl := ⟨_, rfl⟩
                  rw [hbl] at HK3 ⊢
                  have HBL := Lib.hid hbl
                  clear k1 k2 k3 hRw hB1 hB2 hR hBf hOW hbl
                  subst hwv
                  go_wp2
                  exact bodyPost_ret (v := .tuple #[.agg #[.slice (some ⟨g1, 0, none⟩) s' s', .slice (some ⟨g2, 0, none⟩) z' z'], .slice Av bl cv]) (by simp [results, Try.results16, go_sem, r0, r1]) rfl ⟨⟨g1, g2, _, rfl, HK1.out, HK2.out, by rw [HBL.out]; exact HK3.out⟩, hbv⟩
end Go.Proofs.Ytpofkkoiicdpbaa
