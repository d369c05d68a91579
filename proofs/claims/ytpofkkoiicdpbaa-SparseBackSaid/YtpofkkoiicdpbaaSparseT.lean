/-
  Walk: the law SparseBack.
-/
import Derived.Test.YtpofkkoiicdpbaaSparseQ
import Derived.Test.YtpofkkoiicdpbaaSparseS
namespace Go.Proofs.Ytpofkkoiicdpbaa
open Go.RowKit
set_option linter.unusedVariables false

set_option maxHeartbeats 16000000 in
set_option maxRecDepth 100000 in
theorem back_law (s : Int) (A Ab : Option Addr) (n c nb cb off size : Nat) (L : List Pc) (b : List UInt8) (w : World) (h : IsP w w.heap.size A n c L) (hs : s ≤ 9223372036854775807)
    (hb : RdB w w.heap.size AnyB (.slice Ab nb cb) b) (ho : off ≤ 65535) (hg : size ≤ 65535) :
    Calls Try.prog 5 #[.agg #[.int .i64 s, .slice A n c, .int .u16 off, .slice Ab nb cb, .int .u16 size]] w fun e w' => e = .returned (.bool true) ∧ Below w.heap.size w w' := by
  obtain ⟨wx, hwx⟩ : ∃ wx, w.alloc (.cells #[.int .i64 s, .slice A n c, .int .u16 off, .slice Ab nb cb, .int .u16 size] 48) = wx := ⟨_, rfl⟩
  have hbx : Below w.heap.size w wx := by rw [← hwx]; exact (Below.refl _ _).alloc (Nat.le_refl _) _
  have hsx : w.heap.size < wx.heap.size := by rw [← hwx]; simp
  have hne0 : w.heap.size ≠ wx.heap.size := Nat.ne_of_lt hsx
  have hBx : Blk wx w.heap.size 48 (0, 0) #[.int .i64 s, .slice A n c, .int .u16 off, .slice Ab nb cb, .int .u16 size] := by rw [← hwx]; exact Blk.new _ _ _ _
  have k0 : wx.cell? ⟨w.heap.size, 0, none⟩ = some (.int .i64 s) := by rw [hBx.cell]; rfl
  have k1 : wx.cell? ⟨w.heap.size, 1, none⟩ = some (.slice A n c) := by rw [hBx.cell]; rfl
  have k2 : wx.cell? ⟨w.heap.size, 2, none⟩ = some (.int .u16 off) := by rw [hBx.cell]; rfl
  have k3 : wx.cell? ⟨w.heap.size, 3, none⟩ = some (.slice Ab nb cb) := by rw [hBx.cell]; rfl
  have k4 : wx.cell? ⟨w.heap.size, 4, none⟩ = some (.int .u16 size) := by rw [hBx.cell]; rfl
  obtain ⟨A2', c2', e1, hnb, hcb, hnilb, hrb⟩ := hb.form
  injection e1 with e1 e2 e3
  subst e1 e2 e3
  obtain ⟨s1, hs1⟩ : ∃ s1, fewZ s = s1 := ⟨_, rfl⟩
  obtain ⟨L1, hL1⟩ : ∃ L1, fewP L = L1 := ⟨_, rfl⟩
  have hF := Few_q s A n c L wx.drew ((h.later hbx).later (below_drew (Below.refl _ _))) hs
  rw [hs1, hL1] at hF
  have hbg : Below wx.heap.size wx (wx.alloc (.cells #[.int .i64 0, .slice none 0 0] 24)).drew := below_drew ((Below.refl _ _).alloc (Nat.le_refl _) _)
  have hG := Few_q s A n c L (wx.alloc (.cells #[.int .i64 0, .slice none 0 0] 24)).drew ((h.later hbx).later hbg) hs
  rw [hs1, hL1] at hG
  have hBg : Blk (wx.alloc (.cells #[.int .i64 0, .slice none 0 0] 24)).drew wx.heap.size 24 (0, 0) #[.int .i64 0, .slice none 0 0] := Blk.new wx _ _ _
  have HG := Lib.hid hG
  have HBG := Lib.hid hBg
  have hL20 : L1.length ≤ 20 := by rw [← hL1]; exact few_n L
  have hs1b : s1 ≤ 9223372036854775807 := by rw [← hs1]; unfold fewZ; split <;> omega
  obtain ⟨lb, hlb⟩ : ∃ lb, min b.length 700 = lb := ⟨_, rfl⟩
  have hOb : ∀ W, Calls Try.prog 9 #[.slice Ab b.length cb] W fun e w' => e = .returned (.slice Ab lb cb) ∧ W = w' := fun W => by have := octets_any Ab b.length cb W hnb hcb; rw [hlb] at this; exact this
  obtain ⟨b1, hb1⟩ : ∃ b1, b.take lb = b1 := ⟨_, rfl⟩
  have hrb1 : Rd w w.heap.size 1 Ab lb (octV b1) := by
    have := rd_takeV hrb (show lb ≤ b.length by omega)
    rw [Nat.mul_one, ← octV_take, hb1] at this; exact this
  have hlb1 : b1.length = lb := by rw [← hb1, List.length_take]; omega
  have hlb7 : lb ≤ 700 := by omega
  have hlbc : lb ≤ cb := by omega
  obtain ⟨n2, hn2⟩ : ∃ n2, b.length = n2 := ⟨_, rfl⟩
  rw [hn2] at hOb k3
  rw [hn2] at hwx ⊢
  have HWX := Lib.hid hwx
  have HF := Lib.hid hF
  have HOB := Lib.hid hOb
  have HRB := Lib.hid hrb1
  have HLB := Lib.hid hlb1
  have HZ := Lib.hid (show okF s1 L1 = true → ∃ z : Nat, s1 = z ∧ z ≤ 20000 from fun h => by rw [← hs1] at h ⊢; exact few_small h)
  clear hwx hF hG hBg hOb hrb1 hlb1 hlb hb1 hrb hb hs1 hL1 h hn2 hnilb hnb hBx
  go_enter Try.func5, Try.ntmps5
  go_upto_region 1 with fail
  go_cut [3, 4, 5, 6] from 29 to 38 (fun s3 s4 s5 s6 wc => ∃ (A1 : Option Addr) (m1 c1 g : Nat), s3 = .pointer (some ⟨g, 0, none⟩) ∧ s4 = .int .u16 off ∧ s5 = .slice Ab lb cb ∧ s6 = .int .u16 size ∧ Blk wc g 24 (0, 0) #[.int .i64 s1, .slice A1 m1 c1] ∧ w.heap.size < g ∧ IsP wc wc.heap.size A1 m1 c1 L1 ∧ Below w.heap.size w wc)
  case first =>
    rw [HWX.out]
    go_region_held_law (fun w' => w'.cell? ⟨w.heap.size, 0, none⟩ = some (.int .i64 s) ∧ w'.cell? ⟨w.heap.size, 1, none⟩ = some (.slice A n c) ∧ w'.cell? ⟨w.heap.size, 2, none⟩ = some (.int .u16 off) ∧ w'.cell? ⟨w.heap.size, 3, none⟩ = some (.slice Ab n2 cb) ∧ w'.cell? ⟨w.heap.size, 4, none⟩ = some (.int .u16 size))
      (first
        | go_keep
        | exact ⟨y0, y1, y2, y3, y4⟩
        | exact ⟨by rw [cell_far hne0, cell_far hne0]; exact y0, by rw [cell_far hne0, cell_far hne0]; exact y1, by rw [cell_far hne0, cell_far hne0]; exact y2, by rw [cell_far hne0, cell_far hne0]; exact y3, by rw [cell_far hne0, cell_far hne0]; exact y4⟩
        | exact ⟨(old_cell w1 _ _ _ hl1).trans y0, (old_cell w1 _ _ _ hl1).trans y1, (old_cell w1 _ _ _ hl1).trans y2, (old_cell w1 _ _ _ hl1).trans y3, (old_cell w1 _ _ _ hl1).trans y4⟩)
      (first
        | (go_at_call 8; (with_reducible refine HF.out.mono ?_); rintro e w1 ⟨⟨A1, m1, c1, rfl, hI1⟩, h1⟩; have hB1 : Below wx.heap.size wx w1 := (below_drew (Below.refl wx.heap.size wx)).trans h1; have hl1 : w.heap.size < w1.heap.size := Nat.lt_of_lt_of_le hsx hB1.size; have y0 := (hB1.cell (p := ⟨w.heap.size, 0, none⟩) hsx).trans k0; have y1 := (hB1.cell (p := ⟨w.heap.size, 1, none⟩) hsx).trans k1; have y2 := (hB1.cell (p := ⟨w.heap.size, 2, none⟩) hsx).trans k2; have y3 := (hB1.cell (p := ⟨w.heap.size, 3, none⟩) hsx).trans k3; have y4 := (hB1.cell (p := ⟨w.heap.size, 4, none⟩) hsx).trans k4)
        | (go_at_call 8; (with_reducible refine HG.out.mono ?_); rintro e w1 ⟨⟨A1, m1, c1, rfl, hI1⟩, h1⟩; have hB1 : Below wx.heap.size wx w1 := hbg.trans (h1.mono hbg.size); have hl1 : w.heap.size < w1.heap.size := Nat.lt_of_lt_of_le hsx hB1.size; have y0 := (hB1.cell (p := ⟨w.heap.size, 0, none⟩) hsx).trans k0; have y1 := (hB1.cell (p := ⟨w.heap.size, 1, none⟩) hsx).trans k1; have y2 := (hB1.cell (p := ⟨w.heap.size, 2, none⟩) hsx).trans k2; have y3 := (hB1.cell (p := ⟨w.heap.size, 3, none⟩) hsx).trans k3; have y4 := (hB1.cell (p := ⟨w.heap.size, 4, none⟩) hsx).trans k4; have hBB := HBG.out.below h1 HBG.out.lt; obtain ⟨v0, v1, z0, z1⟩ := blk2 hBB)
        | (go_at_call_of 9 (Value.slice Ab n2 cb); refine (HOB.out _).mono ?_; rintro e w2 ⟨rfl, rfl⟩))
    all_goals
      go_wp2_with fail
      go_meet
      first
        | exact ⟨A1, m1, c1, w1.heap.size, rfl, rfl, rfl, rfl, Blk.new w1 _ _ _, hl1, (hI1.free.later ((Below.refl _ _).alloc (Nat.le_refl _) _)), (hbx.trans (hB1.mono hbx.size)).alloc (Nat.le_of_lt hl1) _⟩
        | exact ⟨A1, m1, c1, wx.heap.size, rfl, rfl, rfl, rfl, (hBB.set_ 0 (.int .i64 s1)).set_ 1 (.slice A1 m1 c1), hsx, ((hI1.keep fun p' _ hq' => by
            have hne : p'.block ≠ wx.heap.size := by have h2 : wx.heap.size + 1 + 2 ≤ p'.block := by simpa using hq'
                                                     omega
            rw [cell_far (by show p'.block ≠ wx.heap.size; exact hne), cell_far (by show p'.block ≠ wx.heap.size; exact hne)]).more (by simp)).free, ((hbx.trans (hB1.mono hbx.size)).setCell (Nat.le_of_lt hsx) _).setCell (Nat.le_of_lt hsx) _⟩
  case rest =>
    obtain ⟨A1, m1, c1, g, rfl, rfl, rfl, rfl, hBg, hlg, hI, hbc⟩ := hcut
    clear HF HG HBG HOB hbg hbx k0 k1 k2 k3 k4 HWX hsx hne0
    obtain ⟨p, hp⟩ : ∃ p, off % 3000 = p := ⟨_, rfl⟩
    have hpi : (off : Int) % 3000 = (p : Int) := by omega
    obtain ⟨o, ho2⟩ : ∃ o, p + lb = o := ⟨_, rfl⟩
    have hoi : (p : Int) + lb = (o : Int) := by omega
    obtain ⟨d0, d1, _, _⟩ := blk2 hBg
    have hm1 : m1 ≤ 20 := by rw [← hI.count]; exact hL20
    have hlg2 := hBg.lt
    have HI := Lib.hid hI
    have HBG := Lib.hid hBg
    have hRB : ∀ W, Below w.heap.size w W → Rd W W.heap.size 1 Ab lb (octV b1) := fun W hW => (HRB.out.below hW).more hW.size
    have HRB2 := Lib.hid hRB
    obtain ⟨v, hv⟩ : ∃ v, okF s1 L1 = v := ⟨_, rfl⟩
    have HV := Lib.hid hv
    clear hI hBg hv HRB hRB
    cases v with
    | false =>
      have hR1 := Read_bad s1 0 p A1 m1 c1 L1 wc HI.out hs1b (by omega) (.inl HV.out)
      have HR1 := Lib.hid hR1
      clear hR1
      go_wp2_with fail
      rw [hpi]
      refine HR1.out.mono ?_
      rintro e w1 ⟨rfl, h1⟩
      have hR2 := Read_bad s1 o 20000 A1 m1 c1 L1 w1 (HI.out.later h1) hs1b (by omega) (.inl HV.out)
      have HR2 := Lib.hid hR2
      clear hR2 d0 d1
      obtain ⟨d0, d1, _, _⟩ := blk2 (HBG.out.below h1 hlg2)
      have hl1 := Nat.lt_of_lt_of_le hlg2 h1.size
      go_wp2_with fail
      refine HR2.out.mono ?_
      rintro e w2 ⟨rfl, h2⟩
      have h02 := h1.trans (h2.mono h1.size)
      have hR3 := Write_bad s1 p 1 A1 Ab m1 c1 lb cb L1 w2 (HI.out.later h02) hs1b (by omega) (by omega) (.inl ⟨HV.out, rfl⟩)
      have HR3 := Lib.hid hR3
      clear hR3 d0 d1
      obtain ⟨d0, d1, _, _⟩ := blk2 (HBG.out.below h02 hlg2)
      go_wp2_with fail
      refine HR3.out.mono ?_
      rintro e w3 ⟨rfl, h3⟩
      have h03 := h02.trans (h3.mono h02.size)
      obtain ⟨wa, hwa⟩ : ∃ wa, w3.alloc (.cells #[.int .i64 0, .slice none 0 0] 24) = wa := ⟨_, rfl⟩
      have hba : Below w3.heap.size w3 wa := by rw [← hwa]; exact (Below.refl _ _).alloc (Nat.le_refl _) _
      have h0a := h03.trans (hba.mono h03.size)
      have hM := May_any s1 A1 m1 c1 L1 wa (HI.out.later h0a) hs1b (by omega)
      rw [HV.out] at hM
      have HM := Lib.hid hM
      have HWA := Lib.hid hwa
      clear hM hwa d0 d1
      obtain ⟨d0, d1, _, _⟩ := blk2 (HBG.out.below h0a hlg2)
      obtain ⟨e0, e1, _, _⟩ := blk2 (HBG.out.below h03 hlg2)
      have hg3 := Nat.lt_of_lt_of_le hlg2 h03.size
      clear d0 d1
      unfold refusedV
      go_wp2_with fail
      rw [HWA.out]
      refine HM.out.mono ?_
      rintro e w4 ⟨rfl, h4⟩
      have h04 := h0a.trans (h4.mono h0a.size)
      go_wp2_with fail
      refine (awake_any _).mono ?_
      rintro e w5 ⟨rfl, h5⟩
      have h05 := h04.trans (h5.mono h04.size)
      go_wp2_with fail
      go_ret
      exact ⟨rfl, hbc.trans (h05.mono hbc.size)⟩
    | true =>
      obtain ⟨z, hz, hz2⟩ : ∃ z : Nat, s1 = z ∧ z ≤ 20000 := HZ.out HV.out
      subst hz
      obtain ⟨s2, hs2⟩ : ∃ s2, sizeW (z : Int) p lb = s2 := ⟨_, rfl⟩
      obtain ⟨RA, hRA⟩ : ∃ RA, readF (z : Int) L1 0 p = RA := ⟨_, rfl⟩
      obtain ⟨RB, hRB⟩ : ∃ RB, readF (z : Int) L1 (o : Int) 20000 = RB := ⟨_, rfl⟩
      have hlRA : RA.length = min p z := by rw [← hRA]; have := readF_len z 0 p L1; rw [Nat.sub_zero] at this; exact this
      have hlRB : RB.length = min 20000 (z - o) := by rw [← hRB]; exact readF_len z o 20000 L1
      have hR1 := Read_ok (z : Int) 0 p A1 m1 c1 L1 wc HI.out (by omega) (by omega) (by omega) HV.out (by omega) (by omega)
      rw [hRA] at hR1
      have HR1 := Lib.hid hR1
      have HRA := Lib.hid hRA
      have HRB := Lib.hid hRB
      have HLA := Lib.hid hlRA
      have HLB2 := Lib.hid hlRB
      have HS2 := Lib.hid hs2
      clear hR1 hRA hRB hlRA hlRB hs2
      go_wp2_with fail
      rw [hpi]
      refine HR1.out.mono ?_
      rintro e w1 ⟨⟨v8, rfl, hv8⟩, h1⟩
      have hR2 := Read_ok (z : Int) o 20000 A1 m1 c1 L1 w1 (HI.out.later h1) (by omega) (by omega) (by omega) HV.out (by omega) (by omega)
      rw [HRB.out] at hR2
      obtain ⟨A8, c8, rfl, hn8, hm8, hi8, r8⟩ := hv8.form
      have HR2 := Lib.hid hR2
      have R8 := Lib.hid r8
      clear hR2 r8 hv8 d0 d1
      obtain ⟨d0, d1, _, _⟩ := blk2 (HBG.out.below h1 hlg2)
      have hl1 := Nat.lt_of_lt_of_le hlg2 h1.size
      go_wp2_with fail
      refine HR2.out.mono ?_
      rintro e w2 ⟨⟨v10, rfl, hv10⟩, h2⟩
      obtain ⟨A10, c10, rfl, hn10, hm10, hi10, r10⟩ := hv10.form
      have h02 := h1.trans (h2.mono h1.size)
      have hb2 := hbc.trans (h02.mono hbc.size)
      have hW := Write_use (fun _ => True) (z : Int) s2 p A1 Ab m1 c1 lb cb L1 b1 w2 (fun _ _ => trivial) ((HI.out.later h02).toQ fun _ _ => trivial) (HRB2.out _ hb2) hlbc hcb HV.out (by omega) HS2.out
      have HW := Lib.hid hW
      have R10 := Lib.hid r10
      clear hW r10 hv10 d0 d1
      obtain ⟨d0, d1, _, _⟩ := blk2 (HBG.out.below h02 hlg2)
      go_wp2_with fail
      refine HW.out.mono ?_
      rintro e w3 ⟨⟨A2, m2, c2, v2, L2, rfl, hI2, hinv2, hok2, hm2⟩, h3⟩
      have h13 := h2.trans (h3.mono h2.size)
      have hb3 := hb2.trans (h3.mono hb2.size)
      obtain ⟨wa, hwa⟩ : ∃ wa, w3.alloc (.cells #[.int .i64 s2, .slice A2 m2 c2] 24) = wa := ⟨_, rfl⟩
      have hba : Below w3.heap.size w3 wa := by rw [← hwa]; exact (Below.refl _ _).alloc (Nat.le_refl _) _
      have hXa : Blk wa w3.heap.size 24 (0, 0) #[.int .i64 s2, .slice A2 m2 c2] := by rw [← hwa]; exact Blk.new _ _ _ _
      have hIa := hI2.free.later hba
      have hsz2 := ((okF_iff s2 L2).1 hok2).2.1
      obtain ⟨ALL, hALL⟩ : ∃ ALL, readF s2 L2 0 30000 = ALL := ⟨_, rfl⟩
      have hR3 := Read_ok s2 0 30000 A2 m2 c2 L2 wa hIa (by omega) (by omega) (by omega) hok2 (by omega) (by omega)
      rw [hALL] at hR3
      have hbp := back_plain z p lb L1 L2 b1 HV.out hz2 HLB.out hlb7 (by omega) hinv2
      rw [HS2.out, hALL, HRA.out, ho2, HRB.out] at hbp
      have hs2n : ∃ y : Nat, s2 = y ∧ y ≤ 30000 := by
        have h0 := ((okF_iff s2 L2).1 hok2).1
        refine ⟨s2.toNat, by omega, ?_⟩
        have := HS2.out
        unfold sizeW at this
        split at this <;> omega
      obtain ⟨y, hy, hy2⟩ := hs2n
      have hlALL : ALL.length = y := by rw [← hALL, hy]; have := readF_len y 0 30000 L2; rw [Nat.sub_zero, Nat.min_eq_right hy2] at this; exact this
      have HR3 := Lib.hid hR3
      have HALL := Lib.hid hALL
      have HLALL := Lib.hid hlALL
      have HBP := Lib.hid hbp
      have HY := Lib.hid hy
      have HIA := Lib.hid hIa
      have HXA := Lib.hid hXa
      have HK2 := Lib.hid hok2
      have hxl := hXa.lt
      obtain ⟨f0, f1, _, _⟩ := blk2 hXa
      clear hR3 hALL hlALL hbp hy hI2 hinv2 hok2 hIa hXa d0 d1
      go_wp2_with fail
      refine HR3.out.mono ?_
      rintro e w5 ⟨⟨v15, rfl, hv15⟩, h5⟩
      obtain ⟨A15, c15, rfl, hn15, hm15, hi15, r15⟩ := hv15.form
      have hM := May_any s2 A2 m2 c2 L2 w5 (HIA.out.later h5) (by omega) (by omega)
      rw [HK2.out] at hM
      have HM := Lib.hid hM
      have R15 := Lib.hid r15
      clear hM r15 hv15 f0 f1
      obtain ⟨f0, f1, _, _⟩ := blk2 (HXA.out.below h5 hxl)
      have hx5 := Nat.lt_of_lt_of_le hxl h5.size
      go_wp2_with fail
      refine HM.out.mono ?_
      rintro e w6 ⟨rfl, h6⟩
      have h36 : Below w3.heap.size w3 w6 := (hba.trans (h5.mono hba.size)).trans (h6.mono (by have := hba.size; have := h5.size; omega))
      have h56 := h6
      have h16 : Below w1.heap.size w1 w6 := h13.trans (h36.mono h13.size)
      have h26 : Below w2.heap.size w2 w6 := h3.trans (h36.mono h3.size)
      have hb6 := hb3.trans (h36.mono hb3.size)
      obtain ⟨SA, hSA⟩ : ∃ SA, st RA = SA := ⟨_, rfl⟩
      have hcv8 : (convert 25 9 (.slice A8 RA.length c8)).run Try.prog w6 = .ok (.string SA) w6 := by
        rw [← hSA]
        exact conv_bytes w6 25 9 5 Try.underlying25 Try.underlying5 Try.underlying9 (R8.out.below h16)
      have HSA := Lib.hid hSA
      clear hSA f0 f1
      go_upto_if 97 with fail
      obtain ⟨T1, hT1⟩ : ∃ T1, st (RA ++ List.replicate (padN lb p (min p z)) 0) = T1 := ⟨_, rfl⟩
      go_cut [17] (fun s17 wd => s17 = .string T1 ∧ wd = w6)
      case first =>
        by_cases h0 : lb = 0
        · have hT : T1 = SA := by
            rw [← hT1, ← HSA.out, show padN lb p (min p z) = 0 from by unfold padN; rw [if_pos h0], List.replicate_zero, List.append_nil]
          subst h0
          clear hT1
          go_wp2
          go_meet
          exact ⟨by rw [hT], rfl⟩
        · have hlb0 : 0 < lb := Nat.pos_of_ne_zero h0
          have HT1 := Lib.hid hT1
          have HPD := Lib.hid (show padN lb p (min p z) = p - min p z by unfold padN; rw [if_neg h0])
          clear hT1
          go_wp2
          go_loopw [17] (fun v wr => ∃ k : Nat, v = .string (st (RA ++ List.replicate k 0)) ∧ RA.length + k ≤ p ∧ wr = w6) (fun v _ => p - lenOfStr v)
          case atStart => exact ⟨0, by rw [List.replicate_zero, List.append_nil, HSA.out], by rw [HLA.out]; omega, rfl⟩
          case round =>
            obtain ⟨k, rfl, hk, rfl⟩ := hrel
            obtain ⟨S, hS⟩ : ∃ S, st (RA ++ List.replicate k 0) = S := ⟨_, rfl⟩
            have hSs : S.size = RA.length + k := by rw [← hS, st_size, List.length_append, List.length_replicate]
            by_cases hlt : RA.length + k < p
            · have hap : S ++ (⟨#[0]⟩ : ByteArray) = st (RA ++ List.replicate (k + 1) 0) := by
                rw [← hS, show (⟨#[0]⟩ : ByteArray) = st [0] from rfl, ← st_append, List.append_assoc, ← List.replicate_succ']
              have HAP := Lib.hid hap
              rw [hS]
              clear hap hS
              have hlt2 : S.size < p := by omega
              have h1s : (⟨#[0]⟩ : ByteArray).size = 1 := rfl
              go_wp2
              go_roundw
              case rel => exact ⟨k + 1, by rw [HAP.out], by omega, by first | rfl | trivial⟩
              case measure => simp [lenOfStr]; omega
            · have hge : p ≤ S.size := by omega
              have hkp : k = p - min p z := by have := HLA.out; omega
              have hT : S = T1 := by rw [← hS, ← HT1.out, HPD.out, hkp]
              rw [hS]
              have HTT := Lib.hid hT
              clear hS hT
              go_wp2
              go_meet
              exact ⟨by rw [HTT.out], rfl⟩
      case rest =>
      obtain ⟨rfl, hwd⟩ := hcut
      subst wc
      have hpd : padN lb p (min p z) ≤ p := by unfold padN; split <;> omega
      have hT1s : T1.size ≤ 6000 := by rw [← hT1, st_size, List.length_append, List.length_replicate, HLA.out]; omega
      obtain ⟨S5, hS5⟩ : ∃ S5, st b1 = S5 := ⟨_, rfl⟩
      have hS5s : S5.size ≤ 700 := by rw [← hS5, st_size, HLB.out]; exact hlb7
      obtain ⟨S10, hS10⟩ : ∃ S10, st RB = S10 := ⟨_, rfl⟩
      have hS10s : S10.size ≤ 20000 := by rw [← hS10, st_size, HLB2.out]; omega
      obtain ⟨SALL, hSALL⟩ : ∃ SALL, st ALL = SALL := ⟨_, rfl⟩
      have hSLs : SALL.size = y := by rw [← hSALL, st_size, HLALL.out]
      have hsum : T1 ++ (S5 ++ S10) = SALL := by rw [← hT1, ← hS5, ← hS10, ← hSALL, HBP.out, st_append, st_append, st_append, st_append, ByteArray.append_assoc]
      have hcv5 : (convert 25 9 (.slice Ab lb cb)).run Try.prog w6 = .ok (.string S5) w6 := by
        rw [← hS5]
        exact conv_bytes w6 25 9 5 Try.underlying25 Try.underlying5 Try.underlying9 (HRB2.out _ hb6)
      have hcv10 : (convert 25 9 (.slice A10 RB.length c10)).run Try.prog w6 = .ok (.string S10) w6 := by
        rw [← hS10]
        exact conv_bytes w6 25 9 5 Try.underlying25 Try.underlying5 Try.underlying9 (R10.out.below h26)
      have hcv15 : (convert 25 9 (.slice A15 ALL.length c15)).run Try.prog w6 = .ok (.string SALL) w6 := by
        rw [← hSALL]
        exact conv_bytes w6 25 9 5 Try.underlying25 Try.underlying5 Try.underlying9 (R15.out.below h56)
      have hse : (SALL.toList == SALL.toList) = true := beq_self_eq_true _
      obtain ⟨nn, hnn⟩ : ∃ nn, size % 4000 = nn := ⟨_, rfl⟩
      have hni : (size : Int) % 4000 = (nn : Int) := by omega
      have hnn4 : nn < 4000 := by omega
      have ha6 : Below wa.heap.size wa w6 := h5.trans (h6.mono h5.size)
      have hC1 := Cut_ok s2 nn A2 m2 c2 L2 w6 ((HIA.out.below ha6).more ha6.size) HK2.out (by omega)
      have HC1 := Lib.hid hC1
      have HSALL := Lib.hid hSALL
      obtain ⟨f0, f1, _, _⟩ := blk2 (HXA.out.below ha6 hxl)
      clear hC1 hSALL hT1 hS5 hS10
      go_wp2_with fail
      try rw [hni]
      refine HC1.out.mono ?_
      rintro e w7 ⟨hcp, h7⟩
      obtain ⟨A3, m3, c3, av, cv, L3, rfl, hI3, hst3, hcinv, hrd3⟩ := hcp
      have hok3 : okF (nn : Int) L3 = true := (okF_iff _ _).2 (hcinv.ok L2 L3 nn (by omega) (by omega) hst3)
      have HCI3 := Lib.hid hcinv
      obtain ⟨wy, hwy⟩ : ∃ wy, w7.alloc (.cells #[.int .i64 (nn : Int), .slice A3 m3 c3] 24) = wy := ⟨_, rfl⟩
      have hby : Below w7.heap.size w7 wy := by rw [← hwy]; exact (Below.refl _ _).alloc (Nat.le_refl _) _
      have hXy : Blk wy w7.heap.size 24 (0, 0) #[.int .i64 (nn : Int), .slice A3 m3 c3] := by rw [← hwy]; exact Blk.new _ _ _ _
      obtain ⟨q, hq⟩ : ∃ q, nn + 300 = q := ⟨_, rfl⟩
      have hqi : (nn : Int) + 300 = (q : Int) := by omega
      have hC2 := Cut_ok (nn : Int) q A3 m3 c3 L3 wy (hI3.later hby) hok3 (by omega)
      have HC2 := Lib.hid hC2
      have h6y := h7.trans (hby.mono h7.size)
      have hb7 := hb6.trans (h6y.mono hb6.size)
      clear f0 f1 hC2 hI3 hcinv hrd3 hst3 hok3 hse hcv15 hcv10 hcv5 hsum
      obtain ⟨f0, f1, _, _⟩ := blk2 hXy
      go_wp2_with fail
      refine HC2.out.mono ?_
      rintro e w8 ⟨hcp, h8⟩
      obtain ⟨A4, m4, c4, aw, cw, L4, rfl, hI4, hst4, hcinv, hrd4⟩ := hcp
      have hOK4 := hcinv.ok L3 L4 q (by omega) (by omega) hst4
      have hok4 : okF (q : Int) L4 = true := (okF_iff _ _).2 hOK4
      have hm4 : m4 ≤ 3621 := by rw [← hI4.count]; exact ok_len hOK4
      obtain ⟨wz, hwz⟩ : ∃ wz, w8.alloc (.cells #[.int .i64 (q : Int), .slice A4 m4 c4] 24) = wz := ⟨_, rfl⟩
      have hbz : Below w8.heap.size w8 wz := by rw [← hwz]; exact (Below.refl _ _).alloc (Nat.le_refl _) _
      have hXz : Blk wz w8.heap.size 24 (0, 0) #[.int .i64 (q : Int), .slice A4 m4 c4] := by rw [← hwz]; exact Blk.new _ _ _ _
      have hyz := h8.trans (hbz.mono h8.size)
      have hbZ := hb7.trans (hyz.mono hb7.size)
      have hR4 := Read_ok (q : Int) 0 30000 A4 m4 c4 L4 wz (hI4.later hbz) (by omega) (by omega) (by omega) hok4 (by omega) (by omega)
      have hY2 := HK2.out
      have hA2 := HALL.out
      rw [HY.out] at hY2 hA2
      have hcpl := cut_plain y nn L2 L3 L4 hy2 hnn4 hY2 HCI3.out (by rw [hq]; exact hcinv)
      rw [hq, hA2] at hcpl
      rw [hcpl] at hR4
      obtain ⟨GOT, hGOT⟩ : ∃ GOT, (tab q fun i => if i < nn then (ALL[i]?).getD 0 else 0) = GOT := ⟨_, rfl⟩
      have hlG : GOT.length = q := by rw [← hGOT, tab_len]
      rw [hGOT] at hR4
      have HR4 := Lib.hid hR4
      have HGOT := Lib.hid hGOT
      have HLG := Lib.hid hlG
      clear f0 f1
      obtain ⟨f0, f1, _, _⟩ := blk2 hXz
      clear hR4 hGOT hlG hcpl hY2 hA2 hI4 hst4 hok4 hOK4 hcinv hrd4 hXy hwy
      go_wp2_with fail
      refine HR4.out.mono ?_
      rintro e w9 ⟨⟨v25, rfl, hv25⟩, h9⟩
      obtain ⟨A25, c25, rfl, hn25, hm25, hi25, r25⟩ := hv25.form
      rw [HLG.out] at hn25 r25 ⊢
      have hb9 := hbZ.trans (h9.mono hbZ.size)
      have R25 := Lib.hid r25
      clear r25 hv25 f0 f1 hwz hXz
      go_wp2_with fail
      clear hba hby hbz hyz hpi hoi h1 h2 h3 h5 h6 h02 h13 h36 h56 h16 h26 ha6 h6y h7 h8 h9
      go_loopw [27, 28] (fun mv cv wr => ∃ k : Nat, mv = .int .i64 k ∧ k ≤ q ∧ wr = w9) (fun mv _ _ => q - (intOf mv).toNat)
      case atStart => exact ⟨0, rfl, Nat.zero_le _, rfl⟩
      case round =>
        obtain ⟨k, rfl, hk, hwr⟩ := hrel
        subst wr
        by_cases hlt : k < q
        · obtain ⟨gg, oo, u, rfl, hgg, hu, hcell⟩ := R25.out.at_ (k := k) (j := 0) hlt (by omega)
          rw [Nat.mul_one, Nat.add_zero] at hu hcell
          have hgk : GOT[k]? = some (if k < nn then (ALL[k]?).getD 0 else 0) := by rw [← HGOT.out]; exact tab_get _ _ _ hlt
          obtain ⟨cc, hcc⟩ : ∃ cc, (if k < nn then (ALL[k]?).getD 0 else 0) = cc := ⟨_, rfl⟩
          rw [hcc] at hgk
          have hu2 : u = .int .u8 cc.toNat := by
            unfold octV at hu
            rw [List.getElem?_map, hgk] at hu
            exact (Option.some.inj hu).symm
          subst hu2
          have i0 : (0 : Int) ≤ (k : Int) := Int.natCast_nonneg _
          have i1 : (k : Int) < (q : Int) := by omega
          have hcs : (k < nn ∧ k < y ∧ ALL[k]? = some cc) ∨ ((nn ≤ k ∨ y ≤ k) ∧ cc = 0) := by
            by_cases h1 : k < nn
            · rw [if_pos h1] at hcc
              by_cases h2 : k < y
              · have hg : k < ALL.length := by rw [HLALL.out]; exact h2
                rw [List.getElem?_eq_getElem hg] at hcc ⊢
                exact .inl ⟨h1, h2, by rw [← hcc]; rfl⟩
              · rw [List.getElem?_eq_none (by rw [HLALL.out]; omega)] at hcc
                exact .inr ⟨.inr (by omega), hcc.symm⟩
            · rw [if_neg h1] at hcc
              exact .inr ⟨.inl (by omega), hcc.symm⟩
          clear hgk hcc hu
          rcases hcs with ⟨h1, h2, h3⟩ | ⟨h1, rfl⟩
          · have hix : ∀ W, (Instr.index 9 (.string SALL) (.int .i64 (k : Int))).run Try.prog W = .ok (.int .u8 cc.toNat) W := fun W => by
              rw [← HSALL.out]; exact st_index Try.prog 9 Try.underlying9 ALL k cc h3 W
            obtain ⟨cn, hcn⟩ : ∃ cn, cc.toNat = cn := ⟨_, rfl⟩
            rw [hcn] at hix hcell
            have hk2 : (k : Int) < (nn : Int) := by omega
            have hk3 : (k : Int) < (y : Int) := by omega
            clear h3 hcn
            go_wp2
            go_roundw
            case rel => exact ⟨k + 1, by go_num, by omega, by first | rfl | trivial⟩
            case measure => simp [intOf]; omega
          · have hcell2 : w9.cell? ⟨gg, oo + k, none⟩ = some (.int .u8 0) := hcell
            clear hcell
            rcases h1 with h1 | h1
            · have hk2 : ¬ (k : Int) < (nn : Int) := by omega
              go_wp2
              go_roundw
              case rel => exact ⟨k + 1, by go_num, by omega, by first | rfl | trivial⟩
              case measure => simp [intOf]; omega
            · by_cases h2 : k < nn
              · have hk2 : (k : Int) < (nn : Int) := by omega
                have hk3 : ¬ (k : Int) < (y : Int) := by omega
                go_wp2
                go_roundw
                case rel => exact ⟨k + 1, by go_num, by omega, by first | rfl | trivial⟩
                case measure => simp [intOf]; omega
              · have hk2 : ¬ (k : Int) < (nn : Int) := by omega
                go_wp2
                go_roundw
                case rel => exact ⟨k + 1, by go_num, by omega, by first | rfl | trivial⟩
                case measure => simp [intOf]; omega
        · obtain rfl : k = q := by omega
          go_wp2_with fail
          refine (awake_any _).mono ?_
          rintro e w10 ⟨rfl, h10⟩
          go_wp2_with fail
          go_ret
          exact ⟨rfl, hb9.trans (h10.mono hb9.size)⟩
end Go.Proofs.Ytpofkkoiicdpbaa
