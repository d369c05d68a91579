/-
  Walk: the law SparseTwice.
-/
import Derived.Test.YtpofkkoiicdpbaaSparseN
import Derived.Test.YtpofkkoiicdpbaaSparseP
import Derived.Deep.DeepCutAuto
import Derived.Deep.RegionHeldLaw
namespace Go.Proofs.Ytpofkkoiicdpbaa
open Go.RowKit
set_option linter.unusedVariables false

/-- A write, with what the next one asks. -/
theorem Write_use (Q : Nat → Prop) (size s' : Int) (off : Nat) (A Ab : Option Addr) (n c lb cb : Nat) (L : List Pc) (b : List UInt8) (w : World) (hQ : ∀ b, w.heap.size ≤ b → Q b) (h : IsQ w w.heap.size Q A n c L) (hb : Rd w w.heap.size 1 Ab lb (octV b)) (hlb : lb ≤ cb) (hcb : cb ≤ maxLen) (hok : okF size L = true) (hs : off + lb ≤ 463488) (hs' : sizeW size off lb = s') :
    Calls Try.prog 10 #[.agg #[.int .i64 size, .slice A n c], .int .i64 off, .slice Ab lb cb] w fun e w' =>
      (∃ A' m c' vw L', e = .returned (.tuple #[.agg #[.int .i64 s', .slice A' m c'], vw, .int .i64 0]) ∧ IsQ w' w'.heap.size Q A' m c' L' ∧ WInv L off b L' ∧ okF s' L' = true ∧ m ≤ 3621) ∧ Below w.heap.size w w' := by
  have hbl : b.length = lb := by have := hb.1; rw [octV_len] at this; omega
  rw [← hs']
  refine (Write_q Q size off A Ab n c lb cb L b w hQ h hb hlb hcb hok hs).mono ?_
  rintro e w' ⟨⟨A', m, c', vw, L', h1, h2, h3, _⟩, h5⟩
  have h6 := h3.ok L L' size off b ((okF_iff size L).1 hok) (by omega)
  rw [hbl] at h6
  exact ⟨⟨A', m, c', vw, L', h1, h2, h3, (okF_iff _ _).2 h6, by rw [← h2.free.count]; exact ok_len h6⟩, h5⟩
theorem sl_h (A : Option Addr) (n c k : Nat) (hk : k ≤ c) (W : World) : (Instr.slice 25 (.slice A n c) none (some (.int .i64 (k : Int))) none).run Try.prog W = .ok (.slice A k c) W := by
  obtain ⟨i1, hi, hz0, hz1, hz2⟩ := info_parts Try.info5
  rw [run_slice_h W 25 A n c Try.underlying25 .i64 k (by omega) (by omega)]
  have he : Try.prog.elem 25 = 5 := by simp [Program.elem, Try.underlying25]
  rw [he, run_sizeOf (w := W) (P := Try.prog) (t := 5) hi]
  simp only [Result.andThen, sliced]
  cases A <;> simp [Addr.add]
theorem sl_l (A : Option Addr) (n c k : Nat) (hk : k ≤ n) (W : World) : (Instr.slice 25 (.slice A n c) (some (.int .i64 (k : Int))) none none).run Try.prog W = .ok (.slice (if c = k then A else A.map (·.add k)) (n - k) (c - k)) W := by
  obtain ⟨i1, hi, hz0, hz1, hz2⟩ := info_parts Try.info5
  rw [run_slice_l W 25 A n c Try.underlying25 .i64 k (by omega) (by omega)]
  have he : Try.prog.elem 25 = 5 := by simp [Program.elem, Try.underlying25]
  rw [he, run_sizeOf (w := W) (P := Try.prog) (t := 5) hi]
  have hc1 : Try.prog.cellsOf 5 = 1 := by simp [Program.cellsOf, hi, hz1]
  simp only [Result.andThen, sliced, hc1]
  cases A <;> simp [Addr.add]
theorem few_n (L : List Pc) : (fewP L).length ≤ 20 := by rw [fewP_len]; omega

set_option maxHeartbeats 16000000 in
set_option maxRecDepth 100000 in
theorem twice_law (s : Int) (A Aa Ab : Option Addr) (n c na ca nb cb off gap : Nat) (L : List Pc) (a b : List UInt8) (w : World) (h : IsP w w.heap.size A n c L) (hs : s ≤ 9223372036854775807)
    (ha : RdB w w.heap.size AnyB (.slice Aa na ca) a) (hb : RdB w w.heap.size AnyB (.slice Ab nb cb) b) (ho : off ≤ 65535) (hg : gap ≤ 65535) :
    Calls Try.prog 6 #[.agg #[.int .i64 s, .slice A n c, .int .u16 off, .int .u16 gap, .slice Aa na ca, .slice Ab nb cb]] w fun e w' => e = .returned (.bool true) ∧ Below w.heap.size w w' := by
  obtain ⟨wx, hwx⟩ : ∃ wx, w.alloc (.cells #[.int .i64 s, .slice A n c, .int .u16 off, .int .u16 gap, .slice Aa na ca, .slice Ab nb cb] 53) = wx := ⟨_, rfl⟩
  have hbx : Below w.heap.size w wx := by rw [← hwx]; exact (Below.refl _ _).alloc (Nat.le_refl _) _
  have hsx : w.heap.size < wx.heap.size := by rw [← hwx]; simp
  have hne0 : w.heap.size ≠ wx.heap.size := Nat.ne_of_lt hsx
  have hBx : Blk wx w.heap.size 53 (0, 0) #[.int .i64 s, .slice A n c, .int .u16 off, .int .u16 gap, .slice Aa na ca, .slice Ab nb cb] := by rw [← hwx]; exact Blk.new _ _ _ _
  have k0 : wx.cell? ⟨w.heap.size, 0, none⟩ = some (.int .i64 s) := by rw [hBx.cell]; rfl
  have k1 : wx.cell? ⟨w.heap.size, 1, none⟩ = some (.slice A n c) := by rw [hBx.cell]; rfl
  have k2 : wx.cell? ⟨w.heap.size, 2, none⟩ = some (.int .u16 off) := by rw [hBx.cell]; rfl
  have k3 : wx.cell? ⟨w.heap.size, 3, none⟩ = some (.int .u16 gap) := by rw [hBx.cell]; rfl
  have k4 : wx.cell? ⟨w.heap.size, 4, none⟩ = some (.slice Aa na ca) := by rw [hBx.cell]; rfl
  have k5 : wx.cell? ⟨w.heap.size, 5, none⟩ = some (.slice Ab nb cb) := by rw [hBx.cell]; rfl
  obtain ⟨A1', c1', e1, hna, hca, hnila, hra⟩ := ha.form
  injection e1 with e1 e2 e3
  subst e1 e2 e3
  obtain ⟨A2', c2', e1, hnb, hcb, hnilb, hrb⟩ := hb.form
  injection e1 with e1 e2 e3
  subst e1 e2 e3
  obtain ⟨s1, hs1⟩ : ∃ s1, fewZ s = s1 := ⟨_, rfl⟩
  obtain ⟨L1, hL1⟩ : ∃ L1, fewP L = L1 := ⟨_, rfl⟩
  have hF := Few_q s A n c L wx.drew ((h.later hbx).later (below_drew (Below.refl _ _))) hs
  rw [hs1, hL1] at hF
  have hbg : Below wx.heap.size wx (wx.alloc (.cells #[.int .i64 0, .slice none 0 0] 24)).drew := below_drew ((Below.refl _ _).alloc (Nat.le_refl _) _)
  have hG := Few_q s A n c L (wx.alloc (.cells #[.int .i64 0, .slice none 0 0] 24)).drew ((h.later hbx).later hbg) hs
  rw [hs1, hL1] at hG
  have hBg : Blk (wx.alloc (.cells #[.int .i64 0, .slice none 0 0] 24)).drew wx.heap.size 24 (0, 0) #[.int .i64 0, .slice none 0 0] := Blk.new wx _ _ _
  have HG := Lib.hid hG
  have HBG := Lib.hid hBg
  have hL20 : L1.length ≤ 20 := by rw [← hL1]; exact few_n L
  have hs1b : s1 ≤ 9223372036854775807 := by rw [← hs1]; unfold fewZ; split <;> omega
  obtain ⟨la, hla⟩ : ∃ la, min a.length 700 = la := ⟨_, rfl⟩
  obtain ⟨lb, hlb⟩ : ∃ lb, min b.length 700 = lb := ⟨_, rfl⟩
  have hOa : ∀ W, Calls Try.prog 9 #[.slice Aa a.length ca] W fun e w' => e = .returned (.slice Aa la ca) ∧ W = w' := fun W => by have := octets_any Aa a.length ca W hna hca; rw [hla] at this; exact this
  have hOb : ∀ W, Calls Try.prog 9 #[.slice Ab b.length cb] W fun e w' => e = .returned (.slice Ab lb cb) ∧ W = w' := fun W => by have := octets_any Ab b.length cb W hnb hcb; rw [hlb] at this; exact this
  obtain ⟨a1, ha1⟩ : ∃ a1, a.take la = a1 := ⟨_, rfl⟩
  obtain ⟨b1, hb1⟩ : ∃ b1, b.take lb = b1 := ⟨_, rfl⟩
  have hra1 : Rd w w.heap.size 1 Aa la (octV a1) := by
    have := rd_takeV hra (show la ≤ a.length by omega)
    rw [Nat.mul_one, ← octV_take, ha1] at this; exact this
  have hrb1 : Rd w w.heap.size 1 Ab lb (octV b1) := by
    have := rd_takeV hrb (show lb ≤ b.length by omega)
    rw [Nat.mul_one, ← octV_take, hb1] at this; exact this
  have hla1 : a1.length = la := by rw [← ha1, List.length_take]; omega
  have hlb1 : b1.length = lb := by rw [← hb1, List.length_take]; omega
  have hla7 : la ≤ 700 := by omega
  have hlb7 : lb ≤ 700 := by omega
  have hlac : la ≤ ca := by omega
  have hlbc : lb ≤ cb := by omega
  obtain ⟨n1, hn1⟩ : ∃ n1, a.length = n1 := ⟨_, rfl⟩
  obtain ⟨n2, hn2⟩ : ∃ n2, b.length = n2 := ⟨_, rfl⟩
  rw [hn1] at hOa k4
  rw [hn2] at hOb k5
  rw [hn1, hn2] at hwx ⊢
  have HWX := Lib.hid hwx
  have HF := Lib.hid hF
  have HOA := Lib.hid hOa
  have HOB := Lib.hid hOb
  have HRA := Lib.hid hra1
  have HRB := Lib.hid hrb1
  have HLA := Lib.hid hla1
  have HLB := Lib.hid hlb1
  clear hwx hF hG hBg hOa hOb hra1 hrb1 hla1 hlb1 hla hlb ha1 hb1 hra hrb ha hb hs1 hL1 h hn1 hn2 hnila hnilb hna hnb hBx
  go_enter Try.func6, Try.ntmps6
  go_upto_region 1 with fail
  go_cut [3, 4, 5, 6, 7] from 29 to 41 (fun s3 s4 s5 s6 s7 wc => ∃ (A1 : Option Addr) (m1 c1 g : Nat), s3 = .pointer (some ⟨g, 0, none⟩) ∧ s4 = .int .u16 off ∧ s5 = .int .u16 gap ∧ s6 = .slice Aa la ca ∧ s7 = .slice Ab lb cb ∧ Blk wc g 24 (0, 0) #[.int .i64 s1, .slice A1 m1 c1] ∧ w.heap.size < g ∧ IsP wc wc.heap.size A1 m1 c1 L1 ∧ Below w.heap.size w wc)
  case first =>
    rw [HWX.out]
    go_region_held3 (fun w' => w'.cell? ⟨w.heap.size, 0, none⟩ = some (.int .i64 s) ∧ w'.cell? ⟨w.heap.size, 1, none⟩ = some (.slice A n c) ∧ w'.cell? ⟨w.heap.size, 2, none⟩ = some (.int .u16 off) ∧ w'.cell? ⟨w.heap.size, 3, none⟩ = some (.int .u16 gap) ∧ w'.cell? ⟨w.heap.size, 4, none⟩ = some (.slice Aa n1 ca) ∧ w'.cell? ⟨w.heap.size, 5, none⟩ = some (.slice Ab n2 cb))
      (first
        | go_keep
        | exact ⟨y0, y1, y2, y3, y4, y5⟩
        | exact ⟨by rw [cell_far hne0, cell_far hne0]; exact y0, by rw [cell_far hne0, cell_far hne0]; exact y1, by rw [cell_far hne0, cell_far hne0]; exact y2, by rw [cell_far hne0, cell_far hne0]; exact y3, by rw [cell_far hne0, cell_far hne0]; exact y4, by rw [cell_far hne0, cell_far hne0]; exact y5⟩
        | exact ⟨(old_cell w1 _ _ _ hl1).trans y0, (old_cell w1 _ _ _ hl1).trans y1, (old_cell w1 _ _ _ hl1).trans y2, (old_cell w1 _ _ _ hl1).trans y3, (old_cell w1 _ _ _ hl1).trans y4, (old_cell w1 _ _ _ hl1).trans y5⟩)
      (first
        | (go_at_call 8; (with_reducible refine HF.out.mono ?_); rintro e w1 ⟨⟨A1, m1, c1, rfl, hI1⟩, h1⟩; have hB1 : Below wx.heap.size wx w1 := (below_drew (Below.refl wx.heap.size wx)).trans h1; have hl1 : w.heap.size < w1.heap.size := Nat.lt_of_lt_of_le hsx hB1.size; have y0 := (hB1.cell (p := ⟨w.heap.size, 0, none⟩) hsx).trans k0; have y1 := (hB1.cell (p := ⟨w.heap.size, 1, none⟩) hsx).trans k1; have y2 := (hB1.cell (p := ⟨w.heap.size, 2, none⟩) hsx).trans k2; have y3 := (hB1.cell (p := ⟨w.heap.size, 3, none⟩) hsx).trans k3; have y4 := (hB1.cell (p := ⟨w.heap.size, 4, none⟩) hsx).trans k4; have y5 := (hB1.cell (p := ⟨w.heap.size, 5, none⟩) hsx).trans k5)
        | (go_at_call 8; (with_reducible refine HG.out.mono ?_); rintro e w1 ⟨⟨A1, m1, c1, rfl, hI1⟩, h1⟩; have hB1 : Below wx.heap.size wx w1 := hbg.trans (h1.mono hbg.size); have hl1 : w.heap.size < w1.heap.size := Nat.lt_of_lt_of_le hsx hB1.size; have y0 := (hB1.cell (p := ⟨w.heap.size, 0, none⟩) hsx).trans k0; have y1 := (hB1.cell (p := ⟨w.heap.size, 1, none⟩) hsx).trans k1; have y2 := (hB1.cell (p := ⟨w.heap.size, 2, none⟩) hsx).trans k2; have y3 := (hB1.cell (p := ⟨w.heap.size, 3, none⟩) hsx).trans k3; have y4 := (hB1.cell (p := ⟨w.heap.size, 4, none⟩) hsx).trans k4; have y5 := (hB1.cell (p := ⟨w.heap.size, 5, none⟩) hsx).trans k5; have hBB := HBG.out.below h1 HBG.out.lt; obtain ⟨v0, v1, z0, z1⟩ := blk2 hBB)
        | (go_at_call_of 9 (Value.slice Aa n1 ca); refine (HOA.out _).mono ?_; rintro e w2 ⟨rfl, rfl⟩)
        | (go_at_call_of 9 (Value.slice Ab n2 cb); refine (HOB.out _).mono ?_; rintro e w2 ⟨rfl, rfl⟩))
    all_goals
      go_wp2_with fail
      go_meet
      first
        | exact ⟨A1, m1, c1, w1.heap.size, rfl, rfl, rfl, rfl, rfl, Blk.new w1 _ _ _, hl1, (hI1.free.later ((Below.refl _ _).alloc (Nat.le_refl _) _)), (hbx.trans (hB1.mono hbx.size)).alloc (Nat.le_of_lt hl1) _⟩
        | exact ⟨A1, m1, c1, wx.heap.size, rfl, rfl, rfl, rfl, rfl, (hBB.set_ 0 (.int .i64 s1)).set_ 1 (.slice A1 m1 c1), hsx, ((hI1.keep fun p' _ hq' => by
            have hne : p'.block ≠ wx.heap.size := by have h2 : wx.heap.size + 1 + 2 ≤ p'.block := by simpa using hq'
                                                     omega
            rw [cell_far (by show p'.block ≠ wx.heap.size; exact hne), cell_far (by show p'.block ≠ wx.heap.size; exact hne)]).more (by simp)).free, ((hbx.trans (hB1.mono hbx.size)).setCell (Nat.le_of_lt hsx) _).setCell (Nat.le_of_lt hsx) _⟩
  case rest =>
    obtain ⟨A1, m1, c1, g, rfl, rfl, rfl, rfl, rfl, hBg, hlg, hI, hbc⟩ := hcut
    clear HF HG HBG HOA HOB hbg hbx k0 k1 k2 k3 k4 k5 HWX hsx hne0
    obtain ⟨p, hp⟩ : ∃ p, off % 3000 = p := ⟨_, rfl⟩
    have hpi : (off : Int) % 3000 = (p : Int) := by omega
    obtain ⟨q, hq⟩ : ∃ q, gap % 400 = q := ⟨_, rfl⟩
    have hqi : (gap : Int) % 400 = (q : Int) := by omega
    obtain ⟨o, ho2⟩ : ∃ o, p + la + q = o := ⟨_, rfl⟩
    have hoi : (p : Int) + la + q = (o : Int) := by omega
    obtain ⟨d0, d1, _, _⟩ := blk2 hBg
    have hm1 : m1 ≤ 20 := by rw [← hI.count]; exact hL20
    have hlg2 := hBg.lt
    obtain ⟨v, hv⟩ : ∃ v, okF s1 L1 = v := ⟨_, rfl⟩
    have hM := May_any s1 A1 m1 c1 L1 wc hI hs1b (by omega)
    rw [hv] at hM
    have HM := Lib.hid hM
    have HI := Lib.hid hI
    have HBG := Lib.hid hBg
    have HV := Lib.hid hv
    clear hM hI hBg hv
    go_wp2_with fail
    rw [hpi]
    refine HM.out.mono ?_
    rintro e w1 ⟨rfl, h1⟩
    have hb1 := hbc.trans (h1.mono hbc.size)
    cases v with
    | false =>
      clear d0 d1
      go_wp2_with fail
      refine (awake_any _).mono ?_
      rintro e w2 ⟨rfl, h2⟩
      go_wp2_with fail
      go_ret
      exact ⟨rfl, hb1.trans (h2.mono hb1.size)⟩
    | true =>
    have hRA : ∀ W, Below w.heap.size w W → Rd W W.heap.size 1 Aa la (octV a1) := fun W hW => (HRA.out.below hW).more hW.size
    have hRB : ∀ W, Below w.heap.size w W → Rd W W.heap.size 1 Ab lb (octV b1) := fun W hW => (HRB.out.below hW).more hW.size
    have hI1 := HI.out.later h1
    have hB1 := HBG.out.below h1 hlg2
    obtain ⟨s2, hs2⟩ : ∃ s2, sizeW s1 p la = s2 := ⟨_, rfl⟩
    obtain ⟨s3, hs3⟩ : ∃ s3, sizeW s2 o lb = s3 := ⟨_, rfl⟩
    obtain ⟨s4, hs4⟩ : ∃ s4, sizeW s1 o lb = s4 := ⟨_, rfl⟩
    have hs5 : sizeW s4 p la = s3 := by rw [← hs4, ← hs3, ← hs2]; exact sizeW_swap _ _ _ _ _
    have hW1 := Write_use (fun _ => True) s1 s2 p A1 Aa m1 c1 la ca L1 a1 w1 (fun _ _ => trivial) (hI1.toQ fun _ _ => trivial) (hRA _ hb1) hlac hca HV.out (by omega) hs2
    have HW1 := Lib.hid hW1
    have HI1 := Lib.hid hI1
    have HB1 := Lib.hid hB1
    have HRA2 := Lib.hid hRA
    have HRB2 := Lib.hid hRB
    have HS2 := Lib.hid hs2
    have HS3 := Lib.hid hs3
    have HS4 := Lib.hid hs4
    have HS5 := Lib.hid hs5
    obtain ⟨e0, e1, _, _⟩ := blk2 hB1
    have hlg1 := hB1.lt
    clear hW1 hI1 hB1 hRA hRB hs2 hs3 hs4 hs5 d0 d1 HM HI HBG HRA HRB
    go_wp2_with fail
    refine HW1.out.mono ?_
    rintro e w2 ⟨⟨A2, m2, c2, v2, L2, rfl, hI2, hinv2, hok2, hm2⟩, h2⟩
    have hb2 := hb1.trans (h2.mono hb1.size)
    -- the first box
    obtain ⟨wa, hwa⟩ : ∃ wa, w2.alloc (.cells #[.int .i64 s2, .slice A2 m2 c2] 24) = wa := ⟨_, rfl⟩
    have hsa : wa.heap.size = w2.heap.size + 1 := by rw [← hwa]; simp
    have hba : Below w2.heap.size w2 wa := by rw [← hwa]; exact (Below.refl _ _).alloc (Nat.le_refl _) _
    have hB2 := (HB1.out.below h2 hlg1).below hba (Nat.lt_of_lt_of_le hlg1 h2.size)
    have hX2 : Blk wa w2.heap.size 24 (0, 0) #[.int .i64 s2, .slice A2 m2 c2] := by rw [← hwa]; exact Blk.new _ _ _ _
    have hIa : IsQ wa wa.heap.size (fun b => b ≠ w2.heap.size) A2 m2 c2 L2 := ((hI2.free.toQ fun b hb => Nat.ne_of_lt hb).below hba).more hba.size
    have hI12 := HI1.out.later h2
    have hb3 := hb2.trans (hba.mono hb2.size)
    have hW2 := Write_use (fun b => b ≠ w2.heap.size) s2 s3 o A2 Ab m2 c2 lb cb L2 b1 wa (fun b hb => by omega) hIa (HRB2.out _ hb3) hlbc hcb hok2 (by omega) HS3.out
    have HW2 := Lib.hid hW2
    have HI12 := Lib.hid hI12
    have HX2 := Lib.hid hX2
    have HB2 := Lib.hid hB2
    have HV2 := Lib.hid hinv2
    have HK2 := Lib.hid hok2
    obtain ⟨e0, e1, _, _⟩ := blk2 hB2
    obtain ⟨f0, f1, _, _⟩ := blk2 hX2
    have hg2 := Nat.lt_of_lt_of_le hlg1 h2.size
    clear hW2 hI12 hX2 hB2 hinv2 hok2 hIa hI2 HI1 HB1 HW1
    go_wp2_with fail
    refine HW2.out.mono ?_
    rintro e w3 ⟨⟨A3, m3, c3, v3, L3, rfl, hI3, hinv3, hok3, hm3⟩, h3⟩
    have hX3 := HX2.out.below h3 (by omega)
    have hX3l := hX3.lt
    clear f0 f1
    obtain ⟨f0, f1, _, _⟩ := blk2 hX3
    obtain ⟨wb, hwb⟩ : ∃ wb, (w3.setCell ⟨w2.heap.size, 0, none⟩ (.int .i64 s3)).setCell ⟨w2.heap.size, 1, none⟩ (.slice A3 m3 c3) = wb := ⟨_, rfl⟩
    have hsb : wb.heap.size = w3.heap.size := by rw [← hwb]; simp
    have h23 : Below w2.heap.size w2 wb := by rw [← hwb]; exact ((hba.trans (h3.mono hba.size)).setCell (Nat.le_refl _) _).setCell (Nat.le_refl _) _
    have hXb : Blk wb w2.heap.size 24 (0, 0) #[.int .i64 s3, .slice A3 m3 c3] := by rw [← hwb]; exact (hX3.set_ 0 (.int .i64 s3)).set_ 1 (.slice A3 m3 c3)
    have hI3b : IsP wb wb.heap.size A3 m3 c3 L3 := by
      rw [hsb, ← hwb]
      exact (hI3.keep fun p' _ hq' => by rw [cell_far (by exact hq'), cell_far (by exact hq')]).free
    have hB3 : Blk wb g 24 (0, 0) #[.int .i64 s1, .slice A1 m1 c1] := by
      rw [← hwb]; exact ((HB2.out.below h3 (by omega)).far (by exact Nat.ne_of_lt hg2) _).far (by exact Nat.ne_of_lt hg2) _
    have hI1b : IsP wb wb.heap.size A1 m1 c1 L1 := (HI12.out.below h23).more h23.size
    have hb4 := hb2.trans (h23.mono hb2.size)
    have hW4 := Write_use (fun _ => True) s1 s4 o A1 Ab m1 c1 lb cb L1 b1 wb (fun _ _ => trivial) (hI1b.toQ fun _ _ => trivial) (HRB2.out _ hb4) hlbc hcb HV.out (by omega) HS4.out
    have HW4 := Lib.hid hW4
    have HI1b := Lib.hid hI1b
    have HI3b := Lib.hid hI3b
    have HXb := Lib.hid hXb
    have HB3 := Lib.hid hB3
    have HV3 := Lib.hid hinv3
    have HK3 := Lib.hid hok3
    obtain ⟨e0, e1, _, _⟩ := blk2 hB3
    have hg3 := hB3.lt
    have hxb := hXb.lt
    clear hW4 hI1b hI3b hXb hB3 hinv3 hok3 HI12 HX2 HB2 HW2 hI3 hwa
    go_wp2_with fail
    refine HW4.out.mono ?_
    rintro e w4 ⟨⟨A4, m4, c4, v4, L4, rfl, hI4, hinv4, hok4, hm4⟩, h4⟩
    have hb5 := hb4.trans (h4.mono hb4.size)
    -- the second box
    obtain ⟨wy, hwy⟩ : ∃ wy, w4.alloc (.cells #[.int .i64 s4, .slice A4 m4 c4] 24) = wy := ⟨_, rfl⟩
    have hsy : wy.heap.size = w4.heap.size + 1 := by rw [← hwy]; simp
    have hby : Below w4.heap.size w4 wy := by rw [← hwy]; exact (Below.refl _ _).alloc (Nat.le_refl _) _
    have hY4 : Blk wy w4.heap.size 24 (0, 0) #[.int .i64 s4, .slice A4 m4 c4] := by rw [← hwy]; exact Blk.new _ _ _ _
    have hI4y : IsQ wy wy.heap.size (fun b => b ≠ w4.heap.size) A4 m4 c4 L4 := ((hI4.free.toQ fun b hb => Nat.ne_of_lt hb).below hby).more hby.size
    have hb6 := hb5.trans (hby.mono hb5.size)
    have hW5 := Write_use (fun b => b ≠ w4.heap.size) s4 s3 p A4 Aa m4 c4 la ca L4 a1 wy (fun b hb => by omega) hI4y (HRA2.out _ hb6) hlac hca hok4 (by omega) HS5.out
    have HW5 := Lib.hid hW5
    have HI14 := Lib.hid (HI1b.out.later h4)
    have HI34 := Lib.hid (HI3b.out.later h4)
    have HX4 := Lib.hid (HXb.out.below h4 hxb)
    have HB4 := Lib.hid (HB3.out.below h4 hg3)
    have HY4 := Lib.hid hY4
    have HV4 := Lib.hid hinv4
    have HK4 := Lib.hid hok4
    have hg4 := Nat.lt_of_lt_of_le hg3 h4.size
    have hx4 := Nat.lt_of_lt_of_le hxb h4.size
    obtain ⟨f0, f1, _, _⟩ := blk2 hY4
    clear hW5 hY4 hinv4 hok4 hI4y hI4 HI1b HI3b HXb HB3 HW4 e0 e1 hwb
    go_wp2_with fail
    refine HW5.out.mono ?_
    rintro e w5 ⟨⟨A5, m5, c5, v5, L5, rfl, hI5, hinv5, hok5, hm5⟩, h5⟩
    have hY5 := HY4.out.below h5 (by omega)
    clear f0 f1
    obtain ⟨h0, h1', _, _⟩ := blk2 hY5
    obtain ⟨wz, hwz⟩ : ∃ wz, (w5.setCell ⟨w4.heap.size, 0, none⟩ (.int .i64 s3)).setCell ⟨w4.heap.size, 1, none⟩ (.slice A5 m5 c5) = wz := ⟨_, rfl⟩
    have hsz : wz.heap.size = w5.heap.size := by rw [← hwz]; simp
    have h45 : Below w4.heap.size w4 wz := by rw [← hwz]; exact ((hby.trans (h5.mono hby.size)).setCell (Nat.le_refl _) _).setCell (Nat.le_refl _) _
    have hYz : Blk wz w4.heap.size 24 (0, 0) #[.int .i64 s3, .slice A5 m5 c5] := by rw [← hwz]; exact (hY5.set_ 0 (.int .i64 s3)).set_ 1 (.slice A5 m5 c5)
    have hI5z : IsP wz wz.heap.size A5 m5 c5 L5 := by
      rw [hsz, ← hwz]
      exact (hI5.keep fun p' _ hq' => by rw [cell_far (by exact hq'), cell_far (by exact hq')]).free
    have hI3z : IsP wz wz.heap.size A3 m3 c3 L3 := (HI34.out.below h45).more h45.size
    have hI1z : IsP wz wz.heap.size A1 m1 c1 L1 := (HI14.out.below h45).more h45.size
    have hXz := HX4.out.below h45 hx4
    have hBz := HB4.out.below h45 hg4
    have hbz := hb5.trans (h45.mono hb5.size)
    have hS := SameF_any s3 s3 A3 A5 m3 c3 m5 c5 L3 L5 wz hI3z hI5z (by have := ((okF_iff s3 L3).1 HK3.out).2.1; omega) (by have := ((okF_iff s3 L3).1 HK3.out).2.1; omega) (by omega) (by omega)
    rw [(sameF_iff s3 L3 s3 L5).2 ⟨HK3.out, hok5, rfl, fun i => twice_oct L1 L2 L3 L4 L5 p o a1 b1 (by rw [HLA.out]; omega) HV2.out HV3.out HV4.out hinv5 i⟩] at hS
    have HS := Lib.hid hS
    have HI1z := Lib.hid hI1z
    have HBz := Lib.hid hBz
    obtain ⟨e0, e1, _, _⟩ := blk2 hBz
    obtain ⟨f0, f1, _, _⟩ := blk2 hXz
    obtain ⟨g0, g1, _, _⟩ := blk2 hYz
    have hgz := hBz.lt
    have hhz := hXz.lt
    have hiz := hYz.lt
    clear hS hI1z hBz hXz hYz hI3z hI5z hI5 HI34 HI14 HX4 HB4 HW5 hwy HY4 hinv5 hok5
    go_wp2_with fail
    refine HS.out.mono ?_
    rintro e w6 ⟨rfl, h6⟩
    obtain ⟨kk, hkk⟩ : ∃ kk, la / 2 = kk := ⟨_, rfl⟩
    have hki : (la : Int) / 2 = (kk : Int) := by omega
    obtain ⟨e0, e1, _, _⟩ := blk2 (HBz.out.below h6 hgz)
    clear f0 f1 g0 g1
    have hb7 := hbz.trans (h6.mono hbz.size)
    have hI16 := HI1z.out.later h6
    have hB6 := HBz.out.below h6 hgz
    have hg6 := hB6.lt
    obtain ⟨s6, hs6⟩ : ∃ s6, sizeW s1 p kk = s6 := ⟨_, rfl⟩
    obtain ⟨s7, hs7⟩ : ∃ s7, sizeW s1 p la = s7 := ⟨_, rfl⟩
    have hk1 : kk ≤ la := by omega
    have hRAk : ∀ W, Below w.heap.size w W → Rd W W.heap.size 1 Aa kk (octV (a1.take kk)) := fun W hW => by
      have := rd_takeV (HRA2.out W hW) hk1
      rw [Nat.mul_one, ← octV_take] at this; exact this
    have sl1 : ∀ W, (Instr.slice 25 (.slice Aa la ca) none (some (.int .i64 (kk : Int))) none).run Try.prog W = .ok (.slice Aa kk ca) W := sl_h Aa la ca kk (by omega)
    have hF := Write_use (fun _ => True) s1 s6 p A1 Aa m1 c1 kk ca L1 (a1.take kk) w6.drew (fun _ _ => trivial) ((hI16.later (below_drew (Below.refl _ _))).toQ fun _ _ => trivial) (hRAk _ (below_drew hb7)) (by omega) hca HV.out (by omega) hs6
    have hbg : Below w6.heap.size w6 (w6.alloc (.cells #[.int .i64 0, .slice none 0 0] 24)).drew := below_drew ((Below.refl _ _).alloc (Nat.le_refl _) _)
    have hG := Write_use (fun b => b ≠ w6.heap.size) s1 s6 p A1 Aa m1 c1 kk ca L1 (a1.take kk) (w6.alloc (.cells #[.int .i64 0, .slice none 0 0] 24)).drew (fun b hb => Nat.ne_of_gt (Nat.lt_of_lt_of_le (by simp) hb)) (((hI16.toQ fun b hb => Nat.ne_of_lt hb).below hbg).more hbg.size) (hRAk _ (hb7.trans (hbg.mono hb7.size))) (by omega) hca HV.out (by omega) hs6
    have hBg : Blk (w6.alloc (.cells #[.int .i64 0, .slice none 0 0] 24)).drew w6.heap.size 24 (0, 0) #[.int .i64 0, .slice none 0 0] := Blk.new w6 _ _ _
    have HF := Lib.hid hF
    have HG := Lib.hid hG
    have HBG := Lib.hid hBg
    have HB6 := Lib.hid hB6
    have HI16 := Lib.hid hI16
    have HS6 := Lib.hid hs6
    have HS7 := Lib.hid hs7
    have hne6 : g ≠ w6.heap.size := Nat.ne_of_lt hg6
    clear hF hG hBg hB6 hI16 hs6 hs7 hRAk HBz HI1z HS hhz hiz
    go_upto_region 13 with fail
    go_cut [21, 22, 23] (fun s21 s22 s23 wd => ∃ (A6 : Option Addr) (m6 c6 g2 : Nat) (L6 : List Pc), s21 = .pointer (some ⟨g2, 0, none⟩) ∧ s23 = .int .i64 0 ∧ w6.heap.size ≤ g2 ∧ Blk wd g2 24 (0, 0) #[.int .i64 s6, .slice A6 m6 c6] ∧ IsQ wd wd.heap.size (fun b => b ≠ g2) A6 m6 c6 L6 ∧ WInv L1 p (a1.take kk) L6 ∧ okF s6 L6 = true ∧ m6 ≤ 3621 ∧ Below w6.heap.size w6 wd)
    case first =>
      go_region_held_law (fun w' => w'.cell? ⟨g, 0, none⟩ = some (.int .i64 s1) ∧ w'.cell? ⟨g, 1, none⟩ = some (.slice A1 m1 c1))
        (first
          | go_keep
          | exact ⟨y0, y1⟩
          | exact ⟨by rw [cell_far hne6, cell_far hne6]; exact y0, by rw [cell_far hne6, cell_far hne6]; exact y1⟩
          | exact ⟨(old_cell w7 _ _ _ hl7).trans y0, (old_cell w7 _ _ _ hl7).trans y1⟩)
        (first
          | (go_at_call 10; (with_reducible refine HF.out.mono ?_); rintro e w7 ⟨⟨A6, m6, c6, v6, L6, rfl, hI6, hinv6, hok6, hm6⟩, h7⟩; have hB7 : Below w6.heap.size w6 w7 := (below_drew (Below.refl w6.heap.size w6)).trans h7; have hl7 : g < w7.heap.size := Nat.lt_of_lt_of_le hg6 hB7.size; have y0 := (hB7.cell (p := ⟨g, 0, none⟩) hg6).trans e0; have y1 := (hB7.cell (p := ⟨g, 1, none⟩) hg6).trans e1)
          | (go_at_call 10; (with_reducible refine HG.out.mono ?_); rintro e w7 ⟨⟨A6, m6, c6, v6, L6, rfl, hI6, hinv6, hok6, hm6⟩, h7⟩; have hB7 : Below w6.heap.size w6 w7 := hbg.trans (h7.mono hbg.size); have hl7 : g < w7.heap.size := Nat.lt_of_lt_of_le hg6 hB7.size; have y0 := (hB7.cell (p := ⟨g, 0, none⟩) hg6).trans e0; have y1 := (hB7.cell (p := ⟨g, 1, none⟩) hg6).trans e1; have hBB := HBG.out.below h7 HBG.out.lt; obtain ⟨v0, v1, z0, z1⟩ := blk2 hBB))
      all_goals
        go_wp2_with fail
        go_meet
        first
          | exact ⟨A6, m6, c6, w7.heap.size, L6, rfl, rfl, hB7.size, Blk.new w7 _ _ _, ((hI6.free.toQ fun b hb => Nat.ne_of_lt hb).below ((Below.refl _ _).alloc (Nat.le_refl _) _)).more (by simp), hinv6, hok6, hm6, hB7.alloc hB7.size _⟩
          | exact ⟨A6, m6, c6, w6.heap.size, L6, rfl, rfl, Nat.le_refl _, (hBB.set_ 0 (.int .i64 s6)).set_ 1 (.slice A6 m6 c6), (hI6.keep fun p' _ hq' => by rw [cell_far (by exact hq'), cell_far (by exact hq')]).more (by simp), hinv6, hok6, hm6, (hB7.setCell (Nat.le_refl _) _).setCell (Nat.le_refl _) _⟩
          | (trace_state; fail)
    case rest =>
      obtain ⟨A6, m6, c6, g2, L6, rfl, rfl, hg2le, hBd, hI6, hinv6, hok6, hm6, hbd⟩ := hcut
      clear HF HG HBG hbg sl1 e0 e1 hne6
      have hbD := hb7.trans (hbd.mono hb7.size)
      obtain ⟨o2, ho2⟩ : ∃ o2, p + kk = o2 := ⟨_, rfl⟩
      have hoi2 : (p : Int) + kk = (o2 : Int) := by omega
      have hwo2 : IntKind.i64.wrap (o2 : Int) = o2 := IntWalk.i64_in _ ⟨by omega, by omega⟩
      obtain ⟨ld, hld⟩ : ∃ ld, la - kk = ld := ⟨_, rfl⟩
      obtain ⟨cd, hcd⟩ : ∃ cd, ca - kk = cd := ⟨_, rfl⟩
      obtain ⟨Ad, hAd⟩ : ∃ Ad, (if ca = kk then Aa else Aa.map (·.add kk)) = Ad := ⟨_, rfl⟩
      have sl2 : ∀ W, (Instr.slice 25 (.slice Aa la ca) (some (.int .i64 (kk : Int))) none none).run Try.prog W = .ok (.slice Ad ld cd) W := fun W => by
        rw [← hAd, ← hld, ← hcd]; exact sl_l Aa la ca kk hk1 W
      have hRd : ∀ W, Below w.heap.size w W → Rd W W.heap.size 1 Ad ld (octV (a1.drop kk)) := fun W hW => by
        rw [← hAd, ← hld]; exact Rd.cut (HRA2.out W hW) hk1 hlac
      have hs67 : sizeW s6 o2 ld = s7 := by
        rw [← HS6.out, ← ho2, ← hld, sizeW_split, show kk + (la - kk) = la from by omega]; exact HS7.out
      have hW7 := Write_use (fun b => b ≠ g2) s6 s7 o2 A6 Ad m6 c6 ld cd L6 (a1.drop kk) wc.drew (fun b hb => Nat.ne_of_gt (Nat.lt_of_lt_of_le hBd.lt hb)) (hI6.later (below_drew (Below.refl _ _))) (hRd _ (below_drew hbD)) (by omega) (by omega) hok6 (by omega) hs67
      have hdl := hBd.lt
      have HW7 := Lib.hid hW7
      have HBd := Lib.hid hBd
      have HV6 := Lib.hid hinv6
      obtain ⟨e0, e1, _, _⟩ := blk2 hBd
      clear hW7 hBd hI6 hRd hinv6 hok6 hAd
      go_upto_region 14 with fail
      go_region_with ((go_at_call 10; (with_reducible refine HW7.out.mono ?_); rintro e w8 ⟨⟨A7, m7, c7, v7, L7, rfl, hI7, hinv7, hok7, hm7⟩, h8⟩; have hB8 : Below wc.heap.size wc w8 := (below_drew (Below.refl wc.heap.size wc)).trans h8; have hBd8 := HBd.out.below hB8 hdl; obtain ⟨y0, y1, _, _⟩ := blk2 hBd8))
      all_goals
        have hX8 := hB8
        obtain ⟨w9, hw9⟩ : ∃ w9, (w8.setCell ⟨g2, 0, none⟩ (.int .i64 s7)).setCell ⟨g2, 1, none⟩ (.slice A7 m7 c7) = w9 := ⟨_, rfl⟩
        have hs9 : w9.heap.size = w8.heap.size := by rw [← hw9]; simp
        have hd2 : Below w6.heap.size wc w8 := hB8.mono hbd.size
        have h69 : Below w6.heap.size w6 w9 := by rw [← hw9]; exact ((hbd.trans hd2).setCell hg2le _).setCell hg2le _
        have hB9 : Blk w9 g2 24 (0, 0) #[.int .i64 s7, .slice A7 m7 c7] := by rw [← hw9]; exact (hBd8.set_ 0 (.int .i64 s7)).set_ 1 (.slice A7 m7 c7)
        have hI7b : IsP w9 w9.heap.size A7 m7 c7 L7 := by
          rw [hs9, ← hw9]
          exact (hI7.keep fun p' _ hq' => by rw [cell_far (by exact hq'), cell_far (by exact hq')]).free
        have hI19 : IsP w9 w9.heap.size A1 m1 c1 L1 := (HI16.out.below h69).more h69.size
        have hBg9 := HB6.out.below h69 hg6
        have hb9 := hb7.trans (h69.mono hb7.size)
        have hW9 := Write_use (fun _ => True) s1 s7 p A1 Aa m1 c1 la ca L1 a1 w9 (fun _ _ => trivial) (hI19.toQ fun _ _ => trivial) (HRA2.out _ hb9) hlac hca HV.out (by omega) HS7.out
        have HW9 := Lib.hid hW9
        have HI7 := Lib.hid hI7b
        have HB9 := Lib.hid hB9
        have HV7 := Lib.hid hinv7
        have HK7 := Lib.hid hok7
        have HBd9 := Lib.hid hBg9
        clear e0 e1
        obtain ⟨e0, e1, _, _⟩ := blk2 hBg9
        have hlg9 := hBg9.lt
        have hl29 := hB9.lt
        clear hW9 hI7b hB9 hinv7 hok7 hBg9 hI19 hI7 hBd8 HW7 HBd
        go_wp2_with fail
        refine HW9.out.mono ?_
        rintro e w10 ⟨⟨A8, m8, c8, v8, L8, rfl, hI8, hinv8, hok8, hm8⟩, h10⟩
        obtain ⟨wq, hwq⟩ : ∃ wq, w10.alloc (.cells #[.int .i64 s7, .slice A8 m8 c8] 24) = wq := ⟨_, rfl⟩
        have hbq : Below w10.heap.size w10 wq := by rw [← hwq]; exact (Below.refl _ _).alloc (Nat.le_refl _) _
        have hBq : Blk wq w10.heap.size 24 (0, 0) #[.int .i64 s7, .slice A8 m8 c8] := by rw [← hwq]; exact Blk.new _ _ _ _
        have h9q : Below w9.heap.size w9 wq := h10.trans (hbq.mono h10.size)
        have hB9q := HB9.out.below h9q hl29
        have hsz7 : s7 ≤ 463488 := ((okF_iff s7 L7).1 HK7.out).2.1
        have hS := SameF_any s7 s7 A7 A8 m7 c7 m8 c8 L7 L8 wq (HI7.out.later h9q) (hI8.free.later hbq) (by omega) (by omega) (by omega) (by omega)
        rw [(sameF_iff s7 L7 s7 L8).2 ⟨HK7.out, hok8, rfl, fun i => split_oct L1 L6 L7 L8 p kk a1 (by rw [HLA.out]; exact hk1) HV6.out (by rw [ho2]; exact HV7.out) hinv8 i⟩] at hS
        have HS := Lib.hid hS
        have hbz := hb9.trans (h9q.mono hb9.size)
        clear e0 e1
        obtain ⟨e0, e1, _, _⟩ := blk2 hB9q
        obtain ⟨f0, f1, _, _⟩ := blk2 hBq
        clear hS hB9q hBq hI8 hinv8 hok8 y0 y1
        go_wp2_with fail
        refine HS.out.mono ?_
        rintro e w11 ⟨rfl, h11⟩
        go_wp2_with fail
        refine (awake_any _).mono ?_
        rintro e w12 ⟨rfl, h12⟩
        go_wp2_with fail
        go_ret
        have hb11 := hbz.trans (h11.mono hbz.size)
        exact ⟨rfl, hb11.trans (h12.mono hb11.size)⟩
end Go.Proofs.Ytpofkkoiicdpbaa
