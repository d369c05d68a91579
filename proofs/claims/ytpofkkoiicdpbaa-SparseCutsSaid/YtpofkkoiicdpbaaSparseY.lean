/-
  Walk: the document's Of.
-/
import Derived.Test.YtpofkkoiicdpbaaSparseU
import Derived.Test.YtpofkkoiicdpbaaSparseX
import Derived.Deep.DeepCutAuto
import Derived.Deep.RegionWith
import Derived.Deep.OwnRows
import Derived.StillTailTactics
namespace Go.Proofs.Ytpofkkoiicdpbaa
open Go.RowKit
set_option linter.unusedVariables false

def boolV (l : List Bool) : List Value := l.map .bool
theorem boolV_len (l : List Bool) : (boolV l).length = l.length := by simp [boolV]
theorem made_one (z : Value) (n : Nat) : madeCells #[z] n = (List.replicate n z).toArray := by
  refine Array.ext (by rw [size_madeCells]; simp) fun i h1 h2 => ?_
  have hi : i < n := by simpa using h2
  simp [madeCells, Nat.mod_one]

theorem Blk.drewN {w : World} {t : TypeId} {fz : Nat × Nat} {cs : Array Value} {g : Nat} (h : Blk w g t fz cs) (k : Nat) : Blk (w.drewN k) g t fz cs := h
theorem blk_at0 {w : World} {t : TypeId} {fz : Nat × Nat} {cs : Array Value} {g : Nat} (hg : g = w.heap.size) : Blk (w.alloc (.cells cs t fz)) g t fz cs := by subst hg; exact Blk.new _ _ _ _
set_option maxHeartbeats 8000000 in
set_option maxRecDepth 100000 in
theorem rOf_any (size : Nat) (A : Option Addr) (n c : Nat) (L : List Pc) (w : World) (h : IsP w w.heap.size A n c L) (hok : okF (size : Int) L = true) (hn : n ≤ 1000000) :
    Calls Try.prog 13 #[.agg #[.int .i64 (size : Int), .slice A n c]] w fun e w' =>
      (∃ g1 g2, e = .returned (.agg #[.slice (some ⟨g1, 0, none⟩) size size, .slice (some ⟨g2, 0, none⟩) ((size + 127) / 128) ((size + 127) / 128)]) ∧ g1 < w'.heap.size ∧ g2 < w'.heap.size ∧ w.heap.size ≤ g1 ∧ w.heap.size ≤ g2 ∧ g1 ≠ g2
        ∧ Blk w' g1 5 (0, 0) (octV (fileB size L)).toArray ∧ Blk w' g2 4 (0, 0) (boolV (fileT size L)).toArray) ∧ Below w.heap.size w w' := by
  obtain ⟨i1, hi, hz0, hz1, hz2⟩ := info_parts Try.info5
  obtain ⟨i2, ki, kz0, kz1, kz2⟩ := info_parts (P := Try.prog) (e := 4) (z := .bool false) (size := 1) (bytes := 1) (by kernel_rfl)
  have hOK := (okF_iff _ _).1 hok
  have hst : Std L := hOK.2.2.1
  have hs1 : size ≤ 463488 := by have := hOK.2.1; omega
  obtain ⟨z, hz⟩ : ∃ z, (size + 127) / 128 = z := ⟨_, rfl⟩
  have hz9 : z ≤ 3621 := by omega
  have hS : ∀ W, Calls Try.prog 27 #[.int .i64 (size : Int)] W fun e w' => e = .returned (.int .i64 (z : Int)) ∧ W = w' := fun W => by
    have := rNeed_any (size : Int) W (by omega) (by omega)
    rw [show needN (size : Int) = (z : Int) from by unfold needN; split <;> omega] at this
    exact this
  obtain ⟨C1, hC1⟩ : ∃ C1, madeCells #[Value.int .u8 0] size = C1 := ⟨_, rfl⟩
  obtain ⟨C2, hC2⟩ : ∃ C2, madeCells #[Value.bool false] z = C2 := ⟨_, rfl⟩
  have hm1 : ∀ W : World, (Instr.makeSlice 25 (.int .i64 (size : Int)) (.int .i64 (size : Int))).run Try.prog W = .ok (.slice (some ⟨W.heap.size, 0, none⟩) size size) (W.alloc (.cells C1 5)) := fun W => by
    rw [← hC1]
    exact run_make_row 25 5 i1 (.int .u8 0) Try.underlying25 hi hz0 hz1 rfl .i64 .i64 size (by rw [hz2]; omega) (by omega) W
  have hm2 : ∀ W : World, (Instr.makeSlice 34 (.int .i64 (z : Int)) (.int .i64 (z : Int))).run Try.prog W = .ok (.slice (some ⟨W.heap.size, 0, none⟩) z z) (W.alloc (.cells C2 4)) := fun W => by
    rw [← hC2]
    exact run_make_row 34 4 i2 (.bool false) Try.underlying34 ki kz0 kz1 rfl .i64 .i64 z (by rw [kz2]; omega) (by omega) W
  have hC1v : C1 = (octV (fileB size [])).toArray := by
    rw [← hC1, made_one, (file_nil size).1]
    congr 1
    simp [octV]
  have hC2v : C2 = (boolV (fileT size [])).toArray := by
    rw [← hC2, made_one, (file_nil size).2, hz]
    congr 1
    simp [boolV]
  have H := Lib.hid h
  have HS := Lib.hid hS
  have HC1 := Lib.hid hC1v
  have HC2 := Lib.hid hC2v
  have HOK := Lib.hid hOK
  have HST := Lib.hid hst
  have HZ := Lib.hid hz
  rw [hz]
  clear h hS hC1 hC2 hC1v hC2v hOK hst hok hz
  go_enter Try.func13, Try.ntmps13
  go_wp2_with fail
  refine (HS.out _).mono ?_
  rintro e w0' ⟨rfl, rfl⟩
  go_upto_region 2 with fail
  obtain ⟨wx, hwx⟩ : ∃ wx, (w.alloc (.cells #[.int .i64 (size : Int), .slice A n c] 24)).alloc (.cells #[.slice none 0 0, .slice none 0 0] 36) = wx := ⟨_, rfl⟩
  have hsx : wx.heap.size = w.heap.size + 1 + 1 := by rw [← hwx]; simp
  have hbx : Below w.heap.size w wx := by rw [← hwx]; exact ((Below.refl _ _).alloc (Nat.le_refl _) _).alloc (by simp) _
  have hX0 : Blk wx w.heap.size 24 (0, 0) #[.int .i64 (size : Int), .slice A n c] := by rw [← hwx]; exact (Blk.new w _ _ _).alloc _
  have hX1 : Blk wx (w.heap.size + 1) 36 (0, 0) #[.slice none 0 0, .slice none 0 0] := by
    rw [← hwx]
    have := Blk.new (w.alloc (.cells #[.int .i64 (size : Int), .slice A n c] 24)) 36 (0, 0) #[.slice none 0 0, .slice none 0 0]
    simpa using this
  rw [hwx]
  have HX0 := Lib.hid hX0
  have HX1 := Lib.hid hX1
  obtain ⟨d0, d1, _, _⟩ := blk2 hX0
  have hl0 := hX0.lt
  clear hwx hX0 hX1
  go_cut [4] (fun s4 wd => ∃ g1 g2 gf, s4 = .pointer (some ⟨gf, 0, none⟩) ∧ Blk wd gf 36 (0, 0) #[.slice (some ⟨g1, 0, none⟩) size size, .slice (some ⟨g2, 0, none⟩) z z] ∧ Blk wd g1 5 (0, 0) C1 ∧ Blk wd g2 4 (0, 0) C2 ∧ g1 ≠ g2 ∧ g1 ≠ gf ∧ g2 ≠ gf ∧ wx.heap.size ≤ g1 ∧ wx.heap.size ≤ g2 ∧ wx.heap.size ≤ gf ∧ Below wx.heap.size wx wd)
  case first =>
    go_region_with (fail)
    all_goals
      go_wp2_with fail
      go_meet
      first
        | exact ⟨_, _, _, rfl, ((blk_at0 (by simp [hsx])).alloc _).alloc _, (blk_at0 (by simp [hsx])).alloc _, blk_at0 (by simp [hsx]), by omega, by omega, by omega, by omega, by omega, by omega, below_drew ((((Below.refl _ _).alloc (Nat.le_refl _) _).alloc (base_alloc (Nat.le_refl _) _) _).alloc (base_alloc (base_alloc (Nat.le_refl _) _) _) _)⟩
        | exact ⟨_, _, _, rfl, ((blk_at0 (by simp [hsx])).alloc _).alloc _, blk_at0 (by simp [hsx]), (blk_at0 (by simp [hsx])).alloc _, by omega, by omega, by omega, by omega, by omega, by omega, below_drew ((((Below.refl _ _).alloc (Nat.le_refl _) _).alloc (base_alloc (Nat.le_refl _) _) _).alloc (base_alloc (base_alloc (Nat.le_refl _) _) _) _)⟩
        | exact ⟨_, _, _, rfl, (blk_at0 (by simp [hsx])).alloc _, ((blk_at0 (by simp [hsx])).alloc _).alloc _, blk_at0 (by simp [hsx]), by omega, by omega, by omega, by omega, by omega, by omega, below_drew ((((Below.refl _ _).alloc (Nat.le_refl _) _).alloc (base_alloc (Nat.le_refl _) _) _).alloc (base_alloc (base_alloc (Nat.le_refl _) _) _) _)⟩
        | exact ⟨_, _, _, rfl, (blk_at0 (by simp [hsx])).alloc _, blk_at0 (by simp [hsx]), ((blk_at0 (by simp [hsx])).alloc _).alloc _, by omega, by omega, by omega, by omega, by omega, by omega, below_drew ((((Below.refl _ _).alloc (Nat.le_refl _) _).alloc (base_alloc (Nat.le_refl _) _) _).alloc (base_alloc (base_alloc (Nat.le_refl _) _) _) _)⟩
        | exact ⟨_, _, _, rfl, blk_at0 (by simp [hsx]), ((blk_at0 (by simp [hsx])).alloc _).alloc _, (blk_at0 (by simp [hsx])).alloc _, by omega, by omega, by omega, by omega, by omega, by omega, below_drew ((((Below.refl _ _).alloc (Nat.le_refl _) _).alloc (base_alloc (Nat.le_refl _) _) _).alloc (base_alloc (base_alloc (Nat.le_refl _) _) _) _)⟩
        | exact ⟨_, _, _, rfl, blk_at0 (by simp [hsx]), (blk_at0 (by simp [hsx])).alloc _, ((blk_at0 (by simp [hsx])).alloc _).alloc _, by omega, by omega, by omega, by omega, by omega, by omega, below_drew ((((Below.refl _ _).alloc (Nat.le_refl _) _).alloc (base_alloc (Nat.le_refl _) _) _).alloc (base_alloc (base_alloc (Nat.le_refl _) _) _) _)⟩
  case rest =>
    obtain ⟨g1, g2, gf, rfl, hBf, hB1, hB2, n12, n1f, n2f, l1, l2, lf, hbd⟩ := hcut
    have hbw0 : Below w.heap.size w wc := hbx.trans (hbd.mono hbx.size)
    have HBF0 := Lib.hid hBf
    have HB10 := Lib.hid (show Blk wc g1 5 (0, 0) (octV (fileB size (L.take 0))).toArray by rw [show L.take 0 = [] from rfl, ← HC1.out]; exact hB1)
    have HB20 := Lib.hid (show Blk wc g2 4 (0, 0) (boolV (fileT size (L.take 0))).toArray by rw [show L.take 0 = [] from rfl, ← HC2.out]; exact hB2)
    clear hBf hB1 hB2 hm1 hm2
    go_wp2
    go_loopw [5, 6] (fun i _ wr => ∃ k : Nat, k ≤ n ∧ i = .int .i64 k ∧ Blk wr gf 36 (0, 0) #[.slice (some ⟨g1, 0, none⟩) size size, .slice (some ⟨g2, 0, none⟩) z z] ∧ Blk wr g1 5 (0, 0) (octV (fileB size (L.take k))).toArray ∧ Blk wr g2 4 (0, 0) (boolV (fileT size (L.take k))).toArray ∧ Below wx.heap.size wx wr) (fun i _ _ => n - (intOf i).toNat)
    case atStart => exact ⟨0, Nat.zero_le _, rfl, HBF0.out, HB10.out, HB20.out, hbd⟩
    case round =>
      obtain ⟨k, hk, rfl, hBf, hB1, hB2, hbr⟩ := hrel
      have hbw := hbx.trans (hbr.mono hbx.size)
      obtain ⟨q0, q1, _, _⟩ := blk2 (HX0.out.below hbr HX0.out.lt)
      by_cases hlt : k < n
      · obtain ⟨g, o, x, Ab, cb, hA, hg, hx, c0, c1, hb1, hb2, hbn, hrb⟩ := (H.out.below hbw).at_ hlt
        obtain ⟨N0, l⟩ := x
        simp only at c0 c1 hb1 hrb
        have hmem : (N0, l) ∈ L := List.mem_iff_getElem?.2 ⟨k, hx⟩
        obtain ⟨hN0, hl128⟩ := HST.out.2 _ hmem
        have hNz := HOK.out.2.2.2.1 _ hmem
        simp only at hN0 hl128 hNz
        obtain ⟨N, rfl⟩ := Int.eq_ofNat_of_zero_le hN0
        have hNz2 : N < z := by have := HZ.out; omega
        have HNEW := Lib.hid (take_new HST.out.1 hx)
        have HTS := Lib.hid (take_snoc L k _ hx)
        have HXK := Lib.hid hx
        have HL8 := Lib.hid hl128
        have hTl : (fileT size (L.take k)).length = z := by unfold fileT; rw [tab_len]; exact HZ.out
        obtain ⟨fl, hfl⟩ : ∃ fl, (fileT size (L.take k))[N]? = some fl := ⟨_, List.getElem?_eq_getElem (by rw [hTl]; exact hNz2)⟩
        have t0 : wr.cell? ⟨g2, N, none⟩ = some (.bool fl) := by
          rw [hB2.cell, ← Array.getElem?_toList]
          show (boolV (fileT size (L.take k)))[N]? = _
          unfold boolV
          rw [List.getElem?_map, hfl]; rfl
        have t1 : wr.frozen? ⟨g2, N, none⟩ = false := by rw [hB2.frozen]; simp
        obtain ⟨b0, b1, _, _⟩ := blk2 hBf
        have i0 : (0 : Int) ≤ (k : Int) := Int.natCast_nonneg _
        have i1 : (k : Int) < (n : Int) := by omega
        have j0 : (0 : Int) ≤ (N : Int) := Int.natCast_nonneg _
        have j1 : (N : Int) < (z : Int) := by omega
        subst hA
        have HB1 := Lib.hid hB1
        have HB2 := Lib.hid hB2
        have HBF := Lib.hid hBf
        clear hB1 hB2 hBf hfl hTl hx
        go_upto_region 6 with fail
        go_cut [5] (fun s5 wd => s5 = .int .i64 (k : Int) ∧ wd = (wr.setCell ⟨g2, N, none⟩ (.bool true)).drew)
        case first =>
          go_region_with (fail)
          all_goals
            go_wp2_with fail
            go_meet
            exact ⟨rfl, rfl⟩
        case rest =>
          obtain ⟨rfl, hwd⟩ := hcut
          have HWD := Lib.hid hwd
          have hB2' : Blk wc g2 4 (0, 0) (boolV (fileT size (L.take (k + 1)))).toArray := by
            rw [HWD.out, HTS.out]
            have h1 := HB2.out.set_ N (.bool true)
            have h2 := flag_step (L.take k) N z l HNEW.out
            unfold fileT
            rw [HZ.out, ← h2]
            have h3 : (boolV ((tab z fun n => hasF (L.take k) (n : Int)).set N true)).toArray = (boolV (fileT size (L.take k))).toArray.setIfInBounds N (.bool true) := by
              unfold boolV fileT
              rw [HZ.out, List.map_set]
              simp
            rw [h3]
            exact h1
          have hB1' : Blk wc g1 5 (0, 0) (octV (tab size (ofB (L.take k) N l 0))).toArray := by
            rw [HWD.out, (tab_ext size _ _).2 fun i _ => ofB_zero (L.take k) N l i]
            exact HB1.out.far (by exact n12) _
          have hBf' : Blk wc gf 36 (0, 0) #[.slice (some ⟨g1, 0, none⟩) size size, .slice (some ⟨g2, 0, none⟩) z z] := by
            rw [HWD.out]
            exact HBF.out.far (by exact n2f.symm) _
          have hbc : Below wx.heap.size wx wc := by
            rw [HWD.out]
            exact below_drew (hbr.setCell l2 _)
          have HB1' := Lib.hid hB1'
          have HB2' := Lib.hid hB2'
          have HBf' := Lib.hid hBf'
          clear hB1' hB2' hBf' hwd t0 t1 b0 b1 q0 q1 c0 c1
          obtain ⟨wo, rfl⟩ : ∃ wo : World, wo = wr := ⟨wr, rfl⟩
          go_wp2
          go_loopw [6] (fun j wr2 => ∃ m : Nat, j = .int .i64 m ∧ m ≤ 128 ∧ Blk wr2 gf 36 (0, 0) #[.slice (some ⟨g1, 0, none⟩) size size, .slice (some ⟨g2, 0, none⟩) z z] ∧ Blk wr2 g1 5 (0, 0) (octV (tab size (ofB (L.take k) N l m))).toArray ∧ Blk wr2 g2 4 (0, 0) (boolV (fileT size (L.take (k + 1)))).toArray ∧ Below wx.heap.size wx wr2) (fun j _ => 128 - (intOf j).toNat)
          case atStart => exact ⟨0, rfl, by omega, HBf'.out, HB1'.out, HB2'.out, hbc⟩
          case round =>
            obtain ⟨m, rfl, hm, hBf, hB1, hB2, hb3⟩ := hrel
            have hbw2 := hbx.trans (hb3.mono hbx.size)
            obtain ⟨q0, q1, _, _⟩ := blk2 (HX0.out.below hb3 HX0.out.lt)
            obtain ⟨g', o', x', Ab', cb', hA', hg', hx', c0, c1, hb1', hb2', hbn', hrb'⟩ := (H.out.below hbw2).at_ hlt
            obtain ⟨rfl, rfl⟩ : g' = g ∧ o' = o := by injection hA' with e; injection e with e1 e2 _; exact ⟨e1.symm, e2.symm⟩
            have hx2 := hx'
            rw [HXK.out] at hx2
            injection hx2 with hx2
            subst hx2
            simp only at c0 c1 hb1' hrb'
            rw [HL8.out] at c1 hb1' hrb'
            have m0 : (0 : Int) ≤ (m : Int) := Int.natCast_nonneg _
            clear hA' hx' hrb
            by_cases hm2 : m < 128
            · have hd1 : decide (m < 128) = true := decide_eq_true hm2
              have m1 : (m : Int) < 128 := by omega
              by_cases hs2 : 128 * N + m < size
              · have hd2 : decide (128 * N + m < size) = true := decide_eq_true hs2
                obtain ⟨gb, ob, rfl, hgb, hcell0⟩ := hrb'.2 (by omega)
                obtain ⟨b, hb⟩ : ∃ b, l[m]? = some b := ⟨l[m]'(by rw [HL8.out]; exact hm2), List.getElem?_eq_getElem _⟩
                have hcell : wr.cell? ⟨gb, ob + m, none⟩ = some (.int .u8 b.toNat) := hcell0 m _ (by unfold octV; rw [List.getElem?_map, hb]; rfl)
                obtain ⟨x, hx⟩ : ∃ x, 128 * N + m = x := ⟨_, rfl⟩
                have hxs : x < size := by omega
                have x0 : (0 : Int) ≤ (x : Int) := Int.natCast_nonneg _
                have x1 : (x : Int) < (size : Int) := by omega
                have s0 : wr.cell? ⟨g1, x, none⟩ = some (.int .u8 (((tab size (ofB (L.take k) N l m))[x]?).getD 0).toNat) := by
                  rw [hB1.cell, ← Array.getElem?_toList]
                  show (octV _)[x]? = _
                  unfold octV
                  rw [List.getElem?_map, tab_get _ _ _ hxs]; rfl
                obtain ⟨old, hold⟩ : ∃ old : Int, ((((tab size (ofB (L.take k) N l m))[x]?).getD 0).toNat : Int) = old := ⟨_, rfl⟩
                rw [hold] at s0
                have s1 : wr.frozen? ⟨g1, x, none⟩ = false := by rw [hB1.frozen]; simp
                obtain ⟨b0, b1, _, _⟩ := blk2 hBf
                obtain ⟨bn, hbn2⟩ : ∃ bn, b.toNat = bn := ⟨_, rfl⟩
                rw [hbn2] at hcell
                have HB1 := Lib.hid hB1
                have HB2 := Lib.hid hB2
                have HBF := Lib.hid hBf
                have HB := Lib.hid hb
                have HBN := Lib.hid hbn2
                have HXX := Lib.hid hx
                have hxi : 128 * (N : Int) + (m : Int) = (x : Int) := by omega
                clear hB1 hB2 hBf hrb' hcell0 hb hbn2 hx hold
                go_wp2_with fail
                go_quiet (fail)
                go_wp2_with fail
                obtain ⟨wq, hwq⟩ : ∃ wq, wr.drewN nq = wq := ⟨_, rfl⟩
                have q0' : wq.cell? ⟨w.heap.size, 0, none⟩ = some (.int .i64 (size : Int)) := by rw [← hwq]; exact q0
                have q1' : wq.cell? ⟨w.heap.size, 1, none⟩ = some (.slice (some ⟨g', o', none⟩) n c) := by rw [← hwq]; exact q1
                have c0' : wq.cell? ⟨g', o' + k * 2, none⟩ = some (.int .i64 (N : Int)) := by rw [← hwq]; exact c0
                have c1' : wq.cell? ⟨g', o' + k * 2 + 1, none⟩ = some (.slice (some ⟨gb, ob, none⟩) 128 cb') := by rw [← hwq]; exact c1
                have s0' : wq.cell? ⟨g1, x, none⟩ = some (.int .u8 old) := by rw [← hwq]; exact s0
                have s1' : wq.frozen? ⟨g1, x, none⟩ = false := by rw [← hwq]; exact s1
                have b0' : wq.cell? ⟨gf, 0, none⟩ = some (.slice (some ⟨g1, 0, none⟩) size size) := by rw [← hwq]; exact b0
                have hcell' : wq.cell? ⟨gb, ob + m, none⟩ = some (.int .u8 (bn : Int)) := by rw [← hwq]; exact hcell
                have HB1q : Hid (Blk wq g1 5 (0, 0) (octV (tab size (ofB (L.take k) N l m))).toArray) := Lib.hid (by rw [← hwq]; exact HB1.out.drewN _)
                have HB2q : Hid (Blk wq g2 4 (0, 0) (boolV (fileT size (L.take (k + 1)))).toArray) := Lib.hid (by rw [← hwq]; exact HB2.out.drewN _)
                have HBFq : Hid (Blk wq gf 36 (0, 0) #[.slice (some ⟨g1, 0, none⟩) size size, .slice (some ⟨g2, 0, none⟩) z z]) := Lib.hid (by rw [← hwq]; exact HBF.out.drewN _)
                have hbq : Below wx.heap.size wx wq := by rw [← hwq]; exact below_drewN hb3 _
                rw [hwq]
                clear hwq q0 q1 c0 c1 s0 s1 b0 b1 hcell
                obtain ⟨W, hW⟩ : ∃ W, (wq.setCell ⟨g1, x, none⟩ (.int .u8 (bn : Int))).drew = W := ⟨_, rfl⟩
                have HN0 : Hid (Blk W gf 36 (0, 0) #[.slice (some ⟨g1, 0, none⟩) size size, .slice (some ⟨g2, 0, none⟩) z z]) := Lib.hid (by rw [← hW]; exact HBFq.out.far (by exact n1f.symm) _)
                have HN1 : Hid (Blk W g1 5 (0, 0) (octV (tab size (ofB (L.take k) N l (m + 1)))).toArray) := Lib.hid (by
                  rw [← hW]
                  have h1 := HB1q.out.set_ x (.int .u8 (bn : Int))
                  have h2 := ofB_step (L.take k) N m size l b HB.out
                  rw [HXX.out] at h2
                  rw [← h2]
                  have h3 : (octV ((tab size (ofB (L.take k) N l m)).set x b)).toArray = (octV (tab size (ofB (L.take k) N l m))).toArray.setIfInBounds x (.int .u8 (bn : Int)) := by
                    unfold octV
                    rw [List.map_set, HBN.out]
                    simp
                  rw [h3]
                  exact h1)
                have HN2 : Hid (Blk W g2 4 (0, 0) (boolV (fileT size (L.take (k + 1)))).toArray) := Lib.hid (by rw [← hW]; exact HB2q.out.far (by exact n12.symm) _)
                have HN3 : Hid (Below wx.heap.size wx W) := Lib.hid (by rw [← hW]; exact below_drew (hbq.setCell l1 _))
                have HW := Lib.hid hW
                clear hW hbq
                have hwx1 : IntKind.i64.wrap (x : Int) = x := IntWalk.i64_in _ ⟨by omega, by omega⟩
                have hwx2 : IntKind.i64.wrap (128 * (N : Int)) = 128 * (N : Int) := IntWalk.i64_in _ ⟨by omega, by omega⟩
                go_still_tail 21, (by kernel_rfl)
                change wpList _ _ _ _ _ wq.drew
                go_wp2
                rw [HW.out]
                go_roundw
                case rel => exact ⟨m + 1, by go_num, by omega, HN0.out, HN1.out, HN2.out, HN3.out⟩
                case measure => simp [intOf]; omega
              · have hd2 : decide (128 * N + m < size) = false := decide_eq_false hs2
                have he := ofB_end (L.take k) N m size l HNEW.out hm (.inr (by omega))
                rw [he, ← HTS.out] at hB1
                have HB1 := Lib.hid hB1
                have HB2 := Lib.hid hB2
                have HBF := Lib.hid hBf
                clear hB1 hB2 hBf he hrb'
                go_wp2_with fail
                go_quiet (fail)
                go_wp2
                go_roundw
                case rel => exact ⟨k + 1, by omega, by go_num, HBF.out.drewN _, HB1.out.drewN _, HB2.out.drewN _, below_drewN hb3 _⟩
                case measure => simp [intOf]; omega
            · obtain rfl : m = 128 := by omega
              have he := ofB_end (L.take k) N 128 size l HNEW.out hm (.inl rfl)
              rw [he, ← HTS.out] at hB1
              have HB1 := Lib.hid hB1
              have HB2 := Lib.hid hB2
              have HBF := Lib.hid hBf
              clear hB1 hB2 hBf he hrb' hm
              go_wp2_with fail
              go_quiet (fail)
              go_wp2
              go_roundw
              case rel => exact ⟨k + 1, by omega, by go_num, HBF.out.drewN _, HB1.out.drewN _, HB2.out.drewN _, below_drewN hb3 _⟩
              case measure => simp [intOf]; omega
      · obtain rfl : k = n := by omega
        have hfull : L.take k = L := List.take_of_length_le (by rw [H.out.count]; exact Nat.le_refl _)
        rw [hfull] at hB1 hB2
        have hR := HX1.out.below hbr HX1.out.lt
        have hlr : w.heap.size + 1 < wx.heap.size := by omega
        obtain ⟨b0, b1, _, _⟩ := blk2 hBf
        obtain ⟨e0, e1, _, _⟩ := blk2 hR
        obtain ⟨wv, hwv⟩ : ∃ wv, (wr.setCell ⟨w.heap.size + 1, 0, none⟩ (.slice (some ⟨g1, 0, none⟩) size size)).setCell ⟨w.heap.size + 1, 1, none⟩ (.slice (some ⟨g2, 0, none⟩) z z) = wv := ⟨_, rfl⟩
        have hRv : Blk wv (w.heap.size + 1) 36 (0, 0) #[.slice (some ⟨g1, 0, none⟩) size size, .slice (some ⟨g2, 0, none⟩) z z] := by
          rw [← hwv]; exact (hR.set_ 0 (.slice (some ⟨g1, 0, none⟩) size size)).set_ 1 (.slice (some ⟨g2, 0, none⟩) z z)
        have k1 : Blk wv g1 5 (0, 0) (octV (fileB size L)).toArray := by
          rw [← hwv]; exact (hB1.far (by show g1 ≠ w.heap.size + 1; omega) _).far (by show g1 ≠ w.heap.size + 1; omega) _
        have k2 : Blk wv g2 4 (0, 0) (boolV (fileT size L)).toArray := by
          rw [← hwv]; exact (hB2.far (by show g2 ≠ w.heap.size + 1; omega) _).far (by show g2 ≠ w.heap.size + 1; omega) _
        have hbv : Below w.heap.size w wv := by
          rw [← hwv]; exact (hbw.setCell (by show w.heap.size ≤ w.heap.size + 1; omega) _).setCell (by show w.heap.size ≤ w.heap.size + 1; omega) _
        obtain ⟨r0, r1, _, _⟩ := blk2 hRv
        have HK1 := Lib.hid k1
        have HK2 := Lib.hid k2
        have hsz1 := k1.lt
        have hsz2 := k2.lt
        clear k1 k2 hRv hB1 hB2 hR hBf
        subst hwv
        go_wp2
        exact bodyPost_ret (v := .agg #[.slice (some ⟨g1, 0, none⟩) size size, .slice (some ⟨g2, 0, none⟩) z z]) (by simp [results, Try.results13, go_sem, r0, r1]) rfl ⟨⟨g1, g2, rfl, hsz1, hsz2, by omega, by omega, n12, HK1.out, HK2.out⟩, hbv⟩
end Go.Proofs.Ytpofkkoiicdpbaa
