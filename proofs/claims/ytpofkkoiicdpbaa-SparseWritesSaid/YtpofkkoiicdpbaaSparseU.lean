/-
  Walk: the document's need and May; the law's none.
-/
import Derived.Test.YtpofkkoiicdpbaaSparseF
namespace Go.Proofs.Ytpofkkoiicdpbaa
open Go.RowKit
set_option linter.unusedVariables false

theorem rNeed_any (size : Int) (w : World) (h0 : 0 ≤ size) (h1 : size ≤ 463488) :
    Calls Try.prog 27 #[.int .i64 size] w fun e w' => e = .returned (.int .i64 (needN size)) ∧ w = w' := by
  go_enter Try.func27, Try.ntmps27
  go_wp2
  go_loopw [3] (fun v wr => ∃ k : Nat, v = .int .i64 k ∧ 128 * (k : Int) ≤ size + 127 ∧ w = wr) (fun v _ => 3700 - (intOf v).toNat)
  case atStart => exact ⟨0, rfl, by omega, rfl⟩
  case round =>
    obtain ⟨k, rfl, hk, rfl⟩ := hrel
    by_cases hlt : 128 * (k : Int) < size
    · go_wp2
      go_roundw
      case rel => exact ⟨k + 1, by go_num, by omega, by first | rfl | trivial⟩
      case measure => simp [intOf]; omega
    · have hk2 : needN size = k := by unfold needN; split <;> omega
      have HK2 := Lib.hid hk2
      clear hk2
      go_wp2
      go_ret
      exact ⟨by rw [HK2.out]; rfl, rfl⟩
theorem tailZ_at (size N : Int) (l : List UInt8) (h : 128 * N < size) : tailZ size (N, l) = true ↔ ∀ (i : Nat) (b : UInt8), l[i]? = some b → size ≤ 128 * N + i → b = 0 := by
  unfold tailZ
  rw [List.all_eq_true]
  simp only [decide_eq_true_eq]
  obtain ⟨e, he⟩ : ∃ e : Nat, size - 128 * N = (e : Int) := ⟨(size - 128 * N).toNat, by omega⟩
  rw [show (size - 128 * N).toNat = e from by omega]
  constructor
  · intro hh i b hb hs
    refine hh b (List.mem_iff_getElem?.2 ⟨i - e, ?_⟩)
    rw [List.getElem?_drop, show e + (i - e) = i from by omega]
    exact hb
  · intro hh b hb
    obtain ⟨j, hj⟩ := List.mem_iff_getElem?.1 hb
    rw [List.getElem?_drop] at hj
    exact hh _ b hj (by omega)
theorem none_any (size : Int) (A : Option Addr) (n c : Nat) (w : World) :
    Calls Try.prog 14 #[.agg #[.int .i64 size, .slice A n c]] w fun e w' => e = .returned (.bool (decide (size = 0) && decide (n = 0))) ∧ Below w.heap.size w w' := by
  by_cases h0 : size = 0
  · by_cases h1 : n = 0
    · subst h0 h1
      go_enter Try.func14, Try.ntmps14
      go_wp2
      go_ret
      exact ⟨rfl, (Below.refl _ _).alloc (Nat.le_refl _) _⟩
    · have hn : ((n : Int) == 0) = false := by rw [beq_eq_false_iff_ne]; omega
      rw [decide_eq_false h1, Bool.and_false]
      subst h0
      go_enter Try.func14, Try.ntmps14
      go_wp2
      go_ret
      exact ⟨rfl, (Below.refl _ _).alloc (Nat.le_refl _) _⟩
  · rw [decide_eq_false h0, Bool.false_and]
    go_enter Try.func14, Try.ntmps14
    go_wp2
    go_ret
    exact ⟨rfl, (Below.refl _ _).alloc (Nat.le_refl _) _⟩

set_option maxHeartbeats 4000000 in
set_option maxRecDepth 100000 in
theorem rMay_any (size : Int) (A : Option Addr) (n c : Nat) (L : List Pc) (w : World) (h : IsP w w.heap.size A n c L) (hs : size ≤ 9223372036854775807) (hn : n ≤ 1000000) :
    Calls Try.prog 11 #[.agg #[.int .i64 size, .slice A n c]] w fun e w' => e = .returned (.bool (okF size L)) ∧ Below w.heap.size w w' := by
  by_cases h1 : size < 0
  · have he : okF size L = false := by unfold okF; rw [decide_eq_false (by omega)]; rfl
    rw [he]
    clear he h
    go_enter Try.func11, Try.ntmps11
    go_wp2
    go_ret
    exact ⟨rfl, (Below.refl _ _).alloc (Nat.le_refl _) _⟩
  by_cases h2 : 463488 < size
  · have he : okF size L = false := by unfold okF; rw [decide_eq_false (p := size ≤ 463488) (by omega), Bool.and_false]; rfl
    rw [he]
    clear he h
    go_enter Try.func11, Try.ntmps11
    go_wp2
    go_ret
    exact ⟨rfl, (Below.refl _ _).alloc (Nat.le_refl _) _⟩
  have he : okF size L = goodF size (-1) L := by unfold okF; rw [decide_eq_true (by omega), decide_eq_true (by omega)]; rfl
  rw [he]
  obtain ⟨z, hz⟩ : ∃ z, needN size = z := ⟨_, rfl⟩
  have hz0 : 0 ≤ z ∧ z ≤ 3621 ∧ z = (size + 127) / 128 ∧ 128 * z ≤ size + 127 := by rw [← hz]; unfold needN; split <;> omega
  obtain ⟨z0, z1, hz2, z3⟩ := hz0
  have s0 : 0 ≤ size := by omega
  have s1 : size ≤ 463488 := by omega
  have hS : ∀ W, Calls Try.prog 27 #[.int .i64 size] W fun e w' => e = .returned (.int .i64 z) ∧ W = w' := fun W => by rw [← hz]; exact rNeed_any size W s0 s1
  have HZ2 := Lib.hid hz2
  have H := Lib.hid h
  have HLN := Lib.hid h.count
  have HS := Lib.hid hS
  clear he h h1 h2 hz hz2 hS
  go_enter Try.func11, Try.ntmps11
  go_wp2_with fail
  refine (HS.out _).mono ?_
  rintro e w0' ⟨rfl, rfl⟩
  go_wp2
  go_loopw [4, 5, 6] (fun i _ _ wr => ∃ (k : Nat) (last : Int), k ≤ n ∧ i = .int .i64 k ∧ Hid (last = lastP (-1) (L.take k)) ∧ Hid (goodF size (-1) (L.take k) = true) ∧ -1 ≤ last ∧ (k = 0 → last = -1) ∧ Blk wr w.heap.size 24 (0, 0) #[.int .i64 size, .slice A n c] ∧ Below w.heap.size w wr) (fun i _ _ _ => n - (intOf i).toNat)
  case atStart => exact ⟨0, -1, Nat.zero_le _, rfl, Lib.hid rfl, Lib.hid rfl, by omega, fun _ => rfl, Blk.new _ _ _ _, (Below.refl _ _).alloc (Nat.le_refl _) _⟩
  case round =>
    obtain ⟨k, last, hk, rfl, HLA, HG, hl1, hk0, hB, hbw⟩ := hrel
    by_cases hlt : k < n
    · obtain ⟨g, o, x, Ab, cb, hA, hg, hx, c0, c1, hb1, hb2, hbn, hrb⟩ := (H.out.below hbw).at_ hlt
      obtain ⟨N, l⟩ := x
      simp only at c0 c1 hb1 hrb
      obtain ⟨lb, hlb⟩ : ∃ lb, l.length = lb := ⟨_, rfl⟩
      rw [hlb] at c1 hb1 hrb
      obtain ⟨d0, d1, f0, f1⟩ := blk2 hB
      have HGT := Lib.hid (goodF_take size (-1) L k (N, l) hx)
      have HGB := Lib.hid (goodF_bad size (-1) L k (N, l) hx)
      have HLT := Lib.hid (lastP_take (-1) L k (N, l) hx)
      have HB := Lib.hid hB
      have HLB := Lib.hid hlb
      have i0 : (0 : Int) ≤ (k : Int) := Int.natCast_nonneg _
      have i1 : (k : Int) < (n : Int) := by omega
      unfold maxLen at hb2
      have hbs := hbw.size
      obtain ⟨wx, hwx⟩ : ∃ wx, wr.alloc (.cells #[.int .i64 N, .slice Ab lb cb] 62) = wx := ⟨_, rfl⟩
      have hbx : Below wr.heap.size wr wx := by rw [← hwx]; exact (Below.refl _ _).alloc (Nat.le_refl _) _
      obtain ⟨y0, y1, _, _⟩ := blk2 (show Blk wx wr.heap.size 62 (0, 0) #[.int .i64 N, .slice Ab lb cb] by rw [← hwx]; exact Blk.new _ _ _ _)
      have hsb := hB.lt
      have x0 : wx.cell? ⟨w.heap.size, 0, none⟩ = some (.int .i64 size) := (hbx.cell (p := ⟨w.heap.size, 0, none⟩) hsb).trans d0
      have x1 : wx.cell? ⟨w.heap.size, 1, none⟩ = some (.slice A n c) := (hbx.cell (p := ⟨w.heap.size, 1, none⟩) hsb).trans d1
      have hprev : k = 0 ∨ ∃ k' : Nat, (k : Int) - 1 = (k' : Int) ∧ (0 : Int) < (k : Int) ∧ k' < n ∧ wx.cell? ⟨g, o + k' * 2, none⟩ = some (.int .i64 last) := by
        by_cases hkz : k = 0
        · exact .inl hkz
        · obtain ⟨k', rfl⟩ : ∃ k', k = k' + 1 := ⟨k - 1, by omega⟩
          obtain ⟨g', o', x', Ab', cb', hA', hg', hx', c0', _⟩ := (H.out.below hbw).at_ (show k' < n by omega)
          rw [hA] at hA'
          obtain ⟨rfl, rfl⟩ : g' = g ∧ o' = o := by injection hA' with e; injection e with e1 e2 _; exact ⟨e1.symm, e2.symm⟩
          refine .inr ⟨k', by omega, by omega, by omega, ?_⟩
          have hl : last = x'.1 := by rw [HLA.out]; exact lastP_take (-1) L k' x' hx'
          rw [hl]
          exact (hbx.cell (p := ⟨g', o' + k' * 2, none⟩) (by show g' < _; omega)).trans c0'
      have HWX := Lib.hid hwx
      have hbw2 := hbw.trans (hbx.mono hbs)
      have hbadP : N ≤ last ∨ z ≤ N ∨ lb ≠ 128 → goodF size (-1) L = false := fun hc => HGB.out (by
        unfold goodP
        rw [← HLA.out, ← HZ2.out, HLB.out]
        rcases hc with hc | hc | hc
        · rw [decide_eq_false (p := last < N) (by omega)]; rfl
        · rw [decide_eq_false (p := N < z) (by omega)]; simp
        · rw [decide_eq_false (p := lb = 128) hc]; simp)
      have HBD := Lib.hid hbadP
      subst hA
      clear hB hx hlb hwx hbadP
      by_cases g0 : N < 0
      · have hd0 : decide (N < 0) = true := decide_eq_true g0
        clear hprev
        have HF := Lib.hid (HBD.out (.inl (by omega)))
        go_wp2_with fail
        rw [HWX.out]
        go_quiet (fail)
        go_wp2
        go_ret
        exact ⟨ret_bool HF.out.symm, below_drewN hbw2 _⟩
      have hd0 : decide (N < 0) = false := decide_eq_false g0
      by_cases g1 : z ≤ N
      · have hd1 : decide (z ≤ N) = true := decide_eq_true g1
        clear hprev
        have HF := Lib.hid (HBD.out (.inr (.inl g1)))
        go_wp2_with fail
        rw [HWX.out]
        go_quiet (fail)
        go_wp2
        go_ret
        exact ⟨ret_bool HF.out.symm, below_drewN hbw2 _⟩
      have hd1 : decide (z ≤ N) = false := decide_eq_false g1
      rcases hprev with hkz | ⟨k', hk1, hkp, hkn, hpc⟩
      · have hlast := hk0 hkz
        have hdk : decide (0 < k) = false := decide_eq_false (by omega)
        have hg2 : ¬ N ≤ last := by omega
        clear hkz hk0
        by_cases g3 : lb = 128
        · subst g3
          obtain ⟨gb, ob, rfl, hgb, hcell0⟩ := hrb.2 (by omega)
          have HRB := Lib.hid hrb
          have n2 : 128 * N < size := by omega
          have n3 : N < 3621 := by omega
          have hgd : goodP size last (N, l) = tailZ size (N, l) := by
            unfold goodP
            rw [← HZ2.out, HLB.out, decide_eq_true (p := last < N) (by omega), decide_eq_true (p := N < z) (by omega)]; simp
          have HGD := Lib.hid hgd
          have HTZ := Lib.hid (tailZ_at size N l n2)
          clear hcell0 hrb hgd
          go_wp2_with fail
          rw [HWX.out]
          go_quiet (fail)
          obtain ⟨wq, hwq⟩ : ∃ wq, wx.drewN nq = wq := ⟨_, rfl⟩
          have hbq : Below wr.heap.size wr wq := by rw [← hwq]; exact below_drewN hbx _
          have hsq : wx.heap.size = wq.heap.size := by rw [← hwq]; rfl
          have q0 : wq.cell? ⟨w.heap.size, 0, none⟩ = some (.int .i64 size) := by rw [← hwq]; exact x0
          have q1 : wq.cell? ⟨w.heap.size, 1, none⟩ = some (.slice (some ⟨g, o, none⟩) n c) := by rw [← hwq]; exact x1
          have q2 : wq.cell? ⟨wr.heap.size, 0, none⟩ = some (.int .i64 N) := by rw [← hwq]; exact y0
          have q3 : wq.cell? ⟨wr.heap.size, 1, none⟩ = some (.slice (some ⟨gb, ob, none⟩) 128 cb) := by rw [← hwq]; exact y1
          rw [hwq]
          have hbw3 := hbw.trans (hbq.mono hbs)
          have HBQ := Lib.hid (HB.out.below hbq hsb)
          have HRQ := Lib.hid (HRB.out.below (hbq.mono hbs))
          clear hwq x0 x1 y0 y1 hbx hbw2
          obtain ⟨wo, hwo⟩ : ∃ wo : World, wo = wr := ⟨wr, rfl⟩
          subst hwo
          go_wp2
          go_loopw [6] (fun j wr2 => ∃ m : Nat, j = .int .i64 m ∧ m ≤ 128 ∧ Hid (∀ (i : Nat) (b : UInt8), i < m → l[i]? = some b → size ≤ 128 * N + i → b = 0) ∧ wr2 = wq) (fun j _ => 128 - (intOf j).toNat)
          case atStart => exact ⟨0, rfl, by omega, Lib.hid (fun i b hi => absurd hi (by omega)), rfl⟩
          case round =>
            obtain ⟨m, rfl, hm, HM, hwr2⟩ := hrel
            cases hwr2
            by_cases hlt2 : m < 128
            · obtain ⟨g2, o2, u, hA2, hg2, hu, hcell⟩ := HRQ.out.at_ (k := m) (j := 0) hlt2 (by omega)
              injection hA2 with e
              injection e with e1 e2 _
              subst e1 e2
              rw [Nat.mul_one, Nat.add_zero] at hu hcell
              obtain ⟨b, hb⟩ : ∃ b, l[m]? = some b := ⟨l[m]'(by rw [HLB.out]; exact hlt2), List.getElem?_eq_getElem _⟩
              have hu2 : u = .int .u8 b.toNat := by
                unfold octV at hu
                rw [List.getElem?_map, hb] at hu
                exact (Option.some.inj hu).symm
              subst hu2
              have j0 : (0 : Int) ≤ (m : Int) := Int.natCast_nonneg _
              have j1 : (m : Int) < 128 := by omega
              obtain ⟨bn, hbn2⟩ : ∃ bn, b.toNat = bn := ⟨_, rfl⟩
              have hb255 : bn < 256 := by rw [← hbn2]; exact b.toNat_lt
              rw [hbn2] at hcell
              have HB2 := Lib.hid hb
              have HBN := Lib.hid hbn2
              clear hb hbn2 hu
              by_cases g5 : size ≤ 128 * N + m
              · have hd5 : decide (size ≤ 128 * N + (m : Int)) = true := decide_eq_true g5
                by_cases g6 : bn = 0
                · have HM2 : Hid (∀ (i : Nat) (b : UInt8), i < m + 1 → l[i]? = some b → size ≤ 128 * N + i → b = 0) := Lib.hid (fun i b' hi hb' hs' => by
                    by_cases him : i = m
                    · subst him
                      rw [HB2.out] at hb'
                      injection hb' with hb'
                      subst hb'
                      exact UInt8.toNat_inj.1 (by rw [HBN.out, g6]; rfl)
                    · exact HM.out i b' (by omega) hb' hs')
                  subst g6
                  go_wp2
                  go_roundw
                  case rel => exact ⟨m + 1, by go_num, by omega, HM2, by first | rfl | trivial⟩
                  case measure => simp [intOf]; omega
                · have hne : ((bn : Int) != 0) = true := by rw [bne_iff_ne]; omega
                  have HF : Hid (goodF size (-1) L = false) := Lib.hid (HGB.out (by
                    rw [← HLA.out, HGD.out]
                    cases ht : tailZ size (N, l) with
                    | false => rfl
                    | true =>
                      have h0 := HTZ.out.1 ht m b HB2.out g5
                      rw [h0] at HBN
                      exact absurd HBN.out.symm g6))
                  go_wp2
                  go_ret
                  exact ⟨ret_bool HF.out.symm, hbw3⟩
              · have hd5 : decide (size ≤ 128 * N + (m : Int)) = false := decide_eq_false g5
                have HM2 : Hid (∀ (i : Nat) (b : UInt8), i < m + 1 → l[i]? = some b → size ≤ 128 * N + i → b = 0) := Lib.hid (fun i b' hi hb' hs' => by
                  by_cases him : i = m
                  · subst him; omega
                  · exact HM.out i b' (by omega) hb' hs')
                go_wp2
                go_roundw
                case rel => exact ⟨m + 1, by go_num, by omega, HM2, by first | rfl | trivial⟩
                case measure => simp [intOf]; omega
            · obtain rfl : m = 128 := by omega
              have HF : Hid (goodF size (-1) (L.take (k + 1)) = true) := Lib.hid (by
                rw [HGT.out, HG.out, ← HLA.out, HGD.out, HTZ.out.2 (fun i b hb hs' => HM.out i b (by have := (List.getElem?_eq_some_iff.1 hb).1; rw [HLB.out] at this; exact this) hb hs')]; rfl)
              go_wp2
              go_roundw
              case rel => exact ⟨k + 1, N, by omega, by go_num, Lib.hid HLT.out.symm, HF, by omega, fun h => by omega, HBQ.out, hbw3⟩
              case measure => simp [intOf]; omega
        · have g3' : ((lb : Int) != 128) = true := by rw [bne_iff_ne]; omega
          have HF := Lib.hid (HBD.out (.inr (.inr g3)))
          go_wp2_with fail
          rw [HWX.out]
          go_quiet (fail)
          go_wp2
          go_ret
          exact ⟨ret_bool HF.out.symm, below_drewN hbw2 _⟩
      · have k0' : (0 : Int) ≤ (k' : Int) := Int.natCast_nonneg _
        have k1' : (k' : Int) < (n : Int) := by omega
        have hdk : decide (0 < k) = true := decide_eq_true (by omega)
        clear hkp hk0
        have hwk : IntKind.i64.wrap (k' : Int) = k' := IntWalk.i64_in _ ⟨by omega, by omega⟩
        by_cases g2 : N ≤ last
        · have hd2 : decide (N ≤ last) = true := decide_eq_true g2
          have HF := Lib.hid (HBD.out (.inl g2))
          go_wp2_with fail
          rw [HWX.out]
          go_quiet (fail)
          go_wp2
          go_ret
          exact ⟨ret_bool HF.out.symm, below_drewN hbw2 _⟩
        · have hd2 : decide (N ≤ last) = false := decide_eq_false g2
          by_cases g3 : lb = 128
          · subst g3
            obtain ⟨gb, ob, rfl, hgb, hcell0⟩ := hrb.2 (by omega)
            have HRB := Lib.hid hrb
            have n2 : 128 * N < size := by omega
            have n3 : N < 3621 := by omega
            have hgd : goodP size last (N, l) = tailZ size (N, l) := by
              unfold goodP
              rw [← HZ2.out, HLB.out, decide_eq_true (p := last < N) (by omega), decide_eq_true (p := N < z) (by omega)]; simp
            have HGD := Lib.hid hgd
            have HTZ := Lib.hid (tailZ_at size N l n2)
            clear hcell0 hrb hgd
            go_wp2_with fail
            rw [HWX.out]
            go_quiet (fail)
            obtain ⟨wq, hwq⟩ : ∃ wq, wx.drewN nq = wq := ⟨_, rfl⟩
            have hbq : Below wr.heap.size wr wq := by rw [← hwq]; exact below_drewN hbx _
            have hsq : wx.heap.size = wq.heap.size := by rw [← hwq]; rfl
            have q0 : wq.cell? ⟨w.heap.size, 0, none⟩ = some (.int .i64 size) := by rw [← hwq]; exact x0
            have q1 : wq.cell? ⟨w.heap.size, 1, none⟩ = some (.slice (some ⟨g, o, none⟩) n c) := by rw [← hwq]; exact x1
            have q2 : wq.cell? ⟨wr.heap.size, 0, none⟩ = some (.int .i64 N) := by rw [← hwq]; exact y0
            have q3 : wq.cell? ⟨wr.heap.size, 1, none⟩ = some (.slice (some ⟨gb, ob, none⟩) 128 cb) := by rw [← hwq]; exact y1
            rw [hwq]
            have hbw3 := hbw.trans (hbq.mono hbs)
            have HBQ := Lib.hid (HB.out.below hbq hsb)
            have HRQ := Lib.hid (HRB.out.below (hbq.mono hbs))
            clear hwq x0 x1 y0 y1 hbx hbw2
            obtain ⟨wo, hwo⟩ : ∃ wo : World, wo = wr := ⟨wr, rfl⟩
            subst hwo
            go_wp2
            go_loopw [6] (fun j wr2 => ∃ m : Nat, j = .int .i64 m ∧ m ≤ 128 ∧ Hid (∀ (i : Nat) (b : UInt8), i < m → l[i]? = some b → size ≤ 128 * N + i → b = 0) ∧ wr2 = wq) (fun j _ => 128 - (intOf j).toNat)
            case atStart => exact ⟨0, rfl, by omega, Lib.hid (fun i b hi => absurd hi (by omega)), rfl⟩
            case round =>
              obtain ⟨m, rfl, hm, HM, hwr2⟩ := hrel
              cases hwr2
              by_cases hlt2 : m < 128
              · obtain ⟨g2, o2, u, hA2, hg2, hu, hcell⟩ := HRQ.out.at_ (k := m) (j := 0) hlt2 (by omega)
                injection hA2 with e
                injection e with e1 e2 _
                subst e1 e2
                rw [Nat.mul_one, Nat.add_zero] at hu hcell
                obtain ⟨b, hb⟩ : ∃ b, l[m]? = some b := ⟨l[m]'(by rw [HLB.out]; exact hlt2), List.getElem?_eq_getElem _⟩
                have hu2 : u = .int .u8 b.toNat := by
                  unfold octV at hu
                  rw [List.getElem?_map, hb] at hu
                  exact (Option.some.inj hu).symm
                subst hu2
                have j0 : (0 : Int) ≤ (m : Int) := Int.natCast_nonneg _
                have j1 : (m : Int) < 128 := by omega
                obtain ⟨bn, hbn2⟩ : ∃ bn, b.toNat = bn := ⟨_, rfl⟩
                have hb255 : bn < 256 := by rw [← hbn2]; exact b.toNat_lt
                rw [hbn2] at hcell
                have HB2 := Lib.hid hb
                have HBN := Lib.hid hbn2
                clear hb hbn2 hu
                by_cases g5 : size ≤ 128 * N + m
                · have hd5 : decide (size ≤ 128 * N + (m : Int)) = true := decide_eq_true g5
                  by_cases g6 : bn = 0
                  · have HM2 : Hid (∀ (i : Nat) (b : UInt8), i < m + 1 → l[i]? = some b → size ≤ 128 * N + i → b = 0) := Lib.hid (fun i b' hi hb' hs' => by
                      by_cases him : i = m
                      · subst him
                        rw [HB2.out] at hb'
                        injection hb' with hb'
                        subst hb'
                        exact UInt8.toNat_inj.1 (by rw [HBN.out, g6]; rfl)
                      · exact HM.out i b' (by omega) hb' hs')
                    subst g6
                    go_wp2
                    go_roundw
                    case rel => exact ⟨m + 1, by go_num, by omega, HM2, by first | rfl | trivial⟩
                    case measure => simp [intOf]; omega
                  · have hne : ((bn : Int) != 0) = true := by rw [bne_iff_ne]; omega
                    have HF : Hid (goodF size (-1) L = false) := Lib.hid (HGB.out (by
                      rw [← HLA.out, HGD.out]
                      cases ht : tailZ size (N, l) with
                      | false => rfl
                      | true =>
                        have h0 := HTZ.out.1 ht m b HB2.out g5
                        rw [h0] at HBN
                        exact absurd HBN.out.symm g6))
                    go_wp2
                    go_ret
                    exact ⟨ret_bool HF.out.symm, hbw3⟩
                · have hd5 : decide (size ≤ 128 * N + (m : Int)) = false := decide_eq_false g5
                  have HM2 : Hid (∀ (i : Nat) (b : UInt8), i < m + 1 → l[i]? = some b → size ≤ 128 * N + i → b = 0) := Lib.hid (fun i b' hi hb' hs' => by
                    by_cases him : i = m
                    · subst him; omega
                    · exact HM.out i b' (by omega) hb' hs')
                  go_wp2
                  go_roundw
                  case rel => exact ⟨m + 1, by go_num, by omega, HM2, by first | rfl | trivial⟩
                  case measure => simp [intOf]; omega
              · obtain rfl : m = 128 := by omega
                have HF : Hid (goodF size (-1) (L.take (k + 1)) = true) := Lib.hid (by
                  rw [HGT.out, HG.out, ← HLA.out, HGD.out, HTZ.out.2 (fun i b hb hs' => HM.out i b (by have := (List.getElem?_eq_some_iff.1 hb).1; rw [HLB.out] at this; exact this) hb hs')]; rfl)
                go_wp2
                go_roundw
                case rel => exact ⟨k + 1, N, by omega, by go_num, Lib.hid HLT.out.symm, HF, by omega, fun h => by omega, HBQ.out, hbw3⟩
                case measure => simp [intOf]; omega
          · have g3' : ((lb : Int) != 128) = true := by rw [bne_iff_ne]; omega
            have HF := Lib.hid (HBD.out (.inr (.inr g3)))
            go_wp2_with fail
            rw [HWX.out]
            go_quiet (fail)
            go_wp2
            go_ret
            exact ⟨ret_bool HF.out.symm, below_drewN hbw2 _⟩
    · obtain rfl : k = n := by omega
      have HT : Hid (goodF size (-1) L = true) := Lib.hid (by have := HG.out; rw [List.take_of_length_le (by rw [HLN.out]; omega)] at this; exact this)
      obtain ⟨d0, d1, f0, f1⟩ := blk2 hB
      go_wp2
      go_ret
      exact ⟨ret_bool HT.out.symm, hbw⟩
end Go.Proofs.Ytpofkkoiicdpbaa
