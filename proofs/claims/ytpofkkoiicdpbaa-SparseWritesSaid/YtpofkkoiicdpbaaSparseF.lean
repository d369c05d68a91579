/-
  Walks: may a file be (the program's).
-/
import Derived.Test.YtpofkkoiicdpbaaSparseE
namespace Go.Proofs.Ytpofkkoiicdpbaa
open Go.RowKit
set_option linter.unusedVariables false

theorem rd_drop {w : World} {B g o n : Nat} {l : List UInt8} (h : Rd w B 1 (some ⟨g, o, none⟩) n (octV l)) {k : Nat} (hk : k ≤ n) : Rd w B 1 (some ⟨g, o + k, none⟩) (n - k) (octV (l.drop k)) := by
  have hl := h.1
  rw [octV_len] at hl
  refine ⟨by rw [octV_len, List.length_drop]; omega, fun h0 => ?_⟩
  obtain ⟨g', o', e, hb, hc⟩ := h.2 (by omega)
  injection e with e
  injection e with e1 e2 _
  subst e1 e2
  refine ⟨g, o + k, rfl, hb, fun j u hu => ?_⟩
  rw [octV_drop, List.getElem?_drop] at hu
  rw [Nat.add_assoc]
  exact hc _ _ hu
theorem tail_count (l : List UInt8) (e : Nat) (hl : l.length = 128) : ((l.drop e).all fun b => decide (b = 0)) = decide ((l.drop e).count 0 = 128 - e) := by
  rw [Bool.eq_iff_iff, List.all_eq_true, decide_eq_true_eq]
  have hd : (l.drop e).length = 128 - e := by rw [List.length_drop, hl]
  rw [← hd, List.count_eq_length]
  constructor
  · intro h b hb; exact (of_decide_eq_true (h b hb)).symm
  · intro h b hb; exact decide_eq_true (h b hb).symm
theorem tail_small (size : Int) (p : Pc) (hl : p.2.length = 128) (h : 128 ≤ size - 128 * p.1) : tailZ size p = true := by
  unfold tailZ
  rw [List.drop_of_length_le (by omega)]; rfl

set_option maxHeartbeats 8000000 in
set_option maxRecDepth 100000 in
theorem May_any (size : Int) (A : Option Addr) (n c : Nat) (L : List Pc) (w : World) (h : IsP w w.heap.size A n c L) (hs : size ≤ 9223372036854775807) (hn : n ≤ 1000000) :
    Calls Try.prog 21 #[.agg #[.int .i64 size, .slice A n c]] w fun e w' => e = .returned (.bool (okF size L)) ∧ Below w.heap.size w w' := by
  by_cases h1 : size < 0
  · have he : okF size L = false := by unfold okF; rw [decide_eq_false (by omega)]; rfl
    rw [he]
    clear he h
    go_enter Try.func21, Try.ntmps21
    go_wp2
    go_ret
    exact ⟨rfl, (Below.refl _ _).alloc (Nat.le_refl _) _⟩
  · by_cases h2 : 463488 < size
    · have he : okF size L = false := by unfold okF; rw [decide_eq_false (p := size ≤ 463488) (by omega), Bool.and_false]; rfl
      rw [he]
      clear he h
      go_enter Try.func21, Try.ntmps21
      go_wp2
      go_ret
      exact ⟨rfl, (Below.refl _ _).alloc (Nat.le_refl _) _⟩
    · have he : okF size L = goodF size (-1) L := by unfold okF; rw [decide_eq_true (by omega), decide_eq_true (by omega)]; rfl
      rw [he]
      obtain ⟨z, hz⟩ : ∃ z, needN size = z := ⟨_, rfl⟩
      have hz0 : 0 ≤ z ∧ z ≤ 3621 ∧ z = (size + 127) / 128 ∧ 128 * z ≤ size + 127 := by rw [← hz]; unfold needN; split <;> omega
      obtain ⟨z0, z1, hz2, z3⟩ := hz0
      have HZ := Lib.hid hz
      have HZ2 := Lib.hid hz2
      have H := Lib.hid h
      have HLN := Lib.hid h.count
      have s0 : 0 ≤ size := by omega
      have s1 : size ≤ 463488 := by omega
      have hS : ∀ W, Calls Try.prog 31 #[.int .i64 size] W fun e w' => e = .returned (.int .i64 z) ∧ W = w' := fun W => by rw [← HZ.out]; exact Size_any size W (by omega)
      have HS := Lib.hid hS
      clear he h h1 h2 hz hz2 hS
      go_enter Try.func21, Try.ntmps21
      go_wp2
      go_loopw [3, 18] (fun ls i wr => ∃ (k : Nat) (last : Int), k ≤ n ∧ i = .int .i64 k ∧ ls = .int .i64 last ∧ Hid (last = lastP (-1) (L.take k)) ∧ Hid (goodF size (-1) (L.take k) = true) ∧ -1 ≤ last ∧ Blk wr w.heap.size 24 (0, 0) #[.int .i64 size, .slice A n c] ∧ Below w.heap.size w wr) (fun _ i _ => n - (intOf i).toNat)
      case atStart => exact ⟨0, -1, Nat.zero_le _, rfl, rfl, Lib.hid rfl, Lib.hid rfl, by omega, Blk.new _ _ _ _, (Below.refl _ _).alloc (Nat.le_refl _) _⟩
      case round =>
        obtain ⟨k, last, hk, rfl, rfl, HLA, HG, hl1, hB, hbw⟩ := hrel
        by_cases hlt : k < n
        · obtain ⟨g, o, x, Ab, cb, hA, hg, hx, c0, c1, hb1, hb2, hbn, hrb⟩ := (H.out.below hbw).at_ hlt
          obtain ⟨N, l⟩ := x
          simp only at c0 c1 hb1 hrb
          obtain ⟨lb, hlb⟩ : ∃ lb, l.length = lb := ⟨_, rfl⟩
          rw [hlb] at c1 hb1 hrb
          obtain ⟨d0, d1, f0, f1⟩ := blk2 hB
          have HGT := Lib.hid (goodF_take size (-1) L k (N, l) hx)
          have HGB := Lib.hid (goodF_bad size (-1) L k (N, l) hx)
          have HLT := Lib.hid (lastP_take (-1) L k (N, l) hx)
          have HB := Lib.hid hB
          have HLB := Lib.hid hlb
          have i0 : (0 : Int) ≤ (k : Int) := Int.natCast_nonneg _
          have i1 : (k : Int) < (n : Int) := by omega
          unfold maxLen at hb2
          have hbs := hbw.size
          obtain ⟨wx, hwx⟩ : ∃ wx, wr.alloc (.cells #[.int .i64 N, .slice Ab lb cb] 62) = wx := ⟨_, rfl⟩
          have hbx : Below wr.heap.size wr wx := by rw [← hwx]; exact (Below.refl _ _).alloc (Nat.le_refl _) _
          obtain ⟨y0, y1, _, _⟩ := blk2 (show Blk wx wr.heap.size 62 (0, 0) #[.int .i64 N, .slice Ab lb cb] by rw [← hwx]; exact Blk.new _ _ _ _)
          have hsb := hB.lt
          have x0 : wx.cell? ⟨w.heap.size, 0, none⟩ = some (.int .i64 size) := (hbx.cell (p := ⟨w.heap.size, 0, none⟩) hsb).trans d0
          have x1 : wx.cell? ⟨w.heap.size, 1, none⟩ = some (.slice A n c) := (hbx.cell (p := ⟨w.heap.size, 1, none⟩) hsb).trans d1
          have HWX := Lib.hid hwx
          have hbw2 := hbw.trans (hbx.mono hbs)
          have hbadP : N ≤ last ∨ z ≤ N ∨ lb ≠ 128 → goodF size (-1) L = false := fun hc => HGB.out (by
            unfold goodP
            rw [← HLA.out, ← HZ2.out, HLB.out]
            rcases hc with hc | hc | hc
            · rw [decide_eq_false (p := last < N) (by omega)]; rfl
            · rw [decide_eq_false (p := N < z) (by omega)]; simp
            · rw [decide_eq_false (p := lb = 128) hc]; simp)
          have HBD := Lib.hid hbadP
          subst hA
          clear hB hx hlb hwx hbadP
          by_cases g1 : N ≤ last
          · have HF := Lib.hid (HBD.out (.inl g1))
            have hd1 : decide (N ≤ last) = true := decide_eq_true g1
            go_wp2_with fail
            rw [HWX.out]
            go_quiet ((go_at_call 31; exact Calls.quiet_of_same ((HS.out _).mono fun _ _ h => ⟨h.1, h.2.symm⟩)))
            go_wp2
            go_ret
            exact ⟨ret_bool HF.out.symm, below_drewN hbw2 _⟩
          · have hd1 : decide (N ≤ last) = false := decide_eq_false g1
            by_cases g2 : z ≤ N
            · have HF := Lib.hid (HBD.out (.inr (.inl g2)))
              have hd2 : decide (z ≤ N) = true := decide_eq_true g2
              go_wp2_with fail
              rw [HWX.out]
              go_quiet ((go_at_call 31; exact Calls.quiet_of_same ((HS.out _).mono fun _ _ h => ⟨h.1, h.2.symm⟩)))
              go_wp2
              go_ret
              exact ⟨ret_bool HF.out.symm, below_drewN hbw2 _⟩
            · have hd2 : decide (z ≤ N) = false := decide_eq_false g2
              by_cases g3 : lb = 128
              · subst g3
                have n0 : 0 ≤ N := by omega
                have n1 : N < 3621 := by omega
                have n2 : 128 * N < size := by omega
                obtain ⟨gb, ob, rfl, hgb, hcell⟩ := hrb.2 (by omega)
                have HRB := Lib.hid hrb
                obtain ⟨e, he⟩ : ∃ e : Nat, size - N * 128 = (e : Int) := ⟨(size - N * 128).toNat, by omega⟩
                have hgd : goodP size last (N, l) = tailZ size (N, l) := by
                  unfold goodP
                  rw [← HZ2.out, HLB.out, decide_eq_true (p := last < N) (by omega), decide_eq_true (p := N < z) (by omega)]; simp
                have htz : tailZ size (N, l) = ((l.drop e).all fun b => decide (b = 0)) := by
                  unfold tailZ
                  rw [show (size - 128 * N).toNat = e from by omega]
                have he1 : 1 ≤ e := by omega
                have HE := Lib.hid he
                clear hcell hrb he
                have hNE := HBD
                by_cases g4 : e < 128
                · have htc := tail_count l e HLB.out
                  have hdr := rd_drop (HRB.out.below (hbx.mono hbs)) (show e ≤ 128 by omega)
                  have HDR := Lib.hid hdr
                  have e1 : size - N * 128 < 128 := by have := HE.out; omega
                  have e2 : 0 ≤ size - N * 128 := by have := HE.out; omega
                  have e3 : size - N * 128 ≤ (cb : Int) := by omega
                  have hd4 : decide (size - N * 128 < 128) = true := decide_eq_true e1
                  obtain ⟨ct, hct⟩ : ∃ ct, (l.drop e).count 0 = ct := ⟨_, rfl⟩
                  rw [hct] at htc
                  have HCT := Lib.hid hct
                  by_cases g5 : ct = 128 - e
                  · have HF : Hid (goodF size (-1) (L.take (k + 1)) = true) := Lib.hid (by rw [HGT.out, HG.out, ← HLA.out, hgd, htz, htc, decide_eq_true g5]; rfl)
                    have hd5 : ((ct : Int) != 128 - (e : Int)) = false := by rw [bne_eq_false_iff_eq]; omega
                    clear hct htc hdr hgd htz g5
                    go_wp2_with fail
                    rw [HWX.out]
                    go_quiet ((go_at_call 31; exact Calls.quiet_of_same ((HS.out _).mono fun _ _ h => ⟨h.1, h.2.symm⟩)))
                    go_wp2_with fail
                    rw [HE.out, Int.toNat_natCast]
                    have hC := Count_zero gb (ob + e) (128 - e) (cb - e) wx.heap.size (l.drop e) w.heap.size ((wx.drewN nq).alloc (.cells #[.int .u8 0] 5)) ((HDR.out.keep (w' := wx.drewN nq) (fun _ _ => rfl)).below ((Below.refl _ _).alloc (by show w.heap.size ≤ wx.heap.size; have := hbx.size; omega) _)) (new_cell (wx.drewN nq) _ _ _ 0 rfl)
                    rw [HCT.out] at hC
                    have HC := Lib.hid hC
                    have hb3 : Below wr.heap.size wr ((wx.drewN nq).alloc (.cells #[.int .u8 0] 5)) := (below_drewN hbx _).alloc (by show wr.heap.size ≤ wx.heap.size; exact hbx.size) _
                    clear hC
                    refine HC.out.mono ?_
                    rintro e' w' ⟨rfl, rfl⟩
                    go_wp2
                    go_roundw
                    case rel => exact ⟨k + 1, N, by omega, by go_num, rfl, Lib.hid HLT.out.symm, HF, by omega, HB.out.below hb3 hsb, hbw.trans (hb3.mono hbs)⟩
                    case measure => simp [intOf]; omega
                  · have HF : Hid (goodF size (-1) L = false) := Lib.hid (HGB.out (by rw [← HLA.out, hgd, htz, htc, decide_eq_false g5]))
                    have hd5 : ((ct : Int) != 128 - (e : Int)) = true := by rw [bne_iff_ne]; omega
                    clear hct htc hdr hgd htz g5
                    go_wp2_with fail
                    rw [HWX.out]
                    go_quiet ((go_at_call 31; exact Calls.quiet_of_same ((HS.out _).mono fun _ _ h => ⟨h.1, h.2.symm⟩)))
                    go_wp2_with fail
                    rw [HE.out, Int.toNat_natCast]
                    have hC := Count_zero gb (ob + e) (128 - e) (cb - e) wx.heap.size (l.drop e) w.heap.size ((wx.drewN nq).alloc (.cells #[.int .u8 0] 5)) ((HDR.out.keep (w' := wx.drewN nq) (fun _ _ => rfl)).below ((Below.refl _ _).alloc (by show w.heap.size ≤ wx.heap.size; have := hbx.size; omega) _)) (new_cell (wx.drewN nq) _ _ _ 0 rfl)
                    rw [HCT.out] at hC
                    have HC := Lib.hid hC
                    have hb3 : Below wr.heap.size wr ((wx.drewN nq).alloc (.cells #[.int .u8 0] 5)) := (below_drewN hbx _).alloc (by show wr.heap.size ≤ wx.heap.size; exact hbx.size) _
                    clear hC
                    refine HC.out.mono ?_
                    rintro e' w' ⟨rfl, rfl⟩
                    go_wp2
                    go_ret
                    exact ⟨ret_bool HF.out.symm, hbw.trans (hb3.mono hbs)⟩
                · have HF : Hid (goodF size (-1) (L.take (k + 1)) = true) := Lib.hid (by rw [HGT.out, HG.out, ← HLA.out, hgd, tail_small size (N, l) HLB.out (by have := HE.out; simp only; omega)]; rfl)
                  have e1 : 128 ≤ size - N * 128 := by have := HE.out; omega
                  have hd4 : decide (size - N * 128 < 128) = false := decide_eq_false (by omega)
                  clear hgd htz
                  go_wp2_with fail
                  rw [HWX.out]
                  go_quiet ((go_at_call 31; exact Calls.quiet_of_same ((HS.out _).mono fun _ _ h => ⟨h.1, h.2.symm⟩)))
                  have hb3 : Below wr.heap.size wr (wx.drewN nq) := below_drewN hbx _
                  go_wp2
                  go_roundw
                  case rel => exact ⟨k + 1, N, by omega, by go_num, rfl, Lib.hid HLT.out.symm, HF, by omega, HB.out.below hb3 hsb, hbw.trans (hb3.mono hbs)⟩
                  case measure => simp [intOf]; omega
              · have HF := Lib.hid (HBD.out (.inr (.inr g3)))
                have hd3 : ((lb : Int) != 128) = true := by rw [bne_iff_ne]; omega
                go_wp2_with fail
                rw [HWX.out]
                go_quiet ((go_at_call 31; exact Calls.quiet_of_same ((HS.out _).mono fun _ _ h => ⟨h.1, h.2.symm⟩)))
                go_wp2
                go_ret
                exact ⟨ret_bool HF.out.symm, below_drewN hbw2 _⟩
        · obtain rfl : k = n := by omega
          have HF : Hid (goodF size (-1) L = true) := Lib.hid (by have := HG.out; rw [List.take_of_length_le (by rw [HLN.out]; exact Nat.le_refl _)] at this; exact this)
          go_wp2
          go_ret
          exact ⟨ret_bool HF.out.symm, hbw⟩
end Go.Proofs.Ytpofkkoiicdpbaa
