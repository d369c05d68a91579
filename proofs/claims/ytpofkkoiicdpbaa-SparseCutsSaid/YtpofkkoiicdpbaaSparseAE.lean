/-
  Walk: the law SparseCuts.
-/
import Derived.Test.YtpofkkoiicdpbaaSparseAC
import Derived.Test.YtpofkkoiicdpbaaSparseAD
namespace Go.Proofs.Ytpofkkoiicdpbaa
open Go.RowKit
set_option linter.unusedVariables false

set_option maxHeartbeats 16000000 in
set_option maxRecDepth 100000 in
theorem cuts_law (s off : Int) (A : Option Addr) (n c : Nat) (L : List Pc) (w : World) (h : IsP w w.heap.size A n c L) (hs : s ≤ 9223372036854775807) (ho1 : off ≤ 9223372036854775807) (ho0 : -9223372036854775808 ≤ off) :
    Calls Try.prog 4 #[.agg #[.int .i64 s, .slice A n c], .int .i64 off] w fun e w' => e = .returned (.bool true) ∧ Below w.heap.size w w' := by
  obtain ⟨wx, hwx⟩ : ∃ wx, w.alloc (.cells #[.int .i64 s, .slice A n c] 24) = wx := ⟨_, rfl⟩
  have hbx : Below w.heap.size w wx := by rw [← hwx]; exact (Below.refl _ _).alloc (Nat.le_refl _) _
  have hsx : wx.heap.size = w.heap.size + 1 := by rw [← hwx]; simp
  have hBx : Blk wx w.heap.size 24 (0, 0) #[.int .i64 s, .slice A n c] := by rw [← hwx]; exact Blk.new _ _ _ _
  obtain ⟨s1, hs1⟩ : ∃ s1, fewZ s = s1 := ⟨_, rfl⟩
  obtain ⟨L1, hL1⟩ : ∃ L1, fewP L = L1 := ⟨_, rfl⟩
  have hL20 : L1.length ≤ 20 := by rw [← hL1]; exact few_n L
  have hs1b : s1 ≤ 9223372036854775807 := by rw [← hs1]; unfold fewZ; split <;> omega
  have hF := Few_q s A n c L wx (h.later hbx) hs
  rw [hs1, hL1] at hF
  have hf1 : fewZ s1 = s1 := by rw [← hs1]; exact fewZ_idem s
  have hf2 : fewP L1 = L1 := by rw [← hL1]; exact fewP_idem L
  obtain ⟨d0, d1, _, _⟩ := blk2 hBx
  have HF := Lib.hid hF
  have HF1 := Lib.hid hf1
  have HF2 := Lib.hid hf2
  have HBX := Lib.hid hBx
  have HAW := Lib.hid awake_any
  clear hF h hs1 hL1 hf1 hf2 hBx
  go_enter Try.func4, Try.ntmps4
  go_wp2_with fail
  refine HF.out.mono ?_
  rintro e w1 ⟨⟨A1, m1, c1, rfl, hI1⟩, h1⟩
  clear hwx
  have hl0 := HBX.out.lt
  have hB1 := HBX.out.below h1 hl0
  have hs1w := h1.size
  obtain ⟨d0, d1, _, _⟩ := blk2 hB1
  obtain ⟨w2, hw2⟩ : ∃ w2, (w1.setCell ⟨w.heap.size, 0, none⟩ (.int .i64 s1)).setCell ⟨w.heap.size, 1, none⟩ (.slice A1 m1 c1) = w2 := ⟨_, rfl⟩
  have hB2 : Blk w2 w.heap.size 24 (0, 0) #[.int .i64 s1, .slice A1 m1 c1] := by rw [← hw2]; exact (hB1.set_ 0 (.int .i64 s1)).set_ 1 (.slice A1 m1 c1)
  have hsz2 : w2.heap.size = w1.heap.size := by rw [← hw2]; simp
  have hI2 : IsP w2 w2.heap.size A1 m1 c1 L1 := by
    rw [hsz2]
    refine (hI1.keep fun p' _ hq' => ?_).free
    have hq2 : wx.heap.size + 2 ≤ p'.block := hq'
    rw [← hw2, cell_far (by show p'.block ≠ w.heap.size; omega), cell_far (by show p'.block ≠ w.heap.size; omega)]
  have hb2 : Below w.heap.size w w2 := by rw [← hw2]; exact ((hbx.trans (h1.mono hbx.size)).setCell (Nat.le_refl _) _).setCell (Nat.le_refl _) _
  have HB2 := Lib.hid hB2
  have HI2 := Lib.hid hI2
  have hl2 := hB2.lt
  clear hB1 hB2 hI1 hI2
  go_upto_region 2 with fail
  clear hw2 d0 d1
  obtain ⟨t, ht⟩ : ∃ t, (decide (30000 < off) && decide (off ≤ 463488)) = t := ⟨_, rfl⟩
  go_cut [18] (fun s25 wd => s25 = .bool t ∧ wd = w2)
  case first =>
    by_cases h0 : 30000 < off
    · have e1 : decide (30000 < off) = true := decide_eq_true h0
      have e3 : decide (off ≤ 463488) = t := by rw [← ht, e1]; rfl
      clear ht
      go_wp2_with fail
      go_wp2
      go_meet
      exact ⟨rfl, rfl⟩
    · have e1 : decide (30000 < off) = false := decide_eq_false h0
      have e3 : t = false := by rw [← ht, e1]; rfl
      clear ht
      go_wp2
      go_meet
      exact ⟨by rw [e3], rfl⟩
  case rest =>
  obtain ⟨rfl, hwc⟩ := hcut
  cases hwc
  obtain ⟨o, ho, ho2, ho3⟩ : ∃ o : Int, (if t = true then 30000 else off) = o ∧ o ≤ 9223372036854775807 ∧ -9223372036854775808 ≤ o := ⟨_, rfl, by split <;> omega, by split <;> omega⟩
  go_upto_if 18 with fail
  go_cut [1] (fun s1' wd => s1' = .int .i64 o ∧ wd = w2)
  case first =>
    cases t with
    | true =>
      rw [if_pos rfl] at ho
      subst ho
      clear ht
      go_wp2
      go_meet
      exact ⟨rfl, rfl⟩
    | false =>
      rw [if_neg (by simp)] at ho
      subst ho
      clear ht
      go_wp2
      go_meet
      exact ⟨rfl, rfl⟩
  case rest =>
  obtain ⟨rfl, hwc⟩ := hcut
  cases hwc
  clear ht ho
  have hF4 := Few_any s1 A1 m1 c1 L1 w2 HI2.out hs1b
  rw [HF1.out, HF2.out] at hF4
  have HF4 := Lib.hid hF4
  clear hF4
  obtain ⟨d0, d1, _, _⟩ := blk2 HB2.out
  go_wp2_with fail
  refine HF4.out.mono ?_
  rintro e w3 ⟨⟨A3, m3, c3, rfl, hI3⟩, h3⟩
  obtain ⟨w4, hw4⟩ : ∃ w4, w3.alloc (.cells #[.int .i64 s1, .slice A3 m3 c3] 24) = w4 := ⟨_, rfl⟩
  have hb34 : Below w3.heap.size w3 w4 := by rw [← hw4]; exact (Below.refl _ _).alloc (Nat.le_refl _) _
  have hb24 : Below w2.heap.size w2 w4 := h3.trans (hb34.mono h3.size)
  have hB4 : Blk w4 w3.heap.size 24 (0, 0) #[.int .i64 s1, .slice A3 m3 c3] := by rw [← hw4]; exact Blk.new _ _ _ _
  have hB04 := HB2.out.below hb24 hl2
  have hI04 := HI2.out.later hb24
  have hI34 := hI3.later hb34
  have hn1 := hI04.count
  have hn3 := hI34.count
  obtain rfl : m3 = m1 := by omega
  have hbw4 := hb2.trans (hb24.mono hb2.size)
  have l34 := hB4.lt
  have l04 : w.heap.size < w3.heap.size := by have := h3.size; omega
  obtain ⟨b7, hb7⟩ : ∃ b7, w3.heap.size = b7 := ⟨_, rfl⟩
  rw [hb7] at hB4 l34 l04
  have HB4 := Lib.hid hB4
  have HB04 := Lib.hid hB04
  have HI04 := Lib.hid hI04
  have HI34 := Lib.hid hI34
  obtain ⟨d0, d1, _, _⟩ := blk2 hB04
  obtain ⟨d2, d3, _, _⟩ := blk2 hB4
  go_upto_region 5 with fail
  try rw [hb7]
  clear hB4 hB04 hI04 hI34 hI3 hw4 hb7 hn3 HF4 HI2
  have hsw4 := hbw4.size
  cases hok : okF s1 L1 with
  | false =>
    have HW := Lib.hid (Cut_bad s1 o 1 A1 m3 c1 L1 w4 HI04.out hs1b (by omega) (.inl ⟨hok, rfl⟩))
    have HMW := Lib.hid (fun W hW => rMay_any s1 A1 m3 c1 L1 W (HI04.out.later (w' := W) hW) hs1b (by omega))
    rw [hok] at HMW
    go_wp2_with fail
    refine HW.out.mono ?_
    rintro e w5 ⟨rfl, h5⟩
    unfold refusedV
    have h56 : Below w5.heap.size w5 (w5.alloc (.cells #[.int .i64 0, .slice none 0 0] 24)) := (Below.refl _ _).alloc (Nat.le_refl _) _
    obtain ⟨w6, hw6⟩ : ∃ w6, w5.alloc (.cells #[.int .i64 0, .slice none 0 0] 24) = w6 := ⟨_, rfl⟩
    rw [hw6] at h56
    have h46 : Below w4.heap.size w4 w6 := h5.trans (h56.mono h5.size)
    have hB6 : Blk w6 w5.heap.size 24 (0, 0) #[.int .i64 0, .slice none 0 0] := by rw [← hw6]; exact Blk.new _ _ _ _
    obtain ⟨k0, k1, _, _⟩ := blk2 (HB04.out.below h5 (by omega))
    have l05 : w.heap.size < w5.heap.size := by have := h5.size; omega
    have hbw6 := hbw4.trans (h46.mono hbw4.size)
    have HB6 := Lib.hid hB6
    have HW6 := Lib.hid hw6
    clear hB6 hw6
    go_wp2_with fail
    rw [HW6.out]
    refine (HMW.out w6 h46).mono ?_
    rintro e w7 ⟨rfl, h7⟩
    obtain ⟨j0, j1, _, _⟩ := blk2 (HB6.out.below h7 HB6.out.lt)
    have hbw7 := hbw6.trans (h7.mono hbw6.size)
    clear k0 k1 hok
    go_wp2_with fail
    refine (none_any 0 none 0 0 _).mono ?_
    rintro e w8 ⟨rfl, h8⟩
    have hbw8 := hbw7.trans (h8.mono hbw7.size)
    go_wp2_with fail
    refine (HAW.out _).mono ?_
    rintro e w9 ⟨rfl, h9⟩
    go_wp2
    go_ret
    exact ⟨rfl, hbw8.trans (h9.mono hbw8.size)⟩
  | true =>
    by_cases h0 : o < 0
    · have hd : decide (o < 0) = true := decide_eq_true h0
      have HW := Lib.hid (Cut_bad s1 o 1 A1 m3 c1 L1 w4 HI04.out hs1b (by omega) (.inr (.inl ⟨hok, h0, rfl⟩)))
      have HMW := Lib.hid (fun W hW => rMay_any s1 A1 m3 c1 L1 W (HI04.out.later (w' := W) hW) hs1b (by omega))
      rw [hok] at HMW
      go_wp2_with fail
      refine HW.out.mono ?_
      rintro e w5 ⟨rfl, h5⟩
      unfold refusedV
      have h56 : Below w5.heap.size w5 (w5.alloc (.cells #[.int .i64 0, .slice none 0 0] 24)) := (Below.refl _ _).alloc (Nat.le_refl _) _
      obtain ⟨w6, hw6⟩ : ∃ w6, w5.alloc (.cells #[.int .i64 0, .slice none 0 0] 24) = w6 := ⟨_, rfl⟩
      rw [hw6] at h56
      have h46 : Below w4.heap.size w4 w6 := h5.trans (h56.mono h5.size)
      have hB6 : Blk w6 w5.heap.size 24 (0, 0) #[.int .i64 0, .slice none 0 0] := by rw [← hw6]; exact Blk.new _ _ _ _
      obtain ⟨k0, k1, _, _⟩ := blk2 (HB04.out.below h5 (by omega))
      have l05 : w.heap.size < w5.heap.size := by have := h5.size; omega
      have hbw6 := hbw4.trans (h46.mono hbw4.size)
      have HB6 := Lib.hid hB6
      have HW6 := Lib.hid hw6
      clear hB6 hw6
      go_wp2_with fail
      rw [HW6.out]
      refine (HMW.out w6 h46).mono ?_
      rintro e w7 ⟨rfl, h7⟩
      obtain ⟨j0, j1, _, _⟩ := blk2 (HB6.out.below h7 HB6.out.lt)
      have hbw7 := hbw6.trans (h7.mono hbw6.size)
      clear k0 k1 hok
      go_wp2_with fail
      refine (none_any 0 none 0 0 _).mono ?_
      rintro e w8 ⟨rfl, h8⟩
      have hbw8 := hbw7.trans (h8.mono hbw7.size)
      go_wp2_with fail
      refine (HAW.out _).mono ?_
      rintro e w9 ⟨rfl, h9⟩
      go_wp2
      go_ret
      exact ⟨rfl, hbw8.trans (h9.mono hbw8.size)⟩
    · have hd : decide (o < 0) = false := decide_eq_false h0
      by_cases h2 : 463488 < o
      · have hd2 : decide (463488 < o) = true := decide_eq_true h2
        have HW := Lib.hid (Cut_bad s1 o 16 A1 m3 c1 L1 w4 HI04.out hs1b (by omega) (.inr (.inr ⟨hok, h2, rfl⟩)))
        have HMW := Lib.hid (fun W hW => rMay_any s1 A1 m3 c1 L1 W (HI04.out.later (w' := W) hW) hs1b (by omega))
        rw [hok] at HMW
        go_wp2_with fail
        refine HW.out.mono ?_
        rintro e w5 ⟨rfl, h5⟩
        unfold refusedV
        have h56 : Below w5.heap.size w5 (w5.alloc (.cells #[.int .i64 0, .slice none 0 0] 24)) := (Below.refl _ _).alloc (Nat.le_refl _) _
        obtain ⟨w6, hw6⟩ : ∃ w6, w5.alloc (.cells #[.int .i64 0, .slice none 0 0] 24) = w6 := ⟨_, rfl⟩
        rw [hw6] at h56
        have h46 : Below w4.heap.size w4 w6 := h5.trans (h56.mono h5.size)
        have hB6 : Blk w6 w5.heap.size 24 (0, 0) #[.int .i64 0, .slice none 0 0] := by rw [← hw6]; exact Blk.new _ _ _ _
        obtain ⟨k0, k1, _, _⟩ := blk2 (HB04.out.below h5 (by omega))
        have l05 : w.heap.size < w5.heap.size := by have := h5.size; omega
        have hbw6 := hbw4.trans (h46.mono hbw4.size)
        have HB6 := Lib.hid hB6
        have HW6 := Lib.hid hw6
        clear hB6 hw6
        go_wp2_with fail
        rw [HW6.out]
        refine (HMW.out w6 h46).mono ?_
        rintro e w7 ⟨rfl, h7⟩
        obtain ⟨j0, j1, _, _⟩ := blk2 (HB6.out.below h7 HB6.out.lt)
        have hbw7 := hbw6.trans (h7.mono hbw6.size)
        clear k0 k1 hok
        go_wp2_with fail
        refine (none_any 0 none 0 0 _).mono ?_
        rintro e w8 ⟨rfl, h8⟩
        have hbw8 := hbw7.trans (h8.mono hbw7.size)
        go_wp2_with fail
        refine (HAW.out _).mono ?_
        rintro e w9 ⟨rfl, h9⟩
        go_wp2
        go_ret
        exact ⟨rfl, hbw8.trans (h9.mono hbw8.size)⟩
      · have hd2 : decide (463488 < o) = false := decide_eq_false h2
        have hOK := (okF_iff _ _).1 hok
        obtain ⟨s', rfl⟩ := Int.eq_ofNat_of_zero_le (show 0 ≤ o by omega)
        obtain ⟨sn, rfl⟩ := Int.eq_ofNat_of_zero_le hOK.1
        have hsn : sn ≤ 463488 := by have := hOK.2.1; omega
        have hs8 : s' ≤ 463488 := by omega
        obtain ⟨z, hz⟩ : ∃ z, (sn + 127) / 128 = z := ⟨_, rfl⟩
        obtain ⟨z', hz'⟩ : ∃ z', (s' + 127) / 128 = z' := ⟨_, rfl⟩
        have HW := Lib.hid (Cut_ok (sn : Int) s' A1 m3 c1 L1 w4 HI04.out hok hs8)
        have HMW := Lib.hid (fun W hW => rMay_any (sn : Int) A1 m3 c1 L1 W (HI04.out.later (w' := W) hW) hs1b (by omega))
        rw [hok] at HMW
        have HOK := Lib.hid hOK
        have HOK2 := Lib.hid hok
        clear hok hOK
        go_wp2_with fail
        refine HW.out.mono ?_
        rintro e w5 ⟨⟨Ax, nx, cx, Aw, cw, Lx, rfl, hIx, hSt, hCI, hRw⟩, h5⟩
        obtain ⟨nw, hnw⟩ : ∃ nw, (wroteL L1 (sn : Int) (s' : Int)).length = nw := ⟨_, rfl⟩
        rw [hnw] at hRw ⊢
        have hnw1 : nw ≤ 1 := by rw [← hnw]; unfold wroteL; split <;> simp
        have hokx := hCI.ok L1 Lx (s' : Int) (by omega) (by omega) hSt
        have hnx : nx ≤ 3621 := by rw [← hIx.count]; exact ok_len hokx
        obtain ⟨e1, e2⟩ := cut_is sn s' L1 Lx HOK.out hCI
        rw [hz'] at e2
        have HIS := Lib.hid ((isF_iff (s' : Int) Lx (tab s' fun i => ((fileB sn L1)[i]?).getD 0) (tab z' fun i => ((fileT sn L1)[i]?).getD false)).2 ⟨(okF_iff _ _).2 hokx, by rw [tab_len], by rw [tab_len]; exact e2, by rw [tab_len]; exact e1⟩)
        obtain ⟨w6, hw6⟩ : ∃ w6, w5.alloc (.cells #[.int .i64 (s' : Int), .slice Ax nx cx] 24) = w6 := ⟨_, rfl⟩
        have h56 : Below w5.heap.size w5 w6 := by rw [← hw6]; exact (Below.refl _ _).alloc (Nat.le_refl _) _
        have h46 : Below w4.heap.size w4 w6 := h5.trans (h56.mono h5.size)
        have HB6 := Lib.hid (show Blk w6 w5.heap.size 24 (0, 0) #[.int .i64 (s' : Int), .slice Ax nx cx] by rw [← hw6]; exact Blk.new _ _ _ _)
        obtain ⟨k0, k1, _, _⟩ := blk2 (HB04.out.below h46 (by omega))
        have hbw6 := hbw4.trans (h46.mono hbw4.size)
        have HIX := Lib.hid (hIx.later h56)
        have HRW := Lib.hid ((hRw.below h56).more h56.size)
        clear hIx hSt hCI hRw hokx e1 e2
        go_wp2_with fail
        refine (HMW.out w6 h46).mono ?_
        rintro e w7 ⟨rfl, h7⟩
        have h47 := h46.trans (h7.mono h46.size)
        have hbw7 := hbw6.trans (h7.mono hbw6.size)
        have hR := rOf_any sn A3 m3 c3 L1 w7 (HI34.out.later h47) HOK2.out (by omega)
        rw [hz] at hR
        have HR := Lib.hid hR
        obtain ⟨k2, k3, _, _⟩ := blk2 (HB4.out.below h47 l34)
        clear hR hw6 k0 k1
        go_wp2_with fail
        refine HR.out.mono ?_
        rintro e w8 ⟨⟨g1, g2, rfl, lg1, lg2, _, _, _, hb1, hb2⟩, h8⟩
        have hR1 := hb1.rd (n := sn) (by rw [octV_len]; unfold fileB; rw [tab_len]) lg1
        have hR2 := hb2.rd (n := z) (by rw [boolV_len]; unfold fileT; rw [tab_len]; exact hz) lg2
        have h48 := h47.trans (h8.mono h47.size)
        have HWR := Lib.hid (rCut_any (some ⟨g1, 0, none⟩) (some ⟨g2, 0, none⟩) sn sn z z s' z' (fileB sn L1) (fileT sn L1) w8 hR1 hR2 hz hsn hs8 hz')
        clear hb1 hb2 hR1 hR2 k2 k3
        go_wp2_with fail
        refine HWR.out.mono ?_
        rintro e w9 ⟨⟨g3, g4, vv, kk, rfl, hR3, hR4, hkk, hOv⟩, h9⟩
        rw [cutW_end (fileT sn L1) sn s' kk L1 HOK.out rfl (by omega)] at hOv
        obtain ⟨Av, cv, rfl, _, _, hRv⟩ := own_form hOv
        obtain ⟨bl, hbl⟩ : ∃ bl, (if wroteC L1 (sn : Int) (s' : Int) = true then [(s' : Int) / 128] else []).length = bl := ⟨_, rfl⟩
        rw [hbl] at hRv ⊢
        have hbl1 : bl ≤ 1 := by rw [← hbl]; split <;> simp
        have h49 := h48.trans (h9.mono h48.size)
        obtain ⟨wp, hwp⟩ : ∃ wp, w9.alloc (.cells #[.slice (some ⟨g3, 0, none⟩) s' s', .slice (some ⟨g4, 0, none⟩) z' z'] 36) = wp := ⟨_, rfl⟩
        have h9p : Below w9.heap.size w9 wp := by rw [← hwp]; exact (Below.refl _ _).alloc (Nat.le_refl _) _
        have h4p := h49.trans (h9p.mono h49.size)
        have h6p : Below w6.heap.size w6 wp := h7.trans ((h8.trans ((h9.trans (h9p.mono h9.size)).mono h8.size)).mono h7.size)
        have hB9 : Blk wp w9.heap.size 36 (0, 0) #[.slice (some ⟨g3, 0, none⟩) s' s', .slice (some ⟨g4, 0, none⟩) z' z'] := by rw [← hwp]; exact Blk.new _ _ _ _
        obtain ⟨k0, k1, _, _⟩ := blk2 (HB04.out.below h4p (by omega))
        obtain ⟨k2, k3, _, _⟩ := blk2 (HB4.out.below h4p l34)
        obtain ⟨k4, k5, _, _⟩ := blk2 (HB6.out.below h6p HB6.out.lt)
        obtain ⟨k6, k7, _, _⟩ := blk2 hB9
        have l0 : w.heap.size < wp.heap.size := by have := h4p.size; omega
        have l7 : b7 < wp.heap.size := by have := h4p.size; omega
        have l8 : w5.heap.size < wp.heap.size := by have := h6p.size; have := HB6.out.lt; omega
        have l9 : w9.heap.size < wp.heap.size := hB9.lt
        have hbwp := hbw4.trans (h4p.mono hbw4.size)
        have HIXp := Lib.hid (HIX.out.later h6p)
        have HR3p := Lib.hid ((hR3.below h9p).more h9p.size)
        have HR4p := Lib.hid ((hR4.below h9p).more h9p.size)
        have HRWp := Lib.hid ((HRW.out.below h6p).more h6p.size)
        have HRVp := Lib.hid ((hRv.below h9p).more h9p.size)
        have HI0p := Lib.hid (HI04.out.later h4p)
        have HI3p := Lib.hid (HI34.out.later h4p)
        have HI1 : Hid (∀ W, Below wp.heap.size wp W → Calls Try.prog 12 #[.agg #[.int .i64 (s' : Int), .slice Ax nx cx], .agg #[.slice (some ⟨g3, 0, none⟩) s' s', .slice (some ⟨g4, 0, none⟩) z' z']] W fun e w' => e = .returned (.bool true) ∧ Below W.heap.size W w') := Lib.hid fun W hW => by
          have := rIs_any (s' : Int) Ax (some ⟨g3, 0, none⟩) (some ⟨g4, 0, none⟩) nx cx s' s' z' z' Lx _ _ W (HIXp.out.later hW) (by omega) (by omega) ((HR3p.out.below hW).more hW.size) ((HR4p.out.below hW).more hW.size) hz'.symm (by omega)
          rw [HIS.out] at this
          exact this
        have HS : Hid (∀ W, Below wp.heap.size wp W → Calls Try.prog 17 #[.slice Aw nw cw, .slice Av bl cv] W fun e w' => e = .returned (.bool true) ∧ Below W.heap.size W w') := Lib.hid fun W hW => by
          have := Ints_any Aw Av nw cw bl cv _ _ W ((HRWp.out.below hW).more hW.size) ((HRVp.out.below hW).more hW.size) (by omega)
          rw [decide_eq_true (show wroteL L1 (sn : Int) (s' : Int) = (if wroteC L1 (sn : Int) (s' : Int) = true then [(s' : Int) / 128] else []) from rfl)] at this
          exact this
        have HO : Hid (∀ W, Below wp.heap.size wp W → Calls Try.prog 13 #[.agg #[.int .i64 (sn : Int), .slice A3 m3 c3]] W fun e w' =>
            (∃ g1 g2, e = .returned (.agg #[.slice (some ⟨g1, 0, none⟩) sn sn, .slice (some ⟨g2, 0, none⟩) z z]) ∧ Rd w' w'.heap.size 1 (some ⟨g1, 0, none⟩) sn (octV (fileB sn L1)) ∧ Rd w' w'.heap.size 1 (some ⟨g2, 0, none⟩) z (boolV (fileT sn L1))) ∧ Below W.heap.size W w') := Lib.hid fun W hW => by
          have := rOf_any sn A3 m3 c3 L1 W (HI3p.out.later hW) HOK2.out (by omega)
          rw [hz] at this
          refine this.mono ?_
          rintro e w' ⟨⟨g1, g2, rfl, l1, l2, _, _, _, hb1, hb2⟩, hb⟩
          exact ⟨⟨g1, g2, rfl, hb1.rd (by rw [octV_len]; unfold fileB; rw [tab_len]) l1, hb2.rd (by rw [boolV_len]; unfold fileT; rw [tab_len]; exact hz) l2⟩, hb⟩
        have HI2 : Hid (∀ (W : World) (g1 g2 : Nat), Below wp.heap.size wp W → Rd W W.heap.size 1 (some ⟨g1, 0, none⟩) sn (octV (fileB sn L1)) → Rd W W.heap.size 1 (some ⟨g2, 0, none⟩) z (boolV (fileT sn L1)) → Calls Try.prog 12 #[.agg #[.int .i64 (sn : Int), .slice A1 m3 c1], .agg #[.slice (some ⟨g1, 0, none⟩) sn sn, .slice (some ⟨g2, 0, none⟩) z z]] W fun e w' => e = .returned (.bool true) ∧ Below W.heap.size W w') := Lib.hid fun W g1 g2 hW hR1 hR2 => by
          have := rIs_any (sn : Int) A1 (some ⟨g1, 0, none⟩) (some ⟨g2, 0, none⟩) m3 c1 sn sn z z L1 (fileB sn L1) (fileT sn L1) W (HI0p.out.later hW) hs1b (by omega) hR1 hR2 hz.symm (by omega)
          rw [(isF_iff _ _ _ _).2 ⟨HOK2.out, by unfold fileB; rw [tab_len], by unfold fileB; rw [tab_len], by unfold fileB; rw [tab_len]⟩] at this
          exact this
        have HK : Hid (∀ W, Below wp.heap.size wp W → W.cell? ⟨w.heap.size, 0, none⟩ = some (.int .i64 (sn : Int)) ∧ W.cell? ⟨w.heap.size, 1, none⟩ = some (.slice A1 m3 c1) ∧ W.cell? ⟨b7, 0, none⟩ = some (.int .i64 (sn : Int)) ∧ W.cell? ⟨b7, 1, none⟩ = some (.slice A3 m3 c3) ∧ W.cell? ⟨w5.heap.size, 0, none⟩ = some (.int .i64 (s' : Int)) ∧ W.cell? ⟨w5.heap.size, 1, none⟩ = some (.slice Ax nx cx) ∧ W.cell? ⟨w9.heap.size, 0, none⟩ = some (.slice (some ⟨g3, 0, none⟩) s' s') ∧ W.cell? ⟨w9.heap.size, 1, none⟩ = some (.slice (some ⟨g4, 0, none⟩) z' z')) := Lib.hid fun W hW =>
          ⟨(hW.cell (p := ⟨w.heap.size, 0, none⟩) l0).trans k0, (hW.cell (p := ⟨w.heap.size, 1, none⟩) l0).trans k1, (hW.cell (p := ⟨b7, 0, none⟩) l7).trans k2, (hW.cell (p := ⟨b7, 1, none⟩) l7).trans k3, (hW.cell (p := ⟨w5.heap.size, 0, none⟩) l8).trans k4, (hW.cell (p := ⟨w5.heap.size, 1, none⟩) l8).trans k5, (hW.cell (p := ⟨w9.heap.size, 0, none⟩) l9).trans k6, (hW.cell (p := ⟨w9.heap.size, 1, none⟩) l9).trans k7⟩
        clear hB9 hR3 hR4 hOv hRv hz hz' hnw hbl hkk
        go_wp2_with fail
        clear hwp
        go_region_held3 (fun w' => w'.cell? ⟨w.heap.size, 0, none⟩ = some (.int .i64 (sn : Int)) ∧ w'.cell? ⟨w.heap.size, 1, none⟩ = some (.slice A1 m3 c1) ∧ w'.cell? ⟨b7, 0, none⟩ = some (.int .i64 (sn : Int)) ∧ w'.cell? ⟨b7, 1, none⟩ = some (.slice A3 m3 c3) ∧ w'.cell? ⟨w5.heap.size, 0, none⟩ = some (.int .i64 (s' : Int)) ∧ w'.cell? ⟨w5.heap.size, 1, none⟩ = some (.slice Ax nx cx) ∧ w'.cell? ⟨w9.heap.size, 0, none⟩ = some (.slice (some ⟨g3, 0, none⟩) s' s') ∧ w'.cell? ⟨w9.heap.size, 1, none⟩ = some (.slice (some ⟨g4, 0, none⟩) z' z'))
          (first
            | go_keep
            | exact HK.out _ hBA
            | exact HK.out _ hBB
            | exact HK.out _ hBC
            | exact HK.out _ hBD
            | exact HK.out _ hBE)
          (first
            | (go_at_call 12; (with_reducible refine (HI1.out _ (below_drew (Below.refl _ _))).mono ?_); rintro e wA ⟨rfl, hA⟩; have hBA : Below wp.heap.size wp wA := (below_drew (Below.refl wp.heap.size wp)).trans hA)
            | (go_at_call 17; refine (HS.out _ hBA).mono ?_; rintro e wB ⟨rfl, hB⟩; have hBB : Below wp.heap.size wp wB := hBA.trans (hB.mono hBA.size))
            | (go_at_call 13; refine (HO.out _ hBB).mono ?_; rintro e wC ⟨⟨g5, g6, rfl, hR5, hR6⟩, hC⟩; have hBC : Below wp.heap.size wp wC := hBB.trans (hC.mono hBB.size))
            | (go_at_call 12; refine (HI2.out _ g5 g6 hBC hR5 hR6).mono ?_; rintro e wD ⟨rfl, hD⟩; have hBD : Below wp.heap.size wp wD := hBC.trans (hD.mono hBC.size))
            | (go_at_call 15; refine (HAW.out _).mono ?_; rintro e wE ⟨rfl, hE⟩; have hBE : Below wp.heap.size wp wE := hBD.trans (hE.mono hBD.size)))
        all_goals
          go_wp2
          go_ret
          exact ⟨rfl, hbwp.trans (hBE.mono hbwp.size)⟩
end Go.Proofs.Ytpofkkoiicdpbaa
