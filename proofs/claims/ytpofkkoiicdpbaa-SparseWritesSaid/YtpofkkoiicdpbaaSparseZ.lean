/-
  Walk: the document's Is.
-/
import Derived.Test.YtpofkkoiicdpbaaSparseY
import Derived.Test.YtpofkkoiicdpbaaSparseL
namespace Go.Proofs.Ytpofkkoiicdpbaa
open Go.RowKit
set_option linter.unusedVariables false

theorem boolV_get (l : List Bool) (k : Nat) (b : Bool) (h : l[k]? = some b) : (boolV l)[k]? = some (.bool b) := by unfold boolV; rw [List.getElem?_map, h]; rfl
theorem bool_at {w : World} {B n : Nat} {A : Option Addr} {l : List Bool} (h : Rd w B 1 A n (boolV l)) {k : Nat} (hk : k < n) :
    ∃ g o x, A = some ⟨g, o, none⟩ ∧ g < B ∧ l[k]? = some x ∧ w.cell? ⟨g, o + k, none⟩ = some (.bool x) := by
  obtain ⟨g, o, e, hb, hc⟩ := h.2 (by omega)
  have hl := h.1
  rw [boolV_len] at hl
  have hkl : k < l.length := by omega
  exact ⟨g, o, l[k], e, hb, List.getElem?_eq_getElem hkl, hc _ _ (boolV_get _ _ _ (List.getElem?_eq_getElem hkl))⟩
theorem oct_at {w : World} {B n : Nat} {A : Option Addr} {l : List UInt8} (h : Rd w B 1 A n (octV l)) {k : Nat} (hk : k < n) :
    ∃ g o x, A = some ⟨g, o, none⟩ ∧ g < B ∧ l[k]? = some x ∧ w.cell? ⟨g, o + k, none⟩ = some (.int .u8 x.toNat) := by
  obtain ⟨g, o, e, hb, hc⟩ := h.2 (by omega)
  have hl := h.1
  rw [octV_len] at hl
  have hkl : k < l.length := by omega
  exact ⟨g, o, l[k], e, hb, List.getElem?_eq_getElem hkl, hc _ _ (by unfold octV; rw [List.getElem?_map, List.getElem?_eq_getElem hkl]; rfl)⟩
/-- A block that is known whole, read as a row. -/
theorem Blk.rd {w : World} {g n : Nat} {t : TypeId} {xs : List Value} (h : Blk w g t (0, 0) xs.toArray) (hn : xs.length = n) {B : Nat} (hB : g < B) : Rd w B 1 (some ⟨g, 0, none⟩) n xs := by
  refine ⟨by omega, fun _ => ⟨g, 0, rfl, hB, fun j u hu => ?_⟩⟩
  rw [Nat.zero_add, h.cell, ← Array.getElem?_toList]
  exact hu
def isF (size : Int) (L : List Pc) (bs : List UInt8) (tl : List Bool) : Bool := okF size L && (decide (size = bs.length) && (decide (fileT bs.length L = tl) && decide (fileB bs.length L = bs)))
theorem isF_iff (size : Int) (L : List Pc) (bs : List UInt8) (tl : List Bool) : isF size L bs tl = true ↔ okF size L = true ∧ size = bs.length ∧ fileT bs.length L = tl ∧ fileB bs.length L = bs := by
  unfold isF
  simp only [Bool.and_eq_true, decide_eq_true_eq]
set_option maxHeartbeats 8000000 in
set_option maxRecDepth 100000 in
theorem rIs_any (size : Int) (A A1 A2 : Option Addr) (n c sz c1 z c2 : Nat) (L : List Pc) (bs : List UInt8) (tl : List Bool) (w : World) (h : IsP w w.heap.size A n c L) (hs : size ≤ 9223372036854775807) (hn : n ≤ 1000000)
    (hb : Rd w w.heap.size 1 A1 sz (octV bs)) (ht : Rd w w.heap.size 1 A2 z (boolV tl)) (hz : z = (sz + 127) / 128) (hsz : sz ≤ 1000000) :
    Calls Try.prog 12 #[.agg #[.int .i64 size, .slice A n c], .agg #[.slice A1 sz c1, .slice A2 z c2]] w fun e w' => e = .returned (.bool (isF size L bs tl)) ∧ Below w.heap.size w w' := by
  have hlb : bs.length = sz := by have := hb.1; rw [octV_len] at this; omega
  have hlt : tl.length = z := by have := ht.1; rw [boolV_len] at this; omega
  obtain ⟨wx, hwx⟩ : ∃ wx, (w.alloc (.cells #[.int .i64 size, .slice A n c] 24)).alloc (.cells #[.slice A1 sz c1, .slice A2 z c2] 36) = wx := ⟨_, rfl⟩
  have hsx : wx.heap.size = w.heap.size + 1 + 1 := by rw [← hwx]; simp
  have hbx : Below w.heap.size w wx := by rw [← hwx]; exact ((Below.refl _ _).alloc (Nat.le_refl _) _).alloc (by simp) _
  have hX0 : Blk wx w.heap.size 24 (0, 0) #[.int .i64 size, .slice A n c] := by rw [← hwx]; exact (Blk.new w _ _ _).alloc _
  have hX1 : Blk wx (w.heap.size + 1) 36 (0, 0) #[.slice A1 sz c1, .slice A2 z c2] := by
    rw [← hwx]
    have := Blk.new (w.alloc (.cells #[.int .i64 size, .slice A n c] 24)) 36 (0, 0) #[.slice A1 sz c1, .slice A2 z c2]
    simpa using this
  have HX0 := Lib.hid hX0
  have HX1 := Lib.hid hX1
  have H := Lib.hid (h.later hbx)
  have HB := Lib.hid hb
  have HT := Lib.hid ht
  have HLB := Lib.hid hlb
  have HLT := Lib.hid hlt
  have HWX := Lib.hid hwx
  have HZ := Lib.hid hz
  obtain ⟨d0, d1, _, _⟩ := blk2 hX0
  obtain ⟨d2, d3, _, _⟩ := blk2 hX1
  clear hX0 hX1 h hb ht hwx hlt hlb hz
  go_enter Try.func12, Try.ntmps12
  go_wp2_with fail
  rw [HWX.out]
  go_wp2_with fail
  refine (rMay_any size A n c L _ H.out hs hn).mono ?_
  rintro e w1 ⟨rfl, h1⟩
  have hl0 := HX0.out.lt
  have hl1 := HX1.out.lt
  have hbw1 := hbx.trans (h1.mono hbx.size)
  by_cases hok : okF size L = true
  · rw [hok]
    obtain ⟨y0, y1, _, _⟩ := blk2 (HX0.out.below h1 hl0)
    obtain ⟨y2, y3, _, _⟩ := blk2 (HX1.out.below h1 hl1)
    have HOK := Lib.hid hok
    have H1 := Lib.hid (H.out.later h1)
    clear hok d0 d1 d2 d3 H
    have hs0 : 0 ≤ size := ((okF_iff _ _).1 HOK.out).1
    obtain ⟨sn, rfl⟩ := Int.eq_ofNat_of_zero_le hs0
    by_cases hss : sn = sz
    · subst hss
      have hR := rOf_any sn A n c L w1 H1.out HOK.out hn
      rw [← HZ.out] at hR
      have HR := Lib.hid hR
      clear hR
      go_wp2_with fail
      refine HR.out.mono ?_
      rintro e w2 ⟨⟨g1, g2, rfl, lg1, lg2, k1, k2, n12, hb1, hb2⟩, h2⟩
      have hbw2 := hbw1.trans (h2.mono (by have := h1.size; omega))
      obtain ⟨wv, hwv⟩ : ∃ wv, (w2.alloc (.cells #[.slice (some ⟨g1, 0, none⟩) sn sn, .slice (some ⟨g2, 0, none⟩) z z] 36)) = wv := ⟨_, rfl⟩
      have hbv : Below w2.heap.size w2 wv := by rw [← hwv]; exact (Below.refl _ _).alloc (Nat.le_refl _) _
      have hXv := (show Blk wv w2.heap.size 36 (0, 0) #[.slice (some ⟨g1, 0, none⟩) sn sn, .slice (some ⟨g2, 0, none⟩) z z] by rw [← hwv]; exact Blk.new _ _ _ _)
      have HB1 := Lib.hid ((show Blk w2 g1 5 (0, 0) (octV (fileB sn L)).toArray from hb1).below hbv (by have := hb1.lt; omega))
      have HB2 := Lib.hid ((show Blk w2 g2 4 (0, 0) (boolV (fileT sn L)).toArray from hb2).below hbv (by have := hb2.lt; omega))
      have hTl : (fileT sn L).length = z := by unfold fileT; rw [tab_len]; exact HZ.out.symm
      have hBl : (fileB sn L).length = sn := by unfold fileB; rw [tab_len]
      have hwv0 : Below w.heap.size w wv := hbw2.trans (hbv.mono (by have := h1.size; have := h2.size; omega))
      have hx0 : Below wx.heap.size wx wv := h1.trans ((h2.trans (hbv.mono h2.size)).mono h1.size)
      have HXV := Lib.hid hXv
      have HTL := Lib.hid hTl
      have HBL := Lib.hid hBl
      have HBV := Lib.hid hbv
      have lw2 := hXv.lt
      have hz9 : z ≤ 7813 := by have := HZ.out; omega
      go_wp2_with fail
      clear hwv hb1 hb2 hTl hBl hXv hbv y0 y1 y2 y3
      go_loopw [6] (fun i wr => ∃ k : Nat, k ≤ z ∧ i = .int .i64 k ∧ Hid ((fileT sn L).take k = tl.take k) ∧ Below wv.heap.size wv wr) (fun i _ => z - (intOf i).toNat)
      case atStart => exact ⟨0, Nat.zero_le _, rfl, Lib.hid rfl, Below.refl _ _⟩
      case round =>
        obtain ⟨k, hk, rfl, HTK, hbr⟩ := hrel
        obtain ⟨y4, y5, _, _⟩ := blk2 (HXV.out.below hbr lw2)
        obtain ⟨y2, y3, _, _⟩ := blk2 ((HX1.out.below hx0 hl1).below hbr (by have := hx0.size; omega))
        have hwr0 : Below w.heap.size w wr := hwv0.trans (hbr.mono (by have := hwv0.size; omega))
        have i0 : (0 : Int) ≤ (k : Int) := Int.natCast_nonneg _
        by_cases hlt : k < z
        · have i1 : (k : Int) < (z : Int) := by omega
          obtain ⟨g, o, xb, hA2, hg, hxb, c2'⟩ := bool_at (HT.out.below hwr0) hlt
          obtain ⟨yb, hyb⟩ : ∃ yb, (fileT sn L)[k]? = some yb := ⟨_, List.getElem?_eq_getElem (by rw [HTL.out]; exact hlt)⟩
          have c3 : wr.cell? ⟨g2, k, none⟩ = some (.bool yb) := by
            rw [(HB2.out.below hbr (by have := HB2.out.lt; omega)).cell, ← Array.getElem?_toList]
            exact boolV_get _ _ _ hyb
          have HS1 := Lib.hid (take_snoc tl k xb hxb)
          have HS2 := Lib.hid (take_snoc (fileT sn L) k yb hyb)
          have HXB := Lib.hid hxb
          have HYB := Lib.hid hyb
          subst hA2
          clear hxb hyb
          by_cases hxy : yb = xb
          · have HN : Hid ((fileT sn L).take (k + 1) = tl.take (k + 1)) := Lib.hid (by rw [HS1.out, HS2.out, HTK.out, hxy])
            have hne : (yb == xb) = true := by rw [hxy]; simp
            clear hxy
            go_wp2_with fail
            go_quiet (fail)
            go_wp2
            go_roundw
            case rel => exact ⟨k + 1, by omega, by go_num, HN, below_drewN hbr _⟩
            case measure => simp [intOf]; omega
          · have hne : (yb == xb) = false := by rw [beq_eq_false_iff_ne]; exact hxy
            have HF : Hid (isF sn L bs tl = false) := Lib.hid (by
              unfold isF
              rw [decide_eq_false (p := fileT bs.length L = tl) (by
                intro e
                rw [HLB.out] at e
                have h5 := HYB.out
                rw [e, HXB.out] at h5
                injection h5 with h5
                exact hxy h5.symm)]
              simp)
            clear hxy
            go_wp2_with fail
            go_quiet (fail)
            go_wp2
            go_ret
            exact ⟨ret_bool HF.out.symm, below_drewN hwr0 _⟩
        · obtain rfl : k = z := by omega
          have hT : fileT sn L = tl := by
            have h5 := HTK.out
            rw [List.take_of_length_le (by rw [HTL.out]; exact Nat.le_refl _), List.take_of_length_le (by rw [HLT.out]; exact Nat.le_refl _)] at h5
            exact h5
          have HF : Hid (isF sn L bs tl = decide (fileB sn L = bs)) := Lib.hid (by
            unfold isF
            rw [HOK.out, HLB.out, decide_eq_true hT, decide_eq_true rfl, Bool.true_and, Bool.true_and, Bool.true_and])
          have q1 := conv_bytes wr 25 9 5 (c := sn) Try.underlying25 Try.underlying5 Try.underlying9 (B := wv.heap.size) (A := some ⟨g1, 0, none⟩) (n := sn) (l := fileB sn L)
            ((HB1.out.below hbr HB1.out.lt).rd (by rw [octV_len]; exact HBL.out) HB1.out.lt)
          have q2 := conv_bytes wr 25 9 5 (c := c1) Try.underlying25 Try.underlying5 Try.underlying9 (HB.out.below hwr0)
          have hne := text_eq ⟨(fileB sn L).toArray⟩ ⟨bs.toArray⟩ (fileB sn L) bs (by simp [oc]) (by simp [oc])
          rw [← HF.out] at hne
          obtain ⟨s, hs⟩ : ∃ s : ByteArray, (⟨(fileB sn L).toArray⟩ : ByteArray) = s := ⟨_, rfl⟩
          obtain ⟨q, hq⟩ : ∃ q : ByteArray, (⟨bs.toArray⟩ : ByteArray) = q := ⟨_, rfl⟩
          obtain ⟨d, hd⟩ : ∃ d, isF sn L bs tl = d := ⟨_, rfl⟩
          rw [hs] at q1 hne
          rw [hq] at q2 hne
          rw [hd] at hne
          have HD := Lib.hid hd
          clear hs hq hd HF hT
          go_wp2
          go_ret
          exact ⟨by rw [HD.out]; first | rfl | exact ret_bool hne, hwr0⟩
    · have hne : ((sn : Int) != (sz : Int)) = true := by rw [bne_iff_ne]; omega
      have HF : Hid (isF sn L bs tl = false) := Lib.hid (by unfold isF; rw [decide_eq_false (p := (sn : Int) = bs.length) (by rw [HLB.out]; omega)]; simp)
      go_wp2
      go_ret
      exact ⟨ret_bool HF.out.symm, hbw1⟩
  · have hok2 : okF size L = false := by simpa using hok
    rw [hok2]
    have HF : Hid (isF size L bs tl = false) := Lib.hid (by unfold isF; rw [hok2]; rfl)
    clear hok hok2
    go_wp2
    go_ret
    exact ⟨ret_bool HF.out.symm, hbw1⟩
end Go.Proofs.Ytpofkkoiicdpbaa
