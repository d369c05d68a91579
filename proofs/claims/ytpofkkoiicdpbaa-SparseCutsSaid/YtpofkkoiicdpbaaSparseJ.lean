/-
  Walk: octets written into a file.
-/
import Derived.Test.YtpofkkoiicdpbaaSparseI
import Derived.Test.YtpofkkoiicdpbaaSparseW
namespace Go.Proofs.Ytpofkkoiicdpbaa
open Go.RowKit
set_option linter.unusedVariables false

theorem Rd.cut {w : World} {B n k c : Nat} {A : Option Addr} {l : List UInt8} (h : Rd w B 1 A n (octV l)) (hk : k ≤ n) (hc : n ≤ c) : Rd w B 1 (if c = k then A else A.map (·.add k)) (n - k) (octV (l.drop k)) := by
  have hl := h.1
  rw [octV_len] at hl
  refine ⟨by rw [octV_len, List.length_drop]; omega, fun h0 => ?_⟩
  obtain ⟨g, o, rfl, hb, hcell⟩ := h.2 (by omega)
  rw [if_neg (by omega)]
  refine ⟨g, o + k, by simp [add_form], hb, fun j u hu => ?_⟩
  rw [Nat.add_assoc]
  refine hcell (k + j) u ?_
  rw [← hu]
  unfold octV
  rw [List.map_drop, List.getElem?_drop]
def NotH (Q : Nat → Prop) (H : Nat) (x : Option Nat) (b : Nat) : Prop := b ≠ H ∧ b ≠ H + 1 ∧ some b ≠ x ∧ Q b
theorem lay_oct (x y : List UInt8) (r : Nat) : lay (octV x) r (octV y) = octV (layB x r y) := by
  unfold lay layB
  rw [octV_append, octV_append, octV_take, octV_drop, octV_len]

set_option maxHeartbeats 8000000 in
set_option maxRecDepth 100000 in
theorem Write_q (Q : Nat → Prop) (size : Int) (off : Nat) (A Ab : Option Addr) (n c lb cb : Nat) (L : List Pc) (b : List UInt8) (w : World) (hQ : ∀ b, w.heap.size ≤ b → Q b) (hh : IsQ w w.heap.size Q A n c L) (hb : Rd w w.heap.size 1 Ab lb (octV b)) (hlb : lb ≤ cb) (hcb : cb ≤ maxLen) (hok : okF size L = true) (hs : off + lb ≤ 463488) :
    Calls Try.prog 10 #[.agg #[.int .i64 size, .slice A n c], .int .i64 off, .slice Ab lb cb] w fun e w' =>
      (∃ A' m c' vw L', e = .returned (.tuple #[.agg #[.int .i64 (sizeW size off lb), .slice A' m c'], vw, .int .i64 0]) ∧ IsQ w' w'.heap.size Q A' m c' L' ∧ WInv L off b L' ∧ w'.ownsRow w.heap.size 3 1 vw (blocksW off lb).length (intsV (blocksW off lb))) ∧ Below w.heap.size w w' := by
  obtain ⟨i1, hi, hz0, hz1, hz2⟩ := info_parts Try.info5
  obtain ⟨i2, ki, kz0, kz1, kz2⟩ := info_parts Try.info3
  have h := hh.free
  have hOK := (okF_iff size L).1 hok
  have hst := okF_std hok
  have hLn := h.count
  have hn : n ≤ 3621 := by rw [← hLn]; exact ok_len hOK
  have hbl : b.length = lb := by have := hb.1; rw [octV_len] at this; omega
  have hM : ∀ W, Below w.heap.size w W → Calls Try.prog 21 #[.agg #[.int .i64 size, .slice A n c]] W fun e w' => e = .returned (.bool true) ∧ Below W.heap.size W w' := fun W hW => by
    have := May_any size A n c L W (h.later hW) (by have := hOK.2.1; omega) (by omega)
    rw [hok] at this; exact this
  have hb0 : Below w.heap.size w ((w.alloc (.cells #[.int .i64 size, .slice A n c] 24)).alloc (.cells #[.int .i64 0, .slice none 0 0] 24)) := ((Below.refl _ _).alloc (Nat.le_refl _) _).alloc (by simp) _
  have hB0 : Blk ((w.alloc (.cells #[.int .i64 size, .slice A n c] 24)).alloc (.cells #[.int .i64 0, .slice none 0 0] 24)) w.heap.size 24 (0, 0) #[.int .i64 size, .slice A n c] := (Blk.new w _ _ _).alloc _
  have hB1 : Blk ((w.alloc (.cells #[.int .i64 size, .slice A n c] 24)).alloc (.cells #[.int .i64 0, .slice none 0 0] 24)) (w.heap.size + 1) 24 (0, 0) #[.int .i64 0, .slice none 0 0] := by
    have := Blk.new (w.alloc (.cells #[.int .i64 size, .slice A n c] 24)) 24 (0, 0) #[.int .i64 0, .slice none 0 0]
    simpa using this
  obtain ⟨wx, hwx⟩ : ∃ wx, (w.alloc (.cells #[.int .i64 size, .slice A n c] 24)).alloc (.cells #[.int .i64 0, .slice none 0 0] 24) = wx := ⟨_, rfl⟩
  have hsx : wx.heap.size = w.heap.size + 2 := by rw [← hwx]; simp
  rw [hwx] at hb0 hB0 hB1
  obtain ⟨hs0, hs1, _⟩ := hOK
  obtain ⟨sz, hsz⟩ : ∃ sz, sizeW size off lb = sz := ⟨_, rfl⟩
  have hszc : (lb = 0 ∧ sz = size) ∨ (0 < lb ∧ max size ((off : Int) + (lb : Int)) = sz) := by
    rw [← hsz]; unfold sizeW
    by_cases h0 : lb = 0
    · rw [if_pos h0]; exact .inl ⟨h0, rfl⟩
    · rw [if_neg h0]; exact .inr ⟨by omega, rfl⟩
  rw [hsz]
  have hsz1 : 0 ≤ sz ∧ sz ≤ 463488 := by omega
  obtain ⟨hsz2, hsz3⟩ := hsz1
  have HOK := Lib.hid ((okF_iff size L).1 hok)
  have HST := Lib.hid hst
  have HM := Lib.hid hM
  have H := Lib.hid hh
  have HBL := Lib.hid hbl
  have HBR := Lib.hid hb
  have HB0 := Lib.hid hB0
  have HB1 := Lib.hid hB1
  have HWX := Lib.hid hwx
  have HSX := Lib.hid hsx
  have hd1 : decide ((463488 : Int) < (off : Int)) = false := decide_eq_false (by omega)
  have hd2 : decide ((463488 : Int) - (off : Int) < (lb : Int)) = false := decide_eq_false (by omega)
  unfold maxLen at hcb
  clear h hh hb hok hst hLn hbl hM hB0 hB1 hwx hsx hsz
  rcases hszc with ⟨h0, rfl⟩ | ⟨hlb0, hmax⟩
  · have hlb0 : lb ≤ 0 := by omega
    have hd3 : decide ((0 : Int) < (lb : Int)) = false := decide_eq_false (by omega)
    clear h0
    go_enter Try.func10, Try.ntmps10
    go_wp2_with fail
    rw [HWX.out]
    refine (HM.out _ hb0).mono ?_
    rintro e w0 ⟨rfl, h1⟩
    have hb2 := hb0.trans (h1.mono hb0.size)
    have hC0 := HB0.out.below h1 HB0.out.lt
    have hC1 := HB1.out.below h1 HB1.out.lt
    obtain ⟨d0, d1, f0, f1⟩ := blk2 hC0
    have hl1 := hC1.lt
    have HD0 := Lib.hid hC0
    have HD1 := Lib.hid hC1
    have HP0 := Lib.hid (show Below w.heap.size w w0 from hb2)
    clear hC0 hC1
    go_wp2
    go_loopw [2, 9, 10] (fun bv wv av wr => ∃ (j m : Nat) (Aj : Option Addr) (cj : Nat) (wv0 : Value) (A1 : Option Addr) (n1 c1 : Nat) (L1 : List Pc), Hid (j + m = lb) ∧ (j = 0 ∨ m = 0 ∨ (off + j) % 128 = 0) ∧ bv = .slice Aj m cj ∧ m ≤ lb ∧ m ≤ cj ∧ cj ≤ 9223372036854775807 ∧ Hid (Rd wr w.heap.size 1 Aj m (octV (b.drop j))) ∧ wv0 = wv ∧ Hid (wr.ownsRow (w.heap.size + 2) 3 1 wv0 (blocksW off j).length (intsV (blocksW off j))) ∧ av = .int .i64 ((off : Int) + (j : Int)) ∧ Hid (IsQ wr wr.heap.size (NotH Q w.heap.size wv0.ownBlock) A1 n1 c1 L1) ∧ Hid (WInv L off (b.take j) L1) ∧ Blk wr w.heap.size 24 (0, 0) #[.int .i64 sz, .slice A1 n1 c1] ∧ Blk wr (w.heap.size + 1) 24 (0, 0) #[.int .i64 0, .slice none 0 0] ∧ Below w.heap.size w wr) (fun bv _ _ _ => match bv with | .slice _ m _ => m | _ => 0)
    case atStart => exact ⟨0, lb, Ab, cb, _, A, n, c, L, Lib.hid (Nat.zero_add _), .inl rfl, rfl, Nat.le_refl _, hlb, by omega, Lib.hid (HBR.out.below hb2), rfl, Lib.hid ⟨rfl, .inl ⟨rfl, rfl⟩⟩, by simp, Lib.hid (((H.out.below hb2).imp (fun b hb hq => ⟨by omega, by omega, (fun e => by cases e), hq⟩)).more hb2.size), Lib.hid (WInv.start L off HST.out), HD0.out, HD1.out, hb2⟩
    case round =>
      obtain ⟨j, m, Aj, cj, wv0, A1, n1, c1, L1, HJM, hjb, rfl, hml, hmc, hcj, HRR, rfl, HOW, rfl, HIQ, HWI, hE0, hE1, hbw⟩ := hrel
      have hsw := hbw.size
      have hE1l := hE1.lt
      have HVL : Hid (∀ k, wv0.ownBlock = some k → w.heap.size + 2 ≤ k ∧ k < wr.heap.size) := Lib.hid (fun k hk => HOW.out.lt k hk)
      have hn1 : n1 ≤ 3621 := by
        rw [← HIQ.out.free.count]
        exact WInv.len L L1 _ off (b.take j) HOK.out HWI.out (by rw [List.length_take, HBL.out]; omega)
      by_cases hlt : 0 < m
      · exact absurd hlt (by omega)
      · obtain rfl : m = 0 := by omega
        have htop2 : decide ((0 : Int) < ((0 : Nat) : Int)) = false := by decide
        have hjl : j = lb := by have := HJM.out; omega
        have HWF : Hid (WInv L off b L1) := Lib.hid (by have := HWI.out; rw [hjl, List.take_of_length_le (by rw [HBL.out]; exact Nat.le_refl _)] at this; exact this)
        have hOw := own_any (NotH Q w.heap.size none) sz A1 n1 c1 L1 wr (fun b' hb' => ⟨by omega, by omega, (fun e => by cases e), hQ _ (by omega)⟩) (HIQ.out.imp fun b' _ hb' => ⟨hb'.1, hb'.2.1, (fun e => by cases e), hb'.2.2.2⟩) (by omega) (fun p' hp' => by have := (HWI.out.1.2 p' hp').2; omega)
        have HOWN := Lib.hid hOw
        have HO0 : Hid (wr.ownsRow (w.heap.size + 2) 3 1 wv0 (blocksW off lb).length (intsV (blocksW off lb))) := Lib.hid (by rw [← hjl]; exact HOW.out)
        obtain ⟨d0, d1, f0, f1⟩ := blk2 hE0
        have HE1 := Lib.hid hE1
        clear hOw hjl hjb hE0 hE1
        go_wp2_with fail
        refine HOWN.out.mono ?_
        rintro e w4 ⟨⟨A4, n4, c4, rfl, hI4⟩, h4⟩
        have hE1 := HE1.out.below h4 hE1l
        obtain ⟨r0, r1, z0, z1⟩ := blk2 hE1
        have hb4 : Below w.heap.size w w4 := hbw.trans (h4.mono hsw)
        have hbf : Below w.heap.size w ((w4.setCell ⟨w.heap.size + 1, 0, none⟩ (.int .i64 sz)).setCell ⟨w.heap.size + 1, 1, none⟩ (.slice A4 n4 c4)) := (hb4.setCell (by simp) _).setCell (by simp) _
        have hIf : IsQ ((w4.setCell ⟨w.heap.size + 1, 0, none⟩ (.int .i64 sz)).setCell ⟨w.heap.size + 1, 1, none⟩ (.slice A4 n4 c4)) ((w4.setCell ⟨w.heap.size + 1, 0, none⟩ (.int .i64 sz)).setCell ⟨w.heap.size + 1, 1, none⟩ (.slice A4 n4 c4)).heap.size Q A4 n4 c4 L1 := by
          refine ((hI4.keep fun p' _ hq' => ?_).more (by simp)).imp fun _ _ hq' => hq'.2.2.2
          rw [cell_far (by show p'.block ≠ w.heap.size + 1; exact hq'.2.1), cell_far (by show p'.block ≠ w.heap.size + 1; exact hq'.2.1)]
        have hOf : ((w4.setCell ⟨w.heap.size + 1, 0, none⟩ (.int .i64 sz)).setCell ⟨w.heap.size + 1, 1, none⟩ (.slice A4 n4 c4)).ownsRow w.heap.size 3 1 wv0 (blocksW off lb).length (intsV (blocksW off lb)) :=
          own_base (ownsRow_setCell_below (ownsRow_setCell_below (own_below HO0.out h4 fun k' hk' => (HVL.out k' hk').2) (by simp) _) (by simp) _) (by omega)
        have HIF := Lib.hid hIf
        have HOF := Lib.hid hOf
        clear hIf hOf hI4 hE1 d0 d1 f0 f1
        go_wp2
        exact bodyPost_ret (v := .tuple #[.agg #[.int .i64 sz, .slice A4 n4 c4], wv0, .int .i64 0]) (by simp [results, Try.results10, go_sem, r0, r1]) rfl ⟨⟨_, n4, c4, wv0, L1, rfl, HIF.out, HWF.out, HOF.out⟩, hbf⟩
  · go_enter Try.func10, Try.ntmps10
    go_wp2_with fail
    rw [HWX.out]
    refine (HM.out _ hb0).mono ?_
    rintro e w1 ⟨rfl, h1⟩
    have hb1 := hb0.trans (h1.mono hb0.size)
    have hC0 := HB0.out.below h1 HB0.out.lt
    have hC1 := HB1.out.below h1 HB1.out.lt
    obtain ⟨d0, d1, f0, f1⟩ := blk2 hC0
    have hl1' := hC1.lt
    obtain ⟨w0, hw0⟩ : ∃ w0, w1.setCell ⟨w.heap.size, 0, none⟩ (.int .i64 sz) = w0 := ⟨_, rfl⟩
    have hD0 : Blk w0 w.heap.size 24 (0, 0) #[.int .i64 sz, .slice A n c] := by rw [← hw0]; exact hC0.set_ 0 _
    have hD1 : Blk w0 (w.heap.size + 1) 24 (0, 0) #[.int .i64 0, .slice none 0 0] := by rw [← hw0]; exact hC1.far (by show w.heap.size + 1 ≠ w.heap.size; omega) _
    have hb2 : Below w.heap.size w w0 := by rw [← hw0]; exact hb1.setCell (Nat.le_refl _) _
    have hl1 := hD1.lt
    have HD0 := Lib.hid hD0
    have HD1 := Lib.hid hD1
    clear hC0 hC1 hD0 hD1
    go_wp2
    clear hw0 d0 d1 f0 f1
    go_loopw [2, 9, 10] (fun bv wv av wr => ∃ (j m : Nat) (Aj : Option Addr) (cj : Nat) (wv0 : Value) (A1 : Option Addr) (n1 c1 : Nat) (L1 : List Pc), Hid (j + m = lb) ∧ (j = 0 ∨ m = 0 ∨ (off + j) % 128 = 0) ∧ bv = .slice Aj m cj ∧ m ≤ lb ∧ m ≤ cj ∧ cj ≤ 9223372036854775807 ∧ Hid (Rd wr w.heap.size 1 Aj m (octV (b.drop j))) ∧ wv0 = wv ∧ Hid (wr.ownsRow (w.heap.size + 2) 3 1 wv0 (blocksW off j).length (intsV (blocksW off j))) ∧ av = .int .i64 ((off : Int) + (j : Int)) ∧ Hid (IsQ wr wr.heap.size (NotH Q w.heap.size wv0.ownBlock) A1 n1 c1 L1) ∧ Hid (WInv L off (b.take j) L1) ∧ Blk wr w.heap.size 24 (0, 0) #[.int .i64 sz, .slice A1 n1 c1] ∧ Blk wr (w.heap.size + 1) 24 (0, 0) #[.int .i64 0, .slice none 0 0] ∧ Below w.heap.size w wr) (fun bv _ _ _ => match bv with | .slice _ m _ => m | _ => 0)
    case atStart => exact ⟨0, lb, Ab, cb, _, A, n, c, L, Lib.hid (Nat.zero_add _), .inl rfl, rfl, Nat.le_refl _, hlb, by omega, Lib.hid (HBR.out.below hb2), rfl, Lib.hid ⟨rfl, .inl ⟨rfl, rfl⟩⟩, by simp, Lib.hid (((H.out.below hb2).imp (fun b hb hq => ⟨by omega, by omega, (fun e => by cases e), hq⟩)).more hb2.size), Lib.hid (WInv.start L off HST.out), HD0.out, HD1.out, hb2⟩
    case round =>
      obtain ⟨j, m, Aj, cj, wv0, A1, n1, c1, L1, HJM, hjb, rfl, hml, hmc, hcj, HRR, rfl, HOW, rfl, HIQ, HWI, hE0, hE1, hbw⟩ := hrel
      have hsw := hbw.size
      have hE1l := hE1.lt
      have HVL : Hid (∀ k, wv0.ownBlock = some k → w.heap.size + 2 ≤ k ∧ k < wr.heap.size) := Lib.hid (fun k hk => HOW.out.lt k hk)
      have hn1 : n1 ≤ 3621 := by
        rw [← HIQ.out.free.count]
        exact WInv.len L L1 _ off (b.take j) HOK.out HWI.out (by rw [List.length_take, HBL.out]; omega)
      by_cases hlt : 0 < m
      · obtain ⟨p, hp⟩ : ∃ p, off + j = p := ⟨_, rfl⟩
        obtain ⟨q, hq⟩ : ∃ q : Nat, p / 128 = q := ⟨_, rfl⟩
        obtain ⟨r, hr⟩ : ∃ r : Nat, p % 128 = r := ⟨_, rfl⟩
        obtain ⟨k, hk⟩ : ∃ k : Nat, k = min m (128 - r) := ⟨_, rfl⟩
        have hjm := HJM.out
        have hr128 : r < 128 := by omega
        have hne128 : ¬ (128 = r) := by omega
        have hpi : (off : Int) + (j : Int) = (p : Int) := by omega
        have hqi : (p : Int) / 128 = (q : Int) := by omega
        have hri : (p : Int) % 128 = (r : Int) := by omega
        have hbr : j = 0 ∨ r = 0 := by omega
        have hk1 : 1 ≤ k := by omega
        have hkm : k ≤ m := by omega
        have hkr : r + k ≤ 128 := by omega
        have hpm : p < 463488 := by omega
        have hq2 : q ≤ 3620 := by omega
        have hstep := WInv.step L L1 off j k q r b HWI.out (by rw [HBL.out]; omega) (by rw [hp]; exact hq) (by rw [hp]; exact hr) (by rw [HBL.out]; omega) hbr
        have hwst := blocksW_step off j k q r lb (by omega) (by rw [hp]; exact hq) (by rw [hp]; exact hr) (by omega) hbr
        have hO := octB_any sz (q : Int) A1 n1 c1 L1 wr HIQ.out.free HWI.out.1 (by omega)
        have hol := octB_len L1 q HWI.out.1
        obtain ⟨gb, ob, rfl, hgb, hcell⟩ := HRR.out.2 hlt
        have hyl : ((b.drop j).take k).length = k := by rw [List.length_take, List.length_drop, HBL.out]; omega
        obtain ⟨X, hX⟩ : ∃ X, layB (octB L1 q) r ((b.drop j).take k) = X := ⟨_, rfl⟩
        have hXl : X.length = 128 := by rw [← hX, layB_len _ _ _ (by rw [hyl, hol]; omega), hol]
        rw [hX] at hstep
        have hjk : Hid ((j + k) + (m - k) = lb) := Lib.hid (by omega)
        have hjb2 : (j + k = 0 ∨ m - k = 0 ∨ (off + (j + k)) % 128 = 0) := by omega
        obtain ⟨d0, d1, f0, f1⟩ := blk2 hE0
        have HST2 := Lib.hid hstep
        have HWST := Lib.hid hwst
        have HO2 := Lib.hid hO
        have HOL := Lib.hid hol
        have HX := Lib.hid hX
        have HXL := Lib.hid hXl
        have HYL := Lib.hid hyl
        have HPI := Lib.hid hpi
        have HE0 := Lib.hid hE0
        have HE1 := Lib.hid hE1
        have HMK := Lib.hid (show Nat.min m (128 - r) = k by rw [hk])
        have htop : decide (0 < m) = true := decide_eq_true hlt
        have htop2 : decide ((0 : Int) < (m : Int)) = true := decide_eq_true (by omega)
        have HJB2 := Lib.hid hjb2
        have hr0 : (0 : Int) ≤ (r : Int) := by omega
        have hr1 : (r : Int) ≤ 128 := by omega
        have hk0 : (0 : Int) ≤ (k : Int) := by omega
        have hkm' : (k : Int) ≤ (m : Int) := by omega
        have hpk : (p : Int) + (k : Int) = ((p + k : Nat) : Int) := by omega
        have hwpk : IntKind.i64.wrap ((p : Int) + (k : Int)) = (p : Int) + (k : Int) := IntWalk.i64_in _ ⟨by omega, by omega⟩
        clear hp hpi hq hr hk hstep hwst hO hol hyl hX hXl hE0 hE1 hjm hjb hjb2 hcell hpk
        rw [HPI.out]
        go_wp2_with fail
        refine HO2.out.mono ?_
        rintro e w2 ⟨⟨gx, rfl, hBo⟩, h2⟩
        have hgx := hBo.base_
        have hgxl := hBo.lt
        have hs2 := h2.size
        have HR2 := Lib.hid (HRR.out.below (h2.mono hsw))
        obtain ⟨cur, hkc, hcs, hct, hrest⟩ := hBo
        clear hrest
        have hcur : cur.toList = octV (octB L1 q) := by rw [← hct, List.take_of_length_le (by rw [Array.length_toList, hcs]; exact Nat.le_refl _)]
        have hkc' : Blk w2 gx 5 (0, 0) (octV (octB L1 q)).toArray := by rw [← hcur]; simpa using hkc
        have hRk : ∀ i u, (octV ((b.drop j).take k))[i]? = some u → w2.cell? ((⟨gb, ob, none⟩ : Addr).add i) = some u := by
          intro i u hu
          obtain ⟨g', o', e', _, hc'⟩ := HR2.out.2 hlt
          injection e' with e'
          injection e' with e1 e2 _
          subst e1 e2
          rw [add_form]
          refine hc' i u ?_
          rw [octV_take, List.getElem?_take] at hu
          split at hu
          · exact hu
          · cases hu
        have hoyl : (octV ((b.drop j).take k)).length = k := by rw [octV_len]; exact HYL.out
        have hcp := run_copy_many (P := Try.prog) w2 25 25 3 5 i1 1 gx r (128 - r) (128 - r) ⟨gb, ob, none⟩ m cj (octV ((b.drop j).take k)) Try.underlying25 hi hz1 (by rw [HMK.out, hoyl, Nat.mul_one])
          hRk (fun i hi' => hkc'.isSome (by rw [octV_len, HOL.out]; omega)) (fun i _ => hkc'.free _) (octV_one _)
        rw [HMK.out] at hcp
        have hB3 := hkc'.setCells (octV ((b.drop j).take k)) r w2 _ (by rw [hoyl, octV_len, HOL.out]; omega)
        rw [lay_oct, HX.out] at hB3
        have hb3 : Below wr.heap.size wr (w2.setCells gx r (octV ((b.drop j).take k))) := below_setCells hgx _ _ _ h2
        have hsz3 : (w2.setCells gx r (octV ((b.drop j).take k))).heap.size = w2.heap.size := size_setCells _ _ _
        obtain ⟨w3, hw3⟩ : ∃ w3, w2.setCells gx r (octV ((b.drop j).take k)) = w3 := ⟨_, rfl⟩
        rw [hw3] at hcp hB3 hb3 hsz3
        have hE0 := HE0.out.below hb3 (by omega)
        have hE1 := HE1.out.below hb3 (by omega)
        obtain ⟨d0', d1', f0', f1'⟩ := blk2 hE0
        have HCP := Lib.hid hcp
        have hXrd : RdB w3 w3.heap.size (NotH Q w.heap.size wv0.ownBlock) (.slice (some ⟨gx, 0, none⟩) X.length 128) X := by
          have hro : OwnB w3 gx 5 1 gx 128 128 (octV X) := ⟨(octV X).toArray, hB3, by simp [octV_len, HXL.out], by rw [List.take_of_length_le (by simp [octV_len, HXL.out])], by rw [octV_len, HXL.out], Nat.le_refl _, Nat.le_refl _, by simp [maxLen]⟩
          have q' := RdB.of_own hro.own
          rw [HXL.out]
          exact q'.imp fun b' _ hb' => ⟨by omega, by omega, (fun e => by have := (HVL.out _ e.symm).2; omega), hQ _ (by omega)⟩
        have hIQ3 := HIQ.out.later hb3
        have hP : ∀ W, Below w3.heap.size w3 W → Calls Try.prog 25 #[.agg #[.int .i64 sz, .slice A1 n1 c1], .int .i64 q, .slice (some ⟨gx, 0, none⟩) 128 128] W fun e w' => (∃ A' m' c', e = .returned (.agg #[.int .i64 sz, .slice A' m' c']) ∧ IsQ w' w'.heap.size (NotH Q w.heap.size wv0.ownBlock) A' m' c' (putF L1 q X)) ∧ Below W.heap.size W w' := fun W hW => by
          have := put_any (NotH Q w.heap.size wv0.ownBlock) sz q A1 (some ⟨gx, 0, none⟩) n1 c1 128 L1 X W (fun b' hb' => by have := hW.size; exact ⟨by omega, by omega, (fun e => by have := (HVL.out _ e.symm).2; omega), hQ _ (by omega)⟩) (hIQ3.later hW) HWI.out.1.1 (by omega) ((hXrd.below hW).more hW.size)
          rw [HXL.out] at this
          exact this
        have HP := Lib.hid hP
        have HE0 := Lib.hid hE0
        have HE1 := Lib.hid hE1
        have hR3 : Rd w3 w.heap.size 1 (some ⟨gb, ob, none⟩) m (octV (b.drop j)) := HRR.out.below (hb3.mono hsw)
        have hcutr := Rd.cut hR3 hkm hmc
        have HCUT := Lib.hid hcutr
        clear hE0 hE1 hcp hXrd hIQ3 hP hR3 hcutr hB3 hkc hkc' hcs hct hcur hRk hoyl hw3 d0 d1 f0 f1 cur
        have hcc : (cj = k ∧ (if cj = k then (some ⟨gb, ob, none⟩ : Option Addr) else (some ⟨gb, ob, none⟩ : Option Addr).map (·.add k)) = some ⟨gb, ob, none⟩) ∨ (¬ cj = k ∧ (if cj = k then (some ⟨gb, ob, none⟩ : Option Addr) else (some ⟨gb, ob, none⟩ : Option Addr).map (·.add k)) = some ⟨gb, ob + k, none⟩) := by
          by_cases hc : cj = k
          · exact .inl ⟨hc, if_pos hc⟩
          · exact .inr ⟨hc, by rw [if_neg hc, Option.map_some, add_form]⟩
        obtain ⟨hcc1, hcc2⟩ | ⟨hcc1, hcc2⟩ := hcc
        · rw [hcc2] at HCUT
          clear hcc2
          obtain rfl : m = k := by omega
          subst hcc1
          go_wp2_with (refine wpList_copy_known _ rfl (.tmp 59) (.tmp 60) 25 25 rfl _ _ rfl rfl HCP.out ?_)
          go_region_with ((go_at_call 25; refine (HP.out _ (below_drew (Below.refl _ _))).mono ?_; rintro e w4 ⟨⟨A2, n2, c2, rfl, hI4⟩, h4⟩; have y0 : w4.cell? ⟨w.heap.size, 0, none⟩ = some (.int .i64 sz) := (h4.cell (p := ⟨w.heap.size, 0, none⟩) (by show w.heap.size < w3.heap.size; omega)).trans d0'; have y1 : w4.cell? ⟨w.heap.size, 1, none⟩ = some (.slice A1 n1 c1) := (h4.cell (p := ⟨w.heap.size, 1, none⟩) (by show w.heap.size < w3.heap.size; omega)).trans d1'; have y2 : w4.frozen? ⟨w.heap.size, 0, none⟩ = false := (h4.frozen (p := ⟨w.heap.size, 0, none⟩) (by show w.heap.size < w3.heap.size; omega)).trans f0'; have y3 : w4.frozen? ⟨w.heap.size, 1, none⟩ = false := (h4.frozen (p := ⟨w.heap.size, 1, none⟩) (by show w.heap.size < w3.heap.size; omega)).trans f1'))
          all_goals
            have h4' : Below w3.heap.size w3 w4 := (below_drew (Below.refl w3.heap.size w3)).trans h4
            have hs4 := h4'.size
            obtain ⟨w5, hw5⟩ : ∃ w5, (w4.setCell ⟨w.heap.size, 0, none⟩ (.int .i64 sz)).setCell ⟨w.heap.size, 1, none⟩ (.slice A2 n2 c2) = w5 := ⟨_, rfl⟩
            have hF0 : Blk w5 w.heap.size 24 (0, 0) #[.int .i64 sz, .slice A2 n2 c2] := by rw [← hw5]; exact ((HE0.out.below h4' (by omega)).set_ 0 (.int .i64 sz)).set_ 1 (.slice A2 n2 c2)
            have hF1 : Blk w5 (w.heap.size + 1) 24 (0, 0) #[.int .i64 0, .slice none 0 0] := by rw [← hw5]; exact ((HE1.out.below h4' (by omega)).far (by show w.heap.size + 1 ≠ w.heap.size; omega) _).far (by show w.heap.size + 1 ≠ w.heap.size; omega) _
            have hb4 : Below w.heap.size w w4 := (hbw.trans (hb3.mono hsw)).trans (h4'.mono (by omega))
            have hb5 : Below w.heap.size w w5 := by rw [← hw5]; exact (hb4.setCell (Nat.le_refl _) _).setCell (Nat.le_refl _) _
            have hs5 : w5.heap.size = w4.heap.size := by rw [← hw5]; simp
            have hI5 : IsQ w5 w5.heap.size (NotH Q w.heap.size wv0.ownBlock) A2 n2 c2 (putF L1 q X) := by
              rw [hs5]
              refine hI4.keep fun p' _ hq' => ?_
              rw [← hw5, cell_far (by show p'.block ≠ w.heap.size; exact hq'.1), cell_far (by show p'.block ≠ w.heap.size; exact hq'.1)]
            have hO5 : w5.ownsRow (w.heap.size + 2) 3 1 wv0 (blocksW off j).length (intsV (blocksW off j)) := by
              rw [← hw5]
              refine ownsRow_setCell_below (ownsRow_setCell_below (own_below (own_below HOW.out hb3 fun k' hk' => (HVL.out k' hk').2) h4' fun k' hk' => ?_) (by simp) _) (by simp) _
              have := (HVL.out k' hk').2
              omega
            have hr35 : Below w.heap.size w3 w5 := by
              rw [← hw5]
              exact Below.setCell (p := ⟨w.heap.size, 1, none⟩) (Below.setCell (p := ⟨w.heap.size, 0, none⟩) (h4'.mono (show w.heap.size ≤ w3.heap.size by omega)) (Nat.le_refl _) _) (Nat.le_refl _) _
            have HR5 := Lib.hid (HCUT.out.below hr35)
            have HF0 := Lib.hid hF0
            have HF1 := Lib.hid hF1
            have HI5 := Lib.hid hI5
            have HO5 := Lib.hid hO5
            have hx5 : w.heap.size + 1 < w5.heap.size := by omega
            have hvl5 : ∀ k', wv0.ownBlock = some k' → k' < w5.heap.size := fun k' hk' => by have := (HVL.out k' hk').2; omega
            have HV5 := Lib.hid hvl5
            have HLEN := Lib.hid (show (blocksW off j).length ≤ 3621 by have := HJM.out; unfold blocksW; split <;> simp [tab_len]; omega)
            have hll := HLEN.out
            obtain ⟨bl, hbl⟩ : ∃ bl, (blocksW off j).length = bl := ⟨_, rfl⟩
            rw [hbl] at HO5 hll
            have HBLN := Lib.hid hbl
            clear hbl
            clear hsz3 hF0 hF1 hI5 hO5 hI4 y0 y1 y2 y3 d0' d1' f0' f1' h4 hs5 hvl5 hr35
            have hbsl : ∀ (W : World) (x : Int), (Instr.buildSlice 28 1 #[(0, .int .i64 x)]).run Try.prog W = .ok (.slice (some ⟨W.heap.size, 0, none⟩) 1 1) (W.alloc (.cells #[.int .i64 x] 3)) := fun W x => by kernel_rfl
            go_wp2_with (at_builtin; refine wpList_append_at _ rfl (.tmp 72) (.tmp 74) 28 rfl (w.heap.size + 2) 3 i2 _ 1 8 Try.underlying28 ki kz0 kz1 kz2 rfl (by decide) wv0 bl _ rfl (HO5.out.alloc _) (some ⟨w5.heap.size, 0, none⟩) 1 1 _ [.int .i64 q] rfl (fun e => by cases e) (OwnB.lit w5 w5.heap.size (Nat.le_refl _) 3 1 1 #[.int .i64 q] rfl (by simp [maxLen])).rd (one_cell rfl) (by unfold maxLen; omega) (by omega) (by simp; omega) (w5.heap.size + 1) (by simp) (bl + 1) rfl ?_)
            intro A6 c6 w6 hown6 hgrow6 hat6
            have hr6 : Below (w.heap.size + 2) w5 w6 := ((Below.refl _ _).alloc (by omega) _).grown hgrow6 (by simp; omega) (fun k' hk' => (HVL.out k' hk').1)
            have hG0 := Lib.hid (HF0.out.below hr6 (by omega))
            have hG1 := Lib.hid (HF1.out.below hr6 (by omega))
            have hb6 := hb5.trans (hr6.mono (by omega))
            have HR6 := Lib.hid (by have := HR5.out.below (hr6.mono (by omega)); rw [List.drop_drop] at this; exact this)
            have HI6 : Hid (IsQ w6 w6.heap.size (NotH Q w.heap.size (Value.slice A6 (bl + 1) c6).ownBlock) A2 n2 c2 (putF L1 q X)) := Lib.hid (by
              have q1 : IsQ w6 w5.heap.size (NotH Q w.heap.size wv0.ownBlock) A2 n2 c2 (putF L1 q X) := HI5.out.keep fun p' hp' hq' => by
                rw [cell_grown hgrow6 (by simp; omega) hq'.2.2.1, World.cell?_alloc_lt _ _ _ hp']
              refine (q1.imp fun b' hb' hq' => ⟨hq'.1, hq'.2.1, fun e => ?_, hq'.2.2.2⟩).more hr6.size
              rcases hat6 with h' | h'
              · exact hq'.2.2.1 (by rw [e, h'])
              · rw [h'] at e
                injection e with e
                omega)
            have HO6 : Hid (w6.ownsRow (w.heap.size + 2) 3 1 (.slice A6 (bl + 1) c6) (blocksW off (j + cj)).length (intsV (blocksW off (j + cj)))) := Lib.hid (by
              rw [HWST.out, List.length_append, HBLN.out, intsV_snoc]; exact hown6)
            have hnx : Value.int .i64 ((p : Int) + (cj : Int)) = .int .i64 ((off : Int) + ((j + cj : Nat) : Int)) := congrArg _ (by have := HPI.out; omega)
            have HNX := Lib.hid hnx
            clear hown6 hgrow6 hat6 hnx
            go_wp2
            go_roundw
            case rel => exact ⟨j + cj, cj - cj, some ⟨gb, ob, none⟩, cj - cj, _, A2, n2, c2, _, hjk, HJB2.out, by simp, by omega, by omega, by omega, HR6, rfl, HO6, HNX.out, HI6, HST2, hG0.out, hG1.out, hb6⟩
            case measure => simp; omega
        · rw [hcc2] at HCUT
          clear hcc2
          have hkc' : (k : Int) ≤ (cj : Int) := by omega
          go_wp2_with (refine wpList_copy_known _ rfl (.tmp 59) (.tmp 60) 25 25 rfl _ _ rfl rfl HCP.out ?_)
          go_region_with ((go_at_call 25; refine (HP.out _ (below_drew (Below.refl _ _))).mono ?_; rintro e w4 ⟨⟨A2, n2, c2, rfl, hI4⟩, h4⟩; have y0 : w4.cell? ⟨w.heap.size, 0, none⟩ = some (.int .i64 sz) := (h4.cell (p := ⟨w.heap.size, 0, none⟩) (by show w.heap.size < w3.heap.size; omega)).trans d0'; have y1 : w4.cell? ⟨w.heap.size, 1, none⟩ = some (.slice A1 n1 c1) := (h4.cell (p := ⟨w.heap.size, 1, none⟩) (by show w.heap.size < w3.heap.size; omega)).trans d1'; have y2 : w4.frozen? ⟨w.heap.size, 0, none⟩ = false := (h4.frozen (p := ⟨w.heap.size, 0, none⟩) (by show w.heap.size < w3.heap.size; omega)).trans f0'; have y3 : w4.frozen? ⟨w.heap.size, 1, none⟩ = false := (h4.frozen (p := ⟨w.heap.size, 1, none⟩) (by show w.heap.size < w3.heap.size; omega)).trans f1'))
          all_goals
            have h4' : Below w3.heap.size w3 w4 := (below_drew (Below.refl w3.heap.size w3)).trans h4
            have hs4 := h4'.size
            obtain ⟨w5, hw5⟩ : ∃ w5, (w4.setCell ⟨w.heap.size, 0, none⟩ (.int .i64 sz)).setCell ⟨w.heap.size, 1, none⟩ (.slice A2 n2 c2) = w5 := ⟨_, rfl⟩
            have hF0 : Blk w5 w.heap.size 24 (0, 0) #[.int .i64 sz, .slice A2 n2 c2] := by rw [← hw5]; exact ((HE0.out.below h4' (by omega)).set_ 0 (.int .i64 sz)).set_ 1 (.slice A2 n2 c2)
            have hF1 : Blk w5 (w.heap.size + 1) 24 (0, 0) #[.int .i64 0, .slice none 0 0] := by rw [← hw5]; exact ((HE1.out.below h4' (by omega)).far (by show w.heap.size + 1 ≠ w.heap.size; omega) _).far (by show w.heap.size + 1 ≠ w.heap.size; omega) _
            have hb4 : Below w.heap.size w w4 := (hbw.trans (hb3.mono hsw)).trans (h4'.mono (by omega))
            have hb5 : Below w.heap.size w w5 := by rw [← hw5]; exact (hb4.setCell (Nat.le_refl _) _).setCell (Nat.le_refl _) _
            have hs5 : w5.heap.size = w4.heap.size := by rw [← hw5]; simp
            have hI5 : IsQ w5 w5.heap.size (NotH Q w.heap.size wv0.ownBlock) A2 n2 c2 (putF L1 q X) := by
              rw [hs5]
              refine hI4.keep fun p' _ hq' => ?_
              rw [← hw5, cell_far (by show p'.block ≠ w.heap.size; exact hq'.1), cell_far (by show p'.block ≠ w.heap.size; exact hq'.1)]
            have hO5 : w5.ownsRow (w.heap.size + 2) 3 1 wv0 (blocksW off j).length (intsV (blocksW off j)) := by
              rw [← hw5]
              refine ownsRow_setCell_below (ownsRow_setCell_below (own_below (own_below HOW.out hb3 fun k' hk' => (HVL.out k' hk').2) h4' fun k' hk' => ?_) (by simp) _) (by simp) _
              have := (HVL.out k' hk').2
              omega
            have hr35 : Below w.heap.size w3 w5 := by
              rw [← hw5]
              exact Below.setCell (p := ⟨w.heap.size, 1, none⟩) (Below.setCell (p := ⟨w.heap.size, 0, none⟩) (h4'.mono (show w.heap.size ≤ w3.heap.size by omega)) (Nat.le_refl _) _) (Nat.le_refl _) _
            have HR5 := Lib.hid (HCUT.out.below hr35)
            have HF0 := Lib.hid hF0
            have HF1 := Lib.hid hF1
            have HI5 := Lib.hid hI5
            have HO5 := Lib.hid hO5
            have hx5 : w.heap.size + 1 < w5.heap.size := by omega
            have hvl5 : ∀ k', wv0.ownBlock = some k' → k' < w5.heap.size := fun k' hk' => by have := (HVL.out k' hk').2; omega
            have HV5 := Lib.hid hvl5
            have HLEN := Lib.hid (show (blocksW off j).length ≤ 3621 by have := HJM.out; unfold blocksW; split <;> simp [tab_len]; omega)
            have hll := HLEN.out
            obtain ⟨bl, hbl⟩ : ∃ bl, (blocksW off j).length = bl := ⟨_, rfl⟩
            rw [hbl] at HO5 hll
            have HBLN := Lib.hid hbl
            clear hbl
            clear hsz3 hF0 hF1 hI5 hO5 hI4 y0 y1 y2 y3 d0' d1' f0' f1' h4 hs5 hvl5 hr35
            have hbsl : ∀ (W : World) (x : Int), (Instr.buildSlice 28 1 #[(0, .int .i64 x)]).run Try.prog W = .ok (.slice (some ⟨W.heap.size, 0, none⟩) 1 1) (W.alloc (.cells #[.int .i64 x] 3)) := fun W x => by kernel_rfl
            go_wp2_with (at_builtin; refine wpList_append_at _ rfl (.tmp 72) (.tmp 74) 28 rfl (w.heap.size + 2) 3 i2 _ 1 8 Try.underlying28 ki kz0 kz1 kz2 rfl (by decide) wv0 bl _ rfl (HO5.out.alloc _) (some ⟨w5.heap.size, 0, none⟩) 1 1 _ [.int .i64 q] rfl (fun e => by cases e) (OwnB.lit w5 w5.heap.size (Nat.le_refl _) 3 1 1 #[.int .i64 q] rfl (by simp [maxLen])).rd (one_cell rfl) (by unfold maxLen; omega) (by omega) (by simp; omega) (w5.heap.size + 1) (by simp) (bl + 1) rfl ?_)
            intro A6 c6 w6 hown6 hgrow6 hat6
            have hr6 : Below (w.heap.size + 2) w5 w6 := ((Below.refl _ _).alloc (by omega) _).grown hgrow6 (by simp; omega) (fun k' hk' => (HVL.out k' hk').1)
            have hG0 := Lib.hid (HF0.out.below hr6 (by omega))
            have hG1 := Lib.hid (HF1.out.below hr6 (by omega))
            have hb6 := hb5.trans (hr6.mono (by omega))
            have HR6 := Lib.hid (by have := HR5.out.below (hr6.mono (by omega)); rw [List.drop_drop] at this; exact this)
            have HI6 : Hid (IsQ w6 w6.heap.size (NotH Q w.heap.size (Value.slice A6 (bl + 1) c6).ownBlock) A2 n2 c2 (putF L1 q X)) := Lib.hid (by
              have q1 : IsQ w6 w5.heap.size (NotH Q w.heap.size wv0.ownBlock) A2 n2 c2 (putF L1 q X) := HI5.out.keep fun p' hp' hq' => by
                rw [cell_grown hgrow6 (by simp; omega) hq'.2.2.1, World.cell?_alloc_lt _ _ _ hp']
              refine (q1.imp fun b' hb' hq' => ⟨hq'.1, hq'.2.1, fun e => ?_, hq'.2.2.2⟩).more hr6.size
              rcases hat6 with h' | h'
              · exact hq'.2.2.1 (by rw [e, h'])
              · rw [h'] at e
                injection e with e
                omega)
            have HO6 : Hid (w6.ownsRow (w.heap.size + 2) 3 1 (.slice A6 (bl + 1) c6) (blocksW off (j + k)).length (intsV (blocksW off (j + k)))) := Lib.hid (by
              rw [HWST.out, List.length_append, HBLN.out, intsV_snoc]; exact hown6)
            have hnx : Value.int .i64 ((p : Int) + (k : Int)) = .int .i64 ((off : Int) + ((j + k : Nat) : Int)) := congrArg _ (by have := HPI.out; omega)
            have HNX := Lib.hid hnx
            clear hown6 hgrow6 hat6 hnx
            go_wp2
            go_roundw
            case rel => exact ⟨j + k, m - k, some ⟨gb, ob + k, none⟩, cj - k, _, A2, n2, c2, _, hjk, HJB2.out, rfl, by omega, by omega, by omega, HR6, rfl, HO6, HNX.out, HI6, HST2, hG0.out, hG1.out, hb6⟩
            case measure => simp; omega
      · obtain rfl : m = 0 := by omega
        have htop2 : decide ((0 : Int) < ((0 : Nat) : Int)) = false := by decide
        have hjl : j = lb := by have := HJM.out; omega
        have HWF : Hid (WInv L off b L1) := Lib.hid (by have := HWI.out; rw [hjl, List.take_of_length_le (by rw [HBL.out]; exact Nat.le_refl _)] at this; exact this)
        have hOw := own_any (NotH Q w.heap.size none) sz A1 n1 c1 L1 wr (fun b' hb' => ⟨by omega, by omega, (fun e => by cases e), hQ _ (by omega)⟩) (HIQ.out.imp fun b' _ hb' => ⟨hb'.1, hb'.2.1, (fun e => by cases e), hb'.2.2.2⟩) (by omega) (fun p' hp' => by have := (HWI.out.1.2 p' hp').2; omega)
        have HOWN := Lib.hid hOw
        have HO0 : Hid (wr.ownsRow (w.heap.size + 2) 3 1 wv0 (blocksW off lb).length (intsV (blocksW off lb))) := Lib.hid (by rw [← hjl]; exact HOW.out)
        obtain ⟨d0, d1, f0, f1⟩ := blk2 hE0
        have HE1 := Lib.hid hE1
        clear hOw hjl hjb hE0 hE1
        go_wp2_with fail
        refine HOWN.out.mono ?_
        rintro e w4 ⟨⟨A4, n4, c4, rfl, hI4⟩, h4⟩
        have hE1 := HE1.out.below h4 hE1l
        obtain ⟨r0, r1, z0, z1⟩ := blk2 hE1
        have hb4 : Below w.heap.size w w4 := hbw.trans (h4.mono hsw)
        have hbf : Below w.heap.size w ((w4.setCell ⟨w.heap.size + 1, 0, none⟩ (.int .i64 sz)).setCell ⟨w.heap.size + 1, 1, none⟩ (.slice A4 n4 c4)) := (hb4.setCell (by simp) _).setCell (by simp) _
        have hIf : IsQ ((w4.setCell ⟨w.heap.size + 1, 0, none⟩ (.int .i64 sz)).setCell ⟨w.heap.size + 1, 1, none⟩ (.slice A4 n4 c4)) ((w4.setCell ⟨w.heap.size + 1, 0, none⟩ (.int .i64 sz)).setCell ⟨w.heap.size + 1, 1, none⟩ (.slice A4 n4 c4)).heap.size Q A4 n4 c4 L1 := by
          refine ((hI4.keep fun p' _ hq' => ?_).more (by simp)).imp fun _ _ hq' => hq'.2.2.2
          rw [cell_far (by show p'.block ≠ w.heap.size + 1; exact hq'.2.1), cell_far (by show p'.block ≠ w.heap.size + 1; exact hq'.2.1)]
        have hOf : ((w4.setCell ⟨w.heap.size + 1, 0, none⟩ (.int .i64 sz)).setCell ⟨w.heap.size + 1, 1, none⟩ (.slice A4 n4 c4)).ownsRow w.heap.size 3 1 wv0 (blocksW off lb).length (intsV (blocksW off lb)) :=
          own_base (ownsRow_setCell_below (ownsRow_setCell_below (own_below HO0.out h4 fun k' hk' => (HVL.out k' hk').2) (by simp) _) (by simp) _) (by omega)
        have HIF := Lib.hid hIf
        have HOF := Lib.hid hOf
        clear hIf hOf hI4 hE1 d0 d1 f0 f1
        go_wp2
        exact bodyPost_ret (v := .tuple #[.agg #[.int .i64 sz, .slice A4 n4 c4], wv0, .int .i64 0]) (by simp [results, Try.results10, go_sem, r0, r1]) rfl ⟨⟨_, n4, c4, wv0, L1, rfl, HIF.out, HWF.out, HOF.out⟩, hbf⟩
/-- The same, nothing asked of where it lies. -/
theorem Write_ok (size : Int) (off : Nat) (A Ab : Option Addr) (n c lb cb : Nat) (L : List Pc) (b : List UInt8) (w : World) (h : IsP w w.heap.size A n c L) (hb : Rd w w.heap.size 1 Ab lb (octV b)) (hlb : lb ≤ cb) (hcb : cb ≤ maxLen) (hok : okF size L = true) (hs : off + lb ≤ 463488) :
    Calls Try.prog 10 #[.agg #[.int .i64 size, .slice A n c], .int .i64 off, .slice Ab lb cb] w fun e w' =>
      (∃ A' m c' vw L', e = .returned (.tuple #[.agg #[.int .i64 (sizeW size off lb), .slice A' m c'], vw, .int .i64 0]) ∧ IsP w' w'.heap.size A' m c' L' ∧ WInv L off b L' ∧ w'.ownsRow w.heap.size 3 1 vw (blocksW off lb).length (intsV (blocksW off lb))) ∧ Below w.heap.size w w' :=
  (Write_q AnyB size off A Ab n c lb cb L b w (fun _ _ => trivial) (h.toQ fun _ _ => trivial) hb hlb hcb hok hs).mono fun e w' ⟨⟨A', m, c', vw, L', h1, h2, h3⟩, h4⟩ => ⟨⟨A', m, c', vw, L', h1, h2.free, h3⟩, h4⟩
end Go.Proofs.Ytpofkkoiicdpbaa
