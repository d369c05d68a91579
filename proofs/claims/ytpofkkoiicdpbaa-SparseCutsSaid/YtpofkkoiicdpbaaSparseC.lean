/-
  Walk: a file of which no more is looked at than may be.
-/
import Derived.Test.YtpofkkoiicdpbaaSparseB
import Derived.Deep.RegionHeld3
import Derived.Deep.AppendLies
namespace Go.Proofs.Ytpofkkoiicdpbaa
open Go.RowKit
set_option linter.unusedVariables false

def fewZ (size : Int) : Int := if 20000 < size ∧ size ≤ 463488 then 20000 else size
def fewP (L : List Pc) : List Pc := (L.take 20).map fun p => (p.1, p.2.take 130)
theorem fewP_snoc (L : List Pc) (m k : Nat) (x : Pc) (hm : m = min L.length 20) (hk : k < m) (h : L[k]? = some x) : (fewP L).take (k + 1) = (fewP L).take k ++ [(x.1, x.2.take 130)] := by
  refine take_snoc _ _ _ ?_
  unfold fewP
  rw [List.getElem?_map, List.getElem?_take, if_pos (by omega), h]
  rfl
theorem fewP_len (L : List Pc) : (fewP L).length = min L.length 20 := by unfold fewP; rw [List.length_map, List.length_take]; omega
theorem OwnP.isQ {w w' : World} {base lo : Nat} {v : Value} {T : List PV} (h : OwnP w base lo v T) (hk : ∀ p : Addr, p.block < w.heap.size → (some p.block = v.ownBlock ∨ lo ≤ p.block) → w'.cell? p = w.cell? p) (hs : w.heap.size ≤ w'.heap.size) (hlo : lo ≤ base) :
    ∃ A c, v = .slice A T.length c ∧ IsQ w' w'.heap.size (fun b => lo ≤ b) A T.length c (T.map pcP) := by
  obtain ⟨A, c, rfl, h1, h2, h3⟩ := own_form h.1
  refine ⟨A, c, rfl, h1, h2, own_nilc h.1, (fun _ a e => by have := (h.1.lt a.block (by rw [e]; rfl)).1; omega), T, ⟨⟨h3.1, fun hn => ?_⟩, fun t ht => (((h.2 t ht).keep fun p hp hq => hk p hp (.inr hq.1)).more hs).imp fun b _ hq => hq.1⟩, rfl⟩
  obtain ⟨g, o, e, hb, hc⟩ := h3.2 hn
  refine ⟨g, o, e, by omega, fun j u hu => ?_⟩
  rw [hk ⟨g, o + j, none⟩ hb (.inl (by subst e; rfl))]
  exact hc j u hu
theorem blk2 {w : World} {g : Nat} {t : TypeId} {a b : Value} (h : Blk w g t (0, 0) #[a, b]) :
    w.cell? ⟨g, 0, none⟩ = some a ∧ w.cell? ⟨g, 1, none⟩ = some b ∧ w.frozen? ⟨g, 0, none⟩ = false ∧ w.frozen? ⟨g, 1, none⟩ = false := by
  refine ⟨by rw [h.cell]; rfl, by rw [h.cell]; rfl, by rw [h.frozen]; rfl, by rw [h.frozen]; rfl⟩

set_option maxHeartbeats 4000000 in
set_option maxRecDepth 100000 in
theorem Few_q (size : Int) (A : Option Addr) (n c : Nat) (L : List Pc) (w : World) (h : IsP w w.heap.size A n c L) (hs : size ≤ 9223372036854775807) :
    Calls Try.prog 8 #[.agg #[.int .i64 size, .slice A n c]] w fun e w' => (∃ A' m c', e = .returned (.agg #[.int .i64 (fewZ size), .slice A' m c']) ∧ IsQ w' w'.heap.size (fun b => w.heap.size + 2 ≤ b) A' m c' (fewP L)) ∧ Below w.heap.size w w' := by
  obtain ⟨i1, hi, hz0, hz1, hz2⟩ := info_parts Try.info5
  obtain ⟨i2, ki, kz0, kz1, kz2⟩ := info_parts Try.info62
  have hnc := h.1
  have hcm := h.2.1
  have hLn := h.count
  have H := Lib.hid h
  obtain ⟨m, hm⟩ : ∃ m, m = min n 20 := ⟨_, rfl⟩
  have hm20 : m ≤ 20 := by omega
  have hmn : m ≤ n := by omega
  have HM := Lib.hid (show m = min L.length 20 by rw [hLn]; exact hm)
  obtain ⟨sz, hsz⟩ : ∃ sz, fewZ size = sz := ⟨_, rfl⟩
  rw [hsz]
  have hcs : (20000 < size ∧ size ≤ 463488 ∧ sz = 20000) ∨ (size ≤ 20000 ∧ sz = size) ∨ (463488 < size ∧ sz = size) := by
    rw [← hsz]; unfold fewZ
    by_cases h1 : 20000 < size
    · by_cases h2 : size ≤ 463488
      · rw [if_pos ⟨h1, h2⟩]; exact .inl ⟨h1, h2, rfl⟩
      · rw [if_neg (by omega)]; exact .inr (.inr ⟨by omega, rfl⟩)
    · rw [if_neg (by omega)]; exact .inr (.inl ⟨by omega, rfl⟩)
  have hcn : (20 < n ∧ m = 20) ∨ (n ≤ 20 ∧ m = n) := by omega
  unfold maxLen at hcm
  clear h hLn hm hsz
  rcases hcn with ⟨hn20, rfl⟩ | ⟨hn20, rfl⟩
  · rcases hcs with ⟨s1, s2, rfl⟩ | ⟨s1, rfl⟩ | ⟨s1, rfl⟩
    · have hd1 : decide ((20 : Int) < (n : Int)) = true := decide_eq_true (by omega)
      have hd2 : decide ((20000 : Int) < size) = true := decide_eq_true (by omega)
      have hd3 : decide (size ≤ (463488 : Int)) = true := decide_eq_true (by omega)
      go_enter Try.func8, Try.ntmps8
      go_wp2
      go_loopw [3, 4] (fun v i wr => ∃ (v0 : Value) (k : Nat) (T : List PV), v0 = v ∧ k ≤ 20 ∧ i = .int .i64 k ∧ Hid (T.length = k) ∧ Hid (T.map pcP = (fewP L).take k) ∧ OwnP wr (w.heap.size + 2) (w.heap.size + 2) v0 T ∧ Blk wr w.heap.size 24 (0, 0) #[.int .i64 20000, .slice A 20 c] ∧ Blk wr (w.heap.size + 1) 24 (0, 0) #[.int .i64 0, .slice none 0 0] ∧ Below w.heap.size w wr) (fun _ i _ => 20 - (intOf i).toNat)
      case atStart => exact ⟨_, 0, [], rfl, Nat.zero_le _, rfl, Lib.hid rfl, Lib.hid (by simp), OwnP.nil _ _ _, (Blk.new w _ _ _).alloc _, by have := Blk.new (w.alloc (.cells #[.int .i64 20000, .slice A 20 c] 24)) 24 (0, 0) #[.int .i64 0, .slice none 0 0]; simpa using this, ((Below.refl _ _).alloc (Nat.le_refl _) _).alloc (by simp) _⟩
      case round =>
        obtain ⟨v4, k, T, rfl, hk, rfl, HTL, HT, hown, hB0, hB1, hbw⟩ := hrel
        by_cases hlt : k < 20
        · obtain ⟨g, o, x, Ab, cb, rfl, hg, hx, c0, c1, hb1, hb2, hbn, hrb⟩ := (H.out.below hbw).at_ (show k < n by omega)
          obtain ⟨N, l⟩ := x
          simp only at c0 c1 hb1 hrb
          have hsn := fewP_snoc L 20 k (N, l) HM.out hlt hx
          simp only at hsn
          obtain ⟨lb, hlb⟩ : ∃ lb, l.length = lb := ⟨_, rfl⟩
          rw [hlb] at c1 hb1 hrb
          obtain ⟨d0, d1, f0, f1⟩ := blk2 hB0
          have HB0 := Lib.hid hB0
          have HB1 := Lib.hid hB1
          have hown1 : wr.ownsRow (w.heap.size + 2) 62 2 v4 k (rowP T) := by rw [← HTL.out]; exact hown.1
          have HO := Lib.hid hown
          have HO1 := Lib.hid hown1
          have HSN := Lib.hid hsn
          have i0 : (0 : Int) ≤ (k : Int) := Int.natCast_nonneg _
          have i1' : (k : Int) < (20 : Int) := by omega
          have hk20 : k ≤ 20 := by omega
          unfold maxLen at hb2
          have hbs := hbw.size
          have hvlt : ∀ q, v4.ownBlock = some q → q < wr.heap.size := fun q hq => (hown.1.lt q hq).2
          have hvge : ∀ q, v4.ownBlock = some q → w.heap.size + 2 ≤ q := fun q hq => (hown.1.lt q hq).1
          have HVL := Lib.hid hvlt
          have HVG := Lib.hid hvge
          have hsB1 := hB1.lt
          clear hB0 hB1 hown hown1 hsn hx hvlt hvge
          have hl3 : ∃ lb' : Nat, lb' ≤ 130 ∧ Rd wr w.heap.size 1 Ab lb' (octV (l.take 130)) ∧ lb' ≤ lb ∧ ((130 < lb ∧ lb' = 130) ∨ (lb ≤ 130 ∧ lb' = lb)) := by
            rcases Nat.lt_or_ge 130 lb with hh | hh
            · refine ⟨130, Nat.le_refl _, ?_, by omega, .inl ⟨hh, rfl⟩⟩
              have := rd_takeV hrb (show 130 ≤ lb by omega)
              rw [octV_take]; exact this
            · exact ⟨lb, hh, by rw [List.take_of_length_le (by omega)]; exact hrb, Nat.le_refl _, .inr ⟨hh, rfl⟩⟩
          obtain ⟨lb', hl130, hrl, hll, hlc⟩ := hl3
          obtain ⟨l', hl'⟩ : ∃ l', l.take 130 = l' := ⟨_, rfl⟩
          rw [hl'] at hrl HSN
          obtain ⟨wx, hwx⟩ : ∃ wx, wr.alloc (.cells #[.int .i64 N, .slice Ab lb' cb] 62) = wx := ⟨_, rfl⟩
          have hbx : Below wr.heap.size wr wx := by rw [← hwx]; exact (Below.refl _ _).alloc (Nat.le_refl _) _
          have hsx : wx.heap.size = wr.heap.size + 1 := by rw [← hwx]; simp
          obtain ⟨y0, y1, _, _⟩ := blk2 (show Blk wx wr.heap.size 62 (0, 0) #[.int .i64 N, .slice Ab lb' cb] by rw [← hwx]; exact Blk.new _ _ _ _)
          have hE : ((wx.alloc (.cells #[] 5)).drew).ownsRow wx.heap.size 5 1 (.slice (some ⟨wx.heap.size, 0, none⟩) 0 0) 0 [] := (OwnB.lit wx wx.heap.size (Nat.le_refl _) 5 1 0 #[] rfl (by simp [maxLen])).own.drew
          have hrx : Rd ((wx.alloc (.cells #[] 5)).drew) w.heap.size 1 Ab lb' (octV l') := ((hrl.below (hbx.mono hbs)).below ((Below.refl _ _).alloc (by omega) _)).keep fun _ _ => rfl
          have hbe : Below wr.heap.size wr ((wx.alloc (.cells #[] 5)).drew) := below_drew (hbx.alloc (by omega) _)
          have HE := Lib.hid hE
          have HRX := Lib.hid hrx
          have HWX := Lib.hid hwx
          have HBE := Lib.hid hbe
          have hye0 : ((wx.alloc (.cells #[] 5)).drew).cell? ⟨wr.heap.size, 0, none⟩ = some (.int .i64 N) := (old_cell wx _ _ _ (by omega)).trans y0
          have hye1 : ((wx.alloc (.cells #[] 5)).drew).cell? ⟨wr.heap.size, 1, none⟩ = some (.slice Ab lb' cb) := (old_cell wx _ _ _ (by omega)).trans y1
          have HY0 := Lib.hid hye0
          have HY1 := Lib.hid hye1
          have HSX := Lib.hid hsx
          have hsx1 : wr.heap.size < wx.heap.size := by omega
          clear hE hrx hwx hbe hye0 hye1 hrl hl' hlb hsx
          rcases hlc with ⟨hlg, rfl⟩ | ⟨hlg, rfl⟩
          · have hd4 : decide ((130 : Int) < (lb : Int)) = true := decide_eq_true (by omega)
            go_wp2_with fail
            rw [HWX.out]
            go_region_held3 (fun w' => w'.cell? ⟨wr.heap.size, 0, none⟩ = some (.int .i64 N) ∧ w'.cell? ⟨wr.heap.size, 1, none⟩ = some (.slice Ab 130 cb))
              (first
                | go_keep
                | exact ⟨(cell_grown hgrowA (by simp; omega) (by simp [Value.ownBlock]; omega)).trans HY0.out, (cell_grown hgrowA (by simp; omega) (by simp [Value.ownBlock]; omega)).trans HY1.out⟩
                | exact ⟨(cell_grown hgrowB (by simp; omega) (fun e => by have := HVL.out _ e.symm; simp only at this; omega)).trans ((old_cell wA _ _ _ hszA).trans hkA0), (cell_grown hgrowB (by simp; omega) (fun e => by have := HVL.out _ e.symm; simp only at this; omega)).trans ((old_cell wA _ _ _ hszA).trans hkA1)⟩)
              (first
                | ((refine step_append_rd _ (by rfl) (.tmp 46) (.tmp 48) 25 (by rfl) wx.heap.size 5 i1 _ 1 1 Try.underlying25 hi hz0 hz1 hz2 rfl (by decide) (.slice (some ⟨wx.heap.size, 0, none⟩) 0 0) 0 [] (by rfl) HE.out Ab 130 cb w.heap.size (octV l') (by rfl) hbn HRX.out (octV_one _) (by unfold maxLen; omega) (by omega) (by simp) (wx.heap.size + 1) (by simp) 130 (by omega) ?_; intro A1 c1' wA hownA hgrowA hatA))
                | ((have hbA : Below wr.heap.size wr wA := HBE.out.grown hgrowA HBE.out.size (fun q hq => by simp [Value.ownBlock] at hq; omega); have hkA0 : wA.cell? ⟨wr.heap.size, 0, none⟩ = some (.int .i64 N) := (cell_grown hgrowA (by simp; omega) (by simp [Value.ownBlock]; omega)).trans HY0.out; have hkA1 : wA.cell? ⟨wr.heap.size, 1, none⟩ = some (.slice Ab 130 cb) := (cell_grown hgrowA (by simp; omega) (by simp [Value.ownBlock]; omega)).trans HY1.out; have hszA : wr.heap.size < wA.heap.size := (by have := hgrowA.size; simp at this; omega); refine step_append_rd _ (by rfl) (.tmp 43) (.tmp 51) 22 (by rfl) (w.heap.size + 2) 62 i2 _ 2 32 Try.underlying22 ki kz0 kz1 kz2 rfl (by decide) v4 k (rowP T) (by rfl) ((own_below HO1.out hbA (fun q hq => HVL.out q hq)).alloc _) (some ⟨wA.heap.size, 0, none⟩) 1 1 _ [.int .i64 N, .slice A1 130 c1'] (by rfl) (fun e => by cases e) (OwnB.lit wA wA.heap.size (Nat.le_refl _) 62 2 1 #[.int .i64 N, .slice A1 130 c1'] rfl (by simp [maxLen])).rd (by intro u hu; simp at hu; rcases hu with rfl | rfl <;> rfl) (by unfold maxLen; omega) (by omega) (by simp; omega) (wA.heap.size + 1) (by simp) (k + 1) rfl ?_; intro A2 c2 wB hownB hgrowB hatB)))
            have hpush : OwnP wB (w.heap.size + 2) (w.heap.size + 2) (.slice A2 (k + 1) c2) (T ++ [(N, .slice A1 130 c1', l')]) := HO.out.push (by omega) hbA (own_base hownA (by omega)) hgrowB hatB (by rw [HTL.out]; exact hownB)
            have hrB : Below (w.heap.size + 2) wr wB := (((hbA.mono (by omega)).alloc (by omega) _).grown hgrowB (by simp; omega) (fun q hq => HVG.out q hq))
            have HP := Lib.hid hpush
            have HTL2 : Hid ((T ++ [(N, Value.slice A1 130 c1', l')]).length = k + 1) := Lib.hid (by rw [List.length_append, HTL.out]; rfl)
            have HT2 : Hid ((T ++ [(N, Value.slice A1 130 c1', l')]).map pcP = (fewP L).take (k + 1)) := Lib.hid (by rw [List.map_append, HT.out, HSN.out]; rfl)
            have HB02 := Lib.hid (HB0.out.below hrB (by omega))
            have HB12 := Lib.hid (HB1.out.below hrB (by omega))
            have hbw2 := hbw.trans (hrB.mono (by omega))
            clear hpush hownA hownB hgrowA hgrowB hatA hatB hkA0 hkA1 hbA hrB
            go_wp2
            go_roundw
            case rel => exact ⟨_, k + 1, _, rfl, by omega, by go_num, HTL2, HT2, HP.out, HB02.out, HB12.out, hbw2⟩
            case measure => simp [intOf]; omega
          · have hd4 : decide ((130 : Int) < (lb' : Int)) = false := decide_eq_false (by omega)
            go_wp2_with fail
            rw [HWX.out]
            go_region_held3 (fun w' => w'.cell? ⟨wr.heap.size, 0, none⟩ = some (.int .i64 N) ∧ w'.cell? ⟨wr.heap.size, 1, none⟩ = some (.slice Ab lb' cb))
              (first
                | go_keep
                | exact ⟨(cell_grown hgrowA (by simp; omega) (by simp [Value.ownBlock]; omega)).trans HY0.out, (cell_grown hgrowA (by simp; omega) (by simp [Value.ownBlock]; omega)).trans HY1.out⟩
                | exact ⟨(cell_grown hgrowB (by simp; omega) (fun e => by have := HVL.out _ e.symm; simp only at this; omega)).trans ((old_cell wA _ _ _ hszA).trans hkA0), (cell_grown hgrowB (by simp; omega) (fun e => by have := HVL.out _ e.symm; simp only at this; omega)).trans ((old_cell wA _ _ _ hszA).trans hkA1)⟩)
              (first
                | ((refine step_append_rd _ (by rfl) (.tmp 46) (.tmp 48) 25 (by rfl) wx.heap.size 5 i1 _ 1 1 Try.underlying25 hi hz0 hz1 hz2 rfl (by decide) (.slice (some ⟨wx.heap.size, 0, none⟩) 0 0) 0 [] (by rfl) HE.out Ab lb' cb w.heap.size (octV l') (by rfl) hbn HRX.out (octV_one _) (by unfold maxLen; omega) (by omega) (by simp) (wx.heap.size + 1) (by simp) lb' (by omega) ?_; intro A1 c1' wA hownA hgrowA hatA))
                | ((have hbA : Below wr.heap.size wr wA := HBE.out.grown hgrowA HBE.out.size (fun q hq => by simp [Value.ownBlock] at hq; omega); have hkA0 : wA.cell? ⟨wr.heap.size, 0, none⟩ = some (.int .i64 N) := (cell_grown hgrowA (by simp; omega) (by simp [Value.ownBlock]; omega)).trans HY0.out; have hkA1 : wA.cell? ⟨wr.heap.size, 1, none⟩ = some (.slice Ab lb' cb) := (cell_grown hgrowA (by simp; omega) (by simp [Value.ownBlock]; omega)).trans HY1.out; have hszA : wr.heap.size < wA.heap.size := (by have := hgrowA.size; simp at this; omega); refine step_append_rd _ (by rfl) (.tmp 43) (.tmp 51) 22 (by rfl) (w.heap.size + 2) 62 i2 _ 2 32 Try.underlying22 ki kz0 kz1 kz2 rfl (by decide) v4 k (rowP T) (by rfl) ((own_below HO1.out hbA (fun q hq => HVL.out q hq)).alloc _) (some ⟨wA.heap.size, 0, none⟩) 1 1 _ [.int .i64 N, .slice A1 lb' c1'] (by rfl) (fun e => by cases e) (OwnB.lit wA wA.heap.size (Nat.le_refl _) 62 2 1 #[.int .i64 N, .slice A1 lb' c1'] rfl (by simp [maxLen])).rd (by intro u hu; simp at hu; rcases hu with rfl | rfl <;> rfl) (by unfold maxLen; omega) (by omega) (by simp; omega) (wA.heap.size + 1) (by simp) (k + 1) rfl ?_; intro A2 c2 wB hownB hgrowB hatB)))
            have hpush : OwnP wB (w.heap.size + 2) (w.heap.size + 2) (.slice A2 (k + 1) c2) (T ++ [(N, .slice A1 lb' c1', l')]) := HO.out.push (by omega) hbA (own_base hownA (by omega)) hgrowB hatB (by rw [HTL.out]; exact hownB)
            have hrB : Below (w.heap.size + 2) wr wB := (((hbA.mono (by omega)).alloc (by omega) _).grown hgrowB (by simp; omega) (fun q hq => HVG.out q hq))
            have HP := Lib.hid hpush
            have HTL2 : Hid ((T ++ [(N, Value.slice A1 lb' c1', l')]).length = k + 1) := Lib.hid (by rw [List.length_append, HTL.out]; rfl)
            have HT2 : Hid ((T ++ [(N, Value.slice A1 lb' c1', l')]).map pcP = (fewP L).take (k + 1)) := Lib.hid (by rw [List.map_append, HT.out, HSN.out]; rfl)
            have HB02 := Lib.hid (HB0.out.below hrB (by omega))
            have HB12 := Lib.hid (HB1.out.below hrB (by omega))
            have hbw2 := hbw.trans (hrB.mono (by omega))
            clear hpush hownA hownB hgrowA hgrowB hatA hatB hkA0 hkA1 hbA hrB
            go_wp2
            go_roundw
            case rel => exact ⟨_, k + 1, _, rfl, by omega, by go_num, HTL2, HT2, HP.out, HB02.out, HB12.out, hbw2⟩
            case measure => simp [intOf]; omega
        · obtain rfl : 20 = k := by omega
          obtain ⟨d0, d1, f0, f1⟩ := blk2 hB0
          obtain ⟨e0, e1', g0, g1⟩ := blk2 hB1
          have hown1 : wr.ownsRow (w.heap.size + 2) 62 2 v4 20 (rowP T) := by rw [← HTL.out]; exact hown.1
          obtain ⟨Av, cv, rfl, _, _, _⟩ := own_form hown1
          clear hown1
          have HO := Lib.hid hown
          have hbs := hbw.size
          have HB1 := Lib.hid hB1
          clear hown hB0 hB1
          obtain ⟨wo, rfl⟩ : ∃ wo : World, wo = wr := ⟨_, rfl⟩
          obtain ⟨A', c', e, hp⟩ := HO.out.isQ (w' := ((wo.setCell ⟨w.heap.size, 1, none⟩ (.slice Av 20 cv)).setCell ⟨w.heap.size + 1, 0, none⟩ (.int .i64 20000)).setCell ⟨w.heap.size + 1, 1, none⟩ (.slice Av 20 cv)) (fun p hp hq => by
            have hge : w.heap.size + 2 ≤ p.block := by
              rcases hq with hq | hq
              · exact (HO.out.1.lt _ hq.symm).1
              · exact hq
            rw [cell_far (by show p.block ≠ w.heap.size + 1; omega), cell_far (by show p.block ≠ w.heap.size + 1; omega), cell_far (by show p.block ≠ w.heap.size; omega)]) (by simp) (Nat.le_refl _)
          injection e with e1 e2 e3
          subst e1 e3
          rw [HTL.out, HT.out, List.take_of_length_le (by rw [fewP_len]; have := HM.out; omega)] at hp
          have HP := Lib.hid hp
          have hbw2 : Below w.heap.size w (((wo.setCell ⟨w.heap.size, 1, none⟩ (.slice Av 20 cv)).setCell ⟨w.heap.size + 1, 0, none⟩ (.int .i64 20000)).setCell ⟨w.heap.size + 1, 1, none⟩ (.slice Av 20 cv)) := ((hbw.setCell (by simp) _).setCell (by simp) _).setCell (by simp) _
          clear hp e2
          go_wp2
          exact bodyPost_ret (v := .agg #[.int .i64 20000, .slice Av 20 cv]) (by simp [results, Try.results8, go_sem, e0, e1']) rfl ⟨⟨Av, 20, cv, rfl, HP.out⟩, hbw2⟩
    · have hd1 : decide ((20 : Int) < (n : Int)) = true := decide_eq_true (by omega)
      have hd2 : decide ((20000 : Int) < sz) = false := decide_eq_false (by omega)
      go_enter Try.func8, Try.ntmps8
      go_wp2
      go_loopw [3, 4] (fun v i wr => ∃ (v0 : Value) (k : Nat) (T : List PV), v0 = v ∧ k ≤ 20 ∧ i = .int .i64 k ∧ Hid (T.length = k) ∧ Hid (T.map pcP = (fewP L).take k) ∧ OwnP wr (w.heap.size + 2) (w.heap.size + 2) v0 T ∧ Blk wr w.heap.size 24 (0, 0) #[.int .i64 sz, .slice A 20 c] ∧ Blk wr (w.heap.size + 1) 24 (0, 0) #[.int .i64 0, .slice none 0 0] ∧ Below w.heap.size w wr) (fun _ i _ => 20 - (intOf i).toNat)
      case atStart => exact ⟨_, 0, [], rfl, Nat.zero_le _, rfl, Lib.hid rfl, Lib.hid (by simp), OwnP.nil _ _ _, (Blk.new w _ _ _).alloc _, by have := Blk.new (w.alloc (.cells #[.int .i64 sz, .slice A 20 c] 24)) 24 (0, 0) #[.int .i64 0, .slice none 0 0]; simpa using this, ((Below.refl _ _).alloc (Nat.le_refl _) _).alloc (by simp) _⟩
      case round =>
        obtain ⟨v4, k, T, rfl, hk, rfl, HTL, HT, hown, hB0, hB1, hbw⟩ := hrel
        by_cases hlt : k < 20
        · obtain ⟨g, o, x, Ab, cb, rfl, hg, hx, c0, c1, hb1, hb2, hbn, hrb⟩ := (H.out.below hbw).at_ (show k < n by omega)
          obtain ⟨N, l⟩ := x
          simp only at c0 c1 hb1 hrb
          have hsn := fewP_snoc L 20 k (N, l) HM.out hlt hx
          simp only at hsn
          obtain ⟨lb, hlb⟩ : ∃ lb, l.length = lb := ⟨_, rfl⟩
          rw [hlb] at c1 hb1 hrb
          obtain ⟨d0, d1, f0, f1⟩ := blk2 hB0
          have HB0 := Lib.hid hB0
          have HB1 := Lib.hid hB1
          have hown1 : wr.ownsRow (w.heap.size + 2) 62 2 v4 k (rowP T) := by rw [← HTL.out]; exact hown.1
          have HO := Lib.hid hown
          have HO1 := Lib.hid hown1
          have HSN := Lib.hid hsn
          have i0 : (0 : Int) ≤ (k : Int) := Int.natCast_nonneg _
          have i1' : (k : Int) < (20 : Int) := by omega
          have hk20 : k ≤ 20 := by omega
          unfold maxLen at hb2
          have hbs := hbw.size
          have hvlt : ∀ q, v4.ownBlock = some q → q < wr.heap.size := fun q hq => (hown.1.lt q hq).2
          have hvge : ∀ q, v4.ownBlock = some q → w.heap.size + 2 ≤ q := fun q hq => (hown.1.lt q hq).1
          have HVL := Lib.hid hvlt
          have HVG := Lib.hid hvge
          have hsB1 := hB1.lt
          clear hB0 hB1 hown hown1 hsn hx hvlt hvge
          have hl3 : ∃ lb' : Nat, lb' ≤ 130 ∧ Rd wr w.heap.size 1 Ab lb' (octV (l.take 130)) ∧ lb' ≤ lb ∧ ((130 < lb ∧ lb' = 130) ∨ (lb ≤ 130 ∧ lb' = lb)) := by
            rcases Nat.lt_or_ge 130 lb with hh | hh
            · refine ⟨130, Nat.le_refl _, ?_, by omega, .inl ⟨hh, rfl⟩⟩
              have := rd_takeV hrb (show 130 ≤ lb by omega)
              rw [octV_take]; exact this
            · exact ⟨lb, hh, by rw [List.take_of_length_le (by omega)]; exact hrb, Nat.le_refl _, .inr ⟨hh, rfl⟩⟩
          obtain ⟨lb', hl130, hrl, hll, hlc⟩ := hl3
          obtain ⟨l', hl'⟩ : ∃ l', l.take 130 = l' := ⟨_, rfl⟩
          rw [hl'] at hrl HSN
          obtain ⟨wx, hwx⟩ : ∃ wx, wr.alloc (.cells #[.int .i64 N, .slice Ab lb' cb] 62) = wx := ⟨_, rfl⟩
          have hbx : Below wr.heap.size wr wx := by rw [← hwx]; exact (Below.refl _ _).alloc (Nat.le_refl _) _
          have hsx : wx.heap.size = wr.heap.size + 1 := by rw [← hwx]; simp
          obtain ⟨y0, y1, _, _⟩ := blk2 (show Blk wx wr.heap.size 62 (0, 0) #[.int .i64 N, .slice Ab lb' cb] by rw [← hwx]; exact Blk.new _ _ _ _)
          have hE : ((wx.alloc (.cells #[] 5)).drew).ownsRow wx.heap.size 5 1 (.slice (some ⟨wx.heap.size, 0, none⟩) 0 0) 0 [] := (OwnB.lit wx wx.heap.size (Nat.le_refl _) 5 1 0 #[] rfl (by simp [maxLen])).own.drew
          have hrx : Rd ((wx.alloc (.cells #[] 5)).drew) w.heap.size 1 Ab lb' (octV l') := ((hrl.below (hbx.mono hbs)).below ((Below.refl _ _).alloc (by omega) _)).keep fun _ _ => rfl
          have hbe : Below wr.heap.size wr ((wx.alloc (.cells #[] 5)).drew) := below_drew (hbx.alloc (by omega) _)
          have HE := Lib.hid hE
          have HRX := Lib.hid hrx
          have HWX := Lib.hid hwx
          have HBE := Lib.hid hbe
          have hye0 : ((wx.alloc (.cells #[] 5)).drew).cell? ⟨wr.heap.size, 0, none⟩ = some (.int .i64 N) := (old_cell wx _ _ _ (by omega)).trans y0
          have hye1 : ((wx.alloc (.cells #[] 5)).drew).cell? ⟨wr.heap.size, 1, none⟩ = some (.slice Ab lb' cb) := (old_cell wx _ _ _ (by omega)).trans y1
          have HY0 := Lib.hid hye0
          have HY1 := Lib.hid hye1
          have HSX := Lib.hid hsx
          have hsx1 : wr.heap.size < wx.heap.size := by omega
          clear hE hrx hwx hbe hye0 hye1 hrl hl' hlb hsx
          rcases hlc with ⟨hlg, rfl⟩ | ⟨hlg, rfl⟩
          · have hd4 : decide ((130 : Int) < (lb : Int)) = true := decide_eq_true (by omega)
            go_wp2_with fail
            rw [HWX.out]
            go_region_held3 (fun w' => w'.cell? ⟨wr.heap.size, 0, none⟩ = some (.int .i64 N) ∧ w'.cell? ⟨wr.heap.size, 1, none⟩ = some (.slice Ab 130 cb))
              (first
                | go_keep
                | exact ⟨(cell_grown hgrowA (by simp; omega) (by simp [Value.ownBlock]; omega)).trans HY0.out, (cell_grown hgrowA (by simp; omega) (by simp [Value.ownBlock]; omega)).trans HY1.out⟩
                | exact ⟨(cell_grown hgrowB (by simp; omega) (fun e => by have := HVL.out _ e.symm; simp only at this; omega)).trans ((old_cell wA _ _ _ hszA).trans hkA0), (cell_grown hgrowB (by simp; omega) (fun e => by have := HVL.out _ e.symm; simp only at this; omega)).trans ((old_cell wA _ _ _ hszA).trans hkA1)⟩)
              (first
                | ((refine step_append_rd _ (by rfl) (.tmp 46) (.tmp 48) 25 (by rfl) wx.heap.size 5 i1 _ 1 1 Try.underlying25 hi hz0 hz1 hz2 rfl (by decide) (.slice (some ⟨wx.heap.size, 0, none⟩) 0 0) 0 [] (by rfl) HE.out Ab 130 cb w.heap.size (octV l') (by rfl) hbn HRX.out (octV_one _) (by unfold maxLen; omega) (by omega) (by simp) (wx.heap.size + 1) (by simp) 130 (by omega) ?_; intro A1 c1' wA hownA hgrowA hatA))
                | ((have hbA : Below wr.heap.size wr wA := HBE.out.grown hgrowA HBE.out.size (fun q hq => by simp [Value.ownBlock] at hq; omega); have hkA0 : wA.cell? ⟨wr.heap.size, 0, none⟩ = some (.int .i64 N) := (cell_grown hgrowA (by simp; omega) (by simp [Value.ownBlock]; omega)).trans HY0.out; have hkA1 : wA.cell? ⟨wr.heap.size, 1, none⟩ = some (.slice Ab 130 cb) := (cell_grown hgrowA (by simp; omega) (by simp [Value.ownBlock]; omega)).trans HY1.out; have hszA : wr.heap.size < wA.heap.size := (by have := hgrowA.size; simp at this; omega); refine step_append_rd _ (by rfl) (.tmp 43) (.tmp 51) 22 (by rfl) (w.heap.size + 2) 62 i2 _ 2 32 Try.underlying22 ki kz0 kz1 kz2 rfl (by decide) v4 k (rowP T) (by rfl) ((own_below HO1.out hbA (fun q hq => HVL.out q hq)).alloc _) (some ⟨wA.heap.size, 0, none⟩) 1 1 _ [.int .i64 N, .slice A1 130 c1'] (by rfl) (fun e => by cases e) (OwnB.lit wA wA.heap.size (Nat.le_refl _) 62 2 1 #[.int .i64 N, .slice A1 130 c1'] rfl (by simp [maxLen])).rd (by intro u hu; simp at hu; rcases hu with rfl | rfl <;> rfl) (by unfold maxLen; omega) (by omega) (by simp; omega) (wA.heap.size + 1) (by simp) (k + 1) rfl ?_; intro A2 c2 wB hownB hgrowB hatB)))
            have hpush : OwnP wB (w.heap.size + 2) (w.heap.size + 2) (.slice A2 (k + 1) c2) (T ++ [(N, .slice A1 130 c1', l')]) := HO.out.push (by omega) hbA (own_base hownA (by omega)) hgrowB hatB (by rw [HTL.out]; exact hownB)
            have hrB : Below (w.heap.size + 2) wr wB := (((hbA.mono (by omega)).alloc (by omega) _).grown hgrowB (by simp; omega) (fun q hq => HVG.out q hq))
            have HP := Lib.hid hpush
            have HTL2 : Hid ((T ++ [(N, Value.slice A1 130 c1', l')]).length = k + 1) := Lib.hid (by rw [List.length_append, HTL.out]; rfl)
            have HT2 : Hid ((T ++ [(N, Value.slice A1 130 c1', l')]).map pcP = (fewP L).take (k + 1)) := Lib.hid (by rw [List.map_append, HT.out, HSN.out]; rfl)
            have HB02 := Lib.hid (HB0.out.below hrB (by omega))
            have HB12 := Lib.hid (HB1.out.below hrB (by omega))
            have hbw2 := hbw.trans (hrB.mono (by omega))
            clear hpush hownA hownB hgrowA hgrowB hatA hatB hkA0 hkA1 hbA hrB
            go_wp2
            go_roundw
            case rel => exact ⟨_, k + 1, _, rfl, by omega, by go_num, HTL2, HT2, HP.out, HB02.out, HB12.out, hbw2⟩
            case measure => simp [intOf]; omega
          · have hd4 : decide ((130 : Int) < (lb' : Int)) = false := decide_eq_false (by omega)
            go_wp2_with fail
            rw [HWX.out]
            go_region_held3 (fun w' => w'.cell? ⟨wr.heap.size, 0, none⟩ = some (.int .i64 N) ∧ w'.cell? ⟨wr.heap.size, 1, none⟩ = some (.slice Ab lb' cb))
              (first
                | go_keep
                | exact ⟨(cell_grown hgrowA (by simp; omega) (by simp [Value.ownBlock]; omega)).trans HY0.out, (cell_grown hgrowA (by simp; omega) (by simp [Value.ownBlock]; omega)).trans HY1.out⟩
                | exact ⟨(cell_grown hgrowB (by simp; omega) (fun e => by have := HVL.out _ e.symm; simp only at this; omega)).trans ((old_cell wA _ _ _ hszA).trans hkA0), (cell_grown hgrowB (by simp; omega) (fun e => by have := HVL.out _ e.symm; simp only at this; omega)).trans ((old_cell wA _ _ _ hszA).trans hkA1)⟩)
              (first
                | ((refine step_append_rd _ (by rfl) (.tmp 46) (.tmp 48) 25 (by rfl) wx.heap.size 5 i1 _ 1 1 Try.underlying25 hi hz0 hz1 hz2 rfl (by decide) (.slice (some ⟨wx.heap.size, 0, none⟩) 0 0) 0 [] (by rfl) HE.out Ab lb' cb w.heap.size (octV l') (by rfl) hbn HRX.out (octV_one _) (by unfold maxLen; omega) (by omega) (by simp) (wx.heap.size + 1) (by simp) lb' (by omega) ?_; intro A1 c1' wA hownA hgrowA hatA))
                | ((have hbA : Below wr.heap.size wr wA := HBE.out.grown hgrowA HBE.out.size (fun q hq => by simp [Value.ownBlock] at hq; omega); have hkA0 : wA.cell? ⟨wr.heap.size, 0, none⟩ = some (.int .i64 N) := (cell_grown hgrowA (by simp; omega) (by simp [Value.ownBlock]; omega)).trans HY0.out; have hkA1 : wA.cell? ⟨wr.heap.size, 1, none⟩ = some (.slice Ab lb' cb) := (cell_grown hgrowA (by simp; omega) (by simp [Value.ownBlock]; omega)).trans HY1.out; have hszA : wr.heap.size < wA.heap.size := (by have := hgrowA.size; simp at this; omega); refine step_append_rd _ (by rfl) (.tmp 43) (.tmp 51) 22 (by rfl) (w.heap.size + 2) 62 i2 _ 2 32 Try.underlying22 ki kz0 kz1 kz2 rfl (by decide) v4 k (rowP T) (by rfl) ((own_below HO1.out hbA (fun q hq => HVL.out q hq)).alloc _) (some ⟨wA.heap.size, 0, none⟩) 1 1 _ [.int .i64 N, .slice A1 lb' c1'] (by rfl) (fun e => by cases e) (OwnB.lit wA wA.heap.size (Nat.le_refl _) 62 2 1 #[.int .i64 N, .slice A1 lb' c1'] rfl (by simp [maxLen])).rd (by intro u hu; simp at hu; rcases hu with rfl | rfl <;> rfl) (by unfold maxLen; omega) (by omega) (by simp; omega) (wA.heap.size + 1) (by simp) (k + 1) rfl ?_; intro A2 c2 wB hownB hgrowB hatB)))
            have hpush : OwnP wB (w.heap.size + 2) (w.heap.size + 2) (.slice A2 (k + 1) c2) (T ++ [(N, .slice A1 lb' c1', l')]) := HO.out.push (by omega) hbA (own_base hownA (by omega)) hgrowB hatB (by rw [HTL.out]; exact hownB)
            have hrB : Below (w.heap.size + 2) wr wB := (((hbA.mono (by omega)).alloc (by omega) _).grown hgrowB (by simp; omega) (fun q hq => HVG.out q hq))
            have HP := Lib.hid hpush
            have HTL2 : Hid ((T ++ [(N, Value.slice A1 lb' c1', l')]).length = k + 1) := Lib.hid (by rw [List.length_append, HTL.out]; rfl)
            have HT2 : Hid ((T ++ [(N, Value.slice A1 lb' c1', l')]).map pcP = (fewP L).take (k + 1)) := Lib.hid (by rw [List.map_append, HT.out, HSN.out]; rfl)
            have HB02 := Lib.hid (HB0.out.below hrB (by omega))
            have HB12 := Lib.hid (HB1.out.below hrB (by omega))
            have hbw2 := hbw.trans (hrB.mono (by omega))
            clear hpush hownA hownB hgrowA hgrowB hatA hatB hkA0 hkA1 hbA hrB
            go_wp2
            go_roundw
            case rel => exact ⟨_, k + 1, _, rfl, by omega, by go_num, HTL2, HT2, HP.out, HB02.out, HB12.out, hbw2⟩
            case measure => simp [intOf]; omega
        · obtain rfl : 20 = k := by omega
          obtain ⟨d0, d1, f0, f1⟩ := blk2 hB0
          obtain ⟨e0, e1', g0, g1⟩ := blk2 hB1
          have hown1 : wr.ownsRow (w.heap.size + 2) 62 2 v4 20 (rowP T) := by rw [← HTL.out]; exact hown.1
          obtain ⟨Av, cv, rfl, _, _, _⟩ := own_form hown1
          clear hown1
          have HO := Lib.hid hown
          have hbs := hbw.size
          have HB1 := Lib.hid hB1
          clear hown hB0 hB1
          obtain ⟨wo, rfl⟩ : ∃ wo : World, wo = wr := ⟨_, rfl⟩
          obtain ⟨A', c', e, hp⟩ := HO.out.isQ (w' := ((wo.setCell ⟨w.heap.size, 1, none⟩ (.slice Av 20 cv)).setCell ⟨w.heap.size + 1, 0, none⟩ (.int .i64 sz)).setCell ⟨w.heap.size + 1, 1, none⟩ (.slice Av 20 cv)) (fun p hp hq => by
            have hge : w.heap.size + 2 ≤ p.block := by
              rcases hq with hq | hq
              · exact (HO.out.1.lt _ hq.symm).1
              · exact hq
            rw [cell_far (by show p.block ≠ w.heap.size + 1; omega), cell_far (by show p.block ≠ w.heap.size + 1; omega), cell_far (by show p.block ≠ w.heap.size; omega)]) (by simp) (Nat.le_refl _)
          injection e with e1 e2 e3
          subst e1 e3
          rw [HTL.out, HT.out, List.take_of_length_le (by rw [fewP_len]; have := HM.out; omega)] at hp
          have HP := Lib.hid hp
          have hbw2 : Below w.heap.size w (((wo.setCell ⟨w.heap.size, 1, none⟩ (.slice Av 20 cv)).setCell ⟨w.heap.size + 1, 0, none⟩ (.int .i64 sz)).setCell ⟨w.heap.size + 1, 1, none⟩ (.slice Av 20 cv)) := ((hbw.setCell (by simp) _).setCell (by simp) _).setCell (by simp) _
          clear hp e2
          go_wp2
          exact bodyPost_ret (v := .agg #[.int .i64 sz, .slice Av 20 cv]) (by simp [results, Try.results8, go_sem, e0, e1']) rfl ⟨⟨Av, 20, cv, rfl, HP.out⟩, hbw2⟩
    · have hd1 : decide ((20 : Int) < (n : Int)) = true := decide_eq_true (by omega)
      have hd2 : decide ((20000 : Int) < sz) = true := decide_eq_true (by omega)
      have hd3 : decide (sz ≤ (463488 : Int)) = false := decide_eq_false (by omega)
      go_enter Try.func8, Try.ntmps8
      go_wp2
      go_loopw [3, 4] (fun v i wr => ∃ (v0 : Value) (k : Nat) (T : List PV), v0 = v ∧ k ≤ 20 ∧ i = .int .i64 k ∧ Hid (T.length = k) ∧ Hid (T.map pcP = (fewP L).take k) ∧ OwnP wr (w.heap.size + 2) (w.heap.size + 2) v0 T ∧ Blk wr w.heap.size 24 (0, 0) #[.int .i64 sz, .slice A 20 c] ∧ Blk wr (w.heap.size + 1) 24 (0, 0) #[.int .i64 0, .slice none 0 0] ∧ Below w.heap.size w wr) (fun _ i _ => 20 - (intOf i).toNat)
      case atStart => exact ⟨_, 0, [], rfl, Nat.zero_le _, rfl, Lib.hid rfl, Lib.hid (by simp), OwnP.nil _ _ _, (Blk.new w _ _ _).alloc _, by have := Blk.new (w.alloc (.cells #[.int .i64 sz, .slice A 20 c] 24)) 24 (0, 0) #[.int .i64 0, .slice none 0 0]; simpa using this, ((Below.refl _ _).alloc (Nat.le_refl _) _).alloc (by simp) _⟩
      case round =>
        obtain ⟨v4, k, T, rfl, hk, rfl, HTL, HT, hown, hB0, hB1, hbw⟩ := hrel
        by_cases hlt : k < 20
        · obtain ⟨g, o, x, Ab, cb, rfl, hg, hx, c0, c1, hb1, hb2, hbn, hrb⟩ := (H.out.below hbw).at_ (show k < n by omega)
          obtain ⟨N, l⟩ := x
          simp only at c0 c1 hb1 hrb
          have hsn := fewP_snoc L 20 k (N, l) HM.out hlt hx
          simp only at hsn
          obtain ⟨lb, hlb⟩ : ∃ lb, l.length = lb := ⟨_, rfl⟩
          rw [hlb] at c1 hb1 hrb
          obtain ⟨d0, d1, f0, f1⟩ := blk2 hB0
          have HB0 := Lib.hid hB0
          have HB1 := Lib.hid hB1
          have hown1 : wr.ownsRow (w.heap.size + 2) 62 2 v4 k (rowP T) := by rw [← HTL.out]; exact hown.1
          have HO := Lib.hid hown
          have HO1 := Lib.hid hown1
          have HSN := Lib.hid hsn
          have i0 : (0 : Int) ≤ (k : Int) := Int.natCast_nonneg _
          have i1' : (k : Int) < (20 : Int) := by omega
          have hk20 : k ≤ 20 := by omega
          unfold maxLen at hb2
          have hbs := hbw.size
          have hvlt : ∀ q, v4.ownBlock = some q → q < wr.heap.size := fun q hq => (hown.1.lt q hq).2
          have hvge : ∀ q, v4.ownBlock = some q → w.heap.size + 2 ≤ q := fun q hq => (hown.1.lt q hq).1
          have HVL := Lib.hid hvlt
          have HVG := Lib.hid hvge
          have hsB1 := hB1.lt
          clear hB0 hB1 hown hown1 hsn hx hvlt hvge
          have hl3 : ∃ lb' : Nat, lb' ≤ 130 ∧ Rd wr w.heap.size 1 Ab lb' (octV (l.take 130)) ∧ lb' ≤ lb ∧ ((130 < lb ∧ lb' = 130) ∨ (lb ≤ 130 ∧ lb' = lb)) := by
            rcases Nat.lt_or_ge 130 lb with hh | hh
            · refine ⟨130, Nat.le_refl _, ?_, by omega, .inl ⟨hh, rfl⟩⟩
              have := rd_takeV hrb (show 130 ≤ lb by omega)
              rw [octV_take]; exact this
            · exact ⟨lb, hh, by rw [List.take_of_length_le (by omega)]; exact hrb, Nat.le_refl _, .inr ⟨hh, rfl⟩⟩
          obtain ⟨lb', hl130, hrl, hll, hlc⟩ := hl3
          obtain ⟨l', hl'⟩ : ∃ l', l.take 130 = l' := ⟨_, rfl⟩
          rw [hl'] at hrl HSN
          obtain ⟨wx, hwx⟩ : ∃ wx, wr.alloc (.cells #[.int .i64 N, .slice Ab lb' cb] 62) = wx := ⟨_, rfl⟩
          have hbx : Below wr.heap.size wr wx := by rw [← hwx]; exact (Below.refl _ _).alloc (Nat.le_refl _) _
          have hsx : wx.heap.size = wr.heap.size + 1 := by rw [← hwx]; simp
          obtain ⟨y0, y1, _, _⟩ := blk2 (show Blk wx wr.heap.size 62 (0, 0) #[.int .i64 N, .slice Ab lb' cb] by rw [← hwx]; exact Blk.new _ _ _ _)
          have hE : ((wx.alloc (.cells #[] 5)).drew).ownsRow wx.heap.size 5 1 (.slice (some ⟨wx.heap.size, 0, none⟩) 0 0) 0 [] := (OwnB.lit wx wx.heap.size (Nat.le_refl _) 5 1 0 #[] rfl (by simp [maxLen])).own.drew
          have hrx : Rd ((wx.alloc (.cells #[] 5)).drew) w.heap.size 1 Ab lb' (octV l') := ((hrl.below (hbx.mono hbs)).below ((Below.refl _ _).alloc (by omega) _)).keep fun _ _ => rfl
          have hbe : Below wr.heap.size wr ((wx.alloc (.cells #[] 5)).drew) := below_drew (hbx.alloc (by omega) _)
          have HE := Lib.hid hE
          have HRX := Lib.hid hrx
          have HWX := Lib.hid hwx
          have HBE := Lib.hid hbe
          have hye0 : ((wx.alloc (.cells #[] 5)).drew).cell? ⟨wr.heap.size, 0, none⟩ = some (.int .i64 N) := (old_cell wx _ _ _ (by omega)).trans y0
          have hye1 : ((wx.alloc (.cells #[] 5)).drew).cell? ⟨wr.heap.size, 1, none⟩ = some (.slice Ab lb' cb) := (old_cell wx _ _ _ (by omega)).trans y1
          have HY0 := Lib.hid hye0
          have HY1 := Lib.hid hye1
          have HSX := Lib.hid hsx
          have hsx1 : wr.heap.size < wx.heap.size := by omega
          clear hE hrx hwx hbe hye0 hye1 hrl hl' hlb hsx
          rcases hlc with ⟨hlg, rfl⟩ | ⟨hlg, rfl⟩
          · have hd4 : decide ((130 : Int) < (lb : Int)) = true := decide_eq_true (by omega)
            go_wp2_with fail
            rw [HWX.out]
            go_region_held3 (fun w' => w'.cell? ⟨wr.heap.size, 0, none⟩ = some (.int .i64 N) ∧ w'.cell? ⟨wr.heap.size, 1, none⟩ = some (.slice Ab 130 cb))
              (first
                | go_keep
                | exact ⟨(cell_grown hgrowA (by simp; omega) (by simp [Value.ownBlock]; omega)).trans HY0.out, (cell_grown hgrowA (by simp; omega) (by simp [Value.ownBlock]; omega)).trans HY1.out⟩
                | exact ⟨(cell_grown hgrowB (by simp; omega) (fun e => by have := HVL.out _ e.symm; simp only at this; omega)).trans ((old_cell wA _ _ _ hszA).trans hkA0), (cell_grown hgrowB (by simp; omega) (fun e => by have := HVL.out _ e.symm; simp only at this; omega)).trans ((old_cell wA _ _ _ hszA).trans hkA1)⟩)
              (first
                | ((refine step_append_rd _ (by rfl) (.tmp 46) (.tmp 48) 25 (by rfl) wx.heap.size 5 i1 _ 1 1 Try.underlying25 hi hz0 hz1 hz2 rfl (by decide) (.slice (some ⟨wx.heap.size, 0, none⟩) 0 0) 0 [] (by rfl) HE.out Ab 130 cb w.heap.size (octV l') (by rfl) hbn HRX.out (octV_one _) (by unfold maxLen; omega) (by omega) (by simp) (wx.heap.size + 1) (by simp) 130 (by omega) ?_; intro A1 c1' wA hownA hgrowA hatA))
                | ((have hbA : Below wr.heap.size wr wA := HBE.out.grown hgrowA HBE.out.size (fun q hq => by simp [Value.ownBlock] at hq; omega); have hkA0 : wA.cell? ⟨wr.heap.size, 0, none⟩ = some (.int .i64 N) := (cell_grown hgrowA (by simp; omega) (by simp [Value.ownBlock]; omega)).trans HY0.out; have hkA1 : wA.cell? ⟨wr.heap.size, 1, none⟩ = some (.slice Ab 130 cb) := (cell_grown hgrowA (by simp; omega) (by simp [Value.ownBlock]; omega)).trans HY1.out; have hszA : wr.heap.size < wA.heap.size := (by have := hgrowA.size; simp at this; omega); refine step_append_rd _ (by rfl) (.tmp 43) (.tmp 51) 22 (by rfl) (w.heap.size + 2) 62 i2 _ 2 32 Try.underlying22 ki kz0 kz1 kz2 rfl (by decide) v4 k (rowP T) (by rfl) ((own_below HO1.out hbA (fun q hq => HVL.out q hq)).alloc _) (some ⟨wA.heap.size, 0, none⟩) 1 1 _ [.int .i64 N, .slice A1 130 c1'] (by rfl) (fun e => by cases e) (OwnB.lit wA wA.heap.size (Nat.le_refl _) 62 2 1 #[.int .i64 N, .slice A1 130 c1'] rfl (by simp [maxLen])).rd (by intro u hu; simp at hu; rcases hu with rfl | rfl <;> rfl) (by unfold maxLen; omega) (by omega) (by simp; omega) (wA.heap.size + 1) (by simp) (k + 1) rfl ?_; intro A2 c2 wB hownB hgrowB hatB)))
            have hpush : OwnP wB (w.heap.size + 2) (w.heap.size + 2) (.slice A2 (k + 1) c2) (T ++ [(N, .slice A1 130 c1', l')]) := HO.out.push (by omega) hbA (own_base hownA (by omega)) hgrowB hatB (by rw [HTL.out]; exact hownB)
            have hrB : Below (w.heap.size + 2) wr wB := (((hbA.mono (by omega)).alloc (by omega) _).grown hgrowB (by simp; omega) (fun q hq => HVG.out q hq))
            have HP := Lib.hid hpush
            have HTL2 : Hid ((T ++ [(N, Value.slice A1 130 c1', l')]).length = k + 1) := Lib.hid (by rw [List.length_append, HTL.out]; rfl)
            have HT2 : Hid ((T ++ [(N, Value.slice A1 130 c1', l')]).map pcP = (fewP L).take (k + 1)) := Lib.hid (by rw [List.map_append, HT.out, HSN.out]; rfl)
            have HB02 := Lib.hid (HB0.out.below hrB (by omega))
            have HB12 := Lib.hid (HB1.out.below hrB (by omega))
            have hbw2 := hbw.trans (hrB.mono (by omega))
            clear hpush hownA hownB hgrowA hgrowB hatA hatB hkA0 hkA1 hbA hrB
            go_wp2
            go_roundw
            case rel => exact ⟨_, k + 1, _, rfl, by omega, by go_num, HTL2, HT2, HP.out, HB02.out, HB12.out, hbw2⟩
            case measure => simp [intOf]; omega
          · have hd4 : decide ((130 : Int) < (lb' : Int)) = false := decide_eq_false (by omega)
            go_wp2_with fail
            rw [HWX.out]
            go_region_held3 (fun w' => w'.cell? ⟨wr.heap.size, 0, none⟩ = some (.int .i64 N) ∧ w'.cell? ⟨wr.heap.size, 1, none⟩ = some (.slice Ab lb' cb))
              (first
                | go_keep
                | exact ⟨(cell_grown hgrowA (by simp; omega) (by simp [Value.ownBlock]; omega)).trans HY0.out, (cell_grown hgrowA (by simp; omega) (by simp [Value.ownBlock]; omega)).trans HY1.out⟩
                | exact ⟨(cell_grown hgrowB (by simp; omega) (fun e => by have := HVL.out _ e.symm; simp only at this; omega)).trans ((old_cell wA _ _ _ hszA).trans hkA0), (cell_grown hgrowB (by simp; omega) (fun e => by have := HVL.out _ e.symm; simp only at this; omega)).trans ((old_cell wA _ _ _ hszA).trans hkA1)⟩)
              (first
                | ((refine step_append_rd _ (by rfl) (.tmp 46) (.tmp 48) 25 (by rfl) wx.heap.size 5 i1 _ 1 1 Try.underlying25 hi hz0 hz1 hz2 rfl (by decide) (.slice (some ⟨wx.heap.size, 0, none⟩) 0 0) 0 [] (by rfl) HE.out Ab lb' cb w.heap.size (octV l') (by rfl) hbn HRX.out (octV_one _) (by unfold maxLen; omega) (by omega) (by simp) (wx.heap.size + 1) (by simp) lb' (by omega) ?_; intro A1 c1' wA hownA hgrowA hatA))
                | ((have hbA : Below wr.heap.size wr wA := HBE.out.grown hgrowA HBE.out.size (fun q hq => by simp [Value.ownBlock] at hq; omega); have hkA0 : wA.cell? ⟨wr.heap.size, 0, none⟩ = some (.int .i64 N) := (cell_grown hgrowA (by simp; omega) (by simp [Value.ownBlock]; omega)).trans HY0.out; have hkA1 : wA.cell? ⟨wr.heap.size, 1, none⟩ = some (.slice Ab lb' cb) := (cell_grown hgrowA (by simp; omega) (by simp [Value.ownBlock]; omega)).trans HY1.out; have hszA : wr.heap.size < wA.heap.size := (by have := hgrowA.size; simp at this; omega); refine step_append_rd _ (by rfl) (.tmp 43) (.tmp 51) 22 (by rfl) (w.heap.size + 2) 62 i2 _ 2 32 Try.underlying22 ki kz0 kz1 kz2 rfl (by decide) v4 k (rowP T) (by rfl) ((own_below HO1.out hbA (fun q hq => HVL.out q hq)).alloc _) (some ⟨wA.heap.size, 0, none⟩) 1 1 _ [.int .i64 N, .slice A1 lb' c1'] (by rfl) (fun e => by cases e) (OwnB.lit wA wA.heap.size (Nat.le_refl _) 62 2 1 #[.int .i64 N, .slice A1 lb' c1'] rfl (by simp [maxLen])).rd (by intro u hu; simp at hu; rcases hu with rfl | rfl <;> rfl) (by unfold maxLen; omega) (by omega) (by simp; omega) (wA.heap.size + 1) (by simp) (k + 1) rfl ?_; intro A2 c2 wB hownB hgrowB hatB)))
            have hpush : OwnP wB (w.heap.size + 2) (w.heap.size + 2) (.slice A2 (k + 1) c2) (T ++ [(N, .slice A1 lb' c1', l')]) := HO.out.push (by omega) hbA (own_base hownA (by omega)) hgrowB hatB (by rw [HTL.out]; exact hownB)
            have hrB : Below (w.heap.size + 2) wr wB := (((hbA.mono (by omega)).alloc (by omega) _).grown hgrowB (by simp; omega) (fun q hq => HVG.out q hq))
            have HP := Lib.hid hpush
            have HTL2 : Hid ((T ++ [(N, Value.slice A1 lb' c1', l')]).length = k + 1) := Lib.hid (by rw [List.length_append, HTL.out]; rfl)
            have HT2 : Hid ((T ++ [(N, Value.slice A1 lb' c1', l')]).map pcP = (fewP L).take (k + 1)) := Lib.hid (by rw [List.map_append, HT.out, HSN.out]; rfl)
            have HB02 := Lib.hid (HB0.out.below hrB (by omega))
            have HB12 := Lib.hid (HB1.out.below hrB (by omega))
            have hbw2 := hbw.trans (hrB.mono (by omega))
            clear hpush hownA hownB hgrowA hgrowB hatA hatB hkA0 hkA1 hbA hrB
            go_wp2
            go_roundw
            case rel => exact ⟨_, k + 1, _, rfl, by omega, by go_num, HTL2, HT2, HP.out, HB02.out, HB12.out, hbw2⟩
            case measure => simp [intOf]; omega
        · obtain rfl : 20 = k := by omega
          obtain ⟨d0, d1, f0, f1⟩ := blk2 hB0
          obtain ⟨e0, e1', g0, g1⟩ := blk2 hB1
          have hown1 : wr.ownsRow (w.heap.size + 2) 62 2 v4 20 (rowP T) := by rw [← HTL.out]; exact hown.1
          obtain ⟨Av, cv, rfl, _, _, _⟩ := own_form hown1
          clear hown1
          have HO := Lib.hid hown
          have hbs := hbw.size
          have HB1 := Lib.hid hB1
          clear hown hB0 hB1
          obtain ⟨wo, rfl⟩ : ∃ wo : World, wo = wr := ⟨_, rfl⟩
          obtain ⟨A', c', e, hp⟩ := HO.out.isQ (w' := ((wo.setCell ⟨w.heap.size, 1, none⟩ (.slice Av 20 cv)).setCell ⟨w.heap.size + 1, 0, none⟩ (.int .i64 sz)).setCell ⟨w.heap.size + 1, 1, none⟩ (.slice Av 20 cv)) (fun p hp hq => by
            have hge : w.heap.size + 2 ≤ p.block := by
              rcases hq with hq | hq
              · exact (HO.out.1.lt _ hq.symm).1
              · exact hq
            rw [cell_far (by show p.block ≠ w.heap.size + 1; omega), cell_far (by show p.block ≠ w.heap.size + 1; omega), cell_far (by show p.block ≠ w.heap.size; omega)]) (by simp) (Nat.le_refl _)
          injection e with e1 e2 e3
          subst e1 e3
          rw [HTL.out, HT.out, List.take_of_length_le (by rw [fewP_len]; have := HM.out; omega)] at hp
          have HP := Lib.hid hp
          have hbw2 : Below w.heap.size w (((wo.setCell ⟨w.heap.size, 1, none⟩ (.slice Av 20 cv)).setCell ⟨w.heap.size + 1, 0, none⟩ (.int .i64 sz)).setCell ⟨w.heap.size + 1, 1, none⟩ (.slice Av 20 cv)) := ((hbw.setCell (by simp) _).setCell (by simp) _).setCell (by simp) _
          clear hp e2
          go_wp2
          exact bodyPost_ret (v := .agg #[.int .i64 sz, .slice Av 20 cv]) (by simp [results, Try.results8, go_sem, e0, e1']) rfl ⟨⟨Av, 20, cv, rfl, HP.out⟩, hbw2⟩
  · rcases hcs with ⟨s1, s2, rfl⟩ | ⟨s1, rfl⟩ | ⟨s1, rfl⟩
    · have hd1 : decide ((20 : Int) < (m : Int)) = false := decide_eq_false (by omega)
      have hd2 : decide ((20000 : Int) < size) = true := decide_eq_true (by omega)
      have hd3 : decide (size ≤ (463488 : Int)) = true := decide_eq_true (by omega)
      go_enter Try.func8, Try.ntmps8
      go_wp2
      go_loopw [3, 4] (fun v i wr => ∃ (v0 : Value) (k : Nat) (T : List PV), v0 = v ∧ k ≤ m ∧ i = .int .i64 k ∧ Hid (T.length = k) ∧ Hid (T.map pcP = (fewP L).take k) ∧ OwnP wr (w.heap.size + 2) (w.heap.size + 2) v0 T ∧ Blk wr w.heap.size 24 (0, 0) #[.int .i64 20000, .slice A m c] ∧ Blk wr (w.heap.size + 1) 24 (0, 0) #[.int .i64 0, .slice none 0 0] ∧ Below w.heap.size w wr) (fun _ i _ => m - (intOf i).toNat)
      case atStart => exact ⟨_, 0, [], rfl, Nat.zero_le _, rfl, Lib.hid rfl, Lib.hid (by simp), OwnP.nil _ _ _, (Blk.new w _ _ _).alloc _, by have := Blk.new (w.alloc (.cells #[.int .i64 20000, .slice A m c] 24)) 24 (0, 0) #[.int .i64 0, .slice none 0 0]; simpa using this, ((Below.refl _ _).alloc (Nat.le_refl _) _).alloc (by simp) _⟩
      case round =>
        obtain ⟨v4, k, T, rfl, hk, rfl, HTL, HT, hown, hB0, hB1, hbw⟩ := hrel
        by_cases hlt : k < m
        · obtain ⟨g, o, x, Ab, cb, rfl, hg, hx, c0, c1, hb1, hb2, hbn, hrb⟩ := (H.out.below hbw).at_ (show k < m by omega)
          obtain ⟨N, l⟩ := x
          simp only at c0 c1 hb1 hrb
          have hsn := fewP_snoc L m k (N, l) HM.out hlt hx
          simp only at hsn
          obtain ⟨lb, hlb⟩ : ∃ lb, l.length = lb := ⟨_, rfl⟩
          rw [hlb] at c1 hb1 hrb
          obtain ⟨d0, d1, f0, f1⟩ := blk2 hB0
          have HB0 := Lib.hid hB0
          have HB1 := Lib.hid hB1
          have hown1 : wr.ownsRow (w.heap.size + 2) 62 2 v4 k (rowP T) := by rw [← HTL.out]; exact hown.1
          have HO := Lib.hid hown
          have HO1 := Lib.hid hown1
          have HSN := Lib.hid hsn
          have i0 : (0 : Int) ≤ (k : Int) := Int.natCast_nonneg _
          have i1' : (k : Int) < (m : Int) := by omega
          have hk20 : k ≤ 20 := by omega
          unfold maxLen at hb2
          have hbs := hbw.size
          have hvlt : ∀ q, v4.ownBlock = some q → q < wr.heap.size := fun q hq => (hown.1.lt q hq).2
          have hvge : ∀ q, v4.ownBlock = some q → w.heap.size + 2 ≤ q := fun q hq => (hown.1.lt q hq).1
          have HVL := Lib.hid hvlt
          have HVG := Lib.hid hvge
          have hsB1 := hB1.lt
          clear hB0 hB1 hown hown1 hsn hx hvlt hvge
          have hl3 : ∃ lb' : Nat, lb' ≤ 130 ∧ Rd wr w.heap.size 1 Ab lb' (octV (l.take 130)) ∧ lb' ≤ lb ∧ ((130 < lb ∧ lb' = 130) ∨ (lb ≤ 130 ∧ lb' = lb)) := by
            rcases Nat.lt_or_ge 130 lb with hh | hh
            · refine ⟨130, Nat.le_refl _, ?_, by omega, .inl ⟨hh, rfl⟩⟩
              have := rd_takeV hrb (show 130 ≤ lb by omega)
              rw [octV_take]; exact this
            · exact ⟨lb, hh, by rw [List.take_of_length_le (by omega)]; exact hrb, Nat.le_refl _, .inr ⟨hh, rfl⟩⟩
          obtain ⟨lb', hl130, hrl, hll, hlc⟩ := hl3
          obtain ⟨l', hl'⟩ : ∃ l', l.take 130 = l' := ⟨_, rfl⟩
          rw [hl'] at hrl HSN
          obtain ⟨wx, hwx⟩ : ∃ wx, wr.alloc (.cells #[.int .i64 N, .slice Ab lb' cb] 62) = wx := ⟨_, rfl⟩
          have hbx : Below wr.heap.size wr wx := by rw [← hwx]; exact (Below.refl _ _).alloc (Nat.le_refl _) _
          have hsx : wx.heap.size = wr.heap.size + 1 := by rw [← hwx]; simp
          obtain ⟨y0, y1, _, _⟩ := blk2 (show Blk wx wr.heap.size 62 (0, 0) #[.int .i64 N, .slice Ab lb' cb] by rw [← hwx]; exact Blk.new _ _ _ _)
          have hE : ((wx.alloc (.cells #[] 5)).drew).ownsRow wx.heap.size 5 1 (.slice (some ⟨wx.heap.size, 0, none⟩) 0 0) 0 [] := (OwnB.lit wx wx.heap.size (Nat.le_refl _) 5 1 0 #[] rfl (by simp [maxLen])).own.drew
          have hrx : Rd ((wx.alloc (.cells #[] 5)).drew) w.heap.size 1 Ab lb' (octV l') := ((hrl.below (hbx.mono hbs)).below ((Below.refl _ _).alloc (by omega) _)).keep fun _ _ => rfl
          have hbe : Below wr.heap.size wr ((wx.alloc (.cells #[] 5)).drew) := below_drew (hbx.alloc (by omega) _)
          have HE := Lib.hid hE
          have HRX := Lib.hid hrx
          have HWX := Lib.hid hwx
          have HBE := Lib.hid hbe
          have hye0 : ((wx.alloc (.cells #[] 5)).drew).cell? ⟨wr.heap.size, 0, none⟩ = some (.int .i64 N) := (old_cell wx _ _ _ (by omega)).trans y0
          have hye1 : ((wx.alloc (.cells #[] 5)).drew).cell? ⟨wr.heap.size, 1, none⟩ = some (.slice Ab lb' cb) := (old_cell wx _ _ _ (by omega)).trans y1
          have HY0 := Lib.hid hye0
          have HY1 := Lib.hid hye1
          have HSX := Lib.hid hsx
          have hsx1 : wr.heap.size < wx.heap.size := by omega
          clear hE hrx hwx hbe hye0 hye1 hrl hl' hlb hsx
          rcases hlc with ⟨hlg, rfl⟩ | ⟨hlg, rfl⟩
          · have hd4 : decide ((130 : Int) < (lb : Int)) = true := decide_eq_true (by omega)
            go_wp2_with fail
            rw [HWX.out]
            go_region_held3 (fun w' => w'.cell? ⟨wr.heap.size, 0, none⟩ = some (.int .i64 N) ∧ w'.cell? ⟨wr.heap.size, 1, none⟩ = some (.slice Ab 130 cb))
              (first
                | go_keep
                | exact ⟨(cell_grown hgrowA (by simp; omega) (by simp [Value.ownBlock]; omega)).trans HY0.out, (cell_grown hgrowA (by simp; omega) (by simp [Value.ownBlock]; omega)).trans HY1.out⟩
                | exact ⟨(cell_grown hgrowB (by simp; omega) (fun e => by have := HVL.out _ e.symm; simp only at this; omega)).trans ((old_cell wA _ _ _ hszA).trans hkA0), (cell_grown hgrowB (by simp; omega) (fun e => by have := HVL.out _ e.symm; simp only at this; omega)).trans ((old_cell wA _ _ _ hszA).trans hkA1)⟩)
              (first
                | ((refine step_append_rd _ (by rfl) (.tmp 46) (.tmp 48) 25 (by rfl) wx.heap.size 5 i1 _ 1 1 Try.underlying25 hi hz0 hz1 hz2 rfl (by decide) (.slice (some ⟨wx.heap.size, 0, none⟩) 0 0) 0 [] (by rfl) HE.out Ab 130 cb w.heap.size (octV l') (by rfl) hbn HRX.out (octV_one _) (by unfold maxLen; omega) (by omega) (by simp) (wx.heap.size + 1) (by simp) 130 (by omega) ?_; intro A1 c1' wA hownA hgrowA hatA))
                | ((have hbA : Below wr.heap.size wr wA := HBE.out.grown hgrowA HBE.out.size (fun q hq => by simp [Value.ownBlock] at hq; omega); have hkA0 : wA.cell? ⟨wr.heap.size, 0, none⟩ = some (.int .i64 N) := (cell_grown hgrowA (by simp; omega) (by simp [Value.ownBlock]; omega)).trans HY0.out; have hkA1 : wA.cell? ⟨wr.heap.size, 1, none⟩ = some (.slice Ab 130 cb) := (cell_grown hgrowA (by simp; omega) (by simp [Value.ownBlock]; omega)).trans HY1.out; have hszA : wr.heap.size < wA.heap.size := (by have := hgrowA.size; simp at this; omega); refine step_append_rd _ (by rfl) (.tmp 43) (.tmp 51) 22 (by rfl) (w.heap.size + 2) 62 i2 _ 2 32 Try.underlying22 ki kz0 kz1 kz2 rfl (by decide) v4 k (rowP T) (by rfl) ((own_below HO1.out hbA (fun q hq => HVL.out q hq)).alloc _) (some ⟨wA.heap.size, 0, none⟩) 1 1 _ [.int .i64 N, .slice A1 130 c1'] (by rfl) (fun e => by cases e) (OwnB.lit wA wA.heap.size (Nat.le_refl _) 62 2 1 #[.int .i64 N, .slice A1 130 c1'] rfl (by simp [maxLen])).rd (by intro u hu; simp at hu; rcases hu with rfl | rfl <;> rfl) (by unfold maxLen; omega) (by omega) (by simp; omega) (wA.heap.size + 1) (by simp) (k + 1) rfl ?_; intro A2 c2 wB hownB hgrowB hatB)))
            have hpush : OwnP wB (w.heap.size + 2) (w.heap.size + 2) (.slice A2 (k + 1) c2) (T ++ [(N, .slice A1 130 c1', l')]) := HO.out.push (by omega) hbA (own_base hownA (by omega)) hgrowB hatB (by rw [HTL.out]; exact hownB)
            have hrB : Below (w.heap.size + 2) wr wB := (((hbA.mono (by omega)).alloc (by omega) _).grown hgrowB (by simp; omega) (fun q hq => HVG.out q hq))
            have HP := Lib.hid hpush
            have HTL2 : Hid ((T ++ [(N, Value.slice A1 130 c1', l')]).length = k + 1) := Lib.hid (by rw [List.length_append, HTL.out]; rfl)
            have HT2 : Hid ((T ++ [(N, Value.slice A1 130 c1', l')]).map pcP = (fewP L).take (k + 1)) := Lib.hid (by rw [List.map_append, HT.out, HSN.out]; rfl)
            have HB02 := Lib.hid (HB0.out.below hrB (by omega))
            have HB12 := Lib.hid (HB1.out.below hrB (by omega))
            have hbw2 := hbw.trans (hrB.mono (by omega))
            clear hpush hownA hownB hgrowA hgrowB hatA hatB hkA0 hkA1 hbA hrB
            go_wp2
            go_roundw
            case rel => exact ⟨_, k + 1, _, rfl, by omega, by go_num, HTL2, HT2, HP.out, HB02.out, HB12.out, hbw2⟩
            case measure => simp [intOf]; omega
          · have hd4 : decide ((130 : Int) < (lb' : Int)) = false := decide_eq_false (by omega)
            go_wp2_with fail
            rw [HWX.out]
            go_region_held3 (fun w' => w'.cell? ⟨wr.heap.size, 0, none⟩ = some (.int .i64 N) ∧ w'.cell? ⟨wr.heap.size, 1, none⟩ = some (.slice Ab lb' cb))
              (first
                | go_keep
                | exact ⟨(cell_grown hgrowA (by simp; omega) (by simp [Value.ownBlock]; omega)).trans HY0.out, (cell_grown hgrowA (by simp; omega) (by simp [Value.ownBlock]; omega)).trans HY1.out⟩
                | exact ⟨(cell_grown hgrowB (by simp; omega) (fun e => by have := HVL.out _ e.symm; simp only at this; omega)).trans ((old_cell wA _ _ _ hszA).trans hkA0), (cell_grown hgrowB (by simp; omega) (fun e => by have := HVL.out _ e.symm; simp only at this; omega)).trans ((old_cell wA _ _ _ hszA).trans hkA1)⟩)
              (first
                | ((refine step_append_rd _ (by rfl) (.tmp 46) (.tmp 48) 25 (by rfl) wx.heap.size 5 i1 _ 1 1 Try.underlying25 hi hz0 hz1 hz2 rfl (by decide) (.slice (some ⟨wx.heap.size, 0, none⟩) 0 0) 0 [] (by rfl) HE.out Ab lb' cb w.heap.size (octV l') (by rfl) hbn HRX.out (octV_one _) (by unfold maxLen; omega) (by omega) (by simp) (wx.heap.size + 1) (by simp) lb' (by omega) ?_; intro A1 c1' wA hownA hgrowA hatA))
                | ((have hbA : Below wr.heap.size wr wA := HBE.out.grown hgrowA HBE.out.size (fun q hq => by simp [Value.ownBlock] at hq; omega); have hkA0 : wA.cell? ⟨wr.heap.size, 0, none⟩ = some (.int .i64 N) := (cell_grown hgrowA (by simp; omega) (by simp [Value.ownBlock]; omega)).trans HY0.out; have hkA1 : wA.cell? ⟨wr.heap.size, 1, none⟩ = some (.slice Ab lb' cb) := (cell_grown hgrowA (by simp; omega) (by simp [Value.ownBlock]; omega)).trans HY1.out; have hszA : wr.heap.size < wA.heap.size := (by have := hgrowA.size; simp at this; omega); refine step_append_rd _ (by rfl) (.tmp 43) (.tmp 51) 22 (by rfl) (w.heap.size + 2) 62 i2 _ 2 32 Try.underlying22 ki kz0 kz1 kz2 rfl (by decide) v4 k (rowP T) (by rfl) ((own_below HO1.out hbA (fun q hq => HVL.out q hq)).alloc _) (some ⟨wA.heap.size, 0, none⟩) 1 1 _ [.int .i64 N, .slice A1 lb' c1'] (by rfl) (fun e => by cases e) (OwnB.lit wA wA.heap.size (Nat.le_refl _) 62 2 1 #[.int .i64 N, .slice A1 lb' c1'] rfl (by simp [maxLen])).rd (by intro u hu; simp at hu; rcases hu with rfl | rfl <;> rfl) (by unfold maxLen; omega) (by omega) (by simp; omega) (wA.heap.size + 1) (by simp) (k + 1) rfl ?_; intro A2 c2 wB hownB hgrowB hatB)))
            have hpush : OwnP wB (w.heap.size + 2) (w.heap.size + 2) (.slice A2 (k + 1) c2) (T ++ [(N, .slice A1 lb' c1', l')]) := HO.out.push (by omega) hbA (own_base hownA (by omega)) hgrowB hatB (by rw [HTL.out]; exact hownB)
            have hrB : Below (w.heap.size + 2) wr wB := (((hbA.mono (by omega)).alloc (by omega) _).grown hgrowB (by simp; omega) (fun q hq => HVG.out q hq))
            have HP := Lib.hid hpush
            have HTL2 : Hid ((T ++ [(N, Value.slice A1 lb' c1', l')]).length = k + 1) := Lib.hid (by rw [List.length_append, HTL.out]; rfl)
            have HT2 : Hid ((T ++ [(N, Value.slice A1 lb' c1', l')]).map pcP = (fewP L).take (k + 1)) := Lib.hid (by rw [List.map_append, HT.out, HSN.out]; rfl)
            have HB02 := Lib.hid (HB0.out.below hrB (by omega))
            have HB12 := Lib.hid (HB1.out.below hrB (by omega))
            have hbw2 := hbw.trans (hrB.mono (by omega))
            clear hpush hownA hownB hgrowA hgrowB hatA hatB hkA0 hkA1 hbA hrB
            go_wp2
            go_roundw
            case rel => exact ⟨_, k + 1, _, rfl, by omega, by go_num, HTL2, HT2, HP.out, HB02.out, HB12.out, hbw2⟩
            case measure => simp [intOf]; omega
        · obtain rfl : m = k := by omega
          obtain ⟨d0, d1, f0, f1⟩ := blk2 hB0
          obtain ⟨e0, e1', g0, g1⟩ := blk2 hB1
          have hown1 : wr.ownsRow (w.heap.size + 2) 62 2 v4 m (rowP T) := by rw [← HTL.out]; exact hown.1
          obtain ⟨Av, cv, rfl, _, _, _⟩ := own_form hown1
          clear hown1
          have HO := Lib.hid hown
          have hbs := hbw.size
          have HB1 := Lib.hid hB1
          clear hown hB0 hB1
          obtain ⟨wo, rfl⟩ : ∃ wo : World, wo = wr := ⟨_, rfl⟩
          obtain ⟨A', c', e, hp⟩ := HO.out.isQ (w' := ((wo.setCell ⟨w.heap.size, 1, none⟩ (.slice Av m cv)).setCell ⟨w.heap.size + 1, 0, none⟩ (.int .i64 20000)).setCell ⟨w.heap.size + 1, 1, none⟩ (.slice Av m cv)) (fun p hp hq => by
            have hge : w.heap.size + 2 ≤ p.block := by
              rcases hq with hq | hq
              · exact (HO.out.1.lt _ hq.symm).1
              · exact hq
            rw [cell_far (by show p.block ≠ w.heap.size + 1; omega), cell_far (by show p.block ≠ w.heap.size + 1; omega), cell_far (by show p.block ≠ w.heap.size; omega)]) (by simp) (Nat.le_refl _)
          injection e with e1 e2 e3
          subst e1 e3
          rw [HTL.out, HT.out, List.take_of_length_le (by rw [fewP_len]; have := HM.out; omega)] at hp
          have HP := Lib.hid hp
          have hbw2 : Below w.heap.size w (((wo.setCell ⟨w.heap.size, 1, none⟩ (.slice Av m cv)).setCell ⟨w.heap.size + 1, 0, none⟩ (.int .i64 20000)).setCell ⟨w.heap.size + 1, 1, none⟩ (.slice Av m cv)) := ((hbw.setCell (by simp) _).setCell (by simp) _).setCell (by simp) _
          clear hp e2
          go_wp2
          exact bodyPost_ret (v := .agg #[.int .i64 20000, .slice Av m cv]) (by simp [results, Try.results8, go_sem, e0, e1']) rfl ⟨⟨Av, m, cv, rfl, HP.out⟩, hbw2⟩
    · have hd1 : decide ((20 : Int) < (m : Int)) = false := decide_eq_false (by omega)
      have hd2 : decide ((20000 : Int) < sz) = false := decide_eq_false (by omega)
      go_enter Try.func8, Try.ntmps8
      go_wp2
      go_loopw [3, 4] (fun v i wr => ∃ (v0 : Value) (k : Nat) (T : List PV), v0 = v ∧ k ≤ m ∧ i = .int .i64 k ∧ Hid (T.length = k) ∧ Hid (T.map pcP = (fewP L).take k) ∧ OwnP wr (w.heap.size + 2) (w.heap.size + 2) v0 T ∧ Blk wr w.heap.size 24 (0, 0) #[.int .i64 sz, .slice A m c] ∧ Blk wr (w.heap.size + 1) 24 (0, 0) #[.int .i64 0, .slice none 0 0] ∧ Below w.heap.size w wr) (fun _ i _ => m - (intOf i).toNat)
      case atStart => exact ⟨_, 0, [], rfl, Nat.zero_le _, rfl, Lib.hid rfl, Lib.hid (by simp), OwnP.nil _ _ _, (Blk.new w _ _ _).alloc _, by have := Blk.new (w.alloc (.cells #[.int .i64 sz, .slice A m c] 24)) 24 (0, 0) #[.int .i64 0, .slice none 0 0]; simpa using this, ((Below.refl _ _).alloc (Nat.le_refl _) _).alloc (by simp) _⟩
      case round =>
        obtain ⟨v4, k, T, rfl, hk, rfl, HTL, HT, hown, hB0, hB1, hbw⟩ := hrel
        by_cases hlt : k < m
        · obtain ⟨g, o, x, Ab, cb, rfl, hg, hx, c0, c1, hb1, hb2, hbn, hrb⟩ := (H.out.below hbw).at_ (show k < m by omega)
          obtain ⟨N, l⟩ := x
          simp only at c0 c1 hb1 hrb
          have hsn := fewP_snoc L m k (N, l) HM.out hlt hx
          simp only at hsn
          obtain ⟨lb, hlb⟩ : ∃ lb, l.length = lb := ⟨_, rfl⟩
          rw [hlb] at c1 hb1 hrb
          obtain ⟨d0, d1, f0, f1⟩ := blk2 hB0
          have HB0 := Lib.hid hB0
          have HB1 := Lib.hid hB1
          have hown1 : wr.ownsRow (w.heap.size + 2) 62 2 v4 k (rowP T) := by rw [← HTL.out]; exact hown.1
          have HO := Lib.hid hown
          have HO1 := Lib.hid hown1
          have HSN := Lib.hid hsn
          have i0 : (0 : Int) ≤ (k : Int) := Int.natCast_nonneg _
          have i1' : (k : Int) < (m : Int) := by omega
          have hk20 : k ≤ 20 := by omega
          unfold maxLen at hb2
          have hbs := hbw.size
          have hvlt : ∀ q, v4.ownBlock = some q → q < wr.heap.size := fun q hq => (hown.1.lt q hq).2
          have hvge : ∀ q, v4.ownBlock = some q → w.heap.size + 2 ≤ q := fun q hq => (hown.1.lt q hq).1
          have HVL := Lib.hid hvlt
          have HVG := Lib.hid hvge
          have hsB1 := hB1.lt
          clear hB0 hB1 hown hown1 hsn hx hvlt hvge
          have hl3 : ∃ lb' : Nat, lb' ≤ 130 ∧ Rd wr w.heap.size 1 Ab lb' (octV (l.take 130)) ∧ lb' ≤ lb ∧ ((130 < lb ∧ lb' = 130) ∨ (lb ≤ 130 ∧ lb' = lb)) := by
            rcases Nat.lt_or_ge 130 lb with hh | hh
            · refine ⟨130, Nat.le_refl _, ?_, by omega, .inl ⟨hh, rfl⟩⟩
              have := rd_takeV hrb (show 130 ≤ lb by omega)
              rw [octV_take]; exact this
            · exact ⟨lb, hh, by rw [List.take_of_length_le (by omega)]; exact hrb, Nat.le_refl _, .inr ⟨hh, rfl⟩⟩
          obtain ⟨lb', hl130, hrl, hll, hlc⟩ := hl3
          obtain ⟨l', hl'⟩ : ∃ l', l.take 130 = l' := ⟨_, rfl⟩
          rw [hl'] at hrl HSN
          obtain ⟨wx, hwx⟩ : ∃ wx, wr.alloc (.cells #[.int .i64 N, .slice Ab lb' cb] 62) = wx := ⟨_, rfl⟩
          have hbx : Below wr.heap.size wr wx := by rw [← hwx]; exact (Below.refl _ _).alloc (Nat.le_refl _) _
          have hsx : wx.heap.size = wr.heap.size + 1 := by rw [← hwx]; simp
          obtain ⟨y0, y1, _, _⟩ := blk2 (show Blk wx wr.heap.size 62 (0, 0) #[.int .i64 N, .slice Ab lb' cb] by rw [← hwx]; exact Blk.new _ _ _ _)
          have hE : ((wx.alloc (.cells #[] 5)).drew).ownsRow wx.heap.size 5 1 (.slice (some ⟨wx.heap.size, 0, none⟩) 0 0) 0 [] := (OwnB.lit wx wx.heap.size (Nat.le_refl _) 5 1 0 #[] rfl (by simp [maxLen])).own.drew
          have hrx : Rd ((wx.alloc (.cells #[] 5)).drew) w.heap.size 1 Ab lb' (octV l') := ((hrl.below (hbx.mono hbs)).below ((Below.refl _ _).alloc (by omega) _)).keep fun _ _ => rfl
          have hbe : Below wr.heap.size wr ((wx.alloc (.cells #[] 5)).drew) := below_drew (hbx.alloc (by omega) _)
          have HE := Lib.hid hE
          have HRX := Lib.hid hrx
          have HWX := Lib.hid hwx
          have HBE := Lib.hid hbe
          have hye0 : ((wx.alloc (.cells #[] 5)).drew).cell? ⟨wr.heap.size, 0, none⟩ = some (.int .i64 N) := (old_cell wx _ _ _ (by omega)).trans y0
          have hye1 : ((wx.alloc (.cells #[] 5)).drew).cell? ⟨wr.heap.size, 1, none⟩ = some (.slice Ab lb' cb) := (old_cell wx _ _ _ (by omega)).trans y1
          have HY0 := Lib.hid hye0
          have HY1 := Lib.hid hye1
          have HSX := Lib.hid hsx
          have hsx1 : wr.heap.size < wx.heap.size := by omega
          clear hE hrx hwx hbe hye0 hye1 hrl hl' hlb hsx
          rcases hlc with ⟨hlg, rfl⟩ | ⟨hlg, rfl⟩
          · have hd4 : decide ((130 : Int) < (lb : Int)) = true := decide_eq_true (by omega)
            go_wp2_with fail
            rw [HWX.out]
            go_region_held3 (fun w' => w'.cell? ⟨wr.heap.size, 0, none⟩ = some (.int .i64 N) ∧ w'.cell? ⟨wr.heap.size, 1, none⟩ = some (.slice Ab 130 cb))
              (first
                | go_keep
                | exact ⟨(cell_grown hgrowA (by simp; omega) (by simp [Value.ownBlock]; omega)).trans HY0.out, (cell_grown hgrowA (by simp; omega) (by simp [Value.ownBlock]; omega)).trans HY1.out⟩
                | exact ⟨(cell_grown hgrowB (by simp; omega) (fun e => by have := HVL.out _ e.symm; simp only at this; omega)).trans ((old_cell wA _ _ _ hszA).trans hkA0), (cell_grown hgrowB (by simp; omega) (fun e => by have := HVL.out _ e.symm; simp only at this; omega)).trans ((old_cell wA _ _ _ hszA).trans hkA1)⟩)
              (first
                | ((refine step_append_rd _ (by rfl) (.tmp 46) (.tmp 48) 25 (by rfl) wx.heap.size 5 i1 _ 1 1 Try.underlying25 hi hz0 hz1 hz2 rfl (by decide) (.slice (some ⟨wx.heap.size, 0, none⟩) 0 0) 0 [] (by rfl) HE.out Ab 130 cb w.heap.size (octV l') (by rfl) hbn HRX.out (octV_one _) (by unfold maxLen; omega) (by omega) (by simp) (wx.heap.size + 1) (by simp) 130 (by omega) ?_; intro A1 c1' wA hownA hgrowA hatA))
                | ((have hbA : Below wr.heap.size wr wA := HBE.out.grown hgrowA HBE.out.size (fun q hq => by simp [Value.ownBlock] at hq; omega); have hkA0 : wA.cell? ⟨wr.heap.size, 0, none⟩ = some (.int .i64 N) := (cell_grown hgrowA (by simp; omega) (by simp [Value.ownBlock]; omega)).trans HY0.out; have hkA1 : wA.cell? ⟨wr.heap.size, 1, none⟩ = some (.slice Ab 130 cb) := (cell_grown hgrowA (by simp; omega) (by simp [Value.ownBlock]; omega)).trans HY1.out; have hszA : wr.heap.size < wA.heap.size := (by have := hgrowA.size; simp at this; omega); refine step_append_rd _ (by rfl) (.tmp 43) (.tmp 51) 22 (by rfl) (w.heap.size + 2) 62 i2 _ 2 32 Try.underlying22 ki kz0 kz1 kz2 rfl (by decide) v4 k (rowP T) (by rfl) ((own_below HO1.out hbA (fun q hq => HVL.out q hq)).alloc _) (some ⟨wA.heap.size, 0, none⟩) 1 1 _ [.int .i64 N, .slice A1 130 c1'] (by rfl) (fun e => by cases e) (OwnB.lit wA wA.heap.size (Nat.le_refl _) 62 2 1 #[.int .i64 N, .slice A1 130 c1'] rfl (by simp [maxLen])).rd (by intro u hu; simp at hu; rcases hu with rfl | rfl <;> rfl) (by unfold maxLen; omega) (by omega) (by simp; omega) (wA.heap.size + 1) (by simp) (k + 1) rfl ?_; intro A2 c2 wB hownB hgrowB hatB)))
            have hpush : OwnP wB (w.heap.size + 2) (w.heap.size + 2) (.slice A2 (k + 1) c2) (T ++ [(N, .slice A1 130 c1', l')]) := HO.out.push (by omega) hbA (own_base hownA (by omega)) hgrowB hatB (by rw [HTL.out]; exact hownB)
            have hrB : Below (w.heap.size + 2) wr wB := (((hbA.mono (by omega)).alloc (by omega) _).grown hgrowB (by simp; omega) (fun q hq => HVG.out q hq))
            have HP := Lib.hid hpush
            have HTL2 : Hid ((T ++ [(N, Value.slice A1 130 c1', l')]).length = k + 1) := Lib.hid (by rw [List.length_append, HTL.out]; rfl)
            have HT2 : Hid ((T ++ [(N, Value.slice A1 130 c1', l')]).map pcP = (fewP L).take (k + 1)) := Lib.hid (by rw [List.map_append, HT.out, HSN.out]; rfl)
            have HB02 := Lib.hid (HB0.out.below hrB (by omega))
            have HB12 := Lib.hid (HB1.out.below hrB (by omega))
            have hbw2 := hbw.trans (hrB.mono (by omega))
            clear hpush hownA hownB hgrowA hgrowB hatA hatB hkA0 hkA1 hbA hrB
            go_wp2
            go_roundw
            case rel => exact ⟨_, k + 1, _, rfl, by omega, by go_num, HTL2, HT2, HP.out, HB02.out, HB12.out, hbw2⟩
            case measure => simp [intOf]; omega
          · have hd4 : decide ((130 : Int) < (lb' : Int)) = false := decide_eq_false (by omega)
            go_wp2_with fail
            rw [HWX.out]
            go_region_held3 (fun w' => w'.cell? ⟨wr.heap.size, 0, none⟩ = some (.int .i64 N) ∧ w'.cell? ⟨wr.heap.size, 1, none⟩ = some (.slice Ab lb' cb))
              (first
                | go_keep
                | exact ⟨(cell_grown hgrowA (by simp; omega) (by simp [Value.ownBlock]; omega)).trans HY0.out, (cell_grown hgrowA (by simp; omega) (by simp [Value.ownBlock]; omega)).trans HY1.out⟩
                | exact ⟨(cell_grown hgrowB (by simp; omega) (fun e => by have := HVL.out _ e.symm; simp only at this; omega)).trans ((old_cell wA _ _ _ hszA).trans hkA0), (cell_grown hgrowB (by simp; omega) (fun e => by have := HVL.out _ e.symm; simp only at this; omega)).trans ((old_cell wA _ _ _ hszA).trans hkA1)⟩)
              (first
                | ((refine step_append_rd _ (by rfl) (.tmp 46) (.tmp 48) 25 (by rfl) wx.heap.size 5 i1 _ 1 1 Try.underlying25 hi hz0 hz1 hz2 rfl (by decide) (.slice (some ⟨wx.heap.size, 0, none⟩) 0 0) 0 [] (by rfl) HE.out Ab lb' cb w.heap.size (octV l') (by rfl) hbn HRX.out (octV_one _) (by unfold maxLen; omega) (by omega) (by simp) (wx.heap.size + 1) (by simp) lb' (by omega) ?_; intro A1 c1' wA hownA hgrowA hatA))
                | ((have hbA : Below wr.heap.size wr wA := HBE.out.grown hgrowA HBE.out.size (fun q hq => by simp [Value.ownBlock] at hq; omega); have hkA0 : wA.cell? ⟨wr.heap.size, 0, none⟩ = some (.int .i64 N) := (cell_grown hgrowA (by simp; omega) (by simp [Value.ownBlock]; omega)).trans HY0.out; have hkA1 : wA.cell? ⟨wr.heap.size, 1, none⟩ = some (.slice Ab lb' cb) := (cell_grown hgrowA (by simp; omega) (by simp [Value.ownBlock]; omega)).trans HY1.out; have hszA : wr.heap.size < wA.heap.size := (by have := hgrowA.size; simp at this; omega); refine step_append_rd _ (by rfl) (.tmp 43) (.tmp 51) 22 (by rfl) (w.heap.size + 2) 62 i2 _ 2 32 Try.underlying22 ki kz0 kz1 kz2 rfl (by decide) v4 k (rowP T) (by rfl) ((own_below HO1.out hbA (fun q hq => HVL.out q hq)).alloc _) (some ⟨wA.heap.size, 0, none⟩) 1 1 _ [.int .i64 N, .slice A1 lb' c1'] (by rfl) (fun e => by cases e) (OwnB.lit wA wA.heap.size (Nat.le_refl _) 62 2 1 #[.int .i64 N, .slice A1 lb' c1'] rfl (by simp [maxLen])).rd (by intro u hu; simp at hu; rcases hu with rfl | rfl <;> rfl) (by unfold maxLen; omega) (by omega) (by simp; omega) (wA.heap.size + 1) (by simp) (k + 1) rfl ?_; intro A2 c2 wB hownB hgrowB hatB)))
            have hpush : OwnP wB (w.heap.size + 2) (w.heap.size + 2) (.slice A2 (k + 1) c2) (T ++ [(N, .slice A1 lb' c1', l')]) := HO.out.push (by omega) hbA (own_base hownA (by omega)) hgrowB hatB (by rw [HTL.out]; exact hownB)
            have hrB : Below (w.heap.size + 2) wr wB := (((hbA.mono (by omega)).alloc (by omega) _).grown hgrowB (by simp; omega) (fun q hq => HVG.out q hq))
            have HP := Lib.hid hpush
            have HTL2 : Hid ((T ++ [(N, Value.slice A1 lb' c1', l')]).length = k + 1) := Lib.hid (by rw [List.length_append, HTL.out]; rfl)
            have HT2 : Hid ((T ++ [(N, Value.slice A1 lb' c1', l')]).map pcP = (fewP L).take (k + 1)) := Lib.hid (by rw [List.map_append, HT.out, HSN.out]; rfl)
            have HB02 := Lib.hid (HB0.out.below hrB (by omega))
            have HB12 := Lib.hid (HB1.out.below hrB (by omega))
            have hbw2 := hbw.trans (hrB.mono (by omega))
            clear hpush hownA hownB hgrowA hgrowB hatA hatB hkA0 hkA1 hbA hrB
            go_wp2
            go_roundw
            case rel => exact ⟨_, k + 1, _, rfl, by omega, by go_num, HTL2, HT2, HP.out, HB02.out, HB12.out, hbw2⟩
            case measure => simp [intOf]; omega
        · obtain rfl : m = k := by omega
          obtain ⟨d0, d1, f0, f1⟩ := blk2 hB0
          obtain ⟨e0, e1', g0, g1⟩ := blk2 hB1
          have hown1 : wr.ownsRow (w.heap.size + 2) 62 2 v4 m (rowP T) := by rw [← HTL.out]; exact hown.1
          obtain ⟨Av, cv, rfl, _, _, _⟩ := own_form hown1
          clear hown1
          have HO := Lib.hid hown
          have hbs := hbw.size
          have HB1 := Lib.hid hB1
          clear hown hB0 hB1
          obtain ⟨wo, rfl⟩ : ∃ wo : World, wo = wr := ⟨_, rfl⟩
          obtain ⟨A', c', e, hp⟩ := HO.out.isQ (w' := ((wo.setCell ⟨w.heap.size, 1, none⟩ (.slice Av m cv)).setCell ⟨w.heap.size + 1, 0, none⟩ (.int .i64 sz)).setCell ⟨w.heap.size + 1, 1, none⟩ (.slice Av m cv)) (fun p hp hq => by
            have hge : w.heap.size + 2 ≤ p.block := by
              rcases hq with hq | hq
              · exact (HO.out.1.lt _ hq.symm).1
              · exact hq
            rw [cell_far (by show p.block ≠ w.heap.size + 1; omega), cell_far (by show p.block ≠ w.heap.size + 1; omega), cell_far (by show p.block ≠ w.heap.size; omega)]) (by simp) (Nat.le_refl _)
          injection e with e1 e2 e3
          subst e1 e3
          rw [HTL.out, HT.out, List.take_of_length_le (by rw [fewP_len]; have := HM.out; omega)] at hp
          have HP := Lib.hid hp
          have hbw2 : Below w.heap.size w (((wo.setCell ⟨w.heap.size, 1, none⟩ (.slice Av m cv)).setCell ⟨w.heap.size + 1, 0, none⟩ (.int .i64 sz)).setCell ⟨w.heap.size + 1, 1, none⟩ (.slice Av m cv)) := ((hbw.setCell (by simp) _).setCell (by simp) _).setCell (by simp) _
          clear hp e2
          go_wp2
          exact bodyPost_ret (v := .agg #[.int .i64 sz, .slice Av m cv]) (by simp [results, Try.results8, go_sem, e0, e1']) rfl ⟨⟨Av, m, cv, rfl, HP.out⟩, hbw2⟩
    · have hd1 : decide ((20 : Int) < (m : Int)) = false := decide_eq_false (by omega)
      have hd2 : decide ((20000 : Int) < sz) = true := decide_eq_true (by omega)
      have hd3 : decide (sz ≤ (463488 : Int)) = false := decide_eq_false (by omega)
      go_enter Try.func8, Try.ntmps8
      go_wp2
      go_loopw [3, 4] (fun v i wr => ∃ (v0 : Value) (k : Nat) (T : List PV), v0 = v ∧ k ≤ m ∧ i = .int .i64 k ∧ Hid (T.length = k) ∧ Hid (T.map pcP = (fewP L).take k) ∧ OwnP wr (w.heap.size + 2) (w.heap.size + 2) v0 T ∧ Blk wr w.heap.size 24 (0, 0) #[.int .i64 sz, .slice A m c] ∧ Blk wr (w.heap.size + 1) 24 (0, 0) #[.int .i64 0, .slice none 0 0] ∧ Below w.heap.size w wr) (fun _ i _ => m - (intOf i).toNat)
      case atStart => exact ⟨_, 0, [], rfl, Nat.zero_le _, rfl, Lib.hid rfl, Lib.hid (by simp), OwnP.nil _ _ _, (Blk.new w _ _ _).alloc _, by have := Blk.new (w.alloc (.cells #[.int .i64 sz, .slice A m c] 24)) 24 (0, 0) #[.int .i64 0, .slice none 0 0]; simpa using this, ((Below.refl _ _).alloc (Nat.le_refl _) _).alloc (by simp) _⟩
      case round =>
        obtain ⟨v4, k, T, rfl, hk, rfl, HTL, HT, hown, hB0, hB1, hbw⟩ := hrel
        by_cases hlt : k < m
        · obtain ⟨g, o, x, Ab, cb, rfl, hg, hx, c0, c1, hb1, hb2, hbn, hrb⟩ := (H.out.below hbw).at_ (show k < m by omega)
          obtain ⟨N, l⟩ := x
          simp only at c0 c1 hb1 hrb
          have hsn := fewP_snoc L m k (N, l) HM.out hlt hx
          simp only at hsn
          obtain ⟨lb, hlb⟩ : ∃ lb, l.length = lb := ⟨_, rfl⟩
          rw [hlb] at c1 hb1 hrb
          obtain ⟨d0, d1, f0, f1⟩ := blk2 hB0
          have HB0 := Lib.hid hB0
          have HB1 := Lib.hid hB1
          have hown1 : wr.ownsRow (w.heap.size + 2) 62 2 v4 k (rowP T) := by rw [← HTL.out]; exact hown.1
          have HO := Lib.hid hown
          have HO1 := Lib.hid hown1
          have HSN := Lib.hid hsn
          have i0 : (0 : Int) ≤ (k : Int) := Int.natCast_nonneg _
          have i1' : (k : Int) < (m : Int) := by omega
          have hk20 : k ≤ 20 := by omega
          unfold maxLen at hb2
          have hbs := hbw.size
          have hvlt : ∀ q, v4.ownBlock = some q → q < wr.heap.size := fun q hq => (hown.1.lt q hq).2
          have hvge : ∀ q, v4.ownBlock = some q → w.heap.size + 2 ≤ q := fun q hq => (hown.1.lt q hq).1
          have HVL := Lib.hid hvlt
          have HVG := Lib.hid hvge
          have hsB1 := hB1.lt
          clear hB0 hB1 hown hown1 hsn hx hvlt hvge
          have hl3 : ∃ lb' : Nat, lb' ≤ 130 ∧ Rd wr w.heap.size 1 Ab lb' (octV (l.take 130)) ∧ lb' ≤ lb ∧ ((130 < lb ∧ lb' = 130) ∨ (lb ≤ 130 ∧ lb' = lb)) := by
            rcases Nat.lt_or_ge 130 lb with hh | hh
            · refine ⟨130, Nat.le_refl _, ?_, by omega, .inl ⟨hh, rfl⟩⟩
              have := rd_takeV hrb (show 130 ≤ lb by omega)
              rw [octV_take]; exact this
            · exact ⟨lb, hh, by rw [List.take_of_length_le (by omega)]; exact hrb, Nat.le_refl _, .inr ⟨hh, rfl⟩⟩
          obtain ⟨lb', hl130, hrl, hll, hlc⟩ := hl3
          obtain ⟨l', hl'⟩ : ∃ l', l.take 130 = l' := ⟨_, rfl⟩
          rw [hl'] at hrl HSN
          obtain ⟨wx, hwx⟩ : ∃ wx, wr.alloc (.cells #[.int .i64 N, .slice Ab lb' cb] 62) = wx := ⟨_, rfl⟩
          have hbx : Below wr.heap.size wr wx := by rw [← hwx]; exact (Below.refl _ _).alloc (Nat.le_refl _) _
          have hsx : wx.heap.size = wr.heap.size + 1 := by rw [← hwx]; simp
          obtain ⟨y0, y1, _, _⟩ := blk2 (show Blk wx wr.heap.size 62 (0, 0) #[.int .i64 N, .slice Ab lb' cb] by rw [← hwx]; exact Blk.new _ _ _ _)
          have hE : ((wx.alloc (.cells #[] 5)).drew).ownsRow wx.heap.size 5 1 (.slice (some ⟨wx.heap.size, 0, none⟩) 0 0) 0 [] := (OwnB.lit wx wx.heap.size (Nat.le_refl _) 5 1 0 #[] rfl (by simp [maxLen])).own.drew
          have hrx : Rd ((wx.alloc (.cells #[] 5)).drew) w.heap.size 1 Ab lb' (octV l') := ((hrl.below (hbx.mono hbs)).below ((Below.refl _ _).alloc (by omega) _)).keep fun _ _ => rfl
          have hbe : Below wr.heap.size wr ((wx.alloc (.cells #[] 5)).drew) := below_drew (hbx.alloc (by omega) _)
          have HE := Lib.hid hE
          have HRX := Lib.hid hrx
          have HWX := Lib.hid hwx
          have HBE := Lib.hid hbe
          have hye0 : ((wx.alloc (.cells #[] 5)).drew).cell? ⟨wr.heap.size, 0, none⟩ = some (.int .i64 N) := (old_cell wx _ _ _ (by omega)).trans y0
          have hye1 : ((wx.alloc (.cells #[] 5)).drew).cell? ⟨wr.heap.size, 1, none⟩ = some (.slice Ab lb' cb) := (old_cell wx _ _ _ (by omega)).trans y1
          have HY0 := Lib.hid hye0
          have HY1 := Lib.hid hye1
          have HSX := Lib.hid hsx
          have hsx1 : wr.heap.size < wx.heap.size := by omega
          clear hE hrx hwx hbe hye0 hye1 hrl hl' hlb hsx
          rcases hlc with ⟨hlg, rfl⟩ | ⟨hlg, rfl⟩
          · have hd4 : decide ((130 : Int) < (lb : Int)) = true := decide_eq_true (by omega)
            go_wp2_with fail
            rw [HWX.out]
            go_region_held3 (fun w' => w'.cell? ⟨wr.heap.size, 0, none⟩ = some (.int .i64 N) ∧ w'.cell? ⟨wr.heap.size, 1, none⟩ = some (.slice Ab 130 cb))
              (first
                | go_keep
                | exact ⟨(cell_grown hgrowA (by simp; omega) (by simp [Value.ownBlock]; omega)).trans HY0.out, (cell_grown hgrowA (by simp; omega) (by simp [Value.ownBlock]; omega)).trans HY1.out⟩
                | exact ⟨(cell_grown hgrowB (by simp; omega) (fun e => by have := HVL.out _ e.symm; simp only at this; omega)).trans ((old_cell wA _ _ _ hszA).trans hkA0), (cell_grown hgrowB (by simp; omega) (fun e => by have := HVL.out _ e.symm; simp only at this; omega)).trans ((old_cell wA _ _ _ hszA).trans hkA1)⟩)
              (first
                | ((refine step_append_rd _ (by rfl) (.tmp 46) (.tmp 48) 25 (by rfl) wx.heap.size 5 i1 _ 1 1 Try.underlying25 hi hz0 hz1 hz2 rfl (by decide) (.slice (some ⟨wx.heap.size, 0, none⟩) 0 0) 0 [] (by rfl) HE.out Ab 130 cb w.heap.size (octV l') (by rfl) hbn HRX.out (octV_one _) (by unfold maxLen; omega) (by omega) (by simp) (wx.heap.size + 1) (by simp) 130 (by omega) ?_; intro A1 c1' wA hownA hgrowA hatA))
                | ((have hbA : Below wr.heap.size wr wA := HBE.out.grown hgrowA HBE.out.size (fun q hq => by simp [Value.ownBlock] at hq; omega); have hkA0 : wA.cell? ⟨wr.heap.size, 0, none⟩ = some (.int .i64 N) := (cell_grown hgrowA (by simp; omega) (by simp [Value.ownBlock]; omega)).trans HY0.out; have hkA1 : wA.cell? ⟨wr.heap.size, 1, none⟩ = some (.slice Ab 130 cb) := (cell_grown hgrowA (by simp; omega) (by simp [Value.ownBlock]; omega)).trans HY1.out; have hszA : wr.heap.size < wA.heap.size := (by have := hgrowA.size; simp at this; omega); refine step_append_rd _ (by rfl) (.tmp 43) (.tmp 51) 22 (by rfl) (w.heap.size + 2) 62 i2 _ 2 32 Try.underlying22 ki kz0 kz1 kz2 rfl (by decide) v4 k (rowP T) (by rfl) ((own_below HO1.out hbA (fun q hq => HVL.out q hq)).alloc _) (some ⟨wA.heap.size, 0, none⟩) 1 1 _ [.int .i64 N, .slice A1 130 c1'] (by rfl) (fun e => by cases e) (OwnB.lit wA wA.heap.size (Nat.le_refl _) 62 2 1 #[.int .i64 N, .slice A1 130 c1'] rfl (by simp [maxLen])).rd (by intro u hu; simp at hu; rcases hu with rfl | rfl <;> rfl) (by unfold maxLen; omega) (by omega) (by simp; omega) (wA.heap.size + 1) (by simp) (k + 1) rfl ?_; intro A2 c2 wB hownB hgrowB hatB)))
            have hpush : OwnP wB (w.heap.size + 2) (w.heap.size + 2) (.slice A2 (k + 1) c2) (T ++ [(N, .slice A1 130 c1', l')]) := HO.out.push (by omega) hbA (own_base hownA (by omega)) hgrowB hatB (by rw [HTL.out]; exact hownB)
            have hrB : Below (w.heap.size + 2) wr wB := (((hbA.mono (by omega)).alloc (by omega) _).grown hgrowB (by simp; omega) (fun q hq => HVG.out q hq))
            have HP := Lib.hid hpush
            have HTL2 : Hid ((T ++ [(N, Value.slice A1 130 c1', l')]).length = k + 1) := Lib.hid (by rw [List.length_append, HTL.out]; rfl)
            have HT2 : Hid ((T ++ [(N, Value.slice A1 130 c1', l')]).map pcP = (fewP L).take (k + 1)) := Lib.hid (by rw [List.map_append, HT.out, HSN.out]; rfl)
            have HB02 := Lib.hid (HB0.out.below hrB (by omega))
            have HB12 := Lib.hid (HB1.out.below hrB (by omega))
            have hbw2 := hbw.trans (hrB.mono (by omega))
            clear hpush hownA hownB hgrowA hgrowB hatA hatB hkA0 hkA1 hbA hrB
            go_wp2
            go_roundw
            case rel => exact ⟨_, k + 1, _, rfl, by omega, by go_num, HTL2, HT2, HP.out, HB02.out, HB12.out, hbw2⟩
            case measure => simp [intOf]; omega
          · have hd4 : decide ((130 : Int) < (lb' : Int)) = false := decide_eq_false (by omega)
            go_wp2_with fail
            rw [HWX.out]
            go_region_held3 (fun w' => w'.cell? ⟨wr.heap.size, 0, none⟩ = some (.int .i64 N) ∧ w'.cell? ⟨wr.heap.size, 1, none⟩ = some (.slice Ab lb' cb))
              (first
                | go_keep
                | exact ⟨(cell_grown hgrowA (by simp; omega) (by simp [Value.ownBlock]; omega)).trans HY0.out, (cell_grown hgrowA (by simp; omega) (by simp [Value.ownBlock]; omega)).trans HY1.out⟩
                | exact ⟨(cell_grown hgrowB (by simp; omega) (fun e => by have := HVL.out _ e.symm; simp only at this; omega)).trans ((old_cell wA _ _ _ hszA).trans hkA0), (cell_grown hgrowB (by simp; omega) (fun e => by have := HVL.out _ e.symm; simp only at this; omega)).trans ((old_cell wA _ _ _ hszA).trans hkA1)⟩)
              (first
                | ((refine step_append_rd _ (by rfl) (.tmp 46) (.tmp 48) 25 (by rfl) wx.heap.size 5 i1 _ 1 1 Try.underlying25 hi hz0 hz1 hz2 rfl (by decide) (.slice (some ⟨wx.heap.size, 0, none⟩) 0 0) 0 [] (by rfl) HE.out Ab lb' cb w.heap.size (octV l') (by rfl) hbn HRX.out (octV_one _) (by unfold maxLen; omega) (by omega) (by simp) (wx.heap.size + 1) (by simp) lb' (by omega) ?_; intro A1 c1' wA hownA hgrowA hatA))
                | ((have hbA : Below wr.heap.size wr wA := HBE.out.grown hgrowA HBE.out.size (fun q hq => by simp [Value.ownBlock] at hq; omega); have hkA0 : wA.cell? ⟨wr.heap.size, 0, none⟩ = some (.int .i64 N) := (cell_grown hgrowA (by simp; omega) (by simp [Value.ownBlock]; omega)).trans HY0.out; have hkA1 : wA.cell? ⟨wr.heap.size, 1, none⟩ = some (.slice Ab lb' cb) := (cell_grown hgrowA (by simp; omega) (by simp [Value.ownBlock]; omega)).trans HY1.out; have hszA : wr.heap.size < wA.heap.size := (by have := hgrowA.size; simp at this; omega); refine step_append_rd _ (by rfl) (.tmp 43) (.tmp 51) 22 (by rfl) (w.heap.size + 2) 62 i2 _ 2 32 Try.underlying22 ki kz0 kz1 kz2 rfl (by decide) v4 k (rowP T) (by rfl) ((own_below HO1.out hbA (fun q hq => HVL.out q hq)).alloc _) (some ⟨wA.heap.size, 0, none⟩) 1 1 _ [.int .i64 N, .slice A1 lb' c1'] (by rfl) (fun e => by cases e) (OwnB.lit wA wA.heap.size (Nat.le_refl _) 62 2 1 #[.int .i64 N, .slice A1 lb' c1'] rfl (by simp [maxLen])).rd (by intro u hu; simp at hu; rcases hu with rfl | rfl <;> rfl) (by unfold maxLen; omega) (by omega) (by simp; omega) (wA.heap.size + 1) (by simp) (k + 1) rfl ?_; intro A2 c2 wB hownB hgrowB hatB)))
            have hpush : OwnP wB (w.heap.size + 2) (w.heap.size + 2) (.slice A2 (k + 1) c2) (T ++ [(N, .slice A1 lb' c1', l')]) := HO.out.push (by omega) hbA (own_base hownA (by omega)) hgrowB hatB (by rw [HTL.out]; exact hownB)
            have hrB : Below (w.heap.size + 2) wr wB := (((hbA.mono (by omega)).alloc (by omega) _).grown hgrowB (by simp; omega) (fun q hq => HVG.out q hq))
            have HP := Lib.hid hpush
            have HTL2 : Hid ((T ++ [(N, Value.slice A1 lb' c1', l')]).length = k + 1) := Lib.hid (by rw [List.length_append, HTL.out]; rfl)
            have HT2 : Hid ((T ++ [(N, Value.slice A1 lb' c1', l')]).map pcP = (fewP L).take (k + 1)) := Lib.hid (by rw [List.map_append, HT.out, HSN.out]; rfl)
            have HB02 := Lib.hid (HB0.out.below hrB (by omega))
            have HB12 := Lib.hid (HB1.out.below hrB (by omega))
            have hbw2 := hbw.trans (hrB.mono (by omega))
            clear hpush hownA hownB hgrowA hgrowB hatA hatB hkA0 hkA1 hbA hrB
            go_wp2
            go_roundw
            case rel => exact ⟨_, k + 1, _, rfl, by omega, by go_num, HTL2, HT2, HP.out, HB02.out, HB12.out, hbw2⟩
            case measure => simp [intOf]; omega
        · obtain rfl : m = k := by omega
          obtain ⟨d0, d1, f0, f1⟩ := blk2 hB0
          obtain ⟨e0, e1', g0, g1⟩ := blk2 hB1
          have hown1 : wr.ownsRow (w.heap.size + 2) 62 2 v4 m (rowP T) := by rw [← HTL.out]; exact hown.1
          obtain ⟨Av, cv, rfl, _, _, _⟩ := own_form hown1
          clear hown1
          have HO := Lib.hid hown
          have hbs := hbw.size
          have HB1 := Lib.hid hB1
          clear hown hB0 hB1
          obtain ⟨wo, rfl⟩ : ∃ wo : World, wo = wr := ⟨_, rfl⟩
          obtain ⟨A', c', e, hp⟩ := HO.out.isQ (w' := ((wo.setCell ⟨w.heap.size, 1, none⟩ (.slice Av m cv)).setCell ⟨w.heap.size + 1, 0, none⟩ (.int .i64 sz)).setCell ⟨w.heap.size + 1, 1, none⟩ (.slice Av m cv)) (fun p hp hq => by
            have hge : w.heap.size + 2 ≤ p.block := by
              rcases hq with hq | hq
              · exact (HO.out.1.lt _ hq.symm).1
              · exact hq
            rw [cell_far (by show p.block ≠ w.heap.size + 1; omega), cell_far (by show p.block ≠ w.heap.size + 1; omega), cell_far (by show p.block ≠ w.heap.size; omega)]) (by simp) (Nat.le_refl _)
          injection e with e1 e2 e3
          subst e1 e3
          rw [HTL.out, HT.out, List.take_of_length_le (by rw [fewP_len]; have := HM.out; omega)] at hp
          have HP := Lib.hid hp
          have hbw2 : Below w.heap.size w (((wo.setCell ⟨w.heap.size, 1, none⟩ (.slice Av m cv)).setCell ⟨w.heap.size + 1, 0, none⟩ (.int .i64 sz)).setCell ⟨w.heap.size + 1, 1, none⟩ (.slice Av m cv)) := ((hbw.setCell (by simp) _).setCell (by simp) _).setCell (by simp) _
          clear hp e2
          go_wp2
          exact bodyPost_ret (v := .agg #[.int .i64 sz, .slice Av m cv]) (by simp [results, Try.results8, go_sem, e0, e1']) rfl ⟨⟨Av, m, cv, rfl, HP.out⟩, hbw2⟩
theorem Few_any (size : Int) (A : Option Addr) (n c : Nat) (L : List Pc) (w : World) (h : IsP w w.heap.size A n c L) (hs : size ≤ 9223372036854775807) :
    Calls Try.prog 8 #[.agg #[.int .i64 size, .slice A n c]] w fun e w' => (∃ A' m c', e = .returned (.agg #[.int .i64 (fewZ size), .slice A' m c']) ∧ IsP w' w'.heap.size A' m c' (fewP L)) ∧ Below w.heap.size w w' :=
  (Few_q size A n c L w h hs).mono fun e w' ⟨⟨A', m, c', h1, h2⟩, h3⟩ => ⟨⟨A', m, c', h1, h2.free⟩, h3⟩
end Go.Proofs.Ytpofkkoiicdpbaa

