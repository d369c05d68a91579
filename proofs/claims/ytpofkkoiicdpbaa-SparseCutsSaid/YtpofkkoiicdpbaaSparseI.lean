/-
  Walk: a file whose blocks are its own.
-/
import Derived.Test.YtpofkkoiicdpbaaSparseH
import Derived.Deep.RegionWith
namespace Go.Proofs.Ytpofkkoiicdpbaa
open Go.RowKit
set_option linter.unusedVariables false

theorem set_same {α : Type} : ∀ (l : List α) (k : Nat) (x : α), l[k]? = some x → l.set k x = l
  | [], k, x, h => by simp at h
  | a :: t, 0, x, h => by simp at h; rw [h]; rfl
  | a :: t, k + 1, x, h => by
    have h' : t[k]? = some x := by simpa using h
    rw [List.set_cons_succ, set_same t k x h']
/-- Of each block of octets: it is none of these. -/
def NotB (Q : Nat → Prop) (x : Option Nat) (H : Nat) (b : Nat) : Prop := some b ≠ x ∧ b ≠ H ∧ b ≠ H + 1 ∧ Q b

set_option maxHeartbeats 4000000 in
set_option maxRecDepth 100000 in
theorem own_any (Q : Nat → Prop) (size : Int) (A : Option Addr) (n c : Nat) (L : List Pc) (w : World) (hQ : ∀ b, w.heap.size ≤ b → Q b) (h : IsQ w w.heap.size Q A n c L) (hn : n ≤ 90000) (hlen : ∀ p ∈ L, p.2.length ≤ 1000000) :
    Calls Try.prog 26 #[.agg #[.int .i64 size, .slice A n c]] w fun e w' => (∃ A' m c', e = .returned (.agg #[.int .i64 size, .slice A' m c']) ∧ IsQ w' w'.heap.size Q A' m c' L) ∧ Below w.heap.size w w' := by
  obtain ⟨hnc, hcm, hnil, _, T, hT, hTL⟩ := h
  have hln := hT.count
  have hC := fun W (hW : Below w.heap.size w W) => CloneP_any A n c (rowP T) W ((hT.1.below hW).more hW.size) hT.one (by omega) hnc hnil
  have hb0 : Below w.heap.size w ((w.alloc (.cells #[.int .i64 size, .slice A n c] 24)).alloc (.cells #[.int .i64 0, .slice none 0 0] 24)) := ((Below.refl _ _).alloc (Nat.le_refl _) _).alloc (by simp) _
  have hB0 : Blk ((w.alloc (.cells #[.int .i64 size, .slice A n c] 24)).alloc (.cells #[.int .i64 0, .slice none 0 0] 24)) w.heap.size 24 (0, 0) #[.int .i64 size, .slice A n c] := (Blk.new w _ _ _).alloc _
  have hB1 : Blk ((w.alloc (.cells #[.int .i64 size, .slice A n c] 24)).alloc (.cells #[.int .i64 0, .slice none 0 0] 24)) (w.heap.size + 1) 24 (0, 0) #[.int .i64 0, .slice none 0 0] := by
    have := Blk.new (w.alloc (.cells #[.int .i64 size, .slice A n c] 24)) 24 (0, 0) #[.int .i64 0, .slice none 0 0]
    simpa using this
  obtain ⟨wx, hwx⟩ : ∃ wx, (w.alloc (.cells #[.int .i64 size, .slice A n c] 24)).alloc (.cells #[.int .i64 0, .slice none 0 0] 24) = wx := ⟨_, rfl⟩
  have hsx : wx.heap.size = w.heap.size + 2 := by rw [← hwx]; simp
  rw [hwx] at hb0 hB0 hB1
  have HC := Lib.hid hC
  have HT := Lib.hid hT
  have HTL := Lib.hid hTL
  have HLN := Lib.hid hln
  have HB0 := Lib.hid hB0
  have HB1 := Lib.hid hB1
  have HSX := Lib.hid hsx
  have HLEN := Lib.hid hlen
  obtain ⟨d0, d1, f0, f1⟩ := blk2 hB0
  unfold maxLen at hcm
  clear hC hT hTL hB0 hB1 hsx hln hlen
  go_enter Try.func26, Try.ntmps26
  go_wp2_with fail
  refine (HC.out _ hb0).mono ?_
  rintro e w2 ⟨⟨v, rfl, ho⟩, h2⟩
  have hb2 := hb0.trans (h2.mono hb0.size)
  have hC0 := HB0.out.below h2 HB0.out.lt
  have hC1 := HB1.out.below h2 HB1.out.lt
  obtain ⟨Av, cv, rfl, hnv, hcv, _⟩ := own_form ho
  obtain ⟨p0, p1, x0, x1⟩ := blk2 hC0
  have hl1 := hC1.lt
  obtain ⟨wy, hwy⟩ : ∃ wy, w2.setCell ⟨w.heap.size, 1, none⟩ (.slice Av n cv) = wy := ⟨_, rfl⟩
  have hD0 : Blk wy w.heap.size 24 (0, 0) #[.int .i64 size, .slice Av n cv] := by rw [← hwy]; exact hC0.set_ 1 _
  have hD1 : Blk wy (w.heap.size + 1) 24 (0, 0) #[.int .i64 0, .slice none 0 0] := by rw [← hwy]; exact hC1.far (by show w.heap.size + 1 ≠ w.heap.size; omega) _
  have hby : Below w.heap.size w wy := by rw [← hwy]; exact hb2.setCell (Nat.le_refl _) _
  have hsx := HSX.out
  have ho' : w2.ownsRow (w.heap.size + 2) 62 2 (.slice Av n cv) n (rowP T) := own_base ho (by omega)
  have hoy : wy.ownsRow (w.heap.size + 2) 62 2 (.slice Av n cv) n (rowP T) := by
    rw [← hwy]; exact ownsRow_setCell_below ho' (by simp) _
  have hel : ∀ t ∈ T, RdB wy wy.heap.size (NotB Q (Value.slice Av n cv).ownBlock w.heap.size) t.2.1 t.2.2 := fun t ht => by
    refine (((HT.out.2 t ht).below hby).imp fun b hb hqb => ?_).more hby.size
    refine ⟨fun e => ?_, by omega, by omega, hqb⟩
    have := (ho'.lt b e.symm).1
    omega
  have hvg : ∀ q, (Value.slice Av n cv).ownBlock = some q → w.heap.size + 2 ≤ q := fun q hq => (ho'.lt q hq).1
  have HVG := Lib.hid hvg
  obtain ⟨X, hX⟩ : ∃ X, (Value.slice Av n cv).ownBlock = X := ⟨_, rfl⟩
  rw [hX] at hel
  have HX := Lib.hid hX
  have HOY := Lib.hid hoy
  have HEL := Lib.hid hel
  have HD0 := Lib.hid hD0
  have HD1 := Lib.hid hD1
  obtain ⟨s0, s1, v0, v1⟩ := blk2 hD0
  unfold maxLen at hcv
  clear ho ho' hoy hel hvg hX hC0 hC1 hD0 hD1 d0 d1 f0 f1
  go_wp2
  go_loopw [11] (fun i wr => ∃ (k : Nat) (T' : List PV), k ≤ n ∧ i = .int .i64 k ∧ Hid (T'.map pcP = L) ∧ Hid (wr.ownsRow (w.heap.size + 2) 62 2 (.slice Av n cv) n (rowP T')) ∧ Hid (∀ t ∈ T', RdB wr wr.heap.size (NotB Q X w.heap.size) t.2.1 t.2.2) ∧ Blk wr w.heap.size 24 (0, 0) #[.int .i64 size, .slice Av n cv] ∧ Blk wr (w.heap.size + 1) 24 (0, 0) #[.int .i64 0, .slice none 0 0] ∧ Below w.heap.size w wr) (fun i _ => n - (intOf i).toNat)
  case atStart => exact ⟨0, T, Nat.zero_le _, rfl, HTL, HOY, HEL, HD0.out, HD1.out, hby⟩
  case round =>
    obtain ⟨k, T', hk, rfl, HT', HOW, HEW, hE0, hE1, hbw⟩ := hrel
    obtain ⟨q0, q1, m0, m1⟩ := blk2 hE0
    obtain ⟨r0, r1, z0, z1⟩ := blk2 hE1
    have HE0 := Lib.hid hE0
    have HE1 := Lib.hid hE1
    have hsw := hbw.size
    have hl1 := hE1.lt
    clear hE0 hE1
    by_cases hlt : k < n
    · obtain ⟨g, cap, hv, hO⟩ := own_pos HOW.out (by omega)
      injection hv with hv1 _ hv3
      subst hv1 hv3
      have hT'l : T'.length = n := by rw [← List.length_map (f := pcP), HT'.out, ← HTL.out, List.length_map, HLN.out]
      obtain ⟨t, ht⟩ : ∃ t, T'[k]? = some t := ⟨_, List.getElem?_eq_getElem (by omega)⟩
      have htm := List.mem_iff_getElem?.2 ⟨k, ht⟩
      obtain ⟨Ab, cb, hvb, hlb, hcb, hbn, hR⟩ := (HEW.out t htm).form
      obtain ⟨N, vb, l⟩ := t
      simp only at hvb hlb hbn hR
      subst hvb
      have hll : l.length ≤ 1000000 := by
        have : pcP (N, Value.slice Ab l.length cb, l) ∈ L := by rw [← HT'.out]; exact List.mem_map_of_mem htm
        exact HLEN.out _ this
      obtain ⟨lb, hlbe⟩ : ∃ lb, l.length = lb := ⟨_, rfl⟩
      have hcell : wr.cell? ⟨g, k * 2 + 1, none⟩ = some (.slice Ab lb cb) := by
        rw [hO.cell _ (by omega), rowV_get fP_len T' k 1 _ (.slice Ab l.length cb) ht rfl, hlbe]
      have hfz := hO.frozen (k * 2 + 1)
      have hCl := fun W (hW : Below wr.heap.size wr W) => CloneB_any Ab lb cb (octV l) W (by rw [← hlbe]; exact (hR.below hW).more hW.size) (octV_one l) (by omega) (by omega) hbn
      have hXg : X = some g := by rw [← HX.out]; rfl
      have hgl := hO.lt
      have hgb := hO.base_
      have i0 : (0 : Int) ≤ (k : Int) := Int.natCast_nonneg _
      have i1 : (k : Int) < (n : Int) := by omega
      have HCL := Lib.hid hCl
      have HO := Lib.hid hO
      have HTT := Lib.hid ht
      have HXG := Lib.hid hXg
      have HLE := Lib.hid hlbe
      clear hO ht htm hCl hXg hR hT'l hlbe hlb hll
      go_wp2_with fail
      go_region_with ((go_at_call 37; refine (HCL.out _ (below_drew (Below.refl _ _))).mono ?_; rintro e w3 ⟨⟨v3, rfl, ho3⟩, h3⟩; obtain ⟨A3, c3, rfl, hn3, hm3, _⟩ := own_form ho3; have y1 : w3.cell? ⟨w.heap.size, 1, none⟩ = some (.slice (some ⟨g, 0, none⟩) n cv) := (h3.cell (p := ⟨w.heap.size, 1, none⟩) (by show w.heap.size < wr.heap.size; omega)).trans q1; have y2 : w3.cell? ⟨g, k * 2 + 1, none⟩ = some (.slice Ab lb cb) := (h3.cell (p := ⟨g, k * 2 + 1, none⟩) (by show g < wr.heap.size; omega)).trans hcell; have y3 : w3.frozen? ⟨g, k * 2 + 1, none⟩ = false := (h3.frozen (p := ⟨g, k * 2 + 1, none⟩) (by show g < wr.heap.size; omega)).trans hfz))
      all_goals
        have h3' : Below wr.heap.size wr w3 := (below_drew (Below.refl wr.heap.size wr)).trans h3
        have hob : OwnB (w3.setCell ⟨g, k * 2 + 1, none⟩ (.slice A3 lb c3)) (w.heap.size + 2) 62 2 g n cv (rowP (T'.set k (N, .slice A3 lb c3, l))) := by
          rw [← rowP_set T' k _ (.slice A3 lb c3) l HTT.out]
          exact (HO.out.later h3').set_ _ _
        have HOW2 := Lib.hid hob.own
        have HT2 : Hid ((T'.set k (N, Value.slice A3 lb c3, l)).map pcP = L) := Lib.hid (by
          rw [map_set, HT'.out]
          refine set_same _ _ _ ?_
          rw [← HT'.out, List.getElem?_map, HTT.out]
          rfl)
        have hs3 := h3'.size
        have hk3 : ∀ p : Addr, p.block ≠ g → (w3.setCell ⟨g, k * 2 + 1, none⟩ (.slice A3 lb c3)).cell? p = w3.cell? p := fun p hp => cell_far hp
        have HEW2 : Hid (∀ t ∈ T'.set k (N, Value.slice A3 lb c3, l), RdB (w3.setCell ⟨g, k * 2 + 1, none⟩ (.slice A3 lb c3)) (w3.setCell ⟨g, k * 2 + 1, none⟩ (.slice A3 lb c3)).heap.size (NotB Q X w.heap.size) t.2.1 t.2.2) := Lib.hid (fun t ht => by
          rcases List.mem_or_eq_of_mem_set ht with hm | rfl
          · refine (((HEW.out t hm).below h3').keep fun p _ hq => hk3 p fun e => ?_).more (by simp; omega)
            exact hq.1 (by rw [e, HXG.out])
          · have q := (RdB.of_own ho3)
            have hsz : wr.drew.heap.size = wr.heap.size := rfl
            refine ((q.keep fun p _ hq => hk3 p (by omega)).imp fun b _ hq => ?_).more (by simp)
            refine ⟨fun e => ?_, by omega, by omega, hQ b (by omega)⟩
            rw [HXG.out] at e
            injection e with e
            omega)
        have hE0' := (HE0.out.below h3' HE0.out.lt).far (p := ⟨g, k * 2 + 1, none⟩) (by show w.heap.size ≠ g; omega) (.slice A3 lb c3)
        have hE1' := (HE1.out.below h3' HE1.out.lt).far (p := ⟨g, k * 2 + 1, none⟩) (by show w.heap.size + 1 ≠ g; omega) (.slice A3 lb c3)
        have HE0' := Lib.hid hE0'
        have HE1' := Lib.hid hE1'
        have hbw' : Below w.heap.size w (w3.setCell ⟨g, k * 2 + 1, none⟩ (.slice A3 lb c3)) := (hbw.trans (h3'.mono hsw)).setCell (by show w.heap.size ≤ g; omega) _
        clear hob hs3 hk3 hE0' hE1' ho3 y1 y2 y3
        go_wp2
        go_roundw
        case rel => exact ⟨k + 1, _, by omega, by go_num, HT2, HOW2, HEW2, HE0'.out, HE1'.out, hbw'⟩
        case measure => simp [intOf]; omega
    · obtain rfl : n = k := by omega
      have hbf : Below w.heap.size w ((wr.setCell ⟨w.heap.size + 1, 0, none⟩ (.int .i64 size)).setCell ⟨w.heap.size + 1, 1, none⟩ (.slice Av n cv)) := (hbw.setCell (by simp) _).setCell (by simp) _
      have hkf : ∀ p : Addr, p.block ≠ w.heap.size + 1 → ((wr.setCell ⟨w.heap.size + 1, 0, none⟩ (.int .i64 size)).setCell ⟨w.heap.size + 1, 1, none⟩ (.slice Av n cv)).cell? p = wr.cell? p := fun p hp => by
        rw [cell_far hp, cell_far hp]
      have hfin : IsQ ((wr.setCell ⟨w.heap.size + 1, 0, none⟩ (.int .i64 size)).setCell ⟨w.heap.size + 1, 1, none⟩ (.slice Av n cv)) ((wr.setCell ⟨w.heap.size + 1, 0, none⟩ (.int .i64 size)).setCell ⟨w.heap.size + 1, 1, none⟩ (.slice Av n cv)).heap.size Q Av n cv L := by
        obtain ⟨A1, c1, e, _, _, hr⟩ := own_form HOW.out
        injection e with e1 _ e3
        subst e1 e3
        refine ⟨hnv, by unfold maxLen; omega, own_nilc HOW.out, (fun _ a e => hQ _ (by have := HVG.out a.block (by rw [e]; rfl); omega)), T', ⟨⟨hr.1, fun h0 => ?_⟩, fun t ht => ?_⟩, HT'.out⟩
        · obtain ⟨g, o, e, hg, hc⟩ := hr.2 h0
          refine ⟨g, o, e, by simp [World.setCell] at *; omega, fun j u hu => ?_⟩
          have := HVG.out g (by rw [e]; rfl)
          rw [hkf _ (by show g ≠ w.heap.size + 1; omega)]
          exact hc j u hu
        · exact (((HEW.out t ht).keep fun p _ hq => hkf p hq.2.2.1).more (by simp)).imp fun b _ hq => hq.2.2.2
      have HFIN := Lib.hid hfin
      clear hfin hkf
      go_wp2
      exact bodyPost_ret (v := .agg #[.int .i64 size, .slice Av n cv]) (by simp [results, Try.results26, go_sem, r0, r1]) rfl ⟨⟨_, n, cv, rfl, HFIN.out⟩, hbf⟩
end Go.Proofs.Ytpofkkoiicdpbaa
