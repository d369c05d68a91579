/-
  Walks: a block laid into a file; a file whose blocks are its own.
-/
import Derived.Test.YtpofkkoiicdpbaaInsP
namespace Go.Proofs.Ytpofkkoiicdpbaa
open Go.RowKit
set_option linter.unusedVariables false

theorem rowP_set : ∀ (T : List PV) (k : Nat) (t : PV) (v : Value) (b : List UInt8), T[k]? = some t → (rowP T).set (k * 2 + 1) v = rowP (T.set k (t.1, v, b))
  | [], k, t, v, b, h => by simp at h
  | a :: T, 0, t, v, b, h => by
    simp at h
    subst h
    show (rowV fP (a :: T)).set 1 v = rowV fP ((a.1, v, b) :: T)
    rw [rowV_cons, rowV_cons]
    rfl
  | a :: T, k + 1, t, v, b, h => by
    have h' : T[k]? = some t := by simpa using h
    show (rowV fP (a :: T)).set ((k + 1) * 2 + 1) v = rowV fP (a :: T.set k (t.1, v, b))
    rw [rowV_cons, rowV_cons, List.set_append_right (h := by rw [fP_len]; omega), fP_len]
    rw [show (k + 1) * 2 + 1 - 2 = k * 2 + 1 from by omega]
    exact congrArg (fun l => fP a ++ l) (rowP_set T k t v b h')
theorem map_set (T : List PV) (k : Nat) (t : PV) : (T.set k t).map pcP = (T.map pcP).set k (pcP t) := by rw [List.map_set]

set_option maxHeartbeats 4000000 in
set_option maxRecDepth 100000 in
theorem put_any (Q : Nat → Prop) (size q : Int) (A Ab : Option Addr) (n c cb : Nat) (L : List Pc) (b : List UInt8) (w : World) (hQ : ∀ b, w.heap.size ≤ b → Q b) (h : IsQ w w.heap.size Q A n c L) (hg : Asc L) (hn : n ≤ 90000) (hb : RdB w w.heap.size Q (.slice Ab b.length cb) b) :
    Calls Try.prog 25 #[.agg #[.int .i64 size, .slice A n c], .int .i64 q, .slice Ab b.length cb] w fun e w' => (∃ A' m c', e = .returned (.agg #[.int .i64 size, .slice A' m c']) ∧ IsQ w' w'.heap.size Q A' m c' (putF L q b)) ∧ Below w.heap.size w w' := by
  obtain ⟨hnc, hcm, hnil, _, T, hT, hTL⟩ := h
  have hln := hT.count
  have hF : ∀ W, Below w.heap.size w W → Calls Try.prog 32 #[.agg #[.int .i64 size, .slice A n c], .int .i64 q] W fun e w' => e = .returned (.tuple #[.int .i64 (posF L q), .bool (hasF L q)]) ∧ Below W.heap.size W w' := fun W hW => find_any size q A n c L W (IsP.later ⟨hnc, hcm, hnil, T, hT.free, hTL⟩ hW) hg (by omega)
  have hLn : L.length = n := by rw [← hTL, List.length_map, hln]
  have hC : ∀ W, Below w.heap.size w W → Calls Try.prog 29 #[.slice A n c] W fun e w' => (∃ v, e = .returned v ∧ w'.ownsRow W.heap.size 62 2 v n (rowP T)) ∧ Below W.heap.size W w' := fun W hW => CloneP_any A n c (rowP T) W ((hT.1.below hW).more hW.size) hT.one (by omega) hnc hnil
  have hb0 : Below w.heap.size w ((w.alloc (.cells #[.int .i64 size, .slice A n c] 24)).alloc (.cells #[.int .i64 0, .slice none 0 0] 24)) := ((Below.refl _ _).alloc (Nat.le_refl _) _).alloc (by simp) _
  have hB0 : Blk ((w.alloc (.cells #[.int .i64 size, .slice A n c] 24)).alloc (.cells #[.int .i64 0, .slice none 0 0] 24)) w.heap.size 24 (0, 0) #[.int .i64 size, .slice A n c] := (Blk.new w _ _ _).alloc _
  have hB1 : Blk ((w.alloc (.cells #[.int .i64 size, .slice A n c] 24)).alloc (.cells #[.int .i64 0, .slice none 0 0] 24)) (w.heap.size + 1) 24 (0, 0) #[.int .i64 0, .slice none 0 0] := by
    have := Blk.new (w.alloc (.cells #[.int .i64 size, .slice A n c] 24)) 24 (0, 0) #[.int .i64 0, .slice none 0 0]
    simpa using this
  obtain ⟨wx, hwx⟩ : ∃ wx, (w.alloc (.cells #[.int .i64 size, .slice A n c] 24)).alloc (.cells #[.int .i64 0, .slice none 0 0] 24) = wx := ⟨_, rfl⟩
  have hsx : wx.heap.size = w.heap.size + 2 := by rw [← hwx]; simp
  rw [hwx] at hb0 hB0 hB1
  have HC := Lib.hid hC
  have HT := Lib.hid hT
  have HB := Lib.hid hb
  have HB0 := Lib.hid hB0
  have HB1 := Lib.hid hB1
  have HWX := Lib.hid hwx
  have HSX := Lib.hid hsx
  have hposle : posF L q ≤ n := by rw [← hLn]; exact posF_le L q
  unfold maxLen at hcm
  cases hh : hasF L q with
  | true =>
    have hdec : posF L q < n ∧ ∃ t, T[posF L q]? = some t ∧ t.1 = q ∧ (T.set (posF L q) (t.1, .slice Ab b.length cb, b)).map pcP = putF L q b := by
      rcases Nat.lt_or_ge (posF L q) n with h1 | h1
      · obtain ⟨t, ht⟩ : ∃ t, T[posF L q]? = some t := ⟨_, List.getElem?_eq_getElem (by omega)⟩
        have hx : L[posF L q]? = some (pcP t) := by rw [← hTL, List.getElem?_map, ← hTL] at *; rw [hTL] at *; rw [ht]; rfl
        obtain ⟨e1, e2⟩ := has_at L q hg _ hx
        rw [hh] at e1
        have e3 : t.1 = q := of_decide_eq_true e1.symm
        refine ⟨h1, t, ht, e3, ?_⟩
        rw [map_set, hTL, ← put_set L q b hg _ hx e3]
        show L.set _ (t.1, b) = _
        rw [e3]
      · rw [has_end L q hg (by omega)] at hh; cases hh
    obtain ⟨hlt, t, ht, htq, hput⟩ := hdec
    rw [hh] at hF
    obtain ⟨pos, hpos⟩ : ∃ pos, posF L q = pos := ⟨_, rfl⟩
    rw [hpos] at hF hlt ht hput
    have HF := Lib.hid hF
    have HTT := Lib.hid ht
    have HPUT := Lib.hid hput
    have hone : (Value.slice Ab b.length cb).oneCell' = true := rfl
    have i0 : (0 : Int) ≤ (pos : Int) := Int.natCast_nonneg _
    have i1 : (pos : Int) < (n : Int) := by omega
    clear hF hC hT hb hB0 hB1 hwx hsx ht hput hh hpos hg hLn hTL hln hposle htq
    go_enter Try.func25, Try.ntmps25
    go_wp2_with fail
    rw [HWX.out]
    refine (HF.out _ hb0).mono ?_
    rintro e w1 ⟨rfl, h1⟩
    have hb1 := hb0.trans (h1.mono hb0.size)
    have hC0 := HB0.out.below h1 HB0.out.lt
    have hC1 := HB1.out.below h1 HB1.out.lt
    obtain ⟨d0, d1, f0, f1⟩ := blk2 hC0
    have HC0 := Lib.hid hC0
    have HC1 := Lib.hid hC1
    clear hC0 hC1
    go_wp2_with fail
    refine (HC.out _ hb1).mono ?_
    rintro e w2 ⟨⟨v, rfl, ho⟩, h2⟩
    have hb2 := hb1.trans (h2.mono hb1.size)
    obtain ⟨g, cap, rfl, hO⟩ := own_pos ho (by omega)
    have hC0 := HC0.out.below h2 HC0.out.lt
    have hC1 := HC1.out.below h2 HC1.out.lt
    have hgb := hO.base_
    have hgl := hO.lt
    have hl1 := HC1.out.lt
    obtain ⟨wy, hwy⟩ : ∃ wy, w2.setCell ⟨w.heap.size, 1, none⟩ (.slice (some ⟨g, 0, none⟩) n cap) = wy := ⟨_, rfl⟩
    have hD0 : Blk wy w.heap.size 24 (0, 0) #[.int .i64 size, .slice (some ⟨g, 0, none⟩) n cap] := by rw [← hwy]; exact hC0.set_ 1 _
    have hD1 : Blk wy (w.heap.size + 1) 24 (0, 0) #[.int .i64 0, .slice none 0 0] := by rw [← hwy]; exact hC1.far (by show w.heap.size + 1 ≠ w.heap.size; omega) _
    have hOy : OwnB wy w1.heap.size 62 2 g n cap (rowP T) := by rw [← hwy]; exact hO.far (by show g ≠ w.heap.size; omega) _
    have hby : Below w.heap.size w wy := by rw [← hwy]; exact hb2.setCell (Nat.le_refl _) _
    have hcy : wy.cell? ⟨g, pos * 2 + 1, none⟩ = (rowP T)[pos * 2 + 1]? := hOy.cell _ (by omega)
    have hcy2 : ∃ u, wy.cell? ⟨g, pos * 2 + 1, none⟩ = some u := by
      rw [hcy]
      exact ⟨_, List.getElem?_eq_getElem (by rw [rowV_len fP_len, HT.out.count]; omega)⟩
    obtain ⟨u, hu⟩ := hcy2
    have hfy : wy.frozen? ⟨g, pos * 2 + 1, none⟩ = false := hOy.frozen _
    obtain ⟨wz, hwz⟩ : ∃ wz, wy.setCell ⟨g, pos * 2 + 1, none⟩ (.slice Ab b.length cb) = wz := ⟨_, rfl⟩
    have hE0 : Blk wz w.heap.size 24 (0, 0) #[.int .i64 size, .slice (some ⟨g, 0, none⟩) n cap] := by rw [← hwz]; exact hD0.far (by show w.heap.size ≠ g; omega) _
    have hE1 : Blk wz (w.heap.size + 1) 24 (0, 0) #[.int .i64 0, .slice none 0 0] := by rw [← hwz]; exact hD1.far (by show w.heap.size + 1 ≠ g; omega) _
    have hOz : OwnB wz w1.heap.size 62 2 g n cap ((rowP T).set (pos * 2 + 1) (.slice Ab b.length cb)) := by rw [← hwz]; exact hOy.set_ _ _
    have hbz : Below w.heap.size w wz := by rw [← hwz]; exact hby.setCell (by show w.heap.size ≤ g; omega) _
    obtain ⟨t0, t1, u0, u1⟩ := blk2 hD0
    obtain ⟨s0, s1, v0, v1⟩ := blk2 hE0
    obtain ⟨r0, r1, z0, z1⟩ := blk2 hE1
    obtain ⟨p0, p1, x0, x1⟩ := blk2 hC0
    have HOZ := Lib.hid hOz
    have HE1 := Lib.hid hE1
    clear hO hOy hOz hC0 hC1 hD0 hD1 hE0 hE1 hcy ho d0 d1 f0 f1
    have hof : OwnB ((wz.setCell ⟨w.heap.size + 1, 0, none⟩ (.int .i64 size)).setCell ⟨w.heap.size + 1, 1, none⟩ (.slice (some ⟨g, 0, none⟩) n cap)) w1.heap.size 62 2 g n cap (rowP (T.set pos (t.1, .slice Ab b.length cb, b))) := by
      rw [← rowP_set T pos t _ b HTT.out]
      exact (HOZ.out.far (by show g ≠ w.heap.size + 1; omega) _).far (by show g ≠ w.heap.size + 1; omega) _
    have hbf : Below w.heap.size w ((wz.setCell ⟨w.heap.size + 1, 0, none⟩ (.int .i64 size)).setCell ⟨w.heap.size + 1, 1, none⟩ (.slice (some ⟨g, 0, none⟩) n cap)) := (hbz.setCell (by simp) _).setCell (by simp) _
    have hfin : IsQ ((wz.setCell ⟨w.heap.size + 1, 0, none⟩ (.int .i64 size)).setCell ⟨w.heap.size + 1, 1, none⟩ (.slice (some ⟨g, 0, none⟩) n cap)) ((wz.setCell ⟨w.heap.size + 1, 0, none⟩ (.int .i64 size)).setCell ⟨w.heap.size + 1, 1, none⟩ (.slice (some ⟨g, 0, none⟩) n cap)).heap.size Q (some ⟨g, 0, none⟩) n cap (putF L q b) := by
      refine ⟨hof.caps.1, hof.caps.2, (fun e => by cases e), (fun _ a e => by cases e; exact hQ _ (by have := hb1.size; show w.heap.size ≤ g; omega)), _, ⟨hof.rd, fun t' ht' => ?_⟩, HPUT.out⟩
      rcases List.mem_or_eq_of_mem_set ht' with hm | rfl
      · exact ((HT.out.2 t' hm).below hbf).more hbf.size
      · exact (HB.out.below hbf).more hbf.size
    have HFIN := Lib.hid hfin
    clear hof hfin
    go_wp2
    exact bodyPost_ret (v := .agg #[.int .i64 size, .slice (some ⟨g, 0, none⟩) n cap]) (by simp [results, Try.results25, go_sem, r0, r1]) rfl ⟨⟨_, n, cap, rfl, HFIN.out⟩, hbf⟩
  | false =>
    have hput := put_ins L q b hg hh
    rw [hh] at hF
    obtain ⟨pos, hpos⟩ : ∃ pos, posF L q = pos := ⟨_, rfl⟩
    rw [hpos] at hF hput hposle
    have HF := Lib.hid hF
    have HPUT := Lib.hid (show (T.take pos ++ [(q, Value.slice Ab b.length cb, b)] ++ T.drop pos).map pcP = putF L q b by rw [List.map_append, List.map_append, List.map_take, List.map_drop, hTL]; exact hput)
    have HLL := Lib.hid (show (T.take pos ++ [(q, Value.slice Ab b.length cb, b)] ++ T.drop pos).length = n + 1 by rw [List.length_append, List.length_append, List.length_take, List.length_drop, hln]; simp; omega)
    clear hF hC hT hb hB0 hB1 hwx hsx hput hh hpos hg hLn hTL hln
    go_enter Try.func25, Try.ntmps25
    go_wp2_with fail
    rw [HWX.out]
    refine (HF.out _ hb0).mono ?_
    rintro e w1 ⟨rfl, h1⟩
    have hb1 := hb0.trans (h1.mono hb0.size)
    have hC0 := HB0.out.below h1 HB0.out.lt
    have hC1 := HB1.out.below h1 HB1.out.lt
    obtain ⟨d0, d1, f0, f1⟩ := blk2 hC0
    have HC0 := Lib.hid hC0
    have HC1 := Lib.hid hC1
    clear hC0 hC1
    go_wp2_with fail
    refine (HC.out _ hb1).mono ?_
    rintro e w2 ⟨⟨v, rfl, ho⟩, h2⟩
    have hb2 := hb1.trans (h2.mono hb1.size)
    have hC0 := HC0.out.below h2 HC0.out.lt
    have hC1 := HC1.out.below h2 HC1.out.lt
    have hl1 := hC1.lt
    have hs1 : w.heap.size + 2 ≤ w1.heap.size := by have := HSX.out; have := h1.size; omega
    have hs2 := h2.size
    obtain ⟨wy, hwy⟩ : ∃ wy, w2.alloc (.cells #[.int .i64 q, .slice Ab b.length cb] 62) = wy := ⟨_, rfl⟩
    have hby : Below w2.heap.size w2 wy := by rw [← hwy]; exact (Below.refl _ _).alloc (Nat.le_refl _) _
    have hBy : Blk wy w2.heap.size 62 (0, 0) [Value.int .i64 q, .slice Ab b.length cb].toArray := by rw [← hwy]; exact Blk.new _ _ _ _
    have hD0 := hC0.below hby (by omega)
    have hD1 := hC1.below hby (by omega)
    have hoy := own_later ho hby
    have hI := InsertP_any w1.heap.size n pos w2.heap.size v (rowP T) [.int .i64 q, .slice Ab b.length cb] wy hoy HT.out.one hBy rfl (by intro u hu; simp at hu; rcases hu with rfl | rfl <;> rfl) (fun e => by have := (ho.lt _ e).2; omega) hposle (by omega) (by have := hby.size; omega)
    have HI := Lib.hid hI
    have HD0 := Lib.hid hD0
    have HD1 := Lib.hid hD1
    clear hI hD0 hD1 hBy hoy hC0 hC1 ho d0 d1 f0 f1
    go_wp2_with fail
    refine HI.out.mono ?_
    rintro e w3 ⟨⟨v', rfl, ho3⟩, h3⟩
    obtain ⟨A', c', rfl, hn3, hm3, hr3⟩ := own_form ho3
    have hb3 : Below w.heap.size w w3 := (hb2.trans (hby.mono hb2.size)).trans (h3.mono (by omega))
    have hE0 := HD0.out.below h3 (by omega)
    have hE1 := HD1.out.below h3 (by omega)
    have hnil3 := own_nilc ho3
    have hlt3 : ∀ k, (Value.slice A' (n + 1) c').ownBlock = some k → w1.heap.size ≤ k := fun k hk => (ho3.lt k hk).1
    have hrow : rowP (T.take pos ++ [(q, Value.slice Ab b.length cb, b)] ++ T.drop pos) = (rowP T).take (pos * 2) ++ [.int .i64 q, .slice Ab b.length cb] ++ (rowP T).drop (pos * 2) := by
      show rowV fP _ = _
      rw [rowV_append, rowV_snoc, rowV_take fP_len, rowV_drop fP_len]; rfl
    rw [← hrow] at hr3
    obtain ⟨wz, hwz⟩ : ∃ wz, w3.setCell ⟨w.heap.size, 1, none⟩ (.slice A' (n + 1) c') = wz := ⟨_, rfl⟩
    have hF0 : Blk wz w.heap.size 24 (0, 0) #[.int .i64 size, .slice A' (n + 1) c'] := by rw [← hwz]; exact hE0.set_ 1 _
    have hF1 : Blk wz (w.heap.size + 1) 24 (0, 0) #[.int .i64 0, .slice none 0 0] := by rw [← hwz]; exact hE1.far (by show w.heap.size + 1 ≠ w.heap.size; omega) _
    have hbz : Below w.heap.size w wz := by rw [← hwz]; exact hb3.setCell (Nat.le_refl _) _
    have hkz : ∀ p : Addr, w1.heap.size ≤ p.block → wz.cell? p = w3.cell? p := fun p hp => by rw [← hwz]; exact cell_far (by show p.block ≠ w.heap.size; omega)
    have hsz : wz.heap.size = w3.heap.size := by rw [← hwz]; simp
    obtain ⟨p0, p1, x0, x1⟩ := blk2 hE0
    obtain ⟨s0, s1, v0, v1⟩ := blk2 hF0
    obtain ⟨r0, r1, z0, z1⟩ := blk2 hF1
    have hbf : Below w.heap.size w ((wz.setCell ⟨w.heap.size + 1, 0, none⟩ (.int .i64 size)).setCell ⟨w.heap.size + 1, 1, none⟩ (.slice A' (n + 1) c')) := (hbz.setCell (by simp) _).setCell (by simp) _
    have hfin : IsQ ((wz.setCell ⟨w.heap.size + 1, 0, none⟩ (.int .i64 size)).setCell ⟨w.heap.size + 1, 1, none⟩ (.slice A' (n + 1) c')) ((wz.setCell ⟨w.heap.size + 1, 0, none⟩ (.int .i64 size)).setCell ⟨w.heap.size + 1, 1, none⟩ (.slice A' (n + 1) c')).heap.size Q A' (n + 1) c' (putF L q b) := by
      refine ⟨hn3, hm3, hnil3, (fun _ a e => hQ _ (by have := hlt3 a.block (by rw [e]; rfl); omega)), _, ⟨⟨hr3.1, fun h0 => ?_⟩, fun t' ht' => ?_⟩, HPUT.out⟩
      · obtain ⟨g, o, e, hg, hc⟩ := hr3.2 h0
        refine ⟨g, o, e, by simp [World.setCell] at *; omega, fun j u hu => ?_⟩
        have hge : w1.heap.size ≤ g := hlt3 g (by rw [e]; rfl)
        rw [cell_far (by show g ≠ w.heap.size + 1; omega), cell_far (by show g ≠ w.heap.size + 1; omega), hkz _ hge]
        exact hc j u hu
      · have hcs : t' ∈ T ∨ t' = (q, Value.slice Ab b.length cb, b) := by
          rcases List.mem_append.1 ht' with hm | hm
          · rcases List.mem_append.1 hm with hm | hm
            · exact .inl (List.mem_of_mem_take hm)
            · exact .inr (List.mem_singleton.1 hm)
          · exact .inl (List.mem_of_mem_drop hm)
        rcases hcs with hm | rfl
        · exact ((HT.out.2 t' hm).below hbf).more hbf.size
        · exact (HB.out.below hbf).more hbf.size
    have HFIN := Lib.hid hfin
    clear hfin hr3 hrow hkz hsz ho3 hE0 hE1 hF0 hF1 hnil3 hlt3
    go_wp2
    exact bodyPost_ret (v := .agg #[.int .i64 size, .slice A' (n + 1) c']) (by simp [results, Try.results25, go_sem, r0, r1]) rfl ⟨⟨_, n + 1, c', rfl, HFIN.out⟩, hbf⟩
end Go.Proofs.Ytpofkkoiicdpbaa
