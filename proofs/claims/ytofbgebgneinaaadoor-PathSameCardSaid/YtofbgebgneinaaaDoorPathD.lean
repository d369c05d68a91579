/-
  Walks: where a path leads: the great walk.
-/
import Derived.Test.YtofbgebgneinaaaDoorPathC
namespace Go.Proofs.YtofbgebgneinaaaDoor
open Go.RowKit Go.Shelf
set_option linter.unusedVariables false
attribute [local go_sem] Oper.semAt_some

theorem piece_len : ∀ (l p : List UInt8), p ∈ splitB l → p.length ≤ l.length := by
  intro l
  induction l with
  | nil => intro p hp; simp [splitB] at hp; subst hp; simp
  | cons c r ih =>
    intro p hp
    by_cases hc : c = 47
    · subst hc
      rw [splitB_slash] at hp
      rcases List.mem_cons.1 hp with rfl | hp
      · simp
      · have := ih p hp; simp; omega
    · obtain ⟨q, qs, e1, e2⟩ := splitB_other c r hc
      rw [e2] at hp
      rcases List.mem_cons.1 hp with rfl | hp
      · have := ih q (by rw [e1]; exact List.mem_cons_self); simp; omega
      · have := ih p (by rw [e1]; exact List.mem_cons_of_mem _ hp); simp; omega
theorem piece_size {s : ByteArray} {pre : List ByteArray} {x : ByteArray} (h : NextPiece s pre x) : x.size ≤ s.size := by
  obtain ⟨rest, h⟩ := h
  have := piece_len (oc s) (oc x) (by rw [← h]; simp)
  rw [oc_len, oc_len] at this
  exact this

set_option maxHeartbeats 4000000 in
set_option maxRecDepth 100000 in
theorem Parse_main (n : Nat) (s : ByteArray) (w : World) (hn : 9 ≤ n) (hp : Lib.hasPrefix s.data.toList [47] = true) (hs : s.size ≤ 200) :
    CallsIn Fence.wide n Tryd.prog 8 #[.string s] w fun e w' => (∃ v, e = .returned (.tuple #[v, .int .i64 (parseGo [] (splitB (oc s))).2]) ∧ OwnS w w' v (parseGo [] (splitB (oc s))).1) ∧ Below w.heap.size w w' := by
  obtain ⟨i0, hi, hz0, hz1, hz2⟩ := info_parts (P := Tryd.prog) (e := 9) (z := .string ByteArray.empty) (size := 1) (bytes := 16) (by kernel_rfl)
  have h1 : 1 ≤ n := by omega
  have f1 : Fence.wide.fn 19 := trivial
  have f2 : Fence.wide.fn 20 := trivial
  refine callsIn_of_wp_marks Tryd.func8 rfl trivial ?_ rfl
  simp only [Tryd.ntmps8, List.size_toArray, List.length_cons, List.length_nil, Nat.reduceAdd, Nat.reduceSub, Array.replicate_succ, Array.replicate_zero, List.push_toArray, List.append_toArray, List.nil_append, List.cons_append]
  gi_wp2_with (first
    | (gi_at_call 19; refine (callsIn_wide.2 (Tryd.strings_HasPrefix s ⟨#[47]⟩ _)).mono ?_; rintro e w' ⟨rfl, rfl⟩; rw [show (⟨#[47]⟩ : ByteArray).data.toList = [47] from rfl, hp])
    | (gi_at_call 20; refine (callsIn_wide.2 (SplitSeq_any s ⟨#[47]⟩ _)).mono ?_; rintro e w' ⟨rfl, rfl⟩))
  obtain ⟨W0, hW0⟩ : ∃ W0, ((((((w.alloc (.cells #[.slice none 0 0] 23)).alloc (.cells #[.int .i64 0] 24)).alloc (.cells #[.slice none 0 0] 23)).alloc (.cells #[.string s] 9)).alloc (.cells #[.string ⟨#[47]⟩] 9)).alloc (.cells #[.int .i64 0] 3)) = W0 := ⟨_, rfl⟩
  rw [hW0]
  have hsz : W0.heap.size = w.heap.size + 6 := by rw [← hW0]; simp
  have bR : Boxed W0 w.heap.size 23 (.slice none 0 0) := by rw [← hW0]; exact (((((Boxed.new w _ _).alloc _).alloc _).alloc _).alloc _).alloc _
  have bE : Boxed W0 (w.heap.size + 1) 24 (.int .i64 0) := by
    rw [← hW0]; have := Boxed.new (w.alloc (.cells #[.slice none 0 0] 23)) 24 (.int .i64 0)
    rw [World.size_alloc] at this; exact (((this.alloc _).alloc _).alloc _).alloc _
  have bO : Boxed W0 (w.heap.size + 2) 23 (.slice none 0 0) := by
    rw [← hW0]; have := Boxed.new ((w.alloc (.cells #[.slice none 0 0] 23)).alloc (.cells #[.int .i64 0] 24)) 23 (.slice none 0 0)
    simp only [World.size_alloc] at this; exact ((this.alloc _).alloc _).alloc _
  have bS : Boxed W0 (w.heap.size + 3) 9 (.string s) := by
    rw [← hW0]; have := Boxed.new (((w.alloc (.cells #[.slice none 0 0] 23)).alloc (.cells #[.int .i64 0] 24)).alloc (.cells #[.slice none 0 0] 23)) 9 (.string s)
    simp only [World.size_alloc] at this; exact (this.alloc _).alloc _
  have bP : Boxed W0 (w.heap.size + 4) 9 (.string ⟨#[47]⟩) := by
    rw [← hW0]; have := Boxed.new ((((w.alloc (.cells #[.slice none 0 0] 23)).alloc (.cells #[.int .i64 0] 24)).alloc (.cells #[.slice none 0 0] 23)).alloc (.cells #[.string s] 9)) 9 (.string ⟨#[47]⟩)
    simp only [World.size_alloc] at this; exact this.alloc _
  have bV : Boxed W0 (w.heap.size + 5) 3 (.int .i64 0) := by
    rw [← hW0]; have := Boxed.new (((((w.alloc (.cells #[.slice none 0 0] 23)).alloc (.cells #[.int .i64 0] 24)).alloc (.cells #[.slice none 0 0] 23)).alloc (.cells #[.string s] 9)).alloc (.cells #[.string ⟨#[47]⟩] 9)) 3 (.int .i64 0)
    simp only [World.size_alloc] at this; exact this
  have hB0 : Below w.heap.size w W0 := by
    rw [← hW0]
    exact ((((((Below.refl _ w).alloc (Nat.le_refl _) _).alloc (by simp) _).alloc (by simp; omega) _).alloc (by simp; omega) _).alloc (by simp; omega) _).alloc (by simp; omega) _
  clear hW0
  refine range_walk (α := ByteArray) rfl h1 (gf := 41) (lb := #[.pointer (some ⟨w.heap.size + 1 + 1 + 1 + 1, 0, none⟩), .pointer (some ⟨w.heap.size + 1 + 1 + 1, 0, none⟩), .pointer (some ⟨w.heap.size + 1 + 1 + 1 + 2, 0, none⟩)]) rfl trivial (enters_of Tryd.func41 (by kernel_rfl) rfl)
    (encs := fun x => #[.string x]) (Kp := Keeps3 (w.heap.size + 3) (w.heap.size + 4) (w.heap.size + 5)) (S := fun xs => xs.map oc = splitB (oc s)) (Sp := fun pre => ∃ rest, pre.map oc ++ rest = splitB (oc s)) (Ok := NextPiece s) (c0 := w.heap.size + 3) (by omega)
    ?iter (fun h k => h.trans k) ?lay ?book (fun x => rfl) (PI w) (PX w) ?cellI ?bookI ?bookX ?start
    (fun x => { tmps := #[.string s, undef, .pointer (some ⟨w.heap.size, 0, none⟩), .pointer (some ⟨w.heap.size + 1, 0, none⟩), .pointer (some ⟨w.heap.size + 1 + 1, 0, none⟩), .string x, .bool false, .string s, .bool true, .bool false, .bool (decide (200 < (s.size : Int))), .string s, .int .i64 s.size, .bool (decide (200 < (s.size : Int))), .string s, .func (.func 41) #[] #[.pointer (some ⟨w.heap.size + 1 + 1 + 1 + 1, 0, none⟩), .pointer (some ⟨w.heap.size + 1 + 1 + 1, 0, none⟩), .pointer (some ⟨w.heap.size + 1 + 1 + 1 + 2, 0, none⟩)], .string x, undef, undef, undef, undef, undef, undef, undef, undef, undef, undef, undef, undef, undef, undef, undef, undef, undef, undef, undef, undef, undef, undef, undef], defers := [] }) ?assign ?body ?done ?stop
  case iter =>
    intro l J Jx W hK hJ hY hJ0
    exact split1_in (n - 1) (by omega) l (w.heap.size + 3) (w.heap.size + 4) (w.heap.size + 5) (by omega) s (by omega) J Jx hJ hY W (hK.1.trans bS) (hK.2.1.trans bP) (hK.2.2.trans bV) hJ0
  case lay =>
    intro o o'
    have hb : Below W0.heap.size W0 ((W0.alloc o).alloc o') := ((Below.refl _ W0).alloc (Nat.le_refl _) _).alloc (by simp) _
    exact ⟨hb.block _ (by omega), hb.block _ (by omega), hb.block _ (by omega)⟩
  case book =>
    intro W l o' hl
    exact ⟨World.putObj_heap_other (by omega), World.putObj_heap_other (by omega), World.putObj_heap_other (by omega)⟩
  case cellI =>
    rintro pre X u ⟨v, out, k1, k2, k3, k4, k5, k6, k7, k8⟩
    exact ⟨v, out, box_other k1 (by omega) u, own_low k2 (by omega), k3, k4, box_other k5 (by omega) u, box_other k6 (by omega) u, k7.setCell (p := ⟨w.heap.size + 3, 0, none⟩) (by show w.heap.size ≤ w.heap.size + 3; omega) u, by simpa [World.setCell] using k8⟩
  case bookI =>
    rintro pre X l o o' hl ho hc ⟨v, out, k1, k2, k3, k4, k5, k6, k7, k8⟩
    exact ⟨v, out, box_putObj k1 (by omega) o', ownsRow_putObj k2 o' ho hc, k3, k4, box_putObj k5 (by omega) o', box_putObj k6 (by omega) o', k7.trans (below_putObj (by omega) o'), by simpa using k8⟩
  case bookX =>
    rintro pre X l o o' hl ho hc ⟨e, k1, k2, k3, k4⟩
    exact ⟨e, box_putObj k1 (by omega) o', box_putObj k2 (by omega) o', k3, k4.trans (below_putObj (by omega) o')⟩
  case start =>
    intro o o' ho ho'
    exact ⟨.slice none 0 0, [], (bO.alloc _).alloc _, ⟨rfl, .inl ⟨rfl, rfl⟩⟩, by simp, fun rest => rfl, (bR.alloc _).alloc _, (bE.alloc _).alloc _, (hB0.alloc (by omega) _).alloc (by simp; omega) _, by simp; omega⟩
  case assign =>
    intro l x W K hK
    gi_wp2
    exact hK
  case body =>
    rintro l pre x W ⟨v, out, k1, k2, k3, k4, k5, k6, k7, k8⟩ hOk
    have hxs := piece_size hOk
    have kp : ∀ rest, parseGo [] ((pre ++ [x]).map oc ++ rest) = parseGo out (oc x :: rest) := fun rest => by
      rw [List.map_append, List.append_assoc]; exact k4 _
    have KP := Lib.hid kp
    clear kp k4 hOk
    have f21 : Fence.wide.fn 21 := trivial
    have h11 : 1 ≤ n - 1 - 1 := by omega
    have c1 := k1.cell
    by_cases x1 : x = ⟨#[]⟩
    · subst x1
      gi_wp2
      exact ⟨KeepsFrom.refl _ _, ⟨rfl, rfl, rfl⟩, v, out, k1, k2, k3, fun rest => (KP.out rest).trans (parseGo_skip _ _ _ (.inl rfl)), k5, k6, k7, k8⟩
    by_cases x2 : x = ⟨#[46]⟩
    · subst x2
      gi_wp2
      exact ⟨KeepsFrom.refl _ _, ⟨rfl, rfl, rfl⟩, v, out, k1, k2, k3, fun rest => (KP.out rest).trans (parseGo_skip _ _ _ (.inr rfl)), k5, k6, k7, k8⟩
    by_cases x3 : x = ⟨#[46, 46]⟩
    · subst x3
      have hkp : ∀ rest, parseGo [] ((pre ++ [(⟨#[46, 46]⟩ : ByteArray)]).map oc ++ rest) = parseGo out.dropLast rest := fun rest => (KP.out rest).trans (parseGo_up _ _)
      have c1f := k1.frozen
      have HK := Lib.hid hkp
      clear hkp
      rcases own_cases k2 with ⟨rfl, h0, _⟩ | ⟨g, cap, rfl, hB⟩
      · have ho : out = [] := List.eq_nil_of_length_eq_zero h0
        subst ho
        gi_wp2
        rw [show (max (0 : Int) (-1)).toNat = 0 from rfl]
        exact ⟨(KeepsOthers.setCell _ _ _).from _, keeps3_set W w.heap.size _, PI_set k1 k2 k3 HK.out k5 k6 k7 k8⟩
      · obtain ⟨m, hm⟩ : ∃ m, out.length = m := ⟨_, rfl⟩
        rw [hm] at c1 k1 hB k3
        have hcap := hB.caps.1
        have hB2 := Lib.hid hB
        have HM := Lib.hid hm
        clear k2 hm
        by_cases hm0 : m = 0
        · subst hm0
          have ho : out = [] := List.eq_nil_of_length_eq_zero HM.out
          subst ho
          gi_wp2
          rw [show (max (0 : Int) (-1)).toNat = 0 from rfl]
          exact ⟨(KeepsOthers.setCell _ _ _).from _, keeps3_set W w.heap.size _, PI_set (out' := []) k1 (own_cut hB2.out 0 (Nat.zero_le _)) (Nat.zero_le _) HK.out k5 k6 k7 k8⟩
        · obtain ⟨m', rfl⟩ : ∃ m', m = m' + 1 := ⟨m - 1, by omega⟩
          have hdl : out.dropLast.length = m' := by rw [List.length_dropLast, HM.out]; omega
          have hcut := own_cut hB2.out m' (by omega)
          rw [← strV_drop out m' HM.out] at hcut
          have hcut2 : W.ownsRow (w.heap.size + 6) 9 1 (.slice (some ⟨g, 0, none⟩) m' cap) out.dropLast.length (strV out.dropLast) := by rw [hdl]; exact hcut
          have HC := Lib.hid hcut2
          clear hcut hcut2
          gi_wp2
          exact ⟨(KeepsOthers.setCell _ _ _).from _, keeps3_set W w.heap.size _, PI_set k1 HC.out (by omega) HK.out k5 k6 k7 k8⟩
    have n1 : ¬ (oc x = [] ∨ oc x = [46]) := fun h => h.elim (fun h => x1 (oc_inj h)) (fun h => x2 (oc_inj h))
    have n2 : oc x ≠ [46, 46] := fun h => x3 (oc_inj h)
    have hx1 : x.toList.isEmpty = false := by
      rw [ByteArray.toList_eq]
      cases h : x.data.toList with
      | nil => exact absurd (oc_inj (s := x) (t := ⟨#[]⟩) h) x1
      | cons => rfl
    have hx2 : (x.toList == [46]) = false := by
      rw [ByteArray.toList_eq]; exact beq_false_of_ne (fun h => x2 (oc_inj (s := x) (t := ⟨#[46]⟩) h))
    have hx3 : (x.toList == [46, 46]) = false := by
      rw [ByteArray.toList_eq]; exact beq_false_of_ne (fun h => x3 (oc_inj (s := x) (t := ⟨#[46, 46]⟩) h))
    have N1 := Lib.hid n1
    have N2 := Lib.hid n2
    clear n1 n2
    obtain ⟨A, c, rfl, hnc, hcm, _⟩ := own_form k2
    cases hnm : isName (oc x) with
    | false =>
      have hkx : ∀ rest, parseGo [] ((pre ++ [x]).map oc ++ rest) = ([], 11) := fun rest => (KP.out rest).trans (parseGo_bad _ _ _ N1.out N2.out hnm)
      have HX := Lib.hid hkx
      have HNM := Lib.hid hnm
      clear hkx hnm k2
      gi_wp2_with (gi_at_call 21; refine (CallsIn.inRound l (callsIn_wide.2 (Is_any x W (by omega)))).mono ?_; rintro e w1 ⟨rfl, hb1⟩; rw [HNM.out]; have r5 := box_below k5 hb1; have r6 := box_below k6 hb1; have d1 := r5.cell; have d2 := r5.frozen; have d3 := r6.cell; have d4 := r6.frozen)
      exact ⟨(below_keeps hb1).trans (((KeepsOthers.setCell _ _ _).trans (KeepsOthers.setCell _ _ _)).from _), PX_set HX.out r5 r6 (k7.trans (hb1.mono k7.size))⟩
    | true =>
      have HNM := Lib.hid hnm
      clear hnm
      obtain ⟨m, hm⟩ : ∃ m, out.length = m := ⟨_, rfl⟩
      rw [hm] at k2 k3 c1 k1 hnc
      have hsn : strV (out ++ [oc x]) = strV out ++ [.string x] := by rw [strV_snoc, st_oc]
      have HM := Lib.hid hm
      have HSN := Lib.hid hsn
      have KO := Lib.hid k2
      clear hm hsn k2
      by_cases h8 : 8 ≤ m
      · skip
        gi_wp2_with (first
          | (gi_at_call 21; refine (CallsIn.inRound l (callsIn_wide.2 (Is_any x W (by omega)))).mono ?_; rintro e w1 ⟨rfl, hb1⟩; rw [HNM.out]; have r1 := box_below k1 hb1; have r5 := box_below k5 hb1; have r6 := box_below k6 hb1; have d1 := r1.cell; have hrow := Lib.hid (own_later KO.out hb1))
          | (gi_at_builtin; refine wpListIn_append_own _ rfl _ _ 23 rfl (w.heap.size + 6) 9 i0 (.string ByteArray.empty) 1 16 Tryd.underlying23 hi hz0 hz1 hz2 rfl (by decide) _ _ _ rfl (hrow.out.alloc _) ⟨w1.heap.size, 0, none⟩ 1 1 [.string x] rfl rfl (fun j u hj => new_cells w1 _ _ _ rfl j u hj) (one_cell rfl) (by unfold maxLen; omega) (by omega) (by have := hb1.size; simp; omega) ?_; intro v' w2 hown' hgrow _; obtain ⟨g', cap', rfl⟩ := ownsRow_succ hown'; have q1 := (r1.alloc (.cells #[.string x] 9)).kept hgrow (r1.not_row (by decide) hrow.out); have q5 := (r5.alloc (.cells #[.string x] 9)).kept hgrow (r5.not_row (by decide) hrow.out); have q6 := (r6.alloc (.cells #[.string x] 9)).kept hgrow (r6.not_row (by decide) hrow.out); have e1 := q1.cell; have e2 := q1.frozen; have e5 := (box_other q5 (show w.heap.size ≠ w.heap.size + 2 by omega) (.slice (some ⟨g', 0, none⟩) (m + 1) cap')).cell; have e6 := (box_other q5 (show w.heap.size ≠ w.heap.size + 2 by omega) (.slice (some ⟨g', 0, none⟩) (m + 1) cap')).frozen; have e7 := q6.cell; have e8 := q6.frozen; have OW := Lib.hid hown'; have GR : Hid ((w1.alloc (.cells #[.string x] 9)).grownBy w2 (Value.slice A m c).ownBlock) := Lib.hid hgrow; clear hown' hgrow))
        have hkx : ∀ rest, parseGo [] ((pre ++ [x]).map oc ++ rest) = ([], 16) := fun rest => (KP.out rest).trans (parseGo_big _ _ _ N1.out N2.out HNM.out (by rw [HM.out]; exact h8))
        have hsz1 : W.heap.size ≤ w1.heap.size := hb1.size
        have hba : Below w.heap.size w1 (w1.alloc (.cells #[.string x] 9)) := (Below.refl _ _).alloc (by omega) _
        have hbg := hba.grown GR.out (by simp; omega) (fun k hk => by have := (hrow.out.lt k hk).1; omega)
        have hkf : KeepsFrom W0.heap.size W w2 := (below_keeps hb1).trans (((KeepsOthers.alloc _ _).from _).trans (grown_keeps (hrow.out.alloc _) GR.out))
        exact ⟨hkf.trans (((KeepsOthers.setCell _ _ _).trans ((KeepsOthers.setCell _ _ _).trans (KeepsOthers.setCell _ _ _))).from _), PX_set hkx (box_other q5 (by omega) _) (box_other q6 (by omega) _) (((k7.trans (hb1.mono k7.size)).trans hbg).setCell (p := ⟨w.heap.size + 2, 0, none⟩) (by show w.heap.size ≤ w.heap.size + 2; omega) _)⟩
      · have h8' : m < 8 := by omega
        gi_wp2_with (first
          | (gi_at_call 21; refine (CallsIn.inRound l (callsIn_wide.2 (Is_any x W (by omega)))).mono ?_; rintro e w1 ⟨rfl, hb1⟩; rw [HNM.out]; have r1 := box_below k1 hb1; have r5 := box_below k5 hb1; have r6 := box_below k6 hb1; have d1 := r1.cell; have hrow := Lib.hid (own_later KO.out hb1))
          | (gi_at_builtin; refine wpListIn_append_own _ rfl _ _ 23 rfl (w.heap.size + 6) 9 i0 (.string ByteArray.empty) 1 16 Tryd.underlying23 hi hz0 hz1 hz2 rfl (by decide) _ _ _ rfl (hrow.out.alloc _) ⟨w1.heap.size, 0, none⟩ 1 1 [.string x] rfl rfl (fun j u hj => new_cells w1 _ _ _ rfl j u hj) (one_cell rfl) (by unfold maxLen; omega) (by omega) (by have := hb1.size; simp; omega) ?_; intro v' w2 hown' hgrow _; obtain ⟨g', cap', rfl⟩ := ownsRow_succ hown'; have q1 := (r1.alloc (.cells #[.string x] 9)).kept hgrow (r1.not_row (by decide) hrow.out); have q5 := (r5.alloc (.cells #[.string x] 9)).kept hgrow (r5.not_row (by decide) hrow.out); have q6 := (r6.alloc (.cells #[.string x] 9)).kept hgrow (r6.not_row (by decide) hrow.out); have e1 := q1.cell; have e2 := q1.frozen; have e5 := (box_other q5 (show w.heap.size ≠ w.heap.size + 2 by omega) (.slice (some ⟨g', 0, none⟩) (m + 1) cap')).cell; have e6 := (box_other q5 (show w.heap.size ≠ w.heap.size + 2 by omega) (.slice (some ⟨g', 0, none⟩) (m + 1) cap')).frozen; have e7 := q6.cell; have e8 := q6.frozen; have OW := Lib.hid hown'; have GR : Hid ((w1.alloc (.cells #[.string x] 9)).grownBy w2 (Value.slice A m c).ownBlock) := Lib.hid hgrow; clear hown' hgrow))
        have hkx : ∀ rest, parseGo [] ((pre ++ [x]).map oc ++ rest) = parseGo (out ++ [oc x]) rest := fun rest => (KP.out rest).trans (parseGo_in _ _ _ N1.out N2.out HNM.out (by rw [HM.out]; exact h8'))
        have hsz1 : W.heap.size ≤ w1.heap.size := hb1.size
        have hba : Below w.heap.size w1 (w1.alloc (.cells #[.string x] 9)) := (Below.refl _ _).alloc (by omega) _
        have hbg := hba.grown GR.out (by simp; omega) (fun k hk => by have := (hrow.out.lt k hk).1; omega)
        have hkf : KeepsFrom W0.heap.size W w2 := (below_keeps hb1).trans (((KeepsOthers.alloc _ _).from _).trans (grown_keeps (hrow.out.alloc _) GR.out))
        have hlow : ∀ k, k < w.heap.size + 6 → w2.heap[k]? = W.heap[k]? := fun k hk => (grown_low (hrow.out.alloc (.cells #[.string x] 9)) GR.out hk (by simp; omega)).trans ((Below.heap_alloc _ _ _ (by omega)).trans (hb1.block k (by omega)))
        have hk3 : Keeps3 (w.heap.size + 3) (w.heap.size + 4) (w.heap.size + 5) W w2 := ⟨hlow _ (by omega), hlow _ (by omega), hlow _ (by omega)⟩
        have hw2 : w1.heap.size ≤ w2.heap.size := by have := GR.out.size; simp at this; omega
        have hO : w2.ownsRow (w.heap.size + 6) 9 1 (.slice (some ⟨g', 0, none⟩) (m + 1) cap') (out ++ [oc x]).length (strV (out ++ [oc x])) := by
          rw [HSN.out, List.length_append, HM.out]; exact OW.out
        exact ⟨hkf.trans ((KeepsOthers.setCell _ _ _).from _), hk3.trans (keeps3_set w2 w.heap.size _), PI_set q1 hO (by rw [List.length_append, HM.out]; exact h8') hkx q5 q6 ((k7.trans (hb1.mono k7.size)).trans hbg) (by omega)⟩
  case done =>
    rintro D xs W hD hS ⟨v, out, k1, k2, k3, k4, k5, k6, k7, k8⟩ hK
    have hres : parseGo [] (splitB (oc s)) = (out, 0) := by
      have := k4 []
      rw [List.append_nil, hS] at this; exact this
    obtain ⟨A, c, rfl, _, _, _⟩ := own_form k2
    have c1 := k1.cell
    have c2 := k5.cell
    have c3 := k5.frozen
    have c4 := k6.cell
    have c5 := k6.frozen
    have HRES := Lib.hid hres
    clear hres k4
    gi_wp2
    have s1 := k5.set (.slice A out.length c)
    have s2 := box_other k6 (show w.heap.size + 1 ≠ w.heap.size by omega) (.slice A out.length c)
    have s3 := box_other s1 (show w.heap.size ≠ w.heap.size + 1 by omega) (.int .i64 0)
    have s4 := s2.set (.int .i64 0)
    have hKs := (Below.heap_setCell (W.setCell ⟨w.heap.size, 0, none⟩ (.slice A out.length c)) ⟨w.heap.size + 1, 0, none⟩ (.int .i64 0) D (by show D ≠ w.heap.size + 1; omega)).trans ((Below.heap_setCell W ⟨w.heap.size, 0, none⟩ (.slice A out.length c) D (by show D ≠ w.heap.size; omega)).trans hK)
    have hbs : Below w.heap.size w ((W.setCell ⟨w.heap.size, 0, none⟩ (.slice A out.length c)).setCell ⟨w.heap.size + 1, 0, none⟩ (.int .i64 0)) := (k7.setCell (p := ⟨w.heap.size, 0, none⟩) (Nat.le_refl _) _).setCell (p := ⟨w.heap.size + 1, 0, none⟩) (by show w.heap.size ≤ w.heap.size + 1; omega) _
    have o2 := own_low (own_low k2 (show w.heap.size < w.heap.size + 6 by omega) (x := .slice A out.length c)) (show w.heap.size + 1 < w.heap.size + 6 by omega) (x := .int .i64 0)
    refine ⟨by simp, .inl ⟨_, _, rfl, run_takeDeferred hKs, ?_⟩⟩
    have t1 := (box_putObj s3 (show w.heap.size ≠ D by omega) (.deferred none)).cell
    have t2 := (box_putObj s4 (show w.heap.size + 1 ≠ D by omega) (.deferred none)).cell
    refine ⟨.tuple #[.slice A out.length c, .int .i64 0], ?_, ⟨.slice A out.length c, by rw [HRES.out], ?_⟩, hbs.trans (below_putObj (by omega) _)⟩
    · simp [results, Tryd.f8, go_sem, t1, t2]
    · rw [HRES.out]
      exact own_base (ownsRow_putObj o2 _ hKs rfl) (by omega)
  case stop =>
    rintro D pre W hD ⟨rest, hS⟩ ⟨e, k1, k2, k3, k4⟩ hK
    have hres : parseGo [] (splitB (oc s)) = ([], e) := by rw [← hS]; exact k3 rest
    have HRES := Lib.hid hres
    clear hres k3
    gi_wp2
    refine ⟨by simp, .inl ⟨_, _, rfl, run_takeDeferred hK, ?_⟩⟩
    have t1 := (box_putObj k1 (show w.heap.size ≠ D by omega) (.deferred none)).cell
    have t2 := (box_putObj k2 (show w.heap.size + 1 ≠ D by omega) (.deferred none)).cell
    refine ⟨.tuple #[.slice none 0 0, .int .i64 e], ?_, ⟨.slice none 0 0, by rw [HRES.out], ?_⟩, k4.trans (below_putObj (by omega) _)⟩
    · simp [results, Tryd.f8, go_sem, t1, t2]
    · rw [HRES.out]
      exact ⟨rfl, .inl ⟨rfl, rfl⟩⟩
end Go.Proofs.YtofbgebgneinaaaDoor
