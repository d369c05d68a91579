/-
  Walks: the reference's order.
-/
import Derived.Test.YtpjghildhhpeeaaTitleG
namespace Go.Proofs.Ytpjghildhhpeeaa
open Go.RowKit

theorem cmpZ_drop (a b : List Int) (k : Nat) (x y : Int) (ha : a[k]? = some x) (hb : b[k]? = some y) :
    cmpZ (a.drop k) (b.drop k) = if x < y then -1 else if y < x then 1 else cmpZ (a.drop (k + 1)) (b.drop (k + 1)) := by
  obtain ⟨h1, rfl⟩ := List.getElem?_eq_some_iff.1 ha
  obtain ⟨h2, rfl⟩ := List.getElem?_eq_some_iff.1 hb
  rw [List.drop_eq_getElem_cons h1, List.drop_eq_getElem_cons h2]; rfl
theorem cmpZ_end (a b : List Int) (k : Nat) (h : a.length ≤ k ∨ b.length ≤ k) (hk : k ≤ a.length ∧ k ≤ b.length) :
    cmpZ (a.drop k) (b.drop k) = if a.length < b.length then -1 else if b.length < a.length then 1 else 0 := by
  by_cases ha : a.length ≤ k
  · have : a.drop k = [] := List.drop_eq_nil_of_le ha
    rw [this]
    by_cases hb : b.length ≤ k
    · have : b.drop k = [] := List.drop_eq_nil_of_le hb
      rw [this, if_neg (by omega), if_neg (by omega)]; rfl
    · rw [if_pos (by omega)]
      cases h : b.drop k with
      | nil => have := congrArg List.length h; simp at this; omega
      | cons _ _ => rfl
  · rw [if_neg (by omega), if_pos (by omega)]
    have : b.drop k = [] := List.drop_eq_nil_of_le (by omega)
    rw [this]
    cases h : a.drop k with
    | nil => have := congrArg List.length h; simp at this; omega
    | cons _ _ => rfl

theorem Try.info3 : (Try.prog.info? 3).map (fun i => (i.zero, i.size, i.bytes)) = some (some (.int .i64 0), 1, 8) := by kernel_rfl

set_option maxHeartbeats 4000000 in
set_option maxRecDepth 100000 in
theorem rOrder_runes (a b : ByteArray) (w : World) (ha : a.size ≤ 1000000) (hb : b.size ≤ 1000000) (hst : ¬ 0 < strays (oc a) + strays (oc b)) :
    Calls Try.prog 31 #[.string a, .string b] w fun e w' => e = .returned (.int .i64 (cmpZ ((runes (oc a)).map (·.v)) ((runes (oc b)).map (·.v)))) ∧ Below w.heap.size w w' := by
  obtain ⟨i0, hi, hz0, hz1, hz2⟩ := info_parts Try.info3
  have hla := runes_len_le (oc a)
  have hlb := runes_len_le (oc b)
  rw [oc_len] at hla hlb
  have hsz : strays (oc a) = 0 ∧ strays (oc b) = 0 := by omega
  obtain ⟨hsa, hsb⟩ := hsz
  clear hst
  have HSA := Lib.hid hsa
  have HSB := Lib.hid hsb
  clear hsa hsb
  generalize hva : (runes (oc a)).map (·.v) = va at *
  generalize hvb : (runes (oc b)).map (·.v) = vb at *
  have hlva : va.length = (runes (oc a)).length := by rw [← hva]; simp
  have hlvb : vb.length = (runes (oc b)).length := by rw [← hvb]; simp
  have HVA := Lib.hid hva
  have HVB := Lib.hid hvb
  have HLVA := Lib.hid hlva
  have HLVB := Lib.hid hlvb
  clear hva hvb hlva hlvb
  go_enter Try.func31, Try.ntmps31
  go_wp2_with fail
  refine (Runes_any a w ha).mono ?_
  rintro e w1 ⟨v1, rfl, hown1, hb1⟩
  go_wp2_with fail
  refine (Runes_any b w1 hb).mono ?_
  rintro e w2 ⟨v2, rfl, hown2, hb2⟩
  go_wp2_with fail
  refine (rCount_any a w2 ha).mono ?_
  rintro e w3 ⟨rfl, hb3⟩
  go_wp2_with fail
  refine (rCount_any b w3 hb).mono ?_
  rintro e w4 ⟨rfl, hb4⟩
  rw [HSA.out, HSB.out]
  obtain ⟨A1, c1, rfl, hnc1, hcm1, hrd1⟩ := own_form hown1
  obtain ⟨A2, c2, rfl, hnc2, hcm2, hrd2⟩ := own_form hown2
  have hb24 := hb3.trans (hb4.mono hb3.size)
  have hb14 := hb2.trans (hb24.mono hb2.size)
  have hb04 := hb1.trans (hb14.mono hb1.size)
  have hr1 := (hrd1.below hb14).more hb14.size
  have hr2 := (hrd2.below hb24).more hb24.size
  clear hown1 hown2 hrd1 hrd2 hb1 hb2 hb3 hb4 hb24 hb14
  generalize hn1 : (runes (oc a)).length = n1 at *
  generalize hn2 : (runes (oc b)).length = n2 at *
  have HN1 := Lib.hid hn1
  have HN2 := Lib.hid hn2
  clear hn1 hn2
  go_wp2
  go_loopw [11, 13] (fun v i wr => ∃ k : Nat, k ≤ n1 ∧ i = .int .i64 k ∧ wr.ownsRow w4.heap.size 3 1 v k (intsV (va.take k)) ∧ Below w4.heap.size w4 wr) (fun _ i _ => n1 - (intOf i).toNat)
  case atStart => exact ⟨0, Nat.zero_le _, rfl, World.ownsRow_nil _ _ _ _, Below.refl _ _⟩
  case round =>
    obtain ⟨k, hk, rfl, hown, hbw⟩ := hrel
    by_cases hlt : k < n1
    · obtain ⟨g, o, r, rfl, hg, hr, c0, _, _⟩ := rune_at (hr1.below hbw) hlt
      have hvg := take_snoc va k r.v (by rw [← HVA.out, List.getElem?_map, hr]; rfl)
      have HV := Lib.hid hvg
      clear hvg hr hr1
      go_wp2_with (at_builtin; refine wpList_append_own _ rfl (.tmp 38) (.tmp 44) 79 rfl w4.heap.size 3 i0 _ 1 8 Try.underlying79 hi hz0 hz1 hz2 rfl (by decide) _ _ _ rfl (hown.alloc _) ⟨wr.heap.size, 0, none⟩ 1 1 [.int .i64 r.v] rfl rfl (fun j u hj => new_cells wr _ _ _ rfl j u hj) (one_cell rfl) (by unfold maxLen; omega) (by omega) (base_alloc hbw.size _) ?_)
      · intro v' w' hown' hgrow _
        have hbw' := (hbw.alloc hbw.size _).grown hgrow (by have := hbw.size; simp; omega) (fun k hk => (hown.lt k hk).1)
        have e3 : intsV (va.take k) ++ [.int .i64 r.v] = intsV (va.take (k + 1)) := by rw [HV.out, intsV_snoc]
        rw [e3] at hown'
        clear e3 hown hgrow hbw
        go_wp2
        go_roundw
        case rel => exact ⟨k + 1, by omega, by go_num, hown', hbw'⟩
        case measure => simp [intOf]; omega
    · have hkn : k = n1 := by omega
      subst hkn
      have e : va.take k = va := List.take_of_length_le (by rw [HLVA.out]; exact Nat.le_refl _)
      rw [e] at hown
      clear e
      obtain ⟨A3, c3, rfl, hnc3, hcm3, hrd3⟩ := own_form hown
      have hb0 := hb04.trans (hbw.mono hb04.size)
      have hr2' := (hr2.below hbw).more hbw.size
      clear hown hr1 hr2 hb04 hbw
      obtain ⟨w5, rfl⟩ : ∃ w5 : World, w5 = wr := ⟨_, rfl⟩
      go_wp2
      go_loopw [12, 14] (fun v i wr => ∃ k : Nat, k ≤ n2 ∧ i = .int .i64 k ∧ wr.ownsRow w5.heap.size 3 1 v k (intsV (vb.take k)) ∧ Below w5.heap.size w5 wr) (fun _ i _ => n2 - (intOf i).toNat)
      case atStart => exact ⟨0, Nat.zero_le _, rfl, World.ownsRow_nil _ _ _ _, Below.refl _ _⟩
      case round =>
        obtain ⟨j, hj, rfl, hown, hbw⟩ := hrel
        by_cases hlt : j < n2
        · obtain ⟨g, o, r, rfl, hg, hr, c0, _, _⟩ := rune_at (hr2'.below hbw) hlt
          have hvg := take_snoc vb j r.v (by rw [← HVB.out, List.getElem?_map, hr]; rfl)
          have HV := Lib.hid hvg
          clear hvg hr hr2'
          go_wp2_with (at_builtin; refine wpList_append_own _ rfl (.tmp 52) (.tmp 58) 79 rfl w5.heap.size 3 i0 _ 1 8 Try.underlying79 hi hz0 hz1 hz2 rfl (by decide) _ _ _ rfl (hown.alloc _) ⟨wr.heap.size, 0, none⟩ 1 1 [.int .i64 r.v] rfl rfl (fun j u hj => new_cells wr _ _ _ rfl j u hj) (one_cell rfl) (by unfold maxLen; omega) (by omega) (base_alloc hbw.size _) ?_)
          · intro v' w' hown' hgrow _
            have hbw' := (hbw.alloc hbw.size _).grown hgrow (by have := hbw.size; simp; omega) (fun k hk => (hown.lt k hk).1)
            have e3 : intsV (vb.take j) ++ [.int .i64 r.v] = intsV (vb.take (j + 1)) := by rw [HV.out, intsV_snoc]
            rw [e3] at hown'
            clear e3 hown hgrow hbw
            go_wp2
            go_roundw
            case rel => exact ⟨j + 1, by omega, by go_num, hown', hbw'⟩
            case measure => simp [intOf]; omega
        · have hjn : j = n2 := by omega
          subst hjn
          have e : vb.take j = vb := List.take_of_length_le (by rw [HLVB.out]; exact Nat.le_refl _)
          rw [e] at hown
          clear e
          obtain ⟨A4, c4, rfl, hnc4, hcm4, hrd4⟩ := own_form hown
          have hb9 := hb0.trans (hbw.mono hb0.size)
          have hrd3' := (hrd3.below hbw).more hbw.size
          clear hown hr2' hrd3 hb0 hbw
          obtain ⟨w6, rfl⟩ : ∃ w6 : World, w6 = wr := ⟨_, rfl⟩
          go_wp2
          go_loopw [17] (fun i wr => ∃ m : Nat, m ≤ k ∧ m ≤ j ∧ i = .int .i64 m ∧ cmpZ va vb = cmpZ (va.drop m) (vb.drop m) ∧ Below w6.heap.size w6 wr) (fun i _ => k - (intOf i).toNat)
          case atStart => exact ⟨0, Nat.zero_le _, Nat.zero_le _, rfl, rfl, Below.refl _ _⟩
          case round =>
            obtain ⟨m, hm1, hm2, rfl, hcz, hbw⟩ := hrel
            have HCZ := Lib.hid hcz
            clear hcz
            by_cases hlt : m < k ∧ m < j
            · obtain ⟨hl1, hl2⟩ := hlt
              obtain ⟨g1, o1, x, rfl, hg1, hx, cx⟩ := int_at (hrd3'.below hbw) hl1
              obtain ⟨g2, o2, y, rfl, hg2, hy, cy⟩ := int_at (hrd4.below hbw) hl2
              have hcd := cmpZ_drop va vb m x y hx hy
              have HCD := Lib.hid hcd
              clear hcd hx hy hrd3' hrd4
              have hi1 : (m : Int) < (k : Int) := by omega
              have hi2 : (m : Int) < (j : Int) := by omega
              have hi0 : (0 : Int) ≤ (m : Int) := by omega
              rcases Int.lt_trichotomy x y with hxy | hxy | hxy
              · have hres : cmpZ va vb = -1 := by rw [HCZ.out, HCD.out, if_pos hxy]
                have HRES := Lib.hid hres
                clear hres
                go_wp2
                go_quiet (fail)
                go_wp2
                go_ret
                refine ⟨ret_int HRES.out.symm, hb9.trans (Below.mono (B := w6.heap.size) ?_ hb9.size)⟩; first | exact below_drewN (below_drewN hbw _) _ | exact below_drewN hbw _
              · subst hxy
                have hres : cmpZ va vb = cmpZ (va.drop (m + 1)) (vb.drop (m + 1)) := by rw [HCZ.out, HCD.out, if_neg (by omega), if_neg (by omega)]
                have HRES := Lib.hid hres
                clear hres
                go_wp2
                go_quiet (fail)
                go_wp2
                go_quiet (fail)
                go_wp2
                go_roundw
                case rel => exact ⟨m + 1, by omega, by omega, by go_num, HRES.out, below_drewN hbw _⟩
                case measure => simp [intOf]; omega
              · have hres : cmpZ va vb = 1 := by rw [HCZ.out, HCD.out, if_neg (by omega), if_pos hxy]
                have HRES := Lib.hid hres
                clear hres
                go_wp2
                go_quiet (fail)
                go_wp2
                go_quiet (fail)
                go_wp2
                go_ret
                refine ⟨ret_int HRES.out.symm, hb9.trans (Below.mono (B := w6.heap.size) ?_ hb9.size)⟩; first | exact below_drewN (below_drewN hbw _) _ | exact below_drewN hbw _
            · have hce := cmpZ_end va vb m (by rw [HLVA.out, HLVB.out]; omega) (by rw [HLVA.out, HLVB.out]; omega)
              rw [HLVA.out, HLVB.out, ← HCZ.out] at hce
              have HCE := Lib.hid hce
              clear hce
              have hbf := hb9.trans (hbw.mono hb9.size)
              by_cases q1 : m < k
              · have q2 : ¬ m < j := by omega
                have q3 : ¬ k < j := by omega
                have q4 : j < k := by omega
                go_wp2
                go_ret
                exact ⟨ret_int (by rw [HCE.out, if_neg q3, if_pos q4]), hbf⟩
              · by_cases q2 : k < j
                · go_wp2
                  go_ret
                  exact ⟨ret_int (by rw [HCE.out, if_pos q2]), hbf⟩
                · by_cases q3 : j < k
                  · omega
                  · go_wp2
                    go_ret
                    exact ⟨ret_int (by rw [HCE.out, if_neg q2, if_neg q3]), hbf⟩
set_option maxHeartbeats 4000000 in
set_option maxRecDepth 100000 in
theorem rOrder_bytes (a b : ByteArray) (w : World) (ha : a.size ≤ 1000000) (hb : b.size ≤ 1000000) (hst : 0 < strays (oc a) + strays (oc b)) :
    Calls Try.prog 31 #[.string a, .string b] w fun e w' => e = .returned (.int .i64 (cmpZ ((oc a).map fun c => (c.toNat : Int)) ((oc b).map fun c => (c.toNat : Int)))) ∧ Below w.heap.size w w' := by
  obtain ⟨i0, hi, hz0, hz1, hz2⟩ := info_parts Try.info3
  have hla := runes_len_le (oc a)
  have hlb := runes_len_le (oc b)
  rw [oc_len] at hla hlb
  have hsa : strays (oc a) ≤ (runes (oc a)).length := List.length_filter_le _ _
  have hsb : strays (oc b) ≤ (runes (oc b)).length := List.length_filter_le _ _
  generalize hsa' : strays (oc a) = sa at *
  generalize hsb' : strays (oc b) = sb at *
  have hst' : (0 : Int) < (sa : Int) + (sb : Int) := by omega
  have HSA := Lib.hid hsa'
  have HSB := Lib.hid hsb'
  clear hsa' hsb'
  generalize hba : (oc a).map (fun c => (c.toNat : Int)) = ba at *
  generalize hbb : (oc b).map (fun c => (c.toNat : Int)) = bb at *
  have hlba : ba.length = a.size := by rw [← hba, List.length_map, oc_len]
  have hlbb : bb.length = b.size := by rw [← hbb, List.length_map, oc_len]
  have HBA := Lib.hid hba
  have HBB := Lib.hid hbb
  have HLBA := Lib.hid hlba
  have HLBB := Lib.hid hlbb
  clear hba hbb hlba hlbb
  generalize hva : (runes (oc a)).map (·.v) = va at *
  generalize hvb : (runes (oc b)).map (·.v) = vb at *
  have hlva : va.length = (runes (oc a)).length := by rw [← hva]; simp
  have hlvb : vb.length = (runes (oc b)).length := by rw [← hvb]; simp
  have HVA := Lib.hid hva
  have HVB := Lib.hid hvb
  have HLVA := Lib.hid hlva
  have HLVB := Lib.hid hlvb
  clear hva hvb hlva hlvb
  go_enter Try.func31, Try.ntmps31
  go_wp2_with fail
  refine (Runes_any a w ha).mono ?_
  rintro e w1 ⟨v1, rfl, hown1, hb1⟩
  go_wp2_with fail
  refine (Runes_any b w1 hb).mono ?_
  rintro e w2 ⟨v2, rfl, hown2, hb2⟩
  go_wp2_with fail
  refine (rCount_any a w2 ha).mono ?_
  rintro e w3 ⟨rfl, hb3⟩
  go_wp2_with fail
  refine (rCount_any b w3 hb).mono ?_
  rintro e w4 ⟨rfl, hb4⟩
  rw [HSA.out, HSB.out]
  obtain ⟨A1, c1, rfl, hnc1, hcm1, hrd1⟩ := own_form hown1
  obtain ⟨A2, c2, rfl, hnc2, hcm2, hrd2⟩ := own_form hown2
  have hb24 := hb3.trans (hb4.mono hb3.size)
  have hb14 := hb2.trans (hb24.mono hb2.size)
  have hb04 := hb1.trans (hb14.mono hb1.size)
  have hr1 := (hrd1.below hb14).more hb14.size
  have hr2 := (hrd2.below hb24).more hb24.size
  clear hown1 hown2 hrd1 hrd2 hb1 hb2 hb3 hb4 hb24 hb14
  generalize hn1 : (runes (oc a)).length = n1 at *
  generalize hn2 : (runes (oc b)).length = n2 at *
  have HN1 := Lib.hid hn1
  have HN2 := Lib.hid hn2
  clear hn1 hn2
  go_wp2
  go_loopw [11, 13] (fun v i wr => ∃ k : Nat, k ≤ n1 ∧ i = .int .i64 k ∧ wr.ownsRow w4.heap.size 3 1 v k (intsV (va.take k)) ∧ Below w4.heap.size w4 wr) (fun _ i _ => n1 - (intOf i).toNat)
  case atStart => exact ⟨0, Nat.zero_le _, rfl, World.ownsRow_nil _ _ _ _, Below.refl _ _⟩
  case round =>
    obtain ⟨k, hk, rfl, hown, hbw⟩ := hrel
    by_cases hlt : k < n1
    · obtain ⟨g, o, r, rfl, hg, hr, c0, _, _⟩ := rune_at (hr1.below hbw) hlt
      have hvg := take_snoc va k r.v (by rw [← HVA.out, List.getElem?_map, hr]; rfl)
      have HV := Lib.hid hvg
      clear hvg hr hr1
      go_wp2_with (at_builtin; refine wpList_append_own _ rfl (.tmp 38) (.tmp 44) 79 rfl w4.heap.size 3 i0 _ 1 8 Try.underlying79 hi hz0 hz1 hz2 rfl (by decide) _ _ _ rfl (hown.alloc _) ⟨wr.heap.size, 0, none⟩ 1 1 [.int .i64 r.v] rfl rfl (fun j u hj => new_cells wr _ _ _ rfl j u hj) (one_cell rfl) (by unfold maxLen; omega) (by omega) (base_alloc hbw.size _) ?_)
      · intro v' w' hown' hgrow _
        have hbw' := (hbw.alloc hbw.size _).grown hgrow (by have := hbw.size; simp; omega) (fun k hk => (hown.lt k hk).1)
        have e3 : intsV (va.take k) ++ [.int .i64 r.v] = intsV (va.take (k + 1)) := by rw [HV.out, intsV_snoc]
        rw [e3] at hown'
        clear e3 hown hgrow hbw
        go_wp2
        go_roundw
        case rel => exact ⟨k + 1, by omega, by go_num, hown', hbw'⟩
        case measure => simp [intOf]; omega
    · have hkn : k = n1 := by omega
      subst hkn
      have e : va.take k = va := List.take_of_length_le (by rw [HLVA.out]; exact Nat.le_refl _)
      rw [e] at hown
      clear e
      obtain ⟨A3, c3, rfl, _, _, _⟩ := own_form hown
      have hb0 := hb04.trans (hbw.mono hb04.size)
      have hr2' := (hr2.below hbw).more hbw.size
      clear hown hr1 hr2 hb04 hbw
      obtain ⟨w5, rfl⟩ : ∃ w5 : World, w5 = wr := ⟨_, rfl⟩
      go_wp2
      go_loopw [12, 14] (fun v i wr => ∃ k : Nat, k ≤ n2 ∧ i = .int .i64 k ∧ wr.ownsRow w5.heap.size 3 1 v k (intsV (vb.take k)) ∧ Below w5.heap.size w5 wr) (fun _ i _ => n2 - (intOf i).toNat)
      case atStart => exact ⟨0, Nat.zero_le _, rfl, World.ownsRow_nil _ _ _ _, Below.refl _ _⟩
      case round =>
        obtain ⟨j, hj, rfl, hown, hbw⟩ := hrel
        by_cases hlt : j < n2
        · obtain ⟨g, o, r, rfl, hg, hr, c0, _, _⟩ := rune_at (hr2'.below hbw) hlt
          have hvg := take_snoc vb j r.v (by rw [← HVB.out, List.getElem?_map, hr]; rfl)
          have HV := Lib.hid hvg
          clear hvg hr hr2'
          go_wp2_with (at_builtin; refine wpList_append_own _ rfl (.tmp 52) (.tmp 58) 79 rfl w5.heap.size 3 i0 _ 1 8 Try.underlying79 hi hz0 hz1 hz2 rfl (by decide) _ _ _ rfl (hown.alloc _) ⟨wr.heap.size, 0, none⟩ 1 1 [.int .i64 r.v] rfl rfl (fun j u hj => new_cells wr _ _ _ rfl j u hj) (one_cell rfl) (by unfold maxLen; omega) (by omega) (base_alloc hbw.size _) ?_)
          · intro v' w' hown' hgrow _
            have hbw' := (hbw.alloc hbw.size _).grown hgrow (by have := hbw.size; simp; omega) (fun k hk => (hown.lt k hk).1)
            have e3 : intsV (vb.take j) ++ [.int .i64 r.v] = intsV (vb.take (j + 1)) := by rw [HV.out, intsV_snoc]
            rw [e3] at hown'
            clear e3 hown hgrow hbw
            go_wp2
            go_roundw
            case rel => exact ⟨j + 1, by omega, by go_num, hown', hbw'⟩
            case measure => simp [intOf]; omega
        · have hjn : j = n2 := by omega
          subst hjn
          have e : vb.take j = vb := List.take_of_length_le (by rw [HLVB.out]; exact Nat.le_refl _)
          rw [e] at hown
          clear e
          obtain ⟨A4, c4, rfl, _, _, _⟩ := own_form hown
          have hb9 := hb0.trans (hbw.mono hb0.size)
          clear hown hr2' hb0 hbw
          obtain ⟨w7, rfl⟩ : ∃ w7 : World, w7 = wr := ⟨_, rfl⟩
          go_wp2
          go_loopw [11, 15] (fun v i wr => ∃ k : Nat, k ≤ a.size ∧ i = .int .i64 k ∧ wr.ownsRow w7.heap.size 3 1 v k (intsV (ba.take k)) ∧ Below w7.heap.size w7 wr) (fun _ i _ => a.size - (intOf i).toNat)
          case atStart => exact ⟨0, Nat.zero_le _, rfl, World.ownsRow_nil _ _ _ _, Below.refl _ _⟩
          case round =>
            obtain ⟨p, ple, rfl, hown, hbw⟩ := hrel
            by_cases hlt : p < a.size
            · obtain ⟨x, hx⟩ : ∃ x, (a[p]'hlt).toNat = x := ⟨_, rfl⟩
              have hvg := take_snoc ba p (x : Int) (by
                rw [← HBA.out, List.getElem?_map, List.getElem?_eq_getElem (by rw [oc_len]; exact hlt), ← hx]; rfl)
              have hx8 : x < 256 := by rw [← hx]; exact UInt8.toNat_lt _
              have HV := Lib.hid hvg
              clear hvg
              go_wp2_with (at_builtin; refine wpList_append_own _ rfl (.tmp 70) (.tmp 75) 79 rfl w7.heap.size 3 i0 _ 1 8 Try.underlying79 hi hz0 hz1 hz2 rfl (by decide) _ _ _ rfl (hown.alloc _) ⟨wr.heap.size, 0, none⟩ 1 1 [.int .i64 (x : Int)] rfl rfl (fun j u hj => new_cells wr _ _ _ rfl j u hj) (one_cell rfl) (by unfold maxLen; omega) (by omega) (base_alloc hbw.size _) ?_)
              · intro v' w' hown' hgrow _
                have hbw' := (hbw.alloc hbw.size _).grown hgrow (by have := hbw.size; simp; omega) (fun k hk => (hown.lt k hk).1)
                have e3 : intsV (ba.take p) ++ [.int .i64 (x : Int)] = intsV (ba.take (p + 1)) := by rw [HV.out, intsV_snoc]
                rw [e3] at hown'
                clear e3 hown hgrow hbw
                go_wp2
                go_roundw
                case rel => exact ⟨p + 1, by omega, by go_num, hown', hbw'⟩
                case measure => simp [intOf]; omega
            · have hkn : p = a.size := by omega
              have e : ba.take p = ba := List.take_of_length_le (by rw [HLBA.out]; omega)
              rw [e] at hown
              clear e
              have HKNp := Lib.hid hkn
              obtain ⟨A5, c5, rfl, hnc5, hcm5, hrd5⟩ := own_form hown
              have hb10 := hb9.trans (hbw.mono hb9.size)
              clear hown hb9 hbw hkn
              obtain ⟨w8, rfl⟩ : ∃ w8 : World, w8 = wr := ⟨_, rfl⟩
              go_wp2
              go_loopw [12, 16] (fun v i wr => ∃ k : Nat, k ≤ b.size ∧ i = .int .i64 k ∧ wr.ownsRow w8.heap.size 3 1 v k (intsV (bb.take k)) ∧ Below w8.heap.size w8 wr) (fun _ i _ => b.size - (intOf i).toNat)
              case atStart => exact ⟨0, Nat.zero_le _, rfl, World.ownsRow_nil _ _ _ _, Below.refl _ _⟩
              case round =>
                obtain ⟨q, qle, rfl, hown, hbw⟩ := hrel
                by_cases hlt : q < b.size
                · obtain ⟨x, hx⟩ : ∃ x, (b[q]'hlt).toNat = x := ⟨_, rfl⟩
                  have hvg := take_snoc bb q (x : Int) (by
                    rw [← HBB.out, List.getElem?_map, List.getElem?_eq_getElem (by rw [oc_len]; exact hlt), ← hx]; rfl)
                  have hx8 : x < 256 := by rw [← hx]; exact UInt8.toNat_lt _
                  have HV := Lib.hid hvg
                  clear hvg
                  go_wp2_with (at_builtin; refine wpList_append_own _ rfl (.tmp 83) (.tmp 88) 79 rfl w8.heap.size 3 i0 _ 1 8 Try.underlying79 hi hz0 hz1 hz2 rfl (by decide) _ _ _ rfl (hown.alloc _) ⟨wr.heap.size, 0, none⟩ 1 1 [.int .i64 (x : Int)] rfl rfl (fun j u hj => new_cells wr _ _ _ rfl j u hj) (one_cell rfl) (by unfold maxLen; omega) (by omega) (base_alloc hbw.size _) ?_)
                  · intro v' w' hown' hgrow _
                    have hbw' := (hbw.alloc hbw.size _).grown hgrow (by have := hbw.size; simp; omega) (fun k hk => (hown.lt k hk).1)
                    have e3 : intsV (bb.take q) ++ [.int .i64 (x : Int)] = intsV (bb.take (q + 1)) := by rw [HV.out, intsV_snoc]
                    rw [e3] at hown'
                    clear e3 hown hgrow hbw
                    go_wp2
                    go_roundw
                    case rel => exact ⟨q + 1, by omega, by go_num, hown', hbw'⟩
                    case measure => simp [intOf]; omega
                · have hkn : q = b.size := by omega
                  have e : bb.take q = bb := List.take_of_length_le (by rw [HLBB.out]; omega)
                  rw [e] at hown
                  clear e
                  have HKNq := Lib.hid hkn
                  obtain ⟨A6, c6, rfl, hnc6, hcm6, hrd6⟩ := own_form hown
                  have hb11 := hb10.trans (hbw.mono hb10.size)
                  have hrd5' := (hrd5.below hbw).more hbw.size
                  clear hown hb10 hrd5 hbw hkn
                  have hpl : p ≤ 1000000 := by rw [HKNp.out]; exact ha
                  have hql : q ≤ 1000000 := by rw [HKNq.out]; exact hb
                  obtain ⟨w9, rfl⟩ : ∃ w9 : World, w9 = wr := ⟨_, rfl⟩
                  go_wp2
                  go_loopw [17] (fun i wr => ∃ m : Nat, m ≤ p ∧ m ≤ q ∧ i = .int .i64 m ∧ cmpZ ba bb = cmpZ (ba.drop m) (bb.drop m) ∧ Below w9.heap.size w9 wr) (fun i _ => p - (intOf i).toNat)
                  case atStart => exact ⟨0, Nat.zero_le _, Nat.zero_le _, rfl, rfl, Below.refl _ _⟩
                  case round =>
                    obtain ⟨m, hm1, hm2, rfl, hcz, hbw⟩ := hrel
                    have HCZ := Lib.hid hcz
                    clear hcz
                    by_cases hlt : m < p ∧ m < q
                    · obtain ⟨hl1, hl2⟩ := hlt
                      obtain ⟨g1, o1, x, rfl, hg1, hx, cx⟩ := int_at (hrd5'.below hbw) hl1
                      obtain ⟨g2, o2, y, rfl, hg2, hy, cy⟩ := int_at (hrd6.below hbw) hl2
                      have hcd := cmpZ_drop ba bb m x y hx hy
                      have HCD := Lib.hid hcd
                      clear hcd hx hy hrd5' hrd6
                      have hi1 : (m : Int) < (p : Int) := by omega
                      have hi2 : (m : Int) < (q : Int) := by omega
                      have hi0 : (0 : Int) ≤ (m : Int) := by omega
                      rcases Int.lt_trichotomy x y with hxy | hxy | hxy
                      · have hres : cmpZ ba bb = -1 := by rw [HCZ.out, HCD.out, if_pos hxy]
                        have HRES := Lib.hid hres
                        clear hres
                        go_wp2
                        go_quiet (fail)
                        go_wp2
                        go_ret
                        refine ⟨ret_int HRES.out.symm, hb11.trans (Below.mono (B := w9.heap.size) ?_ hb11.size)⟩; first | exact below_drewN (below_drewN hbw _) _ | exact below_drewN hbw _
                      · subst hxy
                        have hres : cmpZ ba bb = cmpZ (ba.drop (m + 1)) (bb.drop (m + 1)) := by rw [HCZ.out, HCD.out, if_neg (by omega), if_neg (by omega)]
                        have HRES := Lib.hid hres
                        clear hres
                        go_wp2
                        go_quiet (fail)
                        go_wp2
                        go_quiet (fail)
                        go_wp2
                        go_roundw
                        case rel => exact ⟨m + 1, by omega, by omega, by go_num, HRES.out, below_drewN hbw _⟩
                        case measure => simp [intOf]; omega
                      · have hres : cmpZ ba bb = 1 := by rw [HCZ.out, HCD.out, if_neg (by omega), if_pos hxy]
                        have HRES := Lib.hid hres
                        clear hres
                        go_wp2
                        go_quiet (fail)
                        go_wp2
                        go_quiet (fail)
                        go_wp2
                        go_ret
                        refine ⟨ret_int HRES.out.symm, hb11.trans (Below.mono (B := w9.heap.size) ?_ hb11.size)⟩; first | exact below_drewN (below_drewN hbw _) _ | exact below_drewN hbw _
                    · have hce := cmpZ_end ba bb m (by rw [HLBA.out, HLBB.out, ← HKNp.out, ← HKNq.out]; omega) (by rw [HLBA.out, HLBB.out, ← HKNp.out, ← HKNq.out]; omega)
                      rw [HLBA.out, HLBB.out, ← HKNp.out, ← HKNq.out, ← HCZ.out] at hce
                      have HCE := Lib.hid hce
                      clear hce
                      have hbf := hb11.trans (hbw.mono hb11.size)
                      by_cases q1 : m < p
                      · have q2 : ¬ m < q := by omega
                        have q3 : ¬ p < q := by omega
                        have q4 : q < p := by omega
                        go_wp2
                        go_ret
                        exact ⟨ret_int (by rw [HCE.out, if_neg q3, if_pos q4]), hbf⟩
                      · by_cases q2 : p < q
                        · go_wp2
                          go_ret
                          exact ⟨ret_int (by rw [HCE.out, if_pos q2]), hbf⟩
                        · by_cases q3 : q < p
                          · omega
                          · go_wp2
                            go_ret
                            exact ⟨ret_int (by rw [HCE.out, if_neg q2, if_neg q3]), hbf⟩

theorem rOrder_any (a b : ByteArray) (w : World) (ha : a.size ≤ 1000000) (hb : b.size ≤ 1000000) :
    Calls Try.prog 31 #[.string a, .string b] w fun e w' => e = .returned (.int .i64 (cmpL (oc a) (oc b))) ∧ Below w.heap.size w w' := by
  have h := refOrder_is (oc a) (oc b)
  rw [← h]
  unfold refOrder
  by_cases hst : 0 < strays (oc a) + strays (oc b)
  · rw [if_pos hst]; exact rOrder_bytes a b w ha hb hst
  · rw [if_neg hst]; exact rOrder_runes a b w ha hb hst
end Go.Proofs.Ytpjghildhhpeeaa
