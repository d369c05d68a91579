/-
  Walks: a text cut at each / .
-/
import Derived.Test.YtofbgebgneinaaaDoorPathG
import Derived.Test.YtofbgebgneinaaaDoorTitleG
import Derived.BigRegion
namespace Go.Proofs.YtofbgebgneinaaaDoor
open Go.RowKit Go.Shelf
set_option linter.unusedVariables false

theorem strV_set (l : List (List UInt8)) (m : Nat) (x : List UInt8) (h : l.length = m + 1) : (strV l).set m (.string (st x)) = strV (l.dropLast ++ [x]) := by
  have e : l = l.dropLast ++ [l.getLast (fun e => by rw [e] at h; simp at h)] := (List.dropLast_concat_getLast _).symm
  have hd : (strV l.dropLast).length = m := by rw [strV_len, List.length_dropLast, h]; rfl
  rw [strV_snoc]
  rw [show strV l = strV l.dropLast ++ [.string (st (l.getLast (fun e => by rw [e] at h; simp at h)))] from by rw [← strV_snoc, ← e]]
  rw [List.set_append, if_neg (by rw [hd]; omega), hd, Nat.sub_self]
  rfl
theorem wrap_id {x : Int} (h1 : -9223372036854775808 ≤ x) (h2 : x ≤ 9223372036854775807) : IntKind.i64.wrap x = x := by
  simp [IntKind.wrap, IntKind.bits, IntKind.signed]
  omega

set_option maxHeartbeats 4000000 in
set_option maxRecDepth 100000 in
theorem Cut_any (s : ByteArray) (w : World) (hs : s.size ≤ 1000000) :
    Calls Tryd.prog 22 #[.string s] w fun e w' => (∃ v, e = .returned v ∧ OwnS w w' v (splitB (oc s))) ∧ Below w.heap.size w w' := by
  obtain ⟨i0, hi, hz0, hz1, hz2⟩ := info_parts (P := Tryd.prog) (e := 9) (z := .string ByteArray.empty) (size := 1) (bytes := 16) (by kernel_rfl)
  have hlen : ∀ k, k ≤ s.size → (splitB ((oc s).take k)).length ≤ k + 1 := by
    intro k
    induction k with
    | zero => intro _; simp [splitB]
    | succ k ih =>
      intro hk
      rw [oc_take_snoc s k (by omega), split_snoc]
      have := ih (by omega)
      split
      · simp; omega
      · have hne := List.length_pos_iff.2 (splitB_ne ((oc s).take k))
        simp; omega
  have HLEN := Lib.hid hlen
  clear hlen
  go_enter Tryd.func22, Tryd.ntmps22
  go_wp2
  go_loopw [3, 4] (fun v i wr => ∃ k : Nat, k ≤ s.size ∧ i = .int .i64 k ∧ wr.ownsRow w.heap.size 9 1 v (splitB ((oc s).take k)).length (strV (splitB ((oc s).take k))) ∧ Below w.heap.size w wr) (fun _ i _ => s.size - (intOf i).toNat)
  case atStart => exact ⟨0, Nat.zero_le _, rfl, (OwnB.lit w w.heap.size (Nat.le_refl _) 9 1 1 #[.string ⟨#[]⟩] (by simp) (by simp [maxLen])).own, (Below.refl _ _).alloc (Nat.le_refl _) _⟩
  case round =>
    obtain ⟨k, hk, rfl, hown, hbw⟩ := hrel
    by_cases hlt : k < s.size
    · have hsn := split_snoc ((oc s).take k) (s[k]'hlt)
      rw [← oc_take_snoc s k hlt] at hsn
      have hl := HLEN.out k hk
      obtain ⟨L, hL⟩ : ∃ L, splitB ((oc s).take k) = L := ⟨_, rfl⟩
      have hne := splitB_ne ((oc s).take k)
      simp only [hL] at hsn hl hown hne
      obtain ⟨m, hm⟩ : ∃ m, L.length = m + 1 := ⟨L.length - 1, by have := List.length_pos_iff.2 hne; omega⟩
      obtain ⟨x, hx⟩ : ∃ x, (s[k]'hlt).toNat = x := ⟨_, rfl⟩
      have hx256 : x < 256 := by rw [← hx]; exact UInt8.toNat_lt _
      by_cases hc : s[k]'hlt = 47
      · rw [if_pos hc] at hsn
        have hx47 : x = 47 := by rw [← hx, hc]; rfl
        subst hx47
        rw [hm] at hown hl
        have HSN := Lib.hid hsn
        have HM := Lib.hid hm
        clear hsn hm hne hL hc
        go_wp2_with (at_builtin; refine wpList_append_own _ rfl (.tmp 16) (.tmp 17) 23 rfl w.heap.size 9 i0 _ 1 16 Tryd.underlying23 hi hz0 hz1 hz2 rfl (by decide) _ _ _ rfl (hown.alloc _) ⟨wr.heap.size, 0, none⟩ 1 1 [.string ⟨#[]⟩] (by rfl) (by rfl) (fun j u hj => new_cells wr _ _ _ rfl j u hj) (one_cell rfl) (by unfold maxLen; omega) (by omega) (base_alloc hbw.size _) ?_)
        intro v' w' hown' hgrow _
        have hbw' : Below w.heap.size w w' := (hbw.alloc hbw.size _).grown hgrow (base_alloc hbw.size _) (fun k hk => (hown.lt k hk).1)
        have HO : Hid (w'.ownsRow w.heap.size 9 1 v' (splitB ((oc s).take (k + 1))).length (strV (splitB ((oc s).take (k + 1))))) := Lib.hid (by
          rw [HSN.out, List.length_append, HM.out, strV_snoc]; exact hown')
        clear hown' hown hgrow
        go_wp2
        go_roundw
        case rel => exact ⟨k + 1, by omega, by go_num, HO.out, hbw'⟩
        case measure => simp [intOf]; omega
      · rw [if_neg hc] at hsn
        have hx47 : ¬ x = 47 := fun h => hc (UInt8.toNat_inj.1 (by rw [hx, h]; rfl))
        obtain ⟨g, cap, rfl, hB⟩ := own_pos hown (by omega)
        rw [hm] at hB ⊢
        have hcell := hB.cell m (by omega)
        have hgl : (strV L)[m]? = some (.string (st (L.getLast hne))) := by
          unfold strV
          rw [List.getElem?_map, List.getLast_eq_getElem, List.getElem?_eq_getElem (by omega)]
          simp [hm]
        rw [hgl] at hcell
        have hfz := hB.frozen m
        have hyl : (L.getLast hne).length ≤ k := by
          have := piece_len ((oc s).take k) (L.getLast hne) (by rw [hL]; exact List.getLast_mem hne)
          rw [List.length_take] at this; omega
        obtain ⟨y, hy⟩ : ∃ y, L.getLast hne = y := ⟨_, rfl⟩
        rw [hy] at hyl
        have hys : (st y).size = y.length := by rw [← oc_len, oc_st]
        have hnb : ¬ (9223372036854775807 < (st y).size + (min (k + 1) s.size - k)) := by rw [hys]; omega
        clear hys
        rw [hy] at hcell hsn
        have hset := hB.set_ m (.string (st (y ++ [s[k]'hlt])))
        rw [strV_set L m _ hm] at hset
        have hbase := hB.base_
        have hex : s.extract k (k + 1) = st [s[k]'hlt] := oc_inj (by
          rw [oc_extract, oc_take_snoc s k hlt, oc_st]
          rw [List.drop_append_of_le_length (by rw [List.length_take, oc_len]; omega)]
          rw [List.drop_of_length_le (by rw [List.length_take, oc_len]; omega)]; rfl)
        have hcat : st y ++ s.extract k (k + 1) = st (y ++ [s[k]'hlt]) := by rw [hex, st_append]
        have HS := Lib.hid hset
        have HSN := Lib.hid hsn
        have HM := Lib.hid hm
        have HCAT := Lib.hid hcat
        have i1 : (m : Int) < (m : Int) + 1 := by omega
        have i2 : (k : Int) < (s.size : Int) := by omega
        have i3 : (k : Int) + 1 ≤ (s.size : Int) := by omega
        have j1 : IntKind.i64.wrap (m : Int) = (m : Int) := wrap_id (by omega) (by omega)
        have j2 : IntKind.i64.wrap ((k : Int) + 1) = (k : Int) + 1 := wrap_id (by omega) (by omega)
        have j3 : (0 : Int) ≤ (m : Int) := by omega
        have j4 : (0 : Int) ≤ (k : Int) := by omega
        have j5 : (k : Int) ≤ (k : Int) + 1 := by omega
        clear hset hsn hm hcat hB hown hgl hy hne hL hc hex
        go_wp2
        go_region
        go_wp2
        rw [HCAT.out]
        have ho := (HS.out.drewN 1).own
        have hl2 : (splitB ((oc s).take (k + 1))).length = m + 1 := by rw [HSN.out, List.length_append, List.length_dropLast, HM.out]; rfl
        go_roundw
        case rel => exact ⟨k + 1, by omega, by go_num, by rw [hl2, HSN.out]; exact ho, below_drewN (hbw.setCell (p := ⟨g, m, none⟩) hbase _) 1⟩
        case measure => simp [intOf]; omega
    · obtain rfl : k = s.size := by omega
      rw [List.take_of_length_le (by rw [oc_len]; exact Nat.le_refl _)] at hown
      have HO := Lib.hid hown
      clear hown
      go_wp2
      go_ret
      exact ⟨⟨_, rfl, HO.out⟩, hbw⟩
end Go.Proofs.YtofbgebgneinaaaDoor
