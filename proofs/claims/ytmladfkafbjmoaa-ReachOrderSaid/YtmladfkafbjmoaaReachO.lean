/-
  Walks: the nodes on paths; sorted and made lean.
-/
import Derived.Test.YtmladfkafbjmoaaReachM
import Derived.Test.YtmladfkafbjmoaaReachN
import Derived.Test.YtmladfkafbjmoaaApp
import Derived.Test.YtmladfkafbjmoaaShelf
import Derived.Lib.OwnBridge
namespace Go.Proofs.Ytmladfkafbjmoaa
open Go.RowKit

theorem numR_on (n k : Nat) (hn : n < 3621) (h1 : 1 ≤ k) (h2 : k < (pathN n).length) : (onN n)[k - 1]? = some (numR ((toZ (pathN n)).take k)) := by
  have hl := on_len n
  have hk : k - 1 < (onN n).length := by omega
  have he : (onN n)[k - 1]'hk = numberZ ((toZ (pathN n)).take k) := by
    have e2 : (onN n)[k - 1]? = some (numberZ ((toZ (pathN n)).take k)) := by
      unfold onN
      rw [List.getElem?_map, List.getElem?_range' (by omega)]
      rw [show 1 + 1 * (k - 1) = k from by omega]
      rfl
    rw [List.getElem?_eq_getElem hk] at e2
    exact Option.some.inj e2
  have hm : numberZ ((toZ (pathN n)).take k) ∈ onN n := by rw [← he]; exact List.getElem_mem hk
  have := on_range n hn _ hm
  rw [List.getElem?_eq_getElem hk, he]
  unfold numR
  rw [if_neg (by omega)]
theorem node_on (n k : Nat) (hn : n < 3621) (h1 : 1 ≤ k) (h2 : k < (pathN n).length) : ∃ q : Nat, q < 258 ∧ numberZ ((toZ (pathN n)).take k) = q ∧ (onN n)[k - 1]? = some (q : Int) := by
  have hl := on_len n
  have hk : k - 1 < (onN n).length := by omega
  have he : (onN n)[k - 1]'hk = numberZ ((toZ (pathN n)).take k) := by
    have e2 : (onN n)[k - 1]? = some (numberZ ((toZ (pathN n)).take k)) := by
      unfold onN
      rw [List.getElem?_map, List.getElem?_range' (by omega)]
      rw [show 1 + 1 * (k - 1) = k from by omega]
      rfl
    rw [List.getElem?_eq_getElem hk] at e2
    exact Option.some.inj e2
  have hm : numberZ ((toZ (pathN n)).take k) ∈ onN n := by rw [← he]; exact List.getElem_mem hk
  have := on_range n hn _ hm
  refine ⟨(numberZ ((toZ (pathN n)).take k)).toNat, by omega, by omega, ?_⟩
  rw [List.getElem?_eq_getElem hk, he]
  exact congrArg some (by omega)

set_option maxHeartbeats 2000000 in
set_option maxRecDepth 100000 in
theorem on_any (n : Nat) (A : Option Addr) (m c : Nat) (w : World) (hn : n < 3621) (hm : m = (pathN n).length) (hmc : m ≤ c) (hr : Rd w w.heap.size 1 A m (intsV (toZ (pathN n)))) :
    Calls Try.prog 31 #[.slice A m c] w fun e w' => (∃ v, e = .returned v ∧ OwnI w w' v (onN n)) ∧ Below w.heap.size w w' := by
  obtain ⟨i0, hi, hz0, hz1, hz2⟩ := info_parts Try.info3
  have hpl := path_len n
  rw [← hm] at hpl
  obtain ⟨g, o, rfl, _, _⟩ := hr.2 (by omega)
  have HON : Hid (∀ k, 1 ≤ k → k < m → (onN n)[k - 1]? = some (numR ((toZ (pathN n)).take k))) := Lib.hid (fun k h1 h2 => numR_on n k hn h1 (by omega))
  have HOL := Lib.hid (on_len n)
  have HM := Lib.hid hm
  have HR := Lib.hid hr
  clear hr hm
  go_enter Try.func31, Try.ntmps31
  go_wp2
  go_loopw [3, 4] (fun v i wr => ∃ k : Nat, 1 ≤ k ∧ k ≤ m ∧ i = .int .i64 k ∧ wr.ownsRow w.heap.size 3 1 v (k - 1) (intsV ((onN n).take (k - 1))) ∧ Below w.heap.size w wr) (fun _ i _ => m - (intOf i).toNat)
  case atStart => exact ⟨1, Nat.le_refl _, by omega, rfl, ⟨rfl, .inl ⟨rfl, rfl⟩⟩, Below.refl _ _⟩
  case round =>
    obtain ⟨k, hk1, hk, rfl, hown, hbw⟩ := hrel
    by_cases hlt : k < m
    · obtain ⟨q, hq⟩ : ∃ q, numR ((toZ (pathN n)).take k) = q := ⟨_, rfl⟩
      have hsn : (onN n).take k = (onN n).take (k - 1) ++ [q] := by
        have := take_snoc (onN n) (k - 1) q (by rw [← hq]; exact HON.out k hk1 hlt)
        rw [show k - 1 + 1 = k from by omega] at this; exact this
      have HSN := Lib.hid hsn
      have HQ := Lib.hid hq
      have hrk := rd_take ((HR.out.below hbw).more hbw.size) (Nat.le_of_lt hlt)
      have HRK := Lib.hid hrk
      clear hsn hq hrk
      go_wp2_with fail
      refine (Number_any _ k c _ wr HRK.out (by omega) (by omega)).mono ?_
      rintro e w1 ⟨rfl, h1⟩
      rw [HQ.out]
      obtain ⟨q2, hq2⟩ : ∃ q2, numE ((toZ (pathN n)).take k) = q2 := ⟨_, rfl⟩
      rw [hq2]
      clear hq2
      have hown1 := own_later hown h1
      have hbw1 := hbw.trans (h1.mono hbw.size)
      clear hown
      go_wp2_with (at_builtin; refine wpList_append_own _ rfl (.tmp 20) (.tmp 22) 25 rfl w.heap.size 3 i0 _ 1 8 Try.underlying25 hi hz0 hz1 hz2 rfl (by decide) _ _ _ rfl (hown1.alloc _) ⟨w1.heap.size, 0, none⟩ 1 1 [.int .i64 q] (by rfl) (by rfl) (fun j u hj => new_cells w1 _ _ _ rfl j u hj) (one_cell rfl) (by unfold maxLen; omega) (by omega) (base_alloc hbw1.size _) ?_)
      intro v' w' hown' hgrow _
      have hbw' : Below w.heap.size w w' := (hbw1.alloc hbw1.size _).grown hgrow (base_alloc hbw1.size _) (fun k hk => (hown1.lt k hk).1)
      have e3 : intsV ((onN n).take (k - 1)) ++ [.int .i64 q] = intsV ((onN n).take (k + 1 - 1)) := by
        rw [show k + 1 - 1 = k from by omega, HSN.out, intsV_snoc]
      rw [e3] at hown'
      have HO := Lib.hid hown'
      clear hown' hown1 hgrow e3
      go_wp2
      go_roundw
      case rel => exact ⟨k + 1, by omega, by omega, by go_num, HO.out, hbw'⟩
      case measure => simp [intOf]; omega
    · obtain rfl : k = m := by omega
      have hlen : (onN n).length = k - 1 := by rw [HOL.out, HM.out]
      rw [List.take_of_length_le (by omega)] at hown
      rw [← hlen] at hown
      have HO := Lib.hid hown
      clear hown hlen
      go_wp2
      go_ret
      exact ⟨⟨_, rfl, HO.out⟩, hbw⟩

theorem grow_below (w : World) (os : Array Obj) : Below w.heap.size w (Sort.grow w os) :=
  ⟨rfl, rfl, rfl, by simp [Sort.grow], fun k hk => by simp [Sort.grow, Array.getElem?_append_left hk]⟩

/-- slices.Sort over a row of the call's own. -/
theorem Sort_own (base : Nat) (v : Value) (n : Nat) (zs : List Int) (w : World) (h : w.ownsRow base 3 1 v n (intsV zs)) (hn : n < 4611686018427387904) (hb : base ≤ w.heap.size) :
    Calls Try.prog 32 #[v] w fun e w' => e = .returned (.tuple #[]) ∧ w'.ownsRow base 3 1 v n (intsV (zs.mergeSort fun x y => decide (x ≤ y))) ∧ Below base w w' := by
  rcases own_cases h with ⟨rfl, rfl, h0⟩ | ⟨g, cap, rfl, hB⟩
  · have hz : zs = [] := by unfold intsV at h0; exact List.map_eq_nil_iff.1 h0
    subst hz
    refine (Try.slices_Sort_int_none none 0 w).mono ?_
    rintro e w' ⟨rfl, rfl⟩
    exact ⟨rfl, by simpa using h, Below.refl _ _⟩
  · obtain ⟨g', cap', e', hbg, hgl, _, _, hl, hH⟩ := Lib.holds_of_ownsRow (enc := Value.int .i64) (zs := zs) h (by simp)
    injection e' with e1 _ _
    injection e1 with e1
    injection e1 with e1 _ _
    subst e1
    subst hl
    refine (Try.slices_Sort_int g 0 cap zs w hH hgl hn).mono ?_
    rintro e w' ⟨rfl, q, os, rfl⟩
    have hO := Lib.ownsRow_putRow (enc := Value.int .i64) (q := q) (k := zs.length) (ys := zs.mergeSort fun x y => decide (x ≤ y)) h (by simp) (Nat.le_refl _)
    rw [List.take_of_length_le (by simp)] at hO
    have hb2 := Lib.below_putRow (enc := Value.int .i64) (q := q) (d := (zs.mergeSort fun x y => decide (x ≤ y)).toArray) (Below.refl base w) hbg
    have hgr : Below (Sort.putRow (Value.int .i64) (Sort.ahead w q) g 0 (zs.mergeSort fun x y => decide (x ≤ y)).toArray).heap.size (Sort.putRow (Value.int .i64) (Sort.ahead w q) g 0 (zs.mergeSort fun x y => decide (x ≤ y)).toArray) (Sort.grow (Sort.putRow (Value.int .i64) (Sort.ahead w q) g 0 (zs.mergeSort fun x y => decide (x ≤ y)).toArray) os) := grow_below _ os
    exact ⟨rfl, own_later hO hgr, hb2.trans (hgr.mono (by simpa [Sort.ahead] using hb))⟩
/-- slices.Compact over a row of the call's own. -/
theorem Compact_own (base : Nat) (v : Value) (n : Nat) (zs : List Int) (w : World) (h : w.ownsRow base 3 1 v n (intsV zs)) (hn : n < 4611686018427387904) :
    Calls Try.prog 33 #[v] w fun e w' => (∃ v', e = .returned v' ∧ w'.ownsRow base 3 1 v' (Lib.compact zs).length (intsV (Lib.compact zs))) ∧ Below base w w' := by
  rcases own_cases h with ⟨rfl, rfl, h0⟩ | ⟨g, cap, rfl, hB⟩
  · have hz : zs = [] := by unfold intsV at h0; exact List.map_eq_nil_iff.1 h0
    subst hz
    refine (Try.slices_Compact_int_empty none 0 w).mono ?_
    rintro e w' ⟨rfl, rfl⟩
    exact ⟨⟨_, rfl, h⟩, Below.refl _ _⟩
  · obtain ⟨g', cap', e', hbg, hgl, hnc, _, hl, hH⟩ := Lib.holds_of_ownsRow (enc := Value.int .i64) (zs := zs) h (by simp)
    injection e' with e1 _ e3
    injection e1 with e1
    injection e1 with e1 _ _
    subst e1
    subst hl
    subst e3
    refine (Try.slices_Compact_int g 0 cap zs w hH (by omega) hnc).mono ?_
    rintro e w' ⟨rfl, q, rfl⟩
    have hle := Lib.compact_length_le zs
    have hO := Lib.ownsRow_putRow (enc := Value.int .i64) (q := q) (k := (Lib.compact zs).length) (ys := Lib.compact zs ++ List.replicate (zs.length - (Lib.compact zs).length) 0) h (by simp; omega) hle
    rw [List.take_left] at hO
    exact ⟨⟨_, rfl, hO⟩, Lib.below_putRow (Below.refl base w) hbg⟩
end Go.Proofs.Ytmladfkafbjmoaa
