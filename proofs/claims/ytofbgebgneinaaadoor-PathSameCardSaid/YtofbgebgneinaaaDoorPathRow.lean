/-
  A row of texts that came in, as cells.
-/
import Derived.Test.YtofbgebgneinaaaDoorPathC
import Derived.Test.YtofbgebgneinaaaDoorRow
namespace Go.Proofs.YtofbgebgneinaaaDoor
open Go.RowKit

/-- What the walk is told of a slice of texts that came in. -/
def IsRowS (w : World) (a : Option Addr) (len cap : Nat) (ss : List ByteArray) : Prop :=
  (a = none ∧ len = 0 ∧ cap = 0 ∧ ss = []) ∨
  ∃ x, a = some x ∧ len ≤ cap ∧ cap ≤ maxLen ∧ ss.length = cap ∧ (∀ i, i < ss.length → w.cell? (x.add i) = some (.string (ss.getD i ByteArray.empty))) ∧ ∀ s ∈ ss, s.size ≤ maxLen

theorem rowS_rd {w : World} {a : Option Addr} {len cap : Nat} {ss : List ByteArray} (h : IsRowS w a len cap ss) :
    Rd w w.heap.size 1 a len (strV ((ss.take len).map oc)) ∧ len ≤ cap ∧ ∀ x ∈ (ss.take len).map oc, x.length ≤ 9223372036854775807 := by
  rcases h with ⟨rfl, rfl, rfl, rfl⟩ | ⟨⟨g, o, s⟩, rfl, h1, h2, h3, h4, h5⟩
  · exact ⟨Rd.nil, Nat.le_refl _, by simp⟩
  · have hl : (ss.take len).length = len := by rw [List.length_take]; omega
    have hv : strV ((ss.take len).map oc) = (ss.take len).map Value.string := by
      unfold strV
      rw [List.map_map]
      exact List.map_congr_left (fun b _ => by simp [st_oc])
    refine ⟨⟨by rw [hv, List.length_map, hl, Nat.mul_one], fun hn => ?_⟩, h1, fun x hx => ?_⟩
    · have hc := h4 0 (by omega)
      have hs : s = none := by
        have := World.cell?_spot hc
        simpa [Addr.add] using this
      subst hs
      refine ⟨g, o, rfl, ?_, fun j u hu => ?_⟩
      · rw [add_form] at hc
        refine Nat.lt_of_not_le fun hge => ?_
        have : w.heap[g]? = none := Array.getElem?_eq_none hge
        simp [World.cell?, this] at hc
      · rw [hv, List.getElem?_map] at hu
        have hjl : j < len := by
          have := (List.getElem?_eq_some_iff.1 (show ((ss.take len).map Value.string)[j]? = some u by rw [List.getElem?_map]; exact hu)).1
          rw [List.length_map, hl] at this; exact this
        have := h4 j (by omega)
        rw [add_form] at this
        rw [this]
        rw [List.getElem?_take, if_pos hjl, List.getElem?_eq_getElem (by omega)] at hu
        simp at hu
        rw [← hu, List.getD_eq_getElem?_getD, List.getElem?_eq_getElem (by omega)]
        rfl
    · obtain ⟨b, hb, rfl⟩ := List.mem_map.1 hx
      have := h5 b (List.mem_of_mem_take hb)
      rw [oc_len]; unfold maxLen at this; exact this
end Go.Proofs.YtofbgebgneinaaaDoor
