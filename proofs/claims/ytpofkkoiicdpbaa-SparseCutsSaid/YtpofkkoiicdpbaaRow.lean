/-
  A row of integers that came in, as cells.
-/
import Derived.Test.YtpofkkoiicdpbaaMem
namespace Go.Proofs.Ytpofkkoiicdpbaa
open Go.RowKit

/-- What the walk is told of a slice of integers that came in. -/
def IsRow (k : IntKind) (w : World) (a : Option Addr) (len cap : Nat) (zs : List Int) : Prop :=
  (a = none ∧ len = 0 ∧ cap = 0 ∧ zs = []) ∨
  ∃ x, a = some x ∧ len ≤ cap ∧ cap ≤ maxLen ∧ zs.length = cap ∧ (∀ i, i < zs.length → w.cell? (x.add i) = some (.int k (zs.getD i 0))) ∧ ∀ n ∈ zs, (Lit.int k n).wf = true

theorem row_rd {k : IntKind} {w : World} {a : Option Addr} {len cap : Nat} {zs : List Int} (h : IsRow k w a len cap zs) :
    Rd w w.heap.size 1 a len ((zs.take len).map (.int k)) ∧ len ≤ cap ∧ cap ≤ maxLen ∧ (zs.take len).length = len ∧ ∀ n ∈ zs.take len, (Lit.int k n).wf = true := by
  rcases h with ⟨rfl, rfl, rfl, rfl⟩ | ⟨⟨g, o, s⟩, rfl, h1, h2, h3, h4, h5⟩
  · exact ⟨Rd.nil, Nat.le_refl _, by simp [maxLen], rfl, by simp⟩
  · have hl : (zs.take len).length = len := by rw [List.length_take]; omega
    refine ⟨⟨by rw [List.length_map, hl, Nat.mul_one], fun hn => ?_⟩, h1, h2, hl, fun n hn => h5 n (List.mem_of_mem_take hn)⟩
    have hc := h4 0 (by omega)
    have hs : s = none := by
      have := World.cell?_spot hc
      simpa [Addr.add] using this
    subst hs
    refine ⟨g, o, rfl, ?_, fun j u hu => ?_⟩
    · rw [add_form] at hc
      refine Nat.lt_of_not_le fun hge => ?_
      have : w.heap[g]? = none := Array.getElem?_eq_none hge
      simp [World.cell?, this] at hc
    · rw [List.getElem?_map] at hu
      have hjl : j < len := by
        have := (List.getElem?_eq_some_iff.1 (show ((zs.take len).map (Value.int k))[j]? = some u by rw [List.getElem?_map]; exact hu)).1
        rw [List.length_map, hl] at this; exact this
      have := h4 j (by omega)
      rw [add_form] at this
      rw [this]
      rw [List.getElem?_take, if_pos hjl, List.getElem?_eq_getElem (by omega)] at hu
      simp at hu
      rw [← hu, List.getD_eq_getElem?_getD, List.getElem?_eq_getElem (by omega)]
      rfl
theorem wf_bounds {k : IntKind} {a : Int} (h : (Lit.int k a).wf = true) : k.min ≤ a ∧ a ≤ k.max := by
  simp [Lit.wf] at h; exact h
theorem le_of_wf {a : Int} (h : (Lit.int .i64 a).wf = true) : a ≤ 9223372036854775807 :=
  Int.le_trans (wf_bounds h).2 (by decide)
theorem ge_of_wf {a : Int} (h : (Lit.int .i64 a).wf = true) : -9223372036854775808 ≤ a :=
  Int.le_trans (by decide) (wf_bounds h).1
theorem u16_of_wf {a : Int} (h : (Lit.int .u16 a).wf = true) : 0 ≤ a ∧ a ≤ 65535 :=
  ⟨Int.le_trans (by decide) (wf_bounds h).1, Int.le_trans (wf_bounds h).2 (by decide)⟩
theorem u8_of_wf {a : Int} (h : (Lit.int .u8 a).wf = true) : 0 ≤ a ∧ a ≤ 255 :=
  ⟨Int.le_trans (by decide) (wf_bounds h).1, Int.le_trans (wf_bounds h).2 (by decide)⟩
end Go.Proofs.Ytpofkkoiicdpbaa
