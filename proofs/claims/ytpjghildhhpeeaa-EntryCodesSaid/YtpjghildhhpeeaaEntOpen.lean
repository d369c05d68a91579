/-
  Arguments that are entries, and rows of entries: what lies in memory.
-/
import Derived.Test.YtpjghildhhpeeaaEntryB
import Derived.Test.YtpjghildhhpeeaaOpen
import Derived.Lib.SmallJoins
namespace Go.Proofs.Ytpjghildhhpeeaa
open Go.RowKit Go.ChangeShapes Go.WideShapes Go.Deep

/-- What the walk is told of a row of entries that came in. -/
def IsEnts (w : World) (A : Option Addr) (n c : Nat) (l : List Ent) : Prop :=
  n ≤ c ∧ c ≤ maxLen ∧ (A = none → c = 0) ∧ Rd w w.heap.size 3 A n (rowE l) ∧ ∀ x ∈ l, x.1.length ≤ 9223372036854775807
section
variable {H : Type} {enc : TypeId × Value → H} {w : World} {base : Nat} {spare : Nat → Bool} {held : Bool}
theorem ent_el (n : Nat) (cs : List Value) (y : DataW H × List MemPlace) (h : DataW.trod enc Try.prog w base spare held n 24 cs = some y) : ∃ a : Ent, cs = fE a ∧ a.1.length ≤ 9223372036854775807 := by
  obtain ⟨hl, hf⟩ := trod_fields Try.underlying24 (by kernel_rfl) (by kernel_rfl) h
  obtain ⟨v0, m0, y0, e0, t0⟩ := hf 0 _ rfl
  obtain ⟨v1, m1, y1, e1, t1⟩ := hf 1 _ rfl
  obtain ⟨v2, m2, y2, e2, t2⟩ := hf 2 _ rfl
  obtain ⟨s, hs, _, hw⟩ := DataW.trod_string Try.underlying9 t0
  obtain ⟨i, hi, _, _⟩ := DataW.trod_int Try.underlying3 t1
  obtain ⟨t, ht, _, _⟩ := DataW.trod_int Try.underlying3 t2
  injection hs with hs
  injection hi with hi
  injection ht with ht
  subst hs hi ht
  refine ⟨(oc s, i, t), ?_, by show (oc s).length ≤ _; rw [oc_len]; unfold maxLen at hw; omega⟩
  have hl3 : cs.length = 3 := hl
  match cs, hl3 with
  | [a, b, c], _ =>
    simp at e0 e1 e2
    subst e0 e1 e2
    simp [fE, st_oc]
theorem open_ents {fuel : Nat} {A : Option Addr} {n c : Nat} {x : DataW H × List MemPlace} (h : DataW.trod enc Try.prog w base spare held fuel 22 [.slice A n c] = some x) : ∃ l, IsEnts w A n c l := by
  obtain ⟨l, h1, h2, h3, h4, h5⟩ := open_rows (f := fE) (Q := fun a => a.1.length ≤ 9223372036854775807) Try.underlying22 (show Try.prog.cellsOf 24 = 3 by kernel_rfl) (by omega) fE_len ent_el h
  exact ⟨l, h1, h2, h3, h4, h5⟩
theorem open_ent {r : Reach} {b0 : Nat} {v : Value} {d : DataW H} {p : List MemPlace} (hv : Value.okWide Try.prog w r b0 24 v) (h : DataW.Trod enc Try.prog w base spare held 24 v d p) : ∃ a : Ent, v = vE a ∧ a.1.length ≤ 9223372036854775807 := by
  obtain ⟨cs, rfl, _⟩ := okWide_struct Try.underlying24 hv
  obtain ⟨fuel, hf⟩ := h
  obtain ⟨a, ha, hw⟩ := ent_el _ _ _ hf
  refine ⟨a, ?_, hw⟩
  have e : cs.toList = fE a := by simpa [Value.cells] using ha
  have e2 : cs = (fE a).toArray := by rw [← e]
  rw [e2]; rfl
end
end Go.Proofs.Ytpjghildhhpeeaa
