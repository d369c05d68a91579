/-
  A region that draws its order, whose operations read what lay there ahead of it, and whose calls make memory and turn nothing: walked once, in the order of the text.
-/
import Derived.Test.YtpofkkoiicdpbaaMem
import Derived.BigQuiet
namespace Go.Proofs.Ytpofkkoiicdpbaa
open Go.RowKit

/-- A world in which all that lay in w lies as it was. -/
structure Later (w : World) where
  x : World
  h : Below w.heap.size w x
theorem later_ne (w : World) : Nonempty (Later w) := ⟨⟨w, Below.refl _ _⟩⟩
theorem wp_region_calm {P : Program} {id : Nat} {Q : Exit → Act → World → Prop} {a : Act} {w : World} {l : List Oper} (hm : P.follows .mixedOrders = true) (hB : Region.lexB .any l.toArray = true)
    (h : wpQuiet P l.toArray (fun w' => ∃ z : Later w, w' = z.x) (fun a' => ∀ w', (∃ z : Later w, w' = z.x) → Q .normal a' w') l a) : (Code.region id l.toArray true).wp P Q a w :=
  wp_region_quiet (C := fun w' => ∃ z : Later w, w' = z.x) hm hB ⟨⟨{ w with drawn := w.drawn + 1 }, ⟨rfl, rfl, rfl, Nat.le_refl _, fun _ _ => rfl⟩⟩, rfl⟩ (by simpa using h)
section
variable {w : World}
theorem Later.cell (z : Later w) {g o : Nat} {u : Value} (h : w.cell? ⟨g, o, none⟩ = some u) : z.x.cell? ⟨g, o, none⟩ = some u := by
  rw [z.h.cell (p := ⟨g, o, none⟩) ?_, h]
  refine Nat.lt_of_not_le fun hge => ?_
  have : w.heap[g]? = none := Array.getElem?_eq_none hge
  simp [World.cell?, this] at h
theorem Later.call {P : Program} {f : FuncId} {args : Array Value} {v : Value} (z : Later w) (h : Calls P f args z.x fun e w' => e = .returned v ∧ Below z.x.heap.size z.x w') :
    Calls P f args z.x fun e w'' => e = .returned v ∧ ∃ z' : Later w, w'' = z'.x :=
  h.mono fun _ w'' ⟨he, hb⟩ => ⟨he, ⟨⟨w'', z.h.trans (hb.mono z.h.size)⟩, rfl⟩⟩
theorem Later.call_same {P : Program} {f : FuncId} {args : Array Value} {v : Value} (z : Later w) (h : Calls P f args z.x fun e w' => e = .returned v ∧ z.x = w') :
    Calls P f args z.x fun e w'' => e = .returned v ∧ ∃ z' : Later w, w'' = z'.x :=
  h.mono fun _ _ ⟨he, hb⟩ => ⟨he, z, hb.symm⟩
end
end Go.Proofs.Ytpofkkoiicdpbaa
