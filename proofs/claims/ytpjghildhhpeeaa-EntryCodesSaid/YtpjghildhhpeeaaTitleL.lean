/-
  Walks: the program's heads and cuts.
-/
import Derived.Test.YtpjghildhhpeeaaTitleK
namespace Go.Proofs.Ytpjghildhhpeeaa
open Go.RowKit

theorem octs_take_snoc (l : List UInt8) (m : Nat) (r : Rn) (h : (runes l)[m]? = some r) : (octs ((runes l).take (m + 1))).length = (octs ((runes l).take m)).length + r.o.length ∧ (octs ((runes l).take (m + 1))).length ≤ l.length :=
  ⟨by rw [take_snoc _ _ _ h, octs_snoc, List.length_append], octs_len l (m + 1)⟩

theorem signR_of (r : Rn) : (r.odd = true → signR r = false) ∧ (r.odd = false → signR r = signZ (runeOf r)) := by
  constructor
  · intro h; simp [signR, h]
  · intro h; simp [signR, signZ, runeOf, h]

end Go.Proofs.Ytpjghildhhpeeaa
