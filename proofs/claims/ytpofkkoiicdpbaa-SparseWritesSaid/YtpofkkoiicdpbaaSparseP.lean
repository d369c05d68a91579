/-
  Plain laws on two writes, and on one in two goes.
-/
import Derived.Test.YtpofkkoiicdpbaaSparseV
namespace Go.Proofs.Ytpofkkoiicdpbaa
open Go.RowKit
set_option linter.unusedVariables false

theorem sizeW_swap (s : Int) (a la o lb : Nat) : sizeW (sizeW s a la) o lb = sizeW (sizeW s o lb) a la := by
  unfold sizeW
  split <;> split <;> omega
theorem sizeW_split (s : Int) (a k m : Nat) : sizeW (sizeW s a k) (a + k) m = sizeW s a (k + m) := by
  unfold sizeW
  split <;> split <;> (try split) <;> omega
theorem twice_oct (L L1 L2 M1 M2 : List Pc) (at' o : Nat) (a b : List UInt8) (ho : at' + a.length ≤ o) (h1 : WInv L at' a L1) (h2 : WInv L1 o b L2) (h3 : WInv L o b M1) (h4 : WInv M1 at' a M2) (i : Nat) : octF L2 i = octF M2 i := by
  rw [h2.2.1, h4.2.1]
  unfold writO
  rw [h1.2.1, h3.2.1]
  unfold writO
  by_cases c1 : o ≤ i ∧ i < o + b.length
  · rw [if_pos c1, if_neg (by omega), if_pos c1]
  · rw [if_neg c1]
    by_cases c2 : at' ≤ i ∧ i < at' + a.length
    · rw [if_pos c2, if_pos c2]
    · rw [if_neg c2, if_neg c2, if_neg c1]
theorem split_oct (L L1 L2 M : List Pc) (at' k : Nat) (a : List UInt8) (hk : k ≤ a.length) (h1 : WInv L at' (a.take k) L1) (h2 : WInv L1 (at' + k) (a.drop k) L2) (h3 : WInv L at' a M) (i : Nat) : octF L2 i = octF M i := by
  rw [h2.2.1, h3.2.1]
  unfold writO
  rw [h1.2.1]
  unfold writO
  rw [List.length_take, List.length_drop, Nat.min_eq_left hk]
  by_cases c1 : at' + k ≤ i ∧ i < at' + k + (a.length - k)
  · rw [if_pos c1, if_pos (by omega), List.getElem?_drop]
    congr 2
    omega
  · rw [if_neg c1]
    by_cases c2 : at' ≤ i ∧ i < at' + k
    · rw [if_pos c2, if_pos (by omega), List.getElem?_take, if_pos (by omega)]
    · rw [if_neg c2, if_neg (by omega)]
end Go.Proofs.Ytpofkkoiicdpbaa
