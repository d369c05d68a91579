/-
  Plain laws of the document's Of: a file's octets and flags, laid piece by piece, octet by octet.
-/
import Derived.Test.YtpofkkoiicdpbaaSparseA
namespace Go.Proofs.Ytpofkkoiicdpbaa
open Go.RowKit
set_option linter.unusedVariables false

/-- The octets when the first m of block N, which come from l, are laid over those of the pieces before. -/
def ofB (L : List Pc) (N : Nat) (l : List UInt8) (m i : Nat) : UInt8 := if 128 * N ≤ i ∧ i < 128 * N + m then (l[i - 128 * N]?).getD 0 else octF L i
theorem ofB_zero (L : List Pc) (N : Nat) (l : List UInt8) (i : Nat) : ofB L N l 0 i = octF L i := by unfold ofB; rw [if_neg (by omega)]
theorem blk_snoc (L : List Pc) (x : Pc) (n : Int) (h : blk L x.1 = none) : blk (L ++ [x]) n = if x.1 = n then some x.2 else blk L n := by
  unfold blk at h ⊢
  rw [List.find?_append]
  by_cases hx : x.1 = n
  · subst hx
    rw [if_pos rfl]
    have h0 : (L.find? fun p => decide (p.1 = x.1)) = none := by simpa using h
    rw [h0]; simp
  · rw [if_neg hx]
    have : List.find? (fun p => decide (p.1 = n)) [x] = none := by simp [hx]
    rw [this, Option.or_none]
theorem hasF_snoc (L : List Pc) (x : Pc) (n : Int) (h : blk L x.1 = none) : hasF (L ++ [x]) n = (decide (x.1 = n) || hasF L n) := by
  unfold hasF
  rw [blk_snoc L x n h]
  by_cases hx : x.1 = n
  · rw [if_pos hx, decide_eq_true hx]; rfl
  · rw [if_neg hx, decide_eq_false hx, Bool.false_or]
theorem octF_snoc (L : List Pc) (N : Nat) (l : List UInt8) (h : blk L (N : Int) = none) (i : Nat) : octF (L ++ [((N : Int), l)]) i = if i / 128 = N then (l[i % 128]?).getD 0 else octF L i := by
  unfold octF
  rw [blk_snoc L ((N : Int), l) _ h]
  by_cases hi : i / 128 = N
  · rw [if_pos (by show (N : Int) = _; omega), if_pos hi]
  · rw [if_neg (by show ¬ (N : Int) = _; omega), if_neg hi]
/-- Laid whole, or up to the file's end. -/
theorem ofB_end (L : List Pc) (N m size : Nat) (l : List UInt8) (h : blk L (N : Int) = none) (hm : m ≤ 128) (he : m = 128 ∨ size ≤ 128 * N + m) : tab size (ofB L N l m) = tab size (octF (L ++ [((N : Int), l)])) := by
  refine (tab_ext _ _ _).2 fun i hi => ?_
  rw [octF_snoc L N l h]
  unfold ofB
  by_cases hc : i / 128 = N
  · rw [if_pos (by omega), if_pos hc, show i - 128 * N = i % 128 from by omega]
  · rw [if_neg (by omega), if_neg hc]
/-- One more octet. -/
theorem ofB_step (L : List Pc) (N m size : Nat) (l : List UInt8) (c : UInt8) (hc : l[m]? = some c) : (tab size (ofB L N l m)).set (128 * N + m) c = tab size (ofB L N l (m + 1)) := by
  rw [tab_set]
  refine (tab_ext _ _ _).2 fun i _ => ?_
  unfold ofB
  by_cases h1 : i = 128 * N + m
  · subst h1
    rw [if_pos rfl, if_pos (by omega), show 128 * N + m - 128 * N = m from by omega, hc]; rfl
  · rw [if_neg h1]
    by_cases h2 : 128 * N ≤ i ∧ i < 128 * N + m
    · rw [if_pos h2, if_pos (by omega)]
    · rw [if_neg h2, if_neg (by omega)]
/-- One more flag. -/
theorem flag_step (L : List Pc) (N z : Nat) (l : List UInt8) (h : blk L (N : Int) = none) : (tab z fun n => hasF L (n : Int)).set N true = tab z fun n => hasF (L ++ [((N : Int), l)]) (n : Int) := by
  rw [tab_set]
  refine (tab_ext _ _ _).2 fun i _ => ?_
  rw [hasF_snoc L ((N : Int), l) _ h]
  by_cases hi : i = N
  · subst hi
    rw [if_pos rfl, decide_eq_true rfl, Bool.true_or]
  · rw [if_neg hi, decide_eq_false (by show ¬ (N : Int) = _; omega), Bool.false_or]
/-- A piece is new to those before it. -/
theorem take_new {L : List Pc} (h : Asc L) {k : Nat} {x : Pc} (hx : L[k]? = some x) : blk (L.take k) x.1 = none := by
  refine blk_none fun p hp e => ?_
  obtain ⟨j, hj⟩ := List.mem_iff_getElem?.1 hp
  rw [List.getElem?_take] at hj
  split at hj
  · rename_i hjk
    have := asc_get h hj hx hjk
    omega
  · cases hj
/-- What the document's file holds. -/
def fileB (size : Nat) (L : List Pc) : List UInt8 := tab size (octF L)
def fileT (size : Nat) (L : List Pc) : List Bool := tab ((size + 127) / 128) fun n => hasF L (n : Int)
/-- The same octets, the same flags: the document's Is. -/
theorem file_nil (size : Nat) : fileB size [] = List.replicate size 0 ∧ fileT size [] = List.replicate ((size + 127) / 128) false := by
  unfold fileB fileT
  refine ⟨?_, ?_⟩
  · rw [← tab_const]
    exact (tab_ext _ _ _).2 fun i _ => rfl
  · rw [← tab_const]
    exact (tab_ext _ _ _).2 fun i _ => rfl
end Go.Proofs.Ytpofkkoiicdpbaa
