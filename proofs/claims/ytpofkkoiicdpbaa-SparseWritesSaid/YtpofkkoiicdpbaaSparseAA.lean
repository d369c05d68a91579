/-
  Plain laws of the document's Write and Cut: octets and flags, laid one by one; they are the program's file.
-/
import Derived.Test.YtpofkkoiicdpbaaSparseV
import Derived.Test.YtpofkkoiicdpbaaSparseW
import Derived.Test.YtpofkkoiicdpbaaSparseX
namespace Go.Proofs.Ytpofkkoiicdpbaa
open Go.RowKit
set_option linter.unusedVariables false

/-- The first k of l, copied into a list of d's. -/
def copyT {α : Type} (d : α) (l : List α) (k i : Nat) : α := if i < k then (l[i]?).getD d else d
theorem copyT_zero {α : Type} (d : α) (l : List α) (n : Nat) : tab n (copyT d l 0) = List.replicate n d := by
  rw [← tab_const]
  exact (tab_ext _ _ _).2 fun i _ => by unfold copyT; rw [if_neg (by omega)]
theorem copyT_step {α : Type} (d : α) (l : List α) (n k : Nat) (c : α) (h : l[k]? = some c) : (tab n (copyT d l k)).set k c = tab n (copyT d l (k + 1)) := by
  rw [tab_set]
  refine (tab_ext _ _ _).2 fun i _ => ?_
  unfold copyT
  by_cases hi : i = k
  · subst hi
    rw [if_pos rfl, if_pos (by omega), h]; rfl
  · rw [if_neg hi]
    by_cases h2 : i < k
    · rw [if_pos h2, if_pos (by omega)]
    · rw [if_neg h2, if_neg (by omega)]
theorem copyT_full {α : Type} (d : α) (l : List α) (n k : Nat) (hk : l.length ≤ k) : tab n (copyT d l k) = tab n fun i => (l[i]?).getD d := by
  refine (tab_ext _ _ _).2 fun i _ => ?_
  unfold copyT
  by_cases h : i < k
  · rw [if_pos h]
  · rw [if_neg h, List.getElem?_eq_none (by omega)]; rfl
theorem copyT_top {α : Type} (d : α) (l : List α) (n k : Nat) (hk : n ≤ k) : tab n (copyT d l k) = tab n fun i => (l[i]?).getD d := by
  refine (tab_ext _ _ _).2 fun i hi => ?_
  unfold copyT
  rw [if_pos (by omega)]
/-- The octets when the first j of b are written. -/
def wrB (bs : List UInt8) (off : Nat) (b : List UInt8) (j i : Nat) : UInt8 := if off ≤ i ∧ i < off + j then (b[i - off]?).getD 0 else (bs[i]?).getD 0
def wrT (tl : List Bool) (off j n : Nat) : Bool := touched off j n || (tl[n]?).getD false
theorem wrB_zero (bs b : List UInt8) (off s : Nat) : tab s (wrB bs off b 0) = tab s fun i => (bs[i]?).getD 0 :=
  (tab_ext _ _ _).2 fun i _ => by unfold wrB; rw [if_neg (by omega)]
theorem touched_zero (off n : Nat) : touched off 0 n = false := by unfold touched; rfl
theorem wrT_zero (tl : List Bool) (off z : Nat) : tab z (wrT tl off 0) = tab z fun i => (tl[i]?).getD false :=
  (tab_ext _ _ _).2 fun i _ => by unfold wrT; rw [touched_zero]; rfl
theorem wrB_step (bs b : List UInt8) (off s j : Nat) (c : UInt8) (h : b[j]? = some c) : (tab s (wrB bs off b j)).set (off + j) c = tab s (wrB bs off b (j + 1)) := by
  rw [tab_set]
  refine (tab_ext _ _ _).2 fun i _ => ?_
  unfold wrB
  by_cases hi : i = off + j
  · subst hi
    rw [if_pos rfl, if_pos (by omega), show off + j - off = j from by omega, h]; rfl
  · rw [if_neg hi]
    by_cases h2 : off ≤ i ∧ i < off + j
    · rw [if_pos h2, if_pos (by omega)]
    · rw [if_neg h2, if_neg (by omega)]
theorem touched_step (off j n : Nat) : touched off (j + 1) n = (decide (n = (off + j) / 128) || touched off j n) := by
  unfold touched
  rw [Bool.eq_iff_iff]
  simp only [Bool.and_eq_true, Bool.or_eq_true, decide_eq_true_eq]
  omega
theorem wrT_step (tl : List Bool) (off z j : Nat) : (tab z (wrT tl off j)).set ((off + j) / 128) true = tab z (wrT tl off (j + 1)) := by
  rw [tab_set]
  refine (tab_ext _ _ _).2 fun i _ => ?_
  unfold wrT
  rw [touched_step]
  by_cases hi : i = (off + j) / 128
  · rw [if_pos hi, decide_eq_true hi, Bool.true_or, Bool.true_or]
  · rw [if_neg hi, decide_eq_false hi, Bool.false_or]
theorem blocksW_new (off j : Nat) (h : j = 0 ∨ (off + j) % 128 = 0) : blocksW off (j + 1) = blocksW off j ++ [(((off + j) / 128 : Nat) : Int)] := by
  unfold blocksW
  rw [if_neg (by omega)]
  by_cases h0 : j = 0
  · subst h0
    rw [if_pos rfl, show off + (0 + 1) - 1 = off from by omega, Nat.sub_self]
    rfl
  · rw [if_neg h0, show (off + (j + 1) - 1) / 128 - off / 128 + 1 = ((off + j - 1) / 128 - off / 128 + 1) + 1 from by omega, tab_snoc]
    rw [show off / 128 + ((off + j - 1) / 128 - off / 128 + 1) = (off + j) / 128 from by omega]
theorem blocksW_same (off j : Nat) (h0 : 0 < j) (h : (off + j) % 128 ≠ 0) : blocksW off (j + 1) = blocksW off j := by
  unfold blocksW
  rw [if_neg (by omega), if_neg (by omega), show (off + (j + 1) - 1) / 128 = (off + j - 1) / 128 from by omega]
theorem blocksW_last (off j : Nat) (h0 : 0 < j) : ∃ m, (blocksW off j).length = m + 1 ∧ (blocksW off j)[m]? = some (((off + j - 1) / 128 : Nat) : Int) := by
  unfold blocksW
  rw [if_neg (by omega)]
  refine ⟨(off + j - 1) / 128 - off / 128, tab_len _ _, ?_⟩
  rw [tab_get _ _ _ (by omega), show off / 128 + ((off + j - 1) / 128 - off / 128) = (off + j - 1) / 128 from by omega]
theorem blocksW_len (off j : Nat) : (blocksW off j).length ≤ j := by
  unfold blocksW
  by_cases h : j = 0
  · rw [if_pos h]; simp
  · rw [if_neg h, tab_len]; omega
def sizeN (sz off lb : Nat) : Nat := if lb = 0 then sz else max sz (off + lb)
theorem sizeN_W (sz off lb : Nat) : sizeW (sz : Int) off lb = (sizeN sz off lb : Int) := by
  unfold sizeW sizeN
  split <;> omega
theorem file_getB (size : Nat) (L : List Pc) (h : OkF (size : Int) L) (i : Nat) : ((fileB size L)[i]?).getD 0 = octF L i := by
  unfold fileB
  by_cases hi : i < size
  · rw [tab_get _ _ _ hi]; rfl
  · rw [List.getElem?_eq_none (by rw [tab_len]; omega), h.2.2.2.2 i (by omega)]; rfl
theorem ok_has (size : Nat) (L : List Pc) (h : OkF (size : Int) L) (n : Nat) (hn : (size + 127) / 128 ≤ n) : hasF L (n : Int) = false := by
  unfold hasF
  rw [blk_none fun p hp e => by have := h.2.2.2.1 p hp; omega]; rfl
theorem file_getT (size : Nat) (L : List Pc) (h : OkF (size : Int) L) (n : Nat) : ((fileT size L)[n]?).getD false = hasF L (n : Int) := by
  unfold fileT
  by_cases hi : n < (size + 127) / 128
  · rw [tab_get _ _ _ hi]; rfl
  · rw [List.getElem?_eq_none (by rw [tab_len]; omega), ok_has size L h n (by omega)]; rfl
/-- What is written is the document's. -/
theorem write_is (sz off s' : Nat) (L L1 : List Pc) (b : List UInt8) (h : OkF (sz : Int) L) (hw : WInv L off b L1) (hs' : sizeN sz off b.length = s') :
    fileB s' L1 = tab s' (wrB (fileB sz L) off b b.length) ∧ fileT s' L1 = tab ((s' + 127) / 128) (wrT (fileT sz L) off b.length) := by
  refine ⟨?_, ?_⟩
  · refine (tab_ext _ _ _).2 fun i _ => ?_
    rw [hw.2.1]
    unfold writO wrB
    rw [file_getB sz L h]
  · refine (tab_ext _ _ _).2 fun n _ => ?_
    rw [hw.2.2]
    unfold wrT
    rw [file_getT sz L h, Bool.or_comm]
/-- What is cut is the document's. -/
theorem cut_is (sz s : Nat) (L L1 : List Pc) (h : OkF (sz : Int) L) (hc : CInv L (s : Int) L1) :
    fileB s L1 = (tab s fun i => ((fileB sz L)[i]?).getD 0) ∧ fileT s L1 = tab ((s + 127) / 128) fun n => ((fileT sz L)[n]?).getD false := by
  refine ⟨?_, ?_⟩
  · refine (tab_ext _ _ _).2 fun i hi => ?_
    rw [hc.1, file_getB sz L h, if_pos (by omega)]
  · refine (tab_ext _ _ _).2 fun n hn => ?_
    rw [hc.2, file_getT sz L h, decide_eq_true (by unfold needZ; split <;> omega), Bool.and_true]
/-- Of the blocks below k those that a cut has written. -/
def cutW (tl : List Bool) (sz s k : Nat) : List Int := if s / 128 < k ∧ (tl[s / 128]?).getD false = true ∧ s < sz ∧ 0 < s % 128 then [((s / 128 : Nat) : Int)] else []
theorem cutW_zero (tl : List Bool) (sz s : Nat) : cutW tl sz s 0 = [] := by unfold cutW; rw [if_neg (by omega)]
theorem cutW_new (tl : List Bool) (sz s k : Nat) (ht : (tl[k]?).getD false = true) (h1 : s < sz) (h2 : 128 * k < s) (h3 : s < 128 * k + 128) : cutW tl sz s (k + 1) = cutW tl sz s k ++ [(k : Int)] := by
  have hk : s / 128 = k := by omega
  unfold cutW
  rw [hk, if_pos ⟨by omega, ht, h1, by omega⟩, if_neg (by omega)]; rfl
theorem cutW_same (tl : List Bool) (sz s k : Nat) (h : ¬ ((tl[k]?).getD false = true ∧ s < sz ∧ 128 * k < s ∧ s < 128 * k + 128)) : cutW tl sz s (k + 1) = cutW tl sz s k := by
  unfold cutW
  by_cases hk : s / 128 = k
  · rw [hk, if_neg fun hh => h ⟨hh.2.1, hh.2.2.1, by omega, by omega⟩, if_neg fun hh => absurd hh.1 (Nat.lt_irrefl _)]
  · by_cases hc : s / 128 < k ∧ (tl[s / 128]?).getD false = true ∧ s < sz ∧ 0 < s % 128
    · rw [if_pos hc, if_pos ⟨by omega, hc.2⟩]
    · rw [if_neg hc, if_neg fun hh => hc ⟨by omega, hh.2⟩]
theorem cutW_end (tl : List Bool) (sz s k : Nat) (L : List Pc) (h : OkF (sz : Int) L) (ht : tl = fileT sz L) (hk : (s + 127) / 128 ≤ k ∨ (sz + 127) / 128 ≤ k) : cutW tl sz s k = if wroteC L (sz : Int) (s : Int) = true then [(s : Int) / 128] else [] := by
  unfold cutW wroteC
  rw [ht, file_getT sz L h, show ((s / 128 : Nat) : Int) = (s : Int) / 128 from by omega]
  by_cases hc : hasF L ((s : Int) / 128) = true ∧ s < sz ∧ 0 < s % 128
  · rw [if_pos ⟨by omega, hc⟩, hc.1, decide_eq_true (by omega), decide_eq_true (by omega)]; rfl
  · rw [if_neg fun hh => hc hh.2, if_neg]
    intro hh
    simp only [Bool.and_eq_true, decide_eq_true_eq] at hh
    exact hc ⟨hh.1.1, by omega, by omega⟩
end Go.Proofs.Ytpofkkoiicdpbaa
