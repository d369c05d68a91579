/-
  Plain laws on a file made shorter, or longer.
-/
import Derived.Test.YtpofkkoiicdpbaaSparseW
namespace Go.Proofs.Ytpofkkoiicdpbaa
open Go.RowKit
set_option linter.unusedVariables false

def needZ (n : Int) : Int := if n ≤ 0 then 0 else (n + 127) / 128
def cutL (size : Int) (L : List Pc) : List Pc := L.filter fun p => !decide (needZ size ≤ p.1)
def wroteC (L : List Pc) (old size : Int) : Bool := hasF L (size / 128) && decide (size < old) && decide (0 < size % 128)
def CInv (L : List Pc) (size : Int) (L2 : List Pc) : Prop := (∀ i : Nat, octF L2 i = if (i : Int) < size then octF L i else 0) ∧ ∀ n : Nat, hasF L2 n = (hasF L n && decide ((n : Int) < needZ size))
theorem blk_cut (L : List Pc) (size : Int) (h : Asc L) (n : Int) : blk (cutL size L) n = if n < needZ size then blk L n else none := by
  have ha : Asc (cutL size L) := List.Pairwise.filter _ h
  by_cases hn : n < needZ size
  · rw [if_pos hn]
    cases hb : blk L n with
    | none =>
      refine blk_none fun p hp e => ?_
      have hm := (List.mem_filter.1 hp).1
      have := blk_mem h (n := p.1) (b := p.2) hm
      rw [e, hb] at this
      cases this
    | some b =>
      refine blk_mem ha (List.mem_filter.2 ⟨blk_some hb, ?_⟩)
      simp only [Bool.not_eq_true', decide_eq_false_iff_not]
      omega
  · rw [if_neg hn]
    refine blk_none fun p hp e => ?_
    have := (List.mem_filter.1 hp).2
    simp only [Bool.not_eq_true', decide_eq_false_iff_not] at this
    omega
theorem cut_std (L : List Pc) (size : Int) (h : Std L) : Std (cutL size L) := ⟨List.Pairwise.filter _ h.1, fun p hp => h.2 p (List.mem_filter.1 hp).1⟩
theorem cut_low (L : List Pc) (size : Int) : ∀ p ∈ cutL size L, p.1 < needZ size := fun p hp => by
  have := (List.mem_filter.1 hp).2
  simp only [Bool.not_eq_true', decide_eq_false_iff_not] at this
  omega
theorem has_cut (L : List Pc) (size : Int) (h : Asc L) (n : Int) : hasF (cutL size L) n = (hasF L n && decide (n < needZ size)) := by
  unfold hasF
  rw [blk_cut L size h]
  by_cases hn : n < needZ size
  · rw [if_pos hn]; simp [hn]
  · rw [if_neg hn]; simp [hn]
theorem oct_cut (L : List Pc) (size : Int) (h : Asc L) (i : Nat) : octF (cutL size L) i = if ((i / 128 : Nat) : Int) < needZ size then octF L i else 0 := by
  unfold octF
  rw [blk_cut L size h]
  by_cases hn : ((i / 128 : Nat) : Int) < needZ size
  · rw [if_pos hn, if_pos hn]
  · rw [if_neg hn, if_neg hn]
theorem octF_none {L : List Pc} {i : Nat} (h : hasF L ((i / 128 : Nat) : Int) = false) : octF L i = 0 := by
  refine octF_out ?_
  unfold hasF at h
  cases hb : blk L ((i / 128 : Nat) : Int) with
  | none => rfl
  | some b => rw [hb] at h; cases h
theorem there_cut (L : List Pc) (size : Nat) (h : Asc L) : hasF (cutL size L) ((size / 128 : Nat) : Int) = (hasF L ((size / 128 : Nat) : Int) && decide (0 < size % 128)) := by
  rw [has_cut L size h]
  congr 1
  rw [Bool.eq_iff_iff, decide_eq_true_eq, decide_eq_true_eq]
  unfold needZ
  split <;> omega
/-- Not laid over: nothing stands behind the end. -/
theorem CInv.plain (L : List Pc) (old : Int) (size : Nat) (hf : OkF old L) (hw : wroteC L old size = false) : CInv L size (cutL size L) := by
  obtain ⟨h0, h1, hs, hn, hz⟩ := hf
  refine ⟨fun i => ?_, fun n => by rw [has_cut L size hs.1]⟩
  rw [oct_cut L size hs.1]
  by_cases hi : (i : Int) < size
  · rw [if_pos hi, if_pos (by unfold needZ; split <;> omega)]
  · rw [if_neg hi]
    by_cases h2 : ((i / 128 : Nat) : Int) < needZ size
    · rw [if_pos h2]
      have hq : i / 128 = size / 128 ∧ 0 < size % 128 := by unfold needZ at h2; split at h2 <;> omega
      have hd : (size : Int) / 128 = ((size / 128 : Nat) : Int) := by omega
      have hm : (size : Int) % 128 = ((size % 128 : Nat) : Int) := by omega
      unfold wroteC at hw
      rw [hd, hm, ← hq.1, decide_eq_true (p := (0 : Int) < ((size % 128 : Nat) : Int)) (by omega), Bool.and_true, Bool.and_eq_false_iff] at hw
      rcases hw with hw | hw
      · exact octF_none hw
      · have := of_decide_eq_false hw
        exact hz i (by omega)
    · rw [if_neg h2]
/-- The last block laid over with noughts. -/
theorem CInv.laid (L : List Pc) (size q r : Nat) (hs : Std L) (hq : size / 128 = q) (hr : size % 128 = r) (hr0 : 0 < r) (hh : hasF L (q : Int) = true) :
    CInv L size (putF (cutL size L) q (layB (octB (cutL size L) q) r (zer (128 - r)))) := by
  have hcs := cut_std L size hs
  have hol := octB_len (cutL size L) q hcs
  have hzl : (zer (128 - r)).length = 128 - r := by simp [zer]
  have hnd : needZ size = (q : Int) + 1 := by unfold needZ; split <;> omega
  refine ⟨fun i => ?_, fun n => ?_⟩
  · rw [octF_put _ q _ hcs.1]
    by_cases hi : i / 128 = q
    · rw [if_pos hi, layB_get _ _ _ (by rw [hzl, hol]; omega), hzl]
      by_cases h1 : i % 128 < r
      · rw [if_pos h1, octB_get _ q (i % 128) (Nat.mod_lt _ (by omega)), show 128 * q + i % 128 = i from by omega, oct_cut L size hs.1, if_pos (by omega), if_pos (by omega)]
      · rw [if_neg h1, if_pos (by omega), if_neg (by omega)]
        unfold zer
        rw [List.getElem?_replicate, if_pos (by omega)]; rfl
    · rw [if_neg hi, oct_cut L size hs.1]
      by_cases h2 : (i : Int) < size
      · rw [if_pos (by omega), if_pos h2]
      · rw [if_neg (by omega), if_neg h2]
  · rw [hasF_put _ q _ hcs.1, has_cut L size hs.1]
    by_cases hn : (n : Int) = (q : Int)
    · rw [hn, hh, decide_eq_true rfl, decide_eq_true (p := (q : Int) < needZ size) (by omega)]; rfl
    · rw [decide_eq_false hn, Bool.false_or]
theorem CInv.ok (L L2 : List Pc) (size : Int) (h0 : 0 ≤ size) (h1 : size ≤ 463488) (hs : Std L2) (h : CInv L size L2) : OkF size L2 := by
  obtain ⟨ho, hh⟩ := h
  refine ⟨h0, h1, hs, fun p hp => ?_, fun i hi => by rw [ho, if_neg (by omega)]⟩
  obtain ⟨n, hn⟩ : ∃ n : Nat, p.1 = n := ⟨p.1.toNat, by have := (hs.2 p hp).1; omega⟩
  have := std_has hs.1 hp
  rw [hn, hh, Bool.and_eq_true, decide_eq_true_eq] at this
  have h2 := this.2
  unfold needZ at h2
  split at h2 <;> omega
end Go.Proofs.Ytpofkkoiicdpbaa
