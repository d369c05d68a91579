/-
  Plain laws of SparseBack: what is written is read, what was not touched stays.
-/
import Derived.Test.YtpofkkoiicdpbaaSparseG
import Derived.Test.YtpofkkoiicdpbaaSparseV
import Derived.Test.YtpofkkoiicdpbaaSparseC
namespace Go.Proofs.Ytpofkkoiicdpbaa
open Go.RowKit
set_option linter.unusedVariables false

theorem readF_nat (z o m : Nat) (L : List Pc) : readF (z : Int) L (o : Int) (m : Int) = tab (min m (z - o)) fun i => octF L (min o z + i) := by
  unfold readF
  have h1 : (min (o : Int) (z : Int)).toNat = min o z := by omega
  have h2 : (min (m : Int) ((z : Int) - min (o : Int) (z : Int))).toNat = min m (z - o) := by omega
  rw [h1, h2]
def padN (lb p k : Nat) : Nat := if lb = 0 then 0 else p - k
theorem readF_len (z o m : Nat) (L : List Pc) : (readF (z : Int) L (o : Int) (m : Int)).length = min m (z - o) := by rw [readF_nat, tab_len]
theorem few_small {s : Int} {L : List Pc} (h : okF (fewZ s) L = true) : ∃ z : Nat, fewZ s = z ∧ z ≤ 20000 := by
  have h1 := ((okF_iff _ _).1 h).1
  have h2 := ((okF_iff _ _).1 h).2.1
  refine ⟨(fewZ s).toNat, by omega, ?_⟩
  unfold fewZ at *
  split at * <;> omega
theorem back_plain (z p lb : Nat) (L1 L2 : List Pc) (b : List UInt8) (hok : okF (z : Int) L1 = true) (hz : z ≤ 20000) (hlb : b.length = lb) (hl7 : lb ≤ 700) (hp : p < 3000) (hw : WInv L1 p b L2) :
    readF (sizeW (z : Int) p lb) L2 0 30000 = readF (z : Int) L1 0 p ++ (List.replicate (padN lb p (min p z)) 0 ++ (b ++ readF (z : Int) L1 ((p + lb : Nat) : Int) 20000)) := by
  have hz0 : ∀ i : Nat, z ≤ i → octF L1 i = 0 := fun i hi => ((okF_iff _ _).1 hok).2.2.2.2 i (by omega)
  have hg : ∀ i, octF L2 i = if p ≤ i ∧ i < p + lb then (b[i - p]?).getD 0 else octF L1 i := fun i => by rw [hw.2.1 i]; unfold writO; rw [hlb]
  have e1 : readF (z : Int) L1 0 p = tab (min p z) (octF L1) := by
    have := readF_nat z 0 p L1
    rw [show ((0 : Nat) : Int) = 0 from rfl] at this
    rw [this, Nat.sub_zero, Nat.zero_min]
    exact (tab_ext _ _ _).2 fun i _ => by rw [Nat.zero_add]
  have e2 : readF (z : Int) L1 ((p + lb : Nat) : Int) 20000 = tab (z - (p + lb)) fun i => octF L1 (p + lb + i) := by
    have := readF_nat z (p + lb) 20000 L1
    rw [show ((20000 : Nat) : Int) = 20000 from rfl] at this
    rw [this, show min 20000 (z - (p + lb)) = z - (p + lb) from by omega]
    exact (tab_ext _ _ _).2 fun i hi => by rw [show min (p + lb) z = p + lb from by omega]
  have e3 : ∀ y : Nat, y ≤ 30000 → readF (y : Int) L2 0 30000 = tab y (octF L2) := fun y hy => by
    have := readF_nat y 0 30000 L2
    rw [show ((30000 : Nat) : Int) = 30000 from rfl, show ((0 : Nat) : Int) = 0 from rfl] at this
    rw [this, Nat.sub_zero, Nat.zero_min, show min 30000 y = y from by omega]
    exact (tab_ext _ _ _).2 fun i _ => by rw [Nat.zero_add]
  rw [e1, e2]
  by_cases h0 : lb = 0
  · subst h0
    have hb : b = [] := List.eq_nil_of_length_eq_zero hlb
    subst hb
    have hs : sizeW (z : Int) p 0 = (z : Int) := by unfold sizeW; rw [if_pos rfl]
    rw [hs, e3 z (by omega), show padN 0 p (min p z) = 0 from by unfold padN; rw [if_pos rfl], List.replicate_zero, List.nil_append, List.nil_append]
    have : tab z (octF L2) = tab (min p z + (z - (p + 0))) (octF L1) := by
      rw [show min p z + (z - (p + 0)) = z from by omega]
      exact (tab_ext _ _ _).2 fun i _ => by rw [hg i, if_neg (by omega)]
    rw [this, tab_app]
    congr 1
    exact (tab_ext _ _ _).2 fun i hi => by rw [show min p z = p + 0 from by omega]
  · have hs : sizeW (z : Int) p lb = ((p + (lb + (z - (p + lb))) : Nat) : Int) := by
      unfold sizeW; rw [if_neg h0]; omega
    rw [hs, e3 _ (by omega), tab_app, tab_app, show padN lb p (min p z) = p - min p z from by unfold padN; rw [if_neg h0]]
    have a1 : tab p (octF L2) = tab (min p z) (octF L1) ++ List.replicate (p - min p z) 0 := by
      rw [← tab_const]
      conv => lhs; rw [show p = min p z + (p - min p z) from by omega]
      rw [tab_app]
      congr 1
      · exact (tab_ext _ _ _).2 fun i hi => by rw [hg i, if_neg (by omega)]
      · exact (tab_ext _ _ _).2 fun i hi => by rw [hg _, if_neg (by omega), hz0 _ (by omega)]
    have a2 : (tab lb fun i => octF L2 (p + i)) = b := by
      rw [tab_of b 0, hlb]
      exact (tab_ext _ _ _).2 fun i hi => by rw [hg _, if_pos (by omega), show p + i - p = i from by omega]
    rw [a1, a2, List.append_assoc]
    congr 3
    exact (tab_ext _ _ _).2 fun i hi => by rw [hg _, if_neg (by omega), Nat.add_assoc]
/-- What is read after the two cuts. -/
theorem cut_plain (y n : Nat) (L2 L3 L4 : List Pc) (hy : y ≤ 30000) (hn : n < 4000) (hok : okF (y : Int) L2 = true) (h3 : CInv L2 (n : Int) L3) (h4 : CInv L3 ((n + 300 : Nat) : Int) L4) :
    readF ((n + 300 : Nat) : Int) L4 0 30000 = tab (n + 300) fun i => if i < n then ((readF (y : Int) L2 0 30000)[i]?).getD 0 else 0 := by
  have e3 : readF (y : Int) L2 0 30000 = tab y (octF L2) := by
    have := readF_nat y 0 30000 L2
    rw [show ((30000 : Nat) : Int) = 30000 from rfl, show ((0 : Nat) : Int) = 0 from rfl] at this
    rw [this, Nat.sub_zero, Nat.zero_min, show min 30000 y = y from by omega]
    exact (tab_ext _ _ _).2 fun i _ => by rw [Nat.zero_add]
  have := readF_nat (n + 300) 0 30000 L4
  rw [show ((30000 : Nat) : Int) = 30000 from rfl, show ((0 : Nat) : Int) = 0 from rfl] at this
  rw [this, Nat.sub_zero, Nat.zero_min, show min 30000 (n + 300) = n + 300 from by omega, e3]
  refine (tab_ext _ _ _).2 fun i hi => ?_
  rw [Nat.zero_add, h4.1 i, if_pos (by omega), h3.1 i]
  by_cases hin : i < n
  · rw [if_pos (by omega), if_pos hin]
    by_cases hiy : i < y
    · rw [tab_get _ _ _ hiy]; rfl
    · rw [List.getElem?_eq_none (by rw [tab_len]; omega)]
      exact ((okF_iff _ _).1 hok).2.2.2.2 i (by omega)
  · rw [if_neg (by omega), if_neg hin]
theorem st_index (P : Program) (t : TypeId) (ht : P.underlying t = some .string) (l : List UInt8) (k : Nat) (c : UInt8) (h : l[k]? = some c) (W : World) : (Instr.index t (.string (st l)) (.int .i64 (k : Int))).run P W = .ok (.int .u8 c.toNat) W := by
  have hk : k < l.length := (List.getElem?_eq_some_iff.1 h).1
  have hc : l[k] = c := (List.getElem?_eq_some_iff.1 h).2
  rw [run_index_string W t (st l) .i64 k ht, dif_pos (by rw [st_size]; omega)]
  have : (st l)[(k : Int).toNat]'(by rw [st_size]; omega) = c := by
    rw [← hc]
    show l.toArray[k]'(by simpa using hk) = l[k]
    simp
  rw [this]
end Go.Proofs.Ytpofkkoiicdpbaa
