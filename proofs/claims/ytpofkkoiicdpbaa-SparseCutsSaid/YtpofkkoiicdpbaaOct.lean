/-
  Octets: texts as lists of octets, rows of octets as cells.
-/
import Derived.Test.YtpofkkoiicdpbaaMem
namespace Go.Proofs.Ytpofkkoiicdpbaa
open Go.RowKit

def oc (s : ByteArray) : List UInt8 := s.data.toList
def st (l : List UInt8) : ByteArray := ⟨l.toArray⟩
theorem oc_st (l : List UInt8) : oc (st l) = l := by simp [oc, st]
theorem st_oc (s : ByteArray) : st (oc s) = s := by simp [oc, st]
theorem oc_len (s : ByteArray) : (oc s).length = s.size := by simp [oc]
theorem st_size (l : List UInt8) : (st l).size = l.length := by rw [← oc_len, oc_st]
theorem oc_inj {s t : ByteArray} (h : oc s = oc t) : s = t := by rw [← st_oc s, h, st_oc]
theorem oc_extract (s : ByteArray) (a b : Nat) : oc (s.extract a b) = ((oc s).take b).drop a := by
  simp only [oc, ByteArray.data_extract, Array.toList_extract, List.extract_eq_take_drop]
  rw [List.drop_take]
theorem toList_oc (s : ByteArray) : s.toList = oc s := ByteArray.toList_eq s
theorem st_append (a b : List UInt8) : st (a ++ b) = st a ++ st b := oc_inj (by rw [oc_st]; simp [oc, st])
def octV (l : List UInt8) : List Value := l.map fun b => .int .u8 b.toNat
theorem octV_get (l : List UInt8) (k : Nat) (b : UInt8) (h : l[k]? = some b) : (octV l)[k]? = some (.int .u8 b.toNat) := by simp [octV, h]
theorem below_drewN {B : Nat} {a w : World} (h : Below B a w) (n : Nat) : Below B a (w.drewN n) := ⟨h.os, h.tape, h.output, h.size, h.block⟩
theorem text_eq (s q : ByteArray) (a b : List UInt8) (hs : oc s = a) (hq : oc q = b) : (s.toList == q.toList) = decide (a = b) := by
  rw [toList_oc, toList_oc, hs, hq, beq_dec]
end Go.Proofs.Ytpofkkoiicdpbaa
