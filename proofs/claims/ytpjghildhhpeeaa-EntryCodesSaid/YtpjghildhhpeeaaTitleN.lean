/-
  Walks: the program's folds and orders; the law's own small functions.
-/
import Derived.Test.YtpjghildhhpeeaaTitleM
namespace Go.Proofs.Ytpjghildhhpeeaa
open Go.RowKit

set_option maxHeartbeats 400000 in
theorem compare_any (a b : ByteArray) (w : World) :
    Calls Try.prog 50 #[.string a, .string b] w fun e w' => e = .returned (.int .i64 (cmpL (oc a) (oc b))) ∧ w = w' := by
  go_enter Try.func50, Try.ntmps50
  go_wp2_with fail
  refine (cmpString_any a b w).mono ?_
  rintro e w' ⟨rfl, rfl⟩
  go_wp2
  go_ret
  exact ⟨rfl, rfl⟩
set_option maxHeartbeats 400000 in
theorem Order_any (a b : ByteArray) (w : World) :
    Calls Try.prog 34 #[.string a, .string b] w fun e w' => e = .returned (.int .i64 (cmpL (oc a) (oc b))) ∧ w = w' := by
  go_enter Try.func34, Try.ntmps34
  go_wp2_with fail
  refine (compare_any a b w).mono ?_
  rintro e w' ⟨rfl, rfl⟩
  go_wp2
  go_ret
  exact ⟨rfl, rfl⟩

/-- The cells of octets. -/
def octV (l : List UInt8) : List Value := l.map fun b => .int .u8 b.toNat
theorem octV_get (l : List UInt8) (k : Nat) (b : UInt8) (h : l[k]? = some b) : (octV l)[k]? = some (.int .u8 b.toNat) := by simp [octV, h]
theorem fold_step (l : List UInt8) (k : Nat) (b : UInt8) (h : l[k]? = some b) : foldL (l.take (k + 1)) ++ l.drop (k + 1) = (foldL (l.take k) ++ l.drop k).set k (low b) := by
  obtain ⟨hl, rfl⟩ := List.getElem?_eq_some_iff.1 h
  have hk : (foldL (l.take k)).length = k := by rw [fold_len, List.length_take]; omega
  rw [List.drop_eq_getElem_cons hl, List.set_append_right _ _ (by omega), hk, Nat.sub_self, List.set_cons_zero]
  rw [List.take_add_one, List.getElem?_eq_getElem hl]
  show foldL (l.take k ++ [l[k]]) ++ _ = _
  unfold foldL
  rw [List.map_append, List.append_assoc]; rfl
theorem set_same (cs : Array Value) (k : Nat) (v : Value) (h : cs[k]? = some v) : cs.setIfInBounds k v = cs := by
  obtain ⟨hl, rfl⟩ := Array.getElem?_eq_some_iff.1 h
  apply Array.toList_inj.1
  rw [Array.toList_setIfInBounds]
  have hk : k < cs.toList.length := by simpa using hl
  have := @List.set_getElem_self _ cs.toList k hk
  simpa using this
theorem fold_at (l : List UInt8) (k : Nat) (h : k < l.length) : (foldL (l.take k) ++ l.drop k)[k]? = l[k]? := by
  have hk : (foldL (l.take k)).length = k := by rw [fold_len, List.length_take]; omega
  rw [List.getElem?_append_right (by omega), hk, Nat.sub_self, List.getElem?_drop, Nat.add_zero]
theorem low_up' (c : UInt8) (x : Nat) (hc : c.toNat = x) (h : 65 ≤ x ∧ x ≤ 90) : ((low c).toNat : Int) = x + 32 := by
  unfold low; rw [if_pos (by omega), UInt8.toNat_add]
  have : (32 : UInt8).toNat = 32 := rfl
  omega

end Go.Proofs.Ytpjghildhhpeeaa
