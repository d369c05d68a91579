/-
  Walks: the reference's fold and order.
-/
import Derived.Test.YtpjghildhhpeeaaTitleF
namespace Go.Proofs.Ytpjghildhhpeeaa
open Go.RowKit

theorem byte_low (c : UInt8) : (c.toNat : Int) = ((c.toNat : Nat) : Int) := rfl
theorem oc_take_snoc (s : ByteArray) (k : Nat) (h : k < s.size) : (oc s).take (k + 1) = (oc s).take k ++ [s[k]'h] := by
  have : (oc s)[k]? = some (s[k]'h) := by
    rw [List.getElem?_eq_getElem (by rw [oc_len]; exact h)]; rfl
  rw [List.take_add_one, this]; rfl

theorem conv_one (w : World) (z : Int) : (convert 42 9 (.slice (some ⟨w.heap.size, 0, none⟩) 1 1)).run Try.prog (w.alloc (.cells #[.int .u8 z] 5)) = .ok (.string (st [UInt8.ofNat z.toNat])) (w.alloc (.cells #[.int .u8 z] 5)) := by
  rw [run_convert_bytes_string _ _ _ _ _ _ _ Try.underlying42 Try.underlying5 Try.underlying9]
  have hl := run_loadCells_list (P := Try.prog) (w.alloc (.cells #[.int .u8 z] 5)) ⟨w.heap.size, 0, none⟩ ([z].map (Value.int .u8)) (fun j v hj => by
    exact new_cells w _ _ _ rfl j v hj)
  exact (run_bytesToString _ _ 1 1 [z] hl).trans rfl

theorem low_up (c : UInt8) (h : 65 ≤ c.toNat ∧ c.toNat ≤ 90) : low c = UInt8.ofNat (c.toNat + 32) := by
  unfold low; rw [if_pos h]
  apply UInt8.toNat_inj.1
  rw [UInt8.toNat_add, UInt8.toNat_ofNat']; rfl
theorem low_no (c : UInt8) (h : ¬ (65 ≤ c.toNat ∧ c.toNat ≤ 90)) : low c = UInt8.ofNat c.toNat := by
  unfold low; rw [if_neg h]; simp

end Go.Proofs.Ytpjghildhhpeeaa
