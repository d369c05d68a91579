/-
  Walks: the reference's fold and order.
-/
import Derived.Test.YtnbjfhmajaiokaaTitleF
namespace Go.Proofs.Ytnbjfhmajaiokaa
open Go.RowKit

theorem byte_low (c : UInt8) : (c.toNat : Int) = ((c.toNat : Nat) : Int) := rfl
theorem oc_take_snoc (s : ByteArray) (k : Nat) (h : k < s.size) : (oc s).take (k + 1) = (oc s).take k ++ [s[k]'h] := by
  have : (oc s)[k]? = some (s[k]'h) := by
    rw [List.getElem?_eq_getElem (by rw [oc_len]; exact h)]; rfl
  rw [List.take_add_one, this]; rfl

theorem conv_one (w : World) (z : Int) : (convert 42 9 (.slice (some ⟨w.heap.size, 0, none⟩) 1 1)).run Try.prog (w.alloc (.cells #[.int .u8 z] 5)) = .ok (.string (st [UInt8.ofNat z.toNat])) (w.alloc (.cells #[.int .u8 z] 5)) := by
  rw [run_convert_bytes_string _ _ _ _ _ _ _ Try.underlying42 Try.underlying5 Try.underlying9]
  have hl := run_loadCells_list (P := Try.prog) (w.alloc (.cells #[.int .u8 z] 5)) ⟨w.heap.size, 0, none⟩ ([z].map (Value.int .u8)) (fun j v hj => by
    exact new_cells w _ _ _ rfl j v hj)
  exact (run_bytesToString _ _ 1 1 [z] hl).trans rfl

theorem low_up (c : UInt8) (h : 65 ≤ c.toNat ∧ c.toNat ≤ 90) : low c = UInt8.ofNat (c.toNat + 32) := by
  unfold low; rw [if_pos h]
  apply UInt8.toNat_inj.1
  rw [UInt8.toNat_add, UInt8.toNat_ofNat']; rfl
theorem low_no (c : UInt8) (h : ¬ (65 ≤ c.toNat ∧ c.toNat ≤ 90)) : low c = UInt8.ofNat c.toNat := by
  unfold low; rw [if_neg h]; simp

set_option maxHeartbeats 1000000 in
theorem rFold_any (s : ByteArray) (w : World) (hs : s.size ≤ 1000000) :
    Calls Try.prog 18 #[.string s] w fun e w' => e = .returned (.string (st (foldL (oc s)))) ∧ Below w.heap.size w w' := by
  go_enter Try.func18, Try.ntmps18
  go_wp2
  go_loopw [3, 4] (fun t i wr => ∃ k : Nat, k ≤ s.size ∧ i = .int .i64 k ∧ t = .string (st (foldL ((oc s).take k))) ∧ Below w.heap.size w wr) (fun _ i _ => s.size - (intOf i).toNat)
  case atStart => exact ⟨0, Nat.zero_le _, rfl, rfl, Below.refl _ _⟩
  case round =>
    obtain ⟨k, hk, rfl, rfl, hbw⟩ := hrel
    by_cases hlt : k < s.size
    · have hts := st_size (foldL ((oc s).take k))
      rw [fold_len, List.length_take, oc_len] at hts
      have hx : st (foldL ((oc s).take (k + 1))) = st (foldL ((oc s).take k)) ++ st [low (s[k]'hlt)] := by
        rw [oc_take_snoc s k hlt]; unfold foldL; rw [List.map_append, st_append]; rfl
      have HX := Lib.hid hx
      have ht' : (st (foldL ((oc s).take k))).size ≤ 1000000 := by omega
      generalize st (foldL ((oc s).take k)) = t at *
      clear hx hts
      have hbw' := hbw.alloc hbw.size (.cells #[.int .u8 ((s[k]'hlt).toNat : Int)] 5)
      have hbw2 := hbw.alloc hbw.size (.cells #[.int .u8 (((s[k]'hlt).toNat : Int) + 32)] 5)
      obtain ⟨x, hx⟩ : ∃ x, (s[k]'hlt).toNat = x := ⟨_, rfl⟩
      have hx8 : x < 256 := by rw [← hx]; exact UInt8.toNat_lt _
      have hs1 : (st [low (s[k]'hlt)]).size = 1 := st_size _
      rw [hx] at hbw' hbw2
      have kb := conv_one wr
      by_cases hup : 65 ≤ x ∧ x ≤ 90
      · have hl := low_up (s[k]'hlt) (by rw [hx]; exact hup)
        rw [hx] at hl
        have e1 : UInt8.ofNat ((x : Int) + 32).toNat = low (s[k]'hlt) := by rw [hl]; congr 1
        have hq : st [UInt8.ofNat ((x : Int) + 32).toNat] = st [low (s[k]'hlt)] := by rw [e1]
        generalize st [low (s[k]'hlt)] = q at *
        have kb2 := kb ((x : Int) + 32)
        rw [hq] at kb2
        clear hl e1 hq kb
        go_wp2
        go_roundw
        case rel => exact ⟨k + 1, by omega, by go_num, by rw [HX.out], hbw2⟩
        case measure => simp [intOf]; omega
      · have hl := low_no (s[k]'hlt) (by rw [hx]; exact hup)
        rw [hx] at hl
        have e1 : UInt8.ofNat (x : Int).toNat = low (s[k]'hlt) := by rw [hl]; congr 1
        have hq : st [UInt8.ofNat (x : Int).toNat] = st [low (s[k]'hlt)] := by rw [e1]
        generalize st [low (s[k]'hlt)] = q at *
        have kb2 := kb (x : Int)
        rw [hq] at kb2
        clear hl e1 hq kb
        by_cases h65 : 65 ≤ x
        all_goals
          go_wp2
          go_roundw
          case rel => exact ⟨k + 1, by omega, by go_num, by rw [HX.out], hbw'⟩
          case measure => simp [intOf]; omega
    · have e : (oc s).take k = oc s := List.take_of_length_le (by rw [oc_len]; omega)
      have HE := Lib.hid e
      clear e
      go_wp2
      go_ret
      exact ⟨ret_str (by rw [HE.out]), hbw⟩
end Go.Proofs.Ytnbjfhmajaiokaa
