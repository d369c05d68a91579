/-
  Walks: the program's folds and orders; the law's own small functions.
-/
import Derived.Test.YtnbjfhmajaiokaaTitleM
namespace Go.Proofs.Ytnbjfhmajaiokaa
open Go.RowKit

set_option maxHeartbeats 400000 in
theorem compare_any (a b : ByteArray) (w : World) :
    Calls Try.prog 31 #[.string a, .string b] w fun e w' => e = .returned (.int .i64 (cmpL (oc a) (oc b))) ∧ w = w' := by
  go_enter Try.func31, Try.ntmps31
  go_wp2_with fail
  refine (cmpString_any a b w).mono ?_
  rintro e w' ⟨rfl, rfl⟩
  go_wp2
  go_ret
  exact ⟨rfl, rfl⟩
set_option maxHeartbeats 400000 in
theorem Order_any (a b : ByteArray) (w : World) :
    Calls Try.prog 16 #[.string a, .string b] w fun e w' => e = .returned (.int .i64 (cmpL (oc a) (oc b))) ∧ w = w' := by
  go_enter Try.func16, Try.ntmps16
  go_wp2_with fail
  refine (compare_any a b w).mono ?_
  rintro e w' ⟨rfl, rfl⟩
  go_wp2
  go_ret
  exact ⟨rfl, rfl⟩

/-- The cells of octets. -/
def octV (l : List UInt8) : List Value := l.map fun b => .int .u8 b.toNat
theorem octV_get (l : List UInt8) (k : Nat) (b : UInt8) (h : l[k]? = some b) : (octV l)[k]? = some (.int .u8 b.toNat) := by simp [octV, h]
theorem fold_step (l : List UInt8) (k : Nat) (b : UInt8) (h : l[k]? = some b) : foldL (l.take (k + 1)) ++ l.drop (k + 1) = (foldL (l.take k) ++ l.drop k).set k (low b) := by
  obtain ⟨hl, rfl⟩ := List.getElem?_eq_some_iff.1 h
  have hk : (foldL (l.take k)).length = k := by rw [fold_len, List.length_take]; omega
  rw [List.drop_eq_getElem_cons hl, List.set_append_right _ _ (by omega), hk, Nat.sub_self, List.set_cons_zero]
  rw [List.take_add_one, List.getElem?_eq_getElem hl]
  show foldL (l.take k ++ [l[k]]) ++ _ = _
  unfold foldL
  rw [List.map_append, List.append_assoc]; rfl
theorem set_same (cs : Array Value) (k : Nat) (v : Value) (h : cs[k]? = some v) : cs.setIfInBounds k v = cs := by
  obtain ⟨hl, rfl⟩ := Array.getElem?_eq_some_iff.1 h
  apply Array.toList_inj.1
  rw [Array.toList_setIfInBounds]
  have hk : k < cs.toList.length := by simpa using hl
  have := @List.set_getElem_self _ cs.toList k hk
  simpa using this
theorem fold_at (l : List UInt8) (k : Nat) (h : k < l.length) : (foldL (l.take k) ++ l.drop k)[k]? = l[k]? := by
  have hk : (foldL (l.take k)).length = k := by rw [fold_len, List.length_take]; omega
  rw [List.getElem?_append_right (by omega), hk, Nat.sub_self, List.getElem?_drop, Nat.add_zero]
theorem low_up' (c : UInt8) (x : Nat) (hc : c.toNat = x) (h : 65 ≤ x ∧ x ≤ 90) : ((low c).toNat : Int) = x + 32 := by
  unfold low; rw [if_pos (by omega), UInt8.toNat_add]
  have : (32 : UInt8).toNat = 32 := rfl
  omega

set_option maxHeartbeats 1000000 in
theorem Fold_any (s : ByteArray) (w : World) (hs : s.size ≤ 1000000) :
    Calls Try.prog 17 #[.string s] w fun e w' => e = .returned (.string (st (foldL (oc s)))) ∧ Below w.heap.size w w' := by
  have kb := run_bytes_of_string (P := Try.prog) w 9 42 5 s Try.underlying9 Try.underlying42 Try.underlying5
  generalize hC : grownCap w s.size 0 5 = C at *
  have hC1 : s.size ≤ C := by rw [← hC]; exact grownCap_ge w s.size 0 _
  have hC2 : C ≤ maxLen := by rw [← hC]; exact grownCap_le_maxLen w s.size 0 _ (by unfold maxLen; omega)
  have hsz : (bytesRow s C).size = C := by unfold bytesRow; simp; have : s.data.size = s.size := rfl; omega
  have hbr : (bytesRow s C).toList = octV (oc s) ++ List.replicate (C - s.size) (.int .u8 0) := by
    unfold bytesRow octV oc; simp
  rw [hsz] at kb
  generalize bytesRow s C = row at *
  have HBR := Lib.hid hbr
  have HSZ := Lib.hid hsz
  clear hC hbr hsz
  go_enter Try.func17, Try.ntmps17
  go_wp2
  go_loopw [10] (fun i wr => ∃ k : Nat, k ≤ s.size ∧ i = .int .i64 k ∧ (∃ cs, Blk wr w.heap.size 5 (C, C + 1) cs ∧ cs.toList = octV (foldL ((oc s).take k) ++ (oc s).drop k) ++ List.replicate (C - s.size) (.int .u8 0)) ∧ Below w.heap.size w wr) (fun i _ => s.size - (intOf i).toNat)
  case atStart => exact ⟨0, Nat.zero_le _, rfl, ⟨row, Blk.new w.drew _ _ _, by rw [HBR.out]; rfl⟩, ((Below.refl _ _).drew.alloc (by simp) _)⟩
  case round =>
    obtain ⟨k, hk, rfl, ⟨cs, hblk, hcs⟩, hbw⟩ := hrel
    by_cases hlt : k < s.size
    · obtain ⟨b, hb⟩ : ∃ b, (oc s)[k]? = some b := ⟨_, List.getElem?_eq_getElem (by rw [oc_len]; exact hlt)⟩
      have hst := fold_step (oc s) k b hb
      have hlen : (octV (foldL ((oc s).take k) ++ (oc s).drop k)).length = s.size := by
        unfold octV; rw [List.length_map, List.length_append, fold_len, ← List.length_append, List.take_append_drop, oc_len]
      have hget : cs[k]? = some (.int .u8 b.toNat) := by
        rw [← Array.getElem?_toList, hcs, List.getElem?_append_left (by rw [hlen]; exact hlt)]
        exact octV_get _ _ _ (by rw [fold_at _ _ (by rw [oc_len]; exact hlt)]; exact hb)
      obtain ⟨x, hx⟩ : ∃ x, b.toNat = x := ⟨_, rfl⟩
      have hx8 : x < 256 := by rw [← hx]; exact UInt8.toNat_lt _
      have hcell : wr.cell? ⟨w.heap.size, k, none⟩ = some (.int .u8 x) := by rw [hblk.cell, hget, hx]
      have hfz : wr.frozen? ⟨w.heap.size, k, none⟩ = false := by
        rw [hblk.frozen]; simp; omega
      have hset : ∀ z : Int, z = (low b).toNat → (cs.setIfInBounds k (.int .u8 z)).toList = octV (foldL ((oc s).take (k + 1)) ++ (oc s).drop (k + 1)) ++ List.replicate (C - s.size) (.int .u8 0) := by
        intro z hz
        rw [Array.toList_setIfInBounds, hcs, List.set_append_left _ _ (by rw [hlen]; exact hlt), hst, hz]
        congr 1
        unfold octV; rw [List.map_set]
      have HSET := Lib.hid hset
      have HCS := Lib.hid hcs
      have hup := low_up' b x hx
      have HUP := Lib.hid hup
      have hno : ¬ (65 ≤ x ∧ x ≤ 90) → ((low b).toNat : Int) = x := fun h => by unfold low; rw [if_neg (by omega), hx]
      have HNO := Lib.hid hno
      have HST := Lib.hid hst
      have hget2 : cs[k]? = some (.int .u8 (x : Int)) := by rw [hget, hx]
      have HG := Lib.hid hget2
      have HB := Lib.hid hb
      clear hset hst hcs hup hno hget hget2 hx hlen hb
      by_cases hU : 65 ≤ x ∧ x ≤ 90
      · go_wp2
        go_roundw
        case rel => exact ⟨k + 1, by omega, by go_num, ⟨_, hblk.set_ k _, HSET.out _ (by rw [HUP.out hU]; omega)⟩, hbw.setCell (Nat.le_refl _) _⟩
        case measure => simp [intOf]; omega
      · have hkeep : cs.toList = octV (foldL ((oc s).take (k + 1)) ++ (oc s).drop (k + 1)) ++ List.replicate (C - s.size) (.int .u8 0) := by
          rw [← HSET.out x (HNO.out hU).symm, set_same _ _ _ HG.out]
        have HK := Lib.hid hkeep
        clear hkeep
        by_cases h65 : 65 ≤ x
        all_goals
          go_wp2
          go_roundw
          case rel => exact ⟨k + 1, by omega, by go_num, ⟨_, hblk, HK.out⟩, hbw⟩
          case measure => simp [intOf]; omega
    · have hks : k = s.size := by omega
      have e1 : (oc s).take k = oc s := List.take_of_length_le (by rw [oc_len]; omega)
      have e2 : (oc s).drop k = [] := List.drop_eq_nil_of_le (by rw [oc_len]; omega)
      rw [e1, e2, List.append_nil] at hcs
      have hrd : Rd wr wr.heap.size 1 (some ⟨w.heap.size, 0, none⟩) s.size ((foldL (oc s)).map fun b => .int .u8 b.toNat) :=
        ⟨by rw [List.length_map, fold_len, oc_len]; omega, fun _ => ⟨_, _, rfl, hblk.lt, fun j u hu => by
          rw [Nat.zero_add, hblk.cell, ← Array.getElem?_toList, hcs, List.getElem?_append_left (by have := (List.getElem?_eq_some_iff.1 hu).1; simpa [octV] using this)]; exact hu⟩⟩
      have kc := conv_bytes (P := Try.prog) wr 42 9 5 (c := C) Try.underlying42 Try.underlying5 Try.underlying9 hrd
      have hst : (⟨(foldL (oc s)).toArray⟩ : ByteArray) = st (foldL (oc s)) := rfl
      rw [hst] at kc
      clear hcs hrd e1 e2 hst kb
      go_wp2
      go_ret
      exact ⟨rfl, hbw⟩
end Go.Proofs.Ytnbjfhmajaiokaa
