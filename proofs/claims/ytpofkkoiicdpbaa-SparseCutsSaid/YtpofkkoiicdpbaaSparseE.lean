/-
  Walks: copies of rows of octets and of blocks; bytes.Count of noughts; may a file be (the program's, and the document's).
-/
import Derived.Test.YtpofkkoiicdpbaaSparseD
import Derived.Test.YtpofkkoiicdpbaaAppB
namespace Go.Proofs.Ytpofkkoiicdpbaa
open Go.RowKit
set_option linter.unusedVariables false

set_option maxHeartbeats 1000000 in
set_option maxRecDepth 100000 in
/-- slices.Clone at octets: a row of the call's own. -/
theorem CloneB_any (A : Option Addr) (n c : Nat) (xs : List Value) (w : World) (hr : Rd w w.heap.size 1 A n xs) (hone : ∀ u ∈ xs, u.oneCell' = true) (hn : n ≤ 1000000) (hnc : n ≤ c) (hnil : A = none → c = 0) :
    Calls Try.prog 37 #[.slice A n c] w fun e w' => (∃ v, e = .returned v ∧ w'.ownsRow w.heap.size 5 1 v n xs) ∧ Below w.heap.size w w' := by
  obtain ⟨i0, hi, hz0, hz1, hz2⟩ := info_parts Try.info5
  have HONE := Lib.hid hone
  have HR := Lib.hid hr
  clear hone
  cases A with
  | none =>
    have h0 : n = 0 := by have := hnil rfl; omega
    subst h0
    have hx : xs = [] := List.eq_nil_of_length_eq_zero (by have := hr.1; omega)
    subst hx
    have hc := hnil rfl
    subst hc
    have HO : Hid (∀ W : World, W.ownsRow w.heap.size 5 1 (.slice none 0 0) 0 []) := Lib.hid fun W => ⟨rfl, .inl ⟨rfl, rfl⟩⟩
    have hnl : ∀ W : World, (binOp .eql 25 (.slice none 0 0) (.slice none 0 0)).run Try.prog W = .ok (.bool true) W := fun W => Lib.run_eql_slice_nil W 25 5 none 0 0 0 0 Try.underlying25
    clear hr hnil hnc hn
    go_enter Try.func37, Try.ntmps37
    go_wp2
    go_ret
    exact ⟨⟨_, rfl, HO.out _⟩, Below.refl _ _⟩
  | some ad =>
    clear hnil
    have hnil2 : ((some ad : Option Addr) = none → c = 0) := fun h => by cases h
    have HNIL := Lib.hid hnil2
    have hown0 : ∀ W : World, (W.alloc (.cells #[] 5)).ownsRow W.heap.size 5 1 (.slice (some ⟨W.heap.size, 0, none⟩) 0 0) 0 [] := fun W => (OwnB.lit W W.heap.size (Nat.le_refl _) 5 1 0 #[] (by simp) (by simp)).own
    have HO0 := Lib.hid hown0
    have hb0 : Below w.heap.size w (w.alloc (.cells #[] 5)) := (Below.refl _ _).alloc (Nat.le_refl _) _
    have HR2 := Lib.hid ((hr.below hb0).more hb0.size)
    have hnl : ∀ W : World, (binOp .eql 25 (.slice (some ad) n c) (.slice none 0 0)).run Try.prog W = .ok (.bool false) W := fun W => Lib.run_eql_slice_nil W 25 5 (some ad) n c 0 0 Try.underlying25
    clear hr hown0 hnil2
    go_enter Try.func37, Try.ntmps37
    go_wp2_with (at_builtin; refine wpList_append_rd rfl (.tmp 5) (.tmp 6) 25 rfl w.heap.size 5 i0 _ 1 1 Try.underlying25 hi hz0 hz1 hz2 rfl (by decide) _ _ _ rfl (HO0.out w) (some ad) n c _ xs (by rfl) HNIL.out HR2.out HONE.out (by unfold maxLen; omega) (by omega) (base_alloc (Nat.le_refl _) _) ?_)
    intro v' w' hown' hb'
    have hb1 := hb0.trans hb'
    have HO : Hid (w'.ownsRow w.heap.size 5 1 v' n xs) := Lib.hid (by simpa using hown')
    clear hown'
    go_wp2
    go_ret
    exact ⟨⟨_, rfl, HO.out⟩, hb1⟩
set_option maxHeartbeats 1000000 in
set_option maxRecDepth 100000 in
/-- slices.Clone at blocks: a row of the call's own. -/
theorem CloneP_any (A : Option Addr) (n c : Nat) (xs : List Value) (w : World) (hr : Rd w w.heap.size 2 A n xs) (hone : ∀ u ∈ xs, u.oneCell' = true) (hn : n ≤ 1000000) (hnc : n ≤ c) (hnil : A = none → c = 0) :
    Calls Try.prog 29 #[.slice A n c] w fun e w' => (∃ v, e = .returned v ∧ w'.ownsRow w.heap.size 62 2 v n xs) ∧ Below w.heap.size w w' := by
  obtain ⟨i0, hi, hz0, hz1, hz2⟩ := info_parts Try.info62
  have HONE := Lib.hid hone
  have HR := Lib.hid hr
  clear hone
  cases A with
  | none =>
    have h0 : n = 0 := by have := hnil rfl; omega
    subst h0
    have hx : xs = [] := List.eq_nil_of_length_eq_zero (by have := hr.1; omega)
    subst hx
    have hc := hnil rfl
    subst hc
    have HO : Hid (∀ W : World, W.ownsRow w.heap.size 62 2 (.slice none 0 0) 0 []) := Lib.hid fun W => ⟨rfl, .inl ⟨rfl, rfl⟩⟩
    have hnl : ∀ W : World, (binOp .eql 22 (.slice none 0 0) (.slice none 0 0)).run Try.prog W = .ok (.bool true) W := fun W => Lib.run_eql_slice_nil W 22 62 none 0 0 0 0 Try.underlying22
    clear hr hnil hnc hn
    go_enter Try.func29, Try.ntmps29
    go_wp2
    go_ret
    exact ⟨⟨_, rfl, HO.out _⟩, Below.refl _ _⟩
  | some ad =>
    clear hnil
    have hnil2 : ((some ad : Option Addr) = none → c = 0) := fun h => by cases h
    have HNIL := Lib.hid hnil2
    have hown0 : ∀ W : World, (W.alloc (.cells #[] 62)).ownsRow W.heap.size 62 2 (.slice (some ⟨W.heap.size, 0, none⟩) 0 0) 0 [] := fun W => (OwnB.lit W W.heap.size (Nat.le_refl _) 62 2 0 #[] (by simp) (by simp)).own
    have HO0 := Lib.hid hown0
    have hb0 : Below w.heap.size w (w.alloc (.cells #[] 62)) := (Below.refl _ _).alloc (Nat.le_refl _) _
    have HR2 := Lib.hid ((hr.below hb0).more hb0.size)
    have hnl : ∀ W : World, (binOp .eql 22 (.slice (some ad) n c) (.slice none 0 0)).run Try.prog W = .ok (.bool false) W := fun W => Lib.run_eql_slice_nil W 22 62 (some ad) n c 0 0 Try.underlying22
    clear hr hown0 hnil2
    go_enter Try.func29, Try.ntmps29
    go_wp2_with (at_builtin; refine wpList_append_rd rfl (.tmp 5) (.tmp 6) 22 rfl w.heap.size 62 i0 _ 2 32 Try.underlying22 hi hz0 hz1 hz2 rfl (by decide) _ _ _ rfl (HO0.out w) (some ad) n c _ xs (by rfl) HNIL.out HR2.out HONE.out (by unfold maxLen; omega) (by omega) (base_alloc (Nat.le_refl _) _) ?_)
    intro v' w' hown' hb'
    have hb1 := hb0.trans hb'
    have HO : Hid (w'.ownsRow w.heap.size 62 2 v' n xs) := Lib.hid (by simpa using hown')
    clear hown'
    go_wp2
    go_ret
    exact ⟨⟨_, rfl, HO.out⟩, hb1⟩

theorem bytes_nats (l : List UInt8) : Lib.bytesOf (l.map fun b => (b.toNat : Int)) = l := by
  unfold Lib.bytesOf
  rw [List.map_map]
  conv => rhs; rw [← List.map_id l]
  refine List.map_congr_left fun b _ => ?_
  simp

set_option maxHeartbeats 1000000 in
/-- bytes.Count at a separator of one nought. -/
theorem Count_zero (g o n c gs : Nat) (l : List UInt8) (B : Nat) (w : World) (h : Rd w B 1 (some ⟨g, o, none⟩) n (octV l)) (hs : w.cell? ⟨gs, 0, none⟩ = some (.int .u8 0)) :
    Calls Try.prog 33 #[.slice (some ⟨g, o, none⟩) n c, .slice (some ⟨gs, 0, none⟩) 1 1] w fun e w' => e = .returned (.int .i64 (l.count 0)) ∧ w = w' := by
  have hl : n = l.length := by have := h.1; rw [octV_len] at this; omega
  have hc : ∀ i, i < n → w.cell? ⟨g, o + i, none⟩ = some (.int .u8 ((l.map fun b => (b.toNat : Int)).getD i 0)) := fun i hi => by
    obtain ⟨g', o', e, _, hcell⟩ := h.2 (by omega)
    injection e with e
    injection e with e1 e2 _
    subst e1 e2
    have hb : l[i]? = some l[i] := List.getElem?_eq_getElem (by omega)
    rw [hcell i _ (octV_get l i _ hb)]
    simp [List.getD_eq_getElem?_getD, hb]
  have hx := Lib.run_countSlice (P := Try.prog) w g o n c _ (by rw [List.length_map]; exact hl.symm) hc 0
  rw [bytes_nats] at hx
  have hcall : (callFunc 43 #[.slice (some ⟨g, o, none⟩) n c, .int .u8 0]).run Try.prog w = .ok (.value (.int .i64 (l.count 0))) w := by
    rw [run_callFunc_extern Try.func43 (by kernel_rfl) (by kernel_rfl) (by kernel_rfl) (e := Extern.BytealgCount.count) (by kernel_rfl), hx]
    rfl
  clear hx hc hl h
  go_enter Try.func33, Try.ntmps33
  go_wp2_with (simp only [hcall])
  go_ret
  exact ⟨rfl, rfl⟩
end Go.Proofs.Ytpofkkoiicdpbaa
