/-
  Walks: the examples of the chapter on entries; the law EntryRules.
-/
import Derived.Test.YtpjghildhhpeeaaEntryH
import Derived.Test.YtpjghildhhpeeaaEntryI
namespace Go.Proofs.Ytpjghildhhpeeaa
open Go.RowKit

def aE : Ent := ([97], 5, 1)
theorem a_name : isName [97] = true := by decide +kernel
theorem b_name : isName [98] = true := by decide +kernel
theorem a_code : codeE [aE] = ([5, 1, 1, 97], 0) := by decide +kernel
theorem a_add : addE [aE] aE = ([], 7) := by decide +kernel
theorem a_take : takeE [aE] [98] = ([], 6) := by decide +kernel

set_option maxHeartbeats 4000000 in
set_option maxRecDepth 100000 in
theorem awake_any (w : World) : Calls Try.prog 16 #[] w fun e w' => e = .returned (.bool true) ∧ Below w.heap.size w w' := by
  obtain ⟨wx, hwx⟩ : ∃ wx, w.alloc (.cells #[.string ⟨#[97]⟩, .int .i64 5, .int .i64 1] 24) = wx := ⟨_, rfl⟩
  have hbx : Below w.heap.size w wx := by rw [← hwx]; exact (Below.refl _ _).alloc (Nat.le_refl _) _
  have hsx : w.heap.size < wx.heap.size := by rw [← hwx]; simp
  have hB : Blk wx w.heap.size 24 (0, 0) #[.string ⟨#[97]⟩, .int .i64 5, .int .i64 1] := by rw [← hwx]; exact Blk.new w _ _ _
  have hr : Rd wx wx.heap.size 3 (some ⟨w.heap.size, 0, none⟩) 1 (rowE [aE]) := by
    refine ⟨rfl, fun _ => ⟨_, _, rfl, hsx, fun j u hu => ?_⟩⟩
    rw [Nat.zero_add, hB.cell, ← Array.getElem?_toList]
    exact hu
  have hsz : ∀ x ∈ [aE], x.1.length ≤ 1000000 := by intro x hx; rw [List.mem_singleton.1 hx]; decide
  have hE := Encode_any (some ⟨w.heap.size, 0, none⟩) 1 1 [aE] wx hr (by omega) hsz
  rw [a_code] at hE
  have hA : ∀ W, Below wx.heap.size wx W → Calls Try.prog 11 #[.slice (some ⟨w.heap.size, 0, none⟩) 1 1, .agg #[.string ⟨#[97]⟩, .int .i64 5, .int .i64 1]] W fun e w' => (∃ v, e = .returned (.tuple #[v, .int .i64 7]) ∧ OwnE W w' v []) ∧ Below W.heap.size W w' := fun W h => by
    have := Add_any (some ⟨w.heap.size, 0, none⟩) 1 1 [aE] aE W ((hr.below h).more h.size) (by omega) (by omega) (fun e => by cases e) hsz (by decide)
    rw [a_add] at this
    exact this
  have hT : ∀ W, Below wx.heap.size wx W → Calls Try.prog 13 #[.slice (some ⟨w.heap.size, 0, none⟩) 1 1, .string ⟨#[98]⟩] W fun e w' => (∃ v, e = .returned (.tuple #[v, .int .i64 6]) ∧ OwnE W w' v []) ∧ Below W.heap.size W w' := fun W h => by
    have := Take_any (some ⟨w.heap.size, 0, none⟩) 1 1 [aE] ⟨#[98]⟩ W ((hr.below h).more h.size) (by omega) (by omega) (fun e => by cases e) hsz (by decide)
    rw [show oc (⟨#[98]⟩ : ByteArray) = [98] from rfl, a_take] at this
    exact this
  have HWX := Lib.hid hwx
  have HE := Lib.hid hE
  have HA := Lib.hid hA
  have HT := Lib.hid hT
  have HBB := Lib.hid hB
  clear hwx hE hA hT hr hsz hB
  go_enter Try.func16, Try.ntmps16
  go_wp2_with fail
  rw [HWX.out]
  refine HE.out.mono ?_
  rintro e w1 ⟨⟨v1, rfl, o1⟩, h1⟩
  have o1' : w1.ownsRow wx.heap.size 5 1 v1 4 (octV [5, 1, 1, 97]) := o1
  obtain ⟨A1, c1, rfl, _, _, hr1⟩ := own_form o1'
  clear o1'
  have HR1 := Lib.hid hr1
  clear o1 hr1
  obtain ⟨x0, x1, x2, _⟩ := blk3 (HBB.out.below h1 hsx)
  go_wp2_with fail
  refine (HA.out _ h1).mono ?_
  rintro e w2 ⟨⟨v2, rfl, _⟩, h2⟩
  have d2 := h1.trans (h2.mono h1.size)
  go_wp2_with fail
  refine (HT.out _ d2).mono ?_
  rintro e w3 ⟨⟨v3, rfl, _⟩, h3⟩
  have d3 := d2.trans (h3.mono d2.size)
  have b3 := hbx.trans (d3.mono (Nat.le_of_lt hsx))
  have hr3 := (HR1.out.below h2).below (h3.mono h2.size)
  have hcv : (convert 42 9 (.slice A1 4 c1)).run Try.prog w3 = .ok (.string ⟨#[5, 1, 1, 97]⟩) w3 := conv_bytes w3 42 9 5 (c := c1) Try.underlying42 Try.underlying5 Try.underlying9 hr3
  clear hr3
  go_wp2
  go_goals
  go_ret
  exact ⟨by simp, b3⟩
end Go.Proofs.Ytpjghildhhpeeaa
