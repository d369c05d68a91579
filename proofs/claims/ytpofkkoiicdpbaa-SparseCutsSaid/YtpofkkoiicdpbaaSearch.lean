/-
  Walk: sort.Search: the first place at which a test says yes, by halves.
-/
import Derived.Test.YtpofkkoiicdpbaaMem
import Derived.Deep.LoopGhost
namespace Go.Proofs.Ytpofkkoiicdpbaa
open Go.RowKit

set_option maxHeartbeats 2000000 in
set_option maxRecDepth 100000 in
theorem Search_any (n pos k : Nat) (caps : Array Value) (eg : ∀ args w, (callFunc k args).run Try.prog w = .ok (.enter k args) w) (w : World) (hn : n ≤ 1000000) (hp : pos ≤ n)
    (hf : ∀ (W : World) (h : Nat), Below w.heap.size w W → h < n → Calls Try.prog k (#[.int .i64 h] ++ caps) W fun e w' => e = .returned (.bool (decide (pos ≤ h))) ∧ Below W.heap.size W w') :
    Calls Try.prog 40 #[.int .i64 n, .func (.func k) #[] caps] w fun e w' => e = .returned (.int .i64 pos) ∧ Below w.heap.size w w' := by
  have HF := Lib.hid hf
  clear hf
  go_enter Try.func40, Try.ntmps40
  go_wp2
  go_loopw [5, 6] (fun i j wr => ∃ a b : Nat, a ≤ pos ∧ pos ≤ b ∧ b ≤ n ∧ i = .int .i64 a ∧ j = .int .i64 b ∧ Below w.heap.size w wr) (fun i j _ => (intOf j).toNat - (intOf i).toNat)
  case atStart => exact ⟨0, n, Nat.zero_le _, hp, Nat.le_refl _, rfl, rfl, Below.refl _ _⟩
  case round =>
    obtain ⟨a, b, ha, hb, hbn, rfl, rfl, hbw⟩ := hrel
    by_cases hlt : a < b
    · have hC := HF.out wr ((a + b) / 2) hbw (by omega)
      have hcast : (((a + b) / 2 : Nat) : Int) = ((a : Int) + (b : Int)) / 2 := by omega
      have HCAST := Lib.hid hcast
      have h1 : a ≤ (a + b) / 2 := by omega
      have h2 : (a + b) / 2 < b := by omega
      obtain ⟨m, hm⟩ : ∃ m, (a + b) / 2 = m := ⟨_, rfl⟩
      rw [hm] at hC h1 h2 HCAST
      by_cases hpm : pos ≤ m
      · rw [decide_eq_true hpm] at hC
        have HC := Lib.hid hC
        clear hC hcast hm
        go_wp2_with fail
        rw [← HCAST.out]
        refine HC.out.mono ?_
        rintro e w1 ⟨rfl, h3⟩
        go_wp2
        go_roundw
        case rel => exact ⟨a, m, ha, hpm, by omega, rfl, rfl, hbw.trans (h3.mono hbw.size)⟩
        case measure => simp [intOf]; omega
      · rw [decide_eq_false hpm] at hC
        have HC := Lib.hid hC
        have hpm2 : m + 1 ≤ pos := by omega
        clear hC hcast hm hpm
        go_wp2_with fail
        rw [← HCAST.out]
        refine HC.out.mono ?_
        rintro e w1 ⟨rfl, h3⟩
        go_wp2
        go_roundw
        case rel => exact ⟨m + 1, b, hpm2, hb, hbn, by go_num, rfl, hbw.trans (h3.mono hbw.size)⟩
        case measure => simp [intOf]; omega
    · obtain rfl : a = pos := by omega
      go_wp2
      go_ret
      exact ⟨rfl, hbw⟩
end Go.Proofs.Ytpofkkoiicdpbaa
