/-
  Walks: the reference's nodes and numbers.
-/
import Derived.Test.YtmladfkafbjmoaaReachD
namespace Go.Proofs.Ytmladfkafbjmoaa
open Go.RowKit

theorem node1 (k : Nat) (h : k < 3) : nodeN k = [6 + k] := by unfold nodeN; rw [if_pos h]
theorem node2 (k : Nat) (h : 3 ≤ k ∧ k < 33) : nodeN k = [7 + (k - 3) / 15, (k - 3) % 15] := by unfold nodeN; rw [if_neg (by omega), if_pos h.2]
theorem node3 (k : Nat) (h : 33 ≤ k) : nodeN k = [8, (k - 33) / 15, (k - 33) % 15] := by unfold nodeN; rw [if_neg (by omega), if_neg (by omega)]

set_option maxHeartbeats 2000000 in
set_option maxRecDepth 100000 in
theorem rNode_ok (N : Nat) (w : World) (hN : N < 258) :
    Calls Try.prog 17 #[.int .i64 N] w fun e w' => ∃ v, e = .returned v ∧ OwnI w w' v (toZ (nodeN N)) ∧ Below w.heap.size w w' := by
  have fin1 : ∀ t : Nat, t < 3 → t = N → OwnI w (w.alloc (.cells #[.int .i64 ((t : Int) + 6)] 3)) (.slice (some ⟨w.heap.size, 0, none⟩) 1 1) (toZ (nodeN N)) := fun t h3 h => by
    subst h
    rw [toZ_eq1 (x := (t : Int) + 6) (node1 t h3) (by omega)]
    exact (OwnB.lit w w.heap.size (Nat.le_refl _) 3 1 1 #[.int .i64 ((t : Int) + 6)] (by simp) (by simp [maxLen])).own
  have fin2 : ∀ u a : Nat, u < 2 → a < 15 → 3 + 15 * u + a = N → OwnI w (w.alloc (.cells #[.int .i64 ((u : Int) + 7), .int .i64 a] 3)) (.slice (some ⟨w.heap.size, 0, none⟩) 2 2) (toZ (nodeN N)) := fun u a hu ha h => by
    rw [toZ_eq2 (x := (u : Int) + 7) (y := (a : Int)) (node2 N (by omega)) (by omega) (by omega)]
    exact (OwnB.lit w w.heap.size (Nat.le_refl _) 3 1 2 #[.int .i64 ((u : Int) + 7), .int .i64 a] (by simp) (by simp [maxLen])).own
  have fin3 : ∀ a b : Nat, a < 15 → b < 15 → 33 + 15 * a + b = N → OwnI w (w.alloc (.cells #[.int .i64 8, .int .i64 a, .int .i64 b] 3)) (.slice (some ⟨w.heap.size, 0, none⟩) 3 3) (toZ (nodeN N)) := fun a b ha hb h => by
    rw [toZ_eq3 (x := (8 : Int)) (y := (a : Int)) (z := (b : Int)) (node3 N (by omega)) (by omega) (by omega) (by omega)]
    exact (OwnB.lit w w.heap.size (Nat.le_refl _) 3 1 3 #[.int .i64 8, .int .i64 a, .int .i64 b] (by simp) (by simp [maxLen])).own
  have F1 := Lib.hid fin1
  have F2 := Lib.hid fin2
  have F3 := Lib.hid fin3
  clear fin1 fin2 fin3
  have hbl : ∀ o, Below w.heap.size w (w.alloc o) := fun o => (Below.refl _ _).alloc (Nat.le_refl _) o
  have HBL := Lib.hid hbl
  clear hbl
  go_enter Try.func17, Try.ntmps17
  go_wp2
  go_loop [3, 4] (fun k top => ∃ t : Nat, t ≤ 3 ∧ t ≤ N ∧ k = .int .i64 t ∧ top = .int .i64 ((t : Int) + 6)) (fun _ top => 9 - (intOf top).toNat)
  case atStart => exact ⟨0, by omega, by omega, rfl, rfl⟩
  case round =>
    obtain ⟨t, ht, htN, rfl, rfl⟩ := hrel
    by_cases hlt : t < 3
    · by_cases heq : t = N
      · have he : ((t : Int) == (N : Int)) = true := by simp; omega
        have HQ := Lib.hid heq
        clear heq
        go_wp2
        go_ret
        exact ⟨_, rfl, F1.out t hlt HQ.out, HBL.out _⟩
      · have he : ((t : Int) == (N : Int)) = false := by simp; omega
        go_wp2
        go_round
        case rel => exact ⟨t + 1, by omega, by omega, by go_num, by go_num⟩
        case measure => simp [intOf]; omega
    · obtain rfl : t = 3 := by omega
      go_wp2
      go_loop [3, 5, 6] (fun k top _ => ∃ u : Nat, u ≤ 2 ∧ 3 + 15 * u ≤ N ∧ k = .int .i64 (3 + 15 * (u : Int)) ∧ top = .int .i64 ((u : Int) + 7)) (fun _ top _ => 9 - (intOf top).toNat)
      case atStart => exact ⟨0, by omega, by omega, rfl, rfl⟩
      case round =>
        obtain ⟨u, hu, huN, rfl, rfl⟩ := hrel
        by_cases hlt : u < 2
        · go_wp2
          go_loop [3, 6] (fun k i => ∃ a : Nat, a ≤ 15 ∧ 3 + 15 * u + a ≤ N ∧ k = .int .i64 (3 + 15 * (u : Int) + a) ∧ i = .int .i64 a) (fun _ i => 15 - (intOf i).toNat)
          case atStart => exact ⟨0, by omega, by omega, by simp, rfl⟩
          case round =>
            obtain ⟨a, ha, haN, rfl, rfl⟩ := hrel
            by_cases hla : a < 15
            · by_cases heq : 3 + 15 * u + a = N
              · have he : ((3 + 15 * (u : Int) + a) == (N : Int)) = true := by simp; omega
                have HQ := Lib.hid heq
                clear heq
                go_wp2
                go_ret
                exact ⟨_, rfl, F2.out u a hlt hla HQ.out, HBL.out _⟩
              · have he : ((3 + 15 * (u : Int) + a) == (N : Int)) = false := by simp; omega
                go_wp2
                go_round
                case rel => exact ⟨a + 1, by omega, by omega, by go_num, by go_num⟩
                case measure => simp [intOf]; omega
            · obtain rfl : a = 15 := by omega
              go_wp2
              go_round
              case rel => exact ⟨u + 1, by omega, by omega, by go_num, by go_num⟩
              case measure => simp [intOf]; omega
        · obtain rfl : u = 2 := by omega
          go_wp2
          go_loop [3, 7, 8] (fun k i _ => ∃ a : Nat, a ≤ 15 ∧ 33 + 15 * a ≤ N ∧ k = .int .i64 (33 + 15 * (a : Int)) ∧ i = .int .i64 a) (fun _ i _ => 15 - (intOf i).toNat)
          case atStart => exact ⟨0, by omega, by omega, rfl, rfl⟩
          case round =>
            obtain ⟨a, ha, haN, rfl, rfl⟩ := hrel
            by_cases hlt : a < 15
            · go_wp2
              go_loop [3, 8] (fun k i => ∃ b : Nat, b ≤ 15 ∧ 33 + 15 * a + b ≤ N ∧ k = .int .i64 (33 + 15 * (a : Int) + b) ∧ i = .int .i64 b) (fun _ i => 15 - (intOf i).toNat)
              case atStart => exact ⟨0, by omega, by omega, by simp, rfl⟩
              case round =>
                obtain ⟨b, hb, hbN, rfl, rfl⟩ := hrel
                by_cases hla : b < 15
                · by_cases heq : 33 + 15 * a + b = N
                  · have he : ((33 + 15 * (a : Int) + b) == (N : Int)) = true := by simp; omega
                    have HQ := Lib.hid heq
                    clear heq
                    go_wp2
                    go_ret
                    exact ⟨_, rfl, F3.out a b hlt hla HQ.out, HBL.out _⟩
                  · have he : ((33 + 15 * (a : Int) + b) == (N : Int)) = false := by simp; omega
                    go_wp2
                    go_round
                    case rel => exact ⟨b + 1, by omega, by omega, by go_num, by go_num⟩
                    case measure => simp [intOf]; omega
                · obtain rfl : b = 15 := by omega
                  go_wp2
                  go_round
                  case rel => exact ⟨a + 1, by omega, by omega, by go_num, by go_num⟩
                  case measure => simp [intOf]; omega
            · omega
end Go.Proofs.Ytmladfkafbjmoaa
