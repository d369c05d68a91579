/-
  Walk: how many nodes, by the document.
-/
import Derived.Test.YtmladfkafbjmoaaReachI
namespace Go.Proofs.Ytmladfkafbjmoaa
open Go.RowKit

/-- Of a list: how many zeros in one piece end at a place, above the first. -/
def zs (l : List Int) : Nat → Nat
  | 0 => 0
  | j + 1 => if l[j + 1]? = some 0 then zs l j + 1 else 0
theorem zs_path (n : Nat) (h : n < 3621) : zs (toZ (pathN n)) ((toZ (pathN n)).length - 1) = tz n := by
  rw [toZ_len]
  by_cases q1 : n < 6
  · rw [path1 n q1]; unfold tz; rw [if_pos q1]; rfl
  by_cases q2 : n < 21
  · rw [path2 n (by omega)]; unfold tz; rw [if_neg q1, if_pos q2]
    simp [toZ, zs]; split <;> split <;> omega
  by_cases q3 : n < 246
  · rw [path3 n (by omega)]; unfold tz; rw [if_neg q1, if_neg q2, if_pos q3]
    simp [toZ, zs]; repeat' split
    all_goals omega
  · rw [path4 n (by omega)]; unfold tz; rw [if_neg q1, if_neg q2, if_neg q3]
    simp [toZ, zs]; repeat' split
    all_goals omega

set_option maxHeartbeats 1000000 in
set_option maxRecDepth 100000 in
theorem rCount_low (n : Int) (w : World) (h : n ≤ 3621) :
    Calls Try.prog 10 #[.int .i64 n] w fun e w' => e = .returned (.int .i64 (countN n.toNat)) ∧ Below w.heap.size w w' := by
  go_enter Try.func10, Try.ntmps10
  go_wp2
  go_loopw [3, 4, 5] (fun c v i wr => ∃ k : Nat, k ≤ n.toNat ∧ i = .int .i64 k ∧ c = .int .i64 (countN k) ∧ (k < 3621 → wr.ownsRow w.heap.size 3 1 v (toZ (pathN k)).length (intsV (toZ (pathN k)))) ∧ Below w.heap.size w wr) (fun _ _ i _ => n.toNat - (intOf i).toNat)
  case atStart => exact ⟨0, Nat.zero_le _, rfl, rfl, fun _ => (OwnB.lit w w.heap.size (Nat.le_refl _) 3 1 1 #[.int .i64 0] (by simp) (by simp [maxLen])).own, (Below.refl _ _).alloc (Nat.le_refl _) _⟩
  case round =>
    obtain ⟨k, hk, rfl, rfl, hown, hbw⟩ := hrel
    obtain ⟨q, hq⟩ : ∃ q, countN k = q := ⟨_, rfl⟩
    rw [hq]
    have hqb : q ≤ 258 := by
      have h3 : k ≤ 3621 := by omega
      rw [← hq]; clear hq hown hbw; unfold countN; repeat' split
      all_goals omega
    by_cases hlt : k < n.toNat
    · have hpl := path_len k
      obtain ⟨g, cap, rfl, hB⟩ := own_pos (hown (by omega)) (by rw [toZ_len]; omega)
      have hz := zs_path k (by omega)
      have hcs := count_succ k
      rw [hq] at hcs
      obtain ⟨z, hzz⟩ : ∃ z, tz k = z := ⟨_, rfl⟩
      rw [hzz] at hz hcs
      obtain ⟨xs, hxs⟩ : ∃ xs, toZ (pathN k) = xs := ⟨_, rfl⟩
      have hxl : xs.length = (pathN k).length := by rw [← hxs, toZ_len]
      rw [hxs] at hB hz ⊢
      obtain ⟨m, hm⟩ : ∃ m, xs.length = m := ⟨_, rfl⟩
      rw [hm] at hB hxl hz ⊢
      rw [← hxl] at hpl
      have hrd := hB.rd
      have HM := Lib.hid hxl
      have HL := Lib.hid hm
      have HR := Lib.hid hrd
      have HZ := Lib.hid hz
      have HC := Lib.hid hcs
      have HX := Lib.hid hxs
      have hzb : z ≤ 3 := by
        rw [← hzz]; clear hzz hz hcs hxs; unfold tz; repeat' split
        all_goals omega
      have hkb : k < 3621 := by omega
      clear hown hB hm hxl hrd hz hcs hzz hxs hq
      go_wp2
      go_loopw [3, 6] (fun c j w2 => w2 = wr ∧ ∃ (j' a : Nat), j' < m ∧ j = .int .i64 j' ∧ c = .int .i64 (q + a : Nat) ∧ Hid (a + zs xs j' = z)) (fun _ j _ => (intOf j).toNat)
      case atStart => exact ⟨rfl, m - 1, 0, by omega, by go_num, rfl, Lib.hid (by rw [Nat.zero_add]; exact HZ.out)⟩
      case round =>
        obtain ⟨rfl, j, a, hj, rfl, rfl, HA⟩ := hrel
        have hab : a ≤ 3 := by have := HA.out; omega
        by_cases hj0 : 0 < j
        · obtain ⟨g', o', x, e', hg', hx, hcell⟩ := int_at HR.out hj
          injection e' with e'
          injection e' with e1 e2 _
          subst e1 e2
          rw [Nat.zero_add] at hcell
          obtain ⟨j', rfl⟩ : ∃ j', j = j' + 1 := ⟨j - 1, by omega⟩
          have HXJ := Lib.hid hx
          clear hx
          by_cases hx0 : x = 0
          · have hA2 : a + 1 + zs xs j' = z := by have := HA.out; rw [zs, if_pos (by rw [HXJ.out, hx0])] at this; omega
            have HA2 := Lib.hid hA2
            clear hA2
            go_wp2
            go_roundw
            case rel => exact ⟨trivial, j', a + 1, by omega, by go_num, by go_num, HA2⟩
            case measure => simp [intOf]
          · have hA2 : a = z := by have := HA.out; rw [zs, if_neg (by rw [HXJ.out]; intro h; exact hx0 (Option.some.inj h))] at this; omega
            subst hA2
            go_wp2_with fail
            refine (Next_any k _ _ m _ hkb HM.out (by rw [HX.out]; exact HR.out)).mono ?_
            rintro e w1 ⟨v, rfl, h1, _, hb1⟩
            have hb2 := hbw.trans (hb1.mono hbw.size)
            have hO : k + 1 < 3621 → w1.ownsRow w.heap.size 3 1 v (toZ (pathN (k + 1))).length (intsV (toZ (pathN (k + 1)))) := fun h => own_base (h1 (by omega)) hbw.size
            have HO := Lib.hid hO
            have HCC := Lib.hid (show q + a = countN (k + 1) from by have := HC.out; omega)
            clear hO h1
            go_wp2
            go_roundw
            case rel => exact ⟨k + 1, by omega, by go_num, by rw [← HCC.out]; first | rfl | go_num, HO.out, hb2⟩
            case measure => simp [intOf]; omega
        · obtain rfl : j = 0 := by omega
          have hA2 : a = z := by have := HA.out; rw [zs] at this; omega
          subst hA2
          go_wp2_with fail
          refine (Next_any k _ _ m _ hkb HM.out (by rw [HX.out]; exact HR.out)).mono ?_
          rintro e w1 ⟨v, rfl, h1, _, hb1⟩
          have hb2 := hbw.trans (hb1.mono hbw.size)
          have hO : k + 1 < 3621 → w1.ownsRow w.heap.size 3 1 v (toZ (pathN (k + 1))).length (intsV (toZ (pathN (k + 1)))) := fun h => own_base (h1 (by omega)) hbw.size
          have HO := Lib.hid hO
          have HCC := Lib.hid (show q + a = countN (k + 1) from by have := HC.out; omega)
          clear hO h1
          go_wp2
          go_roundw
          case rel => exact ⟨k + 1, by omega, by go_num, by rw [← HCC.out]; first | rfl | go_num, HO.out, hb2⟩
          case measure => simp [intOf]; omega
    · obtain rfl : k = n.toNat := by omega
      have HQ := Lib.hid hq
      clear hq hown
      go_wp2
      go_ret
      exact ⟨by rw [HQ.out]; rfl, hbw⟩
set_option maxHeartbeats 1000000 in
set_option maxRecDepth 100000 in
theorem rCount_high (n : Int) (w : World) (h : 3621 < n) :
    Calls Try.prog 10 #[.int .i64 n] w fun e w' => e = .returned (.int .i64 (countN 3621)) ∧ Below w.heap.size w w' := by
  go_enter Try.func10, Try.ntmps10
  go_wp2
  go_loopw [3, 4, 5] (fun c v i wr => ∃ k : Nat, k ≤ 3621 ∧ i = .int .i64 k ∧ c = .int .i64 (countN k) ∧ (k < 3621 → wr.ownsRow w.heap.size 3 1 v (toZ (pathN k)).length (intsV (toZ (pathN k)))) ∧ Below w.heap.size w wr) (fun _ _ i _ => 3621 - (intOf i).toNat)
  case atStart => exact ⟨0, Nat.zero_le _, rfl, rfl, fun _ => (OwnB.lit w w.heap.size (Nat.le_refl _) 3 1 1 #[.int .i64 0] (by simp) (by simp [maxLen])).own, (Below.refl _ _).alloc (Nat.le_refl _) _⟩
  case round =>
    obtain ⟨k, hk, rfl, rfl, hown, hbw⟩ := hrel
    obtain ⟨q, hq⟩ : ∃ q, countN k = q := ⟨_, rfl⟩
    rw [hq]
    have hqb : q ≤ 258 := by
      have h3 : k ≤ 3621 := by omega
      rw [← hq]; clear hq hown hbw; unfold countN; repeat' split
      all_goals omega
    by_cases hlt : k < 3621
    · have hpl := path_len k
      obtain ⟨g, cap, rfl, hB⟩ := own_pos (hown (by omega)) (by rw [toZ_len]; omega)
      have hz := zs_path k (by omega)
      have hcs := count_succ k
      rw [hq] at hcs
      obtain ⟨z, hzz⟩ : ∃ z, tz k = z := ⟨_, rfl⟩
      rw [hzz] at hz hcs
      obtain ⟨xs, hxs⟩ : ∃ xs, toZ (pathN k) = xs := ⟨_, rfl⟩
      have hxl : xs.length = (pathN k).length := by rw [← hxs, toZ_len]
      rw [hxs] at hB hz ⊢
      obtain ⟨m, hm⟩ : ∃ m, xs.length = m := ⟨_, rfl⟩
      rw [hm] at hB hxl hz ⊢
      rw [← hxl] at hpl
      have hrd := hB.rd
      have HM := Lib.hid hxl
      have HL := Lib.hid hm
      have HR := Lib.hid hrd
      have HZ := Lib.hid hz
      have HC := Lib.hid hcs
      have HX := Lib.hid hxs
      have hzb : z ≤ 3 := by
        rw [← hzz]; clear hzz hz hcs hxs; unfold tz; repeat' split
        all_goals omega
      have hkb : k < 3621 := by omega
      clear hown hB hm hxl hrd hz hcs hzz hxs hq
      go_wp2
      go_loopw [3, 6] (fun c j w2 => w2 = wr ∧ ∃ (j' a : Nat), j' < m ∧ j = .int .i64 j' ∧ c = .int .i64 (q + a : Nat) ∧ Hid (a + zs xs j' = z)) (fun _ j _ => (intOf j).toNat)
      case atStart => exact ⟨rfl, m - 1, 0, by omega, by go_num, rfl, Lib.hid (by rw [Nat.zero_add]; exact HZ.out)⟩
      case round =>
        obtain ⟨rfl, j, a, hj, rfl, rfl, HA⟩ := hrel
        have hab : a ≤ 3 := by have := HA.out; omega
        by_cases hj0 : 0 < j
        · obtain ⟨g', o', x, e', hg', hx, hcell⟩ := int_at HR.out hj
          injection e' with e'
          injection e' with e1 e2 _
          subst e1 e2
          rw [Nat.zero_add] at hcell
          obtain ⟨j', rfl⟩ : ∃ j', j = j' + 1 := ⟨j - 1, by omega⟩
          have HXJ := Lib.hid hx
          clear hx
          by_cases hx0 : x = 0
          · have hA2 : a + 1 + zs xs j' = z := by have := HA.out; rw [zs, if_pos (by rw [HXJ.out, hx0])] at this; omega
            have HA2 := Lib.hid hA2
            clear hA2
            go_wp2
            go_roundw
            case rel => exact ⟨trivial, j', a + 1, by omega, by go_num, by go_num, HA2⟩
            case measure => simp [intOf]
          · have hA2 : a = z := by have := HA.out; rw [zs, if_neg (by rw [HXJ.out]; intro h; exact hx0 (Option.some.inj h))] at this; omega
            subst hA2
            go_wp2_with fail
            refine (Next_any k _ _ m _ hkb HM.out (by rw [HX.out]; exact HR.out)).mono ?_
            rintro e w1 ⟨v, rfl, h1, _, hb1⟩
            have hb2 := hbw.trans (hb1.mono hbw.size)
            have hO : k + 1 < 3621 → w1.ownsRow w.heap.size 3 1 v (toZ (pathN (k + 1))).length (intsV (toZ (pathN (k + 1)))) := fun h => own_base (h1 (by omega)) hbw.size
            have HO := Lib.hid hO
            have HCC := Lib.hid (show q + a = countN (k + 1) from by have := HC.out; omega)
            clear hO h1
            go_wp2
            go_roundw
            case rel => exact ⟨k + 1, by omega, by go_num, by rw [← HCC.out]; first | rfl | go_num, HO.out, hb2⟩
            case measure => simp [intOf]; omega
        · obtain rfl : j = 0 := by omega
          have hA2 : a = z := by have := HA.out; rw [zs] at this; omega
          subst hA2
          go_wp2_with fail
          refine (Next_any k _ _ m _ hkb HM.out (by rw [HX.out]; exact HR.out)).mono ?_
          rintro e w1 ⟨v, rfl, h1, _, hb1⟩
          have hb2 := hbw.trans (hb1.mono hbw.size)
          have hO : k + 1 < 3621 → w1.ownsRow w.heap.size 3 1 v (toZ (pathN (k + 1))).length (intsV (toZ (pathN (k + 1)))) := fun h => own_base (h1 (by omega)) hbw.size
          have HO := Lib.hid hO
          have HCC := Lib.hid (show q + a = countN (k + 1) from by have := HC.out; omega)
          clear hO h1
          go_wp2
          go_roundw
          case rel => exact ⟨k + 1, by omega, by go_num, by rw [← HCC.out]; first | rfl | go_num, HO.out, hb2⟩
          case measure => simp [intOf]; omega
    · obtain rfl : k = 3621 := by omega
      have HQ := Lib.hid hq
      clear hq hown
      go_wp2
      go_ret
      exact ⟨by rw [HQ.out]; rfl, hbw⟩

theorem rCount_any (n : Int) (w : World) :
    Calls Try.prog 10 #[.int .i64 n] w fun e w' => e = .returned (.int .i64 (countN (min n 3621).toNat)) ∧ Below w.heap.size w w' := by
  by_cases h : n ≤ 3621
  · rw [show (min n 3621).toNat = n.toNat from by omega]; exact rCount_low n w h
  · rw [show (min n 3621).toNat = 3621 from by omega]; exact rCount_high n w (by omega)
end Go.Proofs.Ytmladfkafbjmoaa
