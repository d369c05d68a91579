/-
  Walk: the law on nodes on paths.
-/
import Derived.Test.YtmladfkafbjmoaaReachQ
namespace Go.Proofs.Ytmladfkafbjmoaa
open Go.RowKit

theorem lean_on_flags (zs : List Int) (h : ∀ x ∈ zs, okB x) : leanL (onZ zs) = flagged (inL (onZ zs)) 258 := by
  refine lean_flagged (onZ zs) 258 (fun x hx => ?_)
  obtain ⟨b, hb, hx⟩ := List.mem_flatMap.1 hx
  have := h b hb
  exact on_range b.toNat (by have := this.2; omega) x hx

set_option maxHeartbeats 2000000 in
set_option maxRecDepth 100000 in
theorem on_ok (A : Option Addr) (n c : Nat) (zs : List Int) (w : World) (hr : Rd w w.heap.size 1 A n (intsV zs)) (hnc : n ≤ c) (hn : n ≤ 9) (hall : ∀ x ∈ zs, okB x) :
    Calls Try.prog 6 #[.slice A n c] w fun e w' => e = .returned (.bool true) ∧ Below w.heap.size w w' := by
  obtain ⟨ys, hys⟩ : ∃ ys, zs = ys := ⟨_, rfl⟩
  rw [hys] at hr hall
  have hzl := hr.1
  rw [intsV_len, Nat.mul_one] at hzl
  have HZL := Lib.hid hzl
  have HALL := Lib.hid hall
  have HR := Lib.hid hr
  clear hr hall hzl hys
  go_enter Try.func6, Try.ntmps6
  go_wp2_with fail
  refine (Nodes_ok A n c ys w HR.out (by omega) HALL.out).mono ?_
  rintro e w1 ⟨⟨v1, rfl, ho1⟩, h1⟩
  have HR1 := Lib.hid ((HR.out.below h1).more h1.size)
  obtain ⟨A1, c1, rfl, hc1, hr1⟩ := own_rd ho1
  obtain ⟨L, hL⟩ : ∃ L, leanL (onZ ys) = L := ⟨_, rfl⟩
  have hL2 := lean_on_flags ys HALL.out
  rw [hL] at hr1 hc1 hL2 ⊢
  obtain ⟨p, hp⟩ : ∃ p, L.length = p := ⟨_, rfl⟩
  have hpb : p ≤ 258 := by
    rw [← hp, hL2]; unfold flagged; rw [List.length_map]
    exact Nat.le_trans (List.length_filter_le _ _) (by simp)
  rw [hp] at hr1 hc1 ⊢
  have HP := Lib.hid hp
  have HQ := Lib.hid hr1
  have HL2 := Lib.hid hL2
  clear hr1 ho1 hL hp hL2
  go_wp2
  go_loopw [5] (fun i wr => wr = w1 ∧ ∃ k : Nat, k ≤ n ∧ i = .int .i64 k ∧ Hid (∀ x ∈ ys.take k, okB x)) (fun i _ => n - (intOf i).toNat)
  case atStart => exact ⟨rfl, 0, Nat.zero_le _, rfl, Lib.hid (by simp)⟩
  case round =>
    obtain ⟨rfl, k, hk, rfl, HK⟩ := hrel
    by_cases hlt : k < n
    · obtain ⟨g, o, x, hA, hg, hx, hcell⟩ := int_at HR1.out hlt
      subst hA
      have hsn := take_snoc ys k x hx
      have hxo : okB x := HALL.out x (List.mem_iff_getElem?.2 ⟨k, hx⟩)
      have hoks2 : ∀ y ∈ ys.take (k + 1), okB y := by
        rw [hsn]; intro y hy
        rcases List.mem_append.1 hy with h | h
        · exact HK.out y h
        · rw [List.mem_singleton.1 h]; exact hxo
      have HK2 := Lib.hid hoks2
      obtain ⟨hx1, hx2⟩ := hxo
      clear hoks2 hsn hx
      go_wp2
      go_roundw
      case rel => exact ⟨trivial, k + 1, by omega, by go_num, HK2⟩
      case measure => simp [intOf]; omega
    · obtain rfl : k = n := by omega
      go_wp2_with fail
      refine (rOn_any A k c ys _ HR1.out (by omega) HALL.out).mono ?_
      rintro e w2 ⟨⟨g2, rfl, hB2⟩, h2⟩
      have b2 := h1.trans (h2.mono h1.size)
      have HB2 := Lib.hid hB2
      have HQ2 := Lib.hid ((HQ.out.below h2).more h2.size)
      clear hB2
      go_wp2_with fail
      refine (rNumbers_any g2 0 258 258 _ w2 HB2.out.rd (by omega)).mono ?_
      rintro e w3 ⟨⟨v3, rfl, ho3⟩, h3⟩
      have b3 := b2.trans (h3.mono b2.size)
      rw [← HL2.out] at ho3
      have HQ3 := Lib.hid ((HQ2.out.below h3).more h3.size)
      obtain ⟨A3, c3, rfl, hc3, hr3⟩ := own_rd ho3
      rw [HP.out] at hr3 ⊢
      have HR3 := Lib.hid hr3
      clear hr3 ho3
      go_wp2_with fail
      refine (Same_yes _ _ p _ p _ L w3 HQ3.out HR3.out (by omega)).mono ?_
      rintro e w4 ⟨rfl, h4⟩
      have b4 := b3.trans (h4.mono b3.size)
      go_wp2_with fail
      refine (awake_any w4).mono ?_
      rintro e w5 ⟨rfl, h5⟩
      have b5 := b4.trans (h5.mono b4.size)
      go_wp2
      go_ret
      exact ⟨rfl, b5⟩

set_option maxHeartbeats 2000000 in
set_option maxRecDepth 100000 in
theorem on_bad (A : Option Addr) (n c : Nat) (zs : List Int) (w : World) (hr : Rd w w.heap.size 1 A n (intsV zs)) (hnc : n ≤ c) (hn : n ≤ 9) (hall : ¬ ∀ x ∈ zs, okB x) :
    Calls Try.prog 6 #[.slice A n c] w fun e w' => e = .returned (.bool true) ∧ Below w.heap.size w w' := by
  obtain ⟨ys, hys⟩ : ∃ ys, zs = ys := ⟨_, rfl⟩
  rw [hys] at hr hall
  have hzl := hr.1
  rw [intsV_len, Nat.mul_one] at hzl
  have HZL := Lib.hid hzl
  have HALL := Lib.hid hall
  have HR := Lib.hid hr
  clear hr hall hzl hys
  go_enter Try.func6, Try.ntmps6
  go_wp2_with fail
  refine (Nodes_bad A n c ys w HR.out (by omega) HALL.out).mono ?_
  rintro e w1 ⟨rfl, h1⟩
  have HR1 := Lib.hid ((HR.out.below h1).more h1.size)
  go_wp2
  go_loopw [5] (fun i wr => wr = w1 ∧ ∃ k : Nat, k ≤ n ∧ i = .int .i64 k ∧ Hid (∀ x ∈ ys.take k, okB x)) (fun i _ => n - (intOf i).toNat)
  case atStart => exact ⟨rfl, 0, Nat.zero_le _, rfl, Lib.hid (by simp)⟩
  case round =>
    obtain ⟨rfl, k, hk, rfl, HK⟩ := hrel
    by_cases hlt : k < n
    · obtain ⟨g, o, x, hA, hg, hx, hcell⟩ := int_at HR1.out hlt
      subst hA
      have hsn := take_snoc ys k x hx
      by_cases hxo : okB x
      · skip
        have hoks2 : ∀ y ∈ ys.take (k + 1), okB y := by
          rw [hsn]; intro y hy
          rcases List.mem_append.1 hy with h | h
          · exact HK.out y h
          · rw [List.mem_singleton.1 h]; exact hxo
        have HK2 := Lib.hid hoks2
        obtain ⟨hx1, hx2⟩ := hxo
        clear hoks2 hsn hx
        go_wp2
        go_roundw
        case rel => exact ⟨trivial, k + 1, by omega, by go_num, HK2⟩
        case measure => simp [intOf]; omega
      · by_cases hx0 : x < 0
        · clear hsn hx hxo
          go_wp2_with fail
          refine (awake_any _).mono ?_
          rintro e w5 ⟨rfl, h5⟩
          have b5 := h1.trans (h5.mono h1.size)
          go_wp2
          go_ret
          exact ⟨rfl, b5⟩
        · have hx1 : 3620 < x := by unfold okB at hxo; omega
          clear hsn hx hxo
          go_wp2_with fail
          refine (awake_any _).mono ?_
          rintro e w5 ⟨rfl, h5⟩
          have b5 := h1.trans (h5.mono h1.size)
          go_wp2
          go_ret
          exact ⟨rfl, b5⟩
    · obtain rfl : k = n := by omega
      exact absurd (by have := HK.out; rw [List.take_of_length_le (by rw [HZL.out]; exact Nat.le_refl _)] at this; exact this) HALL.out

set_option maxHeartbeats 2000000 in
set_option maxRecDepth 100000 in
theorem on_cut_ok (g0 o0 : Nat) (n c : Nat) (zs : List Int) (w : World) (hr : Rd w w.heap.size 1 (some ⟨g0, o0, none⟩) 9 (intsV (zs.take 9))) (hnc : n ≤ c) (hn : 9 < n) (hall : ∀ x ∈ (zs.take 9), okB x) :
    Calls Try.prog 6 #[.slice (some ⟨g0, o0, none⟩) n c] w fun e w' => e = .returned (.bool true) ∧ Below w.heap.size w w' := by
  obtain ⟨ys, hys⟩ : ∃ ys, (zs.take 9) = ys := ⟨_, rfl⟩
  rw [hys] at hr hall
  have hzl := hr.1
  rw [intsV_len, Nat.mul_one] at hzl
  have HZL := Lib.hid hzl
  have HALL := Lib.hid hall
  have HR := Lib.hid hr
  clear hr hall hzl hys
  go_enter Try.func6, Try.ntmps6
  go_wp2_with fail
  refine (Nodes_ok (some ⟨g0, o0, none⟩) 9 c ys w HR.out (by omega) HALL.out).mono ?_
  rintro e w1 ⟨⟨v1, rfl, ho1⟩, h1⟩
  have HR1 := Lib.hid ((HR.out.below h1).more h1.size)
  obtain ⟨A1, c1, rfl, hc1, hr1⟩ := own_rd ho1
  obtain ⟨L, hL⟩ : ∃ L, leanL (onZ ys) = L := ⟨_, rfl⟩
  have hL2 := lean_on_flags ys HALL.out
  rw [hL] at hr1 hc1 hL2 ⊢
  obtain ⟨p, hp⟩ : ∃ p, L.length = p := ⟨_, rfl⟩
  have hpb : p ≤ 258 := by
    rw [← hp, hL2]; unfold flagged; rw [List.length_map]
    exact Nat.le_trans (List.length_filter_le _ _) (by simp)
  rw [hp] at hr1 hc1 ⊢
  have HP := Lib.hid hp
  have HQ := Lib.hid hr1
  have HL2 := Lib.hid hL2
  clear hr1 ho1 hL hp hL2
  go_wp2
  go_loopw [5] (fun i wr => wr = w1 ∧ ∃ k : Nat, k ≤ 9 ∧ i = .int .i64 k ∧ Hid (∀ x ∈ ys.take k, okB x)) (fun i _ => 9 - (intOf i).toNat)
  case atStart => exact ⟨rfl, 0, Nat.zero_le _, rfl, Lib.hid (by simp)⟩
  case round =>
    obtain ⟨rfl, k, hk, rfl, HK⟩ := hrel
    by_cases hlt : k < 9
    · obtain ⟨g, o, x, hA, hg, hx, hcell⟩ := int_at HR1.out hlt
      injection hA with hA; injection hA with e1 e2 _; subst e1 e2
      have hsn := take_snoc ys k x hx
      have hxo : okB x := HALL.out x (List.mem_iff_getElem?.2 ⟨k, hx⟩)
      have hoks2 : ∀ y ∈ ys.take (k + 1), okB y := by
        rw [hsn]; intro y hy
        rcases List.mem_append.1 hy with h | h
        · exact HK.out y h
        · rw [List.mem_singleton.1 h]; exact hxo
      have HK2 := Lib.hid hoks2
      obtain ⟨hx1, hx2⟩ := hxo
      clear hoks2 hsn hx
      go_wp2
      go_roundw
      case rel => exact ⟨trivial, k + 1, by omega, by go_num, HK2⟩
      case measure => simp [intOf]; omega
    · obtain rfl : k = 9 := by omega
      go_wp2_with fail
      refine (rOn_any (some ⟨g0, o0, none⟩) 9 c ys _ HR1.out (by omega) HALL.out).mono ?_
      rintro e w2 ⟨⟨g2, rfl, hB2⟩, h2⟩
      have b2 := h1.trans (h2.mono h1.size)
      have HB2 := Lib.hid hB2
      have HQ2 := Lib.hid ((HQ.out.below h2).more h2.size)
      clear hB2
      go_wp2_with fail
      refine (rNumbers_any g2 0 258 258 _ w2 HB2.out.rd (by omega)).mono ?_
      rintro e w3 ⟨⟨v3, rfl, ho3⟩, h3⟩
      have b3 := b2.trans (h3.mono b2.size)
      rw [← HL2.out] at ho3
      have HQ3 := Lib.hid ((HQ2.out.below h3).more h3.size)
      obtain ⟨A3, c3, rfl, hc3, hr3⟩ := own_rd ho3
      rw [HP.out] at hr3 ⊢
      have HR3 := Lib.hid hr3
      clear hr3 ho3
      go_wp2_with fail
      refine (Same_yes _ _ p _ p _ L w3 HQ3.out HR3.out (by omega)).mono ?_
      rintro e w4 ⟨rfl, h4⟩
      have b4 := b3.trans (h4.mono b3.size)
      go_wp2_with fail
      refine (awake_any w4).mono ?_
      rintro e w5 ⟨rfl, h5⟩
      have b5 := b4.trans (h5.mono b4.size)
      go_wp2
      go_ret
      exact ⟨rfl, b5⟩

set_option maxHeartbeats 2000000 in
set_option maxRecDepth 100000 in
theorem on_cut_bad (g0 o0 : Nat) (n c : Nat) (zs : List Int) (w : World) (hr : Rd w w.heap.size 1 (some ⟨g0, o0, none⟩) 9 (intsV (zs.take 9))) (hnc : n ≤ c) (hn : 9 < n) (hall : ¬ ∀ x ∈ (zs.take 9), okB x) :
    Calls Try.prog 6 #[.slice (some ⟨g0, o0, none⟩) n c] w fun e w' => e = .returned (.bool true) ∧ Below w.heap.size w w' := by
  obtain ⟨ys, hys⟩ : ∃ ys, (zs.take 9) = ys := ⟨_, rfl⟩
  rw [hys] at hr hall
  have hzl := hr.1
  rw [intsV_len, Nat.mul_one] at hzl
  have HZL := Lib.hid hzl
  have HALL := Lib.hid hall
  have HR := Lib.hid hr
  clear hr hall hzl hys
  go_enter Try.func6, Try.ntmps6
  go_wp2_with fail
  refine (Nodes_bad (some ⟨g0, o0, none⟩) 9 c ys w HR.out (by omega) HALL.out).mono ?_
  rintro e w1 ⟨rfl, h1⟩
  have HR1 := Lib.hid ((HR.out.below h1).more h1.size)
  go_wp2
  go_loopw [5] (fun i wr => wr = w1 ∧ ∃ k : Nat, k ≤ 9 ∧ i = .int .i64 k ∧ Hid (∀ x ∈ ys.take k, okB x)) (fun i _ => 9 - (intOf i).toNat)
  case atStart => exact ⟨rfl, 0, Nat.zero_le _, rfl, Lib.hid (by simp)⟩
  case round =>
    obtain ⟨rfl, k, hk, rfl, HK⟩ := hrel
    by_cases hlt : k < 9
    · obtain ⟨g, o, x, hA, hg, hx, hcell⟩ := int_at HR1.out hlt
      injection hA with hA; injection hA with e1 e2 _; subst e1 e2
      have hsn := take_snoc ys k x hx
      by_cases hxo : okB x
      · skip
        have hoks2 : ∀ y ∈ ys.take (k + 1), okB y := by
          rw [hsn]; intro y hy
          rcases List.mem_append.1 hy with h | h
          · exact HK.out y h
          · rw [List.mem_singleton.1 h]; exact hxo
        have HK2 := Lib.hid hoks2
        obtain ⟨hx1, hx2⟩ := hxo
        clear hoks2 hsn hx
        go_wp2
        go_roundw
        case rel => exact ⟨trivial, k + 1, by omega, by go_num, HK2⟩
        case measure => simp [intOf]; omega
      · by_cases hx0 : x < 0
        · clear hsn hx hxo
          go_wp2_with fail
          refine (awake_any _).mono ?_
          rintro e w5 ⟨rfl, h5⟩
          have b5 := h1.trans (h5.mono h1.size)
          go_wp2
          go_ret
          exact ⟨rfl, b5⟩
        · have hx1 : 3620 < x := by unfold okB at hxo; omega
          clear hsn hx hxo
          go_wp2_with fail
          refine (awake_any _).mono ?_
          rintro e w5 ⟨rfl, h5⟩
          have b5 := h1.trans (h5.mono h1.size)
          go_wp2
          go_ret
          exact ⟨rfl, b5⟩
    · obtain rfl : k = 9 := by omega
      exact absurd (by have := HK.out; rw [List.take_of_length_le (by rw [HZL.out]; exact Nat.le_refl _)] at this; exact this) HALL.out

theorem on_law (A : Option Addr) (n c : Nat) (zs : List Int) (w : World) (hr : Rd w w.heap.size 1 A n (intsV zs)) (hnc : n ≤ c) :
    Calls Try.prog 6 #[.slice A n c] w fun e w' => e = .returned (.bool true) ∧ Below w.heap.size w w' := by
  by_cases h9 : n ≤ 9
  · by_cases hall : ∀ x ∈ zs, okB x
    · exact on_ok A n c zs w hr hnc h9 hall
    · exact on_bad A n c zs w hr hnc h9 hall
  · obtain ⟨g, o, rfl, _, _⟩ := hr.2 (by omega)
    have h2 := rd_take hr (k := 9) (by omega)
    by_cases hall : ∀ x ∈ zs.take 9, okB x
    · exact on_cut_ok g o n c zs w h2 hnc (by omega) hall
    · exact on_cut_bad g o n c zs w h2 hnc (by omega) hall
end Go.Proofs.Ytmladfkafbjmoaa
