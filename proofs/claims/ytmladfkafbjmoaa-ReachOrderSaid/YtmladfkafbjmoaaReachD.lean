/-
  Walks: the reference's paths, blocks and nodes.
-/
import Derived.Test.YtmladfkafbjmoaaReachC
namespace Go.Proofs.Ytmladfkafbjmoaa
open Go.RowKit

theorem toZ_eq1 {l : List Nat} {a : Nat} {x : Int} (h : l = [a]) (hx : x = a) : toZ l = [x] := by subst h hx; rfl
theorem toZ_eq2 {l : List Nat} {a b : Nat} {x y : Int} (h : l = [a, b]) (hx : x = a) (hy : y = b) : toZ l = [x, y] := by subst h hx hy; rfl
theorem toZ_eq3 {l : List Nat} {a b c : Nat} {x y z : Int} (h : l = [a, b, c]) (hx : x = a) (hy : y = b) (hz : z = c) : toZ l = [x, y, z] := by subst h hx hy hz; rfl
theorem toZ_eq4 {l : List Nat} {a b c d : Nat} {x y z u : Int} (h : l = [a, b, c, d]) (hx : x = a) (hy : y = b) (hz : z = c) (hu : u = d) : toZ l = [x, y, z, u] := by subst h hx hy hz hu; rfl
theorem path1 (n : Nat) (h : n < 6) : pathN n = [n] := by unfold pathN; rw [if_pos h]
theorem path2 (n : Nat) (h : 6 ≤ n ∧ n < 21) : pathN n = [6, n - 6] := by unfold pathN; rw [if_neg (by omega), if_pos h.2]
theorem path3 (n : Nat) (h : 21 ≤ n ∧ n < 246) : pathN n = [7, (n - 21) / 15, (n - 21) % 15] := by unfold pathN; rw [if_neg (by omega), if_neg (by omega), if_pos h.2]
theorem path4 (n : Nat) (h : 246 ≤ n) : pathN n = [8, (n - 246) / 225, (n - 246) / 15 % 15, (n - 246) % 15] := by unfold pathN; rw [if_neg (by omega), if_neg (by omega), if_neg (by omega)]
theorem path_len (n : Nat) : 1 ≤ (pathN n).length ∧ (pathN n).length ≤ 4 := by
  unfold pathN; repeat' split
  all_goals simp

theorem Next_any (n : Nat) (A : Option Addr) (c m : Nat) (w : World) (hn : n < 3621) (hm : m = (pathN n).length) (hr : Rd w w.heap.size 1 A m (intsV (toZ (pathN n)))) :
    Calls Try.prog 27 #[.slice A m c] w fun e w' => ∃ v, e = .returned v ∧ (n < 3620 → OwnI w w' v (toZ (pathN (n + 1)))) ∧ (n = 3620 → v = .slice none 0 0) ∧ Below w.heap.size w w' := by
  have hl := path_len n
  obtain ⟨g, o, rfl, _, _⟩ := hr.2 (by omega)
  have fin : ∀ {l : List Int} {l2 : List Int} {P : Prop}, toZ (pathN (n + 1)) = l2 → n < 3620 →
      (Calls Try.prog 27 #[.slice (some ⟨g, o, none⟩) m c] w fun e w' => ∃ v, e = .returned v ∧ OwnI w w' v l2 ∧ Below w.heap.size w w') →
      Calls Try.prog 27 #[.slice (some ⟨g, o, none⟩) m c] w fun e w' => ∃ v, e = .returned v ∧ (n < 3620 → OwnI w w' v (toZ (pathN (n + 1)))) ∧ (n = 3620 → v = .slice none 0 0) ∧ Below w.heap.size w w' := by
    intro l l2 P e2 hlt h
    refine h.mono fun e w' ⟨v, he, ho, hb⟩ => ⟨v, he, fun _ => by rw [e2]; exact ho, fun h => by omega, hb⟩
  by_cases q1 : n < 5
  · have e1 : toZ (pathN n) = [(n : Int)] := toZ_eq1 (path1 n (by omega)) rfl
    have e2 : toZ (pathN (n + 1)) = [(n : Int) + 1] := toZ_eq1 (path1 (n + 1) (by omega)) (by omega)
    rw [e1] at hr
    have : m = 1 := by rw [hm, path1 n (by omega)]; rfl
    subst this
    exact fin (l := []) (P := True) e2 (by omega) (Next_a n g o c w hr q1)
  by_cases q2 : n = 5
  · subst q2
    have : m = 1 := by rw [hm]; rfl
    subst this
    exact fin (l := []) (P := True) rfl (by omega) (Next_b g o c w hr)
  by_cases q3 : n < 20
  · have e1 : toZ (pathN n) = [6, ((n - 6 : Nat) : Int)] := toZ_eq2 (path2 n (by omega)) rfl rfl
    have e2 : toZ (pathN (n + 1)) = [6, ((n - 6 : Nat) : Int) + 1] := toZ_eq2 (path2 (n + 1) (by omega)) rfl (by omega)
    rw [e1] at hr
    have : m = 2 := by rw [hm, path2 n (by omega)]; rfl
    subst this
    exact fin (l := []) (P := True) e2 (by omega) (Next_c (n - 6) g o c w hr (by omega))
  by_cases q4 : n = 20
  · subst q4
    have : m = 2 := by rw [hm]; rfl
    subst this
    exact fin (l := []) (P := True) rfl (by omega) (Next_d g o c w hr)
  by_cases q5 : n < 245
  · have : m = 3 := by rw [hm, path3 n (by omega)]; rfl
    subst this
    by_cases hb : (n - 21) % 15 < 14
    · have e1 : toZ (pathN n) = [7, (((n - 21) / 15 : Nat) : Int), (((n - 21) % 15 : Nat) : Int)] := toZ_eq3 (path3 n (by omega)) rfl rfl rfl
      have e2 : toZ (pathN (n + 1)) = [7, (((n - 21) / 15 : Nat) : Int), (((n - 21) % 15 : Nat) : Int) + 1] := toZ_eq3 (path3 (n + 1) (by omega)) rfl (by omega) (by omega)
      rw [e1] at hr
      exact fin (l := []) (P := True) e2 (by omega) (Next_e _ _ g o c w hr hb)
    · have e1 : toZ (pathN n) = [7, (((n - 21) / 15 : Nat) : Int), 14] := toZ_eq3 (path3 n (by omega)) rfl rfl (by omega)
      have e2 : toZ (pathN (n + 1)) = [7, (((n - 21) / 15 : Nat) : Int) + 1, 0] := toZ_eq3 (path3 (n + 1) (by omega)) rfl (by omega) (by omega)
      rw [e1] at hr
      exact fin (l := []) (P := True) e2 (by omega) (Next_f _ g o c w hr (by omega))
  by_cases q6 : n = 245
  · subst q6
    have : m = 3 := by rw [hm]; rfl
    subst this
    exact fin (l := []) (P := True) rfl (by omega) (Next_g g o c w hr)
  by_cases q7 : n < 3620
  · have : m = 4 := by rw [hm, path4 n (by omega)]; rfl
    subst this
    by_cases hd : (n - 246) % 15 < 14
    · have e1 : toZ (pathN n) = [8, (((n - 246) / 225 : Nat) : Int), (((n - 246) / 15 % 15 : Nat) : Int), (((n - 246) % 15 : Nat) : Int)] := toZ_eq4 (path4 n (by omega)) rfl rfl rfl rfl
      have e2 : toZ (pathN (n + 1)) = [8, (((n - 246) / 225 : Nat) : Int), (((n - 246) / 15 % 15 : Nat) : Int), (((n - 246) % 15 : Nat) : Int) + 1] := toZ_eq4 (path4 (n + 1) (by omega)) rfl (by omega) (by omega) (by omega)
      rw [e1] at hr
      exact fin (l := []) (P := True) e2 (by omega) (Next_h _ _ _ g o c w hr hd)
    · by_cases hb : (n - 246) / 15 % 15 < 14
      · have e1 : toZ (pathN n) = [8, (((n - 246) / 225 : Nat) : Int), (((n - 246) / 15 % 15 : Nat) : Int), 14] := toZ_eq4 (path4 n (by omega)) rfl rfl rfl (by omega)
        have e2 : toZ (pathN (n + 1)) = [8, (((n - 246) / 225 : Nat) : Int), (((n - 246) / 15 % 15 : Nat) : Int) + 1, 0] := toZ_eq4 (path4 (n + 1) (by omega)) rfl (by omega) (by omega) (by omega)
        rw [e1] at hr
        exact fin (l := []) (P := True) e2 (by omega) (Next_i _ _ g o c w hr hb)
      · have e1 : toZ (pathN n) = [8, (((n - 246) / 225 : Nat) : Int), 14, 14] := toZ_eq4 (path4 n (by omega)) rfl rfl (by omega) (by omega)
        have e2 : toZ (pathN (n + 1)) = [8, (((n - 246) / 225 : Nat) : Int) + 1, 0, 0] := toZ_eq4 (path4 (n + 1) (by omega)) rfl (by omega) (by omega) (by omega)
        rw [e1] at hr
        exact fin (l := []) (P := True) e2 (by omega) (Next_j _ g o c w hr (by omega))
  · obtain rfl : n = 3620 := by omega
    have : m = 4 := by rw [hm]; rfl
    subst this
    have e1 : toZ (pathN 3620) = [8, 14, 14, 14] := by decide +kernel
    rw [e1] at hr
    refine (Next_k g o c w hr).mono fun e w' ⟨v, he, hv, hb⟩ => ⟨v, he, fun h => by omega, fun _ => hv, hb⟩

set_option maxHeartbeats 1000000 in
theorem rPath_bad (n : Int) (w : World) (h : n < 0 ∨ 3620 < n) :
    Calls Try.prog 20 #[.int .i64 n] w fun e w' => e = .returned (.slice none 0 0) ∧ w' = w := by
  rcases h with h | h
  · go_enter Try.func20, Try.ntmps20
    go_wp2
    go_ret
    exact ⟨rfl, rfl⟩
  · have h' : ¬ n < 0 := by omega
    go_enter Try.func20, Try.ntmps20
    go_wp2
    go_ret
    exact ⟨rfl, rfl⟩

set_option maxHeartbeats 1000000 in
theorem rPath_ok (n : Nat) (w : World) (h : n < 3621) :
    Calls Try.prog 20 #[.int .i64 n] w fun e w' => ∃ v, e = .returned v ∧ OwnI w w' v (toZ (pathN n)) ∧ Below w.heap.size w w' := by
  have h0 : ¬ (n : Int) < 0 := by omega
  have h1 : ¬ (3620 : Int) < (n : Int) := by omega
  go_enter Try.func20, Try.ntmps20
  go_wp2
  go_loopw [3, 4] (fun v i wr => ∃ k : Nat, k ≤ n ∧ i = .int .i64 k ∧ wr.ownsRow w.heap.size 3 1 v (toZ (pathN k)).length (intsV (toZ (pathN k))) ∧ Below w.heap.size w wr) (fun _ i _ => n - (intOf i).toNat)
  case atStart => exact ⟨0, Nat.zero_le _, rfl, (OwnB.lit w w.heap.size (Nat.le_refl _) 3 1 1 #[.int .i64 0] (by simp) (by simp [maxLen])).own, (Below.refl _ _).alloc (Nat.le_refl _) _⟩
  case round =>
    obtain ⟨k, hk, rfl, hown, hbw⟩ := hrel
    by_cases hlt : k < n
    · have hpl := path_len k
      obtain ⟨g, cap, rfl, hB⟩ := own_pos hown (by rw [toZ_len]; omega)
      have HB := Lib.hid hB
      obtain ⟨m, hm⟩ : ∃ m, (toZ (pathN k)).length = m := ⟨_, rfl⟩
      have hm2 : m = (pathN k).length := by rw [← hm, toZ_len]
      rw [hm] at hB ⊢
      have hrd := hB.rd
      have HM := Lib.hid hm2
      have HR := Lib.hid hrd
      clear hown hB hm hm2 hrd
      go_wp2_with fail
      refine (Next_any k _ _ m wr (by omega) HM.out HR.out).mono ?_
      rintro e w1 ⟨v, rfl, h1, _, hb1⟩
      have hO := own_base (h1 (by omega)) hbw.size
      have hb2 := hbw.trans (hb1.mono hbw.size)
      have HO := Lib.hid hO
      clear hO h1
      go_wp2
      go_roundw
      case rel => exact ⟨k + 1, by omega, by go_num, HO.out, hb2⟩
      case measure => simp [intOf]; omega
    · obtain rfl : k = n := by omega
      have HO := Lib.hid hown
      clear hown
      go_wp2
      go_ret
      exact ⟨_, rfl, HO.out, hbw⟩

set_option maxHeartbeats 1000000 in
set_option maxRecDepth 100000 in
theorem rBlock_any (A : Option Addr) (n c : Nat) (xs : List Int) (w : World) (hx : Rd w w.heap.size 1 A n (intsV xs)) (hn : n ≤ 1000) :
    Calls Try.prog 22 #[.slice A n c] w fun e w' => e = .returned (.int .i64 (blockZ xs)) ∧ Below w.heap.size w w' := by
  go_enter Try.func22, Try.ntmps22
  go_wp2
  go_loopw [3, 4] (fun v i wr => ∃ k : Nat, k ≤ 3621 ∧ i = .int .i64 k ∧ (k < 3621 → wr.ownsRow w.heap.size 3 1 v (toZ (pathN k)).length (intsV (toZ (pathN k)))) ∧ (∀ j, j < k → toZ (pathN j) ≠ xs) ∧ Below w.heap.size w wr) (fun _ i _ => 3621 - (intOf i).toNat)
  case atStart => exact ⟨0, Nat.zero_le _, rfl, fun _ => (OwnB.lit w w.heap.size (Nat.le_refl _) 3 1 1 #[.int .i64 0] (by simp) (by simp [maxLen])).own, fun j hj => by omega, (Below.refl _ _).alloc (Nat.le_refl _) _⟩
  case round =>
    obtain ⟨k, hk, rfl, hown0, hno, hbw⟩ := hrel
    have HNO := Lib.hid hno
    clear hno
    by_cases hlt : k < 3621
    · have hown := hown0 hlt
      clear hown0
      have hpl := path_len k
      obtain ⟨g, cap, rfl, hB⟩ := own_pos hown (by rw [toZ_len]; omega)
      obtain ⟨m, hm⟩ : ∃ m, (toZ (pathN k)).length = m := ⟨_, rfl⟩
      have hm2 : m = (pathN k).length := by rw [← hm, toZ_len]
      rw [hm] at hB ⊢
      have hrd := hB.rd
      have HM := Lib.hid hm2
      have HR := Lib.hid hrd
      have hml : m ≤ 4 := by omega
      have HX := Lib.hid ((hx.below hbw).more hbw.size)
      clear hown hB hm hm2 hrd
      by_cases heq : toZ (pathN k) = xs
      · have hres : blockZ xs = (k : Int) := (path_iff xs k hlt).1 heq
        have hd : decide (toZ (pathN k) = xs) = true := decide_eq_true heq
        have HD := Lib.hid hd
        have HRES := Lib.hid hres
        clear hd hres heq
        go_wp2_with fail
        refine (Same_any _ _ m _ n _ _ _ wr HR.out HX.out (by omega)).mono ?_
        rintro e w1 ⟨rfl, hb1⟩
        rw [HD.out]
        go_wp2
        go_ret
        exact ⟨ret_int HRES.out.symm, hbw.trans (hb1.mono hbw.size)⟩
      · have hd : decide (toZ (pathN k) = xs) = false := decide_eq_false heq
        have hno2 : ∀ j, j < k + 1 → toZ (pathN j) ≠ xs := fun j hj => by
          rcases Nat.lt_or_ge j k with h | h
          · exact HNO.out j h
          · obtain rfl : j = k := by omega
            exact heq
        have HD := Lib.hid hd
        have HNO2 := Lib.hid hno2
        clear hd heq hno2 hx
        go_wp2_with fail
        refine (Same_any _ _ m _ n _ _ _ wr HR.out HX.out (by omega)).mono ?_
        rintro e w1 ⟨rfl, hb1⟩
        rw [HD.out]
        have hrd1 := (HR.out.below hb1).more hb1.size
        have HR1 := Lib.hid hrd1
        clear hrd1
        go_wp2_with fail
        refine (Next_any k _ _ m w1 hlt HM.out HR1.out).mono ?_
        rintro e w2 ⟨v, rfl, h2, _, hb2⟩
        have hb1' := hbw.trans (hb1.mono hbw.size)
        have hb2' := hb1'.trans (hb2.mono hb1'.size)
        have hO : k + 1 < 3621 → w2.ownsRow w.heap.size 3 1 v (toZ (pathN (k + 1))).length (intsV (toZ (pathN (k + 1)))) := fun h => own_base (h2 (by omega)) hb1'.size
        have HO := Lib.hid hO
        clear hO h2
        go_wp2
        go_roundw
        case rel => exact ⟨k + 1, by omega, by go_num, HO.out, HNO2.out, hb2'⟩
        case measure => simp [intOf]; omega
    · have hres : blockZ xs = -1 := by
        cases h : decide (blockZ xs = -1) with
        | true => exact of_decide_eq_true h
        | false =>
          obtain ⟨j, hj, _, h2⟩ := path_block xs (of_decide_eq_false h)
          exact absurd h2 (HNO.out j (by omega))
      have HRES := Lib.hid hres
      clear hres hown0
      go_wp2
      go_ret
      exact ⟨ret_int HRES.out.symm, hbw⟩
end Go.Proofs.Ytmladfkafbjmoaa
