/-
  Walks: names under others; the same names.
-/
import Derived.Test.YtofbgebgneinaaaDoorPathE
namespace Go.Proofs.YtofbgebgneinaaaDoor
open Go.RowKit Go.Shelf
set_option linter.unusedVariables false

def underL (l t : List (List UInt8)) : Bool := decide (t.length < l.length) && decide (l.take t.length = t)
theorem st_inj {a b : List UInt8} (h : st a = st b) : a = b := by rw [← oc_st a, h, oc_st]
theorem st_ne {x y : List UInt8} (h : x ≠ y) : ((st x).toList == (st y).toList) = false := by
  rw [ByteArray.toList_eq, ByteArray.toList_eq]
  exact beq_false_of_ne (fun e => h (st_inj (by unfold st at e ⊢; simpa using e)))
theorem map_st_inj : ∀ {a b : List (List UInt8)}, a.map st = b.map st → a = b
  | [], [], _ => rfl
  | [], _ :: _, h => by simp at h
  | _ :: _, [], h => by simp at h
  | x :: a, y :: b, h => by
    simp only [List.map_cons, List.cons.injEq] at h
    rw [st_inj h.1, map_st_inj h.2]
theorem strV_get {l : List (List UInt8)} {j : Nat} (h : j < l.length) : (strV l)[j]? = some (.string ((l.map st).getD j ByteArray.empty)) := by
  simp [strV, List.getD_eq_getElem?_getD, h]

set_option maxHeartbeats 2000000 in
set_option maxRecDepth 100000 in
theorem Under_any (A A' : Option Addr) (n c n' c' : Nat) (l t : List (List UInt8)) (w : World) (hl : Rd w w.heap.size 1 A n (strV l)) (ht : Rd w w.heap.size 1 A' n' (strV t)) (hn : n ≤ 1000000) (hn' : n' ≤ 1000000) (hc : n ≤ c) :
    Calls Tryd.prog 14 #[.slice A n c, .slice A' n' c'] w fun e w' => e = .returned (.bool (underL l t)) ∧ Below w.heap.size w w' := by
  have h1 := hl.1
  have h2 := ht.1
  rw [strV_len, Nat.mul_one] at h1 h2
  by_cases hlt : n' < n
  · have hu : underL l t = decide (l.take n' = t) := by unfold underL; rw [h1, h2, decide_eq_true hlt, Bool.true_and]
    rw [hu]
    obtain ⟨g, o, rfl, hg, hcl⟩ := hl.2 (by omega)
    by_cases h0 : n' = 0
    · subst h0
      have ht0 : t = [] := List.eq_nil_of_length_eq_zero h2
      have hd : decide (l.take 0 = t) = true := by rw [ht0]; simp
      rw [hd]
      clear hd hu hl ht hcl
      go_enter Tryd.func14, Tryd.ntmps14
      go_wp2_with fail
      refine (Tryd.slices_Equal_string_empty _ _ _ 0 _ _ (by omega)).mono ?_
      rintro e w' ⟨rfl, rfl⟩
      go_wp2
      go_ret
      exact ⟨rfl, Below.refl _ _⟩
    · obtain ⟨g', o', rfl, hg', hct⟩ := ht.2 (by omega)
      have e1 : ((l.map st).take n' = (t.map st).take n') ↔ (l.take n' = t) := by
        rw [← List.map_take, List.take_of_length_le (l := t.map st) (by simp; omega)]
        exact ⟨map_st_inj, fun h => by rw [h]⟩
      have e2 : decide ((l.map st).take n' = (t.map st).take n') = decide (l.take n' = t) := by simp only [e1]
      have HC := Lib.hid (Tryd.slices_Equal_string g o n' c g' o' n' c' (l.map st) (t.map st) w (by simp; omega) (by simp; omega) (by omega) (by omega)
        (fun j hj => hcl j _ (strV_get (by simpa using hj))) (fun j hj => hct j _ (strV_get (by simpa using hj))))
      rw [e2] at HC
      obtain ⟨R, hR⟩ : ∃ R, decide (l.take n' = t) = R := ⟨_, rfl⟩
      rw [hR] at HC ⊢
      clear e1 e2 hR hu hl ht hcl hct
      go_enter Tryd.func14, Tryd.ntmps14
      go_wp2_with fail
      refine HC.out.mono ?_
      rintro e w' ⟨rfl, q, rfl⟩
      go_wp2
      go_ret
      exact ⟨rfl, below_drewN (Below.refl _ _) _⟩
  · have hu : underL l t = false := by unfold underL; rw [h1, h2, decide_eq_false hlt, Bool.false_and]
    rw [hu]
    clear hl ht hu
    go_enter Tryd.func14, Tryd.ntmps14
    go_wp2
    go_ret
    exact ⟨rfl, Below.refl _ _⟩

set_option maxHeartbeats 2000000 in
set_option maxRecDepth 100000 in
theorem rUnder_any (A A' : Option Addr) (n c n' c' : Nat) (l t : List (List UInt8)) (w : World) (hl : Rd w w.heap.size 1 A n (strV l)) (ht : Rd w w.heap.size 1 A' n' (strV t)) (hn : n ≤ 1000000) (hn' : n' ≤ 1000000) :
    Calls Tryd.prog 18 #[.slice A n c, .slice A' n' c'] w fun e w' => e = .returned (.bool (underL l t)) ∧ Below w.heap.size w w' := by
  have h1 := hl.1
  have h2 := ht.1
  rw [strV_len, Nat.mul_one] at h1 h2
  have H1 := Lib.hid h1
  have H2 := Lib.hid h2
  have HL := Lib.hid hl
  have HT := Lib.hid ht
  clear hl ht h1 h2
  go_enter Tryd.func18, Tryd.ntmps18
  go_wp2
  go_loopw [5] (fun i wr => ∃ k : Nat, k ≤ n' ∧ i = .int .i64 k ∧ k ≤ n ∧ Hid (l.take k = t.take k) ∧ Below w.heap.size w wr) (fun i _ => n' - (intOf i).toNat)
  case atStart => exact ⟨0, Nat.zero_le _, rfl, Nat.zero_le _, Lib.hid (by simp), Below.refl _ _⟩
  case round =>
    obtain ⟨k, hk, rfl, hkn, HK, hbw⟩ := hrel
    by_cases hlt : k < n'
    · obtain ⟨g', o', y, rfl, hg', hy, hcy⟩ := str_at ((HT.out.below hbw).more hbw.size) hlt
      by_cases hkl : k < n
      · obtain ⟨g, o, x, rfl, hg, hx, hcx⟩ := str_at ((HL.out.below hbw).more hbw.size) hkl
        have i1 : (k : Int) < (n : Int) := by omega
        have i2 : (k : Int) < (n' : Int) := by omega
        have i3 : decide ((n : Int) ≤ (k : Int)) = false := decide_eq_false (by omega)
        by_cases hxy : x = y
        · subst hxy
          have hk2 : l.take (k + 1) = t.take (k + 1) := by rw [take_snoc l k x hx, take_snoc t k x hy, HK.out]
          have HK2 := Lib.hid hk2
          clear hk2 hx hy
          go_wp2
          go_quiet (fail)
          go_wp2
          go_roundw
          case rel => exact ⟨k + 1, by omega, by go_num, by omega, HK2, below_drewN hbw _⟩
          case measure => simp [intOf]; omega
        · have hu : underL l t = false := by
            unfold underL
            rw [Bool.and_eq_false_iff]
            refine .inr (decide_eq_false fun h => hxy ?_)
            have e1 : (l.take t.length)[k]? = t[k]? := by rw [h]
            rw [List.getElem?_take, if_pos (by rw [H2.out]; exact hlt), hx, hy] at e1
            exact Option.some.inj e1
          have hsx : ((st x).toList == (st y).toList) = false := st_ne hxy
          have HU := Lib.hid hu
          clear hu hx hy
          go_wp2
          go_quiet (fail)
          go_wp2
          go_ret
          exact ⟨ret_bool HU.out.symm, below_drewN hbw _⟩
      · obtain rfl : k = n := by omega
        have hu : underL l t = false := by
          unfold underL
          rw [Bool.and_eq_false_iff]
          exact .inl (decide_eq_false (by rw [H1.out, H2.out]; omega))
        have HU := Lib.hid hu
        have i3 : decide ((k : Int) ≤ (k : Int)) = true := decide_eq_true (by omega)
        clear hu
        go_wp2
        go_quiet (fail)
        go_wp2
        go_ret
        exact ⟨ret_bool HU.out.symm, below_drewN hbw _⟩
    · obtain rfl : k = n' := by omega
      have hu : underL l t = decide (k < n) := by
        unfold underL
        rw [H1.out, H2.out, HK.out, List.take_of_length_le (by rw [H2.out]; exact Nat.le_refl _)]
        simp
      have HU := Lib.hid hu
      clear hu
      go_wp2
      go_ret
      exact ⟨ret_bool HU.out.symm, hbw⟩
end Go.Proofs.YtofbgebgneinaaaDoor
