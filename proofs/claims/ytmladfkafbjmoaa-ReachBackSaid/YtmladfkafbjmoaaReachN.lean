/-
  Plain: the nodes on paths; a list sorted and made lean is the list of its members in order.
-/
import Derived.Test.YtmladfkafbjmoaaReachA
import Derived.Lib.SlicesCompact
namespace Go.Proofs.Ytmladfkafbjmoaa

theorem keeps_iff (d : Array Int) (j : Nat) : Lib.keeps d j = true ↔ (j = 0 ∨ d[j]! ≠ d[j - 1]!) := by
  unfold Lib.keeps; simp

theorem compact_up (d : Array Int) (hs : ∀ i j, i ≤ j → j < d.size → d[i]! ≤ d[j]!) : ∀ m, m ≤ d.size →
    (Lib.compactUpTo d m).Pairwise (· < ·) ∧ (∀ x, x ∈ Lib.compactUpTo d m ↔ ∃ j, j < m ∧ d[j]! = x)
  | 0, _ => ⟨by simp [Lib.compactUpTo], fun x => by simp [Lib.compactUpTo]⟩
  | m + 1, h => by
    obtain ⟨h1, h2⟩ := compact_up d hs m (by omega)
    rw [Lib.compactUpTo_succ]
    by_cases hk : Lib.keeps d m = true
    · rw [if_pos hk]
      have hkk := (keeps_iff d m).1 hk
      refine ⟨?_, fun x => ?_⟩
      · rw [List.pairwise_append]
        refine ⟨h1, by simp, fun a ha b hb => ?_⟩
        rw [List.mem_singleton.1 hb]
        obtain ⟨j, hj, rfl⟩ := (h2 a).1 ha
        have a1 := hs j (m - 1) (by omega) (by omega)
        have a2 := hs (m - 1) m (by omega) (by omega)
        rcases hkk with h | h <;> omega
      · rw [List.mem_append, h2, List.mem_singleton]
        constructor
        · rintro (⟨j, hj, rfl⟩ | rfl)
          · exact ⟨j, by omega, rfl⟩
          · exact ⟨m, by omega, rfl⟩
        · rintro ⟨j, hj, rfl⟩
          rcases Nat.lt_or_ge j m with h | h
          · exact .inl ⟨j, h, rfl⟩
          · obtain rfl : j = m := by omega
            exact .inr rfl
    · rw [if_neg hk, List.append_nil]
      refine ⟨h1, fun x => ?_⟩
      rw [h2]
      have hkk : ¬ (m = 0 ∨ d[m]! ≠ d[m - 1]!) := fun h => hk ((keeps_iff d m).2 h)
      constructor
      · rintro ⟨j, hj, rfl⟩; exact ⟨j, by omega, rfl⟩
      · rintro ⟨j, hj, rfl⟩
        rcases Nat.lt_or_ge j m with h | h
        · exact ⟨j, h, rfl⟩
        · obtain rfl : j = m := by omega
          refine ⟨j - 1, by omega, ?_⟩
          have : ¬ d[j]! ≠ d[j - 1]! := fun h => hkk (.inr h)
          exact (Decidable.not_not.1 this).symm

theorem compact_list (l : List Int) (hs : l.Pairwise (· ≤ ·)) : (Lib.compact l).Pairwise (· < ·) ∧ ∀ x, x ∈ Lib.compact l ↔ x ∈ l := by
  obtain ⟨h1, h2⟩ := compact_up l.toArray (fun i j hij hj => by
    simp at hj
    rw [getElem!_pos l.toArray i (by simp; omega), getElem!_pos l.toArray j (by simpa using hj)]
    rcases Nat.lt_or_ge i j with h | h
    · have := List.pairwise_iff_getElem.1 hs i j (by omega) hj h
      simpa using this
    · obtain rfl : i = j := by omega
      exact Int.le_refl _) l.length (by simp)
  refine ⟨h1, fun x => ?_⟩
  show x ∈ Lib.compactUpTo l.toArray l.length ↔ x ∈ l
  rw [h2, List.mem_iff_getElem]
  constructor
  · rintro ⟨j, hj, rfl⟩; exact ⟨j, hj, by rw [getElem!_pos l.toArray j (by simpa using hj)]; simp⟩
  · rintro ⟨j, hj, rfl⟩; exact ⟨j, hj, by rw [getElem!_pos l.toArray j (by simpa using hj)]; simp⟩

theorem eq_of_lt {l m : List Int} (hl : l.Pairwise (· < ·)) (hm : m.Pairwise (· < ·)) (h : ∀ x, x ∈ l ↔ x ∈ m) : l = m := by
  have nd : ∀ {k : List Int}, k.Pairwise (· < ·) → k.Nodup := fun hk => hk.imp (fun hab => by omega)
  have hp : l.Perm m := (List.perm_ext_iff_of_nodup (nd hl) (nd hm)).2 h
  exact hp.eq_of_pairwise (fun a b _ _ h1 h2 => by omega) hl hm

/-- A list in order, each member once. -/
def leanL (l : List Int) : List Int := Lib.compact (l.mergeSort fun x y => decide (x ≤ y))
theorem lean_spec (l : List Int) : (leanL l).Pairwise (· < ·) ∧ ∀ x, x ∈ leanL l ↔ x ∈ l := by
  have hs : (l.mergeSort fun x y => decide (x ≤ y)).Pairwise (· ≤ ·) := by
    have := List.pairwise_mergeSort (le := fun x y : Int => decide (x ≤ y)) (fun a b c h1 h2 => by simp at *; omega) (fun a b => by simp; omega) l
    exact this.imp (fun h => by simpa using h)
  obtain ⟨h1, h2⟩ := compact_list _ hs
  exact ⟨h1, fun x => by rw [leanL, h2, (List.mergeSort_perm l _).mem_iff]⟩

/-- The numbers, in order, that a test takes. -/
def flagged (t : Nat → Bool) (n : Nat) : List Int := ((List.range n).filter t).map Int.ofNat
theorem flagged_spec (t : Nat → Bool) (n : Nat) : (flagged t n).Pairwise (· < ·) ∧ ∀ x, x ∈ flagged t n ↔ ∃ k : Nat, k < n ∧ t k = true ∧ x = k := by
  constructor
  · unfold flagged
    rw [List.pairwise_map]
    refine (List.Pairwise.filter _ List.pairwise_lt_range).imp (fun h => ?_)
    exact Int.ofNat_lt.2 h
  · intro x
    unfold flagged
    rw [List.mem_map]
    constructor
    · rintro ⟨k, hk, rfl⟩
      rw [List.mem_filter, List.mem_range] at hk
      exact ⟨k, hk.1, hk.2, rfl⟩
    · rintro ⟨k, h1, h2, rfl⟩
      exact ⟨k, by rw [List.mem_filter, List.mem_range]; exact ⟨h1, h2⟩, rfl⟩
theorem flagged_succ (t : Nat → Bool) (n : Nat) : flagged t (n + 1) = flagged t n ++ (if t n = true then [(n : Int)] else []) := by
  unfold flagged
  rw [List.range_succ, List.filter_append, List.map_append]
  by_cases h : t n = true
  · rw [if_pos h]; simp [h]
  · rw [if_neg h]; simp [h]
theorem lean_flagged (l : List Int) (n : Nat) (h : ∀ x ∈ l, 0 ≤ x ∧ x < n) : leanL l = flagged (fun k => decide ((k : Int) ∈ l)) n := by
  obtain ⟨h1, h2⟩ := lean_spec l
  obtain ⟨h3, h4⟩ := flagged_spec (fun k => decide ((k : Int) ∈ l)) n
  refine eq_of_lt h1 h3 (fun x => ?_)
  rw [h2, h4]
  constructor
  · intro hx
    have := h x hx
    exact ⟨x.toNat, by omega, decide_eq_true (by rw [Int.toNat_of_nonneg this.1]; exact hx), by omega⟩
  · rintro ⟨k, _, hk, rfl⟩; simpa using hk

/-- The nodes on a block's path. -/
def onN (n : Nat) : List Int := (List.range' 1 ((pathN n).length - 1)).map fun i => numberZ ((toZ (pathN n)).take i)
def firstB (k : Nat) : Nat := if k = 0 then 6 else if k = 1 then 21 else if k = 2 then 246 else if k < 18 then 21 + 15 * (k - 3)
  else if k < 33 then 246 + 225 * (k - 18) else 246 + 15 * (k - 33)
def onN' (n : Nat) : List Int := if n < 6 then [] else if n < 21 then [0] else if n < 246 then [1, 3 + ((n - 21) / 15 : Nat)] else [2, 18 + ((n - 246) / 225 : Nat), 33 + ((n - 246) / 15 : Nat)]
theorem on_eq (n : Nat) (h : n < 3621) : onN n = onN' n := by
  unfold onN onN' pathN
  split
  · rfl
  · split
    · rfl
    · split
      · show [numberZ [7], numberZ [7, _]] = _
        have e1 : numberZ [7] = 1 := by decide
        have e2 : numberZ [7, ((((n - 21) / 15 : Nat)) : Int)] = 3 + ((n - 21) / 15 : Nat) := by
          rw [numberZ_cons, if_pos (by simp [okD_iff]; omega), if_neg (by simp), if_pos (by simp)]
          simp [valZ]
        rw [e1]; exact congrArg (fun t => [(1 : Int), t]) e2
      · show [numberZ [8], numberZ [8, _], numberZ [8, _, _]] = _
        have e1 : numberZ [8] = 2 := by decide
        have e2 : numberZ [8, ((((n - 246) / 225 : Nat)) : Int)] = 18 + ((n - 246) / 225 : Nat) := by
          rw [numberZ_cons, if_pos (by simp [okD_iff]; omega), if_neg (by simp), if_pos (by simp)]
          simp [valZ]
        have e3 : numberZ [8, ((((n - 246) / 225 : Nat)) : Int), ((((n - 246) / 15 % 15 : Nat)) : Int)] = 33 + ((n - 246) / 15 : Nat) := by
          rw [numberZ_cons, if_pos (by simp [okD_iff]; omega), if_neg (by simp), if_neg (by simp)]
          simp [valZ]
          omega
        rw [e1]; exact (congrArg (fun t => [(2 : Int), t, _]) e2).trans (congrArg (fun t => [(2 : Int), _, t]) e3)
theorem on_mem (n k : Nat) (hn : n < 3621) (hk : (k : Int) ∈ onN n) : firstB k ≤ n ∧ k < 258 := by
  rw [on_eq n hn] at hk
  unfold onN' at hk
  unfold firstB
  split at hk
  · simp at hk
  · split at hk
    · simp at hk; subst hk; simp; omega
    · split at hk
      · simp at hk
        rcases hk with hk | hk
        · have : k = 1 := by omega
          subst this; simp; omega
        · repeat' split
          all_goals omega
      · simp at hk
        rcases hk with hk | hk | hk
        · have : k = 2 := by omega
          subst this; simp; omega
        · repeat' split
          all_goals omega
        · repeat' split
          all_goals omega
theorem on_first (k : Nat) (hk : k < 258) : (k : Int) ∈ onN (firstB k) ∧ firstB k < 3621 := by
  have hb : firstB k < 3621 := by unfold firstB; repeat' split
                                  all_goals omega
  refine ⟨?_, hb⟩
  rw [on_eq _ hb]
  unfold onN' firstB
  by_cases h0 : k = 0
  · subst h0; decide
  by_cases h1 : k = 1
  · subst h1; decide
  by_cases h2 : k = 2
  · subst h2; decide
  by_cases h3 : k < 18
  · rw [if_neg h0, if_neg h1, if_neg h2, if_pos h3, if_neg (by omega), if_neg (by omega), if_pos (by omega)]
    simp; omega
  by_cases h4 : k < 33
  · rw [if_neg h0, if_neg h1, if_neg h2, if_neg h3, if_pos h4, if_neg (by omega), if_neg (by omega), if_neg (by omega)]
    simp; omega
  · rw [if_neg h0, if_neg h1, if_neg h2, if_neg h3, if_neg h4, if_neg (by omega), if_neg (by omega), if_neg (by omega)]
    simp; omega
theorem on_range (n : Nat) (hn : n < 3621) : ∀ x ∈ onN n, 0 ≤ x ∧ x < (258 : Nat) := by
  intro x hx
  rw [on_eq n hn] at hx
  unfold onN' at hx
  split at hx
  · simp at hx
  · split at hx
    · simp at hx; omega
    · split at hx
      · simp at hx; omega
      · simp at hx; omega
theorem on_lt (n : Nat) (hn : n < 3621) : (onN n).Pairwise (· < ·) := by
  rw [on_eq n hn]; unfold onN'
  repeat' split
  all_goals simp
  all_goals omega
theorem on_len (n : Nat) : (onN n).length = (pathN n).length - 1 := by simp [onN]
theorem lean_on (n : Nat) (hn : n < 3621) : leanL (onN n) = onN n := eq_of_lt (lean_spec _).1 (on_lt n hn) (lean_spec _).2

/-- The nodes on the paths to blocks. -/
def onL (l : List Nat) : List Int := l.flatMap onN
theorem onL_range (l : List Nat) (h : ∀ n ∈ l, n < 3621) : ∀ x ∈ onL l, 0 ≤ x ∧ x < (258 : Nat) := by
  intro x hx
  obtain ⟨n, hn, hx⟩ := List.mem_flatMap.1 hx
  exact on_range n (h n hn) x hx
theorem first_count : ∀ m, m < 256 → (flagged (fun k => decide (firstB k < m)) 258).length = countN m := by
  have : (List.range 256).all (fun m => (flagged (fun k => decide (firstB k < m)) 258).length == countN m) = true := by decide +kernel
  intro m hm
  have := List.all_eq_true.1 this m (List.mem_range.2 hm)
  simpa using this
theorem lean_count (m : Nat) (hm : m < 256) : (leanL (onL (List.range m))).length = countN m := by
  have hr := onL_range (List.range m) (fun n hn => by have := List.mem_range.1 hn; omega)
  rw [← first_count m hm]
  refine congrArg List.length (eq_of_lt (lean_spec _).1 (flagged_spec _ _).1 (fun x => ?_))
  rw [(lean_spec _).2, (flagged_spec _ _).2]
  constructor
  · intro hx
    have h1 := hr x hx
    obtain ⟨n, hn, hx⟩ := List.mem_flatMap.1 hx
    have hn := List.mem_range.1 hn
    refine ⟨x.toNat, by omega, ?_, by omega⟩
    have := on_mem n x.toNat (by omega) (by rw [Int.toNat_of_nonneg h1.1]; exact hx)
    simp; omega
  · rintro ⟨k, hk, ht, rfl⟩
    have ht : firstB k < m := by simpa using ht
    exact List.mem_flatMap.2 ⟨firstB k, List.mem_range.2 ht, (on_first k hk).1⟩
end Go.Proofs.Ytmladfkafbjmoaa
