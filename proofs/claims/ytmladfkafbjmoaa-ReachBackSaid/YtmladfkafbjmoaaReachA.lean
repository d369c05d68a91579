/-
  Plain Lean: paths, nodes and numbers; no program in sight.
-/
import Derived.Below
namespace Go.Proofs.Ytmladfkafbjmoaa

/-- The path of a block. -/
def pathN (n : Nat) : List Nat :=
  if n < 6 then [n] else if n < 21 then [6, n - 6] else if n < 246 then [7, (n - 21) / 15, (n - 21) % 15]
  else [8, (n - 246) / 225, (n - 246) / 15 % 15, (n - 246) % 15]
/-- The name of a node. -/
def nodeN (k : Nat) : List Nat :=
  if k < 3 then [6 + k] else if k < 33 then [7 + (k - 3) / 15, (k - 3) % 15] else [8, (k - 33) / 15, (k - 33) % 15]
def toZ (l : List Nat) : List Int := l.map Int.ofNat
theorem toZ_len (l : List Nat) : (toZ l).length = l.length := by simp [toZ]
theorem toZ_inj {l m : List Nat} (h : toZ l = toZ m) : l = m := by
  have := congrArg (List.map Int.toNat) h
  simpa [toZ, Function.comp_def] using this

def okD (x : Int) : Bool := decide (0 ≤ x) && decide (x < 15)
def valZ (l : List Int) : Int := l.foldl (fun a x => 15 * a + x) 0
def blockZ : List Int → Int
  | [] => -1
  | h :: t => if 0 ≤ h ∧ h < 9 ∧ t.all okD = true ∧ ((t.length : Int) + 1 = max 1 (h - 4)) then
      (if h < 6 then h else if h = 6 then 6 + valZ t else if h = 7 then 21 + valZ t else 246 + valZ t) else -1
def numberZ : List Int → Int
  | [] => -1
  | h :: t => if 6 ≤ h ∧ h ≤ 8 ∧ t.all okD = true ∧ ((t.length : Int) + 1 ≤ h - 5) then
      (if t.length = 0 then h - 6 else if t.length = 1 then 3 + 15 * (h - 7) + valZ t else 33 + valZ t) else -1

theorem blockZ_cons (h : Int) (t : List Int) : blockZ (h :: t) = if 0 ≤ h ∧ h < 9 ∧ t.all okD = true ∧ ((t.length : Int) + 1 = max 1 (h - 4)) then
      (if h < 6 then h else if h = 6 then 6 + valZ t else if h = 7 then 21 + valZ t else 246 + valZ t) else -1 := rfl
theorem numberZ_cons (h : Int) (t : List Int) : numberZ (h :: t) = if 6 ≤ h ∧ h ≤ 8 ∧ t.all okD = true ∧ ((t.length : Int) + 1 ≤ h - 5) then
      (if t.length = 0 then h - 6 else if t.length = 1 then 3 + 15 * (h - 7) + valZ t else 33 + valZ t) else -1 := rfl
theorem toZ_cons (x : Nat) (l : List Nat) : toZ (x :: l) = (x : Int) :: toZ l := rfl
theorem toZ_nil : toZ [] = [] := rfl
theorem okD_iff (x : Int) : okD x = true ↔ 0 ≤ x ∧ x < 15 := by simp [okD]

theorem block_path (n : Nat) (h : n < 3621) : blockZ (toZ (pathN n)) = n := by
  unfold pathN
  split
  · rename_i h6
    simp only [toZ_cons, toZ_nil]; rw [blockZ_cons]
    rw [if_pos (by simp; omega), if_pos (by omega)]
  · split
    · simp only [toZ_cons, toZ_nil]; rw [blockZ_cons]
      rw [if_pos (by simp [okD_iff]; omega), if_neg (by omega), if_pos (by omega)]
      simp [valZ]; omega
    · split
      · simp only [toZ_cons, toZ_nil]; rw [blockZ_cons]
        rw [if_pos (by simp [okD_iff]; omega), if_neg (by omega), if_neg (by omega), if_pos (by omega)]
        simp [valZ]; omega
      · simp only [toZ_cons, toZ_nil]; rw [blockZ_cons]
        rw [if_pos (by simp [okD_iff]; omega), if_neg (by omega), if_neg (by omega), if_neg (by omega)]
        simp [valZ]; omega

theorem path_block (l : List Int) (h : blockZ l ≠ -1) : ∃ n : Nat, n < 3621 ∧ blockZ l = n ∧ toZ (pathN n) = l := by
  match l with
  | [] => exact absurd rfl h
  | x :: t =>
    rw [blockZ_cons] at h ⊢
    by_cases c : 0 ≤ x ∧ x < 9 ∧ t.all okD = true ∧ ((t.length : Int) + 1 = max 1 (x - 4))
    · rw [if_pos c]
      obtain ⟨c1, c2, c3, c4⟩ := c
      by_cases h6 : x < 6
      · rw [if_pos h6]
        have ht : t = [] := List.eq_nil_of_length_eq_zero (by omega)
        subst ht
        refine ⟨x.toNat, by omega, by omega, ?_⟩
        unfold pathN
        rw [if_pos (by omega)]
        simp [toZ]; omega
      · rw [if_neg h6]
        by_cases h7 : x = 6
        · subst h7
          rw [if_pos rfl]
          match t, c3, c4 with
          | [], _, c4 => simp at c4; omega
          | [a], c3, _ =>
            simp [okD_iff] at c3
            refine ⟨6 + a.toNat, by omega, by simp [valZ]; omega, ?_⟩
            unfold pathN
            rw [if_neg (by omega), if_pos (by omega)]
            simp [toZ]; omega
          | _ :: _ :: _, _, c4 => simp at c4; omega
        · rw [if_neg h7]
          by_cases h8 : x = 7
          · subst h8
            rw [if_pos rfl]
            match t, c3, c4 with
            | [], _, c4 => simp at c4; omega
            | [_], _, c4 => simp at c4; omega
            | [a, b], c3, _ =>
              simp [okD_iff] at c3
              refine ⟨21 + 15 * a.toNat + b.toNat, by omega, by simp [valZ]; omega, ?_⟩
              unfold pathN
              rw [if_neg (by omega), if_neg (by omega), if_pos (by omega)]
              simp [toZ]; omega
            | _ :: _ :: _ :: _, _, c4 => simp at c4; omega
          · rw [if_neg h8]
            have h9 : x = 8 := by omega
            subst h9
            match t, c3, c4 with
            | [], _, c4 => simp at c4; omega
            | [_], _, c4 => simp at c4; omega
            | [_, _], _, c4 => simp at c4; omega
            | [a, b, c], c3, _ =>
              simp [okD_iff] at c3
              refine ⟨246 + 225 * a.toNat + 15 * b.toNat + c.toNat, by omega, by simp [valZ]; omega, ?_⟩
              unfold pathN
              rw [if_neg (by omega), if_neg (by omega), if_neg (by omega)]
              simp [toZ]; omega
            | _ :: _ :: _ :: _ :: _, _, c4 => simp at c4; omega
    · rw [if_neg c] at h; exact absurd rfl h
theorem path_inj (n m : Nat) (hn : n < 3621) (hm : m < 3621) (h : toZ (pathN n) = toZ (pathN m)) : n = m := by
  have h1 := block_path n hn
  have h2 := block_path m hm
  rw [h] at h1; omega
theorem path_iff (l : List Int) (n : Nat) (hn : n < 3621) : toZ (pathN n) = l ↔ blockZ l = n := by
  constructor
  · rintro rfl; exact block_path n hn
  · intro h
    obtain ⟨m, hm, h1, h2⟩ := path_block l (by omega)
    have : n = m := by omega
    subst this; exact h2

theorem number_node (k : Nat) (h : k < 258) : numberZ (toZ (nodeN k)) = k := by
  unfold nodeN
  split
  · simp only [toZ_cons, toZ_nil]; rw [numberZ_cons]
    rw [if_pos (by simp; omega), if_pos List.length_nil]; omega
  · split
    · simp only [toZ_cons, toZ_nil]; rw [numberZ_cons]
      rw [if_pos (by simp [okD_iff]; omega), if_neg (by simp), if_pos (by simp)]
      simp [valZ]; omega
    · simp only [toZ_cons, toZ_nil]; rw [numberZ_cons]
      rw [if_pos (by simp [okD_iff]; omega), if_neg (by simp), if_neg (by simp)]
      simp [valZ]; omega
theorem node_number (l : List Int) (h : numberZ l ≠ -1) : ∃ k : Nat, k < 258 ∧ numberZ l = k ∧ toZ (nodeN k) = l := by
  match l with
  | [] => exact absurd rfl h
  | x :: t =>
    rw [numberZ_cons] at h ⊢
    by_cases c : 6 ≤ x ∧ x ≤ 8 ∧ t.all okD = true ∧ ((t.length : Int) + 1 ≤ x - 5)
    · rw [if_pos c]
      obtain ⟨c1, c2, c3, c4⟩ := c
      match t, c3, c4 with
      | [], _, _ =>
        rw [if_pos List.length_nil]
        refine ⟨(x - 6).toNat, by omega, by omega, ?_⟩
        unfold nodeN
        rw [if_pos (by omega)]
        simp [toZ]; omega
      | [a], c3, c4 =>
        rw [if_neg (by simp), if_pos (by simp)]
        simp [okD_iff] at c3
        simp at c4
        refine ⟨(3 + 15 * (x - 7) + a).toNat, by omega, by simp [valZ]; omega, ?_⟩
        unfold nodeN
        rw [if_neg (by omega), if_pos (by omega)]
        simp [toZ]; omega
      | [a, b], c3, c4 =>
        rw [if_neg (by simp), if_neg (by simp)]
        simp [okD_iff] at c3
        simp at c4
        refine ⟨(33 + 15 * a + b).toNat, by omega, by simp [valZ]; omega, ?_⟩
        unfold nodeN
        rw [if_neg (by omega), if_neg (by omega)]
        simp [toZ]; omega
      | _ :: _ :: _ :: _, _, c4 => simp at c4; omega
    · rw [if_neg c] at h; exact absurd rfl h
theorem node_iff (l : List Int) (k : Nat) (hk : k < 258) : toZ (nodeN k) = l ↔ numberZ l = k := by
  constructor
  · rintro rfl; exact number_node k hk
  · intro h
    obtain ⟨m, hm, h1, h2⟩ := node_number l (by omega)
    have : k = m := by omega
    subst this; exact h2

/-! ### counts -/
/-- How many nodes are met first at a block. -/
def tz (n : Nat) : Nat := if n < 6 then 0 else if n < 21 then (if n = 6 then 1 else 0)
  else if n < 246 then (if (n - 21) % 15 = 0 then (if n = 21 then 2 else 1) else 0)
  else (if (n - 246) % 15 = 0 then (if (n - 246) % 225 = 0 then (if n = 246 then 3 else 2) else 1) else 0)
def countN (n : Nat) : Nat :=
  if n ≤ 6 then 0 else if n ≤ 21 then 1 else if n ≤ 246 then 2 + (n - 21 + 14) / 15 else 18 + (n - 246 + 14) / 15 + ((n - 246 + 14) / 15 + 14) / 15
theorem count_succ (n : Nat) : countN (n + 1) = countN n + tz n := by
  unfold countN tz
  repeat' split
  all_goals omega
end Go.Proofs.Ytmladfkafbjmoaa
