/-
  Plain Lean: pieces of a path, and where it leads; no program in sight.
-/
import Derived.Test.YtofbgebgneinaaaDoorTitleB
import Derived.Lib.Bytealg
namespace Go.Proofs.YtofbgebgneinaaaDoor

/-- A text at each / . -/
def splitB : List UInt8 → List (List UInt8)
  | [] => [[]]
  | c :: r => if c = 47 then [] :: splitB r else
      match splitB r with
      | [] => [[c]]
      | p :: ps => (c :: p) :: ps
theorem splitB_nil : splitB [] = [[]] := rfl
theorem splitB_slash (r : List UInt8) : splitB (47 :: r) = [] :: splitB r := by rw [splitB, if_pos rfl]
theorem splitB_ne (l : List UInt8) : splitB l ≠ [] := by
  cases l with
  | nil => simp [splitB]
  | cons c r =>
    rw [splitB]
    split
    · simp
    · split <;> simp
theorem splitB_other (c : UInt8) (r : List UInt8) (h : c ≠ 47) : ∃ p ps, splitB r = p :: ps ∧ splitB (c :: r) = (c :: p) :: ps := by
  rw [splitB, if_neg h]
  cases hs : splitB r with
  | nil => exact absurd hs (splitB_ne r)
  | cons p ps => exact ⟨p, ps, rfl, rfl⟩

theorem split_none (l : List UInt8) (h : Lib.indexByte l 47 = -1) : splitB l = [l] := by
  induction l with
  | nil => rfl
  | cons c r ih =>
    rw [Lib.indexByte] at h
    by_cases hc : c = 47
    · subst hc; simp at h
    · have hcb : (c == 47) = false := beq_false_of_ne hc
      rw [hcb] at h
      simp at h
      have hr : Lib.indexByte r 47 = -1 := by
        have hg := Lib.indexByte_ge r 47
        by_cases h1 : Lib.indexByte r 47 = -1
        · exact h1
        · exfalso; have := h h1; omega
      obtain ⟨p, ps, e1, e2⟩ := splitB_other c r hc
      rw [e2]; rw [ih hr] at e1
      injection e1 with e3 e4
      rw [← e3, ← e4]
theorem split_some (l : List UInt8) (h : Lib.indexByte l 47 ≠ -1) : 0 ≤ Lib.indexByte l 47 ∧ (Lib.indexByte l 47).toNat < l.length ∧ splitB l = l.take (Lib.indexByte l 47).toNat :: splitB (l.drop ((Lib.indexByte l 47).toNat + 1)) := by
  induction l with
  | nil => exact absurd rfl h
  | cons c r ih =>
    have hg := Lib.indexByte_ge r 47
    by_cases hc : c = 47
    · subst hc
      have e : Lib.indexByte (47 :: r) 47 = 0 := by rw [Lib.indexByte]; simp
      rw [e]
      exact ⟨Int.le_refl _, by simp, by rw [splitB_slash]; simp⟩
    · have hcb : (c == 47) = false := beq_false_of_ne hc
      have hr : Lib.indexByte r 47 ≠ -1 := fun h1 => h (by rw [Lib.indexByte, hcb]; simp [h1])
      have e : Lib.indexByte (c :: r) 47 = Lib.indexByte r 47 + 1 := by
        rw [Lib.indexByte, hcb]; simp [hr]
      obtain ⟨h1, h2, h3⟩ := ih hr
      obtain ⟨p, ps, e1, e2⟩ := splitB_other c r hc
      rw [e, show (Lib.indexByte r 47 + 1).toNat = (Lib.indexByte r 47).toNat + 1 from by omega]
      refine ⟨by omega, by simp; omega, ?_⟩
      rw [e2]
      rw [h3] at e1
      injection e1 with e3 e4
      rw [← e3, ← e4]
      simp
theorem split_snoc (t : List UInt8) (c : UInt8) : splitB (t ++ [c]) = if c = 47 then splitB t ++ [[]] else (splitB t).dropLast ++ [(splitB t).getLast (splitB_ne t) ++ [c]] := by
  induction t with
  | nil =>
    by_cases h : c = 47
    · subst h; simp [splitB]
    · simp [splitB, h]
  | cons x r ih =>
    by_cases hx : x = 47
    · subst hx
      have : splitB (47 :: r ++ [c]) = [] :: splitB (r ++ [c]) := splitB_slash _
      rw [this, ih]
      have hne := splitB_ne r
      by_cases h : c = 47
      · rw [if_pos h, if_pos h, splitB_slash]; rfl
      · rw [if_neg h, if_neg h]
        simp only [splitB_slash]
        rw [List.dropLast_cons_of_ne_nil hne, List.getLast_cons hne]
        rfl
    · obtain ⟨p, ps, e1, e2⟩ := splitB_other x (r ++ [c]) hx
      obtain ⟨q, qs, f1, f2⟩ := splitB_other x r hx
      have : splitB (x :: r ++ [c]) = (x :: p) :: ps := e2
      rw [this]
      rw [ih] at e1
      by_cases h : c = 47
      · rw [if_pos h] at e1 ⊢
        rw [f2]; rw [f1] at e1
        injection e1 with g1 g2
        rw [← g1, ← g2]; rfl
      · rw [if_neg h] at e1 ⊢
        simp only [f1, f2] at e1 ⊢
        cases qs with
        | nil =>
          simp at e1 ⊢
          exact ⟨e1.1.symm ▸ rfl, e1.2⟩
        | cons y ys =>
          rw [List.dropLast_cons_of_ne_nil (by simp), List.getLast_cons (by simp)] at e1 ⊢
          injection e1 with g1 g2
          rw [← g1, ← g2]; rfl

/-- Where pieces lead from names on; the error's number. -/
def parseGo : List (List UInt8) → List (List UInt8) → List (List UInt8) × Int
  | out, [] => (out, 0)
  | out, p :: ps => if p = [] ∨ p = [46] then parseGo out ps else if p = [46, 46] then parseGo out.dropLast ps
    else if isName p = false then ([], 11) else if 8 ≤ out.length then ([], 16) else parseGo (out ++ [p]) ps
def parseL (l : List UInt8) : List (List UInt8) × Int :=
  if l.head? ≠ some 47 then ([], 11) else if 200 < l.length then ([], 16) else parseGo [] (splitB l)
theorem parseGo_nil (out : List (List UInt8)) : parseGo out [] = (out, 0) := rfl
theorem parseGo_skip (out ps : List (List UInt8)) (p : List UInt8) (h : p = [] ∨ p = [46]) : parseGo out (p :: ps) = parseGo out ps := by rw [parseGo, if_pos h]
theorem parseGo_up (out ps : List (List UInt8)) : parseGo out ([46, 46] :: ps) = parseGo out.dropLast ps := by rw [parseGo, if_neg (by simp), if_pos rfl]
theorem parseGo_bad (out ps : List (List UInt8)) (p : List UInt8) (h : ¬ (p = [] ∨ p = [46])) (h2 : p ≠ [46, 46]) (h3 : isName p = false) : parseGo out (p :: ps) = ([], 11) := by
  rw [parseGo, if_neg h, if_neg h2, if_pos h3]
theorem parseGo_big (out ps : List (List UInt8)) (p : List UInt8) (h : ¬ (p = [] ∨ p = [46])) (h2 : p ≠ [46, 46]) (h3 : isName p = true) (h4 : 8 ≤ out.length) : parseGo out (p :: ps) = ([], 16) := by
  rw [parseGo, if_neg h, if_neg h2, if_neg (by rw [h3]; simp), if_pos h4]
theorem parseGo_in (out ps : List (List UInt8)) (p : List UInt8) (h : ¬ (p = [] ∨ p = [46])) (h2 : p ≠ [46, 46]) (h3 : isName p = true) (h4 : out.length < 8) : parseGo out (p :: ps) = parseGo (out ++ [p]) ps := by
  rw [parseGo, if_neg h, if_neg h2, if_neg (by rw [h3]; simp), if_neg (by omega)]
/-- What it leads to: names, at most 8; none where it is refused. -/
theorem parseGo_form : ∀ (ps out : List (List UInt8)), (∀ p ∈ out, isName p = true) → out.length ≤ 8 →
    ((parseGo out ps).2 = 0 ∨ (parseGo out ps).2 = 11 ∨ (parseGo out ps).2 = 16) ∧ ((parseGo out ps).2 ≠ 0 → (parseGo out ps).1 = []) ∧ (∀ p ∈ (parseGo out ps).1, isName p = true) ∧ (parseGo out ps).1.length ≤ 8
  | [], out, h, h8 => ⟨.inl rfl, fun h => absurd rfl h, h, h8⟩
  | p :: ps, out, h, h8 => by
    by_cases a : p = [] ∨ p = [46]
    · rw [parseGo_skip out ps p a]; exact parseGo_form ps out h h8
    · by_cases b : p = [46, 46]
      · subst b
        rw [parseGo_up]
        exact parseGo_form ps out.dropLast (fun q hq => h q ((List.dropLast_sublist out).subset hq)) (by rw [List.length_dropLast]; omega)
      · cases c : isName p with
        | false => rw [parseGo_bad out ps p a b c]; exact ⟨.inr (.inl rfl), fun _ => rfl, (fun q hq => absurd hq (List.not_mem_nil)), Nat.zero_le _⟩
        | true =>
          by_cases d : 8 ≤ out.length
          · rw [parseGo_big out ps p a b c d]; exact ⟨.inr (.inr rfl), fun _ => rfl, (fun q hq => absurd hq (List.not_mem_nil)), Nat.zero_le _⟩
          · rw [parseGo_in out ps p a b c (by omega)]
            refine parseGo_form ps (out ++ [p]) (fun q hq => ?_) (by simp; omega)
            rcases List.mem_append.1 hq with hq | hq
            · exact h q hq
            · rw [List.mem_singleton.1 hq]; exact c
theorem parse_form (l : List UInt8) : ((parseL l).2 = 0 ∨ (parseL l).2 = 11 ∨ (parseL l).2 = 16) ∧ ((parseL l).2 ≠ 0 → (parseL l).1 = []) ∧ (∀ p ∈ (parseL l).1, isName p = true) ∧ (parseL l).1.length ≤ 8 := by
  unfold parseL
  split
  · exact ⟨.inr (.inl rfl), fun _ => rfl, (fun q hq => absurd hq (List.not_mem_nil)), Nat.zero_le _⟩
  · split
    · exact ⟨.inr (.inr rfl), fun _ => rfl, (fun q hq => absurd hq (List.not_mem_nil)), Nat.zero_le _⟩
    · exact parseGo_form _ [] (fun q hq => by cases hq) (by simp)
end Go.Proofs.YtofbgebgneinaaaDoor
