/-
  Rows of values of several cells each: how they lie, one behind the other.
-/
import Derived.Test.YtpofkkoiicdpbaaRow
namespace Go.Proofs.Ytpofkkoiicdpbaa
open Go.RowKit

/-- The cells of a row of things. -/
def rowV {α : Type} (f : α → List Value) (l : List α) : List Value := l.flatMap f
section
variable {α : Type} {f : α → List Value} {sz : Nat}
theorem rowV_nil : rowV f [] = [] := rfl
theorem rowV_cons (a : α) (l : List α) : rowV f (a :: l) = f a ++ rowV f l := by simp [rowV]
theorem rowV_append (l m : List α) : rowV f (l ++ m) = rowV f l ++ rowV f m := by simp [rowV]
theorem rowV_snoc (l : List α) (a : α) : rowV f (l ++ [a]) = rowV f l ++ f a := by simp [rowV]
theorem rowV_one (a : α) : rowV f [a] = f a := by simp [rowV]
theorem rowV_len (hf : ∀ a, (f a).length = sz) (l : List α) : (rowV f l).length = l.length * sz := by
  induction l with
  | nil => simp [rowV]
  | cons a t ih => rw [rowV_cons, List.length_append, hf, ih, List.length_cons, Nat.add_mul, Nat.one_mul, Nat.add_comm]
theorem rowV_get (hf : ∀ a, (f a).length = sz) (l : List α) : ∀ (k j : Nat) (a : α) (u : Value), l[k]? = some a → (f a)[j]? = some u → (rowV f l)[k * sz + j]? = some u := by
  induction l with
  | nil => intro k j a u h; simp at h
  | cons b t ih =>
    intro k j a u h hu
    rw [rowV_cons]
    cases k with
    | zero =>
      simp at h
      subst h
      rw [Nat.zero_mul, Nat.zero_add, List.getElem?_append_left (List.getElem?_eq_some_iff.1 hu).1]; exact hu
    | succ k =>
      have h' : t[k]? = some a := by simpa using h
      rw [List.getElem?_append_right (by rw [hf, Nat.add_mul]; omega), hf]
      rw [show (k + 1) * sz + j - sz = k * sz + j from by rw [Nat.add_mul]; omega]
      exact ih k j a u h' hu
theorem rowV_take (hf : ∀ a, (f a).length = sz) (l : List α) (k : Nat) : (rowV f l).take (k * sz) = rowV f (l.take k) := by
  induction l generalizing k with
  | nil => simp [rowV]
  | cons a t ih =>
    cases k with
    | zero => simp [rowV]
    | succ k =>
      rw [List.take_succ_cons, rowV_cons, rowV_cons, List.take_append, hf, ← ih k]
      rw [List.take_of_length_le (by rw [hf, Nat.add_mul]; omega), show (k + 1) * sz - sz = k * sz from by rw [Nat.add_mul]; omega]
theorem rowV_drop (hf : ∀ a, (f a).length = sz) (l : List α) (k : Nat) : (rowV f l).drop (k * sz) = rowV f (l.drop k) := by
  induction l generalizing k with
  | nil => simp [rowV]
  | cons a t ih =>
    cases k with
    | zero => simp
    | succ k =>
      rw [List.drop_succ_cons, rowV_cons, List.drop_append, hf, ← ih k]
      rw [List.drop_of_length_le (by rw [hf, Nat.add_mul]; omega), show (k + 1) * sz - sz = k * sz from by rw [Nat.add_mul]; omega, List.nil_append]
theorem rowV_mem {P : Value → Prop} (h : ∀ a, ∀ u ∈ f a, P u) (l : List α) : ∀ u ∈ rowV f l, P u := by
  intro u hu
  obtain ⟨a, _, ha⟩ := List.mem_flatMap.1 hu
  exact h a u ha
end
/-- A thing of a row in memory: where it lies. -/
theorem rowV_at {α : Type} {f : α → List Value} {sz : Nat} (hf : ∀ a, (f a).length = sz) {w : World} {B n : Nat} {A : Option Addr} {l : List α} (h : Rd w B sz A n (rowV f l)) {k : Nat} (hk : k < n) (hs : 0 < sz) :
    ∃ g o a, A = some ⟨g, o, none⟩ ∧ g < B ∧ l[k]? = some a ∧ ∀ j u, (f a)[j]? = some u → w.cell? ⟨g, o + (k * sz + j), none⟩ = some u := by
  obtain ⟨g, o, e, hb, hc⟩ := h.2 (by omega)
  have hl := h.1
  rw [rowV_len hf] at hl
  have hkl : k < l.length := by
    have := Nat.eq_of_mul_eq_mul_right hs hl
    omega
  exact ⟨g, o, l[k], e, hb, List.getElem?_eq_getElem hkl, fun j u hu => hc _ _ (rowV_get hf l k j l[k] u (List.getElem?_eq_getElem hkl) hu)⟩
theorem rowV_count {α : Type} {f : α → List Value} {sz : Nat} (hf : ∀ a, (f a).length = sz) {w : World} {B n : Nat} {A : Option Addr} {l : List α} (h : Rd w B sz A n (rowV f l)) (hs : 0 < sz) : l.length = n := by
  have hl := h.1
  rw [rowV_len hf] at hl
  exact Nat.eq_of_mul_eq_mul_right hs hl
theorem choose_list {α : Type} (P : Nat → α → Prop) : ∀ n, (∀ i, i < n → ∃ a, P i a) → ∃ l : List α, l.length = n ∧ ∀ i a, l[i]? = some a → P i a
  | 0, _ => ⟨[], rfl, fun i a h => by simp at h⟩
  | n + 1, h => by
    obtain ⟨l, hl, hp⟩ := choose_list P n (fun i hi => h i (by omega))
    obtain ⟨a, ha⟩ := h n (by omega)
    refine ⟨l ++ [a], by simp [hl], fun i b hb => ?_⟩
    by_cases hi : i < n
    · rw [List.getElem?_append_left (by omega)] at hb
      exact hp i b hb
    · have hlt := (List.getElem?_eq_some_iff.1 hb).1
      simp [hl] at hlt
      have : i = n := by omega
      subst this
      rw [List.getElem?_append_right (by omega), hl] at hb
      simp at hb
      subst hb
      exact ha
theorem rd_takeV {w : World} {B sz n : Nat} {A : Option Addr} {xs : List Value} (h : Rd w B sz A n xs) {k : Nat} (hk : k ≤ n) : Rd w B sz A k (xs.take (k * sz)) := by
  have hl := h.1
  have hm : k * sz ≤ n * sz := Nat.mul_le_mul_right _ hk
  refine ⟨by rw [List.length_take]; omega, fun h0 => ?_⟩
  obtain ⟨g, o, e, hb, hc⟩ := h.2 (by omega)
  refine ⟨g, o, e, hb, fun j u hu => hc j u ?_⟩
  rw [List.getElem?_take] at hu
  split at hu
  · exact hu
  · exact absurd hu (by simp)
end Go.Proofs.Ytpofkkoiicdpbaa
