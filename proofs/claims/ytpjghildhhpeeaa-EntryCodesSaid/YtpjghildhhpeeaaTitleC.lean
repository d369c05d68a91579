/-
  Plain Lean: octets in order are runes in order, in well formed texts; no program in sight.
-/
import Derived.Test.YtpjghildhhpeeaaTitleB
namespace Go.Proofs.Ytpjghildhhpeeaa

theorem bt_drop (a : List UInt8) (k j : Nat) : bt (a.drop k) j = bt a (k + j) := by
  simp [bt, List.getD_eq_getElem?_getD, List.getElem?_drop]
theorem cmp_step (a b : List UInt8) (k : Nat) (ha : k < a.length) (hb : k < b.length) :
    cmpL (a.drop k) (b.drop k) = if bt a k < bt b k then -1 else if bt b k < bt a k then 1 else cmpL (a.drop (k + 1)) (b.drop (k + 1)) := by
  rw [List.drop_eq_getElem_cons ha, List.drop_eq_getElem_cons hb]
  have e1 : bt a k = (a[k]).toNat := by simp [bt, List.getD_eq_getElem?_getD, ha]
  have e2 : bt b k = (b[k]).toNat := by simp [bt, List.getD_eq_getElem?_getD, hb]
  rw [e1, e2]; rfl

set_option maxHeartbeats 4000000 in
theorem first_cmp (a b : List UInt8) (ha : a ≠ []) (hb : b ≠ []) (oa : (dec a).2.2 = false) (ob : (dec b).2.2 = false) :
    ((dec a).1 < (dec b).1 → cmpL a b = -1) ∧ ((dec b).1 < (dec a).1 → cmpL a b = 1) ∧ ((dec a).1 = (dec b).1 → cmpL a b = cmpL (a.drop (dec a).2.1) (b.drop (dec b).2.1)) := by
  have la := (dec_width a).2.2 ha
  have lb := (dec_width b).2.2 hb
  unfold dec at oa ob la lb ⊢
  rcases decN_cases a.length (bt a 0) (bt a 1) (bt a 2) (bt a 3) (bt_lt _ _) (bt_lt _ _) (bt_lt _ _) (bt_lt _ _) with ⟨hc, e⟩ | ⟨hc, e⟩ | ⟨hc, e⟩ | ⟨hc, e⟩ | ⟨hc, e⟩ <;>
  rcases decN_cases b.length (bt b 0) (bt b 1) (bt b 2) (bt b 3) (bt_lt _ _) (bt_lt _ _) (bt_lt _ _) (bt_lt _ _) with ⟨hd, f⟩ | ⟨hd, f⟩ | ⟨hd, f⟩ | ⟨hd, f⟩ | ⟨hd, f⟩ <;>
  rw [e] at oa la ⊢ <;> rw [f] at ob lb ⊢ <;> dsimp only at oa ob la lb ⊢ <;> first | (exact absurd oa (by decide)) | (exact absurd ob (by decide)) | skip
  all_goals
    have s0 := cmp_step a b 0 (by omega) (by omega)
    rw [List.drop_zero, List.drop_zero] at s0
    rw [s0]
    first
    | (refine ⟨fun h => ?_, fun h => ?_, fun h => ?_⟩ <;> repeat' split
       all_goals first | rfl | (exfalso; omega))
    | (have s1 := cmp_step a b 1 (by omega) (by omega)
       rw [Nat.zero_add, s1]
       refine ⟨fun h => ?_, fun h => ?_, fun h => ?_⟩ <;> repeat' split
       all_goals first | rfl | (exfalso; omega))
    | (have s1 := cmp_step a b 1 (by omega) (by omega)
       have s2 := cmp_step a b 2 (by omega) (by omega)
       rw [Nat.zero_add, s1, s2]
       refine ⟨fun h => ?_, fun h => ?_, fun h => ?_⟩ <;> repeat' split
       all_goals first | rfl | (exfalso; omega))
    | (have s1 := cmp_step a b 1 (by omega) (by omega)
       have s2 := cmp_step a b 2 (by omega) (by omega)
       have s3 := cmp_step a b 3 (by omega) (by omega)
       rw [Nat.zero_add, s1, s2, s3]
       refine ⟨fun h => ?_, fun h => ?_, fun h => ?_⟩ <;> repeat' split
       all_goals first | rfl | (exfalso; omega))

theorem runes_order (a : List UInt8) : ∀ b, (∀ r ∈ runes a, r.odd = false) → (∀ r ∈ runes b, r.odd = false) → cmpZ ((runes a).map (·.v)) ((runes b).map (·.v)) = cmpL a b := by
  induction a using runes_ind with
  | h0 =>
    intro b _ _
    cases b with
    | nil => rfl
    | cons y b => rw [runes_cons (y :: b) (by simp), runes_nil]; rfl
  | h1 a ha ih =>
    intro b h1 h2
    by_cases hb : b = []
    · subst hb
      rw [runes_cons a ha, runes_nil]
      cases a with
      | nil => exact absurd rfl ha
      | cons x a => rfl
    · rw [runes_cons a ha] at h1 ⊢
      rw [runes_cons b hb] at h2 ⊢
      have f := first_cmp a b ha hb (h1 _ List.mem_cons_self) (h2 _ List.mem_cons_self)
      have i := ih (b.drop (dec b).2.1) (fun r hr => h1 r (List.mem_cons_of_mem _ hr)) (fun r hr => h2 r (List.mem_cons_of_mem _ hr))
      rw [List.map_cons, List.map_cons]
      show (if (dec a).1 < (dec b).1 then (-1 : Int) else if (dec b).1 < (dec a).1 then 1 else cmpZ _ _) = _
      by_cases p : (dec a).1 < (dec b).1
      · rw [if_pos p, f.1 p]
      · rw [if_neg p]
        by_cases q : (dec b).1 < (dec a).1
        · rw [if_pos q, f.2.1 q]
        · rw [if_neg q, i, ← f.2.2 (by omega)]

theorem strays_none (l : List UInt8) : strays l = 0 ↔ ∀ r ∈ runes l, r.odd = false := by
  unfold strays
  rw [List.length_eq_zero_iff, List.filter_eq_nil_iff]
  simp

/-- The document's order is that of the octets. -/
def refOrder (a b : List UInt8) : Int := if 0 < strays a + strays b then cmpZ (a.map fun c => (c.toNat : Int)) (b.map fun c => (c.toNat : Int)) else cmpZ ((runes a).map (·.v)) ((runes b).map (·.v))
theorem cmpZ_bytes (a b : List UInt8) : cmpZ (a.map fun c => (c.toNat : Int)) (b.map fun c => (c.toNat : Int)) = cmpL a b := by
  induction a generalizing b with
  | nil => cases b <;> rfl
  | cons x a ih => cases b with
    | nil => rfl
    | cons y b =>
      simp only [List.map_cons, cmpZ, cmpL, ih]
      simp
theorem refOrder_is (a b : List UInt8) : refOrder a b = cmpL a b := by
  unfold refOrder
  split
  · exact cmpZ_bytes a b
  · rename_i h
    exact runes_order a b ((strays_none a).1 (by omega)) ((strays_none b).1 (by omega))
end Go.Proofs.Ytpjghildhhpeeaa
