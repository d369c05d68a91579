/-
  Append, of a row that the call owns, onto one that it owns: nil or not.
-/
import Derived.Test.YtpofkkoiicdpbaaRow
import Derived.Laws.AppendOwnNone
namespace Go.Proofs.Ytpofkkoiicdpbaa
open Go.RowKit

section
variable {P : Program} {w : World}
theorem own_cases {base n sz : Nat} {e : TypeId} {v : Value} {xs : List Value} (h : w.ownsRow base e sz v n xs) :
    (v = .slice none 0 0 ∧ n = 0 ∧ xs = []) ∨ ∃ g cap, v = .slice (some ⟨g, 0, none⟩) n cap ∧ OwnB w base e sz g n cap xs := by
  rcases h.2 with ⟨h1, h2⟩ | ⟨g, cap, cur, hv, hbg, hh, hnc, hcm, hs, ht⟩
  · have := h.1
    rw [h2, Nat.zero_mul] at this
    exact .inl ⟨h1, h2, List.eq_nil_of_length_eq_zero this⟩
  · exact .inr ⟨g, cap, hv, cur, hh, hs, ht, h.1, hbg, hnc, hcm⟩

theorem wpList_append_rows {ops : Array Oper} {rest : List Oper} {o : Oper} {a : Act} {Q : Exit → Act → World → Prop} (hgd : o.guard = none) (s x : Operand) (t : TypeId)
    (ho : o.op = .call { callee := .builtin .append, args := #[s, x], argTypes := #[t, t] })
    (base : Nat) (e : TypeId) (i : TypeInfo) (z : Value) (size bytes : Nat) (ht : P.underlying t = some (.slice e)) (hi : P.info? e = some i) (hz : i.zero = some z)
    (hsize : i.size = size) (hby : i.bytes = bytes) (hzs : z.cells.size = size) (hsz : 0 < size)
    (v : Value) (n : Nat) (xs : List Value) (hs : a.eval s = v) (hown : w.ownsRow base e size v n xs)
    (vx : Value) (m base2 : Nat) (news : List Value) (hx : a.eval x = vx) (hownx : w.ownsRow base2 e size vx m news) (h1 : ∀ u ∈ news, u.oneCell' = true)
    (h63 : n + m ≤ maxLen) (hbytes : (n + m) * bytes ≤ 140737488355328) (hbase : base ≤ w.heap.size)
    (h : ∀ v' w', w'.ownsRow base e size v' (n + m) (xs ++ news) → Below base w w' → wpList P ops Q rest (a.put o.dst v') w') :
    wpList P ops Q (o :: rest) a w := by
  rcases own_cases hownx with ⟨rfl, rfl, rfl⟩ | ⟨g, cap, rfl, hB⟩
  · refine wpList_append_own_none hgd s x t ho base e i size ht hi v n xs hs hown hx ?_
    refine h v w ?_ (Below.refl _ _)
    rw [List.append_nil]
    exact hown
  · refine wpList_append_own w hgd s x t ho base e i z size bytes ht hi hz hsize hby hzs hsz v n xs hs hown ⟨g, 0, none⟩ m cap news hx hB.own.1 (rd_cells hB.rd) h1 h63 hbytes hbase ?_
    intro v' w' hown' hgrow _
    exact h v' w' hown' ((Below.refl base w).grown hgrow hbase (fun k hk => (hown.lt k hk).1))

/-- The law on append where the operation stands behind a guard ('&&', '||') that lets it through. -/
theorem wpList_append_own_g {ops : Array Oper} {rest : List Oper} {o : Oper} {a : Act} {Q : Exit → Act → World → Prop} (hw : Region.wanted o (yielded ops a.tmps) = true) (s x : Operand) (t : TypeId)
    (ho : o.op = .call { callee := .builtin .append, args := #[s, x], argTypes := #[t, t] })
    (base : Nat) (e : TypeId) (i : TypeInfo) (z : Value) (size bytes : Nat) (ht : P.underlying t = some (.slice e)) (hi : P.info? e = some i) (hz : i.zero = some z)
    (hsize : i.size = size) (hby : i.bytes = bytes) (hzs : z.cells.size = size) (hsz : 0 < size)
    (v : Value) (n : Nat) (xs : List Value) (hs : a.eval s = v) (hown : w.ownsRow base e size v n xs)
    (ad : Addr) (m c : Nat) (news : List Value) (hx : a.eval x = .slice (some ad) m c) (hl : news.length = m * size) (hnews : ∀ j u, news[j]? = some u → w.cell? (ad.add j) = some u) (h1 : ∀ u ∈ news, u.oneCell' = true)
    (h63 : n + m ≤ maxLen) (hbytes : (n + m) * bytes ≤ 140737488355328) (hbase : base ≤ w.heap.size)
    (h : ∀ v' w', w'.ownsRow base e size v' (n + m) (xs ++ news) → w.grownBy w' v.ownBlock → wpList P ops Q rest (a.put o.dst v') w') : wpList P ops Q (o :: rest) a w :=
  wpList_step fun K hK => by
    rw [if_pos hw]
    exact wp_append_own w s x t ho base e i z size bytes ht hi hz hsize hby hzs hsz v n xs hs hown ad m c news hx hl hnews h1 h63 hbytes hbase fun v' w' h2 h3 _ => hK _ _ (h v' w' h2 h3)
end

theorem rd_take {w : World} {B n : Nat} {A : Option Addr} {l : List Int} (h : Rd w B 1 A n (intsV l)) {k : Nat} (hk : k ≤ n) : Rd w B 1 A k (intsV (l.take k)) := by
  have hl := h.1
  rw [intsV_len] at hl
  refine ⟨by rw [intsV_len, List.length_take]; omega, fun h0 => ?_⟩
  obtain ⟨g, o, e, hb, hc⟩ := h.2 (by omega)
  refine ⟨g, o, e, hb, fun j u hu => hc j u ?_⟩
  unfold intsV at hu ⊢
  rw [List.map_take, List.getElem?_take] at hu
  split at hu
  · exact hu
  · exact absurd hu (by simp)
end Go.Proofs.Ytpofkkoiicdpbaa
