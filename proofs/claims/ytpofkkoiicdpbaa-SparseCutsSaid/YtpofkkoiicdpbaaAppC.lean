/-
  Append onto a row of the call's own, of a slice that reads as cells, nil or not, some or none: the new value written out, and where it lies. As a run, at the operation, and at a step of a region that draws.
-/
import Derived.Test.YtpofkkoiicdpbaaAppB
namespace Go.Proofs.Ytpofkkoiicdpbaa
open Go.RowKit
section
variable {P : Program} (w : World)
theorem run_append_rd (t ty : TypeId) (base : Nat) (e : TypeId) (i : TypeInfo) (z : Value) (size bytes : Nat) (ht : P.underlying t = some (.slice e)) (hi : P.info? e = some i) (hz : i.zero = some z)
    (hsize : i.size = size) (hby : i.bytes = bytes) (hzs : z.cells.size = size) (hsz : 0 < size)
    (v : Value) (n : Nat) (xs : List Value) (hown : w.ownsRow base e size v n xs)
    (A : Option Addr) (m c B : Nat) (news : List Value) (hnil : A = none → c = 0) (hr : Rd w B size A m news) (h1 : ∀ u ∈ news, u.oneCell' = true)
    (h63 : n + m ≤ maxLen) (hbytes : (n + m) * bytes ≤ 140737488355328) (hbase : base ≤ w.heap.size) (H : Nat) (hH : w.heap.size = H) (nm : Nat) (hnm : n + m = nm) :
    ∃ A' c' w', (Builtin.append_ #[t, t] ty #[v, .slice A m c]).run P w = .ok (.slice A' nm c') w' ∧
      w'.ownsRow base e size (.slice A' nm c') nm (xs ++ news) ∧ w.grownBy w' v.ownBlock ∧ ((Value.slice A' nm c').ownBlock = v.ownBlock ∨ (Value.slice A' nm c').ownBlock = some H) := by
  subst hH hnm
  have fin : ∀ v' w', (Builtin.append_ #[t, t] ty #[v, .slice A m c]).run P w = .ok v' w' → w'.ownsRow base e size v' (n + m) (xs ++ news) → w.grownBy w' v.ownBlock → (v'.ownBlock = v.ownBlock ∨ v'.ownBlock = some w.heap.size) →
      ∃ A' c' w', (Builtin.append_ #[t, t] ty #[v, .slice A m c]).run P w = .ok (.slice A' (n + m) c') w' ∧
      w'.ownsRow base e size (.slice A' (n + m) c') (n + m) (xs ++ news) ∧ w.grownBy w' v.ownBlock ∧ ((Value.slice A' (n + m) c').ownBlock = v.ownBlock ∨ (Value.slice A' (n + m) c').ownBlock = some w.heap.size) := by
    intro v' w' q1 q2 q3 q4
    obtain ⟨A', c', rfl, _⟩ := own_form q2
    exact ⟨A', c', w', q1, q2, q3, q4⟩
  cases A with
  | none =>
    have hc := hnil rfl
    subst hc
    have hm : m = 0 := by
      refine Nat.eq_zero_of_not_pos fun h0 => ?_
      obtain ⟨g, o, e, _⟩ := hr.2 h0
      cases e
    subst hm
    have hn : news = [] := List.eq_nil_of_length_eq_zero (by rw [hr.1, Nat.zero_mul])
    subst hn
    have hrun := run_append_owned_none (P := P) (w := w) base t ty e i size ht hi v n xs hown
    exact fin v w hrun (by simpa using hown) ⟨rfl, rfl, rfl, Nat.le_refl _, fun _ _ _ => rfl⟩ (.inl rfl)
  | some ad =>
    obtain ⟨g, off, sp⟩ := ad
    by_cases h0 : 0 < m
    · obtain ⟨g', o', e1, _⟩ := hr.2 h0
      injection e1 with e1
      injection e1 with e2 e3 e4
      subst e2 e3 e4
      obtain ⟨v', w', q1, q2, q3, _, q5⟩ := run_append_own_at (P := P) w base t ty e i z size bytes ht hi hz hsize hby hzs hsz v n xs hown ⟨g, off, none⟩ m c news hr.1 (rd_cells hr) h1 h63 hbytes hbase
      exact fin v' w' q1 q2 q3 q5
    · obtain rfl : m = 0 := by omega
      have hn : news = [] := List.eq_nil_of_length_eq_zero (by rw [hr.1, Nat.zero_mul])
      subst hn
      obtain ⟨v', w', q1, q2, q3, _, q5⟩ := run_append_own_at (P := P) w base t ty e i z size bytes ht hi hz hsize hby hzs hsz v n xs hown ⟨g, off, sp⟩ 0 c [] (by simp) (fun j u hj => by simp at hj) h1 h63 hbytes hbase
      exact fin v' w' q1 q2 q3 q5

theorem wp_append_rd {o : Oper} {a : Act} {K : Act → World → Prop} {Q : Exit → Act → World → Prop} (s x : Operand) (t : TypeId)
    (ho : o.op = .call { callee := .builtin .append, args := #[s, x], argTypes := #[t, t] })
    (base : Nat) (e : TypeId) (i : TypeInfo) (z : Value) (size bytes : Nat) (ht : P.underlying t = some (.slice e)) (hi : P.info? e = some i) (hz : i.zero = some z)
    (hsize : i.size = size) (hby : i.bytes = bytes) (hzs : z.cells.size = size) (hsz : 0 < size)
    (v : Value) (n : Nat) (xs : List Value) (hs : a.eval s = v) (hown : w.ownsRow base e size v n xs)
    (A : Option Addr) (m c B : Nat) (news : List Value) (hx : a.eval x = .slice A m c) (hnil : A = none → c = 0) (hr : Rd w B size A m news) (h1 : ∀ u ∈ news, u.oneCell' = true)
    (h63 : n + m ≤ maxLen) (hbytes : (n + m) * bytes ≤ 140737488355328) (hbase : base ≤ w.heap.size) (H : Nat) (hH : w.heap.size = H) (nm : Nat) (hnm : n + m = nm)
    (h : ∀ A' c' w', w'.ownsRow base e size (.slice A' nm c') nm (xs ++ news) → w.grownBy w' v.ownBlock → ((Value.slice A' nm c').ownBlock = v.ownBlock ∨ (Value.slice A' nm c').ownBlock = some H) → K (a.put o.dst (.slice A' nm c')) w') : o.wp P a w K Q := by
  obtain ⟨A', c', w', hr', h2, h3, h4⟩ := run_append_rd (P := P) w t o.type base e i z size bytes ht hi hz hsize hby hzs hsz v n xs hown A m c B news hnil hr h1 h63 hbytes hbase H hH nm hnm
  unfold Oper.wp execOp
  simp only [ho, resolve, invoke, builtin, Sem.run_bind, Sem.run_pure, Result.andThen_ok, List.map_toArray, List.map_cons, List.map_nil, hs, hx, hr']
  exact h A' c' w' h2 h3 h4
theorem wpList_append_at {ops : Array Oper} {rest : List Oper} {o : Oper} {a : Act} {Q : Exit → Act → World → Prop} (hgd : o.guard = none) (s x : Operand) (t : TypeId)
    (ho : o.op = .call { callee := .builtin .append, args := #[s, x], argTypes := #[t, t] })
    (base : Nat) (e : TypeId) (i : TypeInfo) (z : Value) (size bytes : Nat) (ht : P.underlying t = some (.slice e)) (hi : P.info? e = some i) (hz : i.zero = some z)
    (hsize : i.size = size) (hby : i.bytes = bytes) (hzs : z.cells.size = size) (hsz : 0 < size)
    (v : Value) (n : Nat) (xs : List Value) (hs : a.eval s = v) (hown : w.ownsRow base e size v n xs)
    (A : Option Addr) (m c B : Nat) (news : List Value) (hx : a.eval x = .slice A m c) (hnil : A = none → c = 0) (hr : Rd w B size A m news) (h1 : ∀ u ∈ news, u.oneCell' = true)
    (h63 : n + m ≤ maxLen) (hbytes : (n + m) * bytes ≤ 140737488355328) (hbase : base ≤ w.heap.size) (H : Nat) (hH : w.heap.size = H) (nm : Nat) (hnm : n + m = nm)
    (h : ∀ A' c' w', w'.ownsRow base e size (.slice A' nm c') nm (xs ++ news) → w.grownBy w' v.ownBlock → ((Value.slice A' nm c').ownBlock = v.ownBlock ∨ (Value.slice A' nm c').ownBlock = some H) → wpList P ops Q rest (a.put o.dst (.slice A' nm c')) w') :
    wpList P ops Q (o :: rest) a w :=
  wpList_plain hgd fun _ hK => wp_append_rd w s x t ho base e i z size bytes ht hi hz hsize hby hzs hsz v n xs hs hown A m c B news hx hnil hr h1 h63 hbytes hbase H hH nm hnm fun A' c' w' h2 h3 h4 => hK _ _ (h A' c' w' h2 h3 h4)
theorem step_append_rd {ops : Array Oper} {o : Oper} {a : Act} {K : Act → World → Prop} {Q : Exit → Act → World → Prop} {E : Prop} (hgd : o.guard = none) (s x : Operand) (t : TypeId)
    (ho : o.op = .call { callee := .builtin .append, args := #[s, x], argTypes := #[t, t] })
    (base : Nat) (e : TypeId) (i : TypeInfo) (z : Value) (size bytes : Nat) (ht : P.underlying t = some (.slice e)) (hi : P.info? e = some i) (hz : i.zero = some z)
    (hsize : i.size = size) (hby : i.bytes = bytes) (hzs : z.cells.size = size) (hsz : 0 < size)
    (v : Value) (n : Nat) (xs : List Value) (hs : a.eval s = v) (hown : w.ownsRow base e size v n xs)
    (A : Option Addr) (m c B : Nat) (news : List Value) (hx : a.eval x = .slice A m c) (hnil : A = none → c = 0) (hr : Rd w B size A m news) (h1 : ∀ u ∈ news, u.oneCell' = true)
    (h63 : n + m ≤ maxLen) (hbytes : (n + m) * bytes ≤ 140737488355328) (hbase : base ≤ w.heap.size) (H : Nat) (hH : w.heap.size = H) (nm : Nat) (hnm : n + m = nm)
    (h : ∀ A' c' w', w'.ownsRow base e size (.slice A' nm c') nm (xs ++ news) → w.grownBy w' v.ownBlock → ((Value.slice A' nm c').ownBlock = v.ownBlock ∨ (Value.slice A' nm c').ownBlock = some H) → K (a.put o.dst (.slice A' nm c')) w') :
    if Region.wanted o (yielded ops a.tmps) = true then Oper.wp P o a w K Q else E := by
  have hw : Region.wanted o (yielded ops a.tmps) = true := by simp [Region.wanted, hgd]
  rw [if_pos hw]
  exact wp_append_rd w s x t ho base e i z size bytes ht hi hz hsize hby hzs hsz v n xs hs hown A m c B news hx hnil hr h1 h63 hbytes hbase H hH nm hnm h
end
theorem cell_grown {w w' : World} {row : Option Nat} (hg : w.grownBy w' row) {p : Addr} (hlt : p.block < w.heap.size) (hne : some p.block ≠ row) : w'.cell? p = w.cell? p := by
  have := hg.block p.block hlt hne
  unfold World.cell?
  rw [this]
end Go.Proofs.Ytpofkkoiicdpbaa
