/-
  Append onto a row of the call's own, of a slice that reads as cells, nil or not; behind a guard or not.
-/
import Derived.Test.YtpofkkoiicdpbaaApp
import Derived.Laws.OwnMore
namespace Go.Proofs.Ytpofkkoiicdpbaa
open Go.RowKit
section
variable {P : Program} {w : World}
theorem wpList_append_rd {ops : Array Oper} {rest : List Oper} {o : Oper} {a : Act} {Q : Exit → Act → World → Prop} (hw : Region.wanted o (yielded ops a.tmps) = true) (s x : Operand) (t : TypeId)
    (ho : o.op = .call { callee := .builtin .append, args := #[s, x], argTypes := #[t, t] })
    (base : Nat) (e : TypeId) (i : TypeInfo) (z : Value) (size bytes : Nat) (ht : P.underlying t = some (.slice e)) (hi : P.info? e = some i) (hz : i.zero = some z)
    (hsize : i.size = size) (hby : i.bytes = bytes) (hzs : z.cells.size = size) (hsz : 0 < size)
    (v : Value) (n : Nat) (xs : List Value) (hs : a.eval s = v) (hown : w.ownsRow base e size v n xs)
    (A : Option Addr) (m c B : Nat) (news : List Value) (hx : a.eval x = .slice A m c) (hnil : A = none → c = 0) (hr : Rd w B size A m news) (h1 : ∀ u ∈ news, u.oneCell' = true)
    (h63 : n + m ≤ maxLen) (hbytes : (n + m) * bytes ≤ 140737488355328) (hbase : base ≤ w.heap.size)
    (h : ∀ v' w', w'.ownsRow base e size v' (n + m) (xs ++ news) → Below base w w' → wpList P ops Q rest (a.put o.dst v') w') : wpList P ops Q (o :: rest) a w := by
  cases A with
  | none =>
    have hc := hnil rfl
    subst hc
    have hm : m = 0 := by
      refine Nat.eq_zero_of_not_pos fun h0 => ?_
      obtain ⟨g, o, e, _⟩ := hr.2 h0
      cases e
    subst hm
    have hn : news = [] := List.eq_nil_of_length_eq_zero (by rw [hr.1, Nat.zero_mul])
    subst hn
    refine wpList_step fun K hK => ?_
    rw [if_pos hw]
    have hrun := run_append_owned_none (P := P) (w := w) base t o.type e i size ht hi v n xs hown
    unfold Oper.wp
    simp [execOp, ho, resolve, invoke, builtin, hs, hx, hrun, Result.andThen]
    exact hK _ _ (h v w (by simpa using hown) (Below.refl _ _))
  | some ad =>
    obtain ⟨g, off, sp⟩ := ad
    have hsp : 0 < m → sp = none := fun h0 => by
      obtain ⟨g', o', e, _⟩ := hr.2 h0
      injection e with e
      injection e
    by_cases h0 : 0 < m
    · obtain rfl := hsp h0
      refine wpList_append_own_g hw s x t ho base e i z size bytes ht hi hz hsize hby hzs hsz v n xs hs hown ⟨g, off, none⟩ m c news hx hr.1 (rd_cells hr) h1 h63 hbytes hbase ?_
      intro v' w' hown' hgrow
      exact h v' w' hown' ((Below.refl base w).grown hgrow hbase (fun k hk => (hown.lt k hk).1))
    · obtain rfl : m = 0 := by omega
      have hn : news = [] := List.eq_nil_of_length_eq_zero (by rw [hr.1, Nat.zero_mul])
      subst hn
      refine wpList_append_own_g hw s x t ho base e i z size bytes ht hi hz hsize hby hzs hsz v n xs hs hown ⟨g, off, sp⟩ 0 c [] hx (by simp) (fun j u hj => by simp at hj) h1 h63 hbytes hbase ?_
      intro v' w' hown' hgrow
      exact h v' w' hown' ((Below.refl base w).grown hgrow hbase (fun k hk => (hown.lt k hk).1))
end
end Go.Proofs.Ytpofkkoiicdpbaa
