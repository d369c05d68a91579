/-
  Many cells stored at once into a block that is known whole: a block's cells with others laid over them; copy, clear, and an append of noughts, for elements of several cells.
-/
import Derived.Test.YtpofkkoiicdpbaaMem
import Derived.Laws.IdiomCopy
import Derived.Lib.AppendZerosOnto
import Derived.Lib.Overlaps
import Derived.Laws.Externs
namespace Go.Proofs.Ytpofkkoiicdpbaa
open Go.RowKit

/-- Cells with others laid over them, from a place on. -/
def lay (cs : List Value) (o : Nat) (vs : List Value) : List Value := cs.take o ++ vs ++ cs.drop (o + vs.length)
theorem lay_len (cs : List Value) (o : Nat) (vs : List Value) (h : o + vs.length ≤ cs.length) : (lay cs o vs).length = cs.length := by
  unfold lay
  simp only [List.length_append, List.length_take, List.length_drop]
  omega
theorem lay_nil (cs : List Value) (o : Nat) : lay cs o [] = cs := by unfold lay; simp
theorem lay_cons (cs : List Value) (o : Nat) (v : Value) (vs : List Value) (h : o < cs.length) : lay (cs.set o v) (o + 1) vs = lay cs o (v :: vs) := by
  unfold lay
  rw [List.take_set, List.drop_set]
  rw [if_pos (by omega)]
  rw [List.take_add_one, List.getElem?_eq_getElem h]
  simp only [Option.toList_some, List.length_cons]
  rw [List.set_append_right (h := by rw [List.length_take]; omega)]
  rw [List.length_take, Nat.min_eq_left (by omega), Nat.sub_self]
  simp only [List.set_cons_zero, List.append_assoc, List.cons_append, List.nil_append]
  rw [show o + 1 + vs.length = o + (vs.length + 1) from by omega]
theorem lay_take (cs : List Value) (o : Nat) (vs : List Value) (h : o ≤ cs.length) : (lay cs o vs).take (o + vs.length) = cs.take o ++ vs := by
  unfold lay
  rw [List.take_append_of_le_length (by simp; omega), List.take_of_length_le (by simp; omega)]
theorem lay_take_less (cs : List Value) (o k : Nat) (vs : List Value) (h : o ≤ cs.length) (hk : k ≤ o) : (lay cs o vs).take k = cs.take k := by
  unfold lay
  rw [List.append_assoc, List.take_append_of_le_length (by simp; omega), List.take_take, Nat.min_eq_left hk]
theorem lay_drop (cs : List Value) (o k : Nat) (vs : List Value) (h : o ≤ cs.length) (hk : o + vs.length ≤ k) : (lay cs o vs).drop k = cs.drop k := by
  unfold lay
  rw [List.drop_append, List.drop_of_length_le (by simp; omega), List.nil_append, List.drop_drop]
  congr 1
  simp only [List.length_append, List.length_take]
  omega

/-- Cells moved up, and others laid into the gap. -/
theorem ins_lay (cur cs : List Value) (a b : Nat) (hab : a ≤ b) (hb : b + cs.length ≤ cur.length) :
    (lay (lay cur (a + cs.length) ((cur.drop a).take (b - a))) a cs).take (b + cs.length) = (cur.take b).take a ++ cs ++ (cur.take b).drop a := by
  have h1 : ((cur.drop a).take (b - a)).length = b - a := by rw [List.length_take, List.length_drop]; omega
  have e1 : (lay cur (a + cs.length) ((cur.drop a).take (b - a))).take a = cur.take a := lay_take_less _ _ _ _ (by omega) (by omega)
  have e2 : (lay cur (a + cs.length) ((cur.drop a).take (b - a))).drop (a + cs.length) = (cur.drop a).take (b - a) ++ cur.drop (b + cs.length) := by
    unfold lay
    rw [List.append_assoc, List.drop_append, List.drop_of_length_le (by rw [List.length_take]; omega), List.nil_append, List.length_take, Nat.min_eq_left (by omega), Nat.sub_self, List.drop_zero, h1]
    rw [show a + cs.length + (b - a) = b + cs.length from by omega]
  unfold lay at e1 e2 ⊢
  rw [e1, e2, List.take_take, Nat.min_eq_left hab, List.drop_take]
  rw [← List.append_assoc, List.take_append_of_le_length (by simp only [List.length_append, List.length_take, h1]; omega), List.take_of_length_le (by simp only [List.length_append, List.length_take, h1]; omega)]

theorem grow_lay (row olds cs cs1 : List Value) (a : Nat) (h0 : row.take a = olds) (ha : a + cs.length + cs1.length ≤ row.length) :
    (lay (lay row a cs) (a + cs.length) cs1).take (a + cs.length + cs1.length) = olds ++ cs ++ cs1 := by
  have hl := lay_len row a cs (by omega)
  rw [lay_take _ _ _ (by omega), lay_take _ _ _ (by omega), h0]

section
variable {w w' : World} {g : Nat} {t : TypeId} {fz : Nat × Nat}
theorem Blk.setCells : ∀ (vs : List Value) (o : Nat) (w : World) (cs : List Value), Blk w g t fz cs.toArray → o + vs.length ≤ cs.length → Blk (w.setCells g o vs) g t fz (lay cs o vs).toArray
  | [], o, w, cs, h, _ => by rw [lay_nil]; exact h
  | v :: r, o, w, cs, h, hl => by
    simp only [List.length_cons] at hl
    rw [World.setCells, ← lay_cons cs o v r (by omega)]
    refine Blk.setCells r (o + 1) _ _ ?_ (by rw [List.length_set]; omega)
    have := h.set_ o v
    simpa using this
theorem Blk.far_cells {cs : Array Value} {b : Nat} (hb : g ≠ b) : ∀ (vs : List Value) (o : Nat) (w : World), Blk w g t fz cs → Blk (w.setCells b o vs) g t fz cs
  | [], _, _, h => h
  | v :: r, o, w, h => by rw [World.setCells]; exact Blk.far_cells hb r (o + 1) _ (h.far hb v)
theorem below_setCells {B b : Nat} {a : World} (hb : B ≤ b) : ∀ (vs : List Value) (o : Nat) (w : World), Below B a w → Below B a (w.setCells b o vs)
  | [], _, _, h => h
  | v :: r, o, w, h => by rw [World.setCells]; exact below_setCells hb r (o + 1) _ (h.setCell hb v)
theorem size_setCells {b : Nat} : ∀ (vs : List Value) (o : Nat) (w : World), (w.setCells b o vs).heap.size = w.heap.size
  | [], _, _ => rfl
  | v :: r, o, w => by rw [World.setCells, size_setCells r (o + 1)]; simp [World.setCell]
theorem drewN_setCells (b : Nat) (n : Nat) : ∀ (vs : List Value) (o : Nat) (w : World), (w.setCells b o vs).drewN n = (w.drewN n).setCells b o vs
  | [], _, _ => rfl
  | v :: r, o, w => by rw [World.setCells, World.setCells, drewN_setCells b n r]; rfl
/-- What a block that is known whole has, in the words of the laws on copy and clear. -/
theorem Blk.isSome {cs : List Value} (h : Blk w g t fz cs.toArray) {j : Nat} (hj : j < cs.length) : (w.cell? ⟨g, j, none⟩).isSome = true := by
  rw [h.cell]; simp [hj]
theorem Blk.free {cs : Array Value} (h : Blk w g t (0, 0) cs) (j : Nat) : w.frozen? ⟨g, j, none⟩ = false := by rw [h.frozen]; simp
theorem Blk.reads {cs : List Value} (h : Blk w g t fz cs.toArray) (o : Nat) (vs : List Value) (hv : (cs.drop o).take vs.length = vs) : ∀ j v, vs[j]? = some v → w.cell? ((⟨g, o, none⟩ : Addr).add j) = some v := by
  intro j v hj
  rw [add_form, h.cell, List.getElem?_toArray]
  rw [← hv] at hj
  rw [List.getElem?_take] at hj
  split at hj
  · rw [List.getElem?_drop] at hj; exact hj
  · cases hj
end

section
variable {P : Program} (w : World)
theorem run_copy_many (dT sT ty elem : TypeId) (i : TypeInfo) (sz b o dLen dCap : Nat) (a : Addr) (sLen sCap : Nat) (cs : List Value)
    (hu : P.underlying dT = some (.slice elem)) (hi : P.info? elem = some i) (hs : i.size = sz) (hn : cs.length = Nat.min sLen dLen * sz)
    (hsrc : ∀ j v, cs[j]? = some v → w.cell? (a.add j) = some v) (hc : ∀ j, j < cs.length → (w.cell? ⟨b, o + j, none⟩).isSome = true) (hf : ∀ j, j < cs.length → w.frozen? ⟨b, o + j, none⟩ = false) (h1 : ∀ v ∈ cs, v.oneCell' = true) :
    (Builtin.copy_ #[dT, sT] ty #[.slice (some ⟨b, o, none⟩) dLen dCap, .slice (some a) sLen sCap]).run P w = .ok (goInt (Nat.min sLen dLen)) (w.setCells b o cs) := by
  have hl := run_loadCells_list (P := P) w a cs hsrc
  have hst := run_storeCells_cells (P := P) b o cs 0 w (by simpa using hc) (by simpa using hf) h1
  rw [hn] at hl
  simp [Builtin.copy_, run_underlying hu, Builtin.lenOf, Builtin.firstCells, sizeOf, typeInfo, hi, hs, hl, hst]
/-- 'clear(s)', s of n > 0 elements. -/
theorem run_clear_many (t e ty : TypeId) (z : Value) (ht : P.underlying t = some (.slice e)) (hv : ∀ w, (zeroValue e).run P w = .ok z w) (b o n c : Nat) (zs : List Value) (hzs : (Builtin.zeroCells z.cells n).toList = zs) (h1 : ∀ v ∈ zs, v.oneCell' = true) (hn : 0 < n)
    (hc : ∀ j, j < zs.length → (w.cell? ⟨b, o + j, none⟩).isSome = true) (hf : ∀ j, j < zs.length → w.frozen? ⟨b, o + j, none⟩ = false) :
    (Builtin.clear_ #[t] ty #[.slice (some ⟨b, o, none⟩) n c]).run P w = .ok (.tuple #[]) (w.setCells b o zs) := by
  have hst := run_storeCells_cells (P := P) b o zs 0 w (by simpa using hc) (by simpa using hf) h1
  simp only [Nat.add_zero] at hst
  obtain ⟨m, rfl⟩ : ∃ m, n = m + 1 := ⟨n - 1, by omega⟩
  simp [Builtin.clear_, run_underlying ht, hv, hzs, hst]
theorem run_clear_none (t e ty : TypeId) (ht : P.underlying t = some (.slice e)) (A : Option Addr) (c : Nat) :
    (Builtin.clear_ #[t] ty #[.slice A 0 c]).run P w = .ok (.tuple #[]) w := by
  cases A <;> simp [Builtin.clear_, run_underlying ht]
theorem zeroCells_len (z : Array Value) (n : Nat) : (Builtin.zeroCells z n).toList.length = n * z.size := by simp [Builtin.zeroCells]
theorem zeroCells_mem (z : Array Value) (n : Nat) (v : Value) (h : v ∈ (Builtin.zeroCells z n).toList) : v ∈ z := by
  simp only [Builtin.zeroCells, Array.toList_map, List.mem_map, Array.toList_range, List.mem_range] at h
  obtain ⟨i, hi, rfl⟩ := h
  have hs : 0 < z.size := by
    rcases Nat.eq_zero_or_pos z.size with h0 | h0
    · rw [h0] at hi; omega
    · exact h0
  have hm : i % z.size < z.size := Nat.mod_lt _ hs
  rw [getElem!_pos z (i % z.size) hm]
  exact Array.getElem_mem hm

theorem wp_copy_known {o : Oper} {a : Act} {K : Act → World → Prop} {Q : Exit → Act → World → Prop} (d s : Operand) (t t' : TypeId)
    (ho : o.op = .call { callee := .builtin .copy, args := #[d, s], argTypes := #[t, t'] }) (v u : Value) (hd : a.eval d = v) (hs : a.eval s = u) {v' : Value} {w' : World}
    (hr : (Builtin.copy_ #[t, t'] o.type #[v, u]).run P w = .ok v' w') (h : K (a.put o.dst v') w') : o.wp P a w K Q := by
  unfold Oper.wp execOp
  simp only [ho, resolve, invoke, builtin, Sem.run_bind, Sem.run_pure, Result.andThen_ok, List.map_toArray, List.map_cons, List.map_nil, hd, hs, hr]
  exact h
theorem wpList_copy_known {ops : Array Oper} {rest : List Oper} {o : Oper} {a : Act} {Q : Exit → Act → World → Prop} (hgd : o.guard = none) (d s : Operand) (t t' : TypeId)
    (ho : o.op = .call { callee := .builtin .copy, args := #[d, s], argTypes := #[t, t'] }) (v u : Value) (hd : a.eval d = v) (hs : a.eval s = u) {v' : Value} {w' : World}
    (hr : (Builtin.copy_ #[t, t'] o.type #[v, u]).run P w = .ok v' w') (h : wpList P ops Q rest (a.put o.dst v') w') : wpList P ops Q (o :: rest) a w :=
  wpList_plain hgd fun _ hK => wp_copy_known w d s t t' ho v u hd hs hr (hK _ _ h)
theorem step_copy_known {ops : Array Oper} {o : Oper} {a : Act} {K : Act → World → Prop} {Q : Exit → Act → World → Prop} {E : Prop} (hgd : o.guard = none) (d s : Operand) (t t' : TypeId)
    (ho : o.op = .call { callee := .builtin .copy, args := #[d, s], argTypes := #[t, t'] }) (v u : Value) (hd : a.eval d = v) (hs : a.eval s = u) {v' : Value} {w' : World}
    (hr : (Builtin.copy_ #[t, t'] o.type #[v, u]).run P w = .ok v' w') (h : K (a.put o.dst v') w') : if Region.wanted o (yielded ops a.tmps) = true then Oper.wp P o a w K Q else E := by
  have hw : Region.wanted o (yielded ops a.tmps) = true := by simp [Region.wanted, hgd]
  rw [if_pos hw]
  exact wp_copy_known w d s t t' ho v u hd hs hr h
theorem wpList_append_known {ops : Array Oper} {rest : List Oper} {o : Oper} {a : Act} {Q : Exit → Act → World → Prop} (hgd : o.guard = none) (d s : Operand) (t t' : TypeId)
    (ho : o.op = .call { callee := .builtin .append, args := #[d, s], argTypes := #[t, t'] }) (v u : Value) (hd : a.eval d = v) (hs : a.eval s = u) {v' : Value} {w' : World}
    (hr : (Builtin.append_ #[t, t'] o.type #[v, u]).run P w = .ok v' w') (h : wpList P ops Q rest (a.put o.dst v') w') : wpList P ops Q (o :: rest) a w :=
  wpList_plain hgd fun _ hK => by
    unfold Oper.wp execOp
    simp only [ho, resolve, invoke, builtin, Sem.run_bind, Sem.run_pure, Result.andThen_ok, List.map_toArray, List.map_cons, List.map_nil, hd, hs, hr]
    exact hK _ _ h
end
end Go.Proofs.Ytpofkkoiicdpbaa
