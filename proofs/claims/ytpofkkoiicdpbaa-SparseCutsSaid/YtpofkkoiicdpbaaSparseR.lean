/-
  Arguments: a file; a law's struct that holds files.
-/
import Derived.Test.YtpofkkoiicdpbaaSparseO
namespace Go.Proofs.Ytpofkkoiicdpbaa
open Go.RowKit Go.ChangeShapes Go.WideShapes Go.Deep
set_option linter.unusedVariables false

theorem i64_le {a : Int} (h : (Lit.int .i64 a).wf = true) : a ≤ 9223372036854775807 := Int.le_trans (wf_bounds h).2 (by decide)
theorem i64_ge {a : Int} (h : (Lit.int .i64 a).wf = true) : -9223372036854775808 ≤ a := Int.le_trans (by decide) (wf_bounds h).1
theorem u16_nat {a : Int} (h : (Lit.int .u16 a).wf = true) : ∃ n : Nat, a = n ∧ n ≤ 65535 := by
  obtain ⟨h1, h2⟩ := u16_of_wf h
  exact ⟨a.toNat, by omega, by omega⟩
theorem cellsSp : Try.prog.cellsOf 24 = 2 := by kernel_rfl
theorem cellsSl : Try.prog.cellsOf 25 = 1 := by kernel_rfl
theorem cellsU : Try.prog.cellsOf 46 = 1 := by kernel_rfl
theorem cellsI : Try.prog.cellsOf 3 = 1 := by kernel_rfl
theorem flat_cells (cs : Array Value) : (Value.agg cs).cells.toList = cs.toList := by simp [Value.cells]
theorem list5 {α : Type} : ∀ (l : List α), l.length = 5 → ∃ a b c d e, l = [a, b, c, d, e]
  | [a, b, c, d, e], _ => ⟨a, b, c, d, e, rfl⟩
theorem list6 {α : Type} : ∀ (l : List α), l.length = 6 → ∃ a b c d e f, l = [a, b, c, d, e, f]
  | [a, b, c, d, e, f], _ => ⟨a, b, c, d, e, f, rfl⟩
section
variable {H : Type} {enc : TypeId × Value → H} {w : World} {base : Nat} {spare : Nat → Bool} {held : Bool}
theorem open_sp {r : Reach} {b0 : Nat} {v : Value} {d : DataW H} {p : List MemPlace} (hv : Value.okWide Try.prog w r b0 24 v) (h : DataW.Trod enc Try.prog w base spare held 24 v d p) :
    ∃ s A n c L, v = .agg #[.int .i64 s, .slice A n c] ∧ IsP w w.heap.size A n c L ∧ (Lit.int .i64 s).wf = true := by
  obtain ⟨cs, rfl, _⟩ := okWide_struct Try.underlying24 hv
  obtain ⟨fuel, hf⟩ := h
  rw [flat_cells] at hf
  obtain ⟨s, A, n, c, L, e, h1, h2⟩ := sp_el _ _ _ hf
  refine ⟨s, A, n, c, L, ?_, h1, h2⟩
  have e2 : cs = #[.int .i64 s, .slice A n c] := by rw [← Array.toList_inj, e]
  rw [e2]
theorem u16_el (n : Nat) (v : Value) (y : DataW H × List MemPlace) (h : DataW.trod enc Try.prog w base spare held n 46 [v] = some y) : ∃ k : Nat, v = .int .u16 k ∧ k ≤ 65535 := by
  obtain ⟨i, hi, _, hw⟩ := DataW.trod_int Try.underlying46 h
  injection hi with hi
  obtain ⟨k, rfl, hk⟩ := u16_nat hw
  exact ⟨k, hi, hk⟩
theorem int_el (n : Nat) (v : Value) (y : DataW H × List MemPlace) (h : DataW.trod enc Try.prog w base spare held n 3 [v] = some y) : ∃ k : Int, v = .int .i64 k ∧ (Lit.int .i64 k).wf = true := by
  obtain ⟨i, hi, _, hw⟩ := DataW.trod_int Try.underlying3 h
  injection hi with hi
  exact ⟨i, hi, hw⟩
theorem bs_el (n : Nat) (v : Value) (y : DataW H × List MemPlace) (h : DataW.trod enc Try.prog w base spare held n 25 [v] = some y) : ∃ A k c l, v = .slice A k c ∧ RdB w w.heap.size AnyB (.slice A k c) l := by
  obtain ⟨l, hb⟩ := bytes_el _ _ _ h
  have hb2 := hb
  obtain ⟨A, c, rfl, _⟩ := hb.form
  exact ⟨A, _, c, l, rfl, hb2⟩
theorem open_twice {r : Reach} {b0 : Nat} {v : Value} {d : DataW H} {p : List MemPlace} (hv : Value.okWide Try.prog w r b0 53 v) (h : DataW.Trod enc Try.prog w base spare held 53 v d p) :
    ∃ s A n c L, ∃ off gap : Nat, ∃ Aa na ca a Ab nb cb b, v = .agg #[.int .i64 s, .slice A n c, .int .u16 off, .int .u16 gap, .slice Aa na ca, .slice Ab nb cb] ∧ IsP w w.heap.size A n c L ∧ s ≤ 9223372036854775807
      ∧ RdB w w.heap.size AnyB (.slice Aa na ca) a ∧ RdB w w.heap.size AnyB (.slice Ab nb cb) b ∧ off ≤ 65535 ∧ gap ≤ 65535 := by
  obtain ⟨cs, rfl, _⟩ := okWide_struct Try.underlying53 hv
  obtain ⟨fuel, hf⟩ := h
  rw [flat_cells] at hf
  obtain ⟨hl, hg⟩ := trod_field Try.underlying53 hf
  obtain ⟨m0, y0, t0⟩ := hg 0 _ rfl
  obtain ⟨m1, y1, t1⟩ := hg 1 _ rfl
  obtain ⟨m2, y2, t2⟩ := hg 2 _ rfl
  obtain ⟨m3, y3, t3⟩ := hg 3 _ rfl
  obtain ⟨m4, y4, t4⟩ := hg 4 _ rfl
  have hl2 : cs.toList.length = 6 := hl.trans (by kernel_rfl)
  obtain ⟨u0, u1, u2, u3, u4, u5, hcs⟩ := list6 _ hl2
  · rw [hcs] at t0 t1 t2 t3 t4
    have t0 : DataW.trod enc Try.prog w base spare held m0 24 (([u0, u1, u2, u3, u4, u5].drop 0).take (Try.prog.cellsOf 24)) = some y0 := t0
    rw [cellsSp] at t0
    have t1 : DataW.trod enc Try.prog w base spare held m1 46 (([u0, u1, u2, u3, u4, u5].drop 2).take (Try.prog.cellsOf 46)) = some y1 := t1
    rw [cellsU] at t1
    have t2 : DataW.trod enc Try.prog w base spare held m2 46 (([u0, u1, u2, u3, u4, u5].drop 3).take (Try.prog.cellsOf 46)) = some y2 := t2
    rw [cellsU] at t2
    have t3 : DataW.trod enc Try.prog w base spare held m3 25 (([u0, u1, u2, u3, u4, u5].drop 4).take (Try.prog.cellsOf 25)) = some y3 := t3
    rw [cellsSl] at t3
    have t4 : DataW.trod enc Try.prog w base spare held m4 25 (([u0, u1, u2, u3, u4, u5].drop 5).take (Try.prog.cellsOf 25)) = some y4 := t4
    rw [cellsSl] at t4
    obtain ⟨s, A, n, c, L, e, h1, h2⟩ := sp_el m0 [u0, u1] y0 t0
    obtain ⟨off, rfl, ho⟩ := u16_el m1 u2 y1 t1
    obtain ⟨gap, rfl, hg⟩ := u16_el m2 u3 y2 t2
    obtain ⟨Aa, na, ca, a, rfl, ha⟩ := bs_el m3 u4 y3 t3
    obtain ⟨Ab, nb, cb, b, rfl, hb⟩ := bs_el m4 u5 y4 t4
    injection e with e0 e1
    injection e1 with e1 _
    subst e0 e1
    refine ⟨s, A, n, c, L, off, gap, Aa, na, ca, a, Ab, nb, cb, b, ?_, h1, i64_le h2, ha, hb, ho, hg⟩
    have e2 : cs = #[.int .i64 s, .slice A n c, .int .u16 off, .int .u16 gap, .slice Aa na ca, .slice Ab nb cb] := by rw [← Array.toList_inj, hcs]
    rw [e2]
theorem open_back {r : Reach} {b0 : Nat} {v : Value} {d : DataW H} {p : List MemPlace} (hv : Value.okWide Try.prog w r b0 48 v) (h : DataW.Trod enc Try.prog w base spare held 48 v d p) :
    ∃ s A n c L, ∃ off size : Nat, ∃ Ab nb cb b, v = .agg #[.int .i64 s, .slice A n c, .int .u16 off, .slice Ab nb cb, .int .u16 size] ∧ IsP w w.heap.size A n c L ∧ s ≤ 9223372036854775807
      ∧ RdB w w.heap.size AnyB (.slice Ab nb cb) b ∧ off ≤ 65535 ∧ size ≤ 65535 := by
  obtain ⟨cs, rfl, _⟩ := okWide_struct Try.underlying48 hv
  obtain ⟨fuel, hf⟩ := h
  rw [flat_cells] at hf
  obtain ⟨hl, hg⟩ := trod_field Try.underlying48 hf
  obtain ⟨m0, y0, t0⟩ := hg 0 _ rfl
  obtain ⟨m1, y1, t1⟩ := hg 1 _ rfl
  obtain ⟨m2, y2, t2⟩ := hg 2 _ rfl
  obtain ⟨m3, y3, t3⟩ := hg 3 _ rfl
  have hl2 : cs.toList.length = 5 := hl.trans (by kernel_rfl)
  obtain ⟨u0, u1, u2, u3, u4, hcs⟩ := list5 _ hl2
  · rw [hcs] at t0 t1 t2 t3
    have t0 : DataW.trod enc Try.prog w base spare held m0 24 (([u0, u1, u2, u3, u4].drop 0).take (Try.prog.cellsOf 24)) = some y0 := t0
    rw [cellsSp] at t0
    have t1 : DataW.trod enc Try.prog w base spare held m1 46 (([u0, u1, u2, u3, u4].drop 2).take (Try.prog.cellsOf 46)) = some y1 := t1
    rw [cellsU] at t1
    have t2 : DataW.trod enc Try.prog w base spare held m2 25 (([u0, u1, u2, u3, u4].drop 3).take (Try.prog.cellsOf 25)) = some y2 := t2
    rw [cellsSl] at t2
    have t3 : DataW.trod enc Try.prog w base spare held m3 46 (([u0, u1, u2, u3, u4].drop 4).take (Try.prog.cellsOf 46)) = some y3 := t3
    rw [cellsU] at t3
    obtain ⟨s, A, n, c, L, e, h1, h2⟩ := sp_el m0 [u0, u1] y0 t0
    obtain ⟨off, rfl, ho⟩ := u16_el m1 u2 y1 t1
    obtain ⟨Ab, nb, cb, b, rfl, hb⟩ := bs_el m2 u3 y2 t2
    obtain ⟨size, rfl, hg⟩ := u16_el m3 u4 y3 t3
    injection e with e0 e1
    injection e1 with e1 _
    subst e0 e1
    refine ⟨s, A, n, c, L, off, size, Ab, nb, cb, b, ?_, h1, i64_le h2, hb, ho, hg⟩
    have e2 : cs = #[.int .i64 s, .slice A n c, .int .u16 off, .slice Ab nb cb, .int .u16 size] := by rw [← Array.toList_inj, hcs]
    rw [e2]
end
end Go.Proofs.Ytpofkkoiicdpbaa
