/-
  Arguments that are files of blocks, and structs that hold them: what lies in memory.
-/
import Derived.Test.YtpofkkoiicdpbaaSparseB
import Derived.Test.YtpofkkoiicdpbaaOpen
import Derived.Test.YtpofkkoiicdpbaaRow
import Derived.Lib.SmallJoins
namespace Go.Proofs.Ytpofkkoiicdpbaa
open Go.RowKit Go.ChangeShapes Go.WideShapes Go.Deep
set_option linter.unusedVariables false

theorem u8_nat (n : Nat) (h : n < 256) : (UInt8.ofNat n).toNat = n := by simp [Nat.mod_eq_of_lt h]
theorem bytes_rd {w : World} {a : Option Addr} {len cap : Nat} {zs : List Int} (h : IsRow .u8 w a len cap zs) :
    ∃ L : List UInt8, Rd w w.heap.size 1 a len (octV L) ∧ len ≤ cap ∧ cap ≤ maxLen ∧ (a = none → cap = 0) := by
  have h0 : a = none → cap = 0 := fun e => by
    rcases h with ⟨_, _, h3, _⟩ | ⟨x, hx, _⟩
    · exact h3
    · rw [hx] at e; cases e
  obtain ⟨h1, h2, h3, _, h5⟩ := row_rd h
  refine ⟨(zs.take len).map fun z => UInt8.ofNat z.toNat, ?_, h2, h3, h0⟩
  have e : octV ((zs.take len).map fun z => UInt8.ofNat z.toNat) = (zs.take len).map (Value.int .u8) := by
    unfold octV
    rw [List.map_map]
    refine List.map_congr_left fun z hz => ?_
    obtain ⟨g1, g2⟩ := u8_of_wf (h5 z hz)
    show Value.int .u8 ((UInt8.ofNat z.toNat).toNat : Int) = _
    rw [u8_nat _ (by omega)]
    congr 1
    omega
  rw [e]; exact h1
section
variable {H : Type} {enc : TypeId × Value → H} {w : World} {base : Nat} {spare : Nat → Bool} {held : Bool}
theorem trod_field {P : Program} {t : TypeId} {fs : Array Field} {n : Nat} {cs : List Value} {x : DataW H × List MemPlace} (ht : P.underlying t = some (.struct fs)) (h : DataW.trod enc P w base spare held n t cs = some x) :
    cs.length = P.cellsOf t ∧ ∀ (i : Nat) (f : Field), fs[i]? = some f → ∃ m y, DataW.trod enc P w base spare held m f.type ((cs.drop f.offset).take (P.cellsOf f.type)) = some y := by
  obtain ⟨ys, m, _, _, hlen, hyl, hg⟩ := DataW.trod_struct ht h
  refine ⟨hlen, fun i f hf => ⟨m, ?_⟩⟩
  have hi : i < fs.size := (Array.getElem?_eq_some_iff.1 hf).1
  exact ⟨ys[i]'(by omega), by rw [hg i f hf, List.getElem?_eq_getElem (by omega)]⟩
/-- A slice of octets that came in. -/
theorem bytes_el (n : Nat) (v : Value) (y : DataW H × List MemPlace) (h : DataW.trod enc Try.prog w base spare held n 25 [v] = some y) : ∃ l : List UInt8, RdB w w.heap.size AnyB v l := by
  have hrow : ∃ (a : Option Addr) (len cap : Nat) (zs : List Int), v = .slice a len cap ∧ IsRow .u8 w a len cap (zs.take len) ∨ ∃ (a : Option Addr) (len cap : Nat), v = .slice a len cap ∧ ∃ L : List UInt8, Rd w w.heap.size 1 a len (octV L) ∧ len ≤ cap ∧ cap ≤ maxLen ∧ (a = none → cap = 0) := by
    rcases DataW.trod_slice Try.underlying25 h with ⟨hcs, _⟩ | ⟨a, len, cap, elems, rest, m, _, hcs, _, hb, hl, hm, hlen, hel, hsp, hns⟩
    · simp at hcs
      subst hcs
      exact ⟨none, 0, 0, [], .inr ⟨none, 0, 0, rfl, [], Rd.nil, Nat.le_refl _, by simp [maxLen], fun _ => rfl⟩⟩
    · rcases open_ints Try.underlying25 Try.underlying5 (by kernel_rfl) h with ⟨hcs2, _⟩ | ⟨x, l, c, zs, hcs2, _, hl2, hm2, hz, _, hcell, hwz⟩
      · simp at hcs2
        subst hcs2
        exact ⟨none, 0, 0, [], .inr ⟨none, 0, 0, rfl, [], Rd.nil, Nat.le_refl _, by simp [maxLen], fun _ => rfl⟩⟩
      · simp at hcs2
        subst hcs2
        refine ⟨some x, l, c, zs, .inr ⟨some x, l, c, rfl, ?_⟩⟩
        have hzl : l ≤ zs.length := by rw [hz]; split <;> omega
        refine ⟨(zs.take l).map fun z => UInt8.ofNat z.toNat, ⟨by rw [octV_len, List.length_map, List.length_take]; omega, fun h0 => ?_⟩, hl2, hm2, fun e => by cases e⟩
        have h00 := hcell 0 (by omega)
        obtain ⟨g, o, s⟩ := x
        have hs : s = none := by
          have := World.cell?_spot h00
          simpa [Addr.add] using this
        subst hs
        refine ⟨g, o, rfl, ?_, fun j u hu => ?_⟩
        · rw [add_form] at h00
          refine Nat.lt_of_not_le fun hge => ?_
          have : w.heap[g]? = none := Array.getElem?_eq_none hge
          simp [World.cell?, this] at h00
        · have hjl : j < l := by
            have := (List.getElem?_eq_some_iff.1 hu).1
            rw [octV_len, List.length_map, List.length_take] at this
            omega
          have hj := hcell j (by omega)
          rw [add_form] at hj
          rw [hj]
          unfold octV at hu
          rw [List.map_map, List.getElem?_map, List.getElem?_take, if_pos hjl, List.getElem?_eq_getElem (by omega)] at hu
          simp at hu
          rw [← hu, List.getD_eq_getElem?_getD, List.getElem?_eq_getElem (by omega)]
          have hm : zs[j] ∈ zs := List.getElem_mem _
          obtain ⟨g1, g2⟩ := u8_of_wf (hwz _ hm)
          simp only [Option.getD_some]
          congr 2
          have e := u8_nat zs[j].toNat (by omega)
          have e' : (UInt8.ofNat zs[j].toNat).toNat = zs[j].toNat := e
          simp at e'
          omega
  obtain ⟨a, len, cap, zs, h1 | ⟨a', len', cap', rfl, L, h2, h3, h4, h5⟩⟩ := hrow
  · obtain ⟨rfl, hr⟩ := h1
    obtain ⟨L, h2, h3, h4, h5⟩ := bytes_rd hr
    exact ⟨L, a, len, cap, rfl, h3, h4, h5, h2, fun _ _ _ => trivial⟩
  · exact ⟨L, a', len', cap', rfl, h3, h4, h5, h2, fun _ _ _ => trivial⟩
theorem pc_el (n : Nat) (cs : List Value) (y : DataW H × List MemPlace) (h : DataW.trod enc Try.prog w base spare held n 62 cs = some y) : ∃ t : PV, cs = fP t ∧ RdB w w.heap.size AnyB t.2.1 t.2.2 := by
  obtain ⟨hl, hf⟩ := trod_fields Try.underlying62 (by kernel_rfl) (by kernel_rfl) h
  obtain ⟨v0, m0, y0, e0, t0⟩ := hf 0 _ rfl
  obtain ⟨v1, m1, y1, e1, t1⟩ := hf 1 _ rfl
  obtain ⟨i, hi, _, _⟩ := DataW.trod_int Try.underlying3 t0
  injection hi with hi
  subst hi
  obtain ⟨l, hb⟩ := bytes_el _ _ _ t1
  refine ⟨(i, v1, l), ?_, hb⟩
  have hl2 : cs.length = 2 := hl
  match cs, hl2 with
  | [a, b], _ =>
    simp at e0 e1
    subst e0 e1
    rfl
theorem open_pcs {fuel : Nat} {A : Option Addr} {n c : Nat} {x : DataW H × List MemPlace} (h : DataW.trod enc Try.prog w base spare held fuel 22 [.slice A n c] = some x) : ∃ L, IsP w w.heap.size A n c L := by
  obtain ⟨T, h1, h2, h3, h4, h5⟩ := open_rows (f := fP) (Q := fun t => RdB w w.heap.size AnyB t.2.1 t.2.2) Try.underlying22 (show Try.prog.cellsOf 62 = 2 by kernel_rfl) (by omega) fP_len pc_el h
  exact ⟨T.map pcP, h1, h2, h3, T, ⟨h4, h5⟩, rfl⟩
/-- What the walk is told of a file that came in: two cells. -/
def IsSp (w : World) (cs : List Value) (size : Int) (A : Option Addr) (n c : Nat) (L : List Pc) : Prop := cs = [.int .i64 size, .slice A n c] ∧ IsP w w.heap.size A n c L ∧ (Lit.int .i64 size).wf = true
theorem sp_el (n : Nat) (cs : List Value) (y : DataW H × List MemPlace) (h : DataW.trod enc Try.prog w base spare held n 24 cs = some y) : ∃ size A n c L, IsSp w cs size A n c L := by
  obtain ⟨hl, hf⟩ := trod_fields Try.underlying24 (by kernel_rfl) (by kernel_rfl) h
  obtain ⟨v0, m0, y0, e0, t0⟩ := hf 0 _ rfl
  obtain ⟨v1, m1, y1, e1, t1⟩ := hf 1 _ rfl
  obtain ⟨i, hi, _, hw⟩ := DataW.trod_int Try.underlying3 t0
  injection hi with hi
  subst hi
  have hsl : ∃ A n c, v1 = .slice A n c := by
    rcases DataW.trod_slice Try.underlying22 t1 with ⟨hcs, _⟩ | ⟨a, len, cap, _, _, _, _, hcs, _⟩
    · simp at hcs; exact ⟨_, _, _, hcs⟩
    · simp at hcs; exact ⟨_, _, _, hcs⟩
  obtain ⟨A, k, c, rfl⟩ := hsl
  obtain ⟨L, hL⟩ := open_pcs t1
  refine ⟨i, A, k, c, L, ?_, hL, hw⟩
  have hl2 : cs.length = 2 := hl
  match cs, hl2 with
  | [a, b], _ =>
    simp at e0 e1
    subst e0 e1
    rfl
end
end Go.Proofs.Ytpofkkoiicdpbaa
