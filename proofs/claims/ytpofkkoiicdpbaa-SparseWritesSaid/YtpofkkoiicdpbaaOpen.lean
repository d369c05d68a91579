/-
  Arguments that are rows of things, opened to what lies in memory.
-/
import Derived.Test.YtpofkkoiicdpbaaRowV
import Derived.ProofKit
import Derived.OpenShut
import Derived.ChangeOld
import Derived.Deep.Slices
import Derived.Deep.Fields
namespace Go.Proofs.Ytpofkkoiicdpbaa
open Go.RowKit Go.ChangeShapes Go.WideShapes Go.Deep

section
variable {H : Type} {enc : TypeId × Value → H} {P : Program} {w : World} {base : Nat} {spare : Nat → Bool} {held : Bool}
/-- A thing of fields of one cell each: what each field reads. -/
theorem trod_fields {t : TypeId} {fs : Array Field} {n : Nat} {cs : List Value} {x : DataW H × List MemPlace} (ht : P.underlying t = some (.struct fs)) (hone : oneCellFields P fs = true) (hC : P.cellsOf t = fs.size)
    (h : DataW.trod enc P w base spare held n t cs = some x) : cs.length = fs.size ∧ ∀ (i : Nat) (f : Field), fs[i]? = some f → ∃ v m y, cs[i]? = some v ∧ DataW.trod enc P w base spare held m f.type [v] = some y := by
  obtain ⟨ys, m, _, _, hlen, hyl, hg⟩ := DataW.trod_struct ht h
  rw [hC] at hlen
  refine ⟨hlen, fun i f hf => ?_⟩
  obtain ⟨ho, hk⟩ := hone_of hone i f hf
  have hi : i < fs.size := (Array.getElem?_eq_some_iff.1 hf).1
  have hic : i < cs.length := by omega
  have h1 := hg i f hf
  rw [ho, hk, List.drop_eq_getElem_cons hic] at h1
  have hiy : i < ys.length := by omega
  refine ⟨cs[i], m, ys[i], List.getElem?_eq_getElem hic, ?_⟩
  rw [List.getElem?_eq_getElem hiy] at h1
  exact h1
/-- A row of things, each of sz cells, that is read: what lies in memory. -/
theorem open_rows {α : Type} {f : α → List Value} {Q : α → Prop} {sz : Nat} {t e : TypeId} (ht : P.underlying t = some (.slice e)) (hC : P.cellsOf e = sz) (hs : 0 < sz) (hfl : ∀ a, (f a).length = sz)
    (hel : ∀ n cs y, DataW.trod enc P w base spare held n e cs = some y → ∃ a, cs = f a ∧ Q a) {fuel : Nat} {A : Option Addr} {n c : Nat} {x : DataW H × List MemPlace}
    (h : DataW.trod enc P w base spare held fuel t [.slice A n c] = some x) :
    ∃ l : List α, n ≤ c ∧ c ≤ maxLen ∧ (A = none → c = 0) ∧ Rd w w.heap.size sz A n (rowV f l) ∧ ∀ a ∈ l, Q a := by
  rcases open_slice ht h with ⟨h0, _⟩ | ⟨a, len, cap, m, k, D, Pl, hcs, _, hl, hm, hmm, _, hi⟩
  · injection h0 with h0 _
    injection h0 with e1 e2 e3
    subst e1 e2 e3
    exact ⟨[], Nat.le_refl _, by simp [maxLen], fun _ => rfl, Rd.nil, by simp⟩
  · injection hcs with h0 _
    injection h0 with e1 e2 e3
    subst e1 e2 e3
    have hnm : n ≤ m := by rw [hmm]; split <;> omega
    rw [hC] at hi
    obtain ⟨l, hll, hp⟩ := choose_list (fun i b => (∀ j u, (f b)[j]? = some u → w.cell? ((a.add (i * sz)).add j) = some u) ∧ Q b) n (fun i hin => by
      obtain ⟨cs', hc, hy⟩ := hi i (by omega)
      obtain ⟨_, hcl, hat⟩ := World.cells?_some hc
      obtain ⟨b, rfl, hq⟩ := hel _ _ _ hy
      refine ⟨b, fun j u hu => ?_, hq⟩
      rw [hat j (by have := (List.getElem?_eq_some_iff.1 hu).1; omega)]
      exact hu)
    refine ⟨l, hl, hm, (fun e => by cases e), ⟨by rw [rowV_len hfl, hll], fun hn => ?_⟩, fun b hb => ?_⟩
    · obtain ⟨b0, hb0⟩ : ∃ b, l[0]? = some b := ⟨_, List.getElem?_eq_getElem (by omega)⟩
      have h00 := (hp 0 b0 hb0).1 0 _ (List.getElem?_eq_getElem (by rw [hfl]; exact hs))
      obtain ⟨g, o, s⟩ := a
      have hs0 : s = none := by
        have := World.cell?_spot h00
        simpa [Addr.add] using this
      subst hs0
      refine ⟨g, o, rfl, ?_, fun j u hu => ?_⟩
      · rw [add_form, add_form] at h00
        refine Nat.lt_of_not_le fun hge => ?_
        have : w.heap[g]? = none := Array.getElem?_eq_none hge
        simp [World.cell?, this] at h00
      · have hjl : j < n * sz := by
          have := (List.getElem?_eq_some_iff.1 hu).1
          rw [rowV_len hfl, hll] at this; exact this
        have hk : j / sz < n := by rw [Nat.div_lt_iff_lt_mul hs]; exact hjl
        have hr : j % sz < sz := Nat.mod_lt _ hs
        obtain ⟨b, hb⟩ : ∃ b, l[j / sz]? = some b := ⟨_, List.getElem?_eq_getElem (by omega)⟩
        obtain ⟨u', hu'⟩ : ∃ u', (f b)[j % sz]? = some u' := ⟨_, List.getElem?_eq_getElem (by rw [hfl]; exact hr)⟩
        have e1 := (hp _ b hb).1 _ _ hu'
        have e2 := rowV_get hfl l _ _ b u' hb hu'
        have e3 : j / sz * sz + j % sz = j := by rw [Nat.mul_comm]; exact Nat.div_add_mod j sz
        rw [e3, hu] at e2
        cases e2
        rw [add_form, add_form, Nat.add_assoc, e3] at e1
        exact e1
    · obtain ⟨i, hbi⟩ := List.mem_iff_getElem?.1 hb
      exact (hp i b hbi).2
end
end Go.Proofs.Ytpofkkoiicdpbaa
