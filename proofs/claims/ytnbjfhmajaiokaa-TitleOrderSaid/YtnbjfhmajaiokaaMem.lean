/-
  Words for memory: a slice that reads as a list of cells; what a call owns, over later worlds.
-/
import Derived.Test.YtnbjfhmajaiokaaRows
import Derived.WalkKit
import Derived.WalkSpells
import Derived.WalkLawsBesides
import Derived.Lib.Hide
import Derived.Maps.AppendAt
namespace Go.Proofs.Ytnbjfhmajaiokaa
open Go.RowKit

/-- The slice at A, of n elements of 'sz' cells each, reads as the cells xs; it lies below block B. -/
def Rd (w : World) (B sz : Nat) (A : Option Addr) (n : Nat) (xs : List Value) : Prop :=
  xs.length = n * sz ∧ (0 < n → ∃ g o, A = some ⟨g, o, none⟩ ∧ g < B ∧ ∀ j u, xs[j]? = some u → w.cell? ⟨g, o + j, none⟩ = some u)

section
variable {w w' : World} {B B' sz n : Nat} {A : Option Addr} {xs : List Value}
theorem Rd.nil : Rd w B sz A 0 [] := ⟨by simp, fun h => absurd h (by omega)⟩
theorem Rd.keep (h : Rd w B sz A n xs) (hk : ∀ p : Addr, p.block < B → w'.cell? p = w.cell? p) : Rd w' B sz A n xs :=
  ⟨h.1, fun hn => by
    obtain ⟨g, o, e, hb, hc⟩ := h.2 hn
    exact ⟨g, o, e, hb, fun j u hu => (hk _ hb).trans (hc j u hu)⟩⟩
theorem Rd.more (h : Rd w B sz A n xs) (hB : B ≤ B') : Rd w B' sz A n xs :=
  ⟨h.1, fun hn => by
    obtain ⟨g, o, e, hb, hc⟩ := h.2 hn
    exact ⟨g, o, e, by omega, hc⟩⟩
theorem Rd.below (h : Rd w B sz A n xs) (hb : Below B w w') : Rd w' B sz A n xs := h.keep fun _ hp => hb.cell hp
/-- A cell of an element. -/
theorem Rd.at_ (h : Rd w B sz A n xs) {k j : Nat} (hk : k < n) (hj : j < sz) : ∃ g o u, A = some ⟨g, o, none⟩ ∧ g < B ∧ xs[k * sz + j]? = some u ∧ w.cell? ⟨g, o + (k * sz + j), none⟩ = some u := by
  obtain ⟨g, o, e, hb, hc⟩ := h.2 (by omega)
  have hl : k * sz + j < xs.length := by
    rw [h.1]
    have : (k + 1) * sz ≤ n * sz := Nat.mul_le_mul_right _ (by omega)
    rw [Nat.add_mul] at this; omega
  exact ⟨g, o, xs[k * sz + j], e, hb, List.getElem?_eq_getElem hl, hc _ _ (List.getElem?_eq_getElem hl)⟩
theorem Rd.of_own {base : Nat} {e : TypeId} {c : Nat} (h : w.ownsRow base e sz (.slice A n c) n xs) : Rd w w.heap.size sz A n xs := by
  refine ⟨h.1, fun hn => ?_⟩
  rcases h.2 with ⟨_, rfl⟩ | ⟨g, cap, cur, hv, _, hg, hcap, _, hsz, ht⟩
  · omega
  · injection hv with hA _ _
    have hlt := (Array.getElem?_eq_some_iff.1 hg).1
    refine ⟨g, 0, hA, hlt, fun j u hu => ?_⟩
    have hj : j < n * sz := by rw [← h.1]; exact (List.getElem?_eq_some_iff.1 hu).1
    rw [← ht, List.getElem?_take, if_pos hj] at hu
    rw [Nat.zero_add, cell_of_row w g j cur e (0, 0) hg]
    rw [← hu, Array.getElem?_toList]
end

section
variable {w w' : World} {base : Nat} {e : TypeId} {sz n : Nat} {v : Value} {xs : List Value}
theorem own_below (h : w.ownsRow base e sz v n xs) {B : Nat} (hb : Below B w w') (hB : ∀ k, v.ownBlock = some k → k < B) : w'.ownsRow base e sz v n xs := by
  refine ⟨h.1, ?_⟩
  rcases h.2 with h2 | ⟨g, cap, cur, hv, hg, hh, r⟩
  · exact .inl h2
  · exact .inr ⟨g, cap, cur, hv, hg, (hb.block g (hB g (by rw [hv]; rfl))).trans hh, r⟩
theorem own_later (h : w.ownsRow base e sz v n xs) (hb : Below w.heap.size w w') : w'.ownsRow base e sz v n xs :=
  own_below h hb (fun k hk => (h.lt k hk).2)
theorem own_form (h : w.ownsRow base e sz v n xs) : ∃ A c, v = .slice A n c ∧ n ≤ c ∧ c ≤ maxLen ∧ Rd w w.heap.size sz A n xs := by
  rcases h.2 with ⟨rfl, rfl⟩ | ⟨g, cap, cur, rfl, _, _, h1, h2, _⟩
  · exact ⟨none, 0, rfl, Nat.le_refl _, by simp [maxLen], Rd.of_own h⟩
  · exact ⟨_, cap, rfl, h1, h2, Rd.of_own h⟩
theorem own_base (h : w.ownsRow base e sz v n xs) {b : Nat} (hb : b ≤ base) : w.ownsRow b e sz v n xs := by
  refine ⟨h.1, ?_⟩
  rcases h.2 with h2 | ⟨g, cap, cur, hv, hg, r⟩
  · exact .inl h2
  · exact .inr ⟨g, cap, cur, hv, by omega, r⟩
end

theorem add_form (g o j : Nat) : (⟨g, o, none⟩ : Addr).add j = ⟨g, o + j, none⟩ := by
  unfold Addr.add
  split
  · rename_i h; subst h; rfl
  · rfl
/-- The cells of a block that has just been laid. -/
theorem new_cells (w : World) (cs : Array Value) (e : TypeId) (b : Nat) (hb : b = w.heap.size) (j : Nat) (u : Value) (h : cs.toList[j]? = some u) :
    (w.alloc (.cells cs e)).cell? ((⟨b, 0, none⟩ : Addr).add j) = some u := by
  subst hb
  rw [add_form, Nat.zero_add, cell_of_row _ w.heap.size j cs e (0, 0) (heap_alloc_new w _), ← h, Array.getElem?_toList]

theorem new_cell (w : World) (cs : Array Value) (e : TypeId) (b j : Nat) (hb : b = w.heap.size) : (w.alloc (.cells cs e)).cell? ⟨b, j, none⟩ = cs[j]? := by
  subst hb; exact cell_of_row _ w.heap.size j cs e (0, 0) (heap_alloc_new w _)
theorem old_cell (w : World) (o : Obj) (b j : Nat) (hb : b < w.heap.size) : (w.alloc o).cell? ⟨b, j, none⟩ = w.cell? ⟨b, j, none⟩ := World.cell?_alloc_lt w o _ hb

/-- A block that is known whole. -/
def Blk (w : World) (g : Nat) (t : TypeId) (fz : Nat × Nat) (cs : Array Value) : Prop := w.heap[g]? = some (.cells cs t fz)
section
variable {w w' : World} {g : Nat} {t : TypeId} {fz : Nat × Nat} {cs : Array Value}
theorem Blk.lt (h : Blk w g t fz cs) : g < w.heap.size := (Array.getElem?_eq_some_iff.1 h).1
theorem Blk.cell (h : Blk w g t fz cs) (i : Nat) : w.cell? ⟨g, i, none⟩ = cs[i]? := cell_of_row w g i cs t fz h
theorem Blk.frozen (h : Blk w g t fz cs) (i : Nat) : w.frozen? ⟨g, i, none⟩ = (decide (fz.1 ≤ i) && decide (i < fz.2)) := by
  unfold Blk at h
  simp [World.frozen?, h]
theorem Blk.new (w : World) (t : TypeId) (fz : Nat × Nat) (cs : Array Value) : Blk (w.alloc (.cells cs t fz)) w.heap.size t fz cs := heap_alloc_new w _
theorem Blk.alloc (h : Blk w g t fz cs) (o : Obj) : Blk (w.alloc o) g t fz cs := (Below.heap_alloc w o g h.lt).trans h
theorem Blk.set_ (h : Blk w g t fz cs) (i : Nat) (u : Value) : Blk (w.setCell ⟨g, i, none⟩ u) g t fz (cs.setIfInBounds i u) := by
  unfold Blk at h ⊢
  simp [World.setCell, Array.getElem?_modify, h]
theorem Blk.far (h : Blk w g t fz cs) {p : Addr} (hp : g ≠ p.block) (u : Value) : Blk (w.setCell p u) g t fz cs := (Below.heap_setCell w p u g hp).trans h
theorem Blk.below {B : Nat} (h : Blk w g t fz cs) (hb : Below B w w') (hg : g < B) : Blk w' g t fz cs := (hb.block g hg).trans h
end
section
variable {P : Program}
/-- 'string(b)' where b reads as the octets l. -/
theorem conv_bytes (w : World) (src dst e : TypeId) {B n c : Nat} {A : Option Addr} {l : List UInt8} (hs : P.underlying src = some (.slice e)) (he : P.underlying e = some (.int .u8)) (hd : P.underlying dst = some .string)
    (h : Rd w B 1 A n (l.map fun b => .int .u8 b.toNat)) : (convert src dst (.slice A n c)).run P w = .ok (.string ⟨l.toArray⟩) w := by
  have hn : n = l.length := by have := h.1; simp at this; omega
  subst hn
  by_cases h0 : 0 < l.length
  · obtain ⟨g, o, rfl, _, hc⟩ := h.2 h0
    exact run_convert_bytes_back w src dst e _ c l hs he hd (fun j hj => by
      rw [add_form]; exact hc j _ (by simp [hj]))
  · have : l = [] := List.eq_nil_of_length_eq_zero (by omega)
    subst this
    rw [run_convert_bytes_string w src dst e A _ c hs he hd]
    cases A with
    | none => simp [Conv.bytesToString]; rfl
    | some a => exact run_bytesToString w a 0 c [] (by simp [loadCells, loadCellsFrom])
end

theorem one_cell {x : Value} (h : x.oneCell' = true) : ∀ u ∈ [x], u.oneCell' = true := by intro u hu; rw [List.mem_singleton.1 hu]; exact h
theorem base_alloc {B : Nat} {w : World} (h : B ≤ w.heap.size) (o : Obj) : B ≤ (w.alloc o).heap.size := by simp; omega

/-- The length of a text in a slot: for a loop's measure. -/
def lenOfStr : Value → Nat | .string s => s.size | _ => 0
end Go.Proofs.Ytnbjfhmajaiokaa
