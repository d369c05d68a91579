/-
  Words for memory: a slice that reads as a list of cells; what a call owns, over later worlds.
-/
import Derived.Test.YtpofkkoiicdpbaaRows
import Derived.WalkKit
import Derived.WalkSpells
import Derived.WalkLawsBesides
import Derived.Lib.Hide
import Derived.Maps.AppendAt
namespace Go.Proofs.Ytpofkkoiicdpbaa
open Go.RowKit

/-- The slice at A, of n elements of 'sz' cells each, reads as the cells xs; it lies below block B. -/
def Rd (w : World) (B sz : Nat) (A : Option Addr) (n : Nat) (xs : List Value) : Prop :=
  xs.length = n * sz ∧ (0 < n → ∃ g o, A = some ⟨g, o, none⟩ ∧ g < B ∧ ∀ j u, xs[j]? = some u → w.cell? ⟨g, o + j, none⟩ = some u)

section
variable {w w' : World} {B B' sz n : Nat} {A : Option Addr} {xs : List Value}
theorem Rd.nil : Rd w B sz A 0 [] := ⟨by simp, fun h => absurd h (by omega)⟩
theorem Rd.keep (h : Rd w B sz A n xs) (hk : ∀ p : Addr, p.block < B → w'.cell? p = w.cell? p) : Rd w' B sz A n xs :=
  ⟨h.1, fun hn => by
    obtain ⟨g, o, e, hb, hc⟩ := h.2 hn
    exact ⟨g, o, e, hb, fun j u hu => (hk _ hb).trans (hc j u hu)⟩⟩
theorem Rd.more (h : Rd w B sz A n xs) (hB : B ≤ B') : Rd w B' sz A n xs :=
  ⟨h.1, fun hn => by
    obtain ⟨g, o, e, hb, hc⟩ := h.2 hn
    exact ⟨g, o, e, by omega, hc⟩⟩
theorem Rd.below (h : Rd w B sz A n xs) (hb : Below B w w') : Rd w' B sz A n xs := h.keep fun _ hp => hb.cell hp
/-- A cell of an element. -/
theorem Rd.at_ (h : Rd w B sz A n xs) {k j : Nat} (hk : k < n) (hj : j < sz) : ∃ g o u, A = some ⟨g, o, none⟩ ∧ g < B ∧ xs[k * sz + j]? = some u ∧ w.cell? ⟨g, o + (k * sz + j), none⟩ = some u := by
  obtain ⟨g, o, e, hb, hc⟩ := h.2 (by omega)
  have hl : k * sz + j < xs.length := by
    rw [h.1]
    have : (k + 1) * sz ≤ n * sz := Nat.mul_le_mul_right _ (by omega)
    rw [Nat.add_mul] at this; omega
  exact ⟨g, o, xs[k * sz + j], e, hb, List.getElem?_eq_getElem hl, hc _ _ (List.getElem?_eq_getElem hl)⟩
theorem Rd.of_own {base : Nat} {e : TypeId} {c : Nat} (h : w.ownsRow base e sz (.slice A n c) n xs) : Rd w w.heap.size sz A n xs := by
  refine ⟨h.1, fun hn => ?_⟩
  rcases h.2 with ⟨_, rfl⟩ | ⟨g, cap, cur, hv, _, hg, hcap, _, hsz, ht⟩
  · omega
  · injection hv with hA _ _
    have hlt := (Array.getElem?_eq_some_iff.1 hg).1
    refine ⟨g, 0, hA, hlt, fun j u hu => ?_⟩
    have hj : j < n * sz := by rw [← h.1]; exact (List.getElem?_eq_some_iff.1 hu).1
    rw [← ht, List.getElem?_take, if_pos hj] at hu
    rw [Nat.zero_add, cell_of_row w g j cur e (0, 0) hg]
    rw [← hu, Array.getElem?_toList]
end

section
variable {w w' : World} {base : Nat} {e : TypeId} {sz n : Nat} {v : Value} {xs : List Value}
theorem own_below (h : w.ownsRow base e sz v n xs) {B : Nat} (hb : Below B w w') (hB : ∀ k, v.ownBlock = some k → k < B) : w'.ownsRow base e sz v n xs := by
  refine ⟨h.1, ?_⟩
  rcases h.2 with h2 | ⟨g, cap, cur, hv, hg, hh, r⟩
  · exact .inl h2
  · exact .inr ⟨g, cap, cur, hv, hg, (hb.block g (hB g (by rw [hv]; rfl))).trans hh, r⟩
theorem own_later (h : w.ownsRow base e sz v n xs) (hb : Below w.heap.size w w') : w'.ownsRow base e sz v n xs :=
  own_below h hb (fun k hk => (h.lt k hk).2)
theorem own_form (h : w.ownsRow base e sz v n xs) : ∃ A c, v = .slice A n c ∧ n ≤ c ∧ c ≤ maxLen ∧ Rd w w.heap.size sz A n xs := by
  rcases h.2 with ⟨rfl, rfl⟩ | ⟨g, cap, cur, rfl, _, _, h1, h2, _⟩
  · exact ⟨none, 0, rfl, Nat.le_refl _, by simp [maxLen], Rd.of_own h⟩
  · exact ⟨_, cap, rfl, h1, h2, Rd.of_own h⟩
theorem own_base (h : w.ownsRow base e sz v n xs) {b : Nat} (hb : b ≤ base) : w.ownsRow b e sz v n xs := by
  refine ⟨h.1, ?_⟩
  rcases h.2 with h2 | ⟨g, cap, cur, hv, hg, r⟩
  · exact .inl h2
  · exact .inr ⟨g, cap, cur, hv, by omega, r⟩
end

theorem add_form (g o j : Nat) : (⟨g, o, none⟩ : Addr).add j = ⟨g, o + j, none⟩ := by
  unfold Addr.add
  split
  · rename_i h; subst h; rfl
  · rfl
/-- The cells of a block that has just been laid. -/
theorem new_cells (w : World) (cs : Array Value) (e : TypeId) (b : Nat) (hb : b = w.heap.size) (j : Nat) (u : Value) (h : cs.toList[j]? = some u) :
    (w.alloc (.cells cs e)).cell? ((⟨b, 0, none⟩ : Addr).add j) = some u := by
  subst hb
  rw [add_form, Nat.zero_add, cell_of_row _ w.heap.size j cs e (0, 0) (heap_alloc_new w _), ← h, Array.getElem?_toList]

theorem new_cell (w : World) (cs : Array Value) (e : TypeId) (b j : Nat) (hb : b = w.heap.size) : (w.alloc (.cells cs e)).cell? ⟨b, j, none⟩ = cs[j]? := by
  subst hb; exact cell_of_row _ w.heap.size j cs e (0, 0) (heap_alloc_new w _)
theorem old_cell (w : World) (o : Obj) (b j : Nat) (hb : b < w.heap.size) : (w.alloc o).cell? ⟨b, j, none⟩ = w.cell? ⟨b, j, none⟩ := World.cell?_alloc_lt w o _ hb

/-- A block that is known whole. -/
def Blk (w : World) (g : Nat) (t : TypeId) (fz : Nat × Nat) (cs : Array Value) : Prop := w.heap[g]? = some (.cells cs t fz)
section
variable {w w' : World} {g : Nat} {t : TypeId} {fz : Nat × Nat} {cs : Array Value}
theorem Blk.lt (h : Blk w g t fz cs) : g < w.heap.size := (Array.getElem?_eq_some_iff.1 h).1
theorem Blk.cell (h : Blk w g t fz cs) (i : Nat) : w.cell? ⟨g, i, none⟩ = cs[i]? := cell_of_row w g i cs t fz h
theorem Blk.frozen (h : Blk w g t fz cs) (i : Nat) : w.frozen? ⟨g, i, none⟩ = (decide (fz.1 ≤ i) && decide (i < fz.2)) := by
  unfold Blk at h
  simp [World.frozen?, h]
theorem Blk.new (w : World) (t : TypeId) (fz : Nat × Nat) (cs : Array Value) : Blk (w.alloc (.cells cs t fz)) w.heap.size t fz cs := heap_alloc_new w _
theorem Blk.alloc (h : Blk w g t fz cs) (o : Obj) : Blk (w.alloc o) g t fz cs := (Below.heap_alloc w o g h.lt).trans h
theorem Blk.set_ (h : Blk w g t fz cs) (i : Nat) (u : Value) : Blk (w.setCell ⟨g, i, none⟩ u) g t fz (cs.setIfInBounds i u) := by
  unfold Blk at h ⊢
  simp [World.setCell, Array.getElem?_modify, h]
theorem Blk.far (h : Blk w g t fz cs) {p : Addr} (hp : g ≠ p.block) (u : Value) : Blk (w.setCell p u) g t fz cs := (Below.heap_setCell w p u g hp).trans h
theorem Blk.below {B : Nat} (h : Blk w g t fz cs) (hb : Below B w w') (hg : g < B) : Blk w' g t fz cs := (hb.block g hg).trans h
end
section
variable {P : Program}
/-- 'string(b)' where b reads as the octets l. -/
theorem conv_bytes (w : World) (src dst e : TypeId) {B n c : Nat} {A : Option Addr} {l : List UInt8} (hs : P.underlying src = some (.slice e)) (he : P.underlying e = some (.int .u8)) (hd : P.underlying dst = some .string)
    (h : Rd w B 1 A n (l.map fun b => .int .u8 b.toNat)) : (convert src dst (.slice A n c)).run P w = .ok (.string ⟨l.toArray⟩) w := by
  have hn : n = l.length := by have := h.1; simp at this; omega
  subst hn
  by_cases h0 : 0 < l.length
  · obtain ⟨g, o, rfl, _, hc⟩ := h.2 h0
    exact run_convert_bytes_back w src dst e _ c l hs he hd (fun j hj => by
      rw [add_form]; exact hc j _ (by simp [hj]))
  · have : l = [] := List.eq_nil_of_length_eq_zero (by omega)
    subst this
    rw [run_convert_bytes_string w src dst e A _ c hs he hd]
    cases A with
    | none => simp [Conv.bytesToString]; rfl
    | some a => exact run_bytesToString w a 0 c [] (by simp [loadCells, loadCellsFrom])
end

theorem one_cell {x : Value} (h : x.oneCell' = true) : ∀ u ∈ [x], u.oneCell' = true := by intro u hu; rw [List.mem_singleton.1 hu]; exact h
theorem base_alloc {B : Nat} {w : World} (h : B ≤ w.heap.size) (o : Obj) : B ≤ (w.alloc o).heap.size := by simp; omega

/-- The length of a text in a slot: for a loop's measure. -/
def lenOfStr : Value → Nat | .string s => s.size | _ => 0
theorem ret_bool {a b : Bool} (h : a = b) : Ending.returned (.bool a) = .returned (.bool b) := by rw [h]
theorem ret_int {k : IntKind} {a b : Int} (h : a = b) : Ending.returned (.int k a) = .returned (.int k b) := by rw [h]
theorem ret_ints {k : IntKind} {a b a' b' : Int} (h1 : a = a') (h2 : b = b') : Ending.returned (.tuple #[.int k a, .int k b]) = .returned (.tuple #[.int k a', .int k b']) := by rw [h1, h2]
theorem ret_str {a b : ByteArray} (h : a = b) : Ending.returned (.string a) = .returned (.string b) := by rw [h]
theorem beq_dec (a b : List UInt8) : (a == b) = decide (a = b) := by rw [Bool.eq_iff_iff]; simp
theorem take_snoc {α : Type} (l : List α) (k : Nat) (r : α) (h : l[k]? = some r) : l.take (k + 1) = l.take k ++ [r] := by
  rw [List.take_add_one, h]; rfl
theorem get_lt {α : Type} {l : List α} {k : Nat} {r : α} (h : l[k]? = some r) : k < l.length := (List.getElem?_eq_some_iff.1 h).1

def intsV (l : List Int) : List Value := l.map (.int .i64)
theorem intsV_len (l : List Int) : (intsV l).length = l.length := by simp [intsV]
theorem intsV_snoc (l : List Int) (x : Int) : intsV (l ++ [x]) = intsV l ++ [.int .i64 x] := by simp [intsV]
theorem intsV_get (l : List Int) (k : Nat) (x : Int) (h : l[k]? = some x) : (intsV l)[k]? = some (.int .i64 x) := by simp [intsV, h]
theorem int_at {w : World} {B n : Nat} {A : Option Addr} {l : List Int} (h : Rd w B 1 A n (intsV l)) {k : Nat} (hk : k < n) :
    ∃ g o x, A = some ⟨g, o, none⟩ ∧ g < B ∧ l[k]? = some x ∧ w.cell? ⟨g, o + k, none⟩ = some (.int .i64 x) := by
  obtain ⟨g, o, e, hb, hc⟩ := h.2 (by omega)
  have hl := h.1
  rw [intsV_len] at hl
  have hkl : k < l.length := by omega
  exact ⟨g, o, l[k], e, hb, List.getElem?_eq_getElem hkl, hc _ _ (intsV_get _ _ _ (List.getElem?_eq_getElem hkl))⟩

/-- A row of the call's own, by its block. -/
def OwnB (w : World) (base : Nat) (e : TypeId) (sz g n cap : Nat) (xs : List Value) : Prop :=
  ∃ cur, Blk w g e (0, 0) cur ∧ cur.size = cap * sz ∧ cur.toList.take (n * sz) = xs ∧ xs.length = n * sz ∧ base ≤ g ∧ n ≤ cap ∧ cap ≤ maxLen
section
variable {w w' : World} {base : Nat} {e : TypeId} {sz g n cap : Nat} {xs : List Value}
theorem OwnB.own (h : OwnB w base e sz g n cap xs) : w.ownsRow base e sz (.slice (some ⟨g, 0, none⟩) n cap) n xs := by
  obtain ⟨cur, hb, hs, ht, hl, hbg, hn, hm⟩ := h
  exact ⟨hl, .inr ⟨g, cap, cur, rfl, hbg, hb, hn, hm, hs, ht⟩⟩
theorem own_pos {v : Value} (h : w.ownsRow base e sz v n xs) (hn : 0 < n) : ∃ g cap, v = .slice (some ⟨g, 0, none⟩) n cap ∧ OwnB w base e sz g n cap xs := by
  rcases h.2 with ⟨_, h0⟩ | ⟨g, cap, cur, hv, hbg, hh, hnc, hcm, hs, ht⟩
  · omega
  · exact ⟨g, cap, hv, cur, hh, hs, ht, h.1, hbg, hnc, hcm⟩
theorem OwnB.cell (h : OwnB w base e sz g n cap xs) (i : Nat) (hi : i < n * sz) : w.cell? ⟨g, i, none⟩ = xs[i]? := by
  obtain ⟨cur, hb, hs, ht, hl, _⟩ := h
  rw [hb.cell, ← ht, List.getElem?_take, if_pos hi, Array.getElem?_toList]
theorem OwnB.frozen (h : OwnB w base e sz g n cap xs) (i : Nat) : w.frozen? ⟨g, i, none⟩ = false := by
  obtain ⟨cur, hb, _⟩ := h
  rw [hb.frozen]; simp
theorem OwnB.lt (h : OwnB w base e sz g n cap xs) : g < w.heap.size := by obtain ⟨cur, hb, _⟩ := h; exact hb.lt
theorem OwnB.base_ (h : OwnB w base e sz g n cap xs) : base ≤ g := by obtain ⟨cur, _, _, _, _, hb, _⟩ := h; exact hb
theorem OwnB.caps (h : OwnB w base e sz g n cap xs) : n ≤ cap ∧ cap ≤ maxLen := by obtain ⟨cur, _, _, _, _, _, h1, h2⟩ := h; exact ⟨h1, h2⟩
theorem OwnB.set_ (h : OwnB w base e sz g n cap xs) (i : Nat) (u : Value) : OwnB (w.setCell ⟨g, i, none⟩ u) base e sz g n cap (xs.set i u) := by
  obtain ⟨cur, hb, hs, ht, hl, r⟩ := h
  refine ⟨_, hb.set_ i u, by simp [hs], ?_, by rw [List.length_set]; exact hl, r⟩
  rw [Array.toList_setIfInBounds, List.take_set, ht]
theorem OwnB.far (h : OwnB w base e sz g n cap xs) {p : Addr} (hp : g ≠ p.block) (u : Value) : OwnB (w.setCell p u) base e sz g n cap xs := by
  obtain ⟨cur, hb, r⟩ := h
  exact ⟨cur, hb.far hp u, r⟩
theorem OwnB.alloc (h : OwnB w base e sz g n cap xs) (o : Obj) : OwnB (w.alloc o) base e sz g n cap xs := by
  obtain ⟨cur, hb, r⟩ := h
  exact ⟨cur, hb.alloc o, r⟩
theorem OwnB.drewN (h : OwnB w base e sz g n cap xs) (k : Nat) : OwnB (w.drewN k) base e sz g n cap xs := by
  obtain ⟨cur, hb, r⟩ := h
  exact ⟨cur, hb, r⟩
theorem OwnB.later (h : OwnB w base e sz g n cap xs) (hb : Below w.heap.size w w') : OwnB w' base e sz g n cap xs := by
  obtain ⟨cur, hk, r⟩ := h
  exact ⟨cur, hk.below hb hk.lt, r⟩
theorem OwnB.lit (w : World) (base : Nat) (hb : base ≤ w.heap.size) (e : TypeId) (sz n : Nat) (cs : Array Value) (hn : cs.size = n * sz) (hm : n ≤ maxLen) : OwnB (w.alloc (.cells cs e)) base e sz w.heap.size n n cs.toList := by
  refine ⟨cs, Blk.new w e (0, 0) cs, hn, ?_, by simp [hn], hb, Nat.le_refl _, hm⟩
  rw [List.take_of_length_le (by simp [hn])]
theorem OwnB.rd (h : OwnB w base e sz g n cap xs) : Rd w w.heap.size sz (some ⟨g, 0, none⟩) n xs := Rd.of_own h.own
end
theorem intsV_one (l : List Int) : ∀ u ∈ intsV l, u.oneCell' = true := by
  intro u hu
  obtain ⟨x, _, rfl⟩ := List.mem_map.1 hu
  rfl
/-- The cells of a source that reads as a list, as the law on append asks for them. -/
theorem rd_cells {w : World} {B sz n g o : Nat} {xs : List Value} (h : Rd w B sz (some ⟨g, o, none⟩) n xs) : ∀ j u, xs[j]? = some u → w.cell? ((⟨g, o, none⟩ : Addr).add j) = some u := by
  intro j u hu
  by_cases hn : 0 < n
  · obtain ⟨g', o', e, _, hc⟩ := h.2 hn
    injection e with e
    injection e with e1 e2 _
    subst e1 e2
    rw [add_form]; exact hc j u hu
  · have : n = 0 := by omega
    subst this
    have h0 := h.1
    have : xs = [] := List.eq_nil_of_length_eq_zero (by omega)
    subst this
    simp at hu
end Go.Proofs.Ytpofkkoiicdpbaa
