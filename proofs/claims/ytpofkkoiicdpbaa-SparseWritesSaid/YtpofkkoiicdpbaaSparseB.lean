/-
  Files of blocks in memory: a slice of numbered blocks, each a slice of octets.
-/
import Derived.Test.YtpofkkoiicdpbaaSparseA
import Derived.Test.YtpofkkoiicdpbaaAppC
import Derived.Test.YtpofkkoiicdpbaaRowV
import Derived.Test.YtpofkkoiicdpbaaOct
namespace Go.Proofs.Ytpofkkoiicdpbaa
open Go.RowKit
set_option linter.unusedVariables false

theorem octV_snoc (l : List UInt8) (b : UInt8) : octV (l ++ [b]) = octV l ++ [.int .u8 b.toNat] := by simp [octV]
theorem octV_append (l m : List UInt8) : octV (l ++ m) = octV l ++ octV m := by simp [octV]
theorem octV_len (l : List UInt8) : (octV l).length = l.length := by simp [octV]
theorem octV_take (l : List UInt8) (k : Nat) : octV (l.take k) = (octV l).take k := by simp [octV]
theorem octV_drop (l : List UInt8) (k : Nat) : octV (l.drop k) = (octV l).drop k := by simp [octV]
theorem octV_one (l : List UInt8) : ∀ u ∈ octV l, u.oneCell' = true := by
  intro u hu
  obtain ⟨x, _, rfl⟩ := List.mem_map.1 hu
  rfl
theorem Try.info5 : (Try.prog.info? 5).map (fun i => (i.zero, i.size, i.bytes)) = some (some (.int .u8 0), 1, 1) := by kernel_rfl
theorem Try.info3 : (Try.prog.info? 3).map (fun i => (i.zero, i.size, i.bytes)) = some (some (.int .i64 0), 1, 8) := by kernel_rfl
theorem Try.info62 : (Try.prog.info? 62).map (fun i => (i.zero, i.size, i.bytes)) = some (some (.agg #[.int .i64 0, .slice none 0 0]), 2, 32) := by kernel_rfl

/-- A row of octets in memory: nil or not; of its block Q holds. -/
def RdB (w : World) (B : Nat) (Q : Nat → Prop) (v : Value) (l : List UInt8) : Prop :=
  ∃ A n c, v = .slice A n c ∧ n ≤ c ∧ c ≤ maxLen ∧ (A = none → c = 0) ∧ Rd w B 1 A n (octV l) ∧ (0 < n → ∀ a, A = some a → Q a.block)
def AnyB (_ : Nat) : Prop := True
/-- A block of a file in memory: its number, its octets' slice, its octets. -/
abbrev PV := Int × Value × List UInt8
def fP (t : PV) : List Value := [.int .i64 t.1, t.2.1]
abbrev rowP (T : List PV) : List Value := rowV fP T
theorem fP_len (t : PV) : (fP t).length = 2 := rfl
def pcP (t : PV) : Pc := (t.1, t.2.2)
/-- The blocks of a file: a row of them at A; of each block of octets Q holds. -/
def RdP (w : World) (B : Nat) (Q : Nat → Prop) (A : Option Addr) (n : Nat) (T : List PV) : Prop := Rd w B 2 A n (rowP T) ∧ ∀ t ∈ T, RdB w B Q t.2.1 t.2.2
def IsP (w : World) (B : Nat) (A : Option Addr) (n c : Nat) (L : List Pc) : Prop := n ≤ c ∧ c ≤ maxLen ∧ (A = none → c = 0) ∧ ∃ T, RdP w B AnyB A n T ∧ T.map pcP = L

section
variable {w w' : World} {B B' : Nat} {Q Q' : Nat → Prop} {v : Value} {l : List UInt8} {A : Option Addr} {n c : Nat} {T : List PV} {L : List Pc}
theorem RdB.more (h : RdB w B Q v l) (hB : B ≤ B') : RdB w B' Q v l := by
  obtain ⟨A, n, c, e, h1, h2, h3, h4, h5⟩ := h
  exact ⟨A, n, c, e, h1, h2, h3, h4.more hB, h5⟩
theorem RdB.below (h : RdB w B Q v l) (hb : Below B w w') : RdB w' B Q v l := by
  obtain ⟨A, n, c, e, h1, h2, h3, h4, h5⟩ := h
  exact ⟨A, n, c, e, h1, h2, h3, h4.below hb, h5⟩
theorem RdB.imp (h : RdB w B Q v l) (hq : ∀ b, b < B → Q b → Q' b) : RdB w B Q' v l := by
  obtain ⟨A, n, c, e, h1, h2, h3, h4, h5⟩ := h
  refine ⟨A, n, c, e, h1, h2, h3, h4, fun hn a ha => ?_⟩
  obtain ⟨g', o', e', hb, _⟩ := h4.2 hn
  have hqa := h5 hn a ha
  rw [ha] at e'
  cases e'
  exact hq _ hb hqa
theorem RdB.free (h : RdB w B Q v l) : RdB w B AnyB v l := h.imp fun _ _ _ => trivial
theorem RdB.keep (h : RdB w B Q v l) (hk : ∀ p : Addr, p.block < B → Q p.block → w'.cell? p = w.cell? p) : RdB w' B Q v l := by
  obtain ⟨A, n, c, e, h1, h2, h3, h4, h5⟩ := h
  refine ⟨A, n, c, e, h1, h2, h3, ⟨h4.1, fun hn => ?_⟩, h5⟩
  obtain ⟨g, o, e', hb, hc⟩ := h4.2 hn
  exact ⟨g, o, e', hb, fun j u hu => (hk ⟨g, o + j, none⟩ hb (by have := h5 hn _ e'; exact this)).trans (hc j u hu)⟩
theorem RdB.form (h : RdB w B Q v l) : ∃ A c, v = .slice A l.length c ∧ l.length ≤ c ∧ c ≤ maxLen ∧ (A = none → c = 0) ∧ Rd w B 1 A l.length (octV l) := by
  obtain ⟨A, n, c, e, h1, h2, h3, h4, h5⟩ := h
  have hn : n = l.length := by have := h4.1; rw [octV_len] at this; omega
  subst hn
  exact ⟨A, c, e, h1, h2, h3, h4⟩
theorem RdB.one (h : RdB w B Q v l) : v.oneCell' = true := by
  obtain ⟨A, n, c, rfl, _⟩ := h
  rfl
/-- A row of octets of the call's own. -/
theorem RdB.of_own {base : Nat} {A : Option Addr} {m c : Nat} (hl : w.ownsRow base 5 1 (.slice A m c) m (octV l)) : RdB w w.heap.size (fun b => base ≤ b) (.slice A m c) l := by
  obtain ⟨A', c', e, h1, h2, h3⟩ := own_form hl
  injection e with e1 e2 e3
  subst e1 e3
  have hnil : A = none → c = 0 := by
    intro e
    subst e
    rcases hl.2 with ⟨e, _⟩ | ⟨g, cap, cur, e, _⟩
    · injection e
    · cases e
  refine ⟨A, m, c, rfl, h1, h2, hnil, h3, fun _ a ha => ?_⟩
  subst ha
  exact (hl.lt a.block rfl).1
theorem RdP.more (h : RdP w B Q A n T) (hB : B ≤ B') : RdP w B' Q A n T := ⟨h.1.more hB, fun t ht => (h.2 t ht).more hB⟩
theorem RdP.below (h : RdP w B Q A n T) (hb : Below B w w') : RdP w' B Q A n T := ⟨h.1.below hb, fun t ht => (h.2 t ht).below hb⟩
theorem RdP.free (h : RdP w B Q A n T) : RdP w B AnyB A n T := ⟨h.1, fun t ht => (h.2 t ht).free⟩
theorem RdP.one (h : RdP w B Q A n T) : ∀ u ∈ rowP T, u.oneCell' = true := by
  intro u hu
  obtain ⟨t, ht, hu⟩ := List.mem_flatMap.1 hu
  unfold fP at hu
  simp only [List.mem_cons, List.not_mem_nil, or_false] at hu
  rcases hu with rfl | rfl
  · rfl
  · exact (h.2 t ht).one
theorem RdP.count (h : RdP w B Q A n T) : T.length = n := rowV_count fP_len h.1 (by omega)
theorem RdP.at_ (h : RdP w B Q A n T) {k : Nat} (hk : k < n) :
    ∃ g o t, A = some ⟨g, o, none⟩ ∧ g < B ∧ T[k]? = some t ∧ w.cell? ⟨g, o + k * 2, none⟩ = some (.int .i64 t.1) ∧ w.cell? ⟨g, o + k * 2 + 1, none⟩ = some t.2.1 ∧ RdB w B Q t.2.1 t.2.2 := by
  obtain ⟨g, o, x, e, hb, hx, hc⟩ := rowV_at fP_len h.1 hk (by omega)
  exact ⟨g, o, x, e, hb, hx, by simpa using hc 0 _ rfl, by rw [Nat.add_assoc]; exact hc 1 _ rfl, h.2 x (List.mem_iff_getElem?.2 ⟨k, hx⟩)⟩
theorem RdP.take (h : RdP w B Q A n T) {k : Nat} (hk : k ≤ n) : RdP w B Q A k (T.take k) := by
  refine ⟨?_, fun t ht => h.2 t (List.mem_of_mem_take ht)⟩
  have := rd_takeV h.1 hk
  rw [rowV_take fP_len] at this
  exact this
theorem IsP.more (h : IsP w B A n c L) (hB : B ≤ B') : IsP w B' A n c L := by
  obtain ⟨h1, h2, h3, T, h4, h5⟩ := h
  exact ⟨h1, h2, h3, T, h4.more hB, h5⟩
theorem IsP.below (h : IsP w B A n c L) (hb : Below B w w') : IsP w' B A n c L := by
  obtain ⟨h1, h2, h3, T, h4, h5⟩ := h
  exact ⟨h1, h2, h3, T, h4.below hb, h5⟩
theorem IsP.later (h : IsP w w.heap.size A n c L) (hb : Below w.heap.size w w') : IsP w' w'.heap.size A n c L := (h.below hb).more hb.size
theorem IsP.count (h : IsP w B A n c L) : L.length = n := by
  obtain ⟨h1, h2, h3, T, h4, h5⟩ := h
  rw [← h5, List.length_map, h4.count]
/-- A block of a file in memory. -/
theorem IsP.at_ (h : IsP w B A n c L) {k : Nat} (hk : k < n) :
    ∃ g o x Ab cb, A = some ⟨g, o, none⟩ ∧ g < B ∧ L[k]? = some x ∧ w.cell? ⟨g, o + k * 2, none⟩ = some (.int .i64 x.1) ∧ w.cell? ⟨g, o + k * 2 + 1, none⟩ = some (.slice Ab x.2.length cb) ∧
      x.2.length ≤ cb ∧ cb ≤ maxLen ∧ (Ab = none → cb = 0) ∧ Rd w B 1 Ab x.2.length (octV x.2) := by
  obtain ⟨h1, h2, h3, T, h4, h5⟩ := h
  obtain ⟨g, o, t, e, hb, ht, c0, c1, hR⟩ := h4.at_ hk
  obtain ⟨Ab, cb, e1, q1, q2, q3, q4⟩ := hR.form
  refine ⟨g, o, pcP t, Ab, cb, e, hb, by rw [← h5, List.getElem?_map, ht]; rfl, c0, by rw [c1, e1]; rfl, q1, q2, q3, q4⟩
end

/-- The same, and of each block of memory Q holds. -/
def IsQ (w : World) (B : Nat) (Q : Nat → Prop) (A : Option Addr) (n c : Nat) (L : List Pc) : Prop := n ≤ c ∧ c ≤ maxLen ∧ (A = none → c = 0) ∧ (0 < n → ∀ a, A = some a → Q a.block) ∧ ∃ T, RdP w B Q A n T ∧ T.map pcP = L
section
variable {w w' : World} {B B' : Nat} {Q Q' : Nat → Prop} {A : Option Addr} {n c : Nat} {L : List Pc}
theorem IsQ.free (h : IsQ w B Q A n c L) : IsP w B A n c L := by
  obtain ⟨h1, h2, h3, _, T, h4, h5⟩ := h
  exact ⟨h1, h2, h3, T, h4.free, h5⟩
theorem IsP.toQ (h : IsP w B A n c L) (hq : ∀ b, b < B → Q b) : IsQ w B Q A n c L := by
  obtain ⟨h1, h2, h3, T, h4, h5⟩ := h
  refine ⟨h1, h2, h3, fun hn a ha => ?_, T, ⟨h4.1, fun t ht => (h4.2 t ht).imp fun b hb _ => hq b hb⟩, h5⟩
  obtain ⟨g, o, e, hb, _⟩ := h4.1.2 hn
  rw [ha] at e
  cases e
  exact hq _ hb
theorem IsQ.imp (h : IsQ w B Q A n c L) (hq : ∀ b, b < B → Q b → Q' b) : IsQ w B Q' A n c L := by
  obtain ⟨h1, h2, h3, h6, T, h4, h5⟩ := h
  refine ⟨h1, h2, h3, fun hn a ha => ?_, T, ⟨h4.1, fun t ht => (h4.2 t ht).imp hq⟩, h5⟩
  obtain ⟨g, o, e, hb, _⟩ := h4.1.2 hn
  have := h6 hn a ha
  rw [ha] at e
  cases e
  exact hq _ hb this
theorem IsQ.more (h : IsQ w B Q A n c L) (hB : B ≤ B') : IsQ w B' Q A n c L := by
  obtain ⟨h1, h2, h3, h6, T, h4, h5⟩ := h
  exact ⟨h1, h2, h3, h6, T, h4.more hB, h5⟩
theorem IsQ.below (h : IsQ w B Q A n c L) (hb : Below B w w') : IsQ w' B Q A n c L := by
  obtain ⟨h1, h2, h3, h6, T, h4, h5⟩ := h
  exact ⟨h1, h2, h3, h6, T, h4.below hb, h5⟩
theorem IsQ.later (h : IsQ w w.heap.size Q A n c L) (hb : Below w.heap.size w w') : IsQ w' w'.heap.size Q A n c L := (h.below hb).more hb.size
theorem IsQ.keep (h : IsQ w B Q A n c L) (hk : ∀ p : Addr, p.block < B → Q p.block → w'.cell? p = w.cell? p) : IsQ w' B Q A n c L := by
  obtain ⟨h1, h2, h3, h6, T, h4, h5⟩ := h
  refine ⟨h1, h2, h3, h6, T, ⟨⟨h4.1.1, fun hn => ?_⟩, fun t ht => (h4.2 t ht).keep hk⟩, h5⟩
  obtain ⟨g, o, e, hb, hc⟩ := h4.1.2 hn
  exact ⟨g, o, e, hb, fun j u hu => (hk ⟨g, o + j, none⟩ hb (by have := h6 hn _ e; exact this)).trans (hc j u hu)⟩
end

/-- A row of a file's blocks that the call owns, beside blocks of octets that lie elsewhere, from lo on. -/
def OwnP (w : World) (base lo : Nat) (v : Value) (T : List PV) : Prop := w.ownsRow base 62 2 v T.length (rowP T) ∧ ∀ t ∈ T, RdB w w.heap.size (fun b => lo ≤ b ∧ some b ≠ v.ownBlock) t.2.1 t.2.2
theorem own_nilc {w : World} {base n sz c : Nat} {e : TypeId} {A : Option Addr} {xs : List Value} (h : w.ownsRow base e sz (.slice A n c) n xs) : A = none → c = 0 := by
  intro e
  subst e
  rcases h.2 with ⟨e, _⟩ | ⟨g, cap, cur, e, _⟩
  · injection e
  · cases e
theorem OwnP.isP {w w' : World} {base lo : Nat} {v : Value} {T : List PV} (h : OwnP w base lo v T) (hk : ∀ p : Addr, p.block < w.heap.size → (some p.block = v.ownBlock ∨ lo ≤ p.block) → w'.cell? p = w.cell? p) (hs : w.heap.size ≤ w'.heap.size) :
    ∃ A c, v = .slice A T.length c ∧ IsP w' w'.heap.size A T.length c (T.map pcP) := by
  obtain ⟨A, c, rfl, h1, h2, h3⟩ := own_form h.1
  refine ⟨A, c, rfl, h1, h2, own_nilc h.1, T, ⟨⟨h3.1, fun hn => ?_⟩, fun t ht => (((h.2 t ht).keep fun p hp hq => hk p hp (.inr hq.1)).more hs).free⟩, rfl⟩
  obtain ⟨g, o, e, hb, hc⟩ := h3.2 hn
  refine ⟨g, o, e, by omega, fun j u hu => ?_⟩
  rw [hk ⟨g, o + j, none⟩ hb (.inl (by subst e; rfl))]
  exact hc j u hu
theorem OwnP.nil (w : World) (base lo : Nat) : OwnP w base lo (.slice none 0 0) [] := ⟨⟨rfl, .inl ⟨rfl, rfl⟩⟩, by simp⟩
/-- A block more behind a row of the call's own: its octets lie in a block of their own. -/
theorem OwnP.push {w w1 w2 : World} {base lo : Nat} {v v' : Value} {T : List PV} {N : Int} {A1 : Option Addr} {c1 m : Nat} {l : List UInt8} {o : Obj} (h : OwnP w base lo v T) (hlo : lo ≤ w.heap.size) (hb : Below w.heap.size w w1)
    (hl : w1.ownsRow w.heap.size 5 1 (.slice A1 m c1) m (octV l)) (hg : (w1.alloc o).grownBy w2 v.ownBlock) (hat : v'.ownBlock = v.ownBlock ∨ v'.ownBlock = some (w1.heap.size + 1))
    (hr : w2.ownsRow base 62 2 v' (T.length + 1) (rowP T ++ [.int .i64 N, .slice A1 m c1])) : OwnP w2 base lo v' (T ++ [(N, .slice A1 m c1, l)]) := by
  have hvlt : ∀ k, v.ownBlock = some k → k < w.heap.size := fun k hk => (h.1.lt k hk).2
  have hsz : (w1.alloc o).heap.size = w1.heap.size + 1 := by simp
  have hs2 : w1.heap.size + 1 ≤ w2.heap.size := by have := hg.size; omega
  have hs1 := hb.size
  refine ⟨?_, fun t ht => ?_⟩
  · rw [List.length_append]
    show w2.ownsRow _ _ _ _ _ (rowV fP _)
    rw [rowV_snoc]
    exact hr
  · rcases List.mem_append.1 ht with ht | ht
    · have q := h.2 t ht
      have q2 : RdB w2 w.heap.size (fun b => lo ≤ b ∧ some b ≠ v.ownBlock) t.2.1 t.2.2 := q.keep fun p hp hx => by
        rw [cell_grown hg (by rw [hsz]; omega) hx.2, World.cell?_alloc_lt _ _ _ (by omega), hb.cell hp]
      refine (q2.imp fun b hb hx => ?_).more (by omega)
      refine ⟨hx.1, ?_⟩
      rcases hat with e | e
      · rw [e]; exact hx.2
      · rw [e]; intro e'; injection e' with e'; omega
    · obtain rfl := List.mem_singleton.1 ht
      have q := RdB.of_own hl
      have q2 : RdB w2 w1.heap.size (fun b => w.heap.size ≤ b) (.slice A1 m c1) l := q.keep fun p hp hx => by
        rw [cell_grown hg (by rw [hsz]; omega) (fun e' => by have := hvlt _ e'.symm; omega), World.cell?_alloc_lt _ _ _ (by omega)]
      refine (q2.imp fun b hb hx => ?_).more (by omega)
      refine ⟨by omega, fun e' => ?_⟩
      rcases hat with e | e
      · rw [e] at e'
        have := hvlt _ e'.symm
        omega
      · rw [e] at e'
        injection e' with e'
        omega

theorem cell_far {w : World} {p q : Addr} {v : Value} (h : p.block ≠ q.block) : (w.setCell q v).cell? p = w.cell? p := by
  unfold World.cell?
  rw [Below.heap_setCell w q v p.block h]
theorem below_drew {B : Nat} {a w : World} (h : Below B a w) : Below B a w.drew := ⟨h.os, h.tape, h.output, h.size, h.block⟩
/-- How many blocks octets need. -/
def needN (n : Int) : Int := if n ≤ 0 then 0 else (n + 127) / 128
set_option maxHeartbeats 400000 in
theorem Size_any (n : Int) (w : World) (hn : n ≤ 9223372036854775807) :
    Calls Try.prog 31 #[.int .i64 n] w fun e w' => e = .returned (.int .i64 (needN n)) ∧ w = w' := by
  by_cases h : n ≤ 0
  · go_enter Try.func31, Try.ntmps31
    go_wp2
    go_ret
    exact ⟨ret_int (by unfold needN; rw [if_pos h]), rfl⟩
  · go_enter Try.func31, Try.ntmps31
    go_wp2
    go_ret
    exact ⟨ret_int (by unfold needN; rw [if_neg (by omega)]; omega), rfl⟩
set_option maxHeartbeats 400000 in
theorem need_any (n : Int) (w : World) (hn : n ≤ 1000000000) :
    Calls Try.prog 27 #[.int .i64 n] w fun e w' => e = .returned (.int .i64 (needN n)) ∧ w = w' := by
  by_cases h : n ≤ 0
  · go_enter Try.func27, Try.ntmps27
    go_wp2
    go_loop [3] (fun i => i = .int .i64 0) (fun _ => 0)
    case atStart => rfl
    case round =>
      subst hrel
      go_wp2
      go_ret
      exact ⟨ret_int (by unfold needN; rw [if_pos h]), rfl⟩
  · have hm : n ≤ needN n * 128 := by unfold needN; rw [if_neg h]; omega
    have hm2 : needN n * 128 < n + 128 := by unfold needN; rw [if_neg h]; omega
    obtain ⟨m, hmm⟩ : ∃ m : Nat, needN n = (m : Int) := ⟨(needN n).toNat, by omega⟩
    rw [hmm] at hm hm2 ⊢
    clear hmm
    go_enter Try.func27, Try.ntmps27
    go_wp2
    go_loop [3] (fun i => ∃ k : Nat, k ≤ m ∧ i = .int .i64 k) (fun i => m - (intOf i).toNat)
    case atStart => exact ⟨0, Nat.zero_le _, rfl⟩
    case round =>
      obtain ⟨k, hk, rfl⟩ := hrel
      by_cases hlt : k < m
      · have : 128 * (k : Int) < n := by omega
        go_wp2
        go_round
        case rel => exact ⟨k + 1, by omega, by go_num⟩
        case measure => simp [intOf]; omega
      · obtain rfl : k = m := by omega
        have : n ≤ 128 * (k : Int) := by omega
        go_wp2
        go_ret
        exact ⟨rfl, rfl⟩

def cut700 (l : List UInt8) : List UInt8 := l.take 700
set_option maxHeartbeats 400000 in
theorem octets_any (A : Option Addr) (n c : Nat) (w : World) (hnc : n ≤ c) (hc : c ≤ maxLen) :
    Calls Try.prog 9 #[.slice A n c] w fun e w' => e = .returned (.slice A (min n 700) c) ∧ w = w' := by
  unfold maxLen at hc
  by_cases h : 700 < n
  · have e : min n 700 = 700 := by omega
    rw [e]
    have hd : decide ((700 : Int) < (n : Int)) = true := decide_eq_true (by omega)
    clear e
    go_enter Try.func9, Try.ntmps9
    go_wp2
    go_ret
    exact ⟨rfl, rfl⟩
  · have e : min n 700 = n := by omega
    rw [e]
    have hd : decide ((700 : Int) < (n : Int)) = false := decide_eq_false (by omega)
    clear e
    go_enter Try.func9, Try.ntmps9
    go_wp2
    go_ret
    exact ⟨rfl, rfl⟩
end Go.Proofs.Ytpofkkoiicdpbaa
