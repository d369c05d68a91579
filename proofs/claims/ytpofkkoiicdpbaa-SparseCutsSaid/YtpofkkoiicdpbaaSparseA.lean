/-
  Plain laws on files of blocks: rows of numbered blocks in order, and what stands at each octet.
-/
import Derived.Test.YtpofkkoiicdpbaaMem
namespace Go.Proofs.Ytpofkkoiicdpbaa
open Go.RowKit
set_option linter.unusedVariables false

/-- A block of a file: which one, and its octets. -/
abbrev Pc := Int × List UInt8
def blk (L : List Pc) (n : Int) : Option (List UInt8) := (L.find? fun p => decide (p.1 = n)).map (·.2)
def octF (L : List Pc) (i : Nat) : UInt8 := match blk L ((i / 128 : Nat) : Int) with | some b => (b[i % 128]?).getD 0 | none => 0
def hasF (L : List Pc) (n : Int) : Bool := (blk L n).isSome
def zer (n : Nat) : List UInt8 := List.replicate n 0
def octB (L : List Pc) (n : Int) : List UInt8 := (blk L n).getD (zer 128)
def Asc (L : List Pc) : Prop := L.Pairwise (fun p q => p.1 < q.1)
def Std (L : List Pc) : Prop := Asc L ∧ ∀ p ∈ L, 0 ≤ p.1 ∧ p.2.length = 128
def OkF (size : Int) (L : List Pc) : Prop := 0 ≤ size ∧ size ≤ 463488 ∧ Std L ∧ (∀ p ∈ L, p.1 < (size + 127) / 128) ∧ ∀ i : Nat, size ≤ (i : Int) → octF L i = 0

def tailZ (size : Int) (p : Pc) : Bool := (p.2.drop (size - 128 * p.1).toNat).all (fun b => decide (b = 0))
def goodP (size last : Int) (p : Pc) : Bool := decide (last < p.1) && decide (p.1 < (size + 127) / 128) && decide (p.2.length = 128) && tailZ size p
def goodF (size : Int) : Int → List Pc → Bool
  | _, [] => true
  | last, p :: t => goodP size last p && goodF size p.1 t
def lastP (last : Int) : List Pc → Int
  | [] => last
  | p :: t => lastP p.1 t
def okF (size : Int) (L : List Pc) : Bool := decide (0 ≤ size) && decide (size ≤ 463488) && goodF size (-1) L

theorem goodF_snoc (size : Int) (x : Pc) : ∀ (l : List Pc) (last : Int), goodF size last (l ++ [x]) = (goodF size last l && goodP size (lastP last l) x)
  | [], last => by simp [goodF, lastP]
  | p :: t, last => by simp only [List.cons_append, goodF, lastP]; rw [goodF_snoc size x t p.1, Bool.and_assoc]
theorem lastP_snoc (x : Pc) : ∀ (l : List Pc) (last : Int), lastP last (l ++ [x]) = x.1
  | [], last => rfl
  | p :: t, last => lastP_snoc x t p.1
theorem goodF_take (size last : Int) (l : List Pc) (k : Nat) (x : Pc) (h : l[k]? = some x) : goodF size last (l.take (k + 1)) = (goodF size last (l.take k) && goodP size (lastP last (l.take k)) x) := by
  rw [take_snoc l k x h, goodF_snoc]
theorem lastP_take (last : Int) (l : List Pc) (k : Nat) (x : Pc) (h : l[k]? = some x) : lastP last (l.take (k + 1)) = x.1 := by
  rw [take_snoc l k x h, lastP_snoc]
theorem goodF_pre (size : Int) : ∀ (l m : List Pc) (last : Int), goodF size last (l ++ m) = true → goodF size last l = true
  | [], m, last, _ => rfl
  | p :: t, m, last, h => by
    simp only [List.cons_append, goodF, Bool.and_eq_true] at h ⊢
    exact ⟨h.1, goodF_pre size t m p.1 h.2⟩
theorem goodF_bad (size last : Int) (l : List Pc) (k : Nat) (x : Pc) (h : l[k]? = some x) (hb : goodP size (lastP last (l.take k)) x = false) : goodF size last l = false := by
  cases hg : goodF size last l with
  | false => rfl
  | true =>
    have h1 : goodF size last (l.take (k + 1)) = true := goodF_pre size _ (l.drop (k + 1)) last (by rw [List.take_append_drop]; exact hg)
    rw [goodF_take size last l k x h, hb, Bool.and_false] at h1
    cases h1

theorem goodF_iff (size : Int) : ∀ (l : List Pc) (last : Int), goodF size last l = true ↔ Asc l ∧ ∀ p ∈ l, last < p.1 ∧ p.1 < (size + 127) / 128 ∧ p.2.length = 128 ∧ tailZ size p = true
  | [], last => by simp [goodF, Asc]
  | p :: t, last => by
    rw [goodF, Bool.and_eq_true, goodF_iff size t p.1]
    unfold goodP Asc
    simp only [Bool.and_eq_true, decide_eq_true_eq, List.pairwise_cons, List.mem_cons, forall_eq_or_imp]
    constructor
    · rintro ⟨⟨⟨⟨a, b⟩, c⟩, d⟩, e, f⟩
      exact ⟨⟨fun q hq => (f q hq).1, e⟩, ⟨a, b, c, d⟩, fun q hq => ⟨by have := (f q hq).1; omega, (f q hq).2⟩⟩
    · rintro ⟨⟨a, b⟩, ⟨c, d, e, f⟩, g⟩
      exact ⟨⟨⟨⟨c, d⟩, e⟩, f⟩, b, fun q hq => ⟨a q hq, (g q hq).2⟩⟩

theorem blk_some {L : List Pc} {n : Int} {b : List UInt8} (h : blk L n = some b) : (n, b) ∈ L := by
  unfold blk at h
  rw [Option.map_eq_some_iff] at h
  obtain ⟨p, hp, rfl⟩ := h
  have h1 := List.find?_some hp
  have h2 := List.mem_of_find?_eq_some hp
  have : p.1 = n := by simpa using h1
  subst this
  exact h2
theorem blk_mem {L : List Pc} (h : Asc L) {n : Int} {b : List UInt8} (hm : (n, b) ∈ L) : blk L n = some b := by
  induction L with
  | nil => cases hm
  | cons p t ih =>
    unfold Asc at h
    rw [List.pairwise_cons] at h
    rcases List.mem_cons.1 hm with e | hm
    · subst e
      simp [blk]
    · have hlt := h.1 _ hm
      have := ih h.2 hm
      unfold blk at this ⊢
      rw [List.find?_cons]
      have hne : decide (p.1 = n) = false := decide_eq_false (by omega)
      rw [hne]
      exact this
theorem blk_none {L : List Pc} {n : Int} (h : ∀ p ∈ L, p.1 ≠ n) : blk L n = none := by
  unfold blk
  rw [Option.map_eq_none_iff, List.find?_eq_none]
  intro p hp
  simpa using h p hp
theorem blk_at {L : List Pc} (h : Asc L) {k : Nat} {x : Pc} (hx : L[k]? = some x) : blk L x.1 = some x.2 :=
  blk_mem h (List.mem_iff_getElem?.2 ⟨k, hx⟩)
theorem octF_in {L : List Pc} {n : Int} {b : List UInt8} (h : blk L n = some b) (i : Nat) (hi : ((i / 128 : Nat) : Int) = n) : octF L i = (b[i % 128]?).getD 0 := by
  unfold octF; rw [hi, h]
theorem octF_out {L : List Pc} {i : Nat} (h : blk L ((i / 128 : Nat) : Int) = none) : octF L i = 0 := by unfold octF; rw [h]

theorem tailZ_iff (size : Int) (p : Pc) (hp : 0 ≤ p.1) (hs : 0 ≤ size) (hl : p.2.length = 128) : tailZ size p = true ↔ ∀ j : Nat, j < 128 → size ≤ 128 * p.1 + (j : Int) → p.2[j]? = some 0 := by
  unfold tailZ
  rw [List.all_eq_true]
  constructor
  · intro h j hj hsj
    have hjl : j < p.2.length := by omega
    have hm : p.2[j] ∈ p.2.drop (size - 128 * p.1).toNat := by
      rw [List.mem_iff_getElem?]
      refine ⟨j - (size - 128 * p.1).toNat, ?_⟩
      rw [List.getElem?_drop, show (size - 128 * p.1).toNat + (j - (size - 128 * p.1).toNat) = j from by omega, List.getElem?_eq_getElem hjl]
    have := h _ hm
    rw [List.getElem?_eq_getElem hjl, of_decide_eq_true this]
  · intro h b hb
    obtain ⟨k, hk⟩ := List.mem_iff_getElem?.1 hb
    rw [List.getElem?_drop] at hk
    have hkl := (List.getElem?_eq_some_iff.1 hk).1
    have := h ((size - 128 * p.1).toNat + k) (by omega) (by omega)
    rw [hk] at this
    injection this with this
    exact decide_eq_true this

theorem okF_iff (size : Int) (L : List Pc) : okF size L = true ↔ OkF size L := by
  unfold okF OkF Std
  rw [Bool.and_eq_true, Bool.and_eq_true, decide_eq_true_eq, decide_eq_true_eq, goodF_iff]
  constructor
  · rintro ⟨⟨h0, h1⟩, ha, hp⟩
    refine ⟨h0, h1, ⟨ha, fun p hq => ⟨by have := (hp p hq).1; omega, (hp p hq).2.2.1⟩⟩, fun p hq => (hp p hq).2.1, fun i hi => ?_⟩
    cases hb : blk L ((i / 128 : Nat) : Int) with
    | none => exact octF_out hb
    | some b =>
      rw [octF_in hb i rfl]
      have hm := blk_some hb
      obtain ⟨q1, q2, q3, q4⟩ := hp _ hm
      have := (tailZ_iff size _ (by omega) h0 q3).1 q4 (i % 128) (Nat.mod_lt _ (by omega)) (by simp only; omega)
      simp only at this
      rw [this]; rfl
  · rintro ⟨h0, h1, ⟨ha, hp⟩, hn, hz⟩
    refine ⟨⟨h0, h1⟩, ha, fun p hq => ⟨by have := (hp p hq).1; omega, hn p hq, (hp p hq).2, ?_⟩⟩
    obtain ⟨q1, q2⟩ := hp p hq
    rw [tailZ_iff size p q1 h0 q2]
    intro j hj hs
    have hm : blk L p.1 = some p.2 := blk_mem ha hq
    have := hz (128 * p.1.toNat + j) (by omega)
    rw [octF_in hm _ (by omega), show (128 * p.1.toNat + j) % 128 = j from by omega, List.getElem?_eq_getElem (by omega)] at this
    rw [List.getElem?_eq_getElem (by omega)]
    simpa using this

/-- Where a block stands, or would stand. -/
def posF (L : List Pc) (n : Int) : Nat := (L.filter fun p => decide (p.1 < n)).length
def putF (L : List Pc) (n : Int) (b : List UInt8) : List Pc := L.filter (fun p => decide (p.1 < n)) ++ [(n, b)] ++ L.filter (fun p => decide (n < p.1))
theorem posF_le (L : List Pc) (n : Int) : posF L n ≤ L.length := List.length_filter_le _ _
theorem asc_split (L : List Pc) (n : Int) (h : Asc L) : L = L.filter (fun p => decide (p.1 < n)) ++ L.filter (fun p => decide (n ≤ p.1)) := by
  induction L with
  | nil => rfl
  | cons p t ih =>
    unfold Asc at h
    rw [List.pairwise_cons] at h
    have e := ih h.2
    by_cases hp : p.1 < n
    · rw [List.filter_cons_of_pos (by simpa using hp), List.filter_cons_of_neg (by simp; omega), List.cons_append, ← e]
    · have h1 : t.filter (fun p => decide (p.1 < n)) = [] := by
        rw [List.filter_eq_nil_iff]
        intro q hq
        have := h.1 q hq
        simp; omega
      rw [List.filter_cons_of_neg (by simpa using hp), h1, List.nil_append, List.filter_cons_of_pos (by simp; omega)]
      rw [h1, List.nil_append] at e
      rw [← e]
theorem asc_get {L : List Pc} (h : Asc L) {i j : Nat} {x y : Pc} (hi : L[i]? = some x) (hj : L[j]? = some y) (hij : i < j) : x.1 < y.1 := by
  obtain ⟨h1, rfl⟩ := List.getElem?_eq_some_iff.1 hi
  obtain ⟨h2, rfl⟩ := List.getElem?_eq_some_iff.1 hj
  exact List.pairwise_iff_getElem.1 h i j h1 h2 hij
theorem pos_iffF (L : List Pc) (n : Int) (h : Asc L) (k : Nat) (x : Pc) (hx : L[k]? = some x) : posF L n ≤ k ↔ n ≤ x.1 := by
  have e := asc_split L n h
  unfold posF
  constructor
  · intro hk
    rw [e, List.getElem?_append_right hk] at hx
    have := List.mem_iff_getElem?.2 ⟨_, hx⟩
    rw [List.mem_filter] at this
    simpa using this.2
  · intro hn
    refine Nat.le_of_not_lt fun hlt => ?_
    rw [e, List.getElem?_append_left hlt] at hx
    have := List.mem_iff_getElem?.2 ⟨_, hx⟩
    rw [List.mem_filter] at this
    have := of_decide_eq_true this.2
    omega
theorem has_at (L : List Pc) (n : Int) (h : Asc L) (x : Pc) (hx : L[posF L n]? = some x) : hasF L n = decide (x.1 = n) ∧ (x.1 = n → blk L n = some x.2) := by
  have hn := (pos_iffF L n h _ x hx).1 (Nat.le_refl _)
  by_cases he : x.1 = n
  · have hb := blk_at h hx
    rw [he] at hb
    exact ⟨by unfold hasF; rw [hb]; simp [he], fun _ => hb⟩
  · refine ⟨?_, fun e => absurd e he⟩
    unfold hasF
    rw [blk_none (n := n), decide_eq_false he]; rfl
    intro p hp e
    obtain ⟨k, hk⟩ := List.mem_iff_getElem?.1 hp
    have h1 := (pos_iffF L n h k p hk).2 (by omega)
    rcases Nat.lt_or_ge (posF L n) k with h2 | h2
    · have := asc_get h hx hk h2; omega
    · have : k = posF L n := by omega
      subst this
      rw [hk] at hx
      cases hx
      exact he e
theorem has_end (L : List Pc) (n : Int) (h : Asc L) (hx : L.length ≤ posF L n) : hasF L n = false := by
  unfold hasF
  rw [blk_none (n := n)]; rfl
  intro p hp e
  obtain ⟨k, hk⟩ := List.mem_iff_getElem?.1 hp
  have h1 := (pos_iffF L n h k p hk).2 (by omega)
  have := get_lt hk
  omega
theorem put_set (L : List Pc) (n : Int) (b : List UInt8) (h : Asc L) (x : Pc) (hx : L[posF L n]? = some x) (he : x.1 = n) : L.set (posF L n) (n, b) = putF L n b := by
  have e := asc_split L n h
  have hd : L.filter (fun p => decide (n ≤ p.1)) = x :: L.filter (fun p => decide (n < p.1)) := by
    have h1 : (L.filter (fun p => decide (n ≤ p.1)))[0]? = some x := by
      obtain ⟨q, hq⟩ : ∃ q, posF L n = q := ⟨_, rfl⟩
      rw [hq, e, List.getElem?_append_right (by unfold posF at hq; omega)] at hx
      rw [show q - (L.filter fun p => decide (p.1 < n)).length = 0 by unfold posF at hq; omega] at hx
      exact hx
    cases hl : L.filter (fun p => decide (n ≤ p.1)) with
    | nil => rw [hl] at h1; simp at h1
    | cons y t =>
      rw [hl] at h1
      simp at h1
      subst h1
      congr 1
      have hp : Asc (y :: t) := by rw [← hl]; exact List.Pairwise.filter _ h
      unfold Asc at hp
      rw [List.pairwise_cons] at hp
      have h3 : L.filter (fun p => decide (n < p.1)) = (L.filter (fun p => decide (n ≤ p.1))).filter (fun p => decide (n < p.1)) := by
        rw [List.filter_filter]
        congr 1
        funext p
        rw [Bool.eq_iff_iff]; simp; omega
      rw [h3, hl, List.filter_cons_of_neg (by simp; omega)]
      symm
      rw [List.filter_eq_self]
      intro q hq
      have := hp.1 q hq
      simp; omega
  unfold putF posF
  conv => lhs; arg 1; rw [e, hd]
  rw [List.set_append_right (h := Nat.le_refl _), Nat.sub_self]
  simp
theorem put_ins (L : List Pc) (n : Int) (b : List UInt8) (h : Asc L) (hn : hasF L n = false) : L.take (posF L n) ++ [(n, b)] ++ L.drop (posF L n) = putF L n b := by
  have e := asc_split L n h
  have h3 : L.filter (fun p => decide (n ≤ p.1)) = L.filter (fun p => decide (n < p.1)) := by
    refine List.filter_congr fun p hp => ?_
    have : p.1 ≠ n := fun hc => by
      have h1 : blk L p.1 = some p.2 := blk_mem h hp
      rw [hc] at h1
      unfold hasF at hn
      rw [h1] at hn
      cases hn
    rw [Bool.eq_iff_iff]; simp; omega
  have h1 : L.take (posF L n) = L.filter (fun p => decide (p.1 < n)) := by
    conv => lhs; arg 2; rw [e]
    unfold posF
    rw [List.take_left']; rfl
  have h2 : L.drop (posF L n) = L.filter (fun p => decide (n ≤ p.1)) := by
    conv => lhs; arg 2; rw [e]
    unfold posF
    rw [List.drop_left']; rfl
  rw [h1, h2, h3]; rfl
theorem put_asc (L : List Pc) (n : Int) (b : List UInt8) (h : Asc L) : Asc (putF L n b) := by
  unfold putF Asc
  rw [List.pairwise_append, List.pairwise_append]
  refine ⟨⟨List.Pairwise.filter _ h, by simp, ?_⟩, List.Pairwise.filter _ h, ?_⟩
  · intro p hp q hq
    rw [List.mem_filter] at hp
    rw [List.mem_singleton.1 hq]
    simpa using hp.2
  · intro p hp q hq
    rw [List.mem_filter] at hq
    have hq2 : n < q.1 := by simpa using hq.2
    rcases List.mem_append.1 hp with hp | hp
    · rw [List.mem_filter] at hp
      have : p.1 < n := by simpa using hp.2
      omega
    · rw [List.mem_singleton.1 hp]; exact hq2
theorem put_mem (L : List Pc) (n : Int) (b : List UInt8) (p : Pc) : p ∈ putF L n b ↔ (p ∈ L ∧ p.1 ≠ n) ∨ p = (n, b) := by
  unfold putF
  simp only [List.mem_append, List.mem_filter, List.mem_singleton, decide_eq_true_eq]
  constructor
  · rintro ((⟨h1, h2⟩ | rfl) | ⟨h1, h2⟩)
    · exact .inl ⟨h1, by omega⟩
    · exact .inr rfl
    · exact .inl ⟨h1, by omega⟩
  · rintro (⟨h1, h2⟩ | rfl)
    · rcases Int.lt_or_gt_of_ne h2 with h | h
      · exact .inl (.inl ⟨h1, h⟩)
      · exact .inr ⟨h1, h⟩
    · exact .inl (.inr rfl)
theorem blk_put (L : List Pc) (n : Int) (b : List UInt8) (h : Asc L) (m : Int) : blk (putF L n b) m = if m = n then some b else blk L m := by
  have ha := put_asc L n b h
  by_cases hm : m = n
  · subst hm
    rw [if_pos rfl]
    exact blk_mem ha ((put_mem _ _ _ _).2 (.inr rfl))
  · rw [if_neg hm]
    cases hb : blk L m with
    | none =>
      refine blk_none fun p hp e => ?_
      rcases (put_mem _ _ _ _).1 hp with ⟨h1, _⟩ | rfl
      · have := blk_mem h (n := p.1) (b := p.2) h1
        rw [e, hb] at this
        cases this
      · exact hm e.symm
    | some c => exact blk_mem ha ((put_mem _ _ _ _).2 (.inl ⟨blk_some hb, hm⟩))
theorem put_std (L : List Pc) (n : Int) (b : List UInt8) (h : Std L) (hn : 0 ≤ n) (hb : b.length = 128) : Std (putF L n b) := by
  refine ⟨put_asc L n b h.1, fun p hp => ?_⟩
  rcases (put_mem _ _ _ _).1 hp with ⟨h1, _⟩ | rfl
  · exact h.2 p h1
  · exact ⟨hn, hb⟩
theorem octF_put (L : List Pc) (n : Nat) (b : List UInt8) (h : Asc L) (i : Nat) : octF (putF L n b) i = if i / 128 = n then (b[i % 128]?).getD 0 else octF L i := by
  unfold octF
  rw [blk_put L n b h]
  by_cases hi : i / 128 = n
  · rw [if_pos (by omega), if_pos hi]
  · rw [if_neg (by omega), if_neg hi]
theorem hasF_put (L : List Pc) (n : Int) (b : List UInt8) (h : Asc L) (m : Int) : hasF (putF L n b) m = (decide (m = n) || hasF L m) := by
  unfold hasF
  rw [blk_put L n b h]
  by_cases hm : m = n
  · rw [if_pos hm]; simp [hm]
  · rw [if_neg hm]; simp [hm]
theorem octB_len (L : List Pc) (n : Int) (h : Std L) : (octB L n).length = 128 := by
  unfold octB
  cases hb : blk L n with
  | none => simp [zer]
  | some b => exact (h.2 _ (blk_some hb)).2
theorem octB_get (L : List Pc) (n j : Nat) (hj : j < 128) : ((octB L n)[j]?).getD 0 = octF L (128 * n + j) := by
  unfold octB octF
  rw [show (128 * n + j) / 128 = n from by omega, show (128 * n + j) % 128 = j from by omega]
  cases blk L n with
  | none =>
    show ((zer 128)[j]?).getD 0 = 0
    unfold zer
    rw [List.getElem?_replicate, if_pos hj]; rfl
  | some b => rfl
theorem octF_std_zero (L : List Pc) (n : Nat) (h : hasF L n = false) (j : Nat) (hj : j < 128) : octF L (128 * n + j) = 0 := by
  unfold octF
  rw [show (128 * n + j) / 128 = n from by omega]
  unfold hasF at h
  cases hb : blk L n with
  | none => rfl
  | some b => rw [hb] at h; cases h

/-- A row made of a function. -/
def tab {α : Type} (n : Nat) (g : Nat → α) : List α := (List.range n).map g
theorem tab_len {α : Type} (n : Nat) (g : Nat → α) : (tab n g).length = n := by simp [tab]
theorem tab_get {α : Type} (n : Nat) (g : Nat → α) (i : Nat) (h : i < n) : (tab n g)[i]? = some (g i) := by simp [tab, h]
theorem tab_ext {α : Type} (n : Nat) (g h : Nat → α) : tab n g = tab n h ↔ ∀ i, i < n → g i = h i := by
  constructor
  · intro e i hi
    have := congrArg (fun l => l[i]?) e
    simp only [tab_get n g i hi, tab_get n h i hi] at this
    injection this
  · intro e
    unfold tab
    exact List.map_congr_left fun i hi => e i (by simpa using hi)
theorem tab_set {α : Type} (n : Nat) (g : Nat → α) (j : Nat) (c : α) : (tab n g).set j c = tab n (fun i => if i = j then c else g i) := by
  apply List.ext_getElem?
  intro i
  rw [List.getElem?_set]
  by_cases hi : i < n
  · rw [tab_get _ _ _ hi, tab_get _ _ _ hi, tab_len]
    by_cases hj : j = i
    · subst hj; rw [if_pos rfl, if_pos hi, if_pos rfl]
    · rw [if_neg hj, if_neg (fun h => hj h.symm)]
  · rw [List.getElem?_eq_none (by rw [tab_len]; omega), List.getElem?_eq_none (by rw [tab_len]; omega), tab_len]
    by_cases hj : j = i
    · rw [if_pos hj, if_neg (by omega)]
    · rw [if_neg hj]
theorem tab_const {α : Type} (n : Nat) (c : α) : tab n (fun _ => c) = List.replicate n c := by
  unfold tab
  rw [List.eq_replicate_iff]
  simp
theorem tab_of {α : Type} (l : List α) (d : α) : l = tab l.length (fun i => (l[i]?).getD d) := by
  apply List.ext_getElem?
  intro i
  by_cases hi : i < l.length
  · rw [tab_get _ _ _ hi, List.getElem?_eq_getElem hi]; rfl
  · rw [List.getElem?_eq_none (by omega), List.getElem?_eq_none (by rw [tab_len]; omega)]
theorem tab_snoc {α : Type} (n : Nat) (g : Nat → α) : tab (n + 1) g = tab n g ++ [g n] := by simp [tab, List.range_succ]
theorem tab_app {α : Type} (n m : Nat) (g : Nat → α) : tab (n + m) g = tab n g ++ tab m (fun i => g (n + i)) := by
  induction m with
  | zero => simp [tab]
  | succ m ih => rw [← Nat.add_assoc, tab_snoc, ih, tab_snoc, List.append_assoc]
theorem tab_drop {α : Type} (n k : Nat) (g : Nat → α) : (tab n g).drop k = tab (n - k) (fun i => g (k + i)) := by
  apply List.ext_getElem?
  intro i
  rw [List.getElem?_drop]
  by_cases hi : k + i < n
  · rw [tab_get _ _ _ hi, tab_get _ _ _ (by omega)]
  · rw [List.getElem?_eq_none (by rw [tab_len]; omega), List.getElem?_eq_none (by rw [tab_len]; omega)]
theorem tab_take {α : Type} (n k : Nat) (g : Nat → α) : (tab n g).take k = tab (min k n) g := by
  apply List.ext_getElem?
  intro i
  rw [List.getElem?_take]
  by_cases hi : i < k
  · rw [if_pos hi]
    by_cases h2 : i < n
    · rw [tab_get _ _ _ h2, tab_get _ _ _ (by omega)]
    · rw [List.getElem?_eq_none (by rw [tab_len]; omega), List.getElem?_eq_none (by rw [tab_len]; omega)]
  · rw [if_neg hi, List.getElem?_eq_none (by rw [tab_len]; omega)]
end Go.Proofs.Ytpofkkoiicdpbaa
