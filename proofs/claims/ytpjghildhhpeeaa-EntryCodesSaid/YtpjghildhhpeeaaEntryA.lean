/-
  Plain laws on entries: rows of names with numbers, in order.
-/
import Derived.Test.YtpjghildhhpeeaaTitleB
namespace Go.Proofs.Ytpjghildhhpeeaa
open Go.RowKit

/-- An entry: its name, its number, its type. -/
abbrev Ent := List UInt8 × Int × Int
def rightE (x : Ent) : Bool := decide (1 ≤ x.2.1) && decide (x.2.1 ≤ 39) && (decide (x.2.2 = 1) || decide (x.2.2 = 2))
def okE (x : Ent) : Bool := isName x.1 && rightE x
/-- Each may be, and each stands ahead of the next. -/
def goodL : List Ent → Bool
  | [] => true
  | x :: t => okE x && (match t with | [] => true | y :: _ => decide (cmpL x.1 y.1 = -1)) && goodL t
def mayL (l : List Ent) : Bool := goodL l && decide (l.length ≤ 30)
def ltE (a b : Ent) : Prop := cmpL a.1 b.1 = -1

theorem cmpL_lt_trans {a b c : List UInt8} (h1 : cmpL a b = -1) (h2 : cmpL b c = -1) : cmpL a c = -1 := by
  have h := cmpL_trans a b c (by omega) (by omega)
  rcases cmpL_range a c with e | e | e
  · exact e
  · have := (cmpL_zero a c).1 e
    subst this
    have := cmpL_neg a b
    omega
  · omega
theorem ltE_trans {a b c : Ent} (h1 : ltE a b) (h2 : ltE b c) : ltE a c := cmpL_lt_trans h1 h2
theorem goodL_cons (x : Ent) (t : List Ent) : goodL (x :: t) = true ↔ okE x = true ∧ (∀ y ∈ t, ltE x y) ∧ goodL t = true := by
  induction t generalizing x with
  | nil => simp [goodL]
  | cons y t ih =>
    show ((okE x && decide (cmpL x.1 y.1 = -1)) && goodL (y :: t)) = true ↔ _
    simp only [Bool.and_eq_true, decide_eq_true_eq]
    constructor
    · rintro ⟨⟨h1, h2⟩, h3⟩
      refine ⟨h1, fun z hz => ?_, h3⟩
      rcases List.mem_cons.1 hz with rfl | hz
      · exact h2
      · exact ltE_trans h2 (((ih y).1 h3).2.1 z hz)
    · rintro ⟨h1, h2, h3⟩
      exact ⟨⟨h1, h2 y (List.mem_cons_self)⟩, h3⟩
/-- In order, each may be. -/
def Good (l : List Ent) : Prop := (∀ x ∈ l, okE x = true) ∧ l.Pairwise ltE
theorem goodL_iff (l : List Ent) : goodL l = true ↔ Good l := by
  induction l with
  | nil => simp [goodL, Good]
  | cons x t ih =>
    rw [goodL_cons, ih]
    unfold Good
    rw [List.pairwise_cons]
    constructor
    · rintro ⟨h1, h2, h3, h4⟩
      refine ⟨fun z hz => ?_, h2, h4⟩
      rcases List.mem_cons.1 hz with rfl | hz
      · exact h1
      · exact h3 z hz
    · rintro ⟨h1, h2, h3⟩
      exact ⟨h1 x List.mem_cons_self, h2, fun z hz => h1 z (List.mem_cons_of_mem _ hz), h3⟩
theorem mayL_iff (l : List Ent) : mayL l = true ↔ Good l ∧ l.length ≤ 30 := by
  unfold mayL; rw [Bool.and_eq_true, goodL_iff, decide_eq_true_eq]

/-- One round of the loop over entries. -/
def okAt (l : List Ent) (k : Nat) (x : Ent) : Bool := okE x && (decide (k = 0) || (match l[k - 1]? with | some p => decide (cmpL p.1 x.1 = -1) | none => true))
theorem goodL_take (l : List Ent) (k : Nat) (x : Ent) (h : l[k]? = some x) : goodL (l.take (k + 1)) = (goodL (l.take k) && okAt l k x) := by
  induction l generalizing k with
  | nil => simp at h
  | cons y t ih =>
    cases k with
    | zero =>
      simp at h
      subst h
      simp [goodL, okAt]
    | succ k =>
      have h' : t[k]? = some x := by simpa using h
      have e := ih k h'
      rw [List.take_succ_cons, List.take_succ_cons]
      cases k with
      | zero =>
        cases t with
        | nil => simp at h'
        | cons z t =>
          simp at h'
          subst h'
          simp [goodL, okAt]
          cases okE y <;> cases okE z <;> simp
      | succ k =>
        cases t with
        | nil => simp at h'
        | cons z t =>
          rw [List.take_succ_cons] at e ⊢
          rw [List.take_succ_cons] at e ⊢
          have e2 : okAt (y :: z :: t) (k + 1 + 1) x = okAt (z :: t) (k + 1) x := by
            unfold okAt
            simp
          rw [e2]
          unfold goodL
          simp only
          rw [e]
          simp only [Bool.and_assoc]
theorem goodL_bad (l : List Ent) (k : Nat) (x : Ent) (h : l[k]? = some x) (hb : okAt l k x = false) : goodL l = false := by
  cases hg : goodL l with
  | false => rfl
  | true =>
    have h1 : goodL (l.take (k + 1)) = true := by
      rw [goodL_iff] at hg ⊢
      exact ⟨fun z hz => hg.1 z (List.mem_of_mem_take hz), hg.2.sublist (List.take_sublist _ _)⟩
    rw [goodL_take l k x h, hb, Bool.and_false] at h1
    cases h1

def zeroE : Ent := ([], 0, 0)
def hasN (l : List Ent) (nm : List UInt8) : Bool := l.any fun x => decide (x.1 = nm)
def getN (l : List Ent) (nm : List UInt8) : Option Ent := l.find? fun x => decide (x.1 = nm)
def findE (l : List Ent) (nm : List UInt8) : Ent × Int :=
  if mayL l = true then (if isName nm = true then (match getN l nm with | some x => (x, 0) | none => (zeroE, 6)) else (zeroE, 11)) else (zeroE, 1)
def loE (l : List Ent) (nm : List UInt8) : List Ent := l.filter fun y => decide (cmpL y.1 nm = -1)
def hiE (l : List Ent) (nm : List UInt8) : List Ent := l.filter fun y => decide (cmpL y.1 nm = 1)
def insE (l : List Ent) (x : Ent) : List Ent := loE l x.1 ++ [x] ++ hiE l x.1
def addE (l : List Ent) (x : Ent) : List Ent × Int :=
  if mayL l = true then (if isName x.1 = true then (if rightE x = true then (if hasN l x.1 = true then ([], 7) else if 30 ≤ l.length then ([], 8) else (insE l x, 0)) else ([], 1)) else ([], 11)) else ([], 1)
def outE (l : List Ent) (nm : List UInt8) : List Ent := l.filter fun x => !decide (x.1 = nm)
def takeE (l : List Ent) (nm : List UInt8) : List Ent × Int := if (findE l nm).2 = 0 then (outE l nm, 0) else ([], (findE l nm).2)
/-- How many stand ahead of a name. -/
def posE (l : List Ent) (nm : List UInt8) : Nat := (loE l nm).length

theorem posE_le (l : List Ent) (nm : List UInt8) : posE l nm ≤ l.length := List.length_filter_le _ _
theorem cmp_cases (a b : List UInt8) : (cmpL a b = -1 ∧ a ≠ b) ∨ (cmpL a b = 0 ∧ a = b) ∨ (cmpL a b = 1 ∧ a ≠ b) := by
  rcases cmpL_range a b with e | e | e
  · exact .inl ⟨e, fun h => by rw [(cmpL_zero a b).2 h] at e; omega⟩
  · exact .inr (.inl ⟨e, (cmpL_zero a b).1 e⟩)
  · exact .inr (.inr ⟨e, fun h => by rw [(cmpL_zero a b).2 h] at e; omega⟩)
theorem le_lt {a b c : List UInt8} (h1 : cmpL a b ≤ 0) (h2 : cmpL b c = -1) : cmpL a c = -1 := by
  rcases cmp_cases a b with ⟨e, _⟩ | ⟨_, rfl⟩ | ⟨e, _⟩
  · exact cmpL_lt_trans e h2
  · exact h2
  · omega
/-- In order: those ahead of a name, those not ahead of it. -/
theorem split_pos (l : List Ent) (nm : List UInt8) (h : l.Pairwise ltE) : l = loE l nm ++ l.filter (fun y => !decide (cmpL y.1 nm = -1)) := by
  induction l with
  | nil => simp [loE]
  | cons x t ih =>
    rw [List.pairwise_cons] at h
    have e := ih h.2
    unfold loE at e ⊢
    rw [List.filter_cons, List.filter_cons]
    by_cases hx : cmpL x.1 nm = -1
    · rw [if_pos (by simp [hx]), if_neg (by simp [hx]), List.cons_append, ← e]
    · have hn : t.filter (fun y => decide (cmpL y.1 nm = -1)) = [] := by
        rw [List.filter_eq_nil_iff]
        intro y hy
        have := h.1 y hy
        simp only [decide_eq_true_eq]
        intro hc
        exact hx (cmpL_lt_trans this hc)
      rw [if_neg (by simp [hx]), if_pos (by simp [hx]), hn, List.nil_append]
      rw [hn, List.nil_append] at e
      rw [← e]
theorem take_pos (l : List Ent) (nm : List UInt8) (h : l.Pairwise ltE) : l.take (posE l nm) = loE l nm := by
  have e := split_pos l nm h
  have e2 : (loE l nm ++ l.filter (fun y => !decide (cmpL y.1 nm = -1))).take (loE l nm).length = loE l nm := List.take_left
  rw [← e] at e2
  exact e2
theorem drop_pos (l : List Ent) (nm : List UInt8) (h : l.Pairwise ltE) : l.drop (posE l nm) = l.filter (fun y => !decide (cmpL y.1 nm = -1)) := by
  have e := split_pos l nm h
  have e2 : (loE l nm ++ l.filter (fun y => !decide (cmpL y.1 nm = -1))).drop (loE l nm).length = l.filter (fun y => !decide (cmpL y.1 nm = -1)) := List.drop_left
  rw [← e] at e2
  exact e2
theorem pos_iff (l : List Ent) (nm : List UInt8) (h : l.Pairwise ltE) (k : Nat) (x : Ent) (hk : l[k]? = some x) : (posE l nm ≤ k ↔ cmpL x.1 nm ≠ -1) := by
  constructor
  · intro hp
    have hm : x ∈ l.drop (posE l nm) := by
      refine List.mem_iff_getElem?.2 ⟨k - posE l nm, ?_⟩
      rw [List.getElem?_drop, show posE l nm + (k - posE l nm) = k from by omega]; exact hk
    rw [drop_pos l nm h] at hm
    have := (List.mem_filter.1 hm).2
    simpa using this
  · intro hc
    refine Nat.le_of_not_lt fun hlt => hc ?_
    have hm : x ∈ l.take (posE l nm) := by
      refine List.mem_iff_getElem?.2 ⟨k, ?_⟩
      rw [List.getElem?_take, if_pos hlt]; exact hk
    rw [take_pos l nm h] at hm
    have := (List.mem_filter.1 hm).2
    simpa using this
theorem pair_getElem (l : List Ent) (h : l.Pairwise ltE) (i j : Nat) (x y : Ent) (hi : l[i]? = some x) (hj : l[j]? = some y) (hij : i < j) : ltE x y := by
  have hl := (List.getElem?_eq_some_iff.1 hi)
  have hl' := (List.getElem?_eq_some_iff.1 hj)
  obtain ⟨a, ha⟩ := hl
  obtain ⟨b, hb⟩ := hl'
  have := List.pairwise_iff_getElem.1 h i j a b hij
  rw [ha, hb] at this
  exact this
/-- The name stands at its place, if it is there. -/
theorem has_pos (l : List Ent) (nm : List UInt8) (h : l.Pairwise ltE) : hasN l nm = (match l[posE l nm]? with | some x => decide (x.1 = nm) | none => false) := by
  rw [Bool.eq_iff_iff]
  constructor
  · intro hh
    obtain ⟨x, hx, hxn⟩ := List.any_eq_true.1 hh
    have hxn : x.1 = nm := by simpa using hxn
    obtain ⟨k, hk⟩ := List.mem_iff_getElem?.1 hx
    have hp : posE l nm ≤ k := (pos_iff l nm h k x hk).2 (by rw [hxn, (cmpL_zero nm nm).2 rfl]; decide)
    have hpl : posE l nm < l.length := by have := (List.getElem?_eq_some_iff.1 hk).1; omega
    obtain ⟨y, hy⟩ : ∃ y, l[posE l nm]? = some y := ⟨_, List.getElem?_eq_getElem hpl⟩
    rw [hy]
    simp only [decide_eq_true_eq]
    rcases Nat.lt_or_ge (posE l nm) k with hlt | hge
    · have h1 := pair_getElem l h _ k y x hy hk hlt
      have h2 := (pos_iff l nm h _ y hy).1 (Nat.le_refl _)
      unfold ltE at h1
      rw [hxn] at h1
      exact absurd h1 h2
    · have : posE l nm = k := by omega
      rw [this, hk] at hy
      cases hy
      exact hxn
  · intro hh
    cases hy : l[posE l nm]? with
    | none => rw [hy] at hh; cases hh
    | some y =>
      rw [hy] at hh
      exact List.any_eq_true.2 ⟨y, List.mem_iff_getElem?.2 ⟨_, hy⟩, hh⟩
theorem get_pos (l : List Ent) (nm : List UInt8) (h : l.Pairwise ltE) : getN l nm = (match l[posE l nm]? with | some x => if x.1 = nm then some x else none | none => none) := by
  unfold getN
  cases hf : l.find? (fun x => decide (x.1 = nm)) with
  | none =>
    have hn : hasN l nm = false := by
      unfold hasN
      rw [List.any_eq_false]
      intro x hx
      exact List.find?_eq_none.1 hf x hx
    rw [has_pos l nm h] at hn
    cases hy : l[posE l nm]? with
    | none => rfl
    | some y =>
      rw [hy] at hn
      simp only [decide_eq_false_iff_not] at hn
      simp [hn]
  | some x =>
    have hxn : x.1 = nm := by simpa using List.find?_some hf
    have hxm := List.mem_of_find?_eq_some hf
    obtain ⟨k, hk⟩ := List.mem_iff_getElem?.1 hxm
    have hn : hasN l nm = true := List.any_eq_true.2 ⟨x, hxm, by simp [hxn]⟩
    rw [has_pos l nm h] at hn
    cases hy : l[posE l nm]? with
    | none => rw [hy] at hn; cases hn
    | some y =>
      rw [hy] at hn
      simp only [decide_eq_true_eq] at hn
      simp only [hn, if_true]
      rcases Nat.lt_trichotomy (posE l nm) k with hlt | heq | hgt
      · have h1 := pair_getElem l h _ k y x hy hk hlt
        unfold ltE at h1
        rw [hn, hxn, (cmpL_zero nm nm).2 rfl] at h1
        cases h1
      · rw [heq, hk] at hy; exact hy
      · have h1 := pair_getElem l h k _ x y hk hy hgt
        unfold ltE at h1
        rw [hn, hxn, (cmpL_zero nm nm).2 rfl] at h1
        cases h1
theorem hi_no (l : List Ent) (nm : List UInt8) (hn : hasN l nm = false) : l.filter (fun y => !decide (cmpL y.1 nm = -1)) = hiE l nm := by
  unfold hiE
  refine List.filter_congr fun y hy => ?_
  have hne : y.1 ≠ nm := by
    intro he
    unfold hasN at hn
    rw [List.any_eq_false] at hn
    exact hn y hy (by simp [he])
  rcases cmp_cases y.1 nm with ⟨e, _⟩ | ⟨_, e⟩ | ⟨e, _⟩
  · simp [e]
  · exact absurd e hne
  · simp [e]
/-- What is added stands at its place. -/
theorem ins_pos (l : List Ent) (x : Ent) (h : l.Pairwise ltE) (hn : hasN l x.1 = false) : l.take (posE l x.1) ++ [x] ++ l.drop (posE l x.1) = insE l x := by
  rw [take_pos l x.1 h, drop_pos l x.1 h, hi_no l x.1 hn]; rfl
theorem split_no (l : List Ent) (nm : List UInt8) (h : l.Pairwise ltE) (hn : hasN l nm = false) : loE l nm ++ hiE l nm = l := by
  rw [← hi_no l nm hn]; exact (split_pos l nm h).symm
theorem ins_len (l : List Ent) (x : Ent) (h : l.Pairwise ltE) (hn : hasN l x.1 = false) : (insE l x).length = l.length + 1 := by
  have := congrArg List.length (split_no l x.1 h hn)
  unfold insE
  simp only [List.length_append, List.length_cons, List.length_nil] at this ⊢
  omega
theorem mem_ins (l : List Ent) (x : Ent) (h : l.Pairwise ltE) (hn : hasN l x.1 = false) (y : Ent) : y ∈ insE l x ↔ y = x ∨ y ∈ l := by
  have e := split_no l x.1 h hn
  unfold insE
  simp only [List.mem_append, List.mem_singleton]
  rw [show (y ∈ l) = (y ∈ loE l x.1 ++ hiE l x.1) from by rw [e], List.mem_append]
  constructor
  · rintro ((h | h) | h)
    · exact .inr (.inl h)
    · exact .inl h
    · exact .inr (.inr h)
  · rintro (h | h | h)
    · exact .inl (.inr h)
    · exact .inl (.inl h)
    · exact .inr h
theorem ins_good (l : List Ent) (x : Ent) (h : Good l) (hn : hasN l x.1 = false) (hx : okE x = true) : Good (insE l x) := by
  refine ⟨fun y hy => ?_, ?_⟩
  · rcases (mem_ins l x h.2 hn y).1 hy with rfl | hy
    · exact hx
    · exact h.1 y hy
  · unfold insE
    have hlo : ∀ y ∈ loE l x.1, ltE y x := fun y hy => by
      have := (List.mem_filter.1 hy).2
      simpa [ltE] using this
    have hhi : ∀ y ∈ hiE l x.1, ltE x y := fun y hy => by
      have h1 : cmpL y.1 x.1 = 1 := by have := (List.mem_filter.1 hy).2; simpa using this
      unfold ltE
      have := cmpL_neg x.1 y.1
      omega
    rw [List.pairwise_append, List.pairwise_append]
    refine ⟨⟨h.2.sublist List.filter_sublist, by simp, fun a ha b hb => ?_⟩, h.2.sublist List.filter_sublist, fun a ha b hb => ?_⟩
    · rw [List.mem_singleton.1 hb]; exact hlo a ha
    · rcases List.mem_append.1 ha with ha | ha
      · exact ltE_trans (hlo a ha) (hhi b hb)
      · rw [List.mem_singleton.1 ha]; exact hhi b hb
theorem has_mem (l : List Ent) (nm : List UInt8) : hasN l nm = true ↔ ∃ x ∈ l, x.1 = nm := by
  unfold hasN; rw [List.any_eq_true]; simp
theorem out_ins (l : List Ent) (x : Ent) (h : l.Pairwise ltE) (hn : hasN l x.1 = false) : outE (insE l x) x.1 = l := by
  have hkeep : ∀ m : List Ent, (∀ y ∈ m, y ∈ l) → m.filter (fun y => !decide (y.1 = x.1)) = m := by
    intro m hm
    rw [List.filter_eq_self]
    intro y hy
    have : ¬ y.1 = x.1 := fun e => by
      have := (has_mem l x.1).2 ⟨y, hm y hy, e⟩
      rw [hn] at this; cases this
    simp [this]
  unfold outE insE
  rw [List.filter_append, List.filter_append, hkeep (loE l x.1) (fun y hy => (List.mem_filter.1 hy).1), hkeep (hiE l x.1) (fun y hy => (List.mem_filter.1 hy).1)]
  simp
  exact split_no l x.1 h hn
theorem out_good (l : List Ent) (nm : List UInt8) (h : Good l) : Good (outE l nm) :=
  ⟨fun y hy => h.1 y (List.mem_filter.1 hy).1, h.2.sublist List.filter_sublist⟩
theorem out_has (l : List Ent) (nm : List UInt8) : hasN (outE l nm) nm = false := by
  cases hh : hasN (outE l nm) nm with
  | false => rfl
  | true =>
    obtain ⟨x, hx, e⟩ := (has_mem _ _).1 hh
    have := (List.mem_filter.1 hx).2
    simp [e] at this
theorem getN_has (l : List Ent) (nm : List UInt8) : (getN l nm).isSome = hasN l nm := by
  unfold getN hasN
  rw [Bool.eq_iff_iff, List.find?_isSome, List.any_eq_true]
/-- One name stands there once. -/
theorem getN_mem (l : List Ent) (h : l.Pairwise ltE) (x : Ent) (hx : x ∈ l) : getN l x.1 = some x := by
  cases hf : getN l x.1 with
  | none =>
    have := getN_has l x.1
    rw [hf] at this
    have h2 := (has_mem l x.1).2 ⟨x, hx, rfl⟩
    rw [h2] at this; cases this
  | some y =>
    have hyn : y.1 = x.1 := by simpa using List.find?_some hf
    have hym := List.mem_of_find?_eq_some hf
    obtain ⟨i, hi⟩ := List.mem_iff_getElem?.1 hx
    obtain ⟨j, hj⟩ := List.mem_iff_getElem?.1 hym
    rcases Nat.lt_trichotomy i j with hlt | heq | hgt
    · have h1 := pair_getElem l h i j x y hi hj hlt
      unfold ltE at h1
      rw [hyn, (cmpL_zero x.1 x.1).2 rfl] at h1; cases h1
    · rw [heq, hj] at hi; cases hi; rfl
    · have h1 := pair_getElem l h j i y x hj hi hgt
      unfold ltE at h1
      rw [hyn, (cmpL_zero x.1 x.1).2 rfl] at h1; cases h1
theorem out_len (l : List Ent) (nm : List UInt8) (h : l.Pairwise ltE) (hn : hasN l nm = true) : (outE l nm).length + 1 = l.length := by
  induction l with
  | nil => simp [hasN] at hn
  | cons x t ih =>
    rw [List.pairwise_cons] at h
    unfold outE at ih ⊢
    by_cases hx : x.1 = nm
    · have hk : t.filter (fun y => !decide (y.1 = nm)) = t := by
        rw [List.filter_eq_self]
        intro y hy
        have h1 := h.1 y hy
        unfold ltE at h1
        have : ¬ y.1 = nm := fun e => by
          rw [hx, e, (cmpL_zero nm nm).2 rfl] at h1; cases h1
        simp [this]
      rw [List.filter_cons, if_neg (by simp [hx]), hk]; simp
    · have hn' : hasN t nm = true := by
        unfold hasN at hn ⊢
        rw [List.any_cons] at hn
        simpa [hx] using hn
      have := ih h.2 hn'
      rw [List.filter_cons, if_pos (by simp [hx])]
      simp only [List.length_cons]
      omega
/-- In order there is one list of each set. -/
theorem good_unique : ∀ (a b : List Ent), a.Pairwise ltE → b.Pairwise ltE → (∀ x, x ∈ a ↔ x ∈ b) → a = b
  | [], b, _, _, h => by
    cases b with
    | nil => rfl
    | cons y t => exact absurd ((h y).2 List.mem_cons_self) (by simp)
  | x :: t, [], _, _, h => absurd ((h x).1 List.mem_cons_self) (by simp)
  | x :: t, y :: u, ha, hb, h => by
    rw [List.pairwise_cons] at ha hb
    have irr : ∀ z : Ent, ¬ ltE z z := fun z hz => by unfold ltE at hz; rw [(cmpL_zero z.1 z.1).2 rfl] at hz; cases hz
    have hxy : x = y := by
      rcases List.mem_cons.1 ((h x).1 List.mem_cons_self) with e | hx
      · exact e
      · rcases List.mem_cons.1 ((h y).2 List.mem_cons_self) with e | hy
        · exact e.symm
        · exact absurd (ltE_trans (ha.1 y hy) (hb.1 x hx)) (irr x)
    subst hxy
    refine congrArg (x :: ·) (good_unique t u ha.2 hb.2 fun z => ?_)
    constructor
    · intro hz
      rcases List.mem_cons.1 ((h z).1 (List.mem_cons_of_mem _ hz)) with e | hz'
      · subst e; exact absurd (ha.1 z hz) (irr z)
      · exact hz'
    · intro hz
      rcases List.mem_cons.1 ((h z).2 (List.mem_cons_of_mem _ hz)) with e | hz'
      · subst e; exact absurd (hb.1 z hz) (irr z)
      · exact hz'
end Go.Proofs.Ytpjghildhhpeeaa
