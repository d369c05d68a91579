/-
  Plain laws on entries: what was added comes back; in whatever order; their octets.
-/
import Derived.Test.YtpjghildhhpeeaaEntryA
namespace Go.Proofs.Ytpjghildhhpeeaa
open Go.RowKit

theorem addE_ok (l : List Ent) (x : Ent) (h : (addE l x).2 = 0) : Good l ∧ l.length < 30 ∧ okE x = true ∧ hasN l x.1 = false ∧ (addE l x).1 = insE l x := by
  unfold addE at h ⊢
  split at h
  · rename_i h1
    rw [mayL_iff] at h1
    split at h
    · rename_i h2
      split at h
      · rename_i h3
        split at h
        · cases h
        · rename_i h4
          split at h
          · cases h
          · rename_i h5
            rw [if_pos ((mayL_iff l).2 h1), if_pos h2, if_pos h3, if_neg h4, if_neg h5]
            exact ⟨h1.1, by omega, by unfold okE; rw [h2, h3]; rfl, by simpa using h4, rfl⟩
      · cases h
    · cases h
  · cases h
theorem addE_yes (l : List Ent) (x : Ent) (h1 : Good l) (h2 : l.length < 30) (h3 : okE x = true) (h4 : hasN l x.1 = false) : addE l x = (insE l x, 0) := by
  unfold okE at h3
  rw [Bool.and_eq_true] at h3
  unfold addE
  rw [if_pos ((mayL_iff l).2 ⟨h1, by omega⟩), if_pos h3.1, if_pos h3.2, if_neg (by rw [h4]; simp), if_neg (by omega)]
theorem findE_get (l : List Ent) (x : Ent) (h1 : mayL l = true) (hx : x ∈ l) : findE l x.1 = (x, 0) := by
  have hg := (mayL_iff l).1 h1
  have ho := hg.1.1 x hx
  unfold okE at ho
  rw [Bool.and_eq_true] at ho
  unfold findE
  rw [if_pos h1, if_pos ho.1, getN_mem l hg.1.2 x hx]
/-- What was added comes back. -/
theorem add_back (l : List Ent) (x : Ent) (h : (addE l x).2 = 0) : mayL (addE l x).1 = true ∧ (addE l x).1.length = l.length + 1 ∧ findE (addE l x).1 x.1 = (x, 0) ∧ takeE (addE l x).1 x.1 = (l, 0) ∧ (∀ y ∈ l, findE (addE l x).1 y.1 = (y, 0)) := by
  obtain ⟨h1, h2, h3, h4, h5⟩ := addE_ok l x h
  rw [h5]
  have hl := ins_len l x h1.2 h4
  have hm : mayL (insE l x) = true := (mayL_iff _).2 ⟨ins_good l x h1 h4 h3, by omega⟩
  have hf : findE (insE l x) x.1 = (x, 0) := findE_get _ x hm ((mem_ins l x h1.2 h4 x).2 (.inl rfl))
  refine ⟨hm, hl, hf, ?_, fun y hy => findE_get _ y hm ((mem_ins l x h1.2 h4 y).2 (.inr hy))⟩
  unfold takeE
  rw [hf]
  simp only [if_true]
  rw [out_ins l x h1.2 h4]
/-- What is taken away is not found. -/
theorem take_back (l : List Ent) (nm : List UInt8) (h : (takeE l nm).2 = 0) : mayL (takeE l nm).1 = true ∧ (takeE l nm).1.length + 1 = l.length ∧ (findE (takeE l nm).1 nm).2 = 6 := by
  unfold takeE at h ⊢
  by_cases h0 : (findE l nm).2 = 0
  · rw [if_pos h0]
    unfold findE at h0
    split at h0
    · rename_i h1
      have hg := (mayL_iff l).1 h1
      split at h0
      · rename_i h2
        cases hgn : getN l nm with
        | none => rw [hgn] at h0; cases h0
        | some x =>
          have hn : hasN l nm = true := by rw [← getN_has, hgn]; rfl
          have hlen := out_len l nm hg.1.2 hn
          have hm : mayL (outE l nm) = true := (mayL_iff _).2 ⟨out_good l nm hg.1, by omega⟩
          refine ⟨hm, hlen, ?_⟩
          show (findE (outE l nm) nm).2 = 6
          have hnone : getN (outE l nm) nm = none := by
            have := getN_has (outE l nm) nm
            rw [out_has] at this
            simpa using this
          unfold findE
          rw [if_pos hm, if_pos h2, hnone]
      · cases h0
    · cases h0
  · rw [if_neg h0] at h
    exact absurd h h0

/-- All that go in, one behind the other. -/
def allE (l : List Ent) : List Ent := l.foldl (fun a x => if (addE a x).2 = 0 then (addE a x).1 else a) []
theorem allE_snoc (l : List Ent) (k : Nat) (x : Ent) (h : l[k]? = some x) : allE (l.take (k + 1)) = if (addE (allE (l.take k)) x).2 = 0 then (addE (allE (l.take k)) x).1 else allE (l.take k) := by
  unfold allE
  rw [List.take_add_one, h, List.foldl_append]
  rfl
theorem allE_good (l : List Ent) : ∀ k, Good (allE (l.take k)) ∧ (allE (l.take k)).length ≤ 30 ∧ (allE (l.take k)).length ≤ k
  | 0 => by simp [allE, Good]
  | k + 1 => by
    have ih := allE_good l k
    cases hx : l[k]? with
    | none =>
      rw [List.take_add_one, hx]
      simp only [Option.toList_none, List.append_nil]
      exact ⟨ih.1, ih.2.1, by omega⟩
    | some x =>
      rw [allE_snoc l k x hx]
      split
      · rename_i h
        obtain ⟨h1, h2, h3, h4, h5⟩ := addE_ok _ x h
        rw [h5]
        have hl := ins_len _ x h1.2 h4
        exact ⟨ins_good _ x h1 h4 h3, by omega, by omega⟩
      · exact ⟨ih.1, ih.2.1, by omega⟩
/-- The place of the i-th, from some one on, round. -/
theorem rot_lt (n t i : Nat) (hn : 0 < n) : (i + t) % n < n := Nat.mod_lt _ hn
theorem rot_inj (n t i j : Nat) (hi : i < n) (hj : j < n) (h : (i + t) % n = (j + t) % n) : i = j := by
  have h1 : (i + t % n) % n = (j + t % n) % n := by simpa [Nat.add_mod] using h
  have ht : t % n < n := Nat.mod_lt _ (by omega)
  generalize t % n = u at h1 ht
  rcases Nat.lt_or_ge (i + u) n with a | a <;> rcases Nat.lt_or_ge (j + u) n with b | b
  · rw [Nat.mod_eq_of_lt a, Nat.mod_eq_of_lt b] at h1; omega
  · rw [Nat.mod_eq_of_lt a, Nat.mod_eq_sub_mod b, Nat.mod_eq_of_lt (show j + u - n < n by omega)] at h1; omega
  · rw [Nat.mod_eq_of_lt b, Nat.mod_eq_sub_mod a, Nat.mod_eq_of_lt (show i + u - n < n by omega)] at h1; omega
  · rw [Nat.mod_eq_sub_mod a, Nat.mod_eq_sub_mod b, Nat.mod_eq_of_lt (show i + u - n < n by omega), Nat.mod_eq_of_lt (show j + u - n < n by omega)] at h1; omega
theorem rot_all (n t k : Nat) (hk : k < n) : ∃ i, i < n ∧ (i + t) % n = k := by
  have ht : t % n < n := Nat.mod_lt _ (by omega)
  by_cases h : t % n ≤ k
  · refine ⟨k - t % n, by omega, ?_⟩
    rw [Nat.add_mod, Nat.mod_eq_of_lt (show k - t % n < n by omega), show k - t % n + t % n = k by omega]
    exact Nat.mod_eq_of_lt hk
  · refine ⟨k + n - t % n, by omega, ?_⟩
    rw [Nat.add_mod, Nat.mod_eq_of_lt (show k + n - t % n < n by omega), show k + n - t % n + t % n = k + n by omega]
    rw [Nat.add_mod_right]
    exact Nat.mod_eq_of_lt hk
/-- b has what the first i of them are. -/
def Rot (a : List Ent) (t i : Nat) (b : List Ent) : Prop := Good b ∧ b.length = i ∧ ∀ x, x ∈ b ↔ ∃ j, j < i ∧ a[(j + t) % a.length]? = some x
theorem rot_zero (a : List Ent) (t : Nat) : Rot a t 0 [] := ⟨by simp [Good], rfl, fun x => by simp⟩
theorem rot_step (a : List Ent) (t i : Nat) (b : List Ent) (x : Ent) (ha : Good a) (h30 : a.length ≤ 30) (hr : Rot a t i b) (hi : i < a.length) (hx : a[(i + t) % a.length]? = some x) :
    addE b x = (insE b x, 0) ∧ Rot a t (i + 1) (insE b x) := by
  obtain ⟨h1, h2, h3⟩ := hr
  have hxm : x ∈ a := List.mem_iff_getElem?.2 ⟨_, hx⟩
  have hno : hasN b x.1 = false := by
    cases hh : hasN b x.1 with
    | false => rfl
    | true =>
      obtain ⟨y, hy, hyn⟩ := (has_mem b x.1).1 hh
      obtain ⟨j, hj, hyj⟩ := (h3 y).1 hy
      have hym : y ∈ a := List.mem_iff_getElem?.2 ⟨_, hyj⟩
      have g1 := getN_mem a ha.2 x hxm
      have g2 := getN_mem a ha.2 y hym
      rw [hyn, g1] at g2
      cases g2
      rcases Nat.lt_trichotomy ((i + t) % a.length) ((j + t) % a.length) with hlt | heq | hgt
      · have := pair_getElem a ha.2 _ _ x x hx hyj hlt
        unfold ltE at this; rw [(cmpL_zero x.1 x.1).2 rfl] at this; cases this
      · have := rot_inj _ _ _ _ hi (by omega) heq
        omega
      · have := pair_getElem a ha.2 _ _ x x hyj hx hgt
        unfold ltE at this; rw [(cmpL_zero x.1 x.1).2 rfl] at this; cases this
  have hok := ha.1 x hxm
  refine ⟨addE_yes b x h1 (by omega) hok hno, ins_good b x h1 hno hok, by rw [ins_len b x h1.2 hno, h2], fun y => ?_⟩
  rw [mem_ins b x h1.2 hno y, h3 y]
  constructor
  · rintro (rfl | ⟨j, hj, hy⟩)
    · exact ⟨i, by omega, hx⟩
    · exact ⟨j, by omega, hy⟩
  · rintro ⟨j, hj, hy⟩
    rcases Nat.lt_or_ge j i with hlt | hge
    · exact .inr ⟨j, hlt, hy⟩
    · have : j = i := by omega
      subst this
      rw [hx] at hy
      cases hy
      exact .inl rfl
theorem rot_done (a : List Ent) (t : Nat) (b : List Ent) (ha : Good a) (hr : Rot a t a.length b) : b = a := by
  obtain ⟨h1, h2, h3⟩ := hr
  refine good_unique b a h1.2 ha.2 fun x => ?_
  rw [h3 x]
  constructor
  · rintro ⟨j, _, hy⟩
    exact List.mem_iff_getElem?.2 ⟨_, hy⟩
  · intro hx
    obtain ⟨k, hk⟩ := List.mem_iff_getElem?.1 hx
    obtain ⟨i, hi, e⟩ := rot_all a.length t k (List.getElem?_eq_some_iff.1 hk).1
    exact ⟨i, hi, by rw [e]; exact hk⟩

/-- Octets. -/
def encB (x : Ent) : List UInt8 := UInt8.ofNat x.2.1.toNat :: UInt8.ofNat x.2.2.toNat :: UInt8.ofNat x.1.length :: x.1
def encE (l : List Ent) : List UInt8 := l.flatMap encB
theorem encE_snoc (l : List Ent) (x : Ent) : encE (l ++ [x]) = encE l ++ encB x := by simp [encE]
def codeE (l : List Ent) : List UInt8 × Int := if mayL l = true then (encE l, 0) else ([], 1)
def headE (s : List UInt8) : Ent := ((s.drop 3).take (bt s 2), (bt s 0 : Int), (bt s 1 : Int))
def parseF : Nat → List UInt8 → Option (List Ent)
  | 0, s => if s = [] then some [] else none
  | f + 1, s => if s = [] then some [] else if s.length < 3 + bt s 2 then none else (parseF f (s.drop (3 + bt s 2))).map (headE s :: ·)
def parseE (s : List UInt8) : Option (List Ent) := parseF s.length s
def readE (s : List UInt8) : Option (List Ent) := match parseE s with | some l => if mayL l = true then some l else none | none => none
theorem parseF_any : ∀ (f g : Nat) (s : List UInt8), s.length ≤ f → s.length ≤ g → parseF f s = parseF g s
  | 0, g, s, h, _ => by
    have : s = [] := List.eq_nil_of_length_eq_zero (by omega)
    subst this
    cases g <;> simp [parseF]
  | f + 1, 0, s, _, h => by
    have : s = [] := List.eq_nil_of_length_eq_zero (by omega)
    subst this
    simp [parseF]
  | f + 1, g + 1, s, h1, h2 => by
    unfold parseF
    by_cases h0 : s = []
    · rw [if_pos h0, if_pos h0]
    · rw [if_neg h0, if_neg h0]
      have : 0 < s.length := List.length_pos_iff.2 h0
      rw [parseF_any f g (s.drop (3 + bt s 2)) (by rw [List.length_drop]; omega) (by rw [List.length_drop]; omega)]
theorem parseE_nil : parseE [] = some [] := rfl
theorem parseE_step (s : List UInt8) (h : s ≠ []) : parseE s = if s.length < 3 + bt s 2 then none else (parseE (s.drop (3 + bt s 2))).map (headE s :: ·) := by
  have hl : 0 < s.length := List.length_pos_iff.2 h
  unfold parseE
  obtain ⟨n, hn⟩ : ∃ n, s.length = n + 1 := ⟨s.length - 1, by omega⟩
  rw [hn]
  conv => lhs; unfold parseF
  rw [if_neg h, hn]
  rw [parseF_any n (s.drop (3 + bt s 2)).length _ (by rw [List.length_drop]; omega) (Nat.le_refl _)]
theorem short_none (s : List UInt8) (h : s ≠ []) (h3 : s.length < 3) : parseE s = none := by
  rw [parseE_step s h, if_pos (by omega)]
/-- What is read of some octets is those octets. -/
theorem enc_parse : ∀ (n : Nat) (s : List UInt8) (l : List Ent), s.length ≤ n → parseE s = some l → encE l = s
  | 0, s, l, h, hp => by
    have : s = [] := List.eq_nil_of_length_eq_zero (by omega)
    subst this
    rw [parseE_nil] at hp; cases hp; rfl
  | n + 1, s, l, h, hp => by
    by_cases h0 : s = []
    · subst h0; rw [parseE_nil] at hp; cases hp; rfl
    · rw [parseE_step s h0] at hp
      split at hp
      · cases hp
      · rename_i hl
        cases ht : parseE (s.drop (3 + bt s 2)) with
        | none => rw [ht] at hp; cases hp
        | some t =>
          rw [ht] at hp
          simp only [Option.map_some, Option.some.injEq] at hp
          subst hp
          have ih := enc_parse n (s.drop (3 + bt s 2)) t (by rw [List.length_drop]; omega) ht
          unfold encE at ih ⊢
          rw [List.flatMap_cons, ih]
          match s, h0, hl with
          | [_], _, hl => exact absurd hl (by simp; omega)
          | [_, _], _, hl => exact absurd hl (by simp; omega)
          | a :: b :: c :: r, _, hl =>
            have e2 : bt (a :: b :: c :: r) 2 = c.toNat := rfl
            rw [e2] at hl ⊢
            simp only [List.length_cons] at hl
            unfold encB headE
            rw [e2]
            have e0 : bt (a :: b :: c :: r) 0 = a.toNat := rfl
            have e1 : bt (a :: b :: c :: r) 1 = b.toNat := rfl
            rw [e0, e1]
            have hd : List.drop (3 + c.toNat) (a :: b :: c :: r) = r.drop c.toNat := by rw [show 3 + c.toNat = c.toNat + 1 + 1 + 1 by omega]; rfl
            rw [hd]
            simp only [List.drop_succ_cons, List.drop_zero, Int.toNat_natCast, UInt8.ofNat_toNat, List.length_take]
            rw [show min c.toNat r.length = c.toNat by omega, UInt8.ofNat_toNat]
            simp
theorem u8_nat (n : Nat) (h : n < 256) : (UInt8.ofNat n).toNat = n := by simp [Nat.mod_eq_of_lt h]
theorem okE_bounds (x : Ent) (h : okE x = true) : 1 ≤ x.1.length ∧ x.1.length ≤ 24 ∧ 1 ≤ x.2.1 ∧ x.2.1 ≤ 39 ∧ (x.2.2 = 1 ∨ x.2.2 = 2) := by
  unfold okE rightE at h
  simp only [Bool.and_eq_true, Bool.or_eq_true, decide_eq_true_eq] at h
  have := (isName_iff x.1).1 h.1
  exact ⟨this.1, this.2.1, h.2.1.1, h.2.1.2, h.2.2⟩
theorem parse_enc : ∀ (l : List Ent), (∀ x ∈ l, okE x = true) → parseE (encE l) = some l
  | [], _ => rfl
  | x :: t, h => by
    have ih := parse_enc t (fun y hy => h y (List.mem_cons_of_mem _ hy))
    obtain ⟨h1, h2, h3, h4, h5⟩ := okE_bounds x (h x List.mem_cons_self)
    have e : encE (x :: t) = UInt8.ofNat x.2.1.toNat :: UInt8.ofNat x.2.2.toNat :: UInt8.ofNat x.1.length :: (x.1 ++ encE t) := by
      unfold encE; rw [List.flatMap_cons]; rfl
    rw [e, parseE_step _ (by simp)]
    have e2 : bt (UInt8.ofNat x.2.1.toNat :: UInt8.ofNat x.2.2.toNat :: UInt8.ofNat x.1.length :: (x.1 ++ encE t)) 2 = x.1.length := u8_nat _ (by omega)
    have e0 : bt (UInt8.ofNat x.2.1.toNat :: UInt8.ofNat x.2.2.toNat :: UInt8.ofNat x.1.length :: (x.1 ++ encE t)) 0 = x.2.1.toNat := u8_nat _ (by omega)
    have e1 : bt (UInt8.ofNat x.2.1.toNat :: UInt8.ofNat x.2.2.toNat :: UInt8.ofNat x.1.length :: (x.1 ++ encE t)) 1 = x.2.2.toNat := u8_nat _ (by omega)
    unfold headE
    rw [e0, e1, e2, if_neg (by simp; omega)]
    have hd : List.drop (3 + x.1.length) (UInt8.ofNat x.2.1.toNat :: UInt8.ofNat x.2.2.toNat :: UInt8.ofNat x.1.length :: (x.1 ++ encE t)) = encE t := by
      rw [show 3 + x.1.length = x.1.length + 1 + 1 + 1 by omega]
      simp only [List.drop_succ_cons]
      rw [List.drop_left]
    rw [hd, ih]
    simp only [List.drop_succ_cons, List.drop_zero, List.take_left, Option.map_some]
    rw [show ((x.2.1.toNat : Nat) : Int) = x.2.1 by omega, show ((x.2.2.toNat : Nat) : Int) = x.2.2 by omega]
theorem read_code (l : List Ent) (h : mayL l = true) : readE (encE l) = some l := by
  unfold readE
  rw [parse_enc l ((mayL_iff l).1 h).1.1]
  simp only [h, if_true]
theorem enc_inj (a b : List Ent) (ha : mayL a = true) (hb : mayL b = true) : encE a = encE b ↔ a = b := by
  constructor
  · intro h
    have h1 := read_code a ha
    rw [h, read_code b hb] at h1
    exact (Option.some.inj h1).symm
  · rintro rfl; rfl
theorem enc_len (l : List Ent) (h : mayL l = true) : (encE l).length ≤ 810 := by
  obtain ⟨hg, hl⟩ := (mayL_iff l).1 h
  have : ∀ m : List Ent, (∀ x ∈ m, okE x = true) → (encE m).length ≤ 27 * m.length := by
    intro m
    induction m with
    | nil => intro _; simp [encE]
    | cons x t ih =>
      intro hm
      have := ih (fun y hy => hm y (List.mem_cons_of_mem _ hy))
      have hx := okE_bounds x (hm x List.mem_cons_self)
      unfold encE at this ⊢
      rw [List.flatMap_cons, List.length_append]
      unfold encB at this ⊢
      simp only [List.length_cons] at this ⊢
      omega
  have := this l hg.1
  omega
end Go.Proofs.Ytpjghildhhpeeaa
