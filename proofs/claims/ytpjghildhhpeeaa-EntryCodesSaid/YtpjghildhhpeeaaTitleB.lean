/-
  Plain Lean: names, heads, orders and folds of texts; no program in sight.
-/
import Derived.Test.YtpjghildhhpeeaaTitleA
namespace Go.Proofs.Ytpjghildhhpeeaa

def signR (r : Rn) : Bool := !r.odd && decide (32 ≤ r.v) && decide (r.v ≠ 127) && decide (r.v ≠ 47)
def isName (l : List UInt8) : Bool := decide (1 ≤ l.length) && decide (l.length ≤ 24) && decide ((runes l).length ≤ 16) && (runes l).all signR && decide (l ≠ [46]) && decide (l ≠ [46, 46])
def strays (l : List UInt8) : Nat := ((runes l).filter (·.odd)).length
def wholes (l : List UInt8) : Nat := ((runes l).filter (fun r => !r.odd)).length
def headL (l : List UInt8) (n : Nat) : List UInt8 := octs ((runes l).take n)
def cutGo : Nat → List UInt8 → List Rn → List UInt8
  | _, out, [] => out
  | n, out, r :: rs => if signR r = false then cutGo n out rs else if n = 16 ∨ 24 < out.length + r.o.length then out else cutGo (n + 1) (out ++ r.o) rs
def cutL (l : List UInt8) : List UInt8 := cutGo 0 [] (runes l)
def fitL (l : List UInt8) : List UInt8 := if isName (cutL l) then cutL l else cutL (120 :: cutL l)
def low (c : UInt8) : UInt8 := if 65 ≤ c.toNat ∧ c.toNat ≤ 90 then c + 32 else c
def foldL (l : List UInt8) : List UInt8 := l.map low
def cmpL : List UInt8 → List UInt8 → Int
  | [], [] => 0
  | [], _ :: _ => -1
  | _ :: _, [] => 1
  | x :: a, y :: b => if x.toNat < y.toNat then -1 else if y.toNat < x.toNat then 1 else cmpL a b
def cmpZ : List Int → List Int → Int
  | [], [] => 0
  | [], _ :: _ => -1
  | _ :: _, [] => 1
  | x :: a, y :: b => if x < y then -1 else if y < x then 1 else cmpZ a b

theorem counts (l : List UInt8) : wholes l + strays l = (runes l).length := by
  unfold wholes strays
  induction runes l with
  | nil => rfl
  | cons r rs ih => cases h : r.odd <;> simp [h] <;> omega

/-! ### heads -/
theorem dec_odd (l : List UInt8) (h : (dec l).2.2 = true) : dec l = (-1, 1, true) := by
  unfold dec at *
  rcases decN_cases l.length (bt l 0) (bt l 1) (bt l 2) (bt l 3) (bt_lt _ _) (bt_lt _ _) (bt_lt _ _) (bt_lt _ _) with ⟨hc, e⟩ | ⟨hc, e⟩ | ⟨hc, e⟩ | ⟨hc, e⟩ | ⟨hc, e⟩ <;> rw [e] at h ⊢ <;> simp at h

theorem dec_head (p t : List UInt8) (hp : p ≠ []) (hw : (dec (p ++ t)).2.1 ≤ p.length) : dec p = dec (p ++ t) := by
  cases ho : (dec (p ++ t)).2.2 with
  | false =>
    have h := dec_same (p ++ t) (p.drop (dec (p ++ t)).2.1) (by simp [hp]) ho
    rw [List.take_append_of_le_length hw, List.take_append_drop] at h
    exact h
  | true =>
    cases hq : (dec p).2.2 with
    | true => rw [dec_odd _ ho, dec_odd _ hq]
    | false =>
      have h := dec_same p (p.drop (dec p).2.1 ++ t) hp hq
      rw [← List.append_assoc, List.take_append_drop] at h
      rw [h, hq] at ho; cases ho

theorem octs_append (x y : List Rn) : octs (x ++ y) = octs x ++ octs y := List.flatMap_append
theorem head_prefix (l : List UInt8) (n : Nat) : headL l n ++ octs ((runes l).drop n) = l := by
  unfold headL
  rw [← octs_append, List.take_append_drop, octs_runes]
theorem runes_head (l : List UInt8) : ∀ n, runes (headL l n) = (runes l).take n := by
  induction l using runes_ind with
  | h0 => intro n; simp [headL, runes_nil, octs]
  | h1 l hl ih =>
    intro n
    cases n with
    | zero => simp [headL, octs, runes_nil]
    | succ n =>
      have hw := dec_width l
      have hlen := firstR_len l hl
      have e : headL l (n + 1) = (firstR l).o ++ headL (l.drop (dec l).2.1) n := by
        unfold headL; rw [runes_cons l hl]; rfl
      have hs := head_prefix l (n + 1)
      have hne : headL l (n + 1) ≠ [] := by rw [e]; intro h; have := congrArg List.length h; rw [List.length_append, List.length_nil] at this; omega
      have hd : dec (headL l (n + 1)) = dec l := by
        have := dec_head (headL l (n + 1)) (octs ((runes l).drop (n + 1))) hne (by rw [hs, e, List.length_append]; omega)
        rw [hs] at this; exact this
      rw [runes_cons _ hne, runes_cons l hl, List.take_succ_cons, hd]
      have e2 : firstR (headL l (n + 1)) = firstR l := by
        show (⟨(dec (headL l (n + 1))).1, (headL l (n + 1)).take (dec (headL l (n + 1))).2.1, (dec (headL l (n + 1))).2.2⟩ : Rn) = firstR l
        rw [hd, e, ← hlen.2.2, List.take_left]; rfl
      rw [e2, e, ← hlen.2.2, List.drop_left, hlen.2.2, ih n]

theorem head_len (l : List UInt8) (n : Nat) : (headL l n).length ≤ l.length := by
  have := congrArg List.length (head_prefix l n)
  simp only [List.length_append] at this; omega
theorem head_take (l : List UInt8) (n : Nat) : l.take (headL l n).length = headL l n := by
  have h := congrArg (List.take (headL l n).length) (head_prefix l n)
  rw [List.take_left] at h
  exact h.symm
theorem head_count (l : List UInt8) (n : Nat) : wholes (headL l n) + strays (headL l n) = min n (wholes l + strays l) := by
  rw [counts, counts, runes_head, List.length_take]
theorem filter_take_le {α : Type} (p : α → Bool) (l : List α) (n : Nat) : ((l.take n).filter p).length ≤ (l.filter p).length := by
  have := congrArg List.length (congrArg (List.filter p) (List.take_append_drop n l))
  rw [List.filter_append, List.length_append] at this; omega
theorem head_strays (l : List UInt8) (n : Nat) : strays (headL l n) ≤ strays l := by
  unfold strays; rw [runes_head]; exact filter_take_le _ _ _

/-! ### names -/
theorem cutGo_name (rs : List Rn) : ∀ (n : Nat) (out : List UInt8), (∀ r ∈ rs, signR r = true) → n + rs.length ≤ 16 → out.length + (octs rs).length ≤ 24 → cutGo n out rs = out ++ octs rs := by
  induction rs with
  | nil => intro n out _ _ _; simp [cutGo, octs]
  | cons r rs ih =>
    intro n out hs hn hl
    simp only [octs, List.flatMap_cons, List.length_append, List.length_cons] at hl hn
    have h1 := hs r List.mem_cons_self
    unfold cutGo
    rw [if_neg (by rw [h1]; simp), if_neg (by omega), ih (n + 1) (out ++ r.o) (fun x hx => hs x (List.mem_cons_of_mem _ hx)) (by omega) (by simp only [List.length_append, octs]; omega)]
    simp [octs]
theorem isName_iff (l : List UInt8) : isName l = true ↔ 1 ≤ l.length ∧ l.length ≤ 24 ∧ (runes l).length ≤ 16 ∧ (∀ r ∈ runes l, signR r = true) ∧ l ≠ [46] ∧ l ≠ [46, 46] := by
  simp [isName, and_assoc]
theorem cut_name (l : List UInt8) (h : isName l = true) : cutL l = l := by
  obtain ⟨_, h2, h3, h4, _, _⟩ := (isName_iff l).1 h
  have := cutGo_name (runes l) 0 [] h4 (by omega) (by rw [octs_runes]; simpa using h2)
  rw [octs_runes] at this
  simpa [cutL] using this
theorem fit_name (l : List UInt8) (h : isName l = true) : fitL l = l := by
  unfold fitL; rw [cut_name l h, if_pos h]

/-- What is cut is some runes that a name may have, put together. -/
theorem cutGo_form (rs : List Rn) : ∀ (n : Nat) (done : List Rn), (∀ r ∈ rs, Whole r ∨ signR r = false) → (∀ r ∈ done, Whole r ∧ signR r = true) → done.length = n → n ≤ 16 → (octs done).length ≤ 24 →
    ∃ all, cutGo n (octs done) rs = octs all ∧ (∀ r ∈ all, Whole r ∧ signR r = true) ∧ all.length ≤ 16 ∧ (octs all).length ≤ 24 := by
  induction rs with
  | nil => intro n done _ hd hn h16 h24; exact ⟨done, rfl, hd, by omega, h24⟩
  | cons r rs ih =>
    intro n done hr hd hn h16 h24
    unfold cutGo
    by_cases hs : signR r = false
    · rw [if_pos hs]; exact ih n done (fun x hx => hr x (List.mem_cons_of_mem _ hx)) hd hn h16 h24
    · rw [if_neg hs]
      by_cases hb : n = 16 ∨ 24 < (octs done).length + r.o.length
      · rw [if_pos hb]; exact ⟨done, rfl, hd, by omega, h24⟩
      · rw [if_neg hb]
        have e : octs done ++ r.o = octs (done ++ [r]) := by simp [octs]
        rw [e]
        refine ih (n + 1) (done ++ [r]) (fun x hx => hr x (List.mem_cons_of_mem _ hx)) ?_ (by simp [hn]) (by omega) (by rw [← e, List.length_append]; omega)
        intro x hx
        rcases List.mem_append.1 hx with hx | hx
        · exact hd x hx
        · rw [List.mem_singleton.1 hx]
          rcases hr r List.mem_cons_self with h | h
          · exact ⟨h, by cases h' : signR r; exact absurd h' hs; rfl⟩
          · exact absurd h hs
theorem runes_signs (l : List UInt8) : ∀ r ∈ runes l, Whole r ∨ signR r = false := by
  intro r hr
  cases ho : r.odd with
  | true => exact .inr (by simp [signR, ho])
  | false => exact .inl ⟨ho, runes_mem l r hr⟩
theorem cut_form (l : List UInt8) : ∃ all, cutL l = octs all ∧ runes (cutL l) = all ∧ (∀ r ∈ all, signR r = true) ∧ all.length ≤ 16 ∧ (octs all).length ≤ 24 := by
  obtain ⟨all, h1, h2, h3, h4⟩ := cutGo_form (runes l) 0 [] (runes_signs l) (fun r hr => by cases hr) rfl (by omega) (by simp [octs])
  have e : cutL l = octs all := h1
  exact ⟨all, e, by rw [e, runes_whole all (fun r hr => (h2 r hr).1)], fun r hr => (h2 r hr).2, h3, h4⟩
theorem cut_is (l : List UInt8) : isName (cutL l) = true ∨ cutL l = [] ∨ cutL l = [46] ∨ cutL l = [46, 46] := by
  obtain ⟨all, h1, h2, h3, h4, h5⟩ := cut_form l
  by_cases a : cutL l = []
  · exact .inr (.inl a)
  by_cases b : cutL l = [46]
  · exact .inr (.inr (.inl b))
  by_cases c : cutL l = [46, 46]
  · exact .inr (.inr (.inr c))
  left
  rw [isName_iff]
  refine ⟨?_, by rw [h1]; exact h5, by rw [h2]; exact h4, by rw [h2]; exact h3, b, c⟩
  cases h : cutL l with
  | nil => exact absurd h a
  | cons x r => simp
theorem fit_is (l : List UInt8) : isName (fitL l) = true := by
  unfold fitL
  by_cases h : isName (cutL l) = true
  · rw [if_pos h]; exact h
  · rw [if_neg h]
    rcases cut_is l with h' | h' | h' | h'
    · exact absurd h' h
    · rw [h']; decide +kernel
    · rw [h']; decide +kernel
    · rw [h']; decide +kernel
theorem fit_fit (l : List UInt8) : fitL (fitL l) = fitL l := fit_name _ (fit_is l)

/-! ### folds -/
theorem low_hi (c : UInt8) (h : 128 ≤ c.toNat) : low c = c := by unfold low; rw [if_neg (by omega)]
theorem low_lt (c : UInt8) : (low c).toNat < 128 ↔ c.toNat < 128 := by
  unfold low
  split
  · rename_i h
    have : (c + 32).toNat = c.toNat + 32 := by rw [UInt8.toNat_add]; simp; omega
    omega
  · exact Iff.rfl
theorem low_low (c : UInt8) : low (low c) = low c := by
  by_cases h : 65 ≤ c.toNat ∧ c.toNat ≤ 90
  · have e : (c + 32).toNat = c.toNat + 32 := by rw [UInt8.toNat_add]; simp; omega
    have e1 : low c = c + 32 := by unfold low; rw [if_pos h]
    rw [e1]; unfold low; rw [if_neg (by omega)]
  · have e1 : low c = c := by unfold low; rw [if_neg h]
    rw [e1, e1]
theorem fold_fold (l : List UInt8) : foldL (foldL l) = foldL l := by simp [foldL, low_low]
theorem fold_len (l : List UInt8) : (foldL l).length = l.length := by simp [foldL]
theorem low_zero : low 0 = 0 := by decide
theorem bt_fold (l : List UInt8) (k : Nat) : bt (foldL l) k = (low (l.getD k 0)).toNat := by
  simp only [bt, foldL, List.getD_eq_getElem?_getD, List.getElem?_map]
  cases l[k]? <;> simp [low_zero]
theorem decN_low (n b0 b1 b2 b3 c0 c1 c2 c3 : Nat) (e0 : 128 ≤ b0 → c0 = b0) (e1 : 128 ≤ b1 → c1 = b1) (e2 : 128 ≤ b2 → c2 = b2) (e3 : 128 ≤ b3 → c3 = b3) (f0 : c0 < 128 ↔ b0 < 128) (f1 : c1 < 128 ↔ b1 < 128) (f2 : c2 < 128 ↔ b2 < 128) (f3 : c3 < 128 ↔ b3 < 128) :
    decN n c0 c1 c2 c3 = if b0 < 128 then ((c0 : Int), 1, false) else decN n b0 b1 b2 b3 := by
  by_cases h0 : b0 < 128
  · rw [if_pos h0]; unfold decN; rw [if_pos (f0.2 h0)]
  · rw [if_neg h0]
    obtain rfl := e0 (by omega)
    by_cases h1 : 128 ≤ b1
    · obtain rfl := e1 h1
      by_cases h2 : 128 ≤ b2
      · obtain rfl := e2 h2
        by_cases h3 : 128 ≤ b3
        · obtain rfl := e3 h3; rfl
        · have g3 : ¬ 128 ≤ c3 := by omega
          simp [decN, h3, g3]
      · have g2 : ¬ 128 ≤ c2 := by omega
        simp [decN, h2, g2]
    · have g1 : ¬ 128 ≤ c1 := by omega
      simp [decN, h1, g1]
theorem dec_fold (l : List UInt8) : dec (foldL l) = if bt l 0 < 128 then ((bt (foldL l) 0 : Int), 1, false) else dec l := by
  have hh : ∀ k, 128 ≤ bt l k → bt (foldL l) k = bt l k := fun k h => by rw [bt_fold, low_hi _ h]; rfl
  have hl : ∀ k, bt (foldL l) k < 128 ↔ bt l k < 128 := fun k => by rw [bt_fold]; exact low_lt _
  have := decN_low l.length (bt l 0) (bt l 1) (bt l 2) (bt l 3) (bt (foldL l) 0) (bt (foldL l) 1) (bt (foldL l) 2) (bt (foldL l) 3) (hh 0) (hh 1) (hh 2) (hh 3) (hl 0) (hl 1) (hl 2) (hl 3)
  unfold dec; rw [fold_len]; exact this
theorem dec_low (l : List UInt8) (h : bt l 0 < 128) : dec l = ((bt l 0 : Int), 1, false) := by unfold dec decN; rw [if_pos h]
theorem dec_fold2 (l : List UInt8) : (dec (foldL l)).2 = (dec l).2 := by
  rw [dec_fold]
  split
  · rename_i h; rw [dec_low l h]
  · rfl
def foldR (r : Rn) : Rn := firstR (foldL r.o)
theorem sign_fold (l : List UInt8) : signR (firstR (foldL l)) = signR (firstR l) := by
  unfold signR
  have h2 : (firstR (foldL l)).odd = (firstR l).odd := congrArg Prod.snd (dec_fold2 l)
  rw [h2]
  have hv : (firstR (foldL l)).v = (dec (foldL l)).1 := rfl
  have hv' : (firstR l).v = (dec l).1 := rfl
  rw [hv, hv', dec_fold]
  by_cases h : bt l 0 < 128
  · rw [if_pos h, dec_low l h]
    dsimp only
    rw [bt_fold]
    unfold low bt at *
    simp only [List.getD_eq_getElem?_getD] at *
    split
    · rename_i hu
      have : (l[0]?.getD 0 + 32).toNat = (l[0]?.getD 0).toNat + 32 := by rw [UInt8.toNat_add]; simp; omega
      rw [this]
      congr 1
      · congr 1
        · congr 1
          exact decide_eq_decide.2 (by omega)
        · exact decide_eq_decide.2 (by omega)
      · exact decide_eq_decide.2 (by omega)
    · rfl
  · rw [if_neg h]
/-- The runes of a text folded: as many, the same ones odd, the same ones fit for a name. -/
theorem runes_fold (l : List UInt8) : (runes (foldL l)).map (fun r => (r.odd, signR r)) = (runes l).map (fun r => (r.odd, signR r)) := by
  induction l using runes_ind with
  | h0 => rfl
  | h1 l hl ih =>
    have hne : foldL l ≠ [] := by simp [foldL, hl]
    rw [runes_cons l hl, runes_cons _ hne, dec_fold2 l, List.map_cons, List.map_cons]
    have e : (foldL l).drop (dec l).2.1 = foldL (l.drop (dec l).2.1) := by simp [foldL, List.map_drop]
    have h2 : (firstR (foldL l)).odd = (firstR l).odd := congrArg Prod.snd (dec_fold2 l)
    rw [e, ih, sign_fold, h2]
theorem filter_map_len {α : Type} (p : α → Bool) (l m : List α) (q : α → Bool) (h : l.map (fun r => (p r, q r)) = m.map (fun r => (p r, q r))) (f : Bool → Bool) : (l.filter (fun r => f (p r))).length = (m.filter (fun r => f (p r))).length := by
  have key : ∀ l : List α, (l.filter (fun r => f (p r))).length = ((l.map (fun r => (p r, q r))).filter (fun x => f x.1)).length := by
    intro l; induction l with
    | nil => rfl
    | cons a r ih => simp only [List.filter_cons, List.map_cons]; split <;> simp [ih]
  rw [key l, key m, h]
theorem fold_counts (l : List UInt8) : wholes (foldL l) = wholes l ∧ strays (foldL l) = strays l :=
  ⟨filter_map_len (fun r : Rn => r.odd) _ _ signR (runes_fold l) (fun b => !b), filter_map_len (fun r : Rn => r.odd) _ _ signR (runes_fold l) (fun b => b)⟩
theorem fold_dot (l : List UInt8) : (foldL l = [46] ↔ l = [46]) ∧ (foldL l = [46, 46] ↔ l = [46, 46]) := by
  have key : ∀ c : UInt8, low c = 46 ↔ c = 46 := by
    intro c
    constructor
    · intro h
      unfold low at h
      split at h
      · rename_i hc
        have e : (c + 32).toNat = c.toNat + 32 := by rw [UInt8.toNat_add]; simp; omega
        rw [h] at e; have : (46 : UInt8).toNat = 46 := rfl; omega
      · exact h
    · rintro rfl; decide
  constructor
  · rcases l with _ | ⟨a, _ | ⟨b, r⟩⟩ <;> simp [foldL, key]
  · rcases l with _ | ⟨a, _ | ⟨b, _ | ⟨c, r⟩⟩⟩ <;> simp [foldL, key]
theorem fold_name (l : List UInt8) : isName (foldL l) = isName l := by
  have hm := runes_fold l
  have hlen : (runes (foldL l)).length = (runes l).length := by simpa using congrArg List.length hm
  have hall : (runes (foldL l)).all signR = (runes l).all signR := by
    have e : ∀ rs : List Rn, rs.all signR = (rs.map (fun r => (r.odd, signR r))).all (·.2) := fun rs => by
      rw [List.all_map]; rfl
    rw [e, e, hm]
  have hd := fold_dot l
  unfold isName
  rw [fold_len, hlen, hall]
  congr 1
  · congr 1
    exact decide_eq_decide.2 (not_congr hd.1)
  · exact decide_eq_decide.2 (not_congr hd.2)

/-! ### the order -/
theorem cmpL_range (a b : List UInt8) : cmpL a b = -1 ∨ cmpL a b = 0 ∨ cmpL a b = 1 := by
  induction a generalizing b with
  | nil => cases b <;> simp [cmpL]
  | cons x a ih => cases b with
    | nil => simp [cmpL]
    | cons y b => simp only [cmpL]; split; · simp
                  split; · simp
                  exact ih b
theorem cmpL_neg (a b : List UInt8) : cmpL a b = - cmpL b a := by
  induction a generalizing b with
  | nil => cases b <;> simp [cmpL]
  | cons x a ih => cases b with
    | nil => simp [cmpL]
    | cons y b =>
      simp only [cmpL]
      by_cases h : x.toNat < y.toNat
      · rw [if_pos h, if_neg (by omega), if_pos h]
      · rw [if_neg h]
        by_cases h' : y.toNat < x.toNat
        · rw [if_pos h', if_pos h']; rfl
        · rw [if_neg h', if_neg h', if_neg h, ih b]
theorem cmpL_zero (a b : List UInt8) : cmpL a b = 0 ↔ a = b := by
  induction a generalizing b with
  | nil => cases b <;> simp [cmpL]
  | cons x a ih => cases b with
    | nil => simp [cmpL]
    | cons y b =>
      simp only [cmpL]
      by_cases h : x.toNat < y.toNat
      · rw [if_pos h]; simp; intro e; subst e; omega
      · rw [if_neg h]
        by_cases h' : y.toNat < x.toNat
        · rw [if_pos h']; simp; intro e; subst e; omega
        · rw [if_neg h', ih b]
          have : x = y := UInt8.toNat_inj.1 (by omega)
          simp [this]
theorem cmpL_trans (a b c : List UInt8) : cmpL a b ≤ 0 → cmpL b c ≤ 0 → cmpL a c ≤ 0 := by
  induction a generalizing b c with
  | nil => intro _ _; cases c <;> simp [cmpL]
  | cons x a ih => cases b with
    | nil => intro h; simp [cmpL] at h
    | cons y b => cases c with
      | nil => intro _ h; simp [cmpL] at h
      | cons z c =>
        simp only [cmpL]
        intro h1 h2
        by_cases p : x.toNat < y.toNat
        · by_cases q : y.toNat < z.toNat
          · rw [if_pos (by omega)]; decide
          · rw [if_neg q] at h2
            by_cases q' : z.toNat < y.toNat
            · rw [if_pos q'] at h2; simp at h2
            · rw [if_pos (by omega)]; decide
        · rw [if_neg p] at h1
          by_cases p' : y.toNat < x.toNat
          · rw [if_pos p'] at h1; simp at h1
          · rw [if_neg p'] at h1
            by_cases q : y.toNat < z.toNat
            · rw [if_pos (by omega)]; decide
            · rw [if_neg q] at h2
              by_cases q' : z.toNat < y.toNat
              · rw [if_pos q'] at h2; simp at h2
              · rw [if_neg q'] at h2; rw [if_neg (by omega), if_neg (by omega)]; exact ih b c h1 h2
theorem cmpL_app (o a b : List UInt8) : cmpL (o ++ a) (o ++ b) = cmpL a b := by
  induction o with
  | nil => rfl
  | cons x o ih => simp only [List.cons_append, cmpL]; rw [if_neg (by omega), if_neg (by omega), ih]
end Go.Proofs.Ytpjghildhhpeeaa
