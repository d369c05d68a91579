/-
  Plain: paths of names, and what is put between their pieces.
-/
import Derived.Test.YtofbgebgneinaaaDoorPathK
import Derived.Lib.Join
namespace Go.Proofs.YtofbgebgneinaaaDoor

theorem split_app (t u : List UInt8) : splitB (t ++ 47 :: u) = splitB t ++ splitB u := by
  induction t with
  | nil => rw [List.nil_append, splitB_slash]; rfl
  | cons c r ih =>
    by_cases hc : c = 47
    · subst hc
      rw [List.cons_append, splitB_slash, ih, splitB_slash]; rfl
    · obtain ⟨p, ps, e1, e2⟩ := splitB_other c (r ++ 47 :: u) hc
      obtain ⟨q, qs, f1, f2⟩ := splitB_other c r hc
      rw [List.cons_append, e2, f2]
      rw [ih, f1] at e1
      injection e1 with g1 g2
      rw [← g1, ← g2]; rfl
theorem split_plain (x : List UInt8) (h : ∀ c ∈ x, c ≠ 47) : splitB x = [x] := by
  induction x with
  | nil => rfl
  | cons c r ih =>
    obtain ⟨p, ps, e1, e2⟩ := splitB_other c r (h c (by simp))
    rw [e2]
    rw [ih (fun d hd => h d (by simp [hd]))] at e1
    injection e1 with g1 g2
    rw [← g1, ← g2]

/-- A rune that is no stray of more than one octet has none below 128. -/
theorem rune_hi (l : List UInt8) (hl : l ≠ []) (ho : (firstR l).odd = false) (h47 : (firstR l).v ≠ 47) : ∀ c ∈ (firstR l).o, c ≠ 47 := by
  intro c hc he
  have hw := dec_width l
  have hle := hw.2.2 hl
  unfold firstR at ho h47 hc
  simp only at ho h47 hc
  obtain ⟨k, hk, hck⟩ := List.mem_iff_getElem.1 hc
  rw [List.length_take] at hk
  rw [List.getElem_take] at hck
  have hbt : bt l k = 47 := by
    unfold bt
    rw [List.getD_eq_getElem?_getD, List.getElem?_eq_getElem (by omega)]
    simp [hck, he]
  have hd := decN_cases l.length (bt l 0) (bt l 1) (bt l 2) (bt l 3) (bt_lt _ _) (bt_lt _ _) (bt_lt _ _) (bt_lt _ _)
  have hdec : dec l = decN l.length (bt l 0) (bt l 1) (bt l 2) (bt l 3) := rfl
  rw [hdec] at ho h47 hk hle
  rcases hd with ⟨hcn, e⟩ | ⟨hcn, e⟩ | ⟨hcn, e⟩ | ⟨hcn, e⟩ | ⟨hcn, e⟩ <;> rw [e] at ho h47 hk hle <;> simp at ho h47 hk
  · have : k = 0 := by omega
    subst this; omega
  · have : k = 0 ∨ k = 1 := by omega
    rcases this with rfl | rfl <;> omega
  · have : k = 0 ∨ k = 1 ∨ k = 2 := by omega
    rcases this with rfl | rfl | rfl <;> omega
  · have : k = 0 ∨ k = 1 ∨ k = 2 ∨ k = 3 := by omega
    rcases this with rfl | rfl | rfl | rfl <;> omega
theorem runes_slash (l : List UInt8) : (∀ r ∈ runes l, signR r = true) → ∀ c ∈ l, c ≠ 47 := by
  induction l using runes_ind with
  | h0 => intro _ c hc; cases hc
  | h1 l hl ih =>
    intro h c hc
    rw [runes_cons l hl] at h
    have h1 := h (firstR l) (by simp)
    have h2 := ih (fun r hr => h r (by simp [hr]))
    unfold signR at h1
    simp at h1
    have hs : l = (firstR l).o ++ l.drop (dec l).2.1 := by
      unfold firstR; simp
    rw [hs] at hc
    rcases List.mem_append.1 hc with hc | hc
    · exact rune_hi l hl h1.1.1.1 h1.2 c hc
    · exact h2 c hc
theorem name_form (x : List UInt8) (h : isName x = true) : (∀ c ∈ x, c ≠ 47) ∧ x ≠ [] ∧ x ≠ [46] ∧ x ≠ [46, 46] ∧ x.length ≤ 24 := by
  obtain ⟨h1, h2, _, h4, h5, h6⟩ := (isName_iff x).1 h
  exact ⟨runes_slash x h4, fun e => by rw [e] at h1; simp at h1, h5, h6, h2⟩

/-- The names, each behind a / . -/
def slashed (l : List (List UInt8)) : List UInt8 := l.flatMap fun x => 47 :: x
theorem slashed_cons (x : List UInt8) (l : List (List UInt8)) : slashed (x :: l) = 47 :: (x ++ slashed l) := by simp [slashed]
theorem slashed_snoc (l : List (List UInt8)) (x : List UInt8) : slashed (l ++ [x]) = slashed l ++ 47 :: x := by simp [slashed]
theorem split_slashed : ∀ (l : List (List UInt8)) (x : List UInt8), (∀ c ∈ x, c ≠ 47) → (∀ y ∈ l, ∀ c ∈ y, c ≠ 47) → splitB (x ++ slashed l) = x :: l
  | [], x, hx, _ => by rw [show slashed [] = [] from rfl, List.append_nil, split_plain x hx]
  | y :: l, x, hx, hl => by
    rw [slashed_cons, split_app, split_plain x hx, split_slashed l y (hl y (by simp)) (fun z hz => hl z (by simp [hz]))]; rfl
theorem go_names : ∀ (l out : List (List UInt8)), (∀ x ∈ l, isName x = true) → out.length + l.length ≤ 8 → parseGo out l = (out ++ l, 0)
  | [], out, _, _ => by rw [List.append_nil]; rfl
  | x :: l, out, h, hl => by
    obtain ⟨_, h1, h2, h3, _⟩ := name_form x (h x (by simp))
    rw [parseGo_in out l x (fun e => e.elim h1 h2) h3 (h x (by simp)) (by simp at hl; omega), go_names l (out ++ [x]) (fun y hy => h y (by simp [hy])) (by simp at hl ⊢; omega), List.append_assoc]; rfl
theorem slashed_len : ∀ l : List (List UInt8), (∀ x ∈ l, isName x = true) → (slashed l).length ≤ 25 * l.length
  | [], _ => by simp [slashed]
  | x :: l, h => by
    have h1 := (name_form x (h x (by simp))).2.2.2.2
    have h2 := slashed_len l (fun y hy => h y (by simp [hy]))
    rw [slashed_cons]; simp; omega
theorem parse_slashed (l : List (List UInt8)) (h : ∀ x ∈ l, isName x = true) (h8 : l.length ≤ 8) (hne : l ≠ []) : parseL (slashed l) = (l, 0) := by
  have hlen := slashed_len l h
  cases l with
  | nil => exact absurd rfl hne
  | cons x r =>
    unfold parseL
    rw [if_neg (by rw [slashed_cons]; simp), if_neg (by omega)]
    have hs := split_slashed (x :: r) [] (fun c hc => by cases hc) (fun y hy => (name_form y (h y hy)).1)
    rw [List.nil_append] at hs
    rw [hs, parseGo_skip _ _ _ (.inl rfl), go_names (x :: r) [] h (by simpa using h8)]; rfl

/-- P11.2. -/
def joinL (l : List (List UInt8)) : List UInt8 × Int :=
  if l.all isName = false then ([], 11) else if 8 < l.length then ([], 16) else if l = [] then ([47], 0) else (slashed l, 0)
theorem join_slashed : ∀ (l : List (List UInt8)), l ≠ [] → 47 :: Lib.join l [47] = slashed l
  | [], h => absurd rfl h
  | [x], _ => by rw [Lib.join_one]; simp [slashed]
  | x :: y :: l, _ => by
    have ih := join_slashed (y :: l) (by simp)
    rw [slashed_cons, ← ih]
    simp [Lib.join, List.intercalate]
theorem parse_root : parseL [47] = ([], 0) := by decide +kernel
theorem parse_join (l : List (List UInt8)) (h : (joinL l).2 = 0) : parseL (joinL l).1 = (l, 0) ∧ l.length ≤ 8 ∧ (∀ x ∈ l, isName x = true) ∧ (joinL l).1.length ≤ 200 := by
  unfold joinL at h ⊢
  split at h
  · simp at h
  · rename_i hn
    split at h
    · simp at h
    · rename_i h8
      have hall : ∀ x ∈ l, isName x = true := by
        have : l.all isName = true := by cases hh : l.all isName <;> simp_all
        exact List.all_eq_true.1 this
      rw [if_neg hn, if_neg h8]
      by_cases h0 : l = []
      · rw [if_pos h0, h0]; exact ⟨parse_root, by simp, (fun x hx => absurd hx List.not_mem_nil), by decide⟩
      · rw [if_neg h0]
        have := slashed_len l hall
        exact ⟨parse_slashed l hall (by omega) h0, by omega, hall, by show (slashed l).length ≤ 200; omega⟩
theorem join_err (l : List (List UInt8)) : (joinL l).2 = 0 ∨ (joinL l).2 = 11 ∨ (joinL l).2 = 16 := by
  unfold joinL; split
  · exact .inr (.inl rfl)
  · split
    · exact .inr (.inr rfl)
    · split
      · exact .inl rfl
      · exact .inl rfl

/-- What is put between pieces. -/
def fillL (k : Nat) : List UInt8 := if k % 5 = 1 then [47] else if k % 5 = 2 then [47, 46] else if k % 5 = 3 then [47, 113, 47, 46, 46] else if k % 5 = 4 then [47, 46, 47, 113, 47, 46, 46, 47] else []
theorem fill_len (k : Nat) : (fillL k).length ≤ 8 := by unfold fillL; repeat' split
                                                        all_goals simp
/-- T leads to out, whatever comes behind it. -/
def Leads (T : List UInt8) (out : List (List UInt8)) : Prop := ∀ rest, parseGo [] (splitB T ++ rest) = parseGo out rest
theorem leads_fill (T : List UInt8) (out : List (List UInt8)) (k : Nat) (h : Leads T out) (h8 : out.length < 8) : Leads (T ++ fillL k) out := by
  have hq : isName [113] = true := by decide +kernel
  intro rest
  unfold fillL
  split
  · rw [split_app, List.append_assoc, h]
    show parseGo out ([] :: rest) = _
    rw [parseGo_skip _ _ _ (.inl rfl)]
  · split
    · rw [split_app, List.append_assoc, h]
      show parseGo out ([46] :: rest) = _
      rw [parseGo_skip _ _ _ (.inr rfl)]
    · split
      · rw [split_app, List.append_assoc, h]
        show parseGo out ([113] :: [46, 46] :: rest) = _
        rw [parseGo_in _ _ _ (by simp) (by simp) hq h8, parseGo_up, List.dropLast_concat]
      · split
        · rw [split_app, List.append_assoc, h]
          show parseGo out ([46] :: [113] :: [46, 46] :: [] :: rest) = _
          rw [parseGo_skip _ _ _ (.inr rfl), parseGo_in _ _ _ (by simp) (by simp) hq h8, parseGo_up, List.dropLast_concat, parseGo_skip _ _ _ (.inl rfl)]
        · rw [List.append_nil, h]
theorem leads_name (T : List UInt8) (out : List (List UInt8)) (x : List UInt8) (h : Leads T out) (h8 : out.length < 8) (hx : isName x = true) : Leads (T ++ 47 :: x) (out ++ [x]) := by
  obtain ⟨h0, h1, h2, h3, _⟩ := name_form x hx
  intro rest
  rw [split_app, List.append_assoc, h, split_plain x h0]
  exact parseGo_in out rest x (fun e => e.elim h1 h2) h3 hx h8
theorem leads_nil : Leads [] [] := fun rest => by
  show parseGo [] ([] :: rest) = _
  rw [parseGo_skip _ _ _ (.inl rfl)]
theorem leads_parse (T : List UInt8) (out : List (List UInt8)) (h : Leads T out) (hh : T.head? = some 47) (hl : T.length ≤ 200) : parseL T = (out, 0) := by
  unfold parseL
  rw [if_neg (by simpa using hh), if_neg (by omega)]
  have := h []
  rw [List.append_nil] at this
  exact this
end Go.Proofs.YtofbgebgneinaaaDoor
