/-
  Plain Lean: runes of a text by its octets; no program in sight.
-/
import Derived.Lib.DecodeN
import Derived.Lib.RuneBytes
namespace Go.Proofs.Ytpjghildhhpeeaa

structure Rn where
  v : Int
  o : List UInt8
  odd : Bool

def bt (l : List UInt8) (k : Nat) : Nat := (l.getD k 0).toNat
theorem bt_lt (l : List UInt8) (k : Nat) : bt l k < 256 := by unfold bt; exact UInt8.toNat_lt _

def decN (n b0 b1 b2 b3 : Nat) : Int × Nat × Bool :=
  if b0 < 128 then ((b0 : Int), 1, false)
  else if 192 ≤ b0 ∧ b0 < 224 ∧ (1 < n ∧ 128 ≤ b1 ∧ b1 < 192) then
    (if 128 ≤ ((b0 : Int) - 192) * 64 + b1 - 128 then (((b0 : Int) - 192) * 64 + b1 - 128, 2, false) else (-1, 1, true))
  else if 224 ≤ b0 ∧ b0 < 240 ∧ (1 < n ∧ 128 ≤ b1 ∧ b1 < 192) ∧ (2 < n ∧ 128 ≤ b2 ∧ b2 < 192) then
    (if 2048 ≤ ((b0 : Int) - 224) * 4096 + ((b1 : Int) - 128) * 64 + b2 - 128 ∧ (((b0 : Int) - 224) * 4096 + ((b1 : Int) - 128) * 64 + b2 - 128 < 55296 ∨ 57343 < ((b0 : Int) - 224) * 4096 + ((b1 : Int) - 128) * 64 + b2 - 128)
      then (((b0 : Int) - 224) * 4096 + ((b1 : Int) - 128) * 64 + b2 - 128, 3, false) else (-1, 1, true))
  else if 240 ≤ b0 ∧ b0 < 248 ∧ (1 < n ∧ 128 ≤ b1 ∧ b1 < 192) ∧ (2 < n ∧ 128 ≤ b2 ∧ b2 < 192) ∧ (3 < n ∧ 128 ≤ b3 ∧ b3 < 192) then
    (if 65536 ≤ ((b0 : Int) - 240) * 262144 + ((b1 : Int) - 128) * 4096 + ((b2 : Int) - 128) * 64 + b3 - 128 ∧ ((b0 : Int) - 240) * 262144 + ((b1 : Int) - 128) * 4096 + ((b2 : Int) - 128) * 64 + b3 - 128 ≤ 1114111
      then (((b0 : Int) - 240) * 262144 + ((b1 : Int) - 128) * 4096 + ((b2 : Int) - 128) * 64 + b3 - 128, 4, false) else (-1, 1, true))
  else (-1, 1, true)

/-- What a decoding comes to: odd, or of one of four widths. -/
theorem decN_cases (n b0 b1 b2 b3 : Nat) (h1 : b1 < 256) (h2 : b2 < 256) (h3 : b3 < 256) (h0 : b0 < 256) :
    (b0 < 128 ∧ decN n b0 b1 b2 b3 = ((b0 : Int), 1, false)) ∨
    ((194 ≤ b0 ∧ b0 < 224 ∧ 1 < n ∧ 128 ≤ b1 ∧ b1 < 192) ∧ decN n b0 b1 b2 b3 = (((b0 : Int) - 192) * 64 + b1 - 128, 2, false)) ∨
    ((224 ≤ b0 ∧ b0 < 240 ∧ 2 < n ∧ 128 ≤ b1 ∧ b1 < 192 ∧ 128 ≤ b2 ∧ b2 < 192 ∧ (b0 = 224 → 160 ≤ b1) ∧ (b0 = 237 → b1 < 160)) ∧ decN n b0 b1 b2 b3 = (((b0 : Int) - 224) * 4096 + ((b1 : Int) - 128) * 64 + b2 - 128, 3, false)) ∨
    ((240 ≤ b0 ∧ b0 < 245 ∧ 3 < n ∧ 128 ≤ b1 ∧ b1 < 192 ∧ 128 ≤ b2 ∧ b2 < 192 ∧ 128 ≤ b3 ∧ b3 < 192 ∧ (b0 = 240 → 144 ≤ b1) ∧ (b0 = 244 → b1 < 144)) ∧ decN n b0 b1 b2 b3 = (((b0 : Int) - 240) * 262144 + ((b1 : Int) - 128) * 4096 + ((b2 : Int) - 128) * 64 + b3 - 128, 4, false)) ∨
    (128 ≤ b0 ∧ decN n b0 b1 b2 b3 = (-1, 1, true)) := by
  unfold decN
  by_cases c0 : b0 < 128
  · rw [if_pos c0]; exact .inl ⟨c0, rfl⟩
  rw [if_neg c0]
  by_cases c1 : 192 ≤ b0 ∧ b0 < 224 ∧ (1 < n ∧ 128 ≤ b1 ∧ b1 < 192)
  · rw [if_pos c1]
    by_cases d : 128 ≤ ((b0 : Int) - 192) * 64 + b1 - 128
    · rw [if_pos d]; exact .inr (.inl ⟨by omega, rfl⟩)
    · rw [if_neg d]; exact .inr (.inr (.inr (.inr ⟨by omega, rfl⟩)))
  rw [if_neg c1]
  by_cases c2 : 224 ≤ b0 ∧ b0 < 240 ∧ (1 < n ∧ 128 ≤ b1 ∧ b1 < 192) ∧ (2 < n ∧ 128 ≤ b2 ∧ b2 < 192)
  · rw [if_pos c2]
    by_cases d : 2048 ≤ ((b0 : Int) - 224) * 4096 + ((b1 : Int) - 128) * 64 + b2 - 128 ∧ (((b0 : Int) - 224) * 4096 + ((b1 : Int) - 128) * 64 + b2 - 128 < 55296 ∨ 57343 < ((b0 : Int) - 224) * 4096 + ((b1 : Int) - 128) * 64 + b2 - 128)
    · rw [if_pos d]; exact .inr (.inr (.inl ⟨by omega, rfl⟩))
    · rw [if_neg d]; exact .inr (.inr (.inr (.inr ⟨by omega, rfl⟩)))
  rw [if_neg c2]
  by_cases c3 : 240 ≤ b0 ∧ b0 < 248 ∧ (1 < n ∧ 128 ≤ b1 ∧ b1 < 192) ∧ (2 < n ∧ 128 ≤ b2 ∧ b2 < 192) ∧ (3 < n ∧ 128 ≤ b3 ∧ b3 < 192)
  · rw [if_pos c3]
    by_cases d : 65536 ≤ ((b0 : Int) - 240) * 262144 + ((b1 : Int) - 128) * 4096 + ((b2 : Int) - 128) * 64 + b3 - 128 ∧ ((b0 : Int) - 240) * 262144 + ((b1 : Int) - 128) * 4096 + ((b2 : Int) - 128) * 64 + b3 - 128 ≤ 1114111
    · rw [if_pos d]; exact .inr (.inr (.inr (.inl ⟨by omega, rfl⟩)))
    · rw [if_neg d]; exact .inr (.inr (.inr (.inr ⟨by omega, rfl⟩)))
  rw [if_neg c3]
  exact .inr (.inr (.inr (.inr ⟨by omega, rfl⟩)))

/-- The model's decoder. -/
theorem decN_lib (n b0 b1 b2 b3 : Nat) (h1 : b1 < 256) (h2 : b2 < 256) (h3 : b3 < 256) (h0 : b0 < 256) :
    Lib.decodeN n b0 b1 b2 b3 = ((if (decN n b0 b1 b2 b3).2.2 then 65533 else (decN n b0 b1 b2 b3).1.toNat), (decN n b0 b1 b2 b3).2.1) := by
  unfold Lib.decodeN decN
  by_cases c0 : b0 < 128
  · rw [if_pos c0, if_pos c0]; simp
  rw [if_neg c0, if_neg c0]
  by_cases c1 : 192 ≤ b0 ∧ b0 < 224 ∧ (1 < n ∧ 128 ≤ b1 ∧ b1 < 192)
  · rw [if_pos c1, if_pos (by omega : b0 / 32 = 6 ∧ (1 < n ∧ b1 / 64 = 2))]
    by_cases d : 128 ≤ ((b0 : Int) - 192) * 64 + b1 - 128
    · rw [if_pos d, if_pos (by omega)]; simp; omega
    · rw [if_neg d, if_neg (by omega)]; simp
  rw [if_neg c1, if_neg (by omega : ¬ (b0 / 32 = 6 ∧ (1 < n ∧ b1 / 64 = 2)))]
  by_cases c2 : 224 ≤ b0 ∧ b0 < 240 ∧ (1 < n ∧ 128 ≤ b1 ∧ b1 < 192) ∧ (2 < n ∧ 128 ≤ b2 ∧ b2 < 192)
  · rw [if_pos c2, if_pos (by omega : b0 / 16 = 14 ∧ (1 < n ∧ b1 / 64 = 2) ∧ (2 < n ∧ b2 / 64 = 2))]
    by_cases d : 2048 ≤ ((b0 : Int) - 224) * 4096 + ((b1 : Int) - 128) * 64 + b2 - 128 ∧ (((b0 : Int) - 224) * 4096 + ((b1 : Int) - 128) * 64 + b2 - 128 < 55296 ∨ 57343 < ((b0 : Int) - 224) * 4096 + ((b1 : Int) - 128) * 64 + b2 - 128)
    · rw [if_pos d, if_pos (by omega)]; simp; omega
    · rw [if_neg d, if_neg (by omega)]; simp
  rw [if_neg c2, if_neg (by omega : ¬ (b0 / 16 = 14 ∧ (1 < n ∧ b1 / 64 = 2) ∧ (2 < n ∧ b2 / 64 = 2)))]
  by_cases c3 : 240 ≤ b0 ∧ b0 < 248 ∧ (1 < n ∧ 128 ≤ b1 ∧ b1 < 192) ∧ (2 < n ∧ 128 ≤ b2 ∧ b2 < 192) ∧ (3 < n ∧ 128 ≤ b3 ∧ b3 < 192)
  · rw [if_pos c3, if_pos (by omega : b0 / 8 = 30 ∧ (1 < n ∧ b1 / 64 = 2) ∧ (2 < n ∧ b2 / 64 = 2) ∧ (3 < n ∧ b3 / 64 = 2))]
    by_cases d : 65536 ≤ ((b0 : Int) - 240) * 262144 + ((b1 : Int) - 128) * 4096 + ((b2 : Int) - 128) * 64 + b3 - 128 ∧ ((b0 : Int) - 240) * 262144 + ((b1 : Int) - 128) * 4096 + ((b2 : Int) - 128) * 64 + b3 - 128 ≤ 1114111
    · rw [if_pos d, if_pos (by omega)]; simp; omega
    · rw [if_neg d, if_neg (by omega)]; simp
  rw [if_neg c3, if_neg (by omega : ¬ (b0 / 8 = 30 ∧ (1 < n ∧ b1 / 64 = 2) ∧ (2 < n ∧ b2 / 64 = 2) ∧ (3 < n ∧ b3 / 64 = 2)))]
  simp

/-- It hangs on as many octets as it is wide. -/
theorem decN_same (n b0 b1 b2 b3 m c1 c2 c3 : Nat) (h1 : b1 < 256) (h2 : b2 < 256) (h3 : b3 < 256) (h0 : b0 < 256)
    (ho : (decN n b0 b1 b2 b3).2.2 = false) (hm : (decN n b0 b1 b2 b3).2.1 ≤ m)
    (e1 : 1 < (decN n b0 b1 b2 b3).2.1 → c1 = b1) (e2 : 2 < (decN n b0 b1 b2 b3).2.1 → c2 = b2) (e3 : 3 < (decN n b0 b1 b2 b3).2.1 → c3 = b3) :
    decN m b0 c1 c2 c3 = decN n b0 b1 b2 b3 := by
  rcases decN_cases n b0 b1 b2 b3 h1 h2 h3 h0 with ⟨hc, e⟩ | ⟨hc, e⟩ | ⟨hc, e⟩ | ⟨hc, e⟩ | ⟨hc, e⟩ <;> rw [e] at ho hm e1 e2 e3 ⊢ <;> simp at ho hm e1 e2 e3
  · unfold decN; rw [if_pos hc]
  · subst e1; unfold decN; rw [if_neg (by omega), if_pos (by omega), if_pos (by omega)]
  · subst e1 e2; unfold decN; rw [if_neg (by omega), if_neg (by omega), if_pos (by omega), if_pos (by omega)]
  · subst e1 e2 e3; unfold decN; rw [if_neg (by omega), if_neg (by omega), if_neg (by omega), if_pos (by omega), if_pos (by omega)]

def dec (l : List UInt8) : Int × Nat × Bool := decN l.length (bt l 0) (bt l 1) (bt l 2) (bt l 3)

theorem dec_width (l : List UInt8) : 1 ≤ (dec l).2.1 ∧ (dec l).2.1 ≤ 4 ∧ (l ≠ [] → (dec l).2.1 ≤ l.length) := by
  have hl : l ≠ [] → 1 ≤ l.length := fun h => by cases l; exact absurd rfl h; simp
  unfold dec
  rcases decN_cases l.length (bt l 0) (bt l 1) (bt l 2) (bt l 3) (bt_lt _ _) (bt_lt _ _) (bt_lt _ _) (bt_lt _ _) with ⟨hc, e⟩ | ⟨hc, e⟩ | ⟨hc, e⟩ | ⟨hc, e⟩ | ⟨hc, e⟩ <;> rw [e] <;> refine ⟨?_, ?_, fun h => ?_⟩ <;> simp <;> (try have := hl h) <;> omega

def firstR (l : List UInt8) : Rn := ⟨(dec l).1, l.take (dec l).2.1, (dec l).2.2⟩
def runesF : Nat → List UInt8 → List Rn
  | 0, _ => []
  | _ + 1, [] => []
  | f + 1, c :: r => firstR (c :: r) :: runesF f ((c :: r).drop (dec (c :: r)).2.1)
def runes (l : List UInt8) : List Rn := runesF l.length l

theorem runesF_any : ∀ (f g : Nat) (l : List UInt8), l.length ≤ f → l.length ≤ g → runesF f l = runesF g l
  | f, g, [], _, _ => by cases f <;> cases g <;> rfl
  | 0, _, c :: r, h, _ => by simp at h
  | _ + 1, 0, c :: r, _, h => by simp at h
  | f + 1, g + 1, c :: r, hf, hg => by
    have hw := dec_width (c :: r)
    simp only [runesF]
    rw [runesF_any f g _ (by rw [List.length_drop]; omega) (by rw [List.length_drop]; omega)]

theorem runes_nil : runes [] = [] := rfl
theorem runes_cons (l : List UInt8) (h : l ≠ []) : runes l = firstR l :: runes (l.drop (dec l).2.1) := by
  cases l with
  | nil => exact absurd rfl h
  | cons c r =>
    have hw := dec_width (c :: r)
    show runesF (r.length + 1) (c :: r) = _
    simp only [runesF]
    rw [runes, runesF_any r.length _ _ (by rw [List.length_drop]; simp only [List.length_cons]; omega) (Nat.le_refl _)]

theorem firstR_len (l : List UInt8) (h : l ≠ []) : 1 ≤ (firstR l).o.length ∧ (firstR l).o.length ≤ 4 ∧ (firstR l).o.length = (dec l).2.1 := by
  have hw := dec_width l
  have := hw.2.2 h
  simp only [firstR, List.length_take]
  omega

/-- Induction over the runes of a text. -/
theorem runes_ind {P : List UInt8 → Prop} (h0 : P []) (h1 : ∀ l, l ≠ [] → P (l.drop (dec l).2.1) → P l) : ∀ l, P l := by
  have : ∀ n l, l.length ≤ n → P l := by
    intro n
    induction n with
    | zero => intro l hl; have : l = [] := by cases l; rfl; simp at hl
              rw [this]; exact h0
    | succ n ih =>
      intro l hl
      by_cases hn : l = []
      · rw [hn]; exact h0
      · refine h1 l hn (ih _ ?_)
        have := dec_width l
        rw [List.length_drop]; omega
  exact fun l => this l.length l (Nat.le_refl _)

def octs (r : List Rn) : List UInt8 := r.flatMap (·.o)
theorem octs_runes (l : List UInt8) : octs (runes l) = l := by
  induction l using runes_ind with
  | h0 => rfl
  | h1 l hl ih =>
    rw [runes_cons l hl]
    simp only [octs, List.flatMap_cons] at ih ⊢
    rw [ih]
    exact List.take_append_drop _ _

theorem bt_take (l : List UInt8) (k n : Nat) (h : k < n) : bt (l.take n) k = bt l k := by
  simp only [bt, List.getD_eq_getElem?_getD, List.getElem?_take, if_pos h]
theorem bt_append (l t : List UInt8) (k : Nat) (h : k < l.length) : bt (l ++ t) k = bt l k := by
  simp only [bt, List.getD_eq_getElem?_getD, List.getElem?_append_left h]

/-- A rune that is none of the strays is there whatever comes behind it. -/
theorem dec_same (l t : List UInt8) (hl : l ≠ []) (ho : (dec l).2.2 = false) : dec (l.take (dec l).2.1 ++ t) = dec l := by
  have hw := dec_width l
  have hle := hw.2.2 hl
  have hlen : (l.take (dec l).2.1).length = (dec l).2.1 := by rw [List.length_take]; omega
  have hb : ∀ k, k < (dec l).2.1 → bt (l.take (dec l).2.1 ++ t) k = bt l k := fun k hk => by
    rw [bt_append _ _ _ (by rw [hlen]; exact hk), bt_take _ _ _ hk]
  have h := decN_same l.length (bt l 0) (bt l 1) (bt l 2) (bt l 3) (l.take (dec l).2.1 ++ t).length (bt (l.take (dec l).2.1 ++ t) 1) (bt (l.take (dec l).2.1 ++ t) 2) (bt (l.take (dec l).2.1 ++ t) 3) (bt_lt _ _) (bt_lt _ _) (bt_lt _ _) (bt_lt _ _) ho
    (by show (dec l).2.1 ≤ _; rw [List.length_append, hlen]; omega) (fun h => hb 1 h) (fun h => hb 2 h) (fun h => hb 3 h)
  have h0 := hb 0 (by omega)
  unfold dec at h0 h ⊢
  rw [h0]
  exact h

theorem firstR_same (l t : List UInt8) (hl : l ≠ []) (ho : (firstR l).odd = false) : firstR ((firstR l).o ++ t) = firstR l := by
  have hlen := firstR_len l hl
  have h : dec ((firstR l).o ++ t) = dec l := dec_same l t hl ho
  show (⟨(dec ((firstR l).o ++ t)).1, ((firstR l).o ++ t).take (dec ((firstR l).o ++ t)).2.1, (dec ((firstR l).o ++ t)).2.2⟩ : Rn) = firstR l
  rw [h, ← hlen.2.2, List.take_left]
  rfl

theorem runes_append (l t : List UInt8) (h : ∀ r ∈ runes l, r.odd = false) : runes (l ++ t) = runes l ++ runes t := by
  induction l using runes_ind with
  | h0 => rfl
  | h1 l hl ih =>
    rw [runes_cons l hl] at h ⊢
    have ho : (firstR l).odd = false := h _ (List.mem_cons_self)
    have hd := dec_same l (l.drop (dec l).2.1 ++ t) hl ho
    have hw := dec_width l
    rw [← List.append_assoc, List.take_append_drop] at hd
    have hne : l ++ t ≠ [] := by simp [hl]
    rw [runes_cons (l ++ t) hne, hd, List.drop_append_of_le_length (hw.2.2 hl), ih (fun r hr => h r (List.mem_cons_of_mem _ hr))]
    refine congrArg (· :: _) ?_
    show (⟨(dec (l ++ t)).1, (l ++ t).take (dec (l ++ t)).2.1, (dec (l ++ t)).2.2⟩ : Rn) = firstR l
    rw [hd, List.take_append_of_le_length (hw.2.2 hl)]
    rfl

/-- Runes that are none of the strays, put together, are read as they were. -/
def Whole (r : Rn) : Prop := r.odd = false ∧ ∃ l, l ≠ [] ∧ r = firstR l
theorem runes_whole : ∀ (rs : List Rn), (∀ r ∈ rs, Whole r) → runes (octs rs) = rs
  | [], _ => rfl
  | r :: rs, h => by
    obtain ⟨ho, l, hl, rfl⟩ := h r List.mem_cons_self
    have hlen := firstR_len l hl
    have hd := firstR_same l [] hl ho
    rw [List.append_nil] at hd
    have hne : (firstR l).o ≠ [] := fun e => by rw [e] at hlen; simp at hlen
    have h1 : runes (firstR l).o = [firstR l] := by
      rw [runes_cons _ hne, hd]
      have : (dec (firstR l).o).2.1 = (firstR l).o.length := by
        have hx := firstR_len (firstR l).o hne
        rw [hd] at hx
        omega
      rw [this, List.drop_length]; rfl
    show runes ((firstR l).o ++ octs rs) = _
    rw [runes_append _ _ (by rw [h1]; simpa using ho), h1, runes_whole rs (fun r hr => h r (List.mem_cons_of_mem _ hr))]
    rfl
theorem runes_mem (l : List UInt8) : ∀ r ∈ runes l, ∃ t, t ≠ [] ∧ r = firstR t := by
  induction l using runes_ind with
  | h0 => intro r hr; cases hr
  | h1 l hl ih =>
    rw [runes_cons l hl]
    intro r hr
    rcases List.mem_cons.1 hr with rfl | hr
    · exact ⟨l, hl, rfl⟩
    · exact ih r hr
end Go.Proofs.Ytpjghildhhpeeaa
