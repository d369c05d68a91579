/-
  Plain Lean: the model's decoding and encoding are the runes of a text.
-/
import Derived.Test.YtpjghildhhpeeaaTitleD
namespace Go.Proofs.Ytpjghildhhpeeaa

theorem oc_get! (s : ByteArray) (pos i : Nat) : (s.get! (pos + i)).toNat = bt ((oc s).drop pos) i := by
  rw [bt_drop]
  unfold bt oc
  rw [List.getD_eq_getElem?_getD, Array.getElem?_toList]
  show (s.data[pos + i]!).toNat = _
  rw [Array.getElem!_eq_getD, Array.getD_eq_getD_getElem?]
  rfl
theorem decode_dec (s : ByteArray) (pos : Nat) :
    Utf8.decode s pos = ((if (dec ((oc s).drop pos)).2.2 then 65533 else (dec ((oc s).drop pos)).1.toNat), (dec ((oc s).drop pos)).2.1) := by
  have e : dec ((oc s).drop pos) = decN (s.size - pos) (bt ((oc s).drop pos) 0) (bt ((oc s).drop pos) 1) (bt ((oc s).drop pos) 2) (bt ((oc s).drop pos) 3) := by
    unfold dec; rw [List.length_drop, oc_len]
  have e0 := oc_get! s pos 0
  rw [Nat.add_zero] at e0
  rw [Lib.decode_at, e0, oc_get!, oc_get!, oc_get!, decN_lib _ _ _ _ _ (bt_lt _ _) (bt_lt _ _) (bt_lt _ _) (bt_lt _ _), e]

theorem u8_eq (n : Nat) (c : UInt8) (h : n = c.toNat) : UInt8.ofNat n = c := by rw [h]; simp
theorem bt_cons0 (x : UInt8) (l : List UInt8) : bt (x :: l) 0 = x.toNat := rfl
theorem bt_cons1 (x y : UInt8) (l : List UInt8) : bt (x :: y :: l) 1 = y.toNat := rfl
theorem bt_cons2 (x y z : UInt8) (l : List UInt8) : bt (x :: y :: z :: l) 2 = z.toNat := rfl
theorem bt_cons3 (x y z u : UInt8) (l : List UInt8) : bt (x :: y :: z :: u :: l) 3 = u.toNat := rfl

theorem valid_of (v : Int) (h0 : 0 ≤ v) (h1 : v ≤ 1114111) (h2 : v < 55296 ∨ 57343 < v) : Utf8.valid v = true := by
  unfold Utf8.valid
  simp only [Bool.or_eq_true, Bool.and_eq_true, decide_eq_true_eq]
  omega

/-- The rune put into octets is the octets that it was read of. -/
theorem encode_first (l : List UInt8) (hl : l ≠ []) (ho : (firstR l).odd = false) : Utf8.encode (firstR l).v = st (firstR l).o ∧ 0 ≤ (firstR l).v ∧ (firstR l).v ≤ 1114111 := by
  have hw := (dec_width l).2.2 hl
  have hv : (firstR l).v = (dec l).1 := rfl
  have ho' : (firstR l).o = l.take (dec l).2.1 := rfl
  have ho2 : (dec l).2.2 = false := ho
  rw [hv, ho']
  clear hv ho' ho
  unfold dec at *
  rcases decN_cases l.length (bt l 0) (bt l 1) (bt l 2) (bt l 3) (bt_lt _ _) (bt_lt _ _) (bt_lt _ _) (bt_lt _ _) with ⟨hc, e⟩ | ⟨hc, e⟩ | ⟨hc, e⟩ | ⟨hc, e⟩ | ⟨hc, e⟩ <;> rw [e] at hw ho2 ⊢ <;> dsimp only at hw ho2 ⊢
  · refine ⟨?_, by omega, by omega⟩
    match l, hl with
    | x :: r, _ =>
      rw [bt_cons0] at hc ⊢
      unfold Utf8.encode
      rw [if_pos (valid_of _ (by omega) (by omega) (by omega))]
      simp only [Int.toNat_natCast]
      rw [if_pos hc, u8_eq _ x rfl]; rfl
  · refine ⟨?_, by omega, by omega⟩
    match l, hw with
    | x :: y :: r, _ =>
      rw [bt_cons0, bt_cons1] at hc ⊢
      have := UInt8.toNat_lt y
      unfold Utf8.encode
      rw [if_pos (valid_of _ (by omega) (by omega) (by omega))]
      generalize hn : (((x.toNat : Int) - 192) * 64 + y.toNat - 128).toNat = n
      have hn' : n = (x.toNat - 192) * 64 + (y.toNat - 128) := by omega
      dsimp only
      rw [if_neg (by omega), if_pos (by omega), u8_eq _ x (by omega), u8_eq _ y (by omega)]; rfl
  · refine ⟨?_, by omega, by omega⟩
    match l, hw with
    | x :: y :: z :: r, _ =>
      rw [bt_cons0, bt_cons1, bt_cons2] at hc ⊢
      have := UInt8.toNat_lt y
      unfold Utf8.encode
      rw [if_pos (valid_of _ (by omega) (by omega) (by omega))]
      generalize hn : (((x.toNat : Int) - 224) * 4096 + ((y.toNat : Int) - 128) * 64 + z.toNat - 128).toNat = n
      have hn' : n = (x.toNat - 224) * 4096 + (y.toNat - 128) * 64 + (z.toNat - 128) := by omega
      dsimp only
      rw [if_neg (by omega), if_neg (by omega), if_pos (by omega), u8_eq _ x (by omega), u8_eq _ y (by omega), u8_eq _ z (by omega)]; rfl
  · refine ⟨?_, by omega, by omega⟩
    match l, hw with
    | x :: y :: z :: u :: r, _ =>
      rw [bt_cons0, bt_cons1, bt_cons2, bt_cons3] at hc ⊢
      have := UInt8.toNat_lt y
      unfold Utf8.encode
      rw [if_pos (valid_of _ (by omega) (by omega) (by omega))]
      generalize hn : (((x.toNat : Int) - 240) * 262144 + ((y.toNat : Int) - 128) * 4096 + ((z.toNat : Int) - 128) * 64 + u.toNat - 128).toNat = n
      have hn' : n = (x.toNat - 240) * 262144 + (y.toNat - 128) * 4096 + (z.toNat - 128) * 64 + (u.toNat - 128) := by omega
      dsimp only
      rw [if_neg (by omega), if_neg (by omega), if_neg (by omega), u8_eq _ x (by omega), u8_eq _ y (by omega), u8_eq _ z (by omega), u8_eq _ u (by omega)]; rfl
  · cases ho2

theorem encode_bad : Utf8.encode 65533 = st [239, 191, 189] := by decide +kernel
theorem decN_bad (n b0 b1 b2 b3 : Nat) (h : 2 < n) (h0 : b0 = 239) (h1 : b1 = 191) (h2 : b2 = 189) : (decN n b0 b1 b2 b3).2.2 = false := by
  unfold decN
  rw [if_neg (by omega), if_neg (by omega), if_pos (by omega), if_pos (by omega)]
theorem firstR_odd (l : List UInt8) : (firstR l).odd = (decN l.length (bt l 0) (bt l 1) (bt l 2) (bt l 3)).2.2 := rfl
/-- A text that begins with the octets of U+FFFD begins with no stray. -/
theorem bad_whole (x y z : UInt8) (t : List UInt8) (hx : x.toNat = 239) (hy : y.toNat = 191) (hz : z.toNat = 189) : (firstR (x :: y :: z :: t)).odd = false := by
  rw [firstR_odd]
  exact decN_bad _ _ _ _ _ (by simp only [List.length_cons]; omega) hx hy hz
theorem tsnoc (l : List Rn) (k : Nat) (r : Rn) (h : l[k]? = some r) : l.take (k + 1) = l.take k ++ [r] := by
  rw [List.take_add_one, h]; rfl
theorem runes_at (l : List UInt8) : ∀ (m : Nat) (r : Rn), (runes l)[m]? = some r → ∃ p, octs ((runes l).take m) = l.take p ∧ p ≤ l.length ∧ p < l.length ∧ r = firstR (l.drop p) ∧ octs ((runes l).take (m + 1)) = l.take (p + (dec (l.drop p)).2.1) ∧ p + (dec (l.drop p)).2.1 ≤ l.length := by
  intro m r h
  have h1 := head_prefix l m
  have hp : octs ((runes l).take m) = headL l m := rfl
  have hlen := head_len l m
  have hd : (runes l).drop m = r :: (runes l).drop (m + 1) := by
    obtain ⟨hl, rfl⟩ := List.getElem?_eq_some_iff.1 h
    rw [List.drop_eq_getElem_cons hl]
  have hdrop : octs ((runes l).drop m) = l.drop (headL l m).length := by
    have := congrArg (List.drop (headL l m).length) h1
    rwa [List.drop_left] at this
  -- the rest is read as the rest of the runes
  have hrest : ∀ (m : Nat) (l : List UInt8), runes (octs ((runes l).drop m)) = (runes l).drop m := by
    intro m
    induction m with
    | zero => intro l; rw [List.drop_zero, octs_runes]
    | succ m ih =>
      intro l
      by_cases hl : l = []
      · subst hl; rfl
      · rw [runes_cons l hl, List.drop_succ_cons]; exact ih _
  have h2 := hrest m l
  rw [hdrop, hd] at h2
  have hne : l.drop (headL l m).length ≠ [] := fun e => by rw [e, runes_nil] at h2; cases h2
  rw [runes_cons _ hne] at h2
  injection h2 with h3 h4
  have hlt : (headL l m).length < l.length := by
    rcases Nat.lt_or_ge (headL l m).length l.length with h | h
    · exact h
    · exact absurd (List.drop_eq_nil_of_le h) hne
  have hw := dec_width (l.drop (headL l m).length)
  have hw2 := hw.2.2 hne
  rw [List.length_drop] at hw2
  refine ⟨(headL l m).length, ?_, hlen, hlt, h3.symm, ?_, by omega⟩
  · rw [hp, head_take]
  · rw [tsnoc _ _ _ h, octs_append, hp, ← h3]
    have e1 : octs [firstR (l.drop (headL l m).length)] = (l.drop (headL l m).length).take (dec (l.drop (headL l m).length)).2.1 := by simp [octs, firstR]
    rw [e1, List.take_add, head_take]
end Go.Proofs.Ytpjghildhhpeeaa
