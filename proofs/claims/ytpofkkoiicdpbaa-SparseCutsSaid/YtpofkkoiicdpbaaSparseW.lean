/-
  Plain laws on what is written into a file, block by block.
-/
import Derived.Test.YtpofkkoiicdpbaaSparseA
namespace Go.Proofs.Ytpofkkoiicdpbaa
open Go.RowKit
set_option linter.unusedVariables false

def touched (off len n : Nat) : Bool := decide (0 < len) && (decide (off / 128 ≤ n) && decide (n ≤ (off + len - 1) / 128))
def writO (L : List Pc) (off : Nat) (b : List UInt8) (i : Nat) : UInt8 := if off ≤ i ∧ i < off + b.length then (b[i - off]?).getD 0 else octF L i
def WInv (L : List Pc) (off : Nat) (b : List UInt8) (L1 : List Pc) : Prop := Std L1 ∧ (∀ i, octF L1 i = writO L off b i) ∧ ∀ n : Nat, hasF L1 n = (hasF L n || touched off b.length n)
def blocksW (off len : Nat) : List Int := if len = 0 then [] else tab ((off + len - 1) / 128 - off / 128 + 1) fun i => ((off / 128 + i : Nat) : Int)
/-- A block with octets laid over it. -/
def layB (x : List UInt8) (r : Nat) (y : List UInt8) : List UInt8 := x.take r ++ y ++ x.drop (r + y.length)
def sizeW (size : Int) (off len : Nat) : Int := if len = 0 then size else max size (off + len)

theorem WInv.start (L : List Pc) (off : Nat) (h : Std L) : WInv L off [] L := by
  refine ⟨h, fun i => ?_, fun n => ?_⟩
  · unfold writO; rw [if_neg (by simp)]
  · simp [touched]
theorem layB_len (x : List UInt8) (r : Nat) (y : List UInt8) (h : r + y.length ≤ x.length) : (layB x r y).length = x.length := by
  unfold layB
  simp only [List.length_append, List.length_take, List.length_drop]
  omega
theorem layB_get (x : List UInt8) (r : Nat) (y : List UInt8) (h : r + y.length ≤ x.length) (m : Nat) : (layB x r y)[m]? = if m < r then x[m]? else if m < r + y.length then y[m - r]? else x[m]? := by
  unfold layB
  have h1 : (x.take r).length = r := by rw [List.length_take]; omega
  by_cases hm : m < r
  · rw [if_pos hm, List.append_assoc, List.getElem?_append_left (by omega), List.getElem?_take, if_pos hm]
  · rw [if_neg hm]
    by_cases h2 : m < r + y.length
    · rw [if_pos h2, List.append_assoc, List.getElem?_append_right (by omega), h1, List.getElem?_append_left (by omega)]
    · rw [if_neg h2, List.getElem?_append_right (by rw [List.length_append, h1]; omega), List.length_append, h1, List.getElem?_drop]
      congr 1
      omega
theorem WInv.step (L L1 : List Pc) (off j k q r : Nat) (b : List UInt8) (h : WInv L off (b.take j) L1) (hj : j < b.length) (hq : (off + j) / 128 = q) (hr : (off + j) % 128 = r) (hk : k = min (b.length - j) (128 - r)) (hb : j = 0 ∨ r = 0) :
    WInv L off (b.take (j + k)) (putF L1 q (layB (octB L1 q) r ((b.drop j).take k))) := by
  obtain ⟨hs, ho, hh⟩ := h
  have hol := octB_len L1 q hs
  have hyl : ((b.drop j).take k).length = k := by rw [List.length_take, List.length_drop]; omega
  have htl : (b.take j).length = j := by rw [List.length_take]; omega
  have htl2 : (b.take (j + k)).length = j + k := by rw [List.length_take]; omega
  have hxl := layB_len (octB L1 q) r ((b.drop j).take k) (by rw [hyl, hol]; omega)
  refine ⟨put_std L1 q _ hs (by omega) (by rw [hxl, hol]), fun i => ?_, fun n => ?_⟩
  · rw [octF_put L1 q _ hs.1, ho]
    unfold writO
    rw [htl, htl2]
    by_cases hi : i / 128 = q
    · rw [if_pos hi, layB_get _ _ _ (by rw [hyl, hol]; omega), hyl]
      by_cases h1 : i % 128 < r
      · rw [if_pos h1, octB_get L1 q (i % 128) (Nat.mod_lt _ (by omega)), show 128 * q + i % 128 = i from by omega, ho]
        unfold writO
        rw [htl]
        by_cases h2 : off ≤ i
        · rw [if_pos ⟨h2, by omega⟩, if_pos ⟨h2, by omega⟩, List.getElem?_take, if_pos (by omega), List.getElem?_take, if_pos (by omega)]
        · rw [if_neg (by omega), if_neg (by omega)]
      · rw [if_neg h1]
        by_cases h2 : i % 128 < r + k
        · rw [if_pos h2, if_pos ⟨by omega, by omega⟩, List.getElem?_take, if_pos (by omega), List.getElem?_drop, List.getElem?_take, if_pos (by omega)]
          rw [show j + (i % 128 - r) = i - off from by omega]
        · rw [if_neg h2, octB_get L1 q (i % 128) (Nat.mod_lt _ (by omega)), show 128 * q + i % 128 = i from by omega, ho]
          unfold writO
          rw [htl, if_neg (by omega), if_neg (by omega)]
    · rw [if_neg hi]
      by_cases h2 : off ≤ i ∧ i < off + j
      · rw [if_pos h2, if_pos ⟨h2.1, by omega⟩, List.getElem?_take, if_pos (by omega), List.getElem?_take, if_pos (by omega)]
      · rw [if_neg h2, if_neg (by omega)]
  · rw [hasF_put L1 q _ hs.1, hh]
    unfold touched
    rw [htl, htl2]
    have e1 : (off + (j + k) - 1) / 128 = q := by omega
    rw [e1]
    rw [Bool.eq_iff_iff]
    simp only [Bool.or_eq_true, Bool.and_eq_true, decide_eq_true_eq]
    constructor
    · rintro (h | h | ⟨h1, h2, h3⟩)
      · exact .inr ⟨by omega, by omega, by omega⟩
      · exact .inl h
      · exact .inr ⟨by omega, h2, by omega⟩
    · rintro (h | ⟨h1, h2, h3⟩)
      · exact .inr (.inl h)
      · by_cases hn : n = q
        · exact .inl (by omega)
        · exact .inr (.inr ⟨by omega, h2, by omega⟩)
theorem blocksW_step (off j k q r len : Nat) (hj : j < len) (hq : (off + j) / 128 = q) (hr : (off + j) % 128 = r) (hk : k = min (len - j) (128 - r)) (hb : j = 0 ∨ r = 0) : blocksW off (j + k) = blocksW off j ++ [(q : Int)] := by
  have e1 : (off + (j + k) - 1) / 128 = q := by omega
  unfold blocksW
  rw [if_neg (by omega), e1]
  by_cases h0 : j = 0
  · subst h0
    rw [if_pos rfl, show off / 128 = q from by omega, Nat.sub_self]
    simp [tab]
  · rw [if_neg h0]
    have e2 : (off + j - 1) / 128 + 1 = q := by omega
    rw [show q - off / 128 + 1 = ((off + j - 1) / 128 - off / 128 + 1) + 1 from by omega, tab_snoc]
    rw [show off / 128 + ((off + j - 1) / 128 - off / 128 + 1) = q from by omega]
theorem std_has {L : List Pc} (h : Asc L) {p : Pc} (hp : p ∈ L) : hasF L p.1 = true := by
  unfold hasF
  rw [blk_mem h (n := p.1) (b := p.2) hp]; rfl
theorem WInv.ok (L L1 : List Pc) (size : Int) (off : Nat) (b : List UInt8) (hf : OkF size L) (h : WInv L off b L1) (hs : off + b.length ≤ 463488) : OkF (sizeW size off b.length) L1 := by
  obtain ⟨h0, h1, ⟨ha, hp⟩, hn, hz⟩ := hf
  obtain ⟨hs1, ho, hh⟩ := h
  have hsw : size ≤ sizeW size off b.length ∧ sizeW size off b.length ≤ 463488 ∧ (0 < b.length → ((off + b.length : Nat) : Int) ≤ sizeW size off b.length) := by
    unfold sizeW
    split
    · exact ⟨Int.le_refl _, h1, fun h => by omega⟩
    · exact ⟨by omega, by omega, fun _ => by omega⟩
  refine ⟨by omega, hsw.2.1, hs1, fun p hp' => ?_, fun i hi => ?_⟩
  · have hp0 := (hs1.2 p hp').1
    obtain ⟨n, hn'⟩ : ∃ n : Nat, p.1 = n := ⟨p.1.toNat, by omega⟩
    have := std_has hs1.1 hp'
    rw [hn', hh, Bool.or_eq_true] at this
    rcases this with h | h
    · unfold hasF at h
      cases hb : blk L n with
      | none => rw [hb] at h; cases h
      | some c =>
        have := hn _ (blk_some hb)
        simp only at this
        omega
    · unfold touched at h
      simp only [Bool.and_eq_true, decide_eq_true_eq] at h
      have := hsw.2.2 h.1
      omega
  · rw [ho]
    unfold writO
    rw [if_neg (fun hc => by have := hsw.2.2 (by omega); omega)]
    exact hz i (by omega)
theorem asc_low : ∀ (L : List Pc) (m : Int), Asc L → (∀ p ∈ L, m ≤ p.1) → ∀ (k : Nat) (x : Pc), L[k]? = some x → m + (k : Int) ≤ x.1
  | [], m, _, _, k, x, h => by simp at h
  | a :: t, m, ha, hm, 0, x, h => by
    simp at h
    subst h
    have := hm a (List.mem_cons_self)
    simpa using this
  | a :: t, m, ha, hm, k + 1, x, h => by
    have h' : t[k]? = some x := by simpa using h
    unfold Asc at ha
    rw [List.pairwise_cons] at ha
    have h0 := hm a (List.mem_cons_self)
    have := asc_low t (m + 1) ha.2 (fun p hp => by have := ha.1 p hp; omega) k x h'
    omega
theorem asc_len (L : List Pc) (m : Nat) (ha : Asc L) (h0 : ∀ p ∈ L, 0 ≤ p.1) (hm : ∀ p ∈ L, p.1 < (m : Int)) : L.length ≤ m := by
  refine Nat.le_of_not_lt fun hlt => ?_
  obtain ⟨x, hx⟩ : ∃ x, L[m]? = some x := ⟨_, List.getElem?_eq_getElem hlt⟩
  have h1 := asc_low L 0 ha h0 m x hx
  have h2 := hm x (List.mem_iff_getElem?.2 ⟨m, hx⟩)
  omega
theorem ok_len {size : Int} {L : List Pc} (h : OkF size L) : L.length ≤ 3621 :=
  asc_len L 3621 h.2.2.1.1 (fun p hp => (h.2.2.1.2 p hp).1) (fun p hp => by have := h.2.2.2.1 p hp; have := h.2.1; omega)
/-- While it is written: no more blocks than a file may have. -/
theorem WInv.len (L L1 : List Pc) (size : Int) (off : Nat) (b : List UInt8) (hf : OkF size L) (h : WInv L off b L1) (hs : off + b.length ≤ 463488) : L1.length ≤ 3621 := ok_len (h.ok L L1 size off b hf hs)
end Go.Proofs.Ytpofkkoiicdpbaa
