/-
  Walks: the reference's counts, names, heads and cuts.
-/
import Derived.Test.YtpjghildhhpeeaaTitleE
namespace Go.Proofs.Ytpjghildhhpeeaa
open Go.RowKit

theorem cellsR_get (rs : List Rn) : ∀ (k : Nat) (r : Rn), rs[k]? = some r → (cellsR rs)[k * 3]? = some (.int .i64 r.v) ∧ (cellsR rs)[k * 3 + 1]? = some (.string (st r.o)) ∧ (cellsR rs)[k * 3 + 2]? = some (.bool r.odd) := by
  induction rs with
  | nil => intro k r h; simp at h
  | cons x rs ih =>
    intro k r h
    have e : cellsR (x :: rs) = .int .i64 x.v :: .string (st x.o) :: .bool x.odd :: cellsR rs := rfl
    cases k with
    | zero => simp at h; subst h; rw [e]; simp
    | succ k =>
      have := ih k r (by simpa using h)
      rw [e, show (k + 1) * 3 = k * 3 + 1 + 1 + 1 from by omega, show k * 3 + 1 + 1 + 1 + 1 = (k * 3 + 1) + 1 + 1 + 1 from by omega, show k * 3 + 1 + 1 + 1 + 2 = (k * 3 + 2) + 1 + 1 + 1 from by omega]
      simpa only [List.getElem?_cons_succ] using this

/-- What a walk reads of a list of runes in memory. -/
theorem rune_at {w : World} {B n : Nat} {A : Option Addr} {rs : List Rn} (h : Rd w B 3 A n (cellsR rs)) {k : Nat} (hk : k < n) :
    ∃ g o r, A = some ⟨g, o, none⟩ ∧ g < B ∧ rs[k]? = some r ∧ w.cell? ⟨g, o + k * 3, none⟩ = some (.int .i64 r.v) ∧ w.cell? ⟨g, o + k * 3 + 1, none⟩ = some (.string (st r.o)) ∧ w.cell? ⟨g, o + k * 3 + 2, none⟩ = some (.bool r.odd) := by
  obtain ⟨g, o, e, hb, hc⟩ := h.2 (by omega)
  have hl := h.1
  rw [cellsR_len] at hl
  have hkl : k < rs.length := by omega
  have hx := cellsR_get rs k rs[k] (List.getElem?_eq_getElem hkl)
  exact ⟨g, o, rs[k], e, hb, List.getElem?_eq_getElem hkl, hc _ _ hx.1, by rw [Nat.add_assoc]; exact hc _ _ hx.2.1, by rw [Nat.add_assoc]; exact hc _ _ hx.2.2⟩

set_option maxHeartbeats 400000 in
theorem rsign_any (r : Rn) (o : ByteArray) (w : World) :
    Calls Try.prog 45 #[.agg #[.int .i64 r.v, .string o, .bool r.odd]] w fun e w' => e = .returned (.bool (signR r)) ∧ Below w.heap.size w w' := by
  have hs : signR r = (!r.odd && decide (32 ≤ r.v) && decide (r.v ≠ 127) && decide (r.v ≠ 47)) := rfl
  have HS := Lib.hid hs
  clear hs
  obtain ⟨v, q, odd⟩ := r
  cases odd with
  | true =>
    go_enter Try.func45, Try.ntmps45
    go_wp2
    go_ret
    exact ⟨ret_bool (by rw [HS.out]; rfl), (Below.refl _ _).alloc (Nat.le_refl _) _⟩
  | false =>
    by_cases h1 : 32 ≤ v
    · by_cases h2 : v = 127
      · subst h2
        go_enter Try.func45, Try.ntmps45
        go_wp2
        go_ret
        exact ⟨ret_bool (by rw [HS.out]; rfl), (Below.refl _ _).alloc (Nat.le_refl _) _⟩
      · by_cases h3 : v = 47
        · subst h3
          go_enter Try.func45, Try.ntmps45
          go_wp2
          go_ret
          exact ⟨ret_bool (by rw [HS.out]; rfl), (Below.refl _ _).alloc (Nat.le_refl _) _⟩
        · have e2 : (v != 127) = true := by simpa using h2
          have e3 : (v != 47) = true := by simpa using h3
          go_enter Try.func45, Try.ntmps45
          go_wp2
          go_ret
          exact ⟨ret_bool (by rw [HS.out]; simp [h1, h2, h3]), (Below.refl _ _).alloc (Nat.le_refl _) _⟩
    · go_enter Try.func45, Try.ntmps45
      go_wp2
      go_ret
      exact ⟨ret_bool (by rw [HS.out]; simp; omega), (Below.refl _ _).alloc (Nat.le_refl _) _⟩

def oddN (l : List Rn) : Nat := (l.filter (·.odd)).length
theorem oddN_le (l : List Rn) : oddN l ≤ l.length := List.length_filter_le _ _
theorem oddN_snoc (l : List Rn) (r : Rn) : oddN (l ++ [r]) = oddN l + if r.odd then 1 else 0 := by
  unfold oddN; rw [List.filter_append]; cases h : r.odd <;> simp [h]

set_option maxHeartbeats 1000000 in
theorem rCount_any (s : ByteArray) (w : World) (hs : s.size ≤ 1000000) :
    Calls Try.prog 48 #[.string s] w fun e w' => e = .returned (.tuple #[.int .i64 (wholes (oc s)), .int .i64 (strays (oc s))]) ∧ Below w.heap.size w w' := by
  have hrl := runes_len_le (oc s)
  rw [oc_len] at hrl
  have hcn := counts (oc s)
  have hst : strays (oc s) = oddN (runes (oc s)) := rfl
  generalize wholes (oc s) = wh at *
  generalize strays (oc s) = sr at *
  have HC := Lib.hid hcn
  have HT := Lib.hid hst
  clear hcn hst
  go_enter Try.func48, Try.ntmps48
  go_wp2_with fail
  refine (Runes_any s w hs).mono ?_
  rintro e w1 ⟨v, rfl, hown, hb⟩
  obtain ⟨A, c, rfl, hnc, hcm, hrd⟩ := own_form hown
  clear hown
  have hnl : (runes (oc s)).length ≤ 1000000 := by omega
  generalize hn : (runes (oc s)).length = n at *
  have HN := Lib.hid hn
  clear hn
  go_wp2
  go_loop [5, 6] (fun od i => ∃ k : Nat, k ≤ n ∧ i = .int .i64 k ∧ od = .int .i64 (oddN ((runes (oc s)).take k))) (fun _ i => n - (intOf i).toNat)
  case atStart => exact ⟨0, Nat.zero_le _, rfl, rfl⟩
  case round =>
    obtain ⟨k, hk, rfl, rfl⟩ := hrel
    by_cases hlt : k < n
    · obtain ⟨g, o, r, rfl, hg, hr, _, _, c2⟩ := rune_at hrd hlt
      have hsn := take_snoc _ k r hr
      have hos := oddN_snoc ((runes (oc s)).take k) r
      rw [← hsn] at hos
      have hle := oddN_le ((runes (oc s)).take k)
      rw [List.length_take] at hle
      have HO := Lib.hid hos
      clear hr hsn hos hrd
      cases hodd : r.odd with
      | true =>
        rw [hodd] at c2
        have HO' := HO.out
        rw [hodd] at HO'
        have HO2 := Lib.hid HO'
        clear HO' HO hodd
        go_wp2
        go_round
        case rel => exact ⟨k + 1, by omega, by go_num, by rw [HO2.out]; go_num⟩
        case measure => simp [intOf]; omega
      | false =>
        rw [hodd] at c2
        have HO' := HO.out
        rw [hodd] at HO'
        have HO2 := Lib.hid HO'
        clear HO' HO hodd
        go_wp2
        go_round
        case rel => exact ⟨k + 1, by omega, by go_num, by rw [HO2.out]; go_num⟩
        case measure => simp [intOf]; omega
    · have hle := oddN_le ((runes (oc s)).take k)
      rw [List.length_take] at hle
      have e : (runes (oc s)).take k = runes (oc s) := List.take_of_length_le (by rw [HN.out]; omega)
      have HE := Lib.hid e
      clear e
      go_wp2
      go_ret2
      refine ⟨?_, hb⟩
      rw [HE.out, ← HT.out]
      have := HC.out
      exact ret_ints (by omega) rfl

theorem toList_oc (s : ByteArray) : s.toList = oc s := ByteArray.toList_eq s
theorem all_take_snoc (p : Rn → Bool) (l : List Rn) (k : Nat) (r : Rn) (h : l[k]? = some r) (ha : (l.take k).all p = true) (hp : p r = true) : (l.take (k + 1)).all p = true := by
  rw [take_snoc _ _ _ h, List.all_append, ha]; simp [hp]
theorem isName_no (l : List UInt8) (r : Rn) (k : Nat) (h : (runes l)[k]? = some r) (hp : signR r = false) : isName l = false := by
  cases hn : isName l with
  | false => rfl
  | true =>
    have := ((isName_iff l).1 hn).2.2.2.1 r (List.mem_of_getElem? h)
    rw [hp] at this; cases this
theorem isName_all (l : List UInt8) (h : (runes l).all signR = true) : isName l = (decide (1 ≤ l.length) && decide (l.length ≤ 24) && decide ((runes l).length ≤ 16) && decide (l ≠ [46]) && decide (l ≠ [46, 46])) := by
  unfold isName; rw [h, Bool.and_true]

set_option maxHeartbeats 2000000 in
theorem rIs_any (s : ByteArray) (w : World) (hs : s.size ≤ 1000000) :
    Calls Try.prog 25 #[.string s] w fun e w' => e = .returned (.bool (isName (oc s))) ∧ Below w.heap.size w w' := by
  have hrl := runes_len_le (oc s)
  rw [oc_len] at hrl
  go_enter Try.func25, Try.ntmps25
  go_wp2_with fail
  refine (Runes_any s w hs).mono ?_
  rintro e w1 ⟨v, rfl, hown, hb⟩
  obtain ⟨A, c, rfl, hnc, hcm, hrd⟩ := own_form hown
  clear hown
  have hnl : (runes (oc s)).length ≤ 1000000 := by omega
  generalize hn : (runes (oc s)).length = n at *
  have HN := Lib.hid hn
  clear hn
  go_wp2
  go_loopw [4] (fun i wr => ∃ k : Nat, k ≤ n ∧ i = .int .i64 k ∧ ((runes (oc s)).take k).all signR = true ∧ Below w1.heap.size w1 wr) (fun i _ => n - (intOf i).toNat)
  case atStart => exact ⟨0, Nat.zero_le _, rfl, rfl, Below.refl _ _⟩
  case round =>
    obtain ⟨k, hk, rfl, hall, hbw⟩ := hrel
    have HA := Lib.hid hall
    clear hall
    by_cases hlt : k < n
    · obtain ⟨g, o, r, rfl, hg, hr, c0, c1, c2⟩ := rune_at (hrd.below hbw) hlt
      have HR := Lib.hid hr
      clear hr hrd
      cases hsg : signR r with
      | true =>
        have HS := Lib.hid hsg
        go_wp2_with fail
        refine (rsign_any r (st r.o) _).mono ?_
        rintro e w2 ⟨rfl, hb2⟩
        have hb3 := hbw.trans (hb2.mono hbw.size)
        clear c0 c1 c2
        go_wp2
        go_roundw
        case rel => exact ⟨k + 1, by omega, by go_num, all_take_snoc _ _ _ r HR.out HA.out HS.out, hb3⟩
        case measure => simp [intOf]; omega
      | false =>
        have HS := Lib.hid hsg
        go_wp2_with fail
        refine (rsign_any r (st r.o) _).mono ?_
        rintro e w2 ⟨rfl, hb2⟩
        have hb3 := hbw.trans (hb2.mono hbw.size)
        clear c0 c1 c2
        go_wp2
        go_ret
        exact ⟨ret_bool (isName_no _ r k HR.out HS.out).symm, hb.trans (hb3.mono hb.size)⟩
    · have e : (runes (oc s)).take k = runes (oc s) := List.take_of_length_le (by rw [HN.out]; omega)
      have hq := HA.out
      rw [e] at hq
      have hi := isName_all (oc s) hq
      rw [oc_len, HN.out] at hi
      have HI := Lib.hid hi
      clear e hq hi
      have HL := Lib.hid (toList_oc s)
      go_wp2
      all_goals
        go_ret
        refine ⟨ret_bool ?_, hb.trans (hbw.mono hb.size)⟩
        rw [HI.out]
        try simp only [HL.out] at *
      · rename_i h1 h2 h3 h4; rw [h4]; simp
      · rename_i h1 h2 h3 h4
        rw [decide_eq_true (show 1 ≤ s.size by omega), decide_eq_true (show s.size ≤ 24 by omega), decide_eq_true (show n ≤ 16 by omega)]
        simp [beq_dec]
      · rw [decide_eq_false (show ¬ n ≤ 16 by omega)]; simp
      · rw [decide_eq_false (show ¬ s.size ≤ 24 by omega)]; simp
      · rw [decide_eq_false (show ¬ 1 ≤ s.size by omega)]; simp

theorem st_append (a b : List UInt8) : st (a ++ b) = st a ++ st b := oc_inj (by rw [oc_st]; simp [oc, st])
theorem octs_snoc (l : List Rn) (r : Rn) : octs (l ++ [r]) = octs l ++ r.o := by simp [octs]
theorem octs_len (l : List UInt8) (k : Nat) : (octs ((runes l).take k)).length ≤ l.length := head_len l k

theorem cutGo_done (n : Nat) (out : List UInt8) (rs : List Rn) (r : Rn) (k : Nat) (hr : rs[k]? = some r) :
    cutGo n out (rs.drop k) = if signR r = false then cutGo n out (rs.drop (k + 1)) else if n = 16 ∨ 24 < out.length + r.o.length then out else cutGo (n + 1) (out ++ r.o) (rs.drop (k + 1)) := by
  obtain ⟨hl, rfl⟩ := List.getElem?_eq_some_iff.1 hr
  rw [List.drop_eq_getElem_cons hl, cutGo]

theorem cutL_len (l : List UInt8) : (cutL l).length ≤ 24 := by
  obtain ⟨all, h1, _, _, _, h2⟩ := cut_form l
  rw [h1]; exact h2

end Go.Proofs.Ytpjghildhhpeeaa
