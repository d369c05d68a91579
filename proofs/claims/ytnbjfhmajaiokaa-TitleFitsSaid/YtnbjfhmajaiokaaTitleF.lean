/-
  Walks: the reference's counts, names, heads and cuts.
-/
import Derived.Test.YtnbjfhmajaiokaaTitleE
namespace Go.Proofs.Ytnbjfhmajaiokaa
open Go.RowKit

theorem cellsR_get (rs : List Rn) : ∀ (k : Nat) (r : Rn), rs[k]? = some r → (cellsR rs)[k * 3]? = some (.int .i64 r.v) ∧ (cellsR rs)[k * 3 + 1]? = some (.string (st r.o)) ∧ (cellsR rs)[k * 3 + 2]? = some (.bool r.odd) := by
  induction rs with
  | nil => intro k r h; simp at h
  | cons x rs ih =>
    intro k r h
    have e : cellsR (x :: rs) = .int .i64 x.v :: .string (st x.o) :: .bool x.odd :: cellsR rs := rfl
    cases k with
    | zero => simp at h; subst h; rw [e]; simp
    | succ k =>
      have := ih k r (by simpa using h)
      rw [e, show (k + 1) * 3 = k * 3 + 1 + 1 + 1 from by omega, show k * 3 + 1 + 1 + 1 + 1 = (k * 3 + 1) + 1 + 1 + 1 from by omega, show k * 3 + 1 + 1 + 1 + 2 = (k * 3 + 2) + 1 + 1 + 1 from by omega]
      simpa only [List.getElem?_cons_succ] using this

/-- What a walk reads of a list of runes in memory. -/
theorem rune_at {w : World} {B n : Nat} {A : Option Addr} {rs : List Rn} (h : Rd w B 3 A n (cellsR rs)) {k : Nat} (hk : k < n) :
    ∃ g o r, A = some ⟨g, o, none⟩ ∧ g < B ∧ rs[k]? = some r ∧ w.cell? ⟨g, o + k * 3, none⟩ = some (.int .i64 r.v) ∧ w.cell? ⟨g, o + k * 3 + 1, none⟩ = some (.string (st r.o)) ∧ w.cell? ⟨g, o + k * 3 + 2, none⟩ = some (.bool r.odd) := by
  obtain ⟨g, o, e, hb, hc⟩ := h.2 (by omega)
  have hl := h.1
  rw [cellsR_len] at hl
  have hkl : k < rs.length := by omega
  have hx := cellsR_get rs k rs[k] (List.getElem?_eq_getElem hkl)
  exact ⟨g, o, rs[k], e, hb, List.getElem?_eq_getElem hkl, hc _ _ hx.1, by rw [Nat.add_assoc]; exact hc _ _ hx.2.1, by rw [Nat.add_assoc]; exact hc _ _ hx.2.2⟩

theorem take_snoc {α : Type} (l : List α) (k : Nat) (r : α) (h : l[k]? = some r) : l.take (k + 1) = l.take k ++ [r] := by
  rw [List.take_add_one, h]; rfl
theorem get_lt {α : Type} {l : List α} {k : Nat} {r : α} (h : l[k]? = some r) : k < l.length := (List.getElem?_eq_some_iff.1 h).1

set_option maxHeartbeats 400000 in
theorem rsign_any (r : Rn) (o : ByteArray) (w : World) :
    Calls Try.prog 30 #[.agg #[.int .i64 r.v, .string o, .bool r.odd]] w fun e w' => e = .returned (.bool (signR r)) ∧ Below w.heap.size w w' := by
  have hs : signR r = (!r.odd && decide (32 ≤ r.v) && decide (r.v ≠ 127) && decide (r.v ≠ 47)) := rfl
  have HS := Lib.hid hs
  clear hs
  obtain ⟨v, q, odd⟩ := r
  cases odd with
  | true =>
    go_enter Try.func30, Try.ntmps30
    go_wp2
    go_ret
    exact ⟨ret_bool (by rw [HS.out]; rfl), (Below.refl _ _).alloc (Nat.le_refl _) _⟩
  | false =>
    by_cases h1 : 32 ≤ v
    · by_cases h2 : v = 127
      · subst h2
        go_enter Try.func30, Try.ntmps30
        go_wp2
        go_ret
        exact ⟨ret_bool (by rw [HS.out]; rfl), (Below.refl _ _).alloc (Nat.le_refl _) _⟩
      · by_cases h3 : v = 47
        · subst h3
          go_enter Try.func30, Try.ntmps30
          go_wp2
          go_ret
          exact ⟨ret_bool (by rw [HS.out]; rfl), (Below.refl _ _).alloc (Nat.le_refl _) _⟩
        · have e2 : (v != 127) = true := by simpa using h2
          have e3 : (v != 47) = true := by simpa using h3
          go_enter Try.func30, Try.ntmps30
          go_wp2
          go_ret
          exact ⟨ret_bool (by rw [HS.out]; simp [h1, h2, h3]), (Below.refl _ _).alloc (Nat.le_refl _) _⟩
    · go_enter Try.func30, Try.ntmps30
      go_wp2
      go_ret
      exact ⟨ret_bool (by rw [HS.out]; simp; omega), (Below.refl _ _).alloc (Nat.le_refl _) _⟩

theorem ret_int {k : IntKind} {a b : Int} (h : a = b) : Ending.returned (.int k a) = .returned (.int k b) := by rw [h]
theorem ret_ints {k : IntKind} {a b a' b' : Int} (h1 : a = a') (h2 : b = b') : Ending.returned (.tuple #[.int k a, .int k b]) = .returned (.tuple #[.int k a', .int k b']) := by rw [h1, h2]
def oddN (l : List Rn) : Nat := (l.filter (·.odd)).length
theorem oddN_le (l : List Rn) : oddN l ≤ l.length := List.length_filter_le _ _
theorem oddN_snoc (l : List Rn) (r : Rn) : oddN (l ++ [r]) = oddN l + if r.odd then 1 else 0 := by
  unfold oddN; rw [List.filter_append]; cases h : r.odd <;> simp [h]

set_option maxHeartbeats 1000000 in
theorem rCount_any (s : ByteArray) (w : World) (hs : s.size ≤ 1000000) :
    Calls Try.prog 12 #[.string s] w fun e w' => e = .returned (.tuple #[.int .i64 (wholes (oc s)), .int .i64 (strays (oc s))]) ∧ Below w.heap.size w w' := by
  have hrl := runes_len_le (oc s)
  rw [oc_len] at hrl
  have hcn := counts (oc s)
  have hst : strays (oc s) = oddN (runes (oc s)) := rfl
  generalize wholes (oc s) = wh at *
  generalize strays (oc s) = sr at *
  have HC := Lib.hid hcn
  have HT := Lib.hid hst
  clear hcn hst
  go_enter Try.func12, Try.ntmps12
  go_wp2_with fail
  refine (Runes_any s w hs).mono ?_
  rintro e w1 ⟨v, rfl, hown, hb⟩
  obtain ⟨A, c, rfl, hnc, hcm, hrd⟩ := own_form hown
  clear hown
  have hnl : (runes (oc s)).length ≤ 1000000 := by omega
  generalize hn : (runes (oc s)).length = n at *
  have HN := Lib.hid hn
  clear hn
  go_wp2
  go_loop [5, 6] (fun od i => ∃ k : Nat, k ≤ n ∧ i = .int .i64 k ∧ od = .int .i64 (oddN ((runes (oc s)).take k))) (fun _ i => n - (intOf i).toNat)
  case atStart => exact ⟨0, Nat.zero_le _, rfl, rfl⟩
  case round =>
    obtain ⟨k, hk, rfl, rfl⟩ := hrel
    by_cases hlt : k < n
    · obtain ⟨g, o, r, rfl, hg, hr, _, _, c2⟩ := rune_at hrd hlt
      have hsn := take_snoc _ k r hr
      have hos := oddN_snoc ((runes (oc s)).take k) r
      rw [← hsn] at hos
      have hle := oddN_le ((runes (oc s)).take k)
      rw [List.length_take] at hle
      have HO := Lib.hid hos
      clear hr hsn hos hrd
      cases hodd : r.odd with
      | true =>
        rw [hodd] at c2
        have HO' := HO.out
        rw [hodd] at HO'
        have HO2 := Lib.hid HO'
        clear HO' HO hodd
        go_wp2
        go_round
        case rel => exact ⟨k + 1, by omega, by go_num, by rw [HO2.out]; go_num⟩
        case measure => simp [intOf]; omega
      | false =>
        rw [hodd] at c2
        have HO' := HO.out
        rw [hodd] at HO'
        have HO2 := Lib.hid HO'
        clear HO' HO hodd
        go_wp2
        go_round
        case rel => exact ⟨k + 1, by omega, by go_num, by rw [HO2.out]; go_num⟩
        case measure => simp [intOf]; omega
    · have hle := oddN_le ((runes (oc s)).take k)
      rw [List.length_take] at hle
      have e : (runes (oc s)).take k = runes (oc s) := List.take_of_length_le (by rw [HN.out]; omega)
      have HE := Lib.hid e
      clear e
      go_wp2
      go_ret2
      refine ⟨?_, hb⟩
      rw [HE.out, ← HT.out]
      have := HC.out
      exact ret_ints (by omega) rfl

theorem ret_str {a b : ByteArray} (h : a = b) : Ending.returned (.string a) = .returned (.string b) := by rw [h]
theorem beq_dec (a b : List UInt8) : (a == b) = decide (a = b) := by rw [Bool.eq_iff_iff]; simp
theorem toList_oc (s : ByteArray) : s.toList = oc s := ByteArray.toList_eq s
theorem all_take_snoc (p : Rn → Bool) (l : List Rn) (k : Nat) (r : Rn) (h : l[k]? = some r) (ha : (l.take k).all p = true) (hp : p r = true) : (l.take (k + 1)).all p = true := by
  rw [take_snoc _ _ _ h, List.all_append, ha]; simp [hp]
theorem isName_no (l : List UInt8) (r : Rn) (k : Nat) (h : (runes l)[k]? = some r) (hp : signR r = false) : isName l = false := by
  cases hn : isName l with
  | false => rfl
  | true =>
    have := ((isName_iff l).1 hn).2.2.2.1 r (List.mem_of_getElem? h)
    rw [hp] at this; cases this
theorem isName_all (l : List UInt8) (h : (runes l).all signR = true) : isName l = (decide (1 ≤ l.length) && decide (l.length ≤ 24) && decide ((runes l).length ≤ 16) && decide (l ≠ [46]) && decide (l ≠ [46, 46])) := by
  unfold isName; rw [h, Bool.and_true]

set_option maxHeartbeats 2000000 in
theorem rIs_any (s : ByteArray) (w : World) (hs : s.size ≤ 1000000) :
    Calls Try.prog 14 #[.string s] w fun e w' => e = .returned (.bool (isName (oc s))) ∧ Below w.heap.size w w' := by
  have hrl := runes_len_le (oc s)
  rw [oc_len] at hrl
  go_enter Try.func14, Try.ntmps14
  go_wp2_with fail
  refine (Runes_any s w hs).mono ?_
  rintro e w1 ⟨v, rfl, hown, hb⟩
  obtain ⟨A, c, rfl, hnc, hcm, hrd⟩ := own_form hown
  clear hown
  have hnl : (runes (oc s)).length ≤ 1000000 := by omega
  generalize hn : (runes (oc s)).length = n at *
  have HN := Lib.hid hn
  clear hn
  go_wp2
  go_loopw [4] (fun i wr => ∃ k : Nat, k ≤ n ∧ i = .int .i64 k ∧ ((runes (oc s)).take k).all signR = true ∧ Below w1.heap.size w1 wr) (fun i _ => n - (intOf i).toNat)
  case atStart => exact ⟨0, Nat.zero_le _, rfl, rfl, Below.refl _ _⟩
  case round =>
    obtain ⟨k, hk, rfl, hall, hbw⟩ := hrel
    have HA := Lib.hid hall
    clear hall
    by_cases hlt : k < n
    · obtain ⟨g, o, r, rfl, hg, hr, c0, c1, c2⟩ := rune_at (hrd.below hbw) hlt
      have HR := Lib.hid hr
      clear hr hrd
      cases hsg : signR r with
      | true =>
        have HS := Lib.hid hsg
        go_wp2_with fail
        refine (rsign_any r (st r.o) _).mono ?_
        rintro e w2 ⟨rfl, hb2⟩
        have hb3 := hbw.trans (hb2.mono hbw.size)
        clear c0 c1 c2
        go_wp2
        go_roundw
        case rel => exact ⟨k + 1, by omega, by go_num, all_take_snoc _ _ _ r HR.out HA.out HS.out, hb3⟩
        case measure => simp [intOf]; omega
      | false =>
        have HS := Lib.hid hsg
        go_wp2_with fail
        refine (rsign_any r (st r.o) _).mono ?_
        rintro e w2 ⟨rfl, hb2⟩
        have hb3 := hbw.trans (hb2.mono hbw.size)
        clear c0 c1 c2
        go_wp2
        go_ret
        exact ⟨ret_bool (isName_no _ r k HR.out HS.out).symm, hb.trans (hb3.mono hb.size)⟩
    · have e : (runes (oc s)).take k = runes (oc s) := List.take_of_length_le (by rw [HN.out]; omega)
      have hq := HA.out
      rw [e] at hq
      have hi := isName_all (oc s) hq
      rw [oc_len, HN.out] at hi
      have HI := Lib.hid hi
      clear e hq hi
      have HL := Lib.hid (toList_oc s)
      go_wp2
      all_goals
        go_ret
        refine ⟨ret_bool ?_, hb.trans (hbw.mono hb.size)⟩
        rw [HI.out]
        try simp only [HL.out] at *
      · rename_i h1 h2 h3 h4; rw [h4]; simp
      · rename_i h1 h2 h3 h4
        rw [decide_eq_true (show 1 ≤ s.size by omega), decide_eq_true (show s.size ≤ 24 by omega), decide_eq_true (show n ≤ 16 by omega)]
        simp [beq_dec]
      · rw [decide_eq_false (show ¬ n ≤ 16 by omega)]; simp
      · rw [decide_eq_false (show ¬ s.size ≤ 24 by omega)]; simp
      · rw [decide_eq_false (show ¬ 1 ≤ s.size by omega)]; simp

theorem st_append (a b : List UInt8) : st (a ++ b) = st a ++ st b := oc_inj (by rw [oc_st]; simp [oc, st])
theorem octs_snoc (l : List Rn) (r : Rn) : octs (l ++ [r]) = octs l ++ r.o := by simp [octs]
theorem octs_len (l : List UInt8) (k : Nat) : (octs ((runes l).take k)).length ≤ l.length := head_len l k

set_option maxHeartbeats 1000000 in
theorem rHead_any (s : ByteArray) (m : Int) (w : World) (hs : s.size ≤ 1000000) :
    Calls Try.prog 22 #[.string s, .int .i64 m] w fun e w' => e = .returned (.string (st (headL (oc s) m.toNat))) ∧ Below w.heap.size w w' := by
  have hrl := runes_len_le (oc s)
  rw [oc_len] at hrl
  go_enter Try.func22, Try.ntmps22
  go_wp2_with fail
  refine (Runes_any s w hs).mono ?_
  rintro e w1 ⟨v, rfl, hown, hb⟩
  obtain ⟨A, c, rfl, hnc, hcm, hrd⟩ := own_form hown
  clear hown
  have hnl : (runes (oc s)).length ≤ 1000000 := by omega
  generalize hn : (runes (oc s)).length = n at *
  have HN := Lib.hid hn
  clear hn
  go_wp2
  go_loop [6, 7] (fun out i => ∃ k : Nat, k ≤ n ∧ (k = 0 ∨ (k : Int) ≤ m) ∧ i = .int .i64 k ∧ out = .string (st (octs ((runes (oc s)).take k)))) (fun _ i => n - (intOf i).toNat)
  case atStart => exact ⟨0, Nat.zero_le _, .inl rfl, rfl, rfl⟩
  case round =>
    obtain ⟨k, hk, hkm, rfl, rfl⟩ := hrel
    have hol := octs_len (oc s) k
    rw [oc_len] at hol
    have hos : (st (octs ((runes (oc s)).take k))).size ≤ 1000000 := by rw [st_size]; omega
    by_cases hlt : k < n ∧ (k : Int) < m
    · obtain ⟨hlt, hlm⟩ := hlt
      obtain ⟨g, o, r, rfl, hg, hr, _, c1, _⟩ := rune_at hrd hlt
      have hro : (st r.o).size ≤ 1000000 := by
        have := octs_len (oc s) (k + 1)
        rw [take_snoc _ k r hr, octs_snoc, List.length_append, oc_len] at this
        rw [st_size]; omega
      have hx : st (octs ((runes (oc s)).take (k + 1))) = st (octs ((runes (oc s)).take k)) ++ st r.o := by rw [take_snoc _ k r hr, octs_snoc, st_append]
      have HX := Lib.hid hx
      generalize st (octs ((runes (oc s)).take k)) = out at *
      generalize st r.o = q at *
      clear hx hr hrd
      go_wp2
      go_round
      case rel => exact ⟨k + 1, by omega, .inr (by omega), by go_num, by rw [HX.out]⟩
      case measure => simp [intOf]; omega
    · have e : headL (oc s) m.toNat = octs ((runes (oc s)).take k) := by
        unfold headL
        by_cases h : k < n
        · have : m.toNat = k := by omega
          rw [this]
        · rw [List.take_of_length_le (by rw [HN.out]; omega), List.take_of_length_le (by rw [HN.out]; omega)]
      have HE := Lib.hid e
      clear e
      by_cases h : k < n
      · have h' : ¬ (k : Int) < m := by omega
        go_wp2
        go_ret
        rw [HE.out]
        exact ⟨rfl, hb⟩
      · go_wp2
        go_ret
        rw [HE.out]
        exact ⟨rfl, hb⟩

theorem cutGo_done (n : Nat) (out : List UInt8) (rs : List Rn) (r : Rn) (k : Nat) (hr : rs[k]? = some r) :
    cutGo n out (rs.drop k) = if signR r = false then cutGo n out (rs.drop (k + 1)) else if n = 16 ∨ 24 < out.length + r.o.length then out else cutGo (n + 1) (out ++ r.o) (rs.drop (k + 1)) := by
  obtain ⟨hl, rfl⟩ := List.getElem?_eq_some_iff.1 hr
  rw [List.drop_eq_getElem_cons hl, cutGo]

set_option maxHeartbeats 2000000 in
theorem rcut_any (s : ByteArray) (w : World) (hs : s.size ≤ 1000000) :
    Calls Try.prog 33 #[.string s] w fun e w' => e = .returned (.string (st (cutL (oc s)))) ∧ Below w.heap.size w w' := by
  have hrl := runes_len_le (oc s)
  rw [oc_len] at hrl
  go_enter Try.func33, Try.ntmps33
  go_wp2_with fail
  refine (Runes_any s w hs).mono ?_
  rintro e w1 ⟨v, rfl, hown, hb⟩
  obtain ⟨A, c, rfl, hnc, hcm, hrd⟩ := own_form hown
  clear hown
  have hnl : (runes (oc s)).length ≤ 1000000 := by omega
  generalize hn : (runes (oc s)).length = n at *
  have HN := Lib.hid hn
  clear hn
  go_wp2
  go_loopw [4, 5, 6] (fun out m i wr => ∃ (k j : Nat) (q : List UInt8), k ≤ n ∧ i = .int .i64 k ∧ m = .int .i64 j ∧ j ≤ 16 ∧ q.length ≤ 24 ∧ out = .string (st q) ∧ cutL (oc s) = cutGo j q ((runes (oc s)).drop k) ∧ Below w1.heap.size w1 wr) (fun _ _ i _ => n - (intOf i).toNat)
  case atStart => exact ⟨0, 0, [], Nat.zero_le _, rfl, rfl, by omega, by simp, rfl, rfl, Below.refl _ _⟩
  case round =>
    obtain ⟨k, j, q, hk, rfl, rfl, hj, hq, rfl, hcut, hbw⟩ := hrel
    have HC := Lib.hid hcut
    clear hcut
    have hqs := st_size q
    by_cases hlt : k < n
    · obtain ⟨g, o, r, rfl, hg, hr, c0, c1, c2⟩ := rune_at (hrd.below hbw) hlt
      have hd := cutGo_done j q _ r k hr
      rw [← HC.out] at hd
      have HD := Lib.hid hd
      have hro : (st r.o).size ≤ 1000000 := by
        have := octs_len (oc s) (k + 1)
        rw [take_snoc _ k r hr, octs_snoc, List.length_append, oc_len] at this
        rw [st_size]; omega
      have hrs := st_size r.o
      have happ := st_append q r.o
      have HP := Lib.hid happ
      clear hr hrd hd HC happ
      have hrd2 := fun w2 (hb2 : Below w1.heap.size w1 w2) => True
      generalize hst : st q = sq at *
      generalize hst2 : st r.o = ro at *
      have HQ1 := Lib.hid hst
      have HQ2 := Lib.hid hst2
      have HQ3 := Lib.hid hqs
      have HQ4 := Lib.hid hrs
      have hqs' : sq.size ≤ 24 := by omega
      clear hst hst2 hqs hrs
      cases hsg : signR r with
      | false =>
        have HS := Lib.hid hsg
        go_wp2_with fail
        refine (rsign_any r ro _).mono ?_
        rintro e w2 ⟨rfl, hb2⟩
        have hb3 := hbw.trans (hb2.mono hbw.size)
        clear c0 c1 c2
        go_wp2
        go_roundw
        case rel => exact ⟨k + 1, j, q, by omega, by go_num, rfl, hj, hq, by rw [HQ1.out], by rw [HD.out, if_pos HS.out], hb3⟩
        case measure => simp [intOf]; omega
      | true =>
        have HS := Lib.hid hsg
        have hns : ¬ signR r = false := by rw [hsg]; simp
        have HNS := Lib.hid hns
        clear hns
        go_wp2_with fail
        refine (rsign_any r ro _).mono ?_
        rintro e w2 ⟨rfl, hb2⟩
        have hb3 := hbw.trans (hb2.mono hbw.size)
        have c1' : w2.cell? ⟨g, o + k * 3 + 1, none⟩ = some (.string ro) := (hb2.cell (p := ⟨g, o + k * 3 + 1, none⟩) (by have := hbw.size; dsimp only; omega)).trans c1
        clear c0 c1 c2
        by_cases h16 : j = 16
        · have h16' : ((j : Int) == 16) = true := by simp; omega
          have hres : cutL (oc s) = q := by rw [HD.out, if_neg HNS.out, if_pos (.inl h16)]
          have HRE := Lib.hid hres
          clear hres h16
          go_wp2
          go_ret
          refine ⟨ret_str (by rw [HRE.out, HQ1.out]), hb.trans (hb3.mono hb.size)⟩
        · have h16' : ((j : Int) == 16) = false := by simp; omega
          by_cases h24 : 24 < sq.size + ro.size
          · have hres : cutL (oc s) = q := by rw [HD.out, if_neg HNS.out, if_pos (.inr (by rw [← HQ3.out, ← HQ4.out]; omega))]
            have HRE := Lib.hid hres
            clear hres h16
            go_wp2
            go_ret
            refine ⟨ret_str (by rw [HRE.out, HQ1.out]), hb.trans (hb3.mono hb.size)⟩
          · have hres : cutL (oc s) = cutGo (j + 1) (q ++ r.o) ((runes (oc s)).drop (k + 1)) := by rw [HD.out, if_neg HNS.out, if_neg (by rw [← HQ3.out, ← HQ4.out]; omega)]
            have HRE := Lib.hid hres
            clear hres
            go_wp2
            go_roundw
            case rel => exact ⟨k + 1, j + 1, q ++ r.o, by omega, by go_num, by go_num, by omega, by rw [List.length_append, ← HQ3.out, ← HQ4.out]; omega, by rw [HP.out], HRE.out, hb3⟩
            case measure => simp [intOf]; omega
    · have e : cutL (oc s) = q := by
        rw [HC.out, List.drop_eq_nil_of_le (by rw [HN.out]; omega)]; rfl
      have HE := Lib.hid e
      clear e
      go_wp2
      go_ret
      exact ⟨ret_str (by rw [HE.out]), hb.trans (hbw.mono hb.size)⟩

theorem cutL_len (l : List UInt8) : (cutL l).length ≤ 24 := by
  obtain ⟨all, h1, _, _, _, h2⟩ := cut_form l
  rw [h1]; exact h2

set_option maxHeartbeats 1000000 in
theorem rFit_any (s : ByteArray) (w : World) (hs : s.size ≤ 1000000) :
    Calls Try.prog 20 #[.string s] w fun e w' => e = .returned (.string (st (fitL (oc s)))) ∧ Below w.heap.size w w' := by
  have hcl := cutL_len (oc s)
  have hf : fitL (oc s) = if isName (cutL (oc s)) then cutL (oc s) else cutL (120 :: cutL (oc s)) := rfl
  have HF := Lib.hid hf
  clear hf
  generalize hc : cutL (oc s) = c at *
  have HC := Lib.hid hc
  clear hc
  have hcs := st_size c
  have hx : (⟨#[120]⟩ : ByteArray) ++ st c = st (120 :: c) := oc_inj (by rw [oc_st]; simp [oc, st])
  have hxs := st_size (120 :: c)
  rw [List.length_cons] at hxs
  have HX := Lib.hid hx
  clear hx
  cases hi : isName c with
  | true =>
    have HI := Lib.hid hi
    have hfin : fitL (oc s) = c := by rw [HF.out, if_pos HI.out]
    have HFI := Lib.hid hfin
    clear hfin HF
    go_enter Try.func20, Try.ntmps20
    go_wp2_with fail
    refine (rcut_any s w hs).mono ?_
    rintro e w1 ⟨rfl, hb1⟩
    rw [HC.out]
    have hcs' : (st c).size ≤ 24 := by omega
    have HO := Lib.hid (oc_st c)
    generalize st c = q at *
    clear hcs hxs
    go_wp2_with fail
    refine (rIs_any q _ (by omega)).mono ?_
    rintro e w2 ⟨rfl, hb2⟩
    rw [HO.out, HI.out]
    go_wp2
    go_ret
    refine ⟨ret_str (by rw [HFI.out, ← HO.out, st_oc]), hb1.trans (hb2.mono hb1.size)⟩
  | false =>
    have HI := Lib.hid hi
    have hfin : fitL (oc s) = cutL (120 :: c) := by rw [HF.out, if_neg (by rw [HI.out]; simp)]
    have HFI := Lib.hid hfin
    clear hfin HF
    go_enter Try.func20, Try.ntmps20
    go_wp2_with fail
    refine (rcut_any s w hs).mono ?_
    rintro e w1 ⟨rfl, hb1⟩
    rw [HC.out]
    have hcs' : (st c).size ≤ 24 := by omega
    have HO := Lib.hid (oc_st c)
    have HO2 := Lib.hid (oc_st (120 :: c))
    generalize st c = q at *
    generalize st (120 :: c) = q2 at *
    have hq2 : q2.size ≤ 30 := by omega
    clear hcs hxs
    go_wp2_with fail
    refine (rIs_any q _ (by omega)).mono ?_
    rintro e w2 ⟨rfl, hb2⟩
    rw [HO.out, HI.out]
    go_wp2_with fail
    rw [HX.out]
    refine (rcut_any q2 _ (by omega)).mono ?_
    rintro e w3 ⟨rfl, hb3⟩
    rw [HO2.out]
    go_wp2
    go_ret
    have hb12 := hb1.trans (hb2.mono hb1.size)
    refine ⟨ret_str (by rw [HFI.out]), hb12.trans (hb3.mono hb12.size)⟩
end Go.Proofs.Ytnbjfhmajaiokaa
