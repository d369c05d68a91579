/-
  Walks: a file's block; a file's octets.
-/
import Derived.Test.YtpofkkoiicdpbaaSparseF
namespace Go.Proofs.Ytpofkkoiicdpbaa
open Go.RowKit
set_option linter.unusedVariables false

theorem okF_std {size : Int} {L : List Pc} (h : okF size L = true) : Std L := ((okF_iff size L).1 h).2.2.1
theorem RdB.nil (w : World) (B : Nat) (Q : Nat → Prop) : RdB w B Q (.slice none 0 0) [] := ⟨none, 0, 0, rfl, Nat.le_refl _, by simp [maxLen], fun _ => rfl, Rd.nil, fun h => absurd h (by omega)⟩
def blockF (size : Int) (L : List Pc) (q : Int) : List UInt8 := if okF size L = true ∧ hasF L q = true then octB L q else []

set_option maxHeartbeats 2000000 in
set_option maxRecDepth 100000 in
theorem Block_any (size q : Int) (A : Option Addr) (n c : Nat) (L : List Pc) (w : World) (h : IsP w w.heap.size A n c L) (hs : size ≤ 9223372036854775807) (hn : n ≤ 1000000) :
    Calls Try.prog 23 #[.agg #[.int .i64 size, .slice A n c], .int .i64 q] w fun e w' => (∃ v, e = .returned (.tuple #[v, .bool (okF size L && hasF L q)]) ∧ RdB w' w'.heap.size AnyB v (blockF size L q)) ∧ Below w.heap.size w w' := by
  have hM : ∀ W, Below w.heap.size w W → Calls Try.prog 21 #[.agg #[.int .i64 size, .slice A n c]] W fun e w' => e = .returned (.bool (okF size L)) ∧ Below W.heap.size W w' := fun W hW => May_any size A n c L W (h.later hW) hs hn
  have hb0 : Below w.heap.size w (w.alloc (.cells #[.int .i64 size, .slice A n c] 24)) := (Below.refl _ _).alloc (Nat.le_refl _) _
  cases hok : okF size L with
  | false =>
    have hbl : blockF size L q = [] := by unfold blockF; rw [hok]; simp
    rw [hok] at hM
    rw [hbl]
    have HM := Lib.hid hM
    clear hM hok hbl h
    go_enter Try.func23, Try.ntmps23
    go_wp2_with fail
    refine (HM.out _ hb0).mono ?_
    rintro e w1 ⟨rfl, h1⟩
    have hb1 := hb0.trans (h1.mono hb0.size)
    go_wp2
    go_ret2
    exact ⟨⟨_, rfl, RdB.nil _ _ _⟩, hb1⟩
  | true =>
    have hst := okF_std hok
    have hF : ∀ W, Below w.heap.size w W → Calls Try.prog 32 #[.agg #[.int .i64 size, .slice A n c], .int .i64 q] W fun e w' => e = .returned (.tuple #[.int .i64 (posF L q), .bool (hasF L q)]) ∧ Below W.heap.size W w' := fun W hW => find_any size q A n c L W (h.later hW) hst.1 hn
    rw [hok] at hM
    have HM := Lib.hid hM
    have H := Lib.hid h
    have hln := h.count
    obtain ⟨pos, hpos⟩ : ∃ pos, posF L q = pos := ⟨_, rfl⟩
    cases hh : hasF L q with
    | false =>
      have hbl : blockF size L q = [] := by unfold blockF; rw [hh]; simp
      rw [hpos, hh] at hF
      rw [hbl]
      have HF := Lib.hid hF
      clear hM hF hok hbl h hst hpos hh hln
      go_enter Try.func23, Try.ntmps23
      go_wp2_with fail
      refine (HM.out _ hb0).mono ?_
      rintro e w1 ⟨rfl, h1⟩
      have hb1 := hb0.trans (h1.mono hb0.size)
      have hB := (Blk.new w 24 (0, 0) #[.int .i64 size, .slice A n c]).below h1 (by simp)
      obtain ⟨d0, d1, _, _⟩ := blk2 hB
      clear hB
      go_wp2_with fail
      refine (HF.out _ hb1).mono ?_
      rintro e w2 ⟨rfl, h2⟩
      have hb2 := hb1.trans (h2.mono hb1.size)
      go_wp2
      go_ret2
      exact ⟨⟨_, rfl, RdB.nil _ _ _⟩, hb2⟩
    | true =>
      have hbl : blockF size L q = octB L q := by unfold blockF; rw [if_pos ⟨hok, hh⟩]
      have hdec : pos < n ∧ ∃ x, L[pos]? = some x ∧ x.2 = octB L q := by
        rw [← hpos]
        rcases Nat.lt_or_ge (posF L q) n with h1 | h1
        · obtain ⟨x, hx⟩ : ∃ x, L[posF L q]? = some x := ⟨_, List.getElem?_eq_getElem (by omega)⟩
          obtain ⟨e1, e2⟩ := has_at L q hst.1 x hx
          rw [hh] at e1
          have e3 := e2 (of_decide_eq_true e1.symm)
          refine ⟨h1, x, hx, ?_⟩
          unfold octB; rw [e3]; rfl
        · rw [has_end L q hst.1 (by omega)] at hh; cases hh
      obtain ⟨hlt, x, hx, hxo⟩ := hdec
      rw [hbl]
      obtain ⟨O, hO⟩ : ∃ O, octB L q = O := ⟨_, rfl⟩
      have hOl : O.length = 128 := by rw [← hO]; exact octB_len L q hst
      rw [hO] at hxo ⊢
      rw [hpos, hh] at hF
      have HF := Lib.hid hF
      have HX := Lib.hid hx
      have HXO := Lib.hid hxo
      have HOL := Lib.hid hOl
      have i0 : (0 : Int) ≤ (pos : Int) := Int.natCast_nonneg _
      have i1' : (pos : Int) < (n : Int) := by omega
      clear hM hF hok hbl h hst hpos hh hln hx hxo hO hOl
      go_enter Try.func23, Try.ntmps23
      go_wp2_with fail
      refine (HM.out _ hb0).mono ?_
      rintro e w1 ⟨rfl, h1⟩
      have hb1 := hb0.trans (h1.mono hb0.size)
      have hB := (Blk.new w 24 (0, 0) #[.int .i64 size, .slice A n c]).below h1 (by simp)
      obtain ⟨d0, d1, _, _⟩ := blk2 hB
      have HB := Lib.hid hB
      clear hB
      go_wp2_with fail
      refine (HF.out _ hb1).mono ?_
      rintro e w2 ⟨rfl, h2⟩
      have hb2 := hb1.trans (h2.mono hb1.size)
      have hB2 := HB.out.below h2 HB.out.lt
      obtain ⟨d0', d1', _, _⟩ := blk2 hB2
      obtain ⟨g, o, x', Ab, cb, hA, hgl, hx', c0, c1, hcb, hcm, hnl, hR⟩ := (H.out.later hb2).at_ hlt
      rw [HX.out] at hx'
      cases hx'
      subst hA
      rw [HXO.out] at c1 hcb hR
      have HR := Lib.hid hR
      have HNL := Lib.hid hnl
      clear d0 d1 hB2 hR hnl
      go_wp2_with fail
      refine (CloneB_any Ab O.length cb (octV O) w2 HR.out (octV_one O) (by rw [HOL.out]; omega) hcb HNL.out).mono ?_
      rintro e w3 ⟨⟨v, rfl, ho⟩, h3⟩
      obtain ⟨A', c', rfl, _, _, _⟩ := own_form ho
      have hb3 := hb2.trans (h3.mono hb2.size)
      have HO := Lib.hid (RdB.of_own ho).free
      clear ho
      go_wp2
      go_ret2
      exact ⟨⟨_, rfl, HO.out⟩, hb3⟩

/-- What is read. -/
def readF (size : Int) (L : List Pc) (off n : Int) : List UInt8 := tab (min n (size - min off size)).toNat fun i => octF L ((min off size).toNat + i)
theorem octB_tab (L : List Pc) (q : Nat) (h : Std L) : octB L q = tab 128 fun j => octF L (128 * q + j) := by
  have hl := octB_len L q h
  rw [tab_of (octB L q) 0, hl]
  exact (tab_ext _ _ _).2 fun j hj => octB_get L q j hj
theorem octB_cut (L : List Pc) (at' k : Nat) (h : Std L) (hk : at' % 128 + k ≤ 128) : ((octB L ((at' / 128 : Nat) : Int)).drop (at' % 128)).take k = tab k fun i => octF L (at' + i) := by
  rw [octB_tab L _ h, tab_drop, tab_take, show min k (128 - at' % 128) = k from by omega]
  refine (tab_ext _ _ _).2 fun i _ => ?_
  rw [show 128 * (at' / 128) + (at' % 128 + i) = at' + i from by omega]

set_option maxHeartbeats 1000000 in
set_option maxRecDepth 100000 in
theorem Read_bad (size off num : Int) (A : Option Addr) (n c : Nat) (L : List Pc) (w : World) (h : IsP w w.heap.size A n c L) (hs : size ≤ 9223372036854775807) (hn : n ≤ 1000000) (hbad : okF size L = false ∨ off < 0 ∨ num < 0) :
    Calls Try.prog 20 #[.agg #[.int .i64 size, .slice A n c], .int .i64 off, .int .i64 num] w fun e w' => e = .returned (.tuple #[.slice none 0 0, .int .i64 1]) ∧ Below w.heap.size w w' := by
  have hM : ∀ W, Below w.heap.size w W → Calls Try.prog 21 #[.agg #[.int .i64 size, .slice A n c]] W fun e w' => e = .returned (.bool (okF size L)) ∧ Below W.heap.size W w' := fun W hW => May_any size A n c L W (h.later hW) hs hn
  have hb0 : Below w.heap.size w (w.alloc (.cells #[.int .i64 size, .slice A n c] 24)) := (Below.refl _ _).alloc (Nat.le_refl _) _
  obtain ⟨ok, hok⟩ : ∃ ok, okF size L = ok := ⟨_, rfl⟩
  rw [hok] at hM hbad
  have HM := Lib.hid hM
  clear hM hok h
  have hcs : ok = false ∨ (ok = true ∧ off < 0) ∨ (ok = true ∧ 0 ≤ off ∧ num < 0) := by
    cases ok
    · exact .inl rfl
    · rcases hbad with h | h | h
      · cases h
      · exact .inr (.inl ⟨rfl, h⟩)
      · by_cases h1 : off < 0
        · exact .inr (.inl ⟨rfl, h1⟩)
        · exact .inr (.inr ⟨rfl, by omega, h⟩)
  clear hbad
  rcases hcs with rfl | ⟨rfl, h1⟩ | ⟨rfl, h1, h2⟩
  all_goals
    first
      | have hd1 : decide (off < 0) = true := decide_eq_true (by omega)
      | have hd1 : decide (off < 0) = false := decide_eq_false (by omega)
      | skip
    first
      | have hd2 : decide (num < 0) = true := decide_eq_true (by omega)
      | skip
    go_enter Try.func20, Try.ntmps20
    go_wp2_with fail
    refine (HM.out _ hb0).mono ?_
    rintro e w1 ⟨rfl, h1w⟩
    have hb1 := hb0.trans (h1w.mono hb0.size)
    go_wp2
    go_ret2
    exact ⟨rfl, hb1⟩

set_option maxHeartbeats 4000000 in
set_option maxRecDepth 100000 in
theorem Read_ok (size off num : Int) (A : Option Addr) (n c : Nat) (L : List Pc) (w : World) (h : IsP w w.heap.size A n c L) (hn : n ≤ 1000000) (hu1 : num ≤ 9223372036854775807) (hu2 : off ≤ 9223372036854775807) (hok : okF size L = true) (h1 : 0 ≤ off) (h2 : 0 ≤ num) :
    Calls Try.prog 20 #[.agg #[.int .i64 size, .slice A n c], .int .i64 off, .int .i64 num] w fun e w' => (∃ v, e = .returned (.tuple #[v, .int .i64 0]) ∧ RdB w' w'.heap.size AnyB v (readF size L off num)) ∧ Below w.heap.size w w' := by
  obtain ⟨i1, hi, hz0, hz1, hz2⟩ := info_parts Try.info5
  have hst := okF_std hok
  obtain ⟨hs0, hs1, _⟩ := (okF_iff size L).1 hok
  have hM : ∀ W, Below w.heap.size w W → Calls Try.prog 21 #[.agg #[.int .i64 size, .slice A n c]] W fun e w' => e = .returned (.bool true) ∧ Below W.heap.size W w' := fun W hW => by have := May_any size A n c L W (h.later hW) (by omega) hn; rw [hok] at this; exact this
  have hb0 : Below w.heap.size w (w.alloc (.cells #[.int .i64 size, .slice A n c] 24)) := (Below.refl _ _).alloc (Nat.le_refl _) _
  have HM := Lib.hid hM
  have H := Lib.hid h
  have HST := Lib.hid hst
  obtain ⟨o, ho⟩ : ∃ o : Nat, (o : Int) = min off size := ⟨(min off size).toNat, by omega⟩
  obtain ⟨m, hm⟩ : ∃ m : Nat, (m : Int) = min num (size - o) := ⟨(min num (size - o)).toNat, by omega⟩
  have hrf : readF size L off num = tab m fun i => octF L (o + i) := by
    unfold readF
    rw [← ho, ← hm]; rfl
  rw [hrf]
  have hom : o + m ≤ 463488 := by omega
  have ho1 : (o : Int) ≤ off := by omega
  have ho2 : (o : Int) ≤ size := by omega
  have hm1 : (m : Int) ≤ num := by omega
  have hm2 : (m : Int) ≤ size - o := by omega
  have h1' : decide (off < 0) = false := decide_eq_false (by omega)
  have h2' : decide (num < 0) = false := decide_eq_false (by omega)
  have HO := Lib.hid ho
  have HMM := Lib.hid hm
  clear hM hok h hst hrf ho hm
  go_enter Try.func20, Try.ntmps20
  go_wp2_with fail
  refine (HM.out _ hb0).mono ?_
  rintro e w1 ⟨rfl, h1w⟩
  have hb1 := hb0.trans (h1w.mono hb0.size)
  have hB := (Blk.new w 24 (0, 0) #[.int .i64 size, .slice A n c]).below h1w (by simp)
  obtain ⟨d0, d1, _, _⟩ := blk2 hB
  have HB := Lib.hid hB
  clear hB
  go_wp2_with fail
  rw [← HO.out, ← HMM.out]
  go_loopw [9, 10] (fun v i wr => ∃ (v0 : Value) (k : Nat), v0 = v ∧ k ≤ m ∧ i = .int .i64 ((o : Int) + (k : Int)) ∧ wr.ownsRow (w.heap.size + 1) 5 1 v0 k (octV (tab k fun i => octF L (o + i))) ∧ Blk wr w.heap.size 24 (0, 0) #[.int .i64 size, .slice A n c] ∧ Below w.heap.size w wr) (fun _ i _ => (o + m) - (intOf i).toNat)
  case atStart => exact ⟨_, 0, rfl, Nat.zero_le _, by simp, ⟨rfl, .inl ⟨rfl, rfl⟩⟩, HB.out, hb1⟩
  case round =>
    obtain ⟨v0, k, rfl, hk, rfl, hown, hBr, hbw⟩ := hrel
    by_cases hlt : k < m
    · obtain ⟨p, hp⟩ : ∃ p, o + k = p := ⟨_, rfl⟩
      have hpi : (o : Int) + (k : Int) = (p : Int) := by omega
      obtain ⟨q, hq⟩ : ∃ q : Nat, p / 128 = q := ⟨_, rfl⟩
      obtain ⟨r, hr⟩ : ∃ r : Nat, p % 128 = r := ⟨_, rfl⟩
      have hr128 : r < 128 := by omega
      have hqi : (p : Int) / 128 = (q : Int) := by omega
      have hri : (p : Int) % 128 = (r : Int) := by omega
      have hpm : p < o + m := by omega
      obtain ⟨t, ht⟩ : ∃ t : Nat, (t : Int) = min 128 ((r : Int) + ((o : Int) + (m : Int)) - (p : Int)) := ⟨(min 128 ((r : Int) + ((o : Int) + (m : Int)) - (p : Int))).toNat, by omega⟩
      have ht1 : r < t := by omega
      have ht2 : t ≤ 128 := by omega
      have ht3 : k + (t - r) ≤ m := by omega
      have hO := octB_any size (q : Int) A n c L wr (H.out.later hbw) HST.out hn
      have hcut := octB_cut L p (t - r) HST.out (by omega)
      rw [hq, hr] at hcut
      have htab : tab k (fun i => octF L (o + i)) ++ tab (t - r) (fun i => octF L (p + i)) = tab (k + (t - r)) (fun i => octF L (o + i)) := by
        rw [tab_app]
        congr 1
        refine (tab_ext _ _ _).2 fun i _ => ?_
        rw [← hp, Nat.add_assoc]
      obtain ⟨d0, d1, f0, f1⟩ := blk2 hBr
      have HPI := Lib.hid hpi
      have HQI := Lib.hid hqi
      have HRI := Lib.hid hri
      have HT := Lib.hid ht
      have HO2 := Lib.hid hO
      have HCUT := Lib.hid hcut
      have HTAB := Lib.hid htab
      have HBR := Lib.hid hBr
      have HOW := Lib.hid hown
      have hs1 := hbw.size
      have htop : decide ((p : Int) < (o : Int) + (m : Int)) = true := decide_eq_true (by omega)
      have hmin : min (128 : Int) ((r : Int) + ((o : Int) + (m : Int)) - (p : Int)) = (t : Int) := ht.symm
      have hst1 : (r : Int) ≤ (t : Int) := by omega
      have hst2 : (t : Int) ≤ 128 := by omega
      have hst0 : (0 : Int) ≤ (r : Int) := by omega
      clear hp hpi hq hr hqi hO hcut htab hBr hown ht
      rw [HPI.out]
      go_wp2_with fail
      rw [HQI.out]
      refine HO2.out.mono ?_
      rintro e w2 ⟨⟨gb, rfl, hBo⟩, h2⟩
      have hrd := hBo.rd
      have hbo := hBo.base_
      have hcutr : Rd w2 w2.heap.size 1 (some ⟨gb, r, none⟩) (t - r) (octV (tab (t - r) fun i => octF L (p + i))) := by
        rw [← HCUT.out]
        have h1 := rd_drop hrd (show r ≤ 128 by omega)
        rw [Nat.zero_add] at h1
        have h2 := rd_takeV h1 (show t - r ≤ 128 - r by omega)
        rw [Nat.mul_one, ← octV_take] at h2
        exact h2
      have HCR := Lib.hid hcutr
      have HOW2 := Lib.hid (own_below HOW.out h2 (fun q hq => (HOW.out.lt q hq).2))
      clear hcutr hrd hBo
      go_wp2_with (at_builtin; refine wpList_append_at _ rfl (.tmp 53) (.tmp 57) 25 rfl (w.heap.size + 1) 5 i1 _ 1 1 Try.underlying25 hi hz0 hz1 hz2 rfl (by decide) v0 k _ rfl HOW2.out (some ⟨gb, r, none⟩) (t - r) (128 - r) w2.heap.size _ rfl (fun e => by cases e) HCR.out (octV_one _) (by unfold maxLen; omega) (by omega) (by have := h2.size; have := HBR.out.lt; omega) w2.heap.size rfl (k + (t - r)) rfl ?_)
      intro A' c' w3 hown3 hgrow _
      have hlt0 := HBR.out.lt
      have hsz2 := h2.size
      have hr3 : Below (w.heap.size + 1) wr w3 := (h2.mono (by omega)).grown hgrow (by omega) (fun q hq => (HOW.out.lt q hq).1)
      have HB3 := Lib.hid (HBR.out.below hr3 (by omega))
      have hb3 := hbw.trans (hr3.mono (by omega))
      have HO3 : Hid (w3.ownsRow (w.heap.size + 1) 5 1 (.slice A' (k + (t - r)) c') (k + (t - r)) (octV (tab (k + (t - r)) fun i => octF L (o + i)))) := Lib.hid (by
        rw [← HTAB.out, octV_append]; exact hown3)
      have hnx : Value.int .i64 ((p : Int) + ((t : Int) - (r : Int))) = .int .i64 ((o : Int) + ((k + (t - r) : Nat) : Int)) := congrArg _ (by have := HPI.out; omega)
      have HNX := Lib.hid hnx
      have hpo := HPI.out
      clear hown3 hgrow hnx hpo
      go_wp2
      go_roundw
      case rel => exact ⟨_, k + (t - r), rfl, by omega, HNX.out, HO3.out, HB3.out, hb3⟩
      case measure => have := HPI.out; simp [intOf]; omega
    · obtain rfl : m = k := by omega
      have htop : decide ((o : Int) + (m : Int) < (o : Int) + (m : Int)) = false := decide_eq_false (by omega)
      obtain ⟨A', c', rfl, _, _, _⟩ := own_form hown
      have HR := Lib.hid (RdB.of_own hown).free
      clear hown
      go_wp2
      go_ret2
      exact ⟨⟨_, rfl, HR.out⟩, hbw⟩
end Go.Proofs.Ytpofkkoiicdpbaa
