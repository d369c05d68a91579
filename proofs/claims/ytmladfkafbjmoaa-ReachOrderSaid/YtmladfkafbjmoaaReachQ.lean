/-
  Walks: the reference's flags of nodes.
-/
import Derived.Test.YtmladfkafbjmoaaReachP
namespace Go.Proofs.Ytmladfkafbjmoaa
open Go.RowKit

def flagsV (t : Nat → Bool) (n : Nat) : List Value := (List.range n).map fun k => .bool (t k)
theorem flagsV_len (t : Nat → Bool) (n : Nat) : (flagsV t n).length = n := by simp [flagsV]
theorem flagsV_get (t : Nat → Bool) (n k : Nat) (h : k < n) : (flagsV t n)[k]? = some (.bool (t k)) := by simp [flagsV, h]
def inL (L : List Int) (k : Nat) : Bool := decide ((k : Int) ∈ L)
theorem flagsV_set (L : List Int) (n q : Nat) : (flagsV (inL L) n).set q (.bool true) = flagsV (inL (L ++ [(q : Int)])) n := by
  apply List.ext_getElem?
  intro j
  rw [List.getElem?_set]
  by_cases hj : j < n
  · rw [flagsV_get _ _ _ hj, flagsV_get _ _ _ hj]
    by_cases hq : q = j
    · subst hq
      rw [if_pos rfl, flagsV_len, if_pos hj]
      simp [inL]
    · rw [if_neg hq]
      refine congrArg (fun b => some (Value.bool b)) ?_
      unfold inL
      have : ((j : Int) ∈ L ++ [(q : Int)]) ↔ ((j : Int) ∈ L) := by
        rw [List.mem_append, List.mem_singleton]
        constructor
        · rintro (h | h)
          · exact h
          · omega
        · exact .inl
      simp only [this]
  · rw [List.getElem?_eq_none (l := flagsV (inL L) n) (by rw [flagsV_len]; omega)]
    rw [List.getElem?_eq_none (l := flagsV (inL (L ++ [(q : Int)])) n) (by rw [flagsV_len]; omega)]
    rw [flagsV_len]
    split
    · simp; omega
    · rfl
theorem flagsV_nil (n : Nat) : flagsV (inL []) n = List.replicate n (.bool false) := by
  unfold flagsV inL
  simp
  rw [List.eq_replicate_iff]
  simp

theorem rPath_own (k : Nat) (w : World) (h : k < 3621) :
    Calls Try.prog 20 #[.int .i64 k] w fun e w' => (∃ g c, e = .returned (.slice (some ⟨g, 0, none⟩) (toZ (pathN k)).length c) ∧ OwnB w' w.heap.size 3 1 g (toZ (pathN k)).length c (intsV (toZ (pathN k)))) ∧ Below w.heap.size w w' := by
  refine (rPath_ok k w h).mono ?_
  rintro e w' ⟨v, rfl, ho, hb⟩
  have hl := path_len k
  obtain ⟨g, c, rfl, hB⟩ := own_pos ho (by rw [toZ_len]; omega)
  exact ⟨⟨g, c, rfl, hB⟩, hb⟩

set_option maxHeartbeats 4000000 in
set_option maxRecDepth 100000 in
theorem rOn_any (A : Option Addr) (n c : Nat) (zs : List Int) (w : World) (hr : Rd w w.heap.size 1 A n (intsV zs)) (hn : n ≤ 1000) (hall : ∀ x ∈ zs, okB x) :
    Calls Try.prog 25 #[.slice A n c] w fun e w' => (∃ g, e = .returned (.slice (some ⟨g, 0, none⟩) 258 258) ∧ OwnB w' w.heap.size 4 1 g 258 258 (flagsV (inL (onZ zs)) 258)) ∧ Below w.heap.size w w' := by
  have hzl := hr.1
  rw [intsV_len, Nat.mul_one] at hzl
  have HZL := Lib.hid hzl
  have HALL := Lib.hid hall
  have HR := Lib.hid hr
  clear hr hall hzl
  obtain ⟨i0, hi, hz0, hz1, hz2⟩ := info_parts (P := Try.prog) (e := 4) (z := .bool false) (size := 1) (bytes := 1) (by kernel_rfl)
  obtain ⟨Z, hmk, hZ⟩ : ∃ Z : Array Value, (∀ w, (Instr.makeSlice 39 (.int .i64 258) (.int .i64 258)).run Try.prog w = .ok (.slice (some ⟨w.heap.size, 0, none⟩) 258 258) (w.alloc (.cells Z 4))) ∧ Z.toList = flagsV (inL []) 258 := by
    refine ⟨_, fun w => run_make w 39 4 i0 (.bool false) Try.underlying39 hi hz0 .i64 .i64 258 258 (by omega) (by omega) (by rw [hz2]; omega) (by omega), ?_⟩
    rw [hz1, flagsV_nil]
    show (madeCells #[Value.bool false] 258).toList = _
    kernel_rfl
  have hB0 : ∀ w : World, OwnB (w.alloc (.cells Z 4)) w.heap.size 4 1 w.heap.size 258 258 (flagsV (inL (onZ (zs.take 0))) 258) := fun w => by
    have := OwnB.lit w w.heap.size (Nat.le_refl _) 4 1 258 Z (by have := congrArg List.length hZ; rw [flagsV_len] at this; simpa using this) (by unfold maxLen; omega)
    rw [hZ] at this; exact this
  have HB0 := Lib.hid hB0
  clear hB0 hZ
  go_enter Try.func25, Try.ntmps25
  go_wp2
  go_loopw [4] (fun i wr => ∃ k : Nat, k ≤ n ∧ i = .int .i64 k ∧ Hid (OwnB wr w.heap.size 4 1 w.heap.size 258 258 (flagsV (inL (onZ (zs.take k))) 258)) ∧ Below w.heap.size w wr) (fun i _ => n - (intOf i).toNat)
  case atStart => exact ⟨0, Nat.zero_le _, rfl, Lib.hid (HB0.out w), (Below.refl _ _).alloc (Nat.le_refl _) _⟩
  case round =>
    obtain ⟨k, hk, rfl, HB, hbw⟩ := hrel
    by_cases hlt : k < n
    · obtain ⟨g, o, x, rfl, hg, hx, hcell⟩ := int_at ((HR.out.below hbw).more hbw.size) hlt
      have hsn := take_snoc zs k x hx
      have hxo : okB x := HALL.out x (List.mem_iff_getElem?.2 ⟨k, hx⟩)
      have hsn2 : onZ (zs.take (k + 1)) = onZ (zs.take k) ++ onN x.toNat := by rw [hsn, onZ_snoc]
      have HSN := Lib.hid hsn2
      obtain ⟨b, rfl⟩ := Int.eq_ofNat_of_zero_le hxo.1
      have hb : b < 3621 := by have := hxo.2; omega
      rw [Int.toNat_natCast] at HSN
      obtain ⟨L, hL⟩ : ∃ L, onZ (zs.take k) = L := ⟨_, rfl⟩
      rw [hL] at HSN HB
      have HN : Hid (∀ j, 1 ≤ j → j < (pathN b).length → ∃ q : Nat, q < 258 ∧ numberZ ((toZ (pathN b)).take j) = q ∧ (onN b)[j - 1]? = some (q : Int)) := Lib.hid (fun j h1 h2 => node_on b j hb h1 h2)
      have hol := on_len b
      have hpl := path_len b
      have htl := toZ_len (pathN b)
      clear hsn hsn2 hL hx hxo
      go_wp2_with fail
      refine (rPath_own b wr hb).mono ?_
      rintro e w1 ⟨⟨gp, cp, rfl, hBp⟩, h1⟩
      have hbw1 := hbw.trans (h1.mono hbw.size)
      have HB1 := Lib.hid (HB.out.later h1)
      have hgp := hBp.base_
      have hgl := HB.out.lt
      have hpc := hBp.caps.1
      obtain ⟨xs, hxs⟩ : ∃ xs, toZ (pathN b) = xs := ⟨_, rfl⟩
      rw [hxs] at hBp HN htl hpc ⊢
      obtain ⟨m, hm⟩ : ∃ m, xs.length = m := ⟨_, rfl⟩
      rw [hm] at hBp htl hpc ⊢
      rw [← htl] at hpl HN hol
      obtain ⟨N, hN⟩ : ∃ N, onN b = N := ⟨_, rfl⟩
      rw [hN] at HN hol HSN
      have HBp := Lib.hid hBp
      have HNL := Lib.hid hol
      clear hBp hxs hm hN hol htl
      go_wp2
      go_loopw [6] (fun j w2 => ∃ j' : Nat, 1 ≤ j' ∧ j' ≤ m ∧ j = .int .i64 j' ∧ Hid (OwnB w2 w.heap.size 4 1 w.heap.size 258 258 (flagsV (inL (L ++ N.take (j' - 1))) 258)) ∧ Hid (OwnB w2 wr.heap.size 3 1 gp m cp (intsV xs)) ∧ Below w.heap.size w w2) (fun j _ => m - (intOf j).toNat)
      case atStart => exact ⟨1, Nat.le_refl _, hpl.1, rfl, Lib.hid (by simpa using HB1.out), HBp, hbw1⟩
      case round =>
        obtain ⟨j, hj1, hj, rfl, HF, HP, hbw2⟩ := hrel
        by_cases hjl : j < m
        · obtain ⟨q, hq, hnz, hqn⟩ := HN.out j hj1 hjl
          have HNZ := Lib.hid hnz
          have hs2 : N.take j = N.take (j - 1) ++ [(q : Int)] := by
            have := take_snoc N (j - 1) q hqn
            rw [show j - 1 + 1 = j from by omega] at this; exact this
          have HS2 := Lib.hid hs2
          have HPR := Lib.hid (rd_take HP.out.rd (Nat.le_of_lt hjl))
          clear hnz hs2 hqn
          go_wp2_with fail
          refine (rNumber_any _ j cp _ _ HPR.out).mono ?_
          rintro e w3 ⟨rfl, h3⟩
          rw [HNZ.out]
          have HF3 := Lib.hid (HF.out.later h3)
          have HP3 := Lib.hid (HP.out.later h3)
          have hbw3 := hbw2.trans (h3.mono hbw2.size)
          have hcell3 : w3.cell? ⟨w.heap.size, q, none⟩ = some (.bool (inL (L ++ N.take (j - 1)) q)) := by
            rw [HF3.out.cell q (by omega), flagsV_get _ _ _ hq]
          have hfz3 := HF3.out.frozen q
          have hset : OwnB (w3.setCell ⟨w.heap.size, q, none⟩ (.bool true)) w.heap.size 4 1 w.heap.size 258 258 (flagsV (inL (L ++ N.take j)) 258) := by
            have := HF3.out.set_ q (.bool true)
            rw [flagsV_set, List.append_assoc, ← HS2.out] at this
            exact this
          have HST := Lib.hid hset
          have HPS := Lib.hid (HP3.out.far (p := ⟨w.heap.size, q, none⟩) (by show gp ≠ w.heap.size; omega) (.bool true))
          have hbws : Below w.heap.size w (w3.setCell ⟨w.heap.size, q, none⟩ (.bool true)) := hbw3.setCell (Nat.le_refl _) _
          clear hset
          go_wp2
          go_roundw
          case rel => exact ⟨j + 1, by omega, by omega, by go_num, HST, HPS, hbws⟩
          case measure => simp [intOf]; omega
        · obtain rfl : j = m := by omega
          have hf : N.take (j - 1) = N := List.take_of_length_le (by rw [HNL.out]; exact Nat.le_refl _)
          rw [hf, ← HSN.out] at HF
          go_wp2
          go_roundw
          case rel => exact ⟨k + 1, by omega, by go_num, HF, hbw2⟩
          case measure => simp [intOf]; omega
    · obtain rfl : k = n := by omega
      rw [List.take_of_length_le (by rw [HZL.out]; exact Nat.le_refl _)] at HB
      go_wp2
      go_ret
      exact ⟨⟨_, rfl, HB.out⟩, hbw⟩

set_option maxHeartbeats 4000000 in
set_option maxRecDepth 100000 in
theorem rNumbers_any (g o n c : Nat) (t : Nat → Bool) (w : World) (hr : Rd w w.heap.size 1 (some ⟨g, o, none⟩) n (flagsV t n)) (hn : n ≤ 1000) :
    Calls Try.prog 24 #[.slice (some ⟨g, o, none⟩) n c] w fun e w' => (∃ v, e = .returned v ∧ OwnI w w' v (flagged t n)) ∧ Below w.heap.size w w' := by
  obtain ⟨i0, hi, hz0, hz1, hz2⟩ := info_parts Try.info3
  have HR := Lib.hid hr
  clear hr
  have HFS := Lib.hid (fun k => flagged_succ t k)
  have HFL : Hid (∀ k, (flagged t k).length ≤ k) := Lib.hid (fun k => by
    unfold flagged; rw [List.length_map]
    exact Nat.le_trans (List.length_filter_le _ _) (by simp))
  go_enter Try.func24, Try.ntmps24
  go_wp2
  go_loopw [3, 4] (fun v i wr => ∃ k : Nat, k ≤ n ∧ i = .int .i64 k ∧ wr.ownsRow w.heap.size 3 1 v (flagged t k).length (intsV (flagged t k)) ∧ Below w.heap.size w wr) (fun _ i _ => n - (intOf i).toNat)
  case atStart => exact ⟨0, Nat.zero_le _, rfl, ⟨rfl, .inl ⟨rfl, rfl⟩⟩, Below.refl _ _⟩
  case round =>
    obtain ⟨k, hk, rfl, hown, hbw⟩ := hrel
    by_cases hlt : k < n
    · have hcell : wr.cell? ⟨g, o + k, none⟩ = some (.bool (t k)) := by
        have hrr := (HR.out.below hbw)
        obtain ⟨g', o', e, hg, hc⟩ := hrr.2 (by omega)
        injection e with e
        injection e with e1 e2 _
        subst e1 e2
        exact hc k _ (flagsV_get _ _ _ hlt)
      have hs := HFS.out k
      have hfl := HFL.out k
      cases htk : t k with
      | false =>
        rw [htk] at hs hcell
        rw [if_neg (by simp), List.append_nil] at hs
        rw [← hs] at hown
        have HO := Lib.hid hown
        clear hown hs htk
        go_wp2
        go_roundw
        case rel => exact ⟨k + 1, by omega, by go_num, HO.out, hbw⟩
        case measure => simp [intOf]; omega
      | true =>
        rw [htk] at hs hcell
        rw [if_pos rfl] at hs
        obtain ⟨L, hL⟩ : ∃ L, flagged t k = L := ⟨_, rfl⟩
        rw [hL] at hs hown hfl
        have HS := Lib.hid hs
        obtain ⟨p, hp⟩ : ∃ p, L.length = p := ⟨_, rfl⟩
        rw [hp] at hown hfl
        have HP := Lib.hid hp
        clear hs htk hL hp
        go_wp2_with (at_builtin; refine wpList_append_own _ rfl (.tmp 15) (.tmp 17) 25 rfl w.heap.size 3 i0 _ 1 8 Try.underlying25 hi hz0 hz1 hz2 rfl (by decide) _ _ _ rfl (hown.alloc _) ⟨wr.heap.size, 0, none⟩ 1 1 [.int .i64 k] (by rfl) (by rfl) (fun j u hj => new_cells wr _ _ _ rfl j u hj) (one_cell rfl) (by unfold maxLen; omega) (by omega) (base_alloc hbw.size _) ?_)
        intro v' w' hown' hgrow _
        have hbw' : Below w.heap.size w w' := (hbw.alloc hbw.size _).grown hgrow (base_alloc hbw.size _) (fun k hk => (hown.lt k hk).1)
        have HO : Hid (w'.ownsRow w.heap.size 3 1 v' (flagged t (k + 1)).length (intsV (flagged t (k + 1)))) := Lib.hid (by
          rw [HS.out, List.length_append, HP.out, intsV_snoc]; exact hown')
        clear hown' hown hgrow
        go_wp2
        go_roundw
        case rel => exact ⟨k + 1, by omega, by go_num, HO.out, hbw'⟩
        case measure => simp [intOf]; omega
    · obtain rfl : k = n := by omega
      have HO := Lib.hid hown
      clear hown
      go_wp2
      go_ret
      exact ⟨⟨_, rfl, HO.out⟩, hbw⟩
end Go.Proofs.Ytmladfkafbjmoaa
