/-
  Walks: a path read; its parent; names under others.
-/
import Derived.Test.YtofbgebgneinaaaDoorPathD
namespace Go.Proofs.YtofbgebgneinaaaDoor
open Go.RowKit Go.Shelf
set_option linter.unusedVariables false

theorem str_at {w : World} {B n : Nat} {A : Option Addr} {l : List (List UInt8)} (h : Rd w B 1 A n (strV l)) {k : Nat} (hk : k < n) :
    ∃ g o x, A = some ⟨g, o, none⟩ ∧ g < B ∧ l[k]? = some x ∧ w.cell? ⟨g, o + k, none⟩ = some (.string (st x)) := by
  obtain ⟨g, o, e, hb, hc⟩ := h.2 (by omega)
  have hl := h.1
  rw [strV_len] at hl
  have hkl : k < l.length := by omega
  exact ⟨g, o, l[k], e, hb, List.getElem?_eq_getElem hkl, hc _ _ (by simp [strV, hkl])⟩
theorem rd_takeS {w : World} {B n : Nat} {A : Option Addr} {l : List (List UInt8)} (h : Rd w B 1 A n (strV l)) {k : Nat} (hk : k ≤ n) : Rd w B 1 A k (strV (l.take k)) := by
  have hl := h.1
  rw [strV_len] at hl
  refine ⟨by rw [strV_len, List.length_take]; omega, fun h0 => ?_⟩
  obtain ⟨g, o, e, hb, hc⟩ := h.2 (by omega)
  refine ⟨g, o, e, hb, fun j u hu => hc j u ?_⟩
  unfold strV at hu ⊢
  rw [List.map_take, List.getElem?_take] at hu
  split at hu
  · exact hu
  · exact absurd hu (by simp)
theorem own_rdS {w w' : World} {v : Value} {l : List (List UInt8)} (h : OwnS w w' v l) : ∃ A c, v = .slice A l.length c ∧ l.length ≤ c ∧ Rd w' w'.heap.size 1 A l.length (strV l) := by
  obtain ⟨A, c, e, h1, _, h2⟩ := own_form h
  exact ⟨A, c, e, h1, h2⟩

attribute [local go_sem] Oper.semAt_some in
set_option maxHeartbeats 2000000 in
set_option maxRecDepth 100000 in
theorem Parse_name (n : Nat) (s : ByteArray) (w : World) (hn : 3 ≤ n) (h : Lib.hasPrefix s.data.toList [47] = false) :
    CallsIn Fence.wide n Tryd.prog 8 #[.string s] w fun e w' => e = .returned (.tuple #[.slice none 0 0, .int .i64 11]) ∧ Below w.heap.size w w' := by
  have h1 : 1 ≤ n := by omega
  have f19 : Fence.wide.fn 19 := trivial
  refine callsIn_of_wp_marks Tryd.func8 rfl trivial ?_ rfl
  simp only [Tryd.ntmps8, List.size_toArray, List.length_cons, List.length_nil, Nat.reduceAdd, Nat.reduceSub, Array.replicate_succ, Array.replicate_zero, List.push_toArray, List.append_toArray, List.nil_append, List.cons_append]
  gi_wp2_with (gi_at_call 19; refine (callsIn_wide.2 (Tryd.strings_HasPrefix s ⟨#[47]⟩ _)).mono ?_; rintro e w' ⟨rfl, rfl⟩; rw [show (⟨#[47]⟩ : ByteArray).data.toList = [47] from rfl, h])
  refine ⟨.tuple #[.slice none 0 0, .int .i64 11], ?_, rfl, ((Below.refl _ w).alloc (Nat.le_refl _) _).alloc (by simp) _⟩
  simp [results, Tryd.f8, go_sem]

attribute [local go_sem] Oper.semAt_some in
set_option maxHeartbeats 2000000 in
set_option maxRecDepth 100000 in
theorem Parse_big (n : Nat) (s : ByteArray) (w : World) (hn : 3 ≤ n) (h : Lib.hasPrefix s.data.toList [47] = true) (hs : 200 < s.size) (hs2 : s.size ≤ 1000000) :
    CallsIn Fence.wide n Tryd.prog 8 #[.string s] w fun e w' => e = .returned (.tuple #[.slice none 0 0, .int .i64 16]) ∧ Below w.heap.size w w' := by
  have h1 : 1 ≤ n := by omega
  have f19 : Fence.wide.fn 19 := trivial
  refine callsIn_of_wp_marks Tryd.func8 rfl trivial ?_ rfl
  simp only [Tryd.ntmps8, List.size_toArray, List.length_cons, List.length_nil, Nat.reduceAdd, Nat.reduceSub, Array.replicate_succ, Array.replicate_zero, List.push_toArray, List.append_toArray, List.nil_append, List.cons_append]
  gi_wp2_with (gi_at_call 19; refine (callsIn_wide.2 (Tryd.strings_HasPrefix s ⟨#[47]⟩ _)).mono ?_; rintro e w' ⟨rfl, rfl⟩; rw [show (⟨#[47]⟩ : ByteArray).data.toList = [47] from rfl, h])
  refine ⟨.tuple #[.slice none 0 0, .int .i64 16], ?_, rfl, ((Below.refl _ w).alloc (Nat.le_refl _) _).alloc (by simp) _⟩
  simp [results, Tryd.f8, go_sem]

theorem prefix_head (l : List UInt8) : Lib.hasPrefix l [47] = true ↔ l.head? = some 47 := by
  unfold Lib.hasPrefix
  cases l with
  | nil => simp
  | cons c r => simp [List.isPrefixOf]; exact eq_comm
theorem Parse_any (s : ByteArray) (w : World) (hs : s.size ≤ 1000000) :
    Calls Tryd.prog 8 #[.string s] w fun e w' => (∃ A c, e = .returned (.tuple #[.slice A (parseL (oc s)).1.length c, .int .i64 (parseL (oc s)).2]) ∧ (parseL (oc s)).1.length ≤ c ∧ Rd w' w'.heap.size 1 A (parseL (oc s)).1.length (strV (parseL (oc s)).1)) ∧ Below w.heap.size w w' := by
  refine (callsIn_wide (n := 9)).1 ?_
  by_cases h : (oc s).head? = some 47
  · have hp := (prefix_head _).2 h
    by_cases h2 : 200 < s.size
    · have e1 : parseL (oc s) = ([], 16) := by unfold parseL; rw [if_neg (by simpa using h), if_pos (by rw [oc_len]; exact h2)]
      rw [e1]
      exact (Parse_big 9 s w (by omega) hp h2 hs).mono fun e w' ⟨he, hb⟩ => ⟨⟨none, 0, he, Nat.le_refl _, Rd.nil⟩, hb⟩
    · have e1 : parseL (oc s) = parseGo [] (splitB (oc s)) := by unfold parseL; rw [if_neg (by simpa using h), if_neg (by rw [oc_len]; exact h2)]
      rw [e1]
      refine (Parse_main 9 s w (by omega) hp (by omega)).mono ?_
      rintro e w' ⟨⟨v, rfl, ho⟩, hb⟩
      obtain ⟨A, c, rfl, hc, hr⟩ := own_rdS ho
      exact ⟨⟨A, c, rfl, hc, hr⟩, hb⟩
  · have hp : Lib.hasPrefix s.data.toList [47] = false := by
      cases hx : Lib.hasPrefix s.data.toList [47] with
      | false => rfl
      | true => exact absurd ((prefix_head _).1 hx) h
    have e1 : parseL (oc s) = ([], 11) := by unfold parseL; rw [if_pos h]
    rw [e1]
    exact (Parse_name 9 s w (by omega) hp).mono fun e w' ⟨he, hb⟩ => ⟨⟨none, 0, he, Nat.le_refl _, Rd.nil⟩, hb⟩

/-! ### parents -/
def parentL (l : List UInt8) : List (List UInt8) × List UInt8 × Int :=
  if (parseL l).2 ≠ 0 then ([], [], (parseL l).2) else if (parseL l).1 = [] then ([], [], 1) else ((parseL l).1.dropLast, (parseL l).1.getLastD [], 0)

set_option maxHeartbeats 2000000 in
theorem Clip_any (a : Addr) (n c : Nat) (w : World) (hc : n ≤ c) :
    Calls Tryd.prog 24 #[.slice (some a) n c] w fun e w' => e = .returned (.slice (some a) n n) ∧ w' = w := by
  go_enter Tryd.func24, Tryd.ntmps24
  go_wp2
  go_ret
  exact ⟨rfl, rfl⟩

/-- What a call that reads a parent hands back. -/
def ParentPost (l : List UInt8) (w : World) (e : Ending) (w' : World) : Prop :=
  (∃ A c x, e = .returned (.tuple #[.slice A (parentL l).1.length c, .string x, .int .i64 (parentL l).2.2]) ∧ oc x = (parentL l).2.1 ∧ (A = none → c = 0) ∧ (parentL l).1.length ≤ c ∧ Rd w' w'.heap.size 1 A (parentL l).1.length (strV (parentL l).1)) ∧ Below w.heap.size w w'

set_option maxHeartbeats 4000000 in
set_option maxRecDepth 100000 in
theorem Parent_any (s : ByteArray) (w : World) (hs : s.size ≤ 1000000) :
    Calls Tryd.prog 10 #[.string s] w (ParentPost (oc s) w) := by
  obtain ⟨hf1, hf2, hf3, hf4⟩ := parse_form (oc s)
  have hP := Parse_any s w hs
  by_cases h0 : (parseL (oc s)).2 ≠ 0
  · have e1 := hf2 h0
    have e2 : parentL (oc s) = ([], [], (parseL (oc s)).2) := by unfold parentL; rw [if_pos h0]
    unfold ParentPost
    rw [e2]
    rw [e1] at hP
    obtain ⟨q, hq⟩ : ∃ q, (parseL (oc s)).2 = q := ⟨_, rfl⟩
    rw [hq] at hP hf1 h0 ⊢
    have HP := Lib.hid hP
    clear hP hf2 hf3 hf4 e1 e2 hq
    go_enter Tryd.func10, Tryd.ntmps10
    go_wp2_with fail
    refine HP.out.mono ?_
    rintro e w1 ⟨⟨A, c, rfl, hc, _⟩, hb⟩
    rcases hf1 with rfl | rfl | rfl
    · exact absurd rfl h0
    · go_wp2
      refine bodyPost_ret (v := .tuple #[.slice none 0 0, .string ⟨#[]⟩, .int .i64 11]) (by simp [results, Tryd.results10, go_sem]) rfl ?_
      exact ⟨⟨none, 0, _, rfl, rfl, (fun _ => rfl), Nat.le_refl _, Rd.nil⟩, hb⟩
    · go_wp2
      refine bodyPost_ret (v := .tuple #[.slice none 0 0, .string ⟨#[]⟩, .int .i64 16]) (by simp [results, Tryd.results10, go_sem]) rfl ?_
      exact ⟨⟨none, 0, _, rfl, rfl, (fun _ => rfl), Nat.le_refl _, Rd.nil⟩, hb⟩
  · have h0 : (parseL (oc s)).2 = 0 := by omega
    by_cases hnil : (parseL (oc s)).1 = []
    · have e2 : parentL (oc s) = ([], [], 1) := by unfold parentL; rw [if_neg (by rw [h0]; simp), if_pos hnil]
      unfold ParentPost
      rw [e2]
      rw [hnil, h0] at hP
      have HP := Lib.hid hP
      clear hP hf1 hf2 hf3 hf4 e2 hnil h0
      go_enter Tryd.func10, Tryd.ntmps10
      go_wp2_with fail
      refine HP.out.mono ?_
      rintro e w1 ⟨⟨A, c, rfl, hc, _⟩, hb⟩
      go_wp2
      refine bodyPost_ret (v := .tuple #[.slice none 0 0, .string ⟨#[]⟩, .int .i64 1]) (by simp [results, Tryd.results10, go_sem]) rfl ?_
      exact ⟨⟨none, 0, _, rfl, rfl, (fun _ => rfl), Nat.le_refl _, Rd.nil⟩, hb⟩
    · have e2 : parentL (oc s) = ((parseL (oc s)).1.dropLast, (parseL (oc s)).1.getLastD [], 0) := by unfold parentL; rw [if_neg (by rw [h0]; simp), if_neg hnil]
      unfold ParentPost
      rw [e2]
      rw [h0] at hP
      obtain ⟨L, hL⟩ : ∃ L, (parseL (oc s)).1 = L := ⟨_, rfl⟩
      rw [hL] at hP hnil hf4 ⊢
      obtain ⟨m, hm⟩ : ∃ m, L.length = m + 1 := ⟨L.length - 1, by have := List.length_pos_iff.2 hnil; omega⟩
      rw [hm] at hP
      have hdl : L.dropLast.length = m := by rw [List.length_dropLast, hm]; rfl
      have hdt : L.dropLast = L.take m := by rw [List.dropLast_eq_take, hm]; rfl
      have hgl : L[m]? = some (L.getLastD []) := by
        rw [List.getLastD_eq_getLast?, List.getLast?_eq_getElem?, hm, Nat.add_sub_cancel, List.getElem?_eq_getElem (by omega)]; rfl
      rw [hdl]
      have HD := Lib.hid hdt
      have HG := Lib.hid hgl
      have HP := Lib.hid hP
      have hmb : m ≤ 7 := by omega
      clear hP hf1 hf2 hf3 hf4 e2 hnil h0 hL hm hdl hdt hgl
      go_enter Tryd.func10, Tryd.ntmps10
      go_wp2_with fail
      refine HP.out.mono ?_
      rintro e w1 ⟨⟨A, c, rfl, hc, hr⟩, hb⟩
      obtain ⟨g, o, x, rfl, hg, hx, hcell⟩ := str_at hr (show m < m + 1 by omega)
      have hxx : x = L.getLastD [] := by have := HG.out; rw [hx] at this; exact Option.some.inj this
      have HX := Lib.hid hxx
      have HR := Lib.hid (rd_takeS hr (show m ≤ m + 1 by omega))
      clear hx hr hxx
      go_wp2
      have i1 : (m : Int) ≤ (c : Int) := by omega
      have i2 : (m : Int) < (m : Int) + 1 := by omega
      have i3 : (0 : Int) ≤ (m : Int) := by omega
      have i4 : m ≤ c := by omega
      go_quiet ((go_at_call 24; exact Calls.quiet_of_same (Clip_any ⟨g, o, none⟩ m c _ (by omega))))
      go_wp2
      refine bodyPost_ret (v := .tuple #[.slice (some ⟨g, o, none⟩) m m, .string (st x), .int .i64 0]) (by simp [results, Tryd.results10, go_sem]) rfl ?_
      exact ⟨⟨_, m, _, rfl, by rw [oc_st, HX.out], (fun h => by cases h), Nat.le_refl _, by rw [HD.out]; exact HR.out⟩, below_drewN hb _⟩
end Go.Proofs.YtofbgebgneinaaaDoor
