/-
  Walks: the path of names, by the program and by the document.
-/
import Derived.Test.YtofbgebgneinaaaDoorPathM
namespace Go.Proofs.YtofbgebgneinaaaDoor
open Go.RowKit Go.Shelf
set_option linter.unusedVariables false

theorem join_len : ∀ (l : List (List UInt8)), (∀ x ∈ l, x.length ≤ 60) → (slashed l).length ≤ 61 * l.length
  | [], _ => by simp [slashed]
  | x :: l, h => by
    have h1 := h x (by simp)
    have h2 := join_len l (fun y hy => h y (by simp [hy]))
    rw [slashed_cons]; simp; omega

set_option maxHeartbeats 2000000 in
set_option maxRecDepth 100000 in
theorem Join_any (A : Option Addr) (m c : Nat) (l : List (List UInt8)) (w : World) (hr : Rd w w.heap.size 1 A m (strV l)) (hm : m ≤ 10) (hmc : m ≤ c) (hsz : ∀ x ∈ l, x.length ≤ 60) :
    Calls Tryd.prog 16 #[.slice A m c] w fun e w' => e = .returned (.tuple #[.string (st (joinL l).1), .int .i64 (joinL l).2]) ∧ Below w.heap.size w w' := by
  have hl := hr.1
  rw [strV_len, Nat.mul_one] at hl
  have hC := containsS_any A m c l w hr (by omega) (fun x hx => by have := hsz x hx; omega)
  cases hall : l.all isName with
  | false =>
    have e1 : joinL l = ([], 11) := by unfold joinL; rw [if_pos hall]
    rw [e1]
    rw [hall] at hC
    have HC := Lib.hid hC
    clear hC e1 hall hsz hr hl
    go_enter Tryd.func16, Tryd.ntmps16
    go_wp2_with fail
    refine HC.out.mono ?_
    rintro e w1 ⟨rfl, h1⟩
    go_wp2
    go_ret2
    exact ⟨rfl, h1⟩
  | true =>
    rw [hall] at hC
    have HC := Lib.hid hC
    by_cases h8 : 8 < m
    · have e1 : joinL l = ([], 16) := by unfold joinL; rw [if_neg (by rw [hall]; simp), if_pos (by omega)]
      rw [e1]
      clear hC e1 hall hsz hr hl
      go_enter Tryd.func16, Tryd.ntmps16
      go_wp2_with fail
      refine HC.out.mono ?_
      rintro e w1 ⟨rfl, h1⟩
      go_wp2
      go_ret2
      exact ⟨rfl, h1⟩
    · by_cases h0 : m = 0
      · subst h0
        have hnil : l = [] := List.eq_nil_of_length_eq_zero hl
        subst hnil
        rw [show joinL [] = ([47], 0) from rfl]
        clear hC hall hsz hr hl
        go_enter Tryd.func16, Tryd.ntmps16
        go_wp2_with fail
        refine HC.out.mono ?_
        rintro e w1 ⟨rfl, h1⟩
        go_wp2_with fail
        refine (Tryd.strings_Join_none A c ⟨#[47]⟩ w1).mono ?_
        rintro e w2 ⟨rfl, rfl⟩
        go_wp2
        go_ret2
        exact ⟨rfl, h1⟩
      · have hne : l ≠ [] := fun e => h0 (by rw [← hl, e]; rfl)
        have e1 : joinL l = (slashed l, 0) := by unfold joinL; rw [if_neg (by rw [hall]; simp), if_neg (by omega), if_neg hne]
        rw [e1]
        obtain ⟨g, o, rfl, hg, hc⟩ := hr.2 (by omega)
        have hjs := join_slashed l hne
        have hjl := join_len l hsz
        have hmap : (l.map st).map (·.data.toList) = l := by
          rw [List.map_map]
          conv => rhs; rw [← List.map_id l]
          exact List.map_congr_left (fun x _ => oc_st x)
        have hJ : ∀ w1 : World, Below w.heap.size w w1 → Calls Tryd.prog 28 #[.slice (some ⟨g, o, none⟩) m c, .string ⟨#[47]⟩] w1 fun e w' => e = .returned (.string (st (Lib.join l [47]))) ∧ Below w1.heap.size w1 w' := fun w1 hb => by
          have := Tryd.strings_Join g o c (l.map st) ⟨#[47]⟩ w1 (fun j x hx => by
            rw [List.getElem?_map] at hx
            cases hlj : l[j]? with
            | none => rw [hlj] at hx; simp at hx
            | some y =>
              rw [hlj] at hx
              have e2 : st y = x := by simpa using hx
              rw [← e2]
              exact (hb.cell (p := ⟨g, o + j, none⟩) hg).trans (hc j _ (by simp [strV, hlj]))) (by have := hb.size; omega) (by simp; omega) (by simp; omega)
            (by rw [hmap]; have e3 : (Lib.join l [47]).length + 1 = (slashed l).length := by rw [← hjs]; rfl
                show (Lib.join l [47]).length ≤ _; omega)
          rw [hmap, List.length_map, hl] at this
          exact this
        have hcat : (⟨#[47]⟩ : ByteArray) ++ st (Lib.join l [47]) = st (slashed l) := oc_inj (by rw [← hjs]; simp [oc, st])
        have hjz : (st (Lib.join l [47])).size ≤ 1000 := by
          rw [← oc_len, oc_st]
          have e3 : (Lib.join l [47]).length + 1 = (slashed l).length := by rw [← hjs]; rfl
          omega
        obtain ⟨R, hR⟩ : ∃ R, st (slashed l) = R := ⟨_, rfl⟩
        obtain ⟨J, hJJ⟩ : ∃ J, st (Lib.join l [47]) = J := ⟨_, rfl⟩
        rw [hR]
        simp only [hJJ] at hJ
        rw [hR, hJJ] at hcat
        rw [hJJ] at hjz
        have HJ := Lib.hid hJ
        have HCAT := Lib.hid hcat
        clear hC e1 hall hsz hr hl hc hjs hjl hmap hJ hcat hR hJJ hne
        go_enter Tryd.func16, Tryd.ntmps16
        go_wp2_with fail
        refine HC.out.mono ?_
        rintro e w1 ⟨rfl, h1⟩
        go_wp2_with fail
        refine (HJ.out w1 h1).mono ?_
        rintro e w2 ⟨rfl, h2⟩
        go_wp2
        go_ret2
        exact ⟨by rw [← HCAT.out]; rfl, h1.trans (h2.mono h1.size)⟩
end Go.Proofs.YtofbgebgneinaaaDoor
