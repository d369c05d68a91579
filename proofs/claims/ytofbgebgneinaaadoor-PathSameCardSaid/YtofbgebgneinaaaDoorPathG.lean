/-
  Walks: the same names; a text cut; the reference's Parse and Parent.
-/
import Derived.Test.YtofbgebgneinaaaDoorPathF
import Derived.Test.YtofbgebgneinaaaDoorTitleF
namespace Go.Proofs.YtofbgebgneinaaaDoor
open Go.RowKit Go.Shelf
set_option linter.unusedVariables false

theorem under_same (a b : List (List UInt8)) (h : a.length = b.length) (q : List UInt8) : underL (a ++ [q]) b = decide (a = b) := by
  unfold underL
  rw [decide_eq_true (by simp; omega), Bool.true_and, ← h, List.take_left]

set_option maxHeartbeats 2000000 in
set_option maxRecDepth 100000 in
theorem rSame_any (A A' : Option Addr) (n c n' c' : Nat) (a b : List (List UInt8)) (w : World) (ha : Rd w w.heap.size 1 A n (strV a)) (hb : Rd w w.heap.size 1 A' n' (strV b)) (hn : n ≤ 100000) (hn' : n' ≤ 100000) :
    Calls Tryd.prog 12 #[.slice A n c, .slice A' n' c'] w fun e w' => e = .returned (.bool (decide (a = b))) ∧ Below w.heap.size w w' := by
  obtain ⟨i0, hi, hz0, hz1, hz2⟩ := info_parts (P := Tryd.prog) (e := 9) (z := .string ByteArray.empty) (size := 1) (bytes := 16) (by kernel_rfl)
  have h1 := ha.1
  have h2 := hb.1
  rw [strV_len, Nat.mul_one] at h1 h2
  by_cases hne : n ≠ n'
  · have hd : decide (a = b) = false := decide_eq_false (fun h => hne (by rw [← h1, ← h2, h]))
    have i1 : ((n : Int) == (n' : Int)) = false := beq_false_of_ne (by omega)
    rw [hd]
    clear ha hb hd
    go_enter Tryd.func12, Tryd.ntmps12
    go_wp2
    go_ret
    exact ⟨rfl, Below.refl _ _⟩
  · have hnn : n = n' := by omega
    subst hnn
    by_cases h0 : n = 0
    · subst h0
      have hd : decide (a = b) = true := decide_eq_true (by rw [List.eq_nil_of_length_eq_zero h1, List.eq_nil_of_length_eq_zero h2])
      rw [hd]
      clear ha hb hd
      go_enter Tryd.func12, Tryd.ntmps12
      go_wp2
      go_ret
      exact ⟨rfl, Below.refl _ _⟩
    · obtain ⟨g, o, rfl, hg, hca⟩ := ha.2 (by omega)
      have i1 : ((n : Int) == 0) = false := beq_false_of_ne (by omega)
      have hcs := rd_cells (ha.keep (w' := w.alloc (.cells #[] 9)) (fun p hp => World.cell?_alloc_lt w _ p hp))
      have hnil := (OwnB.lit w w.heap.size (Nat.le_refl _) 9 1 0 #[] (by simp) (by simp)).own
      have HN := Lib.hid hnil
      have HC := Lib.hid hcs
      have HB := Lib.hid hb
      have hus := under_same a b (by omega) [113]
      have HUS := Lib.hid hus
      have hsl : (strV a).length = n * 1 := by rw [strV_len, h1, Nat.mul_one]
      have HSL := Lib.hid hsl
      have HS1 := Lib.hid (strV_one a)
      obtain ⟨R, hR⟩ : ∃ R, decide (a = b) = R := ⟨_, rfl⟩
      rw [hR] at HUS ⊢
      have hsq := strV_snoc a [113]
      have HSQ := Lib.hid hsq
      have HLA := Lib.hid h1
      clear ha hb hcs hnil hca hus hR hsl hsq h1 h2
      go_enter Tryd.func12, Tryd.ntmps12
      go_wp2_with (at_builtin; refine wpList_append_own_g rfl (.tmp 15) (.tmp 16) 23 rfl w.heap.size 9 i0 (.string ByteArray.empty) 1 16 Tryd.underlying23 hi hz0 hz1 hz2 rfl (by decide) _ _ _ rfl HN.out ⟨g, o, none⟩ n c (strV a) (by rfl) HSL.out HC.out HS1.out (by unfold maxLen; omega) (by omega) (by simp) ?_)
      intro v1 w1 hown1 hgrow1
      have hb1 := ((Below.refl _ w).alloc (Nat.le_refl _) (.cells #[] 9)).grown hgrow1 (by simp) (fun k hk => by simp [Value.ownBlock] at hk; omega)
      have HO1 := Lib.hid hown1
      clear hown1 hgrow1
      go_wp2_with (at_builtin; refine wpList_append_own_g rfl (.tmp 17) (.tmp 18) 23 rfl w.heap.size 9 i0 (.string ByteArray.empty) 1 16 Tryd.underlying23 hi hz0 hz1 hz2 rfl (by decide) _ _ _ rfl (HO1.out.alloc _) ⟨w1.heap.size, 0, none⟩ 1 1 [.string ⟨#[113]⟩] (by rfl) (by rfl) (fun j u hj => new_cells w1 _ _ _ rfl j u hj) (one_cell rfl) (by unfold maxLen; omega) (by omega) (base_alloc hb1.size _) ?_)
      intro v2 w2 hown2 hgrow2
      have hb2 := (hb1.alloc hb1.size (.cells #[.string ⟨#[113]⟩] 9)).grown hgrow2 (base_alloc hb1.size _) (fun k hk => (HO1.out.lt k hk).1)
      have ho2 : w2.ownsRow w.heap.size 9 1 v2 (n + 1) (strV (a ++ [[113]])) := by
        rw [HSQ.out]
        exact hown2
      obtain ⟨A2, c2, rfl, hc2, _, hr2⟩ := own_form ho2
      have HR2 := Lib.hid hr2
      have HB2 := Lib.hid ((HB.out.below hb2).more hb2.size)
      clear hown2 hgrow2 ho2 hr2
      go_wp2_with fail
      refine (rUnder_any A2 A' (n + 1) c2 n c' (a ++ [[113]]) b w2 HR2.out HB2.out (by omega) (by omega)).mono ?_
      rintro e w3 ⟨rfl, h3⟩
      rw [HUS.out]
      go_wp2
      go_ret
      exact ⟨rfl, hb2.trans (h3.mono hb2.size)⟩
end Go.Proofs.YtofbgebgneinaaaDoor
