/-
  Walks: the document's path of names; the law on joined names.
-/
import Derived.Test.YtofbgebgneinaaaDoorPathN
namespace Go.Proofs.YtofbgebgneinaaaDoor
open Go.RowKit Go.Shelf
set_option linter.unusedVariables false

set_option maxHeartbeats 4000000 in
set_option maxRecDepth 100000 in
theorem rJoin_any (A : Option Addr) (m c : Nat) (l : List (List UInt8)) (w : World) (hr : Rd w w.heap.size 1 A m (strV l)) (hm : m ≤ 10) (hsz : ∀ x ∈ l, x.length ≤ 60) :
    Calls Tryd.prog 17 #[.slice A m c] w fun e w' => e = .returned (.tuple #[.string (st (joinL l).1), .int .i64 (joinL l).2]) ∧ Below w.heap.size w w' := by
  have hl := hr.1
  rw [strV_len, Nat.mul_one] at hl
  have HL := Lib.hid hl
  have HR := Lib.hid hr
  have HSZ := Lib.hid hsz
  clear hl hr hsz
  go_enter Tryd.func17, Tryd.ntmps17
  go_wp2
  go_loopw [4, 5] (fun v i wr => ∃ (k : Nat) (S : ByteArray), k ≤ m ∧ i = .int .i64 k ∧ v = .string S ∧ Hid (S = st (slashed (l.take k))) ∧ Hid ((l.take k).all isName = true) ∧ S.size ≤ 61 * k ∧ Below w.heap.size w wr) (fun _ i _ => m - (intOf i).toNat)
  case atStart => exact ⟨0, ⟨#[]⟩, Nat.zero_le _, rfl, rfl, Lib.hid rfl, Lib.hid rfl, by decide, Below.refl _ _⟩
  case round =>
    obtain ⟨k, S, hk, rfl, rfl, HS, HA, hS, hbw⟩ := hrel
    by_cases hlt : k < m
    · obtain ⟨g, o, x, rfl, hg, hx, hcell⟩ := str_at ((HR.out.below hbw).more hbw.size) hlt
      have hxl := HSZ.out x (List.mem_iff_getElem?.2 ⟨k, hx⟩)
      obtain ⟨b, hb⟩ : ∃ b, st x = b := ⟨_, rfl⟩
      have hbx : oc b = x := by rw [← hb, oc_st]
      have hbs : b.size ≤ 60 := by rw [← oc_len, hbx]; exact hxl
      have hI := rIs_any b wr (by omega)
      rw [hbx] at hI
      rw [hb] at hcell
      cases hok : isName x with
      | false =>
        have hres : l.all isName = false := by
          cases h : l.all isName with
          | false => rfl
          | true =>
            have := List.all_eq_true.1 h x (List.mem_of_getElem? hx)
            rw [hok] at this; cases this
        have e1 : joinL l = ([], 11) := by unfold joinL; rw [if_pos hres]
        rw [hok] at hI
        have HI := Lib.hid hI
        have HE := Lib.hid e1
        clear hI hok hres e1 hb hbx hx hxl
        go_wp2_with fail
        refine HI.out.mono ?_
        rintro e w1 ⟨rfl, h1⟩
        go_wp2
        go_ret2
        exact ⟨by rw [HE.out]; rfl, hbw.trans (h1.mono hbw.size)⟩
      | true =>
        have hA2 : (l.take (k + 1)).all isName = true := by rw [take_snoc l k x hx, List.all_append, HA.out]; simp [hok]
        have hcat : S ++ ((⟨#[47]⟩ : ByteArray) ++ b) = st (slashed (l.take (k + 1))) := oc_inj (by
          rw [take_snoc l k x hx, slashed_snoc, HS.out, ← hb]; simp [oc, st])
        rw [hok] at hI
        have HI := Lib.hid hI
        have HA2 := Lib.hid hA2
        obtain ⟨T, hT⟩ : ∃ T, S ++ ((⟨#[47]⟩ : ByteArray) ++ b) = T := ⟨_, rfl⟩
        have hTs : T.size ≤ 61 * (k + 1) := by rw [← hT]; simp [ByteArray.size_append]; have : (⟨#[47]⟩ : ByteArray).size = 1 := rfl; omega
        rw [hT] at hcat
        have HCAT := Lib.hid hcat
        have HT := Lib.hid hT
        clear hI hok hA2 hcat hb hbx hx hxl hT
        go_wp2_with fail
        refine HI.out.mono ?_
        rintro e w1 ⟨rfl, h1⟩
        have hcell1 := (h1.cell (p := ⟨g, o + k, none⟩) hg).trans hcell
        go_wp2
        go_roundw
        case rel => exact ⟨k + 1, T, by omega, by go_num, by rw [← HT.out], HCAT, HA2, hTs, hbw.trans (h1.mono hbw.size)⟩
        case measure => simp [intOf]; omega
    · obtain rfl : k = m := by omega
      have hall := HA.out
      have hSS := HS.out
      rw [List.take_of_length_le (by rw [HL.out]; exact Nat.le_refl _)] at hall hSS
      by_cases h8 : 8 < k
      · have e1 : joinL l = ([], 16) := by unfold joinL; rw [if_neg (by rw [hall]; simp), if_pos (by rw [HL.out]; exact h8)]
        have HE := Lib.hid e1
        clear e1 hall hSS
        go_wp2
        go_ret2
        exact ⟨by rw [HE.out]; rfl, hbw⟩
      · by_cases h0 : k = 0
        · have hnil : l = [] := List.eq_nil_of_length_eq_zero (by rw [HL.out]; exact h0)
          have hS0 : S = ⟨#[]⟩ := by rw [hSS, hnil]; rfl
          have e1 : joinL l = ([47], 0) := by rw [hnil]; rfl
          have HE := Lib.hid e1
          subst hS0
          clear e1 hall hSS hnil
          go_wp2
          go_ret2
          exact ⟨by rw [HE.out]; rfl, hbw⟩
        · have hne : l ≠ [] := fun e => h0 (by rw [← HL.out, e]; rfl)
          have e1 : joinL l = (slashed l, 0) := by unfold joinL; rw [if_neg (by rw [hall]; simp), if_neg (by rw [HL.out]; exact h8), if_neg hne]
          have hq : S.toList.isEmpty = false := by
            rw [ByteArray.toList_eq, hSS]
            cases l with
            | nil => exact absurd rfl hne
            | cons y r => rw [slashed_cons]; rfl
          have HE := Lib.hid e1
          have HSS := Lib.hid hSS
          clear e1 hall hSS hne
          go_wp2
          go_ret2
          exact ⟨by rw [HE.out, HSS.out]; rfl, hbw⟩
end Go.Proofs.YtofbgebgneinaaaDoor
