/-
  Walks: where a path leads, by the document.
-/
import Derived.Test.YtofbgebgneinaaaDoorPathH
namespace Go.Proofs.YtofbgebgneinaaaDoor
open Go.RowKit Go.Shelf
set_option linter.unusedVariables false

theorem go_drop {l : List (List UInt8)} {k : Nat} {x : List UInt8} (h : l[k]? = some x) : l.drop k = x :: l.drop (k + 1) := by
  have hk := get_lt h
  rw [List.drop_eq_getElem_cons hk]
  rw [List.getElem?_eq_getElem hk] at h
  rw [Option.some.inj h]
/-- What a call that reads a path hands back. -/
def ReadPost (r : List (List UInt8) × Int) (w : World) (e : Ending) (w' : World) : Prop :=
  (∃ A c, e = .returned (.tuple #[.slice A r.1.length c, .int .i64 r.2]) ∧ r.1.length ≤ c ∧ Rd w' w'.heap.size 1 A r.1.length (strV r.1)) ∧ Below w.heap.size w w'

set_option maxHeartbeats 4000000 in
set_option maxRecDepth 100000 in
theorem rParse_bad (s : ByteArray) (w : World) (hs : s.size ≤ 1000000) (h : (oc s).head? ≠ some 47) :
    Calls Tryd.prog 9 #[.string s] w fun e w' => e = .returned (.tuple #[.slice none 0 0, .int .i64 11]) ∧ w = w' := by
  by_cases h0 : s.size = 0
  · have i1 : ((s.size : Int) == 0) = true := by rw [h0]; rfl
    go_enter Tryd.func9, Tryd.ntmps9
    go_wp2
    go_ret2
    exact ⟨rfl, rfl⟩
  · have hlt : 0 < s.size := by omega
    have i1 : ((s.size : Int) == 0) = false := beq_false_of_ne (by omega)
    obtain ⟨x, hx⟩ : ∃ x, (s[0]'hlt).toNat = x := ⟨_, rfl⟩
    have hne : x ≠ 47 := fun e => h (by
      have e2 : s[0]'hlt = 47 := UInt8.toNat_inj.1 (by rw [hx, e]; rfl)
      have hl : 0 < (oc s).length := by rw [oc_len]; exact hlt
      rw [List.head?_eq_getElem?, List.getElem?_eq_getElem hl]
      refine congrArg some (Eq.trans ?_ e2)
      rfl)
    have i2 : ((x : Int) == 47) = false := beq_false_of_ne (by omega)
    have i3 : (0 : Int) < (s.size : Int) := by omega
    clear h
    go_enter Tryd.func9, Tryd.ntmps9
    go_wp2
    go_ret2
    exact ⟨rfl, rfl⟩

def isDot (x : List UInt8) : Bool := decide (x = [] ∨ x = [46])

set_option maxHeartbeats 8000000 in
set_option maxRecDepth 100000 in
theorem rParse_any (s : ByteArray) (w : World) (hs : s.size ≤ 1000000) :
    Calls Tryd.prog 9 #[.string s] w (ReadPost (parseL (oc s)) w) := by
  obtain ⟨i0, hi, hz0, hz1, hz2⟩ := info_parts (P := Tryd.prog) (e := 9) (z := .string ByteArray.empty) (size := 1) (bytes := 16) (by kernel_rfl)
  by_cases h : (oc s).head? = some 47
  · have hlt : 0 < s.size := by
      rw [← oc_len]; cases hh : oc s with
      | nil => rw [hh] at h; simp at h
      | cons => simp
    have i1 : ((s.size : Int) == 0) = false := beq_false_of_ne (by omega)
    obtain ⟨x0, hx0⟩ : ∃ x, (s[0]'hlt).toNat = x := ⟨_, rfl⟩
    have hx47 : x0 = 47 := by
      have hl : 0 < (oc s).length := by rw [oc_len]; exact hlt
      rw [List.head?_eq_getElem?, List.getElem?_eq_getElem hl] at h
      have e2 : s[0]'hlt = 47 := Option.some.inj h
      rw [← hx0, e2]; rfl
    subst hx47
    have i3 : (0 : Int) < (s.size : Int) := by omega
    by_cases h200 : 200 < s.size
    · have e1 : parseL (oc s) = ([], 16) := by unfold parseL; rw [if_neg (by simpa using h), if_pos (by rw [oc_len]; exact h200)]
      rw [e1]
      clear e1 h
      go_enter Tryd.func9, Tryd.ntmps9
      go_wp2
      go_ret2
      exact ⟨⟨none, 0, rfl, Nat.le_refl _, Rd.nil⟩, Below.refl _ _⟩
    · have e1 : parseL (oc s) = parseGo [] (splitB (oc s)) := by unfold parseL; rw [if_neg (by simpa using h), if_neg (by rw [oc_len]; exact h200)]
      rw [e1]
      have hpl : ∀ p ∈ splitB (oc s), p.length ≤ 1000000 := fun p hp => by have := piece_len _ _ hp; rw [oc_len] at this; omega
      have hCut := Cut_any s w hs
      obtain ⟨P, hP⟩ : ∃ P, splitB (oc s) = P := ⟨_, rfl⟩
      rw [hP] at hCut hpl ⊢
      obtain ⟨m, hm⟩ : ∃ m, P.length = m := ⟨_, rfl⟩
      have hmb : m ≤ 1000001 := by
        rw [← hm, ← hP]
        have : ∀ l : List UInt8, (splitB l).length ≤ l.length + 1 := by
          intro l; induction l with
          | nil => simp [splitB]
          | cons c r ih =>
            by_cases hc : c = 47
            · subst hc; rw [splitB_slash]; simp; exact ih
            · obtain ⟨q, qs, f1, f2⟩ := splitB_other c r hc
              rw [f2]; rw [f1] at ih; simp at ih ⊢; omega
        have := this (oc s); rw [oc_len] at this; omega
      obtain ⟨RES, hRES⟩ : ∃ RES, parseGo [] P = RES := ⟨_, rfl⟩
      rw [hRES]
      have HR0 := Lib.hid hRES
      have HC := Lib.hid hCut
      have HPL := Lib.hid hpl
      have HM := Lib.hid hm
      clear hCut hpl e1 h hP hRES hm
      go_enter Tryd.func9, Tryd.ntmps9
      go_wp2_with fail
      refine HC.out.mono ?_
      rintro e w1 ⟨⟨v1, rfl, ho1⟩, hb1⟩
      obtain ⟨A1, c1, rfl, hc1, hr1⟩ := own_rdS ho1
      rw [HM.out] at hr1 hc1 ⊢
      have HR1 := Lib.hid hr1
      clear ho1 hr1
      go_wp2
      go_loopw [5, 6] (fun v i wr => ∃ (k : Nat) (out : List (List UInt8)), k ≤ m ∧ i = .int .i64 k ∧ out.length ≤ 8 ∧ wr.ownsRow w1.heap.size 9 1 v out.length (strV out) ∧ Hid (parseGo out (P.drop k) = RES) ∧ Below w.heap.size w wr ∧ Below w1.heap.size w1 wr) (fun _ i _ => m - (intOf i).toNat)
      case atStart => exact ⟨0, [], Nat.zero_le _, rfl, by simp, ⟨rfl, .inl ⟨rfl, rfl⟩⟩, Lib.hid (by simpa using HR0.out), hb1, Below.refl _ _⟩
      case round =>
        obtain ⟨k, out, hk, rfl, h8, hown, HK, hbw, hbr⟩ := hrel
        by_cases hlt2 : k < m
        · obtain ⟨g, o, x, rfl, hg, hx, hcell⟩ := str_at ((HR1.out.below hbr).more hbr.size) hlt2
          have hst := HK.out
          rw [go_drop hx] at hst
          have hxl := HPL.out x (List.mem_iff_getElem?.2 ⟨k, hx⟩)
          obtain ⟨b, hb⟩ : ∃ b, st x = b := ⟨_, rfl⟩
          have hbx : oc b = x := by rw [← hb, oc_st]
          have hbs : b.size ≤ 1000000 := by rw [← oc_len, hbx]; exact hxl
          have htl : b.toList = x := by rw [ByteArray.toList_eq]; exact hbx
          rw [hb] at hcell
          obtain ⟨A, c, rfl, hnc, hcm, _⟩ := own_form hown
          by_cases x1 : x = []
          · subst x1
            rw [parseGo_skip _ _ _ (.inl rfl)] at hst
            have q1 : b.toList.isEmpty = true := by rw [htl]; rfl
            have HST := Lib.hid hst
            have HO := Lib.hid hown
            clear hst hx hb hbx htl hown
            go_wp2
            go_roundw
            case rel => exact ⟨k + 1, out, by omega, by go_num, h8, HO.out, HST, hbw, hbr⟩
            case measure => simp [intOf]; omega
          have q1 : b.toList.isEmpty = false := by rw [htl]; cases x with
            | nil => exact absurd rfl x1
            | cons => rfl
          by_cases x2 : x = [46]
          · subst x2
            rw [parseGo_skip _ _ _ (.inr rfl)] at hst
            have q2 : (b.toList == [46]) = true := by rw [htl]; rfl
            have HST := Lib.hid hst
            have HO := Lib.hid hown
            clear hst hx hb hbx htl hown
            go_wp2
            go_roundw
            case rel => exact ⟨k + 1, out, by omega, by go_num, h8, HO.out, HST, hbw, hbr⟩
            case measure => simp [intOf]; omega
          have q2 : (b.toList == [46]) = false := by rw [htl]; exact beq_false_of_ne x2
          by_cases x3 : x = [46, 46]
          · subst x3
            rw [parseGo_up] at hst
            have q3 : (b.toList == [46, 46]) = true := by rw [htl]; rfl
            have HST := Lib.hid hst
            clear hst hx hb hbx htl
            rcases own_cases hown with ⟨e0, h0, _⟩ | ⟨g2, cap, e0, hB⟩
            · have ho : out = [] := List.eq_nil_of_length_eq_zero h0
              subst ho
              have HO := Lib.hid hown
              clear hown e0
              go_wp2
              go_roundw
              case rel => exact ⟨k + 1, [], by omega, by go_num, by simp, HO.out, HST, hbw, hbr⟩
              case measure => simp [intOf]; omega
            · injection e0 with e1 e2 e3
              subst e1 e3
              by_cases hm0 : out.length = 0
              · have ho : out = [] := List.eq_nil_of_length_eq_zero hm0
                subst ho
                have HO := Lib.hid hown
                clear hown hB
                go_wp2
                go_roundw
                case rel => exact ⟨k + 1, [], by omega, by go_num, by simp, HO.out, HST, hbw, hbr⟩
                case measure => simp [intOf]; omega
              · obtain ⟨q, hq⟩ : ∃ q, out.length = q + 1 := ⟨out.length - 1, by omega⟩
                have hdl : out.dropLast.length = q := by rw [List.length_dropLast, hq]; rfl
                have hcut := own_cut hB q (by omega)
                rw [← strV_drop out q hq] at hcut
                rw [hq] at h8 hnc ⊢
                have HD := Lib.hid hdl
                have HCU := Lib.hid hcut
                clear hcut hdl hB hown hq
                go_wp2
                go_roundw
                case rel => exact ⟨k + 1, out.dropLast, by omega, by go_num, by rw [HD.out]; omega, by rw [HD.out]; exact HCU.out, HST, hbw, hbr⟩
                case measure => simp [intOf]; omega
          have q3 : (b.toList == [46, 46]) = false := by rw [htl]; exact beq_false_of_ne x3
          have n1 : ¬ (x = [] ∨ x = [46]) := fun hh => hh.elim x1 x2
          cases hnm : isName x with
          | false =>
            rw [parseGo_bad _ _ _ n1 x3 hnm] at hst
            have hIs := rIs_any b wr hbs
            rw [hbx, hnm] at hIs
            have HI := Lib.hid hIs
            have HST := Lib.hid hst
            clear hst hx hb hbx htl hown hIs hnm n1
            go_wp2_with fail
            refine HI.out.mono ?_
            rintro e w2 ⟨rfl, hb2⟩
            go_wp2
            go_ret2
            exact ⟨⟨none, 0, by rw [← HST.out]; rfl, by rw [← HST.out]; exact Nat.le_refl _, by rw [← HST.out]; exact Rd.nil⟩, hbw.trans (hb2.mono hbw.size)⟩
          | true =>
            have hIs := rIs_any b wr hbs
            rw [hbx, hnm] at hIs
            have HI := Lib.hid hIs
            by_cases h8' : 8 ≤ out.length
            · rw [parseGo_big _ _ _ n1 x3 hnm h8'] at hst
              have HST := Lib.hid hst
              clear hst hx hb hbx htl hown hIs hnm n1
              go_wp2_with fail
              refine HI.out.mono ?_
              rintro e w2 ⟨rfl, hb2⟩
              go_wp2
              go_ret2
              exact ⟨⟨none, 0, by rw [← HST.out]; rfl, by rw [← HST.out]; exact Nat.le_refl _, by rw [← HST.out]; exact Rd.nil⟩, hbw.trans (hb2.mono hbw.size)⟩
            · rw [parseGo_in _ _ _ n1 x3 hnm (by omega)] at hst
              have hsn : strV (out ++ [x]) = strV out ++ [.string b] := by rw [strV_snoc, hb]
              have hsl : (out ++ [x]).length = out.length + 1 := by simp
              obtain ⟨q, hq⟩ : ∃ q, out.length = q := ⟨_, rfl⟩
              rw [hq] at hown h8 h8' hsl hnc ⊢
              have HSN := Lib.hid hsn
              have HSL := Lib.hid hsl
              have HST := Lib.hid hst
              have HO := Lib.hid hown
              clear hst hx hb hbx htl hown hIs hnm n1 hsn hsl hq
              go_wp2_with fail
              refine HI.out.mono ?_
              rintro e w2 ⟨rfl, hb2⟩
              have hbw2 := hbw.trans (hb2.mono hbw.size)
              have hbr2 := hbr.trans (hb2.mono hbr.size)
              have hO2 := own_later HO.out hb2
              have hcell2 := (hb2.cell (p := ⟨g, o + k, none⟩) hg).trans hcell
              have hgl : w.heap.size ≤ w1.heap.size := hb1.size
              have hgw := hbr2.size
              go_wp2_with (at_builtin; refine wpList_append_own _ rfl (.tmp 60) (.tmp 65) 23 rfl w1.heap.size 9 i0 _ 1 16 Tryd.underlying23 hi hz0 hz1 hz2 rfl (by decide) _ _ _ rfl (hO2.alloc _) ⟨w2.heap.size, 0, none⟩ 1 1 [.string b] (by rfl) (by rfl) (fun j u hj => new_cells w2 _ _ _ rfl j u hj) (one_cell rfl) (by unfold maxLen; omega) (by omega) (base_alloc hbr2.size _) ?_)
              intro v' w3 hown' hgrow _
              have hbr3 : Below w1.heap.size w1 w3 := (hbr2.alloc hbr2.size _).grown hgrow (base_alloc hbr2.size _) (fun k hk => (hO2.lt k hk).1)
              have hbw3 : Below w.heap.size w w3 := hb1.trans (hbr3.mono hgl)
              have HO3 : Hid (w3.ownsRow w1.heap.size 9 1 v' (out ++ [x]).length (strV (out ++ [x]))) := Lib.hid (by
                rw [HSL.out, HSN.out]; exact hown')
              clear hown' hgrow hO2
              go_wp2
              go_roundw
              case rel => exact ⟨k + 1, out ++ [x], by omega, by go_num, by rw [HSL.out]; omega, HO3.out, HST, hbw3, hbr3⟩
              case measure => simp [intOf]; omega
        · obtain rfl : k = m := by omega
          have hres := HK.out
          rw [List.drop_of_length_le (by rw [HM.out]; exact Nat.le_refl _), parseGo_nil] at hres
          obtain ⟨A, c, rfl, hnc, hcm, hr⟩ := own_form hown
          have HRR := Lib.hid hr
          have HRES := Lib.hid hres
          clear hres hown hr
          go_wp2
          go_ret2
          exact ⟨⟨A, c, by rw [← HRES.out]; rfl, by rw [← HRES.out]; exact hnc, by rw [← HRES.out]; exact HRR.out⟩, hbw⟩
  · have e1 : parseL (oc s) = ([], 11) := by unfold parseL; rw [if_pos h]
    rw [e1]
    exact (rParse_bad s w hs h).mono fun e w' ⟨he, hw⟩ => ⟨⟨none, 0, he, Nat.le_refl _, Rd.nil⟩, by rw [← hw]; exact Below.refl _ _⟩
end Go.Proofs.YtofbgebgneinaaaDoor
