/-
  Walks: the program's names, folds, orders, and names made of texts.
-/
import Derived.Test.YtpjghildhhpeeaaTitleL
import Derived.Test.YtpjghildhhpeeaaTitleG
import Derived.Lib.Bytealg
namespace Go.Proofs.Ytpjghildhhpeeaa
open Go.RowKit

theorem enters_is1 : ∀ args w, (callFunc 42 args).run Try.prog w = .ok (.enter 42 args) w := enters_of Try.func42 (by kernel_rfl) rfl
set_option maxHeartbeats 400000 in
theorem is1_any (c : Int) (w : World) :
    Calls Try.prog 42 #[.int .i32 c] w fun e w' => e = .returned (.bool (!signZ c)) ∧ w = w' := by
  go_enter Try.func42, Try.ntmps42
  go_wp2_with (go_at_call 43; refine (sign_any _ _).mono ?_; rintro e w' ⟨rfl, rfl⟩)
  go_ret
  exact ⟨rfl, rfl⟩

def allZ (l : List Rn) : Bool := l.all fun r => signZ (runeOf r)

set_option maxHeartbeats 1000000 in
theorem index1_any (s : ByteArray) (w : World) :
    Calls Try.prog 54 #[.string s, .func (.func 42) #[] #[], .bool true] w fun e w' => ∃ z : Int, e = .returned (.int .i64 z) ∧ (z < 0 ↔ allZ (runes (oc s)) = true) ∧ Below w.heap.size w w' := by
  have eg := enters_is1
  go_enter Try.func54, Try.ntmps54
  go_wp2
  go_loopg [] (runes (oc s)).length (fun gf wx => ∃ m : Nat, m + gf = (runes (oc s)).length ∧ wx.heap[w.heap.size]? = some (.stringIter s (octs ((runes (oc s)).take m)).length) ∧ allZ ((runes (oc s)).take m) = true ∧ Below w.heap.size w wx)
  case atStart => exact ⟨0, by omega, World.iter_heap w s 0, rfl, (Below.refl _ w).alloc (Nat.le_refl _) _⟩
  case round =>
    obtain ⟨m, hm, hit, hall, hbw⟩ := hrel
    have hsz : w.heap.size < wr.heap.size := (Array.getElem?_eq_some_iff.1 hit).1
    have HA := Lib.hid hall
    clear hall
    by_cases hlt : m < (runes (oc s)).length
    · obtain ⟨g', rfl⟩ : ∃ g', gk = g' + 1 := ⟨gk - 1, by omega⟩
      obtain ⟨r, hr⟩ : ∃ r, (runes (oc s))[m]? = some r := ⟨_, List.getElem?_eq_getElem hlt⟩
      obtain ⟨p, h1, h2, h3, h4, h5, h6⟩ := runes_at (oc s) m r hr
      have hpl : (octs ((runes (oc s)).take m)).length = p := by rw [h1, List.length_take]; omega
      rw [hpl] at hit
      have hpl2 : (octs ((runes (oc s)).take (m + 1))).length = p + (dec ((oc s).drop p)).2.1 := by rw [h5, List.length_take]; omega
      rw [oc_len] at h2 h3 h6
      have hnx : ∀ ty, (Instr.next (.pointer (some ⟨w.heap.size, 0, none⟩)) true ty).run Try.prog wr = _ := fun ty => Lib.run_next_any_at wr w.heap.size s p ty hit h3
      have hde := decode_dec s p
      have hne : (oc s).drop p ≠ [] := fun e => by have := congrArg List.length e; rw [List.length_drop, oc_len, List.length_nil] at this; omega
      have hro : r.odd = (dec ((oc s).drop p)).2.2 := by rw [h4]; rfl
      have hrv : r.v = (dec ((oc s).drop p)).1 := by rw [h4]; rfl
      obtain ⟨K, hK⟩ : ∃ K, (dec ((oc s).drop p)).2.1 = K := ⟨_, rfl⟩
      rw [hK] at hde hpl2 h6
      rw [← hro, ← hrv] at hde
      have hR : (((if r.odd then 65533 else r.v.toNat : Nat)) : Int) = runeOf r := by
        unfold runeOf
        cases ho : r.odd with
        | true => rfl
        | false =>
          have henc := encode_first _ hne (by rw [← h4]; exact ho)
          rw [← h4] at henc
          simp only [Bool.false_eq_true, if_false]; omega
      rw [hde] at hnx
      dsimp only at hnx
      rw [hR] at hnx
      have hit2 := Lib.iterAt_heap wr w.heap.size s p (p + K) hit
      have hbw2 := Lib.below_iterAt hbw (k := w.heap.size) (Nat.le_refl _) s (p + K)
      obtain ⟨W, hWd⟩ : ∃ W, wr.iterAt w.heap.size s (p + K) = W := ⟨_, rfl⟩
      rw [hWd] at hnx hit2 hbw2
      have HIT := Lib.hid hit2
      have HPL := Lib.hid hpl2
      have hts := take_snoc _ m r hr
      have HR := Lib.hid hr
      have HTS := Lib.hid hts
      clear hit2 hpl2 hr hit hbw hWd h1 h5 hpl hde hK hts h4 hro hrv hR
      generalize hc : runeOf r = c at *
      have HC := Lib.hid hc
      clear hc
      cases hsg : signZ c with
      | true =>
        have HS := Lib.hid hsg
        go_wp2_with (go_at_call 42; refine (is1_any _ _).mono ?_; rintro e w' ⟨rfl, rfl⟩; rw [HS.out])
        go_roundg g'
        case measure => omega
        case rel => exact ⟨m + 1, by omega, by rw [HPL.out]; exact HIT.out, by
          rw [HTS.out]; unfold allZ; rw [List.all_append]; have := HA.out; unfold allZ at this; rw [this]; simp [HC.out, HS.out], hbw2⟩
      | false =>
        have HS := Lib.hid hsg
        go_wp2_with (go_at_call 42; refine (is1_any _ _).mono ?_; rintro e w' ⟨rfl, rfl⟩; rw [HS.out])
        go_ret
        refine ⟨_, rfl, ⟨fun h => by omega, fun h => ?_⟩, hbw2⟩
        unfold allZ at h
        rw [List.all_eq_true] at h
        have := h r (List.mem_of_getElem? HR.out)
        rw [HC.out, HS.out] at this; cases this
    · have hnx : ∀ ty, (Instr.next (.pointer (some ⟨w.heap.size, 0, none⟩)) true ty).run Try.prog wr = _ := fun ty => Lib.run_next_end_at wr w.heap.size s _ ty hit (by
        rw [List.take_of_length_le (by omega), octs_runes, oc_len]; omega)
      have hall := HA.out
      rw [List.take_of_length_le (by omega)] at hall
      have HAL := Lib.hid hall
      clear hall
      go_wp2
      go_ret
      exact ⟨_, rfl, ⟨fun _ => HAL.out, fun _ => by decide⟩, hbw⟩

set_option maxHeartbeats 400000 in
theorem index_any (s : ByteArray) (w : World) :
    Calls Try.prog 41 #[.string s, .func (.func 42) #[] #[]] w fun e w' => ∃ z : Int, e = .returned (.int .i64 z) ∧ (z < 0 ↔ allZ (runes (oc s)) = true) ∧ Below w.heap.size w w' := by
  go_enter Try.func41, Try.ntmps41
  go_wp2_with fail
  refine (index1_any s w).mono ?_
  rintro e w' ⟨z, rfl, hz, hb⟩
  have HZ := Lib.hid hz
  clear hz
  go_wp2
  go_ret
  exact ⟨z, rfl, HZ.out, hb⟩

theorem all_signs (l : List Rn) (h : ∀ r ∈ l, r.odd = false) : l.all signR = allZ l := by
  induction l with
  | nil => rfl
  | cons r l ih =>
    have := (signR_of r).2 (h r List.mem_cons_self)
    show (signR r && l.all signR) = (signZ (runeOf r) && allZ l)
    rw [this, ih (fun x hx => h x (List.mem_cons_of_mem _ hx))]
theorem isName_odd (l : List UInt8) (h : 0 < strays l) : isName l = false := by
  cases hn : isName l with
  | false => rfl
  | true =>
    have := ((isName_iff l).1 hn).2.2.2.1
    have hz : strays l = 0 := (strays_none l).2 fun r hr => by
      cases ho : r.odd with
      | false => rfl
      | true => have := this r hr; rw [(signR_of r).1 ho] at this; cases this
    omega
theorem isName_even (l : List UInt8) (h : strays l = 0) : isName l = (decide (1 ≤ l.length) && decide (l.length ≤ 24) && decide ((runes l).length ≤ 16) && allZ (runes l) && decide (l ≠ [46]) && decide (l ≠ [46, 46])) := by
  unfold isName; rw [all_signs _ ((strays_none l).1 h)]

set_option maxHeartbeats 2000000 in
theorem Is_any (s : ByteArray) (w : World) (hs : s.size ≤ 1000000) :
    Calls Try.prog 24 #[.string s] w fun e w' => e = .returned (.bool (isName (oc s))) ∧ Below w.heap.size w w' := by
  have hrl := runes_len_le (oc s)
  rw [oc_len] at hrl
  have HL := Lib.hid (toList_oc s)
  have hlen := oc_len s
  by_cases h0 : s.toList = []
  · have h : isName (oc s) = false := by rw [← toList_oc, h0]; decide +kernel
    have H := Lib.hid h
    clear h
    go_enter Try.func24, Try.ntmps24
    go_wp2
    go_ret
    exact ⟨ret_bool H.out.symm, Below.refl _ _⟩
  have h0' : s.toList.isEmpty = false := by cases h : s.toList with | nil => exact absurd h h0 | cons _ _ => rfl
  by_cases h1 : s.toList = [46]
  · have h : isName (oc s) = false := by rw [← toList_oc, h1]; decide +kernel
    have H := Lib.hid h
    clear h h0
    go_enter Try.func24, Try.ntmps24
    go_wp2
    go_ret
    exact ⟨ret_bool H.out.symm, Below.refl _ _⟩
  by_cases h2 : s.toList = [46, 46]
  · have h : isName (oc s) = false := by rw [← toList_oc, h2]; decide +kernel
    have H := Lib.hid h
    clear h h0
    go_enter Try.func24, Try.ntmps24
    go_wp2
    go_ret
    exact ⟨ret_bool H.out.symm, Below.refl _ _⟩
  have hne1 : oc s ≠ [46] := by rw [← toList_oc]; exact h1
  have hne2 : oc s ≠ [46, 46] := by rw [← toList_oc]; exact h2
  have hpos : 1 ≤ s.size := by
    rcases Nat.eq_zero_or_pos s.size with h | h
    · exact absurd (by rw [toList_oc]; exact List.eq_nil_of_length_eq_zero (by rw [oc_len]; exact h)) h0
    · exact h
  have hb1 : (s.toList == [46]) = false := by simpa using h1
  have hb2 : (s.toList == [46, 46]) = false := by simpa using h2
  by_cases h3 : 24 < s.size
  · have h : isName (oc s) = false := by unfold isName; rw [oc_len, decide_eq_false (show ¬ s.size ≤ 24 by omega)]; simp
    have H := Lib.hid h
    clear h h0 h1 h2
    go_enter Try.func24, Try.ntmps24
    go_wp2
    go_ret
    exact ⟨ret_bool H.out.symm, Below.refl _ _⟩
  have hc := counts (oc s)
  have he := isName_even (oc s)
  have ho := isName_odd (oc s)
  rw [oc_len] at he
  obtain ⟨sr, hsr⟩ : ∃ sr, strays (oc s) = sr := ⟨_, rfl⟩
  obtain ⟨wh, hwh⟩ : ∃ wh, wholes (oc s) = wh := ⟨_, rfl⟩
  rw [hsr] at hc he ho
  rw [hwh] at hc
  have HSR := Lib.hid hsr
  have HWH := Lib.hid hwh
  have HO := Lib.hid ho
  have HE := Lib.hid he
  have hcl : wh ≤ 1000000 ∧ sr ≤ 1000000 := by omega
  have HC := Lib.hid hc
  have HN1 := Lib.hid hne1
  have HN2 := Lib.hid hne2
  clear hsr hwh ho he h0 h1 h2 hc hne1 hne2 hrl hlen
  by_cases h4 : sr = 0
  · have h4' : ((sr : Int) == 0) = true := by simp; omega
    by_cases h5 : wh ≤ 16
    · go_enter Try.func24, Try.ntmps24
      go_wp2_with fail
      refine (Count_any s w hs).mono ?_
      rintro e w1 ⟨rfl, hbw⟩
      rw [HSR.out, HWH.out]
      have HZ := Lib.hid h4
      clear h4
      go_wp2_with fail
      refine (index_any s w1).mono ?_
      rintro e w2 ⟨z, rfl, hz, hbw2⟩
      have hb3 := hbw.trans (hbw2.mono hbw.size)
      have hi := HE.out HZ.out
      have hcc := HC.out
      rw [HZ.out] at hcc
      rw [decide_eq_true hpos, decide_eq_true (show s.size ≤ 24 by omega), decide_eq_true (show (runes (oc s)).length ≤ 16 by omega), decide_eq_true HN1.out, decide_eq_true HN2.out] at hi
      simp only [Bool.true_and, Bool.and_true] at hi
      have HI := Lib.hid hi
      have HZZ := Lib.hid hz
      clear hi hz hcc
      by_cases hzl : z < 0
      · have hal := HZZ.out.1 hzl
        have HAL := Lib.hid hal
        clear hal
        go_wp2
        go_ret
        exact ⟨ret_bool (by rw [HI.out, HAL.out]), hb3⟩
      · have hal : allZ (runes (oc s)) = false := by
          cases h : allZ (runes (oc s)) with
          | false => rfl
          | true => exact absurd (HZZ.out.2 h) hzl
        have HAL := Lib.hid hal
        clear hal
        go_wp2
        go_ret
        exact ⟨ret_bool (by rw [HI.out, HAL.out]; simp; omega), hb3⟩
    · have h : isName (oc s) = false := by
        have hcc := HC.out
        rw [HE.out h4, decide_eq_false (show ¬ (runes (oc s)).length ≤ 16 by omega)]; simp
      have H := Lib.hid h
      clear h
      go_enter Try.func24, Try.ntmps24
      go_wp2_with fail
      refine (Count_any s w hs).mono ?_
      rintro e w1 ⟨rfl, hbw⟩
      rw [HSR.out, HWH.out]
      clear h4
      go_wp2
      go_ret
      exact ⟨ret_bool H.out.symm, hbw⟩
  · have h := HO.out (by omega)
    have H := Lib.hid h
    have h4' : ((sr : Int) == 0) = false := by simp; omega
    clear h
    go_enter Try.func24, Try.ntmps24
    go_wp2_with fail
    refine (Count_any s w hs).mono ?_
    rintro e w1 ⟨rfl, hbw⟩
    rw [HSR.out, HWH.out]
    go_wp2
    go_ret
    exact ⟨ret_bool H.out.symm, hbw⟩

theorem cmp_lib (a b : List UInt8) : Lib.compareBytes a b = cmpL a b := by
  induction a generalizing b with
  | nil => cases b <;> rfl
  | cons x a ih => cases b with
    | nil => rfl
    | cons y b =>
      simp only [Lib.compareBytes, cmpL, ih, UInt8.lt_iff_toNat_lt]

set_option maxHeartbeats 1000000 in
set_option maxRecDepth 100000 in
theorem cmpString_any (a b : ByteArray) (w : World) :
    Calls Try.prog 57 #[.string a, .string b] w fun e w' => e = .returned (.int .i64 (cmpL (oc a) (oc b))) ∧ w = w' := by
  have hc := cmp_lib (oc a) (oc b)
  have HC := Lib.hid hc
  clear hc
  go_enter Try.func57, Try.ntmps57
  go_wp2

  rw [run_callFunc_extern Try.func61 (by kernel_rfl) (by kernel_rfl) (by kernel_rfl) (e := Extern.BytealgCompare.compare) (by kernel_rfl), Lib.run_compareString]
  simp only [Result.andThen]
  rw [Oper.upon_value]
  go_wp2
  go_ret
  exact ⟨ret_int HC.out, rfl⟩
end Go.Proofs.Ytpjghildhhpeeaa
