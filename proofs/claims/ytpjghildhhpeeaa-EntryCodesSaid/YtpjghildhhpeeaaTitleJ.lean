/-
  Walks: the program's visit of each rune.
-/
import Derived.Test.YtpjghildhhpeeaaTitleF
import Derived.Test.YtpjghildhhpeeaaTitleI
import Derived.Lib.OthersKept
import Derived.Deep.LoopGhost
namespace Go.Proofs.Ytpjghildhhpeeaa
open Go.RowKit

def signZ (c : Int) : Bool := decide (32 ≤ c) && decide (c ≠ 127) && decide (c ≠ 47)
set_option maxHeartbeats 400000 in
theorem sign_any (c : Int) (w : World) :
    Calls Try.prog 43 #[.int .i32 c] w fun e w' => e = .returned (.bool (signZ c)) ∧ w = w' := by
  have hs : signZ c = (decide (32 ≤ c) && decide (c ≠ 127) && decide (c ≠ 47)) := rfl
  have HS := Lib.hid hs
  clear hs
  by_cases h1 : 32 ≤ c
  · by_cases h2 : c = 127
    · subst h2
      go_enter Try.func43, Try.ntmps43
      go_wp2
      go_ret
      exact ⟨ret_bool (by rw [HS.out]; rfl), rfl⟩
    · by_cases h3 : c = 47
      · subst h3
        go_enter Try.func43, Try.ntmps43
        go_wp2
        go_ret
        exact ⟨ret_bool (by rw [HS.out]; rfl), rfl⟩
      · have e2 : (c != 127) = true := by simpa using h2
        have e3 : (c != 47) = true := by simpa using h3
        go_enter Try.func43, Try.ntmps43
        go_wp2
        go_ret
        exact ⟨ret_bool (by rw [HS.out]; simp [h1, h2, h3]), rfl⟩
  · go_enter Try.func43, Try.ntmps43
    go_wp2
    go_ret
    exact ⟨ret_bool (by rw [HS.out]; simp; omega), rfl⟩

def preB (l p : List UInt8) : Bool := decide (l.take p.length = p)
set_option maxHeartbeats 400000 in
theorem litePrefix_any (s p : ByteArray) (w : World) :
    Calls Try.prog 62 #[.string s, .string p] w fun e w' => e = .returned (.bool (preB (oc s) (oc p))) ∧ w = w' := by
  have hs : preB (oc s) (oc p) = decide ((oc s).take p.size = oc p) := by unfold preB; rw [oc_len]
  have he : p.size ≤ s.size → (s.extract 0 p.size).toList = (oc s).take p.size := fun h => by rw [toList_oc, oc_extract]; simp
  have HS := Lib.hid hs
  have HE := Lib.hid he
  have HP := Lib.hid (toList_oc p)
  clear hs he
  by_cases h : p.size ≤ s.size
  · go_enter Try.func62, Try.ntmps62
    go_wp2
    go_ret
    refine ⟨ret_bool ?_, rfl⟩
    rw [HS.out, HE.out h, HP.out, beq_dec]
  · go_enter Try.func62, Try.ntmps62
    go_wp2
    go_ret
    refine ⟨ret_bool ?_, rfl⟩
    rw [HS.out, decide_eq_false]
    intro e
    have := congrArg List.length e
    rw [List.length_take, oc_len, oc_len] at this
    omega
set_option maxHeartbeats 400000 in
theorem prefix_any (s p : ByteArray) (w : World) :
    Calls Try.prog 58 #[.string s, .string p] w fun e w' => e = .returned (.bool (preB (oc s) (oc p))) ∧ w = w' := by
  go_enter Try.func58, Try.ntmps58
  go_wp2_with fail
  refine (litePrefix_any s p w).mono ?_
  rintro e w' ⟨rfl, rfl⟩
  go_wp2
  go_ret
  exact ⟨rfl, rfl⟩

theorem oc_drop (s : ByteArray) (p : Nat) : oc (s.extract p s.size) = (oc s).drop p := by
  rw [oc_extract, List.take_of_length_le (l := oc s) (by rw [oc_len]; exact Nat.le_refl _)]
theorem preB_take (l : List UInt8) (k : Nat) : preB l (l.take k) = true := by
  unfold preB
  refine decide_eq_true ?_
  rw [List.length_take]
  by_cases h : k ≤ l.length
  · rw [Nat.min_eq_left h]
  · rw [Nat.min_eq_right (by omega), List.take_of_length_le (Nat.le_refl _), List.take_of_length_le (by omega)]
/-- The number that a range says of a rune. -/
def runeOf (r : Rn) : Int := if r.odd then 65533 else r.v

set_option maxHeartbeats 4000000 in
/-- 'each': the closure is called with each rune, one behind the other, till it says no. -/
theorem each_any (s : ByteArray) (hs : s.size ≤ 1000000) (k : Nat) (caps : Array Value) (eg : ∀ args w, (callFunc k args).run Try.prog w = .ok (.enter k args) w) (w : World)
    (Inv : Nat → World → Prop) (Fin : World → Prop)
    (h0 : Inv 0 w) (hstab : ∀ m W W', Inv m W → Below w.heap.size W W' → Inv m W') (hfin : ∀ W W', Fin W → Below w.heap.size W W' → Fin W')
    (hstep : ∀ m r W, (runes (oc s))[m]? = some r → Inv m W → w.heap.size < W.heap.size → Calls Try.prog k (#[.int .i32 (runeOf r), .string (st r.o), .bool r.odd] ++ caps) W fun e W' =>
      ∃ b, e = .returned (.bool b) ∧ W'.heap[w.heap.size]? = W.heap[w.heap.size]? ∧ W.heap.size ≤ W'.heap.size ∧ (b = true → Inv (m + 1) W') ∧ (b = false → Fin W')) :
    Calls Try.prog 52 #[.string s, .func (.func k) #[] caps] w fun e w' => e = .returned (.tuple #[]) ∧ (Inv (runes (oc s)).length w' ∨ Fin w') := by
  have HST := Lib.hid hstab
  have HFI := Lib.hid hfin
  have HSP := Lib.hid hstep
  clear hstab hfin hstep
  go_enter Try.func52, Try.ntmps52
  go_wp2
  go_loopg [] (runes (oc s)).length (fun gf wx => ∃ m : Nat, m + gf = (runes (oc s)).length ∧ wx.heap[w.heap.size]? = some (.stringIter s (octs ((runes (oc s)).take m)).length) ∧ Inv m wx)
  case atStart => exact ⟨0, by omega, World.iter_heap w s 0, HST.out 0 w _ h0 ((Below.refl _ w).alloc (Nat.le_refl _) _)⟩
  case round =>
    obtain ⟨m, hm, hit, hinv⟩ := hrel
    have hsz : w.heap.size < wr.heap.size := (Array.getElem?_eq_some_iff.1 hit).1
    by_cases hlt : m < (runes (oc s)).length
    · obtain ⟨g', rfl⟩ : ∃ g', gk = g' + 1 := ⟨gk - 1, by omega⟩
      obtain ⟨r, hr⟩ : ∃ r, (runes (oc s))[m]? = some r := ⟨_, List.getElem?_eq_getElem hlt⟩
      obtain ⟨p, h1, h2, h3, h4, h5, h6⟩ := runes_at (oc s) m r hr
      have hpl : (octs ((runes (oc s)).take m)).length = p := by rw [h1, List.length_take]; omega
      rw [hpl] at hit
      have hpl2 : (octs ((runes (oc s)).take (m + 1))).length = p + (dec ((oc s).drop p)).2.1 := by rw [h5, List.length_take]; omega
      rw [oc_len] at h2 h3 h6
      have hnx : ∀ ty, (Instr.next (.pointer (some ⟨w.heap.size, 0, none⟩)) true ty).run Try.prog wr = _ := fun ty => Lib.run_next_any_at wr w.heap.size s p ty hit h3
      have hde := decode_dec s p
      have hne : (oc s).drop p ≠ [] := fun e => by have := congrArg List.length e; rw [List.length_drop, oc_len, List.length_nil] at this; omega
      have hro : r.odd = (dec ((oc s).drop p)).2.2 := by rw [h4]; rfl
      have hrv : r.v = (dec ((oc s).drop p)).1 := by rw [h4]; rfl
      obtain ⟨K, hK⟩ : ∃ K, (dec ((oc s).drop p)).2.1 = K := ⟨_, rfl⟩
      rw [hK] at hde hpl2 h6
      rw [← hro, ← hrv] at hde
      rw [hde] at hnx
      dsimp only at hnx
      have hit2 := Lib.iterAt_heap wr w.heap.size s p (p + K) hit
      have hbw2 := Lib.below_iterAt (Below.refl w.heap.size wr) (k := w.heap.size) (Nat.le_refl _) s (p + K)
      have hinv2 := HST.out m _ _ hinv hbw2
      obtain ⟨W, hWd⟩ : ∃ W, wr.iterAt w.heap.size s (p + K) = W := ⟨_, rfl⟩
      rw [hWd] at hnx hit2 hinv2
      have hszW : w.heap.size < W.heap.size := (Array.getElem?_eq_some_iff.1 hit2).1
      have hcall := HSP.out m r W hr hinv2 hszW
      have HCALL := Lib.hid hcall
      have HIT := Lib.hid hit2
      have HPL := Lib.hid hpl2
      have HR := Lib.hid hr
      clear hcall hit2 hpl2 hr hit hinv hinv2 hbw2 hWd h1 h5 hpl hde hK
      cases hodd : r.odd with
      | false =>
        rw [hodd] at hnx
        have henc := encode_first _ hne (by rw [← h4]; exact hodd)
        rw [← h4] at henc
        have hrO : runeOf r = r.v := by unfold runeOf; rw [hodd]; rfl
        have hcx : ((r.v.toNat : Nat) : Int) = r.v := Int.toNat_of_nonneg henc.2.1
        simp only [Bool.false_eq_true, if_false] at hnx
        rw [hcx] at hnx
        have hC := HCALL.out
        rw [hrO, hodd] at hC
        have HC := Lib.hid hC
        clear hC HCALL hcx hrO
        by_cases hst : r.v = 65533
        · have hstb : (r.v == 65533) = true := by simpa using hst
          have he := henc.1
          have hpre : preB (oc (s.extract p s.size)) (oc (st r.o)) = true := by
            rw [oc_drop, oc_st, h4]; exact preB_take _ _
          generalize st r.o = q at *
          generalize hq2 : s.extract p s.size = q2 at *
          generalize r.v = v at *
          clear henc h4 hst hrv hro
          have HPR := Lib.hid hpre
          clear hpre
          go_wp2_with fail
          refine (prefix_any _ _ _).mono ?_
          rintro e W1 ⟨rfl, rfl⟩
          rw [HPR.out]
          go_wp2_with fail
          refine HC.out.mono ?_
          rintro e W' ⟨b, rfl, hheap, hsz', hyes, hno⟩
          have HH := Lib.hid hheap
          clear hheap
          cases b with
          | true =>
            have HY := Lib.hid (hyes rfl)
            clear hyes hno
            go_wp2
            go_roundg g'
            case measure => omega
            case rel => exact ⟨m + 1, by omega, by rw [HPL.out]; exact HH.out.trans HIT.out, HY.out⟩
          | false =>
            have HN := Lib.hid (hno rfl)
            clear hyes hno
            go_wp2
            exact bodyPost_ret (v := .tuple #[]) (by simp [results, Try.results52, go_sem]) rfl ⟨rfl, .inr HN.out⟩
        · have hstb : (r.v == 65533) = false := by simpa using hst
          have he := henc.1
          generalize st r.o = q at *
          generalize r.v = v at *
          clear henc h4 hst hrv hro
          go_wp2_with fail
          refine HC.out.mono ?_
          rintro e W' ⟨b, rfl, hheap, hsz', hyes, hno⟩
          have HH := Lib.hid hheap
          clear hheap
          cases b with
          | true =>
            have HY := Lib.hid (hyes rfl)
            clear hyes hno
            go_wp2
            go_roundg g'
            case measure => omega
            case rel => exact ⟨m + 1, by omega, by rw [HPL.out]; exact HH.out.trans HIT.out, HY.out⟩
          | false =>
            have HN := Lib.hid (hno rfl)
            clear hyes hno
            go_wp2
            exact bodyPost_ret (v := .tuple #[]) (by simp [results, Try.results52, go_sem]) rfl ⟨rfl, .inr HN.out⟩
      | true =>
        rw [hodd] at hnx
        simp only [if_true] at hnx
        have hrO : runeOf r = 65533 := by unfold runeOf; rw [hodd]; rfl
        have hC := HCALL.out
        rw [hrO, hodd] at hC
        have HC := Lib.hid hC
        clear hC HCALL hrO
        have hown : st r.o = s.extract p (p + 1) := oc_inj (by
          rw [oc_st, oc_extract, h4]
          have hd := dec_odd _ (show (dec ((oc s).drop p)).2.2 = true from hro ▸ hodd)
          show ((oc s).drop p).take (dec ((oc s).drop p)).2.1 = _
          rw [hd, List.drop_take, show p + 1 - p = 1 from by omega])
        have hpre : preB (oc (s.extract p s.size)) (oc (st [239, 191, 189])) = false := by
          unfold preB
          rw [oc_drop, oc_st]
          refine decide_eq_false fun e => ?_
          have hb := bad_whole 239 191 189 (((oc s).drop p).drop 3) rfl rfl rfl
          have e2 : (239 :: 191 :: 189 :: ((oc s).drop p).drop 3 : List UInt8) = (oc s).drop p := by
            conv => rhs; rw [← List.take_append_drop 3 ((oc s).drop p)]
            rw [show ((oc s).drop p).take 3 = [239, 191, 189] from e]; rfl
          rw [e2, ← h4, hodd] at hb; cases hb
        have he := encode_bad
        rw [hown] at HC
        generalize hq1 : s.extract p (p + 1) = q at *
        generalize st [239, 191, 189] = q3 at *
        generalize hq2 : s.extract p s.size = q2 at *
        clear h4 hrv hro hown
        have HPR := Lib.hid hpre
        clear hpre
        go_wp2_with fail
        refine (prefix_any _ _ _).mono ?_
        rintro e W1 ⟨rfl, rfl⟩
        rw [HPR.out]
        go_wp2_with fail
        refine HC.out.mono ?_
        rintro e W' ⟨b, rfl, hheap, hsz', hyes, hno⟩
        have HH := Lib.hid hheap
        clear hheap
        cases b with
        | true =>
          have HY := Lib.hid (hyes rfl)
          clear hyes hno
          go_wp2
          go_roundg g'
          case measure => omega
          case rel => exact ⟨m + 1, by omega, by rw [HPL.out]; exact HH.out.trans HIT.out, HY.out⟩
        | false =>
          have HN := Lib.hid (hno rfl)
          clear hyes hno
          go_wp2
          exact bodyPost_ret (v := .tuple #[]) (by simp [results, Try.results52, go_sem]) rfl ⟨rfl, .inr HN.out⟩
    · have hnx : ∀ ty, (Instr.next (.pointer (some ⟨w.heap.size, 0, none⟩)) true ty).run Try.prog wr = _ := fun ty => Lib.run_next_end_at wr w.heap.size s _ ty hit (by
        rw [List.take_of_length_le (by omega), octs_runes, oc_len]; omega)
      have HI := Lib.hid hinv
      have hml : m = (runes (oc s)).length := by omega
      have HML := Lib.hid hml
      clear hinv hml
      go_wp2
      go_end0
      exact ⟨rfl, .inl (by rw [← HML.out]; exact HI.out)⟩
end Go.Proofs.Ytpjghildhhpeeaa
