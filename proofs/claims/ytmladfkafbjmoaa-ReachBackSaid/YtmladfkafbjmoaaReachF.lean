/-
  Walks: the program's numbers, nodes and blocks.
-/
import Derived.Test.YtmladfkafbjmoaaReachE
import Derived.Shelf.Abstract
namespace Go.Proofs.Ytmladfkafbjmoaa
open Go.RowKit

set_option maxHeartbeats 1000000 in
set_option maxRecDepth 100000 in
theorem rNumber_any (A : Option Addr) (n c : Nat) (xs : List Int) (w : World) (hx : Rd w w.heap.size 1 A n (intsV xs)) :
    Calls Try.prog 15 #[.slice A n c] w fun e w' => e = .returned (.int .i64 (numberZ xs)) ∧ Below w.heap.size w w' := by
  go_enter Try.func15, Try.ntmps15
  go_wp2
  go_loopw [3] (fun i wr => ∃ k : Nat, k ≤ 258 ∧ i = .int .i64 k ∧ (∀ j, j < k → toZ (nodeN j) ≠ xs) ∧ Below w.heap.size w wr) (fun i _ => 258 - (intOf i).toNat)
  case atStart => exact ⟨0, Nat.zero_le _, rfl, fun j hj => by omega, Below.refl _ _⟩
  case round =>
    obtain ⟨k, hk, rfl, hno, hbw⟩ := hrel
    have HNO := Lib.hid hno
    clear hno
    by_cases hlt : k < 258
    · have hnl : (nodeN k).length ≤ 3 := by unfold nodeN; repeat' split
                                            all_goals simp
      have hpos : 0 < (nodeN k).length := by unfold nodeN; repeat' split
                                             all_goals simp
      go_wp2_with fail
      refine (rNode_ok k wr hlt).mono ?_
      rintro e w1 ⟨v, rfl, hO, hb1⟩
      obtain ⟨g, cap, rfl, hB⟩ := own_pos hO (by rw [toZ_len]; omega)
      obtain ⟨m, hm⟩ : ∃ m, (toZ (nodeN k)).length = m := ⟨_, rfl⟩
      have hml : m ≤ 3 := by rw [← hm, toZ_len]; exact hnl
      rw [hm] at hB ⊢
      have hbw1 := hbw.trans (hb1.mono hbw.size)
      have HR := Lib.hid hB.rd
      have HX := Lib.hid ((hx.below hbw1).more hbw1.size)
      clear hO hB hm hx
      by_cases heq : toZ (nodeN k) = xs
      · have hres : numberZ xs = (k : Int) := (node_iff xs k hlt).1 heq
        have hd : decide (toZ (nodeN k) = xs) = true := decide_eq_true heq
        have HD := Lib.hid hd
        have HRES := Lib.hid hres
        clear hd hres heq
        go_wp2_with fail
        refine (Same_any _ _ m _ n _ _ _ w1 HR.out HX.out (by omega)).mono ?_
        rintro e w2 ⟨rfl, hb2⟩
        rw [HD.out]
        go_wp2
        go_ret
        exact ⟨ret_int HRES.out.symm, hbw1.trans (hb2.mono hbw1.size)⟩
      · have hd : decide (toZ (nodeN k) = xs) = false := decide_eq_false heq
        have hno2 : ∀ j, j < k + 1 → toZ (nodeN j) ≠ xs := fun j hj => by
          rcases Nat.lt_or_ge j k with h | h
          · exact HNO.out j h
          · obtain rfl : j = k := by omega
            exact heq
        have HD := Lib.hid hd
        have HNO2 := Lib.hid hno2
        clear hd heq hno2
        go_wp2_with fail
        refine (Same_any _ _ m _ n _ _ _ w1 HR.out HX.out (by omega)).mono ?_
        rintro e w2 ⟨rfl, hb2⟩
        rw [HD.out]
        have hb2' := hbw1.trans (hb2.mono hbw1.size)
        go_wp2
        go_roundw
        case rel => exact ⟨k + 1, by omega, by go_num, HNO2.out, hb2'⟩
        case measure => simp [intOf]; omega
    · have hres : numberZ xs = -1 := by
        cases h : decide (numberZ xs = -1) with
        | true => exact of_decide_eq_true h
        | false =>
          obtain ⟨j, hj, _, h2⟩ := node_number xs (of_decide_eq_false h)
          exact absurd h2 (HNO.out j (by omega))
      have HRES := Lib.hid hres
      clear hres
      go_wp2
      go_ret
      exact ⟨ret_int HRES.out.symm, hbw⟩

set_option maxHeartbeats 400000 in
theorem places1_any (x : Int) (w : World) :
    Calls Try.prog 35 #[.int .i64 x] w fun e w' => e = .returned (.bool (!okD x)) ∧ w = w' := by
  have h : okD x = (decide (0 ≤ x) && decide (x < 15)) := rfl
  have H := Lib.hid h
  clear h
  by_cases h1 : x < 0
  · go_enter Try.func35, Try.ntmps35
    go_wp2
    go_ret
    exact ⟨ret_bool (by rw [H.out, decide_eq_false (show ¬ 0 ≤ x by omega)]; rfl), rfl⟩
  · go_enter Try.func35, Try.ntmps35
    go_wp2
    go_ret
    exact ⟨ret_bool (by
      rw [H.out, decide_eq_true (show 0 ≤ x by omega)]
      by_cases h : x < 15
      · rw [decide_eq_true h, decide_eq_false (by omega)]; rfl
      · rw [decide_eq_false h, decide_eq_true (by omega)]; rfl), rfl⟩
theorem enters_places1 : ∀ args w, (callFunc 35 args).run Try.prog w = .ok (.enter 35 args) w := enters_of Try.func35 (by kernel_rfl) rfl

set_option maxHeartbeats 1000000 in
theorem findI_any (A : Option Addr) (n c : Nat) (xs : List Int) (w : World) (hx : Rd w w.heap.size 1 A n (intsV xs)) (hn : n ≤ 1000000) :
    Calls Try.prog 38 #[.slice A n c, .func (.func 35) #[] #[]] w fun e w' => ∃ z : Int, e = .returned (.int .i64 z) ∧ decide (0 ≤ z) = !(xs.all okD) ∧ w = w' := by
  have eg := enters_places1
  have hlx := hx.1
  rw [intsV_len, Nat.mul_one] at hlx
  have HX := Lib.hid hlx
  clear hlx
  go_enter Try.func38, Try.ntmps38
  go_wp2
  go_loop [5, 8] (fun _ i => ∃ k : Nat, k ≤ n ∧ i = .int .i64 k ∧ (xs.take k).all okD = true) (fun _ i => n - (intOf i).toNat)
  case atStart => exact ⟨0, Nat.zero_le _, rfl, rfl⟩
  case round =>
    obtain ⟨k, hk, rfl, hall⟩ := hrel
    have HA := Lib.hid hall
    clear hall
    by_cases hlt : k < n
    · obtain ⟨g, o, x, rfl, hg, hxk, cx⟩ := int_at hx hlt
      have HXK := Lib.hid hxk
      clear hxk hx
      cases hok : okD x with
      | true =>
        have HOK := Lib.hid hok
        go_wp2_with (go_at_call 35; refine (places1_any _ _).mono ?_; rintro e w' ⟨rfl, rfl⟩; rw [HOK.out])
        go_round
        case rel => exact ⟨k + 1, by omega, by go_num, by rw [take_snoc xs k x HXK.out, List.all_append, HA.out]; simp [HOK.out]⟩
        case measure => simp [intOf]; omega
      | false =>
        have HOK := Lib.hid hok
        have hres : xs.all okD = false := by
          cases h : xs.all okD with
          | false => rfl
          | true =>
            have := List.all_eq_true.1 h x (List.mem_of_getElem? HXK.out)
            rw [HOK.out] at this; cases this
        have HR := Lib.hid hres
        clear hres
        go_wp2_with (go_at_call 35; refine (places1_any _ _).mono ?_; rintro e w' ⟨rfl, rfl⟩; rw [HOK.out])
        go_ret
        exact ⟨k, rfl, by rw [HR.out]; simp, rfl⟩
    · have hres : xs.all okD = true := by
        have := HA.out
        rwa [List.take_of_length_le (by rw [HX.out]; omega)] at this
      have HR := Lib.hid hres
      clear hres
      go_wp2
      go_ret
      exact ⟨-1, rfl, by rw [HR.out]; rfl, rfl⟩

set_option maxHeartbeats 400000 in
theorem contains_any (A : Option Addr) (n c : Nat) (xs : List Int) (w : World) (hx : Rd w w.heap.size 1 A n (intsV xs)) (hn : n ≤ 1000000) :
    Calls Try.prog 34 #[.slice A n c, .func (.func 35) #[] #[]] w fun e w' => e = .returned (.bool (!(xs.all okD))) ∧ w = w' := by
  have HX := Lib.hid hx
  clear hx
  go_enter Try.func34, Try.ntmps34
  go_wp2_with fail
  refine (findI_any A n c xs w HX.out hn).mono ?_
  rintro e w' ⟨z, rfl, hz, rfl⟩
  have HZ := Lib.hid hz
  clear hz
  go_wp2
  go_ret
  exact ⟨ret_bool HZ.out, rfl⟩

set_option maxHeartbeats 400000 in
theorem places_any (A : Option Addr) (n c : Nat) (xs : List Int) (w : World) (hx : Rd w w.heap.size 1 A n (intsV xs)) (hn : n ≤ 1000000) :
    Calls Try.prog 28 #[.slice A n c] w fun e w' => e = .returned (.bool (xs.all okD)) ∧ w = w' := by
  have HX := Lib.hid hx
  clear hx
  go_enter Try.func28, Try.ntmps28
  go_wp2_with fail
  refine (contains_any A n c xs w HX.out hn).mono ?_
  rintro e w' ⟨rfl, rfl⟩
  go_wp2
  go_ret
  exact ⟨ret_bool (by simp), rfl⟩

theorem val_snoc (l : List Int) (x : Int) : valZ (l ++ [x]) = 15 * valZ l + x := by simp [valZ]
theorem val_bound (l : List Int) (h : l.all okD = true) : l.length ≤ 3 → 0 ≤ valZ l ∧ valZ l < 3375 := by
  intro hl
  match l, h, hl with
  | [], _, _ => simp [valZ]
  | [a], h, _ => simp [okD_iff] at h; simp [valZ]; omega
  | [a, b], h, _ => simp [okD_iff] at h; simp [valZ]; omega
  | [a, b, c], h, _ => simp [okD_iff] at h; simp [valZ]; omega
  | _ :: _ :: _ :: _ :: _, _, hl => simp at hl
theorem all_take {l : List Int} (h : l.all okD = true) (k : Nat) : (l.take k).all okD = true := by
  rw [List.all_eq_true] at h ⊢
  exact fun x hx => h x (List.mem_of_mem_take hx)

set_option maxHeartbeats 1000000 in
theorem value_any (A : Option Addr) (n c : Nat) (xs : List Int) (w : World) (hx : Rd w w.heap.size 1 A n (intsV xs)) (hn : n ≤ 3) (hall : xs.all okD = true) :
    Calls Try.prog 29 #[.slice A n c] w fun e w' => e = .returned (.int .i64 (valZ xs)) ∧ w' = w := by
  have hlx := hx.1
  rw [intsV_len, Nat.mul_one] at hlx
  have HX := Lib.hid hlx
  have HA := Lib.hid hall
  clear hlx hall
  go_enter Try.func29, Try.ntmps29
  go_wp2
  go_loop [3, 5, 8] (fun v _ i => ∃ k : Nat, k ≤ n ∧ i = .int .i64 k ∧ v = .int .i64 (valZ (xs.take k))) (fun _ _ i => n - (intOf i).toNat)
  case atStart => exact ⟨0, Nat.zero_le _, rfl, rfl⟩
  case round =>
    obtain ⟨k, hk, rfl, rfl⟩ := hrel
    by_cases hlt : k < n
    · obtain ⟨g, o, x, rfl, hg, hxk, cx⟩ := int_at hx hlt
      have hb := val_bound (xs.take k) (all_take HA.out k) (by rw [List.length_take]; omega)
      have hsn := val_snoc (xs.take k) x
      rw [← take_snoc xs k x hxk] at hsn
      have hxb := (okD_iff x).1 (List.all_eq_true.1 HA.out x (List.mem_of_getElem? hxk))
      have HS := Lib.hid hsn
      clear hxk hx hsn
      generalize valZ (xs.take k) = v at *
      go_wp2
      go_round
      case rel => exact ⟨k + 1, by omega, by go_num, by rw [HS.out]⟩
      case measure => simp [intOf]; omega
    · have e : xs.take k = xs := List.take_of_length_le (by rw [HX.out]; omega)
      have HE := Lib.hid e
      clear e
      go_wp2
      go_ret
      exact ⟨ret_int (by rw [HE.out]), rfl⟩

theorem rd_cut {w : World} {B n g o : Nat} {x : Int} {t : List Int} (h : Rd w B 1 (some ⟨g, o, none⟩) n (intsV (x :: t))) (o' : Nat) (ho : 1 < n → o' = o + 1) : Rd w B 1 (some ⟨g, o', none⟩) (n - 1) (intsV t) := by
  have hl := h.1
  rw [intsV_len, List.length_cons] at hl
  refine ⟨by rw [intsV_len]; omega, fun hn => ?_⟩
  obtain ⟨g', o2, e, hb, hc⟩ := h.2 (by omega)
  injection e with e
  injection e with e1 e2 _
  subst e1 e2
  refine ⟨g, o', rfl, hb, fun j u hu => ?_⟩
  rw [ho (by omega), show o + 1 + j = o + (j + 1) from by omega]
  exact hc (j + 1) u (by simpa [intsV] using hu)
end Go.Proofs.Ytmladfkafbjmoaa
