/-
  Walks: the laws on counts, nodes and paths.
-/
import Derived.Test.YtmladfkafbjmoaaReachK
import Derived.Test.YtmladfkafbjmoaaRow
namespace Go.Proofs.Ytmladfkafbjmoaa
open Go.RowKit

theorem Size_val (n v : Int) (w : World) (hn : n ≤ 9223372036854775807) (hv : v = (if n ≤ 0 then 0 else (n - 1) / 128 + 1)) :
    Calls Try.prog 11 #[.int .i64 n] w fun e w' => e = .returned (.int .i64 v) ∧ w = w' := by
  subst hv; exact Size_any n w hn

set_option maxHeartbeats 1000000 in
set_option maxRecDepth 100000 in
theorem counts_a (n o : Int) (w : World) (hn : n ≤ 9223372036854775807) (ho : o ≤ 9223372036854775807) (h : o ≤ 0) :
    Calls Try.prog 3 #[.int .i64 n, .int .i64 o] w fun e w' => e = .returned (.bool true) ∧ Below w.heap.size w w' := by
  have HV := Lib.hid (show (0 : Int) = (if o ≤ 0 then 0 else (o - 1) / 128 + 1) from by rw [if_pos h])
  go_enter Try.func3, Try.ntmps3
  go_wp2_with fail
  refine (Count_any n w hn).mono ?_
  rintro e w1 ⟨rfl, h1⟩
  obtain ⟨q, hq⟩ : ∃ q, countN (min n 3621).toNat = q := ⟨_, rfl⟩
  rw [hq]
  have HQ := Lib.hid hq
  clear hq
  go_wp2_with fail
  refine (rCount_any n w1).mono ?_
  rintro e w2 ⟨rfl, h2⟩
  have b2 := h1.trans (h2.mono h1.size)
  rw [HQ.out]
  go_wp2_with fail
  refine (Size_val o 0 w2 ho HV.out).mono ?_
  rintro e w0 ⟨rfl, rfl⟩
  go_wp2_with fail
  refine (awake_any w2).mono ?_
  rintro e w3 ⟨rfl, h3⟩
  have b3 := b2.trans (h3.mono b2.size)
  go_wp2
  go_ret
  exact ⟨rfl, b3⟩
set_option maxHeartbeats 1000000 in
set_option maxRecDepth 100000 in
theorem counts_b (n o : Int) (w : World) (hn : n ≤ 9223372036854775807) (ho : o ≤ 9223372036854775807) (h : 0 < o) (h2 : o % 128 = 0) :
    Calls Try.prog 3 #[.int .i64 n, .int .i64 o] w fun e w' => e = .returned (.bool true) ∧ Below w.heap.size w w' := by
  have HV := Lib.hid (show o / 128 = (if o ≤ 0 then 0 else (o - 1) / 128 + 1) from by rw [if_neg (by omega)]; omega)
  go_enter Try.func3, Try.ntmps3
  go_wp2_with fail
  refine (Count_any n w hn).mono ?_
  rintro e w1 ⟨rfl, h1⟩
  obtain ⟨q, hq⟩ : ∃ q, countN (min n 3621).toNat = q := ⟨_, rfl⟩
  rw [hq]
  have HQ := Lib.hid hq
  clear hq
  go_wp2_with fail
  refine (rCount_any n w1).mono ?_
  rintro e w2 ⟨rfl, h2⟩
  have b2 := h1.trans (h2.mono h1.size)
  rw [HQ.out]
  go_wp2_with fail
  refine (Size_val o (o / 128) w2 ho HV.out).mono ?_
  rintro e w0 ⟨rfl, rfl⟩
  go_wp2_with fail
  refine (awake_any w2).mono ?_
  rintro e w3 ⟨rfl, h3⟩
  have b3 := b2.trans (h3.mono b2.size)
  go_wp2
  go_ret
  exact ⟨rfl, b3⟩
set_option maxHeartbeats 1000000 in
set_option maxRecDepth 100000 in
theorem counts_c (n o : Int) (w : World) (hn : n ≤ 9223372036854775807) (ho : o ≤ 9223372036854775807) (h : 0 < o) (h2 : 0 < o % 128) :
    Calls Try.prog 3 #[.int .i64 n, .int .i64 o] w fun e w' => e = .returned (.bool true) ∧ Below w.heap.size w w' := by
  have HV := Lib.hid (show o / 128 + 1 = (if o ≤ 0 then 0 else (o - 1) / 128 + 1) from by rw [if_neg (by omega)]; omega)
  go_enter Try.func3, Try.ntmps3
  go_wp2_with fail
  refine (Count_any n w hn).mono ?_
  rintro e w1 ⟨rfl, h1⟩
  obtain ⟨q, hq⟩ : ∃ q, countN (min n 3621).toNat = q := ⟨_, rfl⟩
  rw [hq]
  have HQ := Lib.hid hq
  clear hq
  go_wp2_with fail
  refine (rCount_any n w1).mono ?_
  rintro e w2 ⟨rfl, h2⟩
  have b2 := h1.trans (h2.mono h1.size)
  rw [HQ.out]
  go_wp2_with fail
  refine (Size_val o (o / 128 + 1) w2 ho HV.out).mono ?_
  rintro e w0 ⟨rfl, rfl⟩
  go_wp2_with fail
  refine (awake_any w2).mono ?_
  rintro e w3 ⟨rfl, h3⟩
  have b3 := b2.trans (h3.mono b2.size)
  go_wp2
  go_ret
  exact ⟨rfl, b3⟩
theorem counts_law (n o : Int) (w : World) (hn : n ≤ 9223372036854775807) (ho : o ≤ 9223372036854775807) :
    Calls Try.prog 3 #[.int .i64 n, .int .i64 o] w fun e w' => e = .returned (.bool true) ∧ Below w.heap.size w w' := by
  by_cases h : o ≤ 0
  · exact counts_a n o w hn ho h
  · by_cases h2 : o % 128 = 0
    · exact counts_b n o w hn ho (by omega) h2
    · exact counts_c n o w hn ho (by omega) (by omega)

theorem number_cases (xs : List Int) : numberZ xs = -1 ∨ ∃ k : Nat, k < 258 ∧ numberZ xs = k := by
  by_cases h : numberZ xs = -1
  · exact .inl h
  · obtain ⟨k, hk, h1, _⟩ := node_number xs h; exact .inr ⟨k, hk, h1⟩
theorem block_cases (xs : List Int) : blockZ xs = -1 ∨ ∃ k : Nat, k < 3621 ∧ blockZ xs = k := by
  by_cases h : blockZ xs = -1
  · exact .inl h
  · obtain ⟨k, hk, h1, _⟩ := path_block xs h; exact .inr ⟨k, hk, h1⟩
theorem node_len (k : Nat) : 1 ≤ (nodeN k).length ∧ (nodeN k).length ≤ 3 := by
  unfold nodeN; repeat' split
  all_goals simp
theorem Node_rd (k : Nat) (w : World) (h : k < 258) :
    Calls Try.prog 16 #[.int .i64 k] w fun e w' => (∃ A c, e = .returned (.tuple #[.slice A (toZ (nodeN k)).length c, .int .i64 0]) ∧ (toZ (nodeN k)).length ≤ c ∧ Rd w' w'.heap.size 1 A (toZ (nodeN k)).length (intsV (toZ (nodeN k)))) ∧ Below w.heap.size w w' := by
  refine (Node_ok k w h).mono ?_
  rintro e w' ⟨v, rfl, ho, hb⟩
  obtain ⟨A, c, rfl, hc, hr⟩ := own_rd ho
  exact ⟨⟨A, c, rfl, hc, hr⟩, hb⟩
theorem rNode_rd (k : Nat) (w : World) (h : k < 258) :
    Calls Try.prog 17 #[.int .i64 k] w fun e w' => (∃ A c, e = .returned (.slice A (toZ (nodeN k)).length c) ∧ (toZ (nodeN k)).length ≤ c ∧ Rd w' w'.heap.size 1 A (toZ (nodeN k)).length (intsV (toZ (nodeN k)))) ∧ Below w.heap.size w w' := by
  refine (rNode_ok k w h).mono ?_
  rintro e w' ⟨v, rfl, ho, hb⟩
  obtain ⟨A, c, rfl, hc, hr⟩ := own_rd ho
  exact ⟨⟨A, c, rfl, hc, hr⟩, hb⟩
theorem rPath_rd (k : Nat) (w : World) (h : k < 3621) :
    Calls Try.prog 20 #[.int .i64 k] w fun e w' => (∃ g c, e = .returned (.slice (some ⟨g, 0, none⟩) (toZ (pathN k)).length c) ∧ (toZ (pathN k)).length ≤ c ∧ Rd w' w'.heap.size 1 (some ⟨g, 0, none⟩) (toZ (pathN k)).length (intsV (toZ (pathN k)))) ∧ Below w.heap.size w w' := by
  refine (rPath_ok k w h).mono ?_
  rintro e w' ⟨v, rfl, ho, hb⟩
  have hl := path_len k
  obtain ⟨g, c, rfl, hB⟩ := own_pos ho (by rw [toZ_len]; omega)
  exact ⟨⟨g, c, rfl, hB.caps.1, hB.rd⟩, hb⟩

set_option maxHeartbeats 2000000 in
set_option maxRecDepth 100000 in
theorem nodes_000 (A : Option Addr) (n c : Nat) (xs : List Int) (ys : List Int) (A' : Option Addr) (n' c' : Nat) (number : Int) (w : World)
    (hf : ∀ w1 : World, w1 = w → Calls Try.prog 13 #[.slice A n c] w1 fun e w' => e = .returned (.slice A' n' c') ∧ w = w')
    (h6 : n' ≤ 6) (hnc : n' ≤ c') (hr : Rd w w.heap.size 1 A' n' (intsV ys)) (hz : numberZ ys = -1) (he : 0 < n') (hN : number < 0) (hb : number ≤ 9223372036854775807) :
    Calls Try.prog 4 #[.slice A n c, .int .i64 number] w fun e w' => e = .returned (.bool true) ∧ Below w.heap.size w w' := by
  have HR := Lib.hid hr
  have HZ := Lib.hid hz
  clear hr hz
  go_enter Try.func4, Try.ntmps4
  go_wp2_with fail
  refine (hf w rfl).mono ?_
  rintro e w0 ⟨rfl, rfl⟩
  go_wp2_with fail
  refine (Number_any A' n' c' ys w HR.out (by omega) hnc).mono ?_
  rintro e w1 ⟨rfl, h1⟩
  rw [(num_bad HZ.out).1, (num_bad HZ.out).2]
  have R1 := Lib.hid ((HR.out.below h1).more h1.size)
  go_wp2_with fail
  refine (rNumber_any A' n' c' ys w1 R1.out).mono ?_
  rintro e w2 ⟨rfl, h2⟩
  rw [HZ.out]
  have b2 := h1.trans (h2.mono h1.size)
  go_wp2_with fail
  refine (Node_bad number w2 (.inl hN) hb).mono ?_
  rintro e w4 ⟨rfl, rfl⟩
  have b4 := b2
  go_wp2_with fail
  refine (Same_yes none none 0 0 0 0 [] w2 Rd.nil Rd.nil (by omega)).mono ?_
  rintro e w5 ⟨rfl, h5⟩
  have b5 := b4.trans (h5.mono b4.size)
  go_wp2_with fail
  refine (awake_any w5).mono ?_
  rintro e w6 ⟨rfl, h6⟩
  have b6 := b5.trans (h6.mono b5.size)
  go_wp2
  go_ret
  exact ⟨rfl, b6⟩
set_option maxHeartbeats 2000000 in
set_option maxRecDepth 100000 in
theorem nodes_001 (A : Option Addr) (n c : Nat) (xs : List Int) (ys : List Int) (A' : Option Addr) (n' c' : Nat) (number : Int) (w : World)
    (hf : ∀ w1 : World, w1 = w → Calls Try.prog 13 #[.slice A n c] w1 fun e w' => e = .returned (.slice A' n' c') ∧ w = w')
    (h6 : n' ≤ 6) (hnc : n' ≤ c') (hr : Rd w w.heap.size 1 A' n' (intsV ys)) (hz : numberZ ys = -1) (he : n' = 0) (hN : number < 0) (hb : number ≤ 9223372036854775807) :
    Calls Try.prog 4 #[.slice A n c, .int .i64 number] w fun e w' => e = .returned (.bool true) ∧ Below w.heap.size w w' := by
  have HR := Lib.hid hr
  have HZ := Lib.hid hz
  clear hr hz
  subst he
  go_enter Try.func4, Try.ntmps4
  go_wp2_with fail
  refine (hf w rfl).mono ?_
  rintro e w0 ⟨rfl, rfl⟩
  go_wp2_with fail
  refine (Number_any A' 0 c' ys w HR.out (by omega) hnc).mono ?_
  rintro e w1 ⟨rfl, h1⟩
  rw [(num_bad HZ.out).1, (num_bad HZ.out).2]
  have R1 := Lib.hid ((HR.out.below h1).more h1.size)
  go_wp2_with fail
  refine (rNumber_any A' 0 c' ys w1 R1.out).mono ?_
  rintro e w2 ⟨rfl, h2⟩
  rw [HZ.out]
  have b2 := h1.trans (h2.mono h1.size)
  go_wp2_with fail
  refine (Node_bad number w2 (.inl hN) hb).mono ?_
  rintro e w4 ⟨rfl, rfl⟩
  have b4 := b2
  go_wp2_with fail
  refine (Same_yes none none 0 0 0 0 [] w2 Rd.nil Rd.nil (by omega)).mono ?_
  rintro e w5 ⟨rfl, h5⟩
  have b5 := b4.trans (h5.mono b4.size)
  go_wp2_with fail
  refine (awake_any w5).mono ?_
  rintro e w6 ⟨rfl, h6⟩
  have b6 := b5.trans (h6.mono b5.size)
  go_wp2
  go_ret
  exact ⟨rfl, b6⟩
set_option maxHeartbeats 2000000 in
set_option maxRecDepth 100000 in
theorem nodes_010 (A : Option Addr) (n c : Nat) (xs : List Int) (ys : List Int) (A' : Option Addr) (n' c' : Nat) (N : Nat) (w : World)
    (hf : ∀ w1 : World, w1 = w → Calls Try.prog 13 #[.slice A n c] w1 fun e w' => e = .returned (.slice A' n' c') ∧ w = w')
    (h6 : n' ≤ 6) (hnc : n' ≤ c') (hr : Rd w w.heap.size 1 A' n' (intsV ys)) (hz : numberZ ys = -1) (he : 0 < n') (hN : N < 258) :
    Calls Try.prog 4 #[.slice A n c, .int .i64 (N : Int)] w fun e w' => e = .returned (.bool true) ∧ Below w.heap.size w w' := by
  have HR := Lib.hid hr
  have HZ := Lib.hid hz
  clear hr hz
  obtain ⟨zs, hzs⟩ : ∃ zs, toZ (nodeN N) = zs := ⟨_, rfl⟩
  have hlen := node_len N
  have hzl : zs.length = (nodeN N).length := by rw [← hzs, toZ_len]
  rw [← hzl] at hlen
  have HP := Lib.hid (fun w => Node_rd N w hN)
  have HW := Lib.hid (fun w => rNode_rd N w hN)
  rw [hzs] at HP HW
  obtain ⟨m, hm⟩ : ∃ m, zs.length = m := ⟨_, rfl⟩
  rw [hm] at HP HW hlen
  clear hzs hzl hm
  go_enter Try.func4, Try.ntmps4
  go_wp2_with fail
  refine (hf w rfl).mono ?_
  rintro e w0 ⟨rfl, rfl⟩
  go_wp2_with fail
  refine (Number_any A' n' c' ys w HR.out (by omega) hnc).mono ?_
  rintro e w1 ⟨rfl, h1⟩
  rw [(num_bad HZ.out).1, (num_bad HZ.out).2]
  have R1 := Lib.hid ((HR.out.below h1).more h1.size)
  go_wp2_with fail
  refine (rNumber_any A' n' c' ys w1 R1.out).mono ?_
  rintro e w2 ⟨rfl, h2⟩
  rw [HZ.out]
  have b2 := h1.trans (h2.mono h1.size)
  go_wp2_with fail
  refine (HP.out w2).mono ?_
  rintro e w3 ⟨⟨Ap, cp, rfl, hpc, rp⟩, h3⟩
  have b3 := b2.trans (h3.mono b2.size)
  have RP := Lib.hid rp
  clear rp
  go_wp2_with fail
  refine (HW.out w3).mono ?_
  rintro e w4 ⟨⟨Aw, cw, rfl, hwc, rw⟩, h4⟩
  have b4 := b3.trans (h4.mono b3.size)
  have RW := Lib.hid rw
  have RP4 := Lib.hid ((RP.out.below h4).more h4.size)
  clear rw
  go_wp2_with fail
  refine (Same_yes _ _ m _ m _ zs w4 RP4.out RW.out (by omega)).mono ?_
  rintro e w5 ⟨rfl, h5⟩
  have b5 := b4.trans (h5.mono b4.size)
  go_wp2_with fail
  refine (awake_any w5).mono ?_
  rintro e w6 ⟨rfl, h6⟩
  have b6 := b5.trans (h6.mono b5.size)
  go_wp2
  go_ret
  exact ⟨rfl, b6⟩
set_option maxHeartbeats 2000000 in
set_option maxRecDepth 100000 in
theorem nodes_011 (A : Option Addr) (n c : Nat) (xs : List Int) (ys : List Int) (A' : Option Addr) (n' c' : Nat) (N : Nat) (w : World)
    (hf : ∀ w1 : World, w1 = w → Calls Try.prog 13 #[.slice A n c] w1 fun e w' => e = .returned (.slice A' n' c') ∧ w = w')
    (h6 : n' ≤ 6) (hnc : n' ≤ c') (hr : Rd w w.heap.size 1 A' n' (intsV ys)) (hz : numberZ ys = -1) (he : n' = 0) (hN : N < 258) :
    Calls Try.prog 4 #[.slice A n c, .int .i64 (N : Int)] w fun e w' => e = .returned (.bool true) ∧ Below w.heap.size w w' := by
  have HR := Lib.hid hr
  have HZ := Lib.hid hz
  clear hr hz
  obtain ⟨zs, hzs⟩ : ∃ zs, toZ (nodeN N) = zs := ⟨_, rfl⟩
  have hlen := node_len N
  have hzl : zs.length = (nodeN N).length := by rw [← hzs, toZ_len]
  rw [← hzl] at hlen
  have HP := Lib.hid (fun w => Node_rd N w hN)
  have HW := Lib.hid (fun w => rNode_rd N w hN)
  rw [hzs] at HP HW
  obtain ⟨m, hm⟩ : ∃ m, zs.length = m := ⟨_, rfl⟩
  rw [hm] at HP HW hlen
  clear hzs hzl hm
  subst he
  go_enter Try.func4, Try.ntmps4
  go_wp2_with fail
  refine (hf w rfl).mono ?_
  rintro e w0 ⟨rfl, rfl⟩
  go_wp2_with fail
  refine (Number_any A' 0 c' ys w HR.out (by omega) hnc).mono ?_
  rintro e w1 ⟨rfl, h1⟩
  rw [(num_bad HZ.out).1, (num_bad HZ.out).2]
  have R1 := Lib.hid ((HR.out.below h1).more h1.size)
  go_wp2_with fail
  refine (rNumber_any A' 0 c' ys w1 R1.out).mono ?_
  rintro e w2 ⟨rfl, h2⟩
  rw [HZ.out]
  have b2 := h1.trans (h2.mono h1.size)
  go_wp2_with fail
  refine (HP.out w2).mono ?_
  rintro e w3 ⟨⟨Ap, cp, rfl, hpc, rp⟩, h3⟩
  have b3 := b2.trans (h3.mono b2.size)
  have RP := Lib.hid rp
  clear rp
  go_wp2_with fail
  refine (HW.out w3).mono ?_
  rintro e w4 ⟨⟨Aw, cw, rfl, hwc, rw⟩, h4⟩
  have b4 := b3.trans (h4.mono b3.size)
  have RW := Lib.hid rw
  have RP4 := Lib.hid ((RP.out.below h4).more h4.size)
  clear rw
  go_wp2_with fail
  refine (Same_yes _ _ m _ m _ zs w4 RP4.out RW.out (by omega)).mono ?_
  rintro e w5 ⟨rfl, h5⟩
  have b5 := b4.trans (h5.mono b4.size)
  go_wp2_with fail
  refine (awake_any w5).mono ?_
  rintro e w6 ⟨rfl, h6⟩
  have b6 := b5.trans (h6.mono b5.size)
  go_wp2
  go_ret
  exact ⟨rfl, b6⟩
set_option maxHeartbeats 2000000 in
set_option maxRecDepth 100000 in
theorem nodes_020 (A : Option Addr) (n c : Nat) (xs : List Int) (ys : List Int) (A' : Option Addr) (n' c' : Nat) (number : Int) (w : World)
    (hf : ∀ w1 : World, w1 = w → Calls Try.prog 13 #[.slice A n c] w1 fun e w' => e = .returned (.slice A' n' c') ∧ w = w')
    (h6 : n' ≤ 6) (hnc : n' ≤ c') (hr : Rd w w.heap.size 1 A' n' (intsV ys)) (hz : numberZ ys = -1) (he : 0 < n') (hN : 257 < number) (hb : number ≤ 9223372036854775807) :
    Calls Try.prog 4 #[.slice A n c, .int .i64 number] w fun e w' => e = .returned (.bool true) ∧ Below w.heap.size w w' := by
  have HR := Lib.hid hr
  have HZ := Lib.hid hz
  clear hr hz
  go_enter Try.func4, Try.ntmps4
  go_wp2_with fail
  refine (hf w rfl).mono ?_
  rintro e w0 ⟨rfl, rfl⟩
  go_wp2_with fail
  refine (Number_any A' n' c' ys w HR.out (by omega) hnc).mono ?_
  rintro e w1 ⟨rfl, h1⟩
  rw [(num_bad HZ.out).1, (num_bad HZ.out).2]
  have R1 := Lib.hid ((HR.out.below h1).more h1.size)
  go_wp2_with fail
  refine (rNumber_any A' n' c' ys w1 R1.out).mono ?_
  rintro e w2 ⟨rfl, h2⟩
  rw [HZ.out]
  have b2 := h1.trans (h2.mono h1.size)
  go_wp2_with fail
  refine (Node_bad number w2 (.inr hN) hb).mono ?_
  rintro e w4 ⟨rfl, rfl⟩
  have b4 := b2
  go_wp2_with fail
  refine (Same_yes none none 0 0 0 0 [] w2 Rd.nil Rd.nil (by omega)).mono ?_
  rintro e w5 ⟨rfl, h5⟩
  have b5 := b4.trans (h5.mono b4.size)
  go_wp2_with fail
  refine (awake_any w5).mono ?_
  rintro e w6 ⟨rfl, h6⟩
  have b6 := b5.trans (h6.mono b5.size)
  go_wp2
  go_ret
  exact ⟨rfl, b6⟩
set_option maxHeartbeats 2000000 in
set_option maxRecDepth 100000 in
theorem nodes_021 (A : Option Addr) (n c : Nat) (xs : List Int) (ys : List Int) (A' : Option Addr) (n' c' : Nat) (number : Int) (w : World)
    (hf : ∀ w1 : World, w1 = w → Calls Try.prog 13 #[.slice A n c] w1 fun e w' => e = .returned (.slice A' n' c') ∧ w = w')
    (h6 : n' ≤ 6) (hnc : n' ≤ c') (hr : Rd w w.heap.size 1 A' n' (intsV ys)) (hz : numberZ ys = -1) (he : n' = 0) (hN : 257 < number) (hb : number ≤ 9223372036854775807) :
    Calls Try.prog 4 #[.slice A n c, .int .i64 number] w fun e w' => e = .returned (.bool true) ∧ Below w.heap.size w w' := by
  have HR := Lib.hid hr
  have HZ := Lib.hid hz
  clear hr hz
  subst he
  go_enter Try.func4, Try.ntmps4
  go_wp2_with fail
  refine (hf w rfl).mono ?_
  rintro e w0 ⟨rfl, rfl⟩
  go_wp2_with fail
  refine (Number_any A' 0 c' ys w HR.out (by omega) hnc).mono ?_
  rintro e w1 ⟨rfl, h1⟩
  rw [(num_bad HZ.out).1, (num_bad HZ.out).2]
  have R1 := Lib.hid ((HR.out.below h1).more h1.size)
  go_wp2_with fail
  refine (rNumber_any A' 0 c' ys w1 R1.out).mono ?_
  rintro e w2 ⟨rfl, h2⟩
  rw [HZ.out]
  have b2 := h1.trans (h2.mono h1.size)
  go_wp2_with fail
  refine (Node_bad number w2 (.inr hN) hb).mono ?_
  rintro e w4 ⟨rfl, rfl⟩
  have b4 := b2
  go_wp2_with fail
  refine (Same_yes none none 0 0 0 0 [] w2 Rd.nil Rd.nil (by omega)).mono ?_
  rintro e w5 ⟨rfl, h5⟩
  have b5 := b4.trans (h5.mono b4.size)
  go_wp2_with fail
  refine (awake_any w5).mono ?_
  rintro e w6 ⟨rfl, h6⟩
  have b6 := b5.trans (h6.mono b5.size)
  go_wp2
  go_ret
  exact ⟨rfl, b6⟩
set_option maxHeartbeats 2000000 in
set_option maxRecDepth 100000 in
theorem nodes_100 (A : Option Addr) (n c : Nat) (xs : List Int) (ys : List Int) (A' : Option Addr) (n' c' : Nat) (number : Int) (w : World)
    (hf : ∀ w1 : World, w1 = w → Calls Try.prog 13 #[.slice A n c] w1 fun e w' => e = .returned (.slice A' n' c') ∧ w = w')
    (h6 : n' ≤ 6) (hnc : n' ≤ c') (hr : Rd w w.heap.size 1 A' n' (intsV ys)) (z : Nat) (hzb : z < 258) (hz : numberZ ys = z) (he : 0 < n') (hN : number < 0) (hb : number ≤ 9223372036854775807) :
    Calls Try.prog 4 #[.slice A n c, .int .i64 number] w fun e w' => e = .returned (.bool true) ∧ Below w.heap.size w w' := by
  have HR := Lib.hid hr
  have HZ := Lib.hid hz
  clear hr hz
  go_enter Try.func4, Try.ntmps4
  go_wp2_with fail
  refine (hf w rfl).mono ?_
  rintro e w0 ⟨rfl, rfl⟩
  go_wp2_with fail
  refine (Number_any A' n' c' ys w HR.out (by omega) hnc).mono ?_
  rintro e w1 ⟨rfl, h1⟩
  rw [(num_good HZ.out (by omega)).1, (num_good HZ.out (by omega)).2]
  have R1 := Lib.hid ((HR.out.below h1).more h1.size)
  go_wp2_with fail
  refine (rNumber_any A' n' c' ys w1 R1.out).mono ?_
  rintro e w2 ⟨rfl, h2⟩
  rw [HZ.out]
  have b2 := h1.trans (h2.mono h1.size)
  go_wp2_with fail
  refine (Node_bad number w2 (.inl hN) hb).mono ?_
  rintro e w4 ⟨rfl, rfl⟩
  have b4 := b2
  go_wp2_with fail
  refine (Same_yes none none 0 0 0 0 [] w2 Rd.nil Rd.nil (by omega)).mono ?_
  rintro e w5 ⟨rfl, h5⟩
  have b5 := b4.trans (h5.mono b4.size)
  go_wp2_with fail
  refine (awake_any w5).mono ?_
  rintro e w6 ⟨rfl, h6⟩
  have b6 := b5.trans (h6.mono b5.size)
  go_wp2
  go_ret
  exact ⟨rfl, b6⟩
set_option maxHeartbeats 2000000 in
set_option maxRecDepth 100000 in
theorem nodes_110 (A : Option Addr) (n c : Nat) (xs : List Int) (ys : List Int) (A' : Option Addr) (n' c' : Nat) (N : Nat) (w : World)
    (hf : ∀ w1 : World, w1 = w → Calls Try.prog 13 #[.slice A n c] w1 fun e w' => e = .returned (.slice A' n' c') ∧ w = w')
    (h6 : n' ≤ 6) (hnc : n' ≤ c') (hr : Rd w w.heap.size 1 A' n' (intsV ys)) (z : Nat) (hzb : z < 258) (hz : numberZ ys = z) (he : 0 < n') (hN : N < 258) :
    Calls Try.prog 4 #[.slice A n c, .int .i64 (N : Int)] w fun e w' => e = .returned (.bool true) ∧ Below w.heap.size w w' := by
  have HR := Lib.hid hr
  have HZ := Lib.hid hz
  clear hr hz
  obtain ⟨zs, hzs⟩ : ∃ zs, toZ (nodeN N) = zs := ⟨_, rfl⟩
  have hlen := node_len N
  have hzl : zs.length = (nodeN N).length := by rw [← hzs, toZ_len]
  rw [← hzl] at hlen
  have HP := Lib.hid (fun w => Node_rd N w hN)
  have HW := Lib.hid (fun w => rNode_rd N w hN)
  rw [hzs] at HP HW
  obtain ⟨m, hm⟩ : ∃ m, zs.length = m := ⟨_, rfl⟩
  rw [hm] at HP HW hlen
  clear hzs hzl hm
  go_enter Try.func4, Try.ntmps4
  go_wp2_with fail
  refine (hf w rfl).mono ?_
  rintro e w0 ⟨rfl, rfl⟩
  go_wp2_with fail
  refine (Number_any A' n' c' ys w HR.out (by omega) hnc).mono ?_
  rintro e w1 ⟨rfl, h1⟩
  rw [(num_good HZ.out (by omega)).1, (num_good HZ.out (by omega)).2]
  have R1 := Lib.hid ((HR.out.below h1).more h1.size)
  go_wp2_with fail
  refine (rNumber_any A' n' c' ys w1 R1.out).mono ?_
  rintro e w2 ⟨rfl, h2⟩
  rw [HZ.out]
  have b2 := h1.trans (h2.mono h1.size)
  go_wp2_with fail
  refine (HP.out w2).mono ?_
  rintro e w3 ⟨⟨Ap, cp, rfl, hpc, rp⟩, h3⟩
  have b3 := b2.trans (h3.mono b2.size)
  have RP := Lib.hid rp
  clear rp
  go_wp2_with fail
  refine (HW.out w3).mono ?_
  rintro e w4 ⟨⟨Aw, cw, rfl, hwc, rw⟩, h4⟩
  have b4 := b3.trans (h4.mono b3.size)
  have RW := Lib.hid rw
  have RP4 := Lib.hid ((RP.out.below h4).more h4.size)
  clear rw
  go_wp2_with fail
  refine (Same_yes _ _ m _ m _ zs w4 RP4.out RW.out (by omega)).mono ?_
  rintro e w5 ⟨rfl, h5⟩
  have b5 := b4.trans (h5.mono b4.size)
  go_wp2_with fail
  refine (awake_any w5).mono ?_
  rintro e w6 ⟨rfl, h6⟩
  have b6 := b5.trans (h6.mono b5.size)
  go_wp2
  go_ret
  exact ⟨rfl, b6⟩
set_option maxHeartbeats 2000000 in
set_option maxRecDepth 100000 in
theorem nodes_120 (A : Option Addr) (n c : Nat) (xs : List Int) (ys : List Int) (A' : Option Addr) (n' c' : Nat) (number : Int) (w : World)
    (hf : ∀ w1 : World, w1 = w → Calls Try.prog 13 #[.slice A n c] w1 fun e w' => e = .returned (.slice A' n' c') ∧ w = w')
    (h6 : n' ≤ 6) (hnc : n' ≤ c') (hr : Rd w w.heap.size 1 A' n' (intsV ys)) (z : Nat) (hzb : z < 258) (hz : numberZ ys = z) (he : 0 < n') (hN : 257 < number) (hb : number ≤ 9223372036854775807) :
    Calls Try.prog 4 #[.slice A n c, .int .i64 number] w fun e w' => e = .returned (.bool true) ∧ Below w.heap.size w w' := by
  have HR := Lib.hid hr
  have HZ := Lib.hid hz
  clear hr hz
  go_enter Try.func4, Try.ntmps4
  go_wp2_with fail
  refine (hf w rfl).mono ?_
  rintro e w0 ⟨rfl, rfl⟩
  go_wp2_with fail
  refine (Number_any A' n' c' ys w HR.out (by omega) hnc).mono ?_
  rintro e w1 ⟨rfl, h1⟩
  rw [(num_good HZ.out (by omega)).1, (num_good HZ.out (by omega)).2]
  have R1 := Lib.hid ((HR.out.below h1).more h1.size)
  go_wp2_with fail
  refine (rNumber_any A' n' c' ys w1 R1.out).mono ?_
  rintro e w2 ⟨rfl, h2⟩
  rw [HZ.out]
  have b2 := h1.trans (h2.mono h1.size)
  go_wp2_with fail
  refine (Node_bad number w2 (.inr hN) hb).mono ?_
  rintro e w4 ⟨rfl, rfl⟩
  have b4 := b2
  go_wp2_with fail
  refine (Same_yes none none 0 0 0 0 [] w2 Rd.nil Rd.nil (by omega)).mono ?_
  rintro e w5 ⟨rfl, h5⟩
  have b5 := b4.trans (h5.mono b4.size)
  go_wp2_with fail
  refine (awake_any w5).mono ?_
  rintro e w6 ⟨rfl, h6⟩
  have b6 := b5.trans (h6.mono b5.size)
  go_wp2
  go_ret
  exact ⟨rfl, b6⟩

theorem nodes_law (A : Option Addr) (n c : Nat) (xs : List Int) (number : Int) (w : World) (hx : Rd w w.heap.size 1 A n (intsV xs)) (hnc : n ≤ c) (hb : number ≤ 9223372036854775807) :
    Calls Try.prog 4 #[.slice A n c, .int .i64 number] w fun e w' => e = .returned (.bool true) ∧ Below w.heap.size w w' := by
  obtain ⟨A', n', c', ys, hf, h6, hc, hr⟩ := few_is A n c xs w hx hnc
  have hl := hr.1
  rw [intsV_len, Nat.mul_one] at hl
  rcases number_cases ys with hz | ⟨z, hzb, hz⟩
  · by_cases he : n' = 0
    · by_cases h1 : number < 0
      · exact nodes_001 A n c xs ys A' n' c' number w hf h6 hc hr hz he h1 hb
      · by_cases h2 : 257 < number
        · exact nodes_021 A n c xs ys A' n' c' number w hf h6 hc hr hz he h2 hb
        · obtain ⟨N, rfl⟩ := Int.eq_ofNat_of_zero_le (show 0 ≤ number by omega)
          exact nodes_011 A n c xs ys A' n' c' N w hf h6 hc hr hz he (by omega)
    · have he := Nat.pos_of_ne_zero he
      by_cases h1 : number < 0
      · exact nodes_000 A n c xs ys A' n' c' number w hf h6 hc hr hz he h1 hb
      · by_cases h2 : 257 < number
        · exact nodes_020 A n c xs ys A' n' c' number w hf h6 hc hr hz he h2 hb
        · obtain ⟨N, rfl⟩ := Int.eq_ofNat_of_zero_le (show 0 ≤ number by omega)
          exact nodes_010 A n c xs ys A' n' c' N w hf h6 hc hr hz he (by omega)
  · have he : 0 < n' := by
      rw [← hl]
      cases ys with
      | nil => exact absurd hz (by show (-1 : Int) ≠ _; omega)
      | cons => simp
    by_cases h1 : number < 0
    · exact nodes_100 A n c xs ys A' n' c' number w hf h6 hc hr z hzb hz he h1 hb
    · by_cases h2 : 257 < number
      · exact nodes_120 A n c xs ys A' n' c' number w hf h6 hc hr z hzb hz he h2 hb
      · obtain ⟨N, rfl⟩ := Int.eq_ofNat_of_zero_le (show 0 ≤ number by omega)
        exact nodes_110 A n c xs ys A' n' c' N w hf h6 hc hr z hzb hz he (by omega)
end Go.Proofs.Ytmladfkafbjmoaa
