/-
  Walk: the law on paths.
-/
import Derived.Test.YtmladfkafbjmoaaReachL
namespace Go.Proofs.Ytmladfkafbjmoaa
open Go.RowKit

set_option maxHeartbeats 2000000 in
set_option maxRecDepth 100000 in
theorem paths_00 (A : Option Addr) (n c : Nat) (ys : List Int) (A' : Option Addr) (n' c' : Nat) (number : Int) (w : World)
    (hf : ∀ w1 : World, w1 = w → Calls Try.prog 13 #[.slice A n c] w1 fun e w' => e = .returned (.slice A' n' c') ∧ w = w')
    (h6 : n' ≤ 6) (hnc : n' ≤ c') (hr : Rd w w.heap.size 1 A' n' (intsV ys)) (hz : blockZ ys = -1) (hN : number < 0 ∨ 3620 < number) (hM : number < 0) :
    Calls Try.prog 5 #[.int .i64 number, .slice A n c] w fun e w' => e = .returned (.bool true) ∧ Below w.heap.size w w' := by
  have HR := Lib.hid hr
  have HZ := Lib.hid hz
  clear hr hz
  have e1 : ∀ (w : World), (binOp .eql 25 (.slice none 0 0) (.slice none 0 0)).run Try.prog w = .ok (.bool true) w := fun w => Lib.run_eql_slice_nil w 25 3 none 0 0 0 0 Try.underlying25
  have e2 : ∀ (w : World), (binOp .neq 25 (.slice none 0 0) (.slice none 0 0)).run Try.prog w = .ok (.bool false) w := fun w => run_neq_slice_nil_any w 25 3 none 0 0 0 0 Try.underlying25
  go_enter Try.func5, Try.ntmps5
  go_wp2_with fail
  refine (hf w rfl).mono ?_
  rintro e w0 ⟨rfl, rfl⟩
  go_wp2_with fail
  refine (Path_bad number w hN).mono ?_
  rintro e w4 ⟨rfl, rfl⟩
  go_wp2_with fail
  refine (rPath_bad number _ hN).mono ?_
  rintro e w4 ⟨rfl, rfl⟩
  go_wp2_with fail
  refine (Same_yes none none 0 0 0 0 [] _ Rd.nil Rd.nil (by omega)).mono ?_
  rintro e w5 ⟨rfl, b5⟩
  have R5 := Lib.hid ((HR.out.below b5).more b5.size)
  go_wp2_with fail
  refine (Block_any A' n' c' ys w5 R5.out (by omega) hnc).mono ?_
  rintro e w6 ⟨rfl, h6⟩
  rw [(blk_bad HZ.out).1, (blk_bad HZ.out).2]
  have R6 := Lib.hid ((R5.out.below h6).more h6.size)
  have b6 := b5.trans (h6.mono b5.size)
  go_wp2_with fail
  refine (rBlock_any A' n' c' ys w6 R6.out (by omega)).mono ?_
  rintro e w7 ⟨rfl, h7⟩
  rw [HZ.out]
  have b7 := b6.trans (h7.mono b6.size)
  go_wp2_with fail
  refine (awake_any w7).mono ?_
  rintro e w8 ⟨rfl, h8⟩
  have b8 := b7.trans (h8.mono b7.size)
  go_wp2
  go_ret
  exact ⟨rfl, b8⟩
set_option maxHeartbeats 2000000 in
set_option maxRecDepth 100000 in
theorem paths_01 (A : Option Addr) (n c : Nat) (ys : List Int) (A' : Option Addr) (n' c' : Nat) (N : Nat) (w : World)
    (hf : ∀ w1 : World, w1 = w → Calls Try.prog 13 #[.slice A n c] w1 fun e w' => e = .returned (.slice A' n' c') ∧ w = w')
    (h6 : n' ≤ 6) (hnc : n' ≤ c') (hr : Rd w w.heap.size 1 A' n' (intsV ys)) (hz : blockZ ys = -1) (hN : N < 3621) :
    Calls Try.prog 5 #[.int .i64 (N : Int), .slice A n c] w fun e w' => e = .returned (.bool true) ∧ Below w.heap.size w w' := by
  have HR := Lib.hid hr
  have HZ := Lib.hid hz
  clear hr hz
  have e1 : ∀ (w : World) (g n c : Nat), (binOp .eql 25 (.slice (some ⟨g, 0, none⟩) n c) (.slice none 0 0)).run Try.prog w = .ok (.bool false) w := fun w g n c => Lib.run_eql_slice_nil w 25 3 (some ⟨g, 0, none⟩) n c 0 0 Try.underlying25
  have e2 : ∀ (w : World) (g n c : Nat), (binOp .neq 25 (.slice (some ⟨g, 0, none⟩) n c) (.slice none 0 0)).run Try.prog w = .ok (.bool true) w := fun w g n c => run_neq_slice_nil_any w 25 3 (some ⟨g, 0, none⟩) n c 0 0 Try.underlying25
  obtain ⟨zs, hzs⟩ : ∃ zs, toZ (pathN N) = zs := ⟨_, rfl⟩
  have hlen := path_len N
  have hzl : zs.length = (pathN N).length := by rw [← hzs, toZ_len]
  rw [← hzl] at hlen
  have HP := Lib.hid (fun w => Path_rd N w hN)
  have HW := Lib.hid (fun w => rPath_rd N w hN)
  rw [hzs] at HP HW
  obtain ⟨m, hm⟩ : ∃ m, zs.length = m := ⟨_, rfl⟩
  rw [hm] at HP HW hlen
  clear hzs hzl hm
  go_enter Try.func5, Try.ntmps5
  go_wp2_with fail
  refine (hf w rfl).mono ?_
  rintro e w0 ⟨rfl, rfl⟩
  go_wp2_with fail
  refine (HP.out w).mono ?_
  rintro e w3 ⟨⟨Ap, cp, rfl, hpc, rp⟩, h3⟩
  have RP := Lib.hid rp
  clear rp
  have R3 := Lib.hid ((HR.out.below h3).more h3.size)
  go_wp2_with fail
  refine (HW.out w3).mono ?_
  rintro e w4 ⟨⟨gw, cw, rfl, hwc, rw⟩, h4⟩
  have b4 := h3.trans (h4.mono h3.size)
  have RW := Lib.hid rw
  have RP4 := Lib.hid ((RP.out.below h4).more h4.size)
  have R4 := Lib.hid ((R3.out.below h4).more h4.size)
  clear rw
  go_wp2_with fail
  refine (Same_yes _ _ m _ m _ zs w4 RP4.out RW.out (by omega)).mono ?_
  rintro e w5 ⟨rfl, h5⟩
  have b5 := b4.trans (h5.mono b4.size)
  have R5 := Lib.hid ((R4.out.below h5).more h5.size)
  go_wp2_with fail
  refine (Block_any A' n' c' ys w5 R5.out (by omega) hnc).mono ?_
  rintro e w6 ⟨rfl, h6⟩
  rw [(blk_bad HZ.out).1, (blk_bad HZ.out).2]
  have R6 := Lib.hid ((R5.out.below h6).more h6.size)
  have b6 := b5.trans (h6.mono b5.size)
  go_wp2_with fail
  refine (rBlock_any A' n' c' ys w6 R6.out (by omega)).mono ?_
  rintro e w7 ⟨rfl, h7⟩
  rw [HZ.out]
  have b7 := b6.trans (h7.mono b6.size)
  go_wp2_with fail
  refine (awake_any w7).mono ?_
  rintro e w8 ⟨rfl, h8⟩
  have b8 := b7.trans (h8.mono b7.size)
  go_wp2
  go_ret
  exact ⟨rfl, b8⟩
set_option maxHeartbeats 2000000 in
set_option maxRecDepth 100000 in
theorem paths_02 (A : Option Addr) (n c : Nat) (ys : List Int) (A' : Option Addr) (n' c' : Nat) (number : Int) (w : World)
    (hf : ∀ w1 : World, w1 = w → Calls Try.prog 13 #[.slice A n c] w1 fun e w' => e = .returned (.slice A' n' c') ∧ w = w')
    (h6 : n' ≤ 6) (hnc : n' ≤ c') (hr : Rd w w.heap.size 1 A' n' (intsV ys)) (hz : blockZ ys = -1) (hN : number < 0 ∨ 3620 < number) (hM : 3620 < number) :
    Calls Try.prog 5 #[.int .i64 number, .slice A n c] w fun e w' => e = .returned (.bool true) ∧ Below w.heap.size w w' := by
  have HR := Lib.hid hr
  have HZ := Lib.hid hz
  clear hr hz
  have e1 : ∀ (w : World), (binOp .eql 25 (.slice none 0 0) (.slice none 0 0)).run Try.prog w = .ok (.bool true) w := fun w => Lib.run_eql_slice_nil w 25 3 none 0 0 0 0 Try.underlying25
  have e2 : ∀ (w : World), (binOp .neq 25 (.slice none 0 0) (.slice none 0 0)).run Try.prog w = .ok (.bool false) w := fun w => run_neq_slice_nil_any w 25 3 none 0 0 0 0 Try.underlying25
  go_enter Try.func5, Try.ntmps5
  go_wp2_with fail
  refine (hf w rfl).mono ?_
  rintro e w0 ⟨rfl, rfl⟩
  go_wp2_with fail
  refine (Path_bad number w hN).mono ?_
  rintro e w4 ⟨rfl, rfl⟩
  go_wp2_with fail
  refine (rPath_bad number _ hN).mono ?_
  rintro e w4 ⟨rfl, rfl⟩
  go_wp2_with fail
  refine (Same_yes none none 0 0 0 0 [] _ Rd.nil Rd.nil (by omega)).mono ?_
  rintro e w5 ⟨rfl, b5⟩
  have R5 := Lib.hid ((HR.out.below b5).more b5.size)
  go_wp2_with fail
  refine (Block_any A' n' c' ys w5 R5.out (by omega) hnc).mono ?_
  rintro e w6 ⟨rfl, h6⟩
  rw [(blk_bad HZ.out).1, (blk_bad HZ.out).2]
  have R6 := Lib.hid ((R5.out.below h6).more h6.size)
  have b6 := b5.trans (h6.mono b5.size)
  go_wp2_with fail
  refine (rBlock_any A' n' c' ys w6 R6.out (by omega)).mono ?_
  rintro e w7 ⟨rfl, h7⟩
  rw [HZ.out]
  have b7 := b6.trans (h7.mono b6.size)
  go_wp2_with fail
  refine (awake_any w7).mono ?_
  rintro e w8 ⟨rfl, h8⟩
  have b8 := b7.trans (h8.mono b7.size)
  go_wp2
  go_ret
  exact ⟨rfl, b8⟩
set_option maxHeartbeats 2000000 in
set_option maxRecDepth 100000 in
theorem paths_10 (A : Option Addr) (n c : Nat) (ys : List Int) (A' : Option Addr) (n' c' : Nat) (number : Int) (w : World)
    (hf : ∀ w1 : World, w1 = w → Calls Try.prog 13 #[.slice A n c] w1 fun e w' => e = .returned (.slice A' n' c') ∧ w = w')
    (h6 : n' ≤ 6) (hnc : n' ≤ c') (hr : Rd w w.heap.size 1 A' n' (intsV ys)) (z : Nat) (hzb : z < 3621) (hz : blockZ ys = z) (hN : number < 0 ∨ 3620 < number) (hM : number < 0) :
    Calls Try.prog 5 #[.int .i64 number, .slice A n c] w fun e w' => e = .returned (.bool true) ∧ Below w.heap.size w w' := by
  have HR := Lib.hid hr
  have HZ := Lib.hid hz
  clear hr hz
  have e1 : ∀ (w : World), (binOp .eql 25 (.slice none 0 0) (.slice none 0 0)).run Try.prog w = .ok (.bool true) w := fun w => Lib.run_eql_slice_nil w 25 3 none 0 0 0 0 Try.underlying25
  have e2 : ∀ (w : World), (binOp .neq 25 (.slice none 0 0) (.slice none 0 0)).run Try.prog w = .ok (.bool false) w := fun w => run_neq_slice_nil_any w 25 3 none 0 0 0 0 Try.underlying25
  go_enter Try.func5, Try.ntmps5
  go_wp2_with fail
  refine (hf w rfl).mono ?_
  rintro e w0 ⟨rfl, rfl⟩
  go_wp2_with fail
  refine (Path_bad number w hN).mono ?_
  rintro e w4 ⟨rfl, rfl⟩
  go_wp2_with fail
  refine (rPath_bad number _ hN).mono ?_
  rintro e w4 ⟨rfl, rfl⟩
  go_wp2_with fail
  refine (Same_yes none none 0 0 0 0 [] _ Rd.nil Rd.nil (by omega)).mono ?_
  rintro e w5 ⟨rfl, b5⟩
  have R5 := Lib.hid ((HR.out.below b5).more b5.size)
  go_wp2_with fail
  refine (Block_any A' n' c' ys w5 R5.out (by omega) hnc).mono ?_
  rintro e w6 ⟨rfl, h6⟩
  rw [(blk_good HZ.out (by omega)).1, (blk_good HZ.out (by omega)).2]
  have R6 := Lib.hid ((R5.out.below h6).more h6.size)
  have b6 := b5.trans (h6.mono b5.size)
  go_wp2_with fail
  refine (rBlock_any A' n' c' ys w6 R6.out (by omega)).mono ?_
  rintro e w7 ⟨rfl, h7⟩
  rw [HZ.out]
  have b7 := b6.trans (h7.mono b6.size)
  go_wp2_with fail
  refine (awake_any w7).mono ?_
  rintro e w8 ⟨rfl, h8⟩
  have b8 := b7.trans (h8.mono b7.size)
  go_wp2
  go_ret
  exact ⟨rfl, b8⟩
set_option maxHeartbeats 2000000 in
set_option maxRecDepth 100000 in
theorem paths_11 (A : Option Addr) (n c : Nat) (ys : List Int) (A' : Option Addr) (n' c' : Nat) (N : Nat) (w : World)
    (hf : ∀ w1 : World, w1 = w → Calls Try.prog 13 #[.slice A n c] w1 fun e w' => e = .returned (.slice A' n' c') ∧ w = w')
    (h6 : n' ≤ 6) (hnc : n' ≤ c') (hr : Rd w w.heap.size 1 A' n' (intsV ys)) (z : Nat) (hzb : z < 3621) (hz : blockZ ys = z) (hN : N < 3621) :
    Calls Try.prog 5 #[.int .i64 (N : Int), .slice A n c] w fun e w' => e = .returned (.bool true) ∧ Below w.heap.size w w' := by
  have HR := Lib.hid hr
  have HZ := Lib.hid hz
  clear hr hz
  have e1 : ∀ (w : World) (g n c : Nat), (binOp .eql 25 (.slice (some ⟨g, 0, none⟩) n c) (.slice none 0 0)).run Try.prog w = .ok (.bool false) w := fun w g n c => Lib.run_eql_slice_nil w 25 3 (some ⟨g, 0, none⟩) n c 0 0 Try.underlying25
  have e2 : ∀ (w : World) (g n c : Nat), (binOp .neq 25 (.slice (some ⟨g, 0, none⟩) n c) (.slice none 0 0)).run Try.prog w = .ok (.bool true) w := fun w g n c => run_neq_slice_nil_any w 25 3 (some ⟨g, 0, none⟩) n c 0 0 Try.underlying25
  obtain ⟨zs, hzs⟩ : ∃ zs, toZ (pathN N) = zs := ⟨_, rfl⟩
  have hlen := path_len N
  have hzl : zs.length = (pathN N).length := by rw [← hzs, toZ_len]
  rw [← hzl] at hlen
  have HP := Lib.hid (fun w => Path_rd N w hN)
  have HW := Lib.hid (fun w => rPath_rd N w hN)
  rw [hzs] at HP HW
  obtain ⟨m, hm⟩ : ∃ m, zs.length = m := ⟨_, rfl⟩
  rw [hm] at HP HW hlen
  clear hzs hzl hm
  go_enter Try.func5, Try.ntmps5
  go_wp2_with fail
  refine (hf w rfl).mono ?_
  rintro e w0 ⟨rfl, rfl⟩
  go_wp2_with fail
  refine (HP.out w).mono ?_
  rintro e w3 ⟨⟨Ap, cp, rfl, hpc, rp⟩, h3⟩
  have RP := Lib.hid rp
  clear rp
  have R3 := Lib.hid ((HR.out.below h3).more h3.size)
  go_wp2_with fail
  refine (HW.out w3).mono ?_
  rintro e w4 ⟨⟨gw, cw, rfl, hwc, rw⟩, h4⟩
  have b4 := h3.trans (h4.mono h3.size)
  have RW := Lib.hid rw
  have RP4 := Lib.hid ((RP.out.below h4).more h4.size)
  have R4 := Lib.hid ((R3.out.below h4).more h4.size)
  clear rw
  go_wp2_with fail
  refine (Same_yes _ _ m _ m _ zs w4 RP4.out RW.out (by omega)).mono ?_
  rintro e w5 ⟨rfl, h5⟩
  have b5 := b4.trans (h5.mono b4.size)
  have R5 := Lib.hid ((R4.out.below h5).more h5.size)
  go_wp2_with fail
  refine (Block_any A' n' c' ys w5 R5.out (by omega) hnc).mono ?_
  rintro e w6 ⟨rfl, h6⟩
  rw [(blk_good HZ.out (by omega)).1, (blk_good HZ.out (by omega)).2]
  have R6 := Lib.hid ((R5.out.below h6).more h6.size)
  have b6 := b5.trans (h6.mono b5.size)
  go_wp2_with fail
  refine (rBlock_any A' n' c' ys w6 R6.out (by omega)).mono ?_
  rintro e w7 ⟨rfl, h7⟩
  rw [HZ.out]
  have b7 := b6.trans (h7.mono b6.size)
  go_wp2_with fail
  refine (awake_any w7).mono ?_
  rintro e w8 ⟨rfl, h8⟩
  have b8 := b7.trans (h8.mono b7.size)
  go_wp2
  go_ret
  exact ⟨rfl, b8⟩
set_option maxHeartbeats 2000000 in
set_option maxRecDepth 100000 in
theorem paths_12 (A : Option Addr) (n c : Nat) (ys : List Int) (A' : Option Addr) (n' c' : Nat) (number : Int) (w : World)
    (hf : ∀ w1 : World, w1 = w → Calls Try.prog 13 #[.slice A n c] w1 fun e w' => e = .returned (.slice A' n' c') ∧ w = w')
    (h6 : n' ≤ 6) (hnc : n' ≤ c') (hr : Rd w w.heap.size 1 A' n' (intsV ys)) (z : Nat) (hzb : z < 3621) (hz : blockZ ys = z) (hN : number < 0 ∨ 3620 < number) (hM : 3620 < number) :
    Calls Try.prog 5 #[.int .i64 number, .slice A n c] w fun e w' => e = .returned (.bool true) ∧ Below w.heap.size w w' := by
  have HR := Lib.hid hr
  have HZ := Lib.hid hz
  clear hr hz
  have e1 : ∀ (w : World), (binOp .eql 25 (.slice none 0 0) (.slice none 0 0)).run Try.prog w = .ok (.bool true) w := fun w => Lib.run_eql_slice_nil w 25 3 none 0 0 0 0 Try.underlying25
  have e2 : ∀ (w : World), (binOp .neq 25 (.slice none 0 0) (.slice none 0 0)).run Try.prog w = .ok (.bool false) w := fun w => run_neq_slice_nil_any w 25 3 none 0 0 0 0 Try.underlying25
  go_enter Try.func5, Try.ntmps5
  go_wp2_with fail
  refine (hf w rfl).mono ?_
  rintro e w0 ⟨rfl, rfl⟩
  go_wp2_with fail
  refine (Path_bad number w hN).mono ?_
  rintro e w4 ⟨rfl, rfl⟩
  go_wp2_with fail
  refine (rPath_bad number _ hN).mono ?_
  rintro e w4 ⟨rfl, rfl⟩
  go_wp2_with fail
  refine (Same_yes none none 0 0 0 0 [] _ Rd.nil Rd.nil (by omega)).mono ?_
  rintro e w5 ⟨rfl, b5⟩
  have R5 := Lib.hid ((HR.out.below b5).more b5.size)
  go_wp2_with fail
  refine (Block_any A' n' c' ys w5 R5.out (by omega) hnc).mono ?_
  rintro e w6 ⟨rfl, h6⟩
  rw [(blk_good HZ.out (by omega)).1, (blk_good HZ.out (by omega)).2]
  have R6 := Lib.hid ((R5.out.below h6).more h6.size)
  have b6 := b5.trans (h6.mono b5.size)
  go_wp2_with fail
  refine (rBlock_any A' n' c' ys w6 R6.out (by omega)).mono ?_
  rintro e w7 ⟨rfl, h7⟩
  rw [HZ.out]
  have b7 := b6.trans (h7.mono b6.size)
  go_wp2_with fail
  refine (awake_any w7).mono ?_
  rintro e w8 ⟨rfl, h8⟩
  have b8 := b7.trans (h8.mono b7.size)
  go_wp2
  go_ret
  exact ⟨rfl, b8⟩

theorem paths_law (A : Option Addr) (n c : Nat) (xs : List Int) (number : Int) (w : World) (hx : Rd w w.heap.size 1 A n (intsV xs)) (hnc : n ≤ c) :
    Calls Try.prog 5 #[.int .i64 number, .slice A n c] w fun e w' => e = .returned (.bool true) ∧ Below w.heap.size w w' := by
  obtain ⟨A', n', c', ys, hf, h6, hc, hr⟩ := few_is A n c xs w hx hnc
  rcases block_cases ys with hz | ⟨z, hzb, hz⟩
  · by_cases h1 : number < 0
    · exact paths_00 A n c ys A' n' c' number w hf h6 hc hr hz (.inl h1) h1
    · by_cases h2 : 3620 < number
      · exact paths_02 A n c ys A' n' c' number w hf h6 hc hr hz (.inr h2) h2
      · obtain ⟨N, rfl⟩ := Int.eq_ofNat_of_zero_le (show 0 ≤ number by omega)
        exact paths_01 A n c ys A' n' c' N w hf h6 hc hr hz (by omega)
  · by_cases h1 : number < 0
    · exact paths_10 A n c ys A' n' c' number w hf h6 hc hr z hzb hz (.inl h1) h1
    · by_cases h2 : 3620 < number
      · exact paths_12 A n c ys A' n' c' number w hf h6 hc hr z hzb hz (.inr h2) h2
      · obtain ⟨N, rfl⟩ := Int.eq_ofNat_of_zero_le (show 0 ≤ number by omega)
        exact paths_11 A n c ys A' n' c' N w hf h6 hc hr z hzb hz (by omega)
end Go.Proofs.Ytmladfkafbjmoaa
