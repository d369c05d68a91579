/-
  Walks: the reference's reading of runes.
-/
import Derived.Test.YtpjghildhhpeeaaRows
import Derived.Test.YtpjghildhhpeeaaTitleC
import Derived.Test.YtpjghildhhpeeaaMem
import Derived.WalkKit
import Derived.WalkSpells
import Derived.WalkLawsBesides
import Derived.BigQuiet
import Derived.Deep.QuietTactic
import Derived.Lib.Hide
namespace Go.Proofs.Ytpjghildhhpeeaa
open Go.RowKit

def oc (s : ByteArray) : List UInt8 := s.data.toList
def st (l : List UInt8) : ByteArray := ⟨l.toArray⟩
theorem oc_st (l : List UInt8) : oc (st l) = l := by simp [oc, st]
theorem st_oc (s : ByteArray) : st (oc s) = s := by simp [oc, st]
theorem oc_len (s : ByteArray) : (oc s).length = s.size := by simp [oc]
theorem st_size (l : List UInt8) : (st l).size = l.length := by rw [← oc_len, oc_st]
theorem oc_inj {s t : ByteArray} (h : oc s = oc t) : s = t := by rw [← st_oc s, h, st_oc]
theorem oc_extract (s : ByteArray) (a b : Nat) : oc (s.extract a b) = ((oc s).take b).drop a := by
  simp only [oc, ByteArray.data_extract, Array.toList_extract, List.extract_eq_take_drop]
  rw [List.drop_take]
theorem byte_oc (s : ByteArray) (k : Nat) (h : k < s.size) : (s[k]'h).toNat = bt (oc s) k := by
  have : k < (oc s).length := by rw [oc_len]; exact h
  simp only [bt, List.getD_eq_getElem?_getD, List.getElem?_eq_getElem this, Option.getD_some]
  rfl

def moB (l : List UInt8) (k : Nat) : Bool := decide (k < l.length ∧ 128 ≤ bt l k ∧ bt l k < 192)
theorem moB_iff (l : List UInt8) (k : Nat) : (moB l k = true ↔ (k < l.length ∧ 128 ≤ bt l k ∧ bt l k < 192)) ∧ (moB l k = false ↔ ¬ (k < l.length ∧ 128 ≤ bt l k ∧ bt l k < 192)) := by
  simp only [moB, decide_eq_true_eq, decide_eq_false_iff_not]; simp

set_option maxHeartbeats 400000 in
theorem more_any (s : ByteArray) (k : Int) (w : World) (hk : 0 ≤ k ∧ k ≤ 10) :
    Calls Try.prog 59 #[.string s, .int .i64 k] w fun e w' => e = .returned (.bool (moB (oc s) k.toNat)) ∧ w = w' := by
  obtain ⟨k, rfl⟩ := Int.eq_ofNat_of_zero_le hk.1
  rw [Int.toNat_natCast]
  have hm := moB_iff (oc s) k
  rw [oc_len] at hm
  have HM := Lib.hid hm
  clear hm
  by_cases hlt : k < s.size
  · have hb := byte_oc s k hlt
    go_enter Try.func59, Try.ntmps59
    go_wp2
    all_goals go_ret
    · rename_i h1
      refine ⟨ret_bool ?_, rfl⟩
      by_cases h2 : bt (oc s) k < 192
      · rw [HM.out.1.2 (by omega)]; simp; omega
      · rw [HM.out.2.2 (by omega)]; simp; omega
    · rename_i h1
      refine ⟨ret_bool ?_, rfl⟩
      rw [HM.out.2.2 (by omega)]
  · go_enter Try.func59, Try.ntmps59
    go_wp2
    go_ret
    exact ⟨ret_bool (HM.out.2.2 (by omega)).symm, rfl⟩

set_option linter.unusedVariables false in
set_option maxHeartbeats 1000000 in
set_option maxRecDepth 100000 in
theorem next_a (s : ByteArray) (w : World) (h0 : 0 < s.size) (b0 : Nat) (e0 : (s[0]'h0).toNat = b0) (g : b0 < 128) :
    Calls Try.prog 55 #[.string s] w fun e w' => e = .returned (.agg #[.int .i64 (b0), .string (s.extract 0 1), .bool false]) ∧ Below w.heap.size w w' := by
  go_enter Try.func55, Try.ntmps55
  go_wp2_with (go_at_call 59; refine (more_any _ _ _ (by omega)).mono ?_; rintro e w' ⟨rfl, rfl⟩)
  exact bodyPost_ret (v := .agg #[.int .i64 (b0), .string (s.extract 0 1), .bool false]) (by simp [results, Try.results55, go_sem]) rfl ⟨rfl, by repeat (first | exact Below.refl _ _ | refine Below.setCell ?_ (by simp) _ | refine below_drewN ?_ _ | refine Below.alloc ?_ (by simp) _)⟩

set_option linter.unusedVariables false in
set_option maxHeartbeats 1000000 in
set_option maxRecDepth 100000 in
theorem next_b (s : ByteArray) (w : World) (h0 : 0 < s.size) (b0 : Nat) (e0 : (s[0]'h0).toNat = b0) (g : 192 ≤ b0 ∧ b0 < 224) (h1 : 1 < s.size) (b1 : Nat) (e1 : (s[1]'h1).toNat = b1) (r1 : 128 ≤ b1 ∧ b1 < 192) (m1 : moB (oc s) 1 = true) (hv : 128 ≤ ((b0 : Int) - 192) * 64 + b1 - 128) :
    Calls Try.prog 55 #[.string s] w fun e w' => e = .returned (.agg #[.int .i64 (((b0 : Int) - 192) * 64 + b1 - 128), .string (s.extract 0 2), .bool false]) ∧ Below w.heap.size w w' := by
  go_enter Try.func55, Try.ntmps55
  go_wp2_with (go_at_call 59; refine (more_any _ _ _ (by omega)).mono ?_; rintro e w' ⟨rfl, rfl⟩)
  exact bodyPost_ret (v := .agg #[.int .i64 (((b0 : Int) - 192) * 64 + b1 - 128), .string (s.extract 0 2), .bool false]) (by simp [results, Try.results55, go_sem]) rfl ⟨rfl, by repeat (first | exact Below.refl _ _ | refine Below.setCell ?_ (by simp) _ | refine below_drewN ?_ _ | refine Below.alloc ?_ (by simp) _)⟩

set_option linter.unusedVariables false in
set_option maxHeartbeats 1000000 in
set_option maxRecDepth 100000 in
theorem next_c (s : ByteArray) (w : World) (h0 : 0 < s.size) (b0 : Nat) (e0 : (s[0]'h0).toNat = b0) (g : 192 ≤ b0 ∧ b0 < 224) (h1 : 1 < s.size) (b1 : Nat) (e1 : (s[1]'h1).toNat = b1) (r1 : 128 ≤ b1 ∧ b1 < 192) (m1 : moB (oc s) 1 = true) (hv : ((b0 : Int) - 192) * 64 + b1 - 128 < 128) :
    Calls Try.prog 55 #[.string s] w fun e w' => e = .returned (.agg #[.int .i64 (-1), .string (s.extract 0 1), .bool true]) ∧ Below w.heap.size w w' := by
  go_enter Try.func55, Try.ntmps55
  go_wp2_with (go_at_call 59; refine (more_any _ _ _ (by omega)).mono ?_; rintro e w' ⟨rfl, rfl⟩)
  exact bodyPost_ret (v := .agg #[.int .i64 (-1), .string (s.extract 0 1), .bool true]) (by simp [results, Try.results55, go_sem]) rfl ⟨rfl, by repeat (first | exact Below.refl _ _ | refine Below.setCell ?_ (by simp) _ | refine below_drewN ?_ _ | refine Below.alloc ?_ (by simp) _)⟩

set_option linter.unusedVariables false in
set_option maxHeartbeats 1000000 in
set_option maxRecDepth 100000 in
theorem next_d (s : ByteArray) (w : World) (h0 : 0 < s.size) (b0 : Nat) (e0 : (s[0]'h0).toNat = b0) (g : 192 ≤ b0 ∧ b0 < 224) (m1 : moB (oc s) 1 = false) :
    Calls Try.prog 55 #[.string s] w fun e w' => e = .returned (.agg #[.int .i64 (-1), .string (s.extract 0 1), .bool true]) ∧ Below w.heap.size w w' := by
  go_enter Try.func55, Try.ntmps55
  go_wp2_with (go_at_call 59; refine (more_any _ _ _ (by omega)).mono ?_; rintro e w' ⟨rfl, rfl⟩)
  exact bodyPost_ret (v := .agg #[.int .i64 (-1), .string (s.extract 0 1), .bool true]) (by simp [results, Try.results55, go_sem]) rfl ⟨rfl, by repeat (first | exact Below.refl _ _ | refine Below.setCell ?_ (by simp) _ | refine below_drewN ?_ _ | refine Below.alloc ?_ (by simp) _)⟩

set_option linter.unusedVariables false in
set_option maxHeartbeats 1000000 in
set_option maxRecDepth 100000 in
theorem next_e (s : ByteArray) (w : World) (h0 : 0 < s.size) (b0 : Nat) (e0 : (s[0]'h0).toNat = b0) (g : 224 ≤ b0 ∧ b0 < 240) (m1 : moB (oc s) 1 = false) :
    Calls Try.prog 55 #[.string s] w fun e w' => e = .returned (.agg #[.int .i64 (-1), .string (s.extract 0 1), .bool true]) ∧ Below w.heap.size w w' := by
  go_enter Try.func55, Try.ntmps55
  go_wp2_with (go_at_call 59; refine (more_any _ _ _ (by omega)).mono ?_; rintro e w' ⟨rfl, rfl⟩)
  exact bodyPost_ret (v := .agg #[.int .i64 (-1), .string (s.extract 0 1), .bool true]) (by simp [results, Try.results55, go_sem]) rfl ⟨rfl, by repeat (first | exact Below.refl _ _ | refine Below.setCell ?_ (by simp) _ | refine below_drewN ?_ _ | refine Below.alloc ?_ (by simp) _)⟩

set_option linter.unusedVariables false in
set_option maxHeartbeats 1000000 in
set_option maxRecDepth 100000 in
theorem next_f (s : ByteArray) (w : World) (h0 : 0 < s.size) (b0 : Nat) (e0 : (s[0]'h0).toNat = b0) (g : 224 ≤ b0 ∧ b0 < 240) (h1 : 1 < s.size) (b1 : Nat) (e1 : (s[1]'h1).toNat = b1) (r1 : 128 ≤ b1 ∧ b1 < 192) (m1 : moB (oc s) 1 = true) (m2 : moB (oc s) 2 = false) :
    Calls Try.prog 55 #[.string s] w fun e w' => e = .returned (.agg #[.int .i64 (-1), .string (s.extract 0 1), .bool true]) ∧ Below w.heap.size w w' := by
  go_enter Try.func55, Try.ntmps55
  go_wp2_with (go_at_call 59; refine (more_any _ _ _ (by omega)).mono ?_; rintro e w' ⟨rfl, rfl⟩)
  exact bodyPost_ret (v := .agg #[.int .i64 (-1), .string (s.extract 0 1), .bool true]) (by simp [results, Try.results55, go_sem]) rfl ⟨rfl, by repeat (first | exact Below.refl _ _ | refine Below.setCell ?_ (by simp) _ | refine below_drewN ?_ _ | refine Below.alloc ?_ (by simp) _)⟩

set_option linter.unusedVariables false in
set_option maxHeartbeats 1000000 in
set_option maxRecDepth 100000 in
theorem next_g (s : ByteArray) (w : World) (h0 : 0 < s.size) (b0 : Nat) (e0 : (s[0]'h0).toNat = b0) (g : 224 ≤ b0 ∧ b0 < 240) (h1 : 1 < s.size) (b1 : Nat) (e1 : (s[1]'h1).toNat = b1) (r1 : 128 ≤ b1 ∧ b1 < 192) (m1 : moB (oc s) 1 = true) (h2 : 2 < s.size) (b2 : Nat) (e2 : (s[2]'h2).toNat = b2) (r2 : 128 ≤ b2 ∧ b2 < 192) (m2 : moB (oc s) 2 = true) (hv : ((b0 : Int) - 224) * 4096 + ((b1 : Int) - 128) * 64 + b2 - 128 < 2048) :
    Calls Try.prog 55 #[.string s] w fun e w' => e = .returned (.agg #[.int .i64 (-1), .string (s.extract 0 1), .bool true]) ∧ Below w.heap.size w w' := by
  go_enter Try.func55, Try.ntmps55
  go_wp2_with (go_at_call 59; refine (more_any _ _ _ (by omega)).mono ?_; rintro e w' ⟨rfl, rfl⟩)
  go_quiet (fail)
  go_wp2
  exact bodyPost_ret (v := .agg #[.int .i64 (-1), .string (s.extract 0 1), .bool true]) (by simp [results, Try.results55, go_sem]) rfl ⟨rfl, by repeat (first | exact Below.refl _ _ | refine Below.setCell ?_ (by simp) _ | refine below_drewN ?_ _ | refine Below.alloc ?_ (by simp) _)⟩

set_option linter.unusedVariables false in
set_option maxHeartbeats 1000000 in
set_option maxRecDepth 100000 in
theorem next_h (s : ByteArray) (w : World) (h0 : 0 < s.size) (b0 : Nat) (e0 : (s[0]'h0).toNat = b0) (g : 224 ≤ b0 ∧ b0 < 240) (h1 : 1 < s.size) (b1 : Nat) (e1 : (s[1]'h1).toNat = b1) (r1 : 128 ≤ b1 ∧ b1 < 192) (m1 : moB (oc s) 1 = true) (h2 : 2 < s.size) (b2 : Nat) (e2 : (s[2]'h2).toNat = b2) (r2 : 128 ≤ b2 ∧ b2 < 192) (m2 : moB (oc s) 2 = true) (hv : 2048 ≤ ((b0 : Int) - 224) * 4096 + ((b1 : Int) - 128) * 64 + b2 - 128) (hu : ((b0 : Int) - 224) * 4096 + ((b1 : Int) - 128) * 64 + b2 - 128 < 55296) :
    Calls Try.prog 55 #[.string s] w fun e w' => e = .returned (.agg #[.int .i64 (((b0 : Int) - 224) * 4096 + ((b1 : Int) - 128) * 64 + b2 - 128), .string (s.extract 0 3), .bool false]) ∧ Below w.heap.size w w' := by
  go_enter Try.func55, Try.ntmps55
  go_wp2_with (go_at_call 59; refine (more_any _ _ _ (by omega)).mono ?_; rintro e w' ⟨rfl, rfl⟩)
  go_quiet (fail)
  go_wp2
  exact bodyPost_ret (v := .agg #[.int .i64 (((b0 : Int) - 224) * 4096 + ((b1 : Int) - 128) * 64 + b2 - 128), .string (s.extract 0 3), .bool false]) (by simp [results, Try.results55, go_sem]) rfl ⟨rfl, by repeat (first | exact Below.refl _ _ | refine Below.setCell ?_ (by simp) _ | refine below_drewN ?_ _ | refine Below.alloc ?_ (by simp) _)⟩

set_option linter.unusedVariables false in
set_option maxHeartbeats 1000000 in
set_option maxRecDepth 100000 in
theorem next_i (s : ByteArray) (w : World) (h0 : 0 < s.size) (b0 : Nat) (e0 : (s[0]'h0).toNat = b0) (g : 224 ≤ b0 ∧ b0 < 240) (h1 : 1 < s.size) (b1 : Nat) (e1 : (s[1]'h1).toNat = b1) (r1 : 128 ≤ b1 ∧ b1 < 192) (m1 : moB (oc s) 1 = true) (h2 : 2 < s.size) (b2 : Nat) (e2 : (s[2]'h2).toNat = b2) (r2 : 128 ≤ b2 ∧ b2 < 192) (m2 : moB (oc s) 2 = true) (hv : 57343 < ((b0 : Int) - 224) * 4096 + ((b1 : Int) - 128) * 64 + b2 - 128) :
    Calls Try.prog 55 #[.string s] w fun e w' => e = .returned (.agg #[.int .i64 (((b0 : Int) - 224) * 4096 + ((b1 : Int) - 128) * 64 + b2 - 128), .string (s.extract 0 3), .bool false]) ∧ Below w.heap.size w w' := by
  go_enter Try.func55, Try.ntmps55
  go_wp2_with (go_at_call 59; refine (more_any _ _ _ (by omega)).mono ?_; rintro e w' ⟨rfl, rfl⟩)
  go_quiet (fail)
  go_wp2
  exact bodyPost_ret (v := .agg #[.int .i64 (((b0 : Int) - 224) * 4096 + ((b1 : Int) - 128) * 64 + b2 - 128), .string (s.extract 0 3), .bool false]) (by simp [results, Try.results55, go_sem]) rfl ⟨rfl, by repeat (first | exact Below.refl _ _ | refine Below.setCell ?_ (by simp) _ | refine below_drewN ?_ _ | refine Below.alloc ?_ (by simp) _)⟩

set_option linter.unusedVariables false in
set_option maxHeartbeats 1000000 in
set_option maxRecDepth 100000 in
theorem next_j (s : ByteArray) (w : World) (h0 : 0 < s.size) (b0 : Nat) (e0 : (s[0]'h0).toNat = b0) (g : 224 ≤ b0 ∧ b0 < 240) (h1 : 1 < s.size) (b1 : Nat) (e1 : (s[1]'h1).toNat = b1) (r1 : 128 ≤ b1 ∧ b1 < 192) (m1 : moB (oc s) 1 = true) (h2 : 2 < s.size) (b2 : Nat) (e2 : (s[2]'h2).toNat = b2) (r2 : 128 ≤ b2 ∧ b2 < 192) (m2 : moB (oc s) 2 = true) (hv : 55296 ≤ ((b0 : Int) - 224) * 4096 + ((b1 : Int) - 128) * 64 + b2 - 128) (hu : ((b0 : Int) - 224) * 4096 + ((b1 : Int) - 128) * 64 + b2 - 128 ≤ 57343) :
    Calls Try.prog 55 #[.string s] w fun e w' => e = .returned (.agg #[.int .i64 (-1), .string (s.extract 0 1), .bool true]) ∧ Below w.heap.size w w' := by
  go_enter Try.func55, Try.ntmps55
  go_wp2_with (go_at_call 59; refine (more_any _ _ _ (by omega)).mono ?_; rintro e w' ⟨rfl, rfl⟩)
  go_quiet (fail)
  go_wp2
  exact bodyPost_ret (v := .agg #[.int .i64 (-1), .string (s.extract 0 1), .bool true]) (by simp [results, Try.results55, go_sem]) rfl ⟨rfl, by repeat (first | exact Below.refl _ _ | refine Below.setCell ?_ (by simp) _ | refine below_drewN ?_ _ | refine Below.alloc ?_ (by simp) _)⟩

set_option linter.unusedVariables false in
set_option maxHeartbeats 1000000 in
set_option maxRecDepth 100000 in
theorem next_k (s : ByteArray) (w : World) (h0 : 0 < s.size) (b0 : Nat) (e0 : (s[0]'h0).toNat = b0) (g : 240 ≤ b0 ∧ b0 < 248) (m1 : moB (oc s) 1 = false) :
    Calls Try.prog 55 #[.string s] w fun e w' => e = .returned (.agg #[.int .i64 (-1), .string (s.extract 0 1), .bool true]) ∧ Below w.heap.size w w' := by
  go_enter Try.func55, Try.ntmps55
  go_wp2_with (go_at_call 59; refine (more_any _ _ _ (by omega)).mono ?_; rintro e w' ⟨rfl, rfl⟩)
  exact bodyPost_ret (v := .agg #[.int .i64 (-1), .string (s.extract 0 1), .bool true]) (by simp [results, Try.results55, go_sem]) rfl ⟨rfl, by repeat (first | exact Below.refl _ _ | refine Below.setCell ?_ (by simp) _ | refine below_drewN ?_ _ | refine Below.alloc ?_ (by simp) _)⟩

set_option linter.unusedVariables false in
set_option maxHeartbeats 1000000 in
set_option maxRecDepth 100000 in
theorem next_l (s : ByteArray) (w : World) (h0 : 0 < s.size) (b0 : Nat) (e0 : (s[0]'h0).toNat = b0) (g : 240 ≤ b0 ∧ b0 < 248) (h1 : 1 < s.size) (b1 : Nat) (e1 : (s[1]'h1).toNat = b1) (r1 : 128 ≤ b1 ∧ b1 < 192) (m1 : moB (oc s) 1 = true) (m2 : moB (oc s) 2 = false) :
    Calls Try.prog 55 #[.string s] w fun e w' => e = .returned (.agg #[.int .i64 (-1), .string (s.extract 0 1), .bool true]) ∧ Below w.heap.size w w' := by
  go_enter Try.func55, Try.ntmps55
  go_wp2_with (go_at_call 59; refine (more_any _ _ _ (by omega)).mono ?_; rintro e w' ⟨rfl, rfl⟩)
  exact bodyPost_ret (v := .agg #[.int .i64 (-1), .string (s.extract 0 1), .bool true]) (by simp [results, Try.results55, go_sem]) rfl ⟨rfl, by repeat (first | exact Below.refl _ _ | refine Below.setCell ?_ (by simp) _ | refine below_drewN ?_ _ | refine Below.alloc ?_ (by simp) _)⟩

set_option linter.unusedVariables false in
set_option maxHeartbeats 1000000 in
set_option maxRecDepth 100000 in
theorem next_m (s : ByteArray) (w : World) (h0 : 0 < s.size) (b0 : Nat) (e0 : (s[0]'h0).toNat = b0) (g : 240 ≤ b0 ∧ b0 < 248) (h1 : 1 < s.size) (b1 : Nat) (e1 : (s[1]'h1).toNat = b1) (r1 : 128 ≤ b1 ∧ b1 < 192) (m1 : moB (oc s) 1 = true) (h2 : 2 < s.size) (b2 : Nat) (e2 : (s[2]'h2).toNat = b2) (r2 : 128 ≤ b2 ∧ b2 < 192) (m2 : moB (oc s) 2 = true) (m3 : moB (oc s) 3 = false) :
    Calls Try.prog 55 #[.string s] w fun e w' => e = .returned (.agg #[.int .i64 (-1), .string (s.extract 0 1), .bool true]) ∧ Below w.heap.size w w' := by
  go_enter Try.func55, Try.ntmps55
  go_wp2_with (go_at_call 59; refine (more_any _ _ _ (by omega)).mono ?_; rintro e w' ⟨rfl, rfl⟩)
  exact bodyPost_ret (v := .agg #[.int .i64 (-1), .string (s.extract 0 1), .bool true]) (by simp [results, Try.results55, go_sem]) rfl ⟨rfl, by repeat (first | exact Below.refl _ _ | refine Below.setCell ?_ (by simp) _ | refine below_drewN ?_ _ | refine Below.alloc ?_ (by simp) _)⟩

set_option linter.unusedVariables false in
set_option maxHeartbeats 1000000 in
set_option maxRecDepth 100000 in
theorem next_n (s : ByteArray) (w : World) (h0 : 0 < s.size) (b0 : Nat) (e0 : (s[0]'h0).toNat = b0) (g : 240 ≤ b0 ∧ b0 < 248) (h1 : 1 < s.size) (b1 : Nat) (e1 : (s[1]'h1).toNat = b1) (r1 : 128 ≤ b1 ∧ b1 < 192) (m1 : moB (oc s) 1 = true) (h2 : 2 < s.size) (b2 : Nat) (e2 : (s[2]'h2).toNat = b2) (r2 : 128 ≤ b2 ∧ b2 < 192) (m2 : moB (oc s) 2 = true) (h3 : 3 < s.size) (b3 : Nat) (e3 : (s[3]'h3).toNat = b3) (r3 : 128 ≤ b3 ∧ b3 < 192) (m3 : moB (oc s) 3 = true) (hv : ((b0 : Int) - 240) * 262144 + ((b1 : Int) - 128) * 4096 + ((b2 : Int) - 128) * 64 + b3 - 128 < 65536) :
    Calls Try.prog 55 #[.string s] w fun e w' => e = .returned (.agg #[.int .i64 (-1), .string (s.extract 0 1), .bool true]) ∧ Below w.heap.size w w' := by
  go_enter Try.func55, Try.ntmps55
  go_wp2_with (go_at_call 59; refine (more_any _ _ _ (by omega)).mono ?_; rintro e w' ⟨rfl, rfl⟩)
  go_quiet (fail)
  go_wp2
  exact bodyPost_ret (v := .agg #[.int .i64 (-1), .string (s.extract 0 1), .bool true]) (by simp [results, Try.results55, go_sem]) rfl ⟨rfl, by repeat (first | exact Below.refl _ _ | refine Below.setCell ?_ (by simp) _ | refine below_drewN ?_ _ | refine Below.alloc ?_ (by simp) _)⟩

set_option linter.unusedVariables false in
set_option maxHeartbeats 1000000 in
set_option maxRecDepth 100000 in
theorem next_o (s : ByteArray) (w : World) (h0 : 0 < s.size) (b0 : Nat) (e0 : (s[0]'h0).toNat = b0) (g : 240 ≤ b0 ∧ b0 < 248) (h1 : 1 < s.size) (b1 : Nat) (e1 : (s[1]'h1).toNat = b1) (r1 : 128 ≤ b1 ∧ b1 < 192) (m1 : moB (oc s) 1 = true) (h2 : 2 < s.size) (b2 : Nat) (e2 : (s[2]'h2).toNat = b2) (r2 : 128 ≤ b2 ∧ b2 < 192) (m2 : moB (oc s) 2 = true) (h3 : 3 < s.size) (b3 : Nat) (e3 : (s[3]'h3).toNat = b3) (r3 : 128 ≤ b3 ∧ b3 < 192) (m3 : moB (oc s) 3 = true) (hv : 65536 ≤ ((b0 : Int) - 240) * 262144 + ((b1 : Int) - 128) * 4096 + ((b2 : Int) - 128) * 64 + b3 - 128) (hu : ((b0 : Int) - 240) * 262144 + ((b1 : Int) - 128) * 4096 + ((b2 : Int) - 128) * 64 + b3 - 128 ≤ 1114111) :
    Calls Try.prog 55 #[.string s] w fun e w' => e = .returned (.agg #[.int .i64 (((b0 : Int) - 240) * 262144 + ((b1 : Int) - 128) * 4096 + ((b2 : Int) - 128) * 64 + b3 - 128), .string (s.extract 0 4), .bool false]) ∧ Below w.heap.size w w' := by
  go_enter Try.func55, Try.ntmps55
  go_wp2_with (go_at_call 59; refine (more_any _ _ _ (by omega)).mono ?_; rintro e w' ⟨rfl, rfl⟩)
  go_quiet (fail)
  go_wp2
  exact bodyPost_ret (v := .agg #[.int .i64 (((b0 : Int) - 240) * 262144 + ((b1 : Int) - 128) * 4096 + ((b2 : Int) - 128) * 64 + b3 - 128), .string (s.extract 0 4), .bool false]) (by simp [results, Try.results55, go_sem]) rfl ⟨rfl, by repeat (first | exact Below.refl _ _ | refine Below.setCell ?_ (by simp) _ | refine below_drewN ?_ _ | refine Below.alloc ?_ (by simp) _)⟩

set_option linter.unusedVariables false in
set_option maxHeartbeats 1000000 in
set_option maxRecDepth 100000 in
theorem next_p (s : ByteArray) (w : World) (h0 : 0 < s.size) (b0 : Nat) (e0 : (s[0]'h0).toNat = b0) (g : 240 ≤ b0 ∧ b0 < 248) (h1 : 1 < s.size) (b1 : Nat) (e1 : (s[1]'h1).toNat = b1) (r1 : 128 ≤ b1 ∧ b1 < 192) (m1 : moB (oc s) 1 = true) (h2 : 2 < s.size) (b2 : Nat) (e2 : (s[2]'h2).toNat = b2) (r2 : 128 ≤ b2 ∧ b2 < 192) (m2 : moB (oc s) 2 = true) (h3 : 3 < s.size) (b3 : Nat) (e3 : (s[3]'h3).toNat = b3) (r3 : 128 ≤ b3 ∧ b3 < 192) (m3 : moB (oc s) 3 = true) (hv : 1114111 < ((b0 : Int) - 240) * 262144 + ((b1 : Int) - 128) * 4096 + ((b2 : Int) - 128) * 64 + b3 - 128) :
    Calls Try.prog 55 #[.string s] w fun e w' => e = .returned (.agg #[.int .i64 (-1), .string (s.extract 0 1), .bool true]) ∧ Below w.heap.size w w' := by
  go_enter Try.func55, Try.ntmps55
  go_wp2_with (go_at_call 59; refine (more_any _ _ _ (by omega)).mono ?_; rintro e w' ⟨rfl, rfl⟩)
  go_quiet (fail)
  go_wp2
  exact bodyPost_ret (v := .agg #[.int .i64 (-1), .string (s.extract 0 1), .bool true]) (by simp [results, Try.results55, go_sem]) rfl ⟨rfl, by repeat (first | exact Below.refl _ _ | refine Below.setCell ?_ (by simp) _ | refine below_drewN ?_ _ | refine Below.alloc ?_ (by simp) _)⟩

set_option linter.unusedVariables false in
set_option maxHeartbeats 1000000 in
set_option maxRecDepth 100000 in
theorem next_q (s : ByteArray) (w : World) (h0 : 0 < s.size) (b0 : Nat) (e0 : (s[0]'h0).toNat = b0) (g : 128 ≤ b0 ∧ b0 < 192) :
    Calls Try.prog 55 #[.string s] w fun e w' => e = .returned (.agg #[.int .i64 (-1), .string (s.extract 0 1), .bool true]) ∧ Below w.heap.size w w' := by
  go_enter Try.func55, Try.ntmps55
  go_wp2_with (go_at_call 59; refine (more_any _ _ _ (by omega)).mono ?_; rintro e w' ⟨rfl, rfl⟩)
  exact bodyPost_ret (v := .agg #[.int .i64 (-1), .string (s.extract 0 1), .bool true]) (by simp [results, Try.results55, go_sem]) rfl ⟨rfl, by repeat (first | exact Below.refl _ _ | refine Below.setCell ?_ (by simp) _ | refine below_drewN ?_ _ | refine Below.alloc ?_ (by simp) _)⟩

set_option linter.unusedVariables false in
set_option maxHeartbeats 1000000 in
set_option maxRecDepth 100000 in
theorem next_r (s : ByteArray) (w : World) (h0 : 0 < s.size) (b0 : Nat) (e0 : (s[0]'h0).toNat = b0) (g : 248 ≤ b0 ∧ b0 < 256) :
    Calls Try.prog 55 #[.string s] w fun e w' => e = .returned (.agg #[.int .i64 (-1), .string (s.extract 0 1), .bool true]) ∧ Below w.heap.size w w' := by
  go_enter Try.func55, Try.ntmps55
  go_wp2_with (go_at_call 59; refine (more_any _ _ _ (by omega)).mono ?_; rintro e w' ⟨rfl, rfl⟩)
  exact bodyPost_ret (v := .agg #[.int .i64 (-1), .string (s.extract 0 1), .bool true]) (by simp [results, Try.results55, go_sem]) rfl ⟨rfl, by repeat (first | exact Below.refl _ _ | refine Below.setCell ?_ (by simp) _ | refine below_drewN ?_ _ | refine Below.alloc ?_ (by simp) _)⟩

end Go.Proofs.Ytpjghildhhpeeaa
