/-
  Walks: octets compared; the document's octets of entries.
-/
import Derived.Test.YtpjghildhhpeeaaEntryK
import Derived.Deep.RegionHeldLaw
namespace Go.Proofs.Ytpjghildhhpeeaa
open Go.RowKit
set_option linter.unusedVariables false

set_option maxHeartbeats 1000000 in
theorem Equal_any (A A' : Option Addr) (n c n' c' B B' : Nat) (l m : List UInt8) (w : World) (hr : Rd w B 1 A n (octV l)) (hr' : Rd w B' 1 A' n' (octV m)) :
    Calls Try.prog 37 #[.slice A n c, .slice A' n' c'] w fun e w' => e = .returned (.bool (decide (l = m))) ∧ w = w' := by
  have h1 := conv_bytes w 42 9 5 (c := c) Try.underlying42 Try.underlying5 Try.underlying9 hr
  have h2 := conv_bytes w 42 9 5 (c := c') Try.underlying42 Try.underlying5 Try.underlying9 hr'
  have hne := name_eq ⟨l.toArray⟩ ⟨m.toArray⟩ l m (by simp [oc]) (by simp [oc])
  obtain ⟨s, hs⟩ : ∃ s : ByteArray, (⟨l.toArray⟩ : ByteArray) = s := ⟨_, rfl⟩
  obtain ⟨q, hq⟩ : ∃ q : ByteArray, (⟨m.toArray⟩ : ByteArray) = q := ⟨_, rfl⟩
  obtain ⟨d, hd⟩ : ∃ d, decide (l = m) = d := ⟨_, rfl⟩
  rw [hs] at h1 hne
  rw [hq] at h2 hne
  rw [hd] at hne ⊢
  clear hs hq hd hr hr'
  go_enter Try.func37, Try.ntmps37
  go_wp2
  go_ret
  exact ⟨by first | rfl | exact ret_bool hne, rfl⟩

set_option maxHeartbeats 4000000 in
set_option maxRecDepth 100000 in
theorem rEncode_any (A : Option Addr) (n c : Nat) (l : List Ent) (w : World) (hr : Rd w w.heap.size 3 A n (rowE l)) (hm : mayL l = true) :
    Calls Try.prog 22 #[.slice A n c] w fun e w' => e = .returned (.string (st (encE l))) ∧ Below w.heap.size w w' := by
  have hln := rowV_count fE_len hr (by omega)
  have hok := ((mayL_iff l).1 hm).1.1
  have hn30 : n ≤ 30 := by rw [← hln]; exact ((mayL_iff l).1 hm).2
  have HOK := Lib.hid hok
  have HR := Lib.hid hr
  have HL := Lib.hid hln
  clear hr hm hln hok
  go_enter Try.func22, Try.ntmps22
  go_wp2
  go_loopw [3, 4] (fun v i wr => ∃ k : Nat, k ≤ n ∧ i = .int .i64 k ∧ v = .string (st (encE (l.take k))) ∧ (encE (l.take k)).length ≤ 27 * k ∧ Below w.heap.size w wr) (fun _ i _ => n - (intOf i).toNat)
  case atStart => exact ⟨0, Nat.zero_le _, rfl, rfl, by simp [encE], Below.refl _ _⟩
  case round =>
    obtain ⟨k, hk, rfl, rfl, hlen, hbw⟩ := hrel
    by_cases hlt : k < n
    · obtain ⟨g, o, x, rfl, hg, hx, c0, c1, c2⟩ := ent_at (HR.out.below hbw) hlt
      obtain ⟨e1, e2, e3, e4, e5⟩ := okE_bounds x (HOK.out x (List.mem_iff_getElem?.2 ⟨k, hx⟩))
      have hsn : encE (l.take (k + 1)) = encE (l.take k) ++ encB x := by rw [take_snoc l k x hx, encE_snoc]
      obtain ⟨nm, ino, ty⟩ := x
      simp only at c0 c1 c2 e1 e2 e3 e4 e5
      obtain ⟨a, rfl⟩ := Int.eq_ofNat_of_zero_le (show 0 ≤ ino by omega)
      obtain ⟨t, rfl⟩ := Int.eq_ofNat_of_zero_le (show 0 ≤ ty by omega)
      obtain ⟨s, hs⟩ : ∃ s, st nm = s := ⟨_, rfl⟩
      have hos : oc s = nm := by rw [← hs, oc_st]
      have hss : s.size = nm.length := by rw [← hs, st_size]
      rw [hs] at c0
      have hs24 : s.size ≤ 24 := by omega
      have ha39 : a ≤ 39 := by omega
      have ht2 : t ≤ 2 := by omega
      have hlb : (encB (nm, (a : Int), (t : Int))).length = 3 + s.size := by rw [hss]; unfold encB; simp; omega
      obtain ⟨b3, hb3⟩ : ∃ b3, st [UInt8.ofNat a, UInt8.ofNat t, UInt8.ofNat s.size] = b3 := ⟨_, rfl⟩
      have hst : st (encE (l.take k)) ++ (b3 ++ s) = st (encE (l.take (k + 1))) := by
        rw [hsn, st_append, ← hb3, ← hs, ← st_append]
        unfold encB
        rw [hs, hss]
        rfl
      have hbs3 : b3.size = 3 := by rw [← hb3, st_size]; rfl
      have hcv : ∀ W : World, (convert 42 9 (.slice (some ⟨W.heap.size, 0, none⟩) 3 3)).run Try.prog (W.alloc (.cells #[.int .u8 a, .int .u8 t, .int .u8 s.size] 5)) = .ok (.string b3) (W.alloc (.cells #[.int .u8 a, .int .u8 t, .int .u8 s.size] 5)) := fun W => by
        have hB := Blk.new W 5 (0, 0) #[.int .u8 a, .int .u8 t, .int .u8 s.size]
        have hrd : Rd (W.alloc (.cells #[.int .u8 a, .int .u8 t, .int .u8 s.size] 5)) (W.heap.size + 1) 1 (some ⟨W.heap.size, 0, none⟩) 3 (octV [UInt8.ofNat a, UInt8.ofNat t, UInt8.ofNat s.size]) := by
          refine ⟨rfl, fun _ => ⟨_, _, rfl, by omega, fun j u hu => ?_⟩⟩
          rw [Nat.zero_add, hB.cell, ← Array.getElem?_toList]
          have h1 := u8_nat a (by omega)
          have h2 := u8_nat t (by omega)
          have h3 := u8_nat s.size (by omega)
          simp only [octV, List.map_cons, List.map_nil, h1, h2, h3] at hu
          exact hu
        rw [← hb3]
        exact conv_bytes _ 42 9 5 Try.underlying42 Try.underlying5 Try.underlying9 hrd
      have hlen2 : (encE (l.take (k + 1))).length ≤ 27 * (k + 1) := by rw [hsn, List.length_append, hlb]; omega
      obtain ⟨acc, hacc⟩ : ∃ acc, st (encE (l.take k)) = acc := ⟨_, rfl⟩
      have hac : acc.size ≤ 810 := by rw [← hacc, st_size]; omega
      rw [hacc] at hst ⊢
      have HST := Lib.hid hst
      have i0 : (0 : Int) ≤ (k : Int) := Int.natCast_nonneg _
      have i1 : (k : Int) < (n : Int) := by omega
      have hcv1 := hcv wr.drew
      have hcv2 : (convert 42 9 (.slice (some ⟨wr.heap.size, 0, none⟩) 3 3)).run Try.prog (wr.alloc (.cells #[.int .u8 a, .int .u8 t, .int .u8 s.size] 5)).drew = .ok (.string b3) (wr.alloc (.cells #[.int .u8 a, .int .u8 t, .int .u8 s.size] 5)).drew := hcv1
      have hwa : IntKind.u8.wrap (a : Int) = a := IntWalk.u8_in _ ⟨by omega, by omega⟩
      have hwt : IntKind.u8.wrap (t : Int) = t := IntWalk.u8_in _ ⟨by omega, by omega⟩
      have hwl : IntKind.u8.wrap (s.size : Int) = s.size := IntWalk.u8_in _ ⟨by omega, by omega⟩
      clear hsn hx hs hos hss hlb hb3 hst hacc hcv hcv1 e1 e2 e3 e4 e5
      have HBS := Lib.hid hbs3
      have hb3l : b3.size ≤ 3 := by omega
      clear hbs3
      go_wp2_with fail
      go_region_held_law (fun w' => w'.cell? ⟨g, o + k * 3, none⟩ = some (.string s) ∧ w'.cell? ⟨g, o + k * 3 + 1, none⟩ = some (.int .i64 a) ∧ w'.cell? ⟨g, o + k * 3 + 2, none⟩ = some (.int .i64 t))
        (go_keep) (fail)
      rw [HST.out]
      go_wp2
      go_roundw
      case rel =>
        refine ⟨k + 1, by omega, by go_num, rfl, hlen2, ?_⟩
        first
          | exact below_drewN (hbw.alloc hbw.size _) _
          | exact below_drewN ((below_drewN hbw _).alloc (below_drewN hbw _).size _) _
          | (trace_state; fail)
      case measure => simp [intOf]; omega
    · obtain rfl : k = n := by omega
      have hl := HL.out
      rw [List.take_of_length_le (by omega)] at *
      go_wp2
      go_ret
      exact ⟨rfl, hbw⟩
end Go.Proofs.Ytpjghildhhpeeaa
