/-
  Walks: where a name stands, or would stand; the entry of a name.
-/
import Derived.Test.YtpjghildhhpeeaaEntryE
import Derived.Test.YtpjghildhhpeeaaSearch
namespace Go.Proofs.Ytpjghildhhpeeaa
open Go.RowKit

theorem enters_find1 : ∀ args w, (callFunc 39 args).run Try.prog w = .ok (.enter 39 args) w := enters_of Try.func39 (by kernel_rfl) rfl
theorem cmp_pos (q : Int) (h : q = -1 ∨ q = 0 ∨ q = 1) : decide (0 ≤ q) = decide (q ≠ -1) := by
  rcases h with rfl | rfl | rfl <;> rfl

set_option maxHeartbeats 2000000 in
set_option maxRecDepth 100000 in
theorem find1_any (A : Option Addr) (n c : Nat) (l : List Ent) (q : ByteArray) (b1 b2 : Nat) (k : Nat) (w : World) (hr : Rd w w.heap.size 3 A n (rowE l)) (hg : l.Pairwise ltE) (hk : k < n)
    (h1 : w.cell? ⟨b1, 0, none⟩ = some (.slice A n c)) (h2 : w.cell? ⟨b2, 0, none⟩ = some (.string q)) :
    Calls Try.prog 39 (#[.int .i64 k] ++ #[.pointer (some ⟨b1, 0, none⟩), .pointer (some ⟨b2, 0, none⟩)]) w fun e w' => e = .returned (.bool (decide (posE l (oc q) ≤ k))) ∧ Below w.heap.size w w' := by
  obtain ⟨g, o, x, rfl, hgl, hx, c0, _, _⟩ := ent_at hr hk
  have hp := pos_iff l (oc q) hg k x hx
  have hO : ∀ W, Calls Try.prog 34 #[.string (st x.1), .string q] W fun e w' => e = .returned (.int .i64 (cmpL x.1 (oc q))) ∧ W = w' := fun W => by have := Order_any (st x.1) q W; rw [oc_st] at this; exact this
  have hrng := cmpL_range x.1 (oc q)
  have hd : decide (posE l (oc q) ≤ k) = decide (0 ≤ cmpL x.1 (oc q)) := by rw [cmp_pos _ hrng]; exact decide_eq_decide.2 hp
  rw [hd]
  obtain ⟨z, hz⟩ : ∃ z, cmpL x.1 (oc q) = z := ⟨_, rfl⟩
  obtain ⟨s, hs⟩ : ∃ s, st x.1 = s := ⟨_, rfl⟩
  rw [hz] at hO ⊢
  rw [hs] at hO c0
  have i0 : (0 : Int) ≤ (k : Int) := Int.natCast_nonneg _
  have i1 : (k : Int) < (n : Int) := by omega
  have HO := Lib.hid hO
  clear hO hz hs hd hp hx hrng hr hg
  show Calls _ _ #[_, _, _] _ _
  go_enter Try.func39, Try.ntmps39
  go_wp2_with fail
  go_quiet ((go_at_call 34; exact Calls.quiet_of_same ((HO.out _).mono fun _ _ h => ⟨h.1, h.2.symm⟩)))
  go_wp2
  go_ret
  exact ⟨rfl, below_drewN (Below.refl _ _) _⟩

theorem has_pos_some (l : List Ent) (nm : List UInt8) (h : l.Pairwise ltE) (x : Ent) (hx : l[posE l nm]? = some x) : hasN l nm = decide (x.1 = nm) ∧ getN l nm = if x.1 = nm then some x else none := by
  have h1 := has_pos l nm h
  have h2 := get_pos l nm h
  rw [hx] at h1 h2
  exact ⟨h1, h2⟩
theorem has_pos_none (l : List Ent) (nm : List UInt8) (h : l.Pairwise ltE) (hx : l.length ≤ posE l nm) : hasN l nm = false := by
  have h1 := has_pos l nm h
  rw [List.getElem?_eq_none hx] at h1
  exact h1

set_option maxHeartbeats 2000000 in
set_option maxRecDepth 100000 in
theorem find_any (A : Option Addr) (n c : Nat) (l : List Ent) (q : ByteArray) (w : World) (hr : Rd w w.heap.size 3 A n (rowE l)) (hg : l.Pairwise ltE) (hn : n ≤ 1000000) :
    Calls Try.prog 23 #[.slice A n c, .string q] w fun e w' => e = .returned (.tuple #[.int .i64 (posE l (oc q)), .bool (hasN l (oc q))]) ∧ Below w.heap.size w w' := by
  have hln := rowV_count fE_len hr (by omega)
  obtain ⟨wx, hwx⟩ : ∃ wx, (w.alloc (.cells #[.slice A n c] 22)).alloc (.cells #[.string q] 9) = wx := ⟨_, rfl⟩
  have hbx : Below w.heap.size w wx := by rw [← hwx]; exact ((Below.refl _ _).alloc (Nat.le_refl _) _).alloc (base_alloc (Nat.le_refl _) _) _
  have hsx : w.heap.size + 1 < wx.heap.size := by rw [← hwx]; simp
  have x1 : wx.cell? ⟨w.heap.size, 0, none⟩ = some (.slice A n c) := by rw [← hwx, old_cell _ _ _ _ (by simp)]; exact new_cell w _ _ _ 0 rfl
  have x2 : wx.cell? ⟨w.heap.size + 1, 0, none⟩ = some (.string q) := by rw [← hwx]; exact new_cell _ _ _ _ 0 (by simp)
  have hpn : posE l (oc q) ≤ n := by rw [← hln]; exact posE_le l (oc q)
  have hS : Calls Try.prog 38 #[.int .i64 n, .func (.func 39) #[] #[.pointer (some ⟨w.heap.size, 0, none⟩), .pointer (some ⟨w.heap.size + 1, 0, none⟩)]] wx fun e w' => e = .returned (.int .i64 (posE l (oc q))) ∧ Below wx.heap.size wx w' :=
    Search_any n (posE l (oc q)) _ _ enters_find1 wx hn hpn fun W h hb hh =>
      find1_any A n c l q w.heap.size (w.heap.size + 1) h W (((hr.below hbx).more hbx.size).below hb |>.more hb.size) hg hh
        ((hb.cell (p := ⟨w.heap.size, 0, none⟩) (by show w.heap.size < _; omega)).trans x1) ((hb.cell (p := ⟨w.heap.size + 1, 0, none⟩) (by show w.heap.size + 1 < _; omega)).trans x2)
  have hdec : (posE l (oc q) < n ∧ ∃ x, l[posE l (oc q)]? = some x ∧ hasN l (oc q) = decide (x.1 = oc q)) ∨ (posE l (oc q) = n ∧ hasN l (oc q) = false) := by
    rcases Nat.lt_or_ge (posE l (oc q)) n with h | h
    · obtain ⟨x, hx⟩ : ∃ x, l[posE l (oc q)]? = some x := ⟨_, List.getElem?_eq_getElem (by omega)⟩
      exact .inl ⟨h, x, hx, (has_pos_some l (oc q) hg x hx).1⟩
    · exact .inr ⟨by omega, has_pos_none l (oc q) hg (by omega)⟩
  obtain ⟨pos, hpos⟩ : ∃ pos, posE l (oc q) = pos := ⟨_, rfl⟩
  obtain ⟨has, hhas⟩ : ∃ has, hasN l (oc q) = has := ⟨_, rfl⟩
  rw [hpos] at hS hdec hpn ⊢
  rw [hhas] at hdec ⊢
  have HR := Lib.hid hr
  have HWX := Lib.hid hwx
  have HS := Lib.hid hS
  clear hr hln hwx hS hpos hhas hg
  rcases hdec with ⟨hlt, x, hx, hh⟩ | ⟨he, hh⟩
  · have hne := name_eq (st x.1) q x.1 (oc q) (oc_st _) rfl
    obtain ⟨s, hs⟩ : ∃ s, st x.1 = s := ⟨_, rfl⟩
    rw [hs, ← hh] at hne
    have HX := Lib.hid hx
    have HSS := Lib.hid hs
    have HH := Lib.hid hh
    have hd : decide (pos < n) = true := decide_eq_true hlt
    have i0 : (0 : Int) ≤ (pos : Int) := Int.natCast_nonneg _
    have i1 : (pos : Int) < (n : Int) := by omega
    clear hx hs hh
    go_enter Try.func23, Try.ntmps23
    go_wp2_with fail
    rw [HWX.out]
    refine HS.out.mono ?_
    rintro e w1 ⟨rfl, h1⟩
    have y1 : w1.cell? ⟨w.heap.size, 0, none⟩ = some (.slice A n c) := (h1.cell (p := ⟨_, 0, none⟩) (by show w.heap.size < _; omega)).trans x1
    have y2 : w1.cell? ⟨w.heap.size + 1, 0, none⟩ = some (.string q) := (h1.cell (p := ⟨_, 0, none⟩) (by show w.heap.size + 1 < _; omega)).trans x2
    have hb1 := hbx.trans (h1.mono hbx.size)
    obtain ⟨g, o, x', hA, hgl, hx', c0, _, _⟩ := ent_at (HR.out.below hb1) hlt
    rw [HX.out] at hx'
    cases hx'
    rw [HSS.out] at c0
    subst hA
    clear x1 x2
    go_wp2_with fail
    go_quiet (fail)
    go_wp2
    go_ret2
    refine ⟨?_, below_drewN hb1 _⟩
    first | rfl | (rw [← hne])
  · have hd : decide (pos < n) = false := decide_eq_false (by omega)
    have hge : n ≤ pos := by omega
    subst hh
    clear he
    go_enter Try.func23, Try.ntmps23
    go_wp2_with fail
    rw [HWX.out]
    refine HS.out.mono ?_
    rintro e w1 ⟨rfl, h1⟩
    have y1 : w1.cell? ⟨w.heap.size, 0, none⟩ = some (.slice A n c) := (h1.cell (p := ⟨_, 0, none⟩) (by show w.heap.size < _; omega)).trans x1
    have y2 : w1.cell? ⟨w.heap.size + 1, 0, none⟩ = some (.string q) := (h1.cell (p := ⟨_, 0, none⟩) (by show w.heap.size + 1 < _; omega)).trans x2
    have hb1 := hbx.trans (h1.mono hbx.size)
    clear x1 x2
    go_wp2_with fail
    go_quiet (fail)
    go_wp2
    go_ret2
    exact ⟨rfl, below_drewN hb1 _⟩
end Go.Proofs.Ytpjghildhhpeeaa
