/-
  Walk: entries' octets, by the program.
-/
import Derived.Test.YtpjghildhhpeeaaEntryC
import Derived.Test.YtpjghildhhpeeaaEntryP
import Derived.Test.YtpjghildhhpeeaaPack
import Derived.Test.YtpjghildhhpeeaaAppStr
import Derived.Deep.RegionHeld3
import Derived.Deep.DrawnRows
import Derived.Deep.AppendLies
namespace Go.Proofs.Ytpjghildhhpeeaa
open Go.RowKit
attribute [local go_sem ↓] Go.wp_at_zero Go.wp_at_succ

theorem own_block_ne' {w : World} {base n sz : Nat} {e : TypeId} {v : Value} {xs : List Value} (h : w.ownsRow base e sz v n xs) : v.ownBlock ≠ some w.heap.size := fun hv => by
  have := h.lt _ hv
  omega
theorem row_ne {v : Value} {g H x n c : Nat} (h : v.ownBlock = some g ∨ g = H) (hne : v.ownBlock ≠ some x) (hx : x < H) : (Value.slice (some ⟨g, 0, none⟩) n c).ownBlock ≠ some x := by
  intro e
  have e : g = x := by simpa [Value.ownBlock] using e
  rcases h with h | h
  · exact hne (by rw [h, e])
  · omega
theorem pack_three (a t n : Nat) (ha : a < 256) (ht : t < 256) (hn : n < 256) : packL [(1, a), (1, t), (1, n)] = [UInt8.ofNat a, UInt8.ofNat t, UInt8.ofNat n] := by
  simp [packL, octN, byteN, List.range_succ, Nat.mod_eq_of_lt ha, Nat.mod_eq_of_lt ht, Nat.mod_eq_of_lt hn]

set_option maxHeartbeats 8000000 in
set_option maxRecDepth 100000 in
theorem Encode_any (A : Option Addr) (n c : Nat) (l : List Ent) (w : World) (hr : Rd w w.heap.size 3 A n (rowE l)) (hn : n ≤ 100000) (hsz : ∀ x ∈ l, x.1.length ≤ 1000000) :
    Calls Try.prog 18 #[.slice A n c] w fun e w' => (∃ v, e = .returned (.tuple #[v, .int .i64 (codeE l).2]) ∧ w'.ownsRow w.heap.size 5 1 v (codeE l).1.length (octV (codeE l).1)) ∧ Below w.heap.size w w' := by
  obtain ⟨i0, hi, hz0, hz1, hz2⟩ := info_parts Try.info5
  have hln := rowV_count fE_len hr (by omega)
  have hM := May_any A n c l w hr (by omega) hsz
  have HR := Lib.hid hr
  have HL := Lib.hid hln
  unfold codeE
  cases hm : mayL l with
  | false =>
    rw [hm] at hM
    rw [if_neg (by simp)]
    have HM := Lib.hid hM
    have HO : ∀ W : World, Hid (W.ownsRow w.heap.size 5 1 (.slice none 0 0) 0 (octV [])) := fun W => Lib.hid ⟨rfl, .inl ⟨rfl, rfl⟩⟩
    clear hM hm hr hsz hln
    go_enter Try.func18, Try.ntmps18
    go_wp2_with fail
    refine HM.out.mono ?_
    rintro e w1 ⟨rfl, h1⟩
    go_wp2
    go_ret2
    exact ⟨⟨_, rfl, (HO _).out⟩, h1⟩
  | true =>
    rw [hm] at hM
    rw [if_pos rfl]
    have hok := ((mayL_iff l).1 hm).1.1
    have hn30 : n ≤ 30 := by rw [← hln]; exact ((mayL_iff l).1 hm).2
    have HOK := Lib.hid hok
    have HM := Lib.hid hM
    clear hM hm hr hsz hln hok hn
    go_enter Try.func18, Try.ntmps18
    go_wp2_with fail
    refine HM.out.mono ?_
    rintro e w1 ⟨rfl, h1⟩
    go_wp2
    go_loopw [4, 14] (fun v i wr => ∃ k : Nat, k ≤ n ∧ i = .int .i64 k ∧ wr.ownsRow w.heap.size 5 1 v (encE (l.take k)).length (octV (encE (l.take k))) ∧ (encE (l.take k)).length ≤ 27 * k ∧ Below w.heap.size w wr) (fun _ i _ => n - (intOf i).toNat)
    case atStart => exact ⟨0, Nat.zero_le _, rfl, ⟨rfl, .inl ⟨rfl, rfl⟩⟩, by simp [encE], h1⟩
    case round =>
      obtain ⟨k, hk, rfl, hown, hlen, hbw⟩ := hrel
      by_cases hlt : k < n
      · obtain ⟨g, o, x, rfl, hg, hx, c0, c1, c2⟩ := ent_at (HR.out.below hbw) hlt
        obtain ⟨e1, e2, e3, e4, e5⟩ := okE_bounds x (HOK.out x (List.mem_iff_getElem?.2 ⟨k, hx⟩))
        have hsn : encE (l.take (k + 1)) = encE (l.take k) ++ encB x := by rw [take_snoc l k x hx, encE_snoc]
        obtain ⟨nm, ino, ty⟩ := x
        simp only at c0 c1 c2 e1 e2 e3 e4 e5
        obtain ⟨a, rfl⟩ := Int.eq_ofNat_of_zero_le (show 0 ≤ ino by omega)
        obtain ⟨t, rfl⟩ := Int.eq_ofNat_of_zero_le (show 0 ≤ ty by omega)
        obtain ⟨s, hs⟩ : ∃ s, st nm = s := ⟨_, rfl⟩
        have hos : oc s = nm := by rw [← hs, oc_st]
        have hss : s.size = nm.length := by rw [← hs, st_size]
        rw [hs] at c0
        have hs24 : s.size ≤ 24 := by omega
        have ha39 : a ≤ 39 := by omega
        have ht2 : t ≤ 2 := by omega
        have hlb : (encB (nm, (a : Int), (t : Int))).length = 3 + s.size := by rw [hss]; unfold encB; simp; omega
        have heq : encB (nm, (a : Int), (t : Int)) = packL [(1, a), (1, t), (1, s.size)] ++ oc s := by
          rw [pack_three a t s.size (by omega) (by omega) (by omega), hos, hss]; rfl
        obtain ⟨L, hL⟩ : ∃ L, encE (l.take k) = L := ⟨_, rfl⟩
        rw [hL] at hsn hown hlen
        rw [heq] at hsn
        obtain ⟨p, hp⟩ : ∃ p, L.length = p := ⟨_, rfl⟩
        rw [hp] at hown hlen
        have HSN := Lib.hid hsn
        have HP := Lib.hid hp
        have HLB := Lib.hid (show (packL [(1, a), (1, t), (1, s.size)]).length = 3 by rw [pack_three a t s.size (by omega) (by omega) (by omega)]; rfl)
        obtain ⟨wx, hwx⟩ : ∃ wx, (wr.alloc (.cells #[.string s, .int .i64 a, .int .i64 t] 24)).alloc (.cells #[.int .i64 1, .int .u64 a, .int .i64 1, .int .u64 t, .int .i64 1, .int .u64 s.size] 62) = wx := ⟨_, rfl⟩
        have hbx : Below w.heap.size w wx := by rw [← hwx]; exact (hbw.alloc hbw.size _).alloc (base_alloc hbw.size _) _
        have hsx : wr.heap.size + 1 < wx.heap.size := by rw [← hwx]; simp
        have hxx : Below wr.heap.size wr wx := by rw [← hwx]; exact ((Below.refl _ _).alloc (Nat.le_refl _) _).alloc (base_alloc (Nat.le_refl _) _) _
        have hB1 : Blk wx wr.heap.size 24 (0, 0) #[.string s, .int .i64 a, .int .i64 t] := by rw [← hwx]; exact (Blk.new wr _ _ _).alloc _
        have hB2 : Blk wx (wr.heap.size + 1) 62 (0, 0) #[.int .i64 1, .int .u64 a, .int .i64 1, .int .u64 t, .int .i64 1, .int .u64 s.size] := by
          rw [← hwx]
          have := Blk.new (wr.alloc (.cells #[.string s, .int .i64 a, .int .i64 t] 24)) 62 (0, 0) #[.int .i64 1, .int .u64 a, .int .i64 1, .int .u64 t, .int .i64 1, .int .u64 s.size]
          simpa using this
        have hrn : Rd wx wx.heap.size 2 (some ⟨wr.heap.size + 1, 0, none⟩) 3 (rowN [(1, a), (1, t), (1, s.size)]) := by
          refine ⟨rfl, fun _ => ⟨_, _, rfl, hsx, fun j u hu => ?_⟩⟩
          rw [Nat.zero_add, hB2.cell, ← Array.getElem?_toList]
          exact hu
        have hP := Pack_ok (some ⟨wr.heap.size + 1, 0, none⟩) 3 3 [(1, a), (1, t), (1, s.size)] wx hrn (by omega) (by
          intro y hy
          simp only [List.mem_cons, List.not_mem_nil, or_false] at hy
          rcases hy with rfl | rfl | rfl <;> exact ⟨by show 1 ≤ 1; omega, by show 1 ≤ 8; omega, by show _ < 256 ^ 1; omega⟩)
        have HPK := Lib.hid hP
        have HWX := Lib.hid hwx
        have HB1 := Lib.hid hB1
        have HOX := Lib.hid (own_later hown hxx)
        have HNE := Lib.hid (own_block_ne' hown)
        clear hown hsn hp hL hx hs hos hss hlb heq hwx hB1 hB2 hrn hP e1 e2 e3 e4 e5
        go_wp2_with fail
        rw [HWX.out]
        refine HPK.out.mono ?_
        rintro e w2 ⟨⟨v2, rfl, o2⟩, h2⟩
        rw [HLB.out] at o2
        obtain ⟨g2, c2', rfl, hB⟩ := own_pos o2 (by omega)
        have HO2 := Lib.hid (own_later HOX.out h2)
        have HX2 := Lib.hid (HB1.out.below h2 (by omega))
        have HN2 := Lib.hid (rd_cells hB.rd)
        have hb2 := hbx.trans (h2.mono hbx.size)
        have hl2 : wr.heap.size < w2.heap.size := by have := h2.size; omega
        have HL2 : Hid ((octV (packL [(1, a), (1, t), (1, s.size)])).length = 3 * 1) := Lib.hid (by rw [octV_len, HLB.out])
        clear o2 hB
        go_wp2_with fail
        go_region_held3 (fun w' => w'.cell? ⟨wr.heap.size, 0, none⟩ = some (.string s))
          (first
            | exact ((HX2.out.grown (w := w2.drew) hgrowA HNE.out).grown hgrowB (row_ne hatA HNE.out hl2)).cell 0
            | exact (HX2.out.grown (w := w2.drew) hgrowA HNE.out).cell 0
            | exact HX2.out.cell 0)
          ((first
            | (refine step_append_lies _ (by rfl) (.tmp 36) (.tmp 37) 42 (by rfl) w.heap.size 5 i0 _ 1 1 Try.underlying42 hi hz0 hz1 hz2 rfl (by omega) u4 p (octV L) (by rfl) (HO2.out.drew) ⟨g2, 0, none⟩ 3 c2' (octV (packL [(1, a), (1, t), (1, s.size)])) (by rfl) HL2.out HN2.out (octV_one _) (by omega) (by unfold maxLen; omega) (by omega) (by have := hb2.size; simp; omega) w2.heap.size (by simp) ?_; intro gA capA wA hownA hgrowA hatA hltA)
            | (refine step_append_text _ (by rfl) (.tmp 38) (.tmp 40) 42 9 (by rfl) w.heap.size 5 i0 Try.underlying42 Try.underlying9 hi hz0 hz1 hz2 (.slice (some ⟨gA, 0, none⟩) (p + 3) capA) (p + 3) _ (by rfl) hownA s (by rfl) (by unfold maxLen; omega) (by omega) (by have := hb2.size; have := hgrowA.size; simp at this; omega) ?_; intro vB wB hownB hgrowB)))
        have hbA : Below w.heap.size w wA := (show Below w.heap.size w w2.drew from ⟨hb2.os, hb2.tape, hb2.output, hb2.size, hb2.block⟩).grown hgrowA (by have := hb2.size; simp; omega) (fun k hk => (HO2.out.lt k hk).1)
        have hbB : Below w.heap.size w wB := hbA.grown hgrowB hbA.size (fun k hk => (hownA.lt k hk).1)
        have HO : Hid (wB.ownsRow w.heap.size 5 1 vB (encE (l.take (k + 1))).length (octV (encE (l.take (k + 1))))) := Lib.hid (by
          rw [HSN.out, List.length_append, List.length_append, HP.out, HLB.out, oc_len, octV_append, octV_append, ← List.append_assoc, ← Nat.add_assoc]
          exact hownB)
        have hlen2 : (encE (l.take (k + 1))).length ≤ 27 * (k + 1) := by
          rw [HSN.out, List.length_append, List.length_append, HP.out, HLB.out, oc_len]; omega
        clear hownA hownB hgrowA hgrowB hatA
        go_wp2
        go_roundw
        case rel => exact ⟨k + 1, by omega, by go_num, HO.out, hlen2, hbB⟩
        case measure => simp [intOf]; omega
      · obtain rfl : k = n := by omega
        rw [List.take_of_length_le (by rw [HL.out]; exact Nat.le_refl _)] at hown
        have HO := Lib.hid hown
        clear hown hlen
        go_wp2
        go_ret2
        exact ⟨⟨_, rfl, HO.out⟩, hbw⟩
end Go.Proofs.Ytpjghildhhpeeaa
