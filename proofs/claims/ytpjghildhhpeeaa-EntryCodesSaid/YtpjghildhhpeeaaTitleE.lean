/-
  Walks: the reference's list of runes.
-/
import Derived.Test.YtpjghildhhpeeaaMem
import Derived.Test.YtpjghildhhpeeaaTitleD
namespace Go.Proofs.Ytpjghildhhpeeaa
open Go.RowKit

theorem oc_get (s : ByteArray) (k : Nat) (h : k < s.size) : bt (oc s) k = (s[k]'h).toNat := (byte_oc s k h).symm

/-- The reference's 'next': the first rune. -/
theorem next_any (s : ByteArray) (w : World) (h : 0 < s.size) :
    Calls Try.prog 55 #[.string s] w fun e w' => e = .returned (.agg #[.int .i64 (dec (oc s)).1, .string (s.extract 0 (dec (oc s)).2.1), .bool (dec (oc s)).2.2]) ∧ Below w.heap.size w w' := by
  have hd : dec (oc s) = decN s.size (bt (oc s) 0) (bt (oc s) 1) (bt (oc s) 2) (bt (oc s) 3) := by unfold dec; rw [oc_len]
  have b0 := bt_lt (oc s) 0
  have e0 := byte_oc s 0 h
  have mm : ∀ k, (moB (oc s) k = true ↔ (k < s.size ∧ 128 ≤ bt (oc s) k ∧ bt (oc s) k < 192)) ∧ (moB (oc s) k = false ↔ ¬ (k < s.size ∧ 128 ≤ bt (oc s) k ∧ bt (oc s) k < 192)) := fun k => by
    have := moB_iff (oc s) k; rwa [oc_len] at this
  generalize hx0 : bt (oc s) 0 = x0 at *
  generalize hx1 : bt (oc s) 1 = x1 at *
  generalize hx2 : bt (oc s) 2 = x2 at *
  generalize hx3 : bt (oc s) 3 = x3 at *
  rw [hd]
  by_cases c0 : x0 < 128
  · have e : decN s.size x0 x1 x2 x3 = ((x0 : Int), 1, false) := by unfold decN; rw [if_pos c0]
    rw [e]; exact next_a s w h x0 e0 c0
  by_cases c1 : x0 < 192
  · have e : decN s.size x0 x1 x2 x3 = (-1, 1, true) := by unfold decN; rw [if_neg c0, if_neg (by omega), if_neg (by omega), if_neg (by omega)]
    rw [e]; exact next_q s w h x0 e0 ⟨by omega, c1⟩
  by_cases c8 : 248 ≤ x0
  · have e : decN s.size x0 x1 x2 x3 = (-1, 1, true) := by unfold decN; rw [if_neg c0, if_neg (by omega), if_neg (by omega), if_neg (by omega)]
    rw [e]; exact next_r s w h x0 e0 ⟨c8, by omega⟩
  have q1 := mm 1; have q2 := mm 2; have q3 := mm 3
  rw [hx1] at q1; rw [hx2] at q2; rw [hx3] at q3
  by_cases t1 : 1 < s.size ∧ 128 ≤ x1 ∧ x1 < 192
  · obtain ⟨l1, r1⟩ := t1
    have e1 := byte_oc s 1 l1
    rw [hx1] at e1
    have m1 := q1.1.2 ⟨l1, r1⟩
    by_cases c2 : x0 < 224
    · by_cases v : 128 ≤ ((x0 : Int) - 192) * 64 + x1 - 128
      · have e : decN s.size x0 x1 x2 x3 = (((x0 : Int) - 192) * 64 + x1 - 128, 2, false) := by unfold decN; rw [if_neg c0, if_pos (by omega), if_pos v]
        rw [e]; exact next_b s w h x0 e0 (by omega) l1 x1 e1 r1 m1 v
      · have e : decN s.size x0 x1 x2 x3 = (-1, 1, true) := by unfold decN; rw [if_neg c0, if_pos (by omega), if_neg v]
        rw [e]; exact next_c s w h x0 e0 (by omega) l1 x1 e1 r1 m1 (by omega)
    by_cases t2 : 2 < s.size ∧ 128 ≤ x2 ∧ x2 < 192
    · obtain ⟨l2, r2⟩ := t2
      have e2 := byte_oc s 2 l2
      rw [hx2] at e2
      have m2 := q2.1.2 ⟨l2, r2⟩
      by_cases c3 : x0 < 240
      · by_cases v : 2048 ≤ ((x0 : Int) - 224) * 4096 + ((x1 : Int) - 128) * 64 + x2 - 128
        · by_cases u : ((x0 : Int) - 224) * 4096 + ((x1 : Int) - 128) * 64 + x2 - 128 < 55296
          · have e : decN s.size x0 x1 x2 x3 = (((x0 : Int) - 224) * 4096 + ((x1 : Int) - 128) * 64 + x2 - 128, 3, false) := by unfold decN; rw [if_neg c0, if_neg (by omega), if_pos (by omega), if_pos (by omega)]
            rw [e]; exact next_h s w h x0 e0 (by omega) l1 x1 e1 r1 m1 l2 x2 e2 r2 m2 v u
          by_cases u' : 57343 < ((x0 : Int) - 224) * 4096 + ((x1 : Int) - 128) * 64 + x2 - 128
          · have e : decN s.size x0 x1 x2 x3 = (((x0 : Int) - 224) * 4096 + ((x1 : Int) - 128) * 64 + x2 - 128, 3, false) := by unfold decN; rw [if_neg c0, if_neg (by omega), if_pos (by omega), if_pos (by omega)]
            rw [e]; exact next_i s w h x0 e0 (by omega) l1 x1 e1 r1 m1 l2 x2 e2 r2 m2 u'
          · have e : decN s.size x0 x1 x2 x3 = (-1, 1, true) := by unfold decN; rw [if_neg c0, if_neg (by omega), if_pos (by omega), if_neg (by omega)]
            rw [e]; exact next_j s w h x0 e0 (by omega) l1 x1 e1 r1 m1 l2 x2 e2 r2 m2 (by omega) (by omega)
        · have e : decN s.size x0 x1 x2 x3 = (-1, 1, true) := by unfold decN; rw [if_neg c0, if_neg (by omega), if_pos (by omega), if_neg (by omega)]
          rw [e]; exact next_g s w h x0 e0 (by omega) l1 x1 e1 r1 m1 l2 x2 e2 r2 m2 (by omega)
      by_cases t3 : 3 < s.size ∧ 128 ≤ x3 ∧ x3 < 192
      · obtain ⟨l3, r3⟩ := t3
        have e3 := byte_oc s 3 l3
        rw [hx3] at e3
        have m3 := q3.1.2 ⟨l3, r3⟩
        by_cases v : 65536 ≤ ((x0 : Int) - 240) * 262144 + ((x1 : Int) - 128) * 4096 + ((x2 : Int) - 128) * 64 + x3 - 128
        · by_cases u : ((x0 : Int) - 240) * 262144 + ((x1 : Int) - 128) * 4096 + ((x2 : Int) - 128) * 64 + x3 - 128 ≤ 1114111
          · have e : decN s.size x0 x1 x2 x3 = (((x0 : Int) - 240) * 262144 + ((x1 : Int) - 128) * 4096 + ((x2 : Int) - 128) * 64 + x3 - 128, 4, false) := by unfold decN; rw [if_neg c0, if_neg (by omega), if_neg (by omega), if_pos (by omega), if_pos (by omega)]
            rw [e]; exact next_o s w h x0 e0 (by omega) l1 x1 e1 r1 m1 l2 x2 e2 r2 m2 l3 x3 e3 r3 m3 v u
          · have e : decN s.size x0 x1 x2 x3 = (-1, 1, true) := by unfold decN; rw [if_neg c0, if_neg (by omega), if_neg (by omega), if_pos (by omega), if_neg (by omega)]
            rw [e]; exact next_p s w h x0 e0 (by omega) l1 x1 e1 r1 m1 l2 x2 e2 r2 m2 l3 x3 e3 r3 m3 (by omega)
        · have e : decN s.size x0 x1 x2 x3 = (-1, 1, true) := by unfold decN; rw [if_neg c0, if_neg (by omega), if_neg (by omega), if_pos (by omega), if_neg (by omega)]
          rw [e]; exact next_n s w h x0 e0 (by omega) l1 x1 e1 r1 m1 l2 x2 e2 r2 m2 l3 x3 e3 r3 m3 (by omega)
      · have e : decN s.size x0 x1 x2 x3 = (-1, 1, true) := by unfold decN; rw [if_neg c0, if_neg (by omega), if_neg (by omega), if_neg (by omega)]
        rw [e]; exact next_m s w h x0 e0 (by omega) l1 x1 e1 r1 m1 l2 x2 e2 r2 m2 (q3.2.2 t3)
    · have e : decN s.size x0 x1 x2 x3 = (-1, 1, true) := by unfold decN; rw [if_neg c0, if_neg (by omega), if_neg (by omega), if_neg (by omega)]
      rw [e]
      by_cases c3 : x0 < 240
      · exact next_f s w h x0 e0 (by omega) l1 x1 e1 r1 m1 (q2.2.2 t2)
      · exact next_l s w h x0 e0 (by omega) l1 x1 e1 r1 m1 (q2.2.2 t2)
  · have e : decN s.size x0 x1 x2 x3 = (-1, 1, true) := by unfold decN; rw [if_neg c0, if_neg (by omega), if_neg (by omega), if_neg (by omega)]
    rw [e]
    have m1 := q1.2.2 t1
    by_cases c2 : x0 < 224
    · exact next_d s w h x0 e0 (by omega) m1
    by_cases c3 : x0 < 240
    · exact next_e s w h x0 e0 (by omega) m1
    · exact next_k s w h x0 e0 (by omega) m1

def cellsR (l : List Rn) : List Value := l.flatMap fun r => [.int .i64 r.v, .string (st r.o), .bool r.odd]
theorem cellsR_snoc (l : List Rn) (r : Rn) : cellsR (l ++ [r]) = cellsR l ++ [.int .i64 r.v, .string (st r.o), .bool r.odd] := by simp [cellsR]
theorem cellsR_len (l : List Rn) : (cellsR l).length = l.length * 3 := by
  induction l with
  | nil => rfl
  | cons r l ih => simp only [cellsR, List.flatMap_cons, List.length_append, List.length_cons, List.length_nil] at ih ⊢; omega

theorem first_string (s : ByteArray) : s.extract 0 (dec (oc s)).2.1 = st (firstR (oc s)).o := oc_inj (by rw [oc_extract, oc_st]; simp [firstR])

theorem Try.info77 : (Try.prog.info? 77).map (fun i => (i.zero, i.size, i.bytes)) = some (some (.agg #[.int .i64 0, .string ⟨#[]⟩, .bool false]), 3, 32) := by kernel_rfl

theorem runes_len_le (l : List UInt8) : (runes l).length ≤ l.length := by
  induction l using runes_ind with
  | h0 => simp [runes_nil]
  | h1 l hl ih =>
    have hw := dec_width l
    have := hw.2.2 hl
    rw [runes_cons l hl]
    simp only [List.length_cons, List.length_drop] at ih ⊢
    omega

set_option maxHeartbeats 1000000 in
theorem Runes_any (s : ByteArray) (w : World) (hs : s.size ≤ 1000000) :
    Calls Try.prog 44 #[.string s] w fun e w' => ∃ v, e = .returned v ∧ w'.ownsRow w.heap.size 77 3 v (runes (oc s)).length (cellsR (runes (oc s))) ∧ Below w.heap.size w w' := by
  obtain ⟨i0, hi, hz0, hz1, hz2⟩ := info_parts Try.info77
  have hrl := runes_len_le (oc s)
  rw [oc_len] at hrl
  go_enter Try.func44, Try.ntmps44
  go_wp2
  go_loopw [0, 3] (fun s0 v wr => ∃ (s' : ByteArray) (done : List Rn), s0 = .string s' ∧ s'.size ≤ 1000000 ∧ runes (oc s) = done ++ runes (oc s') ∧ wr.ownsRow w.heap.size 77 3 v done.length (cellsR done) ∧ Below w.heap.size w wr)
    (fun s0 _ _ => lenOfStr s0)
  case atStart => exact ⟨s, [], rfl, hs, rfl, World.ownsRow_nil _ _ _ _, Below.refl _ _⟩
  case round =>
    obtain ⟨s', done, rfl, hs', hr, hown, hbw⟩ := hrel
    by_cases hlt : 0 < s'.size
    · have HR := Lib.hid hr
      clear hr
      have hw := dec_width (oc s')
      have hne : oc s' ≠ [] := fun e => by have := congrArg List.length e; rw [oc_len, List.length_nil] at this; omega
      have hw2 := hw.2.2 hne
      rw [oc_len] at hw2
      have hdl : (done.length + 1) ≤ s.size := by
        have := congrArg List.length HR.out
        rw [List.length_append, runes_cons (oc s') hne, List.length_cons] at this; omega
      have hfs := first_string s'
      have HF := Lib.hid hfs
      clear hfs
      obtain ⟨k, hk⟩ : ∃ k, (dec (oc s')).2.1 = k := ⟨_, rfl⟩
      obtain ⟨q, hq⟩ : ∃ q, s'.extract 0 k = q := ⟨_, rfl⟩
      have hqs : q.size = k := by rw [← hq, ByteArray.size_extract]; omega
      have HK := Lib.hid hk
      have HQ := Lib.hid hq
      go_wp2_with fail
      refine (next_any s' wr hlt).mono ?_
      rintro e w1 ⟨rfl, hb1⟩
      rw [hk, hq]
      clear hk hq
      have hown1 := (own_later hown hb1)
      have hbw1 := hbw.trans (hb1.mono hbw.size)
      go_wp2_with (at_builtin; refine wpList_append_own _ rfl (.tmp 10) (.tmp 12) 73 rfl w.heap.size 77 i0 _ 3 32 Try.underlying73 hi hz0 hz1 hz2 rfl (by decide) _ _ _ rfl ((hown1.alloc _).alloc _) ⟨w1.heap.size + 1, 0, none⟩ 1 1 [.int .i64 (dec (oc s')).1, .string q, .bool (dec (oc s')).2.2] rfl rfl ?c1 ?c2 ?c3 ?c4 ?c5 ?_)
      case c1 => intro j u hj; exact new_cells (w1.alloc _) _ _ _ (by simp) j u hj
      case c2 => intro u hu; simp at hu; rcases hu with rfl | rfl | rfl <;> rfl
      case c3 => unfold maxLen; omega
      case c4 => omega
      case c5 => have := hbw1.size; simp; omega
      · intro v' w' hown' hgrow _
        have hbw' : Below w.heap.size w w' := ((hbw1.alloc hbw1.size _).alloc (by have := hbw1.size; simp; omega) _).grown hgrow (by have := hbw1.size; simp; omega) (fun k hk => (hown.lt k hk).1)
        have e3 : cellsR done ++ [.int .i64 (dec (oc s')).1, .string q, .bool (dec (oc s')).2.2] = cellsR (done ++ [firstR (oc s')]) := by
          rw [cellsR_snoc, ← HF.out, HK.out, HQ.out]; rfl
        rw [e3] at hown'
        have el : done.length + 1 = (done ++ [firstR (oc s')]).length := by simp
        rw [el] at hown'
        have hx : w'.cell? ⟨w1.heap.size, 1, none⟩ = some (.string q) :=
          hgrow.cell (by rw [old_cell _ _ _ _ (by simp), new_cell _ _ _ _ _ rfl]; rfl) (fun e => by have h1 := (hown.lt _ e.symm).2; have := hb1.size; dsimp only at h1; omega)
        have hr2 : runes (oc s) = (done ++ [firstR (oc s')]) ++ runes (oc (s'.extract k s'.size)) := by
          rw [HR.out, runes_cons _ hne, oc_extract, List.take_of_length_le (by rw [oc_len]; omega), HK.out]; simp
        have HR2 := Lib.hid hr2
        have hsx : (s'.extract k s'.size).size = s'.size - k := by rw [ByteArray.size_extract]; omega
        have HSX := Lib.hid hsx
        have hk1 : 1 ≤ k ∧ k ≤ s'.size := by rw [← HK.out]; exact ⟨hw.1, hw2⟩
        clear e3 el hown hown1 hbw hb1 hr2 hsx hgrow
        go_wp2
        go_roundw
        case rel => exact ⟨_, _, rfl, by rw [HSX.out]; omega, HR2.out, hown', hbw'⟩
        case measure => simp only [lenOfStr, HSX.out]; omega
    · have hz : oc s' = [] := List.eq_nil_of_length_eq_zero (by rw [oc_len]; omega)
      rw [hz, runes_nil, List.append_nil] at hr
      subst hr
      clear hz
      have HO := Lib.hid hown
      clear hown
      go_wp2
      go_ret
      exact ⟨_, rfl, HO.out, hbw⟩
end Go.Proofs.Ytpjghildhhpeeaa
