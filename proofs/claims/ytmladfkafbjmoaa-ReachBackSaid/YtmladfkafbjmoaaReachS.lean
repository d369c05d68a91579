/-
  Walk: the law that goes back and forth.
-/
import Derived.Test.YtmladfkafbjmoaaReachR
namespace Go.Proofs.Ytmladfkafbjmoaa
open Go.RowKit

set_option maxHeartbeats 4000000 in
set_option maxRecDepth 100000 in
theorem back_eq (n1 n2 : Int) (w : World) (h0 : 0 ≤ n1) (g0 : n1 ≤ 65535) (h1 : 0 ≤ n2) (g1 : n2 ≤ 65535) (a  : Nat) (ha : n1 % 3621 = (a : Int)) (hb : n2 % 3621 = (a : Int)) (ha3 : a < 3621)  :
    Calls Try.prog 8 #[.int .u16 n1, .int .u16 n2] w fun e w' => e = .returned (.bool true) ∧ Below w.heap.size w w' := by
  have hpl := path_len a
  have HBLK := Lib.hid (block_path a ha3)
  have HN : Hid (∀ j, j + 1 < (pathN a).length → ∃ q : Nat, q < 258 ∧ numberZ ((toZ (pathN a)).take (j + 1)) = q ∧ (onN a)[j]? = some (q : Int)) := Lib.hid (fun j h => by
    obtain ⟨q, h1, h2, h3⟩ := node_on a (j + 1) ha3 (by omega) h
    exact ⟨q, h1, h2, h3⟩)
  have HLN := Lib.hid (show leanL (onZ [(a : Int)]) = onN a from by
    have : onZ [(a : Int)] = onN a := by simp [onZ]
    rw [this]; exact lean_on a ha3)
  have HP := Lib.hid (fun w => Path_rd a w ha3)
  have hol := on_len a
  have htl := toZ_len (pathN a)
  obtain ⟨xs, hxs⟩ : ∃ xs, toZ (pathN a) = xs := ⟨_, rfl⟩
  obtain ⟨L, hL⟩ : ∃ L, onN a = L := ⟨_, rfl⟩
  rw [hxs] at HBLK HN HP htl
  rw [hL] at HN HLN hol
  rw [← htl] at HN hol hpl
  obtain ⟨m, hm⟩ : ∃ m, xs.length = m := ⟨_, rfl⟩
  rw [hm] at HN hol hpl HP
  obtain ⟨m', rfl⟩ : ∃ m', m = m' + 1 := ⟨m - 1, by omega⟩
  have hol2 : L.length = m' := by omega
  have HL := Lib.hid hol2
  clear hxs hL htl hm hol hol2
  go_enter Try.func8, Try.ntmps8
  go_wp2_with fail
  refine (HP.out w).mono ?_
  rintro e w1 ⟨⟨A1, c1, rfl, hc1, r1⟩, b1⟩
  have R1 := Lib.hid r1
  clear r1
  go_wp2_with fail
  refine (HP.out w1).mono ?_
  rintro e w2 ⟨⟨A2, c2, rfl, hc2, r2⟩, e2⟩
  have R2 := Lib.hid r2
  have P2 := Lib.hid ((R1.out.below e2).more e2.size)
  have b2 := b1.trans (e2.mono b1.size)
  clear r2
  go_wp2_with fail
  refine (Block_any A1 (m' + 1) c1 xs w2 P2.out (by omega) hc1).mono ?_
  rintro e w3 ⟨rfl, e3⟩
  rw [(blk_good HBLK.out (by omega)).1, (blk_good HBLK.out (by omega)).2]
  have P3 := Lib.hid ((P2.out.below e3).more e3.size)
  have R3 := Lib.hid ((R2.out.below e3).more e3.size)
  have b3 := b2.trans (e3.mono b2.size)
  have HLIT := Lib.hid (lit_rd w3 #[.int .i64 (a : Int)] [(a : Int)] rfl (enough (by simp)))
  have hbl : Below w3.heap.size w3 (w3.alloc (.cells #[.int .i64 (a : Int)] 3)) := (Below.refl _ _).alloc (Nat.le_refl _) _
  have b3' := b3.trans (hbl.mono b3.size)
  have P3' := Lib.hid ((P3.out.below hbl).more hbl.size)
  have R3' := Lib.hid ((R3.out.below hbl).more hbl.size)
  clear hbl
  go_wp2_with fail
  refine (Nodes_ok _ 1 1 [(a : Int)] _ HLIT.out (by omega) (by intro x hx; rw [List.mem_singleton.1 hx]; exact ⟨by omega, by omega⟩)).mono ?_
  rintro e w4 ⟨⟨v4, rfl, ho4⟩, e4⟩
  rw [HLN.out] at ho4
  obtain ⟨A4, c4, rfl, hc4, r4⟩ := own_rd ho4
  rw [HL.out] at r4 hc4 ⊢
  have R4 := Lib.hid r4
  have b4 := b3'.trans (e4.mono b3'.size)
  have P4 := Lib.hid ((P3'.out.below e4).more e4.size)
  have Q4 := Lib.hid ((R3'.out.below e4).more e4.size)
  clear r4 ho4
  go_wp2_with fail
  refine (Same_yes _ _ (m' + 1) _ (m' + 1) _ xs w4 P4.out Q4.out (by omega)).mono ?_
  rintro e w5 ⟨rfl, e5⟩
  have b5 := b4.trans (e5.mono b4.size)
  have P5 := Lib.hid ((P4.out.below e5).more e5.size)
  have R5 := Lib.hid ((R4.out.below e5).more e5.size)
  go_wp2
  go_loopw [15] (fun i wr => ∃ j : Nat, j ≤ m' ∧ i = .int .i64 (j + 1 : Nat) ∧ Hid (Rd wr wr.heap.size 1 A1 (m' + 1) (intsV xs)) ∧ Hid (Rd wr wr.heap.size 1 A4 m' (intsV L)) ∧ Below w.heap.size w wr) (fun i _ => m' + 1 - (intOf i).toNat)
  case atStart => exact ⟨0, Nat.zero_le _, rfl, P5, R5, b5⟩
  case round =>
    obtain ⟨j, hj, rfl, HPR, HLR, hbw⟩ := hrel
    by_cases hlt : j < m'
    · obtain ⟨q, hq, hnz, hqn⟩ := HN.out j (by omega)
      have HNZ := Lib.hid hnz
      have HQN := Lib.hid hqn
      obtain ⟨g1, o1, hA1, hg1, _⟩ := HPR.out.2 (by omega)
      subst hA1
      have HT := Lib.hid (rd_take HPR.out (k := j + 1) (by omega))
      clear hnz hqn
      go_wp2_with fail
      refine (Number_any _ (j + 1) c1 _ wr HT.out (by omega) (by omega)).mono ?_
      rintro e w6 ⟨rfl, e6⟩
      rw [(num_good HNZ.out (by omega)).1, (num_good HNZ.out (by omega)).2]
      have b6 := hbw.trans (e6.mono hbw.size)
      have P6 := Lib.hid ((HPR.out.below e6).more e6.size)
      have L6 := Lib.hid ((HLR.out.below e6).more e6.size)
      have HND := Lib.hid (fun w => Node_rd q w hq)
      rw [(node_iff (xs.take (j + 1)) q hq).2 HNZ.out] at HND
      obtain ⟨ts, hts⟩ : ∃ ts, xs.take (j + 1) = ts := ⟨_, rfl⟩
      rw [hts] at HND HT HNZ
      have htlen : ts.length = j + 1 := by have := HT.out.1; rw [intsV_len, Nat.mul_one] at this; exact this
      rw [htlen] at HND
      have HTS := Lib.hid hts
      clear hts htlen
      go_wp2_with fail
      refine (HND.out w6).mono ?_
      rintro e w7 ⟨⟨A7, c7, rfl, hc7, r7⟩, e7⟩
      have b7 := b6.trans (e7.mono b6.size)
      have P7 := Lib.hid ((P6.out.below e7).more e7.size)
      have L7 := Lib.hid ((L6.out.below e7).more e7.size)
      have R7 := Lib.hid r7
      have T7 := Lib.hid (rd_take P7.out (k := j + 1) (by omega))
      rw [HTS.out] at T7
      clear r7
      go_wp2_with fail
      refine (Same_yes _ _ (j + 1) _ (j + 1) _ ts w7 R7.out T7.out (by omega)).mono ?_
      rintro e w8 ⟨rfl, e8⟩
      have b8 := b7.trans (e8.mono b7.size)
      have P8 := Lib.hid ((P7.out.below e8).more e8.size)
      have L8 := Lib.hid ((L7.out.below e8).more e8.size)
      obtain ⟨g4, o4, x, hA4, hg4, hx, hcell⟩ := int_at L8.out hlt
      subst hA4
      have hxq : x = (q : Int) := by have := HQN.out; rw [hx] at this; exact Option.some.inj this
      subst hxq
      clear hx
      go_wp2
      go_roundw
      case rel => exact ⟨j + 1, by omega, by go_num, P8, L8, b8⟩
      case measure => simp [intOf]; omega
    · obtain rfl : j = m' := by omega
      go_wp2_with fail
      refine (awake_any _).mono ?_
      rintro e w6 ⟨rfl, e6⟩
      have b6 := hbw.trans (e6.mono hbw.size)
      go_wp2
      go_ret
      exact ⟨rfl, b6⟩

set_option maxHeartbeats 4000000 in
set_option maxRecDepth 100000 in
theorem back_ne (n1 n2 : Int) (w : World) (h0 : 0 ≤ n1) (g0 : n1 ≤ 65535) (h1 : 0 ≤ n2) (g1 : n2 ≤ 65535) (a b : Nat) (ha : n1 % 3621 = (a : Int)) (hb : n2 % 3621 = (b : Int)) (ha3 : a < 3621) (hb3 : b < 3621) (hne : ¬ (a : Int) = (b : Int)) :
    Calls Try.prog 8 #[.int .u16 n1, .int .u16 n2] w fun e w' => e = .returned (.bool true) ∧ Below w.heap.size w w' := by
  have hpl := path_len a
  have HBLK := Lib.hid (block_path a ha3)
  have HN : Hid (∀ j, j + 1 < (pathN a).length → ∃ q : Nat, q < 258 ∧ numberZ ((toZ (pathN a)).take (j + 1)) = q ∧ (onN a)[j]? = some (q : Int)) := Lib.hid (fun j h => by
    obtain ⟨q, h1, h2, h3⟩ := node_on a (j + 1) ha3 (by omega) h
    exact ⟨q, h1, h2, h3⟩)
  have HLN := Lib.hid (show leanL (onZ [(a : Int)]) = onN a from by
    have : onZ [(a : Int)] = onN a := by simp [onZ]
    rw [this]; exact lean_on a ha3)
  have HP := Lib.hid (fun w => Path_rd a w ha3)
  have hol := on_len a
  have htl := toZ_len (pathN a)
  have hne2 : ((a : Int) == (b : Int)) = false := beq_false_of_ne hne
  have HPB := Lib.hid (fun w => Path_rd b w hb3)
  have hxy : toZ (pathN a) ≠ toZ (pathN b) := fun h => hne (by rw [path_inj a b ha3 hb3 h])
  obtain ⟨xs, hxs⟩ : ∃ xs, toZ (pathN a) = xs := ⟨_, rfl⟩
  obtain ⟨L, hL⟩ : ∃ L, onN a = L := ⟨_, rfl⟩
  rw [hxs] at HBLK HN HP htl
  rw [hxs] at hxy
  obtain ⟨ys, hys⟩ : ∃ ys, toZ (pathN b) = ys := ⟨_, rfl⟩
  rw [hys] at HPB hxy
  have HXY := Lib.hid hxy
  clear hxy hys
  rw [hL] at HN HLN hol
  rw [← htl] at HN hol hpl
  obtain ⟨m, hm⟩ : ∃ m, xs.length = m := ⟨_, rfl⟩
  rw [hm] at HN hol hpl HP
  obtain ⟨m', rfl⟩ : ∃ m', m = m' + 1 := ⟨m - 1, by omega⟩
  have hol2 : L.length = m' := by omega
  have HL := Lib.hid hol2
  clear hxs hL htl hm hol hol2
  go_enter Try.func8, Try.ntmps8
  go_wp2_with fail
  refine (HP.out w).mono ?_
  rintro e w1 ⟨⟨A1, c1, rfl, hc1, r1⟩, b1⟩
  have R1 := Lib.hid r1
  clear r1
  go_wp2_with fail
  refine (HPB.out w1).mono ?_
  rintro e w2 ⟨⟨A2, c2, rfl, hc2, r2⟩, e2⟩
  have R2 := Lib.hid r2
  have P2 := Lib.hid ((R1.out.below e2).more e2.size)
  have b2 := b1.trans (e2.mono b1.size)
  clear r2
  go_wp2_with fail
  refine (Block_any A1 (m' + 1) c1 xs w2 P2.out (by omega) hc1).mono ?_
  rintro e w3 ⟨rfl, e3⟩
  rw [(blk_good HBLK.out (by omega)).1, (blk_good HBLK.out (by omega)).2]
  have P3 := Lib.hid ((P2.out.below e3).more e3.size)
  have R3 := Lib.hid ((R2.out.below e3).more e3.size)
  have b3 := b2.trans (e3.mono b2.size)
  have HLIT := Lib.hid (lit_rd w3 #[.int .i64 (a : Int)] [(a : Int)] rfl (enough (by simp)))
  have hbl : Below w3.heap.size w3 (w3.alloc (.cells #[.int .i64 (a : Int)] 3)) := (Below.refl _ _).alloc (Nat.le_refl _) _
  have b3' := b3.trans (hbl.mono b3.size)
  have P3' := Lib.hid ((P3.out.below hbl).more hbl.size)
  have R3' := Lib.hid ((R3.out.below hbl).more hbl.size)
  clear hbl
  go_wp2_with fail
  refine (Nodes_ok _ 1 1 [(a : Int)] _ HLIT.out (by omega) (by intro x hx; rw [List.mem_singleton.1 hx]; exact ⟨by omega, by omega⟩)).mono ?_
  rintro e w4 ⟨⟨v4, rfl, ho4⟩, e4⟩
  rw [HLN.out] at ho4
  obtain ⟨A4, c4, rfl, hc4, r4⟩ := own_rd ho4
  rw [HL.out] at r4 hc4 ⊢
  have R4 := Lib.hid r4
  have b4 := b3'.trans (e4.mono b3'.size)
  have P4 := Lib.hid ((P3'.out.below e4).more e4.size)
  have Q4 := Lib.hid ((R3'.out.below e4).more e4.size)
  clear r4 ho4
  go_wp2_with fail
  refine (Same_any _ _ (m' + 1) _ _ _ xs ys w4 P4.out Q4.out (by omega)).mono ?_
  rintro e w5 ⟨rfl, e5⟩
  rw [decide_eq_false HXY.out]
  have b5 := b4.trans (e5.mono b4.size)
  have P5 := Lib.hid ((P4.out.below e5).more e5.size)
  have R5 := Lib.hid ((R4.out.below e5).more e5.size)
  go_wp2
  go_loopw [15] (fun i wr => ∃ j : Nat, j ≤ m' ∧ i = .int .i64 (j + 1 : Nat) ∧ Hid (Rd wr wr.heap.size 1 A1 (m' + 1) (intsV xs)) ∧ Hid (Rd wr wr.heap.size 1 A4 m' (intsV L)) ∧ Below w.heap.size w wr) (fun i _ => m' + 1 - (intOf i).toNat)
  case atStart => exact ⟨0, Nat.zero_le _, rfl, P5, R5, b5⟩
  case round =>
    obtain ⟨j, hj, rfl, HPR, HLR, hbw⟩ := hrel
    by_cases hlt : j < m'
    · obtain ⟨q, hq, hnz, hqn⟩ := HN.out j (by omega)
      have HNZ := Lib.hid hnz
      have HQN := Lib.hid hqn
      obtain ⟨g1, o1, hA1, hg1, _⟩ := HPR.out.2 (by omega)
      subst hA1
      have HT := Lib.hid (rd_take HPR.out (k := j + 1) (by omega))
      clear hnz hqn
      go_wp2_with fail
      refine (Number_any _ (j + 1) c1 _ wr HT.out (by omega) (by omega)).mono ?_
      rintro e w6 ⟨rfl, e6⟩
      rw [(num_good HNZ.out (by omega)).1, (num_good HNZ.out (by omega)).2]
      have b6 := hbw.trans (e6.mono hbw.size)
      have P6 := Lib.hid ((HPR.out.below e6).more e6.size)
      have L6 := Lib.hid ((HLR.out.below e6).more e6.size)
      have HND := Lib.hid (fun w => Node_rd q w hq)
      rw [(node_iff (xs.take (j + 1)) q hq).2 HNZ.out] at HND
      obtain ⟨ts, hts⟩ : ∃ ts, xs.take (j + 1) = ts := ⟨_, rfl⟩
      rw [hts] at HND HT HNZ
      have htlen : ts.length = j + 1 := by have := HT.out.1; rw [intsV_len, Nat.mul_one] at this; exact this
      rw [htlen] at HND
      have HTS := Lib.hid hts
      clear hts htlen
      go_wp2_with fail
      refine (HND.out w6).mono ?_
      rintro e w7 ⟨⟨A7, c7, rfl, hc7, r7⟩, e7⟩
      have b7 := b6.trans (e7.mono b6.size)
      have P7 := Lib.hid ((P6.out.below e7).more e7.size)
      have L7 := Lib.hid ((L6.out.below e7).more e7.size)
      have R7 := Lib.hid r7
      have T7 := Lib.hid (rd_take P7.out (k := j + 1) (by omega))
      rw [HTS.out] at T7
      clear r7
      go_wp2_with fail
      refine (Same_yes _ _ (j + 1) _ (j + 1) _ ts w7 R7.out T7.out (by omega)).mono ?_
      rintro e w8 ⟨rfl, e8⟩
      have b8 := b7.trans (e8.mono b7.size)
      have P8 := Lib.hid ((P7.out.below e8).more e8.size)
      have L8 := Lib.hid ((L7.out.below e8).more e8.size)
      obtain ⟨g4, o4, x, hA4, hg4, hx, hcell⟩ := int_at L8.out hlt
      subst hA4
      have hxq : x = (q : Int) := by have := HQN.out; rw [hx] at this; exact Option.some.inj this
      subst hxq
      clear hx
      go_wp2
      go_roundw
      case rel => exact ⟨j + 1, by omega, by go_num, P8, L8, b8⟩
      case measure => simp [intOf]; omega
    · obtain rfl : j = m' := by omega
      go_wp2_with fail
      refine (awake_any _).mono ?_
      rintro e w6 ⟨rfl, e6⟩
      have b6 := hbw.trans (e6.mono hbw.size)
      go_wp2
      go_ret
      exact ⟨rfl, b6⟩

theorem back_law (n1 n2 : Int) (w : World) (h0 : 0 ≤ n1) (g0 : n1 ≤ 65535) (h1 : 0 ≤ n2) (g1 : n2 ≤ 65535) :
    Calls Try.prog 8 #[.int .u16 n1, .int .u16 n2] w fun e w' => e = .returned (.bool true) ∧ Below w.heap.size w w' := by
  obtain ⟨a, ha⟩ := Int.eq_ofNat_of_zero_le (show 0 ≤ n1 % 3621 by omega)
  obtain ⟨b, hb⟩ := Int.eq_ofNat_of_zero_le (show 0 ≤ n2 % 3621 by omega)
  by_cases h : a = b
  · subst h
    exact back_eq n1 n2 w h0 g0 h1 g1 a ha hb (by omega)
  · exact back_ne n1 n2 w h0 g0 h1 g1 a b ha hb (by omega) (by omega) (by omega)
end Go.Proofs.Ytmladfkafbjmoaa
