/-
  Walks: the reference's paths.
-/
import Derived.Test.YtmladfkafbjmoaaReachB
namespace Go.Proofs.Ytmladfkafbjmoaa
open Go.RowKit

theorem own_nil (w : World) (base : Nat) (e : TypeId) (sz : Nat) : OwnB (w.alloc (.cells #[] e)) (min base w.heap.size) e sz w.heap.size 0 0 [] :=
  OwnB.lit w _ (Nat.min_le_right _ _) e sz 0 #[] (by simp) (by simp)

set_option maxHeartbeats 2000000 in
set_option maxRecDepth 100000 in
theorem Next_a (x : Nat) (g o c : Nat) (w : World) (hr : Rd w w.heap.size 1 (some ⟨g, o, none⟩) 1 (intsV [(x : Int)])) (hx : x < 5) :
    Calls Try.prog 27 #[.slice (some ⟨g, o, none⟩) 1 c] w fun e w' => ∃ v, e = .returned v ∧ OwnI w w' v [(x + 1 : Int)] ∧ Below w.heap.size w w' := by
  obtain ⟨i0, hi, hz0, hz1, hz2⟩ := info_parts Try.info3
  have hnil := (OwnB.lit w w.heap.size (Nat.le_refl _) 3 1 0 #[] (by simp) (by simp)).own
  have hcs := rd_cells (hr.keep (w' := w.alloc (.cells #[] 3)) (fun p hp => World.cell?_alloc_lt w _ p hp))
  clear hr
  have HN := Lib.hid hnil
  have HC := Lib.hid hcs
  clear hnil hcs
  go_enter Try.func27, Try.ntmps27
  go_wp2_with (at_builtin; refine wpList_append_own _ rfl (.tmp 5) (.tmp 6) 25 rfl w.heap.size 3 i0 _ 1 8 Try.underlying25 hi hz0 hz1 hz2 rfl (by decide) _ _ _ rfl HN.out ⟨g, o, none⟩ 1 c (intsV [(x : Int)]) (by rfl) (by rfl) HC.out (intsV_one [(x : Int)]) (by unfold maxLen; simp) (by simp) (by simp) ?_)
  intro v' w1 hown hgrow _
  have hb := ((Below.refl _ w).alloc (Nat.le_refl _) (.cells #[] 3)).grown hgrow (by simp) (fun k hk => by simp [Value.ownBlock] at hk; omega)
  obtain ⟨q, cap, rfl, hB⟩ := own_pos hown (by decide)
  have c0 : w1.cell? ⟨q, 0, none⟩ = some (.int .i64 (x : Int)) := hB.cell 0 (by decide)
  have f0 : w1.frozen? ⟨q, 0, none⟩ = false := hB.frozen 0
  have HB := Lib.hid hB
  have hq := hB.base_
  clear hown hB HN HC hgrow
  go_wp2
  go_ret
  exact ⟨_, rfl, (HB.out.set_ 0 (.int .i64 (x + 1 : Int))).own, hb.setCell hq _⟩

set_option maxHeartbeats 2000000 in
set_option maxRecDepth 100000 in
theorem Next_b (g o c : Nat) (w : World) (hr : Rd w w.heap.size 1 (some ⟨g, o, none⟩) 1 (intsV [(5 : Int)]))  :
    Calls Try.prog 27 #[.slice (some ⟨g, o, none⟩) 1 c] w fun e w' => ∃ v, e = .returned v ∧ OwnI w w' v [(6 : Int), (0 : Int)] ∧ Below w.heap.size w w' := by
  obtain ⟨i0, hi, hz0, hz1, hz2⟩ := info_parts Try.info3
  have hnil := (OwnB.lit w w.heap.size (Nat.le_refl _) 3 1 0 #[] (by simp) (by simp)).own
  have hcs := rd_cells (hr.keep (w' := w.alloc (.cells #[] 3)) (fun p hp => World.cell?_alloc_lt w _ p hp))
  clear hr
  have HN := Lib.hid hnil
  have HC := Lib.hid hcs
  clear hnil hcs
  go_enter Try.func27, Try.ntmps27
  go_wp2_with (at_builtin; refine wpList_append_own _ rfl (.tmp 5) (.tmp 6) 25 rfl w.heap.size 3 i0 _ 1 8 Try.underlying25 hi hz0 hz1 hz2 rfl (by decide) _ _ _ rfl HN.out ⟨g, o, none⟩ 1 c (intsV [(5 : Int)]) (by rfl) (by rfl) HC.out (intsV_one [(5 : Int)]) (by unfold maxLen; simp) (by simp) (by simp) ?_)
  intro v' w1 hown hgrow _
  have hb := ((Below.refl _ w).alloc (Nat.le_refl _) (.cells #[] 3)).grown hgrow (by simp) (fun k hk => by simp [Value.ownBlock] at hk; omega)
  obtain ⟨q, cap, rfl, hB⟩ := own_pos hown (by decide)
  have c0 : w1.cell? ⟨q, 0, none⟩ = some (.int .i64 (5 : Int)) := hB.cell 0 (by decide)
  have f0 : w1.frozen? ⟨q, 0, none⟩ = false := hB.frozen 0
  have HB := Lib.hid hB
  have hq := hB.base_
  clear hown hB HN HC hgrow
  go_wp2
  go_ret
  exact ⟨_, rfl, (OwnB.lit w1 w.heap.size hb.size 3 1 2 #[.int .i64 6, .int .i64 0] (by simp) (by simp [maxLen])).own, hb.alloc hb.size _⟩

set_option maxHeartbeats 2000000 in
set_option maxRecDepth 100000 in
theorem Next_c (a : Nat) (g o c : Nat) (w : World) (hr : Rd w w.heap.size 1 (some ⟨g, o, none⟩) 2 (intsV [(6 : Int), (a : Int)])) (ha : a < 14) :
    Calls Try.prog 27 #[.slice (some ⟨g, o, none⟩) 2 c] w fun e w' => ∃ v, e = .returned v ∧ OwnI w w' v [(6 : Int), (a + 1 : Int)] ∧ Below w.heap.size w w' := by
  obtain ⟨i0, hi, hz0, hz1, hz2⟩ := info_parts Try.info3
  have hnil := (OwnB.lit w w.heap.size (Nat.le_refl _) 3 1 0 #[] (by simp) (by simp)).own
  have hcs := rd_cells (hr.keep (w' := w.alloc (.cells #[] 3)) (fun p hp => World.cell?_alloc_lt w _ p hp))
  clear hr
  have HN := Lib.hid hnil
  have HC := Lib.hid hcs
  clear hnil hcs
  go_enter Try.func27, Try.ntmps27
  go_wp2_with (at_builtin; refine wpList_append_own _ rfl (.tmp 5) (.tmp 6) 25 rfl w.heap.size 3 i0 _ 1 8 Try.underlying25 hi hz0 hz1 hz2 rfl (by decide) _ _ _ rfl HN.out ⟨g, o, none⟩ 2 c (intsV [(6 : Int), (a : Int)]) (by rfl) (by rfl) HC.out (intsV_one [(6 : Int), (a : Int)]) (by unfold maxLen; simp) (by simp) (by simp) ?_)
  intro v' w1 hown hgrow _
  have hb := ((Below.refl _ w).alloc (Nat.le_refl _) (.cells #[] 3)).grown hgrow (by simp) (fun k hk => by simp [Value.ownBlock] at hk; omega)
  obtain ⟨q, cap, rfl, hB⟩ := own_pos hown (by decide)
  have c0 : w1.cell? ⟨q, 0, none⟩ = some (.int .i64 (6 : Int)) := hB.cell 0 (by decide)
  have c1 : w1.cell? ⟨q, 1, none⟩ = some (.int .i64 (a : Int)) := hB.cell 1 (by decide)
  have f0 : w1.frozen? ⟨q, 0, none⟩ = false := hB.frozen 0
  have f1 : w1.frozen? ⟨q, 1, none⟩ = false := hB.frozen 1
  have HB := Lib.hid hB
  have hq := hB.base_
  clear hown hB HN HC hgrow
  go_wp2
  refine wp_loop_rounds 1 ?_
  rw [rounds_succ]
  go_wp2
  go_ret
  exact ⟨_, rfl, (HB.out.set_ 1 (.int .i64 (a + 1 : Int))).own, (hb.setCell hq _)⟩

set_option maxHeartbeats 2000000 in
set_option maxRecDepth 100000 in
theorem Next_d (g o c : Nat) (w : World) (hr : Rd w w.heap.size 1 (some ⟨g, o, none⟩) 2 (intsV [(6 : Int), (14 : Int)]))  :
    Calls Try.prog 27 #[.slice (some ⟨g, o, none⟩) 2 c] w fun e w' => ∃ v, e = .returned v ∧ OwnI w w' v [(7 : Int), (0 : Int), (0 : Int)] ∧ Below w.heap.size w w' := by
  obtain ⟨i0, hi, hz0, hz1, hz2⟩ := info_parts Try.info3
  have hnil := (OwnB.lit w w.heap.size (Nat.le_refl _) 3 1 0 #[] (by simp) (by simp)).own
  have hcs := rd_cells (hr.keep (w' := w.alloc (.cells #[] 3)) (fun p hp => World.cell?_alloc_lt w _ p hp))
  clear hr
  have HN := Lib.hid hnil
  have HC := Lib.hid hcs
  clear hnil hcs
  go_enter Try.func27, Try.ntmps27
  go_wp2_with (at_builtin; refine wpList_append_own _ rfl (.tmp 5) (.tmp 6) 25 rfl w.heap.size 3 i0 _ 1 8 Try.underlying25 hi hz0 hz1 hz2 rfl (by decide) _ _ _ rfl HN.out ⟨g, o, none⟩ 2 c (intsV [(6 : Int), (14 : Int)]) (by rfl) (by rfl) HC.out (intsV_one [(6 : Int), (14 : Int)]) (by unfold maxLen; simp) (by simp) (by simp) ?_)
  intro v' w1 hown hgrow _
  have hb := ((Below.refl _ w).alloc (Nat.le_refl _) (.cells #[] 3)).grown hgrow (by simp) (fun k hk => by simp [Value.ownBlock] at hk; omega)
  obtain ⟨q, cap, rfl, hB⟩ := own_pos hown (by decide)
  have c0 : w1.cell? ⟨q, 0, none⟩ = some (.int .i64 (6 : Int)) := hB.cell 0 (by decide)
  have c1 : w1.cell? ⟨q, 1, none⟩ = some (.int .i64 (14 : Int)) := hB.cell 1 (by decide)
  have f0 : w1.frozen? ⟨q, 0, none⟩ = false := hB.frozen 0
  have f1 : w1.frozen? ⟨q, 1, none⟩ = false := hB.frozen 1
  have HB := Lib.hid hB
  have hq := hB.base_
  have hlast := ((hB.set_ 1 (.int .i64 0)).set_ 0 (.int .i64 (7 : Int)))
  have hblast := ((hb.setCell (p := ⟨q, 1, none⟩) hq (.int .i64 0)).setCell (p := ⟨q, 0, none⟩) hq (.int .i64 (7 : Int)))
  have HL := Lib.hid (hlast.own.alloc (.cells #[.int .i64 0] 3))
  have HBL := Lib.hid hblast
  clear hlast hblast hown hB HN HC hgrow
  go_wp2
  refine wp_loop_rounds 2 ?_
  rw [rounds_succ]
  go_wp2
  rw [rounds_succ]
  go_wp2_with (at_builtin; refine wpList_append_own _ rfl (.tmp 54) (.tmp 55) 25 rfl w.heap.size 3 i0 _ 1 8 Try.underlying25 hi hz0 hz1 hz2 rfl (by decide) _ _ _ rfl HL.out ⟨w1.heap.size, 0, none⟩ 1 1 [.int .i64 0] (by rfl) (by rfl) (fun j u hj => new_cells _ _ _ _ (by simp [World.setCell]) j u hj) (one_cell rfl) (by unfold maxLen; simp) (by simp) (by have := hb.size; simp [World.setCell]; omega) ?_)
  intro v2 w2 hown2 hgrow2 _
  have hb2 := (HBL.out.alloc HBL.out.size _).grown hgrow2 (base_alloc HBL.out.size _) (fun k hk => by simp [Value.ownBlock] at hk; omega)
  have HO2 := Lib.hid hown2
  clear hown2 hgrow2
  go_wp2
  go_ret
  exact ⟨_, rfl, HO2.out, hb2⟩

set_option maxHeartbeats 2000000 in
set_option maxRecDepth 100000 in
theorem Next_e (a b : Nat) (g o c : Nat) (w : World) (hr : Rd w w.heap.size 1 (some ⟨g, o, none⟩) 3 (intsV [(7 : Int), (a : Int), (b : Int)])) (hb' : b < 14) :
    Calls Try.prog 27 #[.slice (some ⟨g, o, none⟩) 3 c] w fun e w' => ∃ v, e = .returned v ∧ OwnI w w' v [(7 : Int), (a : Int), (b + 1 : Int)] ∧ Below w.heap.size w w' := by
  obtain ⟨i0, hi, hz0, hz1, hz2⟩ := info_parts Try.info3
  have hnil := (OwnB.lit w w.heap.size (Nat.le_refl _) 3 1 0 #[] (by simp) (by simp)).own
  have hcs := rd_cells (hr.keep (w' := w.alloc (.cells #[] 3)) (fun p hp => World.cell?_alloc_lt w _ p hp))
  clear hr
  have HN := Lib.hid hnil
  have HC := Lib.hid hcs
  clear hnil hcs
  go_enter Try.func27, Try.ntmps27
  go_wp2_with (at_builtin; refine wpList_append_own _ rfl (.tmp 5) (.tmp 6) 25 rfl w.heap.size 3 i0 _ 1 8 Try.underlying25 hi hz0 hz1 hz2 rfl (by decide) _ _ _ rfl HN.out ⟨g, o, none⟩ 3 c (intsV [(7 : Int), (a : Int), (b : Int)]) (by rfl) (by rfl) HC.out (intsV_one [(7 : Int), (a : Int), (b : Int)]) (by unfold maxLen; simp) (by simp) (by simp) ?_)
  intro v' w1 hown hgrow _
  have hb := ((Below.refl _ w).alloc (Nat.le_refl _) (.cells #[] 3)).grown hgrow (by simp) (fun k hk => by simp [Value.ownBlock] at hk; omega)
  obtain ⟨q, cap, rfl, hB⟩ := own_pos hown (by decide)
  have c0 : w1.cell? ⟨q, 0, none⟩ = some (.int .i64 (7 : Int)) := hB.cell 0 (by decide)
  have c1 : w1.cell? ⟨q, 1, none⟩ = some (.int .i64 (a : Int)) := hB.cell 1 (by decide)
  have c2 : w1.cell? ⟨q, 2, none⟩ = some (.int .i64 (b : Int)) := hB.cell 2 (by decide)
  have f0 : w1.frozen? ⟨q, 0, none⟩ = false := hB.frozen 0
  have f1 : w1.frozen? ⟨q, 1, none⟩ = false := hB.frozen 1
  have f2 : w1.frozen? ⟨q, 2, none⟩ = false := hB.frozen 2
  have HB := Lib.hid hB
  have hq := hB.base_
  clear hown hB HN HC hgrow
  go_wp2
  refine wp_loop_rounds 1 ?_
  rw [rounds_succ]
  go_wp2
  go_ret
  exact ⟨_, rfl, (HB.out.set_ 2 (.int .i64 (b + 1 : Int))).own, (hb.setCell hq _)⟩

set_option maxHeartbeats 2000000 in
set_option maxRecDepth 100000 in
theorem Next_f (a : Nat) (g o c : Nat) (w : World) (hr : Rd w w.heap.size 1 (some ⟨g, o, none⟩) 3 (intsV [(7 : Int), (a : Int), (14 : Int)])) (ha : a < 14) :
    Calls Try.prog 27 #[.slice (some ⟨g, o, none⟩) 3 c] w fun e w' => ∃ v, e = .returned v ∧ OwnI w w' v [(7 : Int), (a + 1 : Int), (0 : Int)] ∧ Below w.heap.size w w' := by
  obtain ⟨i0, hi, hz0, hz1, hz2⟩ := info_parts Try.info3
  have hnil := (OwnB.lit w w.heap.size (Nat.le_refl _) 3 1 0 #[] (by simp) (by simp)).own
  have hcs := rd_cells (hr.keep (w' := w.alloc (.cells #[] 3)) (fun p hp => World.cell?_alloc_lt w _ p hp))
  clear hr
  have HN := Lib.hid hnil
  have HC := Lib.hid hcs
  clear hnil hcs
  go_enter Try.func27, Try.ntmps27
  go_wp2_with (at_builtin; refine wpList_append_own _ rfl (.tmp 5) (.tmp 6) 25 rfl w.heap.size 3 i0 _ 1 8 Try.underlying25 hi hz0 hz1 hz2 rfl (by decide) _ _ _ rfl HN.out ⟨g, o, none⟩ 3 c (intsV [(7 : Int), (a : Int), (14 : Int)]) (by rfl) (by rfl) HC.out (intsV_one [(7 : Int), (a : Int), (14 : Int)]) (by unfold maxLen; simp) (by simp) (by simp) ?_)
  intro v' w1 hown hgrow _
  have hb := ((Below.refl _ w).alloc (Nat.le_refl _) (.cells #[] 3)).grown hgrow (by simp) (fun k hk => by simp [Value.ownBlock] at hk; omega)
  obtain ⟨q, cap, rfl, hB⟩ := own_pos hown (by decide)
  have c0 : w1.cell? ⟨q, 0, none⟩ = some (.int .i64 (7 : Int)) := hB.cell 0 (by decide)
  have c1 : w1.cell? ⟨q, 1, none⟩ = some (.int .i64 (a : Int)) := hB.cell 1 (by decide)
  have c2 : w1.cell? ⟨q, 2, none⟩ = some (.int .i64 (14 : Int)) := hB.cell 2 (by decide)
  have f0 : w1.frozen? ⟨q, 0, none⟩ = false := hB.frozen 0
  have f1 : w1.frozen? ⟨q, 1, none⟩ = false := hB.frozen 1
  have f2 : w1.frozen? ⟨q, 2, none⟩ = false := hB.frozen 2
  have HB := Lib.hid hB
  have hq := hB.base_
  clear hown hB HN HC hgrow
  go_wp2
  refine wp_loop_rounds 2 ?_
  rw [rounds_succ]
  go_wp2
  rw [rounds_succ]
  go_wp2
  go_ret
  exact ⟨_, rfl, ((HB.out.set_ 2 (.int .i64 (0 : Int))).set_ 1 (.int .i64 (a + 1 : Int))).own, ((hb.setCell hq _).setCell hq _)⟩

set_option maxHeartbeats 2000000 in
set_option maxRecDepth 100000 in
theorem Next_g (g o c : Nat) (w : World) (hr : Rd w w.heap.size 1 (some ⟨g, o, none⟩) 3 (intsV [(7 : Int), (14 : Int), (14 : Int)]))  :
    Calls Try.prog 27 #[.slice (some ⟨g, o, none⟩) 3 c] w fun e w' => ∃ v, e = .returned v ∧ OwnI w w' v [(8 : Int), (0 : Int), (0 : Int), (0 : Int)] ∧ Below w.heap.size w w' := by
  obtain ⟨i0, hi, hz0, hz1, hz2⟩ := info_parts Try.info3
  have hnil := (OwnB.lit w w.heap.size (Nat.le_refl _) 3 1 0 #[] (by simp) (by simp)).own
  have hcs := rd_cells (hr.keep (w' := w.alloc (.cells #[] 3)) (fun p hp => World.cell?_alloc_lt w _ p hp))
  clear hr
  have HN := Lib.hid hnil
  have HC := Lib.hid hcs
  clear hnil hcs
  go_enter Try.func27, Try.ntmps27
  go_wp2_with (at_builtin; refine wpList_append_own _ rfl (.tmp 5) (.tmp 6) 25 rfl w.heap.size 3 i0 _ 1 8 Try.underlying25 hi hz0 hz1 hz2 rfl (by decide) _ _ _ rfl HN.out ⟨g, o, none⟩ 3 c (intsV [(7 : Int), (14 : Int), (14 : Int)]) (by rfl) (by rfl) HC.out (intsV_one [(7 : Int), (14 : Int), (14 : Int)]) (by unfold maxLen; simp) (by simp) (by simp) ?_)
  intro v' w1 hown hgrow _
  have hb := ((Below.refl _ w).alloc (Nat.le_refl _) (.cells #[] 3)).grown hgrow (by simp) (fun k hk => by simp [Value.ownBlock] at hk; omega)
  obtain ⟨q, cap, rfl, hB⟩ := own_pos hown (by decide)
  have c0 : w1.cell? ⟨q, 0, none⟩ = some (.int .i64 (7 : Int)) := hB.cell 0 (by decide)
  have c1 : w1.cell? ⟨q, 1, none⟩ = some (.int .i64 (14 : Int)) := hB.cell 1 (by decide)
  have c2 : w1.cell? ⟨q, 2, none⟩ = some (.int .i64 (14 : Int)) := hB.cell 2 (by decide)
  have f0 : w1.frozen? ⟨q, 0, none⟩ = false := hB.frozen 0
  have f1 : w1.frozen? ⟨q, 1, none⟩ = false := hB.frozen 1
  have f2 : w1.frozen? ⟨q, 2, none⟩ = false := hB.frozen 2
  have HB := Lib.hid hB
  have hq := hB.base_
  have hlast := (((hB.set_ 2 (.int .i64 0)).set_ 1 (.int .i64 0)).set_ 0 (.int .i64 (8 : Int)))
  have hblast := (((hb.setCell (p := ⟨q, 2, none⟩) hq (.int .i64 0)).setCell (p := ⟨q, 1, none⟩) hq (.int .i64 0)).setCell (p := ⟨q, 0, none⟩) hq (.int .i64 (8 : Int)))
  have HL := Lib.hid (hlast.own.alloc (.cells #[.int .i64 0] 3))
  have HBL := Lib.hid hblast
  clear hlast hblast hown hB HN HC hgrow
  go_wp2
  refine wp_loop_rounds 3 ?_
  rw [rounds_succ]
  go_wp2
  rw [rounds_succ]
  go_wp2
  rw [rounds_succ]
  go_wp2_with (at_builtin; refine wpList_append_own _ rfl (.tmp 54) (.tmp 55) 25 rfl w.heap.size 3 i0 _ 1 8 Try.underlying25 hi hz0 hz1 hz2 rfl (by decide) _ _ _ rfl HL.out ⟨w1.heap.size, 0, none⟩ 1 1 [.int .i64 0] (by rfl) (by rfl) (fun j u hj => new_cells _ _ _ _ (by simp [World.setCell]) j u hj) (one_cell rfl) (by unfold maxLen; simp) (by simp) (by have := hb.size; simp [World.setCell]; omega) ?_)
  intro v2 w2 hown2 hgrow2 _
  have hb2 := (HBL.out.alloc HBL.out.size _).grown hgrow2 (base_alloc HBL.out.size _) (fun k hk => by simp [Value.ownBlock] at hk; omega)
  have HO2 := Lib.hid hown2
  clear hown2 hgrow2
  go_wp2
  go_ret
  exact ⟨_, rfl, HO2.out, hb2⟩

set_option maxHeartbeats 2000000 in
set_option maxRecDepth 100000 in
theorem Next_h (a b d : Nat) (g o c : Nat) (w : World) (hr : Rd w w.heap.size 1 (some ⟨g, o, none⟩) 4 (intsV [(8 : Int), (a : Int), (b : Int), (d : Int)])) (hd : d < 14) :
    Calls Try.prog 27 #[.slice (some ⟨g, o, none⟩) 4 c] w fun e w' => ∃ v, e = .returned v ∧ OwnI w w' v [(8 : Int), (a : Int), (b : Int), (d + 1 : Int)] ∧ Below w.heap.size w w' := by
  obtain ⟨i0, hi, hz0, hz1, hz2⟩ := info_parts Try.info3
  have hnil := (OwnB.lit w w.heap.size (Nat.le_refl _) 3 1 0 #[] (by simp) (by simp)).own
  have hcs := rd_cells (hr.keep (w' := w.alloc (.cells #[] 3)) (fun p hp => World.cell?_alloc_lt w _ p hp))
  clear hr
  have HN := Lib.hid hnil
  have HC := Lib.hid hcs
  clear hnil hcs
  go_enter Try.func27, Try.ntmps27
  go_wp2_with (at_builtin; refine wpList_append_own _ rfl (.tmp 5) (.tmp 6) 25 rfl w.heap.size 3 i0 _ 1 8 Try.underlying25 hi hz0 hz1 hz2 rfl (by decide) _ _ _ rfl HN.out ⟨g, o, none⟩ 4 c (intsV [(8 : Int), (a : Int), (b : Int), (d : Int)]) (by rfl) (by rfl) HC.out (intsV_one [(8 : Int), (a : Int), (b : Int), (d : Int)]) (by unfold maxLen; simp) (by simp) (by simp) ?_)
  intro v' w1 hown hgrow _
  have hb := ((Below.refl _ w).alloc (Nat.le_refl _) (.cells #[] 3)).grown hgrow (by simp) (fun k hk => by simp [Value.ownBlock] at hk; omega)
  obtain ⟨q, cap, rfl, hB⟩ := own_pos hown (by decide)
  have c0 : w1.cell? ⟨q, 0, none⟩ = some (.int .i64 (8 : Int)) := hB.cell 0 (by decide)
  have c1 : w1.cell? ⟨q, 1, none⟩ = some (.int .i64 (a : Int)) := hB.cell 1 (by decide)
  have c2 : w1.cell? ⟨q, 2, none⟩ = some (.int .i64 (b : Int)) := hB.cell 2 (by decide)
  have c3 : w1.cell? ⟨q, 3, none⟩ = some (.int .i64 (d : Int)) := hB.cell 3 (by decide)
  have f0 : w1.frozen? ⟨q, 0, none⟩ = false := hB.frozen 0
  have f1 : w1.frozen? ⟨q, 1, none⟩ = false := hB.frozen 1
  have f2 : w1.frozen? ⟨q, 2, none⟩ = false := hB.frozen 2
  have f3 : w1.frozen? ⟨q, 3, none⟩ = false := hB.frozen 3
  have HB := Lib.hid hB
  have hq := hB.base_
  clear hown hB HN HC hgrow
  go_wp2
  refine wp_loop_rounds 1 ?_
  rw [rounds_succ]
  go_wp2
  go_ret
  exact ⟨_, rfl, (HB.out.set_ 3 (.int .i64 (d + 1 : Int))).own, (hb.setCell hq _)⟩

set_option maxHeartbeats 2000000 in
set_option maxRecDepth 100000 in
theorem Next_i (a b : Nat) (g o c : Nat) (w : World) (hr : Rd w w.heap.size 1 (some ⟨g, o, none⟩) 4 (intsV [(8 : Int), (a : Int), (b : Int), (14 : Int)])) (hb' : b < 14) :
    Calls Try.prog 27 #[.slice (some ⟨g, o, none⟩) 4 c] w fun e w' => ∃ v, e = .returned v ∧ OwnI w w' v [(8 : Int), (a : Int), (b + 1 : Int), (0 : Int)] ∧ Below w.heap.size w w' := by
  obtain ⟨i0, hi, hz0, hz1, hz2⟩ := info_parts Try.info3
  have hnil := (OwnB.lit w w.heap.size (Nat.le_refl _) 3 1 0 #[] (by simp) (by simp)).own
  have hcs := rd_cells (hr.keep (w' := w.alloc (.cells #[] 3)) (fun p hp => World.cell?_alloc_lt w _ p hp))
  clear hr
  have HN := Lib.hid hnil
  have HC := Lib.hid hcs
  clear hnil hcs
  go_enter Try.func27, Try.ntmps27
  go_wp2_with (at_builtin; refine wpList_append_own _ rfl (.tmp 5) (.tmp 6) 25 rfl w.heap.size 3 i0 _ 1 8 Try.underlying25 hi hz0 hz1 hz2 rfl (by decide) _ _ _ rfl HN.out ⟨g, o, none⟩ 4 c (intsV [(8 : Int), (a : Int), (b : Int), (14 : Int)]) (by rfl) (by rfl) HC.out (intsV_one [(8 : Int), (a : Int), (b : Int), (14 : Int)]) (by unfold maxLen; simp) (by simp) (by simp) ?_)
  intro v' w1 hown hgrow _
  have hb := ((Below.refl _ w).alloc (Nat.le_refl _) (.cells #[] 3)).grown hgrow (by simp) (fun k hk => by simp [Value.ownBlock] at hk; omega)
  obtain ⟨q, cap, rfl, hB⟩ := own_pos hown (by decide)
  have c0 : w1.cell? ⟨q, 0, none⟩ = some (.int .i64 (8 : Int)) := hB.cell 0 (by decide)
  have c1 : w1.cell? ⟨q, 1, none⟩ = some (.int .i64 (a : Int)) := hB.cell 1 (by decide)
  have c2 : w1.cell? ⟨q, 2, none⟩ = some (.int .i64 (b : Int)) := hB.cell 2 (by decide)
  have c3 : w1.cell? ⟨q, 3, none⟩ = some (.int .i64 (14 : Int)) := hB.cell 3 (by decide)
  have f0 : w1.frozen? ⟨q, 0, none⟩ = false := hB.frozen 0
  have f1 : w1.frozen? ⟨q, 1, none⟩ = false := hB.frozen 1
  have f2 : w1.frozen? ⟨q, 2, none⟩ = false := hB.frozen 2
  have f3 : w1.frozen? ⟨q, 3, none⟩ = false := hB.frozen 3
  have HB := Lib.hid hB
  have hq := hB.base_
  clear hown hB HN HC hgrow
  go_wp2
  refine wp_loop_rounds 2 ?_
  rw [rounds_succ]
  go_wp2
  rw [rounds_succ]
  go_wp2
  go_ret
  exact ⟨_, rfl, ((HB.out.set_ 3 (.int .i64 (0 : Int))).set_ 2 (.int .i64 (b + 1 : Int))).own, ((hb.setCell hq _).setCell hq _)⟩

set_option maxHeartbeats 2000000 in
set_option maxRecDepth 100000 in
theorem Next_j (a : Nat) (g o c : Nat) (w : World) (hr : Rd w w.heap.size 1 (some ⟨g, o, none⟩) 4 (intsV [(8 : Int), (a : Int), (14 : Int), (14 : Int)])) (ha : a < 14) :
    Calls Try.prog 27 #[.slice (some ⟨g, o, none⟩) 4 c] w fun e w' => ∃ v, e = .returned v ∧ OwnI w w' v [(8 : Int), (a + 1 : Int), (0 : Int), (0 : Int)] ∧ Below w.heap.size w w' := by
  obtain ⟨i0, hi, hz0, hz1, hz2⟩ := info_parts Try.info3
  have hnil := (OwnB.lit w w.heap.size (Nat.le_refl _) 3 1 0 #[] (by simp) (by simp)).own
  have hcs := rd_cells (hr.keep (w' := w.alloc (.cells #[] 3)) (fun p hp => World.cell?_alloc_lt w _ p hp))
  clear hr
  have HN := Lib.hid hnil
  have HC := Lib.hid hcs
  clear hnil hcs
  go_enter Try.func27, Try.ntmps27
  go_wp2_with (at_builtin; refine wpList_append_own _ rfl (.tmp 5) (.tmp 6) 25 rfl w.heap.size 3 i0 _ 1 8 Try.underlying25 hi hz0 hz1 hz2 rfl (by decide) _ _ _ rfl HN.out ⟨g, o, none⟩ 4 c (intsV [(8 : Int), (a : Int), (14 : Int), (14 : Int)]) (by rfl) (by rfl) HC.out (intsV_one [(8 : Int), (a : Int), (14 : Int), (14 : Int)]) (by unfold maxLen; simp) (by simp) (by simp) ?_)
  intro v' w1 hown hgrow _
  have hb := ((Below.refl _ w).alloc (Nat.le_refl _) (.cells #[] 3)).grown hgrow (by simp) (fun k hk => by simp [Value.ownBlock] at hk; omega)
  obtain ⟨q, cap, rfl, hB⟩ := own_pos hown (by decide)
  have c0 : w1.cell? ⟨q, 0, none⟩ = some (.int .i64 (8 : Int)) := hB.cell 0 (by decide)
  have c1 : w1.cell? ⟨q, 1, none⟩ = some (.int .i64 (a : Int)) := hB.cell 1 (by decide)
  have c2 : w1.cell? ⟨q, 2, none⟩ = some (.int .i64 (14 : Int)) := hB.cell 2 (by decide)
  have c3 : w1.cell? ⟨q, 3, none⟩ = some (.int .i64 (14 : Int)) := hB.cell 3 (by decide)
  have f0 : w1.frozen? ⟨q, 0, none⟩ = false := hB.frozen 0
  have f1 : w1.frozen? ⟨q, 1, none⟩ = false := hB.frozen 1
  have f2 : w1.frozen? ⟨q, 2, none⟩ = false := hB.frozen 2
  have f3 : w1.frozen? ⟨q, 3, none⟩ = false := hB.frozen 3
  have HB := Lib.hid hB
  have hq := hB.base_
  clear hown hB HN HC hgrow
  go_wp2
  refine wp_loop_rounds 3 ?_
  rw [rounds_succ]
  go_wp2
  rw [rounds_succ]
  go_wp2
  rw [rounds_succ]
  go_wp2
  go_ret
  exact ⟨_, rfl, (((HB.out.set_ 3 (.int .i64 (0 : Int))).set_ 2 (.int .i64 (0 : Int))).set_ 1 (.int .i64 (a + 1 : Int))).own, (((hb.setCell hq _).setCell hq _).setCell hq _)⟩

set_option maxHeartbeats 2000000 in
set_option maxRecDepth 100000 in
theorem Next_k (g o c : Nat) (w : World) (hr : Rd w w.heap.size 1 (some ⟨g, o, none⟩) 4 (intsV [(8 : Int), (14 : Int), (14 : Int), (14 : Int)]))  :
    Calls Try.prog 27 #[.slice (some ⟨g, o, none⟩) 4 c] w fun e w' => ∃ v, e = .returned v ∧ v = .slice none 0 0 ∧ Below w.heap.size w w' := by
  obtain ⟨i0, hi, hz0, hz1, hz2⟩ := info_parts Try.info3
  have hnil := (OwnB.lit w w.heap.size (Nat.le_refl _) 3 1 0 #[] (by simp) (by simp)).own
  have hcs := rd_cells (hr.keep (w' := w.alloc (.cells #[] 3)) (fun p hp => World.cell?_alloc_lt w _ p hp))
  clear hr
  have HN := Lib.hid hnil
  have HC := Lib.hid hcs
  clear hnil hcs
  go_enter Try.func27, Try.ntmps27
  go_wp2_with (at_builtin; refine wpList_append_own _ rfl (.tmp 5) (.tmp 6) 25 rfl w.heap.size 3 i0 _ 1 8 Try.underlying25 hi hz0 hz1 hz2 rfl (by decide) _ _ _ rfl HN.out ⟨g, o, none⟩ 4 c (intsV [(8 : Int), (14 : Int), (14 : Int), (14 : Int)]) (by rfl) (by rfl) HC.out (intsV_one [(8 : Int), (14 : Int), (14 : Int), (14 : Int)]) (by unfold maxLen; simp) (by simp) (by simp) ?_)
  intro v' w1 hown hgrow _
  have hb := ((Below.refl _ w).alloc (Nat.le_refl _) (.cells #[] 3)).grown hgrow (by simp) (fun k hk => by simp [Value.ownBlock] at hk; omega)
  obtain ⟨q, cap, rfl, hB⟩ := own_pos hown (by decide)
  have c0 : w1.cell? ⟨q, 0, none⟩ = some (.int .i64 (8 : Int)) := hB.cell 0 (by decide)
  have c1 : w1.cell? ⟨q, 1, none⟩ = some (.int .i64 (14 : Int)) := hB.cell 1 (by decide)
  have c2 : w1.cell? ⟨q, 2, none⟩ = some (.int .i64 (14 : Int)) := hB.cell 2 (by decide)
  have c3 : w1.cell? ⟨q, 3, none⟩ = some (.int .i64 (14 : Int)) := hB.cell 3 (by decide)
  have f0 : w1.frozen? ⟨q, 0, none⟩ = false := hB.frozen 0
  have f1 : w1.frozen? ⟨q, 1, none⟩ = false := hB.frozen 1
  have f2 : w1.frozen? ⟨q, 2, none⟩ = false := hB.frozen 2
  have f3 : w1.frozen? ⟨q, 3, none⟩ = false := hB.frozen 3
  have HB := Lib.hid hB
  have hq := hB.base_
  clear hown hB HN HC hgrow
  go_wp2
  refine wp_loop_rounds 4 ?_
  rw [rounds_succ]
  go_wp2
  rw [rounds_succ]
  go_wp2
  rw [rounds_succ]
  go_wp2
  rw [rounds_succ]
  go_wp2
  go_ret
  exact ⟨_, rfl, rfl, (((hb.setCell hq _).setCell hq _).setCell hq _)⟩
end Go.Proofs.Ytmladfkafbjmoaa
