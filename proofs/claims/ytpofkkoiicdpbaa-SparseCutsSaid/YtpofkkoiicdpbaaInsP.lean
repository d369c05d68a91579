/-
  Walks: slices.Insert at rows of blocks: one block put in.
-/
import Derived.Test.YtpofkkoiicdpbaaSparseG
import Derived.Test.YtpofkkoiicdpbaaStore
import Derived.Deep.RegionLaw
namespace Go.Proofs.Ytpofkkoiicdpbaa
open Go.RowKit

set_option maxHeartbeats 4000000 in
set_option maxRecDepth 100000 in
theorem InsertP_end (base n gv : Nat) (v : Value) (xs cs : List Value) (w : World) (h : w.ownsRow base 62 2 v n xs) (hv : Blk w gv 62 (0, 0) cs.toArray) (hcl : cs.length = 2) (hcone : ∀ u ∈ cs, u.oneCell' = true) (hn : n ≤ 100000) (hb : base ≤ w.heap.size) :
    Calls Try.prog 38 #[v, .int .i64 n, .slice (some ⟨gv, 0, none⟩) 1 1] w fun e w' => (∃ v', e = .returned v' ∧ w'.ownsRow base 62 2 v' (n + 1) (xs ++ cs)) ∧ Below base w w' := by
  obtain ⟨i0, hi, hz0, hz1, hz2⟩ := info_parts Try.info62
  have hnews : ∀ j u, cs[j]? = some u → w.cell? ((⟨gv, 0, none⟩ : Addr).add j) = some u := hv.reads 0 cs (by simp)
  have HN := Lib.hid hnews
  have HC := Lib.hid hcone
  have HL := Lib.hid (show cs.length = 1 * 2 by rw [hcl])
  have HO := Lib.hid h
  clear hnews hcone hcl hv
  rcases own_cases h with ⟨rfl, rfl, rfl⟩ | ⟨g, cap, rfl, hB⟩
  · clear h
    go_enter Try.func38, Try.ntmps38
    go_wp2_with (at_builtin; refine wpList_append_own _ rfl (.tmp 23) (.tmp 24) 22 rfl base 62 i0 _ 2 32 Try.underlying22 hi hz0 hz1 hz2 rfl (by decide) _ _ _ rfl HO.out ⟨gv, 0, none⟩ 1 1 cs (by rfl) HL.out HN.out HC.out (by unfold maxLen; omega) (by omega) hb ?_)
    intro v' w' hown' hgrow _
    have hb1 : Below base w w' := (Below.refl base w).grown hgrow hb (fun k hk => (HO.out.lt k hk).1)
    have HO1 := Lib.hid hown'
    clear hown' hgrow
    go_wp2
    go_ret
    exact ⟨⟨_, rfl, HO1.out⟩, hb1⟩
  · have hcp := hB.caps
    have hcp2 := hcp.2
    unfold maxLen at hcp2
    clear h
    rcases Nat.lt_or_ge n cap with hlt | hge
    · have hne : ¬ (cap = n) := by omega
      go_enter Try.func38, Try.ntmps38
      go_wp2_with (at_builtin; refine wpList_append_own _ rfl (.tmp 23) (.tmp 24) 22 rfl base 62 i0 _ 2 32 Try.underlying22 hi hz0 hz1 hz2 rfl (by decide) _ _ _ rfl HO.out ⟨gv, 0, none⟩ 1 1 cs (by rfl) HL.out HN.out HC.out (by unfold maxLen; omega) (by omega) hb ?_)
      intro v' w' hown' hgrow _
      have hb1 : Below base w w' := (Below.refl base w).grown hgrow hb (fun k hk => (HO.out.lt k hk).1)
      have HO1 := Lib.hid hown'
      clear hown' hgrow
      go_wp2
      go_ret
      exact ⟨⟨_, rfl, HO1.out⟩, hb1⟩
    · obtain rfl : n = cap := by omega
      go_enter Try.func38, Try.ntmps38
      go_wp2_with (at_builtin; refine wpList_append_own _ rfl (.tmp 23) (.tmp 24) 22 rfl base 62 i0 _ 2 32 Try.underlying22 hi hz0 hz1 hz2 rfl (by decide) _ _ _ rfl HO.out ⟨gv, 0, none⟩ 1 1 cs (by rfl) HL.out HN.out HC.out (by unfold maxLen; omega) (by omega) hb ?_)
      intro v' w' hown' hgrow _
      have hb1 : Below base w w' := (Below.refl base w).grown hgrow hb (fun k hk => (HO.out.lt k hk).1)
      have HO1 := Lib.hid hown'
      clear hown' hgrow
      go_wp2
      go_ret
      exact ⟨⟨_, rfl, HO1.out⟩, hb1⟩

set_option maxHeartbeats 4000000 in
set_option maxRecDepth 100000 in
/-- There is room: in place. -/
theorem InsertP_room (base n i gv g cap : Nat) (cur : List Value) (cs : List Value) (w : World) (hB : Blk w g 62 (0, 0) cur.toArray) (hcur : cur.length = cap * 2) (hone : ∀ u ∈ cur.take (n * 2), u.oneCell' = true) (hbg : base ≤ g)
    (hv : Blk w gv 62 (0, 0) cs.toArray) (hcl : cs.length = 2) (hcone : ∀ u ∈ cs, u.oneCell' = true) (hne : gv ≠ g) (hi : i < n) (hroom : n + 1 ≤ cap) (hn : n ≤ 100000) (hcm : cap ≤ maxLen) :
    Calls Try.prog 38 #[.slice (some ⟨g, 0, none⟩) n cap, .int .i64 i, .slice (some ⟨gv, 0, none⟩) 1 1] w fun e w' => (∃ v', e = .returned v' ∧ w'.ownsRow base 62 2 v' (n + 1) ((cur.take (n * 2)).take (i * 2) ++ cs ++ (cur.take (n * 2)).drop (i * 2))) ∧ Below base w w' := by
  obtain ⟨i0, hi0, hz0, hz1, hz2⟩ := info_parts Try.info62
  have hSE := Try.underlying22
  have hov : ∀ lb cb, (callFunc 45 #[.slice (some ⟨gv, 0, none⟩) 1 1, .slice (some ⟨g, (i + 1) * 2, none⟩) lb cb]).run Try.prog w = .ok (.value (.bool false)) w := fun lb cb => by
    rw [run_callFunc_extern Try.func45 (by kernel_rfl) (by kernel_rfl) (by kernel_rfl) (e := Extern.SlicesOverlaps.overlaps #[22, 22] #[4]) (by kernel_rfl),
      Lib.run_overlaps_apart w 22 4 62 hSE 2 Try.sizeOf62 ⟨gv, 0, none⟩ ⟨g, (i + 1) * 2, none⟩ 1 1 lb cb hne 62 62 cs.length cur.length (by unfold Blk at hv; simp [World.shape?, hv]) (by unfold Blk at hB; simp [World.shape?, hB]) (by omega) (hv.free 0) (hv.free _)]
    rfl
  unfold maxLen at hcm
  have hd1 : ¬ (cap = i) := by omega
  have hd2 : ¬ (cap = i + 1) := by omega
  have hw1 : IntKind.i64.wrap ((i : Int) + 1) = (i : Int) + 1 := by rw [IntKind.wrap_i64]; omega
  have hb1 : (0 : Int) ≤ (i : Int) + 1 := by omega
  have htn : ((i : Int) + 1).toNat = i + 1 := by omega
  have hb3 : (i : Int) ≤ (n : Int) + 1 := by omega
  have hb4 : (i : Int) + 1 ≤ (n : Int) + 1 := by omega
  obtain ⟨cs1, hcs1⟩ : ∃ cs1, (cur.drop (i * 2)).take ((n - i) * 2) = cs1 := ⟨_, rfl⟩
  have hl1 : cs1.length = (n - i) * 2 := by rw [← hcs1, List.length_take, List.length_drop]; omega
  have hone1 : ∀ u ∈ cs1, u.oneCell' = true := by
    intro u hu
    refine hone u ?_
    rw [← hcs1] at hu
    rw [show (cur.drop (i * 2)).take ((n - i) * 2) = (cur.take (n * 2)).drop (i * 2) by rw [List.drop_take]; congr 1; omega] at hu
    exact List.mem_of_mem_drop hu
  have hBd : Blk w.drew g 62 (0, 0) cur.toArray := hB
  have hcp1 : ∀ ty dc sc, (Builtin.copy_ #[22, 22] ty #[.slice (some ⟨g, (i + 1) * 2, none⟩) (n - i) dc, .slice (some ⟨g, i * 2, none⟩) (n + 1 - i) sc]).run Try.prog w.drew = .ok (goInt ((n - i : Nat) : Int)) (w.drew.setCells g ((i + 1) * 2) cs1) := fun ty dc sc => by
    have := run_copy_many w.drew 22 22 ty 62 i0 2 g ((i + 1) * 2) (n - i) dc ⟨g, i * 2, none⟩ (n + 1 - i) sc cs1 hSE hi0 hz1 (by rw [hl1]; simp only [Nat.min_def]; split <;> omega)
      (hBd.reads (i * 2) cs1 (by rw [hl1]; exact hcs1)) (fun j hj => hBd.isSome (by omega)) (fun j hj => hBd.free _) hone1
    rw [show Nat.min (n + 1 - i) (n - i) = n - i from by simp only [Nat.min_def]; split <;> omega] at this
    exact this
  have hB1 : Blk (w.drew.setCells g ((i + 1) * 2) cs1) g 62 (0, 0) (lay cur ((i + 1) * 2) cs1).toArray := hBd.setCells cs1 ((i + 1) * 2) _ cur (by omega)
  have hv1 : Blk (w.drew.setCells g ((i + 1) * 2) cs1) gv 62 (0, 0) cs.toArray := Blk.far_cells hne cs1 _ w.drew hv
  have hb5 : Below base w (w.drew.setCells g ((i + 1) * 2) cs1) := below_setCells hbg cs1 _ _ ⟨rfl, rfl, rfl, Nat.le_refl _, fun _ _ => rfl⟩
  obtain ⟨W1, hW1⟩ : ∃ W1, w.drew.setCells g ((i + 1) * 2) cs1 = W1 := ⟨_, rfl⟩
  have hlen1 : (lay cur ((i + 1) * 2) cs1).length = cur.length := lay_len _ _ _ (by omega)
  have hfin : (lay (lay cur ((i + 1) * 2) cs1) (i * 2) cs).take ((n + 1) * 2) = (cur.take (n * 2)).take (i * 2) ++ cs ++ (cur.take (n * 2)).drop (i * 2) := by
    have := ins_lay cur cs (i * 2) (n * 2) (by omega) (by omega)
    rw [hcl, show n * 2 - i * 2 = (n - i) * 2 from by omega, hcs1] at this
    rw [show (i + 1) * 2 = i * 2 + 2 from by omega, show (n + 1) * 2 = n * 2 + 2 from by omega]
    exact this
  rw [hW1] at hcp1 hB1 hv1 hb5
  have hcp2 : ∀ (m : Nat) ty dc, (Builtin.copy_ #[22, 22] ty #[.slice (some ⟨g, i * 2, none⟩) (n + 1 - i) dc, .slice (some ⟨gv, 0, none⟩) 1 1]).run Try.prog W1 = .ok (goInt 1) (W1.setCells g (i * 2) cs) := fun m ty dc => by
    have := run_copy_many W1 22 22 ty 62 i0 2 g (i * 2) (n + 1 - i) dc ⟨gv, 0, none⟩ 1 1 cs hSE hi0 hz1 (by rw [hcl, show Nat.min 1 (n + 1 - i) = 1 from by simp only [Nat.min_def]; split <;> omega])
      (hv1.reads 0 cs (by simp)) (fun j hj => hB1.isSome (by omega)) (fun j hj => hB1.free _) hcone
    rw [show Nat.min 1 (n + 1 - i) = 1 from by simp only [Nat.min_def]; split <;> omega] at this
    exact this
  have hB2 : Blk (W1.setCells g (i * 2) cs) g 62 (0, 0) (lay (lay cur ((i + 1) * 2) cs1) (i * 2) cs).toArray := hB1.setCells cs _ _ _ (by omega)
  have hb6 : Below base w (W1.setCells g (i * 2) cs) := below_setCells hbg cs _ _ hb5
  have HO : Hid ((W1.setCells g (i * 2) cs).ownsRow base 62 2 (.slice (some ⟨g, 0, none⟩) (n + 1) cap) (n + 1) ((cur.take (n * 2)).take (i * 2) ++ cs ++ (cur.take (n * 2)).drop (i * 2))) := Lib.hid (by
    rw [← hfin]
    exact ⟨by rw [List.length_take, lay_len _ _ _ (by omega), hlen1]; omega, .inr ⟨g, cap, _, rfl, hbg, hB2, hroom, by unfold maxLen; omega, by simp only [List.size_toArray]; rw [lay_len _ _ _ (by omega), hlen1, hcur], by simp⟩⟩)
  have HC2 := Lib.hid hcp2
  clear hfin hB2 hB1 hv1 hlen1 hB hBd hone hone1 hcs1 hl1 hcone hv hcp2
  clear hW1
  go_enter Try.func38, Try.ntmps38
  go_wp2_with (simp only [hov])
  go_region_law (refine step_copy_known _ rfl (.tmp 73) (.tmp 76) 22 22 rfl (.slice (some ⟨g, (i + 1) * 2, none⟩) (n - i) (cap - (i + 1))) (.slice (some ⟨g, i * 2, none⟩) (n + 1 - i) (cap - i)) (by simp [Act.eval, Act.put]) (by simp [Act.eval, Act.put]) (hcp1 _ _ _) ?_)
  go_wp2_with (refine wpList_copy_known _ rfl (.tmp 80) (.tmp 81) 22 22 rfl _ _ rfl rfl (HC2.out 0 _ _) ?_)
  go_ret
  exact ⟨⟨_, rfl, HO.out⟩, hb6⟩

set_option maxHeartbeats 4000000 in
set_option maxRecDepth 100000 in
/-- There is no room: a new row. -/
theorem InsertP_grow (base n i gv g : Nat) (xs cs : List Value) (w : World) (hB : Blk w g 62 (0, 0) xs.toArray) (hxl : xs.length = n * 2) (hone : ∀ u ∈ xs, u.oneCell' = true)
    (hv : Blk w gv 62 (0, 0) cs.toArray) (hcl : cs.length = 2) (hcone : ∀ u ∈ cs, u.oneCell' = true) (hi : i < n) (hn : n ≤ 100000) (hb : base ≤ w.heap.size) :
    Calls Try.prog 38 #[.slice (some ⟨g, 0, none⟩) n n, .int .i64 i, .slice (some ⟨gv, 0, none⟩) 1 1] w fun e w' => (∃ v', e = .returned v' ∧ w'.ownsRow base 62 2 v' (n + 1) (xs.take (i * 2) ++ cs ++ xs.drop (i * 2))) ∧ Below base w w' := by
  obtain ⟨i0, hi0, hz0, hz1, hz2⟩ := info_parts Try.info62
  have hSE := Try.underlying22
  have hik : i + (n + 1 - i) = n + 1 := by omega
  have hkk : (n : Int) + 1 - (i : Int) = ((n + 1 - i : Nat) : Int) := by omega
  have hold : (Builtin.firstCells i0.size i (.slice (some ⟨g, 0, none⟩) i n)).run Try.prog w.drew = .ok (xs.take (i * 2)).toArray w.drew := by
    have hBd : Blk w.drew g 62 (0, 0) xs.toArray := hB
    have h1 := run_loadCells_list (P := Try.prog) w.drew ⟨g, 0, none⟩ (xs.take (i * 2)) (hBd.reads 0 (xs.take (i * 2)) (by rw [List.drop_zero, List.length_take]; congr 1; omega))
    have h2 : (xs.take (i * 2)).length = i * 2 := by rw [List.length_take]; omega
    rw [h2] at h1
    simp only [Builtin.firstCells, hz1]
    exact h1
  have hrz : ∀ ty, (Builtin.append_ #[22, 3] ty #[.slice (some ⟨g, 0, none⟩) i n, .int .i64 ((n : Int) + 1 - (i : Int))]).run Try.prog w =
      .ok (.slice (some ⟨w.heap.size, 0, none⟩) (n + 1) (grownCap w (n + 1) n 62)) (w.drew.alloc (.cells ((xs.take (i * 2)).toArray ++ Builtin.zeroCells (Value.cells (.agg #[.int .i64 0, .slice none 0 0])) (n + 1 - i) ++ Builtin.zeroCells (Value.cells (.agg #[.int .i64 0, .slice none 0 0])) (grownCap w (n + 1) n 62 - (n + 1))) 62)) := fun ty => by
    have h := Lib.run_append_grow_zeros w 22 3 ty 62 i0 _ .i64 .i64 hSE Try.underlying3 hi0 hz0 (some ⟨g, 0, none⟩) i n (xs.take (i * 2)) hold (n + 1 - i) (by omega) (by omega) (by omega) (by omega) (by rw [hz2]; omega) (by rw [hz2, hik]; exact growslice_fits (by omega) (by omega))
    rw [hik] at h
    rw [hkk]
    exact h
  have hGn : n + 1 ≤ grownCap w (n + 1) n 62 := grownCap_ge w _ _ _
  have hGm := grownCap_le_maxLen w (n + 1) n 62 (by unfold maxLen; omega)
  obtain ⟨G, hG⟩ : ∃ G, grownCap w (n + 1) n 62 = G := ⟨_, rfl⟩
  rw [hG] at hrz hGn hGm
  obtain ⟨row, hrow⟩ : ∃ row : List Value, row = ((xs.take (i * 2)).toArray ++ Builtin.zeroCells (Value.cells (.agg #[.int .i64 0, .slice none 0 0])) (n + 1 - i) ++ Builtin.zeroCells (Value.cells (.agg #[.int .i64 0, .slice none 0 0])) (G - (n + 1))).toList := ⟨_, rfl⟩
  have hrl : row.length = G * 2 := by
    rw [hrow]
    simp only [Array.toList_append, List.length_append, zeroCells_len, List.length_take]
    have : (Value.cells (.agg #[.int .i64 0, .slice none 0 0])).size = 2 := rfl
    rw [this]
    omega
  have hr0 : row.take (i * 2) = xs.take (i * 2) := by
    rw [hrow]
    simp only [Array.toList_append, List.append_assoc]
    rw [List.take_append_of_le_length (by simp; omega), List.take_of_length_le (by simp; omega)]
  rw [show (xs.take (i * 2)).toArray ++ Builtin.zeroCells (Value.cells (.agg #[.int .i64 0, .slice none 0 0])) (n + 1 - i) ++ Builtin.zeroCells (Value.cells (.agg #[.int .i64 0, .slice none 0 0])) (G - (n + 1)) = row.toArray from by rw [hrow]] at hrz
  obtain ⟨H, hH⟩ : ∃ H, w.heap.size = H := ⟨_, rfl⟩
  have hgH : g ≠ H := by have := hB.lt; omega
  have hvH : gv ≠ H := by have := hv.lt; omega
  obtain ⟨W1, hW1⟩ : ∃ W1, w.drew.alloc (.cells row.toArray 62) = W1 := ⟨_, rfl⟩
  have hR1 : Blk W1 H 62 (0, 0) row.toArray := by rw [← hW1, ← hH]; exact Blk.new w.drew _ _ _
  have hB1 : Blk W1 g 62 (0, 0) xs.toArray := by rw [← hW1]; exact Blk.alloc (w := w.drew) hB _
  have hv1 : Blk W1 gv 62 (0, 0) cs.toArray := by rw [← hW1]; exact Blk.alloc (w := w.drew) hv _
  have hb1 : Below base w W1 := by
    rw [← hW1]
    have hbd : Below base w w.drew := ⟨rfl, rfl, rfl, Nat.le_refl _, fun _ _ => rfl⟩
    exact hbd.alloc hb _
  rw [hW1, hH] at hrz
  rw [hH] at hb
  unfold maxLen at hGm
  have hcp1 : ∀ ty dc, (Builtin.copy_ #[22, 22] ty #[.slice (some ⟨H, i * 2, none⟩) (n + 1 - i) dc, .slice (some ⟨gv, 0, none⟩) 1 1]).run Try.prog W1 = .ok (goInt 1) (W1.setCells H (i * 2) cs) := fun ty dc => by
    have := run_copy_many W1 22 22 ty 62 i0 2 H (i * 2) (n + 1 - i) dc ⟨gv, 0, none⟩ 1 1 cs hSE hi0 hz1 (by rw [hcl, show Nat.min 1 (n + 1 - i) = 1 from by simp only [Nat.min_def]; split <;> omega])
      (hv1.reads 0 cs (by simp)) (fun j hj => hR1.isSome (by omega)) (fun j hj => hR1.free _) hcone
    rw [show Nat.min 1 (n + 1 - i) = 1 from by simp only [Nat.min_def]; split <;> omega] at this
    exact this
  have hR2 : Blk (W1.setCells H (i * 2) cs) H 62 (0, 0) (lay row (i * 2) cs).toArray := hR1.setCells cs _ _ _ (by omega)
  have hB2 : Blk (W1.setCells H (i * 2) cs) g 62 (0, 0) xs.toArray := Blk.far_cells hgH cs _ W1 hB1
  have hb2 : Below base w (W1.setCells H (i * 2) cs) := below_setCells hb cs _ _ hb1
  obtain ⟨W2, hW2⟩ : ∃ W2, W1.setCells H (i * 2) cs = W2 := ⟨_, rfl⟩
  rw [hW2] at hcp1 hR2 hB2 hb2
  have hlen2 : (lay row (i * 2) cs).length = row.length := lay_len _ _ _ (by omega)
  obtain ⟨cs1, hcs1⟩ : ∃ cs1, xs.drop (i * 2) = cs1 := ⟨_, rfl⟩
  have hl1 : cs1.length = (n - i) * 2 := by rw [← hcs1, List.length_drop]; omega
  have hone1 : ∀ u ∈ cs1, u.oneCell' = true := fun u hu => hone u (by rw [← hcs1] at hu; exact List.mem_of_mem_drop hu)
  have hcp2 : ∀ ty dc sc, (Builtin.copy_ #[22, 22] ty #[.slice (some ⟨H, (i + 1) * 2, none⟩) (n - i) dc, .slice (some ⟨g, i * 2, none⟩) (n - i) sc]).run Try.prog W2.drew = .ok (goInt ((n - i : Nat) : Int)) (W2.drew.setCells H ((i + 1) * 2) cs1) := fun ty dc sc => by
    have hB2d : Blk W2.drew g 62 (0, 0) xs.toArray := hB2
    have hR2d : Blk W2.drew H 62 (0, 0) (lay row (i * 2) cs).toArray := hR2
    have := run_copy_many W2.drew 22 22 ty 62 i0 2 H ((i + 1) * 2) (n - i) dc ⟨g, i * 2, none⟩ (n - i) sc cs1 hSE hi0 hz1 (by rw [hl1]; simp only [Nat.min_def]; split <;> omega)
      (hB2d.reads (i * 2) cs1 (by rw [hl1, List.take_of_length_le (by rw [List.length_drop]; omega)]; exact hcs1)) (fun j hj => hR2d.isSome (by omega)) (fun j hj => hR2d.free _) hone1
    rw [show Nat.min (n - i) (n - i) = n - i from by simp only [Nat.min_def]; split <;> omega] at this
    exact this
  have hR3 : Blk (W2.drew.setCells H ((i + 1) * 2) cs1) H 62 (0, 0) (lay (lay row (i * 2) cs) ((i + 1) * 2) cs1).toArray := Blk.setCells cs1 _ W2.drew _ hR2 (by omega)
  have hb3 : Below base w (W2.drew.setCells H ((i + 1) * 2) cs1) := below_setCells hb cs1 _ W2.drew ⟨hb2.os, hb2.tape, hb2.output, hb2.size, hb2.block⟩
  have hfin : (lay (lay row (i * 2) cs) ((i + 1) * 2) cs1).take ((n + 1) * 2) = xs.take (i * 2) ++ cs ++ xs.drop (i * 2) := by
    have := grow_lay row _ cs cs1 (i * 2) hr0 (by omega)
    rw [hcl, show i * 2 + 2 = (i + 1) * 2 from by omega, show (i + 1) * 2 + cs1.length = (n + 1) * 2 from by omega] at this
    rw [this, hcs1]
  have HO : Hid ((W2.drew.setCells H ((i + 1) * 2) cs1).ownsRow base 62 2 (.slice (some ⟨H, 0, none⟩) (n + 1) G) (n + 1) (xs.take (i * 2) ++ cs ++ xs.drop (i * 2))) := Lib.hid (by
    rw [← hfin]
    exact ⟨by rw [List.length_take, lay_len _ _ _ (by omega), hlen2]; omega, .inr ⟨H, G, _, rfl, hb, hR3, hGn, by unfold maxLen; omega, by simp only [List.size_toArray]; rw [lay_len _ _ _ (by omega), hlen2, hrl], by simp⟩⟩)
  have HC1 := Lib.hid hcp1
  have HC2 := Lib.hid hcp2
  have HRZ := Lib.hid hrz
  have hd1 : ¬ (n = i) := by omega
  have hd2 : ¬ (G = i) := by omega
  have hd3 : ¬ (G = i + 1) := by omega
  have hw1 : IntKind.i64.wrap ((i : Int) + 1) = (i : Int) + 1 := by rw [IntKind.wrap_i64]; omega
  have hx1 : (0 : Int) ≤ (i : Int) + 1 := by omega
  have htn : ((i : Int) + 1).toNat = i + 1 := by omega
  have hx3 : (i : Int) ≤ (n : Int) + 1 := by omega
  have hx4 : (i : Int) + 1 ≤ (n : Int) + 1 := by omega
  have hx5 : (i : Int) ≤ (n : Int) := by omega
  clear hfin hR3 hR2 hR1 hB1 hB2 hv1 hlen2 hB hone hone1 hcs1 hl1 hcone hv hcp1 hcp2 hrz hold hkk hik hrow hrl hr0 hG hH hb1 hb2 hcl
  clear hW1 hW2 hi0 hz0 hz1 hz2 hgH hvH hxl
  go_enter Try.func38, Try.ntmps38
  go_wp2_with (first
    | (at_builtin; refine wpList_append_known _ rfl (.tmp 34) (.tmp 39) 22 3 rfl _ _ rfl rfl (HRZ.out _) ?_)
    | (refine wpList_copy_known _ rfl (.tmp 43) (.tmp 44) 22 22 rfl _ _ rfl rfl (HC1.out _ _) ?_))
  go_region_law (refine step_copy_known _ rfl (.tmp 50) (.tmp 53) 22 22 rfl (.slice (some ⟨H, (i + 1) * 2, none⟩) (n - i) (G - (i + 1))) (.slice (some ⟨g, i * 2, none⟩) (n - i) (n - i)) (by simp [Act.eval, Act.put]) (by simp [Act.eval, Act.put]) (HC2.out _ _ _) ?_)
  go_wp2
  go_ret
  exact ⟨⟨_, rfl, HO.out⟩, hb3⟩

/-- One block put in at its place. -/
theorem InsertP_any (base n i gv : Nat) (v : Value) (xs cs : List Value) (w : World) (h : w.ownsRow base 62 2 v n xs) (hone : ∀ u ∈ xs, u.oneCell' = true) (hv : Blk w gv 62 (0, 0) cs.toArray) (hcl : cs.length = 2) (hcone : ∀ u ∈ cs, u.oneCell' = true)
    (hne : v.ownBlock ≠ some gv) (hi : i ≤ n) (hn : n ≤ 100000) (hb : base ≤ w.heap.size) :
    Calls Try.prog 38 #[v, .int .i64 i, .slice (some ⟨gv, 0, none⟩) 1 1] w fun e w' => (∃ v', e = .returned v' ∧ w'.ownsRow base 62 2 v' (n + 1) (xs.take (i * 2) ++ cs ++ xs.drop (i * 2))) ∧ Below base w w' := by
  have hl := h.1
  rcases Nat.lt_or_ge i n with hlt | hge
  · rcases own_cases h with ⟨rfl, rfl, rfl⟩ | ⟨g, cap, rfl, hB⟩
    · omega
    · have hgne : gv ≠ g := fun e => hne (by rw [e]; rfl)
      obtain ⟨cur, hk, hs, ht, hxl, hbg, hnc, hcm⟩ := hB
      have hk' : Blk w g 62 (0, 0) cur.toList.toArray := by simpa using hk
      have hs' : cur.toList.length = cap * 2 := by simpa using hs
      rcases Nat.lt_or_ge n cap with h1 | h1
      · have := InsertP_room base n i gv g cap cur.toList cs w hk' hs' (by rw [ht]; exact hone) hbg hv hcl hcone hgne hlt h1 hn hcm
        rw [ht] at this
        exact this
      · obtain rfl : n = cap := by omega
        have hx : cur.toList = xs := by rw [← ht, List.take_of_length_le (by omega)]
        rw [hx] at hk'
        exact InsertP_grow base n i gv g xs cs w hk' hl hone hv hcl hcone hlt hn hb
  · obtain rfl : i = n := by omega
    rw [List.take_of_length_le (by omega), List.drop_of_length_le (by omega), List.append_nil]
    exact InsertP_end base i gv v xs cs w h hv hcl hcone hn hb
end Go.Proofs.Ytpofkkoiicdpbaa
