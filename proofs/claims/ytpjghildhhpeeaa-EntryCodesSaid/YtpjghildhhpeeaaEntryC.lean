/-
  Walks: may entries be (the document's, and the program's).
-/
import Derived.Test.YtpjghildhhpeeaaEntryB
import Derived.Test.YtpjghildhhpeeaaTitleH
import Derived.Test.YtpjghildhhpeeaaCalm
namespace Go.Proofs.Ytpjghildhhpeeaa
open Go.RowKit

theorem okAt_first (l : List Ent) (k : Nat) (x : Ent) (h : k = 0) : okAt l k x = okE x := by unfold okAt; simp [h]
theorem okAt_next (l : List Ent) (k : Nat) (x p : Ent) (h : 0 < k) (hp : l[k - 1]? = some p) : okAt l k x = (okE x && decide (cmpL p.1 x.1 = -1)) := by
  unfold okAt
  rw [hp]
  simp only [show decide (k = 0) = false from decide_eq_false (by omega), Bool.false_or]
theorem okE_name (x : Ent) (h : isName x.1 = false) : okE x = false := by unfold okE; rw [h, Bool.false_and]
theorem okE_right (x : Ent) (h : rightE x = false) : okE x = false := by unfold okE; rw [h, Bool.and_false]
theorem okE_yes (x : Ent) (h : isName x.1 = true) (h2 : rightE x = true) : okE x = true := by unfold okE; rw [h, h2]; rfl

set_option maxHeartbeats 4000000 in
set_option maxRecDepth 100000 in
theorem rMay_any (A : Option Addr) (n c : Nat) (l : List Ent) (w : World) (hr : Rd w w.heap.size 3 A n (rowE l)) (hn : n ≤ 1000000) (hsz : ∀ x ∈ l, x.1.length ≤ 1000000) :
    Calls Try.prog 21 #[.slice A n c] w fun e w' => e = .returned (.bool (mayL l)) ∧ Below w.heap.size w w' := by
  have hln := rowV_count fE_len hr (by omega)
  have hml : mayL l = (goodL l && decide (n ≤ 30)) := by unfold mayL; rw [hln]
  rw [hml]
  have HR := Lib.hid hr
  have HS := Lib.hid hsz
  have HL := Lib.hid hln
  clear hr hsz hln hml
  go_enter Try.func21, Try.ntmps21
  go_wp2
  go_loopw [3] (fun i wr => ∃ k : Nat, k ≤ n ∧ i = .int .i64 k ∧ Hid (goodL (l.take k) = true) ∧ Below w.heap.size w wr) (fun i _ => n - (intOf i).toNat)
  case atStart => exact ⟨0, Nat.zero_le _, rfl, Lib.hid (by simp [goodL]), Below.refl _ _⟩
  case round =>
    obtain ⟨k, hk, rfl, HG, hbw⟩ := hrel
    by_cases hlt : k < n
    · obtain ⟨g, o, x, hA, hg, hx, hc0, hc1, hc2⟩ := ent_at ((HR.out.below hbw).more hbw.size) hlt
      have hxs := HS.out x (List.mem_iff_getElem?.2 ⟨k, hx⟩)
      have HX := Lib.hid hx
      have HGT := Lib.hid (goodL_take l k x hx)
      have HGB := Lib.hid (goodL_bad l k x hx)
      obtain ⟨s, hs⟩ : ∃ s, st x.1 = s := ⟨_, rfl⟩
      have hos : oc s = x.1 := by rw [← hs, oc_st]
      have hss : s.size ≤ 1000000 := by rw [← oc_len, hos]; exact hxs
      have hIs : ∀ W, Calls Try.prog 25 #[.string s] W fun e w' => e = .returned (.bool (isName x.1)) ∧ Below W.heap.size W w' := fun W => by have := rIs_any s W hss; rw [hos] at this; exact this
      have hRi : ∀ W, Calls Try.prog 30 #[.agg #[.string s, .int .i64 x.2.1, .int .i64 x.2.2]] W fun e w' => e = .returned (.bool (rightE x)) ∧ Below W.heap.size W w' := fun W => by have := rright_any x W; unfold vE at this; rw [hs] at this; exact this
      rw [hs] at hc0
      obtain ⟨ino, hino⟩ : ∃ ino, x.2.1 = ino := ⟨_, rfl⟩
      obtain ⟨ty, hty⟩ : ∃ ty, x.2.2 = ty := ⟨_, rfl⟩
      rw [hino, hty] at hRi
      rw [hino] at hc1
      rw [hty] at hc2
      have hk0 : (0 : Int) ≤ (k : Int) := Int.natCast_nonneg _
      have hk1 : (k : Int) < (n : Int) := by omega
      have q0 : ∀ z : Later wr, z.x.cell? ⟨g, o + k * 3, none⟩ = some (.string s) := fun z => z.cell hc0
      have q1 : ∀ z : Later wr, z.x.cell? ⟨g, o + k * 3 + 1, none⟩ = some (.int .i64 ino) := fun z => z.cell hc1
      have q2 : ∀ z : Later wr, z.x.cell? ⟨g, o + k * 3 + 2, none⟩ = some (.int .i64 ty) := fun z => z.cell hc2
      have hne := later_ne wr
      have hbx := hbw
      subst hA
      clear hx hs hino hty hxs
      cases hnm : isName x.1 with
      | false =>
        rw [hnm] at hIs
        have HB := Lib.hid (HGB.out (by unfold okAt; rw [okE_name x hnm, Bool.false_and]))
        have HIs := Lib.hid hIs
        clear hIs hRi hnm hos
        go_wp2_with fail
        refine wp_region_calm (by kernel_rfl) (by kernel_rfl) ?_
        repeat (first | go_big_quiet_skip | (go_big_quiet_want; go_big_quiet_op; first | go_big_quiet_on | go_big_quiet_call ((first | (go_at_call 25; exact Later.call _ (HIs.out _))))))
        refine wpQuiet_nil ?_
        rintro _ ⟨⟨w1, hb1⟩, rfl⟩
        go_wp2
        go_ret
        refine ⟨ret_bool ?_, hbx.trans (hb1.mono hbx.size)⟩
        rw [HB.out, Bool.false_and]
      | true =>
      rw [hnm] at hIs
      cases hri : rightE x with
      | false =>
        rw [hri] at hRi
        have HB := Lib.hid (HGB.out (by unfold okAt; rw [okE_right x hri, Bool.false_and]))
        have HIs := Lib.hid hIs
        have HRi := Lib.hid hRi
        clear hIs hRi hnm hri hos
        go_wp2_with fail
        refine wp_region_calm (by kernel_rfl) (by kernel_rfl) ?_
        repeat (first | go_big_quiet_skip | (go_big_quiet_want; go_big_quiet_op; first | go_big_quiet_on | go_big_quiet_call ((first | (go_at_call 25; exact Later.call _ (HIs.out _)) | (go_at_call 30; exact Later.call _ (HRi.out _))))))
        refine wpQuiet_nil ?_
        rintro _ ⟨⟨w1, hb1⟩, rfl⟩
        go_wp2
        go_ret
        refine ⟨ret_bool ?_, hbx.trans (hb1.mono hbx.size)⟩
        rw [HB.out, Bool.false_and]
      | true =>
      rw [hri] at hRi
      by_cases hkz : k = 0
      · have HB := Lib.hid (show goodL (l.take (k + 1)) = true by rw [HGT.out, HG.out, okAt_first l k x hkz, okE_yes x hnm hri]; rfl)
        have hk2 : decide (0 < k) = false := decide_eq_false (by omega)
        have HIs := Lib.hid hIs
        have HRi := Lib.hid hRi
        clear hIs hRi hnm hri hos hkz
        go_wp2_with fail
        refine wp_region_calm (by kernel_rfl) (by kernel_rfl) ?_
        repeat (first | go_big_quiet_skip | (go_big_quiet_want; go_big_quiet_op; first | go_big_quiet_on | go_big_quiet_call ((first | (go_at_call 25; exact Later.call _ (HIs.out _)) | (go_at_call 30; exact Later.call _ (HRi.out _))))))
        refine wpQuiet_nil ?_
        rintro _ ⟨⟨w1, hb1⟩, rfl⟩
        go_wp2
        go_roundw
        case rel => exact ⟨k + 1, by omega, by go_num, HB, hbx.trans (hb1.mono hbx.size)⟩
        case measure => simp [intOf]; omega
      · have hkp : 1 ≤ k := by omega
        clear hkz
        have hg2' : ∃ p, l[k - 1]? = some p ∧ wr.cell? ⟨g, o + (k - 1) * 3, none⟩ = some (.string (st p.1)) := by
          obtain ⟨g2, o2, p, hA2, _, hp, hp0, _, _⟩ := ent_at ((HR.out.below hbw).more hbw.size) (show k - 1 < n by omega)
          injection hA2 with hA2
          injection hA2 with e1 e2 _
          subst e1 e2
          exact ⟨p, hp, hp0⟩
        obtain ⟨p, hp, hp0⟩ := hg2'
        obtain ⟨sp, hsp⟩ : ∃ sp, st p.1 = sp := ⟨_, rfl⟩
        have hop : oc sp = p.1 := by rw [← hsp, oc_st]
        have hps := HS.out p (List.mem_iff_getElem?.2 ⟨_, hp⟩)
        have hpss : sp.size ≤ 1000000 := by rw [← oc_len, hop]; exact hps
        rw [hsp] at hp0
        have q3 : ∀ z : Later wr, z.x.cell? ⟨g, o + (k - 1) * 3, none⟩ = some (.string sp) := fun z => z.cell hp0
        have hOr : ∀ W, Calls Try.prog 31 #[.string sp, .string s] W fun e w' => e = .returned (.int .i64 (cmpL p.1 x.1)) ∧ Below W.heap.size W w' := fun W => by have := rOrder_any sp s W hpss hss; rw [hop, hos] at this; exact this
        have hov := okAt_next l k x p (by omega) hp
        rw [okE_yes x hnm hri, Bool.true_and] at hov
        have hk2 : decide (0 < k) = true := decide_eq_true (by omega)
        have hk3 : (0 : Int) ≤ (k : Int) - 1 := by omega
        have hk4 : (k : Int) - 1 < (n : Int) := by omega
        clear hp hsp hop hps hpss hp0
        have hrng := cmpL_range p.1 x.1
        have hq' : ∃ q, cmpL p.1 x.1 = q := ⟨_, rfl⟩
        obtain ⟨q, hq⟩ := hq'
        rw [hq] at hrng hOr hov
        have HOr := Lib.hid hOr
        have HIs := Lib.hid hIs
        have HRi := Lib.hid hRi
        clear hIs hRi hnm hri hos hOr hq
        by_cases hq1 : q = -1
        · have HB := Lib.hid (show goodL (l.take (k + 1)) = true by rw [HGT.out, HG.out, hov]; simp [hq1])
          have hco : (q != -1) = false := by rw [bne_eq_false_iff_eq]; omega
          have hq2 : q ≤ -1 := by omega
          clear hov hrng
          have HQ := Lib.hid hq1
          clear hq1
          go_wp2_with fail
          refine wp_region_calm (by kernel_rfl) (by kernel_rfl) ?_
          repeat (first | go_big_quiet_skip | (go_big_quiet_want; go_big_quiet_op; first | go_big_quiet_on | go_big_quiet_call ((first | (go_at_call 25; exact Later.call _ (HIs.out _)) | (go_at_call 30; exact Later.call _ (HRi.out _)) | (go_at_call 31; exact Later.call _ (HOr.out _))))))
          refine wpQuiet_nil ?_
          rintro _ ⟨⟨w1, hb1⟩, rfl⟩
          go_wp2
          go_roundw
          case rel => exact ⟨k + 1, by omega, by go_num, HB, hbx.trans (hb1.mono hbx.size)⟩
          case measure => simp [intOf]; omega
        · have HB := Lib.hid (HGB.out (by rw [hov]; simp [hq1]))
          have hco : (q != -1) = true := by rw [bne_iff_ne]; omega
          clear hov hrng hq1
          go_wp2_with fail
          refine wp_region_calm (by kernel_rfl) (by kernel_rfl) ?_
          repeat (first | go_big_quiet_skip | (go_big_quiet_want; go_big_quiet_op; first | go_big_quiet_on | go_big_quiet_call ((first | (go_at_call 25; exact Later.call _ (HIs.out _)) | (go_at_call 30; exact Later.call _ (HRi.out _)) | (go_at_call 31; exact Later.call _ (HOr.out _))))))
          refine wpQuiet_nil ?_
          rintro _ ⟨⟨w1, hb1⟩, rfl⟩
          go_wp2
          go_ret
          refine ⟨ret_bool ?_, hbx.trans (hb1.mono hbx.size)⟩
          rw [HB.out, Bool.false_and]
    · obtain rfl : k = n := by omega
      have HB : Hid (goodL l = true) := Lib.hid (by rw [← HG.out, List.take_of_length_le (by rw [HL.out]; exact Nat.le_refl _)])
      clear HG
      go_wp2
      go_ret
      refine ⟨ret_bool ?_, hbw⟩
      rw [HB.out, Bool.true_and]
      first | rfl | (rw [Bool.eq_iff_iff]; simp; omega) | (rw [Bool.eq_iff_iff]; simp)

set_option maxHeartbeats 4000000 in
set_option maxRecDepth 100000 in
theorem May_any (A : Option Addr) (n c : Nat) (l : List Ent) (w : World) (hr : Rd w w.heap.size 3 A n (rowE l)) (hn : n ≤ 1000000) (hsz : ∀ x ∈ l, x.1.length ≤ 1000000) :
    Calls Try.prog 17 #[.slice A n c] w fun e w' => e = .returned (.bool (mayL l)) ∧ Below w.heap.size w w' := by
  have hln := rowV_count fE_len hr (by omega)
  have hml : mayL l = (goodL l && decide (n ≤ 30)) := by unfold mayL; rw [hln]
  rw [hml]
  have HR := Lib.hid hr
  have HS := Lib.hid hsz
  have HL := Lib.hid hln
  clear hr hsz hln hml
  go_enter Try.func17, Try.ntmps17
  go_wp2
  go_loopw [7] (fun i wr => ∃ k : Nat, k ≤ n ∧ i = .int .i64 k ∧ Hid (goodL (l.take k) = true) ∧ Below w.heap.size w wr) (fun i _ => n - (intOf i).toNat)
  case atStart => exact ⟨0, Nat.zero_le _, rfl, Lib.hid (by simp [goodL]), Below.refl _ _⟩
  case round =>
    obtain ⟨k, hk, rfl, HG, hbw⟩ := hrel
    by_cases hlt : k < n
    · obtain ⟨g, o, x, hA, hg, hx, hc0, hc1, hc2⟩ := ent_at ((HR.out.below hbw).more hbw.size) hlt
      have hxs := HS.out x (List.mem_iff_getElem?.2 ⟨k, hx⟩)
      have HX := Lib.hid hx
      have HGT := Lib.hid (goodL_take l k x hx)
      have HGB := Lib.hid (goodL_bad l k x hx)
      obtain ⟨s, hs⟩ : ∃ s, st x.1 = s := ⟨_, rfl⟩
      have hos : oc s = x.1 := by rw [← hs, oc_st]
      have hss : s.size ≤ 1000000 := by rw [← oc_len, hos]; exact hxs
      have hIs : ∀ W, Calls Try.prog 24 #[.string s] W fun e w' => e = .returned (.bool (isName x.1)) ∧ Below W.heap.size W w' := fun W => by have := Is_any s W hss; rw [hos] at this; exact this
      have hRi : ∀ W, Calls Try.prog 27 #[.agg #[.string s, .int .i64 x.2.1, .int .i64 x.2.2]] W fun e w' => e = .returned (.bool (rightE x)) ∧ Below W.heap.size W w' := fun W => by have := right_any x W; unfold vE at this; rw [hs] at this; exact this
      rw [hs] at hc0
      obtain ⟨ino, hino⟩ : ∃ ino, x.2.1 = ino := ⟨_, rfl⟩
      obtain ⟨ty, hty⟩ : ∃ ty, x.2.2 = ty := ⟨_, rfl⟩
      rw [hino, hty] at hRi
      rw [hino] at hc1
      rw [hty] at hc2
      have hk0 : (0 : Int) ≤ (k : Int) := Int.natCast_nonneg _
      have hk1 : (k : Int) < (n : Int) := by omega
      obtain ⟨wx, hwx⟩ : ∃ wx, wr.alloc (.cells #[.string s, .int .i64 ino, .int .i64 ty] 24) = wx := ⟨_, rfl⟩
      have hbx : Below w.heap.size w wx := by rw [← hwx]; exact hbw.alloc hbw.size _
      have hxx : Below wr.heap.size wr wx := by rw [← hwx]; exact (Below.refl _ _).alloc (Nat.le_refl _) _
      have y0 : wx.cell? ⟨wr.heap.size, 0, none⟩ = some (.string s) := by rw [← hwx]; exact new_cell wr _ _ _ 0 rfl
      have y1 : wx.cell? ⟨wr.heap.size, 1, none⟩ = some (.int .i64 ino) := by rw [← hwx]; exact new_cell wr _ _ _ 1 rfl
      have y2 : wx.cell? ⟨wr.heap.size, 2, none⟩ = some (.int .i64 ty) := by rw [← hwx]; exact new_cell wr _ _ _ 2 rfl
      have q0 : ∀ z : Later wx, z.x.cell? ⟨wr.heap.size, 0, none⟩ = some (.string s) := fun z => z.cell y0
      have q1 : ∀ z : Later wx, z.x.cell? ⟨wr.heap.size, 1, none⟩ = some (.int .i64 ino) := fun z => z.cell y1
      have q2 : ∀ z : Later wx, z.x.cell? ⟨wr.heap.size, 2, none⟩ = some (.int .i64 ty) := fun z => z.cell y2
      have hne := later_ne wx
      have HWX := Lib.hid hwx
      clear y0 y1 y2 hwx
      subst hA
      clear hx hs hino hty hxs
      cases hnm : isName x.1 with
      | false =>
        rw [hnm] at hIs
        have HB := Lib.hid (HGB.out (by unfold okAt; rw [okE_name x hnm, Bool.false_and]))
        have HIs := Lib.hid hIs
        clear hIs hRi hnm hos
        go_wp2_with fail
        rw [HWX.out]
        refine wp_region_calm (by kernel_rfl) (by kernel_rfl) ?_
        repeat (first | go_big_quiet_skip | (go_big_quiet_want; go_big_quiet_op; first | go_big_quiet_on | go_big_quiet_call ((first | (go_at_call 24; exact Later.call _ (HIs.out _))))))
        refine wpQuiet_nil ?_
        rintro _ ⟨⟨w1, hb1⟩, rfl⟩
        go_wp2
        go_ret
        refine ⟨ret_bool ?_, hbx.trans (hb1.mono hbx.size)⟩
        rw [HB.out, Bool.false_and]
      | true =>
      rw [hnm] at hIs
      cases hri : rightE x with
      | false =>
        rw [hri] at hRi
        have HB := Lib.hid (HGB.out (by unfold okAt; rw [okE_right x hri, Bool.false_and]))
        have HIs := Lib.hid hIs
        have HRi := Lib.hid hRi
        clear hIs hRi hnm hri hos
        go_wp2_with fail
        rw [HWX.out]
        refine wp_region_calm (by kernel_rfl) (by kernel_rfl) ?_
        repeat (first | go_big_quiet_skip | (go_big_quiet_want; go_big_quiet_op; first | go_big_quiet_on | go_big_quiet_call ((first | (go_at_call 24; exact Later.call _ (HIs.out _)) | (go_at_call 27; exact Later.call _ (HRi.out _))))))
        refine wpQuiet_nil ?_
        rintro _ ⟨⟨w1, hb1⟩, rfl⟩
        go_wp2
        go_ret
        refine ⟨ret_bool ?_, hbx.trans (hb1.mono hbx.size)⟩
        rw [HB.out, Bool.false_and]
      | true =>
      rw [hri] at hRi
      by_cases hkz : k = 0
      · have HB := Lib.hid (show goodL (l.take (k + 1)) = true by rw [HGT.out, HG.out, okAt_first l k x hkz, okE_yes x hnm hri]; rfl)
        have hk2 : decide (0 < k) = false := decide_eq_false (by omega)
        have HIs := Lib.hid hIs
        have HRi := Lib.hid hRi
        clear hIs hRi hnm hri hos hkz
        go_wp2_with fail
        rw [HWX.out]
        refine wp_region_calm (by kernel_rfl) (by kernel_rfl) ?_
        repeat (first | go_big_quiet_skip | (go_big_quiet_want; go_big_quiet_op; first | go_big_quiet_on | go_big_quiet_call ((first | (go_at_call 24; exact Later.call _ (HIs.out _)) | (go_at_call 27; exact Later.call _ (HRi.out _))))))
        refine wpQuiet_nil ?_
        rintro _ ⟨⟨w1, hb1⟩, rfl⟩
        go_wp2
        go_roundw
        case rel => exact ⟨k + 1, by omega, by go_num, HB, hbx.trans (hb1.mono hbx.size)⟩
        case measure => simp [intOf]; omega
      · have hkp : 1 ≤ k := by omega
        clear hkz
        have hg2' : ∃ p, l[k - 1]? = some p ∧ wr.cell? ⟨g, o + (k - 1) * 3, none⟩ = some (.string (st p.1)) := by
          obtain ⟨g2, o2, p, hA2, _, hp, hp0, _, _⟩ := ent_at ((HR.out.below hbw).more hbw.size) (show k - 1 < n by omega)
          injection hA2 with hA2
          injection hA2 with e1 e2 _
          subst e1 e2
          exact ⟨p, hp, hp0⟩
        obtain ⟨p, hp, hp0⟩ := hg2'
        obtain ⟨sp, hsp⟩ : ∃ sp, st p.1 = sp := ⟨_, rfl⟩
        have hop : oc sp = p.1 := by rw [← hsp, oc_st]
        have hps := HS.out p (List.mem_iff_getElem?.2 ⟨_, hp⟩)
        have hpss : sp.size ≤ 1000000 := by rw [← oc_len, hop]; exact hps
        rw [hsp] at hp0
        have q3 : ∀ z : Later wx, z.x.cell? ⟨g, o + (k - 1) * 3, none⟩ = some (.string sp) := fun z => (z.h.cell (p := ⟨g, _, none⟩) (by have := hxx.size; show g < _; omega)).trans ((hxx.cell (p := ⟨g, _, none⟩) hg).trans hp0)
        have hOr : ∀ W, Calls Try.prog 34 #[.string sp, .string s] W fun e w' => e = .returned (.int .i64 (cmpL p.1 x.1)) ∧ W = w' := fun W => by have := Order_any sp s W; rw [hop, hos] at this; exact this
        have hov := okAt_next l k x p (by omega) hp
        rw [okE_yes x hnm hri, Bool.true_and] at hov
        have hk2 : decide (0 < k) = true := decide_eq_true (by omega)
        have hk3 : (0 : Int) ≤ (k : Int) - 1 := by omega
        have hk4 : (k : Int) - 1 < (n : Int) := by omega
        clear hp hsp hop hps hpss hp0
        have hrng := cmpL_range p.1 x.1
        have hq' : ∃ q, cmpL p.1 x.1 = q := ⟨_, rfl⟩
        obtain ⟨q, hq⟩ := hq'
        rw [hq] at hrng hOr hov
        have HOr := Lib.hid hOr
        have HIs := Lib.hid hIs
        have HRi := Lib.hid hRi
        clear hIs hRi hnm hri hos hOr hq
        by_cases hq1 : q = -1
        · have HB := Lib.hid (show goodL (l.take (k + 1)) = true by rw [HGT.out, HG.out, hov]; simp [hq1])
          have hco : decide (0 ≤ q) = false := decide_eq_false (by omega)
          have hq2 : q ≤ -1 := by omega
          clear hov hrng
          have HQ := Lib.hid hq1
          clear hq1
          go_wp2_with fail
          rw [HWX.out]
          refine wp_region_calm (by kernel_rfl) (by kernel_rfl) ?_
          repeat (first | go_big_quiet_skip | (go_big_quiet_want; go_big_quiet_op; first | go_big_quiet_on | go_big_quiet_call ((first | (go_at_call 24; exact Later.call _ (HIs.out _)) | (go_at_call 27; exact Later.call _ (HRi.out _)) | (go_at_call 34; exact Later.call_same _ (HOr.out _))))))
          refine wpQuiet_nil ?_
          rintro _ ⟨⟨w1, hb1⟩, rfl⟩
          go_wp2
          go_roundw
          case rel => exact ⟨k + 1, by omega, by go_num, HB, hbx.trans (hb1.mono hbx.size)⟩
          case measure => simp [intOf]; omega
        · have HB := Lib.hid (HGB.out (by rw [hov]; simp [hq1]))
          have hco : decide (0 ≤ q) = true := decide_eq_true (by omega)
          clear hov hrng hq1
          go_wp2_with fail
          rw [HWX.out]
          refine wp_region_calm (by kernel_rfl) (by kernel_rfl) ?_
          repeat (first | go_big_quiet_skip | (go_big_quiet_want; go_big_quiet_op; first | go_big_quiet_on | go_big_quiet_call ((first | (go_at_call 24; exact Later.call _ (HIs.out _)) | (go_at_call 27; exact Later.call _ (HRi.out _)) | (go_at_call 34; exact Later.call_same _ (HOr.out _))))))
          refine wpQuiet_nil ?_
          rintro _ ⟨⟨w1, hb1⟩, rfl⟩
          go_wp2
          go_ret
          refine ⟨ret_bool ?_, hbx.trans (hb1.mono hbx.size)⟩
          rw [HB.out, Bool.false_and]
    · obtain rfl : k = n := by omega
      have HB : Hid (goodL l = true) := Lib.hid (by rw [← HG.out, List.take_of_length_le (by rw [HL.out]; exact Nat.le_refl _)])
      clear HG
      go_wp2
      go_ret
      refine ⟨ret_bool ?_, hbw⟩
      rw [HB.out, Bool.true_and]
      first | rfl | (rw [Bool.eq_iff_iff]; simp; omega) | (rw [Bool.eq_iff_iff]; simp)
end Go.Proofs.Ytpjghildhhpeeaa
