/-
  Walks: the laws of titles.
-/
import Derived.Test.YtnbjfhmajaiokaaTitleN
import Derived.Test.YtnbjfhmajaiokaaTitleH
namespace Go.Proofs.Ytnbjfhmajaiokaa
open Go.RowKit

def fewS (s : ByteArray) : ByteArray := if 200 < s.size then s.extract 0 200 else s
theorem fewS_size (s : ByteArray) : (fewS s).size ≤ 200 := by
  unfold fewS
  split
  · rw [ByteArray.size_extract]; omega
  · omega
set_option maxHeartbeats 400000 in
theorem few_any (s : ByteArray) (w : World) :
    Calls Try.prog 10 #[.string s] w fun e w' => e = .returned (.string (fewS s)) ∧ w = w' := by
  have hf : fewS s = if 200 < s.size then s.extract 0 200 else s := rfl
  have HF := Lib.hid hf
  clear hf
  by_cases h : 200 < s.size
  · go_enter Try.func10, Try.ntmps10
    go_wp2
    go_ret
    exact ⟨ret_str (by rw [HF.out, if_pos h]), rfl⟩
  · go_enter Try.func10, Try.ntmps10
    go_wp2
    go_ret
    exact ⟨ret_str (by rw [HF.out, if_neg h]), rfl⟩

set_option maxHeartbeats 1000000 in
theorem awake_any (w : World) :
    Calls Try.prog 15 #[] w fun e w' => e = .returned (.bool true) ∧ Below w.heap.size w w' := by
  have k1 : wholes (oc ⟨#[97, 255, 195, 169]⟩) = 2 := by decide +kernel
  have k2 : strays (oc ⟨#[97, 255, 195, 169]⟩) = 1 := by decide +kernel
  have k3 : isName (oc ⟨#[195, 169, 47]⟩) = false := by decide +kernel
  have k4 : isName (oc ⟨#[195, 169]⟩) = true := by decide +kernel
  have k5 : isName (oc ⟨#[46, 46]⟩) = false := by decide +kernel
  have k6 : st (fitL (oc ⟨#[97, 47, 98]⟩)) = ⟨#[97, 98]⟩ := by decide +kernel
  have k7 : st (fitL (oc ⟨#[]⟩)) = ⟨#[120]⟩ := by decide +kernel
  have K1 := Lib.hid k1; have K2 := Lib.hid k2; have K3 := Lib.hid k3; have K4 := Lib.hid k4; have K5 := Lib.hid k5; have K6 := Lib.hid k6; have K7 := Lib.hid k7
  clear k1 k2 k3 k4 k5 k6 k7
  go_enter Try.func15, Try.ntmps15
  go_wp2_with fail
  refine (Count_any _ w (by decide)).mono ?_
  rintro e w1 ⟨rfl, h1⟩
  rw [K1.out, K2.out]
  go_wp2_with fail
  refine (Is_any _ w1 (by decide)).mono ?_
  rintro e w2 ⟨rfl, h2⟩
  rw [K3.out]
  have b2 := h1.trans (h2.mono h1.size)
  go_wp2_with fail
  refine (Is_any _ w2 (by decide)).mono ?_
  rintro e w3 ⟨rfl, h3⟩
  rw [K4.out]
  have b3 := b2.trans (h3.mono b2.size)
  go_wp2_with fail
  refine (Is_any _ w3 (by decide)).mono ?_
  rintro e w4 ⟨rfl, h4⟩
  rw [K5.out]
  have b4 := b3.trans (h4.mono b3.size)
  go_wp2_with fail
  refine (Fit_any _ w4 (by decide)).mono ?_
  rintro e w5 ⟨rfl, h5⟩
  rw [K6.out]
  have b5 := b4.trans (h5.mono b4.size)
  go_wp2_with fail
  refine (Fit_any _ w5 (by decide)).mono ?_
  rintro e w6 ⟨rfl, h6⟩
  rw [K7.out]
  have b6 := b5.trans (h6.mono b5.size)
  go_wp2
  go_ret
  exact ⟨rfl, b6⟩

set_option maxHeartbeats 1000000 in
theorem names_law (s : ByteArray) (w : World) :
    Calls Try.prog 3 #[.string s] w fun e w' => e = .returned (.bool true) ∧ Below w.heap.size w w' := by
  have hs := fewS_size s
  go_enter Try.func3, Try.ntmps3
  go_wp2_with fail
  refine (few_any s w).mono ?_
  rintro e w0 ⟨rfl, rfl⟩
  generalize fewS s = t at *
  go_wp2_with fail
  refine (Count_any t w (by omega)).mono ?_
  rintro e w1 ⟨rfl, h1⟩
  go_wp2_with fail
  refine (rCount_any t w1 (by omega)).mono ?_
  rintro e w2 ⟨rfl, h2⟩
  have b2 := h1.trans (h2.mono h1.size)
  generalize wholes (oc t) = wh at *
  generalize strays (oc t) = sr at *
  go_wp2_with fail
  refine (Is_any t w2 (by omega)).mono ?_
  rintro e w3 ⟨rfl, h3⟩
  have b3 := b2.trans (h3.mono b2.size)
  go_wp2_with fail
  refine (rIs_any t w3 (by omega)).mono ?_
  rintro e w4 ⟨rfl, h4⟩
  have b4 := b3.trans (h4.mono b3.size)
  go_wp2_with fail
  refine (awake_any w4).mono ?_
  rintro e w5 ⟨rfl, h5⟩
  have b5 := b4.trans (h5.mono b4.size)
  go_wp2
  go_ret
  exact ⟨rfl, b5⟩

set_option maxHeartbeats 1000000 in
theorem fits_law (s : ByteArray) (w : World) :
    Calls Try.prog 5 #[.string s] w fun e w' => e = .returned (.bool true) ∧ Below w.heap.size w w' := by
  have hs := fewS_size s
  go_enter Try.func5, Try.ntmps5
  go_wp2_with fail
  refine (few_any s w).mono ?_
  rintro e w0 ⟨rfl, rfl⟩
  generalize fewS s = t at *
  go_wp2_with fail
  refine (Fold_any t w (by omega)).mono ?_
  rintro e w1 ⟨rfl, h1⟩
  go_wp2_with fail
  refine (rFold_any t w1 (by omega)).mono ?_
  rintro e w2 ⟨rfl, h2⟩
  have b2 := h1.trans (h2.mono h1.size)
  generalize st (foldL (oc t)) = q at *
  go_wp2_with fail
  refine (Fit_any t w2 (by omega)).mono ?_
  rintro e w3 ⟨rfl, h3⟩
  have b3 := b2.trans (h3.mono b2.size)
  go_wp2_with fail
  refine (rFit_any t w3 (by omega)).mono ?_
  rintro e w4 ⟨rfl, h4⟩
  have b4 := b3.trans (h4.mono b3.size)
  generalize st (fitL (oc t)) = q2 at *
  go_wp2_with fail
  refine (awake_any w4).mono ?_
  rintro e w5 ⟨rfl, h5⟩
  have b5 := b4.trans (h5.mono b4.size)
  go_wp2
  go_ret
  exact ⟨rfl, b5⟩

set_option maxHeartbeats 1000000 in
theorem heads_law (s t : ByteArray) (n : Int) (hn : n ≤ 9223372036854775807) (w : World) :
    Calls Try.prog 9 #[.string s, .string t, .int .i64 n] w fun e w' => e = .returned (.bool true) ∧ Below w.heap.size w w' := by
  have hs := fewS_size s
  have ht := fewS_size t
  go_enter Try.func9, Try.ntmps9
  go_wp2_with fail
  refine (few_any s w).mono ?_
  rintro e w0 ⟨rfl, rfl⟩
  generalize fewS s = s2 at *
  go_wp2_with fail
  refine (few_any t w).mono ?_
  rintro e w0 ⟨rfl, rfl⟩
  generalize fewS t = t2 at *
  go_wp2_with fail
  refine (Head_any s2 n w (by omega) hn).mono ?_
  rintro e w1 ⟨rfl, h1⟩
  go_wp2_with fail
  refine (rHead_any s2 n w1 (by omega)).mono ?_
  rintro e w2 ⟨rfl, h2⟩
  have b2 := h1.trans (h2.mono h1.size)
  generalize st (headL (oc s2) n.toNat) = q at *
  go_wp2_with fail
  refine (Order_any s2 t2 w2).mono ?_
  rintro e w0 ⟨rfl, rfl⟩
  go_wp2_with fail
  refine (rOrder_any s2 t2 w2 (by omega) (by omega)).mono ?_
  rintro e w3 ⟨rfl, h3⟩
  have b3 := b2.trans (h3.mono b2.size)
  generalize cmpL (oc s2) (oc t2) = z at *
  go_wp2_with fail
  refine (awake_any w3).mono ?_
  rintro e w4 ⟨rfl, h4⟩
  have b4 := b3.trans (h4.mono b3.size)
  go_wp2
  go_ret
  exact ⟨rfl, b4⟩

set_option maxHeartbeats 1000000 in
theorem folds_law (s : ByteArray) (w : World) :
    Calls Try.prog 6 #[.string s] w fun e w' => e = .returned (.bool true) ∧ Below w.heap.size w w' := by
  have hs := fewS_size s
  go_enter Try.func6, Try.ntmps6
  go_wp2_with fail
  refine (few_any s w).mono ?_
  rintro e w0 ⟨rfl, rfl⟩
  generalize fewS s = t at *
  go_wp2_with fail
  refine (Fold_any t w (by omega)).mono ?_
  rintro e w1 ⟨rfl, h1⟩
  have hf1 : (st (foldL (oc t))).size = t.size := by rw [st_size, fold_len, oc_len]
  have hf2 := fold_counts (oc t)
  have hf3 := fold_fold (oc t)
  have hf4 := fold_name (oc t)
  rw [← oc_st (foldL (oc t))] at hf2 hf3 hf4
  generalize hq : st (foldL (oc t)) = q at *
  have hf5 : st (foldL (oc q)) = q := by rw [hf3, st_oc]
  have HQ := Lib.hid hq
  have H2 := Lib.hid hf2
  have H4 := Lib.hid hf4
  have H5 := Lib.hid hf5
  clear hq hf2 hf3 hf4 hf5
  go_wp2_with fail
  refine (Count_any t w1 (by omega)).mono ?_
  rintro e w2 ⟨rfl, h2⟩
  have b2 := h1.trans (h2.mono h1.size)
  go_wp2_with fail
  refine (Count_any q w2 (by omega)).mono ?_
  rintro e w3 ⟨rfl, h3⟩
  have b3 := b2.trans (h3.mono b2.size)
  rw [H2.out.1, H2.out.2]
  generalize wholes (oc t) = wh at *
  generalize strays (oc t) = sr at *
  go_wp2_with fail
  refine (Fold_any q w3 (by omega)).mono ?_
  rintro e w4 ⟨rfl, h4⟩
  have b4 := b3.trans (h4.mono b3.size)
  rw [H5.out]
  go_wp2_with fail
  refine (Is_any q w4 (by omega)).mono ?_
  rintro e w5 ⟨rfl, h5⟩
  have b5 := b4.trans (h5.mono b4.size)
  rw [H4.out]
  go_wp2_with fail
  refine (Is_any t w5 (by omega)).mono ?_
  rintro e w6 ⟨rfl, h6⟩
  have b6 := b5.trans (h6.mono b5.size)
  generalize isName (oc t) = nm at *
  go_wp2_with fail
  refine (awake_any w6).mono ?_
  rintro e w7 ⟨rfl, h7⟩
  have b7 := b6.trans (h7.mono b6.size)
  go_wp2
  go_ret
  exact ⟨rfl, b7⟩

end Go.Proofs.Ytnbjfhmajaiokaa
