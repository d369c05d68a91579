/-
  Walks: what is refused; numbers compared; the chapter's examples.
-/
import Derived.Test.YtpofkkoiicdpbaaSparseL
namespace Go.Proofs.Ytpofkkoiicdpbaa
open Go.RowKit
set_option linter.unusedVariables false

set_option maxHeartbeats 1000000 in
theorem Ints_any (A A' : Option Addr) (n c n' c' : Nat) (xs ys : List Int) (w : World) (hx : Rd w w.heap.size 1 A n (intsV xs)) (hy : Rd w w.heap.size 1 A' n' (intsV ys)) (hn : n ≤ 1000000) :
    Calls Try.prog 17 #[.slice A n c, .slice A' n' c'] w fun e w' => e = .returned (.bool (decide (xs = ys))) ∧ Below w.heap.size w w' := by
  have hlx := hx.1
  have hly := hy.1
  rw [intsV_len, Nat.mul_one] at hlx hly
  have HX := Lib.hid hlx
  have HY := Lib.hid hly
  by_cases hne : n = n'
  · have hb : ((n : Int) != (n' : Int)) = false := by simp; omega
    have HNE := Lib.hid hne
    clear hne hlx hly
    go_enter Try.func17, Try.ntmps17
    go_wp2
    go_loopw [5] (fun i wr => ∃ k : Nat, k ≤ n ∧ i = .int .i64 k ∧ xs.take k = ys.take k ∧ Below w.heap.size w wr) (fun i _ => n - (intOf i).toNat)
    case atStart => exact ⟨0, Nat.zero_le _, rfl, rfl, Below.refl _ _⟩
    case round =>
      obtain ⟨k, hk, rfl, htk, hbw⟩ := hrel
      have HTK := Lib.hid htk
      clear htk
      by_cases hlt : k < n
      · obtain ⟨g, o, x, rfl, hg, hxk, cx⟩ := int_at (hx.below hbw) hlt
        obtain ⟨g', o', y, rfl, hg', hyk, cy⟩ := int_at (hy.below hbw) (by rw [← HNE.out]; exact hlt)
        have h1 := take_snoc xs k x hxk
        have h2 := take_snoc ys k y hyk
        have H1 := Lib.hid h1
        have H2 := Lib.hid h2
        have HXK := Lib.hid hxk
        have HYK := Lib.hid hyk
        have hi0 : (0 : Int) ≤ (k : Int) := by omega
        have hi1 : (k : Int) < (n : Int) := by omega
        have hi2 : (k : Int) < (n' : Int) := by rw [← HNE.out]; exact hi1
        clear h1 h2 hxk hyk hx hy
        by_cases hxy : x = y
        · subst hxy
          go_wp2
          go_quiet (fail)
          go_wp2
          go_roundw
          case rel => exact ⟨k + 1, by omega, by go_num, by rw [H1.out, H2.out, HTK.out], below_drewN hbw _⟩
          case measure => simp [intOf]; omega
        · have hxb : (x != y) = true := by simpa using hxy
          have hres : decide (xs = ys) = false := decide_eq_false fun e => by
            subst e
            have h1 := HXK.out
            rw [HYK.out] at h1
            injection h1 with h1
            exact hxy h1.symm
          have HR := Lib.hid hres
          clear hres
          go_wp2
          go_quiet (fail)
          go_wp2
          go_ret
          exact ⟨ret_bool HR.out.symm, below_drewN hbw _⟩
      · have hres : decide (xs = ys) = true := by
          have h := HTK.out
          rw [List.take_of_length_le (by rw [HX.out]; omega), List.take_of_length_le (by rw [HY.out, ← HNE.out]; omega)] at h
          exact decide_eq_true h
        have HR := Lib.hid hres
        clear hres
        go_wp2
        go_ret
        exact ⟨ret_bool HR.out.symm, hbw⟩
  · have hb : ((n : Int) != (n' : Int)) = true := by simp; omega
    have hres : decide (xs = ys) = false := decide_eq_false fun e => by subst e; omega
    have HR := Lib.hid hres
    clear hres
    go_enter Try.func17, Try.ntmps17
    go_wp2
    go_ret
    exact ⟨ret_bool HR.out.symm, Below.refl _ _⟩


def refusedV (code : Int) : Value := .tuple #[.agg #[.int .i64 0, .slice none 0 0], .slice none 0 0, .int .i64 code]
set_option maxHeartbeats 2000000 in
set_option maxRecDepth 100000 in
theorem Write_bad (size off code : Int) (A Ab : Option Addr) (n c lb cb : Nat) (L : List Pc) (w : World) (h : IsP w w.heap.size A n c L) (hs : size ≤ 9223372036854775807) (hn : n ≤ 1000000) (ho : off ≤ 9223372036854775807)
    (hbad : (okF size L = false ∧ code = 1) ∨ (okF size L = true ∧ off < 0 ∧ code = 1) ∨ (okF size L = true ∧ 0 ≤ off ∧ 463488 < off + (lb : Int) ∧ code = 16)) :
    Calls Try.prog 10 #[.agg #[.int .i64 size, .slice A n c], .int .i64 off, .slice Ab lb cb] w fun e w' => e = .returned (refusedV code) ∧ Below w.heap.size w w' := by
  have hM : ∀ W, Below w.heap.size w W → Calls Try.prog 21 #[.agg #[.int .i64 size, .slice A n c]] W fun e w' => e = .returned (.bool (okF size L)) ∧ Below W.heap.size W w' := fun W hW => May_any size A n c L W (h.later hW) hs hn
  obtain ⟨w0, hw0⟩ : ∃ w0, (w.alloc (.cells #[.int .i64 size, .slice A n c] 24)).alloc (.cells #[.int .i64 0, .slice none 0 0] 24) = w0 := ⟨_, rfl⟩
  have hb0 : Below w.heap.size w w0 := by rw [← hw0]; exact ((Below.refl _ _).alloc (Nat.le_refl _) _).alloc (by simp) _
  have hB1 : Blk w0 (w.heap.size + 1) 24 (0, 0) #[.int .i64 0, .slice none 0 0] := by
    rw [← hw0]
    have := Blk.new (w.alloc (.cells #[.int .i64 size, .slice A n c] 24)) 24 (0, 0) #[.int .i64 0, .slice none 0 0]
    simpa using this
  obtain ⟨ok, hok⟩ : ∃ ok, okF size L = ok := ⟨_, rfl⟩
  rw [hok] at hM hbad
  have hcs : (ok = false ∧ code = 1) ∨ (ok = true ∧ off < 0 ∧ code = 1) ∨ (ok = true ∧ 0 ≤ off ∧ 463488 < off ∧ code = 16) ∨ (ok = true ∧ 0 ≤ off ∧ off ≤ 463488 ∧ 463488 - off < (lb : Int) ∧ code = 16) := by
    rcases hbad with h | h | ⟨h1, h2, h3, h4⟩
    · exact .inl h
    · exact .inr (.inl h)
    · by_cases hg : 463488 < off
      · exact .inr (.inr (.inl ⟨h1, h2, hg, h4⟩))
      · exact .inr (.inr (.inr ⟨h1, h2, by omega, by omega, h4⟩))
  have HM := Lib.hid hM
  have HW0 := Lib.hid hw0
  have HB1 := Lib.hid hB1
  clear hM hw0 hB1 hok hbad h
  rcases hcs with ⟨rfl, rfl⟩ | ⟨rfl, h1, rfl⟩ | ⟨rfl, h1, h2, rfl⟩ | ⟨rfl, h1, h2, h3, rfl⟩
  all_goals
    try have hd1 : decide (off < 0) = true := decide_eq_true (by omega)
    try have hd1 : decide (off < 0) = false := decide_eq_false (by omega)
    try have hd2 : decide (463488 < off) = true := decide_eq_true (by omega)
    try have hd2 : decide (463488 < off) = false := decide_eq_false (by omega)
    try have hd3 : decide (463488 - off < (lb : Int)) = true := decide_eq_true (by omega)
    go_enter Try.func10, Try.ntmps10
    go_wp2_with fail
    rw [HW0.out]
    refine (HM.out _ hb0).mono ?_
    rintro e w1 ⟨rfl, h1w⟩
    have hb1 := hb0.trans (h1w.mono hb0.size)
    obtain ⟨r0, r1, z0, z1⟩ := blk2 (HB1.out.below h1w HB1.out.lt)
    go_wp2
    exact bodyPost_ret (v := refusedV _) (by simp [refusedV, results, Try.results10, go_sem, r0, r1]) rfl ⟨rfl, (hb1.setCell (by simp) _).setCell (by simp) _⟩

set_option maxHeartbeats 2000000 in
set_option maxRecDepth 100000 in
theorem Cut_bad (old size code : Int) (A : Option Addr) (n c : Nat) (L : List Pc) (w : World) (h : IsP w w.heap.size A n c L) (hs : old ≤ 9223372036854775807) (hn : n ≤ 1000000)
    (hbad : (okF old L = false ∧ code = 1) ∨ (okF old L = true ∧ size < 0 ∧ code = 1) ∨ (okF old L = true ∧ 463488 < size ∧ code = 16)) :
    Calls Try.prog 18 #[.agg #[.int .i64 old, .slice A n c], .int .i64 size] w fun e w' => e = .returned (refusedV code) ∧ Below w.heap.size w w' := by
  have hM : ∀ W, Below w.heap.size w W → Calls Try.prog 21 #[.agg #[.int .i64 old, .slice A n c]] W fun e w' => e = .returned (.bool (okF old L)) ∧ Below W.heap.size W w' := fun W hW => May_any old A n c L W (h.later hW) hs hn
  obtain ⟨w0, hw0⟩ : ∃ w0, ((w.alloc (.cells #[.int .i64 old, .slice A n c] 24)).alloc (.cells #[.int .i64 size] 3)).alloc (.cells #[.int .i64 0, .slice none 0 0] 24) = w0 := ⟨_, rfl⟩
  have hb0 : Below w.heap.size w w0 := by rw [← hw0]; exact (((Below.refl _ _).alloc (Nat.le_refl _) _).alloc (by simp) _).alloc (by simp; omega) _
  have hB1 : Blk w0 (w.heap.size + 1) 3 (0, 0) #[.int .i64 size] := by
    rw [← hw0]
    have := (Blk.new (w.alloc (.cells #[.int .i64 old, .slice A n c] 24)) 3 (0, 0) #[.int .i64 size]).alloc (.cells #[.int .i64 0, .slice none 0 0] 24)
    simpa using this
  have hB2 : Blk w0 (w.heap.size + 1 + 1) 24 (0, 0) #[.int .i64 0, .slice none 0 0] := by
    rw [← hw0]
    have := Blk.new ((w.alloc (.cells #[.int .i64 old, .slice A n c] 24)).alloc (.cells #[.int .i64 size] 3)) 24 (0, 0) #[.int .i64 0, .slice none 0 0]
    simpa using this
  obtain ⟨ok, hok⟩ : ∃ ok, okF old L = ok := ⟨_, rfl⟩
  rw [hok] at hM hbad
  have hcs : (ok = false ∧ code = 1) ∨ (ok = true ∧ size < 0 ∧ code = 1) ∨ (ok = true ∧ 0 ≤ size ∧ 463488 < size ∧ code = 16) := by
    rcases hbad with h | h | ⟨h1, h2, h3⟩
    · exact .inl h
    · exact .inr (.inl h)
    · exact .inr (.inr ⟨h1, by omega, h2, h3⟩)
  have HM := Lib.hid hM
  have HW0 := Lib.hid hw0
  have HB1 := Lib.hid hB1
  have HB2 := Lib.hid hB2
  clear hM hw0 hB1 hB2 hok hbad h
  rcases hcs with ⟨rfl, rfl⟩ | ⟨rfl, h1, rfl⟩ | ⟨rfl, h1, h2, rfl⟩
  all_goals
    try have hd1 : decide (size < 0) = true := decide_eq_true (by omega)
    try have hd1 : decide (size < 0) = false := decide_eq_false (by omega)
    try have hd2 : decide (463488 < size) = true := decide_eq_true (by omega)
    go_enter Try.func18, Try.ntmps18
    go_wp2_with fail
    rw [HW0.out]
    refine (HM.out _ hb0).mono ?_
    rintro e w1 ⟨rfl, h1w⟩
    have hb1 := hb0.trans (h1w.mono hb0.size)
    have hq1 := HB1.out.below h1w HB1.out.lt
    have x2 : w1.cell? ⟨w.heap.size + 1, 0, none⟩ = some (.int .i64 size) := by rw [hq1.cell]; rfl
    obtain ⟨r0, r1, z0, z1⟩ := blk2 (HB2.out.below h1w HB2.out.lt)
    clear hq1
    go_wp2
    exact bodyPost_ret (v := refusedV _) (by simp [refusedV, results, Try.results18, go_sem, r0, r1]) rfl ⟨rfl, (hb1.setCell (by simp; omega) _).setCell (by simp; omega) _⟩
end Go.Proofs.Ytpofkkoiicdpbaa
