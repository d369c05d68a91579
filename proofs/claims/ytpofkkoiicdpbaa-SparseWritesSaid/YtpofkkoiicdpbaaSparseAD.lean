/-
  Walk: the law SparseWrites.
-/
import Derived.Test.YtpofkkoiicdpbaaSparseAB
import Derived.Test.YtpofkkoiicdpbaaCalm
import Derived.Test.YtpofkkoiicdpbaaSparseQ
namespace Go.Proofs.Ytpofkkoiicdpbaa
open Go.RowKit
set_option linter.unusedVariables false

theorem fewZ_idem (s : Int) : fewZ (fewZ s) = fewZ s := by unfold fewZ; split <;> (try split) <;> omega
theorem fewP_idem (L : List Pc) : fewP (fewP L) = fewP L := by
  unfold fewP
  rw [← List.map_take, List.take_take, List.map_map, Nat.min_self]
  refine List.map_congr_left fun p _ => ?_
  simp [List.take_take]
/-- A refused or a made file: what a write leaves behind. -/
def outW (s1 : Int) (L1 : List Pc) (off : Int) (lb : Nat) (b : List UInt8) (code sx : Int) (nx nw : Nat) (Lx : List Pc) (ws : List Int) : Prop :=
  (code = 1 ∧ (okF s1 L1 = false ∨ off < 0) ∧ sx = 0 ∧ nx = 0 ∧ nw = 0) ∨ (code = 16 ∧ okF s1 L1 = true ∧ 0 ≤ off ∧ 463488 < off + lb ∧ sx = 0 ∧ nx = 0 ∧ nw = 0) ∨
    (code = 0 ∧ okF s1 L1 = true ∧ 0 ≤ off ∧ off + lb ≤ 463488 ∧ sx = sizeW s1 off.toNat lb ∧ WInv L1 off.toNat b Lx ∧ ws = blocksW off.toNat lb ∧ nx ≤ 3621)

set_option maxHeartbeats 16000000 in
set_option maxRecDepth 100000 in
theorem writes_law (s off : Int) (A Ab : Option Addr) (n c nb cb : Nat) (L : List Pc) (b0 : List UInt8) (w : World) (h : IsP w w.heap.size A n c L) (hs : s ≤ 9223372036854775807) (ho1 : off ≤ 9223372036854775807) (ho0 : -9223372036854775808 ≤ off)
    (hb : RdB w w.heap.size AnyB (.slice Ab nb cb) b0) :
    Calls Try.prog 3 #[.agg #[.int .i64 s, .slice A n c], .int .i64 off, .slice Ab nb cb] w fun e w' => e = .returned (.bool true) ∧ Below w.heap.size w w' := by
  obtain ⟨A2', c2', e1, hnb, hcb, hnilb, hrb⟩ := hb.form
  injection e1 with e1 e2 e3
  subst e1 e2 e3
  obtain ⟨wx, hwx⟩ : ∃ wx, w.alloc (.cells #[.int .i64 s, .slice A n c] 24) = wx := ⟨_, rfl⟩
  have hbx : Below w.heap.size w wx := by rw [← hwx]; exact (Below.refl _ _).alloc (Nat.le_refl _) _
  have hsx : wx.heap.size = w.heap.size + 1 := by rw [← hwx]; simp
  have hBx : Blk wx w.heap.size 24 (0, 0) #[.int .i64 s, .slice A n c] := by rw [← hwx]; exact Blk.new _ _ _ _
  obtain ⟨s1, hs1⟩ : ∃ s1, fewZ s = s1 := ⟨_, rfl⟩
  obtain ⟨L1, hL1⟩ : ∃ L1, fewP L = L1 := ⟨_, rfl⟩
  have hL20 : L1.length ≤ 20 := by rw [← hL1]; exact few_n L
  have hs1b : s1 ≤ 9223372036854775807 := by rw [← hs1]; unfold fewZ; split <;> omega
  have hF := Few_q s A n c L wx (h.later hbx) hs
  rw [hs1, hL1] at hF
  obtain ⟨lb, hlb⟩ : ∃ lb, min b0.length 700 = lb := ⟨_, rfl⟩
  have hOb : ∀ W, Calls Try.prog 9 #[.slice Ab b0.length cb] W fun e w' => e = .returned (.slice Ab lb cb) ∧ W = w' := fun W => by have := octets_any Ab b0.length cb W hnb hcb; rw [hlb] at this; exact this
  obtain ⟨b, hb1⟩ : ∃ b, b0.take lb = b := ⟨_, rfl⟩
  have hrb1 : Rd w w.heap.size 1 Ab lb (octV b) := by
    have := rd_takeV hrb (show lb ≤ b0.length by omega)
    rw [Nat.mul_one, ← octV_take, hb1] at this; exact this
  have hlb1 : b.length = lb := by rw [← hb1, List.length_take]; omega
  have hlb7 : lb ≤ 700 := by omega
  have hlbc : lb ≤ cb := by omega
  obtain ⟨n2, hn2⟩ : ∃ n2, b0.length = n2 := ⟨_, rfl⟩
  rw [hn2] at hOb
  rw [hn2]
  have hf1 : fewZ s1 = s1 := by rw [← hs1]; exact fewZ_idem s
  have hf2 : fewP L1 = L1 := by rw [← hL1]; exact fewP_idem L
  obtain ⟨d0, d1, _, _⟩ := blk2 hBx
  have HF := Lib.hid hF
  have HOB := Lib.hid hOb
  have HRB := Lib.hid hrb1
  have HLB := Lib.hid hlb1
  have HF1 := Lib.hid hf1
  have HF2 := Lib.hid hf2
  have HBX := Lib.hid hBx
  have HAW := Lib.hid awake_any
  clear hF hOb hrb1 hlb1 hlb hb1 hrb hb h hn2 hs1 hL1 hnilb hnb hf1 hf2 hBx
  go_enter Try.func3, Try.ntmps3
  go_wp2_with fail
  refine HF.out.mono ?_
  rintro e w1 ⟨⟨A1, m1, c1, rfl, hI1⟩, h1⟩
  clear hwx
  have hl0 := HBX.out.lt
  have hB1 := HBX.out.below h1 hl0
  have hs1w := h1.size
  obtain ⟨d0, d1, _, _⟩ := blk2 hB1
  obtain ⟨w2, hw2⟩ : ∃ w2, (w1.setCell ⟨w.heap.size, 0, none⟩ (.int .i64 s1)).setCell ⟨w.heap.size, 1, none⟩ (.slice A1 m1 c1) = w2 := ⟨_, rfl⟩
  have hB2 : Blk w2 w.heap.size 24 (0, 0) #[.int .i64 s1, .slice A1 m1 c1] := by rw [← hw2]; exact (hB1.set_ 0 (.int .i64 s1)).set_ 1 (.slice A1 m1 c1)
  have hsz2 : w2.heap.size = w1.heap.size := by rw [← hw2]; simp
  have hI2 : IsP w2 w2.heap.size A1 m1 c1 L1 := by
    rw [hsz2]
    refine (hI1.keep fun p' _ hq' => ?_).free
    have hq2 : wx.heap.size + 2 ≤ p'.block := hq'
    rw [← hw2, cell_far (by show p'.block ≠ w.heap.size; omega), cell_far (by show p'.block ≠ w.heap.size; omega)]
  have hb2 : Below w.heap.size w w2 := by rw [← hw2]; exact ((hbx.trans (h1.mono hbx.size)).setCell (Nat.le_refl _) _).setCell (Nat.le_refl _) _
  have HB2 := Lib.hid hB2
  have HI2 := Lib.hid hI2
  have hl2 := hB2.lt
  go_wp2_with fail
  refine (HOB.out _).mono ?_
  rintro e w3 ⟨rfl, rfl⟩
  clear hB1 hB2 hI1 hI2
  go_upto_region 2 with fail
  clear hw2 d0 d1
  obtain ⟨t, ht⟩ : ∃ t, (decide (30000 < off) && decide (off ≤ 463488 - (lb : Int))) = t := ⟨_, rfl⟩
  go_cut [25] (fun s25 wd => s25 = .bool t ∧ wd = w2)
  case first =>
    by_cases h0 : 30000 < off
    · have e1 : decide (30000 < off) = true := decide_eq_true h0
      have e3 : decide (off ≤ 463488 - (lb : Int)) = t := by rw [← ht, e1]; rfl
      clear ht
      go_wp2_with fail
      go_wp2
      go_meet
      exact ⟨rfl, rfl⟩
    · have e1 : decide (30000 < off) = false := decide_eq_false h0
      have e3 : t = false := by rw [← ht, e1]; rfl
      clear ht
      go_wp2
      go_meet
      exact ⟨by rw [e3], rfl⟩
  case rest =>
  obtain ⟨rfl, hwc⟩ := hcut
  cases hwc
  obtain ⟨o, ho, ho2, ho3⟩ : ∃ o : Int, (if t = true then 30000 else off) = o ∧ o ≤ 9223372036854775807 ∧ -9223372036854775808 ≤ o := ⟨_, rfl, by split <;> omega, by split <;> omega⟩
  go_upto_if 25 with fail
  go_cut [1] (fun s1' wd => s1' = .int .i64 o ∧ wd = w2)
  case first =>
    cases t with
    | true =>
      rw [if_pos rfl] at ho
      subst ho
      clear ht
      go_wp2
      go_meet
      exact ⟨rfl, rfl⟩
    | false =>
      rw [if_neg (by simp)] at ho
      subst ho
      clear ht
      go_wp2
      go_meet
      exact ⟨rfl, rfl⟩
  case rest =>
  obtain ⟨rfl, hwc⟩ := hcut
  cases hwc
  clear ht ho
  have hF4 := Few_any s1 A1 m1 c1 L1 w2 HI2.out hs1b
  rw [HF1.out, HF2.out] at hF4
  have HF4 := Lib.hid hF4
  clear hF4
  obtain ⟨d0, d1, _, _⟩ := blk2 HB2.out
  go_wp2_with fail
  refine HF4.out.mono ?_
  rintro e w3 ⟨⟨A3, m3, c3, rfl, hI3⟩, h3⟩
  obtain ⟨w4, hw4⟩ : ∃ w4, w3.alloc (.cells #[.int .i64 s1, .slice A3 m3 c3] 24) = w4 := ⟨_, rfl⟩
  have hb34 : Below w3.heap.size w3 w4 := by rw [← hw4]; exact (Below.refl _ _).alloc (Nat.le_refl _) _
  have hb24 : Below w2.heap.size w2 w4 := h3.trans (hb34.mono h3.size)
  have hB4 : Blk w4 w3.heap.size 24 (0, 0) #[.int .i64 s1, .slice A3 m3 c3] := by rw [← hw4]; exact Blk.new _ _ _ _
  have hB04 := HB2.out.below hb24 hl2
  have hI04 := HI2.out.later hb24
  have hI34 := hI3.later hb34
  have hn1 := hI04.count
  have hn3 := hI34.count
  obtain rfl : m3 = m1 := by omega
  have hbw4 := hb2.trans (hb24.mono hb2.size)
  have l34 := hB4.lt
  have l04 : w.heap.size < w3.heap.size := by have := h3.size; omega
  obtain ⟨b7, hb7⟩ : ∃ b7, w3.heap.size = b7 := ⟨_, rfl⟩
  rw [hb7] at hB4 l34 l04
  have HB4 := Lib.hid hB4
  have HB04 := Lib.hid hB04
  have HI04 := Lib.hid hI04
  have HI34 := Lib.hid hI34
  obtain ⟨d0, d1, _, _⟩ := blk2 hB04
  obtain ⟨d2, d3, _, _⟩ := blk2 hB4
  go_upto_region 5 with fail
  try rw [hb7]
  clear hB4 hB04 hI04 hI34 hI3 hw4 hb7 hn3 HF4 HI2
  go_cut [8, 9, 10] (fun s8 s9 s10 wd => ∃ (b8 : Nat) (sx : Int) (Ax : Option Addr) (nx cx : Nat) (Lx : List Pc) (Aw : Option Addr) (nw cw : Nat) (ws : List Int) (code : Int), s8 = .pointer (some ⟨b8, 0, none⟩) ∧ s9 = .slice Aw nw cw ∧ s10 = .int .i64 code
    ∧ Blk wd b8 24 (0, 0) #[.int .i64 sx, .slice Ax nx cx] ∧ IsP wd wd.heap.size Ax nx cx Lx ∧ Rd wd wd.heap.size 1 Aw nw (intsV ws) ∧ nw ≤ 1000 ∧ outW s1 L1 o lb b code sx nx nw Lx ws ∧ Below w4.heap.size w4 wd)
  case first =>
    have hend : ∀ (w5 : World) (sx : Int) (Ax : Option Addr) (nx cx : Nat) (Lx : List Pc) (Aw : Option Addr) (nw cw : Nat) (ws : List Int) (code : Int), Below w4.heap.size w4 w5 → IsP w5 w5.heap.size Ax nx cx Lx → Rd w5 w5.heap.size 1 Aw nw (intsV ws) → nw ≤ 1000 → outW s1 L1 o lb b code sx nx nw Lx ws →
        ∃ (b8 : Nat) (sx' : Int) (Ax' : Option Addr) (nx' cx' : Nat) (Lx' : List Pc) (Aw' : Option Addr) (nw' cw' : Nat) (ws' : List Int) (code' : Int), Value.pointer (some ⟨w5.heap.size, 0, none⟩) = .pointer (some ⟨b8, 0, none⟩) ∧ Value.slice Aw nw cw = .slice Aw' nw' cw' ∧ Value.int .i64 code = .int .i64 code'
          ∧ Blk (w5.alloc (.cells #[.int .i64 sx, .slice Ax nx cx] 24)) b8 24 (0, 0) #[.int .i64 sx', .slice Ax' nx' cx'] ∧ IsP (w5.alloc (.cells #[.int .i64 sx, .slice Ax nx cx] 24)) (w5.alloc (.cells #[.int .i64 sx, .slice Ax nx cx] 24)).heap.size Ax' nx' cx' Lx' ∧ Rd (w5.alloc (.cells #[.int .i64 sx, .slice Ax nx cx] 24)) (w5.alloc (.cells #[.int .i64 sx, .slice Ax nx cx] 24)).heap.size 1 Aw' nw' (intsV ws') ∧ nw' ≤ 1000 ∧ outW s1 L1 o lb b code' sx' nx' nw' Lx' ws' ∧ Below w4.heap.size w4 (w5.alloc (.cells #[.int .i64 sx, .slice Ax nx cx] 24)) := fun w5 sx Ax nx cx Lx Aw nw cw ws code h1 h2 h3 h4 h5 =>
      have hb := (Below.refl w5.heap.size w5).alloc (Nat.le_refl _) (.cells #[.int .i64 sx, .slice Ax nx cx] 24)
      ⟨_, sx, Ax, nx, cx, Lx, Aw, nw, cw, ws, code, rfl, rfl, rfl, Blk.new w5 _ _ _, h2.later hb, (h3.below hb).more hb.size, h4, h5, h1.trans (hb.mono h1.size)⟩
    have HEND := Lib.hid hend
    clear hend
    have hbad : ∀ code : Int, ((okF s1 L1 = false ∧ code = 1) ∨ (okF s1 L1 = true ∧ o < 0 ∧ code = 1) ∨ (okF s1 L1 = true ∧ 0 ≤ o ∧ 463488 < o + (lb : Int) ∧ code = 16)) → Hid (Calls Try.prog 10 #[.agg #[.int .i64 s1, .slice A1 m3 c1], .int .i64 o, .slice Ab lb cb] w4 fun e w' => e = .returned (refusedV code) ∧ Below w4.heap.size w4 w') := fun code hc => Lib.hid (Write_bad s1 o code A1 Ab m3 c1 lb cb L1 w4 HI04.out hs1b (by omega) ho2 hc)
    have HBAD := Lib.hid hbad
    clear hbad
    cases hok : okF s1 L1 with
    | false =>
      have HW := HBAD.out 1 (.inl ⟨hok, rfl⟩)
      clear HBAD
      go_wp2_with fail
      refine HW.out.mono ?_
      rintro e w5 ⟨rfl, h5⟩
      unfold refusedV
      go_wp2
      go_meet
      exact HEND.out w5 0 none 0 0 [] none 0 0 [] 1 h5 (IsP.none _ _) Rd.nil (by omega) (.inl ⟨rfl, .inl hok, rfl, rfl, rfl⟩)
    | true =>
      by_cases h0 : o < 0
      · have HW := HBAD.out 1 (.inr (.inl ⟨hok, h0, rfl⟩))
        clear HBAD
        go_wp2_with fail
        refine HW.out.mono ?_
        rintro e w5 ⟨rfl, h5⟩
        unfold refusedV
        go_wp2
        go_meet
        exact HEND.out w5 0 none 0 0 [] none 0 0 [] 1 h5 (IsP.none _ _) Rd.nil (by omega) (.inl ⟨rfl, .inr h0, rfl, rfl, rfl⟩)
      · by_cases h2 : 463488 < o + (lb : Int)
        · have HW := HBAD.out 16 (.inr (.inr ⟨hok, by omega, h2, rfl⟩))
          clear HBAD
          go_wp2_with fail
          refine HW.out.mono ?_
          rintro e w5 ⟨rfl, h5⟩
          unfold refusedV
          go_wp2
          go_meet
          exact HEND.out w5 0 none 0 0 [] none 0 0 [] 16 h5 (IsP.none _ _) Rd.nil (by omega) (.inr (.inl ⟨rfl, hok, by omega, h2, rfl, rfl, rfl⟩))
        · obtain ⟨on, rfl⟩ := Int.eq_ofNat_of_zero_le (show 0 ≤ o by omega)
          have HW := Lib.hid (Write_ok s1 on A1 Ab m3 c1 lb cb L1 b w4 HI04.out ((HRB.out.below hbw4).more hbw4.size) hlbc hcb hok (by omega))
          clear HBAD
          go_wp2_with fail
          refine HW.out.mono ?_
          rintro e w5 ⟨⟨Ax, nx, cx, vw, Lx, rfl, hIx, hWx, hOx⟩, h5⟩
          obtain ⟨Aw, cw, rfl, _, _, hRw⟩ := own_form hOx
          have hnx : nx ≤ 3621 := by
            rw [← hIx.count]
            exact ok_len (hWx.ok L1 Lx s1 on b ((okF_iff _ _).1 hok) (by rw [HLB.out]; omega))
          have hlw : (blocksW on lb).length ≤ 1000 := by have := blocksW_len on lb; omega
          obtain ⟨nw, hnw⟩ : ∃ nw, (blocksW on lb).length = nw := ⟨_, rfl⟩
          rw [hnw] at hRw hlw ⊢
          obtain ⟨sx, hsx'⟩ : ∃ sx, sizeW s1 on lb = sx := ⟨_, rfl⟩
          rw [hsx']
          have HOUT := Lib.hid (show outW s1 L1 (on : Int) lb b 0 sx nx nw Lx (blocksW on lb) from .inr (.inr ⟨rfl, hok, by omega, by omega, by rw [Int.toNat_natCast]; exact hsx'.symm, by rw [Int.toNat_natCast]; exact hWx, by rw [Int.toNat_natCast], hnx⟩))
          have HIX := Lib.hid hIx
          have HRW := Lib.hid hRw
          clear hIx hWx hOx hRw hsx' hnw
          go_wp2
          go_meet
          exact HEND.out w5 sx Ax nx cx Lx Aw nw cw (blocksW on lb) 0 h5 HIX.out HRW.out hlw HOUT.out
  case rest =>
  obtain ⟨b8, sx, Ax, nx, cx, Lx, Aw, nw, cw, ws, code, rfl, rfl, rfl, hB8, hIX, hRW, hnw, hout, hb4⟩ := hcut
  obtain ⟨w5, rfl⟩ : ∃ w5 : World, w5 = wc := ⟨wc, rfl⟩
  have hsw5 := hb4.size
  have hbw5 := hbw4.trans (hb4.mono hbw4.size)
  have hC0 := HB04.out.below hb4 (by omega)
  have hC7 := HB4.out.below hb4 l34
  have HI1 := Lib.hid (HI04.out.later hb4)
  have HI3 := Lib.hid (HI34.out.later hb4)
  have l8 := hB8.lt
  have hm3 : m3 ≤ 20 := by omega
  have HC0 := Lib.hid hC0
  have HC7 := Lib.hid hC7
  have HB8 := Lib.hid hB8
  have HIX := Lib.hid hIX
  have HRW := Lib.hid hRW
  have HOUT := Lib.hid hout
  obtain ⟨k0, k1, _, _⟩ := blk2 hC0
  obtain ⟨k2, k3, _, _⟩ := blk2 hC7
  have l0 : w.heap.size < w5.heap.size := by omega
  have l7 : b7 < w5.heap.size := by omega
  have hM : ∀ W, Below w5.heap.size w5 W → Calls Try.prog 11 #[.agg #[.int .i64 s1, .slice A1 m3 c1]] W fun e w' => e = .returned (.bool (okF s1 L1)) ∧ Below W.heap.size W w' := fun W hW => rMay_any s1 A1 m3 c1 L1 W (HI1.out.later hW) hs1b (by omega)
  have HM := Lib.hid hM
  clear hC0 hC7 hB8 hIX hRW hout hM d0 d1 d2 d3 HB04 HB4 HI04 HI34
  go_upto_region 6 with fail
  go_cut [53] (fun s53 wd => s53 = .bool false ∧ Below w5.heap.size w5 wd)
  case first =>
    cases hok : okF s1 L1 with
    | false =>
      have HM2 := HM.out
      rw [hok] at HM2
      have HM3 := Lib.hid HM2
      clear HM HM2
      have q0 : ∀ z : Later w5, z.x.cell? ⟨w.heap.size, 0, none⟩ = some (.int .i64 s1) := fun z => z.cell k0
      have q1 : ∀ z : Later w5, z.x.cell? ⟨w.heap.size, 1, none⟩ = some (.slice A1 m3 c1) := fun z => z.cell k1
      have q2 : ∀ z : Later w5, z.x.cell? ⟨b7, 0, none⟩ = some (.int .i64 s1) := fun z => z.cell k2
      have q3 : ∀ z : Later w5, z.x.cell? ⟨b7, 1, none⟩ = some (.slice A3 m3 c3) := fun z => z.cell k3
      have hne := later_ne w5
      refine wp_region_calm (by kernel_rfl) (by kernel_rfl) ?_
      repeat (first | go_big_quiet_skip | (go_big_quiet_want; go_big_quiet_op; first | go_big_quiet_on | go_big_quiet_call ((first | (go_at_call 11; exact Later.call _ (HM3.out _ (Later.h _)))))))
      refine wpQuiet_nil ?_
      rintro _ ⟨⟨wd, hbd⟩, rfl⟩
      go_wp2_with fail
      go_meet
      exact ⟨rfl, hbd⟩
    | true =>
      have HM2 := HM.out
      rw [hok] at HM2
      have HM3 := Lib.hid HM2
      have hOK := (okF_iff _ _).1 hok
      obtain ⟨sn, rfl⟩ := Int.eq_ofNat_of_zero_le hOK.1
      have hsn : sn ≤ 463488 := by have := hOK.2.1; omega
      obtain ⟨z, hz⟩ : ∃ z, (sn + 127) / 128 = z := ⟨_, rfl⟩
      have HO : Hid (∀ W, Below w5.heap.size w5 W → Calls Try.prog 13 #[.agg #[.int .i64 (sn : Int), .slice A3 m3 c3]] W fun e w' =>
          (∃ g1 g2, e = .returned (.agg #[.slice (some ⟨g1, 0, none⟩) sn sn, .slice (some ⟨g2, 0, none⟩) z z]) ∧ Rd w' w'.heap.size 1 (some ⟨g1, 0, none⟩) sn (octV (fileB sn L1)) ∧ Rd w' w'.heap.size 1 (some ⟨g2, 0, none⟩) z (boolV (fileT sn L1))) ∧ Below W.heap.size W w') := Lib.hid fun W hW => by
        have := rOf_any sn A3 m3 c3 L1 W (HI3.out.later hW) hok (by omega)
        rw [hz] at this
        refine this.mono ?_
        rintro e w' ⟨⟨g1, g2, rfl, l1, l2, _, _, _, hb1, hb2⟩, hb⟩
        exact ⟨⟨g1, g2, rfl, hb1.rd (by rw [octV_len]; unfold fileB; rw [tab_len]) l1, hb2.rd (by rw [boolV_len]; unfold fileT; rw [tab_len]; exact hz) l2⟩, hb⟩
      have HI : Hid (∀ (W : World) (g1 g2 : Nat), Below w5.heap.size w5 W → Rd W W.heap.size 1 (some ⟨g1, 0, none⟩) sn (octV (fileB sn L1)) → Rd W W.heap.size 1 (some ⟨g2, 0, none⟩) z (boolV (fileT sn L1)) → Calls Try.prog 12 #[.agg #[.int .i64 (sn : Int), .slice A1 m3 c1], .agg #[.slice (some ⟨g1, 0, none⟩) sn sn, .slice (some ⟨g2, 0, none⟩) z z]] W fun e w' => e = .returned (.bool true) ∧ Below W.heap.size W w') := Lib.hid fun W g1 g2 hW hR1 hR2 => by
        have := rIs_any (sn : Int) A1 (some ⟨g1, 0, none⟩) (some ⟨g2, 0, none⟩) m3 c1 sn sn z z L1 (fileB sn L1) (fileT sn L1) W (HI1.out.later hW) hs1b (by omega) hR1 hR2 hz.symm (by omega)
        rw [(isF_iff _ _ _ _).2 ⟨hok, by unfold fileB; rw [tab_len], by unfold fileB; rw [tab_len], by unfold fileB; rw [tab_len]⟩] at this
        exact this
      clear HM HM2 hOK hok
      go_region_held3 (fun w' => w'.cell? ⟨w.heap.size, 0, none⟩ = some (.int .i64 (sn : Int)) ∧ w'.cell? ⟨w.heap.size, 1, none⟩ = some (.slice A1 m3 c1) ∧ w'.cell? ⟨b7, 0, none⟩ = some (.int .i64 (sn : Int)) ∧ w'.cell? ⟨b7, 1, none⟩ = some (.slice A3 m3 c3))
        (first
          | go_keep
          | exact ⟨(hBA.cell (p := ⟨w.heap.size, 0, none⟩) l0).trans k0, (hBA.cell (p := ⟨w.heap.size, 1, none⟩) l0).trans k1, (hBA.cell (p := ⟨b7, 0, none⟩) l7).trans k2, (hBA.cell (p := ⟨b7, 1, none⟩) l7).trans k3⟩
          | exact ⟨(hBB.cell (p := ⟨w.heap.size, 0, none⟩) l0).trans k0, (hBB.cell (p := ⟨w.heap.size, 1, none⟩) l0).trans k1, (hBB.cell (p := ⟨b7, 0, none⟩) l7).trans k2, (hBB.cell (p := ⟨b7, 1, none⟩) l7).trans k3⟩
          | exact ⟨(hBC.cell (p := ⟨w.heap.size, 0, none⟩) l0).trans k0, (hBC.cell (p := ⟨w.heap.size, 1, none⟩) l0).trans k1, (hBC.cell (p := ⟨b7, 0, none⟩) l7).trans k2, (hBC.cell (p := ⟨b7, 1, none⟩) l7).trans k3⟩)
        (first
          | (go_at_call 11; refine (HM3.out _ (below_drew (Below.refl _ _))).mono ?_; rintro e wA ⟨rfl, hA⟩; have hBA : Below w5.heap.size w5 wA := (below_drew (Below.refl w5.heap.size w5)).trans hA)
          | (go_at_call 13; refine (HO.out _ hBA).mono ?_; rintro e wB ⟨⟨g1, g2, rfl, hR1, hR2⟩, hB⟩; have hBB : Below w5.heap.size w5 wB := hBA.trans (hB.mono hBA.size))
          | (go_at_call 12; refine (HI.out _ g1 g2 hBB hR1 hR2).mono ?_; rintro e wC ⟨rfl, hC⟩; have hBC : Below w5.heap.size w5 wC := hBB.trans (hC.mono hBB.size)))
      all_goals
        go_wp2_with fail
        go_meet
        exact ⟨rfl, hBC⟩
  case rest =>
  obtain ⟨rfl, hbd⟩ := hcut
  have hbw6 := hbw5.trans (hbd.mono (by omega))
  obtain ⟨k0, k1, _, _⟩ := blk2 (HC0.out.below hbd l0)
  obtain ⟨k4, k5, _, _⟩ := blk2 (HB8.out.below hbd l8)
  have HMW := Lib.hid (HM.out wc hbd)
  have hsd := hbd.size
  clear k2 k3
  rcases HOUT.out with ⟨rfl, hor, rfl, rfl, rfl⟩ | ⟨rfl, hok, ho0', h463, rfl, rfl, rfl⟩ | ⟨rfl, hok, ho0', h463, hsxe, hWI, rfl, hnx⟩
  · have hgo : okF s1 L1 = false ∨ (okF s1 L1 = true ∧ decide (o < 0) = true) := by
      rcases hor with h | h
      · exact .inl h
      · cases hok : okF s1 L1 with
        | false => exact .inl rfl
        | true => exact .inr ⟨rfl, decide_eq_true h⟩
    clear hor
    rcases hgo with hok | ⟨hok, hd⟩
    · rw [hok] at HMW
      go_wp2_with fail
      refine HMW.out.mono ?_
      rintro e w6 ⟨rfl, h6⟩
      have hbw7 := hbw6.trans (h6.mono hbw6.size)
      have j4 := (h6.cell (p := ⟨b8, 0, none⟩) (by show b8 < wc.heap.size; omega)).trans k4
      have j5 := (h6.cell (p := ⟨b8, 1, none⟩) (by show b8 < wc.heap.size; omega)).trans k5
      clear hok
      go_wp2_with fail
      refine (none_any 0 Ax 0 cx _).mono ?_
      rintro e w7 ⟨rfl, h7⟩
      go_wp2_with fail
      refine (HAW.out _).mono ?_
      rintro e w8 ⟨rfl, h8⟩
      go_wp2
      go_ret
      exact ⟨rfl, (hbw7.trans (h7.mono hbw7.size)).trans (h8.mono (by have := h7.size; have := hbw7.size; omega))⟩
    · rw [hok] at HMW
      go_wp2_with fail
      refine HMW.out.mono ?_
      rintro e w6 ⟨rfl, h6⟩
      have hbw7 := hbw6.trans (h6.mono hbw6.size)
      have j4 := (h6.cell (p := ⟨b8, 0, none⟩) (by show b8 < wc.heap.size; omega)).trans k4
      have j5 := (h6.cell (p := ⟨b8, 1, none⟩) (by show b8 < wc.heap.size; omega)).trans k5
      clear hok
      go_wp2_with fail
      refine (none_any 0 Ax 0 cx _).mono ?_
      rintro e w7 ⟨rfl, h7⟩
      go_wp2_with fail
      refine (HAW.out _).mono ?_
      rintro e w8 ⟨rfl, h8⟩
      go_wp2
      go_ret
      exact ⟨rfl, (hbw7.trans (h7.mono hbw7.size)).trans (h8.mono (by have := h7.size; have := hbw7.size; omega))⟩
  · have hd : decide (o < 0) = false := decide_eq_false (by omega)
    have hd2 : decide (463488 - (lb : Int) < o) = true := decide_eq_true (by omega)
    rw [hok] at HMW
    go_wp2_with fail
    refine HMW.out.mono ?_
    rintro e w6 ⟨rfl, h6⟩
    have hbw7 := hbw6.trans (h6.mono hbw6.size)
    have j4 := (h6.cell (p := ⟨b8, 0, none⟩) (by show b8 < wc.heap.size; omega)).trans k4
    have j5 := (h6.cell (p := ⟨b8, 1, none⟩) (by show b8 < wc.heap.size; omega)).trans k5
    clear hok
    go_wp2_with fail
    refine (none_any 0 Ax 0 cx _).mono ?_
    rintro e w7 ⟨rfl, h7⟩
    go_wp2_with fail
    refine (HAW.out _).mono ?_
    rintro e w8 ⟨rfl, h8⟩
    go_wp2
    go_ret
    exact ⟨rfl, (hbw7.trans (h7.mono hbw7.size)).trans (h8.mono (by have := h7.size; have := hbw7.size; omega))⟩
  · have hd : decide (o < 0) = false := decide_eq_false (by omega)
    have hd2 : decide (463488 - (lb : Int) < o) = false := decide_eq_false (by omega)
    have hOK := (okF_iff _ _).1 hok
    obtain ⟨on, rfl⟩ := Int.eq_ofNat_of_zero_le ho0'
    obtain ⟨sn, rfl⟩ := Int.eq_ofNat_of_zero_le hOK.1
    rw [Int.toNat_natCast] at hsxe hWI
    have hsn : sn ≤ 463488 := by have := hOK.2.1; omega
    obtain ⟨z, hz⟩ : ∃ z, (sn + 127) / 128 = z := ⟨_, rfl⟩
    obtain ⟨s', hs'⟩ : ∃ s', sizeN sn on lb = s' := ⟨_, rfl⟩
    obtain ⟨z', hz'⟩ : ∃ z', (s' + 127) / 128 = z' := ⟨_, rfl⟩
    rw [sizeN_W, hs'] at hsxe
    subst hsxe
    have hs8 : s' ≤ 463488 := by rw [← hs']; unfold sizeN; split <;> omega
    obtain ⟨e1, e2⟩ := write_is sn on s' L1 Lx b hOK hWI (by rw [HLB.out]; exact hs')
    rw [HLB.out] at e1 e2
    rw [hz'] at e2
    have hokx : okF (s' : Int) Lx = true := by
      have := hWI.ok L1 Lx (sn : Int) on b hOK (by rw [HLB.out]; omega)
      rw [HLB.out, sizeN_W, hs'] at this
      exact (okF_iff _ _).2 this
    have HIS := Lib.hid ((isF_iff (s' : Int) Lx (tab s' (wrB (fileB sn L1) on b lb)) (tab z' (wrT (fileT sn L1) on lb))).2 ⟨hokx, by rw [tab_len], by rw [tab_len]; exact e2, by rw [tab_len]; exact e1⟩)
    rw [hok] at HMW
    obtain ⟨k2, k3, _, _⟩ := blk2 (HC7.out.below hbd l7)
    have hOf := rOf_any sn A3 m3 c3 L1
    have HOF := Lib.hid hOf
    have HOK2 := Lib.hid hok
    clear hOf hok hOK e1 e2 hokx hWI
    go_wp2_with fail
    refine HMW.out.mono ?_
    rintro e w6 ⟨rfl, h6⟩
    have hbw7 := hbw6.trans (h6.mono hbw6.size)
    have hb56 : Below w5.heap.size w5 w6 := hbd.trans (h6.mono hsd)
    obtain ⟨j2, j3, _, _⟩ := blk2 (HC7.out.below hb56 l7)
    have hR := HOF.out w6 (HI3.out.later hb56) HOK2.out (by omega)
    rw [hz] at hR
    have HR := Lib.hid hR
    clear hR
    go_wp2_with fail
    refine HR.out.mono ?_
    rintro e w7 ⟨⟨g1, g2, rfl, lg1, lg2, _, _, _, hb1, hb2⟩, h7⟩
    have hR1 := hb1.rd (n := sn) (by rw [octV_len]; unfold fileB; rw [tab_len]) lg1
    have hR2 := hb2.rd (n := z) (by rw [boolV_len]; unfold fileT; rw [tab_len]; exact hz) lg2
    have hbw8 := hbw7.trans (h7.mono hbw7.size)
    have HWR := Lib.hid (rWrite_any (some ⟨g1, 0, none⟩) (some ⟨g2, 0, none⟩) Ab sn sn z z lb cb on s' z' (fileB sn L1) (fileT sn L1) b w7 hR1 hR2 ((HRB.out.below hbw8).more hbw8.size) hz hsn (by omega) hs' hz')
    clear hb1 hb2 hR1 hR2
    go_wp2_with fail
    refine HWR.out.mono ?_
    rintro e w8 ⟨⟨g3, g4, vv, rfl, hR3, hR4, hOv⟩, h8⟩
    obtain ⟨Av, cv, rfl, _, _, hRv⟩ := own_form hOv
    have hb58 : Below w5.heap.size w5 w8 := hb56.trans ((h7.trans (h8.mono h7.size)).mono hb56.size)
    have hbw9 := hbw8.trans (h8.mono hbw8.size)
    obtain ⟨w9, hw9⟩ : ∃ w9, w8.alloc (.cells #[.slice (some ⟨g3, 0, none⟩) s' s', .slice (some ⟨g4, 0, none⟩) z' z'] 36) = w9 := ⟨_, rfl⟩
    have h9 : Below w8.heap.size w8 w9 := by rw [← hw9]; exact (Below.refl _ _).alloc (Nat.le_refl _) _
    have hb59 := hb58.trans (h9.mono hb58.size)
    have hB11 : Blk w9 w8.heap.size 36 (0, 0) #[.slice (some ⟨g3, 0, none⟩) s' s', .slice (some ⟨g4, 0, none⟩) z' z'] := by rw [← hw9]; exact Blk.new _ _ _ _
    obtain ⟨j4, j5, _, _⟩ := blk2 (HB8.out.below hb59 l8)
    obtain ⟨j6, j7, _, _⟩ := blk2 hB11
    have hi := rIs_any (s' : Int) Ax (some ⟨g3, 0, none⟩) (some ⟨g4, 0, none⟩) nx cx s' s' z' z' Lx _ _ w9 (HIX.out.later hb59) (by omega) (by omega) ((hR3.below h9).more h9.size) ((hR4.below h9).more h9.size) hz'.symm (by omega)
    rw [HIS.out] at hi
    have HI2 := Lib.hid hi
    have HRV := Lib.hid hRv
    obtain ⟨bl, hbl⟩ : ∃ bl, (blocksW on lb).length = bl := ⟨_, rfl⟩
    rw [hbl] at HRV ⊢
    clear hi hRv hOv hR3 hR4 hB11 hz hz' hs' hbl
    go_wp2_with fail
    refine HI2.out.mono ?_
    rintro e w10 ⟨rfl, h10⟩
    have hb9w : Below w.heap.size w w9 := hbw9.trans (h9.mono hbw9.size)
    have hbw10 := hb9w.trans (h10.mono hb9w.size)
    have hb510 := hb59.trans (h10.mono hb59.size)
    have h810 := h9.trans (h10.mono h9.size)
    have hsame := Ints_any Aw Av nw cw bl cv (blocksW on lb) (blocksW on lb) w10 ((HRW.out.below hb510).more hb510.size) ((HRV.out.below h810).more h810.size) (by omega)
    rw [decide_eq_true rfl] at hsame
    have HSM := Lib.hid hsame
    clear hsame hw9
    go_wp2_with fail
    refine HSM.out.mono ?_
    rintro e w11 ⟨rfl, h11⟩
    go_wp2_with fail
    refine (HAW.out _).mono ?_
    rintro e w12 ⟨rfl, h12⟩
    have hbw11 := hbw10.trans (h11.mono hbw10.size)
    go_wp2
    go_ret
    exact ⟨rfl, hbw11.trans (h12.mono hbw11.size)⟩
end Go.Proofs.Ytpofkkoiicdpbaa
