/-
  Walk: the law EntryRules.
-/
import Derived.Test.YtpjghildhhpeeaaEntryK
namespace Go.Proofs.Ytpjghildhhpeeaa
open Go.RowKit
set_option linter.unusedVariables false

theorem few_few (l : List Ent) : fewE (fewE l) = fewE l := by
  unfold fewE
  rw [← List.map_take, List.take_take, List.map_map]
  refine List.map_congr_left fun x _ => ?_
  simp [fewS, List.take_take]
theorem few_len (l : List Ent) : (fewE l).length ≤ 33 := by unfold fewE; rw [List.length_map, List.length_take]; omega
theorem few_names (l : List Ent) : ∀ x ∈ fewE l, x.1.length ≤ 1000000 := by
  intro x hx
  unfold fewE at hx
  obtain ⟨y, _, rfl⟩ := List.mem_map.1 hx
  show (fewS y.1).length ≤ 1000000
  unfold fewS
  rw [List.length_take]; omega
theorem fewS_len (s : List UInt8) : (fewS s).length ≤ 60 := by unfold fewS; rw [List.length_take]; omega
theorem own_setCell {w : World} {base n sz : Nat} {e : TypeId} {v : Value} {xs : List Value} (h : w.ownsRow base e sz v n xs) {p : Addr} (hp : p.block < base) (u : Value) : (w.setCell p u).ownsRow base e sz v n xs := by
  refine ⟨h.1, ?_⟩
  rcases h.2 with h2 | ⟨g, cap, cur, hv, hg, hh, r⟩
  · exact .inl h2
  · exact .inr ⟨g, cap, cur, hv, hg, (Below.heap_setCell w p u g (by omega)).trans hh, r⟩
theorem own_nil_or {w : World} {base n sz c : Nat} {e : TypeId} {A : Option Addr} {xs : List Value} (h : w.ownsRow base e sz (.slice A n c) n xs) : A = none → c = 0 := by
  intro hA
  subst hA
  rcases h.2 with ⟨hv, _⟩ | ⟨g, cap, cur, hv, _⟩
  · injection hv
  · injection hv with e _ _; cases e

set_option maxHeartbeats 8000000 in
set_option maxRecDepth 100000 in
theorem rules_law (A : Option Addr) (n c : Nat) (l : List Ent) (x : Ent) (w : World) (hr : Rd w w.heap.size 3 A n (rowE l)) (hn : n ≤ c) (hc : c ≤ maxLen) (hsz : ∀ x ∈ l, x.1.length ≤ 9223372036854775807) (hx : x.1.length ≤ 9223372036854775807) :
    Calls Try.prog 3 #[.slice A n c, vE x] w fun e w' => e = .returned (.bool true) ∧ Below w.heap.size w w' := by
  obtain ⟨nm0, ino, ty⟩ := x
  simp only at hx
  have hx2 : fewS nm0 = fewS nm0 := rfl
  obtain ⟨L, hL⟩ : ∃ L, fewE l = L := ⟨_, rfl⟩
  have hLn : L.length ≤ 33 := by rw [← hL]; exact few_len l
  have hLs : ∀ y ∈ L, y.1.length ≤ 1000000 := by rw [← hL]; exact few_names l
  have hLL : fewE L = L := by rw [← hL]; exact few_few l
  obtain ⟨nm, hnm⟩ : ∃ nm, fewS nm0 = nm := ⟨_, rfl⟩
  have hnl : nm.length ≤ 60 := by rw [← hnm]; exact fewS_len nm0
  obtain ⟨s0, hs0⟩ : ∃ s, st nm0 = s := ⟨_, rfl⟩
  have hfs : ∀ W, Calls Try.prog 8 #[.string s0] W fun e w' => e = .returned (.string (st nm)) ∧ W = w' := fun W => by
    have := few_any s0 W; rw [← hs0, oc_st, hnm] at this; rw [← hs0]; exact this
  obtain ⟨s, hs⟩ : ∃ s, st nm = s := ⟨_, rfl⟩
  have hos : oc s = nm := by rw [← hs, oc_st]
  have hss : s.size ≤ 60 := by rw [← oc_len, hos]; exact hnl
  show Calls _ _ #[_, .agg #[.string (st nm0), .int .i64 ino, .int .i64 ty]] _ _
  rw [hs0]
  rw [hs] at hfs
  obtain ⟨wx, hwx⟩ : ∃ wx, w.alloc (.cells #[.string s0, .int .i64 ino, .int .i64 ty] 24) = wx := ⟨_, rfl⟩
  have hbx : Below w.heap.size w wx := by rw [← hwx]; exact (Below.refl _ _).alloc (Nat.le_refl _) _
  have hsx : w.heap.size < wx.heap.size := by rw [← hwx]; simp
  have hB0 : Blk wx w.heap.size 24 (0, 0) #[.string s0, .int .i64 ino, .int .i64 ty] := by rw [← hwx]; exact Blk.new w _ _ _
  have hF1 := Few_any A n c l wx ((hr.below hbx).more hbx.size) hn hc hsz
  rw [hL] at hF1
  have hnl2 : nm.length ≤ 1000000 := by omega
  have hx' : vE (nm, ino, ty) = .agg #[.string s, .int .i64 ino, .int .i64 ty] := by rw [← hs]; rfl
  have HF1 := Lib.hid hF1
  have HFS := Lib.hid hfs
  have HWX := Lib.hid hwx
  have HB0 := Lib.hid hB0
  have HLS := Lib.hid hLs
  have HLL := Lib.hid hLL
  have HOS := Lib.hid hos
  have HXV := Lib.hid hx'
  obtain ⟨m, hm⟩ : ∃ m, L.length = m := ⟨_, rfl⟩
  have HM := Lib.hid hm
  rw [hm] at hLn
  clear hF1 hfs hwx hB0 hLs hLL hos hx' hr hsz hL hnm hs hs0 hx2 hnl hm hx
  have HNL := Lib.hid (show (nm, ino, ty).1.length ≤ 1000000 from hnl2)
  have HLB : Hid (∀ y ∈ L, y.1.length ≤ 9223372036854775807) := Lib.hid fun y hy => Nat.le_trans (HLS.out y hy) (by omega)
  obtain ⟨er, her⟩ : ∃ er, (findE L nm).2 = er := ⟨_, rfl⟩
  obtain ⟨y, hy⟩ : ∃ y, (findE L nm).1 = y := ⟨_, rfl⟩
  obtain ⟨ynm, yi, yt⟩ := y
  obtain ⟨sy, hsy0⟩ : ∃ sy, st ynm = sy := ⟨_, rfl⟩
  have hfd : ∀ (A1 : Option Addr) (c1 : Nat) (W : World), Rd W W.heap.size 3 A1 m (rowE L) → Calls Try.prog 9 #[.slice A1 m c1, .string s] W fun e w' => e = .returned (.tuple #[.agg #[.string sy, .int .i64 yi, .int .i64 yt], .int .i64 er]) ∧ Below W.heap.size W w' := fun A1 c1 W h => by
    have := Find_any A1 m c1 L s W h (by omega) HLS.out (by omega)
    rw [HOS.out, her, hy] at this
    unfold vE at this
    rw [hsy0] at this
    exact this
  have hrfd : ∀ (A1 : Option Addr) (c1 : Nat) (W : World), Rd W W.heap.size 3 A1 m (rowE L) → Calls Try.prog 10 #[.slice A1 m c1, .string s] W fun e w' => e = .returned (.tuple #[.agg #[.string sy, .int .i64 yi, .int .i64 yt], .int .i64 er]) ∧ Below W.heap.size W w' := fun A1 c1 W h => by
    have := rFind_any A1 m c1 L s W h (by omega) HLS.out (by omega)
    rw [HOS.out, her, hy] at this
    unfold vE at this
    rw [hsy0] at this
    exact this
  have hal : (addE L (nm, ino, ty)).1.length ≤ 60 := by
    unfold addE
    repeat' split
    all_goals (try (show 0 ≤ 60; omega))
    show (insE L (nm, ino, ty)).length ≤ 60
    unfold insE loE hiE
    have h1 := List.length_filter_le (fun y : Ent => decide (cmpL y.1 nm = -1)) L
    have h2 := List.length_filter_le (fun y : Ent => decide (cmpL y.1 nm = 1)) L
    simp only [List.length_append, List.length_cons, List.length_nil]
    rename_i h3
    have h4 : L.length ≤ 29 := by omega
    omega
  obtain ⟨ea, hea⟩ : ∃ ea, (addE L (nm, ino, ty)).2 = ea := ⟨_, rfl⟩
  obtain ⟨LA, hLA⟩ : ∃ LA, (addE L (nm, ino, ty)).1 = LA := ⟨_, rfl⟩
  rw [hLA] at hal
  have had : ∀ (A1 : Option Addr) (c1 : Nat) (W : World), Rd W W.heap.size 3 A1 m (rowE L) → m ≤ c1 → (A1 = none → c1 = 0) → Calls Try.prog 11 #[.slice A1 m c1, .agg #[.string s, .int .i64 ino, .int .i64 ty]] W fun e w' => (∃ v, e = .returned (.tuple #[v, .int .i64 ea]) ∧ OwnE W w' v LA) ∧ Below W.heap.size W w' := fun A1 c1 W h h2 h3 => by
    have := Add_any A1 m c1 L (nm, ino, ty) W h (by omega) h2 h3 HLS.out HNL.out
    rw [hea, hLA, HXV.out] at this
    exact this
  have hrad : ∀ (A1 : Option Addr) (c1 : Nat) (W : World), Rd W W.heap.size 3 A1 m (rowE L) → Calls Try.prog 12 #[.slice A1 m c1, .agg #[.string s, .int .i64 ino, .int .i64 ty]] W fun e w' => (∃ v, e = .returned (.tuple #[v, .int .i64 ea]) ∧ OwnE W w' v LA) ∧ Below W.heap.size W w' := fun A1 c1 W h => by
    have := rAdd_any A1 m c1 L (nm, ino, ty) W h (by omega) HLS.out HNL.out
    rw [hea, hLA, HXV.out] at this
    exact this
  obtain ⟨et, het⟩ : ∃ et, (takeE L nm).2 = et := ⟨_, rfl⟩
  obtain ⟨LT, hLT⟩ : ∃ LT, (takeE L nm).1 = LT := ⟨_, rfl⟩
  have htl : LT.length ≤ 33 := by
    rw [← hLT]
    unfold takeE
    split
    · have h1 := List.length_filter_le (fun x : Ent => !decide (x.1 = nm)) L
      show (outE L nm).length ≤ 33
      unfold outE
      rw [HM.out] at h1
      omega
    · show 0 ≤ 33; omega
  have hta : ∀ (A1 : Option Addr) (c1 : Nat) (W : World), Rd W W.heap.size 3 A1 m (rowE L) → m ≤ c1 → (A1 = none → c1 = 0) → Calls Try.prog 13 #[.slice A1 m c1, .string s] W fun e w' => (∃ v, e = .returned (.tuple #[v, .int .i64 et]) ∧ OwnE W w' v LT) ∧ Below W.heap.size W w' := fun A1 c1 W h h2 h3 => by
    have := Take_any A1 m c1 L s W h (by omega) h2 h3 HLS.out (by omega)
    rw [HOS.out, het, hLT] at this
    exact this
  have hrta : ∀ (A1 : Option Addr) (c1 : Nat) (W : World), Rd W W.heap.size 3 A1 m (rowE L) → Calls Try.prog 14 #[.slice A1 m c1, .string s] W fun e w' => (∃ v, e = .returned (.tuple #[v, .int .i64 et]) ∧ OwnE W w' v LT) ∧ Below W.heap.size W w' := fun A1 c1 W h => by
    have := rTake_any A1 m c1 L s W h (by omega) HLS.out (by omega)
    rw [HOS.out, het, hLT] at this
    exact this
  have heq := ent_eq sy sy yi yi yt yt
  rw [decide_eq_true rfl] at heq
  have hgd : Try.prog.eqGuardType Try.prog.depth 24 = false := by kernel_rfl
  have HFD := Lib.hid hfd
  have HRFD := Lib.hid hrfd
  have HAD := Lib.hid had
  have HRAD := Lib.hid hrad
  have HTA := Lib.hid hta
  have HRTA := Lib.hid hrta
  clear hfd hrfd had hrad hta hrta her hy hsy0 hea hLA het hLT
  go_enter Try.func3, Try.ntmps3
  go_wp2_with fail
  rw [HWX.out]
  refine HF1.out.mono ?_
  rintro e w1 ⟨⟨v1, rfl, o1⟩, h1⟩
  have b1 := hbx.trans (h1.mono hbx.size)
  obtain ⟨x0, x1, x2, xf0, _⟩ := blk3 (HB0.out.below h1 hsx)
  unfold OwnE at o1
  rw [HM.out] at o1
  have HO1 := Lib.hid o1
  clear o1
  go_wp2_with fail
  refine (HFS.out _).mono ?_
  rintro e w0 ⟨rfl, rfl⟩
  obtain ⟨wy, hwy⟩ : ∃ wy, w1.setCell ⟨w.heap.size, 0, none⟩ (.string s) = wy := ⟨_, rfl⟩
  have b2 : Below w.heap.size w wy := by rw [← hwy]; exact b1.setCell (Nat.le_refl _) _
  have hsy : wx.heap.size ≤ wy.heap.size := by rw [← hwy]; have := h1.size; simpa [World.setCell] using this
  have hBX : Blk wy w.heap.size 24 (0, 0) #[.string s, .int .i64 ino, .int .i64 ty] := by
    rw [← hwy]
    have := (HB0.out.below h1 hsx).set_ 0 (.string s)
    simpa using this
  have o1y : wy.ownsRow wx.heap.size 24 3 v1 m (rowE L) := by rw [← hwy]; exact own_setCell HO1.out (by show w.heap.size < _; omega) _
  obtain ⟨A1, c1, rfl, hn1, hm1, r1⟩ := own_form o1y
  have hnil1 := own_nil_or o1y
  have HNIL := Lib.hid hnil1
  have R1 := Lib.hid r1
  have HBX := Lib.hid hBX
  have HWY := Lib.hid hwy
  clear o1y r1 hBX hwy hnil1 HO1
  obtain ⟨x0, x1, x2, xf0, _⟩ := blk3 HBX.out
  go_wp2_with fail
  rw [HWY.out]
  refine (Few_any A1 m c1 L _ R1.out hn1 hm1 HLB.out).mono ?_
  rintro e w3 ⟨⟨v2, rfl, o2⟩, h3⟩
  have b3 : Below w.heap.size w w3 := b2.trans (h3.mono b2.size)
  have R1 := Lib.hid ((R1.out.below h3).more h3.size)
  have HBX := Lib.hid (HBX.out.below h3 HBX.out.lt)
  obtain ⟨x0, x1, x2, xf0, _⟩ := blk3 HBX.out
  have xl := HBX.out.lt
  unfold OwnE at o2
  rw [HLL.out, HM.out] at o2
  obtain ⟨A2, c2, rfl, hn2, hm2, r2⟩ := own_form o2
  have R2 := Lib.hid r2
  clear r2
  go_wp2_with fail
  refine (HFD.out _ _ _ R1.out).mono ?_
  rintro e w4 ⟨rfl, h4⟩
  have b4 : Below w.heap.size w w4 := b3.trans (h4.mono b3.size)
  have R1 := Lib.hid ((R1.out.below h4).more h4.size)
  have R2 := Lib.hid ((R2.out.below h4).more h4.size)
  have HBX := Lib.hid (HBX.out.below h4 HBX.out.lt)
  obtain ⟨x0, x1, x2, xf0, _⟩ := blk3 HBX.out
  have xl := HBX.out.lt
  obtain ⟨w5, hw5⟩ : ∃ w5, w4.alloc (.cells #[.string sy, .int .i64 yi, .int .i64 yt] 24) = w5 := ⟨_, rfl⟩
  have h5 : Below w4.heap.size w4 w5 := by rw [← hw5]; exact (Below.refl _ _).alloc (Nat.le_refl _) _
  have HY6 : Hid (Blk w5 w4.heap.size 24 (0, 0) #[.string sy, .int .i64 yi, .int .i64 yt]) := Lib.hid (by rw [← hw5]; exact Blk.new w4 _ _ _)
  have HW5 := Lib.hid hw5
  clear hw5
  have b5 : Below w.heap.size w w5 := b4.trans (h5.mono b4.size)
  have R1 := Lib.hid ((R1.out.below h5).more h5.size)
  have R2 := Lib.hid ((R2.out.below h5).more h5.size)
  have HBX := Lib.hid (HBX.out.below h5 HBX.out.lt)
  obtain ⟨x0, x1, x2, xf0, _⟩ := blk3 HBX.out
  have xl := HBX.out.lt
  go_wp2_with fail
  rw [HW5.out]
  refine (HRFD.out _ _ _ R1.out).mono ?_
  rintro e w6 ⟨rfl, h6⟩
  have b6 : Below w.heap.size w w6 := b5.trans (h6.mono b5.size)
  have R1 := Lib.hid ((R1.out.below h6).more h6.size)
  have R2 := Lib.hid ((R2.out.below h6).more h6.size)
  have HBX := Lib.hid (HBX.out.below h6 HBX.out.lt)
  have HY6 := Lib.hid (HY6.out.below h6 HY6.out.lt)
  obtain ⟨x0, x1, x2, xf0, _⟩ := blk3 HBX.out
  have xl := HBX.out.lt
  obtain ⟨w7, hw7⟩ : ∃ w7, w6.alloc (.cells #[.string sy, .int .i64 yi, .int .i64 yt] 24) = w7 := ⟨_, rfl⟩
  have h7 : Below w6.heap.size w6 w7 := by rw [← hw7]; exact (Below.refl _ _).alloc (Nat.le_refl _) _
  have HY8 : Hid (Blk w7 w6.heap.size 24 (0, 0) #[.string sy, .int .i64 yi, .int .i64 yt]) := Lib.hid (by rw [← hw7]; exact Blk.new w6 _ _ _)
  have HW7 := Lib.hid hw7
  clear hw7
  have b7 : Below w.heap.size w w7 := b6.trans (h7.mono b6.size)
  have R1 := Lib.hid ((R1.out.below h7).more h7.size)
  have R2 := Lib.hid ((R2.out.below h7).more h7.size)
  have HBX := Lib.hid (HBX.out.below h7 HBX.out.lt)
  have HY6 := Lib.hid (HY6.out.below h7 HY6.out.lt)
  obtain ⟨x0, x1, x2, xf0, _⟩ := blk3 HBX.out
  have xl := HBX.out.lt
  go_wp2_with fail
  rw [HW7.out]
  refine (HAD.out _ _ _ R1.out hn1 HNIL.out).mono ?_
  rintro e w8 ⟨⟨v3, rfl, o3⟩, h8⟩
  have b8 : Below w.heap.size w w8 := b7.trans (h8.mono b7.size)
  have R1 := Lib.hid ((R1.out.below h8).more h8.size)
  have R2 := Lib.hid ((R2.out.below h8).more h8.size)
  have HBX := Lib.hid (HBX.out.below h8 HBX.out.lt)
  have HY6 := Lib.hid (HY6.out.below h8 HY6.out.lt)
  have HY8 := Lib.hid (HY8.out.below h8 HY8.out.lt)
  obtain ⟨x0, x1, x2, xf0, _⟩ := blk3 HBX.out
  have xl := HBX.out.lt
  obtain ⟨A3, c3, rfl, hn3, hm3, r3⟩ := own_form o3
  have R3 := Lib.hid r3
  clear r3
  go_wp2_with fail
  refine (HRAD.out _ _ _ R1.out).mono ?_
  rintro e w9 ⟨⟨v4, rfl, o4⟩, h9⟩
  have b9 : Below w.heap.size w w9 := b8.trans (h9.mono b8.size)
  have R1 := Lib.hid ((R1.out.below h9).more h9.size)
  have R2 := Lib.hid ((R2.out.below h9).more h9.size)
  have R3 := Lib.hid ((R3.out.below h9).more h9.size)
  have HBX := Lib.hid (HBX.out.below h9 HBX.out.lt)
  have HY6 := Lib.hid (HY6.out.below h9 HY6.out.lt)
  have HY8 := Lib.hid (HY8.out.below h9 HY8.out.lt)
  obtain ⟨x0, x1, x2, xf0, _⟩ := blk3 HBX.out
  have xl := HBX.out.lt
  obtain ⟨A4, c4, rfl, hn4, hm4, r4⟩ := own_form o4
  have R4 := Lib.hid r4
  clear r4
  go_wp2_with fail
  refine (HTA.out _ _ _ R1.out hn1 HNIL.out).mono ?_
  rintro e w10 ⟨⟨v5, rfl, o5⟩, h10⟩
  have b10 : Below w.heap.size w w10 := b9.trans (h10.mono b9.size)
  have R1 := Lib.hid ((R1.out.below h10).more h10.size)
  have R2 := Lib.hid ((R2.out.below h10).more h10.size)
  have R3 := Lib.hid ((R3.out.below h10).more h10.size)
  have R4 := Lib.hid ((R4.out.below h10).more h10.size)
  have HBX := Lib.hid (HBX.out.below h10 HBX.out.lt)
  have HY6 := Lib.hid (HY6.out.below h10 HY6.out.lt)
  have HY8 := Lib.hid (HY8.out.below h10 HY8.out.lt)
  obtain ⟨x0, x1, x2, xf0, _⟩ := blk3 HBX.out
  have xl := HBX.out.lt
  obtain ⟨A5, c5, rfl, hn5, hm5, r5⟩ := own_form o5
  have R5 := Lib.hid r5
  clear r5
  go_wp2_with fail
  refine (HRTA.out _ _ _ R1.out).mono ?_
  rintro e w11 ⟨⟨v6, rfl, o6⟩, h11⟩
  have b11 : Below w.heap.size w w11 := b10.trans (h11.mono b10.size)
  have R1 := Lib.hid ((R1.out.below h11).more h11.size)
  have R2 := Lib.hid ((R2.out.below h11).more h11.size)
  have R3 := Lib.hid ((R3.out.below h11).more h11.size)
  have R4 := Lib.hid ((R4.out.below h11).more h11.size)
  have R5 := Lib.hid ((R5.out.below h11).more h11.size)
  have HBX := Lib.hid (HBX.out.below h11 HBX.out.lt)
  have HY6 := Lib.hid (HY6.out.below h11 HY6.out.lt)
  have HY8 := Lib.hid (HY8.out.below h11 HY8.out.lt)
  obtain ⟨x0, x1, x2, xf0, _⟩ := blk3 HBX.out
  have xl := HBX.out.lt
  obtain ⟨A6, c6, rfl, hn6, hm6, r6⟩ := own_form o6
  have R6 := Lib.hid r6
  clear r6
  obtain ⟨y0, y1, y2, _⟩ := blk3 HY6.out
  obtain ⟨z0, z1, z2, _⟩ := blk3 HY8.out
  go_wp2_with fail
  refine (rSame_any A3 A4 LA.length c3 LA.length c4 LA LA _ R3.out R4.out (by omega) (by omega)).mono ?_
  rintro e w12 ⟨rfl, h12⟩
  have b12 : Below w.heap.size w w12 := b11.trans (h12.mono b11.size)
  have R1 := Lib.hid ((R1.out.below h12).more h12.size)
  have R2 := Lib.hid ((R2.out.below h12).more h12.size)
  have R3 := Lib.hid ((R3.out.below h12).more h12.size)
  have R4 := Lib.hid ((R4.out.below h12).more h12.size)
  have R5 := Lib.hid ((R5.out.below h12).more h12.size)
  have R6 := Lib.hid ((R6.out.below h12).more h12.size)
  have HBX := Lib.hid (HBX.out.below h12 HBX.out.lt)
  have HY6 := Lib.hid (HY6.out.below h12 HY6.out.lt)
  have HY8 := Lib.hid (HY8.out.below h12 HY8.out.lt)
  obtain ⟨x0, x1, x2, xf0, _⟩ := blk3 HBX.out
  have xl := HBX.out.lt
  rw [decide_eq_true (rfl : LA = LA)]
  go_wp2_with fail
  refine (rSame_any A5 A6 LT.length c5 LT.length c6 LT LT _ R5.out R6.out (by omega) (by omega)).mono ?_
  rintro e w13 ⟨rfl, h13⟩
  have b13 : Below w.heap.size w w13 := b12.trans (h13.mono b12.size)
  have R1 := Lib.hid ((R1.out.below h13).more h13.size)
  have R2 := Lib.hid ((R2.out.below h13).more h13.size)
  have R3 := Lib.hid ((R3.out.below h13).more h13.size)
  have R4 := Lib.hid ((R4.out.below h13).more h13.size)
  have R5 := Lib.hid ((R5.out.below h13).more h13.size)
  have R6 := Lib.hid ((R6.out.below h13).more h13.size)
  have HBX := Lib.hid (HBX.out.below h13 HBX.out.lt)
  have HY6 := Lib.hid (HY6.out.below h13 HY6.out.lt)
  have HY8 := Lib.hid (HY8.out.below h13 HY8.out.lt)
  obtain ⟨x0, x1, x2, xf0, _⟩ := blk3 HBX.out
  have xl := HBX.out.lt
  rw [decide_eq_true (rfl : LT = LT)]
  go_wp2_with fail
  refine (rSame_any A1 A2 m c1 m c2 L L _ R1.out R2.out (by omega) (by omega)).mono ?_
  rintro e w14 ⟨rfl, h14⟩
  have b14 : Below w.heap.size w w14 := b13.trans (h14.mono b13.size)
  have R1 := Lib.hid ((R1.out.below h14).more h14.size)
  have R2 := Lib.hid ((R2.out.below h14).more h14.size)
  have R3 := Lib.hid ((R3.out.below h14).more h14.size)
  have R4 := Lib.hid ((R4.out.below h14).more h14.size)
  have R5 := Lib.hid ((R5.out.below h14).more h14.size)
  have R6 := Lib.hid ((R6.out.below h14).more h14.size)
  have HBX := Lib.hid (HBX.out.below h14 HBX.out.lt)
  have HY6 := Lib.hid (HY6.out.below h14 HY6.out.lt)
  have HY8 := Lib.hid (HY8.out.below h14 HY8.out.lt)
  obtain ⟨x0, x1, x2, xf0, _⟩ := blk3 HBX.out
  have xl := HBX.out.lt
  rw [decide_eq_true (rfl : L = L)]
  go_wp2_with fail
  refine (awake_any _).mono ?_
  rintro e w15 ⟨rfl, h15⟩
  have b15 : Below w.heap.size w w15 := b14.trans (h15.mono b14.size)
  have R1 := Lib.hid ((R1.out.below h15).more h15.size)
  have R2 := Lib.hid ((R2.out.below h15).more h15.size)
  have R3 := Lib.hid ((R3.out.below h15).more h15.size)
  have R4 := Lib.hid ((R4.out.below h15).more h15.size)
  have R5 := Lib.hid ((R5.out.below h15).more h15.size)
  have R6 := Lib.hid ((R6.out.below h15).more h15.size)
  have HBX := Lib.hid (HBX.out.below h15 HBX.out.lt)
  have HY6 := Lib.hid (HY6.out.below h15 HY6.out.lt)
  have HY8 := Lib.hid (HY8.out.below h15 HY8.out.lt)
  obtain ⟨x0, x1, x2, xf0, _⟩ := blk3 HBX.out
  have xl := HBX.out.lt
  go_wp2
  go_ret
  exact ⟨rfl, b15⟩
end Go.Proofs.Ytpjghildhhpeeaa
