/-
  Walks: the program's Take and Add.
-/
import Derived.Test.YtpjghildhhpeeaaInsE
import Derived.Test.YtpjghildhhpeeaaDelE
import Derived.Deep.RegionHeld3
import Derived.Deep.DrawnRows
namespace Go.Proofs.Ytpjghildhhpeeaa
open Go.RowKit
attribute [local go_sem ↓] Go.wp_at_zero Go.wp_at_succ

theorem enters_take1 : ∀ args w, (callFunc 33 args).run Try.prog w = .ok (.enter 33 args) w := enters_of Try.func33 (by kernel_rfl) rfl
set_option maxHeartbeats 1000000 in
theorem take1_any (x : Ent) (q : ByteArray) (b : Nat) (w : World) (h : w.cell? ⟨b, 0, none⟩ = some (.string q)) (hb : b < w.heap.size) :
    Calls Try.prog 33 (#[vE x] ++ #[.pointer (some ⟨b, 0, none⟩)]) w fun e w' => e = .returned (.bool (decide (x.1 = oc q))) ∧ Below w.heap.size w w' := by
  have hne := name_eq (st x.1) q x.1 (oc q) (oc_st _) rfl
  show Calls _ _ #[.agg #[.string (st x.1), .int .i64 x.2.1, .int .i64 x.2.2], _] _ _
  obtain ⟨d, hd⟩ : ∃ d, decide (x.1 = oc q) = d := ⟨_, rfl⟩
  obtain ⟨s, hs⟩ : ∃ s, st x.1 = s := ⟨_, rfl⟩
  rw [hs] at hne ⊢
  rw [hd] at hne ⊢
  clear hs hd
  cases d with
  | true =>
    have hsq : s.toList = q.toList := by simpa using hne
    have hsq2 : s = q := oc_inj (by rw [← toList_oc, ← toList_oc, hsq])
    subst hsq2
    clear hne hsq
    go_enter Try.func33, Try.ntmps33
    go_wp2
    go_ret
    exact ⟨by simp, (Below.refl _ _).alloc (Nat.le_refl _) _⟩
  | false =>
    go_enter Try.func33, Try.ntmps33
    go_wp2
    go_ret
    exact ⟨rfl, (Below.refl _ _).alloc (Nat.le_refl _) _⟩

set_option maxHeartbeats 4000000 in
set_option maxRecDepth 100000 in
theorem Take_any (A : Option Addr) (n c : Nat) (l : List Ent) (q : ByteArray) (w : World) (hr : Rd w w.heap.size 3 A n (rowE l)) (hn : n ≤ 100000) (hnc : n ≤ c) (hnil : A = none → c = 0) (hsz : ∀ x ∈ l, x.1.length ≤ 1000000) (hq : q.size ≤ 1000000) :
    Calls Try.prog 13 #[.slice A n c, .string q] w fun e w' => (∃ v, e = .returned (.tuple #[v, .int .i64 (takeE l (oc q)).2]) ∧ OwnE w w' v (takeE l (oc q)).1) ∧ Below w.heap.size w w' := by
  have hln := rowV_count fE_len hr (by omega)
  obtain ⟨wx, hwx⟩ : ∃ wx, w.alloc (.cells #[.string q] 9) = wx := ⟨_, rfl⟩
  have hbx : Below w.heap.size w wx := by rw [← hwx]; exact (Below.refl _ _).alloc (Nat.le_refl _) _
  have hsx : w.heap.size < wx.heap.size := by rw [← hwx]; simp
  have x0 : wx.cell? ⟨w.heap.size, 0, none⟩ = some (.string q) := by rw [← hwx]; exact new_cell w _ _ _ 0 rfl
  have hF := Find_any A n c l q wx ((hr.below hbx).more hbx.size) (by omega) hsz hq
  have hCl : ∀ W, Below w.heap.size w W → Calls Try.prog 29 #[.slice A n c] W fun e w' => (∃ v, e = .returned v ∧ w'.ownsRow W.heap.size 24 3 v n (rowE l)) ∧ Below W.heap.size W w' := fun W h => Clone_any A n c (rowE l) W ((hr.below h).more h.size) (rowE_one l) (by omega) hnc hnil
  have hDel : ∀ (W : World) (base : Nat) (v : Value), Below wx.heap.size wx W → wx.heap.size ≤ base → base ≤ W.heap.size → W.ownsRow base 24 3 v n (rowE l) →
      Calls Try.prog 32 #[v, .func (.func 33) #[] #[.pointer (some ⟨w.heap.size, 0, none⟩)]] W fun e w' => (∃ v', e = .returned v' ∧ w'.ownsRow base 24 3 v' (outE l (oc q)).length (rowE (outE l (oc q)))) ∧ Below base W w' := fun W base v hb hbb hbs ho =>
    DeleteFuncE_any base v n l (fun y => decide (y.1 = oc q)) _ _ enters_take1 W ho hn hbs (fun W2 y hb2 _ => take1_any y q w.heap.size W2
      ((hb2.cell (p := ⟨w.heap.size, 0, none⟩) (by show w.heap.size < _; omega)).trans ((hb.cell (p := ⟨w.heap.size, 0, none⟩) (by show w.heap.size < _; omega)).trans x0)) (by have := hb2.size; omega))
  obtain ⟨er, her⟩ : ∃ er, (findE l (oc q)).2 = er := ⟨_, rfl⟩
  obtain ⟨y0, hy0⟩ : ∃ y0, (findE l (oc q)).1 = y0 := ⟨_, rfl⟩
  rw [her, hy0] at hF
  obtain ⟨nm0, ino0, ty0⟩ := y0
  obtain ⟨s0, hs0⟩ : ∃ s, st nm0 = s := ⟨_, rfl⟩
  have hv0 : vE (nm0, ino0, ty0) = .agg #[.string s0, .int .i64 ino0, .int .i64 ty0] := by rw [← hs0]; rfl
  rw [hv0] at hF
  have HF := Lib.hid hF
  have HWX := Lib.hid hwx
  have HCL := Lib.hid hCl
  have HD := Lib.hid hDel
  clear hF hwx hCl hDel hs0 hy0 hv0 hsz hln hr hnil
  by_cases h0 : er = 0
  · rw [takeE_ok l (oc q) (by rw [her]; exact h0)]
    subst h0
    clear her
    go_enter Try.func13, Try.ntmps13
    go_wp2_with fail
    rw [HWX.out]
    refine HF.out.mono ?_
    rintro e w1 ⟨rfl, h1⟩
    have d1 : Below wx.heap.size wx (w1.alloc (.cells #[.string s0, .int .i64 ino0, .int .i64 ty0] 24)) := h1.alloc h1.size _
    have b1 := hbx.trans (d1.mono (Nat.le_of_lt hsx))
    go_wp2_with fail
    refine (HCL.out _ b1).mono ?_
    rintro e w2 ⟨⟨v2, rfl, o2⟩, h2⟩
    have d2 := d1.trans (h2.mono d1.size)
    have b2 := hbx.trans (d2.mono (Nat.le_of_lt hsx))
    have O2 := Lib.hid o2
    have hsz2 := d1.size
    have hsz3 := h2.size
    clear o2
    go_wp2_with fail
    refine (HD.out w2 _ v2 d2 hsz2 hsz3 O2.out).mono ?_
    rintro e w3 ⟨⟨v3, rfl, o3⟩, h3⟩
    have O3 := Lib.hid (own_base o3 (Nat.le_trans (Nat.le_of_lt hsx) hsz2))
    have b3 := b2.trans (h3.mono (Nat.le_trans (Nat.le_of_lt hsx) hsz2))
    clear o3
    go_wp2
    go_ret2
    exact ⟨⟨v3, rfl, O3.out⟩, b3⟩
  · rw [takeE_bad l (oc q) er her h0]
    have hne : (er != 0) = true := by rw [bne_iff_ne]; exact h0
    have HO : ∀ W, Hid (OwnE w W (.slice none 0 0) []) := fun W => Lib.hid ⟨rfl, .inl ⟨rfl, rfl⟩⟩
    clear her h0
    go_enter Try.func13, Try.ntmps13
    go_wp2_with fail
    rw [HWX.out]
    refine HF.out.mono ?_
    rintro e w1 ⟨rfl, h1⟩
    have d1 : Below wx.heap.size wx (w1.alloc (.cells #[.string s0, .int .i64 ino0, .int .i64 ty0] 24)) := h1.alloc h1.size _
    have b1 := hbx.trans (d1.mono (Nat.le_of_lt hsx))
    go_wp2
    go_ret2
    exact ⟨⟨_, rfl, (HO _).out⟩, b1⟩

theorem keep_later {wx W w2 : World} {g : Nat} {a b c : Value} (h2 : Below W.heap.size W w2) (h : Below wx.heap.size wx W) (hg : g < wx.heap.size) (c0 : W.cell? ⟨g, 0, none⟩ = some a) (c1 : W.cell? ⟨g, 1, none⟩ = some b) (c2 : W.cell? ⟨g, 2, none⟩ = some c) :
    Below wx.heap.size wx w2 ∧ w2.cell? ⟨g, 0, none⟩ = some a ∧ w2.cell? ⟨g, 1, none⟩ = some b ∧ w2.cell? ⟨g, 2, none⟩ = some c := by
  have hs := h.size
  exact ⟨h.trans (h2.mono hs), (h2.cell (p := ⟨g, _, none⟩) (by show g < _; omega)).trans c0, (h2.cell (p := ⟨g, _, none⟩) (by show g < _; omega)).trans c1, (h2.cell (p := ⟨g, _, none⟩) (by show g < _; omega)).trans c2⟩
theorem keep_alloc {wx W : World} {g : Nat} {a b c : Value} (o : Obj) (h : Below wx.heap.size wx W) (hg : g < wx.heap.size) (c0 : W.cell? ⟨g, 0, none⟩ = some a) (c1 : W.cell? ⟨g, 1, none⟩ = some b) (c2 : W.cell? ⟨g, 2, none⟩ = some c) :
    Below wx.heap.size wx (W.alloc o) ∧ (W.alloc o).cell? ⟨g, 0, none⟩ = some a ∧ (W.alloc o).cell? ⟨g, 1, none⟩ = some b ∧ (W.alloc o).cell? ⟨g, 2, none⟩ = some c :=
  keep_later ((Below.refl _ _).alloc (Nat.le_refl _) o) h hg c0 c1 c2
theorem keep_base {wx W w2 : World} {g : Nat} {a b c : Value} (h2 : Below wx.heap.size W w2) (h : Below wx.heap.size wx W) (hg : g < wx.heap.size) (c0 : W.cell? ⟨g, 0, none⟩ = some a) (c1 : W.cell? ⟨g, 1, none⟩ = some b) (c2 : W.cell? ⟨g, 2, none⟩ = some c) :
    Below wx.heap.size wx w2 ∧ w2.cell? ⟨g, 0, none⟩ = some a ∧ w2.cell? ⟨g, 1, none⟩ = some b ∧ w2.cell? ⟨g, 2, none⟩ = some c :=
  ⟨h.trans h2, (h2.cell (p := ⟨g, _, none⟩) hg).trans c0, (h2.cell (p := ⟨g, _, none⟩) hg).trans c1, (h2.cell (p := ⟨g, _, none⟩) hg).trans c2⟩
theorem own_block_ne {w : World} {base n sz gv : Nat} {e : TypeId} {v : Value} {xs : List Value} (h : w.ownsRow base e sz v n xs) (hg : gv < base ∨ w.heap.size ≤ gv) : v.ownBlock ≠ some gv := fun hv => by
  have := h.lt gv hv
  omega

set_option maxHeartbeats 8000000 in
set_option maxRecDepth 100000 in
theorem Add_any (A : Option Addr) (n c : Nat) (l : List Ent) (x : Ent) (w : World) (hr : Rd w w.heap.size 3 A n (rowE l)) (hn : n ≤ 100000) (hnc : n ≤ c) (hnil : A = none → c = 0) (hsz : ∀ x ∈ l, x.1.length ≤ 1000000) (hx : x.1.length ≤ 1000000) :
    Calls Try.prog 11 #[.slice A n c, vE x] w fun e w' => (∃ v, e = .returned (.tuple #[v, .int .i64 (addE l x).2]) ∧ OwnE w w' v (addE l x).1) ∧ Below w.heap.size w w' := by
  have hln := rowV_count fE_len hr (by omega)
  obtain ⟨wx, hwx⟩ : ∃ wx, w.alloc (.cells #[.string (st x.1), .int .i64 x.2.1, .int .i64 x.2.2] 24) = wx := ⟨_, rfl⟩
  have hbx : Below w.heap.size w wx := by rw [← hwx]; exact (Below.refl _ _).alloc (Nat.le_refl _) _
  have hsx : w.heap.size < wx.heap.size := by rw [← hwx]; simp
  have hBx : Blk wx w.heap.size 24 (0, 0) #[.string (st x.1), .int .i64 x.2.1, .int .i64 x.2.2] := by rw [← hwx]; exact Blk.new w _ _ _
  have hM : ∀ W, Below w.heap.size w W → Calls Try.prog 17 #[.slice A n c] W fun e w' => e = .returned (.bool (mayL l)) ∧ Below W.heap.size W w' := fun W h => May_any A n c l W ((hr.below h).more h.size) (by omega) hsz
  have hI : ∀ W, Calls Try.prog 24 #[.string (st x.1)] W fun e w' => e = .returned (.bool (isName x.1)) ∧ Below W.heap.size W w' := fun W => by
    have := Is_any (st x.1) W (by rw [st_size]; exact hx); rw [oc_st] at this; exact this
  have hRi : ∀ W, Calls Try.prog 27 #[.agg #[.string (st x.1), .int .i64 x.2.1, .int .i64 x.2.2]] W fun e w' => e = .returned (.bool (rightE x)) ∧ Below W.heap.size W w' := fun W => right_any x W
  have hCl : ∀ W, Below w.heap.size w W → Calls Try.prog 29 #[.slice A n c] W fun e w' => (∃ v, e = .returned v ∧ w'.ownsRow W.heap.size 24 3 v n (rowE l)) ∧ Below W.heap.size W w' := fun W h => Clone_any A n c (rowE l) W ((hr.below h).more h.size) (rowE_one l) (by omega) hnc hnil
  have hO0 : ∀ W, OwnE w W (.slice none 0 0) [] := fun W => ⟨rfl, .inl ⟨rfl, rfl⟩⟩
  have hadd : addE l x = if mayL l = true then (if isName x.1 = true then (if rightE x = true then (if hasN l x.1 = true then ([], 7) else if 30 ≤ n then ([], 8) else (insE l x, 0)) else ([], 1)) else ([], 11)) else ([], 1) := by unfold addE; rw [hln]
  show Calls _ _ #[_, .agg #[.string (st x.1), .int .i64 x.2.1, .int .i64 x.2.2]] _ _
  rw [hadd]
  cases hm : mayL l with
  | false =>
    rw [hm] at hM
    rw [if_neg (by simp)]
    obtain ⟨nm, ino, ty⟩ := x
    simp only at hwx ⊢
    obtain ⟨s, hs⟩ : ∃ s, st nm = s := ⟨_, rfl⟩
    rw [hs] at hwx ⊢
    have HM := Lib.hid hM
    have HWX := Lib.hid hwx
    have HO0 := Lib.hid hO0
    clear hM hI hRi hm hCl hwx hs hO0 hadd hr hsz hnil hln hBx
    go_enter Try.func11, Try.ntmps11
    go_wp2_with fail
    rw [HWX.out]
    refine (HM.out _ hbx).mono ?_
    rintro e w1 ⟨rfl, h1⟩
    go_wp2
    go_ret2
    exact ⟨⟨_, rfl, HO0.out _⟩, hbx.trans (h1.mono hbx.size)⟩
  | true =>
  rw [hm] at hM
  rw [if_pos rfl]
  obtain ⟨hgood, hl30⟩ := (mayL_iff l).1 hm
  rw [hln] at hl30
  have hFi : ∀ W, Below w.heap.size w W → Calls Try.prog 23 #[.slice A n c, .string (st x.1)] W fun e w' => e = .returned (.tuple #[.int .i64 (posE l x.1), .bool (hasN l x.1)]) ∧ Below W.heap.size W w' := fun W h => by
    have := find_any A n c l (st x.1) W ((hr.below h).more h.size) hgood.2 (by omega); rw [oc_st] at this; exact this
  have hpn : posE l x.1 ≤ n := by rw [← hln]; exact posE_le l x.1
  have hres : hasN l x.1 = false → (rowE l).take (posE l x.1 * 3) ++ [.string (st x.1), .int .i64 x.2.1, .int .i64 x.2.2] ++ (rowE l).drop (posE l x.1 * 3) = rowE (insE l x) ∧ (insE l x).length = n + 1 := fun hh => by
    refine ⟨?_, by rw [ins_len l x hgood.2 hh, hln]⟩
    rw [← ins_pos l x hgood.2 hh]
    show (rowV fE l).take _ ++ fE x ++ (rowV fE l).drop _ = rowV fE _
    rw [rowV_take fE_len, rowV_drop fE_len, rowV_append, rowV_append, rowV_one]
  have HRES := Lib.hid hres
  have hone := rowE_one l
  have HONE := Lib.hid hone
  clear hres hone
  obtain ⟨R, hR⟩ : ∃ R, insE l x = R := ⟨_, rfl⟩
  rw [hR] at HRES ⊢
  obtain ⟨has, hhas⟩ : ∃ has, hasN l x.1 = has := ⟨_, rfl⟩
  obtain ⟨nmB, hnmB⟩ : ∃ b, isName x.1 = b := ⟨_, rfl⟩
  obtain ⟨riB, hriB⟩ : ∃ b, rightE x = b := ⟨_, rfl⟩
  rw [hhas] at hFi HRES ⊢
  rw [hnmB] at hI ⊢
  rw [hriB] at hRi ⊢
  obtain ⟨pos, hpos⟩ : ∃ pos, posE l x.1 = pos := ⟨_, rfl⟩
  rw [hpos] at hFi hpn HRES
  obtain ⟨nm, ino, ty⟩ := x
  simp only at hwx hBx hI hRi hFi HRES ⊢
  obtain ⟨s, hs⟩ : ∃ s, st nm = s := ⟨_, rfl⟩
  rw [hs] at hwx hBx hI hRi hFi HRES ⊢
  have HM := Lib.hid hM
  have HI := Lib.hid hI
  have HRi := Lib.hid hRi
  have HFI := Lib.hid hFi
  have HCL := Lib.hid hCl
  have HWX := Lib.hid hwx
  have HBX := Lib.hid hBx
  have HO0 := Lib.hid hO0
  have BX : Below wx.heap.size wx wx := Below.refl _ _
  clear hM hI hRi hm hCl hwx hs hO0 hadd hr hsz hnil hln hBx hFi hpos hriB hnmB hhas hR hgood hx
  cases nmB with
  | false =>
    rw [if_neg (by simp)]
    go_enter Try.func11, Try.ntmps11
    go_wp2_with fail
    rw [HWX.out]
    refine (HM.out _ hbx).mono ?_
    rintro e w1 ⟨rfl, h1⟩
    have b1 : Below w.heap.size w w1 := hbx.trans (h1.mono hbx.size)
    have d1 : Below wx.heap.size wx w1 := BX.trans (h1.mono BX.size)
    obtain ⟨x0, x1, x2, _⟩ := blk3 (HBX.out.below d1 hsx)
    go_wp2_with fail
    refine (HFI.out _ b1).mono ?_
    rintro e w2 ⟨rfl, h2⟩
    have b2 : Below w.heap.size w w2 := b1.trans (h2.mono b1.size)
    have d2 : Below wx.heap.size wx w2 := d1.trans (h2.mono d1.size)
    obtain ⟨x0, x1, x2, _⟩ := blk3 (HBX.out.below d2 hsx)
    go_wp2_with fail
    refine (HI.out _).mono ?_
    rintro e w3 ⟨rfl, h3⟩
    have b3 : Below w.heap.size w w3 := b2.trans (h3.mono b2.size)
    have d3 : Below wx.heap.size wx w3 := d2.trans (h3.mono d2.size)
    obtain ⟨x0, x1, x2, _⟩ := blk3 (HBX.out.below d3 hsx)
    go_wp2
    go_ret2
    exact ⟨⟨_, rfl, HO0.out _⟩, b3⟩
  | true =>
  rw [if_pos rfl]
  cases riB with
  | false =>
    rw [if_neg (by simp)]
    go_enter Try.func11, Try.ntmps11
    go_wp2_with fail
    rw [HWX.out]
    refine (HM.out _ hbx).mono ?_
    rintro e w1 ⟨rfl, h1⟩
    have b1 : Below w.heap.size w w1 := hbx.trans (h1.mono hbx.size)
    have d1 : Below wx.heap.size wx w1 := BX.trans (h1.mono BX.size)
    obtain ⟨x0, x1, x2, _⟩ := blk3 (HBX.out.below d1 hsx)
    go_wp2_with fail
    refine (HFI.out _ b1).mono ?_
    rintro e w2 ⟨rfl, h2⟩
    have b2 : Below w.heap.size w w2 := b1.trans (h2.mono b1.size)
    have d2 : Below wx.heap.size wx w2 := d1.trans (h2.mono d1.size)
    obtain ⟨x0, x1, x2, _⟩ := blk3 (HBX.out.below d2 hsx)
    go_wp2_with fail
    refine (HI.out _).mono ?_
    rintro e w3 ⟨rfl, h3⟩
    have b3 : Below w.heap.size w w3 := b2.trans (h3.mono b2.size)
    have d3 : Below wx.heap.size wx w3 := d2.trans (h3.mono d2.size)
    obtain ⟨x0, x1, x2, _⟩ := blk3 (HBX.out.below d3 hsx)
    go_wp2_with fail
    refine (HRi.out _).mono ?_
    rintro e w4 ⟨rfl, h4⟩
    have b4 : Below w.heap.size w w4 := b3.trans (h4.mono b3.size)
    have d4 : Below wx.heap.size wx w4 := d3.trans (h4.mono d3.size)
    obtain ⟨x0, x1, x2, _⟩ := blk3 (HBX.out.below d4 hsx)
    go_wp2
    go_ret2
    exact ⟨⟨_, rfl, HO0.out _⟩, b4⟩
  | true =>
  rw [if_pos rfl]
  cases has with
  | true =>
    rw [if_pos rfl]
    go_enter Try.func11, Try.ntmps11
    go_wp2_with fail
    rw [HWX.out]
    refine (HM.out _ hbx).mono ?_
    rintro e w1 ⟨rfl, h1⟩
    have b1 : Below w.heap.size w w1 := hbx.trans (h1.mono hbx.size)
    have d1 : Below wx.heap.size wx w1 := BX.trans (h1.mono BX.size)
    obtain ⟨x0, x1, x2, _⟩ := blk3 (HBX.out.below d1 hsx)
    go_wp2_with fail
    refine (HFI.out _ b1).mono ?_
    rintro e w2 ⟨rfl, h2⟩
    have b2 : Below w.heap.size w w2 := b1.trans (h2.mono b1.size)
    have d2 : Below wx.heap.size wx w2 := d1.trans (h2.mono d1.size)
    obtain ⟨x0, x1, x2, _⟩ := blk3 (HBX.out.below d2 hsx)
    go_wp2_with fail
    refine (HI.out _).mono ?_
    rintro e w3 ⟨rfl, h3⟩
    have b3 : Below w.heap.size w w3 := b2.trans (h3.mono b2.size)
    have d3 : Below wx.heap.size wx w3 := d2.trans (h3.mono d2.size)
    obtain ⟨x0, x1, x2, _⟩ := blk3 (HBX.out.below d3 hsx)
    go_wp2_with fail
    refine (HRi.out _).mono ?_
    rintro e w4 ⟨rfl, h4⟩
    have b4 : Below w.heap.size w w4 := b3.trans (h4.mono b3.size)
    have d4 : Below wx.heap.size wx w4 := d3.trans (h4.mono d3.size)
    obtain ⟨x0, x1, x2, _⟩ := blk3 (HBX.out.below d4 hsx)
    go_wp2
    go_ret2
    exact ⟨⟨_, rfl, HO0.out _⟩, b4⟩
  | false =>
  rw [if_neg (by simp)]
  by_cases h30 : 30 ≤ n
  · rw [if_pos h30]
    have he : ((n : Int) == 30) = true := by rw [beq_iff_eq]; omega
    clear h30 hl30
    go_enter Try.func11, Try.ntmps11
    go_wp2_with fail
    rw [HWX.out]
    refine (HM.out _ hbx).mono ?_
    rintro e w1 ⟨rfl, h1⟩
    have b1 : Below w.heap.size w w1 := hbx.trans (h1.mono hbx.size)
    have d1 : Below wx.heap.size wx w1 := BX.trans (h1.mono BX.size)
    obtain ⟨x0, x1, x2, _⟩ := blk3 (HBX.out.below d1 hsx)
    go_wp2_with fail
    refine (HFI.out _ b1).mono ?_
    rintro e w2 ⟨rfl, h2⟩
    have b2 : Below w.heap.size w w2 := b1.trans (h2.mono b1.size)
    have d2 : Below wx.heap.size wx w2 := d1.trans (h2.mono d1.size)
    obtain ⟨x0, x1, x2, _⟩ := blk3 (HBX.out.below d2 hsx)
    go_wp2_with fail
    refine (HI.out _).mono ?_
    rintro e w3 ⟨rfl, h3⟩
    have b3 : Below w.heap.size w w3 := b2.trans (h3.mono b2.size)
    have d3 : Below wx.heap.size wx w3 := d2.trans (h3.mono d2.size)
    obtain ⟨x0, x1, x2, _⟩ := blk3 (HBX.out.below d3 hsx)
    go_wp2_with fail
    refine (HRi.out _).mono ?_
    rintro e w4 ⟨rfl, h4⟩
    have b4 : Below w.heap.size w w4 := b3.trans (h4.mono b3.size)
    have d4 : Below wx.heap.size wx w4 := d3.trans (h4.mono d3.size)
    obtain ⟨x0, x1, x2, _⟩ := blk3 (HBX.out.below d4 hsx)
    go_wp2
    go_ret2
    exact ⟨⟨_, rfl, HO0.out _⟩, b4⟩
  rw [if_neg h30]
  have he : ((n : Int) == 30) = false := by rw [beq_eq_false_iff_ne]; omega
  have HR2 := Lib.hid (HRES.out rfl)
  have n29 : n ≤ 29 := by omega
  clear h30 hl30
  go_enter Try.func11, Try.ntmps11
  go_wp2_with fail
  rw [HWX.out]
  refine (HM.out _ hbx).mono ?_
  rintro e w1 ⟨rfl, h1⟩
  have b1 : Below w.heap.size w w1 := hbx.trans (h1.mono hbx.size)
  have d1 : Below wx.heap.size wx w1 := BX.trans (h1.mono BX.size)
  obtain ⟨x0, x1, x2, _⟩ := blk3 (HBX.out.below d1 hsx)
  go_wp2_with fail
  refine (HFI.out _ b1).mono ?_
  rintro e w2 ⟨rfl, h2⟩
  have b2 : Below w.heap.size w w2 := b1.trans (h2.mono b1.size)
  have d2 : Below wx.heap.size wx w2 := d1.trans (h2.mono d1.size)
  obtain ⟨x0, x1, x2, _⟩ := blk3 (HBX.out.below d2 hsx)
  go_wp2_with fail
  refine (HI.out _).mono ?_
  rintro e w3 ⟨rfl, h3⟩
  have b3 : Below w.heap.size w w3 := b2.trans (h3.mono b2.size)
  have d3 : Below wx.heap.size wx w3 := d2.trans (h3.mono d2.size)
  obtain ⟨x0, x1, x2, _⟩ := blk3 (HBX.out.below d3 hsx)
  go_wp2_with fail
  refine (HRi.out _).mono ?_
  rintro e w4 ⟨rfl, h4⟩
  have b4 : Below w.heap.size w w4 := b3.trans (h4.mono b3.size)
  have d4 : Below wx.heap.size wx w4 := d3.trans (h4.mono d3.size)
  obtain ⟨x0, x1, x2, _⟩ := blk3 (HBX.out.below d4 hsx)
  go_wp2_with fail
  go_region_held3 (fun w' => Below wx.heap.size wx w' ∧ w'.cell? ⟨w.heap.size, 0, none⟩ = some (.string s) ∧ w'.cell? ⟨w.heap.size, 1, none⟩ = some (.int .i64 ino) ∧ w'.cell? ⟨w.heap.size, 2, none⟩ = some (.int .i64 ty))
    (first
      | (go_split_ands; exact keep_base h6 (by assumption) hsx (by assumption) (by assumption) (by assumption))
      | (go_split_ands; exact keep_later h5 (by assumption) hsx (by assumption) (by assumption) (by assumption))
      | (go_split_ands; exact keep_alloc _ (by assumption) hsx (by assumption) (by assumption) (by assumption))
      | exact ⟨⟨d4.os, d4.tape, d4.output, d4.size, d4.block⟩, x0, x1, x2⟩)
    ((first
      | (go_at_call 29; (try dsimp only at *); go_split_ands; refine (HCL.out _ (hbx.trans (Below.mono (by assumption) (Nat.le_of_lt hsx)))).mono ?_; rintro e w5 ⟨⟨v5, rfl, o5⟩, h5⟩)
      | (go_at_call 28; refine (InsertE_any wx.heap.size n pos w5.heap.size v5 (rowE l) [.string s, .int .i64 ino, .int .i64 ty] _ (own_base (own_later o5 ((Below.refl _ _).alloc (Nat.le_refl _) _)) d4.size) HONE.out (Blk.new w5 _ _ _) rfl (three_one _ _ _) (own_block_ne o5 (.inr (Nat.le_refl _))) hpn hn (base_alloc (Nat.le_trans d4.size h5.size) _)).mono ?_; rintro e w6 ⟨⟨v6, rfl, o6⟩, h6⟩)
      | (go_at_call 28; refine (InsertE_any wx.heap.size n pos w4.heap.size v5 (rowE l) [.string s, .int .i64 ino, .int .i64 ty] _ (own_base o5 (base_alloc (w := w4.drew) d4.size _)) HONE.out ((Blk.new w4.drew _ _ _).below h5 (by simp)) rfl (three_one _ _ _) (own_block_ne o5 (.inl (by simp))) hpn hn (Nat.le_trans (base_alloc (w := w4.drew) d4.size _) h5.size)).mono ?_; rintro e w6 ⟨⟨v6, rfl, o6⟩, h6⟩)))
  all_goals
    (try dsimp only at *)
    go_split_ands
    have d6 : Below wx.heap.size wx w6 := by assumption
    rw [HR2.out.1, ← HR2.out.2] at o6
    have O6 := Lib.hid (own_base o6 (Nat.le_of_lt hsx))
    clear o6
    go_wp2
    go_ret2
    exact ⟨⟨v6, rfl, O6.out⟩, hbx.trans (d6.mono (Nat.le_of_lt hsx))⟩
end Go.Proofs.Ytpjghildhhpeeaa
