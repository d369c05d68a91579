/-
  Walks: the document's Take and Add.
-/
import Derived.Test.YtpjghildhhpeeaaEntryD
namespace Go.Proofs.Ytpjghildhhpeeaa
open Go.RowKit

theorem filter_take_snoc (p : Ent → Bool) (l : List Ent) (k : Nat) (x : Ent) (h : l[k]? = some x) : (l.take (k + 1)).filter p = (l.take k).filter p ++ if p x = true then [x] else [] := by
  rw [take_snoc l k x h, List.filter_append]
  cases hp : p x <;> simp [hp]
theorem filter_take_len (p : Ent → Bool) (l : List Ent) (k : Nat) : ((l.take k).filter p).length ≤ k := by
  have := List.length_filter_le p (l.take k)
  have := List.length_take_le k l
  omega
/-- One entry more behind a row of the call's own. -/
theorem own_snoc {w : World} {base : Nat} {v : Value} {l : List Ent} {nm : List UInt8} {s : ByteArray} {ino ty : Int} (hs : st nm = s) (h : w.ownsRow base 24 3 v (l.length + 1) (rowE l ++ [.string s, .int .i64 ino, .int .i64 ty])) :
    w.ownsRow base 24 3 v (l ++ [(nm, ino, ty)]).length (rowE (l ++ [(nm, ino, ty)])) := by
  show w.ownsRow _ _ _ _ _ (rowV fE _)
  rw [rowV_snoc, List.length_append]
  show w.ownsRow _ _ _ _ (l.length + 1) (rowV fE l ++ [.string (st nm), .int .i64 ino, .int .i64 ty])
  rw [hs]; exact h
theorem three_one (s : ByteArray) (i t : Int) : ∀ u ∈ [Value.string s, .int .i64 i, .int .i64 t], u.oneCell' = true := by
  intro u hu
  simp only [List.mem_cons, List.not_mem_nil, or_false] at hu
  rcases hu with rfl | rfl | rfl <;> rfl
theorem takeE_bad (l : List Ent) (nm : List UInt8) (e : Int) (h : (findE l nm).2 = e) (he : e ≠ 0) : takeE l nm = ([], e) := by unfold takeE; rw [h, if_neg he]
theorem takeE_ok (l : List Ent) (nm : List UInt8) (h : (findE l nm).2 = 0) : takeE l nm = (outE l nm, 0) := by unfold takeE; rw [if_pos h]
theorem findE_err (l : List Ent) (nm : List UInt8) : (findE l nm).2 = 0 ∨ (findE l nm).2 = 1 ∨ (findE l nm).2 = 11 ∨ (findE l nm).2 = 6 := by
  unfold findE
  split
  · split
    · split
      · exact .inl rfl
      · exact .inr (.inr (.inr rfl))
    · exact .inr (.inr (.inl rfl))
  · exact .inr (.inl rfl)

set_option maxHeartbeats 2000000 in
set_option maxRecDepth 100000 in
theorem rTake_any (A : Option Addr) (n c : Nat) (l : List Ent) (q : ByteArray) (w : World) (hr : Rd w w.heap.size 3 A n (rowE l)) (hn : n ≤ 1000000) (hsz : ∀ x ∈ l, x.1.length ≤ 1000000) (hq : q.size ≤ 1000000) :
    Calls Try.prog 14 #[.slice A n c, .string q] w fun e w' => (∃ v, e = .returned (.tuple #[v, .int .i64 (takeE l (oc q)).2]) ∧ OwnE w w' v (takeE l (oc q)).1) ∧ Below w.heap.size w w' := by
  obtain ⟨i0, hi, hz0, hz1, hz2⟩ := info_parts Try.info24
  have hF := rFind_any A n c l q w hr hn hsz hq
  have hln := rowV_count fE_len hr (by omega)
  obtain ⟨er, her⟩ : ∃ er, (findE l (oc q)).2 = er := ⟨_, rfl⟩
  obtain ⟨x0, hx0⟩ : ∃ x0, (findE l (oc q)).1 = x0 := ⟨_, rfl⟩
  rw [her, hx0] at hF
  obtain ⟨nm0, ino0, ty0⟩ := x0
  obtain ⟨s0, hs0⟩ : ∃ s, st nm0 = s := ⟨_, rfl⟩
  have hv0 : vE (nm0, ino0, ty0) = .agg #[.string s0, .int .i64 ino0, .int .i64 ty0] := by rw [← hs0]; rfl
  rw [hv0] at hF
  have HF := Lib.hid hF
  have HR := Lib.hid hr
  have HL := Lib.hid hln
  clear hF hr hln hsz hx0 hs0 hv0
  by_cases h0 : er = 0
  · rw [takeE_ok l (oc q) (by rw [her]; exact h0)]
    subst h0
    clear her
    go_enter Try.func14, Try.ntmps14
    go_wp2_with fail
    refine HF.out.mono ?_
    rintro e w1 ⟨rfl, h1⟩
    go_wp2
    go_loopw [8, 9] (fun v i wr => ∃ k : Nat, k ≤ n ∧ i = .int .i64 k ∧ wr.ownsRow w.heap.size 24 3 v (outE (l.take k) (oc q)).length (rowE (outE (l.take k) (oc q))) ∧ Below w.heap.size w wr) (fun _ i _ => n - (intOf i).toNat)
    case atStart => exact ⟨0, Nat.zero_le _, rfl, ⟨rfl, .inl ⟨rfl, rfl⟩⟩, h1.alloc h1.size _⟩
    case round =>
      obtain ⟨k, hk, rfl, hown, hbw⟩ := hrel
      by_cases hlt : k < n
      · obtain ⟨g, o, x, rfl, hg, hx, c0, c1, c2⟩ := ent_at (HR.out.below hbw) hlt
        have hne := name_eq (st x.1) q x.1 (oc q) (oc_st _) rfl
        have hsn : outE (l.take (k + 1)) (oc q) = outE (l.take k) (oc q) ++ if (!decide (x.1 = oc q)) = true then [x] else [] := filter_take_snoc _ l k x hx
        have hlen : (outE (l.take k) (oc q)).length ≤ k := filter_take_len _ l k
        obtain ⟨L, hL⟩ : ∃ L, outE (l.take k) (oc q) = L := ⟨_, rfl⟩
        rw [hL] at hsn hown hlen
        obtain ⟨p, hp⟩ : ∃ p, L.length = p := ⟨_, rfl⟩
        rw [hp] at hown hlen
        obtain ⟨nm, ino, ty⟩ := x
        obtain ⟨s, hs⟩ : ∃ s, st nm = s := ⟨_, rfl⟩
        simp only [hs] at c0 c1 c2 hne hsn
        have HP := Lib.hid hp
        have HS := Lib.hid hs
        by_cases hq1 : nm = oc q
        · have hsq : s = q := oc_inj (by rw [← hs, oc_st, hq1])
          have e1 : outE (l.take (k + 1)) (oc q) = L := by rw [hsn, if_neg (by simp [hq1]), List.append_nil]
          rw [← hp, ← e1] at hown
          have HO := Lib.hid hown
          clear e1 HS HP
          clear hsn hown hL hp hs hx hq1 hne
          subst hsq
          go_wp2
          go_roundw
          case rel => exact ⟨k + 1, by omega, by go_num, HO.out, hbw⟩
          case measure => simp [intOf]; omega
        · rw [decide_eq_false hq1] at hne
          have hne2 : (s.toList != q.toList) = true := by simp only [bne, hne]; rfl
          rw [if_pos (by simp [hq1])] at hsn
          have HSN := Lib.hid hsn
          clear hsn hL hp hs hx hq1
          go_wp2_with (at_builtin; refine wpList_append_own _ rfl (.tmp 32) (.tmp 37) 22 rfl w.heap.size 24 i0 _ 3 32 Try.underlying22 hi hz0 hz1 hz2 rfl (by decide) _ _ _ rfl (hown.alloc _) ⟨wr.heap.size, 0, none⟩ 1 1 [.string s, .int .i64 ino, .int .i64 ty] (by rfl) (by rfl) (fun j u hj => new_cells wr _ _ _ rfl j u hj) (three_one _ _ _) (by unfold maxLen; omega) (by omega) (base_alloc hbw.size _) ?_)
          intro v' w' hown' hgrow _
          have hbw' : Below w.heap.size w w' := (hbw.alloc hbw.size _).grown hgrow (base_alloc hbw.size _) (fun k hk => (hown.lt k hk).1)
          have HO : Hid (w'.ownsRow w.heap.size 24 3 v' (outE (l.take (k + 1)) (oc q)).length (rowE (outE (l.take (k + 1)) (oc q)))) := Lib.hid (by
            rw [HSN.out]; exact own_snoc HS.out (by rw [HP.out]; exact hown'))
          clear hown' hown hgrow
          go_wp2
          go_roundw
          case rel => exact ⟨k + 1, by omega, by go_num, HO.out, hbw'⟩
          case measure => simp [intOf]; omega
      · obtain rfl : k = n := by omega
        rw [List.take_of_length_le (by rw [HL.out]; exact Nat.le_refl _)] at hown
        have HO := Lib.hid hown
        clear hown
        go_wp2
        go_ret2
        exact ⟨⟨_, rfl, HO.out⟩, hbw⟩
  · rw [takeE_bad l (oc q) er her h0]
    have hne : (er != 0) = true := by rw [bne_iff_ne]; exact h0
    have HO : ∀ W, Hid (OwnE w W (.slice none 0 0) []) := fun W => Lib.hid ⟨rfl, .inl ⟨rfl, rfl⟩⟩
    clear her h0
    go_enter Try.func14, Try.ntmps14
    go_wp2_with fail
    refine HF.out.mono ?_
    rintro e w1 ⟨rfl, h1⟩
    go_wp2
    go_ret2
    exact ⟨⟨_, rfl, (HO _).out⟩, h1.alloc h1.size _⟩

set_option maxHeartbeats 4000000 in
set_option maxRecDepth 100000 in
theorem rAdd_any (A : Option Addr) (n c : Nat) (l : List Ent) (x : Ent) (w : World) (hr : Rd w w.heap.size 3 A n (rowE l)) (hn : n ≤ 1000000) (hsz : ∀ x ∈ l, x.1.length ≤ 1000000) (hx : x.1.length ≤ 1000000) :
    Calls Try.prog 12 #[.slice A n c, vE x] w fun e w' => (∃ v, e = .returned (.tuple #[v, .int .i64 (addE l x).2]) ∧ OwnE w w' v (addE l x).1) ∧ Below w.heap.size w w' := by
  obtain ⟨i0, hi, hz0, hz1, hz2⟩ := info_parts Try.info24
  have hln := rowV_count fE_len hr (by omega)
  obtain ⟨wx, hwx⟩ : ∃ wx, w.alloc (.cells #[.string (st x.1), .int .i64 x.2.1, .int .i64 x.2.2] 24) = wx := ⟨_, rfl⟩
  have hbx : Below w.heap.size w wx := by rw [← hwx]; exact (Below.refl _ _).alloc (Nat.le_refl _) _
  have hsx : w.heap.size < wx.heap.size := by rw [← hwx]; simp
  have hBx : Blk wx w.heap.size 24 (0, 0) #[.string (st x.1), .int .i64 x.2.1, .int .i64 x.2.2] := by rw [← hwx]; exact Blk.new w _ _ _
  have hM : ∀ W, Below w.heap.size w W → Calls Try.prog 21 #[.slice A n c] W fun e w' => e = .returned (.bool (mayL l)) ∧ Below W.heap.size W w' := fun W h => rMay_any A n c l W ((hr.below h).more h.size) hn hsz
  have hI : ∀ W, Calls Try.prog 25 #[.string (st x.1)] W fun e w' => e = .returned (.bool (isName x.1)) ∧ Below W.heap.size W w' := fun W => by
    have := rIs_any (st x.1) W (by rw [st_size]; exact hx); rw [oc_st] at this; exact this
  have hRi : ∀ W, Calls Try.prog 30 #[.agg #[.string (st x.1), .int .i64 x.2.1, .int .i64 x.2.2]] W fun e w' => e = .returned (.bool (rightE x)) ∧ Below W.heap.size W w' := fun W => rright_any x W
  have hAt : ∀ W, Below w.heap.size w W → Calls Try.prog 26 #[.slice A n c, .string (st x.1)] W fun e w' => AtIs l x.1 n e ∧ W = w' := fun W h => by
    have := rAt_any A n c l (st x.1) W ((hr.below h).more h.size) hn; rw [oc_st] at this; exact this
  have hOr : ∀ (y : Ent) W, y.1.length ≤ 1000000 → Calls Try.prog 31 #[.string (st y.1), .string (st x.1)] W fun e w' => e = .returned (.int .i64 (cmpL y.1 x.1)) ∧ Below W.heap.size W w' := fun y W hy => by
    have := rOrder_any (st y.1) (st x.1) W (by rw [st_size]; exact hy) (by rw [st_size]; exact hx); rw [oc_st, oc_st] at this; exact this
  have hO0 : ∀ W, OwnE w W (.slice none 0 0) [] := fun W => ⟨rfl, .inl ⟨rfl, rfl⟩⟩
  have hadd : addE l x = if mayL l = true then (if isName x.1 = true then (if rightE x = true then (if hasN l x.1 = true then ([], 7) else if 30 ≤ n then ([], 8) else (insE l x, 0)) else ([], 1)) else ([], 11)) else ([], 1) := by unfold addE; rw [hln]
  have hins : insE l x = loE l x.1 ++ [x] ++ hiE l x.1 := rfl
  show Calls _ _ #[_, .agg #[.string (st x.1), .int .i64 x.2.1, .int .i64 x.2.2]] _ _
  rw [hadd]
  obtain ⟨nm, ino, ty⟩ := x
  simp only at hwx hBx hI hRi hAt hOr hins hx ⊢
  obtain ⟨s, hs⟩ : ∃ s, st nm = s := ⟨_, rfl⟩
  rw [hs] at hwx hBx hI hRi hAt hOr ⊢
  have HR := Lib.hid hr
  have HL := Lib.hid hln
  have HS := Lib.hid hsz
  have HWX := Lib.hid hwx
  have HBX := Lib.hid hBx
  have HST := Lib.hid hs
  have HO0 := Lib.hid hO0
  have HOr := Lib.hid hOr
  have HAt := Lib.hid hAt
  have HIN := Lib.hid hins
  have BX : Below wx.heap.size wx wx := Below.refl _ _
  clear hr hln hsz hwx hs hBx hO0 hOr hAt hadd hins hx
  cases hm : mayL l with
  | false =>
    rw [hm] at hM
    rw [if_neg (by simp)]
    have HM := Lib.hid hM
    clear hM hI hRi hm
    go_enter Try.func12, Try.ntmps12
    go_wp2_with fail
    rw [HWX.out]
    refine (HM.out _ hbx).mono ?_
    rintro e w1 ⟨rfl, h1⟩
    have b1 : Below w.heap.size w w1 := hbx.trans (h1.mono hbx.size)
    have d1 : Below wx.heap.size wx w1 := BX.trans (h1.mono BX.size)
    obtain ⟨x0, x1, x2, _⟩ := blk3 (HBX.out.below d1 hsx)
    go_wp2
    go_ret2
    exact ⟨⟨_, rfl, HO0.out _⟩, b1⟩
  | true =>
  rw [hm] at hM
  rw [if_pos rfl]
  have HM := Lib.hid hM
  cases hnm : isName nm with
  | false =>
    rw [hnm] at hI
    rw [if_neg (by simp)]
    have HI := Lib.hid hI
    clear hM hI hRi hm hnm
    go_enter Try.func12, Try.ntmps12
    go_wp2_with fail
    rw [HWX.out]
    refine (HM.out _ hbx).mono ?_
    rintro e w1 ⟨rfl, h1⟩
    have b1 : Below w.heap.size w w1 := hbx.trans (h1.mono hbx.size)
    have d1 : Below wx.heap.size wx w1 := BX.trans (h1.mono BX.size)
    obtain ⟨x0, x1, x2, _⟩ := blk3 (HBX.out.below d1 hsx)
    go_wp2_with fail
    refine (HI.out _).mono ?_
    rintro e w2 ⟨rfl, h2⟩
    have b2 : Below w.heap.size w w2 := b1.trans (h2.mono b1.size)
    have d2 : Below wx.heap.size wx w2 := d1.trans (h2.mono d1.size)
    obtain ⟨x0, x1, x2, _⟩ := blk3 (HBX.out.below d2 hsx)
    go_wp2
    go_ret2
    exact ⟨⟨_, rfl, HO0.out _⟩, b2⟩
  | true =>
  rw [hnm] at hI
  rw [if_pos rfl]
  have HI := Lib.hid hI
  cases hri : rightE (nm, ino, ty) with
  | false =>
    rw [hri] at hRi
    rw [if_neg (by simp)]
    have HRi := Lib.hid hRi
    clear hM hI hRi hm hnm hri
    go_enter Try.func12, Try.ntmps12
    go_wp2_with fail
    rw [HWX.out]
    refine (HM.out _ hbx).mono ?_
    rintro e w1 ⟨rfl, h1⟩
    have b1 : Below w.heap.size w w1 := hbx.trans (h1.mono hbx.size)
    have d1 : Below wx.heap.size wx w1 := BX.trans (h1.mono BX.size)
    obtain ⟨x0, x1, x2, _⟩ := blk3 (HBX.out.below d1 hsx)
    go_wp2_with fail
    refine (HI.out _).mono ?_
    rintro e w2 ⟨rfl, h2⟩
    have b2 : Below w.heap.size w w2 := b1.trans (h2.mono b1.size)
    have d2 : Below wx.heap.size wx w2 := d1.trans (h2.mono d1.size)
    obtain ⟨x0, x1, x2, _⟩ := blk3 (HBX.out.below d2 hsx)
    go_wp2_with fail
    refine (HRi.out _).mono ?_
    rintro e w3 ⟨rfl, h3⟩
    have b3 : Below w.heap.size w w3 := b2.trans (h3.mono b2.size)
    have d3 : Below wx.heap.size wx w3 := d2.trans (h3.mono d2.size)
    obtain ⟨x0, x1, x2, _⟩ := blk3 (HBX.out.below d3 hsx)
    go_wp2
    go_ret2
    exact ⟨⟨_, rfl, HO0.out _⟩, b3⟩
  | true =>
  rw [hri] at hRi
  rw [if_pos rfl]
  have HRi := Lib.hid hRi
  clear hM hI hRi hm hnm hri
  cases hA : hasN l nm with
  | true =>
    rw [if_pos rfl]
    have HA := Lib.hid hA
    clear hA
    go_enter Try.func12, Try.ntmps12
    go_wp2_with fail
    rw [HWX.out]
    refine (HM.out _ hbx).mono ?_
    rintro e w1 ⟨rfl, h1⟩
    have b1 : Below w.heap.size w w1 := hbx.trans (h1.mono hbx.size)
    have d1 : Below wx.heap.size wx w1 := BX.trans (h1.mono BX.size)
    obtain ⟨x0, x1, x2, _⟩ := blk3 (HBX.out.below d1 hsx)
    go_wp2_with fail
    refine (HI.out _).mono ?_
    rintro e w2 ⟨rfl, h2⟩
    have b2 : Below w.heap.size w w2 := b1.trans (h2.mono b1.size)
    have d2 : Below wx.heap.size wx w2 := d1.trans (h2.mono d1.size)
    obtain ⟨x0, x1, x2, _⟩ := blk3 (HBX.out.below d2 hsx)
    go_wp2_with fail
    refine (HRi.out _).mono ?_
    rintro e w3 ⟨rfl, h3⟩
    have b3 : Below w.heap.size w w3 := b2.trans (h3.mono b2.size)
    have d3 : Below wx.heap.size wx w3 := d2.trans (h3.mono d2.size)
    obtain ⟨x0, x1, x2, _⟩ := blk3 (HBX.out.below d3 hsx)
    go_wp2_with fail
    refine (HAt.out _ b3).mono ?_
    rintro e w4 ⟨hA', rfl⟩
    unfold AtIs at hA'
    rcases hA' with ⟨hA', rfl⟩ | ⟨k0, y0, _, _, _, hA', rfl⟩
    · exact absurd (hA'.symm.trans HA.out) (by simp)
    clear hA'
    have i0 : (0 : Int) ≤ (k0 : Int) := Int.natCast_nonneg _
    go_wp2
    go_ret2
    exact ⟨⟨_, rfl, HO0.out _⟩, b3⟩
  | false =>
  rw [if_neg (by simp)]
  have HA := Lib.hid hA
  clear hA
  by_cases h30 : 30 ≤ n
  · rw [if_pos h30]
    go_enter Try.func12, Try.ntmps12
    go_wp2_with fail
    rw [HWX.out]
    refine (HM.out _ hbx).mono ?_
    rintro e w1 ⟨rfl, h1⟩
    have b1 : Below w.heap.size w w1 := hbx.trans (h1.mono hbx.size)
    have d1 : Below wx.heap.size wx w1 := BX.trans (h1.mono BX.size)
    obtain ⟨x0, x1, x2, _⟩ := blk3 (HBX.out.below d1 hsx)
    go_wp2_with fail
    refine (HI.out _).mono ?_
    rintro e w2 ⟨rfl, h2⟩
    have b2 : Below w.heap.size w w2 := b1.trans (h2.mono b1.size)
    have d2 : Below wx.heap.size wx w2 := d1.trans (h2.mono d1.size)
    obtain ⟨x0, x1, x2, _⟩ := blk3 (HBX.out.below d2 hsx)
    go_wp2_with fail
    refine (HRi.out _).mono ?_
    rintro e w3 ⟨rfl, h3⟩
    have b3 : Below w.heap.size w w3 := b2.trans (h3.mono b2.size)
    have d3 : Below wx.heap.size wx w3 := d2.trans (h3.mono d2.size)
    obtain ⟨x0, x1, x2, _⟩ := blk3 (HBX.out.below d3 hsx)
    go_wp2_with fail
    refine (HAt.out _ b3).mono ?_
    rintro e w4 ⟨hA', rfl⟩
    unfold AtIs at hA'
    rcases hA' with ⟨hA', rfl⟩ | ⟨k0, y0, _, _, _, hA', rfl⟩
    rotate_left
    · exact absurd (hA'.symm.trans HA.out) (by simp)
    clear hA'
    go_wp2
    go_ret2
    exact ⟨⟨_, rfl, HO0.out _⟩, b3⟩
  rw [if_neg h30]
  have h30' : n < 30 := by omega
  clear h30
  go_enter Try.func12, Try.ntmps12
  go_wp2_with fail
  rw [HWX.out]
  refine (HM.out _ hbx).mono ?_
  rintro e w1 ⟨rfl, h1⟩
  have b1 : Below w.heap.size w w1 := hbx.trans (h1.mono hbx.size)
  have d1 : Below wx.heap.size wx w1 := BX.trans (h1.mono BX.size)
  obtain ⟨x0, x1, x2, _⟩ := blk3 (HBX.out.below d1 hsx)
  go_wp2_with fail
  refine (HI.out _).mono ?_
  rintro e w2 ⟨rfl, h2⟩
  have b2 : Below w.heap.size w w2 := b1.trans (h2.mono b1.size)
  have d2 : Below wx.heap.size wx w2 := d1.trans (h2.mono d1.size)
  obtain ⟨x0, x1, x2, _⟩ := blk3 (HBX.out.below d2 hsx)
  go_wp2_with fail
  refine (HRi.out _).mono ?_
  rintro e w3 ⟨rfl, h3⟩
  have b3 : Below w.heap.size w w3 := b2.trans (h3.mono b2.size)
  have d3 : Below wx.heap.size wx w3 := d2.trans (h3.mono d2.size)
  obtain ⟨x0, x1, x2, _⟩ := blk3 (HBX.out.below d3 hsx)
  go_wp2_with fail
  refine (HAt.out _ b3).mono ?_
  rintro e w4 ⟨hA', rfl⟩
  unfold AtIs at hA'
  rcases hA' with ⟨hA', rfl⟩ | ⟨k0, y0, _, _, _, hA', rfl⟩
  rotate_left
  · exact absurd (hA'.symm.trans HA.out) (by simp)
  clear hA'
  go_wp2
  go_loopw [6, 7] (fun v i wr => ∃ k : Nat, k ≤ n ∧ i = .int .i64 k ∧ wr.ownsRow wx.heap.size 24 3 v (loE (l.take k) nm).length (rowE (loE (l.take k) nm)) ∧ Below wx.heap.size wx wr) (fun _ i _ => n - (intOf i).toNat)
  case atStart => exact ⟨0, Nat.zero_le _, rfl, ⟨rfl, .inl ⟨rfl, rfl⟩⟩, d3⟩
  case round =>
    obtain ⟨k, hk, rfl, hown, dw⟩ := hrel
    have hbw : Below w.heap.size w wr := hbx.trans (dw.mono (Nat.le_of_lt hsx))
    by_cases hlt : k < n
    · obtain ⟨g, o, y, hA2, hg, hy, c0, c1, c2⟩ := ent_at (HR.out.below hbw) hlt
      have hys := HS.out y (List.mem_iff_getElem?.2 ⟨k, hy⟩)
      have hsn : loE (l.take (k + 1)) nm = loE (l.take k) nm ++ if decide (cmpL y.1 nm = -1) = true then [y] else [] := filter_take_snoc _ l k y hy
      have hlen : (loE (l.take k) nm).length ≤ k := filter_take_len _ l k
      have hOy : ∀ W, Calls Try.prog 31 #[.string (st y.1), .string s] W fun e w' => e = .returned (.int .i64 (cmpL y.1 nm)) ∧ Below W.heap.size W w' := fun W => HOr.out y W hys
      have hrng := cmpL_range y.1 nm
      obtain ⟨x0, x1, x2, _⟩ := blk3 (HBX.out.below dw hsx)
      obtain ⟨nm2, ino2, ty2⟩ := y
      obtain ⟨s2, hs2⟩ : ∃ s, st nm2 = s := ⟨_, rfl⟩
      simp only [hs2] at c0 c1 c2 hsn hOy hrng
      obtain ⟨q, hq⟩ : ∃ q, cmpL nm2 nm = q := ⟨_, rfl⟩
      rw [hq] at hsn hOy hrng
      obtain ⟨L, hL⟩ : ∃ L, loE (l.take k) nm = L := ⟨_, rfl⟩
      rw [hL] at hown
      obtain ⟨p, hp⟩ : ∃ p, L.length = p := ⟨_, rfl⟩
      have hpl : p ≤ k := by rw [← hp, ← hL]; exact hlen
      rw [hp] at hown
      have i0' : (0 : Int) ≤ (k : Int) := Int.natCast_nonneg _
      have i1' : (k : Int) < (n : Int) := by omega
      have q0 : ∀ z : Later wr, z.x.cell? ⟨g, o + k * 3, none⟩ = some (.string s2) := fun z => z.cell c0
      have q1 : ∀ z : Later wr, z.x.cell? ⟨w.heap.size, 0, none⟩ = some (.string s) := fun z => z.cell x0
      have hne := later_ne wr
      subst hA2
      have HOy := Lib.hid hOy
      have HP := Lib.hid hp
      have HS2 := Lib.hid hs2
      have HG := Lib.hid hg
      clear hOy hs2 hy hys hq hlen
      by_cases hq1 : q = -1
      · have e1 : loE (l.take (k + 1)) nm = L ++ [(nm2, ino2, ty2)] := by rw [hsn, if_pos (by simp [hq1]), ← hL]
        have HE := Lib.hid e1
        have hd : decide (q < 0) = true := decide_eq_true (by omega)
        have hd2 : q ≤ -1 := by omega
        clear hsn hL hp hrng e1
        have HQ := Lib.hid hq1
        clear hq1
        go_wp2_with fail
        refine wp_region_calm (by kernel_rfl) (by kernel_rfl) ?_
        repeat (first | go_big_quiet_skip | (go_big_quiet_want; go_big_quiet_op; first | go_big_quiet_on | go_big_quiet_call ((first | (go_at_call 31; exact Later.call _ (HOy.out _))))))
        refine wpQuiet_nil ?_
        rintro w1 ⟨⟨_, hb1⟩, rfl⟩
        have hbw1 : Below w.heap.size w w1 := hbw.trans (hb1.mono hbw.size)
        have dw1 : Below wx.heap.size wx w1 := dw.trans (hb1.mono dw.size)
        have hown1 := own_later hown hb1
        have y0 : w1.cell? ⟨g, o + k * 3, none⟩ = some (.string s2) := (hb1.cell (p := ⟨g, _, none⟩) (by have := hbw.size; have := HG.out; show g < _; omega)).trans c0
        have y1 : w1.cell? ⟨g, o + k * 3 + 1, none⟩ = some (.int .i64 ino2) := (hb1.cell (p := ⟨g, _, none⟩) (by have := hbw.size; have := HG.out; show g < _; omega)).trans c1
        have y2 : w1.cell? ⟨g, o + k * 3 + 2, none⟩ = some (.int .i64 ty2) := (hb1.cell (p := ⟨g, _, none⟩) (by have := hbw.size; have := HG.out; show g < _; omega)).trans c2
        clear hown c0 c1 c2 q0 q1 x0 x1 x2
        go_wp2_with (at_builtin; refine wpList_append_own _ rfl (.tmp 42) (.tmp 47) 22 rfl wx.heap.size 24 i0 _ 3 32 Try.underlying22 hi hz0 hz1 hz2 rfl (by decide) _ _ _ rfl (hown1.alloc _) ⟨w1.heap.size, 0, none⟩ 1 1 [.string s2, .int .i64 ino2, .int .i64 ty2] (by rfl) (by rfl) (fun j u hj => new_cells w1 _ _ _ rfl j u hj) (three_one _ _ _) (by unfold maxLen; omega) (by omega) (base_alloc dw1.size _) ?_)
        intro v' w' hown' hgrow _
        have dw' : Below wx.heap.size wx w' := (dw1.alloc dw1.size _).grown hgrow (base_alloc dw1.size _) (fun k hk => (hown1.lt k hk).1)
        have HO : Hid (w'.ownsRow wx.heap.size 24 3 v' (loE (l.take (k + 1)) nm).length (rowE (loE (l.take (k + 1)) nm))) := Lib.hid (by
          rw [HE.out]; exact own_snoc HS2.out (by rw [HP.out]; exact hown'))
        clear hown' hown1 hgrow
        go_wp2
        go_roundw
        case rel => exact ⟨k + 1, by omega, by go_num, HO.out, dw'⟩
        case measure => simp [intOf]; omega
      · have e1 : loE (l.take (k + 1)) nm = L := by rw [hsn, if_neg (by simp [hq1]), List.append_nil, ← hL]
        rw [← hp, ← e1] at hown
        have HO := Lib.hid hown
        have hd : decide (q < 0) = false := decide_eq_false (by omega)
        have hd2 : 0 ≤ q := by omega
        clear hsn hL hp hrng e1 hown hq1
        go_wp2_with fail
        refine wp_region_calm (by kernel_rfl) (by kernel_rfl) ?_
        repeat (first | go_big_quiet_skip | (go_big_quiet_want; go_big_quiet_op; first | go_big_quiet_on | go_big_quiet_call ((first | (go_at_call 31; exact Later.call _ (HOy.out _))))))
        refine wpQuiet_nil ?_
        rintro w1 ⟨⟨_, hb1⟩, rfl⟩
        have hbw1 : Below w.heap.size w w1 := hbw.trans (hb1.mono hbw.size)
        have dw1 : Below wx.heap.size wx w1 := dw.trans (hb1.mono dw.size)
        have HO1 := Lib.hid (own_later HO.out hb1)
        clear HO
        go_wp2
        go_roundw
        case rel => exact ⟨k + 1, by omega, by go_num, HO1.out, dw1⟩
        case measure => simp [intOf]; omega
    · obtain rfl : k = n := by omega
      rw [List.take_of_length_le (by rw [HL.out]; exact Nat.le_refl _)] at hown
      have hl2 : (loE l nm).length ≤ k := by have := List.length_filter_le (fun y => decide (cmpL y.1 nm = -1)) l; rw [HL.out] at this; exact this
      obtain ⟨p, hp⟩ : ∃ p, (loE l nm).length = p := ⟨_, rfl⟩
      rw [hp] at hown hl2
      have HP := Lib.hid hp
      clear hp
      obtain ⟨x0, x1, x2, _⟩ := blk3 (HBX.out.below dw hsx)
      go_wp2_with (at_builtin; refine wpList_append_own _ rfl (.tmp 49) (.tmp 51) 22 rfl wx.heap.size 24 i0 _ 3 32 Try.underlying22 hi hz0 hz1 hz2 rfl (by decide) _ _ _ rfl (hown.alloc _) ⟨wr.heap.size, 0, none⟩ 1 1 [.string s, .int .i64 ino, .int .i64 ty] (by rfl) (by rfl) (fun j u hj => new_cells wr _ _ _ rfl j u hj) (three_one _ _ _) (by unfold maxLen; omega) (by omega) (base_alloc dw.size _) ?_)
      intro v' w' hown' hgrow _
      have dw' : Below wx.heap.size wx w' := (dw.alloc dw.size _).grown hgrow (base_alloc dw.size _) (fun k hk => (hown.lt k hk).1)
      have HO : Hid (w'.ownsRow wx.heap.size 24 3 v' (loE l nm ++ [(nm, ino, ty)] ++ hiE (l.take 0) nm).length (rowE (loE l nm ++ [(nm, ino, ty)] ++ hiE (l.take 0) nm))) := Lib.hid (by
        rw [show hiE (l.take 0) nm = [] from rfl, List.append_nil]
        exact own_snoc HST.out (by rw [HP.out]; exact hown'))
      have hpre : (loE l nm ++ [(nm, ino, ty)]).length ≤ k + 1 := by rw [List.length_append, HP.out]; simp; omega
      obtain ⟨PRE, hPRE⟩ : ∃ PRE, loE l nm ++ [(nm, ino, ty)] = PRE := ⟨_, rfl⟩
      rw [hPRE] at HO hpre
      have HIN2 : Hid (insE l (nm, ino, ty) = PRE ++ hiE l nm) := Lib.hid (by rw [HIN.out, hPRE])
      clear hown' hown hgrow hPRE
      obtain ⟨n, hnk⟩ : ∃ n, n = k := ⟨_, rfl⟩
      subst hnk
      go_wp2
      go_loopw [6, 8] (fun v i wr => ∃ k : Nat, k ≤ n ∧ i = .int .i64 k ∧ wr.ownsRow wx.heap.size 24 3 v (PRE ++ hiE (l.take k) nm).length (rowE (PRE ++ hiE (l.take k) nm)) ∧ Below wx.heap.size wx wr) (fun _ i _ => n - (intOf i).toNat)
      case atStart => exact ⟨0, Nat.zero_le _, rfl, HO.out, dw'⟩
      case round =>
        obtain ⟨k, hk, rfl, hown, dw⟩ := hrel
        have hbw : Below w.heap.size w wr := hbx.trans (dw.mono (Nat.le_of_lt hsx))
        by_cases hlt : k < n
        · obtain ⟨g, o, y, hA2, hg, hy, c0, c1, c2⟩ := ent_at (HR.out.below hbw) hlt
          have hys := HS.out y (List.mem_iff_getElem?.2 ⟨k, hy⟩)
          have hsn : hiE (l.take (k + 1)) nm = hiE (l.take k) nm ++ if decide (cmpL y.1 nm = 1) = true then [y] else [] := filter_take_snoc _ l k y hy
          have hlen : (hiE (l.take k) nm).length ≤ k := filter_take_len _ l k
          have hOy : ∀ W, Calls Try.prog 31 #[.string (st y.1), .string s] W fun e w' => e = .returned (.int .i64 (cmpL y.1 nm)) ∧ Below W.heap.size W w' := fun W => HOr.out y W hys
          have hrng := cmpL_range y.1 nm
          obtain ⟨x0, x1, x2, _⟩ := blk3 (HBX.out.below dw hsx)
          obtain ⟨nm2, ino2, ty2⟩ := y
          obtain ⟨s2, hs2⟩ : ∃ s, st nm2 = s := ⟨_, rfl⟩
          simp only [hs2] at c0 c1 c2 hsn hOy hrng
          obtain ⟨q, hq⟩ : ∃ q, cmpL nm2 nm = q := ⟨_, rfl⟩
          rw [hq] at hsn hOy hrng
          obtain ⟨L, hL⟩ : ∃ L, PRE ++ hiE (l.take k) nm = L := ⟨_, rfl⟩
          rw [hL] at hown
          obtain ⟨p, hp⟩ : ∃ p, L.length = p := ⟨_, rfl⟩
          have hpl : p ≤ n + 1 + k := by rw [← hp, ← hL]; rw [List.length_append]; omega
          rw [hp] at hown
          have i0' : (0 : Int) ≤ (k : Int) := Int.natCast_nonneg _
          have i1' : (k : Int) < (n : Int) := by omega
          have q0 : ∀ z : Later wr, z.x.cell? ⟨g, o + k * 3, none⟩ = some (.string s2) := fun z => z.cell c0
          have q1 : ∀ z : Later wr, z.x.cell? ⟨w.heap.size, 0, none⟩ = some (.string s) := fun z => z.cell x0
          have hne := later_ne wr
          subst hA2
          have HOy := Lib.hid hOy
          have HP := Lib.hid hp
          have HS2 := Lib.hid hs2
          have HG := Lib.hid hg
          clear hOy hs2 hy hys hq hlen
          by_cases hq1 : q = 1
          · have e1 : PRE ++ hiE (l.take (k + 1)) nm = L ++ [(nm2, ino2, ty2)] := by rw [hsn, if_pos (by simp [hq1]), ← hL, List.append_assoc]
            have HE := Lib.hid e1
            have hd : decide (0 < q) = true := decide_eq_true (by omega)
            have hd2 : 1 ≤ q := by omega
            clear hsn hL hp hrng e1
            have HQ := Lib.hid hq1
            clear hq1
            go_wp2_with fail
            refine wp_region_calm (by kernel_rfl) (by kernel_rfl) ?_
            repeat (first | go_big_quiet_skip | (go_big_quiet_want; go_big_quiet_op; first | go_big_quiet_on | go_big_quiet_call ((first | (go_at_call 31; exact Later.call _ (HOy.out _))))))
            refine wpQuiet_nil ?_
            rintro w1 ⟨⟨_, hb1⟩, rfl⟩
            have hbw1 : Below w.heap.size w w1 := hbw.trans (hb1.mono hbw.size)
            have dw1 : Below wx.heap.size wx w1 := dw.trans (hb1.mono dw.size)
            have hown1 := own_later hown hb1
            have y0 : w1.cell? ⟨g, o + k * 3, none⟩ = some (.string s2) := (hb1.cell (p := ⟨g, _, none⟩) (by have := hbw.size; have := HG.out; show g < _; omega)).trans c0
            have y1 : w1.cell? ⟨g, o + k * 3 + 1, none⟩ = some (.int .i64 ino2) := (hb1.cell (p := ⟨g, _, none⟩) (by have := hbw.size; have := HG.out; show g < _; omega)).trans c1
            have y2 : w1.cell? ⟨g, o + k * 3 + 2, none⟩ = some (.int .i64 ty2) := (hb1.cell (p := ⟨g, _, none⟩) (by have := hbw.size; have := HG.out; show g < _; omega)).trans c2
            clear hown c0 c1 c2 q0 q1 x0 x1 x2
            go_wp2_with (at_builtin; refine wpList_append_own _ rfl (.tmp 68) (.tmp 73) 22 rfl wx.heap.size 24 i0 _ 3 32 Try.underlying22 hi hz0 hz1 hz2 rfl (by decide) _ _ _ rfl (hown1.alloc _) ⟨w1.heap.size, 0, none⟩ 1 1 [.string s2, .int .i64 ino2, .int .i64 ty2] (by rfl) (by rfl) (fun j u hj => new_cells w1 _ _ _ rfl j u hj) (three_one _ _ _) (by unfold maxLen; omega) (by omega) (base_alloc dw1.size _) ?_)
            intro v' w' hown' hgrow _
            have dw' : Below wx.heap.size wx w' := (dw1.alloc dw1.size _).grown hgrow (base_alloc dw1.size _) (fun k hk => (hown1.lt k hk).1)
            have HO : Hid (w'.ownsRow wx.heap.size 24 3 v' (PRE ++ hiE (l.take (k + 1)) nm).length (rowE (PRE ++ hiE (l.take (k + 1)) nm))) := Lib.hid (by
              rw [HE.out]; exact own_snoc HS2.out (by rw [HP.out]; exact hown'))
            clear hown' hown1 hgrow
            go_wp2
            go_roundw
            case rel => exact ⟨k + 1, by omega, by go_num, HO.out, dw'⟩
            case measure => simp [intOf]; omega
          · have e1 : PRE ++ hiE (l.take (k + 1)) nm = L := by rw [hsn, if_neg (by simp [hq1]), List.append_nil, ← hL]
            rw [← hp, ← e1] at hown
            have HO := Lib.hid hown
            have hd : decide (0 < q) = false := decide_eq_false (by omega)
            have hd2 : q ≤ 0 := by omega
            clear hsn hL hp hrng e1 hown hq1
            go_wp2_with fail
            refine wp_region_calm (by kernel_rfl) (by kernel_rfl) ?_
            repeat (first | go_big_quiet_skip | (go_big_quiet_want; go_big_quiet_op; first | go_big_quiet_on | go_big_quiet_call ((first | (go_at_call 31; exact Later.call _ (HOy.out _))))))
            refine wpQuiet_nil ?_
            rintro w1 ⟨⟨_, hb1⟩, rfl⟩
            have hbw1 : Below w.heap.size w w1 := hbw.trans (hb1.mono hbw.size)
            have dw1 : Below wx.heap.size wx w1 := dw.trans (hb1.mono dw.size)
            have HO1 := Lib.hid (own_later HO.out hb1)
            clear HO
            go_wp2
            go_roundw
            case rel => exact ⟨k + 1, by omega, by go_num, HO1.out, dw1⟩
            case measure => simp [intOf]; omega
        · obtain rfl : k = n := by omega
          rw [List.take_of_length_le (by rw [HL.out]; exact Nat.le_refl _)] at hown
          rw [← HIN2.out] at hown
          have HO1 : Hid (OwnE w wr _ (insE l (nm, ino, ty))) := Lib.hid (own_base hown (Nat.le_of_lt hsx))
          clear hown
          go_wp2
          go_ret2
          exact ⟨⟨_, rfl, HO1.out⟩, hbw⟩
end Go.Proofs.Ytpjghildhhpeeaa
