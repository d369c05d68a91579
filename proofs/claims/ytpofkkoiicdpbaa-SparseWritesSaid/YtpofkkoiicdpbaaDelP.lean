/-
  Walks: slices.IndexFunc and slices.DeleteFunc at rows of a file's blocks.
-/
import Derived.Test.YtpofkkoiicdpbaaSparseE
namespace Go.Proofs.Ytpofkkoiicdpbaa
open Go.RowKit
set_option linter.unusedVariables false

/-- A block of a file in memory, its slice written out. -/
abbrev PW := Int × (Option Addr × Nat × Nat) × List UInt8
def fW (t : PW) : List Value := [.int .i64 t.1, .slice t.2.1.1 t.2.1.2.1 t.2.1.2.2]
def vW (t : PW) : Value := .agg #[.int .i64 t.1, .slice t.2.1.1 t.2.1.2.1 t.2.1.2.2]
abbrev rowW (T : List PW) : List Value := rowV fW T
theorem fW_len (t : PW) : (fW t).length = 2 := rfl
def toPV (t : PW) : PV := (t.1, .slice t.2.1.1 t.2.1.2.1 t.2.1.2.2, t.2.2)
theorem rowW_row : ∀ (T : List PW), rowP (T.map toPV) = rowW T
  | [] => rfl
  | a :: T => by
    show rowV fP (toPV a :: T.map toPV) = rowV fW (a :: T)
    rw [rowV_cons, rowV_cons]
    exact congrArg (fun l => fW a ++ l) (rowW_row T)
theorem pv_pw : ∀ (T : List PV), (∀ t ∈ T, ∃ A n c, t.2.1 = .slice A n c) → ∃ T' : List PW, T'.map toPV = T
  | [], _ => ⟨[], rfl⟩
  | t :: T, h => by
    obtain ⟨T', hT⟩ := pv_pw T (fun x hx => h x (List.mem_cons_of_mem _ hx))
    obtain ⟨A, n, c, e⟩ := h t (List.mem_cons_self)
    obtain ⟨N, v, b⟩ := t
    simp only at e
    subst e
    exact ⟨(N, (A, n, c), b) :: T', by rw [List.map_cons, hT]; rfl⟩
theorem pw_at {w : World} {B n : Nat} {A : Option Addr} {l : List PW} (h : Rd w B 2 A n (rowW l)) {k : Nat} (hk : k < n) :
    ∃ g o x, A = some ⟨g, o, none⟩ ∧ g < B ∧ l[k]? = some x ∧ w.cell? ⟨g, o + k * 2, none⟩ = some (.int .i64 x.1) ∧ w.cell? ⟨g, o + k * 2 + 1, none⟩ = some (.slice x.2.1.1 x.2.1.2.1 x.2.1.2.2) := by
  obtain ⟨g, o, x, e, hb, hx, hc⟩ := rowV_at fW_len h hk (by omega)
  exact ⟨g, o, x, e, hb, hx, by simpa using hc 0 _ rfl, by rw [Nat.add_assoc]; exact hc 1 _ rfl⟩

def IdxP (p : PW → Bool) (l : List PW) (n : Nat) (e : Ending) : Prop :=
  ((∀ x ∈ l, p x = false) ∧ e = .returned (.int .i64 (-1))) ∨ ∃ (k : Nat) (x : PW), k < n ∧ l[k]? = some x ∧ p x = true ∧ (∀ y ∈ l.take k, p y = false) ∧ e = .returned (.int .i64 k)
set_option maxHeartbeats 2000000 in
set_option maxRecDepth 100000 in
theorem IndexFuncP_any (A : Option Addr) (n c : Nat) (l : List PW) (p : PW → Bool) (k : Nat) (caps : Array Value) (eg : ∀ args w, (callFunc k args).run Try.prog w = .ok (.enter k args) w) (w : World) (hr : Rd w w.heap.size 2 A n (rowW l)) (hn : n ≤ 1000000)
    (hf : ∀ (W : World) (x : PW), Below w.heap.size w W → x ∈ l → Calls Try.prog k (#[vW x] ++ caps) W fun e w' => e = .returned (.bool (p x)) ∧ Below W.heap.size W w') :
    Calls Try.prog 39 #[.slice A n c, .func (.func k) #[] caps] w fun e w' => IdxP p l n e ∧ Below w.heap.size w w' := by
  have hln := rowV_count fW_len hr (by omega)
  have h1 : (∀ x ∈ l, p x = false) → IdxP p l n (.returned (.int .i64 (-1))) := fun h => .inl ⟨h, rfl⟩
  have h2 : ∀ (k : Nat) (x : PW), k < n → l[k]? = some x → p x = true → (∀ y ∈ l.take k, p y = false) → IdxP p l n (.returned (.int .i64 k)) := fun k x a b c d => .inr ⟨k, x, a, b, c, d, rfl⟩
  have HR := Lib.hid hr
  have HL := Lib.hid hln
  have HF := Lib.hid hf
  have H1 := Lib.hid h1
  have H2 := Lib.hid h2
  clear hr hln hf h1 h2
  go_enter Try.func39, Try.ntmps39
  go_wp2
  go_loopw [8] (fun i wr => ∃ j : Nat, j ≤ n ∧ i = .int .i64 j ∧ Hid (∀ y ∈ l.take j, p y = false) ∧ Below w.heap.size w wr) (fun i _ => n - (intOf i).toNat)
  case atStart => exact ⟨0, Nat.zero_le _, rfl, Lib.hid (by simp), Below.refl _ _⟩
  case round =>
    obtain ⟨j, hj, rfl, HG, hbw⟩ := hrel
    by_cases hlt : j < n
    · obtain ⟨g, o, x, rfl, hg, hx, c0, c1⟩ := pw_at (HR.out.below hbw) hlt
      have hC := HF.out wr x hbw (List.mem_iff_getElem?.2 ⟨j, hx⟩)
      have htk := take_snoc l j x hx
      have hyes := fun hp => H2.out j x hlt hx hp HG.out
      have hno : p x = false → ∀ y ∈ l.take (j + 1), p y = false := fun hp y hy => by
        rw [htk] at hy
        rcases List.mem_append.1 hy with h | h
        · exact HG.out y h
        · rw [List.mem_singleton.1 h]; exact hp
      obtain ⟨b, hb⟩ : ∃ b, p x = b := ⟨_, rfl⟩
      rw [hb] at hC hyes hno
      have hVV : vW x = .agg #[.int .i64 x.1, .slice x.2.1.1 x.2.1.2.1 x.2.1.2.2] := rfl
      rw [hVV] at hC
      have HC := Lib.hid hC
      clear hC hb htk hx hVV
      cases b with
      | true =>
        have HY := Lib.hid (hyes rfl)
        clear hyes hno
        go_wp2_with fail
        refine HC.out.mono ?_
        rintro e w1 ⟨rfl, h3⟩
        go_wp2
        go_ret
        exact ⟨HY.out, hbw.trans (h3.mono hbw.size)⟩
      | false =>
        have HN := Lib.hid (hno rfl)
        clear hyes hno
        go_wp2_with fail
        refine HC.out.mono ?_
        rintro e w1 ⟨rfl, h3⟩
        go_wp2
        go_roundw
        case rel => exact ⟨j + 1, by omega, by go_num, HN, hbw.trans (h3.mono hbw.size)⟩
        case measure => simp [intOf]; omega
    · obtain rfl : j = n := by omega
      have HY := Lib.hid (H1.out (by have := HG.out; rw [List.take_of_length_le (by rw [HL.out]; exact Nat.le_refl _)] at this; exact this))
      go_wp2
      go_ret
      exact ⟨HY.out, hbw⟩

theorem del_take_P (p : PW → Bool) (l : List PW) (j : Nat) (x : PW) (h : l[j]? = some x) : (l.take (j + 1)).filter (fun y => !p y) = (l.take j).filter (fun y => !p y) ++ if p x = true then [] else [x] := by
  rw [take_snoc l j x h, List.filter_append]
  cases hp : p x <;> simp [hp]
set_option maxHeartbeats 4000000 in
set_option maxRecDepth 100000 in
theorem DeleteFuncP_any (base : Nat) (v : Value) (n : Nat) (l : List PW) (p : PW → Bool) (k : Nat) (caps : Array Value) (eg : ∀ args w, (callFunc k args).run Try.prog w = .ok (.enter k args) w) (w : World) (hown : w.ownsRow base 62 2 v n (rowW l)) (hn : n ≤ 100000) (hbs : base ≤ w.heap.size)
    (hf : ∀ (W : World) (x : PW), Below base w W → x ∈ l → Calls Try.prog k (#[vW x] ++ caps) W fun e w' => e = .returned (.bool (p x)) ∧ Below W.heap.size W w') :
    Calls Try.prog 28 #[v, .func (.func k) #[] caps] w fun e w' => (∃ v', e = .returned v' ∧ w'.ownsRow base 62 2 v' (l.filter fun y => !p y).length (rowW (l.filter fun y => !p y))) ∧ Below base w w' := by
  obtain ⟨i0, hi0, hz0, hz1, hz2⟩ := info_parts Try.info62
  obtain ⟨A, c, rfl, hnc, hcm, hr⟩ := own_form hown
  have hln := rowV_count fW_len hr (by omega)
  have hIx := IndexFuncP_any A n c l p k caps eg w hr (by omega) (fun W x hb hx => hf W x (hb.mono hbs) hx)
  have hb0 : ∀ (w' : World), Below w.heap.size w w' → Below base w w' := fun _ h => h.mono hbs
  rcases own_cases hown with ⟨hA, h0, _⟩ | ⟨g, cap, hA, hB0⟩
  · subst h0
    have hl : l = [] := List.eq_nil_of_length_eq_zero hln
    subst hl
    have HO := Lib.hid hown
    have HI := Lib.hid hIx
    have HB := Lib.hid hb0
    have HA := Lib.hid hA
    clear hown hr hIx hb0 hf hA
    go_enter Try.func28, Try.ntmps28
    go_wp2_with fail
    refine HI.out.mono ?_
    rintro e w1 ⟨hi1, h1⟩
    rcases hi1 with ⟨_, rfl⟩ | ⟨k2, x2, h2, _⟩
    · have HO1 := Lib.hid (own_below HO.out (HB.out _ h1) (fun k hk => by rw [HA.out] at hk; cases hk))
      have hb1 := HB.out _ h1
      go_wp2
      go_ret
      exact ⟨⟨_, rfl, HO1.out⟩, hb1⟩
    · omega
  injection hA with e1 _ e2
  subst e1 e2
  have hcm' := hcm
  unfold maxLen at hcm'
  have hbg := hB0.base_
  have hgl := hB0.lt
  have hzv : ∀ W : World, (zeroValue 62).run Try.prog W = .ok (.agg #[.int .i64 0, .slice none 0 0]) W := fun W => by simp [zeroValue, typeInfo, hi0, hz0]
  have hSE := Try.underlying22
  have HZV := Lib.hid hzv
  have HSE := Lib.hid hSE
  have HO := Lib.hid hown
  have HI := Lib.hid hIx
  have HB := Lib.hid hb0
  have HB0 := Lib.hid hB0
  have HF := Lib.hid hf
  have HL := Lib.hid hln
  clear hown hr hIx hb0 hf hB0 hln hzv hSE hcm
  go_enter Try.func28, Try.ntmps28
  go_wp2_with fail
  refine HI.out.mono ?_
  rintro e w1 ⟨hi1, h1⟩
  have hb1 := HB.out _ h1
  rcases hi1 with ⟨hall, rfl⟩ | ⟨i, x0, hin, hx0, hpx0, hpre, rfl⟩
  · have hfl : l.filter (fun y => !p y) = l := by rw [List.filter_eq_self]; intro y hy; rw [hall y hy]; rfl
    have HO1 := Lib.hid (show w1.ownsRow base 62 2 (.slice (some ⟨g, 0, none⟩) n c) (l.filter fun y => !p y).length (rowW (l.filter fun y => !p y)) by rw [hfl, HL.out]; exact own_later HO.out h1)
    clear hall hfl
    go_wp2
    go_ret
    exact ⟨⟨_, rfl, HO1.out⟩, hb1⟩
  have hne1 : ((i : Int) == -1) = false := by rw [beq_eq_false_iff_ne]; omega
  have hpf : (l.take i).filter (fun y => !p y) = l.take i := by rw [List.filter_eq_self]; intro y hy; rw [hpre y hy]; rfl
  have hfi : (l.take (i + 1)).filter (fun y => !p y) = l.take i := by rw [del_take_P p l i x0 hx0, hpf, if_pos hpx0, List.append_nil]
  have hstart : ((l.take (i + 1)).filter (fun y => !p y)).length = i ∧ (rowW l).take (i * 2) = rowW ((l.take (i + 1)).filter (fun y => !p y)) ∧ (rowW l).drop ((i + 1) * 2) = rowW (l.drop (i + 1)) := by
    rw [hfi]
    exact ⟨by rw [List.length_take, HL.out]; omega, rowV_take fW_len l i, rowV_drop fW_len l (i + 1)⟩
  have HST := Lib.hid hstart
  have HB1 := Lib.hid (HB0.out.later h1)
  clear hpf hfi hstart hpre hx0 hpx0
  go_wp2
  go_loopw [5, 6] (fun a b wr => ∃ (i j : Nat) (xs : List Value), i < j ∧ j ≤ n ∧ a = .int .i64 i ∧ b = .int .i64 j ∧ Hid (((l.take j).filter (fun y => !p y)).length = i ∧ xs.take (i * 2) = rowW ((l.take j).filter (fun y => !p y)) ∧ xs.drop (j * 2) = rowW (l.drop j)) ∧ Hid (OwnB wr base 62 2 g n c xs) ∧ Below base w wr) (fun _ b _ => n - (intOf b).toNat)
  case atStart => exact ⟨i, i + 1, rowW l, by omega, by omega, rfl, by go_num, HST, HB1, hb1⟩
  case round =>
    obtain ⟨i, j, xs, hij, hjn, rfl, rfl, HX, HBr, hbw⟩ := hrel
    clear HST HB1 hb1 hne1
    by_cases hlt : j < n
    · have hB := HBr.out
      have hxl := hB.rd.1
      obtain ⟨x, hx⟩ : ∃ x, l[j]? = some x := ⟨_, List.getElem?_eq_getElem (by rw [HL.out]; exact hlt)⟩
      have hgetj : ∀ t u, (fW x)[t]? = some u → xs[j * 2 + t]? = some u := fun t u hu => by
        have h1 := rowV_get fW_len (l.drop j) 0 t x u (by rw [List.getElem?_drop]; exact hx) hu
        have h2 := HX.out.2.2
        have h3 : (rowV fW (l.drop j))[0 * 2 + t]? = (xs.drop (j * 2))[t]? := by rw [h2, Nat.zero_mul, Nat.zero_add]
        rw [h3, List.getElem?_drop] at h1
        exact h1
      have y0 : wr.cell? ⟨g, j * 2, none⟩ = some (.int .i64 x.1) := by rw [hB.cell _ (by omega)]; exact hgetj 0 _ rfl
      have y1 : wr.cell? ⟨g, j * 2 + 1, none⟩ = some (.slice x.2.1.1 x.2.1.2.1 x.2.1.2.2) := by rw [hB.cell _ (by omega)]; exact hgetj 1 _ rfl
      have hC := fun W hb => HF.out W x hb (List.mem_iff_getElem?.2 ⟨j, hx⟩)
      have hdl := del_take_P p l j x hx
      have hVV : vW x = .agg #[.int .i64 x.1, .slice x.2.1.1 x.2.1.2.1 x.2.1.2.2] := rfl
      have hdrop : l.drop j = x :: l.drop (j + 1) := by
        rw [List.drop_eq_getElem_cons (by rw [HL.out]; exact hlt), (List.getElem?_eq_some_iff.1 hx).2]
      have hxd : xs.drop ((j + 1) * 2) = rowW (l.drop (j + 1)) := by
        have h2 := HX.out.2.2
        have h3 : (rowW (l.drop j)).drop (1 * 2) = rowW ((l.drop j).drop 1) := rowV_drop fW_len (l.drop j) 1
        rw [← h2, List.drop_drop, List.drop_drop] at h3
        rw [show (j + 1) * 2 = j * 2 + 1 * 2 from by omega]
        exact h3
      obtain ⟨b, hb⟩ : ∃ b, p x = b := ⟨_, rfl⟩
      rw [hVV, hb] at hC
      rw [hb] at hdl
      obtain ⟨wx, hwx⟩ : ∃ wx, wr.alloc (.cells #[.int .i64 x.1, .slice x.2.1.1 x.2.1.2.1 x.2.1.2.2] 62) = wx := ⟨_, rfl⟩
      have hsr : base ≤ wr.heap.size := Nat.le_trans hbs hbw.size
      have hbx : Below base w wx := by rw [← hwx]; exact hbw.alloc hsr _
      have hBx : OwnB wx base 62 2 g n c xs := by rw [← hwx]; exact hB.alloc _
      have hgx : g < wx.heap.size := hBx.lt
      have hvx : Blk wx wr.heap.size 62 (0, 0) #[.int .i64 x.1, .slice x.2.1.1 x.2.1.2.1 x.2.1.2.2] := by rw [← hwx]; exact Blk.new wr _ _ _
      have HWX := Lib.hid hwx
      have HC := Lib.hid (hC wx hbx)
      have HFV : Hid (fW x = [.int .i64 x.1, .slice x.2.1.1 x.2.1.2.1 x.2.1.2.2]) := Lib.hid rfl
      have HDL := Lib.hid hdl
      have HXD := Lib.hid hxd
      have HBX := Lib.hid hBx
      have HVX := Lib.hid hvx
      have i1' : (0 : Int) ≤ (i : Int) := Int.natCast_nonneg _
      clear hC hb hx hVV hwx hdl hxd hdrop hBx hvx hgetj hB
      cases b with
      | true =>
        have HX2 : Hid (((l.take (j + 1)).filter (fun y => !p y)).length = i ∧ xs.take (i * 2) = rowW ((l.take (j + 1)).filter (fun y => !p y)) ∧ xs.drop ((j + 1) * 2) = rowW (l.drop (j + 1))) := Lib.hid (by
          rw [HDL.out, if_pos rfl, List.append_nil]
          exact ⟨HX.out.1, HX.out.2.1, HXD.out⟩)
        go_wp2_with fail
        rw [HWX.out]
        refine HC.out.mono ?_
        rintro e w1 ⟨rfl, h3⟩
        have hb1 := hbx.trans (h3.mono (Nat.le_trans hbs hbx.size))
        have HB1 := Lib.hid (HBX.out.later h3)
        go_wp2
        go_roundw
        case rel => exact ⟨i, j + 1, xs, by omega, by omega, rfl, by go_num, HX2, HB1, hb1⟩
        case measure => simp [intOf]; omega
      | false =>
        go_wp2_with fail
        rw [HWX.out]
        refine HC.out.mono ?_
        rintro e w1 ⟨rfl, h3⟩
        have hb1 := hbx.trans (h3.mono (Nat.le_trans hbs hbx.size))
        have hB1 := HBX.out.later h3
        have hv1 := HVX.out.below h3 HVX.out.lt
        have v0 : w1.cell? ⟨wr.heap.size, 0, none⟩ = some (.int .i64 x.1) := hv1.cell 0
        have v1 : w1.cell? ⟨wr.heap.size, 1, none⟩ = some (.slice x.2.1.1 x.2.1.2.1 x.2.1.2.2) := hv1.cell 1
        obtain ⟨u0, z0⟩ : ∃ u, w1.cell? ⟨g, i * 2, none⟩ = some u := by rw [hB1.cell _ (by omega), List.getElem?_eq_getElem (by have := hB1.rd.1; omega)]; exact ⟨_, rfl⟩
        have f0 := hB1.frozen (i * 2)
        obtain ⟨u1, z1⟩ : ∃ u, w1.cell? ⟨g, i * 2 + 1, none⟩ = some u := by rw [hB1.cell _ (by omega), List.getElem?_eq_getElem (by have := hB1.rd.1; omega)]; exact ⟨_, rfl⟩
        have f1 := hB1.frozen (i * 2 + 1)
        have hset : ((xs.set (i * 2) (.int .i64 x.1)).set (i * 2 + 1) (.slice x.2.1.1 x.2.1.2.1 x.2.1.2.2)) = lay xs (i * 2) (fW x) := by
          rw [HFV.out]
          rw [← lay_cons _ _ _ _ (by omega), ← lay_cons _ _ _ _ (by simp only [List.length_set]; omega)]
          rw [lay_nil]
        have hBs := ((hB1.set_ (i * 2) (.int .i64 x.1)).set_ (i * 2 + 1) (.slice x.2.1.1 x.2.1.2.1 x.2.1.2.2))
        have hbs2 := ((hb1.setCell (p := ⟨g, i * 2, none⟩) hbg (.int .i64 x.1)).setCell (p := ⟨g, i * 2 + 1, none⟩) hbg (.slice x.2.1.1 x.2.1.2.1 x.2.1.2.2))
        have HX2 : Hid (((l.take (j + 1)).filter (fun y => !p y)).length = i + 1 ∧ (lay xs (i * 2) (fW x)).take ((i + 1) * 2) = rowW ((l.take (j + 1)).filter (fun y => !p y)) ∧ (lay xs (i * 2) (fW x)).drop ((j + 1) * 2) = rowW (l.drop (j + 1))) := Lib.hid (by
          have hfl : (fW x).length = 2 := rfl
          rw [HDL.out, if_neg (by simp)]
          refine ⟨by rw [List.length_append, HX.out.1]; rfl, ?_, ?_⟩
          · have h4 := lay_take xs (i * 2) (fW x) (by omega)
            rw [hfl, show i * 2 + 2 = (i + 1) * 2 from by omega] at h4
            rw [h4, HX.out.2.1]
            exact (rowV_snoc _ _).symm
          · rw [lay_drop xs (i * 2) _ (fW x) (by omega) (by rw [hfl]; omega)]; exact HXD.out)
        rw [hset] at hBs
        have HBS := Lib.hid hBs
        clear hset hBs hB1 hv1
        go_wp2
        go_roundw
        case rel => exact ⟨i + 1, j + 1, _, by omega, by omega, by go_num, by go_num, HX2, HBS, hbs2⟩
        case measure => simp [intOf]; omega
    · obtain rfl : j = n := by omega
      obtain ⟨cur, hk, hs, ht, hxl, _, _, _⟩ := HBr.out
      have hk' : Blk wr g 62 (0, 0) cur.toList.toArray := by simpa using hk
      have hs' : cur.toList.length = c * 2 := by simpa using hs
      have hlc : (Builtin.zeroCells (Value.cells (.agg #[.int .i64 0, .slice none 0 0])) (j - i)).toList.length = (j - i) * 2 := zeroCells_len _ _
      obtain ⟨zs, hzs⟩ : ∃ zs, (Builtin.zeroCells (Value.cells (.agg #[.int .i64 0, .slice none 0 0])) (j - i)).toList = zs := ⟨_, rfl⟩
      have hz1c : ∀ u ∈ zs, u.oneCell' = true := by
        intro u hu
        rw [← hzs] at hu
        have hm := zeroCells_mem _ _ u hu
        have hm2 : u ∈ (Value.cells (.agg #[.int .i64 0, .slice none 0 0])).toList := by simpa using hm
        revert u
        intro u _ _ hm2
        simp only [Value.cells, List.mem_cons, List.not_mem_nil, or_false] at hm2
        rcases hm2 with rfl | rfl <;> rfl
      rw [hzs] at hlc
      have hcl : ∀ ty, (Builtin.clear_ #[22] ty #[.slice (some ⟨g, i * 2, none⟩) (j - i) (c - i)]).run Try.prog wr = .ok (.tuple #[]) (wr.setCells g (i * 2) zs) := fun ty =>
        run_clear_many wr 22 62 ty (.agg #[.int .i64 0, .slice none 0 0]) HSE.out HZV.out g (i * 2) (j - i) (c - i) zs hzs hz1c (by omega) (fun t ht => hk'.isSome (by omega)) (fun t ht => hk'.free _)
      have hk2 := hk'.setCells zs (i * 2) _ _ (by omega)
      have hb2 : Below base w (wr.setCells g (i * 2) zs) := below_setCells hbg zs _ _ hbw
      have hX := HX.out
      rw [List.take_of_length_le (by rw [HL.out]; exact Nat.le_refl _)] at hX
      have HO2 : Hid ((wr.setCells g (i * 2) zs).ownsRow base 62 2 (.slice (some ⟨g, 0, none⟩) i c) (l.filter fun y => !p y).length (rowW (l.filter fun y => !p y))) := Lib.hid (by
        rw [hX.1]
        refine ⟨by rw [rowV_len fW_len, hX.1], .inr ⟨g, c, _, rfl, hbg, hk2, by omega, by unfold maxLen; omega, by simp only [List.size_toArray]; rw [lay_len _ _ _ (by omega), hs'], ?_⟩⟩
        show (lay cur.toList (i * 2) zs).take (i * 2) = _
        rw [lay_take_less _ _ _ _ (by omega) (Nat.le_refl _), ← hX.2.1, ← ht, List.take_take, Nat.min_eq_left (by omega)])
      have hci : ¬ (c = i) := by omega
      have hij' : i ≤ c := by omega
      have hij2 : i ≤ j := by omega
      clear hX hk2 hk' hk hs hs' ht hxl hzs hz1c hlc HX HBr
      go_wp2
      go_ret
      exact ⟨⟨_, rfl, HO2.out⟩, hb2⟩
end Go.Proofs.Ytpofkkoiicdpbaa
