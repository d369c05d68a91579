/-
  Walks: the document's place of a name, its Find, Same, Take, Add.
-/
import Derived.Test.YtpjghildhhpeeaaEntryC
import Derived.Test.YtpjghildhhpeeaaApp
import Derived.Laws.StructEq
namespace Go.Proofs.Ytpjghildhhpeeaa
open Go.RowKit

theorem hasN_take (l : List Ent) (nm : List UInt8) (k : Nat) (x : Ent) (h : l[k]? = some x) (h0 : hasN (l.take k) nm = false) (hx : x.1 ≠ nm) : hasN (l.take (k + 1)) nm = false := by
  rw [take_snoc l k x h]
  unfold hasN at h0 ⊢
  rw [List.any_append, h0]
  simp [hx]
theorem getN_at (l : List Ent) (nm : List UInt8) (k : Nat) (x : Ent) (h : l[k]? = some x) (h0 : hasN (l.take k) nm = false) (hx : x.1 = nm) : getN l nm = some x ∧ hasN l nm = true := by
  have hl : l = l.take k ++ x :: l.drop (k + 1) := by
    have hk := (List.getElem?_eq_some_iff.1 h).1
    conv => lhs; rw [← List.take_append_drop k l]
    rw [List.drop_eq_getElem_cons hk]
    rw [(List.getElem?_eq_some_iff.1 h).2]
  have h1 : (l.take k).find? (fun x => decide (x.1 = nm)) = none := by
    rw [List.find?_eq_none]
    intro y hy
    unfold hasN at h0
    exact List.any_eq_false.1 h0 y hy
  have h2 : getN l nm = some x := by
    unfold getN
    rw [hl, List.find?_append, h1]
    simp [hx]
  exact ⟨h2, by rw [← getN_has, h2]; rfl⟩
theorem name_eq (s q : ByteArray) (a b : List UInt8) (hs : oc s = a) (hq : oc q = b) : (s.toList == q.toList) = decide (a = b) := by
  rw [toList_oc, toList_oc, hs, hq, beq_dec]

theorem blk3 {w : World} {g : Nat} {t : TypeId} {a b c : Value} (h : Blk w g t (0, 0) #[a, b, c]) :
    w.cell? ⟨g, 0, none⟩ = some a ∧ w.cell? ⟨g, 1, none⟩ = some b ∧ w.cell? ⟨g, 2, none⟩ = some c ∧ w.frozen? ⟨g, 0, none⟩ = false ∧ w.frozen? ⟨g, 1, none⟩ = false ∧ w.frozen? ⟨g, 2, none⟩ = false :=
  ⟨h.cell 0, h.cell 1, h.cell 2, by rw [h.frozen]; rfl, by rw [h.frozen]; rfl, by rw [h.frozen]; rfl⟩
theorem below_drewN {B : Nat} {a w : World} (h : Below B a w) (n : Nat) : Below B a (w.drewN n) := ⟨h.os, h.tape, h.output, h.size, h.block⟩
def AtIs (l : List Ent) (nm : List UInt8) (n : Nat) (e : Ending) : Prop :=
  (hasN l nm = false ∧ e = .returned (.int .i64 (-1))) ∨ ∃ (k : Nat) (x : Ent), k < n ∧ l[k]? = some x ∧ getN l nm = some x ∧ hasN l nm = true ∧ e = .returned (.int .i64 k)
set_option maxHeartbeats 2000000 in
set_option maxRecDepth 100000 in
theorem rAt_any (A : Option Addr) (n c : Nat) (l : List Ent) (q : ByteArray) (w : World) (hr : Rd w w.heap.size 3 A n (rowE l)) (hn : n ≤ 1000000) :
    Calls Try.prog 26 #[.slice A n c, .string q] w fun e w' => AtIs l (oc q) n e ∧ w = w' := by
  have hln := rowV_count fE_len hr (by omega)
  have HR := Lib.hid hr
  have HL := Lib.hid hln
  have h1 : hasN l (oc q) = false → AtIs l (oc q) n (.returned (.int .i64 (-1))) := fun h => .inl ⟨h, rfl⟩
  have h2 : ∀ (k : Nat) (x : Ent), k < n → l[k]? = some x → getN l (oc q) = some x → hasN l (oc q) = true → AtIs l (oc q) n (.returned (.int .i64 k)) := fun k x a b c d => .inr ⟨k, x, a, b, c, d, rfl⟩
  have H1 := Lib.hid h1
  have H2 := Lib.hid h2
  clear hr hln h1 h2
  go_enter Try.func26, Try.ntmps26
  go_wp2
  go_loopw [5] (fun i wr => ∃ k : Nat, k ≤ n ∧ i = .int .i64 k ∧ Hid (hasN (l.take k) (oc q) = false) ∧ w = wr) (fun i _ => n - (intOf i).toNat)
  case atStart => exact ⟨0, Nat.zero_le _, rfl, Lib.hid rfl, rfl⟩
  case round =>
    obtain ⟨k, hk, rfl, HG, rfl⟩ := hrel
    by_cases hlt : k < n
    · obtain ⟨g, o, x, rfl, hg, hx, hc0, hc1, hc2⟩ := ent_at HR.out hlt
      have hne := name_eq (st x.1) q x.1 (oc q) (oc_st _) rfl
      obtain ⟨s, hs⟩ : ∃ s, st x.1 = s := ⟨_, rfl⟩
      rw [hs] at hc0 hne
      by_cases hq : x.1 = oc q
      · rw [decide_eq_true hq] at hne
        obtain ⟨e1, e2⟩ := getN_at l (oc q) k x hx HG.out hq
        have HF := Lib.hid (H2.out k x hlt hx e1 e2)
        clear hx hs hq e1 e2
        go_wp2
        go_ret
        exact ⟨HF.out, rfl⟩
      · rw [decide_eq_false hq] at hne
        have HF := Lib.hid (hasN_take l (oc q) k x hx HG.out hq)
        clear hx hs hq
        go_wp2
        go_roundw
        case rel => exact ⟨k + 1, by omega, by go_num, HF, trivial⟩
        case measure => simp [intOf]; omega
    · obtain rfl : k = n := by omega
      have HF := Lib.hid (H1.out (by rw [← HG.out, List.take_of_length_le (by rw [HL.out]; exact Nat.le_refl _)]))
      go_wp2
      go_ret
      exact ⟨HF.out, rfl⟩

theorem findE_bad (l : List Ent) (nm : List UInt8) (h : mayL l = false) : findE l nm = (zeroE, 1) := by unfold findE; rw [if_neg (by rw [h]; simp)]
theorem findE_name (l : List Ent) (nm : List UInt8) (h : mayL l = true) (h2 : isName nm = false) : findE l nm = (zeroE, 11) := by unfold findE; rw [if_pos h, if_neg (by rw [h2]; simp)]
theorem findE_none (l : List Ent) (nm : List UInt8) (h : mayL l = true) (h2 : isName nm = true) (h3 : hasN l nm = false) : findE l nm = (zeroE, 6) := by
  have : getN l nm = none := by have := getN_has l nm; rw [h3] at this; simpa using this
  unfold findE; rw [if_pos h, if_pos h2, this]
theorem findE_some (l : List Ent) (nm : List UInt8) (x : Ent) (h : mayL l = true) (h2 : isName nm = true) (h3 : getN l nm = some x) : findE l nm = (x, 0) := by
  unfold findE; rw [if_pos h, if_pos h2, h3]

set_option maxHeartbeats 2000000 in
set_option maxRecDepth 100000 in
theorem rFind_any (A : Option Addr) (n c : Nat) (l : List Ent) (q : ByteArray) (w : World) (hr : Rd w w.heap.size 3 A n (rowE l)) (hn : n ≤ 1000000) (hsz : ∀ x ∈ l, x.1.length ≤ 1000000) (hq : q.size ≤ 1000000) :
    Calls Try.prog 10 #[.slice A n c, .string q] w fun e w' => e = .returned (.tuple #[vE (findE l (oc q)).1, .int .i64 (findE l (oc q)).2]) ∧ Below w.heap.size w w' := by
  have hM : ∀ W, Below w.heap.size w W → Calls Try.prog 21 #[.slice A n c] W fun e w' => e = .returned (.bool (mayL l)) ∧ Below W.heap.size W w' := fun W h => rMay_any A n c l W ((hr.below h).more h.size) hn hsz
  have hI : ∀ W, Calls Try.prog 25 #[.string q] W fun e w' => e = .returned (.bool (isName (oc q))) ∧ Below W.heap.size W w' := fun W => rIs_any q W hq
  have HR := Lib.hid hr
  cases hm : mayL l with
  | false =>
    rw [hm] at hM
    have hf := findE_bad l (oc q) hm
    rw [hf]
    have HM := Lib.hid hM
    clear hM hI hm hf hr hsz
    go_enter Try.func10, Try.ntmps10
    go_wp2_with fail
    have hb0 : Below w.heap.size w (w.alloc (.cells #[.string ⟨#[]⟩, .int .i64 0, .int .i64 0] 24)) := (Below.refl _ _).alloc (Nat.le_refl _) _
    refine (HM.out _ hb0).mono ?_
    rintro e w1 ⟨rfl, h1⟩
    obtain ⟨c0, c1, c2, f0, f1, f2⟩ := blk3 ((Blk.new w _ _ _).below h1 (by simp))
    go_wp2
    refine bodyPost_ret (v := .tuple #[vE zeroE, .int .i64 1]) (by simp [results, Try.results10, go_sem, c0, c1, c2]; rfl) rfl ⟨rfl, ?_⟩
    exact (((hb0.trans (h1.mono (by simp))).setCell (Nat.le_refl _) _).setCell (Nat.le_refl _) _).setCell (Nat.le_refl _) _
  | true =>
    rw [hm] at hM
    have HM := Lib.hid hM
    cases hi : isName (oc q) with
    | false =>
      rw [hi] at hI
      have hf := findE_name l (oc q) hm hi
      rw [hf]
      have HI := Lib.hid hI
      clear hM hI hm hi hf hr hsz
      go_enter Try.func10, Try.ntmps10
      go_wp2_with fail
      have hb0 : Below w.heap.size w (w.alloc (.cells #[.string ⟨#[]⟩, .int .i64 0, .int .i64 0] 24)) := (Below.refl _ _).alloc (Nat.le_refl _) _
      refine (HM.out _ hb0).mono ?_
      rintro e w1 ⟨rfl, h1⟩
      go_wp2_with fail
      refine (HI.out _).mono ?_
      rintro e w2 ⟨rfl, h2⟩
      obtain ⟨c0, c1, c2, f0, f1, f2⟩ := blk3 (((Blk.new w _ _ _).below h1 (by simp)).below h2 (by have := h1.size; simp at this; omega))
      have hb2 := (hb0.trans (h1.mono (by simp))).trans (h2.mono (by have := h1.size; simp at this; omega))
      go_wp2
      refine bodyPost_ret (v := .tuple #[vE zeroE, .int .i64 11]) (by simp [results, Try.results10, go_sem, c0, c1, c2]; rfl) rfl ⟨rfl, ?_⟩
      exact ((hb2.setCell (Nat.le_refl _) _).setCell (Nat.le_refl _) _).setCell (Nat.le_refl _) _
    | true =>
      rw [hi] at hI
      have HI := Lib.hid hI
      have HN := Lib.hid (findE_none l (oc q) hm hi)
      have HS := Lib.hid (fun x => findE_some l (oc q) x hm hi)
      clear hM hI hm hi hr hsz
      go_enter Try.func10, Try.ntmps10
      go_wp2_with fail
      have hb0 : Below w.heap.size w (w.alloc (.cells #[.string ⟨#[]⟩, .int .i64 0, .int .i64 0] 24)) := (Below.refl _ _).alloc (Nat.le_refl _) _
      refine (HM.out _ hb0).mono ?_
      rintro e w1 ⟨rfl, h1⟩
      go_wp2_with fail
      refine (HI.out _).mono ?_
      rintro e w2 ⟨rfl, h2⟩
      have hb2 := (hb0.trans (h1.mono (by simp))).trans (h2.mono (by have := h1.size; simp at this; omega))
      obtain ⟨c0, c1, c2, f0, f1, f2⟩ := blk3 (((Blk.new w _ _ _).below h1 (by simp)).below h2 (by have := h1.size; simp at this; omega))
      have HR2 := Lib.hid ((HR.out.below hb2).more hb2.size)
      go_wp2_with fail
      refine (rAt_any A n c l q w2 HR2.out hn).mono ?_
      rintro e w3 ⟨hA, rfl⟩
      unfold AtIs at hA
      rcases hA with ⟨hA, rfl⟩ | ⟨k, x, hk, hx, hgx, _, rfl⟩
      · have HF := Lib.hid (HN.out hA)
        clear hA
        go_wp2
        rw [HF.out]
        refine bodyPost_ret (v := .tuple #[vE zeroE, .int .i64 6]) (by simp [results, Try.results10, go_sem, c0, c1, c2]; rfl) rfl ⟨rfl, ?_⟩
        exact ((hb2.setCell (Nat.le_refl _) _).setCell (Nat.le_refl _) _).setCell (Nat.le_refl _) _
      · have HF := Lib.hid (HS.out x hgx)
        obtain ⟨g, o, x', rfl, hg, hx', d0, d1, d2⟩ := ent_at (HR.out.below hb2) hk
        rw [hx] at hx'
        cases hx'
        obtain ⟨nm, ino, ty⟩ := x
        simp only at d0 d1 d2
        clear hgx hx
        have i1 : ((k : Int) < 0) = False := by simp
        go_wp2
        rw [HF.out]
        refine bodyPost_ret (v := .tuple #[vE (nm, ino, ty), .int .i64 0]) (by simp [results, Try.results10, go_sem, c0, c1, c2]; rfl) rfl ⟨rfl, ?_⟩
        exact ((hb2.setCell (Nat.le_refl _) _).setCell (Nat.le_refl _) _).setCell (Nat.le_refl _) _

/-- Two entries, one against the other: as the model compares things of three fields. -/
theorem ent_eq (s s' : ByteArray) (i i' t t' : Int) (w : World) :
    (Op.equalIn 10000 24 (.agg #[.string s, .int .i64 i, .int .i64 t]) (.agg #[.string s', .int .i64 i', .int .i64 t'])).run Try.prog w = .ok (decide ((oc s, i, t) = (oc s', i', t'))) w := by
  have ut := Try.underlying3
  have us := Try.underlying9
  have at_ := Try.isAgg3
  have as_ := Try.isAgg9
  have zt := Try.sizeOf3
  have zs := Try.sizeOf9
  have hS : Try.prog.underlying 24 = some (.struct (Try.prog.fieldsOf 24)) := by kernel_rfl
  have hp : Try.prog.stoodInHeld 24 = false := by kernel_rfl
  rw [show (10000 : Nat) = 9999 + 1 from rfl, run_equalIn_agg w 9999 24 _ _ hS hp]
  simp only [Program.fieldsOf, Try.underlying24]
  go_simp
  rw [toList_oc, toList_oc]
  by_cases h1 : oc s = oc s' <;> by_cases h2 : i = i' <;> by_cases h3 : t = t' <;> simp [h1, h2, h3]
set_option maxHeartbeats 2000000 in
set_option maxRecDepth 100000 in
theorem rSame_any (A A' : Option Addr) (n c n' c' : Nat) (l m : List Ent) (w : World) (hr : Rd w w.heap.size 3 A n (rowE l)) (hr' : Rd w w.heap.size 3 A' n' (rowE m)) (hn : n ≤ 1000000) (hn' : n' ≤ 1000000) :
    Calls Try.prog 15 #[.slice A n c, .slice A' n' c'] w fun e w' => e = .returned (.bool (decide (l = m))) ∧ Below w.heap.size w w' := by
  have hl := rowV_count fE_len hr (by omega)
  have hl' := rowV_count fE_len hr' (by omega)
  by_cases hne : n ≠ n'
  · have hd : decide (l = m) = false := decide_eq_false (fun h => hne (by rw [← hl, ← hl', h]))
    have i1 : ((n : Int) != (n' : Int)) = true := by rw [bne_iff_ne]; omega
    rw [hd]
    clear hr hr' hd hl hl' hne
    go_enter Try.func15, Try.ntmps15
    go_wp2
    go_ret
    exact ⟨rfl, Below.refl _ _⟩
  · have hnn : n = n' := by omega
    subst hnn
    have HR := Lib.hid hr
    have HR' := Lib.hid hr'
    have HL := Lib.hid hl
    have HL' := Lib.hid hl'
    have i1 : ((n : Int) != (n : Int)) = false := by simp
    clear hr hr' hl hl' hne hn'
    go_enter Try.func15, Try.ntmps15
    go_wp2
    go_loopw [5] (fun i wr => ∃ k : Nat, k ≤ n ∧ i = .int .i64 k ∧ Hid (l.take k = m.take k) ∧ Below w.heap.size w wr) (fun i _ => n - (intOf i).toNat)
    case atStart => exact ⟨0, Nat.zero_le _, rfl, Lib.hid rfl, Below.refl _ _⟩
    case round =>
      obtain ⟨k, hk, rfl, HG, hbw⟩ := hrel
      by_cases hlt : k < n
      · obtain ⟨g, o, x, rfl, hg, hx, c0, c1, c2⟩ := ent_at (HR.out.below hbw) hlt
        obtain ⟨g', o', y, rfl, hg', hy, d0, d1, d2⟩ := ent_at (HR'.out.below hbw) hlt
        obtain ⟨nm, ino, ty⟩ := x
        obtain ⟨nm', ino', ty'⟩ := y
        simp only at c0 c1 c2 d0 d1 d2
        have heq := ent_eq (st nm) (st nm') ino ino' ty ty'
        rw [oc_st, oc_st] at heq
        obtain ⟨s, hs⟩ : ∃ s, st nm = s := ⟨_, rfl⟩
        obtain ⟨s', hs'⟩ : ∃ s', st nm' = s' := ⟨_, rfl⟩
        rw [hs] at c0
        rw [hs'] at d0
        rw [hs, hs'] at heq
        have hgd : Try.prog.eqGuardType Try.prog.depth 24 = false := by kernel_rfl
        have i0 : (0 : Int) ≤ (k : Int) := Int.natCast_nonneg _
        have i1 : (k : Int) < (n : Int) := by omega
        have HX := Lib.hid hx
        have HY := Lib.hid hy
        clear hx hy hs hs'
        by_cases hxy : (nm, ino, ty) = (nm', ino', ty')
        · rw [decide_eq_true hxy] at heq
          have HF : Hid (l.take (k + 1) = m.take (k + 1)) := Lib.hid (by rw [take_snoc l k _ HX.out, take_snoc m k _ HY.out, HG.out, hxy])
          clear hxy
          go_wp2_with fail
          go_quiet (fail)
          go_wp2
          go_roundw
          case rel => exact ⟨k + 1, by omega, by go_num, HF, below_drewN hbw _⟩
          case measure => simp [intOf]; omega
        · rw [decide_eq_false hxy] at heq
          have HF : Hid (decide (l = m) = false) := Lib.hid (decide_eq_false (fun e => by
            subst e
            have h1 := HX.out
            rw [HY.out] at h1
            exact hxy (Option.some.inj h1).symm))
          clear hxy
          go_wp2_with fail
          go_quiet (fail)
          go_wp2
          go_ret
          rw [HF.out]
          exact ⟨rfl, below_drewN hbw _⟩
      · obtain rfl : k = n := by omega
        have HF : Hid (decide (l = m) = true) := Lib.hid (decide_eq_true (by
          have := HG.out
          rw [List.take_of_length_le (by rw [HL.out]; exact Nat.le_refl _), List.take_of_length_le (by rw [HL'.out]; exact Nat.le_refl _)] at this
          exact this))
        go_wp2
        go_ret
        rw [HF.out]
        exact ⟨rfl, hbw⟩
end Go.Proofs.Ytpjghildhhpeeaa
