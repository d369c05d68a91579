/-
  Walks: the program's Find; copies of rows of entries; the first of which a test says yes.
-/
import Derived.Test.YtpjghildhhpeeaaEntryF
import Derived.Test.YtpjghildhhpeeaaAppB
namespace Go.Proofs.Ytpjghildhhpeeaa
open Go.RowKit

set_option maxHeartbeats 2000000 in
set_option maxRecDepth 100000 in
theorem Find_any (A : Option Addr) (n c : Nat) (l : List Ent) (q : ByteArray) (w : World) (hr : Rd w w.heap.size 3 A n (rowE l)) (hn : n ≤ 1000000) (hsz : ∀ x ∈ l, x.1.length ≤ 1000000) (hq : q.size ≤ 1000000) :
    Calls Try.prog 9 #[.slice A n c, .string q] w fun e w' => e = .returned (.tuple #[vE (findE l (oc q)).1, .int .i64 (findE l (oc q)).2]) ∧ Below w.heap.size w w' := by
  have hM : ∀ W, Below w.heap.size w W → Calls Try.prog 17 #[.slice A n c] W fun e w' => e = .returned (.bool (mayL l)) ∧ Below W.heap.size W w' := fun W h => May_any A n c l W ((hr.below h).more h.size) hn hsz
  have hI : ∀ W, Calls Try.prog 24 #[.string q] W fun e w' => e = .returned (.bool (isName (oc q))) ∧ Below W.heap.size W w' := fun W => Is_any q W hq
  have hln := rowV_count fE_len hr (by omega)
  have HR := Lib.hid hr
  have hb0 : Below w.heap.size w (w.alloc (.cells #[.string ⟨#[]⟩, .int .i64 0, .int .i64 0] 24)) := (Below.refl _ _).alloc (Nat.le_refl _) _
  cases hm : mayL l with
  | false =>
    rw [hm] at hM
    have hf := findE_bad l (oc q) hm
    rw [hf]
    have HM := Lib.hid hM
    clear hM hI hm hf hr hsz hln
    go_enter Try.func9, Try.ntmps9
    go_wp2_with fail
    refine (HM.out _ hb0).mono ?_
    rintro e w1 ⟨rfl, h1⟩
    obtain ⟨c0, c1, c2, f0, f1, f2⟩ := blk3 ((Blk.new w _ _ _).below h1 (by simp))
    go_wp2
    refine bodyPost_ret (v := .tuple #[vE zeroE, .int .i64 1]) (by simp [results, Try.results9, go_sem, c0, c1, c2]; rfl) rfl ⟨rfl, ?_⟩
    exact (((hb0.trans (h1.mono (by simp))).setCell (Nat.le_refl _) _).setCell (Nat.le_refl _) _).setCell (Nat.le_refl _) _
  | true =>
    rw [hm] at hM
    have HM := Lib.hid hM
    have hg := ((mayL_iff l).1 hm).1.2
    have hFi : ∀ W, Below w.heap.size w W → Calls Try.prog 23 #[.slice A n c, .string q] W fun e w' => e = .returned (.tuple #[.int .i64 (posE l (oc q)), .bool (hasN l (oc q))]) ∧ Below W.heap.size W w' := fun W h => find_any A n c l q W ((hr.below h).more h.size) hg hn
    have hps : hasN l (oc q) = true → posE l (oc q) < n ∧ ∃ x, l[posE l (oc q)]? = some x ∧ getN l (oc q) = some x := fun hh => by
      rcases Nat.lt_or_ge (posE l (oc q)) n with h | h
      · obtain ⟨x, hx⟩ : ∃ x, l[posE l (oc q)]? = some x := ⟨_, List.getElem?_eq_getElem (by omega)⟩
        obtain ⟨e1, e2⟩ := has_pos_some l (oc q) hg x hx
        rw [hh] at e1
        have e1 : x.1 = oc q := of_decide_eq_true e1.symm
        rw [if_pos e1] at e2
        exact ⟨h, x, hx, e2⟩
      · rw [has_pos_none l (oc q) hg (by omega)] at hh; cases hh
    have HPS := Lib.hid hps
    cases hi : isName (oc q) with
    | false =>
      rw [hi] at hI
      have hf := findE_name l (oc q) hm hi
      rw [hf]
      have HI := Lib.hid hI
      obtain ⟨pos, hpos⟩ : ∃ pos, posE l (oc q) = pos := ⟨_, rfl⟩
      obtain ⟨has, hhas⟩ : ∃ has, hasN l (oc q) = has := ⟨_, rfl⟩
      rw [hpos, hhas] at hFi
      have HFI := Lib.hid hFi
      clear hM hI hm hi hf hr hsz hln hFi hpos hhas hg hps
      go_enter Try.func9, Try.ntmps9
      go_wp2_with fail
      refine (HM.out _ hb0).mono ?_
      rintro e w1 ⟨rfl, h1⟩
      have b1 := hb0.trans (h1.mono (by simp))
      have B1 := (Blk.new w 24 (0, 0) #[.string ⟨#[]⟩, .int .i64 0, .int .i64 0]).below h1 (by simp)
      go_wp2_with fail
      refine (HFI.out _ b1).mono ?_
      rintro e w2 ⟨rfl, h2⟩
      have b2 := b1.trans (h2.mono b1.size)
      have B2 := B1.below h2 B1.lt
      go_wp2_with fail
      refine (HI.out _).mono ?_
      rintro e w3 ⟨rfl, h3⟩
      have b3 := b2.trans (h3.mono b2.size)
      obtain ⟨c0, c1, c2, f0, f1, f2⟩ := blk3 (B2.below h3 B2.lt)
      clear B1 B2
      go_wp2
      refine bodyPost_ret (v := .tuple #[vE zeroE, .int .i64 11]) (by simp [results, Try.results9, go_sem, c0, c1, c2]; rfl) rfl ⟨rfl, ?_⟩
      exact ((b3.setCell (Nat.le_refl _) _).setCell (Nat.le_refl _) _).setCell (Nat.le_refl _) _
    | true =>
      rw [hi] at hI
      have HI := Lib.hid hI
      cases hh : hasN l (oc q) with
      | false =>
        rw [findE_none l (oc q) hm hi hh]
        rw [hh] at hFi
        obtain ⟨pos, hpos⟩ : ∃ pos, posE l (oc q) = pos := ⟨_, rfl⟩
        rw [hpos] at hFi
        have HFI := Lib.hid hFi
        clear hM hI hm hi hr hsz hln hFi hpos hg hps hh
        go_enter Try.func9, Try.ntmps9
        go_wp2_with fail
        refine (HM.out _ hb0).mono ?_
        rintro e w1 ⟨rfl, h1⟩
        have b1 := hb0.trans (h1.mono (by simp))
        have B1 := (Blk.new w 24 (0, 0) #[.string ⟨#[]⟩, .int .i64 0, .int .i64 0]).below h1 (by simp)
        go_wp2_with fail
        refine (HFI.out _ b1).mono ?_
        rintro e w2 ⟨rfl, h2⟩
        have b2 := b1.trans (h2.mono b1.size)
        have B2 := B1.below h2 B1.lt
        go_wp2_with fail
        refine (HI.out _).mono ?_
        rintro e w3 ⟨rfl, h3⟩
        have b3 := b2.trans (h3.mono b2.size)
        obtain ⟨c0, c1, c2, f0, f1, f2⟩ := blk3 (B2.below h3 B2.lt)
        clear B1 B2
        go_wp2
        refine bodyPost_ret (v := .tuple #[vE zeroE, .int .i64 6]) (by simp [results, Try.results9, go_sem, c0, c1, c2]; rfl) rfl ⟨rfl, ?_⟩
        exact ((b3.setCell (Nat.le_refl _) _).setCell (Nat.le_refl _) _).setCell (Nat.le_refl _) _
      | true =>
        obtain ⟨hlt, x, hx, hgx⟩ := hps hh
        rw [findE_some l (oc q) x hm hi hgx]
        rw [hh] at hFi
        obtain ⟨pos, hpos⟩ : ∃ pos, posE l (oc q) = pos := ⟨_, rfl⟩
        rw [hpos] at hFi hlt hx
        have HFI := Lib.hid hFi
        have HX := Lib.hid hx
        obtain ⟨nm, ino, ty⟩ := x
        clear hM hI hm hi hr hsz hln hFi hpos hg hps hh hgx HPS hx
        go_enter Try.func9, Try.ntmps9
        go_wp2_with fail
        refine (HM.out _ hb0).mono ?_
        rintro e w1 ⟨rfl, h1⟩
        have b1 := hb0.trans (h1.mono (by simp))
        have B1 := (Blk.new w 24 (0, 0) #[.string ⟨#[]⟩, .int .i64 0, .int .i64 0]).below h1 (by simp)
        go_wp2_with fail
        refine (HFI.out _ b1).mono ?_
        rintro e w2 ⟨rfl, h2⟩
        have b2 := b1.trans (h2.mono b1.size)
        have B2 := B1.below h2 B1.lt
        go_wp2_with fail
        refine (HI.out _).mono ?_
        rintro e w3 ⟨rfl, h3⟩
        have b3 := b2.trans (h3.mono b2.size)
        obtain ⟨c0, c1, c2, f0, f1, f2⟩ := blk3 (B2.below h3 B2.lt)
        obtain ⟨g, o, x', rfl, hg, hx', d0, d1, d2⟩ := ent_at (HR.out.below b3) hlt
        rw [HX.out] at hx'
        cases hx'
        simp only at d0 d1 d2
        clear B1 B2
        go_wp2
        refine bodyPost_ret (v := .tuple #[vE (nm, ino, ty), .int .i64 0]) (by simp [results, Try.results9, go_sem, c0, c1, c2]; rfl) rfl ⟨rfl, ?_⟩
        exact ((b3.setCell (Nat.le_refl _) _).setCell (Nat.le_refl _) _).setCell (Nat.le_refl _) _

set_option maxHeartbeats 1000000 in
set_option maxRecDepth 100000 in
/-- slices.Clone at rows of entries: a row of the call's own. -/
theorem Clone_any (A : Option Addr) (n c : Nat) (xs : List Value) (w : World) (hr : Rd w w.heap.size 3 A n xs) (hone : ∀ u ∈ xs, u.oneCell' = true) (hn : n ≤ 1000000) (hnc : n ≤ c) (hnil : A = none → c = 0) :
    Calls Try.prog 29 #[.slice A n c] w fun e w' => (∃ v, e = .returned v ∧ w'.ownsRow w.heap.size 24 3 v n xs) ∧ Below w.heap.size w w' := by
  obtain ⟨i0, hi, hz0, hz1, hz2⟩ := info_parts Try.info24
  have HONE := Lib.hid hone
  have HR := Lib.hid hr
  clear hone
  cases A with
  | none =>
    have h0 : n = 0 := by have := hnil rfl; omega
    subst h0
    have hx : xs = [] := List.eq_nil_of_length_eq_zero (by have := hr.1; omega)
    subst hx
    have hc := hnil rfl
    subst hc
    have HO : Hid (∀ W : World, W.ownsRow w.heap.size 24 3 (.slice none 0 0) 0 []) := Lib.hid fun W => ⟨rfl, .inl ⟨rfl, rfl⟩⟩
    have hnl : ∀ W : World, (binOp .eql 22 (.slice none 0 0) (.slice none 0 0)).run Try.prog W = .ok (.bool true) W := fun W => Lib.run_eql_slice_nil W 22 24 none 0 0 0 0 Try.underlying22
    clear hr hnil hnc hn
    go_enter Try.func29, Try.ntmps29
    go_wp2
    go_ret
    exact ⟨⟨_, rfl, HO.out _⟩, Below.refl _ _⟩
  | some ad =>
    clear hnil
    have hnil2 : ((some ad : Option Addr) = none → c = 0) := fun h => by cases h
    have HNIL := Lib.hid hnil2
    have hown0 : ∀ W : World, (W.alloc (.cells #[] 24)).ownsRow W.heap.size 24 3 (.slice (some ⟨W.heap.size, 0, none⟩) 0 0) 0 [] := fun W => (OwnB.lit W W.heap.size (Nat.le_refl _) 24 3 0 #[] (by simp) (by simp)).own
    have HO0 := Lib.hid hown0
    have hb0 : Below w.heap.size w (w.alloc (.cells #[] 24)) := (Below.refl _ _).alloc (Nat.le_refl _) _
    have HR2 := Lib.hid ((hr.below hb0).more hb0.size)
    have hnl : ∀ W : World, (binOp .eql 22 (.slice (some ad) n c) (.slice none 0 0)).run Try.prog W = .ok (.bool false) W := fun W => Lib.run_eql_slice_nil W 22 24 (some ad) n c 0 0 Try.underlying22
    clear hr hown0 hnil2
    go_enter Try.func29, Try.ntmps29
    go_wp2_with (at_builtin; refine wpList_append_rd rfl (.tmp 5) (.tmp 6) 22 rfl w.heap.size 24 i0 _ 3 32 Try.underlying22 hi hz0 hz1 hz2 rfl (by decide) _ _ _ rfl (HO0.out w) (some ad) n c _ xs (by rfl) HNIL.out HR2.out HONE.out (by unfold maxLen; omega) (by omega) (base_alloc (Nat.le_refl _) _) ?_)
    intro v' w' hown' hb'
    have hb1 := hb0.trans hb'
    have HO : Hid (w'.ownsRow w.heap.size 24 3 v' n xs) := Lib.hid (by simpa using hown')
    clear hown'
    go_wp2
    go_ret
    exact ⟨⟨_, rfl, HO.out⟩, hb1⟩
end Go.Proofs.Ytpjghildhhpeeaa
