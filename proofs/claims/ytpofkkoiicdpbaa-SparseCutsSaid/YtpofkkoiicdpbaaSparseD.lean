/-
  Walks: where a block stands, or would stand; a block's octets, noughts where it is not there; the blocks of a file asked for one by one; bytes.Count of noughts.
-/
import Derived.Test.YtpofkkoiicdpbaaSparseC
import Derived.Test.YtpofkkoiicdpbaaSearch
import Derived.Test.YtpofkkoiicdpbaaStore
import Derived.BigQuiet
import Derived.Shelf.Bytes.SlCountOne
namespace Go.Proofs.Ytpofkkoiicdpbaa
open Go.RowKit
set_option linter.unusedVariables false

theorem enters_find1 : ∀ args w, (callFunc 41 args).run Try.prog w = .ok (.enter 41 args) w := enters_of Try.func41 (by kernel_rfl) rfl

set_option maxHeartbeats 2000000 in
set_option maxRecDepth 100000 in
theorem find1_any (A : Option Addr) (n c : Nat) (L : List Pc) (q : Int) (b1 b2 : Nat) (k : Nat) (w : World) (h : IsP w w.heap.size A n c L) (hg : Asc L) (hk : k < n)
    (h1 : w.cell? ⟨b1, 1, none⟩ = some (.slice A n c)) (h2 : w.cell? ⟨b2, 0, none⟩ = some (.int .i64 q)) :
    Calls Try.prog 41 (#[.int .i64 k] ++ #[.pointer (some ⟨b1, 0, none⟩), .pointer (some ⟨b2, 0, none⟩)]) w fun e w' => e = .returned (.bool (decide (posF L q ≤ k))) ∧ Below w.heap.size w w' := by
  obtain ⟨g, o, x, Ab, cb, rfl, hgl, hx, c0, _, _⟩ := h.at_ hk
  have hp := pos_iffF L q hg k x hx
  have hd : decide (posF L q ≤ k) = decide (q ≤ x.1) := decide_eq_decide.2 hp
  rw [hd]
  obtain ⟨z, hz⟩ : ∃ z, x.1 = z := ⟨_, rfl⟩
  rw [hz] at c0 ⊢
  have i0 : (0 : Int) ≤ (k : Int) := Int.natCast_nonneg _
  have i1 : (k : Int) < (n : Int) := by omega
  clear hz hd hp hx h hg
  show Calls _ _ #[_, _, _] _ _
  go_enter Try.func41, Try.ntmps41
  go_wp2_with fail
  go_quiet (fail)
  go_wp2
  go_ret
  exact ⟨rfl, below_drewN (Below.refl _ _) _⟩

set_option maxHeartbeats 2000000 in
set_option maxRecDepth 100000 in
theorem find_any (size q : Int) (A : Option Addr) (n c : Nat) (L : List Pc) (w : World) (h : IsP w w.heap.size A n c L) (hg : Asc L) (hn : n ≤ 1000000) :
    Calls Try.prog 32 #[.agg #[.int .i64 size, .slice A n c], .int .i64 q] w fun e w' => e = .returned (.tuple #[.int .i64 (posF L q), .bool (hasF L q)]) ∧ Below w.heap.size w w' := by
  have hln := h.count
  obtain ⟨wx, hwx⟩ : ∃ wx, (w.alloc (.cells #[.int .i64 size, .slice A n c] 24)).alloc (.cells #[.int .i64 q] 3) = wx := ⟨_, rfl⟩
  have hbx : Below w.heap.size w wx := by rw [← hwx]; exact ((Below.refl _ _).alloc (Nat.le_refl _) _).alloc (base_alloc (Nat.le_refl _) _) _
  have hsx : w.heap.size + 1 < wx.heap.size := by rw [← hwx]; simp
  have x1 : wx.cell? ⟨w.heap.size, 1, none⟩ = some (.slice A n c) := by rw [← hwx, old_cell _ _ _ _ (by simp)]; exact new_cell w _ _ _ 1 rfl
  have x2 : wx.cell? ⟨w.heap.size + 1, 0, none⟩ = some (.int .i64 q) := by rw [← hwx]; exact new_cell _ _ _ _ 0 (by simp)
  have hpn : posF L q ≤ n := by rw [← hln]; exact posF_le L q
  have hS : Calls Try.prog 40 #[.int .i64 n, .func (.func 41) #[] #[.pointer (some ⟨w.heap.size, 0, none⟩), .pointer (some ⟨w.heap.size + 1, 0, none⟩)]] wx fun e w' => e = .returned (.int .i64 (posF L q)) ∧ Below wx.heap.size wx w' :=
    Search_any n (posF L q) _ _ enters_find1 wx hn hpn fun W k hb hh =>
      find1_any A n c L q w.heap.size (w.heap.size + 1) k W ((h.later hbx).later hb) hg hh
        ((hb.cell (p := ⟨w.heap.size, 1, none⟩) (by show w.heap.size < _; omega)).trans x1) ((hb.cell (p := ⟨w.heap.size + 1, 0, none⟩) (by show w.heap.size + 1 < _; omega)).trans x2)
  have hdec : (posF L q < n ∧ ∃ x, L[posF L q]? = some x ∧ hasF L q = decide (x.1 = q)) ∨ (posF L q = n ∧ hasF L q = false) := by
    rcases Nat.lt_or_ge (posF L q) n with h | h
    · obtain ⟨x, hx⟩ : ∃ x, L[posF L q]? = some x := ⟨_, List.getElem?_eq_getElem (by omega)⟩
      exact .inl ⟨h, x, hx, (has_at L q hg x hx).1⟩
    · exact .inr ⟨by omega, has_end L q hg (by omega)⟩
  obtain ⟨pos, hpos⟩ : ∃ pos, posF L q = pos := ⟨_, rfl⟩
  obtain ⟨has, hhas⟩ : ∃ has, hasF L q = has := ⟨_, rfl⟩
  rw [hpos] at hS hdec hpn ⊢
  rw [hhas] at hdec ⊢
  have H := Lib.hid h
  have HWX := Lib.hid hwx
  have HS := Lib.hid hS
  clear h hln hwx hS hpos hhas hg
  rcases hdec with ⟨hlt, x, hx, hh⟩ | ⟨he, hh⟩
  · have HX := Lib.hid hx
    have HH := Lib.hid hh
    have hd : decide (pos < n) = true := decide_eq_true hlt
    have i0 : (0 : Int) ≤ (pos : Int) := Int.natCast_nonneg _
    have i1 : (pos : Int) < (n : Int) := by omega
    clear hx hh
    go_enter Try.func32, Try.ntmps32
    go_wp2_with fail
    rw [HWX.out]
    refine HS.out.mono ?_
    rintro e w1 ⟨rfl, h1⟩
    have y1 : w1.cell? ⟨w.heap.size, 1, none⟩ = some (.slice A n c) := (h1.cell (p := ⟨_, 1, none⟩) (by show w.heap.size < _; omega)).trans x1
    have y2 : w1.cell? ⟨w.heap.size + 1, 0, none⟩ = some (.int .i64 q) := (h1.cell (p := ⟨_, 0, none⟩) (by show w.heap.size + 1 < _; omega)).trans x2
    have hb1 := hbx.trans (h1.mono hbx.size)
    obtain ⟨g, o, x', Ab, cb, hA, hgl, hx', c0, _, _⟩ := (H.out.below hb1).at_ hlt
    rw [HX.out] at hx'
    cases hx'
    subst hA
    obtain ⟨z, hz⟩ : ∃ z, x.1 = z := ⟨_, rfl⟩
    rw [hz] at c0
    have HZ := Lib.hid hz
    clear x1 x2 hz
    go_wp2_with fail
    go_quiet (fail)
    go_wp2
    go_ret2
    refine ⟨?_, below_drewN hb1 _⟩
    rw [HH.out, HZ.out]
    try rfl
  · have hd : decide (pos < n) = false := decide_eq_false (by omega)
    have hge : n ≤ pos := by omega
    subst hh
    clear he
    go_enter Try.func32, Try.ntmps32
    go_wp2_with fail
    rw [HWX.out]
    refine HS.out.mono ?_
    rintro e w1 ⟨rfl, h1⟩
    have y1 : w1.cell? ⟨w.heap.size, 1, none⟩ = some (.slice A n c) := (h1.cell (p := ⟨_, 1, none⟩) (by show w.heap.size < _; omega)).trans x1
    have y2 : w1.cell? ⟨w.heap.size + 1, 0, none⟩ = some (.int .i64 q) := (h1.cell (p := ⟨_, 0, none⟩) (by show w.heap.size + 1 < _; omega)).trans x2
    have hb1 := hbx.trans (h1.mono hbx.size)
    clear x1 x2
    go_wp2_with fail
    go_quiet (fail)
    go_wp2
    go_ret2
    exact ⟨rfl, below_drewN hb1 _⟩

/-- A row of octets of the call's own, just made, of noughts. -/
def zerV (n : Nat) : List Value := octV (zer n)
theorem zerV_len (n : Nat) : (zerV n).length = n := by simp [zerV, octV, zer]

set_option maxHeartbeats 1000000 in
set_option maxRecDepth 100000 in
theorem octB_any (size q : Int) (A : Option Addr) (n c : Nat) (L : List Pc) (w : World) (h : IsP w w.heap.size A n c L) (hg : Std L) (hn : n ≤ 1000000) :
    Calls Try.prog 24 #[.agg #[.int .i64 size, .slice A n c], .int .i64 q] w fun e w' => (∃ g, e = .returned (.slice (some ⟨g, 0, none⟩) 128 128) ∧ OwnB w' w.heap.size 5 1 g 128 128 (octV (octB L q))) ∧ Below w.heap.size w w' := by
  obtain ⟨i1, hi, hz0, hz1, hz2⟩ := info_parts Try.info5
  obtain ⟨Z, hmk, hZ⟩ : ∃ Z : Array Value, (∀ w, (Instr.makeSlice 25 (.int .i64 128) (.int .i64 128)).run Try.prog w = .ok (.slice (some ⟨w.heap.size, 0, none⟩) 128 128) (w.alloc (.cells Z 5))) ∧ Z.toList = zerV 128 := by
    refine ⟨_, fun w => run_make w 25 5 i1 (.int .u8 0) Try.underlying25 hi hz0 .i64 .i64 128 128 (by omega) (by omega) (by rw [hz2]; omega) (by omega), ?_⟩
    rw [hz1]
    kernel_rfl
  have hls := hg.1
  have hoct : octB L q = match blk L q with | some b => b | none => zer 128 := by unfold octB; cases blk L q <;> rfl
  have hdec : (hasF L q = false ∧ octB L q = zer 128) ∨ (hasF L q = true ∧ posF L q < n ∧ ∃ x, L[posF L q]? = some x ∧ x.2 = octB L q ∧ x.2.length = 128) := by
    have hln := h.count
    cases hh : hasF L q with
    | false =>
      refine .inl ⟨rfl, ?_⟩
      rw [hoct]
      unfold hasF at hh
      cases hb : blk L q with
      | none => rfl
      | some b => rw [hb] at hh; cases hh
    | true =>
      refine .inr ⟨rfl, ?_⟩
      rcases Nat.lt_or_ge (posF L q) n with h1 | h1
      · obtain ⟨x, hx⟩ : ∃ x, L[posF L q]? = some x := ⟨_, List.getElem?_eq_getElem (by omega)⟩
        obtain ⟨e1, e2⟩ := has_at L q hls x hx
        rw [hh] at e1
        have e3 := e2 (of_decide_eq_true e1.symm)
        refine ⟨h1, x, hx, ?_, (hg.2 x (List.mem_iff_getElem?.2 ⟨_, hx⟩)).2⟩
        rw [hoct, e3]
      · rw [has_end L q hls (by omega)] at hh; cases hh
  have hF : ∀ W, Below w.heap.size w W → Calls Try.prog 32 #[.agg #[.int .i64 size, .slice A n c], .int .i64 q] W fun e w' => e = .returned (.tuple #[.int .i64 (posF L q), .bool (hasF L q)]) ∧ Below W.heap.size W w' := fun W hW => find_any size q A n c L W (h.later hW) hls hn
  obtain ⟨pos, hpos⟩ : ∃ pos, posF L q = pos := ⟨_, rfl⟩
  rw [hpos] at hdec hF
  have H := Lib.hid h
  have HZ := Lib.hid hZ
  obtain ⟨O, hO⟩ : ∃ O, octB L q = O := ⟨_, rfl⟩
  rw [hO] at hdec ⊢
  clear h hZ hoct hls hg hO hpos
  rcases hdec with ⟨hh, he⟩ | ⟨hh, hlt, x, hx, hxo, hxl⟩
  · rw [hh] at hF
    have HF := Lib.hid hF
    have HE := Lib.hid he
    clear hF hh he
    go_enter Try.func24, Try.ntmps24
    go_wp2_with fail
    obtain ⟨wx, hwx⟩ : ∃ wx, (w.alloc (.cells #[.int .i64 size, .slice A n c] 24)).alloc (.cells Z 5) = wx := ⟨_, rfl⟩
    have hbx : Below w.heap.size w wx := by rw [← hwx]; exact ((Below.refl _ _).alloc (Nat.le_refl _) _).alloc (by simp) _
    have hB : OwnB wx w.heap.size 5 1 (w.heap.size + 1) 128 128 (zerV 128) := by
      rw [← hwx, ← HZ.out]
      have := OwnB.lit (w.alloc (.cells #[.int .i64 size, .slice A n c] 24)) w.heap.size (by simp) 5 1 128 Z (by rw [← Array.length_toList, HZ.out]; exact zerV_len 128) (by simp [maxLen])
      simpa using this
    rw [hwx]
    clear hwx
    refine (HF.out _ hbx).mono ?_
    rintro e w1 ⟨rfl, h1⟩
    have hB1 := hB.later h1
    have hb1 := hbx.trans (h1.mono hbx.size)
    have HB := Lib.hid (show OwnB w1 w.heap.size 5 1 (w.heap.size + 1) 128 128 (octV O) by rw [HE.out]; exact hB1)
    clear hB hB1
    go_wp2
    go_ret
    exact ⟨⟨_, rfl, HB.out⟩, hb1⟩
  · rw [hh] at hF
    have HF := Lib.hid hF
    have HX := Lib.hid hx
    have HXO := Lib.hid hxo
    have HXL := Lib.hid hxl
    have i0 : (0 : Int) ≤ (pos : Int) := Int.natCast_nonneg _
    have i1' : (pos : Int) < (n : Int) := by omega
    clear hF hh hx hxo hxl
    go_enter Try.func24, Try.ntmps24
    go_wp2_with fail
    obtain ⟨wx, hwx⟩ : ∃ wx, (w.alloc (.cells #[.int .i64 size, .slice A n c] 24)).alloc (.cells Z 5) = wx := ⟨_, rfl⟩
    have hbx : Below w.heap.size w wx := by rw [← hwx]; exact ((Below.refl _ _).alloc (Nat.le_refl _) _).alloc (by simp) _
    have x1 : wx.cell? ⟨w.heap.size, 1, none⟩ = some (.slice A n c) := by rw [← hwx, old_cell _ _ _ _ (by simp)]; exact new_cell w _ _ _ 1 rfl
    have hB : OwnB wx w.heap.size 5 1 (w.heap.size + 1) 128 128 (zerV 128) := by
      rw [← hwx, ← HZ.out]
      have := OwnB.lit (w.alloc (.cells #[.int .i64 size, .slice A n c] 24)) w.heap.size (by simp) 5 1 128 Z (by rw [← Array.length_toList, HZ.out]; exact zerV_len 128) (by simp [maxLen])
      simpa using this
    have hsx : w.heap.size < wx.heap.size := by rw [← hwx]; simp; omega
    rw [hwx]
    clear hwx
    refine (HF.out _ hbx).mono ?_
    rintro e w1 ⟨rfl, h1⟩
    have hB1 := hB.later h1
    have hb1 := hbx.trans (h1.mono hbx.size)
    have y1 : w1.cell? ⟨w.heap.size, 1, none⟩ = some (.slice A n c) := (h1.cell (p := ⟨_, 1, none⟩) (by show w.heap.size < _; omega)).trans x1
    obtain ⟨g, o, x', Ab, cb, hA, hgl, hx', c0, c1, hcb, hcm, hnl, hR⟩ := (H.out.below hb1).at_ hlt
    rw [HX.out] at hx'
    cases hx'
    subst hA
    rw [HXL.out] at c1 hcb hR
    rw [HXO.out] at hR
    have hOl : (octV O).length = 128 := by have := hR.1; omega
    obtain ⟨gb, ob, rfl, hgb, hcell⟩ := hR.2 (by omega)
    obtain ⟨cur, hk, hcs, hct, _⟩ := hB1
    have hk' : Blk w1 (w.heap.size + 1) 5 (0, 0) cur.toList.toArray := by simpa using hk
    have hcl : cur.toList.length = 128 := by simpa using hcs
    have hcp := run_copy_many (P := Try.prog) w1 25 25 3 5 i1 1 (w.heap.size + 1) 0 128 128 ⟨gb, ob, none⟩ 128 cb (octV O) Try.underlying25 hi hz1 (by rw [hOl]; rfl)
      (fun j u hu => by rw [add_form]; exact hcell j u hu) (fun j hj => hk'.isSome (by omega)) (fun j hj => hk'.free _) (octV_one O)
    have hB2 : Blk (w1.setCells (w.heap.size + 1) 0 (octV O)) (w.heap.size + 1) 5 (0, 0) (octV O).toArray := by
      have := hk'.setCells (octV O) 0 w1 _ (by omega)
      have e : lay cur.toList 0 (octV O) = octV O := by
        unfold lay
        rw [List.take_zero, List.drop_of_length_le (by omega)]; simp
      rw [e] at this
      exact this
    have hb2 : Below w.heap.size w (w1.setCells (w.heap.size + 1) 0 (octV O)) := below_setCells (by omega) _ _ _ hb1
    have HB2 := Lib.hid hB2
    have HOL := Lib.hid hOl
    have HCP := Lib.hid hcp
    clear x1 hB2 hk' hk hcs hcl hct hR hcell hOl hcp cur
    go_wp2_with (refine wpList_copy_known _ rfl (.tmp 16) (.tmp 22) 25 25 rfl _ _ rfl rfl HCP.out ?_)
    go_ret
    refine ⟨⟨_, rfl, (octV O).toArray, HB2.out, by simp [HOL.out], ?_, HOL.out, by omega, by omega, by simp [maxLen]⟩, hb2⟩
    rw [List.take_of_length_le (by simp [HOL.out])]
end Go.Proofs.Ytpofkkoiicdpbaa
