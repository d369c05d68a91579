/-
  Walks: names looked at; the path of names.
-/
import Derived.Test.YtofbgebgneinaaaDoorPathL
import Derived.Test.YtofbgebgneinaaaDoorShelfJ
namespace Go.Proofs.YtofbgebgneinaaaDoor
open Go.RowKit Go.Shelf
set_option linter.unusedVariables false

def namesL (l : List (List UInt8)) : List (List UInt8) := (l.take 10).map (·.take 60)
theorem names_len (l : List (List UInt8)) : (namesL l).length ≤ 10 := by simp [namesL]; omega
theorem names_size (l : List (List UInt8)) : ∀ x ∈ namesL l, x.length ≤ 60 := by
  intro x hx
  obtain ⟨y, _, rfl⟩ := List.mem_map.1 hx
  rw [List.length_take]; omega

set_option maxHeartbeats 4000000 in
set_option maxRecDepth 100000 in
theorem names_cut (A : Option Addr) (n c m : Nat) (l : List (List UInt8)) (w : World) (hr : Rd w w.heap.size 1 A n (strV l)) (hsz : ∀ x ∈ l, x.length ≤ 9223372036854775807) (hnc : n ≤ c) (hm : m = min n 10) :
    Calls Tryd.prog 15 #[.slice A n c] w fun e w' => (∃ v, e = .returned v ∧ OwnS w w' v (namesL l)) ∧ Below w.heap.size w w' := by
  obtain ⟨i0, hi, hz0, hz1, hz2⟩ := info_parts (P := Tryd.prog) (e := 9) (z := .string ByteArray.empty) (size := 1) (bytes := 16) (by kernel_rfl)
  have hl := hr.1
  rw [strV_len, Nat.mul_one] at hl
  have hr10 := rd_takeS hr (k := m) (by omega)
  have hN : namesL l = (l.take m).map (·.take 60) := by
    unfold namesL
    by_cases h : n ≤ 10
    · rw [List.take_of_length_le (by omega), List.take_of_length_le (by omega)]
    · rw [show m = 10 from by omega]
  obtain ⟨L, hL⟩ : ∃ L, l.take m = L := ⟨_, rfl⟩
  have hLl : L.length = m := by rw [← hL, List.length_take]; omega
  have hsz2 : ∀ x ∈ L, x.length ≤ 9223372036854775807 := fun x hx => hsz x (List.mem_of_mem_take (by rw [hL]; exact hx))
  rw [hL] at hr10 hN
  rw [hN]
  have HLL := Lib.hid hLl
  have HSZ := Lib.hid hsz2
  have HR := Lib.hid hr10
  have fin : ∀ v wr, wr.ownsRow w.heap.size 9 1 v m (strV ((L.take m).map (·.take 60))) → OwnS w wr v (L.map (·.take 60)) := fun v wr h => by
    unfold OwnS
    rw [List.take_of_length_le (by omega)] at h
    rw [List.length_map, hLl]; exact h
  have FIN := Lib.hid fin
  clear hr hr10 hsz hN hL hl hLl fin hsz2
  have key : ∀ (A : Option Addr) (a : Act) (wr : World), True := fun _ _ _ => trivial
  clear key
  by_cases h10 : 10 < n
  · obtain rfl : m = 10 := by omega
    clear hm
    obtain ⟨g0, o0, rfl, _, _⟩ := HR.out.2 (by omega)
    go_enter Tryd.func15, Tryd.ntmps15
    go_wp2
    go_loopw [3, 4] (fun v i wr => ∃ k : Nat, k ≤ 10 ∧ i = .int .i64 k ∧ wr.ownsRow w.heap.size 9 1 v k (strV ((L.take k).map (·.take 60))) ∧ Below w.heap.size w wr) (fun _ i _ => 10 - (intOf i).toNat)
    case atStart => exact ⟨0, Nat.zero_le _, rfl, ⟨rfl, .inl ⟨rfl, rfl⟩⟩, Below.refl _ _⟩
    case round =>
      obtain ⟨k, hk, rfl, hown, hbw⟩ := hrel
      by_cases hlt : k < 10
      · obtain ⟨g, o, x, e0, hg, hx, hcell⟩ := str_at ((HR.out.below hbw).more hbw.size) hlt
        injection e0 with e0
        injection e0 with e1 e2 _
        subst e1 e2
        have hxl := HSZ.out x (List.mem_iff_getElem?.2 ⟨k, hx⟩)
        have hsn : strV ((L.take (k + 1)).map (·.take 60)) = strV ((L.take k).map (·.take 60)) ++ [.string (st (x.take 60))] := by
          rw [take_snoc L k x hx, List.map_append]; exact strV_snoc _ _
        have HSN := Lib.hid hsn
        obtain ⟨b, hb⟩ : ∃ b, st x = b := ⟨_, rfl⟩
        have hbx : oc b = x := by rw [← hb, oc_st]
        have hbs : b.size ≤ 9223372036854775807 := by rw [← oc_len, hbx]; exact hxl
        rw [hb] at hcell
        by_cases h60 : 60 < b.size
        · have hst : st (x.take 60) = b.extract 0 60 := oc_inj (by rw [oc_st, oc_head, hbx])
          rw [hst] at HSN
          clear hx hb hbx hsn hst hxl
          go_wp2_with (at_builtin; refine wpList_append_own _ rfl (.tmp 26) (.tmp 28) 23 rfl w.heap.size 9 i0 _ 1 16 Tryd.underlying23 hi hz0 hz1 hz2 rfl (by decide) _ _ _ rfl (hown.alloc _) ⟨wr.heap.size, 0, none⟩ 1 1 [.string (b.extract 0 60)] (by rfl) (by rfl) (fun j u hj => new_cells wr _ _ _ rfl j u hj) (one_cell rfl) (by unfold maxLen; omega) (by omega) (base_alloc hbw.size _) ?_)
          intro v' w' hown' hgrow _
          have hbw' : Below w.heap.size w w' := (hbw.alloc hbw.size _).grown hgrow (base_alloc hbw.size _) (fun k hk => (hown.lt k hk).1)
          have HO : Hid (w'.ownsRow w.heap.size 9 1 v' (k + 1) (strV ((L.take (k + 1)).map (·.take 60)))) := Lib.hid (by rw [HSN.out, List.map_take]; exact hown')
          clear hown' hown hgrow
          go_wp2
          go_roundw
          case rel => exact ⟨k + 1, by omega, by go_num, HO.out, hbw'⟩
          case measure => simp [intOf]; omega
        · have hst : st (x.take 60) = b := oc_inj (by rw [oc_st, hbx, List.take_of_length_le (by rw [← hbx, oc_len]; omega)])
          rw [hst] at HSN
          clear hx hb hbx hsn hst hxl
          go_wp2_with (at_builtin; refine wpList_append_own _ rfl (.tmp 26) (.tmp 28) 23 rfl w.heap.size 9 i0 _ 1 16 Tryd.underlying23 hi hz0 hz1 hz2 rfl (by decide) _ _ _ rfl (hown.alloc _) ⟨wr.heap.size, 0, none⟩ 1 1 [.string b] (by rfl) (by rfl) (fun j u hj => new_cells wr _ _ _ rfl j u hj) (one_cell rfl) (by unfold maxLen; omega) (by omega) (base_alloc hbw.size _) ?_)
          intro v' w' hown' hgrow _
          have hbw' : Below w.heap.size w w' := (hbw.alloc hbw.size _).grown hgrow (base_alloc hbw.size _) (fun k hk => (hown.lt k hk).1)
          have HO : Hid (w'.ownsRow w.heap.size 9 1 v' (k + 1) (strV ((L.take (k + 1)).map (·.take 60)))) := Lib.hid (by rw [HSN.out, List.map_take]; exact hown')
          clear hown' hown hgrow
          go_wp2
          go_roundw
          case rel => exact ⟨k + 1, by omega, by go_num, HO.out, hbw'⟩
          case measure => simp [intOf]; omega
      · obtain rfl : k = 10 := by omega
        have HO := Lib.hid (FIN.out _ _ hown)
        clear hown
        go_wp2
        go_ret
        exact ⟨⟨_, rfl, HO.out⟩, hbw⟩
  · obtain rfl : m = n := by omega
    have hm10 : m ≤ 10 := by omega
    clear hm
    go_enter Tryd.func15, Tryd.ntmps15
    go_wp2
    go_loopw [3, 4] (fun v i wr => ∃ k : Nat, k ≤ m ∧ i = .int .i64 k ∧ wr.ownsRow w.heap.size 9 1 v k (strV ((L.take k).map (·.take 60))) ∧ Below w.heap.size w wr) (fun _ i _ => m - (intOf i).toNat)
    case atStart => exact ⟨0, Nat.zero_le _, rfl, ⟨rfl, .inl ⟨rfl, rfl⟩⟩, Below.refl _ _⟩
    case round =>
      obtain ⟨k, hk, rfl, hown, hbw⟩ := hrel
      by_cases hlt : k < m
      · obtain ⟨g, o, x, rfl, hg, hx, hcell⟩ := str_at ((HR.out.below hbw).more hbw.size) hlt
        have hxl := HSZ.out x (List.mem_iff_getElem?.2 ⟨k, hx⟩)
        have hsn : strV ((L.take (k + 1)).map (·.take 60)) = strV ((L.take k).map (·.take 60)) ++ [.string (st (x.take 60))] := by
          rw [take_snoc L k x hx, List.map_append]; exact strV_snoc _ _
        have HSN := Lib.hid hsn
        obtain ⟨b, hb⟩ : ∃ b, st x = b := ⟨_, rfl⟩
        have hbx : oc b = x := by rw [← hb, oc_st]
        have hbs : b.size ≤ 9223372036854775807 := by rw [← oc_len, hbx]; exact hxl
        rw [hb] at hcell
        by_cases h60 : 60 < b.size
        · have hst : st (x.take 60) = b.extract 0 60 := oc_inj (by rw [oc_st, oc_head, hbx])
          rw [hst] at HSN
          clear hx hb hbx hsn hst hxl
          go_wp2_with (at_builtin; refine wpList_append_own _ rfl (.tmp 26) (.tmp 28) 23 rfl w.heap.size 9 i0 _ 1 16 Tryd.underlying23 hi hz0 hz1 hz2 rfl (by decide) _ _ _ rfl (hown.alloc _) ⟨wr.heap.size, 0, none⟩ 1 1 [.string (b.extract 0 60)] (by rfl) (by rfl) (fun j u hj => new_cells wr _ _ _ rfl j u hj) (one_cell rfl) (by unfold maxLen; omega) (by omega) (base_alloc hbw.size _) ?_)
          intro v' w' hown' hgrow _
          have hbw' : Below w.heap.size w w' := (hbw.alloc hbw.size _).grown hgrow (base_alloc hbw.size _) (fun k hk => (hown.lt k hk).1)
          have HO : Hid (w'.ownsRow w.heap.size 9 1 v' (k + 1) (strV ((L.take (k + 1)).map (·.take 60)))) := Lib.hid (by rw [HSN.out, List.map_take]; exact hown')
          clear hown' hown hgrow
          go_wp2
          go_roundw
          case rel => exact ⟨k + 1, by omega, by go_num, HO.out, hbw'⟩
          case measure => simp [intOf]; omega
        · have hst : st (x.take 60) = b := oc_inj (by rw [oc_st, hbx, List.take_of_length_le (by rw [← hbx, oc_len]; omega)])
          rw [hst] at HSN
          clear hx hb hbx hsn hst hxl
          go_wp2_with (at_builtin; refine wpList_append_own _ rfl (.tmp 26) (.tmp 28) 23 rfl w.heap.size 9 i0 _ 1 16 Tryd.underlying23 hi hz0 hz1 hz2 rfl (by decide) _ _ _ rfl (hown.alloc _) ⟨wr.heap.size, 0, none⟩ 1 1 [.string b] (by rfl) (by rfl) (fun j u hj => new_cells wr _ _ _ rfl j u hj) (one_cell rfl) (by unfold maxLen; omega) (by omega) (base_alloc hbw.size _) ?_)
          intro v' w' hown' hgrow _
          have hbw' : Below w.heap.size w w' := (hbw.alloc hbw.size _).grown hgrow (base_alloc hbw.size _) (fun k hk => (hown.lt k hk).1)
          have HO : Hid (w'.ownsRow w.heap.size 9 1 v' (k + 1) (strV ((L.take (k + 1)).map (·.take 60)))) := Lib.hid (by rw [HSN.out, List.map_take]; exact hown')
          clear hown' hown hgrow
          go_wp2
          go_roundw
          case rel => exact ⟨k + 1, by omega, by go_num, HO.out, hbw'⟩
          case measure => simp [intOf]; omega
      · obtain rfl : k = m := by omega
        have HO := Lib.hid (FIN.out _ _ hown)
        clear hown
        go_wp2
        go_ret
        exact ⟨⟨_, rfl, HO.out⟩, hbw⟩

/-! ### the path of names -/
theorem join1_any (s : ByteArray) (w : World) (hs : s.size ≤ 1000000) :
    Calls Tryd.prog 27 #[.string s] w fun e w' => e = .returned (.bool (!isName (oc s))) ∧ Below w.heap.size w w' := by
  have h := Is_any s w hs
  obtain ⟨b, hb⟩ : ∃ b, isName (oc s) = b := ⟨_, rfl⟩
  rw [hb] at h ⊢
  have H := Lib.hid h
  clear h hb
  go_enter Tryd.func27, Tryd.ntmps27
  go_wp2_with fail
  refine H.out.mono ?_
  rintro e w' ⟨rfl, hb⟩
  go_wp2
  go_ret
  exact ⟨rfl, hb⟩
theorem enters_join1 : ∀ args w, (callFunc 27 args).run Tryd.prog w = .ok (.enter 27 args) w := enters_of Tryd.func27 (by kernel_rfl) rfl

set_option maxHeartbeats 2000000 in
theorem findS_any (A : Option Addr) (n c : Nat) (l : List (List UInt8)) (w : World) (hx : Rd w w.heap.size 1 A n (strV l)) (hn : n ≤ 1000000) (hsz : ∀ x ∈ l, x.length ≤ 1000000) :
    Calls Tryd.prog 37 #[.slice A n c, .func (.func 27) #[] #[]] w fun e w' => (∃ z : Int, e = .returned (.int .i64 z) ∧ decide (0 ≤ z) = !(l.all isName)) ∧ Below w.heap.size w w' := by
  have eg := enters_join1
  have hlx := hx.1
  rw [strV_len, Nat.mul_one] at hlx
  have HX := Lib.hid hlx
  have HR := Lib.hid hx
  have HSZ := Lib.hid hsz
  clear hlx hx hsz
  go_enter Tryd.func37, Tryd.ntmps37
  go_wp2
  go_loopw [8] (fun i wr => ∃ k : Nat, k ≤ n ∧ i = .int .i64 k ∧ Hid ((l.take k).all isName = true) ∧ Below w.heap.size w wr) (fun i _ => n - (intOf i).toNat)
  case atStart => exact ⟨0, Nat.zero_le _, rfl, Lib.hid rfl, Below.refl _ _⟩
  case round =>
    obtain ⟨k, hk, rfl, HA, hbw⟩ := hrel
    by_cases hlt : k < n
    · obtain ⟨g, o, x, rfl, hg, hxk, cx⟩ := str_at ((HR.out.below hbw).more hbw.size) hlt
      have hxl := HSZ.out x (List.mem_iff_getElem?.2 ⟨k, hxk⟩)
      have HXK := Lib.hid hxk
      have h1 := join1_any (st x) wr (by rw [← oc_len, oc_st]; exact hxl)
      rw [oc_st] at h1
      clear hxk
      cases hok : isName x with
      | true =>
        rw [hok] at h1
        have HA2 : Hid ((l.take (k + 1)).all isName = true) := Lib.hid (by rw [take_snoc l k x HXK.out, List.all_append, HA.out]; simp [hok])
        have H1 := Lib.hid h1
        clear h1 hok
        go_wp2_with (go_at_call 27; refine H1.out.mono ?_; rintro e w' ⟨rfl, hb1⟩)
        go_roundw
        case rel => exact ⟨k + 1, by omega, by go_num, HA2, hbw.trans (hb1.mono hbw.size)⟩
        case measure => simp [intOf]; omega
      | false =>
        rw [hok] at h1
        have hres : l.all isName = false := by
          cases h : l.all isName with
          | false => rfl
          | true =>
            have := List.all_eq_true.1 h x (List.mem_of_getElem? HXK.out)
            rw [hok] at this; cases this
        have HRES := Lib.hid hres
        have H1 := Lib.hid h1
        clear h1 hok hres
        go_wp2_with (go_at_call 27; refine H1.out.mono ?_; rintro e w' ⟨rfl, hb1⟩)
        go_ret
        exact ⟨⟨k, rfl, by rw [HRES.out]; simp⟩, hbw.trans (hb1.mono hbw.size)⟩
    · have hres : l.all isName = true := by
        have := HA.out
        rwa [List.take_of_length_le (by rw [HX.out]; omega)] at this
      have HRES := Lib.hid hres
      clear hres
      go_wp2
      go_ret
      exact ⟨⟨-1, rfl, by rw [HRES.out]; rfl⟩, hbw⟩
theorem containsS_any (A : Option Addr) (n c : Nat) (l : List (List UInt8)) (w : World) (hx : Rd w w.heap.size 1 A n (strV l)) (hn : n ≤ 1000000) (hsz : ∀ x ∈ l, x.length ≤ 1000000) :
    Calls Tryd.prog 26 #[.slice A n c, .func (.func 27) #[] #[]] w fun e w' => e = .returned (.bool (!(l.all isName))) ∧ Below w.heap.size w w' := by
  have H := Lib.hid (findS_any A n c l w hx hn hsz)
  clear hx hsz
  go_enter Tryd.func26, Tryd.ntmps26
  go_wp2_with fail
  refine H.out.mono ?_
  rintro e w' ⟨⟨z, rfl, hz⟩, hb⟩
  have HZ := Lib.hid hz
  clear hz
  go_wp2
  go_ret
  exact ⟨ret_bool HZ.out, hb⟩
end Go.Proofs.YtofbgebgneinaaaDoor
