/-
  Walk: the nodes on the paths to blocks.
-/
import Derived.Test.YtmladfkafbjmoaaReachO
namespace Go.Proofs.Ytmladfkafbjmoaa
open Go.RowKit

def onZ (zs : List Int) : List Int := zs.flatMap fun x => onN x.toNat
theorem onZ_snoc (zs : List Int) (x : Int) : onZ (zs ++ [x]) = onZ zs ++ onN x.toNat := by simp [onZ]
theorem on_len3 (n : Nat) : (onN n).length ≤ 3 := by have := on_len n; have := path_len n; omega
theorem onZ_len : ∀ zs : List Int, (onZ zs).length ≤ 3 * zs.length
  | [] => by simp [onZ]
  | x :: t => by
    have h := onZ_len t
    have h1 := on_len3 x.toNat
    unfold onZ at h ⊢
    rw [List.flatMap_cons, List.length_append, List.length_cons]
    omega
def okB (x : Int) : Prop := 0 ≤ x ∧ x ≤ 3620

set_option maxHeartbeats 2000000 in
set_option maxRecDepth 100000 in
theorem Nodes_ok (A : Option Addr) (n c : Nat) (zs : List Int) (w : World) (hr : Rd w w.heap.size 1 A n (intsV zs)) (hn : n ≤ 1000) (hall : ∀ x ∈ zs, okB x) :
    Calls Try.prog 23 #[.slice A n c] w fun e w' => (∃ v, e = .returned (.tuple #[v, .int .i64 0]) ∧ OwnI w w' v (leanL (onZ zs))) ∧ Below w.heap.size w w' := by
  obtain ⟨i0, hi, hz0, hz1, hz2⟩ := info_parts Try.info3
  have hzl := hr.1
  rw [intsV_len, Nat.mul_one] at hzl
  have HZL := Lib.hid hzl
  have HALL := Lib.hid hall
  have HR := Lib.hid hr
  clear hr hall hzl
  go_enter Try.func23, Try.ntmps23
  go_wp2
  go_loopw [4, 11] (fun v i wr => ∃ k : Nat, k ≤ n ∧ i = .int .i64 k ∧ (∀ x ∈ zs.take k, okB x) ∧ wr.ownsRow w.heap.size 3 1 v (onZ (zs.take k)).length (intsV (onZ (zs.take k))) ∧ Below w.heap.size w wr) (fun _ i _ => n - (intOf i).toNat)
  case atStart => exact ⟨0, Nat.zero_le _, rfl, by simp, ⟨rfl, .inl ⟨rfl, rfl⟩⟩, Below.refl _ _⟩
  case round =>
    obtain ⟨k, hk, rfl, hoks, hown, hbw⟩ := hrel
    by_cases hlt : k < n
    · obtain ⟨g, o, x, rfl, hg, hx, hcell⟩ := int_at ((HR.out.below hbw).more hbw.size) hlt
      have hsn := take_snoc zs k x hx
      have hxo : okB x := HALL.out x (List.mem_iff_getElem?.2 ⟨k, hx⟩)
      have hoks2 : ∀ y ∈ zs.take (k + 1), okB y := by
        rw [hsn]; intro y hy
        rcases List.mem_append.1 hy with h | h
        · exact hoks y h
        · rw [List.mem_singleton.1 h]; exact hxo
      have hsn2 : onZ (zs.take (k + 1)) = onZ (zs.take k) ++ onN x.toNat := by rw [hsn, onZ_snoc]
      have hl1 := onZ_len (zs.take k)
      have hl1' : (zs.take k).length ≤ k := by rw [List.length_take]; omega
      have hl2 := on_len3 x.toNat
      have hOK := Lib.hid hoks2
      have HSN := Lib.hid hsn2
      obtain ⟨b, rfl⟩ := Int.eq_ofNat_of_zero_le hxo.1
      have hb : b < 3621 := by have := hxo.2; omega
      rw [Int.toNat_natCast] at HSN hl2
      obtain ⟨L, hL⟩ : ∃ L, onZ (zs.take k) = L := ⟨_, rfl⟩
      obtain ⟨M, hM⟩ : ∃ M, onN b = M := ⟨_, rfl⟩
      rw [hL] at HSN hown hl1
      rw [hM] at HSN hl2
      have HM := Lib.hid hM
      obtain ⟨p, hp⟩ : ∃ p, L.length = p := ⟨_, rfl⟩
      have hpb : p ≤ 3000 := by omega
      rw [hp] at hown
      have HP := Lib.hid hp
      clear hsn hsn2 hoks hoks2 hL hM hx hxo hl1 hp
      go_wp2_with fail
      refine (Path_rd b wr hb).mono ?_
      rintro e w1 ⟨⟨A1, c1, rfl, hc1, hr1⟩, h1⟩
      have HR1 := Lib.hid hr1
      have hown1 := own_later hown h1
      have hbw1 := hbw.trans (h1.mono hbw.size)
      obtain ⟨m1, hm1⟩ : ∃ m1, (toZ (pathN b)).length = m1 := ⟨_, rfl⟩
      rw [hm1] at HR1 hc1 ⊢
      have HM1 := Lib.hid (show m1 = (pathN b).length from by rw [← hm1, toZ_len])
      clear hr1 hown hm1
      go_wp2_with fail
      refine (on_any b A1 m1 c1 w1 hb HM1.out hc1 HR1.out).mono ?_
      rintro e w2 ⟨⟨v2, rfl, ho2⟩, h2⟩
      rw [HM.out] at ho2
      have hown2 := own_later hown1 h2
      have hbw2 := hbw1.trans (h2.mono hbw1.size)
      clear hown1
      go_wp2_with (at_builtin; refine wpList_append_rows rfl (.tmp 23) (.tmp 25) 25 rfl w.heap.size 3 i0 _ 1 8 Try.underlying25 hi hz0 hz1 hz2 rfl (by decide) _ _ _ rfl hown2 v2 M.length w1.heap.size (intsV M) (by rfl) ho2 (intsV_one M) (by unfold maxLen; omega) (by omega) hbw2.size ?_)
      intro v' w' hown' hb'
      have hbw' := hbw2.trans hb'
      have HO : Hid (w'.ownsRow w.heap.size 3 1 v' (onZ (zs.take (k + 1))).length (intsV (onZ (zs.take (k + 1))))) := Lib.hid (by
        rw [HSN.out, List.length_append, HP.out]
        unfold intsV at hown' ⊢
        rw [List.map_append]; exact hown')
      clear hown' hown2 ho2
      go_wp2
      go_roundw
      case rel => exact ⟨k + 1, by omega, by go_num, hOK.out, HO.out, hbw'⟩
      case measure => simp [intOf]; omega
    · obtain rfl : k = n := by omega
      rw [List.take_of_length_le (by rw [HZL.out]; exact Nat.le_refl _)] at hown
      have hl1 := onZ_len zs
      rw [HZL.out] at hl1
      have HO := Lib.hid hown
      clear hown hoks
      go_wp2_with fail
      refine (Sort_own w.heap.size _ _ _ wr HO.out (by omega) hbw.size).mono ?_
      rintro e w1 ⟨rfl, ho1, h1⟩
      have hbw1 := hbw.trans h1
      have HO1 := Lib.hid ho1
      clear ho1
      go_wp2_with fail
      refine (Compact_own w.heap.size _ _ _ w1 HO1.out (by omega)).mono ?_
      rintro e w2 ⟨⟨v2, rfl, ho2⟩, h2⟩
      have hbw2 := hbw1.trans h2
      have HO2 := Lib.hid ho2
      clear ho2
      go_wp2
      go_ret2
      exact ⟨⟨v2, rfl, HO2.out⟩, hbw2⟩
set_option maxHeartbeats 2000000 in
set_option maxRecDepth 100000 in
theorem Nodes_bad (A : Option Addr) (n c : Nat) (zs : List Int) (w : World) (hr : Rd w w.heap.size 1 A n (intsV zs)) (hn : n ≤ 1000) (hall : ¬ ∀ x ∈ zs, okB x) :
    Calls Try.prog 23 #[.slice A n c] w fun e w' => e = .returned (.tuple #[.slice none 0 0, .int .i64 4]) ∧ Below w.heap.size w w' := by
  obtain ⟨i0, hi, hz0, hz1, hz2⟩ := info_parts Try.info3
  have hzl := hr.1
  rw [intsV_len, Nat.mul_one] at hzl
  have HZL := Lib.hid hzl
  have HALL := Lib.hid hall
  have HR := Lib.hid hr
  clear hr hall hzl
  go_enter Try.func23, Try.ntmps23
  go_wp2
  go_loopw [4, 11] (fun v i wr => ∃ k : Nat, k ≤ n ∧ i = .int .i64 k ∧ (∀ x ∈ zs.take k, okB x) ∧ wr.ownsRow w.heap.size 3 1 v (onZ (zs.take k)).length (intsV (onZ (zs.take k))) ∧ Below w.heap.size w wr) (fun _ i _ => n - (intOf i).toNat)
  case atStart => exact ⟨0, Nat.zero_le _, rfl, by simp, ⟨rfl, .inl ⟨rfl, rfl⟩⟩, Below.refl _ _⟩
  case round =>
    obtain ⟨k, hk, rfl, hoks, hown, hbw⟩ := hrel
    by_cases hlt : k < n
    · obtain ⟨g, o, x, rfl, hg, hx, hcell⟩ := int_at ((HR.out.below hbw).more hbw.size) hlt
      have hsn := take_snoc zs k x hx
      by_cases hbad : ¬ okB x
      · have hb2 : x < 0 ∨ 3620 < x := by unfold okB at hbad; omega
        clear hown hoks hx hsn
        go_wp2_with fail
        refine (Path_bad x wr hb2).mono ?_
        rintro e w1 ⟨rfl, rfl⟩
        go_wp2
        go_ret2
        exact ⟨rfl, hbw⟩
      have hxo : okB x := Classical.not_not.1 hbad
      have hoks2 : ∀ y ∈ zs.take (k + 1), okB y := by
        rw [hsn]; intro y hy
        rcases List.mem_append.1 hy with h | h
        · exact hoks y h
        · rw [List.mem_singleton.1 h]; exact hxo
      have hsn2 : onZ (zs.take (k + 1)) = onZ (zs.take k) ++ onN x.toNat := by rw [hsn, onZ_snoc]
      have hl1 := onZ_len (zs.take k)
      have hl1' : (zs.take k).length ≤ k := by rw [List.length_take]; omega
      have hl2 := on_len3 x.toNat
      have hOK := Lib.hid hoks2
      have HSN := Lib.hid hsn2
      obtain ⟨b, rfl⟩ := Int.eq_ofNat_of_zero_le hxo.1
      have hb : b < 3621 := by have := hxo.2; omega
      rw [Int.toNat_natCast] at HSN hl2
      obtain ⟨L, hL⟩ : ∃ L, onZ (zs.take k) = L := ⟨_, rfl⟩
      obtain ⟨M, hM⟩ : ∃ M, onN b = M := ⟨_, rfl⟩
      rw [hL] at HSN hown hl1
      rw [hM] at HSN hl2
      have HM := Lib.hid hM
      obtain ⟨p, hp⟩ : ∃ p, L.length = p := ⟨_, rfl⟩
      have hpb : p ≤ 3000 := by omega
      rw [hp] at hown
      have HP := Lib.hid hp
      clear hsn hsn2 hoks hoks2 hL hM hx hxo hl1 hp
      go_wp2_with fail
      refine (Path_rd b wr hb).mono ?_
      rintro e w1 ⟨⟨A1, c1, rfl, hc1, hr1⟩, h1⟩
      have HR1 := Lib.hid hr1
      have hown1 := own_later hown h1
      have hbw1 := hbw.trans (h1.mono hbw.size)
      obtain ⟨m1, hm1⟩ : ∃ m1, (toZ (pathN b)).length = m1 := ⟨_, rfl⟩
      rw [hm1] at HR1 hc1 ⊢
      have HM1 := Lib.hid (show m1 = (pathN b).length from by rw [← hm1, toZ_len])
      clear hr1 hown hm1
      go_wp2_with fail
      refine (on_any b A1 m1 c1 w1 hb HM1.out hc1 HR1.out).mono ?_
      rintro e w2 ⟨⟨v2, rfl, ho2⟩, h2⟩
      rw [HM.out] at ho2
      have hown2 := own_later hown1 h2
      have hbw2 := hbw1.trans (h2.mono hbw1.size)
      clear hown1
      go_wp2_with (at_builtin; refine wpList_append_rows rfl (.tmp 23) (.tmp 25) 25 rfl w.heap.size 3 i0 _ 1 8 Try.underlying25 hi hz0 hz1 hz2 rfl (by decide) _ _ _ rfl hown2 v2 M.length w1.heap.size (intsV M) (by rfl) ho2 (intsV_one M) (by unfold maxLen; omega) (by omega) hbw2.size ?_)
      intro v' w' hown' hb'
      have hbw' := hbw2.trans hb'
      have HO : Hid (w'.ownsRow w.heap.size 3 1 v' (onZ (zs.take (k + 1))).length (intsV (onZ (zs.take (k + 1))))) := Lib.hid (by
        rw [HSN.out, List.length_append, HP.out]
        unfold intsV at hown' ⊢
        rw [List.map_append]; exact hown')
      clear hown' hown2 ho2
      go_wp2
      go_roundw
      case rel => exact ⟨k + 1, by omega, by go_num, hOK.out, HO.out, hbw'⟩
      case measure => simp [intOf]; omega
    · obtain rfl : k = n := by omega
      rw [List.take_of_length_le (by rw [HZL.out]; exact Nat.le_refl _)] at hoks
      exact absurd hoks HALL.out
end Go.Proofs.Ytmladfkafbjmoaa
