/-
  Walk: the document's reading of octets of entries.
-/
import Derived.Test.YtpjghildhhpeeaaEntryO
namespace Go.Proofs.Ytpjghildhhpeeaa
open Go.RowKit
set_option linter.unusedVariables false

def optE (o : Option (List Ent)) : List Ent := o.getD []
theorem below_drewQ {B : Nat} {a w : World} (h : Below B a w) : Below B a w.drew := ⟨h.os, h.tape, h.output, h.size, h.block⟩
theorem headE_len (s : List UInt8) : (headE s).1.length ≤ 255 := by
  have := bt_lt s 2
  show ((s.drop 3).take (bt s 2)).length ≤ 255
  rw [List.length_take]; omega

set_option maxHeartbeats 4000000 in
set_option maxRecDepth 100000 in
theorem rDecode_any (s : ByteArray) (w : World) (hs : s.size ≤ 900) :
    Calls Try.prog 20 #[.string s] w fun e w' => (∃ v, e = .returned (.tuple #[v, .bool (readE (oc s)).isSome]) ∧ w'.ownsRow w.heap.size 24 3 v (optE (readE (oc s))).length (rowE (optE (readE (oc s))))) ∧ Below w.heap.size w w' := by
  obtain ⟨i0, hi, hz0, hz1, hz2⟩ := info_parts Try.info24
  obtain ⟨L, hL⟩ : ∃ L, oc s = L := ⟨_, rfl⟩
  have hLl : L.length = s.size := by rw [← hL, oc_len]
  have hbt : ∀ (k : Nat) (h : k < s.size), (s[k]'h).toNat = bt L k := fun k h => by rw [← hL]; exact byte_oc s k h
  have hex : ∀ (a b : Nat), s.extract a b = st ((L.drop a).take (b - a)) := fun a b => oc_inj (by rw [oc_extract, oc_st, hL, List.drop_take])
  rw [hL]
  have HLl := Lib.hid hLl
  have HBT := Lib.hid hbt
  have HEX := Lib.hid hex
  have hnone : parseE L = none → readE L = none := fun h => by unfold readE; rw [h]
  have HNO := Lib.hid hnone
  clear hL hLl hbt hex hnone
  go_enter Try.func20, Try.ntmps20
  go_wp2
  go_loopw [4, 5] (fun v i wr => ∃ (k : Nat) (out : List Ent), k ≤ s.size ∧ i = .int .i64 k ∧ Hid (parseE L = (parseE (L.drop k)).map (out ++ ·)) ∧ (Hid (∀ x ∈ out, x.1.length ≤ 255)) ∧ out.length ≤ k ∧ wr.ownsRow w.heap.size 24 3 v out.length (rowE out) ∧ Below w.heap.size w wr) (fun _ i _ => s.size - (intOf i).toNat)
  case atStart => exact ⟨0, [], Nat.zero_le _, rfl, Lib.hid (by rw [List.drop_zero]; cases parseE L <;> rfl), Lib.hid (by simp), Nat.zero_le _, ⟨rfl, .inl ⟨rfl, rfl⟩⟩, Below.refl _ _⟩
  case round =>
    obtain ⟨k, out, hk, rfl, HP, HX, hol, hown, hbw⟩ := hrel
    by_cases hlt : k < s.size
    · have i0' : (0 : Int) ≤ (k : Int) := Int.natCast_nonneg _
      have i1 : (k : Int) < (s.size : Int) := by omega
      have hne : L.drop k ≠ [] := fun h => by
        have h2 := congrArg List.length h
        rw [List.length_drop, HLl.out] at h2
        simp at h2; omega
      have hdl : (L.drop k).length = s.size - k := by rw [List.length_drop, HLl.out]
      by_cases h3 : s.size < k + 3
      · have hno : readE L = none := HNO.out (by rw [HP.out, short_none _ hne (by omega)]; rfl)
        have hd3 : decide ((s.size : Int) < (k : Int) + 3) = true := decide_eq_true (by omega)
        have HO := Lib.hid hno
        clear hno hne hdl
        go_wp2
        go_ret2
        rw [HO.out]
        exact ⟨⟨_, rfl, rfl, .inl ⟨rfl, rfl⟩⟩, hbw⟩
      · have hd3 : decide ((s.size : Int) < (k : Int) + 3) = false := decide_eq_false (by omega)
        have hstep := parseE_step _ hne
        rw [hdl, bt_drop] at hstep
        have e0 := HBT.out k hlt
        have e1 := HBT.out (k + 1) (by omega)
        have e2 := HBT.out (k + 2) (by omega)
        have q0 := bt_lt L k
        have q1 := bt_lt L (k + 1)
        have q2 := bt_lt L (k + 2)
        have hhd : headE (L.drop k) = (((L.drop (k + 3)).take (bt L (k + 2))), (bt L k : Int), (bt L (k + 1) : Int)) := by
          unfold headE
          rw [bt_drop, bt_drop, bt_drop, List.drop_drop]; rfl
        have hhl := headE_len (L.drop k)
        rw [hhd] at hhl hstep
        rw [List.drop_drop] at hstep
        generalize hx0 : bt L k = x0 at *
        generalize hx1 : bt L (k + 1) = x1 at *
        generalize hx2 : bt L (k + 2) = x2 at *
        clear hne hdl hhd hx0 hx1 hx2
        by_cases h4 : s.size < k + 3 + x2
        · have hno : readE L = none := HNO.out (by rw [HP.out, hstep, if_pos (by omega)]; rfl)
          have hd4 : decide ((s.size : Int) < (k : Int) + 3 + (x2 : Int)) = true := decide_eq_true (by omega)
          have HO := Lib.hid hno
          clear hno hstep
          go_wp2
          go_ret2
          rw [HO.out]
          exact ⟨⟨_, rfl, rfl, .inl ⟨rfl, rfl⟩⟩, hbw⟩
        · have hd4 : decide ((s.size : Int) < (k : Int) + 3 + (x2 : Int)) = false := decide_eq_false (by omega)
          rw [if_neg (by omega)] at hstep
          have HO := Lib.hid hown
          have HST := Lib.hid hstep
          have HHL := Lib.hid hhl
          obtain ⟨p, hp⟩ : ∃ p, k + 3 = p := ⟨_, rfl⟩
          obtain ⟨q, hq⟩ : ∃ q, p + x2 = q := ⟨_, rfl⟩
          have hw3 : IntKind.i64.wrap ((k : Int) + 3) = (p : Int) := by rw [IntWalk.i64_in _ ⟨by omega, by omega⟩]; omega
          have hwq : IntKind.i64.wrap ((p : Int) + (x2 : Int)) = (q : Int) := by rw [IntWalk.i64_in _ ⟨by omega, by omega⟩]; omega
          have hw1 : IntKind.i64.wrap ((k : Int) + 1) = (k : Int) + 1 := IntWalk.i64_in _ ⟨by omega, by omega⟩
          have hwa : IntKind.i64.wrap (x0 : Int) = (x0 : Int) := IntWalk.i64_in _ ⟨by omega, by omega⟩
          have hwb : IntKind.i64.wrap (x1 : Int) = (x1 : Int) := IntWalk.i64_in _ ⟨by omega, by omega⟩
          have i2 : (k : Int) + 1 < (s.size : Int) := by omega
          have i2' : (0 : Int) ≤ (k : Int) + 1 := by omega
          have t1 : ((k : Int) + 1).toNat = k + 1 := by omega
          have i3 : (p : Int) ≤ (q : Int) := by omega
          have i3' : (0 : Int) ≤ (p : Int) := by omega
          have i4 : (q : Int) ≤ (s.size : Int) := by omega
          have hsl : s.extract p q = st ((L.drop (k + 3)).take x2) := by rw [HEX.out, ← hq, ← hp]; congr 2; omega
          obtain ⟨s2, hs2⟩ : ∃ s2, st ((L.drop (k + 3)).take x2) = s2 := ⟨_, rfl⟩
          rw [hs2] at hsl
          have HS2 := Lib.hid hs2
          have hbsz := hbw.size
          clear hown hstep hhl hs2
          go_wp2
          go_region_held3 (fun _ => True) (trivial)
            ((refine step_append_lies _ (by rfl) (.tmp 34) (.tmp 53) 22 (by rfl) w.heap.size 24 i0 _ 3 32 Try.underlying22 hi hz0 hz1 hz2 rfl (by omega) u4 out.length (rowE out) (by rfl) ((HO.out.alloc _).drew) ⟨wr.heap.size, 0, none⟩ 1 1 [.string s2, .int .i64 x0, .int .i64 x1] (by rfl) (by rfl) (World.news_of_block (cs := #[.string s2, .int .i64 x0, .int .i64 x1]) (t := 24) (fr := (0, 0)) (heap_alloc_new wr _)) (by intro u hu; simp at hu; rcases hu with rfl | rfl | rfl <;> rfl) (by omega) (by unfold maxLen; omega) (by omega) (by simp; omega) (wr.heap.size + 1) (by simp) ?_; intro gA capA wA hownA hgrowA hatA hltA))
          all_goals
            have hb0 : Below w.heap.size w (wr.alloc (.cells #[.string s2, .int .i64 x0, .int .i64 x1] 24)).drew := below_drewQ (hbw.alloc hbw.size _)
            have hbA : Below w.heap.size w wA := hb0.grown hgrowA hb0.size (fun k hk => (HO.out.lt k hk).1)
            have HOA : Hid (wA.ownsRow w.heap.size 24 3 (.slice (some ⟨gA, 0, none⟩) (out.length + 1) capA) (out ++ [((L.drop (k + 3)).take x2, (x0 : Int), (x1 : Int))]).length (rowE (out ++ [((L.drop (k + 3)).take x2, (x0 : Int), (x1 : Int))]))) := Lib.hid (by
              rw [List.length_append]
              show wA.ownsRow _ _ _ _ _ (rowV fE _)
              rw [rowV_snoc]
              show wA.ownsRow _ _ _ _ _ (rowV fE _ ++ [.string (st ((L.drop (k + 3)).take x2)), .int .i64 x0, .int .i64 x1])
              rw [HS2.out]
              exact hownA)
            have hP2 : parseE L = (parseE (L.drop (k + (3 + x2)))).map ((out ++ [((L.drop (k + 3)).take x2, (x0 : Int), (x1 : Int))]) ++ ·) := by
              rw [HP.out, HST.out, Option.map_map]
              congr 1
              funext z
              simp
            have HP2 := Lib.hid hP2
            have hX2 : ∀ x ∈ out ++ [((L.drop (k + 3)).take x2, (x0 : Int), (x1 : Int))], x.1.length ≤ 255 := fun x hx => by
              rcases List.mem_append.1 hx with h | h
              · exact HX.out x h
              · obtain rfl := List.mem_singleton.1 h
                exact HHL.out
            have HX2 := Lib.hid hX2
            have hnl : (out ++ [((L.drop (k + 3)).take x2, (x0 : Int), (x1 : Int))]).length ≤ k + (3 + x2) := by rw [List.length_append]; simp; omega
            have hw5 : IntKind.i64.wrap (3 + (x2 : Int)) = 3 + (x2 : Int) := IntWalk.i64_in _ ⟨by omega, by omega⟩
            have hw6 : IntKind.i64.wrap ((k : Int) + (3 + (x2 : Int))) = (k : Int) + (3 + (x2 : Int)) := IntWalk.i64_in _ ⟨by omega, by omega⟩
            clear hownA hgrowA hatA hP2 hX2
            go_wp2
            go_roundw
            case rel => exact ⟨k + (3 + x2), _, by omega, by go_num, HP2, HX2, hnl, HOA.out, hbA⟩
            case measure => simp [intOf]; omega
    · obtain rfl : k = s.size := by omega
      have hno : parseE L = some out := by rw [HP.out, List.drop_of_length_le (by rw [HLl.out]; exact Nat.le_refl _), parseE_nil]; simp
      obtain ⟨A, cap, rfl, hn1, hm1, r⟩ := own_form hown
      have hM := rMay_any A out.length cap out wr r (by omega) (fun x hx => Nat.le_trans (HX.out x hx) (by omega))
      have HM := Lib.hid hM
      clear hM
      by_cases hml : mayL out = true
      · have hrd : readE L = some out := by unfold readE; rw [hno]; simp [hml]
        have HRD := Lib.hid hrd
        have HML := Lib.hid hml
        have HO := Lib.hid hown
        clear hrd hno hown r
        go_wp2_with fail
        refine HM.out.mono ?_
        rintro e w2 ⟨rfl, h2⟩
        rw [HML.out]
        have hb2 := hbw.trans (h2.mono hbw.size)
        have HO2 := Lib.hid (own_below HO.out h2 (fun k hk => (HO.out.lt k hk).2))
        go_wp2
        go_ret2
        rw [HRD.out]
        exact ⟨⟨_, rfl, HO2.out⟩, hb2⟩
      · have hmf : mayL out = false := by simpa using hml
        have hrd : readE L = none := by unfold readE; rw [hno]; simp [hmf]
        have HRD := Lib.hid hrd
        have HML := Lib.hid hmf
        clear hrd hno hown r hml hmf
        go_wp2_with fail
        refine HM.out.mono ?_
        rintro e w2 ⟨rfl, h2⟩
        rw [HML.out]
        have hb2 := hbw.trans (h2.mono hbw.size)
        go_wp2
        go_ret2
        rw [HRD.out]
        exact ⟨⟨_, rfl, rfl, .inl ⟨rfl, rfl⟩⟩, hb2⟩
end Go.Proofs.Ytpjghildhhpeeaa
