/-
  Walk: the law EntryOrder.
-/
import Derived.Test.YtpjghildhhpeeaaEntryM
namespace Go.Proofs.Ytpjghildhhpeeaa
open Go.RowKit
set_option linter.unusedVariables false

theorem few_len33 (l : List Ent) : (fewE l).length ≤ 33 := few_len l
theorem allE_names (L : List Ent) (k : Nat) : ∀ x ∈ allE (L.take k), x.1.length ≤ 1000000 := by
  intro x hx
  have := (okE_bounds x ((allE_good L k).1.1 x hx)).2.1
  omega

set_option maxHeartbeats 16000000 in
set_option maxRecDepth 100000 in
theorem order_law (A : Option Addr) (n c t : Nat) (l : List Ent) (w : World) (hr : Rd w w.heap.size 3 A n (rowE l)) (hn : n ≤ c) (hc : c ≤ maxLen) (hsz : ∀ x ∈ l, x.1.length ≤ 9223372036854775807) (ht : t ≤ 255) :
    Calls Try.prog 5 #[.slice A n c, .int .u8 t] w fun e w' => e = .returned (.bool true) ∧ Below w.heap.size w w' := by
  obtain ⟨L, hL⟩ : ∃ L, fewE l = L := ⟨_, rfl⟩
  have hF1 := Few_any A n c l w hr hn hc hsz
  rw [hL] at hF1
  obtain ⟨m, hm⟩ : ∃ m, L.length = m := ⟨_, rfl⟩
  have hLn : m ≤ 33 := by rw [← hm, ← hL]; exact few_len l
  have HLS := Lib.hid (show ∀ y ∈ L, y.1.length ≤ 1000000 by rw [← hL]; exact few_names l)
  have HF1 := Lib.hid hF1
  have HM := Lib.hid hm
  clear hF1 hr hsz hL hm
  go_enter Try.func5, Try.ntmps5
  go_wp2_with fail
  refine HF1.out.mono ?_
  rintro e w1 ⟨⟨v1, rfl, o1⟩, b1⟩
  unfold OwnE at o1
  rw [HM.out] at o1
  obtain ⟨A1, c1, rfl, hn1, hm1, r1⟩ := own_form o1
  have R1 := Lib.hid r1
  clear o1 r1
  go_wp2
  go_loopw [5, 7] (fun v i wr => ∃ k : Nat, k ≤ m ∧ i = .int .i64 k ∧ wr.ownsRow w.heap.size 24 3 v (allE (L.take k)).length (rowE (allE (L.take k))) ∧ Below w1.heap.size w1 wr) (fun _ i _ => m - (intOf i).toNat)
  case atStart => exact ⟨0, Nat.zero_le _, rfl, ⟨rfl, .inl ⟨rfl, rfl⟩⟩, Below.refl _ _⟩
  case round =>
    obtain ⟨k, hk, rfl, hown, dw⟩ := hrel
    have hbw := b1.trans (dw.mono b1.size)
    by_cases hlt : k < m
    · obtain ⟨g, o, y, hA1, hg, hy, c0, c1', c2⟩ := ent_at (R1.out.below dw) hlt
      subst hA1
      have hys := HLS.out y (List.mem_iff_getElem?.2 ⟨k, hy⟩)
      have hsn := allE_snoc L k y hy
      have hgood := allE_good L k
      have hnames := allE_names L k
      obtain ⟨Q, hQ⟩ : ∃ Q, allE (L.take k) = Q := ⟨_, rfl⟩
      rw [hQ] at hsn hown hgood hnames
      obtain ⟨p, hp⟩ : ∃ p, Q.length = p := ⟨_, rfl⟩
      rw [hp] at hown hgood
      have hp30 := hgood.2.1
      obtain ⟨Aq, cq, rfl, hnq, hmq, rq⟩ := own_form hown
      have hnilq := own_nil_or hown
      have hadd := Add_any Aq p cq Q y wr rq (by omega) hnq hnilq hnames hys
      have hVV : vE y = .agg #[.string (st y.1), .int .i64 y.2.1, .int .i64 y.2.2] := rfl
      rw [hVV] at hadd
      obtain ⟨ea, hea⟩ : ∃ ea, (addE Q y).2 = ea := ⟨_, rfl⟩
      obtain ⟨LA, hLA⟩ : ∃ LA, (addE Q y).1 = LA := ⟨_, rfl⟩
      rw [hea, hLA] at hadd hsn
      have HAD := Lib.hid hadd
      have HOW := Lib.hid hown
      have HQ := Lib.hid hQ
      have HP := Lib.hid hp
      have HSN := Lib.hid hsn
      clear hadd hown hQ hp hsn hea hLA hVV hy hys hnames hgood hnilq rq
      by_cases h0 : ea = 0
      · subst h0
        have HS2 := Lib.hid (show allE (L.take (k + 1)) = LA by rw [HSN.out, if_pos rfl])
        go_wp2_with fail
        refine HAD.out.mono ?_
        rintro e w2 ⟨⟨v2, rfl, o2⟩, h2⟩
        have HO : Hid (w2.ownsRow w.heap.size 24 3 v2 (allE (L.take (k + 1))).length (rowE (allE (L.take (k + 1))))) := Lib.hid (by rw [HS2.out]; exact own_base o2 hbw.size)
        have dw2 := dw.trans (h2.mono dw.size)
        clear o2
        go_wp2
        go_roundw
        case rel => exact ⟨k + 1, by omega, by go_num, HO.out, dw2⟩
        case measure => simp [intOf]; omega
      · have hne : (ea == 0) = false := beq_false_of_ne h0
        have HS2 := Lib.hid (show allE (L.take (k + 1)) = Q by rw [HSN.out, if_neg h0])
        clear h0
        go_wp2_with fail
        refine HAD.out.mono ?_
        rintro e w2 ⟨⟨v2, rfl, o2⟩, h2⟩
        have HO : Hid (w2.ownsRow w.heap.size 24 3 (.slice Aq p cq) (allE (L.take (k + 1))).length (rowE (allE (L.take (k + 1))))) := Lib.hid (by rw [HS2.out, HP.out]; exact own_later HOW.out h2)
        have dw2 := dw.trans (h2.mono dw.size)
        clear o2
        go_wp2
        go_roundw
        case rel => exact ⟨k + 1, by omega, by go_num, HO.out, dw2⟩
        case measure => simp [intOf]; omega
    · obtain rfl : k = m := by omega
      have hgood := allE_good L k
      have hnames := allE_names L k
      obtain ⟨Q, hQ⟩ : ∃ Q, allE (L.take k) = Q := ⟨_, rfl⟩
      rw [hQ] at hown hgood hnames
      obtain ⟨N, hN⟩ : ∃ N, Q.length = N := ⟨_, rfl⟩
      rw [hN] at hown hgood
      have hN30 := hgood.2.1
      obtain ⟨Aq, cq, rfl, hnq, hmq, rq⟩ := own_form hown
      have HG := Lib.hid hgood.1
      have HNM := Lib.hid hnames
      have HN := Lib.hid hN
      have RQ := Lib.hid rq
      obtain ⟨wo, rfl⟩ : ∃ wo : World, wo = wr := ⟨_, rfl⟩
      clear hown hQ hN hgood hnames rq
      go_wp2
      go_loopw [6, 10] (fun v i wr => ∃ (k : Nat) (B : List Ent), k ≤ N ∧ i = .int .i64 k ∧ Hid (Rot Q t k B) ∧ wr.ownsRow w.heap.size 24 3 v k (rowE B) ∧ Below wo.heap.size wo wr) (fun _ i _ => N - (intOf i).toNat)
      case atStart => exact ⟨0, [], Nat.zero_le _, rfl, Lib.hid (rot_zero Q t), ⟨rfl, .inl ⟨rfl, rfl⟩⟩, Below.refl _ _⟩
      case round =>
        obtain ⟨i, B, hi1, rfl, HROT, hownB, dwo⟩ := hrel
        have hbo := hbw.trans (dwo.mono hbw.size)
        by_cases hlt2 : i < N
        · obtain ⟨j, hj⟩ : ∃ j, (i + t) % N = j := ⟨_, rfl⟩
          have hjN : j < N := by rw [← hj]; exact Nat.mod_lt _ (by omega)
          have hmod : ((i : Int) + (t : Int)) % (N : Int) = (j : Int) := by rw [← hj]; push_cast; rfl
          obtain ⟨g, o, y, hAq, hg, hy, c0, c1', c2⟩ := ent_at (RQ.out.below dwo) hjN
          subst hAq
          have hst := rot_step Q t i B y HG.out (by rw [HN.out]; exact hN30) HROT.out (by rw [HN.out]; exact hlt2) (by rw [HN.out, hj]; exact hy)
          have hys := HNM.out y (List.mem_iff_getElem?.2 ⟨j, hy⟩)
          have hBn : ∀ x ∈ B, x.1.length ≤ 1000000 := fun x hx => by
            have := (okE_bounds x (HROT.out.1.1 x hx)).2.1
            omega
          obtain ⟨Ab, cb, rfl, hnb, hmb, rb⟩ := own_form hownB
          have hnilb := own_nil_or hownB
          have hadd := Add_any Ab i cb B y wr rb (by omega) hnb hnilb hBn hys
          have hVV : vE y = .agg #[.string (st y.1), .int .i64 y.2.1, .int .i64 y.2.2] := rfl
          rw [hVV, hst.1] at hadd
          have HAD := Lib.hid hadd
          have HR2 := Lib.hid hst.2
          have HI2 := Lib.hid (show (insE B y).length = i + 1 from hst.2.2.1)
          have hz : (0 : Int) ≤ (i : Int) + (t : Int) := by omega
          clear hadd hst hys hBn hVV hy hj hnilb rb hownB
          go_wp2_with fail
          refine HAD.out.mono ?_
          rintro e w2 ⟨⟨v2, rfl, o2⟩, h2⟩
          unfold OwnE at o2
          rw [HI2.out] at o2
          have HO := Lib.hid (own_base o2 hbo.size)
          have dw2 := dwo.trans (h2.mono dwo.size)
          clear o2
          go_wp2
          go_roundw
          case rel => exact ⟨i + 1, insE B y, by omega, by go_num, HR2, HO.out, dw2⟩
          case measure => simp [intOf]; omega
        · obtain rfl : i = N := by omega
          have hBQ : B = Q := rot_done Q t B HG.out (by rw [HN.out]; exact HROT.out)
          subst hBQ
          obtain ⟨Ab, cb, rfl, hnb, hmb, rb⟩ := own_form hownB
          have hmayQ : mayL B = true := (mayL_iff B).2 ⟨HG.out, by rw [HN.out]; exact hN30⟩
          have hcodeQ : codeE B = (encE B, 0) := by unfold codeE; rw [if_pos hmayQ]
          have hE1 := Encode_any Aq i cq B wr ((RQ.out.below dwo).more dwo.size) (by omega) HNM.out
          rw [hcodeQ] at hE1
          have hE2 : ∀ W, Below w1.heap.size w1 W → Calls Try.prog 18 #[.slice A1 k c1] W fun e w' => (∃ v, e = .returned (.tuple #[v, .int .i64 (codeE L).2]) ∧ w'.ownsRow W.heap.size 5 1 v (codeE L).1.length (octV (codeE L).1)) ∧ Below W.heap.size W w' := fun W h => Encode_any A1 k c1 L W ((R1.out.below h).more h.size) (by omega) HLS.out
          have hcase : (mayL L = false ∧ codeE L = ([], 1)) ∨ (codeE L = (encE L, 0) ∧ decide (encE B = encE L) = decide (B = L)) := by
            cases h : mayL L with
            | false => exact .inl ⟨rfl, by unfold codeE; rw [if_neg (by rw [h]; simp)]⟩
            | true => exact .inr ⟨by unfold codeE; rw [if_pos h], by rw [Bool.eq_iff_iff]; simp only [decide_eq_true_eq]; exact enc_inj B L hmayQ h⟩
          have d1 : Below w1.heap.size w1 wr := dw.trans (dwo.mono dw.size)
          have RB := Lib.hid rb
          have HE1 := Lib.hid hE1
          have HE2 := Lib.hid hE2
          have HCS := Lib.hid hcase
          clear hE1 hE2 hcase hmayQ hcodeQ hownB rb
          go_wp2_with fail
          refine HE1.out.mono ?_
          rintro e w2 ⟨⟨v2, rfl, o2⟩, h2⟩
          have o2' : w2.ownsRow wr.heap.size 5 1 v2 (encE B).length (octV (encE B)) := o2
          obtain ⟨As, cs, rfl, _, _, rs⟩ := own_form o2'
          have d2 := d1.trans (h2.mono d1.size)
          clear o2 o2'
          have RS := Lib.hid rs
          clear rs
          go_wp2_with fail
          refine (HE2.out _ d2).mono ?_
          rintro e w3 ⟨⟨v3, rfl, o3⟩, h3⟩
          have d3 := d2.trans (h3.mono d2.size)
          have b3 := b1.trans (d3.mono b1.size)
          have RQ3 := Lib.hid ((((RQ.out.below dwo).below (h2.mono dwo.size)).below (h3.mono (Nat.le_trans dwo.size h2.size))).more (Nat.le_trans dwo.size (Nat.le_trans h2.size h3.size)))
          have RB3 := Lib.hid (((RB.out.below h2).below (h3.mono h2.size)).more (Nat.le_trans h2.size h3.size))
          have R13 := Lib.hid ((R1.out.below d3).more d3.size)
          have RS3 := Lib.hid ((RS.out.below h3).more h3.size)
          obtain ⟨sa, hsa⟩ : ∃ sa : ByteArray, (⟨(encE B).toArray⟩ : ByteArray) = sa := ⟨_, rfl⟩
          have hcs : ∀ z : Later w3, (convert 42 9 (.slice As (encE B).length cs)).run Try.prog z.x = .ok (.string sa) z.x := fun z => by
            rw [← hsa]
            exact conv_bytes z.x 42 9 5 Try.underlying42 Try.underlying5 Try.underlying9 (RS3.out.below z.h)
          have hne := later_ne w3
          have hSab : ∀ z : Later w3, Calls Try.prog 15 #[.slice Aq i cq, .slice Ab i cb] z.x fun e w' => e = .returned (.bool true) ∧ Below z.x.heap.size z.x w' := fun z => by
            have := rSame_any Aq Ab i cq i cb B B z.x ((RQ3.out.below z.h).more z.h.size) ((RB3.out.below z.h).more z.h.size) (by omega) (by omega)
            rw [decide_eq_true rfl] at this
            exact this
          have HSAB := Lib.hid hSab
          clear hSab
          rcases HCS.out with ⟨hbad, hcl⟩ | ⟨hcl, hdd⟩
          · have o3' : w3.ownsRow w2.heap.size 5 1 v3 0 (octV []) := by rw [hcl] at o3; exact o3
            rw [hcl]
            clear o3 hcl hbad hsa
            go_wp2_with fail
            refine wp_region_calm (by kernel_rfl) (by kernel_rfl) ?_
            repeat (first | go_big_quiet_skip | (go_big_quiet_want; go_big_quiet_op; first | go_big_quiet_on | go_big_quiet_call ((first | (go_at_call 15; with_reducible exact Later.call _ (HSAB.out _)) | (go_at_call 16; exact Later.call _ (awake_any _))))))
            refine wpQuiet_nil ?_
            rintro w4 ⟨⟨_, hb4⟩, rfl⟩
            go_wp2
            go_ret
            exact ⟨rfl, b3.trans (hb4.mono b3.size)⟩
          · have o3' : w3.ownsRow w2.heap.size 5 1 v3 (encE L).length (octV (encE L)) := by rw [hcl] at o3; exact o3
            rw [hcl]
            obtain ⟨At, ct, rfl, _, _, rt⟩ := own_form o3'
            have RT := Lib.hid rt
            clear o3 o3' rt hcl
            obtain ⟨sl, hsl⟩ : ∃ sl : ByteArray, (⟨(encE L).toArray⟩ : ByteArray) = sl := ⟨_, rfl⟩
            have hct : ∀ z : Later w3, (convert 42 9 (.slice At (encE L).length ct)).run Try.prog z.x = .ok (.string sl) z.x := fun z => by
              rw [← hsl]
              exact conv_bytes z.x 42 9 5 Try.underlying42 Try.underlying5 Try.underlying9 (RT.out.below z.h)
            have hne2 := name_eq sa sl (encE B) (encE L) (by rw [← hsa]; simp [oc]) (by rw [← hsl]; simp [oc])
            rw [hdd] at hne2
            have hSal : ∀ z : Later w3, Calls Try.prog 15 #[.slice Aq i cq, .slice A1 k c1] z.x fun e w' => e = .returned (.bool (decide (B = L))) ∧ Below z.x.heap.size z.x w' := fun z =>
              rSame_any Aq A1 i cq k c1 B L z.x ((RQ3.out.below z.h).more z.h.size) ((R13.out.below z.h).more z.h.size) (by omega) (by omega)
            obtain ⟨dd, hd⟩ : ∃ dd, decide (B = L) = dd := ⟨_, rfl⟩
            rw [hd] at hne2 hSal
            have HSAL := Lib.hid hSal
            clear hSal hdd hd hsa hsl
            cases dd
            all_goals
              go_wp2_with fail
              refine wp_region_calm (by kernel_rfl) (by kernel_rfl) ?_
              repeat (first | go_big_quiet_skip | (go_big_quiet_want; go_big_quiet_op; first | go_big_quiet_on | go_big_quiet_call ((first | (go_at_call 15; with_reducible exact Later.call _ (HSAB.out _)) | (go_at_call 15; with_reducible exact Later.call _ (HSAL.out _)) | (go_at_call 16; exact Later.call _ (awake_any _))))))
              refine wpQuiet_nil ?_
              rintro w4 ⟨⟨_, hb4⟩, rfl⟩
              go_wp2
              go_ret
              exact ⟨rfl, b3.trans (hb4.mono b3.size)⟩
end Go.Proofs.Ytpjghildhhpeeaa
