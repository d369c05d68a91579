/-
  Walk: the law EntryCodes.
-/
import Derived.Test.YtpjghildhhpeeaaEntryR
import Derived.Test.YtpjghildhhpeeaaEntryL
namespace Go.Proofs.Ytpjghildhhpeeaa
open Go.RowKit
set_option linter.unusedVariables false

theorem bytes_rd {w : World} {a : Option Addr} {len cap : Nat} {zs : List Int} (h : IsRow .u8 w a len cap zs) :
    ∃ L : List UInt8, Rd w w.heap.size 1 a len (octV L) ∧ len ≤ cap ∧ cap ≤ maxLen ∧ (a = none → cap = 0) := by
  have h0 : a = none → cap = 0 := fun e => by
    rcases h with ⟨_, _, h3, _⟩ | ⟨x, hx, _⟩
    · exact h3
    · rw [hx] at e; cases e
  obtain ⟨h1, h2, h3, _, h5⟩ := row_rd h
  refine ⟨(zs.take len).map fun z => UInt8.ofNat z.toNat, ?_, h2, h3, h0⟩
  have e : octV ((zs.take len).map fun z => UInt8.ofNat z.toNat) = (zs.take len).map (Value.int .u8) := by
    unfold octV
    rw [List.map_map]
    refine List.map_congr_left fun z hz => ?_
    obtain ⟨g1, g2⟩ := u8_of_wf (h5 z hz)
    show Value.int .u8 ((UInt8.ofNat z.toNat).toNat : Int) = _
    rw [u8_nat _ (by omega)]
    congr 1
    omega
  rw [e]; exact h1
theorem readE_len (M : List UInt8) : (optE (readE M)).length ≤ 30 := by
  unfold readE
  cases parseE M with
  | none => simp [optE]
  | some t =>
    simp only
    split
    · rename_i h; exact ((mayL_iff t).1 h).2
    · simp [optE]

set_option maxHeartbeats 16000000 in
set_option maxRecDepth 100000 in
theorem codes_law (A : Option Addr) (n c : Nat) (l : List Ent) (A2 : Option Addr) (n2 c2 : Nat) (L2 : List UInt8) (w : World) (hr : Rd w w.heap.size 3 A n (rowE l)) (hn : n ≤ c) (hc : c ≤ maxLen) (hsz : ∀ x ∈ l, x.1.length ≤ 9223372036854775807)
    (hr2 : Rd w w.heap.size 1 A2 n2 (octV L2)) (hn2 : n2 ≤ c2) (hc2 : c2 ≤ maxLen) :
    Calls Try.prog 6 #[.slice A n c, .slice A2 n2 c2] w fun e w' => e = .returned (.bool true) ∧ Below w.heap.size w w' := by
  obtain ⟨L, hL⟩ : ∃ L, fewE l = L := ⟨_, rfl⟩
  have hF1 := Few_any A n c l w hr hn hc hsz
  rw [hL] at hF1
  obtain ⟨m, hm⟩ : ∃ m, L.length = m := ⟨_, rfl⟩
  have hLn : m ≤ 33 := by rw [← hm, ← hL]; exact few_len l
  have HLS := Lib.hid (show ∀ y ∈ L, y.1.length ≤ 1000000 by rw [← hL]; exact few_names l)
  have HF1 := Lib.hid hF1
  have HM := Lib.hid hm
  have hcut : ∃ (k : Nat) (M : List UInt8), Rd w w.heap.size 1 A2 k (octV M) ∧ k ≤ c2 ∧ k ≤ 900 ∧ ((900 < n2 ∧ k = 900) ∨ (n2 ≤ 900 ∧ k = n2)) := by
    rcases Nat.lt_or_ge 900 n2 with h | h
    · have h1 := rd_takeV hr2 (show 900 ≤ n2 by omega)
      refine ⟨900, L2.take 900, ?_, by omega, by omega, .inl ⟨h, rfl⟩⟩
      have : octV (L2.take 900) = (octV L2).take (900 * 1) := by simp [octV]
      rw [this]; exact h1
    · exact ⟨n2, L2, hr2, hn2, h, .inr ⟨h, rfl⟩⟩
  obtain ⟨k, M, hrM, hkc, hk9, hkk⟩ := hcut
  have HRM := Lib.hid hrM
  obtain ⟨T, hT⟩ : ∃ T, optE (readE M) = T := ⟨_, rfl⟩
  obtain ⟨q, hq⟩ : ∃ q, T.length = q := ⟨_, rfl⟩
  have hq30 : q ≤ 30 := by rw [← hq, ← hT]; exact readE_len M
  have hcase : ∃ (kd : Int) (ok : Bool), codeR (readE M) = kd ∧ (readE M).isSome = ok ∧ ((kd = 0 ∧ ok = true) ∨ (kd = 3 ∧ ok = false)) := by
    cases readE M with
    | none => exact ⟨3, false, rfl, rfl, .inr ⟨rfl, rfl⟩⟩
    | some t => exact ⟨0, true, rfl, rfl, .inl ⟨rfl, rfl⟩⟩
  obtain ⟨kd, ok, hkd, hok, hko⟩ := hcase
  have HT := Lib.hid hT
  have HQ := Lib.hid hq
  have HKD := Lib.hid hkd
  have HOK := Lib.hid hok
  unfold maxLen at hc2
  clear hF1 hr hsz hL hm hrM hT hq hkd hok hr2
  rcases hkk with ⟨h9, rfl⟩ | ⟨h9, rfl⟩
  · have hd9 : decide ((900 : Int) < (n2 : Int)) = true := decide_eq_true (by omega)
    go_enter Try.func6, Try.ntmps6
    go_wp2_with fail
    refine HF1.out.mono ?_
    rintro e w1 ⟨⟨v1, rfl, o1⟩, b1⟩
    unfold OwnE at o1
    rw [HM.out] at o1
    obtain ⟨A1, c1, rfl, hn1, hm1, r1⟩ := own_form o1
    have R1 := Lib.hid r1
    have RM1 := Lib.hid ((HRM.out.below b1).more b1.size)
    clear o1 r1
    go_wp2_with fail
    refine (Decode_any A2 _ c2 M w1 RM1.out (by omega) (by unfold maxLen; omega) (by omega)).mono ?_
    rintro e w2 ⟨⟨v2, rfl, o2⟩, b2⟩
    rw [HT.out, HQ.out] at o2
    rw [HKD.out]
    obtain ⟨Ax, cx, rfl, _, _, rx⟩ := own_form o2
    have RX := Lib.hid rx
    have d2 := b1.trans (b2.mono b1.size)
    have hcv := conv_bytes w2 42 9 5 (c := c2) Try.underlying42 Try.underlying5 Try.underlying9 (RM1.out.below b2)
    obtain ⟨sb, hsb⟩ : ∃ sb : ByteArray, (⟨M.toArray⟩ : ByteArray) = sb := ⟨_, rfl⟩
    rw [hsb] at hcv
    have hob : oc sb = M := by rw [← hsb]; simp [oc]
    have hD := rDecode_any sb w2 (by rw [← oc_len, hob]; have := RM1.out.1; rw [octV_len] at this; omega)
    rw [hob, HT.out, HQ.out, HOK.out] at hD
    have HD := Lib.hid hD
    clear o2 rx hD hob hsb
    go_wp2_with fail
    refine HD.out.mono ?_
    rintro e w3 ⟨⟨v3, rfl, o3⟩, b3⟩
    obtain ⟨Ay, cy, rfl, _, _, ry⟩ := own_form o3
    have RY := Lib.hid ry
    have d3 := d2.trans (b3.mono d2.size)
    have RX3 := Lib.hid ((RX.out.below b3).more b3.size)
    have hS := rSame_any Ax Ay q cx q cy T T w3 RX3.out ry (by omega) (by omega)
    rw [decide_eq_true (rfl : T = T)] at hS
    have HS := Lib.hid hS
    clear o3 ry hS hcv
    go_wp2_with fail
    refine HS.out.mono ?_
    rintro e w4 ⟨rfl, b4⟩
    have d4 := d3.trans (b4.mono d3.size)
    have e14 : Below w1.heap.size w1 w4 := (b2.trans (b3.mono b2.size)).trans (b4.mono (Nat.le_trans b2.size b3.size))
    have hM1 := May_any A1 m c1 L w4 ((R1.out.below e14).more e14.size) (by omega) HLS.out
    have hM2 : ∀ W, Below w4.heap.size w4 W → Calls Try.prog 21 #[.slice A1 m c1] W fun e w' => e = .returned (.bool (mayL L)) ∧ Below W.heap.size W w' := fun W h => rMay_any A1 m c1 L W (((R1.out.below e14).more e14.size |>.below h).more h.size) (by omega) HLS.out
    have hE1 : ∀ W, Below w4.heap.size w4 W → Calls Try.prog 18 #[.slice A1 m c1] W fun e w' => (∃ v, e = .returned (.tuple #[v, .int .i64 (codeE L).2]) ∧ w'.ownsRow W.heap.size 5 1 v (codeE L).1.length (octV (codeE L).1)) ∧ Below W.heap.size W w' := fun W h => Encode_any A1 m c1 L W (((R1.out.below e14).more e14.size |>.below h).more h.size) (by omega) HLS.out
    cases hml : mayL L with
    | false =>
      have hcd : codeE L = ([], 1) := by unfold codeE; rw [if_neg (by rw [hml]; simp)]
      rw [hml] at hM1 hM2
      rw [hcd] at hE1
      have HM1 := Lib.hid hM1
      have HM2 := Lib.hid hM2
      have HE1 := Lib.hid hE1
      clear hM1 hM2 hE1 hml hcd
      rcases hko with ⟨rfl, rfl⟩ | ⟨rfl, rfl⟩
      all_goals
        go_wp2_with fail
        refine HM1.out.mono ?_
        rintro e w5 ⟨rfl, b5⟩
        go_wp2_with fail
        refine (HM2.out _ b5).mono ?_
        rintro e w6 ⟨rfl, b6⟩
        have b46 := b5.trans (b6.mono b5.size)
        go_wp2_with fail
        refine (HE1.out _ b46).mono ?_
        rintro e w7 ⟨⟨v7, rfl, o7⟩, b7⟩
        have b47 := b46.trans (b7.mono b46.size)
        have o7' : w7.ownsRow w6.heap.size 5 1 v7 0 (octV []) := o7
        obtain ⟨A7, c7, rfl, _, _, _⟩ := own_form o7'
        clear o7 o7'
        go_wp2_with fail
        refine (HM2.out _ b47).mono ?_
        rintro e w8 ⟨rfl, b8⟩
        have b48 := b47.trans (b8.mono b47.size)
        go_wp2_with fail
        refine (awake_any _).mono ?_
        rintro e w9 ⟨rfl, b9⟩
        have b49 := b48.trans (b9.mono b48.size)
        go_wp2
        go_ret
        exact ⟨rfl, d4.trans (b49.mono d4.size)⟩
    | true =>
      have hcd : codeE L = (encE L, 0) := by unfold codeE; rw [if_pos hml]
      have hrc := read_code L hml
      have hel := enc_len L hml
      have hR1 : ∀ W, Below w4.heap.size w4 W → Calls Try.prog 22 #[.slice A1 m c1] W fun e w' => e = .returned (.string (st (encE L))) ∧ Below W.heap.size W w' := fun W h => rEncode_any A1 m c1 L W (((R1.out.below e14).more e14.size |>.below h).more h.size) hml
      rw [hml] at hM1 hM2
      rw [hcd] at hE1
      obtain ⟨C, hC⟩ : ∃ C, encE L = C := ⟨_, rfl⟩
      rw [hC] at hE1 hrc hel hR1
      obtain ⟨z, hz⟩ : ∃ z, C.length = z := ⟨_, rfl⟩
      have hE2 : ∀ W, Below w4.heap.size w4 W → Calls Try.prog 18 #[.slice A1 m c1] W fun e w' => (∃ v, e = .returned (.tuple #[v, .int .i64 0]) ∧ w'.ownsRow W.heap.size 5 1 v z (octV C)) ∧ Below W.heap.size W w' := fun W h => by
        have := hE1 W h
        simp only [hz] at this
        exact this
      rw [hz] at hel
      have HM1 := Lib.hid hM1
      have HM2 := Lib.hid hM2
      have HE1 := Lib.hid hE2
      have HRC := Lib.hid hrc
      have HR1 := Lib.hid hR1
      clear hM1 hM2 hE1 hE2 hml hcd hrc hC hz hR1
      rcases hko with ⟨rfl, rfl⟩ | ⟨rfl, rfl⟩
      all_goals
        go_wp2_with fail
        refine HM1.out.mono ?_
        rintro e w5 ⟨rfl, b5⟩
        go_wp2_with fail
        refine (HM2.out _ b5).mono ?_
        rintro e w6 ⟨rfl, b6⟩
        have b46 := b5.trans (b6.mono b5.size)
        go_wp2_with fail
        refine (HE1.out _ b46).mono ?_
        rintro e w7 ⟨⟨v7, rfl, o7⟩, b7⟩
        have b47 := b46.trans (b7.mono b46.size)
        obtain ⟨A7, c7, rfl, hn7, hm7, r7⟩ := own_form o7
        have R7 := Lib.hid r7
        clear o7 r7
        go_wp2_with fail
        refine (HM2.out _ b47).mono ?_
        rintro e w8 ⟨rfl, b8⟩
        have b48 := b47.trans (b8.mono b47.size)
        have R78 := Lib.hid ((R7.out.below b8).more b8.size)
        have hD2 := Decode_any A7 z c7 C w8 R78.out hn7 hm7 (by omega)
        rw [HRC.out] at hD2
        have HD2 : Hid (Calls Try.prog 19 #[.slice A7 z c7] w8 fun e w' => (∃ v, e = .returned (.tuple #[v, .int .i64 0]) ∧ w'.ownsRow w8.heap.size 24 3 v m (rowE L)) ∧ Below w8.heap.size w8 w') := Lib.hid (by
          have h : (optE (some L)).length = m := HM.out
          rw [h] at hD2
          exact hD2)
        clear hD2
        go_wp2_with fail
        refine HD2.out.mono ?_
        rintro e w9 ⟨⟨v9, rfl, o9⟩, b9⟩
        have b49 := b48.trans (b9.mono b48.size)
        obtain ⟨A9, c9, rfl, hn9, hm9, r9⟩ := own_form o9
        have R9 := Lib.hid r9
        clear o9 r9
        have f49 : Below w1.heap.size w1 w9 := e14.trans (b49.mono e14.size)
        obtain ⟨sa, hsa⟩ : ∃ sa : ByteArray, (⟨C.toArray⟩ : ByteArray) = sa := ⟨_, rfl⟩
        have hcs : ∀ x : Later w9, (convert 42 9 (.slice A7 z c7)).run Try.prog x.x = .ok (.string sa) x.x := fun x => by
          rw [← hsa]
          exact conv_bytes x.x 42 9 5 Try.underlying42 Try.underlying5 Try.underlying9 (((R78.out.below b9).more b9.size).below x.h)
        have hse : (sa.toList == sa.toList) = true := beq_self_eq_true _
        have HSA := Lib.hid hsa
        have hRe : ∀ x : Later w9, Calls Try.prog 22 #[.slice A1 m c1] x.x fun e w' => e = .returned (.string sa) ∧ Below x.x.heap.size x.x w' := fun x => by
          have := HR1.out x.x (b49.trans (x.h.mono b49.size))
          rw [show st C = sa from HSA.out] at this
          exact this
        have hSm : ∀ x : Later w9, Calls Try.prog 15 #[.slice A9 m c9, .slice A1 m c1] x.x fun e w' => e = .returned (.bool true) ∧ Below x.x.heap.size x.x w' := fun x => by
          have := rSame_any A9 A1 m c9 m c1 L L x.x ((R9.out.below x.h).more x.h.size) (((R1.out.below f49).more f49.size |>.below x.h).more x.h.size) (by omega) (by omega)
          rw [decide_eq_true rfl] at this
          exact this
        have HRE := Lib.hid hRe
        have HSM := Lib.hid hSm
        have hne := later_ne w9
        clear hsa hRe hSm
        go_wp2_with fail
        refine wp_region_calm (by kernel_rfl) (by kernel_rfl) ?_
        repeat (first | go_big_quiet_skip | (go_big_quiet_want; go_big_quiet_op; first | go_big_quiet_on | go_big_quiet_call ((first | (go_at_call 22; with_reducible exact Later.call _ (HRE.out _)) | (go_at_call 15; with_reducible exact Later.call _ (HSM.out _)) | (go_at_call 16; exact Later.call _ (awake_any _))))))
        refine wpQuiet_nil ?_
        rintro w10 ⟨⟨_, hb10⟩, rfl⟩
        go_wp2
        go_ret
        exact ⟨rfl, d4.trans ((b49.trans (hb10.mono b49.size)).mono d4.size)⟩
  · have hd9 : decide ((900 : Int) < (k : Int)) = false := decide_eq_false (by omega)
    go_enter Try.func6, Try.ntmps6
    go_wp2_with fail
    refine HF1.out.mono ?_
    rintro e w1 ⟨⟨v1, rfl, o1⟩, b1⟩
    unfold OwnE at o1
    rw [HM.out] at o1
    obtain ⟨A1, c1, rfl, hn1, hm1, r1⟩ := own_form o1
    have R1 := Lib.hid r1
    have RM1 := Lib.hid ((HRM.out.below b1).more b1.size)
    clear o1 r1
    go_wp2_with fail
    refine (Decode_any A2 _ c2 M w1 RM1.out (by omega) (by unfold maxLen; omega) (by omega)).mono ?_
    rintro e w2 ⟨⟨v2, rfl, o2⟩, b2⟩
    rw [HT.out, HQ.out] at o2
    rw [HKD.out]
    obtain ⟨Ax, cx, rfl, _, _, rx⟩ := own_form o2
    have RX := Lib.hid rx
    have d2 := b1.trans (b2.mono b1.size)
    have hcv := conv_bytes w2 42 9 5 (c := c2) Try.underlying42 Try.underlying5 Try.underlying9 (RM1.out.below b2)
    obtain ⟨sb, hsb⟩ : ∃ sb : ByteArray, (⟨M.toArray⟩ : ByteArray) = sb := ⟨_, rfl⟩
    rw [hsb] at hcv
    have hob : oc sb = M := by rw [← hsb]; simp [oc]
    have hD := rDecode_any sb w2 (by rw [← oc_len, hob]; have := RM1.out.1; rw [octV_len] at this; omega)
    rw [hob, HT.out, HQ.out, HOK.out] at hD
    have HD := Lib.hid hD
    clear o2 rx hD hob hsb
    go_wp2_with fail
    refine HD.out.mono ?_
    rintro e w3 ⟨⟨v3, rfl, o3⟩, b3⟩
    obtain ⟨Ay, cy, rfl, _, _, ry⟩ := own_form o3
    have RY := Lib.hid ry
    have d3 := d2.trans (b3.mono d2.size)
    have RX3 := Lib.hid ((RX.out.below b3).more b3.size)
    have hS := rSame_any Ax Ay q cx q cy T T w3 RX3.out ry (by omega) (by omega)
    rw [decide_eq_true (rfl : T = T)] at hS
    have HS := Lib.hid hS
    clear o3 ry hS hcv
    go_wp2_with fail
    refine HS.out.mono ?_
    rintro e w4 ⟨rfl, b4⟩
    have d4 := d3.trans (b4.mono d3.size)
    have e14 : Below w1.heap.size w1 w4 := (b2.trans (b3.mono b2.size)).trans (b4.mono (Nat.le_trans b2.size b3.size))
    have hM1 := May_any A1 m c1 L w4 ((R1.out.below e14).more e14.size) (by omega) HLS.out
    have hM2 : ∀ W, Below w4.heap.size w4 W → Calls Try.prog 21 #[.slice A1 m c1] W fun e w' => e = .returned (.bool (mayL L)) ∧ Below W.heap.size W w' := fun W h => rMay_any A1 m c1 L W (((R1.out.below e14).more e14.size |>.below h).more h.size) (by omega) HLS.out
    have hE1 : ∀ W, Below w4.heap.size w4 W → Calls Try.prog 18 #[.slice A1 m c1] W fun e w' => (∃ v, e = .returned (.tuple #[v, .int .i64 (codeE L).2]) ∧ w'.ownsRow W.heap.size 5 1 v (codeE L).1.length (octV (codeE L).1)) ∧ Below W.heap.size W w' := fun W h => Encode_any A1 m c1 L W (((R1.out.below e14).more e14.size |>.below h).more h.size) (by omega) HLS.out
    cases hml : mayL L with
    | false =>
      have hcd : codeE L = ([], 1) := by unfold codeE; rw [if_neg (by rw [hml]; simp)]
      rw [hml] at hM1 hM2
      rw [hcd] at hE1
      have HM1 := Lib.hid hM1
      have HM2 := Lib.hid hM2
      have HE1 := Lib.hid hE1
      clear hM1 hM2 hE1 hml hcd
      rcases hko with ⟨rfl, rfl⟩ | ⟨rfl, rfl⟩
      all_goals
        go_wp2_with fail
        refine HM1.out.mono ?_
        rintro e w5 ⟨rfl, b5⟩
        go_wp2_with fail
        refine (HM2.out _ b5).mono ?_
        rintro e w6 ⟨rfl, b6⟩
        have b46 := b5.trans (b6.mono b5.size)
        go_wp2_with fail
        refine (HE1.out _ b46).mono ?_
        rintro e w7 ⟨⟨v7, rfl, o7⟩, b7⟩
        have b47 := b46.trans (b7.mono b46.size)
        have o7' : w7.ownsRow w6.heap.size 5 1 v7 0 (octV []) := o7
        obtain ⟨A7, c7, rfl, _, _, _⟩ := own_form o7'
        clear o7 o7'
        go_wp2_with fail
        refine (HM2.out _ b47).mono ?_
        rintro e w8 ⟨rfl, b8⟩
        have b48 := b47.trans (b8.mono b47.size)
        go_wp2_with fail
        refine (awake_any _).mono ?_
        rintro e w9 ⟨rfl, b9⟩
        have b49 := b48.trans (b9.mono b48.size)
        go_wp2
        go_ret
        exact ⟨rfl, d4.trans (b49.mono d4.size)⟩
    | true =>
      have hcd : codeE L = (encE L, 0) := by unfold codeE; rw [if_pos hml]
      have hrc := read_code L hml
      have hel := enc_len L hml
      have hR1 : ∀ W, Below w4.heap.size w4 W → Calls Try.prog 22 #[.slice A1 m c1] W fun e w' => e = .returned (.string (st (encE L))) ∧ Below W.heap.size W w' := fun W h => rEncode_any A1 m c1 L W (((R1.out.below e14).more e14.size |>.below h).more h.size) hml
      rw [hml] at hM1 hM2
      rw [hcd] at hE1
      obtain ⟨C, hC⟩ : ∃ C, encE L = C := ⟨_, rfl⟩
      rw [hC] at hE1 hrc hel hR1
      obtain ⟨z, hz⟩ : ∃ z, C.length = z := ⟨_, rfl⟩
      have hE2 : ∀ W, Below w4.heap.size w4 W → Calls Try.prog 18 #[.slice A1 m c1] W fun e w' => (∃ v, e = .returned (.tuple #[v, .int .i64 0]) ∧ w'.ownsRow W.heap.size 5 1 v z (octV C)) ∧ Below W.heap.size W w' := fun W h => by
        have := hE1 W h
        simp only [hz] at this
        exact this
      rw [hz] at hel
      have HM1 := Lib.hid hM1
      have HM2 := Lib.hid hM2
      have HE1 := Lib.hid hE2
      have HRC := Lib.hid hrc
      have HR1 := Lib.hid hR1
      clear hM1 hM2 hE1 hE2 hml hcd hrc hC hz hR1
      rcases hko with ⟨rfl, rfl⟩ | ⟨rfl, rfl⟩
      all_goals
        go_wp2_with fail
        refine HM1.out.mono ?_
        rintro e w5 ⟨rfl, b5⟩
        go_wp2_with fail
        refine (HM2.out _ b5).mono ?_
        rintro e w6 ⟨rfl, b6⟩
        have b46 := b5.trans (b6.mono b5.size)
        go_wp2_with fail
        refine (HE1.out _ b46).mono ?_
        rintro e w7 ⟨⟨v7, rfl, o7⟩, b7⟩
        have b47 := b46.trans (b7.mono b46.size)
        obtain ⟨A7, c7, rfl, hn7, hm7, r7⟩ := own_form o7
        have R7 := Lib.hid r7
        clear o7 r7
        go_wp2_with fail
        refine (HM2.out _ b47).mono ?_
        rintro e w8 ⟨rfl, b8⟩
        have b48 := b47.trans (b8.mono b47.size)
        have R78 := Lib.hid ((R7.out.below b8).more b8.size)
        have hD2 := Decode_any A7 z c7 C w8 R78.out hn7 hm7 (by omega)
        rw [HRC.out] at hD2
        have HD2 : Hid (Calls Try.prog 19 #[.slice A7 z c7] w8 fun e w' => (∃ v, e = .returned (.tuple #[v, .int .i64 0]) ∧ w'.ownsRow w8.heap.size 24 3 v m (rowE L)) ∧ Below w8.heap.size w8 w') := Lib.hid (by
          have h : (optE (some L)).length = m := HM.out
          rw [h] at hD2
          exact hD2)
        clear hD2
        go_wp2_with fail
        refine HD2.out.mono ?_
        rintro e w9 ⟨⟨v9, rfl, o9⟩, b9⟩
        have b49 := b48.trans (b9.mono b48.size)
        obtain ⟨A9, c9, rfl, hn9, hm9, r9⟩ := own_form o9
        have R9 := Lib.hid r9
        clear o9 r9
        have f49 : Below w1.heap.size w1 w9 := e14.trans (b49.mono e14.size)
        obtain ⟨sa, hsa⟩ : ∃ sa : ByteArray, (⟨C.toArray⟩ : ByteArray) = sa := ⟨_, rfl⟩
        have hcs : ∀ x : Later w9, (convert 42 9 (.slice A7 z c7)).run Try.prog x.x = .ok (.string sa) x.x := fun x => by
          rw [← hsa]
          exact conv_bytes x.x 42 9 5 Try.underlying42 Try.underlying5 Try.underlying9 (((R78.out.below b9).more b9.size).below x.h)
        have hse : (sa.toList == sa.toList) = true := beq_self_eq_true _
        have HSA := Lib.hid hsa
        have hRe : ∀ x : Later w9, Calls Try.prog 22 #[.slice A1 m c1] x.x fun e w' => e = .returned (.string sa) ∧ Below x.x.heap.size x.x w' := fun x => by
          have := HR1.out x.x (b49.trans (x.h.mono b49.size))
          rw [show st C = sa from HSA.out] at this
          exact this
        have hSm : ∀ x : Later w9, Calls Try.prog 15 #[.slice A9 m c9, .slice A1 m c1] x.x fun e w' => e = .returned (.bool true) ∧ Below x.x.heap.size x.x w' := fun x => by
          have := rSame_any A9 A1 m c9 m c1 L L x.x ((R9.out.below x.h).more x.h.size) (((R1.out.below f49).more f49.size |>.below x.h).more x.h.size) (by omega) (by omega)
          rw [decide_eq_true rfl] at this
          exact this
        have HRE := Lib.hid hRe
        have HSM := Lib.hid hSm
        have hne := later_ne w9
        clear hsa hRe hSm
        go_wp2_with fail
        refine wp_region_calm (by kernel_rfl) (by kernel_rfl) ?_
        repeat (first | go_big_quiet_skip | (go_big_quiet_want; go_big_quiet_op; first | go_big_quiet_on | go_big_quiet_call ((first | (go_at_call 22; with_reducible exact Later.call _ (HRE.out _)) | (go_at_call 15; with_reducible exact Later.call _ (HSM.out _)) | (go_at_call 16; exact Later.call _ (awake_any _))))))
        refine wpQuiet_nil ?_
        rintro w10 ⟨⟨_, hb10⟩, rfl⟩
        go_wp2
        go_ret
        exact ⟨rfl, d4.trans ((b49.trans (hb10.mono b49.size)).mono d4.size)⟩
end Go.Proofs.Ytpjghildhhpeeaa
