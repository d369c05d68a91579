/-
  Walk: the law on what is put between a path's pieces.
-/
import Derived.Test.YtofbgebgneinaaaDoorPathP
import Derived.Test.YtofbgebgneinaaaDoorRow
namespace Go.Proofs.YtofbgebgneinaaaDoor
open Go.RowKit Go.Shelf
set_option linter.unusedVariables false

/-- A byte of a row of bytes. -/
theorem byte_at {w : World} {B n : Nat} {A : Option Addr} {zs : List Int} (h : Rd w B 1 A n (zs.map (.int .u8))) (hz : ∀ z ∈ zs, 0 ≤ z ∧ z ≤ 255) {k : Nat} (hk : k < n) :
    ∃ g o q, A = some ⟨g, o, none⟩ ∧ g < B ∧ q ≤ 255 ∧ w.cell? ⟨g, o + k, none⟩ = some (.int .u8 (q : Nat)) := by
  obtain ⟨g, o, e, hb, hc⟩ := h.2 (by omega)
  have hl := h.1
  rw [List.length_map] at hl
  have hkl : k < zs.length := by omega
  have hm := hz zs[k] (List.getElem_mem hkl)
  refine ⟨g, o, (zs[k]).toNat, e, hb, by omega, ?_⟩
  rw [hc k (.int .u8 zs[k]) (by simp [hkl])]
  exact congrArg (fun z => some (Value.int .u8 z)) (by omega)
theorem fill_eq (q r : Nat) (F : List UInt8) (hr : q % 5 = r) (hF : fillL r = F) : fillL q = F := by
  unfold fillL at hF ⊢
  rw [← hr] at hF
  simpa using hF

set_option maxHeartbeats 8000000 in
set_option maxRecDepth 100000 in
theorem same_11 (A A' : Option Addr) (n c n' c' : Nat) (l : List (List UInt8)) (zs : List Int) (w : World) (hr : Rd w w.heap.size 1 A n (strV l)) (ht : Rd w w.heap.size 1 A' n' (zs.map (.int .u8))) (hzs : ∀ z ∈ zs, 0 ≤ z ∧ z ≤ 255) (hsz : ∀ x ∈ l, x.length ≤ 9223372036854775807) (hnc : n ≤ c) (hn' : n' ≤ 9223372036854775807) (hE : (joinL (namesL l)).2 = 11) :
    Calls Tryd.prog 5 #[.slice A n c, .slice A' n' c'] w fun e w' => e = .returned (.bool true) ∧ Below w.heap.size w w' := by
  have hN1 := names_cut A n c _ l w hr hsz hnc rfl
  have hm := names_len l
  have hs1 := names_size l
  have hbad := join_bad (namesL l) (by rw [hE]; decide)
  have hJ : ∀ A m c w, m = (namesL l).length → m ≤ c → Rd w w.heap.size 1 A m (strV (namesL l)) → Calls Tryd.prog 16 #[.slice A m c] w fun e w' => e = .returned (.tuple #[.string (st (joinL (namesL l)).1), .int .i64 (joinL (namesL l)).2]) ∧ Below w.heap.size w w' :=
    fun A m c w he hmc h => Join_any A m c (namesL l) w h (by omega) hmc hs1
  rw [hE, hbad] at hJ
  obtain ⟨L, hL⟩ : ∃ L, namesL l = L := ⟨_, rfl⟩
  rw [hL] at hN1 hJ hm
  obtain ⟨m, hml⟩ : ∃ m, L.length = m := ⟨_, rfl⟩
  rw [hml] at hm hJ
  rw [show st [] = (⟨#[]⟩ : ByteArray) from rfl] at hJ
  have HN1 := Lib.hid hN1
  have HJ := Lib.hid hJ
  have HML := Lib.hid hml
  clear hN1 hJ hml hL hE hs1 hsz hr ht hzs hbad
  go_enter Tryd.func5, Tryd.ntmps5
  go_wp2_with fail
  refine HN1.out.mono ?_
  rintro e w1 ⟨⟨v1, rfl, o1⟩, b1⟩
  obtain ⟨A1, c1, rfl, hc1, r1⟩ := own_rdS o1
  rw [HML.out] at r1 hc1 ⊢
  have R1 := Lib.hid r1
  clear o1 r1
  go_wp2_with fail
  refine (HJ.out A1 m c1 w1 rfl hc1 R1.out).mono ?_
  rintro e w2 ⟨rfl, e2⟩
  have b2 := b1.trans (e2.mono b1.size)
  go_wp2_with fail
  refine (awake_any w2).mono ?_
  rintro e w3 ⟨rfl, e3⟩
  go_wp2
  go_ret
  exact ⟨rfl, b2.trans (e3.mono b2.size)⟩

set_option maxHeartbeats 8000000 in
set_option maxRecDepth 100000 in
theorem same_16 (A A' : Option Addr) (n c n' c' : Nat) (l : List (List UInt8)) (zs : List Int) (w : World) (hr : Rd w w.heap.size 1 A n (strV l)) (ht : Rd w w.heap.size 1 A' n' (zs.map (.int .u8))) (hzs : ∀ z ∈ zs, 0 ≤ z ∧ z ≤ 255) (hsz : ∀ x ∈ l, x.length ≤ 9223372036854775807) (hnc : n ≤ c) (hn' : n' ≤ 9223372036854775807) (hE : (joinL (namesL l)).2 = 16) :
    Calls Tryd.prog 5 #[.slice A n c, .slice A' n' c'] w fun e w' => e = .returned (.bool true) ∧ Below w.heap.size w w' := by
  have hN1 := names_cut A n c _ l w hr hsz hnc rfl
  have hm := names_len l
  have hs1 := names_size l
  have hbad := join_bad (namesL l) (by rw [hE]; decide)
  have hJ : ∀ A m c w, m = (namesL l).length → m ≤ c → Rd w w.heap.size 1 A m (strV (namesL l)) → Calls Tryd.prog 16 #[.slice A m c] w fun e w' => e = .returned (.tuple #[.string (st (joinL (namesL l)).1), .int .i64 (joinL (namesL l)).2]) ∧ Below w.heap.size w w' :=
    fun A m c w he hmc h => Join_any A m c (namesL l) w h (by omega) hmc hs1
  rw [hE, hbad] at hJ
  obtain ⟨L, hL⟩ : ∃ L, namesL l = L := ⟨_, rfl⟩
  rw [hL] at hN1 hJ hm
  obtain ⟨m, hml⟩ : ∃ m, L.length = m := ⟨_, rfl⟩
  rw [hml] at hm hJ
  rw [show st [] = (⟨#[]⟩ : ByteArray) from rfl] at hJ
  have HN1 := Lib.hid hN1
  have HJ := Lib.hid hJ
  have HML := Lib.hid hml
  clear hN1 hJ hml hL hE hs1 hsz hr ht hzs hbad
  go_enter Tryd.func5, Tryd.ntmps5
  go_wp2_with fail
  refine HN1.out.mono ?_
  rintro e w1 ⟨⟨v1, rfl, o1⟩, b1⟩
  obtain ⟨A1, c1, rfl, hc1, r1⟩ := own_rdS o1
  rw [HML.out] at r1 hc1 ⊢
  have R1 := Lib.hid r1
  clear o1 r1
  go_wp2_with fail
  refine (HJ.out A1 m c1 w1 rfl hc1 R1.out).mono ?_
  rintro e w2 ⟨rfl, e2⟩
  have b2 := b1.trans (e2.mono b1.size)
  go_wp2_with fail
  refine (awake_any w2).mono ?_
  rintro e w3 ⟨rfl, e3⟩
  go_wp2
  go_ret
  exact ⟨rfl, b2.trans (e3.mono b2.size)⟩

set_option maxHeartbeats 8000000 in
set_option maxRecDepth 100000 in
theorem same_far (A A' : Option Addr) (n c n' c' : Nat) (l : List (List UInt8)) (zs : List Int) (w : World) (hr : Rd w w.heap.size 1 A n (strV l)) (ht : Rd w w.heap.size 1 A' n' (zs.map (.int .u8))) (hzs : ∀ z ∈ zs, 0 ≤ z ∧ z ≤ 255) (hsz : ∀ x ∈ l, x.length ≤ 9223372036854775807) (hnc : n ≤ c) (hn' : n' ≤ 9223372036854775807) (hE : (joinL (namesL l)).2 = 0) (h4 : 4 < (namesL l).length) :
    Calls Tryd.prog 5 #[.slice A n c, .slice A' n' c'] w fun e w' => e = .returned (.bool true) ∧ Below w.heap.size w w' := by
  have hN1 := names_cut A n c _ l w hr hsz hnc rfl
  have hm := names_len l
  have hs1 := names_size l
  have hJ : ∀ A m c w, m = (namesL l).length → m ≤ c → Rd w w.heap.size 1 A m (strV (namesL l)) → Calls Tryd.prog 16 #[.slice A m c] w fun e w' => e = .returned (.tuple #[.string (st (joinL (namesL l)).1), .int .i64 (joinL (namesL l)).2]) ∧ Below w.heap.size w w' :=
    fun A m c w he hmc h => Join_any A m c (namesL l) w h (by omega) hmc hs1
  rw [hE] at hJ
  obtain ⟨L, hL⟩ : ∃ L, namesL l = L := ⟨_, rfl⟩
  rw [hL] at hN1 hJ hm h4
  obtain ⟨m, hml⟩ : ∃ m, L.length = m := ⟨_, rfl⟩
  rw [hml] at hm hJ h4
  obtain ⟨S, hS⟩ : ∃ S, st (joinL L).1 = S := ⟨_, rfl⟩
  rw [hS] at hJ
  have HN1 := Lib.hid hN1
  have HJ := Lib.hid hJ
  have HML := Lib.hid hml
  clear hN1 hJ hml hL hE hs1 hsz hr ht hzs hS
  go_enter Tryd.func5, Tryd.ntmps5
  go_wp2_with fail
  refine HN1.out.mono ?_
  rintro e w1 ⟨⟨v1, rfl, o1⟩, b1⟩
  obtain ⟨A1, c1, rfl, hc1, r1⟩ := own_rdS o1
  rw [HML.out] at r1 hc1 ⊢
  have R1 := Lib.hid r1
  clear o1 r1
  go_wp2_with fail
  refine (HJ.out A1 m c1 w1 rfl hc1 R1.out).mono ?_
  rintro e w2 ⟨rfl, e2⟩
  have b2 := b1.trans (e2.mono b1.size)
  go_wp2_with fail
  refine (awake_any w2).mono ?_
  rintro e w3 ⟨rfl, e3⟩
  go_wp2
  go_ret
  exact ⟨rfl, b2.trans (e3.mono b2.size)⟩

set_option maxHeartbeats 8000000 in
set_option maxRecDepth 100000 in
theorem same_main (A A' : Option Addr) (n c n' c' : Nat) (l : List (List UInt8)) (zs : List Int) (w : World) (hr : Rd w w.heap.size 1 A n (strV l)) (ht : Rd w w.heap.size 1 A' n' (zs.map (.int .u8))) (hzs : ∀ z ∈ zs, 0 ≤ z ∧ z ≤ 255) (hsz : ∀ x ∈ l, x.length ≤ 9223372036854775807) (hnc : n ≤ c) (hn' : n' ≤ 9223372036854775807) (hE : (joinL (namesL l)).2 = 0) (h4 : (namesL l).length ≤ 4) :
    Calls Tryd.prog 5 #[.slice A n c, .slice A' n' c'] w fun e w' => e = .returned (.bool true) ∧ Below w.heap.size w w' := by
  have hN1 := names_cut A n c _ l w hr hsz hnc rfl
  have hm := names_len l
  have hs1 := names_size l
  obtain ⟨hp, h8, hall, h200⟩ := parse_join (namesL l) hE
  have hJ : ∀ A m c w, m = (namesL l).length → m ≤ c → Rd w w.heap.size 1 A m (strV (namesL l)) → Calls Tryd.prog 16 #[.slice A m c] w fun e w' => e = .returned (.tuple #[.string (st (joinL (namesL l)).1), .int .i64 (joinL (namesL l)).2]) ∧ Below w.heap.size w w' :=
    fun A m c w he hmc h => Join_any A m c (namesL l) w h (by omega) hmc hs1
  rw [hE] at hJ
  obtain ⟨L, hL⟩ : ∃ L, namesL l = L := ⟨_, rfl⟩
  rw [hL] at hN1 hJ hm hp h8 h200 hall h4
  obtain ⟨S, hS⟩ : ∃ S, st (joinL L).1 = S := ⟨_, rfl⟩
  have hoc : oc S = (joinL L).1 := by rw [← hS, oc_st]
  have hss : S.size ≤ 200 := by rw [← oc_len, hoc]; exact h200
  rw [← hoc] at hp
  rw [hS] at hJ
  obtain ⟨m, hml⟩ : ∃ m, L.length = m := ⟨_, rfl⟩
  rw [hml] at hm hJ h8 h4
  have hP : ∀ (S : ByteArray) (w : World), S.size ≤ 1000000 → parseL (oc S) = (L, 0) → Calls Tryd.prog 8 #[.string S] w fun e w' => (∃ A c, e = .returned (.tuple #[.slice A m c, .int .i64 0]) ∧ m ≤ c ∧ Rd w' w'.heap.size 1 A m (strV L)) ∧ Below w.heap.size w w' := fun S w h1 h2 => by
    have := Parse_any S w h1
    rw [h2] at this
    rw [hml] at this
    exact this
  have HN1 := Lib.hid hN1
  have HJ := Lib.hid hJ
  have HML := Lib.hid hml
  have HP := Lib.hid hP
  have HPS := Lib.hid hp
  have HALL := Lib.hid hall
  have HT := Lib.hid ht
  have HZ := Lib.hid hzs
  have HPR := Lib.hid parse_root
  clear hN1 hJ hml hL hE hs1 hsz hr ht hzs hp hP hS hoc h200 hall
  go_enter Tryd.func5, Tryd.ntmps5
  go_wp2_with fail
  refine HN1.out.mono ?_
  rintro e w1 ⟨⟨v1, rfl, o1⟩, b1⟩
  obtain ⟨A1, c1, rfl, hc1, r1⟩ := own_rdS o1
  rw [HML.out] at r1 hc1 ⊢
  have R1 := Lib.hid r1
  clear o1 r1
  go_wp2_with fail
  refine (HJ.out A1 m c1 w1 rfl hc1 R1.out).mono ?_
  rintro e w2 ⟨rfl, e2⟩
  have b2 := b1.trans (e2.mono b1.size)
  have R2 := Lib.hid ((R1.out.below e2).more e2.size)
  have T2 := Lib.hid ((HT.out.below b2).more b2.size)
  go_wp2
  go_loopw [7, 8] (fun v i wr => wr = w2 ∧ ∃ (j : Nat) (T : ByteArray), j ≤ m + 1 ∧ i = .int .i64 j ∧ v = .string T ∧ Hid (Leads (oc T) (L.take j)) ∧ T.size ≤ 33 * j ∧ Hid (oc T = [] → L.take j = []) ∧ Hid (oc T = [] ∨ (oc T).head? = some 47)) (fun _ i _ => m + 1 - (intOf i).toNat)
  case atStart => exact ⟨rfl, 0, ⟨#[]⟩, Nat.zero_le _, rfl, rfl, Lib.hid leads_nil, by decide, Lib.hid (fun _ => rfl), Lib.hid (.inl rfl)⟩
  case round =>
    obtain ⟨rfl, j, T, hj, rfl, rfl, HLD, hTs, HTE, HTH⟩ := hrel
    by_cases hjm : j < m
    · obtain ⟨g, o, x, hA1, hg, hx, hcell⟩ := str_at R2.out hjm
      subst hA1
      have hxn := HALL.out x (List.mem_iff_getElem?.2 ⟨j, hx⟩)
      obtain ⟨b, hb⟩ : ∃ b, st x = b := ⟨_, rfl⟩
      have hbx : oc b = x := by rw [← hb, oc_st]
      have hbs : b.size ≤ 24 := by rw [← oc_len, hbx]; exact (name_form x hxn).2.2.2.2
      rw [hb] at hcell
      have hlt8 : (L.take j).length < 8 := by rw [List.length_take]; omega
      have htk : L.take (j + 1) = L.take j ++ [x] := take_snoc L j x hx
      have step : ∀ (T1 : ByteArray) (q : Nat), oc T1 = oc T ++ fillL q → T1.size ≤ T.size + 8 → ∀ T2 : ByteArray, T1 ++ ((⟨#[47]⟩ : ByteArray) ++ b) = T2 →
          Leads (oc T2) (L.take (j + 1)) ∧ T2.size ≤ 33 * (j + 1) ∧ (oc T2 = [] → L.take (j + 1) = []) ∧ (oc T2 = [] ∨ (oc T2).head? = some 47) := by
        intro T1 q h1 h2 T2 h3
        have h4 : oc T2 = oc T1 ++ 47 :: x := by rw [← h3, ← hbx]; simp [oc]
        have h5 : Leads (oc T1) (L.take j) := by rw [h1]; exact leads_fill _ _ q HLD.out hlt8
        refine ⟨by rw [h4, htk]; exact leads_name _ _ x h5 hlt8 hxn, ?_, fun e => by rw [h4] at e; simp at e, .inr ?_⟩
        · rw [← h3]; simp only [ByteArray.size_append]; have : (⟨#[47]⟩ : ByteArray).size = 1 := rfl; omega
        · rw [h4, h1]
          rcases HTH.out with h | h
          · rw [h, List.nil_append]
            unfold fillL; repeat' split
            all_goals simp
          · cases hT : oc T with
            | nil => rw [hT] at h; simp at h
            | cons d r => rw [hT] at h; simpa using h
      have HST := Lib.hid step
      clear step htk hx hb hbx hxn
      by_cases hjf : j < n'
      · obtain ⟨g2, o2, q, hA', hg2, hq, hcq⟩ := byte_at T2.out HZ.out hjf
        subst hA'
        by_cases hq0 : q % 5 = 0
        · have hqz : (q : Int) % 5 = 0 := by omega
          obtain ⟨T1, hT1⟩ : ∃ T1, T = T1 := ⟨_, rfl⟩
          have hof : oc T1 = oc T ++ fillL q := by rw [fill_eq q 0 [] (by omega) rfl, List.append_nil, hT1]
          have hsf : T1.size ≤ T.size + 8 := by rw [← hT1]; omega
          obtain ⟨T3, hT3⟩ : ∃ T3, T1 ++ ((⟨#[47]⟩ : ByteArray) ++ b) = T3 := ⟨_, rfl⟩
          obtain ⟨k1, k2, k3, k4⟩ := HST.out T1 q hof hsf T3 hT3
          have H1 := Lib.hid hT1
          have H3 := Lib.hid hT3
          have K1 := Lib.hid k1
          have K3 := Lib.hid k3
          have K4 := Lib.hid k4
          clear hT1 hT3 k1 k3 k4 hof
          go_wp2
          go_roundw
          case rel => exact ⟨trivial, j + 1, T3, by omega, by go_num, by rw [← H3.out, ← H1.out], K1, k2, K3, K4⟩
          case measure => simp [intOf]; omega
        by_cases hq1 : q % 5 = 1
        · have hqz : (q : Int) % 5 = 1 := by omega
          obtain ⟨T1, hT1⟩ : ∃ T1, T ++ (⟨#[47]⟩ : ByteArray) = T1 := ⟨_, rfl⟩
          have hof : oc T1 = oc T ++ fillL q := by rw [fill_eq q 1 [47] (by omega) rfl, ← hT1]; simp [oc]
          have hsf : T1.size ≤ T.size + 8 := by rw [← hT1, ByteArray.size_append]; have : (⟨#[47]⟩ : ByteArray).size = 1 := rfl; omega
          obtain ⟨T3, hT3⟩ : ∃ T3, T1 ++ ((⟨#[47]⟩ : ByteArray) ++ b) = T3 := ⟨_, rfl⟩
          obtain ⟨k1, k2, k3, k4⟩ := HST.out T1 q hof hsf T3 hT3
          have H1 := Lib.hid hT1
          have H3 := Lib.hid hT3
          have K1 := Lib.hid k1
          have K3 := Lib.hid k3
          have K4 := Lib.hid k4
          clear hT1 hT3 k1 k3 k4 hof
          go_wp2
          go_roundw
          case rel => exact ⟨trivial, j + 1, T3, by omega, by go_num, by rw [← H3.out, ← H1.out], K1, k2, K3, K4⟩
          case measure => simp [intOf]; omega
        by_cases hq2 : q % 5 = 2
        · have hqz : (q : Int) % 5 = 2 := by omega
          obtain ⟨T1, hT1⟩ : ∃ T1, T ++ (⟨#[47, 46]⟩ : ByteArray) = T1 := ⟨_, rfl⟩
          have hof : oc T1 = oc T ++ fillL q := by rw [fill_eq q 2 [47, 46] (by omega) rfl, ← hT1]; simp [oc]
          have hsf : T1.size ≤ T.size + 8 := by rw [← hT1, ByteArray.size_append]; have : (⟨#[47, 46]⟩ : ByteArray).size = 2 := rfl; omega
          obtain ⟨T3, hT3⟩ : ∃ T3, T1 ++ ((⟨#[47]⟩ : ByteArray) ++ b) = T3 := ⟨_, rfl⟩
          obtain ⟨k1, k2, k3, k4⟩ := HST.out T1 q hof hsf T3 hT3
          have H1 := Lib.hid hT1
          have H3 := Lib.hid hT3
          have K1 := Lib.hid k1
          have K3 := Lib.hid k3
          have K4 := Lib.hid k4
          clear hT1 hT3 k1 k3 k4 hof
          go_wp2
          go_roundw
          case rel => exact ⟨trivial, j + 1, T3, by omega, by go_num, by rw [← H3.out, ← H1.out], K1, k2, K3, K4⟩
          case measure => simp [intOf]; omega
        by_cases hq3 : q % 5 = 3
        · have hqz : (q : Int) % 5 = 3 := by omega
          obtain ⟨T1, hT1⟩ : ∃ T1, T ++ (⟨#[47, 113, 47, 46, 46]⟩ : ByteArray) = T1 := ⟨_, rfl⟩
          have hof : oc T1 = oc T ++ fillL q := by rw [fill_eq q 3 [47, 113, 47, 46, 46] (by omega) rfl, ← hT1]; simp [oc]
          have hsf : T1.size ≤ T.size + 8 := by rw [← hT1, ByteArray.size_append]; have : (⟨#[47, 113, 47, 46, 46]⟩ : ByteArray).size = 5 := rfl; omega
          obtain ⟨T3, hT3⟩ : ∃ T3, T1 ++ ((⟨#[47]⟩ : ByteArray) ++ b) = T3 := ⟨_, rfl⟩
          obtain ⟨k1, k2, k3, k4⟩ := HST.out T1 q hof hsf T3 hT3
          have H1 := Lib.hid hT1
          have H3 := Lib.hid hT3
          have K1 := Lib.hid k1
          have K3 := Lib.hid k3
          have K4 := Lib.hid k4
          clear hT1 hT3 k1 k3 k4 hof
          go_wp2
          go_roundw
          case rel => exact ⟨trivial, j + 1, T3, by omega, by go_num, by rw [← H3.out, ← H1.out], K1, k2, K3, K4⟩
          case measure => simp [intOf]; omega
        have hq4 : q % 5 = 4 := by omega
        have hqz : (q : Int) % 5 = 4 := by omega
        obtain ⟨T1, hT1⟩ : ∃ T1, T ++ (⟨#[47, 46, 47, 113, 47, 46, 46, 47]⟩ : ByteArray) = T1 := ⟨_, rfl⟩
        have hof : oc T1 = oc T ++ fillL q := by rw [fill_eq q 4 [47, 46, 47, 113, 47, 46, 46, 47] (by omega) rfl, ← hT1]; simp [oc]
        have hsf : T1.size ≤ T.size + 8 := by rw [← hT1, ByteArray.size_append]; have : (⟨#[47, 46, 47, 113, 47, 46, 46, 47]⟩ : ByteArray).size = 8 := rfl; omega
        obtain ⟨T3, hT3⟩ : ∃ T3, T1 ++ ((⟨#[47]⟩ : ByteArray) ++ b) = T3 := ⟨_, rfl⟩
        obtain ⟨k1, k2, k3, k4⟩ := HST.out T1 q hof hsf T3 hT3
        have H1 := Lib.hid hT1
        have H3 := Lib.hid hT3
        have K1 := Lib.hid k1
        have K3 := Lib.hid k3
        have K4 := Lib.hid k4
        clear hT1 hT3 k1 k3 k4 hof
        go_wp2
        go_roundw
        case rel => exact ⟨trivial, j + 1, T3, by omega, by go_num, by rw [← H3.out, ← H1.out], K1, k2, K3, K4⟩
        case measure => simp [intOf]; omega
      · obtain ⟨T1, hT1⟩ : ∃ T1, T = T1 := ⟨_, rfl⟩
        have hof : oc T1 = oc T ++ fillL 0 := by rw [fill_eq 0 0 [] (by omega) rfl, List.append_nil, hT1]
        have hsf : T1.size ≤ T.size + 8 := by rw [← hT1]; omega
        obtain ⟨T3, hT3⟩ : ∃ T3, T1 ++ ((⟨#[47]⟩ : ByteArray) ++ b) = T3 := ⟨_, rfl⟩
        obtain ⟨k1, k2, k3, k4⟩ := HST.out T1 0 hof hsf T3 hT3
        have H1 := Lib.hid hT1
        have H3 := Lib.hid hT3
        have K1 := Lib.hid k1
        have K3 := Lib.hid k3
        have K4 := Lib.hid k4
        clear hT1 hT3 k1 k3 k4 hof
        go_wp2
        go_roundw
        case rel => exact ⟨trivial, j + 1, T3, by omega, by go_num, by rw [← H3.out, ← H1.out], K1, k2, K3, K4⟩
        case measure => simp [intOf]; omega
    · by_cases hjm2 : j ≤ m
      · have hlt8 : (L.take j).length < 8 := by rw [List.length_take]; omega
        have htk : L.take (j + 1) = L.take j := by rw [List.take_of_length_le (by rw [HML.out]; omega), List.take_of_length_le (by rw [HML.out]; omega)]
        have step : ∀ (T1 : ByteArray) (q : Nat), oc T1 = oc T ++ fillL q → T1.size ≤ T.size + 8 →
            Leads (oc T1) (L.take (j + 1)) ∧ T1.size ≤ 33 * (j + 1) ∧ (oc T1 = [] → L.take (j + 1) = []) ∧ (oc T1 = [] ∨ (oc T1).head? = some 47) := by
          intro T1 q h1 h2
          refine ⟨by rw [h1, htk]; exact leads_fill _ _ q HLD.out hlt8, by omega, fun e => ?_, ?_⟩
          · rw [htk]; rw [h1] at e
            exact HTE.out (List.append_eq_nil_iff.1 e).1
          · rw [h1]
            rcases HTH.out with h | h
            · rw [h, List.nil_append]
              unfold fillL; repeat' split
              all_goals simp
            · cases hT : oc T with
              | nil => rw [hT] at h; simp at h
              | cons d r => rw [hT] at h; exact .inr (by simpa using h)
        have HST := Lib.hid step
        clear step htk
        by_cases hjf : j < n'
        · obtain ⟨g2, o2, q, hA', hg2, hq, hcq⟩ := byte_at T2.out HZ.out hjf
          subst hA'
          by_cases hq0 : q % 5 = 0
          · have hqz : (q : Int) % 5 = 0 := by omega
            obtain ⟨T1, hT1⟩ : ∃ T1, T = T1 := ⟨_, rfl⟩
            have hof : oc T1 = oc T ++ fillL q := by rw [fill_eq q 0 [] (by omega) rfl, List.append_nil, hT1]
            have hsf : T1.size ≤ T.size + 8 := by rw [← hT1]; omega
            obtain ⟨k1, k2, k3, k4⟩ := HST.out T1 q hof hsf
            have H1 := Lib.hid hT1
            have K1 := Lib.hid k1
            have K3 := Lib.hid k3
            have K4 := Lib.hid k4
            clear hT1 k1 k3 k4 hof
            go_wp2
            go_roundw
            case rel => exact ⟨trivial, j + 1, T1, by omega, by go_num, by rw [← H1.out], K1, k2, K3, K4⟩
            case measure => simp [intOf]; omega
          by_cases hq1 : q % 5 = 1
          · have hqz : (q : Int) % 5 = 1 := by omega
            obtain ⟨T1, hT1⟩ : ∃ T1, T ++ (⟨#[47]⟩ : ByteArray) = T1 := ⟨_, rfl⟩
            have hof : oc T1 = oc T ++ fillL q := by rw [fill_eq q 1 [47] (by omega) rfl, ← hT1]; simp [oc]
            have hsf : T1.size ≤ T.size + 8 := by rw [← hT1, ByteArray.size_append]; have : (⟨#[47]⟩ : ByteArray).size = 1 := rfl; omega
            obtain ⟨k1, k2, k3, k4⟩ := HST.out T1 q hof hsf
            have H1 := Lib.hid hT1
            have K1 := Lib.hid k1
            have K3 := Lib.hid k3
            have K4 := Lib.hid k4
            clear hT1 k1 k3 k4 hof
            go_wp2
            go_roundw
            case rel => exact ⟨trivial, j + 1, T1, by omega, by go_num, by rw [← H1.out], K1, k2, K3, K4⟩
            case measure => simp [intOf]; omega
          by_cases hq2 : q % 5 = 2
          · have hqz : (q : Int) % 5 = 2 := by omega
            obtain ⟨T1, hT1⟩ : ∃ T1, T ++ (⟨#[47, 46]⟩ : ByteArray) = T1 := ⟨_, rfl⟩
            have hof : oc T1 = oc T ++ fillL q := by rw [fill_eq q 2 [47, 46] (by omega) rfl, ← hT1]; simp [oc]
            have hsf : T1.size ≤ T.size + 8 := by rw [← hT1, ByteArray.size_append]; have : (⟨#[47, 46]⟩ : ByteArray).size = 2 := rfl; omega
            obtain ⟨k1, k2, k3, k4⟩ := HST.out T1 q hof hsf
            have H1 := Lib.hid hT1
            have K1 := Lib.hid k1
            have K3 := Lib.hid k3
            have K4 := Lib.hid k4
            clear hT1 k1 k3 k4 hof
            go_wp2
            go_roundw
            case rel => exact ⟨trivial, j + 1, T1, by omega, by go_num, by rw [← H1.out], K1, k2, K3, K4⟩
            case measure => simp [intOf]; omega
          by_cases hq3 : q % 5 = 3
          · have hqz : (q : Int) % 5 = 3 := by omega
            obtain ⟨T1, hT1⟩ : ∃ T1, T ++ (⟨#[47, 113, 47, 46, 46]⟩ : ByteArray) = T1 := ⟨_, rfl⟩
            have hof : oc T1 = oc T ++ fillL q := by rw [fill_eq q 3 [47, 113, 47, 46, 46] (by omega) rfl, ← hT1]; simp [oc]
            have hsf : T1.size ≤ T.size + 8 := by rw [← hT1, ByteArray.size_append]; have : (⟨#[47, 113, 47, 46, 46]⟩ : ByteArray).size = 5 := rfl; omega
            obtain ⟨k1, k2, k3, k4⟩ := HST.out T1 q hof hsf
            have H1 := Lib.hid hT1
            have K1 := Lib.hid k1
            have K3 := Lib.hid k3
            have K4 := Lib.hid k4
            clear hT1 k1 k3 k4 hof
            go_wp2
            go_roundw
            case rel => exact ⟨trivial, j + 1, T1, by omega, by go_num, by rw [← H1.out], K1, k2, K3, K4⟩
            case measure => simp [intOf]; omega
          have hq4 : q % 5 = 4 := by omega
          have hqz : (q : Int) % 5 = 4 := by omega
          obtain ⟨T1, hT1⟩ : ∃ T1, T ++ (⟨#[47, 46, 47, 113, 47, 46, 46, 47]⟩ : ByteArray) = T1 := ⟨_, rfl⟩
          have hof : oc T1 = oc T ++ fillL q := by rw [fill_eq q 4 [47, 46, 47, 113, 47, 46, 46, 47] (by omega) rfl, ← hT1]; simp [oc]
          have hsf : T1.size ≤ T.size + 8 := by rw [← hT1, ByteArray.size_append]; have : (⟨#[47, 46, 47, 113, 47, 46, 46, 47]⟩ : ByteArray).size = 8 := rfl; omega
          obtain ⟨k1, k2, k3, k4⟩ := HST.out T1 q hof hsf
          have H1 := Lib.hid hT1
          have K1 := Lib.hid k1
          have K3 := Lib.hid k3
          have K4 := Lib.hid k4
          clear hT1 k1 k3 k4 hof
          go_wp2
          go_roundw
          case rel => exact ⟨trivial, j + 1, T1, by omega, by go_num, by rw [← H1.out], K1, k2, K3, K4⟩
          case measure => simp [intOf]; omega
        · obtain ⟨T1, hT1⟩ : ∃ T1, T = T1 := ⟨_, rfl⟩
          have hof : oc T1 = oc T ++ fillL 0 := by rw [fill_eq 0 0 [] (by omega) rfl, List.append_nil, hT1]
          have hsf : T1.size ≤ T.size + 8 := by rw [← hT1]; omega
          obtain ⟨k1, k2, k3, k4⟩ := HST.out T1 0 hof hsf
          have H1 := Lib.hid hT1
          have K1 := Lib.hid k1
          have K3 := Lib.hid k3
          have K4 := Lib.hid k4
          clear hT1 k1 k3 k4 hof
          go_wp2
          go_roundw
          case rel => exact ⟨trivial, j + 1, T1, by omega, by go_num, by rw [← H1.out], K1, k2, K3, K4⟩
          case measure => simp [intOf]; omega
      · obtain rfl : j = m + 1 := by omega
        have hld := HLD.out
        have hte := HTE.out
        rw [List.take_of_length_le (by rw [HML.out]; omega)] at hld hte
        have post : ∀ (U : ByteArray), U.size ≤ 1000000 → parseL (oc U) = (L, 0) → True := fun _ _ _ => trivial
        clear post
        by_cases hT0 : oc T = []
        · have hLn := hte hT0
          have hTe : T = ⟨#[]⟩ := oc_inj (t := ⟨#[]⟩) hT0
          subst hTe
          have hpr : parseL (oc ⟨#[47]⟩) = (L, 0) := by rw [hLn]; exact HPR.out
          have HPP := Lib.hid hpr
          clear hld hte hT0 hLn hpr
          go_wp2_with fail
          refine (HP.out S _ (by omega) HPS.out).mono ?_
          rintro e w3 ⟨⟨A3, c3, rfl, _, r3⟩, e3⟩
          have b3 := b2.trans (e3.mono b2.size)
          have R3 := Lib.hid ((R2.out.below e3).more e3.size)
          have S3 := Lib.hid r3
          clear r3
          go_wp2_with fail
          refine (HP.out ⟨#[47]⟩ w3 (by decide) HPP.out).mono ?_
          rintro e w4 ⟨⟨A4, c4, rfl, _, r4⟩, e4⟩
          have b4 := b3.trans (e4.mono b3.size)
          have R4 := Lib.hid ((R3.out.below e4).more e4.size)
          have S4 := Lib.hid ((S3.out.below e4).more e4.size)
          have T4 := Lib.hid r4
          clear r4
          go_wp2_with fail
          refine (rSame_yes _ _ m _ m _ L w4 S4.out T4.out (by omega) (by omega)).mono ?_
          rintro e w5 ⟨rfl, e5⟩
          have b5 := b4.trans (e5.mono b4.size)
          have R5 := Lib.hid ((R4.out.below e5).more e5.size)
          have S5 := Lib.hid ((S4.out.below e5).more e5.size)
          go_wp2_with fail
          refine (rSame_yes _ _ m _ m _ L w5 S5.out R5.out (by omega) (by omega)).mono ?_
          rintro e w6 ⟨rfl, e6⟩
          have b6 := b5.trans (e6.mono b5.size)
          go_wp2_with fail
          refine (awake_any w6).mono ?_
          rintro e w7 ⟨rfl, e7⟩
          go_wp2
          go_ret
          exact ⟨rfl, b6.trans (e7.mono b6.size)⟩
        · have hh : (oc T).head? = some 47 := HTH.out.resolve_left hT0
          have hpr : parseL (oc T) = (L, 0) := leads_parse _ _ hld hh (by rw [oc_len]; omega)
          have hne : T.toList.isEmpty = false := by
            rw [ByteArray.toList_eq]
            cases h : T.data.toList with
            | nil => exact absurd h hT0
            | cons => rfl
          have HPP := Lib.hid hpr
          clear hld hte hT0 hh hpr
          go_wp2_with fail
          refine (HP.out S _ (by omega) HPS.out).mono ?_
          rintro e w3 ⟨⟨A3, c3, rfl, _, r3⟩, e3⟩
          have b3 := b2.trans (e3.mono b2.size)
          have R3 := Lib.hid ((R2.out.below e3).more e3.size)
          have S3 := Lib.hid r3
          clear r3
          go_wp2_with fail
          refine (HP.out T w3 (by omega) HPP.out).mono ?_
          rintro e w4 ⟨⟨A4, c4, rfl, _, r4⟩, e4⟩
          have b4 := b3.trans (e4.mono b3.size)
          have R4 := Lib.hid ((R3.out.below e4).more e4.size)
          have S4 := Lib.hid ((S3.out.below e4).more e4.size)
          have T4 := Lib.hid r4
          clear r4
          go_wp2_with fail
          refine (rSame_yes _ _ m _ m _ L w4 S4.out T4.out (by omega) (by omega)).mono ?_
          rintro e w5 ⟨rfl, e5⟩
          have b5 := b4.trans (e5.mono b4.size)
          have R5 := Lib.hid ((R4.out.below e5).more e5.size)
          have S5 := Lib.hid ((S4.out.below e5).more e5.size)
          go_wp2_with fail
          refine (rSame_yes _ _ m _ m _ L w5 S5.out R5.out (by omega) (by omega)).mono ?_
          rintro e w6 ⟨rfl, e6⟩
          have b6 := b5.trans (e6.mono b5.size)
          go_wp2_with fail
          refine (awake_any w6).mono ?_
          rintro e w7 ⟨rfl, e7⟩
          go_wp2
          go_ret
          exact ⟨rfl, b6.trans (e7.mono b6.size)⟩


theorem same_law (A A' : Option Addr) (n c n' c' : Nat) (l : List (List UInt8)) (zs : List Int) (w : World) (hr : Rd w w.heap.size 1 A n (strV l)) (ht : Rd w w.heap.size 1 A' n' (zs.map (.int .u8))) (hzs : ∀ z ∈ zs, 0 ≤ z ∧ z ≤ 255) (hsz : ∀ x ∈ l, x.length ≤ 9223372036854775807) (hnc : n ≤ c) (hn' : n' ≤ 9223372036854775807) :
    Calls Tryd.prog 5 #[.slice A n c, .slice A' n' c'] w fun e w' => e = .returned (.bool true) ∧ Below w.heap.size w w' := by
  rcases join_err (namesL l) with h | h | h
  · by_cases h4 : (namesL l).length ≤ 4
    · exact same_main A A' n c n' c' l zs w hr ht hzs hsz hnc hn' h h4
    · exact same_far A A' n c n' c' l zs w hr ht hzs hsz hnc hn' h (by omega)
  · exact same_11 A A' n c n' c' l zs w hr ht hzs hsz hnc hn' h
  · exact same_16 A A' n c n' c' l zs w hr ht hzs hsz hnc hn' h
end Go.Proofs.YtofbgebgneinaaaDoor
