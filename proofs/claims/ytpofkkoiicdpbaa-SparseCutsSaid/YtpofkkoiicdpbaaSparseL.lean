/-
  Walks: have two files the same octets; what is refused.
-/
import Derived.Test.YtpofkkoiicdpbaaSparseJ
import Derived.Test.YtpofkkoiicdpbaaSparseK
namespace Go.Proofs.Ytpofkkoiicdpbaa
open Go.RowKit
set_option linter.unusedVariables false

set_option maxHeartbeats 1000000 in
theorem Equal_any (A A' : Option Addr) (n c n' c' B B' : Nat) (l m : List UInt8) (w : World) (hr : Rd w B 1 A n (octV l)) (hr' : Rd w B' 1 A' n' (octV m)) :
    Calls Try.prog 35 #[.slice A n c, .slice A' n' c'] w fun e w' => e = .returned (.bool (decide (l = m))) ∧ w = w' := by
  have h1 := conv_bytes w 25 9 5 (c := c) Try.underlying25 Try.underlying5 Try.underlying9 hr
  have h2 := conv_bytes w 25 9 5 (c := c') Try.underlying25 Try.underlying5 Try.underlying9 hr'
  have hne := text_eq ⟨l.toArray⟩ ⟨m.toArray⟩ l m (by simp [oc]) (by simp [oc])
  obtain ⟨s, hs⟩ : ∃ s : ByteArray, (⟨l.toArray⟩ : ByteArray) = s := ⟨_, rfl⟩
  obtain ⟨q, hq⟩ : ∃ q : ByteArray, (⟨m.toArray⟩ : ByteArray) = q := ⟨_, rfl⟩
  obtain ⟨d, hd⟩ : ∃ d, decide (l = m) = d := ⟨_, rfl⟩
  rw [hs] at h1 hne
  rw [hq] at h2 hne
  rw [hd] at hne ⊢
  clear hs hq hd hr hr'
  go_enter Try.func35, Try.ntmps35
  go_wp2
  go_ret
  exact ⟨by first | rfl | exact ret_bool hne, rfl⟩

theorem enters_same1 : ∀ args w, (callFunc 34 args).run Try.prog w = .ok (.enter 34 args) w := enters_of Try.func34 (by kernel_rfl) rfl

set_option maxHeartbeats 4000000 in
set_option maxRecDepth 100000 in
theorem same1_any (x : PW) (sa sb : Int) (Aa Ab : Option Addr) (na ca nb cb : Nat) (La Lb : List Pc) (b1 b2 : Nat) (w : World) (ha : IsP w w.heap.size Aa na ca La) (hb : IsP w w.heap.size Ab nb cb Lb) (hsa : Std La) (hsb : Std Lb) (hna : na ≤ 1000000) (hnb : nb ≤ 1000000)
    (k0 : w.cell? ⟨b1, 0, none⟩ = some (.int .i64 sa)) (k1 : w.cell? ⟨b1, 1, none⟩ = some (.slice Aa na ca)) (k2 : w.cell? ⟨b2, 0, none⟩ = some (.int .i64 sb)) (k3 : w.cell? ⟨b2, 1, none⟩ = some (.slice Ab nb cb)) :
    Calls Try.prog 34 (#[vW x] ++ #[.pointer (some ⟨b1, 0, none⟩), .pointer (some ⟨b2, 0, none⟩)]) w fun e w' => e = .returned (.bool (!decide (octB La x.1 = octB Lb x.1))) ∧ Below w.heap.size w w' := by
  obtain ⟨N, ⟨A, n, c⟩, l⟩ := x
  have hlt : ∀ {b o : Nat} {v : Value}, w.cell? ⟨b, o, none⟩ = some v → b < w.heap.size := fun {b o v} hb => by
    refine Nat.lt_of_not_le fun hge => ?_
    have : w.heap[b]? = none := Array.getElem?_eq_none hge
    simp [World.cell?, this] at hb
  have hb1 := hlt k0
  have hb2 := hlt k2
  obtain ⟨wx, hwx⟩ : ∃ wx, w.alloc (.cells #[.int .i64 N, .slice A n c] 62) = wx := ⟨_, rfl⟩
  have hbx : Below w.heap.size w wx := by rw [← hwx]; exact (Below.refl _ _).alloc (Nat.le_refl _) _
  obtain ⟨y0, y1, _, _⟩ := blk2 (show Blk wx w.heap.size 62 (0, 0) #[.int .i64 N, .slice A n c] by rw [← hwx]; exact Blk.new _ _ _ _)
  have hsx : w.heap.size < wx.heap.size := by rw [← hwx]; simp
  have j0 : wx.cell? ⟨b1, 0, none⟩ = some (.int .i64 sa) := (hbx.cell (p := ⟨b1, 0, none⟩) hb1).trans k0
  have j1 : wx.cell? ⟨b1, 1, none⟩ = some (.slice Aa na ca) := (hbx.cell (p := ⟨b1, 1, none⟩) hb1).trans k1
  have j2 : wx.cell? ⟨b2, 0, none⟩ = some (.int .i64 sb) := (hbx.cell (p := ⟨b2, 0, none⟩) hb2).trans k2
  have j3 : wx.cell? ⟨b2, 1, none⟩ = some (.slice Ab nb cb) := (hbx.cell (p := ⟨b2, 1, none⟩) hb2).trans k3
  have hOa : ∀ W, Below wx.heap.size wx W → Calls Try.prog 24 #[.agg #[.int .i64 sa, .slice Aa na ca], .int .i64 N] W fun e w' => (∃ g, e = .returned (.slice (some ⟨g, 0, none⟩) 128 128) ∧ Rd w' w'.heap.size 1 (some ⟨g, 0, none⟩) 128 (octV (octB La N))) ∧ Below W.heap.size W w' := fun W hW =>
    (octB_any sa N Aa na ca La W ((ha.later hbx).later hW) hsa hna).mono fun e w' ⟨⟨g, h1, h2⟩, h3⟩ => ⟨⟨g, h1, h2.rd⟩, h3⟩
  have hOb : ∀ W, Below wx.heap.size wx W → Calls Try.prog 24 #[.agg #[.int .i64 sb, .slice Ab nb cb], .int .i64 N] W fun e w' => (∃ g, e = .returned (.slice (some ⟨g, 0, none⟩) 128 128) ∧ Rd w' w'.heap.size 1 (some ⟨g, 0, none⟩) 128 (octV (octB Lb N))) ∧ Below W.heap.size W w' := fun W hW =>
    (octB_any sb N Ab nb cb Lb W ((hb.later hbx).later hW) hsb hnb).mono fun e w' ⟨⟨g, h1, h2⟩, h3⟩ => ⟨⟨g, h1, h2.rd⟩, h3⟩
  obtain ⟨Xa, hXa⟩ : ∃ Xa, octB La N = Xa := ⟨_, rfl⟩
  obtain ⟨Xb, hXb⟩ : ∃ Xb, octB Lb N = Xb := ⟨_, rfl⟩
  rw [hXa] at hOa
  rw [hXb] at hOb
  show Calls _ _ #[.agg #[.int .i64 N, .slice A n c], .pointer (some ⟨b1, 0, none⟩), .pointer (some ⟨b2, 0, none⟩)] _ (fun e w' => e = .returned (.bool (!decide (octB La N = octB Lb N))) ∧ Below w.heap.size w w')
  rw [hXa, hXb]
  obtain ⟨d, hd⟩ : ∃ d, decide (Xa = Xb) = d := ⟨_, rfl⟩
  rw [hd]
  have HWX := Lib.hid hwx
  have HOA := Lib.hid hOa
  have HOB := Lib.hid hOb
  have HD := Lib.hid hd
  have m1 : b1 < wx.heap.size := by omega
  have m2 : b2 < wx.heap.size := by omega
  clear hwx hOa hOb hXa hXb hd k0 k1 k2 k3 ha hb hlt
  go_enter Try.func34, Try.ntmps34
  go_wp2_with fail
  rw [HWX.out]
  go_region_held3 (fun w' => w'.cell? ⟨b1, 0, none⟩ = some (.int .i64 sa) ∧ w'.cell? ⟨b1, 1, none⟩ = some (.slice Aa na ca) ∧ w'.cell? ⟨b2, 0, none⟩ = some (.int .i64 sb) ∧ w'.cell? ⟨b2, 1, none⟩ = some (.slice Ab nb cb) ∧ w'.cell? ⟨w.heap.size, 0, none⟩ = some (.int .i64 N))
    (first
      | go_keep
      | exact ⟨(hBA.cell (p := ⟨b1, 0, none⟩) m1).trans j0, (hBA.cell (p := ⟨b1, 1, none⟩) m1).trans j1, (hBA.cell (p := ⟨b2, 0, none⟩) m2).trans j2, (hBA.cell (p := ⟨b2, 1, none⟩) m2).trans j3, (hBA.cell (p := ⟨w.heap.size, 0, none⟩) hsx).trans y0⟩
      | exact ⟨(hBB.cell (p := ⟨b1, 0, none⟩) m1).trans j0, (hBB.cell (p := ⟨b1, 1, none⟩) m1).trans j1, (hBB.cell (p := ⟨b2, 0, none⟩) m2).trans j2, (hBB.cell (p := ⟨b2, 1, none⟩) m2).trans j3, (hBB.cell (p := ⟨w.heap.size, 0, none⟩) hsx).trans y0⟩)
    (first
      | (go_at_call_of 24 (Value.int .i64 sa); refine (HOA.out _ (below_drew (Below.refl _ _))).mono ?_; rintro e wA ⟨⟨ga, rfl, hRa⟩, hA⟩; have hBA : Below wx.heap.size wx wA := (below_drew (Below.refl wx.heap.size wx)).trans hA)
      | (go_at_call_of 24 (Value.int .i64 sb); refine (HOB.out _ hBA).mono ?_; rintro e wB ⟨⟨gb, rfl, hRb⟩, hB2⟩; have hBB : Below wx.heap.size wx wB := hBA.trans (hB2.mono hBA.size); have hRa2 := hRa.below hB2)
      | (go_at_call 35; refine (Equal_any _ _ _ _ _ _ _ _ Xa Xb _ hRa2 hRb).mono ?_; rintro e w' ⟨rfl, rfl⟩))
  go_wp2
  go_ret
  exact ⟨by rw [← HD.out]; rfl, hbx.trans (hBB.mono hbx.size)⟩

set_option maxHeartbeats 1000000 in
set_option maxRecDepth 100000 in
theorem ContainsP_any (A : Option Addr) (n c : Nat) (l : List PW) (p : PW → Bool) (k : Nat) (caps : Array Value) (eg : ∀ args w, (callFunc k args).run Try.prog w = .ok (.enter k args) w) (w : World) (hr : Rd w w.heap.size 2 A n (rowW l)) (hn : n ≤ 1000000)
    (hf : ∀ (W : World) (x : PW), Below w.heap.size w W → x ∈ l → Calls Try.prog k (#[vW x] ++ caps) W fun e w' => e = .returned (.bool (p x)) ∧ Below W.heap.size W w') :
    Calls Try.prog 36 #[.slice A n c, .func (.func k) #[] caps] w fun e w' => e = .returned (.bool (l.any p)) ∧ Below w.heap.size w w' := by
  have HI := Lib.hid (IndexFuncP_any A n c l p k caps eg w hr hn hf)
  clear hr hf
  go_enter Try.func36, Try.ntmps36
  go_wp2_with fail
  refine HI.out.mono ?_
  rintro e w1 ⟨hi, h1⟩
  rcases hi with ⟨hall, rfl⟩ | ⟨i, x, hin, hx, hpx, _, rfl⟩
  · have HA := Lib.hid (show l.any p = false by rw [List.any_eq_false]; intro y hy; rw [hall y hy]; simp)
    clear hall
    go_wp2
    go_ret
    exact ⟨ret_bool HA.out.symm, h1⟩
  · have HA := Lib.hid (show l.any p = true by rw [List.any_eq_true]; exact ⟨x, List.mem_iff_getElem?.2 ⟨i, hx⟩, hpx⟩)
    have hge : decide ((0 : Int) ≤ (i : Int)) = true := decide_eq_true (by omega)
    clear hx hpx
    go_wp2
    go_ret
    exact ⟨ret_bool HA.out.symm, h1⟩

def differs (La Lb : List Pc) (n : Int) : Bool := !decide (octB La n = octB Lb n)
def sameF (sa : Int) (La : List Pc) (sb : Int) (Lb : List Pc) : Bool := okF sa La && (okF sb Lb && (decide (sa = sb) && (!(La.any fun p => differs La Lb p.1) && !(Lb.any fun p => differs La Lb p.1))))
theorem octB_eq {La Lb : List Pc} {n : Nat} (ha : Std La) (hb : Std Lb) : octB La n = octB Lb n ↔ ∀ j, j < 128 → octF La (128 * n + j) = octF Lb (128 * n + j) := by
  rw [octB_tab La n ha, octB_tab Lb n hb, tab_ext]
theorem sameF_iff (sa : Int) (La : List Pc) (sb : Int) (Lb : List Pc) : sameF sa La sb Lb = true ↔ okF sa La = true ∧ okF sb Lb = true ∧ sa = sb ∧ ∀ i, octF La i = octF Lb i := by
  unfold sameF
  simp only [Bool.and_eq_true, decide_eq_true_eq, Bool.not_eq_true', List.any_eq_false]
  constructor
  · rintro ⟨ha, hb, hs, h1, h2⟩
    refine ⟨ha, hb, hs, fun i => ?_⟩
    have hsa := okF_std ha
    have hsb := okF_std hb
    have key : ∀ p : Pc, 0 ≤ p.1 → ((i / 128 : Nat) : Int) = p.1 → differs La Lb p.1 = false → octF La i = octF Lb i := fun p h0 e hd => by
      rw [← e] at hd
      unfold differs at hd
      have := of_decide_eq_true (by simpa using hd : decide (octB La ((i / 128 : Nat) : Int) = octB Lb ((i / 128 : Nat) : Int)) = true)
      have := (octB_eq hsa hsb).1 this (i % 128) (Nat.mod_lt _ (by omega))
      rw [show 128 * (i / 128) + i % 128 = i from by omega] at this
      exact this
    cases hba : blk La ((i / 128 : Nat) : Int) with
    | some b => exact key (((i / 128 : Nat) : Int), b) (by simp only; omega) rfl (by have := h1 _ (blk_some hba); simpa using this)
    | none =>
      cases hbb : blk Lb ((i / 128 : Nat) : Int) with
      | some b => exact key (((i / 128 : Nat) : Int), b) (by simp only; omega) rfl (by have := h2 _ (blk_some hbb); simpa using this)
      | none => rw [octF_out hba, octF_out hbb]
  · rintro ⟨ha, hb, hs, h⟩
    have hsa := okF_std ha
    have hsb := okF_std hb
    have key : ∀ n : Int, 0 ≤ n → differs La Lb n = false := fun n h0 => by
      obtain ⟨k, rfl⟩ : ∃ k : Nat, n = k := ⟨n.toNat, by omega⟩
      unfold differs
      rw [decide_eq_true ((octB_eq hsa hsb).2 fun j _ => h _)]; rfl
    exact ⟨ha, hb, hs, fun p hp => by rw [key _ (hsa.2 p hp).1]; simp, fun p hp => by rw [key _ (hsb.2 p hp).1]; simp⟩

theorem IsP.pws {w : World} {B : Nat} {A : Option Addr} {n c : Nat} {L : List Pc} (h : IsP w B A n c L) : ∃ TW : List PW, Rd w B 2 A n (rowW TW) ∧ (∀ f : Int → Bool, (TW.any fun y => f y.1) = L.any fun p => f p.1) := by
  obtain ⟨_, _, _, T, hT, hTL⟩ := h
  obtain ⟨TW, hTW⟩ := pv_pw T (fun t ht => by obtain ⟨A', n', c', e, _⟩ := hT.2 t ht; exact ⟨A', n', c', e⟩)
  refine ⟨TW, by rw [← rowW_row, hTW]; exact hT.1, fun f => ?_⟩
  rw [← hTL, ← hTW, List.map_map, List.any_map]
  rfl

set_option maxHeartbeats 4000000 in
set_option maxRecDepth 100000 in
theorem SameF_any (sa sb : Int) (Aa Ab : Option Addr) (na ca nb cb : Nat) (La Lb : List Pc) (w : World) (ha : IsP w w.heap.size Aa na ca La) (hb : IsP w w.heap.size Ab nb cb Lb) (hsa : sa ≤ 9223372036854775807) (hsb : sb ≤ 9223372036854775807) (hna : na ≤ 1000000) (hnb : nb ≤ 1000000) :
    Calls Try.prog 22 #[.agg #[.int .i64 sa, .slice Aa na ca], .agg #[.int .i64 sb, .slice Ab nb cb]] w fun e w' => e = .returned (.bool (sameF sa La sb Lb)) ∧ Below w.heap.size w w' := by
  have hMa : ∀ W, Below w.heap.size w W → Calls Try.prog 21 #[.agg #[.int .i64 sa, .slice Aa na ca]] W fun e w' => e = .returned (.bool (okF sa La)) ∧ Below W.heap.size W w' := fun W hW => May_any sa Aa na ca La W (ha.later hW) hsa hna
  have hMb : ∀ W, Below w.heap.size w W → Calls Try.prog 21 #[.agg #[.int .i64 sb, .slice Ab nb cb]] W fun e w' => e = .returned (.bool (okF sb Lb)) ∧ Below W.heap.size W w' := fun W hW => May_any sb Ab nb cb Lb W (hb.later hW) hsb hnb
  obtain ⟨TA, hTA, hanyA⟩ := ha.pws
  obtain ⟨TB, hTB, hanyB⟩ := hb.pws
  obtain ⟨w0, hw0⟩ : ∃ w0, (w.alloc (.cells #[.int .i64 sa, .slice Aa na ca] 24)).alloc (.cells #[.int .i64 sb, .slice Ab nb cb] 24) = w0 := ⟨_, rfl⟩
  have hb0 : Below w.heap.size w w0 := by rw [← hw0]; exact ((Below.refl _ _).alloc (Nat.le_refl _) _).alloc (by simp) _
  have hB0 : Blk w0 w.heap.size 24 (0, 0) #[.int .i64 sa, .slice Aa na ca] := by rw [← hw0]; exact (Blk.new w _ _ _).alloc _
  have hB1 : Blk w0 (w.heap.size + 1) 24 (0, 0) #[.int .i64 sb, .slice Ab nb cb] := by
    rw [← hw0]
    have := Blk.new (w.alloc (.cells #[.int .i64 sa, .slice Aa na ca] 24)) 24 (0, 0) #[.int .i64 sb, .slice Ab nb cb]
    simpa using this
  have hl0 := hB1.lt
  obtain ⟨x0, x1, _, _⟩ := blk2 hB0
  obtain ⟨x2, x3, _, _⟩ := blk2 hB1
  obtain ⟨oa, hoa⟩ : ∃ oa, okF sa La = oa := ⟨_, rfl⟩
  obtain ⟨ob, hob⟩ : ∃ ob, okF sb Lb = ob := ⟨_, rfl⟩
  have hcell : ∀ W, Below w0.heap.size w0 W → W.cell? ⟨w.heap.size, 0, none⟩ = some (.int .i64 sa) ∧ W.cell? ⟨w.heap.size, 1, none⟩ = some (.slice Aa na ca) ∧ W.cell? ⟨w.heap.size + 1, 0, none⟩ = some (.int .i64 sb) ∧ W.cell? ⟨w.heap.size + 1, 1, none⟩ = some (.slice Ab nb cb) := fun W hW =>
    ⟨(hW.cell (p := ⟨w.heap.size, 0, none⟩) (by show w.heap.size < _; omega)).trans x0, (hW.cell (p := ⟨w.heap.size, 1, none⟩) (by show w.heap.size < _; omega)).trans x1, (hW.cell (p := ⟨w.heap.size + 1, 0, none⟩) hl0).trans x2, (hW.cell (p := ⟨w.heap.size + 1, 1, none⟩) hl0).trans x3⟩
  have hClos : oa = true → ob = true → ∀ W (x : PW), Below w0.heap.size w0 W → Calls Try.prog 34 (#[vW x] ++ #[.pointer (some ⟨w.heap.size, 0, none⟩), .pointer (some ⟨w.heap.size + 1, 0, none⟩)]) W fun e w' => e = .returned (.bool (differs La Lb x.1)) ∧ Below W.heap.size W w' := fun h1 h2 W x hW => by
    obtain ⟨c0, c1, c2, c3⟩ := hcell W hW
    exact same1_any x sa sb Aa Ab na ca nb cb La Lb w.heap.size (w.heap.size + 1) W ((ha.later hb0).later hW) ((hb.later hb0).later hW) (okF_std (by rw [hoa, h1])) (okF_std (by rw [hob, h2])) hna hnb c0 c1 c2 c3
  have hCa : oa = true → ob = true → ∀ W, Below w0.heap.size w0 W → Calls Try.prog 36 #[.slice Aa na ca, .func (.func 34) #[] #[.pointer (some ⟨w.heap.size, 0, none⟩), .pointer (some ⟨w.heap.size + 1, 0, none⟩)]] W fun e w' => e = .returned (.bool (La.any fun p => differs La Lb p.1)) ∧ Below W.heap.size W w' := fun h1 h2 W hW => by
    rw [← hanyA (differs La Lb)]
    exact ContainsP_any Aa na ca TA (fun y => differs La Lb y.1) _ _ enters_same1 W (((hTA.below hb0).more hb0.size).below hW |>.more hW.size) hna (fun W' x hW' _ => hClos h1 h2 W' x (hW.trans (hW'.mono hW.size)))
  have hCb : oa = true → ob = true → ∀ W, Below w0.heap.size w0 W → Calls Try.prog 36 #[.slice Ab nb cb, .func (.func 34) #[] #[.pointer (some ⟨w.heap.size, 0, none⟩), .pointer (some ⟨w.heap.size + 1, 0, none⟩)]] W fun e w' => e = .returned (.bool (Lb.any fun p => differs La Lb p.1)) ∧ Below W.heap.size W w' := fun h1 h2 W hW => by
    rw [← hanyB (differs La Lb)]
    exact ContainsP_any Ab nb cb TB (fun y => differs La Lb y.1) _ _ enters_same1 W (((hTB.below hb0).more hb0.size).below hW |>.more hW.size) hnb (fun W' x hW' _ => hClos h1 h2 W' x (hW.trans (hW'.mono hW.size)))
  have hsf : sameF sa La sb Lb = (oa && (ob && (decide (sa = sb) && (!(La.any fun p => differs La Lb p.1) && !(Lb.any fun p => differs La Lb p.1))))) := by unfold sameF; rw [hoa, hob]
  rw [hsf]
  rw [hoa] at hMa
  rw [hob] at hMb
  obtain ⟨da, hda⟩ : ∃ da, (La.any fun p => differs La Lb p.1) = da := ⟨_, rfl⟩
  obtain ⟨db, hdb⟩ : ∃ db, (Lb.any fun p => differs La Lb p.1) = db := ⟨_, rfl⟩
  rw [hda, hdb]
  rw [hda] at hCa
  rw [hdb] at hCb
  have HMA := Lib.hid hMa
  have HMB := Lib.hid hMb
  have HCA := Lib.hid hCa
  have HCB := Lib.hid hCb
  have HW0 := Lib.hid hw0
  have HCELL := Lib.hid hcell
  clear hMa hMb hCa hCb hw0 hcell hClos hsf hda hdb hoa hob hTA hTB hanyA hanyB hB0 hB1 ha hb
  cases oa
  · go_enter Try.func22, Try.ntmps22
    go_wp2_with fail
    rw [HW0.out]
    refine (HMA.out _ hb0).mono ?_
    rintro e w1 ⟨rfl, h1⟩
    have hb1 := hb0.trans (h1.mono hb0.size)
    go_wp2
    go_ret
    exact ⟨rfl, hb1⟩
  cases ob
  · go_enter Try.func22, Try.ntmps22
    go_wp2_with fail
    rw [HW0.out]
    refine (HMA.out _ hb0).mono ?_
    rintro e w1 ⟨rfl, h1⟩
    have hb1 := hb0.trans (h1.mono hb0.size)
    obtain ⟨c0, c1, c2, c3⟩ := HCELL.out w1 h1
    go_wp2_with fail
    refine (HMB.out _ hb1).mono ?_
    rintro e w2 ⟨rfl, h2⟩
    have hb2 := hb1.trans (h2.mono hb1.size)
    go_wp2
    go_ret
    exact ⟨rfl, hb2⟩
  have hcs : (∃ b, decide (sa = sb) = b ∧ (sa != sb) = !b) := ⟨decide (sa = sb), rfl, by rw [Bool.eq_iff_iff]; simp⟩
  obtain ⟨b, hbd, hbn⟩ := hcs
  rw [hbd]
  clear hbd
  cases b
  · go_enter Try.func22, Try.ntmps22
    go_wp2_with fail
    rw [HW0.out]
    refine (HMA.out _ hb0).mono ?_
    rintro e w1 ⟨rfl, h1⟩
    have hb1 := hb0.trans (h1.mono hb0.size)
    obtain ⟨c0, c1, c2, c3⟩ := HCELL.out w1 h1
    go_wp2_with fail
    refine (HMB.out _ hb1).mono ?_
    rintro e w2 ⟨rfl, h2⟩
    have hb2 := hb1.trans (h2.mono hb1.size)
    obtain ⟨c0', c1', c2', c3'⟩ := HCELL.out w2 (h1.trans (h2.mono h1.size))
    clear c0 c1 c2 c3
    go_wp2
    go_ret
    exact ⟨rfl, hb2⟩
  · cases da
    all_goals
      go_enter Try.func22, Try.ntmps22
      go_wp2_with fail
      rw [HW0.out]
      refine (HMA.out _ hb0).mono ?_
      rintro e w1 ⟨rfl, h1⟩
      have hb1 := hb0.trans (h1.mono hb0.size)
      obtain ⟨c0, c1, c2, c3⟩ := HCELL.out w1 h1
      go_wp2_with fail
      refine (HMB.out _ hb1).mono ?_
      rintro e w2 ⟨rfl, h2⟩
      have hb2 := hb1.trans (h2.mono hb1.size)
      have h12 := h1.trans (h2.mono h1.size)
      obtain ⟨c0', c1', c2', c3'⟩ := HCELL.out w2 h12
      clear c0 c1 c2 c3
      go_wp2_with fail
      refine (HCA.out (by first | rfl | trivial) (by first | rfl | trivial) _ h12).mono ?_
      rintro e w3 ⟨rfl, h3⟩
      have hb3 := hb2.trans (h3.mono hb2.size)
      have h13 := h12.trans (h3.mono h12.size)
      obtain ⟨c0, c1, c2, c3⟩ := HCELL.out w3 h13
      clear c0' c1' c2' c3'
      first
        | (go_wp2_with fail
           refine (HCB.out (by first | rfl | trivial) (by first | rfl | trivial) _ h13).mono ?_
           rintro e w4 ⟨rfl, h4⟩
           have hb4 := hb3.trans (h4.mono hb3.size)
           go_wp2
           go_ret
           exact ⟨rfl, hb4⟩)
        | (go_wp2
           go_ret
           exact ⟨rfl, hb3⟩)
end Go.Proofs.Ytpofkkoiicdpbaa
