/-
  Walk: the program's reading of octets of entries.
-/
import Derived.Test.YtpjghildhhpeeaaEntryQ
import Derived.Test.YtpjghildhhpeeaaUnpackE
import Derived.Deep.RegionHeldLaw
namespace Go.Proofs.Ytpjghildhhpeeaa
open Go.RowKit
set_option linter.unusedVariables false

theorem bt_val (l : List UInt8) (h : 0 < l.length) : valN (l.take 1) = bt l 0 := by
  cases l with
  | nil => simp at h
  | cons a t => simp [valN, bt]
theorem unpack3 (l : List UInt8) (h : 3 ≤ l.length) : unpackL l [1, 1, 1] = [bt l 0, bt l 1, bt l 2] := by
  unfold unpackL unpackL unpackL unpackL
  rw [bt_val _ (by omega), bt_val _ (by rw [List.length_drop]; omega), bt_val _ (by rw [List.length_drop, List.length_drop]; omega)]
  rw [bt_drop, bt_drop, bt_drop]
theorem parse_long (L : List UInt8) (k : Nat) (out : List Ent) (hp : parseE L = (parseE (L.drop k)).map (out ++ ·)) (ho : out.length = 30) (hk : L.drop k ≠ []) : readE L = none := by
  unfold readE
  rw [hp]
  cases ht : parseE (L.drop k) with
  | none => rfl
  | some t =>
    have ht0 : t ≠ [] := fun h => by
      subst h
      have := enc_parse _ _ _ (Nat.le_refl _) ht
      exact hk (by rw [← this]; rfl)
    have htl : 0 < t.length := List.length_pos_iff.2 ht0
    have : mayL (out ++ t) = false := by
      cases hm : mayL (out ++ t) with
      | false => rfl
      | true =>
        have := ((mayL_iff _).1 hm).2
        rw [List.length_append] at this
        omega
    show (if mayL (out ++ t) = true then some (out ++ t) else none) = none
    rw [this]; rfl
theorem cell_grown {w w' : World} {row : Option Nat} (hg : w.grownBy w' row) {p : Addr} (hlt : p.block < w.heap.size) (hne : some p.block ≠ row) : w'.cell? p = w.cell? p := by
  have := hg.block p.block hlt hne
  unfold World.cell?
  rw [this]
def codeR (o : Option (List Ent)) : Int := match o with | some _ => 0 | none => 3

set_option maxHeartbeats 8000000 in
set_option maxRecDepth 100000 in
theorem Decode_any (A : Option Addr) (n c : Nat) (L : List UInt8) (w : World) (hr : Rd w w.heap.size 1 A n (octV L)) (hnc : n ≤ c) (hc : c ≤ maxLen) (hn : n ≤ 900) :
    Calls Try.prog 19 #[.slice A n c] w fun e w' => (∃ v, e = .returned (.tuple #[v, .int .i64 (codeR (readE L))]) ∧ w'.ownsRow w.heap.size 24 3 v (optE (readE L)).length (rowE (optE (readE L)))) ∧ Below w.heap.size w w' := by
  obtain ⟨i0, hi, hz0, hz1, hz2⟩ := info_parts Try.info24
  have hLl : L.length = n := by have := hr.1; rw [octV_len] at this; omega
  have HLl := Lib.hid hLl
  have hnone : parseE L = none → readE L = none := fun h => by unfold readE; rw [h]
  have HNO := Lib.hid hnone
  have HR0 := Lib.hid hr
  unfold maxLen at hc
  clear hLl hnone hr
  go_enter Try.func19, Try.ntmps19
  go_wp2
  go_loopw [4, 5] (fun v r wr => ∃ (k : Nat) (out : List Ent) (A' : Option Addr) (n' c' : Nat), Hid (k + n' = n) ∧ r = .slice A' n' c' ∧ n' ≤ c' ∧ c' ≤ 9223372036854775807 ∧ Hid (Rd wr w.heap.size 1 A' n' (octV (L.drop k))) ∧ Hid (parseE L = (parseE (L.drop k)).map (out ++ ·)) ∧ Hid (∀ x ∈ out, x.1.length ≤ 255) ∧ out.length ≤ 30 ∧ wr.ownsRow w.heap.size 24 3 v out.length (rowE out) ∧ Below w.heap.size w wr) (fun _ r _ => match r with | .slice _ m _ => m | _ => 0)
  case atStart => exact ⟨0, [], A, n, c, Lib.hid (Nat.zero_add _), rfl, hnc, hc, HR0, Lib.hid (by rw [List.drop_zero]; cases parseE L <;> rfl), Lib.hid (by simp), Nat.zero_le _, ⟨rfl, .inl ⟨rfl, rfl⟩⟩, Below.refl _ _⟩
  case round =>
    obtain ⟨k, out, A', n', c', HKN, rfl, hnc', hc', HRR, HP, HX, hol, hown, hbw⟩ := hrel
    have hdl : (L.drop k).length = n' := by rw [List.length_drop, HLl.out]; have := HKN.out; omega
    have hn9 : n' ≤ 900 := by have := HKN.out; omega
    by_cases hlt : 0 < n'
    · have hgt : decide ((0 : Int) < (n' : Int)) = true := decide_eq_true (by omega)
      have hgt2 : decide (0 < n') = true := decide_eq_true hlt
      have hne : L.drop k ≠ [] := fun h => by
        rw [h] at hdl
        simp at hdl; omega
      obtain ⟨wx, hwx⟩ : ∃ wx, wr.alloc (.cells #[.int .i64 1, .int .i64 1, .int .i64 1] 3) = wx := ⟨_, rfl⟩
      have hbx : Below w.heap.size w wx := by rw [← hwx]; exact hbw.alloc hbw.size _
      have hbrx : Below wr.heap.size wr wx := by rw [← hwx]; exact (Below.refl _ _).alloc (Nat.le_refl _) _
      have hB := Blk.new wr 3 (0, 0) #[.int .i64 1, .int .i64 1, .int .i64 1]
      rw [hwx] at hB
      have hwd : Rd wx wx.heap.size 1 (some ⟨wr.heap.size, 0, none⟩) 3 (natsV [1, 1, 1]) := by
        refine ⟨rfl, fun _ => ⟨_, _, rfl, by rw [← hwx]; simp, fun j u hu => ?_⟩⟩
        rw [Nat.zero_add, hB.cell, ← Array.getElem?_toList]
        exact hu
      have hrx : Rd wx wx.heap.size 1 A' n' (octV (L.drop k)) := ((HRR.out.more hbw.size).below hbrx).more hbrx.size
      by_cases h3 : n' < 3
      · have hU := Unpack_short A' (some ⟨wr.heap.size, 0, none⟩) n' c' 3 3 [1, 1, 1] wx hwd (by omega) (by simp) (by simp [sumW]; omega)
        have hno : readE L = none := HNO.out (by rw [HP.out, short_none _ hne (by omega)]; rfl)
        have HO := Lib.hid hno
        have HU := Lib.hid hU
        have HWX := Lib.hid hwx
        clear hno hU hwx hB hwd hrx hne hdl
        go_wp2_with fail
        rw [HWX.out]
        refine HU.out.mono ?_
        rintro e w2 ⟨rfl, rfl⟩
        go_wp2
        go_ret2
        rw [HO.out]
        exact ⟨⟨_, rfl, rfl, .inl ⟨rfl, rfl⟩⟩, hbx⟩
      · have hU := Unpack_ok A' (some ⟨wr.heap.size, 0, none⟩) n' c' 3 3 (L.drop k) [1, 1, 1] wx hrx hwd hnc' (by unfold maxLen; omega) (by omega) (by simp) (by simp [sumW]; omega)
        rw [unpack3 _ (by omega), bt_drop, bt_drop, bt_drop] at hU
        have hstep := parseE_step _ hne
        rw [hdl, bt_drop] at hstep
        have hhd : headE (L.drop k) = (((L.drop (k + 3)).take (bt L (k + 2))), (bt L k : Int), (bt L (k + 1) : Int)) := by
          unfold headE
          rw [bt_drop, bt_drop, bt_drop, List.drop_drop]; rfl
        have hhl := headE_len (L.drop k)
        rw [hhd] at hhl hstep
        rw [List.drop_drop] at hstep
        have q0 := bt_lt L k
        have q1 := bt_lt L (k + 1)
        have q2 := bt_lt L (k + 2)
        rw [Nat.add_zero] at hU
        generalize hx0 : bt L k = x0 at *
        generalize hx1 : bt L (k + 1) = x1 at *
        generalize hx2 : bt L (k + 2) = x2 at *
        have hwx2 : IntKind.i64.wrap (x2 : Int) = (x2 : Int) := IntWalk.i64_in _ ⟨by omega, by omega⟩
        have hw32 : IntKind.i64.wrap (3 + (x2 : Int)) = 3 + (x2 : Int) := IntWalk.i64_in _ ⟨by omega, by omega⟩
        have HU := Lib.hid hU
        have HWX := Lib.hid hwx
        have HST := Lib.hid hstep
        have HHL := Lib.hid hhl
        have HNE := Lib.hid hne
        obtain ⟨Ao, co, rfl, hno1, hno2, ro⟩ := own_form hown
        clear ro
        have hown2 : wx.ownsRow w.heap.size 24 3 (.slice Ao out.length co) out.length (rowE out) := own_below hown hbrx (fun k hk => (hown.lt k hk).2)
        have HOX := Lib.hid hown2
        clear hU hwx hB hwd hrx hne hdl hx0 hx1 hx2 hstep hhl hhd hown hown2
        by_cases h4 : n' < 3 + x2
        · have hno : readE L = none := HNO.out (by rw [HP.out, HST.out, if_pos h4]; rfl)
          have HO := Lib.hid hno
          have hd4 : decide ((n' : Int) < 3 + (x2 : Int)) = true := decide_eq_true (by omega)
          clear hno
          go_wp2_with fail
          rw [HWX.out]
          refine HU.out.mono ?_
          rintro e w2 ⟨⟨v2, rfl, o2⟩, h2⟩
          obtain ⟨A3, c3, rfl, hn3, hm3, r3⟩ := own_form o2
          obtain ⟨g3, o3, rfl, hg3, hc3⟩ := r3.2 (by decide)
          have d0 := hc3 0 _ rfl
          have d1 := hc3 1 _ rfl
          have d2 := hc3 2 _ rfl
          have hb2 := hbx.trans (h2.mono hbx.size)
          clear hc3 r3 o2
          go_wp2
          go_ret2
          rw [HO.out]
          exact ⟨⟨_, rfl, rfl, .inl ⟨rfl, rfl⟩⟩, hb2⟩
        · have hd4 : decide ((n' : Int) < 3 + (x2 : Int)) = false := decide_eq_false (by omega)
          by_cases h5 : out.length = 30
          · have hno : readE L = none := parse_long L k out HP.out h5 HNE.out
            have HO := Lib.hid hno
            have hd5 : ((out.length : Int) == 30) = true := by rw [beq_iff_eq]; omega
            clear hno
            go_wp2_with fail
            rw [HWX.out]
            refine HU.out.mono ?_
            rintro e w2 ⟨⟨v2, rfl, o2⟩, h2⟩
            obtain ⟨A3, c3, rfl, hn3, hm3, r3⟩ := own_form o2
            obtain ⟨g3, o3, rfl, hg3, hc3⟩ := r3.2 (by decide)
            have d0 := hc3 0 _ rfl
            have d1 := hc3 1 _ rfl
            have d2 := hc3 2 _ rfl
            have hb2 := hbx.trans (h2.mono hbx.size)
            clear hc3 r3 o2
            go_wp2
            go_ret2
            rw [HO.out]
            exact ⟨⟨_, rfl, rfl, .inl ⟨rfl, rfl⟩⟩, hb2⟩
          · have hd5 : ((out.length : Int) == 30) = false := beq_false_of_ne (by omega)
            have hst := HST.out
            rw [if_neg h4] at hst
            have HST := Lib.hid hst
            have hwu : IntKind.u64.wrap (3 + (x2 : Int)) = 3 + (x2 : Int) := by rw [IntKind.wrap_u64]; omega
            have hwa : IntKind.i64.wrap (x0 : Int) = (x0 : Int) := IntWalk.i64_in _ ⟨by omega, by omega⟩
            have hwb : IntKind.i64.wrap (x1 : Int) = (x1 : Int) := IntWalk.i64_in _ ⟨by omega, by omega⟩
            clear hst
            by_cases hc3' : c' = 3
            · obtain ⟨g, o, rfl, hg, _⟩ := HRR.out.2 hlt
              obtain rfl : x2 = 0 := by omega
              obtain rfl : n' = 3 := by omega
              subst hc3'
              go_wp2_with fail
              rw [HWX.out]
              refine HU.out.mono ?_
              rintro e w2 ⟨⟨v2, rfl, o2⟩, h2⟩
              obtain ⟨A3, c3, rfl, hn3, hm3, r3⟩ := own_form o2
              obtain ⟨g3, o3, rfl, hg3, hq3⟩ := r3.2 (by decide)
              have d0 : w2.cell? ⟨g3, o3, none⟩ = some (.int .u64 (x0 : Int)) := hq3 0 _ rfl
              have d1 : w2.cell? ⟨g3, o3 + 1, none⟩ = some (.int .u64 (x1 : Int)) := hq3 1 _ rfl
              have d2 : w2.cell? ⟨g3, o3 + 2, none⟩ = some (.int .u64 (0 : Int)) := hq3 2 _ rfl
              have hb2 := hbx.trans (h2.mono hbx.size)
              have hcut : Rd w2 w.heap.size 1 (some ⟨g, o, none⟩) 0 (octV ((L.drop (k + 3)).take 0)) := ⟨by simp [octV], fun h => absurd h (by omega)⟩
              have hcv := conv_bytes w2.drew 42 9 5 (c := 0) Try.underlying42 Try.underlying5 Try.underlying9 (hcut.keep (fun _ _ => rfl))
              obtain ⟨s2, hs2⟩ : ∃ s2 : ByteArray, (⟨((L.drop (k + 3)).take 0).toArray⟩ : ByteArray) = s2 := ⟨_, rfl⟩
              rw [hs2] at hcv
              have i3 : (3 : Int) ≤ 3 + (0 : Int) := by omega
              have i4 : (3 : Int) + (0 : Int) ≤ (3 : Int) := by omega
              have i5 : (3 : Int) + (0 : Int) ≤ (3 : Int) := by omega
              have t1 : ((3 : Int) + (0 : Int)).toNat = 3 + 0 := by omega
              have t2 : 3 + 0 - 3 = 0 := by omega
              have HO2 := Lib.hid (own_below HOX.out h2 (fun k hk => (HOX.out.lt k hk).2))
              have hbsz := hb2.size
              have hgx : wx.heap.size ≤ g3 := (o2.lt g3 rfl).1
              have hne3 : some g3 ≠ (Value.slice Ao out.length co).ownBlock := fun h => by
                have := (HOX.out.lt g3 h.symm).2
                omega
              have hX : ∀ o : Obj, Below w2.heap.size w2 (w2.alloc o).drew := fun o => below_drew ((Below.refl _ _).alloc (Nat.le_refl _) o)
              clear hq3 r3 o2
              go_wp2
              go_region_held_law (fun w' => w'.cell? ⟨g3, o3, none⟩ = some (.int .u64 (x0 : Int)) ∧ w'.cell? ⟨g3, o3 + 1, none⟩ = some (.int .u64 (x1 : Int)) ∧ w'.cell? ⟨g3, o3 + 2, none⟩ = some (.int .u64 (0 : Int)))
                (first
                  | go_keep
                  | exact ⟨(cell_grown hgrowA (by simp; omega) hne3).trans (((hX _).cell hg3).trans d0), (cell_grown hgrowA (by simp; omega) hne3).trans (((hX _).cell hg3).trans d1), (cell_grown hgrowA (by simp; omega) hne3).trans (((hX _).cell hg3).trans d2)⟩)
                ((refine step_append_lies _ (by rfl) (.tmp 37) (.tmp 54) 22 (by rfl) w.heap.size 24 i0 _ 3 32 Try.underlying22 hi hz0 hz1 hz2 rfl (by omega) (.slice Ao out.length co) out.length (rowE out) (by rfl) ((HO2.out.alloc _).drew) ⟨w2.heap.size, 0, none⟩ 1 1 [.string s2, .int .i64 x0, .int .i64 x1] (by rfl) (by rfl) (World.news_of_block (cs := #[.string s2, .int .i64 x0, .int .i64 x1]) (t := 24) (fr := (0, 0)) (heap_alloc_new w2 _)) (by intro u hu; simp at hu; rcases hu with rfl | rfl | rfl <;> rfl) (by omega) (by unfold maxLen; omega) (by omega) (by simp; omega) (w2.heap.size + 1) (by simp) ?_; intro gA capA wA hownA hgrowA hatA hltA))
              have hbr2 : Below w.heap.size wr w2 := (hbrx.mono hbw.size).trans (h2.mono hbx.size)
              have hb0 : Below w.heap.size w (w2.alloc (.cells #[.string s2, .int .i64 x0, .int .i64 x1] 24)).drew := below_drew (hb2.alloc hb2.size _)
              have hbA : Below w.heap.size w wA := hb0.grown hgrowA hb0.size (fun k hk => (HO2.out.lt k hk).1)
              have hr0 : Below w.heap.size wr (w2.alloc (.cells #[.string s2, .int .i64 x0, .int .i64 x1] 24)).drew := below_drew (hbr2.alloc hb2.size _)
              have hrA : Below w.heap.size wr wA := hr0.grown hgrowA hb0.size (fun k hk => (HO2.out.lt k hk).1)
              have hs3 : st ((L.drop (k + 3)).take 0) = s2 := hs2
              have HOA : Hid (wA.ownsRow w.heap.size 24 3 (.slice (some ⟨gA, 0, none⟩) (out.length + 1) capA) (out ++ [((L.drop (k + 3)).take 0, (x0 : Int), (x1 : Int))]).length (rowE (out ++ [((L.drop (k + 3)).take 0, (x0 : Int), (x1 : Int))]))) := Lib.hid (by
                rw [List.length_append]
                show wA.ownsRow _ _ _ _ _ (rowV fE _)
                rw [rowV_snoc]
                show wA.ownsRow _ _ _ _ _ (rowV fE _ ++ [.string (st ((L.drop (k + 3)).take 0)), .int .i64 x0, .int .i64 x1])
                rw [hs3]
                exact hownA)
              have HP2 := Lib.hid (show parseE L = (parseE (L.drop (k + (3 + 0)))).map ((out ++ [((L.drop (k + 3)).take 0, (x0 : Int), (x1 : Int))]) ++ ·) by
                rw [HP.out, HST.out, if_neg (by omega), Option.map_map]
                congr 1
                funext z
                simp)
              have HX2 := Lib.hid (show ∀ x ∈ out ++ [((L.drop (k + 3)).take 0, (x0 : Int), (x1 : Int))], x.1.length ≤ 255 from fun x hx => by
                rcases List.mem_append.1 hx with h | h
                · exact HX.out x h
                · obtain rfl := List.mem_singleton.1 h
                  exact HHL.out)
              have hnl : (out ++ [((L.drop (k + 3)).take 0, (x0 : Int), (x1 : Int))]).length ≤ 30 := by rw [List.length_append]; simp; omega
              have HKN2 := Lib.hid (show (k + (3 + 0)) + (3 - (3 + 0)) = n by have := HKN.out; omega)
              have hq := ((HRR.out.below hrA).cut (k := 3 + 0) (c := 3) (by omega) hnc')
              rw [List.drop_drop] at hq
              clear hownA hgrowA hatA hcv hs2 hs3 d1 hcut
              rw [if_pos (by omega)] at hq
              have HQ := Lib.hid hq
              clear hq
              go_wp2
              go_roundw
              case rel => exact ⟨k + (3 + 0), _, some ⟨g, o, none⟩, 0, 0, HKN2, rfl, by omega, by omega, HQ, HP2, HX2, hnl, HOA.out, hbA⟩
              case measure => simp
            · obtain ⟨g, o, rfl, hg, _⟩ := HRR.out.2 hlt
              go_wp2_with fail
              rw [HWX.out]
              refine HU.out.mono ?_
              rintro e w2 ⟨⟨v2, rfl, o2⟩, h2⟩
              obtain ⟨A3, c3, rfl, hn3, hm3, r3⟩ := own_form o2
              obtain ⟨g3, o3, rfl, hg3, hq3⟩ := r3.2 (by decide)
              have d0 : w2.cell? ⟨g3, o3, none⟩ = some (.int .u64 (x0 : Int)) := hq3 0 _ rfl
              have d1 : w2.cell? ⟨g3, o3 + 1, none⟩ = some (.int .u64 (x1 : Int)) := hq3 1 _ rfl
              have d2 : w2.cell? ⟨g3, o3 + 2, none⟩ = some (.int .u64 (x2 : Int)) := hq3 2 _ rfl
              have hb2 := hbx.trans (h2.mono hbx.size)
              have hcut : Rd w2 w.heap.size 1 (some ⟨g, o + 3, none⟩) x2 (octV ((L.drop (k + 3)).take x2)) := by
                have h1 := (HRR.out.below (B := w.heap.size) (w' := w2) (by exact (by have := hbrx; exact ((hbrx.mono hbw.size).trans (h2.mono hbx.size)))))
                have h2' := h1.cut (k := 3) (c := c') (by omega) hnc'
                rw [if_neg hc3', Option.map_some, List.drop_drop] at h2'
                have hl := h2'.1
                rw [octV_len] at hl
                refine ⟨by rw [octV_len, List.length_take]; omega, fun h0 => ?_⟩
                obtain ⟨g', o', e1, hb', hcell⟩ := h2'.2 (by omega)
                refine ⟨g', o', by rw [← e1, add_form], hb', fun j u hu => hcell j u ?_⟩
                unfold octV at hu ⊢
                rw [List.map_take, List.getElem?_take] at hu
                split at hu
                · exact hu
                · exact absurd hu (by simp)
              have hcv := conv_bytes w2.drew 42 9 5 (c := c' - 3) Try.underlying42 Try.underlying5 Try.underlying9 (hcut.keep (fun _ _ => rfl))
              obtain ⟨s2, hs2⟩ : ∃ s2 : ByteArray, (⟨((L.drop (k + 3)).take x2).toArray⟩ : ByteArray) = s2 := ⟨_, rfl⟩
              rw [hs2] at hcv
              have i3 : (3 : Int) ≤ 3 + (x2 : Int) := by omega
              have i4 : (3 : Int) + (x2 : Int) ≤ (n' : Int) := by omega
              have i5 : (3 : Int) + (x2 : Int) ≤ (c' : Int) := by omega
              have t1 : ((3 : Int) + (x2 : Int)).toNat = 3 + x2 := by omega
              have t2 : 3 + x2 - 3 = x2 := by omega
              have HO2 := Lib.hid (own_below HOX.out h2 (fun k hk => (HOX.out.lt k hk).2))
              have hbsz := hb2.size
              have hgx : wx.heap.size ≤ g3 := (o2.lt g3 rfl).1
              have hne3 : some g3 ≠ (Value.slice Ao out.length co).ownBlock := fun h => by
                have := (HOX.out.lt g3 h.symm).2
                omega
              have hX : ∀ o : Obj, Below w2.heap.size w2 (w2.alloc o).drew := fun o => below_drew ((Below.refl _ _).alloc (Nat.le_refl _) o)
              clear hq3 r3 o2
              go_wp2
              go_region_held_law (fun w' => w'.cell? ⟨g3, o3, none⟩ = some (.int .u64 (x0 : Int)) ∧ w'.cell? ⟨g3, o3 + 1, none⟩ = some (.int .u64 (x1 : Int)) ∧ w'.cell? ⟨g3, o3 + 2, none⟩ = some (.int .u64 (x2 : Int)))
                (first
                  | go_keep
                  | exact ⟨(cell_grown hgrowA (by simp; omega) hne3).trans (((hX _).cell hg3).trans d0), (cell_grown hgrowA (by simp; omega) hne3).trans (((hX _).cell hg3).trans d1), (cell_grown hgrowA (by simp; omega) hne3).trans (((hX _).cell hg3).trans d2)⟩)
                ((refine step_append_lies _ (by rfl) (.tmp 37) (.tmp 54) 22 (by rfl) w.heap.size 24 i0 _ 3 32 Try.underlying22 hi hz0 hz1 hz2 rfl (by omega) (.slice Ao out.length co) out.length (rowE out) (by rfl) ((HO2.out.alloc _).drew) ⟨w2.heap.size, 0, none⟩ 1 1 [.string s2, .int .i64 x0, .int .i64 x1] (by rfl) (by rfl) (World.news_of_block (cs := #[.string s2, .int .i64 x0, .int .i64 x1]) (t := 24) (fr := (0, 0)) (heap_alloc_new w2 _)) (by intro u hu; simp at hu; rcases hu with rfl | rfl | rfl <;> rfl) (by omega) (by unfold maxLen; omega) (by omega) (by simp; omega) (w2.heap.size + 1) (by simp) ?_; intro gA capA wA hownA hgrowA hatA hltA))
              have hbr2 : Below w.heap.size wr w2 := (hbrx.mono hbw.size).trans (h2.mono hbx.size)
              have hb0 : Below w.heap.size w (w2.alloc (.cells #[.string s2, .int .i64 x0, .int .i64 x1] 24)).drew := below_drew (hb2.alloc hb2.size _)
              have hbA : Below w.heap.size w wA := hb0.grown hgrowA hb0.size (fun k hk => (HO2.out.lt k hk).1)
              have hr0 : Below w.heap.size wr (w2.alloc (.cells #[.string s2, .int .i64 x0, .int .i64 x1] 24)).drew := below_drew (hbr2.alloc hb2.size _)
              have hrA : Below w.heap.size wr wA := hr0.grown hgrowA hb0.size (fun k hk => (HO2.out.lt k hk).1)
              have hs3 : st ((L.drop (k + 3)).take x2) = s2 := hs2
              have HOA : Hid (wA.ownsRow w.heap.size 24 3 (.slice (some ⟨gA, 0, none⟩) (out.length + 1) capA) (out ++ [((L.drop (k + 3)).take x2, (x0 : Int), (x1 : Int))]).length (rowE (out ++ [((L.drop (k + 3)).take x2, (x0 : Int), (x1 : Int))]))) := Lib.hid (by
                rw [List.length_append]
                show wA.ownsRow _ _ _ _ _ (rowV fE _)
                rw [rowV_snoc]
                show wA.ownsRow _ _ _ _ _ (rowV fE _ ++ [.string (st ((L.drop (k + 3)).take x2)), .int .i64 x0, .int .i64 x1])
                rw [hs3]
                exact hownA)
              have HP2 := Lib.hid (show parseE L = (parseE (L.drop (k + (3 + x2)))).map ((out ++ [((L.drop (k + 3)).take x2, (x0 : Int), (x1 : Int))]) ++ ·) by
                rw [HP.out, HST.out, Option.map_map]
                congr 1
                funext z
                simp)
              have HX2 := Lib.hid (show ∀ x ∈ out ++ [((L.drop (k + 3)).take x2, (x0 : Int), (x1 : Int))], x.1.length ≤ 255 from fun x hx => by
                rcases List.mem_append.1 hx with h | h
                · exact HX.out x h
                · obtain rfl := List.mem_singleton.1 h
                  exact HHL.out)
              have hnl : (out ++ [((L.drop (k + 3)).take x2, (x0 : Int), (x1 : Int))]).length ≤ 30 := by rw [List.length_append]; simp; omega
              have HKN2 := Lib.hid (show (k + (3 + x2)) + (n' - (3 + x2)) = n by have := HKN.out; omega)
              have hq := ((HRR.out.below hrA).cut (k := 3 + x2) (c := c') (by omega) hnc')
              rw [List.drop_drop] at hq
              clear hownA hgrowA hatA hcv hs2 hs3 d1 hcut
              by_cases hc5 : c' = 3 + x2
              · rw [if_pos hc5] at hq
                have HQ := Lib.hid hq
                clear hq
                subst hc5
                have hz0' : Value.slice (some ⟨g, o, none⟩) 0 0 = .slice (some ⟨g, o, none⟩) (n' - (3 + x2)) 0 := by rw [show n' - (3 + x2) = 0 from by omega]
                go_wp2
                go_roundw
                case rel => exact ⟨k + (3 + x2), _, some ⟨g, o, none⟩, n' - (3 + x2), 0, HKN2, rfl, by omega, by omega, HQ, HP2, HX2, hnl, HOA.out, hbA⟩
                case measure => simp; omega
              · rw [if_neg hc5, Option.map_some, add_form] at hq
                have HQ := Lib.hid hq
                clear hq
                go_wp2
                go_roundw
                case rel => exact ⟨k + (3 + x2), _, some ⟨g, o + (3 + x2), none⟩, n' - (3 + x2), _, HKN2, rfl, by omega, by omega, HQ, HP2, HX2, hnl, HOA.out, hbA⟩
                case measure => simp; omega
    · have hn0 : n' = 0 := by omega
      subst hn0
      have hk : k = n := by have := HKN.out; omega
      have hpo : parseE L = some out := by rw [HP.out, List.eq_nil_of_length_eq_zero hdl, parseE_nil]; simp
      have heq : encE out = L := enc_parse _ _ _ (Nat.le_refl _) hpo
      have hgt2 : decide ((0 : Int) < ((0 : Nat) : Int)) = false := by decide
      obtain ⟨Ao, co, rfl, hno1, hno2, ro⟩ := own_form hown
      have hE := Encode_any Ao out.length co out wr ro (by omega) (fun x hx => Nat.le_trans (HX.out x hx) (by omega))
      have HOW := Lib.hid hown
      have RL := Lib.hid (HR0.out.below hbw)
      clear hown ro
      by_cases hml : mayL out = true
      · have hrd : readE L = some out := by unfold readE; rw [hpo]; simp [hml]
        have hcd : codeE out = (L, 0) := by unfold codeE; rw [if_pos hml, heq]
        rw [hcd] at hE
        have HRD := Lib.hid hrd
        have HE := Lib.hid hE
        clear hE hcd hrd hml hpo heq hdl
        go_wp2_with fail
        refine HE.out.mono ?_
        rintro e w2 ⟨⟨v2, rfl, o2⟩, h2⟩
        obtain ⟨A2, c2, rfl, hn2, hm2, r2⟩ := own_form o2
        have hb2 := hbw.trans (h2.mono hbw.size)
        have hQ := Equal_any A2 A _ c2 n c _ _ L L w2 r2 ((RL.out.more hbw.size).below h2)
        rw [decide_eq_true (rfl : L = L)] at hQ
        have HQ := Lib.hid hQ
        have HO2 := Lib.hid (own_below HOW.out h2 (fun k hk => (HOW.out.lt k hk).2))
        clear hQ o2 r2
        go_wp2_with fail
        refine HQ.out.mono ?_
        rintro e w3 ⟨rfl, rfl⟩
        go_wp2
        go_ret2
        rw [HRD.out]
        exact ⟨⟨_, rfl, HO2.out⟩, hb2⟩
      · have hmf : mayL out = false := by simpa using hml
        have hrd : readE L = none := by unfold readE; rw [hpo]; simp [hmf]
        have hcd : codeE out = ([], 1) := by unfold codeE; rw [if_neg hml]
        rw [hcd] at hE
        have HRD := Lib.hid hrd
        have HE := Lib.hid hE
        clear hE hcd hrd hml hmf hpo heq hdl
        go_wp2_with fail
        refine HE.out.mono ?_
        rintro e w2 ⟨⟨v2, rfl, o2⟩, h2⟩
        have hb2 := hbw.trans (h2.mono hbw.size)
        go_wp2
        go_ret2
        rw [HRD.out]
        exact ⟨⟨_, rfl, rfl, .inl ⟨rfl, rfl⟩⟩, hb2⟩
end Go.Proofs.Ytpjghildhhpeeaa
