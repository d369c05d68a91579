/-
  Walk: the numbers with which octets begin, by their widths.
-/
import Derived.Test.YtpjghildhhpeeaaPack
import Derived.Laws.BitsAllLaws
import Derived.Deep.RegionHeld3
import Derived.Deep.AppendLies
namespace Go.Proofs.Ytpjghildhhpeeaa
open Go.RowKit

def valN (bs : List UInt8) : Nat := bs.foldl (fun v c => v * 256 + c.toNat) 0
theorem valN_snoc (bs : List UInt8) (c : UInt8) : valN (bs ++ [c]) = valN bs * 256 + c.toNat := by simp [valN]
theorem fold_lt (bs : List UInt8) : ∀ v, bs.foldl (fun v c => v * 256 + c.toNat) v < (v + 1) * 256 ^ bs.length := by
  induction bs with
  | nil => intro v; simp
  | cons c t ih =>
    intro v
    rw [List.foldl_cons, List.length_cons, Nat.pow_succ]
    refine Nat.lt_of_lt_of_le (ih _) ?_
    have hc := UInt8.toNat_lt c
    have : (v * 256 + c.toNat + 1) * 256 ^ t.length ≤ ((v + 1) * 256) * 256 ^ t.length := Nat.mul_le_mul_right _ (by omega)
    rw [Nat.mul_comm (256 ^ t.length) 256, ← Nat.mul_assoc]
    exact this
theorem valN_lt (bs : List UInt8) : valN bs < 256 ^ bs.length := by
  have := fold_lt bs 0
  simpa [valN] using this
theorem valN_le7 (bs : List UInt8) (h : bs.length ≤ 7) : valN bs ≤ 72057594037927935 := by
  have h1 := valN_lt bs
  have h2 : (256 : Nat) ^ bs.length ≤ 256 ^ 7 := Nat.pow_le_pow_right (by omega) h
  have h3 : (256 : Nat) ^ 7 = 72057594037927936 := by decide
  omega
theorem shl_or (V Y : Nat) (hV : V ≤ 72057594037927935) (hY : Y < 256) : bits .or .u64 ((V : Int) * 256) (Y : Int) = ((V * 256 + Y : Nat) : Int) := by
  have h1 : ((V : Int) * 256) = ((V * 256 : Nat) : Int) := by omega
  rw [h1, u64_or_nat _ _ (by omega) (by omega), nat_join 8 _ _ (by omega) (by omega)]
theorem below_drew {B : Nat} {a w : World} (h : Below B a w) : Below B a w.drew := ⟨h.os, h.tape, h.output, h.size, h.block⟩
def unpackL : List UInt8 → List Nat → List Nat
  | _, [] => []
  | b, n :: t => valN (b.take n) :: unpackL (b.drop n) t
def sumW (l : List Nat) : Nat := l.foldl (· + ·) 0
theorem sumW_snoc (l : List Nat) (x : Nat) : sumW (l ++ [x]) = sumW l + x := by simp [sumW]
theorem unpackL_len (b : List UInt8) (l : List Nat) : (unpackL b l).length = l.length := by
  induction l generalizing b with
  | nil => rfl
  | cons n t ih => simp [unpackL, ih]
theorem sumW_cons (x : Nat) (l : List Nat) : sumW (x :: l) = x + sumW l := by
  unfold sumW
  rw [List.foldl_cons, Nat.zero_add]
  induction l generalizing x with
  | nil => simp
  | cons y t ih => rw [List.foldl_cons, List.foldl_cons, Nat.zero_add, ih (x + y), ih y]; omega
theorem unpackL_take (b : List UInt8) (l : List Nat) (k : Nat) (x : Nat) (h : l[k]? = some x) : unpackL b (l.take (k + 1)) = unpackL b (l.take k) ++ [valN ((b.drop (sumW (l.take k))).take x)] := by
  induction l generalizing b k with
  | nil => simp at h
  | cons n t ih =>
    cases k with
    | zero =>
      simp at h
      subst h
      simp [unpackL, sumW]
    | succ k =>
      have h' : t[k]? = some x := by simpa using h
      rw [List.take_succ_cons, List.take_succ_cons, unpackL, unpackL, ih _ k h', sumW_cons, List.drop_drop]
      rfl
theorem sumW_take_le (l : List Nat) (k : Nat) : sumW (l.take k) ≤ sumW l := by
  induction l generalizing k with
  | nil => simp
  | cons n t ih =>
    cases k with
    | zero => simp [sumW]
    | succ k => rw [List.take_succ_cons, sumW_cons, sumW_cons]; have := ih k; omega
def natsV (l : List Nat) : List Value := l.map fun n : Nat => Value.int .i64 (n : Int)
def u64V (l : List Nat) : List Value := l.map fun n : Nat => Value.int .u64 (n : Int)
theorem u64V_snoc (l : List Nat) (n : Nat) : u64V (l ++ [n]) = u64V l ++ [.int .u64 (n : Int)] := by simp [u64V]
theorem nat_at {w : World} {B n : Nat} {A : Option Addr} {l : List Nat} (h : Rd w B 1 A n (natsV l)) {k : Nat} (hk : k < n) :
    ∃ g o x, A = some ⟨g, o, none⟩ ∧ g < B ∧ l[k]? = some x ∧ w.cell? ⟨g, o + k, none⟩ = some (.int .i64 (x : Nat)) := by
  obtain ⟨g, o, e, hb, hc⟩ := h.2 (by omega)
  have hl := h.1
  unfold natsV at hl hc
  rw [List.length_map] at hl
  have hkl : k < l.length := by omega
  exact ⟨g, o, l[k], e, hb, List.getElem?_eq_getElem hkl, hc k _ (by simp [hkl])⟩
theorem oct_at {w : World} {B n : Nat} {A : Option Addr} {l : List UInt8} (h : Rd w B 1 A n (octV l)) {k : Nat} (hk : k < n) :
    ∃ g o x, A = some ⟨g, o, none⟩ ∧ g < B ∧ l[k]? = some x ∧ w.cell? ⟨g, o + k, none⟩ = some (.int .u8 (x.toNat : Nat)) := by
  obtain ⟨g, o, e, hb, hc⟩ := h.2 (by omega)
  have hl := h.1
  rw [octV_len] at hl
  have hkl : k < l.length := by omega
  exact ⟨g, o, l[k], e, hb, List.getElem?_eq_getElem hkl, hc k _ (octV_get _ _ _ (List.getElem?_eq_getElem hkl))⟩
/-- A row without its first elements. -/
theorem Rd.cut {w : World} {B n k c : Nat} {A : Option Addr} {l : List UInt8} (h : Rd w B 1 A n (octV l)) (hk : k ≤ n) (hc : n ≤ c) : Rd w B 1 (if c = k then A else A.map (·.add k)) (n - k) (octV (l.drop k)) := by
  have hl := h.1
  rw [octV_len] at hl
  refine ⟨by rw [octV_len, List.length_drop]; omega, fun h0 => ?_⟩
  obtain ⟨g, o, rfl, hb, hcell⟩ := h.2 (by omega)
  rw [if_neg (by omega)]
  refine ⟨g, o + k, by simp [add_form], hb, fun j u hu => ?_⟩
  rw [Nat.add_assoc]
  refine hcell (k + j) u ?_
  rw [← hu]
  unfold octV
  rw [List.map_drop, List.getElem?_drop]

set_option maxHeartbeats 4000000 in
set_option maxRecDepth 100000 in
theorem Unpack_ok (A B : Option Addr) (n c m d : Nat) (l : List UInt8) (ws : List Nat) (w : World) (hr : Rd w w.heap.size 1 A n (octV l)) (hw : Rd w w.heap.size 1 B m (natsV ws)) (hnc : n ≤ c) (hc : c ≤ maxLen) (hm : m ≤ 1000) (hok : ∀ x ∈ ws, 1 ≤ x ∧ x ≤ 8) (hfit : sumW ws ≤ n) :
    Calls Try.prog 36 #[.slice A n c, .slice B m d] w fun e w' => (∃ v, e = .returned (.tuple #[v, .int .i64 0]) ∧ w'.ownsRow w.heap.size 60 1 v ws.length (u64V (unpackL l ws))) ∧ Below w.heap.size w w' := by
  have hln : ws.length = m := by have := hw.1; unfold natsV at this; rw [List.length_map] at this; omega
  have HR := Lib.hid hr
  have HW := Lib.hid hw
  have HL := Lib.hid hln
  have HOK := Lib.hid hok
  have HFIT := Lib.hid hfit
  clear hr hw hln hok
  go_enter Try.func36, Try.ntmps36
  go_wp2
  go_loopw [6, 17] (fun s i wr => wr = w ∧ ∃ k : Nat, k ≤ m ∧ i = .int .i64 k ∧ s = .int .i64 (sumW (ws.take k) : Nat) ∧ sumW (ws.take k) ≤ 8 * k) (fun _ i _ => m - (intOf i).toNat)
  case atStart => exact ⟨rfl, 0, Nat.zero_le _, rfl, rfl, Nat.le_refl _⟩
  case round =>
    obtain ⟨rfl, k, hk, rfl, rfl, hs8⟩ := hrel
    by_cases hlt : k < m
    · obtain ⟨g, o, x, rfl, hg, hx, c0⟩ := nat_at HW.out hlt
      obtain ⟨ok1, ok2⟩ := HOK.out x (List.mem_iff_getElem?.2 ⟨k, hx⟩)
      have hsn : sumW (ws.take (k + 1)) = sumW (ws.take k) + x := by rw [take_snoc ws k x hx, sumW_snoc]
      obtain ⟨S, hS⟩ : ∃ S, sumW (ws.take k) = S := ⟨_, rfl⟩
      rw [hS] at hsn hs8 ⊢
      have HSN := Lib.hid hsn
      clear hsn hx hS
      go_wp2_with fail
      refine (wide_any x _ ok1 ok2).mono ?_
      rintro e w1 ⟨rfl, rfl⟩
      go_wp2
      go_roundw
      case rel => exact ⟨trivial, k + 1, by omega, by go_num, by rw [HSN.out]; go_num, by rw [HSN.out]; omega⟩
      case measure => simp [intOf]; omega
    · obtain rfl : k = m := by omega
      have hsum : sumW (ws.take k) = sumW ws := by rw [List.take_of_length_le (by rw [HL.out]; exact Nat.le_refl _)]
      obtain ⟨S, hS⟩ : ∃ S, sumW (ws.take k) = S := ⟨_, rfl⟩
      have hSn : S ≤ n := by rw [← hS, hsum]; exact HFIT.out
      rw [hS] at hs8 ⊢
      clear hsum hS hfit
      obtain ⟨m, hmk⟩ : ∃ m, m = k := ⟨_, rfl⟩
      subst hmk
      obtain ⟨w, hww⟩ : ∃ w, w = wr := ⟨_, rfl⟩
      subst hww
      obtain ⟨i0, hi, hz0, hz1, hz2⟩ := info_parts (P := Try.prog) (e := 60) (z := .int .u64 0) (size := 1) (bytes := 8) (by kernel_rfl)
      unfold maxLen at hc
      have hdS : decide (n < S) = false := decide_eq_false (by omega)
      go_wp2
      go_loopw [0, 9, 34] (fun b v i wr => ∃ (k : Nat) (A' : Option Addr) (c' n' : Nat), k ≤ m ∧ i = .int .i64 k ∧ b = .slice A' n' c' ∧ n' ≤ c' ∧ c' ≤ 9223372036854775807 ∧ Hid (n' + sumW (ws.take k) = n) ∧ Hid (Rd wr w.heap.size 1 A' n' (octV (l.drop (sumW (ws.take k))))) ∧ wr.ownsRow w.heap.size 60 1 v k (u64V (unpackL l (ws.take k))) ∧ Below w.heap.size w wr) (fun _ _ i _ => m - (intOf i).toNat)
      case atStart => exact ⟨0, A, c, n, Nat.zero_le _, rfl, rfl, hnc, hc, Lib.hid (by simp [sumW]), Lib.hid (by simpa [sumW] using HR.out), ⟨rfl, .inl ⟨rfl, rfl⟩⟩, Below.refl _ _⟩
      case round =>
        obtain ⟨k, A', c', n', hk, rfl, rfl, hnc', hc', HN, HA, hown, hbw⟩ := hrel
        by_cases hlt : k < m
        · obtain ⟨g, o, x, rfl, hg, hx, c0⟩ := nat_at (HW.out.below hbw) hlt
          obtain ⟨ok1, ok2⟩ := HOK.out x (List.mem_iff_getElem?.2 ⟨k, hx⟩)
          have hsn : sumW (ws.take (k + 1)) = sumW (ws.take k) + x := by rw [take_snoc ws k x hx, sumW_snoc]
          have hle := sumW_take_le ws (k + 1)
          have hxn : x ≤ n' := by have := HFIT.out; have := HN.out; omega
          have hun := unpackL_take l ws k x hx
          obtain ⟨S, hS⟩ : ∃ S, sumW (ws.take k) = S := ⟨_, rfl⟩
          rw [hS] at hsn hun HN HA
          have hcut := HA.out.cut hxn hnc'
          rw [List.drop_drop] at hcut
          obtain ⟨bs, hbs⟩ : ∃ bs, l.drop S = bs := ⟨_, rfl⟩
          rw [hbs] at hun HA
          have hbl : bs.length = n' := by have := HA.out.1; rw [octV_len] at this; omega
          have HSN := Lib.hid hsn
          have HUN := Lib.hid hun
          have HCUT := Lib.hid hcut
          have HBL := Lib.hid hbl
          obtain ⟨wo, rfl⟩ : ∃ wo : World, wo = wr := ⟨_, rfl⟩
          have HOW := Lib.hid hown
          clear hsn hun hcut hbl hbs hx hS hle hown
          go_wp2
          go_loopw [12, 42] (fun v j wr => wr = wo ∧ ∃ i : Nat, i ≤ x ∧ j = .int .i64 i ∧ v = .int .u64 (valN (bs.take i) : Nat)) (fun _ j _ => x - (intOf j).toNat)
          case atStart => exact ⟨rfl, 0, Nat.zero_le _, rfl, rfl⟩
          case round =>
            obtain ⟨rfl, i, hi1, rfl, rfl⟩ := hrel
            by_cases hlt2 : i < x
            · obtain ⟨g3, o3, y, rfl, hg3, hy, d0⟩ := oct_at HA.out (show i < n' by omega)
              have hv7 := valN_le7 (bs.take i) (by rw [List.length_take]; omega)
              have hvs : valN (bs.take (i + 1)) = valN (bs.take i) * 256 + y.toNat := by rw [take_snoc bs i y hy, valN_snoc]
              have hyl := UInt8.toNat_lt y
              obtain ⟨V, hV⟩ : ∃ V, valN (bs.take i) = V := ⟨_, rfl⟩
              obtain ⟨Y, hY⟩ : ∃ Y, y.toNat = Y := ⟨_, rfl⟩
              rw [hV] at hv7 hvs ⊢
              rw [hY] at hvs d0 hyl
              have HVS := Lib.hid hvs
              clear hvs hV hY hy
              have hor := shl_or V Y hv7 (by omega)
              have HOR := Lib.hid hor
              clear hor
              go_wp2
              go_roundw
              case rel => exact ⟨trivial, i + 1, by omega, by go_num, by rw [HVS.out, HOR.out]⟩
              case measure => simp [intOf]; omega
            · obtain rfl : i = x := by omega
              obtain ⟨V, hV⟩ : ∃ V, valN (bs.take i) = V := ⟨_, rfl⟩
              have HUN2 := Lib.hid (show unpackL l (ws.take (k + 1)) = unpackL l (ws.take k) ++ [V] by rw [HUN.out, hV])
              rw [hV]
              have hkl : (0 : Int) ≤ (i : Int) := Int.natCast_nonneg _
              have hil : (i : Int) ≤ (n' : Int) := by omega
              have hic : (i : Int) ≤ (c' : Int) := by omega
              have hbsz := hbw.size
              have hnewN : (n' - i) + sumW (ws.take (k + 1)) = n := by rw [HSN.out]; have := HN.out; omega
              have HNN := Lib.hid hnewN
              clear hV hnewN
              by_cases hcw : c' = i
              · have hA2 : Rd wr w.heap.size 1 A' (n' - i) (octV (l.drop (sumW (ws.take (k + 1))))) := by
                  have := HCUT.out
                  rw [if_pos hcw] at this
                  rw [HSN.out]; exact this
                have HA2 := Lib.hid hA2
                subst hcw
                have hn0 : n' - c' = 0 := by omega
                clear hA2
                go_wp2_with fail
                go_region_held3 (fun _ => True) (trivial)
                  ((refine step_append_lies _ (by rfl) (.tmp 52) (.tmp 54) 63 (by rfl) w.heap.size 60 i0 _ 1 8 Try.underlying63 hi hz0 hz1 hz2 rfl (by omega) u9 k (u64V (unpackL l (ws.take k))) (by rfl) ((HOW.out.alloc _).drew) ⟨wr.heap.size, 0, none⟩ 1 1 [.int .u64 V] (by rfl) (by rfl) (World.news_of_block (cs := #[.int .u64 V]) (t := 60) (fr := (0, 0)) (heap_alloc_new wr _)) (one_cell rfl) (by omega) (by unfold maxLen; omega) (by omega) (by simp; omega) (wr.heap.size + 1) (by simp) ?_; intro gA capA wA hownA hgrowA hatA hltA))
                have hb0 : Below w.heap.size w (wr.alloc (.cells #[.int .u64 V] 60)).drew := below_drew (hbw.alloc hbw.size _)
                have hbA : Below w.heap.size w wA := hb0.grown hgrowA hb0.size (fun k hk => (HOW.out.lt k hk).1)
                have HO : Hid (wA.ownsRow w.heap.size 60 1 (.slice (some ⟨gA, 0, none⟩) (k + 1) capA) (k + 1) (u64V (unpackL l (ws.take (k + 1))))) := Lib.hid (by
                  rw [HUN2.out, u64V_snoc]; exact hownA)
                have hrA : Below w.heap.size wr wA := (show Below w.heap.size wr (wr.alloc (.cells #[.int .u64 V] 60)).drew from ⟨rfl, rfl, rfl, by simp, fun k hk => Below.heap_alloc wr _ k (by have := hbw.size; omega)⟩).grown hgrowA (by have := hbw.size; simp; omega) (fun k hk => (HOW.out.lt k hk).1)
                have HA3 := Lib.hid (HA2.out.keep (w' := wA) (fun p hp => hrA.cell hp))
                clear hownA hgrowA hatA
                go_wp2
                go_roundw
                case rel => exact ⟨k + 1, A', 0, 0, by omega, by go_num, rfl, Nat.le_refl _, by omega, Lib.hid (by have := HNN.out; omega), Lib.hid (by have := HA3.out; rw [hn0] at this; exact this), HO.out, hbA⟩
                case measure => simp [intOf]; omega
              · obtain ⟨g3, o3, rfl, hg3, _⟩ := HA.out.2 (by omega)
                have hA2 : Rd wr w.heap.size 1 (some ⟨g3, o3 + i, none⟩) (n' - i) (octV (l.drop (sumW (ws.take (k + 1))))) := by
                  have := HCUT.out
                  rw [if_neg hcw, Option.map_some, add_form] at this
                  rw [HSN.out]; exact this
                have HA2 := Lib.hid hA2
                clear hA2
                go_wp2_with fail
                go_region_held3 (fun _ => True) (trivial)
                  ((refine step_append_lies _ (by rfl) (.tmp 52) (.tmp 54) 63 (by rfl) w.heap.size 60 i0 _ 1 8 Try.underlying63 hi hz0 hz1 hz2 rfl (by omega) u9 k (u64V (unpackL l (ws.take k))) (by rfl) ((HOW.out.alloc _).drew) ⟨wr.heap.size, 0, none⟩ 1 1 [.int .u64 V] (by rfl) (by rfl) (World.news_of_block (cs := #[.int .u64 V]) (t := 60) (fr := (0, 0)) (heap_alloc_new wr _)) (one_cell rfl) (by omega) (by unfold maxLen; omega) (by omega) (by simp; omega) (wr.heap.size + 1) (by simp) ?_; intro gA capA wA hownA hgrowA hatA hltA))
                have hb0 : Below w.heap.size w (wr.alloc (.cells #[.int .u64 V] 60)).drew := below_drew (hbw.alloc hbw.size _)
                have hbA : Below w.heap.size w wA := hb0.grown hgrowA hb0.size (fun k hk => (HOW.out.lt k hk).1)
                have HO : Hid (wA.ownsRow w.heap.size 60 1 (.slice (some ⟨gA, 0, none⟩) (k + 1) capA) (k + 1) (u64V (unpackL l (ws.take (k + 1))))) := Lib.hid (by
                  rw [HUN2.out, u64V_snoc]; exact hownA)
                have hrA : Below w.heap.size wr wA := (show Below w.heap.size wr (wr.alloc (.cells #[.int .u64 V] 60)).drew from ⟨rfl, rfl, rfl, by simp, fun k hk => Below.heap_alloc wr _ k (by have := hbw.size; omega)⟩).grown hgrowA (by have := hbw.size; simp; omega) (fun k hk => (HOW.out.lt k hk).1)
                have HA3 := Lib.hid (HA2.out.keep (w' := wA) (fun p hp => hrA.cell hp))
                clear hownA hgrowA hatA
                go_wp2
                go_roundw
                case rel => exact ⟨k + 1, some ⟨g3, o3 + i, none⟩, c' - i, n' - i, by omega, by go_num, rfl, by omega, by omega, HNN, HA3, HO.out, hbA⟩
                case measure => simp [intOf]; omega
        · obtain rfl : k = m := by omega
          rw [List.take_of_length_le (by rw [HL.out]; exact Nat.le_refl _)] at hown
          have HO : Hid (wr.ownsRow w.heap.size 60 1 u9 ws.length (u64V (unpackL l ws))) := Lib.hid (by rw [HL.out]; exact hown)
          clear hown
          go_wp2
          go_ret2
          exact ⟨⟨_, rfl, HO.out⟩, hbw⟩

set_option maxHeartbeats 4000000 in
set_option maxRecDepth 100000 in
theorem Unpack_short (A B : Option Addr) (n c m d : Nat) (ws : List Nat) (w : World) (hw : Rd w w.heap.size 1 B m (natsV ws)) (hm : m ≤ 1000) (hok : ∀ x ∈ ws, 1 ≤ x ∧ x ≤ 8) (hfit : n < sumW ws) :
    Calls Try.prog 36 #[.slice A n c, .slice B m d] w fun e w' => e = .returned (.tuple #[.slice none 0 0, .int .i64 2]) ∧ w = w' := by
  have hln : ws.length = m := by have := hw.1; unfold natsV at this; rw [List.length_map] at this; omega
  have HW := Lib.hid hw
  have HL := Lib.hid hln
  have HOK := Lib.hid hok
  have HFIT := Lib.hid hfit
  clear hw hln hok
  go_enter Try.func36, Try.ntmps36
  go_wp2
  go_loopw [6, 17] (fun s i wr => wr = w ∧ ∃ k : Nat, k ≤ m ∧ i = .int .i64 k ∧ s = .int .i64 (sumW (ws.take k) : Nat) ∧ sumW (ws.take k) ≤ 8 * k) (fun _ i _ => m - (intOf i).toNat)
  case atStart => exact ⟨rfl, 0, Nat.zero_le _, rfl, rfl, Nat.le_refl _⟩
  case round =>
    obtain ⟨rfl, k, hk, rfl, rfl, hs8⟩ := hrel
    by_cases hlt : k < m
    · obtain ⟨g, o, x, rfl, hg, hx, c0⟩ := nat_at HW.out hlt
      obtain ⟨ok1, ok2⟩ := HOK.out x (List.mem_iff_getElem?.2 ⟨k, hx⟩)
      have hsn : sumW (ws.take (k + 1)) = sumW (ws.take k) + x := by rw [take_snoc ws k x hx, sumW_snoc]
      obtain ⟨S, hS⟩ : ∃ S, sumW (ws.take k) = S := ⟨_, rfl⟩
      rw [hS] at hsn hs8 ⊢
      have HSN := Lib.hid hsn
      clear hsn hx hS
      go_wp2_with fail
      refine (wide_any x _ ok1 ok2).mono ?_
      rintro e w1 ⟨rfl, rfl⟩
      go_wp2
      go_roundw
      case rel => exact ⟨trivial, k + 1, by omega, by go_num, by rw [HSN.out]; go_num, by rw [HSN.out]; omega⟩
      case measure => simp [intOf]; omega
    · obtain rfl : k = m := by omega
      have hsum : sumW (ws.take k) = sumW ws := by rw [List.take_of_length_le (by rw [HL.out]; exact Nat.le_refl _)]
      obtain ⟨S, hS⟩ : ∃ S, sumW (ws.take k) = S := ⟨_, rfl⟩
      have hSn : n < S := by rw [← hS, hsum]; exact HFIT.out
      rw [hS] at hs8 ⊢
      have hdS : decide (n < S) = true := decide_eq_true hSn
      clear hsum hS hfit
      go_wp2
      go_ret2
      exact ⟨rfl, rfl⟩
end Go.Proofs.Ytpjghildhhpeeaa
