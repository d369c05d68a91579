/-
  Walks: the pieces of a path, one by one (strings.SplitSeq at "/").
-/
import Derived.Test.YtofbgebgneinaaaDoorPathA
import Derived.Test.YtofbgebgneinaaaDoorRange
import Derived.Test.YtofbgebgneinaaaDoorShelf
import Derived.Shelf.Abstract
import Derived.WalkKit
import Derived.Test.YtofbgebgneinaaaDoorTitleD
namespace Go.Proofs.YtofbgebgneinaaaDoor
open Go.RowKit Go.Shelf
set_option linter.unusedVariables false
attribute [local go_sem] Oper.semAt_some

def Keeps3 (a b c : Nat) (X Y : World) : Prop := Y.heap[a]? = X.heap[a]? ∧ Y.heap[b]? = X.heap[b]? ∧ Y.heap[c]? = X.heap[c]?
theorem Keeps3.trans {a b c : Nat} {X Y Z : World} (h : Keeps3 a b c X Y) (k : Keeps3 a b c Y Z) : Keeps3 a b c X Z := ⟨k.1.trans h.1, k.2.1.trans h.2.1, k.2.2.trans h.2.2⟩
/-- How long the text in a box is: for a loop's measure. -/
def sizeAt (B : Nat) (W : World) : Nat := match W.cell? ⟨B, 0, none⟩ with | some (.string s) => s.size | _ => 0
theorem sizeAt_eq {B : Nat} {W : World} {t : TypeId} {s : ByteArray} (h : Boxed W B t (.string s)) : sizeAt B W = s.size := by unfold sizeAt; rw [h.cell]

theorem oc_head (s : ByteArray) (k : Nat) : oc (s.extract 0 k) = (oc s).take k := by rw [oc_extract]; rfl
theorem oc_tail (s : ByteArray) (k : Nat) : oc (s.extract k s.size) = (oc s).drop k := by
  rw [oc_extract, List.take_of_length_le (by rw [oc_len]; exact Nat.le_refl _)]

theorem box_other {W : World} {B C : Nat} {t : TypeId} {v : Value} (h : Boxed W B t v) (hn : B ≠ C) (u : Value) : Boxed (W.setCell ⟨C, 0, none⟩ u) B t v := (Below.heap_setCell W ⟨C, 0, none⟩ u B hn).trans h
theorem box_below {W W' : World} {B : Nat} {t : TypeId} {v : Value} (h : Boxed W B t v) (hb : Below W.heap.size W W') : Boxed W' B t v := (hb.block B h.lt).trans h
theorem below_keeps {B : Nat} {W W' : World} (hb : Below W.heap.size W W') : KeepsFrom B W W' := ⟨hb.size, fun k o _ hk _ => (hb.block k (Array.getElem?_eq_some_iff.1 hk).1).trans hk⟩

/-- x comes behind 'pre' among the pieces of s. -/
def NextPiece (s : ByteArray) (pre : List ByteArray) (x : ByteArray) : Prop := ∃ rest, (pre ++ [x]).map oc ++ rest = splitB (oc s)

set_option maxHeartbeats 2000000 in
set_option maxRecDepth 100000 in
theorem split1_in (n : Nat) (hn : 3 ≤ n) (l Bs Bp Bv : Nat) (hne : Bs ≠ Bp ∧ Bs ≠ Bv) (s0 : ByteArray) (hs0 : s0.size ≤ 1000000) (J Jx : List ByteArray → World → Prop) (hJ : ∀ s X v, J s X → J s (X.setCell ⟨Bs, 0, none⟩ v))
    (hY : ∀ pre x X, J pre X → NextPiece s0 pre x → YieldAt Fence.wide (n - 1) Tryd.prog l #[.string x] X fun e W' =>
      (e = .returned (.bool true) ∧ J (pre ++ [x]) W' ∧ Keeps3 Bs Bp Bv X W') ∨ (e = .returned (.bool false) ∧ Jx (pre ++ [x]) W'))
    (W : World) (hb1 : Boxed W Bs 9 (.string s0)) (hb2 : Boxed W Bp 9 (.string ⟨#[47]⟩)) (hb3 : Boxed W Bv 3 (.int .i64 0)) (h0 : J [] W) :
    CallsIn Fence.wide n Tryd.prog 41 #[.func (.yield l) #[] #[], .pointer (some ⟨Bp, 0, none⟩), .pointer (some ⟨Bs, 0, none⟩), .pointer (some ⟨Bv, 0, none⟩)] W fun e W' => (∃ v, e = .returned v) ∧
      ((∃ xs, xs.map oc = splitB (oc s0) ∧ J xs W') ∨ (∃ pre, (∃ rest, pre.map oc ++ rest = splitB (oc s0)) ∧ Jx pre W')) := by
  have n1 : 1 ≤ n := by omega
  have f1 : Fence.wide.fn 43 := trivial
  refine callsIn_of_wp Tryd.func41 rfl trivial ?_ rfl
  simp only [Tryd.ntmps41, List.size_toArray, List.length_cons, List.length_nil, Nat.reduceAdd, Nat.reduceSub, Array.replicate_succ, Array.replicate_zero, List.push_toArray, List.append_toArray, List.nil_append, List.cons_append]
  have hc2 := hb2.cell
  gi_wp2
  gi_loopw [7] (fun _ wr => ∃ (pre : List ByteArray) (cur : ByteArray), pre.map oc ++ splitB (oc cur) = splitB (oc s0) ∧ cur.size ≤ s0.size ∧ Boxed wr Bs 9 (.string cur) ∧ Boxed wr Bp 9 (.string ⟨#[47]⟩) ∧ Boxed wr Bv 3 (.int .i64 0) ∧ J pre wr)
    (fun _ wr => sizeAt Bs wr)
  case atStart => exact ⟨[], s0, rfl, Nat.le_refl _, hb1, hb2, hb3, h0⟩
  case round =>
    obtain ⟨pre, cur, hsp, hlen, k1, k2, k3, hj⟩ := hrel
    have d1 := k1.cell
    have d2 := k2.cell
    have d3 := k3.cell
    by_cases hi : Lib.indexByte (oc cur) 47 = -1
    · have hs1 := split_none (oc cur) hi
      obtain ⟨fn, tmps, assign, body, hy, hR⟩ := hY pre cur wr hj ⟨[], by rw [List.append_nil, List.map_append, ← hsp, hs1]; rfl⟩
      have HI : Hid (Lib.indexByte cur.data.toList 47 = -1) := Lib.hid hi
      have HS := Lib.hid (show (pre ++ [cur]).map oc = splitB (oc s0) from by rw [List.map_append, ← hsp, hs1]; rfl)
      clear hi hs1 hsp
      gi_wp2_with (gi_at_call 43; refine (callsIn_wide.2 (Tryd.strings_Index_one cur 47 _)).mono ?_; rintro e w' ⟨rfl, rfl⟩; rw [HI.out])
      refine hR.mono ?_
      rintro e W3 (⟨rfl, hJ3, hk3⟩ | ⟨rfl, hJx3⟩)
      · gi_wp2
        go_end0
        exact ⟨⟨_, rfl⟩, .inl ⟨pre ++ [cur], HS.out, hJ3⟩⟩
      · gi_wp2
        go_end0
        exact ⟨⟨_, rfl⟩, .inr ⟨pre ++ [cur], ⟨[], by rw [List.append_nil]; exact HS.out⟩, hJx3⟩⟩
    · obtain ⟨h1, h2, h3⟩ := split_some (oc cur) hi
      obtain ⟨k, hk⟩ := Int.eq_ofNat_of_zero_le h1
      rw [hk, Int.toNat_natCast] at h2 h3
      rw [oc_len] at h2
      have HI : Hid (Lib.indexByte cur.data.toList 47 = (k : Int)) := Lib.hid hk
      have hfs : (cur.extract (k + 1) cur.size).size < cur.size := by rw [ByteArray.size_extract]; omega
      have hps : (pre ++ [cur.extract 0 k]).map oc ++ splitB (oc (cur.extract (k + 1) cur.size)) = splitB (oc s0) := by
        rw [List.map_append, List.append_assoc, ← hsp, h3, oc_tail]
        show _ ++ ([oc (cur.extract 0 k)] ++ _) = _
        rw [oc_head]; rfl
      have HS := Lib.hid hps
      obtain ⟨fr, hfr⟩ : ∃ fr, cur.extract 0 k = fr := ⟨_, rfl⟩
      obtain ⟨nx, hnx⟩ : ∃ nx, cur.extract (k + 1) cur.size = nx := ⟨_, rfl⟩
      rw [hfr, hnx] at HS
      rw [hnx] at hfs
      have hln : nx.size ≤ s0.size := by omega
      obtain ⟨fn, tmps, assign, body, hy, hR⟩ := hY pre fr wr hj ⟨_, HS.out⟩
      have hks : k + 1 ≤ cur.size := h2
      clear hps h3 hsp hi h1 hk h2
      gi_wp2_with (gi_at_call 43; refine (callsIn_wide.2 (Tryd.strings_Index_one cur 47 _)).mono ?_; rintro e w' ⟨rfl, rfl⟩; rw [HI.out])
      refine hR.mono ?_
      rintro e W3 (⟨rfl, hJ3, q1, q2, q3⟩ | ⟨rfl, hJx3⟩)
      · have m1 : Boxed W3 Bs 9 (.string cur) := q1.trans k1
        have m2 : Boxed W3 Bp 9 (.string ⟨#[47]⟩) := q2.trans k2
        have m3 : Boxed W3 Bv 3 (.int .i64 0) := q3.trans k3
        have n1 := m1.cell
        have n2 := m2.cell
        have n4 := m1.frozen
        gi_wp2
        go_roundw
        case rel => exact ⟨pre ++ [fr], nx, HS.out, hln, m1.set (.string nx), box_other m2 hne.1.symm _, box_other m3 hne.2.symm _, hJ _ _ _ hJ3⟩
        case measure => rw [sizeAt_eq (m1.set (.string nx)), sizeAt_eq k1]; exact hfs
      · gi_wp2
        refine bodyPost_ret (results_none rfl _ _ _) rfl ?_
        exact ⟨⟨_, rfl⟩, .inr ⟨pre ++ [fr], ⟨_, HS.out⟩, hJx3⟩⟩
end Go.Proofs.YtofbgebgneinaaaDoor
