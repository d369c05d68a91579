/-
  Walks: where a path leads.
-/
import Derived.Test.YtofbgebgneinaaaDoorPathB
import Derived.Test.YtofbgebgneinaaaDoorTitleM
import Derived.Test.YtofbgebgneinaaaDoorApp
namespace Go.Proofs.YtofbgebgneinaaaDoor
open Go.RowKit Go.Shelf
set_option linter.unusedVariables false
attribute [local go_sem] Oper.semAt_some

/-- Texts, as cells. -/
def strV (l : List (List UInt8)) : List Value := l.map fun b => .string (st b)
theorem strV_len (l : List (List UInt8)) : (strV l).length = l.length := by simp [strV]
theorem strV_snoc (l : List (List UInt8)) (x : List UInt8) : strV (l ++ [x]) = strV l ++ [.string (st x)] := by simp [strV]
theorem strV_one (l : List (List UInt8)) : ∀ u ∈ strV l, u.oneCell' = true := by
  intro u hu
  obtain ⟨x, _, rfl⟩ := List.mem_map.1 hu
  rfl
def OwnS (w w' : World) (v : Value) (l : List (List UInt8)) : Prop := w'.ownsRow w.heap.size 9 1 v l.length (strV l)

/-- strings.SplitSeq: three boxes, and a function value over them. -/
theorem splitSeq0_any (s sep : ByteArray) (w : World) :
    Calls Tryd.prog 30 #[.string s, .string sep, .int .i64 0] w fun e w' => e = .returned (.func (.func 41) #[] #[.pointer (some ⟨w.heap.size + 1, 0, none⟩), .pointer (some ⟨w.heap.size, 0, none⟩), .pointer (some ⟨w.heap.size + 2, 0, none⟩)]) ∧
      w' = ((w.alloc (.cells #[.string s] 9)).alloc (.cells #[.string sep] 9)).alloc (.cells #[.int .i64 0] 3) := by
  go_enter Tryd.func30, Tryd.ntmps30
  go_wp2
  go_ret
  exact ⟨rfl, rfl⟩
theorem SplitSeq_any (s sep : ByteArray) (w : World) :
    Calls Tryd.prog 20 #[.string s, .string sep] w fun e w' => e = .returned (.func (.func 41) #[] #[.pointer (some ⟨w.heap.size + 1, 0, none⟩), .pointer (some ⟨w.heap.size, 0, none⟩), .pointer (some ⟨w.heap.size + 2, 0, none⟩)]) ∧
      w' = ((w.alloc (.cells #[.string s] 9)).alloc (.cells #[.string sep] 9)).alloc (.cells #[.int .i64 0] 3) := by
  go_enter Tryd.func20, Tryd.ntmps20
  go_wp2_with fail
  refine (splitSeq0_any s sep w).mono ?_
  rintro e w' ⟨rfl, rfl⟩
  go_wp2
  go_ret
  exact ⟨rfl, rfl⟩

/-- What stands while pieces come: where they have led; the boxes. -/
def PI (w : World) (pre : List ByteArray) (W : World) : Prop :=
  ∃ (v : Value) (out : List (List UInt8)), Boxed W (w.heap.size + 2) 23 v ∧ W.ownsRow (w.heap.size + 6) 9 1 v out.length (strV out) ∧ out.length ≤ 8 ∧
    (∀ rest, parseGo [] (pre.map oc ++ rest) = parseGo out rest) ∧ Boxed W w.heap.size 23 (.slice none 0 0) ∧ Boxed W (w.heap.size + 1) 24 (.int .i64 0) ∧ Below w.heap.size w W ∧ w.heap.size + 6 ≤ W.heap.size
def PX (w : World) (pre : List ByteArray) (W : World) : Prop :=
  ∃ e : Int, Boxed W w.heap.size 23 (.slice none 0 0) ∧ Boxed W (w.heap.size + 1) 24 (.int .i64 e) ∧ (∀ rest, parseGo [] (pre.map oc ++ rest) = ([], e)) ∧ Below w.heap.size w W

theorem own_low {W : World} {base B n : Nat} {e : TypeId} {v x : Value} {xs : List Value} (h : W.ownsRow base e 1 v n xs) (hB : B < base) : (W.setCell ⟨B, 0, none⟩ x).ownsRow base e 1 v n xs :=
  h.kept (grownBy_setCell' W B x) (.inr (fun e => by have := (h.lt B e).1; omega))
theorem below_putObj {B l : Nat} {X : World} (h : B ≤ l) (o : Obj) : Below B X (X.putObj l o) := ⟨rfl, rfl, rfl, by simp, fun k hk => World.putObj_heap_other (by omega)⟩
theorem box_putObj {X : World} {B l : Nat} {t : TypeId} {v : Value} (h : Boxed X B t v) (hl : B ≠ l) (o : Obj) : Boxed (X.putObj l o) B t v := (World.putObj_heap_other hl).trans h
theorem own_cut {W : World} {base n : Nat} {e : TypeId} {g cap : Nat} {xs : List Value} (h : OwnB W base e 1 g n cap xs) (k : Nat) (hk : k ≤ n) : W.ownsRow base e 1 (.slice (some ⟨g, 0, none⟩) k cap) k (xs.take k) := by
  obtain ⟨cur, hb, hs, ht, hl, hbg, hn, hm⟩ := h
  refine ⟨by rw [List.length_take]; omega, .inr ⟨g, cap, cur, rfl, hbg, hb, by omega, hm, hs, ?_⟩⟩
  rw [← ht, List.take_take]
  congr 1; omega

theorem PI_set {w W : World} {pre : List ByteArray} {v v' : Value} {out' : List (List UInt8)} (k1 : Boxed W (w.heap.size + 2) 23 v) (k2 : W.ownsRow (w.heap.size + 6) 9 1 v' out'.length (strV out')) (k3 : out'.length ≤ 8)
    (k4 : ∀ rest, parseGo [] (pre.map oc ++ rest) = parseGo out' rest) (k5 : Boxed W w.heap.size 23 (.slice none 0 0)) (k6 : Boxed W (w.heap.size + 1) 24 (.int .i64 0)) (k7 : Below w.heap.size w W) (k8 : w.heap.size + 6 ≤ W.heap.size) :
    PI w pre (W.setCell ⟨w.heap.size + 2, 0, none⟩ v') :=
  ⟨v', out', k1.set v', own_low k2 (by omega), k3, k4, box_other k5 (by omega) v', box_other k6 (by omega) v', k7.setCell (p := ⟨w.heap.size + 2, 0, none⟩) (by show w.heap.size ≤ w.heap.size + 2; omega) v', by simpa [World.setCell] using k8⟩
theorem keeps3_set (W : World) (b : Nat) (x : Value) : Keeps3 (b + 3) (b + 4) (b + 5) W (W.setCell ⟨b + 2, 0, none⟩ x) :=
  ⟨Below.heap_setCell W _ x _ (by show b + 3 ≠ b + 2; omega), Below.heap_setCell W _ x _ (by show b + 4 ≠ b + 2; omega), Below.heap_setCell W _ x _ (by show b + 5 ≠ b + 2; omega)⟩
theorem PX_set {w W : World} {pre : List ByteArray} {e : Int} (k3 : ∀ rest, parseGo [] (pre.map oc ++ rest) = ([], e)) (k5 : Boxed W w.heap.size 23 (.slice none 0 0)) (k6 : Boxed W (w.heap.size + 1) 24 (.int .i64 0)) (k7 : Below w.heap.size w W) :
    PX w pre ((W.setCell ⟨w.heap.size, 0, none⟩ (.slice none 0 0)).setCell ⟨w.heap.size + 1, 0, none⟩ (.int .i64 e)) :=
  ⟨e, box_other (k5.set _) (by omega) _, (box_other k6 (by omega) _).set _, k3, (k7.setCell (p := ⟨w.heap.size, 0, none⟩) (Nat.le_refl _) _).setCell (p := ⟨w.heap.size + 1, 0, none⟩) (by show w.heap.size ≤ w.heap.size + 1; omega) _⟩
theorem grown_low {X Y : World} {base n : Nat} {e : TypeId} {v : Value} {xs : List Value} (h : X.ownsRow base e 1 v n xs) (hg : X.grownBy Y v.ownBlock) {k : Nat} (hk : k < base) (hl : base ≤ X.heap.size) : Y.heap[k]? = X.heap[k]? :=
  hg.block k (by omega) (fun e => by have := (h.lt k e.symm).1; omega)
theorem grown_keeps {B : Nat} {X Y : World} {base n : Nat} {e : TypeId} {v : Value} {xs : List Value} (h : X.ownsRow base e 1 v n xs) (hg : X.grownBy Y v.ownBlock) : KeepsFrom B X Y :=
  ⟨hg.size, fun k o _ hk ho => (hg.block k (Array.getElem?_eq_some_iff.1 hk).1 (fun e => by
    rcases h.2 with ⟨rfl, _⟩ | ⟨g, cap, cur, rfl, _, hgb, _⟩
    · simp [Value.ownBlock] at e
    · obtain rfl : k = g := by simpa [Value.ownBlock] using e
      rw [hgb] at hk; cases hk; cases ho)).trans hk⟩
theorem strV_drop (l : List (List UInt8)) (m : Nat) (h : l.length = m + 1) : strV l.dropLast = (strV l).take m := by
  unfold strV
  rw [← List.map_take, List.dropLast_eq_take, h]; rfl
end Go.Proofs.YtofbgebgneinaaaDoor
