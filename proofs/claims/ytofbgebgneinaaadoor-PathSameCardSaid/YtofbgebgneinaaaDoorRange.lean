/-
  A law of the walk: a range over an iterator that keeps state of its own in a captured cell (c0), the rounds of which go on or return.
  (Of the family of the kit's laws 'wpIn_rangeFunc_own..'; those do not take an iterator that writes a cell.)
-/
import Derived.Test.YtofbgebgneinaaaDoorMem
import Derived.RangeFuncBox
import Derived.RangeFuncLeaves
import Derived.RangeFuncRecord
import Derived.RangeFuncSeq
import Derived.RangeFuncOwn
import Derived.RangeFuncBound
import Derived.RangeFuncCalls
import Derived.Shelf.RegionOpen
import Derived.OwnWalkIn
import Derived.TacticsInMore
import Derived.LoopNIn
import Derived.LoopIn
namespace Go.Proofs.YtofbgebgneinaaaDoor
open Go.RowKit

/-- How a round's body may be left: it goes on, or it returns. -/
def TurnPost {α : Type} (B : Nat) (Kp : World → World → Prop) (I Ix : List α → World → Prop) (xs : List α) (W : World) : Exit → Act → World → Prop
  | .normal, _, W' => KeepsFrom B W W' ∧ Kp W W' ∧ I xs W'
  | .ret, _, W' => KeepsFrom B W W' ∧ Ix xs W'
  | _, _, _ => False

/-- An iterator with a cell of its own. -/
def IterAt {α : Type} (F : Fence) (n : Nat) (P : Program) (g : Nat) (lb : Array Value) (encs : α → Array Value) (Kp : World → World → Prop) (S Sp : List α → Prop) (Ok : List α → α → Prop) (c0 : Nat) (w0 : World) : Prop :=
  ∀ (l : Nat) (J Jx : List α → World → Prop) (W : World), Kp w0 W → (∀ s X v, J s X → J s (X.setCell ⟨c0, 0, none⟩ v)) →
    (∀ pre x X, J pre X → Ok pre x → YieldAt F (n - 1) P l (encs x) X fun e W' => (e = .returned (.bool true) ∧ J (pre ++ [x]) W' ∧ Kp X W') ∨ (e = .returned (.bool false) ∧ Jx (pre ++ [x]) W')) →
    J [] W →
    CallsIn F n P g (#[.func (.yield l) #[] #[]] ++ lb) W fun e W' => (∃ v, e = .returned v) ∧ ((∃ xs, S xs ∧ J xs W') ∨ (∃ pre, Sp pre ∧ Jx pre W'))

theorem range_walk {α : Type} {F : Fence} {n : Nat} {P : Program} {g : Operand} {ps : Array Tmp} {assign body : Code} {Q : Exit → Act → World → Prop} {a : Act} {w : World}
    (hro : F.round = none) (h1 : 1 ≤ n) {gf : Nat} {lb : Array Value} (hg : a.eval g = .func (.func gf) #[] lb) (hFg : F.fn gf) (eg : ∀ args w, (callFunc gf args).run P w = .ok (.enter gf args) w)
    {encs : α → Array Value} {Kp : World → World → Prop} {S Sp : List α → Prop} {Ok : List α → α → Prop} {c0 : Nat} (hc0 : c0 < w.heap.size) (hit : IterAt F (n - 1) P gf lb encs Kp S Sp Ok c0 w)
    (hKt : ∀ {A B C : World}, Kp A B → Kp B C → Kp A C) (hKl : ∀ o o' : Obj, Kp w ((w.alloc o).alloc o')) (hKb : ∀ (W : World) (l : Nat) (o' : Obj), w.heap.size ≤ l → Kp W (W.putObj l o')) (hps : ∀ x, (encs x).size = ps.size)
    (I Ix : List α → World → Prop) (hIc : ∀ s X v, I s X → I s (X.setCell ⟨c0, 0, none⟩ v))
    (hIp : ∀ s X l o o', w.heap.size ≤ l → X.heap[l]? = some o → o.isCells = false → I s X → I s (X.putObj l o')) (hXp : ∀ s X l o o', w.heap.size ≤ l → X.heap[l]? = some o → o.isCells = false → Ix s X → Ix s (X.putObj l o'))
    (h0 : ∀ o o' : Obj, o.isCells = false → o'.isCells = false → I [] ((w.alloc o).alloc o')) (a₁ : α → Act)
    (hassign : ∀ (l : Nat) (x : α) (W : World) (K : Act → World → Prop), K (a₁ x) W →
      assign.wpIn (F.inRound l) (n - 1 - 1) P (Exit.then K (fun _ _ _ => False)) { tmps := (ps.zip (encs x)).foldl (fun t (p, v) => t.setIfInBounds p v) a.tmps, defers := [] } W)
    (hbody : ∀ (l : Nat) (pre : List α) (x : α) (W : World), I pre W → Ok pre x → body.wpIn (F.inRound l) (n - 1 - 1) P (TurnPost w.heap.size Kp I Ix (pre ++ [x]) W) (a₁ x) W)
    (hdone : ∀ (D : Nat) (xs : List α) (W : World), w.heap.size ≤ D → S xs → I xs W → W.heap[D]? = some (.deferred (some [])) → Q .normal { a with defers := { target := .collected D, args := #[] } :: a.defers } W)
    (hstop : ∀ (D : Nat) (pre : List α) (W : World), w.heap.size ≤ D → Sp pre → Ix pre W → W.heap[D]? = some (.deferred (some [])) → Code.ret.wpIn F n P Q { a with defers := { target := .collected D, args := #[] } :: a.defers } W) :
    (Code.rangeFunc g ps assign body).wpIn F n P Q a w := by
  refine wpIn_rangeFunc fun fn hfn => ?_
  rw [hro]
  obtain ⟨S0, hS0⟩ : ∃ S0, w.heap.size = S0 := ⟨_, rfl⟩
  rw [hS0] at hc0 hKb hIp hXp hbody hdone hstop
  obtain ⟨rc, hrc⟩ : ∃ rc : LoopState → Option Code → Loop, rc = fun st pe => { state := st, pending := pe, fn, tmps := a.tmps, params := ps, assign, body, defers := S0 } := ⟨_, rfl⟩
  have hst : ∀ st pe, (rc st pe).state = st := fun st pe => by rw [hrc]
  have hpe : ∀ st pe, (rc st pe).pending = pe := fun st pe => by rw [hrc]
  have hto : ∀ st pe st' pe', { rc st pe with state := st', pending := pe' } = rc st' pe' := fun st pe st' pe' => by rw [hrc]
  have hto1 : ∀ st pe st', { rc st pe with state := st' } = rc st' pe := fun st pe st' => by rw [hrc]
  obtain ⟨W1, hW1⟩ : ∃ W1, (w.alloc (.deferred (some []))).alloc (.loop (rc .ready none)) = W1 := ⟨_, rfl⟩
  have hL1 : W1.heap[S0 + 1]? = some (.loop (rc .ready none)) := by
    rw [← hW1, ← hS0]
    have := World.alloc_heap_new (w.alloc (.deferred (some []))) (.loop (rc .ready none))
    rwa [World.size_alloc] at this
  have hK1 : W1.heap[S0]? = some (.deferred (some [])) := by
    rw [← hW1, ← hS0]
    exact (Below.heap_alloc _ _ _ (by simp)).trans (World.alloc_heap_new w _)
  have hI1 : I [] W1 := by rw [← hW1]; exact h0 _ _ rfl rfl
  have hKp1 : Kp w W1 := by rw [← hW1]; exact hKl _ _
  have henter : (Instr.enterLoop fn a.tmps ps assign body none).run P w = .ok (S0 + 1, [{ target := .collected S0, args := #[] }]) W1 := by
    have := run_enterLoop_outer (P := P) (w := w) fn a.tmps ps assign body
    rw [hS0] at this
    rw [this, ← hW1, hrc]
  refine ⟨S0 + 1, [{ target := .collected S0, args := #[] }], W1, { target := .fn (.func gf) lb, args := #[.func (.yield (S0 + 1)) #[] #[]] }, W1, gf, #[.func (.yield (S0 + 1)) #[] #[]] ++ lb, W1, henter, ?_, ?_, ?_, fun _ => h1, ?_⟩
  · simp only [resolve, hg]; simp [go_sem]
  · intro f' hf'; simp [Target.leads] at hf'; subst hf'; exact hFg
  · simp [invoke, go_sem, eg]
  refine (hit (S0 + 1)
    (fun pre W => I pre W ∧ W.heap[S0 + 1]? = some (.loop (rc .ready none)) ∧ W.heap[S0]? = some (.deferred (some [])))
    (fun pre W => Ix pre W ∧ W.heap[S0 + 1]? = some (.loop (rc .done (some .ret))) ∧ W.heap[S0]? = some (.deferred (some [])))
    W1 hKp1 ?_ ?_ ⟨hI1, hL1, hK1⟩).mono ?_
  · rintro s X v ⟨h1, h2, h3⟩
    exact ⟨hIc s X v h1, (Below.heap_setCell X _ v (S0 + 1) (by show S0 + 1 ≠ c0; omega)).trans h2, (Below.heap_setCell X _ v S0 (by show S0 ≠ c0; omega)).trans h3⟩
  · rintro pre x X ⟨hi, hl, hk⟩ hlen
    have hlt : S0 + 1 < X.heap.size := (Array.getElem?_eq_some_iff.1 hl).1
    have hy := run_yield (P := P) (args := encs x) hl (by rw [hrc]; exact hps x)
    have e1 : (rc .ready none).fn = fn := by rw [hrc]
    have e2 : (rc .ready none).assign = assign := by rw [hrc]
    have e3 : (rc .ready none).body = body := by rw [hrc]
    have e4 : (rc .ready none).params = ps := by rw [hrc]
    have e5 : (rc .ready none).tmps = a.tmps := by rw [hrc]
    rw [e1, e2, e3, e4, e5] at hy
    obtain ⟨X2, hX2⟩ : ∃ X2, X.putObj (S0 + 1) (.loop (rc .busy none)) = X2 := ⟨_, rfl⟩
    have hbeg : (Instr.beginRound (S0 + 1)).run P X = .ok () X2 := by
      have := run_beginRound (P := P) hl (hst _ _)
      rw [hto1, hX2] at this; exact this
    have hl2 : X2.heap[S0 + 1]? = some (.loop (rc .busy none)) := by rw [← hX2]; exact World.putObj_heap_same hlt
    have hk2 : X2.heap[S0]? = some (.deferred (some [])) := by rw [← hX2]; exact (World.putObj_heap_other (by omega)).trans hk
    have hI2 : I pre X2 := by rw [← hX2]; exact hIp _ _ _ _ _ (by omega) hl rfl hi
    have hKX : Kp X X2 := by rw [← hX2]; exact hKb _ _ _ (by omega)
    refine ⟨fn, _, assign, body, hy, roundIn_of_wpIn hfn (hassign _ x X _ ⟨X2, hbeg, wpIn_mono (hbody _ pre x X2 hI2 hlen) ?_⟩)⟩
    rintro e a3 X3 hp
    cases e with
    | normal =>
      obtain ⟨hkf, hkp, hi3⟩ := hp
      have hl3 := hkf.same _ _ (by omega) hl2 rfl
      have hk3 := hkf.same _ _ (Nat.le_refl _) hk2 rfl
      have hend := run_endRound (P := P) none hl3
      rw [show (if (none : Option Code).isNone = true then LoopState.ready else LoopState.done) = .ready from rfl, hto] at hend
      exact ⟨_, _, hend, .inl ⟨rfl, ⟨hIp _ _ _ _ _ (by omega) hl3 rfl hi3, World.putObj_heap_same (Array.getElem?_eq_some_iff.1 hl3).1, (World.putObj_heap_other (by omega)).trans hk3⟩, hKt (hKt hKX hkp) (hKb _ _ _ (by omega))⟩⟩
    | ret =>
      obtain ⟨hkf, hi3⟩ := hp
      have hl3 := hkf.same _ _ (by omega) hl2 rfl
      have hk3 := hkf.same _ _ (Nat.le_refl _) hk2 rfl
      have hend := run_endRound (P := P) (some .ret) hl3
      rw [show (if (some Code.ret : Option Code).isNone = true then LoopState.ready else LoopState.done) = .done from rfl, hto] at hend
      exact ⟨_, _, hend, .inr ⟨rfl, hXp _ _ _ _ _ (by omega) hl3 rfl hi3, World.putObj_heap_same (Array.getElem?_eq_some_iff.1 hl3).1, (World.putObj_heap_other (by omega)).trans hk3⟩⟩
    | exit id => exact hp.elim
    | goto t => exact hp.elim
    | panic ch => exact hp.elim
    | outgrown => exact hp.elim
  · rintro e W2 ⟨⟨v, rfl⟩, (⟨xs, hS, hi, hl, hk⟩ | ⟨pre, hSp, hi, hl, hk⟩)⟩
    · have hend := run_endLoop (P := P) hl (by rw [hst]; simp)
      rw [hpe] at hend
      exact ⟨none, _, hend, hdone S0 xs _ (Nat.le_refl _) hS (hIp _ _ _ _ _ (by omega) hl rfl hi) ((World.putObj_heap_other (by omega)).trans hk)⟩
    · have hend := run_endLoop (P := P) hl (by rw [hst]; simp)
      rw [hpe] at hend
      exact ⟨some .ret, _, hend, hstop S0 pre _ (Nat.le_refl _) hSp (hXp _ _ _ _ _ (by omega) hl rfl hi) ((World.putObj_heap_other (by omega)).trans hk)⟩
end Go.Proofs.YtofbgebgneinaaaDoor
