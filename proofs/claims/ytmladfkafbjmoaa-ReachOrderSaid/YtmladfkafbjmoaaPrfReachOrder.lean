/- The law ReachOrder of the program's layer 8 returns true and leaves its arguments as they were: for every input; no condition. -/
import Derived.Test.YtmladfkafbjmoaaRows
import Derived.Test.YtmladfkafbjmoaaReachT
import Derived.WalkKit
import Derived.ProofKit
import Derived.OpenShut
import Derived.ShutString
import Derived.ChangeOld
import Derived.Below
namespace Go.Proofs.Ytmladfkafbjmoaa
open Go.ChangeShapes Go.WideShapes Go.ChangeAt Go.RowKit
open Go.ChangeMaps (open_string shut_string)
set_option linter.unusedVariables false

theorem ownReachOrder : ownKnob Try.prog.godebug = none := by kernel_rfl
theorem laidOutReachOrder : laidOutB Try.prog = true := by kernel_rfl
theorem walkReachOrder (w : World) (a0 : Int) (w0 : (Lit.int .u16 a0).wf = true) (a1 : Int) (w1 : (Lit.int .u16 a1).wf = true) (a2 : Int) (w2 : (Lit.int .u8 a2).wf = true) :
    Calls Try.prog 7 #[.int .u16 a0, .int .u16 a1, .int .u8 a2] w fun e w' => e = .returned (.bool true) ∧ Below w.heap.size w w' := by
  obtain ⟨h0, g0⟩ := u16_of_wf w0
  obtain ⟨h1, g1⟩ := u16_of_wf w1
  obtain ⟨h2, g2⟩ := u8_of_wf w2
  exact order_law a0 a1 a2 w h0 g0 h1 g1 h2 g2

set_option maxRecDepth 100000 in
theorem liftedReachOrder (os : Os) (started : os.Started) (H : Type) (enc : TypeId × Value → H) :
    ReturnsInHanded {} Try.checked os 7 .any (Rows.reachOrderSpec.pre6 enc Try.prog Try.f7 Rows.reachOrderRow.domain false) (Rows.reachOrderSpec.post enc Try.prog Try.f7 false true false false) := by
  refine returnsInHanded_of_change (C := Try.checked) ownReachOrder started (by kernel_rfl) Try.func7
    (ChangeSpec.witness6 (enc := enc) (C := Try.checked) false ⟨#[], #[.int .u16 0, .int .u16 0, .int .u8 0], []⟩ 8 (by kernel_rfl) (by kernel_rfl) (by kernel_rfl) (by kernel_rfl)) ?_
  intro W base args ds gs before hval0 hW hcnd _
  have hval : ∀ (j : Nat) t v, Try.f7.params[j]? = some t → args[j]? = some v → Value.okWide Try.prog W .any base t v := hval0
  have hW' := hW
  obtain ⟨p, q, hA0, hV, rfl, hfz, hnd⟩ := hW
  have hA : DataW.TrodAll enc Try.prog W 0 (fun _ => true) true Try.f7.params.toList args.toList ds p := hA0
  rw [Try.params7] at hA hval
  obtain ⟨v0, vs0, d0, ds0, p0, q0, hargs, rfl, rfl, h0, r0⟩ := trodAll_cons hA
  obtain ⟨v1, vs1, d1, ds1, p1, q1, rfl, rfl, rfl, h1, r1⟩ := trodAll_cons r0
  obtain ⟨v2, vs2, d2, ds2, p2, q2, rfl, rfl, rfl, h2, r2⟩ := trodAll_cons r1
  obtain ⟨rfl, rfl, rfl⟩ := trodAll_nil r2
  obtain rfl : args = #[v0, v1, v2] := by cases args; simp_all
  obtain ⟨rfl, rfl⟩ := trodVars_none hV

  obtain ⟨a0, rfl, rfl, rfl, w0⟩ := open_int Try.underlying42 (hval 0 42 v0 rfl rfl) h0
  obtain ⟨a1, rfl, rfl, rfl, w1⟩ := open_int Try.underlying42 (hval 1 42 v1 rfl rfl) h1
  obtain ⟨a2, rfl, rfl, rfl, w2⟩ := open_int Try.underlying5 (hval 2 5 v2 rfl rfl) h2
  clear hA0 hval0
  refine (walkReachOrder W a0 w0 a1 w1 a2 w2).mono fun e W' ⟨he, bel⟩ => ?_
  subst he
  exact ⟨_, rfl, _, _, _, [], _, [], hW', trodAll_mk1 (shut_bool Try.underlying4 _), (trodAll_cons_mk (shut_int Try.underlying42 w0) (trodAll_cons_mk (shut_int Try.underlying42 w1) (trodAll_cons_mk (shut_int Try.underlying5 w2) trodAll_mk0))), rfl, bel.frame _, fun h => by cases h⟩

theorem overReachOrder : Rows.reachOrderRow.holds Try.pinned (OpenSpec.ofChange Rows.reachOrderSpec) :=
  OpenClaim.holds_of_wide 7 Try.f7 rfl rfl rfl rfl rfl rfl rfl ⟨rfl, rfl, rfl, rfl, rfl⟩ rfl rfl rfl rfl rfl (by kernel_rfl) Try.func7 (by kernel_rfl)
    (of_decide_eq_true (by kernel_rfl)) (by unfold Func.isWrapper; first | (rw [if_pos (by decide +kernel)]; kernel_rfl) | (rw [if_neg (by decide +kernel)]; exact ⟨rfl, rfl⟩))
    (fun os started H enc _ => liftedReachOrder os started H enc)

theorem reachOrder_holds : Rows.ReachOrderSaid := overReachOrder
end Go.Proofs.Ytmladfkafbjmoaa
