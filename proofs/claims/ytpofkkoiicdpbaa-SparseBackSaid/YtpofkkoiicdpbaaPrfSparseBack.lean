/- The law SparseBack: what is written is read, what was not touched stays, and cut and made longer again there are noughts. No condition beside the statement's. -/
import Derived.Test.YtpofkkoiicdpbaaRows
import Derived.Test.YtpofkkoiicdpbaaSparseT
import Derived.WalkKit
import Derived.ProofKit
import Derived.OpenShut
import Derived.ShutString
import Derived.ChangeOld
import Derived.Below
import Derived.Test.YtpofkkoiicdpbaaSparseR
namespace Go.Proofs.Ytpofkkoiicdpbaa
open Go.ChangeShapes Go.WideShapes Go.ChangeAt Go.RowKit
open Go.ChangeMaps (open_string shut_string)
set_option linter.unusedVariables false

theorem ownSparseBack : ownKnob Try.prog.godebug = none := by kernel_rfl
theorem laidOutSparseBack : laidOutB Try.prog = true := by kernel_rfl
theorem walkSparseBack (w : World) (s0 : Int) (A0 : Option Addr) (n0 c0 : Nat) (L0 : List Pc) (off0 size0 : Nat) (Ab0 : Option Addr) (nb0 cb0 : Nat) (b0 : List UInt8) (w0 : IsP w w.heap.size A0 n0 c0 L0) (x0 : s0 ≤ 9223372036854775807) (z0 : RdB w w.heap.size AnyB (.slice Ab0 nb0 cb0) b0) (u0 : off0 ≤ 65535) (v0 : size0 ≤ 65535) :
    Calls Try.prog 5 #[.agg #[.int .i64 s0, .slice A0 n0 c0, .int .u16 off0, .slice Ab0 nb0 cb0, .int .u16 size0]] w fun e w' => e = .returned (.bool true) ∧ Below w.heap.size w w' := by
  exact back_law s0 A0 Ab0 n0 c0 nb0 cb0 off0 size0 L0 b0 w w0 x0 z0 u0 v0

set_option maxRecDepth 100000 in
theorem liftedSparseBack (os : Os) (started : os.Started) (H : Type) (enc : TypeId × Value → H) :
    ReturnsInHanded {} Try.checked os 5 .any (Rows.sparseBackSpec.pre6 enc Try.prog Try.f5 Rows.sparseBackRow.domain false) (Rows.sparseBackSpec.post enc Try.prog Try.f5 false true false false) := by
  refine returnsInHanded_of_change (C := Try.checked) ownSparseBack started (by kernel_rfl) Try.func5
    (ChangeSpec.witness6 (enc := enc) (C := Try.checked) false ⟨#[], #[.agg #[.int .i64 0, .slice none 0 0, .int .u16 0, .slice none 0 0, .int .u16 0]], []⟩ 8 (by kernel_rfl) (by kernel_rfl) (by kernel_rfl) (by kernel_rfl)) ?_
  intro W base args ds gs before hval0 hW hcnd _
  have hval : ∀ (j : Nat) t v, Try.f5.params[j]? = some t → args[j]? = some v → Value.okWide Try.prog W .any base t v := hval0
  have hW' := hW
  obtain ⟨p, q, hA0, hV, rfl, hfz, hnd⟩ := hW
  have hA : DataW.TrodAll enc Try.prog W 0 (fun _ => true) true Try.f5.params.toList args.toList ds p := hA0
  rw [Try.params5] at hA hval
  obtain ⟨v0, vs0, d0, ds0, p0, q0, hargs, rfl, rfl, h0, r0⟩ := trodAll_cons hA
  obtain ⟨rfl, rfl, rfl⟩ := trodAll_nil r0
  obtain rfl : args = #[v0] := by cases args; simp_all
  obtain ⟨rfl, rfl⟩ := trodVars_none hV
  have k0 := h0
  have lt0 : ∀ x ∈ p0, x.block < W.heap.size := by obtain ⟨m, hm⟩ := k0; exact DataW.trod_lt m _ _ _ hm
  obtain ⟨s0, A0, n0, c0, L0, off0, size0, Ab0, nb0, cb0, b0, rfl, w0, x0, z0, u0, vv0⟩ := open_back (hval 0 48 v0 rfl rfl) h0
  clear hA0 hval0
  refine (walkSparseBack W s0 A0 n0 c0 L0 off0 size0 Ab0 nb0 cb0 b0 w0 x0 z0 u0 vv0).mono fun e W' ⟨he, bel⟩ => ?_
  subst he
  exact ⟨_, rfl, _, _, _, [], _, [], hW', trodAll_mk1 (shut_bool Try.underlying4 _), (trodAll_cons_mk (Below.trod laidOutSparseBack (by kernel_rfl) (of_decide_eq_true (by kernel_rfl)) k0 bel lt0) trodAll_mk0), rfl, bel.frame _, fun h => by cases h⟩

theorem overSparseBack : Rows.sparseBackRow.holds Try.pinned (OpenSpec.ofChange Rows.sparseBackSpec) :=
  OpenClaim.holds_of_wide 5 Try.f5 rfl rfl rfl rfl rfl rfl rfl ⟨rfl, rfl, rfl, rfl, rfl⟩ rfl rfl rfl rfl rfl (by kernel_rfl) Try.func5 (by kernel_rfl)
    (of_decide_eq_true (by kernel_rfl)) (by unfold Func.isWrapper; first | (rw [if_pos (by decide +kernel)]; kernel_rfl) | (rw [if_neg (by decide +kernel)]; exact ⟨rfl, rfl⟩))
    (fun os started H enc _ => liftedSparseBack os started H enc)

theorem sparseBack_holds : Rows.SparseBackSaid := overSparseBack
end Go.Proofs.Ytpofkkoiicdpbaa
