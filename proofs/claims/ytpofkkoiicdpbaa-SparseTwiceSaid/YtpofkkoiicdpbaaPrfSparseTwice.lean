/- The law SparseTwice: two writes that do not touch one another come to the same either way round; a write in two goes is one. No condition beside the statement's. -/
import Derived.Test.YtpofkkoiicdpbaaRows
import Derived.Test.YtpofkkoiicdpbaaSparseQ
import Derived.WalkKit
import Derived.ProofKit
import Derived.OpenShut
import Derived.ShutString
import Derived.ChangeOld
import Derived.Below
import Derived.Test.YtpofkkoiicdpbaaSparseR
namespace Go.Proofs.Ytpofkkoiicdpbaa
open Go.ChangeShapes Go.WideShapes Go.ChangeAt Go.RowKit
open Go.ChangeMaps (open_string shut_string)
set_option linter.unusedVariables false

theorem ownSparseTwice : ownKnob Try.prog.godebug = none := by kernel_rfl
theorem laidOutSparseTwice : laidOutB Try.prog = true := by kernel_rfl
theorem walkSparseTwice (w : World) (s0 : Int) (A0 : Option Addr) (n0 c0 : Nat) (L0 : List Pc) (off0 gap0 : Nat) (Aa0 : Option Addr) (na0 ca0 : Nat) (a0 : List UInt8) (Ab0 : Option Addr) (nb0 cb0 : Nat) (b0 : List UInt8) (w0 : IsP w w.heap.size A0 n0 c0 L0) (x0 : s0 ≤ 9223372036854775807) (y0 : RdB w w.heap.size AnyB (.slice Aa0 na0 ca0) a0) (z0 : RdB w w.heap.size AnyB (.slice Ab0 nb0 cb0) b0) (u0 : off0 ≤ 65535) (v0 : gap0 ≤ 65535) :
    Calls Try.prog 6 #[.agg #[.int .i64 s0, .slice A0 n0 c0, .int .u16 off0, .int .u16 gap0, .slice Aa0 na0 ca0, .slice Ab0 nb0 cb0]] w fun e w' => e = .returned (.bool true) ∧ Below w.heap.size w w' := by
  exact twice_law s0 A0 Aa0 Ab0 n0 c0 na0 ca0 nb0 cb0 off0 gap0 L0 a0 b0 w w0 x0 y0 z0 u0 v0

set_option maxRecDepth 100000 in
theorem liftedSparseTwice (os : Os) (started : os.Started) (H : Type) (enc : TypeId × Value → H) :
    ReturnsInHanded {} Try.checked os 6 .any (Rows.sparseTwiceSpec.pre6 enc Try.prog Try.f6 Rows.sparseTwiceRow.domain false) (Rows.sparseTwiceSpec.post enc Try.prog Try.f6 false true false false) := by
  refine returnsInHanded_of_change (C := Try.checked) ownSparseTwice started (by kernel_rfl) Try.func6
    (ChangeSpec.witness6 (enc := enc) (C := Try.checked) false ⟨#[], #[.agg #[.int .i64 0, .slice none 0 0, .int .u16 0, .int .u16 0, .slice none 0 0, .slice none 0 0]], []⟩ 8 (by kernel_rfl) (by kernel_rfl) (by kernel_rfl) (by kernel_rfl)) ?_
  intro W base args ds gs before hval0 hW hcnd _
  have hval : ∀ (j : Nat) t v, Try.f6.params[j]? = some t → args[j]? = some v → Value.okWide Try.prog W .any base t v := hval0
  have hW' := hW
  obtain ⟨p, q, hA0, hV, rfl, hfz, hnd⟩ := hW
  have hA : DataW.TrodAll enc Try.prog W 0 (fun _ => true) true Try.f6.params.toList args.toList ds p := hA0
  rw [Try.params6] at hA hval
  obtain ⟨v0, vs0, d0, ds0, p0, q0, hargs, rfl, rfl, h0, r0⟩ := trodAll_cons hA
  obtain ⟨rfl, rfl, rfl⟩ := trodAll_nil r0
  obtain rfl : args = #[v0] := by cases args; simp_all
  obtain ⟨rfl, rfl⟩ := trodVars_none hV
  have k0 := h0
  have lt0 : ∀ x ∈ p0, x.block < W.heap.size := by obtain ⟨m, hm⟩ := k0; exact DataW.trod_lt m _ _ _ hm
  obtain ⟨s0, A0, n0, c0, L0, off0, gap0, Aa0, na0, ca0, a0, Ab0, nb0, cb0, b0, rfl, w0, x0, y0, z0, u0, vv0⟩ := open_twice (hval 0 53 v0 rfl rfl) h0
  clear hA0 hval0
  refine (walkSparseTwice W s0 A0 n0 c0 L0 off0 gap0 Aa0 na0 ca0 a0 Ab0 nb0 cb0 b0 w0 x0 y0 z0 u0 vv0).mono fun e W' ⟨he, bel⟩ => ?_
  subst he
  exact ⟨_, rfl, _, _, _, [], _, [], hW', trodAll_mk1 (shut_bool Try.underlying4 _), (trodAll_cons_mk (Below.trod laidOutSparseTwice (by kernel_rfl) (of_decide_eq_true (by kernel_rfl)) k0 bel lt0) trodAll_mk0), rfl, bel.frame _, fun h => by cases h⟩

theorem overSparseTwice : Rows.sparseTwiceRow.holds Try.pinned (OpenSpec.ofChange Rows.sparseTwiceSpec) :=
  OpenClaim.holds_of_wide 6 Try.f6 rfl rfl rfl rfl rfl rfl rfl ⟨rfl, rfl, rfl, rfl, rfl⟩ rfl rfl rfl rfl rfl (by kernel_rfl) Try.func6 (by kernel_rfl)
    (of_decide_eq_true (by kernel_rfl)) (by unfold Func.isWrapper; first | (rw [if_pos (by decide +kernel)]; kernel_rfl) | (rw [if_neg (by decide +kernel)]; exact ⟨rfl, rfl⟩))
    (fun os started H enc _ => liftedSparseTwice os started H enc)

theorem sparseTwice_holds : Rows.SparseTwiceSaid := overSparseTwice
end Go.Proofs.Ytpofkkoiicdpbaa
