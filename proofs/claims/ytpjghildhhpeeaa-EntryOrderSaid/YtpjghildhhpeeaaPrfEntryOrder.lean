/- The law EntryOrder: in whatever turn they are added the list is one and the same, and its octets tell it. No condition beside the statement's. -/
import Derived.Test.YtpjghildhhpeeaaRows
import Derived.Test.YtpjghildhhpeeaaEntryN
import Derived.WalkKit
import Derived.ProofKit
import Derived.OpenShut
import Derived.ShutString
import Derived.ChangeOld
import Derived.Below
import Derived.Test.YtpjghildhhpeeaaEntOpen
namespace Go.Proofs.Ytpjghildhhpeeaa
open Go.ChangeShapes Go.WideShapes Go.ChangeAt Go.RowKit
open Go.ChangeMaps (open_string shut_string)
set_option linter.unusedVariables false

theorem ownEntryOrder : ownKnob Try.prog.godebug = none := by kernel_rfl
theorem laidOutEntryOrder : laidOutB Try.prog = true := by kernel_rfl
theorem walkEntryOrder (w : World) (p0 : Option Addr) (len0 cap0 : Nat) (z0 : List Ent) (w0 : IsEnts w p0 len0 cap0 z0) (a1 : Int) (w1 : (Lit.int .u8 a1).wf = true) :
    Calls Try.prog 5 #[.slice p0 len0 cap0, .int .u8 a1] w fun e w' => e = .returned (.bool true) ∧ Below w.heap.size w w' := by
  obtain ⟨h1, h2, _, h4, h5⟩ := w0
  obtain ⟨g1, g2⟩ := u8_of_wf w1
  obtain ⟨t, rfl⟩ : ∃ t : Nat, a1 = (t : Int) := ⟨a1.toNat, by omega⟩
  exact order_law p0 len0 cap0 t z0 w h4 h1 h2 h5 (by omega)

set_option maxRecDepth 100000 in
theorem liftedEntryOrder (os : Os) (started : os.Started) (H : Type) (enc : TypeId × Value → H) :
    ReturnsInHanded {} Try.checked os 5 .any (Rows.entryOrderSpec.pre6 enc Try.prog Try.f5 Rows.entryOrderRow.domain false) (Rows.entryOrderSpec.post enc Try.prog Try.f5 false true false false) := by
  refine returnsInHanded_of_change (C := Try.checked) ownEntryOrder started (by kernel_rfl) Try.func5
    (ChangeSpec.witness6 (enc := enc) (C := Try.checked) false ⟨#[], #[.slice none 0 0, .int .u8 0], []⟩ 8 (by kernel_rfl) (by kernel_rfl) (by kernel_rfl) (by kernel_rfl)) ?_
  intro W base args ds gs before hval0 hW hcnd _
  have hval : ∀ (j : Nat) t v, Try.f5.params[j]? = some t → args[j]? = some v → Value.okWide Try.prog W .any base t v := hval0
  have hW' := hW
  obtain ⟨p, q, hA0, hV, rfl, hfz, hnd⟩ := hW
  have hA : DataW.TrodAll enc Try.prog W 0 (fun _ => true) true Try.f5.params.toList args.toList ds p := hA0
  rw [Try.params5] at hA hval
  obtain ⟨v0, vs0, d0, ds0, p0, q0, hargs, rfl, rfl, h0, r0⟩ := trodAll_cons hA
  obtain ⟨v1, vs1, d1, ds1, p1, q1, rfl, rfl, rfl, h1, r1⟩ := trodAll_cons r0
  obtain ⟨rfl, rfl, rfl⟩ := trodAll_nil r1
  obtain rfl : args = #[v0, v1] := by cases args; simp_all
  obtain ⟨rfl, rfl⟩ := trodVars_none hV
  have k0 := h0
  have lt0 : ∀ x ∈ p0, x.block < W.heap.size := by obtain ⟨m, hm⟩ := k0; exact DataW.trod_lt m _ _ _ hm
  obtain ⟨s0, len0, cap0, rfl⟩ := okWide_slice Try.underlying22 (hval 0 22 v0 rfl rfl)
  obtain ⟨z0, w0⟩ : ∃ zs, IsEnts W s0 len0 cap0 zs := by
    obtain ⟨fuel, hf⟩ := h0
    exact open_ents hf
  obtain ⟨a1, rfl, rfl, rfl, w1⟩ := open_int Try.underlying5 (hval 1 5 v1 rfl rfl) h1
  clear hA0 hval0
  refine (walkEntryOrder W s0 len0 cap0 z0 w0 a1 w1).mono fun e W' ⟨he, bel⟩ => ?_
  subst he
  exact ⟨_, rfl, _, _, _, [], _, [], hW', trodAll_mk1 (shut_bool Try.underlying4 _), (trodAll_cons_mk (Below.trod laidOutEntryOrder (by kernel_rfl) (of_decide_eq_true (by kernel_rfl)) k0 bel lt0) (trodAll_cons_mk (shut_int Try.underlying5 w1) trodAll_mk0)), rfl, bel.frame _, fun h => by cases h⟩

theorem overEntryOrder : Rows.entryOrderRow.holds Try.pinned (OpenSpec.ofChange Rows.entryOrderSpec) :=
  OpenClaim.holds_of_wide 5 Try.f5 rfl rfl rfl rfl rfl rfl rfl ⟨rfl, rfl, rfl, rfl, rfl⟩ rfl rfl rfl rfl rfl (by kernel_rfl) Try.func5 (by kernel_rfl)
    (of_decide_eq_true (by kernel_rfl)) (by unfold Func.isWrapper; first | (rw [if_pos (by decide +kernel)]; kernel_rfl) | (rw [if_neg (by decide +kernel)]; exact ⟨rfl, rfl⟩))
    (fun os started H enc _ => liftedEntryOrder os started H enc)

theorem entryOrder_holds : Rows.EntryOrderSaid := overEntryOrder
end Go.Proofs.Ytpjghildhhpeeaa
