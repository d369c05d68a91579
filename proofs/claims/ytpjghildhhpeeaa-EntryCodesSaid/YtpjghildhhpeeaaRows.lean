/-
  No cell of these rows narrows 'for every input' (looked for: loops, veiled, ifaces, maps, wideKeys, modest, calm, conditions, laid).
  DERIVED. THE GIVEN ROWS OF THIS SEAT. 4 by the template 'for every input the law returns true; each argument reads behind the call as it read before'; 0 by the template 'total and deterministic' (their statements: YtpjghildhhpeeaaTotals.lean).
  GIVEN WITH THE SEED: the statements are not yours to turn. If you find one false, say at which input.
  Laid BY PROGRAM, IN A SANDBOX (cutbox-rows.mjs): the forced cells as the released guide's own fill.sh prints them over the translation d2c60f5d2747dd29… (all of the seat's roots in one cut). By AI agents, Wed Nov 11 2026. No macro, syntax, notation, axiom, sorry.
-/
import Derived.Test.YtpjghildhhpeeaaChecked
import GoSem.Claim
import GoSem.ClaimJoined
import GoSem.ClaimMapViews
import Derived.JoinedTies
import Derived.KernelRfl
namespace Go.Proofs.Ytpjghildhhpeeaa
/- THE CELL 'sum', in the pinned program and in every row, IS THE sha256 OF THE DUMP (.gsa) THAT YtpjghildhhpeeaaProg.lean LOADS. Nothing in Lean hashes anything: it is a label: what it is worth is what the hold of that sum in a sandbox is worth. -/
noncomputable def Try.pinned : Pinned := { name := "ytpjghildhhpeeaa", sum := "d2c60f5d2747dd29c1229affc795bd122e67bad7904be5ba041e1657f1b083a6", checked := Try.checked }
namespace Rows
def none {H : Type} : Left H := { results := [], args := [] }

/-- 'haymowlaw10.EntryRules': WHATEVER THE INPUT: true; the input reads as it did. -/
def entryRulesSpec : ChangeSpec := { name := "entryRules", fn := fun _ => fun
  | [d1, d2] => { results := [.lit (.bool true)], args := [d1, d2] }
  | _ => none }
def entryRulesRow : OpenClaim := { program := "ytpjghildhhpeeaa", sum := "d2c60f5d2747dd29c1229affc795bd122e67bad7904be5ba041e1657f1b083a6", func := "haymow/haymowlaw10.EntryRules", spec := "entryRules", inPlace := ["internal/bytealg.abigen_runtime_cmpstring", "slices.overlaps[haymow/api.Entry]"], unfollowed := true, recurses := true, apart := false }
def EntryRulesSaid : Prop := entryRulesRow.holds Try.pinned (OpenSpec.ofChange entryRulesSpec)

/-- ITS FALSE NEIGHBOUR: 'it returns false'. Refute it at one input. -/
def entryRulesWrong : ChangeSpec := { name := "entryRules", fn := fun _ => fun
  | [d1, d2] => { results := [.lit (.bool false)], args := [d1, d2] }
  | _ => none }
def EntryRulesWrongFalsely : Prop := entryRulesRow.holds Try.pinned (OpenSpec.ofChange entryRulesWrong)

/-- 'haymowlaw10.EntryBack': WHATEVER THE INPUT: true; the input reads as it did. -/
def entryBackSpec : ChangeSpec := { name := "entryBack", fn := fun _ => fun
  | [d1, d2] => { results := [.lit (.bool true)], args := [d1, d2] }
  | _ => none }
def entryBackRow : OpenClaim := { program := "ytpjghildhhpeeaa", sum := "d2c60f5d2747dd29c1229affc795bd122e67bad7904be5ba041e1657f1b083a6", func := "haymow/haymowlaw10.EntryBack", spec := "entryBack", inPlace := ["internal/bytealg.abigen_runtime_cmpstring", "slices.overlaps[haymow/api.Entry]"], unfollowed := true, recurses := true, apart := false }
def EntryBackSaid : Prop := entryBackRow.holds Try.pinned (OpenSpec.ofChange entryBackSpec)

/-- ITS FALSE NEIGHBOUR: 'it returns false'. Refute it at one input. -/
def entryBackWrong : ChangeSpec := { name := "entryBack", fn := fun _ => fun
  | [d1, d2] => { results := [.lit (.bool false)], args := [d1, d2] }
  | _ => none }
def EntryBackWrongFalsely : Prop := entryBackRow.holds Try.pinned (OpenSpec.ofChange entryBackWrong)

/-- 'haymowlaw10.EntryOrder': WHATEVER THE INPUT: true; the input reads as it did. -/
def entryOrderSpec : ChangeSpec := { name := "entryOrder", fn := fun _ => fun
  | [d1, d2] => { results := [.lit (.bool true)], args := [d1, d2] }
  | _ => none }
def entryOrderRow : OpenClaim := { program := "ytpjghildhhpeeaa", sum := "d2c60f5d2747dd29c1229affc795bd122e67bad7904be5ba041e1657f1b083a6", func := "haymow/haymowlaw10.EntryOrder", spec := "entryOrder", inPlace := ["internal/bytealg.abigen_runtime_cmpstring", "slices.overlaps[haymow/api.Entry]"], unfollowed := true, recurses := true, apart := false }
def EntryOrderSaid : Prop := entryOrderRow.holds Try.pinned (OpenSpec.ofChange entryOrderSpec)

/-- ITS FALSE NEIGHBOUR: 'it returns false'. Refute it at one input. -/
def entryOrderWrong : ChangeSpec := { name := "entryOrder", fn := fun _ => fun
  | [d1, d2] => { results := [.lit (.bool false)], args := [d1, d2] }
  | _ => none }
def EntryOrderWrongFalsely : Prop := entryOrderRow.holds Try.pinned (OpenSpec.ofChange entryOrderWrong)

/-- 'haymowlaw10.EntryCodes': WHATEVER THE INPUT: true; the input reads as it did. -/
def entryCodesSpec : ChangeSpec := { name := "entryCodes", fn := fun _ => fun
  | [d1, d2] => { results := [.lit (.bool true)], args := [d1, d2] }
  | _ => none }
def entryCodesRow : OpenClaim := { program := "ytpjghildhhpeeaa", sum := "d2c60f5d2747dd29c1229affc795bd122e67bad7904be5ba041e1657f1b083a6", func := "haymow/haymowlaw10.EntryCodes", spec := "entryCodes", inPlace := ["internal/bytealg.abigen_runtime_cmpstring", "slices.overlaps[haymow/api.Entry]"], unfollowed := true, recurses := true, apart := false }
def EntryCodesSaid : Prop := entryCodesRow.holds Try.pinned (OpenSpec.ofChange entryCodesSpec)

/-- ITS FALSE NEIGHBOUR: 'it returns false'. Refute it at one input. -/
def entryCodesWrong : ChangeSpec := { name := "entryCodes", fn := fun _ => fun
  | [d1, d2] => { results := [.lit (.bool false)], args := [d1, d2] }
  | _ => none }
def EntryCodesWrongFalsely : Prop := entryCodesRow.holds Try.pinned (OpenSpec.ofChange entryCodesWrong)

/- THE SECOND FORM. 'bulk': how many values and letters a reading holds, each counted each time it is reached (what is shared counts as often as it is met; a slice's spare places count too). A statement '..UptoSaid' is the law's where the arguments, and the package variables that the reading takes, are together of bulk at most 1048576: NARROWER than '..Said'. Prove '..Said' where nothing that the law and all that it calls make is longer than what came in: it says more and counts as full. Else prove '..UptoSaid'. A law counts once. -/
mutual
def uptoBulk {H : Type} : DataW H → Nat
  | .lit (.string bytes) => bytes.length + 1
  | .lit _ => 1
  | .nil => 1
  | .ptr d => uptoBulk d + 1
  | .slice elems spare => uptoBulkAll elems + uptoBulkAll spare + 1
  | .agg parts => uptoBulkAll parts + 1
  | .iface _ d => uptoBulk d + 1
  | .map entries => uptoBulkEntries entries + 1
  | .held _ => 1
def uptoBulkAll {H : Type} : List (DataW H) → Nat
  | [] => 0
  | d :: r => uptoBulk d + uptoBulkAll r
def uptoBulkEntries {H : Type} : List (Lit × DataW H) → Nat
  | [] => 0
  | x :: r => uptoBulkEntry x + uptoBulkEntries r
def uptoBulkEntry {H : Type} : Lit × DataW H → Nat
  | (.string bytes, d) => bytes.length + uptoBulk d + 1
  | (_, d) => uptoBulk d + 1
 end
def uptoSmall : (H : Type) → List (DataW H) → Bool := fun _ ds => decide (uptoBulkAll ds ≤ 1048576)
def OpenSpec.upto (s : _root_.Go.ChangeSpec) : _root_.Go.OpenSpec := { _root_.Go.OpenSpec.ofChange s with cond := some uptoSmall }

/-- 'haymowlaw10.EntryRules', WHERE WHAT IT READS IS OF BULK AT MOST 1048576: true; the input reads as it did. -/
def entryRulesUptoRow : OpenClaim := { program := "ytpjghildhhpeeaa", sum := "d2c60f5d2747dd29c1229affc795bd122e67bad7904be5ba041e1657f1b083a6", func := "haymow/haymowlaw10.EntryRules", spec := "entryRules", inPlace := ["internal/bytealg.abigen_runtime_cmpstring", "slices.overlaps[haymow/api.Entry]"], unfollowed := true, recurses := true, apart := false, narrowed := true }
def EntryRulesUptoSaid : Prop := entryRulesUptoRow.holds Try.pinned (OpenSpec.upto entryRulesSpec)

/-- 'haymowlaw10.EntryBack', WHERE WHAT IT READS IS OF BULK AT MOST 1048576: true; the input reads as it did. -/
def entryBackUptoRow : OpenClaim := { program := "ytpjghildhhpeeaa", sum := "d2c60f5d2747dd29c1229affc795bd122e67bad7904be5ba041e1657f1b083a6", func := "haymow/haymowlaw10.EntryBack", spec := "entryBack", inPlace := ["internal/bytealg.abigen_runtime_cmpstring", "slices.overlaps[haymow/api.Entry]"], unfollowed := true, recurses := true, apart := false, narrowed := true }
def EntryBackUptoSaid : Prop := entryBackUptoRow.holds Try.pinned (OpenSpec.upto entryBackSpec)

/-- 'haymowlaw10.EntryOrder', WHERE WHAT IT READS IS OF BULK AT MOST 1048576: true; the input reads as it did. -/
def entryOrderUptoRow : OpenClaim := { program := "ytpjghildhhpeeaa", sum := "d2c60f5d2747dd29c1229affc795bd122e67bad7904be5ba041e1657f1b083a6", func := "haymow/haymowlaw10.EntryOrder", spec := "entryOrder", inPlace := ["internal/bytealg.abigen_runtime_cmpstring", "slices.overlaps[haymow/api.Entry]"], unfollowed := true, recurses := true, apart := false, narrowed := true }
def EntryOrderUptoSaid : Prop := entryOrderUptoRow.holds Try.pinned (OpenSpec.upto entryOrderSpec)

/-- 'haymowlaw10.EntryCodes', WHERE WHAT IT READS IS OF BULK AT MOST 1048576: true; the input reads as it did. -/
def entryCodesUptoRow : OpenClaim := { program := "ytpjghildhhpeeaa", sum := "d2c60f5d2747dd29c1229affc795bd122e67bad7904be5ba041e1657f1b083a6", func := "haymow/haymowlaw10.EntryCodes", spec := "entryCodes", inPlace := ["internal/bytealg.abigen_runtime_cmpstring", "slices.overlaps[haymow/api.Entry]"], unfollowed := true, recurses := true, apart := false, narrowed := true }
def EntryCodesUptoSaid : Prop := entryCodesUptoRow.holds Try.pinned (OpenSpec.upto entryCodesSpec)

end Rows
end Go.Proofs.Ytpjghildhhpeeaa
