/-
  No cell of these rows narrows 'for every input' (looked for: loops, veiled, ifaces, maps, wideKeys, modest, calm, conditions, laid).
  DERIVED. THE GIVEN ROWS OF THIS SEAT. 6 by the template 'for every input the law returns true; each argument reads behind the call as it read before'; 0 by the template 'total and deterministic' (their statements: YtmladfkafbjmoaaTotals.lean).
  GIVEN WITH THE SEED: the statements are not yours to turn. If you find one false, say at which input.
  Laid BY PROGRAM, IN A SANDBOX (cutbox-rows.mjs): the forced cells as the released guide's own fill.sh prints them over the translation 41ab0bcbf4fc4346… (all of the seat's roots in one cut). By AI agents, Wed Nov 11 2026. No macro, syntax, notation, axiom, sorry.
-/
import Derived.Test.YtmladfkafbjmoaaChecked
import GoSem.Claim
import GoSem.ClaimJoined
import GoSem.ClaimMapViews
import Derived.JoinedTies
import Derived.KernelRfl
namespace Go.Proofs.Ytmladfkafbjmoaa
/- THE CELL 'sum', in the pinned program and in every row, IS THE sha256 OF THE DUMP (.gsa) THAT YtmladfkafbjmoaaProg.lean LOADS. Nothing in Lean hashes anything: it is a label: what it is worth is what the hold of that sum in a sandbox is worth. -/
noncomputable def Try.pinned : Pinned := { name := "ytmladfkafbjmoaa", sum := "41ab0bcbf4fc434690169f48fef0c9f6825767ea6ea4c764df172b4d7556c9b4", checked := Try.checked }
namespace Rows
def none {H : Type} : Left H := { results := [], args := [] }

/-- 'haymowlaw08.ReachCounts': WHATEVER THE INPUT: true; the input reads as it did. -/
def reachCountsSpec : ChangeSpec := { name := "reachCounts", fn := fun _ => fun
  | [d1, d2] => { results := [.lit (.bool true)], args := [d1, d2] }
  | _ => none }
def reachCountsRow : OpenClaim := { program := "ytmladfkafbjmoaa", sum := "41ab0bcbf4fc434690169f48fef0c9f6825767ea6ea4c764df172b4d7556c9b4", func := "haymow/haymowlaw08.ReachCounts", spec := "reachCounts", unfollowed := true, recurses := true, apart := false }
def ReachCountsSaid : Prop := reachCountsRow.holds Try.pinned (OpenSpec.ofChange reachCountsSpec)

/-- ITS FALSE NEIGHBOUR: 'it returns false'. Refute it at one input. -/
def reachCountsWrong : ChangeSpec := { name := "reachCounts", fn := fun _ => fun
  | [d1, d2] => { results := [.lit (.bool false)], args := [d1, d2] }
  | _ => none }
def ReachCountsWrongFalsely : Prop := reachCountsRow.holds Try.pinned (OpenSpec.ofChange reachCountsWrong)

/-- 'haymowlaw08.ReachNodes': WHATEVER THE INPUT: true; the input reads as it did. -/
def reachNodesSpec : ChangeSpec := { name := "reachNodes", fn := fun _ => fun
  | [d1, d2] => { results := [.lit (.bool true)], args := [d1, d2] }
  | _ => none }
def reachNodesRow : OpenClaim := { program := "ytmladfkafbjmoaa", sum := "41ab0bcbf4fc434690169f48fef0c9f6825767ea6ea4c764df172b4d7556c9b4", func := "haymow/haymowlaw08.ReachNodes", spec := "reachNodes", unfollowed := true, recurses := true, apart := false }
def ReachNodesSaid : Prop := reachNodesRow.holds Try.pinned (OpenSpec.ofChange reachNodesSpec)

/-- ITS FALSE NEIGHBOUR: 'it returns false'. Refute it at one input. -/
def reachNodesWrong : ChangeSpec := { name := "reachNodes", fn := fun _ => fun
  | [d1, d2] => { results := [.lit (.bool false)], args := [d1, d2] }
  | _ => none }
def ReachNodesWrongFalsely : Prop := reachNodesRow.holds Try.pinned (OpenSpec.ofChange reachNodesWrong)

/-- 'haymowlaw08.ReachPaths': WHATEVER THE INPUT: true; the input reads as it did. -/
def reachPathsSpec : ChangeSpec := { name := "reachPaths", fn := fun _ => fun
  | [d1, d2] => { results := [.lit (.bool true)], args := [d1, d2] }
  | _ => none }
def reachPathsRow : OpenClaim := { program := "ytmladfkafbjmoaa", sum := "41ab0bcbf4fc434690169f48fef0c9f6825767ea6ea4c764df172b4d7556c9b4", func := "haymow/haymowlaw08.ReachPaths", spec := "reachPaths", unfollowed := true, recurses := true, apart := false }
def ReachPathsSaid : Prop := reachPathsRow.holds Try.pinned (OpenSpec.ofChange reachPathsSpec)

/-- ITS FALSE NEIGHBOUR: 'it returns false'. Refute it at one input. -/
def reachPathsWrong : ChangeSpec := { name := "reachPaths", fn := fun _ => fun
  | [d1, d2] => { results := [.lit (.bool false)], args := [d1, d2] }
  | _ => none }
def ReachPathsWrongFalsely : Prop := reachPathsRow.holds Try.pinned (OpenSpec.ofChange reachPathsWrong)

/-- 'haymowlaw08.ReachOn': WHATEVER THE INPUT: true; the input reads as it did. -/
def reachOnSpec : ChangeSpec := { name := "reachOn", fn := fun _ => fun
  | [d] => { results := [.lit (.bool true)], args := [d] }
  | _ => none }
def reachOnRow : OpenClaim := { program := "ytmladfkafbjmoaa", sum := "41ab0bcbf4fc434690169f48fef0c9f6825767ea6ea4c764df172b4d7556c9b4", func := "haymow/haymowlaw08.ReachOn", spec := "reachOn", unfollowed := true, recurses := true, apart := false }
def ReachOnSaid : Prop := reachOnRow.holds Try.pinned (OpenSpec.ofChange reachOnSpec)

/-- ITS FALSE NEIGHBOUR: 'it returns false'. Refute it at one input. -/
def reachOnWrong : ChangeSpec := { name := "reachOn", fn := fun _ => fun
  | [d] => { results := [.lit (.bool false)], args := [d] }
  | _ => none }
def ReachOnWrongFalsely : Prop := reachOnRow.holds Try.pinned (OpenSpec.ofChange reachOnWrong)

/-- 'haymowlaw08.ReachOrder': WHATEVER THE INPUT: true; the input reads as it did. -/
def reachOrderSpec : ChangeSpec := { name := "reachOrder", fn := fun _ => fun
  | [d1, d2, d3] => { results := [.lit (.bool true)], args := [d1, d2, d3] }
  | _ => none }
def reachOrderRow : OpenClaim := { program := "ytmladfkafbjmoaa", sum := "41ab0bcbf4fc434690169f48fef0c9f6825767ea6ea4c764df172b4d7556c9b4", func := "haymow/haymowlaw08.ReachOrder", spec := "reachOrder", unfollowed := true, recurses := true, apart := false }
def ReachOrderSaid : Prop := reachOrderRow.holds Try.pinned (OpenSpec.ofChange reachOrderSpec)

/-- ITS FALSE NEIGHBOUR: 'it returns false'. Refute it at one input. -/
def reachOrderWrong : ChangeSpec := { name := "reachOrder", fn := fun _ => fun
  | [d1, d2, d3] => { results := [.lit (.bool false)], args := [d1, d2, d3] }
  | _ => none }
def ReachOrderWrongFalsely : Prop := reachOrderRow.holds Try.pinned (OpenSpec.ofChange reachOrderWrong)

/-- 'haymowlaw08.ReachBack': WHATEVER THE INPUT: true; the input reads as it did. -/
def reachBackSpec : ChangeSpec := { name := "reachBack", fn := fun _ => fun
  | [d1, d2] => { results := [.lit (.bool true)], args := [d1, d2] }
  | _ => none }
def reachBackRow : OpenClaim := { program := "ytmladfkafbjmoaa", sum := "41ab0bcbf4fc434690169f48fef0c9f6825767ea6ea4c764df172b4d7556c9b4", func := "haymow/haymowlaw08.ReachBack", spec := "reachBack", unfollowed := true, recurses := true, apart := false }
def ReachBackSaid : Prop := reachBackRow.holds Try.pinned (OpenSpec.ofChange reachBackSpec)

/-- ITS FALSE NEIGHBOUR: 'it returns false'. Refute it at one input. -/
def reachBackWrong : ChangeSpec := { name := "reachBack", fn := fun _ => fun
  | [d1, d2] => { results := [.lit (.bool false)], args := [d1, d2] }
  | _ => none }
def ReachBackWrongFalsely : Prop := reachBackRow.holds Try.pinned (OpenSpec.ofChange reachBackWrong)

/- THE SECOND FORM. 'bulk': how many values and letters a reading holds, each counted each time it is reached (what is shared counts as often as it is met; a slice's spare places count too). A statement '..UptoSaid' is the law's where the arguments, and the package variables that the reading takes, are together of bulk at most 1048576: NARROWER than '..Said'. Prove '..Said' where nothing that the law and all that it calls make is longer than what came in: it says more and counts as full. Else prove '..UptoSaid'. A law counts once. -/
mutual
def uptoBulk {H : Type} : DataW H → Nat
  | .lit (.string bytes) => bytes.length + 1
  | .lit _ => 1
  | .nil => 1
  | .ptr d => uptoBulk d + 1
  | .slice elems spare => uptoBulkAll elems + uptoBulkAll spare + 1
  | .agg parts => uptoBulkAll parts + 1
  | .iface _ d => uptoBulk d + 1
  | .map entries => uptoBulkEntries entries + 1
  | .held _ => 1
def uptoBulkAll {H : Type} : List (DataW H) → Nat
  | [] => 0
  | d :: r => uptoBulk d + uptoBulkAll r
def uptoBulkEntries {H : Type} : List (Lit × DataW H) → Nat
  | [] => 0
  | x :: r => uptoBulkEntry x + uptoBulkEntries r
def uptoBulkEntry {H : Type} : Lit × DataW H → Nat
  | (.string bytes, d) => bytes.length + uptoBulk d + 1
  | (_, d) => uptoBulk d + 1
 end
def uptoSmall : (H : Type) → List (DataW H) → Bool := fun _ ds => decide (uptoBulkAll ds ≤ 1048576)
def OpenSpec.upto (s : _root_.Go.ChangeSpec) : _root_.Go.OpenSpec := { _root_.Go.OpenSpec.ofChange s with cond := some uptoSmall }

/-- 'haymowlaw08.ReachCounts', WHERE WHAT IT READS IS OF BULK AT MOST 1048576: true; the input reads as it did. -/
def reachCountsUptoRow : OpenClaim := { program := "ytmladfkafbjmoaa", sum := "41ab0bcbf4fc434690169f48fef0c9f6825767ea6ea4c764df172b4d7556c9b4", func := "haymow/haymowlaw08.ReachCounts", spec := "reachCounts", unfollowed := true, recurses := true, apart := false, narrowed := true }
def ReachCountsUptoSaid : Prop := reachCountsUptoRow.holds Try.pinned (OpenSpec.upto reachCountsSpec)

/-- 'haymowlaw08.ReachNodes', WHERE WHAT IT READS IS OF BULK AT MOST 1048576: true; the input reads as it did. -/
def reachNodesUptoRow : OpenClaim := { program := "ytmladfkafbjmoaa", sum := "41ab0bcbf4fc434690169f48fef0c9f6825767ea6ea4c764df172b4d7556c9b4", func := "haymow/haymowlaw08.ReachNodes", spec := "reachNodes", unfollowed := true, recurses := true, apart := false, narrowed := true }
def ReachNodesUptoSaid : Prop := reachNodesUptoRow.holds Try.pinned (OpenSpec.upto reachNodesSpec)

/-- 'haymowlaw08.ReachPaths', WHERE WHAT IT READS IS OF BULK AT MOST 1048576: true; the input reads as it did. -/
def reachPathsUptoRow : OpenClaim := { program := "ytmladfkafbjmoaa", sum := "41ab0bcbf4fc434690169f48fef0c9f6825767ea6ea4c764df172b4d7556c9b4", func := "haymow/haymowlaw08.ReachPaths", spec := "reachPaths", unfollowed := true, recurses := true, apart := false, narrowed := true }
def ReachPathsUptoSaid : Prop := reachPathsUptoRow.holds Try.pinned (OpenSpec.upto reachPathsSpec)

/-- 'haymowlaw08.ReachOn', WHERE WHAT IT READS IS OF BULK AT MOST 1048576: true; the input reads as it did. -/
def reachOnUptoRow : OpenClaim := { program := "ytmladfkafbjmoaa", sum := "41ab0bcbf4fc434690169f48fef0c9f6825767ea6ea4c764df172b4d7556c9b4", func := "haymow/haymowlaw08.ReachOn", spec := "reachOn", unfollowed := true, recurses := true, apart := false, narrowed := true }
def ReachOnUptoSaid : Prop := reachOnUptoRow.holds Try.pinned (OpenSpec.upto reachOnSpec)

/-- 'haymowlaw08.ReachOrder', WHERE WHAT IT READS IS OF BULK AT MOST 1048576: true; the input reads as it did. -/
def reachOrderUptoRow : OpenClaim := { program := "ytmladfkafbjmoaa", sum := "41ab0bcbf4fc434690169f48fef0c9f6825767ea6ea4c764df172b4d7556c9b4", func := "haymow/haymowlaw08.ReachOrder", spec := "reachOrder", unfollowed := true, recurses := true, apart := false, narrowed := true }
def ReachOrderUptoSaid : Prop := reachOrderUptoRow.holds Try.pinned (OpenSpec.upto reachOrderSpec)

/-- 'haymowlaw08.ReachBack', WHERE WHAT IT READS IS OF BULK AT MOST 1048576: true; the input reads as it did. -/
def reachBackUptoRow : OpenClaim := { program := "ytmladfkafbjmoaa", sum := "41ab0bcbf4fc434690169f48fef0c9f6825767ea6ea4c764df172b4d7556c9b4", func := "haymow/haymowlaw08.ReachBack", spec := "reachBack", unfollowed := true, recurses := true, apart := false, narrowed := true }
def ReachBackUptoSaid : Prop := reachBackUptoRow.holds Try.pinned (OpenSpec.upto reachBackSpec)

end Rows
end Go.Proofs.Ytmladfkafbjmoaa
