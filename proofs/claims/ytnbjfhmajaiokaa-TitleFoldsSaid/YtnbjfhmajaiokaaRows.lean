/-
  No cell of these rows narrows 'for every input' (looked for: loops, veiled, ifaces, maps, wideKeys, modest, calm, conditions, laid).
  DERIVED. THE GIVEN ROWS OF THIS SEAT. 7 by the template 'for every input the law returns true; each argument reads behind the call as it read before'; 0 by the template 'total and deterministic' (their statements: YtnbjfhmajaiokaaTotals.lean).
  GIVEN WITH THE SEED: the statements are not yours to turn. If you find one false, say at which input.
  Laid BY PROGRAM, IN A SANDBOX (cutbox-rows.mjs): the forced cells as the released guide's own fill.sh prints them over the translation d35a28ffe594655a… (all of the seat's roots in one cut). By AI agents, Wed Nov 11 2026. No macro, syntax, notation, axiom, sorry.
-/
import Derived.Test.YtnbjfhmajaiokaaChecked
import GoSem.Claim
import GoSem.ClaimJoined
import GoSem.ClaimMapViews
import Derived.JoinedTies
import Derived.KernelRfl
namespace Go.Proofs.Ytnbjfhmajaiokaa
/- THE CELL 'sum', in the pinned program and in every row, IS THE sha256 OF THE DUMP (.gsa) THAT YtnbjfhmajaiokaaProg.lean LOADS. Nothing in Lean hashes anything: it is a label: what it is worth is what the hold of that sum in a sandbox is worth. -/
noncomputable def Try.pinned : Pinned := { name := "ytnbjfhmajaiokaa", sum := "d35a28ffe594655a5f47de4bbbcb8629407f2f5e68da8dfb37169e55af20e65b", checked := Try.checked }
namespace Rows
def none {H : Type} : Left H := { results := [], args := [] }

/-- 'haymowlaw09.TitleNames': WHATEVER THE INPUT: true; the input reads as it did. -/
def titleNamesSpec : ChangeSpec := { name := "titleNames", fn := fun _ => fun
  | [d] => { results := [.lit (.bool true)], args := [d] }
  | _ => none }
def titleNamesRow : OpenClaim := { program := "ytnbjfhmajaiokaa", sum := "d35a28ffe594655a5f47de4bbbcb8629407f2f5e68da8dfb37169e55af20e65b", func := "haymow/haymowlaw09.TitleNames", spec := "titleNames", unfollowed := true, recurses := true, apart := false }
def TitleNamesSaid : Prop := titleNamesRow.holds Try.pinned (OpenSpec.ofChange titleNamesSpec)

/-- ITS FALSE NEIGHBOUR: 'it returns false'. Refute it at one input. -/
def titleNamesWrong : ChangeSpec := { name := "titleNames", fn := fun _ => fun
  | [d] => { results := [.lit (.bool false)], args := [d] }
  | _ => none }
def TitleNamesWrongFalsely : Prop := titleNamesRow.holds Try.pinned (OpenSpec.ofChange titleNamesWrong)

/-- 'haymowlaw09.TitleOrder': WHATEVER THE INPUT: true; the input reads as it did. -/
def titleOrderSpec : ChangeSpec := { name := "titleOrder", fn := fun _ => fun
  | [d1, d2, d3] => { results := [.lit (.bool true)], args := [d1, d2, d3] }
  | _ => none }
def titleOrderRow : OpenClaim := { program := "ytnbjfhmajaiokaa", sum := "d35a28ffe594655a5f47de4bbbcb8629407f2f5e68da8dfb37169e55af20e65b", func := "haymow/haymowlaw09.TitleOrder", spec := "titleOrder", inPlace := ["internal/bytealg.abigen_runtime_cmpstring"], unfollowed := true, recurses := true, apart := false }
def TitleOrderSaid : Prop := titleOrderRow.holds Try.pinned (OpenSpec.ofChange titleOrderSpec)

/-- ITS FALSE NEIGHBOUR: 'it returns false'. Refute it at one input. -/
def titleOrderWrong : ChangeSpec := { name := "titleOrder", fn := fun _ => fun
  | [d1, d2, d3] => { results := [.lit (.bool false)], args := [d1, d2, d3] }
  | _ => none }
def TitleOrderWrongFalsely : Prop := titleOrderRow.holds Try.pinned (OpenSpec.ofChange titleOrderWrong)

/-- 'haymowlaw09.TitleFits': WHATEVER THE INPUT: true; the input reads as it did. -/
def titleFitsSpec : ChangeSpec := { name := "titleFits", fn := fun _ => fun
  | [d] => { results := [.lit (.bool true)], args := [d] }
  | _ => none }
def titleFitsRow : OpenClaim := { program := "ytnbjfhmajaiokaa", sum := "d35a28ffe594655a5f47de4bbbcb8629407f2f5e68da8dfb37169e55af20e65b", func := "haymow/haymowlaw09.TitleFits", spec := "titleFits", unfollowed := true, recurses := true, apart := false }
def TitleFitsSaid : Prop := titleFitsRow.holds Try.pinned (OpenSpec.ofChange titleFitsSpec)

/-- ITS FALSE NEIGHBOUR: 'it returns false'. Refute it at one input. -/
def titleFitsWrong : ChangeSpec := { name := "titleFits", fn := fun _ => fun
  | [d] => { results := [.lit (.bool false)], args := [d] }
  | _ => none }
def TitleFitsWrongFalsely : Prop := titleFitsRow.holds Try.pinned (OpenSpec.ofChange titleFitsWrong)

/-- 'haymowlaw09.TitleFolds': WHATEVER THE INPUT: true; the input reads as it did. -/
def titleFoldsSpec : ChangeSpec := { name := "titleFolds", fn := fun _ => fun
  | [d] => { results := [.lit (.bool true)], args := [d] }
  | _ => none }
def titleFoldsRow : OpenClaim := { program := "ytnbjfhmajaiokaa", sum := "d35a28ffe594655a5f47de4bbbcb8629407f2f5e68da8dfb37169e55af20e65b", func := "haymow/haymowlaw09.TitleFolds", spec := "titleFolds", unfollowed := true, recurses := true, apart := false }
def TitleFoldsSaid : Prop := titleFoldsRow.holds Try.pinned (OpenSpec.ofChange titleFoldsSpec)

/-- ITS FALSE NEIGHBOUR: 'it returns false'. Refute it at one input. -/
def titleFoldsWrong : ChangeSpec := { name := "titleFolds", fn := fun _ => fun
  | [d] => { results := [.lit (.bool false)], args := [d] }
  | _ => none }
def TitleFoldsWrongFalsely : Prop := titleFoldsRow.holds Try.pinned (OpenSpec.ofChange titleFoldsWrong)

/-- 'haymowlaw09.TitleWhole': WHATEVER THE INPUT: true; the input reads as it did. -/
def titleWholeSpec : ChangeSpec := { name := "titleWhole", fn := fun _ => fun
  | [d1, d2] => { results := [.lit (.bool true)], args := [d1, d2] }
  | _ => none }
def titleWholeRow : OpenClaim := { program := "ytnbjfhmajaiokaa", sum := "d35a28ffe594655a5f47de4bbbcb8629407f2f5e68da8dfb37169e55af20e65b", func := "haymow/haymowlaw09.TitleWhole", spec := "titleWhole", unfollowed := true, recurses := true, apart := false }
def TitleWholeSaid : Prop := titleWholeRow.holds Try.pinned (OpenSpec.ofChange titleWholeSpec)

/-- ITS FALSE NEIGHBOUR: 'it returns false'. Refute it at one input. -/
def titleWholeWrong : ChangeSpec := { name := "titleWhole", fn := fun _ => fun
  | [d1, d2] => { results := [.lit (.bool false)], args := [d1, d2] }
  | _ => none }
def TitleWholeWrongFalsely : Prop := titleWholeRow.holds Try.pinned (OpenSpec.ofChange titleWholeWrong)

/-- 'haymowlaw09.TitleJoins': WHATEVER THE INPUT: true; the input reads as it did. -/
def titleJoinsSpec : ChangeSpec := { name := "titleJoins", fn := fun _ => fun
  | [d1, d2] => { results := [.lit (.bool true)], args := [d1, d2] }
  | _ => none }
def titleJoinsRow : OpenClaim := { program := "ytnbjfhmajaiokaa", sum := "d35a28ffe594655a5f47de4bbbcb8629407f2f5e68da8dfb37169e55af20e65b", func := "haymow/haymowlaw09.TitleJoins", spec := "titleJoins", unfollowed := true, recurses := true, apart := false }
def TitleJoinsSaid : Prop := titleJoinsRow.holds Try.pinned (OpenSpec.ofChange titleJoinsSpec)

/-- ITS FALSE NEIGHBOUR: 'it returns false'. Refute it at one input. -/
def titleJoinsWrong : ChangeSpec := { name := "titleJoins", fn := fun _ => fun
  | [d1, d2] => { results := [.lit (.bool false)], args := [d1, d2] }
  | _ => none }
def TitleJoinsWrongFalsely : Prop := titleJoinsRow.holds Try.pinned (OpenSpec.ofChange titleJoinsWrong)

/-- 'haymowlaw09.TitleHeads': WHATEVER THE INPUT: true; the input reads as it did. -/
def titleHeadsSpec : ChangeSpec := { name := "titleHeads", fn := fun _ => fun
  | [d1, d2, d3] => { results := [.lit (.bool true)], args := [d1, d2, d3] }
  | _ => none }
def titleHeadsRow : OpenClaim := { program := "ytnbjfhmajaiokaa", sum := "d35a28ffe594655a5f47de4bbbcb8629407f2f5e68da8dfb37169e55af20e65b", func := "haymow/haymowlaw09.TitleHeads", spec := "titleHeads", inPlace := ["internal/bytealg.abigen_runtime_cmpstring"], unfollowed := true, recurses := true, apart := false }
def TitleHeadsSaid : Prop := titleHeadsRow.holds Try.pinned (OpenSpec.ofChange titleHeadsSpec)

/-- ITS FALSE NEIGHBOUR: 'it returns false'. Refute it at one input. -/
def titleHeadsWrong : ChangeSpec := { name := "titleHeads", fn := fun _ => fun
  | [d1, d2, d3] => { results := [.lit (.bool false)], args := [d1, d2, d3] }
  | _ => none }
def TitleHeadsWrongFalsely : Prop := titleHeadsRow.holds Try.pinned (OpenSpec.ofChange titleHeadsWrong)

/- THE SECOND FORM. 'bulk': how many values and letters a reading holds, each counted each time it is reached (what is shared counts as often as it is met; a slice's spare places count too). A statement '..UptoSaid' is the law's where the arguments, and the package variables that the reading takes, are together of bulk at most 1048576: NARROWER than '..Said'. Prove '..Said' where nothing that the law and all that it calls make is longer than what came in: it says more and counts as full. Else prove '..UptoSaid'. A law counts once. -/
mutual
def uptoBulk {H : Type} : DataW H → Nat
  | .lit (.string bytes) => bytes.length + 1
  | .lit _ => 1
  | .nil => 1
  | .ptr d => uptoBulk d + 1
  | .slice elems spare => uptoBulkAll elems + uptoBulkAll spare + 1
  | .agg parts => uptoBulkAll parts + 1
  | .iface _ d => uptoBulk d + 1
  | .map entries => uptoBulkEntries entries + 1
  | .held _ => 1
def uptoBulkAll {H : Type} : List (DataW H) → Nat
  | [] => 0
  | d :: r => uptoBulk d + uptoBulkAll r
def uptoBulkEntries {H : Type} : List (Lit × DataW H) → Nat
  | [] => 0
  | x :: r => uptoBulkEntry x + uptoBulkEntries r
def uptoBulkEntry {H : Type} : Lit × DataW H → Nat
  | (.string bytes, d) => bytes.length + uptoBulk d + 1
  | (_, d) => uptoBulk d + 1
 end
def uptoSmall : (H : Type) → List (DataW H) → Bool := fun _ ds => decide (uptoBulkAll ds ≤ 1048576)
def OpenSpec.upto (s : _root_.Go.ChangeSpec) : _root_.Go.OpenSpec := { _root_.Go.OpenSpec.ofChange s with cond := some uptoSmall }

/-- 'haymowlaw09.TitleNames', WHERE WHAT IT READS IS OF BULK AT MOST 1048576: true; the input reads as it did. -/
def titleNamesUptoRow : OpenClaim := { program := "ytnbjfhmajaiokaa", sum := "d35a28ffe594655a5f47de4bbbcb8629407f2f5e68da8dfb37169e55af20e65b", func := "haymow/haymowlaw09.TitleNames", spec := "titleNames", unfollowed := true, recurses := true, apart := false, narrowed := true }
def TitleNamesUptoSaid : Prop := titleNamesUptoRow.holds Try.pinned (OpenSpec.upto titleNamesSpec)

/-- 'haymowlaw09.TitleOrder', WHERE WHAT IT READS IS OF BULK AT MOST 1048576: true; the input reads as it did. -/
def titleOrderUptoRow : OpenClaim := { program := "ytnbjfhmajaiokaa", sum := "d35a28ffe594655a5f47de4bbbcb8629407f2f5e68da8dfb37169e55af20e65b", func := "haymow/haymowlaw09.TitleOrder", spec := "titleOrder", inPlace := ["internal/bytealg.abigen_runtime_cmpstring"], unfollowed := true, recurses := true, apart := false, narrowed := true }
def TitleOrderUptoSaid : Prop := titleOrderUptoRow.holds Try.pinned (OpenSpec.upto titleOrderSpec)

/-- 'haymowlaw09.TitleFits', WHERE WHAT IT READS IS OF BULK AT MOST 1048576: true; the input reads as it did. -/
def titleFitsUptoRow : OpenClaim := { program := "ytnbjfhmajaiokaa", sum := "d35a28ffe594655a5f47de4bbbcb8629407f2f5e68da8dfb37169e55af20e65b", func := "haymow/haymowlaw09.TitleFits", spec := "titleFits", unfollowed := true, recurses := true, apart := false, narrowed := true }
def TitleFitsUptoSaid : Prop := titleFitsUptoRow.holds Try.pinned (OpenSpec.upto titleFitsSpec)

/-- 'haymowlaw09.TitleFolds', WHERE WHAT IT READS IS OF BULK AT MOST 1048576: true; the input reads as it did. -/
def titleFoldsUptoRow : OpenClaim := { program := "ytnbjfhmajaiokaa", sum := "d35a28ffe594655a5f47de4bbbcb8629407f2f5e68da8dfb37169e55af20e65b", func := "haymow/haymowlaw09.TitleFolds", spec := "titleFolds", unfollowed := true, recurses := true, apart := false, narrowed := true }
def TitleFoldsUptoSaid : Prop := titleFoldsUptoRow.holds Try.pinned (OpenSpec.upto titleFoldsSpec)

/-- 'haymowlaw09.TitleWhole', WHERE WHAT IT READS IS OF BULK AT MOST 1048576: true; the input reads as it did. -/
def titleWholeUptoRow : OpenClaim := { program := "ytnbjfhmajaiokaa", sum := "d35a28ffe594655a5f47de4bbbcb8629407f2f5e68da8dfb37169e55af20e65b", func := "haymow/haymowlaw09.TitleWhole", spec := "titleWhole", unfollowed := true, recurses := true, apart := false, narrowed := true }
def TitleWholeUptoSaid : Prop := titleWholeUptoRow.holds Try.pinned (OpenSpec.upto titleWholeSpec)

/-- 'haymowlaw09.TitleJoins', WHERE WHAT IT READS IS OF BULK AT MOST 1048576: true; the input reads as it did. -/
def titleJoinsUptoRow : OpenClaim := { program := "ytnbjfhmajaiokaa", sum := "d35a28ffe594655a5f47de4bbbcb8629407f2f5e68da8dfb37169e55af20e65b", func := "haymow/haymowlaw09.TitleJoins", spec := "titleJoins", unfollowed := true, recurses := true, apart := false, narrowed := true }
def TitleJoinsUptoSaid : Prop := titleJoinsUptoRow.holds Try.pinned (OpenSpec.upto titleJoinsSpec)

/-- 'haymowlaw09.TitleHeads', WHERE WHAT IT READS IS OF BULK AT MOST 1048576: true; the input reads as it did. -/
def titleHeadsUptoRow : OpenClaim := { program := "ytnbjfhmajaiokaa", sum := "d35a28ffe594655a5f47de4bbbcb8629407f2f5e68da8dfb37169e55af20e65b", func := "haymow/haymowlaw09.TitleHeads", spec := "titleHeads", inPlace := ["internal/bytealg.abigen_runtime_cmpstring"], unfollowed := true, recurses := true, apart := false, narrowed := true }
def TitleHeadsUptoSaid : Prop := titleHeadsUptoRow.holds Try.pinned (OpenSpec.upto titleHeadsSpec)

end Rows
end Go.Proofs.Ytnbjfhmajaiokaa
