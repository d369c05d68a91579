/-
  DERIVED. GIVEN WITH THE SEED: THE CARDS: each row of YtofbgebgneinaaaDoorRows.lean that lists a variable, with what it lists TIED to the program's text (the seventh form; the later family's looks); each row that meets fmt, with fmt's text TOLD by the authors' own Lean function (tested against real Go, not proved from fmt's source: count such statements apart). THE CARD IS WHAT COUNTS. Prove the row's statement (the work); the ties are given (YtofbgebgneinaaaDoorTie.lean); close each card by the builder's one call (the guide's Derived/Test/ToyasCard.lean, 'card_holds'). Laid BY PROGRAM, IN A SANDBOX (cutbox-door.mjs). By AI agents, Wed Nov 11 2026. No macro, syntax, notation, axiom, sorry.
-/
import Derived.Test.YtofbgebgneinaaaDoorRows
import GoSem.ClaimSeven
namespace Go.Proofs.YtofbgebgneinaaaDoor
namespace Rows

/-- THE TIED CARD OF 'haymowlaw11.PathParses'. -/
def pathParsesCard : Claim7 := { stood := { row := pathParsesRow, standIns := [], harness := (true, "ea93ca2be0ead4b91f1ee874a91fd674cae6d14fedd28352adb0ef0e95eb6287"), looks := false }, kinds := [], alts := [], laidByText := true, laidKinds := [.data, .pinned], laidTests := true, laidLooks := .later }
def PathParsesCardSaid : Prop := Claim7.holds Tryd.pinned (.plain (OpenSpec.ofChange pathParsesSpec)) pathParsesCard

/-- THE TIED CARD OF 'haymowlaw11.PathParents'. -/
def pathParentsCard : Claim7 := { stood := { row := pathParentsRow, standIns := [], harness := (true, "ea93ca2be0ead4b91f1ee874a91fd674cae6d14fedd28352adb0ef0e95eb6287"), looks := false }, kinds := [], alts := [], laidByText := true, laidKinds := [.data, .pinned], laidTests := true, laidLooks := .later }
def PathParentsCardSaid : Prop := Claim7.holds Tryd.pinned (.plain (OpenSpec.ofChange pathParentsSpec)) pathParentsCard

/-- THE TIED CARD OF 'haymowlaw11.PathSame'. -/
def pathSameCard : Claim7 := { stood := { row := pathSameRow, standIns := [], harness := (true, "ea93ca2be0ead4b91f1ee874a91fd674cae6d14fedd28352adb0ef0e95eb6287"), looks := false }, kinds := [], alts := [], laidByText := true, laidKinds := [.data, .pinned], laidTests := true, laidLooks := .later }
def PathSameCardSaid : Prop := Claim7.holds Tryd.pinned (.plain (OpenSpec.ofChange pathSameSpec)) pathSameCard

/-- THE TIED CARD OF 'haymowlaw11.PathJoins'. -/
def pathJoinsCard : Claim7 := { stood := { row := pathJoinsRow, standIns := [], harness := (true, "ea93ca2be0ead4b91f1ee874a91fd674cae6d14fedd28352adb0ef0e95eb6287"), looks := false }, kinds := [], alts := [], laidByText := true, laidKinds := [.data, .pinned], laidTests := true, laidLooks := .later }
def PathJoinsCardSaid : Prop := Claim7.holds Tryd.pinned (.plain (OpenSpec.ofChange pathJoinsSpec)) pathJoinsCard

/-- THE SECOND FORM's CARD OF 'haymowlaw11.PathParses'. -/
def pathParsesUptoCard : Claim7 := { stood := { row := pathParsesUptoRow, standIns := [], harness := (true, "ea93ca2be0ead4b91f1ee874a91fd674cae6d14fedd28352adb0ef0e95eb6287"), looks := false }, kinds := [], alts := [], laidByText := true, laidKinds := [.data, .pinned], laidTests := true, laidLooks := .later }
def PathParsesUptoCardSaid : Prop := Claim7.holds Tryd.pinned (.plain (OpenSpec.upto pathParsesSpec)) pathParsesUptoCard

/-- THE SECOND FORM's CARD OF 'haymowlaw11.PathParents'. -/
def pathParentsUptoCard : Claim7 := { stood := { row := pathParentsUptoRow, standIns := [], harness := (true, "ea93ca2be0ead4b91f1ee874a91fd674cae6d14fedd28352adb0ef0e95eb6287"), looks := false }, kinds := [], alts := [], laidByText := true, laidKinds := [.data, .pinned], laidTests := true, laidLooks := .later }
def PathParentsUptoCardSaid : Prop := Claim7.holds Tryd.pinned (.plain (OpenSpec.upto pathParentsSpec)) pathParentsUptoCard

/-- THE SECOND FORM's CARD OF 'haymowlaw11.PathSame'. -/
def pathSameUptoCard : Claim7 := { stood := { row := pathSameUptoRow, standIns := [], harness := (true, "ea93ca2be0ead4b91f1ee874a91fd674cae6d14fedd28352adb0ef0e95eb6287"), looks := false }, kinds := [], alts := [], laidByText := true, laidKinds := [.data, .pinned], laidTests := true, laidLooks := .later }
def PathSameUptoCardSaid : Prop := Claim7.holds Tryd.pinned (.plain (OpenSpec.upto pathSameSpec)) pathSameUptoCard

/-- THE SECOND FORM's CARD OF 'haymowlaw11.PathJoins'. -/
def pathJoinsUptoCard : Claim7 := { stood := { row := pathJoinsUptoRow, standIns := [], harness := (true, "ea93ca2be0ead4b91f1ee874a91fd674cae6d14fedd28352adb0ef0e95eb6287"), looks := false }, kinds := [], alts := [], laidByText := true, laidKinds := [.data, .pinned], laidTests := true, laidLooks := .later }
def PathJoinsUptoCardSaid : Prop := Claim7.holds Tryd.pinned (.plain (OpenSpec.upto pathJoinsSpec)) pathJoinsUptoCard
end Rows
end Go.Proofs.YtofbgebgneinaaaDoor
