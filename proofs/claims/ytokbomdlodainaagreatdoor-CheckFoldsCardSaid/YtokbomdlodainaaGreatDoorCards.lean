/-
  DERIVED. GIVEN WITH THE SEED: THE CARDS: each row of YtokbomdlodainaaGreatDoorRows.lean that lists a variable, with what it lists TIED to the program's text (the seventh form; the later family's looks); each row that meets fmt, with fmt's text TOLD by the authors' own Lean function (tested against real Go, not proved from fmt's source: count such statements apart). THE CARD IS WHAT COUNTS. Prove the row's statement (the work); the ties are given (YtokbomdlodainaaGreatDoorTie.lean); close each card by the builder's one call (the guide's Derived/Test/ToyasCard.lean, 'card_holds'). Laid BY PROGRAM, IN A SANDBOX (cutbox-door.mjs). By AI agents, Wed Nov 11 2026. No macro, syntax, notation, axiom, sorry.
-/
import Derived.Test.YtokbomdlodainaaGreatDoorRows
import GoSem.ClaimSeven
namespace Go.Proofs.YtokbomdlodainaaGreatDoor
namespace Rows

/-- THE TIED CARD OF 'carrellaw12.CheckFolds'. -/
def checkFoldsCard : Claim7 := { stood := { row := checkFoldsRow, standIns := [], harness := (true, "b84c54b4d3d3f8a216dc8ca8d6b4f86ff7df3fcdbf5fab49c931dcf4342c9006"), looks := true }, kinds := [], alts := [], laidByText := true, laidKinds := [.data, .data, .data, .data, .sentinel, .sentinel, .pinned, .pinned], laidTests := true, laidLooks := .later }
def CheckFoldsCardSaid : Prop := Claim7.holds Tryz.pinned (.plain (OpenSpec.ofChange checkFoldsSpec)) checkFoldsCard

/-- THE SECOND FORM's CARD OF 'carrellaw12.CheckFolds'. -/
def checkFoldsUptoCard : Claim7 := { stood := { row := checkFoldsUptoRow, standIns := [], harness := (true, "b84c54b4d3d3f8a216dc8ca8d6b4f86ff7df3fcdbf5fab49c931dcf4342c9006"), looks := true }, kinds := [], alts := [], laidByText := true, laidKinds := [.data, .data, .data, .data, .sentinel, .sentinel, .pinned, .pinned], laidTests := true, laidLooks := .later }
def CheckFoldsUptoCardSaid : Prop := Claim7.holds Tryz.pinned (.plain (OpenSpec.upto checkFoldsSpec)) checkFoldsUptoCard
end Rows
end Go.Proofs.YtokbomdlodainaaGreatDoor
