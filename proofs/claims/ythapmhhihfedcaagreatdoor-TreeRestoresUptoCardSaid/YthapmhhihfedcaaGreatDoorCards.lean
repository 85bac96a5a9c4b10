/-
  DERIVED. GIVEN WITH THE SEED: THE CARDS: each row of YthapmhhihfedcaaGreatDoorRows.lean that lists a variable, with what it lists TIED to the program's text (the seventh form; the later family's looks); each row that meets fmt, with fmt's text TOLD by the authors' own Lean function (tested against real Go, not proved from fmt's source: count such statements apart). THE CARD IS WHAT COUNTS. Prove the row's statement (the work); the ties are given (YthapmhhihfedcaaGreatDoorTie.lean); close each card by the builder's one call (the guide's Derived/Test/ToyasCard.lean, 'card_holds'). Laid BY PROGRAM, IN A SANDBOX (cutbox-door.mjs). By AI agents, Wed Nov 11 2026. No macro, syntax, notation, axiom, sorry.
-/
import Derived.Test.YthapmhhihfedcaaGreatDoorRows
import GoSem.ClaimSeven
namespace Go.Proofs.YthapmhhihfedcaaGreatDoor
namespace Rows

/-- THE TIED CARD OF 'acheronlaw28.TreeRestores'. -/
def treeRestoresCard : Claim7 := { stood := { row := treeRestoresRow, standIns := [], harness := (true, "83287f24138adbc8816318fc4fab419906d02ef48e080d8434edf0b81ab4ed19"), looks := false }, kinds := [], alts := [], laidByText := true, laidKinds := [.data, .pinned], laidTests := true, laidLooks := .later }
def TreeRestoresCardSaid : Prop := Claim7.holds Tryz.pinned (.plain (OpenSpec.ofChange treeRestoresSpec)) treeRestoresCard

/-- THE SECOND FORM's CARD OF 'acheronlaw28.TreeRestores'. -/
def treeRestoresUptoCard : Claim7 := { stood := { row := treeRestoresUptoRow, standIns := [], harness := (true, "83287f24138adbc8816318fc4fab419906d02ef48e080d8434edf0b81ab4ed19"), looks := false }, kinds := [], alts := [], laidByText := true, laidKinds := [.data, .pinned], laidTests := true, laidLooks := .later }
def TreeRestoresUptoCardSaid : Prop := Claim7.holds Tryz.pinned (.plain (OpenSpec.upto treeRestoresSpec)) treeRestoresUptoCard
end Rows
end Go.Proofs.YthapmhhihfedcaaGreatDoor
