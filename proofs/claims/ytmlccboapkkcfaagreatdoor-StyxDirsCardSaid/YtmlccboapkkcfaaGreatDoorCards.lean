/-
  DERIVED. GIVEN WITH THE SEED: THE CARDS: each row of YtmlccboapkkcfaaGreatDoorRows.lean that lists a variable, with what it lists TIED to the program's text (the seventh form; the later family's looks); each row that meets fmt, with fmt's text TOLD by the authors' own Lean function (tested against real Go, not proved from fmt's source: count such statements apart). THE CARD IS WHAT COUNTS. Prove the row's statement (the work); the ties are given (YtmlccboapkkcfaaGreatDoorTie.lean); close each card by the builder's one call (the guide's Derived/Test/ToyasCard.lean, 'card_holds'). Laid BY PROGRAM, IN A SANDBOX (cutbox-door.mjs). By AI agents, Wed Nov 11 2026. No macro, syntax, notation, axiom, sorry.
-/
import Derived.Test.YtmlccboapkkcfaaGreatDoorRows
import GoSem.ClaimSeven
namespace Go.Proofs.YtmlccboapkkcfaaGreatDoor
namespace Rows

/-- THE TIED CARD OF 'acheronlaw31.StyxDirs'. -/
def styxDirsCard : Claim7 := { stood := { row := styxDirsRow, standIns := [], harness := (true, "282779a05dab322c51262f63090ed88cd9613ee61aae305729a9087de74a8685"), looks := false }, kinds := [], alts := [], laidByText := true, laidKinds := [.mapped], laidTests := true, laidLooks := .later }
def StyxDirsCardSaid : Prop := Claim7.holds Tryz.pinned (.plain (OpenSpec.ofChange styxDirsSpec)) styxDirsCard

/-- THE SECOND FORM's CARD OF 'acheronlaw31.StyxDirs'. -/
def styxDirsUptoCard : Claim7 := { stood := { row := styxDirsUptoRow, standIns := [], harness := (true, "282779a05dab322c51262f63090ed88cd9613ee61aae305729a9087de74a8685"), looks := false }, kinds := [], alts := [], laidByText := true, laidKinds := [.mapped], laidTests := true, laidLooks := .later }
def StyxDirsUptoCardSaid : Prop := Claim7.holds Tryz.pinned (.plain (OpenSpec.upto styxDirsSpec)) styxDirsUptoCard
end Rows
end Go.Proofs.YtmlccboapkkcfaaGreatDoor
