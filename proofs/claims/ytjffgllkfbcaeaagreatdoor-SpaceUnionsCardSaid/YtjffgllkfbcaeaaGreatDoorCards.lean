/-
  DERIVED. GIVEN WITH THE SEED: THE CARDS: each row of YtjffgllkfbcaeaaGreatDoorRows.lean that lists a variable, with what it lists TIED to the program's text (the seventh form; the later family's looks); each row that meets fmt, with fmt's text TOLD by the authors' own Lean function (tested against real Go, not proved from fmt's source: count such statements apart). THE CARD IS WHAT COUNTS. Prove the row's statement (the work); the ties are given (YtjffgllkfbcaeaaGreatDoorTie.lean); close each card by the builder's one call (the guide's Derived/Test/ToyasCard.lean, 'card_holds'). Laid BY PROGRAM, IN A SANDBOX (cutbox-door.mjs). By AI agents, Wed Nov 11 2026. No macro, syntax, notation, axiom, sorry.
-/
import Derived.Test.YtjffgllkfbcaeaaGreatDoorRows
import GoSem.ClaimSeven
namespace Go.Proofs.YtjffgllkfbcaeaaGreatDoor
namespace Rows

/-- THE TIED CARD OF 'acheronlaw29.SpaceUnions'. -/
def spaceUnionsCard : Claim7 := { stood := { row := spaceUnionsRow, standIns := [], harness := (true, "23dd9b8886125ed35df6fc25fb0c29556f0da87a5e3da764c916705b35dd7e84"), looks := false }, kinds := [], alts := [], laidByText := true, laidKinds := [.data, .pinned], laidTests := true, laidLooks := .later }
def SpaceUnionsCardSaid : Prop := Claim7.holds Tryz.pinned (.plain (OpenSpec.ofChange spaceUnionsSpec)) spaceUnionsCard

/-- THE TIED CARD OF 'acheronlaw29.SpaceRestores'. -/
def spaceRestoresCard : Claim7 := { stood := { row := spaceRestoresRow, standIns := [], harness := (true, "23dd9b8886125ed35df6fc25fb0c29556f0da87a5e3da764c916705b35dd7e84"), looks := false }, kinds := [], alts := [], laidByText := true, laidKinds := [.data, .pinned], laidTests := true, laidLooks := .later }
def SpaceRestoresCardSaid : Prop := Claim7.holds Tryz.pinned (.plain (OpenSpec.ofChange spaceRestoresSpec)) spaceRestoresCard

/-- THE TIED CARD OF 'acheronlaw29.SpaceErrors'. -/
def spaceErrorsCard : Claim7 := { stood := { row := spaceErrorsRow, standIns := [], harness := (true, "23dd9b8886125ed35df6fc25fb0c29556f0da87a5e3da764c916705b35dd7e84"), looks := false }, kinds := [], alts := [], laidByText := true, laidKinds := [.data, .pinned], laidTests := true, laidLooks := .later }
def SpaceErrorsCardSaid : Prop := Claim7.holds Tryz.pinned (.plain (OpenSpec.ofChange spaceErrorsSpec)) spaceErrorsCard

/-- THE TIED CARD OF 'acheronlaw29.SpaceLists'. -/
def spaceListsCard : Claim7 := { stood := { row := spaceListsRow, standIns := [], harness := (true, "23dd9b8886125ed35df6fc25fb0c29556f0da87a5e3da764c916705b35dd7e84"), looks := false }, kinds := [], alts := [], laidByText := true, laidKinds := [.data, .pinned], laidTests := true, laidLooks := .later }
def SpaceListsCardSaid : Prop := Claim7.holds Tryz.pinned (.plain (OpenSpec.ofChange spaceListsSpec)) spaceListsCard

/-- THE TIED CARD OF 'acheronlaw29.SpaceNil'. -/
def spaceNilCard : Claim7 := { stood := { row := spaceNilRow, standIns := [], harness := (true, "23dd9b8886125ed35df6fc25fb0c29556f0da87a5e3da764c916705b35dd7e84"), looks := false }, kinds := [], alts := [], laidByText := true, laidKinds := [.data, .pinned], laidTests := true, laidLooks := .later }
def SpaceNilCardSaid : Prop := Claim7.holds Tryz.pinned (.plain (OpenSpec.ofChange spaceNilSpec)) spaceNilCard

/-- THE TIED CARD OF 'acheronlaw29.SpaceForks'. -/
def spaceForksCard : Claim7 := { stood := { row := spaceForksRow, standIns := [], harness := (true, "23dd9b8886125ed35df6fc25fb0c29556f0da87a5e3da764c916705b35dd7e84"), looks := false }, kinds := [], alts := [], laidByText := true, laidKinds := [.data, .pinned], laidTests := true, laidLooks := .later }
def SpaceForksCardSaid : Prop := Claim7.holds Tryz.pinned (.plain (OpenSpec.ofChange spaceForksSpec)) spaceForksCard

/-- THE SECOND FORM's CARD OF 'acheronlaw29.SpaceUnions'. -/
def spaceUnionsUptoCard : Claim7 := { stood := { row := spaceUnionsUptoRow, standIns := [], harness := (true, "23dd9b8886125ed35df6fc25fb0c29556f0da87a5e3da764c916705b35dd7e84"), looks := false }, kinds := [], alts := [], laidByText := true, laidKinds := [.data, .pinned], laidTests := true, laidLooks := .later }
def SpaceUnionsUptoCardSaid : Prop := Claim7.holds Tryz.pinned (.plain (OpenSpec.upto spaceUnionsSpec)) spaceUnionsUptoCard

/-- THE SECOND FORM's CARD OF 'acheronlaw29.SpaceRestores'. -/
def spaceRestoresUptoCard : Claim7 := { stood := { row := spaceRestoresUptoRow, standIns := [], harness := (true, "23dd9b8886125ed35df6fc25fb0c29556f0da87a5e3da764c916705b35dd7e84"), looks := false }, kinds := [], alts := [], laidByText := true, laidKinds := [.data, .pinned], laidTests := true, laidLooks := .later }
def SpaceRestoresUptoCardSaid : Prop := Claim7.holds Tryz.pinned (.plain (OpenSpec.upto spaceRestoresSpec)) spaceRestoresUptoCard

/-- THE SECOND FORM's CARD OF 'acheronlaw29.SpaceErrors'. -/
def spaceErrorsUptoCard : Claim7 := { stood := { row := spaceErrorsUptoRow, standIns := [], harness := (true, "23dd9b8886125ed35df6fc25fb0c29556f0da87a5e3da764c916705b35dd7e84"), looks := false }, kinds := [], alts := [], laidByText := true, laidKinds := [.data, .pinned], laidTests := true, laidLooks := .later }
def SpaceErrorsUptoCardSaid : Prop := Claim7.holds Tryz.pinned (.plain (OpenSpec.upto spaceErrorsSpec)) spaceErrorsUptoCard

/-- THE SECOND FORM's CARD OF 'acheronlaw29.SpaceLists'. -/
def spaceListsUptoCard : Claim7 := { stood := { row := spaceListsUptoRow, standIns := [], harness := (true, "23dd9b8886125ed35df6fc25fb0c29556f0da87a5e3da764c916705b35dd7e84"), looks := false }, kinds := [], alts := [], laidByText := true, laidKinds := [.data, .pinned], laidTests := true, laidLooks := .later }
def SpaceListsUptoCardSaid : Prop := Claim7.holds Tryz.pinned (.plain (OpenSpec.upto spaceListsSpec)) spaceListsUptoCard

/-- THE SECOND FORM's CARD OF 'acheronlaw29.SpaceNil'. -/
def spaceNilUptoCard : Claim7 := { stood := { row := spaceNilUptoRow, standIns := [], harness := (true, "23dd9b8886125ed35df6fc25fb0c29556f0da87a5e3da764c916705b35dd7e84"), looks := false }, kinds := [], alts := [], laidByText := true, laidKinds := [.data, .pinned], laidTests := true, laidLooks := .later }
def SpaceNilUptoCardSaid : Prop := Claim7.holds Tryz.pinned (.plain (OpenSpec.upto spaceNilSpec)) spaceNilUptoCard

/-- THE SECOND FORM's CARD OF 'acheronlaw29.SpaceForks'. -/
def spaceForksUptoCard : Claim7 := { stood := { row := spaceForksUptoRow, standIns := [], harness := (true, "23dd9b8886125ed35df6fc25fb0c29556f0da87a5e3da764c916705b35dd7e84"), looks := false }, kinds := [], alts := [], laidByText := true, laidKinds := [.data, .pinned], laidTests := true, laidLooks := .later }
def SpaceForksUptoCardSaid : Prop := Claim7.holds Tryz.pinned (.plain (OpenSpec.upto spaceForksSpec)) spaceForksUptoCard
end Rows
end Go.Proofs.YtjffgllkfbcaeaaGreatDoor
