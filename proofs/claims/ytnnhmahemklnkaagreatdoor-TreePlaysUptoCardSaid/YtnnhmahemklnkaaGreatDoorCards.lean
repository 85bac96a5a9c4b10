/-
  DERIVED. GIVEN WITH THE SEED: THE CARDS: each row of YtnnhmahemklnkaaGreatDoorRows.lean that lists a variable, with what it lists TIED to the program's text (the seventh form; the later family's looks); each row that meets fmt, with fmt's text TOLD by the authors' own Lean function (tested against real Go, not proved from fmt's source: count such statements apart). THE CARD IS WHAT COUNTS. Prove the row's statement (the work); the ties are given (YtnnhmahemklnkaaGreatDoorTie.lean); close each card by the builder's one call (the guide's Derived/Test/ToyasCard.lean, 'card_holds'). Laid BY PROGRAM, IN A SANDBOX (cutbox-door.mjs). By AI agents, Wed Nov 11 2026. No macro, syntax, notation, axiom, sorry.
-/
import Derived.Test.YtnnhmahemklnkaaGreatDoorRows
import GoSem.ClaimSeven
namespace Go.Proofs.YtnnhmahemklnkaaGreatDoor
namespace Rows

/-- THE TIED CARD OF 'acheronlaw28.TreeCleans'. -/
def treeCleansCard : Claim7 := { stood := { row := treeCleansRow, standIns := [], harness := (true, "4265962816ca1259ade66875a46a2029037439286b1b1cef39619541dc3d7884"), looks := false }, kinds := [], alts := [], laidByText := true, laidKinds := [.data, .pinned], laidTests := true, laidLooks := .later }
def TreeCleansCardSaid : Prop := Claim7.holds Tryz.pinned (.plain (OpenSpec.ofChange treeCleansSpec)) treeCleansCard

/-- THE TIED CARD OF 'acheronlaw28.TreeForeign'. -/
def treeForeignCard : Claim7 := { stood := { row := treeForeignRow, standIns := [], harness := (true, "4265962816ca1259ade66875a46a2029037439286b1b1cef39619541dc3d7884"), looks := false }, kinds := [], alts := [], laidByText := true, laidKinds := [.data, .pinned], laidTests := true, laidLooks := .later }
def TreeForeignCardSaid : Prop := Claim7.holds Tryz.pinned (.plain (OpenSpec.ofChange treeForeignSpec)) treeForeignCard

/-- THE TIED CARD OF 'acheronlaw28.TreeVersions'. -/
def treeVersionsCard : Claim7 := { stood := { row := treeVersionsRow, standIns := [], harness := (true, "4265962816ca1259ade66875a46a2029037439286b1b1cef39619541dc3d7884"), looks := false }, kinds := [], alts := [], laidByText := true, laidKinds := [.data, .pinned], laidTests := true, laidLooks := .later }
def TreeVersionsCardSaid : Prop := Claim7.holds Tryz.pinned (.plain (OpenSpec.ofChange treeVersionsSpec)) treeVersionsCard

/-- THE TIED CARD OF 'acheronlaw28.TreeNames'. -/
def treeNamesCard : Claim7 := { stood := { row := treeNamesRow, standIns := [], harness := (true, "4265962816ca1259ade66875a46a2029037439286b1b1cef39619541dc3d7884"), looks := false }, kinds := [], alts := [], laidByText := true, laidKinds := [.data, .pinned], laidTests := true, laidLooks := .later }
def TreeNamesCardSaid : Prop := Claim7.holds Tryz.pinned (.plain (OpenSpec.ofChange treeNamesSpec)) treeNamesCard

/-- THE TIED CARD OF 'acheronlaw28.TreeErrors'. -/
def treeErrorsCard : Claim7 := { stood := { row := treeErrorsRow, standIns := [], harness := (true, "4265962816ca1259ade66875a46a2029037439286b1b1cef39619541dc3d7884"), looks := false }, kinds := [], alts := [], laidByText := true, laidKinds := [.data, .pinned], laidTests := true, laidLooks := .later }
def TreeErrorsCardSaid : Prop := Claim7.holds Tryz.pinned (.plain (OpenSpec.ofChange treeErrorsSpec)) treeErrorsCard

/-- THE TIED CARD OF 'acheronlaw28.TreePlays'. -/
def treePlaysCard : Claim7 := { stood := { row := treePlaysRow, standIns := [], harness := (true, "4265962816ca1259ade66875a46a2029037439286b1b1cef39619541dc3d7884"), looks := false }, kinds := [], alts := [], laidByText := true, laidKinds := [.data, .pinned], laidTests := true, laidLooks := .later }
def TreePlaysCardSaid : Prop := Claim7.holds Tryz.pinned (.plain (OpenSpec.ofChange treePlaysSpec)) treePlaysCard

/-- THE TIED CARD OF 'acheronlaw28.TreeClones'. -/
def treeClonesCard : Claim7 := { stood := { row := treeClonesRow, standIns := [], harness := (true, "4265962816ca1259ade66875a46a2029037439286b1b1cef39619541dc3d7884"), looks := false }, kinds := [], alts := [], laidByText := true, laidKinds := [.data, .pinned], laidTests := true, laidLooks := .later }
def TreeClonesCardSaid : Prop := Claim7.holds Tryz.pinned (.plain (OpenSpec.ofChange treeClonesSpec)) treeClonesCard

/-- THE TIED CARD OF 'acheronlaw28.TreeNil'. -/
def treeNilCard : Claim7 := { stood := { row := treeNilRow, standIns := [], harness := (true, "4265962816ca1259ade66875a46a2029037439286b1b1cef39619541dc3d7884"), looks := false }, kinds := [], alts := [], laidByText := true, laidKinds := [.data, .pinned], laidTests := true, laidLooks := .later }
def TreeNilCardSaid : Prop := Claim7.holds Tryz.pinned (.plain (OpenSpec.ofChange treeNilSpec)) treeNilCard

/-- THE TIED CARD OF 'acheronlaw28.TreeRestores'. -/
def treeRestoresCard : Claim7 := { stood := { row := treeRestoresRow, standIns := [], harness := (true, "4265962816ca1259ade66875a46a2029037439286b1b1cef39619541dc3d7884"), looks := false }, kinds := [], alts := [], laidByText := true, laidKinds := [.data, .pinned], laidTests := true, laidLooks := .later }
def TreeRestoresCardSaid : Prop := Claim7.holds Tryz.pinned (.plain (OpenSpec.ofChange treeRestoresSpec)) treeRestoresCard

/-- THE SECOND FORM's CARD OF 'acheronlaw28.TreeCleans'. -/
def treeCleansUptoCard : Claim7 := { stood := { row := treeCleansUptoRow, standIns := [], harness := (true, "4265962816ca1259ade66875a46a2029037439286b1b1cef39619541dc3d7884"), looks := false }, kinds := [], alts := [], laidByText := true, laidKinds := [.data, .pinned], laidTests := true, laidLooks := .later }
def TreeCleansUptoCardSaid : Prop := Claim7.holds Tryz.pinned (.plain (OpenSpec.upto treeCleansSpec)) treeCleansUptoCard

/-- THE SECOND FORM's CARD OF 'acheronlaw28.TreeForeign'. -/
def treeForeignUptoCard : Claim7 := { stood := { row := treeForeignUptoRow, standIns := [], harness := (true, "4265962816ca1259ade66875a46a2029037439286b1b1cef39619541dc3d7884"), looks := false }, kinds := [], alts := [], laidByText := true, laidKinds := [.data, .pinned], laidTests := true, laidLooks := .later }
def TreeForeignUptoCardSaid : Prop := Claim7.holds Tryz.pinned (.plain (OpenSpec.upto treeForeignSpec)) treeForeignUptoCard

/-- THE SECOND FORM's CARD OF 'acheronlaw28.TreeVersions'. -/
def treeVersionsUptoCard : Claim7 := { stood := { row := treeVersionsUptoRow, standIns := [], harness := (true, "4265962816ca1259ade66875a46a2029037439286b1b1cef39619541dc3d7884"), looks := false }, kinds := [], alts := [], laidByText := true, laidKinds := [.data, .pinned], laidTests := true, laidLooks := .later }
def TreeVersionsUptoCardSaid : Prop := Claim7.holds Tryz.pinned (.plain (OpenSpec.upto treeVersionsSpec)) treeVersionsUptoCard

/-- THE SECOND FORM's CARD OF 'acheronlaw28.TreeNames'. -/
def treeNamesUptoCard : Claim7 := { stood := { row := treeNamesUptoRow, standIns := [], harness := (true, "4265962816ca1259ade66875a46a2029037439286b1b1cef39619541dc3d7884"), looks := false }, kinds := [], alts := [], laidByText := true, laidKinds := [.data, .pinned], laidTests := true, laidLooks := .later }
def TreeNamesUptoCardSaid : Prop := Claim7.holds Tryz.pinned (.plain (OpenSpec.upto treeNamesSpec)) treeNamesUptoCard

/-- THE SECOND FORM's CARD OF 'acheronlaw28.TreeErrors'. -/
def treeErrorsUptoCard : Claim7 := { stood := { row := treeErrorsUptoRow, standIns := [], harness := (true, "4265962816ca1259ade66875a46a2029037439286b1b1cef39619541dc3d7884"), looks := false }, kinds := [], alts := [], laidByText := true, laidKinds := [.data, .pinned], laidTests := true, laidLooks := .later }
def TreeErrorsUptoCardSaid : Prop := Claim7.holds Tryz.pinned (.plain (OpenSpec.upto treeErrorsSpec)) treeErrorsUptoCard

/-- THE SECOND FORM's CARD OF 'acheronlaw28.TreePlays'. -/
def treePlaysUptoCard : Claim7 := { stood := { row := treePlaysUptoRow, standIns := [], harness := (true, "4265962816ca1259ade66875a46a2029037439286b1b1cef39619541dc3d7884"), looks := false }, kinds := [], alts := [], laidByText := true, laidKinds := [.data, .pinned], laidTests := true, laidLooks := .later }
def TreePlaysUptoCardSaid : Prop := Claim7.holds Tryz.pinned (.plain (OpenSpec.upto treePlaysSpec)) treePlaysUptoCard

/-- THE SECOND FORM's CARD OF 'acheronlaw28.TreeClones'. -/
def treeClonesUptoCard : Claim7 := { stood := { row := treeClonesUptoRow, standIns := [], harness := (true, "4265962816ca1259ade66875a46a2029037439286b1b1cef39619541dc3d7884"), looks := false }, kinds := [], alts := [], laidByText := true, laidKinds := [.data, .pinned], laidTests := true, laidLooks := .later }
def TreeClonesUptoCardSaid : Prop := Claim7.holds Tryz.pinned (.plain (OpenSpec.upto treeClonesSpec)) treeClonesUptoCard

/-- THE SECOND FORM's CARD OF 'acheronlaw28.TreeNil'. -/
def treeNilUptoCard : Claim7 := { stood := { row := treeNilUptoRow, standIns := [], harness := (true, "4265962816ca1259ade66875a46a2029037439286b1b1cef39619541dc3d7884"), looks := false }, kinds := [], alts := [], laidByText := true, laidKinds := [.data, .pinned], laidTests := true, laidLooks := .later }
def TreeNilUptoCardSaid : Prop := Claim7.holds Tryz.pinned (.plain (OpenSpec.upto treeNilSpec)) treeNilUptoCard

/-- THE SECOND FORM's CARD OF 'acheronlaw28.TreeRestores'. -/
def treeRestoresUptoCard : Claim7 := { stood := { row := treeRestoresUptoRow, standIns := [], harness := (true, "4265962816ca1259ade66875a46a2029037439286b1b1cef39619541dc3d7884"), looks := false }, kinds := [], alts := [], laidByText := true, laidKinds := [.data, .pinned], laidTests := true, laidLooks := .later }
def TreeRestoresUptoCardSaid : Prop := Claim7.holds Tryz.pinned (.plain (OpenSpec.upto treeRestoresSpec)) treeRestoresUptoCard
end Rows
end Go.Proofs.YtnnhmahemklnkaaGreatDoor
