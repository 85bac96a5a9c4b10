/-
  DERIVED. GIVEN WITH THE SEED: THE CARDS: each row of YtnnhmahemklnkaaDoorRows.lean that lists a variable, with what it lists TIED to the program's text (the seventh form; the later family's looks); each row that meets fmt, with fmt's text TOLD by the authors' own Lean function (tested against real Go, not proved from fmt's source: count such statements apart). THE CARD IS WHAT COUNTS. Prove the row's statement (the work); the ties are given (YtnnhmahemklnkaaDoorTie.lean); close each card by the builder's one call (the guide's Derived/Test/ToyasCard.lean, 'card_holds'). Laid BY PROGRAM, IN A SANDBOX (cutbox-door.mjs). By AI agents, Wed Nov 11 2026. No macro, syntax, notation, axiom, sorry.
-/
import Derived.Test.YtnnhmahemklnkaaDoorRows
import GoSem.ClaimSeven
namespace Go.Proofs.YtnnhmahemklnkaaDoor
namespace Rows

/-- THE TIED CARD OF 'acheronlaw28.TreeReads'. -/
def treeReadsCard : Claim7 := { stood := { row := treeReadsRow, standIns := [], harness := (true, "acaf75732ed421e50a955e688062311915de8c88ea8529e8660538aba15928b7"), looks := false }, kinds := [], alts := [], laidByText := true, laidKinds := [.data, .pinned], laidTests := true, laidLooks := .later }
def TreeReadsCardSaid : Prop := Claim7.holds Tryd.pinned (.plain (OpenSpec.ofChange treeReadsSpec)) treeReadsCard

/-- THE TIED CARD OF 'acheronlaw28.TreePermits'. -/
def treePermitsCard : Claim7 := { stood := { row := treePermitsRow, standIns := [], harness := (true, "acaf75732ed421e50a955e688062311915de8c88ea8529e8660538aba15928b7"), looks := false }, kinds := [], alts := [], laidByText := true, laidKinds := [.data, .pinned], laidTests := true, laidLooks := .later }
def TreePermitsCardSaid : Prop := Claim7.holds Tryd.pinned (.plain (OpenSpec.ofChange treePermitsSpec)) treePermitsCard

/-- THE SECOND FORM's CARD OF 'acheronlaw28.TreeReads'. -/
def treeReadsUptoCard : Claim7 := { stood := { row := treeReadsUptoRow, standIns := [], harness := (true, "acaf75732ed421e50a955e688062311915de8c88ea8529e8660538aba15928b7"), looks := false }, kinds := [], alts := [], laidByText := true, laidKinds := [.data, .pinned], laidTests := true, laidLooks := .later }
def TreeReadsUptoCardSaid : Prop := Claim7.holds Tryd.pinned (.plain (OpenSpec.upto treeReadsSpec)) treeReadsUptoCard

/-- THE SECOND FORM's CARD OF 'acheronlaw28.TreePermits'. -/
def treePermitsUptoCard : Claim7 := { stood := { row := treePermitsUptoRow, standIns := [], harness := (true, "acaf75732ed421e50a955e688062311915de8c88ea8529e8660538aba15928b7"), looks := false }, kinds := [], alts := [], laidByText := true, laidKinds := [.data, .pinned], laidTests := true, laidLooks := .later }
def TreePermitsUptoCardSaid : Prop := Claim7.holds Tryd.pinned (.plain (OpenSpec.upto treePermitsSpec)) treePermitsUptoCard
end Rows
end Go.Proofs.YtnnhmahemklnkaaDoor
