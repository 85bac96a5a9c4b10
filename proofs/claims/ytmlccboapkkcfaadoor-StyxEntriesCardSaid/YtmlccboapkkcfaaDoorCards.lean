/-
  DERIVED. GIVEN WITH THE SEED: THE CARDS: each row of YtmlccboapkkcfaaDoorRows.lean that lists a variable, with what it lists TIED to the program's text (the seventh form; the later family's looks); each row that meets fmt, with fmt's text TOLD by the authors' own Lean function (tested against real Go, not proved from fmt's source: count such statements apart). THE CARD IS WHAT COUNTS. Prove the row's statement (the work); the ties are given (YtmlccboapkkcfaaDoorTie.lean); close each card by the builder's one call (the guide's Derived/Test/ToyasCard.lean, 'card_holds'). Laid BY PROGRAM, IN A SANDBOX (cutbox-door.mjs). By AI agents, Wed Nov 11 2026. No macro, syntax, notation, axiom, sorry.
-/
import Derived.Test.YtmlccboapkkcfaaDoorRows
import GoSem.ClaimSeven
namespace Go.Proofs.YtmlccboapkkcfaaDoor
namespace Rows

/-- THE TIED CARD OF 'acheronlaw31.StyxApart'. -/
def styxApartCard : Claim7 := { stood := { row := styxApartRow, standIns := [], harness := (true, "e787a65c5ec23735924624f86ac86383532667bfc6ae6c5dabd4cbdb23dd7553"), looks := false }, kinds := [], alts := [], laidByText := true, laidKinds := [.mapped], laidTests := true, laidLooks := .later }
def StyxApartCardSaid : Prop := Claim7.holds Tryd.pinned (.plain (OpenSpec.ofChange styxApartSpec)) styxApartCard

/-- THE TIED CARD OF 'acheronlaw31.StyxDecodes'. -/
def styxDecodesCard : Claim7 := { stood := { row := styxDecodesRow, standIns := [], harness := (true, "e787a65c5ec23735924624f86ac86383532667bfc6ae6c5dabd4cbdb23dd7553"), looks := false }, kinds := [], alts := [], laidByText := true, laidKinds := [.mapped], laidTests := true, laidLooks := .later }
def StyxDecodesCardSaid : Prop := Claim7.holds Tryd.pinned (.plain (OpenSpec.ofChange styxDecodesSpec)) styxDecodesCard

/-- THE TIED CARD OF 'acheronlaw31.StyxKinds'. -/
def styxKindsCard : Claim7 := { stood := { row := styxKindsRow, standIns := [], harness := (true, "e787a65c5ec23735924624f86ac86383532667bfc6ae6c5dabd4cbdb23dd7553"), looks := false }, kinds := [], alts := [], laidByText := true, laidKinds := [.mapped], laidTests := true, laidLooks := .later }
def StyxKindsCardSaid : Prop := Claim7.holds Tryd.pinned (.plain (OpenSpec.ofChange styxKindsSpec)) styxKindsCard

/-- THE TIED CARD OF 'acheronlaw31.StyxEncodes'. -/
def styxEncodesCard : Claim7 := { stood := { row := styxEncodesRow, standIns := [], harness := (true, "e787a65c5ec23735924624f86ac86383532667bfc6ae6c5dabd4cbdb23dd7553"), looks := false }, kinds := [], alts := [], laidByText := true, laidKinds := [.mapped], laidTests := true, laidLooks := .later }
def StyxEncodesCardSaid : Prop := Claim7.holds Tryd.pinned (.plain (OpenSpec.ofChange styxEncodesSpec)) styxEncodesCard

/-- THE TIED CARD OF 'acheronlaw31.StyxReturns'. -/
def styxReturnsCard : Claim7 := { stood := { row := styxReturnsRow, standIns := [], harness := (true, "e787a65c5ec23735924624f86ac86383532667bfc6ae6c5dabd4cbdb23dd7553"), looks := false }, kinds := [], alts := [], laidByText := true, laidKinds := [.mapped], laidTests := true, laidLooks := .later }
def StyxReturnsCardSaid : Prop := Claim7.holds Tryd.pinned (.plain (OpenSpec.ofChange styxReturnsSpec)) styxReturnsCard

/-- THE TIED CARD OF 'acheronlaw31.StyxFrames'. -/
def styxFramesCard : Claim7 := { stood := { row := styxFramesRow, standIns := [], harness := (true, "e787a65c5ec23735924624f86ac86383532667bfc6ae6c5dabd4cbdb23dd7553"), looks := false }, kinds := [], alts := [], laidByText := true, laidKinds := [.mapped], laidTests := true, laidLooks := .later }
def StyxFramesCardSaid : Prop := Claim7.holds Tryd.pinned (.plain (OpenSpec.ofChange styxFramesSpec)) styxFramesCard

/-- THE TIED CARD OF 'acheronlaw31.StyxStreams'. -/
def styxStreamsCard : Claim7 := { stood := { row := styxStreamsRow, standIns := [], harness := (true, "e787a65c5ec23735924624f86ac86383532667bfc6ae6c5dabd4cbdb23dd7553"), looks := false }, kinds := [], alts := [], laidByText := true, laidKinds := [.mapped], laidTests := true, laidLooks := .later }
def StyxStreamsCardSaid : Prop := Claim7.holds Tryd.pinned (.plain (OpenSpec.ofChange styxStreamsSpec)) styxStreamsCard

/-- THE TIED CARD OF 'acheronlaw31.StyxEntries'. -/
def styxEntriesCard : Claim7 := { stood := { row := styxEntriesRow, standIns := [], harness := (true, "e787a65c5ec23735924624f86ac86383532667bfc6ae6c5dabd4cbdb23dd7553"), looks := false }, kinds := [], alts := [], laidByText := true, laidKinds := [.mapped], laidTests := true, laidLooks := .later }
def StyxEntriesCardSaid : Prop := Claim7.holds Tryd.pinned (.plain (OpenSpec.ofChange styxEntriesSpec)) styxEntriesCard

/-- THE TIED CARD OF 'acheronlaw31.StyxLists'. -/
def styxListsCard : Claim7 := { stood := { row := styxListsRow, standIns := [], harness := (true, "e787a65c5ec23735924624f86ac86383532667bfc6ae6c5dabd4cbdb23dd7553"), looks := false }, kinds := [], alts := [], laidByText := true, laidKinds := [.mapped], laidTests := true, laidLooks := .later }
def StyxListsCardSaid : Prop := Claim7.holds Tryd.pinned (.plain (OpenSpec.ofChange styxListsSpec)) styxListsCard

/-- THE SECOND FORM's CARD OF 'acheronlaw31.StyxApart'. -/
def styxApartUptoCard : Claim7 := { stood := { row := styxApartUptoRow, standIns := [], harness := (true, "e787a65c5ec23735924624f86ac86383532667bfc6ae6c5dabd4cbdb23dd7553"), looks := false }, kinds := [], alts := [], laidByText := true, laidKinds := [.mapped], laidTests := true, laidLooks := .later }
def StyxApartUptoCardSaid : Prop := Claim7.holds Tryd.pinned (.plain (OpenSpec.upto styxApartSpec)) styxApartUptoCard

/-- THE SECOND FORM's CARD OF 'acheronlaw31.StyxDecodes'. -/
def styxDecodesUptoCard : Claim7 := { stood := { row := styxDecodesUptoRow, standIns := [], harness := (true, "e787a65c5ec23735924624f86ac86383532667bfc6ae6c5dabd4cbdb23dd7553"), looks := false }, kinds := [], alts := [], laidByText := true, laidKinds := [.mapped], laidTests := true, laidLooks := .later }
def StyxDecodesUptoCardSaid : Prop := Claim7.holds Tryd.pinned (.plain (OpenSpec.upto styxDecodesSpec)) styxDecodesUptoCard

/-- THE SECOND FORM's CARD OF 'acheronlaw31.StyxKinds'. -/
def styxKindsUptoCard : Claim7 := { stood := { row := styxKindsUptoRow, standIns := [], harness := (true, "e787a65c5ec23735924624f86ac86383532667bfc6ae6c5dabd4cbdb23dd7553"), looks := false }, kinds := [], alts := [], laidByText := true, laidKinds := [.mapped], laidTests := true, laidLooks := .later }
def StyxKindsUptoCardSaid : Prop := Claim7.holds Tryd.pinned (.plain (OpenSpec.upto styxKindsSpec)) styxKindsUptoCard

/-- THE SECOND FORM's CARD OF 'acheronlaw31.StyxEncodes'. -/
def styxEncodesUptoCard : Claim7 := { stood := { row := styxEncodesUptoRow, standIns := [], harness := (true, "e787a65c5ec23735924624f86ac86383532667bfc6ae6c5dabd4cbdb23dd7553"), looks := false }, kinds := [], alts := [], laidByText := true, laidKinds := [.mapped], laidTests := true, laidLooks := .later }
def StyxEncodesUptoCardSaid : Prop := Claim7.holds Tryd.pinned (.plain (OpenSpec.upto styxEncodesSpec)) styxEncodesUptoCard

/-- THE SECOND FORM's CARD OF 'acheronlaw31.StyxReturns'. -/
def styxReturnsUptoCard : Claim7 := { stood := { row := styxReturnsUptoRow, standIns := [], harness := (true, "e787a65c5ec23735924624f86ac86383532667bfc6ae6c5dabd4cbdb23dd7553"), looks := false }, kinds := [], alts := [], laidByText := true, laidKinds := [.mapped], laidTests := true, laidLooks := .later }
def StyxReturnsUptoCardSaid : Prop := Claim7.holds Tryd.pinned (.plain (OpenSpec.upto styxReturnsSpec)) styxReturnsUptoCard

/-- THE SECOND FORM's CARD OF 'acheronlaw31.StyxFrames'. -/
def styxFramesUptoCard : Claim7 := { stood := { row := styxFramesUptoRow, standIns := [], harness := (true, "e787a65c5ec23735924624f86ac86383532667bfc6ae6c5dabd4cbdb23dd7553"), looks := false }, kinds := [], alts := [], laidByText := true, laidKinds := [.mapped], laidTests := true, laidLooks := .later }
def StyxFramesUptoCardSaid : Prop := Claim7.holds Tryd.pinned (.plain (OpenSpec.upto styxFramesSpec)) styxFramesUptoCard

/-- THE SECOND FORM's CARD OF 'acheronlaw31.StyxStreams'. -/
def styxStreamsUptoCard : Claim7 := { stood := { row := styxStreamsUptoRow, standIns := [], harness := (true, "e787a65c5ec23735924624f86ac86383532667bfc6ae6c5dabd4cbdb23dd7553"), looks := false }, kinds := [], alts := [], laidByText := true, laidKinds := [.mapped], laidTests := true, laidLooks := .later }
def StyxStreamsUptoCardSaid : Prop := Claim7.holds Tryd.pinned (.plain (OpenSpec.upto styxStreamsSpec)) styxStreamsUptoCard

/-- THE SECOND FORM's CARD OF 'acheronlaw31.StyxEntries'. -/
def styxEntriesUptoCard : Claim7 := { stood := { row := styxEntriesUptoRow, standIns := [], harness := (true, "e787a65c5ec23735924624f86ac86383532667bfc6ae6c5dabd4cbdb23dd7553"), looks := false }, kinds := [], alts := [], laidByText := true, laidKinds := [.mapped], laidTests := true, laidLooks := .later }
def StyxEntriesUptoCardSaid : Prop := Claim7.holds Tryd.pinned (.plain (OpenSpec.upto styxEntriesSpec)) styxEntriesUptoCard

/-- THE SECOND FORM's CARD OF 'acheronlaw31.StyxLists'. -/
def styxListsUptoCard : Claim7 := { stood := { row := styxListsUptoRow, standIns := [], harness := (true, "e787a65c5ec23735924624f86ac86383532667bfc6ae6c5dabd4cbdb23dd7553"), looks := false }, kinds := [], alts := [], laidByText := true, laidKinds := [.mapped], laidTests := true, laidLooks := .later }
def StyxListsUptoCardSaid : Prop := Claim7.holds Tryd.pinned (.plain (OpenSpec.upto styxListsSpec)) styxListsUptoCard
end Rows
end Go.Proofs.YtmlccboapkkcfaaDoor
