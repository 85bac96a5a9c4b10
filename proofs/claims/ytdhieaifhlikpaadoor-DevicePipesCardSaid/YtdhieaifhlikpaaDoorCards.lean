/-
  DERIVED. GIVEN WITH THE SEED: THE CARDS: each row of YtdhieaifhlikpaaDoorRows.lean that lists a variable, with what it lists TIED to the program's text (the seventh form; the later family's looks); each row that meets fmt, with fmt's text TOLD by the authors' own Lean function (tested against real Go, not proved from fmt's source: count such statements apart). THE CARD IS WHAT COUNTS. Prove the row's statement (the work); the ties are given (YtdhieaifhlikpaaDoorTie.lean); close each card by the builder's one call (the guide's Derived/Test/ToyasCard.lean, 'card_holds'). Laid BY PROGRAM, IN A SANDBOX (cutbox-door.mjs). By AI agents, Wed Nov 11 2026. No macro, syntax, notation, axiom, sorry.
-/
import Derived.Test.YtdhieaifhlikpaaDoorRows
import GoSem.ClaimSeven
namespace Go.Proofs.YtdhieaifhlikpaaDoor
namespace Rows

/-- THE TIED CARD OF 'acheronlaw30.DeviceOutputs'. -/
def deviceOutputsCard : Claim7 := { stood := { row := deviceOutputsRow, standIns := [], harness := (true, "29420a03eaec7c9141f1abbce529c193b16cdc5c5efefa7f5fab1d3652029e9e"), looks := false }, kinds := [], alts := [], laidByText := true, laidKinds := [.data, .data, .data], laidTests := true, laidLooks := .later }
def DeviceOutputsCardSaid : Prop := Claim7.holds Tryd.pinned (.plain (OpenSpec.ofChange deviceOutputsSpec)) deviceOutputsCard

/-- THE TIED CARD OF 'acheronlaw30.DevicePipes'. -/
def devicePipesCard : Claim7 := { stood := { row := devicePipesRow, standIns := [], harness := (true, "29420a03eaec7c9141f1abbce529c193b16cdc5c5efefa7f5fab1d3652029e9e"), looks := false }, kinds := [], alts := [], laidByText := true, laidKinds := [.data, .data, .data], laidTests := true, laidLooks := .later }
def DevicePipesCardSaid : Prop := Claim7.holds Tryd.pinned (.plain (OpenSpec.ofChange devicePipesSpec)) devicePipesCard

/-- THE TIED CARD OF 'acheronlaw30.DeviceLines'. -/
def deviceLinesCard : Claim7 := { stood := { row := deviceLinesRow, standIns := [], harness := (true, "29420a03eaec7c9141f1abbce529c193b16cdc5c5efefa7f5fab1d3652029e9e"), looks := false }, kinds := [], alts := [], laidByText := true, laidKinds := [.data, .data, .data, .data, .pinned], laidTests := true, laidLooks := .later }
def DeviceLinesCardSaid : Prop := Claim7.holds Tryd.pinned (.plain (OpenSpec.ofChange deviceLinesSpec)) deviceLinesCard

/-- THE SECOND FORM's CARD OF 'acheronlaw30.DeviceOutputs'. -/
def deviceOutputsUptoCard : Claim7 := { stood := { row := deviceOutputsUptoRow, standIns := [], harness := (true, "29420a03eaec7c9141f1abbce529c193b16cdc5c5efefa7f5fab1d3652029e9e"), looks := false }, kinds := [], alts := [], laidByText := true, laidKinds := [.data, .data, .data], laidTests := true, laidLooks := .later }
def DeviceOutputsUptoCardSaid : Prop := Claim7.holds Tryd.pinned (.plain (OpenSpec.upto deviceOutputsSpec)) deviceOutputsUptoCard

/-- THE SECOND FORM's CARD OF 'acheronlaw30.DevicePipes'. -/
def devicePipesUptoCard : Claim7 := { stood := { row := devicePipesUptoRow, standIns := [], harness := (true, "29420a03eaec7c9141f1abbce529c193b16cdc5c5efefa7f5fab1d3652029e9e"), looks := false }, kinds := [], alts := [], laidByText := true, laidKinds := [.data, .data, .data], laidTests := true, laidLooks := .later }
def DevicePipesUptoCardSaid : Prop := Claim7.holds Tryd.pinned (.plain (OpenSpec.upto devicePipesSpec)) devicePipesUptoCard

/-- THE SECOND FORM's CARD OF 'acheronlaw30.DeviceLines'. -/
def deviceLinesUptoCard : Claim7 := { stood := { row := deviceLinesUptoRow, standIns := [], harness := (true, "29420a03eaec7c9141f1abbce529c193b16cdc5c5efefa7f5fab1d3652029e9e"), looks := false }, kinds := [], alts := [], laidByText := true, laidKinds := [.data, .data, .data, .data, .pinned], laidTests := true, laidLooks := .later }
def DeviceLinesUptoCardSaid : Prop := Claim7.holds Tryd.pinned (.plain (OpenSpec.upto deviceLinesSpec)) deviceLinesUptoCard
end Rows
end Go.Proofs.YtdhieaifhlikpaaDoor
