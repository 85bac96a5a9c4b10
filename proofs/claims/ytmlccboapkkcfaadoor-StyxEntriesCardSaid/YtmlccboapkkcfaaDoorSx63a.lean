/-
  StyxEntries: the card, part 1.
-/
import Derived.Test.YtmlccboapkkcfaaDoorSx32
import Derived.Test.YtmlccboapkkcfaaDoorSx44
import Derived.Test.YtmlccboapkkcfaaDoorCards
import Derived.Test.YtmlccboapkkcfaaDoorTie
import Derived.WalkKit
import Derived.ProofKit
import Derived.OpenShut
import Derived.Deep.DeepHandedRow
import Derived.Lib.LaidU8
import Derived.LaidMore
import Derived.LaidHandle
import Derived.MakeChecks
import Derived.Stop.Joined
import Derived.Deep.DeepWitnessRowRef
namespace Go.Proofs.YtmlccboapkkcfaaDoor.entries
open Go Go.Sh Go.ChangeShapes Go.WideShapes Go.ChangeAt Go.RowKit Go.Proofs.YtmlccboapkkcfaaDoor

theorem own : ownKnob Tryd.prog.godebug = none := by kernel_rfl
abbrev wit : Array Value := #[.slice none 0 0, .int .i64 0, .int .i64 0]
theorem laid_met (os : Os) : laidMetH Tryd.prog Rows.styxEntriesRow.laid ((World.doorLaid Tryd.prog 400 os).forCall (fun _ _ => 0) ⟨#[], wit, []⟩).memory :=
  laidMetH_of_parts3 (fuel := 8) (laidMet_of_run' 8 (by kernel_rfl) (by kernel_rfl)) (by kernel_rfl) (by kernel_rfl)
theorem reads (os : Os) {H : Type} (enc : TypeId × Value → H) : ∃ places, DataW.whole enc Tryd.prog ((World.doorLaid Tryd.prog 400 os).forCall (fun _ _ => 0) ⟨#[], wit, []⟩).memory Tryd.f10.params.toList Rows.styxEntriesSpec.vars false wit.toList 8 = some ([.nil, .lit (.int .i64 0), .lit (.int .i64 0)], [], places) :=
  ⟨[], by kernel_rfl⟩
end Go.Proofs.YtmlccboapkkcfaaDoor.entries
