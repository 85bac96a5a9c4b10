/-
  StyxDecodes: the card, part 1.
-/
import Derived.Test.YtmlccboapkkcfaaDoorSx60
import Derived.Test.YtmlccboapkkcfaaDoorCards
import Derived.Test.YtmlccboapkkcfaaDoorTie
import Derived.WalkKit
import Derived.ProofKit
import Derived.OpenShut
import Derived.Deep.DeepHandedRow
import Derived.Lib.LaidU8
import Derived.LaidMore
import Derived.LaidHandle
import Derived.MakeChecks
import Derived.Stop.Joined
import Derived.Deep.DeepWitnessRowRef
namespace Go.Proofs.YtmlccboapkkcfaaDoor.decodes
open Go Go.Sh Go.ChangeShapes Go.WideShapes Go.ChangeAt Go.RowKit Go.Proofs.YtmlccboapkkcfaaDoor

theorem own : ownKnob Tryd.prog.godebug = none := by kernel_rfl
abbrev wit : Array Value := #[.string ⟨#[]⟩]
theorem laid_met (os : Os) : laidMetH Tryd.prog Rows.styxDecodesRow.laid ((World.doorLaid Tryd.prog 400 os).forCall (fun _ _ => 0) ⟨#[], wit, []⟩).memory :=
  laidMetH_of_parts3 (fuel := 8) (laidMet_of_run' 8 (by kernel_rfl) (by kernel_rfl)) (by kernel_rfl) (by kernel_rfl)
theorem reads (os : Os) {H : Type} (enc : TypeId × Value → H) : ∃ places, DataW.whole enc Tryd.prog ((World.doorLaid Tryd.prog 400 os).forCall (fun _ _ => 0) ⟨#[], wit, []⟩).memory Tryd.f4.params.toList Rows.styxDecodesSpec.vars false wit.toList 8 = some ([.lit (.string [])], [], places) :=
  ⟨[], by kernel_rfl⟩
end Go.Proofs.YtmlccboapkkcfaaDoor.decodes
