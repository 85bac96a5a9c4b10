/-
 SpaceUnions: the card, part 1.
-/
import Derived.Test.YtjffgllkfbcaeaaGreatDoorUk4
import Derived.Test.YtjffgllkfbcaeaaGreatDoorCards
import Derived.Test.YtjffgllkfbcaeaaGreatDoorTie
import Derived.WalkKit
import Derived.ProofKit
import Derived.OpenShut
import Derived.Deep.DeepHandedRow
import Derived.Lib.LaidTab
namespace Go.Proofs.YtjffgllkfbcaeaaGreatDoor.unions
open Go Go.Sh Go.ChangeShapes Go.WideShapes Go.ChangeAt Go.RowKit Go.Proofs.YtjffgllkfbcaeaaGreatDoor
theorem own : ownKnob Tryz.prog.godebug = none:=by kernel_rfl

def cellsD : DataW Unit→List Value
 | .lit (.int k n)=>[.int k n]
 | .agg l=>cellsL l
 | _=>[]
where cellsL : List (DataW Unit)→List Value
 | []=>[]
 | d::r=>cellsD d++cellsL r
def putD (d : DataW Unit) : Obj→Obj
 | .cells _ t fr=>.cells (cellsD d).toArray t fr
 | o=>o
noncomputable def laidWorld (os : Os) : World :=
 { World.holding Tryz.prog os ⟨#[],#[],[]⟩ with heap:=((World.holding Tryz.prog os ⟨#[],#[],[]⟩).heap.modify 1 (putD Rows.laid_unicode_utf8_first)).modify 2 (putD Rows.laid_unicode_utf8_acceptRanges) }
abbrev wit : Array Value:=#[.agg #[.string ⟨#[]⟩,.slice none 0 0],.slice none 0 0,.string ⟨#[]⟩]
theorem laid_met (os : Os) : laidMet Tryz.prog Rows.spaceUnionsRow.laid ((laidWorld os).forCall (fun _ _=>0) ⟨#[],wit,[]⟩).memory :=
 laidMet_of_run' 8 (by kernel_rfl) (by kernel_rfl)
theorem reads (os : Os) {H : Type} (enc : TypeId × Value→H) : ∃ places,DataW.whole enc Tryz.prog ((laidWorld os).forCall (fun _ _=>0) ⟨#[],wit,[]⟩).memory Tryz.f3.params.toList Rows.spaceUnionsSpec.vars false wit.toList 8 = some ([.agg [.lit (.string []),.nil],.nil,.lit (.string [])],[],places) :=
 ⟨[],by kernel_rfl⟩
end Go.Proofs.YtjffgllkfbcaeaaGreatDoor.unions