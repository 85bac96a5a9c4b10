/-
 TreeRestores: the card, part 1.
-/
import Derived.Test.YthapmhhihfedcaaGreatDoorRed
import Derived.Test.YthapmhhihfedcaaGreatDoorTo5
import Derived.Test.YthapmhhihfedcaaGreatDoorRe6
import Derived.Test.YthapmhhihfedcaaGreatDoorCards
import Derived.Test.YthapmhhihfedcaaGreatDoorTie
import Derived.WalkKit
import Derived.ProofKit
import Derived.OpenShut
import Derived.Deep.DeepHandedRow
import Derived.Lib.LaidTab
namespace Go.Proofs.YthapmhhihfedcaaGreatDoor.restores
open Go Go.Sh Go.ChangeShapes Go.WideShapes Go.ChangeAt Go.RowKit Go.Proofs.YthapmhhihfedcaaGreatDoor
theorem own : ownKnob Tryz.prog.godebug = none:=by kernel_rfl

def cellsD : DataW Unit→List Value
 | .lit (.int k n)=>[.int k n]
 | .agg l=>cellsL l
 | _=>[]
where cellsL : List (DataW Unit)→List Value
 | []=>[]
 | d::r=>cellsD d++cellsL r
def putD (d : DataW Unit) : Obj→Obj
 | .cells _ t fr=>.cells (cellsD d).toArray t fr
 | o=>o
noncomputable def laidWorld (os : Os) : World :=
 { World.holding Tryz.prog os ⟨#[],#[],[]⟩ with heap:=((World.holding Tryz.prog os ⟨#[],#[],[]⟩).heap.modify 0 (putD Rows.laid_unicode_utf8_first)).modify 1 (putD Rows.laid_unicode_utf8_acceptRanges) }
abbrev wit : Array Value:=#[.agg #[.string ⟨#[]⟩,.slice none 0 0],.slice none 0 0,.agg #[.slice none 0 0,.slice none 0 0,.int .i64 0,.int .i64 0]]
theorem laid_met (os : Os) : laidMet Tryz.prog Rows.treeRestoresUptoRow.laid ((laidWorld os).forCall (fun _ _=>0) ⟨#[],wit,[]⟩).memory :=
 laidMet_of_run' 8 (by kernel_rfl) (by kernel_rfl)
theorem reads (os : Os) {H : Type} (enc : TypeId × Value→H) : ∃ places,DataW.whole enc Tryz.prog ((laidWorld os).forCall (fun _ _=>0) ⟨#[],wit,[]⟩).memory Tryz.f3.params.toList Rows.treeRestoresSpec.vars false wit.toList 8 = some ([.agg [.lit (.string []),.nil],.nil,.agg [.nil,.nil,.lit (.int .i64 0),.lit (.int .i64 0)]],[],places) :=
 ⟨[],by kernel_rfl⟩
end Go.Proofs.YthapmhhihfedcaaGreatDoor.restores