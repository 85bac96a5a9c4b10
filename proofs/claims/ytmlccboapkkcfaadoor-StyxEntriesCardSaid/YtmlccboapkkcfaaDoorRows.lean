/-
  NARROWER THAN 'FOR EVERY INPUT', by the rows' own cells (each row's printed sentence says how): StyxApart: laid · StyxDecodes: laid · StyxKinds: laid · StyxEncodes: laid · StyxReturns: laid · StyxFrames: laid · StyxStreams: laid · StyxEntries: laid · StyxLists: laid.
  DERIVED. THE GIVEN ROWS OF THIS SEAT. 9 by the template 'for every input the law returns true; each argument reads behind the call as it read before'; 0 by the template 'total and deterministic' (their statements: YtmlccboapkkcfaaDoorTotals.lean).
  GIVEN WITH THE SEED: the statements are not yours to turn. If you find one false, say at which input.
  Laid BY PROGRAM, IN A SANDBOX (cutbox-rows.mjs): the forced cells as the released guide's own fill.sh prints them over the translation edaa768730925490… (all of the seat's roots in one cut). By AI agents, Wed Nov 11 2026. No macro, syntax, notation, axiom, sorry.
-/
import Derived.Test.YtmlccboapkkcfaaDoorChecked
import GoSem.Claim
import GoSem.ClaimJoined
import GoSem.ClaimMapViews
import Derived.JoinedTies
import Derived.KernelRfl
namespace Go.Proofs.YtmlccboapkkcfaaDoor
/- THE CELL 'sum', in the pinned program and in every row, IS THE sha256 OF THE DUMP (.gsa) THAT YtmlccboapkkcfaaDoorProg.lean LOADS. Nothing in Lean hashes anything: it is a label: what it is worth is what the hold of that sum in a sandbox is worth. -/
noncomputable def Tryd.pinned : Pinned := { name := "ytmlccboapkkcfaadoor", sum := "edaa768730925490dcf04f66cdaecedb597c6a9d25a10b09c67890808a00f8cf", checked := Tryd.checked }
namespace Rows
def none {H : Type} : Left H := { results := [], args := [] }

/- WHAT THE LISTED PACKAGE-LEVEL VARIABLES READ AS WHEN THE CALL BEGINS. Each datum BY PROGRAM (the guide's laid-datum.mjs) off the statement by which the dump's own 'gosem.cut.vars' lays the variable. In a bare row this is a premise. The card (YtmlccboapkkcfaaDoorCards.lean) ties it to the program's text. -/
def laid_acheron_styx_words {H : Type} : DataW H := .map [(.int .i64 100, .lit (.string [118, 101, 114, 115, 105, 111, 110])), (.int .i64 102, .lit (.string [97, 117, 116, 104])), (.int .i64 104, .lit (.string [97, 116, 116, 97, 99, 104])), (.int .i64 108, .lit (.string [102, 108, 117, 115, 104])), (.int .i64 110, .lit (.string [119, 97, 108, 107])), (.int .i64 112, .lit (.string [111, 112, 101, 110])), (.int .i64 114, .lit (.string [99, 114, 101, 97, 116, 101])), (.int .i64 116, .lit (.string [114, 101, 97, 100])), (.int .i64 118, .lit (.string [119, 114, 105, 116, 101])), (.int .i64 120, .lit (.string [99, 108, 117, 110, 107])), (.int .i64 122, .lit (.string [114, 101, 109, 111, 118, 101])), (.int .i64 124, .lit (.string [115, 116, 97, 116])), (.int .i64 126, .lit (.string [119, 115, 116, 97, 116]))]

/-- 'acheronlaw31.StyxApart': WHATEVER THE INPUT: true; the input reads as it did. -/
def styxApartSpec : ChangeSpec := { name := "styxApart", fn := fun _ => fun
  | [d1, d2] => { results := [.lit (.bool true)], args := [d1, d2] }
  | _ => none }
def styxApartRow : OpenClaim := { program := "ytmlccboapkkcfaadoor", sum := "edaa768730925490dcf04f66cdaecedb597c6a9d25a10b09c67890808a00f8cf", func := "acheron/acheronlaw31.StyxApart", spec := "styxApart", unfollowed := true, recurses := true, named := ["acheron/styx.words"], apart := false, laid := [("acheron/styx.words", laid_acheron_styx_words)] }
def StyxApartSaid : Prop := styxApartRow.holds Tryd.pinned (OpenSpec.ofChange styxApartSpec)

/-- ITS FALSE NEIGHBOUR: 'it returns false'. Refute it at one input. -/
def styxApartWrong : ChangeSpec := { name := "styxApart", fn := fun _ => fun
  | [d1, d2] => { results := [.lit (.bool false)], args := [d1, d2] }
  | _ => none }
def StyxApartWrongFalsely : Prop := styxApartRow.holds Tryd.pinned (OpenSpec.ofChange styxApartWrong)

/-- 'acheronlaw31.StyxDecodes': WHATEVER THE INPUT: true; the input reads as it did. -/
def styxDecodesSpec : ChangeSpec := { name := "styxDecodes", fn := fun _ => fun
  | [d] => { results := [.lit (.bool true)], args := [d] }
  | _ => none }
def styxDecodesRow : OpenClaim := { program := "ytmlccboapkkcfaadoor", sum := "edaa768730925490dcf04f66cdaecedb597c6a9d25a10b09c67890808a00f8cf", func := "acheron/acheronlaw31.StyxDecodes", spec := "styxDecodes", unfollowed := true, recurses := true, named := ["acheron/styx.words"], apart := false, laid := [("acheron/styx.words", laid_acheron_styx_words)] }
def StyxDecodesSaid : Prop := styxDecodesRow.holds Tryd.pinned (OpenSpec.ofChange styxDecodesSpec)

/-- ITS FALSE NEIGHBOUR: 'it returns false'. Refute it at one input. -/
def styxDecodesWrong : ChangeSpec := { name := "styxDecodes", fn := fun _ => fun
  | [d] => { results := [.lit (.bool false)], args := [d] }
  | _ => none }
def StyxDecodesWrongFalsely : Prop := styxDecodesRow.holds Tryd.pinned (OpenSpec.ofChange styxDecodesWrong)

/-- 'acheronlaw31.StyxKinds': WHATEVER THE INPUT: true; the input reads as it did. -/
def styxKindsSpec : ChangeSpec := { name := "styxKinds", fn := fun _ => fun
  | [d1, d2] => { results := [.lit (.bool true)], args := [d1, d2] }
  | _ => none }
def styxKindsRow : OpenClaim := { program := "ytmlccboapkkcfaadoor", sum := "edaa768730925490dcf04f66cdaecedb597c6a9d25a10b09c67890808a00f8cf", func := "acheron/acheronlaw31.StyxKinds", spec := "styxKinds", unfollowed := true, recurses := true, named := ["acheron/styx.words"], apart := false, laid := [("acheron/styx.words", laid_acheron_styx_words)] }
def StyxKindsSaid : Prop := styxKindsRow.holds Tryd.pinned (OpenSpec.ofChange styxKindsSpec)

/-- ITS FALSE NEIGHBOUR: 'it returns false'. Refute it at one input. -/
def styxKindsWrong : ChangeSpec := { name := "styxKinds", fn := fun _ => fun
  | [d1, d2] => { results := [.lit (.bool false)], args := [d1, d2] }
  | _ => none }
def StyxKindsWrongFalsely : Prop := styxKindsRow.holds Tryd.pinned (OpenSpec.ofChange styxKindsWrong)

/-- 'acheronlaw31.StyxEncodes': WHATEVER THE INPUT: true; the input reads as it did. -/
def styxEncodesSpec : ChangeSpec := { name := "styxEncodes", fn := fun _ => fun
  | [d] => { results := [.lit (.bool true)], args := [d] }
  | _ => none }
def styxEncodesRow : OpenClaim := { program := "ytmlccboapkkcfaadoor", sum := "edaa768730925490dcf04f66cdaecedb597c6a9d25a10b09c67890808a00f8cf", func := "acheron/acheronlaw31.StyxEncodes", spec := "styxEncodes", unfollowed := true, recurses := true, named := ["acheron/styx.words"], apart := false, laid := [("acheron/styx.words", laid_acheron_styx_words)] }
def StyxEncodesSaid : Prop := styxEncodesRow.holds Tryd.pinned (OpenSpec.ofChange styxEncodesSpec)

/-- ITS FALSE NEIGHBOUR: 'it returns false'. Refute it at one input. -/
def styxEncodesWrong : ChangeSpec := { name := "styxEncodes", fn := fun _ => fun
  | [d] => { results := [.lit (.bool false)], args := [d] }
  | _ => none }
def StyxEncodesWrongFalsely : Prop := styxEncodesRow.holds Tryd.pinned (OpenSpec.ofChange styxEncodesWrong)

/-- 'acheronlaw31.StyxReturns': WHATEVER THE INPUT: true; the input reads as it did. -/
def styxReturnsSpec : ChangeSpec := { name := "styxReturns", fn := fun _ => fun
  | [d] => { results := [.lit (.bool true)], args := [d] }
  | _ => none }
def styxReturnsRow : OpenClaim := { program := "ytmlccboapkkcfaadoor", sum := "edaa768730925490dcf04f66cdaecedb597c6a9d25a10b09c67890808a00f8cf", func := "acheron/acheronlaw31.StyxReturns", spec := "styxReturns", unfollowed := true, recurses := true, named := ["acheron/styx.words"], apart := false, laid := [("acheron/styx.words", laid_acheron_styx_words)] }
def StyxReturnsSaid : Prop := styxReturnsRow.holds Tryd.pinned (OpenSpec.ofChange styxReturnsSpec)

/-- ITS FALSE NEIGHBOUR: 'it returns false'. Refute it at one input. -/
def styxReturnsWrong : ChangeSpec := { name := "styxReturns", fn := fun _ => fun
  | [d] => { results := [.lit (.bool false)], args := [d] }
  | _ => none }
def StyxReturnsWrongFalsely : Prop := styxReturnsRow.holds Tryd.pinned (OpenSpec.ofChange styxReturnsWrong)

/-- 'acheronlaw31.StyxFrames': WHATEVER THE INPUT: true; the input reads as it did. -/
def styxFramesSpec : ChangeSpec := { name := "styxFrames", fn := fun _ => fun
  | [d] => { results := [.lit (.bool true)], args := [d] }
  | _ => none }
def styxFramesRow : OpenClaim := { program := "ytmlccboapkkcfaadoor", sum := "edaa768730925490dcf04f66cdaecedb597c6a9d25a10b09c67890808a00f8cf", func := "acheron/acheronlaw31.StyxFrames", spec := "styxFrames", unfollowed := true, recurses := true, named := ["acheron/styx.words"], apart := false, laid := [("acheron/styx.words", laid_acheron_styx_words)] }
def StyxFramesSaid : Prop := styxFramesRow.holds Tryd.pinned (OpenSpec.ofChange styxFramesSpec)

/-- ITS FALSE NEIGHBOUR: 'it returns false'. Refute it at one input. -/
def styxFramesWrong : ChangeSpec := { name := "styxFrames", fn := fun _ => fun
  | [d] => { results := [.lit (.bool false)], args := [d] }
  | _ => none }
def StyxFramesWrongFalsely : Prop := styxFramesRow.holds Tryd.pinned (OpenSpec.ofChange styxFramesWrong)

/-- 'acheronlaw31.StyxStreams': WHATEVER THE INPUT: true; the input reads as it did. -/
def styxStreamsSpec : ChangeSpec := { name := "styxStreams", fn := fun _ => fun
  | [d1, d2] => { results := [.lit (.bool true)], args := [d1, d2] }
  | _ => none }
def styxStreamsRow : OpenClaim := { program := "ytmlccboapkkcfaadoor", sum := "edaa768730925490dcf04f66cdaecedb597c6a9d25a10b09c67890808a00f8cf", func := "acheron/acheronlaw31.StyxStreams", spec := "styxStreams", unfollowed := true, recurses := true, named := ["acheron/styx.words"], apart := false, laid := [("acheron/styx.words", laid_acheron_styx_words)] }
def StyxStreamsSaid : Prop := styxStreamsRow.holds Tryd.pinned (OpenSpec.ofChange styxStreamsSpec)

/-- ITS FALSE NEIGHBOUR: 'it returns false'. Refute it at one input. -/
def styxStreamsWrong : ChangeSpec := { name := "styxStreams", fn := fun _ => fun
  | [d1, d2] => { results := [.lit (.bool false)], args := [d1, d2] }
  | _ => none }
def StyxStreamsWrongFalsely : Prop := styxStreamsRow.holds Tryd.pinned (OpenSpec.ofChange styxStreamsWrong)

/-- 'acheronlaw31.StyxEntries': WHATEVER THE INPUT: true; the input reads as it did. -/
def styxEntriesSpec : ChangeSpec := { name := "styxEntries", fn := fun _ => fun
  | [d1, d2, d3] => { results := [.lit (.bool true)], args := [d1, d2, d3] }
  | _ => none }
def styxEntriesRow : OpenClaim := { program := "ytmlccboapkkcfaadoor", sum := "edaa768730925490dcf04f66cdaecedb597c6a9d25a10b09c67890808a00f8cf", func := "acheron/acheronlaw31.StyxEntries", spec := "styxEntries", unfollowed := true, recurses := true, named := ["acheron/styx.words"], apart := false, laid := [("acheron/styx.words", laid_acheron_styx_words)] }
def StyxEntriesSaid : Prop := styxEntriesRow.holds Tryd.pinned (OpenSpec.ofChange styxEntriesSpec)

/-- ITS FALSE NEIGHBOUR: 'it returns false'. Refute it at one input. -/
def styxEntriesWrong : ChangeSpec := { name := "styxEntries", fn := fun _ => fun
  | [d1, d2, d3] => { results := [.lit (.bool false)], args := [d1, d2, d3] }
  | _ => none }
def StyxEntriesWrongFalsely : Prop := styxEntriesRow.holds Tryd.pinned (OpenSpec.ofChange styxEntriesWrong)

/-- 'acheronlaw31.StyxLists': WHATEVER THE INPUT: true; the input reads as it did. -/
def styxListsSpec : ChangeSpec := { name := "styxLists", fn := fun _ => fun
  | [d1, d2] => { results := [.lit (.bool true)], args := [d1, d2] }
  | _ => none }
def styxListsRow : OpenClaim := { program := "ytmlccboapkkcfaadoor", sum := "edaa768730925490dcf04f66cdaecedb597c6a9d25a10b09c67890808a00f8cf", func := "acheron/acheronlaw31.StyxLists", spec := "styxLists", unfollowed := true, recurses := true, named := ["acheron/styx.words"], apart := false, laid := [("acheron/styx.words", laid_acheron_styx_words)] }
def StyxListsSaid : Prop := styxListsRow.holds Tryd.pinned (OpenSpec.ofChange styxListsSpec)

/-- ITS FALSE NEIGHBOUR: 'it returns false'. Refute it at one input. -/
def styxListsWrong : ChangeSpec := { name := "styxLists", fn := fun _ => fun
  | [d1, d2] => { results := [.lit (.bool false)], args := [d1, d2] }
  | _ => none }
def StyxListsWrongFalsely : Prop := styxListsRow.holds Tryd.pinned (OpenSpec.ofChange styxListsWrong)

/- THE SECOND FORM. 'bulk': how many values and letters a reading holds, each counted each time it is reached (what is shared counts as often as it is met; a slice's spare places count too). A statement '..UptoSaid' is the law's where the arguments, and the package variables that the reading takes, are together of bulk at most 1048576: NARROWER than '..Said'. Prove '..Said' where nothing that the law and all that it calls make is longer than what came in: it says more and counts as full. Else prove '..UptoSaid'. A law counts once. -/
mutual
def uptoBulk {H : Type} : DataW H → Nat
  | .lit (.string bytes) => bytes.length + 1
  | .lit _ => 1
  | .nil => 1
  | .ptr d => uptoBulk d + 1
  | .slice elems spare => uptoBulkAll elems + uptoBulkAll spare + 1
  | .agg parts => uptoBulkAll parts + 1
  | .iface _ d => uptoBulk d + 1
  | .map entries => uptoBulkEntries entries + 1
  | .held _ => 1
def uptoBulkAll {H : Type} : List (DataW H) → Nat
  | [] => 0
  | d :: r => uptoBulk d + uptoBulkAll r
def uptoBulkEntries {H : Type} : List (Lit × DataW H) → Nat
  | [] => 0
  | x :: r => uptoBulkEntry x + uptoBulkEntries r
def uptoBulkEntry {H : Type} : Lit × DataW H → Nat
  | (.string bytes, d) => bytes.length + uptoBulk d + 1
  | (_, d) => uptoBulk d + 1
 end
def uptoSmall : (H : Type) → List (DataW H) → Bool := fun _ ds => decide (uptoBulkAll ds ≤ 1048576)
def OpenSpec.upto (s : _root_.Go.ChangeSpec) : _root_.Go.OpenSpec := { _root_.Go.OpenSpec.ofChange s with cond := some uptoSmall }

/-- 'acheronlaw31.StyxApart', WHERE WHAT IT READS IS OF BULK AT MOST 1048576: true; the input reads as it did. -/
def styxApartUptoRow : OpenClaim := { program := "ytmlccboapkkcfaadoor", sum := "edaa768730925490dcf04f66cdaecedb597c6a9d25a10b09c67890808a00f8cf", func := "acheron/acheronlaw31.StyxApart", spec := "styxApart", unfollowed := true, recurses := true, named := ["acheron/styx.words"], apart := false, laid := [("acheron/styx.words", laid_acheron_styx_words)], narrowed := true }
def StyxApartUptoSaid : Prop := styxApartUptoRow.holds Tryd.pinned (OpenSpec.upto styxApartSpec)

/-- 'acheronlaw31.StyxDecodes', WHERE WHAT IT READS IS OF BULK AT MOST 1048576: true; the input reads as it did. -/
def styxDecodesUptoRow : OpenClaim := { program := "ytmlccboapkkcfaadoor", sum := "edaa768730925490dcf04f66cdaecedb597c6a9d25a10b09c67890808a00f8cf", func := "acheron/acheronlaw31.StyxDecodes", spec := "styxDecodes", unfollowed := true, recurses := true, named := ["acheron/styx.words"], apart := false, laid := [("acheron/styx.words", laid_acheron_styx_words)], narrowed := true }
def StyxDecodesUptoSaid : Prop := styxDecodesUptoRow.holds Tryd.pinned (OpenSpec.upto styxDecodesSpec)

/-- 'acheronlaw31.StyxKinds', WHERE WHAT IT READS IS OF BULK AT MOST 1048576: true; the input reads as it did. -/
def styxKindsUptoRow : OpenClaim := { program := "ytmlccboapkkcfaadoor", sum := "edaa768730925490dcf04f66cdaecedb597c6a9d25a10b09c67890808a00f8cf", func := "acheron/acheronlaw31.StyxKinds", spec := "styxKinds", unfollowed := true, recurses := true, named := ["acheron/styx.words"], apart := false, laid := [("acheron/styx.words", laid_acheron_styx_words)], narrowed := true }
def StyxKindsUptoSaid : Prop := styxKindsUptoRow.holds Tryd.pinned (OpenSpec.upto styxKindsSpec)

/-- 'acheronlaw31.StyxEncodes', WHERE WHAT IT READS IS OF BULK AT MOST 1048576: true; the input reads as it did. -/
def styxEncodesUptoRow : OpenClaim := { program := "ytmlccboapkkcfaadoor", sum := "edaa768730925490dcf04f66cdaecedb597c6a9d25a10b09c67890808a00f8cf", func := "acheron/acheronlaw31.StyxEncodes", spec := "styxEncodes", unfollowed := true, recurses := true, named := ["acheron/styx.words"], apart := false, laid := [("acheron/styx.words", laid_acheron_styx_words)], narrowed := true }
def StyxEncodesUptoSaid : Prop := styxEncodesUptoRow.holds Tryd.pinned (OpenSpec.upto styxEncodesSpec)

/-- 'acheronlaw31.StyxReturns', WHERE WHAT IT READS IS OF BULK AT MOST 1048576: true; the input reads as it did. -/
def styxReturnsUptoRow : OpenClaim := { program := "ytmlccboapkkcfaadoor", sum := "edaa768730925490dcf04f66cdaecedb597c6a9d25a10b09c67890808a00f8cf", func := "acheron/acheronlaw31.StyxReturns", spec := "styxReturns", unfollowed := true, recurses := true, named := ["acheron/styx.words"], apart := false, laid := [("acheron/styx.words", laid_acheron_styx_words)], narrowed := true }
def StyxReturnsUptoSaid : Prop := styxReturnsUptoRow.holds Tryd.pinned (OpenSpec.upto styxReturnsSpec)

/-- 'acheronlaw31.StyxFrames', WHERE WHAT IT READS IS OF BULK AT MOST 1048576: true; the input reads as it did. -/
def styxFramesUptoRow : OpenClaim := { program := "ytmlccboapkkcfaadoor", sum := "edaa768730925490dcf04f66cdaecedb597c6a9d25a10b09c67890808a00f8cf", func := "acheron/acheronlaw31.StyxFrames", spec := "styxFrames", unfollowed := true, recurses := true, named := ["acheron/styx.words"], apart := false, laid := [("acheron/styx.words", laid_acheron_styx_words)], narrowed := true }
def StyxFramesUptoSaid : Prop := styxFramesUptoRow.holds Tryd.pinned (OpenSpec.upto styxFramesSpec)

/-- 'acheronlaw31.StyxStreams', WHERE WHAT IT READS IS OF BULK AT MOST 1048576: true; the input reads as it did. -/
def styxStreamsUptoRow : OpenClaim := { program := "ytmlccboapkkcfaadoor", sum := "edaa768730925490dcf04f66cdaecedb597c6a9d25a10b09c67890808a00f8cf", func := "acheron/acheronlaw31.StyxStreams", spec := "styxStreams", unfollowed := true, recurses := true, named := ["acheron/styx.words"], apart := false, laid := [("acheron/styx.words", laid_acheron_styx_words)], narrowed := true }
def StyxStreamsUptoSaid : Prop := styxStreamsUptoRow.holds Tryd.pinned (OpenSpec.upto styxStreamsSpec)

/-- 'acheronlaw31.StyxEntries', WHERE WHAT IT READS IS OF BULK AT MOST 1048576: true; the input reads as it did. -/
def styxEntriesUptoRow : OpenClaim := { program := "ytmlccboapkkcfaadoor", sum := "edaa768730925490dcf04f66cdaecedb597c6a9d25a10b09c67890808a00f8cf", func := "acheron/acheronlaw31.StyxEntries", spec := "styxEntries", unfollowed := true, recurses := true, named := ["acheron/styx.words"], apart := false, laid := [("acheron/styx.words", laid_acheron_styx_words)], narrowed := true }
def StyxEntriesUptoSaid : Prop := styxEntriesUptoRow.holds Tryd.pinned (OpenSpec.upto styxEntriesSpec)

/-- 'acheronlaw31.StyxLists', WHERE WHAT IT READS IS OF BULK AT MOST 1048576: true; the input reads as it did. -/
def styxListsUptoRow : OpenClaim := { program := "ytmlccboapkkcfaadoor", sum := "edaa768730925490dcf04f66cdaecedb597c6a9d25a10b09c67890808a00f8cf", func := "acheron/acheronlaw31.StyxLists", spec := "styxLists", unfollowed := true, recurses := true, named := ["acheron/styx.words"], apart := false, laid := [("acheron/styx.words", laid_acheron_styx_words)], narrowed := true }
def StyxListsUptoSaid : Prop := styxListsUptoRow.holds Tryd.pinned (OpenSpec.upto styxListsSpec)

end Rows
end Go.Proofs.YtmlccboapkkcfaaDoor
