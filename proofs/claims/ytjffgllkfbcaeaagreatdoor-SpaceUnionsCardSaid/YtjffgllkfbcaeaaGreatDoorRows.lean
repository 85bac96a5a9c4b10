/-
  NARROWER THAN 'FOR EVERY INPUT', by the rows' own cells (each row's printed sentence says how): SpaceUnions: laid · SpaceRestores: laid · SpaceErrors: laid · SpaceLists: laid · SpaceNil: laid · SpaceForks: laid.
  DERIVED. THE GIVEN ROWS OF THIS SEAT. 6 by the template 'for every input the law returns true; each argument reads behind the call as it read before'; 0 by the template 'total and deterministic' (their statements: YtjffgllkfbcaeaaGreatDoorTotals.lean).
  GIVEN WITH THE SEED: the statements are not yours to turn. If you find one false, say at which input.
  Laid BY PROGRAM, IN A SANDBOX (cutbox-rows.mjs): the forced cells as the released guide's own fill.sh prints them over the translation 5422fd062d714ac2… (all of the seat's roots in one cut). By AI agents, Wed Nov 11 2026. No macro, syntax, notation, axiom, sorry.
-/
import Derived.Test.YtjffgllkfbcaeaaGreatDoorChecked
import GoSem.PinnedTables
import GoSem.Claim
import GoSem.ClaimJoined
import GoSem.ClaimMapViews
import Derived.JoinedTies
import Derived.KernelRfl
namespace Go.Proofs.YtjffgllkfbcaeaaGreatDoor
/- THE CELL 'sum', in the pinned program and in every row, IS THE sha256 OF THE DUMP (.gsa) THAT YtjffgllkfbcaeaaGreatDoorProg.lean LOADS. Nothing in Lean hashes anything: it is a label: what it is worth is what the hold of that sum in a sandbox is worth. -/
noncomputable def Tryz.pinned : Pinned := { name := "ytjffgllkfbcaeaagreatdoor", sum := "5422fd062d714ac2ce2f603a3638290e9dadc8690c59fcc5a15072100087654a", checked := Tryz.checked }
namespace Rows
def none {H : Type} : Left H := { results := [], args := [] }

/- WHAT THE LISTED PACKAGE-LEVEL VARIABLES READ AS WHEN THE CALL BEGINS. Each datum BY PROGRAM (the guide's laid-datum.mjs) off the statement by which the dump's own 'gosem.cut.vars' lays the variable. In a bare row this is a premise. The card (YtjffgllkfbcaeaaGreatDoorCards.lean) ties it to the program's text. -/
def laid_unicode_utf8_acceptRanges {H : Type} : DataW H := .agg [.agg [.lit (.int .u8 128), .lit (.int .u8 191)], .agg [.lit (.int .u8 160), .lit (.int .u8 191)], .agg [.lit (.int .u8 128), .lit (.int .u8 159)], .agg [.lit (.int .u8 144), .lit (.int .u8 191)], .agg [.lit (.int .u8 128), .lit (.int .u8 143)], .agg [.lit (.int .u8 0), .lit (.int .u8 0)], .agg [.lit (.int .u8 0), .lit (.int .u8 0)], .agg [.lit (.int .u8 0), .lit (.int .u8 0)], .agg [.lit (.int .u8 0), .lit (.int .u8 0)], .agg [.lit (.int .u8 0), .lit (.int .u8 0)], .agg [.lit (.int .u8 0), .lit (.int .u8 0)], .agg [.lit (.int .u8 0), .lit (.int .u8 0)], .agg [.lit (.int .u8 0), .lit (.int .u8 0)], .agg [.lit (.int .u8 0), .lit (.int .u8 0)], .agg [.lit (.int .u8 0), .lit (.int .u8 0)], .agg [.lit (.int .u8 0), .lit (.int .u8 0)]]
/-- One of Go's own tables, pinned by name: the form's constant. -/
def laid_unicode_utf8_first : DataW Unit := Go.Pinned.utf8First

/-- 'acheronlaw29.SpaceUnions': WHATEVER THE INPUT: true; the input reads as it did. -/
def spaceUnionsSpec : ChangeSpec := { name := "spaceUnions", fn := fun _ => fun
  | [d1, d2, d3] => { results := [.lit (.bool true)], args := [d1, d2, d3] }
  | _ => none }
def spaceUnionsRow : OpenClaim := { program := "ytjffgllkfbcaeaagreatdoor", sum := "5422fd062d714ac2ce2f603a3638290e9dadc8690c59fcc5a15072100087654a", func := "acheron/acheronlaw29.SpaceUnions", spec := "spaceUnions", inPlace := ["internal/bytealg.IndexByteString", "internal/bytealg.IndexString", "internal/abi.NoEscape", "internal/bytealg.MakeNoZero"], unfollowed := true, recurses := true, named := ["unicode/utf8.first", "unicode/utf8.acceptRanges", "internal/bytealg.MaxLen"], apart := false, laid := [("unicode/utf8.acceptRanges", laid_unicode_utf8_acceptRanges), ("unicode/utf8.first", laid_unicode_utf8_first)] }
def SpaceUnionsSaid : Prop := spaceUnionsRow.holds Tryz.pinned (OpenSpec.ofChange spaceUnionsSpec)

/-- ITS FALSE NEIGHBOUR: 'it returns false'. Refute it at one input. -/
def spaceUnionsWrong : ChangeSpec := { name := "spaceUnions", fn := fun _ => fun
  | [d1, d2, d3] => { results := [.lit (.bool false)], args := [d1, d2, d3] }
  | _ => none }
def SpaceUnionsWrongFalsely : Prop := spaceUnionsRow.holds Tryz.pinned (OpenSpec.ofChange spaceUnionsWrong)

/-- 'acheronlaw29.SpaceRestores': WHATEVER THE INPUT: true; the input reads as it did. -/
def spaceRestoresSpec : ChangeSpec := { name := "spaceRestores", fn := fun _ => fun
  | [d1, d2, d3, d4] => { results := [.lit (.bool true)], args := [d1, d2, d3, d4] }
  | _ => none }
def spaceRestoresRow : OpenClaim := { program := "ytjffgllkfbcaeaagreatdoor", sum := "5422fd062d714ac2ce2f603a3638290e9dadc8690c59fcc5a15072100087654a", func := "acheron/acheronlaw29.SpaceRestores", spec := "spaceRestores", inPlace := ["internal/bytealg.IndexByteString", "internal/bytealg.IndexString", "internal/abi.NoEscape", "internal/bytealg.MakeNoZero"], unfollowed := true, recurses := true, named := ["unicode/utf8.first", "unicode/utf8.acceptRanges", "internal/bytealg.MaxLen"], apart := false, laid := [("unicode/utf8.acceptRanges", laid_unicode_utf8_acceptRanges), ("unicode/utf8.first", laid_unicode_utf8_first)] }
def SpaceRestoresSaid : Prop := spaceRestoresRow.holds Tryz.pinned (OpenSpec.ofChange spaceRestoresSpec)

/-- ITS FALSE NEIGHBOUR: 'it returns false'. Refute it at one input. -/
def spaceRestoresWrong : ChangeSpec := { name := "spaceRestores", fn := fun _ => fun
  | [d1, d2, d3, d4] => { results := [.lit (.bool false)], args := [d1, d2, d3, d4] }
  | _ => none }
def SpaceRestoresWrongFalsely : Prop := spaceRestoresRow.holds Tryz.pinned (OpenSpec.ofChange spaceRestoresWrong)

/-- 'acheronlaw29.SpaceErrors': WHATEVER THE INPUT: true; the input reads as it did. -/
def spaceErrorsSpec : ChangeSpec := { name := "spaceErrors", fn := fun _ => fun
  | [d1, d2] => { results := [.lit (.bool true)], args := [d1, d2] }
  | _ => none }
def spaceErrorsRow : OpenClaim := { program := "ytjffgllkfbcaeaagreatdoor", sum := "5422fd062d714ac2ce2f603a3638290e9dadc8690c59fcc5a15072100087654a", func := "acheron/acheronlaw29.SpaceErrors", spec := "spaceErrors", inPlace := ["internal/bytealg.IndexByteString", "internal/bytealg.IndexString", "internal/abi.NoEscape", "internal/bytealg.MakeNoZero"], unfollowed := true, recurses := true, named := ["unicode/utf8.first", "unicode/utf8.acceptRanges", "internal/bytealg.MaxLen"], apart := false, laid := [("unicode/utf8.acceptRanges", laid_unicode_utf8_acceptRanges), ("unicode/utf8.first", laid_unicode_utf8_first)] }
def SpaceErrorsSaid : Prop := spaceErrorsRow.holds Tryz.pinned (OpenSpec.ofChange spaceErrorsSpec)

/-- ITS FALSE NEIGHBOUR: 'it returns false'. Refute it at one input. -/
def spaceErrorsWrong : ChangeSpec := { name := "spaceErrors", fn := fun _ => fun
  | [d1, d2] => { results := [.lit (.bool false)], args := [d1, d2] }
  | _ => none }
def SpaceErrorsWrongFalsely : Prop := spaceErrorsRow.holds Tryz.pinned (OpenSpec.ofChange spaceErrorsWrong)

/-- 'acheronlaw29.SpaceLists': WHATEVER THE INPUT: true; the input reads as it did. -/
def spaceListsSpec : ChangeSpec := { name := "spaceLists", fn := fun _ => fun
  | [d1, d2, d3] => { results := [.lit (.bool true)], args := [d1, d2, d3] }
  | _ => none }
def spaceListsRow : OpenClaim := { program := "ytjffgllkfbcaeaagreatdoor", sum := "5422fd062d714ac2ce2f603a3638290e9dadc8690c59fcc5a15072100087654a", func := "acheron/acheronlaw29.SpaceLists", spec := "spaceLists", inPlace := ["internal/bytealg.IndexByteString", "internal/bytealg.IndexString", "internal/abi.NoEscape", "internal/bytealg.MakeNoZero"], unfollowed := true, recurses := true, named := ["unicode/utf8.first", "unicode/utf8.acceptRanges", "internal/bytealg.MaxLen"], apart := false, laid := [("unicode/utf8.acceptRanges", laid_unicode_utf8_acceptRanges), ("unicode/utf8.first", laid_unicode_utf8_first)] }
def SpaceListsSaid : Prop := spaceListsRow.holds Tryz.pinned (OpenSpec.ofChange spaceListsSpec)

/-- ITS FALSE NEIGHBOUR: 'it returns false'. Refute it at one input. -/
def spaceListsWrong : ChangeSpec := { name := "spaceLists", fn := fun _ => fun
  | [d1, d2, d3] => { results := [.lit (.bool false)], args := [d1, d2, d3] }
  | _ => none }
def SpaceListsWrongFalsely : Prop := spaceListsRow.holds Tryz.pinned (OpenSpec.ofChange spaceListsWrong)

/-- 'acheronlaw29.SpaceNil': WHATEVER THE INPUT: true; the input reads as it did. -/
def spaceNilSpec : ChangeSpec := { name := "spaceNil", fn := fun _ => fun
  | [d] => { results := [.lit (.bool true)], args := [d] }
  | _ => none }
def spaceNilRow : OpenClaim := { program := "ytjffgllkfbcaeaagreatdoor", sum := "5422fd062d714ac2ce2f603a3638290e9dadc8690c59fcc5a15072100087654a", func := "acheron/acheronlaw29.SpaceNil", spec := "spaceNil", inPlace := ["internal/bytealg.IndexByteString", "internal/bytealg.IndexString", "internal/abi.NoEscape", "internal/bytealg.MakeNoZero"], unfollowed := true, recurses := true, named := ["unicode/utf8.first", "unicode/utf8.acceptRanges", "internal/bytealg.MaxLen"], apart := false, laid := [("unicode/utf8.acceptRanges", laid_unicode_utf8_acceptRanges), ("unicode/utf8.first", laid_unicode_utf8_first)] }
def SpaceNilSaid : Prop := spaceNilRow.holds Tryz.pinned (OpenSpec.ofChange spaceNilSpec)

/-- ITS FALSE NEIGHBOUR: 'it returns false'. Refute it at one input. -/
def spaceNilWrong : ChangeSpec := { name := "spaceNil", fn := fun _ => fun
  | [d] => { results := [.lit (.bool false)], args := [d] }
  | _ => none }
def SpaceNilWrongFalsely : Prop := spaceNilRow.holds Tryz.pinned (OpenSpec.ofChange spaceNilWrong)

/-- 'acheronlaw29.SpaceForks': WHATEVER THE INPUT: true; the input reads as it did. -/
def spaceForksSpec : ChangeSpec := { name := "spaceForks", fn := fun _ => fun
  | [d1, d2, d3] => { results := [.lit (.bool true)], args := [d1, d2, d3] }
  | _ => none }
def spaceForksRow : OpenClaim := { program := "ytjffgllkfbcaeaagreatdoor", sum := "5422fd062d714ac2ce2f603a3638290e9dadc8690c59fcc5a15072100087654a", func := "acheron/acheronlaw29.SpaceForks", spec := "spaceForks", inPlace := ["internal/bytealg.IndexByteString", "internal/bytealg.IndexString", "internal/abi.NoEscape", "internal/bytealg.MakeNoZero"], unfollowed := true, recurses := true, named := ["unicode/utf8.first", "unicode/utf8.acceptRanges", "internal/bytealg.MaxLen"], apart := false, laid := [("unicode/utf8.acceptRanges", laid_unicode_utf8_acceptRanges), ("unicode/utf8.first", laid_unicode_utf8_first)] }
def SpaceForksSaid : Prop := spaceForksRow.holds Tryz.pinned (OpenSpec.ofChange spaceForksSpec)

/-- ITS FALSE NEIGHBOUR: 'it returns false'. Refute it at one input. -/
def spaceForksWrong : ChangeSpec := { name := "spaceForks", fn := fun _ => fun
  | [d1, d2, d3] => { results := [.lit (.bool false)], args := [d1, d2, d3] }
  | _ => none }
def SpaceForksWrongFalsely : Prop := spaceForksRow.holds Tryz.pinned (OpenSpec.ofChange spaceForksWrong)

/- THE SECOND FORM. 'bulk': how many values and letters a reading holds, each counted each time it is reached (what is shared counts as often as it is met; a slice's spare places count too). A statement '..UptoSaid' is the law's where the arguments, and the package variables that the reading takes, are together of bulk at most 1048576: NARROWER than '..Said'. Prove '..Said' where nothing that the law and all that it calls make is longer than what came in: it says more and counts as full. Else prove '..UptoSaid'. A law counts once. -/
mutual
def uptoBulk {H : Type} : DataW H → Nat
  | .lit (.string bytes) => bytes.length + 1
  | .lit _ => 1
  | .nil => 1
  | .ptr d => uptoBulk d + 1
  | .slice elems spare => uptoBulkAll elems + uptoBulkAll spare + 1
  | .agg parts => uptoBulkAll parts + 1
  | .iface _ d => uptoBulk d + 1
  | .map entries => uptoBulkEntries entries + 1
  | .held _ => 1
def uptoBulkAll {H : Type} : List (DataW H) → Nat
  | [] => 0
  | d :: r => uptoBulk d + uptoBulkAll r
def uptoBulkEntries {H : Type} : List (Lit × DataW H) → Nat
  | [] => 0
  | x :: r => uptoBulkEntry x + uptoBulkEntries r
def uptoBulkEntry {H : Type} : Lit × DataW H → Nat
  | (.string bytes, d) => bytes.length + uptoBulk d + 1
  | (_, d) => uptoBulk d + 1
 end
def uptoSmall : (H : Type) → List (DataW H) → Bool := fun _ ds => decide (uptoBulkAll ds ≤ 1048576)
def OpenSpec.upto (s : _root_.Go.ChangeSpec) : _root_.Go.OpenSpec := { _root_.Go.OpenSpec.ofChange s with cond := some uptoSmall }

/-- 'acheronlaw29.SpaceUnions', WHERE WHAT IT READS IS OF BULK AT MOST 1048576: true; the input reads as it did. -/
def spaceUnionsUptoRow : OpenClaim := { program := "ytjffgllkfbcaeaagreatdoor", sum := "5422fd062d714ac2ce2f603a3638290e9dadc8690c59fcc5a15072100087654a", func := "acheron/acheronlaw29.SpaceUnions", spec := "spaceUnions", inPlace := ["internal/bytealg.IndexByteString", "internal/bytealg.IndexString", "internal/abi.NoEscape", "internal/bytealg.MakeNoZero"], unfollowed := true, recurses := true, named := ["unicode/utf8.first", "unicode/utf8.acceptRanges", "internal/bytealg.MaxLen"], apart := false, laid := [("unicode/utf8.acceptRanges", laid_unicode_utf8_acceptRanges), ("unicode/utf8.first", laid_unicode_utf8_first)], narrowed := true }
def SpaceUnionsUptoSaid : Prop := spaceUnionsUptoRow.holds Tryz.pinned (OpenSpec.upto spaceUnionsSpec)

/-- 'acheronlaw29.SpaceRestores', WHERE WHAT IT READS IS OF BULK AT MOST 1048576: true; the input reads as it did. -/
def spaceRestoresUptoRow : OpenClaim := { program := "ytjffgllkfbcaeaagreatdoor", sum := "5422fd062d714ac2ce2f603a3638290e9dadc8690c59fcc5a15072100087654a", func := "acheron/acheronlaw29.SpaceRestores", spec := "spaceRestores", inPlace := ["internal/bytealg.IndexByteString", "internal/bytealg.IndexString", "internal/abi.NoEscape", "internal/bytealg.MakeNoZero"], unfollowed := true, recurses := true, named := ["unicode/utf8.first", "unicode/utf8.acceptRanges", "internal/bytealg.MaxLen"], apart := false, laid := [("unicode/utf8.acceptRanges", laid_unicode_utf8_acceptRanges), ("unicode/utf8.first", laid_unicode_utf8_first)], narrowed := true }
def SpaceRestoresUptoSaid : Prop := spaceRestoresUptoRow.holds Tryz.pinned (OpenSpec.upto spaceRestoresSpec)

/-- 'acheronlaw29.SpaceErrors', WHERE WHAT IT READS IS OF BULK AT MOST 1048576: true; the input reads as it did. -/
def spaceErrorsUptoRow : OpenClaim := { program := "ytjffgllkfbcaeaagreatdoor", sum := "5422fd062d714ac2ce2f603a3638290e9dadc8690c59fcc5a15072100087654a", func := "acheron/acheronlaw29.SpaceErrors", spec := "spaceErrors", inPlace := ["internal/bytealg.IndexByteString", "internal/bytealg.IndexString", "internal/abi.NoEscape", "internal/bytealg.MakeNoZero"], unfollowed := true, recurses := true, named := ["unicode/utf8.first", "unicode/utf8.acceptRanges", "internal/bytealg.MaxLen"], apart := false, laid := [("unicode/utf8.acceptRanges", laid_unicode_utf8_acceptRanges), ("unicode/utf8.first", laid_unicode_utf8_first)], narrowed := true }
def SpaceErrorsUptoSaid : Prop := spaceErrorsUptoRow.holds Tryz.pinned (OpenSpec.upto spaceErrorsSpec)

/-- 'acheronlaw29.SpaceLists', WHERE WHAT IT READS IS OF BULK AT MOST 1048576: true; the input reads as it did. -/
def spaceListsUptoRow : OpenClaim := { program := "ytjffgllkfbcaeaagreatdoor", sum := "5422fd062d714ac2ce2f603a3638290e9dadc8690c59fcc5a15072100087654a", func := "acheron/acheronlaw29.SpaceLists", spec := "spaceLists", inPlace := ["internal/bytealg.IndexByteString", "internal/bytealg.IndexString", "internal/abi.NoEscape", "internal/bytealg.MakeNoZero"], unfollowed := true, recurses := true, named := ["unicode/utf8.first", "unicode/utf8.acceptRanges", "internal/bytealg.MaxLen"], apart := false, laid := [("unicode/utf8.acceptRanges", laid_unicode_utf8_acceptRanges), ("unicode/utf8.first", laid_unicode_utf8_first)], narrowed := true }
def SpaceListsUptoSaid : Prop := spaceListsUptoRow.holds Tryz.pinned (OpenSpec.upto spaceListsSpec)

/-- 'acheronlaw29.SpaceNil', WHERE WHAT IT READS IS OF BULK AT MOST 1048576: true; the input reads as it did. -/
def spaceNilUptoRow : OpenClaim := { program := "ytjffgllkfbcaeaagreatdoor", sum := "5422fd062d714ac2ce2f603a3638290e9dadc8690c59fcc5a15072100087654a", func := "acheron/acheronlaw29.SpaceNil", spec := "spaceNil", inPlace := ["internal/bytealg.IndexByteString", "internal/bytealg.IndexString", "internal/abi.NoEscape", "internal/bytealg.MakeNoZero"], unfollowed := true, recurses := true, named := ["unicode/utf8.first", "unicode/utf8.acceptRanges", "internal/bytealg.MaxLen"], apart := false, laid := [("unicode/utf8.acceptRanges", laid_unicode_utf8_acceptRanges), ("unicode/utf8.first", laid_unicode_utf8_first)], narrowed := true }
def SpaceNilUptoSaid : Prop := spaceNilUptoRow.holds Tryz.pinned (OpenSpec.upto spaceNilSpec)

/-- 'acheronlaw29.SpaceForks', WHERE WHAT IT READS IS OF BULK AT MOST 1048576: true; the input reads as it did. -/
def spaceForksUptoRow : OpenClaim := { program := "ytjffgllkfbcaeaagreatdoor", sum := "5422fd062d714ac2ce2f603a3638290e9dadc8690c59fcc5a15072100087654a", func := "acheron/acheronlaw29.SpaceForks", spec := "spaceForks", inPlace := ["internal/bytealg.IndexByteString", "internal/bytealg.IndexString", "internal/abi.NoEscape", "internal/bytealg.MakeNoZero"], unfollowed := true, recurses := true, named := ["unicode/utf8.first", "unicode/utf8.acceptRanges", "internal/bytealg.MaxLen"], apart := false, laid := [("unicode/utf8.acceptRanges", laid_unicode_utf8_acceptRanges), ("unicode/utf8.first", laid_unicode_utf8_first)], narrowed := true }
def SpaceForksUptoSaid : Prop := spaceForksUptoRow.holds Tryz.pinned (OpenSpec.upto spaceForksSpec)

end Rows
end Go.Proofs.YtjffgllkfbcaeaaGreatDoor
