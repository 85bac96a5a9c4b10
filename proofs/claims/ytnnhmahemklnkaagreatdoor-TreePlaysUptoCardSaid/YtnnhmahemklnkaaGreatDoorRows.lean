/-
  NARROWER THAN 'FOR EVERY INPUT', by the rows' own cells (each row's printed sentence says how): TreeCleans: laid · TreeForeign: laid · TreeVersions: laid · TreeNames: laid · TreeErrors: laid · TreePlays: laid · TreeClones: laid · TreeNil: laid · TreeRestores: laid.
  DERIVED. THE GIVEN ROWS OF THIS SEAT. 9 by the template 'for every input the law returns true; each argument reads behind the call as it read before'; 0 by the template 'total and deterministic' (their statements: YtnnhmahemklnkaaGreatDoorTotals.lean).
  GIVEN WITH THE SEED: the statements are not yours to turn. If you find one false, say at which input.
  Laid BY PROGRAM, IN A SANDBOX (cutbox-rows.mjs): the forced cells as the released guide's own fill.sh prints them over the translation 18bd88922c05b062… (all of the seat's roots in one cut). By AI agents, Wed Nov 11 2026. No macro, syntax, notation, axiom, sorry.
-/
import Derived.Test.YtnnhmahemklnkaaGreatDoorChecked
import GoSem.PinnedTables
import GoSem.Claim
import GoSem.ClaimJoined
import GoSem.ClaimMapViews
import Derived.JoinedTies
import Derived.KernelRfl
namespace Go.Proofs.YtnnhmahemklnkaaGreatDoor
/- THE CELL 'sum', in the pinned program and in every row, IS THE sha256 OF THE DUMP (.gsa) THAT YtnnhmahemklnkaaGreatDoorProg.lean LOADS. Nothing in Lean hashes anything: it is a label: what it is worth is what the hold of that sum in a sandbox is worth. -/
noncomputable def Tryz.pinned : Pinned := { name := "ytnnhmahemklnkaagreatdoor", sum := "18bd88922c05b0622e5f3a751c4b6d5dc73bf8e1792f2a882640baeb2ca9ba97", checked := Tryz.checked }
namespace Rows
def none {H : Type} : Left H := { results := [], args := [] }

/- WHAT THE LISTED PACKAGE-LEVEL VARIABLES READ AS WHEN THE CALL BEGINS. Each datum BY PROGRAM (the guide's laid-datum.mjs) off the statement by which the dump's own 'gosem.cut.vars' lays the variable. In a bare row this is a premise. The card (YtnnhmahemklnkaaGreatDoorCards.lean) ties it to the program's text. -/
def laid_unicode_utf8_acceptRanges {H : Type} : DataW H := .agg [.agg [.lit (.int .u8 128), .lit (.int .u8 191)], .agg [.lit (.int .u8 160), .lit (.int .u8 191)], .agg [.lit (.int .u8 128), .lit (.int .u8 159)], .agg [.lit (.int .u8 144), .lit (.int .u8 191)], .agg [.lit (.int .u8 128), .lit (.int .u8 143)], .agg [.lit (.int .u8 0), .lit (.int .u8 0)], .agg [.lit (.int .u8 0), .lit (.int .u8 0)], .agg [.lit (.int .u8 0), .lit (.int .u8 0)], .agg [.lit (.int .u8 0), .lit (.int .u8 0)], .agg [.lit (.int .u8 0), .lit (.int .u8 0)], .agg [.lit (.int .u8 0), .lit (.int .u8 0)], .agg [.lit (.int .u8 0), .lit (.int .u8 0)], .agg [.lit (.int .u8 0), .lit (.int .u8 0)], .agg [.lit (.int .u8 0), .lit (.int .u8 0)], .agg [.lit (.int .u8 0), .lit (.int .u8 0)], .agg [.lit (.int .u8 0), .lit (.int .u8 0)]]
/-- One of Go's own tables, pinned by name: the form's constant. -/
def laid_unicode_utf8_first : DataW Unit := Go.Pinned.utf8First

/-- 'acheronlaw28.TreeCleans': WHATEVER THE INPUT: true; the input reads as it did. -/
def treeCleansSpec : ChangeSpec := { name := "treeCleans", fn := fun _ => fun
  | [d1, d2] => { results := [.lit (.bool true)], args := [d1, d2] }
  | _ => none }
def treeCleansRow : OpenClaim := { program := "ytnnhmahemklnkaagreatdoor", sum := "18bd88922c05b0622e5f3a751c4b6d5dc73bf8e1792f2a882640baeb2ca9ba97", func := "acheron/acheronlaw28.TreeCleans", spec := "treeCleans", inPlace := ["internal/bytealg.IndexByteString", "internal/bytealg.IndexString", "internal/abi.NoEscape", "internal/bytealg.MakeNoZero"], unfollowed := true, recurses := true, named := ["unicode/utf8.first", "unicode/utf8.acceptRanges", "internal/bytealg.MaxLen"], apart := false, laid := [("unicode/utf8.acceptRanges", laid_unicode_utf8_acceptRanges), ("unicode/utf8.first", laid_unicode_utf8_first)] }
def TreeCleansSaid : Prop := treeCleansRow.holds Tryz.pinned (OpenSpec.ofChange treeCleansSpec)

/-- ITS FALSE NEIGHBOUR: 'it returns false'. Refute it at one input. -/
def treeCleansWrong : ChangeSpec := { name := "treeCleans", fn := fun _ => fun
  | [d1, d2] => { results := [.lit (.bool false)], args := [d1, d2] }
  | _ => none }
def TreeCleansWrongFalsely : Prop := treeCleansRow.holds Tryz.pinned (OpenSpec.ofChange treeCleansWrong)

/-- 'acheronlaw28.TreeForeign': WHATEVER THE INPUT: true; the input reads as it did. -/
def treeForeignSpec : ChangeSpec := { name := "treeForeign", fn := fun _ => fun
  | [d1, d2] => { results := [.lit (.bool true)], args := [d1, d2] }
  | _ => none }
def treeForeignRow : OpenClaim := { program := "ytnnhmahemklnkaagreatdoor", sum := "18bd88922c05b0622e5f3a751c4b6d5dc73bf8e1792f2a882640baeb2ca9ba97", func := "acheron/acheronlaw28.TreeForeign", spec := "treeForeign", inPlace := ["internal/bytealg.IndexByteString", "internal/bytealg.IndexString", "internal/abi.NoEscape", "internal/bytealg.MakeNoZero"], unfollowed := true, recurses := true, named := ["unicode/utf8.first", "unicode/utf8.acceptRanges", "internal/bytealg.MaxLen"], apart := false, laid := [("unicode/utf8.acceptRanges", laid_unicode_utf8_acceptRanges), ("unicode/utf8.first", laid_unicode_utf8_first)] }
def TreeForeignSaid : Prop := treeForeignRow.holds Tryz.pinned (OpenSpec.ofChange treeForeignSpec)

/-- ITS FALSE NEIGHBOUR: 'it returns false'. Refute it at one input. -/
def treeForeignWrong : ChangeSpec := { name := "treeForeign", fn := fun _ => fun
  | [d1, d2] => { results := [.lit (.bool false)], args := [d1, d2] }
  | _ => none }
def TreeForeignWrongFalsely : Prop := treeForeignRow.holds Tryz.pinned (OpenSpec.ofChange treeForeignWrong)

/-- 'acheronlaw28.TreeVersions': WHATEVER THE INPUT: true; the input reads as it did. -/
def treeVersionsSpec : ChangeSpec := { name := "treeVersions", fn := fun _ => fun
  | [d1, d2] => { results := [.lit (.bool true)], args := [d1, d2] }
  | _ => none }
def treeVersionsRow : OpenClaim := { program := "ytnnhmahemklnkaagreatdoor", sum := "18bd88922c05b0622e5f3a751c4b6d5dc73bf8e1792f2a882640baeb2ca9ba97", func := "acheron/acheronlaw28.TreeVersions", spec := "treeVersions", inPlace := ["internal/bytealg.IndexByteString", "internal/bytealg.IndexString", "internal/abi.NoEscape", "internal/bytealg.MakeNoZero"], unfollowed := true, recurses := true, named := ["unicode/utf8.first", "unicode/utf8.acceptRanges", "internal/bytealg.MaxLen"], apart := false, laid := [("unicode/utf8.acceptRanges", laid_unicode_utf8_acceptRanges), ("unicode/utf8.first", laid_unicode_utf8_first)] }
def TreeVersionsSaid : Prop := treeVersionsRow.holds Tryz.pinned (OpenSpec.ofChange treeVersionsSpec)

/-- ITS FALSE NEIGHBOUR: 'it returns false'. Refute it at one input. -/
def treeVersionsWrong : ChangeSpec := { name := "treeVersions", fn := fun _ => fun
  | [d1, d2] => { results := [.lit (.bool false)], args := [d1, d2] }
  | _ => none }
def TreeVersionsWrongFalsely : Prop := treeVersionsRow.holds Tryz.pinned (OpenSpec.ofChange treeVersionsWrong)

/-- 'acheronlaw28.TreeNames': WHATEVER THE INPUT: true; the input reads as it did. -/
def treeNamesSpec : ChangeSpec := { name := "treeNames", fn := fun _ => fun
  | [d1, d2] => { results := [.lit (.bool true)], args := [d1, d2] }
  | _ => none }
def treeNamesRow : OpenClaim := { program := "ytnnhmahemklnkaagreatdoor", sum := "18bd88922c05b0622e5f3a751c4b6d5dc73bf8e1792f2a882640baeb2ca9ba97", func := "acheron/acheronlaw28.TreeNames", spec := "treeNames", inPlace := ["internal/bytealg.IndexByteString", "internal/bytealg.IndexString", "internal/abi.NoEscape", "internal/bytealg.MakeNoZero"], unfollowed := true, recurses := true, named := ["unicode/utf8.first", "unicode/utf8.acceptRanges", "internal/bytealg.MaxLen"], apart := false, laid := [("unicode/utf8.acceptRanges", laid_unicode_utf8_acceptRanges), ("unicode/utf8.first", laid_unicode_utf8_first)] }
def TreeNamesSaid : Prop := treeNamesRow.holds Tryz.pinned (OpenSpec.ofChange treeNamesSpec)

/-- ITS FALSE NEIGHBOUR: 'it returns false'. Refute it at one input. -/
def treeNamesWrong : ChangeSpec := { name := "treeNames", fn := fun _ => fun
  | [d1, d2] => { results := [.lit (.bool false)], args := [d1, d2] }
  | _ => none }
def TreeNamesWrongFalsely : Prop := treeNamesRow.holds Tryz.pinned (OpenSpec.ofChange treeNamesWrong)

/-- 'acheronlaw28.TreeErrors': WHATEVER THE INPUT: true; the input reads as it did. -/
def treeErrorsSpec : ChangeSpec := { name := "treeErrors", fn := fun _ => fun
  | [d1, d2] => { results := [.lit (.bool true)], args := [d1, d2] }
  | _ => none }
def treeErrorsRow : OpenClaim := { program := "ytnnhmahemklnkaagreatdoor", sum := "18bd88922c05b0622e5f3a751c4b6d5dc73bf8e1792f2a882640baeb2ca9ba97", func := "acheron/acheronlaw28.TreeErrors", spec := "treeErrors", inPlace := ["internal/bytealg.IndexByteString", "internal/bytealg.IndexString", "internal/abi.NoEscape", "internal/bytealg.MakeNoZero"], unfollowed := true, recurses := true, named := ["unicode/utf8.first", "unicode/utf8.acceptRanges", "internal/bytealg.MaxLen"], apart := false, laid := [("unicode/utf8.acceptRanges", laid_unicode_utf8_acceptRanges), ("unicode/utf8.first", laid_unicode_utf8_first)] }
def TreeErrorsSaid : Prop := treeErrorsRow.holds Tryz.pinned (OpenSpec.ofChange treeErrorsSpec)

/-- ITS FALSE NEIGHBOUR: 'it returns false'. Refute it at one input. -/
def treeErrorsWrong : ChangeSpec := { name := "treeErrors", fn := fun _ => fun
  | [d1, d2] => { results := [.lit (.bool false)], args := [d1, d2] }
  | _ => none }
def TreeErrorsWrongFalsely : Prop := treeErrorsRow.holds Tryz.pinned (OpenSpec.ofChange treeErrorsWrong)

/-- 'acheronlaw28.TreePlays': WHATEVER THE INPUT: true; the input reads as it did. -/
def treePlaysSpec : ChangeSpec := { name := "treePlays", fn := fun _ => fun
  | [d1, d2] => { results := [.lit (.bool true)], args := [d1, d2] }
  | _ => none }
def treePlaysRow : OpenClaim := { program := "ytnnhmahemklnkaagreatdoor", sum := "18bd88922c05b0622e5f3a751c4b6d5dc73bf8e1792f2a882640baeb2ca9ba97", func := "acheron/acheronlaw28.TreePlays", spec := "treePlays", inPlace := ["internal/bytealg.IndexByteString", "internal/bytealg.IndexString", "internal/abi.NoEscape", "internal/bytealg.MakeNoZero"], unfollowed := true, recurses := true, named := ["unicode/utf8.first", "unicode/utf8.acceptRanges", "internal/bytealg.MaxLen"], apart := false, laid := [("unicode/utf8.acceptRanges", laid_unicode_utf8_acceptRanges), ("unicode/utf8.first", laid_unicode_utf8_first)] }
def TreePlaysSaid : Prop := treePlaysRow.holds Tryz.pinned (OpenSpec.ofChange treePlaysSpec)

/-- ITS FALSE NEIGHBOUR: 'it returns false'. Refute it at one input. -/
def treePlaysWrong : ChangeSpec := { name := "treePlays", fn := fun _ => fun
  | [d1, d2] => { results := [.lit (.bool false)], args := [d1, d2] }
  | _ => none }
def TreePlaysWrongFalsely : Prop := treePlaysRow.holds Tryz.pinned (OpenSpec.ofChange treePlaysWrong)

/-- 'acheronlaw28.TreeClones': WHATEVER THE INPUT: true; the input reads as it did. -/
def treeClonesSpec : ChangeSpec := { name := "treeClones", fn := fun _ => fun
  | [d1, d2, d3] => { results := [.lit (.bool true)], args := [d1, d2, d3] }
  | _ => none }
def treeClonesRow : OpenClaim := { program := "ytnnhmahemklnkaagreatdoor", sum := "18bd88922c05b0622e5f3a751c4b6d5dc73bf8e1792f2a882640baeb2ca9ba97", func := "acheron/acheronlaw28.TreeClones", spec := "treeClones", inPlace := ["internal/bytealg.IndexByteString", "internal/bytealg.IndexString", "internal/abi.NoEscape", "internal/bytealg.MakeNoZero"], unfollowed := true, recurses := true, named := ["unicode/utf8.first", "unicode/utf8.acceptRanges", "internal/bytealg.MaxLen"], apart := false, laid := [("unicode/utf8.acceptRanges", laid_unicode_utf8_acceptRanges), ("unicode/utf8.first", laid_unicode_utf8_first)] }
def TreeClonesSaid : Prop := treeClonesRow.holds Tryz.pinned (OpenSpec.ofChange treeClonesSpec)

/-- ITS FALSE NEIGHBOUR: 'it returns false'. Refute it at one input. -/
def treeClonesWrong : ChangeSpec := { name := "treeClones", fn := fun _ => fun
  | [d1, d2, d3] => { results := [.lit (.bool false)], args := [d1, d2, d3] }
  | _ => none }
def TreeClonesWrongFalsely : Prop := treeClonesRow.holds Tryz.pinned (OpenSpec.ofChange treeClonesWrong)

/-- 'acheronlaw28.TreeNil': WHATEVER THE INPUT: true; the input reads as it did. -/
def treeNilSpec : ChangeSpec := { name := "treeNil", fn := fun _ => fun
  | [d] => { results := [.lit (.bool true)], args := [d] }
  | _ => none }
def treeNilRow : OpenClaim := { program := "ytnnhmahemklnkaagreatdoor", sum := "18bd88922c05b0622e5f3a751c4b6d5dc73bf8e1792f2a882640baeb2ca9ba97", func := "acheron/acheronlaw28.TreeNil", spec := "treeNil", inPlace := ["internal/bytealg.IndexByteString", "internal/bytealg.IndexString", "internal/abi.NoEscape", "internal/bytealg.MakeNoZero"], unfollowed := true, recurses := true, named := ["unicode/utf8.first", "unicode/utf8.acceptRanges", "internal/bytealg.MaxLen"], apart := false, laid := [("unicode/utf8.acceptRanges", laid_unicode_utf8_acceptRanges), ("unicode/utf8.first", laid_unicode_utf8_first)] }
def TreeNilSaid : Prop := treeNilRow.holds Tryz.pinned (OpenSpec.ofChange treeNilSpec)

/-- ITS FALSE NEIGHBOUR: 'it returns false'. Refute it at one input. -/
def treeNilWrong : ChangeSpec := { name := "treeNil", fn := fun _ => fun
  | [d] => { results := [.lit (.bool false)], args := [d] }
  | _ => none }
def TreeNilWrongFalsely : Prop := treeNilRow.holds Tryz.pinned (OpenSpec.ofChange treeNilWrong)

/-- 'acheronlaw28.TreeRestores': WHATEVER THE INPUT: true; the input reads as it did. -/
def treeRestoresSpec : ChangeSpec := { name := "treeRestores", fn := fun _ => fun
  | [d1, d2, d3] => { results := [.lit (.bool true)], args := [d1, d2, d3] }
  | _ => none }
def treeRestoresRow : OpenClaim := { program := "ytnnhmahemklnkaagreatdoor", sum := "18bd88922c05b0622e5f3a751c4b6d5dc73bf8e1792f2a882640baeb2ca9ba97", func := "acheron/acheronlaw28.TreeRestores", spec := "treeRestores", inPlace := ["internal/bytealg.IndexByteString", "internal/bytealg.IndexString", "internal/abi.NoEscape", "internal/bytealg.MakeNoZero"], unfollowed := true, recurses := true, named := ["unicode/utf8.first", "unicode/utf8.acceptRanges", "internal/bytealg.MaxLen"], apart := false, laid := [("unicode/utf8.acceptRanges", laid_unicode_utf8_acceptRanges), ("unicode/utf8.first", laid_unicode_utf8_first)] }
def TreeRestoresSaid : Prop := treeRestoresRow.holds Tryz.pinned (OpenSpec.ofChange treeRestoresSpec)

/-- ITS FALSE NEIGHBOUR: 'it returns false'. Refute it at one input. -/
def treeRestoresWrong : ChangeSpec := { name := "treeRestores", fn := fun _ => fun
  | [d1, d2, d3] => { results := [.lit (.bool false)], args := [d1, d2, d3] }
  | _ => none }
def TreeRestoresWrongFalsely : Prop := treeRestoresRow.holds Tryz.pinned (OpenSpec.ofChange treeRestoresWrong)

/- THE SECOND FORM. 'bulk': how many values and letters a reading holds, each counted each time it is reached (what is shared counts as often as it is met; a slice's spare places count too). A statement '..UptoSaid' is the law's where the arguments, and the package variables that the reading takes, are together of bulk at most 1048576: NARROWER than '..Said'. Prove '..Said' where nothing that the law and all that it calls make is longer than what came in: it says more and counts as full. Else prove '..UptoSaid'. A law counts once. -/
mutual
def uptoBulk {H : Type} : DataW H → Nat
  | .lit (.string bytes) => bytes.length + 1
  | .lit _ => 1
  | .nil => 1
  | .ptr d => uptoBulk d + 1
  | .slice elems spare => uptoBulkAll elems + uptoBulkAll spare + 1
  | .agg parts => uptoBulkAll parts + 1
  | .iface _ d => uptoBulk d + 1
  | .map entries => uptoBulkEntries entries + 1
  | .held _ => 1
def uptoBulkAll {H : Type} : List (DataW H) → Nat
  | [] => 0
  | d :: r => uptoBulk d + uptoBulkAll r
def uptoBulkEntries {H : Type} : List (Lit × DataW H) → Nat
  | [] => 0
  | x :: r => uptoBulkEntry x + uptoBulkEntries r
def uptoBulkEntry {H : Type} : Lit × DataW H → Nat
  | (.string bytes, d) => bytes.length + uptoBulk d + 1
  | (_, d) => uptoBulk d + 1
 end
def uptoSmall : (H : Type) → List (DataW H) → Bool := fun _ ds => decide (uptoBulkAll ds ≤ 1048576)
def OpenSpec.upto (s : _root_.Go.ChangeSpec) : _root_.Go.OpenSpec := { _root_.Go.OpenSpec.ofChange s with cond := some uptoSmall }

/-- 'acheronlaw28.TreeCleans', WHERE WHAT IT READS IS OF BULK AT MOST 1048576: true; the input reads as it did. -/
def treeCleansUptoRow : OpenClaim := { program := "ytnnhmahemklnkaagreatdoor", sum := "18bd88922c05b0622e5f3a751c4b6d5dc73bf8e1792f2a882640baeb2ca9ba97", func := "acheron/acheronlaw28.TreeCleans", spec := "treeCleans", inPlace := ["internal/bytealg.IndexByteString", "internal/bytealg.IndexString", "internal/abi.NoEscape", "internal/bytealg.MakeNoZero"], unfollowed := true, recurses := true, named := ["unicode/utf8.first", "unicode/utf8.acceptRanges", "internal/bytealg.MaxLen"], apart := false, laid := [("unicode/utf8.acceptRanges", laid_unicode_utf8_acceptRanges), ("unicode/utf8.first", laid_unicode_utf8_first)], narrowed := true }
def TreeCleansUptoSaid : Prop := treeCleansUptoRow.holds Tryz.pinned (OpenSpec.upto treeCleansSpec)

/-- 'acheronlaw28.TreeForeign', WHERE WHAT IT READS IS OF BULK AT MOST 1048576: true; the input reads as it did. -/
def treeForeignUptoRow : OpenClaim := { program := "ytnnhmahemklnkaagreatdoor", sum := "18bd88922c05b0622e5f3a751c4b6d5dc73bf8e1792f2a882640baeb2ca9ba97", func := "acheron/acheronlaw28.TreeForeign", spec := "treeForeign", inPlace := ["internal/bytealg.IndexByteString", "internal/bytealg.IndexString", "internal/abi.NoEscape", "internal/bytealg.MakeNoZero"], unfollowed := true, recurses := true, named := ["unicode/utf8.first", "unicode/utf8.acceptRanges", "internal/bytealg.MaxLen"], apart := false, laid := [("unicode/utf8.acceptRanges", laid_unicode_utf8_acceptRanges), ("unicode/utf8.first", laid_unicode_utf8_first)], narrowed := true }
def TreeForeignUptoSaid : Prop := treeForeignUptoRow.holds Tryz.pinned (OpenSpec.upto treeForeignSpec)

/-- 'acheronlaw28.TreeVersions', WHERE WHAT IT READS IS OF BULK AT MOST 1048576: true; the input reads as it did. -/
def treeVersionsUptoRow : OpenClaim := { program := "ytnnhmahemklnkaagreatdoor", sum := "18bd88922c05b0622e5f3a751c4b6d5dc73bf8e1792f2a882640baeb2ca9ba97", func := "acheron/acheronlaw28.TreeVersions", spec := "treeVersions", inPlace := ["internal/bytealg.IndexByteString", "internal/bytealg.IndexString", "internal/abi.NoEscape", "internal/bytealg.MakeNoZero"], unfollowed := true, recurses := true, named := ["unicode/utf8.first", "unicode/utf8.acceptRanges", "internal/bytealg.MaxLen"], apart := false, laid := [("unicode/utf8.acceptRanges", laid_unicode_utf8_acceptRanges), ("unicode/utf8.first", laid_unicode_utf8_first)], narrowed := true }
def TreeVersionsUptoSaid : Prop := treeVersionsUptoRow.holds Tryz.pinned (OpenSpec.upto treeVersionsSpec)

/-- 'acheronlaw28.TreeNames', WHERE WHAT IT READS IS OF BULK AT MOST 1048576: true; the input reads as it did. -/
def treeNamesUptoRow : OpenClaim := { program := "ytnnhmahemklnkaagreatdoor", sum := "18bd88922c05b0622e5f3a751c4b6d5dc73bf8e1792f2a882640baeb2ca9ba97", func := "acheron/acheronlaw28.TreeNames", spec := "treeNames", inPlace := ["internal/bytealg.IndexByteString", "internal/bytealg.IndexString", "internal/abi.NoEscape", "internal/bytealg.MakeNoZero"], unfollowed := true, recurses := true, named := ["unicode/utf8.first", "unicode/utf8.acceptRanges", "internal/bytealg.MaxLen"], apart := false, laid := [("unicode/utf8.acceptRanges", laid_unicode_utf8_acceptRanges), ("unicode/utf8.first", laid_unicode_utf8_first)], narrowed := true }
def TreeNamesUptoSaid : Prop := treeNamesUptoRow.holds Tryz.pinned (OpenSpec.upto treeNamesSpec)

/-- 'acheronlaw28.TreeErrors', WHERE WHAT IT READS IS OF BULK AT MOST 1048576: true; the input reads as it did. -/
def treeErrorsUptoRow : OpenClaim := { program := "ytnnhmahemklnkaagreatdoor", sum := "18bd88922c05b0622e5f3a751c4b6d5dc73bf8e1792f2a882640baeb2ca9ba97", func := "acheron/acheronlaw28.TreeErrors", spec := "treeErrors", inPlace := ["internal/bytealg.IndexByteString", "internal/bytealg.IndexString", "internal/abi.NoEscape", "internal/bytealg.MakeNoZero"], unfollowed := true, recurses := true, named := ["unicode/utf8.first", "unicode/utf8.acceptRanges", "internal/bytealg.MaxLen"], apart := false, laid := [("unicode/utf8.acceptRanges", laid_unicode_utf8_acceptRanges), ("unicode/utf8.first", laid_unicode_utf8_first)], narrowed := true }
def TreeErrorsUptoSaid : Prop := treeErrorsUptoRow.holds Tryz.pinned (OpenSpec.upto treeErrorsSpec)

/-- 'acheronlaw28.TreePlays', WHERE WHAT IT READS IS OF BULK AT MOST 1048576: true; the input reads as it did. -/
def treePlaysUptoRow : OpenClaim := { program := "ytnnhmahemklnkaagreatdoor", sum := "18bd88922c05b0622e5f3a751c4b6d5dc73bf8e1792f2a882640baeb2ca9ba97", func := "acheron/acheronlaw28.TreePlays", spec := "treePlays", inPlace := ["internal/bytealg.IndexByteString", "internal/bytealg.IndexString", "internal/abi.NoEscape", "internal/bytealg.MakeNoZero"], unfollowed := true, recurses := true, named := ["unicode/utf8.first", "unicode/utf8.acceptRanges", "internal/bytealg.MaxLen"], apart := false, laid := [("unicode/utf8.acceptRanges", laid_unicode_utf8_acceptRanges), ("unicode/utf8.first", laid_unicode_utf8_first)], narrowed := true }
def TreePlaysUptoSaid : Prop := treePlaysUptoRow.holds Tryz.pinned (OpenSpec.upto treePlaysSpec)

/-- 'acheronlaw28.TreeClones', WHERE WHAT IT READS IS OF BULK AT MOST 1048576: true; the input reads as it did. -/
def treeClonesUptoRow : OpenClaim := { program := "ytnnhmahemklnkaagreatdoor", sum := "18bd88922c05b0622e5f3a751c4b6d5dc73bf8e1792f2a882640baeb2ca9ba97", func := "acheron/acheronlaw28.TreeClones", spec := "treeClones", inPlace := ["internal/bytealg.IndexByteString", "internal/bytealg.IndexString", "internal/abi.NoEscape", "internal/bytealg.MakeNoZero"], unfollowed := true, recurses := true, named := ["unicode/utf8.first", "unicode/utf8.acceptRanges", "internal/bytealg.MaxLen"], apart := false, laid := [("unicode/utf8.acceptRanges", laid_unicode_utf8_acceptRanges), ("unicode/utf8.first", laid_unicode_utf8_first)], narrowed := true }
def TreeClonesUptoSaid : Prop := treeClonesUptoRow.holds Tryz.pinned (OpenSpec.upto treeClonesSpec)

/-- 'acheronlaw28.TreeNil', WHERE WHAT IT READS IS OF BULK AT MOST 1048576: true; the input reads as it did. -/
def treeNilUptoRow : OpenClaim := { program := "ytnnhmahemklnkaagreatdoor", sum := "18bd88922c05b0622e5f3a751c4b6d5dc73bf8e1792f2a882640baeb2ca9ba97", func := "acheron/acheronlaw28.TreeNil", spec := "treeNil", inPlace := ["internal/bytealg.IndexByteString", "internal/bytealg.IndexString", "internal/abi.NoEscape", "internal/bytealg.MakeNoZero"], unfollowed := true, recurses := true, named := ["unicode/utf8.first", "unicode/utf8.acceptRanges", "internal/bytealg.MaxLen"], apart := false, laid := [("unicode/utf8.acceptRanges", laid_unicode_utf8_acceptRanges), ("unicode/utf8.first", laid_unicode_utf8_first)], narrowed := true }
def TreeNilUptoSaid : Prop := treeNilUptoRow.holds Tryz.pinned (OpenSpec.upto treeNilSpec)

/-- 'acheronlaw28.TreeRestores', WHERE WHAT IT READS IS OF BULK AT MOST 1048576: true; the input reads as it did. -/
def treeRestoresUptoRow : OpenClaim := { program := "ytnnhmahemklnkaagreatdoor", sum := "18bd88922c05b0622e5f3a751c4b6d5dc73bf8e1792f2a882640baeb2ca9ba97", func := "acheron/acheronlaw28.TreeRestores", spec := "treeRestores", inPlace := ["internal/bytealg.IndexByteString", "internal/bytealg.IndexString", "internal/abi.NoEscape", "internal/bytealg.MakeNoZero"], unfollowed := true, recurses := true, named := ["unicode/utf8.first", "unicode/utf8.acceptRanges", "internal/bytealg.MaxLen"], apart := false, laid := [("unicode/utf8.acceptRanges", laid_unicode_utf8_acceptRanges), ("unicode/utf8.first", laid_unicode_utf8_first)], narrowed := true }
def TreeRestoresUptoSaid : Prop := treeRestoresUptoRow.holds Tryz.pinned (OpenSpec.upto treeRestoresSpec)

end Rows
end Go.Proofs.YtnnhmahemklnkaaGreatDoor
