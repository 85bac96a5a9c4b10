/-
  NARROWER THAN 'FOR EVERY INPUT', by the rows' own cells (each row's printed sentence says how): StyxDirs: laid.
  DERIVED. THE GIVEN ROWS OF THIS SEAT. 1 by the template 'for every input the law returns true; each argument reads behind the call as it read before'; 0 by the template 'total and deterministic' (their statements: YtmlccboapkkcfaaGreatDoorTotals.lean).
  GIVEN WITH THE SEED: the statements are not yours to turn. If you find one false, say at which input.
  Laid BY PROGRAM, IN A SANDBOX (cutbox-rows.mjs): the forced cells as the released guide's own fill.sh prints them over the translation 58c1cf847818a349… (all of the seat's roots in one cut). By AI agents, Wed Nov 11 2026. No macro, syntax, notation, axiom, sorry.
-/
import Derived.Test.YtmlccboapkkcfaaGreatDoorChecked
import GoSem.Claim
import GoSem.ClaimJoined
import GoSem.ClaimMapViews
import Derived.JoinedTies
import Derived.KernelRfl
namespace Go.Proofs.YtmlccboapkkcfaaGreatDoor
/- THE CELL 'sum', in the pinned program and in every row, IS THE sha256 OF THE DUMP (.gsa) THAT YtmlccboapkkcfaaGreatDoorProg.lean LOADS. Nothing in Lean hashes anything: it is a label: what it is worth is what the hold of that sum in a sandbox is worth. -/
noncomputable def Tryz.pinned : Pinned := { name := "ytmlccboapkkcfaagreatdoor", sum := "58c1cf847818a349a1b9abaa2e60b6656871ddf185542585e7746486b088e955", checked := Tryz.checked }
namespace Rows
def none {H : Type} : Left H := { results := [], args := [] }

/- WHAT THE LISTED PACKAGE-LEVEL VARIABLES READ AS WHEN THE CALL BEGINS. Each datum BY PROGRAM (the guide's laid-datum.mjs) off the statement by which the dump's own 'gosem.cut.vars' lays the variable. In a bare row this is a premise. The card (YtmlccboapkkcfaaGreatDoorCards.lean) ties it to the program's text. -/
def laid_acheron_styx_words {H : Type} : DataW H := .map [(.int .i64 100, .lit (.string [118, 101, 114, 115, 105, 111, 110])), (.int .i64 102, .lit (.string [97, 117, 116, 104])), (.int .i64 104, .lit (.string [97, 116, 116, 97, 99, 104])), (.int .i64 108, .lit (.string [102, 108, 117, 115, 104])), (.int .i64 110, .lit (.string [119, 97, 108, 107])), (.int .i64 112, .lit (.string [111, 112, 101, 110])), (.int .i64 114, .lit (.string [99, 114, 101, 97, 116, 101])), (.int .i64 116, .lit (.string [114, 101, 97, 100])), (.int .i64 118, .lit (.string [119, 114, 105, 116, 101])), (.int .i64 120, .lit (.string [99, 108, 117, 110, 107])), (.int .i64 122, .lit (.string [114, 101, 109, 111, 118, 101])), (.int .i64 124, .lit (.string [115, 116, 97, 116])), (.int .i64 126, .lit (.string [119, 115, 116, 97, 116]))]

/-- 'acheronlaw31.StyxDirs': WHATEVER THE INPUT: true; the input reads as it did. -/
def styxDirsSpec : ChangeSpec := { name := "styxDirs", fn := fun _ => fun
  | [d1, d2] => { results := [.lit (.bool true)], args := [d1, d2] }
  | _ => none }
def styxDirsRow : OpenClaim := { program := "ytmlccboapkkcfaagreatdoor", sum := "58c1cf847818a349a1b9abaa2e60b6656871ddf185542585e7746486b088e955", func := "acheron/acheronlaw31.StyxDirs", spec := "styxDirs", unfollowed := true, recurses := true, named := ["acheron/styx.words"], apart := false, laid := [("acheron/styx.words", laid_acheron_styx_words)] }
def StyxDirsSaid : Prop := styxDirsRow.holds Tryz.pinned (OpenSpec.ofChange styxDirsSpec)

/-- ITS FALSE NEIGHBOUR: 'it returns false'. Refute it at one input. -/
def styxDirsWrong : ChangeSpec := { name := "styxDirs", fn := fun _ => fun
  | [d1, d2] => { results := [.lit (.bool false)], args := [d1, d2] }
  | _ => none }
def StyxDirsWrongFalsely : Prop := styxDirsRow.holds Tryz.pinned (OpenSpec.ofChange styxDirsWrong)

/- THE SECOND FORM. 'bulk': how many values and letters a reading holds, each counted each time it is reached (what is shared counts as often as it is met; a slice's spare places count too). A statement '..UptoSaid' is the law's where the arguments, and the package variables that the reading takes, are together of bulk at most 1048576: NARROWER than '..Said'. Prove '..Said' where nothing that the law and all that it calls make is longer than what came in: it says more and counts as full. Else prove '..UptoSaid'. A law counts once. -/
mutual
def uptoBulk {H : Type} : DataW H → Nat
  | .lit (.string bytes) => bytes.length + 1
  | .lit _ => 1
  | .nil => 1
  | .ptr d => uptoBulk d + 1
  | .slice elems spare => uptoBulkAll elems + uptoBulkAll spare + 1
  | .agg parts => uptoBulkAll parts + 1
  | .iface _ d => uptoBulk d + 1
  | .map entries => uptoBulkEntries entries + 1
  | .held _ => 1
def uptoBulkAll {H : Type} : List (DataW H) → Nat
  | [] => 0
  | d :: r => uptoBulk d + uptoBulkAll r
def uptoBulkEntries {H : Type} : List (Lit × DataW H) → Nat
  | [] => 0
  | x :: r => uptoBulkEntry x + uptoBulkEntries r
def uptoBulkEntry {H : Type} : Lit × DataW H → Nat
  | (.string bytes, d) => bytes.length + uptoBulk d + 1
  | (_, d) => uptoBulk d + 1
 end
def uptoSmall : (H : Type) → List (DataW H) → Bool := fun _ ds => decide (uptoBulkAll ds ≤ 1048576)
def OpenSpec.upto (s : _root_.Go.ChangeSpec) : _root_.Go.OpenSpec := { _root_.Go.OpenSpec.ofChange s with cond := some uptoSmall }

/-- 'acheronlaw31.StyxDirs', WHERE WHAT IT READS IS OF BULK AT MOST 1048576: true; the input reads as it did. -/
def styxDirsUptoRow : OpenClaim := { program := "ytmlccboapkkcfaagreatdoor", sum := "58c1cf847818a349a1b9abaa2e60b6656871ddf185542585e7746486b088e955", func := "acheron/acheronlaw31.StyxDirs", spec := "styxDirs", unfollowed := true, recurses := true, named := ["acheron/styx.words"], apart := false, laid := [("acheron/styx.words", laid_acheron_styx_words)], narrowed := true }
def StyxDirsUptoSaid : Prop := styxDirsUptoRow.holds Tryz.pinned (OpenSpec.upto styxDirsSpec)

end Rows
end Go.Proofs.YtmlccboapkkcfaaGreatDoor
