/-
  TreeReads: the card: it returns true for every input, and the input reads as it did.
-/
import Derived.Test.YtnnhmahemklnkaaDoorRd1
import Derived.Test.YtnnhmahemklnkaaDoorSh19
import Derived.Test.YtnnhmahemklnkaaDoorCards
import Derived.Test.YtnnhmahemklnkaaDoorTie
import Derived.WalkKit
import Derived.ProofKit
import Derived.OpenShut
import Derived.Deep.DeepHandedRow
import Derived.Lib.LaidTab
namespace Go.Proofs.YtnnhmahemklnkaaDoor.reads
open Go Go.Sh Go.ChangeShapes Go.WideShapes Go.ChangeAt Go.RowKit Go.Proofs.YtnnhmahemklnkaaDoor

theorem own : ownKnob Tryd.prog.godebug = none := by kernel_rfl
/-- The cells of a laid datum. -/
def cellsD : DataW Unit → List Value
  | .lit (.int k n) => [.int k n]
  | .agg l => cellsL l
  | _ => []
 where cellsL : List (DataW Unit) → List Value
  | [] => []
  | d :: r => cellsD d ++ cellsL r
def putD (d : DataW Unit) : Obj → Obj
  | .cells _ t fr => .cells (cellsD d).toArray t fr
  | o => o
noncomputable def laidWorld (os : Os) : World :=
  { World.holding Tryd.prog os ⟨#[], #[], []⟩ with heap := ((World.holding Tryd.prog os ⟨#[], #[], []⟩).heap.modify 0 (putD Rows.laid_unicode_utf8_first)).modify 1 (putD Rows.laid_unicode_utf8_acceptRanges) }
abbrev wit : Array Value := #[.agg #[.string ⟨#[]⟩, .string ⟨#[]⟩, .int .u16 0, .int .u16 0, .int .u16 0]]
theorem laid_met (os : Os) : laidMet Tryd.prog Rows.treeReadsRow.laid ((laidWorld os).forCall (fun _ _ => 0) ⟨#[], wit, []⟩).memory :=
  laidMet_of_run' 8 (by kernel_rfl) (by kernel_rfl)
theorem reads (os : Os) {H : Type} (enc : TypeId × Value → H) : ∃ places, DataW.whole enc Tryd.prog ((laidWorld os).forCall (fun _ _ => 0) ⟨#[], wit, []⟩).memory Tryd.f3.params.toList Rows.treeReadsSpec.vars false wit.toList 8 = some ([.agg [.lit (.string []), .lit (.string []), .lit (.int .u16 0), .lit (.int .u16 0), .lit (.int .u16 0)]], [], places) :=
  ⟨[], by kernel_rfl⟩
theorem uA : isSt Tryd.prog Ty.law28_Reading = true := by kernel_rfl
theorem lA : lv Tryd.prog 20 Ty.law28_Reading = some [.str, .str, .int .u16, .int .u16, .int .u16] := by kernel_rfl
theorem cA : lvC Tryd.prog 20 Ty.law28_Reading = true := by kernel_rfl
theorem uS : Tryd.prog.underlying Ty.string = some .string := by kernel_rfl
theorem uB : Tryd.prog.underlying Ty.bool = some .bool := by kernel_rfl
theorem p4 : Tryd.f3.params = #[Ty.law28_Reading] := by kernel_rfl
theorem r4 : Tryd.f3.resultTypes = #[Ty.bool] := by kernel_rfl
theorem rd4 : readsB Tryd.prog Tryd.f3.params.toList = true := by kernel_rfl
theorem rng_wf {n : Int} (h : (Lit.int .u16 n).wf = true) : ∃ m : Nat, n = m ∧ m ≤ 65535 := by
  have : 0 ≤ n ∧ n ≤ 65535 := by simpa [Lit.wf, IntKind.min, IntKind.max, IntKind.signed, IntKind.bits] using h
  exact ⟨n.toNat, by omega, by omega⟩
set_option maxRecDepth 100000 in
theorem contract (H : Type) (enc : TypeId × Value → H) (W : World) (base : Nat) (args : Array Value) (ds gs : List (DataW H)) (before : List MemPlace)
    (hval : ∀ (j : Nat) t v, Tryd.f3.params[j]? = some t → args[j]? = some v → Value.okWide Tryd.prog W .any base t v)
    (hW : DataW.Whole enc Tryd.prog Tryd.f3.params.toList Rows.treeReadsSpec.vars false W args.toList ds gs before) :
    Calls Tryd.prog 3 args W fun e W' => ∃ v, e = .returned v ∧ Rows.treeReadsSpec.post enc Tryd.prog Tryd.f3 false true false false W args v W' := by
  have hW' := hW
  obtain ⟨p, q, hA, hV, rfl, hfz, hnd⟩ := hW
  rw [p4] at hA hval
  obtain ⟨v0, vs0, d0, ds0, q0, q1, hargs, rfl, rfl, h0, r0⟩ := trodAll_cons hA
  obtain ⟨rfl, rfl, rfl⟩ := trodAll_nil r0
  obtain rfl : args = #[v0] := by cases args; simp_all
  obtain ⟨rfl, rfl⟩ := trodVars_none hV
  obtain ⟨xs, rfl, hx⟩ := open_struct uA lA cA (hval 0 _ v0 rfl rfl) h0
  obtain ⟨x0, _, rfl, f0, hx⟩ := fitWL_cons hx
  obtain ⟨x1, _, rfl, f1, hx⟩ := fitWL_cons hx
  obtain ⟨x2, _, rfl, f2, hx⟩ := fitWL_cons hx
  obtain ⟨x3, _, rfl, f3, hx⟩ := fitWL_cons hx
  obtain ⟨x4, _, rfl, f4, hx⟩ := fitWL_cons hx
  obtain rfl := fitWL_nil hx
  obtain ⟨s0, rfl, w0⟩ := LK.str_of f0
  obtain ⟨s1, rfl, w1⟩ := LK.str_of f1
  obtain ⟨n2, rfl, w2⟩ := LK.int_of f2
  obtain ⟨n3, rfl, w3⟩ := LK.int_of f3
  obtain ⟨n4, rfl, w4⟩ := LK.int_of f4
  obtain ⟨m2, rfl, k2⟩ := rng_wf w2
  obtain ⟨m3, rfl, k3⟩ := rng_wf w3
  obtain ⟨m4, rfl, k4⟩ := rng_wf w4
  refine Calls.mono (show Calls _ _ _ _ _ from Reads_law (l := []) (D := []) k2 k3 k4 (Nat.le_trans w0 (by decide)) (Nat.le_trans w1 (by decide)) (Hs.starNil (Hs.start W Emp))) fun e W' he => ?_
  obtain ⟨v, rfl, rfl, D', E⟩ := he
  exact ⟨_, rfl, lawPost hW' E.upd rd4 rfl r4 uB rfl⟩

set_option maxRecDepth 100000 in
theorem lifted (os : Os) (started : os.Started) (H : Type) (enc : TypeId × Value → H) (F : Stop.Interp) :
    ReturnsInHanded {} Tryd.checked os 3 .any ((OpenSpec.ofChange Rows.treeReadsSpec).preRow enc Tryd.prog Tryd.f3 Rows.treeReadsRow.domain false Rows.treeReadsRow.laid) (((OpenSpec.ofChange Rows.treeReadsSpec).at F).post enc Tryd.prog Tryd.f3 false true false false) := by
  obtain ⟨places, hx⟩ := reads os enc
  refine returnsInHanded_of_row (C := Tryd.checked) (s := OpenSpec.ofChange Rows.treeReadsSpec) own started (by kernel_rfl) Tryd.func3
    (witness_row_at (enc := enc) (C := Tryd.checked) false (laidWorld os) wit rfl (by kernel_rfl) (by kernel_rfl) (by kernel_rfl)
      (OpenSpec.preRow_of_cond 8 hx (by kernel_rfl) (fun k hk => by cases hk) (by kernel_rfl) (laid_met os))) ?_
  intro W base args ds gs before hval hW _ _ _ hL _ _
  exact contract H enc W base args ds gs before hval hW

theorem said : Rows.TreeReadsSaid :=
  OpenClaim.holds_of_cond 3 Tryd.f3 rfl rfl rfl rfl rfl rfl rfl ⟨rfl, rfl, rfl, rfl, rfl⟩ rfl rfl rfl rfl rfl (by kernel_rfl) Tryd.func3 (by kernel_rfl)
    (of_decide_eq_true (by kernel_rfl)) (by unfold Func.isWrapper; first | (rw [if_pos (by decide +kernel)]; kernel_rfl) | (rw [if_neg (by decide +kernel)]; exact ⟨rfl, rfl⟩))
    (fun os started H enc _ F => by rw [OpenClaim.pre_eq_preRow]; exact lifted os started H enc F)
theorem plain (f : FuncId) (fn : Func) (hf : Tryd.pinned.checked.prog.funcNamed "acheron/acheronlaw28.TreeReads" = some f) (hfn : Tryd.pinned.checked.prog.funcs[f]? = some fn) :
    false = Tryd.pinned.checked.prog.looks [] ∧ ∀ (j : Nat) t, fn.params[j]? = some t → Tryd.pinned.checked.prog.wantsStandIn t = false := by
  obtain rfl : f = 3 := Option.some.inj ((show Tryd.prog.funcNamed "acheron/acheronlaw28.TreeReads" = some 3 by kernel_rfl).symm.trans hf) |>.symm
  obtain rfl : fn = Tryd.f3 := (Option.some.inj (Tryd.func3.symm.trans hfn)).symm
  refine ⟨by kernel_rfl, fun j t ht => ?_⟩
  rw [p4] at ht
  have : t = Ty.law28_Reading := by simpa using Array.mem_of_getElem? ht
  rw [this]
  exact (show Tryd.prog.wantsStandIn Ty.law28_Reading = false by kernel_rfl)
theorem card : Rows.TreeReadsCardSaid :=
  Claim7.holds_tied_plain_at .later [] _ _ _ _ said (fun _ h => by cases h) (by kernel_rfl) (fun _ h => by cases h) treeReads_row_tie rfl ⟨rfl, rfl⟩ (by kernel_rfl) rfl plain (by kernel_rfl)
#print axioms card
end Go.Proofs.YtnnhmahemklnkaaDoor.reads
