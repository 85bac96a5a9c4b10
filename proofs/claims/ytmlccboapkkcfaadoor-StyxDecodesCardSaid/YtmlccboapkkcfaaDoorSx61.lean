/-
  StyxDecodes: the card: it returns true for every input, and the input reads as it did.
-/
import Derived.Test.YtmlccboapkkcfaaDoorSx61c
namespace Go.Proofs.YtmlccboapkkcfaaDoor.decodes
open Go Go.Sh Go.ChangeShapes Go.WideShapes Go.ChangeAt Go.RowKit Go.Proofs.YtmlccboapkkcfaaDoor

theorem plain (f : FuncId) (fn : Func) (hf : Tryd.pinned.checked.prog.funcNamed "acheron/acheronlaw31.StyxDecodes" = some f) (hfn : Tryd.pinned.checked.prog.funcs[f]? = some fn) :
    false = Tryd.pinned.checked.prog.looks [] ∧ ∀ (j : Nat) t, fn.params[j]? = some t → Tryd.pinned.checked.prog.wantsStandIn t = false := by
  obtain rfl : f = 4 := Option.some.inj ((show Tryd.prog.funcNamed "acheron/acheronlaw31.StyxDecodes" = some 4 by kernel_rfl).symm.trans hf) |>.symm
  obtain rfl : fn = Tryd.f4 := (Option.some.inj (Tryd.func4.symm.trans hfn)).symm
  refine ⟨by kernel_rfl, fun j t ht => ?_⟩
  rw [p0] at ht
  have : t = Ty.string := by simpa using Array.mem_of_getElem? ht
  rw [this]
  exact (show Tryd.prog.wantsStandIn Ty.string = false by kernel_rfl)
theorem card : Rows.StyxDecodesCardSaid :=
  Claim7.holds_tied_plain_at .later [] _ _ _ _ said (fun _ h => by cases h) (by kernel_rfl) (fun _ h => by cases h) styxDecodes_row_tie rfl ⟨rfl, rfl⟩ (by kernel_rfl) rfl plain (by kernel_rfl)
#print axioms card
end Go.Proofs.YtmlccboapkkcfaaDoor.decodes
