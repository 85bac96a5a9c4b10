/-
  StyxEntries: the card: it returns true for every input, and the input reads as it did.
-/
import Derived.Test.YtmlccboapkkcfaaDoorSx63c
namespace Go.Proofs.YtmlccboapkkcfaaDoor.entries
open Go Go.Sh Go.ChangeShapes Go.WideShapes Go.ChangeAt Go.RowKit Go.Proofs.YtmlccboapkkcfaaDoor

theorem plain (f : FuncId) (fn : Func) (hf : Tryd.pinned.checked.prog.funcNamed "acheron/acheronlaw31.StyxEntries" = some f) (hfn : Tryd.pinned.checked.prog.funcs[f]? = some fn) :
    false = Tryd.pinned.checked.prog.looks [] ∧ ∀ (j : Nat) t, fn.params[j]? = some t → Tryd.pinned.checked.prog.wantsStandIn t = false := by
  obtain rfl : f = 10 := Option.some.inj ((show Tryd.prog.funcNamed "acheron/acheronlaw31.StyxEntries" = some 10 by kernel_rfl).symm.trans hf) |>.symm
  obtain rfl : fn = Tryd.f10 := (Option.some.inj (Tryd.func10.symm.trans hfn)).symm
  refine ⟨by kernel_rfl, fun j t ht => ?_⟩
  rw [p0] at ht
  have : t = Ty.sl_api_Dir ∨ t = Ty.int64 ∨ t = Ty.int := by simpa using Array.mem_of_getElem? ht
  rcases this with rfl | rfl | rfl
  · exact (show Tryd.prog.wantsStandIn Ty.sl_api_Dir = false by kernel_rfl)
  · exact (show Tryd.prog.wantsStandIn Ty.int64 = false by kernel_rfl)
  · exact (show Tryd.prog.wantsStandIn Ty.int = false by kernel_rfl)
theorem card : Rows.StyxEntriesCardSaid :=
  Claim7.holds_tied_plain_at .later [] _ _ _ _ said (fun _ h => by cases h) (by kernel_rfl) (fun _ h => by cases h) styxEntries_row_tie rfl ⟨rfl, rfl⟩ (by kernel_rfl) rfl plain (by kernel_rfl)
#print axioms card
end Go.Proofs.YtmlccboapkkcfaaDoor.entries
