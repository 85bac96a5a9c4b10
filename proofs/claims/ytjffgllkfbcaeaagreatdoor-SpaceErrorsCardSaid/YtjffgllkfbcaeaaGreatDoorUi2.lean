/-
  SpaceErrors: the card: it returns true for every input, and the input reads as it did.
-/
import Derived.Test.YtjffgllkfbcaeaaGreatDoorUi2c
namespace Go.Proofs.YtjffgllkfbcaeaaGreatDoor.errors
open Go Go.Sh Go.ChangeShapes Go.WideShapes Go.ChangeAt Go.RowKit Go.Proofs.YtjffgllkfbcaeaaGreatDoor

theorem plain (f : FuncId) (fn : Func) (hf : Tryz.pinned.checked.prog.funcNamed "acheron/acheronlaw29.SpaceErrors" = some f) (hfn : Tryz.pinned.checked.prog.funcs[f]? = some fn) :
    false = Tryz.pinned.checked.prog.looks [] ∧ ∀ (j : Nat) t, fn.params[j]? = some t → Tryz.pinned.checked.prog.wantsStandIn t = false := by
  obtain rfl : f = 5 := Option.some.inj ((show Tryz.prog.funcNamed "acheron/acheronlaw29.SpaceErrors" = some 5 by kernel_rfl).symm.trans hf) |>.symm
  obtain rfl : fn = Tryz.f5 := (Option.some.inj (Tryz.func5.symm.trans hfn)).symm
  refine ⟨by kernel_rfl, fun j t ht => ?_⟩
  rw [p0] at ht
  have : t = Ty.t43 ∨ t = Ty.sl_law29_Act := by simpa using Array.mem_of_getElem? ht
  rcases this with rfl | rfl
  · exact (show Tryz.prog.wantsStandIn Ty.t43 = false by kernel_rfl)
  · exact (show Tryz.prog.wantsStandIn Ty.sl_law29_Act = false by kernel_rfl)
theorem card : Rows.SpaceErrorsCardSaid :=
  Claim7.holds_tied_plain_at .later [] _ _ _ _ said (fun _ h => by cases h) (by kernel_rfl) (fun _ h => by cases h) spaceErrors_row_tie rfl ⟨rfl, rfl⟩ (by kernel_rfl) rfl plain (by kernel_rfl)
#print axioms card
end Go.Proofs.YtjffgllkfbcaeaaGreatDoor.errors
