/-
  SpaceRestores: the card: it returns true for every input, and the input reads as it did.
-/
import Derived.Test.YtjffgllkfbcaeaaGreatDoorUp3c
namespace Go.Proofs.YtjffgllkfbcaeaaGreatDoor.restores
open Go Go.Sh Go.ChangeShapes Go.WideShapes Go.ChangeAt Go.RowKit Go.Proofs.YtjffgllkfbcaeaaGreatDoor

theorem plain (f : FuncId) (fn : Func) (hf : Tryz.pinned.checked.prog.funcNamed "acheron/acheronlaw29.SpaceRestores" = some f) (hfn : Tryz.pinned.checked.prog.funcs[f]? = some fn) :
    false = Tryz.pinned.checked.prog.looks [] ∧ ∀ (j : Nat) t, fn.params[j]? = some t → Tryz.pinned.checked.prog.wantsStandIn t = false := by
  obtain rfl : f = 4 := Option.some.inj ((show Tryz.prog.funcNamed "acheron/acheronlaw29.SpaceRestores" = some 4 by kernel_rfl).symm.trans hf) |>.symm
  obtain rfl : fn = Tryz.f4 := (Option.some.inj (Tryz.func4.symm.trans hfn)).symm
  refine ⟨by kernel_rfl, fun j t ht => ?_⟩
  rw [p0] at ht
  have : t = Ty.t48 ∨ t = Ty.t45 ∨ t = Ty.t42 ∨ t = Ty.t2 := by simpa using Array.mem_of_getElem? ht
  rcases this with rfl | rfl | rfl | rfl
  · exact (show Tryz.prog.wantsStandIn Ty.t48 = false by kernel_rfl)
  · exact (show Tryz.prog.wantsStandIn Ty.t45 = false by kernel_rfl)
  · exact (show Tryz.prog.wantsStandIn Ty.t42 = false by kernel_rfl)
  · exact (show Tryz.prog.wantsStandIn Ty.t2 = false by kernel_rfl)
theorem card : Rows.SpaceRestoresCardSaid :=
  Claim7.holds_tied_plain_at .later [] _ _ _ _ said (fun _ h => by cases h) (by kernel_rfl) (fun _ h => by cases h) spaceRestores_row_tie rfl ⟨rfl, rfl⟩ (by kernel_rfl) rfl plain (by kernel_rfl)
#print axioms card
end Go.Proofs.YtjffgllkfbcaeaaGreatDoor.restores
