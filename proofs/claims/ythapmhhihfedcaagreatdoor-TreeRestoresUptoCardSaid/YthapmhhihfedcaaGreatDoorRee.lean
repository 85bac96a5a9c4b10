/-
  TreeRestores: the card: it returns true for every input, and the input reads as it did.
-/
import Derived.Test.YthapmhhihfedcaaGreatDoorReec
namespace Go.Proofs.YthapmhhihfedcaaGreatDoor.restores
open Go Go.Sh Go.ChangeShapes Go.WideShapes Go.ChangeAt Go.RowKit Go.Proofs.YthapmhhihfedcaaGreatDoor

theorem plain (f : FuncId) (fn : Func) (hf : Tryz.pinned.checked.prog.funcNamed "acheron/acheronlaw28.TreeRestores" = some f) (hfn : Tryz.pinned.checked.prog.funcs[f]? = some fn) :
    false = Tryz.pinned.checked.prog.looks [] ∧ ∀ (j : Nat) t, fn.params[j]? = some t → Tryz.pinned.checked.prog.wantsStandIn t = false := by
  obtain rfl : f = 3 := Option.some.inj ((show Tryz.prog.funcNamed "acheron/acheronlaw28.TreeRestores" = some 3 by kernel_rfl).symm.trans hf) |>.symm
  obtain rfl : fn = Tryz.f3 := (Option.some.inj (Tryz.func3.symm.trans hfn)).symm
  refine ⟨by kernel_rfl, fun j t ht => ?_⟩
  rw [p0] at ht
  have : t = Ty.t34 ∨ t = Ty.sl_law28_Act ∨ t = Ty.t35 := by simpa using Array.mem_of_getElem? ht
  rcases this with rfl | rfl | rfl
  · exact (show Tryz.prog.wantsStandIn Ty.t34 = false by kernel_rfl)
  · exact (show Tryz.prog.wantsStandIn Ty.sl_law28_Act = false by kernel_rfl)
  · exact (show Tryz.prog.wantsStandIn Ty.t35 = false by kernel_rfl)
theorem card : Rows.TreeRestoresUptoCardSaid :=
  Claim7.holds_tied_plain_at .later [] _ _ _ _ said (fun _ h => by cases h) (by kernel_rfl) (fun _ h => by cases h) treeRestoresUpto_row_tie rfl ⟨rfl, rfl⟩ (by kernel_rfl) rfl plain (by kernel_rfl)
#print axioms card
end Go.Proofs.YthapmhhihfedcaaGreatDoor.restores
