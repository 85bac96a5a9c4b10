/-
  SpaceNil: the card: it returns true for every input, and the input reads as it did.
-/
import Derived.Test.YtjffgllkfbcaeaaGreatDoorUk3c
namespace Go.Proofs.YtjffgllkfbcaeaaGreatDoor.nil
open Go Go.Sh Go.ChangeShapes Go.WideShapes Go.ChangeAt Go.RowKit Go.Proofs.YtjffgllkfbcaeaaGreatDoor

theorem plain (f : FuncId) (fn : Func) (hf : Tryz.pinned.checked.prog.funcNamed "acheron/acheronlaw29.SpaceNil" = some f) (hfn : Tryz.pinned.checked.prog.funcs[f]? = some fn) :
    false = Tryz.pinned.checked.prog.looks [] ∧ ∀ (j : Nat) t, fn.params[j]? = some t → Tryz.pinned.checked.prog.wantsStandIn t = false := by
  obtain rfl : f = 7 := Option.some.inj ((show Tryz.prog.funcNamed "acheron/acheronlaw29.SpaceNil" = some 7 by kernel_rfl).symm.trans hf) |>.symm
  obtain rfl : fn = Tryz.f7 := (Option.some.inj (Tryz.func7.symm.trans hfn)).symm
  refine ⟨by kernel_rfl, fun j t ht => ?_⟩
  rw [p0] at ht
  have : t = Ty.law29_Act := by simpa using Array.mem_of_getElem? ht
  rw [this]
  exact (show Tryz.prog.wantsStandIn Ty.law29_Act = false by kernel_rfl)
theorem card : Rows.SpaceNilCardSaid :=
  Claim7.holds_tied_plain_at .later [] _ _ _ _ said (fun _ h => by cases h) (by kernel_rfl) (fun _ h => by cases h) spaceNil_row_tie rfl ⟨rfl, rfl⟩ (by kernel_rfl) rfl plain (by kernel_rfl)
#print axioms card
end Go.Proofs.YtjffgllkfbcaeaaGreatDoor.nil
