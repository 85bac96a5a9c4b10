/-
  DeviceNil: the card, part 2.
-/
import Derived.Test.YtlaedckelfcfdaaGreatDoorDn5a
namespace Go.Proofs.YtlaedckelfcfdaaGreatDoor.nil
open Go Go.Sh Go.ChangeShapes Go.WideShapes Go.ChangeAt Go.RowKit Go.Proofs.YtlaedckelfcfdaaGreatDoor

theorem uB : Tryz.prog.underlying Ty.bool = some .bool := by kernel_rfl
theorem p0 : Tryz.f3.params = #[Ty.law30_Act] := by kernel_rfl
theorem rT : Tryz.f3.resultTypes = #[Ty.bool] := by kernel_rfl
theorem rd0 : readsB Tryz.prog Tryz.f3.params.toList = true := by kernel_rfl
set_option maxRecDepth 100000 in
theorem contract (H : Type) (enc : TypeId × Value → H) (W : World) (base : Nat) (args : Array Value) (ds gs : List (DataW H)) (before : List MemPlace)
    (hval : ∀ (j : Nat) t v, Tryz.f3.params[j]? = some t → args[j]? = some v → Value.okWide Tryz.prog W .any base t v)
    (hW : DataW.Whole enc Tryz.prog Tryz.f3.params.toList Rows.deviceNilSpec.vars false W args.toList ds gs before) :
    Calls Tryz.prog 3 args W fun e W' => ∃ v, e = .returned v ∧ Rows.deviceNilSpec.post enc Tryz.prog Tryz.f3 false true false false W args v W' := by
  have hW' := hW
  obtain ⟨p, q, hA, hV, rfl, hfz, hnd⟩ := hW
  rw [p0] at hA hval
  obtain ⟨v0, vs0, d0, ds0, q0, q1, hargs, rfl, rfl, h0, r0⟩ := trodAll_cons hA
  obtain ⟨rfl, rfl, rfl⟩ := trodAll_nil r0
  obtain rfl : args = #[v0] := by cases args; simp_all
  obtain ⟨rfl, rfl⟩ := trodVars_none hV
  obtain ⟨fsa, uMa, -⟩ := ftab_struct xtab_is (by decide)
  obtain ⟨csa, hva, -⟩ := okWide_struct uMa (hval 0 _ v0 rfl rfl)
  obtain ⟨x, pv, pl, rfl, hn, R0⟩ := open_x ⟨csa, hva⟩ h0
  refine Calls.mono (show Calls _ _ _ _ _ from Nil_law (l := []) hn (Hs.start W Emp) (R0 _)) fun e W' he => ?_
  obtain ⟨v, rfl, rfl, X, E⟩ := he
  exact ⟨_, rfl, lawPost hW' E.upd rd0 rfl rT uB rfl⟩

set_option maxRecDepth 100000 in
theorem lifted (os : Os) (started : os.Started) (H : Type) (enc : TypeId × Value → H) (F : Stop.Interp) :
    ReturnsInHanded {} Tryz.checked os 3 .any ((OpenSpec.ofChange Rows.deviceNilSpec).preRow enc Tryz.prog Tryz.f3 Rows.deviceNilRow.domain false Rows.deviceNilRow.laid) (((OpenSpec.ofChange Rows.deviceNilSpec).at F).post enc Tryz.prog Tryz.f3 false true false false) := by
  obtain ⟨places, hx⟩ := reads os enc
  refine returnsInHanded_of_row (C := Tryz.checked) (s := OpenSpec.ofChange Rows.deviceNilSpec) own started (by kernel_rfl) Tryz.func3
    (witness_row_atRef (enc := enc) (C := Tryz.checked) false (World.doorLaid Tryz.prog 400 os) wit rfl (by kernel_rfl) (by kernel_rfl) (by kernel_rfl)
      (OpenSpec.preRow_of_cond 8 hx (by kernel_rfl) (fun k hk => by cases hk) (by kernel_rfl) (laid_met os))) ?_
  intro W base args ds gs before hval hW _ hcond hwt hL _ _
  exact contract H enc W base args ds gs before hval hW

end Go.Proofs.YtlaedckelfcfdaaGreatDoor.nil
