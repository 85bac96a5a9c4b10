/-
  SpaceNil: the card, part 2.
-/
import Derived.Test.YtjffgllkfbcaeaaGreatDoorUk3a
namespace Go.Proofs.YtjffgllkfbcaeaaGreatDoor.nil
open Go Go.Sh Go.ChangeShapes Go.WideShapes Go.ChangeAt Go.RowKit Go.Proofs.YtjffgllkfbcaeaaGreatDoor

theorem uB : Tryz.prog.underlying Ty.bool = some .bool := by kernel_rfl
theorem p0 : Tryz.f7.params = #[Ty.law29_Act] := by kernel_rfl
theorem rT : Tryz.f7.resultTypes = #[Ty.bool] := by kernel_rfl
theorem rd0 : readsB Tryz.prog Tryz.f7.params.toList = true := by kernel_rfl
set_option maxRecDepth 100000 in
theorem contract (H : Type) (enc : TypeId × Value → H) (W : World) (base : Nat) (args : Array Value) (ds gs : List (DataW H)) (before : List MemPlace)
    (hval : ∀ (j : Nat) t v, Tryz.f7.params[j]? = some t → args[j]? = some v → Value.okWide Tryz.prog W .any base t v)
    (hW : DataW.Whole enc Tryz.prog Tryz.f7.params.toList Rows.spaceNilSpec.vars false W args.toList ds gs before) (hwt : (DataW.weightsEach Tryz.prog (Tryz.f7.params.toList ++ (OpenSpec.ofChange Rows.spaceNilSpec).bare.plain.varTypes Tryz.prog) (ds ++ gs)).all (· ≤ reachBytes) = true) :
    Calls Tryz.prog 7 args W fun e W' => ∃ v, e = .returned v ∧ Rows.spaceNilSpec.post enc Tryz.prog Tryz.f7 false true false false W args v W' := by
  have hW' := hW
  obtain ⟨p, q, hA, hV, rfl, hfz, hnd⟩ := hW
  rw [p0] at hA hval hwt
  obtain ⟨v0, vs0, d0, ds0, q0, q1, hargs, rfl, rfl, h0, r0⟩ := trodAll_cons hA
  obtain ⟨rfl, rfl, rfl⟩ := trodAll_nil r0
  obtain rfl : args = #[v0] := by cases args; simp_all
  obtain ⟨rfl, rfl⟩ := trodVars_none hV
  obtain ⟨fsa, uMa, -⟩ := ftab_struct atabS_is (by decide)
  obtain ⟨csa, rfl, -⟩ := okWide_struct uMa (hval 0 _ v0 rfl rfl)
  obtain ⟨fua, h0⟩ := h0
  obtain ⟨a, ea, hw⟩ := open_xa (cs := csa.toList) h0
  have ha : a.Ok := xa_Ok hw fun n hn => by
    have := of_decide_eq_true (List.all_eq_true.1 hwt _ (weightsEach_mem (i := 0) rfl rfl hn))
    unfold reachBytes at this
    omega
  obtain rfl : csa = a.C.toArray := by rw [← ea]
  refine Calls.mono (show Calls _ _ _ _ _ from SpaceNil_law (l := []) ha (Hs.start W Emp)) fun e W' he => ?_
  obtain ⟨v, rfl, rfl, X, E⟩ := he
  exact ⟨_, rfl, lawPost hW' E.upd rd0 rfl rT uB rfl⟩

set_option maxRecDepth 100000 in
theorem lifted (os : Os) (started : os.Started) (H : Type) (enc : TypeId × Value → H) (F : Stop.Interp) :
    ReturnsInHanded {} Tryz.checked os 7 .any ((OpenSpec.ofChange Rows.spaceNilSpec).preRow enc Tryz.prog Tryz.f7 Rows.spaceNilRow.domain false Rows.spaceNilRow.laid) (((OpenSpec.ofChange Rows.spaceNilSpec).at F).post enc Tryz.prog Tryz.f7 false true false false) := by
  obtain ⟨places, hx⟩ := reads os enc
  refine returnsInHanded_of_row (C := Tryz.checked) (s := OpenSpec.ofChange Rows.spaceNilSpec) own started (by kernel_rfl) Tryz.func7
    (witness_row_at (enc := enc) (C := Tryz.checked) false (laidWorld os) wit rfl (by kernel_rfl) (by kernel_rfl) (by kernel_rfl)
      (OpenSpec.preRow_of_cond 8 hx (by kernel_rfl) (fun k hk => by cases hk) (by kernel_rfl) (laid_met os))) ?_
  intro W base args ds gs before hval hW _ hcond hwt hL _ _
  exact contract H enc W base args ds gs before hval hW hwt

end Go.Proofs.YtjffgllkfbcaeaaGreatDoor.nil
