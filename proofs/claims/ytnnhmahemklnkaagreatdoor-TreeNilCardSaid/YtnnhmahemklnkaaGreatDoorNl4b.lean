/-
  TreeNil: the card, part 2.
-/
import Derived.Test.YtnnhmahemklnkaaGreatDoorNl4a
namespace Go.Proofs.YtnnhmahemklnkaaGreatDoor.nil
open Go Go.Sh Go.ChangeShapes Go.WideShapes Go.ChangeAt Go.RowKit Go.Proofs.YtnnhmahemklnkaaGreatDoor

theorem uA : isSt Tryz.prog Ty.law28_Act = true := by kernel_rfl
theorem lA : lv Tryz.prog 20 Ty.law28_Act = some [.int .i64, .int .i64, .int .i64, .str, .str, .int .i64, .int .i64, .int .i64, .int .i64, .str, .int .i64, .int .i64, .int .i64, .int .i64, .int .i64, .int .i64, .str, .str, .str, .str] := by kernel_rfl
theorem cA : lvC Tryz.prog 20 Ty.law28_Act = true := by kernel_rfl
theorem uS : Tryz.prog.underlying Ty.string = some .string := by kernel_rfl
theorem uB : Tryz.prog.underlying Ty.bool = some .bool := by kernel_rfl
theorem p0 : Tryz.f10.params = #[Ty.law28_Act] := by kernel_rfl
theorem rT : Tryz.f10.resultTypes = #[Ty.bool] := by kernel_rfl
theorem rd0 : readsB Tryz.prog Tryz.f10.params.toList = true := by kernel_rfl
set_option maxRecDepth 100000 in
theorem contract (H : Type) (enc : TypeId × Value → H) (W : World) (base : Nat) (args : Array Value) (ds gs : List (DataW H)) (before : List MemPlace)
    (hval : ∀ (j : Nat) t v, Tryz.f10.params[j]? = some t → args[j]? = some v → Value.okWide Tryz.prog W .any base t v)
    (hW : DataW.Whole enc Tryz.prog Tryz.f10.params.toList Rows.treeNilSpec.vars false W args.toList ds gs before) :
    Calls Tryz.prog 10 args W fun e W' => ∃ v, e = .returned v ∧ Rows.treeNilSpec.post enc Tryz.prog Tryz.f10 false true false false W args v W' := by
  have hW' := hW
  obtain ⟨p, q, hA, hV, rfl, hfz, hnd⟩ := hW
  rw [p0] at hA hval
  obtain ⟨v0, vs0, d0, ds0, q0, q1, hargs, rfl, rfl, h0, r0⟩ := trodAll_cons hA
  obtain ⟨rfl, rfl, rfl⟩ := trodAll_nil r0
  obtain rfl : args = #[v0] := by cases args; simp_all
  obtain ⟨rfl, rfl⟩ := trodVars_none hV
  obtain ⟨xs, rfl, hx⟩ := open_struct uA lA cA (hval 0 _ v0 rfl rfl) h0
  obtain ⟨x, rfl, -⟩ := act_of hx
  refine Calls.mono (show Calls _ _ _ _ _ from Nil_law (l := []) (D := []) (x := x) (Hs.starNil (Hs.start W Emp))) fun e W' he => ?_
  obtain ⟨v, rfl, rfl, l', E⟩ := he
  exact ⟨_, rfl, lawPost hW' E.upd rd0 rfl rT uB rfl⟩

set_option maxRecDepth 100000 in
theorem lifted (os : Os) (started : os.Started) (H : Type) (enc : TypeId × Value → H) (F : Stop.Interp) :
    ReturnsInHanded {} Tryz.checked os 10 .any ((OpenSpec.ofChange Rows.treeNilSpec).preRow enc Tryz.prog Tryz.f10 Rows.treeNilRow.domain false Rows.treeNilRow.laid) (((OpenSpec.ofChange Rows.treeNilSpec).at F).post enc Tryz.prog Tryz.f10 false true false false) := by
  obtain ⟨places, hx⟩ := reads os enc
  refine returnsInHanded_of_row (C := Tryz.checked) (s := OpenSpec.ofChange Rows.treeNilSpec) own started (by kernel_rfl) Tryz.func10
    (witness_row_at (enc := enc) (C := Tryz.checked) false (laidWorld os) wit rfl (by kernel_rfl) (by kernel_rfl) (by kernel_rfl)
      (OpenSpec.preRow_of_cond 8 hx (by kernel_rfl) (fun k hk => by cases hk) (by kernel_rfl) (laid_met os))) ?_
  intro W base args ds gs before hval hW _ _ _ hL _ _
  exact contract H enc W base args ds gs before hval hW

end Go.Proofs.YtnnhmahemklnkaaGreatDoor.nil
