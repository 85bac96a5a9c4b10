/-
  TreeForeign: the card, part 2.
-/
import Derived.Test.YtnnhmahemklnkaaGreatDoorFo5a
namespace Go.Proofs.YtnnhmahemklnkaaGreatDoor.foreign
open Go Go.Sh Go.ChangeShapes Go.WideShapes Go.ChangeAt Go.RowKit Go.Proofs.YtnnhmahemklnkaaGreatDoor

theorem uA : Tryz.prog.underlying Ty.sl_law28_Act = some (.slice Ty.law28_Act) := by kernel_rfl
theorem lA : lv Tryz.prog 20 Ty.law28_Act = some [.int .i64, .int .i64, .int .i64, .str, .str, .int .i64, .int .i64, .int .i64, .int .i64, .str, .int .i64, .int .i64, .int .i64, .int .i64, .int .i64, .int .i64, .str, .str, .str, .str] := by kernel_rfl
theorem cA : lvC Tryz.prog 20 Ty.law28_Act = true := by kernel_rfl
theorem uS : Tryz.prog.underlying Ty.string = some .string := by kernel_rfl
theorem uB : Tryz.prog.underlying Ty.bool = some .bool := by kernel_rfl
theorem p0 : Tryz.f4.params = #[Ty.string, Ty.sl_law28_Act] := by kernel_rfl
theorem rT : Tryz.f4.resultTypes = #[Ty.bool] := by kernel_rfl
theorem rd0 : readsB Tryz.prog Tryz.f4.params.toList = true := by kernel_rfl
set_option maxRecDepth 100000 in
theorem contract (H : Type) (enc : TypeId × Value → H) (W : World) (base : Nat) (args : Array Value) (ds gs : List (DataW H)) (before : List MemPlace)
    (hval : ∀ (j : Nat) t v, Tryz.f4.params[j]? = some t → args[j]? = some v → Value.okWide Tryz.prog W .any base t v)
    (hW : DataW.Whole enc Tryz.prog Tryz.f4.params.toList Rows.treeForeignSpec.vars false W args.toList ds gs before) :
    Calls Tryz.prog 4 args W fun e W' => ∃ v, e = .returned v ∧ Rows.treeForeignSpec.post enc Tryz.prog Tryz.f4 false true false false W args v W' := by
  have hW' := hW
  obtain ⟨p, q, hA, hV, rfl, hfz, hnd⟩ := hW
  rw [p0] at hA hval
  obtain ⟨v0, vs0, d0, ds0, q0, q1, hargs, rfl, rfl, h0, r0⟩ := trodAll_cons hA
  obtain ⟨v1, vs1, d1, ds1, q2, q3, rfl, rfl, rfl, h1, r1⟩ := trodAll_cons r0
  obtain ⟨rfl, rfl, rfl⟩ := trodAll_nil r1
  obtain rfl : args = #[v0, v1] := by cases args; simp_all
  obtain ⟨rfl, rfl⟩ := trodVars_none hV
  obtain ⟨s, rfl, rfl, rfl, hs⟩ := ChangeMaps.open_string uS (hval 0 _ v0 rfl rfl) h0
  obtain ⟨rows, hR, hfit⟩ := rdl_structs uA lA cA (by decide) (hval 1 _ v1 rfl rfl) h1
  obtain ⟨xs, rfl, hx⟩ := acs_of hfit
  have hlx : (xs.map Ac.C).length = xs.length := List.length_map _
  rw [hlx] at hR
  have hxl : xs.length ≤ 9223372036854775807 := by
    obtain ⟨a, c, -, -, h3, -⟩ := hR
    exact Nat.le_trans h3 (by decide)
  refine Calls.mono (show Calls _ _ _ _ _ from Foreign_law (l := []) (D := []) (data := s) (v := v1) (xs := xs) hs hx hxl (fun l => RdS.oldA hR fun b h => h) (Hs.starNil (Hs.start W Emp))) fun e W' he => ?_
  obtain ⟨v, rfl, rfl, l', E⟩ := he
  exact ⟨_, rfl, lawPost hW' E.upd rd0 rfl rT uB rfl⟩

set_option maxRecDepth 100000 in
theorem lifted (os : Os) (started : os.Started) (H : Type) (enc : TypeId × Value → H) (F : Stop.Interp) :
    ReturnsInHanded {} Tryz.checked os 4 .any ((OpenSpec.ofChange Rows.treeForeignSpec).preRow enc Tryz.prog Tryz.f4 Rows.treeForeignRow.domain false Rows.treeForeignRow.laid) (((OpenSpec.ofChange Rows.treeForeignSpec).at F).post enc Tryz.prog Tryz.f4 false true false false) := by
  obtain ⟨places, hx⟩ := reads os enc
  refine returnsInHanded_of_row (C := Tryz.checked) (s := OpenSpec.ofChange Rows.treeForeignSpec) own started (by kernel_rfl) Tryz.func4
    (witness_row_at (enc := enc) (C := Tryz.checked) false (laidWorld os) wit rfl (by kernel_rfl) (by kernel_rfl) (by kernel_rfl)
      (OpenSpec.preRow_of_cond 8 hx (by kernel_rfl) (fun k hk => by cases hk) (by kernel_rfl) (laid_met os))) ?_
  intro W base args ds gs before hval hW _ hcond _ hL _ _
  exact contract H enc W base args ds gs before hval hW

end Go.Proofs.YtnnhmahemklnkaaGreatDoor.foreign
