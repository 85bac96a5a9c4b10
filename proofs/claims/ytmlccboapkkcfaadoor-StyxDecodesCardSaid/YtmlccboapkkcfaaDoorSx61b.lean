/-
  StyxDecodes: the card, part 2.
-/
import Derived.Test.YtmlccboapkkcfaaDoorSx61a
namespace Go.Proofs.YtmlccboapkkcfaaDoor.decodes
open Go Go.Sh Go.ChangeShapes Go.WideShapes Go.ChangeAt Go.RowKit Go.Proofs.YtmlccboapkkcfaaDoor

theorem uS : Tryd.prog.underlying Ty.string = some .string := by kernel_rfl
theorem gW : Tryd.prog.globalNamed "acheron/styx.words" = some 0 := by kernel_rfl
theorem tW : (Tryd.prog.globals[0]?).map (·.type) = some Ty.map_int_string := by kernel_rfl
theorem uI : Tryd.prog.underlying Ty.int = some (.int .i64) := by kernel_rfl
theorem wds_of {W : World} (h : laidMetH Tryd.prog Rows.styxDecodesRow.laid W) : Wds W Emp := by
  rw [MakeChecks.laidMetH_plain _ _ _ (by kernel_rfl)] at h
  obtain ⟨g, t, cs, fuel, p, h1, h2, h3, h4⟩ := Lib.laidMet.reads h (n := "acheron/styx.words") (d := Rows.laid_acheron_styx_words) List.mem_cons_self
  obtain rfl := Option.some.inj (gW.symm.trans h1)
  obtain rfl := Option.some.inj (tW.symm.trans h2)
  obtain ⟨m, M, e1, e2, e3⟩ := words_open u_words uI uS h4
  have hc := World.var?_cell h1 h3 0
  rw [Array.eq_one_of_toList e1] at hc
  unfold World.cell? at hc
  split at hc
  · rename_i cs T fr hh
    exact ⟨m, M, cs, T, fr, hh, by simpa using hc, fun h => h, fun h => h, e2, e3⟩
  · cases hc
theorem uB : Tryd.prog.underlying Ty.bool = some .bool := by kernel_rfl
theorem p0 : Tryd.f4.params = #[Ty.string] := by kernel_rfl
theorem rT : Tryd.f4.resultTypes = #[Ty.bool] := by kernel_rfl
theorem rd0 : readsB Tryd.prog Tryd.f4.params.toList = true := by kernel_rfl
set_option maxRecDepth 100000 in
theorem contract (H : Type) (enc : TypeId × Value → H) (W : World) (base : Nat) (args : Array Value) (ds gs : List (DataW H)) (before : List MemPlace)
    (hval : ∀ (j : Nat) t v, Tryd.f4.params[j]? = some t → args[j]? = some v → Value.okWide Tryd.prog W .any base t v)
    (hW : DataW.Whole enc Tryd.prog Tryd.f4.params.toList Rows.styxDecodesSpec.vars false W args.toList ds gs before) (hWds : Wds W Emp) :
    Calls Tryd.prog 4 args W fun e W' => ∃ v, e = .returned v ∧ Rows.styxDecodesSpec.post enc Tryd.prog Tryd.f4 false true false false W args v W' := by
  have hW' := hW
  obtain ⟨p, q, hA, hV, rfl, hfz, hnd⟩ := hW
  rw [p0] at hA hval
  obtain ⟨v0, vs0, d0, ds0, q0, q1, hargs, rfl, rfl, h0, r0⟩ := trodAll_cons hA
  obtain ⟨rfl, rfl, rfl⟩ := trodAll_nil r0
  obtain rfl : args = #[v0] := by cases args; simp_all
  obtain ⟨rfl, rfl⟩ := trodVars_none hV
  obtain ⟨s, rfl, rfl, rfl, hs⟩ := ChangeMaps.open_string uS (hval 0 _ v0 rfl rfl) h0
  rw [show Value.string s = sb (bl s) from str_sb s]
  refine Calls.mono (show Calls _ _ _ _ _ from Decodes_law (l := []) hWds (Hs.start W Emp)) fun e W' he => ?_
  obtain ⟨v, rfl, rfl, X, E⟩ := he
  exact ⟨_, rfl, lawPost hW' E.upd rd0 rfl rT uB rfl⟩

set_option maxRecDepth 100000 in
theorem lifted (os : Os) (started : os.Started) (H : Type) (enc : TypeId × Value → H) (F : Stop.Interp) :
    ReturnsInHanded {} Tryd.checked os 4 .any ((OpenSpec.ofChange Rows.styxDecodesSpec).preRow enc Tryd.prog Tryd.f4 Rows.styxDecodesRow.domain false Rows.styxDecodesRow.laid) (((OpenSpec.ofChange Rows.styxDecodesSpec).at F).post enc Tryd.prog Tryd.f4 false true false false) := by
  obtain ⟨places, hx⟩ := reads os enc
  refine returnsInHanded_of_row (C := Tryd.checked) (s := OpenSpec.ofChange Rows.styxDecodesSpec) own started (by kernel_rfl) Tryd.func4
    (witness_row_atRef (enc := enc) (C := Tryd.checked) false (World.doorLaid Tryd.prog 400 os) wit rfl (by kernel_rfl) (by kernel_rfl) (by kernel_rfl)
      (OpenSpec.preRow_of_cond 8 hx (by kernel_rfl) (fun k hk => by cases hk) (by kernel_rfl) (laid_met os))) ?_
  intro W base args ds gs before hval hW _ hcond hwt hL _ _
  exact contract H enc W base args ds gs before hval hW (wds_of hL)

end Go.Proofs.YtmlccboapkkcfaaDoor.decodes
