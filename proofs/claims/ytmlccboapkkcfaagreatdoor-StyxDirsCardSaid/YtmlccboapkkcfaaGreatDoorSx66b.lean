/-
  StyxDirs: the card, part 2.
-/
import Derived.Test.YtmlccboapkkcfaaGreatDoorSx66a
namespace Go.Proofs.YtmlccboapkkcfaaGreatDoor.dirs
open Go Go.Sh Go.ChangeShapes Go.WideShapes Go.ChangeAt Go.RowKit Go.Proofs.YtmlccboapkkcfaaGreatDoor

theorem uS : Tryz.prog.underlying Ty.string = some .string := by kernel_rfl
theorem gW : Tryz.prog.globalNamed "acheron/styx.words" = some 0 := by kernel_rfl
theorem tW : (Tryz.prog.globals[0]?).map (·.type) = some Ty.map_int_string := by kernel_rfl
theorem uI : Tryz.prog.underlying Ty.int = some (.int .i64) := by kernel_rfl
theorem wds_of {W : World} (h : laidMetH Tryz.prog Rows.styxDirsRow.laid W) : Wds W Emp := by
  rw [MakeChecks.laidMetH_plain _ _ _ (by kernel_rfl)] at h
  obtain ⟨g, t, cs, fuel, p, h1, h2, h3, h4⟩ := Lib.laidMet.reads h (n := "acheron/styx.words") (d := Rows.laid_acheron_styx_words) List.mem_cons_self
  obtain rfl := Option.some.inj (gW.symm.trans h1)
  obtain rfl := Option.some.inj (tW.symm.trans h2)
  obtain ⟨m, M, e1, e2, e3⟩ := words_open u_words uI uS h4
  have hc := World.var?_cell h1 h3 0
  rw [Array.eq_one_of_toList e1] at hc
  unfold World.cell? at hc
  split at hc
  · rename_i cs T fr hh
    exact ⟨m, M, cs, T, fr, hh, by simpa using hc, fun h => h, fun h => h, e2, e3⟩
  · cases hc
theorem uB : Tryz.prog.underlying Ty.bool = some .bool := by kernel_rfl
theorem p0 : Tryz.f3.params = #[Ty.api_Dir, Ty.string] := by kernel_rfl
theorem rT : Tryz.f3.resultTypes = #[Ty.bool] := by kernel_rfl
theorem rd0 : readsB Tryz.prog Tryz.f3.params.toList = true := by kernel_rfl
set_option maxRecDepth 100000 in
theorem contract (H : Type) (enc : TypeId × Value → H) (W : World) (base : Nat) (args : Array Value) (ds gs : List (DataW H)) (before : List MemPlace)
    (hval : ∀ (j : Nat) t v, Tryz.f3.params[j]? = some t → args[j]? = some v → Value.okWide Tryz.prog W .any base t v)
    (hW : DataW.Whole enc Tryz.prog Tryz.f3.params.toList Rows.styxDirsSpec.vars false W args.toList ds gs before) (hWds : Wds W Emp) (hwt : (DataW.weightsEach Tryz.prog (Tryz.f3.params.toList ++ (OpenSpec.ofChange Rows.styxDirsSpec).bare.plain.varTypes Tryz.prog) (ds ++ gs)).all (· ≤ reachBytes) = true) :
    Calls Tryz.prog 3 args W fun e W' => ∃ v, e = .returned v ∧ Rows.styxDirsSpec.post enc Tryz.prog Tryz.f3 false true false false W args v W' := by
  have hW' := hW
  obtain ⟨p, q, hA, hV, rfl, hfz, hnd⟩ := hW
  rw [p0] at hA hval hwt
  obtain ⟨v0, vs0, d0, ds0, q0, q1, hargs, rfl, rfl, h0, r0⟩ := trodAll_cons hA
  obtain ⟨v1, vs1, d1, ds1, q2, q3, rfl, rfl, rfl, h1, r1⟩ := trodAll_cons r0
  obtain ⟨rfl, rfl, rfl⟩ := trodAll_nil r1
  obtain rfl : args = #[v0, v1] := by cases args; simp_all
  obtain ⟨rfl, rfl⟩ := trodVars_none hV
  obtain ⟨fsa, uMa, -⟩ := ftab_struct dtab_is (by decide)
  obtain ⟨csa, rfl, -⟩ := okWide_struct uMa (hval 0 _ v0 rfl rfl)
  obtain ⟨fua, h0⟩ := h0
  obtain ⟨d, ed, hdo, hdw⟩ := open_dir (cs := csa.toList) h0
  have wt : ∀ s, s = d.name ∨ s = d.owner ∨ s = d.group ∨ s = d.last → s.length ≤ 140737488355328 := by
    intro s hs
    have := of_decide_eq_true (List.all_eq_true.1 hwt _ (weightsEach_mem (i := 0) rfl rfl (hdw s hs)))
    unfold reachBytes at this
    omega
  obtain ⟨s, rfl, rfl, rfl, hs⟩ := ChangeMaps.open_string uS (hval 1 _ v1 rfl rfl) h1
  rw [show Value.string s = sb (bl s) from str_sb s]
  obtain rfl : csa = (dcs d).toArray := by rw [← ed]
  refine Calls.mono (show Calls _ _ _ _ _ from Dirs_law (l := []) hWds hdo ⟨wt _ (.inl rfl), wt _ (.inr (.inl rfl)), wt _ (.inr (.inr (.inl rfl))), wt _ (.inr (.inr (.inr rfl)))⟩ (Hs.start W Emp)) fun e W' he => ?_
  obtain ⟨v, rfl, rfl, X, E⟩ := he
  exact ⟨_, rfl, lawPost hW' E.upd rd0 rfl rT uB rfl⟩

set_option maxRecDepth 100000 in
theorem lifted (os : Os) (started : os.Started) (H : Type) (enc : TypeId × Value → H) (F : Stop.Interp) :
    ReturnsInHanded {} Tryz.checked os 3 .any ((OpenSpec.ofChange Rows.styxDirsSpec).preRow enc Tryz.prog Tryz.f3 Rows.styxDirsRow.domain false Rows.styxDirsRow.laid) (((OpenSpec.ofChange Rows.styxDirsSpec).at F).post enc Tryz.prog Tryz.f3 false true false false) := by
  obtain ⟨places, hx⟩ := reads os enc
  refine returnsInHanded_of_row (C := Tryz.checked) (s := OpenSpec.ofChange Rows.styxDirsSpec) own started (by kernel_rfl) Tryz.func3
    (witness_row_atRef (enc := enc) (C := Tryz.checked) false (World.doorLaid Tryz.prog 400 os) wit rfl (by kernel_rfl) (by kernel_rfl) (by kernel_rfl)
      (OpenSpec.preRow_of_cond 8 hx (by kernel_rfl) (fun k hk => by cases hk) (by kernel_rfl) (laid_met os))) ?_
  intro W base args ds gs before hval hW _ hcond hwt hL _ _
  exact contract H enc W base args ds gs before hval hW (wds_of hL) hwt

end Go.Proofs.YtmlccboapkkcfaaGreatDoor.dirs
