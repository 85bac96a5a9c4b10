/-
  StyxEntries: the card, part 2.
-/
import Derived.Test.YtmlccboapkkcfaaDoorSx63a
namespace Go.Proofs.YtmlccboapkkcfaaDoor.entries
open Go Go.Sh Go.ChangeShapes Go.WideShapes Go.ChangeAt Go.RowKit Go.Proofs.YtmlccboapkkcfaaDoor

theorem uS : Tryd.prog.underlying Ty.string = some .string := by kernel_rfl
theorem i64_rng {n : Int} (h : (Lit.int .i64 n).wf = true) : -9223372036854775808 ≤ n ∧ n ≤ 9223372036854775807 := by
  unfold Lit.wf at h
  rw [Bool.and_eq_true, decide_eq_true_eq, decide_eq_true_eq] at h
  exact h
theorem gW : Tryd.prog.globalNamed "acheron/styx.words" = some 0 := by kernel_rfl
theorem tW : (Tryd.prog.globals[0]?).map (·.type) = some Ty.map_int_string := by kernel_rfl
theorem uI : Tryd.prog.underlying Ty.int = some (.int .i64) := by kernel_rfl
theorem wds_of {W : World} (h : laidMetH Tryd.prog Rows.styxEntriesRow.laid W) : Wds W Emp := by
  rw [MakeChecks.laidMetH_plain _ _ _ (by kernel_rfl)] at h
  obtain ⟨g, t, cs, fuel, p, h1, h2, h3, h4⟩ := Lib.laidMet.reads h (n := "acheron/styx.words") (d := Rows.laid_acheron_styx_words) List.mem_cons_self
  obtain rfl := Option.some.inj (gW.symm.trans h1)
  obtain rfl := Option.some.inj (tW.symm.trans h2)
  obtain ⟨m, M, e1, e2, e3⟩ := words_open u_words uI uS h4
  have hc := World.var?_cell h1 h3 0
  rw [Array.eq_one_of_toList e1] at hc
  unfold World.cell? at hc
  split at hc
  · rename_i cs T fr hh
    exact ⟨m, M, cs, T, fr, hh, by simpa using hc, fun h => h, fun h => h, e2, e3⟩
  · cases hc
theorem uI64 : Tryd.prog.underlying Ty.int64 = some (.int .i64) := by kernel_rfl
theorem uB : Tryd.prog.underlying Ty.bool = some .bool := by kernel_rfl
theorem p0 : Tryd.f10.params = #[Ty.sl_api_Dir, Ty.int64, Ty.int] := by kernel_rfl
theorem rT : Tryd.f10.resultTypes = #[Ty.bool] := by kernel_rfl
theorem rd0 : readsB Tryd.prog Tryd.f10.params.toList = true := by kernel_rfl
set_option maxRecDepth 100000 in
theorem contract (H : Type) (enc : TypeId × Value → H) (W : World) (base : Nat) (args : Array Value) (ds gs : List (DataW H)) (before : List MemPlace)
    (hval : ∀ (j : Nat) t v, Tryd.f10.params[j]? = some t → args[j]? = some v → Value.okWide Tryd.prog W .any base t v)
    (hW : DataW.Whole enc Tryd.prog Tryd.f10.params.toList Rows.styxEntriesSpec.vars false W args.toList ds gs before) (hWds : Wds W Emp) (hwt : (DataW.weightsEach Tryd.prog (Tryd.f10.params.toList ++ (OpenSpec.ofChange Rows.styxEntriesSpec).bare.plain.varTypes Tryd.prog) (ds ++ gs)).all (· ≤ reachBytes) = true) :
    Calls Tryd.prog 10 args W fun e W' => ∃ v, e = .returned v ∧ Rows.styxEntriesSpec.post enc Tryd.prog Tryd.f10 false true false false W args v W' := by
  have hW' := hW
  obtain ⟨p, q, hA, hV, rfl, hfz, hnd⟩ := hW
  rw [p0] at hA hval hwt
  obtain ⟨v0, vs0, d0, ds0, q0, q1, hargs, rfl, rfl, h0, r0⟩ := trodAll_cons hA
  obtain ⟨v1, vs1, d1, ds1, q2, q3, rfl, rfl, rfl, h1, r1⟩ := trodAll_cons r0
  obtain ⟨v2, vs2, d2, ds2, q4, q5, rfl, rfl, rfl, h2, r2⟩ := trodAll_cons r1
  obtain ⟨rfl, rfl, rfl⟩ := trodAll_nil r2
  obtain rfl : args = #[v0, v1, v2] := by cases args; simp_all
  obtain ⟨rfl, rfl⟩ := trodVars_none hV
  obtain ⟨a0, n0, c0, e0⟩ := okWide_slice u_dirs (hval 0 _ v0 rfl rfl)
  obtain ⟨xs, hx, rx⟩ := open_dirs ⟨a0, n0, c0, e0⟩ h0 (fun n hn => of_decide_eq_true (List.all_eq_true.1 hwt n (weightsEach_mem (i := 0) rfl rfl hn)))
  obtain ⟨m1, rfl, rfl, rfl, k1⟩ := open_int uI64 (hval 1 _ v1 rfl rfl) h1
  obtain ⟨m2, rfl, rfl, rfl, k2⟩ := open_int uI (hval 2 _ v2 rfl rfl) h2
  refine Calls.mono (show Calls _ _ _ _ _ from Entries_law (l := []) hWds hx rx (i64_rng k1) (i64_rng k2) (Hs.start W Emp)) fun e W' he => ?_
  obtain ⟨v, rfl, rfl, X, E⟩ := he
  exact ⟨_, rfl, lawPost hW' E.upd rd0 rfl rT uB rfl⟩

set_option maxRecDepth 100000 in
theorem lifted (os : Os) (started : os.Started) (H : Type) (enc : TypeId × Value → H) (F : Stop.Interp) :
    ReturnsInHanded {} Tryd.checked os 10 .any ((OpenSpec.ofChange Rows.styxEntriesSpec).preRow enc Tryd.prog Tryd.f10 Rows.styxEntriesRow.domain false Rows.styxEntriesRow.laid) (((OpenSpec.ofChange Rows.styxEntriesSpec).at F).post enc Tryd.prog Tryd.f10 false true false false) := by
  obtain ⟨places, hx⟩ := reads os enc
  refine returnsInHanded_of_row (C := Tryd.checked) (s := OpenSpec.ofChange Rows.styxEntriesSpec) own started (by kernel_rfl) Tryd.func10
    (witness_row_atRef (enc := enc) (C := Tryd.checked) false (World.doorLaid Tryd.prog 400 os) wit rfl (by kernel_rfl) (by kernel_rfl) (by kernel_rfl)
      (OpenSpec.preRow_of_cond 8 hx (by kernel_rfl) (fun k hk => by cases hk) (by kernel_rfl) (laid_met os))) ?_
  intro W base args ds gs before hval hW _ hcond hwt hL _ _
  exact contract H enc W base args ds gs before hval hW (wds_of hL) hwt

end Go.Proofs.YtmlccboapkkcfaaDoor.entries
