/-
 SpaceUnions: the card, part 2.
-/
import Derived.Test.YtjffgllkfbcaeaaGreatDoorUu7a
namespace Go.Proofs.YtjffgllkfbcaeaaGreatDoor.unions
open Go Go.Sh Go.ChangeShapes Go.WideShapes Go.ChangeAt Go.RowKit Go.Proofs.YtjffgllkfbcaeaaGreatDoor
theorem uS : Tryz.prog.underlying Ty.t2 = some .string:=by kernel_rfl
theorem uB : Tryz.prog.underlying Ty.bool = some .bool:=by kernel_rfl
theorem p0 : Tryz.f3.params = #[Ty.t49,Ty.sl_law29_Act,Ty.t2]:=by kernel_rfl
theorem rT : Tryz.f3.resultTypes = #[Ty.bool]:=by kernel_rfl
theorem rd0 : readsB Tryz.prog Tryz.f3.params.toList = true:=by kernel_rfl
set_option maxRecDepth 100000 in
theorem contract (H : Type) (enc : TypeId × Value→H) (W : World) (base : Nat) (args : Array Value) (ds gs : List (DataW H)) (before : List MemPlace)
    (hval : ∀ (j : Nat) t v,Tryz.f3.params[j]? = some t→args[j]? = some v→Value.okWide Tryz.prog W .any base t v)
    (hW : DataW.Whole enc Tryz.prog Tryz.f3.params.toList Rows.spaceUnionsSpec.vars false W args.toList ds gs before) (hwt : (DataW.weightsEach Tryz.prog (Tryz.f3.params.toList++(OpenSpec.ofChange Rows.spaceUnionsSpec).bare.plain.varTypes Tryz.prog) (ds++gs)).all (·≤reachBytes) = true) :
    Calls Tryz.prog 3 args W fun e W'=>∃ v,e = .returned v∧Rows.spaceUnionsSpec.post enc Tryz.prog Tryz.f3 false true false false W args v W':=by
  have hW':=hW
  obtain ⟨p,q,hA,hV,rfl,hfz,hnd⟩:=hW
  rw [p0] at hA hval hwt
  obtain ⟨v0,vs0,d0,ds0,q0,q1,hargs,rfl,rfl,h0,r0⟩:=trodAll_cons hA
  obtain ⟨v1,vs1,d1,ds1,q2,q3,rfl,rfl,rfl,h1,r1⟩:=trodAll_cons r0
  obtain ⟨v2,vs2,d2,ds2,q4,q5,rfl,rfl,rfl,h2,r2⟩:=trodAll_cons r1
  obtain ⟨rfl,rfl,rfl⟩:=trodAll_nil r2
  obtain rfl : args = #[v0,v1,v2]:=by cases args; simp_all
  obtain ⟨rfl,rfl⟩:=trodVars_none hV
  obtain ⟨fsa,uMa,-⟩:=ftab_struct stabS_is (by decide)
  obtain ⟨csa,rfl,-⟩:=okWide_struct uMa (hval 0 _ v0 rfl rfl)
  obtain ⟨fua,h0⟩:=h0
  obtain ⟨user,pv,vs,pls,ea,hP,hPw⟩:=open_setS (cs:=csa.toList) h0
  have hPs : ∀ ps∈pls,∀ p : Pn,p∈ps→p.path.size≤140737488355328∧p.data.size≤140737488355328:=fun ps hps p hp=>by
    have k1:=of_decide_eq_true (List.all_eq_true.1 hwt _ (weightsEach_mem (i:=0) rfl rfl (hPw ps hps p hp).1))
    have k2:=of_decide_eq_true (List.all_eq_true.1 hwt _ (weightsEach_mem (i:=0) rfl rfl (hPw ps hps p hp).2))
    unfold reachBytes at k1 k2
    exact ⟨by show p.path.data.toList.length≤_; omega,by show p.data.data.toList.length≤_; omega⟩
  obtain rfl : csa = #[str user,pv]:=by rw [← Array.toList_inj,ea]
  obtain ⟨a1,n1,c1,e1⟩:=okWide_slice uS_slA (hval 1 _ v1 rfl rfl)
  obtain ⟨xs,hxs,okxs⟩:=open_xas ⟨a1,n1,c1,e1⟩ h1 (fun n hn=>by
    have:=of_decide_eq_true (List.all_eq_true.1 hwt _ (weightsEach_mem (i:=1) rfl rfl hn))
    unfold reachBytes at this
    omega)
  obtain ⟨path,rfl⟩:=okWide_string uS (hval 2 _ v2 rfl rfl)
  refine Calls.mono (show Calls _ _ _ _ _ from Unions_law (l:=[]) hP hPs okxs hxs (Hs.start W Emp)) fun e W' he=>?_
  obtain ⟨v,rfl,rfl,X,E⟩:=he
  exact ⟨_,rfl,lawPost hW' E.upd rd0 rfl rT uB rfl⟩
set_option maxRecDepth 100000 in
theorem lifted (os : Os) (started : os.Started) (H : Type) (enc : TypeId × Value→H) (F : Stop.Interp) :
    ReturnsInHanded {} Tryz.checked os 3 .any ((OpenSpec.ofChange Rows.spaceUnionsSpec).preRow enc Tryz.prog Tryz.f3 Rows.spaceUnionsRow.domain false Rows.spaceUnionsRow.laid) (((OpenSpec.ofChange Rows.spaceUnionsSpec).at F).post enc Tryz.prog Tryz.f3 false true false false):=by
  obtain ⟨places,hx⟩:=reads os enc
  refine returnsInHanded_of_row (C:=Tryz.checked) (s:=OpenSpec.ofChange Rows.spaceUnionsSpec) own started (by kernel_rfl) Tryz.func3
    (witness_row_at (enc:=enc) (C:=Tryz.checked) false (laidWorld os) wit rfl (by kernel_rfl) (by kernel_rfl) (by kernel_rfl)
      (OpenSpec.preRow_of_cond 8 hx (by kernel_rfl) (fun k hk=>by cases hk) (by kernel_rfl) (laid_met os))) ?_
  intro W base args ds gs before hval hW _ hcond hwt hL _ _
  exact contract H enc W base args ds gs before hval hW hwt
end Go.Proofs.YtjffgllkfbcaeaaGreatDoor.unions