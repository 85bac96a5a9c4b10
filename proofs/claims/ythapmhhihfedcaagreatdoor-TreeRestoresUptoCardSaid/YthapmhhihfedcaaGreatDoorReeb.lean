/-
 TreeRestores: the card, part 2.
-/
import Derived.Test.YthapmhhihfedcaaGreatDoorReea
namespace Go.Proofs.YthapmhhihfedcaaGreatDoor.restores
open Go Go.Sh Go.ChangeShapes Go.WideShapes Go.ChangeAt Go.RowKit Go.Proofs.YthapmhhihfedcaaGreatDoor
theorem uQ : twoF Tryz.prog Ty.t34 = some (Ty.t9,0,Ty.sl_tree_Group,1):=by kernel_rfl
theorem cQ : Tryz.prog.cellsOf Ty.t34 = 2:=by kernel_rfl
theorem uG : Tryz.prog.underlying Ty.sl_tree_Group = some (.slice Ty.tree_Group):=by kernel_rfl
theorem cSG : Tryz.prog.cellsOf Ty.sl_tree_Group = 1:=by kernel_rfl
theorem fG : twoF Tryz.prog Ty.tree_Group = some (Ty.t9,0,Ty.t8,1):=by kernel_rfl
theorem cG : Tryz.prog.cellsOf Ty.tree_Group = 2:=by kernel_rfl
theorem uU : Tryz.prog.underlying Ty.t8 = some (.slice Ty.t9):=by kernel_rfl
theorem cU : Tryz.prog.cellsOf Ty.t8 = 1:=by kernel_rfl
theorem cS : Tryz.prog.cellsOf Ty.t9 = 1:=by kernel_rfl
theorem uA : Tryz.prog.underlying Ty.sl_law28_Act = some (.slice Ty.law28_Act):=by kernel_rfl
theorem lA : lv Tryz.prog 20 Ty.law28_Act = some [.int .i64,.int .i64,.int .i64,.str,.str,.int .i64,.int .i64,.int .i64,.int .i64,.str,.int .i64,.int .i64,.int .i64,.int .i64,.int .i64,.int .i64,.str,.str,.str,.str]:=by kernel_rfl
theorem cA : lvC Tryz.prog 20 Ty.law28_Act = true:=by kernel_rfl
theorem uS : Tryz.prog.underlying Ty.t9 = some .string:=by kernel_rfl
theorem uB : Tryz.prog.underlying Ty.bool = some .bool:=by kernel_rfl
theorem p0 : Tryz.f3.params = #[Ty.t34,Ty.sl_law28_Act,Ty.t35]:=by kernel_rfl
theorem rT : Tryz.f3.resultTypes = #[Ty.bool]:=by kernel_rfl
theorem rd0 : readsB Tryz.prog Tryz.f3.params.toList = true:=by kernel_rfl
set_option maxRecDepth 100000 in
theorem contract (H : Type) (enc : TypeId × Value→H) (W : World) (base : Nat) (args : Array Value) (ds gs : List (DataW H)) (before : List MemPlace)
  (hval : ∀ (j : Nat) t v,Tryz.f3.params[j]? = some t→args[j]? = some v→Value.okWide Tryz.prog W .any base t v)
  (hW : DataW.Whole enc Tryz.prog Tryz.f3.params.toList Rows.treeRestoresSpec.vars false W args.toList ds gs before) (hk : Rows.uptoSmall H (ds++gs) = true) :
  Calls Tryz.prog 3 args W fun e W'=>∃ v,e = .returned v∧Rows.treeRestoresSpec.post enc Tryz.prog Tryz.f3 false true false false W args v W':=by
 have hW':=hW
 obtain ⟨p,q,hA,hV,rfl,hfz,hnd⟩:=hW
 rw [p0] at hA hval
 obtain ⟨v0,vs0,d0,ds0,q0,q1,hargs,rfl,rfl,h0,r0⟩:=trodAll_cons hA
 obtain ⟨v1,vs1,d1,ds1,q2,q3,rfl,rfl,rfl,h1,r1⟩:=trodAll_cons r0
 obtain ⟨v2,vs2,d2,ds2,q4,q5,rfl,rfl,rfl,h2,r2⟩:=trodAll_cons r1
 obtain ⟨rfl,rfl,rfl⟩:=trodAll_nil r2
 obtain rfl : args = #[v0,v1,v2]:=by cases args; simp_all
 obtain ⟨rfl,rfl⟩:=trodVars_none hV
 obtain ⟨owner,gV,gv,gs,dg,rfl,ho,hG,hgl,hone,hgz,rfl,hgd⟩:=open_setting2 uQ cQ uS cS uG cSG fG cG uU cU (hval 0 _ v0 rfl rfl) h0
 have hbulk:=set_bulk hgd hk
 obtain ⟨rows,hR,hfit⟩:=rdl_structs uA lA cA (by decide) (hval 1 _ v1 rfl rfl) h1
 obtain ⟨xs,rfl,hx⟩:=acs_of hfit
 have hlx : (xs.map Ac.C).length = xs.length:=List.length_map _
 rw [hlx] at hR
 have hxl : xs.length≤9223372036854775807:=by
  obtain ⟨a,c,-,-,h3,-⟩:=hR
  exact Nat.le_trans h3 (by decide)
 obtain ⟨mV,cV,clock,next,ys,zs,rfl,hR2,hy,hR3,hz⟩:=open_rest (hval 2 _ v2 rfl rfl) h2
 have hyl : ys.length≤9223372036854775807:=by
  obtain ⟨a,c,-,-,h3,-⟩:=hR2
  exact Nat.le_trans h3 (by decide)
 have hzl : zs.length≤9223372036854775807:=by
  obtain ⟨a,c,-,-,h3,-⟩:=hR3
  exact Nat.le_trans h3 (by decide)
 refine Calls.mono (show Calls _ _ _ _ _ from Restores_law (l:=[]) (D:=[]) (owner:=owner) (gV:=gV) (v:=v1) (mV:=mV) (cV:=cV) (xs:=xs) (ys:=ys) (zs:=zs) (clock:=clock) (next:=next) (fun l=>gin_of hG hgl hone) hbulk hx hxl (fun l=>RdS.oldA hR fun b h=>h) hy hyl (fun l=>RdS.oldA hR2 fun b h=>h) hzl (fun l=>RdS.oldA hR3 fun b h=>h) hz (Hs.starNil (Hs.start W Emp))) fun e W' he=>?_
 obtain ⟨v,rfl,rfl,l',E⟩:=he
 exact ⟨_,rfl,lawPost hW' E.upd rd0 rfl rT uB rfl⟩
set_option maxRecDepth 100000 in
theorem lifted (os : Os) (started : os.Started) (H : Type) (enc : TypeId × Value→H) (F : Stop.Interp) :
    ReturnsInHanded {} Tryz.checked os 3 .any ((Rows.OpenSpec.upto Rows.treeRestoresSpec).preRow enc Tryz.prog Tryz.f3 Rows.treeRestoresUptoRow.domain false Rows.treeRestoresUptoRow.laid) (((Rows.OpenSpec.upto Rows.treeRestoresSpec).at F).post enc Tryz.prog Tryz.f3 false true false false):=by
  obtain ⟨places,hx⟩:=reads os enc
  refine returnsInHanded_of_row (C:=Tryz.checked) (s:=Rows.OpenSpec.upto Rows.treeRestoresSpec) own started (by kernel_rfl) Tryz.func3
    (witness_row_at (enc:=enc) (C:=Tryz.checked) false (laidWorld os) wit rfl (by kernel_rfl) (by kernel_rfl) (by kernel_rfl)
      (OpenSpec.preRow_of_cond 8 hx (by kernel_rfl) (fun k hk=>by cases hk; kernel_rfl) (by kernel_rfl) (laid_met os))) ?_
  intro W base args ds gs before hval hW _ hcond _ hL _ _
  exact contract H enc W base args ds gs before hval hW (hcond _ rfl)
end Go.Proofs.YthapmhhihfedcaaGreatDoor.restores