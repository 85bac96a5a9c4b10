/-
 TreePlays: the card, part 2.
-/
import Derived.Test.YtnnhmahemklnkaaGreatDoorRp24a
namespace Go.Proofs.YtnnhmahemklnkaaGreatDoor.plays
open Go Go.Sh Go.ChangeShapes Go.WideShapes Go.ChangeAt Go.RowKit Go.Proofs.YtnnhmahemklnkaaGreatDoor
theorem uQ : twoF Tryz.prog Ty.t40 = some (Ty.t6,0,Ty.sl_tree_Group,1):=by kernel_rfl
theorem cQ : Tryz.prog.cellsOf Ty.t40 = 2:=by kernel_rfl
theorem uG : Tryz.prog.underlying Ty.sl_tree_Group = some (.slice Ty.tree_Group):=by kernel_rfl
theorem cSG : Tryz.prog.cellsOf Ty.sl_tree_Group = 1:=by kernel_rfl
theorem fG : twoF Tryz.prog Ty.tree_Group = some (Ty.t6,0,Ty.t2,1):=by kernel_rfl
theorem cG : Tryz.prog.cellsOf Ty.tree_Group = 2:=by kernel_rfl
theorem uU : Tryz.prog.underlying Ty.t2 = some (.slice Ty.t6):=by kernel_rfl
theorem cU : Tryz.prog.cellsOf Ty.t2 = 1:=by kernel_rfl
theorem cS : Tryz.prog.cellsOf Ty.t6 = 1:=by kernel_rfl
theorem uA : Tryz.prog.underlying Ty.sl_law28_Act = some (.slice Ty.law28_Act):=by kernel_rfl
theorem lA : lv Tryz.prog 20 Ty.law28_Act = some [.int .i64,.int .i64,.int .i64,.str,.str,.int .i64,.int .i64,.int .i64,.int .i64,.str,.int .i64,.int .i64,.int .i64,.int .i64,.int .i64,.int .i64,.str,.str,.str,.str]:=by kernel_rfl
theorem cA : lvC Tryz.prog 20 Ty.law28_Act = true:=by kernel_rfl
theorem uS : Tryz.prog.underlying Ty.t6 = some .string:=by kernel_rfl
theorem uB : Tryz.prog.underlying Ty.bool = some .bool:=by kernel_rfl
theorem p0 : Tryz.f8.params = #[Ty.t40,Ty.sl_law28_Act]:=by kernel_rfl
theorem rT : Tryz.f8.resultTypes = #[Ty.bool]:=by kernel_rfl
theorem rd0 : readsB Tryz.prog Tryz.f8.params.toList = true:=by kernel_rfl
set_option maxRecDepth 100000 in
theorem contract (H : Type) (enc : TypeId × Value→H) (W : World) (base : Nat) (args : Array Value) (ds gs : List (DataW H)) (before : List MemPlace)
  (hval : ∀ (j : Nat) t v,Tryz.f8.params[j]? = some t→args[j]? = some v→Value.okWide Tryz.prog W .any base t v)
  (hW : DataW.Whole enc Tryz.prog Tryz.f8.params.toList Rows.treePlaysSpec.vars false W args.toList ds gs before) (hk : Rows.uptoSmall H (ds++gs) = true) :
  Calls Tryz.prog 8 args W fun e W'=>∃ v,e = .returned v∧Rows.treePlaysSpec.post enc Tryz.prog Tryz.f8 false true false false W args v W':=by
 have hW':=hW
 obtain ⟨p,q,hA,hV,rfl,hfz,hnd⟩:=hW
 rw [p0] at hA hval
 obtain ⟨v0,vs0,d0,ds0,q0,q1,hargs,rfl,rfl,h0,r0⟩:=trodAll_cons hA
 obtain ⟨v1,vs1,d1,ds1,q2,q3,rfl,rfl,rfl,h1,r1⟩:=trodAll_cons r0
 obtain ⟨rfl,rfl,rfl⟩:=trodAll_nil r1
 obtain rfl : args = #[v0,v1]:=by cases args; simp_all
 obtain ⟨rfl,rfl⟩:=trodVars_none hV
 obtain ⟨owner,gV,gv,gs,dg,rfl,ho,hG,hgl,hone,hgz,rfl,hgd⟩:=open_setting2 uQ cQ uS cS uG cSG fG cG uU cU (hval 0 _ v0 rfl rfl) h0
 have hbulk:=set_bulk hgd hk
 obtain ⟨rows,hR,hfit⟩:=rdl_structs uA lA cA (by decide) (hval 1 _ v1 rfl rfl) h1
 obtain ⟨xs,rfl,hx⟩:=acs_of hfit
 have hlx : (xs.map Ac.C).length = xs.length:=List.length_map _
 rw [hlx] at hR
 have hxl : xs.length≤9223372036854775807:=by
  obtain ⟨a,c,-,-,h3,-⟩:=hR
  exact Nat.le_trans h3 (by decide)
 refine Calls.mono (show Calls _ _ _ _ _ from Plays_law (l:=[]) (D:=[]) (owner:=owner) (gV:=gV) (v:=v1) (xs:=xs) (fun l=>gin_of hG hgl hone) hbulk hx hxl (fun l=>RdS.oldA hR fun b h=>h) (Hs.starNil (Hs.start W Emp))) fun e W' he=>?_
 obtain ⟨v,rfl,rfl,l',E⟩:=he
 exact ⟨_,rfl,lawPost hW' E.upd rd0 rfl rT uB rfl⟩
set_option maxRecDepth 100000 in
theorem lifted (os : Os) (started : os.Started) (H : Type) (enc : TypeId × Value→H) (F : Stop.Interp) :
    ReturnsInHanded {} Tryz.checked os 8 .any ((Rows.OpenSpec.upto Rows.treePlaysSpec).preRow enc Tryz.prog Tryz.f8 Rows.treePlaysUptoRow.domain false Rows.treePlaysUptoRow.laid) (((Rows.OpenSpec.upto Rows.treePlaysSpec).at F).post enc Tryz.prog Tryz.f8 false true false false):=by
  obtain ⟨places,hx⟩:=reads os enc
  refine returnsInHanded_of_row (C:=Tryz.checked) (s:=Rows.OpenSpec.upto Rows.treePlaysSpec) own started (by kernel_rfl) Tryz.func8
    (witness_row_at (enc:=enc) (C:=Tryz.checked) false (laidWorld os) wit rfl (by kernel_rfl) (by kernel_rfl) (by kernel_rfl)
      (OpenSpec.preRow_of_cond 8 hx (by kernel_rfl) (fun k hk=>by cases hk; kernel_rfl) (by kernel_rfl) (laid_met os))) ?_
  intro W base args ds gs before hval hW _ hcond _ hL _ _
  exact contract H enc W base args ds gs before hval hW (hcond _ rfl)
end Go.Proofs.YtnnhmahemklnkaaGreatDoor.plays