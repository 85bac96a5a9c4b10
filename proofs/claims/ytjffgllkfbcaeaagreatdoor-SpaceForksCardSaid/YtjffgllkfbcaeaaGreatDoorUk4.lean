/-
 Name spaces: acts that are handed in, opened.
-/
import Derived.Test.YtjffgllkfbcaeaaGreatDoorUn4
import Derived.Test.YtjffgllkfbcaeaaGreatDoorSh28
import Derived.Test.YtjffgllkfbcaeaaGreatDoorUf3
namespace Go.Proofs.YtjffgllkfbcaeaaGreatDoor
open Go Go.Sh Go.ChangeShapes Go.WideShapes
set_option maxRecDepth 100000
set_option linter.unusedVariables false
set_option linter.unusedSimpArgs false
variable {H:Type} {enc:TypeId×Value→H} {W:World}
abbrev dtabS:List (TypeId×Nat×Nat):=[(Ty.t57,0,3),(Ty.int,3,1),(Ty.int64,4,1),(Ty.int64,5,1),(Ty.t1,6,1),(Ty.t1,7,1),(Ty.t1,8,1),(Ty.t1,9,1)]
abbrev atabS:List (TypeId×Nat×Nat):=[(Ty.int,0,1),(Ty.int,1,1),(Ty.int,2,1),(Ty.t1,3,1),(Ty.t1,4,1),(Ty.t1,5,1),(Ty.int,6,1),(Ty.int64,7,1),(Ty.t29,8,10)]
theorem dtabS_is:ftab PP Ty.t29=dtabS:=by kernel_rfl
theorem atabS_is:ftab PP Ty.t93=atabS:=by kernel_rfl
theorem cS_Dir:PP.cellsOf Ty.t29=10:=by kernel_rfl
theorem cS_Act:PP.cellsOf Ty.t93=18:=by kernel_rfl
theorem uuS_int:PP.underlying Ty.int=some (.int .i64):=by kernel_rfl
theorem uuS_int64:PP.underlying Ty.int64=some (.int .i64):=by kernel_rfl
theorem uuS_str:PP.underlying Ty.t1=some .string:=by kernel_rfl
theorem lvCS_Qid:lvC PP 20 Ty.t57=true:=by kernel_rfl
theorem qdS_of{r:List Value}(h:fitWL lkQid r):∃a b c:Int,r=[i64 a,i64 b,i64 c]:=by
 obtain⟨x0,r,rfl,h0,h⟩:=fitWL_cons h
 obtain⟨x1,r,rfl,h1,h⟩:=fitWL_cons h
 obtain⟨x2,r,rfl,h2,h⟩:=fitWL_cons h
 obtain rfl:=fitWL_nil h
 obtain⟨a,rfl,-⟩:=LK.int_of h0
 obtain⟨b,rfl,-⟩:=LK.int_of h1
 obtain⟨c,rfl,-⟩:=LK.int_of h2
 exact⟨a,b,c,rfl⟩
theorem open_dr{fuel:Nat}{cs:List Value}{x:DataW H×List MemPlace}(h:DataW.trod enc PP W 0 (λ_=>true) true fuel Ty.t29 cs=some x):
  ∃d:Dr,cs=d.cs∧∀s,s=d.name∨s=d.owner∨s=d.group∨s=d.last→s.data.toList.length∈x.1.weights PP Ty.t29:=by
 obtain⟨xs,n,hx,hlen,hxs,hf⟩:=struct_parts dtabS_is (by decide) h
 rw[cS_Dir]at hlen
 obtain⟨c0,c1,c2,c3,c4,c5,c6,c7,c8,c9,rfl⟩:∃c0 c1 c2 c3 c4 c5 c6 c7 c8 c9,cs=[c0,c1,c2,c3,c4,c5,c6,c7,c8,c9]:=by
  match cs,hlen with
  |[c0,c1,c2,c3,c4,c5,c6,c7,c8,c9],_=>exact⟨c0,c1,c2,c3,c4,c5,c6,c7,c8,c9,rfl⟩
 obtain⟨x0,x1,x2,x3,x4,x5,x6,x7,rfl⟩:∃x0 x1 x2 x3 x4 x5 x6 x7,xs=[x0,x1,x2,x3,x4,x5,x6,x7]:=by
  match xs,hxs with
  |[x0,x1,x2,x3,x4,x5,x6,x7],_=>exact⟨x0,x1,x2,x3,x4,x5,x6,x7,rfl⟩
 have h0:DataW.trod enc PP W 0 (λ_=>true) true n Ty.t57 [c0,c1,c2]=some x0:=hf 0 _ _ _ rfl
 obtain⟨qa,qb,qc,eq⟩:=qdS_of (trod_lv 20 lv_Qid lvCS_Qid _ _ _ h0)
 cases eq
 have h1:DataW.trod enc PP W 0 (λ_=>true) true n Ty.int [c3]=some x1:=hf 1 _ _ _ rfl
 obtain⟨n1,e1,-,w1⟩:=DataW.trod_int uuS_int h1
 cases e1
 have h2:DataW.trod enc PP W 0 (λ_=>true) true n Ty.int64 [c4]=some x2:=hf 2 _ _ _ rfl
 obtain⟨n2,e2,-,w2⟩:=DataW.trod_int uuS_int64 h2
 cases e2
 have h3:DataW.trod enc PP W 0 (λ_=>true) true n Ty.int64 [c5]=some x3:=hf 3 _ _ _ rfl
 obtain⟨n3,e3,-,w3⟩:=DataW.trod_int uuS_int64 h3
 cases e3
 have h4:DataW.trod enc PP W 0 (λ_=>true) true n Ty.t1 [c6]=some x4:=hf 4 _ _ _ rfl
 obtain⟨s4,e4,y4,-⟩:=DataW.trod_string uuS_str h4
 cases e4
 have h5:DataW.trod enc PP W 0 (λ_=>true) true n Ty.t1 [c7]=some x5:=hf 5 _ _ _ rfl
 obtain⟨s5,e5,y5,-⟩:=DataW.trod_string uuS_str h5
 cases e5
 have h6:DataW.trod enc PP W 0 (λ_=>true) true n Ty.t1 [c8]=some x6:=hf 6 _ _ _ rfl
 obtain⟨s6,e6,y6,-⟩:=DataW.trod_string uuS_str h6
 cases e6
 have h7:DataW.trod enc PP W 0 (λ_=>true) true n Ty.t1 [c9]=some x7:=hf 7 _ _ _ rfl
 obtain⟨s7,e7,y7,-⟩:=DataW.trod_string uuS_str h7
 cases e7
 refine⟨⟨qa,qb,qc,n1,n2,n3,s4,s5,s6,s7⟩,rfl,?_⟩
 rw[hx]
 rintro s (rfl|rfl|rfl|rfl)
 ·exact weights_struct dtabS_is (by decide) (i:=4) rfl rfl (weight_str y4)
 ·exact weights_struct dtabS_is (by decide) (i:=5) rfl rfl (weight_str y5)
 ·exact weights_struct dtabS_is (by decide) (i:=6) rfl rfl (weight_str y6)
 ·exact weights_struct dtabS_is (by decide) (i:=7) rfl rfl (weight_str y7)
theorem open_xa{fuel:Nat}{cs:List Value}{x:DataW H×List MemPlace}(h:DataW.trod enc PP W 0 (λ_=>true) true fuel Ty.t93 cs=some x):
  ∃a:Xa,cs=a.C∧∀s,s=a.path∨s=a.old∨s=a.data∨s=a.dir.name∨s=a.dir.owner∨s=a.dir.group∨s=a.dir.last→s.data.toList.length∈x.1.weights PP Ty.t93:=by
 obtain⟨xs,n,hx,hlen,hxs,hf⟩:=struct_parts atabS_is (by decide) h
 rw[cS_Act]at hlen
 obtain⟨c0,c1,c2,c3,c4,c5,c6,c7,c8,c9,c10,c11,c12,c13,c14,c15,c16,c17,rfl⟩:∃c0 c1 c2 c3 c4 c5 c6 c7 c8 c9 c10 c11 c12 c13 c14 c15 c16 c17,cs=[c0,c1,c2,c3,c4,c5,c6,c7,c8,c9,c10,c11,c12,c13,c14,c15,c16,c17]:=by
  match cs,hlen with
  |[c0,c1,c2,c3,c4,c5,c6,c7,c8,c9,c10,c11,c12,c13,c14,c15,c16,c17],_=>exact⟨c0,c1,c2,c3,c4,c5,c6,c7,c8,c9,c10,c11,c12,c13,c14,c15,c16,c17,rfl⟩
 obtain⟨x0,x1,x2,x3,x4,x5,x6,x7,x8,rfl⟩:∃x0 x1 x2 x3 x4 x5 x6 x7 x8,xs=[x0,x1,x2,x3,x4,x5,x6,x7,x8]:=by
  match xs,hxs with
  |[x0,x1,x2,x3,x4,x5,x6,x7,x8],_=>exact⟨x0,x1,x2,x3,x4,x5,x6,x7,x8,rfl⟩
 have h0:DataW.trod enc PP W 0 (λ_=>true) true n Ty.int [c0]=some x0:=hf 0 _ _ _ rfl
 obtain⟨n0,e0,-,w0⟩:=DataW.trod_int uuS_int h0
 cases e0
 have h1:DataW.trod enc PP W 0 (λ_=>true) true n Ty.int [c1]=some x1:=hf 1 _ _ _ rfl
 obtain⟨n1,e1,-,w1⟩:=DataW.trod_int uuS_int h1
 cases e1
 have h2:DataW.trod enc PP W 0 (λ_=>true) true n Ty.int [c2]=some x2:=hf 2 _ _ _ rfl
 obtain⟨n2,e2,-,w2⟩:=DataW.trod_int uuS_int h2
 cases e2
 have h3:DataW.trod enc PP W 0 (λ_=>true) true n Ty.t1 [c3]=some x3:=hf 3 _ _ _ rfl
 obtain⟨s3,e3,y3,-⟩:=DataW.trod_string uuS_str h3
 cases e3
 have h4:DataW.trod enc PP W 0 (λ_=>true) true n Ty.t1 [c4]=some x4:=hf 4 _ _ _ rfl
 obtain⟨s4,e4,y4,-⟩:=DataW.trod_string uuS_str h4
 cases e4
 have h5:DataW.trod enc PP W 0 (λ_=>true) true n Ty.t1 [c5]=some x5:=hf 5 _ _ _ rfl
 obtain⟨s5,e5,y5,-⟩:=DataW.trod_string uuS_str h5
 cases e5
 have h6:DataW.trod enc PP W 0 (λ_=>true) true n Ty.int [c6]=some x6:=hf 6 _ _ _ rfl
 obtain⟨n6,e6,-,w6⟩:=DataW.trod_int uuS_int h6
 cases e6
 have h7:DataW.trod enc PP W 0 (λ_=>true) true n Ty.int64 [c7]=some x7:=hf 7 _ _ _ rfl
 obtain⟨n7,e7,-,w7⟩:=DataW.trod_int uuS_int64 h7
 cases e7
 have h8:DataW.trod enc PP W 0 (λ_=>true) true n Ty.t29 [c8,c9,c10,c11,c12,c13,c14,c15,c16,c17]=some x8:=hf 8 _ _ _ rfl
 obtain⟨d,ed,hd⟩:=open_dr h8
 cases ed
 refine⟨⟨n0,n1,n2,s3,s4,s5,n6,n7,d⟩,rfl,?_⟩
 rw[hx]
 rintro s (rfl|rfl|rfl|rfl|rfl|rfl|rfl)
 ·exact weights_struct atabS_is (by decide) (i:=3) rfl rfl (weight_str y3)
 ·exact weights_struct atabS_is (by decide) (i:=4) rfl rfl (weight_str y4)
 ·exact weights_struct atabS_is (by decide) (i:=5) rfl rfl (weight_str y5)
 ·exact weights_struct atabS_is (by decide) (i:=8) rfl rfl (hd _ (.inl rfl))
 ·exact weights_struct atabS_is (by decide) (i:=8) rfl rfl (hd _ (.inr (.inl rfl)))
 ·exact weights_struct atabS_is (by decide) (i:=8) rfl rfl (hd _ (.inr (.inr (.inl rfl))))
 ·exact weights_struct atabS_is (by decide) (i:=8) rfl rfl (hd _ (.inr (.inr (.inr rfl))))
theorem xa_Ok{a:Xa}{ws:List Nat}(hw:∀s,s=a.path∨s=a.old∨s=a.data∨s=a.dir.name∨s=a.dir.owner∨s=a.dir.group∨s=a.dir.last→s.data.toList.length∈ws)(h:∀n∈ws,n≤140737488355328):a.Ok:=
 ⟨h _ (hw _ (.inl rfl)),h _ (hw _ (.inr (.inl rfl))),h _ (hw _ (.inr (.inr (.inl rfl)))),h _ (hw _ (.inr (.inr (.inr (.inl rfl))))),h _ (hw _ (.inr (.inr (.inr (.inr (.inl rfl)))))),h _ (hw _ (.inr (.inr (.inr (.inr (.inr (.inl rfl))))))),h _ (hw _ (.inr (.inr (.inr (.inr (.inr (.inr rfl)))))))⟩
set_option maxRecDepth 100000
set_option linter.unusedVariables false
set_option linter.unusedSimpArgs false
variable {H:Type} {enc:TypeId×Value→H} {W:World}
abbrev stabS:List (TypeId×Nat×Nat):=[(Ty.t1,0,1),(Ty.sl_sl_law29_Plant,1,1)]
abbrev ptabS:List (TypeId×Nat×Nat):=[(Ty.t1,0,1),(Ty.bool,1,1),(Ty.t1,2,1)]
theorem stabS_is:ftab PP Ty.t48=stabS:=by kernel_rfl
theorem ptabS_is:ftab PP Ty.t74=ptabS:=by kernel_rfl
theorem cS_Set:PP.cellsOf Ty.t48=2:=by kernel_rfl
theorem cS_Plant:PP.cellsOf Ty.t74=3:=by kernel_rfl
theorem cS_slP:PP.cellsOf Ty.t83=1:=by kernel_rfl
theorem uS_slP:PP.underlying Ty.t83=some (.slice Ty.t74):=by kernel_rfl
theorem uS_slslP:PP.underlying Ty.sl_sl_law29_Plant=some (.slice Ty.t83):=by kernel_rfl
theorem uS_slA:PP.underlying Ty.sl_law29_Act=some (.slice Ty.t93):=by kernel_rfl
theorem uuS_bool:PP.underlying Ty.bool=some .bool:=by kernel_rfl
theorem open_pn{fuel:Nat}{cs:List Value}{x:DataW H×List MemPlace}(h:DataW.trod enc PP W 0 (λ_=>true) true fuel Ty.t74 cs=some x):
  ∃p:Pn,cs=p.cs∧p.path.data.toList.length∈x.1.weights PP Ty.t74∧p.data.data.toList.length∈x.1.weights PP Ty.t74:=by
 obtain⟨xs,n,hx,hlen,hxs,hf⟩:=struct_parts ptabS_is (by decide) h
 rw[cS_Plant]at hlen
 obtain⟨c0,c1,c2,rfl⟩:∃c0 c1 c2,cs=[c0,c1,c2]:=by
  match cs,hlen with
  |[c0,c1,c2],_=>exact⟨c0,c1,c2,rfl⟩
 obtain⟨x0,x1,x2,rfl⟩:∃x0 x1 x2,xs=[x0,x1,x2]:=by
  match xs,hxs with
  |[x0,x1,x2],_=>exact⟨x0,x1,x2,rfl⟩
 have h0:DataW.trod enc PP W 0 (λ_=>true) true n Ty.t1 [c0]=some x0:=hf 0 _ _ _ rfl
 obtain⟨s0,e0,y0,-⟩:=DataW.trod_string uuS_str h0
 cases e0
 have h1:DataW.trod enc PP W 0 (λ_=>true) true n Ty.bool [c1]=some x1:=hf 1 _ _ _ rfl
 obtain⟨b1,e1,-⟩:=DataW.trod_bool uuS_bool h1
 cases e1
 have h2:DataW.trod enc PP W 0 (λ_=>true) true n Ty.t1 [c2]=some x2:=hf 2 _ _ _ rfl
 obtain⟨s2,e2,y2,-⟩:=DataW.trod_string uuS_str h2
 cases e2
 refine⟨⟨s0,b1,s2⟩,rfl,?_,?_⟩
 ·rw[hx];exact weights_struct ptabS_is (by decide) (i:=0) rfl rfl (weight_str y0)
 ·rw[hx];exact weights_struct ptabS_is (by decide) (i:=2) rfl rfl (weight_str y2)
theorem open_setS {fuel : Nat} {cs : List Value} {x : DataW H × List MemPlace} (h : DataW.trod enc PP W 0 (fun _=>true) true fuel Ty.t48 cs = some x) :
  ∃ user pv vs pls,cs = [str user,pv]∧(∀ l,PlsIn W Emp l pv vs pls)∧∀ ps∈pls,∀ p : Pn,p∈ps→p.path.data.toList.length∈x.1.weights PP Ty.t48∧p.data.data.toList.length∈x.1.weights PP Ty.t48:=by
 obtain ⟨xs,n,hx,hlen,hxs,hf⟩:=struct_parts stabS_is (by decide) h
 rw [cS_Set] at hlen
 obtain ⟨c0,c1,rfl⟩ : ∃ c0 c1,cs = [c0,c1]:=by
  match cs,hlen with
  | [c0,c1],_=>exact ⟨c0,c1,rfl⟩
 obtain ⟨x0,x1,rfl⟩ : ∃ x0 x1,xs = [x0,x1]:=by
  match xs,hxs with
  | [x0,x1],_=>exact ⟨x0,x1,rfl⟩
 have h0 : DataW.trod enc PP W 0 (fun _=>true) true n Ty.t1 [c0] = some x0:=hf 0 _ _ _ rfl
 obtain ⟨s0,e0,y0,-⟩:=DataW.trod_string uuS_str h0
 cases e0
 have h1 : DataW.trod enc PP W 0 (fun _=>true) true n Ty.sl_sl_law29_Plant [c1] = some x1:=hf 1 _ _ _ rfl
 obtain ⟨ds,hD,hQ⟩:=rows_open (α:=Value × List Pn) (f:=fun a=>[a.1]) (Q:=fun a y=>RdlA W a.1 3 a.2.length (ncs a.2)∧∀ p : Pn,p∈a.2→p.path.data.toList.length∈y.weights PP Ty.t83∧p.data.data.toList.length∈y.weights PP Ty.t83) uS_slslP cS_slP (by decide) (fun _=>rfl) (fun fuel cs x hs=>by
  obtain ⟨c,rfl⟩ : ∃ c,cs = [c]:=by
   rcases DataW.trod_slice uS_slP hs with ⟨hcs,-⟩ | ⟨a,len,cap,elems,rest,n,-,hcs,-⟩
   ·exact ⟨_,hcs⟩
   ·exact ⟨_,hcs⟩
  obtain ⟨ps,hP,hp⟩:=rows_open (α:=Pn) (f:=Pn.cs) (Q:=fun p y=>p.path.data.toList.length∈y.weights PP Ty.t74∧p.data.data.toList.length∈y.weights PP Ty.t74) uS_slP cS_Plant (by decide) (fun _=>rfl) (fun fuel cs x h=>open_pn h) hs
  refine ⟨(c,ps),rfl,hP,fun p hp2=>?_⟩
  obtain ⟨y,⟨q1,q2⟩,q3⟩:=hp p hp2
  exact ⟨q3 _ q1,q3 _ q2⟩) h1
 refine ⟨s0,c1,ds.map (·.1),ds.map (·.2),rfl,fun l=>⟨?_,fun i v ps g1 g2=>?_⟩,fun ps hps p hp=>?_⟩
 ·have:=RdS.oldA (l:=l) hD (fun b h=>h)
  rw [show ds.flatMap (fun a=>[a.1]) = ds.map (·.1) from (List.map_eq_flatMap).symm] at this
  rw [List.length_map]
  exact this
 ·rw [List.getElem?_map] at g1 g2
  obtain ⟨a,ha,rfl⟩:=Option.map_eq_some_iff.1 g1
  rw [ha] at g2
  cases g2
  obtain ⟨y,⟨q1,-⟩,-⟩:=hQ a (List.mem_of_getElem? ha)
  exact RdS.oldA q1 fun b h=>h
 ·obtain ⟨a,ha,rfl⟩:=List.mem_map.1 hps
  obtain ⟨y,⟨-,q2⟩,q3⟩:=hQ a ha
  obtain ⟨r1,r2⟩:=q2 p hp
  rw [hx]
  exact ⟨weights_struct stabS_is (by decide) (i:=1) rfl rfl (q3 _ r1),weights_struct stabS_is (by decide) (i:=1) rfl rfl (q3 _ r2)⟩
theorem open_xas{v:Value}{d:DataW H}{ps:List MemPlace}(hs:∃a n c,v=.slice a n c)(h:DataW.Trod enc PP W 0 (λ_=>true) true Ty.sl_law29_Act v d ps)(hw:∀n∈d.weights PP Ty.sl_law29_Act,n≤140737488355328):
  ∃xs:List Xa,(∀l,RdS W Emp l 18 xs.length v (xcs xs))∧∀x∈xs,x.Ok:=by
 obtain⟨a,n,c,rfl⟩:=hs
 obtain⟨fuel,h⟩:=h
 obtain⟨ds,hD,hQ⟩:=rows_open (α:=Xa) (f:=Xa.C) (Q:=λa y=>∀s,s=a.path∨s=a.old∨s=a.data∨s=a.dir.name∨s=a.dir.owner∨s=a.dir.group∨s=a.dir.last→s.data.toList.length∈y.weights PP Ty.t93) uS_slA cS_Act (by decide) (λ_=>rfl) (λfuel cs x h=>open_xa h) h
 refine⟨ds,λl=>RdS.oldA hD λb h=>h,λx hx=>?_⟩
 obtain⟨y,q1,q2⟩:=hQ x hx
 exact xa_Ok q1 λn hn=>hw n (q2 n hn)
end Go.Proofs.YtjffgllkfbcaeaaGreatDoor