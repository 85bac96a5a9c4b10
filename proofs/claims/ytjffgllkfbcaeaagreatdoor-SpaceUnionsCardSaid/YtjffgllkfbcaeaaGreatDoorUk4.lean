/-
 SpaceUnions: the law.
-/
import Derived.Test.YtjffgllkfbcaeaaGreatDoorUu5
import Derived.Test.YtjffgllkfbcaeaaGreatDoorSh28
import Derived.Test.YtjffgllkfbcaeaaGreatDoorUf3
namespace Go.Proofs.YtjffgllkfbcaeaaGreatDoor
open Go Go.Sh
set_option maxRecDepth 100000
set_option linter.unusedVariables false
set_option linter.unusedSimpArgs false
variable {w0 w:World} {F:Nat→Prop} {l r1 r2 r3:List As}
variable {R:List RowS} {D:List Row} {Xs:List PT} {tA:List Nat} {M:TbM} {K:SpM} {N:Int} {y:Sy}
abbrev annU:BA:=⟨#[97,110,110]⟩
abbrev trsV(tA:List Nat)(ts:List Nat):List Value:=ts.map λk=>ptr (adW tA k)
theorem dirs_len{T:Tr}(hi:Inv T)(f:Int):(dirsOf T f).length≤1024:=by
 unfold dirsOf
 split
 ·exact Nat.zero_le _
 ·rw[List.length_map];exact kidsS_len hi _
theorem Unions_law{user path:BA}{pv xv:Value}{vs:List Value}{pls:List (List Pn)}{xs:List Xa}(hp:∀l,PlsIn w0 F l pv vs pls)(hs:∀ps∈pls,∀p∈ps,p.path.size≤140737488355328∧p.data.size≤140737488355328)
  (hx:∀x∈xs,x.Ok)(hv:∀l,RdS w0 F l 18 xs.length xv (xcs xs))(E:Hs w0 F w l):
  Ca PP Fn.f115 #[.agg #[str user,pv],xv,str path] w λr w'=>r=.bool true∧∃l',Hs w0 F w' l':=by
 refine S.f115.calls ?_
 unfold S.f115
 have ipv:Scal pv:=RdS_scal (hp []).v
 refine StpA.go E ?_
 clear E
 intro t3 w_ h1_ E
 refine(awake_okS E).mono ?_
 clear E
 rintro r w_ ⟨rfl,E⟩
 repeat with_reducible first|refine Stp.go ?_|(refine StpW.go E ?_;clear E;intro w_ E)
 intro J8 hJ8
 have out:∀w_,(∃l',Hs w0 F w_ l')→J8 [.bool true] w_:=by
  intro w_ hE
  exact hJ8 _ w_ λu=>Cnd.t ⟨rfl,hE⟩
 have go8:∀w_,fewS annU pls=true→fewX xs=true→path.size≤300→path≠emp→Hs w0 F w_ (pt t3 (oc [str annU,pv] Ty.t49)::l)→J8 [.bool false] w_:=by
  clear E
  intro w_ hf hf2 hp300 hpne E
  refine hJ8 _ w_ λu=>Cnd.f ?_
  clear hJ8 out
  obtain⟨f1,f2,f3,f4,f5⟩:=fewS_of hf
  obtain⟨f6,f7⟩:=fewX_one hf2
  repeat with_reducible refine StpE.go E ?_
  refine(made_okM (user:=annU) (D:=[]) (hp _) f3 f1 f2 f4 f5 (Hs.starNil E)).mono ?_
  clear E
  rintro r w_ ⟨a,R,D,Xs,tA,M,K,tv,rfl,htA,h,E⟩
  refine Eq.ef u_p_World rfl ?_
  refine Cnd.f ?_
  replace E:=Hs.spl2 (E.bIx 1)
  have h4A:tA.length≤4:=by omega
  have hts0:(madeY annU pls).tb.ts=[0]:=rfl
  have hus0:(madeY annU pls).sp.user=annU:=rfl
  generalize hY:madeY annU pls=y0 at*
  generalize hL0:(pt t3 (oc [str annU,pv] Ty.t49)::l)=l0 at*
  have itv:Scal tv:=⟨Hs.slScal E FSl.mem⟩
  repeat with_reducible first|refine Stp.go ?_|refine StpE.go E ?_
  have gtv:∀{l2 w1},slA tv Ty.t1 1 (tA.map ptr)∈l2→Hs w0 F w1 l2→RdS w0 F l2 1 tA.length tv (tA.map ptr):=λhm E=>by
   have:=RdS.sl hm (by omega) E
   rwa [Nat.div_one,List.length_map]at this
  have hA0:0<tA.length:=by rw[htA];exact List.length_pos_iff.2 f1
  refine(gtv (by simp) E).ix (i:=0) (by omega) hA0 (by omega) ?_
  intro b0 hb0
  refine hb0.ld E (x:=ptr (adW tA 0)) (by
   unfold adW
   rw[List.getD_eq_getElem?_getD,List.getElem?_eq_getElem hA0,List.getElem?_drop,List.getElem?_map]
   show Option.map ptr (tA[0]?)=_
   rw[List.getElem?_eq_getElem hA0];rfl) ?_
  refine BdS.one E u_sl_p_Tree e_p_Tree rfl ?_
  clear E hb0
  intro t8 w_ E
  refine(hv []).len ?_
  (replace E:=(((((((((((E.bIx 0).bIx 10).bIx 10).bIx 10).bIx 10).bIx 10).bIx 10).bIx 10).bIx 10).bIx 10).bIx 10))
  refine⟨λl1 w1=>∃(i:Nat) (R:List RowS) (D:List Row) (Xs:List PT) (M:TbM) (K:SpM) (y:Sy) (t8:Value),l1=[t8,i64 i]∧i≤xs.length∧Fit R D Xs tA M K (200+100*i) y∧y.sp.user=annU∧Hs w0 F w1 (SPl R D Xs tA M K y (slA tv Ty.t1 1 (tA.map ptr)::pt a (wrO (ptr K.a) tv)::slA t8 Ty.t1 1 (trsV tA y.tb.ts)::l0)),λl1 _=>match l1 with|[_,.int _ i]=>xs.length-i.toNat|_=>0,
   ⟨0,R,D,Xs,M,K,y0,t8,rfl,Nat.zero_le _,h.mono (by omega),hus0,by rw[hts0];exact E⟩,?_⟩
  clear E h hY hts0 hus0 M K R D Xs htA t8 y0
  rintro t8 t68 u1 w1 ⟨i,R,D,Xs,M,K,y,t8',e,hi,h,hus,E⟩
  cases e
  refine Bi.lss ?_ ?_<;>intro hlt
  ·refine Cnd.t ?_
   have hi1:i<xs.length:=by omega
   intro J31 hJ31
   have fin31:∀R D Xs M K' y' t8 w_,K'.a=K.a→Fit R D Xs tA M K' (200+100*i+100) y'→y'.sp.user=annU→Hs w0 F w_ (SPl R D Xs tA M K' y' (slA tv Ty.t1 1 (tA.map ptr)::pt a (wrO (ptr K'.a) tv)::slA t8 Ty.t1 1 (trsV tA y'.tb.ts)::l0))→J31 [t8] w_:=by
    intro R D Xs M K' y' t8 w_ hk h hu E
    refine hJ31 _ _ λu=>?_
    refine Bi.add (by omega) ?_
    exact⟨⟨i+1,R,D,Xs,M,K',y',t8,by simp,by omega,h.mono (by omega),hu,E⟩,by simp only[];omega⟩
   clear hJ31
   refine(hv []).ix (by omega) (by omega) (by omega) ?_
   intro b hb
   rw[xcs_at hi1]at hb
   have hx7:=f7 _ (List.getElem_mem hi1)
   refine(hb.weaken λ_ E=>E.drop (List.nil_sublist _)).lda E (m:=18) (ds:=xs[i].C) rfl rfl (by omega) ?_
   generalize xs[i]=x at*
   repeat with_reducible (refine StpA.go E ?_;clear E;intro b_ w_ hb_ E)
   (revert b_;intro q hbq E)
   (first|(refine StA.all E rfl rfl (by first|exact rfl|assumption) ?_;clear E;intro w_ E)|try (refine StA.by E rfl (by first|exact rfl|assumption) ?_;clear E;intro w_ E))
   repeat with_reducible first|refine Stp.go ?_|refine StpE.go E ?_|(refine StpW.go E ?_;clear E;intro w_ E)
   have hac:=act_trees y x
   have hdo:∀(l2:List As) w_,Hs w0 F w_ (SPl R D Xs tA M K y (slA tv Ty.t1 1 (tA.map ptr)::l2))→_:=λl2 w_ E=>DoS_okM (x:=x) (tv:=tv) h (by omega) (by omega) hx7 h.ta h4A E
   have hTl:tA.length=y.Ts.length:=h.ta
   generalize y.act x=Z at*
   refine And.intro ?left (And.intro ?right trivial)
   case' left=>
    (replace E:=((((((((((E.bIx 0).bIx 9).bIx 9).bIx 9).bIx 9).bIx 9).bIx 9).bIx 9).bIx 9).bIx 9))
    refine(hdo _ _ E).mono ?_
    clear E
    rintro r w_ ⟨dv,pv2,rfl,R2,D2,Xs2,M2,K2,g1,g2,g3,hR2,h2,E⟩
    have idv:Scal dv:=⟨Hs.slScal E FSl.mem⟩
    have ipv2:Scal pv2:=⟨Hs.slScal E FSl.mem⟩
    repeat with_reducible (refine StpA.go E ?_;clear E;intro b_ w_ hb_ E)
    (revert b_;intro z hbz E)
    (repeat(with_reducible refine And.intro ?_ ?_;focus ((repeat with_reducible refine StpE.go E ?_);exact rfl)))
    repeat with_reducible (refine StpW.go E ?_;clear E;intro w_ E)
    (first|(refine StA.all E rfl rfl (by first|exact rfl|assumption) ?_;clear E;intro w_ E)|try (refine StA.by E rfl (by first|exact rfl|assumption) ?_;clear E;intro w_ E))
   case' right=>
    repeat with_reducible (refine StpA.go E ?_;clear E;intro b_ w_ hb_ E)
    (revert b_;intro z hbz E)
    (repeat(with_reducible refine And.intro ?_ ?_;focus ((repeat with_reducible refine StpE.go E ?_);exact rfl)))
    (replace E:=(((((((((((E.bIx 1).bIx 1).bIx 10).bIx 10).bIx 10).bIx 10).bIx 10).bIx 10).bIx 10).bIx 10).bIx 10))
    refine(hdo _ _ E).mono ?_
    clear E
    rintro r w_ ⟨dv,pv2,rfl,R2,D2,Xs2,M2,K2,g1,g2,g3,hR2,h2,E⟩
    have idv:Scal dv:=⟨Hs.slScal E FSl.mem⟩
    have ipv2:Scal pv2:=⟨Hs.slScal E FSl.mem⟩
    repeat with_reducible (refine StpW.go E ?_;clear E;intro w_ E)
    (first|(refine StA.all E rfl rfl (by first|exact rfl|assumption) ?_;clear E;intro w_ E)|try (refine StA.by E rfl (by first|exact rfl|assumption) ?_;clear E;intro w_ E))
    (replace E:=((((((((((((E.bIx 10).bIx 10).bIx 10).bIx 10).bIx 10).bIx 10).bIx 10).bIx 10).bIx 10).bIx 10).bIx 10).bIx 11))
   all_goals
    replace E:=((E.bIx 10).tl.bIx 10).tl
    rw[← g2]at E
    clear hdo g1 g3
    intro J57 hJ57
    have go57:∀b:Bool,b=decide (x.kind=1∧Z.2.errno=0)→J57 [.bool b] w_:=by
     intro b hb
     cases b with
     |false=>
      refine hJ57 _ _ λu=>Cnd.f ?_
      have hne:¬(x.kind=1∧Z.2.errno=0):=of_decide_eq_false hb.symm
      rw[← hac.2.2 hne]at E
      exact fin31 _ _ _ _ K2 Z.1 t8 _ g2 h2 (hac.1.trans hus) (E.tl.bIx 9).tl
     |true=>
      refine hJ57 _ _ λu=>Cnd.t ?_
      obtain⟨j,hj1,hj2⟩:=hac.2.1 (of_decide_eq_true hb.symm)
      have hj3:x.number=(j:Int)∧j<y.Ts.length:=by
       unfold Xa.tree at hj1
       split at hj1
       ·rename_i hr
        cases hj1
        omega
       ·cases hj1
      obtain⟨hj3,hj4⟩:=hj3
      repeat with_reducible first|refine Stp.go ?_|refine StpE.go E ?_|(refine StpW.go E ?_;clear E;intro w_ E)
      rw[hj3]
      have hjA:j<tA.length:=by omega
      refine(gtv (by simp) E).ix (i:=j) (by omega) hjA (by omega) ?_
      intro b2 hb2
      rw[Int.toNat_natCast,Nat.mul_one]at hb2
      skip
      refine hb2.ld E (x:=ptr (adW tA j)) (by
       unfold adW
       rw[List.getD_eq_getElem?_getD,List.getElem?_eq_getElem hjA,List.getElem?_drop,List.getElem?_map,Nat.add_zero,List.getElem?_eq_getElem hjA];rfl) ?_
      refine BdS.one E u_sl_p_Tree e_p_Tree rfl ?_
      clear E hb2
      intro s1 w_ E
      refine Ap.one E (i:=13) rfl u_sl_p_Tree ⟨_,u_sl_p_Tree,λ_ h=>by cases h⟩ e_p_Tree (Src.slice (E.sat _ List.mem_cons_self) (n:=1) rfl (by omega) rfl) rfl (by rw[List.length_map];have:=h.inv.tb.ts;omega) (by rw[List.length_map];have:=h.inv.tb.ts;omega) ?_
      clear E
      intro t8' w_ E
      simp only[List.set_cons_zero,List.set_cons_succ]at E
      rw[show trsV tA y.tb.ts++[ptr (adW tA j)]=trsV tA Z.1.tb.ts by rw[hj2,trsV,trsV,List.map_append];rfl]at E
      exact fin31 _ _ _ _ K2 Z.1 t8' _ g2 h2 (hac.1.trans hus) (E.tl.tl.bIx 9).tl
    clear hJ57
    repeat with_reducible first|refine Stp.go ?_|refine StpE.go E ?_
    refine Bi.eql ?_ ?_<;>intro hk1<;>(repeat with_reducible first|refine Stp.go ?_|refine StpE.go E ?_)
    ·refine Bi.eql ?_ ?_<;>intro hk2<;>(repeat with_reducible refine Stp.go ?_)
     ·exact go57 _ (decide_eq_true ⟨hk1,hk2⟩).symm
     ·exact go57 _ (decide_eq_false λh=>hk2 h.2).symm
    ·exact go57 _ (decide_eq_false λh=>hk1 h.1).symm
  ·refine Cnd.f ?_
   have hN1:(200+100*(i:Int))≤4200:=by omega
   replace h:Fit R D Xs tA M K 4200 y:=h.mono hN1
   clear hN1 hlt hi
   repeat with_reducible first|refine Stp.go ?_|refine StpE.go E ?_
   refine(where_okM (path:=path) (by omega) h.ctx0 E).mono ?_
   clear E
   rintro r w_ ⟨v1,rfl,E⟩
   have iv1:Scal v1:=⟨Hs.slScal E FSl.mem⟩
   have hwo:=where_ok h.inv path
   have hne0:(y.where_ path).2≠0→(y.where_ path).1=[]:=by
    unfold Sy.where_
    split
    ·intro _;rfl
    ·intro h;exact absurd rfl h
   have hun:(y.where_ path).2=0→(y.openF path 0).2.2=0→((y.openF path 0).1.list (y.openF path 0).2.1).2=0→_:=λa b c=>union_open h.inv a b c
   have hok:=open_keep (y:=y) path 0
   have hrd0:∀{l2 w1},slA v1 Ty.t0 2 (pcs (y.where_ path).1)∈l2→Hs w0 F w1 l2→RdS w0 F l2 2 (y.where_ path).1.length v1 (pcs (y.where_ path).1):=λhm E=>by
    have:=RdS.sl hm (by omega) E
    rwa [pcs_len,Nat.mul_div_cancel _ (by omega)]at this
   repeat with_reducible refine Stp.go ?_
   refine Bi.neq ?_ ?_<;>intro hw
   ·refine Cnd.t ?_
    refine(hrd0 List.mem_cons_self E).len ?_
    rw[hne0 hw]
    refine Bi.eql (λ_=>⟨rfl,_,E⟩) (λh=>absurd rfl h)
   refine Cnd.f ?_
   replace E:=Hs.spl E
   repeat with_reducible first|refine Stp.go ?_|refine StpE.go E ?_
   refine(Open_okM h (by omega) (by omega) E).mono ?_
   clear E
   rintro r w_ ⟨rfl,R1,D1,Xs1,M1,K1,g1,g2,g3,hR1,h1,E⟩
   rw[← g2]at E
   repeat with_reducible refine Stp.go ?_
   refine Bi.neq ?_ ?_<;>intro ho
   ·refine Cnd.t ?_
    exact⟨rfl,_,E⟩
   refine Cnd.f ?_
   repeat with_reducible first|refine Stp.go ?_|refine StpE.go E ?_
   refine(List_okM h1 E).mono ?_
   clear E
   rintro r w_ ⟨v2,rfl,E⟩
   have iv2:Scal v2:=⟨Hs.slScal E FSl.mem⟩
   repeat with_reducible refine Stp.go ?_
   refine Bi.neq ?_ ?_<;>intro hl
   ·refine Cnd.t ?_
    exact⟨rfl,_,E⟩
   refine Cnd.f ?_
   obtain⟨hal,hdir,hgot⟩:=hun hw ho hl
   rw[hgot]at E
   obtain⟨ok1,ok2,ok3⟩:=hok
   have hlen:∀L:List Pl,(∀p∈L,p.t<y.tb.ts.length)→(L.flatMap λp=>dirsOf (y.tr p.t) p.f).length≤1024*L.length:=by
    intro L
    induction L with
    |nil=>intro _;exact Nat.zero_le _
    |cons p r ih=>
     intro hL
     rw[List.flatMap_cons,List.length_append,List.length_cons]
     have i1:=ih λq hq=>hL q (List.mem_cons_of_mem _ hq)
     have i2:=dirs_len (h.inv.t _ (trW_mem (h.inv.tb.ixLt (hL p List.mem_cons_self)))).1 p.f
     have i3:(dirsOf (y.tr p.t) p.f).length≤1024:=i2
     omega
   generalize (y.openF path 0).1=y1 at*
   clear hgot hl ho hne0 hun g1 g3 hR1
   generalize hps:(y.where_ path).1=ps at*
   refine(hrd0 (by simp) E).len ?_
   replace E:Hs w0 F w_ (SPl R1 D1 Xs1 tA M1 K1 y1 (slA v1 Ty.t0 2 (pcs ps)::slA tv Ty.t1 1 (tA.map ptr)::pt a (wrO (ptr K1.a) tv)::slA t8 Ty.t1 1 (trsV tA y.tb.ts)::slA v2 Ty.t9 10 (dcs ((ps.flatMap λp=>dirsOf (y.tr p.t) p.f).foldl addD []))::slA (.slice none 0 0) Ty.t9 10 (dcs [])::l0)):=by
    replace E:=Hs.nilSl E Ty.t9 10
    (replace E:=((((((((((((((E.bIx 0).bIx 1).bIx 13).bIx 13).bIx 13).bIx 13).bIx 13).bIx 13).bIx 13).bIx 13).bIx 13).bIx 13).bIx 13).bIx 13))
    exact E
   generalize hv2:slA v2 Ty.t9 10 (dcs ((ps.flatMap λp=>dirsOf (y.tr p.t) p.f).foldl addD []))=A2 at*
   refine⟨λl1 w1=>∃(j:Nat) (wv:Value) (R:List RowS) (D:List Row) (Xs:List PT) (yc:Sy),l1=[wv,i64 j]∧j≤ps.length∧Fit R D Xs tA M1 K1 (4300+100*j) yc∧Alike y.Ts yc.Ts∧yc.tb=y.tb∧yc.sp.dir=y.sp.dir∧yc.sp.user=y.sp.user∧
     Hs w0 F w1 (SPl R D Xs tA M1 K1 yc (slA v1 Ty.t0 2 (pcs ps)::slA tv Ty.t1 1 (tA.map ptr)::pt a (wrO (ptr K1.a) tv)::slA t8 Ty.t1 1 (trsV tA y.tb.ts)::A2::slA wv Ty.t9 10 (dcs (((ps.take j).flatMap λp=>dirsOf (y.tr p.t) p.f).foldl addD []))::l0)),λl1 _=>match l1 with|[_,.int _ j]=>ps.length-j.toNat|_=>0,
    ⟨0,.slice none 0 0,R1,D1,Xs1,y1,rfl,Nat.zero_le _,h1.mono (by omega),hal,ok1,ok2,ok3,E⟩,?_⟩
   clear E h1 hal ok1 ok2 ok3 y1
   rintro t16 t140 u2 w2 ⟨j,wv,R,D,Xs,⟨Tc,tbc,spc⟩,e,hj,hc,hal,c1,c2,c3,E⟩
   cases e
   dsimp only at c1 c2 c3 hal
   subst c1
   refine Bi.lss ?_ ?_<;>intro hlt
   ·refine Cnd.t ?_
    have hj1:j<ps.length:=by omega
    refine(hrd0 (by simp) E).ix (by omega) (by omega) (by omega) ?_
    intro b hb
    rw[Int.toNat_natCast,pcs_drop,List.drop_eq_getElem_cons hj1]at hb
    refine hb.lda E (m:=2) (ds:=ps[j].cs) rfl rfl (by omega) ?_
    have hpt:=hwo.2.1 _ (List.getElem_mem hj1)
    have htk:ps.take (j+1)=ps.take j++[ps[j]]:=by rw[List.take_add_one,List.getElem?_eq_getElem hj1];rfl
    have hsp:ps=ps.take j++ps[j]::ps.drop (j+1):=by rw[← List.drop_eq_getElem_cons hj1,List.take_append_drop]
    have hdp:=hdir _ (List.getElem_mem hj1)
    clear hb
    generalize ps[j]=p at*
    repeat with_reducible first|refine Stp.go ?_|refine StpE.go E ?_|(refine StpW.go E ?_;clear E;intro w_ E)|(refine StpA.go E ?_;clear E;intro b_ w_ hb_ E)
    (revert b_;intro qp hbqp E)
    (first|(refine StA.all E rfl rfl (by first|exact rfl|assumption) ?_;clear E;intro w_ E)|try (refine StA.by E rfl (by first|exact rfl|assumption) ?_;clear E;intro w_ E))
    skip
    have hg8:=RdS.sl (v:=t8) (T:=Ty.t1) (sz:=1) (xs:=trsV tA y.tb.ts) (l:=[slA t8 Ty.t1 1 (trsV tA y.tb.ts)]) (by simp) (by omega) (E.drop (List.singleton_sublist.2 (by simp)))
    rw[Nat.div_one,List.length_map]at hg8
    refine hg8.ix (by omega) (by omega) (by omega) ?_
    intro b8 hb8
    have hx8:((trsV tA y.tb.ts).drop (((p.t:Int)).toNat*1))[0]? =some (ptr (adW tA (y.tb.ix p.t))):=by
     rw[Int.toNat_natCast,Nat.mul_one,List.getElem?_drop,Nat.add_zero,List.getElem?_map,List.getElem?_eq_getElem hpt]
     unfold Tb.ix
     rw[List.getD_eq_getElem?_getD,List.getElem?_eq_getElem hpt]
     rfl
    refine(hb8.weaken λ_ E=>E.drop (List.singleton_sublist.2 (by simp))).ld E hx8 ?_
    repeat with_reducible first|refine Stp.go ?_|refine StpE.go E ?_
    have ld8:∀{l2 w1} {k:Value→Prop},slA t8 Ty.t1 1 (trsV tA y.tb.ts)∈l2→Hs w0 F w1 l2→k (ptr (adW tA (y.tb.ix p.t)))→Ld (.pointer (some b8)) w1 k:=λhm E hk=>(hb8.weaken λ_ E=>E.drop (List.singleton_sublist.2 hm)).ld E hx8 hk
    have hk:y.tb.ix p.t<Tc.length:=hc.inv.tb.ixLt hpt
    have hTi:Inv (trW Tc (y.tb.ix p.t)):=(hc.inv.t _ (trW_mem hk)).1
    have ho0:=open0 (trW Tc (y.tb.ix p.t)) annU p.f
    have hhn:=hold_new hTi ⟨p.f,0,annU⟩
    have hop:∀(l2:List As) w_,Hs w0 F w_ (SPl R D Xs tA M1 K1 ⟨Tc,y.tb,spc⟩ l2)→_:=λl2 w_ E=>openT_okM (t:=p.t) (u:=annU) (f:=p.f) hc hpt (by omega) E
    have hotr:(Sy.tr ⟨Tc,y.tb,spc⟩ p.t).openF annU p.f 0=(trW Tc (y.tb.ix p.t)).openF annU p.f 0:=rfl
    simp only[hotr]at hop
    generalize hO:(trW Tc (y.tb.ix p.t)).openF annU p.f 0=O at*
    obtain⟨oT,oh,oq,oe⟩:=O
    dsimp only at ho0 hop
    have hal2:Alike y.Ts (Tc.set (y.tb.ix p.t) oT):=hal.trans (Alike.put hk ho0.1)
    have hHL:oe=0→(trW (Tc.set (y.tb.ix p.t) oT) (y.tb.ix p.t)).list oh=(dirsOf (y.tr p.t) p.f,0):=by
     intro he
     obtain⟨o1,o2⟩:=ho0.2 he
     have hop2:(trW (Tc.set (y.tb.ix p.t) oT) (y.tb.ix p.t)).opened oh=some ⟨p.f,0,annU⟩:=by
      rw[trW_put _ _ _ _ hk,if_pos rfl,o1,o2]
      exact hhn.1
     rw[list_to hop2 (hal2.dirOk hdp)]
     rw[← hal2.dirs]
     rfl
    clear hhn ho0 hotr hO
    refine And.intro ?lefo (And.intro ?righo trivial)
    case' lefo=>
     replace E:=Hs.spl E
     refine(hop _ _ E).mono ?_
     clear E
     rintro r w_ ⟨rfl,D2,Xs2,h2,E⟩
     repeat with_reducible first|refine Stp.go ?_|(refine StpA.go E ?_;clear E;intro b_ w_ hb_ E)
     (revert b_;intro z hbz E)
     (repeat(with_reducible refine And.intro ?_ ?_;focus ((repeat with_reducible refine StpE.go E ?_);exact rfl)))
     refine And.intro (ld8 (by simp) E rfl) ?_
     (repeat(with_reducible refine And.intro ?_ ?_;focus ((repeat with_reducible refine StpE.go E ?_);exact rfl)))
     repeat with_reducible (refine StpW.go E ?_;clear E;intro w_ E)
     replace E:=Hs.spl E
    case' righo=>
     repeat with_reducible (refine StpA.go E ?_;clear E;intro b_ w_ hb_ E)
     (revert b_;intro z hbz E)
     (repeat(with_reducible refine And.intro ?_ ?_;focus ((repeat with_reducible refine StpE.go E ?_);exact rfl)))
     refine And.intro (ld8 (by simp) E rfl) ?_
     (repeat(with_reducible refine And.intro ?_ ?_;focus ((repeat with_reducible refine StpE.go E ?_);exact rfl)))
     skip
     replace E:=Hs.spl2 E
     refine(hop _ _ E).mono ?_
     clear E
     rintro r w_ ⟨rfl,D2,Xs2,h2,E⟩
     repeat with_reducible first|refine Stp.go ?_|(refine StpW.go E ?_;clear E;intro w_ E)
    all_goals
     clear hop
     refine Bi.neq ?_ ?_<;>intro hoe
     ·refine Cnd.t ?_
      exact⟨rfl,_,E⟩
     refine Cnd.f ?_
     repeat with_reducible first|refine Stp.go ?_|refine StpE.go E ?_
     refine hg8.ix (by omega) (by omega) (by omega) ?_
     intro b9 hb9
     skip
     refine(hb9.weaken λ_ E=>E.drop (List.singleton_sublist.2 (by simp))).ld E hx8 ?_
     skip
     refine(Wo.list (hd:=oh) h2.wo h2.inv.t (h2.inv.tb.ixLt hpt) E).mono ?_
     clear E hb9
     rintro r w_ ⟨v3,rfl,E⟩
     simp only[hHL hoe]at E ⊢
     have iv3:Scal v3:=⟨Hs.slScal E FSl.mem⟩
     repeat first|(with_reducible first|refine Stp.go ?_)|((with_reducible refine Bi.dec false ?_ ?_);focus exact rfl)
     have hdl:=dirs_len (h.inv.t _ (trW_mem (h.inv.tb.ixLt hpt))).1 p.f
     have hWl:(((ps.take j).flatMap λp=>dirsOf (y.tr p.t) p.f).foldl addD []).length≤1024*16:=by
      have i1:=hlen (ps.take j) λq hq=>hwo.2.1 q (List.mem_of_mem_take hq)
      have i2:=addsD_len ((ps.take j).flatMap λp=>dirsOf (y.tr p.t) p.f) []
      have i3:=hwo.1
      rw[List.length_take]at i1
      rw[List.length_nil]at i2
      omega
     have hnot:∀q∈ps.take j,∀d∈dirsOf (y.tr q.t) q.f,∃x∈((ps.take j).flatMap λp=>dirsOf (y.tr p.t) p.f).foldl addD [],x.name=d.name:=λq hq d hd=>(addsD_has _ _).1 d (List.mem_flatMap.2 ⟨q,hq,hd⟩)
     have hW2:((ps.take (j+1)).flatMap λp=>dirsOf (y.tr p.t) p.f).foldl addD []=(dirsOf (y.tr p.t) p.f).foldl addD (((ps.take j).flatMap λp=>dirsOf (y.tr p.t) p.f).foldl addD []):=by
      rw[htk,List.flatMap_append,List.foldl_append]
      simp
     generalize hW:((ps.take j).flatMap λp=>dirsOf (y.tr p.t) p.f).foldl addD []=W at*
     have hdsE:dirsOf (trW y.Ts (y.tb.ix p.t)) p.f=dirsOf (y.tr p.t) p.f:=rfl
     rw[hdsE]at hdl
     have hdin:∀d∈dirsOf (y.tr p.t) p.f,d∈dirsOf (y.tr p.t) p.f:=λd h=>h
     generalize hds:dirsOf (y.tr p.t) p.f=ds at*
     have hg3:=RdS.sl (v:=v3) (T:=Ty.t9) (sz:=10) (xs:=dcs ds) (l:=[slA v3 Ty.t9 10 (dcs ds)]) (by simp) (by omega) (E.drop (List.singleton_sublist.2 (by simp)))
     rw[dcs_len,Nat.mul_div_cancel _ (by omega)]at hg3
     refine hg3.len ?_
     (replace E:=(((((((((E.bIx 0).bIx 8).bIx 8).bIx 8).bIx 8).bIx 8).bIx 8).bIx 8).bIx 8))
     generalize hTd:Tc.set (y.tb.ix p.t) oT=Td at*
     clear hHL hoe hTd
     refine⟨λl1 w1=>∃(i2:Nat) (wv:Value) (R:List RowS),l1=[wv,i64 i2]∧i2≤ds.length∧Fit R D2 Xs2 tA M1 K1 (4300+100*j+3) ⟨Td,y.tb,spc⟩∧
       Hs w0 F w1 (SPl R D2 Xs2 tA M1 K1 ⟨Td,y.tb,spc⟩ (slA v3 Ty.t9 10 (dcs ds)::pt z (oc oq.cs Ty.t31)::pt qp (oc p.cs Ty.t0)::slA v1 Ty.t0 2 (pcs ps)::slA tv Ty.t1 1 (tA.map ptr)::pt a (wrO (ptr K1.a) tv)::slA t8 Ty.t1 1 (trsV tA y.tb.ts)::A2::slA wv Ty.t9 10 (dcs ((ds.take i2).foldl addD W))::l0)),λl1 _=>match l1 with|[_,.int _ i2]=>ds.length-i2.toNat|_=>0,
      ⟨0,t16,R,rfl,Nat.zero_le _,h2,E⟩,?_⟩
     clear E h2 hc hrd0
     rintro t16 t172 u3 w3 ⟨i2,wv,R,e,hi2,h2,E⟩
     cases e
     refine Bi.lss ?_ ?_<;>intro hlt2
     ·refine Cnd.t ?_
      have hi3:i2<ds.length:=by omega
      have htk2:ds.take (i2+1)=ds.take i2++[ds[i2]]:=by rw[List.take_add_one,List.getElem?_eq_getElem hi3];rfl
      have hdm:ds[i2]∈ds:=List.getElem_mem hi3
      intro J2 hJ2
      have finI:∀R wv w_,Fit R D2 Xs2 tA M1 K1 (4300+100*j+3) ⟨Td,y.tb,spc⟩→Hs w0 F w_ (SPl R D2 Xs2 tA M1 K1 ⟨Td,y.tb,spc⟩ (slA v3 Ty.t9 10 (dcs ds)::pt z (oc oq.cs Ty.t31)::pt qp (oc p.cs Ty.t0)::slA v1 Ty.t0 2 (pcs ps)::slA tv Ty.t1 1 (tA.map ptr)::pt a (wrO (ptr K1.a) tv)::slA t8 Ty.t1 1 (trsV tA y.tb.ts)::A2::slA wv Ty.t9 10 (dcs (addD ((ds.take i2).foldl addD W) ds[i2]))::l0))→J2 [wv] w_:=by
       intro R wv w_ h2 E
       refine hJ2 _ _ λu=>?_
       refine Bi.add (by omega) ?_
       exact⟨⟨i2+1,wv,R,by simp,by omega,h2,by rw[htk2,List.foldl_append];exact E⟩,by simp only[];omega⟩
      clear hJ2
      refine hg3.ix (by omega) (by omega) (by omega) ?_
      intro b3 hb3
      rw[Int.toNat_natCast,dcs_drop,List.drop_eq_getElem_cons hi3,show dcs (ds[i2]::ds.drop (i2+1))=ds[i2].cs++dcs (ds.drop (i2+1))from rfl]at hb3
      refine(hb3.weaken λ_ E=>E.drop (List.singleton_sublist.2 (by simp))).lda E (m:=10) (ds:=ds[i2].cs) rfl rfl (by omega) ?_
      clear hb3
      generalize ds[i2]=d at*
      have hWs:∀q∈ps.take j,∀e∈dirsOf (y.tr q.t) q.f,∃x∈(ds.take i2).foldl addD W,x.name=e.name:=λq hq e he=>by
       obtain⟨x,hx,hn⟩:=hnot q hq e he
       exact⟨x,(addsD_has (ds.take i2) W).2 x hx,hn⟩
      have hWil:((ds.take i2).foldl addD W).length≤18000:=by
       have:=addsD_len (ds.take i2) W
       rw[List.length_take]at this
       omega
      generalize hWi:(ds.take i2).foldl addD W=Wi at*
      repeat with_reducible first|(refine StpW.go E ?_;clear E;intro w_ E)|(refine StpA.go E ?_;clear E;intro b_ w_ hb_ E)
      (revert b_;intro q hbq E)
      (first|(refine StA.all E rfl rfl (by first|exact rfl|assumption) ?_;clear E;intro w_ E)|try (refine StA.by E rfl (by first|exact rfl|assumption) ?_;clear E;intro w_ E))
      have gW:=RdS.sl (v:=t16) (T:=Ty.t9) (sz:=10) (xs:=dcs Wi) (by simp) (by omega) E
      rw[dcs_len,Nat.mul_div_cancel _ (by omega)]at gW
      refine(named_ok (e:=d) (by omega) E gW).mono ?_
      clear E gW
      rintro r w_ ⟨rfl,E⟩
      cases hnm:Wi.any λx=>decide (x.name=d.name)with
      |true=>
       repeat with_reducible refine Stp.go ?_
       exact finI R _ _ h2 (by rw[show addD Wi d=Wi by unfold addD;rw[if_pos hnm]];exact E.tl)
      |false=>
       repeat with_reducible first|refine Stp.go ?_|refine StpE.go E ?_
       have it16:Scal t16:=⟨Hs.slScal (T:=Ty.t9) (sz:=10) (xs:=dcs Wi) E (by simp)⟩
       refine BdS.dir E ?_
       clear E
       intro s1 w_ E
       refine Ap.el E (i:=18) rfl u_sl_Dir ⟨_,u_sl_Dir,λ_ h=>by cases h⟩ e_Dir (by omega) (Src.slice (E.sat _ List.mem_cons_self) (n:=1) rfl (by omega) rfl) rfl (by rw[dcs_len,Nat.mul_div_cancel _ (by omega)];omega) (by rw[dcs_len,Nat.mul_div_cancel _ (by omega)];omega) ?_
       clear E
       intro wv2 w_ E
       simp only[List.set_cons_zero,List.set_cons_succ]at E
       rw[← dcs_app,show Wi++[d]=addD Wi d by unfold addD;rw[hnm];rfl]at E
       replace E:=E.tl
       repeat with_reducible first|refine Stp.go ?_|refine StpE.go E ?_|(refine StpW.go E ?_;clear E;intro w_ E)
       have hpi:Inv (trW y.Ts (y.tb.ix p.t)):=(h.inv.t _ (trW_mem (h.inv.tb.ixLt hpt))).1
       have hdn:d.name.size≤40:=by
        have hg:=dirs_good (f:=p.f) hpi (by rw[hdsE];exact hdm)
        unfold goodName at hg
        simp only[Bool.and_eq_true,decide_eq_true_eq]at hg
        exact hg.2.1.1.2
       refine Bi.sadd (by have:(⟨#[47]⟩:ByteArray).size=1:=rfl;omega) ?_
       repeat with_reducible first|refine Stp.go ?_|refine StpE.go E ?_
       refine Bi.sadd (by rw[ByteArray.size_append];have:(⟨#[47]⟩:ByteArray).size=1:=rfl;omega) ?_
       refine(where_okM (R:=R) (D:=D2) (tA:=tA) (M:=M1) (K:=K1) (N:=4300+100*j+3) (y:=⟨Td,y.tb,spc⟩) (path:=path++sep++d.name) (by rw[ByteArray.size_append,ByteArray.size_append];have:sep.size=1:=rfl;omega) ⟨by simp,by simp,by simp,h2.tb,h2.wo,h2.inv⟩ E).mono ?_
       clear E
       rintro r w_ ⟨v4,rfl,E⟩
       have iv4:Scal v4:=⟨Hs.slScal E FSl.mem⟩
       have hw4l:=(where_ok h2.inv (path++sep++d.name)).1
       have hstep:((trW Td (y.tb.ix p.t)).walk annU p.f d.name).2=0→(Sy.where_ ⟨Td,y.tb,spc⟩ (path++sep++d.name)).2=0→(y.tb.ms.any λm=>decide (m.old=⟨p.t,((trW Td (y.tb.ix p.t)).walk annU p.f d.name).1.path⟩))=false→
         (Sy.where_ ⟨Td,y.tb,spc⟩ (path++sep++d.name)).1=[⟨p.t,((trW Td (y.tb.ix p.t)).walk annU p.f d.name).1.path⟩]:=by
        intro k1 k2 k3
        have:=union_step (y:=y) (yd:=⟨Td,y.tb,spc⟩) h2.inv hal2 rfl c2 c3 hpne hw (hps.trans hsp) (d:=d) (by rw[hds];exact hdm) (Wi:=Wi) hWs hnm
        simp only[c3,hus]at this
        exact this k1 k2 k3
       have call:∀(l2 r2:List As) w_,FWP l2 Xs2 D2 r2→Hs w0 F w_ l2→Ca PP Fn.f62 #[ptr (adW tA (y.tb.ix p.t)),str annU,i64 p.f,str d.name] w_ λr w'=>r=.tuple #[((trW Td (y.tb.ix p.t)).walk annU p.f d.name).1.V,i64 ((trW Td (y.tb.ix p.t)).walk annU p.f d.name).2]∧Hs w0 F w' l2:=
        λl2 r2 w_ _ E=>Wo.ask (y:=⟨Td,y.tb,spc⟩) (N:=4300+100*j+3) (args:=λz=>#[ptr z,str annU,i64 p.f,str d.name]) h2.wo h2.inv.t (h2.inv.tb.ixLt hpt) E λX β l0 hb hi hp E=>Walk_ok hb hi (by omega) hp E
       generalize Sy.where_ ⟨Td,y.tb,spc⟩ (path++sep++d.name)=W4 at*
       generalize (trW Td (y.tb.ix p.t)).walk annU p.f d.name=Wk at*
       repeat with_reducible first|refine Stp.go ?_|refine StpE.go E ?_|(refine StpW.go E ?_;clear E;intro w_ E)
       refine hg8.ix (by omega) (by omega) (by omega) ?_
       intro b10 hb10
       skip
       refine(hb10.weaken λ_ E=>E.drop (List.singleton_sublist.2 (by simp))).ld E hx8 ?_
       repeat with_reducible first|refine Stp.go ?_|refine StpE.go E ?_
       have ldx:∀{l2 w1} {k:Value→Prop},slA t8 Ty.t1 1 (trsV tA y.tb.ts)∈l2→Hs w0 F w1 l2→k (ptr (adW tA (y.tb.ix p.t)))→Ld (.pointer (some b10)) w1 k:=λhm E hk=>(hb10.weaken λ_ E=>E.drop (List.singleton_sublist.2 hm)).ld E hx8 hk
       refine And.intro ?_ (And.intro ?_ trivial)
       refine(call _ _ _ inferInstance E).mono ?_
       clear E
       rintro r w_ ⟨rfl,E⟩
       repeat with_reducible first|refine Stp.go ?_|(refine StpA.go E ?_;clear E;intro b_ w_ hb_ E)
       (revert b_;intro z2 hbz2 E)
       (repeat(with_reducible refine And.intro ?_ ?_;focus ((repeat with_reducible refine StpE.go E ?_);exact rfl)))
       refine And.intro (ldx (by simp) E rfl) ?_
       (repeat(with_reducible refine And.intro ?_ ?_;focus ((repeat with_reducible refine StpE.go E ?_);exact rfl)))
       repeat with_reducible (refine StpW.go E ?_;clear E;intro w_ E)
       rotate_left
       repeat with_reducible (refine StpA.go E ?_;clear E;intro b_ w_ hb_ E)
       (revert b_;intro z2 hbz2 E)
       (repeat(with_reducible refine And.intro ?_ ?_;focus ((repeat with_reducible refine StpE.go E ?_);exact rfl)))
       refine And.intro (ldx (by simp) E rfl) ?_
       (repeat(with_reducible refine And.intro ?_ ?_;focus ((repeat with_reducible refine StpE.go E ?_);exact rfl)))
       refine(call _ _ _ inferInstance E).mono ?_
       clear E
       rintro r w_ ⟨rfl,E⟩
       repeat with_reducible first|refine Stp.go ?_|(refine StpW.go E ?_;clear E;intro w_ E)
       all_goals
        clear call
        intro J254 hJ254
        have go254f:J254 [.bool false] w_:=hJ254 _ _ λu=>Cnd.f (finI R wv2 _ h2 E.tl.tl.tl)
        have go254t:Wk.2=0→W4.2=0→J254 [.bool true] w_:=by
         intro k1 k2
         refine hJ254 _ _ λu=>Cnd.t ?_
         clear hJ254 go254f
         repeat with_reducible first|refine Stp.go ?_|refine StpE.go E ?_
         (replace E:=(((((((((((E.bIx 2).bIx 2).bIx 2).bIx 10).bIx 10).bIx 10).bIx 10).bIx 10).bIx 10).bIx 10).bIx 10))
         refine(Table_okM h2 E).mono ?_
         clear E
         rintro t9 w_ ⟨R9,us,hR9,hV,E⟩
         have h9:Fit R9 D2 Xs2 tA M1 K1 (4300+100*j+3) ⟨Td,y.tb,spc⟩:=⟨h2.tb.mono hR9,h2.sp.mono hR9,h2.wo,h2.inv⟩
         have it9:Scal t9:=⟨Hs.slScal E FSl.mem⟩
         have gt:=RdS.sl (v:=t9) (T:=Ty.t22) (sz:=4) (xs:=mcs y.tb.ms us) List.mem_cons_self (by omega) E
         rw[mcs_len hV.len,Nat.mul_div_cancel _ (by omega)]at gt
         skip
         refine(mounted_ok (R:=R9) (p:=p) (z:=Wk.1) (by simp) hV h.inv.tb.ms (mtI_small h.inv.tb.m) gt E).mono ?_
         clear E gt
         rintro r w_ ⟨rfl,E⟩
         intro J265 hJ265
         have go265:∀w_,Hs w0 F w_ (slA t9 Ty.t22 4 (mcs y.tb.ms us)::SPl R9 D2 Xs2 tA M1 K1 ⟨Td,y.tb,spc⟩ (pt z2 (oc Wk.1.cs Ty.t31)::slA v4 Ty.t0 2 (pcs W4.1)::pt q (oc d.cs Ty.t9)::slA v3 Ty.t9 10 (dcs ds)::pt z (oc oq.cs Ty.t31)::pt qp (oc p.cs Ty.t0)::slA v1 Ty.t0 2 (pcs ps)::slA tv Ty.t1 1 (tA.map ptr)::pt a (wrO (ptr K1.a) tv)::slA t8 Ty.t1 1 (trsV tA y.tb.ts)::A2::slA wv2 Ty.t9 10 (dcs (addD Wi d))::l0))→J265 [.bool false] w_:=by
          intro w_ E
          refine hJ265 _ _ λu=>Cnd.f ?_
          exact finI R9 wv2 _ h9 (((E.tl.bIx 8).tl.bIx 8).tl.bIx 8).tl
         clear hJ265
         cases hmm:y.tb.ms.any λm=>decide (m.old=⟨p.t,Wk.1.path⟩)with
         |true=>
          repeat with_reducible refine Stp.go ?_
          exact go265 _ E
         |false=>
          repeat with_reducible first|refine Stp.go ?_|refine StpE.go E ?_
          refine BdS.pl (p:=⟨p.t,Wk.1.path⟩) E ?_
          clear E
          intro s2 w_ E
          have gw:=RdS.sl (v:=v4) (T:=Ty.t0) (sz:=2) (xs:=pcs W4.1) (by simp) (by omega) E
          have gs:=RdS.sl (v:=s2) (T:=Ty.t0) (sz:=2) (xs:=pcs [⟨p.t,Wk.1.path⟩]) List.mem_cons_self (by omega) E
          rw[pcs_len,Nat.mul_div_cancel _ (by omega)]at gw gs
          repeat with_reducible refine Stp.go ?_
          refine(eqPl_ok (by omega) gw gs E).mono ?_
          clear E gw gs
          rintro r w_ ⟨rfl,E⟩
          rw[decide_eq_true (hstep k1 k2 hmm)]
          repeat with_reducible refine Stp.go ?_
          exact go265 _ E.tl
        clear hJ254
        skip
        refine Bi.eql ?_ ?_<;>intro k1<;>(repeat with_reducible refine Stp.go ?_)
        ·refine Bi.eql ?_ ?_<;>intro k2<;>(repeat with_reducible first|refine Stp.go ?_|refine StpE.go E ?_)
         ·refine Bi.add (by omega) ?_
          repeat with_reducible refine Stp.go ?_
          refine Bi.lss ?_ ?_<;>intro k3<;>(repeat with_reducible refine Stp.go ?_)
          ·exact go254t k1 k2
          ·exact go254f
         ·exact go254f
        ·exact go254f
     ·refine Cnd.f ?_
      have hie:i2=ds.length:=by omega
      rw[hie,List.take_length,← hW2]at E
      refine Bi.add (by omega) ?_
      exact⟨⟨j+1,t16,R,D2,Xs2,⟨Td,y.tb,spc⟩,by simp,by omega,h2.mono (by omega),hal2,rfl,c2,c3,(((E.bIx 8).tl.bIx 8).tl.bIx 8).tl⟩,by simp only[];omega⟩
   ·refine Cnd.f ?_
    have hje:j=ps.length:=by omega
    subst hje
    rw[List.take_length]at E
    have i1:=hlen ps λq hq=>hwo.2.1 q hq
    have i2:=addsD_len (ps.flatMap λp=>dirsOf (y.tr p.t) p.f) []
    rw[List.length_nil]at i2
    have i3:=hwo.1
    generalize (ps.flatMap λp=>dirsOf (y.tr p.t) p.f).foldl addD []=W at*
    subst hv2
    have e1:=RdS.sl (v:=v2) (T:=Ty.t9) (sz:=10) (xs:=dcs W) (by simp) (by omega) E
    have e2:=RdS.sl (v:=t16) (T:=Ty.t9) (sz:=10) (xs:=dcs W) (by simp) (by omega) E
    rw[dcs_len,Nat.mul_div_cancel _ (by omega)]at e1 e2
    refine(eqDirs_ok (by omega) E e1 e2).mono ?_
    clear E
    rintro r w_ ⟨rfl,E⟩
    exact⟨rfl,_,E⟩
 clear hJ8
 repeat with_reducible refine StpE.go E ?_
 refine(fewS_okM (user:=annU) (hp _) hs E).mono ?_
 clear E
 rintro r w_ ⟨rfl,E⟩
 cases hf:fewS annU pls with
 |false=>
  repeat with_reducible refine Stp.go ?_
  exact out _ ⟨_,E⟩
 |true=>
  repeat with_reducible refine Stp.go ?_
  refine(FewX_ok hx (hv _) E).mono ?_
  clear E
  rintro r w_ ⟨rfl,E⟩
  cases hf2:fewX xs with
  |false=>
   repeat with_reducible refine Stp.go ?_
   exact out _ ⟨_,E⟩
  |true=>
   repeat with_reducible refine Stp.go ?_
   refine(once_ok (fewX_one hf2).1 (hv _) E).mono ?_
   clear E
   rintro r w_ ⟨⟨b,rfl⟩,A,E⟩
   cases b with
   |false=>
    repeat with_reducible refine Stp.go ?_
    exact out _ ⟨_,E⟩
   |true=>
    repeat with_reducible refine Stp.go ?_
    refine Bi.gtr ?_ ?_<;>intro h300<;>(repeat with_reducible refine Stp.go ?_)
    ·exact out _ ⟨_,E⟩
    refine Bi.seql ?_ ?_<;>intro hpe<;>(repeat with_reducible refine Stp.go ?_)
    ·exact out _ ⟨_,E⟩
    ·exact go8 _ hf hf2 (by omega) hpe E.tl
set_option maxRecDepth 100000
set_option linter.unusedVariables false
set_option linter.unusedSimpArgs false
variable {w0 w:World} {F:Nat→Prop} {l:List As}
abbrev zXAct:Value:=.agg #[i64 0,i64 0,i64 0,str emp,str emp,str emp,i64 0,i64 0,i64 0,i64 0,i64 0,i64 0,i64 0,i64 0,str emp,str emp,str emp,str emp]
set_option maxRecDepth 100000
set_option linter.unusedVariables false
set_option linter.unusedSimpArgs false
variable {H:Type} {enc:TypeId×Value→H} {W:World}
abbrev dtabS:List (TypeId×Nat×Nat):=[(Ty.t31,0,3),(Ty.int,3,1),(Ty.int64,4,1),(Ty.int64,5,1),(Ty.t2,6,1),(Ty.t2,7,1),(Ty.t2,8,1),(Ty.t2,9,1)]
abbrev atabS:List (TypeId×Nat×Nat):=[(Ty.int,0,1),(Ty.int,1,1),(Ty.int,2,1),(Ty.t2,3,1),(Ty.t2,4,1),(Ty.t2,5,1),(Ty.int,6,1),(Ty.int64,7,1),(Ty.t9,8,10)]
theorem dtabS_is:ftab PP Ty.t9=dtabS:=by kernel_rfl
theorem atabS_is:ftab PP Ty.law29_Act=atabS:=by kernel_rfl
theorem cS_Dir:PP.cellsOf Ty.t9=10:=by kernel_rfl
theorem cS_Act:PP.cellsOf Ty.law29_Act=18:=by kernel_rfl
theorem uuS_int:PP.underlying Ty.int=some (.int .i64):=by kernel_rfl
theorem uuS_int64:PP.underlying Ty.int64=some (.int .i64):=by kernel_rfl
theorem uuS_str:PP.underlying Ty.t2=some .string:=by kernel_rfl
theorem lvCS_Qid:lvC PP 20 Ty.t31=true:=by kernel_rfl
theorem qdS_of{r:List Value}(h:fitWL lkQid r):∃a b c:Int,r=[i64 a,i64 b,i64 c]:=by
 obtain⟨x0,r,rfl,h0,h⟩:=fitWL_cons h
 obtain⟨x1,r,rfl,h1,h⟩:=fitWL_cons h
 obtain⟨x2,r,rfl,h2,h⟩:=fitWL_cons h
 obtain rfl:=fitWL_nil h
 obtain⟨a,rfl,-⟩:=LK.int_of h0
 obtain⟨b,rfl,-⟩:=LK.int_of h1
 obtain⟨c,rfl,-⟩:=LK.int_of h2
 exact⟨a,b,c,rfl⟩
theorem open_dr{fuel:Nat}{cs:List Value}{x:DataW H×List MemPlace}(h:DataW.trod enc PP W 0 (λ_=>true) true fuel Ty.t9 cs=some x):
  ∃d:Dr,cs=d.cs∧∀s,s=d.name∨s=d.owner∨s=d.group∨s=d.last→s.data.toList.length∈x.1.weights PP Ty.t9:=by
 obtain⟨xs,n,hx,hlen,hxs,hf⟩:=struct_parts dtabS_is (by decide) h
 rw[cS_Dir]at hlen
 obtain⟨c0,c1,c2,c3,c4,c5,c6,c7,c8,c9,rfl⟩:∃c0 c1 c2 c3 c4 c5 c6 c7 c8 c9,cs=[c0,c1,c2,c3,c4,c5,c6,c7,c8,c9]:=by
  match cs,hlen with
  |[c0,c1,c2,c3,c4,c5,c6,c7,c8,c9],_=>exact⟨c0,c1,c2,c3,c4,c5,c6,c7,c8,c9,rfl⟩
 obtain⟨x0,x1,x2,x3,x4,x5,x6,x7,rfl⟩:∃x0 x1 x2 x3 x4 x5 x6 x7,xs=[x0,x1,x2,x3,x4,x5,x6,x7]:=by
  match xs,hxs with
  |[x0,x1,x2,x3,x4,x5,x6,x7],_=>exact⟨x0,x1,x2,x3,x4,x5,x6,x7,rfl⟩
 have h0:DataW.trod enc PP W 0 (λ_=>true) true n Ty.t31 [c0,c1,c2]=some x0:=hf 0 _ _ _ rfl
 obtain⟨qa,qb,qc,eq⟩:=qdS_of (trod_lv 20 lv_Qid lvCS_Qid _ _ _ h0)
 cases eq
 have h1:DataW.trod enc PP W 0 (λ_=>true) true n Ty.int [c3]=some x1:=hf 1 _ _ _ rfl
 obtain⟨n1,e1,-,w1⟩:=DataW.trod_int uuS_int h1
 cases e1
 have h2:DataW.trod enc PP W 0 (λ_=>true) true n Ty.int64 [c4]=some x2:=hf 2 _ _ _ rfl
 obtain⟨n2,e2,-,w2⟩:=DataW.trod_int uuS_int64 h2
 cases e2
 have h3:DataW.trod enc PP W 0 (λ_=>true) true n Ty.int64 [c5]=some x3:=hf 3 _ _ _ rfl
 obtain⟨n3,e3,-,w3⟩:=DataW.trod_int uuS_int64 h3
 cases e3
 have h4:DataW.trod enc PP W 0 (λ_=>true) true n Ty.t2 [c6]=some x4:=hf 4 _ _ _ rfl
 obtain⟨s4,e4,y4,-⟩:=DataW.trod_string uuS_str h4
 cases e4
 have h5:DataW.trod enc PP W 0 (λ_=>true) true n Ty.t2 [c7]=some x5:=hf 5 _ _ _ rfl
 obtain⟨s5,e5,y5,-⟩:=DataW.trod_string uuS_str h5
 cases e5
 have h6:DataW.trod enc PP W 0 (λ_=>true) true n Ty.t2 [c8]=some x6:=hf 6 _ _ _ rfl
 obtain⟨s6,e6,y6,-⟩:=DataW.trod_string uuS_str h6
 cases e6
 have h7:DataW.trod enc PP W 0 (λ_=>true) true n Ty.t2 [c9]=some x7:=hf 7 _ _ _ rfl
 obtain⟨s7,e7,y7,-⟩:=DataW.trod_string uuS_str h7
 cases e7
 refine⟨⟨qa,qb,qc,n1,n2,n3,s4,s5,s6,s7⟩,rfl,?_⟩
 rw[hx]
 rintro s (rfl|rfl|rfl|rfl)
 ·exact weights_struct dtabS_is (by decide) (i:=4) rfl rfl (weight_str y4)
 ·exact weights_struct dtabS_is (by decide) (i:=5) rfl rfl (weight_str y5)
 ·exact weights_struct dtabS_is (by decide) (i:=6) rfl rfl (weight_str y6)
 ·exact weights_struct dtabS_is (by decide) (i:=7) rfl rfl (weight_str y7)
theorem open_xa{fuel:Nat}{cs:List Value}{x:DataW H×List MemPlace}(h:DataW.trod enc PP W 0 (λ_=>true) true fuel Ty.law29_Act cs=some x):
  ∃a:Xa,cs=a.C∧∀s,s=a.path∨s=a.old∨s=a.data∨s=a.dir.name∨s=a.dir.owner∨s=a.dir.group∨s=a.dir.last→s.data.toList.length∈x.1.weights PP Ty.law29_Act:=by
 obtain⟨xs,n,hx,hlen,hxs,hf⟩:=struct_parts atabS_is (by decide) h
 rw[cS_Act]at hlen
 obtain⟨c0,c1,c2,c3,c4,c5,c6,c7,c8,c9,c10,c11,c12,c13,c14,c15,c16,c17,rfl⟩:∃c0 c1 c2 c3 c4 c5 c6 c7 c8 c9 c10 c11 c12 c13 c14 c15 c16 c17,cs=[c0,c1,c2,c3,c4,c5,c6,c7,c8,c9,c10,c11,c12,c13,c14,c15,c16,c17]:=by
  match cs,hlen with
  |[c0,c1,c2,c3,c4,c5,c6,c7,c8,c9,c10,c11,c12,c13,c14,c15,c16,c17],_=>exact⟨c0,c1,c2,c3,c4,c5,c6,c7,c8,c9,c10,c11,c12,c13,c14,c15,c16,c17,rfl⟩
 obtain⟨x0,x1,x2,x3,x4,x5,x6,x7,x8,rfl⟩:∃x0 x1 x2 x3 x4 x5 x6 x7 x8,xs=[x0,x1,x2,x3,x4,x5,x6,x7,x8]:=by
  match xs,hxs with
  |[x0,x1,x2,x3,x4,x5,x6,x7,x8],_=>exact⟨x0,x1,x2,x3,x4,x5,x6,x7,x8,rfl⟩
 have h0:DataW.trod enc PP W 0 (λ_=>true) true n Ty.int [c0]=some x0:=hf 0 _ _ _ rfl
 obtain⟨n0,e0,-,w0⟩:=DataW.trod_int uuS_int h0
 cases e0
 have h1:DataW.trod enc PP W 0 (λ_=>true) true n Ty.int [c1]=some x1:=hf 1 _ _ _ rfl
 obtain⟨n1,e1,-,w1⟩:=DataW.trod_int uuS_int h1
 cases e1
 have h2:DataW.trod enc PP W 0 (λ_=>true) true n Ty.int [c2]=some x2:=hf 2 _ _ _ rfl
 obtain⟨n2,e2,-,w2⟩:=DataW.trod_int uuS_int h2
 cases e2
 have h3:DataW.trod enc PP W 0 (λ_=>true) true n Ty.t2 [c3]=some x3:=hf 3 _ _ _ rfl
 obtain⟨s3,e3,y3,-⟩:=DataW.trod_string uuS_str h3
 cases e3
 have h4:DataW.trod enc PP W 0 (λ_=>true) true n Ty.t2 [c4]=some x4:=hf 4 _ _ _ rfl
 obtain⟨s4,e4,y4,-⟩:=DataW.trod_string uuS_str h4
 cases e4
 have h5:DataW.trod enc PP W 0 (λ_=>true) true n Ty.t2 [c5]=some x5:=hf 5 _ _ _ rfl
 obtain⟨s5,e5,y5,-⟩:=DataW.trod_string uuS_str h5
 cases e5
 have h6:DataW.trod enc PP W 0 (λ_=>true) true n Ty.int [c6]=some x6:=hf 6 _ _ _ rfl
 obtain⟨n6,e6,-,w6⟩:=DataW.trod_int uuS_int h6
 cases e6
 have h7:DataW.trod enc PP W 0 (λ_=>true) true n Ty.int64 [c7]=some x7:=hf 7 _ _ _ rfl
 obtain⟨n7,e7,-,w7⟩:=DataW.trod_int uuS_int64 h7
 cases e7
 have h8:DataW.trod enc PP W 0 (λ_=>true) true n Ty.t9 [c8,c9,c10,c11,c12,c13,c14,c15,c16,c17]=some x8:=hf 8 _ _ _ rfl
 obtain⟨d,ed,hd⟩:=open_dr h8
 cases ed
 refine⟨⟨n0,n1,n2,s3,s4,s5,n6,n7,d⟩,rfl,?_⟩
 rw[hx]
 rintro s (rfl|rfl|rfl|rfl|rfl|rfl|rfl)
 ·exact weights_struct atabS_is (by decide) (i:=3) rfl rfl (weight_str y3)
 ·exact weights_struct atabS_is (by decide) (i:=4) rfl rfl (weight_str y4)
 ·exact weights_struct atabS_is (by decide) (i:=5) rfl rfl (weight_str y5)
 ·exact weights_struct atabS_is (by decide) (i:=8) rfl rfl (hd _ (.inl rfl))
 ·exact weights_struct atabS_is (by decide) (i:=8) rfl rfl (hd _ (.inr (.inl rfl)))
 ·exact weights_struct atabS_is (by decide) (i:=8) rfl rfl (hd _ (.inr (.inr (.inl rfl))))
 ·exact weights_struct atabS_is (by decide) (i:=8) rfl rfl (hd _ (.inr (.inr (.inr rfl))))
theorem xa_Ok{a:Xa}{ws:List Nat}(hw:∀s,s=a.path∨s=a.old∨s=a.data∨s=a.dir.name∨s=a.dir.owner∨s=a.dir.group∨s=a.dir.last→s.data.toList.length∈ws)(h:∀n∈ws,n≤140737488355328):a.Ok:=
 ⟨h _ (hw _ (.inl rfl)),h _ (hw _ (.inr (.inl rfl))),h _ (hw _ (.inr (.inr (.inl rfl)))),h _ (hw _ (.inr (.inr (.inr (.inl rfl))))),h _ (hw _ (.inr (.inr (.inr (.inr (.inl rfl)))))),h _ (hw _ (.inr (.inr (.inr (.inr (.inr (.inl rfl))))))),h _ (hw _ (.inr (.inr (.inr (.inr (.inr (.inr rfl)))))))⟩
set_option maxRecDepth 100000
set_option linter.unusedVariables false
set_option linter.unusedSimpArgs false
variable {H:Type} {enc:TypeId×Value→H} {W:World}
abbrev stabS:List (TypeId×Nat×Nat):=[(Ty.t2,0,1),(Ty.sl_sl_law29_Plant,1,1)]
abbrev ptabS:List (TypeId×Nat×Nat):=[(Ty.t2,0,1),(Ty.bool,1,1),(Ty.t2,2,1)]
theorem stabS_is:ftab PP Ty.t49=stabS:=by kernel_rfl
theorem ptabS_is:ftab PP Ty.t72=ptabS:=by kernel_rfl
theorem cS_Set:PP.cellsOf Ty.t49=2:=by kernel_rfl
theorem cS_Plant:PP.cellsOf Ty.t72=3:=by kernel_rfl
theorem cS_slP:PP.cellsOf Ty.t83=1:=by kernel_rfl
theorem uS_slP:PP.underlying Ty.t83=some (.slice Ty.t72):=by kernel_rfl
theorem uS_slslP:PP.underlying Ty.sl_sl_law29_Plant=some (.slice Ty.t83):=by kernel_rfl
theorem uS_slA:PP.underlying Ty.sl_law29_Act=some (.slice Ty.law29_Act):=by kernel_rfl
theorem uuS_bool:PP.underlying Ty.bool=some .bool:=by kernel_rfl
theorem open_pn{fuel:Nat}{cs:List Value}{x:DataW H×List MemPlace}(h:DataW.trod enc PP W 0 (λ_=>true) true fuel Ty.t72 cs=some x):
  ∃p:Pn,cs=p.cs∧p.path.data.toList.length∈x.1.weights PP Ty.t72∧p.data.data.toList.length∈x.1.weights PP Ty.t72:=by
 obtain⟨xs,n,hx,hlen,hxs,hf⟩:=struct_parts ptabS_is (by decide) h
 rw[cS_Plant]at hlen
 obtain⟨c0,c1,c2,rfl⟩:∃c0 c1 c2,cs=[c0,c1,c2]:=by
  match cs,hlen with
  |[c0,c1,c2],_=>exact⟨c0,c1,c2,rfl⟩
 obtain⟨x0,x1,x2,rfl⟩:∃x0 x1 x2,xs=[x0,x1,x2]:=by
  match xs,hxs with
  |[x0,x1,x2],_=>exact⟨x0,x1,x2,rfl⟩
 have h0:DataW.trod enc PP W 0 (λ_=>true) true n Ty.t2 [c0]=some x0:=hf 0 _ _ _ rfl
 obtain⟨s0,e0,y0,-⟩:=DataW.trod_string uuS_str h0
 cases e0
 have h1:DataW.trod enc PP W 0 (λ_=>true) true n Ty.bool [c1]=some x1:=hf 1 _ _ _ rfl
 obtain⟨b1,e1,-⟩:=DataW.trod_bool uuS_bool h1
 cases e1
 have h2:DataW.trod enc PP W 0 (λ_=>true) true n Ty.t2 [c2]=some x2:=hf 2 _ _ _ rfl
 obtain⟨s2,e2,y2,-⟩:=DataW.trod_string uuS_str h2
 cases e2
 refine⟨⟨s0,b1,s2⟩,rfl,?_,?_⟩
 ·rw[hx];exact weights_struct ptabS_is (by decide) (i:=0) rfl rfl (weight_str y0)
 ·rw[hx];exact weights_struct ptabS_is (by decide) (i:=2) rfl rfl (weight_str y2)
theorem open_setS {fuel : Nat} {cs : List Value} {x : DataW H × List MemPlace} (h : DataW.trod enc PP W 0 (fun _=>true) true fuel Ty.t49 cs = some x) :
  ∃ user pv vs pls,cs = [str user,pv]∧(∀ l,PlsIn W Emp l pv vs pls)∧∀ ps∈pls,∀ p : Pn,p∈ps→p.path.data.toList.length∈x.1.weights PP Ty.t49∧p.data.data.toList.length∈x.1.weights PP Ty.t49:=by
 obtain ⟨xs,n,hx,hlen,hxs,hf⟩:=struct_parts stabS_is (by decide) h
 rw [cS_Set] at hlen
 obtain ⟨c0,c1,rfl⟩ : ∃ c0 c1,cs = [c0,c1]:=by
  match cs,hlen with
  | [c0,c1],_=>exact ⟨c0,c1,rfl⟩
 obtain ⟨x0,x1,rfl⟩ : ∃ x0 x1,xs = [x0,x1]:=by
  match xs,hxs with
  | [x0,x1],_=>exact ⟨x0,x1,rfl⟩
 have h0 : DataW.trod enc PP W 0 (fun _=>true) true n Ty.t2 [c0] = some x0:=hf 0 _ _ _ rfl
 obtain ⟨s0,e0,y0,-⟩:=DataW.trod_string uuS_str h0
 cases e0
 have h1 : DataW.trod enc PP W 0 (fun _=>true) true n Ty.sl_sl_law29_Plant [c1] = some x1:=hf 1 _ _ _ rfl
 obtain ⟨ds,hD,hQ⟩:=rows_open (α:=Value × List Pn) (f:=fun a=>[a.1]) (Q:=fun a y=>RdlA W a.1 3 a.2.length (ncs a.2)∧∀ p : Pn,p∈a.2→p.path.data.toList.length∈y.weights PP Ty.t83∧p.data.data.toList.length∈y.weights PP Ty.t83) uS_slslP cS_slP (by decide) (fun _=>rfl) (fun fuel cs x hs=>by
  obtain ⟨c,rfl⟩ : ∃ c,cs = [c]:=by
   rcases DataW.trod_slice uS_slP hs with ⟨hcs,-⟩ | ⟨a,len,cap,elems,rest,n,-,hcs,-⟩
   ·exact ⟨_,hcs⟩
   ·exact ⟨_,hcs⟩
  obtain ⟨ps,hP,hp⟩:=rows_open (α:=Pn) (f:=Pn.cs) (Q:=fun p y=>p.path.data.toList.length∈y.weights PP Ty.t72∧p.data.data.toList.length∈y.weights PP Ty.t72) uS_slP cS_Plant (by decide) (fun _=>rfl) (fun fuel cs x h=>open_pn h) hs
  refine ⟨(c,ps),rfl,hP,fun p hp2=>?_⟩
  obtain ⟨y,⟨q1,q2⟩,q3⟩:=hp p hp2
  exact ⟨q3 _ q1,q3 _ q2⟩) h1
 refine ⟨s0,c1,ds.map (·.1),ds.map (·.2),rfl,fun l=>⟨?_,fun i v ps g1 g2=>?_⟩,fun ps hps p hp=>?_⟩
 ·have:=RdS.oldA (l:=l) hD (fun b h=>h)
  rw [show ds.flatMap (fun a=>[a.1]) = ds.map (·.1) from (List.map_eq_flatMap).symm] at this
  rw [List.length_map]
  exact this
 ·rw [List.getElem?_map] at g1 g2
  obtain ⟨a,ha,rfl⟩:=Option.map_eq_some_iff.1 g1
  rw [ha] at g2
  cases g2
  obtain ⟨y,⟨q1,-⟩,-⟩:=hQ a (List.mem_of_getElem? ha)
  exact RdS.oldA q1 fun b h=>h
 ·obtain ⟨a,ha,rfl⟩:=List.mem_map.1 hps
  obtain ⟨y,⟨-,q2⟩,q3⟩:=hQ a ha
  obtain ⟨r1,r2⟩:=q2 p hp
  rw [hx]
  exact ⟨weights_struct stabS_is (by decide) (i:=1) rfl rfl (q3 _ r1),weights_struct stabS_is (by decide) (i:=1) rfl rfl (q3 _ r2)⟩
theorem open_xas{v:Value}{d:DataW H}{ps:List MemPlace}(hs:∃a n c,v=.slice a n c)(h:DataW.Trod enc PP W 0 (λ_=>true) true Ty.sl_law29_Act v d ps)(hw:∀n∈d.weights PP Ty.sl_law29_Act,n≤140737488355328):
  ∃xs:List Xa,(∀l,RdS W Emp l 18 xs.length v (xcs xs))∧∀x∈xs,x.Ok:=by
 obtain⟨a,n,c,rfl⟩:=hs
 obtain⟨fuel,h⟩:=h
 obtain⟨ds,hD,hQ⟩:=rows_open (α:=Xa) (f:=Xa.C) (Q:=λa y=>∀s,s=a.path∨s=a.old∨s=a.data∨s=a.dir.name∨s=a.dir.owner∨s=a.dir.group∨s=a.dir.last→s.data.toList.length∈y.weights PP Ty.law29_Act) uS_slA cS_Act (by decide) (λ_=>rfl) (λfuel cs x h=>open_xa h) h
 refine⟨ds,λl=>RdS.oldA hD λb h=>h,λx hx=>?_⟩
 obtain⟨y,q1,q2⟩:=hQ x hx
 exact xa_Ok q1 λn hn=>hw n (q2 n hn)
end Go.Proofs.YtjffgllkfbcaeaaGreatDoor