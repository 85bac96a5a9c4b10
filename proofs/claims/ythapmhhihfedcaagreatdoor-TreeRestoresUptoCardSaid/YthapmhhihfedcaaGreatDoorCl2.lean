/-
 Trees: Wstat.
-/
import Derived.Test.YthapmhhihfedcaaGreatDoorTo5
import Derived.Test.YthapmhhihfedcaaGreatDoorSh28
namespace Go.Proofs.YthapmhhihfedcaaGreatDoor
open Go Go.Sh
set_option maxRecDepth 100000
set_option linter.unusedVariables false
set_option linter.unusedSimpArgs false
variable {w0 w:World} {F:Nat→Prop} {l:List As}
variable {D:List Row} {X:PT} {T:Tr} {β:Int→Nat}
theorem Bi.sneqD{s t:ByteArray}{k:Value→Prop}(hk:k (.bool (decide (s≠t)))):Bi .neq (.string s) (.string t) k:=Bi.sneq (λh=>by rw[decide_eq_true h]at hk;exact hk) λh=>by rw[decide_eq_false (by simpa using h)]at hk;exact hk
theorem Bi.neqD{kk:IntKind}{a b:Int}{k:Value→Prop}(hk:k (.bool (decide (a≠b)))):Bi .neq (.int kk a) (.int kk b) k:=Bi.neq (λh=>by rw[decide_eq_true h]at hk;exact hk) λh=>by rw[decide_eq_false (by simpa using h)]at hk;exact hk

abbrev opT(X:PT):List As:=[tb X,mp X.fm (.int .i64) X.fM,mp X.gm .str X.gM,mp X.om (.int .i64) X.oM,NT X.ps,DT X.ds]
theorem may_nt(h:Tie D X T β){n:PN}(hn:n∈X.ps){user:BA}{need:Int}(hp:Pool D∈l)(E:Hs w0 F w (tb X::mp X.fm (.int .i64) X.fM::mp X.gm .str X.gM::mp X.om (.int .i64) X.oM::NT X.ps::DT X.ds::l)):
  Ca PP Fn.f47 #[ptr X.t,str user,ptr n.blk,i64 need] w λr w'=>r=.bool (T.may user n.f need)∧Hs w0 F w' (tb X::mp X.fm (.int .i64) X.fM::mp X.gm .str X.gM::mp X.om (.int .i64) X.oM::NT X.ps::DT X.ds::l):=by
 obtain⟨rs,hpm⟩:=split_perm hn
 replace E:=Hs.openN (E.bIx 4) hpm
 (replace E:=((((((((E.bIx 7).bIx 3).bIx 3).bIx 3).bIx 7).bIx 7).bIx 7).bIx 7))
 refine(may_ok (m:=n.mn) (D:=D) (by simp[hp]) h.gs E).mono ?_
 clear E
 rintro r w_ ⟨rfl,E⟩
 refine⟨rfl,?_⟩
 (replace E:=((((((((E.bIx 7).bIx 4).bIx 4).bIx 4).bIx 4).bIx 7).bIx 7).bIx 7))
 replace E:=Hs.permN (Hs.closeN n E) hpm.symm
 (replace E:=((((((E.bIx 5).bIx 1).bIx 5).bIx 5).bIx 5).bIx 5))
 exact E
abbrev wsL(X:PT)(D:List Row)(q:Nat)(d:Dr)(l:List As):List As:=tb X::mp X.fm (.int .i64) X.fM::mp X.gm .str X.gM::mp X.om (.int .i64) X.oM::NT X.ps::DT X.ds::Pool D::pt q (oc d.cs Ty.t28)::l
abbrev wsR(X:PT)(n:PN)(rs:List PN)(v:Value)(bs:List Nat)(D:List Row)(q:Nat)(d:Dr)(l:List As):List As:=
 KM n::NT rs::tb X::slA v Ty.t4 1 (bs.map ptr)::mp X.fm (.int .i64) X.fM::mp X.gm .str X.gM::mp X.om (.int .i64) X.oM::DT X.ds::Pool D::pt q (oc d.cs Ty.t28)::l

def given1(d:Dr)(n:Nd):Nd:={Tr.given d n with name:=n.name}
theorem updN_congr{ns:List Nd}{p:Int}{f g:Nd→Nd}(h:∀m∈ns,m.path=p→f m=g m):updN ns p f=updN ns p g:=by
 unfold updN
 refine List.map_congr_left λm hm=>?_
 by_cases hp:m.path=p
 ·rw[if_pos hp,if_pos hp];exact h m hm hp
 ·rw[if_neg hp,if_neg hp]
theorem change_two(T:Tr)(user:BA)(p q:Int):T.change user [p,q]={T with ns:=updN (updN T.ns p (touchN (T.clock+1) user)) q (touchN (T.clock+1) user),clock:=T.clock+1}:=rfl
theorem wstat_eq1(hi:Inv T){n:Nd}(hn:n∈T.ns){user:BA}{d:Dr}(hm:¬(d.name≠emp∧d.name≠n.name)):(T.change user [n.path]).upd n.path (given1 d)=(T.change user [n.path]).upd n.path (Tr.given d):=by
 unfold Tr.upd
 congr 1
 refine updN_congr λm hmm hmp=>?_
 rw[change_one]at hmm
 obtain⟨m0,hm0,rfl⟩:=updN_mem hmm
 have hp0:m0.path=n.path:=by
  split at hmp
  ·exact hmp
  ·exact hmp
 have e0:=hi.inj hm0 hn hp0
 subst e0
 rw[if_pos rfl]
 unfold given1 Tr.given
 by_cases h1:d.name=emp
 ·simp only[if_pos h1]
 ·have h2:d.name=m0.name:=Classical.byContradiction λhc=>hm ⟨h1,hc⟩
  have h3:¬m0.name=emp:=by rw[← h2];exact h1
  simp only[h2,if_neg h3];rfl
theorem wstat_eq2{p q:Int}(hpq:q≠p){user:BA}{d:Dr}(h1:d.name≠emp):((T.upd p (named d.name)).change user [p,q]).upd p (given1 d)=(T.change user [p,q]).upd p (Tr.given d):=by
 rw[change_two,change_two]
 unfold Tr.upd updN
 simp only[List.map_map]
 congr 1
 refine List.map_congr_left λm _=>?_
 simp only[Function.comp]
 by_cases c1:m.path=p
 ·have c2:¬p=q:=λe=>hpq e.symm
  simp only[c1,if_true,named,touchN,if_neg c2]
  unfold given1 Tr.given
  simp only[if_neg h1]
 ·simp only[if_neg c1]
  by_cases c3:m.path=q
  ·simp only[c3,if_true,touchN,if_neg hpq]
  ·simp only[if_neg c3,if_neg c1]
theorem touch2_tie(h:Tie D X T β)(hi:Inv T)(hnd:(X.ps.map PN.blk).Nodup){n u:PN}(hn:n∈X.ps)(hu:u∈X.ps)(hnu:u.blk≠n.blk)(user:BA):
  Tie D {X with ps:=chgB (X.clock+1) user [n.blk,u.blk] X.ps,clock:=X.clock+1} (T.change user [n.f.path,u.f.path]) β:=by
 obtain⟨h1,i1⟩:=touch_tie h hi hnd hn user
 have hu1:u∈updB X.ps n.blk (PN.touch (X.clock+1) user):=List.mem_map.2 ⟨u,hu,if_neg hnu⟩
 have hnd1:((updB X.ps n.blk (PN.touch (X.clock+1) user)).map PN.blk).Nodup:=by rw[updB_blk (g:=PN.touch (X.clock+1) user) λ_=>rfl];exact hnd
 have h2:=h1.upd i1 hnd1 (n:=u) hu1 (X.clock+1) (G:=PN.touch (X.clock+1) user) (g:=touchN (X.clock+1) user) (λ_=>⟨rfl,rfl,rfl⟩) (λ_=>rfl) (λ_=>⟨rfl,rfl,rfl⟩) (λ_ hx=>hx) (h1.data u hu1)
 have e:T.change user [n.f.path,u.f.path]={T.change user [n.f.path]with ns:=updN (T.change user [n.f.path]).ns u.f.path (touchN (X.clock+1) user),clock:=X.clock+1}:=by
  rw[h.clock];rfl
 rw[e]
 exact h2

theorem chgB_mem{c:Int}{user:BA}:∀{bs:List Nat} {ps:List PN} {m:PN},m∈ps→∃m'∈chgB c user bs ps,m'.blk=m.blk∧m'.f.path=m.f.path∧m'.f.mode=m.f.mode∧m'.f.data=m.f.data∧m'.dv=m.dv
 |[],ps,m,h=>⟨m,h,rfl,rfl,rfl,rfl,rfl⟩
 |b::bs,ps,m,h=>by
  have h1:(if m.blk=b then PN.touch c user m else m)∈updB ps b (PN.touch c user):=List.mem_map.2 ⟨m,h,rfl⟩
  obtain⟨m',hm',e1,e2,e3,e4,e5⟩:=chgB_mem (c:=c) (user:=user) (bs:=bs) h1
  refine⟨m',hm',?_,?_,?_,?_,?_⟩
  ·rw[e1];split<;>rfl
  ·rw[e2];split<;>rfl
  ·rw[e3];split<;>rfl
  ·rw[e4];split<;>rfl
  ·rw[e5];split<;>rfl
theorem given1_dir{d:Dr}{n:Nd}(h:¬(d.mode≠ -1∧(rightM d.mode=false∨andI d.mode 2147483648≠andI n.mode 2147483648))):(given1 d n).dir=n.dir:=by
 show isD (if d.mode= -1 then n.mode else d.mode)=isD n.mode
 by_cases hm:d.mode= -1
 ·rw[if_pos hm]
 ·rw[if_neg hm]
  have:andI d.mode 2147483648=andI n.mode 2147483648:=Classical.byContradiction λhc=>h ⟨hm,.inr hc⟩
  unfold isD
  rw[this]
theorem nothing_key(d:Dr):(!(decide (d.name≠⟨#[]⟩) || decide (d.group≠⟨#[]⟩) || decide (d.mode≠ -1) || decide (d.time≠ -1) || decide (d.len≠ -1)))=decide (d.name=emp∧d.group=emp∧d.mode= -1∧d.time= -1∧d.len= -1):=by
 rw[Bool.eq_iff_iff,decide_eq_true_iff]
 simp only[Bool.not_eq_true',Bool.or_eq_false_iff,decide_eq_false_iff_not,ne_eq,Classical.not_not]
 constructor
 ·rintro⟨⟨⟨⟨h1,h2⟩,h3⟩,h4⟩,h5⟩;exact⟨h1,h2,h3,h4,h5⟩
 ·rintro⟨h1,h2,h3,h4,h5⟩;exact⟨⟨⟨⟨h1,h2⟩,h3⟩,h4⟩,h5⟩
theorem Wstat_ok(h:Tie D X T β)(hi:Inv T){N:Int}(hN:N<4611686018427387904)(hlim:Lim N T){user:BA}{file:Int}{d:Dr}(hs1:d.name.size≤9223372036854775807)(hs2:d.group.size≤9223372036854775807)(E:Hs w0 F w (trA X::Pool D::l)):
  Ca PP Fn.f78 #[ptr X.t,str user,i64 file,d.V] w λr w'=>r=i64 (T.wstat user file d).2∧Goes w0 F l D X (T.wstat user file d).1 w':=by
 refine S.f78.calls ?_
 unfold S.f78
 have hnd:=Hs.nodupT E
 refine StpA.go E ?_
 clear E
 intro q w_ hq E
 (replace E:=(((E.bIx 0).bIx 2).bIx 2))
 replace E:=Hs.openT E
 refine(find_ok E).mono ?_
 clear E
 rintro r w_ ⟨rfl,E⟩
 have keep:∀w,Hs w0 F w (wsL X D q d l)→Goes w0 F l D X T w:=λw E=>.same h ((Hs.closeT X E).bIx 2).tl
 rcases h.find hi file with⟨h1,h2⟩|⟨n,rs,hpm,hn,hpath,h1,h2⟩
 ·rw[h2]
  unfold findV
  repeat first|(with_reducible first|refine Stp.go ?_)|((with_reducible refine Bi.dec true ?_ ?_);focus exact rfl)
  have e:T.wstat user file d=(T,4):=by unfold Tr.wstat;simp only[h1]
  rw[e]
  exact⟨rfl,keep _ E⟩
 rw[h2]
 unfold findV
 subst hpath
 have hnT:=h.mem.2 ⟨n,hn,rfl⟩
 repeat first|(with_reducible first|refine Stp.go ?_|refine StpE.go E ?_|(refine StpW.go E ?_;clear E;intro w_ E))|((with_reducible refine Bi.dec false ?_ ?_);focus exact rfl)
 refine Bi.sneqD ?_
 generalize hb1:decide (d.name≠⟨#[]⟩)=b1
 repeat with_reducible first|refine Stp.go ?_|refine StpE.go E ?_
 refine Bi.sneqD ?_
 generalize hb2:decide (d.group≠⟨#[]⟩)=b2
 repeat with_reducible first|refine Stp.go ?_|refine StpE.go E ?_|(refine StpW.go E ?_;clear E;intro w_ E)
 refine Bi.neqD ?_
 generalize hb3:decide (d.mode≠ -1)=b3
 repeat with_reducible first|refine Stp.go ?_|refine StpE.go E ?_
 refine Bi.neqD ?_
 generalize hb4:decide (d.time≠ -1)=b4
 repeat with_reducible first|refine Stp.go ?_|refine StpE.go E ?_
 refine Bi.neqD ?_
 generalize hb5:decide (d.len≠ -1)=b5
 (intro J25 hJ25)
 have fin25:∀b w_,b=decide (d.name≠emp∧d.name≠n.f.name)→Hs w0 F w_ (wsL X D q d l)→J25 [.bool b] w_:=by
  intro bm w_ hbm E
  repeat with_reducible (apply hJ25;intro u_)
  clear hJ25
  (intro J29 hJ29)
  have fin29:∀b w_,b=decide ((¬(d.kind=0∧d.vers=0∧d.path=0)∨d.owner≠emp∨d.last≠emp∨d.len< -1∨d.time< -1∨(d.name≠emp∧n.f.path=0))∨(d.mode≠ -1∧(rightM d.mode=false∨andI d.mode 2147483648≠andI n.f.mode 2147483648)))→Hs w0 F w_ (wsL X D q d l)→J29 [.bool b] w_:=by
   intro b w_ hb E
   repeat with_reducible (apply hJ29;intro u_)
   clear hJ29
   by_cases cA:(¬(d.kind=0∧d.vers=0∧d.path=0)∨d.owner≠emp∨d.last≠emp∨d.len< -1∨d.time< -1∨(d.name≠emp∧n.f.path=0))∨(d.mode≠ -1∧(rightM d.mode=false∨andI d.mode 2147483648≠andI n.f.mode 2147483648))
   ·rw[decide_eq_true cA]at hb
    subst hb
    repeat with_reducible refine Stp.go ?_
    have e:T.wstat user n.f.path d=(T,1):=by
     unfold Tr.wstat
     simp only[h1]
     by_cases c1:¬(d.kind=0∧d.vers=0∧d.path=0)∨d.owner≠emp∨d.last≠emp∨d.len< -1∨d.time< -1∨(d.name≠emp∧n.f.path=0)
     ·rw[if_pos c1]
     ·rw[if_neg c1,if_pos (cA.resolve_left c1)]
    rw[e]
    exact⟨rfl,keep _ E⟩
   rw[decide_eq_false cA]at hb
   subst hb
   repeat with_reducible refine Stp.go ?_
   have cA1:=λhc=>cA (.inl hc)
   have cA2:=λhc=>cA (.inr hc)
   have eA:T.wstat user n.f.path d=(let moved:=d.name≠emp∧d.name≠n.f.name
     if(d.name≠emp∧goodName d.name=false)∨(d.group≠emp∧goodName d.group=false)then(T,8)else
     if d.len≠ -1∧d.len≠0∧n.f.dir=true then(T,18)else
     if 1048576<d.len then(T,3)else
     if moved∧(T.kid n.f.up d.name).isSome then(T,5)else
     if(moved∧T.may user (T.parent n.f) 2=false)∨(d.len≠ -1∧n.f.dir=false∧T.may user n.f 2=false)∨((d.mode≠ -1∨d.time≠ -1∨d.group≠emp)∧user≠n.f.owner)∨(d.group≠emp∧T.member user d.group=false)then(T,17)else
     if d.name=emp∧d.group=emp∧d.mode= -1∧d.time= -1∧d.len= -1 then(T,0)else
     ((T.change user (n.f.path::if moved then[n.f.up]else[])).upd n.f.path (Tr.given d),0)):=by
    unfold Tr.wstat
    simp only[h1]
    rw[if_neg cA1,if_neg cA2]
   rw[eA]
   clear eA
   simp only[]
   (intro J33 hJ33)
   have fin33:∀b w_,b=decide ((d.name≠emp∧goodName d.name=false)∨(d.group≠emp∧goodName d.group=false))→Hs w0 F w_ (wsL X D q d l)→J33 [.bool b] w_:=by
    intro b w_ hb E
    repeat with_reducible (apply hJ33;intro u_)
    clear hJ33
    by_cases cB:(d.name≠emp∧goodName d.name=false)∨(d.group≠emp∧goodName d.group=false)
    ·rw[decide_eq_true cB]at hb
     subst hb
     repeat with_reducible refine Stp.go ?_
     simp only[if_pos cB]
     exact⟨trivial,keep _ E⟩
    rw[decide_eq_false cB]at hb
    subst hb
    repeat with_reducible refine Stp.go ?_
    simp only[if_neg cB]
    (intro J37 hJ37)
    have fin37:∀b w_,b=decide (d.len≠ -1∧d.len≠0∧n.f.dir=true)→Hs w0 F w_ (wsL X D q d l)→J37 [.bool b] w_:=by
     intro b w_ hb E
     repeat with_reducible (apply hJ37;intro u_)
     clear hJ37
     by_cases cC:d.len≠ -1∧d.len≠0∧n.f.dir=true
     ·rw[decide_eq_true cC]at hb
      subst hb
      repeat with_reducible refine Stp.go ?_
      simp only[if_pos cC]
      exact⟨trivial,keep _ E⟩
     rw[decide_eq_false cC]at hb
     subst hb
     repeat with_reducible first|refine Stp.go ?_|refine StpE.go E ?_
     simp only[if_neg cC]
     refine Bi.gtr ?_ ?_<;>intro cD<;>(repeat with_reducible refine Stp.go ?_)
     ·simp only[if_pos cD]
      exact⟨trivial,keep _ E⟩
     have cD:¬1048576<d.len:=by omega
     simp only[if_neg cD]
     have hup:d.name≠emp∧d.name≠n.f.name→n.f.path≠0∧∃u∈X.ps,n.mn.C[12]? =some (ptr u.blk)∧T.parent n.f=u.f:=by
      intro hm
      have h0:n.f.path≠0:=λh0=>cA1 (.inr (.inr (.inr (.inr (.inr ⟨hm.1,h0⟩)))))
      rcases up_val h hi hn with⟨hc,_⟩|hc
      ·exact absurd hc h0
      ·exact hc
     (intro J44 hJ44)
     have fin44:∀b w_,b=decide ((d.name≠emp∧d.name≠n.f.name)∧(T.kid n.f.up d.name).isSome)→Hs w0 F w_ (wsL X D q d l)→J44 [.bool b] w_:=by
      intro b w_ hb E
      repeat with_reducible (apply hJ44;intro u_)
      clear hJ44
      by_cases cE:(d.name≠emp∧d.name≠n.f.name)∧(T.kid n.f.up d.name).isSome
      ·rw[decide_eq_true cE]at hb
       subst hb
       repeat with_reducible refine Stp.go ?_
       simp only[if_pos cE]
       exact⟨trivial,keep _ E⟩
      rw[decide_eq_false cE]at hb
      subst hb
      repeat with_reducible refine Stp.go ?_
      simp only[if_neg cE]
      (intro J48 hJ48)
      have fin48:∀b w_,b=decide (((d.name≠emp∧d.name≠n.f.name)∧T.may user (T.parent n.f) 2=false)∨(d.len≠ -1∧n.f.dir=false∧T.may user n.f 2=false)∨((d.mode≠ -1∨d.time≠ -1∨d.group≠emp)∧user≠n.f.owner)∨(d.group≠emp∧T.member user d.group=false))→Hs w0 F w_ (wsL X D q d l)→J48 [.bool b] w_:=by
       intro b w_ hb E
       repeat with_reducible (apply hJ48;intro u_)
       clear hJ48
       by_cases cF:((d.name≠emp∧d.name≠n.f.name)∧T.may user (T.parent n.f) 2=false)∨(d.len≠ -1∧n.f.dir=false∧T.may user n.f 2=false)∨((d.mode≠ -1∨d.time≠ -1∨d.group≠emp)∧user≠n.f.owner)∨(d.group≠emp∧T.member user d.group=false)
       ·rw[decide_eq_true cF]at hb
        subst hb
        repeat with_reducible refine Stp.go ?_
        simp only[if_pos cF]
        exact⟨trivial,keep _ E⟩
       rw[decide_eq_false cF]at hb
       subst hb
       repeat with_reducible refine Stp.go ?_
       simp only[if_neg cF]
       (intro J52 hJ52)
       have fin52:∀b w_,b=decide (d.name=emp∧d.group=emp∧d.mode= -1∧d.time= -1∧d.len= -1)→Hs w0 F w_ (wsL X D q d l)→J52 [.bool b] w_:=by
        intro b w_ hb E
        repeat with_reducible (apply hJ52;intro u_)
        clear hJ52
        by_cases cG:d.name=emp∧d.group=emp∧d.mode= -1∧d.time= -1∧d.len= -1
        ·rw[decide_eq_true cG]at hb
         subst hb
         repeat with_reducible refine Stp.go ?_
         simp only[if_pos cG]
         exact⟨trivial,keep _ E⟩
        rw[decide_eq_false cG]at hb
        subst hb
        repeat with_reducible refine Stp.go ?_
        simp only[if_neg cG]
        refine BdS.one E u_sl_p_node e_p_node rfl ?_
        clear E
        intro sv w_ E
        (intro J58 hJ58)
        have fin58:∀(X1:PT) (T1:Tr) (n1:PN) (us:List PN) (v:Value) (w_:World),Tie D X1 T1 β→Inv T1→Lim N T1→X1.t=X.t→n1∈X1.ps→n1.blk=n.blk→n1.f.path=n.f.path→n1.f.mode=n.f.mode→n1.f.data=n.f.data→
          (∀u∈us,u∈X1.ps)→us.length≤2→Tie D {X1 with ps:=chgB (X1.clock+1) user (us.map PN.blk) X1.ps,clock:=X1.clock+1} (T1.change user (us.map λu=>u.f.path)) β→
          (T1.change user (us.map λu=>u.f.path)).upd n.f.path (given1 d)=(T.change user (n.f.path::if d.name≠emp∧d.name≠n.f.name then[n.f.up]else[])).upd n.f.path (Tr.given d)→
          Hs w0 F w_ (tb X1::NT X1.ps::slA v Ty.t4 1 ((us.map PN.blk).map ptr)::mp X1.fm (.int .i64) X1.fM::mp X1.gm .str X1.gM::mp X1.om (.int .i64) X1.oM::DT X1.ds::Pool D::pt q (oc d.cs Ty.t28)::l)→J58 [v] w_:=by
         intro X1 T1 n1 us v w_ t1 i1 l1 ht1 hn1 hb1' hp1 hmd1 hdt1 hus hul t2 hfin E
         repeat with_reducible (apply hJ58;intro u_)
         clear hJ58
         have hcl:=l1.clock
         have hc0:=i1.clock
         have hcx:=t1.clock
         rw[← ht1]
         refine(change_ok (X:=X1) (bs:=us.map PN.blk) (by have:=RdS.by1 v E.tl.tl;rw[List.length_map]at this;exact this) (λb hb=>?_) (by omega) (lim_fit i1 hN l1 t1) (by simp;omega) E).mono ?_
         ·obtain⟨u,hu,rfl⟩:=List.mem_map.1 hb
          exact List.mem_map.2 ⟨u,hus u hu,rfl⟩
         clear E
         rintro r w_ E
         obtain⟨X2,hX2⟩:∃X2:PT,X2={X1 with ps:=chgB (X1.clock+1) user (us.map PN.blk) X1.ps,clock:=X1.clock+1}:=⟨_,rfl⟩
         rw[← hX2]at t2
         have i2:=i1.change user (us.map λu=>u.f.path)
         obtain⟨n2,hn2,e1,e2,e3,e4,e5⟩:=chgB_mem (c:=X1.clock+1) (user:=user) (bs:=us.map PN.blk) hn1
         have hn2':n2∈X2.ps:=by rw[hX2];exact hn2
         have hnd2:=Hs.nodupN (E.bIx 1)
         obtain⟨rs2,hp2⟩:=split_perm hn2'
         have E1:Hs w0 F w_ (NT X2.ps::tb X2::slA v Ty.t4 1 ((us.map PN.blk).map ptr)::mp X2.fm (.int .i64) X2.fM::mp X2.gm .str X2.gM::mp X2.om (.int .i64) X2.oM::DT X2.ds::Pool D::pt q (oc d.cs Ty.t28)::l):=by
          rw[hX2];exact E.bIx 1
         clear E
         have E:=Hs.openN E1 hp2
         clear E1
         have hblk:n2.blk=n.blk:=e1.trans hb1'
         have hpath:n2.f.path=n.f.path:=e2.trans hp1
         have hmode:n2.f.mode=n.f.mode:=e3.trans hmd1
         have hdata:n2.f.data=n.f.data:=e4.trans hdt1
         rw[← hblk]
         have hX2t:X2.t=X.t:=by rw[hX2];exact ht1
         have hdir2:(given1 d n2.f).dir=n2.f.dir:=given1_dir (by rw[hmode];exact cA2)
         obtain⟨tm,htm⟩:∃tm:Int,tm=if d.time= -1 then n2.f.time else d.time:=⟨_,rfl⟩
         obtain⟨md,hmd⟩:∃md:Int,md=if d.mode= -1 then n2.f.mode else d.mode:=⟨_,rfl⟩
         obtain⟨gr,hgr⟩:∃gr:BA,gr=if d.group=emp then n2.f.group else d.group:=⟨_,rfl⟩
         (intro J64 hJ64)
         have fin64:∀w_,Hs w0 F w_ (nd n2.blk {n2.mn with time:=tm}::wsR X2 n2 rs2 v (us.map PN.blk) D q d l)→J64 [] w_:=by
          intro w_ E
          repeat with_reducible (apply hJ64;intro u_)
          clear hJ64
          (intro J67 hJ67)
          have fin67:∀w_,Hs w0 F w_ (nd n2.blk {n2.mn with time:=tm,mode:=md,kind:=kindOf md}::wsR X2 n2 rs2 v (us.map PN.blk) D q d l)→J67 [] w_:=by
           intro w_ E
           repeat with_reducible (apply hJ67;intro u_)
           clear hJ67
           (intro J70 hJ70)
           have fin70:∀w_,Hs w0 F w_ (nd n2.blk {n2.mn with time:=tm,mode:=md,kind:=kindOf md,group:=gr}::wsR X2 n2 rs2 v (us.map PN.blk) D q d l)→J70 [] w_:=by
            intro w_ E
            repeat with_reducible (apply hJ70;intro u_)
            clear hJ70
            (intro J73 hJ73)
            have fin73:∀D' dv w_,(∀x∈D,x∈D')→Rdy D' Ty.uint8 dv (bts (given1 d n2.f).data)→Hs w0 F w_ (nd n2.blk {n2.mn with time:=tm,mode:=md,kind:=kindOf md,group:=gr,dv:=dv}::wsR X2 n2 rs2 v (us.map PN.blk) D' q d l)→J73 [] w_:=by
             intro D' dv w_ hD hdv E
             repeat with_reducible (apply hJ73;intro u_)
             refine⟨by first|rfl|trivial,?_⟩
             rw[← hfin]
             obtain⟨G,hG⟩:∃G:PN→PN,G=λm=>{m with f:=given1 d m.f,dv:=dv}:=⟨_,rfl⟩
             have hndX:(X2.ps.map PN.blk).Nodup:=by rw[hX2];exact hnd2
             have t3:=t2.upd (D':=D') i2 hndX hn2' X2.clock (G:=λm=>{m with f:=given1 d m.f,dv:=dv}) (g:=given1 d) (λ_=>⟨rfl,rfl,rfl⟩) (λ_=>rfl) (λ_=>⟨rfl,rfl,rfl⟩) hD hdv
             rw[hpath]at t3
             have hcl2:X2.clock=(T1.change user (us.map λu=>u.f.path)).clock:=t2.clock
             have hmn:(G n2).mn={n2.mn with time:=tm,mode:=md,kind:=kindOf md,group:=gr,dv:=dv}:=by
              rw[hG,htm,hmd,hgr]
              show MN.mk _ _ _ _ _ _ _ _ _ _ _ (if(given1 d n2.f).dir then some n2.kb else none) _ _=_
              rw[hdir2]
              rfl
             have hkm:KM (G n2)=KM n2:=by
              rw[hG]
              show star (if(given1 d n2.f).dir then[mp n2.kb .str n2.kM]else[])=_
              rw[hdir2]
              rfl
             have hGb:(G n2).blk=n2.blk:=by rw[hG]
             have E1:Hs w0 F w_ (nd (G n2).blk (G n2).mn::KM (G n2)::NT rs2::tb X2::slA v Ty.t4 1 ((us.map PN.blk).map ptr)::mp X2.fm (.int .i64) X2.fM::mp X2.gm .str X2.gM::mp X2.om (.int .i64) X2.oM::DT X2.ds::Pool D'::pt q (oc d.cs Ty.t28)::l):=by
              rw[hmn,hkm,hGb];exact E
             clear E
             have E:=Hs.permN (Hs.closeN (G n2) E1) (updB_perm (g:=G) hndX hp2).symm
             clear E1
             (replace E:=(E.bIx 2).tl)
             (replace E:=(E.bIx 7).tl)
             (replace E:=((((((E.bIx 5).bIx 1).bIx 5).bIx 5).bIx 5).bIx 5))
             refine⟨D',{X2 with ps:=updB X2.ps n2.blk G,clock:=X2.clock},β,hD,hX2t,?_,Hs.closeT {X2 with ps:=updB X2.ps n2.blk G,clock:=X2.clock} E⟩
             rw[hG]
             have e:(T1.change user (us.map λu=>u.f.path)).upd n.f.path (given1 d)={T1.change user (us.map λu=>u.f.path)with ns:=updN (T1.change user (us.map λu=>u.f.path)).ns n.f.path (given1 d),clock:=X2.clock}:=by rw[hcl2];rfl
             rw[e]
             exact t3
            clear hJ73
            have hmdd:isD md=n2.f.dir:=by rw[hmd];exact hdir2
            (intro J76 hJ76)
            have fin76:∀b w_,b=decide (d.len≠ -1∧n2.f.dir=false)→Hs w0 F w_ (nd n2.blk {n2.mn with time:=tm,mode:=md,kind:=kindOf md,group:=gr}::wsR X2 n2 rs2 v (us.map PN.blk) D q d l)→J76 [.bool b] w_:=by
             intro b w_ hb E
             repeat with_reducible (apply hJ76;intro u_)
             clear hJ76
             have hrdy:=t2.data n2 hn2'
             by_cases cH:d.len≠ -1∧n2.f.dir=false
             ·rw[decide_eq_true cH]at hb
              subst hb
              repeat with_reducible first|refine Stp.go ?_|refine StpE.go E ?_
              obtain⟨k,hk⟩:∃k:Nat,d.len=k:=⟨d.len.toNat,by
               have:¬d.len< -1:=λhc=>cA1 (.inr (.inr (.inr (.inl hc))))
               have:=cH.1
               omega⟩
              have hrd:=hrdy.read E.tl (by simp)
              rw[hk]
              refine(resize_ok (n:=(bts n2.f.data).length) (k:=k) (by omega) (bts_scal _) E hrd).mono ?_
              clear E
              rintro r w_ ⟨q',E⟩
              skip
              have hbs:(bts n2.f.data).take k++List.replicate (k-(bts n2.f.data).length) (.int .u8 0)=bts (sized n2.f.data k):=by rw[bts_sized,bts_len]
              rw[hbs]at E
              (replace E:=(E.bIx 1))
              replace E:=Hs.ptSl (n:=k) (by rw[bts_len,sized_size]) E
              obtain⟨dv,hdv⟩:∃dv,dv=Value.slice (some ⟨q',0,none⟩) k k:=⟨_,rfl⟩
              rw[← hdv]at E
              (replace E:=((E.bIx 10).bIx 1))
              replace E:=Hs.pool Ty.uint8 E
              (replace E:=((((((((((E.bIx 0).bIx 9).bIx 9).bIx 9).bIx 9).bIx 9).bIx 9).bIx 9).bIx 9).bIx 9))
              refine fin73 _ dv _ (λx hx=>List.mem_cons_of_mem _ hx) ?_ E
              have:(given1 d n2.f).data=sized n2.f.data k:=by
               show(if d.len= -1∨n2.f.dir=true then n2.f.data else sized n2.f.data d.len.toNat)=_
               rw[if_neg (by rintro(h|h);exact cH.1 h;rw[cH.2]at h;cases h),hk];rfl
              rw[this]
              exact .inr List.mem_cons_self
             ·rw[decide_eq_false cH]at hb
              subst hb
              repeat with_reducible refine Stp.go ?_
              refine fin73 D n2.dv _ (λx hx=>hx) ?_ E
              have:(given1 d n2.f).data=n2.f.data:=by
               show(if d.len= -1∨n2.f.dir=true then n2.f.data else sized n2.f.data d.len.toNat)=_
               refine if_pos ?_
               by_cases hl:d.len= -1
               ·exact .inl hl
               ·right
                cases hd:n2.f.dir with
                |true=>rfl
                |false=>exact absurd ⟨hl,hd⟩ cH
              rw[this]
              exact hrdy
            clear hJ76
            cases b5 with
            |false=>
             have hx:¬d.len≠ -1:=of_decide_eq_false hb5
             repeat with_reducible refine Stp.go ?_
             exact fin76 _ _ (by rw[decide_eq_false λh=>hx h.1]) E
            |true=>
             have hx:d.len≠ -1:=of_decide_eq_true hb5
             repeat with_reducible refine Stp.go ?_
             refine(isDir_ok (m:={n2.mn with time:=tm,mode:=md,kind:=kindOf md,group:=gr}) E).mono ?_
             clear E
             rintro r w_ ⟨rfl,E⟩
             have:isD ({n2.mn with time:=tm,mode:=md,kind:=kindOf md,group:=gr}:MN).mode=n2.f.dir:=hmdd
             rw[this]
             cases hd:n2.f.dir with
             |true=>(repeat with_reducible refine Stp.go ?_);exact fin76 _ _ (by rw[decide_eq_false];rintro⟨_,h⟩;rw[hd]at h;cases h) E
             |false=>(repeat with_reducible refine Stp.go ?_);exact fin76 _ _ (by rw[decide_eq_true ⟨hx,hd⟩]) E
           clear hJ70
           cases b2 with
           |false=>
            have hx:d.group=emp:=Classical.not_not.1 (of_decide_eq_false hb2)
            repeat with_reducible refine Stp.go ?_
            exact fin70 _ (by rw[hgr,if_pos hx];exact E)
           |true=>
            have hx:d.group≠emp:=of_decide_eq_true hb2
            repeat with_reducible first|refine Stp.go ?_|refine StpE.go E ?_|(refine StpW.go E ?_;clear E;intro w_ E)
            exact fin70 _ (by rw[hgr,if_neg hx];exact E)
          clear hJ67
          cases b3 with
          |false=>
           have hx:d.mode= -1:=Classical.not_not.1 (of_decide_eq_false hb3)
           repeat with_reducible refine Stp.go ?_
           exact fin67 _ (by rw[hmd,if_pos hx];exact E)
          |true=>
           have hx:d.mode≠ -1:=of_decide_eq_true hb3
           repeat with_reducible first|refine Stp.go ?_|refine StpE.go E ?_
           refine(is_ok E).mono ?_
           clear E
           rintro r w_ E
           skip
           exact fin67 _ (by rw[hmd,if_neg hx];exact E)
         clear hJ64
         cases b4 with
         |false=>
          have hx:d.time= -1:=Classical.not_not.1 (of_decide_eq_false hb4)
          repeat with_reducible refine Stp.go ?_
          exact fin64 _ (by rw[htm,if_pos hx];(replace E:=((((E.bIx 3).bIx 3).bIx 3).bIx 3));exact E)
         |true=>
          have hx:d.time≠ -1:=of_decide_eq_true hb4
          repeat with_reducible first|refine Stp.go ?_|refine StpE.go E ?_|(refine StpW.go E ?_;clear E;intro w_ E)
          exact fin64 _ (by rw[htm,if_neg hx];exact E)
        clear hJ58
        by_cases hmv:d.name≠emp∧d.name≠n.f.name
        rotate_left
        ·rw[decide_eq_false hmv]at hbm
         subst hbm
         repeat with_reducible refine Stp.go ?_
         refine fin58 X T n [n] sv _ h hi hlim rfl hn rfl rfl rfl rfl (λu hu=>by rw[List.mem_singleton.1 hu];exact hn) (by simp) (touch_tie h hi hnd hn user).1 ?_ ?_
         ·rw[if_neg hmv];exact wstat_eq1 hi hnT hmv
         ·(replace E:=((((((((E.bIx 7).bIx 7).bIx 6).bIx 6).bIx 6).bIx 5).bIx 7).bIx 7))
          exact E
        ·rw[decide_eq_true hmv]at hbm
         subst hbm
         obtain⟨h0,-⟩:=hup hmv
         obtain⟨u,rs',hp',hu,hub,hup',hne,hud,hgu,hpar⟩:=h.parent hi hpm h0
         have hur:u∈rs:=hp'.mem_iff.2 List.mem_cons_self
         have hub':n.mn.up=some u.blk:=hub
         have hkb:u.mn.kids=some u.kb:=if_pos hud
         have hnub:u.blk≠n.blk:=λe=>hne ((blk_path h hnd hu hn).1 e)
         have hfree:T.kid n.f.up d.name=none:=by
          cases hk:T.kid n.f.up d.name with
          |none=>rfl
          |some k=>exact absurd ⟨hmv,by rw[hk];rfl⟩ cE
         have hgood:goodName d.name=true:=by
          cases hg:goodName d.name with
          |true=>rfl
          |false=>exact absurd (.inl ⟨hmv.1,hg⟩) cB
         replace E:=Hs.openN (E.bIx 5) hpm
         replace E:=Hs.openN (E.bIx 2) hp'
         replace E:=Hs.openK hud (E.bIx 1)
         repeat with_reducible first|refine Stp.go ?_|refine StpE.go E ?_|(refine StpW.go E ?_;clear E;intro w_ E)
         rw[hub']
         simp only[Option.map_some]
         repeat with_reducible first|refine Stp.go ?_|refine StpE.go E ?_
         rw[hkb]
         refine Dl.by E u_mkids k_str rfl ?_
         clear E
         intro w_ E
         have a1:adel u.kM (str n.mn.name)=encM Value.string ptr (delL u.kl n.f.name):=adel_enc keyS _ _
         rw[a1]at E
         repeat with_reducible first|refine Stp.go ?_|refine StpE.go E ?_|(refine StpW.go E ?_;clear E;intro w_ E)
         rw[hub']
         simp only[Option.map_some]
         repeat with_reducible first|refine Stp.go ?_|refine StpE.go E ?_
         rw[hkb]
         refine Mu.by E u_mkids k_str rfl ?_
         clear E
         intro w_ E
         have a2:aput (encM Value.string ptr (delL u.kl n.f.name)) (str d.name) (ptr n.blk)=encM Value.string ptr (putL (delL u.kl n.f.name) d.name n.blk):=aput_enc keyS _ _ _
         rw[a2]at E
         repeat with_reducible first|refine Stp.go ?_|refine StpE.go E ?_
         rw[hub']
         simp only[Option.map_some]
         refine BdS.one E u_sl_p_node e_p_node rfl ?_
         clear E
         intro sv2 w_ E
         refine Ap.one E (i:=6) rfl u_sl_p_node ⟨_,u_sl_p_node,λ_ h=>by cases h⟩ e_p_node (Src.one E (by (first|assumption|exact FPt.mem|exact FMp.mem|exact FSl.mem|(repeat(first|assumption|with_reducible exact List.mem_cons_self|refine List.mem_cons_of_mem _ ?_)))) rfl) rfl (by simp) (by simp) ?_
         clear E
         intro s' w_ E
         (try simp only[List.set_cons_zero,List.set_cons_succ,List.cons_append,List.nil_append,Nat.zero_add,Nat.add_zero]at E)
         skip
         replace E:=E.tl
         obtain⟨X1,hX1⟩:∃X1:PT,X1={X with ps:=X.ps.map (reN n.blk u.blk n.f.name d.name)}:=⟨_,rfl⟩
         obtain⟨n1,hn1⟩:∃n1:PN,n1={n with f:=named d.name n.f}:=⟨_,rfl⟩
         obtain⟨u1,hu1⟩:∃u1:PN,u1={u with kl:=putL (delL u.kl n.f.name) d.name n.blk}:=⟨_,rfl⟩
         have rn:reN n.blk u.blk n.f.name d.name n=n1:=by rw[hn1];unfold reN;rw[if_pos rfl]
         have ru:reN n.blk u.blk n.f.name d.name u=u1:=by rw[hu1];unfold reN;rw[if_neg hnub,if_pos rfl]
         have hpm2:X.ps.Perm (n::u::rs'):=hpm.trans (hp'.cons n)
         have hnb:(n.blk::u.blk::rs'.map PN.blk).Nodup:=(hpm2.map PN.blk).nodup_iff.1 hnd
         rw[List.nodup_cons,List.nodup_cons]at hnb
         have rr:rs'.map (reN n.blk u.blk n.f.name d.name)=rs':=by
          conv=>rhs;rw[← List.map_id rs']
          refine List.map_congr_left λm hm=>?_
          have hmb:m.blk∈rs'.map PN.blk:=List.mem_map.2 ⟨m,hm,rfl⟩
          unfold reN
          rw[if_neg λe=>hnb.1 (by rw[← e];exact List.mem_cons_of_mem _ hmb),if_neg λe=>hnb.2.1 (by rw[← e];exact hmb)];rfl
         have hpm1:X1.ps.Perm (n1::u1::rs'):=by
          have:=hpm2.map (reN n.blk u.blk n.f.name d.name)
          rw[List.map_cons,List.map_cons,rn,ru,rr]at this
          rw[hX1];exact this
         have hn1m:n1∈X1.ps:=hpm1.mem_iff.2 List.mem_cons_self
         have hu1m:u1∈X1.ps:=hpm1.mem_iff.2 (List.mem_cons_of_mem _ List.mem_cons_self)
         have t1:Tie D X1 (T.upd n.f.path (named d.name)) β:=by rw[hX1];exact h.rename hi hnd hpm hur h0 hup' hfree
         have i1:=rename_inv hi hnT h0 hgood hfree
         have hnd1:(X1.ps.map PN.blk).Nodup:=by
          refine(hpm1.map PN.blk).nodup_iff.2 ?_
          have:(n1::u1::rs').map PN.blk=n.blk::u.blk::rs'.map PN.blk:=by rw[hn1,hu1];rfl
          rw[this,List.nodup_cons,List.nodup_cons];exact hnb
         have hdu1:u1.f.dir=true:=by rw[hu1];exact hud
         have E1:Hs w0 F w_ (mp u1.kb .str u1.kM::nd u1.blk u1.mn::NT rs'::nd n1.blk n1.mn::KM n1::slA s' Ty.t4 1 [ptr n1.blk,ptr u1.blk]::tb X1::mp X1.fm (.int .i64) X1.fM::mp X1.gm .str X1.gM::mp X1.om (.int .i64) X1.oM::DT X1.ds::Pool D::pt q (oc d.cs Ty.t28)::l):=by
          rw[hX1,hn1,hu1];exact E
         clear E
         have E:=Hs.closeK hdu1 E1
         clear E1
         (replace E:=(((E.bIx 2).bIx 1).bIx 2))
         replace E:=Hs.closeN u1 E
         (replace E:=(((E.bIx 0).bIx 2).bIx 2))
         replace E:=Hs.permN (Hs.closeN n1 E) hpm1.symm
         (replace E:=(((E.bIx 1).bIx 1).bIx 2))
         have hu1f:u1.f=u.f:=by rw[hu1]
         have hn1f:n1.f.path=n.f.path:=by rw[hn1]
         have hnb1:n1.blk=n.blk:=by rw[hn1]
         have hub1:u1.blk=u.blk:=by rw[hu1]
         refine fin58 X1 _ n1 [n1,u1] s' _ t1 i1 (hlim.upd0 λ_=>rfl) (by rw[hX1]) hn1m hnb1 hn1f (by rw[hn1]) (by rw[hn1]) (λx hx=>?_) (by simp) (touch2_tie t1 i1 hnd1 hn1m hu1m (by rw[hub1,hnb1];exact hnub) user) ?_ E
         ·rcases List.mem_cons.1 hx with rfl|hx
          ·exact hn1m
          ·rw[List.mem_singleton.1 hx];exact hu1m
         ·rw[if_pos hmv]
          show((T.upd n.f.path (named d.name)).change user [n1.f.path,u1.f.path]).upd n.f.path (given1 d)=_
          rw[hn1f,hu1f,← hup']
          exact wstat_eq2 hne hmv.1
       clear hJ52
       have key:(!(b1 || b2 || b3 || b4 || b5))=decide (d.name=emp∧d.group=emp∧d.mode= -1∧d.time= -1∧d.len= -1):=by
        rw[← hb1,← hb2,← hb3,← hb4,← hb5]
        exact nothing_key d
       cases hc1:b1<;>rw[hc1]at key<;>(repeat with_reducible refine Stp.go ?_)
       ·cases hc2:b2<;>rw[hc2]at key<;>(repeat with_reducible refine Stp.go ?_)
        ·cases hc3:b3<;>rw[hc3]at key<;>(repeat with_reducible refine Stp.go ?_)
         ·cases hc4:b4<;>rw[hc4]at key<;>(repeat with_reducible refine Stp.go ?_)
          ·cases hc5:b5<;>rw[hc5]at key<;>(repeat with_reducible refine Stp.go ?_)
           ·exact fin52 _ _ key E
           ·exact fin52 _ _ key E
          ·exact fin52 _ _ (by rw[← key];simp) E
         ·exact fin52 _ _ (by rw[← key];simp) E
        ·exact fin52 _ _ (by rw[← key];simp) E
       ·exact fin52 _ _ (by rw[← key];simp) E
      clear hJ48
      (intro J168 hJ168)
      have fin168:∀b w_,b=decide ((d.name≠emp∧d.name≠n.f.name)∧T.may user (T.parent n.f) 2=false)→Hs w0 F w_ (wsL X D q d l)→J168 [.bool b] w_:=by
       intro b w_ hb E
       repeat with_reducible (apply hJ168;intro u_)
       clear hJ168
       by_cases c1:(d.name≠emp∧d.name≠n.f.name)∧T.may user (T.parent n.f) 2=false
       ·rw[decide_eq_true c1]at hb
        subst hb
        repeat with_reducible refine Stp.go ?_
        exact fin48 _ _ (by rw[decide_eq_true (.inl c1)]) E
       rw[decide_eq_false c1]at hb
       subst hb
       repeat with_reducible refine Stp.go ?_
       (intro J172 hJ172)
       have fin172:∀b w_,b=decide (d.len≠ -1∧n.f.dir=false∧T.may user n.f 2=false)→Hs w0 F w_ (wsL X D q d l)→J172 [.bool b] w_:=by
        intro b w_ hb E
        repeat with_reducible (apply hJ172;intro u_)
        clear hJ172
        by_cases c2:d.len≠ -1∧n.f.dir=false∧T.may user n.f 2=false
        ·rw[decide_eq_true c2]at hb
         subst hb
         repeat with_reducible refine Stp.go ?_
         exact fin48 _ _ (by rw[decide_eq_true (.inr (.inl c2))]) E
        rw[decide_eq_false c2]at hb
        subst hb
        repeat with_reducible refine Stp.go ?_
        (intro J176 hJ176)
        have fin176:∀b w_,b=decide ((d.mode≠ -1∨d.time≠ -1∨d.group≠emp)∧user≠n.f.owner)→Hs w0 F w_ (wsL X D q d l)→J176 [.bool b] w_:=by
         intro b w_ hb E
         repeat with_reducible (apply hJ176;intro u_)
         clear hJ176
         by_cases c3:(d.mode≠ -1∨d.time≠ -1∨d.group≠emp)∧user≠n.f.owner
         ·rw[decide_eq_true c3]at hb
          subst hb
          repeat with_reducible refine Stp.go ?_
          exact fin48 _ _ (by rw[decide_eq_true (.inr (.inr (.inl c3)))]) E
         rw[decide_eq_false c3]at hb
         subst hb
         repeat with_reducible refine Stp.go ?_
         cases b2 with
         |false=>
          have hx:¬d.group≠emp:=of_decide_eq_false hb2
          repeat with_reducible refine Stp.go ?_
          exact fin48 _ _ (by rw[decide_eq_false];rintro(h|h|h|h);exact c1 h;exact c2 h;exact c3 h;exact hx h.1) E
         |true=>
          have hx:d.group≠emp:=of_decide_eq_true hb2
          repeat with_reducible first|refine Stp.go ?_|refine StpE.go E ?_
          refine(member_ok (D:=D) (by simp) h.gs E).mono ?_
          clear E
          rintro r w_ ⟨rfl,E⟩
          rw[memberG_eq]
          cases hm:T.member user d.group with
          |false=>(repeat with_reducible refine Stp.go ?_);exact fin48 _ _ (by rw[decide_eq_true (.inr (.inr (.inr ⟨hx,hm⟩)))]) E
          |true=>(repeat with_reducible refine Stp.go ?_);exact fin48 _ _ (by rw[decide_eq_false];rintro(h|h|h|h);exact c1 h;exact c2 h;exact c3 h;rw[hm]at h;cases h.2) E
        clear hJ176
        have own:∀w_,Hs w0 F w_ (wsL X D q d l)→(d.mode≠ -1∨d.time≠ -1∨d.group≠emp)→decide (user≠n.f.owner)=decide ((d.mode≠ -1∨d.time≠ -1∨d.group≠emp)∧user≠n.f.owner):=λ_ _ h=>decide_eq_decide.2 ⟨λh'=>⟨h,h'⟩,λh'=>h'.2⟩
        cases b3 with
        |true=>
         have hx:d.mode≠ -1:=of_decide_eq_true hb3
         repeat with_reducible refine Stp.go ?_
         refine Ld.nt E (by simp) hn (v:=str n.f.owner) rfl ?_
         repeat with_reducible refine Stp.go ?_
         refine Bi.sneqD ?_
         repeat with_reducible refine Stp.go ?_
         exact fin176 _ _ (own _ E (.inl hx)) E
        |false=>
         have hx:¬d.mode≠ -1:=of_decide_eq_false hb3
         repeat with_reducible refine Stp.go ?_
         cases b4 with
         |true=>
          have hy:d.time≠ -1:=of_decide_eq_true hb4
          repeat with_reducible refine Stp.go ?_
          refine Ld.nt E (by simp) hn (v:=str n.f.owner) rfl ?_
          repeat with_reducible refine Stp.go ?_
          refine Bi.sneqD ?_
          repeat with_reducible refine Stp.go ?_
          exact fin176 _ _ (own _ E (.inr (.inl hy))) E
         |false=>
          have hy:¬d.time≠ -1:=of_decide_eq_false hb4
          repeat with_reducible refine Stp.go ?_
          cases b2 with
          |true=>
           have hz:d.group≠emp:=of_decide_eq_true hb2
           repeat with_reducible refine Stp.go ?_
           refine Ld.nt E (by simp) hn (v:=str n.f.owner) rfl ?_
           repeat with_reducible refine Stp.go ?_
           refine Bi.sneqD ?_
           repeat with_reducible refine Stp.go ?_
           exact fin176 _ _ (own _ E (.inr (.inr hz))) E
          |false=>
           have hz:¬d.group≠emp:=of_decide_eq_false hb2
           repeat with_reducible refine Stp.go ?_
           exact fin176 _ _ (by rw[decide_eq_false];rintro⟨h|h|h,_⟩;exact hx h;exact hy h;exact hz h) E
       clear hJ172
       cases b5 with
       |false=>
        have hx:¬d.len≠ -1:=of_decide_eq_false hb5
        repeat with_reducible refine Stp.go ?_
        exact fin172 _ _ (by rw[decide_eq_false λh=>hx h.1]) E
       |true=>
        have hx:d.len≠ -1:=of_decide_eq_true hb5
        repeat with_reducible refine Stp.go ?_
        refine(isDirN hn (by simp) E).mono ?_
        clear E
        rintro r w_ ⟨rfl,E⟩
        cases hd:n.f.dir with
        |true=>(repeat with_reducible refine Stp.go ?_);exact fin172 _ _ (by rw[decide_eq_false];rintro⟨_,h,_⟩;rw[hd]at h;cases h) E
        |false=>
         repeat with_reducible refine Stp.go ?_
         refine(may_nt h hn (D:=D) (by simp) E).mono ?_
         clear E
         rintro r w_ ⟨rfl,E⟩
         cases hm:T.may user n.f 2 with
         |false=>(repeat with_reducible refine Stp.go ?_);exact fin172 _ _ (by rw[decide_eq_true ⟨hx,hd,hm⟩]) E
         |true=>(repeat with_reducible refine Stp.go ?_);exact fin172 _ _ (by rw[decide_eq_false];rintro⟨_,_,h⟩;rw[hm]at h;cases h) E
      clear hJ168
      by_cases hmv:d.name≠emp∧d.name≠n.f.name
      ·rw[decide_eq_true hmv]at hbm
       subst hbm
       obtain⟨h0,u,hu,hv,hpar⟩:=hup hmv
       repeat with_reducible refine Stp.go ?_
       refine Ld.nt E (by simp) hn hv ?_
       repeat with_reducible refine Stp.go ?_
       refine(may_nt h hu (D:=D) (by simp) E).mono ?_
       clear E
       rintro r w_ ⟨rfl,E⟩
       rw[← hpar]
       cases hm:T.may user (T.parent n.f) 2 with
       |false=>(repeat with_reducible refine Stp.go ?_);exact fin168 _ _ (by rw[decide_eq_true ⟨hmv,hm⟩]) E
       |true=>(repeat with_reducible refine Stp.go ?_);exact fin168 _ _ (by rw[decide_eq_false];rintro⟨_,h⟩;rw[hm]at h;cases h) E
      ·rw[decide_eq_false hmv]at hbm
       subst hbm
       repeat with_reducible refine Stp.go ?_
       exact fin168 _ _ (by rw[decide_eq_false λh=>hmv h.1]) E
     clear hJ44
     repeat with_reducible (refine StpW.go E ?_;clear E;intro w_ E)
     by_cases hmv:d.name≠emp∧d.name≠n.f.name
     ·rw[decide_eq_true hmv]at hbm
      subst hbm
      obtain⟨h0,u,hu,hv,hpar⟩:=hup hmv
      obtain⟨_,hp2,hudir⟩:=parent_mem hi hnT h0
      rw[hpar]at hp2 hudir
      repeat with_reducible refine Stp.go ?_
      refine Ld.nt E (by simp) hn hv ?_
      repeat with_reducible refine Stp.go ?_
      refine Ld.nt E (by simp) hu kids_val ?_
      rw[if_pos hudir]
      obtain⟨l',hml,El⟩:=mapAtN (w0:=w0) (F:=F) hu hudir (by simp) E
      repeat with_reducible first|refine Stp.go ?_|refine StpE.go E ?_
      refine Lk.one El hml u_mkids k_str z_p_node rfl ?_
      rw[aget_enc keyS]
      rcases h.kid hi hu d.name with⟨k1,k2⟩|⟨k,hk,k1,k2⟩
      ·rw[k2]
       simp only[Option.map_none,Option.getD_none]
       repeat with_reducible refine Stp.go ?_
       refine Eq.nf u_p_node rfl ?_
       repeat with_reducible refine Stp.go ?_
       exact fin44 _ _ (by rw[decide_eq_false];rintro⟨_,h⟩;rw[← hp2,k1]at h;cases h) E
      ·rw[k2]
       simp only[Option.map_some,Option.getD_some]
       repeat with_reducible refine Stp.go ?_
       refine Eq.nt u_p_node rfl ?_
       repeat with_reducible refine Stp.go ?_
       exact fin44 _ _ (by rw[decide_eq_true ⟨hmv,by rw[← hp2,k1];rfl⟩]) E
     ·rw[decide_eq_false hmv]at hbm
      subst hbm
      repeat with_reducible refine Stp.go ?_
      exact fin44 _ _ (by rw[decide_eq_false λh=>hmv h.1]) E
    clear hJ37
    skip
    cases b5 with
    |false=>
     have hx:¬d.len≠ -1:=of_decide_eq_false hb5
     repeat with_reducible refine Stp.go ?_
     exact fin37 _ _ (by rw[decide_eq_false λhc=>hx hc.1]) E
    |true=>
     have hx:d.len≠ -1:=of_decide_eq_true hb5
     repeat with_reducible first|refine Stp.go ?_|refine StpE.go E ?_
     refine Bi.neq ?_ ?_<;>intro hz<;>(repeat with_reducible refine Stp.go ?_)
     ·refine(isDirN hn (by simp) E).mono ?_
      clear E
      rintro r w_ ⟨rfl,E⟩
      repeat with_reducible refine Stp.go ?_
      refine fin37 _ _ ?_ E
      cases hd:n.f.dir with
      |true=>rw[decide_eq_true ⟨hx,hz,rfl⟩]
      |false=>rw[decide_eq_false λhc=>by cases hc.2.2]
     ·exact fin37 _ _ (by rw[decide_eq_false λhc=>hc.2.1 hz]) E
   clear hJ33
   skip
   cases b1 with
   |true=>
    have hx:d.name≠emp:=of_decide_eq_true hb1
    repeat with_reducible first|refine Stp.go ?_|refine StpE.go E ?_
    refine(Valid_ok hs1).mono ?_
    rintro r w' ⟨rfl,rfl⟩
    cases hg1:goodName d.name with
    |false=>
     repeat with_reducible refine Stp.go ?_
     exact fin33 _ _ (by rw[decide_eq_true (.inl ⟨hx,hg1⟩)]) E
    |true=>
     repeat with_reducible refine Stp.go ?_
     cases b2 with
     |false=>
      have hy:¬d.group≠emp:=of_decide_eq_false hb2
      repeat with_reducible refine Stp.go ?_
      exact fin33 _ _ (by rw[decide_eq_false λhc=>hc.elim (λh=>by rw[hg1]at h;cases h.2) λh=>hy h.1]) E
     |true=>
      have hy:d.group≠emp:=of_decide_eq_true hb2
      repeat with_reducible first|refine Stp.go ?_|refine StpE.go E ?_
      refine(Valid_ok hs2).mono ?_
      rintro r w' ⟨rfl,rfl⟩
      cases hg2:goodName d.group with
      |false=>
       repeat with_reducible refine Stp.go ?_
       exact fin33 _ _ (by rw[decide_eq_true (.inr ⟨hy,hg2⟩)]) E
      |true=>
       repeat with_reducible refine Stp.go ?_
       exact fin33 _ _ (by rw[decide_eq_false λhc=>hc.elim (λh=>by rw[hg1]at h;cases h.2) λh=>by rw[hg2]at h;cases h.2]) E
   |false=>
    have hx:¬d.name≠emp:=of_decide_eq_false hb1
    repeat with_reducible refine Stp.go ?_
    cases b2 with
    |false=>
     have hy:¬d.group≠emp:=of_decide_eq_false hb2
     repeat with_reducible refine Stp.go ?_
     exact fin33 _ _ (by rw[decide_eq_false λhc=>hc.elim (λh=>hx h.1) λh=>hy h.1]) E
    |true=>
     have hy:d.group≠emp:=of_decide_eq_true hb2
     repeat with_reducible first|refine Stp.go ?_|refine StpE.go E ?_
     refine(Valid_ok hs2).mono ?_
     rintro r w' ⟨rfl,rfl⟩
     cases hg2:goodName d.group with
     |false=>
      repeat with_reducible refine Stp.go ?_
      exact fin33 _ _ (by rw[decide_eq_true (.inr ⟨hy,hg2⟩)]) E
     |true=>
      repeat with_reducible refine Stp.go ?_
      exact fin33 _ _ (by rw[decide_eq_false λhc=>hc.elim (λh=>hx h.1) λh=>by rw[hg2]at h;cases h.2]) E
  clear hJ29
  (intro J415 hJ415)
  have fin415:∀b w_,b=decide (¬(d.kind=0∧d.vers=0∧d.path=0)∨d.owner≠emp∨d.last≠emp∨d.len< -1∨d.time< -1∨(d.name≠emp∧n.f.path=0))→Hs w0 F w_ (wsL X D q d l)→J415 [.bool b] w_:=by
   intro b w_ hb E
   repeat with_reducible (apply hJ415;intro u_)
   clear hJ415
   by_cases c1:¬(d.kind=0∧d.vers=0∧d.path=0)∨d.owner≠emp∨d.last≠emp∨d.len< -1∨d.time< -1∨(d.name≠emp∧n.f.path=0)
   ·rw[decide_eq_true c1]at hb
    subst hb
    repeat with_reducible refine Stp.go ?_
    exact fin29 _ _ (by rw[decide_eq_true (.inl c1)]) E
   rw[decide_eq_false c1]at hb
   subst hb
   repeat with_reducible first|refine Stp.go ?_|(refine StpW.go E ?_;clear E;intro w_ E)
   cases b3 with
   |false=>
    have hx:¬d.mode≠ -1:=of_decide_eq_false hb3
    repeat with_reducible refine Stp.go ?_
    exact fin29 _ _ (by rw[decide_eq_false λhc=>hc.elim c1 λh=>hx h.1]) E
   |true=>
    have hx:d.mode≠ -1:=of_decide_eq_true hb3
    repeat with_reducible first|refine Stp.go ?_|refine StpE.go E ?_
    refine(right_ok E).mono ?_
    clear E
    rintro r w_ ⟨rfl,E⟩
    cases hr:rightM d.mode with
    |false=>
     repeat with_reducible refine Stp.go ?_
     exact fin29 _ _ (by rw[decide_eq_true (.inr ⟨hx,.inl hr⟩)]) E
    |true=>
     repeat with_reducible first|refine Stp.go ?_|refine StpE.go E ?_
     refine Ld.nt E (by simp) hn (v:=i64 n.f.mode) rfl ?_
     repeat with_reducible refine Stp.go ?_
     refine Bi.neqD ?_
     repeat with_reducible refine Stp.go ?_
     refine fin29 _ _ ?_ E
     by_cases hc:andI d.mode 2147483648≠andI n.f.mode 2147483648
     ·rw[decide_eq_true hc,decide_eq_true (.inr ⟨hx,.inr hc⟩)]
     ·rw[decide_eq_false hc,decide_eq_false λhy=>hy.elim c1 λh=>h.2.elim (λh=>by rw[hr]at h;cases h) hc]
  clear hJ415
  repeat with_reducible first|refine Stp.go ?_|refine StpE.go E ?_
  have eq3:ceqL [i64 d.kind,i64 d.vers,i64 d.path] [i64 0,i64 0,i64 0]=decide (d.kind=0∧d.vers=0∧d.path=0):=by
   simp only[ceqL,ceq,Bool.and_true]
   by_cases x1:d.kind=0<;>by_cases x2:d.vers=0<;>by_cases x3:d.path=0<;>simp[x1,x2,x3]
  refine EqS.n (xs:=[i64 d.kind,i64 d.vers,i64 d.path]) (ys:=[i64 0,i64 0,i64 0]) lv_Qid st_Qid g_Qid rfl rfl ?_
  rw[eq3]
  by_cases k1:d.kind=0∧d.vers=0∧d.path=0
  rotate_left
  ·rw[decide_eq_false k1,Bool.not_false]
   repeat with_reducible refine Stp.go ?_
   exact fin415 _ _ (by rw[decide_eq_true (.inl k1)]) E
  rw[decide_eq_true k1,Bool.not_true]
  repeat with_reducible first|refine Stp.go ?_|refine StpE.go E ?_
  refine Bi.sneq ?_ ?_<;>intro k2<;>(repeat with_reducible first|refine Stp.go ?_|refine StpE.go E ?_)
  ·have k2:d.owner≠emp:=k2
   exact fin415 _ _ (by rw[decide_eq_true (.inr (.inl k2))]) E
  have k2':¬d.owner≠emp:=λh=>h k2
  refine Bi.sneq ?_ ?_<;>intro k3<;>(repeat with_reducible first|refine Stp.go ?_|refine StpE.go E ?_)
  ·have k3:d.last≠emp:=k3
   exact fin415 _ _ (by rw[decide_eq_true (.inr (.inr (.inl k3)))]) E
  have k3':¬d.last≠emp:=λh=>h k3
  refine Bi.lss ?_ ?_<;>intro k4<;>(repeat with_reducible first|refine Stp.go ?_|refine StpE.go E ?_)
  ·exact fin415 _ _ (by rw[decide_eq_true (.inr (.inr (.inr (.inl k4))))]) E
  have k4':¬d.len< -1:=by omega
  refine Bi.lss ?_ ?_<;>intro k5<;>(repeat with_reducible refine Stp.go ?_)
  ·exact fin415 _ _ (by rw[decide_eq_true (.inr (.inr (.inr (.inr (.inl k5)))))]) E
  have k5':¬d.time< -1:=by omega
  have rest:∀{p:Prop} [Decidable p],(p↔d.name≠emp∧n.f.path=0)→decide p=decide (¬(d.kind=0∧d.vers=0∧d.path=0)∨d.owner≠emp∨d.last≠emp∨d.len< -1∨d.time< -1∨(d.name≠emp∧n.f.path=0)):=by
   intro p _ hp
   refine decide_eq_decide.2 (hp.trans ⟨λh=>.inr (.inr (.inr (.inr (.inr h)))),λh=>?_⟩)
   rcases h with h|h|h|h|h|h
   ·exact absurd k1 h
   ·exact absurd h k2'
   ·exact absurd h k3'
   ·exact absurd h k4'
   ·exact absurd h k5'
   ·exact h
  cases b1 with
  |false=>
   have hx:¬d.name≠emp:=of_decide_eq_false hb1
   repeat with_reducible refine Stp.go ?_
   exact fin415 _ _ (by rw[← rest (p:=False) ⟨λh=>h.elim,λh=>hx h.1⟩];rfl) E
  |true=>
   have hx:d.name≠emp:=of_decide_eq_true hb1
   repeat with_reducible first|refine Stp.go ?_|refine StpE.go E ?_
   obtain⟨r0,hr0,hr1,hr2⟩:=h.root
   refine Eq.pp u_p_node n_node (Hs.ntAt E (by simp) hn) (by rw[← hr2];exact Hs.ntAt E (by simp) hr0) ?_
   have hroot:((⟨n.blk,0,none⟩:Addr)=⟨X.root,0,none⟩)↔d.name≠emp∧n.f.path=0:=by
    constructor
    ·intro e
     have e:n.blk=X.root:=congrArg Addr.block e
     have:=Hs.nodupN' E (by simp) n hn r0 hr0 (by rw[e,hr2])
     exact⟨hx,by rw[this,hr1]⟩
    ·intro h0
     have hrn:r0=n:=h.inj hi hr0 hn (by rw[hr1,h0.2])
     rw[← hr2,hrn]
   rw[rest hroot]
   repeat with_reducible refine Stp.go ?_
   exact fin415 _ _ rfl E
 clear hJ25
 repeat with_reducible (refine StpW.go E ?_;clear E;intro w_ E)
 cases b1 with
 |false=>
  repeat with_reducible refine Stp.go ?_
  have:¬d.name≠emp:=of_decide_eq_false hb1
  exact fin25 _ _ (by rw[decide_eq_false λhc=>this hc.1]) E
 |true=>
  have h1:d.name≠emp:=of_decide_eq_true hb1
  repeat with_reducible first|refine Stp.go ?_|refine StpE.go E ?_
  refine Ld.nt E (by simp) hn (v:=str n.f.name) rfl ?_
  repeat with_reducible refine Stp.go ?_
  refine Bi.sneqD ?_
  repeat with_reducible refine Stp.go ?_
  refine fin25 _ _ ?_ E
  by_cases hc:d.name≠n.f.name
  ·rw[decide_eq_true hc,decide_eq_true ⟨h1,hc⟩]
  ·rw[decide_eq_false hc,decide_eq_false λhx=>hc hx.2]
set_option maxRecDepth 100000
set_option linter.unusedVariables false
set_option linter.unusedSimpArgs false
variable {T:Tr}
theorem chg_mem{user:BA}{ps:List Int}{m:Nd}(h:m∈(T.change user ps).ns):∃q∈T.ns,m.path=q.path∧m.up=q.up∧m.name=q.name∧m.mode=q.mode∧m.data=q.data∧m.owner=q.owner∧m.group=q.group:=by
 have key:∀(ps:List Int) (T:Tr) (m:Nd),m∈(ps.foldl (λT p=>T.upd p (touchN T.clock user)) T).ns→∃q∈T.ns,m.path=q.path∧m.up=q.up∧m.name=q.name∧m.mode=q.mode∧m.data=q.data∧m.owner=q.owner∧m.group=q.group:=by
  intro ps
  induction ps with
  |nil=>intro T m h;exact⟨m,h,rfl,rfl,rfl,rfl,rfl,rfl,rfl⟩
  |cons p ps ih=>
   intro T m h
   obtain⟨q,hq,e⟩:=ih _ m h
   obtain⟨q0,hq0,rfl⟩:=updN_mem hq
   refine⟨q0,hq0,?_⟩
   split at e<;>exact e
 exact key ps T.tick m h
theorem given_inv(hi:Inv T){n:Nd}(hn:n∈T.ns)(user:BA)(ps:List Int){d:Dr}(h1:¬(d.len< -1))(h2:¬d.time< -1)(hm:¬(d.mode≠ -1∧(rightM d.mode=false∨andI d.mode 2147483648≠andI n.mode 2147483648)))
  (hg:¬(d.group≠emp∧goodName d.group=false))(hl:¬1048576<d.len):Inv ((T.change user ps).upd n.path (given1 d)):=by
 have hi2:=hi.change user ps
 have hmem:∀m∈(T.change user ps).ns,m.path=n.path→m.mode=n.mode:=by
  intro m hm hp
  obtain⟨q,hq,e1,e2,e3,e4,_⟩:=chg_mem hm
  have:q=n:=hi.inj hq hn (by rw[← e1,hp])
  rw[e4,this]
 refine hi2.upd (T.change user ps).clock hi2.clock (λm hm1 hp=>⟨rfl,rfl,rfl,given1_dir (by rw[hmem m hm1 hp];exact hm)⟩) (λm hm1 hp=>?_) λm hm1 hp=>?_
 ·have hd:=hi2.data m hm1
  have e:(given1 d m).dir=m.dir:=given1_dir (by rw[hmem m hm1 hp];exact hm)
  have e2:(given1 d m).data=if d.len= -1∨m.dir=true then m.data else sized m.data d.len.toNat:=rfl
  rw[e,e2]
  constructor
  ·intro hdir
   rw[if_pos (.inr hdir)]
   exact hd.1 hdir
  ·split
   ·exact hd.2
   ·rw[sized_size];omega
 ·have hf:=hi2.form m hm1
  refine⟨hf.1,?_,?_,hf.2.2.2.1,?_⟩
  ·show goodName (if d.group=emp then m.group else d.group)=true
   split
   ·exact hf.2.1
   ·rename_i hne
    cases hgd:goodName d.group with
    |true=>rfl
    |false=>exact absurd ⟨hne,hgd⟩ hg
  ·show rightM (if d.mode= -1 then m.mode else d.mode)=true
   split
   ·exact hf.2.2.1
   ·rename_i hne
    cases hr:rightM d.mode with
    |true=>rfl
    |false=>exact absurd ⟨hne,.inl hr⟩ hm
  ·show 0≤if d.time= -1 then m.time else d.time
   split
   ·exact hf.2.2.2.2
   ·omega
theorem wstat_inv(hi:Inv T)(user:BA)(file:Int)(d:Dr):Inv (T.wstat user file d).1:=by
 unfold Tr.wstat
 split
 ·exact hi
 rename_i n hg
 obtain⟨hn,hp⟩:=hi.get.1 hg
 subst hp
 simp only[]
 split
 ·exact hi
 rename_i c1
 split
 ·exact hi
 rename_i c2
 split
 ·exact hi
 rename_i c3
 split
 ·exact hi
 split
 ·exact hi
 rename_i c5
 split
 ·exact hi
 rename_i c6
 split
 ·exact hi
 split
 ·exact hi
 have k1:¬d.len< -1:=λh=>c1 (.inr (.inr (.inr (.inl h))))
 have k2:¬d.time< -1:=λh=>c1 (.inr (.inr (.inr (.inr (.inl h)))))
 have k3:¬(d.group≠emp∧goodName d.group=false):=λh=>c3 (.inr h)
 by_cases hmv:d.name≠emp∧d.name≠n.name
 ·have h0:n.path≠0:=λh=>c1 (.inr (.inr (.inr (.inr (.inr ⟨hmv.1,h⟩)))))
  have hfree:T.kid n.up d.name=none:=by
   cases hk:T.kid n.up d.name with
   |none=>rfl
   |some k=>exact absurd ⟨hmv,by rw[hk];rfl⟩ c6
  have hgood:goodName d.name=true:=by
   cases hg:goodName d.name with
   |true=>rfl
   |false=>exact absurd (.inl ⟨hmv.1,hg⟩) c3
  have hne:n.up≠n.path:=by
   obtain⟨rk,hrk⟩:=hi.rank
   intro e
   have:=hrk n hn h0
   rw[e]at this;omega
  rw[if_pos hmv,← wstat_eq2 hne hmv.1]
  have i1:=rename_inv hi hn h0 hgood hfree
  have hn1:named d.name n∈(T.upd n.path (named d.name)).ns:=List.mem_map.2 ⟨n,hn,if_pos rfl⟩
  exact given_inv i1 hn1 user [n.path,n.up] k1 k2 c2 k3 c5
 ·rw[if_neg hmv,← wstat_eq1 hi hn hmv]
  exact given_inv hi hn user [n.path] k1 k2 c2 k3 c5
set_option maxRecDepth 100000
set_option linter.unusedVariables false
set_option linter.unusedSimpArgs false
variable {w0 w:World} {F:Nat→Prop} {l:List As}
theorem map_cancel{α γ:Type}{f:α→γ}(hf:∀x y,f x=f y→x=y):∀{l m:List α},l.map f=m.map f→l=m
 |[],[],_=>rfl
 |x::l,y::m,h=>by
  simp only[List.map_cons,List.cons.injEq]at h
  rw[hf x y h.1,map_cancel hf h.2]
 |[],_::_,h=>by simp at h
 |_::_,[],h=>by simp at h
theorem permBack(B ks rest:List As):(B++(ks++rest)).Perm (ks++(B++rest)):=by
 rw[← List.append_assoc,← List.append_assoc]
 exact List.perm_append_comm.append_right rest
theorem perm2{A B:As}(ks rest:List As):(ks++([A,B]++rest)).Perm (A::B::(ks++rest)):=by
 rw[← List.append_assoc]
 exact((List.perm_append_comm (l₁:=ks) (l₂:=[A,B])).append_right rest)
theorem perm3{A B C:As}(ks rest:List As):(A::B::C::(ks++rest)).Perm (ks++([]++(A::B::C::rest))):=by
 rw[List.nil_append]
 exact permBack [A,B,C] ks rest
theorem b_keysS1:hasBody PP Fn.f5=true:=by kernel_rfl
abbrev keysSF(a:Nat):Value:=.func (.func Fn.f5) #[] #[ptr a]
theorem keysS_iter {a m : Nat} {M : List (BA × Nat)} :
  Iter PP w0 F (keysSF a) str (fun pre x=>pre.length < M.length∧x∈M.map (·.1)) (fun xs=>xs.Perm (M.map (·.1))) [pt a (oc [.map (some m)] Ty.t3),mp m .str (encM str ptr M)] [] [pt a (oc [.map (some m)] Ty.t3),mp m .str (encM str ptr M)]:=by
 intro K S_ y w ks rest hy h0 E
 refine CaV.mk b_keysS1 ?_
 refine S.f5.calls (a0:=y) (a1:=ptr a) ?_
 unfold S.f5
 have E1 : Hs w0 F w (pt a (oc [.map (some m)] Ty.t3)::mp m .str (encM str ptr M)::(ks++rest)):=E.perm (perm2 ks rest)
 clear E
 have E:=E1
 clear E1
 repeat with_reducible refine StpE.go E ?_
 refine Rg.mp E u_mkids ?_
 clear E
 intro it es clock w_ hit hes hw hok E
 have hlenM : es.size = M.length:=by
  have:=congrArg List.length hes
  rw [encM_length] at this
  unfold prs at this
  simpa using this
 obtain ⟨ky,hky⟩ : ∃ ky : MapEntry→BA,∀ e∈es.toList,e.key = str (ky e)∧ky e∈M.map (·.1):=by
  have : ∀ e : MapEntry,∃ k : BA,e∈es.toList→e.key = str k∧k∈M.map (·.1):=by
   intro e
   by_cases he : e∈es.toList
   ·have hm : (e.key,e.val)∈encM str ptr M:=by rw [← hes]; exact List.mem_map.2 ⟨e,he,rfl⟩
    obtain ⟨p,hp,hpe⟩:=List.mem_map.1 hm
    exact ⟨p.1,fun _=>⟨(congrArg Prod.fst hpe).symm,List.mem_map.2 ⟨p,hp,rfl⟩⟩⟩
   ·exact ⟨emp,fun h=>absurd h he⟩
  exact ⟨fun e=>Classical.choose (this e),fun e he=>Classical.choose_spec (this e) he⟩
 have hperm : ∀ ms,es.toList.Perm ms→(ms.map ky).Perm (M.map (·.1)):=by
  intro ms hp
  have h1 : (es.toList.map ky).Perm (ms.map ky):=hp.map ky
  refine h1.symm.trans ?_
  have h2 : es.toList.map ky = M.map (·.1):=by
   have h3 : (prs es.toList).map (·.1) = (encM str ptr M).map (·.1):=by rw [hes]
   unfold prs encM at h3
   rw [List.map_map,List.map_map] at h3
   have h4 : es.toList.map (str ∘ ky) = (M.map (·.1)).map str:=by
    rw [List.map_map]
    refine Eq.trans (List.map_congr_left fun e he=>?_) h3
    exact (hky e he).1.symm
   rw [← List.map_map] at h4
   exact map_cancel (fun x y h=>by injection h) h4
  rw [h2]
 refine ⟨fun l1 w1=>l1 = []∧∃ ms ks,Wlk es clock ms∧K (ms.map ky) ks∧Hs w0 F w1 (pt it (itO m clock ms)::pt m (mapO es clock)::pt a (oc [.map (some m)] Ty.t3)::(ks++rest)),fun _ w1=>itM it (es.size + 1) w1,⟨rfl,[],ks,hw,h0,E⟩,?_⟩
 clear E hw h0 ks
 rintro u w1 ⟨-,ms,ks,hw,hK,E⟩
 refine Nx.mp E hw ?_ ?_
 ·intro e w_ he hn2 hw2 E2
  have hmm : itM it (es.size + 1) w1 = es.size + 1 - ms.length:=itM_eq E
  have hle:=hw2.le
  simp only [List.length_append,List.length_cons,List.length_nil] at hle
  clear E
  have E:=E2
  clear E2
  repeat with_reducible refine Stp.go ?_
  refine Ent.mp E hw2 ?_
  obtain ⟨k1,k2⟩:=hky e he
  rw [k1]
  repeat with_reducible refine Stp.go ?_
  refine (hy (ms.map ky) (ky e) w_ ks (pt it (itO m clock (ms++[e]))::pt m (mapO es clock)::pt a (oc [.map (some m)] Ty.t3)::rest) ⟨by rw [List.length_map]; omega,k2⟩ hK (E.perm (perm3 ks rest))).mono ?_
  clear E
  have happ : ms.map ky++[ky e] = (ms++[e]).map ky:=by simp
  rw [happ]
  rintro r w_ (⟨rfl,ks',hk',E'⟩ | ⟨rfl,ks',hs',E'⟩)
  ·have E : Hs w0 F w_ (pt it (itO m clock (ms++[e]))::pt m (mapO es clock)::pt a (oc [.map (some m)] Ty.t3)::(ks'++rest)):=E'.perm (perm3 ks' rest).symm
   clear E'
   repeat with_reducible refine Stp.go ?_
   refine ⟨⟨rfl,ms++[e],ks',hw2,hk',E⟩,?_⟩
   show itM it (es.size + 1) w_ < itM it (es.size + 1) w1
   rw [hmm,itM_eq E]
   simp; omega
  ·have E : Hs w0 F w_ (pt it (itO m clock (ms++[e]))::pt m (mapO es clock)::pt a (oc [.map (some m)] Ty.t3)::(ks'++rest)):=E'.perm (perm3 ks' rest).symm
   clear E'
   repeat with_reducible refine Stp.go ?_
   refine .inr ⟨_,ks',hs',?_⟩
   replace E:=Hs.mapBack (m:=m) (kt:=.str) (M:=encM str ptr M) E hes hw2 hok
   replace E:=(E.bIx 1).tl
   (replace E:=((E.bIx 0).bIx 1))
   exact E.perm (perm2 ks' rest).symm
 ·intro hp
  repeat with_reducible refine Stp.go ?_
  refine .inl ⟨ms.map ky,ks,hperm ms hp,hK,?_⟩
  replace E:=Hs.mapBack (m:=m) (kt:=.str) (M:=encM str ptr M) E hes hw hok
  replace E:=(E.bIx 1).tl
  (replace E:=((E.bIx 0).bIx 1))
  exact E.perm (perm2 ks rest).symm
set_option maxRecDepth 100000
set_option linter.unusedVariables false
set_option linter.unusedSimpArgs false
variable {w0 w:World} {F:Nat→Prop} {l:List As}
variable {D:List Row} {X:PT} {T:Tr} {β:Int→Nat}
theorem sortS_perm{xs ys:List BA}(h:xs.Perm ys):sortS xs=sortS ys:=by
 unfold sortS
 congr 1
 have so:∀zs:List (List UInt8),(zs.mergeSort λx y=>decide (x≤y)).Pairwise (λa b=>a≤b):=λzs=>by
  have:=List.pairwise_mergeSort (le:=λx y:List UInt8=>decide (x≤y)) (λa b c h1 h2=>by simp at h1 h2 ⊢;exact List.le_trans h1 h2) (λa b=>by simp;exact List.le_total a b) zs
  exact this.imp λh=>by simpa using h
 refine List.Perm.eq_of_pairwise (le:=λa b=>a≤b) (λa b _ _ h1 h2=>List.le_antisymm h1 h2) (so _) (so _) ?_
 exact(List.mergeSort_perm _ _).trans ((h.map byt).trans (List.mergeSort_perm _ _).symm)
theorem sortS_mem(xs:List BA):(sortS xs).Perm xs:=by
 unfold sortS
 have h1:=(List.mergeSort_perm (xs.map byt) λx y=>decide (x≤y)).map λl:List UInt8=>(⟨l.toArray⟩:ByteArray)
 refine h1.trans ?_
 rw[List.map_map]
 have e:((λl:List UInt8=>(⟨l.toArray⟩:ByteArray)) ∘ byt)=id:=by funext x;exact byt_mk x
 rw[e,List.map_id]

def Tr.kidsS (T : Tr) (p : Int) : List Nd:=(sortS ((T.kids p).map (·.name))).filterMap (T.kid p)
theorem kid_of (hi : Inv T) {p : Int} {s : BA} (h : s∈(T.kids p).map (·.name)) : ∃ k,T.kid p s = some k∧k.name = s:=by
 obtain ⟨k,hk,rfl⟩:=List.mem_map.1 h
 unfold Tr.kids at hk
 obtain ⟨h1,h2⟩:=List.mem_filter.1 hk
 unfold Tr.isKid at h2
 have h2:=of_decide_eq_true h2
 exact ⟨k,(kid_some hi).2 ⟨h1,h2.1,h2.2,rfl⟩,rfl⟩
theorem kidsS_names (hi : Inv T) (p : Int) : (T.kidsS p).map (·.name) = sortS ((T.kids p).map (·.name)):=by
 unfold Tr.kidsS
 have hm : ∀ s∈sortS ((T.kids p).map (·.name)),s∈(T.kids p).map (·.name):=fun s hs=>(sortS_mem _).mem_iff.1 hs
 generalize sortS ((T.kids p).map (·.name)) = S at hm
 induction S with
 | nil=>rfl
 | cons s r ih =>
  obtain ⟨k,hk,hn⟩:=kid_of hi (hm s List.mem_cons_self)
  rw [List.filterMap_cons,hk]
  simp only [List.map_cons,hn]
  rw [ih fun x hx=>hm x (List.mem_cons_of_mem _ hx)]
theorem kidsS_mem(hi:Inv T){p:Int}{k:Nd}(h:k∈T.kidsS p):k∈T.ns∧k.path≠0∧k.up=p:=by
 unfold Tr.kidsS at h
 obtain⟨s,_,hk⟩:=List.mem_filterMap.1 h
 obtain⟨h1,h2,h3,_⟩:=(kid_some hi).1 hk
 exact⟨h1,h2,h3⟩
theorem kidsS_get (hi : Inv T) {p : Int} {i : Nat} {s : BA} (h : (sortS ((T.kids p).map (·.name)))[i]? = some s) : ∃ k,(T.kidsS p)[i]? = some k∧T.kid p s = some k:=by
 have hn:=kidsS_names hi p
 have h1 : ((T.kidsS p).map (·.name))[i]? = some s:=by rw [hn]; exact h
 rw [List.getElem?_map] at h1
 cases hk : (T.kidsS p)[i]? with
 | none=>rw [hk] at h1; cases h1
 | some k =>
  rw [hk] at h1
  have hks : k.name = s:=by simpa using h1
  refine ⟨k,rfl,?_⟩
  obtain ⟨m1,m2,m3⟩:=kidsS_mem hi (List.mem_of_getElem? hk)
  exact (kid_some hi).2 ⟨m1,m2,m3,hks⟩
theorem kids_perm (h : Tie D X T β) {n : PN} (hn : n∈X.ps) : (n.kl.map (·.1)).Perm ((T.kids n.f.path).map (·.name)):=by
 have h1:=(h.kl n hn).map (·.1)
 rw [List.map_map] at h1
 refine h1.trans ?_
 have h2:=((h.ns.filter (Tr.isKid n.f.path)).map fun k : Nd=>k.name)
 unfold Tr.kids
 refine List.Perm.trans ?_ h2
 rw [List.filter_map,List.map_map]
 exact List.Perm.refl _
theorem perm4{A B C D:As}(ks rest:List As):(C::D::B::A::(ks++rest)).Perm (ks++([A,B]++(C::D::rest))):=by
 have h1:(C::D::B::A::(ks++rest)).Perm (A::B::C::D::(ks++rest)):=by
  refine((List.Perm.swap _ _ _).cons C).trans ?_
  refine(List.Perm.swap _ _ _).trans ?_
  refine((List.perm_middle (l₁:=[C,D]) (a:=A) (l₂:=ks++rest)).cons B).trans ?_
  exact List.Perm.swap _ _ _
 exact h1.trans (permBack [A,B,C,D] ks rest)
theorem Keys_ok{m:Nat}(E:Hs w0 F w l):Ca PP Fn.f7 #[.map (some m)] w λr w'=>∃a,r=keysSF a∧Hs w0 F w' (pt a (oc [.map (some m)] Ty.t3)::l):=by
 refine S.f7.calls ?_
 unfold S.f7
 repeat with_reducible (refine StpA.go E ?_;clear E;intro b_ w_ hb_ E)
 exact⟨b_,rfl,E⟩
abbrev sortedF(a:Nat):Value:=.func (.func Fn.f43) #[] #[ptr a]
theorem b_sorted1:hasBody PP Fn.f43=true:=by kernel_rfl
theorem sorted_ok{n:PN}(E:Hs w0 F w l):Ca PP Fn.f65 #[ptr n.blk] w λr w'=>∃a,r=sortedF a∧Hs w0 F w' (pt a (oc [ptr n.blk] Ty.t4)::l):=by
 refine S.f65.calls ?_
 unfold S.f65
 repeat with_reducible (refine StpA.go E ?_;clear E;intro b_ w_ hb_ E)
 exact⟨b_,rfl,E⟩

structure KidsL(X:PT)(T:Tr)(p:Int)(L:List PN):Prop where
 mem:∀k∈L,k∈X.ps
 eq:L.map PN.f=T.kidsS p
theorem kidsL(h:Tie D X T β)(hi:Inv T)(p:Int):∃L,KidsL X T p L:=by
 have:∀S:List Nd,(∀k∈S,k∈T.ns)→∃L:List PN,(∀k∈L,k∈X.ps)∧L.map PN.f=S:=by
  intro S
  induction S with
  |nil=>intro _;exact⟨[],(λ_ h=>by cases h),rfl⟩
  |cons s r ih=>
   intro hs
   obtain⟨L,h1,h2⟩:=ih λk hk=>hs k (List.mem_cons_of_mem _ hk)
   obtain⟨q,hq,rfl⟩:=h.mem.1 (hs s List.mem_cons_self)
   refine⟨q::L,λk hk=>?_,by rw[List.map_cons,h2]⟩
   rcases List.mem_cons.1 hk with rfl|hk
   ·exact hq
   ·exact h1 k hk
 obtain⟨L,h1,h2⟩:=this (T.kidsS p) λk hk=>(kidsS_mem hi hk).1
 exact⟨L,h1,h2⟩
theorem sorted_iter (h : Tie D X T β) (hi : Inv T) {n : PN} (hn : n∈X.ps) (hd : n.f.dir = true) {a : Nat} {L : List PN} (hL : KidsL X T n.f.path L) :
    Iter PP w0 F (sortedF a) (fun k : PN=>ptr k.blk) (InOrder L) (· = L) [pt a (oc [ptr n.blk] Ty.t4),NT X.ps] [pt a (oc [ptr n.blk] Ty.t4),NT X.ps] [pt a (oc [ptr n.blk] Ty.t4),NT X.ps]:=by
  intro K S_ y w ks rest hy h0 E
  refine CaV.mk b_sorted1 ?_
  refine S.f43.calls (a0:=y) (a1:=ptr a) ?_
  unfold S.f43
  have E1 : Hs w0 F w (pt a (oc [ptr n.blk] Ty.t4)::NT X.ps::(ks++rest)):=E.perm (perm2 ks rest)
  clear E
  have E:=E1
  clear E1
  repeat with_reducible first|refine Stp.go ?_|refine StpE.go E ?_
  refine Ld.nt E (by simp) hn kids_val ?_
  rw [if_pos hd]
  refine (Keys_ok E).mono ?_
  clear E
  rintro r w_ ⟨b,rfl,E⟩
  -- the directory's map
  obtain ⟨rs,hp⟩:=split_perm hn
  replace E:=Hs.openN (E.bIx 2) hp
  replace E:=Hs.openK hd (E.bIx 1)
  (replace E:=((E.bIx 0).bIx 3))
  have hkp:=kids_perm h hn
  have hlen : n.kl.length≤1024:=by
    have h1 : n.kl.length = (T.kids n.f.path).length:=by
      have:=hkp.length_eq
      rw [List.length_map,List.length_map] at this; exact this
    have h2 : (T.kids n.f.path).length≤T.ns.length:=List.length_filter_le _ _
    have:=hi.few.1
    omega
  refine (Sorted_ok (rest:=nd n.blk n.mn::NT rs::pt a (oc [ptr n.blk] Ty.t4)::(ks++rest)) rfl b_keysS1 (keysS_iter (M:=n.kl)) (fun pre x hp=>by have:=hp.1; omega) (fun xs hx=>by have:=hx.length_eq; rw [List.length_map] at this; omega) E).mono ?_
  clear E
  rintro v w_ ⟨xs,hxs,E⟩
  have hS : sortS xs = sortS ((T.kids n.f.path).map (·.name)):=sortS_perm (hxs.trans hkp)
  rw [hS] at E
  have hSn:=kidsS_names hi n.f.path
  generalize hSS : sortS ((T.kids n.f.path).map (·.name)) = SS at *
  have hLlen : L.length = SS.length:=by
    have:=congrArg List.length hL.eq
    rw [List.length_map] at this
    have h2:=congrArg List.length hSn
    rw [List.length_map] at h2
    omega
  have hSlen : SS.length≤1024:=by
    have h1:=(sortS_perm hxs).symm
    have h2:=congrArg List.length hS
    rw [sortS_len] at h2
    have:=hxs.length_eq
    rw [List.length_map] at this
    omega
  replace E : Hs w0 F w_ (slA v Ty.t9 1 (SS.map str)::pt b (oc [.map (some n.kb)] Ty.t3)::NT X.ps::pt a (oc [ptr n.blk] Ty.t4)::(ks++rest)):=by
    simp only [List.cons_append,List.nil_append] at E
    replace E:=Hs.closeK hd (E.bIx 2)
    (replace E:=(((E.bIx 4).bIx 1).bIx 4))
    replace E:=Hs.permN (Hs.closeN n E) hp.symm
    (replace E:=((((E.bIx 3).bIx 1).bIx 3).bIx 3))
    exact E
  repeat with_reducible refine StpE.go E ?_
  rw [List.length_map]
  refine ⟨fun l1 w1=>∃ (i : Nat) (ks : List As),l1 = [i64 i]∧i≤SS.length∧K (L.take i) ks∧Hs w0 F w1 (slA v Ty.t9 1 (SS.map str)::pt b (oc [.map (some n.kb)] Ty.t3)::NT X.ps::pt a (oc [ptr n.blk] Ty.t4)::(ks++rest)),
    fun l1 _=>match l1 with | [.int _ i]=>SS.length - i.toNat | _=>0,⟨0,ks,rfl,Nat.zero_le _,h0,E⟩,?_⟩
  clear E h0 ks
  rintro t u w1 ⟨i,ks,h1,hi1,hK,E⟩
  cases h1
  refine Bi.lss ?_ ?_ <;> intro hlt <;> (repeat with_reducible refine Stp.go ?_)
  · have hx : SS[i]? = some SS[i]:=List.getElem?_eq_getElem (by omega)
    refine IxA.sl E (by (first | assumption | exact FPt.mem | exact FMp.mem | exact FSl.mem|(repeat (first | assumption | with_reducible exact List.mem_cons_self|refine List.mem_cons_of_mem _ ?_)))) (by omega) (by omega) (by simp; omega) ?_
    intro ad had
    refine Ld.sl E (by (first | assumption | exact FPt.mem | exact FMp.mem | exact FSl.mem|(repeat (first | assumption | with_reducible exact List.mem_cons_self|refine List.mem_cons_of_mem _ ?_)))) had (x:=str SS[i]) (by simp [hx]) ?_
    repeat with_reducible first|refine Stp.go ?_|refine StpE.go E ?_
    refine Ld.nt E (by simp) hn kids_val ?_
    rw [if_pos hd]
    obtain ⟨l',hml,El⟩:=mapAtN (w0:=w0) (F:=F) hn hd (by simp) E
    refine Lk.one El hml u_mkids k_str z_p_node rfl ?_
    rw [aget_enc keyS]
    obtain ⟨kf,k1,k2⟩:=kidsS_get hi (p:=n.f.path) (i:=i) (s:=SS[i]) (by rw [hSS]; exact hx)
    have hLi : (L.map PN.f)[i]? = some kf:=by rw [hL.eq]; exact k1
    rw [List.getElem?_map] at hLi
    obtain ⟨k,hk,hkf⟩ : ∃ k,L[i]? = some k∧k.f = kf:=by
      cases hq : L[i]? with
      | none=>rw [hq] at hLi; cases hLi
      | some k=>rw [hq] at hLi; exact ⟨k,rfl,by simpa using hLi⟩
    have hkX:=hL.mem k (List.mem_of_getElem? hk)
    have hget : getL n.kl SS[i] = some k.blk:=by
      rcases h.kid hi hn SS[i] with ⟨c1,_⟩ | ⟨k',hk',c1,c2⟩
      · rw [k2] at c1; cases c1
      · rw [k2] at c1
        have : k'.f = k.f:=by rw [hkf]; exact (Option.some.inj c1).symm
        have : k' = k:=h.inj hi hk' hkX (by rw [this])
        rw [c2,this]
    rw [hget]
    simp only [Option.map_some,Option.getD_some]
    have htl : (L.take i).length = i:=by rw [List.length_take]; omega
    refine (hy (L.take i) k w1 ks (slA v Ty.t9 1 (SS.map str)::pt b (oc [.map (some n.kb)] Ty.t3)::rest) ⟨by rw [htl],by rw [htl]; exact hk⟩ hK (E.perm (by
      have h1:=perm4 (A:=pt a (oc [ptr n.blk] Ty.t4)) (B:=NT X.ps) (C:=slA v Ty.t9 1 (SS.map str)) (D:=pt b (oc [.map (some n.kb)] Ty.t3)) ks rest
      exact h1))).mono ?_
    have htk : L.take i++[k] = L.take (i + 1):=by rw [List.take_add_one,hk]; rfl
    rw [htk]
    clear E El
    rintro r w_ (⟨rfl,ks',hk',E'⟩ | ⟨rfl,ks',hs',E'⟩)
    · have E:=E'.perm (perm4 (A:=pt a (oc [ptr n.blk] Ty.t4)) (B:=NT X.ps) (C:=slA v Ty.t9 1 (SS.map str)) (D:=pt b (oc [.map (some n.kb)] Ty.t3)) ks' rest).symm
      clear E'
      repeat with_reducible refine Stp.go ?_
      refine Bi.add (by omega) ?_
      exact ⟨⟨i + 1,ks',by simp,by omega,hk',E⟩,by simp only []; omega⟩
    · have E:=E'.perm (perm4 (A:=pt a (oc [ptr n.blk] Ty.t4)) (B:=NT X.ps) (C:=slA v Ty.t9 1 (SS.map str)) (D:=pt b (oc [.map (some n.kb)] Ty.t3)) ks' rest).symm
      clear E'
      repeat with_reducible refine Stp.go ?_
      refine .inr ⟨_,ks',hs',?_⟩
      replace E:=E.tl.tl
      (replace E:=((E.bIx 0).bIx 1))
      exact E.perm (perm2 ks' rest).symm
  · have : L.take i = L:=List.take_of_length_le (by omega)
    rw [this] at hK
    refine .inl ⟨L,ks,rfl,hK,?_⟩
    replace E:=E.tl.tl
    (replace E:=((E.bIx 0).bIx 1))
    exact E.perm (perm2 ks rest).symm
set_option maxRecDepth 100000
set_option linter.unusedVariables false
set_option linter.unusedSimpArgs false
variable {w0 w:World} {F:Nat→Prop} {l:List As}
variable {D:List Row} {X:PT} {T:Tr} {β:Int→Nat}
theorem stat_nt(h:Tie D X T β){k:PN}(hk:k∈X.ps)(hp:Pool D∈l)(E:Hs w0 F w (NT X.ps::l)):
  Ca PP Fn.f58 #[ptr k.blk] w λr w'=>r=k.f.stat.V∧Hs w0 F w' (NT X.ps::l):=by
 obtain⟨rs,hps⟩:=split_perm hk
 replace E:=Hs.openN E hps
 have hrd:=(h.data k hk).read E.tl (by simp[hp])
 have hsz:(bts k.f.data).length=k.f.data.size:=by simp[bts]
 rw[hsz]at hrd
 refine(stat_ok E hrd).mono ?_
 clear E
 rintro r w_ ⟨rfl,E⟩
 exact⟨rfl,Hs.permN (Hs.closeN k E) hps.symm⟩
theorem u_sl_Dir:PP.underlying Ty.sl_api_Dir=some (.slice Ty.t28):=by kernel_rfl
theorem n_Dir:sizeK PP Ty.t28=some 10:=by kernel_rfl
theorem z_Dir:zeroK PP Ty.t28=some d0.V:=by kernel_rfl
theorem e_Dir:el3 PP Ty.t28=some (some d0.V,10,112):=by kernel_rfl
theorem dr_scal(d:Dr):d.cs.all scalV=true:=rfl
theorem dcs_app(ds:List Dr)(d:Dr):dcs (ds++[d])=dcs ds++d.cs:=by simp[dcs]
theorem BdS.dir{d:Dr}{k:Value→World→Prop}(E:Hs w0 F w l)(hk:∀v w',Hs w0 F w' (slA v Ty.t28 10 d.cs::l)→k v w'):Ef PP (Instr.buildSlice Ty.sl_api_Dir 1 #[(0,d.V)]) w k:=
 BdS.sl E u_sl_Dir n_Dir z_Dir (by omega) (by omega) (xs:=d.cs) (by kernel_rfl) rfl hk

def Tr.list(T:Tr)(hd:Int):List Dr×Int:=match T.opened hd with
 |none=>([],19)
 |some x=>match T.get x.file with
  |none=>([],4)
  |some n=>if n.dir=false then([],18)else((T.kidsS n.path).map Nd.stat,0)
theorem kidsS_len(hi:Inv T)(p:Int):(T.kidsS p).length≤1024:=by
 have h1:=congrArg List.length (kidsS_names hi p)
 rw[List.length_map,sortS_len,List.length_map]at h1
 have h2:(T.kids p).length≤T.ns.length:=List.length_filter_le _ _
 have:=hi.few.1
 omega
theorem List_ok(h:Tie D X T β)(hi:Inv T){hd:Int}(E:Hs w0 F w (trA X::Pool D::l)):
  Ca PP Fn.f86 #[ptr X.t,i64 hd] w λr w'=>∃v,r=.tuple #[v,i64 (T.list hd).2]∧Hs w0 F w' (slA v Ty.t28 10 (dcs (T.list hd).1)::trA X::Pool D::l):=by
 refine S.f86.calls ?_
 unfold S.f86
 replace E:=Hs.openT E
 refine(opened_ok E).mono ?_
 clear E
 rintro r w_ ⟨rfl,E⟩
 rw[h.opened hi]
 cases hx:T.opened hd with
 |none=>
  simp only[Option.map_none,openedV]
  repeat first|(with_reducible first|refine Stp.go ?_|(refine StpW.go E ?_;clear E;intro w_ E)|(refine StpA.go E ?_;clear E;intro b_ w_ hb_ E))|((with_reducible refine Bi.dec true ?_ ?_);focus exact rfl)
  have e:T.list hd=([],19):=by unfold Tr.list;rw[hx]
  rw[e]
  exact⟨_,rfl,Hs.nilSl (Hs.closeT X E.tl) _ _⟩
 |some x=>
  simp only[Option.map_some,openedV]
  repeat first|(with_reducible first|refine Stp.go ?_|refine StpE.go E ?_|(refine StpW.go E ?_;clear E;intro w_ E)|(refine StpA.go E ?_;clear E;intro b_ w_ hb_ E))|((with_reducible refine Bi.dec false ?_ ?_);focus exact rfl)
  (revert b_;intro q hbq E)
  have hm:=hi.openedM hx
  cases hg:T.get x.file with
  |none=>
   obtain⟨m,hmd,hgone⟩:=h.dead _ hm (get_none.1 hg)
   have hdt:w_.heap[β x.file]? =some (oc m.C Ty.tree_node):=(E.sat (DT X.ds) (by simp)).1 (nd (β x.file) m) (List.mem_map.2 ⟨(β x.file,m),hmd,rfl⟩)
   refine Ld.ob hdt (v:=.bool m.gone) (by simp) ?_
   rw[hgone]
   repeat with_reducible refine Stp.go ?_
   have e:T.list hd=([],4):=by unfold Tr.list;simp only[hx,hg]
   rw[e]
   exact⟨_,rfl,Hs.nilSl (Hs.closeT X E.tl) _ _⟩
  |some nf=>
   obtain⟨hn1,hn2⟩:=hi.get.1 hg
   obtain⟨n,hn,rfl⟩:=h.mem.1 hn1
   have hb:=h.bl n hn
   rw[hn2]at hb
   rw[hb]
   refine Ld.nt E (ps:=X.ps) (by simp) hn (v:=.bool false) rfl ?_
   rw[hb]at E
   repeat with_reducible first|refine Stp.go ?_|refine StpE.go E ?_
   refine(isDirN hn (by simp) E).mono ?_
   clear E
   rintro r w_ ⟨rfl,E⟩
   cases hdir:n.f.dir with
   |false=>
    repeat with_reducible refine Stp.go ?_
    have e:T.list hd=([],18):=by unfold Tr.list;simp only[hx,hg,if_pos hdir]
    rw[e]
    exact⟨_,rfl,Hs.nilSl (Hs.closeT X E.tl) _ _⟩
   |true=>
    have e:T.list hd=((T.kidsS n.f.path).map Nd.stat,0):=by unfold Tr.list;simp only[hx,hg,if_neg (show ¬n.f.dir=false by rw[hdir];simp)]
    rw[e]
    repeat with_reducible first|refine Stp.go ?_|refine StpE.go E ?_|(refine StpA.go E ?_;clear E;intro b_ w_ hb_ E)
    (revert b_;intro t8 hbt8 E)
    refine(sorted_ok E).mono ?_
    clear E
    rintro r w_ ⟨a,rfl,E⟩
    obtain⟨L,hL⟩:=kidsL h hi n.f.path
    have hLl:L.length≤1024:=by
     have h1:=congrArg List.length hL.eq
     rw[List.length_map]at h1
     have:=kidsS_len hi n.f.path
     omega
    replace E:=E.nilSl Ty.t28 10
    -- slA,pt a,pt t8,pt q,tb,fm,gm,om,NT,DT,Pool,l
    (replace E:=(((((E.bIx 8).bIx 2).bIx 10).bIx 4).bIx 4))
    refine RFo.hs (rest:=pt q (oc [ptr n.blk,i64 x.mode,str x.user] Ty.t44)::tb X::mp X.fm (.int .i64) X.fM::mp X.gm .str X.gM::mp X.om (.int .i64) X.oM::DT X.ds::l) rfl b_sorted1 (sorted_iter h hi hn hdir hL) (λpre ks=>∃v,ks=[slA v Ty.t28 10 (dcs (pre.map λk=>k.f.stat)),pt t8 (oc [v] Ty.sl_api_Dir),Pool D]) (λ_ _ _=>False) (λ_ _=>False)
     (ks:=[slA (.slice none 0 0) Ty.t28 10 [],pt t8 (oc [.slice none 0 0] Ty.sl_api_Dir),Pool D]) E ⟨_,rfl⟩ ?_ ?_ (λ_ _ _ _ _ _ h _=>h.elim) (λ_ _ _ _ _ h _=>h.elim)
    ·clear E
     rintro r L0 D0 pre k w_ _ rest' Rn Re Rr hL0 hD0 hp ⟨v,rfl⟩ E hn2 - -
     simp only[List.cons_append,List.nil_append]at E
     have hkL:=List.mem_of_getElem? hp.2
     have hpl:pre.length<L.length:=(List.getElem?_eq_some_iff.1 hp.2).1
     repeat with_reducible first|refine Stp.go ?_|refine StpE.go E ?_|(refine StpW.go E ?_;clear E;intro w_ E)
     replace E:=E.bIx 6
     refine(stat_nt h (hL.mem k hkL) (by simp) E).mono ?_
     clear E
     rintro r w_ ⟨rfl,E⟩
     skip
     refine⟨by (repeat with_reducible refine StpE.go E ?_);rfl,?_⟩
     refine BdS.dir E ?_
     clear E
     intro v2 w_ E
     skip
     refine⟨by (repeat with_reducible refine StpE.go E ?_);rfl,?_⟩
     have hsl:=Src.slice (P:=PP) (E.sat (slA v2 Ty.t28 10 k.f.stat.cs) (by simp)) (n:=1) rfl (by omega) (dr_scal _)
     have hdl:=dcs_len (pre.map λk=>k.f.stat)
     rw[List.length_map]at hdl
     refine Ap.el E (i:=4) rfl u_sl_Dir ⟨_,u_sl_Dir,λ_ h=>by cases h⟩ e_Dir (by omega) hsl rfl (by rw[hdl];omega) (by rw[hdl];omega) ?_
     clear E
     intro s' w_ E
     (try simp only[List.set_cons_zero,List.set_cons_succ,List.cons_append,List.nil_append,Nat.zero_add,Nat.add_zero]at E)
     repeat with_reducible (refine StpW.go E ?_;clear E;intro w_ E)
     refine hn2 _ _ ⟨s',rfl⟩ ?_
     simp only[List.cons_append,List.nil_append]
     replace E:=E.tl
     (replace E:=(((((((E.bIx 0).bIx 6).bIx 6).bIx 6).bIx 6).bIx 6).bIx 6))
     rw[List.map_append,List.map_singleton,dcs_app]
     exact E
    ·clear E
     rintro D0 w_ xs _ hD0 hxs ⟨v,rfl⟩ E
     rw[hxs]at E
     simp only[List.cons_append,List.nil_append]at E
     repeat with_reducible first|refine Stp.go ?_|refine StpE.go E ?_|(refine StpW.go E ?_;clear E;intro w_ E)
     have e1:L.map (λk=>k.f.stat)=(T.kidsS n.f.path).map Nd.stat:=by rw[← hL.eq,List.map_map];rfl
     rw[e1]at E
     refine⟨_,rfl,?_⟩
     -- slA,pt t8,Pool,pt a,NT,pt q,tb,fm,gm,om,DT,l
     (replace E:=((((((((E.bIx 2).bIx 1).bIx 10).bIx 5).bIx 10).bIx 10).bIx 10).bIx 10))
     replace E:=Hs.closeT X E
     (replace E:=(((E.bIx 2).bIx 1).bIx 2))
     exact E.drop (List.Sublist.cons_cons _ (List.Sublist.cons_cons _ (List.Sublist.cons_cons _ (List.sublist_append_right [_,_,_] l))))
set_option maxRecDepth 100000
set_option linter.unusedVariables false
set_option linter.unusedSimpArgs false
variable {w0 w:World} {F:Nat→Prop} {l:List As}
variable {D:List Row} {X:PT} {T:Tr} {β:Int→Nat}

def Tr.act(T:Tr)(x:Ac):Tr×An:=
 if x.kind=0 then(T,{qid:=(T.walk x.user x.file x.name).1,errno:=(T.walk x.user x.file x.name).2})else
 if x.kind=1 then(T,{dir:=(T.stat x.file).1,errno:=(T.stat x.file).2})else
 if x.kind=2 then((T.wstat x.user x.file x.dir).1,{errno:=(T.wstat x.user x.file x.dir).2})else
 if x.kind=3 then((T.openF x.user x.file x.mode).1,{handle:=(T.openF x.user x.file x.mode).2.1,qid:=(T.openF x.user x.file x.mode).2.2.1,errno:=(T.openF x.user x.file x.mode).2.2.2})else
 if x.kind=4 then((T.create x.user x.file x.name x.perm x.mode).1,{handle:=(T.create x.user x.file x.name x.perm x.mode).2.1,qid:=(T.create x.user x.file x.name x.perm x.mode).2.2.1,errno:=(T.create x.user x.file x.name x.perm x.mode).2.2.2})else
 if x.kind=5 then(T,{text:=(T.read x.handle x.offset x.count).1,errno:=(T.read x.handle x.offset x.count).2})else
 if x.kind=6 then(T,{dirs:=(T.list x.handle).1,errno:=(T.list x.handle).2})else
 if x.kind=7 then((T.write x.handle x.offset x.data).1,{handle:=(T.write x.handle x.offset x.data).2.1,errno:=(T.write x.handle x.offset x.data).2.2})else
 if x.kind=8 then((T.close x.handle).1,{errno:=(T.close x.handle).2})else
 if x.kind=9 then((T.remove x.user x.file).1,{errno:=(T.remove x.user x.file).2})else
 if x.kind=10 then(T,{qid:=(T.find x.name).1,errno:=(T.find x.name).2})else
 if x.kind=11 then(T,{text:=(T.pathOf x.file).1,errno:=(T.pathOf x.file).2})else
 (T,{})
theorem act_inv(hi:Inv T)(x:Ac):Inv (T.act x).1:=by
 unfold Tr.act
 by_cases c0:x.kind=0
 ·rw[if_pos c0];exact hi
 rw[if_neg c0]
 by_cases c1:x.kind=1
 ·rw[if_pos c1];exact hi
 rw[if_neg c1]
 by_cases c2:x.kind=2
 ·rw[if_pos c2];exact wstat_inv hi _ _ _
 rw[if_neg c2]
 by_cases c3:x.kind=3
 ·rw[if_pos c3];exact open_inv hi _ _ _
 rw[if_neg c3]
 by_cases c4:x.kind=4
 ·rw[if_pos c4];exact create_inv hi _ _ _ _ _
 rw[if_neg c4]
 by_cases c5:x.kind=5
 ·rw[if_pos c5];exact hi
 rw[if_neg c5]
 by_cases c6:x.kind=6
 ·rw[if_pos c6];exact hi
 rw[if_neg c6]
 by_cases c7:x.kind=7
 ·rw[if_pos c7];exact write_inv hi _ _ _
 rw[if_neg c7]
 by_cases c8:x.kind=8
 ·rw[if_pos c8];exact close_inv hi _
 rw[if_neg c8]
 by_cases c9:x.kind=9
 ·rw[if_pos c9];exact remove_inv hi _ _
 rw[if_neg c9]
 by_cases c10:x.kind=10
 ·rw[if_pos c10];exact hi
 rw[if_neg c10]
 by_cases c11:x.kind=11
 ·rw[if_pos c11];exact hi
 rw[if_neg c11]
 exact hi
theorem act_lim{N:Int}(h0:0≤N)(hl:Lim N T)(x:Ac):Lim (N+3) (T.act x).1:=by
 have h3:=hl.mono (M:=N+3) (by omega)
 unfold Tr.act
 by_cases c0:x.kind=0
 ·rw[if_pos c0];exact h3
 rw[if_neg c0]
 by_cases c1:x.kind=1
 ·rw[if_pos c1];exact h3
 rw[if_neg c1]
 by_cases c2:x.kind=2
 ·rw[if_pos c2];exact wstat_lim hl _ _ _
 rw[if_neg c2]
 by_cases c3:x.kind=3
 ·rw[if_pos c3];exact open_lim hl _ _ _
 rw[if_neg c3]
 by_cases c4:x.kind=4
 ·rw[if_pos c4];exact create_lim hl h0 _ _ _ _ _
 rw[if_neg c4]
 by_cases c5:x.kind=5
 ·rw[if_pos c5];exact h3
 rw[if_neg c5]
 by_cases c6:x.kind=6
 ·rw[if_pos c6];exact h3
 rw[if_neg c6]
 by_cases c7:x.kind=7
 ·rw[if_pos c7];exact write_lim hl _ _ _
 rw[if_neg c7]
 by_cases c8:x.kind=8
 ·rw[if_pos c8];exact close_lim hl _
 rw[if_neg c8]
 by_cases c9:x.kind=9
 ·rw[if_pos c9];exact remove_lim hl _ _
 rw[if_neg c9]
 by_cases c10:x.kind=10
 ·rw[if_pos c10];exact h3
 rw[if_neg c10]
 by_cases c11:x.kind=11
 ·rw[if_pos c11];exact h3
 rw[if_neg c11]
 exact h3
abbrev aEV:An:={}
theorem Do_ok(h:Tie D X T β)(hi:Inv T){N:Int}(hN:N<4611686018427387904)(hlim:Lim N T){x:Ac}(hx:x.Ok)(E:Hs w0 F w (trA X::Pool D::l)):
  Ca PP Fn.law28_Do #[ptr X.t,x.V] w λr w'=>∃dv,r=(T.act x).2.V dv∧Goes w0 F (slA dv Ty.t28 10 (dcs (T.act x).2.dirs)::l) D X (T.act x).1 w':=by
 refine S.law28_Do.calls ?_
 unfold S.law28_Do
 refine StpA.go E ?_
 clear E
 intro q w_ h1 E
 refine StpA.go E ?_
 clear E
 intro b w_ h2 E
 repeat with_reducible first|refine StpE.go E ?_|(refine StpA.go E ?_;clear E;intro b_ w_ hb_ E)
 (revert b_;intro c hbc E)
 (first|(refine StA.all E rfl rfl (by first|exact rfl|assumption) ?_;clear E;intro w_ E)|try (refine StA.by E rfl (by first|exact rfl|assumption) ?_;clear E;intro w_ E))
 (intro J9 hJ9)
 have fin:∀a dv w_ D' X' β',a=(T.act x).2→(∀x∈D,x∈D')→X'.t=X.t→Tie D' X' (T.act x).1 β'→Hs w0 F w_ (slA dv Ty.t28 10 (dcs a.dirs)::trA X'::Pool D'::pt c (oc (a.C dv) Ty.law28_Answer)::pt b (oc (aEV.C (.slice none 0 0)) Ty.law28_Answer)::pt q (oc x.C Ty.law28_Act)::l)→J9 [] w_:=by
  intro a dv w_ D' X' β' ha hD ht hT E
  repeat with_reducible first|refine StpE.go E ?_|(apply hJ9;intro u_)
  (replace E:=(((E.bIx 5).bIx 5).bIx 5))
  have hsv:scalV dv=true:=Hs.slScal E (T:=Ty.t28) (sz:=10) (xs:=dcs a.dirs) (by simp)
  have hsv2:(a.C dv).all scalV=true:=by
   show(true && (true && (true && (true && (true && (true && (true && (true && (true && (true && (true && (true && (true && (true && (true && (scalV dv && (true && true)))))))))))))))))=true
   rw[hsv];rfl
  refine StA.all (vs:=a.C dv) E rfl rfl hsv2 ?_
  clear E
  intro w_ E
  repeat with_reducible refine StpE.go E ?_
  rw[← ha]
  refine⟨_,rfl,D',X',β',hD,ht,hT,?_⟩
  (replace E:=((((E.bSl dv).bPt q).bPt c).bPt b))
  replace E:=E.drop (List.sublist_append_right [_,_,_] (_::_::_::l))
  (replace E:=(((E.bIx 0).bIx 2).bIx 2))
  exact E
 clear hJ9
 repeat with_reducible first|refine Stp.go ?_|refine StpE.go E ?_
 (replace E:=((E.bIx 4).bIx 4))
 refine Bi.eql ?_ ?_<;>intro c0<;>(repeat with_reducible first|refine Stp.go ?_|refine StpE.go E ?_)
 ·have e:T.act x=(T,{qid:=(T.walk x.user x.file x.name).1,errno:=(T.walk x.user x.file x.name).2}):=by unfold Tr.act;rw[ if_pos c0]
  rw[e]at fin
  refine(Walk_ok (user:=x.user) (file:=x.file) (name:=x.name) h hi hx.name (by simp) E).mono ?_
  clear E
  rintro r w_ ⟨rfl,E⟩
  repeat with_reducible first|refine Stp.go ?_|(refine StpW.go E ?_;clear E;intro w_ E)
  exact fin _ _ _ D X β rfl (λ_ h=>h) rfl h (E.nilSl Ty.t28 10)
 refine Bi.eql ?_ ?_<;>intro c1<;>(repeat with_reducible first|refine Stp.go ?_|refine StpE.go E ?_)
 ·have e:T.act x=(T,{dir:=(T.stat x.file).1,errno:=(T.stat x.file).2}):=by unfold Tr.act;rw[if_neg c0,if_pos c1]
  rw[e]at fin
  refine(Stat_ok (user:=x.user) (file:=x.file) h hi (by simp) E).mono ?_
  clear E
  rintro r w_ ⟨rfl,E⟩
  repeat with_reducible refine Stp.go ?_
  refine St.ten E rfl ?_
  clear E
  intro w_ E
  repeat with_reducible first|refine Stp.go ?_|(refine StpW.go E ?_;clear E;intro w_ E)
  exact fin _ _ _ D X β rfl (λ_ h=>h) rfl h (E.nilSl Ty.t28 10)
 refine Bi.eql ?_ ?_<;>intro c2<;>(repeat with_reducible first|refine Stp.go ?_|refine StpE.go E ?_)
 ·have e:T.act x=((T.wstat x.user x.file x.dir).1,{errno:=(T.wstat x.user x.file x.dir).2}):=by unfold Tr.act;rw[if_neg c0,if_neg c1,if_pos c2]
  rw[e]at fin
  refine(Wstat_ok (user:=x.user) (file:=x.file) (d:=x.dir) h hi hN hlim hx.dname hx.dgroup E).mono ?_
  clear E
  rintro r w_ ⟨rfl,D',X',β',hD,ht,hT,E⟩
  repeat with_reducible first|refine Stp.go ?_|(refine StpW.go E ?_;clear E;intro w_ E)
  exact fin _ _ _ D' X' β' rfl hD ht hT (E.nilSl Ty.t28 10)
 refine Bi.eql ?_ ?_<;>intro c3<;>(repeat with_reducible first|refine Stp.go ?_|refine StpE.go E ?_)
 ·have e:T.act x=((T.openF x.user x.file x.mode).1,{handle:=(T.openF x.user x.file x.mode).2.1,qid:=(T.openF x.user x.file x.mode).2.2.1,errno:=(T.openF x.user x.file x.mode).2.2.2}):=by unfold Tr.act;rw[if_neg c0,if_neg c1,if_neg c2,if_pos c3]
  rw[e]at fin
  refine(Open_ok (user:=x.user) (file:=x.file) (mode:=x.mode) h hi hN hlim E).mono ?_
  clear E
  rintro r w_ ⟨rfl,D',X',β',hD,ht,hT,E⟩
  repeat with_reducible first|refine Stp.go ?_|(refine StpW.go E ?_;clear E;intro w_ E)
  exact fin _ _ _ D' X' β' rfl hD ht hT (E.nilSl Ty.t28 10)
 refine Bi.eql ?_ ?_<;>intro c4<;>(repeat with_reducible first|refine Stp.go ?_|refine StpE.go E ?_)
 ·have e:T.act x=((T.create x.user x.file x.name x.perm x.mode).1,{handle:=(T.create x.user x.file x.name x.perm x.mode).2.1,qid:=(T.create x.user x.file x.name x.perm x.mode).2.2.1,errno:=(T.create x.user x.file x.name x.perm x.mode).2.2.2}):=by unfold Tr.act;rw[if_neg c0,if_neg c1,if_neg c2,if_neg c3,if_pos c4]
  rw[e]at fin
  refine(Create_ok (user:=x.user) (dir:=x.file) (name:=x.name) (perm:=x.perm) (mode:=x.mode) h hi hN hlim hx.user hx.name E).mono ?_
  clear E
  rintro r w_ ⟨rfl,D',X',β',hD,ht,hT,E⟩
  repeat with_reducible first|refine Stp.go ?_|(refine StpW.go E ?_;clear E;intro w_ E)
  exact fin _ _ _ D' X' β' rfl hD ht hT (E.nilSl Ty.t28 10)
 refine Bi.eql ?_ ?_<;>intro c5<;>(repeat with_reducible first|refine Stp.go ?_|refine StpE.go E ?_)
 ·have e:T.act x=(T,{text:=(T.read x.handle x.offset x.count).1,errno:=(T.read x.handle x.offset x.count).2}):=by unfold Tr.act;rw[if_neg c0,if_neg c1,if_neg c2,if_neg c3,if_neg c4,if_pos c5]
  rw[e]at fin
  refine(Read_ok (hd:=x.handle) (off:=x.offset) (count:=x.count) h hi (by simp) E).mono ?_
  clear E
  rintro r w_ ⟨rfl,E⟩
  repeat with_reducible first|refine Stp.go ?_|(refine StpW.go E ?_;clear E;intro w_ E)
  exact fin _ _ _ D X β rfl (λ_ h=>h) rfl h (E.nilSl Ty.t28 10)
 refine Bi.eql ?_ ?_<;>intro c6<;>(repeat with_reducible first|refine Stp.go ?_|refine StpE.go E ?_)
 ·have e:T.act x=(T,{dirs:=(T.list x.handle).1,errno:=(T.list x.handle).2}):=by unfold Tr.act;rw[if_neg c0,if_neg c1,if_neg c2,if_neg c3,if_neg c4,if_neg c5,if_pos c6]
  rw[e]at fin
  refine(List_ok (hd:=x.handle) h hi E).mono ?_
  clear E
  rintro r w_ ⟨v,rfl,E⟩
  repeat with_reducible first|refine Stp.go ?_|(refine StpW.go E ?_;clear E;intro w_ E)
  exact fin _ _ _ D X β rfl (λ_ h=>h) rfl h E
 refine Bi.eql ?_ ?_<;>intro c7<;>(repeat with_reducible first|refine Stp.go ?_|refine StpE.go E ?_)
 ·have e:T.act x=((T.write x.handle x.offset x.data).1,{handle:=(T.write x.handle x.offset x.data).2.1,errno:=(T.write x.handle x.offset x.data).2.2}):=by unfold Tr.act;rw[if_neg c0,if_neg c1,if_neg c2,if_neg c3,if_neg c4,if_neg c5,if_neg c6,if_pos c7]
  rw[e]at fin
  refine(Write_ok (hd:=x.handle) (off:=x.offset) (d:=x.data) h hi hN hlim E).mono ?_
  clear E
  rintro r w_ ⟨rfl,D',X',β',hD,ht,hT,E⟩
  repeat with_reducible first|refine Stp.go ?_|(refine StpW.go E ?_;clear E;intro w_ E)
  exact fin _ _ _ D' X' β' rfl hD ht hT (E.nilSl Ty.t28 10)
 refine Bi.eql ?_ ?_<;>intro c8<;>(repeat with_reducible first|refine Stp.go ?_|refine StpE.go E ?_)
 ·have e:T.act x=((T.close x.handle).1,{errno:=(T.close x.handle).2}):=by unfold Tr.act;rw[if_neg c0,if_neg c1,if_neg c2,if_neg c3,if_neg c4,if_neg c5,if_neg c6,if_neg c7,if_pos c8]
  rw[e]at fin
  refine(Close_ok (hd:=x.handle) h hi hN hlim E).mono ?_
  clear E
  rintro r w_ ⟨rfl,D',X',β',hD,ht,hT,E⟩
  repeat with_reducible first|refine Stp.go ?_|(refine StpW.go E ?_;clear E;intro w_ E)
  exact fin _ _ _ D' X' β' rfl hD ht hT (E.nilSl Ty.t28 10)
 refine Bi.eql ?_ ?_<;>intro c9<;>(repeat with_reducible first|refine Stp.go ?_|refine StpE.go E ?_)
 ·have e:T.act x=((T.remove x.user x.file).1,{errno:=(T.remove x.user x.file).2}):=by unfold Tr.act;rw[if_neg c0,if_neg c1,if_neg c2,if_neg c3,if_neg c4,if_neg c5,if_neg c6,if_neg c7,if_neg c8,if_pos c9]
  rw[e]at fin
  refine(Remove_ok (user:=x.user) (file:=x.file) h hi hN hlim E).mono ?_
  clear E
  rintro r w_ ⟨rfl,D',X',β',hD,ht,hT,E⟩
  repeat with_reducible first|refine Stp.go ?_|(refine StpW.go E ?_;clear E;intro w_ E)
  exact fin _ _ _ D' X' β' rfl hD ht hT (E.nilSl Ty.t28 10)
 refine Bi.eql ?_ ?_<;>intro c10<;>(repeat with_reducible first|refine Stp.go ?_|refine StpE.go E ?_)
 ·have e:T.act x=(T,{qid:=(T.find x.name).1,errno:=(T.find x.name).2}):=by unfold Tr.act;rw[if_neg c0,if_neg c1,if_neg c2,if_neg c3,if_neg c4,if_neg c5,if_neg c6,if_neg c7,if_neg c8,if_neg c9,if_pos c10]
  rw[e]at fin
  refine(Find_ok (p:=x.name) h hi E).mono ?_
  clear E
  rintro r w_ ⟨rfl,E⟩
  repeat with_reducible first|refine Stp.go ?_|(refine StpW.go E ?_;clear E;intro w_ E)
  exact fin _ _ _ D X β rfl (λ_ h=>h) rfl h (E.nilSl Ty.t28 10)
 refine Bi.eql ?_ ?_<;>intro c11<;>(repeat with_reducible first|refine Stp.go ?_|refine StpE.go E ?_)
 ·have e:T.act x=(T,{text:=(T.pathOf x.file).1,errno:=(T.pathOf x.file).2}):=by unfold Tr.act;rw[if_neg c0,if_neg c1,if_neg c2,if_neg c3,if_neg c4,if_neg c5,if_neg c6,if_neg c7,if_neg c8,if_neg c9,if_neg c10,if_pos c11]
  rw[e]at fin
  refine(Path_ok (file:=x.file) h hi E).mono ?_
  clear E
  rintro r w_ ⟨rfl,E⟩
  repeat with_reducible first|refine Stp.go ?_|(refine StpW.go E ?_;clear E;intro w_ E)
  exact fin _ _ _ D X β rfl (λ_ h=>h) rfl h (E.nilSl Ty.t28 10)
 have e:T.act x=(T,{}):=by unfold Tr.act;rw[if_neg c0,if_neg c1,if_neg c2,if_neg c3,if_neg c4,if_neg c5,if_neg c6,if_neg c7,if_neg c8,if_neg c9,if_neg c10,if_neg c11]
 rw[e]at fin
 exact fin {} _ _ D X β rfl (λ_ h=>h) rfl h (E.nilSl Ty.t28 10)
set_option maxRecDepth 100000
set_option linter.unusedVariables false
set_option linter.unusedSimpArgs false
variable {w0 w:World} {F:Nat→Prop} {l:List As}
variable {D:List Row} {X:PT} {T:Tr} {β:Int→Nat}

theorem keysS_nil {a : Nat} : Iter PP w0 F (keysSF a) str (fun _ _=>False) (· = []) [pt a (oc [.map none] Ty.t3)] [] [pt a (oc [.map none] Ty.t3)]:=by
  intro K S_ y w ks rest hy h0 E
  refine CaV.mk b_keysS1 ?_
  refine S.f5.calls (a0:=y) (a1:=ptr a) ?_
  unfold S.f5
  have E1 : Hs w0 F w (pt a (oc [.map none] Ty.t3)::(ks++rest)):=E.perm (permBack [_] ks rest).symm
  clear E
  have E:=E1
  clear E1
  repeat with_reducible refine StpE.go E ?_
  refine Rg.nil E u_mkids ?_
  clear E
  intro it w_ hit E
  refine ⟨fun l1 w1=>l1 = []∧Hs w0 F w1 (pt it (.mapIter none 0 #[] 0)::pt a (oc [.map none] Ty.t3)::(ks++rest)),fun _ _=>0,⟨rfl,E⟩,?_⟩
  clear E
  rintro u w1 ⟨-,E⟩
  refine Nx.nil E ?_
  repeat with_reducible refine Stp.go ?_
  exact .inl ⟨[],ks,rfl,h0,E.tl.perm (permBack [_] ks rest)⟩
theorem KeysN_ok(E:Hs w0 F w l):Ca PP Fn.f7 #[.map none] w λr w'=>∃a,r=keysSF a∧Hs w0 F w' (pt a (oc [.map none] Ty.t3)::l):=by
 refine S.f7.calls ?_
 unfold S.f7
 repeat with_reducible (refine StpA.go E ?_;clear E;intro b_ w_ hb_ E)
 exact⟨b_,rfl,E⟩
theorem sorted_leaf {n : PN} (hn : n∈X.ps) (hd : n.f.dir = false) {a : Nat} :
    Iter PP w0 F (sortedF a) (fun k : PN=>ptr k.blk) (InOrder []) (· = []) [pt a (oc [ptr n.blk] Ty.t4),NT X.ps] [pt a (oc [ptr n.blk] Ty.t4),NT X.ps] [pt a (oc [ptr n.blk] Ty.t4),NT X.ps]:=by
  intro K S_ y w ks rest hy h0 E
  refine CaV.mk b_sorted1 ?_
  refine S.f43.calls (a0:=y) (a1:=ptr a) ?_
  unfold S.f43
  have E1 : Hs w0 F w (pt a (oc [ptr n.blk] Ty.t4)::NT X.ps::(ks++rest)):=E.perm (perm2 ks rest)
  clear E
  have E:=E1
  clear E1
  repeat with_reducible first|refine Stp.go ?_|refine StpE.go E ?_
  refine Ld.nt E (by simp) hn kids_val ?_
  rw [if_neg (by rw [hd]; simp)]
  refine (KeysN_ok E).mono ?_
  clear E
  rintro r w_ ⟨b,rfl,E⟩
  refine (Sorted_ok (own:=[_]) (rest:=pt a (oc [ptr n.blk] Ty.t4)::NT X.ps::(ks++rest)) rfl b_keysS1 keysS_nil (fun _ _ h=>h.elim) (fun xs hx=>by subst hx; simp) E).mono ?_
  clear E
  rintro v w_ ⟨xs,rfl,E⟩
  simp only [List.cons_append,List.nil_append] at E
  have e : sortS [] = []:=by have:=sortS_mem []; exact List.Perm.eq_nil this
  rw [e] at E
  repeat with_reducible refine StpE.go E ?_
  refine ⟨fun l1 w1=>l1 = [i64 0]∧Hs w0 F w1 (slA v Ty.t9 1 ([].map str)::pt b (oc [.map none] Ty.t3)::pt a (oc [ptr n.blk] Ty.t4)::NT X.ps::(ks++rest)),fun _ _=>0,⟨rfl,E⟩,?_⟩
  clear E
  rintro t u w1 ⟨h1,E⟩
  cases h1
  repeat first|(with_reducible first|refine Stp.go ?_)|((with_reducible refine Bi.dec false ?_ ?_); focus exact rfl)
  refine .inl ⟨[],ks,rfl,h0,?_⟩
  exact E.tl.tl.perm (perm2 ks rest).symm

def Lk(X:PT)(T:Tr)(n:PN):List PN:=if n.f.dir=true then(T.kidsS n.f.path).filterMap λm=>X.ps.find? λk=>decide (k.f.path=m.path)else[]
theorem lk_kids(h:Tie D X T β)(hi:Inv T){n:PN}(hd:n.f.dir=true):KidsL X T n.f.path (Lk X T n):=by
 unfold Lk
 rw[if_pos hd]
 have hm:∀k∈T.kidsS n.f.path,k∈T.ns:=λk hk=>(kidsS_mem hi hk).1
 have key:∀S:List Nd,(∀k∈S,k∈T.ns)→(∀k∈S.filterMap (λm=>X.ps.find? λk=>decide (k.f.path=m.path)),k∈X.ps)∧(S.filterMap λm=>X.ps.find? λk=>decide (k.f.path=m.path)).map PN.f=S:=by
  intro S
  induction S with
  |nil=>intro _;exact⟨(λ_ h=>by cases h),rfl⟩
  |cons s r ih=>
   intro hs
   obtain⟨i1,i2⟩:=ih λk hk=>hs k (List.mem_cons_of_mem _ hk)
   obtain⟨q,hq,hqf⟩:=h.mem.1 (hs s List.mem_cons_self)
   have hf:X.ps.find? (λk=>decide (k.f.path=s.path))=some q:=by
    cases hg:X.ps.find? (λk=>decide (k.f.path=s.path))with
    |none=>
     have:=List.find?_eq_none.1 hg q hq
     rw[hqf]at this;simp at this
    |some x=>
     have h1:=List.mem_of_find?_eq_some hg
     have h2:x.f.path=s.path:=by simpa using List.find?_some hg
     rw[h.inj hi h1 hq (by rw[h2,hqf])]
   rw[List.filterMap_cons,hf]
   refine⟨λk hk=>?_,?_⟩
   ·rcases List.mem_cons.1 hk with rfl|hk
    ·exact hq
    ·exact i1 k hk
   ·rw[List.map_cons,i2,hqf]
 exact⟨(key _ hm).1,(key _ hm).2⟩
theorem lk_iter (h : Tie D X T β) (hi : Inv T) {n : PN} (hn : n∈X.ps) {a : Nat} :
    Iter PP w0 F (sortedF a) (fun k : PN=>ptr k.blk) (InOrder (Lk X T n)) (· = Lk X T n) [pt a (oc [ptr n.blk] Ty.t4),NT X.ps] [pt a (oc [ptr n.blk] Ty.t4),NT X.ps] [pt a (oc [ptr n.blk] Ty.t4),NT X.ps]:=by
  cases hd : n.f.dir with
  | true=>exact sorted_iter h hi hn hd (lk_kids h hi hd)
  | false =>
    have e : Lk X T n = []:=by unfold Lk; rw [if_neg (by rw [hd]; simp)]
    rw [e]
    exact sorted_leaf hn hd
theorem lk_mem(h:Tie D X T β)(hi:Inv T){n k:PN}(hk:k∈Lk X T n):k∈X.ps∧k.f.path≠0∧k.f.up=n.f.path:=by
 cases hd:n.f.dir with
 |true=>
  have hL:=lk_kids h hi hd
  have h1:k.f∈T.kidsS n.f.path:=by rw[← hL.eq];exact List.mem_map.2 ⟨k,hk,rfl⟩
  obtain⟨_,h2,h3⟩:=kidsS_mem hi h1
  exact⟨hL.mem k hk,h2,h3⟩
 |false=>
  unfold Lk at hk
  rw[if_neg (by rw[hd];simp)]at hk
  cases hk

def allP(X:PT)(T:Tr):Nat→PN→List PN
 |0,_=>[]
 |f+1,n=>n::(Lk X T n).flatMap (allP X T f)
theorem allP_mem(h:Tie D X T β)(hi:Inv T):∀(f:Nat) {n m:PN},n∈X.ps→m∈allP X T f n→m∈X.ps
 |0,_,_,_,hm=>by cases hm
 |f+1,n,m,hn,hm=>by
  unfold allP at hm
  rcases List.mem_cons.1 hm with rfl|hm
  ·exact hn
  ·obtain⟨k,hk,hmk⟩:=List.mem_flatMap.1 hm
   exact allP_mem h hi f (lk_mem h hi hk).1 hmk
theorem inOrder_of{α:Type}{B pre t:List α}{x:α}(h:B=pre++x::t):InOrder B pre x:=by
 subst h
 exact⟨by simp,by simp⟩
theorem inOrder_to{α:Type}{B pre:List α}{x:α}(h:InOrder B pre x):∃t,B=pre++x::t:=by
 obtain⟨h1,h2⟩:=h
 refine⟨B.drop (pre.length+1),?_⟩
 have hlt:=(List.getElem?_eq_some_iff.1 h2).1
 conv=>lhs;rw[← List.take_append_drop pre.length B]
 rw[← h1,List.drop_eq_getElem_cons hlt]
 congr 2
 exact(List.getElem?_eq_some_iff.1 h2).2
abbrev allF(a:Nat):Value:=.func (.func Fn.f69) #[] #[ptr a]
theorem b_all1:hasBody PP Fn.f69=true:=by kernel_rfl
theorem all_ok{n:PN}(E:Hs w0 F w l):Ca PP Fn.f83 #[ptr n.blk] w λr w'=>∃a,r=allF a∧Hs w0 F w' (pt a (oc [ptr n.blk] Ty.t4)::l):=by
 refine S.f83.calls ?_
 unfold S.f83
 repeat with_reducible (refine StpA.go E ?_;clear E;intro b_ w_ hb_ E)
 exact⟨b_,rfl,E⟩
theorem permFr(P M ks rest:List As):(P++(ks++(M++rest))).Perm (P++(M++(ks++rest))):=(permBack M ks rest).symm.append_left P
theorem CaV.scal{P:Program}{y:Value}{args:Array Value}{w:World}{k:Value→World→Prop}(h:CaV P y args w k):scalV y=true:=by
 rcases h with⟨f,x,z,h1,_⟩|⟨L,h1,_⟩<;>rw[h1]<;>rfl
theorem all_iter (h : Tie D X T β) (hi : Inv T) {rk : Int→Nat} (hrk : ∀ n∈T.ns,n.path ≠ 0→rk n.up < rk n.path) (hrb : ∀ p,rk p≤1024) : ∀ (f : Nat) {n : PN},n∈X.ps→1024 < f + rk n.f.path→∀ a : Nat,
    Iter PP w0 F (allF a) (fun k : PN=>ptr k.blk) (InOrder (allP X T f n)) (· = allP X T f n) [pt a (oc [ptr n.blk] Ty.t4),NT X.ps] [NT X.ps] [pt a (oc [ptr n.blk] Ty.t4),NT X.ps]:=by
  intro f
  induction f with
  | zero=>intro n hn hf; have:=hrb n.f.path; omega
  | succ f ih =>
    intro n hn hf a K S_ y w ks rest hy h0 E
    refine CaV.mk b_all1 ?_
    refine S.f69.calls (a0:=y) (a1:=ptr a) ?_
    unfold S.f69
    have E1 : Hs w0 F w (pt a (oc [ptr n.blk] Ty.t4)::NT X.ps::(ks++rest)):=E.perm (perm2 ks rest)
    clear E
    have E:=E1
    clear E1
    have hB : allP X T (f + 1) n = n::(Lk X T n).flatMap (allP X T f):=rfl
    have hin0 : InOrder (allP X T (f + 1) n) [] n:=inOrder_of (t:=(Lk X T n).flatMap (allP X T f)) (by rw [hB]; rfl)
    have hsc : scalV y = true:=CaV.scal (hy [] n w ks (pt a (oc [ptr n.blk] Ty.t4)::rest) hin0 h0 (by
      have E2:=E
      replace E2:=E2.bIx 1
      exact E2.perm (permBack [_,_] ks rest)))
    have isc : Scal y:=⟨hsc⟩
    repeat with_reducible first|refine StpE.go E ?_|(refine StpA.go E ?_; clear E; intro b_ w_ hb_ E)
    (revert b_; intro t2 hbt2 E)
    (replace E:=(((E.bIx 1).bIx 1).bIx 2))
    refine (hy [] n w_ ks (pt t2 (oc [y] Ty.t24)::pt a (oc [ptr n.blk] Ty.t4)::rest) hin0 h0 (E.perm (permBack [_,_,_] ks rest))).mono ?_
    clear E
    rintro r w_ (⟨rfl,ks1,hk1,E'⟩ | ⟨rfl,ks1,hs1,E'⟩)
    rotate_left
    · have E : Hs w0 F w_ (NT X.ps::pt t2 (oc [y] Ty.t24)::pt a (oc [ptr n.blk] Ty.t4)::(ks1++rest)):=E'.perm (permBack [_,_,_] ks1 rest).symm
      clear E'
      repeat with_reducible refine Stp.go ?_
      refine .inr ⟨_,ks1,hs1,?_⟩
      replace E:=(E.bIx 1).tl
      (replace E:=((E.bIx 0).bIx 1))
      exact E.perm (permBack [_,_] ks1 rest)
    have E : Hs w0 F w_ (NT X.ps::pt t2 (oc [y] Ty.t24)::pt a (oc [ptr n.blk] Ty.t4)::(ks1++rest)):=E'.perm (permBack [_,_,_] ks1 rest).symm
    clear E'
    repeat with_reducible first|refine Stp.go ?_|refine StpE.go E ?_
    refine (sorted_ok E).mono ?_
    clear E
    rintro r w_ ⟨b,rfl,E⟩
    (replace E:=((((E.bIx 3).bIx 2).bIx 2).bIx 3))
    have E1:=E.perm ((permBack [_,_,_] ks1 rest).cons _)
    clear E
    have hk1 : K (n::([] : List PN).flatMap (allP X T f)) ks1:=hk1
    refine RFo.hs (ks:=pt t2 (oc [y] Ty.t24)::ks1) (rest:=pt a (oc [ptr n.blk] Ty.t4)::rest) rfl b_sorted1 (lk_iter h hi hn) (fun pre' ko=>∃ ks,K (n::pre'.flatMap (allP X T f)) ks∧ko = pt t2 (oc [y] Ty.t24)::ks) (fun _ _ _=>False)
      (fun _ ko=>∃ pre ks,S_ pre ks∧ko = pt t2 (oc [y] Ty.t24)::ks) E1 ⟨ks1,hk1,rfl⟩ ?_ ?_ (fun _ _ _ _ _ _ h _=>h.elim) ?_
    · clear E1
      rintro r L0 D0 pre' k w_ _ rest' Rn Re Rr hL0 hD0 hp ⟨ks2,hK2,rfl⟩ E hn2 - hr
      have hkm:=lk_mem h hi (List.mem_of_getElem? hp.2)
      obtain ⟨t',hLt⟩:=inOrder_to hp
      have hkrank : 1024 < f + rk k.f.path:=by
        have:=hrk k.f (h.mem.2 ⟨k,hkm.1,rfl⟩) hkm.2.1
        rw [hkm.2.2] at this
        omega
      have E1 : Hs w0 F w_ (pt L0 (lpO r .ready none)::pt D0 dfO::pt t2 (oc [y] Ty.t24)::pt b (oc [ptr n.blk] Ty.t4)::NT X.ps::(ks2++rest')):=E.perm (permFr [_,_,_] [_,_] ks2 rest')
      clear E
      have E:=E1
      clear E1
      repeat with_reducible first|refine Stp.go ?_|(refine StpW.go E ?_; clear E; intro w_ E)
      refine (all_ok E).mono ?_
      clear E
      rintro r0 w_ ⟨c,rfl,E⟩
      have hloop : ∃ r',w_.heap[L0]? = some (.loop r'):=⟨_,E.sat (pt L0 (lpO r .busy none)) (by simp)⟩
      (replace E:=((((((E.bIx 4).bIx 3).bIx 3).bIx 5).bIx 4).bIx 5))
      have E1:=E.perm ((permBack [_,_,_,_,_] ks2 rest').cons _)
      clear E
      have hK2 : K (n::pre'.flatMap (allP X T f)++[]) ks2:=by rw [List.append_nil]; exact hK2
      refine RFi.hs (ks:=pt t2 (oc [y] Ty.t24)::ks2) (rest:=pt L0 (lpO r .busy none)::pt D0 dfO::pt b (oc [ptr n.blk] Ty.t4)::rest') rfl b_all1 (ih hkm.1 hkrank c) (fun pre2 ko=>∃ ks,K (n::pre'.flatMap (allP X T f)++pre2) ks∧ko = pt t2 (oc [y] Ty.t24)::ks) (fun _ _ _=>False)
        (fun _ ko=>∃ pre ks,S_ pre ks∧ko = pt t2 (oc [y] Ty.t24)::ks) E1 hloop ⟨ks2,hK2,rfl⟩ ?_ ?_ (fun _ _ _ _ h _=>h.elim) ?_
      · clear E1
        rintro r2 L2 pre2 x w_ _ rest2 Rn2 Re2 Rr2 hL2 hp2 ⟨ks3,hK3,rfl⟩ E hn3 - hr3
        obtain ⟨t2',hB2⟩:=inOrder_to hp2
        have E1 : Hs w0 F w_ (pt L2 (lpO r2 .ready none)::pt t2 (oc [y] Ty.t24)::NT X.ps::(ks3++rest2)):=E.perm (permFr [_,_] [_] ks3 rest2)
        clear E
        have E:=E1
        clear E1
        repeat with_reducible first|refine Stp.go ?_|refine StpE.go E ?_|(refine StpW.go E ?_; clear E; intro w_ E)
        (replace E:=(((E.bIx 1).bIx 1).bIx 2))
        have hin : InOrder (allP X T (f + 1) n) (n::pre'.flatMap (allP X T f)++pre2) x:=by
          refine inOrder_of (t:=t2'++t'.flatMap (allP X T f)) ?_
          rw [hB,hLt]
          simp [hB2]
        refine (hy _ x w_ ks3 (pt L2 (lpO r2 .busy none)::pt t2 (oc [y] Ty.t24)::rest2) hin hK3 (E.perm (permBack [_,_,_] ks3 rest2))).mono ?_
        clear E
        rintro r w_ (⟨rfl,ks4,hk4,E'⟩ | ⟨rfl,ks4,hs4,E'⟩)
        · have E : Hs w0 F w_ (NT X.ps::pt L2 (lpO r2 .busy none)::pt t2 (oc [y] Ty.t24)::(ks4++rest2)):=E'.perm (permBack [_,_,_] ks4 rest2).symm
          clear E'
          repeat with_reducible refine Stp.go ?_
          refine hn3 _ _ ⟨ks4,by rw [← List.append_assoc]; exact hk4,rfl⟩ ?_
          (replace E:=(((E.bIx 0).bIx 2).bIx 2))
          exact E.perm (permFr [_,_] [_] ks4 rest2).symm
        · have E : Hs w0 F w_ (NT X.ps::pt L2 (lpO r2 .busy none)::pt t2 (oc [y] Ty.t24)::(ks4++rest2)):=E'.perm (permBack [_,_,_] ks4 rest2).symm
          clear E'
          repeat with_reducible refine Stp.go ?_
          refine hr3 _ _ ⟨_,ks4,hs4,rfl⟩ ?_
          (replace E:=(((E.bIx 0).bIx 2).bIx 2))
          exact E.perm (permFr [_,_] [_] ks4 rest2).symm
      · clear E1
        rintro w_ xs ko hxs ⟨ks3,hK3,rfl⟩ E
        have E1 : Hs w0 F w_ (pt t2 (oc [y] Ty.t24)::pt c (oc [ptr k.blk] Ty.t4)::NT X.ps::pt L0 (lpO r .busy none)::pt D0 dfO::pt b (oc [ptr n.blk] Ty.t4)::(ks3++rest')):=E.perm (permFr [_] [_,_,_,_,_] ks3 rest')
        clear E
        have E:=E1
        clear E1
        replace E:=(E.bIx 1).tl
        (replace E:=(((((E.bIx 1).bIx 4).bIx 2).bIx 4).bIx 4))
        refine hn2 _ _ ⟨ks3,?_,rfl⟩ (E.perm (permFr [_,_,_] [_,_] ks3 rest').symm)
        rw [List.flatMap_append,List.flatMap_singleton,← hxs]
        exact hK3
      · clear E1
        rintro w_ xs ko ⟨pre3,ks3,hS3,rfl⟩ E
        have E1 : Hs w0 F w_ (pt t2 (oc [y] Ty.t24)::pt c (oc [ptr k.blk] Ty.t4)::NT X.ps::pt L0 (lpO r .busy none)::pt D0 dfO::pt b (oc [ptr n.blk] Ty.t4)::(ks3++rest')):=E.perm (permFr [_] [_,_,_,_,_] ks3 rest')
        clear E
        have E:=E1
        clear E1
        replace E:=(E.bIx 1).tl
        (replace E:=(((((E.bIx 1).bIx 4).bIx 2).bIx 4).bIx 4))
        exact hr _ _ ⟨pre3,ks3,hS3,rfl⟩ (E.perm (permFr [_,_,_] [_,_] ks3 rest').symm)
    · clear E1
      rintro D0 w_ xs ko hD0 hxs ⟨ks2,hK2,rfl⟩ E
      have E1 : Hs w0 F w_ (pt D0 dfO::pt t2 (oc [y] Ty.t24)::pt b (oc [ptr n.blk] Ty.t4)::NT X.ps::pt a (oc [ptr n.blk] Ty.t4)::(ks2++rest)):=E.perm (permFr [_,_] [_,_,_] ks2 rest)
      clear E
      have E:=E1
      clear E1
      repeat with_reducible first|refine Stp.go ?_|(refine StpW.go E ?_; clear E; intro w_ E)
      refine .inl ⟨_,ks2,rfl,by rw [hB,← hxs]; exact hK2,?_⟩
      replace E:=E.tl.tl
      (replace E:=((E.bIx 0).bIx 1))
      exact E.perm (permBack [_,_] ks2 rest)
    · clear E1
      rintro D0 w_ xs ko hD0 ⟨pre3,ks2,hS2,rfl⟩ E
      have E1 : Hs w0 F w_ (pt D0 dfO::pt t2 (oc [y] Ty.t24)::pt b (oc [ptr n.blk] Ty.t4)::NT X.ps::pt a (oc [ptr n.blk] Ty.t4)::(ks2++rest)):=E.perm (permFr [_,_] [_,_,_] ks2 rest)
      clear E
      have E:=E1
      clear E1
      repeat with_reducible first|refine Stp.go ?_|(refine StpW.go E ?_; clear E; intro w_ E)
      refine .inr ⟨_,ks2,hS2,?_⟩
      replace E:=E.tl.tl
      (replace E:=((E.bIx 0).bIx 1))
      exact E.perm (permBack [_,_] ks2 rest)
set_option maxRecDepth 100000
set_option linter.unusedVariables false
set_option linter.unusedSimpArgs false
variable {D:List Row} {X:PT} {T:Tr} {β:Int→Nat}
def belowN(T:Tr):Nat→Nd→List Nd
 |0,_=>[]
 |f+1,n=>n::(T.kidsS n.path).flatMap (belowN T f)
theorem kidsS_leaf(hi:Inv T){n:Nd}(hn:n∈T.ns)(hd:n.dir=false):T.kidsS n.path=[]:=by
 obtain⟨_,hk⟩:=hi.leaf hn hd
 have:T.kids n.path=[]:=by
  unfold Tr.kids
  rw[List.filter_eq_nil_iff]
  intro m hm hc
  unfold Tr.isKid at hc
  have hc:=of_decide_eq_true hc
  exact hk m hm hc.1 hc.2
 unfold Tr.kidsS
 rw[this]
 have:sortS []=[]:=List.Perm.eq_nil (sortS_mem [])
 rw[List.map_nil,this];rfl
theorem allP_map(h:Tie D X T β)(hi:Inv T):∀(f:Nat) {n:PN},n∈X.ps→(allP X T f n).map PN.f=belowN T f n.f
 |0,_,_=>rfl
 |f+1,n,hn=>by
  unfold allP belowN
  rw[List.map_cons]
  congr 1
  have hL:(Lk X T n).map PN.f=T.kidsS n.f.path:=by
   cases hd:n.f.dir with
   |true=>exact(lk_kids h hi hd).eq
   |false=>
    rw[kidsS_leaf hi (h.mem.2 ⟨n,hn,rfl⟩) hd]
    unfold Lk
    rw[if_neg (by rw[hd];simp)];rfl
  rw[← hL,List.map_flatMap,List.flatMap_map]
  have key:∀L:List PN,(∀k∈L,k∈X.ps)→L.flatMap (λk=>(allP X T f k).map PN.f)=L.flatMap λk=>belowN T f k.f:=by
   intro L
   induction L with
   |nil=>intro _;rfl
   |cons k r ih=>
    intro hk
    rw[List.flatMap_cons,List.flatMap_cons,allP_map h hi f (hk k List.mem_cons_self),ih λm hm=>hk m (List.mem_cons_of_mem _ hm)]
  exact key _ λk hk=>(lk_mem h hi hk).1
theorem below_mem(hi:Inv T):∀(f:Nat) {n m:Nd},n∈T.ns→m∈belowN T f n→m∈T.ns
 |0,_,_,_,hm=>by cases hm
 |f+1,n,m,hn,hm=>by
  unfold belowN at hm
  rcases List.mem_cons.1 hm with rfl|hm
  ·exact hn
  ·obtain⟨k,hk,hmk⟩:=List.mem_flatMap.1 hm
   exact below_mem hi f (kidsS_mem hi hk).1 hmk

theorem below_chain(hi:Inv T):∀(f:Nat) {n m:Nd},n∈T.ns→m∈belowN T f n→∃r,T.chain m=T.chain n++r
 |0,_,_,_,hm=>by cases hm
 |f+1,n,m,hn,hm=>by
  unfold belowN at hm
  rcases List.mem_cons.1 hm with rfl|hm
  ·exact⟨[],by simp⟩
  ·obtain⟨k,hk,hmk⟩:=List.mem_flatMap.1 hm
   obtain⟨k1,k2,k3⟩:=kidsS_mem hi hk
   obtain⟨r,hr⟩:=below_chain hi f k1 hmk
   have hp:T.parent k=n:=by
    obtain⟨p1,p2,_⟩:=parent_mem hi k1 k2
    exact hi.inj p1 hn (by rw[p2,k3])
   rw[hr,chain_step hi k1 k2,hp]
   exact⟨[k.name]++r,by simp⟩
theorem kids_name_inj(hi:Inv T){p:Int}{a b:Nd}(ha:a∈T.kidsS p)(hb:b∈T.kidsS p)(hn:a.name=b.name):a=b:=by
 obtain⟨a1,a2,a3⟩:=kidsS_mem hi ha
 obtain⟨b1,b2,b3⟩:=kidsS_mem hi hb
 exact hi.inj a1 b1 (hi.names a a1 b b1 a2 b2 (by rw[a3,b3]) hn)
theorem kidsS_nodup (hi : Inv T) (p : Int) : (T.kidsS p).Nodup:=by
  have h1:=kidsS_names hi p
  have h2 : ((T.kids p).map (·.name)).Nodup:=by
    rw [List.Nodup,List.pairwise_map]
    have hs : (T.kids p).Pairwise fun a b=>a.path < b.path:=hi.sorted.sublist List.filter_sublist
    refine hs.imp_of_mem fun {a b} ha hb hab hn=>?_
    unfold Tr.kids at ha hb
    obtain ⟨a1,a2⟩:=List.mem_filter.1 ha
    obtain ⟨b1,b2⟩:=List.mem_filter.1 hb
    unfold Tr.isKid at a2 b2
    have a2:=of_decide_eq_true a2
    have b2:=of_decide_eq_true b2
    have:=hi.names a a1 b b1 a2.1 b2.1 (by rw [a2.2,b2.2]) hn
    omega
  have h3 : ((T.kidsS p).map (·.name)).Nodup:=by rw [h1]; exact (sortS_mem _).nodup_iff.2 h2
  exact List.Pairwise.of_map (S:=(· ≠ ·)) _ (fun a b h e=>h (by rw [e])) h3
theorem below_nodup(hi:Inv T):∀(f:Nat) {n:Nd},n∈T.ns→(belowN T f n).Nodup
 |0,_,_=>List.nodup_nil
 |f+1,n,hn=>by
  unfold belowN
  have kidC:∀k∈T.kidsS n.path,∀m∈belowN T f k,∃r,T.chain m=T.chain n++k.name::r:=by
   intro k hk m hm
   obtain⟨k1,k2,k3⟩:=kidsS_mem hi hk
   obtain⟨r,hr⟩:=below_chain hi f k1 hm
   have hp:T.parent k=n:=by
    obtain⟨p1,p2,_⟩:=parent_mem hi k1 k2
    exact hi.inj p1 hn (by rw[p2,k3])
   exact⟨r,by rw[hr,chain_step hi k1 k2,hp];simp⟩
  rw[List.nodup_cons]
  constructor
  ·intro hc
   obtain⟨k,hk,hm⟩:=List.mem_flatMap.1 hc
   obtain⟨r,hr⟩:=kidC k hk n hm
   have:=congrArg List.length hr
   simp at this
  ·rw[List.Nodup,List.pairwise_flatMap]
   refine⟨λk hk=>below_nodup hi f (kidsS_mem hi hk).1,?_⟩
   refine(kidsS_nodup hi n.path).imp_of_mem λ{a b} ha hb hab m hma m2 hmb he=>?_
   subst he
   obtain⟨r1,h1⟩:=kidC a ha m hma
   obtain⟨r2,h2⟩:=kidC b hb m hmb
   rw[h1]at h2
   have h3:=List.append_cancel_left h2
   simp only[List.cons.injEq]at h3
   exact hab (kids_name_inj hi ha hb h3.1)
theorem below_len(hi:Inv T)(f:Nat){n:Nd}(hn:n∈T.ns):(belowN T f n).length≤1024:=by
 have h1:=below_nodup hi f hn
 have key:∀(a b:List Nd),a.Nodup→(∀e∈a,e∈b)→a.length≤b.length:=by
  classical
  intro a
  induction a with
  |nil=>intro b _ _;exact Nat.zero_le _
  |cons x r ih=>
   intro b hn hs
   rw[List.nodup_cons]at hn
   have hx:=hs x List.mem_cons_self
   obtain⟨b',hb⟩:=split_perm hx
   have:=ih b' hn.2 λe he=>by
    rcases List.mem_cons.1 (hb.mem_iff.1 (hs e (List.mem_cons_of_mem _ he)))with h|h
    ·exact absurd (h▸he) hn.1
    ·exact h
   rw[hb.length_eq]
   simp only[List.length_cons];omega
 have:=key _ T.ns h1 λe he=>below_mem hi f hn he
 have:=hi.few.1
 omega

structure Fl where
 path:BA
 dir:Dr
 data:BA
abbrev Fl.cs(x:Fl):List Value:=[str x.path,i64 x.dir.kind,i64 x.dir.vers,i64 x.dir.path,i64 x.dir.mode,i64 x.dir.time,i64 x.dir.len,str x.dir.name,str x.dir.owner,str x.dir.group,str x.dir.last,str x.data]
abbrev Fl.V(x:Fl):Value:=.agg x.cs.toArray
abbrev fcs(xs:List Fl):List Value:=xs.flatMap Fl.cs
def Tr.fl(T:Tr)(n:Nd):Fl:=⟨T.pathS n,n.stat,n.data⟩
def Tr.files(T:Tr):List Fl:=match T.get 0 with
 |none=>[]
 |some r=>(belowN T 2000 r).map T.fl
set_option maxRecDepth 100000
set_option linter.unusedVariables false
set_option linter.unusedSimpArgs false
variable {T:Tr}

structure Newer(ws:Bool)(T T':Tr):Prop where
 clock:T.clock≤T'.clock
 next:T.next≤T'.next
 ns:∀m∈T'.ns,T.next≤m.path∨∃n∈T.ns,m.path=n.path∧(m=n∨(n.vers<m.vers∧(ws=false→m.time=T'.clock)))
theorem Newer.refl(ws:Bool)(T:Tr):Newer ws T T:=⟨Int.le_refl _,Int.le_refl _,λm hm=>.inr ⟨m,hm,rfl,.inl rfl⟩⟩
theorem chg_ver{user:BA}{ps:List Int}{m:Nd}(h:m∈(T.change user ps).ns):∃q∈T.ns,m.path=q.path∧((m=q∧m.path∉ps)∨(q.vers<m.vers∧m.time=T.clock+1)):=by
 have key:∀(ps:List Int) (T:Tr) (m:Nd),m∈(ps.foldl (λT p=>T.upd p (touchN T.clock user)) T).ns→∃q∈T.ns,m.path=q.path∧((m=q∧m.path∉ps)∨(q.vers<m.vers∧m.time=T.clock)):=by
  intro ps
  induction ps with
  |nil=>intro T m h;exact⟨m,h,rfl,.inl ⟨rfl,List.not_mem_nil⟩⟩
  |cons p ps ih=>
   intro T m h
   obtain⟨q,hq,e1,e2⟩:=ih _ m h
   obtain⟨q0,hq0,rfl⟩:=updN_mem hq
   refine⟨q0,hq0,?_,?_⟩
   ·rw[e1];split<;>rfl
   by_cases hp:q0.path=p
   ·rw[if_pos hp]at e1 e2
    right
    rcases e2 with⟨rfl,-⟩|⟨e2,e3⟩
    ·exact⟨by show q0.vers<q0.vers+1;omega,rfl⟩
    ·have e2:q0.vers+1<m.vers:=e2
     exact⟨by omega,e3⟩
   ·rw[if_neg hp]at e1 e2
    rcases e2 with⟨rfl,e2⟩|e2
    ·left
     refine⟨rfl,λhc=>?_⟩
     rcases List.mem_cons.1 hc with hc|hc
     ·exact hp hc
     ·exact e2 hc
    ·exact .inr e2
 exact key ps T.tick m h
theorem Newer.change(ws:Bool)(T:Tr)(user:BA)(ps:List Int):Newer ws T (T.change user ps):=by
 obtain⟨k1,k2,k3,k4,k5⟩:=change_keeps T user ps
 refine⟨by omega,by omega,λm hm=>.inr ?_⟩
 obtain⟨q,hq,e1,e2⟩:=chg_ver hm
 refine⟨q,hq,e1,?_⟩
 rcases e2 with⟨e2,-⟩|⟨e2,e3⟩
 ·exact .inl e2
 ·exact .inr ⟨e2,λ_=>by rw[e3,k4]⟩

theorem Newer.given(ws:Bool)(T:Tr)(user:BA){ps:List Int}{p:Int}(hp:p∈ps){f:Nd→Nd}(hf:∀n,(f n).path=n.path∧(f n).vers=n.vers∧(ws=false→(f n).time=n.time)):Newer ws T ((T.change user ps).upd p f):=by
 obtain⟨k1,k2,k3,k4,k5⟩:=change_keeps T user ps
 refine⟨by show T.clock≤(T.change user ps).clock;omega,by show T.next≤(T.change user ps).next;omega,λm hm=>.inr ?_⟩
 obtain⟨n,hn,rfl⟩:=updN_mem hm
 obtain⟨q,hq,e1,e2⟩:=chg_ver hn
 obtain⟨f1,f2,f3⟩:=hf n
 refine⟨q,hq,by rw[← e1];split<;>first|exact f1|rfl,?_⟩
 by_cases hnp:n.path=p
 ·rw[if_pos hnp]
  rcases e2 with⟨e2,e3⟩|⟨e2,e3⟩
  ·exact absurd (hnp▸hp) e3
  ·exact .inr ⟨by rw[f2];exact e2,λh=>by rw[f3 h,e3];exact k4.symm⟩
 ·rw[if_neg hnp]
  rcases e2 with⟨e2,e3⟩|⟨e2,e3⟩
  ·exact .inl e2
  ·exact .inr ⟨e2,λh=>by rw[e3];exact k4.symm⟩
theorem Newer.hold{ws:Bool}{T':Tr}(h:Newer ws T T')(x:Hd):Newer ws T (T'.hold x).1:=⟨h.clock,h.next,h.ns⟩

theorem below_self(f:Nat)(n:Nd):n∈belowN T (f+1) n:=by unfold belowN;exact List.mem_cons_self
theorem below_kid:∀(f:Nat) {n m k:Nd},m∈belowN T f n→k∈T.kidsS m.path→k∈belowN T (f+1) n
 |0,_,_,_,h,_=>by cases h
 |f+1,n,m,k,h,hk=>by
  unfold belowN at h ⊢
  rcases List.mem_cons.1 h with rfl|h
  ·exact List.mem_cons_of_mem _ (List.mem_flatMap.2 ⟨k,hk,below_self f k⟩)
  ·obtain⟨j,hj,hm⟩:=List.mem_flatMap.1 h
   exact List.mem_cons_of_mem _ (List.mem_flatMap.2 ⟨j,hj,below_kid f hm hk⟩)
theorem below_mono:∀(f:Nat) {n m:Nd},m∈belowN T f n→m∈belowN T (f+1) n
 |0,_,_,h=>by cases h
 |f+1,n,m,h=>by
  unfold belowN at h ⊢
  rcases List.mem_cons.1 h with rfl|h
  ·exact List.mem_cons_self
  ·obtain⟨j,hj,hm⟩:=List.mem_flatMap.1 h
   exact List.mem_cons_of_mem _ (List.mem_flatMap.2 ⟨j,hj,below_mono f hm⟩)
theorem below_le{f g:Nat}(h:f≤g){n m:Nd}(hm:m∈belowN T f n):m∈belowN T g n:=by
 induction h with
 |refl=>exact hm
 |step _ ih=>exact below_mono _ ih
theorem kidsS_has(hi:Inv T){n:Nd}(hn:n∈T.ns)(h0:n.path≠0):n∈T.kidsS n.up:=by
 have hk:n∈T.kids n.up:=List.mem_filter.2 ⟨hn,by unfold Tr.isKid;exact decide_eq_true ⟨h0,rfl⟩⟩
 unfold Tr.kidsS
 rw[List.mem_filterMap]
 exact⟨n.name,(sortS_mem _).mem_iff.2 (List.mem_map.2 ⟨n,hk,rfl⟩),(kid_some hi).2 ⟨hn,h0,rfl,rfl⟩⟩
theorem below_all(hi:Inv T){r n:Nd}(hr:T.get 0=some r)(hn:n∈T.ns):n∈belowN T 2000 r:=by
 obtain⟨rk,hrk,hb⟩:=hi.rankB
 have key:∀(k:Nat) (n:Nd),n∈T.ns→rk n.path≤k→n∈belowN T (k+1) r:=by
  intro k
  induction k with
  |zero=>
   intro n hn hk
   by_cases h0:n.path=0
   ·have:n=r:=hi.inj hn (hi.get.1 hr).1 (by rw[h0,(hi.get.1 hr).2])
    rw[this];exact below_self _ _
   ·have:=hrk n hn h0;omega
  |succ k ih=>
   intro n hn hk
   by_cases h0:n.path=0
   ·have:n=r:=hi.inj hn (hi.get.1 hr).1 (by rw[h0,(hi.get.1 hr).2])
    rw[this];exact below_self _ _
   ·have:=hrk n hn h0
    obtain⟨u,hu,h1,-⟩:=hi.up n hn h0
    have:=ih u hu (by rw[h1];omega)
    exact below_kid _ this (by rw[h1];exact kidsS_has hi hn h0)
 exact below_le (by have:=hb n.path;omega) (key _ n hn (Nat.le_refl _))
theorem root_get(hi:Inv T):∃r,T.get 0=some r:=by
 obtain⟨r,hr,h0⟩:=hi.root
 exact⟨r,hi.get.2 ⟨hr,h0⟩⟩
theorem files_mem(hi:Inv T){x:Fl}:x∈T.files↔∃n∈T.ns,x=T.fl n:=by
 obtain⟨r,hr⟩:=root_get hi
 unfold Tr.files
 rw[hr]
 simp only[List.mem_map]
 constructor
 ·rintro⟨n,hn,rfl⟩;exact⟨n,below_mem hi _ (hi.get.1 hr).1 hn,rfl⟩
 ·rintro⟨n,hn,rfl⟩;exact⟨n,below_all hi hr hn,rfl⟩
theorem files_len(hi:Inv T):T.files.length≤1024:=by
 obtain⟨r,hr⟩:=root_get hi
 unfold Tr.files
 rw[hr]
 simp only[List.length_map]
 exact below_len hi _ (hi.get.1 hr).1
set_option maxRecDepth 100000
set_option linter.unusedVariables false
set_option linter.unusedSimpArgs false
variable {D:List Row} {X:PT} {T:Tr} {β:Int→Nat}

def Kd(T:Tr)(Q:List PN)(q:PN):Prop:=
 ∃L:List PN,(∀x∈L,x∈Q∧x.ub=some q.blk)∧(L.map PN.f).Perm (T.kids q.f.path)∧q.kl.Perm (L.map λk=>(k.f.name,k.blk))
theorem Kd.mono{Q Q':List PN}{q:PN}(h:Kd T Q q)(hs:∀x∈Q,x∈Q'):Kd T Q' q:=by
 obtain⟨L,h1,h2,h3⟩:=h
 exact⟨L,λx hx=>⟨hs x (h1 x hx).1,(h1 x hx).2⟩,h2,h3⟩
structure Done(D:List Row)(T:Tr)(Q:List PN)(q:PN):Prop where
 kd:Kd T Q q
 dv:Rdy D Ty.uint8 q.dv (bts q.f.data)
theorem kids_nodup(hi:Inv T)(p:Int):(T.kids p).Nodup:=by
 have:(T.kids p).Pairwise λa b=>a.path<b.path:=hi.sorted.sublist List.filter_sublist
 exact this.imp λh e=>by rw[e]at h;omega
theorem kidsS_perm(hi:Inv T)(p:Int):(T.kidsS p).Perm (T.kids p):=by
 refine(List.perm_ext_iff_of_nodup (kidsS_nodup hi p) (kids_nodup hi p)).2 λa=>⟨λh=>?_,λh=>?_⟩
 ·obtain⟨h1,h2,h3⟩:=kidsS_mem hi h
  exact List.mem_filter.2 ⟨h1,by unfold Tr.isKid;exact decide_eq_true ⟨h2,h3⟩⟩
 ·obtain⟨h1,h2⟩:=List.mem_filter.1 h
  unfold Tr.isKid at h2
  obtain⟨h2,h3⟩:=of_decide_eq_true h2
  rw[← h3]
  exact kidsS_has hi h1 h2
theorem kids_mem(hi:Inv T){p:Int}{k:Nd}(h:k∈T.kids p):k∈T.ns∧k.path≠0∧k.up=p:=kidsS_mem hi ((kidsS_perm hi p).mem_iff.2 h)
theorem below_kids{f:Nat}{n k m:Nd}(hi:Inv T)(hk:k∈T.kids n.path)(hm:m∈belowN T f k):m∈belowN T (f+1) n:=by
 unfold belowN
 exact List.mem_cons_of_mem _ (List.mem_flatMap.2 ⟨k,(kidsS_perm hi _).mem_iff.2 hk,hm⟩)
theorem below_perm(hi:Inv T)(f:Nat)(n:Nd):(belowN T (f+1) n).Perm (n::(T.kids n.path).flatMap (belowN T f)):=by
 unfold belowN
 exact((kidsS_perm hi n.path).flatMap_right _).cons _

theorem below_apart(hi:Inv T){f:Nat}{n k:Nd}{V:List Nd}(hn:n∈T.ns)(hV:∀x∈V,x∈T.kids n.path)(hk:k∈T.kids n.path)(hnd:(V++[k]).Nodup):
  (∀m∈belowN T f k,m≠n)∧∀m∈belowN T f k,m∉V.flatMap (belowN T f):=by
 have h0:=(below_perm hi f n).nodup_iff.1 (below_nodup hi (f+1) hn)
 rw[List.nodup_cons]at h0
 refine⟨λm hm e=>?_,λm hm hc=>?_⟩
 ·have h1:m∈(T.kids n.path).flatMap (belowN T f):=List.mem_flatMap.2 ⟨k,hk,hm⟩
  rw[e]at h1
  exact h0.1 h1
 obtain⟨x,hx,hmx⟩:=List.mem_flatMap.1 hc
 have hne:x≠k:=by
  rintro rfl
  rw[List.nodup_append]at hnd
  exact hnd.2.2 x hx x (by simp) rfl
 have h1:=h0.2
 rw[List.Nodup,List.pairwise_flatMap]at h1
 have key:∀{L:List Nd},L.Pairwise (λa b=>∀x∈belowN T f a,∀y∈belowN T f b,x≠y)→x∈L→k∈L→False:=by
  intro L
  induction L with
  |nil=>intro _ h;cases h
  |cons a r ih=>
   intro hp h2 h3
   rw[List.pairwise_cons]at hp
   rcases List.mem_cons.1 h2 with rfl|h2'<;>rcases List.mem_cons.1 h3 with rfl|h3'
   ·exact hne rfl
   ·exact hp.1 k h3' m hmx m hm rfl
   ·exact hp.1 x h2' m hm m hmx rfl
   ·exact ih hp.2 h2' h3'
 exact key h1.2 (hV x hx) hk

theorem perm_of_vals (h : Tie D X T β) (hi : Inv T) {p : Int} {V : List PN} (hV : ∀ k∈V,k∈X.ps∧Tr.isKid p k.f = true) (hnd : V.Nodup) {M : List (BA × Nat)}
    (hM : M.Perm ((X.ps.filter fun k=>Tr.isKid p k.f).map fun k=>(k.f.name,k.blk))) (hv : (V.map fun k=>(k.f.name,k.blk)).Perm M) : (V.map PN.f).Perm (T.kids p):=by
  have hps : X.ps.Nodup:=by
    have h1 : (X.ps.map PN.f).Nodup:=h.ns.nodup_iff.2 (List.Pairwise.of_map (S:=(· ≠ ·)) Nd.path (fun a b h e=>h (by rw [e])) hi.nodup)
    exact List.Pairwise.of_map (S:=(· ≠ ·)) PN.f (fun a b h e=>h (by rw [e])) h1
  have hkn : (X.ps.filter fun k=>Tr.isKid p k.f).Nodup:=List.Pairwise.sublist List.filter_sublist hps
  have hVK : V.Perm (X.ps.filter fun k=>Tr.isKid p k.f):=by
    refine (List.perm_ext_iff_of_nodup hnd hkn).2 fun a=>⟨fun ha=>List.mem_filter.2 (hV a ha),fun ha=>?_⟩
    have hm:=(hv.trans hM).mem_iff.2 (List.mem_map.2 ⟨a,ha,rfl⟩)
    obtain ⟨b,hb,he⟩:=List.mem_map.1 hm
    obtain ⟨b1,b2⟩:=hV b hb
    obtain ⟨a1,a2⟩:=List.mem_filter.1 ha
    have hname : b.f.name = a.f.name:=congrArg Prod.fst he
    have a2 : Tr.isKid p a.f = true:=a2
    unfold Tr.isKid at a2 b2
    obtain ⟨a3,a4⟩:=of_decide_eq_true a2
    obtain ⟨b3,b4⟩:=of_decide_eq_true b2
    have:=hi.names b.f (h.mem.2 ⟨b,b1,rfl⟩) a.f (h.mem.2 ⟨a,a1,rfl⟩) b3 a3 (by rw [a4,b4]) hname
    rw [← h.inj hi b1 a1 this]; exact hb
  have h1:=hVK.map PN.f
  refine h1.trans ?_
  have h2:=h.ns.filter (Tr.isKid p)
  unfold Tr.kids
  refine List.Perm.trans ?_ h2
  rw [List.filter_map]
  exact List.Perm.refl _

theorem tie_of_done (hi : Inv T) {Q : List PN} {Y : PT} {q0 : PN} (hQ : (Q.map PN.f).Perm T.ns) (hd : ∀ q∈Q,Done D T Q q) (h0 : q0∈Q) (hp0 : q0.f.path = 0) (hu0 : q0.ub = none)
    (hY : Y.ps = Q) (hfl : Y.fl = Q.map fun q=>(q.f.path,q.blk)) (hroot : Y.root = q0.blk) (hg : GTie D Y.gv T.gs) (hol : Y.ol = []) (hc : Y.clock = T.clock) (hn : Y.next = T.next) :
    ∃ β,Tie D Y { T with hs:=[] } β:=by
  have hnd : (Q.map fun q=>q.f.path).Nodup:=by
    have:=(hQ.map (·.path)).nodup_iff.2 hi.nodup
    rwa [List.map_map] at this
  have inj : ∀ a∈Q,∀ b∈Q,a.f.path = b.f.path→a = b:=by
    intro a ha b hb he
    have key : ∀ (ps : List PN),(ps.map fun n=>n.f.path).Nodup→a∈ps→b∈ps→a = b:=by
      intro ps
      induction ps with
      | nil=>intro _ h; cases h
      | cons x r ih =>
        intro hp ha hb
        rw [List.map_cons,List.nodup_cons] at hp
        rcases List.mem_cons.1 ha with h1 | ha <;> rcases List.mem_cons.1 hb with h2 | hb
        · rw [h1,h2]
        · exact absurd (List.mem_map.2 ⟨b,hb,by rw [← h1,he]⟩) hp.1
        · exact absurd (List.mem_map.2 ⟨a,ha,by rw [← h2,he]⟩) hp.1
        · exact ih hp.2 ha hb
    exact key Q hnd ha hb
  have mem : ∀ {n : Nd},n∈T.ns↔∃ q∈Q,q.f = n:=fun {n}=>by rw [← hQ.mem_iff,List.mem_map]
  have hQn : Q.Nodup:=List.Pairwise.of_map (S:=(· ≠ ·)) (fun q : PN=>q.f.path) (fun a b h e=>h (by rw [e])) hnd
  obtain ⟨β,hβ⟩ : ∃ β : Int→Nat,∀ q∈Q,β q.f.path = q.blk:=by
    refine ⟨fun p=>match Q.find? (fun q=>decide (q.f.path = p)) with | some q=>q.blk | none=>0,fun q hq=>?_⟩
    cases hf : Q.find? (fun x=>decide (x.f.path = q.f.path)) with
    | none=>have:=List.find?_eq_none.1 hf q hq; simp at this
    | some x =>
      have h1:=List.mem_of_find?_eq_some hf
      have h2 : x.f.path = q.f.path:=by simpa using List.find?_some hf
      have:=inj x h1 q hq h2
      subst this
      simp only [hf]
  refine ⟨β,by rw [hY]; exact hQ,hc,hn,?_,?_,?_,?_,?_,hg,?_,?_,?_⟩
  · rw [hY]; exact fun q hq=>(hd q hq).dv
  · rw [hY]
    intro q hq
    refine ⟨fun h0'=>?_,fun h0'=>?_⟩
    · have:=inj q hq q0 h0 (by rw [h0',hp0])
      rw [this]; exact hu0
    · obtain ⟨u,hu,h1,h2⟩:=hi.up q.f (mem.2 ⟨q,hq,rfl⟩) h0'
      obtain ⟨v,hv,rfl⟩:=mem.1 hu
      refine ⟨v,hv,h1,?_⟩
      obtain ⟨L,k1,k2,k3⟩:=(hd v hv).kd
      have : q.f∈T.kids v.f.path:=List.mem_filter.2 ⟨mem.2 ⟨q,hq,rfl⟩,by unfold Tr.isKid; exact decide_eq_true ⟨h0',h1.symm⟩⟩
      obtain ⟨x,hx,hxe⟩:=List.mem_map.1 (k2.mem_iff.2 this)
      obtain ⟨x1,x2⟩:=k1 x hx
      have : x = q:=inj x x1 q hq (by rw [hxe])
      rw [← this]; exact x2
  · rw [hY]
    intro q hq
    obtain ⟨L,k1,k2,k3⟩:=(hd q hq).kd
    refine k3.trans (List.Perm.map _ ?_)
    have hLn : L.Nodup:=List.Pairwise.of_map (S:=(· ≠ ·)) PN.f (fun a b h e=>h (by rw [e])) (k2.nodup_iff.2 (kids_nodup hi _))
    refine (List.perm_ext_iff_of_nodup hLn (List.Pairwise.sublist List.filter_sublist hQn)).2 fun a=>⟨fun ha=>?_,fun ha=>?_⟩
    · have h1:=k2.mem_iff.1 (List.mem_map.2 ⟨a,ha,rfl⟩)
      exact List.mem_filter.2 ⟨(k1 a ha).1,(List.mem_filter.1 h1).2⟩
    · obtain ⟨a1,a2⟩:=List.mem_filter.1 ha
      have h1 : a.f∈T.kids q.f.path:=List.mem_filter.2 ⟨mem.2 ⟨a,a1,rfl⟩,a2⟩
      obtain ⟨x,hx,hxe⟩:=List.mem_map.1 (k2.mem_iff.2 h1)
      rw [← inj x (k1 x hx).1 a a1 (by rw [hxe])]; exact hx
  · rw [hfl,hY]
  · exact ⟨q0,by rw [hY]; exact h0,hp0,hroot.symm⟩
  · rw [hY]; exact hβ
  · rw [hol]; exact List.Perm.refl _
  · intro x hx; cases hx
set_option maxRecDepth 100000
set_option linter.unusedVariables false
set_option linter.unusedSimpArgs false
variable {w0 w:World} {F:Nat→Prop} {l:List As}
variable {D:List Row} {X:PT} {T:Tr} {β:Int→Nat}
abbrev twF(tv ov:Nat):Value:=.func (.func Fn.f6) #[] #[ptr tv,ptr ov]
abbrev twA(tv ov:Nat):As:=pt tv (oc [twF tv ov] Ty.t2)
abbrev twB(ov o:Nat):As:=pt ov (oc [ptr o] Ty.t10)
abbrev twC(o fm:Nat)(v0 v2 v3 v4 v5:Value):As:=pt o (oc [v0,.map (some fm),v2,v3,v4,v5] Ty.t17)
abbrev flQ(Q:List PN):List (Int×Nat):=Q.map λq=>(q.f.path,q.blk)
abbrev twM(fm:Nat)(Q:List PN):As:=mp fm (.int .i64) (encM i64 ptr (flQ Q))
abbrev upV(ub:Option Nat):Value:=.pointer (ub.map λb=>⟨b,0,none⟩)
theorem kids_names (hi : Inv T) (p : Int) : ((T.kids p).map (·.name)).Nodup:=by
 rw [List.Nodup,List.pairwise_map]
 exact (kids_nodup hi p).imp_of_mem fun {a b} ha hb hab hn=>by
  obtain ⟨a1,a2,a3⟩:=kids_mem hi ha
  obtain ⟨b1,b2,b3⟩:=kids_mem hi hb
  exact hab (hi.inj a1 b1 (hi.names a a1 b b1 a2 b2 (by rw [a3,b3]) hn))
theorem inj_map{α β:Type}{g:α→β}:∀{L:List α},(L.map g).Nodup→∀a∈L,∀b∈L,g a=g b→a=b
 |[],_,_,h,_,_,_=>by cases h
 |x::r,hn,a,ha,b,hb,he=>by
  rw[List.map_cons,List.nodup_cons]at hn
  rcases List.mem_cons.1 ha with h1|ha'<;>rcases List.mem_cons.1 hb with h2|hb'
  ·rw[h1,h2]
  ·exact absurd (List.mem_map.2 ⟨b,hb',by rw[← h1,he]⟩) hn.1
  ·exact absurd (List.mem_map.2 ⟨a,ha',by rw[← h2,he]⟩) hn.1
  ·exact inj_map hn.2 a ha' b hb' he
theorem twin_ok (h : Tie D X T β) (hi : Inv T) {rk : Int→Nat} (hrk : ∀ n∈T.ns,n.path ≠ 0→rk n.up < rk n.path) (hrb : ∀ p,rk p≤1024) {tv ov o fm : Nat} {v0 v2 v3 v4 v5 : Value} :
    ∀ (f : Nat) {n : PN} {R Q : List PN} {l : List As} {w : World} {ub : Option Nat},n∈R→(∀ m∈R,m∈X.ps)→(∀ m∈X.ps,m.f∈belowN T f n.f→m∈R)→1024 < rk n.f.path + f→(∀ q∈Q,q.f∈T.ns∧q.f ∉ belowN T f n.f) →
      Hs w0 F w (NT R::twA tv ov::twB ov o::twC o fm v0 v2 v3 v4 v5::twM fm Q::NT Q::Pool D::l) →
      CaV PP (twF tv ov) #[ptr n.blk,upV ub] w fun r w'=>∃ (Q' : List PN) (q0 : PN),r = ptr q0.blk∧q0∈Q'∧q0.f = n.f∧q0.ub = ub∧(Q'.map PN.f).Perm (belowN T f n.f)∧(∀ q∈Q',Done D T (Q++Q') q) ∧
        Hs w0 F w' (NT R::twA tv ov::twB ov o::twC o fm v0 v2 v3 v4 v5::twM fm (Q++Q')::NT (Q++Q')::Pool D::l)
  | 0,n,R,Q,l,w,ub,_,_,_,hf,_,E=>by have:=hrb n.f.path; omega
  | f + 1,n,R,Q,l,w,ub,hn,hR,hB,hf,hQ,E=>by
    refine CaV.mk (by kernel_rfl) ?_
    refine S.f6.calls (a0:=ptr n.blk) (a1:=upV ub) (a2:=ptr tv) (a3:=ptr ov) ?_
    unfold S.f6
    have hnX:=hR n hn
    have hnT:=h.mem.2 ⟨n,hnX,rfl⟩
    obtain ⟨R',hp⟩:=split_perm hn
    have isc:=RdS_scal ((h.data n hnX).read E (by simp))
    replace E:=Hs.openN E hp
    have hkl:=h.kl n hnX
    repeat with_reducible first|refine Stp.go ?_|refine StpE.go E ?_|(refine StpW.go E ?_; clear E; intro w_ E)|(refine StpA.go E ?_; clear E; intro b_ w_ hb_ E)
    (revert b_; intro b hbb E)
    (intro J11 hJ11)
    refine (isDir_ok (f:=n.blk) (m:=n.mn) E).mono ?_
    clear E
    rintro r w_ ⟨rfl,E⟩
    cases hd : n.f.dir with
    | false =>
      rw [show isD n.mn.mode = false from hd]
      have hk0 : n.mn.kids = none:=by show (if n.f.dir then some n.kb else none) = none; rw [hd]; rfl
      repeat with_reducible first|refine Stp.go ?_|refine StpE.go E ?_|(apply hJ11; intro u_)
      rw [hk0]
      refine Rg.nil E u_mkids ?_
      clear E
      intro it w_ hit E
      refine ⟨fun l1 w1=>l1 = []∧Hs w0 F w1 (pt it (.mapIter none 0 #[] 0)::nd b ⟨kindOf n.f.mode,n.f.vers,n.f.path,n.f.mode,n.f.time,n.ln,n.f.name,n.f.owner,n.f.group,n.f.last,n.dv,none,ub,false⟩::nd n.blk n.mn::KM n::NT R'::twA tv ov::twB ov o::twC o fm v0 v2 v3 v4 v5::twM fm Q::NT Q::Pool D::l),fun _ _=>0,⟨rfl,E⟩,?_⟩
      clear E
      rintro u w1 ⟨-,E⟩
      refine Nx.nil E ?_
      repeat with_reducible first|refine Stp.go ?_|refine StpE.go E ?_|(refine StpW.go E ?_; clear E; intro w_ E)
      refine Mu.by E u_mfiles k_i64 rfl ?_
      clear E
      intro w_ E
      have hfresh : n.f.path ∉ (flQ Q).map (·.1):=fun hc=>by
        rw [List.map_map] at hc
        obtain ⟨q,hq,he⟩:=List.mem_map.1 hc
        obtain ⟨q1,q2⟩:=hQ q hq
        exact q2 (by rw [hi.inj q1 hnT he]; exact below_self f n.f)
      have he : aput (encM i64 ptr (flQ Q)) (i64 n.f.path) (ptr b) = encM i64 ptr (flQ (Q++[⟨n.f,b,n.ln,n.dv,0,[],ub⟩])):=by
        rw [show flQ (Q++[⟨n.f,b,n.ln,n.dv,0,[],ub⟩]) = flQ Q++[(n.f.path,b)] by simp [flQ],← putL_new hfresh]
        exact aput_enc (ev:=ptr) (keyI _) _ _ _
      have E2:=E
      rw [show aput (encM i64 ptr (flQ Q)) (i64 n.mn.path) (Value.pointer (some { block:=b,off:=0 })) = _ from he] at E2
      clear E
      have hkn : T.kids n.f.path = []:=by
        have:=kidsS_perm hi n.f.path
        rw [kidsS_leaf hi hnT hd] at this
        exact List.Perm.eq_nil this.symm
      obtain ⟨q0,hq0⟩ : ∃ q0 : PN,q0 = ⟨n.f,b,n.ln,n.dv,0,[],ub⟩:=⟨_,rfl⟩
      rw [← hq0] at E2
      have hmn : q0.mn = ⟨kindOf n.f.mode,n.f.vers,n.f.path,n.f.mode,n.f.time,n.ln,n.f.name,n.f.owner,n.f.group,n.f.last,n.dv,none,ub,false⟩:=by
        rw [hq0]
        show MN.mk _ _ _ _ _ _ _ _ _ _ _ (if n.f.dir = true then some 0 else none) _ _ = _
        rw [hd]; rfl
      have E : Hs w0 F w_ (pt it (Obj.mapIter none 0 #[] 0)::nd q0.blk q0.mn::nd n.blk n.mn::KM n::NT R'::twA tv ov::twB ov o::twC o fm v0 v2 v3 v4 v5::twM fm (Q++[q0])::NT Q::Pool D::l):=by
        rw [hmn,show q0.blk = b by rw [hq0]]; exact E2
      clear E2
      replace E:=E.tl
      have hK : KM q0 = star []:=by unfold KM; rw [if_neg (by rw [hq0,show n.f.dir = false from hd]; simp)]
      have E2 : Hs w0 F w_ (KM q0::nd q0.blk q0.mn::nd n.blk n.mn::KM n::NT R'::twA tv ov::twB ov o::twC o fm v0 v2 v3 v4 v5::twM fm (Q++[q0])::NT Q::Pool D::l):=by
        rw [hK]; exact Hs.starNil E
      clear E
      have E:=E2
      clear E2
      (replace E:=(((E.bIx 9).bIx 1).bIx 2))
      replace E:=Hs.closeN q0 E
      (replace E:=((((E.bIx 0).bIx 3).bIx 3).bIx 3))
      replace E:=Hs.closeN n E
      replace E:=Hs.permN E hp.symm
      (replace E:=((((((E.bIx 1).bIx 5).bIx 5).bIx 5).bIx 5).bIx 5))
      have hpm : (q0::Q).Perm (Q++[q0]):=List.perm_append_comm (l₁:=[q0]) (l₂:=Q)
      replace E:=Hs.permN (E.bIx 5) hpm
      (replace E:=((((((E.bIx 0).bIx 5).bIx 5).bIx 5).bIx 5).bIx 5))
      refine ⟨[q0],q0,by rw [hq0],by simp,by rw [hq0],by rw [hq0],?_,?_,E⟩
      · rw [List.map_singleton,show q0.f = n.f by rw [hq0]]
        unfold belowN
        rw [kidsS_leaf hi hnT hd]
        exact List.Perm.refl _
      · intro q hq
        rw [List.mem_singleton.1 hq]
        refine ⟨⟨[],(fun _ h=>by cases h),?_,?_⟩,?_⟩
        · rw [show q0.f = n.f by rw [hq0],hkn]; exact List.Perm.refl _
        · rw [hq0]; exact List.Perm.refl _
        · rw [hq0]; exact h.data n hnX
    | true =>
      rw [show isD n.mn.mode = true from hd]
      have hk1 : n.mn.kids = some n.kb:=by show (if n.f.dir then some n.kb else none) = some n.kb; rw [hd]; rfl
      repeat with_reducible refine Stp.go ?_
      refine MkM.pt (kt:=.str) E ?_
      clear E
      intro kb w_ hkb E
      repeat with_reducible first|refine Stp.go ?_|refine StpE.go E ?_|(refine StpW.go E ?_; clear E; intro w_ E)|(apply hJ11; intro u_)
      rw [hk1]
      have hkn : ∀ k : PN,k∈X.ps→Tr.isKid n.f.path k.f = true→k.f∈T.kids n.f.path:=fun k hk hq=>List.mem_filter.2 ⟨h.mem.2 ⟨k,hk,rfl⟩,hq⟩
      have hkln : (n.kl.map (·.1)).Nodup:=(kids_perm h hnX).nodup_iff.2 (by
        exact kids_names hi n.f.path)
      have hkey : ∀ es : Array MapEntry,prs es.toList = n.kM→(es.toList.map fun e=>e.key).Nodup:=by
        intro es hes
        have h1 : (prs es.toList).map (·.1) = n.kM.map (·.1):=by rw [hes]
        unfold prs PN.kM encM at h1
        rw [List.map_map,List.map_map] at h1
        have h2 : es.toList.map (fun e=>e.key) = (n.kl.map (·.1)).map str:=by rw [List.map_map]; exact h1
        rw [h2]
        rw [List.Nodup,List.pairwise_map]
        exact hkln.imp fun h e=>h (by injection e)
      replace E:=Hs.openK hd (E.bIx 3)
      refine Rg.mp (m:=n.kb) E u_mkids ?_
      clear E
      intro it es clock w_ hit hes hw hok E
      have hnames : ∀ ms : List MapEntry,Wlk es clock ms→∀ V : List PN,ms.map (fun e=>(e.key,e.val)) = V.map (fun k=>(str k.f.name,ptr k.blk))→(V.map fun k=>k.f.name).Nodup:=by
        intro ms hw V hmV
        have hk:=hkey es hes
        have h1 : (ms.map fun e=>e.key).Nodup:=by
          rw [List.Nodup,List.pairwise_map]
          have hnd:=hw.nd
          rw [List.Nodup,List.pairwise_map] at hnd
          exact hnd.imp_of_mem fun {a b} ha hb hab e=>hab (by rw [inj_map hk a (hw.sub a ha) b (hw.sub b hb) e])
        have h2 : ms.map (fun e=>e.key) = (V.map fun k=>k.f.name).map str:=by
          have:=congrArg (List.map Prod.fst) hmV
          rw [List.map_map,List.map_map] at this
          rw [List.map_map]; exact this
        rw [h2] at h1
        exact List.Pairwise.of_map (S:=(· ≠ ·)) str (fun a b h e=>h (by rw [e])) h1
      refine ⟨fun l1 w1=>l1 = []∧∃ (ms : List MapEntry) (V Q1 L1 : List PN),Wlk es clock ms∧ms.map (fun e=>(e.key,e.val)) = V.map (fun k=>(str k.f.name,ptr k.blk))∧(∀ k∈V,k∈X.ps∧Tr.isKid n.f.path k.f = true) ∧
          (Q1.map PN.f).Perm ((V.map PN.f).flatMap (belowN T f))∧(∀ q∈Q1,Done D T (Q++Q1) q)∧L1.map PN.f = V.map PN.f∧(∀ x∈L1,x∈Q1∧x.ub = some b) ∧
          Hs w0 F w1 (pt it (itO n.kb clock ms)::pt n.kb (mapO es clock)::mp kb .str (encM str ptr (L1.map fun k=>(k.f.name,k.blk)))::nd b ⟨kindOf n.f.mode,n.f.vers,n.f.path,n.f.mode,n.f.time,n.ln,n.f.name,n.f.owner,n.f.group,n.f.last,n.dv,some kb,ub,false⟩::nd n.blk n.mn::NT R'::twA tv ov::twB ov o::twC o fm v0 v2 v3 v4 v5::twM fm (Q++Q1)::NT (Q++Q1)::Pool D::l),
        fun _ w1=>itM it (es.size + 1) w1,⟨rfl,[],[],[],[],hw,rfl,(fun _ h=>by cases h),List.Perm.refl _,(fun _ h=>by cases h),rfl,(fun _ h=>by cases h),by rw [List.append_nil]; exact E⟩,?_⟩
      clear E hw
      rintro u w1 ⟨-,ms,V,Q1,L1,hw,hmsV,hV,hQ1,hdone,hL1,hLq,E⟩
      refine Nx.mp E hw ?_ ?_
      · intro e w_ he hn2 hw2 E2
        have hmm : itM it (es.size + 1) w1 = es.size + 1 - ms.length:=itM_eq E
        have hle:=hw2.le
        simp only [List.length_append,List.length_cons,List.length_nil] at hle
        clear E
        have E:=E2
        clear E2
        repeat with_reducible refine Stp.go ?_
        refine Ent.mp E hw2 ?_
        obtain ⟨k,hkX,hkk,hke,hkv⟩ : ∃ k : PN,k∈X.ps∧Tr.isKid n.f.path k.f = true∧e.key = str k.f.name∧e.val = ptr k.blk:=by
          have hm : (e.key,e.val)∈n.kM:=by rw [← hes]; exact List.mem_map.2 ⟨e,he,rfl⟩
          obtain ⟨p,hp1,hpe⟩:=List.mem_map.1 hm
          obtain ⟨k,hk1,hk2⟩:=List.mem_map.1 (hkl.mem_iff.1 hp1)
          obtain ⟨k2,k3⟩:=List.mem_filter.1 hk1
          refine ⟨k,k2,k3,?_,?_⟩
          · have e1 : str p.1 = e.key:=congrArg Prod.fst hpe
            rw [← e1,← hk2]
          · have e1 : ptr p.2 = e.val:=congrArg Prod.snd hpe
            rw [← e1,← hk2]
        rw [hke,hkv]
        repeat with_reducible first|refine Stp.go ?_|refine StpE.go E ?_|(refine StpW.go E ?_; clear E; intro w_ E)
        have hkT:=hkn k hkX hkk
        obtain ⟨k1,k2,k3⟩:=kids_mem hi hkT
        have hnm : ((V++[k]).map fun k=>k.f.name).Nodup:=hnames (ms++[e]) hw2 (V++[k]) (by rw [List.map_append,List.map_append,hmsV]; simp [hke,hkv])
        have hfn : (V.map PN.f++[k.f]).Nodup:=by
          have : ((V++[k]).map PN.f).Nodup:=List.Pairwise.of_map (S:=(· ≠ ·)) (fun n : Nd=>n.name) (fun a b h e=>h (by rw [e])) (by rw [List.map_map]; exact hnm)
          rwa [List.map_append] at this
        obtain ⟨ap1,ap2⟩:=below_apart (f:=f) hi hnT (V:=V.map PN.f) (fun x hx=>by
          obtain ⟨y,hy,rfl⟩:=List.mem_map.1 hx
          exact hkn y (hV y hy).1 (hV y hy).2) hkT hfn
        have hrkk:=hrk k.f k1 k2
        rw [k3] at hrkk
        have hrkb:=hrb k.f.path
        have hself : k.f∈belowN T f k.f:=by
          cases f with
          | zero=>omega
          | succ g=>exact below_self g _
        have toR : ∀ m∈X.ps,m.f∈belowN T f k.f→m∈R':=by
          intro m hm hmb
          rcases List.mem_cons.1 (hp.mem_iff.1 (hB m hm (below_kids hi hkT hmb))) with e1 | e1
          · exact absurd (by rw [e1]) (ap1 _ hmb)
          · exact e1
        (replace E:=((((((((((((E.bIx 4).bIx 4).bIx 4).bIx 4).bIx 4).bIx 11).bIx 11).bIx 11).bIx 11).bIx 11).bIx 11).bIx 11))
        refine (twin_ok h hi hrk hrb f (n:=k) (R:=R') (Q:=Q++Q1) (ub:=some b) (toR k hkX hself) (fun m hm=>hR m (hp.mem_iff.2 (List.mem_cons_of_mem _ hm))) toR (by omega) (fun q hq=>?_) E).mono ?_
        · rcases List.mem_append.1 hq with hq | hq
          · exact ⟨(hQ q hq).1,fun hc=>(hQ q hq).2 (below_kids hi hkT hc)⟩
          · have h1:=hQ1.mem_iff.1 (List.mem_map.2 ⟨q,hq,rfl⟩)
            obtain ⟨x,hx,hxq⟩:=List.mem_flatMap.1 h1
            obtain ⟨y,hy,rfl⟩:=List.mem_map.1 hx
            exact ⟨below_mem hi f (h.mem.2 ⟨y,(hV y hy).1,rfl⟩) hxq,fun hc=>ap2 _ hc h1⟩
        clear E
        rintro r w_ ⟨Q2,q1,rfl,hq1,hq1f,hq1u,hQ2,hd2,E⟩
        (replace E:=((((((((((((E.bIx 6).bIx 6).bIx 6).bIx 6).bIx 6).bIx 6).bIx 6).bIx 11).bIx 11).bIx 11).bIx 11).bIx 11))
        refine ⟨by (repeat with_reducible refine StpE.go E ?_); rfl,?_⟩
        refine Mu.by E u_mkids k_str rfl ?_
        clear E
        intro w_ E
        have hfresh : k.f.name ∉ (L1.map fun k=>(k.f.name,k.blk)).map (·.1):=by
          rw [List.map_map]
          intro hc
          obtain ⟨x,hx,hxe⟩:=List.mem_map.1 hc
          have h1 : x.f∈V.map PN.f:=by rw [← hL1]; exact List.mem_map.2 ⟨x,hx,rfl⟩
          obtain ⟨y,hy,hye⟩:=List.mem_map.1 h1
          rw [List.map_append,List.nodup_append] at hnm
          refine hnm.2.2 y.f.name (List.mem_map.2 ⟨y,hy,rfl⟩) k.f.name (by simp) ?_
          rw [hye]; exact hxe
        have he2 : aput (encM str ptr (L1.map fun k=>(k.f.name,k.blk))) (str k.f.name) (ptr q1.blk) = encM str ptr ((L1++[q1]).map fun k=>(k.f.name,k.blk)):=by
          rw [List.map_append,List.map_singleton,hq1f,← putL_new hfresh]
          exact aput_enc (ev:=ptr) keyS _ _ _
        rw [he2] at E
        rw [List.append_assoc] at E hd2
        refine ⟨⟨rfl,ms++[e],V++[k],Q1++Q2,L1++[q1],hw2,by rw [List.map_append,List.map_append,hmsV]; simp [hke,hkv],?_,?_,?_,by rw [List.map_append,List.map_append,hL1,List.map_singleton,List.map_singleton,hq1f],?_,E⟩,?_⟩
        · intro x hx
          rcases List.mem_append.1 hx with hx | hx
          · exact hV x hx
          · rw [List.mem_singleton.1 hx]; exact ⟨hkX,hkk⟩
        · rw [List.map_append,List.map_append,List.flatMap_append]
          refine hQ1.append ?_
          simpa using hQ2
        · intro q hq
          rcases List.mem_append.1 hq with hq | hq
          · exact ⟨(hdone q hq).kd.mono fun x hx=>by
              rcases List.mem_append.1 hx with hx | hx
              · exact List.mem_append_left _ hx
              · exact List.mem_append_right _ (List.mem_append_left _ hx),(hdone q hq).dv⟩
          · exact hd2 q hq
        · intro x hx
          rcases List.mem_append.1 hx with hx | hx
          · exact ⟨List.mem_append_left _ (hLq x hx).1,(hLq x hx).2⟩
          · rw [List.mem_singleton.1 hx]; exact ⟨List.mem_append_right _ hq1,hq1u⟩
        · show itM it (es.size + 1) w_ < itM it (es.size + 1) w1
          rw [hmm,itM_eq E]
          simp; omega
      · intro hp2
        repeat with_reducible first|refine Stp.go ?_|refine StpE.go E ?_|(refine StpW.go E ?_; clear E; intro w_ E)
        refine Mu.by E u_mfiles k_i64 rfl ?_
        clear E
        intro w_ E
        have hVn : V.Nodup:=List.Pairwise.of_map (S:=(· ≠ ·)) (fun k : PN=>k.f.name) (fun a b h e=>h (by rw [e])) (hnames ms hw V hmsV)
        have hVp : (V.map PN.f).Perm (T.kids n.f.path):=by
          refine perm_of_vals h hi hV hVn hkl ?_
          have h1 : (prs es.toList).Perm (ms.map fun e=>(e.key,e.val)):=hp2.map _
          rw [hes,hmsV] at h1
          have h2:=h1.map fun p : Value × Value=>match p with|(.string s,.pointer (some a))=>(s,a.block) | _=>(emp,0)
          unfold PN.kM encM at h2
          rw [List.map_map,List.map_map] at h2
          have e1 : n.kl.map ((fun p : Value × Value=>match p with|(.string s,.pointer (some a))=>(s,a.block) | _=>(emp,0)) ∘ fun p=>(Value.string p.1,ptr p.2)) = n.kl:=by
            conv=>rhs; rw [← List.map_id n.kl]
            exact List.map_congr_left fun x _=>rfl
          rw [e1] at h2
          exact h2.symm
        have hno : n.f ∉ (V.map PN.f).flatMap (belowN T f):=fun hc=>by
          obtain ⟨x,hx,hxn⟩:=List.mem_flatMap.1 hc
          have h0:=(below_perm hi f n.f).nodup_iff.1 (below_nodup hi (f + 1) hnT)
          rw [List.nodup_cons] at h0
          exact h0.1 (List.mem_flatMap.2 ⟨x,hVp.mem_iff.1 hx,hxn⟩)
        have hfresh : n.f.path ∉ (flQ (Q++Q1)).map (·.1):=fun hc=>by
          rw [List.map_map] at hc
          obtain ⟨q,hq,he⟩:=List.mem_map.1 hc
          rcases List.mem_append.1 hq with hq | hq
          · obtain ⟨q1,q2⟩:=hQ q hq
            exact q2 (by rw [hi.inj q1 hnT he]; exact below_self f n.f)
          · have h1:=hQ1.mem_iff.1 (List.mem_map.2 ⟨q,hq,rfl⟩)
            obtain ⟨x,hx,hxq⟩:=List.mem_flatMap.1 h1
            obtain ⟨y,hy,rfl⟩:=List.mem_map.1 hx
            have h2:=below_mem hi f (h.mem.2 ⟨y,(hV y hy).1,rfl⟩) hxq
            rw [hi.inj h2 hnT he] at h1
            exact hno h1
        obtain ⟨q0,hq0⟩ : ∃ q0 : PN,q0 = ⟨n.f,b,n.ln,n.dv,kb,L1.map fun k=>(k.f.name,k.blk),ub⟩:=⟨_,rfl⟩
        have he : aput (encM i64 ptr (flQ (Q++Q1))) (i64 n.f.path) (ptr b) = encM i64 ptr (flQ (Q++(Q1++[q0]))):=by
          rw [show flQ (Q++(Q1++[q0])) = flQ (Q++Q1)++[(n.f.path,b)] by rw [hq0]; simp [flQ],← putL_new hfresh]
          exact aput_enc (ev:=ptr) (keyI _) _ _ _
        have E2:=E
        rw [show aput (encM i64 ptr (flQ (Q++Q1))) (i64 n.mn.path) (Value.pointer (some { block:=b,off:=0 })) = _ from he] at E2
        clear E
        have hdir : q0.f.dir = true:=by rw [hq0]; exact hd
        have hmn : q0.mn = ⟨kindOf n.f.mode,n.f.vers,n.f.path,n.f.mode,n.f.time,n.ln,n.f.name,n.f.owner,n.f.group,n.f.last,n.dv,some kb,ub,false⟩:=by
          rw [hq0]
          show MN.mk _ _ _ _ _ _ _ _ _ _ _ (if n.f.dir = true then some kb else none) _ _ = _
          rw [hd]; rfl
        have E : Hs w0 F w_ (pt it (itO n.kb clock ms)::pt n.kb (mapO es clock)::mp q0.kb .str q0.kM::nd q0.blk q0.mn::nd n.blk n.mn::NT R'::twA tv ov::twB ov o::twC o fm v0 v2 v3 v4 v5::twM fm (Q++(Q1++[q0]))::NT (Q++Q1)::Pool D::l):=by
          rw [hmn,hq0]; rw [hq0] at E2; exact E2
        clear E2
        replace E:=Hs.mapBack (m:=n.kb) (kt:=.str) (M:=n.kM) E hes hw hok
        replace E:=(E.bIx 1).tl
        replace E:=Hs.closeK (n:=n) hd E
        (replace E:=(((E.bIx 4).bIx 1).bIx 4))
        replace E:=Hs.closeN n E
        replace E:=Hs.permN E hp.symm
        replace E:=Hs.closeK (n:=q0) hdir (E.bIx 1)
        (replace E:=(((E.bIx 7).bIx 1).bIx 3))
        replace E:=Hs.closeN q0 E
        have hpm : (q0::(Q++Q1)).Perm (Q++(Q1++[q0])):=by
          rw [← List.append_assoc]
          exact List.perm_append_comm (l₁:=[q0]) (l₂:=Q++Q1)
        replace E:=Hs.permN E hpm
        (replace E:=((((((E.bIx 0).bIx 5).bIx 5).bIx 5).bIx 5).bIx 5))
        refine ⟨Q1++[q0],q0,by rw [hq0],by simp,by rw [hq0],by rw [hq0],?_,?_,E⟩
        · rw [List.map_append,List.map_singleton,show q0.f = n.f by rw [hq0]]
          refine List.Perm.trans ?_ (below_perm hi f n.f).symm
          refine (List.perm_append_comm (l₁:=Q1.map PN.f) (l₂:=[n.f])).trans ?_
          exact (hQ1.trans (hVp.flatMap_right _)).cons _
        · intro q hq
          have hsub : ∀ x∈Q++Q1,x∈Q++(Q1++[q0]):=fun x hx=>by
            rcases List.mem_append.1 hx with hx | hx
            · exact List.mem_append_left _ hx
            · exact List.mem_append_right _ (List.mem_append_left _ hx)
          rcases List.mem_append.1 hq with hq | hq
          · exact ⟨(hdone q hq).kd.mono hsub,(hdone q hq).dv⟩
          · rw [List.mem_singleton.1 hq]
            refine ⟨⟨L1,fun x hx=>⟨List.mem_append_right _ (List.mem_append_left _ (hLq x hx).1),?_⟩,?_,?_⟩,?_⟩
            · rw [(hLq x hx).2,hq0]
            · rw [hL1,show q0.f = n.f by rw [hq0]]; exact hVp
            · rw [hq0]
            · rw [hq0]; exact h.data n hnX
end Go.Proofs.YthapmhhihfedcaaGreatDoor