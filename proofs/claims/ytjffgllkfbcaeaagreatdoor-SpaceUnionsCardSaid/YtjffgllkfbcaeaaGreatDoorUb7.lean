/-
 Trees: Wstat.
-/
import Derived.Test.YtjffgllkfbcaeaaGreatDoorTo5
import Derived.Lib.LastIndexByte
import Derived.Test.YtjffgllkfbcaeaaGreatDoorSh28
import Derived.Test.YtjffgllkfbcaeaaGreatDoorTn3
namespace Go.Proofs.YtjffgllkfbcaeaaGreatDoor
open Go Go.Sh
set_option maxRecDepth 100000
set_option linter.unusedVariables false
set_option linter.unusedSimpArgs false
variable {w0 w:World} {F:Nat→Prop} {l:List As}
variable {D:List Row} {X:PT} {T:Tr} {β:Int→Nat}
theorem Bi.sneqD{s t:ByteArray}{k:Value→Prop}(hk:k (.bool (decide (s≠t)))):Bi .neq (.string s) (.string t) k:=Bi.sneq (λh=>by rw[decide_eq_true h]at hk;exact hk) λh=>by rw[decide_eq_false (by simpa using h)]at hk;exact hk
theorem Bi.neqD{kk:IntKind}{a b:Int}{k:Value→Prop}(hk:k (.bool (decide (a≠b)))):Bi .neq (.int kk a) (.int kk b) k:=Bi.neq (λh=>by rw[decide_eq_true h]at hk;exact hk) λh=>by rw[decide_eq_false (by simpa using h)]at hk;exact hk

abbrev opT(X:PT):List As:=[tb X,mp X.fm (.int .i64) X.fM,mp X.gm .str X.gM,mp X.om (.int .i64) X.oM,NT X.ps,DT X.ds]
theorem may_nt(h:Tie D X T β){n:PN}(hn:n∈X.ps){user:BA}{need:Int}(hp:Pool D∈l)(E:Hs w0 F w (tb X::mp X.fm (.int .i64) X.fM::mp X.gm .str X.gM::mp X.om (.int .i64) X.oM::NT X.ps::DT X.ds::l)):
  Ca PP Fn.f65 #[ptr X.t,str user,ptr n.blk,i64 need] w λr w'=>r=.bool (T.may user n.f need)∧Hs w0 F w' (tb X::mp X.fm (.int .i64) X.fM::mp X.gm .str X.gM::mp X.om (.int .i64) X.oM::NT X.ps::DT X.ds::l):=by
 obtain⟨rs,hpm⟩:=split_perm hn
 replace E:=Hs.openN (E.bIx 4) hpm
 (replace E:=((((((((E.bIx 7).bIx 3).bIx 3).bIx 3).bIx 7).bIx 7).bIx 7).bIx 7))
 refine(may_ok (m:=n.mn) (D:=D) (by simp[hp]) h.gs E).mono ?_
 clear E
 rintro r w_ ⟨rfl,E⟩
 refine⟨rfl,?_⟩
 (replace E:=((((((((E.bIx 7).bIx 4).bIx 4).bIx 4).bIx 4).bIx 7).bIx 7).bIx 7))
 replace E:=Hs.permN (Hs.closeN n E) hpm.symm
 (replace E:=((((((E.bIx 5).bIx 1).bIx 5).bIx 5).bIx 5).bIx 5))
 exact E
abbrev wsL(X:PT)(D:List Row)(q:Nat)(d:Dr)(l:List As):List As:=tb X::mp X.fm (.int .i64) X.fM::mp X.gm .str X.gM::mp X.om (.int .i64) X.oM::NT X.ps::DT X.ds::Pool D::pt q (oc d.cs Ty.t9)::l
abbrev wsR(X:PT)(n:PN)(rs:List PN)(v:Value)(bs:List Nat)(D:List Row)(q:Nat)(d:Dr)(l:List As):List As:=
 KM n::NT rs::tb X::slA v Ty.t28 1 (bs.map ptr)::mp X.fm (.int .i64) X.fM::mp X.gm .str X.gM::mp X.om (.int .i64) X.oM::DT X.ds::Pool D::pt q (oc d.cs Ty.t9)::l

def given1(d:Dr)(n:Nd):Nd:={Tr.given d n with name:=n.name}
theorem updN_congr{ns:List Nd}{p:Int}{f g:Nd→Nd}(h:∀m∈ns,m.path=p→f m=g m):updN ns p f=updN ns p g:=by
 unfold updN
 refine List.map_congr_left λm hm=>?_
 by_cases hp:m.path=p
 ·rw[if_pos hp,if_pos hp];exact h m hm hp
 ·rw[if_neg hp,if_neg hp]
theorem change_two(T:Tr)(user:BA)(p q:Int):T.change user [p,q]={T with ns:=updN (updN T.ns p (touchN (T.clock+1) user)) q (touchN (T.clock+1) user),clock:=T.clock+1}:=rfl
theorem wstat_eq1(hi:Inv T){n:Nd}(hn:n∈T.ns){user:BA}{d:Dr}(hm:¬(d.name≠emp∧d.name≠n.name)):(T.change user [n.path]).upd n.path (given1 d)=(T.change user [n.path]).upd n.path (Tr.given d):=by
 unfold Tr.upd
 congr 1
 refine updN_congr λm hmm hmp=>?_
 rw[change_one]at hmm
 obtain⟨m0,hm0,rfl⟩:=updN_mem hmm
 have hp0:m0.path=n.path:=by
  split at hmp
  ·exact hmp
  ·exact hmp
 have e0:=hi.inj hm0 hn hp0
 subst e0
 rw[if_pos rfl]
 unfold given1 Tr.given
 by_cases h1:d.name=emp
 ·simp only[if_pos h1]
 ·have h2:d.name=m0.name:=Classical.byContradiction λhc=>hm ⟨h1,hc⟩
  have h3:¬m0.name=emp:=by rw[← h2];exact h1
  simp only[h2,if_neg h3];rfl
theorem wstat_eq2{p q:Int}(hpq:q≠p){user:BA}{d:Dr}(h1:d.name≠emp):((T.upd p (named d.name)).change user [p,q]).upd p (given1 d)=(T.change user [p,q]).upd p (Tr.given d):=by
 rw[change_two,change_two]
 unfold Tr.upd updN
 simp only[List.map_map]
 congr 1
 refine List.map_congr_left λm _=>?_
 simp only[Function.comp]
 by_cases c1:m.path=p
 ·have c2:¬p=q:=λe=>hpq e.symm
  simp only[c1,if_true,named,touchN,if_neg c2]
  unfold given1 Tr.given
  simp only[if_neg h1]
 ·simp only[if_neg c1]
  by_cases c3:m.path=q
  ·simp only[c3,if_true,touchN,if_neg hpq]
  ·simp only[if_neg c3,if_neg c1]
theorem touch2_tie(h:Tie D X T β)(hi:Inv T)(hnd:(X.ps.map PN.blk).Nodup){n u:PN}(hn:n∈X.ps)(hu:u∈X.ps)(hnu:u.blk≠n.blk)(user:BA):
  Tie D {X with ps:=chgB (X.clock+1) user [n.blk,u.blk] X.ps,clock:=X.clock+1} (T.change user [n.f.path,u.f.path]) β:=by
 obtain⟨h1,i1⟩:=touch_tie h hi hnd hn user
 have hu1:u∈updB X.ps n.blk (PN.touch (X.clock+1) user):=List.mem_map.2 ⟨u,hu,if_neg hnu⟩
 have hnd1:((updB X.ps n.blk (PN.touch (X.clock+1) user)).map PN.blk).Nodup:=by rw[updB_blk (g:=PN.touch (X.clock+1) user) λ_=>rfl];exact hnd
 have h2:=h1.upd i1 hnd1 (n:=u) hu1 (X.clock+1) (G:=PN.touch (X.clock+1) user) (g:=touchN (X.clock+1) user) (λ_=>⟨rfl,rfl,rfl⟩) (λ_=>rfl) (λ_=>⟨rfl,rfl,rfl⟩) (λ_ hx=>hx) (h1.data u hu1)
 have e:T.change user [n.f.path,u.f.path]={T.change user [n.f.path]with ns:=updN (T.change user [n.f.path]).ns u.f.path (touchN (X.clock+1) user),clock:=X.clock+1}:=by
  rw[h.clock];rfl
 rw[e]
 exact h2

theorem chgB_mem{c:Int}{user:BA}:∀{bs:List Nat} {ps:List PN} {m:PN},m∈ps→∃m'∈chgB c user bs ps,m'.blk=m.blk∧m'.f.path=m.f.path∧m'.f.mode=m.f.mode∧m'.f.data=m.f.data∧m'.dv=m.dv
 |[],ps,m,h=>⟨m,h,rfl,rfl,rfl,rfl,rfl⟩
 |b::bs,ps,m,h=>by
  have h1:(if m.blk=b then PN.touch c user m else m)∈updB ps b (PN.touch c user):=List.mem_map.2 ⟨m,h,rfl⟩
  obtain⟨m',hm',e1,e2,e3,e4,e5⟩:=chgB_mem (c:=c) (user:=user) (bs:=bs) h1
  refine⟨m',hm',?_,?_,?_,?_,?_⟩
  ·rw[e1];split<;>rfl
  ·rw[e2];split<;>rfl
  ·rw[e3];split<;>rfl
  ·rw[e4];split<;>rfl
  ·rw[e5];split<;>rfl
theorem given1_dir{d:Dr}{n:Nd}(h:¬(d.mode≠ -1∧(rightM d.mode=false∨andI d.mode 2147483648≠andI n.mode 2147483648))):(given1 d n).dir=n.dir:=by
 show isD (if d.mode= -1 then n.mode else d.mode)=isD n.mode
 by_cases hm:d.mode= -1
 ·rw[if_pos hm]
 ·rw[if_neg hm]
  have:andI d.mode 2147483648=andI n.mode 2147483648:=Classical.byContradiction λhc=>h ⟨hm,.inr hc⟩
  unfold isD
  rw[this]
theorem nothing_key(d:Dr):(!(decide (d.name≠⟨#[]⟩) || decide (d.group≠⟨#[]⟩) || decide (d.mode≠ -1) || decide (d.time≠ -1) || decide (d.len≠ -1)))=decide (d.name=emp∧d.group=emp∧d.mode= -1∧d.time= -1∧d.len= -1):=by
 rw[Bool.eq_iff_iff,decide_eq_true_iff]
 simp only[Bool.not_eq_true',Bool.or_eq_false_iff,decide_eq_false_iff_not,ne_eq,Classical.not_not]
 constructor
 ·rintro⟨⟨⟨⟨h1,h2⟩,h3⟩,h4⟩,h5⟩;exact⟨h1,h2,h3,h4,h5⟩
 ·rintro⟨h1,h2,h3,h4,h5⟩;exact⟨⟨⟨⟨h1,h2⟩,h3⟩,h4⟩,h5⟩
theorem Wstat_ok(h:Tie D X T β)(hi:Inv T){N:Int}(hN:N<4611686018427387904)(hlim:Lim N T){user:BA}{file:Int}{d:Dr}(hs1:d.name.size≤9223372036854775807)(hs2:d.group.size≤9223372036854775807)(E:Hs w0 F w (trA X::Pool D::l)):
  Ca PP Fn.f116 #[ptr X.t,str user,i64 file,d.V] w λr w'=>r=i64 (T.wstat user file d).2∧Goes w0 F l D X (T.wstat user file d).1 w':=by
 refine S.f116.calls ?_
 unfold S.f116
 have hnd:=Hs.nodupT E
 refine StpA.go E ?_
 clear E
 intro q w_ hq E
 (replace E:=(((E.bIx 0).bIx 2).bIx 2))
 replace E:=Hs.openT E
 refine(find_ok E).mono ?_
 clear E
 rintro r w_ ⟨rfl,E⟩
 have keep:∀w,Hs w0 F w (wsL X D q d l)→Goes w0 F l D X T w:=λw E=>.same h ((Hs.closeT X E).bIx 2).tl
 rcases h.find hi file with⟨h1,h2⟩|⟨n,rs,hpm,hn,hpath,h1,h2⟩
 ·rw[h2]
  unfold findV
  repeat first|(with_reducible first|refine Stp.go ?_)|((with_reducible refine Bi.dec true ?_ ?_);focus exact rfl)
  have e:T.wstat user file d=(T,4):=by unfold Tr.wstat;simp only[h1]
  rw[e]
  exact⟨rfl,keep _ E⟩
 rw[h2]
 unfold findV
 subst hpath
 have hnT:=h.mem.2 ⟨n,hn,rfl⟩
 repeat first|(with_reducible first|refine Stp.go ?_|refine StpE.go E ?_|(refine StpW.go E ?_;clear E;intro w_ E))|((with_reducible refine Bi.dec false ?_ ?_);focus exact rfl)
 refine Bi.sneqD ?_
 generalize hb1:decide (d.name≠⟨#[]⟩)=b1
 repeat with_reducible first|refine Stp.go ?_|refine StpE.go E ?_
 refine Bi.sneqD ?_
 generalize hb2:decide (d.group≠⟨#[]⟩)=b2
 repeat with_reducible first|refine Stp.go ?_|refine StpE.go E ?_|(refine StpW.go E ?_;clear E;intro w_ E)
 refine Bi.neqD ?_
 generalize hb3:decide (d.mode≠ -1)=b3
 repeat with_reducible first|refine Stp.go ?_|refine StpE.go E ?_
 refine Bi.neqD ?_
 generalize hb4:decide (d.time≠ -1)=b4
 repeat with_reducible first|refine Stp.go ?_|refine StpE.go E ?_
 refine Bi.neqD ?_
 generalize hb5:decide (d.len≠ -1)=b5
 (intro J25 hJ25)
 have fin25:∀b w_,b=decide (d.name≠emp∧d.name≠n.f.name)→Hs w0 F w_ (wsL X D q d l)→J25 [.bool b] w_:=by
  intro bm w_ hbm E
  repeat with_reducible (apply hJ25;intro u_)
  clear hJ25
  (intro J29 hJ29)
  have fin29:∀b w_,b=decide ((¬(d.kind=0∧d.vers=0∧d.path=0)∨d.owner≠emp∨d.last≠emp∨d.len< -1∨d.time< -1∨(d.name≠emp∧n.f.path=0))∨(d.mode≠ -1∧(rightM d.mode=false∨andI d.mode 2147483648≠andI n.f.mode 2147483648)))→Hs w0 F w_ (wsL X D q d l)→J29 [.bool b] w_:=by
   intro b w_ hb E
   repeat with_reducible (apply hJ29;intro u_)
   clear hJ29
   by_cases cA:(¬(d.kind=0∧d.vers=0∧d.path=0)∨d.owner≠emp∨d.last≠emp∨d.len< -1∨d.time< -1∨(d.name≠emp∧n.f.path=0))∨(d.mode≠ -1∧(rightM d.mode=false∨andI d.mode 2147483648≠andI n.f.mode 2147483648))
   ·rw[decide_eq_true cA]at hb
    subst hb
    repeat with_reducible refine Stp.go ?_
    have e:T.wstat user n.f.path d=(T,1):=by
     unfold Tr.wstat
     simp only[h1]
     by_cases c1:¬(d.kind=0∧d.vers=0∧d.path=0)∨d.owner≠emp∨d.last≠emp∨d.len< -1∨d.time< -1∨(d.name≠emp∧n.f.path=0)
     ·rw[if_pos c1]
     ·rw[if_neg c1,if_pos (cA.resolve_left c1)]
    rw[e]
    exact⟨rfl,keep _ E⟩
   rw[decide_eq_false cA]at hb
   subst hb
   repeat with_reducible refine Stp.go ?_
   have cA1:=λhc=>cA (.inl hc)
   have cA2:=λhc=>cA (.inr hc)
   have eA:T.wstat user n.f.path d=(let moved:=d.name≠emp∧d.name≠n.f.name
     if(d.name≠emp∧goodName d.name=false)∨(d.group≠emp∧goodName d.group=false)then(T,8)else
     if d.len≠ -1∧d.len≠0∧n.f.dir=true then(T,18)else
     if 1048576<d.len then(T,3)else
     if moved∧(T.kid n.f.up d.name).isSome then(T,5)else
     if(moved∧T.may user (T.parent n.f) 2=false)∨(d.len≠ -1∧n.f.dir=false∧T.may user n.f 2=false)∨((d.mode≠ -1∨d.time≠ -1∨d.group≠emp)∧user≠n.f.owner)∨(d.group≠emp∧T.member user d.group=false)then(T,17)else
     if d.name=emp∧d.group=emp∧d.mode= -1∧d.time= -1∧d.len= -1 then(T,0)else
     ((T.change user (n.f.path::if moved then[n.f.up]else[])).upd n.f.path (Tr.given d),0)):=by
    unfold Tr.wstat
    simp only[h1]
    rw[if_neg cA1,if_neg cA2]
   rw[eA]
   clear eA
   simp only[]
   (intro J33 hJ33)
   have fin33:∀b w_,b=decide ((d.name≠emp∧goodName d.name=false)∨(d.group≠emp∧goodName d.group=false))→Hs w0 F w_ (wsL X D q d l)→J33 [.bool b] w_:=by
    intro b w_ hb E
    repeat with_reducible (apply hJ33;intro u_)
    clear hJ33
    by_cases cB:(d.name≠emp∧goodName d.name=false)∨(d.group≠emp∧goodName d.group=false)
    ·rw[decide_eq_true cB]at hb
     subst hb
     repeat with_reducible refine Stp.go ?_
     simp only[if_pos cB]
     exact⟨trivial,keep _ E⟩
    rw[decide_eq_false cB]at hb
    subst hb
    repeat with_reducible refine Stp.go ?_
    simp only[if_neg cB]
    (intro J37 hJ37)
    have fin37:∀b w_,b=decide (d.len≠ -1∧d.len≠0∧n.f.dir=true)→Hs w0 F w_ (wsL X D q d l)→J37 [.bool b] w_:=by
     intro b w_ hb E
     repeat with_reducible (apply hJ37;intro u_)
     clear hJ37
     by_cases cC:d.len≠ -1∧d.len≠0∧n.f.dir=true
     ·rw[decide_eq_true cC]at hb
      subst hb
      repeat with_reducible refine Stp.go ?_
      simp only[if_pos cC]
      exact⟨trivial,keep _ E⟩
     rw[decide_eq_false cC]at hb
     subst hb
     repeat with_reducible first|refine Stp.go ?_|refine StpE.go E ?_
     simp only[if_neg cC]
     refine Bi.gtr ?_ ?_<;>intro cD<;>(repeat with_reducible refine Stp.go ?_)
     ·simp only[if_pos cD]
      exact⟨trivial,keep _ E⟩
     have cD:¬1048576<d.len:=by omega
     simp only[if_neg cD]
     have hup:d.name≠emp∧d.name≠n.f.name→n.f.path≠0∧∃u∈X.ps,n.mn.C[12]? =some (ptr u.blk)∧T.parent n.f=u.f:=by
      intro hm
      have h0:n.f.path≠0:=λh0=>cA1 (.inr (.inr (.inr (.inr (.inr ⟨hm.1,h0⟩)))))
      rcases up_val h hi hn with⟨hc,_⟩|hc
      ·exact absurd hc h0
      ·exact hc
     (intro J44 hJ44)
     have fin44:∀b w_,b=decide ((d.name≠emp∧d.name≠n.f.name)∧(T.kid n.f.up d.name).isSome)→Hs w0 F w_ (wsL X D q d l)→J44 [.bool b] w_:=by
      intro b w_ hb E
      repeat with_reducible (apply hJ44;intro u_)
      clear hJ44
      by_cases cE:(d.name≠emp∧d.name≠n.f.name)∧(T.kid n.f.up d.name).isSome
      ·rw[decide_eq_true cE]at hb
       subst hb
       repeat with_reducible refine Stp.go ?_
       simp only[if_pos cE]
       exact⟨trivial,keep _ E⟩
      rw[decide_eq_false cE]at hb
      subst hb
      repeat with_reducible refine Stp.go ?_
      simp only[if_neg cE]
      (intro J48 hJ48)
      have fin48:∀b w_,b=decide (((d.name≠emp∧d.name≠n.f.name)∧T.may user (T.parent n.f) 2=false)∨(d.len≠ -1∧n.f.dir=false∧T.may user n.f 2=false)∨((d.mode≠ -1∨d.time≠ -1∨d.group≠emp)∧user≠n.f.owner)∨(d.group≠emp∧T.member user d.group=false))→Hs w0 F w_ (wsL X D q d l)→J48 [.bool b] w_:=by
       intro b w_ hb E
       repeat with_reducible (apply hJ48;intro u_)
       clear hJ48
       by_cases cF:((d.name≠emp∧d.name≠n.f.name)∧T.may user (T.parent n.f) 2=false)∨(d.len≠ -1∧n.f.dir=false∧T.may user n.f 2=false)∨((d.mode≠ -1∨d.time≠ -1∨d.group≠emp)∧user≠n.f.owner)∨(d.group≠emp∧T.member user d.group=false)
       ·rw[decide_eq_true cF]at hb
        subst hb
        repeat with_reducible refine Stp.go ?_
        simp only[if_pos cF]
        exact⟨trivial,keep _ E⟩
       rw[decide_eq_false cF]at hb
       subst hb
       repeat with_reducible refine Stp.go ?_
       simp only[if_neg cF]
       (intro J52 hJ52)
       have fin52:∀b w_,b=decide (d.name=emp∧d.group=emp∧d.mode= -1∧d.time= -1∧d.len= -1)→Hs w0 F w_ (wsL X D q d l)→J52 [.bool b] w_:=by
        intro b w_ hb E
        repeat with_reducible (apply hJ52;intro u_)
        clear hJ52
        by_cases cG:d.name=emp∧d.group=emp∧d.mode= -1∧d.time= -1∧d.len= -1
        ·rw[decide_eq_true cG]at hb
         subst hb
         repeat with_reducible refine Stp.go ?_
         simp only[if_pos cG]
         exact⟨trivial,keep _ E⟩
        rw[decide_eq_false cG]at hb
        subst hb
        repeat with_reducible refine Stp.go ?_
        simp only[if_neg cG]
        refine BdS.one E u_sl_p_node e_p_node rfl ?_
        clear E
        intro sv w_ E
        (intro J58 hJ58)
        have fin58:∀(X1:PT) (T1:Tr) (n1:PN) (us:List PN) (v:Value) (w_:World),Tie D X1 T1 β→Inv T1→Lim N T1→X1.t=X.t→n1∈X1.ps→n1.blk=n.blk→n1.f.path=n.f.path→n1.f.mode=n.f.mode→n1.f.data=n.f.data→
          (∀u∈us,u∈X1.ps)→us.length≤2→Tie D {X1 with ps:=chgB (X1.clock+1) user (us.map PN.blk) X1.ps,clock:=X1.clock+1} (T1.change user (us.map λu=>u.f.path)) β→
          (T1.change user (us.map λu=>u.f.path)).upd n.f.path (given1 d)=(T.change user (n.f.path::if d.name≠emp∧d.name≠n.f.name then[n.f.up]else[])).upd n.f.path (Tr.given d)→
          Hs w0 F w_ (tb X1::NT X1.ps::slA v Ty.t28 1 ((us.map PN.blk).map ptr)::mp X1.fm (.int .i64) X1.fM::mp X1.gm .str X1.gM::mp X1.om (.int .i64) X1.oM::DT X1.ds::Pool D::pt q (oc d.cs Ty.t9)::l)→J58 [v] w_:=by
         intro X1 T1 n1 us v w_ t1 i1 l1 ht1 hn1 hb1' hp1 hmd1 hdt1 hus hul t2 hfin E
         repeat with_reducible (apply hJ58;intro u_)
         clear hJ58
         have hcl:=l1.clock
         have hc0:=i1.clock
         have hcx:=t1.clock
         rw[← ht1]
         refine(change_ok (X:=X1) (bs:=us.map PN.blk) (by have:=RdS.by1 v E.tl.tl;rw[List.length_map]at this;exact this) (λb hb=>?_) (by omega) (lim_fit i1 hN l1 t1) (by simp;omega) E).mono ?_
         ·obtain⟨u,hu,rfl⟩:=List.mem_map.1 hb
          exact List.mem_map.2 ⟨u,hus u hu,rfl⟩
         clear E
         rintro r w_ E
         obtain⟨X2,hX2⟩:∃X2:PT,X2={X1 with ps:=chgB (X1.clock+1) user (us.map PN.blk) X1.ps,clock:=X1.clock+1}:=⟨_,rfl⟩
         rw[← hX2]at t2
         have i2:=i1.change user (us.map λu=>u.f.path)
         obtain⟨n2,hn2,e1,e2,e3,e4,e5⟩:=chgB_mem (c:=X1.clock+1) (user:=user) (bs:=us.map PN.blk) hn1
         have hn2':n2∈X2.ps:=by rw[hX2];exact hn2
         have hnd2:=Hs.nodupN (E.bIx 1)
         obtain⟨rs2,hp2⟩:=split_perm hn2'
         have E1:Hs w0 F w_ (NT X2.ps::tb X2::slA v Ty.t28 1 ((us.map PN.blk).map ptr)::mp X2.fm (.int .i64) X2.fM::mp X2.gm .str X2.gM::mp X2.om (.int .i64) X2.oM::DT X2.ds::Pool D::pt q (oc d.cs Ty.t9)::l):=by
          rw[hX2];exact E.bIx 1
         clear E
         have E:=Hs.openN E1 hp2
         clear E1
         have hblk:n2.blk=n.blk:=e1.trans hb1'
         have hpath:n2.f.path=n.f.path:=e2.trans hp1
         have hmode:n2.f.mode=n.f.mode:=e3.trans hmd1
         have hdata:n2.f.data=n.f.data:=e4.trans hdt1
         rw[← hblk]
         have hX2t:X2.t=X.t:=by rw[hX2];exact ht1
         have hdir2:(given1 d n2.f).dir=n2.f.dir:=given1_dir (by rw[hmode];exact cA2)
         obtain⟨tm,htm⟩:∃tm:Int,tm=if d.time= -1 then n2.f.time else d.time:=⟨_,rfl⟩
         obtain⟨md,hmd⟩:∃md:Int,md=if d.mode= -1 then n2.f.mode else d.mode:=⟨_,rfl⟩
         obtain⟨gr,hgr⟩:∃gr:BA,gr=if d.group=emp then n2.f.group else d.group:=⟨_,rfl⟩
         (intro J64 hJ64)
         have fin64:∀w_,Hs w0 F w_ (nd n2.blk {n2.mn with time:=tm}::wsR X2 n2 rs2 v (us.map PN.blk) D q d l)→J64 [] w_:=by
          intro w_ E
          repeat with_reducible (apply hJ64;intro u_)
          clear hJ64
          (intro J67 hJ67)
          have fin67:∀w_,Hs w0 F w_ (nd n2.blk {n2.mn with time:=tm,mode:=md,kind:=kindOf md}::wsR X2 n2 rs2 v (us.map PN.blk) D q d l)→J67 [] w_:=by
           intro w_ E
           repeat with_reducible (apply hJ67;intro u_)
           clear hJ67
           (intro J70 hJ70)
           have fin70:∀w_,Hs w0 F w_ (nd n2.blk {n2.mn with time:=tm,mode:=md,kind:=kindOf md,group:=gr}::wsR X2 n2 rs2 v (us.map PN.blk) D q d l)→J70 [] w_:=by
            intro w_ E
            repeat with_reducible (apply hJ70;intro u_)
            clear hJ70
            (intro J73 hJ73)
            have fin73:∀D' dv w_,(∀x∈D,x∈D')→Rdy D' Ty.uint8 dv (bts (given1 d n2.f).data)→Hs w0 F w_ (nd n2.blk {n2.mn with time:=tm,mode:=md,kind:=kindOf md,group:=gr,dv:=dv}::wsR X2 n2 rs2 v (us.map PN.blk) D' q d l)→J73 [] w_:=by
             intro D' dv w_ hD hdv E
             repeat with_reducible (apply hJ73;intro u_)
             refine⟨by first|rfl|trivial,?_⟩
             rw[← hfin]
             obtain⟨G,hG⟩:∃G:PN→PN,G=λm=>{m with f:=given1 d m.f,dv:=dv}:=⟨_,rfl⟩
             have hndX:(X2.ps.map PN.blk).Nodup:=by rw[hX2];exact hnd2
             have t3:=t2.upd (D':=D') i2 hndX hn2' X2.clock (G:=λm=>{m with f:=given1 d m.f,dv:=dv}) (g:=given1 d) (λ_=>⟨rfl,rfl,rfl⟩) (λ_=>rfl) (λ_=>⟨rfl,rfl,rfl⟩) hD hdv
             rw[hpath]at t3
             have hcl2:X2.clock=(T1.change user (us.map λu=>u.f.path)).clock:=t2.clock
             have hmn:(G n2).mn={n2.mn with time:=tm,mode:=md,kind:=kindOf md,group:=gr,dv:=dv}:=by
              rw[hG,htm,hmd,hgr]
              show MN.mk _ _ _ _ _ _ _ _ _ _ _ (if(given1 d n2.f).dir then some n2.kb else none) _ _=_
              rw[hdir2]
              rfl
             have hkm:KM (G n2)=KM n2:=by
              rw[hG]
              show star (if(given1 d n2.f).dir then[mp n2.kb .str n2.kM]else[])=_
              rw[hdir2]
              rfl
             have hGb:(G n2).blk=n2.blk:=by rw[hG]
             have E1:Hs w0 F w_ (nd (G n2).blk (G n2).mn::KM (G n2)::NT rs2::tb X2::slA v Ty.t28 1 ((us.map PN.blk).map ptr)::mp X2.fm (.int .i64) X2.fM::mp X2.gm .str X2.gM::mp X2.om (.int .i64) X2.oM::DT X2.ds::Pool D'::pt q (oc d.cs Ty.t9)::l):=by
              rw[hmn,hkm,hGb];exact E
             clear E
             have E:=Hs.permN (Hs.closeN (G n2) E1) (updB_perm (g:=G) hndX hp2).symm
             clear E1
             (replace E:=(E.bIx 2).tl)
             (replace E:=(E.bIx 7).tl)
             (replace E:=((((((E.bIx 5).bIx 1).bIx 5).bIx 5).bIx 5).bIx 5))
             refine⟨D',{X2 with ps:=updB X2.ps n2.blk G,clock:=X2.clock},β,hD,hX2t,?_,Hs.closeT {X2 with ps:=updB X2.ps n2.blk G,clock:=X2.clock} E⟩
             rw[hG]
             have e:(T1.change user (us.map λu=>u.f.path)).upd n.f.path (given1 d)={T1.change user (us.map λu=>u.f.path)with ns:=updN (T1.change user (us.map λu=>u.f.path)).ns n.f.path (given1 d),clock:=X2.clock}:=by rw[hcl2];rfl
             rw[e]
             exact t3
            clear hJ73
            have hmdd:isD md=n2.f.dir:=by rw[hmd];exact hdir2
            (intro J76 hJ76)
            have fin76:∀b w_,b=decide (d.len≠ -1∧n2.f.dir=false)→Hs w0 F w_ (nd n2.blk {n2.mn with time:=tm,mode:=md,kind:=kindOf md,group:=gr}::wsR X2 n2 rs2 v (us.map PN.blk) D q d l)→J76 [.bool b] w_:=by
             intro b w_ hb E
             repeat with_reducible (apply hJ76;intro u_)
             clear hJ76
             have hrdy:=t2.data n2 hn2'
             by_cases cH:d.len≠ -1∧n2.f.dir=false
             ·rw[decide_eq_true cH]at hb
              subst hb
              repeat with_reducible first|refine Stp.go ?_|refine StpE.go E ?_
              obtain⟨k,hk⟩:∃k:Nat,d.len=k:=⟨d.len.toNat,by
               have:¬d.len< -1:=λhc=>cA1 (.inr (.inr (.inr (.inl hc))))
               have:=cH.1
               omega⟩
              have hrd:=hrdy.read E.tl (by simp)
              rw[hk]
              refine(resize_ok (n:=(bts n2.f.data).length) (k:=k) (by omega) (bts_scal _) E hrd).mono ?_
              clear E
              rintro r w_ ⟨q',E⟩
              skip
              have hbs:(bts n2.f.data).take k++List.replicate (k-(bts n2.f.data).length) (.int .u8 0)=bts (sized n2.f.data k):=by rw[bts_sized,bts_len]
              rw[hbs]at E
              (replace E:=(E.bIx 1))
              replace E:=Hs.ptSl (n:=k) (by rw[bts_len,sized_size]) E
              obtain⟨dv,hdv⟩:∃dv,dv=Value.slice (some ⟨q',0,none⟩) k k:=⟨_,rfl⟩
              rw[← hdv]at E
              (replace E:=((E.bIx 10).bIx 1))
              replace E:=Hs.pool Ty.uint8 E
              (replace E:=((((((((((E.bIx 0).bIx 9).bIx 9).bIx 9).bIx 9).bIx 9).bIx 9).bIx 9).bIx 9).bIx 9))
              refine fin73 _ dv _ (λx hx=>List.mem_cons_of_mem _ hx) ?_ E
              have:(given1 d n2.f).data=sized n2.f.data k:=by
               show(if d.len= -1∨n2.f.dir=true then n2.f.data else sized n2.f.data d.len.toNat)=_
               rw[if_neg (by rintro(h|h);exact cH.1 h;rw[cH.2]at h;cases h),hk];rfl
              rw[this]
              exact .inr List.mem_cons_self
             ·rw[decide_eq_false cH]at hb
              subst hb
              repeat with_reducible refine Stp.go ?_
              refine fin73 D n2.dv _ (λx hx=>hx) ?_ E
              have:(given1 d n2.f).data=n2.f.data:=by
               show(if d.len= -1∨n2.f.dir=true then n2.f.data else sized n2.f.data d.len.toNat)=_
               refine if_pos ?_
               by_cases hl:d.len= -1
               ·exact .inl hl
               ·right
                cases hd:n2.f.dir with
                |true=>rfl
                |false=>exact absurd ⟨hl,hd⟩ cH
              rw[this]
              exact hrdy
            clear hJ76
            cases b5 with
            |false=>
             have hx:¬d.len≠ -1:=of_decide_eq_false hb5
             repeat with_reducible refine Stp.go ?_
             exact fin76 _ _ (by rw[decide_eq_false λh=>hx h.1]) E
            |true=>
             have hx:d.len≠ -1:=of_decide_eq_true hb5
             repeat with_reducible refine Stp.go ?_
             refine(isDir_ok (m:={n2.mn with time:=tm,mode:=md,kind:=kindOf md,group:=gr}) E).mono ?_
             clear E
             rintro r w_ ⟨rfl,E⟩
             have:isD ({n2.mn with time:=tm,mode:=md,kind:=kindOf md,group:=gr}:MN).mode=n2.f.dir:=hmdd
             rw[this]
             cases hd:n2.f.dir with
             |true=>(repeat with_reducible refine Stp.go ?_);exact fin76 _ _ (by rw[decide_eq_false];rintro⟨_,h⟩;rw[hd]at h;cases h) E
             |false=>(repeat with_reducible refine Stp.go ?_);exact fin76 _ _ (by rw[decide_eq_true ⟨hx,hd⟩]) E
           clear hJ70
           cases b2 with
           |false=>
            have hx:d.group=emp:=Classical.not_not.1 (of_decide_eq_false hb2)
            repeat with_reducible refine Stp.go ?_
            exact fin70 _ (by rw[hgr,if_pos hx];exact E)
           |true=>
            have hx:d.group≠emp:=of_decide_eq_true hb2
            repeat with_reducible first|refine Stp.go ?_|refine StpE.go E ?_|(refine StpW.go E ?_;clear E;intro w_ E)
            exact fin70 _ (by rw[hgr,if_neg hx];exact E)
          clear hJ67
          cases b3 with
          |false=>
           have hx:d.mode= -1:=Classical.not_not.1 (of_decide_eq_false hb3)
           repeat with_reducible refine Stp.go ?_
           exact fin67 _ (by rw[hmd,if_pos hx];exact E)
          |true=>
           have hx:d.mode≠ -1:=of_decide_eq_true hb3
           repeat with_reducible first|refine Stp.go ?_|refine StpE.go E ?_
           refine(is_ok E).mono ?_
           clear E
           rintro r w_ E
           skip
           exact fin67 _ (by rw[hmd,if_neg hx];exact E)
         clear hJ64
         cases b4 with
         |false=>
          have hx:d.time= -1:=Classical.not_not.1 (of_decide_eq_false hb4)
          repeat with_reducible refine Stp.go ?_
          exact fin64 _ (by rw[htm,if_pos hx];(replace E:=((((E.bIx 3).bIx 3).bIx 3).bIx 3));exact E)
         |true=>
          have hx:d.time≠ -1:=of_decide_eq_true hb4
          repeat with_reducible first|refine Stp.go ?_|refine StpE.go E ?_|(refine StpW.go E ?_;clear E;intro w_ E)
          exact fin64 _ (by rw[htm,if_neg hx];exact E)
        clear hJ58
        by_cases hmv:d.name≠emp∧d.name≠n.f.name
        rotate_left
        ·rw[decide_eq_false hmv]at hbm
         subst hbm
         repeat with_reducible refine Stp.go ?_
         refine fin58 X T n [n] sv _ h hi hlim rfl hn rfl rfl rfl rfl (λu hu=>by rw[List.mem_singleton.1 hu];exact hn) (by simp) (touch_tie h hi hnd hn user).1 ?_ ?_
         ·rw[if_neg hmv];exact wstat_eq1 hi hnT hmv
         ·(replace E:=((((((((E.bIx 7).bIx 7).bIx 6).bIx 6).bIx 6).bIx 5).bIx 7).bIx 7))
          exact E
        ·rw[decide_eq_true hmv]at hbm
         subst hbm
         obtain⟨h0,-⟩:=hup hmv
         obtain⟨u,rs',hp',hu,hub,hup',hne,hud,hgu,hpar⟩:=h.parent hi hpm h0
         have hur:u∈rs:=hp'.mem_iff.2 List.mem_cons_self
         have hub':n.mn.up=some u.blk:=hub
         have hkb:u.mn.kids=some u.kb:=if_pos hud
         have hnub:u.blk≠n.blk:=λe=>hne ((blk_path h hnd hu hn).1 e)
         have hfree:T.kid n.f.up d.name=none:=by
          cases hk:T.kid n.f.up d.name with
          |none=>rfl
          |some k=>exact absurd ⟨hmv,by rw[hk];rfl⟩ cE
         have hgood:goodName d.name=true:=by
          cases hg:goodName d.name with
          |true=>rfl
          |false=>exact absurd (.inl ⟨hmv.1,hg⟩) cB
         replace E:=Hs.openN (E.bIx 5) hpm
         replace E:=Hs.openN (E.bIx 2) hp'
         replace E:=Hs.openK hud (E.bIx 1)
         repeat with_reducible first|refine Stp.go ?_|refine StpE.go E ?_|(refine StpW.go E ?_;clear E;intro w_ E)
         rw[hub']
         simp only[Option.map_some]
         repeat with_reducible first|refine Stp.go ?_|refine StpE.go E ?_
         rw[hkb]
         refine Dl.by E u_mkids k_str rfl ?_
         clear E
         intro w_ E
         have a1:adel u.kM (str n.mn.name)=encM Value.string ptr (delL u.kl n.f.name):=adel_enc keyS _ _
         rw[a1]at E
         repeat with_reducible first|refine Stp.go ?_|refine StpE.go E ?_|(refine StpW.go E ?_;clear E;intro w_ E)
         rw[hub']
         simp only[Option.map_some]
         repeat with_reducible first|refine Stp.go ?_|refine StpE.go E ?_
         rw[hkb]
         refine Mu.by E u_mkids k_str rfl ?_
         clear E
         intro w_ E
         have a2:aput (encM Value.string ptr (delL u.kl n.f.name)) (str d.name) (ptr n.blk)=encM Value.string ptr (putL (delL u.kl n.f.name) d.name n.blk):=aput_enc keyS _ _ _
         rw[a2]at E
         repeat with_reducible first|refine Stp.go ?_|refine StpE.go E ?_
         rw[hub']
         simp only[Option.map_some]
         refine BdS.one E u_sl_p_node e_p_node rfl ?_
         clear E
         intro sv2 w_ E
         refine Ap.one E (i:=6) rfl u_sl_p_node ⟨_,u_sl_p_node,λ_ h=>by cases h⟩ e_p_node (Src.one E (by (first|assumption|exact FPt.mem|exact FMp.mem|exact FSl.mem|(repeat(first|assumption|with_reducible exact List.mem_cons_self|refine List.mem_cons_of_mem _ ?_)))) rfl) rfl (by simp) (by simp) ?_
         clear E
         intro s' w_ E
         (try simp only[List.set_cons_zero,List.set_cons_succ,List.cons_append,List.nil_append,Nat.zero_add,Nat.add_zero]at E)
         skip
         replace E:=E.tl
         obtain⟨X1,hX1⟩:∃X1:PT,X1={X with ps:=X.ps.map (reN n.blk u.blk n.f.name d.name)}:=⟨_,rfl⟩
         obtain⟨n1,hn1⟩:∃n1:PN,n1={n with f:=named d.name n.f}:=⟨_,rfl⟩
         obtain⟨u1,hu1⟩:∃u1:PN,u1={u with kl:=putL (delL u.kl n.f.name) d.name n.blk}:=⟨_,rfl⟩
         have rn:reN n.blk u.blk n.f.name d.name n=n1:=by rw[hn1];unfold reN;rw[if_pos rfl]
         have ru:reN n.blk u.blk n.f.name d.name u=u1:=by rw[hu1];unfold reN;rw[if_neg hnub,if_pos rfl]
         have hpm2:X.ps.Perm (n::u::rs'):=hpm.trans (hp'.cons n)
         have hnb:(n.blk::u.blk::rs'.map PN.blk).Nodup:=(hpm2.map PN.blk).nodup_iff.1 hnd
         rw[List.nodup_cons,List.nodup_cons]at hnb
         have rr:rs'.map (reN n.blk u.blk n.f.name d.name)=rs':=by
          conv=>rhs;rw[← List.map_id rs']
          refine List.map_congr_left λm hm=>?_
          have hmb:m.blk∈rs'.map PN.blk:=List.mem_map.2 ⟨m,hm,rfl⟩
          unfold reN
          rw[if_neg λe=>hnb.1 (by rw[← e];exact List.mem_cons_of_mem _ hmb),if_neg λe=>hnb.2.1 (by rw[← e];exact hmb)];rfl
         have hpm1:X1.ps.Perm (n1::u1::rs'):=by
          have:=hpm2.map (reN n.blk u.blk n.f.name d.name)
          rw[List.map_cons,List.map_cons,rn,ru,rr]at this
          rw[hX1];exact this
         have hn1m:n1∈X1.ps:=hpm1.mem_iff.2 List.mem_cons_self
         have hu1m:u1∈X1.ps:=hpm1.mem_iff.2 (List.mem_cons_of_mem _ List.mem_cons_self)
         have t1:Tie D X1 (T.upd n.f.path (named d.name)) β:=by rw[hX1];exact h.rename hi hnd hpm hur h0 hup' hfree
         have i1:=rename_inv hi hnT h0 hgood hfree
         have hnd1:(X1.ps.map PN.blk).Nodup:=by
          refine(hpm1.map PN.blk).nodup_iff.2 ?_
          have:(n1::u1::rs').map PN.blk=n.blk::u.blk::rs'.map PN.blk:=by rw[hn1,hu1];rfl
          rw[this,List.nodup_cons,List.nodup_cons];exact hnb
         have hdu1:u1.f.dir=true:=by rw[hu1];exact hud
         have E1:Hs w0 F w_ (mp u1.kb .str u1.kM::nd u1.blk u1.mn::NT rs'::nd n1.blk n1.mn::KM n1::slA s' Ty.t28 1 [ptr n1.blk,ptr u1.blk]::tb X1::mp X1.fm (.int .i64) X1.fM::mp X1.gm .str X1.gM::mp X1.om (.int .i64) X1.oM::DT X1.ds::Pool D::pt q (oc d.cs Ty.t9)::l):=by
          rw[hX1,hn1,hu1];exact E
         clear E
         have E:=Hs.closeK hdu1 E1
         clear E1
         (replace E:=(((E.bIx 2).bIx 1).bIx 2))
         replace E:=Hs.closeN u1 E
         (replace E:=(((E.bIx 0).bIx 2).bIx 2))
         replace E:=Hs.permN (Hs.closeN n1 E) hpm1.symm
         (replace E:=(((E.bIx 1).bIx 1).bIx 2))
         have hu1f:u1.f=u.f:=by rw[hu1]
         have hn1f:n1.f.path=n.f.path:=by rw[hn1]
         have hnb1:n1.blk=n.blk:=by rw[hn1]
         have hub1:u1.blk=u.blk:=by rw[hu1]
         refine fin58 X1 _ n1 [n1,u1] s' _ t1 i1 (hlim.upd0 λ_=>rfl) (by rw[hX1]) hn1m hnb1 hn1f (by rw[hn1]) (by rw[hn1]) (λx hx=>?_) (by simp) (touch2_tie t1 i1 hnd1 hn1m hu1m (by rw[hub1,hnb1];exact hnub) user) ?_ E
         ·rcases List.mem_cons.1 hx with rfl|hx
          ·exact hn1m
          ·rw[List.mem_singleton.1 hx];exact hu1m
         ·rw[if_pos hmv]
          show((T.upd n.f.path (named d.name)).change user [n1.f.path,u1.f.path]).upd n.f.path (given1 d)=_
          rw[hn1f,hu1f,← hup']
          exact wstat_eq2 hne hmv.1
       clear hJ52
       have key:(!(b1 || b2 || b3 || b4 || b5))=decide (d.name=emp∧d.group=emp∧d.mode= -1∧d.time= -1∧d.len= -1):=by
        rw[← hb1,← hb2,← hb3,← hb4,← hb5]
        exact nothing_key d
       cases hc1:b1<;>rw[hc1]at key<;>(repeat with_reducible refine Stp.go ?_)
       ·cases hc2:b2<;>rw[hc2]at key<;>(repeat with_reducible refine Stp.go ?_)
        ·cases hc3:b3<;>rw[hc3]at key<;>(repeat with_reducible refine Stp.go ?_)
         ·cases hc4:b4<;>rw[hc4]at key<;>(repeat with_reducible refine Stp.go ?_)
          ·cases hc5:b5<;>rw[hc5]at key<;>(repeat with_reducible refine Stp.go ?_)
           ·exact fin52 _ _ key E
           ·exact fin52 _ _ key E
          ·exact fin52 _ _ (by rw[← key];simp) E
         ·exact fin52 _ _ (by rw[← key];simp) E
        ·exact fin52 _ _ (by rw[← key];simp) E
       ·exact fin52 _ _ (by rw[← key];simp) E
      clear hJ48
      (intro J168 hJ168)
      have fin168:∀b w_,b=decide ((d.name≠emp∧d.name≠n.f.name)∧T.may user (T.parent n.f) 2=false)→Hs w0 F w_ (wsL X D q d l)→J168 [.bool b] w_:=by
       intro b w_ hb E
       repeat with_reducible (apply hJ168;intro u_)
       clear hJ168
       by_cases c1:(d.name≠emp∧d.name≠n.f.name)∧T.may user (T.parent n.f) 2=false
       ·rw[decide_eq_true c1]at hb
        subst hb
        repeat with_reducible refine Stp.go ?_
        exact fin48 _ _ (by rw[decide_eq_true (.inl c1)]) E
       rw[decide_eq_false c1]at hb
       subst hb
       repeat with_reducible refine Stp.go ?_
       (intro J172 hJ172)
       have fin172:∀b w_,b=decide (d.len≠ -1∧n.f.dir=false∧T.may user n.f 2=false)→Hs w0 F w_ (wsL X D q d l)→J172 [.bool b] w_:=by
        intro b w_ hb E
        repeat with_reducible (apply hJ172;intro u_)
        clear hJ172
        by_cases c2:d.len≠ -1∧n.f.dir=false∧T.may user n.f 2=false
        ·rw[decide_eq_true c2]at hb
         subst hb
         repeat with_reducible refine Stp.go ?_
         exact fin48 _ _ (by rw[decide_eq_true (.inr (.inl c2))]) E
        rw[decide_eq_false c2]at hb
        subst hb
        repeat with_reducible refine Stp.go ?_
        (intro J176 hJ176)
        have fin176:∀b w_,b=decide ((d.mode≠ -1∨d.time≠ -1∨d.group≠emp)∧user≠n.f.owner)→Hs w0 F w_ (wsL X D q d l)→J176 [.bool b] w_:=by
         intro b w_ hb E
         repeat with_reducible (apply hJ176;intro u_)
         clear hJ176
         by_cases c3:(d.mode≠ -1∨d.time≠ -1∨d.group≠emp)∧user≠n.f.owner
         ·rw[decide_eq_true c3]at hb
          subst hb
          repeat with_reducible refine Stp.go ?_
          exact fin48 _ _ (by rw[decide_eq_true (.inr (.inr (.inl c3)))]) E
         rw[decide_eq_false c3]at hb
         subst hb
         repeat with_reducible refine Stp.go ?_
         cases b2 with
         |false=>
          have hx:¬d.group≠emp:=of_decide_eq_false hb2
          repeat with_reducible refine Stp.go ?_
          exact fin48 _ _ (by rw[decide_eq_false];rintro(h|h|h|h);exact c1 h;exact c2 h;exact c3 h;exact hx h.1) E
         |true=>
          have hx:d.group≠emp:=of_decide_eq_true hb2
          repeat with_reducible first|refine Stp.go ?_|refine StpE.go E ?_
          refine(member_ok (D:=D) (by simp) h.gs E).mono ?_
          clear E
          rintro r w_ ⟨rfl,E⟩
          rw[memberG_eq]
          cases hm:T.member user d.group with
          |false=>(repeat with_reducible refine Stp.go ?_);exact fin48 _ _ (by rw[decide_eq_true (.inr (.inr (.inr ⟨hx,hm⟩)))]) E
          |true=>(repeat with_reducible refine Stp.go ?_);exact fin48 _ _ (by rw[decide_eq_false];rintro(h|h|h|h);exact c1 h;exact c2 h;exact c3 h;rw[hm]at h;cases h.2) E
        clear hJ176
        have own:∀w_,Hs w0 F w_ (wsL X D q d l)→(d.mode≠ -1∨d.time≠ -1∨d.group≠emp)→decide (user≠n.f.owner)=decide ((d.mode≠ -1∨d.time≠ -1∨d.group≠emp)∧user≠n.f.owner):=λ_ _ h=>decide_eq_decide.2 ⟨λh'=>⟨h,h'⟩,λh'=>h'.2⟩
        cases b3 with
        |true=>
         have hx:d.mode≠ -1:=of_decide_eq_true hb3
         repeat with_reducible refine Stp.go ?_
         refine Ld.nt E (by simp) hn (v:=str n.f.owner) rfl ?_
         repeat with_reducible refine Stp.go ?_
         refine Bi.sneqD ?_
         repeat with_reducible refine Stp.go ?_
         exact fin176 _ _ (own _ E (.inl hx)) E
        |false=>
         have hx:¬d.mode≠ -1:=of_decide_eq_false hb3
         repeat with_reducible refine Stp.go ?_
         cases b4 with
         |true=>
          have hy:d.time≠ -1:=of_decide_eq_true hb4
          repeat with_reducible refine Stp.go ?_
          refine Ld.nt E (by simp) hn (v:=str n.f.owner) rfl ?_
          repeat with_reducible refine Stp.go ?_
          refine Bi.sneqD ?_
          repeat with_reducible refine Stp.go ?_
          exact fin176 _ _ (own _ E (.inr (.inl hy))) E
         |false=>
          have hy:¬d.time≠ -1:=of_decide_eq_false hb4
          repeat with_reducible refine Stp.go ?_
          cases b2 with
          |true=>
           have hz:d.group≠emp:=of_decide_eq_true hb2
           repeat with_reducible refine Stp.go ?_
           refine Ld.nt E (by simp) hn (v:=str n.f.owner) rfl ?_
           repeat with_reducible refine Stp.go ?_
           refine Bi.sneqD ?_
           repeat with_reducible refine Stp.go ?_
           exact fin176 _ _ (own _ E (.inr (.inr hz))) E
          |false=>
           have hz:¬d.group≠emp:=of_decide_eq_false hb2
           repeat with_reducible refine Stp.go ?_
           exact fin176 _ _ (by rw[decide_eq_false];rintro⟨h|h|h,_⟩;exact hx h;exact hy h;exact hz h) E
       clear hJ172
       cases b5 with
       |false=>
        have hx:¬d.len≠ -1:=of_decide_eq_false hb5
        repeat with_reducible refine Stp.go ?_
        exact fin172 _ _ (by rw[decide_eq_false λh=>hx h.1]) E
       |true=>
        have hx:d.len≠ -1:=of_decide_eq_true hb5
        repeat with_reducible refine Stp.go ?_
        refine(isDirN hn (by simp) E).mono ?_
        clear E
        rintro r w_ ⟨rfl,E⟩
        cases hd:n.f.dir with
        |true=>(repeat with_reducible refine Stp.go ?_);exact fin172 _ _ (by rw[decide_eq_false];rintro⟨_,h,_⟩;rw[hd]at h;cases h) E
        |false=>
         repeat with_reducible refine Stp.go ?_
         refine(may_nt h hn (D:=D) (by simp) E).mono ?_
         clear E
         rintro r w_ ⟨rfl,E⟩
         cases hm:T.may user n.f 2 with
         |false=>(repeat with_reducible refine Stp.go ?_);exact fin172 _ _ (by rw[decide_eq_true ⟨hx,hd,hm⟩]) E
         |true=>(repeat with_reducible refine Stp.go ?_);exact fin172 _ _ (by rw[decide_eq_false];rintro⟨_,_,h⟩;rw[hm]at h;cases h) E
      clear hJ168
      by_cases hmv:d.name≠emp∧d.name≠n.f.name
      ·rw[decide_eq_true hmv]at hbm
       subst hbm
       obtain⟨h0,u,hu,hv,hpar⟩:=hup hmv
       repeat with_reducible refine Stp.go ?_
       refine Ld.nt E (by simp) hn hv ?_
       repeat with_reducible refine Stp.go ?_
       refine(may_nt h hu (D:=D) (by simp) E).mono ?_
       clear E
       rintro r w_ ⟨rfl,E⟩
       rw[← hpar]
       cases hm:T.may user (T.parent n.f) 2 with
       |false=>(repeat with_reducible refine Stp.go ?_);exact fin168 _ _ (by rw[decide_eq_true ⟨hmv,hm⟩]) E
       |true=>(repeat with_reducible refine Stp.go ?_);exact fin168 _ _ (by rw[decide_eq_false];rintro⟨_,h⟩;rw[hm]at h;cases h) E
      ·rw[decide_eq_false hmv]at hbm
       subst hbm
       repeat with_reducible refine Stp.go ?_
       exact fin168 _ _ (by rw[decide_eq_false λh=>hmv h.1]) E
     clear hJ44
     repeat with_reducible (refine StpW.go E ?_;clear E;intro w_ E)
     by_cases hmv:d.name≠emp∧d.name≠n.f.name
     ·rw[decide_eq_true hmv]at hbm
      subst hbm
      obtain⟨h0,u,hu,hv,hpar⟩:=hup hmv
      obtain⟨_,hp2,hudir⟩:=parent_mem hi hnT h0
      rw[hpar]at hp2 hudir
      repeat with_reducible refine Stp.go ?_
      refine Ld.nt E (by simp) hn hv ?_
      repeat with_reducible refine Stp.go ?_
      refine Ld.nt E (by simp) hu kids_val ?_
      rw[if_pos hudir]
      obtain⟨l',hml,El⟩:=mapAtN (w0:=w0) (F:=F) hu hudir (by simp) E
      repeat with_reducible first|refine Stp.go ?_|refine StpE.go E ?_
      refine Lk.one El hml u_mkids k_str z_p_node rfl ?_
      rw[aget_enc keyS]
      rcases h.kid hi hu d.name with⟨k1,k2⟩|⟨k,hk,k1,k2⟩
      ·rw[k2]
       simp only[Option.map_none,Option.getD_none]
       repeat with_reducible refine Stp.go ?_
       refine Eq.nf u_p_node rfl ?_
       repeat with_reducible refine Stp.go ?_
       exact fin44 _ _ (by rw[decide_eq_false];rintro⟨_,h⟩;rw[← hp2,k1]at h;cases h) E
      ·rw[k2]
       simp only[Option.map_some,Option.getD_some]
       repeat with_reducible refine Stp.go ?_
       refine Eq.nt u_p_node rfl ?_
       repeat with_reducible refine Stp.go ?_
       exact fin44 _ _ (by rw[decide_eq_true ⟨hmv,by rw[← hp2,k1];rfl⟩]) E
     ·rw[decide_eq_false hmv]at hbm
      subst hbm
      repeat with_reducible refine Stp.go ?_
      exact fin44 _ _ (by rw[decide_eq_false λh=>hmv h.1]) E
    clear hJ37
    skip
    cases b5 with
    |false=>
     have hx:¬d.len≠ -1:=of_decide_eq_false hb5
     repeat with_reducible refine Stp.go ?_
     exact fin37 _ _ (by rw[decide_eq_false λhc=>hx hc.1]) E
    |true=>
     have hx:d.len≠ -1:=of_decide_eq_true hb5
     repeat with_reducible first|refine Stp.go ?_|refine StpE.go E ?_
     refine Bi.neq ?_ ?_<;>intro hz<;>(repeat with_reducible refine Stp.go ?_)
     ·refine(isDirN hn (by simp) E).mono ?_
      clear E
      rintro r w_ ⟨rfl,E⟩
      repeat with_reducible refine Stp.go ?_
      refine fin37 _ _ ?_ E
      cases hd:n.f.dir with
      |true=>rw[decide_eq_true ⟨hx,hz,rfl⟩]
      |false=>rw[decide_eq_false λhc=>by cases hc.2.2]
     ·exact fin37 _ _ (by rw[decide_eq_false λhc=>hc.2.1 hz]) E
   clear hJ33
   skip
   cases b1 with
   |true=>
    have hx:d.name≠emp:=of_decide_eq_true hb1
    repeat with_reducible first|refine Stp.go ?_|refine StpE.go E ?_
    refine(Valid_ok hs1).mono ?_
    rintro r w' ⟨rfl,rfl⟩
    cases hg1:goodName d.name with
    |false=>
     repeat with_reducible refine Stp.go ?_
     exact fin33 _ _ (by rw[decide_eq_true (.inl ⟨hx,hg1⟩)]) E
    |true=>
     repeat with_reducible refine Stp.go ?_
     cases b2 with
     |false=>
      have hy:¬d.group≠emp:=of_decide_eq_false hb2
      repeat with_reducible refine Stp.go ?_
      exact fin33 _ _ (by rw[decide_eq_false λhc=>hc.elim (λh=>by rw[hg1]at h;cases h.2) λh=>hy h.1]) E
     |true=>
      have hy:d.group≠emp:=of_decide_eq_true hb2
      repeat with_reducible first|refine Stp.go ?_|refine StpE.go E ?_
      refine(Valid_ok hs2).mono ?_
      rintro r w' ⟨rfl,rfl⟩
      cases hg2:goodName d.group with
      |false=>
       repeat with_reducible refine Stp.go ?_
       exact fin33 _ _ (by rw[decide_eq_true (.inr ⟨hy,hg2⟩)]) E
      |true=>
       repeat with_reducible refine Stp.go ?_
       exact fin33 _ _ (by rw[decide_eq_false λhc=>hc.elim (λh=>by rw[hg1]at h;cases h.2) λh=>by rw[hg2]at h;cases h.2]) E
   |false=>
    have hx:¬d.name≠emp:=of_decide_eq_false hb1
    repeat with_reducible refine Stp.go ?_
    cases b2 with
    |false=>
     have hy:¬d.group≠emp:=of_decide_eq_false hb2
     repeat with_reducible refine Stp.go ?_
     exact fin33 _ _ (by rw[decide_eq_false λhc=>hc.elim (λh=>hx h.1) λh=>hy h.1]) E
    |true=>
     have hy:d.group≠emp:=of_decide_eq_true hb2
     repeat with_reducible first|refine Stp.go ?_|refine StpE.go E ?_
     refine(Valid_ok hs2).mono ?_
     rintro r w' ⟨rfl,rfl⟩
     cases hg2:goodName d.group with
     |false=>
      repeat with_reducible refine Stp.go ?_
      exact fin33 _ _ (by rw[decide_eq_true (.inr ⟨hy,hg2⟩)]) E
     |true=>
      repeat with_reducible refine Stp.go ?_
      exact fin33 _ _ (by rw[decide_eq_false λhc=>hc.elim (λh=>hx h.1) λh=>by rw[hg2]at h;cases h.2]) E
  clear hJ29
  (intro J415 hJ415)
  have fin415:∀b w_,b=decide (¬(d.kind=0∧d.vers=0∧d.path=0)∨d.owner≠emp∨d.last≠emp∨d.len< -1∨d.time< -1∨(d.name≠emp∧n.f.path=0))→Hs w0 F w_ (wsL X D q d l)→J415 [.bool b] w_:=by
   intro b w_ hb E
   repeat with_reducible (apply hJ415;intro u_)
   clear hJ415
   by_cases c1:¬(d.kind=0∧d.vers=0∧d.path=0)∨d.owner≠emp∨d.last≠emp∨d.len< -1∨d.time< -1∨(d.name≠emp∧n.f.path=0)
   ·rw[decide_eq_true c1]at hb
    subst hb
    repeat with_reducible refine Stp.go ?_
    exact fin29 _ _ (by rw[decide_eq_true (.inl c1)]) E
   rw[decide_eq_false c1]at hb
   subst hb
   repeat with_reducible first|refine Stp.go ?_|(refine StpW.go E ?_;clear E;intro w_ E)
   cases b3 with
   |false=>
    have hx:¬d.mode≠ -1:=of_decide_eq_false hb3
    repeat with_reducible refine Stp.go ?_
    exact fin29 _ _ (by rw[decide_eq_false λhc=>hc.elim c1 λh=>hx h.1]) E
   |true=>
    have hx:d.mode≠ -1:=of_decide_eq_true hb3
    repeat with_reducible first|refine Stp.go ?_|refine StpE.go E ?_
    refine(right_ok E).mono ?_
    clear E
    rintro r w_ ⟨rfl,E⟩
    cases hr:rightM d.mode with
    |false=>
     repeat with_reducible refine Stp.go ?_
     exact fin29 _ _ (by rw[decide_eq_true (.inr ⟨hx,.inl hr⟩)]) E
    |true=>
     repeat with_reducible first|refine Stp.go ?_|refine StpE.go E ?_
     refine Ld.nt E (by simp) hn (v:=i64 n.f.mode) rfl ?_
     repeat with_reducible refine Stp.go ?_
     refine Bi.neqD ?_
     repeat with_reducible refine Stp.go ?_
     refine fin29 _ _ ?_ E
     by_cases hc:andI d.mode 2147483648≠andI n.f.mode 2147483648
     ·rw[decide_eq_true hc,decide_eq_true (.inr ⟨hx,.inr hc⟩)]
     ·rw[decide_eq_false hc,decide_eq_false λhy=>hy.elim c1 λh=>h.2.elim (λh=>by rw[hr]at h;cases h) hc]
  clear hJ415
  repeat with_reducible first|refine Stp.go ?_|refine StpE.go E ?_
  have eq3:ceqL [i64 d.kind,i64 d.vers,i64 d.path] [i64 0,i64 0,i64 0]=decide (d.kind=0∧d.vers=0∧d.path=0):=by
   simp only[ceqL,ceq,Bool.and_true]
   by_cases x1:d.kind=0<;>by_cases x2:d.vers=0<;>by_cases x3:d.path=0<;>simp[x1,x2,x3]
  refine EqS.n (xs:=[i64 d.kind,i64 d.vers,i64 d.path]) (ys:=[i64 0,i64 0,i64 0]) lv_Qid st_Qid g_Qid rfl rfl ?_
  rw[eq3]
  by_cases k1:d.kind=0∧d.vers=0∧d.path=0
  rotate_left
  ·rw[decide_eq_false k1,Bool.not_false]
   repeat with_reducible refine Stp.go ?_
   exact fin415 _ _ (by rw[decide_eq_true (.inl k1)]) E
  rw[decide_eq_true k1,Bool.not_true]
  repeat with_reducible first|refine Stp.go ?_|refine StpE.go E ?_
  refine Bi.sneq ?_ ?_<;>intro k2<;>(repeat with_reducible first|refine Stp.go ?_|refine StpE.go E ?_)
  ·have k2:d.owner≠emp:=k2
   exact fin415 _ _ (by rw[decide_eq_true (.inr (.inl k2))]) E
  have k2':¬d.owner≠emp:=λh=>h k2
  refine Bi.sneq ?_ ?_<;>intro k3<;>(repeat with_reducible first|refine Stp.go ?_|refine StpE.go E ?_)
  ·have k3:d.last≠emp:=k3
   exact fin415 _ _ (by rw[decide_eq_true (.inr (.inr (.inl k3)))]) E
  have k3':¬d.last≠emp:=λh=>h k3
  refine Bi.lss ?_ ?_<;>intro k4<;>(repeat with_reducible first|refine Stp.go ?_|refine StpE.go E ?_)
  ·exact fin415 _ _ (by rw[decide_eq_true (.inr (.inr (.inr (.inl k4))))]) E
  have k4':¬d.len< -1:=by omega
  refine Bi.lss ?_ ?_<;>intro k5<;>(repeat with_reducible refine Stp.go ?_)
  ·exact fin415 _ _ (by rw[decide_eq_true (.inr (.inr (.inr (.inr (.inl k5)))))]) E
  have k5':¬d.time< -1:=by omega
  have rest:∀{p:Prop} [Decidable p],(p↔d.name≠emp∧n.f.path=0)→decide p=decide (¬(d.kind=0∧d.vers=0∧d.path=0)∨d.owner≠emp∨d.last≠emp∨d.len< -1∨d.time< -1∨(d.name≠emp∧n.f.path=0)):=by
   intro p _ hp
   refine decide_eq_decide.2 (hp.trans ⟨λh=>.inr (.inr (.inr (.inr (.inr h)))),λh=>?_⟩)
   rcases h with h|h|h|h|h|h
   ·exact absurd k1 h
   ·exact absurd h k2'
   ·exact absurd h k3'
   ·exact absurd h k4'
   ·exact absurd h k5'
   ·exact h
  cases b1 with
  |false=>
   have hx:¬d.name≠emp:=of_decide_eq_false hb1
   repeat with_reducible refine Stp.go ?_
   exact fin415 _ _ (by rw[← rest (p:=False) ⟨λh=>h.elim,λh=>hx h.1⟩];rfl) E
  |true=>
   have hx:d.name≠emp:=of_decide_eq_true hb1
   repeat with_reducible first|refine Stp.go ?_|refine StpE.go E ?_
   obtain⟨r0,hr0,hr1,hr2⟩:=h.root
   refine Eq.pp u_p_node n_node (Hs.ntAt E (by simp) hn) (by rw[← hr2];exact Hs.ntAt E (by simp) hr0) ?_
   have hroot:((⟨n.blk,0,none⟩:Addr)=⟨X.root,0,none⟩)↔d.name≠emp∧n.f.path=0:=by
    constructor
    ·intro e
     have e:n.blk=X.root:=congrArg Addr.block e
     have:=Hs.nodupN' E (by simp) n hn r0 hr0 (by rw[e,hr2])
     exact⟨hx,by rw[this,hr1]⟩
    ·intro h0
     have hrn:r0=n:=h.inj hi hr0 hn (by rw[hr1,h0.2])
     rw[← hr2,hrn]
   rw[rest hroot]
   repeat with_reducible refine Stp.go ?_
   exact fin415 _ _ rfl E
 clear hJ25
 repeat with_reducible (refine StpW.go E ?_;clear E;intro w_ E)
 cases b1 with
 |false=>
  repeat with_reducible refine Stp.go ?_
  have:¬d.name≠emp:=of_decide_eq_false hb1
  exact fin25 _ _ (by rw[decide_eq_false λhc=>this hc.1]) E
 |true=>
  have h1:d.name≠emp:=of_decide_eq_true hb1
  repeat with_reducible first|refine Stp.go ?_|refine StpE.go E ?_
  refine Ld.nt E (by simp) hn (v:=str n.f.name) rfl ?_
  repeat with_reducible refine Stp.go ?_
  refine Bi.sneqD ?_
  repeat with_reducible refine Stp.go ?_
  refine fin25 _ _ ?_ E
  by_cases hc:d.name≠n.f.name
  ·rw[decide_eq_true hc,decide_eq_true ⟨h1,hc⟩]
  ·rw[decide_eq_false hc,decide_eq_false λhx=>hc hx.2]
set_option maxRecDepth 100000
set_option linter.unusedVariables false
set_option linter.unusedSimpArgs false
variable {T:Tr}
theorem chg_mem{user:BA}{ps:List Int}{m:Nd}(h:m∈(T.change user ps).ns):∃q∈T.ns,m.path=q.path∧m.up=q.up∧m.name=q.name∧m.mode=q.mode∧m.data=q.data∧m.owner=q.owner∧m.group=q.group:=by
 have key:∀(ps:List Int) (T:Tr) (m:Nd),m∈(ps.foldl (λT p=>T.upd p (touchN T.clock user)) T).ns→∃q∈T.ns,m.path=q.path∧m.up=q.up∧m.name=q.name∧m.mode=q.mode∧m.data=q.data∧m.owner=q.owner∧m.group=q.group:=by
  intro ps
  induction ps with
  |nil=>intro T m h;exact⟨m,h,rfl,rfl,rfl,rfl,rfl,rfl,rfl⟩
  |cons p ps ih=>
   intro T m h
   obtain⟨q,hq,e⟩:=ih _ m h
   obtain⟨q0,hq0,rfl⟩:=updN_mem hq
   refine⟨q0,hq0,?_⟩
   split at e<;>exact e
 exact key ps T.tick m h
theorem given_inv(hi:Inv T){n:Nd}(hn:n∈T.ns)(user:BA)(ps:List Int){d:Dr}(h1:¬(d.len< -1))(h2:¬d.time< -1)(hm:¬(d.mode≠ -1∧(rightM d.mode=false∨andI d.mode 2147483648≠andI n.mode 2147483648)))
  (hg:¬(d.group≠emp∧goodName d.group=false))(hl:¬1048576<d.len):Inv ((T.change user ps).upd n.path (given1 d)):=by
 have hi2:=hi.change user ps
 have hmem:∀m∈(T.change user ps).ns,m.path=n.path→m.mode=n.mode:=by
  intro m hm hp
  obtain⟨q,hq,e1,e2,e3,e4,_⟩:=chg_mem hm
  have:q=n:=hi.inj hq hn (by rw[← e1,hp])
  rw[e4,this]
 refine hi2.upd (T.change user ps).clock hi2.clock (λm hm1 hp=>⟨rfl,rfl,rfl,given1_dir (by rw[hmem m hm1 hp];exact hm)⟩) (λm hm1 hp=>?_) λm hm1 hp=>?_
 ·have hd:=hi2.data m hm1
  have e:(given1 d m).dir=m.dir:=given1_dir (by rw[hmem m hm1 hp];exact hm)
  have e2:(given1 d m).data=if d.len= -1∨m.dir=true then m.data else sized m.data d.len.toNat:=rfl
  rw[e,e2]
  constructor
  ·intro hdir
   rw[if_pos (.inr hdir)]
   exact hd.1 hdir
  ·split
   ·exact hd.2
   ·rw[sized_size];omega
 ·have hf:=hi2.form m hm1
  refine⟨hf.1,?_,?_,hf.2.2.2.1,?_⟩
  ·show goodName (if d.group=emp then m.group else d.group)=true
   split
   ·exact hf.2.1
   ·rename_i hne
    cases hgd:goodName d.group with
    |true=>rfl
    |false=>exact absurd ⟨hne,hgd⟩ hg
  ·show rightM (if d.mode= -1 then m.mode else d.mode)=true
   split
   ·exact hf.2.2.1
   ·rename_i hne
    cases hr:rightM d.mode with
    |true=>rfl
    |false=>exact absurd ⟨hne,.inl hr⟩ hm
  ·show 0≤if d.time= -1 then m.time else d.time
   split
   ·exact hf.2.2.2.2
   ·omega
theorem wstat_inv(hi:Inv T)(user:BA)(file:Int)(d:Dr):Inv (T.wstat user file d).1:=by
 unfold Tr.wstat
 split
 ·exact hi
 rename_i n hg
 obtain⟨hn,hp⟩:=hi.get.1 hg
 subst hp
 simp only[]
 split
 ·exact hi
 rename_i c1
 split
 ·exact hi
 rename_i c2
 split
 ·exact hi
 rename_i c3
 split
 ·exact hi
 split
 ·exact hi
 rename_i c5
 split
 ·exact hi
 rename_i c6
 split
 ·exact hi
 split
 ·exact hi
 have k1:¬d.len< -1:=λh=>c1 (.inr (.inr (.inr (.inl h))))
 have k2:¬d.time< -1:=λh=>c1 (.inr (.inr (.inr (.inr (.inl h)))))
 have k3:¬(d.group≠emp∧goodName d.group=false):=λh=>c3 (.inr h)
 by_cases hmv:d.name≠emp∧d.name≠n.name
 ·have h0:n.path≠0:=λh=>c1 (.inr (.inr (.inr (.inr (.inr ⟨hmv.1,h⟩)))))
  have hfree:T.kid n.up d.name=none:=by
   cases hk:T.kid n.up d.name with
   |none=>rfl
   |some k=>exact absurd ⟨hmv,by rw[hk];rfl⟩ c6
  have hgood:goodName d.name=true:=by
   cases hg:goodName d.name with
   |true=>rfl
   |false=>exact absurd (.inl ⟨hmv.1,hg⟩) c3
  have hne:n.up≠n.path:=by
   obtain⟨rk,hrk⟩:=hi.rank
   intro e
   have:=hrk n hn h0
   rw[e]at this;omega
  rw[if_pos hmv,← wstat_eq2 hne hmv.1]
  have i1:=rename_inv hi hn h0 hgood hfree
  have hn1:named d.name n∈(T.upd n.path (named d.name)).ns:=List.mem_map.2 ⟨n,hn,if_pos rfl⟩
  exact given_inv i1 hn1 user [n.path,n.up] k1 k2 c2 k3 c5
 ·rw[if_neg hmv,← wstat_eq1 hi hn hmv]
  exact given_inv hi hn user [n.path] k1 k2 c2 k3 c5
set_option maxRecDepth 100000
set_option linter.unusedVariables false
set_option linter.unusedSimpArgs false
variable {w0 w:World} {F:Nat→Prop} {l:List As}
theorem map_cancel{α γ:Type}{f:α→γ}(hf:∀x y,f x=f y→x=y):∀{l m:List α},l.map f=m.map f→l=m
 |[],[],_=>rfl
 |x::l,y::m,h=>by
  simp only[List.map_cons,List.cons.injEq]at h
  rw[hf x y h.1,map_cancel hf h.2]
 |[],_::_,h=>by simp at h
 |_::_,[],h=>by simp at h
theorem permBack(B ks rest:List As):(B++(ks++rest)).Perm (ks++(B++rest)):=by
 rw[← List.append_assoc,← List.append_assoc]
 exact List.perm_append_comm.append_right rest
theorem perm2{A B:As}(ks rest:List As):(ks++([A,B]++rest)).Perm (A::B::(ks++rest)):=by
 rw[← List.append_assoc]
 exact((List.perm_append_comm (l₁:=ks) (l₂:=[A,B])).append_right rest)
theorem perm3{A B C:As}(ks rest:List As):(A::B::C::(ks++rest)).Perm (ks++([]++(A::B::C::rest))):=by
 rw[List.nil_append]
 exact permBack [A,B,C] ks rest
theorem b_keysS1:hasBody PP Fn.f8=true:=by kernel_rfl
abbrev keysSF(a:Nat):Value:=.func (.func Fn.f8) #[] #[ptr a]
theorem keysS_iter {a m : Nat} {M : List (BA × Nat)} :
  Iter PP w0 F (keysSF a) str (fun pre x=>pre.length < M.length∧x∈M.map (·.1)) (fun xs=>xs.Perm (M.map (·.1))) [pt a (oc [.map (some m)] Ty.t6),mp m .str (encM str ptr M)] [] [pt a (oc [.map (some m)] Ty.t6),mp m .str (encM str ptr M)]:=by
 intro K S_ y w ks rest hy h0 E
 refine CaV.mk b_keysS1 ?_
 refine S.f8.calls (a0:=y) (a1:=ptr a) ?_
 unfold S.f8
 have E1 : Hs w0 F w (pt a (oc [.map (some m)] Ty.t6)::mp m .str (encM str ptr M)::(ks++rest)):=E.perm (perm2 ks rest)
 clear E
 have E:=E1
 clear E1
 repeat with_reducible refine StpE.go E ?_
 refine Rg.mp E u_mkids ?_
 clear E
 intro it es clock w_ hit hes hw hok E
 have hlenM : es.size = M.length:=by
  have:=congrArg List.length hes
  rw [encM_length] at this
  unfold prs at this
  simpa using this
 obtain ⟨ky,hky⟩ : ∃ ky : MapEntry→BA,∀ e∈es.toList,e.key = str (ky e)∧ky e∈M.map (·.1):=by
  have : ∀ e : MapEntry,∃ k : BA,e∈es.toList→e.key = str k∧k∈M.map (·.1):=by
   intro e
   by_cases he : e∈es.toList
   ·have hm : (e.key,e.val)∈encM str ptr M:=by rw [← hes]; exact List.mem_map.2 ⟨e,he,rfl⟩
    obtain ⟨p,hp,hpe⟩:=List.mem_map.1 hm
    exact ⟨p.1,fun _=>⟨(congrArg Prod.fst hpe).symm,List.mem_map.2 ⟨p,hp,rfl⟩⟩⟩
   ·exact ⟨emp,fun h=>absurd h he⟩
  exact ⟨fun e=>Classical.choose (this e),fun e he=>Classical.choose_spec (this e) he⟩
 have hperm : ∀ ms,es.toList.Perm ms→(ms.map ky).Perm (M.map (·.1)):=by
  intro ms hp
  have h1 : (es.toList.map ky).Perm (ms.map ky):=hp.map ky
  refine h1.symm.trans ?_
  have h2 : es.toList.map ky = M.map (·.1):=by
   have h3 : (prs es.toList).map (·.1) = (encM str ptr M).map (·.1):=by rw [hes]
   unfold prs encM at h3
   rw [List.map_map,List.map_map] at h3
   have h4 : es.toList.map (str ∘ ky) = (M.map (·.1)).map str:=by
    rw [List.map_map]
    refine Eq.trans (List.map_congr_left fun e he=>?_) h3
    exact (hky e he).1.symm
   rw [← List.map_map] at h4
   exact map_cancel (fun x y h=>by injection h) h4
  rw [h2]
 refine ⟨fun l1 w1=>l1 = []∧∃ ms ks,Wlk es clock ms∧K (ms.map ky) ks∧Hs w0 F w1 (pt it (itO m clock ms)::pt m (mapO es clock)::pt a (oc [.map (some m)] Ty.t6)::(ks++rest)),fun _ w1=>itM it (es.size + 1) w1,⟨rfl,[],ks,hw,h0,E⟩,?_⟩
 clear E hw h0 ks
 rintro u w1 ⟨-,ms,ks,hw,hK,E⟩
 refine Nx.mp E hw ?_ ?_
 ·intro e w_ he hn2 hw2 E2
  have hmm : itM it (es.size + 1) w1 = es.size + 1 - ms.length:=itM_eq E
  have hle:=hw2.le
  simp only [List.length_append,List.length_cons,List.length_nil] at hle
  clear E
  have E:=E2
  clear E2
  repeat with_reducible refine Stp.go ?_
  refine Ent.mp E hw2 ?_
  obtain ⟨k1,k2⟩:=hky e he
  rw [k1]
  repeat with_reducible refine Stp.go ?_
  refine (hy (ms.map ky) (ky e) w_ ks (pt it (itO m clock (ms++[e]))::pt m (mapO es clock)::pt a (oc [.map (some m)] Ty.t6)::rest) ⟨by rw [List.length_map]; omega,k2⟩ hK (E.perm (perm3 ks rest))).mono ?_
  clear E
  have happ : ms.map ky++[ky e] = (ms++[e]).map ky:=by simp
  rw [happ]
  rintro r w_ (⟨rfl,ks',hk',E'⟩ | ⟨rfl,ks',hs',E'⟩)
  ·have E : Hs w0 F w_ (pt it (itO m clock (ms++[e]))::pt m (mapO es clock)::pt a (oc [.map (some m)] Ty.t6)::(ks'++rest)):=E'.perm (perm3 ks' rest).symm
   clear E'
   repeat with_reducible refine Stp.go ?_
   refine ⟨⟨rfl,ms++[e],ks',hw2,hk',E⟩,?_⟩
   show itM it (es.size + 1) w_ < itM it (es.size + 1) w1
   rw [hmm,itM_eq E]
   simp; omega
  ·have E : Hs w0 F w_ (pt it (itO m clock (ms++[e]))::pt m (mapO es clock)::pt a (oc [.map (some m)] Ty.t6)::(ks'++rest)):=E'.perm (perm3 ks' rest).symm
   clear E'
   repeat with_reducible refine Stp.go ?_
   refine .inr ⟨_,ks',hs',?_⟩
   replace E:=Hs.mapBack (m:=m) (kt:=.str) (M:=encM str ptr M) E hes hw2 hok
   replace E:=(E.bIx 1).tl
   (replace E:=((E.bIx 0).bIx 1))
   exact E.perm (perm2 ks' rest).symm
 ·intro hp
  repeat with_reducible refine Stp.go ?_
  refine .inl ⟨ms.map ky,ks,hperm ms hp,hK,?_⟩
  replace E:=Hs.mapBack (m:=m) (kt:=.str) (M:=encM str ptr M) E hes hw hok
  replace E:=(E.bIx 1).tl
  (replace E:=((E.bIx 0).bIx 1))
  exact E.perm (perm2 ks rest).symm
set_option maxRecDepth 100000
set_option linter.unusedVariables false
set_option linter.unusedSimpArgs false
variable {w0 w:World} {F:Nat→Prop} {l:List As}
variable {D:List Row} {X:PT} {T:Tr} {β:Int→Nat}
theorem sortS_perm{xs ys:List BA}(h:xs.Perm ys):sortS xs=sortS ys:=by
 unfold sortS
 congr 1
 have so:∀zs:List (List UInt8),(zs.mergeSort λx y=>decide (x≤y)).Pairwise (λa b=>a≤b):=λzs=>by
  have:=List.pairwise_mergeSort (le:=λx y:List UInt8=>decide (x≤y)) (λa b c h1 h2=>by simp at h1 h2 ⊢;exact List.le_trans h1 h2) (λa b=>by simp;exact List.le_total a b) zs
  exact this.imp λh=>by simpa using h
 refine List.Perm.eq_of_pairwise (le:=λa b=>a≤b) (λa b _ _ h1 h2=>List.le_antisymm h1 h2) (so _) (so _) ?_
 exact(List.mergeSort_perm _ _).trans ((h.map byt).trans (List.mergeSort_perm _ _).symm)
theorem sortS_mem(xs:List BA):(sortS xs).Perm xs:=by
 unfold sortS
 have h1:=(List.mergeSort_perm (xs.map byt) λx y=>decide (x≤y)).map λl:List UInt8=>(⟨l.toArray⟩:ByteArray)
 refine h1.trans ?_
 rw[List.map_map]
 have e:((λl:List UInt8=>(⟨l.toArray⟩:ByteArray)) ∘ byt)=id:=by funext x;exact byt_mk x
 rw[e,List.map_id]

def Tr.kidsS (T : Tr) (p : Int) : List Nd:=(sortS ((T.kids p).map (·.name))).filterMap (T.kid p)
theorem kid_of (hi : Inv T) {p : Int} {s : BA} (h : s∈(T.kids p).map (·.name)) : ∃ k,T.kid p s = some k∧k.name = s:=by
 obtain ⟨k,hk,rfl⟩:=List.mem_map.1 h
 unfold Tr.kids at hk
 obtain ⟨h1,h2⟩:=List.mem_filter.1 hk
 unfold Tr.isKid at h2
 have h2:=of_decide_eq_true h2
 exact ⟨k,(kid_some hi).2 ⟨h1,h2.1,h2.2,rfl⟩,rfl⟩
theorem kidsS_names (hi : Inv T) (p : Int) : (T.kidsS p).map (·.name) = sortS ((T.kids p).map (·.name)):=by
 unfold Tr.kidsS
 have hm : ∀ s∈sortS ((T.kids p).map (·.name)),s∈(T.kids p).map (·.name):=fun s hs=>(sortS_mem _).mem_iff.1 hs
 generalize sortS ((T.kids p).map (·.name)) = S at hm
 induction S with
 | nil=>rfl
 | cons s r ih =>
  obtain ⟨k,hk,hn⟩:=kid_of hi (hm s List.mem_cons_self)
  rw [List.filterMap_cons,hk]
  simp only [List.map_cons,hn]
  rw [ih fun x hx=>hm x (List.mem_cons_of_mem _ hx)]
theorem kidsS_mem(hi:Inv T){p:Int}{k:Nd}(h:k∈T.kidsS p):k∈T.ns∧k.path≠0∧k.up=p:=by
 unfold Tr.kidsS at h
 obtain⟨s,_,hk⟩:=List.mem_filterMap.1 h
 obtain⟨h1,h2,h3,_⟩:=(kid_some hi).1 hk
 exact⟨h1,h2,h3⟩
theorem kidsS_get (hi : Inv T) {p : Int} {i : Nat} {s : BA} (h : (sortS ((T.kids p).map (·.name)))[i]? = some s) : ∃ k,(T.kidsS p)[i]? = some k∧T.kid p s = some k:=by
 have hn:=kidsS_names hi p
 have h1 : ((T.kidsS p).map (·.name))[i]? = some s:=by rw [hn]; exact h
 rw [List.getElem?_map] at h1
 cases hk : (T.kidsS p)[i]? with
 | none=>rw [hk] at h1; cases h1
 | some k =>
  rw [hk] at h1
  have hks : k.name = s:=by simpa using h1
  refine ⟨k,rfl,?_⟩
  obtain ⟨m1,m2,m3⟩:=kidsS_mem hi (List.mem_of_getElem? hk)
  exact (kid_some hi).2 ⟨m1,m2,m3,hks⟩
theorem kids_perm (h : Tie D X T β) {n : PN} (hn : n∈X.ps) : (n.kl.map (·.1)).Perm ((T.kids n.f.path).map (·.name)):=by
 have h1:=(h.kl n hn).map (·.1)
 rw [List.map_map] at h1
 refine h1.trans ?_
 have h2:=((h.ns.filter (Tr.isKid n.f.path)).map fun k : Nd=>k.name)
 unfold Tr.kids
 refine List.Perm.trans ?_ h2
 rw [List.filter_map,List.map_map]
 exact List.Perm.refl _
theorem perm4{A B C D:As}(ks rest:List As):(C::D::B::A::(ks++rest)).Perm (ks++([A,B]++(C::D::rest))):=by
 have h1:(C::D::B::A::(ks++rest)).Perm (A::B::C::D::(ks++rest)):=by
  refine((List.Perm.swap _ _ _).cons C).trans ?_
  refine(List.Perm.swap _ _ _).trans ?_
  refine((List.perm_middle (l₁:=[C,D]) (a:=A) (l₂:=ks++rest)).cons B).trans ?_
  exact List.Perm.swap _ _ _
 exact h1.trans (permBack [A,B,C,D] ks rest)
theorem Keys_ok{m:Nat}(E:Hs w0 F w l):Ca PP Fn.f11 #[.map (some m)] w λr w'=>∃a,r=keysSF a∧Hs w0 F w' (pt a (oc [.map (some m)] Ty.t6)::l):=by
 refine S.f11.calls ?_
 unfold S.f11
 repeat with_reducible (refine StpA.go E ?_;clear E;intro b_ w_ hb_ E)
 exact⟨b_,rfl,E⟩
abbrev sortedF(a:Nat):Value:=.func (.func Fn.f77) #[] #[ptr a]
theorem b_sorted1:hasBody PP Fn.f77=true:=by kernel_rfl
theorem sorted_ok{n:PN}(E:Hs w0 F w l):Ca PP Fn.f110 #[ptr n.blk] w λr w'=>∃a,r=sortedF a∧Hs w0 F w' (pt a (oc [ptr n.blk] Ty.t28)::l):=by
 refine S.f110.calls ?_
 unfold S.f110
 repeat with_reducible (refine StpA.go E ?_;clear E;intro b_ w_ hb_ E)
 exact⟨b_,rfl,E⟩

structure KidsL(X:PT)(T:Tr)(p:Int)(L:List PN):Prop where
 mem:∀k∈L,k∈X.ps
 eq:L.map PN.f=T.kidsS p
theorem kidsL(h:Tie D X T β)(hi:Inv T)(p:Int):∃L,KidsL X T p L:=by
 have:∀S:List Nd,(∀k∈S,k∈T.ns)→∃L:List PN,(∀k∈L,k∈X.ps)∧L.map PN.f=S:=by
  intro S
  induction S with
  |nil=>intro _;exact⟨[],(λ_ h=>by cases h),rfl⟩
  |cons s r ih=>
   intro hs
   obtain⟨L,h1,h2⟩:=ih λk hk=>hs k (List.mem_cons_of_mem _ hk)
   obtain⟨q,hq,rfl⟩:=h.mem.1 (hs s List.mem_cons_self)
   refine⟨q::L,λk hk=>?_,by rw[List.map_cons,h2]⟩
   rcases List.mem_cons.1 hk with rfl|hk
   ·exact hq
   ·exact h1 k hk
 obtain⟨L,h1,h2⟩:=this (T.kidsS p) λk hk=>(kidsS_mem hi hk).1
 exact⟨L,h1,h2⟩
theorem sorted_iter (h : Tie D X T β) (hi : Inv T) {n : PN} (hn : n∈X.ps) (hd : n.f.dir = true) {a : Nat} {L : List PN} (hL : KidsL X T n.f.path L) :
    Iter PP w0 F (sortedF a) (fun k : PN=>ptr k.blk) (InOrder L) (· = L) [pt a (oc [ptr n.blk] Ty.t28),NT X.ps] [pt a (oc [ptr n.blk] Ty.t28),NT X.ps] [pt a (oc [ptr n.blk] Ty.t28),NT X.ps]:=by
  intro K S_ y w ks rest hy h0 E
  refine CaV.mk b_sorted1 ?_
  refine S.f77.calls (a0:=y) (a1:=ptr a) ?_
  unfold S.f77
  have E1 : Hs w0 F w (pt a (oc [ptr n.blk] Ty.t28)::NT X.ps::(ks++rest)):=E.perm (perm2 ks rest)
  clear E
  have E:=E1
  clear E1
  repeat with_reducible first|refine Stp.go ?_|refine StpE.go E ?_
  refine Ld.nt E (by simp) hn kids_val ?_
  rw [if_pos hd]
  refine (Keys_ok E).mono ?_
  clear E
  rintro r w_ ⟨b,rfl,E⟩
  -- the directory's map
  obtain ⟨rs,hp⟩:=split_perm hn
  replace E:=Hs.openN (E.bIx 2) hp
  replace E:=Hs.openK hd (E.bIx 1)
  (replace E:=((E.bIx 0).bIx 3))
  have hkp:=kids_perm h hn
  have hlen : n.kl.length≤1024:=by
    have h1 : n.kl.length = (T.kids n.f.path).length:=by
      have:=hkp.length_eq
      rw [List.length_map,List.length_map] at this; exact this
    have h2 : (T.kids n.f.path).length≤T.ns.length:=List.length_filter_le _ _
    have:=hi.few.1
    omega
  refine (Sorted_ok (rest:=nd n.blk n.mn::NT rs::pt a (oc [ptr n.blk] Ty.t28)::(ks++rest)) rfl b_keysS1 (keysS_iter (M:=n.kl)) (fun pre x hp=>by have:=hp.1; omega) (fun xs hx=>by have:=hx.length_eq; rw [List.length_map] at this; omega) E).mono ?_
  clear E
  rintro v w_ ⟨xs,hxs,E⟩
  have hS : sortS xs = sortS ((T.kids n.f.path).map (·.name)):=sortS_perm (hxs.trans hkp)
  rw [hS] at E
  have hSn:=kidsS_names hi n.f.path
  generalize hSS : sortS ((T.kids n.f.path).map (·.name)) = SS at *
  have hLlen : L.length = SS.length:=by
    have:=congrArg List.length hL.eq
    rw [List.length_map] at this
    have h2:=congrArg List.length hSn
    rw [List.length_map] at h2
    omega
  have hSlen : SS.length≤1024:=by
    have h1:=(sortS_perm hxs).symm
    have h2:=congrArg List.length hS
    rw [sortS_len] at h2
    have:=hxs.length_eq
    rw [List.length_map] at this
    omega
  replace E : Hs w0 F w_ (slA v Ty.t2 1 (SS.map str)::pt b (oc [.map (some n.kb)] Ty.t6)::NT X.ps::pt a (oc [ptr n.blk] Ty.t28)::(ks++rest)):=by
    simp only [List.cons_append,List.nil_append] at E
    replace E:=Hs.closeK hd (E.bIx 2)
    (replace E:=(((E.bIx 4).bIx 1).bIx 4))
    replace E:=Hs.permN (Hs.closeN n E) hp.symm
    (replace E:=((((E.bIx 3).bIx 1).bIx 3).bIx 3))
    exact E
  repeat with_reducible refine StpE.go E ?_
  rw [List.length_map]
  refine ⟨fun l1 w1=>∃ (i : Nat) (ks : List As),l1 = [i64 i]∧i≤SS.length∧K (L.take i) ks∧Hs w0 F w1 (slA v Ty.t2 1 (SS.map str)::pt b (oc [.map (some n.kb)] Ty.t6)::NT X.ps::pt a (oc [ptr n.blk] Ty.t28)::(ks++rest)),
    fun l1 _=>match l1 with | [.int _ i]=>SS.length - i.toNat | _=>0,⟨0,ks,rfl,Nat.zero_le _,h0,E⟩,?_⟩
  clear E h0 ks
  rintro t u w1 ⟨i,ks,h1,hi1,hK,E⟩
  cases h1
  refine Bi.lss ?_ ?_ <;> intro hlt <;> (repeat with_reducible refine Stp.go ?_)
  · have hx : SS[i]? = some SS[i]:=List.getElem?_eq_getElem (by omega)
    refine IxA.sl E (by (first | assumption | exact FPt.mem | exact FMp.mem | exact FSl.mem|(repeat (first | assumption | with_reducible exact List.mem_cons_self|refine List.mem_cons_of_mem _ ?_)))) (by omega) (by omega) (by simp; omega) ?_
    intro ad had
    refine Ld.sl E (by (first | assumption | exact FPt.mem | exact FMp.mem | exact FSl.mem|(repeat (first | assumption | with_reducible exact List.mem_cons_self|refine List.mem_cons_of_mem _ ?_)))) had (x:=str SS[i]) (by simp [hx]) ?_
    repeat with_reducible first|refine Stp.go ?_|refine StpE.go E ?_
    refine Ld.nt E (by simp) hn kids_val ?_
    rw [if_pos hd]
    obtain ⟨l',hml,El⟩:=mapAtN (w0:=w0) (F:=F) hn hd (by simp) E
    refine Lk.one El hml u_mkids k_str z_p_node rfl ?_
    rw [aget_enc keyS]
    obtain ⟨kf,k1,k2⟩:=kidsS_get hi (p:=n.f.path) (i:=i) (s:=SS[i]) (by rw [hSS]; exact hx)
    have hLi : (L.map PN.f)[i]? = some kf:=by rw [hL.eq]; exact k1
    rw [List.getElem?_map] at hLi
    obtain ⟨k,hk,hkf⟩ : ∃ k,L[i]? = some k∧k.f = kf:=by
      cases hq : L[i]? with
      | none=>rw [hq] at hLi; cases hLi
      | some k=>rw [hq] at hLi; exact ⟨k,rfl,by simpa using hLi⟩
    have hkX:=hL.mem k (List.mem_of_getElem? hk)
    have hget : getL n.kl SS[i] = some k.blk:=by
      rcases h.kid hi hn SS[i] with ⟨c1,_⟩ | ⟨k',hk',c1,c2⟩
      · rw [k2] at c1; cases c1
      · rw [k2] at c1
        have : k'.f = k.f:=by rw [hkf]; exact (Option.some.inj c1).symm
        have : k' = k:=h.inj hi hk' hkX (by rw [this])
        rw [c2,this]
    rw [hget]
    simp only [Option.map_some,Option.getD_some]
    have htl : (L.take i).length = i:=by rw [List.length_take]; omega
    refine (hy (L.take i) k w1 ks (slA v Ty.t2 1 (SS.map str)::pt b (oc [.map (some n.kb)] Ty.t6)::rest) ⟨by rw [htl],by rw [htl]; exact hk⟩ hK (E.perm (by
      have h1:=perm4 (A:=pt a (oc [ptr n.blk] Ty.t28)) (B:=NT X.ps) (C:=slA v Ty.t2 1 (SS.map str)) (D:=pt b (oc [.map (some n.kb)] Ty.t6)) ks rest
      exact h1))).mono ?_
    have htk : L.take i++[k] = L.take (i + 1):=by rw [List.take_add_one,hk]; rfl
    rw [htk]
    clear E El
    rintro r w_ (⟨rfl,ks',hk',E'⟩ | ⟨rfl,ks',hs',E'⟩)
    · have E:=E'.perm (perm4 (A:=pt a (oc [ptr n.blk] Ty.t28)) (B:=NT X.ps) (C:=slA v Ty.t2 1 (SS.map str)) (D:=pt b (oc [.map (some n.kb)] Ty.t6)) ks' rest).symm
      clear E'
      repeat with_reducible refine Stp.go ?_
      refine Bi.add (by omega) ?_
      exact ⟨⟨i + 1,ks',by simp,by omega,hk',E⟩,by simp only []; omega⟩
    · have E:=E'.perm (perm4 (A:=pt a (oc [ptr n.blk] Ty.t28)) (B:=NT X.ps) (C:=slA v Ty.t2 1 (SS.map str)) (D:=pt b (oc [.map (some n.kb)] Ty.t6)) ks' rest).symm
      clear E'
      repeat with_reducible refine Stp.go ?_
      refine .inr ⟨_,ks',hs',?_⟩
      replace E:=E.tl.tl
      (replace E:=((E.bIx 0).bIx 1))
      exact E.perm (perm2 ks' rest).symm
  · have : L.take i = L:=List.take_of_length_le (by omega)
    rw [this] at hK
    refine .inl ⟨L,ks,rfl,hK,?_⟩
    replace E:=E.tl.tl
    (replace E:=((E.bIx 0).bIx 1))
    exact E.perm (perm2 ks rest).symm
set_option maxRecDepth 100000
set_option linter.unusedVariables false
set_option linter.unusedSimpArgs false
variable {w0 w:World} {F:Nat→Prop} {l:List As}
variable {D:List Row} {X:PT} {T:Tr} {β:Int→Nat}
theorem stat_nt(h:Tie D X T β){k:PN}(hk:k∈X.ps)(hp:Pool D∈l)(E:Hs w0 F w (NT X.ps::l)):
  Ca PP Fn.f107 #[ptr k.blk] w λr w'=>r=k.f.stat.V∧Hs w0 F w' (NT X.ps::l):=by
 obtain⟨rs,hps⟩:=split_perm hk
 replace E:=Hs.openN E hps
 have hrd:=(h.data k hk).read E.tl (by simp[hp])
 have hsz:(bts k.f.data).length=k.f.data.size:=by simp[bts]
 rw[hsz]at hrd
 refine(stat_ok E hrd).mono ?_
 clear E
 rintro r w_ ⟨rfl,E⟩
 exact⟨rfl,Hs.permN (Hs.closeN k E) hps.symm⟩
theorem u_sl_Dir:PP.underlying Ty.t66=some (.slice Ty.t9):=by kernel_rfl
theorem n_Dir:sizeK PP Ty.t9=some 10:=by kernel_rfl
theorem z_Dir:zeroK PP Ty.t9=some d0.V:=by kernel_rfl
theorem e_Dir:el3 PP Ty.t9=some (some d0.V,10,112):=by kernel_rfl
theorem dr_scal(d:Dr):d.cs.all scalV=true:=rfl
theorem dcs_app(ds:List Dr)(d:Dr):dcs (ds++[d])=dcs ds++d.cs:=by simp[dcs]
theorem BdS.dir{d:Dr}{k:Value→World→Prop}(E:Hs w0 F w l)(hk:∀v w',Hs w0 F w' (slA v Ty.t9 10 d.cs::l)→k v w'):Ef PP (Instr.buildSlice Ty.t66 1 #[(0,d.V)]) w k:=
 BdS.sl E u_sl_Dir n_Dir z_Dir (by omega) (by omega) (xs:=d.cs) (by kernel_rfl) rfl hk

def Tr.list(T:Tr)(hd:Int):List Dr×Int:=match T.opened hd with
 |none=>([],19)
 |some x=>match T.get x.file with
  |none=>([],4)
  |some n=>if n.dir=false then([],18)else((T.kidsS n.path).map Nd.stat,0)
theorem kidsS_len(hi:Inv T)(p:Int):(T.kidsS p).length≤1024:=by
 have h1:=congrArg List.length (kidsS_names hi p)
 rw[List.length_map,sortS_len,List.length_map]at h1
 have h2:(T.kids p).length≤T.ns.length:=List.length_filter_le _ _
 have:=hi.few.1
 omega
theorem List_ok(h:Tie D X T β)(hi:Inv T){hd:Int}(E:Hs w0 F w (trA X::Pool D::l)):
  Ca PP Fn.f91 #[ptr X.t,i64 hd] w λr w'=>∃v,r=.tuple #[v,i64 (T.list hd).2]∧Hs w0 F w' (slA v Ty.t9 10 (dcs (T.list hd).1)::trA X::Pool D::l):=by
 refine S.f91.calls ?_
 unfold S.f91
 replace E:=Hs.openT E
 refine(opened_ok E).mono ?_
 clear E
 rintro r w_ ⟨rfl,E⟩
 rw[h.opened hi]
 cases hx:T.opened hd with
 |none=>
  simp only[Option.map_none,openedV]
  repeat first|(with_reducible first|refine Stp.go ?_|(refine StpW.go E ?_;clear E;intro w_ E)|(refine StpA.go E ?_;clear E;intro b_ w_ hb_ E))|((with_reducible refine Bi.dec true ?_ ?_);focus exact rfl)
  have e:T.list hd=([],19):=by unfold Tr.list;rw[hx]
  rw[e]
  exact⟨_,rfl,Hs.nilSl (Hs.closeT X E.tl) _ _⟩
 |some x=>
  simp only[Option.map_some,openedV]
  repeat first|(with_reducible first|refine Stp.go ?_|refine StpE.go E ?_|(refine StpW.go E ?_;clear E;intro w_ E)|(refine StpA.go E ?_;clear E;intro b_ w_ hb_ E))|((with_reducible refine Bi.dec false ?_ ?_);focus exact rfl)
  (revert b_;intro q hbq E)
  have hm:=hi.openedM hx
  cases hg:T.get x.file with
  |none=>
   obtain⟨m,hmd,hgone⟩:=h.dead _ hm (get_none.1 hg)
   have hdt:w_.heap[β x.file]? =some (oc m.C Ty.tree_node):=(E.sat (DT X.ds) (by simp)).1 (nd (β x.file) m) (List.mem_map.2 ⟨(β x.file,m),hmd,rfl⟩)
   refine Ld.ob hdt (v:=.bool m.gone) (by simp) ?_
   rw[hgone]
   repeat with_reducible refine Stp.go ?_
   have e:T.list hd=([],4):=by unfold Tr.list;simp only[hx,hg]
   rw[e]
   exact⟨_,rfl,Hs.nilSl (Hs.closeT X E.tl) _ _⟩
  |some nf=>
   obtain⟨hn1,hn2⟩:=hi.get.1 hg
   obtain⟨n,hn,rfl⟩:=h.mem.1 hn1
   have hb:=h.bl n hn
   rw[hn2]at hb
   rw[hb]
   refine Ld.nt E (ps:=X.ps) (by simp) hn (v:=.bool false) rfl ?_
   rw[hb]at E
   repeat with_reducible first|refine Stp.go ?_|refine StpE.go E ?_
   refine(isDirN hn (by simp) E).mono ?_
   clear E
   rintro r w_ ⟨rfl,E⟩
   cases hdir:n.f.dir with
   |false=>
    repeat with_reducible refine Stp.go ?_
    have e:T.list hd=([],18):=by unfold Tr.list;simp only[hx,hg,if_pos hdir]
    rw[e]
    exact⟨_,rfl,Hs.nilSl (Hs.closeT X E.tl) _ _⟩
   |true=>
    have e:T.list hd=((T.kidsS n.f.path).map Nd.stat,0):=by unfold Tr.list;simp only[hx,hg,if_neg (show ¬n.f.dir=false by rw[hdir];simp)]
    rw[e]
    repeat with_reducible first|refine Stp.go ?_|refine StpE.go E ?_|(refine StpA.go E ?_;clear E;intro b_ w_ hb_ E)
    (revert b_;intro t8 hbt8 E)
    refine(sorted_ok E).mono ?_
    clear E
    rintro r w_ ⟨a,rfl,E⟩
    obtain⟨L,hL⟩:=kidsL h hi n.f.path
    have hLl:L.length≤1024:=by
     have h1:=congrArg List.length hL.eq
     rw[List.length_map]at h1
     have:=kidsS_len hi n.f.path
     omega
    replace E:=E.nilSl Ty.t9 10
    -- slA,pt a,pt t8,pt q,tb,fm,gm,om,NT,DT,Pool,l
    (replace E:=(((((E.bIx 8).bIx 2).bIx 10).bIx 4).bIx 4))
    refine RFo.hs (rest:=pt q (oc [ptr n.blk,i64 x.mode,str x.user] Ty.t60)::tb X::mp X.fm (.int .i64) X.fM::mp X.gm .str X.gM::mp X.om (.int .i64) X.oM::DT X.ds::l) rfl b_sorted1 (sorted_iter h hi hn hdir hL) (λpre ks=>∃v,ks=[slA v Ty.t9 10 (dcs (pre.map λk=>k.f.stat)),pt t8 (oc [v] Ty.t66),Pool D]) (λ_ _ _=>False) (λ_ _=>False)
     (ks:=[slA (.slice none 0 0) Ty.t9 10 [],pt t8 (oc [.slice none 0 0] Ty.t66),Pool D]) E ⟨_,rfl⟩ ?_ ?_ (λ_ _ _ _ _ _ h _=>h.elim) (λ_ _ _ _ _ h _=>h.elim)
    ·clear E
     rintro r L0 D0 pre k w_ _ rest' Rn Re Rr hL0 hD0 hp ⟨v,rfl⟩ E hn2 - -
     simp only[List.cons_append,List.nil_append]at E
     have hkL:=List.mem_of_getElem? hp.2
     have hpl:pre.length<L.length:=(List.getElem?_eq_some_iff.1 hp.2).1
     repeat with_reducible first|refine Stp.go ?_|refine StpE.go E ?_|(refine StpW.go E ?_;clear E;intro w_ E)
     replace E:=E.bIx 6
     refine(stat_nt h (hL.mem k hkL) (by simp) E).mono ?_
     clear E
     rintro r w_ ⟨rfl,E⟩
     skip
     refine⟨by (repeat with_reducible refine StpE.go E ?_);rfl,?_⟩
     refine BdS.dir E ?_
     clear E
     intro v2 w_ E
     skip
     refine⟨by (repeat with_reducible refine StpE.go E ?_);rfl,?_⟩
     have hsl:=Src.slice (P:=PP) (E.sat (slA v2 Ty.t9 10 k.f.stat.cs) (by simp)) (n:=1) rfl (by omega) (dr_scal _)
     have hdl:=dcs_len (pre.map λk=>k.f.stat)
     rw[List.length_map]at hdl
     refine Ap.el E (i:=4) rfl u_sl_Dir ⟨_,u_sl_Dir,λ_ h=>by cases h⟩ e_Dir (by omega) hsl rfl (by rw[hdl];omega) (by rw[hdl];omega) ?_
     clear E
     intro s' w_ E
     (try simp only[List.set_cons_zero,List.set_cons_succ,List.cons_append,List.nil_append,Nat.zero_add,Nat.add_zero]at E)
     repeat with_reducible (refine StpW.go E ?_;clear E;intro w_ E)
     refine hn2 _ _ ⟨s',rfl⟩ ?_
     simp only[List.cons_append,List.nil_append]
     replace E:=E.tl
     (replace E:=(((((((E.bIx 0).bIx 6).bIx 6).bIx 6).bIx 6).bIx 6).bIx 6))
     rw[List.map_append,List.map_singleton,dcs_app]
     exact E
    ·clear E
     rintro D0 w_ xs _ hD0 hxs ⟨v,rfl⟩ E
     rw[hxs]at E
     simp only[List.cons_append,List.nil_append]at E
     repeat with_reducible first|refine Stp.go ?_|refine StpE.go E ?_|(refine StpW.go E ?_;clear E;intro w_ E)
     have e1:L.map (λk=>k.f.stat)=(T.kidsS n.f.path).map Nd.stat:=by rw[← hL.eq,List.map_map];rfl
     rw[e1]at E
     refine⟨_,rfl,?_⟩
     -- slA,pt t8,Pool,pt a,NT,pt q,tb,fm,gm,om,DT,l
     (replace E:=((((((((E.bIx 2).bIx 1).bIx 10).bIx 5).bIx 10).bIx 10).bIx 10).bIx 10))
     replace E:=Hs.closeT X E
     (replace E:=(((E.bIx 2).bIx 1).bIx 2))
     exact E.drop (List.Sublist.cons_cons _ (List.Sublist.cons_cons _ (List.Sublist.cons_cons _ (List.sublist_append_right [_,_,_] l))))
set_option maxRecDepth 100000
set_option linter.unusedVariables false
set_option linter.unusedSimpArgs false

structure Pl where
 t:Nat
 f:Int
 deriving DecidableEq
abbrev Pl.cs(p:Pl):List Value:=[i64 (p.t:Int),i64 p.f]
abbrev Pl.V(p:Pl):Value:=.agg p.cs.toArray
abbrev p0:Pl:=⟨0,0⟩

structure Mt where
 old:Pl
 new:List Pl
 cr:List Bool
 deriving DecidableEq

structure Tb where
 ts:List Nat
 ms:List Mt

structure Sp where
 user:BA
 dir:BA
 op:List (Int×List (Nat×Int))

structure Sy where
 Ts:List Tr
 tb:Tb
 sp:Sp
def nulT:Tr:=⟨[],0,0,[],[]⟩
def idxM(ms:List Mt)(p:Pl):Nat:=ms.findIdx λm=>decide (m.old=p)
def standM(ms:List Mt)(p:Pl):List Pl×List Bool:=match ms[idxM ms p]? with
 |some m=>(m.new,m.cr)
 |none=>([p],[true])

def Tb.ix(tb:Tb)(k:Nat):Nat:=tb.ts.getD k 0
def trW(Ts:List Tr)(i:Nat):Tr:=Ts.getD i nulT

def absA(dir path:BA):BA:=if absP path=true then path else dir++sep++path
def elemsA(dir path:BA):List BA×Int:=splitP (cleanS (absA dir path))

def stepW(Ts:List Tr)(tb:Tb)(user name:BA):List Pl→Option Int→Pl×Int
 |[],first=>(p0,first.getD 0)
 |p::r,first=>
  let x:=(trW Ts (tb.ix p.t)).walk user p.f name
  if x.2=0 then(⟨p.t,x.1.path⟩,0)else stepW Ts tb user name r (some (first.getD x.2))
def walkW(Ts:List Tr)(tb:Tb)(user:BA):List BA→Pl→Pl×Int
 |[],p=>(p,0)
 |name::r,p=>
  let x:=stepW Ts tb user name (standM tb.ms p).1 none
  if x.2=0 then walkW Ts tb user r x.1 else(p0,x.2)

def joinW{α:Type}(way:Int)(l was:List α):List α:=if way=1 then l++was else if way=2 then was++l else l

def setM(ms:List Mt)(old:Pl)(l:List Pl)(mark:Bool)(way:Int):List Mt×Int:=
 let l2:=joinW way l (standM ms old).1
 let c2:=joinW way (List.replicate l.length mark) (standM ms old).2
 if 16<l2.length∨(ms.length≤idxM ms old∧64≤ms.length)then(ms,3)else
 if idxM ms old<ms.length then(ms.set (idxM ms old) ⟨old,l2,c2⟩,0)else(ms++[⟨old,l2,c2⟩],0)

def wayF(flag:Int):Int:=clrI flag 4
def markF(flag:Int):Bool:=decide (andI flag 4≠0)
def flagOk(flag:Int):Bool:=decide (0≤flag∧wayF flag≤2)

def addD(out:List Dr)(d:Dr):List Dr:=if out.any (λx=>decide (x.name=d.name))then out else out++[d]

def freeN{α:Type}(L:List (Int×α)):Nat→Nat→Nat
 |0,n=>n
 |f+1,n=>if(getL L (n:Int)).isSome then freeN L f (n+1)else n
def closeW(Ts:List Tr):List (Nat×Int)→Int→List Tr×Int
 |[],first=>(Ts,first)
 |(k,h)::r,first=>
  let x:=(trW Ts k).close h
  closeW (Ts.set k x.1) r (if first=0 then x.2 else first)
def openW(Ts:List Tr)(tb:Tb)(user:BA)(mode:Int):List Pl→List (Nat×Int)→List Tr×List (Nat×Int)×Int
 |[],out=>(Ts,out,0)
 |p::r,out=>
  let k:=tb.ix p.t
  let x:=(trW Ts k).openF user p.f mode
  if x.2.2.2≠0 then((closeW (Ts.set k x.1) out 0).1,[],x.2.2.2)else openW (Ts.set k x.1) tb user mode r (out++[(k,x.2.1)])
def listW(Ts:List Tr):List (Nat×Int)→List Dr→List Dr×Int
 |[],out=>(out,0)
 |(k,h)::r,out=>
  let x:=(trW Ts k).list h
  if x.2≠0 then([],x.2)else listW Ts r (x.1.foldl addD out)
namespace Sy
def tr(y:Sy)(k:Nat):Tr:=trW y.Ts (y.tb.ix k)
def setT(y:Sy)(k:Nat)(T:Tr):Sy:={y with Ts:=y.Ts.set (y.tb.ix k) T}
def walk(y:Sy)(l:List BA):Pl×Int:=walkW y.Ts y.tb y.sp.user l p0
def elems(y:Sy)(path:BA):List BA×Int:=elemsA y.sp.dir path
def place(y:Sy)(path:BA):Pl×Int:=
 if(y.elems path).2≠0 then(p0,(y.elems path).2)else y.walk (y.elems path).1
def where_(y:Sy)(path:BA):List Pl×Int:=
 if(y.place path).2≠0 then([],(y.place path).2)else((standM y.tb.ms (y.place path).1).1,0)
def isDir(y:Sy)(p:Pl):Bool×Int:=
 let x:=(y.tr p.t).stat p.f
 (decide (andI x.1.mode 2147483648≠0),x.2)
def setMs(y:Sy)(x:List Mt×Int):Sy×Int:=({y with tb:={y.tb with ms:=x.1}},x.2)
def bind(y:Sy)(path old:BA)(flag:Int):Sy×Int:=
 if flagOk flag=false then(y,20)else
 let l:=y.where_ path
 if l.2≠0 then(y,l.2)else
 let p:=y.place old
 if p.2≠0 then(y,p.2)else
 let a:=y.isDir (l.1.getD 0 p0)
 if a.2≠0 then(y,a.2)else
 let b:=y.isDir p.1
 if b.2≠0 then(y,b.2)else
 if a.1≠b.1∨(wayF flag≠0∧b.1=false)then(y,18)else
 if wayF flag≠0∧l.1.any (λx=>decide (x∈(standM y.tb.ms p.1).1))=true then(y,5)else
 y.setMs (setM y.tb.ms p.1 l.1 (markF flag) (wayF flag))
def mount(y:Sy)(k:Option Nat)(old:BA)(flag:Int):Sy×Int:=
 match k with
 |none=>(y,1)
 |some k=>
  if flagOk flag=false then(y,20)else
  let p:=y.place old
  if p.2≠0 then(y,p.2)else
  let b:=y.isDir p.1
  if b.2≠0 then(y,b.2)else
  if b.1=false then(y,18)else
  if 32≤y.tb.ts.length then(y,3)else
  let x:=setM y.tb.ms p.1 [⟨y.tb.ts.length,0⟩] (markF flag) (wayF flag)
  if x.2≠0 then(y,x.2)else
  ({y with tb:=⟨y.tb.ts++[k],x.1⟩},0)
def unmount(y:Sy)(path old:BA):Sy×Int:=
 let p:=y.place old
 if p.2≠0 then(y,p.2)else
 let i:=idxM y.tb.ms p.1
 let q:=y.place path
 if path≠emp∧q.2≠0 then(y,q.2)else
 match y.tb.ms[i]? with
 |none=>(y,23)
 |some m=>
  if path=emp then y.setMs (y.tb.ms.eraseIdx i,0)else
  if q.1∉m.new then(y,23)else
  let n:=m.new.eraseIdx (m.new.idxOf q.1)
  if n≠[]∧n≠[p.1]then y.setMs (y.tb.ms.set i ⟨m.old,n,m.cr.eraseIdx (m.new.idxOf q.1)⟩,0)else
  y.setMs (y.tb.ms.eraseIdx i,0)
def chdir(y:Sy)(path:BA):Sy×Int:=
 let l:=y.where_ path
 if l.2≠0 then(y,l.2)else
 let p:=l.1.getD 0 p0
 let b:=y.isDir p
 if b.2≠0 then(y,b.2)else
 if b.1=false then(y,18)else
 let w:=(y.tr p.t).walk y.sp.user p.f dot1
 if w.2≠0 then(y,w.2)else
 ({y with sp:={y.sp with dir:=cleanS (absA y.sp.dir path)}},0)
def stat(y:Sy)(path:BA):Dr×Int:=
 let l:=y.where_ path
 if l.2≠0 then(d0,l.2)else
 let p:=l.1.getD 0 p0
 (y.tr p.t).stat p.f
def wstat(y:Sy)(path:BA)(d:Dr):Sy×Int:=
 let p:=y.place path
 if p.2≠0 then(y,p.2)else
 let x:=(y.tr p.1.t).wstat y.sp.user p.1.f d
 (y.setT p.1.t x.1,x.2)
def remove(y:Sy)(path:BA):Sy×Int:=
 let p:=y.place path
 if p.2≠0 then(y,p.2)else
 if idxM y.tb.ms p.1<y.tb.ms.length then(y,23)else
 let x:=(y.tr p.1.t).remove y.sp.user p.1.f
 (y.setT p.1.t x.1,x.2)

def add(y:Sy)(l:List (Nat×Int)):Sy×Int:=
 let n:Int:=(freeN y.sp.op (y.sp.op.length+1) 0:Nat)
 ({y with sp:={y.sp with op:=putL y.sp.op n l}},n)
def openF(y:Sy)(path:BA)(mode:Int):Sy×Int×Int:=
 let l:=y.where_ path
 if l.2≠0 then(y,0,l.2)else
 let b:=y.isDir (l.1.getD 0 p0)
 if b.2≠0 then(y,0,b.2)else
 if 64≤y.sp.op.length then(y,0,3)else
 let x:=openW y.Ts y.tb y.sp.user mode (if b.1=true then l.1 else l.1.take 1) []
 if x.2.2≠0 then({y with Ts:=x.1},0,x.2.2)else
 let z:=add {y with Ts:=x.1} x.2.1
 (z.1,z.2,0)
def create(y:Sy)(path:BA)(perm mode:Int):Sy×Int×Int:=
 let l:=y.elems path
 if l.2≠0 then(y,0,l.2)else
 if(y.walk l.1).2=0 then(y,0,5)else
 let p:=y.walk l.1.dropLast
 if p.2≠0 then(y,0,p.2)else
 let s:=standM y.tb.ms p.1
 if true∉s.2 then(y,0,17)else
 if 64≤y.sp.op.length then(y,0,3)else
 let q:=s.1.getD (s.2.idxOf true) p0
 let x:=(y.tr q.t).create y.sp.user q.f (l.1.getLast?.getD emp) perm mode
 if x.2.2.2≠0 then(y.setT q.t x.1,0,x.2.2.2)else
 let z:=add (y.setT q.t x.1) [(y.tb.ix q.t,x.2.1)]
 (z.1,z.2,0)
def opened(y:Sy)(n:Int):List (Nat×Int)×Int:=match getL y.sp.op n with
 |none=>([],19)
 |some l=>(l,0)

def single(y:Sy)(n:Int):(Nat×Int)×Int:=
 if(y.opened n).2≠0 then((0,0),(y.opened n).2)else
 if 1<(y.opened n).1.length then((0,0),18)else((y.opened n).1.getD 0 (0,0),0)
def read(y:Sy)(n off count:Int):BA×Int:=
 let h:=y.single n
 if h.2≠0 then(emp,h.2)else(trW y.Ts h.1.1).read h.1.2 off count
def write(y:Sy)(n off:Int)(d:BA):Sy×Int×Int:=
 let h:=y.single n
 if h.2≠0 then(y,0,h.2)else
 let x:=(trW y.Ts h.1.1).write h.1.2 off d
 ({y with Ts:=y.Ts.set h.1.1 x.1},x.2.1,x.2.2)
def list(y:Sy)(n:Int):List Dr×Int:=
 let l:=y.opened n
 if l.2≠0 then([],l.2)else listW y.Ts l.1 []
def close(y:Sy)(n:Int):Sy×Int:=
 let l:=y.opened n
 if l.2≠0 then(y,l.2)else
 let x:=closeW y.Ts l.1 0
 ({y with Ts:=x.1,sp:={y.sp with op:=delL y.sp.op n}},x.2)
end Sy

structure Xa where
 kind:Int
 number:Int
 flag:Int
 path:BA
 old:BA
 data:BA
 perm:Int
 offset:Int
 dir:Dr

structure Ra where
 number:Int:=0
 text:BA:=emp
 dirs:List Dr:=[]
 places:List Pl:=[]
 errno:Int:=0

def Xa.tree(x:Xa)(n:Nat):Option Nat:=if 0≤x.number∧x.number<n then some x.number.toNat else none
def Sy.act(y:Sy)(x:Xa):Sy×Ra:=
 if x.kind=0 then((y.bind x.path x.old x.flag).1,{errno:=(y.bind x.path x.old x.flag).2})else
 if x.kind=1 then((y.mount (x.tree y.Ts.length) x.old x.flag).1,{errno:=(y.mount (x.tree y.Ts.length) x.old x.flag).2})else
 if x.kind=2 then((y.unmount x.path x.old).1,{errno:=(y.unmount x.path x.old).2})else
 if x.kind=3 then((y.chdir x.path).1,{errno:=(y.chdir x.path).2})else
 if x.kind=4 then(y,{dirs:=[(y.stat x.path).1],errno:=(y.stat x.path).2})else
 if x.kind=5 then((y.wstat x.path x.dir).1,{errno:=(y.wstat x.path x.dir).2})else
 if x.kind=6 then((y.openF x.path x.flag).1,{number:=(y.openF x.path x.flag).2.1,errno:=(y.openF x.path x.flag).2.2})else
 if x.kind=7 then((y.create x.path x.perm x.flag).1,{number:=(y.create x.path x.perm x.flag).2.1,errno:=(y.create x.path x.perm x.flag).2.2})else
 if x.kind=8 then(y,{text:=(y.read x.number x.offset x.flag).1,errno:=(y.read x.number x.offset x.flag).2})else
 if x.kind=9 then(y,{dirs:=(y.list x.number).1,errno:=(y.list x.number).2})else
 if x.kind=10 then((y.write x.number x.offset x.data).1,{number:=(y.write x.number x.offset x.data).2.1,errno:=(y.write x.number x.offset x.data).2.2})else
 if x.kind=11 then((y.close x.number).1,{errno:=(y.close x.number).2})else
 if x.kind=12 then((y.remove x.path).1,{errno:=(y.remove x.path).2})else
 if x.kind=13 then(y,{places:=(y.where_ x.path).1,errno:=(y.where_ x.path).2})else(y,{})
set_option maxRecDepth 100000
set_option linter.unusedVariables false
set_option linter.unusedSimpArgs false

structure MtI(k:Nat)(m:Mt):Prop where
 ne:m.new≠[]
 few:m.new.length≤16
 cr:m.cr.length=m.new.length
 old:m.old.t<k
 new:∀p∈m.new,p.t<k
structure TbI(n:Nat)(tb:Tb):Prop where
 ne:tb.ts≠[]
 ts:tb.ts.length≤32
 ix:∀k∈tb.ts,k<n
 ms:tb.ms.length≤64
 m:∀m∈tb.ms,MtI tb.ts.length m
structure SpI (n : Nat) (sp : Sp) : Prop where
 user : sp.user.size≤1000
 dir : sp.dir.size≤2000
 few : sp.op.length≤64
 nd : (sp.op.map (·.1)).Nodup
 op : ∀ x∈sp.op,0≤x.1∧x.2 ≠ []∧x.2.length≤16∧∀ y∈x.2,y.1 < n
def TsI(N:Int)(Ts:List Tr):Prop:=∀T∈Ts,Inv T∧Lim N T
structure SyI(N:Int)(y:Sy):Prop where
 t:TsI N y.Ts
 tb:TbI y.Ts.length y.tb
 sp:SpI y.Ts.length y.sp
theorem trW_mem{Ts:List Tr}{k:Nat}(h:k<Ts.length):trW Ts k∈Ts:=by
 unfold trW
 rw[List.getD_eq_getElem?_getD,List.getElem?_eq_getElem h]
 exact List.getElem_mem h
theorem TbI.pos{n:Nat}{tb:Tb}(h:TbI n tb):0<tb.ts.length:=List.length_pos_iff.2 h.ne
theorem TbI.ixLt{n:Nat}{tb:Tb}(h:TbI n tb){k:Nat}(hk:k<tb.ts.length):tb.ix k<n:=by
 unfold Tb.ix
 rw[List.getD_eq_getElem?_getD,List.getElem?_eq_getElem hk]
 exact h.ix _ (List.getElem_mem hk)
theorem TsI.mono{N M:Int}{Ts:List Tr}(h:TsI N Ts)(hm:N≤M):TsI M Ts:=λT hT=>⟨(h T hT).1,(h T hT).2.mono hm⟩
theorem TsI.set{N:Int}{Ts:List Tr}(h:TsI N Ts){k:Nat}{T:Tr}(h1:Inv T)(h2:Lim (N+3) T):TsI (N+3) (Ts.set k T):=by
 intro U hU
 rcases List.mem_or_eq_of_mem_set hU with h3|rfl
 ·exact⟨(h U h3).1,(h U h3).2.mono (by omega)⟩
 ·exact⟨h1,h2⟩
theorem stand_ok{n:Nat}{tb:Tb}(h:TbI n tb){p:Pl}(hp:p.t<tb.ts.length):
  (standM tb.ms p).1≠[]∧(standM tb.ms p).1.length≤16∧(standM tb.ms p).2.length=(standM tb.ms p).1.length∧∀q∈(standM tb.ms p).1,q.t<tb.ts.length:=by
 unfold standM
 cases hm:tb.ms[idxM tb.ms p]? with
 |none=>exact⟨by simp,by simp,rfl,λq hq=>by rw[List.mem_singleton.1 hq];exact hp⟩
 |some m=>
  have:=h.m m (List.mem_of_getElem? hm)
  exact⟨this.ne,this.few,this.cr,this.new⟩
theorem stepW_ok{Ts:List Tr}{tb:Tb}{user name:BA}:∀{l:List Pl} {first:Option Int},(∀e,first=some e→e≠0)→(l=[]→first≠none)→
  ((stepW Ts tb user name l first).2=0→∃p∈l,(stepW Ts tb user name l first).1.t=p.t)
 |[],first,h1,h2,h=>by
  cases first with
  |none=>exact absurd rfl (h2 rfl)
  |some e=>exact absurd h (h1 e rfl)
 |p::r,first,h1,h2,h=>by
  unfold stepW at h ⊢
  simp only[]at h ⊢
  split at h
  ·rename_i he
   rw[if_pos he]
   exact⟨p,List.mem_cons_self,rfl⟩
  ·rename_i he
   rw[if_neg he]
   obtain⟨q,hq,h3⟩:=stepW_ok (l:=r) (first:=some (first.getD ((trW Ts (tb.ix p.t)).walk user p.f name).2)) (λe h4=>by
    cases h4
    cases first with
    |none=>exact he
    |some e=>exact h1 e rfl) (λ_ h4=>by cases h4) h
   exact⟨q,List.mem_cons_of_mem _ hq,h3⟩
theorem walkW_ok{n:Nat}{Ts:List Tr}{tb:Tb}(h:TbI n tb){user:BA}:∀{l:List BA} {p:Pl},p.t<tb.ts.length→(walkW Ts tb user l p).1.t<tb.ts.length
 |[],p,hp=>hp
 |name::r,p,hp=>by
  unfold walkW
  simp only[]
  have hs:=stand_ok h hp
  split
  ·rename_i he
   refine walkW_ok h ?_
   obtain⟨q,hq,h3⟩:=stepW_ok (λe h4=>by cases h4) (λh4=>absurd h4 hs.1) he
   rw[h3]
   exact hs.2.2.2 q hq
  ·exact h.pos
theorem place_ok{N:Int}{y:Sy}(h:SyI N y)(path:BA):(y.place path).1.t<y.tb.ts.length:=by
 unfold Sy.place
 split
 ·exact h.tb.pos
 ·exact walkW_ok h.tb h.tb.pos
theorem where_ok{N:Int}{y:Sy}(h:SyI N y)(path:BA):(y.where_ path).1.length≤16∧(∀q∈(y.where_ path).1,q.t<y.tb.ts.length)∧((y.where_ path).2=0→(y.where_ path).1≠[]):=by
 unfold Sy.where_
 have hs:=stand_ok h.tb (place_ok h path)
 split
 ·rename_i he
  exact⟨Nat.zero_le _,(λq hq=>by cases hq),λh4=>absurd h4 he⟩
 ·exact⟨hs.2.1,hs.2.2.2,λ_=>hs.1⟩
theorem getD_mem{α:Type}{l:List α}{i:Nat}(h:i<l.length)(d:α):l.getD i d∈l:=by
 rw[List.getD_eq_getElem?_getD,List.getElem?_eq_getElem h]
 exact List.getElem_mem h
theorem head_ok{N:Int}{y:Sy}(h:SyI N y){path:BA}(he:(y.where_ path).2=0):((y.where_ path).1.getD 0 p0).t<y.tb.ts.length:=by
 have hw:=where_ok h path
 exact hw.2.1 _ (getD_mem (List.length_pos_iff.2 (hw.2.2 he)) _)
theorem setM_ok{n:Nat}{tb:Tb}(h:TbI n tb){old:Pl}{l:List Pl}{mark:Bool}{way:Int}{k:Nat}(hk:tb.ts.length≤k)(ho:old.t<tb.ts.length)(h0:l≠[])(hl:∀p∈l,p.t<k):
  (setM tb.ms old l mark way).1.length≤64∧∀m∈(setM tb.ms old l mark way).1,MtI k m:=by
 have keep:∀m∈tb.ms,MtI k m:=λm hm=>by
  have:=h.m m hm
  exact⟨this.ne,this.few,this.cr,by have:=this.old;omega,λp hp=>by have:=this.new p hp;omega⟩
 obtain⟨s1,s2,s3,s4⟩:=stand_ok h ho
 unfold setM
 simp only[]
 have hne:joinW way l (standM tb.ms old).1≠[]:=by
  unfold joinW
  split
  ·simp[h0]
  ·split<;>simp[h0]
 have hmem:∀p∈joinW way l (standM tb.ms old).1,p.t<k:=by
  intro p hp
  unfold joinW at hp
  split at hp
  ·rcases List.mem_append.1 hp with hp|hp
   ·exact hl p hp
   ·have:=s4 p hp;omega
  ·split at hp
   ·rcases List.mem_append.1 hp with hp|hp
    ·have:=s4 p hp;omega
    ·exact hl p hp
   ·exact hl p hp
 have hlen:(joinW way (List.replicate l.length mark) (standM tb.ms old).2).length=(joinW way l (standM tb.ms old).1).length:=by
  unfold joinW
  split
  ·simp[s3]
  ·split<;>simp[s3]
 generalize joinW way l (standM tb.ms old).1=l2 at*
 generalize joinW way (List.replicate l.length mark) (standM tb.ms old).2=c2 at*
 split
 ·exact⟨h.ms,keep⟩
 ·rename_i hc
  rw[not_or]at hc
  have hm:MtI k ⟨old,l2,c2⟩:=⟨hne,Nat.not_lt.1 hc.1,hlen,by show old.t<k;omega,hmem⟩
  split
  ·refine⟨by rw[List.length_set];exact h.ms,λm h1=>?_⟩
   rcases List.mem_or_eq_of_mem_set h1 with h2|rfl
   ·exact keep m h2
   ·exact hm
  ·rename_i hi
   refine⟨by rw[List.length_append];have:=hc.2;simp only[List.length_singleton];omega,λm h1=>?_⟩
   rcases List.mem_append.1 h1 with h2|h2
   ·exact keep m h2
   ·rw[List.mem_singleton.1 h2];exact hm
theorem SyI.ms{N:Int}{y:Sy}(h:SyI N y){ms:List Mt}(h1:ms.length≤64)(h2:∀m∈ms,MtI y.tb.ts.length m):SyI N {y with tb:={y.tb with ms:=ms}}:=
 ⟨h.t,⟨h.tb.ne,h.tb.ts,h.tb.ix,h1,h2⟩,h.sp⟩
theorem bind_inv{N:Int}{y:Sy}(h:SyI N y)(path old:BA)(flag:Int):SyI N (y.bind path old flag).1:=by
 unfold Sy.bind
 simp only[]
 repeat' split
 all_goals first|exact h|skip
 rename_i h1 h2 h3 h4 h5 h6
 have hw:=where_ok h path
 have hs:=setM_ok h.tb (k:=y.tb.ts.length) (mark:=markF flag) (way:=wayF flag) (Nat.le_refl _) (place_ok h old) (hw.2.2 (by simpa using ‹¬(y.where_ path).2≠0›)) hw.2.1
 exact h.ms hs.1 hs.2
set_option maxRecDepth 100000
set_option linter.unusedVariables false
set_option linter.unusedSimpArgs false
variable {y:Sy}
theorem setM_err{ms:List Mt}{old:Pl}{l:List Pl}{mark:Bool}{way:Int}(h:(setM ms old l mark way).2≠0):(setM ms old l mark way).1=ms:=by
 unfold setM at h ⊢
 simp only[]at h ⊢
 split
 ·rfl
 ·rename_i h1
  rw[if_neg h1]at h
  split at h<;>exact absurd rfl h
theorem bind_err0(path old:BA)(flag:Int):(y.bind path old flag).2=0∨(y.bind path old flag).1=y:=by
 unfold Sy.bind
 simp only[]
 repeat' split
 all_goals first|exact .inr rfl|skip
 unfold Sy.setMs
 by_cases h:(setM y.tb.ms (y.place old).1 (y.where_ path).1 (markF flag) (wayF flag)).2=0
 ·exact .inl h
 ·exact .inr (by rw[setM_err h])
theorem bind_err{path old:BA}{flag:Int}(h:(y.bind path old flag).2≠0):(y.bind path old flag).1=y:=(bind_err0 path old flag).resolve_left h
theorem bind_keep(path old:BA)(flag:Int):(y.bind path old flag).1.sp=y.sp∧(y.bind path old flag).1.Ts=y.Ts∧(y.bind path old flag).1.tb.ts=y.tb.ts:=by
 unfold Sy.bind
 simp only[]
 repeat' split
 all_goals exact⟨rfl,rfl,rfl⟩
theorem mount_err{k:Option Nat}{old:BA}{flag:Int}(h:(y.mount k old flag).2≠0):(y.mount k old flag).1=y:=by
 refine Or.resolve_left (?_:(y.mount k old flag).2=0∨(y.mount k old flag).1=y) h
 clear h
 unfold Sy.mount
 cases k with
 |none=>exact .inr rfl
 |some k=>
  simp only[]
  repeat' split
  all_goals first|exact .inr rfl|exact .inl rfl
theorem mount_keep(k:Option Nat)(old:BA)(flag:Int):(y.mount k old flag).1.sp=y.sp∧(y.mount k old flag).1.Ts=y.Ts:=by
 unfold Sy.mount
 cases k with
 |none=>exact⟨rfl,rfl⟩
 |some k=>
  simp only[]
  repeat' split
  all_goals exact⟨rfl,rfl⟩
theorem unmount_keep(path old:BA):(y.unmount path old).1.sp=y.sp∧(y.unmount path old).1.Ts=y.Ts∧(y.unmount path old).1.tb.ts=y.tb.ts:=by
 unfold Sy.unmount
 simp only[]
 repeat' split
 all_goals exact⟨rfl,rfl,rfl⟩
theorem chdir_keep(path:BA):(y.chdir path).1.tb=y.tb∧(y.chdir path).1.Ts=y.Ts∧(y.chdir path).1.sp.user=y.sp.user∧(y.chdir path).1.sp.op=y.sp.op:=by
 unfold Sy.chdir
 simp only[]
 repeat' split
 all_goals exact⟨rfl,rfl,rfl,rfl⟩
theorem wstat_keep(path:BA)(d:Dr):(y.wstat path d).1.tb=y.tb∧(y.wstat path d).1.sp=y.sp:=by
 unfold Sy.wstat
 simp only[]
 repeat' split
 all_goals exact⟨rfl,rfl⟩
theorem remove_keep(path:BA):(y.remove path).1.tb=y.tb∧(y.remove path).1.sp=y.sp:=by
 unfold Sy.remove
 simp only[]
 repeat' split
 all_goals exact⟨rfl,rfl⟩
theorem open_keep(path:BA)(mode:Int):(y.openF path mode).1.tb=y.tb∧(y.openF path mode).1.sp.dir=y.sp.dir∧(y.openF path mode).1.sp.user=y.sp.user:=by
 unfold Sy.openF
 simp only[]
 repeat' split
 all_goals exact⟨rfl,rfl,rfl⟩
theorem create_keep(path:BA)(perm mode:Int):(y.create path perm mode).1.tb=y.tb∧(y.create path perm mode).1.sp.dir=y.sp.dir∧(y.create path perm mode).1.sp.user=y.sp.user:=by
 unfold Sy.create
 simp only[]
 repeat' split
 all_goals exact⟨rfl,rfl,rfl⟩
theorem write_keep(n off:Int)(d:BA):(y.write n off d).1.tb=y.tb∧(y.write n off d).1.sp=y.sp:=by
 unfold Sy.write
 simp only[]
 repeat' split
 all_goals exact⟨rfl,rfl⟩
theorem close_keep(n:Int):(y.close n).1.tb=y.tb∧(y.close n).1.sp.dir=y.sp.dir∧(y.close n).1.sp.user=y.sp.user:=by
 unfold Sy.close
 simp only[]
 repeat' split
 all_goals exact⟨rfl,rfl,rfl⟩
theorem act_elim(y:Sy)(x:Xa){P:Sy×Ra→Prop}
  (h0:x.kind=0→P ((y.bind x.path x.old x.flag).1,{errno:=(y.bind x.path x.old x.flag).2}))
  (h1:x.kind=1→P ((y.mount (x.tree y.Ts.length) x.old x.flag).1,{errno:=(y.mount (x.tree y.Ts.length) x.old x.flag).2}))
  (h2:x.kind=2→P ((y.unmount x.path x.old).1,{errno:=(y.unmount x.path x.old).2}))
  (h3:x.kind=3→P ((y.chdir x.path).1,{errno:=(y.chdir x.path).2}))
  (h4:x.kind=4→P (y,{dirs:=[(y.stat x.path).1],errno:=(y.stat x.path).2}))
  (h5:x.kind=5→P ((y.wstat x.path x.dir).1,{errno:=(y.wstat x.path x.dir).2}))
  (h6:x.kind=6→P ((y.openF x.path x.flag).1,{number:=(y.openF x.path x.flag).2.1,errno:=(y.openF x.path x.flag).2.2}))
  (h7:x.kind=7→P ((y.create x.path x.perm x.flag).1,{number:=(y.create x.path x.perm x.flag).2.1,errno:=(y.create x.path x.perm x.flag).2.2}))
  (h8:x.kind=8→P (y,{text:=(y.read x.number x.offset x.flag).1,errno:=(y.read x.number x.offset x.flag).2}))
  (h9:x.kind=9→P (y,{dirs:=(y.list x.number).1,errno:=(y.list x.number).2}))
  (h10:x.kind=10→P ((y.write x.number x.offset x.data).1,{number:=(y.write x.number x.offset x.data).2.1,errno:=(y.write x.number x.offset x.data).2.2}))
  (h11:x.kind=11→P ((y.close x.number).1,{errno:=(y.close x.number).2}))
  (h12:x.kind=12→P ((y.remove x.path).1,{errno:=(y.remove x.path).2}))
  (h13:x.kind=13→P (y,{places:=(y.where_ x.path).1,errno:=(y.where_ x.path).2}))
  (h14:¬(0≤x.kind∧x.kind<14)→P (y,{})):P (y.act x):=by
 unfold Sy.act
 by_cases c0:x.kind=0
 ·rw[if_pos c0];exact h0 c0
 rw[if_neg c0]
 by_cases c1:x.kind=1
 ·rw[if_pos c1];exact h1 c1
 rw[if_neg c1]
 by_cases c2:x.kind=2
 ·rw[if_pos c2];exact h2 c2
 rw[if_neg c2]
 by_cases c3:x.kind=3
 ·rw[if_pos c3];exact h3 c3
 rw[if_neg c3]
 by_cases c4:x.kind=4
 ·rw[if_pos c4];exact h4 c4
 rw[if_neg c4]
 by_cases c5:x.kind=5
 ·rw[if_pos c5];exact h5 c5
 rw[if_neg c5]
 by_cases c6:x.kind=6
 ·rw[if_pos c6];exact h6 c6
 rw[if_neg c6]
 by_cases c7:x.kind=7
 ·rw[if_pos c7];exact h7 c7
 rw[if_neg c7]
 by_cases c8:x.kind=8
 ·rw[if_pos c8];exact h8 c8
 rw[if_neg c8]
 by_cases c9:x.kind=9
 ·rw[if_pos c9];exact h9 c9
 rw[if_neg c9]
 by_cases c10:x.kind=10
 ·rw[if_pos c10];exact h10 c10
 rw[if_neg c10]
 by_cases c11:x.kind=11
 ·rw[if_pos c11];exact h11 c11
 rw[if_neg c11]
 by_cases c12:x.kind=12
 ·rw[if_pos c12];exact h12 c12
 rw[if_neg c12]
 by_cases c13:x.kind=13
 ·rw[if_pos c13];exact h13 c13
 rw[if_neg c13]
 exact h14 (by omega)
set_option maxRecDepth 100000
set_option linter.unusedVariables false
set_option linter.unusedSimpArgs false
variable {N:Int} {y:Sy}
theorem mount_inv(h:SyI N y)(k:Option Nat)(hk:∀i,k=some i→i<y.Ts.length)(old:BA)(flag:Int):SyI N (y.mount k old flag).1:=by
 unfold Sy.mount
 cases k with
 |none=>exact h
 |some k=>
 simp only[]
 split
 ·exact h
 split
 ·exact h
 split
 ·exact h
 split
 ·exact h
 split
 ·exact h
 split
 ·exact h
 rename_i h1 h2 h3 h4 h5 h6
 have hs:=setM_ok h.tb (l:=[⟨y.tb.ts.length,0⟩]) (k:=y.tb.ts.length+1) (mark:=markF flag) (way:=wayF flag) (Nat.le_succ _) (place_ok h old) (by simp) (λp hp=>by rw[List.mem_singleton.1 hp];exact Nat.lt_succ_self _)
 refine⟨h.t,⟨by simp,by simp only[List.length_append,List.length_singleton];omega,λi hi=>?_,hs.1,λm hm=>?_⟩,h.sp⟩
 ·rcases List.mem_append.1 hi with hi|hi
  ·exact h.tb.ix i hi
  ·rw[List.mem_singleton.1 hi];exact hk k rfl
 ·have:=hs.2 m hm
  rwa [show(y.tb.ts++[k]).length=y.tb.ts.length+1 by simp]
theorem mtI_erase{k:Nat}{m:Mt}(h:MtI k m){i:Nat}(h0:m.new.eraseIdx i≠[]):MtI k ⟨m.old,m.new.eraseIdx i,m.cr.eraseIdx i⟩:=by
 refine⟨h0,Nat.le_trans (List.length_eraseIdx_le _ _) h.few,?_,h.old,λp hp=>h.new p (List.mem_of_mem_eraseIdx hp)⟩
 show(m.cr.eraseIdx i).length=(m.new.eraseIdx i).length
 rw[List.length_eraseIdx,List.length_eraseIdx,h.cr]
theorem unmount_inv(h:SyI N y)(path old:BA):SyI N (y.unmount path old).1:=by
 have er:SyI N {y with tb:={y.tb with ms:=y.tb.ms.eraseIdx (idxM y.tb.ms (y.place old).1)}}:=
  h.ms (Nat.le_trans (List.length_eraseIdx_le _ _) h.tb.ms) λm hm=>h.tb.m m (List.mem_of_mem_eraseIdx hm)
 unfold Sy.unmount
 simp only[]
 split
 ·exact h
 split
 ·exact h
 split
 ·exact h
 rename_i m hm
 split
 ·exact er
 split
 ·exact h
 split
 ·rename_i h0
  refine h.ms (by rw[List.length_set];exact h.tb.ms) λm' h1=>?_
  rcases List.mem_or_eq_of_mem_set h1 with h2|rfl
  ·exact h.tb.m m' h2
  ·exact mtI_erase (h.tb.m m (List.mem_of_getElem? hm)) h0.1
 ·exact er
theorem elems_size{dir path:BA}(h:(elemsA dir path).2=0):(cleanS (absA dir path)).size≤1024:=by
 unfold elemsA splitP at h
 split at h
 ·exact absurd h (by decide)
 ·omega
theorem place_elems{path:BA}(h:(y.place path).2=0):(y.elems path).2=0:=by
 unfold Sy.place at h
 split at h
 ·rename_i h1
  exact absurd h h1
 ·rename_i h1
  exact Decidable.not_not.1 h1
theorem where_place{path:BA}(h:(y.where_ path).2=0):(y.place path).2=0:=by
 unfold Sy.where_ at h
 split at h
 ·rename_i h1
  exact absurd h h1
 ·rename_i h1
  exact Decidable.not_not.1 h1
theorem chdir_inv(h:SyI N y)(path:BA):SyI N (y.chdir path).1:=by
 unfold Sy.chdir
 simp only[]
 split
 ·exact h
 rename_i h1
 split
 ·exact h
 split
 ·exact h
 split
 ·exact h
 have hs:(cleanS (absA y.sp.dir path)).size≤1024:=elems_size (place_elems (where_place (Decidable.not_not.1 h1)))
 exact⟨h.t,h.tb,⟨h.sp.user,by show(cleanS (absA y.sp.dir path)).size≤2000;omega,h.sp.few,h.sp.nd,h.sp.op⟩⟩
theorem SyI.setTs{M:Int}{Ts:List Tr}(h:SyI N y)(h1:TsI M Ts)(h2:Ts.length=y.Ts.length):SyI M {y with Ts:=Ts}:=
 ⟨h1,by rw[h2];exact h.tb,by rw[h2];exact h.sp⟩
theorem SyI.mono{M:Int}(h:SyI N y)(hm:N≤M):SyI M y:=⟨h.t.mono hm,h.tb,h.sp⟩
theorem closeW_ok:∀{l:List (Nat×Int)} {Ts:List Tr} {first:Int} {N:Int},TsI N Ts→(∀x∈l,x.1<Ts.length)→
  TsI (N+3*l.length) (closeW Ts l first).1∧(closeW Ts l first).1.length=Ts.length
 |[],Ts,first,N,h,_=>⟨h.mono (by simp),rfl⟩
 |(k,hd)::r,Ts,first,N,h,hl=>by
  have hT:=h _ (trW_mem (hl (k,hd) List.mem_cons_self))
  unfold closeW
  have ih:=closeW_ok (l:=r) (Ts:=Ts.set k ((trW Ts k).close hd).1) (first:=if first=0 then((trW Ts k).close hd).2 else first) (h.set (k:=k) (close_inv hT.1 hd) (close_lim hT.2 hd)) (λx hx=>by rw[List.length_set];exact hl x (List.mem_cons_of_mem _ hx))
  rw[List.length_set]at ih
  refine⟨ih.1.mono ?_,ih.2⟩
  rw[List.length_cons]
  omega
theorem openW_ok{n:Nat}{tb:Tb}{user:BA}{mode:Int}(htb:TbI n tb):∀{l:List Pl} {out:List (Nat×Int)} {Ts:List Tr} {N:Int},Ts.length=n→TsI N Ts→(∀p∈l,p.t<tb.ts.length)→(∀x∈out,x.1<n)→
  TsI (N+3*(2*l.length+out.length)) (openW Ts tb user mode l out).1∧(openW Ts tb user mode l out).1.length=n∧(∀x∈(openW Ts tb user mode l out).2.1,x.1<n)∧
  ((openW Ts tb user mode l out).2.2=0→(openW Ts tb user mode l out).2.1.length=out.length+l.length)
 |[],out,Ts,N,hn,h,_,ho=>⟨h.mono (by simp;omega),hn,ho,λ_=>rfl⟩
 |p::r,out,Ts,N,hn,h,hl,ho=>by
  have hk:=htb.ixLt (hl p List.mem_cons_self)
  have hT:=h _ (trW_mem (by rw[hn];exact hk))
  have hs:=h.set (k:=tb.ix p.t) (open_inv hT.1 user p.f mode) (open_lim hT.2 user p.f mode)
  unfold openW
  simp only[]
  split
  ·rename_i he
   have hc:=closeW_ok (l:=out) (first:=0) hs (λx hx=>by rw[List.length_set,hn];exact ho x hx)
   rw[List.length_set]at hc
   refine⟨hc.1.mono ?_,by rw[hc.2,hn],(λx hx=>by cases hx),λh1=>absurd h1 he⟩
   rw[List.length_cons]
   omega
  ·have ih:=openW_ok (user:=user) (mode:=mode) htb (l:=r) (out:=out++[(tb.ix p.t,((trW Ts (tb.ix p.t)).openF user p.f mode).2.1)]) (by rw[List.length_set,hn]) hs (λq hq=>hl q (List.mem_cons_of_mem _ hq)) (λx hx=>by
    rcases List.mem_append.1 hx with hx|hx
    ·exact ho x hx
    ·rw[List.mem_singleton.1 hx];exact hk)
   refine⟨ih.1.mono ?_,ih.2.1,ih.2.2.1,λh1=>?_⟩
   ·rw[List.length_cons,List.length_append,List.length_singleton]
    omega
   ·rw[ih.2.2.2 h1,List.length_append,List.length_singleton,List.length_cons]
    omega
theorem freeN_ok {α : Type} (L : List (Int × α)) : ∀ (f n : Nat),L.length < f + (L.filter fun x=>decide (0≤x.1∧x.1 < (n : Int))).length→(L.map (·.1)).Nodup→getL L (freeN L f n : Nat) = none∧n≤freeN L f n∧∀ j : Nat,n≤j→j < freeN L f n→(getL L (j : Int)).isSome
 | 0,n,h,_=>by
  have:=List.length_filter_le (fun x : Int × α=>decide (0≤x.1∧x.1 < (n : Int))) L
  omega
 | f + 1,n,h,hn=>by
  unfold freeN
  split
  ·rename_i hs
   obtain ⟨v,hv⟩:=Option.isSome_iff_exists.1 hs
   have hm : ((n : Int),v)∈L:=(getL_some hn).1 hv
   have hlt : (L.filter fun x=>decide (0≤x.1∧x.1 < (n : Int))).length < (L.filter fun x=>decide (0≤x.1∧x.1 < ((n + 1 : Nat) : Int))).length:=by
    have key : ∀ L : List (Int × α),((n : Int),v)∈L→(L.filter fun x=>decide (0≤x.1∧x.1 < (n : Int))).length < (L.filter fun x=>decide (0≤x.1∧x.1 < ((n + 1 : Nat) : Int))).length:=by
     have le : ∀ L : List (Int × α),(L.filter fun x=>decide (0≤x.1∧x.1 < (n : Int))).length≤(L.filter fun x=>decide (0≤x.1∧x.1 < ((n + 1 : Nat) : Int))).length:=by
      intro L
      induction L with
      | nil=>exact Nat.le_refl _
      | cons x r ih =>
       rw [List.filter_cons,List.filter_cons]
       by_cases h1 : 0≤x.1∧x.1 < (n : Int)
       ·rw [if_pos (by simpa using h1),if_pos (by simp; omega)]; simpa using ih
       ·rw [if_neg (by simpa using h1)]
        split
        ·rw [List.length_cons]; omega
        ·exact ih
     intro L
     induction L with
     | nil=>intro h; cases h
     | cons x r ih =>
      intro hm
      rw [List.filter_cons,List.filter_cons]
      rcases List.mem_cons.1 hm with rfl | hm
      ·rw [if_neg (by simp),if_pos (by simp; omega),List.length_cons]
       have:=le r
       omega
      ·have:=ih hm
       by_cases h1 : 0≤x.1∧x.1 < (n : Int)
       ·rw [if_pos (by simpa using h1),if_pos (by simp; omega)]; simpa using this
       ·rw [if_neg (by simpa using h1)]
        split
        ·rw [List.length_cons]; omega
        ·exact this
    exact key L hm
   obtain ⟨g1,g2,g3⟩:=freeN_ok L f (n + 1) (by omega) hn
   refine ⟨g1,by omega,fun j h1 h2=>?_⟩
   by_cases hj : j = n
   ·rw [hj]; exact hs
   ·exact g3 j (by omega) h2
  ·rename_i hs
   refine ⟨by simpa using hs,Nat.le_refl _,fun j h1 h2=>by omega⟩
theorem putL_len {α : Type} {L : List (Int × α)} {k : Int} {v : α} (h : getL L k = none) : (putL L k v).length = L.length + 1∧(putL L k v).map (·.1) = L.map (·.1)++[k]∧∀ x∈putL L k v,x∈L∨x = (k,v):=by
 have hk:=getL_none.1 h
 clear h
 induction L with
 | nil=>exact ⟨rfl,rfl,fun x hx=>.inr (List.mem_singleton.1 hx)⟩
 | cons p r ih =>
  rw [List.map_cons,List.mem_cons,not_or] at hk
  unfold putL
  rw [if_neg hk.1]
  obtain ⟨h1,h2,h3⟩:=ih hk.2
  refine ⟨by rw [List.length_cons,h1]; rfl,by rw [List.map_cons,h2]; rfl,fun x hx=>?_⟩
  rcases List.mem_cons.1 hx with rfl | hx
  ·exact .inl List.mem_cons_self
  ·exact (h3 x hx).imp (List.mem_cons_of_mem _) id
theorem add_inv(h:SyI N y)(h64:y.sp.op.length<64){l:List (Nat×Int)}(h0:l≠[])(h16:l.length≤16)(hl:∀x∈l,x.1<y.Ts.length):SyI N (y.add l).1:=by
 have hf:=freeN_ok y.sp.op (y.sp.op.length+1) 0 (by omega) h.sp.nd
 obtain⟨h1,h2,h3⟩:=putL_len (v:=l) hf.1
 refine⟨h.t,h.tb,⟨h.sp.user,h.sp.dir,?_,?_,λx hx=>?_⟩⟩
 ·show(putL _ _ _).length≤64
  rw[h1];omega
 ·show((putL _ _ _).map _).Nodup
  rw[h2,List.nodup_append]
  refine⟨h.sp.nd,by simp,λa ha b hb hab=>?_⟩
  rw[List.mem_singleton.1 hb]at hab
  rw[hab]at ha
  exact getL_none.1 hf.1 ha
 ·rcases h3 x hx with h4|rfl
  ·exact h.sp.op x h4
  ·exact⟨Int.natCast_nonneg _,h0,h16,hl⟩
theorem wstat_invS(h:SyI N y)(path:BA)(d:Dr):SyI (N+3) (y.wstat path d).1:=by
 unfold Sy.wstat
 simp only[]
 split
 ·exact h.mono (by omega)
 ·have hT:=h.t _ (trW_mem (h.tb.ixLt (place_ok h path)))
  exact h.setTs (h.t.set (wstat_inv hT.1 _ _ _) (wstat_lim hT.2 _ _ _)) List.length_set
theorem remove_invS(h:SyI N y)(path:BA):SyI (N+3) (y.remove path).1:=by
 unfold Sy.remove
 simp only[]
 split
 ·exact h.mono (by omega)
 split
 ·exact h.mono (by omega)
 ·have hT:=h.t _ (trW_mem (h.tb.ixLt (place_ok h path)))
  exact h.setTs (h.t.set (remove_inv hT.1 _ _) (remove_lim hT.2 _ _)) List.length_set
theorem open_invS(h:SyI N y)(path:BA)(mode:Int):SyI (N+100) (y.openF path mode).1:=by
 unfold Sy.openF
 simp only[]
 split
 ·exact h.mono (by omega)
 rename_i h1
 have hw:=where_ok h path
 split
 ·exact h.mono (by omega)
 split
 ·exact h.mono (by omega)
 rename_i h2 h3
 generalize hL:(if(y.isDir ((y.where_ path).1.getD 0 p0)).1=true then(y.where_ path).1 else(y.where_ path).1.take 1)=L
 have hne:(y.where_ path).1≠[]:=hw.2.2 (Decidable.not_not.1 h1)
 have hLl:L.length≤16∧L≠[]∧∀p∈L,p.t<y.tb.ts.length:=by
  rw[← hL]
  split
  ·exact⟨hw.1,hne,hw.2.1⟩
  ·refine⟨by rw[List.length_take];omega,?_,λp hp=>hw.2.1 p (List.mem_of_mem_take hp)⟩
   cases hx:(y.where_ path).1 with
   |nil=>exact absurd hx hne
   |cons a b=>simp
 obtain⟨o1,o2,o3,o4⟩:=openW_ok (user:=y.sp.user) (mode:=mode) h.tb (l:=L) (out:=[]) rfl h.t hLl.2.2 (λx hx=>by cases hx)
 have o1:TsI (N+100) (openW y.Ts y.tb y.sp.user mode L []).1:=o1.mono (by have:=hLl.1;simp only[List.length_nil];omega)
 split
 ·exact h.setTs o1 o2
 ·rename_i h4
  have hl:=o4 (Decidable.not_not.1 h4)
  rw[List.length_nil,Nat.zero_add]at hl
  refine add_inv (h.setTs o1 o2) (by show y.sp.op.length<64;omega) ?_ (by rw[hl];exact hLl.1) (λx hx=>by show x.1<(openW y.Ts y.tb y.sp.user mode L []).1.length;rw[o2];exact o3 x hx)
  intro h5
  rw[h5]at hl
  exact hLl.2.1 (List.length_eq_zero_iff.1 hl.symm)
theorem create_invS(h:SyI N y)(h0:0≤N)(path:BA)(perm mode:Int):SyI (N+3) (y.create path perm mode).1:=by
 unfold Sy.create
 simp only[]
 split
 ·exact h.mono (by omega)
 split
 ·exact h.mono (by omega)
 split
 ·exact h.mono (by omega)
 split
 ·exact h.mono (by omega)
 split
 ·exact h.mono (by omega)
 rename_i h1 h2 h3 h4 h5
 have hp:(y.walk (y.elems path).1.dropLast).1.t<y.tb.ts.length:=walkW_ok h.tb h.tb.pos
 obtain⟨s1,s2,s3,s4⟩:=stand_ok h.tb hp
 have hi:(standM y.tb.ms (y.walk (y.elems path).1.dropLast).1).2.idxOf true<(standM y.tb.ms (y.walk (y.elems path).1.dropLast).1).1.length:=by
  rw[← s3]
  exact List.idxOf_lt_length_of_mem (Decidable.not_not.1 h4)
 have hq:=s4 _ (getD_mem hi p0)
 generalize (standM y.tb.ms (y.walk (y.elems path).1.dropLast).1).1.getD ((standM y.tb.ms (y.walk (y.elems path).1.dropLast).1).2.idxOf true) p0=q at*
 have hk:=h.tb.ixLt hq
 have hT:=h.t _ (trW_mem hk)
 have hs:∀(nm:BA),SyI (N+3) (y.setT q.t ((y.tr q.t).create y.sp.user q.f nm perm mode).1):=λnm=>h.setTs (Ts:=y.Ts.set (y.tb.ix q.t) ((trW y.Ts (y.tb.ix q.t)).create y.sp.user q.f nm perm mode).1) (h.t.set (create_inv hT.1 _ _ _ _ _) (create_lim hT.2 h0 _ _ _ _ _)) List.length_set
 split
 ·exact hs _
 ·refine add_inv (hs _) (by show y.sp.op.length<64;omega) (by simp) (by simp) λx hx=>?_
  rw[List.mem_singleton.1 hx]
  show _<(List.set _ _ _).length
  rw[List.length_set]
  exact hk
theorem openedS_ok(h:SyI N y)(n:Int):((y.opened n).2=0→(y.opened n).1≠[])∧(y.opened n).1.length≤16∧∀x∈(y.opened n).1,x.1<y.Ts.length:=by
 unfold Sy.opened
 cases hg:getL y.sp.op n with
 |none=>exact⟨λh1=>absurd h1 (by decide),Nat.zero_le _,λx hx=>by cases hx⟩
 |some l=>
  have:=h.sp.op _ ((getL_some h.sp.nd).1 hg)
  exact⟨λ_=>this.2.1,this.2.2.1,this.2.2.2⟩
theorem singleS_ok(h:SyI N y){n:Int}(he:(y.single n).2=0):(y.single n).1.1<y.Ts.length:=by
 obtain⟨h1,h2,h3⟩:=openedS_ok h n
 unfold Sy.single at he ⊢
 split at he
 ·rename_i h4
  exact absurd he h4
 ·rename_i h4
  rw[if_neg h4]
  split at he
  ·exact absurd he (by decide)
  ·rename_i h5
   rw[if_neg h5]
   exact h3 _ (getD_mem (List.length_pos_iff.2 (h1 (Decidable.not_not.1 h4))) _)
theorem write_invS(h:SyI N y)(n off:Int)(d:BA):SyI (N+3) (y.write n off d).1:=by
 unfold Sy.write
 simp only[]
 split
 ·exact h.mono (by omega)
 ·rename_i h1
  have hT:=h.t _ (trW_mem (singleS_ok h (Decidable.not_not.1 h1)))
  exact h.setTs (h.t.set (write_inv hT.1 _ _ _) (write_lim hT.2 _ _ _)) List.length_set
theorem delL_ok{α:Type}{L:List (Int×α)}{k:Int}:(delL L k).Sublist L:=by
 induction L with
 |nil=>exact List.Sublist.refl _
 |cons p r ih=>
  unfold delL
  split
  ·exact List.sublist_cons_self _ _
  ·exact ih.cons_cons _
theorem close_invS(h:SyI N y)(n:Int):SyI (N+100) (y.close n).1:=by
 unfold Sy.close
 simp only[]
 split
 ·exact h.mono (by omega)
 ·obtain⟨h1,h2,h3⟩:=openedS_ok h n
  have hc:=closeW_ok (first:=0) h.t h3
  have hd:=delL_ok (L:=y.sp.op) (k:=n)
  refine⟨hc.1.mono (by omega),by rw[hc.2];exact h.tb,⟨h.sp.user,h.sp.dir,Nat.le_trans hd.length_le h.sp.few,(hd.map _).nodup h.sp.nd,λx hx=>?_⟩⟩
  have:=h.sp.op x (hd.subset hx)
  rw[hc.2]
  exact this
set_option maxRecDepth 100000
set_option linter.unusedVariables false
set_option linter.unusedSimpArgs false

structure Pn where
 path:BA
 dir:Bool
 data:BA
def cutP(p:Pn):Int:=Lib.lastIndexByte (cleanS (sep++p.path)) 47
def upP(p:Pn):BA:=(cleanS (sep++p.path)).extract 0 (max (cutP p) 1).toNat
def nameP(p:Pn):BA:=(cleanS (sep++p.path)).extract (cutP p+1).toNat (cleanS (sep++p.path)).size
def plantT(T:Tr)(p:Pn):Tr:=
 if(T.find (upP p)).2≠0 then T else
 let x:=T.create ann (T.find (upP p)).1.path (nameP p) (if p.dir then 2147484159 else 438) (if p.dir then 0 else 1)
 if x.2.2.2≠0 then x.1 else
 let U:=if p.dir then x.1 else(x.1.write x.2.1 0 p.data).1
 (U.close x.2.1).1
def growT(l:List Pn):Tr:=l.foldl plantT (newT ann [])
theorem plant_ok{T:Tr}{N:Int}(h:Inv T)(h0:0≤N)(hl:Lim N T)(p:Pn):Inv (plantT T p)∧Lim (N+9) (plantT T p):=by
 unfold plantT
 split
 ·exact⟨h,hl.mono (by omega)⟩
 simp only[]
 have c1:=create_inv h ann (T.find (upP p)).1.path (nameP p) (if p.dir then 2147484159 else 438) (if p.dir then 0 else 1)
 have c2:=create_lim hl h0 ann (T.find (upP p)).1.path (nameP p) (if p.dir then 2147484159 else 438) (if p.dir then 0 else 1)
 generalize T.create ann (T.find (upP p)).1.path (nameP p) (if p.dir then 2147484159 else 438) (if p.dir then 0 else 1)=x at*
 split
 ·exact⟨c1,c2.mono (by omega)⟩
 have hU:Inv (if p.dir=true then x.1 else(x.1.write x.2.1 0 p.data).1)∧Lim (N+6) (if p.dir=true then x.1 else(x.1.write x.2.1 0 p.data).1):=by
  split
  ·exact⟨c1,c2.mono (by omega)⟩
  ·exact⟨write_inv c1 _ _ _,(write_lim c2 _ _ _).mono (by omega)⟩
 generalize (if p.dir=true then x.1 else(x.1.write x.2.1 0 p.data).1)=U at*
 obtain⟨u1,u2⟩:=hU
 have k1:=close_inv u1 x.2.1
 have k2:=close_lim u2 x.2.1
 exact And.intro k1 (k2.mono (by omega))
theorem plants_ok{l:List Pn}:∀{T:Tr} {N:Int},Inv T→0≤N→Lim N T→Inv (l.foldl plantT T)∧Lim (N+9*l.length) (l.foldl plantT T):=by
 induction l with
 |nil=>intro T N h h0 hl;exact⟨h,by simpa using hl⟩
 |cons p r ih=>
  intro T N h h0 hl
  obtain⟨h1,h2⟩:=plant_ok h h0 hl p
  obtain⟨h3,h4⟩:=ih h1 (by omega) h2
  rw[List.foldl_cons]
  exact⟨h3,h4.mono (by rw[List.length_cons];omega)⟩
theorem grow_ok(l:List Pn):Inv (growT l)∧Lim (1+9*l.length) (growT l):=
 plants_ok (newT_inv ((checkG_zero checkG_ann).2.2.1 ann (by simp))) (by omega) (newT_lim _ _)
def madeY(user:BA)(ls:List (List Pn)):Sy:=⟨ls.map growT,⟨[0],[]⟩,⟨user,sep,[]⟩⟩
theorem made_inv{user:BA}{ls:List (List Pn)}(hu:user.size≤100)(h1:ls≠[])(h2:∀l∈ls,l.length≤12):SyI 200 (madeY user ls):=by
 refine⟨λT hT=>?_,⟨by simp[madeY],by simp[madeY],λk hk=>?_,by simp[madeY],λm hm=>by simp[madeY]at hm⟩,⟨by show user.size≤1000;omega,by show sep.size≤2000;decide,by simp[madeY],by simp[madeY],λx hx=>by simp[madeY]at hx⟩⟩
 ·obtain⟨l,hl,rfl⟩:=List.mem_map.1 hT
  have:=h2 l hl
  exact⟨(grow_ok l).1,(grow_ok l).2.mono (by omega)⟩
 ·have:k=0:=by simpa[madeY] using hk
  subst this
  show 0<(ls.map growT).length
  rw[List.length_map]
  exact List.length_pos_iff.2 h1
set_option maxRecDepth 100000
set_option linter.unusedVariables false
set_option linter.unusedSimpArgs false
variable {w0 w:World} {F:Nat→Prop} {l:List As}
theorem Tie.monoD{D D':List Row}{X:PT}{T:Tr}{β:Int→Nat}(h:Tie D X T β)(hD:∀x∈D,x∈D'):Tie D' X T β:=
 ⟨h.ns,h.clock,h.next,λn hn=>(h.data n hn).mono hD,h.ub,h.kl,h.fl,h.root,⟨λg=>by
  have:=h.gs.at_ g
  revert this
  cases getL T.gs g with
  |none=>exact id
  |some us=>rintro⟨h1,v,h2,h3⟩;exact⟨h1,v,h2,h3.mono hD⟩,h.gs.nd⟩,h.bl,h.ol,h.dead⟩

def wdA(Xs:List PT):As:=star (Xs.map trA)
structure Wo (D : List Row) (tA : List Nat) (Xs : List PT) (Ts : List Tr) : Prop where
 adr : Xs.map (·.t) = tA
 len : Xs.length = Ts.length
 tie : ∀ (k : Nat) X T,Xs[k]? = some X→Ts[k]? = some T→∃ β,Tie D X T β
abbrev adW(tA:List Nat)(k:Nat):Nat:=tA.getD k 0
theorem Wo.get{D:List Row}{tA:List Nat}{Xs:List PT}{Ts:List Tr}(h:Wo D tA Xs Ts){k:Nat}(hk:k<Ts.length):∃X β,Xs[k]? =some X∧X.t=adW tA k∧Tie D X (trW Ts k) β:=by
 have hx:k<Xs.length:=by rw[h.len];exact hk
 obtain⟨β,hb⟩:=h.tie k Xs[k] Ts[k] (List.getElem?_eq_getElem hx) (List.getElem?_eq_getElem hk)
 refine⟨Xs[k],β,List.getElem?_eq_getElem hx,?_,?_⟩
 ·unfold adW
  rw[← h.adr,List.getD_eq_getElem?_getD,List.getElem?_map,List.getElem?_eq_getElem hx]
  rfl
 ·unfold trW
  rw[List.getD_eq_getElem?_getD,List.getElem?_eq_getElem hk]
  exact hb

def GoesW(w0:World)(F:Nat→Prop)(l:List As)(tA:List Nat)(Ts':List Tr)(w:World):Prop:=∃D' Xs',Wo D' tA Xs' Ts'∧Hs w0 F w (wdA Xs'::Pool D'::l)
theorem Wo.goes{D:List Row}{tA:List Nat}{Xs:List PT}{Ts:List Tr}(h:Wo D tA Xs Ts){k:Nat}(hk:k<Ts.length){X:PT}(hX:Xs[k]? =some X){T':Tr}(G:Goes w0 F (wdA (Xs.eraseIdx k)::l) D X T' w):GoesW w0 F l tA (Ts.set k T') w:=by
 obtain⟨D',X',β',hD,ht,hT,E⟩:=G
 have hx:k<Xs.length:=by rw[h.len];exact hk
 refine⟨D',Xs.set k X',⟨?_,by rw[List.length_set,List.length_set,h.len],λj X2 T2 h1 h2=>?_⟩,Hs.closeI (f:=trA) X' hx (E.perm ((List.Perm.swap _ _ _).cons _))⟩
 ·rw[List.map_set,ht,← h.adr]
  refine List.ext_getElem? λj=>?_
  rw[List.getElem?_set]
  split
  ·rename_i hj
   subst hj
   rw[List.length_map,if_pos hx,List.getElem?_map,hX]
   rfl
  ·rfl
 ·by_cases hj:k=j
  ·subst hj
   rw[List.getElem?_set_self hx]at h1
   rw[List.getElem?_set_self hk]at h2
   cases h1;cases h2
   exact⟨β',hT⟩
  ·rw[List.getElem?_set_ne hj]at h1 h2
   obtain⟨β,hb⟩:=h.tie j X2 T2 h1 h2
   exact⟨β,hb.monoD hD⟩

structure TbM where
 a:Nat
 tv:Value
 mv:Value
 vs:List (Value×Value)
abbrev Mt.C(m:Mt)(v:Value×Value):List Value:=[i64 (m.old.t:Int),i64 m.old.f,v.1,v.2]
def mcs(ms:List Mt)(vs:List (Value×Value)):List Value:=(ms.zip vs).flatMap λx=>x.1.C x.2
abbrev iT(a:Nat):Value:=.iface Ty.t1 (ptr a)
abbrev tcs(tA:List Nat)(ts:List Nat):List Value:=ts.map λk=>iT (adW tA k)
abbrev pcs(ps:List Pl):List Value:=ps.flatMap Pl.cs
abbrev bcs(bs:List Bool):List Value:=bs.map Value.bool
abbrev tbO(M:TbM):Obj:=oc [M.tv,M.mv] Ty.space_table
structure TbT(R:List RowS)(M:TbM)(tb:Tb):Prop where
 len:M.vs.length=tb.ms.length
 row:∀(i:Nat) m v,tb.ms[i]? =some m→M.vs[i]? =some v→RdyS R Ty.t0 2 v.1 (pcs m.new)∧RdyS R Ty.bool 1 v.2 (bcs m.cr)

structure SpM where
 a:Nat
 om:Nat
 ov:List (Int×Value)
abbrev spO(M:SpM)(tb:Nat)(sp:Sp):Obj:=oc [ptr tb,str sp.user,str sp.dir,.map (some M.om)] Ty.space_Space
abbrev ovM(ov:List (Int×Value)):AL:=encM i64 id ov
def hcs(tA:List Nat)(hs:List (Nat×Int)):List Value:=hs.flatMap λx=>[iT (adW tA x.1),i64 x.2]
structure SpT (R : List RowS) (tA : List Nat) (M : SpM) (sp : Sp) : Prop where
 keys : M.ov.map (·.1) = sp.op.map (·.1)
 row : ∀ k,match getL sp.op k with
  | none=>getL M.ov k = none
  | some hs=>∃ v,getL M.ov k = some v∧RdyS R Ty.t36 2 v (hcs tA hs)
set_option maxRecDepth 100000
set_option linter.unusedVariables false
set_option linter.unusedSimpArgs false
variable {w0 w:World} {F:Nat→Prop} {l r1:List As}
abbrev lkPl:List LK:=[.int .i64,.int .i64]
theorem lv_Pl:lv PP 20 Ty.t0=some lkPl:=by kernel_rfl
theorem st_Pl:isSt PP Ty.t0=true:=by kernel_rfl
theorem g_Pl:PP.eqGuardType PP.depth Ty.t0=false:=by kernel_rfl
theorem ceq_pl(p q:Pl):ceqL p.cs q.cs=decide (p=q):=by
 cases p with|mk a b=>cases q with|mk c d=>
 simp only[ceqL,ceq,Bool.and_true]
 by_cases h1:a=c
 ·by_cases h2:b=d
  ·subst h1;subst h2;simp
  ·simp[h2]
 ·have:¬((a:Int)=c):=by omega
  simp[h1,this]
theorem EqS.pl{p q:Pl}{x y:Operand}{k:Value→Prop}(hk:k (.bool (decide (p=q)))):Rd PP (eqS .eql Ty.t0 x y p.V q.V) w k:=
 EqS.e (xs:=p.cs) (ys:=q.cs) lv_Pl st_Pl g_Pl rfl rfl (by rw[ceq_pl];exact hk)
theorem mcs_len:∀{ms:List Mt} {vs:List (Value×Value)},vs.length=ms.length→(mcs ms vs).length=ms.length*4
 |[],[],_=>rfl
 |m::ms,v::vs,h=>by
  have ih:=mcs_len (ms:=ms) (vs:=vs) (by simpa using h)
  unfold mcs at ih ⊢
  rw[List.zip_cons_cons,List.flatMap_cons,List.length_append,ih,List.length_cons]
  show 4+ms.length*4=(ms.length+1)*4
  omega
 |[],_::_,h=>by simp at h
 |_::_,[],h=>by simp at h
theorem mcs_at{ms:List Mt}{vs:List (Value×Value)}:∀{i:Nat} {m:Mt} {v:Value×Value},ms[i]? =some m→vs[i]? =some v→(mcs ms vs).drop (i*4)=m.C v++mcs (ms.drop (i+1)) (vs.drop (i+1)):=by
 induction ms generalizing vs with
 |nil=>intro i m v h;simp at h
 |cons a ms ih=>
  intro i m v h1 h2
  cases vs with
  |nil=>simp at h2
  |cons b vs=>
   cases i with
   |zero=>
    have e1:a=m:=by simpa using h1
    have e2:b=v:=by simpa using h2
    subst e1;subst e2
    rfl
   |succ i=>
    have:=ih (i:=i) (m:=m) (v:=v) (by simpa using h1) (by simpa using h2)
    have e:mcs (a::ms) (b::vs)=a.C b++mcs ms vs:=rfl
    rw[e,show(i+1)*4=i*4+4 by omega]
    show(mcs ms vs).drop (i*4)=_
    rw[this]
    rfl
theorem idx_hit{ms:List Mt}{p:Pl}{i:Nat}(hi:i<ms.length)(hle:i≤idxM ms p)(h:ms[i].old=p):idxM ms p=i:=by
 rcases Nat.lt_or_ge i (idxM ms p)with h1|h1
 ·have h2:=List.not_of_lt_findIdx h1
  simp[h]at h2
 ·omega
theorem idx_miss{ms:List Mt}{p:Pl}{i:Nat}(hi:i<ms.length)(hle:i≤idxM ms p)(h:ms[i].old≠p):i+1≤idxM ms p:=by
 rcases Nat.lt_or_ge i (idxM ms p)with h1|h1
 ·exact h1
 ·have e:idxM ms p=i:=by omega
  have h0:List.findIdx (λm=>decide (m.old=p)) ms<ms.length:=by show idxM ms p<_;omega
  have h2:=List.findIdx_getElem (p:=λm:Mt=>decide (m.old=p)) (w:=h0)
  simp only[decide_eq_true_eq]at h2
  have h3:ms[i]? =some (ms[List.findIdx (λm=>decide (m.old=p)) ms]'h0):=by rw[← e];exact List.getElem?_eq_getElem h0
  rw[List.getElem?_eq_getElem hi]at h3
  rw[Option.some.inj h3]at h
  exact absurd h2 h
theorem b_find1:hasBody PP Fn.f78=true:=by kernel_rfl

def fdI(ms:List Mt)(p:Pl):Int:=if idxM ms p<ms.length then(idxM ms p:Int)else -1
theorem IndexM_ok{M:TbM}{tb:Tb}{p:Pl}{q:Nat}(hm:slA M.mv Ty.t22 4 (mcs tb.ms M.vs)∈l)(hl:M.vs.length=tb.ms.length)(h64:tb.ms.length≤64)[h1:FPt l q (oc p.cs Ty.t0) r1](E:Hs w0 F w l):
  Ca PP Fn.f4 #[M.mv,.func (.func Fn.f78) #[] #[ptr q]] w λr w'=>r=i64 (fdI tb.ms p)∧Hs w0 F w' l:=by
 refine S.f4.calls ?_
 unfold S.f4
 have hrd:=RdS.sl hm (by omega) E
 rw[mcs_len hl,Nat.mul_div_cancel _ (by omega)]at hrd
 refine hrd.len ?_
 refine⟨λl1 w1=>∃i:Nat,l1=[i64 i]∧i≤tb.ms.length∧i≤idxM tb.ms p∧Hs w0 F w1 l,λl1 _=>match l1 with|[.int _ i]=>tb.ms.length-i.toNat|_=>0,⟨0,rfl,Nat.zero_le _,Nat.zero_le _,E⟩,?_⟩
 clear E
 rintro t u1 w1 ⟨i,e,hi,hx,E⟩
 cases e
 refine Bi.lss ?_ ?_<;>intro hlt<;>(repeat with_reducible refine Stp.go ?_)
 ·have hi1:i<tb.ms.length:=by omega
  have g1:tb.ms[i]? =some tb.ms[i]:=List.getElem?_eq_getElem hi1
  have g2:M.vs[i]? =some (M.vs[i]'(by omega)):=List.getElem?_eq_getElem (by omega)
  have hd:=mcs_at g1 g2
  refine hrd.ix (by omega) (by omega) (by omega) ?_
  intro a ha
  rw[Int.toNat_natCast,hd]at ha
  refine ha.lda E (m:=4) (ds:=tb.ms[i].C (M.vs[i]'(by omega))) rfl rfl (by omega) ?_
  refine CaV.mk b_find1 ?_
  refine S.f78.calls (a0:=.agg (tb.ms[i].C (M.vs[i]'(by omega))).toArray) (a1:=ptr q) ?_
  unfold S.f78
  repeat with_reducible first|refine Stp.go ?_|refine StpE.go E ?_|(refine StpA.go E ?_;clear E;intro b_ w_ hb_ E)
  refine EqS.pl (p:=tb.ms[i].old) (q:=p) ?_
  replace E:=E.tl
  by_cases hp:tb.ms[i].old=p
  ·rw[decide_eq_true hp]
   repeat with_reducible refine Stp.go ?_
   refine⟨?_,E⟩
   unfold fdI
   rw[idx_hit hi1 hx hp,if_pos hi1]
  ·rw[decide_eq_false hp]
   repeat with_reducible refine Stp.go ?_
   refine Bi.add (by omega) ?_
   exact⟨⟨i+1,by simp,by omega,idx_miss hi1 hx hp,E⟩,by simp only[];omega⟩
 ·refine⟨?_,E⟩
  unfold fdI
  rw[if_neg (by omega)]
theorem find_okM{M:TbM}{tb:Tb}{p:Pl}(hm:slA M.mv Ty.t22 4 (mcs tb.ms M.vs)∈l)(hl:M.vs.length=tb.ms.length)(h64:tb.ms.length≤64)[h1:FPt l M.a (tbO M) r1](E:Hs w0 F w l):
  Ca PP Fn.f74 #[ptr M.a,p.V] w λr w'=>r=i64 (fdI tb.ms p)∧Hs w0 F w' l:=by
 refine S.f74.calls ?_
 unfold S.f74
 repeat with_reducible first|refine Stp.go ?_|refine StpE.go E ?_|(refine StpA.go E ?_;clear E;intro b_ w_ hb_ E)
 refine(IndexM_ok (M:=M) (p:=p) (List.mem_cons_of_mem _ hm) hl h64 E).mono ?_
 clear E
 rintro r w_ ⟨rfl,E⟩
 exact⟨rfl,E.tl⟩
theorem pcs_len(ps:List Pl):(pcs ps).length=ps.length*2:=by
 induction ps with
 |nil=>rfl
 |cons p r ih=>
  rw[pcs,List.flatMap_cons,List.length_append,List.length_cons]
  have:(List.flatMap Pl.cs r).length=r.length*2:=ih
  rw[this]
  show 2+r.length*2=(r.length+1)*2
  omega
theorem u_sl_Place:PP.underlying Ty.t13=some (.slice Ty.t0):=by kernel_rfl
theorem s_Place:sizeK PP Ty.t0=some 2:=by kernel_rfl
theorem z_Place:zeroK PP Ty.t0=some (.agg #[i64 0,i64 0]):=by kernel_rfl
theorem u_sl_bool:PP.underlying Ty.t90=some (.slice Ty.bool):=by kernel_rfl
theorem e_bool:el3 PP Ty.bool=some (some (.bool false),1,1):=by kernel_rfl
theorem BdS.pl{p:Pl}{k:Value→World→Prop}(E:Hs w0 F w l)(hk:∀v w',Hs w0 F w' (slA v Ty.t0 2 p.cs::l)→k v w'):Ef PP (Instr.buildSlice Ty.t13 1 #[(0,p.V)]) w k:=
 BdS.sl E u_sl_Place s_Place z_Place (by omega) (by omega) (xs:=p.cs) (by kernel_rfl) rfl hk

theorem stand_okK{n:Nat}{R:List RowS}{M:TbM}{tb:Tb}{p:Pl}(hm:slA M.mv Ty.t22 4 (mcs tb.ms M.vs)∈l)(ht:TbT R M tb)(hR:PoolS R∈l)(hi:TbI n tb)[h1:FPt l M.a (tbO M) r1](E:Hs w0 F w l):
  Ca PP Fn.f51 #[ptr M.a,p.V] w λr w'=>∃v1 v2 k,r=.tuple #[v1,v2]∧Hs w0 F w' (k++l)∧
   (∀l',(∀w,Hs w0 F w l'→Hs w0 F w (k++[PoolS R]))→RdS w0 F l' 2 (standM tb.ms p).1.length v1 (pcs (standM tb.ms p).1)∧RdS w0 F l' 1 (standM tb.ms p).2.length v2 (bcs (standM tb.ms p).2)):=by
 refine S.f51.calls ?_
 unfold S.f51
 repeat with_reducible first|refine StpE.go E ?_|(refine StpA.go E ?_;clear E;intro b_ w_ hb_ E)
 (revert b_;intro q hbq E)
 refine(find_okM (M:=M) (p:=p) (List.mem_cons_of_mem _ hm) ht.len hi.ms E).mono ?_
 clear E
 rintro r w_ ⟨rfl,E⟩
 unfold fdI standM
 by_cases hx:idxM tb.ms p<tb.ms.length
 ·rw[if_pos hx,List.getElem?_eq_getElem hx]
  refine Bi.geq (λ_=>?_) (λh=>absurd h (by omega))
  have g2:M.vs[idxM tb.ms p]? =some (M.vs[idxM tb.ms p]'(by rw[ht.len];exact hx)):=List.getElem?_eq_getElem (by rw[ht.len];exact hx)
  have hd:=mcs_at (List.getElem?_eq_getElem hx) g2
  obtain⟨y1,y2⟩:=ht.row _ _ _ (List.getElem?_eq_getElem hx) g2
  have hmi:=hi.m _ (List.getElem_mem hx)
  have hrd:=RdS.sl (List.mem_cons_of_mem (pt q (oc p.cs Ty.t0)) hm) (by omega) E
  rw[mcs_len ht.len,Nat.mul_div_cancel _ (by omega)]at hrd
  repeat with_reducible first|refine Stp.go ?_|refine StpE.go E ?_|(refine StpW.go E ?_;clear E;intro w_ E)
  refine hrd.ix (by omega) (by omega) (by omega) ?_
  intro a ha
  rw[Int.toNat_natCast,hd]at ha
  refine ha.fa (by simp[Mt.C]) ?_
  intro a' ha'
  refine ha'.ld E rfl ?_
  repeat with_reducible first|refine Stp.go ?_|refine StpE.go E ?_
  refine hrd.ix (by omega) (by omega) (by omega) ?_
  intro a2 ha2
  rw[Int.toNat_natCast,hd]at ha2
  refine ha2.fa (by simp[Mt.C]) ?_
  intro a3 ha3
  refine ha3.ld E rfl ?_
  refine⟨_,_,[],rfl,E.tl,λl' hl'=>⟨?_,?_⟩⟩
  ·exact RdS.weaken (l:=[PoolS R]) (y1.read (n:=tb.ms[idxM tb.ms p].new.length) (pcs_len _) (by omega) (E.tl.drop (List.singleton_sublist.2 hR)) (by simp)) hl'
  ·exact RdS.weaken (l:=[PoolS R]) (y2.read (n:=tb.ms[idxM tb.ms p].cr.length) (by simp) (by omega) (E.tl.drop (List.singleton_sublist.2 hR)) (by simp)) hl'
 ·rw[if_neg hx,List.getElem?_eq_none (by omega)]
  simp only[]
  refine Bi.geq (λh=>absurd h (by decide)) (λ_=>?_)
  repeat with_reducible first|refine Stp.go ?_|refine StpE.go E ?_
  refine BdS.pl E ?_
  clear E
  intro v1 w_ E
  skip
  refine BdS.one E u_sl_bool e_bool rfl ?_
  clear E
  intro v2 w_ E
  refine⟨_,_,[slA v2 Ty.bool 1 [.bool true],slA v1 Ty.t0 2 p.cs],rfl,?_,λl' hl'=>?_⟩
  ·exact(E.bIx 2).tl
  ·have E2:Hs w0 F w_ [slA v2 Ty.bool 1 [.bool true],slA v1 Ty.t0 2 p.cs,PoolS R]:=((E.bIx 2).tl).drop (((List.singleton_sublist.2 hR).cons_cons _).cons_cons _)
   have g1:=RdS.sl (xs:=p.cs) (sz:=2) (T:=Ty.t0) (v:=v1) (by simp) (by omega) E2
   rw[show p.cs.length / 2=1 by rw[show p.cs.length=2 from rfl]]at g1
   have g2:=RdS.sl (xs:=[.bool true]) (sz:=1) (T:=Ty.bool) (v:=v2) (by simp) (by omega) E2
   exact⟨RdS.weaken g1 hl',RdS.weaken g2 hl'⟩
theorem stand_okM{n:Nat}{R:List RowS}{M:TbM}{tb:Tb}{p:Pl}(hm:slA M.mv Ty.t22 4 (mcs tb.ms M.vs)∈l)(ht:TbT R M tb)(hR:PoolS R∈l)(hi:TbI n tb)[h1:FPt l M.a (tbO M) r1](E:Hs w0 F w l):
  Ca PP Fn.f51 #[ptr M.a,p.V] w λr w'=>∃v1 v2 A,r=.tuple #[v1,v2]∧Hs w0 F w' (A::l)∧
   RdS w0 F (A::l) 2 (standM tb.ms p).1.length v1 (pcs (standM tb.ms p).1)∧RdS w0 F (A::l) 1 (standM tb.ms p).2.length v2 (bcs (standM tb.ms p).2):=by
 refine(stand_okK (p:=p) hm ht hR hi E).mono ?_
 rintro r w' ⟨v1,v2,k,rfl,E,h⟩
 obtain⟨g1,g2⟩:=h (star k::l) λw E=>E.unstar.drop ((List.append_sublist_append_left _).2 (List.singleton_sublist.2 hR))
 exact⟨v1,v2,star k,rfl,E.star,g1,g2⟩
set_option maxRecDepth 100000
set_option linter.unusedVariables false
set_option linter.unusedSimpArgs false
variable {w0 w:World} {F:Nat→Prop} {l r1 r2 r3:List As}

class FWP(l:List As)(Xs:outParam (List PT))(D:outParam (List Row))(r:outParam (List As)):Prop where
 perm:l.Perm (wdA Xs::Pool D::r)
instance(priority:=2000){Xs:List PT}{D:List Row}{r:List As}:FWP (wdA Xs::Pool D::r) Xs D r:=⟨List.Perm.refl _⟩
instance{A:As}{Xs:List PT}{D:List Row}{l r:List As}[h:FWP l Xs D r]:FWP (A::l) Xs D (A::r):=
 ⟨(h.perm.cons A).trans ((List.Perm.swap _ _ _).trans ((List.Perm.swap _ _ _).cons _))⟩

structure Ctx(l:List As)(R:List RowS)(D:List Row)(Xs:List PT)(tA:List Nat)(M:TbM)(K:SpM)(N:Int)(y:Sy):Prop where
 tv:slA M.tv Ty.api_Tree 1 (tcs tA y.tb.ts)∈l
 mv:slA M.mv Ty.t22 4 (mcs y.tb.ms M.vs)∈l
 pool:PoolS R∈l
 tb:TbT R M y.tb
 wo:Wo D tA Xs y.Ts
 inv:SyI N y
variable {R:List RowS} {D:List Row} {Xs:List PT} {tA:List Nat} {M:TbM} {K:SpM} {N:Int} {y:Sy}
theorem Ctx.cons(C:Ctx l R D Xs tA M K N y)(A:As):Ctx (A::l) R D Xs tA M K N y:=⟨List.mem_cons_of_mem _ C.tv,List.mem_cons_of_mem _ C.mv,List.mem_cons_of_mem _ C.pool,C.tb,C.wo,C.inv⟩
theorem Ctx.app(C:Ctx l R D Xs tA M K N y)(k:List As):Ctx (k++l) R D Xs tA M K N y:=⟨List.mem_append_right _ C.tv,List.mem_append_right _ C.mv,List.mem_append_right _ C.pool,C.tb,C.wo,C.inv⟩

theorem Wo.ask{f:FuncId}{args:Nat→Array Value}{Q:Value→Prop}(h:Wo D tA Xs y.Ts)(hI:TsI N y.Ts){k:Nat}(hk:k<y.Ts.length)[hW:FWP l Xs D r1](E:Hs w0 F w l)
  (hc:∀X β l0,Tie D X (trW y.Ts k) β→Inv (trW y.Ts k)→Pool D∈l0→Hs w0 F w (trA X::l0)→Ca PP f (args X.t) w λr w'=>Q r∧Hs w0 F w' (trA X::l0)):
  Ca PP f (args (adW tA k)) w λr w'=>Q r∧Hs w0 F w' l:=by
 obtain⟨X,β,hX,ht,hb⟩:=h.get hk
 have hx:k<Xs.length:=by rw[h.len];exact hk
 have E1:=Hs.openI (f:=trA) hX (E.perm hW.perm)
 rw[← ht]
 refine(hc X β (star ((Xs.eraseIdx k).map trA)::Pool D::r1) hb (hI _ (trW_mem hk)).1 (by simp) E1).mono ?_
 rintro r w' ⟨hq,E2⟩
 have E3:=Hs.closeI (f:=trA) X hx E2
 have e:Xs.set k X=Xs:=by
  refine List.ext_getElem? λj=>?_
  by_cases hj:k=j
  ·subst hj;rw[List.getElem?_set_self hx,hX]
  ·rw[List.getElem?_set_ne hj]
 rw[e]at E3
 exact⟨hq,E3.perm hW.perm.symm⟩
theorem u_p_Space:PP.underlying Ty.p_space_Space=some (.pointer Ty.space_Space):=by kernel_rfl
theorem cleanA_ok{ta:Nat}{path:BA}(hd:y.sp.dir.size≤2000)(hp:path.size≤1000000)[h1:FPt l K.a (spO K ta y.sp) r1](E:Hs w0 F w l):
  Ca PP Fn.f75 #[ptr K.a,str path] w λr w'=>r=str (absA y.sp.dir path)∧Hs w0 F w' l:=by
 refine S.f75.calls ?_
 unfold S.f75
 (intro J1 hJ1)
 refine(HasPrefix_ok E).mono ?_
 clear E
 rintro r w_ ⟨rfl,E⟩
 have e:Lib.hasPrefix path.data.toList (⟨#[47]⟩:BA).data.toList=absP path:=rfl
 rw[e]
 cases hab:absP path with
 |true=>
  repeat with_reducible first|refine Stp.go ?_|(apply hJ1;intro u_)
  exact⟨by unfold absA;rw[if_pos hab],E⟩
 |false=>
  repeat with_reducible first|refine Stp.go ?_|refine StpE.go E ?_
  refine Bi.sadd (by show y.sp.dir.size+1≤_;omega) ?_
  refine Bi.sadd (by rw[ByteArray.size_append];show y.sp.dir.size+1+path.size≤_;omega) ?_
  repeat with_reducible (apply hJ1;intro u_)
  exact⟨by unfold absA;rw[if_neg (by rw[hab];simp)],E⟩
theorem absA_size{dir path:BA}(hd:dir.size≤2000)(hp:path.size≤1000000):(absA dir path).size≤1002001:=by
 unfold absA
 split
 ·omega
 ·rw[ByteArray.size_append,ByteArray.size_append]
  show dir.size+1+path.size≤_
  omega
theorem elements_ok{ta:Nat}{path:BA}(hd:y.sp.dir.size≤2000)(hp:path.size≤1000000)[h1:FPt l K.a (spO K ta y.sp) r1](E:Hs w0 F w l):
  Ca PP Fn.f67 #[ptr K.a,str path] w λr w'=>∃v,r=.tuple #[v,i64 (y.elems path).2]∧Hs w0 F w' (slA v Ty.t2 1 ((y.elems path).1.map str)::l):=by
 refine S.f67.calls ?_
 unfold S.f67
 refine Eq.ef u_p_Space rfl ?_
 repeat with_reducible refine Stp.go ?_
 refine(cleanA_ok (K:=K) (y:=y) hd hp E).mono ?_
 clear E
 rintro r w_ ⟨rfl,E⟩
 refine(Clean_ok (by have:=absA_size hd hp;omega) E).mono ?_
 clear E
 rintro r w_ ⟨rfl,E⟩
 refine(Split_ok E).mono ?_
 clear E
 rintro r w_ ⟨v,rfl,E⟩
 repeat with_reducible refine Stp.go ?_
 exact⟨v,rfl,E⟩
theorem Root_ok{X:PT}{T:Tr}{β:Int→Nat}(h:Tie D X T β)(hi:Inv T)(E:Hs w0 F w (trA X::l)):Ca PP Fn.f126 #[ptr X.t] w λr w'=>(∃k v,r=.agg #[i64 k,i64 v,i64 0])∧Hs w0 F w' (trA X::l):=by
 refine S.f126.calls ?_
 unfold S.f126
 repeat with_reducible (refine StpA.go E ?_;clear E;intro b_ w_ hb_ E)
 (revert b_;intro q hbq E)
 (replace E:=((E.bIx 0).bIx 1))
 refine Eq.ef u_p_tree rfl ?_
 repeat with_reducible refine Stp.go ?_
 obtain⟨n,hn,hn1,hn2⟩:=h.root
 replace E:=Hs.openT E
 repeat with_reducible first|refine Stp.go ?_|refine StpE.go E ?_
 rw[← hn2]
 skip
 refine LdA.ob (Hs.ntAt E (by simp) hn) (by simp) ?_
 have eq3:(n.mn.C.toArray.extract 0 (0+3):Array Value)=#[i64 n.mn.kind,i64 n.mn.vers,i64 n.mn.path]:=by simp
 rw[eq3]
 repeat with_reducible first|refine StpE.go E ?_|(refine StpW.go E ?_;clear E;intro w_ E)
 exact⟨⟨n.mn.kind,n.mn.vers,by rw[← hn1]⟩,((Hs.closeT X E).bIx 1).tl⟩
instance{b:Nat}:NilC PP Ty.t1 (ptr b) "Root":=⟨λw=>by kernel_rfl⟩
instance{b:Nat}:MtC PP Ty.t1 (ptr b) "Root" Fn.f126 (ptr b):=⟨λw=>by kernel_rfl,by kernel_rfl⟩
instance{b:Nat}:NilC PP Ty.t1 (ptr b) "Walk":=⟨λw=>by kernel_rfl⟩
instance{b:Nat}:MtC PP Ty.t1 (ptr b) "Walk" Fn.f62 (ptr b):=⟨λw=>by kernel_rfl,by kernel_rfl⟩
instance{b:Nat}:NilC PP Ty.t1 (ptr b) "Stat":=⟨λw=>by kernel_rfl⟩
instance{b:Nat}:MtC PP Ty.t1 (ptr b) "Stat" Fn.f114 (ptr b):=⟨λw=>by kernel_rfl,by kernel_rfl⟩
set_option maxRecDepth 100000
set_option linter.unusedVariables false
set_option linter.unusedSimpArgs false
variable {w0 w:World} {F:Nat→Prop} {l r1 r2 r3:List As}
variable {R:List RowS} {D:List Row} {Xs:List PT} {tA:List Nat} {M:TbM} {K:SpM} {N:Int} {y:Sy}
theorem pcs_drop(ps:List Pl):∀i:Nat,(pcs ps).drop (i*2)=pcs (ps.drop i):=by
 induction ps with
 |nil=>intro i;simp
 |cons d r ih=>
  intro i
  cases i with
  |zero=>simp
  |succ i=>
   rw[pcs,List.flatMap_cons,show(i+1)*2=i*2+2 by omega]
   simp only[Pl.cs,List.cons_append,List.nil_append,List.drop_succ_cons]
   exact ih i

theorem Ctx.tree(C:Ctx l R D Xs tA M K N y)(E:Hs w0 F w l){t:Nat}(ht:t<y.tb.ts.length){k:Value→Prop}(hk:k (iT (adW tA (y.tb.ix t)))):
  IxA 1 M.tv (i64 (t:Int)) λa=>Ld a w λv=>k v:=by
 have hrd:=RdS.sl C.tv (by omega) E
 rw[Nat.div_one]at hrd
 refine hrd.ix (by omega) (by rw[List.length_map];omega) (by omega) ?_
 intro a ha
 refine ha.ld E (x:=iT (adW tA (y.tb.ix t))) ?_ hk
 rw[Int.toNat_natCast,Nat.mul_one,List.getElem?_drop,Nat.add_zero,List.getElem?_map]
 unfold Tb.ix
 rw[List.getD_eq_getElem?_getD,List.getElem?_eq_getElem ht]
 rfl
theorem Ctx.treeP(C:Ctx l R D Xs tA M K N y)(E:Hs w0 F w l){t:Nat}(ht:t<y.tb.ts.length){k:Value→Prop}(hk:∀a,RdP w0 F l a ((tcs tA y.tb.ts).drop t)→((tcs tA y.tb.ts).drop t)[0]? =some (iT (adW tA (y.tb.ix t)))→k (.pointer (some a))):
  IxA 1 M.tv (i64 (t:Int)) k:=by
 have hrd:=RdS.sl C.tv (by omega) E
 rw[Nat.div_one]at hrd
 refine hrd.ix (by omega) (by rw[List.length_map];omega) (by omega) ?_
 intro a ha
 rw[Int.toNat_natCast,Nat.mul_one]at ha
 refine hk a ha ?_
 rw[List.getElem?_drop,Nat.add_zero,List.getElem?_map]
 unfold Tb.ix
 rw[List.getD_eq_getElem?_getD,List.getElem?_eq_getElem ht]
 rfl

theorem Ctx.walkT(C:Ctx l R D Xs tA M K N y){t:Nat}(ht:t<y.tb.ts.length){user name:BA}{f:Int}(hn:name.size≤1000000)[hW:FWP l Xs D r3](E:Hs w0 F w l):
  Ca PP Fn.f62 #[ptr (adW tA (y.tb.ix t)),str user,i64 f,str name] w λr w'=>r=.tuple #[((trW y.Ts (y.tb.ix t)).walk user f name).1.V,i64 ((trW y.Ts (y.tb.ix t)).walk user f name).2]∧Hs w0 F w' l:=
 Wo.ask (args:=λz=>#[ptr z,str user,i64 f,str name]) C.wo C.inv.t (C.inv.tb.ixLt ht) E λX β l0 hb hi hp E=>Walk_ok hb hi (by omega) hp E
theorem walk_okM{lv:Value}{L:List BA}(hL:RdS w0 F l 1 L.length lv (L.map str))(hLs:∀x∈L,x.size≤1000000)(hn:L.length≤1000000)(C:Ctx l R D Xs tA M K N y)[hS:FPt l K.a (spO K M.a y.sp) r1][hT:FPt l M.a (tbO M) r2][hW:FWP l Xs D r3](E:Hs w0 F w l):
  Ca PP Fn.f86 #[ptr K.a,lv] w λr w'=>r=.tuple #[(y.walk L).1.V,i64 (y.walk L).2]∧Hs w0 F w' l:=by
 refine S.f86.calls ?_
 unfold S.f86
 repeat with_reducible first|refine Stp.go ?_|refine StpE.go E ?_|(refine StpA.go E ?_;clear E;intro b_ w_ hb_ E)
 (revert b_;intro q hbq E)
 refine(C.cons _).tree E (t:=0) C.inv.tb.pos ?_
 repeat with_reducible refine Stp.go ?_
 refine(Wo.ask (args:=λa=>#[ptr a]) C.wo C.inv.t (C.inv.tb.ixLt C.inv.tb.pos) E λX β l0 hb hi hp E=>Root_ok hb hi E).mono ?_
 clear E
 rintro r w_ ⟨⟨rk,rv,rfl⟩,E⟩
 repeat with_reducible first|refine Stp.go ?_|refine StpE.go E ?_|(refine StpW.go E ?_;clear E;intro w_ E)|(refine StpA.go E ?_;clear E;intro b_ w_ hb_ E)
 (revert b_;intro a hba E)
 (first|(refine StA.all E rfl rfl (by first|exact rfl|assumption) ?_;clear E;intro w_ E)|try (refine StA.by E rfl (by first|exact rfl|assumption) ?_;clear E;intro w_ E))
 refine hL.len ?_
 refine⟨λl1 w1=>∃(i:Nat) (p:Pl),l1=[i64 i]∧i≤L.length∧p.t<y.tb.ts.length∧y.walk L=walkW y.Ts y.tb y.sp.user (L.drop i) p∧Hs w0 F w1 (pt a (oc p.cs Ty.t0)::pt q (oc p0.cs Ty.t0)::l),λl1 _=>match l1 with|[.int _ i]=>L.length-i.toNat|_=>0,⟨0,p0,rfl,Nat.zero_le _,C.inv.tb.pos,rfl,E⟩,?_⟩
 clear E
 rintro t u1 w1 ⟨i,p,e,hi,hp,hwk,E⟩
 cases e
 refine Bi.lss ?_ ?_<;>intro hlt<;>(repeat with_reducible first|refine Stp.go ?_|refine StpE.go E ?_|(refine StpW.go E ?_;clear E;intro w_ E))
 ·have hi1:i<L.length:=by omega
  refine((hL.cons (pt q (oc p0.cs Ty.t0))).cons (pt a (oc p.cs Ty.t0))).ix (by omega) (by omega) (by omega) ?_
  intro b hb
  refine hb.ld E (x:=str L[i]) (by simp[List.getElem?_eq_getElem hi1]) ?_
  repeat with_reducible first|refine Stp.go ?_|refine StpE.go E ?_|(refine StpW.go E ?_;clear E;intro w_ E)
  have C2:=(C.cons (pt q (oc p0.cs Ty.t0))).cons (pt a (oc p.cs Ty.t0))
  refine(stand_okM (M:=M) (p:=p) C2.mv C2.tb C2.pool C2.inv.tb E).mono ?_
  clear E
  rintro r w_ ⟨v1,v2,A,rfl,E,g1,g2⟩
  repeat with_reducible refine Stp.go ?_
  refine g1.len ?_
  obtain⟨s1,s2,s3,s4⟩:=stand_ok C.inv.tb hp
  have hdr:L.drop i=L[i]::L.drop (i+1):=List.drop_eq_getElem_cons hi1
  generalize hQ:(standM y.tb.ms p).1=Q at*
  have hw1:y.walk L=(if(stepW y.Ts y.tb y.sp.user L[i] Q none).2=0 then walkW y.Ts y.tb y.sp.user (L.drop (i+1)) (stepW y.Ts y.tb y.sp.user L[i] Q none).1 else(p0,(stepW y.Ts y.tb y.sp.user L[i] Q none).2)):=by
   rw[hwk,hdr]
   show(if _ then _ else _)=_
   rw[hQ]
  have C3:=C2.cons A
  refine⟨λl1 w1=>∃(j:Nat) (fv:Int),l1=[i64 fv,i64 j]∧j≤Q.length∧(j=0→fv=0)∧(j≠0→fv≠0)∧stepW y.Ts y.tb y.sp.user L[i] Q none=stepW y.Ts y.tb y.sp.user L[i] (Q.drop j) (if j=0 then none else some fv)∧Hs w0 F w1 (A::pt a (oc p.cs Ty.t0)::pt q (oc p0.cs Ty.t0)::l),λl1 _=>match l1 with|[_,.int _ j]=>Q.length-j.toNat|_=>0,⟨0,0,rfl,Nat.zero_le _,λ_=>rfl,λh=>absurd rfl h,rfl,E⟩,?_⟩
  clear E
  rintro t9 t45 u2 w2 ⟨j,fv,e,hj,f0,f1,hst,E⟩
  cases e
  refine Bi.lss ?_ ?_<;>intro hlt2<;>(repeat with_reducible first|refine Stp.go ?_|refine StpE.go E ?_|(refine StpW.go E ?_;clear E;intro w_ E))
  ·have hj1:j<Q.length:=by omega
   have hpj:=s4 _ (List.getElem_mem hj1)
   have hdq:Q.drop j=Q[j]::Q.drop (j+1):=List.drop_eq_getElem_cons hj1
   (intro J44 hJ44)
   have fin44:∀(fv':Int) w_,fv'≠0→stepW y.Ts y.tb y.sp.user L[i] Q none=stepW y.Ts y.tb y.sp.user L[i] (Q.drop (j+1)) (some fv')→Hs w0 F w_ (A::pt a (oc p.cs Ty.t0)::pt q (oc p0.cs Ty.t0)::l)→J44 [i64 fv'] w_:=by
    intro fv' w_ h0 hs E
    repeat with_reducible (apply hJ44;intro u_)
    refine Bi.add (by omega) ?_
    exact⟨⟨j+1,fv',by simp,by omega,λh=>absurd h (by omega),λ_=>h0,by rw[if_neg (by omega)];exact hs,E⟩,by simp only[];omega⟩
   clear hJ44
   refine g1.ix (by omega) (by omega) (by omega) ?_
   intro a2 ha2
   rw[Int.toNat_natCast,pcs_drop,hdq]at ha2
   refine ha2.lda E (m:=2) (ds:=Q[j].cs) rfl rfl (by omega) ?_
   generalize Q[j]=pj at*
   have hsz:L[i].size≤1000000:=hLs _ (List.getElem_mem hi1)
   generalize L[i]=nm at*
   repeat with_reducible first|refine Stp.go ?_|refine StpE.go E ?_|(refine StpW.go E ?_;clear E;intro w_ E)|(refine StpA.go E ?_;clear E;intro b_ w_ hb_ E)
   (revert b_;intro c hbc E)
   refine(C3.cons (pt c (oc pj.cs Ty.t0))).treeP E hpj ?_
   intro a3 ha3 hx3
   refine ha3.ld E hx3 ?_
   repeat with_reducible first|refine Stp.go ?_|refine StpE.go E ?_
   refine And.intro ?left (And.intro ?right trivial)
   case' left=>
    repeat with_reducible refine Stp.go ?_
    refine((C3.cons (pt c (oc pj.cs Ty.t0))).walkT hpj hsz E).mono ?_
    clear E
    rintro r w_ ⟨rfl,E⟩
    repeat with_reducible first|refine Stp.go ?_|(refine StpA.go E ?_;clear E;intro b_ w_ hb_ E)
    (revert b_;intro d hbd E)
    (repeat(with_reducible refine And.intro ?_ ?_;focus ((repeat with_reducible refine StpE.go E ?_);exact rfl)))
    refine And.intro ?_ ?_
    ·exact(ha3.weaken λ_ E=>E.tl).ld E hx3 rfl
    (repeat(with_reducible refine And.intro ?_ ?_;focus ((repeat with_reducible refine StpE.go E ?_);exact rfl)))
   case' right=>
    repeat with_reducible (refine StpA.go E ?_;clear E;intro b_ w_ hb_ E)
    (revert b_;intro d hbd E)
    (repeat(with_reducible refine And.intro ?_ ?_;focus ((repeat with_reducible refine StpE.go E ?_);exact rfl)))
    refine And.intro ?_ ?_
    ·exact(ha3.weaken λ_ E=>E.tl).ld E hx3 rfl
    (repeat(with_reducible refine And.intro ?_ ?_;focus ((repeat with_reducible refine StpE.go E ?_);exact rfl)))
    repeat with_reducible refine Stp.go ?_
    refine(((C3.cons (pt c (oc pj.cs Ty.t0))).cons (pt d (oc q0.cs Ty.t31))).walkT hpj hsz E).mono ?_
    clear E
    rintro r w_ ⟨rfl,E⟩
    repeat with_reducible first|refine Stp.go ?_|(refine StpW.go E ?_;clear E;intro w_ E)
   all_goals (repeat with_reducible (refine StpW.go E ?_;clear E;intro w_ E))
   all_goals
    generalize hX:(trW y.Ts (y.tb.ix pj.t)).walk y.sp.user pj.f nm=X at*
    have hst2:stepW y.Ts y.tb y.sp.user nm Q none=if X.2=0 then((⟨pj.t,X.1.path⟩:Pl),(0:Int))else stepW y.Ts y.tb y.sp.user nm (Q.drop (j+1)) (some ((if j=0 then none else some fv).getD X.2)):=by
     rw[hst,hdq]
     show(if _ then _ else _)=_
     rw[hX]
    refine Bi.eql ?_ ?_<;>intro he<;>(repeat with_reducible first|refine Stp.go ?_|refine StpE.go E ?_|(refine StpW.go E ?_;clear E;intro w_ E))
    ·rw[if_pos he]at hst2
     (first|(refine StA.all E rfl rfl (by first|exact rfl|assumption) ?_;clear E;intro w_ E)|try (refine StA.by E rfl (by first|exact rfl|assumption) ?_;clear E;intro w_ E))
     skip
     refine Bi.add (by omega) ?_
     refine⟨⟨i+1,⟨pj.t,X.1.path⟩,by simp,by omega,hpj,?_,E.tl.tl.tl⟩,by simp only[];omega⟩
     rw[hw1,hst2]
     rfl
    ·rw[if_neg he]at hst2
     refine Bi.eql ?_ ?_<;>intro hj0<;>(repeat with_reducible refine Stp.go ?_)
     ·have h0:j=0:=by omega
      rw[if_pos h0]at hst2
      exact fin44 _ _ he hst2 E.tl.tl
     ·have h0:j≠0:=by omega
      rw[if_neg h0]at hst2
      exact fin44 _ _ (f1 h0) hst2 E.tl.tl
  ·have hje:j=Q.length:=by omega
   have hj0:j≠0:=by
    intro h0
    exact s1 (List.length_eq_zero_iff.1 (by omega))
   rw[hje,List.drop_length,if_neg (by omega)]at hst
   have e2:y.walk L=(p0,fv):=by
    rw[hw1,hst]
    show(if fv=0 then _ else _)=_
    rw[if_neg (f1 hj0)]
    rfl
   rw[e2]
   skip
   exact⟨rfl,E.tl.tl.tl⟩
 ·have hie:i=L.length:=by omega
  rw[hie,List.drop_length]at hwk
  rw[hwk]
  skip
  exact⟨rfl,E.tl.tl⟩
set_option maxRecDepth 100000
set_option linter.unusedVariables false
set_option linter.unusedSimpArgs false
variable {w0 w:World} {F:Nat→Prop} {l r1 r2 r3:List As}
variable {R:List RowS} {D:List Row} {Xs:List PT} {tA:List Nat} {M:TbM} {K:SpM} {N:Int} {y:Sy}
theorem tot_mem{L:List BA}{x:BA}(h:x∈L):x.size≤tot L:=by
 induction L with
 |nil=>cases h
 |cons a r ih=>
  have e:tot (a::r)=(a.size+1)+tot r:=rfl
  rw[e]
  rcases List.mem_cons.1 h with rfl|h
  ·omega
  ·have:=ih h;omega
theorem elems_small{path:BA}:(∀x∈(y.elems path).1,x.size≤1000000)∧(y.elems path).1.length≤1000000:=by
 unfold Sy.elems elemsA splitP
 split
 ·exact⟨λx hx=>(by cases hx),by simp⟩
 ·split
  ·exact⟨λx hx=>(by cases hx),by simp⟩
  ·rename_i h1 h2
   have ht:=elems_tot (cleanS (absA y.sp.dir path))
   refine⟨λx hx=>?_,?_⟩
   ·have hx:x∈elemsC (cleanS (absA y.sp.dir path)):=hx
    have:=tot_mem hx
    omega
   ·have:=tot_len (elemsC (cleanS (absA y.sp.dir path)));show(elemsC (cleanS (absA y.sp.dir path))).length≤_;omega
theorem place_okM{path:BA}(hp:path.size≤1000000)(C:Ctx l R D Xs tA M K N y)[hS:FPt l K.a (spO K M.a y.sp) r1][hT:FPt l M.a (tbO M) r2][hW:FWP l Xs D r3](E:Hs w0 F w l):
  Ca PP Fn.f50 #[ptr K.a,str path] w λr w'=>r=.tuple #[(y.place path).1.V,i64 (y.place path).2]∧Hs w0 F w' l:=by
 refine S.f50.calls ?_
 unfold S.f50
 repeat with_reducible (refine StpA.go E ?_;clear E;intro b_ w_ hb_ E)
 (revert b_;intro q hbq E)
 refine(elements_ok (K:=K) (y:=y) C.inv.sp.dir hp E).mono ?_
 clear E
 rintro r w_ ⟨v,rfl,E⟩
 repeat with_reducible refine Stp.go ?_
 obtain⟨e1,e2⟩:=elems_small (y:=y) (path:=path)
 refine Bi.neq ?_ ?_<;>intro he<;>(repeat with_reducible first|refine Stp.go ?_|refine StpE.go E ?_|(refine StpW.go E ?_;clear E;intro w_ E))
 ·have e:y.place path=(p0,(y.elems path).2):=by unfold Sy.place;rw[if_pos he]
  rw[e]
  exact⟨rfl,(E.bIx 1).tl.tl⟩
 ·have e:y.place path=y.walk (y.elems path).1:=by unfold Sy.place;rw[if_neg (λh=>h he)]
  have hrd:=RdS.sl (sz:=1) (List.mem_cons_self) (by omega) E
  rw[Nat.div_one,List.length_map]at hrd
  refine(walk_okM hrd e1 e2 ((C.cons _).cons _) E).mono ?_
  clear E
  rintro r w_ ⟨rfl,E⟩
  rw[e]
  repeat with_reducible first|refine Stp.go ?_|refine StpE.go E ?_|(refine StpW.go E ?_;clear E;intro w_ E)
  exact⟨rfl,(E.bIx 1).tl.tl⟩
theorem Ctx.statT(C:Ctx l R D Xs tA M K N y){t:Nat}(ht:t<y.tb.ts.length){user:BA}{f:Int}[hW:FWP l Xs D r3](E:Hs w0 F w l):
  Ca PP Fn.f114 #[ptr (adW tA (y.tb.ix t)),str user,i64 f] w λr w'=>r=.tuple #[((trW y.Ts (y.tb.ix t)).stat f).1.V,i64 ((trW y.Ts (y.tb.ix t)).stat f).2]∧Hs w0 F w' l:=
 Wo.ask (args:=λz=>#[ptr z,str user,i64 f]) C.wo C.inv.t (C.inv.tb.ixLt ht) E λX β l0 hb hi hp E=>Stat_ok hb hi hp E
theorem isDir_okM{p:Pl}(hp:p.t<y.tb.ts.length)(C:Ctx l R D Xs tA M K N y)[hS:FPt l K.a (spO K M.a y.sp) r1][hT:FPt l M.a (tbO M) r2][hW:FWP l Xs D r3](E:Hs w0 F w l):
  Ca PP Fn.f59 #[ptr K.a,p.V] w λr w'=>r=.tuple #[.bool (y.isDir p).1,i64 (y.isDir p).2]∧Hs w0 F w' l:=by
 refine S.f59.calls ?_
 unfold S.f59
 repeat with_reducible first|refine Stp.go ?_|refine StpE.go E ?_|(refine StpW.go E ?_;clear E;intro w_ E)|(refine StpA.go E ?_;clear E;intro b_ w_ hb_ E)
 (revert b_;intro c hbc E)
 refine(C.cons (pt c (oc p.cs Ty.t0))).treeP E hp ?_
 intro a3 ha3 hx3
 refine ha3.ld E hx3 ?_
 repeat with_reducible first|refine Stp.go ?_|refine StpE.go E ?_
 refine And.intro ?left (And.intro ?right trivial)
 case' left=>
  repeat with_reducible refine Stp.go ?_
  refine((C.cons (pt c (oc p.cs Ty.t0))).statT hp E).mono ?_
  clear E
  rintro r w_ ⟨rfl,E⟩
  repeat with_reducible first|refine Stp.go ?_|(refine StpA.go E ?_;clear E;intro b_ w_ hb_ E)
  (revert b_;intro d hbd E)
  (repeat(with_reducible refine And.intro ?_ ?_;focus ((repeat with_reducible refine StpE.go E ?_);exact rfl)))
  refine And.intro ?_ ?_
  ·exact(ha3.weaken λ_ E=>E.tl).ld E hx3 rfl
  (repeat(with_reducible refine And.intro ?_ ?_;focus ((repeat with_reducible refine StpE.go E ?_);exact rfl)))
 case' right=>
  repeat with_reducible (refine StpA.go E ?_;clear E;intro b_ w_ hb_ E)
  (revert b_;intro d hbd E)
  (repeat(with_reducible refine And.intro ?_ ?_;focus ((repeat with_reducible refine StpE.go E ?_);exact rfl)))
  refine And.intro ?_ ?_
  ·exact(ha3.weaken λ_ E=>E.tl).ld E hx3 rfl
  (repeat(with_reducible refine And.intro ?_ ?_;focus ((repeat with_reducible refine StpE.go E ?_);exact rfl)))
  repeat with_reducible refine Stp.go ?_
  refine(((C.cons (pt c (oc p.cs Ty.t0))).cons (pt d (oc d0.cs Ty.t9))).statT hp E).mono ?_
  clear E
  rintro r w_ ⟨rfl,E⟩
  repeat with_reducible first|refine Stp.go ?_|refine StpE.go E ?_|(refine StpW.go E ?_;clear E;intro w_ E)
 all_goals (repeat with_reducible first|refine Stp.go ?_|refine StpE.go E ?_|(refine StpW.go E ?_;clear E;intro w_ E))
 all_goals
  refine Bi.neq ?_ ?_<;>intro he
  ·refine⟨?_,E.tl.tl⟩
   unfold Sy.isDir Sy.tr
   simp[he]
  ·refine⟨?_,E.tl.tl⟩
   unfold Sy.isDir Sy.tr
   simp[he]
set_option maxRecDepth 100000
set_option linter.unusedVariables false
set_option linter.unusedSimpArgs false
variable {w0 w:World} {F:Nat→Prop} {l r1 r2 r3:List As}
variable {R:List RowS} {D:List Row} {Xs:List PT} {tA:List Nat} {M:TbM} {K:SpM} {N:Int} {y:Sy}
theorem RdS.srcS{P:Program}{n sz:Nat}{v:Value}{xs:List Value}(h:RdS w0 F l sz n v xs)(hz:0<sz)(E:Hs w0 F w l)(hs:xs.all scalV=true):Src P sz w v n xs:=by
 obtain⟨a,c,rfl,hc,hl,hx⟩:=h
 refine⟨λ_=>rfl,λw' hw=>?_,hl,hs⟩
 rcases hx with rfl|⟨q,rfl,hq⟩
 ·have:n=0:=by
   rcases Nat.mul_eq_zero.1 hl.symm with h|h
   ·exact h
   ·omega
  subst this
  cases a with
  |none=>rfl
  |some a=>simp[Builtin.firstCells,loadCells,loadCellsFrom]
 ·refine run_firstCells_some w' sz n q n c xs hl λj v hj=>?_
  rcases hq with rfl|⟨b,o,rfl,hq⟩
  ·cases hj
  ·rw[add_mk]
   have:=hq w E j v hj
   unfold World.cell? at this ⊢
   rw[hw];exact this
theorem BdS.zeroS{P:Program}{t e:TypeId}{sz:Nat}{k:Value→World→Prop}(E:Hs w0 F w l)(h1:P.underlying t=some (.slice e))(h2:sizeK P e=some sz)
  (hk:∀v w',Hs w0 F w' (slA v e sz []::l)→k v w'):Ef P (Instr.buildSlice t 0 #[]) w k:=by
 refine⟨.slice (some ⟨w.heap.size,0,none⟩) 0 0,w.alloc (.cells #[] e),?_,hk _ _ (E.add (Upd.alloc w _) ⟨.inr ⟨w.heap.size,0,0,0,[],[],(0,0),rfl,?_,rfl,by simp,by simp,Nat.le_refl _,Free.zero _⟩⟩ λb hb=>?_)⟩
 ·have hr:Array.range 0=#[]:=rfl
  simp[Instr.buildSlice,run_underlying h1,run_sizeK h2,Instr.fill,newRow,run_newObj',hr]
 ·rw[heap_alloc_new];simp[ocf]
 ·have hb:some w.heap.size=some b:=hb
  cases hb;exact Nat.le_refl _
theorem e_Place:el3 PP Ty.t0=some (some (.agg #[i64 0,i64 0]),2,16):=by kernel_rfl
theorem s_bool:sizeK PP Ty.bool=some 1:=by kernel_rfl
theorem pcs_scal(ps:List Pl):(pcs ps).all scalV=true:=by
 rw[List.all_eq_true]
 intro v hv
 obtain⟨p,-,hp⟩:=List.mem_flatMap.1 hv
 rcases List.mem_cons.1 hp with rfl|hp
 ·rfl
 ·rw[List.mem_singleton.1 hp];rfl
theorem bcs_scal(bs:List Bool):(bcs bs).all scalV=true:=by
 rw[List.all_eq_true]
 intro v hv
 obtain⟨b,-,rfl⟩:=List.mem_map.1 hv
 rfl
theorem CloneP_ok{v:Value}{ps:List Pl}(h:RdS w0 F l 2 ps.length v (pcs ps))(hl:ps.length≤100000)(E:Hs w0 F w l):
  Ca PP Fn.f10 #[v] w λr w'=>Hs w0 F w' (slA r Ty.t0 2 (pcs ps)::l):=by
 refine S.f10.calls ?_
 unfold S.f10
 have h':=h
 obtain⟨a,c,rfl,hc,hln,hx⟩:=h'
 cases a with
 |none=>
  have h0:pcs ps=[]:=by
   rcases hx with h1|⟨p,h1,_⟩
   ·exact h1
   ·cases h1
  rw[h0]
  refine Eq.et u_sl_Place rfl ?_
  repeat with_reducible refine Stp.go ?_
  exact Hs.nilSl E _ _
 |some a=>
  refine Eq.ef u_sl_Place rfl ?_
  repeat with_reducible refine Stp.go ?_
  refine BdS.zeroS E u_sl_Place s_Place ?_
  clear E
  intro v1 w_ E
  refine Ap.el E (i:=0) rfl u_sl_Place ⟨_,u_sl_Place,λ_ h=>by cases h⟩ e_Place (by omega) (RdS.srcS (h.cons _) (by omega) E (pcs_scal ps)) rfl (by show(0 / 2+ps.length)*16≤_;omega) (by show 0 / 2+ps.length≤_;omega) ?_
  clear E
  intro v2 w_ E
  (try simp only[List.set_cons_zero,List.set_cons_succ,List.cons_append,List.nil_append,Nat.zero_add,Nat.add_zero]at E)
  exact E
theorem CloneB_ok{v:Value}{bs:List Bool}(h:RdS w0 F l 1 bs.length v (bcs bs))(hl:bs.length≤100000)(E:Hs w0 F w l):
  Ca PP Fn.f48 #[v] w λr w'=>Hs w0 F w' (slA r Ty.bool 1 (bcs bs)::l):=by
 refine S.f48.calls ?_
 unfold S.f48
 have h':=h
 obtain⟨a,c,rfl,hc,hln,hx⟩:=h'
 cases a with
 |none=>
  have h0:bcs bs=[]:=by
   rcases hx with h1|⟨p,h1,_⟩
   ·exact h1
   ·cases h1
  rw[h0]
  refine Eq.et u_sl_bool rfl ?_
  repeat with_reducible refine Stp.go ?_
  exact Hs.nilSl E _ _
 |some a=>
  refine Eq.ef u_sl_bool rfl ?_
  repeat with_reducible refine Stp.go ?_
  refine BdS.zero E u_sl_bool s_bool ?_
  clear E
  intro v1 w_ E
  refine Ap.one E (i:=0) rfl u_sl_bool ⟨_,u_sl_bool,λ_ h=>by cases h⟩ e_bool (RdS.src (h.cons _) E (bcs_scal bs)) rfl (by simp;omega) (by simp;omega) ?_
  clear E
  intro v2 w_ E
  (try simp only[List.set_cons_zero,List.set_cons_succ,List.cons_append,List.nil_append,Nat.zero_add,Nat.add_zero]at E)
  exact E

theorem where_okM{path:BA}(hp:path.size≤1000000)(C:Ctx l R D Xs tA M K N y)[hS:FPt l K.a (spO K M.a y.sp) r1][hT:FPt l M.a (tbO M) r2][hW:FWP l Xs D r3](E:Hs w0 F w l):
  Ca PP Fn.f41 #[ptr K.a,str path] w λr w'=>∃v,r=.tuple #[v,i64 (y.where_ path).2]∧Hs w0 F w' (slA v Ty.t0 2 (pcs (y.where_ path).1)::l):=by
 refine S.f41.calls ?_
 unfold S.f41
 refine(place_okM hp C E).mono ?_
 clear E
 rintro r w_ ⟨rfl,E⟩
 repeat with_reducible first|refine Stp.go ?_|(refine StpW.go E ?_;clear E;intro w_ E)|(refine StpA.go E ?_;clear E;intro b_ w_ hb_ E)
 (revert b_;intro q hbq E)
 refine Bi.neq ?_ ?_<;>intro he<;>(repeat with_reducible first|refine Stp.go ?_|refine StpE.go E ?_|(refine StpW.go E ?_;clear E;intro w_ E))
 ·have e:y.where_ path=([],(y.place path).2):=by unfold Sy.where_;rw[if_pos he]
  rw[e]
  exact⟨_,rfl,Hs.nilSl E.tl _ _⟩
 ·have e:y.where_ path=((standM y.tb.ms (y.place path).1).1,0):=by unfold Sy.where_;rw[if_neg (λh=>h he)]
  rw[e]
  have C2:=C.cons (pt q (oc (y.place path).1.cs Ty.t0))
  have ht:=place_ok C.inv path
  generalize (y.place path).1=p at*
  refine(stand_okM (M:=M) (p:=p) C2.mv C2.tb C2.pool C2.inv.tb E).mono ?_
  clear E
  rintro r w_ ⟨v1,v2,A,rfl,E,g1,g2⟩
  repeat with_reducible refine Stp.go ?_
  obtain⟨s1,s2,s3,s4⟩:=stand_ok C.inv.tb ht
  refine(CloneP_ok g1 (by omega) E).mono ?_
  clear E
  rintro r w_ E
  skip
  exact⟨_,rfl,E.drop (((List.sublist_cons_self _ _).trans (List.sublist_cons_self _ _)).cons_cons _)⟩
set_option maxRecDepth 100000
set_option linter.unusedVariables false
set_option linter.unusedSimpArgs false
variable {w0 w:World} {F:Nat→Prop} {l r1 r2 r3:List As}
variable {R:List RowS} {D:List Row} {Xs:List PT} {tA:List Nat} {M:TbM} {K:SpM} {N:Int} {y:Sy}
theorem flags_ok{flag:Int}(E:Hs w0 F w l):Ca PP Fn.space_flags #[i64 flag] w λr w'=>r=.tuple #[i64 (wayF flag),.bool (markF flag),.bool (flagOk flag)]∧Hs w0 F w' l:=by
 refine S.space_flags.calls ?_
 unfold S.space_flags
 refine Bi.clr' ?_
 refine Bi.and' ?_
 refine Bi.neq ?_ ?_<;>intro hm
 ·(intro J4 hJ4)
  have go:∀b:Bool,b=flagOk flag→J4 [i64 (clrI flag 4),.bool true,.bool b] w:=by
   intro b hb
   repeat with_reducible (apply hJ4;intro u_)
   refine⟨?_,E⟩
   rw[hb,show markF flag=true by unfold markF;simp[hm]]
   rfl
  clear hJ4
  refine Bi.geq ?_ ?_<;>intro h0<;>(repeat with_reducible refine Stp.go ?_)
  ·refine Bi.leq ?_ ?_<;>intro h1<;>(repeat with_reducible refine Stp.go ?_)
   ·exact go _ (by unfold flagOk wayF;simp;omega)
   ·exact go _ (by unfold flagOk wayF;simp;omega)
  ·exact go _ (by unfold flagOk wayF;simp;omega)
 ·(intro J4 hJ4)
  have go:∀b:Bool,b=flagOk flag→J4 [i64 (clrI flag 4),.bool false,.bool b] w:=by
   intro b hb
   repeat with_reducible (apply hJ4;intro u_)
   refine⟨?_,E⟩
   rw[hb,show markF flag=false by unfold markF;simp[hm]]
   rfl
  clear hJ4
  refine Bi.geq ?_ ?_<;>intro h0<;>(repeat with_reducible refine Stp.go ?_)
  ·refine Bi.leq ?_ ?_<;>intro h1<;>(repeat with_reducible refine Stp.go ?_)
   ·exact go _ (by unfold flagOk wayF;simp;omega)
   ·exact go _ (by unfold flagOk wayF;simp;omega)
  ·exact go _ (by unfold flagOk wayF;simp;omega)

theorem IndexP_ok{v:Value}{ps:List Pl}{p:Pl}(hn:ps.length≤100000)(h:RdS w0 F l 2 ps.length v (pcs ps))(E:Hs w0 F w l):
  Ca PP Fn.f18 #[v,p.V] w λr w'=>r=i64 (if p∈ps then(ps.idxOf p:Int)else -1)∧Hs w0 F w' l:=by
 refine S.f18.calls ?_
 unfold S.f18
 repeat with_reducible (refine StpA.go E ?_;clear E;intro b_ w_ hb_ E)
 (revert b_;intro q hbq E)
 refine h.len ?_
 refine⟨λl1 w1=>∃i:Nat,l1=[i64 i]∧i≤ps.length∧p∉ps.take i∧Hs w0 F w1 (pt q (oc p.cs Ty.t0)::l),λl1 _=>match l1 with|[.int _ i]=>ps.length-i.toNat|_=>0,⟨0,rfl,Nat.zero_le _,by simp,E⟩,?_⟩
 clear E
 rintro t u1 w1 ⟨i,e,hi,hx,E⟩
 cases e
 refine Bi.lss ?_ ?_<;>intro hlt<;>(repeat with_reducible first|refine Stp.go ?_|refine StpE.go E ?_|(refine StpW.go E ?_;clear E;intro w_ E))
 ·have hi1:i<ps.length:=by omega
  have hd:(pcs ps).drop (((i:Int)).toNat*2)=ps[i].cs++pcs (ps.drop (i+1)):=by
   rw[Int.toNat_natCast,pcs_drop,List.drop_eq_getElem_cons hi1];rfl
  refine(h.cons (pt q (oc p.cs Ty.t0))).ix (by omega) (by omega) (by omega) ?_
  intro a ha
  rw[hd]at ha
  refine ha.lda E (m:=2) (ds:=ps[i].cs) rfl rfl (by omega) ?_
  refine EqS.pl (p:=p) (q:=ps[i]) ?_
  have htk:ps.take (i+1)=ps.take i++[ps[i]]:=by rw[List.take_add_one,List.getElem?_eq_getElem hi1];rfl
  by_cases hp:p=ps[i]
  ·rw[decide_eq_true hp]
   repeat with_reducible refine Stp.go ?_
   refine⟨?_,E.tl⟩
   have hm:p∈ps:=by rw[hp];exact List.getElem_mem hi1
   rw[if_pos hm]
   have e:ps=ps.take i++ps.drop i:=(List.take_append_drop i ps).symm
   have e2:ps.idxOf p=i:=by
    rw[e,List.idxOf_append,if_neg hx,List.drop_eq_getElem_cons hi1,← hp,List.idxOf_cons_self,List.length_take]
    omega
   rw[e2]
  ·rw[decide_eq_false hp]
   repeat with_reducible refine Stp.go ?_
   refine Bi.add (by omega) ?_
   refine⟨⟨i+1,by simp,by omega,?_,E⟩,by simp only[];omega⟩
   rw[htk,List.mem_append,not_or]
   exact⟨hx,by simpa using hp⟩
 ·have:ps.take i=ps:=List.take_of_length_le (by omega)
  rw[this]at hx
  rw[if_neg hx]
  exact⟨rfl,E.tl⟩
theorem ContainsP_ok{v:Value}{ps:List Pl}{p:Pl}(hn:ps.length≤100000)(h:RdS w0 F l 2 ps.length v (pcs ps))(E:Hs w0 F w l):
  Ca PP Fn.f20 #[v,p.V] w λr w'=>r=.bool (decide (p∈ps))∧Hs w0 F w' l:=by
 refine S.f20.calls ?_
 unfold S.f20
 repeat with_reducible first|refine StpE.go E ?_|(refine StpA.go E ?_;clear E;intro b_ w_ hb_ E)
 refine(IndexP_ok hn (h.cons _) E).mono ?_
 clear E
 rintro r w_ ⟨rfl,E⟩
 by_cases hp:p∈ps
 ·rw[if_pos hp]
  refine Bi.geq (λ_=>?_) (λh=>absurd h (by omega))
  exact⟨by rw[decide_eq_true hp],E.tl⟩
 ·rw[if_neg hp]
  refine Bi.geq (λh=>absurd h (by omega)) (λ_=>?_)
  exact⟨by rw[decide_eq_false hp],E.tl⟩
end Go.Proofs.YtjffgllkfbcaeaaGreatDoor