/-
 TreeRestores: the law.
-/
import Derived.Test.YthapmhhihfedcaaGreatDoorTo5
import Derived.Test.YthapmhhihfedcaaGreatDoorRe6
import Derived.Test.YthapmhhihfedcaaGreatDoorRq19
import Derived.Test.YthapmhhihfedcaaGreatDoorSh28
namespace Go.Proofs.YthapmhhihfedcaaGreatDoor
open Go Go.Sh
set_option maxRecDepth 100000
set_option linter.unusedVariables false
set_option linter.unusedSimpArgs false
variable {w0 w:World} {F:Nat→Prop} {l:List As}
theorem fsm_files{T:Tr}(hi:Inv T)(hm:∀n∈T.ns,rngI n.mode):fsm T.files:=by
 intro f hf
 obtain⟨n,hn,rfl⟩:=(files_mem hi).1 hf
 have h1:=path_size hi hn
 have h2:=hi.form n hn
 refine⟨by show(T.pathS n).size≤1000000;omega,?_,?_,?_,hm n hn⟩
 ·by_cases h0:n.path=0
  ·show n.name.size≤1000000
   rw[hi.rootN n hn h0];show 0≤1000000;omega
  ·have:=good_size (hi.good n hn h0)
   show n.name.size≤1000000
   omega
 ·have:=good_size h2.1
  show n.owner.size≤1000000
  omega
 ·have:=good_size h2.2.1
  show n.group.size≤1000000
  omega
theorem fsz_of{fs:List Fl}(h:fsm fs):fszs fs:=λf hf=>by
 obtain⟨h1,h2,h3,h4,-⟩:=h f hf
 exact⟨by omega,by omega,by omega,by omega⟩
theorem check_sub{gs:Gs}{names:List BA}(h:checkG gs names=0):checkG gs []=0:=by
 unfold checkG at h ⊢
 split at h
 ·cases h
 rename_i h1
 split at h
 ·cases h
 rename_i h2
 split at h
 ·cases h
 rename_i h3
 rw[if_neg h1,if_neg,if_neg h3]
 intro hc
 refine h2 ?_
 rw[List.nil_append]at hc
 rw[List.any_append,hc,Bool.or_true]
theorem bare_eq{S T:Tr}(hs:Inv S)(ht:Inv T)(hf:S.files=T.files)(h1:S.hs=[])(h2:S.gs=T.gs)(h3:S.clock=T.clock)(h4:S.next=T.next):S=T.bare:=by
 have:=files_inj hs ht hf
 cases S;cases T
 simp only at this h1 h2 h3 h4
 subst this h1 h2 h3 h4
 rfl
theorem rd_dcs{v:Value}{ds:List Dr}(h:slA v Ty.t28 10 (dcs ds)∈l)(E:Hs w0 F w l):RdS w0 F l 10 ds.length v (dcs ds):=by
 have:=RdS.sl h (by omega) E
 rwa [dcs_len,Nat.mul_div_cancel _ (by omega)]at this
set_option maxHeartbeats 4000000 in
theorem Restores_law{D:List Row}{gV v mV cV:Value}{gv:List (BA×Value)}{gs:Gs}{owner:BA}{xs ys:List Ac}{zs:List Spl}{clock next:Int}(hg:∀l,GIn w0 F l gV gv gs)(hb:ssz owner gs≤1048576)(hok:∀x∈xs,x.Ok)(hxl:xs.length≤9223372036854775807)(hr:∀l,RdS w0 F l 20 xs.length v (acs xs))(hok2:∀x∈ys,x.Ok)(hyl:ys.length≤9223372036854775807)(hr2:∀l,RdS w0 F l 20 ys.length mV (acs ys))
  (hzl:zs.length≤9223372036854775807)(hr3:∀l,RdS w0 F l 4 zs.length cV (scs zs))(hzn:∀y∈zs,rngI y.num)(E:Hs w0 F w (Pool D::l)):
  Ca PP Fn.f70 #[.agg #[str owner,gV],v,.agg #[mV,cV,i64 clock,i64 next]] w λr w'=>r=.bool true∧∃l',Hs w0 F w' l':=by
 refine S.f70.calls ?_
 unfold S.f70
 refine StpA.go E ?_
 clear E
 intro q w_ hq E
 refine StpA.go E ?_
 clear E
 intro xb w_ hxb E
 (replace E:=(E.bIx 2))
 refine(awake_ok E).mono ?_
 clear E
 rintro r w_ ⟨rfl,D',-,E⟩
 repeat with_reducible refine Stp.go ?_
 (replace E:=(((E.bIx 1).bIx 2).bIx 2))
 (intro J8 hJ8)
 have fin8:∀b w_,(b=false→ssz owner gs≤2000∧xs.length≤40∧ys.length≤40∧zs.length≤3∧∀y∈zs,y.text.size≤600)→Hs w0 F w_ (Pool D'::pt q (oc [str owner,gV] Ty.t34)::pt xb (oc [mV,cV,i64 clock,i64 next] Ty.t35)::l)→J8 [.bool b] w_:=by
  intro b w_ hb E
  repeat with_reducible (apply hJ8;intro u_)
  clear hJ8
  cases b with
  |true=>(repeat with_reducible refine Stp.go ?_);exact⟨rfl,_,E⟩
  |false=>
   obtain⟨hs1,hx1,hy1,hz1,hz2⟩:=hb rfl
   obtain⟨-,hgl,hgu⟩:=ssz_parts hs1
   repeat with_reducible first|refine Stp.go ?_|refine StpE.go E ?_
   refine(played_ok (owner:=owner) (hg _) (by omega) (λg h=>by have:=(hgu g h).2.1;omega) (λs h=>by have:=ssz_words hs1 s h;omega) hok hx1 (hr _) E).mono ?_
   clear E
   rintro r w_ (⟨hc,rfl,E⟩|⟨hc,D1,X,β,rfl,hD1,h,hi,hlim,E⟩)
   ·skip
    refine Eq.et u_p_tree rfl ?_
    repeat with_reducible refine Stp.go ?_
    exact⟨rfl,_,E⟩
   refine Eq.ef u_p_tree rfl ?_
   repeat with_reducible first|refine Stp.go ?_|refine StpE.go E ?_|(refine StpW.go E ?_;clear E;intro w_ E)
   have hgm:Gm gs ((newT owner gs).acts xs):=Gm.acts (Gm.new owner) hok
   generalize (newT owner gs).acts xs=T at h hi hlim hgm
   have hfsm:=fsm_files hi hgm.2
   have hfl:=files_len hi
   have hc0:=check_sub hc
   have hbi:=bare_inv hi
   have hbl:=bare_lim hlim
   have hul:∀g∈gs,g.2.length≤100000:=λg h=>by have:=(hgu g h).2.1;omega
   have hsw:∀s∈gwords gs,s.size≤9223372036854775807:=λs h=>by have:=ssz_words hs1 s (List.mem_append_right _ h);omega
   refine(Files_ok h hi E).mono ?_
   clear E
   intro fv w_ E
   refine⟨by (repeat with_reducible refine StpE.go E ?_);rfl,?_⟩
   (replace E:=((E.bIx 0).bIx 1))
   refine(Clock_ok h E).mono ?_
   clear E
   rintro r w_ ⟨rfl,E⟩
   refine⟨by (repeat with_reducible refine StpE.go E ?_);rfl,?_⟩
   refine(Next_ok h E).mono ?_
   clear E
   rintro r w_ ⟨rfl,E⟩
   refine⟨by (repeat with_reducible refine StpE.go E ?_);rfl,?_⟩
   (replace E:=(((E.bIx 1).bIx 1).bIx 2))
   have r1:=RdS.sl (T:=Ty.t12) (sz:=12) (v:=fv) (xs:=fcs T.files) (by simp) (by omega) E.tl
   rw[fcs_len,Nat.mul_div_cancel _ (by omega)]at r1
   refine Ca.mono (Restore_ok (hg _) (by omega) hul hsw r1 (by omega) (fsz_of hfsm) E) ?_
   clear E r1
   rintro r w_ (⟨e,rfl,-,h1⟩|⟨-,-,-,D2,Xa,βa,S,rfl,hD2,ha,hsi,s1,s2,s3,s4,s5,E⟩)
   ·exfalso
    rcases h1 with⟨h1,-⟩|⟨-,h1,-⟩|⟨-,-,h1,-⟩
    ·exact h1 hc0
    ·omega
    ·exact h1 ⟨hi.clock,T,hi,rfl,rfl⟩
   obtain rfl:S=T.bare:=bare_eq hsi hi s5 s1 (by rw[s2,hgm.1]) s3 s4
   clear hsi s1 s2 s3 s4 s5
   replace h:=h.monoD hD2
   repeat with_reducible refine Stp.go ?_
   (intro J32 hJ32)
   have fin32:∀w_,Hs w0 F w_ (trA Xa::trA X::Pool D2::pt q (oc [str owner,gV] Ty.t34)::pt xb (oc [mV,cV,i64 clock,i64 next] Ty.t35)::l)→J32 [.bool false] w_:=by
    intro w_ E
    repeat with_reducible first|refine Stp.go ?_|(apply hJ32;intro u_)
    clear hJ32
    (replace E:=(((E.bIx 0).bIx 2).bIx 2))
    refine(TClone_ok h hi E).mono ?_
    clear E
    rintro r w_ ⟨D3,Xb,βb,rfl,hD3,hb',E⟩
    replace ha:=ha.monoD hD3
    replace h:=h.monoD hD3
    repeat with_reducible first|refine Stp.go ?_|refine StpE.go E ?_
    refine(hr2 l).len ?_
    (replace E:=((((E.bIx 1).bIx 2).bIx 2).bIx 3))
    refine⟨λl1 w1=>∃(i:Nat) (D':List Row) (Xa':PT) (βa':Int→Nat) (Xb':PT) (βb':Int→Nat),l1=[i64 i]∧i≤ys.length∧(∀x∈D3,x∈D')∧Xa'.t=Xa.t∧Xb'.t=Xb.t∧Tie D' Xa' (T.bare.acts (ys.take i)) βa'∧Tie D' Xb' (T.bare.acts (ys.take i)) βb'∧
      Hs w0 F w1 (trA Xa'::trA Xb'::Pool D'::trA X::pt q (oc [str owner,gV] Ty.t34)::pt xb (oc [mV,cV,i64 clock,i64 next] Ty.t35)::l),
     λl1 _=>match l1 with|[.int _ i]=>ys.length-i.toNat|_=>0,⟨0,D3,Xa,βa,Xb,βb,rfl,Nat.zero_le _,λ_ h=>h,rfl,rfl,ha,hb',E⟩,?_⟩
    clear E
    rintro t94 u w_ ⟨i,D4,Xa',βa',Xb',βb',h4',hle,hD4,hta,htb,hTa,hTb,E⟩
    cases h4'
    have hi':=acts_inv (ys.take i) hbi
    have hl':=acts_lim (ys.take i) (by omega) hbl
    have htl:(ys.take i).length≤40:=by rw[List.length_take];omega
    have hl2:Lim 300 (T.bare.acts (ys.take i)):=hl'.mono (by omega)
    replace h:=h.monoD hD4
    refine Bi.lss ?_ ?_<;>intro hlt<;>(repeat with_reducible refine Stp.go ?_)
    ·have hx:ys[i]? =some ys[i]:=List.getElem?_eq_getElem (by omega)
     have hxo:ys[i].Ok:=hok2 _ (List.getElem_mem _)
     generalize ys[i]=x at hx hxo
     have hat:=acs_at hx
     refine(hr2 (trA Xa'::trA Xb'::Pool D4::trA X::pt q (oc [str owner,gV] Ty.t34)::pt xb (oc [mV,cV,i64 clock,i64 next] Ty.t35)::l)).ix (by omega) (by omega) (by omega) ?_
     intro a ha'
     rw[Int.toNat_natCast]at ha'
     refine ha'.lda E hat rfl (by omega) ?_
     repeat with_reducible (refine StpA.go E ?_;clear E;intro b_ w_ hb_ E)
     (revert b_;intro b hbb E)
     refine StA.all (vs:=x.C) E rfl rfl (ac_scal x) ?_
     clear E
     intro w_ E
     repeat with_reducible first|refine StpE.go E ?_|(refine StpW.go E ?_;clear E;intro w_ E)
     (replace E:=((E.bIx 3).bIx 2))
     rw[← hta]
     refine(Do_ok (x:=x) hTa hi' (by omega) hl2 hxo E).mono ?_
     clear E
     rintro r w_ ⟨dv,rfl,D5,Xa5,βa5,hD5,hta5,hTa5,E⟩
     refine⟨by (repeat with_reducible refine StpE.go E ?_);rfl,?_⟩
     (replace E:=((E.bIx 1).bIx 4))
     rw[← htb]
     refine(Do_ok (x:=x) (hTb.monoD hD5) hi' (by omega) hl2 hxo E).mono ?_
     clear E
     rintro r w_ ⟨dv2,rfl,D6,Xb6,βb6,hD6,htb6,hTb6,E⟩
     have hdl:=act_dirs hi' x
     have q1:=rd_dcs (v:=dv) (ds:=((T.bare.acts (ys.take i)).act x).2.dirs) (by simp) E
     have q2:=rd_dcs (v:=dv2) (ds:=((T.bare.acts (ys.take i)).act x).2.dirs) (by simp) E
     refine(Same_ok (by omega) E q1 q2).mono ?_
     clear E q1 q2
     rintro r w_ ⟨rfl,E⟩
     refine Un.not ?_
     simp only[Bool.not_true]
     repeat with_reducible refine Stp.go ?_
     refine Bi.add (by omega) ?_
     have e:T.bare.acts (ys.take (i+1))=((T.bare.acts (ys.take i)).act x).1:=by
      rw[List.take_add_one,hx]
      exact acts_snoc _ _ _
     refine⟨⟨i+1,D6,Xa5,βa5,Xb6,βb6,by simp,by omega,λy hy=>hD6 y (hD5 y (hD4 y hy)),by rw[hta5,hta],by rw[htb6,htb],by rw[e];exact hTa5.monoD hD6,by rw[e];exact hTb6,?_⟩,by simp only[];omega⟩
     (replace E:=(((((((((E.bIx 5).bIx 5).bIx 4).bIx 8).bIx 8).bIx 8).bIx 7).bIx 7).bIx 8))
     exact E.drop (List.Sublist.cons_cons _ (List.Sublist.cons_cons _ (List.Sublist.cons_cons _ (List.Sublist.cons_cons _ (List.Sublist.cons_cons _ (List.Sublist.cons_cons _ (List.sublist_append_right [_,_,_] l)))))))
    have e:ys.take i=ys:=List.take_of_length_le (by omega)
    rw[e]at hTa hTb hi'
    (intro J64 hJ64)
    have fin64:∀w_,Hs w0 F w_ (trA X::Pool D4::pt q (oc [str owner,gV] Ty.t34)::pt xb (oc [mV,cV,i64 clock,i64 next] Ty.t35)::l)→J64 [.bool false] w_:=by
     intro w_ E
     repeat with_reducible first|refine Stp.go ?_|refine StpE.go E ?_|(refine StpW.go E ?_;clear E;intro w_ E)|(apply hJ64;intro u_)
     clear hJ64
     refine(Files_ok h hi E).mono ?_
     clear E
     intro fv2 w_ E
     refine⟨by (repeat with_reducible refine StpE.go E ?_);rfl,?_⟩
     have r2:=RdS.sl (T:=Ty.t12) (sz:=12) (v:=fv2) (xs:=fcs T.files) (by simp) (by omega) E
     rw[fcs_len,Nat.mul_div_cancel _ (by omega)]at r2
     refine(spoilt_ok r2 (by omega) hfsm (hr3 _) (by omega) (λy hy=>⟨hz2 y hy,hzn y hy⟩) E).mono ?_
     clear E r2
     rintro sv w_ ⟨fs,hfs1,hfs2,E⟩
     refine LnL.rw fl12 E (List.mem_of_getElem? (i:=0) rfl) (by omega) ?_
     have E1:=Hs.nilSl E Ty.t40 12
     clear E
     have E:=E1
     clear E1
     refine⟨λl1 w1=>∃(i:Nat) (rv:Value),l1=[rv,i64 i]∧i≤fs.length∧Hs w0 F w1 (slA rv Ty.t40 12 (fcs (fs.take i))::slA sv Ty.t12 12 (fcs fs)::slA fv2 Ty.t12 12 (fcs T.files)::trA X::Pool D4::pt q (oc [str owner,gV] Ty.t34)::pt xb (oc [mV,cV,i64 clock,i64 next] Ty.t35)::l),
      λl1 _=>match l1 with|[_,.int _ i]=>fs.length-i.toNat|_=>0,⟨0,.slice none 0 0,rfl,Nat.zero_le _,E⟩,?_⟩
     clear E
     rintro t14 t125 u2 w_ ⟨i,rv,h4,hil,E⟩
     cases h4
     refine Bi.lss ?_ ?_<;>intro hlt2<;>(repeat with_reducible first|refine Stp.go ?_|refine StpE.go E ?_)
     ·have hx:fs[i]? =some (fs[i]'(by omega)):=List.getElem?_eq_getElem (by omega)
      obtain⟨f,hfe⟩:∃f,fs[i]'(by omega)=f:=⟨_,rfl⟩
      rw[hfe]at hx
      clear hfe
      refine IxA.rw fl12 E (List.mem_of_getElem? (i:=1) rfl) (by omega) (by omega) (by omega) ?_
      rw[Int.toNat_natCast]
      intro a1 h1
      skip
      refine LdA.rw fl12 E (List.mem_of_getElem? (i:=1) rfl) (show Elp sv (i*12+0) a1 from h1) hx (by omega) (ds:=f.cs) rfl rfl ?_
      repeat with_reducible (refine StpA.go E ?_;clear E;intro b_ w_ hb_ E)
      (revert b_;intro fb hbfb E)
      refine StA.all (vs:=f.cs) E rfl rfl (fl_scal f) ?_
      clear E
      intro w_ E
      repeat with_reducible first|refine Stp.go ?_|refine StpE.go E ?_
      refine BdS.fl28 (x:=f) E ?_
      clear E
      intro v1 w_ E
      refine Ap.el E (i:=2) rfl u_sl_File28 ⟨_,u_sl_File28,λ_ h=>by cases h⟩ e_File28 (by omega) (Src.slice (show SliceAt v1 Ty.t40 12 f.cs w_ from E.sat _ (List.mem_of_getElem? (i:=0) rfl)) rfl (by omega) rfl) rfl (by rw[fcs_len,List.length_take];omega) (by rw[fcs_len,List.length_take];omega) ?_
      clear E
      intro v2 w_ E
      (try simp only[List.set_cons_zero,List.set_cons_succ,List.cons_append,List.nil_append,Nat.zero_add,Nat.add_zero]at E)
      skip
      refine Bi.add (by omega) ?_
      refine⟨⟨i+1,v2,by simp,by omega,?_⟩,by simp only[];omega⟩
      rw[List.take_add_one,hx,show fcs (fs.take i++(some f).toList)=fcs (fs.take i)++f.cs by simp[fcs]]
      exact E.tl.tl
     rw[show fs.take i=fs from List.take_of_length_le (by omega)]at E
     (replace E:=(((((E.bIx 3).bIx 3).bIx 3).bIx 3).bIx 4))
     have r3:=RdS.sl (T:=Ty.t12) (sz:=12) (v:=sv) (xs:=fcs fs) (List.mem_of_getElem? (i:=1) rfl) (by omega) E.tl
     rw[fcs_len,Nat.mul_div_cancel _ (by omega)]at r3
     refine Ca.mono (Restore_ok (clock:=clock) (next:=next) (hg _) (by omega) hul hsw r3 (by omega) (fsz_of hfs2) E) ?_
     clear E r3
     intro r w_ hq
     have key:∃(cv:Value) (e:Int) (A:As),r=.tuple #[cv,i64 e]∧Hs w0 F w_ (A::slA t14 Ty.t40 12 (fcs fs)::slA sv Ty.t12 12 (fcs fs)::slA fv2 Ty.t12 12 (fcs T.files)::trA X::pt q (oc [str owner,gV] Ty.t34)::pt xb (oc [mV,cV,i64 clock,i64 next] Ty.t35)::l)∧
       ∀(g:Int) (w:World) (k:List As),(next≤4096→((0≤clock∧Good fs next)→g=0)∧(¬(0≤clock∧Good fs next)→g=2))→Hs w0 F w (k++(A::slA t14 Ty.t40 12 (fcs fs)::slA sv Ty.t12 12 (fcs fs)::slA fv2 Ty.t12 12 (fcs T.files)::trA X::pt q (oc [str owner,gV] Ty.t34)::pt xb (oc [mV,cV,i64 clock,i64 next] Ty.t35)::l))→TailT sv cv (i64 e) (i64 g) (i64 next) (ptr xb) w λr w'=>r=.bool true∧∃l',Hs w0 F w' l':=by
      rcases hq with⟨e,rfl,⟨D5,-,E⟩,h1⟩|⟨-,-,h0,D5,Xc,βc,S,rfl,hD5,hc',hsi,s1,s2,s3,s4,s5,E⟩
      ·refine⟨np,e,Pool D5,rfl,E,λg w k hrel E=>?_⟩
       rcases h1 with⟨h1,-⟩|⟨-,h1,-⟩|⟨-,-,h1,rfl⟩
       ·exact absurd hc0 h1
       ·omega
       ·exact tail_np (by omega) (λhn=>(hrel hn).2 h1) E
      ·refine⟨ptr Xc.t,0,star [trA Xc,Pool D5],rfl,Hs.star (ls:=[_,_]) E,λg w k hrel E=>?_⟩
       have E1:=Hs.unstar (ls:=[trA Xc,Pool D5]) (E.drop (List.sublist_append_right k _))
       clear E
       have E:Hs w0 F w (trA Xc::Pool D5::slA t14 Ty.t40 12 (fcs fs)::slA sv Ty.t12 12 (fcs fs)::slA fv2 Ty.t12 12 (fcs T.files)::trA X::pt q (oc [str owner,gV] Ty.t34)::pt xb (oc [mV,cV,i64 clock,i64 next] Ty.t35)::l):=E1
       clear E1
       (replace E:=((((E.bIx 1).bIx 3).bIx 7).bIx 3))
       exact tail_t hc' hsi s5 s3 s4 (λhn=>(hrel hn).1 ⟨h0,S,hsi,s5,s4⟩) E
     obtain⟨cv,e,A,rfl,E,tail⟩:=key
     clear hq
     have rr:∀(L:List As) (w:World),slA t14 Ty.t40 12 (fcs fs)∈L→Hs w0 F w L→RdS w0 F L 12 fs.length t14 (fcs fs):=λL w hm E=>by
      have:=RdS.sl hm (by omega) E
      rwa [fcs_len,Nat.mul_div_cancel _ (by omega)]at this
     have rel:∀g:Int,((checkG gs []≠0∧g=checkG gs [])∨(checkG gs []=0∧1024<fs.length∧g=3)∨(checkG gs []=0∧fs.length≤1024∧((0≤clock∧Good fs (if 4096<next then 4096 else next))∧g=0∨¬(0≤clock∧Good fs (if 4096<next then 4096 else next))∧g=2)))→
       next≤4096→((0≤clock∧Good fs next)→g=0)∧(¬(0≤clock∧Good fs next)→g=2):=by
      intro g h hn
      rw[if_neg (by omega)]at h
      rcases h with⟨h,-⟩|⟨-,h,-⟩|⟨-,-,⟨h,rfl⟩|⟨h,rfl⟩⟩
      ·exact absurd hc0 h
      ·omega
      ·exact⟨λ_=>rfl,λh'=>absurd h h'⟩
      ·exact⟨λh'=>absurd h' h,λ_=>rfl⟩
     repeat with_reducible first|refine Stp.go ?_|refine StpE.go E ?_|(refine StpW.go E ?_;clear E;intro w_ E)
     refine Mn.mk ?_
     have hgsz:gs.length≤100000:=by omega
     refine⟨?_,?_,trivial⟩
     ·refine(rGroups_ok (hg _) hgsz E).mono ?_
      clear E
      intro rg w_ E
      refine⟨by (repeat with_reducible refine StpE.go E ?_);rfl,by (repeat with_reducible refine StpE.go E ?_);rfl,?_,?_,trivial⟩
      ·refine Ca.mono (rRestore_ok (clock:=clock) (GIn.copy (hg _) (by simp) E) (by omega) hul hsw (rr _ _ (by simp) E) (by omega) hfs2 (by split<;>omega) E) ?_
       clear E
       rintro r w_ ⟨g,n,hh,c,e2,rfl,sg,sn,sh,⟨k,E⟩,hrel⟩
       replace E:=E.drop (List.sublist_append_right k _)
       repeat with_reducible first|refine Stp.go ?_|(refine StpA.go E ?_;clear E;intro b_ w_ hb_ E)
       (revert b_;intro tb hbtb E)
       refine⟨by (repeat with_reducible refine StpE.go E ?_);rfl,by (repeat with_reducible refine StpE.go E ?_);rfl,by (repeat with_reducible refine StpE.go E ?_);rfl,?_⟩
       repeat with_reducible first|refine Stp.go ?_|refine StpE.go E ?_|(refine StpW.go E ?_;clear E;intro w_ E)
       exact tail e2 _ [_,_] (rel e2 hrel) E
      ·(repeat with_reducible (refine StpA.go E ?_;clear E;intro b_ w_ hb_ E))
       (revert b_;intro tb hbtb E)
       refine⟨by (repeat with_reducible refine StpE.go E ?_);rfl,by (repeat with_reducible refine StpE.go E ?_);rfl,by (repeat with_reducible refine StpE.go E ?_);rfl,?_⟩
       refine Ca.mono (rRestore_ok (clock:=clock) (GIn.copy (hg _) (by simp) E) (by omega) hul hsw (rr _ _ (by simp) E) (by omega) hfs2 (by split<;>omega) E) ?_
       clear E
       rintro r w_ ⟨g,n,hh,c,e2,rfl,sg,sn,sh,⟨k,E⟩,hrel⟩
       replace E:=E.drop (List.sublist_append_right k _)
       repeat with_reducible first|refine Stp.go ?_|refine StpE.go E ?_|(refine StpW.go E ?_;clear E;intro w_ E)
       exact tail e2 _ [_,_] (rel e2 hrel) E
     ·(repeat with_reducible (refine StpA.go E ?_;clear E;intro b_ w_ hb_ E))
      (revert b_;intro tb hbtb E)
      refine⟨by (repeat with_reducible refine StpE.go E ?_);rfl,by (repeat with_reducible refine StpE.go E ?_);rfl,by (repeat with_reducible refine StpE.go E ?_);rfl,?_⟩
      refine(rGroups_ok (hg _) hgsz E).mono ?_
      clear E
      intro rg w_ E
      refine⟨by (repeat with_reducible refine StpE.go E ?_);rfl,by (repeat with_reducible refine StpE.go E ?_);rfl,?_⟩
      refine Ca.mono (rRestore_ok (clock:=clock) (GIn.copy (hg _) (by simp) E) (by omega) hul hsw (rr _ _ (by simp) E) (by omega) hfs2 (by split<;>omega) E) ?_
      clear E
      rintro r w_ ⟨g,n,hh,c,e2,rfl,sg,sn,sh,⟨k,E⟩,hrel⟩
      replace E:=E.drop (List.sublist_append_right k _)
      repeat with_reducible first|refine Stp.go ?_|refine StpE.go E ?_|(refine StpW.go E ?_;clear E;intro w_ E)
      exact tail e2 _ [_,_] (rel e2 hrel) E
    clear hJ64
    rw[← hta,← htb]
    refine(equal_ok hTa hi' hTb hi' E).mono ?_
    clear E
    rintro r w_ ⟨b,rfl,hb2,k,E⟩
    obtain rfl:b=true:=hb2.2 ⟨rfl,rfl⟩
    replace E:=E.drop (List.Sublist.cons_cons _ (List.Sublist.cons_cons _ (List.Sublist.cons_cons _ (List.sublist_append_right k _))))
    repeat with_reducible refine Stp.go ?_
    refine(Next_ok hTa E).mono ?_
    clear E
    rintro r w_ ⟨rfl,E⟩
    repeat with_reducible refine Stp.go ?_
    (replace E:=((E.bIx 0).bIx 1))
    refine(Next_ok hTb E).mono ?_
    clear E
    rintro r w_ ⟨rfl,E⟩
    repeat with_reducible refine Stp.go ?_
    refine Bi.neq (λh=>absurd rfl h) λ_=>?_
    repeat with_reducible refine Stp.go ?_
    (replace E:=((((((E.bIx 1).bIx 1).bIx 5).bIx 5).bIx 4).bIx 5))
    exact fin64 _ (E.drop (List.Sublist.cons_cons _ (List.Sublist.cons_cons _ (List.Sublist.cons_cons _ (List.Sublist.cons_cons _ (List.sublist_append_right [_,_] l))))))
   clear hJ32
   repeat first|(with_reducible first|refine Stp.go ?_)|((with_reducible refine Bi.dec false ?_ ?_);focus exact rfl)
   refine Eq.ef u_p_tree rfl ?_
   repeat with_reducible refine Stp.go ?_
   (replace E:=(((E.bIx 1).bIx 2).bIx 2))
   refine(equal_ok ha hbi h hi E).mono ?_
   clear E
   rintro r w_ ⟨b,rfl,hb2,k,E⟩
   obtain rfl:b=true:=hb2.2 ⟨files_bare,rfl⟩
   replace E:=E.drop (List.Sublist.cons_cons _ (List.Sublist.cons_cons _ (List.Sublist.cons_cons _ (List.sublist_append_right k _))))
   repeat with_reducible refine Stp.go ?_
   refine(Next_ok ha E).mono ?_
   clear E
   rintro r w_ ⟨rfl,E⟩
   repeat with_reducible refine Stp.go ?_
   (replace E:=((E.bIx 0).bIx 1))
   refine(Next_ok h E).mono ?_
   clear E
   rintro r w_ ⟨rfl,E⟩
   repeat with_reducible refine Stp.go ?_
   refine Bi.neq (λh=>absurd rfl h) λ_=>?_
   repeat with_reducible refine Stp.go ?_
   (replace E:=((E.bIx 0).bIx 1))
   refine(Handles_ok ha hbi E).mono ?_
   clear E
   intro hv w_ E
   repeat first|(with_reducible first|refine Stp.go ?_|refine StpE.go E ?_)|((with_reducible refine Bi.dec false ?_ ?_);focus exact rfl)
   (replace E:=(((((((E.bIx 4).bIx 1).bIx 6).bIx 6).bIx 6).bIx 6).bIx 6))
   exact fin32 _ (E.drop (List.Sublist.cons_cons _ (List.Sublist.cons_cons _ (List.Sublist.cons_cons _ (List.Sublist.cons_cons _ (List.Sublist.cons_cons _ (List.sublist_append_right [_,_] l)))))))
 clear hJ8
 repeat with_reducible refine StpE.go E ?_
 refine(small_ok (hg _) hb E).mono ?_
 clear E
 rintro r w_ ⟨rfl,E⟩
 refine Un.not ?_
 cases hs:decide (ssz owner gs≤2000)with
 |false=>
  simp only[Bool.not_false]
  repeat with_reducible refine Stp.go ?_
  exact fin8 true _ (λh=>by cases h) E
 |true=>
  simp only[Bool.not_true]
  repeat with_reducible refine Stp.go ?_
  refine(Few_ok hxl (hr _) E).mono ?_
  clear E
  rintro r w_ ⟨b,rfl,hb2,E⟩
  repeat with_reducible refine Stp.go ?_
  refine Un.not ?_
  repeat with_reducible refine Stp.go ?_
  cases b with
  |false=>
   simp only[Bool.not_false]
   repeat with_reducible refine Stp.go ?_
   exact fin8 true _ (λh=>by cases h) E
  |true=>
   simp only[Bool.not_true]
   repeat with_reducible first|refine Stp.go ?_|refine StpE.go E ?_
   refine(Few_ok hyl (hr2 _) E).mono ?_
   clear E
   rintro r w_ ⟨b,rfl,hb3,E⟩
   repeat with_reducible refine Stp.go ?_
   refine Un.not ?_
   repeat with_reducible refine Stp.go ?_
   cases b with
   |false=>
    simp only[Bool.not_false]
    repeat with_reducible refine Stp.go ?_
    exact fin8 true _ (λh=>by cases h) E
   |true=>
    simp only[Bool.not_true]
    repeat with_reducible first|refine Stp.go ?_|refine StpE.go E ?_
    refine(hr3 l).len ?_
    repeat with_reducible refine Stp.go ?_
    refine Bi.gtr ?_ ?_<;>intro hz<;>(repeat with_reducible first|refine Stp.go ?_|refine StpE.go E ?_)
    ·exact fin8 true _ (λh=>by cases h) E
    refine(ContainsY_ok (by omega) (hr3 _) E).mono ?_
    clear E
    rintro r w_ ⟨⟨b,rfl,hb4⟩,E⟩
    repeat with_reducible refine Stp.go ?_
    exact fin8 b _ (λh=>⟨of_decide_eq_true hs,hb2 rfl,hb3 rfl,by omega,hb4 h⟩) E
set_option maxRecDepth 100000
set_option linter.unusedVariables false
set_option linter.unusedSimpArgs false
variable {H:Type} {enc:TypeId×Value→H} {W:World}
abbrev lkSpl:List LK:=[.int .i64,.int .i64,.str,.int .i64]
theorem spl_of{xs:List Value}(hx:fitWL lkSpl xs):∃y:Spl,xs=y.cs∧rngI y.num:=by
 obtain⟨y0,t0,rfl,f0,z0⟩:=fitWL_cons hx
 obtain⟨y1,t1,rfl,f1,z1⟩:=fitWL_cons z0
 obtain⟨y2,t2,rfl,f2,z2⟩:=fitWL_cons z1
 obtain⟨y3,t3,rfl,f3,z3⟩:=fitWL_cons z2
 obtain rfl:=fitWL_nil z3
 obtain⟨n0,rfl,k0⟩:=int_of f0
 obtain⟨n1,rfl,k1⟩:=int_of f1
 obtain⟨s2,rfl,k2⟩:=str_of f2
 obtain⟨n3,rfl,k3⟩:=int_of f3
 exact⟨⟨n0,n1,s2,n3⟩,rfl,k3⟩
theorem scs_of:∀{rows:List (List Value)},(∀r∈rows,fitWL lkSpl r)→∃ys:List Spl,rows.flatten=scs ys∧ys.length=rows.length∧∀y∈ys,rngI y.num
 |[],_=>⟨[],rfl,rfl,λ_ h=>by cases h⟩
 |r::rs,h=>by
  obtain⟨y,rfl,hy⟩:=spl_of (h r List.mem_cons_self)
  obtain⟨ys,e,hl,hys⟩:=scs_of (λy hy=>h y (List.mem_cons_of_mem _ hy))
  refine⟨y::ys,by rw[List.flatten_cons,e];rfl,by simp[hl],λz hz=>?_⟩
  rcases List.mem_cons.1 hz with rfl|hz
  ·exact hy
  ·exact hys z hz
theorem xtab_is:ftab PP Ty.t35=[(Ty.sl_law28_Act,0,1),(Ty.sl_law28_Spoil,1,1),(Ty.int64,2,1),(Ty.int64,3,1)]:=by kernel_rfl
theorem c_Rest:PP.cellsOf Ty.t35=4:=by kernel_rfl
theorem u_actsR:PP.underlying Ty.sl_law28_Act=some (.slice Ty.law28_Act):=by kernel_rfl
theorem u_splR:PP.underlying Ty.sl_law28_Spoil=some (.slice Ty.law28_Spoil):=by kernel_rfl
theorem u_i64R:PP.underlying Ty.int64=some (.int .i64):=by kernel_rfl
theorem l_actR:lv PP 20 Ty.law28_Act=some lkAct:=by kernel_rfl
theorem c_actR:lvC PP 20 Ty.law28_Act=true:=by kernel_rfl
theorem l_splR:lv PP 20 Ty.law28_Spoil=some lkSpl:=by kernel_rfl
theorem c_splR:lvC PP 20 Ty.law28_Spoil=true:=by kernel_rfl
theorem open_rest{r:Reach}{b0:Nat}{v:Value}{d:DataW H}{ps:List MemPlace}(hval:Value.okWide PP W r b0 Ty.t35 v)(h:DataW.Trod enc PP W 0 (λ_=>true) true Ty.t35 v d ps):
  ∃(mV cV:Value) (clock next:Int) (ys:List Ac) (zs:List Spl),v=.agg #[mV,cV,i64 clock,i64 next]∧RdlA W mV 20 ys.length (acs ys)∧(∀x∈ys,x.Ok)∧RdlA W cV 4 zs.length (scs zs)∧∀z∈zs,rngI z.num:=by
 obtain⟨fs,hu,-⟩:=ftab_struct xtab_is (by decide)
 obtain⟨cs0,rfl,_⟩:=Go.WideShapes.okWide_struct hu hval
 obtain⟨fuel,h⟩:=h
 have h:DataW.trod enc PP W 0 (λ_=>true) true fuel Ty.t35 cs0.toList=some (d,ps):=h
 obtain⟨xs,n,-,hlen,hxs,hf⟩:=struct_parts xtab_is (by decide) h
 rw[c_Rest]at hlen
 obtain⟨c0,c1,c2,c3,hcs⟩:∃c0 c1 c2 c3,cs0.toList=[c0,c1,c2,c3]:=by
  match cs0.toList,hlen with
  |[c0,c1,c2,c3],_=>exact⟨c0,c1,c2,c3,rfl⟩
 obtain⟨x0,x1,x2,x3,rfl⟩:∃x0 x1 x2 x3,xs=[x0,x1,x2,x3]:=by
  match xs,hxs with
  |[x0,x1,x2,x3],_=>exact⟨x0,x1,x2,x3,rfl⟩
 have h0:=hf 0 _ _ _ rfl
 have h1:=hf 1 _ _ _ rfl
 have h2:=hf 2 _ _ _ rfl
 have h3:=hf 3 _ _ _ rfl
 rw[hcs]at h0 h1 h2 h3
 have h0:DataW.trod enc PP W 0 (λ_=>true) true n Ty.sl_law28_Act [c0]=some x0:=h0
 have h1:DataW.trod enc PP W 0 (λ_=>true) true n Ty.sl_law28_Spoil [c1]=some x1:=h1
 have h2:DataW.trod enc PP W 0 (λ_=>true) true n Ty.int64 [c2]=some x2:=h2
 have h3:DataW.trod enc PP W 0 (λ_=>true) true n Ty.int64 [c3]=some x3:=h3
 obtain⟨rows,hR,hfit⟩:=rdl_structs0 u_actsR l_actR c_actR (by decide) h0
 obtain⟨ys,rfl,hy⟩:=acs_of hfit
 have hly:(ys.map Ac.C).length=ys.length:=List.length_map _
 rw[hly]at hR
 obtain⟨rows2,hR2,hfit2⟩:=rdl_structs0 u_splR l_splR c_splR (by decide) h1
 obtain⟨zs,e,hlz,hz⟩:=scs_of hfit2
 rw[e,← hlz]at hR2
 obtain⟨m2,e2,-,-⟩:=DataW.trod_int u_i64R h2
 obtain⟨m3,e3,-,-⟩:=DataW.trod_int u_i64R h3
 cases e2;cases e3
 refine⟨c0,c1,m2,m3,ys,zs,?_,hR,hy,hR2,hz⟩
 rw[← hcs]
end Go.Proofs.YthapmhhihfedcaaGreatDoor