/-
 The reference's tree: opening.
-/
import Derived.Test.YtnnhmahemklnkaaGreatDoorRp13
import Derived.Test.YtnnhmahemklnkaaGreatDoorRf2
import Derived.Test.YtnnhmahemklnkaaGreatDoorTo5
import Derived.Test.YtnnhmahemklnkaaGreatDoorTn3
namespace Go.Proofs.YtnnhmahemklnkaaGreatDoor
open Go Go.Sh
set_option maxRecDepth 100000
set_option linter.unusedVariables false
set_option linter.unusedSimpArgs false
variable {w0 w:World} {F:Nat→Prop} {l:List As}
variable {R:RT} {T:Tr} {gV nV hV:Value} {c:Int}
theorem heldL_ex:∀(L:List RH) (k f:Int),(∃x∈heldL k L,x.2.file=f)↔∃h∈L,0≤h.mode∧h.file=f
 |[],_,_=>by simp[heldL]
 |y::r,k,f=>by
  have ih:=heldL_ex r (k+1) f
  by_cases hy:y.mode<0
  ·rw[show heldL k (y::r)=heldL (k+1) r by rw[heldL,if_pos hy],ih]
   constructor
   ·rintro⟨h,h1,h2⟩;exact⟨h,List.mem_cons_of_mem _ h1,h2⟩
   ·rintro⟨h,h1,h2⟩
    rcases List.mem_cons.1 h1 with rfl|h1
    ·omega
    ·exact⟨h,h1,h2⟩
  ·rw[show heldL k (y::r)=(k,⟨y.file,y.mode,y.user⟩)::heldL (k+1) r by rw[heldL,if_neg hy]]
   constructor
   ·rintro⟨x,h1,h2⟩
    rcases List.mem_cons.1 h1 with rfl|h1
    ·exact⟨y,List.mem_cons_self,by omega,h2⟩
    ·obtain⟨h,h3,h4⟩:=ih.1 ⟨x,h1,h2⟩
     exact⟨h,List.mem_cons_of_mem _ h3,h4⟩
   ·rintro⟨h,h1,h2,h3⟩
    rcases List.mem_cons.1 h1 with rfl|h1
    ·exact⟨_,List.mem_cons_self,h3⟩
    ·obtain⟨x,h4,h5⟩:=ih.2 ⟨h,h1,h2,h3⟩
     exact⟨x,List.mem_cons_of_mem _ h4,h5⟩
abbrev zT:List Value:=[.slice none 0 0,.slice none 0 0,.slice none 0 0,i64 0]
abbrev zQ:List Value:=[i64 0,i64 0,i64 0]
theorem rOpen_ok[iG:Scal gV][iN:Scal nV][iH:Scal hV](h:Rl R T)(hi:Inv T)(hlim:Lim 1000000 T)(hg:GOk w0 F l gV T.gs){user:BA}{file mode:Int}(hmode:rngI mode)(E:Hs w0 F w (NP nV R::HP hV R::l)):
  Ca PP Fn.r28_Open #[rV gV nV hV R.clock,str user,i64 file,i64 mode] w λr w'=>∃tv,r=.tuple #[tv,i64 (T.openF user file mode).2.1,(T.openF user file mode).2.2.1.V,i64 (T.openF user file mode).2.2.2]∧GoR w0 F l gV (T.openF user file mode).1 tv w':=by
 obtain⟨hN,hrc,hrv⟩:=h.rng hi hlim
 have hhl:=h.hl
 refine S.r28_Open.calls ?_
 unfold S.r28_Open
 refine StpA.go E ?_
 clear E
 intro q w_ hq E
 repeat with_reducible (refine StpA.go E ?_;clear E;intro b_ w_ hb_ E)
 (revert b_;intro q3 hbq3 E)
 (revert b_;intro q2 hbq2 E)
 have m2:NP nV R∈pt q3 (oc zQ Ty.t11)::pt q2 (oc zT Ty.t0)::pt q (oc [gV,nV,hV,i64 R.clock] Ty.t0)::NP nV R::HP hV R::l:=List.mem_of_getElem? (i:=3) rfl
 have m3:HP hV R∈pt q3 (oc zQ Ty.t11)::pt q2 (oc zT Ty.t0)::pt q (oc [gV,nV,hV,i64 R.clock] Ty.t0)::NP nV R::HP hV R::l:=List.mem_of_getElem? (i:=4) rfl
 have g2:=((((hg.cons (HP hV R)).cons (NP nV R)).cons (pt q (oc [gV,nV,hV,i64 R.clock] Ty.t0))).cons (pt q2 (oc zT Ty.t0))).cons (pt q3 (oc zQ Ty.t11))
 refine(rOpens_ok hmode E).mono ?_
 clear E
 rintro r w_ ⟨rfl,E⟩
 refine Un.not ?_
 by_cases c1:clrI mode 83≠0
 ·rw[decide_eq_false c1]
  simp only[Bool.not_false]
  repeat with_reducible first|refine Stp.go ?_|refine StpE.go E ?_|(refine StpW.go E ?_;clear E;intro w_ E)
  have e:T.openF user file mode=(T,0,q0,20):=by unfold Tr.openF;rw[if_pos c1]
  rw[e]
  exact⟨_,rfl,.same h E.tl.tl.tl⟩
 rw[decide_eq_true (show clrI mode 83=0 by simpa using c1)]
 simp only[Bool.not_true]
 repeat with_reducible first|refine Stp.go ?_|refine StpE.go E ?_
 refine(rExists_ok h hi (by omega) m2 E).mono ?_
 clear E
 rintro r w_ ⟨rfl,E⟩
 refine Un.not ?_
 cases hget:T.get file with
 |none=>
  simp only[Option.isSome_none,Bool.not_false]
  repeat with_reducible first|refine Stp.go ?_|refine StpE.go E ?_|(refine StpW.go E ?_;clear E;intro w_ E)
  have e:T.openF user file mode=(T,0,q0,4):=by unfold Tr.openF;rw[if_neg c1];simp only[hget]
  rw[e]
  exact⟨_,rfl,.same h E.tl.tl.tl⟩
 |some m=>
  simp only[Option.isSome_some,Bool.not_true]
  obtain⟨i,n,rfl,hn,hgone,rfl⟩:=h.sm hi hget
  have hnm2:=List.mem_of_getElem? hn
  have hlt:=(List.getElem?_eq_some_iff.1 hn).1
  obtain⟨k,u,hpar,hu,hug,hpu,-⟩:=h.parent hi hn hgone
  have hult:=(List.getElem?_eq_some_iff.1 hu).1
  repeat with_reducible refine Stp.go ?_
  (intro J26 hJ26)
  have fin26:∀b w_,b=decide (n.nd.dir=true∧mode≠0)→Hs w0 F w_ (pt q3 (oc zQ Ty.t11)::pt q2 (oc zT Ty.t0)::pt q (oc [gV,nV,hV,i64 R.clock] Ty.t0)::NP nV R::HP hV R::l)→J26 [.bool b] w_:=by
   intro b w_ hb E
   repeat with_reducible (apply hJ26;intro u_)
   clear hJ26
   by_cases c2:n.nd.dir=true∧mode≠0
   ·rw[decide_eq_true c2]at hb
    subst hb
    repeat with_reducible first|refine Stp.go ?_|refine StpE.go E ?_|(refine StpW.go E ?_;clear E;intro w_ E)
    have e:T.openF user i mode=(T,0,q0,18):=by unfold Tr.openF;rw[if_neg c1];simp only[hget,if_pos c2]
    rw[e]
    exact⟨_,rfl,.same h E.tl.tl.tl⟩
   rw[decide_eq_false c2]at hb
   subst hb
   repeat with_reducible refine Stp.go ?_
   (intro J36 hJ36)
   have fin36:∀b w_,b=decide (T.may user n.nd (needs mode)=false∨(andI mode 64≠0∧T.may user (T.parent n.nd) 2=false))→Hs w0 F w_ (pt q3 (oc zQ Ty.t11)::pt q2 (oc zT Ty.t0)::pt q (oc [gV,nV,hV,i64 R.clock] Ty.t0)::NP nV R::HP hV R::l)→J36 [.bool b] w_:=by
    intro b w_ hb E
    repeat with_reducible (apply hJ36;intro u_)
    clear hJ36
    by_cases c3:T.may user n.nd (needs mode)=false∨(andI mode 64≠0∧T.may user (T.parent n.nd) 2=false)
    ·rw[decide_eq_true c3]at hb
     subst hb
     repeat with_reducible first|refine Stp.go ?_|refine StpE.go E ?_|(refine StpW.go E ?_;clear E;intro w_ E)
     have e:T.openF user i mode=(T,0,q0,17):=by unfold Tr.openF;rw[if_neg c1];simp only[hget,if_neg c2,if_pos c3]
     rw[e]
     exact⟨_,rfl,.same h E.tl.tl.tl⟩
    rw[decide_eq_false c3]at hb
    subst hb
    repeat with_reducible first|refine Stp.go ?_|refine StpE.go E ?_
    refine IxA.rw rn_len E m2 (by omega) (by omega) (by omega) ?_
    rw[Int.toNat_natCast]
    intro a ha
    skip
    refine Fa.el ha ?_
    intro a2 ha2
    skip
    refine Fa.el ha2 ?_
    intro a3 ha3
    skip
    refine Ld.rw rn_len E m2 ha3 hn (by omega) (y:=i64 n.dir.mode) rfl ?_
    repeat with_reducible refine Stp.go ?_
    have hnm:n.nd.mode=n.dir.mode:=rfl
    obtain⟨ex,hex⟩:∃ex:Bool,ex=decide (andI n.dir.mode 536870912≠0):=⟨_,rfl⟩
    refine Bi.mk (v:=.bool ex) (by rw[hex];by_cases hz:andI n.dir.mode 536870912=0<;>simp[binV,intOp,hz]) ?_
    refine⟨λl1 w1=>∃j:Nat,l1=[i64 j]∧j≤R.hs.length∧(∀(p:Nat) x,p<j→R.hs[p]? =some x→¬(ex=true∧0≤x.mode∧x.file=i))∧Hs w0 F w1 (pt q3 (oc zQ Ty.t11)::pt q2 (oc zT Ty.t0)::pt q (oc [gV,nV,hV,i64 R.clock] Ty.t0)::NP nV R::HP hV R::l),λl1 _=>match l1 with|[.int _ i]=>R.hs.length-i.toNat|_=>0,⟨0,rfl,Nat.zero_le _,(λp x hp=>by omega),E⟩,?_⟩
    clear E
    rintro t13 e0 w_ ⟨j,h1,hj,hno,E⟩
    cases h1
    repeat with_reducible first|refine Stp.go ?_|refine StpE.go E ?_
    refine LnL.rw rh_len E m3 (by omega) ?_
    refine Bi.lss ?_ ?_<;>intro hltj<;>(repeat with_reducible first|refine Stp.go ?_|refine StpE.go E ?_)
    ·have hx:R.hs[j]? =some (R.hs[j]'(by omega)):=List.getElem?_eq_getElem (by omega)
     generalize R.hs[j]'(by omega)=x at hx
     (intro J63 hJ63)
     have fin63:∀b w_,b=decide (ex=true∧0≤x.mode∧x.file=i)→Hs w0 F w_ (pt q3 (oc zQ Ty.t11)::pt q2 (oc zT Ty.t0)::pt q (oc [gV,nV,hV,i64 R.clock] Ty.t0)::NP nV R::HP hV R::l)→J63 [.bool b] w_:=by
      intro b w_ hb E
      repeat with_reducible (apply hJ63;intro u_)
      by_cases c4:ex=true∧0≤x.mode∧x.file=i
      ·rw[decide_eq_true c4]at hb
       subst hb
       repeat with_reducible first|refine Stp.go ?_|refine StpE.go E ?_|(refine StpW.go E ?_;clear E;intro w_ E)
       have c4':andI n.nd.mode 536870912≠0∧∃x∈T.hs,x.2.file=(i:Int):=⟨of_decide_eq_true (hex.symm.trans c4.1),by rw[h.hs];exact(heldL_ex _ _ _).2 ⟨x,List.mem_of_getElem? hx,c4.2⟩⟩
       have e:T.openF user i mode=(T,0,q0,19):=by unfold Tr.openF;rw[if_neg c1];simp only[hget,if_neg c2,if_neg c3];rw[if_pos c4']
       rw[e]
       exact⟨_,rfl,.same h E.tl.tl.tl⟩
      ·rw[decide_eq_false c4]at hb
       subst hb
       repeat with_reducible refine Stp.go ?_
       refine Bi.add (by omega) ?_
       refine⟨⟨j+1,by simp,by omega,λp y hp hy=>?_,E⟩,by simp only[];omega⟩
       by_cases hpj:p=j
       ·subst hpj
        rw[hx]at hy
        cases hy
        exact c4
       ·exact hno p y (by omega) hy
     clear hJ63
     cases ex with
     |false=>
      repeat with_reducible refine Stp.go ?_
      exact fin63 false _ (by simp) E
     |true=>
      repeat with_reducible first|refine Stp.go ?_|refine StpE.go E ?_
      refine IxA.rw rh_len E m3 (by omega) (by omega) (by omega) ?_
      rw[Int.toNat_natCast]
      intro a ha
      repeat with_reducible refine Stp.go ?_
      refine Fa.el ha ?_
      intro a2 ha2
      repeat with_reducible refine Stp.go ?_
      refine Ld.rw rh_len E m3 ha2 hx (by omega) (y:=i64 x.mode) rfl ?_
      repeat with_reducible refine Stp.go ?_
      refine Bi.geq ?_ ?_<;>intro h0<;>(repeat with_reducible first|refine Stp.go ?_|refine StpE.go E ?_)
      ·refine IxA.rw rh_len E m3 (by omega) (by omega) (by omega) ?_
       rw[Int.toNat_natCast]
       intro a ha
       repeat with_reducible refine Stp.go ?_
       refine Fa.el ha ?_
       intro a2 ha2
       repeat with_reducible refine Stp.go ?_
       refine Ld.rw rh_len E m3 ha2 hx (by omega) (y:=i64 x.file) rfl ?_
       repeat with_reducible refine Stp.go ?_
       refine Bi.eql ?_ ?_<;>intro h5<;>(repeat with_reducible refine Stp.go ?_)
       ·exact fin63 true _ (decide_eq_true ⟨rfl,h0,h5⟩).symm E
       ·exact fin63 false _ (decide_eq_false λhc=>h5 hc.2.2).symm E
      ·exact fin63 false _ (decide_eq_false λhc=>by omega).symm E
    have c4:¬(andI n.nd.mode 536870912≠0∧∃x∈T.hs,x.2.file=(i:Int)):=by
     rintro⟨hz,hy⟩
     rw[h.hs]at hy
     obtain⟨y,h3,h4⟩:=(heldL_ex _ _ _).1 hy
     obtain⟨p,hp⟩:=List.getElem?_of_mem h3
     have:=(List.getElem?_eq_some_iff.1 hp).1
     exact hno p y (by omega) hp ⟨by rw[hex];exact decide_eq_true hz,h4⟩
    refine(rCount_ok h m3 E).mono ?_
    clear E
    rintro r w_ ⟨rfl,E⟩
    refine Bi.geq ?_ ?_<;>intro c5<;>(repeat with_reducible first|refine Stp.go ?_|refine StpE.go E ?_|(refine StpW.go E ?_;clear E;intro w_ E))
    ·have e:T.openF user i mode=(T,0,q0,3):=by unfold Tr.openF;rw[if_neg c1];simp only[hget,if_neg c2,if_neg c3,if_neg c4];rw[if_pos (by omega)]
     rw[e]
     exact⟨_,rfl,.same h E.tl.tl.tl⟩
    have c5':¬ ¬T.hs.length<64:=by omega
    refine(rCopied_ok (R:=R) (by omega) (by omega) m2 m3 E).mono ?_
    clear E
    rintro r w_ ⟨n2,v2,rfl,i2,i3,E⟩
    repeat with_reducible refine StpE.go E ?_
    (replace E:=((E.bIx 0).bIx 1))
    refine(rHold_ok (h:=⟨i,mode,user⟩) (by omega) E).mono ?_
    clear E
    rintro r w_ ⟨v3,rfl,i4,E⟩
    repeat with_reducible first|refine Stp.go ?_|(refine StpW.go E ?_;clear E;intro w_ E)|(refine StpA.go E ?_;clear E;intro b_ w_ hb_ E)
    (revert b_;intro p hbp E)
    (replace E:=(((E.bIx 1).bIx 2).bIx 2))
    have hm0:0≤mode:=by
     rcases Int.lt_or_le mode 0 with hm0|hm0
     ·exact absurd (clr_neg hmode hm0 (by decide)) c1
     ·exact hm0
    obtain⟨hh1,hh2⟩:=h.hold (x:=⟨i,mode,user⟩) hm0 (by omega)
    (intro J154 hJ154)
    have fin154:∀(R':RT) (n':RN) (T':Tr) w_,Rl R' T'→R'.ns[i]? =some n'→n'.gone=false→T.openF user i mode=(T',(((holdR R.hs ⟨i,mode,user⟩).1+1:Nat):Int),n'.nd.qid,0)→
      Hs w0 F w_ (pt p (oc [gV,n2,v3,i64 R'.clock] Ty.t0)::NP n2 R'::HP v3 R'::pt q3 (oc zQ Ty.t11)::pt q2 (oc zT Ty.t0)::pt q (oc [gV,nV,hV,i64 R.clock] Ty.t0)::NP nV R::HP hV R::l)→J154 [] w_:=by
     intro R' n' T' w_ hr hn' hg' he E
     repeat with_reducible first|refine Stp.go ?_|refine StpE.go E ?_|(refine StpW.go E ?_;clear E;intro w_ E)|(apply hJ154;intro u_)
     have hlt':=(List.getElem?_eq_some_iff.1 hn').1
     refine IxA.rw rn_len E (List.mem_of_getElem? (i:=1) rfl) (by omega) (by omega) (by omega) ?_
     rw[Int.toNat_natCast]
     intro a ha
     skip
     refine Fa.el ha ?_
     intro a2 ha2
     skip
     refine Fa.el ha2 ?_
     intro a3 ha3
     skip
     refine LdA.rw rn_len E (List.mem_of_getElem? (i:=1) rfl) ha3 hn' (by omega) (ds:=[i64 n'.dir.kind,i64 n'.dir.vers,i64 n'.dir.path]) rfl rfl ?_
     repeat with_reducible (refine StpW.go E ?_;clear E;intro w_ E)
     refine⟨by (repeat with_reducible refine StpE.go E ?_);rfl,LdA.rw rn_len E (List.mem_of_getElem? (i:=1) rfl) ha3 hn' (by omega) (ds:=[i64 n'.dir.kind,i64 n'.dir.vers,i64 n'.dir.path]) rfl rfl rfl,?_⟩
     repeat with_reducible first|refine StpE.go E ?_|(refine StpW.go E ?_;clear E;intro w_ E)
     rw[he,hr.qid (List.mem_of_getElem? hn') hg']
     refine⟨_,rfl,n2,v3,R',rfl,i2,i4,hr,?_⟩
     exact E.tl.drop (List.Sublist.cons_cons _ (List.Sublist.cons_cons _ (List.sublist_append_right [_,_,_,_,_] l)))
    clear hJ154
    (intro J171 hJ171)
    have fin171:∀b w_,b=decide (andI mode 16≠0∧andI n.nd.mode 1073741824=0)→Hs w0 F w_ (pt p (oc [gV,n2,v3,i64 R.clock] Ty.t0)::NP n2 R::HP v3 {R with hs:=(holdR R.hs ⟨i,mode,user⟩).2}::pt q3 (oc zQ Ty.t11)::pt q2 (oc zT Ty.t0)::pt q (oc [gV,nV,hV,i64 R.clock] Ty.t0)::NP nV R::HP hV R::l)→J171 [.bool b] w_:=by
     intro b w_ hb E
     repeat with_reducible (apply hJ171;intro u_)
     clear hJ171
     by_cases c6:andI mode 16≠0∧andI n.nd.mode 1073741824=0
     rotate_left
     ·rw[decide_eq_false c6]at hb
      subst hb
      repeat with_reducible refine Stp.go ?_
      refine fin154 {R with hs:=(holdR R.hs ⟨i,mode,user⟩).2} n _ _ hh2 hn hgone ?_ E
      unfold Tr.openF;rw[if_neg c1];simp only[hget,if_neg c2,if_neg c3,if_neg c4,if_neg c5',if_neg c6]
      rw[hh1]
     rw[decide_eq_true c6]at hb
     subst hb
     repeat with_reducible first|refine Stp.go ?_|refine StpE.go E ?_
     refine(rTick_ok hrc E).mono ?_
     clear E
     rintro r w_ ⟨rfl,E⟩
     (replace E:=((E.bIx 0).bIx 1))
     refine(rTouch_ok hn (hrv n hnm2 hgone) E).mono ?_
     clear E
     rintro r w_ ⟨rfl,E⟩
     (replace E:=((E.bIx 0).bIx 1))
     have hn1:(R.ns.set i (n.tch (R.clock+1) user))[i]? =some (n.tch (R.clock+1) user):=List.getElem?_set_self hlt
     have setself:∀y:RN,(R.ns.set i y)[i]? =some y:=λy=>List.getElem?_set_self hlt
     have hlt1:i<(R.ns.set i (n.tch (R.clock+1) user)).length:=by rw[List.length_set];exact hlt
     repeat with_reducible first|refine Stp.go ?_|refine StpE.go E ?_|(refine StpW.go E ?_;clear E;intro w_ E)
     refine IxA.rw rn_len E (List.mem_of_getElem? (i:=1) rfl) (by omega) (by omega) (by rw[Int.toNat_natCast];exact hlt1) ?_
     rw[Int.toNat_natCast]
     intro a ha
     skip
     refine Fa.el ha ?_
     intro a2 ha2
     skip
     refine St.rw (j:=1) rn_len E rfl ha2 hn1 (by omega) rfl (y:={n.tch (R.clock+1) user with data:=emp}) rfl ?_
     clear E
     intro w_ E
     (try simp only[List.set_cons_zero,List.set_cons_succ,List.cons_append,List.nil_append,Nat.zero_add,Nat.add_zero]at E)
     rw[List.set_set]at E
     repeat with_reducible first|refine Stp.go ?_|refine StpE.go E ?_
     refine IxA.rw rn_len E (List.mem_of_getElem? (i:=1) rfl) (by omega) (by omega) (by simpa using hlt) ?_
     rw[Int.toNat_natCast]
     intro a ha
     skip
     refine Fa.el ha ?_
     intro a2 ha2
     skip
     refine Fa.el ha2 ?_
     intro a3 ha3
     skip
     refine St.rw (j:=1) rn_len E rfl ha3 (setself _) (by omega) rfl (y:=n.wrt (R.clock+1) user emp) rfl ?_
     clear E
     intro w_ E
     (try simp only[List.set_cons_zero,List.set_cons_succ,List.cons_append,List.nil_append,Nat.zero_add,Nat.add_zero]at E)
     rw[List.set_set]at E
     have hput:=hh2.put (R:={R with hs:=(holdR R.hs ⟨i,mode,user⟩).2}) hn hgone (n':=n.wrt (R.clock+1) user emp) rfl hgone ⟨(h.form n hnm2 hgone).1,rfl⟩ (f:=λm=>{touchN (R.clock+1) user m with data:=emp}) rfl (R.clock+1)
     refine fin154 {R with ns:=R.ns.set i (n.wrt (R.clock+1) user emp),hs:=(holdR R.hs ⟨i,mode,user⟩).2,clock:=R.clock+1} (n.wrt (R.clock+1) user emp) _ _ hput (setself _) hgone ?_ E
     have e2:(T.change user [(i:Int)]).upd i (λn=>{n with data:=emp})={T with ns:=updN T.ns i (λm=>{touchN (R.clock+1) user m with data:=emp}),clock:=R.clock+1}:=by
      rw[change_one,h.clock]
      unfold Tr.upd
      simp only[]
      rw[updN_updN (f1:=touchN (R.clock+1) user) (λn=>rfl)]
     unfold Tr.openF;rw[if_neg c1];simp only[hget,if_neg c2,if_neg c3,if_neg c4,if_neg c5',if_pos c6]
     rw[e2]
     have e3:(({T with ns:=updN T.ns i (λm=>{touchN (R.clock+1) user m with data:=emp}),clock:=R.clock+1}:Tr).hold ⟨i,mode,user⟩).2=(T.hold ⟨i,mode,user⟩).2:=rfl
     rw[e3,hh1]
     rfl
    clear hJ171
    repeat with_reducible refine Stp.go ?_
    refine Bi.neq ?_ ?_<;>intro c6<;>(repeat with_reducible first|refine Stp.go ?_|refine StpE.go E ?_)
    ·refine IxA.rw rn_len E (List.mem_of_getElem? (i:=6) rfl) (by omega) (by omega) (by omega) ?_
     rw[Int.toNat_natCast]
     intro a ha
     repeat with_reducible refine Stp.go ?_
     refine Fa.el ha ?_
     intro a2 ha2
     repeat with_reducible refine Stp.go ?_
     refine Fa.el ha2 ?_
     intro a3 ha3
     repeat with_reducible refine Stp.go ?_
     refine Ld.rw rn_len E (List.mem_of_getElem? (i:=6) rfl) ha3 hn (by omega) (y:=i64 n.dir.mode) rfl ?_
     repeat with_reducible refine Stp.go ?_
     refine Bi.eql ?_ ?_<;>intro c7<;>(repeat with_reducible refine Stp.go ?_)
     ·exact fin171 true _ (decide_eq_true ⟨c6,c7⟩).symm E
     ·exact fin171 false _ (decide_eq_false λhc=>c7 hc.2).symm E
    ·exact fin171 false _ (decide_eq_false λhc=>hc.1 c6).symm E
   clear hJ36
   repeat with_reducible first|refine StpE.go E ?_|(refine StpW.go E ?_;clear E;intro w_ E)
   refine(rNeeds_ok E).mono ?_
   clear E
   rintro r w_ ⟨rfl,E⟩
   refine⟨by (repeat with_reducible refine StpE.go E ?_);rfl,?_⟩
   refine(rMay2 g2 hn m2 E).mono ?_
   clear E
   rintro r w_ ⟨rfl,E⟩
   refine Un.not ?_
   cases hp:T.may user n.nd (needs mode)with
   |false=>
    simp only[Bool.not_false]
    repeat with_reducible refine Stp.go ?_
    exact fin36 true _ (decide_eq_true (.inl hp)).symm E
   |true=>
    simp only[Bool.not_true]
    repeat with_reducible refine Stp.go ?_
    refine Bi.neq ?_ ?_<;>intro c6<;>(repeat with_reducible first|refine Stp.go ?_|refine StpE.go E ?_)
    ·refine IxA.rw rn_len E m2 (by omega) (by omega) (by omega) ?_
     rw[Int.toNat_natCast]
     intro a ha
     repeat with_reducible refine Stp.go ?_
     refine Fa.el ha ?_
     intro a2 ha2
     repeat with_reducible refine Stp.go ?_
     refine Ld.rw rn_len E m2 ha2 hn (by omega) (y:=i64 n.par) rfl ?_
     rw[hpar]
     repeat with_reducible refine Stp.go ?_
     refine(rMay2 g2 hu m2 E).mono ?_
     clear E
     rintro r w_ ⟨rfl,E⟩
     repeat with_reducible refine Stp.go ?_
     refine Un.not ?_
     repeat with_reducible refine Stp.go ?_
     refine fin36 _ _ ?_ E
     rw[hpu,hp]
     cases T.may user u.nd 2<;>simp[c6]
    ·refine fin36 false _ (Eq.symm (decide_eq_false ?_)) E
     rintro(hc|hc)
     ·rw[hp]at hc;cases hc
     ·exact hc.1 c6
  clear hJ26
  repeat with_reducible refine StpE.go E ?_
  refine(rDirectory_ok hn m2 E).mono ?_
  clear E
  rintro r w_ ⟨rfl,E⟩
  cases hd2:n.nd.dir with
  |false=>
   repeat with_reducible refine Stp.go ?_
   exact fin26 false _ (decide_eq_false λhc=>by rw[hd2]at hc;cases hc.1).symm E
  |true=>
   repeat with_reducible refine Stp.go ?_
   refine Bi.neq ?_ ?_<;>intro c2<;>(repeat with_reducible refine Stp.go ?_)
   ·exact fin26 true _ (decide_eq_true ⟨hd2,c2⟩).symm E
   ·exact fin26 false _ (decide_eq_false λhc=>hc.2 c2).symm E
set_option maxRecDepth 100000
set_option linter.unusedVariables false
set_option linter.unusedSimpArgs false
variable {w0 w:World} {F:Nat→Prop} {l:List As}
variable {R:RT} {T:Tr} {gV nV hV:Value} {c:Int}
theorem z_rNode:zeroK PP Ty.r28_Node=some rn0V:=by kernel_rfl
theorem BdS.nd{n:RN}{k:Value→World→Prop}(E:Hs w0 F w l)(hk:∀v w',Hs w0 F w' (slA v Ty.r28_Node 13 n.cs::l)→k v w'):Ef PP (Instr.buildSlice Ty.t61 1 #[(0,.agg n.cs.toArray)]) w k:=
 BdS.sl E u_sl_Node s_Node z_rNode (by omega) (by omega) (xs:=n.cs) (by kernel_rfl) rfl hk
theorem Bd.dir7{k v p m t:Int}{nm ow gr la:BA}{K:Value→Prop}(h:K (.agg #[i64 k,i64 v,i64 p,i64 m,i64 t,i64 0,str nm,str ow,str gr,str la])):
  Bd #[i64 0,i64 0,i64 0,i64 0,i64 0,i64 0,str ⟨#[]⟩,str ⟨#[]⟩,str ⟨#[]⟩,str ⟨#[]⟩] [(0,3),(3,1),(4,1),(5,1),(6,1),(7,1),(8,1),(9,1)] [(0,.agg #[i64 k,i64 v,i64 p]),(1,i64 m),(2,i64 t),(4,str nm),(5,str ow),(6,str gr),(7,str la)] K:=Bd.mk (by kernel_rfl) h
theorem Rl.changed(h:Rl R T){i:Nat}{n:RN}(user:BA)(hn:R.ns[i]? =some n)(hg:n.gone=false):Rl {R with ns:=R.ns.set i (n.tch (R.clock+1) user),clock:=R.clock+1} (T.change user [(i:Int)]):=by
 rw[change_one,h.clock]
 exact h.put hn hg (n':=n.tch (R.clock+1) user) rfl hg (h.form n (List.mem_of_getElem? hn) hg) (f:=touchN (R.clock+1) user) rfl _
theorem rCreate_ok[iG:Scal gV][iN:Scal nV][iH:Scal hV](h:Rl R T)(hi:Inv T)(hlim:Lim 1000000 T)(hg:GOk w0 F l gV T.gs){user name:BA}{dir perm mode:Int}(hmode:rngI mode)(hperm:rngI perm)(hus:user.size≤9223372036854775807)(hns:name.size≤9223372036854775807)
  (E:Hs w0 F w (NP nV R::HP hV R::l)):
  Ca PP Fn.r28_Create #[rV gV nV hV R.clock,str user,i64 dir,str name,i64 perm,i64 mode] w λr w'=>∃tv,r=.tuple #[tv,i64 (T.create user dir name perm mode).2.1,(T.create user dir name perm mode).2.2.1.V,i64 (T.create user dir name perm mode).2.2.2]∧GoR w0 F l gV (T.create user dir name perm mode).1 tv w':=by
 obtain⟨hN,hrc,hrv⟩:=h.rng hi hlim
 have hhl:=h.hl
 refine S.r28_Create.calls ?_
 unfold S.r28_Create
 refine StpA.go E ?_
 clear E
 intro q w_ hq E
 repeat with_reducible (refine StpA.go E ?_;clear E;intro b_ w_ hb_ E)
 (revert b_;intro q3 hbq3 E)
 (revert b_;intro q2 hbq2 E)
 have m2:NP nV R∈pt q3 (oc zQ Ty.t11)::pt q2 (oc zT Ty.t0)::pt q (oc [gV,nV,hV,i64 R.clock] Ty.t0)::NP nV R::HP hV R::l:=List.mem_of_getElem? (i:=3) rfl
 have m3:HP hV R∈pt q3 (oc zQ Ty.t11)::pt q2 (oc zT Ty.t0)::pt q (oc [gV,nV,hV,i64 R.clock] Ty.t0)::NP nV R::HP hV R::l:=List.mem_of_getElem? (i:=4) rfl
 have g2:=((((hg.cons (HP hV R)).cons (NP nV R)).cons (pt q (oc [gV,nV,hV,i64 R.clock] Ty.t0))).cons (pt q2 (oc zT Ty.t0))).cons (pt q3 (oc zQ Ty.t11))
 (intro J7 hJ7)
 have fin7:∀b w_,b=decide (clrI mode 83≠0∨rightM perm=false∨(andI perm 2147483648≠0∧mode≠0))→Hs w0 F w_ (pt q3 (oc zQ Ty.t11)::pt q2 (oc zT Ty.t0)::pt q (oc [gV,nV,hV,i64 R.clock] Ty.t0)::NP nV R::HP hV R::l)→J7 [.bool b] w_:=by
  intro b w_ hb E
  repeat with_reducible (apply hJ7;intro u_)
  clear hJ7
  by_cases c1:clrI mode 83≠0∨rightM perm=false∨(andI perm 2147483648≠0∧mode≠0)
  ·rw[decide_eq_true c1]at hb
   subst hb
   repeat with_reducible first|refine Stp.go ?_|refine StpE.go E ?_|(refine StpW.go E ?_;clear E;intro w_ E)
   have e:T.create user dir name perm mode=(T,0,q0,20):=by unfold Tr.create;rw[if_pos c1]
   rw[e]
   exact⟨_,rfl,.same h E.tl.tl.tl⟩
  rw[decide_eq_false c1]at hb
  subst hb
  repeat with_reducible first|refine Stp.go ?_|refine StpE.go E ?_
  refine(rExists_ok h hi (by omega) m2 E).mono ?_
  clear E
  rintro r w_ ⟨rfl,E⟩
  refine Un.not ?_
  cases hget:T.get dir with
  |none=>
   simp only[Option.isSome_none,Bool.not_false]
   repeat with_reducible first|refine Stp.go ?_|refine StpE.go E ?_|(refine StpW.go E ?_;clear E;intro w_ E)
   have e:T.create user dir name perm mode=(T,0,q0,4):=by unfold Tr.create;rw[if_neg c1];simp only[hget]
   rw[e]
   exact⟨_,rfl,.same h E.tl.tl.tl⟩
  |some m=>
  simp only[Option.isSome_some,Bool.not_true]
  obtain⟨i,n,rfl,hn,hgone,rfl⟩:=h.sm hi hget
  have hnm2:=List.mem_of_getElem? hn
  have hlt:=(List.getElem?_eq_some_iff.1 hn).1
  repeat with_reducible first|refine Stp.go ?_|refine StpE.go E ?_
  refine(rDirectory_ok hn m2 E).mono ?_
  clear E
  rintro r w_ ⟨rfl,E⟩
  refine Un.not ?_
  cases hd2:n.nd.dir with
  |false=>
   simp only[Bool.not_false]
   repeat with_reducible first|refine Stp.go ?_|refine StpE.go E ?_|(refine StpW.go E ?_;clear E;intro w_ E)
   have e:T.create user i name perm mode=(T,0,q0,18):=by unfold Tr.create;rw[if_neg c1];simp only[hget];rw[if_pos hd2]
   rw[e]
   exact⟨_,rfl,.same h E.tl.tl.tl⟩
  |true=>
  have c2:¬n.nd.dir=false:=by rw[hd2];simp
  simp only[Bool.not_true]
  repeat with_reducible refine Stp.go ?_
  (intro J37 hJ37)
  have fin37:∀b w_,b=decide (goodName name=false∨goodName user=false)→Hs w0 F w_ (pt q3 (oc zQ Ty.t11)::pt q2 (oc zT Ty.t0)::pt q (oc [gV,nV,hV,i64 R.clock] Ty.t0)::NP nV R::HP hV R::l)→J37 [.bool b] w_:=by
   intro b w_ hb E
   repeat with_reducible (apply hJ37;intro u_)
   clear hJ37
   by_cases c3:goodName name=false∨goodName user=false
   ·rw[decide_eq_true c3]at hb
    subst hb
    repeat with_reducible first|refine Stp.go ?_|refine StpE.go E ?_|(refine StpW.go E ?_;clear E;intro w_ E)
    have e:T.create user i name perm mode=(T,0,q0,8):=by unfold Tr.create;rw[if_neg c1];simp only[hget];rw[if_neg c2,if_pos c3]
    rw[e]
    exact⟨_,rfl,.same h E.tl.tl.tl⟩
   rw[decide_eq_false c3]at hb
   subst hb
   repeat with_reducible first|refine Stp.go ?_|refine StpE.go E ?_
   refine(rMay2 g2 hn m2 E).mono ?_
   clear E
   rintro r w_ ⟨rfl,E⟩
   refine Un.not ?_
   cases hp:T.may user n.nd 2 with
   |false=>
    simp only[Bool.not_false]
    repeat with_reducible first|refine Stp.go ?_|refine StpE.go E ?_|(refine StpW.go E ?_;clear E;intro w_ E)
    have e:T.create user i name perm mode=(T,0,q0,17):=by unfold Tr.create;rw[if_neg c1];simp only[hget];rw[if_neg c2,if_neg c3,if_pos hp]
    rw[e]
    exact⟨_,rfl,.same h E.tl.tl.tl⟩
   |true=>
   have c4:¬T.may user n.nd 2=false:=by rw[hp];simp
   simp only[Bool.not_true]
   repeat with_reducible first|refine Stp.go ?_|refine StpE.go E ?_
   refine(rChild_ok h hi (by omega) m2 E).mono ?_
   clear E
   rintro r w_ ⟨⟨rfl,hk⟩|⟨k,u,rfl,hu,hug,hk⟩,E⟩
   rotate_left
   ·refine Bi.geq (λ_=>?_) λhc=>absurd hc (by omega)
    repeat with_reducible first|refine Stp.go ?_|refine StpE.go E ?_|(refine StpW.go E ?_;clear E;intro w_ E)
    have e:T.create user i name perm mode=(T,0,q0,5):=by unfold Tr.create;rw[if_neg c1];simp only[hget];rw[if_neg c2,if_neg c3,if_neg c4,if_pos (by rw[hk];rfl)]
    rw[e]
    exact⟨_,rfl,.same h E.tl.tl.tl⟩
   have c5:¬(T.kid i name).isSome=true:=by rw[hk];simp
   repeat first|(with_reducible first|refine Stp.go ?_)|((with_reducible refine Bi.dec false ?_ ?_);focus exact rfl)
   (intro J67 hJ67)
   have fin67:∀b w_,b=decide (1024≤T.ns.length∨¬T.hs.length<64)→Hs w0 F w_ (pt q3 (oc zQ Ty.t11)::pt q2 (oc zT Ty.t0)::pt q (oc [gV,nV,hV,i64 R.clock] Ty.t0)::NP nV R::HP hV R::l)→J67 [.bool b] w_:=by
    intro b w_ hb E
    repeat with_reducible (apply hJ67;intro u_)
    clear hJ67
    by_cases c6:1024≤T.ns.length∨¬T.hs.length<64
    ·rw[decide_eq_true c6]at hb
     subst hb
     repeat with_reducible first|refine Stp.go ?_|refine StpE.go E ?_|(refine StpW.go E ?_;clear E;intro w_ E)
     have e:T.create user i name perm mode=(T,0,q0,3):=by unfold Tr.create;rw[if_neg c1];simp only[hget];rw[if_neg c2,if_neg c3,if_neg c4,if_neg c5,if_pos c6]
     rw[e]
     exact⟨_,rfl,.same h E.tl.tl.tl⟩
    rw[decide_eq_false c6]at hb
    subst hb
    repeat with_reducible first|refine Stp.go ?_|refine StpE.go E ?_
    refine(rCopied_ok (R:=R) (by omega) (by omega) m2 m3 E).mono ?_
    clear E
    rintro r w_ ⟨n2,v2,rfl,i2,i3,E⟩
    skip
    refine(rTick_ok hrc E).mono ?_
    clear E
    rintro r w_ ⟨rfl,E⟩
    refine(rTouch_ok hn (hrv n hnm2 hgone) E).mono ?_
    clear E
    rintro r w_ ⟨rfl,E⟩
    repeat with_reducible first|refine Stp.go ?_|refine StpE.go E ?_|(refine StpW.go E ?_;clear E;intro w_ E)|(refine StpA.go E ?_;clear E;intro b_ w_ hb_ E)
    (revert b_;intro p hbp E)
    have hn1:(R.ns.set i (n.tch (R.clock+1) user))[i]? =some (n.tch (R.clock+1) user):=List.getElem?_set_self hlt
    have hlt1:i<(R.ns.set i (n.tch (R.clock+1) user)).length:=by rw[List.length_set];exact hlt
    refine IxA.rw rn_len E (List.mem_of_getElem? (i:=1) rfl) (by omega) (by omega) (by rw[Int.toNat_natCast];exact hlt1) ?_
    rw[Int.toNat_natCast]
    intro a ha
    skip
    refine Fa.el ha ?_
    intro a2 ha2
    skip
    refine LdA.rw rn_len E (List.mem_of_getElem? (i:=1) rfl) ha2 hn1 (by omega) (ds:=(n.tch (R.clock+1) user).dir.cs) rfl rfl ?_
    repeat with_reducible first|refine Stp.go ?_|refine StpE.go E ?_|(refine StpW.go E ?_;clear E;intro w_ E)|(refine StpA.go E ?_;clear E;intro b_ w_ hb_ E)
    (revert b_;intro d hbd E)
    skip
    obtain⟨N,hNd⟩:∃N:RN,N=⟨⟨kindOf (Tr.modeN perm n.nd.mode),0,R.ns.length,Tr.modeN perm n.nd.mode,R.clock+1,0,name,user,n.dir.group,user⟩,emp,i,false⟩:=⟨_,rfl⟩
    have hm0:0≤mode:=by
     rcases Int.lt_or_le mode 0 with hm0|hm0
     ·exact absurd (.inl (clr_neg hmode hm0 (by decide))) c1
     ·exact hm0
    have hch:=h.changed user hn hgone
    have hpu:=hch.push (n:=N) (by rw[hNd]) (by rw[hNd];simp) (by rw[hNd];exact⟨rfl,rfl⟩)
    obtain⟨hh1,hh2⟩:=hpu.hold (x:=⟨R.ns.length,mode,user⟩) hm0 (show T.hs.length<64 by omega)
    have he:T.create user i name perm mode=(({T.change user [(i:Int)]with ns:=(T.change user [(i:Int)]).ns++[N.nd],next:=(T.change user [(i:Int)]).next+1}:Tr).hold ⟨R.ns.length,mode,user⟩ |>.1,(((holdR R.hs ⟨R.ns.length,mode,user⟩).1+1:Nat):Int),⟨kindOf (Tr.modeN perm n.nd.mode),0,R.ns.length⟩,0):=by
     have k3:(T.change user [(i:Int)]).clock=R.clock+1:=by rw[change_one,h.clock]
     have k4:(T.change user [(i:Int)]).next=T.next:=by rw[change_one]
     unfold Tr.create;rw[if_neg c1];simp only[hget];rw[if_neg c2,if_neg c3,if_neg c4,if_neg c5,if_neg c6]
     simp only[k4]at hh1
     rw[← hh1,h.next,k3,hNd]
     simp only[k4,h.next]
     rfl
    rw[he]
    clear he
    (intro J100 hJ100)
    have fin100:∀m w_,m=Tr.modeN perm n.nd.mode→Hs w0 F w_ (pt d (oc (n.tch (R.clock+1) user).dir.cs Ty.t7)::pt p (oc [gV,n2,v2,i64 (R.clock+1)] Ty.t0)::NP n2 (R.set i (n.tch (R.clock+1) user))::HP v2 R::pt q3 (oc zQ Ty.t11)::pt q2 (oc zT Ty.t0)::pt q (oc [gV,nV,hV,i64 R.clock] Ty.t0)::NP nV R::HP hV R::l)→J100 [i64 m] w_:=by
     intro m w_ hm E
     repeat with_reducible first|refine Stp.go ?_|refine StpE.go E ?_|(refine StpW.go E ?_;clear E;intro w_ E)|(apply hJ100;intro u_)
     clear hJ100
     refine LnL.rw rn_len E (List.mem_of_getElem? (i:=2) rfl) (by omega) ?_
     rw[List.length_set]
     subst hm
     refine⟨?_,?_,trivial⟩
     ·refine(rKind_ok E).mono ?_
      clear E
      rintro r w_ ⟨rfl,E⟩
      refine⟨by (repeat with_reducible refine StpE.go E ?_);rfl,?_⟩
      repeat with_reducible first|refine StpE.go E ?_|(refine StpA.go E ?_;clear E;intro b_ w_ hb_ E)
      (revert b_;intro q19 hbq19 E)
      refine⟨by (repeat with_reducible refine StpE.go E ?_);rfl,?_⟩
      repeat with_reducible first|refine Stp.go ?_|refine StpE.go E ?_|(refine StpW.go E ?_;clear E;intro w_ E)
      refine Bd.dir7 ?_
      repeat with_reducible first|refine Stp.go ?_|refine StpE.go E ?_|(refine StpW.go E ?_;clear E;intro w_ E)|(refine StpA.go E ?_;clear E;intro b_ w_ hb_ E)
      (revert b_;intro q20 hbq20 E)
      skip
      refine BdS.nd (n:=⟨⟨kindOf (Tr.modeN perm n.nd.mode),0,R.ns.length,Tr.modeN perm n.nd.mode,R.clock+1,0,name,user,n.dir.group,user⟩,emp,i,false⟩) E ?_
      clear E
      intro bs w_ E
      rw[← hNd]at E
      skip
      refine Ap.el E (i:=5) rfl u_sl_Node ⟨_,u_sl_Node,λ_ h=>by cases h⟩ e_Node (by omega) (Src.slice (show SliceAt bs Ty.r28_Node 13 N.cs w_ from E.sat _ List.mem_cons_self) rfl (by omega) rfl) rfl (by rw[rw_len rn_len,List.length_set];omega) (by rw[rw_len rn_len,List.length_set];omega) ?_
      clear E
      intro n3 w_ E
      (try simp only[List.set_cons_zero,List.set_cons_succ,List.cons_append,List.nil_append,Nat.zero_add,Nat.add_zero]at E)
      rw[show(R.ns.set i (n.tch (R.clock+1) user)).flatMap RN.cs++N.cs=((R.ns.set i (n.tch (R.clock+1) user))++[N]).flatMap RN.cs by simp]at E
      have i5:Scal n3:=⟨Hs.slScal E (T:=Ty.r28_Node) (sz:=13) (xs:=((R.ns.set i (n.tch (R.clock+1) user))++[N]).flatMap RN.cs) (List.mem_of_getElem? (i:=5) rfl)⟩
      repeat with_reducible first|refine Stp.go ?_|refine StpE.go E ?_|(refine StpW.go E ?_;clear E;intro w_ E)
      (replace E:=(((((((E.bIx 5).bIx 5).bIx 5).bIx 5).bIx 5).bIx 5).bIx 6))
      refine(rHold_ok (R:=R) (h:=⟨R.ns.length,mode,user⟩) (by omega) E).mono ?_
      clear E
      rintro r w_ ⟨v3,rfl,i4,E⟩
      repeat with_reducible first|refine Stp.go ?_|refine StpE.go E ?_|(refine StpW.go E ?_;clear E;intro w_ E)
      refine⟨by (repeat with_reducible refine StpE.go E ?_);rfl,?_⟩
      repeat with_reducible first|refine StpE.go E ?_|(refine StpW.go E ?_;clear E;intro w_ E)
      (replace E:=(((((((E.bIx 5).bIx 5).bIx 5).bIx 5).bIx 5).bIx 5).bIx 6))
      refine⟨_,rfl,n3,v3,_,rfl,i5,i4,hh2,?_⟩
      exact E.drop (List.Sublist.cons_cons _ (List.Sublist.cons_cons _ (List.sublist_append_right [_,_,_,_,_,_,_,_,_,_] l)))
     ·(repeat with_reducible (refine StpA.go E ?_;clear E;intro b_ w_ hb_ E))
      (revert b_;intro q19 hbq19 E)
      refine⟨by (repeat with_reducible refine StpE.go E ?_);rfl,?_⟩
      refine(rKind_ok E).mono ?_
      clear E
      rintro r w_ ⟨rfl,E⟩
      refine⟨by (repeat with_reducible refine StpE.go E ?_);rfl,?_⟩
      repeat with_reducible first|refine Stp.go ?_|refine StpE.go E ?_|(refine StpW.go E ?_;clear E;intro w_ E)
      refine Bd.dir7 ?_
      repeat with_reducible first|refine Stp.go ?_|refine StpE.go E ?_|(refine StpW.go E ?_;clear E;intro w_ E)|(refine StpA.go E ?_;clear E;intro b_ w_ hb_ E)
      (revert b_;intro q20 hbq20 E)
      skip
      refine BdS.nd (n:=⟨⟨kindOf (Tr.modeN perm n.nd.mode),0,R.ns.length,Tr.modeN perm n.nd.mode,R.clock+1,0,name,user,n.dir.group,user⟩,emp,i,false⟩) E ?_
      clear E
      intro bs w_ E
      rw[← hNd]at E
      skip
      refine Ap.el E (i:=5) rfl u_sl_Node ⟨_,u_sl_Node,λ_ h=>by cases h⟩ e_Node (by omega) (Src.slice (show SliceAt bs Ty.r28_Node 13 N.cs w_ from E.sat _ List.mem_cons_self) rfl (by omega) rfl) rfl (by rw[rw_len rn_len,List.length_set];omega) (by rw[rw_len rn_len,List.length_set];omega) ?_
      clear E
      intro n3 w_ E
      (try simp only[List.set_cons_zero,List.set_cons_succ,List.cons_append,List.nil_append,Nat.zero_add,Nat.add_zero]at E)
      rw[show(R.ns.set i (n.tch (R.clock+1) user)).flatMap RN.cs++N.cs=((R.ns.set i (n.tch (R.clock+1) user))++[N]).flatMap RN.cs by simp]at E
      have i5:Scal n3:=⟨Hs.slScal E (T:=Ty.r28_Node) (sz:=13) (xs:=((R.ns.set i (n.tch (R.clock+1) user))++[N]).flatMap RN.cs) (List.mem_of_getElem? (i:=5) rfl)⟩
      repeat with_reducible first|refine Stp.go ?_|refine StpE.go E ?_|(refine StpW.go E ?_;clear E;intro w_ E)
      (replace E:=(((((((E.bIx 5).bIx 5).bIx 5).bIx 5).bIx 5).bIx 5).bIx 6))
      refine(rHold_ok (R:=R) (h:=⟨R.ns.length,mode,user⟩) (by omega) E).mono ?_
      clear E
      rintro r w_ ⟨v3,rfl,i4,E⟩
      repeat with_reducible first|refine Stp.go ?_|refine StpE.go E ?_|(refine StpW.go E ?_;clear E;intro w_ E)
      refine⟨by (repeat with_reducible refine StpE.go E ?_);rfl,?_⟩
      repeat with_reducible first|refine StpE.go E ?_|(refine StpW.go E ?_;clear E;intro w_ E)
      (replace E:=(((((((E.bIx 5).bIx 5).bIx 5).bIx 5).bIx 5).bIx 5).bIx 6))
      refine⟨_,rfl,n3,v3,_,rfl,i5,i4,hh2,?_⟩
      exact E.drop (List.Sublist.cons_cons _ (List.Sublist.cons_cons _ (List.sublist_append_right [_,_,_,_,_,_,_,_,_,_] l)))
    clear hJ100
    repeat with_reducible refine Stp.go ?_
    refine Bi.neq ?_ ?_<;>intro c7<;>(repeat with_reducible first|refine Stp.go ?_|refine StpE.go E ?_)
    ·exact fin100 _ _ (by unfold Tr.modeN;rw[if_neg c7];rfl) E
    ·exact fin100 _ _ (by unfold Tr.modeN;rw[if_pos c7];rfl) E
   clear hJ67
   repeat with_reducible refine StpE.go E ?_
   refine(rExist_ok h (by omega) m2 E).mono ?_
   clear E
   rintro r w_ ⟨rfl,E⟩
   refine Bi.geq ?_ ?_<;>intro c6<;>(repeat with_reducible first|refine Stp.go ?_|refine StpE.go E ?_)
   ·exact fin67 true _ (decide_eq_true (.inl (by omega))).symm E
   ·refine(rCount_ok h m3 E).mono ?_
    clear E
    rintro r w_ ⟨rfl,E⟩
    repeat with_reducible refine Stp.go ?_
    refine Bi.geq ?_ ?_<;>intro c7<;>(repeat with_reducible refine Stp.go ?_)
    ·exact fin67 true _ (decide_eq_true (.inr (by omega))).symm E
    ·exact fin67 false _ (decide_eq_false (by omega)).symm E
  clear hJ37
  skip
  refine(rValid_ok hns).mono ?_
  rintro r w' ⟨rfl,rfl⟩
  refine Un.not ?_
  cases hv:goodName name with
  |false=>
   simp only[Bool.not_false]
   repeat with_reducible refine Stp.go ?_
   exact fin37 true _ (decide_eq_true (.inl hv)).symm E
  |true=>
   simp only[Bool.not_true]
   repeat with_reducible refine Stp.go ?_
   refine(rValid_ok hus).mono ?_
   rintro r w' ⟨rfl,rfl⟩
   repeat with_reducible refine Stp.go ?_
   refine Un.not ?_
   repeat with_reducible refine Stp.go ?_
   refine fin37 _ _ ?_ E
   rw[hv]
   cases goodName user<;>simp
 clear hJ7
 skip
 refine(rOpens_ok hmode E).mono ?_
 clear E
 rintro r w_ ⟨rfl,E⟩
 refine Un.not ?_
 by_cases c1:clrI mode 83≠0
 ·rw[decide_eq_false c1]
  simp only[Bool.not_false]
  repeat with_reducible refine Stp.go ?_
  exact fin7 true _ (decide_eq_true (.inl c1)).symm E
 rw[decide_eq_true (show clrI mode 83=0 by simpa using c1)]
 simp only[Bool.not_true]
 repeat with_reducible refine Stp.go ?_
 refine(rSum_ok hperm E).mono ?_
 clear E
 rintro r w_ ⟨rfl,E⟩
 repeat with_reducible refine Stp.go ?_
 refine Un.not ?_
 cases hs:rightM perm with
 |false=>
  simp only[Bool.not_false]
  repeat with_reducible refine Stp.go ?_
  exact fin7 true _ (decide_eq_true (.inr (.inl hs))).symm E
 |true=>
  simp only[Bool.not_true]
  repeat with_reducible refine Stp.go ?_
  refine Bi.neq ?_ ?_<;>intro c2<;>(repeat with_reducible refine Stp.go ?_)
  ·refine Bi.neq ?_ ?_<;>intro c3<;>(repeat with_reducible refine Stp.go ?_)
   ·exact fin7 true _ (decide_eq_true (.inr (.inr ⟨c2,c3⟩))).symm E
   ·refine fin7 false _ (Eq.symm (decide_eq_false ?_)) E
    rintro(hc|hc|hc)
    ·exact c1 hc
    ·rw[hs]at hc;cases hc
    ·exact hc.2 c3
  ·refine fin7 false _ (Eq.symm (decide_eq_false ?_)) E
   rintro(hc|hc|hc)
   ·exact c1 hc
   ·rw[hs]at hc;cases hc
   ·exact hc.1 c2
set_option maxRecDepth 100000
set_option linter.unusedVariables false
set_option linter.unusedSimpArgs false
variable {w0 w:World} {F:Nat→Prop} {l:List As}
variable {R:RT} {T:Tr} {gV nV hV:Value} {c:Int}
def g1(d:Dr)(x:RN):RN:={x with dir:={x.dir with name:=if d.name=emp then x.dir.name else d.name}}
def g2(d:Dr)(x:RN):RN:={x with dir:={x.dir with group:=if d.group=emp then x.dir.group else d.group}}
def g3(d:Dr)(x:RN):RN:={x with dir:={x.dir with mode:=if d.mode= -1 then x.dir.mode else d.mode,kind:=if d.mode= -1 then x.dir.kind else kindOf d.mode}}
def g4(d:Dr)(x:RN):RN:={x with dir:={x.dir with time:=if d.time= -1 then x.dir.time else d.time}}
def g5(b:Bool)(d:Dr)(x:RN):RN:={x with dir:={x.dir with len:=if d.len= -1∨b=true then x.dir.len else d.len},data:=if d.len= -1∨b=true then x.data else sized x.data d.len.toNat}
def gAll(d:Dr)(x:RN):RN:=g5 x.nd.dir d (g4 d (g3 d (g2 d (g1 d x))))
theorem gAll_nd(d:Dr)(x:RN):(gAll d x).nd=Tr.given d x.nd:=rfl
theorem gAll_form{d:Dr}{x:RN}(hl: -1≤d.len)(hf:x.dir.kind=kindOf x.dir.mode∧x.dir.len=x.data.size):(gAll d x).dir.kind=kindOf (gAll d x).dir.mode∧(gAll d x).dir.len=(gAll d x).data.size:=by
 constructor
 ·show(if d.mode= -1 then x.dir.kind else kindOf d.mode)=kindOf (if d.mode= -1 then x.dir.mode else d.mode)
  split
  ·exact hf.1
  ·rfl
 ·show(if d.len= -1∨x.nd.dir=true then x.dir.len else d.len)=((if d.len= -1∨x.nd.dir=true then x.data else sized x.data d.len.toNat).size:Int)
  split
  ·exact hf.2
  ·rename_i hc
   rw[sized_size]
   have:d.len≠ -1:=λh=>hc (.inl h)
   omega
abbrev wl(R:RT)(gV nV hV:Value)(d:Dr)(n:RN)(a b e q:Nat)(l:List As):List As:=pt a (oc n.dir.cs Ty.t7)::pt b (oc zT Ty.t0)::pt e (oc d.cs Ty.t7)::pt q (oc [gV,nV,hV,i64 R.clock] Ty.t0)::NP nV R::HP hV R::l
abbrev pl(R:RT)(gV nV hV:Value)(d:Dr)(n:RN)(z b e q:Nat)(l:List As)(p:Nat)(n2 v2:Value)(L:List RN):List As:=pt p (oc [gV,n2,v2,i64 (R.clock+1)] Ty.t0)::slA n2 Ty.r28_Node 13 (L.flatMap RN.cs)::HP v2 R::wl R gV nV hV d n z b e q l
theorem change2(h:Rl R T){i k:Nat}{n u:RN}(user:BA)(hn:R.ns[i]? =some n)(hgn:n.gone=false)(hu:R.ns[k]? =some u)(hug:u.gone=false)(hki:k≠i):
  Rl {R with ns:=(R.ns.set i (n.tch (R.clock+1) user)).set k (u.tch (R.clock+1) user),clock:=R.clock+1} (T.change user [(i:Int),(k:Int)]):=by
 have h1:=h.changed user hn hgn
 have hu1:(R.ns.set i (n.tch (R.clock+1) user))[k]? =some u:=by rw[← hu];exact List.getElem?_set_ne λhc=>hki hc.symm
 have h2:=h1.put (R:={R with ns:=R.ns.set i (n.tch (R.clock+1) user),clock:=R.clock+1}) hu1 hug (n':=u.tch (R.clock+1) user) rfl hug (h.form u (List.mem_of_getElem? hu) hug) (f:=touchN (R.clock+1) user) rfl (R.clock+1)
 rw[change_two,h.clock]
 rw[change_one,h.clock]at h2
 exact h2

theorem Rl.gave(h:Rl R T){d:Dr}{i:Nat}{x:RN}(hx:R.ns[i]? =some x)(hg:x.gone=false)(hl: -1≤d.len):Rl {R with ns:=R.ns.set i (gAll d x)} (T.upd i (Tr.given d)):=by
 have:=h.put hx hg (n':=gAll d x) rfl hg (gAll_form hl (h.form x (List.mem_of_getElem? hx) hg)) (f:=Tr.given d) (gAll_nd d x) R.clock
 have e:T.upd i (Tr.given d)={T with ns:=updN T.ns i (Tr.given d),clock:=R.clock}:=by unfold Tr.upd;rw[← h.clock]
 rw[e]
 exact this
theorem rWstat_ok[iG:Scal gV][iN:Scal nV][iH:Scal hV](h:Rl R T)(hi:Inv T)(hlim:Lim 1000000 T)(hg:GOk w0 F l gV T.gs){user:BA}{file:Int}{d:Dr}(hmr:rngI d.mode)(hns:d.name.size≤9223372036854775807)(hgs:d.group.size≤9223372036854775807)
  (E:Hs w0 F w (NP nV R::HP hV R::l)):
  Ca PP Fn.r28_Wstat #[rV gV nV hV R.clock,str user,i64 file,d.V] w λr w'=>∃tv,r=.tuple #[tv,i64 (T.wstat user file d).2]∧GoR w0 F l gV (T.wstat user file d).1 tv w':=by
 obtain⟨hN,hrc,hrv⟩:=h.rng hi hlim
 have hhl:=h.hl
 refine S.r28_Wstat.calls ?_
 unfold S.r28_Wstat
 refine StpA.go E ?_
 clear E
 intro q w_ hq E
 refine StpA.go E ?_
 clear E
 intro e w_ he E
 repeat with_reducible first|refine StpE.go E ?_|(refine StpA.go E ?_;clear E;intro b_ w_ hb_ E)
 (revert b_;intro b hbb E)
 refine(rExists_ok h hi (by omega) (List.mem_of_getElem? (i:=3) rfl) E).mono ?_
 clear E
 rintro r w_ ⟨rfl,E⟩
 refine Un.not ?_
 cases hget:T.get file with
 |none=>
  simp only[Option.isSome_none,Bool.not_false]
  repeat with_reducible first|refine Stp.go ?_|refine StpE.go E ?_|(refine StpW.go E ?_;clear E;intro w_ E)
  have e:T.wstat user file d=(T,4):=by unfold Tr.wstat;simp only[hget]
  rw[e]
  exact⟨_,rfl,.same h E.tl.tl.tl⟩
 |some m=>
 simp only[Option.isSome_some,Bool.not_true]
 obtain⟨i,n,rfl,hn,hgone,rfl⟩:=h.sm hi hget
 have hnm2:=List.mem_of_getElem? hn
 have hlt:=(List.getElem?_eq_some_iff.1 hn).1
 have hpi:n.nd.path=(i:Int):=h.idx i n hn
 have hsz:n.data.size≤1048576:=(hi.data _ (h.mem.2 ⟨n,hnm2,hgone,rfl⟩)).2
 obtain⟨k,u,hpar,hu,hug,hpu,hki⟩:=h.parent hi hn hgone
 have hult:=(List.getElem?_eq_some_iff.1 hu).1
 have hup:n.nd.up=(k:Int):=hpar
 repeat with_reducible first|refine Stp.go ?_|refine StpE.go E ?_
 refine IxA.rw rn_len E (List.mem_of_getElem? (i:=3) rfl) (by omega) (by omega) (by omega) ?_
 rw[Int.toNat_natCast]
 intro a ha
 skip
 refine Fa.el ha ?_
 intro a2 ha2
 skip
 refine LdA.rw rn_len E (List.mem_of_getElem? (i:=3) rfl) ha2 hn (by omega) (ds:=n.dir.cs) rfl rfl ?_
 repeat with_reducible first|refine StpE.go E ?_|(refine StpW.go E ?_;clear E;intro w_ E)|(refine StpA.go E ?_;clear E;intro b_ w_ hb_ E)
 (revert b_;intro z hbz E)
 have m2:NP nV R∈wl R gV nV hV d n z b e q l:=List.mem_of_getElem? (i:=4) rfl
 have hgo:GOk w0 F (wl R gV nV hV d n z b e q l) gV T.gs:=(((((hg.cons _).cons _).cons _).cons _).cons _).cons _
 have keep:∀w_,Hs w0 F w_ (pt z (oc n.dir.cs Ty.t7)::pt b (oc [gV,nV,hV,i64 R.clock] Ty.t0)::pt e (oc d.cs Ty.t7)::pt q (oc [gV,nV,hV,i64 R.clock] Ty.t0)::NP nV R::HP hV R::l)→GoR w0 F l gV T (rV gV nV hV R.clock) w_:=λw_ E=>.same h E.tl.tl.tl.tl
 refine(rDirectory_ok hn m2 E).mono ?_
 clear E
 rintro r w_ ⟨rfl,E⟩
 (intro J25 hJ25)
 have fin25:∀b0 w_,b0=decide (¬(d.kind=0∧d.vers=0∧d.path=0)∨d.owner≠emp∨d.last≠emp∨d.len< -1∨d.time< -1∨(d.name≠emp∧n.nd.path=0))→Hs w0 F w_ (wl R gV nV hV d n z b e q l)→J25 [.bool b0] w_:=by
  intro b0 w_ hb E
  repeat with_reducible (apply hJ25;intro u_)
  clear hJ25
  by_cases c1:¬(d.kind=0∧d.vers=0∧d.path=0)∨d.owner≠emp∨d.last≠emp∨d.len< -1∨d.time< -1∨(d.name≠emp∧n.nd.path=0)
  ·rw[decide_eq_true c1]at hb
   subst hb
   repeat with_reducible first|refine Stp.go ?_|refine StpE.go E ?_|(refine StpW.go E ?_;clear E;intro w_ E)
   have e:T.wstat user i d=(T,1):=by unfold Tr.wstat;simp only[hget];rw[if_pos c1]
   rw[e]
   exact⟨_,rfl,keep _ E⟩
  rw[decide_eq_false c1]at hb
  subst hb
  have hlen: -1≤d.len:=by
   rcases Int.lt_or_le d.len (-1)with hc|hc
   ·exact absurd (.inr (.inr (.inr (.inl hc)))) c1
   ·exact hc
  have hnp:d.name≠emp→n.nd.path≠0:=λh1 h2=>c1 (.inr (.inr (.inr (.inr (.inr ⟨h1,h2⟩)))))
  repeat with_reducible refine Stp.go ?_
  (intro J32 hJ32)
  have fin32:∀b0 w_,b0=decide (d.mode≠ -1∧(rightM d.mode=false∨andI d.mode 2147483648≠andI n.nd.mode 2147483648))→Hs w0 F w_ (wl R gV nV hV d n z b e q l)→J32 [.bool b0] w_:=by
   intro b0 w_ hb E
   repeat with_reducible (apply hJ32;intro u_)
   clear hJ32
   by_cases c2:d.mode≠ -1∧(rightM d.mode=false∨andI d.mode 2147483648≠andI n.nd.mode 2147483648)
   ·rw[decide_eq_true c2]at hb
    subst hb
    repeat with_reducible first|refine Stp.go ?_|refine StpE.go E ?_|(refine StpW.go E ?_;clear E;intro w_ E)
    have e:T.wstat user i d=(T,1):=by unfold Tr.wstat;simp only[hget];rw[if_neg c1,if_pos c2]
    rw[e]
    exact⟨_,rfl,keep _ E⟩
   rw[decide_eq_false c2]at hb
   subst hb
   repeat with_reducible refine Stp.go ?_
   (intro J39 hJ39)
   have fin39:∀b0 w_,b0=decide ((d.name≠emp∧goodName d.name=false)∨(d.group≠emp∧goodName d.group=false))→Hs w0 F w_ (wl R gV nV hV d n z b e q l)→J39 [.bool b0] w_:=by
    intro b0 w_ hb E
    repeat with_reducible (apply hJ39;intro u_)
    clear hJ39
    by_cases c3:(d.name≠emp∧goodName d.name=false)∨(d.group≠emp∧goodName d.group=false)
    ·rw[decide_eq_true c3]at hb
     subst hb
     repeat with_reducible first|refine Stp.go ?_|refine StpE.go E ?_|(refine StpW.go E ?_;clear E;intro w_ E)
     have e:T.wstat user i d=(T,8):=by unfold Tr.wstat;simp only[hget];rw[if_neg c1,if_neg c2,if_pos c3]
     rw[e]
     exact⟨_,rfl,keep _ E⟩
    rw[decide_eq_false c3]at hb
    subst hb
    repeat with_reducible refine Stp.go ?_
    (intro J46 hJ46)
    have fin46:∀b0 w_,b0=decide (d.len≠ -1∧d.len≠0∧n.nd.dir=true)→Hs w0 F w_ (wl R gV nV hV d n z b e q l)→J46 [.bool b0] w_:=by
     intro b0 w_ hb E
     repeat with_reducible (apply hJ46;intro u_)
     clear hJ46
     by_cases c4:d.len≠ -1∧d.len≠0∧n.nd.dir=true
     ·rw[decide_eq_true c4]at hb
      subst hb
      repeat with_reducible first|refine Stp.go ?_|refine StpE.go E ?_|(refine StpW.go E ?_;clear E;intro w_ E)
      have e:T.wstat user i d=(T,18):=by unfold Tr.wstat;simp only[hget];rw[if_neg c1,if_neg c2,if_neg c3,if_pos c4]
      rw[e]
      exact⟨_,rfl,keep _ E⟩
     rw[decide_eq_false c4]at hb
     subst hb
     repeat with_reducible first|refine Stp.go ?_|refine StpE.go E ?_
     refine Bi.gtr ?_ ?_<;>intro c5<;>(repeat with_reducible first|refine Stp.go ?_|refine StpE.go E ?_|(refine StpW.go E ?_;clear E;intro w_ E))
     ·have e:T.wstat user i d=(T,3):=by unfold Tr.wstat;simp only[hget];rw[if_neg c1,if_neg c2,if_neg c3,if_neg c4,if_pos c5]
      rw[e]
      exact⟨_,rfl,keep _ E⟩
     have c5':¬1048576<d.len:=by omega
     refine IxA.rw rn_len E m2 (by omega) (by omega) (by omega) ?_
     rw[Int.toNat_natCast]
     intro a ha
     skip
     refine Fa.el ha ?_
     intro a2 ha2
     skip
     refine Ld.rw rn_len E m2 ha2 hn (by omega) (y:=i64 n.par) rfl ?_
     rw[hpar]
     obtain⟨mv,hmv⟩:∃mv:Prop,mv=(d.name≠emp∧d.name≠n.nd.name):=⟨_,rfl⟩
     (intro J64 hJ64)
     have fin64:∀b0 w_,b0=decide ((d.name≠emp∧d.name≠n.nd.name)∧(T.kid n.nd.up d.name).isSome)→Hs w0 F w_ (wl R gV nV hV d n z b e q l)→J64 [.bool b0] w_:=by
      intro b0 w_ hb E
      repeat with_reducible (apply hJ64;intro u_)
      clear hJ64
      by_cases c6:(d.name≠emp∧d.name≠n.nd.name)∧(T.kid n.nd.up d.name).isSome
      ·rw[decide_eq_true c6]at hb
       subst hb
       repeat with_reducible first|refine Stp.go ?_|refine StpE.go E ?_|(refine StpW.go E ?_;clear E;intro w_ E)
       have e:T.wstat user i d=(T,5):=by unfold Tr.wstat;simp only[hget];rw[if_neg c1,if_neg c2,if_neg c3,if_neg c4,if_neg c5',if_pos c6]
       rw[e]
       exact⟨_,rfl,keep _ E⟩
      rw[decide_eq_false c6]at hb
      subst hb
      repeat with_reducible refine Stp.go ?_
      have eP:∀hc:((d.name≠emp∧d.name≠n.nd.name)∧T.may user (T.parent n.nd) 2=false)∨(d.len≠ -1∧n.nd.dir=false∧T.may user n.nd 2=false)∨((d.mode≠ -1∨d.time≠ -1∨d.group≠emp)∧user≠n.nd.owner)∨(d.group≠emp∧T.member user d.group=false),T.wstat user i d=(T,17):=λhc=>by
       unfold Tr.wstat;simp only[hget];rw[if_neg c1,if_neg c2,if_neg c3,if_neg c4,if_neg c5',if_neg c6,if_pos hc]
      (intro J71 hJ71)
      have fin71:∀b0 w_,b0=decide ((d.name≠emp∧d.name≠n.nd.name)∧T.may user (T.parent n.nd) 2=false)→Hs w0 F w_ (wl R gV nV hV d n z b e q l)→J71 [.bool b0] w_:=by
       intro b0 w_ hb E
       repeat with_reducible (apply hJ71;intro u_)
       clear hJ71
       by_cases c7:(d.name≠emp∧d.name≠n.nd.name)∧T.may user (T.parent n.nd) 2=false
       ·rw[decide_eq_true c7]at hb
        subst hb
        repeat with_reducible first|refine Stp.go ?_|refine StpE.go E ?_|(refine StpW.go E ?_;clear E;intro w_ E)
        rw[eP (.inl c7)]
        exact⟨_,rfl,keep _ E⟩
       rw[decide_eq_false c7]at hb
       subst hb
       repeat with_reducible refine Stp.go ?_
       (intro J78 hJ78)
       have fin78:∀b0 w_,b0=decide (d.len≠ -1∧n.nd.dir=false∧T.may user n.nd 2=false)→Hs w0 F w_ (wl R gV nV hV d n z b e q l)→J78 [.bool b0] w_:=by
        intro b0 w_ hb E
        repeat with_reducible (apply hJ78;intro u_)
        clear hJ78
        by_cases c8:d.len≠ -1∧n.nd.dir=false∧T.may user n.nd 2=false
        ·rw[decide_eq_true c8]at hb
         subst hb
         repeat with_reducible first|refine Stp.go ?_|refine StpE.go E ?_|(refine StpW.go E ?_;clear E;intro w_ E)
         rw[eP (.inr (.inl c8))]
         exact⟨_,rfl,keep _ E⟩
        rw[decide_eq_false c8]at hb
        subst hb
        repeat with_reducible refine Stp.go ?_
        (intro J85 hJ85)
        have fin85:∀b0 w_,b0=decide ((d.mode≠ -1∨d.time≠ -1∨d.group≠emp)∧user≠n.nd.owner)→Hs w0 F w_ (wl R gV nV hV d n z b e q l)→J85 [.bool b0] w_:=by
         intro b0 w_ hb E
         repeat with_reducible (apply hJ85;intro u_)
         clear hJ85
         by_cases c9:(d.mode≠ -1∨d.time≠ -1∨d.group≠emp)∧user≠n.nd.owner
         ·rw[decide_eq_true c9]at hb
          subst hb
          repeat with_reducible first|refine Stp.go ?_|refine StpE.go E ?_|(refine StpW.go E ?_;clear E;intro w_ E)
          rw[eP (.inr (.inr (.inl c9)))]
          exact⟨_,rfl,keep _ E⟩
         rw[decide_eq_false c9]at hb
         subst hb
         repeat with_reducible refine Stp.go ?_
         (intro J92 hJ92)
         have fin92:∀b0 w_,b0=decide (d.group≠emp∧T.member user d.group=false)→Hs w0 F w_ (wl R gV nV hV d n z b e q l)→J92 [.bool b0] w_:=by
          intro b0 w_ hb E
          repeat with_reducible (apply hJ92;intro u_)
          clear hJ92
          by_cases c10:d.group≠emp∧T.member user d.group=false
          ·rw[decide_eq_true c10]at hb
           subst hb
           repeat with_reducible first|refine Stp.go ?_|refine StpE.go E ?_|(refine StpW.go E ?_;clear E;intro w_ E)
           rw[eP (.inr (.inr (.inr c10)))]
           exact⟨_,rfl,keep _ E⟩
          rw[decide_eq_false c10]at hb
          subst hb
          repeat with_reducible refine Stp.go ?_
          have cP:¬(((d.name≠emp∧d.name≠n.nd.name)∧T.may user (T.parent n.nd) 2=false)∨(d.len≠ -1∧n.nd.dir=false∧T.may user n.nd 2=false)∨((d.mode≠ -1∨d.time≠ -1∨d.group≠emp)∧user≠n.nd.owner)∨(d.group≠emp∧T.member user d.group=false)):=by
           rintro(hc|hc|hc|hc)
           ·exact c7 hc
           ·exact c8 hc
           ·exact c9 hc
           ·exact c10 hc
          (intro J99 hJ99)
          have fin99:∀b0 w_,b0=decide (d.name=emp∧d.group=emp∧d.mode= -1∧d.time= -1∧d.len= -1)→Hs w0 F w_ (wl R gV nV hV d n z b e q l)→J99 [.bool b0] w_:=by
           intro b0 w_ hb E
           repeat with_reducible (apply hJ99;intro u_)
           clear hJ99
           by_cases c11:d.name=emp∧d.group=emp∧d.mode= -1∧d.time= -1∧d.len= -1
           ·rw[decide_eq_true c11]at hb
            subst hb
            repeat with_reducible first|refine Stp.go ?_|refine StpE.go E ?_|(refine StpW.go E ?_;clear E;intro w_ E)
            have e:T.wstat user i d=(T,0):=by unfold Tr.wstat;simp only[hget];rw[if_neg c1,if_neg c2,if_neg c3,if_neg c4,if_neg c5',if_neg c6,if_neg cP,if_pos c11]
            rw[e]
            exact⟨_,rfl,keep _ E⟩
           rw[decide_eq_false c11]at hb
           subst hb
           repeat with_reducible first|refine Stp.go ?_|refine StpE.go E ?_
           have eF:T.wstat user i d=((T.change user ((i:Int)::if d.name≠emp∧d.name≠n.nd.name then[n.nd.up]else[])).upd i (Tr.given d),0):=by
            unfold Tr.wstat;simp only[hget];rw[if_neg c1,if_neg c2,if_neg c3,if_neg c4,if_neg c5',if_neg c6,if_neg cP,if_neg c11]
           rw[eF]
           refine(rCopied_ok (R:=R) (by omega) (by omega) m2 (List.mem_of_getElem? (i:=5) rfl) E).mono ?_
           clear E
           rintro r w_ ⟨n2,v2,rfl,i2,i3,E⟩
           skip
           refine(rTick_ok hrc E).mono ?_
           clear E
           rintro r w_ ⟨rfl,E⟩
           repeat with_reducible first|refine StpE.go E ?_|(refine StpW.go E ?_;clear E;intro w_ E)|(refine StpA.go E ?_;clear E;intro b_ w_ hb_ E)
           (revert b_;intro p hbp E)
           (replace E:=((E.bIx 0).bIx 1))
           refine(rTouch_ok hn (hrv n hnm2 hgone) E).mono ?_
           clear E
           rintro r w_ ⟨rfl,E⟩
           (replace E:=((E.bIx 0).bIx 1))
           repeat with_reducible (refine StpW.go E ?_;clear E;intro w_ E)
           obtain⟨xa,hxa⟩:∃xa,xa=n.tch (R.clock+1) user:=⟨_,rfl⟩
           have xdata:xa.data=n.data:=by rw[hxa];rfl
           have xdir:xa.nd.dir=n.nd.dir:=by rw[hxa];rfl
           have xname:xa.dir.name=n.nd.name:=by rw[hxa];rfl
           have xgone:xa.gone=false:=by rw[hxa];exact hgone
           have hch:=h.changed user hn hgone
           rw[← hxa]at E hch
           (intro J118 hJ118)
           have fin118:∀(L:List RN) (Tf:Tr) w_,i<L.length→Tf=(T.change user ((i:Int)::if d.name≠emp∧d.name≠n.nd.name then[n.nd.up]else[])).upd i (Tr.given d)→Rl {R with ns:=L.set i (gAll d xa),clock:=R.clock+1} Tf→Hs w0 F w_ (pl R gV nV hV d n z b e q l p n2 v2 (L.set i (g1 d xa)))→J118 [] w_:=by
            intro L Tf w_ hL hTf hr E
            have self:∀y:RN,(L.set i y)[i]? =some y:=λy=>List.getElem?_set_self hL
            have hl1:∀y:RN,i<(L.set i y).length:=λy=>by rw[List.length_set];exact hL
            repeat with_reducible (apply hJ118;intro u_)
            (intro J121 hJ121)
            have fin121:∀w_,Hs w0 F w_ (pl R gV nV hV d n z b e q l p n2 v2 (L.set i (g2 d (g1 d xa))))→J121 [] w_:=by
             intro w_ E
             repeat with_reducible (apply hJ121;intro u_)
             (intro J124 hJ124)
             have fin124:∀w_,Hs w0 F w_ (pl R gV nV hV d n z b e q l p n2 v2 (L.set i (g3 d (g2 d (g1 d xa)))))→J124 [] w_:=by
              intro w_ E
              repeat with_reducible (apply hJ124;intro u_)
              (intro J127 hJ127)
              have fin127:∀w_,Hs w0 F w_ (pl R gV nV hV d n z b e q l p n2 v2 (L.set i (g4 d (g3 d (g2 d (g1 d xa))))))→J127 [] w_:=by
               intro w_ E
               repeat with_reducible (apply hJ127;intro u_)
               (intro J130 hJ130)
               have fin130:∀w_,Hs w0 F w_ (pl R gV nV hV d n z b e q l p n2 v2 (L.set i (gAll d xa)))→J130 [] w_:=by
                intro w_ E
                repeat with_reducible first|refine StpE.go E ?_|(refine StpW.go E ?_;clear E;intro w_ E)|(apply hJ130;intro u_)
                rw[← hTf]
                refine⟨_,rfl,n2,v2,_,rfl,i2,i3,hr,?_⟩
                exact E.tl.drop (List.Sublist.cons_cons _ (List.Sublist.cons_cons _ (List.sublist_append_right [_,_,_,_,_,_] l)))
               clear hJ130
               (intro J136 hJ136)
               have fin136:∀b0 w_,b0=decide (d.len≠ -1∧n.nd.dir=false)→Hs w0 F w_ (pl R gV nV hV d n z b e q l p n2 v2 (L.set i (g4 d (g3 d (g2 d (g1 d xa))))))→J136 [.bool b0] w_:=by
                intro b0 w_ hb E
                repeat with_reducible (apply hJ136;intro u_)
                clear hJ136
                by_cases cL:d.len≠ -1∧n.nd.dir=false
                ·rw[decide_eq_true cL]at hb
                 subst hb
                 have cLn:¬(d.len= -1∨xa.nd.dir=true):=by
                  rintro(hc|hc)
                  ·exact cL.1 hc
                  ·rw[xdir,cL.2]at hc;cases hc
                 repeat with_reducible first|refine Stp.go ?_|refine StpE.go E ?_|(refine StpW.go E ?_;clear E;intro w_ E)
                 refine IxA.rw rn_len E (List.mem_of_getElem? (i:=1) rfl) (by omega) (by omega) (hl1 _) ?_
                 rw[Int.toNat_natCast]
                 intro a ha
                 skip
                 refine Fa.el ha ?_
                 intro a2 ha2
                 skip
                 refine Ld.rw rn_len E (List.mem_of_getElem? (i:=1) rfl) ha2 (self _) (by omega) (y:=str n.data) (by rw[← xdata];rfl) ?_
                 repeat with_reducible first|refine Stp.go ?_|refine StpE.go E ?_
                 rw[show d.len=((d.len.toNat:Nat):Int) by omega]
                 refine(rSized_ok (by omega) (by omega) E).mono ?_
                 clear E
                 rintro r w_ ⟨rfl,E⟩
                 refine⟨by (repeat with_reducible refine StpE.go E ?_);rfl,?_⟩
                 refine IxA.rw rn_len E (List.mem_of_getElem? (i:=1) rfl) (by omega) (by omega) (hl1 _) ?_
                 rw[Int.toNat_natCast]
                 intro a ha
                 skip
                 refine Fa.el ha ?_
                 intro a2 ha2
                 skip
                 refine St.rw (j:=1) rn_len E rfl ha2 (self _) (by omega) rfl (y:={g4 d (g3 d (g2 d (g1 d xa)))with data:=sized n.data d.len.toNat}) rfl ?_
                 clear E
                 intro w_ E
                 (try simp only[List.set_cons_zero,List.set_cons_succ,List.cons_append,List.nil_append,Nat.zero_add,Nat.add_zero]at E)
                 rw[List.set_set]at E
                 repeat with_reducible first|refine Stp.go ?_|refine StpE.go E ?_
                 refine IxA.rw rn_len E (List.mem_of_getElem? (i:=1) rfl) (by omega) (by omega) (hl1 _) ?_
                 rw[Int.toNat_natCast]
                 intro a ha
                 skip
                 refine Fa.el ha ?_
                 intro a2 ha2
                 skip
                 refine Fa.el ha2 ?_
                 intro a3 ha3
                 skip
                 refine St.rw (j:=1) rn_len E rfl ha3 (self _) (by omega) rfl (y:={g4 d (g3 d (g2 d (g1 d xa)))with data:=sized n.data d.len.toNat,dir:={(g4 d (g3 d (g2 d (g1 d xa)))).dir with len:=d.len}}) rfl ?_
                 clear E
                 intro w_ E
                 (try simp only[List.set_cons_zero,List.set_cons_succ,List.cons_append,List.nil_append,Nat.zero_add,Nat.add_zero]at E)
                 rw[List.set_set]at E
                 refine fin130 _ ?_
                 have e:gAll d xa={g4 d (g3 d (g2 d (g1 d xa)))with data:=sized n.data d.len.toNat,dir:={(g4 d (g3 d (g2 d (g1 d xa)))).dir with len:=d.len}}:=by
                  unfold gAll g5
                  rw[if_neg cLn,if_neg cLn,← xdata]
                  rfl
                 rw[e]
                 exact E
                ·rw[decide_eq_false cL]at hb
                 subst hb
                 have cLn:d.len= -1∨xa.nd.dir=true:=by
                  by_cases h1:d.len= -1
                  ·exact .inl h1
                  ·right
                   rw[xdir]
                   cases hdd:n.nd.dir with
                   |true=>rfl
                   |false=>exact absurd ⟨h1,hdd⟩ cL
                 repeat with_reducible refine Stp.go ?_
                 refine fin130 _ ?_
                 have e:gAll d xa=g4 d (g3 d (g2 d (g1 d xa))):=by
                  unfold gAll g5
                  rw[if_pos cLn,if_pos cLn]
                 rw[e]
                 exact E
               clear hJ136
               skip
               refine Un.not ?_
               cases hdd:n.nd.dir with
               |true=>
                simp only[Bool.not_true]
                repeat with_reducible refine Stp.go ?_
                exact fin136 false _ (decide_eq_false λhc=>by rw[hdd]at hc;cases hc.2).symm E
               |false=>
                simp only[Bool.not_false]
                repeat with_reducible first|refine Stp.go ?_|refine StpE.go E ?_
                refine Bi.neq ?_ ?_<;>intro k1<;>(repeat with_reducible refine Stp.go ?_)
                ·exact fin136 true _ (decide_eq_true ⟨k1,hdd⟩).symm E
                ·exact fin136 false _ (decide_eq_false λhc=>hc.1 k1).symm E
              clear hJ127
              repeat with_reducible first|refine Stp.go ?_|refine StpE.go E ?_
              refine Bi.neq ?_ ?_<;>intro k1<;>(repeat with_reducible first|refine Stp.go ?_|refine StpE.go E ?_)
              ·refine IxA.rw rn_len E (List.mem_of_getElem? (i:=1) rfl) (by omega) (by omega) (hl1 _) ?_
               rw[Int.toNat_natCast]
               intro a ha
               skip
               refine Fa.el ha ?_
               intro a2 ha2
               skip
               refine Fa.el ha2 ?_
               intro a3 ha3
               skip
               refine St.rw (j:=1) rn_len E rfl ha3 (self _) (by omega) rfl (y:={g3 d (g2 d (g1 d xa))with dir:={(g3 d (g2 d (g1 d xa))).dir with time:=d.time}}) rfl ?_
               clear E
               intro w_ E
               (try simp only[List.set_cons_zero,List.set_cons_succ,List.cons_append,List.nil_append,Nat.zero_add,Nat.add_zero]at E)
               rw[List.set_set]at E
               refine fin127 _ ?_
               rw[show g4 d (g3 d (g2 d (g1 d xa)))={g3 d (g2 d (g1 d xa))with dir:={(g3 d (g2 d (g1 d xa))).dir with time:=d.time}} by unfold g4;rw[if_neg k1]]
               exact E
              ·refine fin127 _ ?_
               rw[show g4 d (g3 d (g2 d (g1 d xa)))=g3 d (g2 d (g1 d xa)) by unfold g4;rw[if_pos k1]]
               exact E
             clear hJ124
             repeat with_reducible first|refine Stp.go ?_|refine StpE.go E ?_
             refine Bi.neq ?_ ?_<;>intro k1<;>(repeat with_reducible first|refine Stp.go ?_|refine StpE.go E ?_)
             ·refine IxA.rw rn_len E (List.mem_of_getElem? (i:=1) rfl) (by omega) (by omega) (hl1 _) ?_
              rw[Int.toNat_natCast]
              intro a ha
              skip
              refine Fa.el ha ?_
              intro a2 ha2
              skip
              refine Fa.el ha2 ?_
              intro a3 ha3
              skip
              refine St.rw (j:=1) rn_len E rfl ha3 (self _) (by omega) rfl (y:={g2 d (g1 d xa)with dir:={(g2 d (g1 d xa)).dir with mode:=d.mode}}) rfl ?_
              clear E
              intro w_ E
              (try simp only[List.set_cons_zero,List.set_cons_succ,List.cons_append,List.nil_append,Nat.zero_add,Nat.add_zero]at E)
              rw[List.set_set]at E
              repeat with_reducible first|refine Stp.go ?_|refine StpE.go E ?_|(refine StpW.go E ?_;clear E;intro w_ E)
              refine(rKind_ok E).mono ?_
              clear E
              rintro r w_ ⟨rfl,E⟩
              refine⟨by (repeat with_reducible refine StpE.go E ?_);rfl,?_⟩
              refine IxA.rw rn_len E (List.mem_of_getElem? (i:=1) rfl) (by omega) (by omega) (hl1 _) ?_
              rw[Int.toNat_natCast]
              intro a ha
              skip
              refine Fa.el ha ?_
              intro a2 ha2
              skip
              refine Fa.el ha2 ?_
              intro a3 ha3
              skip
              refine Fa.el ha3 ?_
              intro a4 ha4
              skip
              refine St.rw (j:=1) rn_len E rfl ha4 (self _) (by omega) rfl (y:={g2 d (g1 d xa)with dir:={(g2 d (g1 d xa)).dir with mode:=d.mode,kind:=kindOf d.mode}}) rfl ?_
              clear E
              intro w_ E
              (try simp only[List.set_cons_zero,List.set_cons_succ,List.cons_append,List.nil_append,Nat.zero_add,Nat.add_zero]at E)
              rw[List.set_set]at E
              refine fin124 _ ?_
              rw[show g3 d (g2 d (g1 d xa))={g2 d (g1 d xa)with dir:={(g2 d (g1 d xa)).dir with mode:=d.mode,kind:=kindOf d.mode}} by unfold g3;rw[if_neg k1,if_neg k1]]
              exact E
             ·refine fin124 _ ?_
              rw[show g3 d (g2 d (g1 d xa))=g2 d (g1 d xa) by unfold g3;rw[if_pos k1,if_pos k1]]
              exact E
            clear hJ121
            repeat with_reducible first|refine Stp.go ?_|refine StpE.go E ?_
            refine Bi.sneq ?_ ?_<;>intro k1<;>(repeat with_reducible first|refine Stp.go ?_|refine StpE.go E ?_)
            ·refine IxA.rw rn_len E (List.mem_of_getElem? (i:=1) rfl) (by omega) (by omega) (hl1 _) ?_
             rw[Int.toNat_natCast]
             intro a ha
             skip
             refine Fa.el ha ?_
             intro a2 ha2
             skip
             refine Fa.el ha2 ?_
             intro a3 ha3
             skip
             refine St.rw (j:=1) rn_len E rfl ha3 (self _) (by omega) rfl (y:={g1 d xa with dir:={(g1 d xa).dir with group:=d.group}}) rfl ?_
             clear E
             intro w_ E
             (try simp only[List.set_cons_zero,List.set_cons_succ,List.cons_append,List.nil_append,Nat.zero_add,Nat.add_zero]at E)
             rw[List.set_set]at E
             refine fin121 _ ?_
             rw[show g2 d (g1 d xa)={g1 d xa with dir:={(g1 d xa).dir with group:=d.group}} by unfold g2;rw[if_neg (show ¬d.group=emp from k1)]]
             exact E
            ·refine fin121 _ ?_
             rw[show g2 d (g1 d xa)=g1 d xa by unfold g2;rw[if_pos (show d.group=emp from k1)]]
             exact E
           clear hJ118
           (intro J224 hJ224)
           have hla:i<(R.ns.set i xa).length:=by rw[List.length_set];exact hlt
           have hxi:(R.ns.set i xa)[i]? =some xa:=List.getElem?_set_self hlt
           have fin224:∀b0 w_,b0=decide (d.name≠emp∧d.name≠n.nd.name)→Hs w0 F w_ (pl R gV nV hV d n z b e q l p n2 v2 (R.ns.set i xa))→J224 [.bool b0] w_:=by
            intro b0 w_ hb E
            repeat with_reducible (apply hJ224;intro u_)
            clear hJ224
            by_cases cM:d.name≠emp∧d.name≠n.nd.name
            ·rw[decide_eq_true cM]at hb
             subst hb
             repeat with_reducible first|refine Stp.go ?_|refine StpE.go E ?_
             have hki2:=hki (hnp cM.1)
             have hu1:(R.ns.set i xa)[k]? =some u:=by rw[← hu];exact List.getElem?_set_ne λhc=>hki2 hc.symm
             (replace E:=((E.bIx 0).bIx 1))
             refine(rTouch_ok (R:=R.set i xa) hu1 (hrv u (List.mem_of_getElem? hu) hug) E).mono ?_
             clear E
             rintro r w_ ⟨rfl,E⟩
             (replace E:=((E.bIx 0).bIx 1))
             repeat with_reducible first|refine Stp.go ?_|refine StpE.go E ?_|(refine StpW.go E ?_;clear E;intro w_ E)
             have hx2:((R.ns.set i xa).set k (u.tch (R.clock+1) user))[i]? =some xa:=by rw[← hxi];exact List.getElem?_set_ne hki2
             have hl2:i<((R.ns.set i xa).set k (u.tch (R.clock+1) user)).length:=by rw[List.length_set];exact hla
             refine IxA.rw rn_len E (List.mem_of_getElem? (i:=1) rfl) (by omega) (by omega) (by rw[Int.toNat_natCast];exact hl2) ?_
             rw[Int.toNat_natCast]
             intro a ha
             skip
             refine Fa.el ha ?_
             intro a2 ha2
             skip
             refine Fa.el ha2 ?_
             intro a3 ha3
             skip
             refine St.rw (j:=1) rn_len E rfl ha3 hx2 (by omega) rfl (y:={xa with dir:={xa.dir with name:=d.name}}) rfl ?_
             clear E
             intro w_ E
             (try simp only[List.set_cons_zero,List.set_cons_succ,List.cons_append,List.nil_append,Nat.zero_add,Nat.add_zero]at E)
             have hc2:=change2 h user hn hgone hu hug hki2
             rw[← hxa]at hc2
             refine fin118 ((R.ns.set i xa).set k (u.tch (R.clock+1) user)) _ _ hl2 ?_ (hc2.gave (R:={R with ns:=(R.ns.set i xa).set k (u.tch (R.clock+1) user),clock:=R.clock+1}) hx2 xgone hlen) ?_
             ·rw[if_pos cM,hup]
             ·rw[show g1 d xa={xa with dir:={xa.dir with name:=d.name}} by unfold g1;rw[if_neg cM.1]]
              exact E
            ·rw[decide_eq_false cM]at hb
             subst hb
             repeat with_reducible refine Stp.go ?_
             refine fin118 (R.ns.set i xa) _ _ hla ?_ (hch.gave (R:={R with ns:=R.ns.set i xa,clock:=R.clock+1}) hxi xgone hlen) ?_
             ·rw[if_neg cM]
             ·have e1:g1 d xa=xa:=by
               unfold g1
               by_cases h1:d.name=emp
               ·rw[if_pos h1]
               ·rw[if_neg h1]
                have h2:d.name=n.nd.name:=by
                 by_cases h2:d.name=n.nd.name
                 ·exact h2
                 ·exact absurd ⟨h1,h2⟩ cM
                rw[h2,← xname]
              rw[e1,List.set_set]
              exact E
           clear hJ224
           repeat with_reducible first|refine Stp.go ?_|refine StpE.go E ?_
           refine Bi.sneq ?_ ?_<;>intro k1<;>(repeat with_reducible first|refine Stp.go ?_|refine StpE.go E ?_)
           ·refine Bi.sneq ?_ ?_<;>intro k2<;>(repeat with_reducible refine Stp.go ?_)
            ·exact fin224 true _ (decide_eq_true ⟨k1,k2⟩).symm E
            ·exact fin224 false _ (decide_eq_false λhc=>hc.2 k2).symm E
           ·exact fin224 false _ (decide_eq_false λhc=>hc.1 k1).symm E
          clear hJ99
          repeat with_reducible first|refine Stp.go ?_|refine StpE.go E ?_
          refine Bi.seql ?_ ?_<;>intro k1<;>(repeat with_reducible first|refine Stp.go ?_|refine StpE.go E ?_)
          ·refine Bi.seql ?_ ?_<;>intro k2<;>(repeat with_reducible first|refine Stp.go ?_|refine StpE.go E ?_)
           ·refine Bi.eql ?_ ?_<;>intro k3<;>(repeat with_reducible first|refine Stp.go ?_|refine StpE.go E ?_)
            ·refine Bi.eql ?_ ?_<;>intro k4<;>(repeat with_reducible first|refine Stp.go ?_|refine StpE.go E ?_)
             ·refine Bi.eql ?_ ?_<;>intro k5<;>(repeat with_reducible refine Stp.go ?_)
              ·exact fin99 true _ (decide_eq_true ⟨k1,k2,k3,k4,k5⟩).symm E
              ·exact fin99 false _ (decide_eq_false λhc=>k5 hc.2.2.2.2).symm E
             ·exact fin99 false _ (decide_eq_false λhc=>k4 hc.2.2.2.1).symm E
            ·exact fin99 false _ (decide_eq_false λhc=>k3 hc.2.2.1).symm E
           ·exact fin99 false _ (decide_eq_false λhc=>k2 hc.2.1).symm E
          ·exact fin99 false _ (decide_eq_false λhc=>k1 hc.1).symm E
         clear hJ92
         repeat with_reducible first|refine Stp.go ?_|refine StpE.go E ?_
         refine Bi.sneq ?_ ?_<;>intro k1<;>(repeat with_reducible first|refine Stp.go ?_|refine StpE.go E ?_)
         ·refine(rMember2 hgo E).mono ?_
          clear E
          rintro r w_ ⟨rfl,E⟩
          repeat with_reducible refine Stp.go ?_
          refine Un.not ?_
          repeat with_reducible refine Stp.go ?_
          refine fin92 _ _ ?_ E
          have k1:d.group≠emp:=k1
          cases T.member user d.group<;>simp[k1]
         ·exact fin92 false _ (decide_eq_false λhc=>hc.1 k1).symm E
        clear hJ85
        repeat with_reducible first|refine Stp.go ?_|refine StpE.go E ?_
        refine Bi.neq ?_ ?_<;>intro k1<;>(repeat with_reducible first|refine Stp.go ?_|refine StpE.go E ?_)
        ·refine Bi.sneq ?_ ?_<;>intro k4<;>(repeat with_reducible refine Stp.go ?_)
         ·exact fin85 true _ (decide_eq_true ⟨.inl k1,k4⟩).symm E
         ·exact fin85 false _ (decide_eq_false λhc=>hc.2 k4).symm E
        ·refine Bi.neq ?_ ?_<;>intro k2<;>(repeat with_reducible first|refine Stp.go ?_|refine StpE.go E ?_)
         ·refine Bi.sneq ?_ ?_<;>intro k4<;>(repeat with_reducible refine Stp.go ?_)
          ·exact fin85 true _ (decide_eq_true ⟨.inr (.inl k2),k4⟩).symm E
          ·exact fin85 false _ (decide_eq_false λhc=>hc.2 k4).symm E
         ·refine Bi.sneq ?_ ?_<;>intro k3<;>(repeat with_reducible first|refine Stp.go ?_|refine StpE.go E ?_)
          ·refine Bi.sneq ?_ ?_<;>intro k4<;>(repeat with_reducible refine Stp.go ?_)
           ·exact fin85 true _ (decide_eq_true ⟨.inr (.inr k3),k4⟩).symm E
           ·exact fin85 false _ (decide_eq_false λhc=>hc.2 k4).symm E
          ·refine fin85 false _ (Eq.symm (decide_eq_false ?_)) E
           rintro⟨hc|hc|hc,-⟩
           ·exact hc k1
           ·exact hc k2
           ·exact hc k3
       clear hJ78
       skip
       refine Un.not ?_
       cases hdd:n.nd.dir with
       |true=>
        simp only[Bool.not_true]
        repeat with_reducible refine Stp.go ?_
        exact fin78 false _ (decide_eq_false λhc=>by rw[hdd]at hc;cases hc.2.1).symm E
       |false=>
        simp only[Bool.not_false]
        repeat with_reducible first|refine Stp.go ?_|refine StpE.go E ?_
        refine Bi.neq ?_ ?_<;>intro k1<;>(repeat with_reducible first|refine Stp.go ?_|refine StpE.go E ?_)
        ·refine(rMay2 hgo hn m2 E).mono ?_
         clear E
         rintro r w_ ⟨rfl,E⟩
         repeat with_reducible refine Stp.go ?_
         refine Un.not ?_
         repeat with_reducible refine Stp.go ?_
         refine fin78 _ _ ?_ E
         rw[hdd]
         cases T.may user n.nd 2<;>simp[k1]
        ·exact fin78 false _ (decide_eq_false λhc=>hc.1 k1).symm E
      clear hJ71
      repeat with_reducible first|refine Stp.go ?_|refine StpE.go E ?_
      refine Bi.sneq ?_ ?_<;>intro k1<;>(repeat with_reducible first|refine Stp.go ?_|refine StpE.go E ?_)
      ·refine Bi.sneq ?_ ?_<;>intro k2<;>(repeat with_reducible first|refine Stp.go ?_|refine StpE.go E ?_)
       ·refine(rMay2 hgo hu m2 E).mono ?_
        clear E
        rintro r w_ ⟨rfl,E⟩
        repeat with_reducible refine Stp.go ?_
        refine Un.not ?_
        repeat with_reducible refine Stp.go ?_
        refine fin71 _ _ ?_ E
        rw[hpu]
        have k1:d.name≠emp:=k1
        have k2:d.name≠n.nd.name:=k2
        cases T.may user u.nd 2<;>simp[k1,k2]
       ·exact fin71 false _ (decide_eq_false λhc=>hc.1.2 k2).symm E
      ·exact fin71 false _ (decide_eq_false λhc=>hc.1.1 k1).symm E
     clear hJ64
     repeat with_reducible first|refine Stp.go ?_|refine StpE.go E ?_
     refine Bi.sneq ?_ ?_<;>intro k1<;>(repeat with_reducible first|refine Stp.go ?_|refine StpE.go E ?_)
     ·refine Bi.sneq ?_ ?_<;>intro k2<;>(repeat with_reducible first|refine Stp.go ?_|refine StpE.go E ?_)
      ·refine(rChild_ok h hi (by omega) m2 E).mono ?_
       clear E
       rintro r w_ ⟨⟨rfl,hk⟩|⟨j,v,rfl,hv,hvg,hk⟩,E⟩
       ·(repeat first|(with_reducible first|refine Stp.go ?_)|((with_reducible refine Bi.dec false ?_ ?_);focus exact rfl))
        exact fin64 false _ (by rw[hup,hk];simp) E
       ·(repeat first|(with_reducible first|refine Stp.go ?_)|((with_reducible refine Bi.dec true ?_ ?_);focus exact rfl))
        refine fin64 true _ ?_ E
        rw[hup,hk]
        exact(decide_eq_true ⟨⟨k1,k2⟩,rfl⟩).symm
      ·exact fin64 false _ (decide_eq_false λhc=>hc.1.2 k2).symm E
     ·exact fin64 false _ (decide_eq_false λhc=>hc.1.1 k1).symm E
    clear hJ46
    skip
    cases hdd:n.nd.dir with
    |false=>
     repeat with_reducible refine Stp.go ?_
     exact fin46 false _ (decide_eq_false λhc=>by rw[hdd]at hc;cases hc.2.2).symm E
    |true=>
     repeat with_reducible first|refine Stp.go ?_|refine StpE.go E ?_
     refine Bi.gtr ?_ ?_<;>intro k1<;>(repeat with_reducible refine Stp.go ?_)
     ·exact fin46 true _ (decide_eq_true ⟨by omega,by omega,hdd⟩).symm E
     ·exact fin46 false _ (decide_eq_false λhc=>by omega).symm E
   clear hJ39
   repeat with_reducible first|refine Stp.go ?_|refine StpE.go E ?_
   have grp:(d.name≠emp→goodName d.name=true)→∀w_,Hs w0 F w_ (wl R gV nV hV d n z b e q l)→(d.group=emp→J39 [.bool false] w_)∧(d.group≠emp→J39 [.bool !(goodName d.group)] w_):=by
    intro hnn w_ E
    refine⟨λk2=>fin39 false _ (Eq.symm (decide_eq_false ?_)) E,λk2=>fin39 _ _ ?_ E⟩
    ·rintro(hc|hc)
     ·rw[hnn hc.1]at hc;cases hc.2
     ·exact hc.1 k2
    ·cases hgd:goodName d.group with
     |true=>
      refine Eq.symm (decide_eq_false ?_)
      rintro(hc|hc)
      ·rw[hnn hc.1]at hc;cases hc.2
      ·cases hc.2
     |false=>exact(decide_eq_true (.inr ⟨k2,rfl⟩)).symm
   refine Bi.sneq ?_ ?_<;>intro k1<;>(repeat with_reducible first|refine Stp.go ?_|refine StpE.go E ?_)
   ·refine(rValid_ok hns).mono ?_
    rintro r w' ⟨rfl,rfl⟩
    repeat with_reducible refine Stp.go ?_
    refine Un.not ?_
    cases hv:goodName d.name with
    |false=>
     simp only[Bool.not_false]
     repeat with_reducible refine Stp.go ?_
     exact fin39 true _ (decide_eq_true (.inl ⟨k1,hv⟩)).symm E
    |true=>
     simp only[Bool.not_true]
     repeat with_reducible first|refine Stp.go ?_|refine StpE.go E ?_
     refine Bi.sneq ?_ ?_<;>intro k2<;>(repeat with_reducible first|refine Stp.go ?_|refine StpE.go E ?_)
     ·refine(rValid_ok hgs).mono ?_
      rintro r w' ⟨rfl,rfl⟩
      repeat with_reducible refine Stp.go ?_
      refine Un.not ?_
      repeat with_reducible refine Stp.go ?_
      exact(grp (λ_=>hv) _ E).2 k2
     ·exact(grp (λ_=>hv) _ E).1 k2
   ·refine Bi.sneq ?_ ?_<;>intro k2<;>(repeat with_reducible first|refine Stp.go ?_|refine StpE.go E ?_)
    ·refine(rValid_ok hgs).mono ?_
     rintro r w' ⟨rfl,rfl⟩
     repeat with_reducible refine Stp.go ?_
     refine Un.not ?_
     repeat with_reducible refine Stp.go ?_
     exact(grp (λhc=>absurd k1 hc) _ E).2 k2
    ·exact(grp (λhc=>absurd k1 hc) _ E).1 k2
  clear hJ32
  repeat with_reducible first|refine Stp.go ?_|refine StpE.go E ?_
  refine Bi.neq ?_ ?_<;>intro k1<;>(repeat with_reducible first|refine Stp.go ?_|refine StpE.go E ?_)
  ·refine(rSum_ok hmr E).mono ?_
   clear E
   rintro r w_ ⟨rfl,E⟩
   repeat with_reducible refine Stp.go ?_
   refine Un.not ?_
   cases hr:rightM d.mode with
   |false=>
    simp only[Bool.not_false]
    repeat with_reducible refine Stp.go ?_
    exact fin32 true _ (decide_eq_true ⟨k1,.inl hr⟩).symm E
   |true=>
    simp only[Bool.not_true]
    repeat with_reducible first|refine Stp.go ?_|refine StpE.go E ?_
    refine Bi.neq ?_ ?_<;>intro k2<;>(repeat with_reducible refine Stp.go ?_)
    ·exact fin32 true _ (decide_eq_true ⟨k1,.inr k2⟩).symm E
    ·refine fin32 false _ (Eq.symm (decide_eq_false ?_)) E
     rintro⟨-,hc|hc⟩
     ·rw[hr]at hc;cases hc
     ·exact hc k2
  ·exact fin32 false _ (decide_eq_false λhc=>hc.1 k1).symm E
 clear hJ25
 repeat with_reducible first|refine Stp.go ?_|refine StpE.go E ?_
 have eq3:ceqL [i64 d.kind,i64 d.vers,i64 d.path] [i64 0,i64 0,i64 0]=decide (d.kind=0∧d.vers=0∧d.path=0):=by
  simp only[ceqL,ceq,Bool.and_true]
  by_cases x1:d.kind=0<;>by_cases x2:d.vers=0<;>by_cases x3:d.path=0<;>simp[x1,x2,x3]
 refine EqS.n (xs:=[i64 d.kind,i64 d.vers,i64 d.path]) (ys:=[i64 0,i64 0,i64 0]) lv_Qid st_Qid g_Qid rfl rfl ?_
 rw[eq3]
 by_cases k1:d.kind=0∧d.vers=0∧d.path=0
 rotate_left
 ·rw[decide_eq_false k1,Bool.not_false]
  repeat with_reducible refine Stp.go ?_
  exact fin25 true _ (by rw[decide_eq_true (.inl k1)]) E
 rw[decide_eq_true k1,Bool.not_true]
 repeat with_reducible first|refine Stp.go ?_|refine StpE.go E ?_
 refine Bi.sneq ?_ ?_<;>intro k2<;>(repeat with_reducible first|refine Stp.go ?_|refine StpE.go E ?_)
 ·have k2:d.owner≠emp:=k2
  exact fin25 true _ (by rw[decide_eq_true (.inr (.inl k2))]) E
 have k2':¬d.owner≠emp:=λh=>h k2
 refine Bi.sneq ?_ ?_<;>intro k3<;>(repeat with_reducible first|refine Stp.go ?_|refine StpE.go E ?_)
 ·have k3:d.last≠emp:=k3
  exact fin25 true _ (by rw[decide_eq_true (.inr (.inr (.inl k3)))]) E
 have k3':¬d.last≠emp:=λh=>h k3
 refine Bi.lss ?_ ?_<;>intro k4<;>(repeat with_reducible first|refine Stp.go ?_|refine StpE.go E ?_)
 ·exact fin25 true _ (by rw[decide_eq_true (.inr (.inr (.inr (.inl k4))))]) E
 have k4':¬d.len< -1:=by omega
 refine Bi.lss ?_ ?_<;>intro k5<;>(repeat with_reducible first|refine Stp.go ?_|refine StpE.go E ?_)
 ·exact fin25 true _ (by rw[decide_eq_true (.inr (.inr (.inr (.inr (.inl k5)))))]) E
 have k5':¬d.time< -1:=by omega
 have rest:∀{p:Prop} [Decidable p],(p↔d.name≠emp∧n.nd.path=0)→decide p=decide (¬(d.kind=0∧d.vers=0∧d.path=0)∨d.owner≠emp∨d.last≠emp∨d.len< -1∨d.time< -1∨(d.name≠emp∧n.nd.path=0)):=by
  intro p _ hp
  refine decide_eq_decide.2 (hp.trans ⟨λh=>.inr (.inr (.inr (.inr (.inr h)))),λh=>?_⟩)
  rcases h with h|h|h|h|h|h
  ·exact absurd k1 h
  ·exact absurd h k2'
  ·exact absurd h k3'
  ·exact absurd h k4'
  ·exact absurd h k5'
  ·exact h
 refine Bi.sneq ?_ ?_<;>intro k6<;>(repeat with_reducible refine Stp.go ?_)
 ·have k6:d.name≠emp:=k6
  refine Bi.eql ?_ ?_<;>intro k7<;>(repeat with_reducible refine Stp.go ?_)
  ·exact fin25 true _ (by rw[← rest (p:=True) ⟨λ_=>⟨k6,by rw[hpi];exact k7⟩,λ_=>trivial⟩];rfl) E
  ·exact fin25 false _ (by rw[← rest (p:=False) ⟨λh=>h.elim,λh=>k7 (by rw[← hpi];exact h.2)⟩];rfl) E
 ·exact fin25 false _ (by rw[← rest (p:=False) ⟨λh=>h.elim,λh=>h.1 k6⟩];rfl) E
set_option maxRecDepth 100000
set_option linter.unusedVariables false
set_option linter.unusedSimpArgs false
variable {w0 w:World} {F:Nat→Prop} {l:List As}
variable {R:RT} {T:Tr} {gV nV hV:Value} {c:Int}
abbrev f28V:Value:=.agg #[str ⟨#[]⟩,i64 0,i64 0,i64 0,i64 0,i64 0,i64 0,str ⟨#[]⟩,str ⟨#[]⟩,str ⟨#[]⟩,str ⟨#[]⟩,str ⟨#[]⟩]
theorem u_sl_File28:PP.underlying Ty.t24=some (.slice Ty.t44):=by kernel_rfl
theorem s_File28:sizeK PP Ty.t44=some 12:=by kernel_rfl
theorem z_File28:zeroK PP Ty.t44=some f28V:=by kernel_rfl
theorem e_File28:el3 PP Ty.t44=some (some f28V,12,144):=by kernel_rfl
theorem fl_len(x:Fl):x.cs.length=12:=rfl
theorem fcs_scal28(L:List Fl):(fcs L).all scalV=true:=by
 unfold fcs;rw[List.all_flatMap];simp[Fl.cs,scalV]
theorem BdS.fl28{x:Fl}{k:Value→World→Prop}(E:Hs w0 F w l)(hk:∀v w',Hs w0 F w' (slA v Ty.t44 12 x.cs::l)→k v w'):Ef PP (Instr.buildSlice Ty.t24 1 #[(0,.agg x.cs.toArray)]) w k:=
 BdS.sl E u_sl_File28 s_File28 z_File28 (by omega) (by omega) (xs:=x.cs) (by kernel_rfl) rfl hk
theorem rBelow_ok[iG:Scal gV][iN:Scal nV][iH:Scal hV](h:Rl R T)(hi:Inv T)(hN:R.ns.length≤1000000000)(hps:∀n∈T.ns,(T.pathS n).size≤100000){rk:Int→Nat}(hrk:∀n∈T.ns,n.path≠0→rk n.up<rk n.path)(hrb:∀p,rk p≤1024):
  ∀(f:Nat) {i:Nat} {n:RN} {ov:Value} {L:List Fl} {l:List As} {w:World},R.ns[i]? =some n→n.gone=false→1024<rk i+f→L.length+(belowN T f n.nd).length≤1000000→NP nV R∈l→slA ov Ty.t44 12 (fcs L)∈l→Hs w0 F w l→
   Ca PP Fn.r28_below #[rV gV nV hV c,i64 i,str (T.topS n.nd),ov] w λr w'=>Hs w0 F w' (slA r Ty.t44 12 (fcs (L++(belowN T f n.nd).map T.fl))::l)
 |0,i,n,ov,L,l,w,_,_,hf,_,_,_,_=>by have:=hrb i;omega
 |f+1,i,n,ov,L,l,w,hn,hg,hf,hlen,mN,mO,E=>by
  have ih:=λ{i:Nat} {n:RN} {ov:Value} {L:List Fl} {l:List As} {w:World}=>rBelow_ok h hi hN hps hrk hrb f (i:=i) (n:=n) (ov:=ov) (L:=L) (l:=l) (w:=w)
  have hnm:=List.mem_of_getElem? hn
  have hlt:=(List.getElem?_eq_some_iff.1 hn).1
  have hpn:n.nd.path=(i:Int):=h.idx i n hn
  have hbe:belowN T (f+1) n.nd=n.nd::(T.kidsS n.nd.path).flatMap (belowN T f):=rfl
  obtain⟨K,hK⟩:∃K,T.kidsS (i:Int)=K:=⟨_,rfl⟩
  have hKm:∀y∈K,y∈T.ns∧y.path≠0∧y.up=n.nd.path:=λy hy=>by rw[← hK]at hy;rw[hpn];exact kidsS_mem hi hy
  have hkl:K.length≤1024:=by rw[← hK];exact kidsS_len hi _
  rw[hpn,hK]at hbe
  rw[hbe,List.length_cons]at hlen
  have hflc:(T.fl n.nd).cs=[str (T.pathS n.nd),i64 n.dir.kind,i64 n.dir.vers,i64 n.dir.path,i64 n.dir.mode,i64 n.dir.time,i64 n.dir.len,str n.dir.name,str n.dir.owner,str n.dir.group,str n.dir.last,str n.data]:=by
   unfold Tr.fl;rw[h.stat hnm hg];rfl
  have hnT:n.nd∈T.ns:=h.mem.2 ⟨n,hnm,hg,rfl⟩
  refine S.r28_below.calls ?_
  unfold S.r28_below
  refine StpA.go E ?_
  clear E
  intro q w_ hq E
  (intro J3 hJ3)
  have fin3:∀w_,Hs w0 F w_ (pt q (oc [gV,nV,hV,i64 c] Ty.t0)::l)→J3 [str (T.pathS n.nd)] w_:=by
   intro w_ E
   repeat with_reducible first|refine Stp.go ?_|refine StpE.go E ?_|(refine StpW.go E ?_;clear E;intro w_ E)|(apply hJ3;intro u_)
   clear hJ3
   refine IxA.rw rn_len E (List.mem_cons_of_mem _ mN) (by omega) (by omega) (by omega) ?_
   rw[Int.toNat_natCast]
   intro a ha
   skip
   refine Fa.el ha ?_
   intro a2 ha2
   skip
   refine LdA.rw rn_len E (List.mem_cons_of_mem _ mN) ha2 hn (by omega) (ds:=n.dir.cs) rfl rfl ?_
   repeat with_reducible first|refine Stp.go ?_|refine StpE.go E ?_
   refine IxA.rw rn_len E (List.mem_cons_of_mem _ mN) (by omega) (by omega) (by omega) ?_
   rw[Int.toNat_natCast]
   intro b hb
   skip
   refine Fa.el hb ?_
   intro b2 hb2
   skip
   refine Ld.rw rn_len E (List.mem_cons_of_mem _ mN) hb2 hn (by omega) (y:=str n.data) rfl ?_
   repeat with_reducible refine StpE.go E ?_
   rw[← hflc]
   refine⟨?_,?_,trivial⟩
   ·refine BdS.nul E u_sl_File28 s_File28 ?_
    clear E
    intro t16 w_ E
    refine⟨by (repeat with_reducible refine StpE.go E ?_);rfl,LdA.rw rn_len E (List.mem_cons_of_mem _ (List.mem_cons_of_mem _ mN)) ha2 hn (by omega) (ds:=n.dir.cs) rfl rfl rfl,by (repeat with_reducible refine StpE.go E ?_);rfl,Ld.rw rn_len E (List.mem_cons_of_mem _ (List.mem_cons_of_mem _ mN)) hb2 hn (by omega) (y:=str n.data) rfl rfl,?_,?_,trivial⟩
    ·refine Ap.el E (i:=0) rfl u_sl_File28 ⟨_,u_sl_File28,λ_ h=>by cases h⟩ e_File28 (by omega) (Src.slice (show SliceAt ov Ty.t44 12 (fcs L) w_ from E.sat _ (List.mem_cons_of_mem _ (List.mem_cons_of_mem _ mO))) (rw_len fl_len _) (by omega) (fcs_scal28 _)) rfl (by simp;omega) (by simp;omega) ?_
     clear E
     intro t18 w_ E
     (try simp only[List.set_cons_zero,List.set_cons_succ,List.cons_append,List.nil_append,Nat.zero_add,Nat.add_zero]at E)
     refine⟨by (repeat with_reducible refine StpE.go E ?_);rfl,LdA.rw rn_len E (List.mem_cons_of_mem _ (List.mem_cons_of_mem _ mN)) ha2 hn (by omega) (ds:=n.dir.cs) rfl rfl rfl,by (repeat with_reducible refine StpE.go E ?_);rfl,Ld.rw rn_len E (List.mem_cons_of_mem _ (List.mem_cons_of_mem _ mN)) hb2 hn (by omega) (y:=str n.data) rfl rfl,?_⟩
     refine BdS.fl28 (x:=T.fl n.nd) E ?_
     clear E
     intro t33 w_ E
     refine Ap.el E (i:=1) rfl u_sl_File28 ⟨_,u_sl_File28,λ_ h=>by cases h⟩ e_File28 (by omega) (Src.slice (show SliceAt t33 Ty.t44 12 (T.fl n.nd).cs w_ from E.sat _ (List.mem_of_getElem? (i:=0) rfl)) rfl (by omega) rfl) rfl (by rw[rw_len fl_len];omega) (by rw[rw_len fl_len];omega) ?_
     clear E
     intro t34 w_ E
     (try simp only[List.set_cons_zero,List.set_cons_succ,List.cons_append,List.nil_append,Nat.zero_add,Nat.add_zero]at E)
     replace E:=E.tl
     rw[show fcs L++(T.fl n.nd).cs=fcs (L++[T.fl n.nd]) by simp[fcs]]at E
     repeat with_reducible refine StpE.go E ?_
     refine(rChildren_ok h hi hN (List.mem_cons_of_mem _ (List.mem_cons_of_mem _ mN)) E).mono ?_
     clear E
     intro cv w_ E
     rw[hK]at E
     (replace E:=((E.bIx 0).bIx 1))
     refine⟨λl1 w1=>∃(v:Value) (j:Nat),l1=[v,i64 j]∧j≤K.length∧Hs w0 F w1 (slA v Ty.t44 12 (fcs (L++[T.fl n.nd]++((K.take j).flatMap (belowN T f)).map T.fl))::slA cv Ty.int64 1 (K.map λk=>i64 k.path)::pt q (oc [gV,nV,hV,i64 c] Ty.t0)::l),λl1 _=>match l1 with|[_,.int _ i]=>K.length-i.toNat|_=>0,⟨t34,0,rfl,Nat.zero_le _,by simpa using E⟩,?_⟩
     clear E
     rintro v t12 u2 w_ ⟨v',j,h1,hj,E⟩
     cases h1
     have hcr:=RdS.by1 cv E
     rw[List.length_map]at hcr
     refine hcr.len ?_
     refine Bi.lss ?_ ?_<;>intro hlt2<;>(repeat with_reducible first|refine Stp.go ?_|refine StpE.go E ?_|(refine StpW.go E ?_;clear E;intro w_ E))
     ·have hy:K[j]? =some (K[j]'(by omega)):=List.getElem?_eq_getElem (by omega)
      generalize K[j]'(by omega)=y at hy
      obtain⟨hyT,hy0,hyu⟩:=hKm y (List.mem_of_getElem? hy)
      obtain⟨x,hxn,hxg,rfl⟩:=h.mem.1 hyT
      obtain⟨m,hm⟩:=List.getElem?_of_mem hxn
      have hmp:=h.idx m x hm
      have hml:=(List.getElem?_eq_some_iff.1 hm).1
      have hst:=topS_step hi hyT hy0
      have hpar:T.parent x.nd=n.nd:=by
       unfold Tr.parent;rw[hyu,hpn,h.at_ hi hn hg];rfl
      rw[hpar]at hst
      have hxs:=hps _ hyT
      have hts:(T.topS x.nd).size≤100000:=by unfold Tr.topS;split;exact Nat.zero_le _;exact hxs
      have hsz2:=congrArg ByteArray.size hst
      simp only[ByteArray.size_append]at hsz2
      have hss:ByteArray.size sep=1:=rfl
      have hnm:x.nd.name=x.dir.name:=rfl
      rw[hnm]at hsz2 hst
      refine hcr.ix (by omega) (by omega) (by omega) ?_
      intro a ha
      skip
      refine ha.ld E (x:=i64 (m:Int)) (by rw[Int.toNat_natCast,Nat.mul_one,List.getElem?_drop,Nat.add_zero,List.getElem?_map,hy,← hmp];rfl) ?_
      skip
      refine Bi.sadd (t:=sep) (by omega) ?_
      repeat with_reducible first|refine Stp.go ?_|refine StpE.go E ?_
      refine hcr.ix (by omega) (by omega) (by omega) ?_
      intro a ha
      skip
      refine ha.ld E (x:=i64 (m:Int)) (by rw[Int.toNat_natCast,Nat.mul_one,List.getElem?_drop,Nat.add_zero,List.getElem?_map,hy,← hmp];rfl) ?_
      skip
      refine IxA.rw rn_len E (List.mem_cons_of_mem _ (List.mem_cons_of_mem _ (List.mem_cons_of_mem _ mN))) (by omega) (by omega) (by omega) ?_
      rw[Int.toNat_natCast]
      intro a ha
      skip
      refine Fa.el ha ?_
      intro a5 ha5
      skip
      refine Fa.el ha5 ?_
      intro a6 ha6
      skip
      refine Ld.rw rn_len E (List.mem_cons_of_mem _ (List.mem_cons_of_mem _ (List.mem_cons_of_mem _ mN))) ha6 hm (by omega) (y:=str x.dir.name) rfl ?_
      skip
      refine Bi.sadd (by rw[ByteArray.size_append];omega) ?_
      skip
      have hrx:=hrk _ hyT hy0
      rw[hyu,show x.nd.path=(m:Int)from hmp]at hrx
      rw[hpn]at hrx
      have tk:(K.take (j+1)).flatMap (belowN T f)=(K.take j).flatMap (belowN T f)++belowN T f x.nd:=by
       rw[List.take_add_one,hy,List.flatMap_append];simp
      have hbl:((K.take (j+1)).flatMap (belowN T f)).length≤(K.flatMap (belowN T f)).length:=by
       conv=>rhs;rw[← List.take_append_drop (j+1) K,List.flatMap_append,List.length_append]
       omega
      rw[tk,List.length_append]at hbl
      rw[ByteArray.append_assoc,← hst]
      refine(ih (i:=m) (n:=x) (L:=L++[T.fl n.nd]++((K.take j).flatMap (belowN T f)).map T.fl) hm hxg (by omega) (by simp only[List.length_append,List.length_map,List.length_singleton];omega) (List.mem_cons_of_mem _ (List.mem_cons_of_mem _ (List.mem_cons_of_mem _ mN))) List.mem_cons_self E).mono ?_
      clear E
      intro r w_ E
      refine Bi.add (by omega) ?_
      refine⟨⟨r,j+1,by simp,by omega,?_⟩,by simp only[];omega⟩
      rw[tk,List.map_append,← List.append_assoc]
      exact(E.bIx 1).tl
     ·rw[show K.take j=K from List.take_of_length_le (by omega)]at E
      rw[show L++(belowN T (f+1) n.nd).map T.fl=L++[T.fl n.nd]++(K.flatMap (belowN T f)).map T.fl by rw[hbe];simp]
      exact E.drop (List.Sublist.cons_cons _ ((List.sublist_cons_self _ _).trans (List.sublist_cons_self _ _)))
    ·refine BdS.fl28 (x:=T.fl n.nd) E ?_
     clear E
     intro t33 w_ E
     refine Ap.el E (i:=1) rfl u_sl_File28 ⟨_,u_sl_File28,λ_ h=>by cases h⟩ e_File28 (by omega) (Src.slice (show SliceAt ov Ty.t44 12 (fcs L) w_ from E.sat _ (List.mem_cons_of_mem _ (List.mem_cons_of_mem _ (List.mem_cons_of_mem _ mO)))) (rw_len fl_len _) (by omega) (fcs_scal28 _)) rfl (by simp;omega) (by simp;omega) ?_
     clear E
     intro t18 w_ E
     (try simp only[List.set_cons_zero,List.set_cons_succ,List.cons_append,List.nil_append,Nat.zero_add,Nat.add_zero]at E)
     refine⟨by (repeat with_reducible refine StpE.go E ?_);rfl,LdA.rw rn_len E (List.mem_cons_of_mem _ (List.mem_cons_of_mem _ (List.mem_cons_of_mem _ mN))) ha2 hn (by omega) (ds:=n.dir.cs) rfl rfl rfl,by (repeat with_reducible refine StpE.go E ?_);rfl,Ld.rw rn_len E (List.mem_cons_of_mem _ (List.mem_cons_of_mem _ (List.mem_cons_of_mem _ mN))) hb2 hn (by omega) (y:=str n.data) rfl rfl,?_⟩
     refine Ap.el E (i:=1) rfl u_sl_File28 ⟨_,u_sl_File28,λ_ h=>by cases h⟩ e_File28 (by omega) (Src.slice (show SliceAt t33 Ty.t44 12 (T.fl n.nd).cs w_ from E.sat _ (List.mem_of_getElem? (i:=0) rfl)) rfl (by omega) rfl) rfl (by rw[rw_len fl_len];omega) (by rw[rw_len fl_len];omega) ?_
     clear E
     intro t34 w_ E
     (try simp only[List.set_cons_zero,List.set_cons_succ,List.cons_append,List.nil_append,Nat.zero_add,Nat.add_zero]at E)
     replace E:=E.tl
     rw[show fcs L++(T.fl n.nd).cs=fcs (L++[T.fl n.nd]) by simp[fcs]]at E
     repeat with_reducible refine StpE.go E ?_
     refine(rChildren_ok h hi hN (List.mem_cons_of_mem _ (List.mem_cons_of_mem _ mN)) E).mono ?_
     clear E
     intro cv w_ E
     rw[hK]at E
     (replace E:=((E.bIx 0).bIx 1))
     refine⟨λl1 w1=>∃(v:Value) (j:Nat),l1=[v,i64 j]∧j≤K.length∧Hs w0 F w1 (slA v Ty.t44 12 (fcs (L++[T.fl n.nd]++((K.take j).flatMap (belowN T f)).map T.fl))::slA cv Ty.int64 1 (K.map λk=>i64 k.path)::pt q (oc [gV,nV,hV,i64 c] Ty.t0)::l),λl1 _=>match l1 with|[_,.int _ i]=>K.length-i.toNat|_=>0,⟨t34,0,rfl,Nat.zero_le _,by simpa using E⟩,?_⟩
     clear E
     rintro v t12 u2 w_ ⟨v',j,h1,hj,E⟩
     cases h1
     have hcr:=RdS.by1 cv E
     rw[List.length_map]at hcr
     refine hcr.len ?_
     refine Bi.lss ?_ ?_<;>intro hlt2<;>(repeat with_reducible first|refine Stp.go ?_|refine StpE.go E ?_|(refine StpW.go E ?_;clear E;intro w_ E))
     ·have hy:K[j]? =some (K[j]'(by omega)):=List.getElem?_eq_getElem (by omega)
      generalize K[j]'(by omega)=y at hy
      obtain⟨hyT,hy0,hyu⟩:=hKm y (List.mem_of_getElem? hy)
      obtain⟨x,hxn,hxg,rfl⟩:=h.mem.1 hyT
      obtain⟨m,hm⟩:=List.getElem?_of_mem hxn
      have hmp:=h.idx m x hm
      have hml:=(List.getElem?_eq_some_iff.1 hm).1
      have hst:=topS_step hi hyT hy0
      have hpar:T.parent x.nd=n.nd:=by
       unfold Tr.parent;rw[hyu,hpn,h.at_ hi hn hg];rfl
      rw[hpar]at hst
      have hxs:=hps _ hyT
      have hts:(T.topS x.nd).size≤100000:=by unfold Tr.topS;split;exact Nat.zero_le _;exact hxs
      have hsz2:=congrArg ByteArray.size hst
      simp only[ByteArray.size_append]at hsz2
      have hss:ByteArray.size sep=1:=rfl
      have hnm:x.nd.name=x.dir.name:=rfl
      rw[hnm]at hsz2 hst
      refine hcr.ix (by omega) (by omega) (by omega) ?_
      intro a ha
      skip
      refine ha.ld E (x:=i64 (m:Int)) (by rw[Int.toNat_natCast,Nat.mul_one,List.getElem?_drop,Nat.add_zero,List.getElem?_map,hy,← hmp];rfl) ?_
      skip
      refine Bi.sadd (t:=sep) (by omega) ?_
      repeat with_reducible first|refine Stp.go ?_|refine StpE.go E ?_
      refine hcr.ix (by omega) (by omega) (by omega) ?_
      intro a ha
      skip
      refine ha.ld E (x:=i64 (m:Int)) (by rw[Int.toNat_natCast,Nat.mul_one,List.getElem?_drop,Nat.add_zero,List.getElem?_map,hy,← hmp];rfl) ?_
      skip
      refine IxA.rw rn_len E (List.mem_cons_of_mem _ (List.mem_cons_of_mem _ (List.mem_cons_of_mem _ mN))) (by omega) (by omega) (by omega) ?_
      rw[Int.toNat_natCast]
      intro a ha
      skip
      refine Fa.el ha ?_
      intro a5 ha5
      skip
      refine Fa.el ha5 ?_
      intro a6 ha6
      skip
      refine Ld.rw rn_len E (List.mem_cons_of_mem _ (List.mem_cons_of_mem _ (List.mem_cons_of_mem _ mN))) ha6 hm (by omega) (y:=str x.dir.name) rfl ?_
      skip
      refine Bi.sadd (by rw[ByteArray.size_append];omega) ?_
      skip
      have hrx:=hrk _ hyT hy0
      rw[hyu,show x.nd.path=(m:Int)from hmp]at hrx
      rw[hpn]at hrx
      have tk:(K.take (j+1)).flatMap (belowN T f)=(K.take j).flatMap (belowN T f)++belowN T f x.nd:=by
       rw[List.take_add_one,hy,List.flatMap_append];simp
      have hbl:((K.take (j+1)).flatMap (belowN T f)).length≤(K.flatMap (belowN T f)).length:=by
       conv=>rhs;rw[← List.take_append_drop (j+1) K,List.flatMap_append,List.length_append]
       omega
      rw[tk,List.length_append]at hbl
      rw[ByteArray.append_assoc,← hst]
      refine(ih (i:=m) (n:=x) (L:=L++[T.fl n.nd]++((K.take j).flatMap (belowN T f)).map T.fl) hm hxg (by omega) (by simp only[List.length_append,List.length_map,List.length_singleton];omega) (List.mem_cons_of_mem _ (List.mem_cons_of_mem _ (List.mem_cons_of_mem _ mN))) List.mem_cons_self E).mono ?_
      clear E
      intro r w_ E
      refine Bi.add (by omega) ?_
      refine⟨⟨r,j+1,by simp,by omega,?_⟩,by simp only[];omega⟩
      rw[tk,List.map_append,← List.append_assoc]
      exact(E.bIx 1).tl
     ·rw[show K.take j=K from List.take_of_length_le (by omega)]at E
      rw[show L++(belowN T (f+1) n.nd).map T.fl=L++[T.fl n.nd]++(K.flatMap (belowN T f)).map T.fl by rw[hbe];simp]
      exact E.drop (List.Sublist.cons_cons _ ((List.sublist_cons_self _ _).trans (List.sublist_cons_self _ _)))
   ·refine BdS.fl28 (x:=T.fl n.nd) E ?_
    clear E
    intro t33 w_ E
    refine BdS.nul E u_sl_File28 s_File28 ?_
    clear E
    intro t16 w_ E
    refine⟨by (repeat with_reducible refine StpE.go E ?_);rfl,LdA.rw rn_len E (List.mem_cons_of_mem _ (List.mem_cons_of_mem _ (List.mem_cons_of_mem _ mN))) ha2 hn (by omega) (ds:=n.dir.cs) rfl rfl rfl,by (repeat with_reducible refine StpE.go E ?_);rfl,Ld.rw rn_len E (List.mem_cons_of_mem _ (List.mem_cons_of_mem _ (List.mem_cons_of_mem _ mN))) hb2 hn (by omega) (y:=str n.data) rfl rfl,?_⟩
    refine Ap.el E (i:=0) rfl u_sl_File28 ⟨_,u_sl_File28,λ_ h=>by cases h⟩ e_File28 (by omega) (Src.slice (show SliceAt ov Ty.t44 12 (fcs L) w_ from E.sat _ (List.mem_cons_of_mem _ (List.mem_cons_of_mem _ (List.mem_cons_of_mem _ mO)))) (rw_len fl_len _) (by omega) (fcs_scal28 _)) rfl (by simp;omega) (by simp;omega) ?_
    clear E
    intro t18 w_ E
    (try simp only[List.set_cons_zero,List.set_cons_succ,List.cons_append,List.nil_append,Nat.zero_add,Nat.add_zero]at E)
    refine⟨by (repeat with_reducible refine StpE.go E ?_);rfl,LdA.rw rn_len E (List.mem_cons_of_mem _ (List.mem_cons_of_mem _ (List.mem_cons_of_mem _ mN))) ha2 hn (by omega) (ds:=n.dir.cs) rfl rfl rfl,by (repeat with_reducible refine StpE.go E ?_);rfl,Ld.rw rn_len E (List.mem_cons_of_mem _ (List.mem_cons_of_mem _ (List.mem_cons_of_mem _ mN))) hb2 hn (by omega) (y:=str n.data) rfl rfl,?_⟩
    refine Ap.el E (i:=0) rfl u_sl_File28 ⟨_,u_sl_File28,λ_ h=>by cases h⟩ e_File28 (by omega) (Src.slice (show SliceAt t33 Ty.t44 12 (T.fl n.nd).cs w_ from E.sat _ (List.mem_of_getElem? (i:=1) rfl)) rfl (by omega) rfl) rfl (by rw[rw_len fl_len];omega) (by rw[rw_len fl_len];omega) ?_
    clear E
    intro t34 w_ E
    (try simp only[List.set_cons_zero,List.set_cons_succ,List.cons_append,List.nil_append,Nat.zero_add,Nat.add_zero]at E)
    replace E:=(E.bIx 1).tl
    rw[show fcs L++(T.fl n.nd).cs=fcs (L++[T.fl n.nd]) by simp[fcs]]at E
    repeat with_reducible refine StpE.go E ?_
    refine(rChildren_ok h hi hN (List.mem_cons_of_mem _ (List.mem_cons_of_mem _ mN)) E).mono ?_
    clear E
    intro cv w_ E
    rw[hK]at E
    (replace E:=((E.bIx 0).bIx 1))
    refine⟨λl1 w1=>∃(v:Value) (j:Nat),l1=[v,i64 j]∧j≤K.length∧Hs w0 F w1 (slA v Ty.t44 12 (fcs (L++[T.fl n.nd]++((K.take j).flatMap (belowN T f)).map T.fl))::slA cv Ty.int64 1 (K.map λk=>i64 k.path)::pt q (oc [gV,nV,hV,i64 c] Ty.t0)::l),λl1 _=>match l1 with|[_,.int _ i]=>K.length-i.toNat|_=>0,⟨t34,0,rfl,Nat.zero_le _,by simpa using E⟩,?_⟩
    clear E
    rintro v t12 u2 w_ ⟨v',j,h1,hj,E⟩
    cases h1
    have hcr:=RdS.by1 cv E
    rw[List.length_map]at hcr
    refine hcr.len ?_
    refine Bi.lss ?_ ?_<;>intro hlt2<;>(repeat with_reducible first|refine Stp.go ?_|refine StpE.go E ?_|(refine StpW.go E ?_;clear E;intro w_ E))
    ·have hy:K[j]? =some (K[j]'(by omega)):=List.getElem?_eq_getElem (by omega)
     generalize K[j]'(by omega)=y at hy
     obtain⟨hyT,hy0,hyu⟩:=hKm y (List.mem_of_getElem? hy)
     obtain⟨x,hxn,hxg,rfl⟩:=h.mem.1 hyT
     obtain⟨m,hm⟩:=List.getElem?_of_mem hxn
     have hmp:=h.idx m x hm
     have hml:=(List.getElem?_eq_some_iff.1 hm).1
     have hst:=topS_step hi hyT hy0
     have hpar:T.parent x.nd=n.nd:=by
      unfold Tr.parent;rw[hyu,hpn,h.at_ hi hn hg];rfl
     rw[hpar]at hst
     have hxs:=hps _ hyT
     have hts:(T.topS x.nd).size≤100000:=by unfold Tr.topS;split;exact Nat.zero_le _;exact hxs
     have hsz2:=congrArg ByteArray.size hst
     simp only[ByteArray.size_append]at hsz2
     have hss:ByteArray.size sep=1:=rfl
     have hnm:x.nd.name=x.dir.name:=rfl
     rw[hnm]at hsz2 hst
     refine hcr.ix (by omega) (by omega) (by omega) ?_
     intro a ha
     skip
     refine ha.ld E (x:=i64 (m:Int)) (by rw[Int.toNat_natCast,Nat.mul_one,List.getElem?_drop,Nat.add_zero,List.getElem?_map,hy,← hmp];rfl) ?_
     skip
     refine Bi.sadd (t:=sep) (by omega) ?_
     repeat with_reducible first|refine Stp.go ?_|refine StpE.go E ?_
     refine hcr.ix (by omega) (by omega) (by omega) ?_
     intro a ha
     skip
     refine ha.ld E (x:=i64 (m:Int)) (by rw[Int.toNat_natCast,Nat.mul_one,List.getElem?_drop,Nat.add_zero,List.getElem?_map,hy,← hmp];rfl) ?_
     skip
     refine IxA.rw rn_len E (List.mem_cons_of_mem _ (List.mem_cons_of_mem _ (List.mem_cons_of_mem _ mN))) (by omega) (by omega) (by omega) ?_
     rw[Int.toNat_natCast]
     intro a ha
     skip
     refine Fa.el ha ?_
     intro a5 ha5
     skip
     refine Fa.el ha5 ?_
     intro a6 ha6
     skip
     refine Ld.rw rn_len E (List.mem_cons_of_mem _ (List.mem_cons_of_mem _ (List.mem_cons_of_mem _ mN))) ha6 hm (by omega) (y:=str x.dir.name) rfl ?_
     skip
     refine Bi.sadd (by rw[ByteArray.size_append];omega) ?_
     skip
     have hrx:=hrk _ hyT hy0
     rw[hyu,show x.nd.path=(m:Int)from hmp]at hrx
     rw[hpn]at hrx
     have tk:(K.take (j+1)).flatMap (belowN T f)=(K.take j).flatMap (belowN T f)++belowN T f x.nd:=by
      rw[List.take_add_one,hy,List.flatMap_append];simp
     have hbl:((K.take (j+1)).flatMap (belowN T f)).length≤(K.flatMap (belowN T f)).length:=by
      conv=>rhs;rw[← List.take_append_drop (j+1) K,List.flatMap_append,List.length_append]
      omega
     rw[tk,List.length_append]at hbl
     rw[ByteArray.append_assoc,← hst]
     refine(ih (i:=m) (n:=x) (L:=L++[T.fl n.nd]++((K.take j).flatMap (belowN T f)).map T.fl) hm hxg (by omega) (by simp only[List.length_append,List.length_map,List.length_singleton];omega) (List.mem_cons_of_mem _ (List.mem_cons_of_mem _ (List.mem_cons_of_mem _ mN))) List.mem_cons_self E).mono ?_
     clear E
     intro r w_ E
     refine Bi.add (by omega) ?_
     refine⟨⟨r,j+1,by simp,by omega,?_⟩,by simp only[];omega⟩
     rw[tk,List.map_append,← List.append_assoc]
     exact(E.bIx 1).tl
    ·rw[show K.take j=K from List.take_of_length_le (by omega)]at E
     rw[show L++(belowN T (f+1) n.nd).map T.fl=L++[T.fl n.nd]++(K.flatMap (belowN T f)).map T.fl by rw[hbe];simp]
     exact E.drop (List.Sublist.cons_cons _ ((List.sublist_cons_self _ _).trans (List.sublist_cons_self _ _)))
  clear hJ3
  skip
  by_cases h0:n.nd.path=0
  ·have e:T.topS n.nd=emp:=by unfold Tr.topS;rw[if_pos h0]
   rw[e]
   refine Bi.seql (λ_=>?_) λhc=>absurd rfl hc
   repeat with_reducible refine Stp.go ?_
   have e2:T.pathS n.nd=sep:=pathS_root h0
   rw[e2]at fin3
   exact fin3 _ E
  ·have e:T.topS n.nd=T.pathS n.nd:=by unfold Tr.topS;rw[if_neg h0]
   rw[e]
   refine Bi.seql (λhc=>absurd hc (pathS_nil n.nd)) λ_=>?_
   repeat with_reducible refine Stp.go ?_
   exact fin3 _ E
theorem rFiles_ok[iG:Scal gV][iN:Scal nV][iH:Scal hV](h:Rl R T)(hi:Inv T)(hN:R.ns.length≤1000000000)(hps:∀n∈T.ns,(T.pathS n).size≤100000)(mN:NP nV R∈l)(E:Hs w0 F w l):
  Ca PP Fn.r28_Files #[rV gV nV hV c] w λr w'=>Hs w0 F w' (slA r Ty.t44 12 (fcs T.files)::l):=by
 obtain⟨rk,hrk,hrb⟩:=hi.rankB
 obtain⟨r0,hr0,hr1⟩:=hi.root
 have hg0:T.get 0=some r0:=hi.get.2 ⟨hr0,hr1⟩
 obtain⟨i0,n0,e0,hn0,hng0,rfl⟩:=h.sm hi hg0
 have hi0:i0=0:=by omega
 subst hi0
 refine S.r28_Files.calls ?_
 unfold S.r28_Files
 refine StpA.go E ?_
 clear E
 intro q w_ hq E
 repeat with_reducible refine StpE.go E ?_
 have et:T.topS n0.nd=emp:=by unfold Tr.topS;rw[if_pos hr1]
 have ef:T.files=(belowN T 2000 n0.nd).map T.fl:=by unfold Tr.files;rw[hg0]
 have hbl:=below_len hi 2000 hr0
 have E1:=Hs.nilSl E Ty.t44 12
 have hb:=rBelow_ok (c:=c) (gV:=gV) (hV:=hV) h hi hN hps hrk hrb 2000 (i:=0) (L:=[]) hn0 hng0 (by omega) (by simp only[List.length_nil];omega) (List.mem_cons_of_mem _ (List.mem_cons_of_mem _ mN)) List.mem_cons_self E1
 rw[et]at hb
 refine Ca.mono hb ?_
 clear E E1
 intro r w_ E
 rw[ef]
 rw[List.nil_append]at E
 exact E.drop (List.Sublist.cons_cons _ ((List.sublist_cons_self _ _).trans (List.sublist_cons_self _ _)))
set_option maxRecDepth 100000
set_option linter.unusedVariables false
set_option linter.unusedSimpArgs false
variable {w0 w:World} {F:Nat→Prop} {l:List As}
variable {R:RT} {T:Tr} {gV nV hV:Value} {c:Int}
def nin(A:List BA)(x:BA):Bool:=A.all λy=>decide (x≠y)
theorem nin_iff{A:List BA}{x:BA}:nin A x=true↔x∉A:=by
 unfold nin
 rw[List.all_eq_true]
 constructor
 ·intro h hx
  exact of_decide_eq_true (h x hx) rfl
 ·intro h y hy
  exact decide_eq_true λe=>h (by rw[e];exact hy)
theorem snoc_nodup(A:List BA)(x:BA):decide ((A++[x]).Nodup)=(decide A.Nodup && nin A x):=by
 have:(A++[x]).Nodup↔A.Nodup∧x∉A:=by
  rw[List.nodup_append]
  constructor
  ·rintro⟨h1,-,h3⟩
   exact⟨h1,λhx=>h3 x hx x List.mem_cons_self rfl⟩
  ·rintro⟨h1,h2⟩
   refine⟨h1,by simp,λa ha b hb hab=>?_⟩
   rw[List.mem_singleton.1 hb]at hab
   rw[hab]at ha
   exact h2 ha
 rw[← nin_iff]at this
 by_cases h1:A.Nodup
 ·cases h2:nin A x with
  |true=>rw[decide_eq_true h1,decide_eq_true (this.2 ⟨h1,h2⟩)];rfl
  |false=>rw[decide_eq_true h1,decide_eq_false λhc=>by rw[h2]at this;cases(this.1 hc).2];rfl
 ·rw[decide_eq_false h1,decide_eq_false λhc=>h1 (this.1 hc).1];rfl
theorem snoc_nin(A:List BA)(x y:BA):nin (A++[y]) x=(nin A x && decide (x≠y)):=by
 unfold nin
 rw[List.all_append];simp
theorem rCheck_ok {v : Value} {gv : List (BA × Value)} {gs : Gs} {names : List BA} (hg : GIn w0 F l v gv gs) (hgl : gs.length≤100000) (hul : ∀ g∈gs,g.2.length≤100000) (hsz : ∀ s∈gwords gs,s.size≤9223372036854775807) (E : Hs w0 F w l) :
  Ca PP Fn.f74 #[v,.bool (names.all goodName)] w fun r w'=>r = i64 (checkG gs names)∧Hs w0 F w' l:=by
 refine S.f74.calls ?_
 unfold S.f74
 refine hg.rd.len ?_
 refine Bi.gtr ?_ ?_ <;> intro c1 <;> (repeat with_reducible refine Stp.go ?_)
 ·exact ⟨by unfold checkG glimit; rw [decide_eq_true (show 16 < gs.length by omega),Bool.true_or,if_pos rfl],E⟩
 refine ⟨fun l1 w1=>∃ i : Nat,l1 = [i64 i]∧i≤gs.length∧(∀ (j : Nat) g,j < i→gs[j]? = some g→g.2.length≤16)∧Hs w0 F w1 l,fun l1 _=>match l1 with | [.int _ i]=>gs.length - i.toNat | _=>0,⟨0,rfl,Nat.zero_le _,(fun j g hj=>by omega),E⟩,?_⟩
 clear E
 rintro t5 u w_ ⟨i,h1,hi,hsm,E⟩
 cases h1
 refine hg.rd.len ?_
 refine Bi.lss ?_ ?_ <;> intro c2 <;> (repeat with_reducible refine Stp.go ?_)
 ·have hx : gs[i]? = some (gs[i]'(by omega)):=List.getElem?_eq_getElem (by omega)
  obtain ⟨nm,us,hgi⟩ : ∃ nm us,gs[i]'(by omega) = (nm,us):=⟨_,_,rfl⟩
  rw [hgi] at hx
  obtain ⟨uv,hu,rest,hrow⟩:=hg.at_ hx
  refine hg.rd.ix (by omega) (by omega) (by omega) ?_
  rw [Int.toNat_natCast,hrow]
  intro a ha
  skip
  refine ha.fa (by simp) ?_
  intro a2 ha2
  skip
  refine ha2.ld E rfl ?_
  refine hu.len ?_
  refine Bi.gtr ?_ ?_ <;> intro c3 <;> (repeat with_reducible refine Stp.go ?_)
  ·refine ⟨?_,E⟩
   have : glimit gs = true:=by
    unfold glimit
    have : (gs.any fun g=>decide (16 < g.2.length)) = true:=List.any_eq_true.2 ⟨_,List.mem_of_getElem? hx,decide_eq_true (show 16 < us.length by omega)⟩
    rw [this,Bool.or_true]
   unfold checkG; rw [if_pos this]
  ·refine Bi.add (by omega) ?_
   refine ⟨⟨i + 1,by simp,by omega,fun j g hj hgj=>?_,E⟩,by simp only []; omega⟩
   by_cases hji : j = i
   ·subst hji
    rw [hx] at hgj
    cases hgj
    show us.length≤16
    omega
   ·exact hsm j g (by omega) hgj
 have hlim : ¬ glimit gs = true:=by
  unfold glimit
  rw [decide_eq_false (show ¬ 16 < gs.length by omega),Bool.false_or,List.any_eq_true]
  rintro ⟨g,hgm,hgl2⟩
  obtain ⟨j,hj⟩:=List.getElem?_of_mem hgm
  have:=hsm j g (by have:=(List.getElem?_eq_some_iff.1 hj).1; omega) hj
  have:=of_decide_eq_true hgl2
  omega
 have huk : ∀ g∈gs,g.2.length≤16:=fun g hgm=>by
  obtain ⟨j,hj⟩:=List.getElem?_of_mem hgm
  exact hsm j g (by have:=(List.getElem?_eq_some_iff.1 hj).1; omega) hj
 clear hsm
 refine ⟨fun l1 w1=>∃ i : Nat,l1 = [.bool (names.all goodName && (gwords (gs.take i)).all goodName),i64 i]∧i≤gs.length∧Hs w0 F w1 l,fun l1 _=>match l1 with | [_,.int _ i]=>gs.length - i.toNat | _=>0,⟨0,by simp [gwords],Nat.zero_le _,E⟩,?_⟩
 clear E
 rintro t1 t6 u w_ ⟨i2,h1,hi2,E⟩
 cases h1
 refine hg.rd.len ?_
 refine Bi.lss ?_ ?_ <;> intro c3 <;> (repeat with_reducible refine Stp.go ?_)
 ·have hx : gs[i2]? = some (gs[i2]'(by omega)):=List.getElem?_eq_getElem (by omega)
  obtain ⟨nm,us,hgi⟩ : ∃ nm us,gs[i2]'(by omega) = (nm,us):=⟨_,_,rfl⟩
  rw [hgi] at hx
  obtain ⟨uv,hu,rest,hrow⟩:=hg.at_ hx
  have hul1 : us.length≤16:=huk _ (List.mem_of_getElem? hx)
  have hwd : ∀ s∈nm::us,s.size≤9223372036854775807:=fun s hs=>hsz s (List.mem_flatMap.2 ⟨_,List.mem_of_getElem? hx,hs⟩)
  have tk : gwords (gs.take (i2 + 1)) = gwords (gs.take i2)++nm::us:=by
   unfold gwords
   rw [List.take_add_one,hx,List.flatMap_append]; simp
  generalize hb0 : (names.all goodName && (gwords (gs.take i2)).all goodName) = b0
  (intro J24 hJ24)
  have fin : ∀ b w_,b = (b0 && goodName nm)→Hs w0 F w_ l→J24 [.bool b] w_:=by
   intro b w_ hb E
   repeat with_reducible (apply hJ24; intro u_)
   clear hJ24
   refine ⟨fun l1 w1=>∃ k : Nat,l1 = [.bool (b && (us.take k).all goodName),i64 k]∧k≤us.length∧Hs w0 F w1 l,fun l1 _=>match l1 with | [_,.int _ i]=>us.length - i.toNat | _=>0,⟨0,by simp,Nat.zero_le _,E⟩,?_⟩
   clear E
   rintro t1 t7 u w_ ⟨k,h1,hk,E⟩
   cases h1
   refine hg.rd.ix (by omega) (by omega) (by omega) ?_
   rw [Int.toNat_natCast,hrow]
   intro a ha
   skip
   refine ha.fa (by simp) ?_
   intro a2 ha2
   skip
   refine ha2.ld E rfl ?_
   refine hu.len ?_
   refine Bi.lss ?_ ?_ <;> intro c4 <;> (repeat with_reducible refine Stp.go ?_)
   ·have hxk : us[k]? = some (us[k]'(by omega)):=List.getElem?_eq_getElem (by omega)
    generalize us[k]'(by omega) = s at hxk
    have hss:=hwd s (List.mem_cons_of_mem _ (List.mem_of_getElem? hxk))
    have tk2 : (us.take (k + 1)).all goodName = ((us.take k).all goodName && goodName s):=by
     rw [List.take_add_one,hxk,List.all_append]; simp
    (intro J39 hJ39)
    have fin2 : ∀ b' w_,b' = (b && (us.take (k + 1)).all goodName)→Hs w0 F w_ l→J39 [.bool b'] w_:=by
     intro b' w_ hb' E
     repeat with_reducible (apply hJ39; intro u_)
     refine Bi.add (by omega) ?_
     exact ⟨⟨k + 1,by rw [hb']; simp,by omega,E⟩,by simp only []; omega⟩
    clear hJ39
    cases hbk : (b && (us.take k).all goodName) with
    | false =>
     repeat with_reducible refine Stp.go ?_
     exact fin2 false _ (by rw [tk2,← Bool.and_assoc,hbk]; rfl) E
    | true =>
     repeat with_reducible refine Stp.go ?_
     refine hg.rd.ix (by omega) (by omega) (by omega) ?_
     rw [Int.toNat_natCast,hrow]
     intro a ha
     repeat with_reducible refine Stp.go ?_
     refine ha.fa (by simp) ?_
     intro a2 ha2
     repeat with_reducible refine Stp.go ?_
     refine ha2.ld E rfl ?_
     repeat with_reducible refine Stp.go ?_
     refine hu.ix (by omega) (by omega) (by omega) ?_
     intro a3 ha3
     repeat with_reducible refine Stp.go ?_
     refine ha3.ld E (x:=str s) (by rw [Int.toNat_natCast,Nat.mul_one,List.getElem?_drop,Nat.add_zero,List.getElem?_map,hxk]; rfl) ?_
     repeat with_reducible refine Stp.go ?_
     refine (rValid_ok hss).mono ?_
     rintro r w' ⟨rfl,rfl⟩
     repeat with_reducible refine Stp.go ?_
     exact fin2 _ _ (by rw [tk2,← Bool.and_assoc,hbk,Bool.true_and]) E
   ·rw [show us.take k = us from List.take_of_length_le (by omega)]
    refine Bi.add (by omega) ?_
    refine ⟨⟨i2 + 1,?_,by omega,E⟩,by simp only []; omega⟩
    rw [tk,List.all_append,List.all_cons,hb,← hb0]
    simp [Bool.and_assoc]
  clear hJ24
  cases hbb : b0 with
  | false =>
   repeat with_reducible refine Stp.go ?_
   exact fin false _ (by rw [hbb]; rfl) E
  | true =>
   repeat with_reducible refine Stp.go ?_
   refine hg.rd.ix (by omega) (by omega) (by omega) ?_
   rw [Int.toNat_natCast,hrow]
   intro a ha
   repeat with_reducible refine Stp.go ?_
   refine ha.fa (by simp) ?_
   intro a2 ha2
   repeat with_reducible refine Stp.go ?_
   refine ha2.ld E rfl ?_
   repeat with_reducible refine Stp.go ?_
   refine (rValid_ok (hwd nm List.mem_cons_self)).mono ?_
   rintro r w' ⟨rfl,rfl⟩
   repeat with_reducible refine Stp.go ?_
   exact fin _ _ (by rw [hbb,Bool.true_and]) E
 rw [show gs.take i2 = gs from List.take_of_length_le (by omega)]
 have hany : (names++gwords gs).any (fun s=>!goodName s) = !(names.all goodName && (gwords gs).all goodName):=by
  rw [List.any_append,Bool.not_and,List.not_all_eq_any_not,List.not_all_eq_any_not]
 refine Un.not ?_
 cases hok : (names.all goodName && (gwords gs).all goodName) with
 | false =>
  rw [hok] at hany
  simp only [Bool.not_false] at hany ⊢
  repeat with_reducible refine Stp.go ?_
  exact ⟨by unfold checkG; rw [if_neg hlim,if_pos hany],E⟩
 | true =>
 rw [hok] at hany
 simp only [Bool.not_true] at hany ⊢
 repeat with_reducible refine Stp.go ?_
 refine ⟨fun l1 w1=>∃ i : Nat,l1 = [.bool (decide ((gs.take i).map (·.1)).Nodup && (gs.take i).all fun g=>decide g.2.Nodup),i64 i]∧i≤gs.length∧Hs w0 F w1 l,fun l1 _=>match l1 with | [_,.int _ i]=>gs.length - i.toNat | _=>0,⟨0,by simp,Nat.zero_le _,E⟩,?_⟩
 clear E
 rintro t1 t8 u w_ ⟨i3,h1,hi3,E⟩
 cases h1
 refine hg.rd.len ?_
 refine Bi.lss ?_ ?_ <;> intro c4 <;> (repeat with_reducible refine Stp.go ?_)
 ·have hx : gs[i3]? = some (gs[i3]'(by omega)):=List.getElem?_eq_getElem (by omega)
  obtain ⟨nm,us,hgi⟩ : ∃ nm us,gs[i3]'(by omega) = (nm,us):=⟨_,_,rfl⟩
  rw [hgi] at hx
  obtain ⟨uv,hu,rest,hrow⟩:=hg.at_ hx
  have hul1 : us.length≤16:=huk _ (List.mem_of_getElem? hx)
  have tk1 : (gs.take (i3 + 1)).map (·.1) = (gs.take i3).map (·.1)++[nm]:=by
   rw [List.take_add_one,hx,List.map_append]; rfl
  have tk2 : ((gs.take (i3 + 1)).all fun g=>decide g.2.Nodup) = (((gs.take i3).all fun g=>decide g.2.Nodup) && decide us.Nodup):=by
   rw [List.take_add_one,hx,List.all_append]; simp
  generalize hb0 : (decide ((gs.take i3).map (·.1)).Nodup && (gs.take i3).all fun g=>decide g.2.Nodup) = b0
  refine ⟨fun l1 w1=>∃ k : Nat,l1 = [.bool (b0 && nin ((gs.take k).map (·.1)) nm),i64 k]∧k≤i3∧Hs w0 F w1 l,fun l1 _=>match l1 with | [_,.int _ i]=>i3 - i.toNat | _=>0,⟨0,by simp [nin],Nat.zero_le _,E⟩,?_⟩
  clear E
  rintro t1 t9 u w_ ⟨k,h1,hk,E⟩
  cases h1
  refine Bi.lss ?_ ?_ <;> intro c5 <;> (repeat with_reducible refine Stp.go ?_)
  ·have hxk : gs[k]? = some (gs[k]'(by omega)):=List.getElem?_eq_getElem (by omega)
   obtain ⟨nm2,us2,hgk⟩ : ∃ nm us,gs[k]'(by omega) = (nm,us):=⟨_,_,rfl⟩
   rw [hgk] at hxk
   obtain ⟨uv2,hu2,rest2,hrow2⟩:=hg.at_ hxk
   have tk3 : (gs.take (k + 1)).map (·.1) = (gs.take k).map (·.1)++[nm2]:=by
    rw [List.take_add_one,hxk,List.map_append]; rfl
   (intro J120 hJ120)
   have fin2 : ∀ b' w_,b' = (b0 && nin ((gs.take (k + 1)).map (·.1)) nm)→Hs w0 F w_ l→J120 [.bool b'] w_:=by
    intro b' w_ hb' E
    repeat with_reducible (apply hJ120; intro u_)
    refine Bi.add (by omega) ?_
    exact ⟨⟨k + 1,by rw [hb']; simp,by omega,E⟩,by simp only []; omega⟩
   clear hJ120
   cases hbk : (b0 && nin ((gs.take k).map (·.1)) nm) with
   | false =>
    repeat with_reducible first|refine Stp.go ?_|(refine StpW.go E ?_; clear E; intro w_ E)
    exact fin2 false _ (by rw [tk3,snoc_nin,← Bool.and_assoc,hbk]; rfl) E
   | true =>
    repeat with_reducible first|refine Stp.go ?_|(refine StpW.go E ?_; clear E; intro w_ E)
    refine hg.rd.ix (by omega) (by omega) (by omega) ?_
    rw [Int.toNat_natCast,hrow]
    intro a ha
    repeat with_reducible refine Stp.go ?_
    refine ha.fa (by simp) ?_
    intro a2 ha2
    repeat with_reducible refine Stp.go ?_
    refine ha2.ld E rfl ?_
    repeat with_reducible refine Stp.go ?_
    refine hg.rd.ix (by omega) (by omega) (by omega) ?_
    rw [Int.toNat_natCast,hrow2]
    intro a ha
    repeat with_reducible refine Stp.go ?_
    refine ha.fa (by simp) ?_
    intro a2 ha2
    repeat with_reducible refine Stp.go ?_
    refine ha2.ld E rfl ?_
    repeat with_reducible refine Stp.go ?_
    refine Bi.sneq ?_ ?_ <;> intro c6 <;> (repeat with_reducible refine Stp.go ?_)
    ·exact fin2 true _ (by rw [tk3,snoc_nin,← Bool.and_assoc,hbk,decide_eq_true c6]; rfl) E
    ·exact fin2 false _ (by rw [tk3,snoc_nin,← Bool.and_assoc,hbk,decide_eq_false fun hc=>hc c6]; rfl) E
  rw [show k = i3 by omega]
  generalize hb1 : (b0 && nin ((gs.take i3).map (·.1)) nm) = b1
  refine hg.rd.ix (by omega) (by omega) (by omega) ?_
  rw [Int.toNat_natCast,hrow]
  intro a ha
  skip
  refine ha.fa (by simp) ?_
  intro a2 ha2
  skip
  refine ha2.ld E rfl ?_
  refine ⟨fun l1 w1=>∃ j : Nat,l1 = [.bool (b1 && decide (us.take j).Nodup),i64 j]∧j≤us.length∧Hs w0 F w1 l,fun l1 _=>match l1 with | [_,.int _ i]=>us.length - i.toNat | _=>0,⟨0,by simp,Nat.zero_le _,E⟩,?_⟩
  clear E
  rintro t1 t11 u w_ ⟨j,h1,hj,E⟩
  cases h1
  refine hu.len ?_
  refine Bi.lss ?_ ?_ <;> intro c6 <;> (repeat with_reducible refine Stp.go ?_)
  ·have hxj : us[j]? = some (us[j]'(by omega)):=List.getElem?_eq_getElem (by omega)
   generalize us[j]'(by omega) = s at hxj
   have tk4 : us.take (j + 1) = us.take j++[s]:=by rw [List.take_add_one,hxj]; rfl
   generalize hb2 : (b1 && decide (us.take j).Nodup) = b2
   refine ⟨fun l1 w1=>∃ m : Nat,l1 = [.bool (b2 && nin (us.take m) s),i64 m]∧m≤j∧Hs w0 F w1 l,fun l1 _=>match l1 with | [_,.int _ i]=>j - i.toNat | _=>0,⟨0,by simp [nin],Nat.zero_le _,E⟩,?_⟩
   clear E
   rintro t1 t12 u w_ ⟨m,h1,hm,E⟩
   cases h1
   refine Bi.lss ?_ ?_ <;> intro c7 <;> (repeat with_reducible refine Stp.go ?_)
   ·have hxm : us[m]? = some (us[m]'(by omega)):=List.getElem?_eq_getElem (by omega)
    generalize us[m]'(by omega) = s2 at hxm
    have tk5 : us.take (m + 1) = us.take m++[s2]:=by rw [List.take_add_one,hxm]; rfl
    (intro J185 hJ185)
    have fin3 : ∀ b' w_,b' = (b2 && nin (us.take (m + 1)) s)→Hs w0 F w_ l→J185 [.bool b'] w_:=by
     intro b' w_ hb' E
     repeat with_reducible (apply hJ185; intro u_)
     refine Bi.add (by omega) ?_
     exact ⟨⟨m + 1,by rw [hb']; simp,by omega,E⟩,by simp only []; omega⟩
    clear hJ185
    cases hbk : (b2 && nin (us.take m) s) with
    | false =>
     repeat with_reducible first|refine Stp.go ?_|(refine StpW.go E ?_; clear E; intro w_ E)
     exact fin3 false _ (by rw [tk5,snoc_nin,← Bool.and_assoc,hbk]; rfl) E
    | true =>
     repeat with_reducible first|refine Stp.go ?_|(refine StpW.go E ?_; clear E; intro w_ E)
     refine hu.ix (by omega) (by omega) (by omega) ?_
     intro a3 ha3
     repeat with_reducible refine Stp.go ?_
     refine ha3.ld E (x:=str s) (by rw [Int.toNat_natCast,Nat.mul_one,List.getElem?_drop,Nat.add_zero,List.getElem?_map,hxj]; rfl) ?_
     repeat with_reducible refine Stp.go ?_
     refine hu.ix (by omega) (by omega) (by omega) ?_
     intro a3 ha3
     repeat with_reducible refine Stp.go ?_
     refine ha3.ld E (x:=str s2) (by rw [Int.toNat_natCast,Nat.mul_one,List.getElem?_drop,Nat.add_zero,List.getElem?_map,hxm]; rfl) ?_
     repeat with_reducible refine Stp.go ?_
     refine Bi.sneq ?_ ?_ <;> intro c8 <;> (repeat with_reducible refine Stp.go ?_)
     ·exact fin3 true _ (by rw [tk5,snoc_nin,← Bool.and_assoc,hbk,decide_eq_true c8]; rfl) E
     ·exact fin3 false _ (by rw [tk5,snoc_nin,← Bool.and_assoc,hbk,decide_eq_false fun hc=>hc c8]; rfl) E
   ·rw [show m = j by omega]
    refine Bi.add (by omega) ?_
    refine ⟨⟨j + 1,?_,by omega,E⟩,by simp only []; omega⟩
    rw [tk4,snoc_nodup,← Bool.and_assoc,hb2]
    simp
  ·rw [show us.take j = us from List.take_of_length_le (by omega)]
   refine Bi.add (by omega) ?_
   refine ⟨⟨i3 + 1,?_,by omega,E⟩,by simp only []; omega⟩
   rw [tk1,tk2,snoc_nodup,← hb1,← hb0]
   have : ∀ A B C D : Bool,(A && B && C && D) = (A && C && (B && D)):=by decide
   rw [this]
   simp
 rw [show gs.take i3 = gs from List.take_of_length_le (by omega)]
 have hfin : ((gs.any fun g=>twice g.2) || twice (gs.map (·.1))) = !(decide (gs.map (·.1)).Nodup && gs.all fun g=>decide g.2.Nodup):=by
  unfold twice
  rw [Bool.not_and,List.not_all_eq_any_not,Bool.or_comm]
  congr 1
  ·by_cases hz : (gs.map (·.1)).Nodup <;> simp [hz]
  ·congr 1
   funext g
   by_cases hz : g.2.Nodup <;> simp [hz]
 have hnn : ¬ (names++gwords gs).any (fun s=>!goodName s) = true:=by rw [hany]; simp
 refine Un.not ?_
 cases hok2 : (decide (gs.map (·.1)).Nodup && gs.all fun g=>decide g.2.Nodup) with
 | false =>
  rw [hok2] at hfin
  simp only [Bool.not_false] at hfin ⊢
  repeat with_reducible refine Stp.go ?_
  exact ⟨by unfold checkG; rw [if_neg hlim,if_neg hnn,if_pos hfin],E⟩
 | true =>
  rw [hok2] at hfin
  simp only [Bool.not_true] at hfin ⊢
  repeat with_reducible refine Stp.go ?_
  exact ⟨by unfold checkG; rw [if_neg hlim,if_neg hnn,if_neg (by rw [hfin]; simp)],E⟩
set_option maxRecDepth 100000
set_option linter.unusedVariables false
set_option linter.unusedSimpArgs false
variable {w0 w:World} {F:Nat→Prop} {l:List As}
variable {R:RT} {T:Tr} {gV nV hV:Value} {c:Int}
theorem RdS.scal{sz n:Nat}{v:Value}{xs:List Value}(h:RdS w0 F l sz n v xs):scalV v=true:=by
 obtain⟨a,c,rfl,-⟩:=h
 rfl
theorem u_sl_Group28:PP.underlying Ty.sl_r28_Group=some (.slice Ty.t43):=by kernel_rfl
theorem s_Group28:sizeK PP Ty.t43=some 2:=by kernel_rfl
abbrev gr28V:Value:=.agg #[str ⟨#[]⟩,.slice none 0 0]
theorem z_Group28:zeroK PP Ty.t43=some gr28V:=by kernel_rfl
theorem e_Group28:el3 PP Ty.t43=some (some gr28V,2,40):=by kernel_rfl
theorem BdS.gr28{s:BA}{v:Value}{k:Value→World→Prop}(hv:scalV v=true)(E:Hs w0 F w l)(hk:∀v2 w',Hs w0 F w' (slA v2 Ty.t43 2 [str s,v]::l)→k v2 w'):Ef PP (Instr.buildSlice Ty.sl_r28_Group 1 #[(0,.agg #[str s,v])]) w k:=
 BdS.sl E u_sl_Group28 s_Group28 z_Group28 (by omega) (by omega) (xs:=[str s,v]) (by kernel_rfl) rfl hk
theorem gcell_len(g:BA×Value):(gcell g).length=2:=rfl
theorem GIn.scal{v:Value}{gv:List (BA×Value)}{gs:Gs}(h:GIn w0 F l v gv gs){x:BA×Value}(hx:x∈gv):scalV x.2=true:=by
 obtain⟨i,hi⟩:=List.getElem?_of_mem hx
 have hlt:=(List.getElem?_eq_some_iff.1 hi).1
 have hy:gs[i]? =some (gs[i]'(by rw[← h.len];omega)):=List.getElem?_eq_getElem _
 exact RdS.scal (h.one i _ _ hi hy).2

theorem GIn.copy{v r:Value}{gv:List (BA×Value)}{gs:Gs}(h:GIn w0 F l v gv gs)(hm:slA r Ty.t43 2 (gv.flatMap gcell)∈l)(E:Hs w0 F w l):GIn w0 F l r gv gs:=by
 have h1:=RdS.sl hm (by omega) E
 rw[rw_len gcell_len,Nat.mul_div_cancel _ (by omega),h.len]at h1
 exact⟨h1,h.len,h.one⟩
theorem rGroups_ok{v:Value}{gv:List (BA×Value)}{gs:Gs}(hg:GIn w0 F l v gv gs)(hgl:gs.length≤100000)(E:Hs w0 F w l):Ca PP Fn.law28_Groups #[v] w λr w'=>Hs w0 F w' (slA r Ty.t43 2 (gv.flatMap gcell)::l):=by
 refine S.law28_Groups.calls ?_
 unfold S.law28_Groups
 refine hg.rd.len ?_
 have hgv:=hg.len
 refine⟨λl1 w1=>∃(r:Value) (i:Nat),l1=[r,i64 i]∧i≤gs.length∧Hs w0 F w1 (slA r Ty.t43 2 ((gv.take i).flatMap gcell)::l),λl1 _=>match l1 with|[_,.int _ i]=>gs.length-i.toNat|_=>0,⟨.slice none 0 0,0,rfl,Nat.zero_le _,Hs.nilSl E _ _⟩,?_⟩
 clear E
 rintro t3 t8 u w_ ⟨r,i,h1,hi,E⟩
 cases h1
 refine Bi.lss ?_ ?_<;>intro hlt<;>(repeat with_reducible refine Stp.go ?_)
 ·have hx:gv[i]? =some (gv[i]'(by omega)):=List.getElem?_eq_getElem (by omega)
  obtain⟨nm,uv,hgi⟩:∃nm uv,gv[i]'(by omega)=(nm,uv):=⟨_,_,rfl⟩
  rw[hgi]at hx
  have hsc:scalV uv=true:=hg.scal (x:=(nm,uv)) (List.mem_of_getElem? hx)
  have isc:Scal uv:=⟨hsc⟩
  refine(hg.rd.cons (slA t3 Ty.t43 2 ((gv.take i).flatMap gcell))).ix (by omega) (by omega) (by omega) ?_
  rw[Int.toNat_natCast,flat_drop]
  intro a ha
  have hd:((gv.drop i).flatMap gcell).take 2=[str nm,uv]:=by
   rw[List.drop_eq_getElem_cons (by omega),hgi,List.flatMap_cons];rfl
  refine ha.lda E hd rfl (by omega) ?_
  repeat with_reducible first|refine Stp.go ?_|refine StpE.go E ?_|(refine StpW.go E ?_;clear E;intro w_ E)|(refine StpA.go E ?_;clear E;intro b_ w_ hb_ E)
  (revert b_;intro q hbq E)
  skip
  refine BdS.gr28 hsc E ?_
  clear E
  intro v1 w_ E
  skip
  have hlen:((gv.take i).flatMap gcell).length=i*2:=by rw[rw_len gcell_len,List.length_take,Nat.min_eq_left (by omega)]
  refine Ap.el E (i:=2) rfl u_sl_Group28 ⟨_,u_sl_Group28,λ_ h=>by cases h⟩ e_Group28 (by omega) (Src.slice (show SliceAt v1 Ty.t43 2 [str nm,uv] w_ from E.sat _ List.mem_cons_self) rfl (by omega) (by show(true && (scalV uv && true))=true;rw[hsc];rfl)) rfl (by rw[hlen];omega) (by rw[hlen];omega) ?_
  clear E
  intro v2 w_ E
  (try simp only[List.set_cons_zero,List.set_cons_succ,List.cons_append,List.nil_append,Nat.zero_add,Nat.add_zero]at E)
  refine Bi.add (by omega) ?_
  refine⟨⟨v2,i+1,by simp,by omega,?_⟩,by simp only[];omega⟩
  have e:(gv.take (i+1)).flatMap gcell=(gv.take i).flatMap gcell++[str nm,uv]:=by
   rw[List.take_add_one,hx,List.flatMap_append];simp
  rw[e]
  exact E.tl.tl
 ·rw[show gv.take i=gv from List.take_of_length_le (by omega)]at E
  exact E
abbrev root28(owner:BA):RN:=⟨⟨128,0,0,2147484157,0,0,emp,owner,owner,owner⟩,emp,0,false⟩
abbrev new28(owner:BA):RT:=⟨[root28 owner],[],0⟩
theorem new28_rl(owner:BA)(gs:Gs):Rl (new28 owner) (newT owner gs):=by
 refine⟨?_,?_,?_,rfl,rfl,rfl,Nat.zero_le _⟩
 ·intro i n hn
  cases i with
  |zero=>cases hn;rfl
  |succ i=>simp at hn
 ·rfl
 ·intro n hn _
  rw[List.mem_singleton.1 hn]
  exact⟨show(128:Int)=kindOf 2147484157 by decide,rfl⟩
theorem rNew_ok{v:Value}{gv:List (BA×Value)}{gs:Gs}{owner:BA}(hg:GIn w0 F l v gv gs)(hgl:gs.length≤100000)(hul:∀g∈gs,g.2.length≤100000)(hsz:∀s∈[owner]++gwords gs,s.size≤9223372036854775807)(E:Hs w0 F w l):
  Ca PP Fn.r28_New #[str owner,v] w λr w'=>
   (checkG gs [owner]≠0∧∃x,r=.tuple #[rV (.slice none 0 0) (.slice none 0 0) (.slice none 0 0) x,i64 (checkG gs [owner])]∧Hs w0 F w' l)∨
   (checkG gs [owner]=0∧∃nV,r=.tuple #[rV v nV (.slice none 0 0) 0,i64 0]∧Scal nV∧Hs w0 F w' (NP nV (new28 owner)::HP (.slice none 0 0) (new28 owner)::l)):=by
 have isc:Scal v:=⟨RdS.scal hg.rd⟩
 refine S.r28_New.calls ?_
 unfold S.r28_New
 refine StpA.go E ?_
 clear E
 intro q w_ hq E
 refine(rValid_ok (hsz owner (List.mem_append_left _ List.mem_cons_self))).mono ?_
 rintro r w' ⟨rfl,rfl⟩
 have hck:=rCheck_ok (names:=[owner]) (hg.weaken (l':=pt q (oc [.slice none 0 0,.slice none 0 0,.slice none 0 0,i64 0] Ty.t0)::l) λ_ E=>E.tl) hgl hul (λs hs=>hsz s (List.mem_append_right _ hs)) E
 rw[show[owner].all goodName=goodName owner by simp]at hck
 refine Ca.mono hck ?_
 clear E hck
 rintro r w_ ⟨rfl,E⟩
 refine Bi.neq ?_ ?_<;>intro hc<;>(repeat with_reducible first|refine Stp.go ?_|refine StpE.go E ?_|(refine StpW.go E ?_;clear E;intro w_ E)|(refine StpA.go E ?_;clear E;intro b_ w_ hb_ E))
 ·exact .inl ⟨hc,0,rfl,E.tl⟩
 refine BdS.nd (n:=root28 owner) E ?_
 clear E
 intro nV w_ E
 have i2:Scal nV:=⟨Hs.slScal E (T:=Ty.r28_Node) (sz:=13) (xs:=(root28 owner).cs) List.mem_cons_self⟩
 repeat with_reducible first|refine StpE.go E ?_|(refine StpW.go E ?_;clear E;intro w_ E)
 refine .inr ⟨hc,nV,rfl,i2,?_⟩
 have E1:Hs w0 F w_ (slA nV Ty.r28_Node 13 (root28 owner).cs::l):=E.drop (List.Sublist.cons_cons _ ((List.sublist_cons_self _ _).trans (List.sublist_cons_self _ _)))
 have E2:=(Hs.nilSl E1 Ty.t22 3).swap2
 exact E2
set_option maxRecDepth 100000
set_option linter.unusedVariables false
set_option linter.unusedSimpArgs false
variable {w0 w:World} {F:Nat→Prop} {l:List As}
variable {R:RT} {T:Tr} {gV nV hV:Value}
theorem rRefer_ok[iG:Scal gV][iN:Scal nV][iH:Scal hV](h:Rl R T)(hi:Inv T)(hlim:Lim 1000000 T)(hg:GOk w0 F l gV T.gs)(hps:∀n∈T.ns,(T.pathS n).size≤100000){x:Ac}(hx:x.Ok)(E:Hs w0 F w (NP nV R::HP hV R::l)):
  Ca PP Fn.law28_Refer #[rV gV nV hV R.clock,x.V] w λr w'=>∃tv dv,r=.tuple #[tv,(T.act x).2.V dv]∧GoR w0 F (slA dv Ty.t7 10 (dcs (T.act x).2.dirs)::l) gV (T.act x).1 tv w':=by
 obtain⟨hN,-,-⟩:=h.rng hi hlim
 refine S.law28_Refer.calls ?_
 unfold S.law28_Refer
 refine StpA.go E ?_
 clear E
 intro q w_ hq E
 refine StpA.go E ?_
 clear E
 intro b w_ hb E
 refine StpA.go E ?_
 clear E
 intro e w_ he E
 refine StpA.go E ?_
 clear E
 intro z w_ hz E
 repeat with_reducible first|refine StpE.go E ?_|(refine StpA.go E ?_;clear E;intro b_ w_ hb_ E)
 (revert b_;intro c hbc E)
 (first|(refine StA.all E rfl rfl (by first|exact rfl|assumption) ?_;clear E;intro w_ E)|try (refine StA.by E rfl (by first|exact rfl|assumption) ?_;clear E;intro w_ E))
 (replace E:=(((((((E.bIx 4).bIx 4).bIx 4).bIx 4).bIx 4).bIx 6).bIx 6))
 (intro J13 hJ13)
 have fin:∀a dv w_ nV2 hV2 R2 T2,a=(T.act x).2→T2=(T.act x).1→Scal nV2→Scal hV2→Rl R2 T2→Hs w0 F w_ (slA dv Ty.t7 10 (dcs a.dirs)::NP nV2 R2::HP hV2 R2::pt c (oc (a.C dv) Ty.t33)::pt z (oc (aEV.C (.slice none 0 0)) Ty.t33)::pt e (oc zT Ty.t0)::pt b (oc x.C Ty.law28_Act)::pt q (oc [gV,nV2,hV2,i64 R2.clock] Ty.t0)::l)→J13 [] w_:=by
  intro a dv w_ nV2 hV2 R2 T2 ha hT i2 i3 hr E
  repeat with_reducible first|refine StpE.go E ?_|(refine StpW.go E ?_;clear E;intro w_ E)|(apply hJ13;intro u_)
  refine⟨by (repeat with_reducible refine StpE.go E ?_);rfl,?_⟩
  (replace E:=(((E.bIx 5).bIx 5).bIx 5))
  have hsv:scalV dv=true:=Hs.slScal E (T:=Ty.t7) (sz:=10) (xs:=dcs a.dirs) (by simp)
  have hsv2:(a.C dv).all scalV=true:=by
   show(true && (true && (true && (true && (true && (true && (true && (true && (true && (true && (true && (true && (true && (true && (true && (scalV dv && (true && true)))))))))))))))))=true
   rw[hsv];rfl
  refine StA.all (vs:=a.C dv) E rfl rfl hsv2 ?_
  clear E
  intro w_ E
  repeat with_reducible refine StpE.go E ?_
  rw[← ha,← hT]
  refine⟨_,dv,rfl,nV2,hV2,R2,rfl,i2,i3,hr,?_⟩
  (replace E:=((((((E.bIx 2).bIx 2).bIx 2).bIx 3).bIx 5).bIx 5))
  exact E.drop (List.Sublist.cons_cons _ (List.Sublist.cons_cons _ (List.Sublist.cons_cons _ (List.sublist_append_right [_,_,_,_,_] l))))
 clear hJ13
 have g5:=((((hg.cons (pt q (oc [gV,nV,hV,i64 R.clock] Ty.t0))).cons (pt b (oc x.C Ty.law28_Act))).cons (pt e (oc zT Ty.t0))).cons (pt z (oc (aEV.C (.slice none 0 0)) Ty.t33))).cons (pt c (oc (aEV.C (.slice none 0 0)) Ty.t33))
 have g2:=(g5.cons (HP hV R)).cons (NP nV R)
 repeat with_reducible first|refine Stp.go ?_|refine StpE.go E ?_
 refine Bi.eql ?_ ?_<;>intro c0<;>(repeat with_reducible first|refine Stp.go ?_|refine StpE.go E ?_)
 ·have e:T.act x=(T,{qid:=(T.walk x.user x.file x.name).1,errno:=(T.walk x.user x.file x.name).2}):=by unfold Tr.act;rw[ if_pos c0]
  rw[e]at fin
  refine(rWalk_ok (user:=x.user) (file:=x.file) (name:=x.name) h hi (by omega) g2 hx.name List.mem_cons_self E).mono ?_
  clear E
  rintro r w_ ⟨rfl,E⟩
  repeat with_reducible first|refine Stp.go ?_|(refine StpW.go E ?_;clear E;intro w_ E)
  exact fin _ _ _ nV hV R T rfl rfl iN iH h (E.nilSl Ty.t7 10)
 refine Bi.eql ?_ ?_<;>intro c1<;>(repeat with_reducible first|refine Stp.go ?_|refine StpE.go E ?_)
 ·have e:T.act x=(T,{dir:=(T.stat x.file).1,errno:=(T.stat x.file).2}):=by unfold Tr.act;rw[if_neg c0,if_pos c1]
  rw[e]at fin
  refine(rStat_ok (file:=x.file) h hi (by omega) List.mem_cons_self E).mono ?_
  clear E
  rintro r w_ ⟨rfl,E⟩
  repeat with_reducible refine Stp.go ?_
  refine St.ten E rfl ?_
  clear E
  intro w_ E
  repeat with_reducible first|refine Stp.go ?_|(refine StpW.go E ?_;clear E;intro w_ E)
  exact fin _ _ _ nV hV R T rfl rfl iN iH h (E.nilSl Ty.t7 10)
 refine Bi.eql ?_ ?_<;>intro c2<;>(repeat with_reducible first|refine Stp.go ?_|refine StpE.go E ?_)
 ·have e:T.act x=((T.wstat x.user x.file x.dir).1,{errno:=(T.wstat x.user x.file x.dir).2}):=by unfold Tr.act;rw[if_neg c0,if_neg c1,if_pos c2]
  rw[e]at fin
  refine(rWstat_ok (user:=x.user) (file:=x.file) (d:=x.dir) h hi hlim g5 hx.nums.2.2.2.2.2.2.2.2.2.2.1 hx.dname hx.dgroup E).mono ?_
  clear E
  rintro r w_ ⟨tv,rfl,n2,v2,R2,rfl,i2,i3,hr,E⟩
  repeat with_reducible first|refine Stp.go ?_|(refine StpW.go E ?_;clear E;intro w_ E)
  exact fin _ _ _ n2 v2 R2 _ rfl rfl i2 i3 hr (E.nilSl Ty.t7 10)
 refine Bi.eql ?_ ?_<;>intro c3<;>(repeat with_reducible first|refine Stp.go ?_|refine StpE.go E ?_)
 ·have e:T.act x=((T.openF x.user x.file x.mode).1,{handle:=(T.openF x.user x.file x.mode).2.1,qid:=(T.openF x.user x.file x.mode).2.2.1,errno:=(T.openF x.user x.file x.mode).2.2.2}):=by unfold Tr.act;rw[if_neg c0,if_neg c1,if_neg c2,if_pos c3]
  rw[e]at fin
  refine(rOpen_ok (user:=x.user) (file:=x.file) (mode:=x.mode) h hi hlim g5 hx.nums.2.2.2.1 E).mono ?_
  clear E
  rintro r w_ ⟨tv,rfl,n2,v2,R2,rfl,i2,i3,hr,E⟩
  repeat with_reducible first|refine Stp.go ?_|(refine StpW.go E ?_;clear E;intro w_ E)
  exact fin _ _ _ n2 v2 R2 _ rfl rfl i2 i3 hr (E.nilSl Ty.t7 10)
 refine Bi.eql ?_ ?_<;>intro c4<;>(repeat with_reducible first|refine Stp.go ?_|refine StpE.go E ?_)
 ·have e:T.act x=((T.create x.user x.file x.name x.perm x.mode).1,{handle:=(T.create x.user x.file x.name x.perm x.mode).2.1,qid:=(T.create x.user x.file x.name x.perm x.mode).2.2.1,errno:=(T.create x.user x.file x.name x.perm x.mode).2.2.2}):=by unfold Tr.act;rw[if_neg c0,if_neg c1,if_neg c2,if_neg c3,if_pos c4]
  rw[e]at fin
  refine(rCreate_ok (user:=x.user) (dir:=x.file) (name:=x.name) (perm:=x.perm) (mode:=x.mode) h hi hlim g5 hx.nums.2.2.2.1 hx.nums.2.2.2.2.1 hx.user hx.name E).mono ?_
  clear E
  rintro r w_ ⟨tv,rfl,n2,v2,R2,rfl,i2,i3,hr,E⟩
  repeat with_reducible first|refine Stp.go ?_|(refine StpW.go E ?_;clear E;intro w_ E)
  exact fin _ _ _ n2 v2 R2 _ rfl rfl i2 i3 hr (E.nilSl Ty.t7 10)
 refine Bi.eql ?_ ?_<;>intro c5<;>(repeat with_reducible first|refine Stp.go ?_|refine StpE.go E ?_)
 ·have e:T.act x=(T,{text:=(T.read x.handle x.offset x.count).1,errno:=(T.read x.handle x.offset x.count).2}):=by unfold Tr.act;rw[if_neg c0,if_neg c1,if_neg c2,if_neg c3,if_neg c4,if_pos c5]
  rw[e]at fin
  refine(rRead_ok (hd:=x.handle) (off:=x.offset) (cnt:=x.count) h hi (by omega) List.mem_cons_self (List.mem_of_getElem? (i:=1) rfl) E).mono ?_
  clear E
  rintro r w_ ⟨rfl,E⟩
  repeat with_reducible first|refine Stp.go ?_|(refine StpW.go E ?_;clear E;intro w_ E)
  exact fin _ _ _ nV hV R T rfl rfl iN iH h (E.nilSl Ty.t7 10)
 refine Bi.eql ?_ ?_<;>intro c6<;>(repeat with_reducible first|refine Stp.go ?_|refine StpE.go E ?_)
 ·have e:T.act x=(T,{dirs:=(T.list x.handle).1,errno:=(T.list x.handle).2}):=by unfold Tr.act;rw[if_neg c0,if_neg c1,if_neg c2,if_neg c3,if_neg c4,if_neg c5,if_pos c6]
  rw[e]at fin
  refine(rList_ok (hd:=x.handle) h hi (by omega) List.mem_cons_self (List.mem_of_getElem? (i:=1) rfl) E).mono ?_
  clear E
  rintro r w_ ⟨v,rfl,E⟩
  repeat with_reducible first|refine Stp.go ?_|(refine StpW.go E ?_;clear E;intro w_ E)
  exact fin _ _ _ nV hV R T rfl rfl iN iH h E
 refine Bi.eql ?_ ?_<;>intro c7<;>(repeat with_reducible first|refine Stp.go ?_|refine StpE.go E ?_)
 ·have e:T.act x=((T.write x.handle x.offset x.data).1,{handle:=(T.write x.handle x.offset x.data).2.1,errno:=(T.write x.handle x.offset x.data).2.2}):=by unfold Tr.act;rw[if_neg c0,if_neg c1,if_neg c2,if_neg c3,if_neg c4,if_neg c5,if_neg c6,if_pos c7]
  rw[e]at fin
  refine(rWrite_ok (hd:=x.handle) (off:=x.offset) (d:=x.data) h hi hlim E).mono ?_
  clear E
  rintro r w_ ⟨tv,rfl,n2,v2,R2,rfl,i2,i3,hr,E⟩
  repeat with_reducible first|refine Stp.go ?_|(refine StpW.go E ?_;clear E;intro w_ E)
  exact fin _ _ _ n2 v2 R2 _ rfl rfl i2 i3 hr (E.nilSl Ty.t7 10)
 refine Bi.eql ?_ ?_<;>intro c8<;>(repeat with_reducible first|refine Stp.go ?_|refine StpE.go E ?_)
 ·have e:T.act x=((T.close x.handle).1,{errno:=(T.close x.handle).2}):=by unfold Tr.act;rw[if_neg c0,if_neg c1,if_neg c2,if_neg c3,if_neg c4,if_neg c5,if_neg c6,if_neg c7,if_pos c8]
  rw[e]at fin
  refine(rClose_ok (hd:=x.handle) h hi hlim E).mono ?_
  clear E
  rintro r w_ ⟨tv,rfl,n2,v2,R2,rfl,i2,i3,hr,E⟩
  repeat with_reducible first|refine Stp.go ?_|(refine StpW.go E ?_;clear E;intro w_ E)
  exact fin _ _ _ n2 v2 R2 _ rfl rfl i2 i3 hr (E.nilSl Ty.t7 10)
 refine Bi.eql ?_ ?_<;>intro c9<;>(repeat with_reducible first|refine Stp.go ?_|refine StpE.go E ?_)
 ·have e:T.act x=((T.remove x.user x.file).1,{errno:=(T.remove x.user x.file).2}):=by unfold Tr.act;rw[if_neg c0,if_neg c1,if_neg c2,if_neg c3,if_neg c4,if_neg c5,if_neg c6,if_neg c7,if_neg c8,if_pos c9]
  rw[e]at fin
  refine(rRemove_ok (user:=x.user) (file:=x.file) h hi hlim g5 E).mono ?_
  clear E
  rintro r w_ ⟨tv,rfl,n2,v2,R2,rfl,i2,i3,hr,E⟩
  repeat with_reducible first|refine Stp.go ?_|(refine StpW.go E ?_;clear E;intro w_ E)
  exact fin _ _ _ n2 v2 R2 _ rfl rfl i2 i3 hr (E.nilSl Ty.t7 10)
 refine Bi.eql ?_ ?_<;>intro c10<;>(repeat with_reducible first|refine Stp.go ?_|refine StpE.go E ?_)
 ·have e:T.act x=(T,{qid:=(T.find x.name).1,errno:=(T.find x.name).2}):=by unfold Tr.act;rw[if_neg c0,if_neg c1,if_neg c2,if_neg c3,if_neg c4,if_neg c5,if_neg c6,if_neg c7,if_neg c8,if_neg c9,if_pos c10]
  rw[e]at fin
  refine(rFind_ok (p:=x.name) h hi (by omega) List.mem_cons_self E).mono ?_
  clear E
  rintro r w_ ⟨rfl,E⟩
  repeat with_reducible first|refine Stp.go ?_|(refine StpW.go E ?_;clear E;intro w_ E)
  exact fin _ _ _ nV hV R T rfl rfl iN iH h (E.nilSl Ty.t7 10)
 refine Bi.eql ?_ ?_<;>intro c11<;>(repeat with_reducible first|refine Stp.go ?_|refine StpE.go E ?_)
 ·have e:T.act x=(T,{text:=(T.pathOf x.file).1,errno:=(T.pathOf x.file).2}):=by unfold Tr.act;rw[if_neg c0,if_neg c1,if_neg c2,if_neg c3,if_neg c4,if_neg c5,if_neg c6,if_neg c7,if_neg c8,if_neg c9,if_neg c10,if_pos c11]
  rw[e]at fin
  refine(rPath_ok (file:=x.file) h hi (by omega) hps List.mem_cons_self E).mono ?_
  clear E
  rintro r w_ ⟨rfl,E⟩
  repeat with_reducible first|refine Stp.go ?_|(refine StpW.go E ?_;clear E;intro w_ E)
  exact fin _ _ _ nV hV R T rfl rfl iN iH h (E.nilSl Ty.t7 10)
 have e:T.act x=(T,{}):=by unfold Tr.act;rw[if_neg c0,if_neg c1,if_neg c2,if_neg c3,if_neg c4,if_neg c5,if_neg c6,if_neg c7,if_neg c8,if_neg c9,if_neg c10,if_neg c11]
 rw[e]at fin
 exact fin {} _ _ nV hV R T rfl rfl iN iH h (E.nilSl Ty.t7 10)
set_option maxRecDepth 100000
set_option linter.unusedVariables false
set_option linter.unusedSimpArgs false
variable {w0 w:World} {F:Nat→Prop} {l:List As}
variable {D:List Row} {X:PT} {T:Tr} {β:Int→Nat}
theorem u_sl_File:PP.underlying Ty.sl_tree_File=some (.slice Ty.tree_File):=by kernel_rfl
theorem n_File:sizeK PP Ty.tree_File=some 12:=by kernel_rfl
abbrev f0F:Fl:=⟨emp,d0,emp⟩
theorem z_File:zeroK PP Ty.tree_File=some f0F.V:=by kernel_rfl
theorem e_File:el3 PP Ty.tree_File=some (some f0F.V,12,144):=by kernel_rfl
theorem fl_scal(x:Fl):x.cs.all scalV=true:=rfl
theorem fcs_app(xs:List Fl)(x:Fl):fcs (xs++[x])=fcs xs++x.cs:=by simp[fcs]
theorem fcs_len(xs:List Fl):(fcs xs).length=xs.length*12:=by
 induction xs with
 |nil=>rfl
 |cons d r ih=>
  rw[fcs,List.flatMap_cons,List.length_append,List.length_cons]
  have:(List.flatMap Fl.cs r).length=r.length*12:=ih
  rw[this]
  show 12+r.length*12=(r.length+1)*12
  omega
theorem BdS.file{x:Fl}{k:Value→World→Prop}(E:Hs w0 F w l)(hk:∀v w',Hs w0 F w' (slA v Ty.tree_File 12 x.cs::l)→k v w'):Ef PP (Instr.buildSlice Ty.sl_tree_File 1 #[(0,x.V)]) w k:=
 BdS.sl E u_sl_File n_File z_File (by omega) (by omega) (xs:=x.cs) (by kernel_rfl) rfl hk
theorem Files_ok(h:Tie D X T β)(hi:Inv T)(E:Hs w0 F w (trA X::Pool D::l)):
  Ca PP Fn.f73 #[ptr X.t] w λr w'=>Hs w0 F w' (slA r Ty.tree_File 12 (fcs T.files)::trA X::Pool D::l):=by
 refine S.f73.calls ?_
 unfold S.f73
 repeat with_reducible (refine StpA.go E ?_;clear E;intro b_ w_ hb_ E)
 (revert b_;intro t3 hbt3 E)
 (intro J3 hJ3)
 refine Eq.nt u_p_tree rfl ?_
 replace E:=Hs.openT (E.bIx 1)
 repeat with_reducible first|refine Stp.go ?_|refine StpE.go E ?_
 obtain⟨r0,hr0,hr1,hr2⟩:=h.root
 have hg0:T.get 0=some r0.f:=hi.get.2 ⟨h.mem.2 ⟨r0,hr0,rfl⟩,hr1⟩
 have hr0T:=h.mem.2 ⟨r0,hr0,rfl⟩
 rw[← hr2]
 refine(all_ok E).mono ?_
 clear E
 rintro r w_ ⟨a,rfl,E⟩
 obtain⟨rk,hrk,hrb⟩:=hi.rankB
 have hmap:=allP_map h hi 2000 hr0
 have hlen:=below_len hi 2000 hr0T
 rw[← hmap,List.length_map]at hlen
 have hfiles:T.files=(allP X T 2000 r0).map λk=>T.fl k.f:=by
  unfold Tr.files
  rw[hg0]
  simp only[]
  rw[← hmap,List.map_map]
  rfl
 rw[hfiles]
 have hmemB:∀m∈allP X T 2000 r0,m∈X.ps:=λm hm=>allP_mem h hi 2000 hr0 hm
 have hit:=all_iter (w0:=w0) (F:=F) h hi hrk hrb 2000 hr0 (by omega) a
 generalize allP X T 2000 r0=B at hlen hmemB hit hfiles ⊢
 replace E:=E.nilSl Ty.tree_File 12
 -- slA,pt a,tb,fm,gm,om,NT,DT,pt t3,Pool,l   (some order)
 (replace E:=((E.bPt t3).bSl (.slice none 0 0)))
 (replace E:=(((((E.bIx 7).bIx 3).bIx 9).bIx 4).bIx 4))
 refine RFo.hs (rest:=tb X::mp X.fm (.int .i64) X.fM::mp X.gm .str X.gM::mp X.om (.int .i64) X.oM::DT X.ds::l) rfl b_all1 hit (λpre ks=>∃v,ks=[slA v Ty.tree_File 12 (fcs (pre.map λk=>T.fl k.f)),pt t3 (oc [v] Ty.sl_tree_File),Pool D]) (λ_ _ _=>False) (λ_ _=>False)
  (ks:=[slA (.slice none 0 0) Ty.tree_File 12 [],pt t3 (oc [.slice none 0 0] Ty.sl_tree_File),Pool D]) E ⟨_,rfl⟩ ?_ ?_ (λ_ _ _ _ _ _ h _=>h.elim) (λ_ _ _ _ _ h _=>h.elim)
 ·clear E
  rintro r L0 D0 pre k w_ _ rest' Rn Re Rr hL0 hD0 hp ⟨v,rfl⟩ E hn2 - -
  simp only[List.cons_append,List.nil_append]at E
  have hkX:=hmemB k (List.mem_of_getElem? hp.2)
  have hpl:pre.length<B.length:=(List.getElem?_eq_some_iff.1 hp.2).1
  repeat with_reducible first|refine Stp.go ?_|refine StpE.go E ?_|(refine StpW.go E ?_;clear E;intro w_ E)
  refine Ld.nt E (by simp) hkX (v:=k.dv) rfl ?_
  skip
  have hdv:∀{w l},Hs w0 F w l→Pool D∈l→RdS w0 F l 1 k.f.data.size k.dv (bts k.f.data):=by
   intro w l E hm
   have:=(h.data k hkX).read E hm
   have hsz:(bts k.f.data).length=k.f.data.size:=by simp[bts]
   rwa [hsz]at this
  refine(hdv E (by simp)).cvb E u_sl_uint8 u_string u_uint8 ?_
  refine(path_ok h hi hkX (by simp) E).mono ?_
  clear E
  rintro r0' w_ ⟨rfl,E⟩
  refine⟨by (repeat with_reducible refine StpE.go E ?_);rfl,Ld.nt E (by simp) hkX (v:=k.dv) rfl rfl,(hdv E (by simp)).cvb E u_sl_uint8 u_string u_uint8 rfl,?_⟩
  replace E:=E.bIx 5
  refine(stat_nt h hkX (by simp) E).mono ?_
  clear E
  rintro r0' w_ ⟨rfl,E⟩
  refine⟨by (repeat with_reducible refine StpE.go E ?_);rfl,Ld.nt E (by simp) hkX (v:=k.dv) rfl rfl,(hdv E (by simp)).cvb E u_sl_uint8 u_string u_uint8 rfl,?_⟩
  repeat with_reducible refine StpE.go E ?_
  refine BdS.file (x:=T.fl k.f) E ?_
  clear E
  intro v2 w_ E
  skip
  refine⟨by (repeat with_reducible refine StpE.go E ?_);rfl,?_⟩
  have hsl:=Src.slice (P:=PP) (E.sat (slA v2 Ty.tree_File 12 (T.fl k.f).cs) (by simp)) (n:=1) rfl (by omega) (fl_scal _)
  have hdl:=fcs_len (pre.map λk=>T.fl k.f)
  rw[List.length_map]at hdl
  refine Ap.el E (i:=4) rfl u_sl_File ⟨_,u_sl_File,λ_ h=>by cases h⟩ e_File (by omega) hsl rfl (by rw[hdl];omega) (by rw[hdl];omega) ?_
  clear E
  intro s' w_ E
  (try simp only[List.set_cons_zero,List.set_cons_succ,List.cons_append,List.nil_append,Nat.zero_add,Nat.add_zero]at E)
  repeat with_reducible (refine StpW.go E ?_;clear E;intro w_ E)
  refine hn2 _ _ ⟨s',rfl⟩ ?_
  simp only[List.cons_append,List.nil_append]
  replace E:=E.tl
  rw[List.map_append,List.map_singleton,fcs_app]
  (replace E:=((((((E.bIx 0).bIx 5).bIx 5).bIx 5).bIx 5).bIx 5))
  exact E
 ·clear E
  rintro D0 w_ xs _ hD0 hxs ⟨v,rfl⟩ E
  rw[hxs]at E
  simp only[List.cons_append,List.nil_append]at E
  repeat with_reducible first|refine Stp.go ?_|refine StpE.go E ?_|(refine StpW.go E ?_;clear E;intro w_ E)|(apply hJ3;intro u_)
  show Hs w0 F w_ (slA v Ty.tree_File 12 (fcs T.files)::trA X::Pool D::l)
  rw[hfiles]
  (replace E:=((((((((E.bIx 2).bIx 1).bIx 9).bIx 5).bIx 9).bIx 9).bIx 9).bIx 9))
  replace E:=Hs.closeT X E
  (replace E:=(((E.bIx 2).bIx 1).bIx 2))
  exact E.drop (List.Sublist.cons_cons _ (List.Sublist.cons_cons _ (List.Sublist.cons_cons _ (List.sublist_append_right [_,_] l))))
set_option maxRecDepth 100000
set_option linter.unusedVariables false
set_option linter.unusedSimpArgs false
variable {w0 w:World} {F:Nat→Prop} {l:List As}
abbrev lkFile:List LK:=[.str,.int .i64,.int .i64,.int .i64,.int .i64,.int .i64,.int .i64,.str,.str,.str,.str,.str]
theorem fcs_drop(ds:List Fl):∀i:Nat,(fcs ds).drop (i*12)=fcs (ds.drop i):=by
 induction ds with
 |nil=>intro i;simp
 |cons d r ih=>
  intro i
  cases i with
  |zero=>simp
  |succ i=>
   rw[fcs,List.flatMap_cons,show(i+1)*12=i*12+12 by omega]
   simp only[Fl.cs,List.cons_append,List.nil_append,List.drop_succ_cons]
   exact ih i
theorem eqInts_ok{u v:Value}{xs ys:List Int}(hn:xs.length≤1000000000)(E:Hs w0 F w l)(h1:RdS w0 F l 1 xs.length u (xs.map i64))(h2:RdS w0 F l 1 ys.length v (ys.map i64)):
  Ca PP Fn.f29 #[u,v] w λr w'=>∃b,r=.bool b∧(b=true↔xs=ys)∧Hs w0 F w' l:=by
 refine S.f29.calls ?_
 unfold S.f29
 refine h1.len ?_
 refine h2.len ?_
 refine Bi.neq (λh=>?_) λhlen=>?_
 ·(repeat with_reducible refine Stp.go ?_)
  exact⟨false,rfl,⟨(λh=>by cases h),λe=>absurd (by rw[e]) h⟩,E⟩
 have hlen:xs.length=ys.length:=by omega
 repeat with_reducible refine Stp.go ?_
 refine h1.len ?_
 refine⟨λl1 w1=>∃i:Nat,l1=[i64 i]∧i≤xs.length∧xs.take i=ys.take i∧Hs w0 F w1 l,λl1 _=>match l1 with|[.int _ i]=>xs.length-i.toNat|_=>0,⟨0,rfl,Nat.zero_le _,rfl,E⟩,?_⟩
 clear E
 rintro t u1 w1 ⟨i,e,hi,htk,E⟩
 cases e
 refine Bi.lss ?_ ?_<;>intro hlt<;>(repeat with_reducible first|refine Stp.go ?_|(refine StpW.go E ?_;clear E;intro w_ E))
 ·have ex:xs[i]? =some (xs[i]'(by omega)):=List.getElem?_eq_getElem (by omega)
  have ey:ys[i]? =some (ys[i]'(by omega)):=List.getElem?_eq_getElem (by omega)
  have hd:((xs.map i64).drop (((i:Int)).toNat*1))[0]? =some (i64 (xs[i]'(by omega))):=by
   rw[Int.toNat_natCast,Nat.mul_one,List.getElem?_drop,Nat.add_zero,List.getElem?_map,ex];rfl
  have hd2:((ys.map i64).drop (((i:Int)).toNat*1))[0]? =some (i64 (ys[i]'(by omega))):=by
   rw[Int.toNat_natCast,Nat.mul_one,List.getElem?_drop,Nat.add_zero,List.getElem?_map,ey];rfl
  refine h1.ix (by omega) (by omega) (by omega) ?_
  intro a ha
  refine ha.ld E hd ?_
  refine h2.ix (by omega) (by omega) (by omega) ?_
  intro a2 ha2
  refine ha2.ld E hd2 ?_
  refine Bi.neq (λh=>?_) λh=>?_
  ·(repeat with_reducible refine Stp.go ?_)
   refine⟨false,rfl,⟨(λh=>by cases h),λe=>?_⟩,E⟩
   subst e
   exact absurd rfl h
  ·have h:xs[i]'(by omega)=ys[i]'(by omega):=Classical.not_not.1 (by simpa using h)
   repeat with_reducible refine Stp.go ?_
   refine Bi.add (by omega) ?_
   exact⟨⟨i+1,by simp,by omega,by rw[List.take_add_one,List.take_add_one,htk,ex,ey,h],E⟩,by simp only[];omega⟩
 ·refine⟨true,rfl,⟨λ_=>?_,λ_=>rfl⟩,E⟩
  rwa [List.take_of_length_le (by omega),List.take_of_length_le (by omega)]at htk
set_option maxRecDepth 100000
set_option linter.unusedVariables false
set_option linter.unusedSimpArgs false
variable {w0 w:World} {F:Nat→Prop} {l:List As}
variable {D:List Row} {X:PT} {β:Int→Nat} {R:RT} {T:Tr} {gV nV hV:Value}
theorem RdS.fl{v:Value}{t:TypeId}{xs:List Fl}(h:slA v t 12 (fcs xs)∈l)(E:Hs w0 F w l):RdS w0 F l 12 xs.length v (fcs xs):=by
 have:=RdS.sl h (by omega) E
 rwa [show fcs xs=xs.flatMap Fl.cs from rfl,rw_len fl_len,Nat.mul_div_cancel _ (by omega)]at this
theorem alike_ok[iG:Scal gV][iN:Scal nV][iH:Scal hV](h:Tie D X T β)(hi:Inv T)(hr:Rl R T)(hN:R.ns.length≤1000000000)(hps:∀n∈T.ns,(T.pathS n).size≤100000)(hfl:T.files.length≤1000000)(mN:NP nV R∈l)(mH:HP hV R∈l)(E:Hs w0 F w (trA X::Pool D::l)):
  Ca PP Fn.law28_alike #[ptr X.t,rV gV nV hV R.clock] w λr w'=>r=.bool true∧Hs w0 F w' (trA X::Pool D::l):=by
 refine S.law28_alike.calls ?_
 unfold S.law28_alike
 refine StpA.go E ?_
 clear E
 intro q w_ hq E
 repeat with_reducible first|refine StpE.go E ?_|(refine StpW.go E ?_;clear E;intro w_ E)
 (replace E:=(((E.bIx 0).bIx 2).bIx 2))
 refine(Files_ok h hi E).mono ?_
 clear E
 intro fv w_ E
 refine⟨by (repeat with_reducible refine StpE.go E ?_);rfl,?_⟩
 refine(rFiles_ok hr hi hN hps (List.mem_cons_of_mem _ (List.mem_cons_of_mem _ (List.mem_cons_of_mem _ (List.mem_cons_of_mem _ mN)))) E).mono ?_
 clear E
 intro rv w_ E
 (intro J10 hJ10)
 have fin10:∀w_,Hs w0 F w_ (slA rv Ty.t44 12 (fcs T.files)::slA fv Ty.tree_File 12 (fcs T.files)::trA X::Pool D::pt q (oc [gV,nV,hV,i64 R.clock] Ty.t0)::l)→J10 [.bool false] w_:=by
  intro w_ E
  repeat with_reducible first|refine Stp.go ?_|(apply hJ10;intro u_)
  clear hJ10
  have hf2:=RdS.fl (v:=rv) (t:=Ty.t44) (xs:=T.files) List.mem_cons_self E
  have hf1:=RdS.fl (v:=fv) (t:=Ty.tree_File) (xs:=T.files) (List.mem_cons_of_mem _ List.mem_cons_self) E
  refine hf1.len ?_
  refine⟨λl1 w1=>∃i:Nat,l1=[i64 i]∧i≤T.files.length∧Hs w0 F w1 (slA rv Ty.t44 12 (fcs T.files)::slA fv Ty.tree_File 12 (fcs T.files)::trA X::Pool D::pt q (oc [gV,nV,hV,i64 R.clock] Ty.t0)::l),λl1 _=>match l1 with|[.int _ i]=>T.files.length-i.toNat|_=>0,⟨0,rfl,Nat.zero_le _,E⟩,?_⟩
  clear E
  rintro t34 u w_ ⟨i,h1,hi2,E⟩
  cases h1
  refine Bi.lss ?_ ?_<;>intro hlt<;>(repeat with_reducible refine Stp.go ?_)
  ·have hrow:(fcs T.files).drop (i*12)=(T.files[i]'(by omega)).cs++fcs (T.files.drop (i+1)):=by
    rw[fcs_drop,List.drop_eq_getElem_cons (by omega)];rfl
   generalize T.files[i]'(by omega)=x at hrow
   (intro J21 hJ21)
   have fin21:∀w_,Hs w0 F w_ (slA rv Ty.t44 12 (fcs T.files)::slA fv Ty.tree_File 12 (fcs T.files)::trA X::Pool D::pt q (oc [gV,nV,hV,i64 R.clock] Ty.t0)::l)→J21 [.bool false] w_:=by
    intro w_ E
    repeat with_reducible first|refine Stp.go ?_|(apply hJ21;intro u_)
    refine Bi.add (by omega) ?_
    exact⟨⟨i+1,by simp,by omega,E⟩,by simp only[];omega⟩
   clear hJ21
   repeat with_reducible (refine StpW.go E ?_;clear E;intro w_ E)
   refine hf1.ix (by omega) (by omega) (by omega) ?_
   rw[Int.toNat_natCast,hrow]
   intro a ha
   skip
   refine ha.fa (by simp) ?_
   intro a2 ha2
   skip
   refine ha2.ld E rfl ?_
   skip
   refine hf2.ix (by omega) (by omega) (by omega) ?_
   rw[Int.toNat_natCast,hrow]
   intro a ha
   skip
   refine ha.fa (by simp) ?_
   intro a2 ha2
   skip
   refine ha2.ld E rfl ?_
   skip
   refine Bi.sneq (λhc=>absurd rfl hc) λ_=>?_
   repeat with_reducible refine Stp.go ?_
   refine hf1.ix (by omega) (by omega) (by omega) ?_
   rw[Int.toNat_natCast,hrow]
   intro a ha
   repeat with_reducible refine Stp.go ?_
   refine ha.fa (by simp) ?_
   intro a2 ha2
   repeat with_reducible refine Stp.go ?_
   refine ha2.lda E (m:=10) (ds:=x.dir.cs) rfl rfl (by omega) ?_
   repeat with_reducible refine Stp.go ?_
   refine hf2.ix (by omega) (by omega) (by omega) ?_
   rw[Int.toNat_natCast,hrow]
   intro a ha
   repeat with_reducible refine Stp.go ?_
   refine ha.fa (by simp) ?_
   intro a2 ha2
   repeat with_reducible refine Stp.go ?_
   refine ha2.lda E (m:=10) (ds:=x.dir.cs) rfl rfl (by omega) ?_
   repeat with_reducible refine Stp.go ?_
   refine EqS.nS (xs:=x.dir.cs) lv_Dir st_Dir g_Dir rfl ?_
   repeat with_reducible refine Stp.go ?_
   refine hf1.ix (by omega) (by omega) (by omega) ?_
   rw[Int.toNat_natCast,hrow]
   intro a ha
   repeat with_reducible refine Stp.go ?_
   refine ha.fa (by simp) ?_
   intro a2 ha2
   repeat with_reducible refine Stp.go ?_
   refine ha2.ld E rfl ?_
   repeat with_reducible refine Stp.go ?_
   refine hf2.ix (by omega) (by omega) (by omega) ?_
   rw[Int.toNat_natCast,hrow]
   intro a ha
   repeat with_reducible refine Stp.go ?_
   refine ha.fa (by simp) ?_
   intro a2 ha2
   repeat with_reducible refine Stp.go ?_
   refine ha2.ld E rfl ?_
   repeat with_reducible refine Stp.go ?_
   refine Bi.sneq (λhc=>absurd rfl hc) λ_=>?_
   repeat with_reducible refine Stp.go ?_
   exact fin21 _ E
  ·refine⟨rfl,?_⟩
   (replace E:=(((((E.bIx 4).bIx 2).bIx 2).bIx 4).bIx 4))
   exact E.drop (List.Sublist.cons_cons _ (List.Sublist.cons_cons _ (List.sublist_append_right [_,_,_] l)))
 clear hJ10
 repeat with_reducible (refine StpW.go E ?_;clear E;intro w_ E)
 have hf2:=RdS.fl (v:=rv) (t:=Ty.t44) (xs:=T.files) List.mem_cons_self E
 have hf1:=RdS.fl (v:=fv) (t:=Ty.tree_File) (xs:=T.files) (List.mem_cons_of_mem _ List.mem_cons_self) E
 refine hf1.len ?_
 refine hf2.len ?_
 refine Bi.neq (λhc=>absurd rfl hc) λ_=>?_
 repeat with_reducible first|refine Stp.go ?_|refine StpE.go E ?_
 (replace E:=(((E.bIx 1).bIx 1).bIx 2))
 refine(Handles_ok h hi E).mono ?_
 clear E
 intro h1 w_ E
 refine⟨by (repeat with_reducible first|refine Stp.go ?_|refine StpE.go E ?_);rfl,?_⟩
 repeat with_reducible refine Stp.go ?_
 refine(rHeldL_ok hr (List.mem_cons_of_mem _ (List.mem_cons_of_mem _ (List.mem_cons_of_mem _ (List.mem_cons_of_mem _ (List.mem_cons_of_mem _ (List.mem_cons_of_mem _ mH)))))) E).mono ?_
 clear E
 intro h2 w_ E
 have r1:=RdS.by1 h1 E
 have r2:=RdS.by1 h2 E
 rw[List.length_map]at r1 r2
 have hhl:T.handles.length≤64:=by unfold Tr.handles;rw[List.length_map];exact hi.few.2
 repeat with_reducible refine Stp.go ?_
 refine(eqInts_ok (by omega) E r1 r2).mono ?_
 clear E
 rintro r w_ ⟨b,rfl,hb,E⟩
 obtain rfl:b=true:=hb.2 rfl
 repeat with_reducible first|refine Stp.go ?_|refine StpE.go E ?_
 replace E:=E.tl.tl
 refine(Clock_ok h E).mono ?_
 clear E
 rintro r w_ ⟨rfl,E⟩
 refine⟨by (repeat with_reducible first|refine Stp.go ?_|refine StpE.go E ?_);rfl,?_⟩
 rw[hr.clock]
 repeat with_reducible refine Stp.go ?_
 refine Bi.neq (λhc=>absurd rfl hc) λ_=>?_
 repeat with_reducible refine Stp.go ?_
 (replace E:=(((E.bIx 0).bIx 2).bIx 2))
 exact fin10 _ E
end Go.Proofs.YtnnhmahemklnkaaGreatDoor