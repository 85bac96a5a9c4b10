/-
 The reference's tree: what it is on lists, and which plain tree it stands for.
-/
import Derived.Test.YtnnhmahemklnkaaGreatDoorRf2
import Derived.Test.YtnnhmahemklnkaaGreatDoorSh23
import Derived.Test.YtnnhmahemklnkaaGreatDoorTo5
import Derived.Lib.LastIndexByte
namespace Go.Proofs.YtnnhmahemklnkaaGreatDoor
open Go Go.Sh
set_option maxRecDepth 100000
set_option linter.unusedVariables false
set_option linter.unusedSimpArgs false
variable {w0 w:World} {F:Nat→Prop} {l:List As}

structure RN where
 dir:Dr
 data:BA
 par:Int
 gone:Bool
abbrev RN.cs(n:RN):List Value:=[i64 n.dir.kind,i64 n.dir.vers,i64 n.dir.path,i64 n.dir.mode,i64 n.dir.time,i64 n.dir.len,str n.dir.name,str n.dir.owner,str n.dir.group,str n.dir.last,str n.data,i64 n.par,.bool n.gone]
theorem rn_len(n:RN):n.cs.length=13:=rfl
structure RH where
 file:Int
 mode:Int
 user:BA
abbrev RH.cs(h:RH):List Value:=[i64 h.file,i64 h.mode,str h.user]
theorem rh_len(h:RH):h.cs.length=3:=rfl
structure RT where
 ns:List RN
 hs:List RH
 clock:Int
def RN.nd(n:RN):Nd:=⟨n.dir.path,n.dir.vers,n.dir.mode,n.dir.time,n.par,n.dir.name,n.dir.owner,n.dir.group,n.dir.last,n.data⟩
def heldL:Int→List RH→List (Int×Hd)
 |_,[]=>[]
 |k,h::r=>if h.mode<0 then heldL (k+1) r else(k,⟨h.file,h.mode,h.user⟩)::heldL (k+1) r

structure Rl(R:RT)(T:Tr):Prop where
 idx:∀(i:Nat) n,R.ns[i]? =some n→n.dir.path=i
 ns:T.ns=(R.ns.filter λn=>!n.gone).map RN.nd
 form:∀n∈R.ns,n.gone=false→n.dir.kind=kindOf n.dir.mode∧n.dir.len=n.data.size
 next:T.next=R.ns.length
 clock:T.clock=R.clock
 hs:T.hs=heldL 1 R.hs
 hl:R.hs.length≤64
abbrev rV(gV nV hV:Value)(c:Int):Value:=.agg #[gV,nV,hV,i64 c]
abbrev NP(nV:Value)(R:RT):As:=slA nV Ty.r28_Node 13 (R.ns.flatMap RN.cs)
abbrev HP(hV:Value)(R:RT):As:=slA hV Ty.t22 3 (R.hs.flatMap RH.cs)
variable {R:RT} {T:Tr} {gV nV hV:Value} {c:Int}
theorem Rl.mem(h:Rl R T){m:Nd}:m∈T.ns↔∃n∈R.ns,n.gone=false∧n.nd=m:=by
 rw[h.ns,List.mem_map]
 constructor
 ·rintro⟨n,hn,rfl⟩
  obtain⟨h1,h2⟩:=List.mem_filter.1 hn
  exact⟨n,h1,by simpa using h2,rfl⟩
 ·rintro⟨n,h1,h2,rfl⟩
  exact⟨n,List.mem_filter.2 ⟨h1,by rw[h2];rfl⟩,rfl⟩
theorem Rl.sm(h:Rl R T)(hi:Inv T){p:Int}{m:Nd}(hg:T.get p=some m):∃(i:Nat) (n:RN),p=i∧R.ns[i]? =some n∧n.gone=false∧n.nd=m:=by
 obtain⟨h1,h2⟩:=hi.get.1 hg
 obtain⟨n,h3,h4,rfl⟩:=h.mem.1 h1
 obtain⟨i,hi'⟩:=List.getElem?_of_mem h3
 exact⟨i,n,by rw[← h2];exact h.idx i n hi',hi',h4,rfl⟩
theorem Rl.nn(h:Rl R T)(hi:Inv T){i:Nat}{n:RN}(hg:T.get (i:Int)=none)(hn:R.ns[i]? =some n):n.gone=true:=by
 cases hgn:n.gone with
 |true=>rfl
 |false=>exact absurd (h.idx i n hn) (get_none.1 hg n.nd (h.mem.2 ⟨n,List.mem_of_getElem? hn,hgn,rfl⟩))
theorem Rl.at_(h:Rl R T)(hi:Inv T){i:Nat}{n:RN}(hn:R.ns[i]? =some n)(hg:n.gone=false):T.get (i:Int)=some n.nd:=
 hi.get.2 ⟨h.mem.2 ⟨n,List.mem_of_getElem? hn,hg,rfl⟩,h.idx i n hn⟩
theorem Rl.stat(h:Rl R T){n:RN}(hn:n∈R.ns)(hg:n.gone=false):n.nd.stat=n.dir:=by
 obtain⟨h1,h2⟩:=h.form n hn hg
 unfold Nd.stat RN.nd
 rw[← h1,← h2]

theorem rExists_ok[iG:Scal gV][iN:Scal nV][iH:Scal hV](h:Rl R T)(hi:Inv T)(hN:R.ns.length≤1000000000){p:Int}(hm:NP nV R∈l)(E:Hs w0 F w l):Ca PP Fn.f38 #[rV gV nV hV c,i64 p] w λr w'=>r=.bool (T.get p).isSome∧Hs w0 F w' l:=by
 refine S.f38.calls ?_
 unfold S.f38
 refine StpA.go E ?_
 clear E
 intro q w_ hq E
 (intro J3 hJ3)
 have fin:∀b w_,b=(T.get p).isSome→Hs w0 F w_ (pt q (oc [gV,nV,hV,i64 c] Ty.t0)::l)→J3 [.bool b] w_:=by
  intro b w_ hb E
  repeat with_reducible (apply hJ3;intro u_)
  exact⟨by rw[hb],E.tl⟩
 clear hJ3
 have out:(∀i:Nat,p=i→i<R.ns.length→False)→(T.get p).isSome=false:=by
  intro h1
  cases hg:T.get p with
  |none=>rfl
  |some m=>
   obtain⟨i,n,e,h2,-⟩:=h.sm hi hg
   exact(h1 i e (List.getElem?_eq_some_iff.1 h2).1).elim
 refine Bi.geq ?_ ?_<;>intro h0<;>(repeat with_reducible first|refine Stp.go ?_|refine StpE.go E ?_)
 ·refine LnL.rw rn_len E (List.mem_cons_of_mem _ hm) (by omega) ?_
  repeat with_reducible refine Stp.go ?_
  refine Bi.lss ?_ ?_<;>intro h1<;>(repeat with_reducible first|refine Stp.go ?_|refine StpE.go E ?_)
  ·refine IxA.rw rn_len E (List.mem_cons_of_mem _ hm) (by omega) h0 (by omega) ?_
   intro a ha
   repeat with_reducible refine Stp.go ?_
   refine Fa.el ha ?_
   intro a2 ha2
   repeat with_reducible refine Stp.go ?_
   have hn:R.ns[p.toNat]? =some (R.ns[p.toNat]'(by omega)):=List.getElem?_eq_getElem (by omega)
   generalize R.ns[p.toNat]'(by omega)=n at hn
   refine Ld.rw rn_len E (List.mem_cons_of_mem _ hm) ha2 hn (by omega) (y:=.bool n.gone) rfl ?_
   repeat with_reducible refine Stp.go ?_
   refine Un.not ?_
   repeat with_reducible refine Stp.go ?_
   have e:p=(p.toNat:Int):=by omega
   refine fin _ _ ?_ E
   cases hg:n.gone with
   |false=>rw[e,h.at_ hi hn hg];rfl
   |true=>
    cases hq2:T.get p with
    |none=>rfl
    |some m=>
     obtain⟨j,n2,e2,h2,h3,-⟩:=h.sm hi hq2
     have:j=p.toNat:=by omega
     rw[this,hn]at h2
     cases h2
     rw[hg]at h3;cases h3
  ·exact fin _ _ (out λi e hi2=>by omega).symm E
 ·exact fin _ _ (out λi e hi2=>by omega).symm E
theorem rDirectory_ok[iG:Scal gV][iN:Scal nV][iH:Scal hV]{i:Nat}{n:RN}(hn:R.ns[i]? =some n)(hm:NP nV R∈l)(E:Hs w0 F w l):Ca PP Fn.f37 #[rV gV nV hV c,i64 i] w λr w'=>r=.bool n.nd.dir∧Hs w0 F w' l:=by
 refine S.f37.calls ?_
 unfold S.f37
 refine StpA.go E ?_
 clear E
 intro q w_ hq E
 have hlt:=(List.getElem?_eq_some_iff.1 hn).1
 repeat with_reducible first|refine Stp.go ?_|refine StpE.go E ?_
 refine IxA.rw rn_len E (List.mem_cons_of_mem _ hm) (by omega) (by omega) (by omega) ?_
 intro a ha
 rw[Int.toNat_natCast]at ha
 refine Fa.el ha ?_
 intro a2 ha2
 refine Fa.el ha2 ?_
 intro a3 ha3
 refine Ld.rw rn_len E (List.mem_cons_of_mem _ hm) ha3 hn (by omega) (y:=i64 n.dir.mode) rfl ?_
 repeat with_reducible refine Stp.go ?_
 refine Bi.neq ?_ ?_<;>intro h1
 ·exact⟨by show _=Value.bool (isD n.dir.mode);simp[isD,h1],E.tl⟩
 ·exact⟨by show _=Value.bool (isD n.dir.mode);simp[isD,h1],E.tl⟩
set_option maxRecDepth 100000
set_option linter.unusedVariables false
set_option linter.unusedSimpArgs false
variable {w0 w:World} {F:Nat→Prop} {l:List As}
theorem rPermits_ok{m need:Int}{o g:Bool}:Ca PP Fn.r28_Permits #[i64 m,.bool o,.bool g,i64 need] w λr w'=>r=.bool (permF m o g need)∧w'=w:=by
 refine S.r28_Permits.calls ?_
 unfold S.r28_Permits
 repeat with_reducible refine Stp.go ?_
 (intro J2 hJ2)
 have fin:∀b,b=andI (shI m o g) 7→J2 [i64 b] w:=by
  intro b hb
  repeat with_reducible first|refine Stp.go ?_|(apply hJ2;intro u_)
  have e0:permF m o g need=decide (clrI (andI need 7) (shI m o g)=0):=by
   show(clrI (andI need 7) (shI m o g) == 0)=_
   by_cases h:clrI (andI need 7) (shI m o g)=0<;>simp[h]
  have e:clrI (andI need 7) b=0↔clrI (andI need 7) (shI m o g)=0:=by
   rw[hb,clrI_zero,clrI_zero,andI_ofInt,andI_ofInt]
   have:BitVec.ofInt 64 need &&& BitVec.ofInt 64 7 &&& ~~~(BitVec.ofInt 64 (shI m o g) &&& BitVec.ofInt 64 7)=BitVec.ofInt 64 need &&& BitVec.ofInt 64 7 &&& ~~~BitVec.ofInt 64 (shI m o g):=by
    apply BitVec.eq_of_getLsbD_eq
    intro i hi
    simp only[BitVec.getLsbD_and,BitVec.getLsbD_not]
    cases(BitVec.ofInt 64 need).getLsbD i<;>cases(BitVec.ofInt 64 7).getLsbD i<;>cases(BitVec.ofInt 64 (shI m o g)).getLsbD i<;>simp
   rw[this]
  rw[e0]
  refine Bi.eql ?_ ?_<;>intro h
  ·exact⟨by rw[decide_eq_true (e.1 h)],rfl⟩
  ·exact⟨by rw[decide_eq_false λhc=>h (e.2 hc)],rfl⟩
 clear hJ2
 cases o with
 |true=>
  repeat with_reducible refine Stp.go ?_
  refine Bi.mk rfl ?_
  refine Bi.mk rfl ?_
  exact fin _ rfl
 |false=>
  repeat with_reducible refine Stp.go ?_
  cases g with
  |true=>
   repeat with_reducible refine Stp.go ?_
   refine Bi.mk rfl ?_
   refine Bi.mk rfl ?_
   exact fin _ rfl
  |false=>
   repeat with_reducible refine Stp.go ?_
   exact fin _ rfl
variable {R:RT} {T:Tr} {gV nV hV:Value} {c:Int}

theorem GIn.at_{gv:List (BA×Value)}{gs:Gs}(hg:GIn w0 F l gV gv gs){i:Nat}{nm:BA}{us:List BA}(hi:gs[i]? =some (nm,us)):∃uv,RdS w0 F l 1 us.length uv (us.map str)∧∃rest,(gv.flatMap gcell).drop (i*2)=str nm::uv::rest:=by
 have hlt:=(List.getElem?_eq_some_iff.1 hi).1
 have hy:gv[i]? =some (gv[i]'(by rw[hg.len];omega)):=List.getElem?_eq_getElem (by rw[hg.len];omega)
 obtain⟨nm2,uv,hgi⟩:∃nm uv,gv[i]'(by rw[hg.len];omega)=(nm,uv):=⟨_,_,rfl⟩
 obtain⟨h1,h2⟩:=hg.one i _ _ hy hi
 rw[hgi]at h1 h2
 have h1:nm2=nm:=h1
 subst h1
 refine⟨uv,h2,(gv.drop (i+1)).flatMap gcell,?_⟩
 rw[flat_drop,List.drop_eq_getElem_cons (by rw[hg.len];omega),hgi]
 rfl
def memR(gs:Gs)(user group:BA):Bool:=decide (user=group) || gs.any λg=>decide (g.1=group) && g.2.any λu=>decide (u=user)
theorem memR_eq {gs : Gs} (hn : (gs.map (·.1)).Nodup) (hT : T.gs = gs) (user group : BA) : memR gs user group = T.member user group:=by
 unfold memR Tr.member
 rw [hT]
 congr 1
 cases hg : getL gs group with
 | none =>
  simp only []
  rw [List.any_eq_false]
  intro g hgm
  rw [getL_none] at hg
  have : g.1 ≠ group:=fun e=>hg (by rw [← e]; exact List.mem_map.2 ⟨g,hgm,rfl⟩)
  rw [decide_eq_false this]; simp
 | some us =>
  simp only []
  have hm:=(getL_some hn).1 hg
  cases hu : us.any fun x=>decide (x = user) with
  | true=>rw [List.any_eq_true]; exact ⟨_,hm,by rw [decide_eq_true rfl,hu]; rfl⟩
  | false =>
   rw [List.any_eq_false]
   intro g hgm
   by_cases hq : g.1 = group
   ·have : getL gs group = some g.2:=(getL_some hn).2 (by rw [← hq]; exact hgm)
    rw [hg] at this
    cases this
    rw [hu]; simp
   ·rw [decide_eq_false hq]; simp
theorem rMember_ok[iG:Scal gV][iN:Scal nV][iH:Scal hV]{gv:List (BA×Value)}{gs:Gs}{user group:BA}(hg:GIn w0 F l gV gv gs)(hgl:gs.length≤100000)(hul:∀g∈gs,g.2.length≤100000)(E:Hs w0 F w l):
  Ca PP Fn.r28_member #[rV gV nV hV c,str user,str group] w λr w'=>r=.bool (memR gs user group)∧Hs w0 F w' l:=by
 refine S.r28_member.calls ?_
 unfold S.r28_member
 refine StpA.go E ?_
 clear E
 intro q w_ hq E
 refine Bi.seql ?_ ?_<;>intro h0<;>(repeat with_reducible refine Stp.go ?_)
 ·exact⟨by unfold memR;rw[decide_eq_true h0];rfl,E.tl⟩
 refine⟨λl1 w1=>∃i:Nat,l1=[i64 i]∧i≤gs.length∧((gs.take i).any λg=>decide (g.1=group) && g.2.any λu=>decide (u=user))=false∧Hs w0 F w1 (pt q (oc [gV,nV,hV,i64 c] Ty.t0)::l),λl1 _=>match l1 with|[.int _ i]=>gs.length-i.toNat|_=>0,⟨0,rfl,Nat.zero_le _,rfl,E⟩,?_⟩
 clear E
 rintro t7 u w_ ⟨i,h1,hi,hno,E⟩
 cases h1
 repeat with_reducible first|refine Stp.go ?_|refine StpE.go E ?_
 refine hg.rd.len ?_
 refine Bi.lss ?_ ?_<;>intro hlt<;>(repeat with_reducible refine Stp.go ?_)
 ·have hx:gs[i]? =some (gs[i]'(by omega)):=List.getElem?_eq_getElem (by omega)
  obtain⟨nm,us,hgi⟩:∃nm us,gs[i]'(by omega)=(nm,us):=⟨_,_,rfl⟩
  rw[hgi]at hx
  have hul1:us.length≤100000:=hul (nm,us) (List.mem_of_getElem? hx)
  obtain⟨uv,hu,rest,hrow⟩:=hg.at_ hx
  have tk:(gs.take (i+1)).any (λg=>decide (g.1=group) && g.2.any λu=>decide (u=user))=(decide (nm=group) && us.any λu=>decide (u=user)):=by
   rw[List.take_add_one,hx,List.any_append,hno];simp
  refine⟨λl1 w1=>∃k:Nat,l1=[i64 k]∧k≤us.length∧((us.take k).any λu=>decide (u=user))=false∧Hs w0 F w1 (pt q (oc [gV,nV,hV,i64 c] Ty.t0)::l),λl1 _=>match l1 with|[.int _ i]=>us.length-i.toNat|_=>0,⟨0,rfl,Nat.zero_le _,rfl,E⟩,?_⟩
  clear E
  rintro t8 u2 w_ ⟨k,h1,hk,hno2,E⟩
  cases h1
  (intro J18 hJ18)
  have fin:∀b w_,(b=true→nm=group∧k<us.length)→(b=false→(decide (nm=group) && us.any λu=>decide (u=user))=false)→Hs w0 F w_ (pt q (oc [gV,nV,hV,i64 c] Ty.t0)::l)→J18 [.bool b] w_:=by
   intro b w_ hb hb2 E
   repeat with_reducible (apply hJ18;intro u_)
   cases b with
   |false=>
    repeat with_reducible refine Stp.go ?_
    refine Bi.add (by omega) ?_
    exact⟨⟨i+1,by simp,by omega,by rw[tk];exact hb2 rfl,E⟩,by simp only[];omega⟩
   |true=>
    obtain⟨hb3,hb4⟩:=hb rfl
    repeat with_reducible first|refine Stp.go ?_|refine StpE.go E ?_
    refine(hg.rd.cons (pt q (oc [gV,nV,hV,i64 c] Ty.t0))).ix (by omega) (by omega) (by omega) ?_
    rw[Int.toNat_natCast,hrow]
    intro a ha
    skip
    refine ha.fa (by simp) ?_
    intro a2 ha2
    skip
    refine ha2.ld E rfl ?_
    refine(hu.cons (pt q (oc [gV,nV,hV,i64 c] Ty.t0))).ix (by omega) (by omega) (by omega) ?_
    intro a3 ha3
    have hxu:us[k]? =some us[k]:=List.getElem?_eq_getElem (by omega)
    refine ha3.ld E (x:=str us[k]) (by rw[Int.toNat_natCast,Nat.mul_one,List.getElem?_drop,Nat.add_zero,List.getElem?_map,hxu];rfl) ?_
    refine Bi.seql ?_ ?_<;>intro he<;>(repeat with_reducible refine Stp.go ?_)
    ·refine⟨?_,E.tl⟩
     have:(gs.any λg=>decide (g.1=group) && g.2.any λu=>decide (u=user))=true:=
      List.any_eq_true.2 ⟨_,List.mem_of_getElem? hx,by
       rw[decide_eq_true hb3,Bool.true_and,List.any_eq_true]
       exact⟨us[k],List.getElem_mem _,decide_eq_true he⟩⟩
     unfold memR
     rw[this,Bool.or_true]
    ·refine Bi.add (by omega) ?_
     refine⟨⟨k+1,by simp,by omega,?_,E⟩,by simp only[];omega⟩
     rw[List.take_add_one,hxu,List.any_append,hno2]
     simpa using he
  clear hJ18
  repeat with_reducible first|refine Stp.go ?_|refine StpE.go E ?_
  refine(hg.rd.cons (pt q (oc [gV,nV,hV,i64 c] Ty.t0))).ix (by omega) (by omega) (by omega) ?_
  rw[Int.toNat_natCast,hrow]
  intro a ha
  skip
  refine ha.fa (by simp) ?_
  intro a2 ha2
  skip
  refine ha2.ld E rfl ?_
  refine Bi.seql ?_ ?_<;>intro he<;>(repeat with_reducible first|refine Stp.go ?_|refine StpE.go E ?_)
  ·refine(hg.rd.cons (pt q (oc [gV,nV,hV,i64 c] Ty.t0))).ix (by omega) (by omega) (by omega) ?_
   rw[Int.toNat_natCast,hrow]
   intro a ha
   repeat with_reducible refine Stp.go ?_
   refine ha.fa (by simp) ?_
   intro a2 ha2
   repeat with_reducible refine Stp.go ?_
   refine ha2.ld E rfl ?_
   repeat with_reducible refine Stp.go ?_
   refine hu.len ?_
   repeat with_reducible refine Stp.go ?_
   refine Bi.lss ?_ ?_<;>intro h3<;>(repeat with_reducible refine Stp.go ?_)
   ·exact fin true _ (λ_=>⟨he,by omega⟩) (λh=>by cases h) E
   ·refine fin false _ (λh=>by cases h) (λ_=>?_) E
    rw[show us.take k=us from List.take_of_length_le (by omega)]at hno2
    rw[hno2,Bool.and_false]
  ·exact fin false _ (λh=>by cases h) (λ_=>by rw[decide_eq_false he];rfl) E
 ·rw[show gs.take i=gs from List.take_of_length_le (by omega)]at hno
  exact⟨by unfold memR;rw[decide_eq_false h0,hno];rfl,E.tl⟩
theorem rMay_ok [iG : Scal gV] [iN : Scal nV] [iH : Scal hV] {gv : List (BA × Value)} {gs : Gs} {user : BA} {need : Int} {i : Nat} {n : RN} (hg : GIn w0 F l gV gv gs) (hgl : gs.length≤100000) (hul : ∀ g∈gs,g.2.length≤100000) (hgn : (gs.map (·.1)).Nodup) (hT : T.gs = gs)
  (hn : R.ns[i]? = some n) (hm : NP nV R∈l) (E : Hs w0 F w l) :
  Ca PP Fn.r28_may #[rV gV nV hV c,str user,i64 i,i64 need] w fun r w'=>r = .bool (T.may user n.nd need)∧Hs w0 F w' l:=by
 refine S.r28_may.calls ?_
 unfold S.r28_may
 refine StpA.go E ?_
 clear E
 intro q w_ hq E
 have hlt:=(List.getElem?_eq_some_iff.1 hn).1
 repeat with_reducible first|refine Stp.go ?_|refine StpE.go E ?_
 refine IxA.rw rn_len E (List.mem_cons_of_mem _ hm) (by omega) (by omega) (by omega) ?_
 intro a ha
 rw [Int.toNat_natCast] at ha
 refine Fa.el ha ?_
 intro a2 ha2
 refine LdA.rw rn_len E (List.mem_cons_of_mem _ hm) ha2 hn (by omega) (ds:=n.dir.cs) rfl rfl ?_
 repeat with_reducible first|refine Stp.go ?_|refine StpE.go E ?_|(refine StpW.go E ?_; clear E; intro w_ E)|(refine StpA.go E ?_; clear E; intro b_ w_ hb_ E)
 (revert b_; intro d hbd E)
 skip
 refine Bi.seql ?_ ?_ <;> intro h1 <;> (repeat with_reducible first|refine Stp.go ?_|refine StpE.go E ?_)
 ·refine (rMember_ok ((hg.weaken (l':=pt q (oc [gV,nV,hV,i64 c] Ty.t0)::l) fun w E=>E.tl).weaken (l':=pt d (oc n.dir.cs Ty.t7)::pt q (oc [gV,nV,hV,i64 c] Ty.t0)::l) fun w E=>E.tl) hgl hul E).mono ?_
  clear E
  rintro r w_ ⟨rfl,E⟩
  refine ⟨by (repeat with_reducible refine StpE.go E ?_); rfl,by (repeat with_reducible refine StpE.go E ?_); rfl,?_⟩
  refine rPermits_ok.mono ?_
  rintro r w' ⟨rfl,rfl⟩
  refine ⟨?_,E.tl.tl⟩
  unfold Tr.may
  rw [memR_eq hgn hT,decide_eq_true (show user = n.nd.owner from h1)]
  rfl
 ·refine (rMember_ok ((hg.weaken (l':=pt q (oc [gV,nV,hV,i64 c] Ty.t0)::l) fun w E=>E.tl).weaken (l':=pt d (oc n.dir.cs Ty.t7)::pt q (oc [gV,nV,hV,i64 c] Ty.t0)::l) fun w E=>E.tl) hgl hul E).mono ?_
  clear E
  rintro r w_ ⟨rfl,E⟩
  refine ⟨by (repeat with_reducible refine StpE.go E ?_); rfl,by (repeat with_reducible refine StpE.go E ?_); rfl,?_⟩
  refine rPermits_ok.mono ?_
  rintro r w' ⟨rfl,rfl⟩
  refine ⟨?_,E.tl.tl⟩
  unfold Tr.may
  rw [memR_eq hgn hT,decide_eq_false (show ¬ user = n.nd.owner from h1)]
  rfl
set_option maxRecDepth 100000
set_option linter.unusedVariables false
set_option linter.unusedSimpArgs false
variable {w0 w:World} {F:Nat→Prop} {l:List As}
variable {R:RT} {T:Tr} {gV nV hV:Value} {c:Int}
def RN.isK(p:Int)(s:BA)(n:RN):Prop:=n.gone=false∧n.par=p∧n.dir.name=s
theorem rChild_ok[iG:Scal gV][iN:Scal nV][iH:Scal hV](h:Rl R T)(hi:Inv T)(hN:R.ns.length≤1000000000){p:Int}{s:BA}(hm:NP nV R∈l)(E:Hs w0 F w l):
  Ca PP Fn.r28_child #[rV gV nV hV c,i64 p,str s] w λr w'=>((r=i64 (-1)∧T.kid p s=none)∨∃(i:Nat) (n:RN),r=i64 i∧R.ns[i]? =some n∧n.gone=false∧T.kid p s=some n.nd)∧Hs w0 F w' l:=by
 refine S.r28_child.calls ?_
 unfold S.r28_child
 refine StpA.go E ?_
 clear E
 intro q w_ hq E
 refine⟨λl1 w1=>∃i:Nat,l1=[i64 i]∧1≤i∧(∀(j:Nat) n,1≤j→j<i→R.ns[j]? =some n→¬n.isK p s)∧Hs w0 F w1 (pt q (oc [gV,nV,hV,i64 c] Ty.t0)::l),λl1 _=>match l1 with|[.int _ i]=>R.ns.length-i.toNat|_=>0,⟨1,rfl,Nat.le_refl _,λj n h1 h2=>by omega,E⟩,?_⟩
 clear E
 rintro t7 u w_ ⟨i,h1,hi1,hno,E⟩
 cases h1
 repeat with_reducible first|refine Stp.go ?_|refine StpE.go E ?_
 refine LnL.rw rn_len E (List.mem_cons_of_mem _ hm) (by omega) ?_
 refine Bi.lss ?_ ?_<;>intro hlt<;>(repeat with_reducible refine Stp.go ?_)
 ·have hn:R.ns[i]? =some (R.ns[i]'(by omega)):=List.getElem?_eq_getElem (by omega)
  generalize R.ns[i]'(by omega)=n at hn
  (intro J12 hJ12)
  have fin:∀b w_,(b=true↔n.isK p s)→Hs w0 F w_ (pt q (oc [gV,nV,hV,i64 c] Ty.t0)::l)→J12 [.bool b] w_:=by
   intro b w_ hb E
   repeat with_reducible (apply hJ12;intro u_)
   cases b with
   |true=>
    obtain⟨h2,h3,h4⟩:=hb.1 rfl
    repeat with_reducible refine Stp.go ?_
    refine⟨.inr ⟨i,n,rfl,hn,h2,(kid_some hi).2 ⟨h.mem.2 ⟨n,List.mem_of_getElem? hn,h2,rfl⟩,?_,h3,h4⟩⟩,E.tl⟩
    show n.dir.path≠0
    rw[h.idx i n hn];omega
   |false=>
    repeat with_reducible refine Stp.go ?_
    refine Bi.add (by omega) ?_
    refine⟨⟨i+1,by simp,by omega,λj m hj1 hj2 hm2=>?_,E⟩,by simp only[];omega⟩
    by_cases hji:j=i
    ·subst hji
     rw[hn]at hm2
     cases hm2
     exact λhc=>by have:=hb.2 hc;cases this
    ·exact hno j m hj1 (by omega) hm2
  clear hJ12
  repeat with_reducible first|refine Stp.go ?_|refine StpE.go E ?_
  refine IxA.rw rn_len E (List.mem_cons_of_mem _ hm) (by omega) (by omega) (by omega) ?_
  rw[Int.toNat_natCast]
  intro a ha
  skip
  refine Fa.el ha ?_
  intro a2 ha2
  skip
  refine Ld.rw rn_len E (List.mem_cons_of_mem _ hm) ha2 hn (by omega) (y:=.bool n.gone) rfl ?_
  skip
  refine Un.not ?_
  cases hg:n.gone with
  |true=>
   simp only[Bool.not_true]
   repeat with_reducible refine Stp.go ?_
   exact fin false _ ⟨(λh=>by cases h),λh=>by rw[h.1]at hg;cases hg⟩ E
  |false=>
   simp only[Bool.not_false]
   repeat with_reducible first|refine Stp.go ?_|refine StpE.go E ?_
   refine IxA.rw rn_len E (List.mem_cons_of_mem _ hm) (by omega) (by omega) (by omega) ?_
   rw[Int.toNat_natCast]
   intro a ha
   repeat with_reducible refine Stp.go ?_
   refine Fa.el ha ?_
   intro a2 ha2
   repeat with_reducible refine Stp.go ?_
   refine Ld.rw rn_len E (List.mem_cons_of_mem _ hm) ha2 hn (by omega) (y:=i64 n.par) rfl ?_
   repeat with_reducible refine Stp.go ?_
   refine Bi.eql ?_ ?_<;>intro hp<;>(repeat with_reducible first|refine Stp.go ?_|refine StpE.go E ?_)
   ·refine IxA.rw rn_len E (List.mem_cons_of_mem _ hm) (by omega) (by omega) (by omega) ?_
    rw[Int.toNat_natCast]
    intro a ha
    repeat with_reducible refine Stp.go ?_
    refine Fa.el ha ?_
    intro a2 ha2
    repeat with_reducible refine Stp.go ?_
    refine Fa.el ha2 ?_
    intro a3 ha3
    repeat with_reducible refine Stp.go ?_
    refine Ld.rw rn_len E (List.mem_cons_of_mem _ hm) ha3 hn (by omega) (y:=str n.dir.name) rfl ?_
    repeat with_reducible refine Stp.go ?_
    refine Bi.seql ?_ ?_<;>intro hs<;>(repeat with_reducible refine Stp.go ?_)
    ·exact fin true _ ⟨λ_=>⟨hg,hp,hs⟩,λ_=>rfl⟩ E
    ·exact fin false _ ⟨(λh=>by cases h),λh=>absurd h.2.2 hs⟩ E
   ·exact fin false _ ⟨(λh=>by cases h),λh=>absurd h.2.1 hp⟩ E
 ·refine⟨.inl ⟨rfl,?_⟩,E.tl⟩
  cases hk:T.kid p s with
  |none=>rfl
  |some m=>
   obtain⟨k1,k2,k3,k4⟩:=(kid_some hi).1 hk
   obtain⟨n,n1,n2,rfl⟩:=h.mem.1 k1
   obtain⟨j,hj⟩:=List.getElem?_of_mem n1
   have hjl:=(List.getElem?_eq_some_iff.1 hj).1
   have hj0:(j:Int)≠0:=by rw[← h.idx j n hj];exact k2
   exact absurd ⟨n2,k3,k4⟩ (hno j n (by omega) (by omega) hj)
theorem rKind_ok{m:Int}(E:Hs w0 F w l):Ca PP Fn.r28_kind #[i64 m] w λr w'=>r=i64 (kindOf m)∧Hs w0 F w' l:=by
 refine S.r28_kind.calls ?_
 unfold S.r28_kind
 (intro J1 hJ1)
 have f1:∀b,b=(if andI m 2147483648≠0 then(128:Int)else 0)→J1 [i64 b] w:=by
  intro b hb
  repeat with_reducible (apply hJ1;intro u_)
  (intro J5 hJ5)
  have f5:∀d,d=(if andI m 2147483648≠0 then(128:Int)else 0)+(if andI m 1073741824≠0 then 64 else 0)→J5 [i64 d] w:=by
   intro d hd
   repeat with_reducible (apply hJ5;intro u_)
   (intro J9 hJ9)
   have f9:∀e,e=kindOf m→J9 [i64 e] w:=by
    intro e he
    repeat with_reducible (apply hJ9;intro u_)
    exact⟨by rw[he],E⟩
   clear hJ9
   have hd2:0≤d∧d≤192:=by rw[hd];split<;>split<;>omega
   repeat with_reducible refine Stp.go ?_
   refine Bi.neq ?_ ?_<;>intro h1<;>(repeat with_reducible refine Stp.go ?_)
   ·refine Bi.add (by omega) ?_
    exact f9 _ (by unfold kindOf;rw[hd,if_pos h1])
   ·exact f9 _ (by unfold kindOf;rw[hd,if_neg (show ¬andI m 536870912≠0 by simpa using h1),Int.add_zero])
  clear hJ5
  have hb2:0≤b∧b≤128:=by rw[hb];split<;>omega
  repeat with_reducible refine Stp.go ?_
  refine Bi.neq ?_ ?_<;>intro h1<;>(repeat with_reducible refine Stp.go ?_)
  ·refine Bi.add (by omega) ?_
   exact f5 _ (by rw[hb,if_pos h1])
  ·exact f5 _ (by rw[hb,if_neg (show ¬andI m 1073741824≠0 by simpa using h1),Int.add_zero])
 clear hJ1
 repeat with_reducible refine Stp.go ?_
 refine Bi.neq ?_ ?_<;>intro h1<;>(repeat with_reducible refine Stp.go ?_)
 ·refine Bi.add (by omega) ?_
  exact f1 _ (by rw[if_pos h1];rfl)
 ·exact f1 _ (by rw[if_neg (by simpa using h1)])

theorem clr_neg{m k:Int}(hm:rngI m)(h0:m<0)(hk:(BitVec.ofInt 64 k).msb=false):clrI m k≠0:=by
 intro hc
 have h1:BitVec.ofInt 64 m &&& ~~~ BitVec.ofInt 64 k=0#64:=by
  have:=clrI_ofInt m k
  rw[hc]at this
  rw[← this];rfl
 have h2:(BitVec.ofInt 64 m).msb=true:=by
  rw[BitVec.msb_eq_toInt,BitVec.toInt_ofInt]
  obtain⟨h3,h4⟩:=hm
  have:m.bmod (2 ^ 64)=m:=by
   rw[Int.bmod_eq_of_le]<;>omega
  rw[this];exact decide_eq_true h0
 have h3:=congrArg BitVec.msb h1
 rw[BitVec.msb_and,BitVec.msb_not,h2,hk]at h3
 simp at h3
theorem rSum_ok{m:Int}(hm:rngI m)(E:Hs w0 F w l):Ca PP Fn.r28_sum #[i64 m] w λr w'=>r=.bool (rightM m)∧Hs w0 F w' l:=by
 refine S.r28_sum.calls ?_
 unfold S.r28_sum
 (intro J1 hJ1)
 have f1:∀b,b= !decide (clrI m 3758096895=0)→J1 [.bool b] w:=by
  intro b hb
  repeat with_reducible (apply hJ1;intro u_)
  cases hc:decide (clrI m 3758096895=0)with
  |false=>
   rw[hc]at hb
   subst hb
   simp only[Bool.not_false]
   repeat with_reducible refine Stp.go ?_
   exact⟨by unfold rightM;rw[hc];rfl,E⟩
  |true=>
   rw[hc]at hb
   subst hb
   simp only[Bool.not_true]
   repeat with_reducible refine Stp.go ?_
   (intro J5 hJ5)
   have f5:∀b,b=(decide (andI m 2147483648=0) || decide (andI m 1610612736=0))→J5 [.bool b] w:=by
    intro b hb
    repeat with_reducible (apply hJ5;intro u_)
    exact⟨by unfold rightM;rw[hc,hb];rfl,E⟩
   clear hJ5
   repeat with_reducible refine Stp.go ?_
   refine Bi.eql ?_ ?_<;>intro h1<;>(repeat with_reducible refine Stp.go ?_)
   ·exact f5 _ (by rw[decide_eq_true h1];rfl)
   ·refine Bi.eql ?_ ?_<;>intro h2<;>(repeat with_reducible refine Stp.go ?_)
    ·exact f5 _ (by rw[decide_eq_true h2,Bool.or_true])
    ·exact f5 _ (by rw[decide_eq_false h1,decide_eq_false h2];rfl)
 clear hJ1
 refine Bi.lss ?_ ?_<;>intro h1<;>(repeat with_reducible refine Stp.go ?_)
 ·exact f1 _ (by rw[decide_eq_false (clr_neg hm h1 (by decide))];rfl)
 ·refine Bi.neq ?_ ?_<;>intro h2<;>(repeat with_reducible refine Stp.go ?_)
  ·exact f1 _ (by rw[decide_eq_false h2];rfl)
  ·exact f1 _ (by rw[decide_eq_true h2];rfl)
theorem rOpens_ok{m:Int}(hm:rngI m)(E:Hs w0 F w l):Ca PP Fn.r28_Opens #[i64 m] w λr w'=>r=.bool (decide (clrI m 83=0))∧Hs w0 F w' l:=by
 refine S.r28_Opens.calls ?_
 unfold S.r28_Opens
 (intro J1 hJ1)
 have f1:∀b,b=decide (clrI m 83=0)→J1 [.bool b] w:=by
  intro b hb
  repeat with_reducible (apply hJ1;intro u_)
  exact⟨by rw[hb],E⟩
 clear hJ1
 refine Bi.geq ?_ ?_<;>intro h1<;>(repeat with_reducible refine Stp.go ?_)
 ·refine Bi.eql ?_ ?_<;>intro h2<;>(repeat with_reducible refine Stp.go ?_)
  ·exact f1 _ (by rw[decide_eq_true h2])
  ·exact f1 _ (by rw[decide_eq_false h2])
 ·exact f1 _ (by rw[decide_eq_false (clr_neg hm (by omega) (by decide))])
set_option maxRecDepth 100000
set_option linter.unusedVariables false
set_option linter.unusedSimpArgs false
variable {w0 w:World} {F:Nat→Prop} {l:List As}
variable {R:RT} {T:Tr} {gV nV hV:Value} {c:Int}
theorem heldL_len:∀(L:List RH) (k:Int),(heldL k L).length=(L.filter λh=>decide (0≤h.mode)).length
 |[],_=>rfl
 |h::r,k=>by
  unfold heldL
  by_cases hm:h.mode<0
  ·rw[if_pos hm,heldL_len r,List.filter_cons,if_neg (by simpa using hm)]
  ·rw[if_neg hm,List.length_cons,heldL_len r,List.filter_cons,if_pos (by simpa using hm),List.length_cons]
theorem heldL_get:∀(L:List RH) (k hd:Int),(getL (heldL k L) hd=none∧∀(i:Nat) r,hd=k+i→L[i]? =some r→r.mode<0)∨∃(i:Nat) (r:RH),hd=k+i∧L[i]? =some r∧0≤r.mode∧getL (heldL k L) hd=some ⟨r.file,r.mode,r.user⟩
 |[],k,hd=>.inl ⟨rfl,λi r _ h=>by simp at h⟩
 |h::r,k,hd=>by
  have lo:∀(L:List RH) (k hd:Int),hd<k→getL (heldL k L) hd=none:=by
   intro L
   induction L with
   |nil=>intro k hd _;rfl
   |cons x r ih=>
    intro k hd hlt
    unfold heldL
    split
    ·exact ih (k+1) hd (by omega)
    ·unfold getL
     rw[List.find?_cons_of_neg (by simp;omega)]
     exact ih (k+1) hd (by omega)
  by_cases he:hd=k
  ·subst he
   unfold heldL
   by_cases hm:h.mode<0
   ·rw[if_pos hm]
    refine .inl ⟨lo r _ _ (by omega),λi x hi hx=>?_⟩
    obtain rfl:i=0:=by omega
    obtain rfl:h=x:=by simpa using hx
    exact hm
   ·rw[if_neg hm]
    refine .inr ⟨0,h,by omega,rfl,by omega,?_⟩
    unfold getL
    rw[List.find?_cons_of_pos (by simp)]
    rfl
  ·have e:getL (heldL k (h::r)) hd=getL (heldL (k+1) r) hd:=by
    show getL (if h.mode<0 then heldL (k+1) r else(k,⟨h.file,h.mode,h.user⟩)::heldL (k+1) r) hd=_
    split
    ·rfl
    ·unfold getL
     rw[List.find?_cons_of_neg (by simpa using he)]
   rw[e]
   rcases heldL_get r (k+1) hd with⟨h1,h2⟩|⟨i,x,h1,h2,h3,h4⟩
   ·refine .inl ⟨h1,λi x hi hx=>?_⟩
    cases i with
    |zero=>exact absurd (by omega) he
    |succ i=>exact h2 i x (by omega) (by simpa using hx)
   ·exact .inr ⟨i+1,x,by omega,by simpa using h2,h3,h4⟩
theorem Rl.op(h:Rl R T)(hd:Int):(T.opened hd=none∧∀(i:Nat) r,hd=1+i→R.hs[i]? =some r→r.mode<0)∨∃(i:Nat) (r:RH),hd=1+i∧R.hs[i]? =some r∧0≤r.mode∧T.opened hd=some ⟨r.file,r.mode,r.user⟩:=by
 unfold Tr.opened
 rw[h.hs]
 exact heldL_get R.hs 1 hd
theorem rHeld_ok[iG:Scal gV][iN:Scal nV][iH:Scal hV](h:Rl R T){hd:Int}(hm:HP hV R∈l)(E:Hs w0 F w l):Ca PP Fn.r28_held #[rV gV nV hV c,i64 hd] w λr w'=>r=.bool (T.opened hd).isSome∧Hs w0 F w' l:=by
 refine S.r28_held.calls ?_
 unfold S.r28_held
 refine StpA.go E ?_
 clear E
 intro q w_ hq E
 (intro J3 hJ3)
 have fin:∀b w_,b=(T.opened hd).isSome→Hs w0 F w_ (pt q (oc [gV,nV,hV,i64 c] Ty.t0)::l)→J3 [.bool b] w_:=by
  intro b w_ hb E
  repeat with_reducible (apply hJ3;intro u_)
  exact⟨by rw[hb],E.tl⟩
 clear hJ3
 have hhl:=h.hl
 have out:(∀i:Nat,hd=1+i→i<R.hs.length→False)→(T.opened hd).isSome=false:=by
  intro h1
  rcases h.op hd with⟨h2,-⟩|⟨i,r,h2,h3,-⟩
  ·rw[h2];rfl
  ·exact(h1 i h2 (List.getElem?_eq_some_iff.1 h3).1).elim
 refine Bi.geq ?_ ?_<;>intro h0<;>(repeat with_reducible first|refine Stp.go ?_|refine StpE.go E ?_)
 ·refine LnL.rw rh_len E (List.mem_cons_of_mem _ hm) (by omega) ?_
  repeat with_reducible refine Stp.go ?_
  refine Bi.leq ?_ ?_<;>intro h1<;>(repeat with_reducible first|refine Stp.go ?_|refine StpE.go E ?_)
  ·refine Bi.sub (by omega) ?_
   repeat with_reducible refine Stp.go ?_
   refine IxA.rw rh_len E (List.mem_cons_of_mem _ hm) (by omega) (by omega) (by omega) ?_
   intro a ha
   repeat with_reducible refine Stp.go ?_
   refine Fa.el ha ?_
   intro a2 ha2
   repeat with_reducible refine Stp.go ?_
   have hn:R.hs[(hd-1).toNat]? =some (R.hs[(hd-1).toNat]'(by omega)):=List.getElem?_eq_getElem (by omega)
   generalize R.hs[(hd-1).toNat]'(by omega)=n at hn
   refine Ld.rw rh_len E (List.mem_cons_of_mem _ hm) ha2 hn (by omega) (y:=i64 n.mode) rfl ?_
   repeat with_reducible refine Stp.go ?_
   rcases h.op hd with⟨h2,h3⟩|⟨i,r,h2,h3,h4,h5⟩
   ·have:=h3 (hd-1).toNat n (by omega) hn
    refine Bi.geq (λh=>absurd h (by omega)) λ_=>?_
    repeat with_reducible refine Stp.go ?_
    exact fin _ _ (by rw[h2];rfl) E
   ·obtain rfl:i=(hd-1).toNat:=by omega
    rw[hn]at h3
    cases h3
    refine Bi.geq (λ_=>?_) λh=>absurd h (by omega)
    repeat with_reducible refine Stp.go ?_
    exact fin _ _ (by rw[h5];rfl) E
  ·exact fin _ _ (out λi e hi2=>by omega).symm E
 ·exact fin _ _ (out λi e hi2=>by omega).symm E
theorem rCount_ok[iG:Scal gV][iN:Scal nV][iH:Scal hV](h:Rl R T)(hm:HP hV R∈l)(E:Hs w0 F w l):Ca PP Fn.r28_Count #[rV gV nV hV c] w λr w'=>r=i64 T.hs.length∧Hs w0 F w' l:=by
 refine S.r28_Count.calls ?_
 unfold S.r28_Count
 refine StpA.go E ?_
 clear E
 intro q w_ hq E
 have hhl:=h.hl
 refine⟨λl1 w1=>∃i:Nat,l1=[i64 ((R.hs.take i).filter λh=>decide (0≤h.mode)).length,i64 i]∧i≤R.hs.length∧Hs w0 F w1 (pt q (oc [gV,nV,hV,i64 c] Ty.t0)::l),λl1 _=>match l1 with|[_,.int _ i]=>R.hs.length-i.toNat|_=>0,⟨0,rfl,Nat.zero_le _,E⟩,?_⟩
 clear E
 rintro t3 t4 u w_ ⟨i,h1,hi,E⟩
 cases h1
 have hfl:((R.hs.take i).filter λh=>decide (0≤h.mode)).length≤i:=Nat.le_trans (List.length_filter_le _ _) (by rw[List.length_take];omega)
 repeat with_reducible first|refine Stp.go ?_|refine StpE.go E ?_
 refine LnL.rw rh_len E (List.mem_cons_of_mem _ hm) (by omega) ?_
 refine Bi.lss ?_ ?_<;>intro hlt<;>(repeat with_reducible refine Stp.go ?_)
 ·have hn:R.hs[i]? =some (R.hs[i]'(by omega)):=List.getElem?_eq_getElem (by omega)
  generalize R.hs[i]'(by omega)=n at hn
  have tk:((R.hs.take (i+1)).filter λh=>decide (0≤h.mode)).length=((R.hs.take i).filter λh=>decide (0≤h.mode)).length+(if 0≤n.mode then 1 else 0):=by
   rw[List.take_add_one,hn,List.filter_append,List.length_append]
   congr 1
   by_cases h0:0≤n.mode<;>simp[h0]
  (intro J13 hJ13)
  have fin:∀k w_,k=(((R.hs.take (i+1)).filter λh=>decide (0≤h.mode)).length:Int)→Hs w0 F w_ (pt q (oc [gV,nV,hV,i64 c] Ty.t0)::l)→J13 [i64 k] w_:=by
   intro k w_ hk E
   repeat with_reducible (apply hJ13;intro u_)
   refine Bi.add (by omega) ?_
   exact⟨⟨i+1,by rw[hk];simp,by omega,E⟩,by simp only[];omega⟩
  clear hJ13
  repeat with_reducible first|refine Stp.go ?_|refine StpE.go E ?_
  refine IxA.rw rh_len E (List.mem_cons_of_mem _ hm) (by omega) (by omega) (by omega) ?_
  rw[Int.toNat_natCast]
  intro a ha
  skip
  refine Fa.el ha ?_
  intro a2 ha2
  skip
  refine Ld.rw rh_len E (List.mem_cons_of_mem _ hm) ha2 hn (by omega) (y:=i64 n.mode) rfl ?_
  refine Bi.geq ?_ ?_<;>intro h0<;>(repeat with_reducible refine Stp.go ?_)
  ·refine Bi.add (by omega) ?_
   exact fin _ _ (by rw[tk,if_pos h0];omega) E
  ·exact fin _ _ (by rw[tk,if_neg (by omega)];omega) E
 ·rw[show R.hs.take i=R.hs from List.take_of_length_le (by omega)]
  exact⟨by rw[h.hs,heldL_len],E.tl⟩
theorem rExist_ok[iG:Scal gV][iN:Scal nV][iH:Scal hV](h:Rl R T)(hN:R.ns.length≤1000000000)(hm:NP nV R∈l)(E:Hs w0 F w l):Ca PP Fn.r28_Exist #[rV gV nV hV c] w λr w'=>r=i64 T.ns.length∧Hs w0 F w' l:=by
 refine S.r28_Exist.calls ?_
 unfold S.r28_Exist
 refine StpA.go E ?_
 clear E
 intro q w_ hq E
 refine⟨λl1 w1=>∃i:Nat,l1=[i64 ((R.ns.take i).filter λn=>!n.gone).length,i64 i]∧i≤R.ns.length∧Hs w0 F w1 (pt q (oc [gV,nV,hV,i64 c] Ty.t0)::l),λl1 _=>match l1 with|[_,.int _ i]=>R.ns.length-i.toNat|_=>0,⟨0,rfl,Nat.zero_le _,E⟩,?_⟩
 clear E
 rintro t3 t4 u w_ ⟨i,h1,hi,E⟩
 cases h1
 have hfl:((R.ns.take i).filter λn=>!n.gone).length≤i:=Nat.le_trans (List.length_filter_le _ _) (by rw[List.length_take];omega)
 repeat with_reducible first|refine Stp.go ?_|refine StpE.go E ?_
 refine LnL.rw rn_len E (List.mem_cons_of_mem _ hm) (by omega) ?_
 refine Bi.lss ?_ ?_<;>intro hlt<;>(repeat with_reducible refine Stp.go ?_)
 ·have hn:R.ns[i]? =some (R.ns[i]'(by omega)):=List.getElem?_eq_getElem (by omega)
  generalize R.ns[i]'(by omega)=n at hn
  have tk:((R.ns.take (i+1)).filter λn=>!n.gone).length=((R.ns.take i).filter λn=>!n.gone).length+(if n.gone then 0 else 1):=by
   rw[List.take_add_one,hn,List.filter_append,List.length_append]
   congr 1
   cases hg:n.gone<;>simp[hg]
  (intro J13 hJ13)
  have fin:∀k w_,k=(((R.ns.take (i+1)).filter λn=>!n.gone).length:Int)→Hs w0 F w_ (pt q (oc [gV,nV,hV,i64 c] Ty.t0)::l)→J13 [i64 k] w_:=by
   intro k w_ hk E
   repeat with_reducible (apply hJ13;intro u_)
   refine Bi.add (by omega) ?_
   exact⟨⟨i+1,by rw[hk];simp,by omega,E⟩,by simp only[];omega⟩
  clear hJ13
  repeat with_reducible first|refine Stp.go ?_|refine StpE.go E ?_
  refine IxA.rw rn_len E (List.mem_cons_of_mem _ hm) (by omega) (by omega) (by omega) ?_
  rw[Int.toNat_natCast]
  intro a ha
  skip
  refine Fa.el ha ?_
  intro a2 ha2
  skip
  refine Ld.rw rn_len E (List.mem_cons_of_mem _ hm) ha2 hn (by omega) (y:=.bool n.gone) rfl ?_
  skip
  refine Un.not ?_
  cases hg:n.gone with
  |false=>
   simp only[Bool.not_false]
   repeat with_reducible refine Stp.go ?_
   refine Bi.add (by omega) ?_
   exact fin _ _ (by rw[tk,hg];simp) E
  |true=>
   simp only[Bool.not_true]
   repeat with_reducible refine Stp.go ?_
   exact fin _ _ (by rw[tk,hg];simp) E
 ·rw[show R.ns.take i=R.ns from List.take_of_length_le (by omega)]
  exact⟨by rw[h.ns,List.length_map],E.tl⟩
set_option maxRecDepth 100000
set_option linter.unusedVariables false
set_option linter.unusedSimpArgs false
variable {w0 w:World} {F:Nat→Prop} {l:List As}
variable {R:RT} {T:Tr} {gV nV hV:Value} {c:Int}
theorem BdS.nul{P:Program}{t e:TypeId}{sz:Nat}{k:Value→World→Prop}(E:Hs w0 F w l)(h1:P.underlying t=some (.slice e))(h2:sizeK P e=some sz)
  (hk:∀v w',Hs w0 F w' (slA v e sz []::l)→k v w'):Ef P (Instr.buildSlice t 0 #[]) w k:=by
 refine⟨.slice (some ⟨w.heap.size,0,none⟩) 0 0,w.alloc (.cells #[] e),?_,hk _ _ (E.add (Upd.alloc w _) ⟨.inr ⟨w.heap.size,0,0,0,[],[],(0,0),rfl,?_,rfl,by simp,by simp,Nat.le_refl _,Free.zero _⟩⟩ λb hb=>?_)⟩
 ·have hr:Array.range 0=#[]:=rfl
  simp[Instr.buildSlice,run_underlying h1,run_sizeK h2,Instr.fill,newRow,run_newObj',hr]
 ·rw[heap_alloc_new];simp[ocf]
 ·have hb:some w.heap.size=some b:=hb
  cases hb;exact Nat.le_refl _
theorem u_sl_Node:PP.underlying Ty.t61=some (.slice Ty.r28_Node):=by kernel_rfl
theorem u_sl_Handle:PP.underlying Ty.t86=some (.slice Ty.t22):=by kernel_rfl
theorem s_Node:sizeK PP Ty.r28_Node=some 13:=by kernel_rfl
theorem s_Handle:sizeK PP Ty.t22=some 3:=by kernel_rfl
abbrev rn0V:Value:=.agg #[i64 0,i64 0,i64 0,i64 0,i64 0,i64 0,str ⟨#[]⟩,str ⟨#[]⟩,str ⟨#[]⟩,str ⟨#[]⟩,str ⟨#[]⟩,i64 0,.bool false]
abbrev rh0V:Value:=.agg #[i64 0,i64 0,str ⟨#[]⟩]
theorem e_Node:el3 PP Ty.r28_Node=some (some rn0V,13,144):=by kernel_rfl
theorem e_Handle:el3 PP Ty.t22=some (some rh0V,3,32):=by kernel_rfl
theorem rns_scal(L:List RN):(L.flatMap RN.cs).all scalV=true:=by
 rw[List.all_flatMap];simp[RN.cs,scalV]
theorem rhs_scal(L:List RH):(L.flatMap RH.cs).all scalV=true:=by
 rw[List.all_flatMap];simp[RH.cs,scalV]
theorem Hs.scN(E:Hs w0 F w (NP nV R::l)):Scal nV:=⟨Hs.slScal E (T:=Ty.r28_Node) (sz:=13) (xs:=R.ns.flatMap RN.cs) List.mem_cons_self⟩
theorem Hs.scH(E:Hs w0 F w (HP hV R::l)):Scal hV:=⟨Hs.slScal E (T:=Ty.t22) (sz:=3) (xs:=R.hs.flatMap RH.cs) List.mem_cons_self⟩
theorem rCopied_ok[iG:Scal gV][iN:Scal nV][iH:Scal hV](hN:R.ns.length≤1000000000)(hH:R.hs.length≤1000000000)(mN:NP nV R∈l)(mH:HP hV R∈l)(E:Hs w0 F w l):
  Ca PP Fn.f65 #[rV gV nV hV c] w λr w'=>∃n2 h2,r=rV gV n2 h2 c∧Scal n2∧Scal h2∧Hs w0 F w' (NP n2 R::HP h2 R::l):=by
 refine S.f65.calls ?_
 unfold S.f65
 refine StpA.go E ?_
 clear E
 intro q w_ hq E
 repeat with_reducible (refine StpA.go E ?_;clear E;intro b_ w_ hb_ E)
 (revert b_;intro q2 hbq2 E)
 refine BdS.nul E u_sl_Node s_Node ?_
 clear E
 intro v1 w_ E
 repeat with_reducible first|refine Stp.go ?_|refine StpE.go E ?_
 refine Ap.el E (i:=0) rfl u_sl_Node ⟨_,u_sl_Node,λ_ h=>by cases h⟩ e_Node (by omega) (Src.slice (show SliceAt nV Ty.r28_Node 13 (R.ns.flatMap RN.cs) w_ from E.sat _ (List.mem_cons_of_mem _ (List.mem_cons_of_mem _ (List.mem_cons_of_mem _ mN)))) (rw_len rn_len _) (by omega) (rns_scal _)) rfl (by simp;omega) (by simp;omega) ?_
 clear E
 intro n2 w_ E
 (try simp only[List.set_cons_zero,List.set_cons_succ,List.cons_append,List.nil_append,Nat.zero_add,Nat.add_zero]at E)
 have i2:Scal n2:=Hs.scN E
 repeat with_reducible first|refine Stp.go ?_|(refine StpW.go E ?_;clear E;intro w_ E)
 refine BdS.nul E u_sl_Handle s_Handle ?_
 clear E
 intro v1 w_ E
 repeat with_reducible first|refine Stp.go ?_|refine StpE.go E ?_
 refine Ap.el E (i:=0) rfl u_sl_Handle ⟨_,u_sl_Handle,λ_ h=>by cases h⟩ e_Handle (by omega) (Src.slice (show SliceAt hV Ty.t22 3 (R.hs.flatMap RH.cs) w_ from E.sat _ (List.mem_cons_of_mem _ (List.mem_cons_of_mem _ (List.mem_cons_of_mem _ (List.mem_cons_of_mem _ mH))))) (rw_len rh_len _) (by omega) (rhs_scal _)) rfl (by simp;omega) (by simp;omega) ?_
 clear E
 intro h2 w_ E
 (try simp only[List.set_cons_zero,List.set_cons_succ,List.cons_append,List.nil_append,Nat.zero_add,Nat.add_zero]at E)
 have i3:Scal h2:=Hs.scH E
 repeat with_reducible first|refine Stp.go ?_|refine StpE.go E ?_|(refine StpW.go E ?_;clear E;intro w_ E)
 refine⟨n2,h2,rfl,i2,i3,?_⟩
 (replace E:=((((E.bSl h2).bSl n2).bPt q2).bPt q))
 exact E.tl.tl
theorem rTick_ok[iG:Scal gV][iN:Scal nV][iH:Scal hV](hc:rngI (c+1))(E:Hs w0 F w l):
  Ca PP Fn.r28_tick #[rV gV nV hV c] w λr w'=>r=rV gV nV hV (c+1)∧Hs w0 F w' l:=by
 refine S.r28_tick.calls ?_
 unfold S.r28_tick
 refine StpA.go E ?_
 clear E
 intro q w_ hq E
 repeat with_reducible first|refine Stp.go ?_|refine StpE.go E ?_|(refine StpA.go E ?_;clear E;intro b_ w_ hb_ E)
 refine Bi.add hc ?_
 repeat with_reducible first|refine Stp.go ?_|refine StpE.go E ?_|(refine StpW.go E ?_;clear E;intro w_ E)
 exact⟨rfl,E.tl.tl⟩
def RN.tch(n:RN)(c:Int)(u:BA):RN:={n with dir:={n.dir with vers:=n.dir.vers+1,time:=c,last:=u}}
abbrev RT.set(R:RT)(i:Nat)(n:RN):RT:={R with ns:=R.ns.set i n}
theorem rTouch_ok[iG:Scal gV][iN:Scal nV][iH:Scal hV]{i:Nat}{n:RN}{user:BA}(hn:R.ns[i]? =some n)(hv:rngI (n.dir.vers+1))(E:Hs w0 F w (NP nV R::l)):
  Ca PP Fn.f47 #[rV gV nV hV c,i64 i,str user] w λr w'=>r=rV gV nV hV c∧Hs w0 F w' (NP nV (R.set i (n.tch c user))::l):=by
 refine S.f47.calls ?_
 unfold S.f47
 refine StpA.go E ?_
 clear E
 intro q w_ hq E
 have hlt:=(List.getElem?_eq_some_iff.1 hn).1
 repeat with_reducible first|refine Stp.go ?_|refine StpE.go E ?_|(refine StpA.go E ?_;clear E;intro b_ w_ hb_ E)
 (revert b_;intro q2 hbq2 E)
 refine IxA.rw rn_len E (List.mem_of_getElem? (i:=2) rfl) (by omega) (by omega) (by omega) ?_
 rw[Int.toNat_natCast]
 intro a ha
 skip
 refine Fa.el ha ?_
 intro a2 ha2
 skip
 refine LdA.rw rn_len E (List.mem_of_getElem? (i:=2) rfl) ha2 hn (by omega) (ds:=n.dir.cs) rfl rfl ?_
 repeat with_reducible first|refine Stp.go ?_|refine StpE.go E ?_|(refine StpW.go E ?_;clear E;intro w_ E)|(refine StpA.go E ?_;clear E;intro b_ w_ hb_ E)
 (revert b_;intro d hbd E)
 skip
 refine Bi.add hv ?_
 repeat with_reducible first|refine Stp.go ?_|refine StpE.go E ?_|(refine StpW.go E ?_;clear E;intro w_ E)
 refine IxA.rw rn_len E (List.mem_of_getElem? (i:=3) rfl) (by omega) (by omega) (by omega) ?_
 rw[Int.toNat_natCast]
 intro a ha
 skip
 refine Fa.el ha ?_
 intro a2 ha2
 skip
 refine StA.rw (j:=3) (c:=0) (n:=10) rn_len E rfl ha2 hn rfl (by omega) rfl (y:=n.tch c user) rfl ?_
 clear E
 intro w_ E
 (try simp only[List.set_cons_zero,List.set_cons_succ,List.cons_append,List.nil_append,Nat.zero_add,Nat.add_zero]at E)
 repeat with_reducible first|refine StpE.go E ?_|(refine StpW.go E ?_;clear E;intro w_ E)
 refine⟨rfl,?_⟩
 exact E.tl.tl.tl
set_option maxRecDepth 100000
set_option linter.unusedVariables false
set_option linter.unusedSimpArgs false
variable {w0 w:World} {F:Nat→Prop} {l:List As}
variable {R:RT} {T:Tr} {gV nV hV:Value} {c:Int}
def holdR:List RH→RH→Nat×List RH
 |[],h=>(0,[h])
 |x::r,h=>if x.mode<0 then(0,h::r)else((holdR r h).1+1,x::(holdR r h).2)
theorem holdR_at:∀{L:List RH} {i:Nat} {h y:RH},(∀(j:Nat) x,j<i→L[j]? =some x→0≤x.mode)→L[i]? =some y→y.mode<0→holdR L h=(i,L.set i h)
 |[],i,h,y,_,h2,_=>by simp at h2
 |x::r,0,h,y,_,h2,h3=>by
  obtain rfl:x=y:=by simpa using h2
  unfold holdR;rw[if_pos h3];rfl
 |x::r,i+1,h,y,h1,h2,h3=>by
  have h0:0≤x.mode:=h1 0 x (by omega) rfl
  unfold holdR
  rw[if_neg (by omega),holdR_at (L:=r) (i:=i) (h:=h) (y:=y) (λj z hj hz=>h1 (j+1) z (by omega) hz) (by simpa using h2) h3]
  rfl
theorem holdR_end:∀{L:List RH} {h:RH},(∀x∈L,0≤x.mode)→holdR L h=(L.length,L++[h])
 |[],_,_=>rfl
 |x::r,h,h1=>by
  have h0:=h1 x List.mem_cons_self
  unfold holdR
  rw[if_neg (by omega),holdR_end (L:=r) (h:=h) λz hz=>h1 z (List.mem_cons_of_mem _ hz)]
  rfl
theorem z_rHandle:zeroK PP Ty.t22=some rh0V:=by kernel_rfl
theorem BdS.hd{h:RH}{k:Value→World→Prop}(E:Hs w0 F w l)(hk:∀v w',Hs w0 F w' (slA v Ty.t22 3 h.cs::l)→k v w'):Ef PP (Instr.buildSlice Ty.t86 1 #[(0,.agg h.cs.toArray)]) w k:=
 BdS.sl E u_sl_Handle s_Handle z_rHandle (by omega) (by omega) (xs:=h.cs) (by kernel_rfl) rfl hk
theorem rHold_ok[iG:Scal gV][iN:Scal nV][iH:Scal hV]{h:RH}(hH:R.hs.length≤1000000)(E:Hs w0 F w (HP hV R::l)):
  Ca PP Fn.r28_hold #[rV gV nV hV c,.agg h.cs.toArray] w λr w'=>∃h2,r=.tuple #[rV gV nV h2 c,i64 ((holdR R.hs h).1+1:Nat)]∧Scal h2∧Hs w0 F w' (HP h2 {R with hs:=(holdR R.hs h).2}::l):=by
 refine S.r28_hold.calls ?_
 unfold S.r28_hold
 refine StpA.go E ?_
 clear E
 intro q w_ hq E
 repeat with_reducible (refine StpA.go E ?_;clear E;intro b_ w_ hb_ E)
 (revert b_;intro q2 hbq2 E)
 (revert b_;intro q1 hbq1 E)
 refine⟨λl1 w1=>∃i:Nat,l1=[i64 i]∧i≤R.hs.length∧(∀(j:Nat) x,j<i→R.hs[j]? =some x→0≤x.mode)∧Hs w0 F w1 (pt q2 (oc [.slice none 0 0,.slice none 0 0,.slice none 0 0,i64 0] Ty.t0)::pt q1 (oc h.cs Ty.t22)::pt q (oc [gV,nV,hV,i64 c] Ty.t0)::HP hV R::l),λl1 _=>match l1 with|[.int _ i]=>R.hs.length-i.toNat|_=>0,⟨0,rfl,Nat.zero_le _,(λj x hj=>by omega),E⟩,?_⟩
 clear E
 rintro t6 u w_ ⟨i,h1,hi,hno,E⟩
 cases h1
 repeat with_reducible first|refine Stp.go ?_|refine StpE.go E ?_
 refine LnL.rw rh_len E (List.mem_of_getElem? (i:=3) rfl) (by omega) ?_
 refine Bi.lss ?_ ?_<;>intro hlt<;>(repeat with_reducible first|refine Stp.go ?_|refine StpE.go E ?_)
 ·have hn:R.hs[i]? =some (R.hs[i]'(by omega)):=List.getElem?_eq_getElem (by omega)
  generalize R.hs[i]'(by omega)=n at hn
  refine IxA.rw rh_len E (List.mem_of_getElem? (i:=3) rfl) (by omega) (by omega) (by omega) ?_
  rw[Int.toNat_natCast]
  intro a ha
  skip
  refine Fa.el ha ?_
  intro a2 ha2
  skip
  refine Ld.rw rh_len E (List.mem_of_getElem? (i:=3) rfl) ha2 hn (by omega) (y:=i64 n.mode) rfl ?_
  refine Bi.lss ?_ ?_<;>intro h0<;>(repeat with_reducible first|refine Stp.go ?_|refine StpE.go E ?_)
  ·refine IxA.rw rh_len E (List.mem_of_getElem? (i:=3) rfl) (by omega) (by omega) (by omega) ?_
   rw[Int.toNat_natCast]
   intro a ha
   skip
   refine StA.rw (j:=3) (c:=0) (n:=3) rh_len E rfl ha hn rfl (by omega) rfl (y:=h) rfl ?_
   clear E
   intro w_ E
   (try simp only[List.set_cons_zero,List.set_cons_succ,List.cons_append,List.nil_append,Nat.zero_add,Nat.add_zero]at E)
   repeat with_reducible refine StpE.go E ?_
   refine Bi.add (by omega) ?_
   repeat with_reducible first|refine StpE.go E ?_|(refine StpW.go E ?_;clear E;intro w_ E)
   rw[holdR_at hno hn h0]
   exact⟨hV,rfl,iH,E.tl.tl.tl⟩
  ·refine Bi.add (by omega) ?_
   refine⟨⟨i+1,by simp,by omega,λj x hj hx=>?_,E⟩,by simp only[];omega⟩
   by_cases hji:j=i
   ·subst hji
    rw[hn]at hx
    cases hx
    exact h0
   ·exact hno j x (by omega) hx
 ·refine BdS.hd (h:=h) E ?_
  clear E
  intro v1 w_ E
  skip
  refine Ap.el E (i:=4) rfl u_sl_Handle ⟨_,u_sl_Handle,λ_ h=>by cases h⟩ e_Handle (by omega) (Src.slice (show SliceAt v1 Ty.t22 3 h.cs w_ from E.sat _ List.mem_cons_self) rfl (by omega) rfl) rfl (by rw[rw_len rh_len];omega) (by rw[rw_len rh_len];omega) ?_
  clear E
  intro h2 w_ E
  (try simp only[List.set_cons_zero,List.set_cons_succ,List.cons_append,List.nil_append,Nat.zero_add,Nat.add_zero]at E)
  have e:R.hs.flatMap RH.cs++h.cs=(R.hs++[h]).flatMap RH.cs:=by simp
  rw[e]at E
  have hall:∀x∈R.hs,0≤x.mode:=λx hx=>by
   obtain⟨j,hj⟩:=List.getElem?_of_mem hx
   exact hno j x (by have:=(List.getElem?_eq_some_iff.1 hj).1;omega) hj
  have i3:Scal h2:=⟨Hs.slScal E (T:=Ty.t22) (sz:=3) (xs:=(R.hs++[h]).flatMap RH.cs) (List.mem_of_getElem? (i:=4) rfl)⟩
  repeat with_reducible first|refine Stp.go ?_|refine StpE.go E ?_|(refine StpW.go E ?_;clear E;intro w_ E)
  refine LnL.rw rh_len E (List.mem_of_getElem? (i:=4) rfl) (by omega) ?_
  repeat with_reducible (refine StpW.go E ?_;clear E;intro w_ E)
  refine⟨by (repeat with_reducible refine StpE.go E ?_);rfl,?_⟩
  repeat with_reducible refine StpE.go E ?_
  rw[holdR_end hall]
  exact⟨h2,by rw[List.length_append];rfl,i3,E.tl.tl.tl.tl⟩
theorem bts_inj{s t:BA}(h:bts s=bts t):s=t:=by
 have h1:s.data.toList=t.data.toList:=by
  have key:∀(a b:List UInt8),a.map (λb=>Value.int .u8 (b.toNat:Int))=b.map (λb=>Value.int .u8 (b.toNat:Int))→a=b:=by
   intro a
   induction a with
   |nil=>intro b hb;cases b with
    |nil=>rfl
    |cons _ _=>simp at hb
   |cons x r ih=>intro b hb;cases b with
    |nil=>simp at hb
    |cons y t=>
     simp only[List.map_cons,List.cons.injEq,Value.int.injEq,true_and]at hb
     have:x.toNat=y.toNat:=by omega
     rw[ih t hb.2,UInt8.toNat_inj.1 this]
  exact key _ _ h
 cases s with|mk a=>cases t with|mk b=>exact congrArg ByteArray.mk (Array.toList_inj.1 h1)
theorem bts_extr(s:BA)(i j:Nat):bts (s.extract i j)=((bts s).take j).drop i:=by
 unfold bts
 rw[Lib.extract_data]
 simp[List.drop_take,List.map_drop,List.map_take]
theorem rSized_ok{s:BA}{n:Nat}(hs:s.size≤4000000)(hn:n≤4000000)(E:Hs w0 F w l):Ca PP Fn.r28_sized #[str s,i64 n] w λr w'=>r=str (sized s n)∧Hs w0 F w' l:=by
 refine S.r28_sized.calls ?_
 unfold S.r28_sized
 repeat with_reducible refine Stp.go ?_
 refine Bi.leq ?_ ?_<;>intro h1<;>(repeat with_reducible refine Stp.go ?_)
 ·refine SlS.pre (by omega) (by omega) ?_
  refine⟨?_,E⟩
  congr 1
  apply bts_inj
  rw[bts_extr,bts_sized,Int.toNat_natCast,show n-s.size=0 by omega]
  simp
 ·refine Bi.sub (by omega) ?_
  skip
  rw[show(n:Int)-(s.size:Int)=((n-s.size:Nat):Int) by omega]
  refine MkS.pt E u_sl_uint8 e_uint8 rfl (by omega) (by omega) ?_
  clear E
  intro b w_ hb E
  replace E:=Hs.ptSl (n:=n-s.size) (by simp) E
  have hz:List.replicate (n-s.size) (Value.int .u8 0)=bts ⟨(List.replicate (n-s.size) (0:UInt8)).toArray⟩:=by simp[bts]
  rw[hz]at E
  refine CvB.sl E (s:=⟨(List.replicate (n-s.size) (0:UInt8)).toArray⟩) List.mem_cons_self u_sl_uint8 u_string u_uint8 ?_
  skip
  have hsz:(⟨(List.replicate (n-s.size) (0:UInt8)).toArray⟩:BA).size=n-s.size:=by show(List.replicate (n-s.size) (0:UInt8)).toArray.size=_;rw[List.size_toArray,List.length_replicate]
  refine Bi.sadd (by rw[hsz];omega) ?_
  refine⟨?_,E.tl⟩
  congr 1
  apply bts_inj
  rw[← bts_app,← hz,bts_sized,List.take_of_length_le (by rw[bts_len];omega)]
theorem s_int4:zeroK PP Ty.int=some (i64 0):=by kernel_rfl
theorem rNeeds_ok{m:Int}(E:Hs w0 F w l):Ca PP Fn.r28_Needs #[i64 m] w λr w'=>r=i64 (needs m)∧Hs w0 F w' l:=by
 refine S.r28_Needs.calls ?_
 unfold S.r28_Needs
 refine BdS.sl E u_sl_int si_int s_int4 (by omega) (by omega) (xs:=[i64 4,i64 2,i64 6,i64 1]) (by kernel_rfl) rfl ?_
 clear E
 intro v1 w_ E
 repeat with_reducible refine Stp.go ?_
 have hm3:=and3 m
 refine IxA.sl E List.mem_cons_self (by omega) (show 0≤andI m 3 by omega) (show(andI m 3).toNat<4 / 1 by omega) ?_
 intro a ha
 have hx:([i64 4,i64 2,i64 6,i64 1]:List Value)[(andI m 3).toNat*1]? =some (i64 (if andI m 3=0 then 4 else if andI m 3=1 then 2 else if andI m 3=2 then 6 else 1)):=by
  rcases hm3 with h|h|h|h<;>simp[h]
 refine Ld.sl E List.mem_cons_self ha hx ?_
 (intro J6 hJ6)
 have fin:∀k,k=needs m→J6 [i64 k] w_:=by
  intro k hk
  repeat with_reducible (apply hJ6;intro u_)
  exact⟨by rw[hk],E.tl⟩
 clear hJ6
 repeat with_reducible refine Stp.go ?_
 refine Bi.neq ?_ ?_<;>intro h1<;>(repeat with_reducible refine Stp.go ?_)
 ·exact fin _ (by unfold needs;simp only[];rw[if_neg h1])
 ·exact fin _ (by unfold needs;simp only[];rw[if_pos h1])
def RN.dead(n:RN):RN:={n with gone:=true}
theorem rDrop_ok[iG:Scal gV][iN:Scal nV][iH:Scal hV]{i:Nat}{n u:RN}{user:BA}{k:Nat}(hn:R.ns[i]? =some n)(hp:n.par=k)(hu:R.ns[k]? =some u)(hki:k≠i)(hc:rngI (c+1))(hv:rngI (u.dir.vers+1))(E:Hs w0 F w (NP nV R::l)):
  Ca PP Fn.r28_drop #[rV gV nV hV c,i64 i,str user] w λr w'=>r=rV gV nV hV (c+1)∧Hs w0 F w' (NP nV ((R.set k (u.tch (c+1) user)).set i n.dead)::l):=by
 refine S.r28_drop.calls ?_
 unfold S.r28_drop
 refine StpA.go E ?_
 clear E
 intro q w_ hq E
 have hlt:=(List.getElem?_eq_some_iff.1 hn).1
 repeat with_reducible first|refine Stp.go ?_|refine StpE.go E ?_|(refine StpW.go E ?_;clear E;intro w_ E)|(refine StpA.go E ?_;clear E;intro b_ w_ hb_ E)
 (revert b_;intro q2 hbq2 E)
 refine IxA.rw rn_len E (List.mem_of_getElem? (i:=2) rfl) (by omega) (by omega) (by omega) ?_
 rw[Int.toNat_natCast]
 intro a ha
 skip
 refine Fa.el ha ?_
 intro a2 ha2
 skip
 refine Ld.rw rn_len E (List.mem_of_getElem? (i:=2) rfl) ha2 hn (by omega) (y:=i64 n.par) rfl ?_
 skip
 rw[hp]
 have hn':(R.set k (u.tch (c+1) user)).ns[i]? =some n:=by rw[← hn];exact List.getElem?_set_ne hki
 have hlt':i<(R.set k (u.tch (c+1) user)).ns.length:=(List.getElem?_eq_some_iff.1 hn').1
 refine⟨?_,?_,trivial⟩
 ·refine(rTick_ok hc E).mono ?_
  clear E
  rintro r w_ ⟨rfl,E⟩
  refine⟨by (repeat with_reducible refine StpE.go E ?_);rfl,Ld.rw rn_len E (List.mem_of_getElem? (i:=2) rfl) ha2 hn (by omega) (y:=i64 n.par) rfl (by rw[hp]),?_,?_,trivial⟩
  ·(replace E:=(((E.bIx 1).bIx 1).bIx 2))
   refine(rTouch_ok hu hv E).mono ?_
   clear E
   rintro r w_ ⟨rfl,E⟩
   (replace E:=(((E.bIx 0).bIx 2).bIx 2))
   repeat with_reducible (refine StpA.go E ?_;clear E;intro b_ w_ hb_ E)
   (revert b_;intro q3 hbq3 E)
   refine⟨by (repeat with_reducible refine StpE.go E ?_);rfl,by (repeat with_reducible refine StpE.go E ?_);rfl,Ld.rw rn_len E (List.mem_of_getElem? (i:=3) rfl) ha2 hn' (by omega) (y:=i64 n.par) rfl (by rw[hp]),?_⟩
   repeat with_reducible first|refine Stp.go ?_|refine StpE.go E ?_|(refine StpW.go E ?_;clear E;intro w_ E)
   refine IxA.rw rn_len E (List.mem_of_getElem? (i:=3) rfl) (by omega) (by omega) (by omega) ?_
   rw[Int.toNat_natCast]
   intro a ha
   skip
   refine Fa.el ha ?_
   intro a2 ha2
   skip
   refine St.rw (j:=3) rn_len E rfl ha2 hn' (by omega) rfl (y:=n.dead) rfl ?_
   clear E
   intro w_ E
   (try simp only[List.set_cons_zero,List.set_cons_succ,List.cons_append,List.nil_append,Nat.zero_add,Nat.add_zero]at E)
   repeat with_reducible first|refine StpE.go E ?_|(refine StpW.go E ?_;clear E;intro w_ E)
   exact⟨rfl,E.tl.tl.tl⟩
  ·(repeat with_reducible (refine StpA.go E ?_;clear E;intro b_ w_ hb_ E))
   (revert b_;intro q3 hbq3 E)
   refine⟨by (repeat with_reducible refine StpE.go E ?_);rfl,by (repeat with_reducible refine StpE.go E ?_);rfl,Ld.rw rn_len E (List.mem_of_getElem? (i:=3) rfl) ha2 hn (by omega) (y:=i64 n.par) rfl (by rw[hp]),?_⟩
   (replace E:=((((E.bIx 2).bIx 2).bIx 2).bIx 3))
   refine(rTouch_ok hu hv E).mono ?_
   clear E
   rintro r w_ ⟨rfl,E⟩
   (replace E:=((((E.bIx 0).bIx 3).bIx 3).bIx 3))
   repeat with_reducible first|refine Stp.go ?_|refine StpE.go E ?_|(refine StpW.go E ?_;clear E;intro w_ E)
   refine IxA.rw rn_len E (List.mem_of_getElem? (i:=3) rfl) (by omega) (by omega) (by omega) ?_
   rw[Int.toNat_natCast]
   intro a ha
   skip
   refine Fa.el ha ?_
   intro a2 ha2
   skip
   refine St.rw (j:=3) rn_len E rfl ha2 hn' (by omega) rfl (y:=n.dead) rfl ?_
   clear E
   intro w_ E
   (try simp only[List.set_cons_zero,List.set_cons_succ,List.cons_append,List.nil_append,Nat.zero_add,Nat.add_zero]at E)
   repeat with_reducible first|refine StpE.go E ?_|(refine StpW.go E ?_;clear E;intro w_ E)
   exact⟨rfl,E.tl.tl.tl⟩
 ·(repeat with_reducible (refine StpA.go E ?_;clear E;intro b_ w_ hb_ E))
  (revert b_;intro q3 hbq3 E)
  refine⟨by (repeat with_reducible refine StpE.go E ?_);rfl,by (repeat with_reducible refine StpE.go E ?_);rfl,Ld.rw rn_len E (List.mem_of_getElem? (i:=3) rfl) ha2 hn (by omega) (y:=i64 n.par) rfl (by rw[hp]),?_⟩
  refine(rTick_ok hc E).mono ?_
  clear E
  rintro r w_ ⟨rfl,E⟩
  refine⟨by (repeat with_reducible refine StpE.go E ?_);rfl,Ld.rw rn_len E (List.mem_of_getElem? (i:=3) rfl) ha2 hn (by omega) (y:=i64 n.par) rfl (by rw[hp]),?_⟩
  (replace E:=((((E.bIx 2).bIx 2).bIx 2).bIx 3))
  refine(rTouch_ok hu hv E).mono ?_
  clear E
  rintro r w_ ⟨rfl,E⟩
  (replace E:=((((E.bIx 0).bIx 3).bIx 3).bIx 3))
  repeat with_reducible first|refine Stp.go ?_|refine StpE.go E ?_|(refine StpW.go E ?_;clear E;intro w_ E)
  refine IxA.rw rn_len E (List.mem_of_getElem? (i:=3) rfl) (by omega) (by omega) (by omega) ?_
  rw[Int.toNat_natCast]
  intro a ha
  skip
  refine Fa.el ha ?_
  intro a2 ha2
  skip
  refine St.rw (j:=3) rn_len E rfl ha2 hn' (by omega) rfl (y:=n.dead) rfl ?_
  clear E
  intro w_ E
  (try simp only[List.set_cons_zero,List.set_cons_succ,List.cons_append,List.nil_append,Nat.zero_add,Nat.add_zero]at E)
  repeat with_reducible first|refine StpE.go E ?_|(refine StpW.go E ?_;clear E;intro w_ E)
  exact⟨rfl,E.tl.tl.tl⟩
set_option maxRecDepth 100000
set_option linter.unusedVariables false
set_option linter.unusedSimpArgs false
variable {R:RT} {T:Tr}
theorem Rl.inj(h:Rl R T){i:Nat}{n x:RN}(hn:R.ns[i]? =some n)(hx:x∈R.ns)(hp:x.dir.path=i):x=n:=by
 obtain⟨j,hj⟩:=List.getElem?_of_mem hx
 have:=h.idx j x hj
 have:j=i:=by omega
 rw[this,hn]at hj
 cases hj;rfl
theorem Rl.setMap(h:Rl R T){i:Nat}{n n':RN}(hn:R.ns[i]? =some n):R.ns.set i n'=R.ns.map λm=>if m.dir.path=(i:Int)then n' else m:=by
 apply List.ext_getElem?
 intro j
 rw[List.getElem?_set,List.getElem?_map]
 have hlt:=(List.getElem?_eq_some_iff.1 hn).1
 by_cases hj:i=j
 ·subst hj
  rw[if_pos rfl,if_pos hlt,hn,Option.map_some,if_pos (h.idx i n hn)]
 ·rw[if_neg hj]
  cases hx:R.ns[j]? with
  |none=>rfl
  |some x=>
   have:=h.idx j x hx
   rw[Option.map_some,if_neg (by omega)]
theorem Rl.put(h:Rl R T){i:Nat}{n n':RN}(hn:R.ns[i]? =some n)(hg:n.gone=false)(hp:n'.dir.path=n.dir.path)(hg':n'.gone=false)(hf:n'.dir.kind=kindOf n'.dir.mode∧n'.dir.len=n'.data.size){f:Nd→Nd}(hfe:n'.nd=f n.nd)(c:Int):
  Rl {R with ns:=R.ns.set i n',clock:=c} {T with ns:=updN T.ns i f,clock:=c}:=by
 have hpi:n.dir.path=i:=h.idx i n hn
 refine⟨?_,?_,?_,?_,rfl,h.hs,h.hl⟩
 ·intro j m hm
  rw[List.getElem?_set]at hm
  by_cases hj:i=j
  ·subst hj
   rw[if_pos rfl]at hm
   split at hm
   ·cases hm;rw[hp,hpi]
   ·cases hm
  ·rw[if_neg hj]at hm
   exact h.idx j m hm
 ·show updN T.ns i f=_
  rw[show(R.ns.set i n')=_ from h.setMap hn,h.ns]
  unfold updN
  rw[List.map_map,List.filter_map,List.map_map]
  have e:(R.ns.filter ((λn=>!n.gone) ∘ λm=>if m.dir.path=(i:Int)then n' else m))=R.ns.filter λn=>!n.gone:=by
   apply List.filter_congr
   intro x hx
   simp only[Function.comp]
   by_cases hq:x.dir.path=i
   ·rw[if_pos hq,hg',h.inj hn hx hq,hg]
   ·rw[if_neg hq]
  rw[e]
  apply List.map_congr_left
  intro x hx
  have hx:=(List.mem_filter.1 hx).1
  simp only[Function.comp]
  by_cases hq:x.dir.path=i
  ·rw[if_pos hq,if_pos (show x.nd.path=i from hq),h.inj hn hx hq,hfe]
  ·rw[if_neg hq,if_neg (show ¬x.nd.path=i from hq)]
 ·intro m hm hgm
  rcases List.mem_or_eq_of_mem_set hm with hm|rfl
  ·exact h.form m hm hgm
  ·exact hf
 ·show T.next=((R.ns.set i n').length:Int)
  rw[List.length_set];exact h.next
theorem Rl.kill(h:Rl R T){i:Nat}{n:RN}(hn:R.ns[i]? =some n):Rl {R with ns:=R.ns.set i n.dead} {T with ns:=T.ns.filter λx=>decide (x.path≠i)}:=by
 have hpi:n.dir.path=i:=h.idx i n hn
 refine⟨?_,?_,?_,?_,h.clock,h.hs,h.hl⟩
 ·intro j m hm
  rw[List.getElem?_set]at hm
  by_cases hj:i=j
  ·subst hj
   rw[if_pos rfl]at hm
   split at hm
   ·cases hm;exact hpi
   ·cases hm
  ·rw[if_neg hj]at hm
   exact h.idx j m hm
 ·show T.ns.filter _=_
  rw[show(R.ns.set i n.dead)=_ from h.setMap hn,h.ns]
  rw[List.filter_map,List.filter_map,List.map_map,List.filter_filter]
  have e:(R.ns.filter ((λn=>!n.gone) ∘ λm=>if m.dir.path=(i:Int)then n.dead else m))=R.ns.filter λx=>((λx:Nd=>decide (x.path≠(i:Int))) ∘ RN.nd) x && !x.gone:=by
   apply List.filter_congr
   intro x hx
   simp only[Function.comp]
   by_cases hq:x.dir.path=i
   ·rw[if_pos hq,decide_eq_false (show ¬x.nd.path≠i from λhc=>hc hq)];rfl
   ·rw[if_neg hq,decide_eq_true (show x.nd.path≠i from hq)];rfl
  rw[e]
  apply List.map_congr_left
  intro x hx
  have hx:=(List.mem_filter.1 hx).2
  rw[Bool.and_eq_true]at hx
  have hq:x.dir.path≠i:=of_decide_eq_true hx.1
  simp only[Function.comp]
  rw[if_neg hq]
 ·intro m hm hgm
  rcases List.mem_or_eq_of_mem_set hm with hm|rfl
  ·exact h.form m hm hgm
  ·cases hgm
 ·show T.next=((R.ns.set i n.dead).length:Int)
  rw[List.length_set];exact h.next
theorem Rl.push(h:Rl R T){n:RN}(hg:n.gone=false)(hp:n.dir.path=R.ns.length)(hf:n.dir.kind=kindOf n.dir.mode∧n.dir.len=n.data.size):Rl {R with ns:=R.ns++[n]} {T with ns:=T.ns++[n.nd],next:=T.next+1}:=by
 refine⟨?_,?_,?_,?_,h.clock,h.hs,h.hl⟩
 ·intro j m hm
  rcases Nat.lt_or_ge j R.ns.length with hj|hj
  ·rw[List.getElem?_append_left hj]at hm;exact h.idx j m hm
  ·rw[List.getElem?_append_right hj]at hm
   have hj2:j-R.ns.length=0:=by
    have:=(List.getElem?_eq_some_iff.1 hm).1
    simp at this;omega
   rw[hj2]at hm
   cases hm
   rw[hp];omega
 ·show T.ns++[n.nd]=_
  rw[List.filter_append,List.map_append,h.ns,List.filter_cons,hg];rfl
 ·intro m hm hgm
  rcases List.mem_append.1 hm with hm|hm
  ·exact h.form m hm hgm
  ·rw[List.mem_singleton.1 hm];exact hf
 ·show T.next+1=((R.ns++[n]).length:Int)
  rw[List.length_append,h.next];simp
theorem heldL_lo:∀(L:List RH) (k:Int),∀x∈heldL k L,k≤x.1
 |[],_,x,h=>by cases h
 |y::r,k,x,h=>by
  unfold heldL at h
  split at h
  ·have:=heldL_lo r (k+1) x h;omega
  ·rcases List.mem_cons.1 h with rfl|h
   ·exact Int.le_refl _
   ·have:=heldL_lo r (k+1) x h;omega
theorem holdL_new{M:List (Int×Hd)}{k:Int}{x:Hd}(h:∀y∈M,k<y.1):holdL M k x=(k,(k,x)::M):=by
 cases M with
 |nil=>rfl
 |cons y r=>
  unfold holdL
  have:=h y List.mem_cons_self
  rw[if_neg (by omega)]
theorem heldL_hold:∀(L:List RH) (k:Int) (h:RH),0≤h.mode→holdL (heldL k L) k ⟨h.file,h.mode,h.user⟩=(k+(holdR L h).1,heldL k (holdR L h).2)
 |[],k,h,hm=>by
  unfold heldL holdR
  simp only[holdL]
  rw[if_neg (by omega)]
  simp[heldL]
 |y::r,k,h,hm=>by
  by_cases hy:y.mode<0
  ·have e1:heldL k (y::r)=heldL (k+1) r:=by rw[heldL,if_pos hy]
   have e2:holdR (y::r) h=(0,h::r):=by unfold holdR;rw[if_pos hy]
   rw[e1,e2,holdL_new λx hx=>by have:=heldL_lo r (k+1) x hx;omega]
   have e3:heldL k (h::r)=(k,⟨h.file,h.mode,h.user⟩)::heldL (k+1) r:=by rw[heldL,if_neg (by omega)]
   rw[e3];simp
  ·have e1:heldL k (y::r)=(k,⟨y.file,y.mode,y.user⟩)::heldL (k+1) r:=by rw[heldL,if_neg hy]
   have e2:holdR (y::r) h=((holdR r h).1+1,y::(holdR r h).2):=by rw[holdR,if_neg hy]
   have e3:heldL k (y::(holdR r h).2)=(k,⟨y.file,y.mode,y.user⟩)::heldL (k+1) (holdR r h).2:=by rw[heldL,if_neg hy]
   rw[e1,e2,e3,holdL,if_pos rfl,heldL_hold r (k+1) h hm]
   simp only[]
   rw[show k+1+((holdR r h).1:Int)=k+(((holdR r h).1+1:Nat):Int) by omega]
theorem holdR_len:∀(L:List RH) (h:RH),(holdR L h).2.length≤max L.length ((L.filter λh=>decide (0≤h.mode)).length+1)
 |[],h=>by simp[holdR]
 |y::r,h=>by
  unfold holdR
  by_cases hy:y.mode<0
  ·rw[if_pos hy];simp only[List.length_cons];omega
  ·rw[if_neg hy,List.filter_cons,if_pos (by simpa using hy)]
   have:=holdR_len r h
   simp only[List.length_cons]
   omega
theorem Rl.hold(h:Rl R T){x:RH}(hm:0≤x.mode)(hc:T.hs.length<64):(T.hold ⟨x.file,x.mode,x.user⟩).2=(((holdR R.hs x).1+1:Nat):Int)∧Rl {R with hs:=(holdR R.hs x).2} (T.hold ⟨x.file,x.mode,x.user⟩).1:=by
 have e:=heldL_hold R.hs 1 x hm
 have h2:T.hold ⟨x.file,x.mode,x.user⟩=({T with hs:=heldL 1 (holdR R.hs x).2},1+((holdR R.hs x).1:Int)):=by
  unfold Tr.hold
  rw[h.hs,e]
 rw[h2]
 refine⟨by simp only[];omega,h.idx,h.ns,h.form,h.next,h.clock,rfl,?_⟩
 have h3:=holdR_len R.hs x
 have h4:=h.hl
 rw[h.hs,heldL_len]at hc
 show(holdR R.hs x).2.length≤64
 omega
theorem heldL_del:∀(L:List RH) (k:Int) (i:Nat) (d:RH),d.mode<0→heldL k (L.set i d)=delL (heldL k L) (k+i)
 |[],k,i,d,_=>rfl
 |y::r,k,0,d,hd=>by
  have key:delL (heldL (k+1) r) k=heldL (k+1) r:=delL_none λhc=>by
   obtain⟨x,hx,hxk⟩:=List.mem_map.1 hc
   have:=heldL_lo r (k+1) x hx
   omega
  rw[List.set_cons_zero,show k+((0:Nat):Int)=k by omega]
  have e0:heldL k (d::r)=heldL (k+1) r:=by rw[heldL,if_pos hd]
  rw[e0]
  by_cases hy:y.mode<0
  ·rw[show heldL k (y::r)=heldL (k+1) r by rw[heldL,if_pos hy],key]
  ·rw[show heldL k (y::r)=(k,⟨y.file,y.mode,y.user⟩)::heldL (k+1) r by rw[heldL,if_neg hy]]
   simp[delL]
 |y::r,k,i+1,d,hd=>by
  have ih:=heldL_del r (k+1) i d hd
  rw[List.set_cons_succ]
  by_cases hy:y.mode<0
  ·rw[show heldL k (y::r)=heldL (k+1) r by rw[heldL,if_pos hy],show heldL k (y::r.set i d)=heldL (k+1) (r.set i d) by rw[heldL,if_pos hy],ih,show k+1+(i:Int)=k+((i+1:Nat):Int) by omega]
  ·rw[show heldL k (y::r)=(k,⟨y.file,y.mode,y.user⟩)::heldL (k+1) r by rw[heldL,if_neg hy],show heldL k (y::r.set i d)=(k,⟨y.file,y.mode,y.user⟩)::heldL (k+1) (r.set i d) by rw[heldL,if_neg hy],ih,show k+1+(i:Int)=k+((i+1:Nat):Int) by omega]
   simp only[delL]
   rw[if_neg (show ¬k+((i+1:Nat):Int)=k by omega)]
theorem Rl.free(h:Rl R T){i:Nat}{d:RH}(hd:d.mode<0):Rl {R with hs:=R.hs.set i d} {T with hs:=delL T.hs (1+i)}:=
 ⟨h.idx,h.ns,h.form,h.next,h.clock,by show delL T.hs _=_;rw[heldL_del _ _ _ _ hd,h.hs],by show(R.hs.set i d).length≤64;rw[List.length_set];exact h.hl⟩
set_option maxRecDepth 100000
set_option linter.unusedVariables false
set_option linter.unusedSimpArgs false
variable {w0 w:World} {F:Nat→Prop} {l:List As}
variable {R:RT} {T:Tr} {gV nV hV:Value} {c:Int}
theorem bl_eq:∀(x y:List UInt8),Op.bytesLess x y=decide (x<y)
 |[],[]=>by simp[Op.bytesLess]
 |_::_,[]=>by simp[Op.bytesLess]
 |[],_::_=>by simp[Op.bytesLess]
 |a::x,b::y=>by
  rw[Op.bytesLess,bl_eq x y]
  simp only[List.cons_lt_cons_iff]
  by_cases h1:a<b<;>by_cases h2:a=b<;>by_cases h3:x<y<;>simp[h1,h2,h3]
theorem Bi.slss{s t:BA}{k:Value→Prop}(ht:byt s<byt t→k (.bool true))(hf:byt t≤byt s→k (.bool false)):Bi .lss (.string s) (.string t) k:=by
 by_cases h:byt s<byt t
 ·exact⟨_,by simp only[binV,strOp,bl_eq,Lib.toList_data];rw[decide_eq_true h],ht h⟩
 ·exact⟨_,by simp only[binV,strOp,bl_eq,Lib.toList_data];rw[decide_eq_false h],hf (List.not_lt.1 h)⟩
theorem sortS_of{xs ys:List BA}(h:xs.Perm ys)(hs:ys.Pairwise λa b=>byt a≤byt b):sortS xs=ys:=by
 have so:((xs.map byt).mergeSort λx y=>decide (x≤y)).Pairwise (λa b=>a≤b):=by
  have:=List.pairwise_mergeSort (le:=λx y:List UInt8=>decide (x≤y)) (λa b c h1 h2=>by simp only[decide_eq_true_eq]at h1 h2 ⊢;exact List.le_trans h1 h2) (λa b=>by simp only[Bool.or_eq_true,decide_eq_true_eq];exact List.le_total a b) (xs.map byt)
  exact this.imp λh=>by simpa using h
 have e:((xs.map byt).mergeSort λx y=>decide (x≤y))=ys.map byt:=
  List.Perm.eq_of_pairwise (le:=λa b=>a≤b) (λa b _ _ h1 h2=>List.le_antisymm h1 h2) so (List.pairwise_map.2 hs) ((List.mergeSort_perm _ _).trans (h.map byt))
 unfold sortS
 rw[e,List.map_map]
 have e:((λl:List UInt8=>(⟨l.toArray⟩:ByteArray)) ∘ byt)=id:=by funext x;exact byt_mk x
 rw[e,List.map_id]
def RN.kidB(p:Int)(n:RN):Bool:=!n.gone && decide (n.par=p) && decide (n.dir.path≠0)

theorem Rl.kids (h : Rl R T) (hi : Inv T) {p : Int} {ks : List RN} (hp : ks.Perm (R.ns.filter (RN.kidB p))) (hs : ks.Pairwise fun a b=>byt a.dir.name≤byt b.dir.name) : ks.map RN.nd = T.kidsS p:=by
 have hk : (T.kids p) = (R.ns.filter (RN.kidB p)).map RN.nd:=by
  unfold Tr.kids
  rw [h.ns,List.filter_map,List.filter_filter]
  congr 1
  apply List.filter_congr
  intro x _
  unfold RN.kidB Tr.isKid
  cases hg : x.gone with
  | true=>simp
  | false =>
   show (decide (x.nd.path ≠ 0∧x.nd.up = p) && true) = _
   rw [Bool.and_true]
   show decide (x.dir.path ≠ 0∧x.par = p) = (true && decide (x.par = p) && decide (x.dir.path ≠ 0))
   by_cases h1 : x.par = p <;> by_cases h2 : x.dir.path = 0 <;> simp [h1,h2]
 have hpn : (ks.map RN.nd).Perm (T.kids p):=by rw [hk]; exact hp.map _
 have hnm : sortS ((T.kids p).map (·.name)) = (ks.map RN.nd).map (·.name):=sortS_of ((hpn.map _).symm) (by rw [List.map_map]; exact List.pairwise_map.2 hs)
 unfold Tr.kidsS
 rw [hnm]
 have hm : ∀ k∈ks.map RN.nd,T.kid p k.name = some k:=by
  intro k hkm
  have:=hpn.mem_iff.1 hkm
  unfold Tr.kids at this
  obtain ⟨h1,h2⟩:=List.mem_filter.1 this
  unfold Tr.isKid at h2
  have h2:=of_decide_eq_true h2
  exact (kid_some hi).2 ⟨h1,h2.1,h2.2,rfl⟩
 generalize ks.map RN.nd = ms at hm
 induction ms with
 | nil=>rfl
 | cons k r ih =>
  rw [List.map_cons,List.filterMap_cons,hm k List.mem_cons_self]
  simp only []
  rw [← ih fun x hx=>hm x (List.mem_cons_of_mem _ hx)]
theorem u_sl_int64:PP.underlying Ty.t25=some (.slice Ty.int64):=by kernel_rfl
theorem s_int64:sizeK PP Ty.int64=some 1:=by kernel_rfl
theorem e_int64:el3 PP Ty.int64=some (some (i64 0),1,8):=by kernel_rfl
abbrev pv(ks:List RN):List Value:=ks.map λn=>i64 n.dir.path
theorem pv_scal(ks:List RN):(pv ks).all scalV=true:=by
 rw[List.all_eq_true];intro v hv;obtain⟨b,_,rfl⟩:=List.mem_map.1 hv;rfl
theorem insert_sorted {ks : List RN} {n : RN} {k : Nat} (hs : ks.Pairwise fun a b=>byt a.dir.name≤byt b.dir.name) (h1 : ∀ (j : Nat) x,j < k→ks[j]? = some x→byt x.dir.name < byt n.dir.name) (h2 : ∀ x,ks[k]? = some x→byt n.dir.name≤byt x.dir.name) :
  (ks.take k++n::ks.drop k).Pairwise fun a b=>byt a.dir.name≤byt b.dir.name:=by
 have hle : ∀ {a b : List UInt8},a < b→a≤b:=fun {a b} h=>List.not_lt.1 fun hc=>List.lt_irrefl a (List.lt_trans h hc)
 have hA : ∀ x∈ks.take k,byt x.dir.name≤byt n.dir.name:=fun x hx=>by
  obtain ⟨j,hj⟩:=List.getElem?_of_mem hx
  rw [List.getElem?_take] at hj
  split at hj
  ·rename_i hjk
   exact hle (h1 j x hjk hj)
  ·cases hj
 have hB : ∀ x∈ks.drop k,byt n.dir.name≤byt x.dir.name:=fun x hx=>by
  cases hd : ks.drop k with
  | nil=>rw [hd] at hx; cases hx
  | cons y r =>
   have hy : ks[k]? = some y:=by have:=congrArg (·[0]?) hd; simpa using this
   rw [hd] at hx
   rcases List.mem_cons.1 hx with rfl | hx
   ·exact h2 _ hy
   ·have:=hs.sublist (List.drop_sublist k ks)
    rw [hd,List.pairwise_cons] at this
    exact List.le_trans (h2 y hy) (this.1 x hx)
 rw [List.pairwise_append]
 refine ⟨hs.sublist (List.take_sublist k ks),List.pairwise_cons.2 ⟨hB,hs.sublist (List.drop_sublist k ks)⟩,fun a ha b hb=>?_⟩
 rcases List.mem_cons.1 hb with rfl | hb
 ·exact hA a ha
 ·exact List.le_trans (hA a ha) (hB b hb)
theorem rChildren_ok[iG:Scal gV][iN:Scal nV][iH:Scal hV](h:Rl R T)(hi:Inv T)(hN:R.ns.length≤1000000000){p:Int}(hm:NP nV R∈l)(E:Hs w0 F w l):
  Ca PP Fn.f56 #[rV gV nV hV c,i64 p] w λr w'=>Hs w0 F w' (slA r Ty.int64 1 ((T.kidsS p).map λk=>i64 k.path)::l):=by
 refine S.f56.calls ?_
 unfold S.f56
 refine StpA.go E ?_
 clear E
 intro q w_ hq E
 have hpos:1≤R.ns.length:=by
  obtain⟨n,hn,_⟩:=hi.root
  obtain⟨x,hx,_⟩:=h.mem.1 hn
  exact List.length_pos_of_mem hx
 skip
 refine BdS.nul E u_sl_int64 s_int64 ?_
 clear E
 intro v0 w_ E
 refine⟨λl1 w1=>∃(v:Value) (i:Nat) (ks:List RN),l1=[v,i64 i]∧1≤i∧i≤R.ns.length∧ks.Perm ((R.ns.take i).filter (RN.kidB p))∧(ks.Pairwise λa b=>byt a.dir.name≤byt b.dir.name)∧Hs w0 F w1 (slA v Ty.int64 1 (pv ks)::pt q (oc [gV,nV,hV,i64 c] Ty.t0)::l),λl1 _=>match l1 with|[_,.int _ i]=>R.ns.length-i.toNat|_=>0,⟨v0,1,[],rfl,Nat.le_refl _,hpos,?_,List.Pairwise.nil,E⟩,?_⟩
 ·have h0:R.ns[0]? =some (R.ns[0]'(by omega)):=List.getElem?_eq_getElem (by omega)
  generalize R.ns[0]'(by omega)=n at h0
  have:R.ns.take 1=[n]:=by rw[List.take_one];simp[List.head?_eq_getElem?,h0]
  have hp0:=h.idx 0 n h0
  have hk0:RN.kidB p n=false:=by
   unfold RN.kidB
   rw[decide_eq_false (show ¬n.dir.path≠0 from λhc=>hc (by rw[hp0];rfl)),Bool.and_false]
  rw[this,List.filter_cons,hk0]
  exact List.Perm.refl _
 clear E
 rintro v t6 u w_ ⟨v',i,ks,h1,hi1,hil,hperm,hsort,E⟩
 cases h1
 have kin:∀x∈ks,x∈R.ns:=λx hx=>List.mem_of_mem_take (List.mem_filter.1 (hperm.mem_iff.1 hx)).1
 have klen:ks.length≤R.ns.length:=by
  rw[hperm.length_eq]
  exact Nat.le_trans (List.length_filter_le _ _) (by rw[List.length_take];omega)
 repeat with_reducible first|refine Stp.go ?_|refine StpE.go E ?_
 refine LnL.rw rn_len E (List.mem_cons_of_mem _ (List.mem_cons_of_mem _ hm)) (by omega) ?_
 refine Bi.lss ?_ ?_<;>intro hlt<;>(repeat with_reducible refine Stp.go ?_)
 rotate_left
 ·rw[show R.ns.take i=R.ns from List.take_of_length_le (by omega)]at hperm
  have e:=h.kids hi hperm hsort
  rw[← e,List.map_map]
  exact E.drop (List.Sublist.cons_cons _ (List.sublist_cons_self _ _))
 have hn:R.ns[i]? =some (R.ns[i]'(by omega)):=List.getElem?_eq_getElem (by omega)
 generalize R.ns[i]'(by omega)=n at hn
 have hnp:=h.idx i n hn
 have tk:(R.ns.take (i+1)).filter (RN.kidB p)=(R.ns.take i).filter (RN.kidB p)++(if RN.kidB p n=true then[n]else[]):=by
  rw[List.take_add_one,hn,List.filter_append]
  congr 1
  cases hk:RN.kidB p n<;>simp[hk]
 (intro J15 hJ15)
 have fin:∀v w_ ks',ks'.Perm ((R.ns.take (i+1)).filter (RN.kidB p))→(ks'.Pairwise λa b=>byt a.dir.name≤byt b.dir.name)→Hs w0 F w_ (slA v Ty.int64 1 (pv ks')::pt q (oc [gV,nV,hV,i64 c] Ty.t0)::l)→J15 [v] w_:=by
  intro v w_ ks' hp' hs' E
  repeat with_reducible (apply hJ15;intro u_)
  refine Bi.add (by omega) ?_
  exact⟨⟨v,i+1,ks',by simp,by omega,by omega,hp',hs',E⟩,by simp only[];omega⟩
 clear hJ15
 (intro J20 hJ20)
 have fin2:∀b w_,b= !(RN.kidB p n)→Hs w0 F w_ (slA v Ty.int64 1 (pv ks)::pt q (oc [gV,nV,hV,i64 c] Ty.t0)::l)→J20 [.bool b] w_:=by
  intro b w_ hb E
  repeat with_reducible (apply hJ20;intro u_)
  clear hJ20
  cases hk:RN.kidB p n with
  |false=>
   rw[hk]at hb
   subst hb
   simp only[Bool.not_false]
   repeat with_reducible refine Stp.go ?_
   exact fin v _ ks (by rw[tk,hk];simpa using hperm) hsort E
  |true=>
   rw[hk]at hb
   subst hb
   simp only[Bool.not_true]
   repeat with_reducible refine Stp.go ?_
   refine⟨λl1 w1=>∃k:Nat,l1=[i64 k]∧k≤ks.length∧(∀(j:Nat) x,j<k→ks[j]? =some x→byt x.dir.name<byt n.dir.name)∧Hs w0 F w1 (slA v Ty.int64 1 (pv ks)::pt q (oc [gV,nV,hV,i64 c] Ty.t0)::l),λl1 _=>match l1 with|[.int _ i]=>ks.length-i.toNat|_=>0,⟨0,rfl,Nat.zero_le _,(λj x hj=>by omega),E⟩,?_⟩
   clear E
   rintro t7 u2 w_ ⟨k,h1,hkl,hlow,E⟩
   cases h1
   (intro J29 hJ29)
   have fin3:∀b w_,(b=true→k<ks.length∧∀x,ks[k]? =some x→byt x.dir.name<byt n.dir.name)→(b=false→∀x,ks[k]? =some x→byt n.dir.name≤byt x.dir.name)→Hs w0 F w_ (slA v Ty.int64 1 (pv ks)::pt q (oc [gV,nV,hV,i64 c] Ty.t0)::l)→J29 [.bool b] w_:=by
    intro b w_ hb hb2 E
    repeat with_reducible (apply hJ29;intro u_)
    clear hJ29
    cases b with
    |true=>
     obtain⟨hb3,hb4⟩:=hb rfl
     repeat with_reducible refine Stp.go ?_
     refine Bi.add (by omega) ?_
     refine⟨⟨k+1,by simp,by omega,λj x hj hx=>?_,E⟩,by simp only[];omega⟩
     by_cases hjk:j=k
     ·subst hjk;exact hb4 x hx
     ·exact hlow j x (by omega) hx
    |false=>
     have hsort':=insert_sorted hsort hlow (hb2 rfl)
     have hperm':(ks.take k++n::ks.drop k).Perm ((R.ns.take (i+1)).filter (RN.kidB p)):=by
      rw[tk,hk,if_pos rfl]
      refine List.perm_middle.trans ?_
      rw[List.take_append_drop]
      exact(List.perm_append_comm (l₁:=[n]) (l₂:=ks)).trans (hperm.append_right [n])
     have epv:pv (ks.take k)++[i64 (i:Int)]++pv (ks.drop k)=pv (ks.take k++n::ks.drop k):=by
      unfold pv
      rw[List.map_append,List.map_cons,hnp,List.append_assoc];rfl
     have hr:RdS w0 F (slA v Ty.int64 1 (pv ks)::pt q (oc [gV,nV,hV,i64 c] Ty.t0)::l) 1 ks.length v (pv ks):=by
      have:=RdS.by1 v E
      rwa [List.length_map]at this
     repeat with_reducible first|refine Stp.go ?_|(refine StpW.go E ?_;clear E;intro w_ E)
     refine hr.slice (lo:=none) (hi:=some (i64 k)) (a:=0) (b:=k) rfl (by simp[bnd]) (by omega) (by omega) ?_
     intro v1 hv1
     rw[List.drop_zero,← List.map_take,Nat.sub_zero]at hv1
     refine hr.slice (lo:=some (i64 k)) (hi:=none) (a:=k) (b:=ks.length) (by simp[bnd]) rfl (by omega) (by omega) ?_
     intro v2 hv2
     rw[List.take_of_length_le (by simp),← List.map_drop]at hv2
     refine⟨?_,?_,trivial⟩
     ·refine BdS.nul E u_sl_int64 s_int64 ?_
      clear E
      intro t58 w_ E
      refine⟨?_,?_,trivial⟩
      ·refine Ap.one E (i:=0) rfl u_sl_int64 ⟨_,u_sl_int64,λ_ h=>by cases h⟩ e_int64 (RdS.src (hv1.cons _) E (pv_scal _)) rfl (by simp;omega) (by simp;omega) ?_
       clear E
       intro t62 w_ E
       (try simp only[List.set_cons_zero,List.set_cons_succ,List.cons_append,List.nil_append,Nat.zero_add,Nat.add_zero]at E)
       refine BdS.one E u_sl_int64 e_int64 rfl ?_
       clear E
       intro t64 w_ E
       refine Ap.one E (i:=1) rfl u_sl_int64 ⟨_,u_sl_int64,λ_ h=>by cases h⟩ e_int64 (Src.one E List.mem_cons_self rfl) rfl (by simp;omega) (by simp;omega) ?_
       clear E
       intro t65 w_ E
       (try simp only[List.set_cons_zero,List.set_cons_succ,List.cons_append,List.nil_append,Nat.zero_add,Nat.add_zero]at E)
       refine Ap.one E (i:=1) rfl u_sl_int64 ⟨_,u_sl_int64,λ_ h=>by cases h⟩ e_int64 (RdS.src ((hv2.cons _).cons _) E (pv_scal _)) rfl (by simp;omega) (by simp;omega) ?_
       clear E
       intro t69 w_ E
       (try simp only[List.set_cons_zero,List.set_cons_succ,List.cons_append,List.nil_append,Nat.zero_add,Nat.add_zero]at E)
       rw[epv]at E
       exact fin t69 _ _ hperm' hsort' (E.tl.bIx 1).tl
      ·refine BdS.one E u_sl_int64 e_int64 rfl ?_
       clear E
       intro t64 w_ E
       refine Ap.one E (i:=1) rfl u_sl_int64 ⟨_,u_sl_int64,λ_ h=>by cases h⟩ e_int64 (RdS.src ((hv1.cons _).cons _) E (pv_scal _)) rfl (by simp;omega) (by simp;omega) ?_
       clear E
       intro t62 w_ E
       (try simp only[List.set_cons_zero,List.set_cons_succ,List.cons_append,List.nil_append,Nat.zero_add,Nat.add_zero]at E)
       refine Ap.one E (i:=1) rfl u_sl_int64 ⟨_,u_sl_int64,λ_ h=>by cases h⟩ e_int64 (Src.one E List.mem_cons_self rfl) rfl (by simp;omega) (by simp;omega) ?_
       clear E
       intro t65 w_ E
       (try simp only[List.set_cons_zero,List.set_cons_succ,List.cons_append,List.nil_append,Nat.zero_add,Nat.add_zero]at E)
       refine Ap.one E (i:=1) rfl u_sl_int64 ⟨_,u_sl_int64,λ_ h=>by cases h⟩ e_int64 (RdS.src ((hv2.cons _).cons _) E (pv_scal _)) rfl (by simp;omega) (by simp;omega) ?_
       clear E
       intro t69 w_ E
       (try simp only[List.set_cons_zero,List.set_cons_succ,List.cons_append,List.nil_append,Nat.zero_add,Nat.add_zero]at E)
       rw[epv]at E
       exact fin t69 _ _ hperm' hsort' (E.tl.bIx 1).tl
     ·refine BdS.one E u_sl_int64 e_int64 rfl ?_
      clear E
      intro t64 w_ E
      refine BdS.nul E u_sl_int64 s_int64 ?_
      clear E
      intro t58 w_ E
      refine Ap.one E (i:=0) rfl u_sl_int64 ⟨_,u_sl_int64,λ_ h=>by cases h⟩ e_int64 (RdS.src ((hv1.cons _).cons _) E (pv_scal _)) rfl (by simp;omega) (by simp;omega) ?_
      clear E
      intro t62 w_ E
      (try simp only[List.set_cons_zero,List.set_cons_succ,List.cons_append,List.nil_append,Nat.zero_add,Nat.add_zero]at E)
      refine Ap.one E (i:=0) rfl u_sl_int64 ⟨_,u_sl_int64,λ_ h=>by cases h⟩ e_int64 (Src.one E (List.mem_of_getElem? (i:=1) rfl) rfl) rfl (by simp;omega) (by simp;omega) ?_
      clear E
      intro t65 w_ E
      (try simp only[List.set_cons_zero,List.set_cons_succ,List.cons_append,List.nil_append,Nat.zero_add,Nat.add_zero]at E)
      refine Ap.one E (i:=0) rfl u_sl_int64 ⟨_,u_sl_int64,λ_ h=>by cases h⟩ e_int64 (RdS.src ((hv2.cons _).cons _) E (pv_scal _)) rfl (by simp;omega) (by simp;omega) ?_
      clear E
      intro t69 w_ E
      (try simp only[List.set_cons_zero,List.set_cons_succ,List.cons_append,List.nil_append,Nat.zero_add,Nat.add_zero]at E)
      rw[epv]at E
      exact fin t69 _ _ hperm' hsort' (((E.bIx 1).tl).bIx 1).tl
   clear hJ29
   repeat with_reducible first|refine StpE.go E ?_|(refine StpW.go E ?_;clear E;intro w_ E)
   have hr:RdS w0 F (slA v Ty.int64 1 (pv ks)::pt q (oc [gV,nV,hV,i64 c] Ty.t0)::l) 1 ks.length v (pv ks):=by
    have:=RdS.by1 v E
    rwa [List.length_map]at this
   rw[List.length_map]
   refine Bi.lss ?_ ?_<;>intro hlt2<;>(repeat with_reducible first|refine Stp.go ?_|refine StpE.go E ?_)
   ·have hx:ks[k]? =some (ks[k]'(by omega)):=List.getElem?_eq_getElem (by omega)
    generalize ks[k]'(by omega)=x at hx
    obtain⟨m,hxm⟩:=List.getElem?_of_mem (kin x (List.mem_of_getElem? hx))
    have hxp:=h.idx m x hxm
    have hml:=(List.getElem?_eq_some_iff.1 hxm).1
    refine hr.ix (by omega) (by omega) (by omega) ?_
    intro a ha
    repeat with_reducible refine Stp.go ?_
    refine ha.ld E (x:=i64 (m:Int)) (by rw[Int.toNat_natCast,Nat.mul_one,List.getElem?_drop,Nat.add_zero,List.getElem?_map,hx,← hxp];rfl) ?_
    repeat with_reducible refine Stp.go ?_
    refine IxA.rw rn_len E (List.mem_cons_of_mem _ (List.mem_cons_of_mem _ hm)) (by omega) (by omega) (by omega) ?_
    rw[Int.toNat_natCast]
    intro a ha
    repeat with_reducible refine Stp.go ?_
    refine Fa.el ha ?_
    intro a2 ha2
    repeat with_reducible refine Stp.go ?_
    refine Fa.el ha2 ?_
    intro a3 ha3
    repeat with_reducible refine Stp.go ?_
    refine Ld.rw rn_len E (List.mem_cons_of_mem _ (List.mem_cons_of_mem _ hm)) ha3 hxm (by omega) (y:=str x.dir.name) rfl ?_
    repeat with_reducible first|refine Stp.go ?_|refine StpE.go E ?_
    refine IxA.rw rn_len E (List.mem_cons_of_mem _ (List.mem_cons_of_mem _ hm)) (by omega) (by omega) (by omega) ?_
    rw[Int.toNat_natCast]
    intro a ha
    repeat with_reducible refine Stp.go ?_
    refine Fa.el ha ?_
    intro a2 ha2
    repeat with_reducible refine Stp.go ?_
    refine Fa.el ha2 ?_
    intro a3 ha3
    repeat with_reducible refine Stp.go ?_
    refine Ld.rw rn_len E (List.mem_cons_of_mem _ (List.mem_cons_of_mem _ hm)) ha3 hn (by omega) (y:=str n.dir.name) rfl ?_
    repeat with_reducible refine Stp.go ?_
    refine Bi.slss ?_ ?_<;>intro hc<;>(repeat with_reducible refine Stp.go ?_)
    ·exact fin3 true _ (λ_=>⟨by omega,λy hy=>by rw[hx]at hy;cases hy;exact hc⟩) (λh=>by cases h) E
    ·exact fin3 false _ (λh=>by cases h) (λ_ y hy=>by rw[hx]at hy;cases hy;exact hc) E
   ·exact fin3 false _ (λh=>by cases h) (λ_ y hy=>by have:=(List.getElem?_eq_some_iff.1 hy).1;omega) E
 clear hJ20
 repeat with_reducible first|refine Stp.go ?_|refine StpE.go E ?_
 refine IxA.rw rn_len E (List.mem_cons_of_mem _ (List.mem_cons_of_mem _ hm)) (by omega) (by omega) (by omega) ?_
 rw[Int.toNat_natCast]
 intro a ha
 skip
 refine Fa.el ha ?_
 intro a2 ha2
 skip
 refine Ld.rw rn_len E (List.mem_cons_of_mem _ (List.mem_cons_of_mem _ hm)) ha2 hn (by omega) (y:=.bool n.gone) rfl ?_
 have hp0:n.dir.path≠0:=by rw[hnp];omega
 cases hg:n.gone with
 |true=>
  repeat with_reducible refine Stp.go ?_
  exact fin2 true _ (by unfold RN.kidB;rw[hg];rfl) E
 |false=>
  repeat with_reducible first|refine Stp.go ?_|refine StpE.go E ?_
  refine IxA.rw rn_len E (List.mem_cons_of_mem _ (List.mem_cons_of_mem _ hm)) (by omega) (by omega) (by omega) ?_
  rw[Int.toNat_natCast]
  intro a ha
  repeat with_reducible refine Stp.go ?_
  refine Fa.el ha ?_
  intro a2 ha2
  repeat with_reducible refine Stp.go ?_
  refine Ld.rw rn_len E (List.mem_cons_of_mem _ (List.mem_cons_of_mem _ hm)) ha2 hn (by omega) (y:=i64 n.par) rfl ?_
  repeat with_reducible refine Stp.go ?_
  refine Bi.neq ?_ ?_<;>intro hc<;>(repeat with_reducible refine Stp.go ?_)
  ·exact fin2 true _ (by unfold RN.kidB;rw[hg,decide_eq_false hc];rfl) E
  ·exact fin2 false _ (by unfold RN.kidB;rw[hg,decide_eq_true hc,decide_eq_true hp0];rfl) E
set_option maxRecDepth 100000
set_option linter.unusedVariables false
set_option linter.unusedSimpArgs false
variable {w0 w:World} {F:Nat→Prop} {l:List As}
variable {R:RT} {T:Tr} {gV nV hV:Value} {c:Int}

structure GOk (w0 : World) (F : Nat→Prop) (l : List As) (gV : Value) (gs : Gs) : Prop where
 ex : ∃ gv,GIn w0 F l gV gv gs
 n1 : gs.length≤100000
 n2 : ∀ g∈gs,g.2.length≤100000
 nd : (gs.map (·.1)).Nodup
theorem GOk.cons{gs:Gs}(h:GOk w0 F l gV gs)(A:As):GOk w0 F (A::l) gV gs:=by
 obtain⟨gv,hg⟩:=h.ex
 exact⟨⟨gv,hg.weaken λ_ E=>E.tl⟩,h.n1,h.n2,h.nd⟩
theorem rMay2[iG:Scal gV][iN:Scal nV][iH:Scal hV]{user:BA}{need:Int}{i:Nat}{n:RN}(hg:GOk w0 F l gV T.gs)(hn:R.ns[i]? =some n)(hm:NP nV R∈l)(E:Hs w0 F w l):
  Ca PP Fn.r28_may #[rV gV nV hV c,str user,i64 i,i64 need] w λr w'=>r=.bool (T.may user n.nd need)∧Hs w0 F w' l:=by
 obtain⟨gv,h⟩:=hg.ex
 exact rMay_ok h hg.n1 hg.n2 hg.nd rfl hn hm E
theorem rMember2[iG:Scal gV][iN:Scal nV][iH:Scal hV]{user group:BA}(hg:GOk w0 F l gV T.gs)(E:Hs w0 F w l):
  Ca PP Fn.r28_member #[rV gV nV hV c,str user,str group] w λr w'=>r=.bool (T.member user group)∧Hs w0 F w' l:=by
 obtain⟨gv,h⟩:=hg.ex
 rw[← memR_eq hg.nd rfl]
 exact rMember_ok h hg.n1 hg.n2 E
theorem Rl.parent(h:Rl R T)(hi:Inv T){i:Nat}{n:RN}(hn:R.ns[i]? =some n)(hg:n.gone=false):∃(k:Nat) (u:RN),n.par=k∧R.ns[k]? =some u∧u.gone=false∧T.parent n.nd=u.nd∧(n.dir.path≠0→k≠i):=by
 have hmem:n.nd∈T.ns:=h.mem.2 ⟨n,List.mem_of_getElem? hn,hg,rfl⟩
 have hup:∃u,T.get n.nd.up=some u:=by
  by_cases h0:n.nd.path=0
  ·rw[(hi.rootD _ hmem h0).2]
   obtain⟨r,hr,hr0⟩:=hi.root
   exact⟨r,hi.get.2 ⟨hr,hr0⟩⟩
  ·obtain⟨u,hu,hup,_⟩:=hi.up _ hmem h0
   exact⟨u,hi.get.2 ⟨hu,hup⟩⟩
 obtain⟨u,hu⟩:=hup
 obtain⟨k,x,e,hx,hxg,rfl⟩:=h.sm hi hu
 refine⟨k,x,e,hx,hxg,by unfold Tr.parent;rw[hu];rfl,λh0 hk=>?_⟩
 subst hk
 obtain⟨rk,hrk⟩:=hi.rank
 have:=hrk _ hmem h0
 have h1:n.nd.up=n.nd.path:=by rw[show n.nd.up=(k:Int)from e];exact(h.idx k n hn).symm
 rw[h1]at this
 omega
theorem Rl.qid(h:Rl R T){n:RN}(hn:n∈R.ns)(hg:n.gone=false):n.nd.qid=⟨n.dir.kind,n.dir.vers,n.dir.path⟩:=by
 obtain⟨h1,h2⟩:=h.form n hn hg
 unfold Nd.qid RN.nd
 rw[← h1]
theorem rWalk_ok[iG:Scal gV][iN:Scal nV][iH:Scal hV](h:Rl R T)(hi:Inv T)(hN:R.ns.length≤1000000000)(hg:GOk w0 F l gV T.gs){user name:BA}{file:Int}(hnm:name.size≤9223372036854775807)(hm:NP nV R∈l)(E:Hs w0 F w l):
  Ca PP Fn.r28_Walk #[rV gV nV hV c,str user,i64 file,str name] w λr w'=>r=.tuple #[(T.walk user file name).1.V,i64 (T.walk user file name).2]∧Hs w0 F w' l:=by
 refine S.r28_Walk.calls ?_
 unfold S.r28_Walk
 refine StpA.go E ?_
 clear E
 intro q w_ hq E
 repeat with_reducible first|refine StpE.go E ?_|(refine StpA.go E ?_;clear E;intro b_ w_ hb_ E)
 (revert b_;intro q2 hbq2 E)
 have m2:NP nV R∈pt q2 (oc [i64 0,i64 0,i64 0] Ty.t11)::pt q (oc [gV,nV,hV,i64 c] Ty.t0)::l:=List.mem_cons_of_mem _ (List.mem_cons_of_mem _ hm)
 have g2:=(hg.cons (pt q (oc [gV,nV,hV,i64 c] Ty.t0))).cons (pt q2 (oc [i64 0,i64 0,i64 0] Ty.t11))
 refine(rExists_ok h hi hN m2 E).mono ?_
 clear E
 rintro r w_ ⟨rfl,E⟩
 refine Un.not ?_
 cases hget:T.get file with
 |none=>
  simp only[Option.isSome_none,Bool.not_false]
  repeat with_reducible first|refine Stp.go ?_|refine StpE.go E ?_|(refine StpW.go E ?_;clear E;intro w_ E)
  refine⟨by unfold Tr.walk;rw[hget],E.tl.tl⟩
 |some m=>
  simp only[Option.isSome_some,Bool.not_true]
  obtain⟨i,n,rfl,hn,hgone,rfl⟩:=h.sm hi hget
  have hnm2:=List.mem_of_getElem? hn
  have hlt:=(List.getElem?_eq_some_iff.1 hn).1
  repeat with_reducible first|refine Stp.go ?_|refine StpE.go E ?_
  refine(rDirectory_ok hn m2 E).mono ?_
  clear E
  rintro r w_ ⟨rfl,E⟩
  refine Un.not ?_
  cases hd:n.nd.dir with
  |false=>
   simp only[Bool.not_false]
   repeat with_reducible first|refine Stp.go ?_|refine StpE.go E ?_|(refine StpW.go E ?_;clear E;intro w_ E)
   exact⟨by unfold Tr.walk;simp only[hget,hd];rfl,E.tl.tl⟩
  |true=>
  simp only[Bool.not_true]
  repeat with_reducible first|refine Stp.go ?_|refine StpE.go E ?_
  refine(rMay2 g2 hn m2 E).mono ?_
  clear E
  rintro r w_ ⟨rfl,E⟩
  refine Un.not ?_
  cases hp:T.may user n.nd 1 with
  |false=>
   simp only[Bool.not_false]
   repeat with_reducible first|refine Stp.go ?_|refine StpE.go E ?_|(refine StpW.go E ?_;clear E;intro w_ E)
   exact⟨by unfold Tr.walk;simp only[hget,hd,hp];rfl,E.tl.tl⟩
  |true=>
  simp only[Bool.not_true]
  repeat with_reducible refine Stp.go ?_
  refine Bi.seql ?_ ?_<;>intro c1<;>(repeat with_reducible first|refine Stp.go ?_|refine StpE.go E ?_)
  ·refine IxA.rw rn_len E m2 (by omega) (by omega) (by omega) ?_
   rw[Int.toNat_natCast]
   intro a ha
   skip
   refine Fa.el ha ?_
   intro a2 ha2
   skip
   refine Fa.el ha2 ?_
   intro a3 ha3
   skip
   refine LdA.rw rn_len E m2 ha3 hn (by omega) (ds:=[i64 n.dir.kind,i64 n.dir.vers,i64 n.dir.path]) rfl rfl ?_
   repeat with_reducible first|refine StpE.go E ?_|(refine StpW.go E ?_;clear E;intro w_ E)
   refine⟨?_,E.tl.tl⟩
   unfold Tr.walk
   simp only[hget,hd,hp,Bool.not_true,Bool.false_eq_true,if_false,if_pos c1,h.qid hnm2 hgone]
  refine Bi.seql ?_ ?_<;>intro c2<;>(repeat with_reducible first|refine Stp.go ?_|refine StpE.go E ?_|(refine StpW.go E ?_;clear E;intro w_ E))
  ·obtain⟨k,u,hpar,hu,hug,hpu,-⟩:=h.parent hi hn hgone
   have hum:=List.mem_of_getElem? hu
   have hult:=(List.getElem?_eq_some_iff.1 hu).1
   refine IxA.rw rn_len E m2 (by omega) (by omega) (by omega) ?_
   rw[Int.toNat_natCast]
   intro a ha
   skip
   refine Fa.el ha ?_
   intro a2 ha2
   skip
   refine Ld.rw rn_len E m2 ha2 hn (by omega) (y:=i64 n.par) rfl ?_
   rw[hpar]
   skip
   refine IxA.rw rn_len E m2 (by omega) (by omega) (by omega) ?_
   rw[Int.toNat_natCast]
   intro a ha
   skip
   refine Fa.el ha ?_
   intro a2 ha2
   skip
   refine Fa.el ha2 ?_
   intro a3 ha3
   skip
   refine LdA.rw rn_len E m2 ha3 hu (by omega) (ds:=[i64 u.dir.kind,i64 u.dir.vers,i64 u.dir.path]) rfl rfl ?_
   repeat with_reducible first|refine StpE.go E ?_|(refine StpW.go E ?_;clear E;intro w_ E)
   refine⟨?_,E.tl.tl⟩
   unfold Tr.walk
   simp only[hget,hd,hp,Bool.not_true,Bool.false_eq_true,if_false,if_neg c1,if_pos c2,hpu,h.qid hum hug]
  refine(rValid_ok hnm).mono ?_
  rintro r w' ⟨rfl,rfl⟩
  refine Un.not ?_
  cases hv:goodName name with
  |false=>
   simp only[Bool.not_false]
   repeat with_reducible first|refine Stp.go ?_|refine StpE.go E ?_|(refine StpW.go E ?_;clear E;intro w_ E)
   exact⟨by unfold Tr.walk;simp only[hget,hd,hp,if_neg c1,if_neg c2,hv];rfl,E.tl.tl⟩
  |true=>
  simp only[Bool.not_true]
  repeat with_reducible first|refine Stp.go ?_|refine StpE.go E ?_
  refine(rChild_ok h hi hN m2 E).mono ?_
  clear E
  rintro r w_ ⟨⟨rfl,hk⟩|⟨k,u,rfl,hu,hug,hk⟩,E⟩
  ·(repeat first|(with_reducible first|refine Stp.go ?_|refine StpE.go E ?_|(refine StpW.go E ?_;clear E;intro w_ E))|((with_reducible refine Bi.dec true ?_ ?_);focus exact rfl))
   refine⟨?_,E.tl.tl⟩
   unfold Tr.walk
   have hk':T.kid n.nd.path name=none:=by rw[show n.nd.path=(i:Int)from h.idx i n hn];exact hk
   simp only[hget,hd,hp,if_neg c1,if_neg c2,hv,hk',Bool.not_true,Bool.false_eq_true,if_false]
  ·have hum:=List.mem_of_getElem? hu
   have hult:=(List.getElem?_eq_some_iff.1 hu).1
   refine Bi.lss (λhc=>absurd hc (by omega)) λ_=>?_
   repeat with_reducible first|refine Stp.go ?_|refine StpE.go E ?_
   refine IxA.rw rn_len E m2 (by omega) (by omega) (by omega) ?_
   rw[Int.toNat_natCast]
   intro a ha
   skip
   refine Fa.el ha ?_
   intro a2 ha2
   skip
   refine Fa.el ha2 ?_
   intro a3 ha3
   skip
   refine LdA.rw rn_len E m2 ha3 hu (by omega) (ds:=[i64 u.dir.kind,i64 u.dir.vers,i64 u.dir.path]) rfl rfl ?_
   repeat with_reducible first|refine StpE.go E ?_|(refine StpW.go E ?_;clear E;intro w_ E)
   refine⟨?_,E.tl.tl⟩
   unfold Tr.walk
   have hk':T.kid n.nd.path name=some u.nd:=by rw[show n.nd.path=(i:Int)from h.idx i n hn];exact hk
   simp only[hget,hd,hp,if_neg c1,if_neg c2,hv,hk',Bool.not_true,Bool.false_eq_true,if_false,h.qid hum hug]
theorem rStat_ok[iG:Scal gV][iN:Scal nV][iH:Scal hV](h:Rl R T)(hi:Inv T)(hN:R.ns.length≤1000000000){file:Int}(hm:NP nV R∈l)(E:Hs w0 F w l):
  Ca PP Fn.r28_Stat #[rV gV nV hV c,i64 file] w λr w'=>r=.tuple #[(T.stat file).1.V,i64 (T.stat file).2]∧Hs w0 F w' l:=by
 refine S.r28_Stat.calls ?_
 unfold S.r28_Stat
 refine StpA.go E ?_
 clear E
 intro q w_ hq E
 repeat with_reducible first|refine StpE.go E ?_|(refine StpA.go E ?_;clear E;intro b_ w_ hb_ E)
 (revert b_;intro q2 hbq2 E)
 have m2:NP nV R∈pt q2 (oc d0.cs Ty.t7)::pt q (oc [gV,nV,hV,i64 c] Ty.t0)::l:=List.mem_cons_of_mem _ (List.mem_cons_of_mem _ hm)
 refine(rExists_ok h hi hN m2 E).mono ?_
 clear E
 rintro r w_ ⟨rfl,E⟩
 refine Un.not ?_
 cases hget:T.get file with
 |none=>
  simp only[Option.isSome_none,Bool.not_false]
  repeat with_reducible first|refine Stp.go ?_|refine StpE.go E ?_|(refine StpW.go E ?_;clear E;intro w_ E)
  refine⟨by unfold Tr.stat;rw[hget];rfl,E.tl.tl⟩
 |some m=>
  simp only[Option.isSome_some,Bool.not_true]
  obtain⟨i,n,rfl,hn,hgone,rfl⟩:=h.sm hi hget
  have hnm2:=List.mem_of_getElem? hn
  have hlt:=(List.getElem?_eq_some_iff.1 hn).1
  repeat with_reducible first|refine Stp.go ?_|refine StpE.go E ?_
  refine IxA.rw rn_len E m2 (by omega) (by omega) (by omega) ?_
  rw[Int.toNat_natCast]
  intro a ha
  skip
  refine Fa.el ha ?_
  intro a2 ha2
  skip
  refine LdA.rw rn_len E m2 ha2 hn (by omega) (ds:=n.dir.cs) rfl rfl ?_
  repeat with_reducible first|refine StpE.go E ?_|(refine StpW.go E ?_;clear E;intro w_ E)
  refine⟨by unfold Tr.stat;simp only[hget];rw[h.stat hnm2 hgone],E.tl.tl⟩
set_option maxRecDepth 100000
set_option linter.unusedVariables false
set_option linter.unusedSimpArgs false
variable {T:Tr}
theorem find_chain(hi:Inv T){r n:Nd}(hr:T.get 0=some r)(hn:n∈T.ns)(rest:List BA):T.findN r (T.chain n++rest)=T.findN n rest:=by
 obtain⟨rk,hrk,hb⟩:=hi.rankB
 have key:∀(k:Nat) (n:Nd),n∈T.ns→rk n.path≤k→∀rest,T.findN r (T.chain n++rest)=T.findN n rest:=by
  intro k
  induction k with
  |zero=>
   intro n hn hk rest
   by_cases h0:n.path=0
   ·have:n=r:=hi.inj hn (hi.get.1 hr).1 (by rw[h0,(hi.get.1 hr).2])
    rw[chain_root h0,this];rfl
   ·have:=hrk n hn h0;omega
  |succ k ih=>
   intro n hn hk rest
   by_cases h0:n.path=0
   ·have:n=r:=hi.inj hn (hi.get.1 hr).1 (by rw[h0,(hi.get.1 hr).2])
    rw[chain_root h0,this];rfl
   ·have:=hrk n hn h0
    obtain⟨p1,p2,p3⟩:=parent_mem hi hn h0
    rw[chain_step hi hn h0,List.append_assoc,ih _ p1 (by rw[p2];omega)]
    show T.findN (T.parent n) (n.name::rest)=_
    rw[Tr.findN,if_neg (by rw[p3];simp),(kid_some hi).2 ⟨hn,h0,p2.symm,rfl⟩]
 exact key _ n hn (Nat.le_refl _) rest
theorem chain_inj(hi:Inv T){a b:Nd}(ha:a∈T.ns)(hb:b∈T.ns)(h:T.chain a=T.chain b):a=b:=by
 obtain⟨r,hr⟩:=root_get hi
 have h1:=find_chain hi hr ha []
 have h2:=find_chain hi hr hb []
 rw[h,h2]at h1
 have h3:b.qid=a.qid:=congrArg Prod.fst h1
 have h4:b.path=a.path:=congrArg Qd.path h3
 exact hi.inj ha hb h4.symm
theorem joinN_snoc:∀{l:List (List UInt8)} {x:List UInt8},l≠[]→Lib.join (l++[x]) [47]=Lib.join l [47]++47::x
 |[],_,h=>absurd rfl h
 |[y],x,_=>by simp[Lib.join,List.intercalate]
 |y::z::r,x,_=>by
  have ih:=joinN_snoc (l:=z::r) (x:=x) (by simp)
  unfold Lib.join at ih ⊢
  simp only[List.intercalate,List.cons_append,List.intersperse_cons_cons,List.flatten_cons]at ih ⊢
  simp only[List.append_assoc]
  rw[ih]
  simp

theorem pathS_step(hi:Inv T){n:Nd}(hn:n∈T.ns)(h0:n.path≠0):
  ((T.parent n).path=0∧(T.pathS n).data.toList=47::n.name.data.toList)∨((T.pathS (T.parent n)).data.toList≠[]∧(T.pathS n).data.toList=(T.pathS (T.parent n)).data.toList++47::n.name.data.toList):=by
 obtain⟨p1,p2,p3⟩:=parent_mem hi hn h0
 have e:T.pathS n=sep++joinS (T.chain (T.parent n)++[n.name]):=by unfold Tr.pathS;rw[chain_step hi hn h0]
 by_cases hc:T.chain (T.parent n)=[]
 ·left
  refine⟨?_,?_⟩
  ·obtain⟨r,hr⟩:=root_get hi
   have:T.parent n=r:=chain_inj hi p1 (hi.get.1 hr).1 (by rw[hc,chain_root (hi.get.1 hr).2])
   rw[this];exact(hi.get.1 hr).2
  ·rw[e,hc,List.nil_append,joinS_one]
   simp
 ·right
  refine⟨?_,?_⟩
  ·unfold Tr.pathS;simp
  ·have e1:∀L:List BA,(sep++joinS L).data.toList=47::Lib.join (L.map λx=>x.data.toList) [47]:=by
    intro L
    unfold joinS
    simp
   have e2:T.pathS (T.parent n)=sep++joinS (T.chain (T.parent n)):=rfl
   have:(T.chain (T.parent n)).map (λx:BA=>x.data.toList)≠[]:=by simpa using hc
   rw[e,e1,e2,e1,List.map_append,List.map_singleton,joinN_snoc this]
   rfl
theorem pathS_root{n:Nd}(h0:n.path=0):T.pathS n=sep:=by
 unfold Tr.pathS
 rw[chain_root h0];rfl
theorem pathS_nil(n:Nd):T.pathS n≠emp:=by
 intro h
 have:=congrArg (λx:BA=>x.data.toList) h
 unfold Tr.pathS at this
 simp[emp]at this


def Tr.order(T:Tr):List Nd:=match T.get 0 with
 |none=>[]
 |some r=>belowN T 2000 r

set_option maxRecDepth 100000
set_option linter.unusedVariables false
set_option linter.unusedSimpArgs false
variable {w0 w:World} {F:Nat→Prop} {l:List As}
variable {R:RT} {T:Tr} {gV nV hV:Value} {c:Int}
theorem rRead_ok[iG:Scal gV][iN:Scal nV][iH:Scal hV](h:Rl R T)(hi:Inv T)(hN:R.ns.length≤1000000000){hd off cnt:Int}(mN:NP nV R∈l)(mH:HP hV R∈l)(E:Hs w0 F w l):
  Ca PP Fn.r28_Read #[rV gV nV hV c,i64 hd,i64 off,i64 cnt] w λr w'=>r=.tuple #[str (T.read hd off cnt).1,i64 (T.read hd off cnt).2]∧Hs w0 F w' l:=by
 refine S.r28_Read.calls ?_
 unfold S.r28_Read
 refine StpA.go E ?_
 clear E
 intro q w_ hq E
 repeat with_reducible refine StpE.go E ?_
 have hhl:=h.hl
 refine(rHeld_ok h (List.mem_cons_of_mem _ mH) E).mono ?_
 clear E
 rintro r w_ ⟨rfl,E⟩
 refine Un.not ?_
 rcases h.op hd with⟨h2,-⟩|⟨i,x,rfl,hx,hx0,h2⟩
 ·rw[h2]
  simp only[Option.isSome_none,Bool.not_false]
  repeat with_reducible refine Stp.go ?_
  exact⟨by unfold Tr.read;rw[h2];rfl,E.tl⟩
 rw[h2]
 have hlt:=(List.getElem?_eq_some_iff.1 hx).1
 simp only[Option.isSome_some,Bool.not_true]
 repeat with_reducible first|refine Stp.go ?_|refine StpE.go E ?_
 refine Bi.sub (by omega) ?_
 skip
 refine IxA.rw rh_len E (List.mem_cons_of_mem _ mH) (by omega) (by omega) (by omega) ?_
 rw[show(1+(i:Int)-1).toNat=i by omega]
 intro a ha
 skip
 refine LdA.rw rh_len E (List.mem_cons_of_mem _ mH) ha hx (c:=0) (by omega) (ds:=x.cs) rfl rfl ?_
 repeat with_reducible first|refine Stp.go ?_|refine StpE.go E ?_|(refine StpW.go E ?_;clear E;intro w_ E)|(refine StpA.go E ?_;clear E;intro b_ w_ hb_ E)
 (revert b_;intro q3 hbq3 E)
 have m2:NP nV R∈pt q3 (oc x.cs Ty.t22)::pt q (oc [gV,nV,hV,i64 c] Ty.t0)::l:=List.mem_cons_of_mem _ (List.mem_cons_of_mem _ mN)
 refine Bi.eql ?_ ?_<;>intro c1<;>(repeat with_reducible first|refine Stp.go ?_|refine StpE.go E ?_)
 ·exact⟨by unfold Tr.read;rw[h2];simp only[];rw[if_pos c1];rfl,E.tl.tl⟩
 refine(rExists_ok h hi hN m2 E).mono ?_
 clear E
 rintro r w_ ⟨rfl,E⟩
 refine Un.not ?_
 cases hget:T.get x.file with
 |none=>
  simp only[Option.isSome_none,Bool.not_false]
  repeat with_reducible refine Stp.go ?_
  exact⟨by unfold Tr.read;rw[h2];simp only[hget];rw[if_neg c1];rfl,E.tl.tl⟩
 |some m=>
  simp only[Option.isSome_some,Bool.not_true]
  obtain⟨k,n,hf,hn,hgone,rfl⟩:=h.sm hi hget
  have hnm2:=List.mem_of_getElem? hn
  have hlt:=(List.getElem?_eq_some_iff.1 hn).1
  have hsz:=(hi.data _ (h.mem.2 ⟨n,hnm2,hgone,rfl⟩)).2
  repeat with_reducible first|refine Stp.go ?_|refine StpE.go E ?_
  rw[hf]
  refine(rDirectory_ok hn m2 E).mono ?_
  clear E
  rintro r w_ ⟨rfl,E⟩
  cases hd2:n.nd.dir with
  |true=>
   repeat with_reducible refine Stp.go ?_
   exact⟨by unfold Tr.read;rw[h2];simp only[hget,hd2];rw[if_neg c1];rfl,E.tl.tl⟩
  |false=>
  repeat with_reducible refine Stp.go ?_
  (intro J30 hJ30)
  have fin:∀b w_,b=decide (off<0∨cnt<0)→Hs w0 F w_ (pt q3 (oc x.cs Ty.t22)::pt q (oc [gV,nV,hV,i64 c] Ty.t0)::l)→J30 [.bool b] w_:=by
   intro b w_ hb E
   repeat with_reducible (apply hJ30;intro u_)
   by_cases c2:off<0∨cnt<0
   ·rw[decide_eq_true c2]at hb
    subst hb
    repeat with_reducible refine Stp.go ?_
    exact⟨by unfold Tr.read;rw[h2];simp only[hget,hd2];rw[if_neg c1];simp only[Bool.false_eq_true,if_false];rw[if_pos c2];rfl,E.tl.tl⟩
   rw[decide_eq_false c2]at hb
   subst hb
   repeat with_reducible first|refine Stp.go ?_|refine StpE.go E ?_
   rw[hf]
   refine IxA.rw rn_len E m2 (by omega) (by omega) (by omega) ?_
   rw[Int.toNat_natCast]
   intro a ha
   skip
   refine Fa.el ha ?_
   intro a2 ha2
   skip
   refine Ld.rw rn_len E m2 ha2 hn (by omega) (y:=str n.data) rfl ?_
   repeat with_reducible refine Stp.go ?_
   refine Bi.geq ?_ ?_<;>intro c3<;>(repeat with_reducible refine Stp.go ?_)
   ·exact⟨by unfold Tr.read;rw[h2];simp only[hget,hd2];rw[if_neg c1];simp only[Bool.false_eq_true,if_false];rw[if_neg c2,if_pos (show(n.nd.data.size:Int)≤off from c3)];rfl,E.tl.tl⟩
   have hs2:(n.data.extract off.toNat n.data.size).size=n.data.size-off.toNat:=by rw[ByteArray.size_extract];omega
   refine SlS.suf (by omega) (by omega) ?_
   repeat with_reducible refine Stp.go ?_
   refine Mn.mk ?_
   refine SlS.pre (by split<;>omega) (by rw[hs2];split<;>omega) ?_
   refine⟨?_,E.tl.tl⟩
   unfold Tr.read
   rw[h2]
   simp only[hget,hd2]
   rw[if_neg c1]
   simp only[Bool.false_eq_true,if_false]
   rw[if_neg c2,if_neg (show ¬(n.nd.data.size:Int)≤off from by show ¬(n.data.size:Int)≤off;omega)]
   have e:((n.data.extract off.toNat n.data.size).extract 0 (if cnt<((n.data.extract off.toNat n.data.size).size:Int)then cnt else((n.data.extract off.toNat n.data.size).size:Int)).toNat)=cutS n.nd.data off.toNat (off.toNat+min cnt.toNat (n.nd.data.size-off.toNat)):=by
    apply bts_inj
    have e1:(if cnt<((n.data.extract off.toNat n.data.size).size:Int)then cnt else((n.data.extract off.toNat n.data.size).size:Int)).toNat=min cnt.toNat (n.data.size-off.toNat):=by rw[hs2];split<;>omega
    rw[e1,bts_cut,bts_extr,bts_extr,List.drop_zero]
    show _=((bts n.data).take (off.toNat+min cnt.toNat (n.data.size-off.toNat))).drop off.toNat
    rw[List.take_of_length_le (l:=bts n.data) (by rw[bts_len];omega),List.drop_take,Nat.add_sub_cancel_left]
   rw[e]
  clear hJ30
  refine Bi.lss ?_ ?_<;>intro c2<;>(repeat with_reducible refine Stp.go ?_)
  ·exact fin _ _ (decide_eq_true (.inl c2)).symm E
  ·refine Bi.lss ?_ ?_<;>intro c3<;>(repeat with_reducible refine Stp.go ?_)
   ·exact fin _ _ (decide_eq_true (.inr c3)).symm E
   ·exact fin _ _ (decide_eq_false (by omega)).symm E
theorem rList_ok[iG:Scal gV][iN:Scal nV][iH:Scal hV](h:Rl R T)(hi:Inv T)(hN:R.ns.length≤1000000000){hd:Int}(mN:NP nV R∈l)(mH:HP hV R∈l)(E:Hs w0 F w l):
  Ca PP Fn.r28_List #[rV gV nV hV c,i64 hd] w λr w'=>∃v,r=.tuple #[v,i64 (T.list hd).2]∧Hs w0 F w' (slA v Ty.t7 10 (dcs (T.list hd).1)::l):=by
 refine S.r28_List.calls ?_
 unfold S.r28_List
 refine StpA.go E ?_
 clear E
 intro q w_ hq E
 repeat with_reducible refine StpE.go E ?_
 have hhl:=h.hl
 refine(rHeld_ok h (List.mem_cons_of_mem _ mH) E).mono ?_
 clear E
 rintro r w_ ⟨rfl,E⟩
 refine Un.not ?_
 rcases h.op hd with⟨h2,-⟩|⟨i,x,rfl,hx,hx0,h2⟩
 ·rw[h2]
  simp only[Option.isSome_none,Bool.not_false]
  repeat with_reducible refine Stp.go ?_
  have e:T.list hd=([],19):=by unfold Tr.list;rw[h2]
  rw[e]
  exact⟨_,rfl,Hs.nilSl E.tl _ _⟩
 rw[h2]
 have hlt:=(List.getElem?_eq_some_iff.1 hx).1
 simp only[Option.isSome_some,Bool.not_true]
 repeat with_reducible first|refine Stp.go ?_|refine StpE.go E ?_
 refine Bi.sub (by omega) ?_
 skip
 refine IxA.rw rh_len E (List.mem_cons_of_mem _ mH) (by omega) (by omega) (by omega) ?_
 rw[show(1+(i:Int)-1).toNat=i by omega]
 intro a ha
 skip
 refine LdA.rw rh_len E (List.mem_cons_of_mem _ mH) ha hx (c:=0) (by omega) (ds:=x.cs) rfl rfl ?_
 repeat with_reducible first|refine Stp.go ?_|refine StpE.go E ?_|(refine StpW.go E ?_;clear E;intro w_ E)|(refine StpA.go E ?_;clear E;intro b_ w_ hb_ E)
 (revert b_;intro q3 hbq3 E)
 have m2:NP nV R∈pt q3 (oc x.cs Ty.t22)::pt q (oc [gV,nV,hV,i64 c] Ty.t0)::l:=List.mem_cons_of_mem _ (List.mem_cons_of_mem _ mN)
 refine(rExists_ok h hi hN m2 E).mono ?_
 clear E
 rintro r w_ ⟨rfl,E⟩
 refine Un.not ?_
 cases hget:T.get x.file with
 |none=>
  simp only[Option.isSome_none,Bool.not_false]
  repeat with_reducible refine Stp.go ?_
  have e:T.list (1+(i:Int))=([],4):=by unfold Tr.list;rw[h2];simp only[hget]
  rw[e]
  exact⟨_,rfl,Hs.nilSl E.tl.tl _ _⟩
 |some m=>
  simp only[Option.isSome_some,Bool.not_true]
  obtain⟨k,n,hf,hn,hgone,rfl⟩:=h.sm hi hget
  repeat with_reducible first|refine Stp.go ?_|refine StpE.go E ?_
  rw[hf]
  refine(rDirectory_ok hn m2 E).mono ?_
  clear E
  rintro r w_ ⟨rfl,E⟩
  refine Un.not ?_
  cases hd2:n.nd.dir with
  |false=>
   simp only[Bool.not_false]
   repeat with_reducible refine Stp.go ?_
   have e:T.list (1+(i:Int))=([],18):=by unfold Tr.list;rw[h2];simp only[hget];rw[if_pos hd2]
   rw[e]
   exact⟨_,rfl,Hs.nilSl E.tl.tl _ _⟩
  |true=>
  simp only[Bool.not_true]
  repeat with_reducible first|refine Stp.go ?_|refine StpE.go E ?_
  rw[hf]
  refine(rChildren_ok h hi hN m2 E).mono ?_
  clear E
  intro cv w_ E
  have e:T.list (1+(i:Int))=((T.kidsS k).map Nd.stat,0):=by
   unfold Tr.list;rw[h2];simp only[hget];rw[if_neg (by rw[hd2];simp),show n.nd.path=(k:Int)from h.idx k n hn]
  rw[e]
  have hkl:=kidsS_len hi (k:Int)
  have hkm:∀y∈T.kidsS k,y∈T.ns:=λy hy=>(kidsS_mem hi hy).1
  generalize T.kidsS k=L at*
  refine BdS.nul E u_sl_Dir n_Dir ?_
  clear E
  intro v w_ E
  refine⟨λl1 w1=>∃(v:Value) (j:Nat),l1=[v,i64 j]∧j≤L.length∧Hs w0 F w1 (slA v Ty.t7 10 (dcs ((L.take j).map Nd.stat))::slA cv Ty.int64 1 (L.map λk=>i64 k.path)::pt q3 (oc x.cs Ty.t22)::pt q (oc [gV,nV,hV,i64 c] Ty.t0)::l),λl1 _=>match l1 with|[_,.int _ i]=>L.length-i.toNat|_=>0,⟨v,0,rfl,Nat.zero_le _,E⟩,?_⟩
  clear E
  rintro v t9 u w_ ⟨v',j,h1,hj,E⟩
  cases h1
  have hcr:RdS w0 F (slA v Ty.t7 10 (dcs ((L.take j).map Nd.stat))::slA cv Ty.int64 1 (L.map λk=>i64 k.path)::pt q3 (oc x.cs Ty.t22)::pt q (oc [gV,nV,hV,i64 c] Ty.t0)::l) 1 L.length cv (L.map λk=>i64 k.path):=by
   have:=RdS.by1 cv E
   rwa [List.length_map]at this
  refine hcr.len ?_
  refine Bi.lss ?_ ?_<;>intro hlt2<;>(repeat with_reducible first|refine Stp.go ?_|refine StpE.go E ?_|(refine StpW.go E ?_;clear E;intro w_ E))
  ·have hy:L[j]? =some (L[j]'(by omega)):=List.getElem?_eq_getElem (by omega)
   generalize L[j]'(by omega)=y at hy
   obtain⟨nn,hnn,hng,rfl⟩:=h.mem.1 (hkm y (List.mem_of_getElem? hy))
   obtain⟨m,hm⟩:=List.getElem?_of_mem hnn
   have hmp:=h.idx m nn hm
   have hml:=(List.getElem?_eq_some_iff.1 hm).1
   have m3:NP nV R∈slA v Ty.t7 10 (dcs ((L.take j).map Nd.stat))::slA cv Ty.int64 1 (L.map λk=>i64 k.path)::pt q3 (oc x.cs Ty.t22)::pt q (oc [gV,nV,hV,i64 c] Ty.t0)::l:=List.mem_cons_of_mem _ (List.mem_cons_of_mem _ m2)
   refine hcr.ix (by omega) (by omega) (by omega) ?_
   intro a ha
   skip
   refine ha.ld E (x:=i64 (m:Int)) (by rw[Int.toNat_natCast,Nat.mul_one,List.getElem?_drop,Nat.add_zero,List.getElem?_map,hy,← hmp];rfl) ?_
   skip
   refine IxA.rw rn_len E m3 (by omega) (by omega) (by omega) ?_
   rw[Int.toNat_natCast]
   intro a ha
   skip
   refine Fa.el ha ?_
   intro a2 ha2
   skip
   refine LdA.rw rn_len E m3 ha2 hm (by omega) (ds:=nn.dir.cs) rfl rfl ?_
   skip
   refine BdS.dir (d:=nn.dir) E ?_
   clear E
   intro v1 w_ E
   have hlt3:(dcs ((L.take j).map Nd.stat)).length=j*10:=by
    have:=rw_len (g:=Dr.cs) (sz:=10) (λ_=>rfl) ((L.take j).map Nd.stat)
    rw[List.length_map,List.length_take,Nat.min_eq_left hj]at this
    exact this
   refine Ap.el E (i:=1) rfl u_sl_Dir ⟨_,u_sl_Dir,λ_ h=>by cases h⟩ e_Dir (by omega) (Src.slice (show SliceAt v1 Ty.t7 10 nn.dir.cs w_ from E.sat _ List.mem_cons_self) rfl (by omega) (dr_scal _)) rfl (by rw[hlt3];omega) (by rw[hlt3];omega) ?_
   clear E
   intro v2 w_ E
   (try simp only[List.set_cons_zero,List.set_cons_succ,List.cons_append,List.nil_append,Nat.zero_add,Nat.add_zero]at E)
   refine Bi.add (by omega) ?_
   refine⟨⟨v2,j+1,by simp,by omega,?_⟩,by simp only[];omega⟩
   have e2:dcs ((L.take (j+1)).map Nd.stat)=dcs ((L.take j).map Nd.stat)++nn.dir.cs:=by
    rw[List.take_add_one,hy,List.map_append,Option.toList_some,List.map_singleton,dcs_app,h.stat hnn hng]
   rw[e2]
   exact E.tl
  ·rw[show L.take j=L from List.take_of_length_le (by omega)]at E
   refine⟨v,rfl,?_⟩
   exact E.drop (List.Sublist.cons_cons _ ((List.sublist_cons_self _ _).trans ((List.sublist_cons_self _ _).trans (List.sublist_cons_self _ _))))
set_option maxRecDepth 100000
set_option linter.unusedVariables false
set_option linter.unusedSimpArgs false
variable {w0:World} {F:Nat→Prop} {l:List As}

theorem AppendSeqI_ok{w:World}{g:Value}{gf:FuncId}{first cap:Array Value}{Pf:List Int→Int→Prop}{Whole:List Int→Prop}{own vis own' rest:List As}(hg:g=.func (.func gf) first cap)(hb:hasBody PP gf=true)
  (hit:Iter PP w0 F g i64 Pf Whole own vis own')(hsz:∀pre x,Pf pre x→pre.length<1000000000)(E:Hs w0 F w (own++rest)):
  Ca PP Fn.f26 #[.slice none 0 0,g] w λv w'=>∃xs,Whole xs∧Hs w0 F w' (slA v Ty.int 1 (xs.map i64)::(own'++rest)):=by
 refine S.f26.calls ?_
 unfold S.f26
 repeat with_reducible (refine StpA.go E ?_;clear E;intro b_ w_ hb_ E)
 (revert b_;intro b hbb E)
 replace E:=(E.nilSl Ty.int 1)
 refine RFo.hs hg hb hit (λpre ks=>∃v,ks=[slA v Ty.int 1 (pre.map i64),pt b (oc [v] Ty.sl_int)]) (λ_ _ _=>False) (λ_ _=>False) (ks:=[slA (.slice none 0 0) Ty.int 1 [],pt b (oc [.slice none 0 0] Ty.sl_int)]) E ⟨_,rfl⟩ ?_ ?_ (λ_ _ _ _ _ _ h _=>h.elim) (λ_ _ _ _ _ h _=>h.elim)
 ·clear E
  rintro r L D pre x w_ _ rest' Rn Re Rr hL hD hp ⟨v,rfl⟩ E hn - -
  simp only[List.cons_append,List.nil_append]at E
  repeat with_reducible first|refine Stp.go ?_|refine StpE.go E ?_|(refine StpW.go E ?_;clear E;intro w_ E)
  refine BdS.one E u_sl_int e_int rfl ?_
  intro v2 w_ E
  have:=hsz _ _ hp
  refine Ap.one E (i:=3) rfl u_sl_int ⟨_,u_sl_int,λ_ h=>by cases h⟩ e_int (Src.one E (by (first|assumption|exact FPt.mem|exact FMp.mem|exact FSl.mem|(repeat(first|assumption|with_reducible exact List.mem_cons_self|refine List.mem_cons_of_mem _ ?_)))) rfl) rfl (by simp;omega) (by simp;omega) ?_
  intro s' w_ E
  (try simp only[List.set_cons_zero,List.set_cons_succ,List.cons_append,List.nil_append,Nat.zero_add,Nat.add_zero]at E)
  repeat with_reducible (refine StpW.go E ?_;clear E;intro w_ E)
  refine hn _ _ ⟨s',rfl⟩ ?_
  simp only[List.cons_append,List.nil_append]
  (replace E:=(E.bSl v2))
  (replace E:=(E.bIx 0).tl)
  (replace E:=((((E.bPt b).bSl s').bPt D).bPt L))
  have e1:(pre++[x]).map i64=pre.map i64++[i64 x]:=by simp
  rw[e1]
  exact E
 ·clear E
  rintro D w_ xs _ hD hw ⟨v,rfl⟩ E
  simp only[List.cons_append,List.nil_append]at E
  repeat with_reducible first|refine Stp.go ?_|refine StpE.go E ?_|(refine StpW.go E ?_;clear E;intro w_ E)
  refine⟨xs,hw,?_⟩
  (replace E:=(E.bPt b))
  (replace E:=(E.bIx 0).tl)
  exact E
theorem CollectI_ok{w:World}{g:Value}{gf:FuncId}{first cap:Array Value}{Pf:List Int→Int→Prop}{Whole:List Int→Prop}{own vis own' rest:List As}(hg:g=.func (.func gf) first cap)(hb:hasBody PP gf=true)
  (hit:Iter PP w0 F g i64 Pf Whole own vis own')(hsz:∀pre x,Pf pre x→pre.length<1000000000)(E:Hs w0 F w (own++rest)):
  Ca PP Fn.f46 #[g] w λv w'=>∃xs,Whole xs∧Hs w0 F w' (slA v Ty.int 1 (xs.map i64)::(own'++rest)):=by
 refine S.f46.calls ?_
 unfold S.f46
 exact AppendSeqI_ok hg hb hit hsz E
def sortI(xs:List Int):List Int:=xs.mergeSort λx y=>decide (x≤y)
theorem SortI_ok{w:World}{v:Value}{xs:List Int}(hn:xs.length<4611686018427387904)(E:Hs w0 F w (slA v Ty.int 1 (xs.map i64)::l)):
  Ca PP Fn.slices_Sort_sl_int_int #[v] w λr w'=>Hs w0 F w' (slA v Ty.int 1 ((sortI xs).map i64)::l):=by
 have hs:=E.sat _ List.mem_cons_self
 rcases SliceAt.holds (enc:=Value.int .i64) hs with⟨rfl,h0⟩|⟨b,off,cap,rfl,hH,hlt,hcap⟩
 ·subst h0
  refine Calls.mono (Tryz.slices_Sort_int_none none 0 w) ?_
  rintro e w' ⟨rfl,rfl⟩
  exact⟨_,rfl,by simpa[sortI] using E⟩
 ·refine Calls.mono (Tryz.slices_Sort_int b off cap xs w hH hlt hn) ?_
  rintro e w' ⟨rfl,n,os,rfl⟩
  refine⟨_,rfl,?_⟩
  have:=hs_sortRow E (enc:=Value.int .i64) (k:=n) (os:=os) (d:=(xs.mergeSort λx y=>decide (x≤y)).toArray) rfl (by simp)
  exact this
theorem SortedI_ok{w:World}{g:Value}{gf:FuncId}{first cap:Array Value}{Pf:List Int→Int→Prop}{Whole:List Int→Prop}{own vis own' rest:List As}(hg:g=.func (.func gf) first cap)(hb:hasBody PP gf=true)
  (hit:Iter PP w0 F g i64 Pf Whole own vis own')(hsz:∀pre x,Pf pre x→pre.length<1000000000)(hw:∀xs,Whole xs→xs.length<4611686018427387904)(E:Hs w0 F w (own++rest)):
  Ca PP Fn.f55 #[g] w λv w'=>∃xs,Whole xs∧Hs w0 F w' (slA v Ty.int 1 ((sortI xs).map i64)::(own'++rest)):=by
 refine S.f55.calls ?_
 unfold S.f55
 refine(CollectI_ok hg hb hit hsz E).mono ?_
 clear E
 rintro v w_ ⟨xs,hx,E⟩
 refine(SortI_ok (hw _ hx) E).mono ?_
 clear E
 intro r w_ E
 exact⟨xs,hx,E⟩
theorem sortI_of{xs ys:List Int}(h:xs.Perm ys)(hs:ys.Pairwise λa b=>a<b):sortI xs=ys:=by
 have so:(sortI xs).Pairwise (λa b=>a≤b):=by
  have:=List.pairwise_mergeSort (le:=λx y:Int=>decide (x≤y)) (λa b c h1 h2=>by simp at h1 h2 ⊢;omega) (λa b=>by simp;omega) xs
  exact this.imp λh=>by simpa using h
 exact List.Perm.eq_of_pairwise (le:=λa b=>a≤b) (λa b _ _ h1 h2=>by omega) so (hs.imp λh=>by omega) ((List.mergeSort_perm _ _).trans h)
variable {w:World} {D:List Row} {X:PT} {T:Tr} {β:Int→Nat}
def Tr.handles (T : Tr) : List Int:=T.hs.map (·.1)
theorem KeysI_ok{m:Nat}(E:Hs w0 F w l):Ca PP Fn.f9 #[.map (some m)] w λr w'=>∃a,r=keysIF a∧Hs w0 F w' (pt a (oc [.map (some m)] Ty.t16)::l):=by
 refine S.f9.calls ?_
 unfold S.f9
 repeat with_reducible (refine StpA.go E ?_;clear E;intro b_ w_ hb_ E)
 exact⟨b_,rfl,E⟩
theorem Handles_ok(h:Tie D X T β)(hi:Inv T)(E:Hs w0 F w (trA X::l)):Ca PP Fn.f54 #[ptr X.t] w λr w'=>Hs w0 F w' (slA r Ty.int 1 (T.handles.map i64)::trA X::l):=by
 refine S.f54.calls ?_
 unfold S.f54
 refine Eq.ef u_p_tree rfl ?_
 replace E:=Hs.openT E
 repeat with_reducible first|refine Stp.go ?_|refine StpE.go E ?_
 refine(KeysI_ok E).mono ?_
 clear E
 rintro r w_ ⟨a,rfl,E⟩
 have hlen:=h.len.2
 have hfew:=hi.few.2
 (replace E:=((E.bIx 4).bIx 1))
 refine(SortedI_ok (rest:=tb X::mp X.fm (.int .i64) X.fM::mp X.gm .str X.gM::NT X.ps::DT X.ds::l) rfl b_keysI1 (keysI_iter (M:=X.ol)) (λpre x hp=>by have:=hp.1;omega) (λxs hx=>by have:=hx.length_eq;rw[List.length_map]at this;omega) E).mono ?_
 clear E
 rintro v w_ ⟨xs,hxs,E⟩
 simp only[List.cons_append,List.nil_append]at E
 have hs:T.handles.Pairwise λa b=>a<b:=by
  unfold Tr.handles
  rw[List.pairwise_map]
  exact hi.hsorted
 have e:sortI xs=T.handles:=sortI_of (hxs.trans h.keys) hs
 rw[e]at E
 skip
 (replace E:=(((((((E.bIx 0).bIx 7).bIx 7).bIx 4).bIx 7).bIx 7).bIx 7))
 replace E:=Hs.closeT X E
 replace E:=(E.bIx 1)
 exact E.drop (List.Sublist.cons_cons _ (List.Sublist.cons_cons _ (List.sublist_cons_self _ _)))
theorem Clock_ok(h:Tie D X T β)(E:Hs w0 F w (trA X::l)):Ca PP Fn.f57 #[ptr X.t] w λr w'=>r=i64 T.clock∧Hs w0 F w' (trA X::l):=by
 refine S.f57.calls ?_
 unfold S.f57
 refine Eq.ef u_p_tree rfl ?_
 replace E:=Hs.openT E
 repeat with_reducible first|refine Stp.go ?_|refine StpE.go E ?_
 exact⟨by rw[h.clock],Hs.closeT X E⟩
set_option maxRecDepth 100000
set_option linter.unusedVariables false
set_option linter.unusedSimpArgs false
variable {w0 w:World} {F:Nat→Prop} {l:List As}
variable {R:RT} {T:Tr} {gV nV hV:Value} {c:Int}
theorem rSplit2{s:BA}(E:Hs w0 F w l):Ca PP Fn.r28_Split #[str s] w λr w'=>∃v,r=.tuple #[v,i64 (splitP s).2]∧Hs w0 F w' (slA v Ty.t6 1 ((splitP s).1.map str)::l):=by
 by_cases hs:s.size≤1000000
 ·exact rSplit_ok hs E
 refine S.r28_Split.calls ?_
 unfold S.r28_Split
 repeat with_reducible refine Stp.go ?_
 refine Bi.gtr ?_ ?_<;>intro c1<;>(repeat with_reducible refine Stp.go ?_)
 ·have e:splitP s=([],3):=by unfold splitP;rw[if_pos (by omega)]
  rw[e]
  exact⟨_,rfl,Hs.nilSl E _ _⟩
 ·omega
theorem rFind_ok[iG:Scal gV][iN:Scal nV][iH:Scal hV](h:Rl R T)(hi:Inv T)(hN:R.ns.length≤1000000000){p:BA}(mN:NP nV R∈l)(E:Hs w0 F w l):
  Ca PP Fn.r28_Find #[rV gV nV hV c,str p] w λr w'=>r=.tuple #[(T.find p).1.V,i64 (T.find p).2]∧Hs w0 F w' l:=by
 refine S.r28_Find.calls ?_
 unfold S.r28_Find
 refine StpA.go E ?_
 clear E
 intro q w_ hq E
 repeat with_reducible (refine StpA.go E ?_;clear E;intro b_ w_ hb_ E)
 (revert b_;intro q2 hbq2 E)
 (intro J5 hJ5)
 have fin:∀b w_,b= !absP p→Hs w0 F w_ (pt q2 (oc [i64 0,i64 0,i64 0] Ty.t11)::pt q (oc [gV,nV,hV,i64 c] Ty.t0)::l)→J5 [.bool b] w_:=by
  intro b w_ hb E
  repeat with_reducible (apply hJ5;intro u_)
  cases ha:absP p with
  |false=>
   obtain rfl:b=true:=by rw[hb,ha];rfl
   repeat with_reducible first|refine Stp.go ?_|refine StpE.go E ?_|(refine StpW.go E ?_;clear E;intro w_ E)
   have e:T.find p=(q0,1):=by unfold Tr.find;rw[if_pos ha]
   rw[e]
   exact⟨rfl,E.tl.tl⟩
  |true=>
   have han:¬absP p=false:=by rw[ha];simp
   obtain rfl:b=false:=by rw[hb,ha];rfl
   repeat with_reducible refine Stp.go ?_
   refine(rSplit2 E).mono ?_
   clear E
   rintro r w_ ⟨v,rfl,E⟩
   repeat with_reducible refine Stp.go ?_
   refine Bi.neq ?_ ?_<;>intro h2<;>(repeat with_reducible first|refine Stp.go ?_|refine StpE.go E ?_|(refine StpW.go E ?_;clear E;intro w_ E))
   ·have e:T.find p=(q0,(splitP p).2):=by unfold Tr.find;rw[if_neg han,if_pos h2]
    rw[e]
    exact⟨rfl,E.tl.tl.tl⟩
   obtain⟨r0,hr0,hr1⟩:=hi.root
   have hg0:T.get 0=some r0:=hi.get.2 ⟨hr0,hr1⟩
   have e:T.find p=T.findN r0 (splitP p).1:=by unfold Tr.find;rw[if_neg han,if_neg (λhc=>hc h2)];simp only[hg0]
   rw[e]
   generalize hL:(splitP p).1=L at*
   have hlen:L.length≤1025:=by
    rw[← hL]
    unfold splitP
    split
    ·exact Nat.zero_le _
    split
    ·exact Nat.zero_le _
    ·have h1:=elems_tot p
     have h2:=tot_len (elemsC p)
     show(elemsC p).length≤1025
     omega
   obtain⟨i0,n0,e0,hn0,hng0,rfl⟩:=h.sm hi hg0
   have hi0:i0=0:=by omega
   subst hi0
   have m3:NP nV R∈slA v Ty.t6 1 (L.map str)::pt q2 (oc [i64 0,i64 0,i64 0] Ty.t11)::pt q (oc [gV,nV,hV,i64 c] Ty.t0)::l:=List.mem_cons_of_mem _ (List.mem_cons_of_mem _ (List.mem_cons_of_mem _ mN))
   refine⟨λl1 w1=>∃(j i:Nat) (n:RN),R.ns[j]? =some n∧n.gone=false∧i≤L.length∧T.findN n0.nd L=T.findN n.nd (L.drop i)∧l1=[i64 j,i64 i]∧Hs w0 F w1 (slA v Ty.t6 1 (L.map str)::pt q2 (oc [i64 0,i64 0,i64 0] Ty.t11)::pt q (oc [gV,nV,hV,i64 c] Ty.t0)::l),
    λl1 _=>match l1 with|[_,.int _ i]=>L.length-i.toNat|_=>0,⟨0,0,n0,hn0,hng0,Nat.zero_le _,rfl,rfl,E⟩,?_⟩
   clear E
   rintro t8 t9 e0 w1 ⟨j,i,n,hn,hng,hi',hf,h1,E⟩
   cases h1
   have hlt0:=(List.getElem?_eq_some_iff.1 hn).1
   have hnm:=List.mem_of_getElem? hn
   have hnp:=h.idx j n hn
   have hr:RdS w0 F (slA v Ty.t6 1 (L.map str)::pt q2 (oc [i64 0,i64 0,i64 0] Ty.t11)::pt q (oc [gV,nV,hV,i64 c] Ty.t0)::l) 1 L.length v (L.map str):=by
    have:=RdS.by1 v E
    rwa [List.length_map]at this
   refine hr.len ?_
   refine Bi.lss ?_ ?_<;>intro hlt<;>(repeat with_reducible first|refine Stp.go ?_|refine StpE.go E ?_)
   ·have hx:L[i]? =some L[i]:=List.getElem?_eq_getElem (by omega)
    have hd:L.drop i=L[i]::L.drop (i+1):=List.drop_eq_getElem_cons (by omega)
    refine(rDirectory_ok hn m3 E).mono ?_
    clear E
    rintro r w_ ⟨rfl,E⟩
    rw[hf,hd]
    refine Un.not ?_
    cases hdir:n.nd.dir with
    |false=>
     simp only[Bool.not_false]
     repeat with_reducible first|refine Stp.go ?_|refine StpE.go E ?_|(refine StpW.go E ?_;clear E;intro w_ E)
     have e2:T.findN n.nd (L[i]::L.drop (i+1))=(q0,18):=by unfold Tr.findN;rw[if_pos hdir]
     rw[e2]
     exact⟨rfl,E.tl.tl.tl⟩
    |true=>
     simp only[Bool.not_true]
     repeat with_reducible first|refine Stp.go ?_|refine StpE.go E ?_|(refine StpW.go E ?_;clear E;intro w_ E)
     refine hr.ix (by omega) (by omega) (by omega) ?_
     intro a ha
     skip
     refine ha.ld E (x:=str L[i]) (by rw[Int.toNat_natCast,Nat.mul_one,List.getElem?_drop,Nat.add_zero,List.getElem?_map,hx];rfl) ?_
     skip
     refine(rChild_ok h hi hN m3 E).mono ?_
     clear E
     rintro r w_ ⟨⟨rfl,hk⟩|⟨k,u,rfl,hu,hug,hk⟩,E⟩
     ·(repeat first|(with_reducible first|refine Stp.go ?_|refine StpE.go E ?_|(refine StpW.go E ?_;clear E;intro w_ E))|((with_reducible refine Bi.dec true ?_ ?_);focus exact rfl))
      have e2:T.findN n.nd (L[i]::L.drop (i+1))=(q0,4):=by unfold Tr.findN;rw[if_neg (by rw[hdir];simp)];rw[show n.nd.path=(j:Int)from hnp];simp only[hk]
      rw[e2]
      exact⟨rfl,E.tl.tl.tl⟩
     ·refine Bi.lss (λhc=>absurd hc (by omega)) λ_=>?_
      repeat with_reducible refine Stp.go ?_
      refine Bi.add (by omega) ?_
      refine⟨⟨k,i+1,u,hu,hug,by omega,?_,by simp,E⟩,by simp only[];omega⟩
      conv=>lhs;unfold Tr.findN
      rw[if_neg (by rw[hdir];simp),show n.nd.path=(j:Int)from hnp]
      simp only[hk]
   ·have:i=L.length:=by omega
    subst this
    rw[List.drop_length]at hf
    rw[hf]
    refine IxA.rw rn_len E m3 (by omega) (by omega) (by omega) ?_
    rw[Int.toNat_natCast]
    intro a ha
    skip
    refine Fa.el ha ?_
    intro a2 ha2
    skip
    refine Fa.el ha2 ?_
    intro a3 ha3
    skip
    refine LdA.rw rn_len E m3 ha3 hn (by omega) (ds:=[i64 n.dir.kind,i64 n.dir.vers,i64 n.dir.path]) rfl rfl ?_
    repeat with_reducible first|refine StpE.go E ?_|(refine StpW.go E ?_;clear E;intro w_ E)
    refine⟨?_,E.tl.tl.tl⟩
    unfold Tr.findN
    rw[h.qid hnm hng]
 clear hJ5
 repeat with_reducible refine Stp.go ?_
 by_cases h0:p.size=0
 ·have ha:absP p=false:=by
   rw[absP_first]
   have:p.data.toList.length=0:=h0
   rw[List.length_eq_zero_iff.1 this];rfl
  refine Bi.eql (λ_=>?_) λhc=>(hc (by omega)).elim
  repeat with_reducible refine Stp.go ?_
  exact fin true _ (by rw[ha];rfl) E
 ·refine Bi.eql (λhc=>(h0 (by omega)).elim) λ_=>?_
  obtain⟨b,hb,hb'⟩:=ba_get (s:=p) (i:=0) (by omega)
  repeat with_reducible refine Stp.go ?_
  refine IxS.mk (by omega) (by simpa using hb) ?_
  repeat with_reducible refine Stp.go ?_
  refine Bi.neq ?_ ?_<;>intro h1<;>(repeat with_reducible refine Stp.go ?_)
  ·refine fin true _ ?_ E
   rw[absP_eq,hb']
   have:¬b=47:=λe=>h1 (by rw[e];rfl)
   simp[this]
  ·refine fin false _ ?_ E
   rw[absP_eq,hb']
   have:b=47:=by
    apply UInt8.toNat_inj.1
    have:(b.toNat:Int)=47:=h1
    show b.toNat=47
    omega
   simp[this]
def Tr.topS(T:Tr)(n:Nd):BA:=if n.path=0 then emp else T.pathS n
theorem topS_step(hi:Inv T){n:Nd}(hn:n∈T.ns)(h0:n.path≠0):T.topS n=T.topS (T.parent n)++(sep++n.name):=by
 unfold Tr.topS
 rw[if_neg h0]
 apply ba_ext
 rcases pathS_step hi hn h0 with⟨h1,h2⟩|⟨h1,h2⟩
 ·rw[if_pos h1,h2];simp[emp]
 ·rw[h2]
  by_cases hp:(T.parent n).path=0
  ·have e:(T.pathS n).data.toList=47::n.name.data.toList∨True:=.inr trivial
   exfalso
   have hs:=h2
   have e1:=chain_step hi hn h0
   rw[chain_root hp,List.nil_append]at e1
   have e2:T.pathS n=sep++n.name:=by unfold Tr.pathS;rw[e1,joinS_one]
   rw[e2,pathS_root hp]at h2
   simp at h2
  ·rw[if_neg hp];simp
theorem rPath_ok[iG:Scal gV][iN:Scal nV][iH:Scal hV](h:Rl R T)(hi:Inv T)(hN:R.ns.length≤1000000000)(hps:∀n∈T.ns,(T.pathS n).size≤100000){file:Int}(mN:NP nV R∈l)(E:Hs w0 F w l):
  Ca PP Fn.r28_Path #[rV gV nV hV c,i64 file] w λr w'=>r=.tuple #[str (T.pathOf file).1,i64 (T.pathOf file).2]∧Hs w0 F w' l:=by
 refine S.r28_Path.calls ?_
 unfold S.r28_Path
 refine StpA.go E ?_
 clear E
 intro q w_ hq E
 repeat with_reducible refine StpE.go E ?_
 have m2:NP nV R∈pt q (oc [gV,nV,hV,i64 c] Ty.t0)::l:=List.mem_cons_of_mem _ mN
 refine(rExists_ok h hi hN m2 E).mono ?_
 clear E
 rintro r w_ ⟨rfl,E⟩
 refine Un.not ?_
 unfold Tr.pathOf
 cases hget:T.get file with
 |none=>
  simp only[Option.isSome_none,Bool.not_false]
  repeat with_reducible refine Stp.go ?_
  exact⟨rfl,E.tl⟩
 |some m=>
  simp only[Option.isSome_some,Bool.not_true]
  obtain⟨i,n,rfl,hn,hgone,rfl⟩:=h.sm hi hget
  have hnT:n.nd∈T.ns:=h.mem.2 ⟨n,List.mem_of_getElem? hn,hgone,rfl⟩
  have hsz:=hps _ hnT
  obtain⟨rk,hrk⟩:=hi.rank
  repeat with_reducible refine Stp.go ?_
  refine⟨λl1 w1=>∃(s:BA) (j:Nat) (x:RN),l1=[str s,i64 j]∧R.ns[j]? =some x∧x.gone=false∧T.topS n.nd=T.topS x.nd++s∧Hs w0 F w1 (pt q (oc [gV,nV,hV,i64 c] Ty.t0)::l),
   λl1 _=>match l1 with|[_,.int _ i]=>if i=0 then 0 else rk i+1|_=>0,⟨emp,i,n,rfl,hn,hgone,ba_ext (by simp[emp]),E⟩,?_⟩
  clear E
  rintro t6 t7 u w_ ⟨s,j,x,h1,hx,hxg,hs,E⟩
  cases h1
  have hxT:x.nd∈T.ns:=h.mem.2 ⟨x,List.mem_of_getElem? hx,hxg,rfl⟩
  have hxp:=h.idx j x hx
  have hlt:=(List.getElem?_eq_some_iff.1 hx).1
  have htop:(T.topS n.nd).size≤100000:=by
   unfold Tr.topS;split
   ·exact Nat.zero_le _
   ·exact hsz
  refine Bi.neq ?_ ?_<;>intro c1<;>(repeat with_reducible first|refine Stp.go ?_|refine StpE.go E ?_)
  ·have hx0:x.nd.path≠0:=by show x.dir.path≠0;rw[hxp];exact c1
   have hst:=topS_step hi hxT hx0
   rw[hst]at hs
   have hsz2:=congrArg ByteArray.size hs
   simp only[ByteArray.size_append]at hsz2
   have hnm:x.nd.name=x.dir.name:=rfl
   rw[hnm]at hsz2 hs
   have hss:ByteArray.size sep=1:=rfl
   refine IxA.rw rn_len E m2 (by omega) (by omega) (by omega) ?_
   rw[Int.toNat_natCast]
   intro a ha
   skip
   refine Fa.el ha ?_
   intro a2 ha2
   skip
   refine Fa.el ha2 ?_
   intro a3 ha3
   skip
   refine Ld.rw rn_len E m2 ha3 hx (by omega) (y:=str x.dir.name) rfl ?_
   skip
   refine Bi.sadd (s:=sep) (by omega) ?_
   skip
   refine Bi.sadd (by rw[ByteArray.size_append];omega) ?_
   repeat with_reducible first|refine Stp.go ?_|refine StpE.go E ?_
   refine IxA.rw rn_len E m2 (by omega) (by omega) (by omega) ?_
   rw[Int.toNat_natCast]
   intro a ha
   skip
   refine Fa.el ha ?_
   intro a2 ha2
   skip
   refine Ld.rw rn_len E m2 ha2 hx (by omega) (y:=i64 x.par) rfl ?_
   obtain⟨k,v,hpar,hv,hvg,hpv,-⟩:=h.parent hi hx hxg
   rw[hpar]
   refine⟨⟨sep++x.dir.name++s,k,v,rfl,hv,hvg,by rw[hs,hpv,ByteArray.append_assoc],E⟩,?_⟩
   simp only[]
   have:=hrk _ hxT hx0
   rw[show x.nd.up=(k:Int)from hpar,show x.nd.path=(j:Int)from hxp]at this
   rw[if_neg c1]
   split<;>omega
  ·have hx0:x.nd.path=0:=by show x.dir.path=0;rw[hxp];exact c1
   have e0:T.topS x.nd=emp:=by unfold Tr.topS;rw[if_pos hx0]
   rw[e0]at hs
   have hs:T.topS n.nd=s:=by rw[hs];exact ba_ext (by simp[emp])
   unfold Tr.topS at hs
   refine Bi.seql ?_ ?_<;>intro c2<;>(repeat with_reducible refine Stp.go ?_)
   ·by_cases hn0:n.nd.path=0
    ·exact⟨by rw[pathS_root hn0],E.tl⟩
    ·rw[if_neg hn0]at hs
     exact absurd (hs.trans c2) (pathS_nil n.nd)
   ·by_cases hn0:n.nd.path=0
    ·rw[if_pos hn0]at hs
     exact absurd hs.symm c2
    ·rw[if_neg hn0]at hs
     exact⟨by rw[hs],E.tl⟩
theorem rHeldL_ok[iG:Scal gV][iN:Scal nV][iH:Scal hV](h:Rl R T)(mH:HP hV R∈l)(E:Hs w0 F w l):Ca PP Fn.r28_Held #[rV gV nV hV c] w λr w'=>Hs w0 F w' (slA r Ty.int 1 (T.handles.map i64)::l):=by
 refine S.r28_Held.calls ?_
 unfold S.r28_Held
 refine StpA.go E ?_
 clear E
 intro q w_ hq E
 have hhl:=h.hl
 skip
 refine BdS.nul E u_sl_int si_int ?_
 clear E
 intro v0 w_ E
 have snoc:∀(L:List RH) (k:Int) (x:RH),heldL k (L++[x])=heldL k L++heldL (k+L.length) [x]:=by
  intro L
  induction L with
  |nil=>intro k x;simp[heldL]
  |cons y r ih=>
   intro k x
   have e:k+1+(r.length:Int)=k+((y::r).length:Int):=by rw[List.length_cons];omega
   rw[List.cons_append]
   unfold heldL
   split
   ·rw[ih,e];rfl
   ·rw[ih,e];rfl
 refine⟨λl1 w1=>∃(v:Value) (i:Nat),l1=[v,i64 i]∧i≤R.hs.length∧Hs w0 F w1 (slA v Ty.int 1 ((heldL 1 (R.hs.take i)).map λx=>i64 x.1)::pt q (oc [gV,nV,hV,i64 c] Ty.t0)::l),λl1 _=>match l1 with|[_,.int _ i]=>R.hs.length-i.toNat|_=>0,⟨v0,0,rfl,Nat.zero_le _,E⟩,?_⟩
 clear E
 rintro v t4 u w_ ⟨v',i,h1,hi,E⟩
 cases h1
 have hll:(heldL 1 (R.hs.take i)).length≤64:=by
  rw[heldL_len]
  exact Nat.le_trans (List.length_filter_le _ _) (by rw[List.length_take];omega)
 repeat with_reducible first|refine Stp.go ?_|refine StpE.go E ?_
 refine LnL.rw rh_len E (List.mem_cons_of_mem _ (List.mem_cons_of_mem _ mH)) (by omega) ?_
 refine Bi.lss ?_ ?_<;>intro hlt<;>(repeat with_reducible refine Stp.go ?_)
 ·have hn:R.hs[i]? =some (R.hs[i]'(by omega)):=List.getElem?_eq_getElem (by omega)
  generalize R.hs[i]'(by omega)=n at hn
  have tk:R.hs.take (i+1)=R.hs.take i++[n]:=by rw[List.take_add_one,hn];rfl
  have tl:(R.hs.take i).length=i:=by rw[List.length_take];omega
  (intro J15 hJ15)
  have fin:∀v w_,Hs w0 F w_ (slA v Ty.int 1 ((heldL 1 (R.hs.take (i+1))).map λx=>i64 x.1)::pt q (oc [gV,nV,hV,i64 c] Ty.t0)::l)→J15 [v] w_:=by
   intro v w_ E
   repeat with_reducible (apply hJ15;intro u_)
   refine Bi.add (by omega) ?_
   exact⟨⟨v,i+1,by simp,by omega,E⟩,by simp only[];omega⟩
  clear hJ15
  repeat with_reducible first|refine Stp.go ?_|refine StpE.go E ?_
  refine IxA.rw rh_len E (List.mem_cons_of_mem _ (List.mem_cons_of_mem _ mH)) (by omega) (by omega) (by omega) ?_
  rw[Int.toNat_natCast]
  intro a ha
  skip
  refine Fa.el ha ?_
  intro a2 ha2
  skip
  refine Ld.rw rh_len E (List.mem_cons_of_mem _ (List.mem_cons_of_mem _ mH)) ha2 hn (by omega) (y:=i64 n.mode) rfl ?_
  refine Bi.geq ?_ ?_<;>intro h0<;>(repeat with_reducible refine Stp.go ?_)
  ·refine Bi.add (by omega) ?_
   skip
   refine BdS.one E u_sl_int e_int rfl ?_
   clear E
   intro v1 w_ E
   refine Ap.one E (i:=1) rfl u_sl_int ⟨_,u_sl_int,λ_ h=>by cases h⟩ e_int (Src.one E List.mem_cons_self rfl) rfl (by simp;omega) (by simp;omega) ?_
   clear E
   intro v2 w_ E
   (try simp only[List.set_cons_zero,List.set_cons_succ,List.cons_append,List.nil_append,Nat.zero_add,Nat.add_zero]at E)
   refine fin v2 _ ?_
   rw[tk,snoc,List.map_append,tl]
   have e:heldL (1+(i:Int)) [n]=[(1+(i:Int),⟨n.file,n.mode,n.user⟩)]:=by unfold heldL;rw[if_neg (by omega)];rfl
   rw[e,List.map_singleton,show(1:Int)+i=i+1 by omega]
   exact E.tl
  ·refine fin v _ ?_
   rw[tk,snoc,List.map_append,tl]
   have e:heldL (1+(i:Int)) [n]=[]:=by unfold heldL;rw[if_pos (by omega)];rfl
   rw[e,List.map_nil,List.append_nil]
   exact E
 ·rw[show R.hs.take i=R.hs from List.take_of_length_le (by omega)]at E
  have e:T.handles.map i64=(heldL 1 R.hs).map λx=>i64 x.1:=by
   unfold Tr.handles;rw[h.hs,List.map_map];rfl
  rw[e]
  exact E.drop (List.Sublist.cons_cons _ (List.sublist_cons_self _ _))
set_option maxRecDepth 100000
set_option linter.unusedVariables false
set_option linter.unusedSimpArgs false
variable {w0 w:World} {F:Nat→Prop} {l:List As}
variable {R:RT} {T:Tr} {gV nV hV:Value} {c:Int}

def GoR(w0:World)(F:Nat→Prop)(l:List As)(gV:Value)(T':Tr)(r:Value)(w:World):Prop:=
 ∃nV hV R',r=rV gV nV hV R'.clock∧Scal nV∧Scal hV∧Rl R' T'∧Hs w0 F w (NP nV R'::HP hV R'::l)
theorem GoR.same[iN:Scal nV][iH:Scal hV](h:Rl R T)(E:Hs w0 F w (NP nV R::HP hV R::l)):GoR w0 F l gV T (rV gV nV hV R.clock) w:=⟨nV,hV,R,rfl,iN,iH,h,E⟩
theorem Rl.rng(h:Rl R T)(hi:Inv T)(hlim:Lim 1000000 T):R.ns.length≤1000000∧rngI (R.clock+1)∧∀n∈R.ns,n.gone=false→rngI (n.dir.vers+1):=by
 have h1:=h.next
 have h2:=hlim.next
 have h3:=h.clock
 have h4:=hlim.clock
 have h5:=hi.clock
 refine⟨by omega,⟨by omega,by omega⟩,λn hn hg=>?_⟩
 have hm:n.nd∈T.ns:=h.mem.2 ⟨n,hn,hg,rfl⟩
 have h6:=(hi.form _ hm).2.2.2.1
 have h7:=hlim.vers _ hm
 have e:n.nd.vers=n.dir.vers:=rfl
 rw[e]at h6 h7
 exact⟨by omega,by omega⟩
theorem Rl.dropped(h:Rl R T){i k:Nat}{n u:RN}(user:BA)(hn:R.ns[i]? =some n)(hgn:n.gone=false)(hp:n.par=k)(hu:R.ns[k]? =some u)(hug:u.gone=false)(hki:k≠i):
  Rl {R with ns:=(R.ns.set k (u.tch (R.clock+1) user)).set i n.dead,clock:=R.clock+1} (T.drop user n.nd):=by
 have h1:=h.kill hn
 have hu1:(R.ns.set i n.dead)[k]? =some u:=by rw[← hu];exact List.getElem?_set_ne (λhc=>hki hc.symm)
 have h2:=h1.put (R:={R with ns:=R.ns.set i n.dead}) (n':=u.tch (R.clock+1) user) hu1 hug rfl hug (h.form u (List.mem_of_getElem? hu) hug) (f:=touchN (R.clock+1) user) rfl (R.clock+1)
 have e:T.drop user n.nd={T with ns:=updN (T.ns.filter λx=>decide (x.path≠(i:Int))) k (touchN (R.clock+1) user),clock:=R.clock+1}:=by
  unfold Tr.drop
  rw[change_one,show n.nd.path=(i:Int)from h.idx i n hn,show n.nd.up=(k:Int)from hp,h.clock]
 rw[e,List.set_comm _ _ hki]
 exact h2
theorem kidsS_same(hi:Inv T)(p:Int):(T.kidsS p).length=(T.kids p).length:=by
 have h1:=congrArg List.length (kidsS_names hi p)
 rw[List.length_map,sortS_len,List.length_map]at h1
 exact h1
theorem rRemove_ok[iG:Scal gV][iN:Scal nV][iH:Scal hV](h:Rl R T)(hi:Inv T)(hlim:Lim 1000000 T)(hg:GOk w0 F l gV T.gs){user:BA}{file:Int}(E:Hs w0 F w (NP nV R::HP hV R::l)):
  Ca PP Fn.r28_Remove #[rV gV nV hV R.clock,str user,i64 file] w λr w'=>∃tv,r=.tuple #[tv,i64 (T.remove user file).2]∧GoR w0 F l gV (T.remove user file).1 tv w':=by
 obtain⟨hN,hrc,hrv⟩:=h.rng hi hlim
 have hhl:=h.hl
 refine S.r28_Remove.calls ?_
 unfold S.r28_Remove
 refine StpA.go E ?_
 clear E
 intro q w_ hq E
 repeat with_reducible first|refine StpE.go E ?_|(refine StpA.go E ?_;clear E;intro b_ w_ hb_ E)
 (revert b_;intro q2 hbq2 E)
 have m2:NP nV R∈pt q2 (oc [.slice none 0 0,.slice none 0 0,.slice none 0 0,i64 0] Ty.t0)::pt q (oc [gV,nV,hV,i64 R.clock] Ty.t0)::NP nV R::HP hV R::l:=List.mem_of_getElem? (i:=2) rfl
 have g2:=(((hg.cons (HP hV R)).cons (NP nV R)).cons (pt q (oc [gV,nV,hV,i64 R.clock] Ty.t0))).cons (pt q2 (oc [.slice none 0 0,.slice none 0 0,.slice none 0 0,i64 0] Ty.t0))
 refine(rExists_ok h hi (by omega) m2 E).mono ?_
 clear E
 rintro r w_ ⟨rfl,E⟩
 refine Un.not ?_
 cases hget:T.get file with
 |none=>
  simp only[Option.isSome_none,Bool.not_false]
  repeat with_reducible first|refine Stp.go ?_|refine StpE.go E ?_|(refine StpW.go E ?_;clear E;intro w_ E)
  have e:T.remove user file=(T,4):=by unfold Tr.remove;rw[hget]
  rw[e]
  exact⟨_,rfl,.same h E.tl.tl⟩
 |some m=>
  simp only[Option.isSome_some,Bool.not_true]
  obtain⟨i,n,rfl,hn,hgone,rfl⟩:=h.sm hi hget
  have hnm2:=List.mem_of_getElem? hn
  have hlt:=(List.getElem?_eq_some_iff.1 hn).1
  have hpi:n.nd.path=(i:Int):=h.idx i n hn
  repeat with_reducible refine Stp.go ?_
  refine Bi.eql ?_ ?_<;>intro c1<;>(repeat with_reducible first|refine Stp.go ?_|refine StpE.go E ?_|(refine StpW.go E ?_;clear E;intro w_ E))
  ·have e:T.remove user i=(T,1):=by unfold Tr.remove;simp only[hget];rw[if_pos (by rw[hpi];exact c1)]
   rw[e]
   exact⟨_,rfl,.same h E.tl.tl⟩
  have c1':¬n.nd.path=0:=by rw[hpi];exact c1
  obtain⟨k,u,hpar,hu,hug,hpu,hki⟩:=h.parent hi hn hgone
  have hki:=hki c1'
  have hult:=(List.getElem?_eq_some_iff.1 hu).1
  refine IxA.rw rn_len E m2 (by omega) (by omega) (by omega) ?_
  rw[Int.toNat_natCast]
  intro a ha
  skip
  refine Fa.el ha ?_
  intro a2 ha2
  skip
  refine Ld.rw rn_len E m2 ha2 hn (by omega) (y:=i64 n.par) rfl ?_
  rw[hpar]
  skip
  refine(rMay2 g2 hu m2 E).mono ?_
  clear E
  rintro r w_ ⟨rfl,E⟩
  refine Un.not ?_
  cases hp:T.may user u.nd 2 with
  |false=>
   simp only[Bool.not_false]
   repeat with_reducible first|refine Stp.go ?_|refine StpE.go E ?_|(refine StpW.go E ?_;clear E;intro w_ E)
   have e:T.remove user i=(T,17):=by unfold Tr.remove;simp only[hget];rw[if_neg c1',if_pos (by rw[hpu];exact hp)]
   rw[e]
   exact⟨_,rfl,.same h E.tl.tl⟩
  |true=>
  have hp':¬T.may user (T.parent n.nd) 2=false:=by rw[hpu,hp];simp
  simp only[Bool.not_true]
  repeat with_reducible first|refine Stp.go ?_|refine StpE.go E ?_
  refine(rChildren_ok h hi (by omega) m2 E).mono ?_
  clear E
  intro cv w_ E
  have hcr:=RdS.by1 cv E
  rw[List.length_map]at hcr
  refine hcr.len ?_
  have hks:=kidsS_same hi (i:Int)
  refine Bi.gtr ?_ ?_<;>intro c2<;>(repeat with_reducible first|refine Stp.go ?_|refine StpE.go E ?_|(refine StpW.go E ?_;clear E;intro w_ E))
  ·have e:T.remove user i=(T,6):=by unfold Tr.remove;simp only[hget];rw[if_neg c1',if_neg hp',if_pos (by omega)]
   rw[e]
   exact⟨_,rfl,.same h E.tl.tl.tl⟩
  have e:T.remove user i=(T.drop user n.nd,0):=by unfold Tr.remove;simp only[hget];rw[if_neg c1',if_neg hp',if_neg (by omega)]
  rw[e]
  refine(rCopied_ok (by omega) (by omega) (List.mem_of_getElem? (i:=3) rfl) (List.mem_of_getElem? (i:=4) rfl) E).mono ?_
  clear E
  rintro r w_ ⟨n2,h2,rfl,i2,i3,E⟩
  skip
  refine(rDrop_ok hn hpar hu hki hrc (hrv u (List.mem_of_getElem? hu) hug) E).mono ?_
  clear E
  rintro r w_ ⟨rfl,E⟩
  repeat with_reducible first|refine StpE.go E ?_|(refine StpW.go E ?_;clear E;intro w_ E)
  have hd:=h.dropped user hn hgone hpar hu hug hki
  refine⟨_,rfl,n2,h2,_,rfl,i2,i3,hd,?_⟩
  exact E.drop (List.Sublist.cons_cons _ (List.Sublist.cons_cons _ (List.sublist_append_right [_,_,_,_,_] l)))
def dead0:RH:=⟨0,-1,emp⟩
theorem rClose_ok[iG:Scal gV][iN:Scal nV][iH:Scal hV](h:Rl R T)(hi:Inv T)(hlim:Lim 1000000 T){hd:Int}(E:Hs w0 F w (NP nV R::HP hV R::l)):
  Ca PP Fn.r28_Close #[rV gV nV hV R.clock,i64 hd] w λr w'=>∃tv,r=.tuple #[tv,i64 (T.close hd).2]∧GoR w0 F l gV (T.close hd).1 tv w':=by
 obtain⟨hN,hrc,hrv⟩:=h.rng hi hlim
 have hhl:=h.hl
 refine S.r28_Close.calls ?_
 unfold S.r28_Close
 refine StpA.go E ?_
 clear E
 intro q w_ hq E
 repeat with_reducible first|refine StpE.go E ?_|(refine StpA.go E ?_;clear E;intro b_ w_ hb_ E)
 (revert b_;intro q2 hbq2 E)
 refine(rHeld_ok h (List.mem_of_getElem? (i:=3) rfl) E).mono ?_
 clear E
 rintro r w_ ⟨rfl,E⟩
 refine Un.not ?_
 rcases h.op hd with⟨h2,-⟩|⟨j,x,rfl,hx,hx0,h2⟩
 ·rw[h2]
  simp only[Option.isSome_none,Bool.not_false]
  repeat with_reducible first|refine Stp.go ?_|refine StpE.go E ?_|(refine StpW.go E ?_;clear E;intro w_ E)
  have e:T.close hd=(T,19):=by unfold Tr.close;rw[h2]
  rw[e]
  exact⟨_,rfl,.same h E.tl.tl⟩
 rw[h2]
 have hlt:=(List.getElem?_eq_some_iff.1 hx).1
 simp only[Option.isSome_some,Bool.not_true]
 repeat with_reducible first|refine Stp.go ?_|refine StpE.go E ?_
 refine Bi.sub (by omega) ?_
 skip
 refine IxA.rw rh_len E (List.mem_of_getElem? (i:=3) rfl) (by omega) (by omega) (by omega) ?_
 rw[show(1+(j:Int)-1).toNat=j by omega]
 intro a ha
 skip
 refine LdA.rw rh_len E (List.mem_of_getElem? (i:=3) rfl) ha hx (c:=0) (by omega) (ds:=x.cs) rfl rfl ?_
 repeat with_reducible first|refine StpE.go E ?_|(refine StpW.go E ?_;clear E;intro w_ E)|(refine StpA.go E ?_;clear E;intro b_ w_ hb_ E)
 (revert b_;intro q3 hbq3 E)
 refine(rCopied_ok (R:=R) (by omega) (by omega) (List.mem_of_getElem? (i:=3) rfl) (List.mem_of_getElem? (i:=4) rfl) E).mono ?_
 clear E
 rintro r w_ ⟨n2,v2,rfl,i2,i3,E⟩
 repeat with_reducible first|refine Stp.go ?_|refine StpE.go E ?_|(refine StpW.go E ?_;clear E;intro w_ E)|(refine StpA.go E ?_;clear E;intro b_ w_ hb_ E)
 (revert b_;intro q4 hbq4 E)
 refine Bi.sub (by omega) ?_
 repeat with_reducible refine StpE.go E ?_
 refine IxA.rw rh_len E (List.mem_of_getElem? (i:=2) rfl) (by omega) (by omega) (by omega) ?_
 rw[show(1+(j:Int)-1).toNat=j by omega]
 intro a ha
 skip
 refine StA.rw (j:=2) (c:=0) (n:=3) rh_len E rfl ha hx rfl (by omega) rfl (y:=dead0) rfl ?_
 clear E
 intro w_ E
 (try simp only[List.set_cons_zero,List.set_cons_succ,List.cons_append,List.nil_append,Nat.zero_add,Nat.add_zero]at E)
 have hf:=h.free (i:=j) (d:=dead0) (show dead0.mode<0 by decide)
 have hcl:T.close (1+(j:Int))=(match T.get x.file with
  |some n=>if andI x.mode 64≠0 then(({T with hs:=delL T.hs (1+(j:Int))}:Tr).drop x.user n,0)else(({T with hs:=delL T.hs (1+(j:Int))}:Tr),0)
  |none=>(({T with hs:=delL T.hs (1+(j:Int))}:Tr),0)):=by
  unfold Tr.close;rw[h2];rfl
 rw[hcl]
 clear hcl
 (intro J32 hJ32)
 have fin:∀(R':RT) (T':Tr) w_,Rl R' T'→T'=(match T.get x.file with
  |some n=>if andI x.mode 64≠0 then(({T with hs:=delL T.hs (1+(j:Int))}:Tr).drop x.user n,(0:Int))else(({T with hs:=delL T.hs (1+(j:Int))}:Tr),0)
  |none=>(({T with hs:=delL T.hs (1+(j:Int))}:Tr),0)).1→Hs w0 F w_ (pt q4 (oc [gV,n2,v2,i64 R'.clock] Ty.t0)::NP n2 R'::HP v2 R'::pt q3 (oc x.cs Ty.t22)::pt q2 (oc [.slice none 0 0,.slice none 0 0,.slice none 0 0,i64 0] Ty.t0)::pt q (oc [gV,nV,hV,i64 R.clock] Ty.t0)::NP nV R::HP hV R::l)→J32 [] w_:=by
  intro R' T' w_ hr hT E
  repeat with_reducible first|refine StpE.go E ?_|(refine StpW.go E ?_;clear E;intro w_ E)|(apply hJ32;intro u_)
  rw[← hT]
  refine⟨_,by
   cases T.get x.file with
   |none=>rfl
   |some n=>simp only[];split<;>rfl,n2,v2,R',rfl,i2,i3,hr,?_⟩
  exact E.tl.drop (List.Sublist.cons_cons _ (List.Sublist.cons_cons _ (List.sublist_append_right [_,_,_,_,_] l)))
 clear hJ32
 (intro J38 hJ38)
 have fin2:∀b w_,b=(decide (andI x.mode 64≠0) && (T.get x.file).isSome)→Hs w0 F w_ (pt q4 (oc [gV,n2,v2,i64 R.clock] Ty.t0)::NP n2 R::HP v2 {R with hs:=R.hs.set j dead0}::pt q3 (oc x.cs Ty.t22)::pt q2 (oc [.slice none 0 0,.slice none 0 0,.slice none 0 0,i64 0] Ty.t0)::pt q (oc [gV,nV,hV,i64 R.clock] Ty.t0)::NP nV R::HP hV R::l)→J38 [.bool b] w_:=by
  intro b w_ hb E
  repeat with_reducible (apply hJ38;intro u_)
  by_cases cm:andI x.mode 64≠0
  rotate_left
  ·rw[decide_eq_false cm,Bool.false_and]at hb
   subst hb
   repeat with_reducible refine Stp.go ?_
   refine fin {R with hs:=R.hs.set j dead0} _ _ hf ?_ E
   cases T.get x.file with
   |none=>rfl
   |some n=>simp only[if_neg cm]
  rw[decide_eq_true cm,Bool.true_and]at hb
  subst hb
  cases hget:T.get x.file with
  |none=>
   simp only[Option.isSome_none]
   repeat with_reducible refine Stp.go ?_
   exact fin {R with hs:=R.hs.set j dead0} _ _ hf (by rw[hget]) E
  |some m=>
   simp only[Option.isSome_some]
   obtain⟨i,n,hfile,hn,hgone,rfl⟩:=h.sm hi hget
   have hnT:n.nd∈T.ns:=h.mem.2 ⟨n,List.mem_of_getElem? hn,hgone,rfl⟩
   have hpi:n.nd.path=(i:Int):=h.idx i n hn
   have c0:n.nd.path≠0:=by
    intro h0
    have hmem:((1:Int)+j,(⟨x.file,x.mode,x.user⟩:Hd))∈T.hs:=(getL_some (hs_nodup hi)).1 h2
    have hd1:=hi.hclose _ hmem (λhm0=>cm (by have:x.mode=0:=hm0;rw[this];decide)) n.nd hnT (by show n.nd.path=x.file;rw[hpi,hfile])
    have hd2:=(hi.rootD _ hnT h0).1
    rw[hd1]at hd2;cases hd2
   obtain⟨k,u,hpar,hu,hug,hpu,hki⟩:=h.parent hi hn hgone
   have hki:=hki c0
   repeat with_reducible first|refine Stp.go ?_|refine StpE.go E ?_
   rw[hfile]
   (replace E:=((E.bIx 0).bIx 1))
   refine(rDrop_ok hn hpar hu hki hrc (hrv u (List.mem_of_getElem? hu) hug) E).mono ?_
   clear E
   rintro r w_ ⟨rfl,E⟩
   (replace E:=((E.bIx 0).bIx 1))
   repeat with_reducible (refine StpW.go E ?_;clear E;intro w_ E)
   have hd:=hf.dropped (R:={R with hs:=R.hs.set j dead0}) x.user hn hgone hpar hu hug hki
   exact fin _ _ _ hd (by rw[hget];simp only[if_pos cm]) E
 clear hJ38
 repeat with_reducible first|refine Stp.go ?_|refine StpE.go E ?_
 refine Bi.neq ?_ ?_<;>intro cm<;>(repeat with_reducible first|refine Stp.go ?_|refine StpE.go E ?_)
 ·refine(rExists_ok h hi (by omega) (List.mem_of_getElem? (i:=6) rfl) E).mono ?_
  clear E
  rintro r w_ ⟨rfl,E⟩
  repeat with_reducible refine Stp.go ?_
  exact fin2 _ _ (by rw[decide_eq_true cm,Bool.true_and]) E
 ·exact fin2 false _ (by rw[decide_eq_false (by simpa using cm),Bool.false_and]) E
set_option maxRecDepth 100000
set_option linter.unusedVariables false
set_option linter.unusedSimpArgs false
variable {w0 w:World} {F:Nat→Prop} {l:List As}
variable {R:RT} {T:Tr} {gV nV hV:Value} {c:Int}
def RN.wrt(n:RN)(c:Int)(u:BA)(W:BA):RN:={n.tch c u with data:=W,dir:={(n.tch c u).dir with len:=W.size}}
theorem ba_emp{d:BA}(h:d≠emp):0<d.size:=by
 rcases Nat.eq_zero_or_pos d.size with h1|h1
 ·exact absurd (ba_ext (by
   have:d.data.size=0:=h1
   rw[Array.size_eq_zero_iff]at this
   rw[this];rfl)) h
 ·exact h1
theorem Rl.wrote(h:Rl R T){i:Nat}{n:RN}(user:BA)(at_:Nat)(d:BA)(hn:R.ns[i]? =some n)(hg:n.gone=false):
  Rl {R with ns:=R.ns.set i (n.wrt (R.clock+1) user (overW n.data at_ d)),clock:=R.clock+1} ((T.change user [(i:Int)]).upd i λn=>{n with data:=overW n.data at_ d}):=by
 have e2:(T.change user [(i:Int)]).upd i (λn=>{n with data:=overW n.data at_ d})={T with ns:=updN T.ns i (λm=>{touchN (R.clock+1) user m with data:=overW m.data at_ d}),clock:=R.clock+1}:=by
  rw[change_one,h.clock]
  unfold Tr.upd
  simp only[]
  rw[updN_updN (f1:=touchN (R.clock+1) user) (λn=>rfl)]
  rfl
 rw[e2]
 exact h.put hn hg (n':=n.wrt (R.clock+1) user (overW n.data at_ d)) rfl hg ⟨(h.form n (List.mem_of_getElem? hn) hg).1,rfl⟩ (f:=λm=>{touchN (R.clock+1) user m with data:=overW m.data at_ d}) rfl _
theorem rWrite_ok[iG:Scal gV][iN:Scal nV][iH:Scal hV](h:Rl R T)(hi:Inv T)(hlim:Lim 1000000 T){hd off:Int}{d:BA}(E:Hs w0 F w (NP nV R::HP hV R::l)):
  Ca PP Fn.r28_Write #[rV gV nV hV R.clock,i64 hd,i64 off,str d] w λr w'=>∃tv,r=.tuple #[tv,i64 (T.write hd off d).2.1,i64 (T.write hd off d).2.2]∧GoR w0 F l gV (T.write hd off d).1 tv w':=by
 obtain⟨hN,hrc,hrv⟩:=h.rng hi hlim
 have hhl:=h.hl
 refine S.r28_Write.calls ?_
 unfold S.r28_Write
 refine StpA.go E ?_
 clear E
 intro q w_ hq E
 repeat with_reducible first|refine StpE.go E ?_|(refine StpA.go E ?_;clear E;intro b_ w_ hb_ E)
 (revert b_;intro q2 hbq2 E)
 refine(rHeld_ok h (List.mem_of_getElem? (i:=3) rfl) E).mono ?_
 clear E
 rintro r w_ ⟨rfl,E⟩
 refine Un.not ?_
 rcases h.op hd with⟨h2,-⟩|⟨j,x,rfl,hx,hx0,h2⟩
 ·rw[h2]
  simp only[Option.isSome_none,Bool.not_false]
  repeat with_reducible first|refine Stp.go ?_|refine StpE.go E ?_|(refine StpW.go E ?_;clear E;intro w_ E)
  have e:T.write hd off d=(T,0,19):=by unfold Tr.write;rw[h2]
  rw[e]
  exact⟨_,rfl,.same h E.tl.tl⟩
 rw[h2]
 have hlt:=(List.getElem?_eq_some_iff.1 hx).1
 simp only[Option.isSome_some,Bool.not_true]
 repeat with_reducible first|refine Stp.go ?_|refine StpE.go E ?_
 refine Bi.sub (by omega) ?_
 skip
 refine IxA.rw rh_len E (List.mem_of_getElem? (i:=3) rfl) (by omega) (by omega) (by omega) ?_
 rw[show(1+(j:Int)-1).toNat=j by omega]
 intro a ha
 skip
 refine LdA.rw rh_len E (List.mem_of_getElem? (i:=3) rfl) ha hx (c:=0) (by omega) (ds:=x.cs) rfl rfl ?_
 repeat with_reducible first|(refine StpW.go E ?_;clear E;intro w_ E)|(refine StpA.go E ?_;clear E;intro b_ w_ hb_ E)
 (revert b_;intro q3 hbq3 E)
 obtain⟨file,mode,user⟩:=x
 (intro J20 hJ20)
 have fin20:∀b w_,b=decide (andI mode 3≠1∧andI mode 3≠2)→Hs w0 F w_ (pt q3 (oc [i64 file,i64 mode,str user] Ty.t22)::pt q2 (oc [.slice none 0 0,.slice none 0 0,.slice none 0 0,i64 0] Ty.t0)::pt q (oc [gV,nV,hV,i64 R.clock] Ty.t0)::NP nV R::HP hV R::l)→J20 [.bool b] w_:=by
  intro b w_ hb E
  repeat with_reducible (apply hJ20;intro u_)
  clear hJ20
  by_cases c1:andI mode 3≠1∧andI mode 3≠2
  ·rw[decide_eq_true c1]at hb
   subst hb
   repeat with_reducible first|refine Stp.go ?_|refine StpE.go E ?_|(refine StpW.go E ?_;clear E;intro w_ E)
   have e:T.write (1+(j:Int)) off d=(T,0,20):=by unfold Tr.write;rw[h2];simp only[];rw[if_pos c1]
   rw[e]
   exact⟨_,rfl,.same h E.tl.tl.tl⟩
  rw[decide_eq_false c1]at hb
  subst hb
  repeat with_reducible first|refine Stp.go ?_|refine StpE.go E ?_
  have m2:NP nV R∈pt q3 (oc [i64 file,i64 mode,str user] Ty.t22)::pt q2 (oc [.slice none 0 0,.slice none 0 0,.slice none 0 0,i64 0] Ty.t0)::pt q (oc [gV,nV,hV,i64 R.clock] Ty.t0)::NP nV R::HP hV R::l:=List.mem_of_getElem? (i:=3) rfl
  refine(rExists_ok h hi (by omega) m2 E).mono ?_
  clear E
  rintro r w_ ⟨rfl,E⟩
  refine Un.not ?_
  cases hget:T.get file with
  |none=>
   simp only[Option.isSome_none,Bool.not_false]
   repeat with_reducible first|refine Stp.go ?_|refine StpE.go E ?_|(refine StpW.go E ?_;clear E;intro w_ E)
   have e:T.write (1+(j:Int)) off d=(T,0,4):=by unfold Tr.write;rw[h2];simp only[hget];rw[if_neg c1]
   rw[e]
   exact⟨_,rfl,.same h E.tl.tl.tl⟩
  |some m=>
   simp only[Option.isSome_some,Bool.not_true]
   obtain⟨i,n,rfl,hn,hgone,rfl⟩:=h.sm hi hget
   have hnm2:=List.mem_of_getElem? hn
   have hlt:=(List.getElem?_eq_some_iff.1 hn).1
   have hsz:n.data.size≤1048576:=(hi.data _ (h.mem.2 ⟨n,hnm2,hgone,rfl⟩)).2
   repeat with_reducible refine Stp.go ?_
   refine Bi.lss ?_ ?_<;>intro c2<;>(repeat with_reducible first|refine Stp.go ?_|refine StpE.go E ?_|(refine StpW.go E ?_;clear E;intro w_ E))
   ·have e:T.write (1+(j:Int)) off d=(T,0,11):=by unfold Tr.write;rw[h2];simp only[hget];rw[if_neg c1,if_pos c2]
    rw[e]
    exact⟨_,rfl,.same h E.tl.tl.tl⟩
   have c2':¬off<0:=by omega
   refine Bi.seql ?_ ?_<;>intro c3<;>(repeat with_reducible first|refine Stp.go ?_|refine StpE.go E ?_|(refine StpW.go E ?_;clear E;intro w_ E))
   ·have e:T.write (1+(j:Int)) off d=(T,0,0):=by unfold Tr.write;rw[h2];simp only[hget];rw[if_neg c1,if_neg c2',if_pos (show d=emp from c3)]
    rw[e]
    exact⟨_,rfl,.same h E.tl.tl.tl⟩
   have c3':¬d=emp:=c3
   have hdp:=ba_emp c3'
   refine IxA.rw rn_len E m2 (by omega) (by omega) (by omega) ?_
   rw[Int.toNat_natCast]
   intro a ha
   skip
   refine Fa.el ha ?_
   intro a2 ha2
   skip
   refine Ld.rw rn_len E m2 ha2 hn (by omega) (y:=str n.data) rfl ?_
   (intro J51 hJ51)
   have fin51:∀(a:Int) w_,a=(if andI n.nd.mode 1073741824≠0 then(n.nd.data.size:Int)else off)→Hs w0 F w_ (pt q3 (oc [i64 (i:Int),i64 mode,str user] Ty.t22)::pt q2 (oc [.slice none 0 0,.slice none 0 0,.slice none 0 0,i64 0] Ty.t0)::pt q (oc [gV,nV,hV,i64 R.clock] Ty.t0)::NP nV R::HP hV R::l)→J51 [i64 a] w_:=by
    intro a w_ ha E
    repeat with_reducible (apply hJ51;intro u_)
    clear hJ51
    have ha0:0≤a:=by rw[ha];split<;>omega
    (intro J55 hJ55)
    have fin55:∀b w_,b=decide (1048576<(d.size:Int)∨1048576-(d.size:Int)<a)→Hs w0 F w_ (pt q3 (oc [i64 (i:Int),i64 mode,str user] Ty.t22)::pt q2 (oc [.slice none 0 0,.slice none 0 0,.slice none 0 0,i64 0] Ty.t0)::pt q (oc [gV,nV,hV,i64 R.clock] Ty.t0)::NP nV R::HP hV R::l)→J55 [.bool b] w_:=by
     intro b w_ hb E
     repeat with_reducible (apply hJ55;intro u_)
     clear hJ55
     by_cases c4:1048576<(d.size:Int)∨1048576-(d.size:Int)<a
     ·rw[decide_eq_true c4]at hb
      subst hb
      repeat with_reducible first|refine Stp.go ?_|refine StpE.go E ?_|(refine StpW.go E ?_;clear E;intro w_ E)
      have e:T.write (1+(j:Int)) off d=(T,0,3):=by unfold Tr.write;rw[h2];simp only[hget];rw[if_neg c1,if_neg c2',if_neg c3',← ha,if_pos c4]
      rw[e]
      exact⟨_,rfl,.same h E.tl.tl.tl⟩
     rw[decide_eq_false c4]at hb
     subst hb
     repeat with_reducible refine Stp.go ?_
     have e:T.write (1+(j:Int)) off d=((T.change user [(i:Int)]).upd i λn=>{n with data:=overW n.data a.toNat d},(d.size:Int),0):=by unfold Tr.write;rw[h2];simp only[hget];rw[if_neg c1,if_neg c2',if_neg c3',← ha,if_neg c4]
     rw[e]
     refine Bi.add (by omega) ?_
     repeat with_reducible refine Stp.go ?_
     refine Mx.mk ?_
     obtain⟨m,hm⟩:∃m:Nat,m=max n.data.size (a.toNat+d.size):=⟨_,rfl⟩
     rw[show(if a+(d.size:Int)>(n.data.size:Int)then a+(d.size:Int)else(n.data.size:Int))=(m:Int) by rw[hm];split<;>omega]
     refine(rSized_ok (by omega) (by omega) E).mono ?_
     clear E
     rintro r w_ ⟨rfl,E⟩
     repeat with_reducible (refine StpW.go E ?_;clear E;intro w_ E)
     have hss:=sized_size n.data m
     refine SlS.pre (by omega) (by omega) ?_
     have hs1:((sized n.data m).extract 0 a.toNat).size≤1048576:=by rw[ByteArray.size_extract];omega
     refine Bi.sadd (by omega) ?_
     skip
     refine SlS.suf (by omega) (by omega) ?_
     have hs2:((sized n.data m).extract (a+(d.size:Int)).toNat (sized n.data m).size).size≤4194304:=by rw[ByteArray.size_extract];omega
     refine Bi.sadd (by rw[ByteArray.size_append];omega) ?_
     have hW:(sized n.data m).extract 0 a.toNat++d++(sized n.data m).extract (a+(d.size:Int)).toNat (sized n.data m).size=overW n.data a.toNat d:=by
      apply bts_inj
      rw[← bts_app,← bts_app,bts_extr,bts_extr,bts_over,← hm,List.drop_zero,show(a+(d.size:Int)).toNat=a.toNat+d.size by omega,List.take_of_length_le (l:=bts (sized n.data m)) (i:=(sized n.data m).size) (by rw[bts_len];exact Nat.le_refl _)]
     rw[hW]
     have hput:=h.wrote user a.toNat d hn hgone
     generalize overW n.data a.toNat d=W at hput
     have hn1:(R.ns.set i (n.tch (R.clock+1) user))[i]? =some (n.tch (R.clock+1) user):=List.getElem?_set_self hlt
     have setself:∀y:RN,(R.ns.set i y)[i]? =some y:=λy=>List.getElem?_set_self hlt
     have hlt1:i<(R.ns.set i (n.tch (R.clock+1) user)).length:=by rw[List.length_set];exact hlt
     repeat with_reducible first|refine Stp.go ?_|refine StpE.go E ?_|(refine StpW.go E ?_;clear E;intro w_ E)
     refine⟨?_,?_,trivial⟩
     ·refine(rCopied_ok (R:=R) (by omega) (by omega) (List.mem_of_getElem? (i:=3) rfl) (List.mem_of_getElem? (i:=4) rfl) E).mono ?_
      clear E
      rintro r w_ ⟨n2,v2,rfl,i2,i3,E⟩
      refine⟨by (repeat with_reducible refine StpE.go E ?_);rfl,by (repeat with_reducible refine StpE.go E ?_);rfl,?_,?_,trivial⟩
      ·refine(rTick_ok hrc E).mono ?_
       clear E
       rintro r w_ ⟨rfl,E⟩
       refine⟨by (repeat with_reducible refine StpE.go E ?_);rfl,by (repeat with_reducible refine StpE.go E ?_);rfl,?_,?_,trivial⟩
       ·refine(rTouch_ok hn (hrv n hnm2 hgone) E).mono ?_
        clear E
        rintro r w_ ⟨rfl,E⟩
        repeat with_reducible (refine StpA.go E ?_;clear E;intro b_ w_ hb_ E)
        (revert b_;intro p hbp E)
        refine⟨by (repeat with_reducible refine StpE.go E ?_);rfl,by (repeat with_reducible refine StpE.go E ?_);rfl,by (repeat with_reducible refine StpE.go E ?_);rfl,?_⟩
        repeat with_reducible first|refine Stp.go ?_|refine StpE.go E ?_|(refine StpW.go E ?_;clear E;intro w_ E)
        refine IxA.rw rn_len E (List.mem_of_getElem? (i:=1) rfl) (by omega) (by omega) (by rw[Int.toNat_natCast];exact hlt1) ?_
        rw[Int.toNat_natCast]
        intro a ha
        skip
        refine Fa.el ha ?_
        intro a2 ha2
        skip
        refine St.rw (j:=1) rn_len E rfl ha2 hn1 (by omega) rfl (y:={n.tch (R.clock+1) user with data:=W}) rfl ?_
        clear E
        intro w_ E
        (try simp only[List.set_cons_zero,List.set_cons_succ,List.cons_append,List.nil_append,Nat.zero_add,Nat.add_zero]at E)
        rw[List.set_set]at E
        repeat with_reducible first|refine Stp.go ?_|refine StpE.go E ?_
        refine IxA.rw rn_len E (List.mem_of_getElem? (i:=1) rfl) (by omega) (by omega) (by simpa using hlt) ?_
        rw[Int.toNat_natCast]
        intro a ha
        skip
        refine Fa.el ha ?_
        intro a2 ha2
        skip
        refine Fa.el ha2 ?_
        intro a3 ha3
        skip
        refine St.rw (j:=1) rn_len E rfl ha3 (setself _) (by omega) rfl (y:=n.wrt (R.clock+1) user W) rfl ?_
        clear E
        intro w_ E
        (try simp only[List.set_cons_zero,List.set_cons_succ,List.cons_append,List.nil_append,Nat.zero_add,Nat.add_zero]at E)
        rw[List.set_set]at E
        repeat with_reducible first|refine Stp.go ?_|refine StpE.go E ?_|(refine StpW.go E ?_;clear E;intro w_ E)
        refine⟨_,rfl,n2,v2,_,rfl,i2,i3,hput,?_⟩
        exact E.tl.drop (List.Sublist.cons_cons _ (List.Sublist.cons_cons _ (List.sublist_append_right [_,_,_,_,_] l)))
       ·(repeat with_reducible (refine StpA.go E ?_;clear E;intro b_ w_ hb_ E))
        (revert b_;intro p hbp E)
        refine⟨by (repeat with_reducible refine StpE.go E ?_);rfl,by (repeat with_reducible refine StpE.go E ?_);rfl,by (repeat with_reducible refine StpE.go E ?_);rfl,?_⟩
        (replace E:=((E.bIx 0).bIx 1))
        refine(rTouch_ok hn (hrv n hnm2 hgone) E).mono ?_
        clear E
        rintro r w_ ⟨rfl,E⟩
        (replace E:=((E.bIx 0).bIx 1))
        repeat with_reducible first|refine Stp.go ?_|refine StpE.go E ?_|(refine StpW.go E ?_;clear E;intro w_ E)
        refine IxA.rw rn_len E (List.mem_of_getElem? (i:=1) rfl) (by omega) (by omega) (by rw[Int.toNat_natCast];exact hlt1) ?_
        rw[Int.toNat_natCast]
        intro a ha
        skip
        refine Fa.el ha ?_
        intro a2 ha2
        skip
        refine St.rw (j:=1) rn_len E rfl ha2 hn1 (by omega) rfl (y:={n.tch (R.clock+1) user with data:=W}) rfl ?_
        clear E
        intro w_ E
        (try simp only[List.set_cons_zero,List.set_cons_succ,List.cons_append,List.nil_append,Nat.zero_add,Nat.add_zero]at E)
        rw[List.set_set]at E
        repeat with_reducible first|refine Stp.go ?_|refine StpE.go E ?_
        refine IxA.rw rn_len E (List.mem_of_getElem? (i:=1) rfl) (by omega) (by omega) (by simpa using hlt) ?_
        rw[Int.toNat_natCast]
        intro a ha
        skip
        refine Fa.el ha ?_
        intro a2 ha2
        skip
        refine Fa.el ha2 ?_
        intro a3 ha3
        skip
        refine St.rw (j:=1) rn_len E rfl ha3 (setself _) (by omega) rfl (y:=n.wrt (R.clock+1) user W) rfl ?_
        clear E
        intro w_ E
        (try simp only[List.set_cons_zero,List.set_cons_succ,List.cons_append,List.nil_append,Nat.zero_add,Nat.add_zero]at E)
        rw[List.set_set]at E
        repeat with_reducible first|refine Stp.go ?_|refine StpE.go E ?_|(refine StpW.go E ?_;clear E;intro w_ E)
        refine⟨_,rfl,n2,v2,_,rfl,i2,i3,hput,?_⟩
        exact E.tl.drop (List.Sublist.cons_cons _ (List.Sublist.cons_cons _ (List.sublist_append_right [_,_,_,_,_] l)))
      ·(repeat with_reducible (refine StpA.go E ?_;clear E;intro b_ w_ hb_ E))
       (revert b_;intro p hbp E)
       refine⟨by (repeat with_reducible refine StpE.go E ?_);rfl,by (repeat with_reducible refine StpE.go E ?_);rfl,by (repeat with_reducible refine StpE.go E ?_);rfl,?_⟩
       refine(rTick_ok hrc E).mono ?_
       clear E
       rintro r w_ ⟨rfl,E⟩
       refine⟨by (repeat with_reducible refine StpE.go E ?_);rfl,by (repeat with_reducible refine StpE.go E ?_);rfl,?_⟩
       (replace E:=((E.bIx 0).bIx 1))
       refine(rTouch_ok hn (hrv n hnm2 hgone) E).mono ?_
       clear E
       rintro r w_ ⟨rfl,E⟩
       (replace E:=((E.bIx 0).bIx 1))
       repeat with_reducible first|refine Stp.go ?_|refine StpE.go E ?_|(refine StpW.go E ?_;clear E;intro w_ E)
       refine IxA.rw rn_len E (List.mem_of_getElem? (i:=1) rfl) (by omega) (by omega) (by rw[Int.toNat_natCast];exact hlt1) ?_
       rw[Int.toNat_natCast]
       intro a ha
       skip
       refine Fa.el ha ?_
       intro a2 ha2
       skip
       refine St.rw (j:=1) rn_len E rfl ha2 hn1 (by omega) rfl (y:={n.tch (R.clock+1) user with data:=W}) rfl ?_
       clear E
       intro w_ E
       (try simp only[List.set_cons_zero,List.set_cons_succ,List.cons_append,List.nil_append,Nat.zero_add,Nat.add_zero]at E)
       rw[List.set_set]at E
       repeat with_reducible first|refine Stp.go ?_|refine StpE.go E ?_
       refine IxA.rw rn_len E (List.mem_of_getElem? (i:=1) rfl) (by omega) (by omega) (by simpa using hlt) ?_
       rw[Int.toNat_natCast]
       intro a ha
       skip
       refine Fa.el ha ?_
       intro a2 ha2
       skip
       refine Fa.el ha2 ?_
       intro a3 ha3
       skip
       refine St.rw (j:=1) rn_len E rfl ha3 (setself _) (by omega) rfl (y:=n.wrt (R.clock+1) user W) rfl ?_
       clear E
       intro w_ E
       (try simp only[List.set_cons_zero,List.set_cons_succ,List.cons_append,List.nil_append,Nat.zero_add,Nat.add_zero]at E)
       rw[List.set_set]at E
       repeat with_reducible first|refine Stp.go ?_|refine StpE.go E ?_|(refine StpW.go E ?_;clear E;intro w_ E)
       refine⟨_,rfl,n2,v2,_,rfl,i2,i3,hput,?_⟩
       exact E.tl.drop (List.Sublist.cons_cons _ (List.Sublist.cons_cons _ (List.sublist_append_right [_,_,_,_,_] l)))
     ·(repeat with_reducible (refine StpA.go E ?_;clear E;intro b_ w_ hb_ E))
      (revert b_;intro p hbp E)
      refine⟨by (repeat with_reducible refine StpE.go E ?_);rfl,by (repeat with_reducible refine StpE.go E ?_);rfl,by (repeat with_reducible refine StpE.go E ?_);rfl,?_⟩
      refine(rCopied_ok (R:=R) (by omega) (by omega) (List.mem_of_getElem? (i:=4) rfl) (List.mem_of_getElem? (i:=5) rfl) E).mono ?_
      clear E
      rintro r w_ ⟨n2,v2,rfl,i2,i3,E⟩
      refine⟨by (repeat with_reducible refine StpE.go E ?_);rfl,by (repeat with_reducible refine StpE.go E ?_);rfl,?_⟩
      refine(rTick_ok hrc E).mono ?_
      clear E
      rintro r w_ ⟨rfl,E⟩
      refine⟨by (repeat with_reducible refine StpE.go E ?_);rfl,by (repeat with_reducible refine StpE.go E ?_);rfl,?_⟩
      refine(rTouch_ok hn (hrv n hnm2 hgone) E).mono ?_
      clear E
      rintro r w_ ⟨rfl,E⟩
      (replace E:=(((E.bIx 1).bIx 1).bIx 2))
      repeat with_reducible first|refine Stp.go ?_|refine StpE.go E ?_|(refine StpW.go E ?_;clear E;intro w_ E)
      refine IxA.rw rn_len E (List.mem_of_getElem? (i:=1) rfl) (by omega) (by omega) (by rw[Int.toNat_natCast];exact hlt1) ?_
      rw[Int.toNat_natCast]
      intro a ha
      skip
      refine Fa.el ha ?_
      intro a2 ha2
      skip
      refine St.rw (j:=1) rn_len E rfl ha2 hn1 (by omega) rfl (y:={n.tch (R.clock+1) user with data:=W}) rfl ?_
      clear E
      intro w_ E
      (try simp only[List.set_cons_zero,List.set_cons_succ,List.cons_append,List.nil_append,Nat.zero_add,Nat.add_zero]at E)
      rw[List.set_set]at E
      repeat with_reducible first|refine Stp.go ?_|refine StpE.go E ?_
      refine IxA.rw rn_len E (List.mem_of_getElem? (i:=1) rfl) (by omega) (by omega) (by simpa using hlt) ?_
      rw[Int.toNat_natCast]
      intro a ha
      skip
      refine Fa.el ha ?_
      intro a2 ha2
      skip
      refine Fa.el ha2 ?_
      intro a3 ha3
      skip
      refine St.rw (j:=1) rn_len E rfl ha3 (setself _) (by omega) rfl (y:=n.wrt (R.clock+1) user W) rfl ?_
      clear E
      intro w_ E
      (try simp only[List.set_cons_zero,List.set_cons_succ,List.cons_append,List.nil_append,Nat.zero_add,Nat.add_zero]at E)
      rw[List.set_set]at E
      repeat with_reducible first|refine Stp.go ?_|refine StpE.go E ?_|(refine StpW.go E ?_;clear E;intro w_ E)
      refine⟨_,rfl,n2,v2,_,rfl,i2,i3,hput,?_⟩
      exact E.tl.drop (List.Sublist.cons_cons _ (List.Sublist.cons_cons _ (List.sublist_append_right [_,_,_,_,_] l)))
    clear hJ55
    repeat with_reducible refine Stp.go ?_
    refine Bi.gtr ?_ ?_<;>intro c4<;>(repeat with_reducible refine Stp.go ?_)
    ·exact fin55 true _ (decide_eq_true (.inl (by omega))).symm E
    ·refine Bi.sub (by omega) ?_
     repeat with_reducible refine Stp.go ?_
     refine Bi.gtr ?_ ?_<;>intro c5<;>(repeat with_reducible refine Stp.go ?_)
     ·exact fin55 true _ (decide_eq_true (.inr (by omega))).symm E
     ·exact fin55 false _ (decide_eq_false (by omega)).symm E
   clear hJ51
   repeat with_reducible first|refine Stp.go ?_|refine StpE.go E ?_
   refine IxA.rw rn_len E m2 (by omega) (by omega) (by omega) ?_
   rw[Int.toNat_natCast]
   intro a ha
   skip
   refine Fa.el ha ?_
   intro a2 ha2
   skip
   refine Fa.el ha2 ?_
   intro a3 ha3
   skip
   refine Ld.rw rn_len E m2 ha3 hn (by omega) (y:=i64 n.dir.mode) rfl ?_
   repeat with_reducible refine Stp.go ?_
   refine Bi.neq ?_ ?_<;>intro c4<;>(repeat with_reducible refine Stp.go ?_)
   ·exact fin51 _ _ (by rw[if_pos (show andI n.nd.mode 1073741824≠0 from c4)];rfl) E
   ·exact fin51 _ _ (by rw[if_neg (show ¬andI n.nd.mode 1073741824≠0 from λhc=>hc c4)]) E
 clear hJ20
 repeat with_reducible first|refine Stp.go ?_|refine StpE.go E ?_
 refine Bi.neq ?_ ?_<;>intro c1<;>(repeat with_reducible first|refine Stp.go ?_|refine StpE.go E ?_)
 ·refine Bi.neq ?_ ?_<;>intro c2<;>(repeat with_reducible refine Stp.go ?_)
  ·exact fin20 true _ (decide_eq_true ⟨c1,c2⟩).symm E
  ·exact fin20 false _ (decide_eq_false λhc=>hc.2 c2).symm E
 ·exact fin20 false _ (decide_eq_false λhc=>hc.1 c1).symm E
end Go.Proofs.YtnnhmahemklnkaaGreatDoor