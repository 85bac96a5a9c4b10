/-
 The reference: names, kinds and modes (out of Rf2 and Rp3 by genrq.py).
-/
import Derived.Test.YthapmhhihfedcaaGreatDoorTn3
import Derived.Test.YthapmhhihfedcaaGreatDoorTo5
import Derived.Test.YthapmhhihfedcaaGreatDoorRe6
import Derived.Test.YthapmhhihfedcaaGreatDoorSh28
import Derived.Test.YthapmhhihfedcaaGreatDoorCl2
namespace Go.Proofs.YthapmhhihfedcaaGreatDoor
open Go Go.Sh
set_option maxRecDepth 100000
set_option linter.unusedVariables false
set_option linter.unusedSimpArgs false
variable {w0 w:World} {F:Nat→Prop} {l:List As}
theorem rValid_ok{s:ByteArray}(hs:s.size≤9223372036854775807):Ca PP Fn.r28_Valid #[.string s] w λr w'=>r=.bool (goodName s)∧w'=w:=by
 refine S.r28_Valid.calls ?_
 unfold S.r28_Valid
 refine⟨λl w'=>∃i:Nat,l=[i64 i]∧i≤s.size∧((s.data.toList.take i).all goodB=true)∧w'=w,λl _=>match l with|[.int _ i]=>s.size-i.toNat|_=>0,⟨0,rfl,Nat.zero_le _,rfl,rfl⟩,?_⟩
 rintro t7 u w1 ⟨i,hl,hi,hg,rfl⟩
 cases hl
 refine LnS.mk ?_
 refine Bi.lss ?_ ?_<;>intro h
 ·(repeat with_reducible refine Stp.go ?_)
  obtain⟨b,hb,hb'⟩:=ba_get (s:=s) (i:=i) (by omega)
  (intro J8 hJ8)
  have hbm:b∈s.data.toList:=List.mem_of_getElem? hb'
  have bad:goodB b=false→goodName s=false:=by
   intro h0
   have:s.data.toList.all goodB=false:=by
    rw[Bool.eq_false_iff];intro ha;rw[List.all_eq_true]at ha;have:=ha b hbm;rw[h0]at this;cases this
   simp[goodName,this]
  have good:goodB b=true→(s.data.toList.take (i+1)).all goodB=true:=by
   intro h0
   rw[List.take_add_one,hb',List.all_append,hg]
   simp[h0]
  have fin8:∀c,c= !goodB b→J8 [.bool c] w1:=by
   intro c hc
   repeat with_reducible (apply hJ8;intro u_)
   cases hgb:goodB b with
   |false=>
    obtain rfl:c=true:=by rw[hc,hgb];rfl
    repeat with_reducible refine Stp.go ?_
    exact⟨by rw[bad hgb],rfl⟩
   |true=>
    obtain rfl:c=false:=by rw[hc,hgb];rfl
    repeat with_reducible refine Stp.go ?_
    refine Bi.add (by omega) ?_
    refine⟨⟨i+1,by simp,by omega,good hgb,rfl⟩,?_⟩
    simp only[];omega
  clear hJ8
  refine IxS.mk (by omega) (by simpa using hb) ?_
  refine Bi.lss ?_ ?_<;>intro h1<;>(repeat with_reducible refine Stp.go ?_)
  ·exact fin8 _ (by simp[goodB];omega)
  ·refine IxS.mk (by omega) (by simpa using hb) ?_
   refine Gd.t false ?_
   skip
   refine Bi.gtr ?_ ?_<;>intro h2<;>(repeat with_reducible refine Stp.go ?_)
   ·exact fin8 _ (by simp[goodB];omega)
   ·refine IxS.mk (by omega) (by simpa using hb) ?_
    refine Gd.t false ?_
    skip
    refine Bi.eql ?_ ?_<;>intro h3<;>(repeat with_reducible refine Stp.go ?_)
    ·exact fin8 _ (by simp[goodB];omega)
    ·exact fin8 _ (by simp[goodB];omega)
 ·(repeat with_reducible refine Stp.go ?_)
  (intro J45 hJ45)
  have hall:s.data.toList.all goodB=true:=by
   have:s.data.toList.take i=s.data.toList:=List.take_of_length_le (by have:s.data.toList.length=s.size:=rfl;omega)
   rw[this]at hg;exact hg
  have tail:goodName s=(decide (s.size≥1) && decide (s.size≤40) && decide (s≠⟨#[46]⟩) && decide (s≠⟨#[46,46]⟩)):=by
   unfold goodName
   rw[hall]
   have:(s.size != 0)=decide (s.size≥1):=by
    by_cases h0:s.size=0
    ·simp[h0]
    ·rw[decide_eq_true (show s.size≥1 by omega)]
     simpa using h0
   rw[this]
   simp[bne,ba_beq]
  refine LnS.mk ?_
  refine Bi.geq ?_ ?_<;>intro h1<;>(repeat with_reducible first|refine Stp.go ?_|(apply hJ45;intro u_))
  ·refine Bi.leq ?_ ?_<;>intro h2<;>(repeat with_reducible first|refine Stp.go ?_|(apply hJ45;intro u_))
   ·refine Bi.sneq ?_ ?_<;>intro h3<;>(repeat with_reducible first|refine Stp.go ?_|(apply hJ45;intro u_))
    ·refine Bi.sneq ?_ ?_<;>intro h4<;>(repeat with_reducible first|refine Stp.go ?_|(apply hJ45;intro u_))
     ·exact⟨by rw[tail];simp[h3,h4];omega,rfl⟩
     ·exact⟨by rw[tail];simp[h4],rfl⟩
    ·exact⟨by rw[tail];simp[h3],rfl⟩
   ·exact⟨by rw[tail];simp;omega,rfl⟩
  ·exact⟨by rw[tail,decide_eq_false (show ¬s.size≥1 by omega)];rfl,rfl⟩
theorem rKind_ok{m:Int}(E:Hs w0 F w l):Ca PP Fn.r28_kind #[i64 m] w λr w'=>r=i64 (kindOf m)∧Hs w0 F w' l:=by
 refine S.r28_kind.calls ?_
 unfold S.r28_kind
 (intro J1 hJ1)
 have f1:∀b,b=(if andI m 2147483648≠0 then(128:Int)else 0)→J1 [i64 b] w:=by
  intro b hb
  repeat with_reducible (apply hJ1;intro u_)
  (intro J5 hJ5)
  have f5:∀d,d=(if andI m 2147483648≠0 then(128:Int)else 0)+(if andI m 1073741824≠0 then 64 else 0)→J5 [i64 d] w:=by
   intro d hd
   repeat with_reducible (apply hJ5;intro u_)
   (intro J9 hJ9)
   have f9:∀e,e=kindOf m→J9 [i64 e] w:=by
    intro e he
    repeat with_reducible (apply hJ9;intro u_)
    exact⟨by rw[he],E⟩
   clear hJ9
   have hd2:0≤d∧d≤192:=by rw[hd];split<;>split<;>omega
   repeat with_reducible refine Stp.go ?_
   refine Bi.neq ?_ ?_<;>intro h1<;>(repeat with_reducible refine Stp.go ?_)
   ·refine Bi.add (by omega) ?_
    exact f9 _ (by unfold kindOf;rw[hd,if_pos h1])
   ·exact f9 _ (by unfold kindOf;rw[hd,if_neg (show ¬andI m 536870912≠0 by simpa using h1),Int.add_zero])
  clear hJ5
  have hb2:0≤b∧b≤128:=by rw[hb];split<;>omega
  repeat with_reducible refine Stp.go ?_
  refine Bi.neq ?_ ?_<;>intro h1<;>(repeat with_reducible refine Stp.go ?_)
  ·refine Bi.add (by omega) ?_
   exact f5 _ (by rw[hb,if_pos h1])
  ·exact f5 _ (by rw[hb,if_neg (show ¬andI m 1073741824≠0 by simpa using h1),Int.add_zero])
 clear hJ1
 repeat with_reducible refine Stp.go ?_
 refine Bi.neq ?_ ?_<;>intro h1<;>(repeat with_reducible refine Stp.go ?_)
 ·refine Bi.add (by omega) ?_
  exact f1 _ (by rw[if_pos h1];rfl)
 ·exact f1 _ (by rw[if_neg (by simpa using h1)])
theorem clr_neg{m k:Int}(hm:rngI m)(h0:m<0)(hk:(BitVec.ofInt 64 k).msb=false):clrI m k≠0:=by
 intro hc
 have h1:BitVec.ofInt 64 m &&& ~~~ BitVec.ofInt 64 k=0#64:=by
  have:=clrI_ofInt m k
  rw[hc]at this
  rw[← this];rfl
 have h2:(BitVec.ofInt 64 m).msb=true:=by
  rw[BitVec.msb_eq_toInt,BitVec.toInt_ofInt]
  obtain⟨h3,h4⟩:=hm
  have:m.bmod (2 ^ 64)=m:=by
   rw[Int.bmod_eq_of_le]<;>omega
  rw[this];exact decide_eq_true h0
 have h3:=congrArg BitVec.msb h1
 rw[BitVec.msb_and,BitVec.msb_not,h2,hk]at h3
 simp at h3
theorem rSum_ok{m:Int}(hm:rngI m)(E:Hs w0 F w l):Ca PP Fn.r28_sum #[i64 m] w λr w'=>r=.bool (rightM m)∧Hs w0 F w' l:=by
 refine S.r28_sum.calls ?_
 unfold S.r28_sum
 (intro J1 hJ1)
 have f1:∀b,b= !decide (clrI m 3758096895=0)→J1 [.bool b] w:=by
  intro b hb
  repeat with_reducible (apply hJ1;intro u_)
  cases hc:decide (clrI m 3758096895=0)with
  |false=>
   rw[hc]at hb
   subst hb
   simp only[Bool.not_false]
   repeat with_reducible refine Stp.go ?_
   exact⟨by unfold rightM;rw[hc];rfl,E⟩
  |true=>
   rw[hc]at hb
   subst hb
   simp only[Bool.not_true]
   repeat with_reducible refine Stp.go ?_
   (intro J5 hJ5)
   have f5:∀b,b=(decide (andI m 2147483648=0) || decide (andI m 1610612736=0))→J5 [.bool b] w:=by
    intro b hb
    repeat with_reducible (apply hJ5;intro u_)
    exact⟨by unfold rightM;rw[hc,hb];rfl,E⟩
   clear hJ5
   repeat with_reducible refine Stp.go ?_
   refine Bi.eql ?_ ?_<;>intro h1<;>(repeat with_reducible refine Stp.go ?_)
   ·exact f5 _ (by rw[decide_eq_true h1];rfl)
   ·refine Bi.eql ?_ ?_<;>intro h2<;>(repeat with_reducible refine Stp.go ?_)
    ·exact f5 _ (by rw[decide_eq_true h2,Bool.or_true])
    ·exact f5 _ (by rw[decide_eq_false h1,decide_eq_false h2];rfl)
 clear hJ1
 refine Bi.lss ?_ ?_<;>intro h1<;>(repeat with_reducible refine Stp.go ?_)
 ·exact f1 _ (by rw[decide_eq_false (clr_neg hm h1 (by decide))];rfl)
 ·refine Bi.neq ?_ ?_<;>intro h2<;>(repeat with_reducible refine Stp.go ?_)
  ·exact f1 _ (by rw[decide_eq_false h2];rfl)
  ·exact f1 _ (by rw[decide_eq_true h2];rfl)
set_option maxRecDepth 100000
set_option linter.unusedVariables false
set_option linter.unusedSimpArgs false
variable {w0 w:World} {F:Nat→Prop} {l:List As}

def fsm(fs:List Fl):Prop:=∀f∈fs,f.path.size≤1000000∧f.dir.name.size≤1000000∧f.dir.owner.size≤1000000∧f.dir.group.size≤1000000∧rngI f.dir.mode
theorem RdS.file{fs:List Fl}{fV:Value}{i:Nat}{f:Fl}{k:Value→Prop}(hf:RdS w0 F l 12 fs.length fV (fcs fs))(hx:fs[i]? =some f)(hk:∀a,RdP w0 F l a (f.cs++fcs (fs.drop (i+1)))→k (.pointer (some a))):IxA 12 fV (i64 i) k:=by
 obtain⟨hlt,rfl⟩:=List.getElem?_eq_some_iff.1 hx
 refine hf.ix (by omega) (by omega) (by omega) ?_
 rw[Int.toNat_natCast,fcs_drop,List.drop_eq_getElem_cons hlt]
 exact hk
theorem rUp_ok{fs:List Fl}{fV:Value}{i:Nat}{f:Fl}(hx:fs[i]? =some f)(hf:RdS w0 F l 12 fs.length fV (fcs fs))(hfl:fs.length≤1000000)(hsm:fsm fs)(E:Hs w0 F w l):
  Ca PP Fn.r28_up #[fV,i64 i] w λr w'=>((r=i64 (-1)∧∀k,¬isUp fs i k)∨∃k:Nat,r=i64 k∧isUp fs i k)∧Hs w0 F w' l:=by
 have hlt:=(List.getElem?_eq_some_iff.1 hx).1
 refine S.r28_up.calls ?_
 unfold S.r28_up
 refine⟨λl1 w1=>∃k:Nat,l1=[i64 k]∧k≤i∧(∀j,j<k→¬isUp fs i j)∧Hs w0 F w1 l,λl1 _=>match l1 with|[.int _ k]=>i-k.toNat|_=>0,⟨0,rfl,Nat.zero_le _,λj h=>absurd h (Nat.not_lt_zero _),E⟩,?_⟩
 clear E
 rintro t5 u w_ ⟨k,h1,hk,hno,E⟩
 cases h1
 refine Bi.lss ?_ ?_<;>intro hki<;>(repeat with_reducible refine Stp.go ?_)
 rotate_left
 ·refine⟨.inl ⟨rfl,λj hj=>hno j ?_ hj⟩,E⟩
  have:=hj.1;omega
 have hy:fs[k]? =some (fs[k]'(by omega)):=List.getElem?_eq_getElem (by omega)
 obtain⟨g,hge⟩:∃g,fs[k]'(by omega)=g:=⟨_,rfl⟩
 rw[hge]at hy
 clear hge
 obtain⟨s1,s2,-⟩:=hsm f (List.mem_of_getElem? hx)
 obtain⟨s3,s4,-⟩:=hsm g (List.mem_of_getElem? hy)
 have up:isUp fs i k↔isD g.dir.mode=true∧f.path=keyS g.path++f.dir.name:=by
  constructor
  ·rintro⟨-,f',g',e1,e2,e3,e4⟩
   rw[hx]at e1;rw[hy]at e2
   cases e1;cases e2
   exact⟨e3,e4⟩
  ·rintro⟨e3,e4⟩
   exact⟨by omega,f,g,hx,hy,e3,e4⟩
 refine RdS.file hf hy ?_
 intro a ha
 skip
 refine ha.fa (by simp) ?_
 intro a2 ha2
 refine ha2.ld E (x:=str g.path) rfl ?_
 (intro J10 hJ10)
 have fin10:∀base w_,base++sep=keyS g.path→base.size≤1000000→Hs w0 F w_ l→J10 [str base] w_:=by
  intro base w_ hb hbs E
  repeat with_reducible (apply hJ10;intro u_)
  clear hJ10
  (intro J14 hJ14)
  have fin14:∀b w_,(b=true↔isUp fs i k)→Hs w0 F w_ l→J14 [.bool b] w_:=by
   intro b w_ hb E
   repeat with_reducible (apply hJ14;intro u_)
   cases b with
   |true=>(repeat with_reducible refine Stp.go ?_);exact⟨.inr ⟨k,rfl,hb.1 rfl⟩,E⟩
   |false=>
    repeat with_reducible refine Stp.go ?_
    refine Bi.add (by omega) ?_
    refine⟨⟨k+1,by simp,by omega,λj hj hu=>?_,E⟩,by simp only[];omega⟩
    by_cases hjk:j=k
    ·rw[hjk]at hu;have:=hb.2 hu;cases this
    ·exact hno j (by omega) hu
  clear hJ14
  repeat with_reducible (refine StpW.go E ?_;clear E;intro w_ E)
  refine RdS.file hf hy ?_
  intro b hb1
  skip
  refine hb1.fa (by simp) ?_
  intro b2 hb2
  skip
  refine hb2.fa (by simp) ?_
  intro b3 hb3
  skip
  refine hb3.ld E (x:=i64 g.dir.mode) rfl ?_
  repeat with_reducible refine Stp.go ?_
  refine Bi.neq ?_ ?_<;>intro hd<;>(repeat with_reducible refine Stp.go ?_)
  rotate_left
  ·refine fin14 false _ ⟨(λh=>by cases h),λh=>?_⟩ E
   have:=(up.1 h).1
   unfold isD at this
   simp[hd]at this
  have hdir:isD g.dir.mode=true:=by unfold isD;simpa using hd
  refine RdS.file hf hx ?_
  intro c hc
  repeat with_reducible refine Stp.go ?_
  refine hc.fa (by simp) ?_
  intro c2 hc2
  repeat with_reducible refine Stp.go ?_
  refine hc2.ld E (x:=str f.path) rfl ?_
  repeat with_reducible refine Stp.go ?_
  refine Bi.sadd (t:=sep) (by have:ByteArray.size sep=1:=rfl;omega) ?_
  repeat with_reducible refine Stp.go ?_
  refine RdS.file hf hx ?_
  intro c hc
  repeat with_reducible refine Stp.go ?_
  refine hc.fa (by simp) ?_
  intro c2 hc2
  repeat with_reducible refine Stp.go ?_
  refine hc2.fa (by simp) ?_
  intro c3 hc3
  repeat with_reducible refine Stp.go ?_
  refine hc3.ld E (x:=str f.dir.name) rfl ?_
  repeat with_reducible refine Stp.go ?_
  refine Bi.sadd (by rw[ByteArray.size_append];have:ByteArray.size sep=1:=rfl;omega) ?_
  repeat with_reducible refine Stp.go ?_
  rw[hb]
  refine Bi.seql ?_ ?_<;>intro he<;>(repeat with_reducible refine Stp.go ?_)
  ·exact fin14 true _ ⟨λ_=>up.2 ⟨hdir,he⟩,λ_=>rfl⟩ E
  ·exact fin14 false _ ⟨(λh=>by cases h),λh=>absurd (up.1 h).2 he⟩ E
 clear hJ10
 refine Bi.seql ?_ ?_<;>intro he<;>(repeat with_reducible refine Stp.go ?_)
 ·exact fin10 emp _ (by rw[he];rfl) (by show 0≤_;omega) E
 ·exact fin10 g.path _ (by unfold keyS;rw[if_neg he]) s3 E
theorem rRight_ok{f:Fl}{next:Int}(hm:f.path.size≤1000000∧f.dir.name.size≤1000000∧f.dir.owner.size≤1000000∧f.dir.group.size≤1000000∧rngI f.dir.mode)(E:Hs w0 F w l):
  Ca PP Fn.r28_right #[f.V,i64 next] w λr w'=>(∃b,r=.bool b∧(b=true↔rightF f next))∧Hs w0 F w' l:=by
 refine S.r28_right.calls ?_
 unfold S.r28_right
 refine StpA.go E ?_
 clear E
 intro fb w_ hfb E
 repeat with_reducible first|refine Stp.go ?_|refine StpE.go E ?_|(refine StpW.go E ?_;clear E;intro w_ E)|(refine StpA.go E ?_;clear E;intro b_ w_ hb_ E)
 (revert b_;intro db hbdb E)
 (intro J8 hJ8)
 have fin8:∀b w_,(b=true→¬rightF f next)→(b=false→goodName f.dir.owner=true∧goodName f.dir.group=true∧rightM f.dir.mode=true∧f.dir.kind=kindOf f.dir.mode∧0≤f.dir.vers∧0≤f.dir.path∧f.dir.path<next∧0≤f.dir.time)→
   Hs w0 F w_ (pt db (oc f.dir.cs Ty.t28)::pt fb (oc f.cs Ty.t40)::l)→J8 [.bool b] w_:=by
  intro b w_ hb1 hb2 E
  repeat with_reducible (apply hJ8;intro u_)
  clear hJ8
  cases b with
  |true=>(repeat with_reducible refine Stp.go ?_);exact⟨⟨false,rfl,⟨(λh=>by cases h),λh=>absurd h (hb1 rfl)⟩⟩,E.tl.tl⟩
  |false=>
   obtain⟨c1,c2,c3,c4,c5,c6,c7,c8⟩:=hb2 rfl
   repeat with_reducible refine Stp.go ?_
   (intro J12 hJ12)
   have fin:∀b w_,(b=true↔rightF f next)→Hs w0 F w_ l→J12 [.bool b] w_:=by
    intro b w_ hb E
    repeat with_reducible (apply hJ12;intro u_)
    exact⟨⟨b,rfl,hb⟩,E⟩
   clear hJ12
   have no:¬rightF f next→∀w_,Hs w0 F w_ l→J12 [.bool false] w_:=λh w_ E=>fin false w_ ⟨(λh=>by cases h),λh'=>absurd h' h⟩ E
   repeat with_reducible first|refine Stp.go ?_|refine StpE.go E ?_
   refine Bi.eql ?_ ?_<;>intro d1<;>(repeat with_reducible first|refine Stp.go ?_|refine StpE.go E ?_)
   rotate_left
   ·exact no (λh=>d1 h.2.2) _ E.tl.tl
   refine Bi.leq ?_ ?_<;>intro d2<;>(repeat with_reducible first|refine Stp.go ?_|refine StpE.go E ?_)
   rotate_left
   ·exact no (λh=>by have:=h.1.2.2.2.2.2.2.2.1;omega) _ E.tl.tl
   refine Bi.eql ?_ ?_<;>intro d3<;>(repeat with_reducible first|refine Stp.go ?_|refine StpE.go E ?_)
   ·refine fin true _ ⟨λ_=>⟨⟨c1,c2,c3,c5,c6,c7,c8,by omega,λh=>?_⟩,c4,d1⟩,λ_=>rfl⟩ E.tl.tl
    unfold isD at h
    rw[d3]at h
    cases h
   refine Bi.seql ?_ ?_<;>intro d4<;>(repeat with_reducible refine Stp.go ?_)
   ·exact fin true _ ⟨λ_=>⟨⟨c1,c2,c3,c5,c6,c7,c8,by omega,λ_=>d4⟩,c4,d1⟩,λ_=>rfl⟩ E.tl.tl
   ·exact no (λh=>d4 (h.1.2.2.2.2.2.2.2.2 (by unfold isD;simpa using d3))) _ E.tl.tl
 clear hJ8
 have yes:¬rightF f next→∀w_,Hs w0 F w_ (pt db (oc f.dir.cs Ty.t28)::pt fb (oc f.cs Ty.t40)::l)→J8 [.bool true] w_:=λh w_ E=>fin8 true w_ (λ_=>h) (λh=>by cases h) E
 repeat with_reducible first|refine Stp.go ?_|refine StpE.go E ?_|(refine StpW.go E ?_;clear E;intro w_ E)
 refine(rValid_ok (by omega)).mono ?_
 rintro r w' ⟨rfl,rfl⟩
 cases c1:goodName f.dir.owner with
 |false=>(repeat with_reducible refine Stp.go ?_);refine⟨by (repeat with_reducible refine Stp.go ?_);rfl,?_⟩;(repeat with_reducible refine Stp.go ?_);exact yes (λh=>by have:=h.1.1;rw[c1]at this;cases this) _ E
 |true=>
 repeat with_reducible first|refine Stp.go ?_|refine StpE.go E ?_
 refine(rValid_ok (by omega)).mono ?_
 rintro r w' ⟨rfl,rfl⟩
 cases c2:goodName f.dir.group with
 |false=>(repeat with_reducible refine Stp.go ?_);refine⟨by (repeat with_reducible refine Stp.go ?_);rfl,?_⟩;(repeat with_reducible refine Stp.go ?_);exact yes (λh=>by have:=h.1.2.1;rw[c2]at this;cases this) _ E
 |true=>
 repeat with_reducible first|refine Stp.go ?_|refine StpE.go E ?_
 refine(rSum_ok hm.2.2.2.2 E).mono ?_
 clear E
 rintro r w_ ⟨rfl,E⟩
 cases c3:rightM f.dir.mode with
 |false=>(repeat with_reducible refine Stp.go ?_);refine⟨by (repeat with_reducible refine Stp.go ?_);rfl,?_⟩;(repeat with_reducible refine Stp.go ?_);exact yes (λh=>by have:=h.1.2.2.1;rw[c3]at this;cases this) _ E
 |true=>
 repeat with_reducible first|refine Stp.go ?_|refine StpE.go E ?_
 refine(rKind_ok E).mono ?_
 clear E
 rintro r w_ ⟨rfl,E⟩
 refine⟨by (repeat with_reducible first|refine Stp.go ?_|refine StpE.go E ?_);rfl,?_⟩
 repeat with_reducible refine Stp.go ?_
 refine Bi.neq ?_ ?_<;>intro c4<;>(repeat with_reducible first|refine Stp.go ?_|refine StpE.go E ?_)
 ·exact yes (λh=>c4 h.2.1) _ E
 refine Bi.lss ?_ ?_<;>intro c5<;>(repeat with_reducible first|refine Stp.go ?_|refine StpE.go E ?_)
 ·exact yes (λh=>by have:=h.1.2.2.2.1;omega) _ E
 refine Bi.lss ?_ ?_<;>intro c6<;>(repeat with_reducible first|refine Stp.go ?_|refine StpE.go E ?_)
 ·exact yes (λh=>by have:=h.1.2.2.2.2.1;omega) _ E
 refine Bi.geq ?_ ?_<;>intro c7<;>(repeat with_reducible first|refine Stp.go ?_|refine StpE.go E ?_)
 ·exact yes (λh=>by have:=h.1.2.2.2.2.2.1;omega) _ E
 refine Bi.lss ?_ ?_<;>intro c8<;>(repeat with_reducible refine Stp.go ?_)
 ·exact yes (λh=>by have:=h.1.2.2.2.2.2.2.1;omega) _ E
 ·exact fin8 false _ (λh=>by cases h) (λ_=>⟨c1,c2,c3,c4,by omega,by omega,by omega,by omega⟩) E
set_option maxRecDepth 100000
set_option linter.unusedVariables false
set_option linter.unusedSimpArgs false
variable {w0 w:World} {F:Nat→Prop} {l:List As}
structure RN where
 dir:Dr
 data:BA
 par:Int
 gone:Bool
abbrev RN.cs(n:RN):List Value:=[i64 n.dir.kind,i64 n.dir.vers,i64 n.dir.path,i64 n.dir.mode,i64 n.dir.time,i64 n.dir.len,str n.dir.name,str n.dir.owner,str n.dir.group,str n.dir.last,str n.data,i64 n.par,.bool n.gone]
theorem rn_len(n:RN):n.cs.length=13:=rfl
structure RT where
 ns:List RN
def RN.nd(n:RN):Nd:=⟨n.dir.path,n.dir.vers,n.dir.mode,n.dir.time,n.par,n.dir.name,n.dir.owner,n.dir.group,n.dir.last,n.data⟩

structure Rl(R:RT)(T:Tr):Prop where
 idx:∀(i:Nat) n,R.ns[i]? =some n→n.gone=false→n.dir.path=i
 ns:T.ns=(R.ns.filter λn=>!n.gone).map RN.nd
 form:∀n∈R.ns,n.gone=false→n.dir.kind=kindOf n.dir.mode∧n.dir.len=n.data.size
abbrev rV(gV nV hV:Value)(c:Int):Value:=.agg #[gV,nV,hV,i64 c]
abbrev NP(nV:Value)(R:RT):As:=slA nV Ty.r28_Node 13 (R.ns.flatMap RN.cs)
variable {R:RT} {T:Tr} {gV nV hV:Value} {c:Int}
theorem Rl.mem(h:Rl R T){m:Nd}:m∈T.ns↔∃n∈R.ns,n.gone=false∧n.nd=m:=by
 rw[h.ns,List.mem_map]
 constructor
 ·rintro⟨n,hn,rfl⟩
  obtain⟨h1,h2⟩:=List.mem_filter.1 hn
  exact⟨n,h1,by simpa using h2,rfl⟩
 ·rintro⟨n,h1,h2,rfl⟩
  exact⟨n,List.mem_filter.2 ⟨h1,by rw[h2];rfl⟩,rfl⟩
theorem Rl.sm(h:Rl R T)(hi:Inv T){p:Int}{m:Nd}(hg:T.get p=some m):∃(i:Nat) (n:RN),p=i∧R.ns[i]? =some n∧n.gone=false∧n.nd=m:=by
 obtain⟨h1,h2⟩:=hi.get.1 hg
 obtain⟨n,h3,h4,rfl⟩:=h.mem.1 h1
 obtain⟨i,hi'⟩:=List.getElem?_of_mem h3
 exact⟨i,n,by rw[← h2];exact h.idx i n hi' h4,hi',h4,rfl⟩
theorem Rl.at_(h:Rl R T)(hi:Inv T){i:Nat}{n:RN}(hn:R.ns[i]? =some n)(hg:n.gone=false):T.get (i:Int)=some n.nd:=
 hi.get.2 ⟨h.mem.2 ⟨n,List.mem_of_getElem? hn,hg,rfl⟩,h.idx i n hn hg⟩
theorem Rl.stat(h:Rl R T){n:RN}(hn:n∈R.ns)(hg:n.gone=false):n.nd.stat=n.dir:=by
 obtain⟨h1,h2⟩:=h.form n hn hg
 unfold Nd.stat RN.nd
 rw[← h1,← h2]
theorem BdS.nul{P:Program}{t e:TypeId}{sz:Nat}{k:Value→World→Prop}(E:Hs w0 F w l)(h1:P.underlying t=some (.slice e))(h2:sizeK P e=some sz)
  (hk:∀v w',Hs w0 F w' (slA v e sz []::l)→k v w'):Ef P (Instr.buildSlice t 0 #[]) w k:=by
 refine⟨.slice (some ⟨w.heap.size,0,none⟩) 0 0,w.alloc (.cells #[] e),?_,hk _ _ (E.add (Upd.alloc w _) ⟨.inr ⟨w.heap.size,0,0,0,[],[],(0,0),rfl,?_,rfl,by simp,by simp,Nat.le_refl _,Free.zero _⟩⟩ λb hb=>?_)⟩
 ·have hr:Array.range 0=#[]:=rfl
  simp[Instr.buildSlice,run_underlying h1,run_sizeK h2,Instr.fill,newRow,run_newObj',hr]
 ·rw[heap_alloc_new];simp[ocf]
 ·have hb:some w.heap.size=some b:=hb
  cases hb;exact Nat.le_refl _
theorem u_sl_Node:PP.underlying Ty.sl_r28_Node=some (.slice Ty.r28_Node):=by kernel_rfl
theorem s_Node:sizeK PP Ty.r28_Node=some 13:=by kernel_rfl
abbrev rn0V:Value:=.agg #[i64 0,i64 0,i64 0,i64 0,i64 0,i64 0,str ⟨#[]⟩,str ⟨#[]⟩,str ⟨#[]⟩,str ⟨#[]⟩,str ⟨#[]⟩,i64 0,.bool false]
theorem e_Node:el3 PP Ty.r28_Node=some (some rn0V,13,144):=by kernel_rfl
def Tr.topS(T:Tr)(n:Nd):BA:=if n.path=0 then emp else T.pathS n
theorem topS_step(hi:Inv T){n:Nd}(hn:n∈T.ns)(h0:n.path≠0):T.topS n=T.topS (T.parent n)++(sep++n.name):=by
 unfold Tr.topS
 rw[if_neg h0]
 apply ba_ext
 rcases pathS_step hi hn h0 with⟨h1,h2⟩|⟨h1,h2⟩
 ·rw[if_pos h1,h2];simp[emp]
 ·rw[h2]
  by_cases hp:(T.parent n).path=0
  ·have e:(T.pathS n).data.toList=47::n.name.data.toList∨True:=.inr trivial
   exfalso
   have hs:=h2
   have e1:=chain_step hi hn h0
   rw[chain_root hp,List.nil_append]at e1
   have e2:T.pathS n=sep++n.name:=by unfold Tr.pathS;rw[e1,joinS_one]
   rw[e2,pathS_root hp]at h2
   simp at h2
  ·rw[if_neg hp];simp
set_option maxRecDepth 100000
set_option linter.unusedVariables false
set_option linter.unusedSimpArgs false
variable {S T:Tr} {fs:List Fl} {next:Int}


def nodeR(fs:List Fl)(p:Int)(x:RN)(i:Nat):Prop:=
 (x.gone=true∧∀(j:Nat) f,j<i→fs[j]? =some f→f.dir.path≠p)∨
 ∃(j:Nat) (f:Fl),j<i∧fs[j]? =some f∧f.dir.path=p∧x.dir=f.dir∧x.data=f.data∧x.gone=false∧((j=0∧x.par=0)∨(j≠0∧∃(k:Nat) (u:Fl),isUp fs j k∧fs[k]? =some u∧x.par=u.dir.path))
abbrev trOf(R:RT)(clock next:Int):Tr:=⟨(R.ns.filter λn=>!n.gone).map RN.nd,clock,next,[],[]⟩
theorem keyS_pos{p:BA}:keyS p≠emp:=by
 intro h
 have h1:=congrArg (λx:BA=>x.data.toList) h
 unfold keyS at h1
 split at h1
 ·simp[sep,emp]at h1
 ·simp only[ba_appl,sep_list]at h1
  have:=congrArg List.length h1
  simp[emp]at this
theorem RefOk.ne(h:RefOk fs next){i:Nat}{f:Fl}(hx:fs[i]? =some f):f.path≠emp:=by
 by_cases hi:i=0
 ·subst hi
  obtain⟨g,h1,h2,-⟩:=h.first
  rw[h1]at hx
  cases hx
  rw[h2];intro e;exact absurd (congrArg (λx:BA=>x.data.toList) e) (by simp[sep,emp])
 ·obtain⟨k,hk,f',u,h1,h2,h3,h4⟩:=h.up i f hi hx
  rw[hx]at h1
  cases h1
  rw[h4]
  intro e
  have h5:=congrArg (λx:BA=>x.data.toList) e
  simp only[ba_appl]at h5
  have:(keyS u.path).data.toList=[]:=(List.append_eq_nil_iff.1 h5).1
  exact keyS_pos (ba_ext this)
theorem RefOk.inj(h:RefOk fs next){i j:Nat}{f g:Fl}(hx:fs[i]? =some f)(hy:fs[j]? =some g)(he:f.dir.path=g.dir.path∨f.path=g.path):i=j:=by
 rcases Nat.lt_trichotomy i j with hlt|rfl|hlt
 ·have:=h.diff j i g f hlt hy hx
  rcases he with he|he
  ·exact absurd he this.1
  ·exact absurd he this.2
 ·rfl
 ·have:=h.diff i j f g hlt hx hy
  rcases he with he|he
  ·exact absurd he.symm this.1
  ·exact absurd he.symm this.2
theorem RefOk.inj2(h:RefOk fs next){i j:Nat}{f g:Fl}(hx:fs[i]? =some f)(hy:fs[j]? =some g)(he:f.dir.path=g.dir.path∨f.path=g.path):f=g:=by
 have:=h.inj hx hy he
 subst this
 rw[hx]at hy
 exact Option.some.inj hy
theorem nodup_len{α:Type}:∀(a b:List α),a.Nodup→(∀e∈a,e∈b)→a.length≤b.length:=by
 classical
 intro a
 induction a with
 |nil=>intro b _ _;exact Nat.zero_le _
 |cons x r ih=>
  intro b hn hs
  rw[List.nodup_cons]at hn
  have hx:=hs x List.mem_cons_self
  obtain⟨b',hb⟩:=split_perm hx
  have:=ih b' hn.2 λe he=>by
   rcases List.mem_cons.1 (hb.mem_iff.1 (hs e (List.mem_cons_of_mem _ he)))with h|h
   ·exact absurd (h▸he) hn.1
   ·exact h
  rw[hb.length_eq]
  simp only[List.length_cons];omega

theorem ref_tree (h : RefOk fs next) (hl : fs.length≤1024) {clock : Int} (hc : 0≤clock) {R : RT} (hn : (R.ns.length : Int) = next) (hR : ∀ (p : Nat) x,R.ns[p]? = some x→nodeR fs p x fs.length) :
  Inv (trOf R clock next)∧Rl R (trOf R clock next)∧(∀ (i : Nat) f,fs[i]? = some f→∃ a∈(trOf R clock next).ns,(trOf R clock next).fl a = f)∧(∀ a∈(trOf R clock next).ns,∃ (i : Nat) (f : Fl),fs[i]? = some f∧(trOf R clock next).fl a = f):=by
 obtain ⟨T,hT⟩ : ∃ T,T = trOf R clock next:=⟨_,rfl⟩
 have hidx : ∀ (i : Nat) n,R.ns[i]? = some n→n.gone = false→n.dir.path = i:=by
  intro i n hx hg
  rcases hR i n hx with ⟨h1,-⟩ | ⟨j,f,h1,h2,h3,h4,-⟩
  ·rw [hg] at h1; cases h1
  ·rw [h4,h3]
 -- the files that there are
 have mem : ∀ m,m∈T.ns↔∃ (j : Nat) (f : Fl) (par : Int),fs[j]? = some f∧m = mkNd f par∧((j = 0∧par = 0)∨(j ≠ 0∧∃ (k : Nat) (u : Fl),isUp fs j k∧fs[k]? = some u∧par = u.dir.path)):=by
  intro m
  rw [hT]
  constructor
  ·intro hm
   obtain ⟨x,hx,rfl⟩:=List.mem_map.1 hm
   obtain ⟨h1,h2⟩:=List.mem_filter.1 hx
   obtain ⟨p,hp⟩:=List.getElem?_of_mem h1
   have hg : x.gone = false:=by simpa using h2
   rcases hR p x hp with ⟨h3,-⟩ | ⟨j,f,h3,h4,h5,h6,h7,h8,h9⟩
   ·rw [hg] at h3; cases h3
   ·refine ⟨j,f,x.par,h4,?_,h9⟩
    unfold RN.nd
    rw [h6,h7]
  ·rintro ⟨j,f,par,h1,rfl,h2⟩
   have hb:=(h.right j f h1).1
   obtain ⟨p,hp⟩ : ∃ p : Nat,f.dir.path = p:=⟨f.dir.path.toNat,by have:=hb.2.2.2.2.1; omega⟩
   have hpl : p < R.ns.length:=by have:=hb.2.2.2.2.2.1; omega
   have hx : R.ns[p]? = some R.ns[p]:=List.getElem?_eq_getElem hpl
   rcases hR p _ hx with ⟨h3,h4⟩ | ⟨j',f',h3,h4,h5,h6,h7,h8,h9⟩
   ·exact absurd hp (h4 j f (List.getElem?_eq_some_iff.1 h1).1 h1)
   ·have hjj : j' = j:=h.inj h4 h1 (.inl (by rw [h5,hp]))
    subst hjj
    rw [h1] at h4
    cases h4
    refine List.mem_map.2 ⟨R.ns[p],List.mem_filter.2 ⟨List.getElem_mem _,by rw [h8]; rfl⟩,?_⟩
    have hpar : R.ns[p].par = par:=by
     rcases h9 with ⟨e1,e2⟩ | ⟨e1,k,u,e2,e3,e4⟩ <;> rcases h2 with ⟨e5,e6⟩ | ⟨e5,k',u',e6,e7,e8⟩
     ·rw [e2,e6]
     ·exact absurd e1 e5
     ·exact absurd e5 e1
     ·obtain ⟨a1,a2,a3,a4,a5,a6,a7⟩:=e2
      obtain ⟨b1,b2,b3,b4,b5,b6,b7⟩:=e6
      rw [h1] at a4 b4
      cases a4; cases b4
      rw [e3] at a5
      rw [e7] at b5
      cases a5; cases b5
      rw [a7] at b7
      have:=keyS_inj (h.ne e3) (h.ne e7) (ba_cancel b7)
      rw [e4,e8,h.inj2 e3 e7 (.inr this)]
    unfold RN.nd
    rw [h6,h7,hpar]
 have hi : Inv T:=by
  have nz : ∀ (j : Nat) f,fs[j]? = some f→(f.dir.path = 0↔j = 0):=by
   intro j f hx
   obtain ⟨g,h1,h2,h3,h4,h5⟩:=h.first
   constructor
   ·intro e; exact h.inj hx h1 (.inl (by rw [e,h4]))
   ·rintro rfl; rw [h1] at hx; cases hx; exact h4
  have hsort : T.ns.Pairwise fun a b=>a.path < b.path:=by
   rw [hT]
   show ((R.ns.filter fun n=>!n.gone).map RN.nd).Pairwise _
   rw [List.pairwise_map,List.pairwise_filter]
   rw [List.pairwise_iff_getElem]
   intro i j h1 h2 hij g1 g2
   have e1:=hidx i _ (List.getElem?_eq_getElem h1) (by simpa using g1)
   have e2:=hidx j _ (List.getElem?_eq_getElem h2) (by simpa using g2)
   show R.ns[i].dir.path < R.ns[j].dir.path
   rw [e1,e2]; omega
  have hnd : (T.ns.map (·.path)).Nodup:=by
   rw [List.Nodup,List.pairwise_map]
   exact hsort.imp fun {a b} hab=>by omega
  refine ⟨hsort,?_,?_,?_,?_,?_,?_,?_,?_,?_,?_,?_,?_,?_,⟨?_,?_⟩,?_,?_⟩
  ·obtain ⟨f,h1,h2,h3,h4,h5⟩:=h.first
   exact ⟨mkNd f 0,(mem _).2 ⟨0,f,0,h1,rfl,.inl ⟨rfl,rfl⟩⟩,h4⟩
  ·intro n hn'
   obtain ⟨j,f,par,h1,rfl,h2⟩:=(mem n).1 hn'
   have hb:=(h.right j f h1).1
   rw [hT]
   exact ⟨hb.2.2.2.2.1,hb.2.2.2.2.2.1⟩
  ·intro n hn' h0
   obtain ⟨j,f,par,h1,rfl,h2⟩:=(mem n).1 hn'
   have hj:=(nz j f h1).1 h0
   subst hj
   obtain ⟨g,g1,g2,g3,g4,g5⟩:=h.first
   rw [g1] at h1
   cases h1
   refine ⟨g5,?_⟩
   rcases h2 with ⟨-,e⟩ | ⟨e,-⟩
   ·exact e
   ·exact absurd rfl e
  ·intro n hn' h0
   obtain ⟨j,f,par,h1,rfl,h2⟩:=(mem n).1 hn'
   rcases h2 with ⟨e,-⟩ | ⟨e,k,u,e2,e3,e4⟩
   ·exact absurd ((nz j f h1).2 e) h0
   ·obtain ⟨a1,a2,a3,a4,a5,a6,a7⟩:=e2
    rw [e3] at a5
    cases a5
    by_cases hk : k = 0
    ·exact ⟨mkNd u 0,(mem _).2 ⟨k,u,0,e3,rfl,.inl ⟨hk,rfl⟩⟩,e4.symm,a6⟩
    ·obtain ⟨k2,hk2⟩:=h.up k u hk e3
     obtain ⟨b1,b2,b3,b4,b5,b6,b7⟩:=id hk2
     exact ⟨mkNd u b3.dir.path,(mem _).2 ⟨k,u,_,e3,rfl,.inr ⟨hk,k2,b3,hk2,b5,rfl⟩⟩,e4.symm,a6⟩
  ·intro a ha b hb ha0 hb0 hu hnm
   obtain ⟨i,f,pa,h1,rfl,h2⟩:=(mem a).1 ha
   obtain ⟨j,g,pb,h3,rfl,h4⟩:=(mem b).1 hb
   rcases h2 with ⟨e,-⟩ | ⟨e,k,u,e2,e3,e4⟩
   ·exact absurd ((nz i f h1).2 e) ha0
   rcases h4 with ⟨e',-⟩ | ⟨e',k',u',e2',e3',e4'⟩
   ·exact absurd ((nz j g h3).2 e') hb0
   obtain ⟨a1,a2,a3,a4,a5,a6,a7⟩:=e2
   obtain ⟨b1,b2,b3,b4,b5,b6,b7⟩:=e2'
   rw [h1] at a4; rw [h3] at b4
   cases a4; cases b4
   rw [e3] at a5; rw [e3'] at b5
   cases a5; cases b5
   have hu : pa = pb:=hu
   have hnm : f.dir.name = g.dir.name:=hnm
   have huu : u = u':=h.inj2 e3 e3' (.inl (by rw [← e4,← e4',hu]))
   have : f = g:=h.inj2 h1 h3 (.inr (by rw [a7,b7,huu,hnm]))
   show f.dir.path = g.dir.path
   rw [this]
  ·intro n hn' h0
   obtain ⟨j,f,par,h1,rfl,h2⟩:=(mem n).1 hn'
   exact h.name j f (fun e=>h0 ((nz j f h1).2 e)) h1
  ·refine ⟨fun p=>fs.findIdx fun f=>decide (f.dir.path = p),fun n hn' h0=>?_⟩
   obtain ⟨j,f,par,h1,rfl,h2⟩:=(mem n).1 hn'
   have fi : ∀ (j : Nat) f,fs[j]? = some f→fs.findIdx (fun g=>decide (g.dir.path = f.dir.path)) = j:=by
    intro j f hx
    have hlt:=(List.getElem?_eq_some_iff.1 hx).1
    have hlt2 : fs.findIdx (fun g=>decide (g.dir.path = f.dir.path)) < fs.length:=List.findIdx_lt_length_of_exists ⟨f,List.mem_of_getElem? hx,by simp⟩
    have h5:=List.findIdx_getElem (xs:=fs) (p:=fun g=>decide (g.dir.path = f.dir.path)) (w:=hlt2)
    exact h.inj (List.getElem?_eq_getElem hlt2) hx (.inl (of_decide_eq_true h5))
   rcases h2 with ⟨e,-⟩ | ⟨e,k,u,e2,e3,e4⟩
   ·exact absurd ((nz j f h1).2 e) h0
   ·show fs.findIdx (fun g=>decide (g.dir.path = par)) < fs.findIdx (fun g=>decide (g.dir.path = f.dir.path))
    rw [e4,fi k u e3,fi j f h1]
    exact e2.1
  ·intro n hn'
   obtain ⟨j,f,par,h1,rfl,h2⟩:=(mem n).1 hn'
   have hb:=(h.right j f h1).1
   exact ⟨hb.2.2.2.2.2.2.2.2,hb.2.2.2.2.2.2.2.1⟩
  ·intro n hn'
   obtain ⟨j,f,par,h1,rfl,h2⟩:=(mem n).1 hn'
   have hb:=(h.right j f h1).1
   exact ⟨hb.1,hb.2.1,hb.2.2.1,hb.2.2.2.1,hb.2.2.2.2.2.2.1⟩
  ·rw [hT]; exact List.Pairwise.nil
  ·rw [hT]; intro x hx; cases hx
  ·rw [hT]; intro x hx; cases hx
  ·rw [hT]; intro x hx; cases hx
  ·have:=nodup_len _ (fs.map fun f=>f.dir.path) hnd fun e he=>by
    obtain ⟨n,hn',rfl⟩:=List.mem_map.1 he
    obtain ⟨j,f,par,h1,rfl,h2⟩:=(mem n).1 hn'
    exact List.mem_map.2 ⟨f,List.mem_of_getElem? h1,rfl⟩
   rw [List.length_map,List.length_map] at this
   omega
  ·rw [hT]; exact Nat.zero_le _
  ·rw [hT]; exact hc
  ·intro n hn' h0
   obtain ⟨j,f,par,h1,rfl,h2⟩:=(mem n).1 hn'
   have hj:=(nz j f h1).1 h0
   subst hj
   obtain ⟨g,g1,g2,g3,g4,g5⟩:=h.first
   rw [g1] at h1
   cases h1
   exact g3
 have hrl : Rl R T:=by
  refine ⟨hidx,by rw [hT],fun n hn' hg=>?_⟩
  obtain ⟨p,hp⟩:=List.getElem?_of_mem hn'
  rcases hR p n hp with ⟨h3,-⟩ | ⟨j,f,h3,h4,h5,h6,h7,h8,h9⟩
  ·rw [hg] at h3; cases h3
  ·have:=(h.right j f h4).2
   rw [h6,h7]; exact this
 -- their paths
 have hpath : ∀ (n j : Nat) (f : Fl) (par : Int),j≤n→fs[j]? = some f→((j = 0∧par = 0)∨(j ≠ 0∧∃ (k : Nat) (u : Fl),isUp fs j k∧fs[k]? = some u∧par = u.dir.path))→T.pathS (mkNd f par) = f.path:=by
  intro n
  induction n with
  | zero =>
   intro j f par hj hx hp
   have hj : j = 0:=by omega
   subst hj
   obtain ⟨g,g1,g2,g3,g4,g5⟩:=h.first
   rw [g1] at hx
   cases hx
   rw [g2]
   exact pathS_root g4
  | succ n ih =>
   intro j f par hj hx hp
   by_cases hj0 : j = 0
   ·exact ih j f par (by omega) hx hp
   rcases id hp with ⟨e,-⟩ | ⟨e,k,u,e2,e3,e4⟩
   ·exact absurd e hj0
   have hm:=(mem (mkNd f par)).2 ⟨j,f,par,hx,rfl,hp⟩
   have h0 : (mkNd f par).path ≠ 0:=by
    obtain ⟨g,g1,g2,g3,g4,g5⟩:=h.first
    intro e5
    exact hj0 (h.inj hx g1 (.inl (by rw [g4]; exact e5)))
   rw [pathS_key hi hm h0]
   obtain ⟨p1,p2,p3⟩:=parent_mem hi hm h0
   obtain ⟨k',u',par',f1,f2,f3⟩:=(mem _).1 p1
   have hup : u'.dir.path = par:=by rw [f2] at p2; exact p2
   have huu : u' = u:=h.inj2 f1 e3 (.inl (by rw [hup,e4]))
   have hkk : k' = k:=h.inj f1 e3 (.inl (by rw [hup,e4]))
   obtain ⟨a1,a2,a3,a4,a5,a6,a7⟩:=e2
   rw [hx] at a4
   rw [e3] at a5
   cases a4; cases a5
   rw [f2,ih k' u' par' (by omega) f1 f3,huu]
   exact a7.symm
 have hfl : ∀ (j : Nat) (f : Fl) (par : Int),fs[j]? = some f→((j = 0∧par = 0)∨(j ≠ 0∧∃ (k : Nat) (u : Fl),isUp fs j k∧fs[k]? = some u∧par = u.dir.path))→T.fl (mkNd f par) = f:=by
  intro j f par hx hp
  have h1:=hpath j j f par (Nat.le_refl _) hx hp
  have h2:=(h.right j f hx).2
  unfold Tr.fl
  rw [h1]
  unfold Nd.stat
  obtain ⟨p,d,s⟩:=f
  obtain ⟨d1,d2,d3,d4,d5,d6,d7,d8,d9,d10⟩:=d
  simp only at h2
  simp only [← h2.1,← h2.2]
 rw [← hT]
 refine ⟨hi,hrl,fun i f hx=>?_,fun a ha=>?_⟩
 ·by_cases hi0 : i = 0
  ·exact ⟨mkNd f 0,(mem _).2 ⟨i,f,0,hx,rfl,.inl ⟨hi0,rfl⟩⟩,hfl i f 0 hx (.inl ⟨hi0,rfl⟩)⟩
  ·obtain ⟨k2,hk2⟩:=h.up i f hi0 hx
   obtain ⟨b1,b2,b3,b4,b5,b6,b7⟩:=id hk2
   exact ⟨mkNd f b3.dir.path,(mem _).2 ⟨i,f,_,hx,rfl,.inr ⟨hi0,k2,b3,hk2,b5,rfl⟩⟩,hfl i f _ hx (.inr ⟨hi0,k2,b3,hk2,b5,rfl⟩)⟩
 ·obtain ⟨j,f,par,h1,rfl,h2⟩:=(mem a).1 ha
  exact ⟨j,f,h1,hfl j f par h1 h2⟩

theorem ref_end(h:RefOk fs next)(hi:Inv T)(h1:∀(i:Nat) f,fs[i]? =some f→∃a∈T.ns,T.fl a=f)(h2:∀a∈T.ns,∃(i:Nat) (f:Fl),fs[i]? =some f∧T.fl a=f):
  (T.files.map Fl.path=fs.map Fl.path→T.files=fs)∧(Good fs next→T.files=fs):=by
 constructor
 ·intro he
  have hl:T.files.length=fs.length:=by have:=congrArg List.length he;simpa using this
  refine List.ext_getElem? λi=>?_
  cases hx:T.files[i]? with
  |none=>rw[List.getElem?_eq_none_iff]at hx;exact(List.getElem?_eq_none (by omega)).symm
  |some x=>
   have hlt:=(List.getElem?_eq_some_iff.1 hx).1
   have hy:fs[i]? =some (fs[i]'(by omega)):=List.getElem?_eq_getElem (by omega)
   generalize fs[i]'(by omega)=y at hy
   obtain⟨n,hn,rfl⟩:=(files_mem hi).1 (List.mem_of_getElem? hx)
   obtain⟨j,f,h3,h4⟩:=h2 n hn
   have e:=congrArg (λl=>l[i]?) he
   simp only[List.getElem?_map,hx,hy,Option.map_some,Option.some.injEq]at e
   rw[hy,h4]
   rw[h4]at e
   rw[h.inj2 h3 hy (.inr e)]
 ·rintro⟨U,hu,hf,hn⟩
  have hP:∀p∈T.ns,∃q∈U.ns,T.fl p=U.fl q:=by
   intro p hp
   obtain⟨i,f,h3,h4⟩:=h2 p hp
   rw[← hf]at h3
   obtain⟨q,hq,e⟩:=(files_mem hu).1 (List.mem_of_getElem? h3)
   exact⟨q,hq,by rw[h4,e]⟩
  have hP2:∀p∈T.ns,∃q∈U.ns,T.pathS p=U.pathS q∧p.path=q.path:=by
   intro p hp
   obtain⟨q,hq,e⟩:=hP p hp
   have:=fl_parts e
   exact⟨q,hq,this.1,this.2.1⟩
  have same:∀a∈T.ns,∀b∈U.ns,T.fl a=U.fl b→a=b:=by
   intro a ha b hb e
   obtain⟨e1,e2⟩:=fl_parts e
   exact nd_ext e2 (up_eq hi hu hP2 ha hb e1 e2.1 e2.2.2.2.2.1)
  have hset:∀m,m∈T.ns↔m∈U.ns:=by
   intro m
   constructor
   ·intro hm
    obtain⟨q,hq,e⟩:=hP m hm
    rw[same m hm q hq e];exact hq
   ·intro hm
    have:U.fl m∈fs:=by rw[← hf];exact(files_mem hu).2 ⟨m,hm,rfl⟩
    obtain⟨i,hx⟩:=List.getElem?_of_mem this
    obtain⟨a,ha,e⟩:=h1 i _ hx
    rw[← same a ha m hm e];exact ha
  have nd:∀{S:Tr},Inv S→S.ns.Nodup:=λhs=>hs.sorted.imp λh e=>by rw[e]at h;omega
  have e:T.ns=U.ns:=ns_of_perm hi hu ((List.perm_ext_iff_of_nodup (nd hi) (nd hu)).2 hset)
  rw[files_ns hu hi e,hf]
set_option maxRecDepth 100000
set_option linter.unusedVariables false
set_option linter.unusedSimpArgs false
variable {w0 w:World} {F:Nat→Prop} {l:List As}
variable {R:RT} {T:Tr} {gV nV hV:Value} {c:Int}
theorem bl_eq:∀(x y:List UInt8),Op.bytesLess x y=decide (x<y)
 |[],[]=>by simp[Op.bytesLess]
 |_::_,[]=>by simp[Op.bytesLess]
 |[],_::_=>by simp[Op.bytesLess]
 |a::x,b::y=>by
  rw[Op.bytesLess,bl_eq x y]
  simp only[List.cons_lt_cons_iff]
  by_cases h1:a<b<;>by_cases h2:a=b<;>by_cases h3:x<y<;>simp[h1,h2,h3]
theorem Bi.slss{s t:BA}{k:Value→Prop}(ht:byt s<byt t→k (.bool true))(hf:byt t≤byt s→k (.bool false)):Bi .lss (.string s) (.string t) k:=by
 by_cases h:byt s<byt t
 ·exact⟨_,by simp only[binV,strOp,bl_eq,Lib.toList_data];rw[decide_eq_true h],ht h⟩
 ·exact⟨_,by simp only[binV,strOp,bl_eq,Lib.toList_data];rw[decide_eq_false h],hf (List.not_lt.1 h)⟩
theorem sortS_of{xs ys:List BA}(h:xs.Perm ys)(hs:ys.Pairwise λa b=>byt a≤byt b):sortS xs=ys:=by
 have so:((xs.map byt).mergeSort λx y=>decide (x≤y)).Pairwise (λa b=>a≤b):=by
  have:=List.pairwise_mergeSort (le:=λx y:List UInt8=>decide (x≤y)) (λa b c h1 h2=>by simp only[decide_eq_true_eq]at h1 h2 ⊢;exact List.le_trans h1 h2) (λa b=>by simp only[Bool.or_eq_true,decide_eq_true_eq];exact List.le_total a b) (xs.map byt)
  exact this.imp λh=>by simpa using h
 have e:((xs.map byt).mergeSort λx y=>decide (x≤y))=ys.map byt:=
  List.Perm.eq_of_pairwise (le:=λa b=>a≤b) (λa b _ _ h1 h2=>List.le_antisymm h1 h2) so (List.pairwise_map.2 hs) ((List.mergeSort_perm _ _).trans (h.map byt))
 unfold sortS
 rw[e,List.map_map]
 have e:((λl:List UInt8=>(⟨l.toArray⟩:ByteArray)) ∘ byt)=id:=by funext x;exact byt_mk x
 rw[e,List.map_id]
def RN.kidB(p:Int)(n:RN):Bool:=!n.gone && decide (n.par=p) && decide (n.dir.path≠0)

theorem Rl.kids (h : Rl R T) (hi : Inv T) {p : Int} {ks : List RN} (hp : ks.Perm (R.ns.filter (RN.kidB p))) (hs : ks.Pairwise fun a b=>byt a.dir.name≤byt b.dir.name) : ks.map RN.nd = T.kidsS p:=by
 have hk : (T.kids p) = (R.ns.filter (RN.kidB p)).map RN.nd:=by
  unfold Tr.kids
  rw [h.ns,List.filter_map,List.filter_filter]
  congr 1
  apply List.filter_congr
  intro x _
  unfold RN.kidB Tr.isKid
  cases hg : x.gone with
  | true=>simp
  | false =>
   show (decide (x.nd.path ≠ 0∧x.nd.up = p) && true) = _
   rw [Bool.and_true]
   show decide (x.dir.path ≠ 0∧x.par = p) = (true && decide (x.par = p) && decide (x.dir.path ≠ 0))
   by_cases h1 : x.par = p <;> by_cases h2 : x.dir.path = 0 <;> simp [h1,h2]
 have hpn : (ks.map RN.nd).Perm (T.kids p):=by rw [hk]; exact hp.map _
 have hnm : sortS ((T.kids p).map (·.name)) = (ks.map RN.nd).map (·.name):=sortS_of ((hpn.map _).symm) (by rw [List.map_map]; exact List.pairwise_map.2 hs)
 unfold Tr.kidsS
 rw [hnm]
 have hm : ∀ k∈ks.map RN.nd,T.kid p k.name = some k:=by
  intro k hkm
  have:=hpn.mem_iff.1 hkm
  unfold Tr.kids at this
  obtain ⟨h1,h2⟩:=List.mem_filter.1 this
  unfold Tr.isKid at h2
  have h2:=of_decide_eq_true h2
  exact (kid_some hi).2 ⟨h1,h2.1,h2.2,rfl⟩
 generalize ks.map RN.nd = ms at hm
 induction ms with
 | nil=>rfl
 | cons k r ih =>
  rw [List.map_cons,List.filterMap_cons,hm k List.mem_cons_self]
  simp only []
  rw [← ih fun x hx=>hm x (List.mem_cons_of_mem _ hx)]
theorem u_sl_int64:PP.underlying Ty.t36=some (.slice Ty.int64):=by kernel_rfl
theorem s_int64:sizeK PP Ty.int64=some 1:=by kernel_rfl
theorem e_int64:el3 PP Ty.int64=some (some (i64 0),1,8):=by kernel_rfl
abbrev pv(ks:List RN):List Value:=ks.map λn=>i64 n.dir.path
theorem pv_scal(ks:List RN):(pv ks).all scalV=true:=by
 rw[List.all_eq_true];intro v hv;obtain⟨b,_,rfl⟩:=List.mem_map.1 hv;rfl
theorem insert_sorted {ks : List RN} {n : RN} {k : Nat} (hs : ks.Pairwise fun a b=>byt a.dir.name≤byt b.dir.name) (h1 : ∀ (j : Nat) x,j < k→ks[j]? = some x→byt x.dir.name < byt n.dir.name) (h2 : ∀ x,ks[k]? = some x→byt n.dir.name≤byt x.dir.name) :
  (ks.take k++n::ks.drop k).Pairwise fun a b=>byt a.dir.name≤byt b.dir.name:=by
 have hle : ∀ {a b : List UInt8},a < b→a≤b:=fun {a b} h=>List.not_lt.1 fun hc=>List.lt_irrefl a (List.lt_trans h hc)
 have hA : ∀ x∈ks.take k,byt x.dir.name≤byt n.dir.name:=fun x hx=>by
  obtain ⟨j,hj⟩:=List.getElem?_of_mem hx
  rw [List.getElem?_take] at hj
  split at hj
  ·rename_i hjk
   exact hle (h1 j x hjk hj)
  ·cases hj
 have hB : ∀ x∈ks.drop k,byt n.dir.name≤byt x.dir.name:=fun x hx=>by
  cases hd : ks.drop k with
  | nil=>rw [hd] at hx; cases hx
  | cons y r =>
   have hy : ks[k]? = some y:=by have:=congrArg (·[0]?) hd; simpa using this
   rw [hd] at hx
   rcases List.mem_cons.1 hx with rfl | hx
   ·exact h2 _ hy
   ·have:=hs.sublist (List.drop_sublist k ks)
    rw [hd,List.pairwise_cons] at this
    exact List.le_trans (h2 y hy) (this.1 x hx)
 rw [List.pairwise_append]
 refine ⟨hs.sublist (List.take_sublist k ks),List.pairwise_cons.2 ⟨hB,hs.sublist (List.drop_sublist k ks)⟩,fun a ha b hb=>?_⟩
 rcases List.mem_cons.1 hb with rfl | hb
 ·exact hA a ha
 ·exact List.le_trans (hA a ha) (hB b hb)
theorem rChildren_ok[iG:Scal gV][iN:Scal nV][iH:Scal hV](h:Rl R T)(hi:Inv T)(hN:R.ns.length≤1000000000){p:Int}(hm:NP nV R∈l)(E:Hs w0 F w l):
  Ca PP Fn.f82 #[rV gV nV hV c,i64 p] w λr w'=>Hs w0 F w' (slA r Ty.int64 1 ((T.kidsS p).map λk=>i64 k.path)::l):=by
 refine S.f82.calls ?_
 unfold S.f82
 refine StpA.go E ?_
 clear E
 intro q w_ hq E
 have hpos:1≤R.ns.length:=by
  obtain⟨n,hn,_⟩:=hi.root
  obtain⟨x,hx,_⟩:=h.mem.1 hn
  exact List.length_pos_of_mem hx
 skip
 refine BdS.nul E u_sl_int64 s_int64 ?_
 clear E
 intro v0 w_ E
 refine⟨λl1 w1=>∃(v:Value) (i:Nat) (ks:List RN),l1=[v,i64 i]∧1≤i∧i≤R.ns.length∧ks.Perm ((R.ns.take i).filter (RN.kidB p))∧(ks.Pairwise λa b=>byt a.dir.name≤byt b.dir.name)∧Hs w0 F w1 (slA v Ty.int64 1 (pv ks)::pt q (oc [gV,nV,hV,i64 c] Ty.t19)::l),λl1 _=>match l1 with|[_,.int _ i]=>R.ns.length-i.toNat|_=>0,⟨v0,1,[],rfl,Nat.le_refl _,hpos,?_,List.Pairwise.nil,E⟩,?_⟩
 ·have h0:R.ns[0]? =some (R.ns[0]'(by omega)):=List.getElem?_eq_getElem (by omega)
  generalize R.ns[0]'(by omega)=n at h0
  have:R.ns.take 1=[n]:=by rw[List.take_one];simp[List.head?_eq_getElem?,h0]
  have hk0:RN.kidB p n=false:=by
   unfold RN.kidB
   cases hg:n.gone with
   |true=>rfl
   |false=>
    have hp0:=h.idx 0 n h0 hg
    rw[decide_eq_false (show ¬n.dir.path≠0 from λhc=>hc (by rw[hp0];rfl)),Bool.and_false]
  rw[this,List.filter_cons,hk0]
  exact List.Perm.refl _
 clear E
 rintro v t6 u w_ ⟨v',i,ks,h1,hi1,hil,hperm,hsort,E⟩
 cases h1
 have kin:∀x∈ks,x∈R.ns:=λx hx=>List.mem_of_mem_take (List.mem_filter.1 (hperm.mem_iff.1 hx)).1
 have klen:ks.length≤R.ns.length:=by
  rw[hperm.length_eq]
  exact Nat.le_trans (List.length_filter_le _ _) (by rw[List.length_take];omega)
 repeat with_reducible first|refine Stp.go ?_|refine StpE.go E ?_
 refine LnL.rw rn_len E (List.mem_cons_of_mem _ (List.mem_cons_of_mem _ hm)) (by omega) ?_
 refine Bi.lss ?_ ?_<;>intro hlt<;>(repeat with_reducible refine Stp.go ?_)
 rotate_left
 ·rw[show R.ns.take i=R.ns from List.take_of_length_le (by omega)]at hperm
  have e:=h.kids hi hperm hsort
  rw[← e,List.map_map]
  exact E.drop (List.Sublist.cons_cons _ (List.sublist_cons_self _ _))
 have hn:R.ns[i]? =some (R.ns[i]'(by omega)):=List.getElem?_eq_getElem (by omega)
 generalize R.ns[i]'(by omega)=n at hn
 have hnp:n.gone=false→n.dir.path=i:=h.idx i n hn
 have tk:(R.ns.take (i+1)).filter (RN.kidB p)=(R.ns.take i).filter (RN.kidB p)++(if RN.kidB p n=true then[n]else[]):=by
  rw[List.take_add_one,hn,List.filter_append]
  congr 1
  cases hk:RN.kidB p n<;>simp[hk]
 (intro J15 hJ15)
 have fin:∀v w_ ks',ks'.Perm ((R.ns.take (i+1)).filter (RN.kidB p))→(ks'.Pairwise λa b=>byt a.dir.name≤byt b.dir.name)→Hs w0 F w_ (slA v Ty.int64 1 (pv ks')::pt q (oc [gV,nV,hV,i64 c] Ty.t19)::l)→J15 [v] w_:=by
  intro v w_ ks' hp' hs' E
  repeat with_reducible (apply hJ15;intro u_)
  refine Bi.add (by omega) ?_
  exact⟨⟨v,i+1,ks',by simp,by omega,by omega,hp',hs',E⟩,by simp only[];omega⟩
 clear hJ15
 (intro J20 hJ20)
 have fin2:∀b w_,b= !(RN.kidB p n)→Hs w0 F w_ (slA v Ty.int64 1 (pv ks)::pt q (oc [gV,nV,hV,i64 c] Ty.t19)::l)→J20 [.bool b] w_:=by
  intro b w_ hb E
  repeat with_reducible (apply hJ20;intro u_)
  clear hJ20
  cases hk:RN.kidB p n with
  |false=>
   rw[hk]at hb
   subst hb
   simp only[Bool.not_false]
   repeat with_reducible refine Stp.go ?_
   exact fin v _ ks (by rw[tk,hk];simpa using hperm) hsort E
  |true=>
   rw[hk]at hb
   subst hb
   simp only[Bool.not_true]
   repeat with_reducible refine Stp.go ?_
   refine⟨λl1 w1=>∃k:Nat,l1=[i64 k]∧k≤ks.length∧(∀(j:Nat) x,j<k→ks[j]? =some x→byt x.dir.name<byt n.dir.name)∧Hs w0 F w1 (slA v Ty.int64 1 (pv ks)::pt q (oc [gV,nV,hV,i64 c] Ty.t19)::l),λl1 _=>match l1 with|[.int _ i]=>ks.length-i.toNat|_=>0,⟨0,rfl,Nat.zero_le _,(λj x hj=>by omega),E⟩,?_⟩
   clear E
   rintro t7 u2 w_ ⟨k,h1,hkl,hlow,E⟩
   cases h1
   (intro J29 hJ29)
   have fin3:∀b w_,(b=true→k<ks.length∧∀x,ks[k]? =some x→byt x.dir.name<byt n.dir.name)→(b=false→∀x,ks[k]? =some x→byt n.dir.name≤byt x.dir.name)→Hs w0 F w_ (slA v Ty.int64 1 (pv ks)::pt q (oc [gV,nV,hV,i64 c] Ty.t19)::l)→J29 [.bool b] w_:=by
    intro b w_ hb hb2 E
    repeat with_reducible (apply hJ29;intro u_)
    clear hJ29
    cases b with
    |true=>
     obtain⟨hb3,hb4⟩:=hb rfl
     repeat with_reducible refine Stp.go ?_
     refine Bi.add (by omega) ?_
     refine⟨⟨k+1,by simp,by omega,λj x hj hx=>?_,E⟩,by simp only[];omega⟩
     by_cases hjk:j=k
     ·subst hjk;exact hb4 x hx
     ·exact hlow j x (by omega) hx
    |false=>
     have hsort':=insert_sorted hsort hlow (hb2 rfl)
     have hperm':(ks.take k++n::ks.drop k).Perm ((R.ns.take (i+1)).filter (RN.kidB p)):=by
      rw[tk,hk,if_pos rfl]
      refine List.perm_middle.trans ?_
      rw[List.take_append_drop]
      exact(List.perm_append_comm (l₁:=[n]) (l₂:=ks)).trans (hperm.append_right [n])
     have epv:pv (ks.take k)++[i64 (i:Int)]++pv (ks.drop k)=pv (ks.take k++n::ks.drop k):=by
      unfold pv
      rw[List.map_append,List.map_cons,hnp (by unfold RN.kidB at hk;cases hg:n.gone with|true=>rw[hg]at hk;cases hk|false=>rfl),List.append_assoc];rfl
     have hr:RdS w0 F (slA v Ty.int64 1 (pv ks)::pt q (oc [gV,nV,hV,i64 c] Ty.t19)::l) 1 ks.length v (pv ks):=by
      have:=RdS.by1 v E
      rwa [List.length_map]at this
     repeat with_reducible first|refine Stp.go ?_|(refine StpW.go E ?_;clear E;intro w_ E)
     refine hr.slice (lo:=none) (hi:=some (i64 k)) (a:=0) (b:=k) rfl (by simp[bnd]) (by omega) (by omega) ?_
     intro v1 hv1
     rw[List.drop_zero,← List.map_take,Nat.sub_zero]at hv1
     refine hr.slice (lo:=some (i64 k)) (hi:=none) (a:=k) (b:=ks.length) (by simp[bnd]) rfl (by omega) (by omega) ?_
     intro v2 hv2
     rw[List.take_of_length_le (by simp),← List.map_drop]at hv2
     refine⟨?_,?_,trivial⟩
     ·refine BdS.nul E u_sl_int64 s_int64 ?_
      clear E
      intro t58 w_ E
      refine⟨?_,?_,trivial⟩
      ·refine Ap.one E (i:=0) rfl u_sl_int64 ⟨_,u_sl_int64,λ_ h=>by cases h⟩ e_int64 (RdS.src (hv1.cons _) E (pv_scal _)) rfl (by simp;omega) (by simp;omega) ?_
       clear E
       intro t62 w_ E
       (try simp only[List.set_cons_zero,List.set_cons_succ,List.cons_append,List.nil_append,Nat.zero_add,Nat.add_zero]at E)
       refine BdS.one E u_sl_int64 e_int64 rfl ?_
       clear E
       intro t64 w_ E
       refine Ap.one E (i:=1) rfl u_sl_int64 ⟨_,u_sl_int64,λ_ h=>by cases h⟩ e_int64 (Src.one E List.mem_cons_self rfl) rfl (by simp;omega) (by simp;omega) ?_
       clear E
       intro t65 w_ E
       (try simp only[List.set_cons_zero,List.set_cons_succ,List.cons_append,List.nil_append,Nat.zero_add,Nat.add_zero]at E)
       refine Ap.one E (i:=1) rfl u_sl_int64 ⟨_,u_sl_int64,λ_ h=>by cases h⟩ e_int64 (RdS.src ((hv2.cons _).cons _) E (pv_scal _)) rfl (by simp;omega) (by simp;omega) ?_
       clear E
       intro t69 w_ E
       (try simp only[List.set_cons_zero,List.set_cons_succ,List.cons_append,List.nil_append,Nat.zero_add,Nat.add_zero]at E)
       rw[epv]at E
       exact fin t69 _ _ hperm' hsort' (E.tl.bIx 1).tl
      ·refine BdS.one E u_sl_int64 e_int64 rfl ?_
       clear E
       intro t64 w_ E
       refine Ap.one E (i:=1) rfl u_sl_int64 ⟨_,u_sl_int64,λ_ h=>by cases h⟩ e_int64 (RdS.src ((hv1.cons _).cons _) E (pv_scal _)) rfl (by simp;omega) (by simp;omega) ?_
       clear E
       intro t62 w_ E
       (try simp only[List.set_cons_zero,List.set_cons_succ,List.cons_append,List.nil_append,Nat.zero_add,Nat.add_zero]at E)
       refine Ap.one E (i:=1) rfl u_sl_int64 ⟨_,u_sl_int64,λ_ h=>by cases h⟩ e_int64 (Src.one E List.mem_cons_self rfl) rfl (by simp;omega) (by simp;omega) ?_
       clear E
       intro t65 w_ E
       (try simp only[List.set_cons_zero,List.set_cons_succ,List.cons_append,List.nil_append,Nat.zero_add,Nat.add_zero]at E)
       refine Ap.one E (i:=1) rfl u_sl_int64 ⟨_,u_sl_int64,λ_ h=>by cases h⟩ e_int64 (RdS.src ((hv2.cons _).cons _) E (pv_scal _)) rfl (by simp;omega) (by simp;omega) ?_
       clear E
       intro t69 w_ E
       (try simp only[List.set_cons_zero,List.set_cons_succ,List.cons_append,List.nil_append,Nat.zero_add,Nat.add_zero]at E)
       rw[epv]at E
       exact fin t69 _ _ hperm' hsort' (E.tl.bIx 1).tl
     ·refine BdS.one E u_sl_int64 e_int64 rfl ?_
      clear E
      intro t64 w_ E
      refine BdS.nul E u_sl_int64 s_int64 ?_
      clear E
      intro t58 w_ E
      refine Ap.one E (i:=0) rfl u_sl_int64 ⟨_,u_sl_int64,λ_ h=>by cases h⟩ e_int64 (RdS.src ((hv1.cons _).cons _) E (pv_scal _)) rfl (by simp;omega) (by simp;omega) ?_
      clear E
      intro t62 w_ E
      (try simp only[List.set_cons_zero,List.set_cons_succ,List.cons_append,List.nil_append,Nat.zero_add,Nat.add_zero]at E)
      refine Ap.one E (i:=0) rfl u_sl_int64 ⟨_,u_sl_int64,λ_ h=>by cases h⟩ e_int64 (Src.one E (List.mem_of_getElem? (i:=1) rfl) rfl) rfl (by simp;omega) (by simp;omega) ?_
      clear E
      intro t65 w_ E
      (try simp only[List.set_cons_zero,List.set_cons_succ,List.cons_append,List.nil_append,Nat.zero_add,Nat.add_zero]at E)
      refine Ap.one E (i:=0) rfl u_sl_int64 ⟨_,u_sl_int64,λ_ h=>by cases h⟩ e_int64 (RdS.src ((hv2.cons _).cons _) E (pv_scal _)) rfl (by simp;omega) (by simp;omega) ?_
      clear E
      intro t69 w_ E
      (try simp only[List.set_cons_zero,List.set_cons_succ,List.cons_append,List.nil_append,Nat.zero_add,Nat.add_zero]at E)
      rw[epv]at E
      exact fin t69 _ _ hperm' hsort' (((E.bIx 1).tl).bIx 1).tl
   clear hJ29
   repeat with_reducible first|refine StpE.go E ?_|(refine StpW.go E ?_;clear E;intro w_ E)
   have hr:RdS w0 F (slA v Ty.int64 1 (pv ks)::pt q (oc [gV,nV,hV,i64 c] Ty.t19)::l) 1 ks.length v (pv ks):=by
    have:=RdS.by1 v E
    rwa [List.length_map]at this
   rw[List.length_map]
   refine Bi.lss ?_ ?_<;>intro hlt2<;>(repeat with_reducible first|refine Stp.go ?_|refine StpE.go E ?_)
   ·have hx:ks[k]? =some (ks[k]'(by omega)):=List.getElem?_eq_getElem (by omega)
    generalize ks[k]'(by omega)=x at hx
    obtain⟨m,hxm⟩:=List.getElem?_of_mem (kin x (List.mem_of_getElem? hx))
    have hxg:x.gone=false:=by
     have:=(List.mem_filter.1 (hperm.mem_iff.1 (List.mem_of_getElem? hx))).2
     unfold RN.kidB at this
     cases hg:x.gone with
     |true=>rw[hg]at this;cases this
     |false=>rfl
    have hxp:=h.idx m x hxm hxg
    have hml:=(List.getElem?_eq_some_iff.1 hxm).1
    refine hr.ix (by omega) (by omega) (by omega) ?_
    intro a ha
    repeat with_reducible refine Stp.go ?_
    refine ha.ld E (x:=i64 (m:Int)) (by rw[Int.toNat_natCast,Nat.mul_one,List.getElem?_drop,Nat.add_zero,List.getElem?_map,hx,← hxp];rfl) ?_
    repeat with_reducible refine Stp.go ?_
    refine IxA.rw rn_len E (List.mem_cons_of_mem _ (List.mem_cons_of_mem _ hm)) (by omega) (by omega) (by omega) ?_
    rw[Int.toNat_natCast]
    intro a ha
    repeat with_reducible refine Stp.go ?_
    refine Fa.el ha ?_
    intro a2 ha2
    repeat with_reducible refine Stp.go ?_
    refine Fa.el ha2 ?_
    intro a3 ha3
    repeat with_reducible refine Stp.go ?_
    refine Ld.rw rn_len E (List.mem_cons_of_mem _ (List.mem_cons_of_mem _ hm)) ha3 hxm (by omega) (y:=str x.dir.name) rfl ?_
    repeat with_reducible first|refine Stp.go ?_|refine StpE.go E ?_
    refine IxA.rw rn_len E (List.mem_cons_of_mem _ (List.mem_cons_of_mem _ hm)) (by omega) (by omega) (by omega) ?_
    rw[Int.toNat_natCast]
    intro a ha
    repeat with_reducible refine Stp.go ?_
    refine Fa.el ha ?_
    intro a2 ha2
    repeat with_reducible refine Stp.go ?_
    refine Fa.el ha2 ?_
    intro a3 ha3
    repeat with_reducible refine Stp.go ?_
    refine Ld.rw rn_len E (List.mem_cons_of_mem _ (List.mem_cons_of_mem _ hm)) ha3 hn (by omega) (y:=str n.dir.name) rfl ?_
    repeat with_reducible refine Stp.go ?_
    refine Bi.slss ?_ ?_<;>intro hc<;>(repeat with_reducible refine Stp.go ?_)
    ·exact fin3 true _ (λ_=>⟨by omega,λy hy=>by rw[hx]at hy;cases hy;exact hc⟩) (λh=>by cases h) E
    ·exact fin3 false _ (λh=>by cases h) (λ_ y hy=>by rw[hx]at hy;cases hy;exact hc) E
   ·exact fin3 false _ (λh=>by cases h) (λ_ y hy=>by have:=(List.getElem?_eq_some_iff.1 hy).1;omega) E
 clear hJ20
 repeat with_reducible first|refine Stp.go ?_|refine StpE.go E ?_
 refine IxA.rw rn_len E (List.mem_cons_of_mem _ (List.mem_cons_of_mem _ hm)) (by omega) (by omega) (by omega) ?_
 rw[Int.toNat_natCast]
 intro a ha
 skip
 refine Fa.el ha ?_
 intro a2 ha2
 skip
 refine Ld.rw rn_len E (List.mem_cons_of_mem _ (List.mem_cons_of_mem _ hm)) ha2 hn (by omega) (y:=.bool n.gone) rfl ?_
 have hp0:n.gone=false→n.dir.path≠0:=λhg=>by rw[hnp hg];omega
 cases hg:n.gone with
 |true=>
  repeat with_reducible refine Stp.go ?_
  exact fin2 true _ (by unfold RN.kidB;rw[hg];rfl) E
 |false=>
  repeat with_reducible first|refine Stp.go ?_|refine StpE.go E ?_
  refine IxA.rw rn_len E (List.mem_cons_of_mem _ (List.mem_cons_of_mem _ hm)) (by omega) (by omega) (by omega) ?_
  rw[Int.toNat_natCast]
  intro a ha
  repeat with_reducible refine Stp.go ?_
  refine Fa.el ha ?_
  intro a2 ha2
  repeat with_reducible refine Stp.go ?_
  refine Ld.rw rn_len E (List.mem_cons_of_mem _ (List.mem_cons_of_mem _ hm)) ha2 hn (by omega) (y:=i64 n.par) rfl ?_
  repeat with_reducible refine Stp.go ?_
  refine Bi.neq ?_ ?_<;>intro hc<;>(repeat with_reducible refine Stp.go ?_)
  ·exact fin2 true _ (by unfold RN.kidB;rw[hg,decide_eq_false hc];rfl) E
  ·exact fin2 false _ (by unfold RN.kidB;rw[hg,decide_eq_true hc,decide_eq_true (hp0 hg)];rfl) E
set_option maxRecDepth 100000
set_option linter.unusedVariables false
set_option linter.unusedSimpArgs false
variable {w0 w:World} {F:Nat→Prop} {l:List As}
variable {R:RT} {T:Tr} {gV nV hV:Value} {c:Int}
abbrev f28V:Value:=.agg #[str ⟨#[]⟩,i64 0,i64 0,i64 0,i64 0,i64 0,i64 0,str ⟨#[]⟩,str ⟨#[]⟩,str ⟨#[]⟩,str ⟨#[]⟩,str ⟨#[]⟩]
theorem u_sl_File28:PP.underlying Ty.t30=some (.slice Ty.t40):=by kernel_rfl
theorem s_File28:sizeK PP Ty.t40=some 12:=by kernel_rfl
theorem z_File28:zeroK PP Ty.t40=some f28V:=by kernel_rfl
theorem e_File28:el3 PP Ty.t40=some (some f28V,12,144):=by kernel_rfl
theorem fl_len(x:Fl):x.cs.length=12:=rfl
theorem fcs_scal28(L:List Fl):(fcs L).all scalV=true:=by
 unfold fcs;rw[List.all_flatMap];simp[Fl.cs,scalV]
theorem BdS.fl28{x:Fl}{k:Value→World→Prop}(E:Hs w0 F w l)(hk:∀v w',Hs w0 F w' (slA v Ty.t40 12 x.cs::l)→k v w'):Ef PP (Instr.buildSlice Ty.t30 1 #[(0,.agg x.cs.toArray)]) w k:=
 BdS.sl E u_sl_File28 s_File28 z_File28 (by omega) (by omega) (xs:=x.cs) (by kernel_rfl) rfl hk
theorem rBelow_ok[iG:Scal gV][iN:Scal nV][iH:Scal hV](h:Rl R T)(hi:Inv T)(hN:R.ns.length≤1000000000)(hps:∀n∈T.ns,(T.pathS n).size≤100000){rk:Int→Nat}(hrk:∀n∈T.ns,n.path≠0→rk n.up<rk n.path)(hrb:∀p,rk p≤1024):
  ∀(f:Nat) {i:Nat} {n:RN} {ov:Value} {L:List Fl} {l:List As} {w:World},R.ns[i]? =some n→n.gone=false→1024<rk i+f→L.length+(belowN T f n.nd).length≤1000000→NP nV R∈l→slA ov Ty.t40 12 (fcs L)∈l→Hs w0 F w l→
   Ca PP Fn.r28_below #[rV gV nV hV c,i64 i,str (T.topS n.nd),ov] w λr w'=>Hs w0 F w' (slA r Ty.t40 12 (fcs (L++(belowN T f n.nd).map T.fl))::l)
 |0,i,n,ov,L,l,w,_,_,hf,_,_,_,_=>by have:=hrb i;omega
 |f+1,i,n,ov,L,l,w,hn,hg,hf,hlen,mN,mO,E=>by
  have ih:=λ{i:Nat} {n:RN} {ov:Value} {L:List Fl} {l:List As} {w:World}=>rBelow_ok h hi hN hps hrk hrb f (i:=i) (n:=n) (ov:=ov) (L:=L) (l:=l) (w:=w)
  have hnm:=List.mem_of_getElem? hn
  have hlt:=(List.getElem?_eq_some_iff.1 hn).1
  have hpn:n.nd.path=(i:Int):=h.idx i n hn hg
  have hbe:belowN T (f+1) n.nd=n.nd::(T.kidsS n.nd.path).flatMap (belowN T f):=rfl
  obtain⟨K,hK⟩:∃K,T.kidsS (i:Int)=K:=⟨_,rfl⟩
  have hKm:∀y∈K,y∈T.ns∧y.path≠0∧y.up=n.nd.path:=λy hy=>by rw[← hK]at hy;rw[hpn];exact kidsS_mem hi hy
  have hkl:K.length≤1024:=by rw[← hK];exact kidsS_len hi _
  rw[hpn,hK]at hbe
  rw[hbe,List.length_cons]at hlen
  have hflc:(T.fl n.nd).cs=[str (T.pathS n.nd),i64 n.dir.kind,i64 n.dir.vers,i64 n.dir.path,i64 n.dir.mode,i64 n.dir.time,i64 n.dir.len,str n.dir.name,str n.dir.owner,str n.dir.group,str n.dir.last,str n.data]:=by
   unfold Tr.fl;rw[h.stat hnm hg];rfl
  have hnT:n.nd∈T.ns:=h.mem.2 ⟨n,hnm,hg,rfl⟩
  refine S.r28_below.calls ?_
  unfold S.r28_below
  refine StpA.go E ?_
  clear E
  intro q w_ hq E
  (intro J3 hJ3)
  have fin3:∀w_,Hs w0 F w_ (pt q (oc [gV,nV,hV,i64 c] Ty.t19)::l)→J3 [str (T.pathS n.nd)] w_:=by
   intro w_ E
   repeat with_reducible first|refine Stp.go ?_|refine StpE.go E ?_|(refine StpW.go E ?_;clear E;intro w_ E)|(apply hJ3;intro u_)
   clear hJ3
   refine IxA.rw rn_len E (List.mem_cons_of_mem _ mN) (by omega) (by omega) (by omega) ?_
   rw[Int.toNat_natCast]
   intro a ha
   skip
   refine Fa.el ha ?_
   intro a2 ha2
   skip
   refine LdA.rw rn_len E (List.mem_cons_of_mem _ mN) ha2 hn (by omega) (ds:=n.dir.cs) rfl rfl ?_
   repeat with_reducible first|refine Stp.go ?_|refine StpE.go E ?_
   refine IxA.rw rn_len E (List.mem_cons_of_mem _ mN) (by omega) (by omega) (by omega) ?_
   rw[Int.toNat_natCast]
   intro b hb
   skip
   refine Fa.el hb ?_
   intro b2 hb2
   skip
   refine Ld.rw rn_len E (List.mem_cons_of_mem _ mN) hb2 hn (by omega) (y:=str n.data) rfl ?_
   repeat with_reducible refine StpE.go E ?_
   rw[← hflc]
   refine⟨?_,?_,trivial⟩
   ·refine BdS.nul E u_sl_File28 s_File28 ?_
    clear E
    intro t16 w_ E
    refine⟨by (repeat with_reducible refine StpE.go E ?_);rfl,LdA.rw rn_len E (List.mem_cons_of_mem _ (List.mem_cons_of_mem _ mN)) ha2 hn (by omega) (ds:=n.dir.cs) rfl rfl rfl,by (repeat with_reducible refine StpE.go E ?_);rfl,Ld.rw rn_len E (List.mem_cons_of_mem _ (List.mem_cons_of_mem _ mN)) hb2 hn (by omega) (y:=str n.data) rfl rfl,?_,?_,trivial⟩
    ·refine Ap.el E (i:=0) rfl u_sl_File28 ⟨_,u_sl_File28,λ_ h=>by cases h⟩ e_File28 (by omega) (Src.slice (show SliceAt ov Ty.t40 12 (fcs L) w_ from E.sat _ (List.mem_cons_of_mem _ (List.mem_cons_of_mem _ mO))) (rw_len fl_len _) (by omega) (fcs_scal28 _)) rfl (by simp;omega) (by simp;omega) ?_
     clear E
     intro t18 w_ E
     (try simp only[List.set_cons_zero,List.set_cons_succ,List.cons_append,List.nil_append,Nat.zero_add,Nat.add_zero]at E)
     refine⟨by (repeat with_reducible refine StpE.go E ?_);rfl,LdA.rw rn_len E (List.mem_cons_of_mem _ (List.mem_cons_of_mem _ mN)) ha2 hn (by omega) (ds:=n.dir.cs) rfl rfl rfl,by (repeat with_reducible refine StpE.go E ?_);rfl,Ld.rw rn_len E (List.mem_cons_of_mem _ (List.mem_cons_of_mem _ mN)) hb2 hn (by omega) (y:=str n.data) rfl rfl,?_⟩
     refine BdS.fl28 (x:=T.fl n.nd) E ?_
     clear E
     intro t33 w_ E
     refine Ap.el E (i:=1) rfl u_sl_File28 ⟨_,u_sl_File28,λ_ h=>by cases h⟩ e_File28 (by omega) (Src.slice (show SliceAt t33 Ty.t40 12 (T.fl n.nd).cs w_ from E.sat _ (List.mem_of_getElem? (i:=0) rfl)) rfl (by omega) rfl) rfl (by rw[rw_len fl_len];omega) (by rw[rw_len fl_len];omega) ?_
     clear E
     intro t34 w_ E
     (try simp only[List.set_cons_zero,List.set_cons_succ,List.cons_append,List.nil_append,Nat.zero_add,Nat.add_zero]at E)
     replace E:=E.tl
     rw[show fcs L++(T.fl n.nd).cs=fcs (L++[T.fl n.nd]) by simp[fcs]]at E
     repeat with_reducible refine StpE.go E ?_
     refine(rChildren_ok h hi hN (List.mem_cons_of_mem _ (List.mem_cons_of_mem _ mN)) E).mono ?_
     clear E
     intro cv w_ E
     rw[hK]at E
     (replace E:=((E.bIx 0).bIx 1))
     refine⟨λl1 w1=>∃(v:Value) (j:Nat),l1=[v,i64 j]∧j≤K.length∧Hs w0 F w1 (slA v Ty.t40 12 (fcs (L++[T.fl n.nd]++((K.take j).flatMap (belowN T f)).map T.fl))::slA cv Ty.int64 1 (K.map λk=>i64 k.path)::pt q (oc [gV,nV,hV,i64 c] Ty.t19)::l),λl1 _=>match l1 with|[_,.int _ i]=>K.length-i.toNat|_=>0,⟨t34,0,rfl,Nat.zero_le _,by simpa using E⟩,?_⟩
     clear E
     rintro v t12 u2 w_ ⟨v',j,h1,hj,E⟩
     cases h1
     have hcr:=RdS.by1 cv E
     rw[List.length_map]at hcr
     refine hcr.len ?_
     refine Bi.lss ?_ ?_<;>intro hlt2<;>(repeat with_reducible first|refine Stp.go ?_|refine StpE.go E ?_|(refine StpW.go E ?_;clear E;intro w_ E))
     ·have hy:K[j]? =some (K[j]'(by omega)):=List.getElem?_eq_getElem (by omega)
      generalize K[j]'(by omega)=y at hy
      obtain⟨hyT,hy0,hyu⟩:=hKm y (List.mem_of_getElem? hy)
      obtain⟨x,hxn,hxg,rfl⟩:=h.mem.1 hyT
      obtain⟨m,hm⟩:=List.getElem?_of_mem hxn
      have hmp:=h.idx m x hm hxg
      have hml:=(List.getElem?_eq_some_iff.1 hm).1
      have hst:=topS_step hi hyT hy0
      have hpar:T.parent x.nd=n.nd:=by
       unfold Tr.parent;rw[hyu,hpn,h.at_ hi hn hg];rfl
      rw[hpar]at hst
      have hxs:=hps _ hyT
      have hts:(T.topS x.nd).size≤100000:=by unfold Tr.topS;split;exact Nat.zero_le _;exact hxs
      have hsz2:=congrArg ByteArray.size hst
      simp only[ByteArray.size_append]at hsz2
      have hss:ByteArray.size sep=1:=rfl
      have hnm:x.nd.name=x.dir.name:=rfl
      rw[hnm]at hsz2 hst
      refine hcr.ix (by omega) (by omega) (by omega) ?_
      intro a ha
      skip
      refine ha.ld E (x:=i64 (m:Int)) (by rw[Int.toNat_natCast,Nat.mul_one,List.getElem?_drop,Nat.add_zero,List.getElem?_map,hy,← hmp];rfl) ?_
      skip
      refine Bi.sadd (t:=sep) (by omega) ?_
      repeat with_reducible first|refine Stp.go ?_|refine StpE.go E ?_
      refine hcr.ix (by omega) (by omega) (by omega) ?_
      intro a ha
      skip
      refine ha.ld E (x:=i64 (m:Int)) (by rw[Int.toNat_natCast,Nat.mul_one,List.getElem?_drop,Nat.add_zero,List.getElem?_map,hy,← hmp];rfl) ?_
      skip
      refine IxA.rw rn_len E (List.mem_cons_of_mem _ (List.mem_cons_of_mem _ (List.mem_cons_of_mem _ mN))) (by omega) (by omega) (by omega) ?_
      rw[Int.toNat_natCast]
      intro a ha
      skip
      refine Fa.el ha ?_
      intro a5 ha5
      skip
      refine Fa.el ha5 ?_
      intro a6 ha6
      skip
      refine Ld.rw rn_len E (List.mem_cons_of_mem _ (List.mem_cons_of_mem _ (List.mem_cons_of_mem _ mN))) ha6 hm (by omega) (y:=str x.dir.name) rfl ?_
      skip
      refine Bi.sadd (by rw[ByteArray.size_append];omega) ?_
      skip
      have hrx:=hrk _ hyT hy0
      rw[hyu,show x.nd.path=(m:Int)from hmp]at hrx
      rw[hpn]at hrx
      have tk:(K.take (j+1)).flatMap (belowN T f)=(K.take j).flatMap (belowN T f)++belowN T f x.nd:=by
       rw[List.take_add_one,hy,List.flatMap_append];simp
      have hbl:((K.take (j+1)).flatMap (belowN T f)).length≤(K.flatMap (belowN T f)).length:=by
       conv=>rhs;rw[← List.take_append_drop (j+1) K,List.flatMap_append,List.length_append]
       omega
      rw[tk,List.length_append]at hbl
      rw[ByteArray.append_assoc,← hst]
      refine(ih (i:=m) (n:=x) (L:=L++[T.fl n.nd]++((K.take j).flatMap (belowN T f)).map T.fl) hm hxg (by omega) (by simp only[List.length_append,List.length_map,List.length_singleton];omega) (List.mem_cons_of_mem _ (List.mem_cons_of_mem _ (List.mem_cons_of_mem _ mN))) List.mem_cons_self E).mono ?_
      clear E
      intro r w_ E
      refine Bi.add (by omega) ?_
      refine⟨⟨r,j+1,by simp,by omega,?_⟩,by simp only[];omega⟩
      rw[tk,List.map_append,← List.append_assoc]
      exact(E.bIx 1).tl
     ·rw[show K.take j=K from List.take_of_length_le (by omega)]at E
      rw[show L++(belowN T (f+1) n.nd).map T.fl=L++[T.fl n.nd]++(K.flatMap (belowN T f)).map T.fl by rw[hbe];simp]
      exact E.drop (List.Sublist.cons_cons _ ((List.sublist_cons_self _ _).trans (List.sublist_cons_self _ _)))
    ·refine BdS.fl28 (x:=T.fl n.nd) E ?_
     clear E
     intro t33 w_ E
     refine Ap.el E (i:=1) rfl u_sl_File28 ⟨_,u_sl_File28,λ_ h=>by cases h⟩ e_File28 (by omega) (Src.slice (show SliceAt ov Ty.t40 12 (fcs L) w_ from E.sat _ (List.mem_cons_of_mem _ (List.mem_cons_of_mem _ (List.mem_cons_of_mem _ mO)))) (rw_len fl_len _) (by omega) (fcs_scal28 _)) rfl (by simp;omega) (by simp;omega) ?_
     clear E
     intro t18 w_ E
     (try simp only[List.set_cons_zero,List.set_cons_succ,List.cons_append,List.nil_append,Nat.zero_add,Nat.add_zero]at E)
     refine⟨by (repeat with_reducible refine StpE.go E ?_);rfl,LdA.rw rn_len E (List.mem_cons_of_mem _ (List.mem_cons_of_mem _ (List.mem_cons_of_mem _ mN))) ha2 hn (by omega) (ds:=n.dir.cs) rfl rfl rfl,by (repeat with_reducible refine StpE.go E ?_);rfl,Ld.rw rn_len E (List.mem_cons_of_mem _ (List.mem_cons_of_mem _ (List.mem_cons_of_mem _ mN))) hb2 hn (by omega) (y:=str n.data) rfl rfl,?_⟩
     refine Ap.el E (i:=1) rfl u_sl_File28 ⟨_,u_sl_File28,λ_ h=>by cases h⟩ e_File28 (by omega) (Src.slice (show SliceAt t33 Ty.t40 12 (T.fl n.nd).cs w_ from E.sat _ (List.mem_of_getElem? (i:=0) rfl)) rfl (by omega) rfl) rfl (by rw[rw_len fl_len];omega) (by rw[rw_len fl_len];omega) ?_
     clear E
     intro t34 w_ E
     (try simp only[List.set_cons_zero,List.set_cons_succ,List.cons_append,List.nil_append,Nat.zero_add,Nat.add_zero]at E)
     replace E:=E.tl
     rw[show fcs L++(T.fl n.nd).cs=fcs (L++[T.fl n.nd]) by simp[fcs]]at E
     repeat with_reducible refine StpE.go E ?_
     refine(rChildren_ok h hi hN (List.mem_cons_of_mem _ (List.mem_cons_of_mem _ mN)) E).mono ?_
     clear E
     intro cv w_ E
     rw[hK]at E
     (replace E:=((E.bIx 0).bIx 1))
     refine⟨λl1 w1=>∃(v:Value) (j:Nat),l1=[v,i64 j]∧j≤K.length∧Hs w0 F w1 (slA v Ty.t40 12 (fcs (L++[T.fl n.nd]++((K.take j).flatMap (belowN T f)).map T.fl))::slA cv Ty.int64 1 (K.map λk=>i64 k.path)::pt q (oc [gV,nV,hV,i64 c] Ty.t19)::l),λl1 _=>match l1 with|[_,.int _ i]=>K.length-i.toNat|_=>0,⟨t34,0,rfl,Nat.zero_le _,by simpa using E⟩,?_⟩
     clear E
     rintro v t12 u2 w_ ⟨v',j,h1,hj,E⟩
     cases h1
     have hcr:=RdS.by1 cv E
     rw[List.length_map]at hcr
     refine hcr.len ?_
     refine Bi.lss ?_ ?_<;>intro hlt2<;>(repeat with_reducible first|refine Stp.go ?_|refine StpE.go E ?_|(refine StpW.go E ?_;clear E;intro w_ E))
     ·have hy:K[j]? =some (K[j]'(by omega)):=List.getElem?_eq_getElem (by omega)
      generalize K[j]'(by omega)=y at hy
      obtain⟨hyT,hy0,hyu⟩:=hKm y (List.mem_of_getElem? hy)
      obtain⟨x,hxn,hxg,rfl⟩:=h.mem.1 hyT
      obtain⟨m,hm⟩:=List.getElem?_of_mem hxn
      have hmp:=h.idx m x hm hxg
      have hml:=(List.getElem?_eq_some_iff.1 hm).1
      have hst:=topS_step hi hyT hy0
      have hpar:T.parent x.nd=n.nd:=by
       unfold Tr.parent;rw[hyu,hpn,h.at_ hi hn hg];rfl
      rw[hpar]at hst
      have hxs:=hps _ hyT
      have hts:(T.topS x.nd).size≤100000:=by unfold Tr.topS;split;exact Nat.zero_le _;exact hxs
      have hsz2:=congrArg ByteArray.size hst
      simp only[ByteArray.size_append]at hsz2
      have hss:ByteArray.size sep=1:=rfl
      have hnm:x.nd.name=x.dir.name:=rfl
      rw[hnm]at hsz2 hst
      refine hcr.ix (by omega) (by omega) (by omega) ?_
      intro a ha
      skip
      refine ha.ld E (x:=i64 (m:Int)) (by rw[Int.toNat_natCast,Nat.mul_one,List.getElem?_drop,Nat.add_zero,List.getElem?_map,hy,← hmp];rfl) ?_
      skip
      refine Bi.sadd (t:=sep) (by omega) ?_
      repeat with_reducible first|refine Stp.go ?_|refine StpE.go E ?_
      refine hcr.ix (by omega) (by omega) (by omega) ?_
      intro a ha
      skip
      refine ha.ld E (x:=i64 (m:Int)) (by rw[Int.toNat_natCast,Nat.mul_one,List.getElem?_drop,Nat.add_zero,List.getElem?_map,hy,← hmp];rfl) ?_
      skip
      refine IxA.rw rn_len E (List.mem_cons_of_mem _ (List.mem_cons_of_mem _ (List.mem_cons_of_mem _ mN))) (by omega) (by omega) (by omega) ?_
      rw[Int.toNat_natCast]
      intro a ha
      skip
      refine Fa.el ha ?_
      intro a5 ha5
      skip
      refine Fa.el ha5 ?_
      intro a6 ha6
      skip
      refine Ld.rw rn_len E (List.mem_cons_of_mem _ (List.mem_cons_of_mem _ (List.mem_cons_of_mem _ mN))) ha6 hm (by omega) (y:=str x.dir.name) rfl ?_
      skip
      refine Bi.sadd (by rw[ByteArray.size_append];omega) ?_
      skip
      have hrx:=hrk _ hyT hy0
      rw[hyu,show x.nd.path=(m:Int)from hmp]at hrx
      rw[hpn]at hrx
      have tk:(K.take (j+1)).flatMap (belowN T f)=(K.take j).flatMap (belowN T f)++belowN T f x.nd:=by
       rw[List.take_add_one,hy,List.flatMap_append];simp
      have hbl:((K.take (j+1)).flatMap (belowN T f)).length≤(K.flatMap (belowN T f)).length:=by
       conv=>rhs;rw[← List.take_append_drop (j+1) K,List.flatMap_append,List.length_append]
       omega
      rw[tk,List.length_append]at hbl
      rw[ByteArray.append_assoc,← hst]
      refine(ih (i:=m) (n:=x) (L:=L++[T.fl n.nd]++((K.take j).flatMap (belowN T f)).map T.fl) hm hxg (by omega) (by simp only[List.length_append,List.length_map,List.length_singleton];omega) (List.mem_cons_of_mem _ (List.mem_cons_of_mem _ (List.mem_cons_of_mem _ mN))) List.mem_cons_self E).mono ?_
      clear E
      intro r w_ E
      refine Bi.add (by omega) ?_
      refine⟨⟨r,j+1,by simp,by omega,?_⟩,by simp only[];omega⟩
      rw[tk,List.map_append,← List.append_assoc]
      exact(E.bIx 1).tl
     ·rw[show K.take j=K from List.take_of_length_le (by omega)]at E
      rw[show L++(belowN T (f+1) n.nd).map T.fl=L++[T.fl n.nd]++(K.flatMap (belowN T f)).map T.fl by rw[hbe];simp]
      exact E.drop (List.Sublist.cons_cons _ ((List.sublist_cons_self _ _).trans (List.sublist_cons_self _ _)))
   ·refine BdS.fl28 (x:=T.fl n.nd) E ?_
    clear E
    intro t33 w_ E
    refine BdS.nul E u_sl_File28 s_File28 ?_
    clear E
    intro t16 w_ E
    refine⟨by (repeat with_reducible refine StpE.go E ?_);rfl,LdA.rw rn_len E (List.mem_cons_of_mem _ (List.mem_cons_of_mem _ (List.mem_cons_of_mem _ mN))) ha2 hn (by omega) (ds:=n.dir.cs) rfl rfl rfl,by (repeat with_reducible refine StpE.go E ?_);rfl,Ld.rw rn_len E (List.mem_cons_of_mem _ (List.mem_cons_of_mem _ (List.mem_cons_of_mem _ mN))) hb2 hn (by omega) (y:=str n.data) rfl rfl,?_⟩
    refine Ap.el E (i:=0) rfl u_sl_File28 ⟨_,u_sl_File28,λ_ h=>by cases h⟩ e_File28 (by omega) (Src.slice (show SliceAt ov Ty.t40 12 (fcs L) w_ from E.sat _ (List.mem_cons_of_mem _ (List.mem_cons_of_mem _ (List.mem_cons_of_mem _ mO)))) (rw_len fl_len _) (by omega) (fcs_scal28 _)) rfl (by simp;omega) (by simp;omega) ?_
    clear E
    intro t18 w_ E
    (try simp only[List.set_cons_zero,List.set_cons_succ,List.cons_append,List.nil_append,Nat.zero_add,Nat.add_zero]at E)
    refine⟨by (repeat with_reducible refine StpE.go E ?_);rfl,LdA.rw rn_len E (List.mem_cons_of_mem _ (List.mem_cons_of_mem _ (List.mem_cons_of_mem _ mN))) ha2 hn (by omega) (ds:=n.dir.cs) rfl rfl rfl,by (repeat with_reducible refine StpE.go E ?_);rfl,Ld.rw rn_len E (List.mem_cons_of_mem _ (List.mem_cons_of_mem _ (List.mem_cons_of_mem _ mN))) hb2 hn (by omega) (y:=str n.data) rfl rfl,?_⟩
    refine Ap.el E (i:=0) rfl u_sl_File28 ⟨_,u_sl_File28,λ_ h=>by cases h⟩ e_File28 (by omega) (Src.slice (show SliceAt t33 Ty.t40 12 (T.fl n.nd).cs w_ from E.sat _ (List.mem_of_getElem? (i:=1) rfl)) rfl (by omega) rfl) rfl (by rw[rw_len fl_len];omega) (by rw[rw_len fl_len];omega) ?_
    clear E
    intro t34 w_ E
    (try simp only[List.set_cons_zero,List.set_cons_succ,List.cons_append,List.nil_append,Nat.zero_add,Nat.add_zero]at E)
    replace E:=(E.bIx 1).tl
    rw[show fcs L++(T.fl n.nd).cs=fcs (L++[T.fl n.nd]) by simp[fcs]]at E
    repeat with_reducible refine StpE.go E ?_
    refine(rChildren_ok h hi hN (List.mem_cons_of_mem _ (List.mem_cons_of_mem _ mN)) E).mono ?_
    clear E
    intro cv w_ E
    rw[hK]at E
    (replace E:=((E.bIx 0).bIx 1))
    refine⟨λl1 w1=>∃(v:Value) (j:Nat),l1=[v,i64 j]∧j≤K.length∧Hs w0 F w1 (slA v Ty.t40 12 (fcs (L++[T.fl n.nd]++((K.take j).flatMap (belowN T f)).map T.fl))::slA cv Ty.int64 1 (K.map λk=>i64 k.path)::pt q (oc [gV,nV,hV,i64 c] Ty.t19)::l),λl1 _=>match l1 with|[_,.int _ i]=>K.length-i.toNat|_=>0,⟨t34,0,rfl,Nat.zero_le _,by simpa using E⟩,?_⟩
    clear E
    rintro v t12 u2 w_ ⟨v',j,h1,hj,E⟩
    cases h1
    have hcr:=RdS.by1 cv E
    rw[List.length_map]at hcr
    refine hcr.len ?_
    refine Bi.lss ?_ ?_<;>intro hlt2<;>(repeat with_reducible first|refine Stp.go ?_|refine StpE.go E ?_|(refine StpW.go E ?_;clear E;intro w_ E))
    ·have hy:K[j]? =some (K[j]'(by omega)):=List.getElem?_eq_getElem (by omega)
     generalize K[j]'(by omega)=y at hy
     obtain⟨hyT,hy0,hyu⟩:=hKm y (List.mem_of_getElem? hy)
     obtain⟨x,hxn,hxg,rfl⟩:=h.mem.1 hyT
     obtain⟨m,hm⟩:=List.getElem?_of_mem hxn
     have hmp:=h.idx m x hm hxg
     have hml:=(List.getElem?_eq_some_iff.1 hm).1
     have hst:=topS_step hi hyT hy0
     have hpar:T.parent x.nd=n.nd:=by
      unfold Tr.parent;rw[hyu,hpn,h.at_ hi hn hg];rfl
     rw[hpar]at hst
     have hxs:=hps _ hyT
     have hts:(T.topS x.nd).size≤100000:=by unfold Tr.topS;split;exact Nat.zero_le _;exact hxs
     have hsz2:=congrArg ByteArray.size hst
     simp only[ByteArray.size_append]at hsz2
     have hss:ByteArray.size sep=1:=rfl
     have hnm:x.nd.name=x.dir.name:=rfl
     rw[hnm]at hsz2 hst
     refine hcr.ix (by omega) (by omega) (by omega) ?_
     intro a ha
     skip
     refine ha.ld E (x:=i64 (m:Int)) (by rw[Int.toNat_natCast,Nat.mul_one,List.getElem?_drop,Nat.add_zero,List.getElem?_map,hy,← hmp];rfl) ?_
     skip
     refine Bi.sadd (t:=sep) (by omega) ?_
     repeat with_reducible first|refine Stp.go ?_|refine StpE.go E ?_
     refine hcr.ix (by omega) (by omega) (by omega) ?_
     intro a ha
     skip
     refine ha.ld E (x:=i64 (m:Int)) (by rw[Int.toNat_natCast,Nat.mul_one,List.getElem?_drop,Nat.add_zero,List.getElem?_map,hy,← hmp];rfl) ?_
     skip
     refine IxA.rw rn_len E (List.mem_cons_of_mem _ (List.mem_cons_of_mem _ (List.mem_cons_of_mem _ mN))) (by omega) (by omega) (by omega) ?_
     rw[Int.toNat_natCast]
     intro a ha
     skip
     refine Fa.el ha ?_
     intro a5 ha5
     skip
     refine Fa.el ha5 ?_
     intro a6 ha6
     skip
     refine Ld.rw rn_len E (List.mem_cons_of_mem _ (List.mem_cons_of_mem _ (List.mem_cons_of_mem _ mN))) ha6 hm (by omega) (y:=str x.dir.name) rfl ?_
     skip
     refine Bi.sadd (by rw[ByteArray.size_append];omega) ?_
     skip
     have hrx:=hrk _ hyT hy0
     rw[hyu,show x.nd.path=(m:Int)from hmp]at hrx
     rw[hpn]at hrx
     have tk:(K.take (j+1)).flatMap (belowN T f)=(K.take j).flatMap (belowN T f)++belowN T f x.nd:=by
      rw[List.take_add_one,hy,List.flatMap_append];simp
     have hbl:((K.take (j+1)).flatMap (belowN T f)).length≤(K.flatMap (belowN T f)).length:=by
      conv=>rhs;rw[← List.take_append_drop (j+1) K,List.flatMap_append,List.length_append]
      omega
     rw[tk,List.length_append]at hbl
     rw[ByteArray.append_assoc,← hst]
     refine(ih (i:=m) (n:=x) (L:=L++[T.fl n.nd]++((K.take j).flatMap (belowN T f)).map T.fl) hm hxg (by omega) (by simp only[List.length_append,List.length_map,List.length_singleton];omega) (List.mem_cons_of_mem _ (List.mem_cons_of_mem _ (List.mem_cons_of_mem _ mN))) List.mem_cons_self E).mono ?_
     clear E
     intro r w_ E
     refine Bi.add (by omega) ?_
     refine⟨⟨r,j+1,by simp,by omega,?_⟩,by simp only[];omega⟩
     rw[tk,List.map_append,← List.append_assoc]
     exact(E.bIx 1).tl
    ·rw[show K.take j=K from List.take_of_length_le (by omega)]at E
     rw[show L++(belowN T (f+1) n.nd).map T.fl=L++[T.fl n.nd]++(K.flatMap (belowN T f)).map T.fl by rw[hbe];simp]
     exact E.drop (List.Sublist.cons_cons _ ((List.sublist_cons_self _ _).trans (List.sublist_cons_self _ _)))
  clear hJ3
  skip
  by_cases h0:n.nd.path=0
  ·have e:T.topS n.nd=emp:=by unfold Tr.topS;rw[if_pos h0]
   rw[e]
   refine Bi.seql (λ_=>?_) λhc=>absurd rfl hc
   repeat with_reducible refine Stp.go ?_
   have e2:T.pathS n.nd=sep:=pathS_root h0
   rw[e2]at fin3
   exact fin3 _ E
  ·have e:T.topS n.nd=T.pathS n.nd:=by unfold Tr.topS;rw[if_neg h0]
   rw[e]
   refine Bi.seql (λhc=>absurd hc (pathS_nil n.nd)) λ_=>?_
   repeat with_reducible refine Stp.go ?_
   exact fin3 _ E
theorem rFiles_ok[iG:Scal gV][iN:Scal nV][iH:Scal hV](h:Rl R T)(hi:Inv T)(hN:R.ns.length≤1000000000)(hps:∀n∈T.ns,(T.pathS n).size≤100000)(mN:NP nV R∈l)(E:Hs w0 F w l):
  Ca PP Fn.r28_Files #[rV gV nV hV c] w λr w'=>Hs w0 F w' (slA r Ty.t40 12 (fcs T.files)::l):=by
 obtain⟨rk,hrk,hrb⟩:=hi.rankB
 obtain⟨r0,hr0,hr1⟩:=hi.root
 have hg0:T.get 0=some r0:=hi.get.2 ⟨hr0,hr1⟩
 obtain⟨i0,n0,e0,hn0,hng0,rfl⟩:=h.sm hi hg0
 have hi0:i0=0:=by omega
 subst hi0
 refine S.r28_Files.calls ?_
 unfold S.r28_Files
 refine StpA.go E ?_
 clear E
 intro q w_ hq E
 repeat with_reducible refine StpE.go E ?_
 have et:T.topS n0.nd=emp:=by unfold Tr.topS;rw[if_pos hr1]
 have ef:T.files=(belowN T 2000 n0.nd).map T.fl:=by unfold Tr.files;rw[hg0]
 have hbl:=below_len hi 2000 hr0
 have E1:=Hs.nilSl E Ty.t40 12
 have hb:=rBelow_ok (c:=c) (gV:=gV) (hV:=hV) h hi hN hps hrk hrb 2000 (i:=0) (L:=[]) hn0 hng0 (by omega) (by simp only[List.length_nil];omega) (List.mem_cons_of_mem _ (List.mem_cons_of_mem _ mN)) List.mem_cons_self E1
 rw[et]at hb
 refine Ca.mono hb ?_
 clear E E1
 intro r w_ E
 rw[ef]
 rw[List.nil_append]at E
 exact E.drop (List.Sublist.cons_cons _ ((List.sublist_cons_self _ _).trans (List.sublist_cons_self _ _)))
set_option maxRecDepth 100000
set_option linter.unusedVariables false
set_option linter.unusedSimpArgs false
variable {w0 w:World} {F:Nat→Prop} {l:List As}
variable {gV:Value}
theorem GIn.at_{gv:List (BA×Value)}{gs:Gs}(hg:GIn w0 F l gV gv gs){i:Nat}{nm:BA}{us:List BA}(hi:gs[i]? =some (nm,us)):∃uv,RdS w0 F l 1 us.length uv (us.map str)∧∃rest,(gv.flatMap gcell).drop (i*2)=str nm::uv::rest:=by
 have hlt:=(List.getElem?_eq_some_iff.1 hi).1
 have hy:gv[i]? =some (gv[i]'(by rw[hg.len];omega)):=List.getElem?_eq_getElem (by rw[hg.len];omega)
 obtain⟨nm2,uv,hgi⟩:∃nm uv,gv[i]'(by rw[hg.len];omega)=(nm,uv):=⟨_,_,rfl⟩
 obtain⟨h1,h2⟩:=hg.one i _ _ hy hi
 rw[hgi]at h1 h2
 have h1:nm2=nm:=h1
 subst h1
 refine⟨uv,h2,(gv.drop (i+1)).flatMap gcell,?_⟩
 rw[flat_drop,List.drop_eq_getElem_cons (by rw[hg.len];omega),hgi]
 rfl
def nin(A:List BA)(x:BA):Bool:=A.all λy=>decide (x≠y)
theorem nin_iff{A:List BA}{x:BA}:nin A x=true↔x∉A:=by
 unfold nin
 rw[List.all_eq_true]
 constructor
 ·intro h hx
  exact of_decide_eq_true (h x hx) rfl
 ·intro h y hy
  exact decide_eq_true λe=>h (by rw[e];exact hy)
theorem snoc_nodup(A:List BA)(x:BA):decide ((A++[x]).Nodup)=(decide A.Nodup && nin A x):=by
 have:(A++[x]).Nodup↔A.Nodup∧x∉A:=by
  rw[List.nodup_append]
  constructor
  ·rintro⟨h1,-,h3⟩
   exact⟨h1,λhx=>h3 x hx x List.mem_cons_self rfl⟩
  ·rintro⟨h1,h2⟩
   refine⟨h1,by simp,λa ha b hb hab=>?_⟩
   rw[List.mem_singleton.1 hb]at hab
   rw[hab]at ha
   exact h2 ha
 rw[← nin_iff]at this
 by_cases h1:A.Nodup
 ·cases h2:nin A x with
  |true=>rw[decide_eq_true h1,decide_eq_true (this.2 ⟨h1,h2⟩)];rfl
  |false=>rw[decide_eq_true h1,decide_eq_false λhc=>by rw[h2]at this;cases(this.1 hc).2];rfl
 ·rw[decide_eq_false h1,decide_eq_false λhc=>h1 (this.1 hc).1];rfl
theorem snoc_nin(A:List BA)(x y:BA):nin (A++[y]) x=(nin A x && decide (x≠y)):=by
 unfold nin
 rw[List.all_append];simp
theorem rCheck_ok {v : Value} {gv : List (BA × Value)} {gs : Gs} {names : List BA} (hg : GIn w0 F l v gv gs) (hgl : gs.length≤100000) (hul : ∀ g∈gs,g.2.length≤100000) (hsz : ∀ s∈gwords gs,s.size≤9223372036854775807) (E : Hs w0 F w l) :
  Ca PP Fn.f80 #[v,.bool (names.all goodName)] w fun r w'=>r = i64 (checkG gs names)∧Hs w0 F w' l:=by
 refine S.f80.calls ?_
 unfold S.f80
 refine hg.rd.len ?_
 refine Bi.gtr ?_ ?_ <;> intro c1 <;> (repeat with_reducible refine Stp.go ?_)
 ·exact ⟨by unfold checkG glimit; rw [decide_eq_true (show 16 < gs.length by omega),Bool.true_or,if_pos rfl],E⟩
 refine ⟨fun l1 w1=>∃ i : Nat,l1 = [i64 i]∧i≤gs.length∧(∀ (j : Nat) g,j < i→gs[j]? = some g→g.2.length≤16)∧Hs w0 F w1 l,fun l1 _=>match l1 with | [.int _ i]=>gs.length - i.toNat | _=>0,⟨0,rfl,Nat.zero_le _,(fun j g hj=>by omega),E⟩,?_⟩
 clear E
 rintro t5 u w_ ⟨i,h1,hi,hsm,E⟩
 cases h1
 refine hg.rd.len ?_
 refine Bi.lss ?_ ?_ <;> intro c2 <;> (repeat with_reducible refine Stp.go ?_)
 ·have hx : gs[i]? = some (gs[i]'(by omega)):=List.getElem?_eq_getElem (by omega)
  obtain ⟨nm,us,hgi⟩ : ∃ nm us,gs[i]'(by omega) = (nm,us):=⟨_,_,rfl⟩
  rw [hgi] at hx
  obtain ⟨uv,hu,rest,hrow⟩:=hg.at_ hx
  refine hg.rd.ix (by omega) (by omega) (by omega) ?_
  rw [Int.toNat_natCast,hrow]
  intro a ha
  skip
  refine ha.fa (by simp) ?_
  intro a2 ha2
  skip
  refine ha2.ld E rfl ?_
  refine hu.len ?_
  refine Bi.gtr ?_ ?_ <;> intro c3 <;> (repeat with_reducible refine Stp.go ?_)
  ·refine ⟨?_,E⟩
   have : glimit gs = true:=by
    unfold glimit
    have : (gs.any fun g=>decide (16 < g.2.length)) = true:=List.any_eq_true.2 ⟨_,List.mem_of_getElem? hx,decide_eq_true (show 16 < us.length by omega)⟩
    rw [this,Bool.or_true]
   unfold checkG; rw [if_pos this]
  ·refine Bi.add (by omega) ?_
   refine ⟨⟨i + 1,by simp,by omega,fun j g hj hgj=>?_,E⟩,by simp only []; omega⟩
   by_cases hji : j = i
   ·subst hji
    rw [hx] at hgj
    cases hgj
    show us.length≤16
    omega
   ·exact hsm j g (by omega) hgj
 have hlim : ¬ glimit gs = true:=by
  unfold glimit
  rw [decide_eq_false (show ¬ 16 < gs.length by omega),Bool.false_or,List.any_eq_true]
  rintro ⟨g,hgm,hgl2⟩
  obtain ⟨j,hj⟩:=List.getElem?_of_mem hgm
  have:=hsm j g (by have:=(List.getElem?_eq_some_iff.1 hj).1; omega) hj
  have:=of_decide_eq_true hgl2
  omega
 have huk : ∀ g∈gs,g.2.length≤16:=fun g hgm=>by
  obtain ⟨j,hj⟩:=List.getElem?_of_mem hgm
  exact hsm j g (by have:=(List.getElem?_eq_some_iff.1 hj).1; omega) hj
 clear hsm
 refine ⟨fun l1 w1=>∃ i : Nat,l1 = [.bool (names.all goodName && (gwords (gs.take i)).all goodName),i64 i]∧i≤gs.length∧Hs w0 F w1 l,fun l1 _=>match l1 with | [_,.int _ i]=>gs.length - i.toNat | _=>0,⟨0,by simp [gwords],Nat.zero_le _,E⟩,?_⟩
 clear E
 rintro t1 t6 u w_ ⟨i2,h1,hi2,E⟩
 cases h1
 refine hg.rd.len ?_
 refine Bi.lss ?_ ?_ <;> intro c3 <;> (repeat with_reducible refine Stp.go ?_)
 ·have hx : gs[i2]? = some (gs[i2]'(by omega)):=List.getElem?_eq_getElem (by omega)
  obtain ⟨nm,us,hgi⟩ : ∃ nm us,gs[i2]'(by omega) = (nm,us):=⟨_,_,rfl⟩
  rw [hgi] at hx
  obtain ⟨uv,hu,rest,hrow⟩:=hg.at_ hx
  have hul1 : us.length≤16:=huk _ (List.mem_of_getElem? hx)
  have hwd : ∀ s∈nm::us,s.size≤9223372036854775807:=fun s hs=>hsz s (List.mem_flatMap.2 ⟨_,List.mem_of_getElem? hx,hs⟩)
  have tk : gwords (gs.take (i2 + 1)) = gwords (gs.take i2)++nm::us:=by
   unfold gwords
   rw [List.take_add_one,hx,List.flatMap_append]; simp
  generalize hb0 : (names.all goodName && (gwords (gs.take i2)).all goodName) = b0
  (intro J24 hJ24)
  have fin : ∀ b w_,b = (b0 && goodName nm)→Hs w0 F w_ l→J24 [.bool b] w_:=by
   intro b w_ hb E
   repeat with_reducible (apply hJ24; intro u_)
   clear hJ24
   refine ⟨fun l1 w1=>∃ k : Nat,l1 = [.bool (b && (us.take k).all goodName),i64 k]∧k≤us.length∧Hs w0 F w1 l,fun l1 _=>match l1 with | [_,.int _ i]=>us.length - i.toNat | _=>0,⟨0,by simp,Nat.zero_le _,E⟩,?_⟩
   clear E
   rintro t1 t7 u w_ ⟨k,h1,hk,E⟩
   cases h1
   refine hg.rd.ix (by omega) (by omega) (by omega) ?_
   rw [Int.toNat_natCast,hrow]
   intro a ha
   skip
   refine ha.fa (by simp) ?_
   intro a2 ha2
   skip
   refine ha2.ld E rfl ?_
   refine hu.len ?_
   refine Bi.lss ?_ ?_ <;> intro c4 <;> (repeat with_reducible refine Stp.go ?_)
   ·have hxk : us[k]? = some (us[k]'(by omega)):=List.getElem?_eq_getElem (by omega)
    generalize us[k]'(by omega) = s at hxk
    have hss:=hwd s (List.mem_cons_of_mem _ (List.mem_of_getElem? hxk))
    have tk2 : (us.take (k + 1)).all goodName = ((us.take k).all goodName && goodName s):=by
     rw [List.take_add_one,hxk,List.all_append]; simp
    (intro J39 hJ39)
    have fin2 : ∀ b' w_,b' = (b && (us.take (k + 1)).all goodName)→Hs w0 F w_ l→J39 [.bool b'] w_:=by
     intro b' w_ hb' E
     repeat with_reducible (apply hJ39; intro u_)
     refine Bi.add (by omega) ?_
     exact ⟨⟨k + 1,by rw [hb']; simp,by omega,E⟩,by simp only []; omega⟩
    clear hJ39
    cases hbk : (b && (us.take k).all goodName) with
    | false =>
     repeat with_reducible refine Stp.go ?_
     exact fin2 false _ (by rw [tk2,← Bool.and_assoc,hbk]; rfl) E
    | true =>
     repeat with_reducible refine Stp.go ?_
     refine hg.rd.ix (by omega) (by omega) (by omega) ?_
     rw [Int.toNat_natCast,hrow]
     intro a ha
     repeat with_reducible refine Stp.go ?_
     refine ha.fa (by simp) ?_
     intro a2 ha2
     repeat with_reducible refine Stp.go ?_
     refine ha2.ld E rfl ?_
     repeat with_reducible refine Stp.go ?_
     refine hu.ix (by omega) (by omega) (by omega) ?_
     intro a3 ha3
     repeat with_reducible refine Stp.go ?_
     refine ha3.ld E (x:=str s) (by rw [Int.toNat_natCast,Nat.mul_one,List.getElem?_drop,Nat.add_zero,List.getElem?_map,hxk]; rfl) ?_
     repeat with_reducible refine Stp.go ?_
     refine (rValid_ok hss).mono ?_
     rintro r w' ⟨rfl,rfl⟩
     repeat with_reducible refine Stp.go ?_
     exact fin2 _ _ (by rw [tk2,← Bool.and_assoc,hbk,Bool.true_and]) E
   ·rw [show us.take k = us from List.take_of_length_le (by omega)]
    refine Bi.add (by omega) ?_
    refine ⟨⟨i2 + 1,?_,by omega,E⟩,by simp only []; omega⟩
    rw [tk,List.all_append,List.all_cons,hb,← hb0]
    simp [Bool.and_assoc]
  clear hJ24
  cases hbb : b0 with
  | false =>
   repeat with_reducible refine Stp.go ?_
   exact fin false _ (by rw [hbb]; rfl) E
  | true =>
   repeat with_reducible refine Stp.go ?_
   refine hg.rd.ix (by omega) (by omega) (by omega) ?_
   rw [Int.toNat_natCast,hrow]
   intro a ha
   repeat with_reducible refine Stp.go ?_
   refine ha.fa (by simp) ?_
   intro a2 ha2
   repeat with_reducible refine Stp.go ?_
   refine ha2.ld E rfl ?_
   repeat with_reducible refine Stp.go ?_
   refine (rValid_ok (hwd nm List.mem_cons_self)).mono ?_
   rintro r w' ⟨rfl,rfl⟩
   repeat with_reducible refine Stp.go ?_
   exact fin _ _ (by rw [hbb,Bool.true_and]) E
 rw [show gs.take i2 = gs from List.take_of_length_le (by omega)]
 have hany : (names++gwords gs).any (fun s=>!goodName s) = !(names.all goodName && (gwords gs).all goodName):=by
  rw [List.any_append,Bool.not_and,List.not_all_eq_any_not,List.not_all_eq_any_not]
 refine Un.not ?_
 cases hok : (names.all goodName && (gwords gs).all goodName) with
 | false =>
  rw [hok] at hany
  simp only [Bool.not_false] at hany ⊢
  repeat with_reducible refine Stp.go ?_
  exact ⟨by unfold checkG; rw [if_neg hlim,if_pos hany],E⟩
 | true =>
 rw [hok] at hany
 simp only [Bool.not_true] at hany ⊢
 repeat with_reducible refine Stp.go ?_
 refine ⟨fun l1 w1=>∃ i : Nat,l1 = [.bool (decide ((gs.take i).map (·.1)).Nodup && (gs.take i).all fun g=>decide g.2.Nodup),i64 i]∧i≤gs.length∧Hs w0 F w1 l,fun l1 _=>match l1 with | [_,.int _ i]=>gs.length - i.toNat | _=>0,⟨0,by simp,Nat.zero_le _,E⟩,?_⟩
 clear E
 rintro t1 t8 u w_ ⟨i3,h1,hi3,E⟩
 cases h1
 refine hg.rd.len ?_
 refine Bi.lss ?_ ?_ <;> intro c4 <;> (repeat with_reducible refine Stp.go ?_)
 ·have hx : gs[i3]? = some (gs[i3]'(by omega)):=List.getElem?_eq_getElem (by omega)
  obtain ⟨nm,us,hgi⟩ : ∃ nm us,gs[i3]'(by omega) = (nm,us):=⟨_,_,rfl⟩
  rw [hgi] at hx
  obtain ⟨uv,hu,rest,hrow⟩:=hg.at_ hx
  have hul1 : us.length≤16:=huk _ (List.mem_of_getElem? hx)
  have tk1 : (gs.take (i3 + 1)).map (·.1) = (gs.take i3).map (·.1)++[nm]:=by
   rw [List.take_add_one,hx,List.map_append]; rfl
  have tk2 : ((gs.take (i3 + 1)).all fun g=>decide g.2.Nodup) = (((gs.take i3).all fun g=>decide g.2.Nodup) && decide us.Nodup):=by
   rw [List.take_add_one,hx,List.all_append]; simp
  generalize hb0 : (decide ((gs.take i3).map (·.1)).Nodup && (gs.take i3).all fun g=>decide g.2.Nodup) = b0
  refine ⟨fun l1 w1=>∃ k : Nat,l1 = [.bool (b0 && nin ((gs.take k).map (·.1)) nm),i64 k]∧k≤i3∧Hs w0 F w1 l,fun l1 _=>match l1 with | [_,.int _ i]=>i3 - i.toNat | _=>0,⟨0,by simp [nin],Nat.zero_le _,E⟩,?_⟩
  clear E
  rintro t1 t9 u w_ ⟨k,h1,hk,E⟩
  cases h1
  refine Bi.lss ?_ ?_ <;> intro c5 <;> (repeat with_reducible refine Stp.go ?_)
  ·have hxk : gs[k]? = some (gs[k]'(by omega)):=List.getElem?_eq_getElem (by omega)
   obtain ⟨nm2,us2,hgk⟩ : ∃ nm us,gs[k]'(by omega) = (nm,us):=⟨_,_,rfl⟩
   rw [hgk] at hxk
   obtain ⟨uv2,hu2,rest2,hrow2⟩:=hg.at_ hxk
   have tk3 : (gs.take (k + 1)).map (·.1) = (gs.take k).map (·.1)++[nm2]:=by
    rw [List.take_add_one,hxk,List.map_append]; rfl
   (intro J120 hJ120)
   have fin2 : ∀ b' w_,b' = (b0 && nin ((gs.take (k + 1)).map (·.1)) nm)→Hs w0 F w_ l→J120 [.bool b'] w_:=by
    intro b' w_ hb' E
    repeat with_reducible (apply hJ120; intro u_)
    refine Bi.add (by omega) ?_
    exact ⟨⟨k + 1,by rw [hb']; simp,by omega,E⟩,by simp only []; omega⟩
   clear hJ120
   cases hbk : (b0 && nin ((gs.take k).map (·.1)) nm) with
   | false =>
    repeat with_reducible first|refine Stp.go ?_|(refine StpW.go E ?_; clear E; intro w_ E)
    exact fin2 false _ (by rw [tk3,snoc_nin,← Bool.and_assoc,hbk]; rfl) E
   | true =>
    repeat with_reducible first|refine Stp.go ?_|(refine StpW.go E ?_; clear E; intro w_ E)
    refine hg.rd.ix (by omega) (by omega) (by omega) ?_
    rw [Int.toNat_natCast,hrow]
    intro a ha
    repeat with_reducible refine Stp.go ?_
    refine ha.fa (by simp) ?_
    intro a2 ha2
    repeat with_reducible refine Stp.go ?_
    refine ha2.ld E rfl ?_
    repeat with_reducible refine Stp.go ?_
    refine hg.rd.ix (by omega) (by omega) (by omega) ?_
    rw [Int.toNat_natCast,hrow2]
    intro a ha
    repeat with_reducible refine Stp.go ?_
    refine ha.fa (by simp) ?_
    intro a2 ha2
    repeat with_reducible refine Stp.go ?_
    refine ha2.ld E rfl ?_
    repeat with_reducible refine Stp.go ?_
    refine Bi.sneq ?_ ?_ <;> intro c6 <;> (repeat with_reducible refine Stp.go ?_)
    ·exact fin2 true _ (by rw [tk3,snoc_nin,← Bool.and_assoc,hbk,decide_eq_true c6]; rfl) E
    ·exact fin2 false _ (by rw [tk3,snoc_nin,← Bool.and_assoc,hbk,decide_eq_false fun hc=>hc c6]; rfl) E
  rw [show k = i3 by omega]
  generalize hb1 : (b0 && nin ((gs.take i3).map (·.1)) nm) = b1
  refine hg.rd.ix (by omega) (by omega) (by omega) ?_
  rw [Int.toNat_natCast,hrow]
  intro a ha
  skip
  refine ha.fa (by simp) ?_
  intro a2 ha2
  skip
  refine ha2.ld E rfl ?_
  refine ⟨fun l1 w1=>∃ j : Nat,l1 = [.bool (b1 && decide (us.take j).Nodup),i64 j]∧j≤us.length∧Hs w0 F w1 l,fun l1 _=>match l1 with | [_,.int _ i]=>us.length - i.toNat | _=>0,⟨0,by simp,Nat.zero_le _,E⟩,?_⟩
  clear E
  rintro t1 t11 u w_ ⟨j,h1,hj,E⟩
  cases h1
  refine hu.len ?_
  refine Bi.lss ?_ ?_ <;> intro c6 <;> (repeat with_reducible refine Stp.go ?_)
  ·have hxj : us[j]? = some (us[j]'(by omega)):=List.getElem?_eq_getElem (by omega)
   generalize us[j]'(by omega) = s at hxj
   have tk4 : us.take (j + 1) = us.take j++[s]:=by rw [List.take_add_one,hxj]; rfl
   generalize hb2 : (b1 && decide (us.take j).Nodup) = b2
   refine ⟨fun l1 w1=>∃ m : Nat,l1 = [.bool (b2 && nin (us.take m) s),i64 m]∧m≤j∧Hs w0 F w1 l,fun l1 _=>match l1 with | [_,.int _ i]=>j - i.toNat | _=>0,⟨0,by simp [nin],Nat.zero_le _,E⟩,?_⟩
   clear E
   rintro t1 t12 u w_ ⟨m,h1,hm,E⟩
   cases h1
   refine Bi.lss ?_ ?_ <;> intro c7 <;> (repeat with_reducible refine Stp.go ?_)
   ·have hxm : us[m]? = some (us[m]'(by omega)):=List.getElem?_eq_getElem (by omega)
    generalize us[m]'(by omega) = s2 at hxm
    have tk5 : us.take (m + 1) = us.take m++[s2]:=by rw [List.take_add_one,hxm]; rfl
    (intro J185 hJ185)
    have fin3 : ∀ b' w_,b' = (b2 && nin (us.take (m + 1)) s)→Hs w0 F w_ l→J185 [.bool b'] w_:=by
     intro b' w_ hb' E
     repeat with_reducible (apply hJ185; intro u_)
     refine Bi.add (by omega) ?_
     exact ⟨⟨m + 1,by rw [hb']; simp,by omega,E⟩,by simp only []; omega⟩
    clear hJ185
    cases hbk : (b2 && nin (us.take m) s) with
    | false =>
     repeat with_reducible first|refine Stp.go ?_|(refine StpW.go E ?_; clear E; intro w_ E)
     exact fin3 false _ (by rw [tk5,snoc_nin,← Bool.and_assoc,hbk]; rfl) E
    | true =>
     repeat with_reducible first|refine Stp.go ?_|(refine StpW.go E ?_; clear E; intro w_ E)
     refine hu.ix (by omega) (by omega) (by omega) ?_
     intro a3 ha3
     repeat with_reducible refine Stp.go ?_
     refine ha3.ld E (x:=str s) (by rw [Int.toNat_natCast,Nat.mul_one,List.getElem?_drop,Nat.add_zero,List.getElem?_map,hxj]; rfl) ?_
     repeat with_reducible refine Stp.go ?_
     refine hu.ix (by omega) (by omega) (by omega) ?_
     intro a3 ha3
     repeat with_reducible refine Stp.go ?_
     refine ha3.ld E (x:=str s2) (by rw [Int.toNat_natCast,Nat.mul_one,List.getElem?_drop,Nat.add_zero,List.getElem?_map,hxm]; rfl) ?_
     repeat with_reducible refine Stp.go ?_
     refine Bi.sneq ?_ ?_ <;> intro c8 <;> (repeat with_reducible refine Stp.go ?_)
     ·exact fin3 true _ (by rw [tk5,snoc_nin,← Bool.and_assoc,hbk,decide_eq_true c8]; rfl) E
     ·exact fin3 false _ (by rw [tk5,snoc_nin,← Bool.and_assoc,hbk,decide_eq_false fun hc=>hc c8]; rfl) E
   ·rw [show m = j by omega]
    refine Bi.add (by omega) ?_
    refine ⟨⟨j + 1,?_,by omega,E⟩,by simp only []; omega⟩
    rw [tk4,snoc_nodup,← Bool.and_assoc,hb2]
    simp
  ·rw [show us.take j = us from List.take_of_length_le (by omega)]
   refine Bi.add (by omega) ?_
   refine ⟨⟨i3 + 1,?_,by omega,E⟩,by simp only []; omega⟩
   rw [tk1,tk2,snoc_nodup,← hb1,← hb0]
   have : ∀ A B C D : Bool,(A && B && C && D) = (A && C && (B && D)):=by decide
   rw [this]
   simp
 rw [show gs.take i3 = gs from List.take_of_length_le (by omega)]
 have hfin : ((gs.any fun g=>twice g.2) || twice (gs.map (·.1))) = !(decide (gs.map (·.1)).Nodup && gs.all fun g=>decide g.2.Nodup):=by
  unfold twice
  rw [Bool.not_and,List.not_all_eq_any_not,Bool.or_comm]
  congr 1
  ·by_cases hz : (gs.map (·.1)).Nodup <;> simp [hz]
  ·congr 1
   funext g
   by_cases hz : g.2.Nodup <;> simp [hz]
 have hnn : ¬ (names++gwords gs).any (fun s=>!goodName s) = true:=by rw [hany]; simp
 refine Un.not ?_
 cases hok2 : (decide (gs.map (·.1)).Nodup && gs.all fun g=>decide g.2.Nodup) with
 | false =>
  rw [hok2] at hfin
  simp only [Bool.not_false] at hfin ⊢
  repeat with_reducible refine Stp.go ?_
  exact ⟨by unfold checkG; rw [if_neg hlim,if_neg hnn,if_pos hfin],E⟩
 | true =>
  rw [hok2] at hfin
  simp only [Bool.not_true] at hfin ⊢
  repeat with_reducible refine Stp.go ?_
  exact ⟨by unfold checkG; rw [if_neg hlim,if_neg hnn,if_neg (by rw [hfin]; simp)],E⟩
set_option maxRecDepth 100000
set_option linter.unusedVariables false
set_option linter.unusedSimpArgs false
variable {w0 w:World} {F:Nat→Prop} {l:List As}
theorem z_rNode:zeroK PP Ty.r28_Node=some rn0V:=by kernel_rfl

def RrQ(w0:World)(F:Nat→Prop)(l:List As)(gs:Gs)(fs:List Fl)(clock next:Int)(r:Value)(w':World):Prop:=
 ∃(g n h:Value) (c e:Int),r=.tuple #[rV g n h c,i64 e]∧Scal g∧Scal n∧Scal h∧(∃k,Hs w0 F w' (k++l))∧
  ((checkG gs []≠0∧e=checkG gs [])∨(checkG gs []=0∧1024<fs.length∧e=3)∨(checkG gs []=0∧fs.length≤1024∧((0≤clock∧Good fs next)∧e=0∨¬(0≤clock∧Good fs next)∧e=2)))

def ChkTo(fs:List Fl)(next:Int)(i:Nat):Prop:=∀(j:Nat) f,j<i→fs[j]? =some f→rightF f next∧(j≠0→goodName f.dir.name=true∧∃k,isUp fs j k)∧∀(k:Nat) g,k<j→fs[k]? =some g→g.dir.path≠f.dir.path∧g.path≠f.path
theorem chk_all{fs:List Fl}{next:Int}(h0:∃f,fs[0]? =some f∧f.path=sep∧f.dir.name=emp∧f.dir.path=0∧isD f.dir.mode=true)(h:ChkTo fs next fs.length):RefOk fs next:=
 ⟨h0,λi f hx=>(h i f (List.getElem?_eq_some_iff.1 hx).1 hx).1,λi f hi hx=>((h i f (List.getElem?_eq_some_iff.1 hx).1 hx).2.1 hi).1,λi f hi hx=>((h i f (List.getElem?_eq_some_iff.1 hx).1 hx).2.1 hi).2,
  λi k f g hki hx hy=>(h i f (List.getElem?_eq_some_iff.1 hx).1 hx).2.2 k g hki hy⟩
theorem rRestore_ok{gV fV:Value}{gv:List (BA×Value)}{gs:Gs}{fs:List Fl}{clock next:Int}(hg:GIn w0 F l gV gv gs)(hgl:gs.length≤100000)(hul:∀g∈gs,g.2.length≤100000)(hsz:∀s∈gwords gs,s.size≤9223372036854775807)
  (hf:RdS w0 F l 12 fs.length fV (fcs fs))(hfl:fs.length≤1000000)(hsm:fsm fs)(hn4:next≤4096)(E:Hs w0 F w l):
  Ca PP Fn.r28_Restore #[gV,fV,i64 clock,i64 next] w (RrQ w0 F l gs fs clock next):=by
 have iG:Scal gV:=⟨by obtain⟨a,c,h,-⟩:=hg.rd;rw[h];rfl⟩
 refine S.r28_Restore.calls ?_
 unfold S.r28_Restore
 repeat with_reducible (refine StpA.go E ?_;clear E;intro b_ w_ hb_ E)
 (revert b_;intro rb hbrb E)
 have iN:Scal (.slice none 0 0):=⟨rfl⟩
 have hck:=rCheck_ok (names:=[]) (hg.weaken (l':=pt rb (oc [.slice none 0 0,.slice none 0 0,.slice none 0 0,i64 0] Ty.t19)::l) λ_ E=>E.tl) hgl hul hsz E
 refine Ca.mono hck ?_
 clear E hck
 rintro r w_ ⟨rfl,E⟩
 refine Bi.neq ?_ ?_<;>intro hc<;>(repeat with_reducible first|refine Stp.go ?_|refine StpE.go E ?_|(refine StpW.go E ?_;clear E;intro w_ E))
 ·exact⟨_,_,_,_,_,rfl,iN,iN,iN,⟨[_],E⟩,.inl ⟨hc,rfl⟩⟩
 refine hf.len ?_
 refine Bi.gtr ?_ ?_<;>intro hl1<;>(repeat with_reducible first|refine Stp.go ?_|refine StpE.go E ?_|(refine StpW.go E ?_;clear E;intro w_ E))
 ·exact⟨_,_,_,_,_,rfl,iN,iN,iN,⟨[_],E⟩,.inr (.inl ⟨hc,by omega,rfl⟩)⟩
 have hl1:fs.length≤1024:=by omega
 have bad:∀w_,¬(0≤clock∧Good fs next)→(∃k,Hs w0 F w_ (k++l))→RrQ w0 F l gs fs clock next (.tuple #[rV (.slice none 0 0) (.slice none 0 0) (.slice none 0 0) 0,i64 2]) w_:=
  λw_ hb E=>⟨_,_,_,_,_,rfl,iN,iN,iN,E,.inr (.inr ⟨hc,hl1,.inr ⟨hb,rfl⟩⟩)⟩
 (intro J14 hJ14)
 have fin14:∀b w_,(b=true→¬(0≤clock∧Good fs next))→(b=false→0≤clock∧1≤next∧∃f,fs[0]? =some f∧f.path=sep∧f.dir.name=emp∧f.dir.path=0∧isD f.dir.mode=true)→Hs w0 F w_ (pt rb (oc [.slice none 0 0,.slice none 0 0,.slice none 0 0,i64 0] Ty.t19)::l)→J14 [.bool b] w_:=by
  intro b w_ hb1 hb2 E
  repeat with_reducible (apply hJ14;intro u_)
  clear hJ14
  cases b with
  |true=>(repeat with_reducible first|refine Stp.go ?_|refine StpE.go E ?_|(refine StpW.go E ?_;clear E;intro w_ E));exact bad _ (hb1 rfl) ⟨[_],E⟩
  |false=>
   obtain⟨hc0,hn1,hfirst⟩:=hb2 rfl
   repeat with_reducible refine Stp.go ?_
   have hf1:=hf.cons (pt rb (oc [.slice none 0 0,.slice none 0 0,.slice none 0 0,i64 0] Ty.t19))
   have badR:∀w_,¬RefOk fs next→Hs w0 F w_ (pt rb (oc [.slice none 0 0,.slice none 0 0,.slice none 0 0,i64 0] Ty.t19)::l)→RrQ w0 F l gs fs clock next (.tuple #[rV (.slice none 0 0) (.slice none 0 0) (.slice none 0 0) 0,i64 2]) w_:=λw_ h E=>bad w_ (λh2=>h (good_ref h2.2).1) ⟨[_],E⟩
   refine⟨λl1 w1=>∃i:Nat,l1=[i64 i]∧i≤fs.length∧ChkTo fs next i∧Hs w0 F w1 (pt rb (oc [.slice none 0 0,.slice none 0 0,.slice none 0 0,i64 0] Ty.t19)::l),λl1 _=>match l1 with|[.int _ i]=>fs.length-i.toNat|_=>0,⟨0,rfl,Nat.zero_le _,(λj f hj=>absurd hj (Nat.not_lt_zero _)),E⟩,?_⟩
   clear E
   rintro t11 u w_ ⟨i,h1,hi,hchk,E⟩
   cases h1
   refine hf.len ?_
   refine Bi.lss ?_ ?_<;>intro hlt<;>(repeat with_reducible refine Stp.go ?_)
   ·have hx:fs[i]? =some (fs[i]'(by omega)):=List.getElem?_eq_getElem (by omega)
    obtain⟨f,hfe⟩:∃f,fs[i]'(by omega)=f:=⟨_,rfl⟩
    rw[hfe]at hx
    clear hfe
    (intro J28 hJ28)
    have fin28:∀b w_,(b=true→¬RefOk fs next)→(b=false→rightF f next∧(i≠0→goodName f.dir.name=true∧∃k,isUp fs i k))→Hs w0 F w_ (pt rb (oc [.slice none 0 0,.slice none 0 0,.slice none 0 0,i64 0] Ty.t19)::l)→J28 [.bool b] w_:=by
     intro b w_ hb1 hb2 E
     repeat with_reducible (apply hJ28;intro u_)
     clear hJ28
     cases b with
     |true=>(repeat with_reducible first|refine Stp.go ?_|refine StpE.go E ?_|(refine StpW.go E ?_;clear E;intro w_ E));exact badR _ (hb1 rfl) E
     |false=>
      obtain⟨hr,hnu⟩:=hb2 rfl
      repeat with_reducible refine Stp.go ?_
      refine⟨λl1 w1=>∃k:Nat,l1=[i64 k]∧k≤i∧(∀(j:Nat) g,j<k→fs[j]? =some g→g.dir.path≠f.dir.path∧g.path≠f.path)∧Hs w0 F w1 (pt rb (oc [.slice none 0 0,.slice none 0 0,.slice none 0 0,i64 0] Ty.t19)::l),λl1 _=>match l1 with|[.int _ k]=>i-k.toNat|_=>0,⟨0,rfl,Nat.zero_le _,(λj f hj=>absurd hj (Nat.not_lt_zero _)),E⟩,?_⟩
      clear E
      rintro t12 u2 w_ ⟨k,h1,hk,hdf,E⟩
      cases h1
      refine Bi.lss ?_ ?_<;>intro hki<;>(repeat with_reducible refine Stp.go ?_)
      ·have hy:fs[k]? =some (fs[k]'(by omega)):=List.getElem?_eq_getElem (by omega)
       obtain⟨g,hge⟩:∃g,fs[k]'(by omega)=g:=⟨_,rfl⟩
       rw[hge]at hy
       clear hge
       (intro J41 hJ41)
       have fin41:∀b w_,(b=true→¬RefOk fs next)→(b=false→g.dir.path≠f.dir.path∧g.path≠f.path)→Hs w0 F w_ (pt rb (oc [.slice none 0 0,.slice none 0 0,.slice none 0 0,i64 0] Ty.t19)::l)→J41 [.bool b] w_:=by
        intro b w_ hb1 hb2 E
        repeat with_reducible (apply hJ41;intro u_)
        clear hJ41
        cases b with
        |true=>(repeat with_reducible first|refine Stp.go ?_|refine StpE.go E ?_|(refine StpW.go E ?_;clear E;intro w_ E));exact badR _ (hb1 rfl) E
        |false=>
         repeat with_reducible refine Stp.go ?_
         refine Bi.add (by omega) ?_
         refine⟨⟨k+1,by simp,by omega,λj g' hj hg'=>?_,E⟩,by simp only[];omega⟩
         by_cases hjk:j=k
         ·subst hjk
          rw[hy]at hg'
          cases hg'
          exact hb2 rfl
         ·exact hdf j g' (by omega) hg'
       clear hJ41
       repeat with_reducible (refine StpW.go E ?_;clear E;intro w_ E)
       refine RdS.file hf1 hy ?_
       intro a ha
       skip
       refine ha.fa (by simp) ?_
       intro a2 ha2
       skip
       refine ha2.fa (by simp) ?_
       intro a3 ha3
       skip
       refine ha3.fa (by simp) ?_
       intro a4 ha4
       skip
       refine ha4.ld E (x:=i64 g.dir.path) rfl ?_
       skip
       refine RdS.file hf1 hx ?_
       intro a ha
       skip
       refine ha.fa (by simp) ?_
       intro a2 ha2
       skip
       refine ha2.fa (by simp) ?_
       intro a3 ha3
       skip
       refine ha3.fa (by simp) ?_
       intro a4 ha4
       skip
       refine ha4.ld E (x:=i64 f.dir.path) rfl ?_
       skip
       refine Bi.eql ?_ ?_<;>intro k1<;>(repeat with_reducible refine Stp.go ?_)
       ·exact fin41 true _ (λ_ h=>(h.diff i k f g (by omega) hx hy).1 k1) (λh=>by cases h) E
       refine RdS.file hf1 hy ?_
       intro a ha
       repeat with_reducible refine Stp.go ?_
       refine ha.fa (by simp) ?_
       intro a2 ha2
       repeat with_reducible refine Stp.go ?_
       refine ha2.ld E (x:=str g.path) rfl ?_
       repeat with_reducible refine Stp.go ?_
       refine RdS.file hf1 hx ?_
       intro a ha
       repeat with_reducible refine Stp.go ?_
       refine ha.fa (by simp) ?_
       intro a2 ha2
       repeat with_reducible refine Stp.go ?_
       refine ha2.ld E (x:=str f.path) rfl ?_
       repeat with_reducible refine Stp.go ?_
       refine Bi.seql ?_ ?_<;>intro k2<;>(repeat with_reducible refine Stp.go ?_)
       ·exact fin41 true _ (λ_ h=>(h.diff i k f g (by omega) hx hy).2 k2) (λh=>by cases h) E
       ·exact fin41 false _ (λh=>by cases h) (λ_=>⟨k1,k2⟩) E
      ·refine Bi.add (by omega) ?_
       refine⟨⟨i+1,by simp,by omega,λj f' hj hf'=>?_,E⟩,by simp only[];omega⟩
       by_cases hji:j=i
       ·subst hji
        rw[hx]at hf'
        cases hf'
        exact⟨hr,hnu,λk' g hk' hg'=>hdf k' g (by omega) hg'⟩
       ·exact hchk j f' (by omega) hf'
    clear hJ28
    skip
    refine RdS.file hf1 hx ?_
    intro a ha
    skip
    refine ha.lda E (m:=12) (ds:=f.cs) rfl rfl (by omega) ?_
    skip
    refine(rRight_ok (hsm f (List.mem_of_getElem? hx)) E).mono ?_
    clear E
    rintro r w_ ⟨⟨b,rfl,hb⟩,E⟩
    cases b with
    |false=>
     repeat with_reducible refine Stp.go ?_
     exact fin28 true _ (λ_ h=>by have:=hb.2 (h.right i f hx);cases this) (λh=>by cases h) E
    |true=>
     have hr:=hb.1 rfl
     repeat with_reducible refine Stp.go ?_
     refine Bi.gtr ?_ ?_<;>intro hi0<;>(repeat with_reducible refine Stp.go ?_)
     rotate_left
     ·exact fin28 false _ (λh=>by cases h) (λ_=>⟨hr,λh=>by omega⟩) E
     refine RdS.file hf1 hx ?_
     intro a ha
     repeat with_reducible refine Stp.go ?_
     refine ha.fa (by simp) ?_
     intro a2 ha2
     repeat with_reducible refine Stp.go ?_
     refine ha2.fa (by simp) ?_
     intro a3 ha3
     repeat with_reducible refine Stp.go ?_
     refine ha3.ld E (x:=str f.dir.name) rfl ?_
     repeat with_reducible refine Stp.go ?_
     refine(rValid_ok (by have:=(hsm f (List.mem_of_getElem? hx)).2.1;omega)).mono ?_
     rintro r w' ⟨rfl,rfl⟩
     cases hgn:goodName f.dir.name with
     |false=>
      repeat with_reducible refine Stp.go ?_
      exact fin28 true _ (λ_ h=>by have:=h.name i f (by omega) hx;rw[hgn]at this;cases this) (λh=>by cases h) E
     |true=>
      repeat with_reducible refine Stp.go ?_
      refine(rUp_ok hx hf1 hfl hsm E).mono ?_
      clear E
      rintro r w_ ⟨⟨rfl,hno⟩|⟨k,rfl,hup⟩,E⟩
      ·(repeat first|(with_reducible first|refine Stp.go ?_)|((with_reducible refine Bi.dec true ?_ ?_);focus exact rfl))
       exact fin28 true _ (λ_ h=>by obtain⟨k,hk⟩:=h.up i f (by omega) hx;exact hno k hk) (λh=>by cases h) E
      ·(repeat first|(with_reducible first|refine Stp.go ?_)|((with_reducible refine Bi.dec false ?_ ?_);focus exact rfl))
       exact fin28 false _ (λh=>by cases h) (λ_=>⟨hr,λ_=>⟨hgn,k,hup⟩⟩) E
   ·obtain rfl:i=fs.length:=by omega
    have hok:=chk_all hfirst hchk
    refine Bi.gtr ?_ ?_<;>intro h4<;>(repeat with_reducible first|refine Stp.go ?_|refine StpE.go E ?_|(refine StpW.go E ?_;clear E;intro w_ E)|(refine StpA.go E ?_;clear E;intro b_ w_ hb_ E))
    ·omega
    (revert b_;intro tb hbtb E)
    have E1:=Hs.nilSl E Ty.r28_Node 13
    clear E
    have E:=E1
    clear E1
    (replace E:=((E.bIx 0).bIx 1))
    refine⟨λl1 w1=>∃(p:Nat) (nV:Value) (R:RT),l1=[i64 p]∧(p:Int)≤next∧R.ns.length=p∧Scal nV∧(∀(q:Nat) x,R.ns[q]? =some x→nodeR fs q x fs.length)∧Hs w0 F w1 (pt tb (oc [gV,nV,.slice none 0 0,i64 clock] Ty.t19)::NP nV R::pt rb (oc [.slice none 0 0,.slice none 0 0,.slice none 0 0,i64 0] Ty.t19)::l),
     λl1 _=>match l1 with|[.int _ p]=>next.toNat-p.toNat|_=>0,⟨0,.slice none 0 0,⟨[]⟩,rfl,by omega,rfl,iN,(λq x h=>by cases h),E⟩,?_⟩
    clear E
    rintro t14 u w_ ⟨p,nV,R,h1,hp,hR,iV,hnd,E⟩
    cases h1
    refine Bi.lss ?_ ?_<;>intro hpn<;>(repeat with_reducible first|refine Stp.go ?_|refine StpE.go E ?_|(refine StpA.go E ?_;clear E;intro b_ w_ hb_ E))
    ·(revert b_;intro xb hbxb E)
     refine StA.all (vs:=(⟨d0,emp,0,true⟩:RN).cs) E rfl rfl rfl ?_
     clear E
     intro w_ E
     refine⟨λl1 w1=>∃(i:Nat) (x:RN),l1=[i64 i]∧i≤fs.length∧nodeR fs p x i∧Hs w0 F w1 (pt xb (oc x.cs Ty.r28_Node)::pt tb (oc [gV,nV,.slice none 0 0,i64 clock] Ty.t19)::NP nV R::pt rb (oc [.slice none 0 0,.slice none 0 0,.slice none 0 0,i64 0] Ty.t19)::l),λl1 _=>match l1 with|[.int _ i]=>fs.length-i.toNat|_=>0,
      ⟨0,⟨d0,emp,0,true⟩,rfl,Nat.zero_le _,.inl ⟨rfl,λj f hj=>absurd hj (Nat.not_lt_zero _)⟩,E⟩,?_⟩
     clear E
     rintro t16 u2 w_ ⟨i,x,h1,hi,hx,E⟩
     cases h1
     refine hf.len ?_
     refine Bi.lss ?_ ?_<;>intro hlt<;>(repeat with_reducible first|refine Stp.go ?_|refine StpE.go E ?_)
     ·have hfx:fs[i]? =some (fs[i]'(by omega)):=List.getElem?_eq_getElem (by omega)
      obtain⟨f,hfe⟩:∃f,fs[i]'(by omega)=f:=⟨_,rfl⟩
      rw[hfe]at hfx
      clear hfe
      have hf2:=hf.app [pt xb (oc x.cs Ty.r28_Node),pt tb (oc [gV,nV,.slice none 0 0,i64 clock] Ty.t19),NP nV R,pt rb (oc [.slice none 0 0,.slice none 0 0,.slice none 0 0,i64 0] Ty.t19)]
      (intro J201 hJ201)
      have fin201:∀(x':RN) w_,nodeR fs p x' (i+1)→Hs w0 F w_ (pt xb (oc x'.cs Ty.r28_Node)::pt tb (oc [gV,nV,.slice none 0 0,i64 clock] Ty.t19)::NP nV R::pt rb (oc [.slice none 0 0,.slice none 0 0,.slice none 0 0,i64 0] Ty.t19)::l)→J201 [] w_:=by
       intro x' w_ hx' E
       repeat with_reducible (apply hJ201;intro u_)
       refine Bi.add (by omega) ?_
       exact⟨⟨i+1,x',by simp,by omega,hx',E⟩,by simp only[];omega⟩
      clear hJ201
      skip
      refine RdS.file hf2 hfx ?_
      intro a ha
      skip
      refine ha.fa (by simp) ?_
      intro a2 ha2
      skip
      refine ha2.fa (by simp) ?_
      intro a3 ha3
      skip
      refine ha3.fa (by simp) ?_
      intro a4 ha4
      skip
      refine ha4.ld E (x:=i64 f.dir.path) rfl ?_
      skip
      refine Bi.eql ?_ ?_<;>intro hfp<;>(repeat with_reducible first|refine Stp.go ?_|(refine StpW.go E ?_;clear E;intro w_ E))
      rotate_left
      ·refine fin201 x _ ?_ E
       rcases hx with⟨h1,h2⟩|⟨j,g,h1,h2⟩
       ·refine .inl ⟨h1,λj g hj hg=>?_⟩
        by_cases hji:j=i
        ·subst hji;rw[hfx]at hg;cases hg;exact hfp
        ·exact h2 j g (by omega) hg
       ·exact .inr ⟨j,g,by omega,h2⟩
      refine RdS.file hf2 hfx ?_
      intro a ha
      skip
      refine ha.fa (by simp) ?_
      intro a2 ha2
      skip
      refine ha2.lda E (m:=10) (ds:=f.dir.cs) rfl rfl (by omega) ?_
      skip
      refine RdS.file hf2 hfx ?_
      intro a ha
      skip
      refine ha.fa (by simp) ?_
      intro a2 ha2
      skip
      refine ha2.ld E (x:=str f.data) rfl ?_
      repeat with_reducible refine StpE.go E ?_
      refine StA.all (vs:=(⟨f.dir,f.data,0,false⟩:RN).cs) E rfl rfl rfl ?_
      clear E
      intro w_ E
      skip
      have hf3:=hf.app [pt xb (oc (⟨f.dir,f.data,0,false⟩:RN).cs Ty.r28_Node),pt tb (oc [gV,nV,.slice none 0 0,i64 clock] Ty.t19),NP nV R,pt rb (oc [.slice none 0 0,.slice none 0 0,.slice none 0 0,i64 0] Ty.t19)]
      refine Bi.gtr ?_ ?_<;>intro hi0<;>(repeat with_reducible refine Stp.go ?_)
      ·refine(rUp_ok hfx hf3 hfl hsm E).mono ?_
       clear E
       rintro r w_ ⟨⟨rfl,hno⟩|⟨k,rfl,hup⟩,E⟩
       ·obtain⟨k,hk⟩:=hok.up i f (by omega) hfx
        exact absurd hk (hno k)
       ·obtain⟨e1,f',g,e2,e3,e4⟩:=id hup
        simp only[List.cons_append,List.nil_append]at E
        skip
        refine RdS.file hf3 e3 ?_
        intro a ha
        skip
        refine ha.fa (by simp) ?_
        intro a2 ha2
        skip
        refine ha2.fa (by simp) ?_
        intro a3 ha3
        skip
        refine ha3.fa (by simp) ?_
        intro a4 ha4
        skip
        refine ha4.ld E (x:=i64 g.dir.path) rfl ?_
        repeat with_reducible first|refine Stp.go ?_|(refine StpW.go E ?_;clear E;intro w_ E)
        exact fin201 ⟨f.dir,f.data,g.dir.path,false⟩ _ (.inr ⟨i,f,by omega,hfx,hfp,rfl,rfl,rfl,.inr ⟨by omega,k,g,hup,e3,rfl⟩⟩) E
      ·exact fin201 ⟨f.dir,f.data,0,false⟩ _ (.inr ⟨i,f,by omega,hfx,hfp,rfl,rfl,rfl,.inl ⟨by omega,rfl⟩⟩) E
     ·obtain rfl:i=fs.length:=by omega
      skip
      refine BdS.sl E u_sl_Node s_Node z_rNode (by omega) (by omega) (xs:=x.cs) (by kernel_rfl) rfl ?_
      clear E
      intro v1 w_ E
      refine Ap.el E (i:=3) rfl u_sl_Node ⟨_,u_sl_Node,λ_ h=>by cases h⟩ e_Node (by omega) (Src.slice (show SliceAt v1 Ty.r28_Node 13 x.cs w_ from E.sat _ (List.mem_of_getElem? (i:=0) rfl)) rfl (by omega) rfl) rfl (by rw[rw_len rn_len];omega) (by rw[rw_len rn_len];omega) ?_
      clear E
      intro nV2 w_ E
      (try simp only[List.set_cons_zero,List.set_cons_succ,List.cons_append,List.nil_append,Nat.zero_add,Nat.add_zero]at E)
      have i2:Scal nV2:=⟨Hs.slScal E (T:=Ty.r28_Node) (sz:=13) (xs:=List.flatMap RN.cs R.ns++x.cs) (by simp)⟩
      repeat with_reducible first|refine Stp.go ?_|(refine StpW.go E ?_;clear E;intro w_ E)
      refine Bi.add (by omega) ?_
      refine⟨⟨p+1,nV2,⟨R.ns++[x]⟩,by simp,by omega,by simp[hR],i2,λq y hy=>?_,?_⟩,by simp only[];omega⟩
      ·rcases Nat.lt_or_ge q R.ns.length with hq|hq
       ·rw[show(⟨R.ns++[x]⟩:RT).ns=R.ns++[x]from rfl,List.getElem?_append_left hq]at hy
        exact hnd q y hy
       ·rw[show(⟨R.ns++[x]⟩:RT).ns=R.ns++[x]from rfl,List.getElem?_append_right hq]at hy
        have hq2:q-R.ns.length=0:=by
         have:=(List.getElem?_eq_some_iff.1 hy).1
         simp at this;omega
        rw[hq2]at hy
        cases hy
        have hqp:q=p:=by omega
        rw[hqp];exact hx
      ·have e:(R.ns++[x]).flatMap RN.cs=R.ns.flatMap RN.cs++x.cs:=by simp
       show Hs w0 F _ (pt tb _::slA nV2 Ty.r28_Node 13 ((R.ns++[x]).flatMap RN.cs)::_)
       rw[e]
       exact E.tl.tl
    ·have hpe:next=p:=by omega
     obtain⟨hi,hrl,g1,g2⟩:=ref_tree hok hl1 hc0 (R:=R) (next:=next) (by omega) hnd
     obtain⟨e1,e2⟩:=ref_end hok hi g1 g2
     have hfl2:=files_len hi
     have mN:NP nV R∈(pt tb (oc [gV,nV,.slice none 0 0,i64 clock] Ty.t19)::NP nV R::pt rb (oc [.slice none 0 0,.slice none 0 0,.slice none 0 0,i64 0] Ty.t19)::l):=by simp
     refine(rFiles_ok (c:=clock) (gV:=gV) (hV:=.slice none 0 0) hrl hi (by omega) (λn hn=>path_size hi hn) mN E).mono ?_
     clear E mN
     intro cv w_ E
     refine LnL.rw fl_len E List.mem_cons_self (by omega) ?_
     skip
     refine hf.len ?_
     skip
     refine Bi.neq ?_ ?_<;>intro hln<;>(repeat with_reducible first|refine Stp.go ?_|refine StpE.go E ?_|(refine StpW.go E ?_;clear E;intro w_ E))
     ·refine bad _ (λh=>hln ?_) ⟨[_,_,_,_],E⟩
      rw[e2 h.2]
     refine⟨λl1 w1=>∃i:Nat,l1=[i64 i]∧i≤fs.length∧(∀j,j<i→((trOf R clock next).files[j]?).map Fl.path=(fs[j]?).map Fl.path)∧Hs w0 F w1 (slA cv Ty.t40 12 (fcs (trOf R clock next).files)::pt tb (oc [gV,nV,.slice none 0 0,i64 clock] Ty.t19)::NP nV R::pt rb (oc [.slice none 0 0,.slice none 0 0,.slice none 0 0,i64 0] Ty.t19)::l),
      λl1 _=>match l1 with|[.int _ i]=>fs.length-i.toNat|_=>0,⟨0,rfl,Nat.zero_le _,(λj hj=>absurd hj (Nat.not_lt_zero _)),E⟩,?_⟩
     clear E
     rintro t18 u2 w_ ⟨i,h1,hi',hsame,E⟩
     cases h1
     refine LnL.rw fl_len E List.mem_cons_self (by omega) ?_
     refine Bi.lss ?_ ?_<;>intro hlt<;>(repeat with_reducible first|refine Stp.go ?_|refine StpE.go E ?_|(refine StpW.go E ?_;clear E;intro w_ E))
     ·have hx:fs[i]? =some (fs[i]'(by omega)):=List.getElem?_eq_getElem (by omega)
      obtain⟨f,hfe⟩:∃f,fs[i]'(by omega)=f:=⟨_,rfl⟩
      rw[hfe]at hx
      clear hfe
      have hy:(trOf R clock next).files[i]? =some ((trOf R clock next).files[i]'(by omega)):=List.getElem?_eq_getElem (by omega)
      obtain⟨g,hge⟩:∃g,(trOf R clock next).files[i]'(by omega)=g:=⟨_,rfl⟩
      rw[hge]at hy
      clear hge
      have hcv:=RdS.sl (T:=Ty.t40) (sz:=12) (v:=cv) (xs:=fcs (trOf R clock next).files) List.mem_cons_self (by omega) E
      rw[fcs_len,Nat.mul_div_cancel _ (by omega)]at hcv
      have hf4:=hf.app [slA cv Ty.t40 12 (fcs (trOf R clock next).files),pt tb (oc [gV,nV,.slice none 0 0,i64 clock] Ty.t19),NP nV R,pt rb (oc [.slice none 0 0,.slice none 0 0,.slice none 0 0,i64 0] Ty.t19)]
      refine RdS.file hcv hy ?_
      intro a ha
      skip
      refine ha.fa (by simp) ?_
      intro a2 ha2
      skip
      refine ha2.ld E (x:=str g.path) rfl ?_
      skip
      refine RdS.file hf4 hx ?_
      intro a ha
      skip
      refine ha.fa (by simp) ?_
      intro a2 ha2
      skip
      refine ha2.ld E (x:=str f.path) rfl ?_
      skip
      refine Bi.sneq ?_ ?_<;>intro hp2<;>(repeat with_reducible first|refine Stp.go ?_|refine StpE.go E ?_|(refine StpW.go E ?_;clear E;intro w_ E))
      ·refine bad _ (λh=>hp2 ?_) ⟨[_,_,_,_],E⟩
       have e3:=e2 h.2
       rw[e3,hx]at hy
       cases hy
       rfl
      ·refine Bi.add (by omega) ?_
       refine⟨⟨i+1,by simp,by omega,λj hj=>?_,E⟩,by simp only[];omega⟩
       by_cases hji:j=i
       ·rw[hji,hx,hy,Option.map_some,Option.map_some,hp2]
       ·exact hsame j (by omega)
     ·have hie:i=fs.length:=by omega
      have hpe2:(trOf R clock next).files.map Fl.path=fs.map Fl.path:=by
       refine List.ext_getElem? λj=>?_
       rw[List.getElem?_map,List.getElem?_map]
       by_cases hj:j<i
       ·exact hsame j hj
       ·rw[List.getElem?_eq_none (by omega),List.getElem?_eq_none (by omega)]
      refine⟨gV,nV,.slice none 0 0,clock,0,rfl,iG,iV,iN,⟨[_,_,_,_],E⟩,.inr (.inr ⟨hc,hl1,.inl ⟨⟨hc0,_,hi,e1 hpe2,rfl⟩,rfl⟩⟩)⟩
 clear hJ14
 skip
 have no:∀w_,(RefOk fs next→0≤clock→1≤next→False)→Hs w0 F w_ (pt rb (oc [.slice none 0 0,.slice none 0 0,.slice none 0 0,i64 0] Ty.t19)::l)→J14 [.bool true] w_:=λw_ h E=>fin14 true w_ (λ_ hb=>by
  obtain⟨r1,r2,-⟩:=good_ref hb.2
  exact h r1 hb.1 r2) (λh=>by cases h) E
 refine Bi.lss ?_ ?_<;>intro k1<;>(repeat with_reducible refine Stp.go ?_)
 ·exact no _ (λ_ _ _=>by omega) E
 refine Bi.lss ?_ ?_<;>intro k2<;>(repeat with_reducible refine Stp.go ?_)
 ·exact no _ (λ_ _ _=>by omega) E
 refine hf.len ?_
 repeat with_reducible refine Stp.go ?_
 refine Bi.eql ?_ ?_<;>intro k3<;>(repeat with_reducible refine Stp.go ?_)
 ·exact no _ (λh _ _=>by obtain⟨f,h1,-⟩:=h.first;have:=(List.getElem?_eq_some_iff.1 h1).1;omega) E
 have hx:fs[0]? =some (fs[0]'(by omega)):=List.getElem?_eq_getElem (by omega)
 obtain⟨f,hfe⟩:∃f,fs[0]'(by omega)=f:=⟨_,rfl⟩
 rw[hfe]at hx
 clear hfe
 have first:RefOk fs next→f.path=sep∧f.dir.name=emp∧f.dir.path=0∧isD f.dir.mode=true:=by
  intro h
  obtain⟨g,h1,h2⟩:=h.first
  rw[hx]at h1
  cases h1
  exact h2
 have hf1:=hf.cons (pt rb (oc [.slice none 0 0,.slice none 0 0,.slice none 0 0,i64 0] Ty.t19))
 refine RdS.file (i:=0) hf1 hx ?_
 intro a ha
 repeat with_reducible refine Stp.go ?_
 refine ha.fa (by simp) ?_
 intro a2 ha2
 repeat with_reducible refine Stp.go ?_
 refine ha2.ld E (x:=str f.path) rfl ?_
 repeat with_reducible refine Stp.go ?_
 refine Bi.sneq ?_ ?_<;>intro k4<;>(repeat with_reducible refine Stp.go ?_)
 ·exact no _ (λh _ _=>k4 (first h).1) E
 refine RdS.file (i:=0) hf1 hx ?_
 intro a ha
 repeat with_reducible refine Stp.go ?_
 refine ha.fa (by simp) ?_
 intro a2 ha2
 repeat with_reducible refine Stp.go ?_
 refine ha2.fa (by simp) ?_
 intro a3 ha3
 repeat with_reducible refine Stp.go ?_
 refine ha3.ld E (x:=str f.dir.name) rfl ?_
 repeat with_reducible refine Stp.go ?_
 refine Bi.sneq ?_ ?_<;>intro k5<;>(repeat with_reducible refine Stp.go ?_)
 ·exact no _ (λh _ _=>k5 (first h).2.1) E
 refine RdS.file (i:=0) hf1 hx ?_
 intro a ha
 repeat with_reducible refine Stp.go ?_
 refine ha.fa (by simp) ?_
 intro a2 ha2
 repeat with_reducible refine Stp.go ?_
 refine ha2.fa (by simp) ?_
 intro a3 ha3
 repeat with_reducible refine Stp.go ?_
 refine ha3.fa (by simp) ?_
 intro a4 ha4
 repeat with_reducible refine Stp.go ?_
 refine ha4.ld E (x:=i64 f.dir.path) rfl ?_
 repeat with_reducible refine Stp.go ?_
 refine Bi.neq ?_ ?_<;>intro k6<;>(repeat with_reducible refine Stp.go ?_)
 ·exact no _ (λh _ _=>k6 (first h).2.2.1) E
 refine RdS.file (i:=0) hf1 hx ?_
 intro a ha
 repeat with_reducible refine Stp.go ?_
 refine ha.fa (by simp) ?_
 intro a2 ha2
 repeat with_reducible refine Stp.go ?_
 refine ha2.fa (by simp) ?_
 intro a3 ha3
 repeat with_reducible refine Stp.go ?_
 refine ha3.ld E (x:=i64 f.dir.mode) rfl ?_
 repeat with_reducible refine Stp.go ?_
 refine Bi.eql ?_ ?_<;>intro k7<;>(repeat with_reducible refine Stp.go ?_)
 ·exact no _ (λh _ _=>by have:=(first h).2.2.2;unfold isD at this;rw[k7]at this;cases this) E
 ·exact fin14 false _ (λh=>by cases h) (λ_=>⟨by omega,by omega,f,hx,k4,k5,by omega,by unfold isD;simpa using k7⟩) E
set_option maxRecDepth 100000
set_option linter.unusedVariables false
set_option linter.unusedSimpArgs false
variable {T:Tr}

def Gm(gs:List (BA×List BA))(T:Tr):Prop:=T.gs=gs∧∀n∈T.ns,rngI n.mode
variable {gs:List (BA×List BA)}
theorem Gm.upd(h:Gm gs T){p:Int}{f:Nd→Nd}(hf:∀n,rngI n.mode→rngI (f n).mode):Gm gs (T.upd p f):=by
 refine⟨h.1,λn hn=>?_⟩
 obtain⟨m,hm,rfl⟩:=List.mem_map.1 hn
 split
 ·exact hf m (h.2 m hm)
 ·exact h.2 m hm
theorem Gm.change(h:Gm gs T)(user:BA)(ps:List Int):Gm gs (T.change user ps):=by
 have key:∀(ps:List Int) (T:Tr),Gm gs T→Gm gs (ps.foldl (λT p=>T.upd p (touchN T.clock user)) T):=by
  intro ps
  induction ps with
  |nil=>intro T h;exact h
  |cons p r ih=>intro T h;exact ih _ (h.upd λn hn=>hn)
 exact key ps T.tick h
theorem Gm.drop(h:Gm gs T)(user:BA)(n:Nd):Gm gs (T.drop user n):=by
 unfold Tr.drop
 refine Gm.change ?_ user _
 exact⟨h.1,λm hm=>h.2 m (List.mem_filter.1 hm).1⟩
theorem Gm.of_ns{S:Tr}(h:Gm gs T)(h1:S.gs=T.gs)(h2:S.ns=T.ns):Gm gs S:=⟨by rw[h1,h.1],by rw[h2];exact h.2⟩
theorem and_rng(a b:Int):rngI (andI a b):=wrap_rng _
theorem modeN_rng(perm upm:Int):rngI (Tr.modeN perm upm):=by unfold Tr.modeN;split<;>exact and_rng _ _
theorem Gm.act (h : Gm gs T) {x : Ac} (hx : x.Ok) : Gm gs (T.act x).1:=by
  have hw : Gm gs (T.wstat x.user x.file x.dir).1:=by
    unfold Tr.wstat
    repeat' (first | split|(simp only []; split))
    all_goals first
      | exact h
      | (refine (h.change _ _).upd fun n hn=>?_
         unfold Tr.given
         simp only []
         split
         · exact hn
         · exact hx.nums.2.2.2.2.2.2.2.2.2.2.1)
  have ho : Gm gs (T.openF x.user x.file x.mode).1:=by
    unfold Tr.openF
    repeat' (first | split|(simp only []; split))
    all_goals first
      | exact h
      | exact Gm.of_ns h rfl rfl
      | exact Gm.of_ns ((h.change x.user [x.file]).upd (p:=x.file) (f:=fun n=>{ n with data:=emp }) fun n hn=>hn) rfl rfl
  have hc : Gm gs (T.create x.user x.file x.name x.perm x.mode).1:=by
    unfold Tr.create
    repeat' (first | split|(simp only []; split))
    all_goals first
      | exact h
      | (refine ⟨(h.change x.user [x.file]).1,fun n hn=>?_⟩
         rcases List.mem_append.1 hn with hn | hn
         · exact (h.change x.user [x.file]).2 n hn
         · rw [List.mem_singleton.1 hn]; exact modeN_rng _ _)
  have hwr : Gm gs (T.write x.handle x.offset x.data).1:=by
    unfold Tr.write
    repeat' (first | split|(simp only []; split))
    all_goals first
      | exact h
      | exact (h.change _ _).upd fun n hn=>hn
  have hcl : Gm gs (T.close x.handle).1:=by
    unfold Tr.close
    repeat' (first | split|(simp only []; split))
    all_goals first
      | exact h
      | exact Gm.of_ns h rfl rfl
      | exact Gm.drop (Gm.of_ns h rfl rfl) _ _
  have hrm : Gm gs (T.remove x.user x.file).1:=by
    unfold Tr.remove
    repeat' (first | split|(simp only []; split))
    all_goals first
      | exact h
      | exact h.drop _ _
  unfold Tr.act
  by_cases c0 : x.kind = 0
  · rw [if_pos c0]; exact h
  rw [if_neg c0]
  by_cases c1 : x.kind = 1
  · rw [if_pos c1]; exact h
  rw [if_neg c1]
  by_cases c2 : x.kind = 2
  · rw [if_pos c2]; exact hw
  rw [if_neg c2]
  by_cases c3 : x.kind = 3
  · rw [if_pos c3]; exact ho
  rw [if_neg c3]
  by_cases c4 : x.kind = 4
  · rw [if_pos c4]; exact hc
  rw [if_neg c4]
  by_cases c5 : x.kind = 5
  · rw [if_pos c5]; exact h
  rw [if_neg c5]
  by_cases c6 : x.kind = 6
  · rw [if_pos c6]; exact h
  rw [if_neg c6]
  by_cases c7 : x.kind = 7
  · rw [if_pos c7]; exact hwr
  rw [if_neg c7]
  by_cases c8 : x.kind = 8
  · rw [if_pos c8]; exact hcl
  rw [if_neg c8]
  by_cases c9 : x.kind = 9
  · rw [if_pos c9]; exact hrm
  rw [if_neg c9]
  by_cases c10 : x.kind = 10
  · rw [if_pos c10]; exact h
  rw [if_neg c10]
  by_cases c11 : x.kind = 11
  · rw [if_pos c11]; exact h
  rw [if_neg c11]
  exact h
theorem Gm.acts:∀{xs:List Ac} {T:Tr},Gm gs T→(∀x∈xs,x.Ok)→Gm gs (T.acts xs)
 |[],_,h,_=>h
 |x::r,T,h,hx=>Gm.acts (xs:=r) (h.act (hx x List.mem_cons_self)) λy hy=>hx y (List.mem_cons_of_mem _ hy)
theorem Gm.new(owner:BA):Gm gs (newT owner gs):=by
 refine⟨rfl,λn hn=>?_⟩
 rw[List.mem_singleton.1 hn]
 unfold rngI
 show -9223372036854775808≤(2147484157:Int)∧(2147484157:Int)≤9223372036854775807
 omega
theorem act_dirs(hi:Inv T)(x:Ac):(T.act x).2.dirs.length≤1024:=by
 have hl:(T.list x.handle).1.length≤1024:=by
  unfold Tr.list
  split
  ·exact Nat.zero_le _
  ·split
   ·exact Nat.zero_le _
   ·split
    ·exact Nat.zero_le _
    ·rw[List.length_map];exact kidsS_len hi _
 unfold Tr.act
 by_cases c0:x.kind=0
 ·rw[if_pos c0];exact Nat.zero_le _
 rw[if_neg c0]
 by_cases c1:x.kind=1
 ·rw[if_pos c1];exact Nat.zero_le _
 rw[if_neg c1]
 by_cases c2:x.kind=2
 ·rw[if_pos c2];exact Nat.zero_le _
 rw[if_neg c2]
 by_cases c3:x.kind=3
 ·rw[if_pos c3];exact Nat.zero_le _
 rw[if_neg c3]
 by_cases c4:x.kind=4
 ·rw[if_pos c4];exact Nat.zero_le _
 rw[if_neg c4]
 by_cases c5:x.kind=5
 ·rw[if_pos c5];exact Nat.zero_le _
 rw[if_neg c5]
 by_cases c6:x.kind=6
 ·rw[if_pos c6];exact hl
 rw[if_neg c6]
 by_cases c7:x.kind=7
 ·rw[if_pos c7];exact Nat.zero_le _
 rw[if_neg c7]
 by_cases c8:x.kind=8
 ·rw[if_pos c8];exact Nat.zero_le _
 rw[if_neg c8]
 by_cases c9:x.kind=9
 ·rw[if_pos c9];exact Nat.zero_le _
 rw[if_neg c9]
 by_cases c10:x.kind=10
 ·rw[if_pos c10];exact Nat.zero_le _
 rw[if_neg c10]
 by_cases c11:x.kind=11
 ·rw[if_pos c11];exact Nat.zero_le _
 rw[if_neg c11]
 exact Nat.zero_le _
set_option maxRecDepth 100000
set_option linter.unusedVariables false
set_option linter.unusedSimpArgs false
variable {w0 w:World} {F:Nat→Prop} {l:List As}
theorem RdS.srcS{P:Program}{n sz:Nat}{v:Value}{xs:List Value}(h:RdS w0 F l sz n v xs)(hz:0<sz)(E:Hs w0 F w l)(hs:xs.all scalV=true):Src P sz w v n xs:=by
 obtain⟨a,c,rfl,hc,hl,hx⟩:=h
 refine⟨λ_=>rfl,λw' hw=>?_,hl,hs⟩
 rcases hx with rfl|⟨q,rfl,hq⟩
 ·have:n=0:=by
   rcases Nat.mul_eq_zero.1 hl.symm with h|h
   ·exact h
   ·omega
  subst this
  cases a with
  |none=>rfl
  |some a=>simp[Builtin.firstCells,loadCells,loadCellsFrom]
 ·refine run_firstCells_some w' sz n q n c xs hl λj v hj=>?_
  rcases hq with rfl|⟨b,o,rfl,hq⟩
  ·cases hj
  ·rw[add_mk]
   have:=hq w E j v hj
   unfold World.cell? at this ⊢
   rw[hw];exact this
theorem BdS.zeroS{P:Program}{t e:TypeId}{sz:Nat}{k:Value→World→Prop}(E:Hs w0 F w l)(h1:P.underlying t=some (.slice e))(h2:sizeK P e=some sz)
  (hk:∀v w',Hs w0 F w' (slA v e sz []::l)→k v w'):Ef P (Instr.buildSlice t 0 #[]) w k:=by
 refine⟨.slice (some ⟨w.heap.size,0,none⟩) 0 0,w.alloc (.cells #[] e),?_,hk _ _ (E.add (Upd.alloc w _) ⟨.inr ⟨w.heap.size,0,0,0,[],[],(0,0),rfl,?_,rfl,by simp,by simp,Nat.le_refl _,Free.zero _⟩⟩ λb hb=>?_)⟩
 ·have hr:Array.range 0=#[]:=rfl
  simp[Instr.buildSlice,run_underlying h1,run_sizeK h2,Instr.fill,newRow,run_newObj',hr]
 ·rw[heap_alloc_new];simp[ocf]
 ·have hb:some w.heap.size=some b:=hb
  cases hb;exact Nat.le_refl _
theorem flat_erase{α:Type}{g:α→List Value}{sz:Nat}(h:∀a,(g a).length=sz):∀{L:List α} {i:Nat},i<L.length→(L.flatMap g).take (i*sz)++(L.flatMap g).drop ((i+1)*sz)=(L.eraseIdx i).flatMap g
 |[],i,hi=>by simp at hi
 |x::r,0,hi=>by
  rw[Nat.zero_mul,List.take_zero,List.nil_append,Nat.zero_add,Nat.one_mul,List.flatMap_cons,← h x,List.drop_left]
  rfl
 |x::r,i+1,hi=>by
  have ih:=flat_erase h (L:=r) (i:=i) (by simpa using hi)
  rw[List.flatMap_cons,show(i+1)*sz=(g x).length+i*sz by rw[h,Nat.succ_mul];omega,show(i+1+1)*sz=(g x).length+(i+1)*sz by rw[h,Nat.succ_mul (i+1)];omega,List.take_length_add_append,List.drop_length_add_append,List.append_assoc,ih]
  rfl
theorem fcs_scal(L:List Fl):(fcs L).all scalV=true:=by
 unfold fcs;rw[List.all_flatMap];simp[Fl.cs,scalV]
theorem fl12(x:Fl):x.cs.length=12:=rfl
theorem CloneF_ok{v:Value}{fs:List Fl}(h:RdS w0 F l 12 fs.length v (fcs fs))(hl:fs.length≤100000)(E:Hs w0 F w l):
  Ca PP Fn.f23 #[v] w λr w'=>Hs w0 F w' (slA r Ty.t12 12 (fcs fs)::l):=by
 refine S.f23.calls ?_
 unfold S.f23
 have h':=h
 obtain⟨a,c,rfl,hc,hln,hx⟩:=h'
 cases a with
 |none=>
  have h0:fcs fs=[]:=by
   rcases hx with h1|⟨p,h1,_⟩
   ·exact h1
   ·cases h1
  rw[h0]
  refine Eq.et u_sl_File rfl ?_
  repeat with_reducible refine Stp.go ?_
  exact Hs.nilSl E _ _
 |some a=>
  refine Eq.ef u_sl_File rfl ?_
  repeat with_reducible refine Stp.go ?_
  refine BdS.zeroS E u_sl_File n_File ?_
  clear E
  intro v1 w_ E
  refine Ap.el E (i:=0) rfl u_sl_File ⟨_,u_sl_File,λ_ h=>by cases h⟩ e_File (by omega) (RdS.srcS (h.cons _) (by omega) E (fcs_scal fs)) rfl (by show(0 / 12+fs.length)*144≤_;omega) (by show 0 / 12+fs.length≤_;omega) ?_
  clear E
  intro v2 w_ E
  (try simp only[List.set_cons_zero,List.set_cons_succ,List.cons_append,List.nil_append,Nat.zero_add,Nat.add_zero]at E)
  exact E
theorem DelF_ok{v:Value}{fs:List Fl}{k:Nat}(hk:k<fs.length)(E:Hs w0 F w (slA v Ty.t12 12 (fcs fs)::l)):
  Ca PP Fn.f20 #[v,i64 (k:Int),i64 ((k:Int)+1)] w λr w'=>Hs w0 F w' (slA r Ty.t12 12 (fcs (fs.eraseIdx k))::l):=by
 refine S.f20.calls ?_
 unfold S.f20
 rw[show((k:Int)+1)=((k+1:Nat):Int) by omega]
 refine Del.sl (i:=k) (j:=k+1) (k:=λr w'=>Hs w0 F w' (slA r Ty.t12 12 (fcs (fs.eraseIdx k))::l)) E u_sl_File e_File (by omega) rfl rfl (by omega) (by rw[fcs_len];omega) (fcs_scal fs) ?_
 intro v' w' E
 rw[show fcs fs=fs.flatMap Fl.cs from rfl,flat_erase (g:=Fl.cs) (sz:=12) fl12 hk]at E
 exact E
theorem u64_wrap(n:Int):IntKind.u64.wrap n=n % 18446744073709551616:=by
 unfold IntKind.wrap
 simp only[IntKind.signed,IntKind.bits,Bool.false_and]
 rfl
theorem Cv.u64{kd:IntKind}{a:Int}{k:Value→Prop}(hk:k (.int .u64 (a % 18446744073709551616))):Cv .u64 (.int kd a) k:=⟨_,_,rfl,by rw[u64_wrap];exact hk⟩
theorem Bi.rem{kd:IntKind}{a b:Int}{k:Value→Prop}(hb:b≠0)(hk:k (.int kd (a.tmod b))):Bi .rem (.int kd a) (.int kd b) k:=by
 refine⟨.int kd (a.tmod b),?_,hk⟩
 show(if kd=kd then intOp .rem kd a b else none)=_
 rw[if_pos rfl]
 show(if b=0 then none else some _)=_
 rw[if_neg hb]


structure Spl where
 which:Int
 field:Int
 text:BA
 num:Int
abbrev Spl.cs(y:Spl):List Value:=[i64 y.which,i64 y.field,str y.text,i64 y.num]
abbrev scs(ys:List Spl):List Value:=ys.flatMap Spl.cs
theorem scs_len1(y:Spl):y.cs.length=4:=rfl
theorem RdS.spoil{ys:List Spl}{yV:Value}{i:Nat}{y:Spl}{k:Value→Prop}(hf:RdS w0 F l 4 ys.length yV (scs ys))(hx:ys[i]? =some y)(hk:∀a,RdP w0 F l a (y.cs++scs (ys.drop (i+1)))→k (.pointer (some a))):IxA 4 yV (i64 i) k:=by
 obtain⟨hlt,rfl⟩:=List.getElem?_eq_some_iff.1 hx
 refine hf.ix (by omega) (by omega) (by omega) ?_
 rw[Int.toNat_natCast,rw_drop scs_len1,List.drop_eq_getElem_cons hlt]
 exact hk
theorem big_ok{y:Spl}(E:Hs w0 F w l):CaV PP (.func (.func Fn.f42) #[] #[]) #[.agg y.cs.toArray] w λr w'=>r=.bool (decide (600<y.text.size))∧Hs w0 F w' l:=by
 refine CaV.mk (by kernel_rfl) ?_
 refine S.f42.calls ?_
 unfold S.f42
 change Al Ty.law28_Spoil (Value.agg y.cs.toArray).cells w _
 repeat with_reducible first|refine Stp.go ?_|refine StpE.go E ?_|(refine StpA.go E ?_;clear E;intro b_ w_ hb_ E)
 refine Bi.gtr ?_ ?_<;>intro h
 ·exact⟨by rw[decide_eq_true (by omega)],E.tl⟩
 ·exact⟨by rw[decide_eq_false (by omega)],E.tl⟩
theorem ContainsY_ok{yV:Value}{ys:List Spl}(hn:ys.length≤1000000)(hy:RdS w0 F l 4 ys.length yV (scs ys))(E:Hs w0 F w l):
  Ca PP Fn.f14 #[yV,.func (.func Fn.f42) #[] #[]] w λr w'=>(∃b,r=.bool b∧(b=false→∀y∈ys,y.text.size≤600))∧Hs w0 F w' l:=by
 refine S.f14.calls ?_
 unfold S.f14
 have key:Ca PP Fn.f16 #[yV,.func (.func Fn.f42) #[] #[]] w λr w'=>(∃n:Int,r=i64 n∧(n<0→∀y∈ys,y.text.size≤600))∧Hs w0 F w' l:=by
  refine S.f16.calls ?_
  unfold S.f16
  refine hy.len ?_
  refine⟨λl1 w1=>∃i:Nat,l1=[i64 i]∧i≤ys.length∧(∀y∈ys.take i,y.text.size≤600)∧Hs w0 F w1 l,λl1 _=>match l1 with|[.int _ i]=>ys.length-i.toNat|_=>0,⟨0,rfl,Nat.zero_le _,(λy h=>by simp at h),E⟩,?_⟩
  clear E
  rintro t8 u w_ ⟨i,h1,hi,hp,E⟩
  cases h1
  refine Bi.lss ?_ ?_<;>intro hlt<;>(repeat with_reducible refine Stp.go ?_)
  ·have hx:ys[i]? =some (ys[i]'(by omega)):=List.getElem?_eq_getElem (by omega)
   obtain⟨y,hye⟩:∃y,ys[i]'(by omega)=y:=⟨_,rfl⟩
   rw[hye]at hx
   clear hye
   refine RdS.spoil hy hx ?_
   intro a ha
   skip
   refine ha.lda E (m:=4) (ds:=y.cs) rfl rfl (by omega) ?_
   refine(big_ok E).mono ?_
   clear E
   rintro r w_ ⟨rfl,E⟩
   by_cases hb:600<y.text.size
   ·rw[decide_eq_true hb]
    repeat with_reducible refine Stp.go ?_
    exact⟨⟨_,rfl,λh=>by omega⟩,E⟩
   ·rw[decide_eq_false hb]
    repeat with_reducible refine Stp.go ?_
    refine Bi.add (by omega) ?_
    refine⟨⟨i+1,by simp,by omega,λz hz=>?_,E⟩,by simp only[];omega⟩
    rw[List.take_add_one,hx]at hz
    rcases List.mem_append.1 hz with hz|hz
    ·exact hp z hz
    ·obtain rfl:z=y:=by simpa using hz
     omega
  ·rw[List.take_of_length_le (by omega)]at hp
   exact⟨⟨_,rfl,λ_=>hp⟩,E⟩
 refine key.mono ?_
 clear E key
 rintro r w_ ⟨⟨n,rfl,hn⟩,E⟩
 refine Bi.geq ?_ ?_<;>intro h
 ·exact⟨⟨true,rfl,λh=>by cases h⟩,E⟩
 ·exact⟨⟨false,rfl,λ_=>hn (by omega)⟩,E⟩
theorem fsm_set{fs:List Fl}(h:fsm fs){i:Nat}{x:Fl}(hx:x.path.size≤1000000∧x.dir.name.size≤1000000∧x.dir.owner.size≤1000000∧x.dir.group.size≤1000000∧rngI x.dir.mode):fsm (fs.set i x):=by
 intro f hf
 rcases List.mem_or_eq_of_mem_set hf with hf|rfl
 ·exact h f hf
 ·exact hx
set_option maxHeartbeats 4000000 in
theorem spoilt_ok{fV yV:Value}{fs:List Fl}{ys:List Spl}(hf:RdS w0 F l 12 fs.length fV (fcs fs))(hfl:fs.length≤100000)(hsm:fsm fs)(hy:RdS w0 F l 4 ys.length yV (scs ys))(hyl:ys.length≤1000000)(hyt:∀y∈ys,y.text.size≤600∧rngI y.num)(E:Hs w0 F w l):
  Ca PP Fn.law28_spoilt #[fV,yV] w λr w'=>∃fs',fs'.length≤fs.length∧fsm fs'∧Hs w0 F w' (slA r Ty.t12 12 (fcs fs')::l):=by
 refine S.law28_spoilt.calls ?_
 unfold S.law28_spoilt
 refine(CloneF_ok hf hfl E).mono ?_
 clear E
 intro v w_ E
 refine hy.len ?_
 refine⟨λl1 w1=>∃(i:Nat) (v:Value) (gs:List Fl),l1=[v,i64 i]∧i≤ys.length∧gs.length≤fs.length∧fsm gs∧Hs w0 F w1 (slA v Ty.t12 12 (fcs gs)::l),λl1 _=>match l1 with|[_,.int _ i]=>ys.length-i.toNat|_=>0,⟨0,v,fs,rfl,Nat.zero_le _,Nat.le_refl _,hsm,E⟩,?_⟩
 clear E
 rintro t5 t14 u w_ ⟨i,v,gs,h1,hi,hgl,hgs,E⟩
 cases h1
 refine Bi.lss ?_ ?_<;>intro hlt<;>(repeat with_reducible refine Stp.go ?_)
 rotate_left
 ·exact⟨gs,hgl,hgs,E⟩
 have hx:ys[i]? =some (ys[i]'(by omega)):=List.getElem?_eq_getElem (by omega)
 obtain⟨y,hye⟩:∃y,ys[i]'(by omega)=y:=⟨_,rfl⟩
 rw[hye]at hx
 clear hye
 obtain⟨hyt1,hyn⟩:=hyt y (List.mem_of_getElem? hx)
 (intro J11 hJ11)
 have fin:∀v' gs' w_,gs'.length≤fs.length→fsm gs'→Hs w0 F w_ (slA v' Ty.t12 12 (fcs gs')::l)→J11 [v'] w_:=by
  intro v' gs' w_ h1 h2 E
  repeat with_reducible (apply hJ11;intro u_)
  refine Bi.add (by omega) ?_
  exact⟨⟨i+1,v',gs',by simp,by omega,h1,h2,E⟩,by simp only[];omega⟩
 clear hJ11
 refine RdS.spoil (hy.cons (slA t5 Ty.t12 12 (fcs gs))) hx ?_
 intro a ha
 skip
 refine ha.lda E (m:=4) (ds:=y.cs) rfl rfl (by omega) ?_
 repeat with_reducible first|(refine StpW.go E ?_;clear E;intro w_ E)|(refine StpA.go E ?_;clear E;intro b_ w_ hb_ E)
 (revert b_;intro yb hbyb E)
 (intro J21 hJ21)
 have fin21:∀b w_,(b=false→0≤y.which∧y.which<gs.length)→Hs w0 F w_ (pt yb (oc y.cs Ty.law28_Spoil)::slA t5 Ty.t12 12 (fcs gs)::l)→J21 [.bool b] w_:=by
  intro b w_ hb E
  repeat with_reducible (apply hJ21;intro u_)
  clear hJ21
  cases b with
  |true=>(repeat with_reducible refine Stp.go ?_);exact fin t5 gs _ hgl hgs E.tl
  |false=>
   obtain⟨hw0,hw1⟩:=hb rfl
   obtain⟨k,hk⟩:∃k:Nat,y.which=k:=⟨y.which.toNat,by omega⟩
   have hgx:gs[k]? =some (gs[k]'(by omega)):=List.getElem?_eq_getElem (by omega)
   obtain⟨f,hfe⟩:∃f,gs[k]'(by omega)=f:=⟨_,rfl⟩
   rw[hfe]at hgx
   clear hfe
   have hfm:=hgs f (List.mem_of_getElem? hgx)
   repeat with_reducible first|refine Stp.go ?_|refine StpE.go E ?_
   rw[hk]
   refine IxA.rw fl12 E (by (first|assumption|exact FPt.mem|exact FMp.mem|exact FSl.mem|(repeat(first|assumption|with_reducible exact List.mem_cons_self|refine List.mem_cons_of_mem _ ?_)))) (by omega) (by omega) (by omega) ?_
   rw[Int.toNat_natCast]
   intro p hp
   repeat with_reducible first|refine Stp.go ?_|refine StpE.go E ?_
   have put:∀(x:Fl) (w_:World),(x.path.size≤1000000∧x.dir.name.size≤1000000∧x.dir.owner.size≤1000000∧x.dir.group.size≤1000000∧rngI x.dir.mode)→Hs w0 F w_ (pt yb (oc y.cs Ty.law28_Spoil)::slA t5 Ty.t12 12 ((gs.set k x).flatMap Fl.cs)::l)→J11 [t5] w_:=λx w_ hx E=>fin t5 (gs.set k x) w_ (by simp;omega) (fsm_set hgs hx) E.tl
   refine Bi.eql ?_ ?_<;>intro k0<;>(repeat with_reducible first|refine Stp.go ?_|refine StpE.go E ?_)
   ·refine Fa.el hp ?_
    intro p2 hp2
    skip
    refine St.rw (j:=1) (i:=k) (c:=0) fl12 E rfl hp2 hgx (by omega) rfl (y:={f with path:=y.text}) rfl ?_
    clear E
    intro w_ E
    (try simp only[List.set_cons_zero,List.set_cons_succ,List.cons_append,List.nil_append,Nat.zero_add,Nat.add_zero]at E)
    exact put {f with path:=y.text} _ ⟨by show y.text.size≤1000000;omega,hfm.2⟩ E
   refine Bi.eql ?_ ?_<;>intro k1<;>(repeat with_reducible first|refine Stp.go ?_|refine StpE.go E ?_)
   ·refine Fa.el hp ?_
    intro p2 hp2
    skip
    refine Fa.el hp2 ?_
    intro p3 hp3
    skip
    refine St.rw (j:=1) (i:=k) (c:=7) fl12 E rfl hp3 hgx (by omega) rfl (y:={f with dir:={f.dir with name:=y.text}}) rfl ?_
    clear E
    intro w_ E
    (try simp only[List.set_cons_zero,List.set_cons_succ,List.cons_append,List.nil_append,Nat.zero_add,Nat.add_zero]at E)
    exact put {f with dir:={f.dir with name:=y.text}} _ ⟨hfm.1,by show y.text.size≤1000000;omega,hfm.2.2⟩ E
   refine Bi.eql ?_ ?_<;>intro k2<;>(repeat with_reducible first|refine Stp.go ?_|refine StpE.go E ?_)
   ·refine Fa.el hp ?_
    intro p2 hp2
    skip
    refine Fa.el hp2 ?_
    intro p3 hp3
    skip
    refine St.rw (j:=1) (i:=k) (c:=8) fl12 E rfl hp3 hgx (by omega) rfl (y:={f with dir:={f.dir with owner:=y.text}}) rfl ?_
    clear E
    intro w_ E
    (try simp only[List.set_cons_zero,List.set_cons_succ,List.cons_append,List.nil_append,Nat.zero_add,Nat.add_zero]at E)
    exact put {f with dir:={f.dir with owner:=y.text}} _ ⟨hfm.1,hfm.2.1,by show y.text.size≤1000000;omega,hfm.2.2.2⟩ E
   refine Bi.eql ?_ ?_<;>intro k3<;>(repeat with_reducible first|refine Stp.go ?_|refine StpE.go E ?_)
   ·refine Fa.el hp ?_
    intro p2 hp2
    skip
    refine Fa.el hp2 ?_
    intro p3 hp3
    skip
    refine St.rw (j:=1) (i:=k) (c:=9) fl12 E rfl hp3 hgx (by omega) rfl (y:={f with dir:={f.dir with group:=y.text}}) rfl ?_
    clear E
    intro w_ E
    (try simp only[List.set_cons_zero,List.set_cons_succ,List.cons_append,List.nil_append,Nat.zero_add,Nat.add_zero]at E)
    exact put {f with dir:={f.dir with group:=y.text}} _ ⟨hfm.1,hfm.2.1,hfm.2.2.1,by show y.text.size≤1000000;omega,hfm.2.2.2.2⟩ E
   refine Bi.eql ?_ ?_<;>intro k4<;>(repeat with_reducible first|refine Stp.go ?_|refine StpE.go E ?_)
   ·refine Fa.el hp ?_
    intro p2 hp2
    skip
    refine Fa.el hp2 ?_
    intro p3 hp3
    skip
    refine St.rw (j:=1) (i:=k) (c:=10) fl12 E rfl hp3 hgx (by omega) rfl (y:={f with dir:={f.dir with last:=y.text}}) rfl ?_
    clear E
    intro w_ E
    (try simp only[List.set_cons_zero,List.set_cons_succ,List.cons_append,List.nil_append,Nat.zero_add,Nat.add_zero]at E)
    exact put {f with dir:={f.dir with last:=y.text}} _ hfm E
   refine Bi.eql ?_ ?_<;>intro k5<;>(repeat with_reducible first|refine Stp.go ?_|refine StpE.go E ?_)
   ·refine Fa.el hp ?_
    intro p2 hp2
    skip
    refine St.rw (j:=1) (i:=k) (c:=11) fl12 E rfl hp2 hgx (by omega) rfl (y:={f with data:=y.text}) rfl ?_
    clear E
    intro w_ E
    (try simp only[List.set_cons_zero,List.set_cons_succ,List.cons_append,List.nil_append,Nat.zero_add,Nat.add_zero]at E)
    exact put {f with data:=y.text} _ hfm E
   refine Bi.eql ?_ ?_<;>intro k6<;>(repeat with_reducible first|refine Stp.go ?_|refine StpE.go E ?_)
   ·refine Fa.el hp ?_
    intro p2 hp2
    skip
    refine Fa.el hp2 ?_
    intro p3 hp3
    skip
    refine St.rw (j:=1) (i:=k) (c:=4) fl12 E rfl hp3 hgx (by omega) rfl (y:={f with dir:={f.dir with mode:=y.num}}) rfl ?_
    clear E
    intro w_ E
    (try simp only[List.set_cons_zero,List.set_cons_succ,List.cons_append,List.nil_append,Nat.zero_add,Nat.add_zero]at E)
    exact put {f with dir:={f.dir with mode:=y.num}} _ ⟨hfm.1,hfm.2.1,hfm.2.2.1,hfm.2.2.2.1,hyn⟩ E
   refine Bi.eql ?_ ?_<;>intro k7<;>(repeat with_reducible first|refine Stp.go ?_|refine StpE.go E ?_)
   ·refine Fa.el hp ?_
    intro p2 hp2
    skip
    refine Fa.el hp2 ?_
    intro p3 hp3
    skip
    refine Fa.el hp3 ?_
    intro p4 hp4
    skip
    refine St.rw (j:=1) (i:=k) (c:=1) fl12 E rfl hp4 hgx (by omega) rfl (y:={f with dir:={f.dir with kind:=y.num}}) rfl ?_
    clear E
    intro w_ E
    (try simp only[List.set_cons_zero,List.set_cons_succ,List.cons_append,List.nil_append,Nat.zero_add,Nat.add_zero]at E)
    exact put {f with dir:={f.dir with kind:=y.num}} _ hfm E
   refine Bi.eql ?_ ?_<;>intro k8<;>(repeat with_reducible first|refine Stp.go ?_|refine StpE.go E ?_)
   ·refine Fa.el hp ?_
    intro p2 hp2
    skip
    refine Fa.el hp2 ?_
    intro p3 hp3
    skip
    refine Fa.el hp3 ?_
    intro p4 hp4
    skip
    refine St.rw (j:=1) (i:=k) (c:=2) fl12 E rfl hp4 hgx (by omega) rfl (y:={f with dir:={f.dir with vers:=y.num}}) rfl ?_
    clear E
    intro w_ E
    (try simp only[List.set_cons_zero,List.set_cons_succ,List.cons_append,List.nil_append,Nat.zero_add,Nat.add_zero]at E)
    exact put {f with dir:={f.dir with vers:=y.num}} _ hfm E
   refine Bi.eql ?_ ?_<;>intro k9<;>(repeat with_reducible first|refine Stp.go ?_|refine StpE.go E ?_)
   ·refine Fa.el hp ?_
    intro p2 hp2
    skip
    refine Fa.el hp2 ?_
    intro p3 hp3
    skip
    refine Fa.el hp3 ?_
    intro p4 hp4
    skip
    refine St.rw (j:=1) (i:=k) (c:=3) fl12 E rfl hp4 hgx (by omega) rfl (y:={f with dir:={f.dir with path:=y.num}}) rfl ?_
    clear E
    intro w_ E
    (try simp only[List.set_cons_zero,List.set_cons_succ,List.cons_append,List.nil_append,Nat.zero_add,Nat.add_zero]at E)
    exact put {f with dir:={f.dir with path:=y.num}} _ hfm E
   refine Bi.eql ?_ ?_<;>intro k10<;>(repeat with_reducible first|refine Stp.go ?_|refine StpE.go E ?_)
   ·refine Fa.el hp ?_
    intro p2 hp2
    skip
    refine Fa.el hp2 ?_
    intro p3 hp3
    skip
    refine St.rw (j:=1) (i:=k) (c:=5) fl12 E rfl hp3 hgx (by omega) rfl (y:={f with dir:={f.dir with time:=y.num}}) rfl ?_
    clear E
    intro w_ E
    (try simp only[List.set_cons_zero,List.set_cons_succ,List.cons_append,List.nil_append,Nat.zero_add,Nat.add_zero]at E)
    exact put {f with dir:={f.dir with time:=y.num}} _ hfm E
   refine Bi.eql ?_ ?_<;>intro k11<;>(repeat with_reducible first|refine Stp.go ?_|refine StpE.go E ?_)
   ·refine Fa.el hp ?_
    intro p2 hp2
    skip
    refine Fa.el hp2 ?_
    intro p3 hp3
    skip
    refine St.rw (j:=1) (i:=k) (c:=6) fl12 E rfl hp3 hgx (by omega) rfl (y:={f with dir:={f.dir with len:=y.num}}) rfl ?_
    clear E
    intro w_ E
    (try simp only[List.set_cons_zero,List.set_cons_succ,List.cons_append,List.nil_append,Nat.zero_add,Nat.add_zero]at E)
    exact put {f with dir:={f.dir with len:=y.num}} _ hfm E
   refine Bi.eql ?_ ?_<;>intro k12<;>(repeat with_reducible first|refine Stp.go ?_|refine StpE.go E ?_)
   ·refine Cv.u64 ?_
    refine LnL.rw fl12 E (by (first|assumption|exact FPt.mem|exact FMp.mem|exact FSl.mem|(repeat(first|assumption|with_reducible exact List.mem_cons_self|refine List.mem_cons_of_mem _ ?_)))) (by omega) ?_
    refine Cv.u64 ?_
    rw[Int.emod_eq_of_lt (show(0:Int)≤(gs.length:Int) by omega) (by omega)]
    have hu:=Int.emod_nonneg y.num (show(18446744073709551616:Int)≠0 by omega)
    refine Bi.rem (by omega) ?_
    rw[Int.tmod_eq_emod_of_nonneg hu]
    have hm1:=Int.emod_nonneg (y.num % 18446744073709551616) (show(gs.length:Int)≠0 by omega)
    have hm2:=Int.emod_lt_of_pos (y.num % 18446744073709551616) (show 0<(gs.length:Int) by omega)
    obtain⟨j,hj⟩:∃j:Nat,y.num % 18446744073709551616 % (gs.length:Int)=j:=⟨(y.num % 18446744073709551616 % (gs.length:Int)).toNat,by omega⟩
    rw[hj]at hm1 hm2 ⊢
    refine Cv.i64 (by omega) ?_
    have hgj:gs[j]? =some (gs[j]'(by omega)):=List.getElem?_eq_getElem (by omega)
    obtain⟨g,hge⟩:∃g,gs[j]'(by omega)=g:=⟨_,rfl⟩
    rw[hge]at hgj
    clear hge
    have hgm:=hgs g (List.mem_of_getElem? hgj)
    repeat with_reducible first|refine Stp.go ?_|refine StpE.go E ?_|(refine StpW.go E ?_;clear E;intro w_ E)
    refine IxA.rw fl12 E (by (first|assumption|exact FPt.mem|exact FMp.mem|exact FSl.mem|(repeat(first|assumption|with_reducible exact List.mem_cons_self|refine List.mem_cons_of_mem _ ?_)))) (by omega) (by omega) (by omega) ?_
    rw[Int.toNat_natCast]
    intro a1 h1
    skip
    refine LdA.rw fl12 E (by (first|assumption|exact FPt.mem|exact FMp.mem|exact FSl.mem|(repeat(first|assumption|with_reducible exact List.mem_cons_self|refine List.mem_cons_of_mem _ ?_)))) (show Elp t5 (j*12+0) a1 from h1) hgj (by omega) (ds:=g.cs) rfl rfl ?_
    repeat with_reducible first|refine Stp.go ?_|refine StpE.go E ?_
    rw[hk]
    refine IxA.rw fl12 E (by (first|assumption|exact FPt.mem|exact FMp.mem|exact FSl.mem|(repeat(first|assumption|with_reducible exact List.mem_cons_self|refine List.mem_cons_of_mem _ ?_)))) (by omega) (by omega) (by omega) ?_
    rw[Int.toNat_natCast]
    intro a2 h2
    skip
    refine LdA.rw fl12 E (by (first|assumption|exact FPt.mem|exact FMp.mem|exact FSl.mem|(repeat(first|assumption|with_reducible exact List.mem_cons_self|refine List.mem_cons_of_mem _ ?_)))) (show Elp t5 (k*12+0) a2 from h2) hgx (by omega) (ds:=f.cs) rfl rfl ?_
    skip
    refine IxA.rw fl12 E (by (first|assumption|exact FPt.mem|exact FMp.mem|exact FSl.mem|(repeat(first|assumption|with_reducible exact List.mem_cons_self|refine List.mem_cons_of_mem _ ?_)))) (by omega) (by omega) (by omega) ?_
    rw[Int.toNat_natCast]
    intro a3 h3
    skip
    refine StA.rw (j:=1) (i:=k) (c:=0) fl12 E rfl h3 hgx rfl (by omega) (fl_scal g) (y:=g) rfl ?_
    clear E
    intro w_ E
    (try simp only[List.set_cons_zero,List.set_cons_succ,List.cons_append,List.nil_append,Nat.zero_add,Nat.add_zero]at E)
    skip
    refine IxA.rw fl12 E (by (first|assumption|exact FPt.mem|exact FMp.mem|exact FSl.mem|(repeat(first|assumption|with_reducible exact List.mem_cons_self|refine List.mem_cons_of_mem _ ?_)))) (by omega) (by omega) (by simp;omega) ?_
    rw[Int.toNat_natCast]
    intro a4 h4
    skip
    have hgj2:(gs.set k g)[j]? =some ((gs.set k g)[j]'(by simp;omega)):=List.getElem?_eq_getElem _
    refine StA.rw (j:=1) (i:=j) (c:=0) fl12 E rfl h4 hgj2 rfl (by omega) (fl_scal f) (y:=f) (by rfl) ?_
    clear E
    intro w_ E
    (try simp only[List.set_cons_zero,List.set_cons_succ,List.cons_append,List.nil_append,Nat.zero_add,Nat.add_zero]at E)
    exact fin t5 ((gs.set k g).set j f) _ (by simp;omega) (fsm_set (fsm_set hgs hgm) hfm) E.tl
   refine Bi.eql ?_ ?_<;>intro k13<;>(repeat with_reducible first|refine Stp.go ?_|refine StpE.go E ?_)
   ·rw[hk]
    refine Bi.add (by omega) ?_
    refine(DelF_ok (k:=k) (by omega) E.tl).mono ?_
    clear E
    intro v' w_ E
    refine fin v' (gs.eraseIdx k) _ (by rw[List.length_eraseIdx];split<;>omega) (λx hx=>hgs x (List.mem_of_mem_eraseIdx hx)) E
   ·exact fin t5 gs _ hgl hgs E.tl
 clear hJ21
 repeat with_reducible first|refine Stp.go ?_|refine StpE.go E ?_
 refine Bi.lss ?_ ?_<;>intro k1<;>(repeat with_reducible first|refine Stp.go ?_|refine StpE.go E ?_)
 ·exact fin21 true _ (λh=>by cases h) E
 refine LnL.rw fl12 E (by (first|assumption|exact FPt.mem|exact FMp.mem|exact FSl.mem|(repeat(first|assumption|with_reducible exact List.mem_cons_self|refine List.mem_cons_of_mem _ ?_)))) (by omega) ?_
 repeat with_reducible refine Stp.go ?_
 refine Bi.geq ?_ ?_<;>intro k2<;>(repeat with_reducible refine Stp.go ?_)
 ·exact fin21 true _ (λh=>by cases h) E
 ·exact fin21 false _ (λ_=>⟨by omega,by omega⟩) E
set_option maxRecDepth 100000
set_option linter.unusedVariables false
set_option linter.unusedSimpArgs false
variable {w0 w:World} {F:Nat→Prop} {l:List As}
variable {D:List Row} {X:PT} {S:Tr} {β:Int→Nat}

def TailT (t122 t149 t150 t163 t165 t5 : Value) (w : World) (R : Value→World→Prop) : Prop :=
 Bi .gtr t165 (.int .i64 4096) fun t166135 =>
 Cnd t166135 (
 ∀ J136 : List Value→World→Prop,(∀ t6139,∀ w138 : World,(∀ u137 : Env,
 R t6139 w138)→J136 [t6139] w138) →
 Bi .eql t150 (.int .i64 0) fun t168140 =>
 Gd t168140 false (fun k141=>k141 t149 w) w fun t170142 w143 =>
 Gd t168140 false (fun k144=>Rd PP (eqS .eql Ty.t10 (.tmp 170) (.const (.pointer none)) t170142 (.pointer none)) w143 fun t171147 =>
 k144 t171147 w143) w143 fun t171145 w146 =>
 Pk t168140 (.bool true) t171145 fun t172148 =>
 J136 [t172148] w146) (
 ∀ J149 : List Value→World→Prop,(∀ t6152,∀ w151 : World,(∀ u150 : Env,
 R t6152 w151)→J149 [t6152] w151) →
 Sh.Dr w fun w153 =>
 Bi .eql t150 t163 fun t175154 =>
 Gd t175154 true (fun k155=>k155 t149 w153) w153 fun t177156 w157 =>
 Gd t175154 true (fun k158=>Rd PP (eqS .eql Ty.t10 (.tmp 177) (.const (.pointer none)) t177156 (.pointer none)) w157 fun t178161 =>
 k158 t178161 w157) w157 fun t178159 w160 =>
 Gd t175154 true (fun k162=>k162 t150 w160) w160 fun t179163 w164 =>
 Gd t175154 true (fun k165=>Bi .neq t179163 (.int .i64 0) fun t180168 =>
 k165 t180168 w164) w164 fun t180166 w167 =>
 Gd t175154 true (fun k169=>Beq false t178159 t180166 fun t181172 =>
 k169 t181172 w167) w167 fun t181170 w171 =>
 Pk t175154 t181170 (.bool false) fun t182173 =>
 Gd t182173 true (fun k174=>k174 t149 w171) w171 fun t184175 w176 =>
 Gd t182173 true (fun k177=>Rd PP (eqS .eql Ty.t10 (.tmp 184) (.const (.pointer none)) t184175 (.pointer none)) w176 fun t185180 =>
 k177 t185180 w176) w176 fun t185178 w179 =>
 Gd t182173 true (fun k181=>k181 t185178 w179) w179 fun t186182 w183 =>
 Gd t186182 false (fun k184=>k184 t149 w183) w183 fun t187185 w186 =>
 Gd t186182 false (fun k187=>k187 t122 w186) w186 fun t189188 w189 =>
 Gd t186182 false (fun k190=>Ca PP Fn.f37 #[t187185] w189 fun t188193 w194 =>
 k190 t188193 w194) w189 fun t188191 w192 =>
 Gd t186182 false (fun k195=>Ca PP Fn.f11 #[t188191,t189188] w192 fun t190198 w199 =>
 k195 t190198 w199) w192 fun t190196 w197 =>
 Gd t186182 false (fun k200=>k200 t190196 w197) w197 fun t191201 w202 =>
 Gd t191201 true (fun k203=>k203 t149 w202) w202 fun t192204 w205 =>
 Gd t191201 true (fun k206=>Fa 2 t5 fun t194209 =>
 k206 t194209 w205) w205 fun t194207 w208 =>
 Gd t191201 true (fun k210=>Ld t194207 w208 fun t195213 =>
 k210 t195213 w208) w208 fun t195211 w212 =>
 Gd t191201 true (fun k214=>Ca PP Fn.f41 #[t192204] w212 fun t193217 w218 =>
 k214 t193217 w218) w212 fun t193215 w216 =>
 (Gd t191201 true (fun k219=>Ld t194207 w216 fun t195222 =>
 k219 t195222 w216) w216 fun t195220 w221 =>
 t195220 = t195211) ∧
 Gd t191201 true (fun k223=>Bi .eql t193215 t195211 fun t196226 =>
 k223 t196226 w216) w216 fun t196224 w225 =>
 Gd t186182 false (fun k227=>Pk t191201 t196224 (.bool false) fun t197230 =>
 k227 t197230 w225) w225 fun t197228 w229 =>
 Gd t186182 false (fun k231=>k231 t197228 w229) w229 fun t198232 w233 =>
 Gd t198232 true (fun k234=>k234 t149 w233) w233 fun t199235 w236 =>
 Gd t198232 true (fun k237=>Fa 3 t5 fun t201240 =>
 k237 t201240 w236) w236 fun t201238 w239 =>
 Gd t198232 true (fun k241=>Ld t201238 w239 fun t202244 =>
 k241 t202244 w239) w239 fun t202242 w243 =>
 Gd t198232 true (fun k245=>Ca PP Fn.f39 #[t199235] w243 fun t200248 w249 =>
 k245 t200248 w249) w243 fun t200246 w247 =>
 (Gd t198232 true (fun k250=>Ld t201238 w247 fun t202253 =>
 k250 t202253 w247) w247 fun t202251 w252 =>
 t202251 = t202242) ∧
 Gd t198232 true (fun k254=>Bi .eql t200246 t202242 fun t203257 =>
 k254 t203257 w247) w247 fun t203255 w256 =>
 Gd t186182 false (fun k258=>Pk t198232 t203255 (.bool false) fun t204261 =>
 k258 t204261 w256) w256 fun t204259 w260 =>
 Gd t182173 true (fun k262=>Pk t186182 (.bool true) t204259 fun t205265 =>
 k262 t205265 w260) w260 fun t205263 w264 =>
 Pk t182173 t205263 (.bool false) fun t206266 =>
 J149 [t206266] w264)
theorem tail_np{fv:Value}{e g next:Int}{xb:Nat}(he:e≠0)(hg:next≤4096→g=e)(E:Hs w0 F w l):TailT fv np (i64 e) (i64 g) (i64 next) (ptr xb) w λr w'=>r=.bool true∧∃l',Hs w0 F w' l':=by
 unfold TailT
 refine Bi.gtr ?_ ?_<;>intro hn<;>(repeat with_reducible refine Stp.go ?_)
 ·(intro J136 hJ136)
  skip
  refine Bi.eql (λh=>absurd h he) λ_=>?_
  repeat with_reducible refine Stp.go ?_
  refine Eq.et u_p_tree rfl ?_
  repeat with_reducible first|refine Stp.go ?_|(apply hJ136;intro u_)
  exact⟨rfl,_,E⟩
 ·obtain rfl:=hg (by omega)
  (intro J149 hJ149)
  repeat with_reducible (refine StpW.go E ?_;clear E;intro w_ E)
  refine Bi.eql (λ_=>?_) λh=>absurd rfl h
  repeat with_reducible refine Stp.go ?_
  refine Eq.et u_p_tree rfl ?_
  repeat with_reducible refine Stp.go ?_
  refine Bi.neq (λ_=>?_) λh=>absurd h he
  repeat with_reducible refine Stp.go ?_
  refine⟨true,true,rfl,rfl,?_⟩
  simp only[beq_self_eq_true,Bool.not_true,eq_self,if_true,Bool.false_eq_true,if_false]
  repeat with_reducible refine Stp.go ?_
  refine Eq.et u_p_tree rfl ?_
  repeat with_reducible refine Stp.go ?_
  refine⟨by (repeat with_reducible refine Stp.go ?_);rfl,?_⟩
  repeat with_reducible refine Stp.go ?_
  refine⟨by (repeat with_reducible refine Stp.go ?_);rfl,?_⟩
  repeat with_reducible first|refine Stp.go ?_|(apply hJ149;intro u_)
  exact⟨rfl,_,E⟩
theorem tail_t{fs:List Fl}{fv mV cV:Value}{g next clock:Int}{xb:Nat}(h:Tie D X S β)(hi:Inv S)(h1:S.files=fs)(h2:S.clock=clock)(h3:S.next=next)(hg:next≤4096→g=0)
  (E:Hs w0 F w (trA X::pt xb (oc [mV,cV,i64 clock,i64 next] Ty.t35)::slA fv Ty.t12 12 (fcs fs)::Pool D::l)):TailT fv (ptr X.t) (i64 0) (i64 g) (i64 next) (ptr xb) w λr w'=>r=.bool true∧∃l',Hs w0 F w' l':=by
 unfold TailT
 refine Bi.gtr ?_ ?_<;>intro hn<;>(repeat with_reducible refine Stp.go ?_)
 ·(intro J136 hJ136)
  repeat first|(with_reducible first|refine Stp.go ?_|(apply hJ136;intro u_))|((with_reducible refine Bi.dec true ?_ ?_);focus exact rfl)
  exact⟨rfl,_,E⟩
 ·obtain rfl:=hg (by omega)
  have hfl:=files_len hi
  (intro J149 hJ149)
  repeat first|(with_reducible first|refine Stp.go ?_|(refine StpW.go E ?_;clear E;intro w_ E))|((with_reducible refine Bi.dec true ?_ ?_);focus exact rfl)
  refine Eq.ef u_p_tree rfl ?_
  repeat first|(with_reducible first|refine Stp.go ?_)|((with_reducible refine Bi.dec false ?_ ?_);focus exact rfl)
  refine⟨false,false,rfl,rfl,?_⟩
  simp only[beq_self_eq_true,Bool.not_true,eq_self,if_true,Bool.false_eq_true,if_false]
  repeat with_reducible refine Stp.go ?_
  refine Eq.ef u_p_tree rfl ?_
  repeat with_reducible refine Stp.go ?_
  (replace E:=((E.bIx 3).bIx 1))
  refine(Files_ok h hi E).mono ?_
  clear E
  intro fv2 w_ E
  repeat with_reducible refine Stp.go ?_
  have r1:=RdS.sl (T:=Ty.t12) (sz:=12) (v:=fv2) (xs:=fcs S.files) (by simp) (by omega) E
  have r2:=RdS.sl (T:=Ty.t12) (sz:=12) (v:=fv) (xs:=fcs fs) (by simp) (by omega) E
  rw[fcs_len,Nat.mul_div_cancel _ (by omega)]at r1 r2
  refine(eqFiles_ok (by omega) E r1 r2).mono ?_
  clear E
  rintro r w_ ⟨b,rfl,hb,E⟩
  obtain rfl:b=true:=hb.2 h1
  repeat with_reducible first|refine Stp.go ?_|refine StpE.go E ?_
  (replace E:=(E.bIx 1))
  refine(Clock_ok h E).mono ?_
  clear E
  rintro r w_ ⟨rfl,E⟩
  refine⟨by (repeat with_reducible first|refine Stp.go ?_|refine StpE.go E ?_);rfl,?_⟩
  repeat with_reducible refine Stp.go ?_
  refine Bi.eql (λ_=>?_) λh=>absurd h2 h
  repeat with_reducible first|refine Stp.go ?_|refine StpE.go E ?_
  refine(Next_ok h E).mono ?_
  clear E
  rintro r w_ ⟨rfl,E⟩
  refine⟨by (repeat with_reducible first|refine Stp.go ?_|refine StpE.go E ?_);rfl,?_⟩
  repeat with_reducible refine Stp.go ?_
  refine Bi.eql (λ_=>?_) λh=>absurd h3 h
  repeat with_reducible first|refine Stp.go ?_|(apply hJ149;intro u_)
  exact⟨rfl,_,E⟩
set_option maxRecDepth 100000
set_option linter.unusedVariables false
set_option linter.unusedSimpArgs false
variable {w0 w:World} {F:Nat→Prop} {l:List As}
theorem RdS.scal{sz n:Nat}{v:Value}{xs:List Value}(h:RdS w0 F l sz n v xs):scalV v=true:=by
 obtain⟨a,c,rfl,-⟩:=h
 rfl
theorem u_sl_Group28:PP.underlying Ty.sl_r28_Group=some (.slice Ty.r28_Group):=by kernel_rfl
theorem s_Group28:sizeK PP Ty.r28_Group=some 2:=by kernel_rfl
abbrev gr28V:Value:=.agg #[str ⟨#[]⟩,.slice none 0 0]
theorem z_Group28:zeroK PP Ty.r28_Group=some gr28V:=by kernel_rfl
theorem e_Group28:el3 PP Ty.r28_Group=some (some gr28V,2,40):=by kernel_rfl
theorem BdS.gr28{s:BA}{v:Value}{k:Value→World→Prop}(hv:scalV v=true)(E:Hs w0 F w l)(hk:∀v2 w',Hs w0 F w' (slA v2 Ty.r28_Group 2 [str s,v]::l)→k v2 w'):Ef PP (Instr.buildSlice Ty.sl_r28_Group 1 #[(0,.agg #[str s,v])]) w k:=
 BdS.sl E u_sl_Group28 s_Group28 z_Group28 (by omega) (by omega) (xs:=[str s,v]) (by kernel_rfl) rfl hk
theorem gcell_len(g:BA×Value):(gcell g).length=2:=rfl
theorem GIn.scal{v:Value}{gv:List (BA×Value)}{gs:Gs}(h:GIn w0 F l v gv gs){x:BA×Value}(hx:x∈gv):scalV x.2=true:=by
 obtain⟨i,hi⟩:=List.getElem?_of_mem hx
 have hlt:=(List.getElem?_eq_some_iff.1 hi).1
 have hy:gs[i]? =some (gs[i]'(by rw[← h.len];omega)):=List.getElem?_eq_getElem _
 exact RdS.scal (h.one i _ _ hi hy).2

theorem GIn.copy{v r:Value}{gv:List (BA×Value)}{gs:Gs}(h:GIn w0 F l v gv gs)(hm:slA r Ty.r28_Group 2 (gv.flatMap gcell)∈l)(E:Hs w0 F w l):GIn w0 F l r gv gs:=by
 have h1:=RdS.sl hm (by omega) E
 rw[rw_len gcell_len,Nat.mul_div_cancel _ (by omega),h.len]at h1
 exact⟨h1,h.len,h.one⟩
theorem rGroups_ok{v:Value}{gv:List (BA×Value)}{gs:Gs}(hg:GIn w0 F l v gv gs)(hgl:gs.length≤100000)(E:Hs w0 F w l):Ca PP Fn.law28_Groups #[v] w λr w'=>Hs w0 F w' (slA r Ty.r28_Group 2 (gv.flatMap gcell)::l):=by
 refine S.law28_Groups.calls ?_
 unfold S.law28_Groups
 refine hg.rd.len ?_
 have hgv:=hg.len
 refine⟨λl1 w1=>∃(r:Value) (i:Nat),l1=[r,i64 i]∧i≤gs.length∧Hs w0 F w1 (slA r Ty.r28_Group 2 ((gv.take i).flatMap gcell)::l),λl1 _=>match l1 with|[_,.int _ i]=>gs.length-i.toNat|_=>0,⟨.slice none 0 0,0,rfl,Nat.zero_le _,Hs.nilSl E _ _⟩,?_⟩
 clear E
 rintro t3 t8 u w_ ⟨r,i,h1,hi,E⟩
 cases h1
 refine Bi.lss ?_ ?_<;>intro hlt<;>(repeat with_reducible refine Stp.go ?_)
 ·have hx:gv[i]? =some (gv[i]'(by omega)):=List.getElem?_eq_getElem (by omega)
  obtain⟨nm,uv,hgi⟩:∃nm uv,gv[i]'(by omega)=(nm,uv):=⟨_,_,rfl⟩
  rw[hgi]at hx
  have hsc:scalV uv=true:=hg.scal (x:=(nm,uv)) (List.mem_of_getElem? hx)
  have isc:Scal uv:=⟨hsc⟩
  refine(hg.rd.cons (slA t3 Ty.r28_Group 2 ((gv.take i).flatMap gcell))).ix (by omega) (by omega) (by omega) ?_
  rw[Int.toNat_natCast,flat_drop]
  intro a ha
  have hd:((gv.drop i).flatMap gcell).take 2=[str nm,uv]:=by
   rw[List.drop_eq_getElem_cons (by omega),hgi,List.flatMap_cons];rfl
  refine ha.lda E hd rfl (by omega) ?_
  repeat with_reducible first|refine Stp.go ?_|refine StpE.go E ?_|(refine StpW.go E ?_;clear E;intro w_ E)|(refine StpA.go E ?_;clear E;intro b_ w_ hb_ E)
  (revert b_;intro q hbq E)
  skip
  refine BdS.gr28 hsc E ?_
  clear E
  intro v1 w_ E
  skip
  have hlen:((gv.take i).flatMap gcell).length=i*2:=by rw[rw_len gcell_len,List.length_take,Nat.min_eq_left (by omega)]
  refine Ap.el E (i:=2) rfl u_sl_Group28 ⟨_,u_sl_Group28,λ_ h=>by cases h⟩ e_Group28 (by omega) (Src.slice (show SliceAt v1 Ty.r28_Group 2 [str nm,uv] w_ from E.sat _ List.mem_cons_self) rfl (by omega) (by show(true && (scalV uv && true))=true;rw[hsc];rfl)) rfl (by rw[hlen];omega) (by rw[hlen];omega) ?_
  clear E
  intro v2 w_ E
  (try simp only[List.set_cons_zero,List.set_cons_succ,List.cons_append,List.nil_append,Nat.zero_add,Nat.add_zero]at E)
  refine Bi.add (by omega) ?_
  refine⟨⟨v2,i+1,by simp,by omega,?_⟩,by simp only[];omega⟩
  have e:(gv.take (i+1)).flatMap gcell=(gv.take i).flatMap gcell++[str nm,uv]:=by
   rw[List.take_add_one,hx,List.flatMap_append];simp
  rw[e]
  exact E.tl.tl
 ·rw[show gv.take i=gv from List.take_of_length_le (by omega)]at E
  exact E
end Go.Proofs.YthapmhhihfedcaaGreatDoor