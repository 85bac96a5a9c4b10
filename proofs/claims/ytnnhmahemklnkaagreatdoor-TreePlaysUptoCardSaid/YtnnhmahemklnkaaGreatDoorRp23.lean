/-
 TreePlays: the root; the two trees of a setting (printed by genmade.py).
-/
import Derived.Test.YtnnhmahemklnkaaGreatDoorRp21
import Derived.Test.YtnnhmahemklnkaaGreatDoorRf2
import Derived.Test.YtnnhmahemklnkaaGreatDoorTn3
import Derived.Test.YtnnhmahemklnkaaGreatDoorSh23
import Derived.Test.YtnnhmahemklnkaaGreatDoorRows
import Derived.Test.YtnnhmahemklnkaaGreatDoorRp13
namespace Go.Proofs.YtnnhmahemklnkaaGreatDoor
open Go Go.Sh
set_option maxRecDepth 100000
set_option linter.unusedVariables false
set_option linter.unusedSimpArgs false
variable {w0 w:World} {F:Nat→Prop} {l:List As}
variable {D:List Row} {X:PT} {β:Int→Nat} {R:RT} {T:Tr} {gV nV hV:Value}
theorem Root_ok(h:Tie D X T β)(hi:Inv T){r0:Nd}(hg:T.get 0=some r0)(E:Hs w0 F w (trA X::l)):Ca PP Fn.f79 #[ptr X.t] w λr w'=>r=r0.qid.V∧Hs w0 F w' (trA X::l):=by
 refine S.f79.calls ?_
 unfold S.f79
 repeat with_reducible (refine StpA.go E ?_;clear E;intro b_ w_ hb_ E)
 (revert b_;intro q hbq E)
 (replace E:=((E.bIx 0).bIx 1))
 refine Eq.ef u_p_tree rfl ?_
 repeat with_reducible refine Stp.go ?_
 obtain⟨n,hn,hn1,hn2⟩:=h.root
 have hgn:T.get 0=some n.f:=hi.get.2 ⟨h.mem.2 ⟨n,hn,rfl⟩,hn1⟩
 rw[hg]at hgn
 cases hgn
 replace E:=Hs.openT E
 repeat with_reducible first|refine Stp.go ?_|refine StpE.go E ?_
 rw[← hn2]
 skip
 refine LdA.ob (Hs.ntAt E (by simp) hn) (by simp) ?_
 have eq3:(n.mn.C.toArray.extract 0 (0+3):Array Value)=#[i64 n.mn.kind,i64 n.mn.vers,i64 n.mn.path]:=by simp
 rw[eq3]
 repeat with_reducible first|refine StpE.go E ?_|(refine StpW.go E ?_;clear E;intro w_ E)
 exact⟨rfl,((Hs.closeT X E).bIx 1).tl⟩
theorem made_ok {gV : Value} {gv : List (BA × Value)} {gs : Gs} {owner : BA} (hg : GIn w0 F l gV gv gs) (hgl : gs.length≤100000) (hul : ∀ g∈gs,g.2.length≤100000) (hsz : ∀ s∈[owner]++gwords gs,s.size≤9223372036854775807) (E : Hs w0 F w (Pool D::l)) :
    Ca PP Fn.law28_made #[.agg #[str owner,gV]] w fun r w' =>
      (checkG gs [owner] ≠ 0∧∃ x,r = .tuple #[np,rV (.slice none 0 0) (.slice none 0 0) (.slice none 0 0) x,.bool true]∧Hs w0 F w' (Pool D::l)) ∨
      (checkG gs [owner] = 0∧∃ D' X β rg nV,r = .tuple #[ptr X.t,rV rg nV (.slice none 0 0) 0,.bool true]∧(∀ x∈D,x∈D')∧Tie D' X (newT owner gs) β∧Inv (newT owner gs)∧Scal rg∧Scal nV ∧
        Hs w0 F w' (NP nV (new28 owner)::HP (.slice none 0 0) (new28 owner)::slA rg Ty.t43 2 (gv.flatMap gcell)::trA X::Pool D'::l)):=by
  have iG : Scal gV:=⟨RdS.scal hg.rd⟩
  refine S.law28_made.calls ?_
  unfold S.law28_made
  refine StpA.go E ?_
  clear E
  intro q w_ hq E
  repeat with_reducible first|refine Stp.go ?_|refine StpE.go E ?_|(refine StpA.go E ?_; clear E; intro b_ w_ hb_ E)
  (revert b_; intro o hbo E)
  (replace E:=(((E.bIx 1).bIx 1).bIx 2))
  refine (New_ok (owner:=owner) (hg.weaken fun _ E=>E.drop (List.sublist_append_right [_,_] l)) hgl hul hsz E).mono ?_
  clear E
  rintro r w_ (⟨hc,rfl,E⟩ | ⟨hc,D1,X,β,rfl,hD1,h,hi,E⟩)
  · (try simp only [List.set_cons_zero,List.set_cons_succ,List.cons_append,List.nil_append,Nat.zero_add,Nat.add_zero] at E)
    repeat with_reducible first|refine Stp.go ?_|refine StpE.go E ?_|(refine StpW.go E ?_; clear E; intro w_ E)
    refine ⟨?_,?_,trivial⟩
    · refine (rGroups_ok (hg.weaken fun _ E=>E.drop (List.sublist_append_right [_,_,_] l)) hgl E).mono ?_
      clear E
      intro rg w_ E
      (try simp only [List.set_cons_zero,List.set_cons_succ,List.cons_append,List.nil_append,Nat.zero_add,Nat.add_zero] at E)
      have iR : Scal rg:=⟨Hs.slScal E (T:=Ty.t43) (sz:=2) (xs:=gv.flatMap gcell) List.mem_cons_self⟩
      refine ⟨by (repeat with_reducible refine StpE.go E ?_); rfl,?_,?_,trivial⟩
      · have hgr:=GIn.copy (r:=rg) (hg.weaken fun _ E=>E.drop (List.sublist_append_right [_,_,_,_] l)) (List.mem_of_getElem? (i:=0) rfl) E
        refine (rNew_ok hgr hgl hul hsz E).mono ?_
        clear E hgr
        rintro r w_ (⟨hc2,x,rfl,E⟩ | ⟨hc2,nV,rfl,iN,E⟩)
        rotate_left
        · exact absurd hc2 hc
        (try simp only [List.set_cons_zero,List.set_cons_succ,List.cons_append,List.nil_append,Nat.zero_add,Nat.add_zero] at E)
        repeat with_reducible first|refine Stp.go ?_|(refine StpA.go E ?_; clear E; intro b_ w_ hb_ E)
        (revert b_; intro p hbp E)
        refine ⟨by (repeat with_reducible refine StpE.go E ?_); rfl,by (repeat with_reducible refine StpE.go E ?_); rfl,?_⟩
        (try simp only [List.set_cons_zero,List.set_cons_succ,List.cons_append,List.nil_append,Nat.zero_add,Nat.add_zero] at E)
        repeat with_reducible (refine StpW.go E ?_; clear E; intro w_ E)
        (intro J30 hJ30)
        skip
        refine Bi.neq (fun hc=>absurd rfl hc) fun _=>?_
        repeat with_reducible refine Stp.go ?_
        refine Eq.et u_p_tree rfl ?_
        repeat with_reducible refine Stp.go ?_
        refine Bi.neq (fun _=>?_) fun hc'=>absurd hc' hc
        repeat with_reducible refine Stp.go ?_
        refine ⟨true,true,rfl,rfl,?_⟩
        simp only [beq_self_eq_true,Bool.not_true,eq_self,if_true]
        repeat with_reducible first|refine Stp.go ?_|refine StpE.go E ?_|(refine StpW.go E ?_; clear E; intro w_ E)|(apply hJ30; intro u_)
        (replace E:=(((E.bIx 1).bIx 1).bIx 2))
        refine .inl ⟨hc,_,rfl,?_⟩
        exact E.drop (List.Sublist.cons_cons _ (List.sublist_append_right [_,_,_,_] l))
      · (repeat with_reducible (refine StpA.go E ?_; clear E; intro b_ w_ hb_ E))
        (revert b_; intro p hbp E)
        refine ⟨by (repeat with_reducible refine StpE.go E ?_); rfl,by (repeat with_reducible refine StpE.go E ?_); rfl,?_⟩
        have hgr:=GIn.copy (r:=rg) (hg.weaken fun _ E=>E.drop (List.sublist_append_right [_,_,_,_,_] l)) (List.mem_of_getElem? (i:=1) rfl) E
        refine (rNew_ok hgr hgl hul hsz E).mono ?_
        clear E hgr
        rintro r w_ (⟨hc2,x,rfl,E⟩ | ⟨hc2,nV,rfl,iN,E⟩)
        rotate_left
        · exact absurd hc2 hc
        (try simp only [List.set_cons_zero,List.set_cons_succ,List.cons_append,List.nil_append,Nat.zero_add,Nat.add_zero] at E)
        repeat with_reducible first|refine Stp.go ?_|(refine StpW.go E ?_; clear E; intro w_ E)
        (intro J71 hJ71)
        skip
        refine Bi.neq (fun hc=>absurd rfl hc) fun _=>?_
        repeat with_reducible refine Stp.go ?_
        refine Eq.et u_p_tree rfl ?_
        repeat with_reducible refine Stp.go ?_
        refine Bi.neq (fun _=>?_) fun hc'=>absurd hc' hc
        repeat with_reducible refine Stp.go ?_
        refine ⟨true,true,rfl,rfl,?_⟩
        simp only [beq_self_eq_true,Bool.not_true,eq_self,if_true]
        repeat with_reducible first|refine Stp.go ?_|refine StpE.go E ?_|(refine StpW.go E ?_; clear E; intro w_ E)|(apply hJ71; intro u_)
        (replace E:=(((E.bIx 1).bIx 1).bIx 2))
        refine .inl ⟨hc,_,rfl,?_⟩
        exact E.drop (List.Sublist.cons_cons _ (List.sublist_append_right [_,_,_,_] l))
    · (repeat with_reducible (refine StpA.go E ?_; clear E; intro b_ w_ hb_ E))
      (revert b_; intro p hbp E)
      refine ⟨by (repeat with_reducible refine StpE.go E ?_); rfl,by (repeat with_reducible refine StpE.go E ?_); rfl,?_⟩
      refine (rGroups_ok (hg.weaken fun _ E=>E.drop (List.sublist_append_right [_,_,_,_] l)) hgl E).mono ?_
      clear E
      intro rg w_ E
      (try simp only [List.set_cons_zero,List.set_cons_succ,List.cons_append,List.nil_append,Nat.zero_add,Nat.add_zero] at E)
      have iR : Scal rg:=⟨Hs.slScal E (T:=Ty.t43) (sz:=2) (xs:=gv.flatMap gcell) List.mem_cons_self⟩
      refine ⟨by (repeat with_reducible refine StpE.go E ?_); rfl,?_⟩
      have hgr:=GIn.copy (r:=rg) (hg.weaken fun _ E=>E.drop (List.sublist_append_right [_,_,_,_,_] l)) (List.mem_of_getElem? (i:=0) rfl) E
      refine (rNew_ok hgr hgl hul hsz E).mono ?_
      clear E hgr
      rintro r w_ (⟨hc2,x,rfl,E⟩ | ⟨hc2,nV,rfl,iN,E⟩)
      rotate_left
      · exact absurd hc2 hc
      (try simp only [List.set_cons_zero,List.set_cons_succ,List.cons_append,List.nil_append,Nat.zero_add,Nat.add_zero] at E)
      repeat with_reducible first|refine Stp.go ?_|(refine StpW.go E ?_; clear E; intro w_ E)
      (intro J115 hJ115)
      skip
      refine Bi.neq (fun hc=>absurd rfl hc) fun _=>?_
      repeat with_reducible refine Stp.go ?_
      refine Eq.et u_p_tree rfl ?_
      repeat with_reducible refine Stp.go ?_
      refine Bi.neq (fun _=>?_) fun hc'=>absurd hc' hc
      repeat with_reducible refine Stp.go ?_
      refine ⟨true,true,rfl,rfl,?_⟩
      simp only [beq_self_eq_true,Bool.not_true,eq_self,if_true]
      repeat with_reducible first|refine Stp.go ?_|refine StpE.go E ?_|(refine StpW.go E ?_; clear E; intro w_ E)|(apply hJ115; intro u_)
      (replace E:=(((E.bIx 1).bIx 1).bIx 2))
      refine .inl ⟨hc,_,rfl,?_⟩
      exact E.drop (List.Sublist.cons_cons _ (List.sublist_append_right [_,_,_,_] l))
  · (try simp only [List.set_cons_zero,List.set_cons_succ,List.cons_append,List.nil_append,Nat.zero_add,Nat.add_zero] at E)
    repeat with_reducible first|refine Stp.go ?_|refine StpE.go E ?_|(refine StpW.go E ?_; clear E; intro w_ E)
    refine ⟨?_,?_,trivial⟩
    · refine (rGroups_ok (hg.weaken fun _ E=>E.drop (List.sublist_append_right [_,_,_,_] l)) hgl E).mono ?_
      clear E
      intro rg w_ E
      (try simp only [List.set_cons_zero,List.set_cons_succ,List.cons_append,List.nil_append,Nat.zero_add,Nat.add_zero] at E)
      have iR : Scal rg:=⟨Hs.slScal E (T:=Ty.t43) (sz:=2) (xs:=gv.flatMap gcell) List.mem_cons_self⟩
      refine ⟨by (repeat with_reducible refine StpE.go E ?_); rfl,?_,?_,trivial⟩
      · have hgr:=GIn.copy (r:=rg) (hg.weaken fun _ E=>E.drop (List.sublist_append_right [_,_,_,_,_] l)) (List.mem_of_getElem? (i:=0) rfl) E
        refine (rNew_ok hgr hgl hul hsz E).mono ?_
        clear E hgr
        rintro r w_ (⟨hc2,x,rfl,E⟩ | ⟨hc2,nV,rfl,iN,E⟩)
        · exact absurd hc hc2
        (try simp only [List.set_cons_zero,List.set_cons_succ,List.cons_append,List.nil_append,Nat.zero_add,Nat.add_zero] at E)
        repeat with_reducible first|refine Stp.go ?_|(refine StpA.go E ?_; clear E; intro b_ w_ hb_ E)
        (revert b_; intro p hbp E)
        refine ⟨by (repeat with_reducible refine StpE.go E ?_); rfl,by (repeat with_reducible refine StpE.go E ?_); rfl,?_⟩
        (try simp only [List.set_cons_zero,List.set_cons_succ,List.cons_append,List.nil_append,Nat.zero_add,Nat.add_zero] at E)
        repeat with_reducible (refine StpW.go E ?_; clear E; intro w_ E)
        (intro J30 hJ30)
        repeat first|(with_reducible first|refine Stp.go ?_)|((with_reducible refine Bi.dec false ?_ ?_); focus exact rfl)
        refine Eq.ef u_p_tree rfl ?_
        repeat first|(with_reducible first|refine Stp.go ?_)|((with_reducible refine Bi.dec false ?_ ?_); focus exact rfl)
        refine ⟨false,false,rfl,rfl,?_⟩
        simp only [beq_self_eq_true,Bool.not_true,eq_self,if_true]
        repeat with_reducible first|refine Stp.go ?_|refine StpE.go E ?_|(refine StpW.go E ?_; clear E; intro w_ E)|(apply hJ30; intro u_)
        (replace E:=((((((E.bIx 0).bIx 5).bIx 5).bIx 5).bIx 5).bIx 5))
        refine .inr ⟨hc,D1,X,β,rg,nV,rfl,hD1,h,hi,iR,iN,?_⟩
        exact E.drop (List.Sublist.cons_cons _ (List.Sublist.cons_cons _ (List.Sublist.cons_cons _ (List.Sublist.cons_cons _ (List.Sublist.cons_cons _ (List.sublist_append_right [_,_,_] l))))))
      · (repeat with_reducible (refine StpA.go E ?_; clear E; intro b_ w_ hb_ E))
        (revert b_; intro p hbp E)
        refine ⟨by (repeat with_reducible refine StpE.go E ?_); rfl,by (repeat with_reducible refine StpE.go E ?_); rfl,?_⟩
        have hgr:=GIn.copy (r:=rg) (hg.weaken fun _ E=>E.drop (List.sublist_append_right [_,_,_,_,_,_] l)) (List.mem_of_getElem? (i:=1) rfl) E
        refine (rNew_ok hgr hgl hul hsz E).mono ?_
        clear E hgr
        rintro r w_ (⟨hc2,x,rfl,E⟩ | ⟨hc2,nV,rfl,iN,E⟩)
        · exact absurd hc hc2
        (try simp only [List.set_cons_zero,List.set_cons_succ,List.cons_append,List.nil_append,Nat.zero_add,Nat.add_zero] at E)
        repeat with_reducible first|refine Stp.go ?_|(refine StpW.go E ?_; clear E; intro w_ E)
        (intro J71 hJ71)
        repeat first|(with_reducible first|refine Stp.go ?_)|((with_reducible refine Bi.dec false ?_ ?_); focus exact rfl)
        refine Eq.ef u_p_tree rfl ?_
        repeat first|(with_reducible first|refine Stp.go ?_)|((with_reducible refine Bi.dec false ?_ ?_); focus exact rfl)
        refine ⟨false,false,rfl,rfl,?_⟩
        simp only [beq_self_eq_true,Bool.not_true,eq_self,if_true]
        repeat with_reducible first|refine Stp.go ?_|refine StpE.go E ?_|(refine StpW.go E ?_; clear E; intro w_ E)|(apply hJ71; intro u_)
        (replace E:=((((((E.bIx 2).bIx 5).bIx 5).bIx 5).bIx 5).bIx 5))
        refine .inr ⟨hc,D1,X,β,rg,nV,rfl,hD1,h,hi,iR,iN,?_⟩
        exact E.drop (List.Sublist.cons_cons _ (List.Sublist.cons_cons _ (List.Sublist.cons_cons _ (List.Sublist.cons_cons _ (List.Sublist.cons_cons _ (List.sublist_append_right [_,_,_] l))))))
    · (repeat with_reducible (refine StpA.go E ?_; clear E; intro b_ w_ hb_ E))
      (revert b_; intro p hbp E)
      refine ⟨by (repeat with_reducible refine StpE.go E ?_); rfl,by (repeat with_reducible refine StpE.go E ?_); rfl,?_⟩
      refine (rGroups_ok (hg.weaken fun _ E=>E.drop (List.sublist_append_right [_,_,_,_,_] l)) hgl E).mono ?_
      clear E
      intro rg w_ E
      (try simp only [List.set_cons_zero,List.set_cons_succ,List.cons_append,List.nil_append,Nat.zero_add,Nat.add_zero] at E)
      have iR : Scal rg:=⟨Hs.slScal E (T:=Ty.t43) (sz:=2) (xs:=gv.flatMap gcell) List.mem_cons_self⟩
      refine ⟨by (repeat with_reducible refine StpE.go E ?_); rfl,?_⟩
      have hgr:=GIn.copy (r:=rg) (hg.weaken fun _ E=>E.drop (List.sublist_append_right [_,_,_,_,_,_] l)) (List.mem_of_getElem? (i:=0) rfl) E
      refine (rNew_ok hgr hgl hul hsz E).mono ?_
      clear E hgr
      rintro r w_ (⟨hc2,x,rfl,E⟩ | ⟨hc2,nV,rfl,iN,E⟩)
      · exact absurd hc hc2
      (try simp only [List.set_cons_zero,List.set_cons_succ,List.cons_append,List.nil_append,Nat.zero_add,Nat.add_zero] at E)
      repeat with_reducible first|refine Stp.go ?_|(refine StpW.go E ?_; clear E; intro w_ E)
      (intro J115 hJ115)
      repeat first|(with_reducible first|refine Stp.go ?_)|((with_reducible refine Bi.dec false ?_ ?_); focus exact rfl)
      refine Eq.ef u_p_tree rfl ?_
      repeat first|(with_reducible first|refine Stp.go ?_)|((with_reducible refine Bi.dec false ?_ ?_); focus exact rfl)
      refine ⟨false,false,rfl,rfl,?_⟩
      simp only [beq_self_eq_true,Bool.not_true,eq_self,if_true]
      repeat with_reducible first|refine Stp.go ?_|refine StpE.go E ?_|(refine StpW.go E ?_; clear E; intro w_ E)|(apply hJ115; intro u_)
      (replace E:=((((((E.bIx 3).bIx 5).bIx 5).bIx 5).bIx 5).bIx 5))
      refine .inr ⟨hc,D1,X,β,rg,nV,rfl,hD1,h,hi,iR,iN,?_⟩
      exact E.drop (List.Sublist.cons_cons _ (List.Sublist.cons_cons _ (List.Sublist.cons_cons _ (List.Sublist.cons_cons _ (List.Sublist.cons_cons _ (List.sublist_append_right [_,_,_] l))))))
set_option maxRecDepth 100000
set_option linter.unusedVariables false
set_option linter.unusedSimpArgs false

def gsz(g:ByteArray×List ByteArray):Nat:=g.1.size+g.2.length+(g.2.map λ(s:ByteArray)=>s.size).sum
def ssz(owner:BA)(gs:Gs):Nat:=owner.size+gs.length+(gs.map gsz).sum
theorem usr_bulk{H:Type}{g:BA×List BA}{d:DataW H}(h:UsrD g d):gsz g+1≤Rows.uptoBulk d:=by
 obtain⟨du,rfl,h⟩:=h
 have e:g.1.data.toList.length=g.1.size:=by rw[Array.length_toList];rfl
 rcases h with⟨rfl,h2⟩|⟨sp,rfl⟩
 ·simp only[Rows.uptoBulk,Rows.uptoBulkAll,gsz,h2,List.map_nil,List.sum_nil,List.length_nil];omega
 ·have key:∀us:List ByteArray,us.length+(us.map λ(s:ByteArray)=>s.size).sum≤Rows.uptoBulkAll (us.map λ(s:ByteArray)=>DataW.lit (H:=H) (.string s.data.toList)):=by
   intro us
   induction us with
   |nil=>simp
   |cons u r ih=>
    have eu:u.data.toList.length=u.size:=by rw[Array.length_toList];rfl
    simp only[List.map_cons,Rows.uptoBulkAll,Rows.uptoBulk,List.sum_cons,List.length_cons]
    omega
  have:=key g.2
  simp only[Rows.uptoBulk,Rows.uptoBulkAll,gsz];omega
theorem grp_bulk{H:Type}{gs:Gs}{d:DataW H}(h:GrpD gs d):gs.length+(gs.map gsz).sum≤Rows.uptoBulk d:=by
 rcases h with⟨rfl,rfl⟩|⟨elems,spare,rfl,hl,hu⟩
 ·simp
 ·have key:∀(gs:Gs) (elems:List (DataW H)),elems.length=gs.length→(∀(i:Nat) d g,elems[i]? =some d→gs[i]? =some g→UsrD g d)→gs.length+(gs.map gsz).sum≤Rows.uptoBulkAll elems:=by
   intro gs
   induction gs with
   |nil=>intro elems _ _;simp
   |cons g r ih=>
    intro elems hl hu
    cases elems with
    |nil=>simp at hl
    |cons x es=>
     have h1:=usr_bulk (hu 0 x g rfl rfl)
     have h2:=ih es (by simpa using hl) λi d g hd hg=>hu (i+1) d g (by simpa using hd) (by simpa using hg)
     simp only[Rows.uptoBulkAll,List.length_cons,List.map_cons,List.sum_cons]
     omega
  have:=key gs elems hl hu
  simp only[Rows.uptoBulk];omega
theorem set_bulk{H:Type}{owner:BA}{gs:Gs}{dg:DataW H}(h:GrpD gs dg){rest:List (DataW H)}(hk:Rows.uptoSmall H (.agg [.lit (.string owner.data.toList),dg]::rest)=true):ssz owner gs≤1048576:=by
 have h1:Rows.uptoBulkAll (DataW.agg [.lit (.string owner.data.toList),dg]::rest)≤1048576:=of_decide_eq_true hk
 have h2:=grp_bulk h
 have e:owner.data.toList.length=owner.size:=by rw[Array.length_toList];rfl
 simp only[Rows.uptoBulk,Rows.uptoBulkAll]at h1
 unfold ssz
 omega
theorem gin_of{W:World}{v:Value}{gv:List (BA×Value)}{gs:Gs}{l:List As}(h1:RdlA W v 2 gs.length (gv.flatMap λg=>[.string g.1,g.2]))(h2:gv.length=gs.length)
  (h3:∀(i:Nat) a b,gv[i]? =some a→gs[i]? =some b→a.1=b.1∧Rdl W a.2 (b.2.map Value.string)):GIn W Emp l v gv gs:=
 ⟨RdS.oldA h1 λb h=>h,h2,λi a b ha hb=>by
  obtain⟨e,h⟩:=h3 i a b ha hb
  refine⟨e,?_⟩
  have:=RdS.old (l:=l) h λb (h:Emp b)=>h
  rwa [List.length_map]at this⟩
theorem sum_le{α:Type}{f:α→Nat}:∀{L:List α} {x:α},x∈L→f x≤(L.map f).sum
 |y::r,x,h=>by
  rw[List.map_cons,List.sum_cons]
  rcases List.mem_cons.1 h with rfl|h
  ·omega
  ·have:=sum_le (f:=f) h;omega
theorem sum_take{α:Type}{f:α→Nat}(L:List α)(i:Nat):((L.take i).map f).sum≤(L.map f).sum:=by
 have:((L.take i).map f).sum+((L.drop i).map f).sum=(L.map f).sum:=by rw[← List.sum_append,← List.map_append,List.take_append_drop]
 omega
theorem ssz_parts{owner:BA}{gs:Gs}{n:Nat}(h:ssz owner gs≤n):owner.size≤n∧gs.length≤n∧∀g∈gs,g.1.size≤n∧g.2.length≤n∧∀u∈g.2,u.size≤n:=by
 unfold ssz at h
 refine⟨by omega,by omega,λg hg=>?_⟩
 have:=sum_le (f:=gsz) hg
 have e:gsz g=g.1.size+g.2.length+(g.2.map λ(s:ByteArray)=>s.size).sum:=rfl
 refine⟨by omega,by omega,λu hu=>?_⟩
 have:=sum_le (f:=λs:ByteArray=>s.size) hu
 omega
theorem gwords_mem{gs:Gs}{s:BA}(h:s∈gwords gs):∃g∈gs,s=g.1∨s∈g.2:=by
 unfold gwords at h
 obtain⟨g,hg,h⟩:=List.mem_flatMap.1 h
 exact⟨g,hg,List.mem_cons.1 h⟩
theorem ssz_words{owner:BA}{gs:Gs}{n:Nat}(h:ssz owner gs≤n):∀s∈[owner]++gwords gs,s.size≤n:=by
 obtain⟨h1,h2,h3⟩:=ssz_parts h
 intro s hs
 rcases List.mem_append.1 hs with hs|hs
 ·rw[List.mem_singleton.1 hs];exact h1
 ·obtain⟨g,hg,hs⟩:=gwords_mem hs
  rcases hs with rfl|hs
  ·exact(h3 g hg).1
  ·exact(h3 g hg).2.2 s hs
set_option maxRecDepth 100000
set_option linter.unusedVariables false
set_option linter.unusedSimpArgs false
variable {w0 w:World} {F:Nat→Prop} {l:List As}
theorem small_ok{gV:Value}{gv:List (BA×Value)}{gs:Gs}{owner:BA}(hg:GIn w0 F l gV gv gs)(hb:ssz owner gs≤1048576)(E:Hs w0 F w l):
  Ca PP Fn.law28_small #[.agg #[str owner,gV]] w λr w'=>r=.bool (decide (ssz owner gs≤2000))∧Hs w0 F w' l:=by
 refine S.law28_small.calls ?_
 unfold S.law28_small
 have hb':=hb
 unfold ssz at hb'
 refine StpA.go E ?_
 clear E
 intro q w_ hq E
 repeat with_reducible first|refine Stp.go ?_|refine StpE.go E ?_
 refine hg.rd.len ?_
 refine Bi.add (by omega) ?_
 repeat with_reducible first|refine Stp.go ?_|refine StpE.go E ?_
 refine hg.rd.len ?_
 refine⟨λl1 w1=>∃(i:Nat) (n:Int),l1=[i64 n,i64 i]∧i≤gs.length∧n=((owner.size+gs.length+((gs.take i).map gsz).sum:Nat):Int)∧Hs w0 F w1 (pt q (oc [str owner,gV] Ty.t40)::l),λl1 _=>match l1 with|[_,.int _ i]=>gs.length-i.toNat|_=>0,
  ⟨0,_,rfl,Nat.zero_le _,by simp,E⟩,?_⟩
 clear E
 rintro t3 t18 u w1 ⟨i,n,h1,hi,hn,E⟩
 cases h1
 have htk:=sum_take (f:=gsz) gs i
 refine Bi.lss ?_ ?_<;>intro hlt<;>(repeat with_reducible refine Stp.go ?_)
 ·have hx:gs[i]? =some gs[i]:=List.getElem?_eq_getElem (by omega)
  have hy:gv[i]? =some (gv[i]'(by rw[hg.len];omega)):=List.getElem?_eq_getElem (by rw[hg.len];omega)
  obtain⟨nm,uv,hgi⟩:∃nm uv,gv[i]'(by rw[hg.len];omega)=(nm,uv):=⟨_,_,rfl⟩
  obtain⟨us,hus⟩:∃us,gs[i]=(nm,us):=⟨gs[i].2,by have:=(hg.one i _ _ hy hx).1;rw[hgi]at this;exact Prod.ext this.symm rfl⟩
  have hu:=(hg.one i _ _ hy hx).2
  rw[hgi,hus]at hu
  rw[hus]at hx
  simp only[]at hu
  have tk:gs.take (i+1)=gs.take i++[(nm,us)]:=by rw[List.take_add_one,hx];rfl
  have hs1:((gs.take (i+1)).map gsz).sum=((gs.take i).map gsz).sum+(nm.size+us.length+(us.map λ(s:ByteArray)=>s.size).sum):=by rw[tk];simp[gsz]
  have htk2:=sum_take (f:=gsz) gs (i+1)
  refine(hg.rd.cons (pt q (oc [str owner,gV] Ty.t40))).ix (by omega) (by omega) (by omega) ?_
  intro a ha
  rw[Int.toNat_natCast,flat_drop,List.drop_eq_getElem_cons (by rw[hg.len];omega),hgi,List.flatMap_cons]at ha
  have hus2:=hu
  obtain⟨p,c,huv,-⟩:=hus2
  refine ha.lda E (m:=2) (ds:=[str nm,uv]) rfl rfl (by omega) ?_
  clear ha
  subst huv
  repeat with_reducible first|refine Stp.go ?_|refine StpE.go E ?_|(refine StpW.go E ?_;clear E;intro w_ E)|(refine StpA.go E ?_;clear E;intro b_ w_ hb_ E)
  (revert b_;intro g hbg E)
  skip
  refine hu.len ?_
  refine Bi.add (by omega) ?_
  refine Bi.add (by omega) ?_
  repeat with_reducible first|refine Stp.go ?_|refine StpE.go E ?_
  refine hu.len ?_
  refine⟨λl1 w1=>∃(j:Nat) (m:Int),l1=[i64 m,i64 j]∧j≤us.length∧m=((owner.size+gs.length+((gs.take i).map gsz).sum+nm.size+us.length+((us.take j).map λ(s:ByteArray)=>s.size).sum:Nat):Int)∧Hs w0 F w1 (pt g (oc [str nm,.slice p us.length c] Ty.tree_Group)::pt q (oc [str owner,gV] Ty.t40)::l),λl1 _=>match l1 with|[_,.int _ i]=>us.length-i.toNat|_=>0,
   ⟨0,_,rfl,Nat.zero_le _,by rw[hn,List.take_zero,List.map_nil,List.sum_nil];omega,E⟩,?_⟩
  clear E
  rintro t3' t34 u' w2 ⟨j,m,h1,hj,hm,E⟩
  cases h1
  have htj:=sum_take (f:=λs:ByteArray=>s.size) us j
  refine Bi.lss ?_ ?_<;>intro hlt2<;>(repeat with_reducible refine Stp.go ?_)
  ·have hxu:us[j]? =some us[j]:=List.getElem?_eq_getElem (by omega)
   have hs2:((us.take (j+1)).map λ(s:ByteArray)=>s.size).sum=((us.take j).map λ(s:ByteArray)=>s.size).sum+us[j].size:=by
    rw[List.take_add_one,hxu,List.map_append,List.sum_append]
    simp
   have htj2:=sum_take (f:=λs:ByteArray=>s.size) us (j+1)
   refine((hu.cons (pt q (oc [str owner,gV] Ty.t40))).cons (pt g (oc [str nm,.slice p us.length c] Ty.tree_Group))).ix (by omega) (by omega) (by omega) ?_
   intro a ha
   refine ha.ld E (x:=str us[j]) (by rw[Int.toNat_natCast,Nat.mul_one,List.getElem?_drop,Nat.add_zero,List.getElem?_map,hxu];rfl) ?_
   repeat with_reducible refine Stp.go ?_
   refine Bi.add (by omega) ?_
   refine Bi.add (by omega) ?_
   exact⟨⟨j+1,m+us[j].size,by simp,by omega,by omega,E⟩,by simp only[];omega⟩
  ·rw[show us.take j=us from List.take_of_length_le (by omega)]at hm
   refine Bi.add (by omega) ?_
   exact⟨⟨i+1,m,by simp,by omega,by omega,E.tl⟩,by simp only[];omega⟩
 ·rw[show gs.take i=gs from List.take_of_length_le (by omega)]at hn
  have e:n=(ssz owner gs:Int):=hn
  refine Bi.leq ?_ ?_<;>intro h2
  ·exact⟨by rw[decide_eq_true (by omega)],E.tl⟩
  ·exact⟨by rw[decide_eq_false (by omega)],E.tl⟩
set_option maxRecDepth 100000
variable {w0 w:World} {F:Nat→Prop} {l:List As}
theorem path_size{T:Tr}(hi:Inv T){n:Nd}(hn:n∈T.ns):(T.pathS n).size≤100000:=by
 have h1:=join_size (T.chain n)
 have h2:=tot_good (chain_good hi hn)
 have h3:=chain_len hi hn
 unfold Tr.pathS
 rw[ByteArray.size_append]
 have:ByteArray.size sep=1:=rfl
 omega
set_option maxRecDepth 100000
set_option linter.unusedVariables false
set_option linter.unusedSimpArgs false
variable {w0 w:World} {F:Nat→Prop} {l:List As}
variable {D:List Row} {X:PT} {β:Int→Nat} {R:RT} {T:Tr} {gV nV hV:Value}
theorem change_gs(T:Tr)(user:BA)(ps:List Int):(T.change user ps).gs=T.gs:=(change_keeps T user ps).2.2.1
theorem act_gs(T:Tr)(x:Ac):(T.act x).1.gs=T.gs:=by
 have hw:(T.wstat x.user x.file x.dir).1.gs=T.gs:=by
  unfold Tr.wstat
  repeat' (first|split|(simp only[];split))
  all_goals first|rfl|exact change_gs _ _ _
 have ho:(T.openF x.user x.file x.mode).1.gs=T.gs:=by
  unfold Tr.openF
  repeat' (first|split|(simp only[];split))
  all_goals first|rfl|exact change_gs _ _ _|(simp only[Tr.hold];split<;>first|rfl|exact change_gs _ _ _)
 have hc:(T.create x.user x.file x.name x.perm x.mode).1.gs=T.gs:=by
  unfold Tr.create
  repeat' (first|split|(simp only[];split))
  all_goals first|rfl|exact change_gs _ _ _
 have hwr:(T.write x.handle x.offset x.data).1.gs=T.gs:=by
  unfold Tr.write
  repeat' (first|split|(simp only[];split))
  all_goals first|rfl|exact change_gs _ _ _
 have hcl:(T.close x.handle).1.gs=T.gs:=by
  unfold Tr.close
  repeat' (first|split|(simp only[];split))
  all_goals first|rfl|exact change_gs _ _ _
 have hrm:(T.remove x.user x.file).1.gs=T.gs:=by
  unfold Tr.remove
  repeat' (first|split|(simp only[];split))
  all_goals first|rfl|exact change_gs _ _ _
 unfold Tr.act
 by_cases c0:x.kind=0
 ·rw[if_pos c0]
 rw[if_neg c0]
 by_cases c1:x.kind=1
 ·rw[if_pos c1]
 rw[if_neg c1]
 by_cases c2:x.kind=2
 ·rw[if_pos c2];exact hw
 rw[if_neg c2]
 by_cases c3:x.kind=3
 ·rw[if_pos c3];exact ho
 rw[if_neg c3]
 by_cases c4:x.kind=4
 ·rw[if_pos c4];exact hc
 rw[if_neg c4]
 by_cases c5:x.kind=5
 ·rw[if_pos c5]
 rw[if_neg c5]
 by_cases c6:x.kind=6
 ·rw[if_pos c6]
 rw[if_neg c6]
 by_cases c7:x.kind=7
 ·rw[if_pos c7];exact hwr
 rw[if_neg c7]
 by_cases c8:x.kind=8
 ·rw[if_pos c8];exact hcl
 rw[if_neg c8]
 by_cases c9:x.kind=9
 ·rw[if_pos c9];exact hrm
 rw[if_neg c9]
 by_cases c10:x.kind=10
 ·rw[if_pos c10]
 rw[if_neg c10]
 by_cases c11:x.kind=11
 ·rw[if_pos c11]
 rw[if_neg c11]
theorem acts_gs:∀(xs:List Ac) (T:Tr),(T.acts xs).gs=T.gs
 |[],_=>rfl
 |x::r,T=>by
  show((T.act x).1.acts r).gs=T.gs
  rw[acts_gs r,act_gs]
theorem act_dirs(hi:Inv T)(x:Ac):(T.act x).2.dirs.length≤1024:=by
 have hl:(T.list x.handle).1.length≤1024:=by
  unfold Tr.list
  split
  ·exact Nat.zero_le _
  ·split
   ·exact Nat.zero_le _
   ·split
    ·exact Nat.zero_le _
    ·rw[List.length_map];exact kidsS_len hi _
 unfold Tr.act
 by_cases c0:x.kind=0
 ·rw[if_pos c0];exact Nat.zero_le _
 rw[if_neg c0]
 by_cases c1:x.kind=1
 ·rw[if_pos c1];exact Nat.zero_le _
 rw[if_neg c1]
 by_cases c2:x.kind=2
 ·rw[if_pos c2];exact Nat.zero_le _
 rw[if_neg c2]
 by_cases c3:x.kind=3
 ·rw[if_pos c3];exact Nat.zero_le _
 rw[if_neg c3]
 by_cases c4:x.kind=4
 ·rw[if_pos c4];exact Nat.zero_le _
 rw[if_neg c4]
 by_cases c5:x.kind=5
 ·rw[if_pos c5];exact Nat.zero_le _
 rw[if_neg c5]
 by_cases c6:x.kind=6
 ·rw[if_pos c6];exact hl
 rw[if_neg c6]
 by_cases c7:x.kind=7
 ·rw[if_pos c7];exact Nat.zero_le _
 rw[if_neg c7]
 by_cases c8:x.kind=8
 ·rw[if_pos c8];exact Nat.zero_le _
 rw[if_neg c8]
 by_cases c9:x.kind=9
 ·rw[if_pos c9];exact Nat.zero_le _
 rw[if_neg c9]
 by_cases c10:x.kind=10
 ·rw[if_pos c10];exact Nat.zero_le _
 rw[if_neg c10]
 by_cases c11:x.kind=11
 ·rw[if_pos c11];exact Nat.zero_le _
 rw[if_neg c11]
 exact Nat.zero_le _
theorem rd_dcs{v:Value}{ds:List Dr}(h:slA v Ty.t7 10 (dcs ds)∈l)(E:Hs w0 F w l):RdS w0 F l 10 ds.length v (dcs ds):=by
 have:=RdS.sl h (by omega) E
 rwa [show dcs ds=ds.flatMap Dr.cs from rfl,rw_len (sz:=10) (g:=Dr.cs) λ_=>rfl,Nat.mul_div_cancel _ (by omega)]at this
theorem an_scal{a:An}{dv:Value}(h:scalV dv=true):(a.C dv).all scalV=true:=by
 show(true && (true && (true && (true && (true && (true && (true && (true && (true && (true && (true && (true && (true && (true && (true && (scalV dv && (true && true)))))))))))))))))=true
 rw[h];rfl
theorem Plays_law{D:List Row}{gV v:Value}{gv:List (BA×Value)}{gs:Gs}{owner:BA}{xs:List Ac}(hg:∀l,GIn w0 F l gV gv gs)(hb:ssz owner gs≤1048576)(hok:∀x∈xs,x.Ok)(hxl:xs.length≤9223372036854775807)(hr:∀l,RdS w0 F l 20 xs.length v (acs xs))(E:Hs w0 F w (Pool D::l)):
  Ca PP Fn.f85 #[.agg #[str owner,gV],v] w λr w'=>r=.bool true∧∃l',Hs w0 F w' l':=by
 have iG:Scal gV:=⟨RdS.scal (hg l).rd⟩
 refine S.f85.calls ?_
 unfold S.f85
 refine StpA.go E ?_
 clear E
 intro q w_ hq E
 (replace E:=((E.bIx 0).bIx 1))
 refine(awake_ok E).mono ?_
 clear E
 rintro r w_ ⟨rfl,D',-,E⟩
 repeat with_reducible refine Stp.go ?_
 (intro J6 hJ6)
 have fin6:∀b w_,(b=false→ssz owner gs≤2000∧xs.length≤40)→Hs w0 F w_ (Pool D'::pt q (oc [str owner,gV] Ty.t40)::l)→J6 [.bool b] w_:=by
  intro b w_ hb E
  repeat with_reducible (apply hJ6;intro u_)
  clear hJ6
  cases b with
  |true=>(repeat with_reducible refine Stp.go ?_);exact⟨rfl,_,E⟩
  |false=>
   obtain⟨hs1,hx1⟩:=hb rfl
   obtain⟨-,hgl,hgu⟩:=ssz_parts hs1
   repeat with_reducible first|refine Stp.go ?_|refine StpE.go E ?_
   refine(made_ok (owner:=owner) (hg _) (by omega) (λg h=>by have:=(hgu g h).2.1;omega) (λs h=>by have:=ssz_words hs1 s h;omega) E).mono ?_
   clear E
   rintro r w_ (⟨hc,x,rfl,E⟩|⟨hc,D1,X,β,rg,nV,rfl,hD1,h,hi,iR,iN,E⟩)
   ·(repeat with_reducible first|refine Stp.go ?_|(refine StpW.go E ?_;clear E;intro w_ E)|(refine StpA.go E ?_;clear E;intro b_ w_ hb_ E))
    (revert b_;intro p hbp E)
    skip
    (intro J19 hJ19)
    repeat with_reducible refine Stp.go ?_
    refine Eq.et u_p_tree rfl ?_
    repeat with_reducible first|refine Stp.go ?_|(apply hJ19;intro u_)
    exact⟨rfl,_,E⟩
   obtain⟨c1,c2,c3,c4⟩:=checkG_zero hc
   repeat with_reducible first|refine Stp.go ?_|(refine StpW.go E ?_;clear E;intro w_ E)|(refine StpA.go E ?_;clear E;intro b_ w_ hb_ E)
   (revert b_;intro p hbp E)
   (replace E:=(((((((E.bIx 6).bIx 4).bIx 4).bIx 4).bIx 4).bIx 6).bIx 6))
   skip
   (intro J19 hJ19)
   repeat with_reducible refine Stp.go ?_
   refine Eq.ef u_p_tree rfl ?_
   repeat with_reducible first|refine Stp.go ?_|(apply hJ19;intro u_)
   clear hJ19
   have hrl:=new28_rl owner gs
   have l0:Lim 1 (newT owner gs):=newT_lim _ _
   (intro J23 hJ23)
   have fin23:∀w_,Hs w0 F w_ (trA X::Pool D1::pt p (oc [rg,nV,.slice none 0 0,i64 0] Ty.t0)::NP nV (new28 owner)::HP (.slice none 0 0) (new28 owner)::slA rg Ty.t43 2 (gv.flatMap gcell)::pt q (oc [str owner,gV] Ty.t40)::l)→J23 [.bool false] w_:=by
    intro w_ E
    repeat with_reducible first|refine Stp.go ?_|(apply hJ23;intro u_)
    clear hJ23
    refine(hr l).len ?_
    refine⟨λl1 w1=>∃(i:Nat) (D':List Row) (X':PT) (β':Int→Nat) (n2 v2:Value) (R2:RT),l1=[i64 i]∧i≤xs.length∧X'.t=X.t∧Tie D' X' ((newT owner gs).acts (xs.take i)) β'∧Rl R2 ((newT owner gs).acts (xs.take i))∧Scal n2∧Scal v2∧
      Hs w0 F w1 (trA X'::Pool D'::pt p (oc [rg,n2,v2,i64 R2.clock] Ty.t0)::NP n2 R2::HP v2 R2::slA rg Ty.t43 2 (gv.flatMap gcell)::l),
     λl1 _=>match l1 with|[.int _ i]=>xs.length-i.toNat|_=>0,⟨0,D1,X,β,nV,.slice none 0 0,new28 owner,rfl,Nat.zero_le _,rfl,h,hrl,iN,⟨rfl⟩,(E.bIx 6).tl⟩,?_⟩
    clear E
    rintro t u w_ ⟨i,D',X',β',n2,v2,R2,h4',hle,ht,hT,hrT,i2,i3,E⟩
    cases h4'
    have hi':=acts_inv (xs.take i) hi
    have hl':=acts_lim (xs.take i) (by omega) l0
    have htl:(xs.take i).length≤40:=by rw[List.length_take];omega
    have hl2:Lim 136 ((newT owner gs).acts (xs.take i)):=hl'.mono (by omega)
    have hl3:Lim 1000000 ((newT owner gs).acts (xs.take i)):=hl2.mono (by omega)
    have hps:∀n∈((newT owner gs).acts (xs.take i)).ns,(((newT owner gs).acts (xs.take i)).pathS n).size≤100000:=λn hn=>path_size hi' hn
    have hfl:=files_len hi'
    have hgs:((newT owner gs).acts (xs.take i)).gs=gs:=acts_gs _ _
    obtain⟨hN,-,-⟩:=hrT.rng hi' hl3
    refine Bi.lss ?_ ?_<;>intro hlt<;>(repeat with_reducible first|refine Stp.go ?_|refine StpE.go E ?_)
    ·have hx:xs[i]? =some xs[i]:=List.getElem?_eq_getElem (by omega)
     have hxo:xs[i].Ok:=hok _ (List.getElem_mem _)
     generalize xs[i]=x at hx hxo
     have hat:=acs_at hx
     have e:(newT owner gs).acts (xs.take (i+1))=(((newT owner gs).acts (xs.take i)).act x).1:=by
      rw[List.take_add_one,hx]
      exact acts_snoc _ _ _
     generalize (newT owner gs).acts (xs.take i)=T at hT hi' hl2 hl3 hps e hfl hgs hrT
     refine(hr l).ix (by omega) (by omega) (by omega) ?_
     intro a ha
     rw[Int.toNat_natCast]at ha
     refine ha.lda (E.drop (List.sublist_append_right [_,_,_,_,_,_] l)) hat rfl (by omega) ?_
     repeat with_reducible (refine StpA.go E ?_;clear E;intro b_ w_ hb_ E)
     (revert b_;intro b hbb E)
     refine StA.all (vs:=x.C) E rfl rfl (ac_scal x) ?_
     clear E
     intro w_ E
     repeat with_reducible refine StpE.go E ?_
     (replace E:=(((E.bIx 0).bIx 2).bIx 2))
     rw[← ht]
     refine(Do_ok hT hi' (by omega) hl2 hxo E).mono ?_
     clear E
     rintro r w_ ⟨dv,rfl,D2,X2,β2,hD2,ht2,hT2,E⟩
     have hsv:scalV dv=true:=Hs.slScal E (T:=Ty.t7) (sz:=10) (xs:=dcs (T.act x).2.dirs) (by simp)
     have hav:=an_scal (a:=(T.act x).2) hsv
     have hdl:=act_dirs hi' x
     repeat with_reducible (refine StpA.go E ?_;clear E;intro b_ w_ hb_ E)
     (revert b_;intro c hbc E)
     refine StA.all (vs:=(T.act x).2.C dv) E rfl rfl hav ?_
     clear E
     intro w_ E
     repeat with_reducible first|refine StpE.go E ?_|(refine StpA.go E ?_;clear E;intro b_ w_ hb_ E)
     (revert b_;intro cc hbcc E)
     (replace E:=(((((((((E.bIx 6).bIx 6).bIx 6).bIx 6).bIx 6).bIx 6).bIx 6).bIx 8).bIx 8))
     have hgo:GOk w0 F (pt cc (oc (aEV.C (.slice none 0 0)) Ty.t33)::pt c (oc ((T.act x).2.C dv) Ty.t33)::trA X2::Pool D2::slA dv Ty.t7 10 (dcs (T.act x).2.dirs)::pt b (oc x.C Ty.law28_Act)::pt p (oc [rg,n2,v2,i64 R2.clock] Ty.t0)::slA rg Ty.t43 2 (gv.flatMap gcell)::l) rg T.gs:=by
      rw[hgs]
      exact⟨⟨gv,GIn.copy (hg _) (List.mem_of_getElem? (i:=7) rfl) E.tl.tl⟩,by omega,λg h=>by have:=c2 g h;omega,c4⟩
     refine(rRefer_ok hrT hi' hl3 hgo hps hxo E).mono ?_
     clear E
     rintro r w_ ⟨tv,dv2,rfl,n3,v3,R3,rfl,i4,i5,hr3,E⟩
     have hsv2:scalV dv2=true:=Hs.slScal E (T:=Ty.t7) (sz:=10) (xs:=dcs (T.act x).2.dirs) (by simp)
     have hav2:=an_scal (a:=(T.act x).2) hsv2
     repeat with_reducible first|refine Stp.go ?_|(refine StpW.go E ?_;clear E;intro w_ E)
     (replace E:=((((E.bIx 2).bIx 2).bIx 2).bIx 3))
     refine StA.all (vs:=(T.act x).2.C dv2) E rfl rfl hav2 ?_
     clear E
     intro w_ E
     (intro J55 hJ55)
     have fin55:∀w_,Hs w0 F w_ (trA X2::pt cc (oc ((T.act x).2.C dv2) Ty.t33)::NP n3 R3::HP v3 R3::slA dv2 Ty.t7 10 (dcs (T.act x).2.dirs)::pt c (oc ((T.act x).2.C dv) Ty.t33)::Pool D2::slA dv Ty.t7 10 (dcs (T.act x).2.dirs)::pt b (oc x.C Ty.law28_Act)::pt p (oc [rg,n3,v3,i64 R3.clock] Ty.t0)::slA rg Ty.t43 2 (gv.flatMap gcell)::l)→J55 [.bool false] w_:=by
      intro w_ E
      repeat with_reducible first|refine Stp.go ?_|(apply hJ55;intro u_)
      refine Bi.add (by omega) ?_
      refine⟨⟨i+1,D2,X2,β2,n3,v3,R3,by simp,by omega,ht2,by rw[e];exact hT2,by rw[e];exact hr3,i4,i5,?_⟩,by simp only[];omega⟩
      (replace E:=(((((((((((E.bIx 8).bIx 8).bIx 7).bIx 7).bIx 5).bIx 10).bIx 8).bIx 8).bIx 10).bIx 10).bIx 10))
      exact E.drop (List.Sublist.cons_cons _ (List.Sublist.cons_cons _ (List.Sublist.cons_cons _ (List.Sublist.cons_cons _ (List.Sublist.cons_cons _ (List.Sublist.cons_cons _ (List.sublist_append_right [_,_,_,_,_] l)))))))
     clear hJ55
     repeat with_reducible first|refine StpE.go E ?_|(refine StpW.go E ?_;clear E;intro w_ E)
     have r1:=rd_dcs (v:=dv) (ds:=(T.act x).2.dirs) (List.mem_of_getElem? (i:=7) rfl) E
     have r2:=rd_dcs (v:=dv2) (ds:=(T.act x).2.dirs) (List.mem_of_getElem? (i:=3) rfl) E
     refine(Same_ok (by omega) E r1 r2).mono ?_
     clear E r1 r2
     rintro r w_ ⟨rfl,E⟩
     refine Un.not ?_
     simp only[Bool.not_true]
     repeat with_reducible first|refine Stp.go ?_|refine StpE.go E ?_
     (replace E:=(E.bIx 5))
     rw[← ht2]
     refine(Clock_ok hT2 E).mono ?_
     clear E
     rintro r w_ ⟨rfl,E⟩
     refine⟨by (repeat with_reducible first|refine Stp.go ?_|refine StpE.go E ?_);rfl,?_⟩
     rw[hr3.clock]
     repeat with_reducible refine Stp.go ?_
     refine Bi.neq (λhc=>absurd rfl hc) λ_=>?_
     repeat with_reducible refine Stp.go ?_
     exact fin55 _ E
    ·rw[← ht]
     refine(alike_ok (l:=pt p (oc [rg,n2,v2,i64 R2.clock] Ty.t0)::NP n2 R2::HP v2 R2::slA rg Ty.t43 2 (gv.flatMap gcell)::l) hT hi' hrT (by omega) hps (by omega) (List.mem_of_getElem? (i:=1) rfl) (List.mem_of_getElem? (i:=2) rfl) E).mono ?_
     clear E
     rintro r w_ ⟨rfl,E⟩
     exact⟨rfl,_,E⟩
   clear hJ23
   have hn0:(new28 owner).ns[0]? =some (root28 owner):=rfl
   repeat with_reducible first|refine Stp.go ?_|refine StpE.go E ?_|(refine StpW.go E ?_;clear E;intro w_ E)
   refine IxA.rw rn_len E (List.mem_of_getElem? (i:=3) rfl) (by omega) (by omega) (by show 0<1;omega) ?_
   intro a ha
   skip
   refine Fa.el ha ?_
   intro a2 ha2
   skip
   refine Fa.el ha2 ?_
   intro a3 ha3
   skip
   refine LdA.rw (i:=0) rn_len E (List.mem_of_getElem? (i:=3) rfl) ha3 hn0 (by omega) (ds:=[i64 128,i64 0,i64 0]) rfl rfl ?_
   skip
   refine(Root_ok h hi (r0:=rootN owner) rfl E).mono ?_
   clear E
   rintro r w_ ⟨rfl,E⟩
   refine⟨by (repeat with_reducible refine StpE.go E ?_);rfl,LdA.rw (i:=0) rn_len E (List.mem_of_getElem? (i:=3) rfl) ha3 hn0 (by omega) (ds:=[i64 128,i64 0,i64 0]) rfl rfl rfl,?_⟩
   have hqd:(rootN owner).qid.V=.agg #[i64 128,i64 0,i64 0]:=by
    show Value.agg #[i64 (kindOf 2147484157),i64 0,i64 0]=_
    rw[show kindOf 2147484157=128 by decide]
   rw[hqd]
   refine EqS.nS (xs:=[i64 128,i64 0,i64 0]) lv_Qid st_Qid g_Qid rfl ?_
   repeat with_reducible first|refine Stp.go ?_|refine StpE.go E ?_
   refine(alike_ok (R:=new28 owner) (hV:=.slice none 0 0) (l:=pt p (oc [rg,nV,.slice none 0 0,i64 0] Ty.t0)::NP nV (new28 owner)::HP (.slice none 0 0) (new28 owner)::slA rg Ty.t43 2 (gv.flatMap gcell)::pt q (oc [str owner,gV] Ty.t40)::l) h hi hrl (by show 1≤1000000000;omega) (λn hn=>path_size hi hn) (by have:=files_len hi;omega) (List.mem_of_getElem? (i:=1) rfl) (List.mem_of_getElem? (i:=2) rfl) E).mono ?_
   clear E
   rintro r w_ ⟨rfl,E⟩
   repeat with_reducible refine Stp.go ?_
   exact fin23 _ E
 clear hJ6
 repeat with_reducible refine StpE.go E ?_
 refine(small_ok (hg _) hb E).mono ?_
 clear E
 rintro r w_ ⟨rfl,E⟩
 refine Un.not ?_
 cases hs:decide (ssz owner gs≤2000)with
 |false=>
  simp only[Bool.not_false]
  repeat with_reducible refine Stp.go ?_
  exact fin6 true _ (λh=>by cases h) E
 |true=>
  simp only[Bool.not_true]
  repeat with_reducible refine Stp.go ?_
  refine(Few_ok hxl (hr _) E).mono ?_
  clear E
  rintro r w_ ⟨b,rfl,hb2,E⟩
  repeat with_reducible refine Stp.go ?_
  refine Un.not ?_
  repeat with_reducible refine Stp.go ?_
  exact fin6 _ _ (λhq=>⟨of_decide_eq_true hs,hb2 (by simpa using hq)⟩) E
end Go.Proofs.YtnnhmahemklnkaaGreatDoor