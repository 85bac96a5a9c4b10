/-
 Trees: opening.
-/
import Derived.Test.YthapmhhihfedcaaGreatDoorTn3
import Derived.Test.YthapmhhihfedcaaGreatDoorSh28
namespace Go.Proofs.YthapmhhihfedcaaGreatDoor
open Go Go.Sh
set_option maxRecDepth 100000
set_option linter.unusedVariables false
set_option linter.unusedSimpArgs false
variable {w0 w:World} {F:Nat→Prop} {l:List As}
variable {D:List Row} {X:PT} {T:Tr} {β:Int→Nat}
theorem u_arr4:PP.underlying Ty.f_4_int=some (.array 4 Ty.int):=by kernel_rfl
theorem sc_int:scal PP Ty.int=true:=by kernel_rfl
theorem si_int:sizeK PP Ty.int=some 1:=by kernel_rfl
theorem and3(x:Int):andI x 3=0∨andI x 3=1∨andI x 3=2∨andI x 3=3:=by
 unfold andI
 have h:(BitVec.ofInt 64 x &&& BitVec.ofInt 64 3).toNat≤3:=by
  rw[BitVec.toNat_and]
  exact Nat.and_le_right
 generalize (BitVec.ofInt 64 x &&& BitVec.ofInt 64 3).toNat=n at h
 rcases n with _|_|_|_|n
 ·exact .inl (by decide)
 ·exact .inr (.inl (by decide))
 ·exact .inr (.inr (.inl (by decide)))
 ·exact .inr (.inr (.inr (by decide)))
 ·omega
theorem Hs.blkN{ps:List PN}(E:Hs w0 F w l)(hm:NT ps∈l){n:PN}(hn:n∈ps):∃cs,w.heap[n.blk]? =some (oc cs Ty.tree_node):=by
 have h1:=(E.sat _ hm).1 (PN.as n) (List.mem_map.2 ⟨n,hn,rfl⟩)
 exact⟨_,h1.1 (nd n.blk n.mn) List.mem_cons_self⟩
theorem Hs.blkD{ds:List (Nat×MN)}(E:Hs w0 F w l)(hm:DT ds∈l){d:Nat×MN}(hd:d∈ds):∃cs,w.heap[d.1]? =some (oc cs Ty.tree_node):=
 ⟨_,(E.sat _ hm).1 (nd d.1 d.2) (List.mem_map.2 ⟨d,hd,rfl⟩)⟩

theorem hob(h:Tie D X T β)(hi:Inv T){x:Int×Hd}(hx:x∈T.hs){n:PN}{rs:List PN}(hpm:X.ps.Perm (n::rs))(E:Hs w0 F w l)(m1:nd n.blk n.mn∈l)(m2:NT rs∈l)(m3:DT X.ds∈l):∃cs,w.heap[β x.2.file]? =some (oc cs Ty.tree_node):=by
 cases hg:T.get x.2.file with
 |none=>
  obtain⟨m,hm,_⟩:=h.dead x hx (get_none.1 hg)
  exact Hs.blkD E m3 hm
 |some y=>
  obtain⟨h1,h2⟩:=hi.get.1 hg
  obtain⟨k,hk,rfl⟩:=h.mem.1 h1
  rw[← h2,h.bl k hk]
  rcases List.mem_cons.1 (hpm.mem_iff.1 hk)with rfl|hr
  ·exact⟨_,E.sat _ m1⟩
  ·exact Hs.blkN E m2 hr

theorem hptr(h:Tie D X T β)(hi:Inv T)(E:Hs w0 F w (trA X::l)){n:PN}(hn:n∈X.ps){x:Int×Hd}(hx:x∈T.hs):β x.2.file=n.blk↔x.2.file=n.f.path:=by
 constructor
 ·intro he
  cases hg:T.get x.2.file with
  |none=>
   obtain⟨m,hm,_⟩:=h.dead x hx (get_none.1 hg)
   have E1:=Hs.openT E
   refine absurd ((E1.bIx 5).bIx 5) λE2=>?_
   exact Hs.disj E2 (b:=n.blk) ⟨PN.as n,List.mem_map.2 ⟨n,hn,rfl⟩,nd n.blk n.mn,List.mem_cons_self,rfl⟩ ⟨_,List.mem_map.2 ⟨_,hm,rfl⟩,he.symm⟩
  |some y=>
   obtain⟨h1,h2⟩:=hi.get.1 hg
   obtain⟨k,hk,rfl⟩:=h.mem.1 h1
   rw[← h2,h.bl k hk]at he
   have hnd:=Hs.nodupT E
   have:k=n:=by
    have key:∀(ps:List PN),(ps.map PN.blk).Nodup→k∈ps→n∈ps→k=n:=by
     intro ps
     induction ps with
     |nil=>intro _ h;cases h
     |cons x r ih=>
      intro hp ha hb
      rw[List.map_cons,List.nodup_cons]at hp
      rcases List.mem_cons.1 ha with h1|ha<;>rcases List.mem_cons.1 hb with h2|hb
      ·rw[h1,h2]
      ·exact absurd (List.mem_map.2 ⟨n,hb,by rw[← h1,he]⟩) hp.1
      ·exact absurd (List.mem_map.2 ⟨k,ha,by rw[← h2,he]⟩) hp.1
      ·exact ih hp.2 ha hb
    exact key _ hnd hk hn
   rw[← h2,this]
 ·intro he
  rw[he];exact h.bl n hn
theorem Open_ok(h:Tie D X T β)(hi:Inv T){N:Int}(hN:N<4611686018427387904)(hlim:Lim N T){file mode:Int}{user:BA}(E:Hs w0 F w (trA X::Pool D::l)):
  Ca PP Fn.f75 #[ptr X.t,str user,i64 file,i64 mode] w λr w'=>
   r=.tuple #[i64 (T.openF user file mode).2.1,(T.openF user file mode).2.2.1.V,i64 (T.openF user file mode).2.2.2]∧Goes w0 F l D X (T.openF user file mode).1 w':=by
 refine S.f75.calls ?_
 unfold S.f75
 have hnd:=Hs.nodupT E
 repeat with_reducible (refine StpA.go E ?_;clear E;intro b_ w_ hb_ E)
 (revert b_;intro q hbq E)
 refine Eq.ef u_p_tree rfl ?_
 repeat with_reducible refine Stp.go ?_
 (replace E:=(((E.bIx 0).bIx 2).bIx 2))
 refine Bi.neq ?_ ?_<;>intro c1<;>(repeat with_reducible first|refine Stp.go ?_|refine StpE.go E ?_|(refine StpW.go E ?_;clear E;intro w_ E))
 ·have e:T.openF user file mode=(T,0,q0,20):=by unfold Tr.openF;rw[if_pos c1]
  rw[e]
  exact⟨rfl,.same h (E.bIx 2).tl⟩
 have c1:¬clrI mode 83≠0:=λhc=>hc c1
 rcases h.find hi file with⟨h1,h2⟩|⟨n,rs,hpm,hn,hpath,h1,h2⟩
 ·replace E:=Hs.openT E
  refine(find_ok E).mono ?_
  clear E
  rintro r w_ ⟨rfl,E⟩
  rw[h2]
  unfold findV
  repeat first|(with_reducible first|refine Stp.go ?_|refine StpE.go E ?_|(refine StpW.go E ?_;clear E;intro w_ E))|((with_reducible refine Bi.dec true ?_ ?_);focus exact rfl)
  have e:T.openF user file mode=(T,0,q0,4):=by unfold Tr.openF;rw[if_neg c1];simp only[h1]
  rw[e]
  exact⟨rfl,.same h ((Hs.closeT X E).bIx 2).tl⟩
 have hptr1:=λ(x:Int×Hd) (hx:x∈T.hs)=>hptr h hi E hn hx
 replace E:=Hs.openTN hpm E
 have keep:∀w,Hs w0 F w (tb X::mp X.fm (.int .i64) X.fM::mp X.gm .str X.gM::mp X.om (.int .i64) X.oM::nd n.blk n.mn::KM n::NT rs::DT X.ds::Pool D::qd0 q::l)→Goes w0 F l D X T w:=
  λw E=>.same h ((Hs.closeTN X n hpm E).bIx 2).tl
 refine(find_ok E).mono ?_
 clear E
 rintro r w_ ⟨rfl,E⟩
 rw[h2]
 unfold findV
 subst hpath
 repeat first|(with_reducible first|refine Stp.go ?_)|((with_reducible refine Bi.dec false ?_ ?_);focus exact rfl)
 (intro J20 hJ20)
 have fin20:∀b w_,b=decide (n.f.dir=true∧mode≠0)→Hs w0 F w_ (tb X::mp X.fm (.int .i64) X.fM::mp X.gm .str X.gM::mp X.om (.int .i64) X.oM::nd n.blk n.mn::KM n::NT rs::DT X.ds::Pool D::qd0 q::l)→J20 [.bool b] w_:=by
  intro b w_ hb E
  repeat with_reducible (apply hJ20;intro u_)
  by_cases c2:n.f.dir=true∧mode≠0
  ·rw[decide_eq_true c2]at hb
   subst hb
   repeat with_reducible first|refine Stp.go ?_|refine StpE.go E ?_|(refine StpW.go E ?_;clear E;intro w_ E)
   have e:T.openF user n.f.path mode=(T,0,q0,18):=by unfold Tr.openF;rw[if_neg c1];simp only[h1,if_pos c2]
   rw[e]
   exact⟨rfl,keep _ E⟩
  rw[decide_eq_false c2]at hb
  subst hb
  repeat with_reducible refine Stp.go ?_
  clear hJ20
  refine BdA.mk (cs:=#[.int .i64 4,.int .i64 2,.int .i64 6,.int .i64 1]) rfl ?_
  repeat with_reducible refine Stp.go ?_
  have hm3:=and3 mode
  refine Ix.arr (cs:=[.int .i64 4,.int .i64 2,.int .i64 6,.int .i64 1]) u_arr4 sc_int si_int (by omega) (by omega) (v:=i64 (if andI mode 3=0 then 4 else if andI mode 3=1 then 2 else if andI mode 3=2 then 6 else 1)) (by rcases hm3 with h|h|h|h<;>rw[h]<;>rfl) ?_
  (intro J30 hJ30)
  have fin30:∀w_,Hs w0 F w_ (tb X::mp X.fm (.int .i64) X.fM::mp X.gm .str X.gM::mp X.om (.int .i64) X.oM::nd n.blk n.mn::KM n::NT rs::DT X.ds::Pool D::qd0 q::l)→J30 [i64 (needs mode)] w_:=by
   intro w_ E
   repeat with_reducible (apply hJ30;intro u_)
   clear hJ30
   (intro J34 hJ34)
   have fin34:∀b w_,b=decide (T.may user n.f (needs mode)=false∨(andI mode 64≠0∧T.may user (T.parent n.f) 2=false))→Hs w0 F w_ (tb X::mp X.fm (.int .i64) X.fM::mp X.gm .str X.gM::mp X.om (.int .i64) X.oM::nd n.blk n.mn::KM n::NT rs::DT X.ds::Pool D::qd0 q::l)→J34 [.bool b] w_:=by
    intro b w_ hb E
    repeat with_reducible (apply hJ34;intro u_)
    by_cases c3:T.may user n.f (needs mode)=false∨(andI mode 64≠0∧T.may user (T.parent n.f) 2=false)
    ·rw[decide_eq_true c3]at hb
     subst hb
     repeat with_reducible first|refine Stp.go ?_|refine StpE.go E ?_|(refine StpW.go E ?_;clear E;intro w_ E)
     have e:T.openF user n.f.path mode=(T,0,q0,17):=by unfold Tr.openF;rw[if_neg c1];simp only[h1,if_neg c2,if_pos c3]
     rw[e]
     exact⟨rfl,keep _ E⟩
    rw[decide_eq_false c3]at hb
    subst hb
    repeat with_reducible first|refine Stp.go ?_|refine StpE.go E ?_
    clear hJ34
    refine Rg.mp (m:=X.om) E u_mopen ?_
    clear E
    intro it es clock w_ hit hes hw hok E
    refine⟨λl1 w1=>l1=[]∧∃ms,Wlk es clock ms∧(∀e∈ms,andI n.f.mode 536870912≠0→∀hv,e.val=HV.V hv→hv.blk≠n.blk)∧
     Hs w0 F w1 (pt it (itO X.om clock ms)::pt X.om (mapO es clock)::tb X::mp X.fm (.int .i64) X.fM::mp X.gm .str X.gM::nd n.blk n.mn::KM n::NT rs::DT X.ds::Pool D::qd0 q::l),λ_ w1=>itM it (es.size+1) w1,⟨rfl,[],hw,(λ_ h=>by cases h),E⟩,?_⟩
    clear E hw
    rintro u w1 ⟨-,ms,hw,hno,E⟩
    refine Nx.mp E hw ?_ ?_
    ·intro e w_ he hn2 hw2 E2
     have hm:itM it (es.size+1) w1=es.size+1-ms.length:=itM_eq E
     have hle:=hw2.le
     simp only[List.length_append,List.length_cons,List.length_nil]at hle
     clear E
     have E:=E2
     clear E2
     repeat with_reducible refine Stp.go ?_
     refine Ent.mp E hw2 ?_
     have hmem:(e.key,e.val)∈X.oM:=by rw[← hes];exact List.mem_map.2 ⟨e,he,rfl⟩
     obtain⟨y,hy,hye⟩:=List.mem_map.1 hmem
     obtain⟨x,hx,hxe⟩:=List.mem_map.1 (h.ol.mem_iff.1 hy)
     have hval:e.val=HV.V ⟨β x.2.file,x.2.mode,x.2.user⟩:=by
      have:=congrArg Prod.snd hye
      rw[← hxe]at this
      exact this.symm
     rw[hval]
     repeat with_reducible first|refine Stp.go ?_|(refine StpW.go E ?_;clear E;intro w_ E)|(refine StpA.go E ?_;clear E;intro b_ w_ hb_ E)
     (revert b_;intro t hbt E)
     (intro J58 hJ58)
     have fin58:∀b w_,b=decide (x.2.file=n.f.path∧andI n.f.mode 536870912≠0)→Hs w0 F w_ (pt t (oc [ptr (β x.2.file),i64 x.2.mode,str x.2.user] Ty.t44)::pt it (itO X.om clock (ms++[e]))::pt X.om (mapO es clock)::tb X::mp X.fm (.int .i64) X.fM::mp X.gm .str X.gM::nd n.blk n.mn::KM n::NT rs::DT X.ds::Pool D::qd0 q::l)→J58 [.bool b] w_:=by
      intro b w_ hb E
      repeat with_reducible (apply hJ58;intro u_)
      by_cases c4:x.2.file=n.f.path∧andI n.f.mode 536870912≠0
      ·rw[decide_eq_true c4]at hb
       subst hb
       repeat with_reducible first|refine Stp.go ?_|refine StpE.go E ?_|(refine StpW.go E ?_;clear E;intro w_ E)
       have e:T.openF user n.f.path mode=(T,0,q0,19):=by unfold Tr.openF;rw[if_neg c1];simp only[h1,if_neg c2,if_neg c3];rw[if_pos ⟨c4.2,x,hx,c4.1⟩]
       rw[e]
       replace E:=Hs.mapBack (m:=X.om) E.tl hes hw2 hok
       replace E:=(E.bIx 1).tl
       (replace E:=((((E.bIx 0).bIx 3).bIx 3).bIx 3))
       exact⟨rfl,keep _ E⟩
      ·rw[decide_eq_false c4]at hb
       subst hb
       repeat with_reducible refine Stp.go ?_
       refine⟨⟨rfl,_,hw2,?_,E.tl⟩,?_⟩
       ·intro e' he' hex hv hev
        rcases List.mem_append.1 he' with h'|h'
        ·exact hno e' h' hex hv hev
        ·rw[List.mem_singleton.1 h',hval]at hev
         have:hv.blk=β x.2.file:=by
          simp only[HV.V,Value.agg.injEq,Array.mk.injEq,List.cons.injEq,Value.pointer.injEq,Option.some.injEq,Addr.mk.injEq]at hev
          exact hev.1.1.symm
         rw[this]
         exact λhc=>c4 ⟨(hptr1 x hx).1 hc,hex⟩
       ·show itM it (es.size+1) w_<itM it (es.size+1) w1
        rw[hm,itM_eq E.tl]
        simp;omega
     clear hJ58
     obtain⟨cs1,ho1⟩:=hob h hi hx hpm E (by simp) (by simp) (by simp)
     have ho2:w_.heap[n.blk]? =some (oc n.mn.C Ty.tree_node):=E.sat (nd n.blk n.mn) (by simp)
     repeat with_reducible first|refine Stp.go ?_|refine StpE.go E ?_
     refine Eq.pp u_p_node n_node ho1 ho2 ?_
     by_cases c5:β x.2.file=n.blk
     ·rw[decide_eq_true (by rw[c5])]
      repeat with_reducible first|refine Stp.go ?_|refine StpE.go E ?_
      refine Bi.neq ?_ ?_<;>intro c6<;>(repeat with_reducible refine Stp.go ?_)
      ·exact fin58 _ _ (by rw[decide_eq_true ⟨(hptr1 x hx).1 c5,c6⟩]) E
      ·exact fin58 _ _ (by rw[decide_eq_false λhc=>hc.2 c6]) E
     ·rw[decide_eq_false λhc=>c5 (by simpa using hc)]
      repeat with_reducible refine Stp.go ?_
      exact fin58 _ _ (by rw[decide_eq_false λhc=>c5 ((hptr1 x hx).2 hc.1)]) E
    ·intro hp
     repeat with_reducible refine Stp.go ?_
     have c4:¬(andI n.f.mode 536870912≠0∧∃x∈T.hs,x.2.file=n.f.path):=by
      rintro⟨hex,x,hx,hxf⟩
      have h2:(x.1,(⟨β x.2.file,x.2.mode,x.2.user⟩:HV))∈X.ol:=h.ol.mem_iff.2 (List.mem_map.2 ⟨x,hx,rfl⟩)
      have h3:(i64 x.1,HV.V ⟨β x.2.file,x.2.mode,x.2.user⟩)∈X.oM:=List.mem_map.2 ⟨_,h2,rfl⟩
      rw[← hes]at h3
      obtain⟨e,he,hee⟩:=List.mem_map.1 h3
      exact hno e (hp.mem_iff.1 he) hex _ (congrArg Prod.snd hee) ((hptr1 x hx).2 hxf)
     replace E:=Hs.mapBack (m:=X.om) E hes hw hok
     replace E:=(E.bIx 1).tl
     (replace E:=((((E.bIx 0).bIx 3).bIx 3).bIx 3))
     refine(room_ok E).mono ?_
     clear E
     rintro r w_ ⟨rfl,E⟩
     have hlen:=h.len
     by_cases c5:X.ol.length<64
     rotate_left
     ·rw[decide_eq_false c5]
      repeat with_reducible first|refine Stp.go ?_|refine StpE.go E ?_|(refine StpW.go E ?_;clear E;intro w_ E)
      have e:T.openF user n.f.path mode=(T,0,q0,3):=by unfold Tr.openF;rw[if_neg c1];simp only[h1,if_neg c2,if_neg c3,if_neg c4];rw[if_pos (by omega)]
      rw[e]
      exact⟨rfl,keep _ E⟩
     rw[decide_eq_true c5]
     repeat with_reducible refine Stp.go ?_
     have c5':¬ ¬T.hs.length<64:=by omega
     (intro J102 hJ102)
     have fin102:∀(X1:PT) (T1:Tr) (n1:PN) w_,X1.t=X.t→X1.om=X.om→X1.ol=X.ol→Tie D X1 T1 β→Inv T1→X1.ps.Perm (n1::rs)→n1.blk=n.blk→n1.f.path=n.f.path→
       T.openF user n.f.path mode=((T1.hold ⟨n.f.path,mode,user⟩).1,(T1.hold ⟨n.f.path,mode,user⟩).2,n1.f.qid,0)→
       Hs w0 F w_ (tb X1::mp X1.fm (.int .i64) X1.fM::mp X1.gm .str X1.gM::mp X1.om (.int .i64) X1.oM::nd n1.blk n1.mn::KM n1::NT rs::DT X1.ds::Pool D::qd0 q::l)→J102 [] w_:=by
      intro X1 T1 n1 w_ e1 e2 e3 ht1 hi1 hpm1 e4 e5 e6 E
      repeat with_reducible (apply hJ102;intro u_)
      clear hJ102
      (replace E:=(((E.bIx 4).bIx 4).bIx 2))
      rw[← e1,← e4]
      refine(handle_ok (m:=n1.mn) (by rw[e3];omega) E).mono ?_
      clear E
      rintro r w_ ⟨hh,hfree,rfl,E⟩
      repeat with_reducible first|refine Stp.go ?_|refine StpE.go E ?_|(refine StpW.go E ?_;clear E;intro w_ E)
      obtain⟨g1,g2⟩:=ht1.hold hi1 hfree (n:=n1) (hpm1.mem_iff.2 List.mem_cons_self) (mode:=mode) (user:=user)
      rw[e5]at g1 g2
      rw[e6]
      refine⟨by rw[← g1];rfl,D,{X1 with ol:=putL X1.ol hh ⟨n1.blk,mode,user⟩},β,λ_ h=>h,e1.symm▸rfl,g2,?_⟩
      (replace E:=(((((((((E.bIx 8).bIx 8).bIx 8).bIx 8).bIx 6).bIx 6).bIx 8).bIx 8).bIx 8))
      exact((Hs.closeTN {X1 with ol:=putL X1.ol hh ⟨n1.blk,mode,user⟩} n1 hpm1 E).bIx 2).tl
     clear hJ102
     (intro J112 hJ112)
     have fin112:∀b w_,b=decide (andI mode 16≠0∧andI n.f.mode 1073741824=0)→Hs w0 F w_ (tb X::mp X.fm (.int .i64) X.fM::mp X.gm .str X.gM::mp X.om (.int .i64) X.oM::nd n.blk n.mn::KM n::NT rs::DT X.ds::Pool D::qd0 q::l)→J112 [.bool b] w_:=by
      intro b w_ hb E
      repeat with_reducible (apply hJ112;intro u_)
      clear hJ112
      by_cases c6:andI mode 16≠0∧andI n.f.mode 1073741824=0
      rotate_left
      ·rw[decide_eq_false c6]at hb
       subst hb
       repeat with_reducible refine Stp.go ?_
       exact fin102 X T n _ rfl rfl rfl h hi hpm rfl rfl (by unfold Tr.openF;rw[if_neg c1];simp only[h1,if_neg c2,if_neg c3,if_neg c4,if_neg c5',if_neg c6]) E
      rw[decide_eq_true c6]at hb
      subst hb
      repeat with_reducible first|refine Stp.go ?_|(refine StpW.go E ?_;clear E;intro w_ E)
      refine BdS.one E u_sl_p_node e_p_node rfl ?_
      clear E
      intro sv w_ E
      (replace E:=(((E.bIx 7).bIx 7).bIx 7))
      replace E:=wr_lemma (S:=λm:PN=>{m with dv:=.slice none 0 0,f:={m.f with data:=emp}}) (n:=n) E hnd hpm
      (replace E:=((E.bIx 0).bIx 2))
      have hv0:=h.clock
      have hcl:=hlim.clock
      have hc0:=hi.clock
      refine(change_ok (X:=X) (bs:=[n.blk]) (RdS.by1 sv E.tl.tl) ?_ (by omega) ?_ (by simp) E).mono ?_
      ·intro b hb
       rw[List.mem_singleton.1 hb,updB_blk]
       ·exact List.mem_map.2 ⟨n,hn,rfl⟩
       ·intro m;rfl
      ·intro m hm
       obtain⟨m',hm',rfl⟩:=List.mem_map.1 hm
       have h1:=lim_fit hi hN hlim h m' hm'
       split<;>exact h1
      clear E
      rintro r w_ E
      have e3:chgB (X.clock+1) user [n.blk] (updB X.ps n.blk λm=>{m with dv:=.slice none 0 0,f:={m.f with data:=emp}})=updB X.ps n.blk λm=>PN.touch (X.clock+1) user {m with dv:=.slice none 0 0,f:={m.f with data:=emp}}:=updB_updB λ_=>rfl
      rw[e3]at E
      replace E:=(E.bIx 2).tl
      (replace E:=(((((E.bIx 1).bIx 4).bIx 4).bIx 4).bIx 4))
      have hpm1:(updB X.ps n.blk λm=>PN.touch (X.clock+1) user {m with dv:=.slice none 0 0,f:={m.f with data:=emp}}).Perm (PN.touch (X.clock+1) user {n with dv:=.slice none 0 0,f:={n.f with data:=emp}}::rs):=updB_perm (g:=λm:PN=>PN.touch (X.clock+1) user {m with dv:=.slice none 0 0,f:={m.f with data:=emp}}) hnd hpm
      replace E:=Hs.openTN (X:={X with ps:=updB X.ps n.blk λm=>PN.touch (X.clock+1) user {m with dv:=.slice none 0 0,f:={m.f with data:=emp}},clock:=X.clock+1}) hpm1 (Hs.closeT {X with ps:=updB X.ps n.blk λm=>PN.touch (X.clock+1) user {m with dv:=.slice none 0 0,f:={m.f with data:=emp}},clock:=X.clock+1} E)
      have e2:(T.change user [n.f.path]).upd n.f.path (λn=>{n with data:=emp})={T with ns:=updN T.ns n.f.path (λm=>{touchN (X.clock+1) user m with data:=emp}),clock:=X.clock+1}:=by
       rw[change_one,h.clock]
       unfold Tr.upd
       simp only[]
       rw[updN_updN (f1:=touchN (T.clock+1) user) (λn=>rfl)]
      refine fin102 {X with ps:=updB X.ps n.blk λm=>PN.touch (X.clock+1) user {m with dv:=.slice none 0 0,f:={m.f with data:=emp}},clock:=X.clock+1} ((T.change user [n.f.path]).upd n.f.path λn=>{n with data:=emp}) (PN.touch (X.clock+1) user {n with dv:=.slice none 0 0,f:={n.f with data:=emp}}) _ rfl rfl rfl ?_ ?_ hpm1 rfl rfl ?_ E
      ·rw[e2]
       exact h.upd hi hnd hn (X.clock+1) (G:=λm=>PN.touch (X.clock+1) user {m with dv:=.slice none 0 0,f:={m.f with data:=emp}}) (g:=λm=>{touchN (X.clock+1) user m with data:=emp})
        (λ_=>⟨rfl,rfl,rfl⟩) (λ_=>rfl) (λ_=>⟨rfl,rfl,rfl⟩) (λx hx=>hx) (.inl ⟨rfl,_,_,rfl⟩)
      ·rw[e2]
       refine hi.upd (X.clock+1) (by omega) (λ_ _ _=>⟨rfl,rfl,rfl,rfl⟩) (λn hn _=>⟨λ_=>rfl,Nat.zero_le _⟩) λn hn _=>?_
       have:=hi.form n hn
       exact⟨this.1,this.2.1,this.2.2.1,by show 0≤n.vers+1;omega,by show 0≤X.clock+1;omega⟩
      ·unfold Tr.openF;rw[if_neg c1];simp only[h1,if_neg c2,if_neg c3,if_neg c4,if_neg c5',if_pos c6]
       rfl
     clear hJ112
     repeat with_reducible refine Stp.go ?_
     refine Bi.neq ?_ ?_<;>intro c6<;>(repeat with_reducible first|refine Stp.go ?_|refine StpE.go E ?_)
     ·refine Bi.eql ?_ ?_<;>intro c7<;>(repeat with_reducible refine Stp.go ?_)
      ·exact fin112 _ _ (by rw[decide_eq_true ⟨c6,c7⟩]) E
      ·exact fin112 _ _ (by rw[decide_eq_false λhc=>c7 hc.2]) E
     ·exact fin112 _ _ (by rw[decide_eq_false λhc=>hc.1 c6]) E
   clear hJ34
   refine(may_ok (m:=n.mn) (D:=D) (by simp) h.gs E).mono ?_
   clear E
   rintro r w_ ⟨rfl,E⟩
   have hmay:permF n.mn.mode (decide (user=n.mn.owner)) (memberG T.gs user n.mn.group) (needs mode)=T.may user n.f (needs mode):=rfl
   rw[hmay]
   cases hm:T.may user n.f (needs mode)with
   |false=>(repeat with_reducible refine Stp.go ?_);exact fin34 _ _ (by rw[decide_eq_true (.inl hm)]) E
   |true=>
    have hmn:¬T.may user n.f (needs mode)=false:=by rw[hm];simp
    repeat with_reducible refine Stp.go ?_
    refine Bi.neq ?_ ?_<;>intro c6<;>(repeat with_reducible first|refine Stp.go ?_|refine StpE.go E ?_)
    rotate_left
    ·exact fin34 _ _ (by rw[decide_eq_false λhc=>hc.elim hmn λh=>h.1 c6]) E
    have hp0:n.f.path≠0:=λh0=>by
     have hd:=(hi.rootD n.f (h.mem.2 ⟨n,hn,rfl⟩) h0).1
     refine c2 ⟨hd,λhm0=>?_⟩
     rw[hm0]at c6
     exact c6 (by decide)
    obtain⟨u,rs',hpr,hu,hub,hup,hne,hud,hgu,hpar⟩:=h.parent hi hpm hp0
    replace E:=Hs.openN (E.bIx 6) hpr
    skip
    have hub2:n.mn.up=some u.blk:=hub
    rw[hub2]
    refine(may_ok (m:=u.mn) (D:=D) (by simp) h.gs E).mono ?_
    clear E
    rintro r w_ ⟨rfl,E⟩
    have hmay2:permF u.mn.mode (decide (user=u.mn.owner)) (memberG T.gs user u.mn.group) 2=T.may user (T.parent n.f) 2:=by rw[hpar];rfl
    rw[hmay2]
    replace E:=Hs.permN (Hs.closeN u E) hpr.symm
    (replace E:=(((((((E.bIx 0).bIx 6).bIx 6).bIx 6).bIx 6).bIx 6).bIx 6))
    cases hm2:T.may user (T.parent n.f) 2 with
    |false=>(repeat with_reducible refine Stp.go ?_);exact fin34 _ _ (by rw[decide_eq_true (.inr ⟨c6,hm2⟩)]) E
    |true=>(repeat with_reducible refine Stp.go ?_);exact fin34 _ _ (by rw[decide_eq_false λhc=>hc.elim hmn λh=>by rw[hm2]at h;cases h.2]) E
  clear hJ30
  repeat with_reducible refine Stp.go ?_
  refine Bi.neq ?_ ?_<;>intro c6<;>(repeat with_reducible refine Stp.go ?_)
  ·have:=fin30 _ E
   unfold needs at this
   rw[if_neg c6]at this
   exact this
  ·have:=fin30 _ E
   unfold needs at this
   rw[if_pos c6]at this
   exact this
 clear hJ20
 refine(isDir_ok (m:=n.mn) E).mono ?_
 clear E
 rintro r w_ ⟨rfl,E⟩
 cases hd:isD n.mn.mode with
 |true=>
  repeat with_reducible refine Stp.go ?_
  refine Bi.neq ?_ ?_<;>intro c6<;>(repeat with_reducible refine Stp.go ?_)
  ·exact fin20 _ _ (by rw[decide_eq_true ⟨hd,c6⟩]) E
  ·exact fin20 _ _ (by rw[decide_eq_false λhc=>hc.2 c6]) E
 |false=>
  repeat with_reducible refine Stp.go ?_
  exact fin20 _ _ (by rw[decide_eq_false λhc=>by rw[show n.f.dir=false from hd]at hc;cases hc.1]) E
set_option maxRecDepth 100000
set_option linter.unusedVariables false
set_option linter.unusedSimpArgs false
variable {w0 w:World} {F:Nat→Prop} {l:List As}

def splitB:List UInt8→List (List UInt8)
 |[]=>[[]]
 |x::r=>if x=47 then[]::splitB r else match splitB r with|[]=>[[x]]|p::ps=>(x::p)::ps
theorem splitB_none:∀{l:List UInt8},Lib.indexByte l 47= -1→splitB l=[l]
 |[],_=>rfl
 |x::r,h=>by
  unfold Lib.indexByte at h
  by_cases hx:x=47
  ·rw[if_pos (by simp[hx])]at h;cases h
  ·rw[if_neg (by simp[hx])]at h
   have hr:Lib.indexByte r 47= -1:=by
    split at h
    ·rename_i h2;simpa using h2
    ·rename_i h2
     have:=Lib.indexByte_ge r 47
     omega
   unfold splitB
   rw[if_neg hx,splitB_none hr]
theorem splitB_some:∀{l:List UInt8} {i:Nat},Lib.indexByte l 47=i→i<l.length∧splitB l=l.take i::splitB (l.drop (i+1))
 |[],i,h=>by unfold Lib.indexByte at h;omega
 |x::r,i,h=>by
  unfold Lib.indexByte at h
  by_cases hx:x=47
  ·rw[if_pos (by simp[hx])]at h
   obtain rfl:i=0:=by omega
   refine⟨by simp,?_⟩
   rw[splitB,if_pos hx]
   rfl
  ·rw[if_neg (by simp[hx])]at h
   split at h
   ·omega
   ·rename_i h2
    have h2:Lib.indexByte r 47≠ -1:=by simpa using h2
    have:=Lib.indexByte_ge r 47
    obtain⟨j,rfl⟩:∃j,i=j+1:=⟨i-1,by omega⟩
    obtain⟨h3,h4⟩:=splitB_some (l:=r) (i:=j) (by omega)
    refine⟨by simp;omega,?_⟩
    rw[splitB,if_neg hx,h4]
    rfl
theorem splitB_ne(l:List UInt8):splitB l≠[]:=by
 cases l with
 |nil=>simp[splitB]
 |cons x r=>
  unfold splitB
  split
  ·simp
  ·cases splitB r<;>simp
abbrev bmk(l:List UInt8):BA:=⟨l.toArray⟩
def splitS(s:BA):List BA:=(splitB s.data.toList).map bmk
abbrev sep:BA:=⟨#[47]⟩
def boxM(a:Nat)(w:World):Nat:=match w.heap[a]? with
 |some (Obj.cells cs _ _)=>match cs[0]? with
  |some (Value.string s)=>s.size
  |_=>0
 |_=>0
theorem boxM_eq{a:Nat}{s:BA}{r:List As}[h:FPt l a (oc [str s] Ty.t9) r](E:Hs w0 F w l):boxM a w=s.size:=by
 unfold boxM
 rw[show w.heap[a]? =some (oc [str s] Ty.t9)from E.sat _ h.mem]
 rfl
abbrev splitF(a1 a2 a3:Nat):Value:=.func (.func Fn.f52) #[] #[ptr a1,ptr a2,ptr a3]
theorem b_split1:hasBody PP Fn.f52=true:=by kernel_rfl
theorem Index_ok{s:BA}(E:Hs w0 F w l):Ca PP Fn.strings_Index #[str s,str sep] w λr w'=>r=i64 (Lib.indexByte s.data.toList 47)∧Hs w0 F w' l:=by
 refine Calls.mono (Tryz.strings_Index_one s 47 w) ?_
 rintro e w' ⟨rfl,rfl⟩
 exact⟨_,rfl,rfl,E⟩
theorem permB(B ks rest:List As):(B++(ks++rest)).Perm (ks++([]++(B++rest))):=by
 rw[List.nil_append,← List.append_assoc,← List.append_assoc]
 exact List.perm_append_comm.append_right rest
theorem split_iter {a1 a2 a3 : Nat} {s : BA} (hs : s.size≤1000000000) :
    Iter PP w0 F (splitF a1 a2 a3) str (InOrder (splitS s)) (· = splitS s) [pt a1 (oc [str sep] Ty.t9),pt a2 (oc [str s] Ty.t9),pt a3 (oc [i64 0] Ty.int)] [] []:=by
  intro K S_ y w ks rest hy h0 E
  refine CaV.mk b_split1 ?_
  refine S.f52.calls (a0:=y) (a1:=ptr a1) (a2:=ptr a2) (a3:=ptr a3) ?_
  unfold S.f52
  have E1 : Hs w0 F w (pt a1 (oc [str sep] Ty.t9)::pt a2 (oc [str s] Ty.t9)::pt a3 (oc [i64 0] Ty.int)::(ks++rest)):=E.perm (by
    rw [← List.append_assoc]
    exact (List.perm_append_comm (l₁:=ks)).append_right rest)
  clear E
  have E:=E1
  clear E1
  repeat first|(with_reducible first|refine Stp.go ?_|refine StpE.go E ?_)|((with_reducible refine Bi.dec false ?_ ?_); focus exact rfl)
  refine ⟨fun l1 w1=>l1 = []∧∃ (k : Nat) (rem : BA) (ks : List As),(splitS s).drop k = splitS rem∧rem.size≤1000000000∧K ((splitS s).take k) ks∧Hs w0 F w1 (pt a1 (oc [str sep] Ty.t9)::pt a2 (oc [str rem] Ty.t9)::pt a3 (oc [i64 0] Ty.int)::(ks++rest)),fun _ w1=>boxM a2 w1,
    ⟨rfl,0,s,ks,rfl,hs,h0,E⟩,?_⟩
  clear E h0 ks
  rintro u w1 ⟨-,k,rem,ks,hk,hrem,hK,E⟩
  repeat with_reducible refine StpE.go E ?_
  refine (Index_ok E).mono ?_
  have hbm : boxM a2 w1 = rem.size:=boxM_eq E
  clear E
  rintro r w_ ⟨rfl,E⟩
  have hlen : ((splitS s).take k).length = k:=by
    rw [List.length_take]
    have h1 : (splitS rem).length ≠ 0:=by unfold splitS; rw [List.length_map]; exact fun h=>splitB_ne _ (List.length_eq_zero_iff.1 h)
    rw [← hk,List.length_drop] at h1
    omega
  refine Bi.lss ?_ ?_ <;> intro hlt <;> (repeat with_reducible first|refine Stp.go ?_|refine StpE.go E ?_)
  · have hi : Lib.indexByte rem.data.toList 47 = -1:=by have:=Lib.indexByte_ge rem.data.toList 47; omega
    have hsp : splitS rem = [rem]:=by unfold splitS; rw [splitB_none hi]; rfl
    have hx : (splitS s)[k]? = some rem:=by
      have:=congrArg (·[0]?) hk
      simpa [hsp] using this
    have E1 : Hs w0 F w_ (ks++([]++([pt a1 (oc [str sep] Ty.t9),pt a2 (oc [str rem] Ty.t9),pt a3 (oc [i64 0] Ty.int)]++rest))):=E.perm (permB [_,_,_] ks rest)
    refine (hy ((splitS s).take k) rem w_ ks _ ⟨by rw [hlen],by rw [hlen]; exact hx⟩ hK E1).mono ?_
    have hw : (splitS s).take k++[rem] = splitS s:=by
      conv=>rhs; rw [← List.take_append_drop k (splitS s),hk,hsp]
    have hdrop : ∀ (ks' : List As) w,Hs w0 F w (ks'++([]++([pt a1 (oc [str sep] Ty.t9),pt a2 (oc [str rem] Ty.t9),pt a3 (oc [i64 0] Ty.int)]++rest)))→Hs w0 F w (ks'++([]++rest)) :=
      fun ks' w E=>E.drop (List.Sublist.append_left (List.sublist_append_right _ _) _)
    clear E E1
    rintro r w_ (⟨rfl,ks',hk',E'⟩ | ⟨rfl,ks',hs',E'⟩)
    · rw [hw] at hk'
      exact .inl ⟨_,ks',rfl,hk',hdrop _ _ E'⟩
    · exact .inr ⟨_,ks',hs',hdrop _ _ E'⟩
  · obtain ⟨i,hi⟩ : ∃ i : Nat,Lib.indexByte rem.data.toList 47 = i:=⟨(Lib.indexByte rem.data.toList 47).toNat,by omega⟩
    obtain ⟨h1,h2⟩:=splitB_some hi
    have h1 : i < rem.size:=h1
    rw [hi]
    have hsp : splitS rem = bmk (rem.data.toList.take i)::splitS (bmk (rem.data.toList.drop (i + 1))):=by unfold splitS; rw [h2]; rfl
    have hx : (splitS s)[k]? = some (bmk (rem.data.toList.take i)):=by
      have:=congrArg (·[0]?) hk
      simpa [hsp] using this
    refine Bi.add (by omega) ?_
    refine SlS.pre (by omega) (by omega) ?_
    have e1 : rem.extract 0 ((i : Int) + 0).toNat = bmk (rem.data.toList.take i):=ba_ext (by simp)
    rw [e1]
    have E1 : Hs w0 F w_ (ks++([]++([pt a1 (oc [str sep] Ty.t9),pt a2 (oc [str rem] Ty.t9),pt a3 (oc [i64 0] Ty.int)]++rest))):=E.perm (permB [_,_,_] ks rest)
    refine (hy ((splitS s).take k) (bmk (rem.data.toList.take i)) w_ ks _ ⟨by rw [hlen],by rw [hlen]; exact hx⟩ hK E1).mono ?_
    clear E E1
    have htk : (splitS s).take k++[bmk (rem.data.toList.take i)] = (splitS s).take (k + 1):=by rw [List.take_add_one,hx]; rfl
    rw [htk]
    rintro r w_ (⟨rfl,ks',hk',E'⟩ | ⟨rfl,ks',hs',E'⟩)
    · have E : Hs w0 F w_ (pt a1 (oc [str sep] Ty.t9)::pt a2 (oc [str rem] Ty.t9)::pt a3 (oc [i64 0] Ty.int)::(ks'++rest)):=E'.perm (by
        rw [List.nil_append,← List.append_assoc]
        exact (List.perm_append_comm (l₁:=ks')).append_right rest)
      clear E'
      repeat with_reducible first|refine Stp.go ?_|refine StpE.go E ?_
      refine Bi.add (by have : ByteArray.size sep = 1:=rfl; omega) ?_
      refine SlS.suf (by omega) (by have : ByteArray.size sep = 1:=rfl; omega) ?_
      have e2 : rem.extract ((i : Int) + (ByteArray.size sep : Nat)).toNat rem.size = bmk (rem.data.toList.drop (i + 1)):=ba_ext (by
        have : ((i : Int) + (ByteArray.size sep : Nat)).toNat = i + 1:=by have : ByteArray.size sep = 1:=rfl; omega
        rw [this]
        simp
        refine List.take_of_length_le ?_
        rw [List.length_drop,Array.length_toList]
        exact Nat.le_refl _)
      rw [e2]
      repeat with_reducible (refine StpW.go E ?_; clear E; intro w_ E)
      have hsz : (bmk (rem.data.toList.drop (i + 1))).size = rem.size - (i + 1):=by
        show (rem.data.toList.drop (i + 1)).toArray.size = _
        rw [List.size_toArray,List.length_drop,Array.length_toList]; rfl
      refine ⟨⟨rfl,k + 1,_,ks',?_,by omega,hk',E⟩,?_⟩
      · have:=congrArg (List.drop 1) hk
        rw [List.drop_drop,hsp] at this
        rw [Nat.add_comm]
        simpa [Nat.add_comm] using this
      · show boxM a2 w_ < boxM a2 w1
        rw [hbm,boxM_eq E,hsz]
        omega
    · (repeat with_reducible refine Stp.go ?_)
      exact .inr ⟨_,ks',hs',E'.drop (List.Sublist.append_left (List.sublist_append_right _ _) _)⟩
set_option maxRecDepth 100000
set_option linter.unusedVariables false
set_option linter.unusedSimpArgs false
variable {w0 w:World} {F:Nat→Prop} {l:List As}
abbrev dot1:BA:=⟨#[46]⟩
abbrev dot2:BA:=⟨#[46,46]⟩
def absP(s:BA):Bool:=Lib.hasPrefix s.data.toList sep.data.toList

def stepC(a:Bool)(l:List BA)(s:BA):List BA:=
 if s=emp∨s=dot1 then l else
 if s≠dot2 then l++[s]else
 if 0<l.length∧l[l.length-1]? ≠some dot2 then l.take (l.length-1)else
 if a=false then l++[s]else l
def elemsC(s:BA):List BA:=(splitS s).foldl (stepC (absP s)) []
def joinS (l : List BA) : BA:=⟨(Lib.join (l.map (·.data.toList)) sep.data.toList).toArray⟩
def cleanS(s:BA):BA:=if absP s=true then sep++joinS (elemsC s)else if joinS (elemsC s)=emp then dot1 else joinS (elemsC s)
theorem stepC_len(a:Bool)(l:List BA)(s:BA):(stepC a l s).length≤l.length+1:=by
 unfold stepC
 split
 ·omega
 split
 ·simp
 split
 ·simp;omega
 split
 ·simp
 ·omega
theorem foldC_len(a:Bool):∀(xs l:List BA),(xs.foldl (stepC a) l).length≤l.length+xs.length
 |[],_=>Nat.le_refl _
 |x::xs,l=>by
  have:=foldC_len a xs (stepC a l x)
  have:=stepC_len a l x
  simp only[List.foldl_cons,List.length_cons]
  omega
theorem HasPrefix_ok{s p:BA}(E:Hs w0 F w l):Ca PP Fn.strings_HasPrefix #[str s,str p] w λr w'=>r=.bool (Lib.hasPrefix s.data.toList p.data.toList)∧Hs w0 F w' l:=by
 refine Calls.mono (Tryz.strings_HasPrefix s p w) ?_
 rintro e w' ⟨rfl,rfl⟩
 exact⟨_,rfl,rfl,E⟩
theorem SplitSeq_ok{s:BA}(E:Hs w0 F w l):Ca PP Fn.f64 #[str s,str sep] w λr w'=>∃a1 a2 a3,r=splitF a1 a2 a3∧Hs w0 F w' ([pt a1 (oc [str sep] Ty.t9),pt a2 (oc [str s] Ty.t9),pt a3 (oc [i64 0] Ty.int)]++l):=by
 refine S.f64.calls ?_
 unfold S.f64
 refine Ca.mono (k:=λr w'=>∃a1 a2 a3,r=splitF a1 a2 a3∧Hs w0 F w' ([pt a1 (oc [str sep] Ty.t9),pt a2 (oc [str s] Ty.t9),pt a3 (oc [i64 0] Ty.int)]++l)) ?_ λr w' h=>h
 refine S.f81.calls ?_
 unfold S.f81
 refine StpA.go E ?_
 intro a2 w_ h2 E
 refine StpA.go E ?_
 intro a1 w_ h1 E
 refine StpA.go E ?_
 intro a3 w_ h3 E
 exact⟨a1,a2,a3,rfl,by (replace E:=(((E.bIx 0).bIx 2).bIx 2));exact E⟩
theorem Join_ok {v : Value} {xs : List BA} (hn : xs.length≤140737488355328) (hj : (Lib.join (xs.map (·.data.toList)) sep.data.toList).length≤140737488355328) (E : Hs w0 F w l) (h : RdS w0 F l 1 xs.length v (xs.map str)) :
  Ca PP Fn.strings_Join #[v,str sep] w fun r w'=>r = str (joinS xs)∧Hs w0 F w' l:=by
 obtain ⟨a,c,rfl,hc,-,hx⟩:=h
 rcases hx with h0 | ⟨q,rfl,h0 | ⟨b,o,rfl,hq⟩⟩
 ·have : xs = []:=by simpa using h0
  subst this
  refine Calls.mono (Tryz.strings_Join_none a c sep w) ?_
  rintro e w' ⟨rfl,rfl⟩
  exact ⟨_,rfl,rfl,E⟩
 ·have : xs = []:=by simpa using h0
  subst this
  refine Calls.mono (Tryz.strings_Join_none _ c sep w) ?_
  rintro e w' ⟨rfl,rfl⟩
  exact ⟨_,rfl,rfl,E⟩
 ·by_cases hxs : xs = []
  ·subst hxs
   refine Calls.mono (Tryz.strings_Join_none _ c sep w) ?_
   rintro e w' ⟨rfl,rfl⟩
   exact ⟨_,rfl,rfl,E⟩
  have hcell : ∀ (j : Nat) x,xs[j]? = some x→w.cell? ⟨b,o + j,none⟩ = some (.string x):=fun j x hj=>hq w E j (str x) (by simp [hj])
  have hb : b < w.heap.size:=by
   have h0 : 0 < xs.length:=List.length_pos_iff.2 hxs
   have:=hcell 0 xs[0] (List.getElem?_eq_getElem h0)
   unfold World.cell? at this
   cases hh : w.heap[b]? with
   | none=>simp [hh] at this
   | some ob=>exact (Array.getElem?_eq_some_iff.1 hh).1
  refine Calls.mono (Tryz.strings_Join b o c xs sep w hcell hb hn hc hj) ?_
  rintro e w' ⟨rfl,hw⟩
  exact ⟨_,rfl,rfl,E.grow (Upd.ofBelow hw)⟩

def tot(l:List BA):Nat:=(l.map λx=>x.size+1).sum
theorem tot_app(l m:List BA):tot (l++m)=tot l+tot m:=by simp[tot]
theorem splitB_tot:∀l:List UInt8,((splitB l).map λp=>p.length+1).sum=l.length+1
 |[]=>by simp[splitB]
 |x::r=>by
  have ih:=splitB_tot r
  unfold splitB
  split
  ·simp only[List.map_cons,List.sum_cons,List.length_nil,List.length_cons,ih];omega
  ·cases h:splitB r with
   |nil=>exact absurd h (splitB_ne r)
   |cons p ps=>rw[h]at ih;simp only[List.map_cons,List.sum_cons,List.length_cons]at ih ⊢;omega
theorem bmk_size(p:List UInt8):(bmk p).size=p.length:=by
 show p.toArray.size=_
 simp
theorem splitS_tot(s:BA):tot (splitS s)=s.size+1:=by
 have:=splitB_tot s.data.toList
 unfold tot splitS
 rw[List.map_map]
 have e:((λx:BA=>x.size+1) ∘ bmk)=λp=>p.length+1:=by funext p;simp only[Function.comp,bmk_size]
 rw[e,this]
 simp
theorem tot_take:∀(l:List BA) (n:Nat),tot (l.take n)≤tot l
 |[],n=>by simp
 |x::l,0=>by simp[tot]
 |x::l,n+1=>by
  have:=tot_take l n
  simp only[tot,List.take_succ_cons,List.map_cons,List.sum_cons]at this ⊢
  omega
theorem stepC_tot(a:Bool)(l:List BA)(s:BA):tot (stepC a l s)≤tot l+(s.size+1):=by
 have h1:tot [s]=s.size+1:=by simp[tot]
 unfold stepC
 split
 ·omega
 split
 ·rw[tot_app,h1];exact Nat.le_refl _
 split
 ·have:=tot_take l (l.length-1);omega
 split
 ·rw[tot_app,h1];exact Nat.le_refl _
 ·omega
theorem foldC_tot(a:Bool):∀(xs l:List BA),tot (xs.foldl (stepC a) l)≤tot l+tot xs
 |[],_=>by simp[tot]
 |x::xs,l=>by
  have h1:=foldC_tot a xs (stepC a l x)
  have h2:=stepC_tot a l x
  have h3:tot (x::xs)=x.size+1+tot xs:=by simp[tot]
  rw[List.foldl_cons]
  omega
theorem elems_tot(s:BA):tot (elemsC s)≤s.size+1:=by
 have:=foldC_tot (absP s) (splitS s) []
 rw[splitS_tot]at this
 have h0:tot []=0:=rfl
 rw[h0,Nat.zero_add]at this
 exact this
theorem join_len : ∀ (l : List BA),(Lib.join (l.map (·.data.toList)) sep.data.toList).length≤tot l
 | []=>by simp [Lib.join,List.intercalate]
 | [x]=>by simp [Lib.join,List.intercalate,tot]
 | x::y::r=>by
  have:=join_len (y::r)
  have e : Lib.join ((x::y::r).map (·.data.toList)) sep.data.toList = x.data.toList++47::Lib.join ((y::r).map (·.data.toList)) sep.data.toList:=by simp [Lib.join,List.intercalate]
  rw [e,List.length_append,List.length_cons]
  have h3 : tot (x::y::r) = x.size + 1 + tot (y::r):=by simp [tot]
  have h4 : x.data.toList.length = x.size:=by simp
  omega
theorem tot_len(l:List BA):l.length≤tot l:=by
 induction l with
 |nil=>simp
 |cons x r ih=>simp only[tot,List.map_cons,List.sum_cons,List.length_cons]at ih ⊢;omega
theorem Clean_ok{s:BA}(hs:s.size≤1000000000)(E:Hs w0 F w l):Ca PP Fn.tree_Clean #[str s] w λr w'=>r=str (cleanS s)∧Hs w0 F w' l:=by
 refine S.tree_Clean.calls ?_
 unfold S.tree_Clean
 refine(HasPrefix_ok E).mono ?_
 clear E
 rintro r w_ ⟨rfl,E⟩
 refine StpA.go E ?_
 clear E
 intro a3 w_ h3 E
 refine StpW.go E ?_
 clear E
 intro w_ E
 refine StpA.go E ?_
 clear E
 intro a4 w_ h4 E
 refine(SplitSeq_ok E).mono ?_
 clear E
 rintro r w_ ⟨a1,a2,a5,rfl,E⟩
 simp only[List.cons_append,List.nil_append]at E
 replace E:=E.nilSl Ty.t9 1
 (replace E:=((((((E.bIx 3).bIx 3).bIx 3).bIx 5).bIx 5).bIx 5))
 have hspl:=splitS_tot s
 have hlenS:=tot_len (splitS s)
 refine RFo.hs rfl b_split1 (split_iter hs) (λpre ks=>∃v,ks=[slA v Ty.t9 1 ((pre.foldl (stepC (absP s)) []).map str),pt a4 (oc [v] Ty.t8),pt a3 (oc [.bool (absP s)] Ty.bool)]) (λ_ _ _=>False) (λ_ _=>False)
  (ks:=[slA (.slice none 0 0) Ty.t9 1 [],pt a4 (oc [.slice none 0 0] Ty.t8),pt a3 (oc [.bool (absP s)] Ty.bool)]) E ⟨_,rfl⟩ ?_ ?_ (λ_ _ _ _ _ _ h _=>h.elim) (λ_ _ _ _ _ h _=>h.elim)
 ·clear E
  rintro r L D pre x w_ _ rest' Rn Re Rr hL hD hp ⟨v,rfl⟩ E hn - -
  simp only[List.cons_append,List.nil_append]at E
  have hpl:pre.length<(splitS s).length:=(List.getElem?_eq_some_iff.1 hp.2).1
  have hcl:=foldC_len (absP s) pre []
  have hst:(pre++[x]).foldl (stepC (absP s)) []=stepC (absP s) (pre.foldl (stepC (absP s)) []) x:=by rw[List.foldl_append];rfl
  simp only[hst]at hn
  generalize hcur:pre.foldl (stepC (absP s)) []=cur at*
  simp only[List.length_nil,Nat.zero_add]at hcl
  repeat with_reducible first|refine Stp.go ?_|(refine StpW.go E ?_;clear E;intro w_ E)
  (intro J18 hJ18)
  have fin18:∀b w_,b=decide (x=emp∨x=dot1)→Hs w0 F w_ (pt L (lpO r .busy none)::pt D dfO::slA v Ty.t9 1 (cur.map str)::pt a4 (oc [v] Ty.t8)::pt a3 (oc [.bool (absP s)] Ty.bool)::rest')→J18 [.bool b] w_:=by
   intro b w_ hb E
   repeat with_reducible (apply hJ18;intro u_)
   have app:∀(w_:World) (k:World→Prop),Hs w0 F w_ (pt L (lpO r .busy none)::pt D dfO::slA v Ty.t9 1 (cur.map str)::pt a4 (oc [v] Ty.t8)::pt a3 (oc [.bool (absP s)] Ty.bool)::rest')→stepC (absP s) cur x=cur++[x]→
     Ef PP (Instr.buildSlice Ty.t8 1 #[(0,str x)]) w_ λt24 w1=>Ef PP (Builtin.append_ #[Ty.t8,Ty.t8] Ty.t8 #[v,t24]) w1 λt25 w2=>St PP 1 (ptr a4) t25 w2 λw3=>Rn w3:=by
    intro w_ k E he
    refine BdS.one E u_sl_string e_string rfl ?_
    clear E
    intro v2 w_ E
    refine Ap.one E (i:=3) rfl u_sl_string ⟨_,u_sl_string,λ_ h=>by cases h⟩ e_string (Src.one E (by (first|assumption|exact FPt.mem|exact FMp.mem|exact FSl.mem|(repeat(first|assumption|with_reducible exact List.mem_cons_self|refine List.mem_cons_of_mem _ ?_)))) rfl) rfl (by simp;omega) (by simp;omega) ?_
    clear E
    intro s' w_ E
    (try simp only[List.set_cons_zero,List.set_cons_succ,List.cons_append,List.nil_append,Nat.zero_add,Nat.add_zero]at E)
    repeat with_reducible (refine StpW.go E ?_;clear E;intro w_ E)
    refine hn _ _ ⟨s',rfl⟩ ?_
    simp only[List.cons_append,List.nil_append]
    (replace E:=(E.bSl v2))
    (replace E:=(E.bIx 0).tl)
    have e1:(stepC (absP s) cur x).map str=cur.map str++[str x]:=by rw[he];simp
    rw[e1]
    exact E
   by_cases c1:x=emp∨x=dot1
   ·rw[decide_eq_true c1]at hb
    subst hb
    repeat with_reducible refine Stp.go ?_
    have he:stepC (absP s) cur x=cur:=by unfold stepC;rw[if_pos c1]
    refine hn _ _ ⟨v,rfl⟩ ?_
    rw[he]
    exact E
   rw[decide_eq_false c1]at hb
   subst hb
   repeat with_reducible refine Stp.go ?_
   refine Bi.sneq ?_ ?_<;>intro c2<;>(repeat with_reducible first|refine Stp.go ?_|refine StpE.go E ?_)
   ·exact app _ (λ_=>True) E (by unfold stepC;rw[if_neg c1,if_pos c2])
   have c2':¬x≠dot2:=λh=>h c2
   (intro J29 hJ29)
   have fin29:∀b w_,b=decide (0<cur.length∧cur[cur.length-1]? ≠some dot2)→Hs w0 F w_ (pt L (lpO r .busy none)::pt D dfO::slA v Ty.t9 1 (cur.map str)::pt a4 (oc [v] Ty.t8)::pt a3 (oc [.bool (absP s)] Ty.bool)::rest')→J29 [.bool b] w_:=by
    intro b w_ hb E
    repeat with_reducible (apply hJ29;intro u_)
    by_cases c3:0<cur.length∧cur[cur.length-1]? ≠some dot2
    ·rw[decide_eq_true c3]at hb
     subst hb
     repeat with_reducible first|refine Stp.go ?_|refine StpE.go E ?_
     refine Bi.sub (by simp;omega) ?_
     refine Sl.sl E (i:=2) rfl (by omega) (a:=0) (b:=cur.length-1) rfl (by simp[bnd];omega) (by omega) (by simp) ?_
     clear E
     intro v' E
     (try simp only[List.set_cons_zero,List.set_cons_succ,List.cons_append,List.nil_append,Nat.zero_add,Nat.add_zero]at E)
     repeat with_reducible (refine StpW.go E ?_;clear E;intro w_ E)
     have he:stepC (absP s) cur x=cur.take (cur.length-1):=by unfold stepC;rw[if_neg c1,if_neg c2',if_pos c3]
     refine hn _ _ ⟨v',rfl⟩ ?_
     simp only[List.cons_append,List.nil_append]
     rw[he]
     have e1:(cur.take (cur.length-1)).map str=List.drop (0*1) (List.take ((cur.length-1)*1) (cur.map str)):=by rw[Nat.zero_mul,List.drop_zero,Nat.mul_one,List.map_take]
     rw[e1]
     exact E
    ·rw[decide_eq_false c3]at hb
     subst hb
     repeat with_reducible first|refine Stp.go ?_|refine StpE.go E ?_
     cases ha:absP s with
     |true=>
      repeat with_reducible refine Stp.go ?_
      have he:stepC (absP s) cur x=cur:=by unfold stepC;rw[if_neg c1,if_neg c2',if_neg c3,if_neg (by rw[ha];simp)]
      refine hn _ _ ⟨v,rfl⟩ ?_
      rw[he,ha]
      rw[ha]at E
      exact E
     |false=>
      repeat with_reducible first|refine Stp.go ?_|refine StpE.go E ?_
      exact app _ (λ_=>True) E (by unfold stepC;rw[if_neg c1,if_neg c2',if_neg c3,if_pos ha])
   clear hJ29
   repeat with_reducible refine StpE.go E ?_
   refine Bi.gtr ?_ ?_<;>intro c4<;>simp only[List.length_map]at c4<;>(repeat with_reducible first|refine Stp.go ?_|refine StpE.go E ?_)
   ·refine Bi.sub (by simp;omega) ?_
    repeat with_reducible refine Stp.go ?_
    have hx:cur[cur.length-1]? =some cur[cur.length-1]:=List.getElem?_eq_getElem (by omega)
    refine IxA.sl E (by (first|assumption|exact FPt.mem|exact FMp.mem|exact FSl.mem|(repeat(first|assumption|with_reducible exact List.mem_cons_self|refine List.mem_cons_of_mem _ ?_)))) (by omega) (by simp;omega) (by simp;omega) ?_
    intro a ha
    repeat with_reducible refine Stp.go ?_
    refine Ld.sl E (by (first|assumption|exact FPt.mem|exact FMp.mem|exact FSl.mem|(repeat(first|assumption|with_reducible exact List.mem_cons_self|refine List.mem_cons_of_mem _ ?_)))) ha (x:=str cur[cur.length-1]) (by
     have:((((cur.map str).length:Nat):Int)-1).toNat*1=cur.length-1:=by simp
     rw[this];simp[hx]) ?_
    repeat with_reducible refine Stp.go ?_
    refine Bi.sneq ?_ ?_<;>intro c5<;>(repeat with_reducible refine Stp.go ?_)
    ·exact fin29 _ _ (by rw[decide_eq_true ⟨by omega,by rw[hx];simpa using c5⟩]) E
    ·exact fin29 _ _ (by rw[decide_eq_false (λh=>h.2 (by rw[hx,c5]))]) E
   ·exact fin29 _ _ (by rw[decide_eq_false (λh=>by omega)]) E
  clear hJ18
  skip
  refine Bi.seql ?_ ?_<;>intro c1<;>(repeat with_reducible refine Stp.go ?_)
  ·exact fin18 _ _ (by rw[decide_eq_true (.inl c1)]) E
  ·refine Bi.seql ?_ ?_<;>intro c2<;>(repeat with_reducible refine Stp.go ?_)
   ·exact fin18 _ _ (by rw[decide_eq_true (.inr c2)]) E
   ·exact fin18 _ _ (by rw[decide_eq_false (λh=>h.elim c1 c2)]) E
 ·clear E
  rintro D w_ xs _ hD rfl ⟨v,rfl⟩ E
  simp only[List.cons_append,List.nil_append]at E
  have he:(splitS s).foldl (stepC (absP s)) []=elemsC s:=rfl
  rw[he]at E
  have h1:=elems_tot s
  have h2:=tot_len (elemsC s)
  have h3:=join_len (elemsC s)
  repeat with_reducible refine StpE.go E ?_
  have hr:=RdS.by1 v E
  rw[List.length_map]at hr
  refine(Join_ok (by omega) (by omega) E hr).mono ?_
  clear E
  rintro r w_ ⟨rfl,E⟩
  have hjs:(joinS (elemsC s)).size≤s.size+1:=by
   unfold joinS
   show(Lib.join _ _).toArray.size≤_
   rw[List.size_toArray];omega
  repeat with_reducible refine StpE.go E ?_
  cases ha:absP s with
  |true=>
   repeat with_reducible refine Stp.go ?_
   refine Bi.sadd (by have:ByteArray.size ⟨#[47]⟩=1:=rfl;omega) ?_
   repeat with_reducible first|refine Stp.go ?_|(refine StpW.go E ?_;clear E;intro w_ E)
   exact⟨by unfold cleanS;rw[if_pos ha],E.tl.tl.tl⟩
  |false=>
   repeat with_reducible refine Stp.go ?_
   refine Bi.seql ?_ ?_<;>intro c1<;>(repeat with_reducible first|refine Stp.go ?_|(refine StpW.go E ?_;clear E;intro w_ E))
   ·exact⟨by unfold cleanS;rw[if_neg (by rw[ha];simp),if_pos (show joinS (elemsC s)=emp from c1)],E.tl.tl.tl⟩
   ·exact⟨by unfold cleanS;rw[if_neg (by rw[ha];simp),if_neg (show ¬joinS (elemsC s)=emp from c1)],E.tl.tl.tl⟩
set_option maxRecDepth 100000
set_option linter.unusedVariables false
set_option linter.unusedSimpArgs false
def noS(s:BA):Prop:=(47:UInt8)∉s.data.toList
theorem splitB_noS:∀{l p:List UInt8},p∈splitB l→(47:UInt8)∉p
 |[],p,h=>by
  rw[List.mem_singleton.1 h];simp
 |x::r,p,h=>by
  unfold splitB at h
  split at h
  ·rcases List.mem_cons.1 h with rfl|h
   ·simp
   ·exact splitB_noS h
  ·rename_i hx
   cases hq:splitB r with
   |nil=>exact absurd hq (splitB_ne r)
   |cons q qs=>
    rw[hq]at h
    rcases List.mem_cons.1 h with rfl|h
    ·have:=splitB_noS (l:=r) (p:=q) (by rw[hq];exact List.mem_cons_self)
     intro hc
     rcases List.mem_cons.1 hc with h1|h1
     ·exact hx h1.symm
     ·exact this h1
    ·exact splitB_noS (l:=r) (by rw[hq];exact List.mem_cons_of_mem _ h)
theorem splitS_noS{s p:BA}(h:p∈splitS s):noS p:=by
 obtain⟨q,hq,rfl⟩:=List.mem_map.1 h
 exact splitB_noS hq
theorem splitB_app:∀{p r:List UInt8},(47:UInt8)∉p→splitB (p++47::r)=p::splitB r
 |[],r,_=>by simp[splitB]
 |x::p,r,h=>by
  have h1:x≠47:=λe=>h (by rw[e];exact List.mem_cons_self)
  have h2:=splitB_app (p:=p) (r:=r) λe=>h (List.mem_cons_of_mem _ e)
  rw[List.cons_append,splitB,if_neg h1,h2]
theorem splitB_one:∀{p:List UInt8},(47:UInt8)∉p→splitB p=[p]
 |[],_=>rfl
 |x::p,h=>by
  have h1:x≠47:=λe=>h (by rw[e];exact List.mem_cons_self)
  rw[splitB,if_neg h1,splitB_one λe=>h (List.mem_cons_of_mem _ e)]
theorem splitB_join:∀{ps:List (List UInt8)},ps≠[]→(∀p∈ps,(47:UInt8)∉p)→splitB (Lib.join ps [47])=ps
 |[],h,_=>absurd rfl h
 |[p],_,h=>by
  have:Lib.join [p] [47]=p:=by simp[Lib.join,List.intercalate]
  rw[this];exact splitB_one (h p (by simp))
 |p::q::r,_,h=>by
  have:Lib.join (p::q::r) [47]=p++47::Lib.join (q::r) [47]:=by simp[Lib.join,List.intercalate]
  rw[this,splitB_app (h p (by simp)),splitB_join (by simp) λx hx=>h x (List.mem_cons_of_mem _ hx)]
theorem bmk_data(s:BA):bmk s.data.toList=s:=ba_ext (by simp)
theorem splitS_join {l : List BA} (h0 : l ≠ []) (h : ∀ x∈l,noS x) : splitS (joinS l) = l:=by
 unfold splitS joinS
 show (splitB (Lib.join (l.map (·.data.toList)) [47])).map bmk = l
 rw [splitB_join (by simpa using h0) (by
  intro p hp
  obtain ⟨x,hx,rfl⟩:=List.mem_map.1 hp
  exact h x hx),List.map_map]
 conv=>rhs; rw [← List.map_id l]
 exact List.map_congr_left fun x _=>bmk_data x
theorem splitS_emp:splitS emp=[emp]:=rfl

structure Okl(a:Bool)(l:List BA):Prop where
 one:∀x∈l,x≠emp∧x≠dot1∧noS x
 dots:∀i:Nat,l[i]? =some dot2→a=false∧∀j,j<i→l[j]? =some dot2
theorem Okl.nil(a:Bool):Okl a []:=⟨(λ_ h=>by cases h),λi h=>by simp at h⟩
theorem stepC_okl{a:Bool}{l:List BA}{s:BA}(h:Okl a l)(hs:noS s):Okl a (stepC a l s):=by
 unfold stepC
 by_cases c1:s=emp∨s=dot1
 ·rw[if_pos c1];exact h
 rw[if_neg c1]
 have c1':s≠emp∧s≠dot1:=⟨λe=>c1 (.inl e),λe=>c1 (.inr e)⟩
 have one:∀x∈l++[s],x≠emp∧x≠dot1∧noS x:=λx hx=>by
  rcases List.mem_append.1 hx with hx|hx
  ·exact h.one x hx
  ·rw[List.mem_singleton.1 hx];exact⟨c1'.1,c1'.2,hs⟩
 have look:∀(i:Nat) x,(l++[s])[i]? =some x→(i<l.length∧l[i]? =some x)∨(i=l.length∧s=x):=by
  intro i x hx
  rw[List.getElem?_append]at hx
  split at hx
  ·rename_i hi;exact .inl ⟨hi,hx⟩
  ·rename_i hi
   right
   have hlt:=(List.getElem?_eq_some_iff.1 hx).1
   simp only[List.length_singleton]at hlt
   have e:i-l.length=0:=by omega
   rw[e]at hx
   exact⟨by omega,by simpa using hx⟩
 have left:∀j:Nat,l[j]? =some dot2→(l++[s])[j]? =some dot2:=λj hj=>by
  rw[List.getElem?_append_left (List.getElem?_eq_some_iff.1 hj).1];exact hj
 by_cases c2:s≠dot2
 ·rw[if_pos c2]
  refine⟨one,λi hi=>?_⟩
  rcases look i dot2 hi with⟨_,h1⟩|⟨_,h1⟩
  ·exact⟨(h.dots i h1).1,λj hj=>left j ((h.dots i h1).2 j hj)⟩
  ·exact absurd h1 c2
 rw[if_neg c2]
 by_cases c3:0<l.length∧l[l.length-1]? ≠some dot2
 ·rw[if_pos c3]
  refine⟨λx hx=>h.one x (List.mem_of_mem_take hx),λi hi=>?_⟩
  have hlt:=(List.getElem?_eq_some_iff.1 hi).1
  rw[List.length_take]at hlt
  rw[List.getElem?_take_of_lt (by omega)]at hi
  refine⟨(h.dots i hi).1,λj hj=>?_⟩
  rw[List.getElem?_take_of_lt (by omega)]
  exact(h.dots i hi).2 j hj
 rw[if_neg c3]
 by_cases c4:a=false
 ·rw[if_pos c4]
  refine⟨one,λi hi=>⟨c4,λj hj=>?_⟩⟩
  rcases look i dot2 hi with⟨_,h1⟩|⟨h1,_⟩
  ·exact left j ((h.dots i h1).2 j hj)
  ·have h2:l[l.length-1]? =some dot2:=Classical.byContradiction λhn=>c3 ⟨by omega,hn⟩
   by_cases h3:j=l.length-1
   ·rw[h3];exact left _ h2
   ·exact left j ((h.dots _ h2).2 j (by omega))
 ·rw[if_neg c4];exact h
theorem fold_okl{a:Bool}:∀{xs l:List BA},Okl a l→(∀x∈xs,noS x)→Okl a (xs.foldl (stepC a) l)
 |[],_,h,_=>h
 |x::xs,l,h,hx=>fold_okl (xs:=xs) (stepC_okl h (hx x List.mem_cons_self)) λy hy=>hx y (List.mem_cons_of_mem _ hy)
theorem elems_okl(s:BA):Okl (absP s) (elemsC s):=fold_okl (Okl.nil _) λ_ h=>splitS_noS h
theorem fold_self{a:Bool}{l:List BA}(h:Okl a l):l.foldl (stepC a) []=l:=by
 have key:∀k,k≤l.length→(l.take k).foldl (stepC a) []=l.take k:=by
  intro k
  induction k with
  |zero=>intro _;rfl
  |succ k ih=>
   intro hk
   have hx:l[k]? =some l[k]:=List.getElem?_eq_getElem (by omega)
   have ht:l.take (k+1)=l.take k++[l[k]]:=by rw[List.take_add_one,hx];rfl
   have hl:(l.take k).length=k:=by rw[List.length_take];omega
   rw[ht,List.foldl_append,ih (by omega)]
   show stepC a (l.take k) l[k]=_
   obtain⟨o1,o2,_⟩:=h.one l[k] (List.getElem_mem _)
   unfold stepC
   rw[if_neg (by rintro(e|e);exact o1 e;exact o2 e)]
   by_cases c2:l[k]≠dot2
   ·rw[if_pos c2]
   rw[if_neg c2]
   have c2:l[k]=dot2:=Classical.not_not.1 c2
   obtain⟨d1,d2⟩:=h.dots k (by rw[hx,c2])
   rw[if_neg,if_pos d1]
   rintro⟨h1,h2⟩
   rw[hl]at h1 h2
   rw[List.getElem?_take_of_lt (by omega)]at h2
   exact h2 (d2 _ (by omega))
 have:=key l.length (Nat.le_refl _)
 rwa [List.take_length]at this
theorem elems_join{a:Bool}{l:List BA}(h:Okl a l):(splitS (joinS l)).foldl (stepC a) []=l:=by
 by_cases h0:l=[]
 ·subst h0;rfl
 rw[splitS_join h0 λx hx=>(h.one x hx).2.2]
 exact fold_self h
theorem joinS_emp{a:Bool}{l:List BA}(h:Okl a l):joinS l=emp↔l=[]:=by
 constructor
 ·intro he
  refine Classical.byContradiction λh0=>?_
  have:=splitS_join h0 λx hx=>(h.one x hx).2.2
  rw[he,splitS_emp]at this
  exact(h.one emp (by rw[← this];simp)).1 rfl
 ·rintro rfl;rfl
theorem absP_sep(s:BA):absP (sep++s)=true:=by
 have:(sep++s).data.toList=47::s.data.toList:=by simp
 unfold absP Lib.hasPrefix
 rw[this]
 simp[List.isPrefixOf]
theorem splitS_sep(s:BA):splitS (sep++s)=emp::splitS s:=by
 have:(sep++s).data.toList=47::s.data.toList:=by simp
 unfold splitS
 rw[this,splitB,if_pos rfl]
 rfl
theorem absP_eq(s:BA):absP s=decide (s.data.toList[0]? =some 47):=by
 unfold absP Lib.hasPrefix
 show([47]:List UInt8).isPrefixOf s.data.toList=_
 cases s.data.toList with
 |nil=>rfl
 |cons x r=>
  by_cases h:x=47
  ·simp[List.isPrefixOf,h]
  ·have h':¬(47:UInt8)=x:=λe=>h e.symm
   simp[List.isPrefixOf,h,h']
theorem absP_join{a:Bool}{l:List BA}(h:Okl a l):absP (joinS l)=false:=by
 rw[absP_eq]
 cases l with
 |nil=>rfl
 |cons x r=>
  obtain⟨h1,_,h3⟩:=h.one x List.mem_cons_self
  cases hd:x.data.toList with
  |nil=>exact absurd (ba_ext (by rw[hd];rfl)) h1
  |cons y t=>
   have hy:y≠47:=λe=>h3 (by rw[hd,e];exact List.mem_cons_self)
   have:(joinS (x::r)).data.toList[0]? =some y:=by
    unfold joinS Lib.join
    cases r with
    |nil=>simp[List.intercalate,hd]
    |cons z r=>simp[List.intercalate,hd]
   rw[this]
   simpa using hy
set_option maxRecDepth 100000
set_option linter.unusedVariables false
set_option linter.unusedSimpArgs false

def preB(w r:List UInt8):List (List UInt8):=match splitB r with
 |[]=>[w]
 |p::ps=>(w++p)::ps

def badE(x:BA):Bool:=decide (x≠dot2) && !goodName x
def splitP(s:BA):List BA×Int:=
 if 1024<s.size then([],3)else if(elemsC s).any badE then([],8)else(elemsC s,0)

def walkE:List BA→List BA→Option (List BA)
 |out,[]=>some out
 |out,p::ps=>if p=emp∨p=dot1 then walkE out ps else if badE p=true then none else walkE (out++[p]) ps
theorem walkE_okl:∀{ps out:List BA},(∀x∈ps,x≠emp∧x≠dot1)→walkE out ps=if ps.any badE then none else some (out++ps)
 |[],out,_=>by simp[walkE]
 |p::ps,out,h=>by
  obtain⟨h1,h2⟩:=h p List.mem_cons_self
  rw[walkE,if_neg (by rintro(e|e);exact h1 e;exact h2 e),walkE_okl (ps:=ps) λx hx=>h x (List.mem_cons_of_mem _ hx)]
  cases hb:badE p<;>simp[hb]
def trimS(s:BA):BA:=⟨(Lib.trimPrefix s.data.toList sep.data.toList).toArray⟩
theorem trim_clean(s:BA):trimS (cleanS s)=if absP s=true then joinS (elemsC s)else if joinS (elemsC s)=emp then dot1 else joinS (elemsC s):=by
 have h:=elems_okl s
 unfold cleanS
 by_cases ha:absP s=true
 ·rw[if_pos ha,if_pos ha]
  unfold trimS Lib.trimPrefix
  rw[if_pos (show Lib.hasPrefix (sep++joinS (elemsC s)).data.toList sep.data.toList=true from absP_sep _)]
  refine ba_ext ?_
  have:(sep++joinS (elemsC s)).data.toList=47::(joinS (elemsC s)).data.toList:=by simp
  rw[this]
  simp
 ·rw[if_neg ha,if_neg ha]
  by_cases h0:joinS (elemsC s)=emp
  ·rw[if_pos h0];rfl
  ·rw[if_neg h0]
   have hj:=absP_join h
   unfold absP at hj
   unfold trimS Lib.trimPrefix
   rw[if_neg (by rw[hj];simp)]
theorem walkE_clean(s:BA):walkE [] (splitS (trimS (cleanS s)))=if(elemsC s).any badE then none else some (elemsC s):=by
 have h:=elems_okl s
 rw[trim_clean]
 have key:walkE [] (splitS (joinS (elemsC s)))=if(elemsC s).any badE then none else some (elemsC s):=by
  by_cases h0:elemsC s=[]
  ·rw[h0];rfl
  ·rw[splitS_join h0 λx hx=>(h.one x hx).2.2]
   rw[walkE_okl λx hx=>⟨(h.one x hx).1,(h.one x hx).2.1⟩,List.nil_append]
 by_cases ha:absP s=true
 ·rw[if_pos ha];exact key
 ·rw[if_neg ha]
  by_cases h0:joinS (elemsC s)=emp
  ·rw[if_pos h0,(joinS_emp h).1 h0];rfl
  ·rw[if_neg h0];exact key

theorem walkE_step{out ps:List BA}{p:BA}:walkE out (p::ps)=if p=emp∨p=dot1 then walkE out ps else if badE p=true then none else walkE (out++[p]) ps:=rfl
set_option maxRecDepth 100000
set_option linter.unusedVariables false
set_option linter.unusedSimpArgs false
variable {T:Tr}
theorem Inv.tick(h:Inv T):Inv T.tick:=
 ⟨h.sorted,h.root,h.bound,h.rootD,h.up,h.names,h.good,h.rank,h.data,h.form,h.hsorted,h.hpos,h.hfile,h.hclose,h.few,by have:=h.clock;show 0≤T.clock+1;omega,h.rootN⟩
theorem Inv.touch(h:Inv T)(user:BA)(p:Int):Inv (T.upd p (touchN T.clock user)):=
 h.upd T.clock h.clock (λ_ _ _=>⟨rfl,rfl,rfl,rfl⟩) (λn hn _=>h.data n hn) λn hn _=>by
  have:=h.form n hn
  exact⟨this.1,this.2.1,this.2.2.1,by show 0≤n.vers+1;omega,h.clock⟩
theorem Inv.change(h:Inv T)(user:BA)(ps:List Int):Inv (T.change user ps):=by
 have key:∀(ps:List Int) (T:Tr),Inv T→Inv (ps.foldl (λT p=>T.upd p (touchN T.clock user)) T):=by
  intro ps
  induction ps with
  |nil=>intro T h;exact h
  |cons p ps ih=>intro T h;exact ih _ (h.touch user p)
 exact key ps _ h.tick
theorem change_keeps(T:Tr)(user:BA)(ps:List Int):(T.change user ps).next=T.next∧(T.change user ps).hs=T.hs∧(T.change user ps).gs=T.gs∧(T.change user ps).clock=T.clock+1∧(T.change user ps).ns.length=T.ns.length:=by
 have key:∀(ps:List Int) (T:Tr),let T':=ps.foldl (λT p=>T.upd p (touchN T.clock user)) T;T'.next=T.next∧T'.hs=T.hs∧T'.gs=T.gs∧T'.clock=T.clock∧T'.ns.length=T.ns.length:=by
  intro ps
  induction ps with
  |nil=>intro T;exact⟨rfl,rfl,rfl,rfl,rfl⟩
  |cons p ps ih=>
   intro T
   obtain⟨h1,h2,h3,h4,h5⟩:=ih (T.upd p (touchN T.clock user))
   refine⟨h1,h2,h3,h4,?_⟩
   rw[List.foldl_cons]
   rw[h5]
   show(updN T.ns p _).length=_
   unfold updN;simp
 exact key ps T.tick
theorem updN_mem{ns:List Nd}{p:Int}{f:Nd→Nd}{m:Nd}(h:m∈updN ns p f):∃n∈ns,m=if n.path=p then f n else n:=by
 obtain⟨n,hn,rfl⟩:=List.mem_map.1 h
 exact⟨n,hn,rfl⟩
theorem Inv.hsN (h : Inv T) : (T.hs.map (·.1)).Nodup:=by
 rw [List.Nodup,List.pairwise_map]
 exact h.hsorted.imp fun {a b} hab=>by omega
theorem Inv.openedM(h:Inv T){hd:Int}{x:Hd}(hx:T.opened hd=some x):(hd,x)∈T.hs:=(getL_some h.hsN).1 hx
theorem write_inv(h:Inv T)(hd off:Int)(d:BA):Inv (T.write hd off d).1:=by
 unfold Tr.write
 split
 ·exact h
 rename_i x hx
 split
 ·exact h
 rename_i hm
 split
 ·exact h
 rename_i n hg
 obtain⟨hn,hp⟩:=h.get.1 hg
 split
 ·exact h
 split
 ·exact h
 rename_i hoff hde
 simp only[]
 generalize (if andI n.mode 1073741824≠0 then(n.data.size:Int)else off)=at_
 split
 ·exact h
 rename_i hsz
 have hmode:x.mode≠0:=λe=>hm (by rw[e];decide)
 have hm:=h.openedM hx
 show Inv ((T.change x.user [x.file]).upd x.file _)
 rw[change_one]
 unfold Tr.upd
 simp only[]
 rw[updN_updN (f1:=touchN (T.clock+1) x.user) λ_=>rfl]
 have hc:=h.clock
 refine h.upd (T.clock+1) (by omega) (λ_ _ _=>⟨rfl,rfl,rfl,rfl⟩) (λm hmm he=>?_) λm hmm _=>?_
 ·have hdir:=h.hclose _ hm hmode m hmm he
  refine⟨λhc=>?_,?_⟩
  ·have hc:m.dir=true:=hc
   rw[hdir]at hc;cases hc
  ·show(overW m.data _ d).size≤1048576
   rw[over_size]
   have h1:=(h.data m hmm).2
   have h2:m=n:=h.inj hmm hn (by rw[he,hp])
   rw[h2]at h1 ⊢
   omega
 ·have:=h.form m hmm
  exact⟨this.1,this.2.1,this.2.2.1,by show 0≤m.vers+1;omega,by show 0≤T.clock+1;omega⟩
theorem open_inv(h:Inv T)(user:BA)(file mode:Int):Inv (T.openF user file mode).1:=by
 unfold Tr.openF
 split
 ·exact h
 split
 ·exact h
 rename_i n hg
 obtain⟨hn,hp⟩:=h.get.1 hg
 split
 ·exact h
 rename_i hdm
 split
 ·exact h
 split
 ·exact h
 split
 ·exact h
 rename_i hlen
 simp only[]
 have hc:=h.clock
 have hfile:0≤file∧file<T.next:=by have:=h.bound n hn;rw[hp]at this;exact this
 have hdir:mode≠0→∀m∈T.ns,m.path=file→m.dir=false:=λhm m hmm he=>by
  have h2:m=n:=h.inj hmm hn (by rw[he,hp])
  rw[h2]
  cases hd:n.dir with
  |false=>rfl
  |true=>exact absurd ⟨hd,hm⟩ hdm
 split
 ·rw[change_one]
  unfold Tr.upd
  simp only[]
  rw[updN_updN (f1:=touchN (T.clock+1) user) λ_=>rfl]
  have hu:=h.upd (p:=file) (g:=λn=>{touchN (T.clock+1) user n with data:=emp}) (T.clock+1) (by omega) (λ_ _ _=>⟨rfl,rfl,rfl,rfl⟩) (λm hmm he=>⟨λ_=>rfl,Nat.zero_le _⟩) λm hmm _=>by
   have:=h.form m hmm
   exact⟨this.1,this.2.1,this.2.2.1,by show 0≤m.vers+1;omega,by show 0≤T.clock+1;omega⟩
  refine Inv.hold hu (x:=⟨file,mode,user⟩) (Classical.not_not.1 hlen) hfile λhm m hmm he=>?_
  obtain⟨q,hq,rfl⟩:=updN_mem hmm
  split at he<;>rename_i hqf
  ·rw[if_pos hqf]
   exact hdir hm q hq hqf
  ·exact absurd he hqf
 ·exact Inv.hold h (Classical.not_not.1 hlen) hfile hdir
theorem create_inv(h:Inv T)(user:BA)(dir:Int)(name:BA)(perm mode:Int):Inv (T.create user dir name perm mode).1:=by
 unfold Tr.create
 split
 ·exact h
 rename_i c7
 split
 ·exact h
 rename_i u hg
 obtain⟨hu,hp⟩:=h.get.1 hg
 split
 ·exact h
 rename_i hdir
 split
 ·exact h
 rename_i c22
 split
 ·exact h
 split
 ·exact h
 rename_i hkid
 split
 ·exact h
 rename_i hfew
 simp only[]
 obtain⟨k1,k2,k3,k4,k5⟩:=change_keeps T user [dir]
 have hi1:=h.change user [dir]
 have hc:=h.clock
 have hshape:∀m∈(T.change user [dir]).ns,∃q∈T.ns,m.path=q.path∧m.up=q.up∧m.name=q.name∧m.dir=q.dir:=by
  intro m hm
  rw[change_one]at hm
  obtain⟨q,hq,rfl⟩:=updN_mem hm
  refine⟨q,hq,?_⟩
  split<;>exact⟨rfl,rfl,rfl,rfl⟩
 have hgood:goodName name=true∧goodName user=true:=by
  constructor
  ·cases hx:goodName name with
   |true=>rfl
   |false=>exact absurd (.inl hx) c22
  ·cases hx:goodName user with
   |true=>rfl
   |false=>exact absurd (.inr hx) c22
 have hr:rightM perm=true:=by
  cases hx:rightM perm with
  |true=>rfl
  |false=>exact absurd (.inr (.inl hx)) c7
 have hf:=h.form u hu
 have hi2:=hi1.newN (n:=⟨T.next,0,Tr.modeN perm u.mode,(T.change user [dir]).clock,dir,name,user,u.group,user,emp⟩) (by rw[k1]) ⟨if u.path=dir then touchN (T.clock+1) user u else u,by
   rw[change_one]
   exact List.mem_map.2 ⟨u,hu,rfl⟩,by rw[if_pos hp];exact hp,by rw[if_pos hp];show u.dir=true;cases hx:u.dir with
   |true=>rfl
   |false=>exact absurd hx hdir⟩ (by
   intro m hm h0 h1 h2
   obtain⟨q,hq,e1,e2,e3,e4⟩:=hshape m hm
   have:T.kid dir name=some q:=(kid_some h).2 ⟨hq,by rw[← e1];exact h0,e2.symm.trans h1,e3.symm.trans h2⟩
   exact hkid (by rw[this];rfl)) hgood.1 rfl ⟨hgood.2,hf.2.1,modeN_right _ hr,Int.le_refl _,by rw[k4];show 0≤T.clock+1;omega⟩ (by rw[k5];omega)
 rw[k1]at hi2
 refine hi2.hold (by show(T.change user [dir]).hs.length<64;rw[k2];omega) (by
  obtain⟨r0,hr0,hr1⟩:=h.root
  have:=h.bound r0 hr0
  exact⟨by show 0≤T.next;omega,by show T.next<T.next+1;omega⟩) λhm m hmm he=>?_
 have hmm:m∈(T.change user [dir]).ns++[_]:=hmm
 rcases List.mem_append.1 hmm with hmm|hmm
 ·have:=hi1.bound m hmm
  rw[k1]at this
  have he:m.path=T.next:=he
  omega
 ·rw[List.mem_singleton.1 hmm]
  show isD (Tr.modeN perm u.mode)=false
  rw[modeN_isD]
  cases hx:isD perm with
  |false=>rfl
  |true=>exact absurd (.inr (.inr ⟨by simpa[isD] using hx,hm⟩)) c7

theorem Inv.filter (h : Inv T) {n : Nd} (h0 : n.path ≠ 0) (hk : ∀ m∈T.ns,m.path ≠ 0→m.up ≠ n.path) : Inv { T with ns:=T.ns.filter fun x=>decide (x.path ≠ n.path) }:=by
  have sub : ∀ m∈T.ns.filter (fun x=>decide (x.path ≠ n.path)),m∈T.ns:=fun m hm=>(List.mem_filter.1 hm).1
  have back : ∀ m∈T.ns,m.path ≠ n.path→m∈T.ns.filter (fun x=>decide (x.path ≠ n.path)):=fun m hm hne=>List.mem_filter.2 ⟨hm,by simpa using hne⟩
  obtain ⟨r0,hr0,hr1⟩:=h.root
  refine ⟨h.sorted.filter _,⟨r0,back r0 hr0 (by rw [hr1]; exact fun e=>h0 e.symm),hr1⟩,fun m hm=>h.bound m (sub m hm),fun m hm=>h.rootD m (sub m hm),fun m hm hm0=>?_,fun a ha b hb=>h.names a (sub a ha) b (sub b hb),
    fun m hm=>h.good m (sub m hm),?_,fun m hm=>h.data m (sub m hm),fun m hm=>h.form m (sub m hm),h.hsorted,h.hpos,h.hfile,fun x hx h1 m hm=>h.hclose x hx h1 m (sub m hm),⟨Nat.le_trans (List.length_filter_le _ _) h.few.1,h.few.2⟩,h.clock,fun m hm=>h.rootN m (sub m hm)⟩
  · obtain ⟨u,hu,h1,h2⟩:=h.up m (sub m hm) hm0
    exact ⟨u,back u hu (by rw [h1]; exact hk m (sub m hm) hm0),h1,h2⟩
  · obtain ⟨rk,hrk⟩:=h.rank
    exact ⟨rk,fun m hm=>hrk m (sub m hm)⟩
theorem drop_inv(h:Inv T){n:Nd}(h0:n.path≠0)(hk:∀m∈T.ns,m.path≠0→m.up≠n.path)(user:BA):Inv (T.drop user n):=(h.filter h0 hk).change user _
theorem delL_sub{κ β:Type}[DecidableEq κ](k:κ):∀L:List (κ×β),(delL L k).Sublist L
 |[]=>List.Sublist.refl _
 |p::r=>by
  unfold delL
  split
  ·exact List.sublist_cons_self _ _
  ·exact(delL_sub k r).cons_cons _
theorem Inv.hdel(h:Inv T)(k:Int):Inv {T with hs:=delL T.hs k}:=by
 have hs:=delL_sub k T.hs
 exact⟨h.sorted,h.root,h.bound,h.rootD,h.up,h.names,h.good,h.rank,h.data,h.form,h.hsorted.sublist hs,λx hx=>h.hpos x (hs.subset hx),λx hx=>h.hfile x (hs.subset hx),λx hx=>h.hclose x (hs.subset hx),⟨h.few.1,Nat.le_trans hs.length_le h.few.2⟩,h.clock,h.rootN⟩

theorem Inv.leaf(h:Inv T){n:Nd}(hn:n∈T.ns)(hd:n.dir=false):n.path≠0∧∀m∈T.ns,m.path≠0→m.up≠n.path:=by
 refine⟨λh0=>?_,λm hm h0 he=>?_⟩
 ·have:=(h.rootD n hn h0).1
  rw[hd]at this;cases this
 ·obtain⟨u,hu,h1,h2⟩:=h.up m hm h0
  have:u=n:=h.inj hu hn (by rw[h1,he])
  rw[this,hd]at h2;cases h2
theorem close_inv(h:Inv T)(hd:Int):Inv (T.close hd).1:=by
 unfold Tr.close
 split
 ·exact h
 rename_i x hx
 simp only[]
 split
 ·rename_i n hg
  obtain⟨hn,hp⟩:=h.get.1 hg
  split
  ·rename_i h64
   have hmode:x.mode≠0:=λe=>h64 (by rw[e];decide)
   obtain⟨h0,hk⟩:=h.leaf hn (h.hclose _ (h.openedM hx) hmode n hn hp)
   exact drop_inv (h.hdel hd) h0 hk _
  ·exact h.hdel hd
 ·exact h.hdel hd
theorem remove_inv(h:Inv T)(user:BA)(file:Int):Inv (T.remove user file).1:=by
 unfold Tr.remove
 split
 ·exact h
 rename_i n hg
 obtain⟨hn,hp⟩:=h.get.1 hg
 split
 ·exact h
 rename_i h0
 split
 ·exact h
 split
 ·exact h
 rename_i hk
 refine drop_inv h h0 (λm hm hm0 he=>hk ?_) _
 refine List.length_pos_of_mem (a:=m) (List.mem_filter.2 ⟨hm,?_⟩)
 unfold Tr.isKid
 exact decide_eq_true ⟨hm0,by rw[he,hp]⟩
set_option maxRecDepth 100000
set_option linter.unusedVariables false
set_option linter.unusedSimpArgs false
variable {T:Tr} {N:Int}
theorem Lim.mono{M:Int}(h:Lim N T)(hm:N≤M):Lim M T:=⟨by have:=h.clock;omega,by have:=h.next;omega,λn hn=>by have:=h.vers n hn;omega⟩
theorem Lim.tick(h:Lim N T):Lim (N+1) T.tick:=⟨by have:=h.clock;show T.clock+1≤N+1;omega,by have:=h.next;show T.next≤N+1;omega,λn hn=>by have:=h.vers n hn;omega⟩
theorem Lim.updV(h:Lim N T){p:Int}{f:Nd→Nd}(hf:∀n,(f n).vers≤n.vers+1):Lim (N+1) (T.upd p f):=⟨by have:=h.clock;show T.clock≤N+1;omega,by have:=h.next;show T.next≤N+1;omega,λn hn=>by
 obtain⟨m,hm,rfl⟩:=updN_mem hn
 have:=h.vers m hm
 have:=hf m
 split<;>omega⟩
theorem Lim.upd0(h:Lim N T){p:Int}{f:Nd→Nd}(hf:∀n,(f n).vers=n.vers):Lim N (T.upd p f):=⟨h.clock,h.next,λn hn=>by
 obtain⟨m,hm,rfl⟩:=updN_mem hn
 have:=h.vers m hm
 have:=hf m
 split<;>omega⟩
theorem Lim.change1(h:Lim N T)(user:BA)(p:Int):Lim (N+2) (T.change user [p]):=by
 have:=(h.tick).updV (p:=p) (f:=touchN T.tick.clock user) (λn=>by show n.vers+1≤n.vers+1;omega)
 exact this.mono (by omega)
theorem Lim.change2(h:Lim N T)(user:BA)(p q:Int):Lim (N+3) (T.change user [p,q]):=by
 have:=((h.tick).updV (p:=p) (f:=touchN T.tick.clock user) (λn=>by show n.vers+1≤n.vers+1;omega)).updV (p:=q) (f:=touchN T.tick.clock user) (λn=>by show n.vers+1≤n.vers+1;omega)
 exact this.mono (by omega)
theorem Lim.hold(h:Lim N T)(x:Hd):Lim N (T.hold x).1:=⟨h.clock,h.next,h.vers⟩
theorem write_lim(h:Lim N T)(hd off:Int)(d:BA):Lim (N+3) (T.write hd off d).1:=by
 have h3:=h.mono (M:=N+3) (by omega)
 unfold Tr.write
 split
 ·exact h3
 split
 ·exact h3
 split
 ·exact h3
 split
 ·exact h3
 split
 ·exact h3
 simp only[]
 generalize (if andI _ 1073741824≠0 then _ else off)=at_
 split
 ·exact h3
 ·exact((h.change1 _ _).upd0 (by intro n;rfl)).mono (by omega)
theorem open_lim(h:Lim N T)(user:BA)(file mode:Int):Lim (N+3) (T.openF user file mode).1:=by
 have h3:=h.mono (M:=N+3) (by omega)
 unfold Tr.openF
 split
 ·exact h3
 split
 ·exact h3
 split
 ·exact h3
 split
 ·exact h3
 split
 ·exact h3
 split
 ·exact h3
 simp only[]
 refine Lim.hold ?_ _
 split
 ·exact((h.change1 _ _).upd0 (by intro n;rfl)).mono (by omega)
 ·exact h3
theorem create_lim(h:Lim N T)(h0:0≤N)(user:BA)(dir:Int)(name:BA)(perm mode:Int):Lim (N+3) (T.create user dir name perm mode).1:=by
 have h3:=h.mono (M:=N+3) (by omega)
 unfold Tr.create
 split
 ·exact h3
 split
 ·exact h3
 split
 ·exact h3
 split
 ·exact h3
 split
 ·exact h3
 split
 ·exact h3
 split
 ·exact h3
 simp only[]
 refine Lim.hold ?_ _
 have h2:=h.change1 user dir
 refine⟨by have:=h2.clock;show(T.change user [dir]).clock≤N+3;omega,by have:=h.next;show T.next+1≤N+3;omega,λn hn=>?_⟩
 have hn:n∈(T.change user [dir]).ns++[_]:=hn
 rcases List.mem_append.1 hn with hn|hn
 ·have:=h2.vers n hn;omega
 ·rw[List.mem_singleton.1 hn];show(0:Int)≤N+3;omega
theorem drop_lim(h:Lim N T)(user:BA)(n:Nd):Lim (N+2) (T.drop user n):=
 Lim.change1 (T:={T with ns:=T.ns.filter λx=>decide (x.path≠n.path)}) ⟨h.clock,h.next,λm hm=>h.vers m (List.mem_filter.1 hm).1⟩ user n.up
theorem close_lim(h:Lim N T)(hd:Int):Lim (N+3) (T.close hd).1:=by
 have h3:=h.mono (M:=N+3) (by omega)
 have hh:Lim N {T with hs:=delL T.hs hd}:=⟨h.clock,h.next,h.vers⟩
 unfold Tr.close
 split
 ·exact h3
 simp only[]
 split
 ·split
  ·exact(drop_lim hh _ _).mono (by omega)
  ·exact hh.mono (by omega)
 ·exact hh.mono (by omega)
theorem remove_lim(h:Lim N T)(user:BA)(file:Int):Lim (N+3) (T.remove user file).1:=by
 have h3:=h.mono (M:=N+3) (by omega)
 unfold Tr.remove
 split
 ·exact h3
 split
 ·exact h3
 split
 ·exact h3
 split
 ·exact h3
 ·exact(drop_lim h _ _).mono (by omega)
theorem wstat_lim(h:Lim N T)(user:BA)(file:Int)(d:Dr):Lim (N+3) (T.wstat user file d).1:=by
 have h3:=h.mono (M:=N+3) (by omega)
 unfold Tr.wstat
 split
 ·exact h3
 simp only[]
 split
 ·exact h3
 split
 ·exact h3
 split
 ·exact h3
 split
 ·exact h3
 split
 ·exact h3
 split
 ·exact h3
 split
 ·exact h3
 split
 ·exact h3
 refine Lim.upd0 ?_ λn=>rfl
 split
 ·exact h.change2 _ _ _
 ·exact(h.change1 _ _).mono (by omega)
theorem newT_lim(owner:BA)(gs:Gs):Lim 1 (newT owner gs):=⟨by show(0:Int)≤1;omega,Int.le_refl _,λn hn=>by
 rw[List.mem_singleton.1 hn];show(0:Int)≤1;omega⟩
set_option maxRecDepth 100000
set_option linter.unusedVariables false
set_option linter.unusedSimpArgs false
variable {w0 w:World} {F:Nat→Prop} {l:List As}
abbrev ann:BA:=⟨#[97,110,110]⟩
abbrev bob:BA:=⟨#[98,111,98]⟩
abbrev nmF:BA:=⟨#[102]⟩
abbrev aw0:Tr:=newT ann []
abbrev aw1:Tr:=(aw0.create ann 0 nmF 438 2).1
abbrev aw2:Tr:=(aw1.write 1 2 ⟨#[97,98]⟩).1
theorem gin_nil(v:Value)(hv:v=.slice none 0 0):GIn w0 F l v [] []:=by
 subst hv
 exact⟨⟨none,0,rfl,Nat.le_refl _,rfl,.inl rfl⟩,rfl,λi a b h=>by simp at h⟩
theorem checkG_ann:checkG [] [ann]=0:=by decide
theorem aw_create:(aw0.create ann 0 nmF 438 2).2=(1,⟨0,0,1⟩,0):=by kernel_rfl
theorem aw_write:(aw1.write 1 2 ⟨#[97,98]⟩).2=(2,0):=by kernel_rfl
theorem aw_read:aw2.read 1 0 9=(⟨#[0,0,97,98]⟩,0):=by kernel_rfl
theorem aw_stat:aw2.stat 1=(⟨0,1,1,436,2,4,nmF,ann,ann,ann⟩,0):=by kernel_rfl
theorem aw_open:(aw2.openF bob 1 1).2.2.2=17:=by kernel_rfl
theorem aw_clean:cleanS ⟨#[47,97,47,47,98,47,46,47,46,46,47,99,47,46,46]⟩=⟨#[47,97]⟩:=by kernel_rfl
abbrev lkQid:List LK:=[.int .i64,.int .i64,.int .i64]
theorem lv_Qid:lv PP 20 Ty.api_Qid=some lkQid:=by kernel_rfl
theorem st_Qid:isSt PP Ty.api_Qid=true:=by kernel_rfl
theorem g_Qid:PP.eqGuardType PP.depth Ty.api_Qid=false:=by kernel_rfl
set_option maxRecDepth 100000
set_option linter.unusedVariables false
set_option linter.unusedSimpArgs false
variable {w0 w:World} {F:Nat→Prop} {l:List As}
theorem awake_ok{D:List Row}(E:Hs w0 F w (Pool D::l)):Ca PP Fn.law28_awake #[] w λr w'=>r=.bool true∧∃D',(∀x∈D,x∈D')∧Hs w0 F w' (Pool D'::l):=by
 refine S.law28_awake.calls ?_
 unfold S.law28_awake
 refine(New_ok (owner:=ann) (gin_nil _ rfl) (by simp) (λg h=>by cases h) (by
  intro s hs
  have:s=ann:=by simpa[gwords] using hs
  rw[this];decide) E).mono ?_
 clear E
 rintro r w_ (⟨hc,-,-⟩|⟨-,D1,X,β,rfl,hD1,h,hi,E⟩)
 ·exact absurd checkG_ann hc
 repeat with_reducible refine Stp.go ?_
 (intro J5 hJ5)
 have fin5:∀b w_,b=false→Hs w0 F w_ (trA X::Pool D1::l)→J5 [.bool b] w_:=by
  intro b w_ hb E
  subst hb
  repeat with_reducible first|refine Stp.go ?_|(apply hJ5;intro u_)
  have l0:Lim 1 aw0:=newT_lim _ _
  refine(Create_ok h hi (N:=1) (by omega) l0 (by decide) (by decide) E).mono ?_
  clear E
  rintro r w_ ⟨rfl,D2,X2,β2,hD2,ht2,h2,E⟩
  rw[aw_create]
  have i1:Inv aw1:=create_inv hi _ _ _ _ _
  have l1:Lim 4 aw1:=create_lim l0 (by omega) _ _ _ _ _
  repeat with_reducible first|refine Stp.go ?_|(refine StpW.go E ?_;clear E;intro w_ E)|(refine StpA.go E ?_;clear E;intro b_ w_ hb_ E)
  (revert b_;intro q hbq E)
  (intro J17 hJ17)
  have fin17:∀b w_,b=false→Hs w0 F w_ (pt q (oc [i64 0,i64 0,i64 1] Ty.api_Qid)::trA X2::Pool D2::l)→J17 [.bool b] w_:=by
   intro b w_ hb E
   subst hb
   repeat with_reducible first|refine Stp.go ?_|(apply hJ17;intro u_)
   rw[← ht2]
   (replace E:=(((E.bIx 0).bIx 2).bIx 2))
   refine(Write_ok h2 i1 (N:=4) (by omega) l1 E).mono ?_
   clear E
   rintro r w_ ⟨rfl,D3,X3,β3,hD3,ht3,h3,E⟩
   rw[aw_write]
   have i2:Inv aw2:=write_inv i1 _ _ _
   have l2:Lim 7 aw2:=write_lim l1 _ _ _
   repeat with_reducible refine Stp.go ?_
   rw[← ht3]
   refine(Read_ok h3 i2 (D:=D3) (by simp) E).mono ?_
   clear E
   rintro r w_ ⟨rfl,E⟩
   rw[aw_read]
   repeat with_reducible refine Stp.go ?_
   refine(Stat_ok h3 i2 (D:=D3) (by simp) E).mono ?_
   clear E
   rintro r w_ ⟨rfl,E⟩
   rw[aw_stat]
   repeat with_reducible first|refine Stp.go ?_|(refine StpW.go E ?_;clear E;intro w_ E)|(refine StpA.go E ?_;clear E;intro b_ w_ hb_ E)
   (revert b_;intro d hbd E)
   (replace E:=(((E.bIx 0).bIx 2).bIx 2))
   refine(Open_ok h3 i2 (N:=7) (by omega) l2 E).mono ?_
   clear E
   rintro r w_ ⟨rfl,D4,X4,β4,hD4,ht4,h4,E⟩
   rw[aw_open]
   repeat with_reducible first|refine Stp.go ?_|(refine StpW.go E ?_;clear E;intro w_ E)|(refine StpA.go E ?_;clear E;intro b_ w_ hb_ E)
   (revert b_;intro q2 hbq2 E)
   (intro J44 hJ44)
   have fin44:∀b w_,b=true→Hs w0 F w_ (Pool D4::l)→J44 [.bool b] w_:=by
    intro b w_ hb E
    subst hb
    repeat with_reducible (apply hJ44;intro u_)
    exact⟨rfl,D4,λx hx=>hD4 _ (hD3 _ (hD2 _ (hD1 _ hx))),E⟩
   clear hJ44
   repeat first|(with_reducible first|refine Stp.go ?_|refine StpE.go E ?_)|((with_reducible refine Bi.dec true ?_ ?_);focus exact rfl)|((with_reducible refine Bi.sdec true ?_ ?_);focus decide)
   refine(Clean_ok (by decide) E).mono ?_
   clear E
   rintro r w_ ⟨rfl,E⟩
   rw[aw_clean]
   repeat first|(with_reducible first|refine Stp.go ?_)|((with_reducible refine Bi.sdec true ?_ ?_);focus decide)
   refine fin44 _ _ rfl ?_
   (replace E:=(E.bIx 0).tl)
   (replace E:=(E.bIx 0).tl)
   (replace E:=(E.bPt d))
   (replace E:=(E.bIx 0).tl)
   (replace E:=(E.bPt q))
   exact E.tl
  clear hJ17
  repeat first|(with_reducible first|refine Stp.go ?_|refine StpE.go E ?_)|((with_reducible refine Bi.dec false ?_ ?_);focus exact rfl)
  refine EqS.n (xs:=[i64 0,i64 0,i64 1]) (ys:=[i64 0,i64 0,i64 1]) lv_Qid st_Qid g_Qid rfl rfl ?_
  simp only[ceqL,ceq,decide_true,Bool.and_self,Bool.not_true]
  repeat first|(with_reducible first|refine Stp.go ?_)|((with_reducible refine Bi.dec false ?_ ?_);focus exact rfl)
  exact fin17 _ _ rfl E
 clear hJ5
 repeat first|(with_reducible first|refine Stp.go ?_)|((with_reducible refine Bi.dec false ?_ ?_);focus exact rfl)
 refine Eq.ef u_p_tree rfl ?_
 repeat with_reducible refine Stp.go ?_
 exact fin5 _ _ rfl E
variable {D:List Row} {X:PT} {T:Tr} {β:Int→Nat}
theorem Tie.monoD{D':List Row}(h:Tie D X T β)(hD:∀x∈D,x∈D'):Tie D' X T β:=
 ⟨h.ns,h.clock,h.next,λn hn=>(h.data n hn).mono hD,h.ub,h.kl,h.fl,h.root,⟨λg=>by
  have:=h.gs.at_ g
  revert this
  cases getL T.gs g with
  |none=>exact id
  |some us=>rintro⟨h1,v,h2,h3⟩;exact⟨h1,v,h2,h3.mono hD⟩,h.gs.nd⟩,h.bl,h.ol,h.dead⟩
abbrev np:Value:=.pointer none
set_option maxRecDepth 100000
set_option linter.unusedVariables false
set_option linter.unusedSimpArgs false
variable {w0 w:World} {F:Nat→Prop} {l:List As}

def bitI(m:Int)(i:Nat):Bool:=(BitVec.ofInt 64 m).getLsbD i
def rngI(m:Int):Prop:=-9223372036854775808≤m∧m≤9223372036854775807

def shO(o g:Bool):Nat:=if o then 6 else if g then 3 else 0
def shI(m:Int)(o g:Bool):Int:=if o then m.fdiv 64 else if g then m.fdiv 8 else m
theorem wrap_rng(n:Int):rngI (IntKind.i64.wrap n):=by
 unfold rngI IntKind.wrap
 simp only[IntKind.signed,IntKind.bits,Bool.true_and]
 have h1:=Int.emod_nonneg n (b:=(2 ^ 64:Int)) (by omega)
 have h2:=Int.emod_lt_of_pos n (b:=(2 ^ 64:Int)) (by omega)
 split
 ·rename_i h
  have h:=of_decide_eq_true h
  omega
 ·rename_i h
  have h:n % 18446744073709551616<9223372036854775808:=by simpa using h
  omega
set_option maxRecDepth 100000
set_option linter.unusedVariables false
set_option linter.unusedSimpArgs false
variable {w0 w:World} {F:Nat→Prop} {l:List As}
abbrev dcs(ds:List Dr):List Value:=ds.flatMap Dr.cs
theorem ceq_self:∀{k:LK} {v:Value},k.fit v=true→ceq v v=true
 | .int _,.int _ _,_=>by simp[ceq]
 | .str,.string _,_=>by simp[ceq]
 | .bool,.bool _,_=>by simp[ceq]
theorem ceqL_self:∀{ks:List LK} {xs:List Value},fitL ks xs=true→ceqL xs xs=true
 |[],[],_=>rfl
 |k::ks,x::xs,h=>by
  simp only[fitL,Bool.and_eq_true]at h
  simp only[ceqL,ceq_self h.1,ceqL_self h.2,Bool.and_self]
 |[],_::_,h=>by simp[fitL]at h
 |_::_,[],h=>by simp[fitL]at h
theorem EqS.eS{P:Program}{w:World}{t:TypeId}{ks:List LK}{xs:List Value}{x y:Operand}{k:Value→Prop}(h:lv P 20 t=some ks)(hs:isSt P t=true)(hg:P.eqGuardType P.depth t=false)(hx:fitL ks xs=true)
  (hk:k (.bool true)):Rd P (eqS .eql t x y (.agg xs.toArray) (.agg xs.toArray)) w k:=EqS.e h hs hg hx hx (by rw[ceqL_self hx];exact hk)
theorem EqS.nS{P:Program}{w:World}{t:TypeId}{ks:List LK}{xs:List Value}{x y:Operand}{k:Value→Prop}(h:lv P 20 t=some ks)(hs:isSt P t=true)(hg:P.eqGuardType P.depth t=false)(hx:fitL ks xs=true)
  (hk:k (.bool false)):Rd P (eqS .neq t x y (.agg xs.toArray) (.agg xs.toArray)) w k:=EqS.n h hs hg hx hx (by rw[ceqL_self hx];exact hk)
abbrev lkDir:List LK:=[.int .i64,.int .i64,.int .i64,.int .i64,.int .i64,.int .i64,.str,.str,.str,.str]
theorem lv_Dir:lv PP 20 Ty.t28=some lkDir:=by kernel_rfl
theorem st_Dir:isSt PP Ty.t28=true:=by kernel_rfl
theorem g_Dir:PP.eqGuardType PP.depth Ty.t28=false:=by kernel_rfl
theorem dcs_len(ds:List Dr):(dcs ds).length=ds.length*10:=by
 induction ds with
 |nil=>rfl
 |cons d r ih=>
  rw[dcs,List.flatMap_cons,List.length_append,List.length_cons]
  have:(List.flatMap Dr.cs r).length=r.length*10:=ih
  rw[this]
  show 10+r.length*10=(r.length+1)*10
  omega
theorem dcs_drop(ds:List Dr):∀i:Nat,(dcs ds).drop (i*10)=dcs (ds.drop i):=by
 induction ds with
 |nil=>intro i;simp
 |cons d r ih=>
  intro i
  cases i with
  |zero=>simp
  |succ i=>
   rw[dcs,List.flatMap_cons,show(i+1)*10=i*10+10 by omega]
   simp only[Dr.cs,List.cons_append,List.nil_append,List.drop_succ_cons]
   exact ih i
theorem eqDirs_ok{u v:Value}{ds:List Dr}(hn:ds.length≤1000000000)(E:Hs w0 F w l)(h1:RdS w0 F l 10 ds.length u (dcs ds))(h2:RdS w0 F l 10 ds.length v (dcs ds)):
  Ca PP Fn.f31 #[u,v] w λr w'=>r=.bool true∧Hs w0 F w' l:=by
 refine S.f31.calls ?_
 unfold S.f31
 refine h1.len ?_
 refine h2.len ?_
 refine Bi.neq (λh=>absurd rfl h) λ_=>?_
 repeat with_reducible refine Stp.go ?_
 refine h1.len ?_
 refine⟨λl1 w1=>∃i:Nat,l1=[i64 i]∧i≤ds.length∧Hs w0 F w1 l,λl1 _=>match l1 with|[.int _ i]=>ds.length-i.toNat|_=>0,⟨0,rfl,Nat.zero_le _,E⟩,?_⟩
 clear E
 rintro t u1 w1 ⟨i,e,hi,E⟩
 cases e
 refine Bi.lss ?_ ?_<;>intro hlt<;>(repeat with_reducible first|refine Stp.go ?_|(refine StpW.go E ?_;clear E;intro w_ E))
 ·have hx:ds[i]? =some ds[i]:=List.getElem?_eq_getElem (by omega)
  have hd:(dcs ds).drop (((i:Int)).toNat*10)=ds[i].cs++dcs (ds.drop (i+1)):=by
   rw[Int.toNat_natCast,dcs_drop,List.drop_eq_getElem_cons (by omega)];rfl
  refine h1.ix (by omega) (by omega) (by omega) ?_
  intro a ha
  rw[hd]at ha
  refine ha.lda E (m:=10) (ds:=ds[i].cs) rfl rfl (by omega) ?_
  refine h2.ix (by omega) (by omega) (by omega) ?_
  intro a2 ha2
  rw[hd]at ha2
  refine ha2.lda E (m:=10) (ds:=ds[i].cs) rfl rfl (by omega) ?_
  refine EqS.nS lv_Dir st_Dir g_Dir rfl ?_
  repeat with_reducible refine Stp.go ?_
  refine Bi.add (by omega) ?_
  exact⟨⟨i+1,by simp,by omega,E⟩,by simp only[];omega⟩
 ·exact⟨rfl,E⟩
theorem Bi.seqR{s:ByteArray}{k:Value→Prop}(hk:k (.bool true)):Bi .eql (.string s) (.string s) k:=Bi.seqT rfl hk
theorem Bi.eqlR{kk:IntKind}{a:Int}{k:Value→Prop}(hk:k (.bool true)):Bi .eql (.int kk a) (.int kk a) k:=Bi.eql (λ_=>hk) λh=>absurd rfl h

theorem RdS_scal{n sz:Nat}{v:Value}{xs:List Value}(h:RdS w0 F l sz n v xs):Scal v:=by
 obtain⟨a,c,rfl,_⟩:=h;exact⟨rfl⟩
set_option maxRecDepth 100000
set_option linter.unusedVariables false
set_option linter.unusedSimpArgs false
variable {w0 w:World} {F:Nat→Prop} {l:List As}
variable {D:List Row} {X:PT} {T:Tr} {β:Int→Nat}
theorem Tie.kidR(h:Tie D X T β)(hi:Inv T){n k:PN}{rs:List PN}(hp:X.ps.Perm (n::rs))(hk:k∈X.ps){s:BA}(hg:T.kid n.f.path s=some k.f):∃rs',rs.Perm (k::rs'):=by
 obtain⟨h1,h2,h3,_⟩:=(kid_some hi).1 hg
 obtain⟨rk,hrk⟩:=hi.rank
 rcases List.mem_cons.1 (hp.mem_iff.1 hk)with rfl|hr
 ·have:=hrk _ h1 h2
  rw[h3]at this;omega
 ·exact split_perm hr
theorem parent_root(hi:Inv T){n:Nd}(hn:n∈T.ns)(h0:n.path=0):T.parent n=n:=by
 unfold Tr.parent
 have h1:=(hi.rootD n hn h0).2
 have:T.get n.up=some n:=hi.get.2 ⟨hn,by rw[h0,h1]⟩
 rw[this];rfl
theorem Walk_ok(h:Tie D X T β)(hi:Inv T){user name:BA}{file:Int}(hns:name.size≤9223372036854775807)(hpool:Pool D∈l)(E:Hs w0 F w (trA X::l)):
  Ca PP Fn.f85 #[ptr X.t,str user,i64 file,str name] w λr w'=>r=.tuple #[(T.walk user file name).1.V,i64 (T.walk user file name).2]∧Hs w0 F w' (trA X::l):=by
 refine S.f85.calls ?_
 unfold S.f85
 repeat with_reducible (refine StpA.go E ?_;clear E;intro b_ w_ hb_ E)
 (revert b_;intro q hbq E)
 (replace E:=((E.bIx 0).bIx 1))
 refine(folder_ok h hi E).mono ?_
 clear E
 rintro r w_ ⟨E,⟨hg,rfl⟩|⟨n,rs,hpm,hn,hpath,hg,⟨hdir,rfl⟩|⟨hdir,rfl⟩⟩⟩
 ·(repeat first|(with_reducible first|refine Stp.go ?_|refine StpE.go E ?_|(refine StpW.go E ?_;clear E;intro w_ E))|((with_reducible refine Bi.dec true ?_ ?_);focus exact rfl))
  have e:T.walk user file name=(q0,4):=by unfold Tr.walk;simp only[hg]
  rw[e]
  exact⟨rfl,(E.bIx 1).tl⟩
 ·(repeat first|(with_reducible first|refine Stp.go ?_|refine StpE.go E ?_|(refine StpW.go E ?_;clear E;intro w_ E))|((with_reducible refine Bi.dec true ?_ ?_);focus exact rfl))
  have e:T.walk user file name=(q0,18):=by unfold Tr.walk;simp only[hg];rw[if_pos (by rw[hdir];rfl)]
  rw[e]
  exact⟨rfl,(E.bIx 1).tl⟩
 have hdn:¬(!n.f.dir)=true:=by rw[hdir];simp
 subst hpath
 repeat first|(with_reducible first|refine Stp.go ?_)|((with_reducible refine Bi.dec false ?_ ?_);focus exact rfl)
 replace E:=Hs.openTN hpm E
 have keep:∀w,Hs w0 F w (tb X::mp X.fm (.int .i64) X.fM::mp X.gm .str X.gM::mp X.om (.int .i64) X.oM::nd n.blk n.mn::KM n::NT rs::DT X.ds::qd0 q::l)→Hs w0 F w (trA X::l):=λw E=>((Hs.closeTN X n hpm E).bIx 1).tl
 have keepQ:∀w (a:Qd),Hs w0 F w (tb X::mp X.fm (.int .i64) X.fM::mp X.gm .str X.gM::mp X.om (.int .i64) X.oM::nd n.blk n.mn::KM n::NT rs::DT X.ds::pt q (oc a.cs Ty.api_Qid)::l)→Hs w0 F w (trA X::l):=λw a E=>((Hs.closeTN X n hpm E).bIx 1).tl
 refine(may_ok (m:=n.mn) (D:=D) (by simp[hpool]) h.gs E).mono ?_
 clear E
 rintro r w_ ⟨rfl,E⟩
 have hmay:permF n.mn.mode (decide (user=n.mn.owner)) (memberG T.gs user n.mn.group) 1=T.may user n.f 1:=rfl
 rw[hmay]
 cases hm:T.may user n.f 1 with
 |false=>
  repeat with_reducible first|refine Stp.go ?_|refine StpE.go E ?_|(refine StpW.go E ?_;clear E;intro w_ E)
  have e:T.walk user n.f.path name=(q0,17):=by unfold Tr.walk;simp only[hg,if_neg hdn,hm,Bool.not_false,if_true]
  rw[e]
  exact⟨rfl,keep _ E⟩
 |true=>
  have hmn:¬(!T.may user n.f 1)=true:=by rw[hm];simp
  repeat with_reducible refine Stp.go ?_
  refine Bi.seql ?_ ?_<;>intro c1<;>(repeat with_reducible first|refine Stp.go ?_|refine StpE.go E ?_|(refine StpW.go E ?_;clear E;intro w_ E))
  ·have e:T.walk user n.f.path name=(n.f.qid,0):=by unfold Tr.walk;simp only[hg,if_neg hdn,if_neg hmn,if_pos c1]
   rw[e]
   exact⟨rfl,keepQ _ n.f.qid E⟩
  refine Bi.seql ?_ ?_<;>intro c2<;>(repeat with_reducible refine Stp.go ?_)
  ·have e:T.walk user n.f.path name=((T.parent n.f).qid,0):=by unfold Tr.walk;simp only[hg,if_neg hdn,if_neg hmn,if_neg c1,if_pos c2]
   rw[e]
   (intro J25 hJ25)
   repeat with_reducible first|refine Stp.go ?_|refine StpE.go E ?_
   by_cases h0:n.f.path=0
   ·have hub:n.mn.up=none:=(h.ub n hn).1 h0
    rw[hub]
    simp only[Option.map_none]
    refine Eq.nf u_p_node rfl ?_
    repeat with_reducible first|refine Stp.go ?_|refine StpE.go E ?_|(refine StpW.go E ?_;clear E;intro w_ E)|(apply hJ25;intro u_)
    rw[parent_root hi (h.mem.2 ⟨n,hn,rfl⟩) h0]
    exact⟨rfl,keepQ _ n.f.qid E⟩
   ·obtain⟨u,rs',hp',hu,hub,h3,h4,h5,h6,h7⟩:=h.parent hi hpm h0
    have hub':n.mn.up=some u.blk:=hub
    rw[hub']
    simp only[Option.map_some]
    refine Eq.nt u_p_node rfl ?_
    repeat with_reducible first|refine Stp.go ?_|refine StpE.go E ?_|(apply hJ25;intro u_)
    rw[hub']
    simp only[Option.map_some]
    replace E:=Hs.openN (E.bIx 6) hp'
    repeat with_reducible first|refine Stp.go ?_|refine StpE.go E ?_|(refine StpW.go E ?_;clear E;intro w_ E)
    rw[h7]
    refine⟨rfl,?_⟩
    replace E:=Hs.permN (Hs.closeN u E) hp'.symm
    (replace E:=(((((((E.bIx 0).bIx 6).bIx 6).bIx 6).bIx 6).bIx 6).bIx 6))
    exact keepQ _ u.f.qid E
  refine(Valid_ok hns).mono ?_
  rintro r w' ⟨rfl,rfl⟩
  cases hgn:goodName name with
  |false=>
   repeat with_reducible first|refine Stp.go ?_|refine StpE.go E ?_|(refine StpW.go E ?_;clear E;intro w_ E)
   have e:T.walk user n.f.path name=(q0,8):=by unfold Tr.walk;simp only[hg,if_neg hdn,if_neg hmn,if_neg c1,if_neg c2,hgn,Bool.not_false,if_true]
   rw[e]
   exact⟨rfl,keep _ E⟩
  |true=>
   have hgn':¬(!goodName name)=true:=by rw[hgn];simp
   repeat with_reducible first|refine Stp.go ?_|refine StpE.go E ?_
   have hkb:n.mn.kids=some n.kb:=if_pos hdir
   rw[hkb]
   replace E:=Hs.openK hdir (E.bIx 5)
   refine Lk.ok E FMp.mem u_mkids k_str z_p_node rfl ?_
   rw[aget_enc keyS]
   rcases h.kid hi hn name with⟨k1,k2⟩|⟨k,hk,k1,k2⟩
   ·rw[k2]
    simp only[Option.map_none,Option.getD_none,Option.isSome_none]
    repeat with_reducible first|refine Stp.go ?_|refine StpE.go E ?_|(refine StpW.go E ?_;clear E;intro w_ E)
    have e:T.walk user n.f.path name=(q0,4):=by unfold Tr.walk;simp only[hg,if_neg hdn,if_neg hmn,if_neg c1,if_neg c2,if_neg hgn',k1]
    rw[e]
    replace E:=Hs.closeK hdir E
    (replace E:=((((((E.bIx 0).bIx 5).bIx 5).bIx 5).bIx 5).bIx 5))
    exact⟨rfl,keep _ E⟩
   ·rw[k2]
    simp only[Option.map_some,Option.getD_some,Option.isSome_some]
    repeat with_reducible refine Stp.go ?_
    have e:T.walk user n.f.path name=(k.f.qid,0):=by unfold Tr.walk;simp only[hg,if_neg hdn,if_neg hmn,if_neg c1,if_neg c2,if_neg hgn',k1]
    rw[e]
    obtain⟨rs',hp'⟩:=h.kidR hi hpm hk k1
    replace E:=Hs.openN (E.bIx 6) hp'
    repeat with_reducible first|refine StpE.go E ?_|(refine StpW.go E ?_;clear E;intro w_ E)
    refine⟨rfl,?_⟩
    replace E:=Hs.permN (Hs.closeN k E) hp'.symm
    (replace E:=(((((((E.bIx 0).bIx 1).bIx 6).bIx 6).bIx 6).bIx 6).bIx 6))
    replace E:=Hs.closeK hdir (E.bIx 5)
    (replace E:=((((((E.bIx 0).bIx 5).bIx 5).bIx 5).bIx 5).bIx 5))
    exact keepQ _ k.f.qid E
set_option maxRecDepth 100000
set_option linter.unusedVariables false
set_option linter.unusedSimpArgs false
variable {w0 w:World} {F:Nat→Prop} {l:List As}
theorem TrimPrefix_ok{s p:BA}(E:Hs w0 F w l):Ca PP Fn.strings_TrimPrefix #[str s,str p] w λr w'=>r=str ⟨(Lib.trimPrefix s.data.toList p.data.toList).toArray⟩∧Hs w0 F w' l:=by
 refine Calls.mono (Tryz.strings_TrimPrefix s p w) ?_
 rintro e w' ⟨rfl,rfl⟩
 exact⟨_,rfl,rfl,E⟩
theorem trim_size(s:BA):(trimS s).size≤s.size:=by
 unfold trimS Lib.trimPrefix
 have h:∀x:List UInt8,(⟨x.toArray⟩:BA).size=x.length:=λx=>by show x.toArray.size=_;simp
 have h2:s.data.toList.length=s.size:=by simp
 rw[h]
 split
 ·rw[List.length_drop];omega
 ·omega
theorem join_size(l:List BA):(joinS l).size≤tot l:=by
 have:=join_len l
 unfold joinS
 show(Lib.join _ _).toArray.size≤_
 rw[List.size_toArray];exact this
theorem clean_size(s:BA):(cleanS s).size≤s.size+2:=by
 have h1:=join_size (elemsC s)
 have h2:=elems_tot s
 unfold cleanS
 split
 ·have:(sep++joinS (elemsC s)).size=1+(joinS (elemsC s)).size:=by
   have:ByteArray.size sep=1:=rfl
   rw[ByteArray.size_append,this]
  omega
 split
 ·show 1≤_;omega
 ·omega
theorem Split_ok {s : BA} (E : Hs w0 F w l) : Ca PP Fn.tree_Split #[str s] w fun r w'=>∃ v,r = .tuple #[v,i64 (splitP s).2]∧Hs w0 F w' (slA v Ty.t9 1 ((splitP s).1.map str)::l):=by
  refine S.tree_Split.calls ?_
  unfold S.tree_Split
  refine StpA.go E ?_
  clear E
  intro a2 w_ h2 E
  refine StpA.go E ?_
  clear E
  intro a3 w_ h3 E
  repeat with_reducible refine Stp.go ?_
  refine Bi.gtr ?_ ?_ <;> intro c1 <;> (repeat with_reducible first|refine Stp.go ?_|refine StpE.go E ?_|(refine StpW.go E ?_; clear E; intro w_ E)|(refine StpA.go E ?_; clear E; intro b_ w_ hb_ E))
  · have e : splitP s = ([],3):=by unfold splitP; rw [if_pos (by omega)]
    rw [e]
    exact ⟨_,rfl,Hs.nilSl E.tl.tl _ _⟩
  have hs : s.size≤1000000000:=by omega
  (revert b_; intro a4 hba4 E)
  refine (Clean_ok hs E).mono ?_
  clear E
  rintro r w_ ⟨rfl,E⟩
  refine (TrimPrefix_ok E).mono ?_
  clear E
  rintro r w_ ⟨rfl,E⟩
  have htr : (⟨(Lib.trimPrefix (cleanS s).data.toList (⟨#[47]⟩ : BA).data.toList).toArray⟩ : BA) = trimS (cleanS s):=rfl
  rw [htr]
  have hsz : (trimS (cleanS s)).size≤1000000000:=by
    have:=trim_size (cleanS s)
    have:=clean_size s
    omega
  refine (SplitSeq_ok E).mono ?_
  clear E
  rintro r w_ ⟨b1,b2,b3,rfl,E⟩
  simp only [List.cons_append,List.nil_append] at E
  replace E:=E.nilSl Ty.t9 1
  (replace E:=(((((((E.bIx 3).bIx 3).bIx 3).bIx 6).bIx 6).bIx 6).bIx 6))
  have htot:=splitS_tot (trimS (cleanS s))
  have hlenS:=tot_len (splitS (trimS (cleanS s)))
  have hwalk:=walkE_clean s
  have hit:=split_iter (w0:=w0) (F:=F) (a1:=b1) (a2:=b2) (a3:=b3) hsz
  generalize hwh : splitS (trimS (cleanS s)) = whole at *
  refine RFo.hs (Pf:=InOrder whole) (Whole:=(· = whole)) rfl b_split1 hit
    (fun pre ks=>∃ v out,(∀ rest,walkE [] (pre++rest) = walkE out rest)∧out.length≤pre.length∧ks = [slA v Ty.t9 1 (out.map str),pt a4 (oc [v] Ty.t8),pt a3 (oc [i64 0] Ty.api_Errno),pt a2 (oc [.slice none 0 0] Ty.t8)])
    (fun _ _ _=>False) (fun pre ks=>(∃ rest,whole = pre++rest)∧(∀ rest,walkE [] (pre++rest) = none)∧∃ (v : Value) (out : List BA),ks = [slA v Ty.t9 1 (out.map str),pt a4 (oc [v] Ty.t8),pt a3 (oc [i64 8] Ty.api_Errno),pt a2 (oc [.slice none 0 0] Ty.t8)])
    (ks:=[slA (.slice none 0 0) Ty.t9 1 [],pt a4 (oc [.slice none 0 0] Ty.t8),pt a3 (oc [i64 0] Ty.api_Errno),pt a2 (oc [.slice none 0 0] Ty.t8)]) E ⟨_,[],fun _=>rfl,Nat.le_refl _,rfl⟩ ?_ ?_ (fun _ _ _ _ _ _ h _=>h.elim) ?_
  · clear E
    rintro r L D pre x w_ _ rest' Rn Re Rr hL hD hp ⟨v,out,hw,hol,rfl⟩ E hn - hr
    simp only [List.cons_append,List.nil_append] at E
    have hpl : pre.length < whole.length:=(List.getElem?_eq_some_iff.1 hp.2).1
    have hpx : whole = (pre++[x])++whole.drop (pre.length + 1):=by
      have h1 : whole.take (pre.length + 1) = pre++[x]:=by rw [List.take_add_one,hp.2,← hp.1]; rfl
      rw [← h1,List.take_append_drop]
    have hxm : x∈whole:=List.mem_of_getElem? hp.2
    have hxs : x.size≤9223372036854775807:=by
      have h1 : ∀ (l : List BA),x∈l→x.size + 1≤tot l:=by
        intro l
        induction l with
        | nil=>intro h; cases h
        | cons y r ih =>
          intro h
          have e : tot (y::r) = y.size + 1 + tot r:=by simp [tot]
          rcases List.mem_cons.1 h with rfl | h
          · omega
          · have:=ih h; omega
      have:=h1 whole hxm
      omega
    repeat with_reducible first|refine Stp.go ?_|(refine StpW.go E ?_; clear E; intro w_ E)
    (intro J27 hJ27)
    have fin27 : ∀ b w_,b = decide (x = emp∨x = dot1)→Hs w0 F w_ (pt L (lpO r .busy none)::pt D dfO::slA v Ty.t9 1 (out.map str)::pt a4 (oc [v] Ty.t8)::pt a3 (oc [i64 0] Ty.api_Errno)::pt a2 (oc [.slice none 0 0] Ty.t8)::rest')→J27 [.bool b] w_:=by
      intro b w_ hb E
      repeat with_reducible (apply hJ27; intro u_)
      by_cases c1 : x = emp∨x = dot1
      · rw [decide_eq_true c1] at hb
        subst hb
        repeat with_reducible refine Stp.go ?_
        refine hn _ _ ⟨v,out,fun rest=>?_,by simp; omega,rfl⟩ E
        rw [List.append_assoc,hw,List.singleton_append,walkE_step,if_pos c1]
      rw [decide_eq_false c1] at hb
      subst hb
      repeat with_reducible refine Stp.go ?_
      (intro J31 hJ31)
      have fin31 : ∀ b w_,b = badE x→Hs w0 F w_ (pt L (lpO r .busy none)::pt D dfO::slA v Ty.t9 1 (out.map str)::pt a4 (oc [v] Ty.t8)::pt a3 (oc [i64 0] Ty.api_Errno)::pt a2 (oc [.slice none 0 0] Ty.t8)::rest')→J31 [.bool b] w_:=by
        intro b w_ hb E
        repeat with_reducible (apply hJ31; intro u_)
        cases hbx : badE x with
        | true =>
          rw [hbx] at hb
          subst hb
          repeat with_reducible first|refine Stp.go ?_|(refine StpW.go E ?_; clear E; intro w_ E)
          refine hr _ _ ⟨⟨_,hpx⟩,fun rest=>?_,v,out,rfl⟩ E
          rw [List.append_assoc,hw,List.singleton_append,walkE_step,if_neg c1,if_pos hbx]
        | false =>
          rw [hbx] at hb
          subst hb
          repeat with_reducible first|refine Stp.go ?_|refine StpE.go E ?_
          refine BdS.one E u_sl_string e_string rfl ?_
          clear E
          intro v2 w_ E
          refine Ap.one E (i:=3) rfl u_sl_string ⟨_,u_sl_string,fun _ h=>by cases h⟩ e_string (Src.one E (by (first | assumption | exact FPt.mem | exact FMp.mem | exact FSl.mem|(repeat (first | assumption | with_reducible exact List.mem_cons_self|refine List.mem_cons_of_mem _ ?_)))) rfl) rfl (by simp; omega) (by simp; omega) ?_
          clear E
          intro s' w_ E
          (try simp only [List.set_cons_zero,List.set_cons_succ,List.cons_append,List.nil_append,Nat.zero_add,Nat.add_zero] at E)
          repeat with_reducible (refine StpW.go E ?_; clear E; intro w_ E)
          refine hn _ _ ⟨s',out++[x],fun rest=>?_,by simp; omega,rfl⟩ ?_
          · rw [List.append_assoc,hw,List.singleton_append,walkE_step,if_neg c1,if_neg (by rw [hbx]; simp)]
          · simp only [List.cons_append,List.nil_append]
            (replace E:=(E.bSl v2))
            (replace E:=(E.bIx 0).tl)
            have e1 : (out++[x]).map str = out.map str++[str x]:=by simp
            rw [e1]
            exact E
      clear hJ31
      skip
      refine Bi.sneq ?_ ?_ <;> intro c2 <;> (repeat with_reducible refine Stp.go ?_)
      · refine (Valid_ok hxs).mono ?_
        rintro r w' ⟨rfl,rfl⟩
        have c2 : ¬ x = dot2:=c2
        cases hg : goodName x with
        | true=>(repeat with_reducible refine Stp.go ?_); exact fin31 _ _ (by simp [badE,hg]) E
        | false=>(repeat with_reducible refine Stp.go ?_); exact fin31 _ _ (by simp [badE,hg,c2]) E
      · have c2 : x = dot2:=c2
        exact fin31 _ _ (by simp [badE,c2]) E
    clear hJ27
    skip
    refine Bi.seql ?_ ?_ <;> intro c1 <;> (repeat with_reducible refine Stp.go ?_)
    · exact fin27 _ _ (by rw [decide_eq_true (.inl c1)]) E
    · refine Bi.seql ?_ ?_ <;> intro c2 <;> (repeat with_reducible refine Stp.go ?_)
      · exact fin27 _ _ (by rw [decide_eq_true (.inr c2)]) E
      · exact fin27 _ _ (by rw [decide_eq_false (fun h=>h.elim c1 c2)]) E
  · clear E
    rintro D w_ xs _ hD rfl ⟨v,out,hw,hol,rfl⟩ E
    simp only [List.cons_append,List.nil_append] at E
    repeat with_reducible first|refine Stp.go ?_|refine StpE.go E ?_|(refine StpW.go E ?_; clear E; intro w_ E)
    have h1:=hw []
    rw [List.append_nil,hwalk] at h1
    have hno : (elemsC s).any badE = false∧elemsC s = out:=by
      cases hb : (elemsC s).any badE with
      | true=>rw [hb] at h1; simp [walkE] at h1
      | false=>rw [hb] at h1; exact ⟨rfl,by simpa [walkE] using h1⟩
    have e : splitP s = (out,0):=by unfold splitP; rw [if_neg (by omega),if_neg (by rw [hno.1]; simp),hno.2]
    rw [e]
    refine ⟨_,rfl,?_⟩
    (replace E:=(E.bSl v))
    replace E:=E.drop (List.Sublist.cons_cons _ (List.sublist_append_right [_,_,_] l))
    exact E
  · clear E
    rintro D w_ xs ks hD ⟨⟨rest,hx⟩,hno,v,out,rfl⟩ E
    simp only [List.cons_append,List.nil_append] at E
    repeat with_reducible first|refine Stp.go ?_|refine StpE.go E ?_|(refine StpW.go E ?_; clear E; intro w_ E)
    have h1:=hno rest
    rw [← hx,hwalk] at h1
    have hb : (elemsC s).any badE = true:=by
      cases hb : (elemsC s).any badE with
      | true=>rfl
      | false=>rw [hb] at h1; simp at h1
    have e : splitP s = ([],8):=by unfold splitP; rw [if_neg (by omega),if_pos hb]
    rw [e]
    refine ⟨_,rfl,Hs.nilSl ?_ _ _⟩
    exact E.drop (List.sublist_append_right [_,_,_,_] l)
set_option maxRecDepth 100000
set_option linter.unusedVariables false
set_option linter.unusedSimpArgs false
variable {w0 w:World} {F:Nat→Prop} {l:List As}
variable {D:List Row} {X:PT} {T:Tr} {β:Int→Nat}

theorem filter_lt{α:Type}{p q:α→Bool}{x:α}:∀{l:List α},(∀y∈l,p y=true→q y=true)→x∈l→p x=false→q x=true→(l.filter p).length<(l.filter q).length
 |[],_,h,_,_=>by cases h
 |y::r,hs,h,hp,hq=>by
  have le:∀{l:List α},(∀y∈l,p y=true→q y=true)→(l.filter p).length≤(l.filter q).length:=by
   intro l
   induction l with
   |nil=>intro _;exact Nat.le_refl _
   |cons z t ih=>
    intro hz
    have:=ih λy hy=>hz y (List.mem_cons_of_mem _ hy)
    have hzz:=hz z List.mem_cons_self
    rw[List.filter_cons,List.filter_cons]
    cases hpz:p z with
    |true=>rw[if_pos rfl,if_pos (hzz hpz)];simp only[List.length_cons];omega
    |false=>rw[if_neg Bool.false_ne_true];split<;>(try simp only[List.length_cons])<;>omega
  have hr:∀z∈r,p z=true→q z=true:=λz hz=>hs z (List.mem_cons_of_mem _ hz)
  rw[List.filter_cons,List.filter_cons]
  rcases List.mem_cons.1 h with rfl|h
  ·rw[if_neg (by rw[hp];simp),if_pos hq]
   have:=le hr
   simp only[List.length_cons];omega
  ·have ih:=filter_lt hr h hp hq
   cases hpy:p y with
   |true=>rw[if_pos rfl,if_pos (hs y List.mem_cons_self hpy)];simp only[List.length_cons];omega
   |false=>rw[if_neg Bool.false_ne_true];split<;>(try simp only[List.length_cons])<;>omega
theorem Inv.rankB(hi:Inv T):∃rk:Int→Nat,(∀n∈T.ns,n.path≠0→rk n.up<rk n.path)∧∀p,rk p≤1024:=by
 obtain⟨rk,hrk⟩:=hi.rank
 refine⟨λp=>(T.ns.filter λm=>decide (rk m.path<rk p)).length,λn hn h0=>?_,λp=>Nat.le_trans (List.length_filter_le _ _) hi.few.1⟩
 obtain⟨u,hu,h1,_⟩:=hi.up n hn h0
 have hlt:=hrk n hn h0
 refine filter_lt (x:=u) (λm _ hm=>?_) hu (by rw[h1];simp) (by rw[h1];simpa using hlt)
 have hm:rk m.path<rk n.up:=by simpa using hm
 exact decide_eq_true (by omega)

def chainN(T:Tr):Nat→Nd→List BA
 |0,_=>[]
 |f+1,n=>if n.path=0 then[]else chainN T f (T.parent n)++[n.name]
def Tr.chain(T:Tr)(n:Nd):List BA:=chainN T 2000 n
def Tr.pathS(T:Tr)(n:Nd):BA:=sep++joinS (T.chain n)
theorem parent_mem(hi:Inv T){n:Nd}(hn:n∈T.ns)(h0:n.path≠0):T.parent n∈T.ns∧(T.parent n).path=n.up∧(T.parent n).dir=true:=by
 obtain⟨u,hu,h1,h2⟩:=hi.up n hn h0
 have:T.get n.up=some u:=hi.get.2 ⟨hu,h1⟩
 unfold Tr.parent
 rw[this]
 exact⟨hu,h1,h2⟩
theorem chainN_fuel(hi:Inv T){rk:Int→Nat}(hrk:∀n∈T.ns,n.path≠0→rk n.up<rk n.path):∀(f g:Nat) {n:Nd},n∈T.ns→rk n.path<f→rk n.path<g→chainN T f n=chainN T g n
 |0,_,_,_,h,_=>absurd h (Nat.not_lt_zero _)
 |_+1,0,_,_,_,h=>absurd h (Nat.not_lt_zero _)
 |f+1,g+1,n,hn,h1,h2=>by
  unfold chainN
  by_cases h0:n.path=0
  ·rw[if_pos h0,if_pos h0]
  ·rw[if_neg h0,if_neg h0]
   obtain⟨p1,p2,_⟩:=parent_mem hi hn h0
   have:=hrk n hn h0
   rw[chainN_fuel hi hrk f g p1 (by rw[p2];omega) (by rw[p2];omega)]
theorem chain_root{n:Nd}(h0:n.path=0):T.chain n=[]:=by
 unfold Tr.chain chainN;rw[if_pos h0]
theorem chain_step(hi:Inv T){n:Nd}(hn:n∈T.ns)(h0:n.path≠0):T.chain n=T.chain (T.parent n)++[n.name]:=by
 obtain⟨rk,hrk,hb⟩:=hi.rankB
 obtain⟨p1,p2,_⟩:=parent_mem hi hn h0
 have e:T.chain n=chainN T 1999 (T.parent n)++[n.name]:=by
  unfold Tr.chain
  rw[chainN,if_neg h0]
 rw[e]
 congr 1
 exact chainN_fuel hi hrk _ _ p1 (by have:=hb (T.parent n).path;omega) (by have:=hb (T.parent n).path;omega)
theorem chain_len(hi:Inv T){n:Nd}(hn:n∈T.ns):(T.chain n).length≤1024:=by
 obtain⟨rk,hrk,hb⟩:=hi.rankB
 have key:∀(k:Nat) (n:Nd),n∈T.ns→rk n.path≤k→(T.chain n).length≤k:=by
  intro k
  induction k with
  |zero=>
   intro n hn hk
   by_cases h0:n.path=0
   ·rw[chain_root h0];exact Nat.le_refl _
   ·have:=hrk n hn h0;omega
  |succ k ih=>
   intro n hn hk
   by_cases h0:n.path=0
   ·rw[chain_root h0];exact Nat.zero_le _
   ·have:=hrk n hn h0
    obtain⟨p1,p2,_⟩:=parent_mem hi hn h0
    rw[chain_step hi hn h0,List.length_append]
    have:=ih _ p1 (by rw[p2];omega)
    simp only[List.length_singleton];omega
 exact key _ n hn (hb _)
theorem good_size{s:BA}(h:goodName s=true):s.size≤40:=by
 unfold goodName at h
 simp only[Bool.and_eq_true,decide_eq_true_eq]at h
 exact h.2.1.1.2
theorem chain_good(hi:Inv T){n:Nd}(hn:n∈T.ns):∀x∈T.chain n,goodName x=true:=by
 obtain⟨rk,hrk,hb⟩:=hi.rankB
 have key:∀(k:Nat) (n:Nd),n∈T.ns→rk n.path≤k→∀x∈T.chain n,goodName x=true:=by
  intro k
  induction k with
  |zero=>
   intro n hn hk x hx
   by_cases h0:n.path=0
   ·rw[chain_root h0]at hx;cases hx
   ·have:=hrk n hn h0;omega
  |succ k ih=>
   intro n hn hk x hx
   by_cases h0:n.path=0
   ·rw[chain_root h0]at hx;cases hx
   ·have:=hrk n hn h0
    obtain⟨p1,p2,_⟩:=parent_mem hi hn h0
    rw[chain_step hi hn h0]at hx
    rcases List.mem_append.1 hx with hx|hx
    ·exact ih _ p1 (by rw[p2];omega) x hx
    ·rw[List.mem_singleton.1 hx];exact hi.good n hn h0
 exact key _ n hn (hb _)
theorem tot_good{l:List BA}(h:∀x∈l,goodName x=true):tot l≤l.length*41:=by
 induction l with
 |nil=>exact Nat.le_refl _
 |cons x r ih=>
  have e:tot (x::r)=x.size+1+tot r:=by simp[tot]
  have:=good_size (h x List.mem_cons_self)
  have:=ih λy hy=>h y (List.mem_cons_of_mem _ hy)
  simp only[List.length_cons];omega
theorem joinS_cons{x:BA}{r:List BA}(h:r≠[]):joinS (x::r)=x++sep++joinS r:=by
 refine ba_ext ?_
 cases r with
 |nil=>exact absurd rfl h
 |cons y r=>unfold joinS;simp[Lib.join,List.intercalate]
theorem joinS_one(x:BA):joinS [x]=x:=by
 refine ba_ext ?_
 unfold joinS;simp[Lib.join,List.intercalate]

theorem Hs.ntAt{ps:List PN}(E:Hs w0 F w l)(hm:NT ps∈l){n:PN}(hn:n∈ps):w.heap[n.blk]? =some (oc n.mn.C Ty.tree_node):=by
 have h1:=(E.sat _ hm).1 (PN.as n) (List.mem_map.2 ⟨n,hn,rfl⟩)
 exact h1.1 (nd n.blk n.mn) List.mem_cons_self
theorem Ld.nt{ps:List PN}(E:Hs w0 F w l)(hm:NT ps∈l){n:PN}(hn:n∈ps){o:Nat}{v:Value}{k:Value→Prop}(hv:n.mn.C[o]? =some v)(hk:k v):Ld (.pointer (some ⟨n.blk,o,none⟩)) w k:=
 Ld.ob (Hs.ntAt E hm hn) (by simpa using hv) hk
theorem Hs.nodupN'{ps:List PN}(E:Hs w0 F w l)(hm:NT ps∈l):∀a∈ps,∀b∈ps,a.blk=b.blk→a=b:=by
 obtain⟨r,hp⟩:=split_perm hm
 have hn:=Hs.nodupN (E.perm hp)
 intro a ha b hb he
 have key:∀(ps:List PN),(ps.map PN.blk).Nodup→a∈ps→b∈ps→a=b:=by
  intro ps
  induction ps with
  |nil=>intro _ h;cases h
  |cons x r ih=>
   intro hp ha hb
   rw[List.map_cons,List.nodup_cons]at hp
   rcases List.mem_cons.1 ha with h1|ha<;>rcases List.mem_cons.1 hb with h2|hb
   ·rw[h1,h2]
   ·exact absurd (List.mem_map.2 ⟨b,hb,by rw[← h1,he]⟩) hp.1
   ·exact absurd (List.mem_map.2 ⟨a,ha,by rw[← h2,he]⟩) hp.1
   ·exact ih hp.2 ha hb
 exact key _ hn ha hb
theorem up_val(h:Tie D X T β)(hi:Inv T){n:PN}(hn:n∈X.ps):(n.f.path=0∧n.mn.C[12]? =some np)∨(n.f.path≠0∧∃u∈X.ps,n.mn.C[12]? =some (ptr u.blk)∧T.parent n.f=u.f):=by
 by_cases h0:n.f.path=0
 ·left
  refine⟨h0,?_⟩
  have:n.ub=none:=(h.ub n hn).1 h0
  simp[MN.C,PN.mn,this]
 ·right
  obtain⟨rs,hp⟩:=split_perm hn
  obtain⟨u,rs',hp',hu,h2,h3,h4,h5,h6,h7⟩:=h.parent hi hp h0
  exact⟨h0,u,hu,by simp[MN.C,PN.mn,h2],h7⟩

def Tr.findN(T:Tr)(n:Nd):List BA→Qd×Int
 |[]=>(n.qid,0)
 |s::r=>if n.dir=false then(q0,18)else match T.kid n.path s with
  |none=>(q0,4)
  |some k=>T.findN k r
def Tr.find(T:Tr)(p:BA):Qd×Int:=
 if absP p=false then(q0,1)else if(splitP p).2≠0 then(q0,(splitP p).2)else match T.get 0 with
  |none=>(q0,4)
  |some n=>T.findN n (splitP p).1
theorem kids_val{n:PN}:n.mn.C[11]? =some (.map (if n.f.dir then some n.kb else none)):=rfl
theorem isDirN{ps:List PN}{n:PN}(hn:n∈ps)(hm:NT ps∈l)(E:Hs w0 F w l):Ca PP Fn.f18 #[ptr n.blk] w λr w'=>r=.bool n.f.dir∧Hs w0 F w' l:=by
 refine S.f18.calls ?_
 unfold S.f18
 repeat with_reducible refine Stp.go ?_
 refine Ld.nt E hm hn (v:=i64 n.f.mode) rfl ?_
 repeat with_reducible refine Stp.go ?_
 refine Bi.neq ?_ ?_<;>intro h1
 ·exact⟨by show _=Value.bool (isD n.f.mode);simp[isD,h1],E⟩
 ·exact⟨by show _=Value.bool (isD n.f.mode);simp[isD,h1],E⟩
theorem mapAtN{ps:List PN}{n:PN}(hn:n∈ps)(hd:n.f.dir=true)(hm:NT ps∈l)(E:Hs w0 F w l):∃l',mp n.kb .str n.kM∈l'∧Hs w0 F w l':=by
 obtain⟨r,hp⟩:=split_perm hm
 obtain⟨rs,hps⟩:=split_perm hn
 have E1:=(Hs.openN (E.perm hp) hps).bIx 1
 exact⟨_,List.mem_cons_self,Hs.openK hd E1⟩
theorem Find_ok(h:Tie D X T β)(hi:Inv T){p:BA}(E:Hs w0 F w (trA X::l)):Ca PP Fn.f87 #[ptr X.t,str p] w λr w'=>r=.tuple #[(T.find p).1.V,i64 (T.find p).2]∧Hs w0 F w' (trA X::l):=by
 refine S.f87.calls ?_
 unfold S.f87
 repeat with_reducible (refine StpA.go E ?_;clear E;intro b_ w_ hb_ E)
 (revert b_;intro q hbq E)
 (replace E:=((E.bIx 0).bIx 1))
 refine Eq.ef u_p_tree rfl ?_
 repeat with_reducible refine Stp.go ?_
 (intro J7 hJ7)
 have fin7:∀b w_,b= !absP p→Hs w0 F w_ (trA X::qd0 q::l)→J7 [.bool b] w_:=by
  intro b w_ hb E
  repeat with_reducible (apply hJ7;intro u_)
  cases ha:absP p with
  |false=>
   obtain rfl:b=true:=by rw[hb,ha];rfl
   repeat with_reducible first|refine Stp.go ?_|refine StpE.go E ?_|(refine StpW.go E ?_;clear E;intro w_ E)
   have e:T.find p=(q0,1):=by unfold Tr.find;rw[if_pos ha]
   rw[e]
   exact⟨rfl,(E.bIx 1).tl⟩
  |true=>
   have han:¬absP p=false:=by rw[ha];simp
   obtain rfl:b=false:=by rw[hb,ha];rfl
   repeat with_reducible refine Stp.go ?_
   refine(Split_ok E).mono ?_
   clear E
   rintro r w_ ⟨v,rfl,E⟩
   repeat with_reducible refine Stp.go ?_
   refine Bi.neq ?_ ?_<;>intro h2<;>(repeat with_reducible first|refine Stp.go ?_|refine StpE.go E ?_|(refine StpW.go E ?_;clear E;intro w_ E))
   ·have e:T.find p=(q0,(splitP p).2):=by unfold Tr.find;rw[if_neg han,if_pos h2]
    rw[e]
    exact⟨rfl,(E.tl.bIx 1).tl⟩
   obtain⟨r0,hr0,hr1,hr2⟩:=h.root
   have hg0:T.get 0=some r0.f:=hi.get.2 ⟨h.mem.2 ⟨r0,hr0,rfl⟩,hr1⟩
   have e:T.find p=T.findN r0.f (splitP p).1:=by unfold Tr.find;rw[if_neg han,if_neg (λhc=>hc h2)];simp only[hg0]
   rw[e]
   generalize hL:(splitP p).1=L at*
   have hlen:L.length≤1025:=by
    rw[← hL]
    unfold splitP
    split
    ·exact Nat.zero_le _
    split
    ·exact Nat.zero_le _
    ·have h1:=elems_tot p
     have h2:=tot_len (elemsC p)
     show(elemsC p).length≤1025
     omega
   replace E:=Hs.openT (E.bIx 1)
   repeat with_reducible refine StpE.go E ?_
   rw[← hr2]
   rw[List.length_map]
   refine⟨λl1 w1=>∃(i:Nat) (n:PN),n∈X.ps∧i≤L.length∧T.findN r0.f L=T.findN n.f (L.drop i)∧l1=[ptr n.blk,i64 i]∧Hs w0 F w1 (tb X::mp X.fm (.int .i64) X.fM::mp X.gm .str X.gM::mp X.om (.int .i64) X.oM::NT X.ps::DT X.ds::slA v Ty.t9 1 (L.map str)::qd0 q::l),
    λl1 _=>match l1 with|[_,.int _ i]=>L.length-i.toNat|_=>0,⟨0,r0,hr0,Nat.zero_le _,rfl,rfl,E⟩,?_⟩
   clear E
   rintro t8 t37 e0 w1 ⟨i,n,hn,hi',hf,h1,E⟩
   cases h1
   refine Bi.lss ?_ ?_<;>intro hlt<;>(repeat with_reducible refine Stp.go ?_)
   ·have hx:L[i]? =some L[i]:=List.getElem?_eq_getElem (by omega)
    have hd:L.drop i=L[i]::L.drop (i+1):=List.drop_eq_getElem_cons (by omega)
    refine IxA.sl E (by (first|assumption|exact FPt.mem|exact FMp.mem|exact FSl.mem|(repeat(first|assumption|with_reducible exact List.mem_cons_self|refine List.mem_cons_of_mem _ ?_)))) (by omega) (by omega) (by simp;omega) ?_
    intro a ha
    refine Ld.sl E (by (first|assumption|exact FPt.mem|exact FMp.mem|exact FSl.mem|(repeat(first|assumption|with_reducible exact List.mem_cons_self|refine List.mem_cons_of_mem _ ?_)))) ha (x:=str L[i]) (by simp[hx]) ?_
    refine(isDirN hn (by simp) E).mono ?_
    clear E
    rintro r w_ ⟨rfl,E⟩
    rw[hf,hd]
    have keep:∀w c,Hs w0 F w (tb X::mp X.fm (.int .i64) X.fM::mp X.gm .str X.gM::mp X.om (.int .i64) X.oM::NT X.ps::DT X.ds::slA v Ty.t9 1 (L.map str)::pt q (oc c Ty.api_Qid)::l)→Hs w0 F w (trA X::l):=λw c E=>(((Hs.closeT X E).bIx 1).tl.bIx 1).tl
    cases hdir:n.f.dir with
    |false=>
     repeat with_reducible first|refine Stp.go ?_|refine StpE.go E ?_|(refine StpW.go E ?_;clear E;intro w_ E)
     have e2:T.findN n.f (L[i]::L.drop (i+1))=(q0,18):=by unfold Tr.findN;rw[if_pos hdir]
     rw[e2]
     exact⟨rfl,keep _ _ E⟩
    |true=>
     repeat with_reducible refine Stp.go ?_
     refine Ld.nt E (by simp) hn kids_val ?_
     rw[if_pos hdir]
     obtain⟨l',hml,El⟩:=mapAtN (w0:=w0) (F:=F) hn hdir (by simp) E
     refine Lk.one El hml u_mkids k_str z_p_node rfl ?_
     rw[aget_enc keyS]
     rcases h.kid hi hn L[i]with⟨k1,k2⟩|⟨k,hk,k1,k2⟩
     ·rw[k2]
      simp only[Option.map_none,Option.getD_none]
      refine Eq.et u_p_node rfl ?_
      repeat with_reducible first|refine Stp.go ?_|refine StpE.go E ?_|(refine StpW.go E ?_;clear E;intro w_ E)
      have e2:T.findN n.f (L[i]::L.drop (i+1))=(q0,4):=by unfold Tr.findN;rw[if_neg (by rw[hdir];simp)];simp only[k1]
      rw[e2]
      exact⟨rfl,keep _ _ E⟩
     ·rw[k2]
      simp only[Option.map_some,Option.getD_some]
      refine Eq.ef u_p_node rfl ?_
      repeat with_reducible refine Stp.go ?_
      refine Bi.add (by omega) ?_
      refine⟨⟨i+1,k,hk,by omega,?_,by simp,E⟩,by simp only[];omega⟩
      conv=>lhs;unfold Tr.findN
      rw[if_neg (by rw[hdir];simp)]
      simp only[k1]
   ·have:i=L.length:=by omega
    subst this
    rw[List.drop_length]at hf
    rw[hf]
    refine LdA.ob (Hs.ntAt E (by simp) hn) (by simp) ?_
    have eq3:(n.mn.C.toArray.extract 0 (0+3):Array Value)=#[i64 n.mn.kind,i64 n.mn.vers,i64 n.mn.path]:=by simp
    rw[eq3]
    repeat with_reducible first|refine StpE.go E ?_|(refine StpW.go E ?_;clear E;intro w_ E)
    exact⟨rfl,(((Hs.closeT X E).bIx 1).tl.bIx 1).tl⟩
 clear hJ7
 refine Bi.seql ?_ ?_<;>intro h1<;>(repeat with_reducible refine Stp.go ?_)
 ·refine fin7 _ _ ?_ E
  rw[h1];rfl
 ·have hp0:0<p.size:=by
   have h2:¬p.size=0:=λhz=>h1 (by
    refine ba_ext ?_
    have:p.data.toList.length=0:=by simpa using hz
    rw[List.length_eq_zero_iff]at this
    rw[this])
   omega
  obtain⟨b,hb,hb'⟩:=ba_get (s:=p) (i:=0) hp0
  refine IxS.mk (by omega) (by simpa using hb) ?_
  refine Gd.t false ?_
  refine Bi.neq ?_ ?_<;>intro h2<;>(repeat with_reducible refine Stp.go ?_)
  ·refine fin7 _ _ ?_ E
   rw[absP_eq,hb']
   have:¬b=47:=λe=>h2 (by rw[e];rfl)
   simp[this]
  ·refine fin7 _ _ ?_ E
   rw[absP_eq,hb']
   have:b=47:=by
    apply UInt8.toNat_inj.1
    have:(b.toNat:Int)=47:=h2
    show b.toNat=47
    omega
   simp[this]
set_option maxRecDepth 100000
set_option linter.unusedVariables false
set_option linter.unusedSimpArgs false
variable {w0 w:World} {F:Nat→Prop} {l:List As}
variable {D:List Row} {X:PT} {T:Tr} {β:Int→Nat}
theorem path_ok(h:Tie D X T β)(hi:Inv T){n:PN}(hn:n∈X.ps)(hm:NT X.ps∈l)(E:Hs w0 F w l):
  Ca PP Fn.f57 #[ptr n.blk] w λr w'=>r=str (T.pathS n.f)∧Hs w0 F w' l:=by
 refine S.f57.calls ?_
 unfold S.f57
 obtain⟨rk,hrk,hrb⟩:=hi.rankB
 have hnT:=λ(n:PN) (hn:n∈X.ps)=>h.mem.2 ⟨n,hn,rfl⟩
 have hnd:=Hs.nodupN' E hm
 repeat with_reducible refine Stp.go ?_
 rcases up_val h hi hn with⟨h0,hv⟩|⟨h0,u,hu,hv,hpar⟩
 ·refine Ld.nt E hm hn hv ?_
  refine Eq.et u_p_node rfl ?_
  repeat with_reducible refine Stp.go ?_
  have:T.pathS n.f=⟨#[47]⟩:=by unfold Tr.pathS;rw[chain_root h0];rfl
  rw[this]
  exact⟨rfl,E⟩
 ·refine Ld.nt E hm hn hv ?_
  refine Eq.ef u_p_node rfl ?_
  repeat with_reducible refine Stp.go ?_
  refine Ld.nt E hm hn (v:=str n.f.name) rfl ?_
  repeat with_reducible refine Stp.go ?_
  refine Ld.nt E hm hn hv ?_
  have hlenC:=chain_len hi (hnT n hn)
  have hgoodC:=chain_good hi (hnT n hn)
  have htotC:=tot_good hgoodC
  refine⟨λl1 w1=>∃(u:PN) (rest:List BA),u∈X.ps∧rest≠[]∧T.chain n.f=T.chain u.f++rest∧l1=[str (joinS rest),ptr u.blk]∧Hs w0 F w1 l,
   λl1 _=>match l1 with|[_,.pointer (some a)]=>(match X.ps.find? (λn=>decide (n.blk=a.block))with|some n=>rk n.f.path|none=>0)|_=>0,
   ⟨u,[n.f.name],hu,by simp,by rw[chain_step hi (hnT n hn) h0,hpar],by rw[joinS_one],E⟩,?_⟩
  clear E
  rintro t3 t4 e0 w1 ⟨u,rest,hu,hr0,hch,h1,E⟩
  cases h1
  have htr:tot rest≤41984:=by
   have:tot (T.chain n.f)=tot (T.chain u.f)+tot rest:=by rw[hch,tot_app]
   omega
  have hjs:=join_size rest
  repeat with_reducible refine Stp.go ?_
  have hfind:∀v:PN,v∈X.ps→X.ps.find? (λn=>decide (n.blk=v.blk))=some v:=by
   intro v hv
   cases hf:X.ps.find? (λn=>decide (n.blk=v.blk))with
   |none=>have:=List.find?_eq_none.1 hf v hv;simp at this
   |some x=>
    have h1:=List.mem_of_find?_eq_some hf
    have h2:x.blk=v.blk:=by simpa using List.find?_some hf
    rw[hnd x h1 v hv h2]
  rcases up_val h hi hu with⟨h0',hv'⟩|⟨h0',u2,hu2,hv',hpar'⟩
  ·refine Ld.nt E hm hu hv' ?_
   refine Eq.nf u_p_node rfl ?_
   repeat with_reducible refine Stp.go ?_
   refine Bi.sadd (by have:ByteArray.size ⟨#[47]⟩=1:=rfl;omega) ?_
   have:T.pathS n.f=sep++joinS rest:=by unfold Tr.pathS;rw[hch,chain_root h0',List.nil_append]
   rw[this]
   exact⟨rfl,E⟩
  ·refine Ld.nt E hm hu hv' ?_
   refine Eq.nt u_p_node rfl ?_
   repeat with_reducible refine Stp.go ?_
   refine Ld.nt E hm hu (v:=str u.f.name) rfl ?_
   have hgn:=good_size (hi.good u.f (hnT u hu) h0')
   refine Bi.sadd (by have:ByteArray.size ⟨#[47]⟩=1:=rfl;omega) ?_
   refine Bi.sadd (by rw[ByteArray.size_append];have:ByteArray.size ⟨#[47]⟩=1:=rfl;omega) ?_
   repeat with_reducible refine Stp.go ?_
   refine Ld.nt E hm hu hv' ?_
   refine⟨⟨u2,u.f.name::rest,hu2,by simp,?_,by rw[joinS_cons hr0],E⟩,?_⟩
   ·rw[hch,chain_step hi (hnT u hu) h0',hpar']
    simp
   ·simp only[hfind u hu,hfind u2 hu2]
    have:=hrk u.f (hnT u hu) h0'
    rw[← (parent_mem hi (hnT u hu) h0').2.1,hpar']at this
    exact this

def Tr.pathOf(T:Tr)(file:Int):BA×Int:=match T.get file with
 |none=>(emp,4)
 |some n=>(T.pathS n,0)
theorem Path_ok(h:Tie D X T β)(hi:Inv T){file:Int}(E:Hs w0 F w (trA X::l)):Ca PP Fn.f88 #[ptr X.t,i64 file] w λr w'=>r=.tuple #[str (T.pathOf file).1,i64 (T.pathOf file).2]∧Hs w0 F w' (trA X::l):=by
 refine S.f88.calls ?_
 unfold S.f88
 replace E:=Hs.openT E
 refine(find_ok E).mono ?_
 clear E
 rintro r w_ ⟨rfl,E⟩
 unfold Tr.pathOf
 rcases h.find hi file with⟨h1,h2⟩|⟨n,rs,hpm,hn,hpath,h1,h2⟩
 ·rw[h2]
  unfold findV
  repeat first|(with_reducible first|refine Stp.go ?_)|((with_reducible refine Bi.dec true ?_ ?_);focus exact rfl)
  rw[h1]
  exact⟨rfl,Hs.closeT X E⟩
 ·rw[h2]
  unfold findV
  repeat first|(with_reducible first|refine Stp.go ?_)|((with_reducible refine Bi.dec false ?_ ?_);focus exact rfl)
  refine(path_ok h hi hn (by simp) E).mono ?_
  clear E
  rintro r w_ ⟨rfl,E⟩
  skip
  rw[h1]
  exact⟨rfl,Hs.closeT X E⟩

set_option maxRecDepth 100000
set_option linter.unusedVariables false
set_option linter.unusedSimpArgs false
variable {w0 w:World} {F:Nat→Prop} {l:List As}

structure An where
 qid:Qd:=q0
 dir:Dr:=d0
 handle:Int:=0
 text:BA:=emp
 dirs:List Dr:=[]
 errno:Int:=0
abbrev An.C(a:An)(dv:Value):List Value:=
 [i64 a.qid.kind,i64 a.qid.vers,i64 a.qid.path,i64 a.dir.kind,i64 a.dir.vers,i64 a.dir.path,i64 a.dir.mode,i64 a.dir.time,i64 a.dir.len,str a.dir.name,str a.dir.owner,str a.dir.group,str a.dir.last,i64 a.handle,str a.text,dv,i64 a.errno]
abbrev An.V(a:An)(dv:Value):Value:=.agg (a.C dv).toArray

structure Ac where
 kind:Int
 handle:Int
 file:Int
 user:BA
 name:BA
 mode:Int
 perm:Int
 count:Int
 offset:Int
 data:BA
 dir:Dr
abbrev Ac.C(x:Ac):List Value:=
 [i64 x.kind,i64 x.handle,i64 x.file,str x.user,str x.name,i64 x.mode,i64 x.perm,i64 x.count,i64 x.offset,str x.data,i64 x.dir.kind,i64 x.dir.vers,i64 x.dir.path,i64 x.dir.mode,i64 x.dir.time,i64 x.dir.len,str x.dir.name,str x.dir.owner,str x.dir.group,str x.dir.last]
abbrev Ac.V(x:Ac):Value:=.agg x.C.toArray
theorem Same_ok{a:An}{u v:Value}(hn:a.dirs.length≤1000000000)(E:Hs w0 F w l)(h1:RdS w0 F l 10 a.dirs.length u (dcs a.dirs))(h2:RdS w0 F l 10 a.dirs.length v (dcs a.dirs)):
  Ca PP Fn.law28_Same #[a.V u,a.V v] w λr w'=>r=.bool true∧Hs w0 F w' l:=by
 refine S.law28_Same.calls ?_
 unfold S.law28_Same
 have i1:=RdS_scal h1
 have i2:=RdS_scal h2
 repeat with_reducible (refine StpA.go E ?_;clear E;intro b_ w_ hb_ E)
 (intro J5 hJ5)
 repeat with_reducible first|refine Stp.go ?_|refine StpE.go E ?_
 refine EqS.eS (xs:=a.qid.cs) lv_Qid st_Qid g_Qid rfl ?_
 repeat with_reducible first|refine Stp.go ?_|refine StpE.go E ?_
 refine EqS.eS (xs:=a.dir.cs) lv_Dir st_Dir g_Dir rfl ?_
 repeat with_reducible first|refine Stp.go ?_|refine StpE.go E ?_
 refine Bi.eqlR ?_
 repeat with_reducible first|refine Stp.go ?_|refine StpE.go E ?_
 refine Bi.seqR ?_
 repeat with_reducible first|refine Stp.go ?_|refine StpE.go E ?_
 refine Bi.eqlR ?_
 repeat with_reducible first|refine Stp.go ?_|refine StpE.go E ?_
 refine(eqDirs_ok hn E ((h1.cons _).cons _) ((h2.cons _).cons _)).mono ?_
 clear E
 rintro r w_ ⟨rfl,E⟩
 repeat with_reducible first|refine Stp.go ?_|(apply hJ5;intro u_)
 exact⟨rfl,E.tl.tl⟩
set_option maxRecDepth 100000
set_option linter.unusedVariables false
abbrev lkAct:List LK:=[.int .i64,.int .i64,.int .i64,.str,.str,.int .i64,.int .i64,.int .i64,.int .i64,.str,.int .i64,.int .i64,.int .i64,.int .i64,.int .i64,.int .i64,.str,.str,.str,.str]

structure Ac.Ok(x:Ac):Prop where
 user:x.user.size≤9223372036854775807
 name:x.name.size≤9223372036854775807
 data:x.data.size≤9223372036854775807
 dname:x.dir.name.size≤9223372036854775807
 downer:x.dir.owner.size≤9223372036854775807
 dgroup:x.dir.group.size≤9223372036854775807
 dlast:x.dir.last.size≤9223372036854775807
 nums:rngI x.kind∧rngI x.handle∧rngI x.file∧rngI x.mode∧rngI x.perm∧rngI x.count∧rngI x.offset∧rngI x.dir.kind∧rngI x.dir.vers∧rngI x.dir.path∧rngI x.dir.mode∧rngI x.dir.time∧rngI x.dir.len
theorem rng_wf{n:Int}(h:(Lit.int .i64 n).wf=true):rngI n:=by
 have: -9223372036854775808≤n∧n≤9223372036854775807:=by simpa[Lit.wf,IntKind.min,IntKind.max,IntKind.signed,IntKind.bits] using h
 exact this
theorem int_of{v:Value}(h:LK.fitW (.int .i64) v):∃n,v=i64 n∧rngI n:=by
 obtain⟨n,rfl,hw⟩:=LK.int_of h
 exact⟨n,rfl,rng_wf hw⟩
theorem str_of{v:Value}(h:LK.fitW .str v):∃s,v=str s∧s.size≤9223372036854775807:=by
 obtain⟨s,rfl,hw⟩:=LK.str_of h
 exact⟨s,rfl,Nat.le_trans hw (by decide)⟩
theorem act_of{xs:List Value}(hx:fitWL lkAct xs):∃x:Ac,xs=x.C∧x.Ok:=by
 obtain⟨y0,t0,rfl,f0,z0⟩:=fitWL_cons hx
 obtain⟨y1,t1,rfl,f1,z1⟩:=fitWL_cons z0
 obtain⟨y2,t2,rfl,f2,z2⟩:=fitWL_cons z1
 obtain⟨y3,t3,rfl,f3,z3⟩:=fitWL_cons z2
 obtain⟨y4,t4,rfl,f4,z4⟩:=fitWL_cons z3
 obtain⟨y5,t5,rfl,f5,z5⟩:=fitWL_cons z4
 obtain⟨y6,t6,rfl,f6,z6⟩:=fitWL_cons z5
 obtain⟨y7,t7,rfl,f7,z7⟩:=fitWL_cons z6
 obtain⟨y8,t8,rfl,f8,z8⟩:=fitWL_cons z7
 obtain⟨y9,t9,rfl,f9,z9⟩:=fitWL_cons z8
 obtain⟨y10,t10,rfl,f10,z10⟩:=fitWL_cons z9
 obtain⟨y11,t11,rfl,f11,z11⟩:=fitWL_cons z10
 obtain⟨y12,t12,rfl,f12,z12⟩:=fitWL_cons z11
 obtain⟨y13,t13,rfl,f13,z13⟩:=fitWL_cons z12
 obtain⟨y14,t14,rfl,f14,z14⟩:=fitWL_cons z13
 obtain⟨y15,t15,rfl,f15,z15⟩:=fitWL_cons z14
 obtain⟨y16,t16,rfl,f16,z16⟩:=fitWL_cons z15
 obtain⟨y17,t17,rfl,f17,z17⟩:=fitWL_cons z16
 obtain⟨y18,t18,rfl,f18,z18⟩:=fitWL_cons z17
 obtain⟨y19,t19,rfl,f19,z19⟩:=fitWL_cons z18
 obtain rfl:=fitWL_nil z19
 obtain⟨n0,rfl,k0⟩:=int_of f0
 obtain⟨n1,rfl,k1⟩:=int_of f1
 obtain⟨n2,rfl,k2⟩:=int_of f2
 obtain⟨s3,rfl,k3⟩:=str_of f3
 obtain⟨s4,rfl,k4⟩:=str_of f4
 obtain⟨n5,rfl,k5⟩:=int_of f5
 obtain⟨n6,rfl,k6⟩:=int_of f6
 obtain⟨n7,rfl,k7⟩:=int_of f7
 obtain⟨n8,rfl,k8⟩:=int_of f8
 obtain⟨s9,rfl,k9⟩:=str_of f9
 obtain⟨d0,rfl,e0⟩:=int_of f10
 obtain⟨d1,rfl,e1⟩:=int_of f11
 obtain⟨d2,rfl,e2⟩:=int_of f12
 obtain⟨d3,rfl,e3⟩:=int_of f13
 obtain⟨d4,rfl,e4⟩:=int_of f14
 obtain⟨d5,rfl,e5⟩:=int_of f15
 obtain⟨d6,rfl,e6⟩:=str_of f16
 obtain⟨d7,rfl,e7⟩:=str_of f17
 obtain⟨d8,rfl,e8⟩:=str_of f18
 obtain⟨d9,rfl,e9⟩:=str_of f19
 exact⟨⟨n0,n1,n2,s3,s4,n5,n6,n7,n8,s9,⟨d0,d1,d2,d3,d4,d5,d6,d7,d8,d9⟩⟩,rfl,⟨k3,k4,k9,e6,e7,e8,e9,k0,k1,k2,k5,k6,k7,k8,e0,e1,e2,e3,e4,e5⟩⟩
set_option maxRecDepth 100000
set_option linter.unusedVariables false
set_option linter.unusedSimpArgs false
variable {w0 w:World} {F:Nat→Prop} {l:List As}
variable {D:List Row} {X:PT} {T:Tr} {β:Int→Nat}
theorem delL_perm {κ α : Type} [DecidableEq κ] {k : κ} {v : α} : ∀ {L M : List (κ × α)},(L.map (·.1)).Nodup→L.Perm ((k,v)::M)→(delL L k).Perm M:=by
 have split : ∀ {L : List (κ × α)},(L.map (·.1)).Nodup→(k,v)∈L→L.Perm ((k,v)::delL L k):=by
  intro L
  induction L with
  | nil=>intro _ h; cases h
  | cons p r ih =>
   intro hn h
   rw [List.map_cons,List.nodup_cons] at hn
   unfold delL
   by_cases hk : k = p.1
   ·rw [if_pos hk]
    rcases List.mem_cons.1 h with h1 | h1
    ·rw [h1]
    ·exact absurd (List.mem_map.2 ⟨_,h1,hk⟩) hn.1
   ·rw [if_neg hk]
    rcases List.mem_cons.1 h with h1 | h1
    ·exact absurd (by rw [← h1]) hk
    ·exact ((ih hn.2 h1).cons p).trans (List.Perm.swap _ _ _)
 intro L M hn hp
 have h1:=split hn (hp.mem_iff.2 List.mem_cons_self)
 exact (h1.symm.trans hp).cons_inv

theorem Tie.filter (h : Tie D X T β) (hi : Inv T) (hnd : (X.ps.map PN.blk).Nodup) {n u : PN} {rs : List PN} (hp : X.ps.Perm (n::rs)) (hu : u∈rs) (h0 : n.f.path ≠ 0) (hup : u.f.path = n.f.up) (hk : ∀ m∈T.ns,m.path ≠ 0→m.up ≠ n.f.path) (m0 : MN) (hm0 : m0.gone = true) :
  Tie D { X with ps:=updB rs u.blk (fun m=>{ m with kl:=delL m.kl n.f.name }),fl:=delL X.fl n.f.path,ds:=(n.blk,m0)::X.ds } { T with ns:=T.ns.filter fun x=>decide (x.path ≠ n.f.path) } β:=by
 have hn : n∈X.ps:=hp.mem_iff.2 List.mem_cons_self
 have rsX : ∀ m∈rs,m∈X.ps:=fun m hm=>hp.mem_iff.2 (List.mem_cons_of_mem _ hm)
 have hpn : (n.f.path::rs.map fun m=>m.f.path).Nodup:=by
  have h1:=(h.ns.map (·.path)).nodup_iff.2 hi.nodup
  rw [List.map_map] at h1
  exact ((hp.map fun m=>m.f.path).nodup_iff.1 h1)
 rw [List.nodup_cons] at hpn
 have hne : ∀ m∈rs,m.f.path ≠ n.f.path:=fun m hm he=>hpn.1 (by rw [← he]; exact List.mem_map.2 ⟨m,hm,rfl⟩)
 have hnb : (n.blk::rs.map PN.blk).Nodup:=(hp.map PN.blk).nodup_iff.1 hnd
 rw [List.nodup_cons] at hnb
 obtain ⟨G,hG⟩ : ∃ G : PN→PN,G = fun m=>if m.blk = u.blk then { m with kl:=delL m.kl n.f.name } else m:=⟨_,rfl⟩
 have hGr : updB rs u.blk (fun m=>{ m with kl:=delL m.kl n.f.name }) = rs.map G:=by rw [hG]; rfl
 have g1 : ∀ m,(G m).f = m.f∧(G m).blk = m.blk∧(G m).dv = m.dv∧(G m).ub = m.ub:=fun m=>by rw [hG]; dsimp only; split <;> exact ⟨rfl,rfl,rfl,rfl⟩
 rw [hGr]
 have mm : ∀ {P : PN→Prop},(∀ m∈rs,P (G m))→∀ m∈rs.map G,P m:=by
  intro P hP m hm
  obtain ⟨q,hq,rfl⟩:=List.mem_map.1 hm
  exact hP q hq
 have back : ∀ m∈rs,G m∈rs.map G:=fun m hm=>List.mem_map.2 ⟨m,hm,rfl⟩
 have kids : ∀ p,((rs.map G).filter fun k=>Tr.isKid p k.f).map (fun k=>(k.f.name,k.blk)) = (rs.filter fun k=>Tr.isKid p k.f).map fun k=>(k.f.name,k.blk):=by
  intro p
  rw [List.filter_map,List.map_map]
  have e1 : ((fun k : PN=>Tr.isKid p k.f) ∘ G) = fun k=>Tr.isKid p k.f:=by funext k; simp only [Function.comp,(g1 k).1]
  rw [e1]
  refine List.map_congr_left fun k _=>?_
  simp only [Function.comp,(g1 k).1,(g1 k).2.1]
 refine ⟨?_,h.clock,h.next,mm fun m hm=>?_,mm fun m hm=>?_,mm fun m hm=>?_,?_,?_,h.gs,mm fun m hm=>?_,h.ol,?_⟩
 ·show ((rs.map G).map PN.f).Perm _
  rw [List.map_map]
  have e : (PN.f ∘ G) = PN.f:=by funext m; exact (g1 m).1
  rw [e]
  have h1:=(h.ns.symm.trans (hp.map PN.f)).filter fun x=>decide (x.path ≠ n.f.path)
  refine List.Perm.symm (h1.trans ?_)
  rw [List.map_cons,List.filter_cons,if_neg (by simp)]
  have h2 : (rs.map PN.f).filter (fun x=>decide (x.path ≠ n.f.path)) = rs.map PN.f:=by
   rw [List.filter_eq_self]
   intro x hx
   obtain ⟨m,hm,rfl⟩:=List.mem_map.1 hx
   exact decide_eq_true (hne m hm)
  rw [h2]
 ·rw [(g1 m).1,(g1 m).2.2.1]; exact h.data m (rsX m hm)
 ·rw [(g1 m).1,(g1 m).2.2.2]
  refine ⟨(h.ub m (rsX m hm)).1,fun hm0=>?_⟩
  obtain ⟨v,hv,h1,h2⟩:=(h.ub m (rsX m hm)).2 hm0
  rcases List.mem_cons.1 (hp.mem_iff.1 hv) with rfl | hvr
  ·exact absurd h1.symm (hk m.f (h.mem.2 ⟨m,rsX m hm,rfl⟩) hm0)
  ·exact ⟨G v,back v hvr,by rw [(g1 v).1]; exact h1,by rw [(g1 v).2.1]; exact h2⟩
 ·rw [(g1 m).1,kids]
  have hkl:=h.kl m (rsX m hm)
  have hsplit:=((hp.filter fun k=>Tr.isKid m.f.path k.f).map fun k=>(k.f.name,k.blk))
  by_cases hmu : m.blk = u.blk
  ·have hmu' : m = u:=by
    have key : ∀ (ps : List PN),(ps.map PN.blk).Nodup→m∈ps→u∈ps→m = u:=by
     intro ps
     induction ps with
     | nil=>intro _ h; cases h
     | cons x r ih =>
      intro hp ha hb
      rw [List.map_cons,List.nodup_cons] at hp
      rcases List.mem_cons.1 ha with h1 | ha <;> rcases List.mem_cons.1 hb with h2 | hb
      ·rw [h1,h2]
      ·exact absurd (List.mem_map.2 ⟨u,hb,by rw [← h1,hmu]⟩) hp.1
      ·exact absurd (List.mem_map.2 ⟨m,ha,by rw [← h2,hmu]⟩) hp.1
      ·exact ih hp.2 ha hb
    exact key rs hnb.2 hm hu
   subst hmu'
   have eG : (G m).kl = delL m.kl n.f.name:=by rw [hG]; dsimp only; rw [if_pos rfl]
   rw [eG]
   have hkid : Tr.isKid m.f.path n.f = true:=by unfold Tr.isKid; exact decide_eq_true ⟨h0,hup.symm⟩
   rw [List.filter_cons,if_pos hkid,List.map_cons] at hsplit
   exact delL_perm (((hkl.map (·.1)).nodup_iff).2 (h.klN hi m.f.path)) (hkl.trans hsplit)
  ·have eG : (G m).kl = m.kl:=by rw [hG]; dsimp only; rw [if_neg hmu]
   rw [eG]
   have hkid : ¬ Tr.isKid m.f.path n.f = true:=by
    unfold Tr.isKid
    intro hc
    have hc:=(of_decide_eq_true hc).2
    have : m = u:=h.inj hi (rsX m hm) (rsX u hu) (by rw [← hc,hup])
    exact hmu (by rw [this])
   rw [List.filter_cons,if_neg hkid] at hsplit
   exact hkl.trans hsplit
 ·show (delL X.fl n.f.path).Perm ((rs.map G).map fun n=>(n.f.path,n.blk))
  rw [List.map_map]
  have e : ((fun n : PN=>(n.f.path,n.blk)) ∘ G) = fun n=>(n.f.path,n.blk):=by funext m; simp only [Function.comp,(g1 m).1,(g1 m).2.1]
  rw [e]
  have h1:=h.fl.trans (hp.map fun n=>(n.f.path,n.blk))
  exact delL_perm (((h.fl.map (·.1)).nodup_iff).2 (h.flN hi)) h1
 ·obtain ⟨r,hr,hr1,hr2⟩:=h.root
  rcases List.mem_cons.1 (hp.mem_iff.1 hr) with rfl | hrr
  ·exact absurd hr1 h0
  ·exact ⟨G r,back r hrr,by rw [(g1 r).1]; exact hr1,by rw [(g1 r).2.1]; exact hr2⟩
 ·rw [(g1 m).1,(g1 m).2.1]; exact h.bl m (rsX m hm)
 ·intro x hx hno
  by_cases hxn : x.2.file = n.f.path
  ·rw [hxn,h.bl n hn]
   exact ⟨m0,List.mem_cons_self,hm0⟩
  ·obtain ⟨m,hm,hg⟩:=h.dead x hx fun y hy he=>hno y (List.mem_filter.2 ⟨hy,decide_eq_true (by rw [he]; exact hxn)⟩) he
   exact ⟨m,List.mem_cons_of_mem _ hm,hg⟩
theorem Tie.hdel (h : Tie D X T β) (hi : Inv T) (k : Int) : Tie D { X with ol:=delL X.ol k } { T with hs:=delL T.hs k } β:=by
 have hsub:=delL_sub k T.hs
 refine ⟨h.ns,h.clock,h.next,h.data,h.ub,h.kl,h.fl,h.root,h.gs,h.bl,?_,fun x hx=>h.dead x (hsub.subset hx)⟩
 show (delL X.ol k).Perm ((delL T.hs k).map _)
 cases hg : getL T.hs k with
 | none =>
  have hno : ∀ {β : Type} (L : List (Int × β)),k ∉ L.map (·.1)→delL L k = L:=by
   intro β L
   induction L with
   | nil=>intro _; rfl
   | cons p r ih =>
    intro hn
    rw [List.map_cons,List.mem_cons,not_or] at hn
    unfold delL
    rw [if_neg hn.1,ih hn.2]
  have h1:=getL_none.1 hg
  rw [hno T.hs h1,hno X.ol fun hc=>h1 (h.keys.mem_iff.1 hc)]
  exact h.ol
 | some x =>
  have h1:=(getL_some hi.hsN).1 hg
  have h2 : T.hs.Perm ((k,x)::delL T.hs k):=by
   obtain ⟨r,hr⟩:=split_perm h1
   have:=delL_perm hi.hsN hr
   exact hr.trans (this.symm.cons _)
  have h3:=h.ol.trans (h2.map fun x : Int × Hd=>(x.1,(⟨β x.2.file,x.2.mode,x.2.user⟩ : HV)))
  rw [List.map_cons] at h3
  exact delL_perm (h.keys.nodup_iff.2 hi.hsN) h3
theorem kids_upd{u:PN}(s:BA):KM {u with kl:=delL u.kl s}=star (if u.f.dir then[mp u.kb .str (encM Value.string ptr (delL u.kl s))]else[]):=rfl
theorem remove_ok(h:Tie D X T β)(hi:Inv T){N:Int}(hN:N<4611686018427387904)(hlim:Lim N T){n:PN}(hn:n∈X.ps)(h0:n.f.path≠0)(hk:∀m∈T.ns,m.path≠0→m.up≠n.f.path){user:BA}(E:Hs w0 F w (trA X::l)):
  Ca PP Fn.f54 #[ptr X.t,str user,ptr n.blk] w λ_ w'=>∃X',X'.t=X.t∧Tie D X' (T.drop user n.f) β∧Hs w0 F w' (trA X'::l):=by
 refine S.f54.calls ?_
 unfold S.f54
 have hnd:=Hs.nodupT E
 obtain⟨rs,hpm⟩:=split_perm hn
 obtain⟨u,rs',hp',hu,hub,hup,hne,hud,hgu,hpar⟩:=h.parent hi hpm h0
 have hur:u∈rs:=hp'.mem_iff.2 List.mem_cons_self
 have hpm2:X.ps.Perm (n::u::rs'):=hpm.trans (hp'.cons n)
 replace E:=Hs.openTN2 hpm2 E
 have hub':n.mn.up=some u.blk:=hub
 have hkb:u.mn.kids=some u.kb:=if_pos hud
 repeat with_reducible first|refine Stp.go ?_|refine StpE.go E ?_|(refine StpW.go E ?_;clear E;intro w_ E)
 rw[hub']
 simp only[Option.map_some]
 repeat with_reducible first|refine Stp.go ?_|refine StpE.go E ?_
 rw[hkb]
 replace E:=Hs.openK hud (E.bIx 7)
 refine Dl.by E u_mkids k_str rfl ?_
 clear E
 intro w_ E
 have e1:adel u.kM (str n.f.name)=encM Value.string ptr (delL u.kl n.f.name):=adel_enc keyS _ _
 have e1':adel u.kM (str n.mn.name)=encM Value.string ptr (delL u.kl n.f.name):=e1
 rw[e1']at E
 repeat with_reducible first|refine Stp.go ?_|refine StpE.go E ?_|(refine StpW.go E ?_;clear E;intro w_ E)
 refine Dl.by E u_mfiles k_i64 rfl ?_
 clear E
 intro w_ E
 have e2:adel X.fM (i64 n.mn.path)=encM i64 ptr (delL X.fl n.f.path):=adel_enc (keyI .i64) _ _
 rw[e2]at E
 repeat with_reducible first|refine Stp.go ?_|refine StpE.go E ?_|(refine StpW.go E ?_;clear E;intro w_ E)
 rw[hub']
 simp only[Option.map_some]
 refine BdS.one E u_sl_p_node e_p_node rfl ?_
 clear E
 intro sv w_ E
 obtain⟨u1,hu1⟩:∃u1:PN,u1={u with kl:=delL u.kl n.f.name}:=⟨_,rfl⟩
 obtain⟨m0,hm0⟩:∃m0:MN,m0={n.mn with gone:=true}:=⟨_,rfl⟩
 obtain⟨X1,hX1⟩:∃X1:PT,X1={X with ps:=updB rs u.blk (λm=>{m with kl:=delL m.kl n.f.name}),fl:=delL X.fl n.f.path,ds:=(n.blk,m0)::X.ds}:=⟨_,rfl⟩
 have hT1:Tie D X1 {T with ns:=T.ns.filter λx=>decide (x.path≠n.f.path)} β:=by
  rw[hX1]
  exact h.filter hi hnd hpm hur h0 hup hk m0 (by rw[hm0])
 have hi1:=hi.filter h0 hk
 have hnr:(rs.map PN.blk).Nodup:=by
  have:=(hpm.map PN.blk).nodup_iff.1 hnd
  exact(List.nodup_cons.1 this).2
 have hpm1:X1.ps.Perm (u1::rs'):=by
  rw[hX1,hu1]
  exact updB_perm (g:=λm:PN=>{m with kl:=delL m.kl n.f.name}) hnr hp'
 have hu1m:u1∈X1.ps:=hpm1.mem_iff.2 List.mem_cons_self
 -- u among the others
 have E1:Hs w0 F w_ (KM u1::slA sv Ty.t4 1 [ptr u.blk]::tb X::mp X.fm (.int .i64) (encM i64 ptr (delL X.fl n.f.path))::mp X.gm .str X.gM::mp X.om (.int .i64) X.oM::nd n.blk m0::KM n::nd u.blk u.mn::NT rs'::DT X.ds::l):=by
  have E2:=Hs.star (ls:=[mp u.kb .str (encM Value.string ptr (delL u.kl n.f.name))]) (E.bIx 1)
  have e3:KM u1=star [mp u.kb .str (encM Value.string ptr (delL u.kl n.f.name))]:=by
   rw[hu1,kids_upd]
   have:u.f.dir=true:=hud
   rw[if_pos this]
  rw[e3]
  rw[hm0]
  exact E2
 clear E
 have E:=E1
 clear E1
 (replace E:=((((((((((E.bIx 10).bIx 7).bIx 7).bIx 7).bIx 7).bIx 7).bIx 7).bIx 10).bIx 8).bIx 10))
 have eu:nd u.blk u.mn=nd u1.blk u1.mn:=by rw[hu1]
 rw[eu]at E
 replace E:=Hs.permN (Hs.closeN u1 E) hpm1.symm
 (replace E:=(((E.bIx 1).bIx 1).bIx 2))
 have ht:tb X=tb X1:=by rw[hX1]
 have hb1:u1.blk=u.blk:=by rw[hu1]
 have hf1:u1.f=u.f:=by rw[hu1]
 rw[ht]at E
 have hlim1:Lim N {T with ns:=T.ns.filter λx=>decide (x.path≠n.f.path)}:=⟨hlim.clock,hlim.next,λm hm=>hlim.vers m (List.mem_filter.1 hm).1⟩
 have hcl:=hlim.clock
 have hc0:=hi.clock
 have hcx:=hT1.clock
 have hcx:X1.clock=T.clock:=hcx
 have hXt:X1.t=X.t:=by rw[hX1]
 rw[← hXt]
 rw[← hb1]at E
 refine(change_ok (X:=X1) (bs:=[u1.blk]) (RdS.by1 sv E.tl.tl) ?_ (by omega) (lim_fit hi1 hN hlim1 hT1) (by simp) E).mono ?_
 ·intro b hb
  rw[List.mem_singleton.1 hb]
  exact List.mem_map.2 ⟨u1,hu1m,rfl⟩
 clear E
 rintro r w_ E
 skip
 obtain⟨hT2,-⟩:=touch_tie hT1 hi1 (by
  rw[hX1]
  have hb2:=updB_blk (ps:=rs) (b:=u.blk) (g:=λm:PN=>{m with kl:=delL m.kl n.f.name}) λ_=>rfl
  show((updB rs u.blk λm:PN=>{m with kl:=delL m.kl n.f.name}).map PN.blk).Nodup
  rw[hb2];exact hnr) hu1m user
 have ed:T.drop user n.f={T with ns:=T.ns.filter λx=>decide (x.path≠n.f.path)}.change user [u1.f.path]:=by
  unfold Tr.drop
  rw[hf1,hup]
 rw[ed]
 refine⟨{X1 with ps:=updB X1.ps u1.blk (PN.touch (X1.clock+1) user),clock:=X1.clock+1},rfl,hT2,?_⟩
 ·have e3:chgB (X1.clock+1) user [u1.blk] X1.ps=updB X1.ps u1.blk (PN.touch (X1.clock+1) user):=rfl
  rw[e3]at E
  (replace E:=(E.bIx 2).tl)
  (replace E:=(E.bIx 7).tl)
  (replace E:=((E.bIx 5).bIx 6))
  have E2:=Hs.star (ls:=nd n.blk m0::X.ds.map λd=>nd d.1 d.2) (E.unstar.perm List.perm_middle)
  clear E
  have E:Hs w0 F _ (DT ((n.blk,m0)::X.ds)::_):=E2
  clear E2
  (replace E:=((((((E.bIx 0).bIx 2).bIx 5).bIx 5).bIx 5).bIx 5))
  refine Hs.closeT {X1 with ps:=updB X1.ps u1.blk (PN.touch (X1.clock+1) user),clock:=X1.clock+1} ?_
  rw[hX1]at E ⊢
  exact E
theorem Close_ok(h:Tie D X T β)(hi:Inv T){N:Int}(hN:N<4611686018427387904)(hlim:Lim N T){hd:Int}(E:Hs w0 F w (trA X::Pool D::l)):
  Ca PP Fn.f79 #[ptr X.t,i64 hd] w λr w'=>r=i64 (T.close hd).2∧Goes w0 F l D X (T.close hd).1 w':=by
 refine S.f79.calls ?_
 unfold S.f79
 replace E:=Hs.openT E
 refine(opened_ok E).mono ?_
 clear E
 rintro r w_ ⟨rfl,E⟩
 rw[h.opened hi]
 cases hx:T.opened hd with
 |none=>
  simp only[Option.map_none,openedV]
  repeat first|(with_reducible first|refine Stp.go ?_|(refine StpW.go E ?_;clear E;intro w_ E)|(refine StpA.go E ?_;clear E;intro b_ w_ hb_ E))|((with_reducible refine Bi.dec true ?_ ?_);focus exact rfl)
  have e:T.close hd=(T,19):=by unfold Tr.close;rw[hx]
  rw[e]
  exact⟨rfl,.same h (Hs.closeT X E.tl)⟩
 |some x=>
  simp only[Option.map_some,openedV]
  repeat first|(with_reducible first|refine Stp.go ?_|refine StpE.go E ?_|(refine StpW.go E ?_;clear E;intro w_ E)|(refine StpA.go E ?_;clear E;intro b_ w_ hb_ E))|((with_reducible refine Bi.dec false ?_ ?_);focus exact rfl)
  (revert b_;intro q hbq E)
  refine Dl.by E u_mopen k_int rfl ?_
  clear E
  intro w_ E
  have e1:adel X.oM (i64 hd)=encM i64 HV.V (delL X.ol hd):=adel_enc (keyI .i64) _ _
  rw[e1]at E
  have hm:=hi.openedM hx
  have h1:=h.hdel hi hd
  have i1:=hi.hdel hd
  have l1:Lim N {T with hs:=delL T.hs hd}:=⟨hlim.clock,hlim.next,hlim.vers⟩
  obtain⟨X1,hX1⟩:∃X1:PT,X1={X with ol:=delL X.ol hd}:=⟨_,rfl⟩
  rw[← hX1]at h1
  have hXt:X1.t=X.t:=by rw[hX1]
  (intro J14 hJ14)
  have fin14:∀X' w_,X'.t=X.t→Tie D X' (T.close hd).1 β→Hs w0 F w_ (trA X'::Pool D::pt q (oc [ptr (β x.file),i64 x.mode,str x.user] Ty.t44)::l)→(T.close hd).2=0→J14 [] w_:=by
   intro X' w_ ht hT E he
   repeat with_reducible (apply hJ14;intro u_)
   rw[he]
   exact⟨rfl,D,X',β,λ_ h=>h,ht,hT,(E.bIx 2).tl⟩
  clear hJ14
  (intro J17 hJ17)
  have E1:Hs w0 F w_ (trA X1::Pool D::pt q (oc [ptr (β x.file),i64 x.mode,str x.user] Ty.t44)::l):=by
   have E2:=E.bIx 0
   replace E2:=Hs.closeT X1 (by rw[hX1];exact(by (replace E:=((((((((E.bIx 0).bIx 7).bIx 7).bIx 7).bIx 7).bIx 7).bIx 7).bIx 7));exact E))
   exact E2
  clear E
  have E:=E1
  clear E1
  cases hg:T.get x.file with
  |none=>
   have hec:T.close hd=({T with hs:=delL T.hs hd},0):=by unfold Tr.close;simp only[hx,hg]
   obtain⟨m,hmd,hgone⟩:=h.dead _ hm (get_none.1 hg)
   have fin17:∀w_,Hs w0 F w_ (trA X1::Pool D::pt q (oc [ptr (β x.file),i64 x.mode,str x.user] Ty.t44)::l)→J17 [.bool false] w_:=by
    intro w_ E
    repeat with_reducible first|refine Stp.go ?_|(apply hJ17;intro u_)
    exact fin14 X1 _ hXt (by rw[hec];exact h1) E (by rw[hec])
   clear hJ17
   repeat with_reducible first|refine Stp.go ?_|refine StpE.go E ?_
   refine Bi.neq ?_ ?_<;>intro c1<;>(repeat with_reducible first|refine Stp.go ?_|refine StpE.go E ?_)
   ·have hdt:w_.heap[β x.file]? =some (oc m.C Ty.tree_node):=by
     have E2:=Hs.openT E
     exact(E2.sat (DT X1.ds) (by simp)).1 (nd (β x.file) m) (List.mem_map.2 ⟨(β x.file,m),by rw[hX1];exact hmd,rfl⟩)
    refine Ld.ob hdt (v:=.bool m.gone) (by simp) ?_
    rw[hgone]
    repeat with_reducible refine Stp.go ?_
    exact fin17 _ E
   ·exact fin17 _ E
  |some nf=>
   obtain⟨hn1,hn2⟩:=hi.get.1 hg
   obtain⟨n,hn,rfl⟩:=h.mem.1 hn1
   have hb:=h.bl n hn
   rw[hn2]at hb
   have hnX:n∈X1.ps:=by rw[hX1];exact hn
   by_cases c1:andI x.mode 64≠0
   ·have hmode:x.mode≠0:=λe=>c1 (by rw[e];decide)
    have hnd:n.f.dir=false:=hi.hclose _ hm hmode n.f hn1 hn2
    obtain⟨h0,hk⟩:=hi.leaf hn1 hnd
    have hec:T.close hd=(({T with hs:=delL T.hs hd}:Tr).drop x.user n.f,0):=by unfold Tr.close;simp only[hx,hg,if_pos c1]
    have fin17:∀w_,Hs w0 F w_ (trA X1::Pool D::pt q (oc [ptr (β x.file),i64 x.mode,str x.user] Ty.t44)::l)→J17 [.bool true] w_:=by
     intro w_ E
     repeat with_reducible first|refine Stp.go ?_|refine StpE.go E ?_|(apply hJ17;intro u_)
     rw[hb,← hXt]
     refine(remove_ok h1 i1 hN l1 hnX h0 hk E).mono ?_
     clear E
     rintro r w_ ⟨X2,ht2,h2,E⟩
     exact fin14 X2 _ (by rw[ht2,hXt]) (by rw[hec];exact h2) E (by rw[hec])
    clear hJ17
    repeat with_reducible first|refine Stp.go ?_|refine StpE.go E ?_
    refine Bi.neq ?_ ?_<;>intro c2<;>(repeat with_reducible first|refine Stp.go ?_|refine StpE.go E ?_)
    ·rw[hb]
     have E2:=Hs.openT E
     refine Ld.nt E2 (ps:=X1.ps) (by simp) hnX (v:=.bool false) rfl ?_
     repeat with_reducible refine Stp.go ?_
     exact fin17 _ E
    ·exact absurd c2 c1
   ·have hec:T.close hd=({T with hs:=delL T.hs hd},0):=by unfold Tr.close;simp only[hx,hg,if_neg c1]
    have fin17:∀w_,Hs w0 F w_ (trA X1::Pool D::pt q (oc [ptr (β x.file),i64 x.mode,str x.user] Ty.t44)::l)→J17 [.bool false] w_:=by
     intro w_ E
     repeat with_reducible first|refine Stp.go ?_|(apply hJ17;intro u_)
     exact fin14 X1 _ hXt (by rw[hec];exact h1) E (by rw[hec])
    clear hJ17
    repeat with_reducible first|refine Stp.go ?_|refine StpE.go E ?_
    refine Bi.neq ?_ ?_<;>intro c2<;>(repeat with_reducible first|refine Stp.go ?_|refine StpE.go E ?_)
    ·exact absurd c2 c1
    ·exact fin17 _ E
theorem Remove_ok(h:Tie D X T β)(hi:Inv T){N:Int}(hN:N<4611686018427387904)(hlim:Lim N T){user:BA}{file:Int}(E:Hs w0 F w (trA X::Pool D::l)):
  Ca PP Fn.f71 #[ptr X.t,str user,i64 file] w λr w'=>r=i64 (T.remove user file).2∧Goes w0 F l D X (T.remove user file).1 w':=by
 refine S.f71.calls ?_
 unfold S.f71
 rcases h.find hi file with⟨h1,h2⟩|⟨n,rs,hpm,hn,hpath,h1,h2⟩
 ·replace E:=Hs.openT E
  refine(find_ok E).mono ?_
  clear E
  rintro r w_ ⟨rfl,E⟩
  rw[h2]
  unfold findV
  repeat first|(with_reducible first|refine Stp.go ?_)|((with_reducible refine Bi.dec true ?_ ?_);focus exact rfl)
  have e:T.remove user file=(T,4):=by unfold Tr.remove;simp only[h1]
  rw[e]
  exact⟨rfl,.same h (Hs.closeT X E)⟩
 have hnd:=Hs.nodupT E
 replace E:=Hs.openT E
 refine(find_ok E).mono ?_
 clear E
 rintro r w_ ⟨rfl,E⟩
 rw[h2]
 unfold findV
 subst hpath
 repeat first|(with_reducible first|refine Stp.go ?_|refine StpE.go E ?_)|((with_reducible refine Bi.dec false ?_ ?_);focus exact rfl)
 obtain⟨r0,hr0,hr1,hr2⟩:=h.root
 have hnT:=h.mem.2 ⟨n,hn,rfl⟩
 have keep:∀w,Hs w0 F w (tb X::mp X.fm (.int .i64) X.fM::mp X.gm .str X.gM::mp X.om (.int .i64) X.oM::NT X.ps::DT X.ds::Pool D::l)→Goes w0 F l D X T w:=λw E=>.same h (Hs.closeT X E)
 refine Eq.pp u_p_node n_node (Hs.ntAt E (by simp) hn) (by rw[← hr2];exact Hs.ntAt E (by simp) hr0) ?_
 by_cases h0:n.f.path=0
 ·have hrn:r0=n:=h.inj hi hr0 hn (by rw[hr1,h0])
  rw[decide_eq_true (by rw[← hr2,hrn])]
  repeat with_reducible refine Stp.go ?_
  have e:T.remove user n.f.path=(T,1):=by unfold Tr.remove;simp only[h1,if_pos h0]
  rw[e]
  exact⟨rfl,keep _ E⟩
 have hrn:¬(⟨n.blk,0,none⟩:Addr)=⟨X.root,0,none⟩:=λe=>by
  have e:n.blk=X.root:=congrArg Addr.block e
  have:n=r0:=by
   have:=Hs.nodupN' E (by simp) n hn r0 hr0 (by rw[e,hr2])
   exact this
  exact h0 (by rw[this,hr1])
 rw[decide_eq_false hrn]
 repeat with_reducible refine Stp.go ?_
 rcases up_val h hi hn with⟨hc,_⟩|⟨_,u,hu,hv,hpar⟩
 ·exact absurd hc h0
 refine Ld.nt E (by simp) hn hv ?_
 obtain⟨ru,hpu⟩:=split_perm hu
 replace E:=Hs.openN (E.bIx 4) hpu
 (replace E:=(((((((((E.bIx 8).bIx 8).bIx 4).bIx 4).bIx 4).bIx 8).bIx 8).bIx 8).bIx 8))
 refine(may_ok (m:=u.mn) (D:=D) (by simp) h.gs E).mono ?_
 clear E
 rintro r w_ ⟨rfl,E⟩
 have hmay:permF u.mn.mode (decide (user=u.mn.owner)) (memberG T.gs user u.mn.group) 2=T.may user (T.parent n.f) 2:=by rw[hpar];rfl
 rw[hmay]
 replace E:Hs w0 F w_ (tb X::mp X.fm (.int .i64) X.fM::mp X.gm .str X.gM::mp X.om (.int .i64) X.oM::NT X.ps::DT X.ds::Pool D::l):=by
  (replace E:=(((((((((E.bIx 8).bIx 8).bIx 5).bIx 5).bIx 5).bIx 5).bIx 8).bIx 8).bIx 8))
  replace E:=Hs.permN (Hs.closeN u E) hpu.symm
  (replace E:=(((((((E.bIx 6).bIx 6).bIx 2).bIx 6).bIx 6).bIx 6).bIx 6))
  exact E
 cases hm:T.may user (T.parent n.f) 2 with
 |false=>
  repeat with_reducible refine Stp.go ?_
  have e:T.remove user n.f.path=(T,17):=by unfold Tr.remove;simp only[h1,if_neg h0,hm,if_true]
  rw[e]
  exact⟨rfl,keep _ E⟩
 |true=>
  have hmn:¬T.may user (T.parent n.f) 2=false:=by rw[hm];simp
  repeat with_reducible refine Stp.go ?_
  refine Ld.nt E (by simp) hn kids_val ?_
  have hlen:n.kl.length=(T.kids n.f.path).length:=by
   rw[(h.kl n hn).length_eq,List.length_map]
   unfold Tr.kids
   rw[← (h.ns.filter (Tr.isKid n.f.path)).length_eq,List.filter_map,List.length_map]
   rfl
  have fin:∀w_,Hs w0 F w_ (tb X::mp X.fm (.int .i64) X.fM::mp X.gm .str X.gM::mp X.om (.int .i64) X.oM::NT X.ps::DT X.ds::Pool D::l)→(T.kids n.f.path).length=0→
    Ca PP Fn.f54 #[ptr X.t,str user,ptr n.blk] w_ λ_ w'=>(λr w'=>r=i64 (T.remove user n.f.path).2∧Goes w0 F l D X (T.remove user n.f.path).1 w') (i64 0) w':=by
   intro w_ E hz
   have e:T.remove user n.f.path=(T.drop user n.f,0):=by unfold Tr.remove;simp only[h1,if_neg h0,if_neg hmn];rw[if_neg (by omega)]
   rw[e]
   refine(remove_ok h hi hN hlim hn h0 (λm hm hm0 he=>?_) (Hs.closeT X E)).mono ?_
   ·have:m∈T.kids n.f.path:=List.mem_filter.2 ⟨hm,by unfold Tr.isKid;exact decide_eq_true ⟨hm0,he⟩⟩
    have:=List.length_pos_of_mem this
    omega
   ·rintro r w' ⟨X',ht,hT,E⟩
    exact⟨rfl,D,X',β,λ_ h=>h,ht,hT,E⟩
  have six:∀w_,Hs w0 F w_ (tb X::mp X.fm (.int .i64) X.fM::mp X.gm .str X.gM::mp X.om (.int .i64) X.oM::NT X.ps::DT X.ds::Pool D::l)→0<(T.kids n.f.path).length→i64 6=i64 (T.remove user n.f.path).2∧Goes w0 F l D X (T.remove user n.f.path).1 w_:=by
   intro w_ E hz
   have e:T.remove user n.f.path=(T,6):=by unfold Tr.remove;simp only[h1,if_neg h0,if_neg hmn];rw[if_pos hz]
   rw[e]
   exact⟨rfl,keep _ E⟩
  cases hdir:n.f.dir with
  |true=>
   rw[if_pos rfl]
   obtain⟨l',hml,El⟩:=mapAtN (w0:=w0) (F:=F) hn hdir (by simp) E
   refine Len.map El hml u_mkids ?_
   rw[encM_length]
   refine Bi.gtr ?_ ?_<;>intro hz<;>(repeat with_reducible refine Stp.go ?_)
   ·exact six _ E (by omega)
   ·exact fin _ E (by omega)
  |false=>
   rw[if_neg Bool.false_ne_true]
   refine Len.nilmap u_mkids ?_
   obtain⟨_,hk⟩:=hi.leaf hnT hdir
   have hz:(T.kids n.f.path).length=0:=by
    rw[List.length_eq_zero_iff]
    unfold Tr.kids
    rw[List.filter_eq_nil_iff]
    intro m hm hc
    unfold Tr.isKid at hc
    have hc:=of_decide_eq_true hc
    exact hk m hm hc.1 hc.2
   repeat first|(with_reducible first|refine Stp.go ?_)|((with_reducible refine Bi.dec false ?_ ?_);focus exact rfl)
   exact fin _ E hz
set_option maxRecDepth 100000
set_option linter.unusedVariables false
set_option linter.unusedSimpArgs false
variable {w0 w:World} {F:Nat→Prop} {l:List As}
variable {D:List Row} {X:PT} {T:Tr} {β:Int→Nat}
abbrev named(s:BA)(m:Nd):Nd:={m with name:=s}
theorem rename_inv(hi:Inv T){n:Nd}(hn:n∈T.ns)(h0:n.path≠0){s:BA}(hg:goodName s=true)(hfree:T.kid n.up s=none):Inv (T.upd n.path (named s)):=by
 have g1:∀m:Nd,(if m.path=n.path then named s m else m).path=m.path∧(if m.path=n.path then named s m else m).up=m.up∧(if m.path=n.path then named s m else m).dir=m.dir:=λm=>by split<;>exact⟨rfl,rfl,rfl⟩
 have mm:∀{P:Nd→Prop},(∀m∈T.ns,P (if m.path=n.path then named s m else m))→∀m∈updN T.ns n.path (named s),P m:=by
  intro P hP m hm
  obtain⟨q,hq,rfl⟩:=updN_mem hm
  exact hP q hq
 have back:∀m∈T.ns,(if m.path=n.path then named s m else m)∈updN T.ns n.path (named s):=λm hm=>List.mem_map.2 ⟨m,hm,rfl⟩
 have nofree:∀m∈T.ns,m.path≠0→m.up=n.up→m.name≠s:=λm hm hm0 h1 h2=>by
  have:=(kid_some hi).2 ⟨hm,hm0,h1,h2⟩
  rw[hfree]at this;cases this
 refine⟨?_,?_,mm λm hm=>?_,mm λm hm=>?_,mm λm hm=>?_,mm λa ha=>mm λb hb=>?_,mm λm hm=>?_,?_,mm λm hm=>?_,mm λm hm=>?_,hi.hsorted,hi.hpos,hi.hfile,λx hx hx1=>mm λm hm=>?_,?_,hi.clock,mm λm hm=>?_⟩
 ·show(updN T.ns n.path (named s)).Pairwise _
  unfold updN
  rw[List.pairwise_map]
  refine hi.sorted.imp λ{a b} hab=>?_
  rw[(g1 a).1,(g1 b).1];exact hab
 ·obtain⟨r,hr,hr0⟩:=hi.root
  exact⟨_,back r hr,by rw[(g1 r).1,hr0]⟩
 ·rw[(g1 m).1];exact hi.bound m hm
 ·rw[(g1 m).1,(g1 m).2.1,(g1 m).2.2];exact hi.rootD m hm
 ·rw[(g1 m).1,(g1 m).2.1]
  intro hm0
  obtain⟨u,hu,h1,h2⟩:=hi.up m hm hm0
  exact⟨_,back u hu,by rw[(g1 u).1,h1],by rw[(g1 u).2.2,h2]⟩
 ·rw[(g1 a).1,(g1 a).2.1,(g1 b).1,(g1 b).2.1]
  intro ha0 hb0 hab hname
  by_cases c1:a.path=n.path<;>by_cases c2:b.path=n.path
  ·rw[c1,c2]
  ·rw[if_pos c1,if_neg c2]at hname
   have han:a=n:=hi.inj ha hn c1
   exact absurd hname.symm (nofree b hb hb0 (by rw[← hab,han]))
  ·rw[if_neg c1,if_pos c2]at hname
   have hbn:b=n:=hi.inj hb hn c2
   exact absurd hname (nofree a ha ha0 (by rw[hab,hbn]))
  ·rw[if_neg c1,if_neg c2]at hname
   exact hi.names a ha b hb ha0 hb0 hab hname
 ·rw[(g1 m).1]
  intro hm0
  split
  ·exact hg
  ·exact hi.good m hm hm0
 ·obtain⟨rk,hrk⟩:=hi.rank
  refine⟨rk,mm λm hm=>?_⟩
  rw[(g1 m).1,(g1 m).2.1];exact hrk m hm
 ·have:=hi.data m hm
  split<;>exact this
 ·have:=hi.form m hm
  split<;>exact this
 ·rw[(g1 m).1,(g1 m).2.2];exact hi.hclose x hx hx1 m hm
 ·exact⟨by show(updN T.ns n.path (named s)).length≤1024;unfold updN;rw[List.length_map];exact hi.few.1,hi.few.2⟩
 ·rw[(g1 m).1]
  intro hm0
  rw[if_neg (by rw[hm0];exact λe=>h0 e.symm)]
  exact hi.rootN m hm hm0

def reN(nb ub:Nat)(old s:BA)(m:PN):PN:=if m.blk=nb then{m with f:=named s m.f}else if m.blk=ub then{m with kl:=putL (delL m.kl old) s nb}else m
theorem blk_path(h:Tie D X T β)(hnd:(X.ps.map PN.blk).Nodup){m n:PN}(hm:m∈X.ps)(hn:n∈X.ps):m.blk=n.blk↔m.f.path=n.f.path:=by
 constructor
 ·intro he
  have:m=n:=by
   have key:∀(ps:List PN),(ps.map PN.blk).Nodup→m∈ps→n∈ps→m=n:=by
    intro ps
    induction ps with
    |nil=>intro _ h;cases h
    |cons x r ih=>
     intro hp ha hb
     rw[List.map_cons,List.nodup_cons]at hp
     rcases List.mem_cons.1 ha with h1|ha<;>rcases List.mem_cons.1 hb with h2|hb
     ·rw[h1,h2]
     ·exact absurd (List.mem_map.2 ⟨n,hb,by rw[← h1,he]⟩) hp.1
     ·exact absurd (List.mem_map.2 ⟨m,ha,by rw[← h2,he]⟩) hp.1
     ·exact ih hp.2 ha hb
   exact key _ hnd hm hn
  rw[this]
 ·intro he
  rw[← h.bl m hm,← h.bl n hn,he]
theorem Tie.rename (h : Tie D X T β) (hi : Inv T) (hnd : (X.ps.map PN.blk).Nodup) {n u : PN} {rs : List PN} (hp : X.ps.Perm (n::rs)) (hu : u∈rs) (h0 : n.f.path ≠ 0) (hup : u.f.path = n.f.up) {s : BA} (hfree : T.kid n.f.up s = none) :
  Tie D { X with ps:=X.ps.map (reN n.blk u.blk n.f.name s) } (T.upd n.f.path (named s)) β:=by
 have hn : n∈X.ps:=hp.mem_iff.2 List.mem_cons_self
 have rsX : ∀ m∈rs,m∈X.ps:=fun m hm=>hp.mem_iff.2 (List.mem_cons_of_mem _ hm)
 obtain ⟨R,hR⟩ : ∃ R,R = reN n.blk u.blk n.f.name s:=⟨_,rfl⟩
 rw [← hR]
 have r1 : ∀ m,(R m).blk = m.blk∧(R m).dv = m.dv∧(R m).ub = m.ub∧(R m).f.path = m.f.path∧(R m).f.up = m.f.up∧(R m).f.data = m.f.data:=fun m=>by
  rw [hR]; unfold reN; split
  ·exact ⟨rfl,rfl,rfl,rfl,rfl,rfl⟩
  split <;> exact ⟨rfl,rfl,rfl,rfl,rfl,rfl⟩
 have rf : ∀ m∈X.ps,(R m).f = if m.f.path = n.f.path then named s m.f else m.f:=fun m hm=>by
  rw [hR]; unfold reN
  by_cases hc : m.blk = n.blk
  ·rw [if_pos hc,if_pos ((blk_path h hnd hm hn).1 hc)]
  ·rw [if_neg hc,if_neg fun hc'=>hc ((blk_path h hnd hm hn).2 hc')]
   split <;> rfl
 have mm : ∀ {P : PN→Prop},(∀ m∈X.ps,P (R m))→∀ m∈X.ps.map R,P m:=by
  intro P hP m hm
  obtain ⟨q,hq,rfl⟩:=List.mem_map.1 hm
  exact hP q hq
 have back : ∀ m∈X.ps,R m∈X.ps.map R:=fun m hm=>List.mem_map.2 ⟨m,hm,rfl⟩
 have hnb : (n.blk::rs.map PN.blk).Nodup:=(hp.map PN.blk).nodup_iff.1 hnd
 rw [List.nodup_cons] at hnb
 have rsn : ∀ m∈rs,m.blk ≠ n.blk:=fun m hm he=>hnb.1 (by rw [← he]; exact List.mem_map.2 ⟨m,hm,rfl⟩)
 have kidsE : ∀ p,(((X.ps.map R).filter fun k=>Tr.isKid p k.f).map fun k=>(k.f.name,k.blk)).Perm ((if Tr.isKid p n.f then [(s,n.blk)] else [])++(rs.filter fun k=>Tr.isKid p k.f).map fun k=>(k.f.name,k.blk)):=by
  intro p
  have e0:=(((hp.map R).filter fun k=>Tr.isKid p k.f).map fun k=>(k.f.name,k.blk))
  refine e0.trans ?_
  have ek : ∀ m,Tr.isKid p (R m).f = Tr.isKid p m.f:=fun m=>by unfold Tr.isKid; rw [(r1 m).2.2.2.1,(r1 m).2.2.2.2.1]
  have en : (R n).f.name = s∧(R n).blk = n.blk:=⟨by rw [rf n hn,if_pos rfl],(r1 n).1⟩
  rw [List.map_cons,List.filter_cons,ek]
  have er : (((rs.map R).filter fun k=>Tr.isKid p k.f).map fun k=>(k.f.name,k.blk)) = (rs.filter fun k=>Tr.isKid p k.f).map fun k=>(k.f.name,k.blk):=by
   rw [List.filter_map,List.map_map]
   have e1 : ((fun k : PN=>Tr.isKid p k.f) ∘ R) = fun k=>Tr.isKid p k.f:=by funext k; exact ek k
   rw [e1]
   refine List.map_congr_left fun k hk=>?_
   have hkr:=(List.mem_filter.1 hk).1
   simp only [Function.comp,(r1 k).1]
   rw [rf k (rsX k hkr),if_neg fun hc=>rsn k hkr ((blk_path h hnd (rsX k hkr) hn).2 hc)]
  cases hk : Tr.isKid p n.f with
  | true=>rw [if_pos rfl,if_pos rfl,List.map_cons,en.1,en.2,er]; exact List.Perm.refl _
  | false=>rw [if_neg Bool.false_ne_true,if_neg Bool.false_ne_true,er]; exact List.Perm.refl _
 refine ⟨?_,h.clock,h.next,mm fun m hm=>?_,mm fun m hm=>?_,mm fun m hm=>?_,?_,?_,h.gs,mm fun m hm=>?_,h.ol,?_⟩
 ·show ((X.ps.map R).map PN.f).Perm (updN T.ns n.f.path (named s))
  have e : (X.ps.map R).map PN.f = (X.ps.map PN.f).map fun m=>if m.path = n.f.path then named s m else m:=by
   rw [List.map_map,List.map_map]
   exact List.map_congr_left fun m hm=>rf m hm
  rw [e]
  exact h.ns.map _
 ·rw [(r1 m).2.1,(r1 m).2.2.2.2.2]; exact h.data m hm
 ·rw [(r1 m).2.2.2.1,(r1 m).2.2.1,(r1 m).2.2.2.2.1]
  refine ⟨(h.ub m hm).1,fun hm0=>?_⟩
  obtain ⟨v,hv,h1,h2⟩:=(h.ub m hm).2 hm0
  exact ⟨R v,back v hv,by rw [(r1 v).2.2.2.1,h1],by rw [(r1 v).1]; exact h2⟩
 ·rw [(r1 m).2.2.2.1]
  refine List.Perm.trans ?_ (kidsE m.f.path).symm
  have hkl:=h.kl m hm
  have hsplit:=((hp.filter fun k=>Tr.isKid m.f.path k.f).map fun k=>(k.f.name,k.blk))
  have hkn:=h.klN hi m.f.path
  by_cases hmu : m.blk = u.blk
  ·have hmp : m.f.path = u.f.path:=(blk_path h hnd hm (rsX u hu)).1 hmu
   have hkid : Tr.isKid m.f.path n.f = true:=by unfold Tr.isKid; exact decide_eq_true ⟨h0,by rw [hmp,hup]⟩
   have eR : (R m).kl = putL (delL m.kl n.f.name) s n.blk:=by rw [hR]; unfold reN; rw [if_neg (by rw [hmu]; exact rsn u hu),if_pos hmu]
   rw [eR,if_pos hkid]
   rw [List.filter_cons,if_pos hkid,List.map_cons] at hsplit
   have hdel:=delL_perm (((hkl.map (·.1)).nodup_iff).2 hkn) (hkl.trans hsplit)
   have hout : s ∉ (delL m.kl n.f.name).map (·.1):=by
    intro hc
    have hc:=(hdel.map (·.1)).mem_iff.1 hc
    rw [List.map_map] at hc
    obtain ⟨k,hk,hks⟩:=List.mem_map.1 hc
    obtain ⟨hk1,hk2⟩:=List.mem_filter.1 hk
    unfold Tr.isKid at hk2
    have hk2:=of_decide_eq_true hk2
    have:=(kid_some hi).2 ⟨h.mem.2 ⟨k,rsX k hk1,rfl⟩,hk2.1,by rw [hk2.2,hmp,hup],hks⟩
    rw [hfree] at this; cases this
   rw [putL_new hout]
   exact List.perm_append_comm.trans (hdel.cons _)
  ·have hkid : ¬ Tr.isKid m.f.path n.f = true:=by
    unfold Tr.isKid
    intro hc
    have hc:=(of_decide_eq_true hc).2
    exact hmu ((blk_path h hnd hm (rsX u hu)).2 (by rw [← hc,hup]))
   have eR : (R m).kl = m.kl:=by
    rw [hR]; unfold reN
    by_cases hc : m.blk = n.blk
    ·rw [if_pos hc]
    ·rw [if_neg hc,if_neg hmu]
   rw [eR,if_neg hkid,List.nil_append]
   rw [List.filter_cons,if_neg hkid] at hsplit
   exact hkl.trans hsplit
 ·show X.fl.Perm ((X.ps.map R).map fun n=>(n.f.path,n.blk))
  rw [List.map_map]
  have e : ((fun n : PN=>(n.f.path,n.blk)) ∘ R) = fun n=>(n.f.path,n.blk):=by funext m; simp only [Function.comp,(r1 m).1,(r1 m).2.2.2.1]
  rw [e]
  exact h.fl
 ·obtain ⟨r,hr,hr1,hr2⟩:=h.root
  exact ⟨R r,back r hr,by rw [(r1 r).2.2.2.1,hr1],by rw [(r1 r).1]; exact hr2⟩
 ·rw [(r1 m).2.2.2.1,(r1 m).1]; exact h.bl m hm
 ·intro x hx hno
  refine h.dead x hx fun m hm he=>?_
  refine hno _ (List.mem_map.2 ⟨m,hm,rfl⟩) ?_
  split
  ·exact he
  ·exact he
end Go.Proofs.YthapmhhihfedcaaGreatDoor