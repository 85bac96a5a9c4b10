/-
 Name spaces: Write, Close.
-/
import Derived.Test.YtjffgllkfbcaeaaGreatDoorUf3
import Derived.Test.YtjffgllkfbcaeaaGreatDoorUb7
import Derived.Test.YtjffgllkfbcaeaaGreatDoorSh28
namespace Go.Proofs.YtjffgllkfbcaeaaGreatDoor
open Go Go.Sh
set_option maxRecDepth 100000
set_option linter.unusedVariables false
set_option linter.unusedSimpArgs false
variable {w0 w:World} {F:Nat→Prop} {l r1 r2 r3:List As}
variable {R:List RowS} {D:List Row} {Xs:List PT} {tA:List Nat} {M:TbM} {K:SpM} {N:Int} {y:Sy}
theorem Write_okM{n off:Int}{d:BA}(h:Fit R D Xs tA M K N y)(hN:N+1000<4611686018427387904)(E:Hs w0 F w (SPl R D Xs tA M K y l)):
  Ca PP Fn.f104 #[ptr K.a,i64 n,i64 off,str d] w λr w'=>r=.tuple #[i64 (y.write n off d).2.1,i64 (y.write n off d).2.2]∧GoS w0 F l R tA M K (N+100) (y.write n off d).1 w':=by
 have hinv:=(write_invS h.inv n off d).mono (show N+3≤N+100 by omega)
 refine S.f104.calls ?_
 unfold S.f104
 refine(singleS_okM (n:=n) h.sp h.inv (by simp) E).mono ?_
 clear E
 rintro r w_ ⟨x,rfl,hx,ix,E⟩
 have hs1:=@singleS_ok _ _ h.inv n
 unfold Sy.write at hinv ⊢
 simp only[]at hinv ⊢
 generalize y.single n=H at*
 repeat with_reducible first|refine Stp.go ?_|(refine StpW.go E ?_;clear E;intro w_ E)|(refine StpA.go E ?_;clear E;intro b_ w_ hb_ E)
 (revert b_;intro q hbq E)
 refine Bi.neq ?_ ?_<;>intro he<;>(repeat with_reducible first|refine Stp.go ?_|refine StpE.go E ?_)
 ·rw[if_pos he]
  exact⟨rfl,(h.mono (by omega)).same E.tl⟩
 rw[if_neg (λh=>h he)]at hinv ⊢
 have hk:=hs1 he
 rw[hx he]
 have hT:=h.inv.t _ (trW_mem hk)
 repeat with_reducible refine Stp.go ?_
 refine(Wo.chg (Q:=λr=>r=.tuple #[i64 ((trW y.Ts H.1.1).write H.1.2 off d).2.1,i64 ((trW y.Ts H.1.1).write H.1.2 off d).2.2]) (T':=((trW y.Ts H.1.1).write H.1.2 off d).1) (args:=λz=>#[ptr z,i64 H.1.2,i64 off,str d]) h.wo hk E λX β l0 hb E=>Write_ok hb hT.1 (by omega) hT.2 E).mono ?_
 clear E
 rintro r w_ ⟨rfl,D2,Xs2,hW,E⟩
 generalize (trW y.Ts H.1.1).write H.1.2 off d=Z at*
 repeat with_reducible refine Stp.go ?_
 replace E:=(E.bIx 2).tl
 (replace E:=((((((((E.bIx 1).bIx 1).bIx 7).bIx 7).bIx 7).bIx 7).bIx 7).bIx 7))
 exact⟨rfl,h.goes hW hinv E⟩
theorem getL_del {α : Type} {L : List (Int × α)} (hn : (L.map (·.1)).Nodup) (k j : Int) : getL (delL L k) j = if j = k then none else getL L j:=by
 induction L with
 | nil =>
  unfold delL getL
  by_cases h : j = k <;> simp [h]
 | cons p r ih =>
  rw [List.map_cons,List.nodup_cons] at hn
  unfold delL
  by_cases hk : k = p.1
  ·rw [if_pos hk]
   by_cases hj : j = k
   ·rw [if_pos hj,getL_none,hj,hk]
    exact hn.1
   ·rw [if_neg hj]
    unfold getL
    rw [List.find?_cons,show decide (j = p.1) = false by simpa [← hk] using hj]
  ·rw [if_neg hk]
   have ih:=ih hn.2
   unfold getL at ih ⊢
   rw [List.find?_cons,List.find?_cons]
   by_cases hj : j = p.1
   ·have : ¬ j = k:=fun h=>hk (h ▸ hj)
    simp [hj,Ne.symm hk]
   ·simp only [hj,decide_false]
    exact ih
theorem delL_keys {α β : Type} {k : Int} : ∀ {L : List (Int × α)} {V : List (Int × β)},L.map (·.1) = V.map (·.1)→(delL L k).map (·.1) = (delL V k).map (·.1)
 | [],[],_=>rfl
 | [],b::s,h=>by simp at h
 | a::r,[],h=>by simp at h
 | a::r,b::s,h=>by
  rw [List.map_cons,List.map_cons,List.cons.injEq] at h
  unfold delL
  rw [h.1]
  split
  ·exact h.2
  ·rw [List.map_cons,List.map_cons,h.1,delL_keys h.2]
theorem SpT.del {sp : Sp} {n : Int} (h : SpT R tA K sp) (hn : (sp.op.map (·.1)).Nodup) : SpT R tA { K with ov:=delL K.ov n } { sp with op:=delL sp.op n }:=by
 refine ⟨delL_keys h.keys,fun k=>?_⟩
 show match getL (delL sp.op n) k with
  | none=>getL (delL K.ov n) k = none
  | some hs'=>∃ v',getL (delL K.ov n) k = some v'∧RdyS R Ty.t35 2 v' (hcs tA hs')
 rw [getL_del hn,getL_del (by rw [h.keys]; exact hn)]
 by_cases hk : k = n
 ·rw [if_pos hk,if_pos hk]
 ·rw [if_neg hk,if_neg hk]
  exact h.row k
theorem Close_okM{n:Int}(h:Fit R D Xs tA M K N y)(hN:N+1000<4611686018427387904)(E:Hs w0 F w (SPl R D Xs tA M K y l)):
  Ca PP Fn.f105 #[ptr K.a,i64 n] w λr w'=>r=i64 (y.close n).2∧GoS w0 F l R tA M K (N+100) (y.close n).1 w':=by
 have hinv:=close_invS h.inv n
 refine S.f105.calls ?_
 unfold S.f105
 refine(openedS_okM (n:=n) h.sp E).mono ?_
 clear E
 rintro r w_ ⟨v,rfl,hr,E⟩
 repeat with_reducible refine Stp.go ?_
 obtain⟨o1,o2,o3⟩:=openedS_ok h.inv n
 unfold Sy.close at hinv ⊢
 simp only[]at hinv ⊢
 generalize y.opened n=L at*
 refine Bi.neq ?_ ?_<;>intro he<;>(repeat with_reducible first|refine Stp.go ?_|refine StpE.go E ?_)
 ·rw[if_pos he]
  exact⟨rfl,(h.mono (by omega)).same E⟩
 rw[if_neg (λh=>h he)]at hinv ⊢
 have hr:=hr he
 refine Dl.by E u_sopen k_int rfl ?_
 clear E
 intro w_ E
 have e1:adel (ovM K.ov) (i64 n)=ovM (delL K.ov n):=adel_enc (ev:=id) (keyI .i64) K.ov n
 rw[e1]at E
 have hr0:∀{w1:World} {Xs:List PT} {D:List Row},Hs w0 F w1 (SPl R D Xs tA M {K with ov:=delL K.ov n} {y with sp:={y.sp with op:=delL y.sp.op n}} l)→RdS w0 F (SPl R D Xs tA M {K with ov:=delL K.ov n} {y with sp:={y.sp with op:=delL y.sp.op n}} l) 2 L.1.length v (hcs tA L.1):=
  λE=>hr.read (hcs_len _) (by omega) E (by simp)
 replace E:Hs w0 F w_ (SPl R D Xs tA M {K with ov:=delL K.ov n} {y with sp:={y.sp with op:=delL y.sp.op n}} l):=E
 refine(hr0 E).len ?_
 refine⟨λl1 w1=>∃(i:Nat) (D':List Row) (Xs':List PT) (Ts':List Tr) (f:Int),l1=[i64 f,i64 i]∧i≤L.1.length∧Wo D' tA Xs' Ts'∧TsI (N+3*i) Ts'∧Ts'.length=y.Ts.length∧closeW y.Ts L.1 0=closeW Ts' (L.1.drop i) f∧Hs w0 F w1 (SPl R D' Xs' tA M {K with ov:=delL K.ov n} {y with sp:={y.sp with op:=delL y.sp.op n}} l),λl1 _=>match l1 with|[_,.int _ i]=>L.1.length-i.toNat|_=>0,
  ⟨0,D,Xs,y.Ts,0,rfl,Nat.zero_le _,h.wo,h.inv.t.mono (by omega),rfl,rfl,E⟩,?_⟩
 clear E
 rintro t7 t27 u w1 ⟨i,D2,Xs2,Ts',f,e,hi,hW,hI,hTl,hcw,E⟩
 cases e
 refine Bi.lss ?_ ?_<;>intro hlt
 ·refine Cnd.t ?_
  have hi1:i<L.1.length:=by omega
  intro J19 hJ19
  have hrd:=hr0 E
  refine hrd.ix (by omega) (by omega) (by omega) ?_
  intro a ha
  rw[Int.toNat_natCast,hcs_drop,List.drop_eq_getElem_cons hi1]at ha
  refine ha.lda E (m:=2) (ds:=[iT (adW tA L.1[i].1),i64 L.1[i].2]) rfl rfl (by omega) ?_
  have hk1:=o3 _ (List.getElem_mem hi1)
  have hdr:L.1.drop i=L.1[i]::L.1.drop (i+1):=List.drop_eq_getElem_cons hi1
  generalize L.1[i]=o at*
  obtain⟨k1,h1⟩:=o
  repeat with_reducible first|refine Stp.go ?_|refine StpE.go E ?_|(refine StpW.go E ?_;clear E;intro w_ E)|(refine StpA.go E ?_;clear E;intro b_ w_ hb_ E)
  (revert b_;intro z hbz E)
  skip
  have hk1:k1<Ts'.length:=by rw[hTl];exact hk1
  have hT:=hI _ (trW_mem hk1)
  refine(Wo.chg (Q:=λr=>r=i64 ((trW Ts' k1).close h1).2) (T':=((trW Ts' k1).close h1).1) (args:=λz=>#[ptr z,i64 h1]) hW hk1 E λX β l0 hb E=>Close_ok hb hT.1 (by omega) hT.2 E).mono ?_
  clear E
  rintro r w_ ⟨rfl,D3,Xs3,hW3,E⟩
  replace E:=(E.bIx 2).tl
  (replace E:=((((((((E.bIx 1).bIx 1).bIx 7).bIx 7).bIx 7).bIx 7).bIx 7).bIx 7))
  have hcw2:closeW y.Ts L.1 0=closeW (Ts'.set k1 ((trW Ts' k1).close h1).1) (L.1.drop (i+1)) (if f=0 then((trW Ts' k1).close h1).2 else f):=by
   rw[hcw,hdr];rfl
  have fin:∀g:Int,g=(if f=0 then((trW Ts' k1).close h1).2 else f)→J19 [i64 g] w_:=by
   intro g hg
   refine hJ19 _ w_ λu=>?_
   refine Bi.add (by omega) ?_
   exact⟨⟨i+1,D3,Xs3,_,g,by simp,by omega,hW3,(hI.set (close_inv hT.1 _) (close_lim hT.2 _)).mono (by omega),by rw[List.length_set];exact hTl,by rw[hcw2,hg],E⟩,by simp only[];omega⟩
  refine Bi.eql ?_ ?_<;>intro hf
  ·refine Cnd.t ?_
   exact fin _ (by rw[if_pos hf])
  ·refine Cnd.f ?_
   exact fin _ (by rw[if_neg hf])
 ·refine Cnd.f ?_
  have hie:i=L.1.length:=by omega
  rw[hie,List.drop_length]at hcw
  rw[hcw]at hinv ⊢
  exact⟨rfl,R,D2,Xs2,M,{K with ov:=delL K.ov n},rfl,rfl,rfl,λ_ h=>h,⟨h.tb,h.sp.del h.inv.sp.nd,hW,hinv⟩,E⟩
set_option maxRecDepth 100000
set_option linter.unusedVariables false
set_option linter.unusedSimpArgs false
variable {w0 w:World} {F:Nat→Prop} {l r1 r2 r3:List As}
variable {R:List RowS} {D:List Row} {Xs:List PT} {tA:List Nat} {M:TbM} {K:SpM} {N:Int} {y:Sy}
theorem IndexB_ok{v:Value}{bs:List Bool}{b:Bool}(hn:bs.length≤100000)(h:RdS w0 F l 1 bs.length v (bcs bs))(E:Hs w0 F w l):
  Ca PP Fn.f57 #[v,.bool b] w λr w'=>r=i64 (if b∈bs then(bs.idxOf b:Int)else -1)∧Hs w0 F w' l:=by
 refine S.f57.calls ?_
 unfold S.f57
 refine h.len ?_
 refine⟨λl1 w1=>∃i:Nat,l1=[i64 i]∧i≤bs.length∧b∉bs.take i∧Hs w0 F w1 l,λl1 _=>match l1 with|[.int _ i]=>bs.length-i.toNat|_=>0,⟨0,rfl,Nat.zero_le _,by simp,E⟩,?_⟩
 clear E
 rintro t u1 w1 ⟨i,e,hi,hx,E⟩
 cases e
 refine Bi.lss ?_ ?_<;>intro hlt
 ·refine Cnd.t ?_
  have hi1:i<bs.length:=by omega
  refine h.ix (by omega) (by omega) (by omega) ?_
  intro a ha
  rw[Int.toNat_natCast,Nat.mul_one]at ha
  refine ha.ld E (x:=.bool bs[i]) (by rw[List.getElem?_drop,Nat.add_zero,List.getElem?_map,List.getElem?_eq_getElem hi1];rfl) ?_
  refine Beq.mk ?_
  have htk:bs.take (i+1)=bs.take i++[bs[i]]:=by rw[List.take_add_one,List.getElem?_eq_getElem hi1];rfl
  by_cases hp:b=bs[i]
  ·rw[show(if false=true then !(b == bs[i])else b == bs[i])=true by simp[hp]]
   refine Cnd.t ?_
   refine⟨?_,E⟩
   have hm:b∈bs:=by rw[hp];exact List.getElem_mem hi1
   rw[if_pos hm]
   have e:bs=bs.take i++bs.drop i:=(List.take_append_drop i bs).symm
   have e2:bs.idxOf b=i:=by
    rw[e,List.idxOf_append,if_neg hx,List.drop_eq_getElem_cons hi1,← hp,List.idxOf_cons_self,List.length_take]
    omega
   rw[e2]
  ·rw[show(if false=true then !(b == bs[i])else b == bs[i])=false by simp[hp]]
   refine Cnd.f ?_
   refine Bi.add (by omega) ?_
   refine⟨⟨i+1,by simp,by omega,?_,E⟩,by simp only[];omega⟩
   rw[htk,List.mem_append,not_or]
   exact⟨hx,by simpa using hp⟩
 ·refine Cnd.f ?_
  have:bs.take i=bs:=List.take_of_length_le (by omega)
  rw[this]at hx
  rw[if_neg hx]
  exact⟨rfl,E⟩

theorem nth_rd{v:Value}{L:List Pl}{i:Nat}(hi:i<L.length)(h:RdS w0 F l 2 L.length v (pcs L)){k:Value→Prop}(hk:∀a,RdP w0 F l a ((L.getD i p0).cs++pcs (L.drop (i+1)))→k (.pointer (some a))):IxA 2 v (i64 (i:Int)) k:=by
 refine h.ix (by omega) (by omega) (by omega) ?_
 intro a ha
 rw[Int.toNat_natCast,pcs_drop,List.drop_eq_getElem_cons hi]at ha
 have e0:L[i]=L.getD i p0:=by rw[List.getD_eq_getElem?_getD,List.getElem?_eq_getElem hi];rfl
 rw[e0]at ha
 exact hk a ha
theorem Create_okM{path:BA}{perm mode:Int}(h:Fit R D Xs tA M K N y)(h0:0≤N)(hN:N+1000<4611686018427387904)(hp:path.size≤1000000)(E:Hs w0 F w (SPl R D Xs tA M K y l)):
  Ca PP Fn.f90 #[ptr K.a,str path,i64 perm,i64 mode] w λr w'=>r=.tuple #[i64 (y.create path perm mode).2.1,i64 (y.create path perm mode).2.2]∧GoS w0 F l R tA M K (N+100) (y.create path perm mode).1 w':=by
 have hinv:=(create_invS h.inv h0 path perm mode).mono (show N+3≤N+100 by omega)
 have same:=(h.mono (show N≤N+100 by omega))
 refine S.f90.calls ?_
 unfold S.f90
 refine(elements_ok (K:=K) (y:=y) h.inv.sp.dir hp E).mono ?_
 clear E
 rintro r w_ ⟨v,rfl,E⟩
 unfold Sy.create at hinv ⊢
 simp only[]at hinv ⊢
 obtain⟨e1,e2⟩:=elems_small (y:=y) (path:=path)
 generalize y.elems path=L at*
 repeat with_reducible refine Stp.go ?_
 refine Bi.neq ?_ ?_<;>intro he<;>(repeat with_reducible refine Stp.go ?_)
 ·rw[if_pos he]
  exact⟨rfl,same.same E.tl⟩
 rw[if_neg (λh=>h he)]at hinv ⊢
 have hrd0:RdS w0 F [slA v Ty.t1 1 (L.1.map str)] 1 L.1.length v (L.1.map str):=by
  have:=RdS.sl (v:=v) (T:=Ty.t1) (sz:=1) (xs:=L.1.map str) (l:=[slA v Ty.t1 1 (L.1.map str)]) (by simp) (by omega) (E.drop (List.singleton_sublist.2 (by simp)))
  rwa [Nat.div_one,List.length_map]at this
 refine(walk_okM (hrd0.weaken λ_ E=>E.drop (List.singleton_sublist.2 (by simp))) e1 e2 (h.ctx0.cons _) E).mono ?_
 clear E
 rintro r w_ ⟨rfl,E⟩
 have hW1:L.1=[]→(y.walk L.1).2=0:=λh1=>by rw[h1];rfl
 generalize y.walk L.1=W1 at*
 repeat with_reducible first|refine Stp.go ?_|(refine StpW.go E ?_;clear E;intro w_ E)|(refine StpA.go E ?_;clear E;intro b_ w_ hb_ E)
 (revert b_;intro q1 hbq1 E)
 skip
 refine Bi.eql ?_ ?_<;>intro hw1<;>(repeat with_reducible first|refine Stp.go ?_|refine StpE.go E ?_)
 ·rw[if_pos hw1]
  exact⟨rfl,same.same E.tl.tl⟩
 rw[if_neg hw1]at hinv ⊢
 have hLne:L.1≠[]:=λh1=>hw1 (hW1 h1)
 have hpos:0<L.1.length:=List.length_pos_iff.2 hLne
 rw[show(L.1.map str).length=L.1.length from List.length_map _]
 refine Bi.sub (by omega) ?_
 obtain⟨m,hm⟩:∃m,L.1.length=m+1:=⟨L.1.length-1,by omega⟩
 rw[show((L.1.length:Int)-1)=(m:Int) by omega]
 refine RdS.preS hrd0 (m:=m) (by omega) ?_
 intro v2 hv2
 rw[Nat.mul_one,← List.map_take]at hv2
 have hdl:L.1.take m=L.1.dropLast:=by rw[List.dropLast_eq_take,hm];rfl
 rw[hdl]at hv2
 have hdlen:L.1.dropLast.length=m:=by rw[List.length_dropLast,hm];rfl
 have hv2:RdS w0 F [slA v Ty.t1 1 (L.1.map str)] 1 L.1.dropLast.length v2 (L.1.dropLast.map str):=by rw[hdlen];exact hv2
 refine(walk_okM (hv2.weaken λ_ E=>E.drop (List.singleton_sublist.2 (by simp))) (λx hx=>e1 x ((List.dropLast_sublist _).subset hx)) (by omega) ((h.ctx0.cons _).cons _) E).mono ?_
 clear E
 rintro r w_ ⟨rfl,E⟩
 have hpt:(y.walk L.1.dropLast).1.t<y.tb.ts.length:=walkW_ok h.inv.tb h.inv.tb.pos
 generalize y.walk L.1.dropLast=W2 at*
 repeat with_reducible first|refine Stp.go ?_|(refine StpW.go E ?_;clear E;intro w_ E)|(refine StpA.go E ?_;clear E;intro b_ w_ hb_ E)
 (revert b_;intro q2 hbq2 E)
 skip
 refine Bi.neq ?_ ?_<;>intro hw2<;>(repeat with_reducible first|refine Stp.go ?_|refine StpE.go E ?_|(refine StpW.go E ?_;clear E;intro w_ E))
 ·rw[if_pos hw2]
  exact⟨rfl,same.same E.tl.tl.tl⟩
 rw[if_neg (λh=>h hw2)]at hinv ⊢
 obtain⟨s1,s2,s3,s4⟩:=stand_ok h.inv.tb hpt
 refine(stand_okK (M:=M) (p:=W2.1) (by simp) h.tb (by simp) h.inv.tb E).mono ?_
 clear E
 rintro r w_ ⟨pv,bv,kk,rfl,E,gg⟩
 replace E:=Hs.star E
 obtain⟨g1,g2⟩:=gg [Sh.star kk,PoolS R] λw E=>E.unstar
 clear gg
 generalize Sh.star kk=A at*
 generalize standM y.tb.ms W2.1=S at*
 repeat with_reducible refine Stp.go ?_
 refine(IndexB_ok (by omega) (g2.weaken λ_ E=>E.drop (by repeat(first|exact List.nil_sublist _|with_reducible apply List.Sublist.cons_cons|apply List.Sublist.cons))) E).mono ?_
 clear E
 rintro r w_ ⟨rfl,E⟩
 by_cases hin:true∈S.2
 ·rw[if_pos hin]
  rw[if_neg (λh=>h hin)]at hinv ⊢
  have hik:S.2.idxOf true<S.1.length:=by rw[← s3];exact List.idxOf_lt_length_of_mem hin
  generalize S.2.idxOf true=i at*
  refine Bi.lss (λh=>absurd h (by omega)) (λ_=>Cnd.f ?_)
  repeat with_reducible first|refine Stp.go ?_|refine StpE.go E ?_
  refine Len.map E FMp.mem u_sopen ?_
  rw[encM_length]
  have hkl:K.ov.length=y.sp.op.length:=by
   have:=congrArg List.length h.sp.keys
   simpa using this
  rw[hkl]
  refine Bi.geq ?_ ?_<;>intro h64<;>(repeat with_reducible first|refine Stp.go ?_|refine StpE.go E ?_|(refine StpW.go E ?_;clear E;intro w_ E))
  ·rw[if_pos (by omega)]
   exact⟨rfl,same.same E.tl.tl.tl.tl⟩
  rw[if_neg (by omega)]at hinv ⊢
  refine nth_rd hik g1 ?_
  intro a1 ha1
  have hqt:=s4 _ (getD_mem hik p0)
  generalize hQ:S.1.getD i p0=Q at*
  refine ha1.fa (by simp[Pl.cs]) ?_
  intro a2 ha2
  refine(ha2.weaken λ_ E=>E.drop (by repeat(first|exact List.nil_sublist _|with_reducible apply List.Sublist.cons_cons|apply List.Sublist.cons))).ld E (x:=i64 (Q.t:Int)) rfl ?_
  have C1:=((((h.ctx0 (l:=l)).cons (slA v Ty.t1 1 (L.1.map str))).cons (pt q1 (oc W1.1.cs Ty.t0))).cons (pt q2 (oc W2.1.cs Ty.t0))).cons A
  refine C1.treeP E hqt ?_
  intro a4 ha4 hx4
  refine ha4.ld E hx4 ?_
  repeat with_reducible first|refine Stp.go ?_|refine StpE.go E ?_|(refine StpW.go E ?_;clear E;intro w_ E)
  refine nth_rd hik g1 ?_
  intro a5 ha5
  rw[show S.1.getD i p0=Q from hQ]at ha5
  refine ha5.fa (by simp[Pl.cs]) ?_
  intro a6 ha6
  refine(ha6.weaken λ_ E=>E.drop (by repeat(first|exact List.nil_sublist _|with_reducible apply List.Sublist.cons_cons|apply List.Sublist.cons))).ld E (x:=i64 Q.f) rfl ?_
  refine hrd0.ix (by omega) (by rw[Int.toNat_natCast];omega) (by omega) ?_
  intro a7 ha7
  rw[Int.toNat_natCast,Nat.mul_one]at ha7
  have hlast:L.1.getLast?.getD emp=L.1[m]'(by omega):=by
   rw[List.getLast?_eq_getElem?,show L.1.length-1=m by omega,List.getElem?_eq_getElem (by omega)];rfl
  have hns:=e1 _ (List.getElem_mem (show m<L.1.length by omega))
  have hx7:((L.1.map str).drop m)[0]? =some (str (L.1[m]'(by omega))):=by
   rw[List.getElem?_drop,Nat.add_zero,List.getElem?_map,List.getElem?_eq_getElem (by omega)];rfl
  rw[hlast]at hinv ⊢
  generalize L.1[m]'(by omega)=nm at*
  refine(ha7.weaken λ_ E=>E.drop (List.singleton_sublist.2 (by simp))).ld E (x:=str nm) hx7 ?_
  repeat with_reducible refine Stp.go ?_
  have hk:=h.inv.tb.ixLt hqt
  have hT:=h.inv.t _ (trW_mem hk)
  have hus:y.sp.user.size≤9223372036854775807:=by have:=h.inv.sp.user;omega
  have hxi:=create_inv hT.1 y.sp.user Q.f nm perm mode
  have hxl:=create_lim hT.2 h0 y.sp.user Q.f nm perm mode
  have call:∀(l2 r2:List As) w_ (_:FWP l2 Xs D r2),Hs w0 F w_ l2→Ca PP Fn.f32 #[ptr (adW tA (y.tb.ix Q.t)),str y.sp.user,i64 Q.f,str nm,i64 perm,i64 mode] w_ λr w'=>r=.tuple #[i64 ((trW y.Ts (y.tb.ix Q.t)).create y.sp.user Q.f nm perm mode).2.1,((trW y.Ts (y.tb.ix Q.t)).create y.sp.user Q.f nm perm mode).2.2.1.V,i64 ((trW y.Ts (y.tb.ix Q.t)).create y.sp.user Q.f nm perm mode).2.2.2]∧GoesW w0 F r2 tA (y.Ts.set (y.tb.ix Q.t) ((trW y.Ts (y.tb.ix Q.t)).create y.sp.user Q.f nm perm mode).1) w':=
   λl2 r2 w_ _ E=>Wo.chg (args:=λz=>#[ptr z,str y.sp.user,i64 Q.f,str nm,i64 perm,i64 mode]) h.wo hk E λX β l0 hb E=>Create_ok hb hT.1 (by omega) hT.2 hus (by omega) E
  have htr:(y.tr Q.t).create y.sp.user Q.f nm perm mode=(trW y.Ts (y.tb.ix Q.t)).create y.sp.user Q.f nm perm mode:=rfl
  rw[htr]at hinv ⊢
  clear htr
  generalize (trW y.Ts (y.tb.ix Q.t)).create y.sp.user Q.f nm perm mode=x at*
  refine And.intro ?left (And.intro ?right trivial)
  case' left=>
   repeat with_reducible refine Stp.go ?_
   refine(call _ _ _ inferInstance E).mono ?_
   clear E
   rintro r w_ ⟨rfl,D3,Xs3,hW3,E⟩
   repeat with_reducible first|refine Stp.go ?_|(refine StpA.go E ?_;clear E;intro b_ w_ hb_ E)
   (revert b_;intro z hbz E)
   (repeat(with_reducible refine And.intro ?_ ?_;focus ((repeat with_reducible refine StpE.go E ?_);exact rfl)))
   refine And.intro ((ha6.weaken λ_ E=>E.drop (by repeat(first|exact List.nil_sublist _|with_reducible apply List.Sublist.cons_cons|apply List.Sublist.cons))).ld E (x:=i64 Q.f) rfl rfl) ?_
   refine And.intro ((ha7.weaken λ_ E=>E.drop (List.singleton_sublist.2 (by simp))).ld E (x:=str nm) hx7 rfl) ?_
   repeat with_reducible (refine StpW.go E ?_;clear E;intro w_ E)
   (replace E:=(((E.bIx 0).bIx 2).bIx 2))
  case' right=>
   repeat with_reducible (refine StpA.go E ?_;clear E;intro b_ w_ hb_ E)
   (revert b_;intro z hbz E)
   refine And.intro (by (repeat with_reducible refine StpE.go E ?_);exact rfl) ?_
   refine And.intro ((ha6.weaken λ_ E=>E.drop (by repeat(first|exact List.nil_sublist _|with_reducible apply List.Sublist.cons_cons|apply List.Sublist.cons))).ld E (x:=i64 Q.f) rfl rfl) ?_
   refine And.intro ((ha7.weaken λ_ E=>E.drop (List.singleton_sublist.2 (by simp))).ld E (x:=str nm) hx7 rfl) ?_
   repeat with_reducible refine Stp.go ?_
   refine(call _ _ _ inferInstance E).mono ?_
   clear E
   rintro r w_ ⟨rfl,D3,Xs3,hW3,E⟩
   repeat with_reducible first|refine Stp.go ?_|(refine StpW.go E ?_;clear E;intro w_ E)
  all_goals
   replace E:=((((E.bIx 2).tl.bIx 2).tl.bIx 2).tl.bIx 2).tl
   replace E:=(E.bIx 2).tl
   (replace E:=((((((((E.bIx 1).bIx 1).bIx 7).bIx 7).bIx 7).bIx 7).bIx 7).bIx 7))
   have hTl3:(y.Ts.set (y.tb.ix Q.t) x.1).length=y.Ts.length:=List.length_set
   refine Bi.neq ?_ ?_<;>intro hxe<;>(repeat with_reducible first|refine Stp.go ?_|refine StpE.go E ?_)
   ·rw[if_pos hxe]at hinv ⊢
    exact⟨rfl,h.goes hW3 hinv E⟩
   ·rw[if_neg (λh=>h hxe)]at hinv ⊢
    refine BdS.hd E ?_
    clear E
    intro s w_ E
    have h3:Fit R D3 Xs3 tA M K (N+100) (y.setT Q.t x.1):=h.setTs hW3 ((h.inv.t.set hxi hxl).mono (by omega)) hTl3
    refine(add_okM (hs:=[(y.tb.ix Q.t,x.2.1)]) h3 (by show y.sp.op.length<64;omega) (by simp) (by simp) (λz hz=>by rw[List.mem_singleton.1 hz];show _<(y.Ts.set _ _).length;rw[hTl3];exact hk) E).mono ?_
    rintro r w' ⟨rfl,G⟩
    skip
    exact⟨rfl,G⟩
 ·rw[if_neg hin]
  rw[if_pos hin]
  refine Bi.lss (λ_=>Cnd.t ?_) (λh=>absurd h (by decide))
  exact⟨rfl,same.same E.tl.tl.tl.tl⟩
set_option maxRecDepth 100000
set_option linter.unusedVariables false
set_option linter.unusedSimpArgs false
variable {w0 w:World} {F:Nat→Prop} {l r1 r2 r3:List As}
variable {R:List RowS} {D:List Row} {Xs:List PT} {tA:List Nat} {M:TbM} {K:SpM} {N:Int} {y:Sy}
theorem list_len{T:Tr}(hi:Inv T)(hd:Int):(T.list hd).1.length≤1024:=by
 unfold Tr.list
 split
 ·exact Nat.zero_le _
 split
 ·exact Nat.zero_le _
 split
 ·exact Nat.zero_le _
 ·rw[List.length_map];exact kidsS_len hi _
theorem Wo.list{Ts:List Tr}(h:Wo D tA Xs Ts)(hI:TsI N Ts){k:Nat}{hd:Int}(hk:k<Ts.length)[hW:FWP l Xs D r1](E:Hs w0 F w l):
  Ca PP Fn.f115 #[ptr (adW tA k),i64 hd] w λr w'=>∃v,r=.tuple #[v,i64 ((trW Ts k).list hd).2]∧Hs w0 F w' (slA v Ty.t28 10 (dcs ((trW Ts k).list hd).1)::l):=by
 obtain⟨X,β,hX,ht,hb⟩:=h.get hk
 have hx:k<Xs.length:=by rw[h.len];exact hk
 have E1:=Hs.openI (f:=trA) hX (E.perm hW.perm)
 rw[← ht]
 refine(List_ok hb (hI _ (trW_mem hk)).1 (E1.perm ((List.Perm.swap _ _ _).cons _))).mono ?_
 rintro r w' ⟨v,rfl,E2⟩
 refine⟨v,rfl,?_⟩
 have E3:Hs w0 F w' (trA X::Sh.star ((Xs.eraseIdx k).map trA)::slA v Ty.t28 10 (dcs ((trW Ts k).list hd).1)::Pool D::r1):=((E2.bIx 3).bIx 2)
 have E4:=Hs.closeI (f:=trA) X hx E3
 have e:Xs.set k X=Xs:=by
  refine List.ext_getElem? λj=>?_
  by_cases hj:k=j
  ·subst hj;rw[List.getElem?_set_self hx,hX]
  ·rw[List.getElem?_set_ne hj]
 rw[e]at E4
 exact(E4.bIx 1).perm (hW.perm.symm.cons _)
theorem u_msb:PP.underlying Ty.map_string_bool=some (.map Ty.t1 Ty.bool):=by kernel_rfl
theorem k_str0:KT.str.fits PP Ty.t1=true:=by kernel_rfl
theorem z_bool0:zeroK PP Ty.bool=some (.bool false):=by kernel_rfl
def seenL(out:List Dr):List (BA×Bool):=out.map λd=>(d.name,true)
abbrev seenM(out:List Dr):AL:=encM Value.string Value.bool (seenL out)
theorem seen_get(out:List Dr)(s:BA):((getL (seenL out) s).map Value.bool).getD (.bool false)=.bool (out.any λx=>decide (x.name=s)):=by
 unfold seenL getL
 induction out with
 |nil=>rfl
 |cons d r ih=>
  rw[List.map_cons,List.find?_cons,List.any_cons]
  by_cases h:s=d.name
  ·subst h
   simp
  ·rw[show decide (s=(d.name,true).1)=false by simpa using h,show decide (d.name=s)=false by simpa using λe=>h e.symm]
   simpa using ih
theorem seen_put{out:List Dr}{d:Dr}(h:(out.any λx=>decide (x.name=d.name))=false):putL (seenL out) d.name true=seenL (out++[d]):=by
 rw[putL_new]
 ·unfold seenL
  rw[List.map_append]
  rfl
 ·unfold seenL
  rw[List.map_map]
  intro hm
  obtain⟨x,hx,he⟩:=List.mem_map.1 hm
  rw[List.any_eq_false]at h
  exact h x hx (by simpa using he)
theorem addD_len(out:List Dr)(d:Dr):(addD out d).length≤out.length+1:=by
 unfold addD
 split
 ·omega
 ·simp
theorem addsD_len:∀(ds out:List Dr),(ds.foldl addD out).length≤out.length+ds.length
 |[],out=>Nat.le_refl _
 |d::r,out=>by
  rw[List.foldl_cons,List.length_cons]
  have h1:=addsD_len r (addD out d)
  have h2:=addD_len out d
  omega
theorem List_okM{n:Int}(h:Fit R D Xs tA M K N y)(E:Hs w0 F w (SPl R D Xs tA M K y l)):
  Ca PP Fn.f109 #[ptr K.a,i64 n] w λr w'=>∃v,r=.tuple #[v,i64 (y.list n).2]∧Hs w0 F w' (slA v Ty.t28 10 (dcs (y.list n).1)::SPl R D Xs tA M K y l):=by
 refine S.f109.calls ?_
 unfold S.f109
 refine(openedS_okM (n:=n) h.sp E).mono ?_
 clear E
 rintro r w_ ⟨hv,rfl,hr,E⟩
 repeat with_reducible refine Stp.go ?_
 obtain⟨o1,o2,o3⟩:=openedS_ok h.inv n
 unfold Sy.list
 simp only[]
 generalize y.opened n=L at*
 refine Bi.neq ?_ ?_<;>intro he<;>(repeat with_reducible refine Stp.go ?_)
 ·rw[if_pos he]
  exact⟨_,rfl,Hs.nilSl E _ _⟩
 rw[if_neg (λh=>h he)]
 have hr0:RdS w0 F [PoolS R] 2 L.1.length hv (hcs tA L.1):=(hr he).read (hcs_len _) (by omega) (E.drop (List.singleton_sublist.2 (by simp))) (by simp)
 refine MkM.pt (kt:=.str) E ?_
 clear E
 intro mm w_ hmm_ E
 refine hr0.len ?_
 refine⟨λl1 w1=>∃(i:Nat) (out:List Dr) (ov:Value),l1=[ov,i64 i]∧i≤L.1.length∧out.length≤1024*i∧listW y.Ts L.1 []=listW y.Ts (L.1.drop i) out∧Hs w0 F w1 (slA ov Ty.t28 10 (dcs out)::mp mm .str (seenM out)::SPl R D Xs tA M K y l),λl1 _=>match l1 with|[_,.int _ i]=>L.1.length-i.toNat|_=>0,
  ⟨0,[],.slice none 0 0,rfl,Nat.zero_le _,Nat.le_refl _,rfl,Hs.nilSl E _ _⟩,?_⟩
 clear E
 rintro ov t28 u w1 ⟨i,out,ov',e,hi,hol,hlw,E⟩
 cases e
 refine Bi.lss ?_ ?_<;>intro hlt
 ·refine Cnd.t ?_
  have hi1:i<L.1.length:=by omega
  refine hr0.ix (by omega) (by omega) (by omega) ?_
  intro a ha
  rw[Int.toNat_natCast,hcs_drop,List.drop_eq_getElem_cons hi1]at ha
  refine(ha.weaken λ_ E=>E.drop (List.singleton_sublist.2 (by simp))).lda E (m:=2) (ds:=[iT (adW tA L.1[i].1),i64 L.1[i].2]) rfl rfl (by omega) ?_
  have hk1:=o3 _ (List.getElem_mem hi1)
  have hdr:L.1.drop i=L.1[i]::L.1.drop (i+1):=List.drop_eq_getElem_cons hi1
  generalize L.1[i]=o at*
  obtain⟨k1,h1⟩:=o
  repeat with_reducible first|refine Stp.go ?_|refine StpE.go E ?_|(refine StpW.go E ?_;clear E;intro w_ E)|(refine StpA.go E ?_;clear E;intro b_ w_ hb_ E)
  (revert b_;intro z hbz E)
  skip
  refine(Wo.list h.wo h.inv.t hk1 E).mono ?_
  clear E
  rintro r w_ ⟨dv,rfl,E⟩
  have hll:=list_len (h.inv.t _ (trW_mem hk1)).1 h1
  have hlw2:listW y.Ts L.1 []=if((trW y.Ts k1).list h1).2≠0 then([],((trW y.Ts k1).list h1).2)else listW y.Ts (L.1.drop (i+1)) (((trW y.Ts k1).list h1).1.foldl addD out):=by rw[hlw,hdr];rfl
  generalize (trW y.Ts k1).list h1=X at*
  repeat with_reducible refine Stp.go ?_
  refine Bi.neq ?_ ?_<;>intro hxe<;>(repeat with_reducible refine Stp.go ?_)
  ·rw[if_pos hxe]at hlw2
   rw[hlw2]
   replace E:=E.tl.tl.tl.tl
   exact⟨_,rfl,Hs.nilSl E _ _⟩
  rw[if_neg (λh=>h hxe)]at hlw2
  replace E:=(E.bIx 1).tl
  have hds:∀(ov:Value) (o2:List Dr) w1,Hs w0 F w1 (slA dv Ty.t28 10 (dcs X.1)::slA ov Ty.t28 10 (dcs o2)::mp mm .str (seenM o2)::SPl R D Xs tA M K y l)→RdS w0 F (slA dv Ty.t28 10 (dcs X.1)::slA ov Ty.t28 10 (dcs o2)::mp mm .str (seenM o2)::SPl R D Xs tA M K y l) 10 X.1.length dv (dcs X.1):=λov o2 w1 E=>by
   have:=RdS.sl (v:=dv) (T:=Ty.t28) (sz:=10) (xs:=dcs X.1) List.mem_cons_self (by omega) E
   rwa [dcs_len,Nat.mul_div_cancel _ (by omega)]at this
  refine(hds _ _ _ E).len ?_
  refine⟨λl1 w1=>∃(j:Nat) (ov:Value),l1=[ov,i64 j]∧j≤X.1.length∧Hs w0 F w1 (slA dv Ty.t28 10 (dcs X.1)::slA ov Ty.t28 10 (dcs ((X.1.take j).foldl addD out))::mp mm .str (seenM ((X.1.take j).foldl addD out))::SPl R D Xs tA M K y l),λl1 _=>match l1 with|[_,.int _ j]=>X.1.length-j.toNat|_=>0,
   ⟨0,ov,rfl,Nat.zero_le _,E⟩,?_⟩
  clear E
  rintro ov2 t45 u w2 ⟨j,ov2',e,hj,E⟩
  cases e
  refine Bi.lss ?_ ?_<;>intro hlt2
  ·refine Cnd.t ?_
   have hj1:j<X.1.length:=by omega
   intro J38 hJ38
   have htk:(X.1.take (j+1)).foldl addD out=addD ((X.1.take j).foldl addD out) X.1[j]:=by
    rw[List.take_add_one,List.getElem?_eq_getElem hj1,List.foldl_append,Option.toList_some,List.foldl_cons,List.foldl_nil]
   have hO:((X.1.take j).foldl addD out).length≤1024*(i+1):=by
    have:=addsD_len (X.1.take j) out
    rw[List.length_take]at this
    omega
   have hrd:=hds _ _ _ E
   generalize hOe:(X.1.take j).foldl addD out=O at*
   refine hrd.ix (by omega) (by omega) (by omega) ?_
   intro a ha
   rw[Int.toNat_natCast,dcs_drop,List.drop_eq_getElem_cons hj1]at ha
   refine ha.lda E (m:=10) (ds:=X.1[j].cs) rfl rfl (by omega) ?_
   generalize X.1[j]=d at*
   repeat with_reducible first|refine Stp.go ?_|refine StpE.go E ?_|(refine StpW.go E ?_;clear E;intro w_ E)|(refine StpA.go E ?_;clear E;intro b_ w_ hb_ E)
   (revert b_;intro q hbq E)
   (first|(refine StA.all E rfl rfl (by first|exact rfl|assumption) ?_;clear E;intro w_ E)|try (refine StA.by E rfl (by first|exact rfl|assumption) ?_;clear E;intro w_ E))
   skip
   refine Lk.one E FMp.mem u_msb k_str0 z_bool0 rfl ?_
   rw[aget_enc keyS,seen_get]
   have fin:∀(v:Value) w_,Hs w0 F w_ (slA dv Ty.t28 10 (dcs X.1)::slA v Ty.t28 10 (dcs (addD O d))::mp mm .str (seenM (addD O d))::SPl R D Xs tA M K y l)→J38 [v] w_:=by
    intro v w_ E
    refine hJ38 _ w_ λu=>?_
    refine Bi.add (by omega) ?_
    exact⟨⟨j+1,v,by simp,by omega,by rw[htk];exact E⟩,by simp only[];omega⟩
   clear hJ38
   cases hb:O.any λx=>decide (x.name=d.name)with
   |true=>
    repeat with_reducible refine Stp.go ?_
    refine fin ov2 _ ?_
    rw[show addD O d=O by unfold addD;rw[if_pos hb]]
    exact E.tl
   |false=>
    repeat with_reducible first|refine Stp.go ?_|refine StpE.go E ?_
    refine Mu.by E u_msb k_str0 rfl ?_
    clear E
    intro w_ E
    have e1:aput (seenM O) (str d.name) (.bool true)=seenM (O++[d]):=by
     show aput (encM Value.string Value.bool (seenL O)) _ _=_
     rw[aput_enc keyS,seen_put hb]
    rw[e1]at E
    repeat with_reducible refine StpE.go E ?_
    refine BdS.dir E ?_
    clear E
    intro s w_ E
    refine Ap.el E (i:=3) rfl u_sl_Dir ⟨_,u_sl_Dir,λ_ h=>by cases h⟩ e_Dir (by omega) (Src.slice (E.sat _ List.mem_cons_self) (n:=1) rfl (by omega) (dr_scal d)) rfl (by rw[dcs_len,Nat.mul_div_cancel _ (by omega)];omega) (by rw[dcs_len,Nat.mul_div_cancel _ (by omega)];omega) ?_
    clear E
    intro s2 w_ E
    simp only[List.set_cons_zero,List.set_cons_succ]at E
    rw[← dcs_app]at E
    refine fin s2 _ ?_
    rw[show addD O d=O++[d] by unfold addD;rw[hb];rfl]
    exact E.tl.tl
  ·refine Cnd.f ?_
   have hje:j=X.1.length:=by omega
   rw[hje,List.take_length]at E
   refine Bi.add (by omega) ?_
   exact⟨⟨i+1,_,ov2,by simp,by omega,by have:=addsD_len X.1 out;omega,hlw2,E.tl⟩,by simp only[];omega⟩
 ·refine Cnd.f ?_
  have hie:i=L.1.length:=by omega
  rw[hie,List.drop_length]at hlw
  rw[hlw]
  exact⟨ov,rfl,(E.bIx 1).tl⟩
set_option maxRecDepth 100000
set_option linter.unusedVariables false
set_option linter.unusedSimpArgs false
variable {w0 w:World} {F:Nat→Prop} {l r1 r2 r3:List As}
variable {R:List RowS} {D:List Row} {Xs:List PT} {tA:List Nat} {M:TbM} {K:SpM} {N:Int} {y:Sy}

structure TbV(R:List RowS)(vs:List (Value×Value))(ms:List Mt):Prop where
 len:vs.length=ms.length
 row:∀(i:Nat) m v,ms[i]? =some m→vs[i]? =some v→RdyS R Ty.t0 2 v.1 (pcs m.new)∧RdyS R Ty.bool 1 v.2 (bcs m.cr)
theorem TbV.mono{R':List RowS}{vs:List (Value×Value)}{ms:List Mt}(h:TbV R vs ms)(hs:∀x∈R,x∈R'):TbV R' vs ms:=⟨h.len,λi m v h1 h2=>⟨(h.row i m v h1 h2).1.mono hs,(h.row i m v h1 h2).2.mono hs⟩⟩
theorem copied_okM(h:Fit R D Xs tA M K N y)(E:Hs w0 F w (SPl R D Xs tA M K y l)):
  Ca PP Fn.f93 #[ptr M.a] w λr w'=>∃R' vs,(∀x∈R,x∈R')∧TbV R' vs y.tb.ms∧Hs w0 F w' (slA r Ty.t4 4 (mcs y.tb.ms vs)::SPl R' D Xs tA M K y l):=by
 refine S.f93.calls ?_
 unfold S.f93
 repeat with_reducible first|refine Stp.go ?_|refine StpE.go E ?_
 have hms:=h.inv.tb.ms
 have hrd0:∀{R':List RowS} {l2:List As} {w1:World},Hs w0 F w1 l2→slA M.mv Ty.t4 4 (mcs y.tb.ms M.vs)∈l2→RdS w0 F l2 4 y.tb.ms.length M.mv (mcs y.tb.ms M.vs):=λE hm=>by
  have:=RdS.sl hm (by omega) E
  rwa [mcs_len h.tb.len,Nat.mul_div_cancel _ (by omega)]at this
 refine(hrd0 (R':=R) E (by simp)).len ?_
 refine⟨λl1 w1=>∃(i:Nat) (ov:Value) (R':List RowS) (vs:List (Value×Value)),l1=[ov,i64 i]∧i≤y.tb.ms.length∧(∀x∈R,x∈R')∧TbV R' vs (y.tb.ms.take i)∧Hs w0 F w1 (slA ov Ty.t4 4 (mcs (y.tb.ms.take i) vs)::SPl R' D Xs tA M K y l),λl1 _=>match l1 with|[_,.int _ i]=>y.tb.ms.length-i.toNat|_=>0,
  ⟨0,.slice none 0 0,R,[],rfl,Nat.zero_le _,λ_ h=>h,⟨rfl,λi m v h=>by simp at h⟩,Hs.nilSl E _ _⟩,?_⟩
 clear E
 rintro ov t11 u w1 ⟨i,ov',R',vs,e,hi,hR,hV,E⟩
 cases e
 refine Bi.lss ?_ ?_<;>intro hlt
 ·refine Cnd.t ?_
  have hi1:i<y.tb.ms.length:=by omega
  have g1:y.tb.ms[i]? =some y.tb.ms[i]:=List.getElem?_eq_getElem hi1
  have g2:M.vs[i]? =some (M.vs[i]'(by rw[h.tb.len];exact hi1)):=List.getElem?_eq_getElem (by rw[h.tb.len];exact hi1)
  have hd:=mcs_at g1 g2
  obtain⟨y1,y2⟩:=h.tb.row _ _ _ g1 g2
  have hmi:=h.inv.tb.m _ (List.getElem_mem hi1)
  have hvl:vs.length=i:=by rw[hV.len,List.length_take];omega
  have htk:y.tb.ms.take (i+1)=y.tb.ms.take i++[y.tb.ms[i]]:=by rw[List.take_add_one,g1];rfl
  refine(hrd0 (R':=R') E (by simp)).ix (by omega) (by omega) (by omega) ?_
  intro a ha
  rw[Int.toNat_natCast,hd]at ha
  refine ha.lda E (m:=4) (ds:=y.tb.ms[i].C (M.vs[i]'(by rw[h.tb.len];exact hi1))) rfl rfl (by omega) ?_
  generalize y.tb.ms[i]=m at*
  generalize M.vs[i]'(by rw[h.tb.len];exact hi1)=v at*
  have s1:Scal v.1:=⟨RdyS.scal (n:=m.new.length) (y1.mono hR) (pcs_len _) (by omega) (by simp) E⟩
  have s2:Scal v.2:=⟨RdyS.scal (n:=m.cr.length) (y2.mono hR) (by simp) (by omega) (by simp) E⟩
  repeat with_reducible first|refine Stp.go ?_|refine StpE.go E ?_|(refine StpW.go E ?_;clear E;intro w_ E)|(refine StpA.go E ?_;clear E;intro b_ w_ hb_ E)
  (revert b_;intro z hbz E)
  (first|(refine StA.all E rfl rfl (by first|exact rfl|assumption) ?_;clear E;intro w_ E)|try (refine StA.by E rfl (by first|exact rfl|assumption) ?_;clear E;intro w_ E))
  skip
  have k1:=(y1.mono hR).read (n:=m.new.length) (pcs_len _) (by omega) E (by simp)
  have k2:=(y2.mono hR).read (n:=m.cr.length) (by simp) (by omega) E (by simp)
  refine(CloneP_ok k1 (by have:=hmi.few;omega) E).mono ?_
  clear E
  intro c1 w_ E
  (repeat(with_reducible refine And.intro ?_ ?_;focus ((repeat with_reducible refine StpE.go E ?_);exact rfl)))
  refine(CloneB_ok (k2.cons _) (by have:=hmi.few;have:=hmi.cr;omega) E).mono ?_
  clear E
  intro c2 w_ E
  have ic1:Scal c1:=⟨Hs.slScal E FSl.mem⟩
  have ic2:Scal c2:=⟨Hs.slScal E FSl.mem⟩
  (repeat(with_reducible refine And.intro ?_ ?_;focus ((repeat with_reducible refine StpE.go E ?_);exact rfl)))
  repeat with_reducible refine StpE.go E ?_
  refine BdS.mt (m:=m) (v:=(c1,c2)) E ?_
  clear E
  intro s w_ E
  refine Ap.el E (i:=4) rfl u_sl_Mount ⟨_,u_sl_Mount,λ_ h=>by cases h⟩ e_Mount (by omega) (Src.slice (E.sat _ List.mem_cons_self) (n:=1) rfl (by omega) (by simp only[List.all_cons,List.all_nil,ic1.s,ic2.s,Bool.and_true];rfl)) rfl (by rw[mcs_len hV.len,Nat.mul_div_cancel _ (by omega),List.length_take];omega) (by rw[mcs_len hV.len,Nat.mul_div_cancel _ (by omega),List.length_take];omega) ?_
  clear E
  intro s2 w_ E
  simp only[List.set_cons_zero,List.set_cons_succ]at E
  replace E:=E.tl
  rw[← mcs_app hV.len]at E
  replace E:=Hs.poolS Ty.t0 ((E.bIx 9).bIx 2)
  replace E:=Hs.poolS Ty.bool (E.bIx 1)
  replace E:=(E.bIx 1).tl
  (replace E:=(((((((((E.bIx 8).bIx 8).bIx 2).bIx 8).bIx 8).bIx 8).bIx 8).bIx 8).bIx 8))
  have hR2:∀x∈R',x∈(⟨c2,Ty.bool,1,bcs m.cr⟩:RowS)::⟨c1,Ty.t0,2,pcs m.new⟩::R':=λx hx=>List.mem_cons_of_mem _ (List.mem_cons_of_mem _ hx)
  refine Bi.add (by omega) ?_
  refine⟨⟨i+1,s2,_,vs++[(c1,c2)],by simp,by omega,λx hx=>hR2 x (hR x hx),⟨by rw[List.length_append,hV.len,htk,List.length_append];rfl,?_⟩,by rw[htk];exact E⟩,by simp only[];omega⟩
  rw[htk]
  exact rows_app hV.len hR2 ⟨.inr (List.mem_cons_of_mem _ List.mem_cons_self),.inr List.mem_cons_self⟩ hV.row
 ·refine Cnd.f ?_
  have hie:i=y.tb.ms.length:=by omega
  rw[hie,List.take_length]at E hV
  exact⟨R',vs,hR,hV,E⟩
theorem Table_okM(h:Fit R D Xs tA M K N y)(E:Hs w0 F w (SPl R D Xs tA M K y l)):
  Ca PP Fn.f65 #[ptr K.a] w λr w'=>∃R' vs,(∀x∈R,x∈R')∧TbV R' vs y.tb.ms∧Hs w0 F w' (slA r Ty.t4 4 (mcs y.tb.ms vs)::SPl R' D Xs tA M K y l):=by
 refine S.f65.calls ?_
 unfold S.f65
 refine Eq.ef u_p_Space rfl ?_
 repeat with_reducible first|refine Stp.go ?_|refine StpE.go E ?_
 refine(copied_okM h E).mono ?_
 clear E
 rintro r w_ hh
 skip
 exact hh
set_option maxRecDepth 100000
set_option linter.unusedVariables false
set_option linter.unusedSimpArgs false
variable {w0 w:World} {F:Nat→Prop} {l r1 r2 r3:List As}
variable {R:List RowS} {D:List Row} {Xs:List PT} {tA:List Nat} {M:TbM} {K:SpM} {N:Int} {y:Sy}

def Sy.forked(y:Sy):Sy:={y with sp:={y.sp with op:=[]}}
abbrev tblO(tv mv:Value):Obj:=oc [tv,mv] Ty.space_table
abbrev spcO(ma:Nat)(y:Sy)(om:Nat):Obj:=oc [ptr ma,str y.sp.user,str y.sp.dir,.map (some om)] Ty.space_Space
set_option maxRecDepth 100000
set_option linter.unusedVariables false
set_option linter.unusedSimpArgs false

def Sy.withOp(y:Sy)(o:List (Int×List (Nat×Int))):Sy:={y with sp:={y.sp with op:=o}}
theorem act_0(y:Sy){x:Xa}(h:x.kind=0):y.act x=((y.bind x.path x.old x.flag).1,{errno:=(y.bind x.path x.old x.flag).2}):=by
 unfold Sy.act
 rw[if_pos h]
theorem act_1(y:Sy){x:Xa}(h:x.kind=1):y.act x=((y.mount (x.tree y.Ts.length) x.old x.flag).1,{errno:=(y.mount (x.tree y.Ts.length) x.old x.flag).2}):=by
 unfold Sy.act
 rw[if_neg (by omega),if_pos h]
theorem act_2(y:Sy){x:Xa}(h:x.kind=2):y.act x=((y.unmount x.path x.old).1,{errno:=(y.unmount x.path x.old).2}):=by
 unfold Sy.act
 rw[if_neg (by omega),if_neg (by omega),if_pos h]
theorem act_3(y:Sy){x:Xa}(h:x.kind=3):y.act x=((y.chdir x.path).1,{errno:=(y.chdir x.path).2}):=by
 unfold Sy.act
 rw[if_neg (by omega),if_neg (by omega),if_neg (by omega),if_pos h]
set_option maxRecDepth 100000
set_option linter.unusedVariables false
set_option linter.unusedSimpArgs false
variable {w0 w:World} {F:Nat→Prop} {l:List As}
set_option maxRecDepth 100000
set_option linter.unusedVariables false
set_option linter.unusedSimpArgs false
variable {w0 w:World} {F:Nat→Prop} {l:List As}
abbrev Xa.C(x:Xa):List Value:=[i64 x.kind,i64 x.number,i64 x.flag,str x.path,str x.old,str x.data,i64 x.perm,i64 x.offset,i64 x.dir.kind,i64 x.dir.vers,i64 x.dir.path,i64 x.dir.mode,i64 x.dir.time,i64 x.dir.len,str x.dir.name,str x.dir.owner,str x.dir.group,str x.dir.last]
abbrev Xa.V(x:Xa):Value:=.agg x.C.toArray
abbrev raC(n:Int)(t:BA)(dv pv:Value)(e:Int):List Value:=[i64 n,str t,dv,pv,i64 e]
abbrev nlV:Value:=.slice none 0 0
set_option maxRecDepth 100000
set_option linter.unusedVariables false
set_option linter.unusedSimpArgs false
variable {w0 w:World} {F:Nat→Prop} {l:List As}
set_option maxRecDepth 100000
set_option linter.unusedVariables false
set_option linter.unusedSimpArgs false
variable {w0 w:World} {F:Nat→Prop} {l:List As}

structure Xa.Ok(x:Xa):Prop where
 path:x.path.size≤140737488355328
 old:x.old.size≤140737488355328
 data:x.data.size≤140737488355328
 name:x.dir.name.size≤140737488355328
 owner:x.dir.owner.size≤140737488355328
 group:x.dir.group.size≤140737488355328
 last:x.dir.last.size≤140737488355328
def Xa.total(x:Xa):Nat:=x.path.size+x.old.size+x.data.size+x.dir.name.size+x.dir.group.size+x.dir.owner.size+x.dir.last.size
def bigX(x:Xa):Bool:=decide (700<x.total) || decide (3000<x.offset∧x.offset≤1048576) || decide (3000<x.dir.len∧x.dir.len≤1048576)
theorem b_fewX:hasBody PP Fn.f122=true:=by kernel_rfl
theorem FewX1_ok{x:Xa}(hx:x.Ok)(E:Hs w0 F w l):Ca PP Fn.f122 #[x.V] w λr w'=>r=.bool (bigX x)∧Hs w0 F w' l:=by
 obtain⟨h1,h2,h3,h4,h5,h6,h7⟩:=hx
 refine S.f122.calls ?_
 unfold S.f122
 repeat with_reducible (refine StpA.go E ?_;clear E;intro b_ w_ hb_ E)
 (intro J3 hJ3)
 have fin:∀b w_,b=bigX x→(∃A,Hs w0 F w_ (A::l))→J3 [.bool b] w_:=by
  rintro b w_ hb ⟨A,E⟩
  repeat with_reducible (apply hJ3;intro u_)
  exact⟨by rw[hb],E.tl⟩
 clear hJ3
 repeat with_reducible first|refine Stp.go ?_|refine StpE.go E ?_
 refine Bi.add (by omega) ?_
 repeat with_reducible first|refine Stp.go ?_|refine StpE.go E ?_
 refine Bi.add (by omega) ?_
 repeat with_reducible first|refine Stp.go ?_|refine StpE.go E ?_
 refine Bi.add (by omega) ?_
 repeat with_reducible first|refine Stp.go ?_|refine StpE.go E ?_
 refine Bi.add (by omega) ?_
 repeat with_reducible first|refine Stp.go ?_|refine StpE.go E ?_
 refine Bi.add (by omega) ?_
 repeat with_reducible first|refine Stp.go ?_|refine StpE.go E ?_
 refine Bi.add (by omega) ?_
 have ht:(x.total:Int)=(x.path.size:Int)+x.old.size+x.data.size+x.dir.name.size+x.dir.group.size+x.dir.owner.size+x.dir.last.size:=by unfold Xa.total;omega
 refine Bi.gtr ?_ ?_<;>intro c1<;>(repeat with_reducible first|refine Stp.go ?_|refine StpE.go E ?_)
 ·exact fin _ _ (by unfold bigX;rw[decide_eq_true (show 700<x.total by omega)];rfl) ⟨_,E⟩
 have k1:decide (700<x.total)=false:=decide_eq_false (by omega)
 refine Bi.gtr ?_ ?_<;>intro c2<;>(repeat with_reducible first|refine Stp.go ?_|refine StpE.go E ?_)
 ·refine Bi.leq ?_ ?_<;>intro c3<;>(repeat with_reducible first|refine Stp.go ?_|refine StpE.go E ?_)
  ·exact fin _ _ (by unfold bigX;rw[k1];simp;omega) ⟨_,E⟩
  ·refine Bi.gtr ?_ ?_<;>intro c4<;>(repeat with_reducible first|refine Stp.go ?_|refine StpE.go E ?_)
   ·refine Bi.leq ?_ ?_<;>intro c5<;>(repeat with_reducible refine Stp.go ?_)
    ·exact fin _ _ (by unfold bigX;rw[k1];simp;omega) ⟨_,E⟩
    ·exact fin _ _ (by unfold bigX;rw[k1];simp;omega) ⟨_,E⟩
   ·exact fin _ _ (by unfold bigX;rw[k1];simp;omega) ⟨_,E⟩
 ·refine Bi.gtr ?_ ?_<;>intro c4<;>(repeat with_reducible first|refine Stp.go ?_|refine StpE.go E ?_)
  ·refine Bi.leq ?_ ?_<;>intro c5<;>(repeat with_reducible refine Stp.go ?_)
   ·exact fin _ _ (by unfold bigX;rw[k1];simp;omega) ⟨_,E⟩
   ·exact fin _ _ (by unfold bigX;rw[k1];simp;omega) ⟨_,E⟩
  ·exact fin _ _ (by unfold bigX;rw[k1];simp;omega) ⟨_,E⟩
set_option maxRecDepth 100000
set_option linter.unusedVariables false
set_option linter.unusedSimpArgs false
variable {w0 w:World} {F:Nat→Prop} {l r1 r2 r3:List As}
variable {R:List RowS} {D:List Row} {Xs:List PT} {tA:List Nat} {M:TbM} {K:SpM} {N:Int} {y:Sy}
theorem act_4(y:Sy){x:Xa}(h:x.kind=4):y.act x=(y,{dirs:=[(y.stat x.path).1],errno:=(y.stat x.path).2}):=by
 unfold Sy.act
 rw[if_neg (by omega),if_neg (by omega),if_neg (by omega),if_neg (by omega),if_pos h]
theorem act_5(y:Sy){x:Xa}(h:x.kind=5):y.act x=((y.wstat x.path x.dir).1,{errno:=(y.wstat x.path x.dir).2}):=by
 unfold Sy.act
 rw[if_neg (by omega),if_neg (by omega),if_neg (by omega),if_neg (by omega),if_neg (by omega),if_pos h]
theorem act_6(y:Sy){x:Xa}(h:x.kind=6):y.act x=((y.openF x.path x.flag).1,{number:=(y.openF x.path x.flag).2.1,errno:=(y.openF x.path x.flag).2.2}):=by
 unfold Sy.act
 rw[if_neg (by omega),if_neg (by omega),if_neg (by omega),if_neg (by omega),if_neg (by omega),if_neg (by omega),if_pos h]
theorem act_7(y:Sy){x:Xa}(h:x.kind=7):y.act x=((y.create x.path x.perm x.flag).1,{number:=(y.create x.path x.perm x.flag).2.1,errno:=(y.create x.path x.perm x.flag).2.2}):=by
 unfold Sy.act
 rw[if_neg (by omega),if_neg (by omega),if_neg (by omega),if_neg (by omega),if_neg (by omega),if_neg (by omega),if_neg (by omega),if_pos h]
theorem act_8(y:Sy){x:Xa}(h:x.kind=8):y.act x=(y,{text:=(y.read x.number x.offset x.flag).1,errno:=(y.read x.number x.offset x.flag).2}):=by
 unfold Sy.act
 rw[if_neg (by omega),if_neg (by omega),if_neg (by omega),if_neg (by omega),if_neg (by omega),if_neg (by omega),if_neg (by omega),if_neg (by omega),if_pos h]
theorem act_9(y:Sy){x:Xa}(h:x.kind=9):y.act x=(y,{dirs:=(y.list x.number).1,errno:=(y.list x.number).2}):=by
 unfold Sy.act
 rw[if_neg (by omega),if_neg (by omega),if_neg (by omega),if_neg (by omega),if_neg (by omega),if_neg (by omega),if_neg (by omega),if_neg (by omega),if_neg (by omega),if_pos h]
theorem act_10(y:Sy){x:Xa}(h:x.kind=10):y.act x=((y.write x.number x.offset x.data).1,{number:=(y.write x.number x.offset x.data).2.1,errno:=(y.write x.number x.offset x.data).2.2}):=by
 unfold Sy.act
 rw[if_neg (by omega),if_neg (by omega),if_neg (by omega),if_neg (by omega),if_neg (by omega),if_neg (by omega),if_neg (by omega),if_neg (by omega),if_neg (by omega),if_neg (by omega),if_pos h]
theorem act_11(y:Sy){x:Xa}(h:x.kind=11):y.act x=((y.close x.number).1,{errno:=(y.close x.number).2}):=by
 unfold Sy.act
 rw[if_neg (by omega),if_neg (by omega),if_neg (by omega),if_neg (by omega),if_neg (by omega),if_neg (by omega),if_neg (by omega),if_neg (by omega),if_neg (by omega),if_neg (by omega),if_neg (by omega),if_pos h]
theorem act_12(y:Sy){x:Xa}(h:x.kind=12):y.act x=((y.remove x.path).1,{errno:=(y.remove x.path).2}):=by
 unfold Sy.act
 rw[if_neg (by omega),if_neg (by omega),if_neg (by omega),if_neg (by omega),if_neg (by omega),if_neg (by omega),if_neg (by omega),if_neg (by omega),if_neg (by omega),if_neg (by omega),if_neg (by omega),if_neg (by omega),if_pos h]
theorem act_13(y:Sy){x:Xa}(h:x.kind=13):y.act x=(y,{places:=(y.where_ x.path).1,errno:=(y.where_ x.path).2}):=by
 unfold Sy.act
 rw[if_neg (by omega),if_neg (by omega),if_neg (by omega),if_neg (by omega),if_neg (by omega),if_neg (by omega),if_neg (by omega),if_neg (by omega),if_neg (by omega),if_neg (by omega),if_neg (by omega),if_neg (by omega),if_neg (by omega),if_pos h]
theorem act_no(y:Sy){x:Xa}(h:x.kind<0∨14≤x.kind):y.act x=(y,{}):=by
 unfold Sy.act
 rw[if_neg (by omega),if_neg (by omega),if_neg (by omega),if_neg (by omega),if_neg (by omega),if_neg (by omega),if_neg (by omega),if_neg (by omega),if_neg (by omega),if_neg (by omega),if_neg (by omega),if_neg (by omega),if_neg (by omega),if_neg (by omega)]
theorem Hs.spl3{a b c:As}(E:Hs w0 F w (a::b::c::SPl R D Xs tA M K y l)):Hs w0 F w (SPl R D Xs tA M K y (a::b::c::l)):=
 (((((((E.bIx 10).bIx 10).bIx 10).bIx 10).bIx 10).bIx 10).bIx 10).bIx 10
theorem DoS_okM{x:Xa}{tv:Value}(h:Fit R D Xs tA M K N y)(h0:0≤N)(hN:N+1000<4611686018427387904)(hx:x.total≤700)(htA:tA.length=y.Ts.length)(h4:tA.length≤4)(E:Hs w0 F w (SPl R D Xs tA M K y (slA tv Ty.t7 1 (tA.map ptr)::l))):
  Ca PP Fn.law29_Do #[ptr K.a,tv,x.V] w λr w'=>∃dv pv,r=.agg (raC (y.act x).2.number (y.act x).2.text dv pv (y.act x).2.errno).toArray∧
   GoS w0 F (slA tv Ty.t7 1 (tA.map ptr)::slA dv Ty.t28 10 (dcs (y.act x).2.dirs)::slA pv Ty.t0 2 (pcs (y.act x).2.places)::l) R tA M K (N+100) (y.act x).1 w':=by
 refine S.law29_Do.calls ?_
 unfold S.law29_Do
 have hz:x.path.size≤1000000∧x.old.size≤1000000∧x.dir.name.size≤9223372036854775807∧x.dir.group.size≤9223372036854775807:=by unfold Xa.total at hx;omega
 obtain⟨hz1,hz2,hz3,hz4⟩:=hz
 refine StpA.go E ?_
 clear E
 intro q w_ h1 E
 refine StpA.go E ?_
 clear E
 intro b w_ h2 E
 repeat with_reducible first|refine StpE.go E ?_|(refine StpW.go E ?_;clear E;intro w_ E)|(refine StpA.go E ?_;clear E;intro b_ w_ hb_ E)
 (revert b_;intro c hbc E)
 (first|(refine StA.all E rfl rfl (by first|exact rfl|assumption) ?_;clear E;intro w_ E)|try (refine StA.by E rfl (by first|exact rfl|assumption) ?_;clear E;intro w_ E))
 intro J9 hJ9
 have fin:∀(n:Int) (t:BA) (dv pv:Value) (ds:List Dr) (ps:List Pl) (e:Int) (yy:Sy) (R':List RowS) (D':List Row) (Xs':List PT) (M':TbM) (K':SpM) w_,M'.a=M.a→K'.a=K.a→K'.om=K.om→(∀x∈R,x∈R')→Fit R' D' Xs' tA M' K' (N+100) yy→y.act x=(yy,⟨n,t,ds,ps,e⟩)→
   Hs w0 F w_ (slA dv Ty.t28 10 (dcs ds)::slA pv Ty.t0 2 (pcs ps)::SPl R' D' Xs' tA M' K' yy (pt c (oc (raC n t dv pv e) Ty.law29_Result)::pt b (oc (raC 0 emp nlV nlV 0) Ty.law29_Result)::pt q (oc x.C Ty.t42)::slA tv Ty.t7 1 (tA.map ptr)::l))→J9 [] w_:=by
  intro n t dv pv ds ps e yy R' D' Xs' M' K' w_ g1 g2 g3 g4 g5 ha E
  refine hJ9 w_ λu=>?_
  clear hJ9
  have iv1:Scal dv:=⟨Hs.slScal E FSl.mem⟩
  have iv2:Scal pv:=⟨Hs.slScal E FSl.mem⟩
  repeat with_reducible first|refine StpE.go E ?_|(refine StpW.go E ?_;clear E;intro w_ E)
  (first|(refine StA.all E rfl rfl (by first|exact rfl|assumption) ?_;clear E;intro w_ E)|try (refine StA.by E rfl (by first|exact rfl|assumption) ?_;clear E;intro w_ E))
  skip
  (replace E:=((((((((((((((E.bIx 12).bIx 12).bIx 12).bIx 4).bIx 4).bIx 13).bIx 13).bIx 13).bIx 13).bIx 13).bIx 13).bIx 13).bIx 13).bIx 13))
  replace E:=(((E.bIx 11).tl.bIx 11).tl.bIx 11).tl
  rw[ha]
  exact⟨dv,pv,rfl,R',D',Xs',M',K',g1,g2,g3,g4,g5,E⟩
 clear hJ9
 have same:Fit R D Xs tA M K (N+100) y:=h.mono (by omega)
 repeat with_reducible first|refine Stp.go ?_|refine StpE.go E ?_
 refine Bi.eql ?_ ?_<;>intro c0<;>(repeat with_reducible first|refine Stp.go ?_|refine StpE.go E ?_)
 ·refine(Bind_okM h hz1 hz2 (Hs.spl3 E)).mono ?_
  clear E
  rintro r w_ ⟨rfl,R',D',Xs',M',K',g1,g2,g3,g4,g5,E⟩
  repeat with_reducible first|refine Stp.go ?_|(refine StpW.go E ?_;clear E;intro w_ E)
  exact fin 0 emp nlV nlV [] [] _ _ R' D' Xs' M' K' _ g1 g2 g3 g4 (g5.mono (by omega)) (act_0 y c0) (Hs.nilSl (Hs.nilSl E _ _) _ _)
 refine Bi.eql ?_ ?_<;>intro c1<;>(repeat with_reducible refine Stp.go ?_)
 ·have htv:RdS w0 F (pt c (oc (raC 0 emp nlV nlV 0) Ty.law29_Result)::pt b (oc (raC 0 emp nlV nlV 0) Ty.law29_Result)::pt q (oc x.C Ty.t42)::SPl R D Xs tA M K y (slA tv Ty.t7 1 (tA.map ptr)::l)) 1 tA.length tv (tA.map ptr):=by
   have:=RdS.sl (v:=tv) (T:=Ty.t7) (sz:=1) (xs:=tA.map ptr) (by simp) (by omega) E
   rwa [Nat.div_one,List.length_map]at this
  intro J29 hJ29
  have no:¬(0≤x.number∧x.number<(y.Ts.length:Int))→∀w_,Hs w0 F w_ (pt c (oc (raC 0 emp nlV nlV 0) Ty.law29_Result)::pt b (oc (raC 0 emp nlV nlV 0) Ty.law29_Result)::pt q (oc x.C Ty.t42)::SPl R D Xs tA M K y (slA tv Ty.t7 1 (tA.map ptr)::l))→J29 [.bool false] w_:=by
   intro hb w_ E
   refine hJ29 _ w_ λu=>Cnd.f ?_
   repeat with_reducible first|refine Stp.go ?_|refine StpE.go E ?_
   have hxt:x.tree y.Ts.length=none:=by unfold Xa.tree;rw[if_neg hb]
   have ha:=act_1 y c1
   rw[hxt]at ha
   refine(Mount_none (old:=x.old) (flag:=x.flag) h (Hs.spl3 E)).mono ?_
   clear E
   rintro r w_ ⟨rfl,R',D',Xs',M',K',g1,g2,g3,g4,g5,E⟩
   repeat with_reducible first|refine Stp.go ?_|(refine StpW.go E ?_;clear E;intro w_ E)
   exact fin 0 emp nlV nlV [] [] _ _ R' D' Xs' M' K' _ g1 g2 g3 g4 (g5.mono (by omega)) ha (Hs.nilSl (Hs.nilSl E _ _) _ _)
  have yes:(0≤x.number∧x.number<(y.Ts.length:Int))→∀w_,Hs w0 F w_ (pt c (oc (raC 0 emp nlV nlV 0) Ty.law29_Result)::pt b (oc (raC 0 emp nlV nlV 0) Ty.law29_Result)::pt q (oc x.C Ty.t42)::SPl R D Xs tA M K y (slA tv Ty.t7 1 (tA.map ptr)::l))→J29 [.bool true] w_:=by
   intro hb w_ E
   refine hJ29 _ w_ λu=>Cnd.t ?_
   repeat with_reducible first|refine Stp.go ?_|refine StpE.go E ?_|(refine StpW.go E ?_;clear E;intro w_ E)
   have hxt:x.tree y.Ts.length=some x.number.toNat:=by unfold Xa.tree;rw[if_pos hb]
   have ha:=act_1 y c1
   rw[hxt]at ha
   refine htv.ix hb.1 (by omega) (by omega) ?_
   intro a ha2
   rw[Nat.mul_one]at ha2
   refine ha2.ld E (x:=ptr (adW tA x.number.toNat)) (by
    rw[List.getElem?_drop,Nat.add_zero,List.getElem?_map]
    unfold adW
    rw[List.getD_eq_getElem?_getD,List.getElem?_eq_getElem (show x.number.toNat<tA.length by omega)]
    rfl) ?_
   repeat with_reducible first|refine Stp.go ?_|refine StpE.go E ?_
   refine(Mount_okM (k:=x.number.toNat) (old:=x.old) (flag:=x.flag) h (by omega) hz2 (Hs.spl3 E)).mono ?_
   clear E
   rintro r w_ ⟨rfl,R',D',Xs',M',K',g1,g2,g3,g4,g5,E⟩
   repeat with_reducible first|refine Stp.go ?_|(refine StpW.go E ?_;clear E;intro w_ E)
   exact fin 0 emp nlV nlV [] [] _ _ R' D' Xs' M' K' _ g1 g2 g3 g4 (g5.mono (by omega)) ha (Hs.nilSl (Hs.nilSl E _ _) _ _)
  clear hJ29
  repeat with_reducible first|refine Stp.go ?_|refine StpE.go E ?_
  refine Bi.geq ?_ ?_<;>intro d1<;>(repeat with_reducible first|refine Stp.go ?_|refine StpE.go E ?_)
  ·refine Bi.lss ?_ ?_<;>intro d2<;>(repeat with_reducible refine Stp.go ?_)
   ·exact yes ⟨d1,by rw[List.length_map]at d2;omega⟩ _ E
   ·exact no (λh=>by rw[List.length_map]at d2;omega) _ E
  ·exact no (λh=>by omega) _ E
 refine Bi.eql ?_ ?_<;>intro c2<;>(repeat with_reducible first|refine Stp.go ?_|refine StpE.go E ?_)
 ·refine(Unmount_okM h hz1 hz2 (Hs.spl3 E)).mono ?_
  clear E
  rintro r w_ ⟨rfl,R',D',Xs',M',K',g1,g2,g3,g4,g5,E⟩
  repeat with_reducible first|refine Stp.go ?_|(refine StpW.go E ?_;clear E;intro w_ E)
  exact fin 0 emp nlV nlV [] [] _ _ R' D' Xs' M' K' _ g1 g2 g3 g4 (g5.mono (by omega)) (act_2 y c2) (Hs.nilSl (Hs.nilSl E _ _) _ _)
 refine Bi.eql ?_ ?_<;>intro c3<;>(repeat with_reducible first|refine Stp.go ?_|refine StpE.go E ?_)
 ·refine(Chdir_okM h hz1 (Hs.spl3 E)).mono ?_
  clear E
  rintro r w_ ⟨rfl,R',D',Xs',M',K',g1,g2,g3,g4,g5,E⟩
  repeat with_reducible first|refine Stp.go ?_|(refine StpW.go E ?_;clear E;intro w_ E)
  exact fin 0 emp nlV nlV [] [] _ _ R' D' Xs' M' K' _ g1 g2 g3 g4 (g5.mono (by omega)) (act_3 y c3) (Hs.nilSl (Hs.nilSl E _ _) _ _)
 refine Bi.eql ?_ ?_<;>intro c4<;>(repeat with_reducible first|refine Stp.go ?_|refine StpE.go E ?_)
 ·refine(Stat_okM h hz1 (Hs.spl3 E)).mono ?_
  clear E
  rintro r w_ ⟨rfl,E⟩
  have ha:=act_4 y c4
  generalize y.stat x.path=X at*
  repeat with_reducible first|refine Stp.go ?_|refine StpE.go E ?_|(refine StpW.go E ?_;clear E;intro w_ E)|(refine StpA.go E ?_;clear E;intro b_ w_ hb_ E)
  (revert b_;intro z hbz E)
  (first|(refine StA.all E rfl rfl (by first|exact rfl|assumption) ?_;clear E;intro w_ E)|try (refine StA.by E rfl (by first|exact rfl|assumption) ?_;clear E;intro w_ E))
  skip
  refine BdS.dir E ?_
  clear E
  intro v w_ E
  have iv:Scal v:=⟨Hs.slScal E FSl.mem⟩
  repeat with_reducible first|refine Stp.go ?_|(refine StpW.go E ?_;clear E;intro w_ E)
  replace E:=(E.bIx 1).tl
  replace E:Hs w0 F _ (slA nlV Ty.t0 2 (pcs [])::_):=Hs.nilSl E Ty.t0 2
  exact fin 0 emp v nlV [X.1] [] _ _ R D Xs M K _ rfl rfl rfl (λ_ h=>h) same ha (E.bIx 1)
 refine Bi.eql ?_ ?_<;>intro c5<;>(repeat with_reducible first|refine Stp.go ?_|refine StpE.go E ?_)
 ·refine(Wstat_okM h hN hz1 hz3 hz4 (Hs.spl3 E)).mono ?_
  clear E
  rintro r w_ ⟨rfl,R',D',Xs',M',K',g1,g2,g3,g4,g5,E⟩
  repeat with_reducible first|refine Stp.go ?_|(refine StpW.go E ?_;clear E;intro w_ E)
  exact fin 0 emp nlV nlV [] [] _ _ R' D' Xs' M' K' _ g1 g2 g3 g4 g5 (act_5 y c5) (Hs.nilSl (Hs.nilSl E _ _) _ _)
 refine Bi.eql ?_ ?_<;>intro c6<;>(repeat with_reducible first|refine Stp.go ?_|refine StpE.go E ?_)
 ·refine(Open_okM h hN hz1 (Hs.spl3 E)).mono ?_
  clear E
  rintro r w_ ⟨rfl,R',D',Xs',M',K',g1,g2,g3,g4,g5,E⟩
  repeat with_reducible first|refine Stp.go ?_|(refine StpW.go E ?_;clear E;intro w_ E)
  exact fin _ emp nlV nlV [] [] _ _ R' D' Xs' M' K' _ g1 g2 g3 g4 g5 (act_6 y c6) (Hs.nilSl (Hs.nilSl E _ _) _ _)
 refine Bi.eql ?_ ?_<;>intro c7<;>(repeat with_reducible first|refine Stp.go ?_|refine StpE.go E ?_)
 ·refine(Create_okM h h0 hN hz1 (Hs.spl3 E)).mono ?_
  clear E
  rintro r w_ ⟨rfl,R',D',Xs',M',K',g1,g2,g3,g4,g5,E⟩
  repeat with_reducible first|refine Stp.go ?_|(refine StpW.go E ?_;clear E;intro w_ E)
  exact fin _ emp nlV nlV [] [] _ _ R' D' Xs' M' K' _ g1 g2 g3 g4 g5 (act_7 y c7) (Hs.nilSl (Hs.nilSl E _ _) _ _)
 refine Bi.eql ?_ ?_<;>intro c8<;>(repeat with_reducible first|refine Stp.go ?_|refine StpE.go E ?_)
 ·refine(ReadS_ok (n:=x.number) (off:=x.offset) (count:=x.flag) h.sp h.inv (by simp) h.wo (Hs.spl3 E)).mono ?_
  clear E
  rintro r w_ ⟨rfl,E⟩
  have ha:=act_8 y c8
  generalize y.read x.number x.offset x.flag=X at*
  repeat with_reducible first|refine Stp.go ?_|(refine StpW.go E ?_;clear E;intro w_ E)
  exact fin 0 _ nlV nlV [] [] _ _ R D Xs M K _ rfl rfl rfl (λ_ h=>h) same ha (Hs.nilSl (Hs.nilSl E _ _) _ _)
 refine Bi.eql ?_ ?_<;>intro c9<;>(repeat with_reducible first|refine Stp.go ?_|refine StpE.go E ?_)
 ·refine(List_okM (n:=x.number) h (Hs.spl3 E)).mono ?_
  clear E
  rintro r w_ ⟨v,rfl,E⟩
  have ha:=act_9 y c9
  generalize y.list x.number=X at*
  have iv:Scal v:=⟨Hs.slScal E FSl.mem⟩
  repeat with_reducible first|refine Stp.go ?_|(refine StpW.go E ?_;clear E;intro w_ E)
  replace E:Hs w0 F _ (slA nlV Ty.t0 2 (pcs [])::_):=Hs.nilSl E Ty.t0 2
  exact fin 0 emp v nlV _ [] _ _ R D Xs M K _ rfl rfl rfl (λ_ h=>h) same ha (E.bIx 1)
 refine Bi.eql ?_ ?_<;>intro c10<;>(repeat with_reducible first|refine Stp.go ?_|refine StpE.go E ?_)
 ·refine(Write_okM h hN (Hs.spl3 E)).mono ?_
  clear E
  rintro r w_ ⟨rfl,R',D',Xs',M',K',g1,g2,g3,g4,g5,E⟩
  repeat with_reducible first|refine Stp.go ?_|(refine StpW.go E ?_;clear E;intro w_ E)
  exact fin _ emp nlV nlV [] [] _ _ R' D' Xs' M' K' _ g1 g2 g3 g4 g5 (act_10 y c10) (Hs.nilSl (Hs.nilSl E _ _) _ _)
 refine Bi.eql ?_ ?_<;>intro c11<;>(repeat with_reducible first|refine Stp.go ?_|refine StpE.go E ?_)
 ·refine(Close_okM h hN (Hs.spl3 E)).mono ?_
  clear E
  rintro r w_ ⟨rfl,R',D',Xs',M',K',g1,g2,g3,g4,g5,E⟩
  repeat with_reducible first|refine Stp.go ?_|(refine StpW.go E ?_;clear E;intro w_ E)
  exact fin 0 emp nlV nlV [] [] _ _ R' D' Xs' M' K' _ g1 g2 g3 g4 g5 (act_11 y c11) (Hs.nilSl (Hs.nilSl E _ _) _ _)
 refine Bi.eql ?_ ?_<;>intro c12<;>(repeat with_reducible first|refine Stp.go ?_|refine StpE.go E ?_)
 ·refine(Remove_okM h hN hz1 (Hs.spl3 E)).mono ?_
  clear E
  rintro r w_ ⟨rfl,R',D',Xs',M',K',g1,g2,g3,g4,g5,E⟩
  repeat with_reducible first|refine Stp.go ?_|(refine StpW.go E ?_;clear E;intro w_ E)
  exact fin 0 emp nlV nlV [] [] _ _ R' D' Xs' M' K' _ g1 g2 g3 g4 g5 (act_12 y c12) (Hs.nilSl (Hs.nilSl E _ _) _ _)
 refine Bi.eql ?_ ?_<;>intro c13<;>(repeat with_reducible first|refine Stp.go ?_|refine StpE.go E ?_)
 ·refine(where_okM hz1 h.ctx0 (Hs.spl3 E)).mono ?_
  clear E
  rintro r w_ ⟨v,rfl,E⟩
  have ha:=act_13 y c13
  generalize y.where_ x.path=X at*
  have iv:Scal v:=⟨Hs.slScal E FSl.mem⟩
  repeat with_reducible first|refine Stp.go ?_|(refine StpW.go E ?_;clear E;intro w_ E)
  replace E:Hs w0 F _ (slA nlV Ty.t28 10 (dcs [])::_):=Hs.nilSl E Ty.t28 10
  exact fin 0 emp nlV v [] _ _ _ R D Xs M K _ rfl rfl rfl (λ_ h=>h) same ha E
 ·exact fin 0 emp nlV nlV [] [] 0 y R D Xs M K _ rfl rfl rfl (λ_ h=>h) same (act_no y (by omega)) (Hs.nilSl (Hs.nilSl (Hs.spl3 E) _ _) _ _)
set_option maxRecDepth 100000
set_option linter.unusedVariables false
set_option linter.unusedSimpArgs false
variable {w0 w:World} {F:Nat→Prop} {l r1 r2 r3:List As}
variable {R:List RowS}
theorem eqBs_ok{u v:Value}{ps qs:List Bool}(hn:ps.length≤100000)(h1:RdS w0 F l 1 ps.length u (bcs ps))(h2:RdS w0 F l 1 qs.length v (bcs qs))(E:Hs w0 F w l):
  Ca PP Fn.f58 #[u,v] w λr w'=>r=.bool (decide (ps=qs))∧Hs w0 F w' l:=by
 refine S.f58.calls ?_
 unfold S.f58
 refine h1.len ?_
 refine h2.len ?_
 refine Bi.neq ?_ ?_<;>intro hne<;>(repeat with_reducible refine Stp.go ?_)
 ·rw[decide_eq_false (show ¬ps=qs by rintro rfl;exact hne rfl)]
  exact⟨rfl,E⟩
 have hl:ps.length=qs.length:=by omega
 refine h1.len ?_
 refine⟨λl1 w1=>∃i:Nat,l1=[i64 i]∧i≤ps.length∧ps.take i=qs.take i∧Hs w0 F w1 l,λl1 _=>match l1 with|[.int _ i]=>ps.length-i.toNat|_=>0,⟨0,rfl,Nat.zero_le _,rfl,E⟩,?_⟩
 clear E
 rintro t u1 w1 ⟨i,e,hi,htk,E⟩
 cases e
 refine Bi.lss ?_ ?_<;>intro hlt<;>(repeat with_reducible first|refine Stp.go ?_|(refine StpW.go E ?_;clear E;intro w_ E))
 ·have hi1:i<ps.length:=by omega
  have hi2:i<qs.length:=by omega
  refine h1.ix (by omega) (by omega) (by omega) ?_
  intro a ha
  rw[Int.toNat_natCast,Nat.mul_one]at ha
  refine ha.ld E (x:=.bool ps[i]) (by rw[List.getElem?_drop,Nat.add_zero,List.getElem?_map,List.getElem?_eq_getElem hi1];rfl) ?_
  refine h2.ix (by omega) (by omega) (by omega) ?_
  intro a2 ha2
  rw[Int.toNat_natCast,Nat.mul_one]at ha2
  refine ha2.ld E (x:=.bool qs[i]) (by rw[List.getElem?_drop,Nat.add_zero,List.getElem?_map,List.getElem?_eq_getElem hi2];rfl) ?_
  refine Beq.mk ?_
  by_cases hp:ps[i]=qs[i]
  ·rw[show(if true=true then !(ps[i] == qs[i])else ps[i] == qs[i])=false by simp[hp]]
   repeat with_reducible refine Stp.go ?_
   refine Bi.add (by omega) ?_
   exact⟨⟨i+1,by simp,by omega,by rw[List.take_add_one,List.take_add_one,htk,List.getElem?_eq_getElem hi1,List.getElem?_eq_getElem hi2,hp],E⟩,by simp only[];omega⟩
  ·rw[show(if true=true then !(ps[i] == qs[i])else ps[i] == qs[i])=true by simp[hp]]
   repeat with_reducible refine Stp.go ?_
   rw[decide_eq_false (show ¬ps=qs by rintro rfl;exact hp rfl)]
   exact⟨rfl,E⟩
 ·have hie:i=ps.length:=by omega
  rw[hie,List.take_length,hl,List.take_length]at htk
  rw[decide_eq_true htk]
  exact⟨rfl,E⟩
theorem b_same1:hasBody PP Fn.f88=true:=by kernel_rfl
theorem same1_ok{m n:Mt}{u v:Value×Value}(hm:m.new.length≤16)(hc:m.cr.length≤16)(g1:RdS w0 F l 2 m.new.length u.1 (pcs m.new))(g2:RdS w0 F l 1 m.cr.length u.2 (bcs m.cr))(g3:RdS w0 F l 2 n.new.length v.1 (pcs n.new))(g4:RdS w0 F l 1 n.cr.length v.2 (bcs n.cr))(E:Hs w0 F w l):
  Ca PP Fn.f88 #[.agg (m.C u).toArray,.agg (n.C v).toArray] w λr w'=>r=.bool (decide (m=n))∧Hs w0 F w' l:=by
 refine S.f88.calls ?_
 unfold S.f88
 have s1:=RdS_scal g1
 have s2:=RdS_scal g2
 have s3:=RdS_scal g3
 have s4:=RdS_scal g4
 refine StpA.go E ?_
 clear E
 intro a w_ h1 E
 refine StpA.go E ?_
 clear E
 intro b w_ h2 E
 have hmn:(m=n)↔(m.old=n.old∧m.new=n.new∧m.cr=n.cr):=by
  cases m;cases n
  simp
 intro J5 hJ5
 have fin:∀c w_,c=decide (m=n)→Hs w0 F w_ (pt b (oc (n.C v) Ty.t4)::pt a (oc (m.C u) Ty.t4)::l)→J5 [.bool c] w_:=by
  intro c w_ hc E
  refine hJ5 _ w_ λu=>⟨by rw[hc],E.tl.tl⟩
 clear hJ5
 repeat with_reducible first|refine Stp.go ?_|refine StpE.go E ?_
 refine EqS.pl (p:=m.old) (q:=n.old) ?_
 by_cases k1:m.old=n.old
 ·rw[decide_eq_true k1]
  repeat with_reducible first|refine Stp.go ?_|refine StpE.go E ?_
  refine(eqPl_ok (by omega) ((g1.cons _).cons _) ((g3.cons _).cons _) E).mono ?_
  clear E
  rintro r w_ ⟨rfl,E⟩
  by_cases k2:m.new=n.new
  ·rw[decide_eq_true k2]
   repeat with_reducible first|refine Stp.go ?_|refine StpE.go E ?_
   refine(eqBs_ok (by omega) ((g2.cons _).cons _) ((g4.cons _).cons _) E).mono ?_
   clear E
   rintro r w_ ⟨rfl,E⟩
   repeat with_reducible refine Stp.go ?_
   refine fin _ _ ?_ E
   by_cases k3:m.cr=n.cr
   ·rw[decide_eq_true k3,decide_eq_true (hmn.2 ⟨k1,k2,k3⟩)]
   ·rw[decide_eq_false k3,decide_eq_false (λh=>k3 (hmn.1 h).2.2)]
  ·rw[decide_eq_false k2]
   repeat with_reducible refine Stp.go ?_
   exact fin _ _ (by rw[decide_eq_false (λh=>k2 (hmn.1 h).2.1)]) E
 ·rw[decide_eq_false k1]
  repeat with_reducible refine Stp.go ?_
  exact fin _ _ (by rw[decide_eq_false (λh=>k1 (hmn.1 h).1)]) E
theorem sameTable_ok{a b:Value}{ms ns:List Mt}{us vs:List (Value×Value)}(hR:PoolS R∈l)(h1:TbV R us ms)(h2:TbV R vs ns)(hn:ms.length≤64)(hf:∀m∈ms,m.new.length≤16∧m.cr.length≤16)
  (g1:RdS w0 F l 4 ms.length a (mcs ms us))(g2:RdS w0 F l 4 ns.length b (mcs ns vs))(E:Hs w0 F w l):
  Ca PP Fn.f89 #[a,b] w λr w'=>r=.bool (decide (ms=ns))∧Hs w0 F w' l:=by
 refine S.f89.calls ?_
 unfold S.f89
 refine Ca.mono (k:=λr w'=>r=.bool (decide (ms=ns))∧Hs w0 F w' l) ?_ λr w' h=>h
 refine S.f3.calls ?_
 unfold S.f3
 refine g1.len ?_
 refine g2.len ?_
 refine Bi.neq ?_ ?_<;>intro hne<;>(repeat with_reducible refine Stp.go ?_)
 ·rw[decide_eq_false (show ¬ms=ns by rintro rfl;exact hne rfl)]
  exact⟨rfl,E⟩
 have hl:ms.length=ns.length:=by omega
 refine g1.len ?_
 refine⟨λl1 w1=>∃i:Nat,l1=[i64 i]∧i≤ms.length∧ms.take i=ns.take i∧Hs w0 F w1 l,λl1 _=>match l1 with|[.int _ i]=>ms.length-i.toNat|_=>0,⟨0,rfl,Nat.zero_le _,rfl,E⟩,?_⟩
 clear E
 rintro t u1 w1 ⟨i,e,hi,htk,E⟩
 cases e
 refine Bi.lss ?_ ?_<;>intro hlt
 ·refine Cnd.t ?_
  have hi1:i<ms.length:=by omega
  have hi2:i<ns.length:=by omega
  have e1:ms[i]? =some ms[i]:=List.getElem?_eq_getElem hi1
  have e2:us[i]? =some (us[i]'(by rw[h1.len];exact hi1)):=List.getElem?_eq_getElem (by rw[h1.len];exact hi1)
  have e3:ns[i]? =some ns[i]:=List.getElem?_eq_getElem hi2
  have e4:vs[i]? =some (vs[i]'(by rw[h2.len];exact hi2)):=List.getElem?_eq_getElem (by rw[h2.len];exact hi2)
  obtain⟨y1,y2⟩:=h1.row _ _ _ e1 e2
  obtain⟨y3,y4⟩:=h2.row _ _ _ e3 e4
  obtain⟨f1,f2⟩:=hf _ (List.getElem_mem hi1)
  have t1:ms.take (i+1)=ms.take i++[ms[i]]:=by rw[List.take_add_one,e1];rfl
  have t2:ns.take (i+1)=ns.take i++[ns[i]]:=by rw[List.take_add_one,e3];rfl
  have hno:ms[i]≠ns[i]→¬ms=ns:=by
   intro h3 h4
   have h5:ms[i]? =ns[i]?:=congrArg (λl=>l[i]?) h4
   exact h3 (Option.some.inj (e1.symm.trans (h5.trans e3)))
  refine g1.ix (by omega) (by omega) (by omega) ?_
  intro x hx
  rw[Int.toNat_natCast,mcs_at e1 e2]at hx
  refine hx.lda E (m:=4) (ds:=ms[i].C (us[i]'(by rw[h1.len];exact hi1))) rfl rfl (by omega) ?_
  generalize us[i]'(by rw[h1.len];exact hi1)=u at*
  have s1:Scal u.1:=⟨RdyS.scal (n:=ms[i].new.length) y1 (pcs_len _) (by omega) hR E⟩
  have s2:Scal u.2:=⟨RdyS.scal (n:=ms[i].cr.length) y2 (by simp) (by omega) hR E⟩
  repeat with_reducible first|(refine StpW.go E ?_;clear E;intro w_ E)|(refine StpA.go E ?_;clear E;intro b_ w_ hb_ E)
  (revert b_;intro q1 hbq1 E)
  (first|(refine StA.all E rfl rfl (by first|exact rfl|assumption) ?_;clear E;intro w_ E)|try (refine StA.by E rfl (by first|exact rfl|assumption) ?_;clear E;intro w_ E))
  refine g2.ix (by omega) (by omega) (by omega) ?_
  intro x2 hx2
  rw[Int.toNat_natCast,mcs_at e3 e4]at hx2
  refine(hx2.weaken λ_ E=>E.tl).lda E (m:=4) (ds:=ns[i].C (vs[i]'(by rw[h2.len];exact hi2))) rfl rfl (by omega) ?_
  generalize vs[i]'(by rw[h2.len];exact hi2)=v at*
  have s3:Scal v.1:=⟨RdyS.scal (n:=ns[i].new.length) y3 (pcs_len _) (by omega) (List.mem_cons_of_mem _ hR) E⟩
  have s4:Scal v.2:=⟨RdyS.scal (n:=ns[i].cr.length) y4 (by simp) (by omega) (List.mem_cons_of_mem _ hR) E⟩
  repeat with_reducible first|refine StpE.go E ?_|(refine StpW.go E ?_;clear E;intro w_ E)|(refine StpA.go E ?_;clear E;intro b_ w_ hb_ E)
  (revert b_;intro q2 hbq2 E)
  (first|(refine StA.all E rfl rfl (by first|exact rfl|assumption) ?_;clear E;intro w_ E)|try (refine StA.by E rfl (by first|exact rfl|assumption) ?_;clear E;intro w_ E))
  skip
  refine CaV.mk b_same1 ?_
  have hR2:PoolS R∈(pt q2 (oc (ns[i].C v) Ty.t4)::pt q1 (oc (ms[i].C u) Ty.t4)::l):=List.mem_cons_of_mem _ (List.mem_cons_of_mem _ hR)
  refine(same1_ok (m:=ms[i]) (n:=ns[i]) (u:=u) (v:=v) f1 f2 (y1.read (pcs_len _) (by omega) E hR2) (y2.read (by simp) (by omega) E hR2) (y3.read (pcs_len _) (by omega) E hR2) (y4.read (by simp) (by omega) E hR2) E).mono ?_
  clear E
  rintro r w_ ⟨rfl,E⟩
  by_cases hp:ms[i]=ns[i]
  ·rw[decide_eq_true hp]
   repeat with_reducible refine Stp.go ?_
   refine Bi.add (by omega) ?_
   exact⟨⟨i+1,by simp,by omega,by rw[t1,t2,htk,hp],E.tl.tl⟩,by simp only[];omega⟩
  ·rw[decide_eq_false hp]
   repeat with_reducible refine Stp.go ?_
   rw[decide_eq_false (hno hp)]
   exact⟨rfl,E.tl.tl⟩
 ·refine Cnd.f ?_
  have hie:i=ms.length:=by omega
  rw[hie,List.take_length,hl,List.take_length]at htk
  rw[decide_eq_true htk]
  exact⟨rfl,E⟩
set_option maxRecDepth 100000
set_option linter.unusedVariables false
set_option linter.unusedSimpArgs false
variable {w0 w:World} {F:Nat→Prop} {l r1 r2 r3:List As}
def bigN(p:Pn):Bool:=decide (200<p.path.size+p.data.size)
def fewL(ps:List Pn):Bool:=decide (ps.length≤12) && !ps.any bigN
def fewS(user:BA)(pls:List (List Pn)):Bool:=decide (1≤pls.length) && decide (pls.length≤4) && decide (user.size≤100) && pls.all fewL
theorem b_few1S:hasBody PP Fn.f121=true:=by kernel_rfl
theorem few1S_ok{p:Pn}(h1:p.path.size≤140737488355328)(h2:p.data.size≤140737488355328)(E:Hs w0 F w l):Ca PP Fn.f121 #[.agg p.cs.toArray] w λr w'=>r=.bool (bigN p)∧Hs w0 F w' l:=by
 refine S.f121.calls ?_
 unfold S.f121
 repeat with_reducible first|refine Stp.go ?_|refine StpE.go E ?_|(refine StpA.go E ?_;clear E;intro b_ w_ hb_ E)
 refine Bi.add (by omega) ?_
 unfold bigN
 refine Bi.gtr ?_ ?_<;>intro hb
 ·exact⟨by rw[decide_eq_true (by omega)],E.tl⟩
 ·exact⟨by rw[decide_eq_false (by omega)],E.tl⟩
theorem anyN_ok{v:Value}{ps:List Pn}(hn:ps.length≤12)(hs:∀p∈ps,p.path.size≤140737488355328∧p.data.size≤140737488355328)(h:RdS w0 F l 3 ps.length v (ncs ps))(E:Hs w0 F w l):
  Ca PP Fn.f16 #[v,.func (.func Fn.f121) #[] #[]] w λr w'=>r=.bool (ps.any bigN)∧Hs w0 F w' l:=by
 refine S.f16.calls ?_
 unfold S.f16
 have idx:Ca PP Fn.f19 #[v,.func (.func Fn.f121) #[] #[]] w λr w'=>(∃n:Int,r=i64 n∧(0≤n↔ps.any bigN=true))∧Hs w0 F w' l:=by
  refine S.f19.calls ?_
  unfold S.f19
  refine h.len ?_
  refine⟨λl1 w1=>∃i:Nat,l1=[i64 i]∧i≤ps.length∧(ps.take i).any bigN=false∧Hs w0 F w1 l,λl1 _=>match l1 with|[.int _ i]=>ps.length-i.toNat|_=>0,⟨0,rfl,Nat.zero_le _,by simp,E⟩,?_⟩
  clear E
  rintro t u1 w1 ⟨i,e,hi,hp,E⟩
  cases e
  refine Bi.lss ?_ ?_<;>intro hlt<;>(repeat with_reducible refine Stp.go ?_)
  ·have hi1:i<ps.length:=by omega
   have hd:(ncs ps).drop (((i:Int)).toNat*3)=ps[i].cs++ncs (ps.drop (i+1)):=by
    rw[Int.toNat_natCast,ncs_drop,List.drop_eq_getElem_cons hi1];rfl
   refine h.ix (by omega) (by omega) (by omega) ?_
   intro a ha
   rw[hd]at ha
   refine ha.lda E (m:=3) (ds:=ps[i].cs) rfl rfl (by omega) ?_
   refine CaV.mk b_few1S ?_
   obtain⟨z1,z2⟩:=hs _ (List.getElem_mem hi1)
   refine(few1S_ok (p:=ps[i]) z1 z2 E).mono ?_
   clear E
   rintro r w_ ⟨rfl,E⟩
   have htk:(ps.take (i+1)).any bigN=bigN ps[i]:=by rw[List.take_add_one,List.getElem?_eq_getElem hi1,List.any_append,hp];simp
   cases hb:bigN ps[i]with
   |true=>
    repeat with_reducible refine Stp.go ?_
    refine⟨⟨i,rfl,⟨λ_=>?_,λ_=>by omega⟩⟩,E⟩
    rw[List.any_eq_true];exact⟨_,List.getElem_mem _,hb⟩
   |false=>
    repeat with_reducible refine Stp.go ?_
    refine Bi.add (by omega) ?_
    exact⟨⟨i+1,by simp,by omega,by rw[htk,hb],E⟩,by simp only[];omega⟩
  ·have:ps.take i=ps:=List.take_of_length_le (by omega)
   rw[this]at hp
   exact⟨⟨-1,rfl,⟨λh=>by omega,λh=>by rw[hp]at h;cases h⟩⟩,E⟩
 refine idx.mono ?_
 clear E
 rintro r w_ ⟨⟨n,rfl,hn⟩,E⟩
 refine Bi.geq ?_ ?_<;>intro h1
 ·exact⟨by rw[hn.1 h1],E⟩
 ·have:ps.any bigN=false:=by
   cases h2:ps.any bigN with
   |false=>rfl
   |true=>have:=hn.2 h2;omega
  exact⟨by rw[this],E⟩
theorem fewS_okM{user:BA}{pv:Value}{vs:List Value}{pls:List (List Pn)}(hp:PlsIn w0 F l pv vs pls)(hs:∀ps∈pls,∀p∈ps,p.path.size≤140737488355328∧p.data.size≤140737488355328)(E:Hs w0 F w l):
  Ca PP Fn.law29_few #[.agg #[str user,pv]] w λr w'=>r=.bool (fewS user pls)∧Hs w0 F w' l:=by
 refine S.law29_few.calls ?_
 unfold S.law29_few
 have hvl:vs.length=pls.length:=by obtain⟨_,_,_,_,h1,_⟩:=hp.v;omega
 have ipv:Scal pv:=RdS_scal hp.v
 refine StpA.go E ?_
 clear E
 intro t1 w_ h1_ E
 intro J3 hJ3
 have bad:∀w_,fewS user pls=false→Hs w0 F w_ (pt t1 (oc [str user,pv] Ty.t48)::l)→J3 [.bool true] w_:=by
  intro w_ hb E
  refine hJ3 _ w_ λu=>Cnd.t ?_
  rw[hb]
  exact⟨rfl,E.tl⟩
 have good:∀w_,1≤pls.length→pls.length≤4→user.size≤100→Hs w0 F w_ (pt t1 (oc [str user,pv] Ty.t48)::l)→J3 [.bool false] w_:=by
  intro w_ k1 k2 k3 E
  refine hJ3 _ w_ λu=>Cnd.f ?_
  clear hJ3 bad
  have hf:fewS user pls=pls.all fewL:=by unfold fewS;rw[decide_eq_true k1,decide_eq_true k2,decide_eq_true k3];rfl
  rw[hf]
  repeat with_reducible first|refine Stp.go ?_|refine StpE.go E ?_
  refine hp.v.len ?_
  refine⟨λl1 w1=>∃i:Nat,l1=[i64 i]∧i≤pls.length∧(pls.take i).all fewL=true∧Hs w0 F w1 (pt t1 (oc [str user,pv] Ty.t48)::l),λl1 _=>match l1 with|[.int _ i]=>pls.length-i.toNat|_=>0,⟨0,rfl,Nat.zero_le _,by simp,E⟩,?_⟩
  clear E
  rintro t u1 w1 ⟨i,e,hi,hx,E⟩
  cases e
  refine Bi.lss ?_ ?_<;>intro hlt
  ·refine Cnd.t ?_
   have hi1:i<pls.length:=by omega
   refine hp.v.ix (by omega) (by omega) (by omega) ?_
   intro b hb
   rw[Int.toNat_natCast,Nat.mul_one]at hb
   refine(hb.weaken λ_ E=>E.tl).ld E (x:=vs[i]'(by omega)) (by rw[List.getElem?_drop,Nat.add_zero,List.getElem?_eq_getElem]) ?_
   have hr:=hp.row i (vs[i]'(by omega)) pls[i] (List.getElem?_eq_getElem (by omega)) (List.getElem?_eq_getElem hi1)
   have hm:=List.getElem_mem hi1
   have htk:(pls.take (i+1)).all fewL=fewL pls[i]:=by rw[List.take_add_one,List.getElem?_eq_getElem hi1,List.all_append,hx];simp
   have hsm:=hs _ hm
   intro J18 hJ18
   have no:∀w_,fewL pls[i]=false→Hs w0 F w_ (pt t1 (oc [str user,pv] Ty.t48)::l)→J18 [.bool true] w_:=by
    intro w_ hb E
    refine hJ18 _ w_ λu=>Cnd.t ?_
    refine⟨?_,E.tl⟩
    have:pls.all fewL=false:=by
     rw[List.all_eq_false]
     exact⟨_,hm,by rw[hb];simp⟩
    rw[this]
   have yes:∀w_,fewL pls[i]=true→Hs w0 F w_ (pt t1 (oc [str user,pv] Ty.t48)::l)→J18 [.bool false] w_:=by
    intro w_ hb E
    refine hJ18 _ w_ λu=>Cnd.f ?_
    refine Bi.add (by omega) ?_
    exact⟨⟨i+1,by simp,by omega,by rw[htk,hb],E⟩,by simp only[];omega⟩
   clear hJ18
   generalize pls[i]=ps at*
   generalize vs[i]'(by omega)=v at*
   refine hr.len ?_
   refine Bi.gtr ?_ ?_<;>intro h12<;>(repeat with_reducible refine Stp.go ?_)
   ·exact no _ (by unfold fewL;rw[decide_eq_false (by omega)];rfl) E
   ·refine(anyN_ok (by omega) hsm (hr.cons _) E).mono ?_
    clear E
    rintro r w_ ⟨rfl,E⟩
    cases hb:ps.any bigN with
    |true=>
     repeat with_reducible refine Stp.go ?_
     exact no _ (by unfold fewL;rw[hb];simp) E
    |false=>
     repeat with_reducible refine Stp.go ?_
     exact yes _ (by unfold fewL;rw[hb,decide_eq_true (by omega)];rfl) E
  ·refine Cnd.f ?_
   have hie:i=pls.length:=by omega
   rw[hie,List.take_length]at hx
   rw[hx]
   exact⟨rfl,E.tl⟩
 clear hJ3
 repeat with_reducible first|refine Stp.go ?_|refine StpE.go E ?_
 refine hp.v.len ?_
 refine Bi.lss ?_ ?_<;>intro k1<;>(repeat with_reducible first|refine Stp.go ?_|refine StpE.go E ?_)
 ·exact bad _ (by unfold fewS;rw[decide_eq_false (show ¬1≤pls.length by omega)];rfl) E
 refine hp.v.len ?_
 repeat with_reducible refine Stp.go ?_
 refine Bi.gtr ?_ ?_<;>intro k2<;>(repeat with_reducible first|refine Stp.go ?_|refine StpE.go E ?_)
 ·exact bad _ (by unfold fewS;rw[decide_eq_false (show ¬pls.length≤4 by omega)];simp) E
 refine Bi.gtr ?_ ?_<;>intro k3<;>(repeat with_reducible refine Stp.go ?_)
 ·exact bad _ (by unfold fewS;rw[decide_eq_false (show ¬user.size≤100 by omega)];simp) E
 ·exact good _ (by omega) (by omega) (by omega) E
set_option maxRecDepth 100000
set_option linter.unusedVariables false
set_option linter.unusedSimpArgs false
variable {w0 w:World} {F:Nat→Prop} {l:List As}
abbrev xcs(xs:List Xa):List Value:=xs.flatMap Xa.C
theorem xcs_drop(ds:List Xa):∀i:Nat,(xcs ds).drop (i*18)=xcs (ds.drop i):=by
 induction ds with
 |nil=>intro i;simp
 |cons d r ih=>
  intro i
  cases i with
  |zero=>simp
  |succ i=>
   rw[xcs,List.flatMap_cons,show(i+1)*18=i*18+18 by omega]
   simp only[Xa.C,List.cons_append,List.nil_append,List.drop_succ_cons]
   exact ih i
theorem anyX_ok{v:Value}{xs:List Xa}(hn:xs.length≤40)(hx:∀x∈xs,x.Ok)(h:RdS w0 F l 18 xs.length v (xcs xs))(E:Hs w0 F w l):
  Ca PP Fn.f22 #[v,.func (.func Fn.f122) #[] #[]] w λr w'=>r=.bool (xs.any bigX)∧Hs w0 F w' l:=by
 refine S.f22.calls ?_
 unfold S.f22
 have idx:Ca PP Fn.f25 #[v,.func (.func Fn.f122) #[] #[]] w λr w'=>(∃n:Int,r=i64 n∧(0≤n↔xs.any bigX=true))∧Hs w0 F w' l:=by
  refine S.f25.calls ?_
  unfold S.f25
  refine h.len ?_
  refine⟨λl1 w1=>∃i:Nat,l1=[i64 i]∧i≤xs.length∧(xs.take i).any bigX=false∧Hs w0 F w1 l,λl1 _=>match l1 with|[.int _ i]=>xs.length-i.toNat|_=>0,⟨0,rfl,Nat.zero_le _,by simp,E⟩,?_⟩
  clear E
  rintro t u1 w1 ⟨i,e,hi,hp,E⟩
  cases e
  refine Bi.lss ?_ ?_<;>intro hlt<;>(repeat with_reducible refine Stp.go ?_)
  ·have hi1:i<xs.length:=by omega
   have hd:(xcs xs).drop (((i:Int)).toNat*18)=xs[i].C++xcs (xs.drop (i+1)):=by
    rw[Int.toNat_natCast,xcs_drop,List.drop_eq_getElem_cons hi1];rfl
   refine h.ix (by omega) (by omega) (by omega) ?_
   intro a ha
   rw[hd]at ha
   refine ha.lda E (m:=18) (ds:=xs[i].C) rfl rfl (by omega) ?_
   refine CaV.mk b_fewX ?_
   refine(FewX1_ok (x:=xs[i]) (hx _ (List.getElem_mem hi1)) E).mono ?_
   clear E
   rintro r w_ ⟨rfl,E⟩
   have htk:(xs.take (i+1)).any bigX=bigX xs[i]:=by rw[List.take_add_one,List.getElem?_eq_getElem hi1,List.any_append,hp];simp
   cases hb:bigX xs[i]with
   |true=>
    repeat with_reducible refine Stp.go ?_
    refine⟨⟨i,rfl,⟨λ_=>?_,λ_=>by omega⟩⟩,E⟩
    rw[List.any_eq_true];exact⟨_,List.getElem_mem _,hb⟩
   |false=>
    repeat with_reducible refine Stp.go ?_
    refine Bi.add (by omega) ?_
    exact⟨⟨i+1,by simp,by omega,by rw[htk,hb],E⟩,by simp only[];omega⟩
  ·have:xs.take i=xs:=List.take_of_length_le (by omega)
   rw[this]at hp
   exact⟨⟨-1,rfl,⟨λh=>by omega,λh=>by rw[hp]at h;cases h⟩⟩,E⟩
 refine idx.mono ?_
 clear E idx
 rintro r w_ ⟨⟨n,rfl,hn⟩,E⟩
 refine Bi.geq ?_ ?_<;>intro h1
 ·exact⟨by rw[hn.1 h1],E⟩
 ·have:xs.any bigX=false:=by
   cases h2:xs.any bigX with
   |false=>rfl
   |true=>have:=hn.2 h2;omega
  exact⟨by rw[this],E⟩
def fewX(xs:List Xa):Bool:=decide (xs.length≤40) && !xs.any bigX
theorem FewX_ok{v:Value}{xs:List Xa}(hx:∀x∈xs,x.Ok)(h:RdS w0 F l 18 xs.length v (xcs xs))(E:Hs w0 F w l):
  Ca PP Fn.law29_Few #[v] w λr w'=>r=.bool (fewX xs)∧Hs w0 F w' l:=by
 refine S.law29_Few.calls ?_
 unfold S.law29_Few
 (intro J1 hJ1)
 have fin:∀b w_,b=fewX xs→Hs w0 F w_ l→J1 [.bool b] w_:=by
  rintro b w_ hb E
  repeat with_reducible (apply hJ1;intro u_)
  exact⟨by rw[hb],E⟩
 clear hJ1
 refine h.len ?_
 refine Bi.leq ?_ ?_<;>intro hle<;>(repeat with_reducible refine Stp.go ?_)
 ·refine(anyX_ok (by omega) hx h E).mono ?_
  clear E
  rintro r w_ ⟨rfl,E⟩
  cases hb:xs.any bigX with
  |true=>
   repeat with_reducible refine Stp.go ?_
   exact fin _ _ (by unfold fewX;rw[hb];simp) E
  |false=>
   repeat with_reducible refine Stp.go ?_
   exact fin _ _ (by unfold fewX;rw[hb,decide_eq_true (by omega)];rfl) E
 ·exact fin _ _ (by unfold fewX;rw[decide_eq_false (by omega)];rfl) E
set_option maxRecDepth 100000
set_option linter.unusedVariables false
set_option linter.unusedSimpArgs false
variable {w0 w:World} {F:Nat→Prop} {l r1 r2 r3:List As}
variable {R:List RowS} {D:List Row} {Xs:List PT} {tA:List Nat} {M:TbM} {K:SpM} {N:Int} {y:Sy}
theorem Fit.ta(h:Fit R D Xs tA M K N y):tA.length=y.Ts.length:=by rw[← h.wo.adr,List.length_map,h.wo.len]
theorem fewX_one{xs:List Xa}(h:fewX xs=true):xs.length≤40∧∀x∈xs,x.total≤700:=by
 unfold fewX at h
 rw[Bool.and_eq_true,decide_eq_true_eq]at h
 refine⟨h.1,λx hx=>?_⟩
 have h2:xs.any bigX=false:=by simpa using h.2
 rw[List.any_eq_false]at h2
 have:=h2 x hx
 unfold bigX at this
 rcases Nat.lt_or_ge 700 x.total with h3|h3
 ·rw[decide_eq_true h3]at this
  simp at this
 ·exact h3
theorem fewS_of{user:BA}{pls:List (List Pn)}(h:fewS user pls=true):pls≠[]∧pls.length≤4∧user.size≤100∧(∀ps∈pls,ps.length≤12)∧∀ps∈pls,∀p∈ps,p.path.size≤1000:=by
 unfold fewS at h
 simp only[Bool.and_eq_true,decide_eq_true_eq,List.all_eq_true]at h
 obtain⟨⟨⟨h1,h2⟩,h3⟩,h4⟩:=h
 refine⟨λh5=>by rw[h5]at h1;simp at h1,h2,h3,λps hps=>?_,λps hps p hp=>?_⟩
 ·have:=h4 ps hps
  unfold fewL at this
  rw[Bool.and_eq_true,decide_eq_true_eq]at this
  exact this.1
 ·have:=h4 ps hps
  unfold fewL at this
  rw[Bool.and_eq_true]at this
  have h5:ps.any bigN=false:=by simpa using this.2
  rw[List.any_eq_false]at h5
  have:=h5 p hp
  unfold bigN at this
  simp at this
  omega
theorem mtI_small{k:Nat}{ms:List Mt}(h:∀m∈ms,MtI k m):∀m∈ms,m.new.length≤16∧m.cr.length≤16:=λm hm=>⟨(h m hm).few,by rw[(h m hm).cr];exact(h m hm).few⟩
theorem xcs_at{xs:List Xa}{i:Nat}(hi:i<xs.length):(xcs xs).drop (((i:Int)).toNat*18)=xs[i].C++xcs (xs.drop (i+1)):=by
 rw[Int.toNat_natCast,xcs_drop,List.drop_eq_getElem_cons hi];rfl
set_option maxRecDepth 100000
set_option linter.unusedVariables false
set_option linter.unusedSimpArgs false
variable {w0 w:World} {F:Nat→Prop} {l r1 r2 r3:List As}
variable {R:List RowS}
theorem xcs_scal(xs:List Xa):(xcs xs).all scalV=true:=by
 rw[List.all_eq_true]
 intro v hv
 obtain⟨x,-,hp⟩:=List.mem_flatMap.1 hv
 have:x.C.all scalV=true:=rfl
 rw[List.all_eq_true]at this
 exact this v hp
theorem xcs_len(xs:List Xa):(xcs xs).length=xs.length*18:=by
 induction xs with
 |nil=>rfl
 |cons x r ih=>rw[xcs,List.flatMap_cons,List.length_append];show 18+(xcs r).length=_;rw[ih,List.length_cons];omega
theorem u_sl_Act:PP.underlying Ty.t45=some (.slice Ty.t42):=by kernel_rfl
theorem s_Act:sizeK PP Ty.t42=some 18:=by kernel_rfl
abbrev xa0:Xa:={kind:=0,number:=0,flag:=0,path:=⟨#[]⟩,old:=⟨#[]⟩,data:=⟨#[]⟩,perm:=0,offset:=0,dir:={kind:=0,vers:=0,path:=0,mode:=0,time:=0,len:=0,name:=⟨#[]⟩,owner:=⟨#[]⟩,group:=⟨#[]⟩,last:=⟨#[]⟩}}
theorem z_Act:zeroK PP Ty.t42=some xa0.V:=by kernel_rfl
theorem e_Act:el3 PP Ty.t42=some (some xa0.V,18,200):=by kernel_rfl
theorem CloneX_ok{v:Value}{xs:List Xa}(h:RdS w0 F l 18 xs.length v (xcs xs))(hl:xs.length≤100000)(E:Hs w0 F w l):
  Ca PP Fn.f26 #[v] w λr w'=>Hs w0 F w' (slA r Ty.t42 18 (xcs xs)::l):=by
 refine S.f26.calls ?_
 unfold S.f26
 have h':=h
 obtain⟨a,c,rfl,hc,hln,hx⟩:=h'
 cases a with
 |none=>
  have h0:xcs xs=[]:=by
   rcases hx with h1|⟨p,h1,_⟩
   ·exact h1
   ·cases h1
  rw[h0]
  refine Eq.et u_sl_Act rfl ?_
  repeat with_reducible refine Stp.go ?_
  exact Hs.nilSl E _ _
 |some a=>
  refine Eq.ef u_sl_Act rfl ?_
  repeat with_reducible refine Stp.go ?_
  refine BdS.zeroS E u_sl_Act s_Act ?_
  clear E
  intro v1 w_ E
  refine Ap.el E (i:=0) rfl u_sl_Act ⟨_,u_sl_Act,λ_ h=>by cases h⟩ e_Act (by omega) (RdS.srcS (h.cons _) (by omega) E (xcs_scal xs)) rfl (by show(0 / 18+xs.length)*200≤_;omega) (by show 0 / 18+xs.length≤_;omega) ?_
  clear E
  intro v2 w_ E
  (try simp only[List.set_cons_zero,List.set_cons_succ,List.cons_append,List.nil_append,Nat.zero_add,Nat.add_zero]at E)
  exact E
theorem BdS.xa{x:Xa}{k:Value→World→Prop}(E:Hs w0 F w l)(hk:∀s w',Hs w0 F w' (slA s Ty.t42 18 x.C::l)→k s w'):Ef PP (Instr.buildSlice Ty.t45 1 #[(0,x.V)]) w k:=by
 refine BdS.sl E u_sl_Act s_Act z_Act (by omega) (by omega) (xs:=x.C) ?_ rfl hk
 kernel_rfl

theorem Ap.xa{v s:Value}{xs:List Xa}{x:Xa}{i:Nat}{k:Value→World→Prop}(E:Hs w0 F w l)(hi:l[i]? =some (slA v Ty.t42 18 (xcs xs)))(hj:slA s Ty.t42 18 x.C∈l)(hl:xs.length≤1000)
  (hk:∀v2 w',Hs w0 F w' (l.set i (slA v2 Ty.t42 18 (xcs (xs++[x]))))→k v2 w'):Ef PP (Builtin.append_ #[Ty.t45,Ty.t45] Ty.t45 #[v,s]) w k:=by
 refine Ap.el E (i:=i) hi u_sl_Act ⟨_,u_sl_Act,λ_ h=>by cases h⟩ e_Act (by omega) (Src.slice (E.sat _ hj) (n:=1) rfl (by omega) rfl) rfl (by rw[xcs_len,Nat.mul_div_cancel _ (by omega)];omega) (by rw[xcs_len,Nat.mul_div_cancel _ (by omega)];omega) ?_
 intro v2 w' E
 refine hk v2 w' ?_
 rw[show xcs (xs++[x])=xcs xs++x.C by rw[xcs,List.flatMap_append];simp]
 exact E

theorem b_rest2:hasBody PP Fn.f56=true:=by kernel_rfl
theorem rest2_ok{m:Mt}{u:Value×Value}{q:Nat}{bv:Value}{b:Pl}(hm:m.new.length≤16)(g1:RdS w0 F l 2 m.new.length u.1 (pcs m.new))(s2:Scal u.2)(gb:RdS w0 F l 2 [b].length bv (pcs [b]))[h1:FPt l q (oc [bv] Ty.t5) r1](E:Hs w0 F w l):
  CaV PP (.func (.func Fn.f56) #[] #[ptr q]) #[.agg (m.C u).toArray] w λr w'=>(∃b,r=.bool b)∧Hs w0 F w' l:=by
 refine CaV.mk b_rest2 ?_
 refine S.f56.calls (a0:=.agg (m.C u).toArray) (a1:=ptr q) ?_
 unfold S.f56
 have s1:=RdS_scal g1
 have s3:=RdS_scal gb
 refine StpA.go E ?_
 clear E
 intro a w_ ha E
 intro J3 hJ3
 have fin:∀c w_,Hs w0 F w_ (pt a (oc (m.C u) Ty.t4)::l)→J3 [.bool c] w_:=by
  intro c w_ E
  exact hJ3 _ w_ λ_=>⟨⟨c,rfl⟩,E.tl⟩
 clear hJ3
 repeat with_reducible first|refine Stp.go ?_|refine StpE.go E ?_|(refine StpW.go E ?_;clear E;intro w_ E)
 refine(ContainsP_ok (p:=m.old) (by simp) (gb.cons _) E).mono ?_
 clear E
 rintro r w_ ⟨rfl,E⟩
 cases decide (m.old∈[b])with
 |true=>
  repeat with_reducible refine Stp.go ?_
  exact fin _ _ E
 |false=>
  repeat with_reducible first|refine Stp.go ?_|refine StpE.go E ?_
  refine(gb.cons (pt a (oc (m.C u) Ty.t4))).ix (i:=0) (by omega) (by simp) (by omega) ?_
  intro p hp
  repeat with_reducible refine Stp.go ?_
  refine hp.lda E (m:=2) (ds:=b.cs) rfl rfl (by omega) ?_
  repeat with_reducible refine Stp.go ?_
  refine(ContainsP_ok (p:=b) (by omega) (g1.cons _) E).mono ?_
  clear E
  rintro r w_ ⟨rfl,E⟩
  repeat with_reducible refine Stp.go ?_
  exact fin _ _ E
theorem IndexFM_ok{v fv:Value}{ms:List Mt}{us:List (Value×Value)}(hR:PoolS R∈l)(hV:TbV R us ms)(hn:ms.length≤64)(hf:∀m∈ms,m.new.length≤16∧m.cr.length≤16)(g:RdS w0 F l 4 ms.length v (mcs ms us))(E:Hs w0 F w l)
  (call:∀(m:Mt) (u:Value×Value) w1,m.new.length≤16→RdS w0 F l 2 m.new.length u.1 (pcs m.new)→Scal u.2→Hs w0 F w1 l→CaV PP fv #[.agg (m.C u).toArray] w1 λr w'=>(∃b,r=.bool b)∧Hs w0 F w' l):
  Ca PP Fn.f6 #[v,fv] w λr w'=>(∃n:Int,r=i64 n)∧Hs w0 F w' l:=by
 refine S.f6.calls ?_
 unfold S.f6
 refine g.len ?_
 refine⟨λl1 w1=>∃i:Nat,l1=[i64 i]∧i≤ms.length∧Hs w0 F w1 l,λl1 _=>match l1 with|[.int _ i]=>ms.length-i.toNat|_=>0,⟨0,rfl,Nat.zero_le _,E⟩,?_⟩
 clear E
 rintro t u1 w1 ⟨i,e,hi,E⟩
 cases e
 refine Bi.lss ?_ ?_<;>intro hlt<;>(repeat with_reducible refine Stp.go ?_)
 ·have hi1:i<ms.length:=by omega
  have e1:ms[i]? =some ms[i]:=List.getElem?_eq_getElem hi1
  have e2:us[i]? =some (us[i]'(by rw[hV.len];exact hi1)):=List.getElem?_eq_getElem (by rw[hV.len];exact hi1)
  obtain⟨y1,y2⟩:=hV.row _ _ _ e1 e2
  obtain⟨f1,f2⟩:=hf _ (List.getElem_mem hi1)
  refine g.ix (by omega) (by omega) (by omega) ?_
  intro x hx
  rw[Int.toNat_natCast,mcs_at e1 e2]at hx
  refine hx.lda E (m:=4) (ds:=ms[i].C (us[i]'(by rw[hV.len];exact hi1))) rfl rfl (by omega) ?_
  generalize us[i]'(by rw[hV.len];exact hi1)=u at*
  have s2:Scal u.2:=⟨RdyS.scal (n:=ms[i].cr.length) y2 (by simp) (by omega) hR E⟩
  refine(call ms[i] u _ f1 (y1.read (pcs_len _) (by omega) E hR) s2 E).mono ?_
  clear E
  rintro r w_ ⟨⟨b,rfl⟩,E⟩
  cases b with
  |true=>
   repeat with_reducible refine Stp.go ?_
   exact⟨⟨i,rfl⟩,E⟩
  |false=>
   repeat with_reducible refine Stp.go ?_
   refine Bi.add (by omega) ?_
   exact⟨⟨i+1,by simp,by omega,E⟩,by simp only[];omega⟩
 ·exact⟨⟨-1,rfl⟩,E⟩

theorem holds_ok{v bv:Value}{b:Pl}{q:Nat}{ms:List Mt}{us:List (Value×Value)}(hR:PoolS R∈l)(hV:TbV R us ms)(hn:ms.length≤64)(hf:∀m∈ms,m.new.length≤16∧m.cr.length≤16)(g:RdS w0 F l 4 ms.length v (mcs ms us))
  (gb:RdS w0 F l 2 [b].length bv (pcs [b]))[h1:FPt l q (oc [bv] Ty.t5) r1](E:Hs w0 F w l):
  Ca PP Fn.f15 #[v,.func (.func Fn.f56) #[] #[ptr q]] w λr w'=>(∃b,r=.bool b)∧Hs w0 F w' l:=by
 refine S.f15.calls ?_
 unfold S.f15
 refine(IndexFM_ok hR hV hn hf g E λm u w1 k1 k2 k3 E=>rest2_ok k1 k2 k3 gb E).mono ?_
 clear E
 rintro r w_ ⟨⟨n,rfl⟩,E⟩
 refine Bi.geq ?_ ?_<;>intro h1
 ·exact⟨⟨_,rfl⟩,E⟩
 ·exact⟨⟨_,rfl⟩,E⟩
variable {D:List Row} {Xs:List PT} {tA:List Nat} {M:TbM} {K:SpM} {N:Int} {y:Sy}
theorem Fit.rowsR{R':List RowS}(h:Fit R D Xs tA M K N y)(hR:∀x∈R,x∈R'):Fit R' D Xs tA M K N y:=⟨h.tb.mono hR,h.sp.mono hR,h.wo,h.inv⟩

theorem cmpR_ok{t:Value}{ms:List Mt}{vs:List (Value×Value)}(h:Fit R D Xs tA M K N y)(hV:TbV R vs ms)(hms:ms.length≤64)(hf:∀m∈ms,m.new.length≤16∧m.cr.length≤16)(ht:slA t Ty.t4 4 (mcs ms vs)∈l)(E:Hs w0 F w (SPl R D Xs tA M K y l))
  {J:Value→World→Prop}(hJ:∀R1 w',(∀x∈R,x∈R1)→Hs w0 F w' (SPl R1 D Xs tA M K y l)→J (.bool (decide (ms=y.tb.ms))) w'):
  Ca PP Fn.f65 #[ptr K.a] w λr w'=>Ca PP Fn.f89 #[t,r] w' J:=by
 refine(Table_okM h E).mono ?_
 clear E
 rintro t3 w_ ⟨R3,vs3,hR3,hV3,E⟩
 have ht2:slA t Ty.t4 4 (mcs ms vs)∈SPl R3 D Xs tA M K y l:=List.mem_append_right [_,_,_,_,_,_,_,_] ht
 have gt1:=RdS.sl (v:=t) (T:=Ty.t4) (sz:=4) (xs:=mcs ms vs) (List.mem_cons_of_mem _ ht2) (by omega) E
 have gt2:=RdS.sl (v:=t3) (T:=Ty.t4) (sz:=4) (xs:=mcs y.tb.ms vs3) List.mem_cons_self (by omega) E
 rw[mcs_len hV.len,Nat.mul_div_cancel _ (by omega)]at gt1
 rw[mcs_len hV3.len,Nat.mul_div_cancel _ (by omega)]at gt2
 refine(sameTable_ok (R:=R3) (by simp) (hV.mono hR3) hV3 hms hf gt1 gt2 E).mono ?_
 clear E
 rintro r w_ ⟨rfl,E⟩
 exact hJ _ _ hR3 E.tl

theorem b_rest1:hasBody PP Fn.f49=true:=by kernel_rfl
def longR(p:BA):Bool:=decide (700<p.size)
theorem rest1_ok{p:BA}(E:Hs w0 F w l):Ca PP Fn.f49 #[str p] w λr w'=>r=.bool (longR p)∧Hs w0 F w' l:=by
 refine S.f49.calls ?_
 unfold S.f49
 repeat with_reducible refine Stp.go ?_
 unfold longR
 refine Bi.gtr ?_ ?_<;>intro hb
 ·exact⟨by rw[decide_eq_true (by omega)],E⟩
 ·exact⟨by rw[decide_eq_false (by omega)],E⟩
theorem longsR_ok{p:BA}(E:Hs w0 F w l):CaV PP (.func (.func Fn.f49) #[] #[]) #[str p] w λr w'=>r=.bool (longR p)∧Hs w0 F w' l:=by
 refine CaV.mk b_rest1 ?_
 exact rest1_ok E
set_option maxRecDepth 100000
set_option linter.unusedVariables false
set_option linter.unusedSimpArgs false
variable {w0 w:World} {F:Nat→Prop} {l r1 r2 r3:List As}
variable {R:List RowS} {D:List Row} {Xs:List PT} {tA:List Nat} {M:TbM} {K:SpM} {N:Int} {y:Sy}
theorem u_slErr:PP.underlying Ty.sl_api_Errno=some (.slice Ty.api_Errno):=by kernel_rfl
theorem e_Errno:el3 PP Ty.api_Errno=some (some (i64 0),1,8):=by kernel_rfl
theorem syEq{a b:Sy}(h1:a.Ts=b.Ts)(h2:a.tb.ts=b.tb.ts)(h3:a.tb.ms=b.tb.ms)(h4:a.sp=b.sp):a=b:=by
 obtain⟨_,⟨_,_⟩,_⟩:=a
 obtain⟨_,⟨_,_⟩,_⟩:=b
 dsimp only at h1 h2 h3 h4
 rw[h1,h2,h3,h4]
theorem Restores_law{user:BA}{pv xv tv0:Value}{vs:List Value}{pls:List (List Pn)}{xs:List Xa}{x:Xa}{ts:List BA}(hp:∀l,PlsIn w0 F l pv vs pls)(hs:∀ps∈pls,∀p∈ps,p.path.size≤140737488355328∧p.data.size≤140737488355328)
  (hx:∀x∈xs,x.Ok)(hv:∀l,RdS w0 F l 18 xs.length xv (xcs xs))(hx1:x.Ok)(ht:∀l,RdS w0 F l 1 ts.length tv0 (ts.map str))(E:Hs w0 F w l):
  Ca PP Fn.f101 #[.agg #[str user,pv],xv,x.V,tv0] w λr w'=>r=.bool true∧∃l',Hs w0 F w' l':=by
 refine S.f101.calls ?_
 unfold S.f101
 have ipv:Scal pv:=RdS_scal (hp []).v
 refine StpA.go E ?_
 clear E
 intro t4 w_ h1_ E
 refine StpA.go E ?_
 clear E
 intro t6 w_ h2_ E
 refine(awake_okS E).mono ?_
 clear E
 rintro r w_ ⟨rfl,E⟩
 repeat with_reducible refine Stp.go ?_
 intro J8 hJ8
 have out:∀w_,(∃l',Hs w0 F w_ l')→J8 [.bool true] w_:=by
  intro w_ hE
  exact hJ8 _ w_ λu=>Cnd.t ⟨rfl,hE⟩
 have go8:∀w_,fewS user pls=true→xs.length≤20→fewX (xs++[x])=true→ts.length≤20→(∀p∈ts,p.size≤700)→Hs w0 F w_ (pt t6 (oc x.C Ty.t42)::pt t4 (oc [str user,pv] Ty.t48)::l)→J8 [.bool false] w_:=by
  intro w_ hf h20 hf2 ht20 ht7 E
  refine hJ8 _ w_ λu=>Cnd.f ?_
  clear hJ8 out
  obtain⟨f1,f2,f3,f4,f5⟩:=fewS_of hf
  obtain⟨-,f7⟩:=fewX_one hf2
  have hxx:x.total≤700:=f7 x (by simp)
  have hxs:∀z∈xs,z.total≤700:=λz hz=>f7 z (by simp[hz])
  have hz:x.path.size≤1000000∧x.old.size≤1000000:=by unfold Xa.total at hxx;omega
  obtain⟨hz1,hz2⟩:=hz
  repeat with_reducible refine StpE.go E ?_
  refine(made_okM (D:=[]) (hp _) f3 f1 f2 f4 f5 (Hs.starNil E)).mono ?_
  clear E
  rintro r w_ ⟨a,R,D,Xs,tA,M,K,tv,rfl,htA,h,E⟩
  refine Eq.ef u_p_World rfl ?_
  refine Cnd.f ?_
  replace E:=Hs.spl2 (E.bIx 1)
  refine(hv []).len ?_
  generalize hY:madeY user pls=y0 at*
  generalize hL0:(pt t4 (oc [str user,pv] Ty.t48)::l)=l0 at*
  have h4A:tA.length≤4:=by omega
  refine⟨λl1 w1=>∃(i:Nat) (R:List RowS) (D:List Row) (Xs:List PT) (M:TbM) (K:SpM) (y:Sy),l1=[i64 i]∧i≤xs.length∧Fit R D Xs tA M K (200+100*i) y∧Hs w0 F w1 (SPl R D Xs tA M K y (slA tv Ty.t7 1 (tA.map ptr)::pt a (wrO (ptr K.a) tv)::pt t6 (oc x.C Ty.t42)::l0)),λl1 _=>match l1 with|[.int _ i]=>xs.length-i.toNat|_=>0,
   ⟨0,R,D,Xs,M,K,y0,rfl,Nat.zero_le _,h.mono (by omega),E⟩,?_⟩
  clear E h hY M K R D Xs htA
  rintro t62 u1 w1 ⟨i,R,D,Xs,M,K,y,e,hi,h,E⟩
  cases e
  have itv:Scal tv:=⟨Hs.slScal E FSl.mem⟩
  refine Bi.lss ?_ ?_<;>intro hlt
  ·refine Cnd.t ?_
   have hi1:i<xs.length:=by omega
   refine(hv []).ix (by omega) (by omega) (by omega) ?_
   intro b hb
   rw[xcs_at hi1]at hb
   have hx7:=hxs _ (List.getElem_mem hi1)
   refine(hb.weaken λ_ E=>E.drop (List.nil_sublist _)).lda E (m:=18) (ds:=xs[i].C) rfl rfl (by omega) ?_
   generalize xs[i]=z at*
   repeat with_reducible (refine StpA.go E ?_;clear E;intro b_ w_ hb_ E)
   (revert b_;intro q hbq E)
   (first|(refine StA.all E rfl rfl (by first|exact rfl|assumption) ?_;clear E;intro w_ E)|try (refine StA.by E rfl (by first|exact rfl|assumption) ?_;clear E;intro w_ E))
   repeat with_reducible first|refine Stp.go ?_|refine StpE.go E ?_|(refine StpW.go E ?_;clear E;intro w_ E)
   (replace E:=((((((((((E.bIx 0).bIx 9).bIx 9).bIx 9).bIx 9).bIx 9).bIx 9).bIx 9).bIx 9).bIx 9))
   refine(DoS_okM (x:=z) (tv:=tv) h (by omega) (by omega) hx7 h.ta h4A E).mono ?_
   clear E
   rintro r w_ ⟨dv,pv2,-,R',D',Xs',M',K',g1,g2,g3,hR',h',E⟩
   replace E:=(((E.bIx 9).tl.bIx 9).tl.bIx 9).tl
   rw[← g2]at E
   refine Bi.add (by omega) ?_
   exact⟨⟨i+1,R',D',Xs',M',K',_,by simp,by omega,h'.mono (by omega),E⟩,by simp only[];omega⟩
  refine Cnd.f ?_
  have hN1:(200+100*(i:Int))≤4200:=by omega
  replace h:Fit R D Xs tA M K 4200 y:=h.mono hN1
  clear hN1 hlt hi
  repeat with_reducible first|refine Stp.go ?_|refine StpE.go E ?_
  refine(Table_okM h E).mono ?_
  clear E
  rintro t w_ ⟨R1,us,hR1,hV,E⟩
  replace h:=h.rowsR hR1
  clear hR1
  have it:Scal t:=⟨Hs.slScal E FSl.mem⟩
  repeat with_reducible first|refine Stp.go ?_|refine StpE.go E ?_
  refine(where_okM (R:=R1) (D:=D) (tA:=tA) (M:=M) (K:=K) (N:=4200) (y:=y) (path:=x.path) hz1 ⟨by simp,by simp,by simp,h.tb,h.wo,h.inv⟩ E).mono ?_
  clear E
  rintro r w_ ⟨v1,rfl,E⟩
  have hwl:=(where_ok h.inv x.path).1
  have iv1:Scal v1:=⟨Hs.slScal E FSl.mem⟩
  have hms:=h.inv.tb.ms
  have hmf:=mtI_small h.inv.tb.m
  generalize hW:y.where_ x.path=W at*
  obtain⟨bs,be⟩:=W
  dsimp only at E hwl ⊢
  repeat with_reducible first|refine Stp.go ?_|(refine StpW.go E ?_;clear E;intro w_ E)|(refine StpA.go E ?_;clear E;intro b_ w_ hb_ E)
  (revert b_;intro t14 hbt14 E)
  (first|(refine StA.all E rfl rfl (by first|exact rfl|assumption) ?_;clear E;intro w_ E)|try (refine StA.by E rfl (by first|exact rfl|assumption) ?_;clear E;intro w_ E))
  intro J53 hJ53
  have out53:∀w_,(∃l',Hs w0 F w_ l')→J53 [.bool true] w_:=by
   intro w_ hE
   exact hJ53 _ w_ λu=>Cnd.t ⟨rfl,hE⟩
  have go53:∀b w_,bs=[b]→Hs w0 F w_ (SPl R1 D Xs tA M K y (slA tv Ty.t7 1 (tA.map ptr)::pt a (wrO (ptr K.a) tv)::pt t6 (oc x.C Ty.t42)::slA t Ty.t4 4 (mcs y.tb.ms us)::pt t14 (oc [v1] Ty.t5)::slA v1 Ty.t0 2 (pcs bs)::l0))→J53 [.bool false] w_:=by
   clear E
   intro b w_ hbs E
   refine hJ53 _ w_ λu=>Cnd.f ?_
   clear hJ53 out53
   refine(ht []).len ?_
   refine⟨λl1 w1=>∃(i:Nat) (R:List RowS) (qs:List Value) (bv ev:Value),l1=[bv,ev,i64 i]∧i≤ts.length∧TbV R us y.tb.ms∧Fit R D Xs tA M K 4200 y∧qs.length=i∧(∀(j:Nat) q p,qs[j]? =some q→ts[j]? =some p→RdyS R Ty.t0 2 q (pcs (y.where_ p).1))∧
     Hs w0 F w1 (slA bv Ty.t5 1 qs::slA ev Ty.api_Errno 1 ((ts.take i).map λp=>i64 (y.where_ p).2)::SPl R D Xs tA M K y (slA tv Ty.t7 1 (tA.map ptr)::pt a (wrO (ptr K.a) tv)::pt t6 (oc x.C Ty.t42)::slA t Ty.t4 4 (mcs y.tb.ms us)::pt t14 (oc [v1] Ty.t5)::slA v1 Ty.t0 2 (pcs bs)::l0)),λl1 _=>match l1 with|[_,_,.int _ i]=>ts.length-i.toNat|_=>0,
    ⟨0,R1,[],.slice none 0 0,.slice none 0 0,rfl,Nat.zero_le _,hV,h,rfl,λj q p hj=>by simp at hj,Hs.nilSl (Hs.nilSl E _ _) _ _⟩,?_⟩
   clear E h hV R1
   rintro t16 t17 t104 u1 w1 ⟨i,R,qs,bv,ev,e,hi,hV,h,hql,hqs,E⟩
   cases e
   refine Bi.lss ?_ ?_<;>intro hlt
   ·refine Cnd.t ?_
    have hi1:i<ts.length:=by omega
    refine(ht []).ix (by omega) (by omega) (by omega) ?_
    intro b2 hb
    rw[Int.toNat_natCast,Nat.mul_one]at hb
    refine(hb.weaken λ_ E=>E.drop (List.nil_sublist _)).ld E (x:=str ts[i]) (by rw[List.getElem?_drop,Nat.add_zero,List.getElem?_map,List.getElem?_eq_getElem hi1];rfl) ?_
    have hp7:=ht7 _ (List.getElem_mem hi1)
    have htk:ts.take (i+1)=ts.take i++[ts[i]]:=by rw[List.take_add_one,List.getElem?_eq_getElem hi1];rfl
    refine(where_okM (R:=R) (D:=D) (tA:=tA) (M:=M) (K:=K) (N:=4200) (y:=y) (path:=ts[i]) (by omega) ⟨by simp,by simp,by simp,h.tb,h.wo,h.inv⟩ E).mono ?_
    clear E
    rintro r w_ ⟨v,rfl,E⟩
    have iv:Scal v:=⟨Hs.slScal E FSl.mem⟩
    repeat with_reducible refine Stp.go ?_
    refine BdS.one E u_slslP e_slP iv.s ?_
    clear E
    intro s1 w_ E
    refine Ap.el E (i:=2) rfl u_slslP ⟨_,u_slslP,λ_ h=>by cases h⟩ e_slP (by omega) (Src.slice (E.sat _ List.mem_cons_self) (n:=1) rfl (by omega) (by simp only[List.all_cons,List.all_nil,iv.s,Bool.and_true])) rfl (by rw[Nat.div_one];omega) (by rw[Nat.div_one];omega) ?_
    clear E
    intro bv2 w_ E
    simp only[List.set_cons_zero,List.set_cons_succ]at E
    replace E:=E.tl
    refine BdS.one E u_slErr e_Errno rfl ?_
    clear E
    intro s2 w_ E
    refine Ap.el E (i:=3) rfl u_slErr ⟨_,u_slErr,λ_ h=>by cases h⟩ e_Errno (by omega) (Src.slice (E.sat _ List.mem_cons_self) (n:=1) rfl (by omega) rfl) rfl (by rw[Nat.div_one,List.length_map,List.length_take];omega) (by rw[Nat.div_one,List.length_map,List.length_take];omega) ?_
    clear E
    intro ev2 w_ E
    simp only[List.set_cons_zero,List.set_cons_succ]at E
    replace E:=E.tl
    replace E:=Hs.poolS Ty.t0 ((E.bIx 8).bIx 1)
    (replace E:=((((((((E.bIx 0).bIx 7).bIx 7).bIx 7).bIx 7).bIx 7).bIx 7).bIx 7))
    have hR2:∀z∈R,z∈(⟨v,Ty.t0,2,pcs (y.where_ ts[i]).1⟩:RowS)::R:=λz hz=>List.mem_cons_of_mem _ hz
    refine Bi.add (by omega) ?_
    refine⟨⟨i+1,_,qs++[v],bv2,ev2,by simp,by omega,hV.mono hR2,h.rowsR hR2,by rw[List.length_append,hql];rfl,?_,by rw[htk,List.map_append];exact E⟩,by simp only[];omega⟩
    intro j q p hj hp
    rcases Nat.lt_or_ge j qs.length with hjl|hjl
    ·rw[List.getElem?_append_left hjl]at hj
     exact(hqs j q p hj hp).mono hR2
    ·rw[List.getElem?_append_right hjl]at hj
     have hj0:j=i:=by
      rcases Nat.eq_zero_or_pos (j-qs.length)with h0|h0
      ·omega
      ·rw[List.getElem?_eq_none (by simp only[List.length_cons,List.length_nil];omega)]at hj;cases hj
     subst hj0
     rw[hql,Nat.sub_self]at hj
     rw[List.getElem?_eq_getElem hi1]at hp
     cases hj
     cases hp
     exact .inr List.mem_cons_self
   refine Cnd.f ?_
   have hie:i=ts.length:=by omega
   subst hie
   rw[List.take_length]at E
   clear hi hlt
   repeat with_reducible first|refine Stp.go ?_|refine StpE.go E ?_
   refine Bi.mk (v:=i64 (IntKind.i64.wrap (1+andI x.flag 1))) rfl ?_
   repeat with_reducible first|refine Stp.go ?_|refine StpE.go E ?_
   replace E:=Hs.spl2 E
   generalize IntKind.i64.wrap (1+andI x.flag 1)=fl at*
   refine(Bind_okM (flag:=fl) h hz1 hz2 E).mono ?_
   clear E
   rintro r w_ ⟨rfl,R',D',Xs',M',K',g1,g2,g3,hR',h',E⟩
   have hk1:=bind_keep (y:=y) x.path x.old fl
   rw[← g2]at E ⊢
   replace hV:=hV.mono hR'
   replace hqs:∀(j:Nat) q p,qs[j]? =some q→ts[j]? =some p→RdyS R' Ty.t0 2 q (pcs (y.where_ p).1):=λj q p h1 h2=>(hqs j q p h1 h2).mono hR'
   refine Bi.neq ?_ ?_<;>intro hbi
   ·refine Cnd.t ?_
    rw[bind_err hbi]at h' E
    refine cmpR_ok h' hV hms hmf (by simp) E λR1 w1 hR1 E=>?_
    rw[decide_eq_true rfl]
    exact⟨rfl,_,E⟩
   refine Cnd.f ?_
   generalize (y.bind x.path x.old fl).1=y1 at*
   repeat with_reducible first|refine Stp.go ?_|refine StpE.go E ?_
   refine(where_okM (path:=x.path) hz1 h'.ctx0 E).mono ?_
   clear E
   rintro r w_ ⟨v3,rfl,E⟩
   have iv3:Scal v3:=⟨Hs.slScal E FSl.mem⟩
   have hwl3:=(where_ok h'.inv x.path).1
   generalize y1.where_ x.path=W at*
   obtain⟨ws,we⟩:=W
   dsimp only at E hwl3 ⊢
   repeat with_reducible refine Stp.go ?_
   intro J102 hJ102
   have out102:∀w_,(∃l',Hs w0 F w_ l')→J102 [.bool true] w_:=by
    intro w_ hE
    exact hJ102 _ w_ λu=>Cnd.t ⟨rfl,hE⟩
   have go102:∀w_,Hs w0 F w_ (SPl R' D' Xs' tA M' K' y1 (slA t16 Ty.t5 1 qs::slA t17 Ty.api_Errno 1 (ts.map λp=>i64 (y.where_ p).2)::slA tv Ty.t7 1 (tA.map ptr)::pt a (wrO (ptr K'.a) tv)::pt t6 (oc x.C Ty.t42)::slA t Ty.t4 4 (mcs y.tb.ms us)::pt t14 (oc [v1] Ty.t5)::slA v1 Ty.t0 2 (pcs bs)::l0))→J102 [.bool false] w_:=by
    clear E
    intro w_ E
    refine hJ102 _ w_ λu=>Cnd.f ?_
    clear hJ102 out102
    repeat with_reducible first|refine Stp.go ?_|refine StpE.go E ?_
    refine(Unmount_okM h' hz1 hz2 E).mono ?_
    clear E
    rintro r w_ ⟨rfl,R2,D2,Xs2,M2,K2,g4,g5,g6,hR2,h2,E⟩
    have hk2:=unmount_keep (y:=y1) x.path x.old
    rw[← g5]at E ⊢
    replace hV:=hV.mono hR2
    replace hqs:∀(j:Nat) q p,qs[j]? =some q→ts[j]? =some p→RdyS R2 Ty.t0 2 q (pcs (y.where_ p).1):=λj q p h1 h2=>(hqs j q p h1 h2).mono hR2
    refine Bi.neq ?_ ?_<;>intro hun
    ·refine Cnd.t ?_
     exact⟨rfl,_,E⟩
    refine Cnd.f ?_
    generalize (y1.unmount x.path x.old).1=y2 at*
    refine cmpR_ok h2 hV hms hmf (by simp) E λR3 w_ hR3 E=>?_
    by_cases hq:y.tb.ms=y2.tb.ms
    ·rw[decide_eq_true hq]
     have hyy:y2=y:=syEq (hk2.2.1.trans hk1.2.1) (hk2.2.2.trans hk1.2.2) hq.symm (hk2.1.trans hk1.1)
     subst hyy
     replace h2:=h2.rowsR hR3
     replace hqs:∀(j:Nat) q p,qs[j]? =some q→ts[j]? =some p→RdyS R3 Ty.t0 2 q (pcs (y2.where_ p).1):=λj q p h1 h2=>(hqs j q p h1 h2).mono hR3
     repeat with_reducible refine Stp.go ?_
     refine(ht []).len ?_
     refine⟨λl1 w1=>∃j:Nat,l1=[i64 j]∧j≤ts.length∧Hs w0 F w1 (SPl R3 D2 Xs2 tA M2 K2 y2 (slA t16 Ty.t5 1 qs::slA t17 Ty.api_Errno 1 (ts.map λp=>i64 (y2.where_ p).2)::slA tv Ty.t7 1 (tA.map ptr)::pt a (wrO (ptr K2.a) tv)::pt t6 (oc x.C Ty.t42)::slA t Ty.t4 4 (mcs y2.tb.ms us)::pt t14 (oc [v1] Ty.t5)::slA v1 Ty.t0 2 (pcs bs)::l0)),λl1 _=>match l1 with|[.int _ j]=>ts.length-j.toNat|_=>0,
      ⟨0,rfl,Nat.zero_le _,E⟩,?_⟩
     clear E
     rintro t168 u1 w1 ⟨j,e,hj,E⟩
     cases e
     refine Bi.lss ?_ ?_<;>intro hlt
     ·refine Cnd.t ?_
      have hj1:j<ts.length:=by omega
      refine(ht []).ix (by omega) (by omega) (by omega) ?_
      intro b2 hb
      rw[Int.toNat_natCast,Nat.mul_one]at hb
      refine(hb.weaken λ_ E=>E.drop (List.nil_sublist _)).ld E (x:=str ts[j]) (by rw[List.getElem?_drop,Nat.add_zero,List.getElem?_map,List.getElem?_eq_getElem hj1];rfl) ?_
      have hp7:=ht7 _ (List.getElem_mem hj1)
      refine(where_okM (path:=ts[j]) (by omega) h2.ctx0 E).mono ?_
      clear E
      rintro r w_ ⟨v4,rfl,E⟩
      have hwl4:=(where_ok h2.inv ts[j]).1
      have ge:=RdS.sl (v:=t17) (T:=Ty.api_Errno) (sz:=1) (xs:=ts.map λp=>i64 (y2.where_ p).2) (by simp) (by omega) E
      have gq:=RdS.sl (v:=t16) (T:=Ty.t5) (sz:=1) (xs:=qs) (by simp) (by omega) E
      have g4:=RdS.sl (v:=v4) (T:=Ty.t0) (sz:=2) (xs:=pcs (y2.where_ ts[j]).1) (by simp) (by omega) E
      rw[Nat.div_one,List.length_map]at ge
      rw[Nat.div_one,hql]at gq
      rw[pcs_len,Nat.mul_div_cancel _ (by omega)]at g4
      have hqj:qs[j]? =some (qs[j]'(by omega)):=List.getElem?_eq_getElem (by omega)
      have g5:=(hqs j _ _ hqj (List.getElem?_eq_getElem hj1)).read (n:=(y2.where_ ts[j]).1.length) (pcs_len _) (by omega) E (by simp)
      have iv4:Scal v4:=RdS_scal g4
      repeat with_reducible refine Stp.go ?_
      intro J131 hJ131
      refine ge.ix (by omega) (by omega) (by omega) ?_
      intro b3 hb3
      rw[Int.toNat_natCast,Nat.mul_one]at hb3
      refine hb3.ld E (x:=i64 (y2.where_ ts[j]).2) (by rw[List.getElem?_drop,Nat.add_zero,List.getElem?_map,List.getElem?_eq_getElem hj1];rfl) ?_
      refine Bi.neq (λh=>absurd rfl h) (λ_=>?_)
      repeat with_reducible refine Stp.go ?_
      refine gq.ix (by omega) (by omega) (by omega) ?_
      intro b4 hb4
      rw[Int.toNat_natCast,Nat.mul_one]at hb4
      repeat with_reducible refine Stp.go ?_
      refine hb4.ld E (x:=qs[j]'(by omega)) (by rw[List.getElem?_drop,Nat.add_zero];exact hqj) ?_
      repeat with_reducible refine Stp.go ?_
      refine(eqPl_ok (by omega) g4 g5 E).mono ?_
      clear E ge gq g4 g5 hb3 hb4
      rintro r w_ ⟨rfl,E⟩
      rw[decide_eq_true rfl]
      repeat with_reducible refine Stp.go ?_
      refine hJ131 _ _ λu=>Cnd.f ?_
      refine Bi.add (by omega) ?_
      exact⟨⟨j+1,by simp,by omega,E.tl⟩,by simp only[];omega⟩
     ·refine Cnd.f ?_
      exact⟨rfl,_,E⟩
    ·rw[decide_eq_false hq]
     repeat with_reducible refine Stp.go ?_
     exact⟨rfl,_,E⟩
   clear hJ102
   refine Bi.neq ?_ ?_<;>intro hwe<;>(repeat with_reducible first|refine Stp.go ?_|refine StpE.go E ?_)
   ·exact out102 _ ⟨_,E⟩
   have gb:=RdS.sl (v:=v1) (T:=Ty.t0) (sz:=2) (xs:=pcs bs) (by simp) (by omega) E
   have gw:=RdS.sl (v:=v3) (T:=Ty.t0) (sz:=2) (xs:=pcs ws) (by simp) (by omega) E
   rw[pcs_len,Nat.mul_div_cancel _ (by omega)]at gb gw
   refine(eqPl_ok (by omega) gw gb E).mono ?_
   clear E gb gw
   rintro r w_ ⟨rfl,E⟩
   cases decide (ws=bs)with
   |false=>
    repeat with_reducible refine Stp.go ?_
    exact out102 _ ⟨_,E⟩
   |true=>
    repeat with_reducible refine Stp.go ?_
    exact go102 _ E.tl
  refine Bi.neq ?_ ?_<;>intro hbe<;>(repeat with_reducible first|refine Stp.go ?_|refine StpE.go E ?_)
  ·exact out53 _ ⟨_,E⟩
  have gb:=RdS.sl (v:=v1) (T:=Ty.t0) (sz:=2) (xs:=pcs bs) (by simp) (by omega) E
  rw[pcs_len,Nat.mul_div_cancel _ (by omega)]at gb
  refine gb.len ?_
  repeat with_reducible refine Stp.go ?_
  refine Bi.neq ?_ ?_<;>intro hbl<;>(repeat with_reducible refine Stp.go ?_)
  ·exact out53 _ ⟨_,E⟩
  obtain⟨b,hb⟩:=List.length_eq_one_iff.1 (show bs.length=1 by omega)
  subst hb
  have gt:=RdS.sl (v:=t) (T:=Ty.t4) (sz:=4) (xs:=mcs y.tb.ms us) (by simp) (by omega) E
  rw[mcs_len hV.len,Nat.mul_div_cancel _ (by omega)]at gt
  refine(holds_ok (R:=R1) (by simp) hV hms hmf gt gb E).mono ?_
  clear E gt gb
  rintro r w_ ⟨⟨c,rfl⟩,E⟩
  cases c with
  |true=>
   repeat with_reducible refine Stp.go ?_
   exact out53 _ ⟨_,E⟩
  |false=>
   repeat with_reducible refine Stp.go ?_
   (replace E:=((((((((((((((E.bIx 1).bIx 1).bIx 2).bIx 13).bIx 13).bIx 13).bIx 13).bIx 13).bIx 13).bIx 13).bIx 13).bIx 13).bIx 13).bIx 13))
   exact go53 b _ rfl E
 clear hJ8
 repeat with_reducible first|refine StpE.go E ?_|(refine StpW.go E ?_;clear E;intro w_ E)
 refine(fewS_okM (hp _) hs E).mono ?_
 clear E
 rintro r w_ ⟨rfl,E⟩
 cases hf:fewS user pls with
 |false=>
  repeat with_reducible refine Stp.go ?_
  refine And.intro ?_ (And.intro ?_ trivial)<;>(repeat with_reducible refine Stp.go ?_)<;>(repeat(with_reducible refine And.intro ?_ ?_;focus ((repeat with_reducible refine Stp.go ?_);exact rfl)))<;>(repeat with_reducible refine Stp.go ?_)<;>exact out _ ⟨_,E⟩
 |true=>
  repeat with_reducible refine Stp.go ?_
  refine(hv []).len ?_
  repeat with_reducible refine Stp.go ?_
  refine Bi.gtr ?_ ?_<;>intro h20<;>(repeat with_reducible first|refine Stp.go ?_|refine StpE.go E ?_)
  ·refine And.intro ?_ (And.intro ?_ trivial)<;>(repeat with_reducible refine Stp.go ?_)<;>(repeat(with_reducible refine And.intro ?_ ?_;focus ((repeat with_reducible refine Stp.go ?_);exact rfl)))<;>(repeat with_reducible refine Stp.go ?_)<;>exact out _ ⟨_,E⟩
  refine And.intro ?left (And.intro ?right trivial)
  case' left=>
   repeat with_reducible refine Stp.go ?_
   refine(CloneX_ok (hv _) (by omega) E).mono ?_
   clear E
   intro c w_ E
   have ic:Scal c:=⟨Hs.slScal E FSl.mem⟩
   skip
   (repeat(with_reducible refine And.intro ?_ ?_;focus ((repeat with_reducible first|refine Stp.go ?_|refine StpE.go E ?_);exact rfl)))
   repeat with_reducible refine Stp.go ?_
   refine BdS.xa E ?_
   clear E
   intro s w_ E
   repeat with_reducible refine Stp.go ?_
   refine Ap.xa E (i:=1) (xs:=xs) (x:=x) rfl List.mem_cons_self (by omega) ?_
   clear E
   intro v2 w_ E
   simp only[List.set_cons_zero,List.set_cons_succ]at E
   replace E:=E.tl
  case' right=>
   repeat with_reducible refine Stp.go ?_
   refine BdS.xa E ?_
   clear E
   intro s w_ E
   repeat with_reducible refine Stp.go ?_
   refine(CloneX_ok (hv _) (by omega) E).mono ?_
   clear E
   intro c w_ E
   have ic:Scal c:=⟨Hs.slScal E FSl.mem⟩
   skip
   (repeat(with_reducible refine And.intro ?_ ?_;focus ((repeat with_reducible first|refine Stp.go ?_|refine StpE.go E ?_);exact rfl)))
   repeat with_reducible refine Stp.go ?_
   refine Ap.xa E (i:=0) (xs:=xs) (x:=x) rfl (by simp) (by omega) ?_
   clear E
   intro v2 w_ E
   simp only[List.set_cons_zero,List.set_cons_succ]at E
   replace E:=(E.bIx 1).tl
  all_goals
   have gx:=RdS.sl (v:=v2) (T:=Ty.t42) (sz:=18) (xs:=xcs (xs++[x])) (by simp) (by omega) E
   rw[xcs_len,Nat.mul_div_cancel _ (by omega)]at gx
   repeat with_reducible refine Stp.go ?_
   refine(FewX_ok (xs:=xs++[x]) (λz hz=>by rcases List.mem_append.1 hz with h|h;exact hx z h;rw[List.mem_singleton.1 h];exact hx1) gx E).mono ?_
   clear E gx
   rintro r w_ ⟨rfl,E⟩
   cases hf2:fewX (xs++[x])with
   |false=>
    repeat with_reducible refine Stp.go ?_
    exact out _ ⟨_,E⟩
   |true=>
    repeat with_reducible refine Stp.go ?_
    refine(ht []).len ?_
    repeat with_reducible refine Stp.go ?_
    refine Bi.gtr ?_ ?_<;>intro ht20<;>(repeat with_reducible refine Stp.go ?_)
    ·exact out _ ⟨_,E⟩
    refine(ContainsFunc_ok (p:=longR) (by omega) E (ht _) λp hp w1 E=>longsR_ok E).mono ?_
    clear E
    rintro r w_ ⟨rfl,E⟩
    cases hlp:ts.any longR with
    |true=>
     repeat with_reducible refine Stp.go ?_
     exact out _ ⟨_,E⟩
    |false=>
     repeat with_reducible refine Stp.go ?_
     refine go8 _ hf (by omega) hf2 (by omega) (λp hp=>?_) E.tl
     rw[List.any_eq_false]at hlp
     have:=hlp p hp
     unfold longR at this
     simp at this
     omega
set_option maxRecDepth 100000
set_option linter.unusedVariables false
set_option linter.unusedSimpArgs false
variable {w0 w:World} {F:Nat→Prop} {l:List As}
abbrev zXAct:Value:=.agg #[i64 0,i64 0,i64 0,str emp,str emp,str emp,i64 0,i64 0,i64 0,i64 0,i64 0,i64 0,i64 0,i64 0,str emp,str emp,str emp,str emp]
set_option maxRecDepth 100000
set_option linter.unusedVariables false
set_option linter.unusedSimpArgs false
variable {H:Type} {enc:TypeId×Value→H} {W:World}
abbrev dtabS:List (TypeId×Nat×Nat):=[(Ty.t55,0,3),(Ty.int,3,1),(Ty.int64,4,1),(Ty.int64,5,1),(Ty.t1,6,1),(Ty.t1,7,1),(Ty.t1,8,1),(Ty.t1,9,1)]
abbrev atabS:List (TypeId×Nat×Nat):=[(Ty.int,0,1),(Ty.int,1,1),(Ty.int,2,1),(Ty.t1,3,1),(Ty.t1,4,1),(Ty.t1,5,1),(Ty.int,6,1),(Ty.int64,7,1),(Ty.t28,8,10)]
theorem dtabS_is:ftab PP Ty.t28=dtabS:=by kernel_rfl
theorem atabS_is:ftab PP Ty.t42=atabS:=by kernel_rfl
theorem cS_Dir:PP.cellsOf Ty.t28=10:=by kernel_rfl
theorem cS_Act:PP.cellsOf Ty.t42=18:=by kernel_rfl
theorem uuS_int:PP.underlying Ty.int=some (.int .i64):=by kernel_rfl
theorem uuS_int64:PP.underlying Ty.int64=some (.int .i64):=by kernel_rfl
theorem uuS_str:PP.underlying Ty.t1=some .string:=by kernel_rfl
theorem lvCS_Qid:lvC PP 20 Ty.t55=true:=by kernel_rfl
theorem qdS_of{r:List Value}(h:fitWL lkQid r):∃a b c:Int,r=[i64 a,i64 b,i64 c]:=by
 obtain⟨x0,r,rfl,h0,h⟩:=fitWL_cons h
 obtain⟨x1,r,rfl,h1,h⟩:=fitWL_cons h
 obtain⟨x2,r,rfl,h2,h⟩:=fitWL_cons h
 obtain rfl:=fitWL_nil h
 obtain⟨a,rfl,-⟩:=LK.int_of h0
 obtain⟨b,rfl,-⟩:=LK.int_of h1
 obtain⟨c,rfl,-⟩:=LK.int_of h2
 exact⟨a,b,c,rfl⟩
theorem open_dr{fuel:Nat}{cs:List Value}{x:DataW H×List MemPlace}(h:DataW.trod enc PP W 0 (λ_=>true) true fuel Ty.t28 cs=some x):
  ∃d:Dr,cs=d.cs∧∀s,s=d.name∨s=d.owner∨s=d.group∨s=d.last→s.data.toList.length∈x.1.weights PP Ty.t28:=by
 obtain⟨xs,n,hx,hlen,hxs,hf⟩:=struct_parts dtabS_is (by decide) h
 rw[cS_Dir]at hlen
 obtain⟨c0,c1,c2,c3,c4,c5,c6,c7,c8,c9,rfl⟩:∃c0 c1 c2 c3 c4 c5 c6 c7 c8 c9,cs=[c0,c1,c2,c3,c4,c5,c6,c7,c8,c9]:=by
  match cs,hlen with
  |[c0,c1,c2,c3,c4,c5,c6,c7,c8,c9],_=>exact⟨c0,c1,c2,c3,c4,c5,c6,c7,c8,c9,rfl⟩
 obtain⟨x0,x1,x2,x3,x4,x5,x6,x7,rfl⟩:∃x0 x1 x2 x3 x4 x5 x6 x7,xs=[x0,x1,x2,x3,x4,x5,x6,x7]:=by
  match xs,hxs with
  |[x0,x1,x2,x3,x4,x5,x6,x7],_=>exact⟨x0,x1,x2,x3,x4,x5,x6,x7,rfl⟩
 have h0:DataW.trod enc PP W 0 (λ_=>true) true n Ty.t55 [c0,c1,c2]=some x0:=hf 0 _ _ _ rfl
 obtain⟨qa,qb,qc,eq⟩:=qdS_of (trod_lv 20 lv_Qid lvCS_Qid _ _ _ h0)
 cases eq
 have h1:DataW.trod enc PP W 0 (λ_=>true) true n Ty.int [c3]=some x1:=hf 1 _ _ _ rfl
 obtain⟨n1,e1,-,w1⟩:=DataW.trod_int uuS_int h1
 cases e1
 have h2:DataW.trod enc PP W 0 (λ_=>true) true n Ty.int64 [c4]=some x2:=hf 2 _ _ _ rfl
 obtain⟨n2,e2,-,w2⟩:=DataW.trod_int uuS_int64 h2
 cases e2
 have h3:DataW.trod enc PP W 0 (λ_=>true) true n Ty.int64 [c5]=some x3:=hf 3 _ _ _ rfl
 obtain⟨n3,e3,-,w3⟩:=DataW.trod_int uuS_int64 h3
 cases e3
 have h4:DataW.trod enc PP W 0 (λ_=>true) true n Ty.t1 [c6]=some x4:=hf 4 _ _ _ rfl
 obtain⟨s4,e4,y4,-⟩:=DataW.trod_string uuS_str h4
 cases e4
 have h5:DataW.trod enc PP W 0 (λ_=>true) true n Ty.t1 [c7]=some x5:=hf 5 _ _ _ rfl
 obtain⟨s5,e5,y5,-⟩:=DataW.trod_string uuS_str h5
 cases e5
 have h6:DataW.trod enc PP W 0 (λ_=>true) true n Ty.t1 [c8]=some x6:=hf 6 _ _ _ rfl
 obtain⟨s6,e6,y6,-⟩:=DataW.trod_string uuS_str h6
 cases e6
 have h7:DataW.trod enc PP W 0 (λ_=>true) true n Ty.t1 [c9]=some x7:=hf 7 _ _ _ rfl
 obtain⟨s7,e7,y7,-⟩:=DataW.trod_string uuS_str h7
 cases e7
 refine⟨⟨qa,qb,qc,n1,n2,n3,s4,s5,s6,s7⟩,rfl,?_⟩
 rw[hx]
 rintro s (rfl|rfl|rfl|rfl)
 ·exact weights_struct dtabS_is (by decide) (i:=4) rfl rfl (weight_str y4)
 ·exact weights_struct dtabS_is (by decide) (i:=5) rfl rfl (weight_str y5)
 ·exact weights_struct dtabS_is (by decide) (i:=6) rfl rfl (weight_str y6)
 ·exact weights_struct dtabS_is (by decide) (i:=7) rfl rfl (weight_str y7)
theorem open_xa{fuel:Nat}{cs:List Value}{x:DataW H×List MemPlace}(h:DataW.trod enc PP W 0 (λ_=>true) true fuel Ty.t42 cs=some x):
  ∃a:Xa,cs=a.C∧∀s,s=a.path∨s=a.old∨s=a.data∨s=a.dir.name∨s=a.dir.owner∨s=a.dir.group∨s=a.dir.last→s.data.toList.length∈x.1.weights PP Ty.t42:=by
 obtain⟨xs,n,hx,hlen,hxs,hf⟩:=struct_parts atabS_is (by decide) h
 rw[cS_Act]at hlen
 obtain⟨c0,c1,c2,c3,c4,c5,c6,c7,c8,c9,c10,c11,c12,c13,c14,c15,c16,c17,rfl⟩:∃c0 c1 c2 c3 c4 c5 c6 c7 c8 c9 c10 c11 c12 c13 c14 c15 c16 c17,cs=[c0,c1,c2,c3,c4,c5,c6,c7,c8,c9,c10,c11,c12,c13,c14,c15,c16,c17]:=by
  match cs,hlen with
  |[c0,c1,c2,c3,c4,c5,c6,c7,c8,c9,c10,c11,c12,c13,c14,c15,c16,c17],_=>exact⟨c0,c1,c2,c3,c4,c5,c6,c7,c8,c9,c10,c11,c12,c13,c14,c15,c16,c17,rfl⟩
 obtain⟨x0,x1,x2,x3,x4,x5,x6,x7,x8,rfl⟩:∃x0 x1 x2 x3 x4 x5 x6 x7 x8,xs=[x0,x1,x2,x3,x4,x5,x6,x7,x8]:=by
  match xs,hxs with
  |[x0,x1,x2,x3,x4,x5,x6,x7,x8],_=>exact⟨x0,x1,x2,x3,x4,x5,x6,x7,x8,rfl⟩
 have h0:DataW.trod enc PP W 0 (λ_=>true) true n Ty.int [c0]=some x0:=hf 0 _ _ _ rfl
 obtain⟨n0,e0,-,w0⟩:=DataW.trod_int uuS_int h0
 cases e0
 have h1:DataW.trod enc PP W 0 (λ_=>true) true n Ty.int [c1]=some x1:=hf 1 _ _ _ rfl
 obtain⟨n1,e1,-,w1⟩:=DataW.trod_int uuS_int h1
 cases e1
 have h2:DataW.trod enc PP W 0 (λ_=>true) true n Ty.int [c2]=some x2:=hf 2 _ _ _ rfl
 obtain⟨n2,e2,-,w2⟩:=DataW.trod_int uuS_int h2
 cases e2
 have h3:DataW.trod enc PP W 0 (λ_=>true) true n Ty.t1 [c3]=some x3:=hf 3 _ _ _ rfl
 obtain⟨s3,e3,y3,-⟩:=DataW.trod_string uuS_str h3
 cases e3
 have h4:DataW.trod enc PP W 0 (λ_=>true) true n Ty.t1 [c4]=some x4:=hf 4 _ _ _ rfl
 obtain⟨s4,e4,y4,-⟩:=DataW.trod_string uuS_str h4
 cases e4
 have h5:DataW.trod enc PP W 0 (λ_=>true) true n Ty.t1 [c5]=some x5:=hf 5 _ _ _ rfl
 obtain⟨s5,e5,y5,-⟩:=DataW.trod_string uuS_str h5
 cases e5
 have h6:DataW.trod enc PP W 0 (λ_=>true) true n Ty.int [c6]=some x6:=hf 6 _ _ _ rfl
 obtain⟨n6,e6,-,w6⟩:=DataW.trod_int uuS_int h6
 cases e6
 have h7:DataW.trod enc PP W 0 (λ_=>true) true n Ty.int64 [c7]=some x7:=hf 7 _ _ _ rfl
 obtain⟨n7,e7,-,w7⟩:=DataW.trod_int uuS_int64 h7
 cases e7
 have h8:DataW.trod enc PP W 0 (λ_=>true) true n Ty.t28 [c8,c9,c10,c11,c12,c13,c14,c15,c16,c17]=some x8:=hf 8 _ _ _ rfl
 obtain⟨d,ed,hd⟩:=open_dr h8
 cases ed
 refine⟨⟨n0,n1,n2,s3,s4,s5,n6,n7,d⟩,rfl,?_⟩
 rw[hx]
 rintro s (rfl|rfl|rfl|rfl|rfl|rfl|rfl)
 ·exact weights_struct atabS_is (by decide) (i:=3) rfl rfl (weight_str y3)
 ·exact weights_struct atabS_is (by decide) (i:=4) rfl rfl (weight_str y4)
 ·exact weights_struct atabS_is (by decide) (i:=5) rfl rfl (weight_str y5)
 ·exact weights_struct atabS_is (by decide) (i:=8) rfl rfl (hd _ (.inl rfl))
 ·exact weights_struct atabS_is (by decide) (i:=8) rfl rfl (hd _ (.inr (.inl rfl)))
 ·exact weights_struct atabS_is (by decide) (i:=8) rfl rfl (hd _ (.inr (.inr (.inl rfl))))
 ·exact weights_struct atabS_is (by decide) (i:=8) rfl rfl (hd _ (.inr (.inr (.inr rfl))))
theorem xa_Ok{a:Xa}{ws:List Nat}(hw:∀s,s=a.path∨s=a.old∨s=a.data∨s=a.dir.name∨s=a.dir.owner∨s=a.dir.group∨s=a.dir.last→s.data.toList.length∈ws)(h:∀n∈ws,n≤140737488355328):a.Ok:=
 ⟨h _ (hw _ (.inl rfl)),h _ (hw _ (.inr (.inl rfl))),h _ (hw _ (.inr (.inr (.inl rfl)))),h _ (hw _ (.inr (.inr (.inr (.inl rfl))))),h _ (hw _ (.inr (.inr (.inr (.inr (.inl rfl)))))),h _ (hw _ (.inr (.inr (.inr (.inr (.inr (.inl rfl))))))),h _ (hw _ (.inr (.inr (.inr (.inr (.inr (.inr rfl)))))))⟩
set_option maxRecDepth 100000
set_option linter.unusedVariables false
set_option linter.unusedSimpArgs false
variable {H:Type} {enc:TypeId×Value→H} {W:World}
abbrev stabS:List (TypeId×Nat×Nat):=[(Ty.t1,0,1),(Ty.sl_sl_law29_Plant,1,1)]
abbrev ptabS:List (TypeId×Nat×Nat):=[(Ty.t1,0,1),(Ty.bool,1,1),(Ty.t1,2,1)]
theorem stabS_is:ftab PP Ty.t48=stabS:=by kernel_rfl
theorem ptabS_is:ftab PP Ty.t73=ptabS:=by kernel_rfl
theorem cS_Set:PP.cellsOf Ty.t48=2:=by kernel_rfl
theorem cS_Plant:PP.cellsOf Ty.t73=3:=by kernel_rfl
theorem cS_slP:PP.cellsOf Ty.t83=1:=by kernel_rfl
theorem uS_slP:PP.underlying Ty.t83=some (.slice Ty.t73):=by kernel_rfl
theorem uS_slslP:PP.underlying Ty.sl_sl_law29_Plant=some (.slice Ty.t83):=by kernel_rfl
theorem uS_slA:PP.underlying Ty.t45=some (.slice Ty.t42):=by kernel_rfl
theorem uuS_bool:PP.underlying Ty.bool=some .bool:=by kernel_rfl
theorem open_pn{fuel:Nat}{cs:List Value}{x:DataW H×List MemPlace}(h:DataW.trod enc PP W 0 (λ_=>true) true fuel Ty.t73 cs=some x):
  ∃p:Pn,cs=p.cs∧p.path.data.toList.length∈x.1.weights PP Ty.t73∧p.data.data.toList.length∈x.1.weights PP Ty.t73:=by
 obtain⟨xs,n,hx,hlen,hxs,hf⟩:=struct_parts ptabS_is (by decide) h
 rw[cS_Plant]at hlen
 obtain⟨c0,c1,c2,rfl⟩:∃c0 c1 c2,cs=[c0,c1,c2]:=by
  match cs,hlen with
  |[c0,c1,c2],_=>exact⟨c0,c1,c2,rfl⟩
 obtain⟨x0,x1,x2,rfl⟩:∃x0 x1 x2,xs=[x0,x1,x2]:=by
  match xs,hxs with
  |[x0,x1,x2],_=>exact⟨x0,x1,x2,rfl⟩
 have h0:DataW.trod enc PP W 0 (λ_=>true) true n Ty.t1 [c0]=some x0:=hf 0 _ _ _ rfl
 obtain⟨s0,e0,y0,-⟩:=DataW.trod_string uuS_str h0
 cases e0
 have h1:DataW.trod enc PP W 0 (λ_=>true) true n Ty.bool [c1]=some x1:=hf 1 _ _ _ rfl
 obtain⟨b1,e1,-⟩:=DataW.trod_bool uuS_bool h1
 cases e1
 have h2:DataW.trod enc PP W 0 (λ_=>true) true n Ty.t1 [c2]=some x2:=hf 2 _ _ _ rfl
 obtain⟨s2,e2,y2,-⟩:=DataW.trod_string uuS_str h2
 cases e2
 refine⟨⟨s0,b1,s2⟩,rfl,?_,?_⟩
 ·rw[hx];exact weights_struct ptabS_is (by decide) (i:=0) rfl rfl (weight_str y0)
 ·rw[hx];exact weights_struct ptabS_is (by decide) (i:=2) rfl rfl (weight_str y2)
theorem open_setS {fuel : Nat} {cs : List Value} {x : DataW H × List MemPlace} (h : DataW.trod enc PP W 0 (fun _=>true) true fuel Ty.t48 cs = some x) :
  ∃ user pv vs pls,cs = [str user,pv]∧(∀ l,PlsIn W Emp l pv vs pls)∧∀ ps∈pls,∀ p : Pn,p∈ps→p.path.data.toList.length∈x.1.weights PP Ty.t48∧p.data.data.toList.length∈x.1.weights PP Ty.t48:=by
 obtain ⟨xs,n,hx,hlen,hxs,hf⟩:=struct_parts stabS_is (by decide) h
 rw [cS_Set] at hlen
 obtain ⟨c0,c1,rfl⟩ : ∃ c0 c1,cs = [c0,c1]:=by
  match cs,hlen with
  | [c0,c1],_=>exact ⟨c0,c1,rfl⟩
 obtain ⟨x0,x1,rfl⟩ : ∃ x0 x1,xs = [x0,x1]:=by
  match xs,hxs with
  | [x0,x1],_=>exact ⟨x0,x1,rfl⟩
 have h0 : DataW.trod enc PP W 0 (fun _=>true) true n Ty.t1 [c0] = some x0:=hf 0 _ _ _ rfl
 obtain ⟨s0,e0,y0,-⟩:=DataW.trod_string uuS_str h0
 cases e0
 have h1 : DataW.trod enc PP W 0 (fun _=>true) true n Ty.sl_sl_law29_Plant [c1] = some x1:=hf 1 _ _ _ rfl
 obtain ⟨ds,hD,hQ⟩:=rows_open (α:=Value × List Pn) (f:=fun a=>[a.1]) (Q:=fun a y=>RdlA W a.1 3 a.2.length (ncs a.2)∧∀ p : Pn,p∈a.2→p.path.data.toList.length∈y.weights PP Ty.t83∧p.data.data.toList.length∈y.weights PP Ty.t83) uS_slslP cS_slP (by decide) (fun _=>rfl) (fun fuel cs x hs=>by
  obtain ⟨c,rfl⟩ : ∃ c,cs = [c]:=by
   rcases DataW.trod_slice uS_slP hs with ⟨hcs,-⟩ | ⟨a,len,cap,elems,rest,n,-,hcs,-⟩
   ·exact ⟨_,hcs⟩
   ·exact ⟨_,hcs⟩
  obtain ⟨ps,hP,hp⟩:=rows_open (α:=Pn) (f:=Pn.cs) (Q:=fun p y=>p.path.data.toList.length∈y.weights PP Ty.t73∧p.data.data.toList.length∈y.weights PP Ty.t73) uS_slP cS_Plant (by decide) (fun _=>rfl) (fun fuel cs x h=>open_pn h) hs
  refine ⟨(c,ps),rfl,hP,fun p hp2=>?_⟩
  obtain ⟨y,⟨q1,q2⟩,q3⟩:=hp p hp2
  exact ⟨q3 _ q1,q3 _ q2⟩) h1
 refine ⟨s0,c1,ds.map (·.1),ds.map (·.2),rfl,fun l=>⟨?_,fun i v ps g1 g2=>?_⟩,fun ps hps p hp=>?_⟩
 ·have:=RdS.oldA (l:=l) hD (fun b h=>h)
  rw [show ds.flatMap (fun a=>[a.1]) = ds.map (·.1) from (List.map_eq_flatMap).symm] at this
  rw [List.length_map]
  exact this
 ·rw [List.getElem?_map] at g1 g2
  obtain ⟨a,ha,rfl⟩:=Option.map_eq_some_iff.1 g1
  rw [ha] at g2
  cases g2
  obtain ⟨y,⟨q1,-⟩,-⟩:=hQ a (List.mem_of_getElem? ha)
  exact RdS.oldA q1 fun b h=>h
 ·obtain ⟨a,ha,rfl⟩:=List.mem_map.1 hps
  obtain ⟨y,⟨-,q2⟩,q3⟩:=hQ a ha
  obtain ⟨r1,r2⟩:=q2 p hp
  rw [hx]
  exact ⟨weights_struct stabS_is (by decide) (i:=1) rfl rfl (q3 _ r1),weights_struct stabS_is (by decide) (i:=1) rfl rfl (q3 _ r2)⟩
theorem open_xas{v:Value}{d:DataW H}{ps:List MemPlace}(hs:∃a n c,v=.slice a n c)(h:DataW.Trod enc PP W 0 (λ_=>true) true Ty.t45 v d ps)(hw:∀n∈d.weights PP Ty.t45,n≤140737488355328):
  ∃xs:List Xa,(∀l,RdS W Emp l 18 xs.length v (xcs xs))∧∀x∈xs,x.Ok:=by
 obtain⟨a,n,c,rfl⟩:=hs
 obtain⟨fuel,h⟩:=h
 obtain⟨ds,hD,hQ⟩:=rows_open (α:=Xa) (f:=Xa.C) (Q:=λa y=>∀s,s=a.path∨s=a.old∨s=a.data∨s=a.dir.name∨s=a.dir.owner∨s=a.dir.group∨s=a.dir.last→s.data.toList.length∈y.weights PP Ty.t42) uS_slA cS_Act (by decide) (λ_=>rfl) (λfuel cs x h=>open_xa h) h
 refine⟨ds,λl=>RdS.oldA hD λb h=>h,λx hx=>?_⟩
 obtain⟨y,q1,q2⟩:=hQ x hx
 exact xa_Ok q1 λn hn=>hw n (q2 n hn)
theorem uS_sls:PP.underlying Ty.t2=some (.slice Ty.t1):=by kernel_rfl
theorem cS_str:PP.cellsOf Ty.t1=1:=by kernel_rfl
theorem open_strsS{v:Value}{d:DataW H}{ps:List MemPlace}(hs:∃a n c,v=.slice a n c)(h:DataW.Trod enc PP W 0 (λ_=>true) true Ty.t2 v d ps):
  ∃ts:List BA,(∀l,RdS W Emp l 1 ts.length v (ts.map str))∧∀s∈ts,s.data.toList.length∈d.weights PP Ty.t2:=by
 obtain⟨a,n,c,rfl⟩:=hs
 obtain⟨fuel,h⟩:=h
 obtain⟨ts,h1,h2⟩:=strs_open uS_sls uuS_str cS_str h
 refine⟨ts,λl=>?_,h2⟩
 have:=RdS.old (l:=l) h1 (λb h=>h)
 rwa [List.length_map]at this
end Go.Proofs.YtjffgllkfbcaeaaGreatDoor