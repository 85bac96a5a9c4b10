/-
 Name spaces: Write, Close.
-/
import Derived.Test.YtjffgllkfbcaeaaGreatDoorUf3
import Derived.Test.YtjffgllkfbcaeaaGreatDoorUb7
namespace Go.Proofs.YtjffgllkfbcaeaaGreatDoor
open Go Go.Sh
set_option maxRecDepth 100000
set_option linter.unusedVariables false
set_option linter.unusedSimpArgs false
variable {w0 w:World} {F:Nat→Prop} {l r1 r2 r3:List As}
variable {R:List RowS} {D:List Row} {Xs:List PT} {tA:List Nat} {M:TbM} {K:SpM} {N:Int} {y:Sy}
theorem Write_okM{n off:Int}{d:BA}(h:Fit R D Xs tA M K N y)(hN:N+1000<4611686018427387904)(E:Hs w0 F w (SPl R D Xs tA M K y l)):
  Ca PP Fn.f109 #[ptr K.a,i64 n,i64 off,str d] w λr w'=>r=.tuple #[i64 (y.write n off d).2.1,i64 (y.write n off d).2.2]∧GoS w0 F l R tA M K (N+100) (y.write n off d).1 w':=by
 have hinv:=(write_invS h.inv n off d).mono (show N+3≤N+100 by omega)
 refine S.f109.calls ?_
 unfold S.f109
 refine(singleS_okM (n:=n) h.sp h.inv (by simp) E).mono ?_
 clear E
 rintro r w_ ⟨x,rfl,hx,ix,E⟩
 have hs1:=@singleS_ok _ _ h.inv n
 unfold Sy.write at hinv ⊢
 simp only[]at hinv ⊢
 generalize y.single n=H at*
 repeat with_reducible first|refine Stp.go ?_|(refine StpW.go E ?_;clear E;intro w_ E)|(refine StpA.go E ?_;clear E;intro b_ w_ hb_ E)
 (revert b_;intro q hbq E)
 refine Bi.neq ?_ ?_<;>intro he<;>(repeat with_reducible first|refine Stp.go ?_|refine StpE.go E ?_)
 ·rw[if_pos he]
  exact⟨rfl,(h.mono (by omega)).same E.tl⟩
 rw[if_neg (λh=>h he)]at hinv ⊢
 have hk:=hs1 he
 rw[hx he]
 have hT:=h.inv.t _ (trW_mem hk)
 repeat with_reducible refine Stp.go ?_
 refine(Wo.chg (Q:=λr=>r=.tuple #[i64 ((trW y.Ts H.1.1).write H.1.2 off d).2.1,i64 ((trW y.Ts H.1.1).write H.1.2 off d).2.2]) (T':=((trW y.Ts H.1.1).write H.1.2 off d).1) (args:=λz=>#[ptr z,i64 H.1.2,i64 off,str d]) h.wo hk E λX β l0 hb E=>Write_ok hb hT.1 (by omega) hT.2 E).mono ?_
 clear E
 rintro r w_ ⟨rfl,D2,Xs2,hW,E⟩
 generalize (trW y.Ts H.1.1).write H.1.2 off d=Z at*
 repeat with_reducible refine Stp.go ?_
 replace E:=(E.bIx 2).tl
 (replace E:=((((((((E.bIx 1).bIx 1).bIx 7).bIx 7).bIx 7).bIx 7).bIx 7).bIx 7))
 exact⟨rfl,h.goes hW hinv E⟩
theorem getL_del {α : Type} {L : List (Int × α)} (hn : (L.map (·.1)).Nodup) (k j : Int) : getL (delL L k) j = if j = k then none else getL L j:=by
 induction L with
 | nil =>
  unfold delL getL
  by_cases h : j = k <;> simp [h]
 | cons p r ih =>
  rw [List.map_cons,List.nodup_cons] at hn
  unfold delL
  by_cases hk : k = p.1
  ·rw [if_pos hk]
   by_cases hj : j = k
   ·rw [if_pos hj,getL_none,hj,hk]
    exact hn.1
   ·rw [if_neg hj]
    unfold getL
    rw [List.find?_cons,show decide (j = p.1) = false by simpa [← hk] using hj]
  ·rw [if_neg hk]
   have ih:=ih hn.2
   unfold getL at ih ⊢
   rw [List.find?_cons,List.find?_cons]
   by_cases hj : j = p.1
   ·have : ¬ j = k:=fun h=>hk (h ▸ hj)
    simp [hj,Ne.symm hk]
   ·simp only [hj,decide_false]
    exact ih
theorem delL_keys {α β : Type} {k : Int} : ∀ {L : List (Int × α)} {V : List (Int × β)},L.map (·.1) = V.map (·.1)→(delL L k).map (·.1) = (delL V k).map (·.1)
 | [],[],_=>rfl
 | [],b::s,h=>by simp at h
 | a::r,[],h=>by simp at h
 | a::r,b::s,h=>by
  rw [List.map_cons,List.map_cons,List.cons.injEq] at h
  unfold delL
  rw [h.1]
  split
  ·exact h.2
  ·rw [List.map_cons,List.map_cons,h.1,delL_keys h.2]
theorem SpT.del {sp : Sp} {n : Int} (h : SpT R tA K sp) (hn : (sp.op.map (·.1)).Nodup) : SpT R tA { K with ov:=delL K.ov n } { sp with op:=delL sp.op n }:=by
 refine ⟨delL_keys h.keys,fun k=>?_⟩
 show match getL (delL sp.op n) k with
  | none=>getL (delL K.ov n) k = none
  | some hs'=>∃ v',getL (delL K.ov n) k = some v'∧RdyS R Ty.t38 2 v' (hcs tA hs')
 rw [getL_del hn,getL_del (by rw [h.keys]; exact hn)]
 by_cases hk : k = n
 ·rw [if_pos hk,if_pos hk]
 ·rw [if_neg hk,if_neg hk]
  exact h.row k
theorem Close_okM{n:Int}(h:Fit R D Xs tA M K N y)(hN:N+1000<4611686018427387904)(E:Hs w0 F w (SPl R D Xs tA M K y l)):
  Ca PP Fn.f110 #[ptr K.a,i64 n] w λr w'=>r=i64 (y.close n).2∧GoS w0 F l R tA M K (N+100) (y.close n).1 w':=by
 have hinv:=close_invS h.inv n
 refine S.f110.calls ?_
 unfold S.f110
 refine(openedS_okM (n:=n) h.sp E).mono ?_
 clear E
 rintro r w_ ⟨v,rfl,hr,E⟩
 repeat with_reducible refine Stp.go ?_
 obtain⟨o1,o2,o3⟩:=openedS_ok h.inv n
 unfold Sy.close at hinv ⊢
 simp only[]at hinv ⊢
 generalize y.opened n=L at*
 refine Bi.neq ?_ ?_<;>intro he<;>(repeat with_reducible first|refine Stp.go ?_|refine StpE.go E ?_)
 ·rw[if_pos he]
  exact⟨rfl,(h.mono (by omega)).same E⟩
 rw[if_neg (λh=>h he)]at hinv ⊢
 have hr:=hr he
 refine Dl.by E u_sopen k_int rfl ?_
 clear E
 intro w_ E
 have e1:adel (ovM K.ov) (i64 n)=ovM (delL K.ov n):=adel_enc (ev:=id) (keyI .i64) K.ov n
 rw[e1]at E
 have hr0:∀{w1:World} {Xs:List PT} {D:List Row},Hs w0 F w1 (SPl R D Xs tA M {K with ov:=delL K.ov n} {y with sp:={y.sp with op:=delL y.sp.op n}} l)→RdS w0 F (SPl R D Xs tA M {K with ov:=delL K.ov n} {y with sp:={y.sp with op:=delL y.sp.op n}} l) 2 L.1.length v (hcs tA L.1):=
  λE=>hr.read (hcs_len _) (by omega) E (by simp)
 replace E:Hs w0 F w_ (SPl R D Xs tA M {K with ov:=delL K.ov n} {y with sp:={y.sp with op:=delL y.sp.op n}} l):=E
 refine(hr0 E).len ?_
 refine⟨λl1 w1=>∃(i:Nat) (D':List Row) (Xs':List PT) (Ts':List Tr) (f:Int),l1=[i64 f,i64 i]∧i≤L.1.length∧Wo D' tA Xs' Ts'∧TsI (N+3*i) Ts'∧Ts'.length=y.Ts.length∧closeW y.Ts L.1 0=closeW Ts' (L.1.drop i) f∧Hs w0 F w1 (SPl R D' Xs' tA M {K with ov:=delL K.ov n} {y with sp:={y.sp with op:=delL y.sp.op n}} l),λl1 _=>match l1 with|[_,.int _ i]=>L.1.length-i.toNat|_=>0,
  ⟨0,D,Xs,y.Ts,0,rfl,Nat.zero_le _,h.wo,h.inv.t.mono (by omega),rfl,rfl,E⟩,?_⟩
 clear E
 rintro t7 t27 u w1 ⟨i,D2,Xs2,Ts',f,e,hi,hW,hI,hTl,hcw,E⟩
 cases e
 refine Bi.lss ?_ ?_<;>intro hlt
 ·refine Cnd.t ?_
  have hi1:i<L.1.length:=by omega
  intro J19 hJ19
  have hrd:=hr0 E
  refine hrd.ix (by omega) (by omega) (by omega) ?_
  intro a ha
  rw[Int.toNat_natCast,hcs_drop,List.drop_eq_getElem_cons hi1]at ha
  refine ha.lda E (m:=2) (ds:=[iT (adW tA L.1[i].1),i64 L.1[i].2]) rfl rfl (by omega) ?_
  have hk1:=o3 _ (List.getElem_mem hi1)
  have hdr:L.1.drop i=L.1[i]::L.1.drop (i+1):=List.drop_eq_getElem_cons hi1
  generalize L.1[i]=o at*
  obtain⟨k1,h1⟩:=o
  repeat with_reducible first|refine Stp.go ?_|refine StpE.go E ?_|(refine StpW.go E ?_;clear E;intro w_ E)|(refine StpA.go E ?_;clear E;intro b_ w_ hb_ E)
  (revert b_;intro z hbz E)
  skip
  have hk1:k1<Ts'.length:=by rw[hTl];exact hk1
  have hT:=hI _ (trW_mem hk1)
  refine(Wo.chg (Q:=λr=>r=i64 ((trW Ts' k1).close h1).2) (T':=((trW Ts' k1).close h1).1) (args:=λz=>#[ptr z,i64 h1]) hW hk1 E λX β l0 hb E=>Close_ok hb hT.1 (by omega) hT.2 E).mono ?_
  clear E
  rintro r w_ ⟨rfl,D3,Xs3,hW3,E⟩
  replace E:=(E.bIx 2).tl
  (replace E:=((((((((E.bIx 1).bIx 1).bIx 7).bIx 7).bIx 7).bIx 7).bIx 7).bIx 7))
  have hcw2:closeW y.Ts L.1 0=closeW (Ts'.set k1 ((trW Ts' k1).close h1).1) (L.1.drop (i+1)) (if f=0 then((trW Ts' k1).close h1).2 else f):=by
   rw[hcw,hdr];rfl
  have fin:∀g:Int,g=(if f=0 then((trW Ts' k1).close h1).2 else f)→J19 [i64 g] w_:=by
   intro g hg
   refine hJ19 _ w_ λu=>?_
   refine Bi.add (by omega) ?_
   exact⟨⟨i+1,D3,Xs3,_,g,by simp,by omega,hW3,(hI.set (close_inv hT.1 _) (close_lim hT.2 _)).mono (by omega),by rw[List.length_set];exact hTl,by rw[hcw2,hg],E⟩,by simp only[];omega⟩
  refine Bi.eql ?_ ?_<;>intro hf
  ·refine Cnd.t ?_
   exact fin _ (by rw[if_pos hf])
  ·refine Cnd.f ?_
   exact fin _ (by rw[if_neg hf])
 ·refine Cnd.f ?_
  have hie:i=L.1.length:=by omega
  rw[hie,List.drop_length]at hcw
  rw[hcw]at hinv ⊢
  exact⟨rfl,R,D2,Xs2,M,{K with ov:=delL K.ov n},rfl,rfl,rfl,λ_ h=>h,⟨h.tb,h.sp.del h.inv.sp.nd,hW,hinv⟩,E⟩
set_option maxRecDepth 100000
set_option linter.unusedVariables false
set_option linter.unusedSimpArgs false
variable {w0 w:World} {F:Nat→Prop} {l r1 r2 r3:List As}
variable {R:List RowS} {D:List Row} {Xs:List PT} {tA:List Nat} {M:TbM} {K:SpM} {N:Int} {y:Sy}
theorem IndexB_ok{v:Value}{bs:List Bool}{b:Bool}(hn:bs.length≤100000)(h:RdS w0 F l 1 bs.length v (bcs bs))(E:Hs w0 F w l):
  Ca PP Fn.f59 #[v,.bool b] w λr w'=>r=i64 (if b∈bs then(bs.idxOf b:Int)else -1)∧Hs w0 F w' l:=by
 refine S.f59.calls ?_
 unfold S.f59
 refine h.len ?_
 refine⟨λl1 w1=>∃i:Nat,l1=[i64 i]∧i≤bs.length∧b∉bs.take i∧Hs w0 F w1 l,λl1 _=>match l1 with|[.int _ i]=>bs.length-i.toNat|_=>0,⟨0,rfl,Nat.zero_le _,by simp,E⟩,?_⟩
 clear E
 rintro t u1 w1 ⟨i,e,hi,hx,E⟩
 cases e
 refine Bi.lss ?_ ?_<;>intro hlt
 ·refine Cnd.t ?_
  have hi1:i<bs.length:=by omega
  refine h.ix (by omega) (by omega) (by omega) ?_
  intro a ha
  rw[Int.toNat_natCast,Nat.mul_one]at ha
  refine ha.ld E (x:=.bool bs[i]) (by rw[List.getElem?_drop,Nat.add_zero,List.getElem?_map,List.getElem?_eq_getElem hi1];rfl) ?_
  refine Beq.mk ?_
  have htk:bs.take (i+1)=bs.take i++[bs[i]]:=by rw[List.take_add_one,List.getElem?_eq_getElem hi1];rfl
  by_cases hp:b=bs[i]
  ·rw[show(if false=true then !(b == bs[i])else b == bs[i])=true by simp[hp]]
   refine Cnd.t ?_
   refine⟨?_,E⟩
   have hm:b∈bs:=by rw[hp];exact List.getElem_mem hi1
   rw[if_pos hm]
   have e:bs=bs.take i++bs.drop i:=(List.take_append_drop i bs).symm
   have e2:bs.idxOf b=i:=by
    rw[e,List.idxOf_append,if_neg hx,List.drop_eq_getElem_cons hi1,← hp,List.idxOf_cons_self,List.length_take]
    omega
   rw[e2]
  ·rw[show(if false=true then !(b == bs[i])else b == bs[i])=false by simp[hp]]
   refine Cnd.f ?_
   refine Bi.add (by omega) ?_
   refine⟨⟨i+1,by simp,by omega,?_,E⟩,by simp only[];omega⟩
   rw[htk,List.mem_append,not_or]
   exact⟨hx,by simpa using hp⟩
 ·refine Cnd.f ?_
  have:bs.take i=bs:=List.take_of_length_le (by omega)
  rw[this]at hx
  rw[if_neg hx]
  exact⟨rfl,E⟩

theorem nth_rd{v:Value}{L:List Pl}{i:Nat}(hi:i<L.length)(h:RdS w0 F l 2 L.length v (pcs L)){k:Value→Prop}(hk:∀a,RdP w0 F l a ((L.getD i p0).cs++pcs (L.drop (i+1)))→k (.pointer (some a))):IxA 2 v (i64 (i:Int)) k:=by
 refine h.ix (by omega) (by omega) (by omega) ?_
 intro a ha
 rw[Int.toNat_natCast,pcs_drop,List.drop_eq_getElem_cons hi]at ha
 have e0:L[i]=L.getD i p0:=by rw[List.getD_eq_getElem?_getD,List.getElem?_eq_getElem hi];rfl
 rw[e0]at ha
 exact hk a ha
theorem Create_okM{path:BA}{perm mode:Int}(h:Fit R D Xs tA M K N y)(h0:0≤N)(hN:N+1000<4611686018427387904)(hp:path.size≤1000000)(E:Hs w0 F w (SPl R D Xs tA M K y l)):
  Ca PP Fn.f94 #[ptr K.a,str path,i64 perm,i64 mode] w λr w'=>r=.tuple #[i64 (y.create path perm mode).2.1,i64 (y.create path perm mode).2.2]∧GoS w0 F l R tA M K (N+100) (y.create path perm mode).1 w':=by
 have hinv:=(create_invS h.inv h0 path perm mode).mono (show N+3≤N+100 by omega)
 have same:=(h.mono (show N≤N+100 by omega))
 refine S.f94.calls ?_
 unfold S.f94
 refine(elements_ok (K:=K) (y:=y) h.inv.sp.dir hp E).mono ?_
 clear E
 rintro r w_ ⟨v,rfl,E⟩
 unfold Sy.create at hinv ⊢
 simp only[]at hinv ⊢
 obtain⟨e1,e2⟩:=elems_small (y:=y) (path:=path)
 generalize y.elems path=L at*
 repeat with_reducible refine Stp.go ?_
 refine Bi.neq ?_ ?_<;>intro he<;>(repeat with_reducible refine Stp.go ?_)
 ·rw[if_pos he]
  exact⟨rfl,same.same E.tl⟩
 rw[if_neg (λh=>h he)]at hinv ⊢
 have hrd0:RdS w0 F [slA v Ty.t1 1 (L.1.map str)] 1 L.1.length v (L.1.map str):=by
  have:=RdS.sl (v:=v) (T:=Ty.t1) (sz:=1) (xs:=L.1.map str) (l:=[slA v Ty.t1 1 (L.1.map str)]) (by simp) (by omega) (E.drop (List.singleton_sublist.2 (by simp)))
  rwa [Nat.div_one,List.length_map]at this
 refine(walk_okM (hrd0.weaken λ_ E=>E.drop (List.singleton_sublist.2 (by simp))) e1 e2 (h.ctx0.cons _) E).mono ?_
 clear E
 rintro r w_ ⟨rfl,E⟩
 have hW1:L.1=[]→(y.walk L.1).2=0:=λh1=>by rw[h1];rfl
 generalize y.walk L.1=W1 at*
 repeat with_reducible first|refine Stp.go ?_|(refine StpW.go E ?_;clear E;intro w_ E)|(refine StpA.go E ?_;clear E;intro b_ w_ hb_ E)
 (revert b_;intro q1 hbq1 E)
 skip
 refine Bi.eql ?_ ?_<;>intro hw1<;>(repeat with_reducible first|refine Stp.go ?_|refine StpE.go E ?_)
 ·rw[if_pos hw1]
  exact⟨rfl,same.same E.tl.tl⟩
 rw[if_neg hw1]at hinv ⊢
 have hLne:L.1≠[]:=λh1=>hw1 (hW1 h1)
 have hpos:0<L.1.length:=List.length_pos_iff.2 hLne
 rw[show(L.1.map str).length=L.1.length from List.length_map _]
 refine Bi.sub (by omega) ?_
 obtain⟨m,hm⟩:∃m,L.1.length=m+1:=⟨L.1.length-1,by omega⟩
 rw[show((L.1.length:Int)-1)=(m:Int) by omega]
 refine RdS.preS hrd0 (m:=m) (by omega) ?_
 intro v2 hv2
 rw[Nat.mul_one,← List.map_take]at hv2
 have hdl:L.1.take m=L.1.dropLast:=by rw[List.dropLast_eq_take,hm];rfl
 rw[hdl]at hv2
 have hdlen:L.1.dropLast.length=m:=by rw[List.length_dropLast,hm];rfl
 have hv2:RdS w0 F [slA v Ty.t1 1 (L.1.map str)] 1 L.1.dropLast.length v2 (L.1.dropLast.map str):=by rw[hdlen];exact hv2
 refine(walk_okM (hv2.weaken λ_ E=>E.drop (List.singleton_sublist.2 (by simp))) (λx hx=>e1 x ((List.dropLast_sublist _).subset hx)) (by omega) ((h.ctx0.cons _).cons _) E).mono ?_
 clear E
 rintro r w_ ⟨rfl,E⟩
 have hpt:(y.walk L.1.dropLast).1.t<y.tb.ts.length:=walkW_ok h.inv.tb h.inv.tb.pos
 generalize y.walk L.1.dropLast=W2 at*
 repeat with_reducible first|refine Stp.go ?_|(refine StpW.go E ?_;clear E;intro w_ E)|(refine StpA.go E ?_;clear E;intro b_ w_ hb_ E)
 (revert b_;intro q2 hbq2 E)
 skip
 refine Bi.neq ?_ ?_<;>intro hw2<;>(repeat with_reducible first|refine Stp.go ?_|refine StpE.go E ?_|(refine StpW.go E ?_;clear E;intro w_ E))
 ·rw[if_pos hw2]
  exact⟨rfl,same.same E.tl.tl.tl⟩
 rw[if_neg (λh=>h hw2)]at hinv ⊢
 obtain⟨s1,s2,s3,s4⟩:=stand_ok h.inv.tb hpt
 refine(stand_okK (M:=M) (p:=W2.1) (by simp) h.tb (by simp) h.inv.tb E).mono ?_
 clear E
 rintro r w_ ⟨pv,bv,kk,rfl,E,gg⟩
 replace E:=Hs.star E
 obtain⟨g1,g2⟩:=gg [Sh.star kk,PoolS R] λw E=>E.unstar
 clear gg
 generalize Sh.star kk=A at*
 generalize standM y.tb.ms W2.1=S at*
 repeat with_reducible refine Stp.go ?_
 refine(IndexB_ok (by omega) (g2.weaken λ_ E=>E.drop (by repeat(first|exact List.nil_sublist _|with_reducible apply List.Sublist.cons_cons|apply List.Sublist.cons))) E).mono ?_
 clear E
 rintro r w_ ⟨rfl,E⟩
 by_cases hin:true∈S.2
 ·rw[if_pos hin]
  rw[if_neg (λh=>h hin)]at hinv ⊢
  have hik:S.2.idxOf true<S.1.length:=by rw[← s3];exact List.idxOf_lt_length_of_mem hin
  generalize S.2.idxOf true=i at*
  refine Bi.lss (λh=>absurd h (by omega)) (λ_=>Cnd.f ?_)
  repeat with_reducible first|refine Stp.go ?_|refine StpE.go E ?_
  refine Len.map E FMp.mem u_sopen ?_
  rw[encM_length]
  have hkl:K.ov.length=y.sp.op.length:=by
   have:=congrArg List.length h.sp.keys
   simpa using this
  rw[hkl]
  refine Bi.geq ?_ ?_<;>intro h64<;>(repeat with_reducible first|refine Stp.go ?_|refine StpE.go E ?_|(refine StpW.go E ?_;clear E;intro w_ E))
  ·rw[if_pos (by omega)]
   exact⟨rfl,same.same E.tl.tl.tl.tl⟩
  rw[if_neg (by omega)]at hinv ⊢
  refine nth_rd hik g1 ?_
  intro a1 ha1
  have hqt:=s4 _ (getD_mem hik p0)
  generalize hQ:S.1.getD i p0=Q at*
  refine ha1.fa (by simp[Pl.cs]) ?_
  intro a2 ha2
  refine(ha2.weaken λ_ E=>E.drop (by repeat(first|exact List.nil_sublist _|with_reducible apply List.Sublist.cons_cons|apply List.Sublist.cons))).ld E (x:=i64 (Q.t:Int)) rfl ?_
  have C1:=((((h.ctx0 (l:=l)).cons (slA v Ty.t1 1 (L.1.map str))).cons (pt q1 (oc W1.1.cs Ty.t0))).cons (pt q2 (oc W2.1.cs Ty.t0))).cons A
  refine C1.treeP E hqt ?_
  intro a4 ha4 hx4
  refine ha4.ld E hx4 ?_
  repeat with_reducible first|refine Stp.go ?_|refine StpE.go E ?_|(refine StpW.go E ?_;clear E;intro w_ E)
  refine nth_rd hik g1 ?_
  intro a5 ha5
  rw[show S.1.getD i p0=Q from hQ]at ha5
  refine ha5.fa (by simp[Pl.cs]) ?_
  intro a6 ha6
  refine(ha6.weaken λ_ E=>E.drop (by repeat(first|exact List.nil_sublist _|with_reducible apply List.Sublist.cons_cons|apply List.Sublist.cons))).ld E (x:=i64 Q.f) rfl ?_
  refine hrd0.ix (by omega) (by rw[Int.toNat_natCast];omega) (by omega) ?_
  intro a7 ha7
  rw[Int.toNat_natCast,Nat.mul_one]at ha7
  have hlast:L.1.getLast?.getD emp=L.1[m]'(by omega):=by
   rw[List.getLast?_eq_getElem?,show L.1.length-1=m by omega,List.getElem?_eq_getElem (by omega)];rfl
  have hns:=e1 _ (List.getElem_mem (show m<L.1.length by omega))
  have hx7:((L.1.map str).drop m)[0]? =some (str (L.1[m]'(by omega))):=by
   rw[List.getElem?_drop,Nat.add_zero,List.getElem?_map,List.getElem?_eq_getElem (by omega)];rfl
  rw[hlast]at hinv ⊢
  generalize L.1[m]'(by omega)=nm at*
  refine(ha7.weaken λ_ E=>E.drop (List.singleton_sublist.2 (by simp))).ld E (x:=str nm) hx7 ?_
  repeat with_reducible refine Stp.go ?_
  have hk:=h.inv.tb.ixLt hqt
  have hT:=h.inv.t _ (trW_mem hk)
  have hus:y.sp.user.size≤9223372036854775807:=by have:=h.inv.sp.user;omega
  have hxi:=create_inv hT.1 y.sp.user Q.f nm perm mode
  have hxl:=create_lim hT.2 h0 y.sp.user Q.f nm perm mode
  have call:∀(l2 r2:List As) w_ (_:FWP l2 Xs D r2),Hs w0 F w_ l2→Ca PP Fn.f35 #[ptr (adW tA (y.tb.ix Q.t)),str y.sp.user,i64 Q.f,str nm,i64 perm,i64 mode] w_ λr w'=>r=.tuple #[i64 ((trW y.Ts (y.tb.ix Q.t)).create y.sp.user Q.f nm perm mode).2.1,((trW y.Ts (y.tb.ix Q.t)).create y.sp.user Q.f nm perm mode).2.2.1.V,i64 ((trW y.Ts (y.tb.ix Q.t)).create y.sp.user Q.f nm perm mode).2.2.2]∧GoesW w0 F r2 tA (y.Ts.set (y.tb.ix Q.t) ((trW y.Ts (y.tb.ix Q.t)).create y.sp.user Q.f nm perm mode).1) w':=
   λl2 r2 w_ _ E=>Wo.chg (args:=λz=>#[ptr z,str y.sp.user,i64 Q.f,str nm,i64 perm,i64 mode]) h.wo hk E λX β l0 hb E=>Create_ok hb hT.1 (by omega) hT.2 hus (by omega) E
  have htr:(y.tr Q.t).create y.sp.user Q.f nm perm mode=(trW y.Ts (y.tb.ix Q.t)).create y.sp.user Q.f nm perm mode:=rfl
  rw[htr]at hinv ⊢
  clear htr
  generalize (trW y.Ts (y.tb.ix Q.t)).create y.sp.user Q.f nm perm mode=x at*
  refine And.intro ?left (And.intro ?right trivial)
  case' left=>
   repeat with_reducible refine Stp.go ?_
   refine(call _ _ _ inferInstance E).mono ?_
   clear E
   rintro r w_ ⟨rfl,D3,Xs3,hW3,E⟩
   repeat with_reducible first|refine Stp.go ?_|(refine StpA.go E ?_;clear E;intro b_ w_ hb_ E)
   (revert b_;intro z hbz E)
   (repeat(with_reducible refine And.intro ?_ ?_;focus ((repeat with_reducible refine StpE.go E ?_);exact rfl)))
   refine And.intro ((ha6.weaken λ_ E=>E.drop (by repeat(first|exact List.nil_sublist _|with_reducible apply List.Sublist.cons_cons|apply List.Sublist.cons))).ld E (x:=i64 Q.f) rfl rfl) ?_
   refine And.intro ((ha7.weaken λ_ E=>E.drop (List.singleton_sublist.2 (by simp))).ld E (x:=str nm) hx7 rfl) ?_
   repeat with_reducible (refine StpW.go E ?_;clear E;intro w_ E)
   (replace E:=(((E.bIx 0).bIx 2).bIx 2))
  case' right=>
   repeat with_reducible (refine StpA.go E ?_;clear E;intro b_ w_ hb_ E)
   (revert b_;intro z hbz E)
   refine And.intro (by (repeat with_reducible refine StpE.go E ?_);exact rfl) ?_
   refine And.intro ((ha6.weaken λ_ E=>E.drop (by repeat(first|exact List.nil_sublist _|with_reducible apply List.Sublist.cons_cons|apply List.Sublist.cons))).ld E (x:=i64 Q.f) rfl rfl) ?_
   refine And.intro ((ha7.weaken λ_ E=>E.drop (List.singleton_sublist.2 (by simp))).ld E (x:=str nm) hx7 rfl) ?_
   repeat with_reducible refine Stp.go ?_
   refine(call _ _ _ inferInstance E).mono ?_
   clear E
   rintro r w_ ⟨rfl,D3,Xs3,hW3,E⟩
   repeat with_reducible first|refine Stp.go ?_|(refine StpW.go E ?_;clear E;intro w_ E)
  all_goals
   replace E:=((((E.bIx 2).tl.bIx 2).tl.bIx 2).tl.bIx 2).tl
   replace E:=(E.bIx 2).tl
   (replace E:=((((((((E.bIx 1).bIx 1).bIx 7).bIx 7).bIx 7).bIx 7).bIx 7).bIx 7))
   have hTl3:(y.Ts.set (y.tb.ix Q.t) x.1).length=y.Ts.length:=List.length_set
   refine Bi.neq ?_ ?_<;>intro hxe<;>(repeat with_reducible first|refine Stp.go ?_|refine StpE.go E ?_)
   ·rw[if_pos hxe]at hinv ⊢
    exact⟨rfl,h.goes hW3 hinv E⟩
   ·rw[if_neg (λh=>h hxe)]at hinv ⊢
    refine BdS.hd E ?_
    clear E
    intro s w_ E
    have h3:Fit R D3 Xs3 tA M K (N+100) (y.setT Q.t x.1):=h.setTs hW3 ((h.inv.t.set hxi hxl).mono (by omega)) hTl3
    refine(add_okM (hs:=[(y.tb.ix Q.t,x.2.1)]) h3 (by show y.sp.op.length<64;omega) (by simp) (by simp) (λz hz=>by rw[List.mem_singleton.1 hz];show _<(y.Ts.set _ _).length;rw[hTl3];exact hk) E).mono ?_
    rintro r w' ⟨rfl,G⟩
    skip
    exact⟨rfl,G⟩
 ·rw[if_neg hin]
  rw[if_pos hin]
  refine Bi.lss (λ_=>Cnd.t ?_) (λh=>absurd h (by decide))
  exact⟨rfl,same.same E.tl.tl.tl.tl⟩
set_option maxRecDepth 100000
set_option linter.unusedVariables false
set_option linter.unusedSimpArgs false
variable {w0 w:World} {F:Nat→Prop} {l r1 r2 r3:List As}
variable {R:List RowS} {D:List Row} {Xs:List PT} {tA:List Nat} {M:TbM} {K:SpM} {N:Int} {y:Sy}
theorem list_len{T:Tr}(hi:Inv T)(hd:Int):(T.list hd).1.length≤1024:=by
 unfold Tr.list
 split
 ·exact Nat.zero_le _
 split
 ·exact Nat.zero_le _
 split
 ·exact Nat.zero_le _
 ·rw[List.length_map];exact kidsS_len hi _
theorem Wo.list{Ts:List Tr}(h:Wo D tA Xs Ts)(hI:TsI N Ts){k:Nat}{hd:Int}(hk:k<Ts.length)[hW:FWP l Xs D r1](E:Hs w0 F w l):
  Ca PP Fn.f120 #[ptr (adW tA k),i64 hd] w λr w'=>∃v,r=.tuple #[v,i64 ((trW Ts k).list hd).2]∧Hs w0 F w' (slA v Ty.t29 10 (dcs ((trW Ts k).list hd).1)::l):=by
 obtain⟨X,β,hX,ht,hb⟩:=h.get hk
 have hx:k<Xs.length:=by rw[h.len];exact hk
 have E1:=Hs.openI (f:=trA) hX (E.perm hW.perm)
 rw[← ht]
 refine(List_ok hb (hI _ (trW_mem hk)).1 (E1.perm ((List.Perm.swap _ _ _).cons _))).mono ?_
 rintro r w' ⟨v,rfl,E2⟩
 refine⟨v,rfl,?_⟩
 have E3:Hs w0 F w' (trA X::Sh.star ((Xs.eraseIdx k).map trA)::slA v Ty.t29 10 (dcs ((trW Ts k).list hd).1)::Pool D::r1):=((E2.bIx 3).bIx 2)
 have E4:=Hs.closeI (f:=trA) X hx E3
 have e:Xs.set k X=Xs:=by
  refine List.ext_getElem? λj=>?_
  by_cases hj:k=j
  ·subst hj;rw[List.getElem?_set_self hx,hX]
  ·rw[List.getElem?_set_ne hj]
 rw[e]at E4
 exact(E4.bIx 1).perm (hW.perm.symm.cons _)
theorem u_msb:PP.underlying Ty.map_string_bool=some (.map Ty.t1 Ty.bool):=by kernel_rfl
theorem k_str0:KT.str.fits PP Ty.t1=true:=by kernel_rfl
theorem z_bool0:zeroK PP Ty.bool=some (.bool false):=by kernel_rfl
def seenL(out:List Dr):List (BA×Bool):=out.map λd=>(d.name,true)
abbrev seenM(out:List Dr):AL:=encM Value.string Value.bool (seenL out)
theorem seen_get(out:List Dr)(s:BA):((getL (seenL out) s).map Value.bool).getD (.bool false)=.bool (out.any λx=>decide (x.name=s)):=by
 unfold seenL getL
 induction out with
 |nil=>rfl
 |cons d r ih=>
  rw[List.map_cons,List.find?_cons,List.any_cons]
  by_cases h:s=d.name
  ·subst h
   simp
  ·rw[show decide (s=(d.name,true).1)=false by simpa using h,show decide (d.name=s)=false by simpa using λe=>h e.symm]
   simpa using ih
theorem seen_put{out:List Dr}{d:Dr}(h:(out.any λx=>decide (x.name=d.name))=false):putL (seenL out) d.name true=seenL (out++[d]):=by
 rw[putL_new]
 ·unfold seenL
  rw[List.map_append]
  rfl
 ·unfold seenL
  rw[List.map_map]
  intro hm
  obtain⟨x,hx,he⟩:=List.mem_map.1 hm
  rw[List.any_eq_false]at h
  exact h x hx (by simpa using he)
theorem addD_len(out:List Dr)(d:Dr):(addD out d).length≤out.length+1:=by
 unfold addD
 split
 ·omega
 ·simp
theorem addsD_len:∀(ds out:List Dr),(ds.foldl addD out).length≤out.length+ds.length
 |[],out=>Nat.le_refl _
 |d::r,out=>by
  rw[List.foldl_cons,List.length_cons]
  have h1:=addsD_len r (addD out d)
  have h2:=addD_len out d
  omega
theorem List_okM{n:Int}(h:Fit R D Xs tA M K N y)(E:Hs w0 F w (SPl R D Xs tA M K y l)):
  Ca PP Fn.f114 #[ptr K.a,i64 n] w λr w'=>∃v,r=.tuple #[v,i64 (y.list n).2]∧Hs w0 F w' (slA v Ty.t29 10 (dcs (y.list n).1)::SPl R D Xs tA M K y l):=by
 refine S.f114.calls ?_
 unfold S.f114
 refine(openedS_okM (n:=n) h.sp E).mono ?_
 clear E
 rintro r w_ ⟨hv,rfl,hr,E⟩
 repeat with_reducible refine Stp.go ?_
 obtain⟨o1,o2,o3⟩:=openedS_ok h.inv n
 unfold Sy.list
 simp only[]
 generalize y.opened n=L at*
 refine Bi.neq ?_ ?_<;>intro he<;>(repeat with_reducible refine Stp.go ?_)
 ·rw[if_pos he]
  exact⟨_,rfl,Hs.nilSl E _ _⟩
 rw[if_neg (λh=>h he)]
 have hr0:RdS w0 F [PoolS R] 2 L.1.length hv (hcs tA L.1):=(hr he).read (hcs_len _) (by omega) (E.drop (List.singleton_sublist.2 (by simp))) (by simp)
 refine MkM.pt (kt:=.str) E ?_
 clear E
 intro mm w_ hmm_ E
 refine hr0.len ?_
 refine⟨λl1 w1=>∃(i:Nat) (out:List Dr) (ov:Value),l1=[ov,i64 i]∧i≤L.1.length∧out.length≤1024*i∧listW y.Ts L.1 []=listW y.Ts (L.1.drop i) out∧Hs w0 F w1 (slA ov Ty.t29 10 (dcs out)::mp mm .str (seenM out)::SPl R D Xs tA M K y l),λl1 _=>match l1 with|[_,.int _ i]=>L.1.length-i.toNat|_=>0,
  ⟨0,[],.slice none 0 0,rfl,Nat.zero_le _,Nat.le_refl _,rfl,Hs.nilSl E _ _⟩,?_⟩
 clear E
 rintro ov t28 u w1 ⟨i,out,ov',e,hi,hol,hlw,E⟩
 cases e
 refine Bi.lss ?_ ?_<;>intro hlt
 ·refine Cnd.t ?_
  have hi1:i<L.1.length:=by omega
  refine hr0.ix (by omega) (by omega) (by omega) ?_
  intro a ha
  rw[Int.toNat_natCast,hcs_drop,List.drop_eq_getElem_cons hi1]at ha
  refine(ha.weaken λ_ E=>E.drop (List.singleton_sublist.2 (by simp))).lda E (m:=2) (ds:=[iT (adW tA L.1[i].1),i64 L.1[i].2]) rfl rfl (by omega) ?_
  have hk1:=o3 _ (List.getElem_mem hi1)
  have hdr:L.1.drop i=L.1[i]::L.1.drop (i+1):=List.drop_eq_getElem_cons hi1
  generalize L.1[i]=o at*
  obtain⟨k1,h1⟩:=o
  repeat with_reducible first|refine Stp.go ?_|refine StpE.go E ?_|(refine StpW.go E ?_;clear E;intro w_ E)|(refine StpA.go E ?_;clear E;intro b_ w_ hb_ E)
  (revert b_;intro z hbz E)
  skip
  refine(Wo.list h.wo h.inv.t hk1 E).mono ?_
  clear E
  rintro r w_ ⟨dv,rfl,E⟩
  have hll:=list_len (h.inv.t _ (trW_mem hk1)).1 h1
  have hlw2:listW y.Ts L.1 []=if((trW y.Ts k1).list h1).2≠0 then([],((trW y.Ts k1).list h1).2)else listW y.Ts (L.1.drop (i+1)) (((trW y.Ts k1).list h1).1.foldl addD out):=by rw[hlw,hdr];rfl
  generalize (trW y.Ts k1).list h1=X at*
  repeat with_reducible refine Stp.go ?_
  refine Bi.neq ?_ ?_<;>intro hxe<;>(repeat with_reducible refine Stp.go ?_)
  ·rw[if_pos hxe]at hlw2
   rw[hlw2]
   replace E:=E.tl.tl.tl.tl
   exact⟨_,rfl,Hs.nilSl E _ _⟩
  rw[if_neg (λh=>h hxe)]at hlw2
  replace E:=(E.bIx 1).tl
  have hds:∀(ov:Value) (o2:List Dr) w1,Hs w0 F w1 (slA dv Ty.t29 10 (dcs X.1)::slA ov Ty.t29 10 (dcs o2)::mp mm .str (seenM o2)::SPl R D Xs tA M K y l)→RdS w0 F (slA dv Ty.t29 10 (dcs X.1)::slA ov Ty.t29 10 (dcs o2)::mp mm .str (seenM o2)::SPl R D Xs tA M K y l) 10 X.1.length dv (dcs X.1):=λov o2 w1 E=>by
   have:=RdS.sl (v:=dv) (T:=Ty.t29) (sz:=10) (xs:=dcs X.1) List.mem_cons_self (by omega) E
   rwa [dcs_len,Nat.mul_div_cancel _ (by omega)]at this
  refine(hds _ _ _ E).len ?_
  refine⟨λl1 w1=>∃(j:Nat) (ov:Value),l1=[ov,i64 j]∧j≤X.1.length∧Hs w0 F w1 (slA dv Ty.t29 10 (dcs X.1)::slA ov Ty.t29 10 (dcs ((X.1.take j).foldl addD out))::mp mm .str (seenM ((X.1.take j).foldl addD out))::SPl R D Xs tA M K y l),λl1 _=>match l1 with|[_,.int _ j]=>X.1.length-j.toNat|_=>0,
   ⟨0,ov,rfl,Nat.zero_le _,E⟩,?_⟩
  clear E
  rintro ov2 t45 u w2 ⟨j,ov2',e,hj,E⟩
  cases e
  refine Bi.lss ?_ ?_<;>intro hlt2
  ·refine Cnd.t ?_
   have hj1:j<X.1.length:=by omega
   intro J38 hJ38
   have htk:(X.1.take (j+1)).foldl addD out=addD ((X.1.take j).foldl addD out) X.1[j]:=by
    rw[List.take_add_one,List.getElem?_eq_getElem hj1,List.foldl_append,Option.toList_some,List.foldl_cons,List.foldl_nil]
   have hO:((X.1.take j).foldl addD out).length≤1024*(i+1):=by
    have:=addsD_len (X.1.take j) out
    rw[List.length_take]at this
    omega
   have hrd:=hds _ _ _ E
   generalize hOe:(X.1.take j).foldl addD out=O at*
   refine hrd.ix (by omega) (by omega) (by omega) ?_
   intro a ha
   rw[Int.toNat_natCast,dcs_drop,List.drop_eq_getElem_cons hj1]at ha
   refine ha.lda E (m:=10) (ds:=X.1[j].cs) rfl rfl (by omega) ?_
   generalize X.1[j]=d at*
   repeat with_reducible first|refine Stp.go ?_|refine StpE.go E ?_|(refine StpW.go E ?_;clear E;intro w_ E)|(refine StpA.go E ?_;clear E;intro b_ w_ hb_ E)
   (revert b_;intro q hbq E)
   (first|(refine StA.all E rfl rfl (by first|exact rfl|assumption) ?_;clear E;intro w_ E)|try (refine StA.by E rfl (by first|exact rfl|assumption) ?_;clear E;intro w_ E))
   skip
   refine Lk.one E FMp.mem u_msb k_str0 z_bool0 rfl ?_
   rw[aget_enc keyS,seen_get]
   have fin:∀(v:Value) w_,Hs w0 F w_ (slA dv Ty.t29 10 (dcs X.1)::slA v Ty.t29 10 (dcs (addD O d))::mp mm .str (seenM (addD O d))::SPl R D Xs tA M K y l)→J38 [v] w_:=by
    intro v w_ E
    refine hJ38 _ w_ λu=>?_
    refine Bi.add (by omega) ?_
    exact⟨⟨j+1,v,by simp,by omega,by rw[htk];exact E⟩,by simp only[];omega⟩
   clear hJ38
   cases hb:O.any λx=>decide (x.name=d.name)with
   |true=>
    repeat with_reducible refine Stp.go ?_
    refine fin ov2 _ ?_
    rw[show addD O d=O by unfold addD;rw[if_pos hb]]
    exact E.tl
   |false=>
    repeat with_reducible first|refine Stp.go ?_|refine StpE.go E ?_
    refine Mu.by E u_msb k_str0 rfl ?_
    clear E
    intro w_ E
    have e1:aput (seenM O) (str d.name) (.bool true)=seenM (O++[d]):=by
     show aput (encM Value.string Value.bool (seenL O)) _ _=_
     rw[aput_enc keyS,seen_put hb]
    rw[e1]at E
    repeat with_reducible refine StpE.go E ?_
    refine BdS.dir E ?_
    clear E
    intro s w_ E
    refine Ap.el E (i:=3) rfl u_sl_Dir ⟨_,u_sl_Dir,λ_ h=>by cases h⟩ e_Dir (by omega) (Src.slice (E.sat _ List.mem_cons_self) (n:=1) rfl (by omega) (dr_scal d)) rfl (by rw[dcs_len,Nat.mul_div_cancel _ (by omega)];omega) (by rw[dcs_len,Nat.mul_div_cancel _ (by omega)];omega) ?_
    clear E
    intro s2 w_ E
    simp only[List.set_cons_zero,List.set_cons_succ]at E
    rw[← dcs_app]at E
    refine fin s2 _ ?_
    rw[show addD O d=O++[d] by unfold addD;rw[hb];rfl]
    exact E.tl.tl
  ·refine Cnd.f ?_
   have hje:j=X.1.length:=by omega
   rw[hje,List.take_length]at E
   refine Bi.add (by omega) ?_
   exact⟨⟨i+1,_,ov2,by simp,by omega,by have:=addsD_len X.1 out;omega,hlw2,E.tl⟩,by simp only[];omega⟩
 ·refine Cnd.f ?_
  have hie:i=L.1.length:=by omega
  rw[hie,List.drop_length]at hlw
  rw[hlw]
  exact⟨ov,rfl,(E.bIx 1).tl⟩
set_option maxRecDepth 100000
set_option linter.unusedVariables false
set_option linter.unusedSimpArgs false
variable {w0 w:World} {F:Nat→Prop} {l r1 r2 r3:List As}
variable {R:List RowS} {D:List Row} {Xs:List PT} {tA:List Nat} {M:TbM} {K:SpM} {N:Int} {y:Sy}

structure TbV(R:List RowS)(vs:List (Value×Value))(ms:List Mt):Prop where
 len:vs.length=ms.length
 row:∀(i:Nat) m v,ms[i]? =some m→vs[i]? =some v→RdyS R Ty.t0 2 v.1 (pcs m.new)∧RdyS R Ty.bool 1 v.2 (bcs m.cr)
theorem TbV.mono{R':List RowS}{vs:List (Value×Value)}{ms:List Mt}(h:TbV R vs ms)(hs:∀x∈R,x∈R'):TbV R' vs ms:=⟨h.len,λi m v h1 h2=>⟨(h.row i m v h1 h2).1.mono hs,(h.row i m v h1 h2).2.mono hs⟩⟩
theorem copied_okM(h:Fit R D Xs tA M K N y)(E:Hs w0 F w (SPl R D Xs tA M K y l)):
  Ca PP Fn.f64 #[ptr M.a] w λr w'=>∃R' vs,(∀x∈R,x∈R')∧TbV R' vs y.tb.ms∧Hs w0 F w' (slA r Ty.t8 4 (mcs y.tb.ms vs)::SPl R' D Xs tA M K y l):=by
 refine S.f64.calls ?_
 unfold S.f64
 repeat with_reducible first|refine Stp.go ?_|refine StpE.go E ?_
 have hms:=h.inv.tb.ms
 have hrd0:∀{R':List RowS} {l2:List As} {w1:World},Hs w0 F w1 l2→slA M.mv Ty.t8 4 (mcs y.tb.ms M.vs)∈l2→RdS w0 F l2 4 y.tb.ms.length M.mv (mcs y.tb.ms M.vs):=λE hm=>by
  have:=RdS.sl hm (by omega) E
  rwa [mcs_len h.tb.len,Nat.mul_div_cancel _ (by omega)]at this
 refine(hrd0 (R':=R) E (by simp)).len ?_
 refine⟨λl1 w1=>∃(i:Nat) (ov:Value) (R':List RowS) (vs:List (Value×Value)),l1=[ov,i64 i]∧i≤y.tb.ms.length∧(∀x∈R,x∈R')∧TbV R' vs (y.tb.ms.take i)∧Hs w0 F w1 (slA ov Ty.t8 4 (mcs (y.tb.ms.take i) vs)::SPl R' D Xs tA M K y l),λl1 _=>match l1 with|[_,.int _ i]=>y.tb.ms.length-i.toNat|_=>0,
  ⟨0,.slice none 0 0,R,[],rfl,Nat.zero_le _,λ_ h=>h,⟨rfl,λi m v h=>by simp at h⟩,Hs.nilSl E _ _⟩,?_⟩
 clear E
 rintro ov t11 u w1 ⟨i,ov',R',vs,e,hi,hR,hV,E⟩
 cases e
 refine Bi.lss ?_ ?_<;>intro hlt
 ·refine Cnd.t ?_
  have hi1:i<y.tb.ms.length:=by omega
  have g1:y.tb.ms[i]? =some y.tb.ms[i]:=List.getElem?_eq_getElem hi1
  have g2:M.vs[i]? =some (M.vs[i]'(by rw[h.tb.len];exact hi1)):=List.getElem?_eq_getElem (by rw[h.tb.len];exact hi1)
  have hd:=mcs_at g1 g2
  obtain⟨y1,y2⟩:=h.tb.row _ _ _ g1 g2
  have hmi:=h.inv.tb.m _ (List.getElem_mem hi1)
  have hvl:vs.length=i:=by rw[hV.len,List.length_take];omega
  have htk:y.tb.ms.take (i+1)=y.tb.ms.take i++[y.tb.ms[i]]:=by rw[List.take_add_one,g1];rfl
  refine(hrd0 (R':=R') E (by simp)).ix (by omega) (by omega) (by omega) ?_
  intro a ha
  rw[Int.toNat_natCast,hd]at ha
  refine ha.lda E (m:=4) (ds:=y.tb.ms[i].C (M.vs[i]'(by rw[h.tb.len];exact hi1))) rfl rfl (by omega) ?_
  generalize y.tb.ms[i]=m at*
  generalize M.vs[i]'(by rw[h.tb.len];exact hi1)=v at*
  have s1:Scal v.1:=⟨RdyS.scal (n:=m.new.length) (y1.mono hR) (pcs_len _) (by omega) (by simp) E⟩
  have s2:Scal v.2:=⟨RdyS.scal (n:=m.cr.length) (y2.mono hR) (by simp) (by omega) (by simp) E⟩
  repeat with_reducible first|refine Stp.go ?_|refine StpE.go E ?_|(refine StpW.go E ?_;clear E;intro w_ E)|(refine StpA.go E ?_;clear E;intro b_ w_ hb_ E)
  (revert b_;intro z hbz E)
  (first|(refine StA.all E rfl rfl (by first|exact rfl|assumption) ?_;clear E;intro w_ E)|try (refine StA.by E rfl (by first|exact rfl|assumption) ?_;clear E;intro w_ E))
  skip
  have k1:=(y1.mono hR).read (n:=m.new.length) (pcs_len _) (by omega) E (by simp)
  have k2:=(y2.mono hR).read (n:=m.cr.length) (by simp) (by omega) E (by simp)
  refine(CloneP_ok k1 (by have:=hmi.few;omega) E).mono ?_
  clear E
  intro c1 w_ E
  (repeat(with_reducible refine And.intro ?_ ?_;focus ((repeat with_reducible refine StpE.go E ?_);exact rfl)))
  refine(CloneB_ok (k2.cons _) (by have:=hmi.few;have:=hmi.cr;omega) E).mono ?_
  clear E
  intro c2 w_ E
  have ic1:Scal c1:=⟨Hs.slScal E FSl.mem⟩
  have ic2:Scal c2:=⟨Hs.slScal E FSl.mem⟩
  (repeat(with_reducible refine And.intro ?_ ?_;focus ((repeat with_reducible refine StpE.go E ?_);exact rfl)))
  repeat with_reducible refine StpE.go E ?_
  refine BdS.mt (m:=m) (v:=(c1,c2)) E ?_
  clear E
  intro s w_ E
  refine Ap.el E (i:=4) rfl u_sl_Mount ⟨_,u_sl_Mount,λ_ h=>by cases h⟩ e_Mount (by omega) (Src.slice (E.sat _ List.mem_cons_self) (n:=1) rfl (by omega) (by simp only[List.all_cons,List.all_nil,ic1.s,ic2.s,Bool.and_true];rfl)) rfl (by rw[mcs_len hV.len,Nat.mul_div_cancel _ (by omega),List.length_take];omega) (by rw[mcs_len hV.len,Nat.mul_div_cancel _ (by omega),List.length_take];omega) ?_
  clear E
  intro s2 w_ E
  simp only[List.set_cons_zero,List.set_cons_succ]at E
  replace E:=E.tl
  rw[← mcs_app hV.len]at E
  replace E:=Hs.poolS Ty.t0 ((E.bIx 9).bIx 2)
  replace E:=Hs.poolS Ty.bool (E.bIx 1)
  replace E:=(E.bIx 1).tl
  (replace E:=(((((((((E.bIx 8).bIx 8).bIx 2).bIx 8).bIx 8).bIx 8).bIx 8).bIx 8).bIx 8))
  have hR2:∀x∈R',x∈(⟨c2,Ty.bool,1,bcs m.cr⟩:RowS)::⟨c1,Ty.t0,2,pcs m.new⟩::R':=λx hx=>List.mem_cons_of_mem _ (List.mem_cons_of_mem _ hx)
  refine Bi.add (by omega) ?_
  refine⟨⟨i+1,s2,_,vs++[(c1,c2)],by simp,by omega,λx hx=>hR2 x (hR x hx),⟨by rw[List.length_append,hV.len,htk,List.length_append];rfl,?_⟩,by rw[htk];exact E⟩,by simp only[];omega⟩
  rw[htk]
  exact rows_app hV.len hR2 ⟨.inr (List.mem_cons_of_mem _ List.mem_cons_self),.inr List.mem_cons_self⟩ hV.row
 ·refine Cnd.f ?_
  have hie:i=y.tb.ms.length:=by omega
  rw[hie,List.take_length]at E hV
  exact⟨R',vs,hR,hV,E⟩
theorem Table_okM(h:Fit R D Xs tA M K N y)(E:Hs w0 F w (SPl R D Xs tA M K y l)):
  Ca PP Fn.f33 #[ptr K.a] w λr w'=>∃R' vs,(∀x∈R,x∈R')∧TbV R' vs y.tb.ms∧Hs w0 F w' (slA r Ty.t8 4 (mcs y.tb.ms vs)::SPl R' D Xs tA M K y l):=by
 refine S.f33.calls ?_
 unfold S.f33
 refine Eq.ef u_p_Space rfl ?_
 repeat with_reducible first|refine Stp.go ?_|refine StpE.go E ?_
 refine(copied_okM h E).mono ?_
 clear E
 rintro r w_ hh
 skip
 exact hh
theorem Dir_okM{ta:Nat}{sp:Sp}[h1:FPt l K.a (spO K ta sp) r1](E:Hs w0 F w l):Ca PP Fn.f84 #[ptr K.a] w λr w'=>r=str sp.dir∧Hs w0 F w' l:=by
 refine S.f84.calls ?_
 unfold S.f84
 refine Eq.ef u_p_Space rfl ?_
 repeat with_reducible first|refine Stp.go ?_|refine StpE.go E ?_
 exact⟨rfl,E⟩
theorem CloneT_ok{v:Value}{xs:List Value}(h:RdS w0 F l 1 xs.length v xs)(hs:xs.all scalV=true)(hl:xs.length≤100000)(E:Hs w0 F w l):
  Ca PP Fn.f25 #[v] w λr w'=>Hs w0 F w' (slA r Ty.api_Tree 1 xs::l):=by
 refine S.f25.calls ?_
 unfold S.f25
 have h':=h
 obtain⟨a,c,rfl,hc,hln,hx⟩:=h'
 cases a with
 |none=>
  have h0:xs=[]:=by
   rcases hx with h1|⟨p,h1,_⟩
   ·exact h1
   ·cases h1
  rw[h0]
  refine Eq.et u_sl_api_Tree rfl ?_
  repeat with_reducible refine Stp.go ?_
  exact Hs.nilSl E _ _
 |some a=>
  refine Eq.ef u_sl_api_Tree rfl ?_
  repeat with_reducible refine Stp.go ?_
  refine BdS.zero E u_sl_api_Tree (by kernel_rfl) ?_
  clear E
  intro v1 w_ E
  refine Ap.one E (i:=0) rfl u_sl_api_Tree ⟨_,u_sl_api_Tree,λ_ h=>by cases h⟩ e_api_Tree (RdS.src (h.cons _) E hs) rfl (by simp;omega) (by simp;omega) ?_
  clear E
  intro v2 w_ E
  (try simp only[List.set_cons_zero,List.set_cons_succ,List.cons_append,List.nil_append,Nat.zero_add,Nat.add_zero]at E)
  exact E
set_option maxRecDepth 100000
set_option linter.unusedVariables false
set_option linter.unusedSimpArgs false
variable {w0 w:World} {F:Nat→Prop} {l r1 r2 r3:List As}
variable {R:List RowS} {D:List Row} {Xs:List PT} {tA:List Nat} {M:TbM} {K:SpM} {N:Int} {y:Sy}

def Sy.forked(y:Sy):Sy:={y with sp:={y.sp with op:=[]}}
theorem forked_inv(h:SyI N y):SyI N y.forked:=⟨h.t,h.tb,⟨h.sp.user,h.sp.dir,Nat.zero_le _,List.nodup_nil,λx hx=>by cases hx⟩⟩
abbrev tblO(tv mv:Value):Obj:=oc [tv,mv] Ty.space_table
abbrev spcO(ma:Nat)(y:Sy)(om:Nat):Obj:=oc [ptr ma,str y.sp.user,str y.sp.dir,.map (some om)] Ty.space_Space
theorem tcs_scal(ts:List Nat):(tcs tA ts).all scalV=true:=by
 rw[List.all_eq_true]
 intro v hv
 obtain⟨k,-,rfl⟩:=List.mem_map.1 hv
 rfl
theorem Share_okM(h:Fit R D Xs tA M K N y)(E:Hs w0 F w (SPl R D Xs tA M K y l)):
  Ca PP Fn.f106 #[ptr K.a] w λr w'=>∃ka om,r=ptr ka∧Hs w0 F w' (pt ka (spcO M.a y om)::mp om (.int .i64) []::SPl R D Xs tA M K y l):=by
 refine S.f106.calls ?_
 unfold S.f106
 refine Eq.ef u_p_Space rfl ?_
 repeat with_reducible first|refine Stp.go ?_|refine StpE.go E ?_|(refine StpW.go E ?_;clear E;intro w_ E)
 refine MkM.pt (kt:=.int .i64) E ?_
 clear E
 intro om w_ hom_ E
 (repeat(with_reducible refine And.intro ?_ ?_;focus ((repeat with_reducible refine StpE.go E ?_);exact rfl)))
 repeat with_reducible first|refine StpE.go E ?_|(refine StpA.go E ?_;clear E;intro b_ w_ hb_ E)
 (revert b_;intro ka hbka E)
 exact⟨ka,om,rfl,E⟩
theorem Fork_okM(h:Fit R D Xs tA M K N y)(E:Hs w0 F w (SPl R D Xs tA M K y l)):
  Ca PP Fn.f99 #[ptr K.a] w λr w'=>∃ka om ma tv mv R' vs,r=ptr ka∧(∀x∈R,x∈R')∧TbV R' vs y.tb.ms∧
   Hs w0 F w' (pt ka (spcO ma y om)::mp om (.int .i64) []::pt ma (tblO tv mv)::slA tv Ty.api_Tree 1 (tcs tA y.tb.ts)::slA mv Ty.t8 4 (mcs y.tb.ms vs)::SPl R' D Xs tA M K y l):=by
 refine S.f99.calls ?_
 unfold S.f99
 refine Eq.ef u_p_Space rfl ?_
 repeat with_reducible first|refine Stp.go ?_|refine StpE.go E ?_|(refine StpW.go E ?_;clear E;intro w_ E)
 have hts:=h.inv.tb.ts
 have clT:∀(l2:List As) w1,slA M.tv Ty.api_Tree 1 (tcs tA y.tb.ts)∈l2→Hs w0 F w1 l2→Ca PP Fn.f25 #[M.tv] w1 λr w'=>Hs w0 F w' (slA r Ty.api_Tree 1 (tcs tA y.tb.ts)::l2):=λl2 w1 hm E=>by
  have hrd:=RdS.sl hm (by omega) E
  rw[Nat.div_one]at hrd
  exact CloneT_ok hrd (tcs_scal _) (by rw[List.length_map];omega) E
 refine And.intro ?_ (And.intro ?_ trivial)
 ·refine(clT _ _ (by simp) E).mono ?_
  clear E
  intro tv w_ E
  have itv:Scal tv:=⟨Hs.slScal E FSl.mem⟩
  (repeat(with_reducible refine And.intro ?_ ?_;focus ((repeat with_reducible refine StpE.go E ?_);exact rfl)))
  refine And.intro ?_ (And.intro ?_ trivial)
  ·refine(copied_okM h (Hs.spl E)).mono ?_
   clear E
   rintro mv w_ ⟨R',vs,hR,hV,E⟩
   have imv:Scal mv:=⟨Hs.slScal E FSl.mem⟩
   have itv2:Scal tv:=itv
   (repeat(with_reducible refine And.intro ?_ ?_;focus ((repeat with_reducible refine StpE.go E ?_);exact rfl)))
   repeat with_reducible refine StpE.go E ?_
   refine And.intro ?_ (And.intro ?_ trivial)
   ·(repeat with_reducible (refine StpA.go E ?_;clear E;intro b_ w_ hb_ E))
    (revert b_;intro ma hbma E)
    (repeat(with_reducible refine And.intro ?_ ?_;focus ((repeat with_reducible refine StpE.go E ?_);exact rfl)))
    refine MkM.pt (kt:=.int .i64) E ?_
    clear E
    intro om w_ hom_ E
    (repeat(with_reducible refine And.intro ?_ ?_;focus ((repeat with_reducible refine StpE.go E ?_);exact rfl)))
    repeat with_reducible first|refine StpE.go E ?_|(refine StpA.go E ?_;clear E;intro b_ w_ hb_ E)
    (revert b_;intro ka hbka E)
    (replace E:=(((((((((((((E.bIx 11).bIx 11).bIx 11).bIx 11).bIx 11).bIx 11).bIx 11).bIx 11).bIx 11).bIx 12).bIx 12).bIx 12).bIx 12))
    exact⟨ka,om,ma,tv,mv,R',vs,rfl,hR,hV,E⟩
   ·refine MkM.pt (kt:=.int .i64) E ?_
    clear E
    intro om w_ hom_ E
    (repeat(with_reducible refine And.intro ?_ ?_;focus ((repeat with_reducible refine StpE.go E ?_);exact rfl)))
    repeat with_reducible (refine StpA.go E ?_;clear E;intro b_ w_ hb_ E)
    (revert b_;intro ma hbma E)
    (repeat(with_reducible refine And.intro ?_ ?_;focus ((repeat with_reducible refine StpE.go E ?_);exact rfl)))
    repeat with_reducible first|refine StpE.go E ?_|(refine StpA.go E ?_;clear E;intro b_ w_ hb_ E)
    (revert b_;intro ka hbka E)
    (replace E:=(((((((((((((E.bIx 11).bIx 11).bIx 11).bIx 11).bIx 11).bIx 11).bIx 11).bIx 11).bIx 11).bIx 12).bIx 11).bIx 12).bIx 12))
    exact⟨ka,om,ma,tv,mv,R',vs,rfl,hR,hV,E⟩
  ·refine MkM.pt (kt:=.int .i64) E ?_
   clear E
   intro om w_ hom_ E
   (repeat(with_reducible refine And.intro ?_ ?_;focus ((repeat with_reducible refine StpE.go E ?_);exact rfl)))
   refine(copied_okM h (Hs.spl2 E)).mono ?_
   clear E
   rintro mv w_ ⟨R',vs,hR,hV,E⟩
   have imv:Scal mv:=⟨Hs.slScal E FSl.mem⟩
   (repeat(with_reducible refine And.intro ?_ ?_;focus ((repeat with_reducible refine StpE.go E ?_);exact rfl)))
   repeat with_reducible first|refine StpE.go E ?_|(refine StpA.go E ?_;clear E;intro b_ w_ hb_ E)
   (revert b_;intro ma hbma E)
   (repeat(with_reducible refine And.intro ?_ ?_;focus ((repeat with_reducible refine StpE.go E ?_);exact rfl)))
   repeat with_reducible first|refine StpE.go E ?_|(refine StpA.go E ?_;clear E;intro b_ w_ hb_ E)
   (revert b_;intro ka hbka E)
   (replace E:=(((((((((((((E.bIx 10).bIx 10).bIx 10).bIx 10).bIx 10).bIx 10).bIx 10).bIx 10).bIx 10).bIx 12).bIx 11).bIx 12).bIx 12))
   exact⟨ka,om,ma,tv,mv,R',vs,rfl,hR,hV,E⟩
 ·refine MkM.pt (kt:=.int .i64) E ?_
  clear E
  intro om w_ hom_ E
  (repeat(with_reducible refine And.intro ?_ ?_;focus ((repeat with_reducible refine StpE.go E ?_);exact rfl)))
  refine(clT _ _ (by simp) E).mono ?_
  clear E
  intro tv w_ E
  have itv:Scal tv:=⟨Hs.slScal E FSl.mem⟩
  (repeat(with_reducible refine And.intro ?_ ?_;focus ((repeat with_reducible refine StpE.go E ?_);exact rfl)))
  refine(copied_okM h (Hs.spl2 E)).mono ?_
  clear E
  rintro mv w_ ⟨R',vs,hR,hV,E⟩
  have imv:Scal mv:=⟨Hs.slScal E FSl.mem⟩
  (repeat(with_reducible refine And.intro ?_ ?_;focus ((repeat with_reducible refine StpE.go E ?_);exact rfl)))
  repeat with_reducible first|refine StpE.go E ?_|(refine StpA.go E ?_;clear E;intro b_ w_ hb_ E)
  (revert b_;intro ma hbma E)
  (repeat(with_reducible refine And.intro ?_ ?_;focus ((repeat with_reducible refine StpE.go E ?_);exact rfl)))
  repeat with_reducible first|refine StpE.go E ?_|(refine StpA.go E ?_;clear E;intro b_ w_ hb_ E)
  (revert b_;intro ka hbka E)
  (replace E:=(((((((((((((E.bIx 10).bIx 10).bIx 10).bIx 10).bIx 10).bIx 10).bIx 10).bIx 10).bIx 10).bIx 11).bIx 11).bIx 12).bIx 12))
  exact⟨ka,om,ma,tv,mv,R',vs,rfl,hR,hV,E⟩
set_option maxRecDepth 100000
set_option linter.unusedVariables false
set_option linter.unusedSimpArgs false

def Sy.withOp(y:Sy)(o:List (Int×List (Nat×Int))):Sy:={y with sp:={y.sp with op:=o}}
theorem act_0(y:Sy){x:Xa}(h:x.kind=0):y.act x=((y.bind x.path x.old x.flag).1,{errno:=(y.bind x.path x.old x.flag).2}):=by
 unfold Sy.act
 rw[if_pos h]
theorem act_1(y:Sy){x:Xa}(h:x.kind=1):y.act x=((y.mount (x.tree y.Ts.length) x.old x.flag).1,{errno:=(y.mount (x.tree y.Ts.length) x.old x.flag).2}):=by
 unfold Sy.act
 rw[if_neg (by omega),if_pos h]
theorem act_2(y:Sy){x:Xa}(h:x.kind=2):y.act x=((y.unmount x.path x.old).1,{errno:=(y.unmount x.path x.old).2}):=by
 unfold Sy.act
 rw[if_neg (by omega),if_neg (by omega),if_pos h]
theorem act_3(y:Sy){x:Xa}(h:x.kind=3):y.act x=((y.chdir x.path).1,{errno:=(y.chdir x.path).2}):=by
 unfold Sy.act
 rw[if_neg (by omega),if_neg (by omega),if_neg (by omega),if_pos h]
set_option maxRecDepth 100000
set_option linter.unusedVariables false
set_option linter.unusedSimpArgs false
variable {w0 w:World} {F:Nat→Prop} {l:List As}
set_option maxRecDepth 100000
set_option linter.unusedVariables false
set_option linter.unusedSimpArgs false
variable {w0 w:World} {F:Nat→Prop} {l:List As}
abbrev Xa.C(x:Xa):List Value:=[i64 x.kind,i64 x.number,i64 x.flag,str x.path,str x.old,str x.data,i64 x.perm,i64 x.offset,i64 x.dir.kind,i64 x.dir.vers,i64 x.dir.path,i64 x.dir.mode,i64 x.dir.time,i64 x.dir.len,str x.dir.name,str x.dir.owner,str x.dir.group,str x.dir.last]
abbrev Xa.V(x:Xa):Value:=.agg x.C.toArray
abbrev raC(n:Int)(t:BA)(dv pv:Value)(e:Int):List Value:=[i64 n,str t,dv,pv,i64 e]
abbrev nlV:Value:=.slice none 0 0
set_option maxRecDepth 100000
set_option linter.unusedVariables false
set_option linter.unusedSimpArgs false
variable {w0 w:World} {F:Nat→Prop} {l:List As}
set_option maxRecDepth 100000
set_option linter.unusedVariables false
set_option linter.unusedSimpArgs false
variable {w0 w:World} {F:Nat→Prop} {l:List As}

structure Xa.Ok(x:Xa):Prop where
 path:x.path.size≤140737488355328
 old:x.old.size≤140737488355328
 data:x.data.size≤140737488355328
 name:x.dir.name.size≤140737488355328
 owner:x.dir.owner.size≤140737488355328
 group:x.dir.group.size≤140737488355328
 last:x.dir.last.size≤140737488355328
def Xa.total(x:Xa):Nat:=x.path.size+x.old.size+x.data.size+x.dir.name.size+x.dir.group.size+x.dir.owner.size+x.dir.last.size
def bigX(x:Xa):Bool:=decide (700<x.total) || decide (3000<x.offset∧x.offset≤1048576) || decide (3000<x.dir.len∧x.dir.len≤1048576)
theorem b_fewX:hasBody PP Fn.f128=true:=by kernel_rfl
theorem FewX1_ok{x:Xa}(hx:x.Ok)(E:Hs w0 F w l):Ca PP Fn.f128 #[x.V] w λr w'=>r=.bool (bigX x)∧Hs w0 F w' l:=by
 obtain⟨h1,h2,h3,h4,h5,h6,h7⟩:=hx
 refine S.f128.calls ?_
 unfold S.f128
 repeat with_reducible (refine StpA.go E ?_;clear E;intro b_ w_ hb_ E)
 (intro J3 hJ3)
 have fin:∀b w_,b=bigX x→(∃A,Hs w0 F w_ (A::l))→J3 [.bool b] w_:=by
  rintro b w_ hb ⟨A,E⟩
  repeat with_reducible (apply hJ3;intro u_)
  exact⟨by rw[hb],E.tl⟩
 clear hJ3
 repeat with_reducible first|refine Stp.go ?_|refine StpE.go E ?_
 refine Bi.add (by omega) ?_
 repeat with_reducible first|refine Stp.go ?_|refine StpE.go E ?_
 refine Bi.add (by omega) ?_
 repeat with_reducible first|refine Stp.go ?_|refine StpE.go E ?_
 refine Bi.add (by omega) ?_
 repeat with_reducible first|refine Stp.go ?_|refine StpE.go E ?_
 refine Bi.add (by omega) ?_
 repeat with_reducible first|refine Stp.go ?_|refine StpE.go E ?_
 refine Bi.add (by omega) ?_
 repeat with_reducible first|refine Stp.go ?_|refine StpE.go E ?_
 refine Bi.add (by omega) ?_
 have ht:(x.total:Int)=(x.path.size:Int)+x.old.size+x.data.size+x.dir.name.size+x.dir.group.size+x.dir.owner.size+x.dir.last.size:=by unfold Xa.total;omega
 refine Bi.gtr ?_ ?_<;>intro c1<;>(repeat with_reducible first|refine Stp.go ?_|refine StpE.go E ?_)
 ·exact fin _ _ (by unfold bigX;rw[decide_eq_true (show 700<x.total by omega)];rfl) ⟨_,E⟩
 have k1:decide (700<x.total)=false:=decide_eq_false (by omega)
 refine Bi.gtr ?_ ?_<;>intro c2<;>(repeat with_reducible first|refine Stp.go ?_|refine StpE.go E ?_)
 ·refine Bi.leq ?_ ?_<;>intro c3<;>(repeat with_reducible first|refine Stp.go ?_|refine StpE.go E ?_)
  ·exact fin _ _ (by unfold bigX;rw[k1];simp;omega) ⟨_,E⟩
  ·refine Bi.gtr ?_ ?_<;>intro c4<;>(repeat with_reducible first|refine Stp.go ?_|refine StpE.go E ?_)
   ·refine Bi.leq ?_ ?_<;>intro c5<;>(repeat with_reducible refine Stp.go ?_)
    ·exact fin _ _ (by unfold bigX;rw[k1];simp;omega) ⟨_,E⟩
    ·exact fin _ _ (by unfold bigX;rw[k1];simp;omega) ⟨_,E⟩
   ·exact fin _ _ (by unfold bigX;rw[k1];simp;omega) ⟨_,E⟩
 ·refine Bi.gtr ?_ ?_<;>intro c4<;>(repeat with_reducible first|refine Stp.go ?_|refine StpE.go E ?_)
  ·refine Bi.leq ?_ ?_<;>intro c5<;>(repeat with_reducible refine Stp.go ?_)
   ·exact fin _ _ (by unfold bigX;rw[k1];simp;omega) ⟨_,E⟩
   ·exact fin _ _ (by unfold bigX;rw[k1];simp;omega) ⟨_,E⟩
  ·exact fin _ _ (by unfold bigX;rw[k1];simp;omega) ⟨_,E⟩
set_option maxRecDepth 100000
set_option linter.unusedVariables false
set_option linter.unusedSimpArgs false
variable {w0 w:World} {F:Nat→Prop} {l r1 r2 r3:List As}
variable {R:List RowS} {D:List Row} {Xs:List PT} {tA:List Nat} {M:TbM} {K:SpM} {N:Int} {y:Sy}
theorem act_4(y:Sy){x:Xa}(h:x.kind=4):y.act x=(y,{dirs:=[(y.stat x.path).1],errno:=(y.stat x.path).2}):=by
 unfold Sy.act
 rw[if_neg (by omega),if_neg (by omega),if_neg (by omega),if_neg (by omega),if_pos h]
theorem act_5(y:Sy){x:Xa}(h:x.kind=5):y.act x=((y.wstat x.path x.dir).1,{errno:=(y.wstat x.path x.dir).2}):=by
 unfold Sy.act
 rw[if_neg (by omega),if_neg (by omega),if_neg (by omega),if_neg (by omega),if_neg (by omega),if_pos h]
theorem act_6(y:Sy){x:Xa}(h:x.kind=6):y.act x=((y.openF x.path x.flag).1,{number:=(y.openF x.path x.flag).2.1,errno:=(y.openF x.path x.flag).2.2}):=by
 unfold Sy.act
 rw[if_neg (by omega),if_neg (by omega),if_neg (by omega),if_neg (by omega),if_neg (by omega),if_neg (by omega),if_pos h]
theorem act_7(y:Sy){x:Xa}(h:x.kind=7):y.act x=((y.create x.path x.perm x.flag).1,{number:=(y.create x.path x.perm x.flag).2.1,errno:=(y.create x.path x.perm x.flag).2.2}):=by
 unfold Sy.act
 rw[if_neg (by omega),if_neg (by omega),if_neg (by omega),if_neg (by omega),if_neg (by omega),if_neg (by omega),if_neg (by omega),if_pos h]
theorem act_8(y:Sy){x:Xa}(h:x.kind=8):y.act x=(y,{text:=(y.read x.number x.offset x.flag).1,errno:=(y.read x.number x.offset x.flag).2}):=by
 unfold Sy.act
 rw[if_neg (by omega),if_neg (by omega),if_neg (by omega),if_neg (by omega),if_neg (by omega),if_neg (by omega),if_neg (by omega),if_neg (by omega),if_pos h]
theorem act_9(y:Sy){x:Xa}(h:x.kind=9):y.act x=(y,{dirs:=(y.list x.number).1,errno:=(y.list x.number).2}):=by
 unfold Sy.act
 rw[if_neg (by omega),if_neg (by omega),if_neg (by omega),if_neg (by omega),if_neg (by omega),if_neg (by omega),if_neg (by omega),if_neg (by omega),if_neg (by omega),if_pos h]
theorem act_10(y:Sy){x:Xa}(h:x.kind=10):y.act x=((y.write x.number x.offset x.data).1,{number:=(y.write x.number x.offset x.data).2.1,errno:=(y.write x.number x.offset x.data).2.2}):=by
 unfold Sy.act
 rw[if_neg (by omega),if_neg (by omega),if_neg (by omega),if_neg (by omega),if_neg (by omega),if_neg (by omega),if_neg (by omega),if_neg (by omega),if_neg (by omega),if_neg (by omega),if_pos h]
theorem act_11(y:Sy){x:Xa}(h:x.kind=11):y.act x=((y.close x.number).1,{errno:=(y.close x.number).2}):=by
 unfold Sy.act
 rw[if_neg (by omega),if_neg (by omega),if_neg (by omega),if_neg (by omega),if_neg (by omega),if_neg (by omega),if_neg (by omega),if_neg (by omega),if_neg (by omega),if_neg (by omega),if_neg (by omega),if_pos h]
theorem act_12(y:Sy){x:Xa}(h:x.kind=12):y.act x=((y.remove x.path).1,{errno:=(y.remove x.path).2}):=by
 unfold Sy.act
 rw[if_neg (by omega),if_neg (by omega),if_neg (by omega),if_neg (by omega),if_neg (by omega),if_neg (by omega),if_neg (by omega),if_neg (by omega),if_neg (by omega),if_neg (by omega),if_neg (by omega),if_neg (by omega),if_pos h]
theorem act_13(y:Sy){x:Xa}(h:x.kind=13):y.act x=(y,{places:=(y.where_ x.path).1,errno:=(y.where_ x.path).2}):=by
 unfold Sy.act
 rw[if_neg (by omega),if_neg (by omega),if_neg (by omega),if_neg (by omega),if_neg (by omega),if_neg (by omega),if_neg (by omega),if_neg (by omega),if_neg (by omega),if_neg (by omega),if_neg (by omega),if_neg (by omega),if_neg (by omega),if_pos h]
theorem act_no(y:Sy){x:Xa}(h:x.kind<0∨14≤x.kind):y.act x=(y,{}):=by
 unfold Sy.act
 rw[if_neg (by omega),if_neg (by omega),if_neg (by omega),if_neg (by omega),if_neg (by omega),if_neg (by omega),if_neg (by omega),if_neg (by omega),if_neg (by omega),if_neg (by omega),if_neg (by omega),if_neg (by omega),if_neg (by omega),if_neg (by omega)]
theorem Hs.spl3{a b c:As}(E:Hs w0 F w (a::b::c::SPl R D Xs tA M K y l)):Hs w0 F w (SPl R D Xs tA M K y (a::b::c::l)):=
 (((((((E.bIx 10).bIx 10).bIx 10).bIx 10).bIx 10).bIx 10).bIx 10).bIx 10
theorem DoS_okM{x:Xa}{tv:Value}(h:Fit R D Xs tA M K N y)(h0:0≤N)(hN:N+1000<4611686018427387904)(hx:x.total≤700)(htA:tA.length=y.Ts.length)(h4:tA.length≤4)(E:Hs w0 F w (SPl R D Xs tA M K y (slA tv Ty.t6 1 (tA.map ptr)::l))):
  Ca PP Fn.law29_Do #[ptr K.a,tv,x.V] w λr w'=>∃dv pv,r=.agg (raC (y.act x).2.number (y.act x).2.text dv pv (y.act x).2.errno).toArray∧
   GoS w0 F (slA tv Ty.t6 1 (tA.map ptr)::slA dv Ty.t29 10 (dcs (y.act x).2.dirs)::slA pv Ty.t0 2 (pcs (y.act x).2.places)::l) R tA M K (N+100) (y.act x).1 w':=by
 refine S.law29_Do.calls ?_
 unfold S.law29_Do
 have hz:x.path.size≤1000000∧x.old.size≤1000000∧x.dir.name.size≤9223372036854775807∧x.dir.group.size≤9223372036854775807:=by unfold Xa.total at hx;omega
 obtain⟨hz1,hz2,hz3,hz4⟩:=hz
 refine StpA.go E ?_
 clear E
 intro q w_ h1 E
 refine StpA.go E ?_
 clear E
 intro b w_ h2 E
 repeat with_reducible first|refine StpE.go E ?_|(refine StpW.go E ?_;clear E;intro w_ E)|(refine StpA.go E ?_;clear E;intro b_ w_ hb_ E)
 (revert b_;intro c hbc E)
 (first|(refine StA.all E rfl rfl (by first|exact rfl|assumption) ?_;clear E;intro w_ E)|try (refine StA.by E rfl (by first|exact rfl|assumption) ?_;clear E;intro w_ E))
 intro J9 hJ9
 have fin:∀(n:Int) (t:BA) (dv pv:Value) (ds:List Dr) (ps:List Pl) (e:Int) (yy:Sy) (R':List RowS) (D':List Row) (Xs':List PT) (M':TbM) (K':SpM) w_,M'.a=M.a→K'.a=K.a→K'.om=K.om→(∀x∈R,x∈R')→Fit R' D' Xs' tA M' K' (N+100) yy→y.act x=(yy,⟨n,t,ds,ps,e⟩)→
   Hs w0 F w_ (slA dv Ty.t29 10 (dcs ds)::slA pv Ty.t0 2 (pcs ps)::SPl R' D' Xs' tA M' K' yy (pt c (oc (raC n t dv pv e) Ty.law29_Result)::pt b (oc (raC 0 emp nlV nlV 0) Ty.law29_Result)::pt q (oc x.C Ty.t93)::slA tv Ty.t6 1 (tA.map ptr)::l))→J9 [] w_:=by
  intro n t dv pv ds ps e yy R' D' Xs' M' K' w_ g1 g2 g3 g4 g5 ha E
  refine hJ9 w_ λu=>?_
  clear hJ9
  have iv1:Scal dv:=⟨Hs.slScal E FSl.mem⟩
  have iv2:Scal pv:=⟨Hs.slScal E FSl.mem⟩
  repeat with_reducible first|refine StpE.go E ?_|(refine StpW.go E ?_;clear E;intro w_ E)
  (first|(refine StA.all E rfl rfl (by first|exact rfl|assumption) ?_;clear E;intro w_ E)|try (refine StA.by E rfl (by first|exact rfl|assumption) ?_;clear E;intro w_ E))
  skip
  (replace E:=((((((((((((((E.bIx 12).bIx 12).bIx 12).bIx 4).bIx 4).bIx 13).bIx 13).bIx 13).bIx 13).bIx 13).bIx 13).bIx 13).bIx 13).bIx 13))
  replace E:=(((E.bIx 11).tl.bIx 11).tl.bIx 11).tl
  rw[ha]
  exact⟨dv,pv,rfl,R',D',Xs',M',K',g1,g2,g3,g4,g5,E⟩
 clear hJ9
 have same:Fit R D Xs tA M K (N+100) y:=h.mono (by omega)
 repeat with_reducible first|refine Stp.go ?_|refine StpE.go E ?_
 refine Bi.eql ?_ ?_<;>intro c0<;>(repeat with_reducible first|refine Stp.go ?_|refine StpE.go E ?_)
 ·refine(Bind_okM h hz1 hz2 (Hs.spl3 E)).mono ?_
  clear E
  rintro r w_ ⟨rfl,R',D',Xs',M',K',g1,g2,g3,g4,g5,E⟩
  repeat with_reducible first|refine Stp.go ?_|(refine StpW.go E ?_;clear E;intro w_ E)
  exact fin 0 emp nlV nlV [] [] _ _ R' D' Xs' M' K' _ g1 g2 g3 g4 (g5.mono (by omega)) (act_0 y c0) (Hs.nilSl (Hs.nilSl E _ _) _ _)
 refine Bi.eql ?_ ?_<;>intro c1<;>(repeat with_reducible refine Stp.go ?_)
 ·have htv:RdS w0 F (pt c (oc (raC 0 emp nlV nlV 0) Ty.law29_Result)::pt b (oc (raC 0 emp nlV nlV 0) Ty.law29_Result)::pt q (oc x.C Ty.t93)::SPl R D Xs tA M K y (slA tv Ty.t6 1 (tA.map ptr)::l)) 1 tA.length tv (tA.map ptr):=by
   have:=RdS.sl (v:=tv) (T:=Ty.t6) (sz:=1) (xs:=tA.map ptr) (by simp) (by omega) E
   rwa [Nat.div_one,List.length_map]at this
  intro J29 hJ29
  have no:¬(0≤x.number∧x.number<(y.Ts.length:Int))→∀w_,Hs w0 F w_ (pt c (oc (raC 0 emp nlV nlV 0) Ty.law29_Result)::pt b (oc (raC 0 emp nlV nlV 0) Ty.law29_Result)::pt q (oc x.C Ty.t93)::SPl R D Xs tA M K y (slA tv Ty.t6 1 (tA.map ptr)::l))→J29 [.bool false] w_:=by
   intro hb w_ E
   refine hJ29 _ w_ λu=>Cnd.f ?_
   repeat with_reducible first|refine Stp.go ?_|refine StpE.go E ?_
   have hxt:x.tree y.Ts.length=none:=by unfold Xa.tree;rw[if_neg hb]
   have ha:=act_1 y c1
   rw[hxt]at ha
   refine(Mount_none (old:=x.old) (flag:=x.flag) h (Hs.spl3 E)).mono ?_
   clear E
   rintro r w_ ⟨rfl,R',D',Xs',M',K',g1,g2,g3,g4,g5,E⟩
   repeat with_reducible first|refine Stp.go ?_|(refine StpW.go E ?_;clear E;intro w_ E)
   exact fin 0 emp nlV nlV [] [] _ _ R' D' Xs' M' K' _ g1 g2 g3 g4 (g5.mono (by omega)) ha (Hs.nilSl (Hs.nilSl E _ _) _ _)
  have yes:(0≤x.number∧x.number<(y.Ts.length:Int))→∀w_,Hs w0 F w_ (pt c (oc (raC 0 emp nlV nlV 0) Ty.law29_Result)::pt b (oc (raC 0 emp nlV nlV 0) Ty.law29_Result)::pt q (oc x.C Ty.t93)::SPl R D Xs tA M K y (slA tv Ty.t6 1 (tA.map ptr)::l))→J29 [.bool true] w_:=by
   intro hb w_ E
   refine hJ29 _ w_ λu=>Cnd.t ?_
   repeat with_reducible first|refine Stp.go ?_|refine StpE.go E ?_|(refine StpW.go E ?_;clear E;intro w_ E)
   have hxt:x.tree y.Ts.length=some x.number.toNat:=by unfold Xa.tree;rw[if_pos hb]
   have ha:=act_1 y c1
   rw[hxt]at ha
   refine htv.ix hb.1 (by omega) (by omega) ?_
   intro a ha2
   rw[Nat.mul_one]at ha2
   refine ha2.ld E (x:=ptr (adW tA x.number.toNat)) (by
    rw[List.getElem?_drop,Nat.add_zero,List.getElem?_map]
    unfold adW
    rw[List.getD_eq_getElem?_getD,List.getElem?_eq_getElem (show x.number.toNat<tA.length by omega)]
    rfl) ?_
   repeat with_reducible first|refine Stp.go ?_|refine StpE.go E ?_
   refine(Mount_okM (k:=x.number.toNat) (old:=x.old) (flag:=x.flag) h (by omega) hz2 (Hs.spl3 E)).mono ?_
   clear E
   rintro r w_ ⟨rfl,R',D',Xs',M',K',g1,g2,g3,g4,g5,E⟩
   repeat with_reducible first|refine Stp.go ?_|(refine StpW.go E ?_;clear E;intro w_ E)
   exact fin 0 emp nlV nlV [] [] _ _ R' D' Xs' M' K' _ g1 g2 g3 g4 (g5.mono (by omega)) ha (Hs.nilSl (Hs.nilSl E _ _) _ _)
  clear hJ29
  repeat with_reducible first|refine Stp.go ?_|refine StpE.go E ?_
  refine Bi.geq ?_ ?_<;>intro d1<;>(repeat with_reducible first|refine Stp.go ?_|refine StpE.go E ?_)
  ·refine Bi.lss ?_ ?_<;>intro d2<;>(repeat with_reducible refine Stp.go ?_)
   ·exact yes ⟨d1,by rw[List.length_map]at d2;omega⟩ _ E
   ·exact no (λh=>by rw[List.length_map]at d2;omega) _ E
  ·exact no (λh=>by omega) _ E
 refine Bi.eql ?_ ?_<;>intro c2<;>(repeat with_reducible first|refine Stp.go ?_|refine StpE.go E ?_)
 ·refine(Unmount_okM h hz1 hz2 (Hs.spl3 E)).mono ?_
  clear E
  rintro r w_ ⟨rfl,R',D',Xs',M',K',g1,g2,g3,g4,g5,E⟩
  repeat with_reducible first|refine Stp.go ?_|(refine StpW.go E ?_;clear E;intro w_ E)
  exact fin 0 emp nlV nlV [] [] _ _ R' D' Xs' M' K' _ g1 g2 g3 g4 (g5.mono (by omega)) (act_2 y c2) (Hs.nilSl (Hs.nilSl E _ _) _ _)
 refine Bi.eql ?_ ?_<;>intro c3<;>(repeat with_reducible first|refine Stp.go ?_|refine StpE.go E ?_)
 ·refine(Chdir_okM h hz1 (Hs.spl3 E)).mono ?_
  clear E
  rintro r w_ ⟨rfl,R',D',Xs',M',K',g1,g2,g3,g4,g5,E⟩
  repeat with_reducible first|refine Stp.go ?_|(refine StpW.go E ?_;clear E;intro w_ E)
  exact fin 0 emp nlV nlV [] [] _ _ R' D' Xs' M' K' _ g1 g2 g3 g4 (g5.mono (by omega)) (act_3 y c3) (Hs.nilSl (Hs.nilSl E _ _) _ _)
 refine Bi.eql ?_ ?_<;>intro c4<;>(repeat with_reducible first|refine Stp.go ?_|refine StpE.go E ?_)
 ·refine(Stat_okM h hz1 (Hs.spl3 E)).mono ?_
  clear E
  rintro r w_ ⟨rfl,E⟩
  have ha:=act_4 y c4
  generalize y.stat x.path=X at*
  repeat with_reducible first|refine Stp.go ?_|refine StpE.go E ?_|(refine StpW.go E ?_;clear E;intro w_ E)|(refine StpA.go E ?_;clear E;intro b_ w_ hb_ E)
  (revert b_;intro z hbz E)
  (first|(refine StA.all E rfl rfl (by first|exact rfl|assumption) ?_;clear E;intro w_ E)|try (refine StA.by E rfl (by first|exact rfl|assumption) ?_;clear E;intro w_ E))
  skip
  refine BdS.dir E ?_
  clear E
  intro v w_ E
  have iv:Scal v:=⟨Hs.slScal E FSl.mem⟩
  repeat with_reducible first|refine Stp.go ?_|(refine StpW.go E ?_;clear E;intro w_ E)
  replace E:=(E.bIx 1).tl
  replace E:Hs w0 F _ (slA nlV Ty.t0 2 (pcs [])::_):=Hs.nilSl E Ty.t0 2
  exact fin 0 emp v nlV [X.1] [] _ _ R D Xs M K _ rfl rfl rfl (λ_ h=>h) same ha (E.bIx 1)
 refine Bi.eql ?_ ?_<;>intro c5<;>(repeat with_reducible first|refine Stp.go ?_|refine StpE.go E ?_)
 ·refine(Wstat_okM h hN hz1 hz3 hz4 (Hs.spl3 E)).mono ?_
  clear E
  rintro r w_ ⟨rfl,R',D',Xs',M',K',g1,g2,g3,g4,g5,E⟩
  repeat with_reducible first|refine Stp.go ?_|(refine StpW.go E ?_;clear E;intro w_ E)
  exact fin 0 emp nlV nlV [] [] _ _ R' D' Xs' M' K' _ g1 g2 g3 g4 g5 (act_5 y c5) (Hs.nilSl (Hs.nilSl E _ _) _ _)
 refine Bi.eql ?_ ?_<;>intro c6<;>(repeat with_reducible first|refine Stp.go ?_|refine StpE.go E ?_)
 ·refine(Open_okM h hN hz1 (Hs.spl3 E)).mono ?_
  clear E
  rintro r w_ ⟨rfl,R',D',Xs',M',K',g1,g2,g3,g4,g5,E⟩
  repeat with_reducible first|refine Stp.go ?_|(refine StpW.go E ?_;clear E;intro w_ E)
  exact fin _ emp nlV nlV [] [] _ _ R' D' Xs' M' K' _ g1 g2 g3 g4 g5 (act_6 y c6) (Hs.nilSl (Hs.nilSl E _ _) _ _)
 refine Bi.eql ?_ ?_<;>intro c7<;>(repeat with_reducible first|refine Stp.go ?_|refine StpE.go E ?_)
 ·refine(Create_okM h h0 hN hz1 (Hs.spl3 E)).mono ?_
  clear E
  rintro r w_ ⟨rfl,R',D',Xs',M',K',g1,g2,g3,g4,g5,E⟩
  repeat with_reducible first|refine Stp.go ?_|(refine StpW.go E ?_;clear E;intro w_ E)
  exact fin _ emp nlV nlV [] [] _ _ R' D' Xs' M' K' _ g1 g2 g3 g4 g5 (act_7 y c7) (Hs.nilSl (Hs.nilSl E _ _) _ _)
 refine Bi.eql ?_ ?_<;>intro c8<;>(repeat with_reducible first|refine Stp.go ?_|refine StpE.go E ?_)
 ·refine(ReadS_ok (n:=x.number) (off:=x.offset) (count:=x.flag) h.sp h.inv (by simp) h.wo (Hs.spl3 E)).mono ?_
  clear E
  rintro r w_ ⟨rfl,E⟩
  have ha:=act_8 y c8
  generalize y.read x.number x.offset x.flag=X at*
  repeat with_reducible first|refine Stp.go ?_|(refine StpW.go E ?_;clear E;intro w_ E)
  exact fin 0 _ nlV nlV [] [] _ _ R D Xs M K _ rfl rfl rfl (λ_ h=>h) same ha (Hs.nilSl (Hs.nilSl E _ _) _ _)
 refine Bi.eql ?_ ?_<;>intro c9<;>(repeat with_reducible first|refine Stp.go ?_|refine StpE.go E ?_)
 ·refine(List_okM (n:=x.number) h (Hs.spl3 E)).mono ?_
  clear E
  rintro r w_ ⟨v,rfl,E⟩
  have ha:=act_9 y c9
  generalize y.list x.number=X at*
  have iv:Scal v:=⟨Hs.slScal E FSl.mem⟩
  repeat with_reducible first|refine Stp.go ?_|(refine StpW.go E ?_;clear E;intro w_ E)
  replace E:Hs w0 F _ (slA nlV Ty.t0 2 (pcs [])::_):=Hs.nilSl E Ty.t0 2
  exact fin 0 emp v nlV _ [] _ _ R D Xs M K _ rfl rfl rfl (λ_ h=>h) same ha (E.bIx 1)
 refine Bi.eql ?_ ?_<;>intro c10<;>(repeat with_reducible first|refine Stp.go ?_|refine StpE.go E ?_)
 ·refine(Write_okM h hN (Hs.spl3 E)).mono ?_
  clear E
  rintro r w_ ⟨rfl,R',D',Xs',M',K',g1,g2,g3,g4,g5,E⟩
  repeat with_reducible first|refine Stp.go ?_|(refine StpW.go E ?_;clear E;intro w_ E)
  exact fin _ emp nlV nlV [] [] _ _ R' D' Xs' M' K' _ g1 g2 g3 g4 g5 (act_10 y c10) (Hs.nilSl (Hs.nilSl E _ _) _ _)
 refine Bi.eql ?_ ?_<;>intro c11<;>(repeat with_reducible first|refine Stp.go ?_|refine StpE.go E ?_)
 ·refine(Close_okM h hN (Hs.spl3 E)).mono ?_
  clear E
  rintro r w_ ⟨rfl,R',D',Xs',M',K',g1,g2,g3,g4,g5,E⟩
  repeat with_reducible first|refine Stp.go ?_|(refine StpW.go E ?_;clear E;intro w_ E)
  exact fin 0 emp nlV nlV [] [] _ _ R' D' Xs' M' K' _ g1 g2 g3 g4 g5 (act_11 y c11) (Hs.nilSl (Hs.nilSl E _ _) _ _)
 refine Bi.eql ?_ ?_<;>intro c12<;>(repeat with_reducible first|refine Stp.go ?_|refine StpE.go E ?_)
 ·refine(Remove_okM h hN hz1 (Hs.spl3 E)).mono ?_
  clear E
  rintro r w_ ⟨rfl,R',D',Xs',M',K',g1,g2,g3,g4,g5,E⟩
  repeat with_reducible first|refine Stp.go ?_|(refine StpW.go E ?_;clear E;intro w_ E)
  exact fin 0 emp nlV nlV [] [] _ _ R' D' Xs' M' K' _ g1 g2 g3 g4 g5 (act_12 y c12) (Hs.nilSl (Hs.nilSl E _ _) _ _)
 refine Bi.eql ?_ ?_<;>intro c13<;>(repeat with_reducible first|refine Stp.go ?_|refine StpE.go E ?_)
 ·refine(where_okM hz1 h.ctx0 (Hs.spl3 E)).mono ?_
  clear E
  rintro r w_ ⟨v,rfl,E⟩
  have ha:=act_13 y c13
  generalize y.where_ x.path=X at*
  have iv:Scal v:=⟨Hs.slScal E FSl.mem⟩
  repeat with_reducible first|refine Stp.go ?_|(refine StpW.go E ?_;clear E;intro w_ E)
  replace E:Hs w0 F _ (slA nlV Ty.t29 10 (dcs [])::_):=Hs.nilSl E Ty.t29 10
  exact fin 0 emp nlV v [] _ _ _ R D Xs M K _ rfl rfl rfl (λ_ h=>h) same ha E
 ·exact fin 0 emp nlV nlV [] [] 0 y R D Xs M K _ rfl rfl rfl (λ_ h=>h) same (act_no y (by omega)) (Hs.nilSl (Hs.nilSl (Hs.spl3 E) _ _) _ _)
set_option maxRecDepth 100000
set_option linter.unusedVariables false
set_option linter.unusedSimpArgs false
variable {w0 w:World} {F:Nat→Prop} {l r1 r2 r3:List As}
variable {R:List RowS}
theorem eqBs_ok{u v:Value}{ps qs:List Bool}(hn:ps.length≤100000)(h1:RdS w0 F l 1 ps.length u (bcs ps))(h2:RdS w0 F l 1 qs.length v (bcs qs))(E:Hs w0 F w l):
  Ca PP Fn.f60 #[u,v] w λr w'=>r=.bool (decide (ps=qs))∧Hs w0 F w' l:=by
 refine S.f60.calls ?_
 unfold S.f60
 refine h1.len ?_
 refine h2.len ?_
 refine Bi.neq ?_ ?_<;>intro hne<;>(repeat with_reducible refine Stp.go ?_)
 ·rw[decide_eq_false (show ¬ps=qs by rintro rfl;exact hne rfl)]
  exact⟨rfl,E⟩
 have hl:ps.length=qs.length:=by omega
 refine h1.len ?_
 refine⟨λl1 w1=>∃i:Nat,l1=[i64 i]∧i≤ps.length∧ps.take i=qs.take i∧Hs w0 F w1 l,λl1 _=>match l1 with|[.int _ i]=>ps.length-i.toNat|_=>0,⟨0,rfl,Nat.zero_le _,rfl,E⟩,?_⟩
 clear E
 rintro t u1 w1 ⟨i,e,hi,htk,E⟩
 cases e
 refine Bi.lss ?_ ?_<;>intro hlt<;>(repeat with_reducible first|refine Stp.go ?_|(refine StpW.go E ?_;clear E;intro w_ E))
 ·have hi1:i<ps.length:=by omega
  have hi2:i<qs.length:=by omega
  refine h1.ix (by omega) (by omega) (by omega) ?_
  intro a ha
  rw[Int.toNat_natCast,Nat.mul_one]at ha
  refine ha.ld E (x:=.bool ps[i]) (by rw[List.getElem?_drop,Nat.add_zero,List.getElem?_map,List.getElem?_eq_getElem hi1];rfl) ?_
  refine h2.ix (by omega) (by omega) (by omega) ?_
  intro a2 ha2
  rw[Int.toNat_natCast,Nat.mul_one]at ha2
  refine ha2.ld E (x:=.bool qs[i]) (by rw[List.getElem?_drop,Nat.add_zero,List.getElem?_map,List.getElem?_eq_getElem hi2];rfl) ?_
  refine Beq.mk ?_
  by_cases hp:ps[i]=qs[i]
  ·rw[show(if true=true then !(ps[i] == qs[i])else ps[i] == qs[i])=false by simp[hp]]
   repeat with_reducible refine Stp.go ?_
   refine Bi.add (by omega) ?_
   exact⟨⟨i+1,by simp,by omega,by rw[List.take_add_one,List.take_add_one,htk,List.getElem?_eq_getElem hi1,List.getElem?_eq_getElem hi2,hp],E⟩,by simp only[];omega⟩
  ·rw[show(if true=true then !(ps[i] == qs[i])else ps[i] == qs[i])=true by simp[hp]]
   repeat with_reducible refine Stp.go ?_
   rw[decide_eq_false (show ¬ps=qs by rintro rfl;exact hp rfl)]
   exact⟨rfl,E⟩
 ·have hie:i=ps.length:=by omega
  rw[hie,List.take_length,hl,List.take_length]at htk
  rw[decide_eq_true htk]
  exact⟨rfl,E⟩
theorem b_same1:hasBody PP Fn.f92=true:=by kernel_rfl
theorem same1_ok{m n:Mt}{u v:Value×Value}(hm:m.new.length≤16)(hc:m.cr.length≤16)(g1:RdS w0 F l 2 m.new.length u.1 (pcs m.new))(g2:RdS w0 F l 1 m.cr.length u.2 (bcs m.cr))(g3:RdS w0 F l 2 n.new.length v.1 (pcs n.new))(g4:RdS w0 F l 1 n.cr.length v.2 (bcs n.cr))(E:Hs w0 F w l):
  Ca PP Fn.f92 #[.agg (m.C u).toArray,.agg (n.C v).toArray] w λr w'=>r=.bool (decide (m=n))∧Hs w0 F w' l:=by
 refine S.f92.calls ?_
 unfold S.f92
 have s1:=RdS_scal g1
 have s2:=RdS_scal g2
 have s3:=RdS_scal g3
 have s4:=RdS_scal g4
 refine StpA.go E ?_
 clear E
 intro a w_ h1 E
 refine StpA.go E ?_
 clear E
 intro b w_ h2 E
 have hmn:(m=n)↔(m.old=n.old∧m.new=n.new∧m.cr=n.cr):=by
  cases m;cases n
  simp
 intro J5 hJ5
 have fin:∀c w_,c=decide (m=n)→Hs w0 F w_ (pt b (oc (n.C v) Ty.t8)::pt a (oc (m.C u) Ty.t8)::l)→J5 [.bool c] w_:=by
  intro c w_ hc E
  refine hJ5 _ w_ λu=>⟨by rw[hc],E.tl.tl⟩
 clear hJ5
 repeat with_reducible first|refine Stp.go ?_|refine StpE.go E ?_
 refine EqS.pl (p:=m.old) (q:=n.old) ?_
 by_cases k1:m.old=n.old
 ·rw[decide_eq_true k1]
  repeat with_reducible first|refine Stp.go ?_|refine StpE.go E ?_
  refine(eqPl_ok (by omega) ((g1.cons _).cons _) ((g3.cons _).cons _) E).mono ?_
  clear E
  rintro r w_ ⟨rfl,E⟩
  by_cases k2:m.new=n.new
  ·rw[decide_eq_true k2]
   repeat with_reducible first|refine Stp.go ?_|refine StpE.go E ?_
   refine(eqBs_ok (by omega) ((g2.cons _).cons _) ((g4.cons _).cons _) E).mono ?_
   clear E
   rintro r w_ ⟨rfl,E⟩
   repeat with_reducible refine Stp.go ?_
   refine fin _ _ ?_ E
   by_cases k3:m.cr=n.cr
   ·rw[decide_eq_true k3,decide_eq_true (hmn.2 ⟨k1,k2,k3⟩)]
   ·rw[decide_eq_false k3,decide_eq_false (λh=>k3 (hmn.1 h).2.2)]
  ·rw[decide_eq_false k2]
   repeat with_reducible refine Stp.go ?_
   exact fin _ _ (by rw[decide_eq_false (λh=>k2 (hmn.1 h).2.1)]) E
 ·rw[decide_eq_false k1]
  repeat with_reducible refine Stp.go ?_
  exact fin _ _ (by rw[decide_eq_false (λh=>k1 (hmn.1 h).1)]) E
theorem sameTable_ok{a b:Value}{ms ns:List Mt}{us vs:List (Value×Value)}(hR:PoolS R∈l)(h1:TbV R us ms)(h2:TbV R vs ns)(hn:ms.length≤64)(hf:∀m∈ms,m.new.length≤16∧m.cr.length≤16)
  (g1:RdS w0 F l 4 ms.length a (mcs ms us))(g2:RdS w0 F l 4 ns.length b (mcs ns vs))(E:Hs w0 F w l):
  Ca PP Fn.f51 #[a,b] w λr w'=>r=.bool (decide (ms=ns))∧Hs w0 F w' l:=by
 refine S.f51.calls ?_
 unfold S.f51
 refine Ca.mono (k:=λr w'=>r=.bool (decide (ms=ns))∧Hs w0 F w' l) ?_ λr w' h=>h
 refine S.f2.calls ?_
 unfold S.f2
 refine g1.len ?_
 refine g2.len ?_
 refine Bi.neq ?_ ?_<;>intro hne<;>(repeat with_reducible refine Stp.go ?_)
 ·rw[decide_eq_false (show ¬ms=ns by rintro rfl;exact hne rfl)]
  exact⟨rfl,E⟩
 have hl:ms.length=ns.length:=by omega
 refine g1.len ?_
 refine⟨λl1 w1=>∃i:Nat,l1=[i64 i]∧i≤ms.length∧ms.take i=ns.take i∧Hs w0 F w1 l,λl1 _=>match l1 with|[.int _ i]=>ms.length-i.toNat|_=>0,⟨0,rfl,Nat.zero_le _,rfl,E⟩,?_⟩
 clear E
 rintro t u1 w1 ⟨i,e,hi,htk,E⟩
 cases e
 refine Bi.lss ?_ ?_<;>intro hlt
 ·refine Cnd.t ?_
  have hi1:i<ms.length:=by omega
  have hi2:i<ns.length:=by omega
  have e1:ms[i]? =some ms[i]:=List.getElem?_eq_getElem hi1
  have e2:us[i]? =some (us[i]'(by rw[h1.len];exact hi1)):=List.getElem?_eq_getElem (by rw[h1.len];exact hi1)
  have e3:ns[i]? =some ns[i]:=List.getElem?_eq_getElem hi2
  have e4:vs[i]? =some (vs[i]'(by rw[h2.len];exact hi2)):=List.getElem?_eq_getElem (by rw[h2.len];exact hi2)
  obtain⟨y1,y2⟩:=h1.row _ _ _ e1 e2
  obtain⟨y3,y4⟩:=h2.row _ _ _ e3 e4
  obtain⟨f1,f2⟩:=hf _ (List.getElem_mem hi1)
  have t1:ms.take (i+1)=ms.take i++[ms[i]]:=by rw[List.take_add_one,e1];rfl
  have t2:ns.take (i+1)=ns.take i++[ns[i]]:=by rw[List.take_add_one,e3];rfl
  have hno:ms[i]≠ns[i]→¬ms=ns:=by
   intro h3 h4
   have h5:ms[i]? =ns[i]?:=congrArg (λl=>l[i]?) h4
   exact h3 (Option.some.inj (e1.symm.trans (h5.trans e3)))
  refine g1.ix (by omega) (by omega) (by omega) ?_
  intro x hx
  rw[Int.toNat_natCast,mcs_at e1 e2]at hx
  refine hx.lda E (m:=4) (ds:=ms[i].C (us[i]'(by rw[h1.len];exact hi1))) rfl rfl (by omega) ?_
  generalize us[i]'(by rw[h1.len];exact hi1)=u at*
  have s1:Scal u.1:=⟨RdyS.scal (n:=ms[i].new.length) y1 (pcs_len _) (by omega) hR E⟩
  have s2:Scal u.2:=⟨RdyS.scal (n:=ms[i].cr.length) y2 (by simp) (by omega) hR E⟩
  repeat with_reducible first|(refine StpW.go E ?_;clear E;intro w_ E)|(refine StpA.go E ?_;clear E;intro b_ w_ hb_ E)
  (revert b_;intro q1 hbq1 E)
  (first|(refine StA.all E rfl rfl (by first|exact rfl|assumption) ?_;clear E;intro w_ E)|try (refine StA.by E rfl (by first|exact rfl|assumption) ?_;clear E;intro w_ E))
  refine g2.ix (by omega) (by omega) (by omega) ?_
  intro x2 hx2
  rw[Int.toNat_natCast,mcs_at e3 e4]at hx2
  refine(hx2.weaken λ_ E=>E.tl).lda E (m:=4) (ds:=ns[i].C (vs[i]'(by rw[h2.len];exact hi2))) rfl rfl (by omega) ?_
  generalize vs[i]'(by rw[h2.len];exact hi2)=v at*
  have s3:Scal v.1:=⟨RdyS.scal (n:=ns[i].new.length) y3 (pcs_len _) (by omega) (List.mem_cons_of_mem _ hR) E⟩
  have s4:Scal v.2:=⟨RdyS.scal (n:=ns[i].cr.length) y4 (by simp) (by omega) (List.mem_cons_of_mem _ hR) E⟩
  repeat with_reducible first|refine StpE.go E ?_|(refine StpW.go E ?_;clear E;intro w_ E)|(refine StpA.go E ?_;clear E;intro b_ w_ hb_ E)
  (revert b_;intro q2 hbq2 E)
  (first|(refine StA.all E rfl rfl (by first|exact rfl|assumption) ?_;clear E;intro w_ E)|try (refine StA.by E rfl (by first|exact rfl|assumption) ?_;clear E;intro w_ E))
  skip
  refine CaV.mk b_same1 ?_
  have hR2:PoolS R∈(pt q2 (oc (ns[i].C v) Ty.t8)::pt q1 (oc (ms[i].C u) Ty.t8)::l):=List.mem_cons_of_mem _ (List.mem_cons_of_mem _ hR)
  refine(same1_ok (m:=ms[i]) (n:=ns[i]) (u:=u) (v:=v) f1 f2 (y1.read (pcs_len _) (by omega) E hR2) (y2.read (by simp) (by omega) E hR2) (y3.read (pcs_len _) (by omega) E hR2) (y4.read (by simp) (by omega) E hR2) E).mono ?_
  clear E
  rintro r w_ ⟨rfl,E⟩
  by_cases hp:ms[i]=ns[i]
  ·rw[decide_eq_true hp]
   repeat with_reducible refine Stp.go ?_
   refine Bi.add (by omega) ?_
   exact⟨⟨i+1,by simp,by omega,by rw[t1,t2,htk,hp],E.tl.tl⟩,by simp only[];omega⟩
  ·rw[decide_eq_false hp]
   repeat with_reducible refine Stp.go ?_
   rw[decide_eq_false (hno hp)]
   exact⟨rfl,E.tl.tl⟩
 ·refine Cnd.f ?_
  have hie:i=ms.length:=by omega
  rw[hie,List.take_length,hl,List.take_length]at htk
  rw[decide_eq_true htk]
  exact⟨rfl,E⟩
set_option maxRecDepth 100000
set_option linter.unusedVariables false
set_option linter.unusedSimpArgs false
variable {w0 w:World} {F:Nat→Prop} {l r1 r2 r3:List As}
def bigN(p:Pn):Bool:=decide (200<p.path.size+p.data.size)
def fewL(ps:List Pn):Bool:=decide (ps.length≤12) && !ps.any bigN
def fewS(user:BA)(pls:List (List Pn)):Bool:=decide (1≤pls.length) && decide (pls.length≤4) && decide (user.size≤100) && pls.all fewL
theorem b_few1S:hasBody PP Fn.f127=true:=by kernel_rfl
theorem few1S_ok{p:Pn}(h1:p.path.size≤140737488355328)(h2:p.data.size≤140737488355328)(E:Hs w0 F w l):Ca PP Fn.f127 #[.agg p.cs.toArray] w λr w'=>r=.bool (bigN p)∧Hs w0 F w' l:=by
 refine S.f127.calls ?_
 unfold S.f127
 repeat with_reducible first|refine Stp.go ?_|refine StpE.go E ?_|(refine StpA.go E ?_;clear E;intro b_ w_ hb_ E)
 refine Bi.add (by omega) ?_
 unfold bigN
 refine Bi.gtr ?_ ?_<;>intro hb
 ·exact⟨by rw[decide_eq_true (by omega)],E.tl⟩
 ·exact⟨by rw[decide_eq_false (by omega)],E.tl⟩
theorem anyN_ok{v:Value}{ps:List Pn}(hn:ps.length≤12)(hs:∀p∈ps,p.path.size≤140737488355328∧p.data.size≤140737488355328)(h:RdS w0 F l 3 ps.length v (ncs ps))(E:Hs w0 F w l):
  Ca PP Fn.f14 #[v,.func (.func Fn.f127) #[] #[]] w λr w'=>r=.bool (ps.any bigN)∧Hs w0 F w' l:=by
 refine S.f14.calls ?_
 unfold S.f14
 have idx:Ca PP Fn.f17 #[v,.func (.func Fn.f127) #[] #[]] w λr w'=>(∃n:Int,r=i64 n∧(0≤n↔ps.any bigN=true))∧Hs w0 F w' l:=by
  refine S.f17.calls ?_
  unfold S.f17
  refine h.len ?_
  refine⟨λl1 w1=>∃i:Nat,l1=[i64 i]∧i≤ps.length∧(ps.take i).any bigN=false∧Hs w0 F w1 l,λl1 _=>match l1 with|[.int _ i]=>ps.length-i.toNat|_=>0,⟨0,rfl,Nat.zero_le _,by simp,E⟩,?_⟩
  clear E
  rintro t u1 w1 ⟨i,e,hi,hp,E⟩
  cases e
  refine Bi.lss ?_ ?_<;>intro hlt<;>(repeat with_reducible refine Stp.go ?_)
  ·have hi1:i<ps.length:=by omega
   have hd:(ncs ps).drop (((i:Int)).toNat*3)=ps[i].cs++ncs (ps.drop (i+1)):=by
    rw[Int.toNat_natCast,ncs_drop,List.drop_eq_getElem_cons hi1];rfl
   refine h.ix (by omega) (by omega) (by omega) ?_
   intro a ha
   rw[hd]at ha
   refine ha.lda E (m:=3) (ds:=ps[i].cs) rfl rfl (by omega) ?_
   refine CaV.mk b_few1S ?_
   obtain⟨z1,z2⟩:=hs _ (List.getElem_mem hi1)
   refine(few1S_ok (p:=ps[i]) z1 z2 E).mono ?_
   clear E
   rintro r w_ ⟨rfl,E⟩
   have htk:(ps.take (i+1)).any bigN=bigN ps[i]:=by rw[List.take_add_one,List.getElem?_eq_getElem hi1,List.any_append,hp];simp
   cases hb:bigN ps[i]with
   |true=>
    repeat with_reducible refine Stp.go ?_
    refine⟨⟨i,rfl,⟨λ_=>?_,λ_=>by omega⟩⟩,E⟩
    rw[List.any_eq_true];exact⟨_,List.getElem_mem _,hb⟩
   |false=>
    repeat with_reducible refine Stp.go ?_
    refine Bi.add (by omega) ?_
    exact⟨⟨i+1,by simp,by omega,by rw[htk,hb],E⟩,by simp only[];omega⟩
  ·have:ps.take i=ps:=List.take_of_length_le (by omega)
   rw[this]at hp
   exact⟨⟨-1,rfl,⟨λh=>by omega,λh=>by rw[hp]at h;cases h⟩⟩,E⟩
 refine idx.mono ?_
 clear E
 rintro r w_ ⟨⟨n,rfl,hn⟩,E⟩
 refine Bi.geq ?_ ?_<;>intro h1
 ·exact⟨by rw[hn.1 h1],E⟩
 ·have:ps.any bigN=false:=by
   cases h2:ps.any bigN with
   |false=>rfl
   |true=>have:=hn.2 h2;omega
  exact⟨by rw[this],E⟩
theorem fewS_okM{user:BA}{pv:Value}{vs:List Value}{pls:List (List Pn)}(hp:PlsIn w0 F l pv vs pls)(hs:∀ps∈pls,∀p∈ps,p.path.size≤140737488355328∧p.data.size≤140737488355328)(E:Hs w0 F w l):
  Ca PP Fn.law29_few #[.agg #[str user,pv]] w λr w'=>r=.bool (fewS user pls)∧Hs w0 F w' l:=by
 refine S.law29_few.calls ?_
 unfold S.law29_few
 have hvl:vs.length=pls.length:=by obtain⟨_,_,_,_,h1,_⟩:=hp.v;omega
 have ipv:Scal pv:=RdS_scal hp.v
 refine StpA.go E ?_
 clear E
 intro t1 w_ h1_ E
 intro J3 hJ3
 have bad:∀w_,fewS user pls=false→Hs w0 F w_ (pt t1 (oc [str user,pv] Ty.t48)::l)→J3 [.bool true] w_:=by
  intro w_ hb E
  refine hJ3 _ w_ λu=>Cnd.t ?_
  rw[hb]
  exact⟨rfl,E.tl⟩
 have good:∀w_,1≤pls.length→pls.length≤4→user.size≤100→Hs w0 F w_ (pt t1 (oc [str user,pv] Ty.t48)::l)→J3 [.bool false] w_:=by
  intro w_ k1 k2 k3 E
  refine hJ3 _ w_ λu=>Cnd.f ?_
  clear hJ3 bad
  have hf:fewS user pls=pls.all fewL:=by unfold fewS;rw[decide_eq_true k1,decide_eq_true k2,decide_eq_true k3];rfl
  rw[hf]
  repeat with_reducible first|refine Stp.go ?_|refine StpE.go E ?_
  refine hp.v.len ?_
  refine⟨λl1 w1=>∃i:Nat,l1=[i64 i]∧i≤pls.length∧(pls.take i).all fewL=true∧Hs w0 F w1 (pt t1 (oc [str user,pv] Ty.t48)::l),λl1 _=>match l1 with|[.int _ i]=>pls.length-i.toNat|_=>0,⟨0,rfl,Nat.zero_le _,by simp,E⟩,?_⟩
  clear E
  rintro t u1 w1 ⟨i,e,hi,hx,E⟩
  cases e
  refine Bi.lss ?_ ?_<;>intro hlt
  ·refine Cnd.t ?_
   have hi1:i<pls.length:=by omega
   refine hp.v.ix (by omega) (by omega) (by omega) ?_
   intro b hb
   rw[Int.toNat_natCast,Nat.mul_one]at hb
   refine(hb.weaken λ_ E=>E.tl).ld E (x:=vs[i]'(by omega)) (by rw[List.getElem?_drop,Nat.add_zero,List.getElem?_eq_getElem]) ?_
   have hr:=hp.row i (vs[i]'(by omega)) pls[i] (List.getElem?_eq_getElem (by omega)) (List.getElem?_eq_getElem hi1)
   have hm:=List.getElem_mem hi1
   have htk:(pls.take (i+1)).all fewL=fewL pls[i]:=by rw[List.take_add_one,List.getElem?_eq_getElem hi1,List.all_append,hx];simp
   have hsm:=hs _ hm
   intro J18 hJ18
   have no:∀w_,fewL pls[i]=false→Hs w0 F w_ (pt t1 (oc [str user,pv] Ty.t48)::l)→J18 [.bool true] w_:=by
    intro w_ hb E
    refine hJ18 _ w_ λu=>Cnd.t ?_
    refine⟨?_,E.tl⟩
    have:pls.all fewL=false:=by
     rw[List.all_eq_false]
     exact⟨_,hm,by rw[hb];simp⟩
    rw[this]
   have yes:∀w_,fewL pls[i]=true→Hs w0 F w_ (pt t1 (oc [str user,pv] Ty.t48)::l)→J18 [.bool false] w_:=by
    intro w_ hb E
    refine hJ18 _ w_ λu=>Cnd.f ?_
    refine Bi.add (by omega) ?_
    exact⟨⟨i+1,by simp,by omega,by rw[htk,hb],E⟩,by simp only[];omega⟩
   clear hJ18
   generalize pls[i]=ps at*
   generalize vs[i]'(by omega)=v at*
   refine hr.len ?_
   refine Bi.gtr ?_ ?_<;>intro h12<;>(repeat with_reducible refine Stp.go ?_)
   ·exact no _ (by unfold fewL;rw[decide_eq_false (by omega)];rfl) E
   ·refine(anyN_ok (by omega) hsm (hr.cons _) E).mono ?_
    clear E
    rintro r w_ ⟨rfl,E⟩
    cases hb:ps.any bigN with
    |true=>
     repeat with_reducible refine Stp.go ?_
     exact no _ (by unfold fewL;rw[hb];simp) E
    |false=>
     repeat with_reducible refine Stp.go ?_
     exact yes _ (by unfold fewL;rw[hb,decide_eq_true (by omega)];rfl) E
  ·refine Cnd.f ?_
   have hie:i=pls.length:=by omega
   rw[hie,List.take_length]at hx
   rw[hx]
   exact⟨rfl,E.tl⟩
 clear hJ3
 repeat with_reducible first|refine Stp.go ?_|refine StpE.go E ?_
 refine hp.v.len ?_
 refine Bi.lss ?_ ?_<;>intro k1<;>(repeat with_reducible first|refine Stp.go ?_|refine StpE.go E ?_)
 ·exact bad _ (by unfold fewS;rw[decide_eq_false (show ¬1≤pls.length by omega)];rfl) E
 refine hp.v.len ?_
 repeat with_reducible refine Stp.go ?_
 refine Bi.gtr ?_ ?_<;>intro k2<;>(repeat with_reducible first|refine Stp.go ?_|refine StpE.go E ?_)
 ·exact bad _ (by unfold fewS;rw[decide_eq_false (show ¬pls.length≤4 by omega)];simp) E
 refine Bi.gtr ?_ ?_<;>intro k3<;>(repeat with_reducible refine Stp.go ?_)
 ·exact bad _ (by unfold fewS;rw[decide_eq_false (show ¬user.size≤100 by omega)];simp) E
 ·exact good _ (by omega) (by omega) (by omega) E
set_option maxRecDepth 100000
set_option linter.unusedVariables false
set_option linter.unusedSimpArgs false
variable {w0 w:World} {F:Nat→Prop} {l:List As}
abbrev xcs(xs:List Xa):List Value:=xs.flatMap Xa.C
theorem xcs_drop(ds:List Xa):∀i:Nat,(xcs ds).drop (i*18)=xcs (ds.drop i):=by
 induction ds with
 |nil=>intro i;simp
 |cons d r ih=>
  intro i
  cases i with
  |zero=>simp
  |succ i=>
   rw[xcs,List.flatMap_cons,show(i+1)*18=i*18+18 by omega]
   simp only[Xa.C,List.cons_append,List.nil_append,List.drop_succ_cons]
   exact ih i
theorem anyX_ok{v:Value}{xs:List Xa}(hn:xs.length≤40)(hx:∀x∈xs,x.Ok)(h:RdS w0 F l 18 xs.length v (xcs xs))(E:Hs w0 F w l):
  Ca PP Fn.f21 #[v,.func (.func Fn.f128) #[] #[]] w λr w'=>r=.bool (xs.any bigX)∧Hs w0 F w' l:=by
 refine S.f21.calls ?_
 unfold S.f21
 have idx:Ca PP Fn.f27 #[v,.func (.func Fn.f128) #[] #[]] w λr w'=>(∃n:Int,r=i64 n∧(0≤n↔xs.any bigX=true))∧Hs w0 F w' l:=by
  refine S.f27.calls ?_
  unfold S.f27
  refine h.len ?_
  refine⟨λl1 w1=>∃i:Nat,l1=[i64 i]∧i≤xs.length∧(xs.take i).any bigX=false∧Hs w0 F w1 l,λl1 _=>match l1 with|[.int _ i]=>xs.length-i.toNat|_=>0,⟨0,rfl,Nat.zero_le _,by simp,E⟩,?_⟩
  clear E
  rintro t u1 w1 ⟨i,e,hi,hp,E⟩
  cases e
  refine Bi.lss ?_ ?_<;>intro hlt<;>(repeat with_reducible refine Stp.go ?_)
  ·have hi1:i<xs.length:=by omega
   have hd:(xcs xs).drop (((i:Int)).toNat*18)=xs[i].C++xcs (xs.drop (i+1)):=by
    rw[Int.toNat_natCast,xcs_drop,List.drop_eq_getElem_cons hi1];rfl
   refine h.ix (by omega) (by omega) (by omega) ?_
   intro a ha
   rw[hd]at ha
   refine ha.lda E (m:=18) (ds:=xs[i].C) rfl rfl (by omega) ?_
   refine CaV.mk b_fewX ?_
   refine(FewX1_ok (x:=xs[i]) (hx _ (List.getElem_mem hi1)) E).mono ?_
   clear E
   rintro r w_ ⟨rfl,E⟩
   have htk:(xs.take (i+1)).any bigX=bigX xs[i]:=by rw[List.take_add_one,List.getElem?_eq_getElem hi1,List.any_append,hp];simp
   cases hb:bigX xs[i]with
   |true=>
    repeat with_reducible refine Stp.go ?_
    refine⟨⟨i,rfl,⟨λ_=>?_,λ_=>by omega⟩⟩,E⟩
    rw[List.any_eq_true];exact⟨_,List.getElem_mem _,hb⟩
   |false=>
    repeat with_reducible refine Stp.go ?_
    refine Bi.add (by omega) ?_
    exact⟨⟨i+1,by simp,by omega,by rw[htk,hb],E⟩,by simp only[];omega⟩
  ·have:xs.take i=xs:=List.take_of_length_le (by omega)
   rw[this]at hp
   exact⟨⟨-1,rfl,⟨λh=>by omega,λh=>by rw[hp]at h;cases h⟩⟩,E⟩
 refine idx.mono ?_
 clear E idx
 rintro r w_ ⟨⟨n,rfl,hn⟩,E⟩
 refine Bi.geq ?_ ?_<;>intro h1
 ·exact⟨by rw[hn.1 h1],E⟩
 ·have:xs.any bigX=false:=by
   cases h2:xs.any bigX with
   |false=>rfl
   |true=>have:=hn.2 h2;omega
  exact⟨by rw[this],E⟩
def fewX(xs:List Xa):Bool:=decide (xs.length≤40) && !xs.any bigX
theorem FewX_ok{v:Value}{xs:List Xa}(hx:∀x∈xs,x.Ok)(h:RdS w0 F l 18 xs.length v (xcs xs))(E:Hs w0 F w l):
  Ca PP Fn.law29_Few #[v] w λr w'=>r=.bool (fewX xs)∧Hs w0 F w' l:=by
 refine S.law29_Few.calls ?_
 unfold S.law29_Few
 (intro J1 hJ1)
 have fin:∀b w_,b=fewX xs→Hs w0 F w_ l→J1 [.bool b] w_:=by
  rintro b w_ hb E
  repeat with_reducible (apply hJ1;intro u_)
  exact⟨by rw[hb],E⟩
 clear hJ1
 refine h.len ?_
 refine Bi.leq ?_ ?_<;>intro hle<;>(repeat with_reducible refine Stp.go ?_)
 ·refine(anyX_ok (by omega) hx h E).mono ?_
  clear E
  rintro r w_ ⟨rfl,E⟩
  cases hb:xs.any bigX with
  |true=>
   repeat with_reducible refine Stp.go ?_
   exact fin _ _ (by unfold fewX;rw[hb];simp) E
  |false=>
   repeat with_reducible refine Stp.go ?_
   exact fin _ _ (by unfold fewX;rw[hb,decide_eq_true (by omega)];rfl) E
 ·exact fin _ _ (by unfold fewX;rw[decide_eq_false (by omega)];rfl) E
set_option maxRecDepth 100000
set_option linter.unusedVariables false
set_option linter.unusedSimpArgs false
variable {w0 w:World} {F:Nat→Prop} {l r1 r2 r3:List As}
variable {R:List RowS} {D:List Row} {Xs:List PT} {tA:List Nat} {M:TbM} {K:SpM} {N:Int} {y:Sy}
theorem Fit.ta(h:Fit R D Xs tA M K N y):tA.length=y.Ts.length:=by rw[← h.wo.adr,List.length_map,h.wo.len]
theorem fewX_one{xs:List Xa}(h:fewX xs=true):xs.length≤40∧∀x∈xs,x.total≤700:=by
 unfold fewX at h
 rw[Bool.and_eq_true,decide_eq_true_eq]at h
 refine⟨h.1,λx hx=>?_⟩
 have h2:xs.any bigX=false:=by simpa using h.2
 rw[List.any_eq_false]at h2
 have:=h2 x hx
 unfold bigX at this
 rcases Nat.lt_or_ge 700 x.total with h3|h3
 ·rw[decide_eq_true h3]at this
  simp at this
 ·exact h3
theorem fewS_of{user:BA}{pls:List (List Pn)}(h:fewS user pls=true):pls≠[]∧pls.length≤4∧user.size≤100∧(∀ps∈pls,ps.length≤12)∧∀ps∈pls,∀p∈ps,p.path.size≤1000:=by
 unfold fewS at h
 simp only[Bool.and_eq_true,decide_eq_true_eq,List.all_eq_true]at h
 obtain⟨⟨⟨h1,h2⟩,h3⟩,h4⟩:=h
 refine⟨λh5=>by rw[h5]at h1;simp at h1,h2,h3,λps hps=>?_,λps hps p hp=>?_⟩
 ·have:=h4 ps hps
  unfold fewL at this
  rw[Bool.and_eq_true,decide_eq_true_eq]at this
  exact this.1
 ·have:=h4 ps hps
  unfold fewL at this
  rw[Bool.and_eq_true]at this
  have h5:ps.any bigN=false:=by simpa using this.2
  rw[List.any_eq_false]at h5
  have:=h5 p hp
  unfold bigN at this
  simp at this
  omega
theorem mtI_small{k:Nat}{ms:List Mt}(h:∀m∈ms,MtI k m):∀m∈ms,m.new.length≤16∧m.cr.length≤16:=λm hm=>⟨(h m hm).few,by rw[(h m hm).cr];exact(h m hm).few⟩
theorem xcs_at{xs:List Xa}{i:Nat}(hi:i<xs.length):(xcs xs).drop (((i:Int)).toNat*18)=xs[i].C++xcs (xs.drop (i+1)):=by
 rw[Int.toNat_natCast,xcs_drop,List.drop_eq_getElem_cons hi];rfl
set_option maxRecDepth 100000
set_option linter.unusedVariables false
set_option linter.unusedSimpArgs false
variable {w0 w:World} {F:Nat→Prop} {l r1 r2 r3:List As}
variable {R:List RowS} {D:List Row} {Xs:List PT} {tA:List Nat} {M:TbM} {K:SpM} {N:Int} {y:Sy}

abbrev S5(tA:List Nat)(M:TbM)(K:SpM)(y:Sy)(l:List As):List As:=
 pt K.a (spO K M.a y.sp)::mp K.om (.int .i64) (ovM K.ov)::pt M.a (tbO M)::slA M.tv Ty.api_Tree 1 (tcs tA y.tb.ts)::slA M.mv Ty.t8 4 (mcs y.tb.ms M.vs)::l

theorem Fit.other{R':List RowS}{D':List Row}{Xs':List PT}{M' M2:TbM}{K' K2:SpM}{N':Int}{y' y2:Sy}(h':Fit R' D' Xs' tA M' K' N' y')(h2:Fit R D Xs tA M2 K2 N y2)(hR:∀x∈R,x∈R'):Fit R' D' Xs' tA M2 K2 N' {y2 with Ts:=y'.Ts}:=by
 have hl:y'.Ts.length=y2.Ts.length:=by rw[← h'.ta,← h2.ta]
 refine⟨h2.tb.mono hR,h2.sp.mono hR,h'.wo,⟨h'.inv.t,?_,?_⟩⟩
 ·show TbI y'.Ts.length y2.tb
  rw[hl];exact h2.inv.tb
 ·show SpI y'.Ts.length y2.sp
  rw[hl];exact h2.inv.sp
set_option maxRecDepth 100000
set_option linter.unusedVariables false
set_option linter.unusedSimpArgs false
variable {w0:World} {F:Nat→Prop} {l:List As}

theorem AppendSeqI_ok{w:World}{g:Value}{gf:FuncId}{first cap:Array Value}{Pf:List Int→Int→Prop}{Whole:List Int→Prop}{own vis own' rest:List As}(hg:g=.func (.func gf) first cap)(hb:hasBody PP gf=true)
  (hit:Iter PP w0 F g i64 Pf Whole own vis own')(hsz:∀pre x,Pf pre x→pre.length<1000000000)(E:Hs w0 F w (own++rest)):
  Ca PP Fn.f52 #[.slice none 0 0,g] w λv w'=>∃xs,Whole xs∧Hs w0 F w' (slA v Ty.int 1 (xs.map i64)::(own'++rest)):=by
 refine S.f52.calls ?_
 unfold S.f52
 repeat with_reducible (refine StpA.go E ?_;clear E;intro b_ w_ hb_ E)
 (revert b_;intro b hbb E)
 replace E:=(E.nilSl Ty.int 1)
 refine RFo.hs hg hb hit (λpre ks=>∃v,ks=[slA v Ty.int 1 (pre.map i64),pt b (oc [v] Ty.sl_int)]) (λ_ _ _=>False) (λ_ _=>False) (ks:=[slA (.slice none 0 0) Ty.int 1 [],pt b (oc [.slice none 0 0] Ty.sl_int)]) E ⟨_,rfl⟩ ?_ ?_ (λ_ _ _ _ _ _ h _=>h.elim) (λ_ _ _ _ _ h _=>h.elim)
 ·clear E
  rintro r L D pre x w_ _ rest' Rn Re Rr hL hD hp ⟨v,rfl⟩ E hn - -
  simp only[List.cons_append,List.nil_append]at E
  repeat with_reducible first|refine Stp.go ?_|refine StpE.go E ?_|(refine StpW.go E ?_;clear E;intro w_ E)
  refine BdS.one E u_sl_int e_int rfl ?_
  intro v2 w_ E
  have:=hsz _ _ hp
  refine Ap.one E (i:=3) rfl u_sl_int ⟨_,u_sl_int,λ_ h=>by cases h⟩ e_int (Src.one E (by (first|assumption|exact FPt.mem|exact FMp.mem|exact FSl.mem|(repeat(first|assumption|with_reducible exact List.mem_cons_self|refine List.mem_cons_of_mem _ ?_)))) rfl) rfl (by simp;omega) (by simp;omega) ?_
  intro s' w_ E
  (try simp only[List.set_cons_zero,List.set_cons_succ,List.cons_append,List.nil_append,Nat.zero_add,Nat.add_zero]at E)
  repeat with_reducible (refine StpW.go E ?_;clear E;intro w_ E)
  refine hn _ _ ⟨s',rfl⟩ ?_
  simp only[List.cons_append,List.nil_append]
  (replace E:=(E.bSl v2))
  (replace E:=(E.bIx 0).tl)
  (replace E:=((((E.bPt b).bSl s').bPt D).bPt L))
  have e1:(pre++[x]).map i64=pre.map i64++[i64 x]:=by simp
  rw[e1]
  exact E
 ·clear E
  rintro D w_ xs _ hD hw ⟨v,rfl⟩ E
  simp only[List.cons_append,List.nil_append]at E
  repeat with_reducible first|refine Stp.go ?_|refine StpE.go E ?_|(refine StpW.go E ?_;clear E;intro w_ E)
  refine⟨xs,hw,?_⟩
  (replace E:=(E.bPt b))
  (replace E:=(E.bIx 0).tl)
  exact E
theorem CollectI_ok{w:World}{g:Value}{gf:FuncId}{first cap:Array Value}{Pf:List Int→Int→Prop}{Whole:List Int→Prop}{own vis own' rest:List As}(hg:g=.func (.func gf) first cap)(hb:hasBody PP gf=true)
  (hit:Iter PP w0 F g i64 Pf Whole own vis own')(hsz:∀pre x,Pf pre x→pre.length<1000000000)(E:Hs w0 F w (own++rest)):
  Ca PP Fn.f98 #[g] w λv w'=>∃xs,Whole xs∧Hs w0 F w' (slA v Ty.int 1 (xs.map i64)::(own'++rest)):=by
 refine S.f98.calls ?_
 unfold S.f98
 exact AppendSeqI_ok hg hb hit hsz E
def sortI(xs:List Int):List Int:=xs.mergeSort λx y=>decide (x≤y)
theorem SortI_ok{w:World}{v:Value}{xs:List Int}(hn:xs.length<4611686018427387904)(E:Hs w0 F w (slA v Ty.int 1 (xs.map i64)::l)):
  Ca PP Fn.slices_Sort_sl_int_int #[v] w λr w'=>Hs w0 F w' (slA v Ty.int 1 ((sortI xs).map i64)::l):=by
 have hs:=E.sat _ List.mem_cons_self
 rcases SliceAt.holds (enc:=Value.int .i64) hs with⟨rfl,h0⟩|⟨b,off,cap,rfl,hH,hlt,hcap⟩
 ·subst h0
  refine Calls.mono (Tryz.slices_Sort_int_none none 0 w) ?_
  rintro e w' ⟨rfl,rfl⟩
  exact⟨_,rfl,by simpa[sortI] using E⟩
 ·refine Calls.mono (Tryz.slices_Sort_int b off cap xs w hH hlt hn) ?_
  rintro e w' ⟨rfl,n,os,rfl⟩
  refine⟨_,rfl,?_⟩
  have:=hs_sortRow E (enc:=Value.int .i64) (k:=n) (os:=os) (d:=(xs.mergeSort λx y=>decide (x≤y)).toArray) rfl (by simp)
  exact this
theorem SortedI_ok{w:World}{g:Value}{gf:FuncId}{first cap:Array Value}{Pf:List Int→Int→Prop}{Whole:List Int→Prop}{own vis own' rest:List As}(hg:g=.func (.func gf) first cap)(hb:hasBody PP gf=true)
  (hit:Iter PP w0 F g i64 Pf Whole own vis own')(hsz:∀pre x,Pf pre x→pre.length<1000000000)(hw:∀xs,Whole xs→xs.length<4611686018427387904)(E:Hs w0 F w (own++rest)):
  Ca PP Fn.f111 #[g] w λv w'=>∃xs,Whole xs∧Hs w0 F w' (slA v Ty.int 1 ((sortI xs).map i64)::(own'++rest)):=by
 refine S.f111.calls ?_
 unfold S.f111
 refine(CollectI_ok hg hb hit hsz E).mono ?_
 clear E
 rintro v w_ ⟨xs,hx,E⟩
 refine(SortI_ok (hw _ hx) E).mono ?_
 clear E
 intro r w_ E
 exact⟨xs,hx,E⟩
set_option maxRecDepth 100000
set_option linter.unusedVariables false
set_option linter.unusedSimpArgs false
variable {w0 w:World} {F:Nat→Prop} {l r1 r2 r3:List As}
variable {K:SpM}
theorem KeysH_ok{m:Nat}(E:Hs w0 F w l):Ca PP Fn.f10 #[.map (some m)] w λr w'=>∃a,r=keysHF a∧Hs w0 F w' (pt a (oc [.map (some m)] Ty.t26)::l):=by
 refine S.f10.calls ?_
 unfold S.f10
 repeat with_reducible (refine StpA.go E ?_;clear E;intro b_ w_ hb_ E)
 (revert b_;intro a hba E)
 exact⟨a,rfl,E⟩

theorem Files_none{ta:Nat}{sp:Sp}(h:K.ov=[])(E:Hs w0 F w (pt K.a (spO K ta sp)::mp K.om (.int .i64) (ovM K.ov)::l)):
  Ca PP Fn.f91 #[ptr K.a] w λr w'=>(∃a c,r=.slice a 0 c)∧Hs w0 F w' (pt K.a (spO K ta sp)::mp K.om (.int .i64) (ovM K.ov)::l):=by
 refine S.f91.calls ?_
 unfold S.f91
 refine Eq.ef u_p_Space rfl ?_
 repeat with_reducible first|refine Stp.go ?_|refine StpE.go E ?_
 refine(KeysH_ok E).mono ?_
 clear E
 rintro r w_ ⟨a,rfl,E⟩
 (replace E:=(((E.bIx 1).bIx 2).bIx 2))
 refine(SortedI_ok (rest:=pt K.a (spO K ta sp)::l) rfl b_keysH1 (keysH_iter (M:=K.ov)) (λpre x hp=>by have:=hp.1;rw[h]at this;simp at this) (λxs hx=>by have:=hx.length_eq;rw[h]at this;simp at this;rw[this];simp) E).mono ?_
 clear E
 rintro v w_ ⟨xs,hxs,E⟩
 simp only[List.cons_append,List.nil_append]at E
 have hx0:xs=[]:=by
  rw[h]at hxs
  exact List.Perm.eq_nil hxs
 subst hx0
 have hrd:=RdS.sl (v:=v) (T:=Ty.int) (sz:=1) (xs:=(sortI []).map i64) (by simp) (by omega) E
 skip
 obtain⟨a',c,hv,-⟩:=hrd
 refine⟨⟨a',c,by rw[hv];simp[sortI]⟩,?_⟩
 (replace E:=((((E.bIx 1).bIx 1).bIx 2).bIx 3))
 exact(E.bIx 2).tl.bIx 2 |>.tl
set_option maxRecDepth 100000
set_option linter.unusedVariables false
set_option linter.unusedSimpArgs false
variable {w0 w:World} {F:Nat→Prop} {l r1 r2 r3:List As}
variable {R:List RowS} {D:List Row} {Xs:List PT} {tA:List Nat} {M Ma Mb:TbM} {K Ka Kb Kc:SpM} {N:Int} {y ya yb:Sy} {sc:Sp}

abbrev S2(ma:Nat)(K:SpM)(sp:Sp)(l:List As):List As:=pt K.a (spO K ma sp)::mp K.om (.int .i64) (ovM K.ov)::l
theorem Fit.shared{R':List RowS}{D':List Row}{Xs':List PT}{M':TbM}{K':SpM}{N':Int}{y':Sy}(h':Fit R' D' Xs' tA M' K' N' y')(h:Fit R D Xs tA M K N y)(hR:∀x∈R,x∈R'):Fit R' D' Xs' tA M' K N' {y' with sp:=y.sp}:=by
 have hl:y'.Ts.length=y.Ts.length:=by rw[← h'.ta,← h.ta]
 refine⟨h'.tb,h.sp.mono hR,h'.wo,⟨h'.inv.t,h'.inv.tb,?_⟩⟩
 show SpI y'.Ts.length y.sp
 rw[hl];exact h.inv.sp
theorem Fit.rows{R':List RowS}(h:Fit R D Xs tA M K N y)(hR:∀x∈R,x∈R'):Fit R' D Xs tA M K N y:=⟨h.tb.mono hR,h.sp.mono hR,h.wo,h.inv⟩
structure F4(R:List RowS)(D:List Row)(Xs:List PT)(tA:List Nat)(M Ma Mb:TbM)(K Ka Kb Kc:SpM)(N:Int)(y ya yb:Sy)(sc:Sp):Prop where
 w:Fit R D Xs tA M K N y
 a:Fit R D Xs tA Ma Ka N ya
 b:Fit R D Xs tA Mb Kb N yb
 c:Fit R D Xs tA M Kc N {y with sp:=sc}
theorem F4.rows{R':List RowS}(h:F4 R D Xs tA M Ma Mb K Ka Kb Kc N y ya yb sc)(hR:∀x∈R,x∈R'):F4 R' D Xs tA M Ma Mb K Ka Kb Kc N y ya yb sc:=⟨h.w.rows hR,h.a.rows hR,h.b.rows hR,h.c.rows hR⟩
abbrev Q4(R:List RowS)(D:List Row)(Xs:List PT)(tA:List Nat)(tv:Value)(M Ma Mb:TbM)(K Ka Kb Kc:SpM)(y ya yb:Sy)(sc:Sp)(l:List As):List As:=
 SPl R D Xs tA M K y (slA tv Ty.t6 1 (tA.map ptr)::S5 tA Ma Ka ya (S5 tA Mb Kb yb (S2 M.a Kc sc l)))

def G4(w0:World)(F:Nat→Prop)(l:List As)(tA:List Nat)(tv t:Value)(ms:List Mt)(k ka kb kc:Nat)(N:Int)(y ya yb:Sy)(sc:Sp)(w:World):Prop:=
 ∃R D Xs M Ma Mb K Ka Kb Kc vs,K.a=k∧Ka.a=ka∧Kb.a=kb∧Kc.a=kc∧TbV R vs ms∧F4 R D Xs tA M Ma Mb K Ka Kb Kc N y ya yb sc∧
  Hs w0 F w (Q4 R D Xs tA tv M Ma Mb K Ka Kb Kc y ya yb sc (slA t Ty.t8 4 (mcs ms vs)::l))
variable {tv t:Value} {ms:List Mt} {k ka kb kc:Nat}
theorem G4.drop{a:As}(G:G4 w0 F (a::l) tA tv t ms k ka kb kc N y ya yb sc w):G4 w0 F l tA tv t ms k ka kb kc N y ya yb sc w:=by
 obtain⟨R,D,Xs,M,Ma,Mb,K,Ka,Kb,Kc,vs,h1,h2,h3,h4,hV,h,E⟩:=G
 exact⟨R,D,Xs,M,Ma,Mb,K,Ka,Kb,Kc,vs,h1,h2,h3,h4,hV,h,(E.bIx 22).tl⟩
theorem G4.mono{N':Int}(G:G4 w0 F l tA tv t ms k ka kb kc N y ya yb sc w)(hn:N≤N'):G4 w0 F l tA tv t ms k ka kb kc N' y ya yb sc w:=by
 obtain⟨R,D,Xs,M,Ma,Mb,K,Ka,Kb,Kc,vs,h1,h2,h3,h4,hV,h,E⟩:=G
 exact⟨R,D,Xs,M,Ma,Mb,K,Ka,Kb,Kc,vs,h1,h2,h3,h4,hV,⟨h.w.mono hn,h.a.mono hn,h.b.mono hn,h.c.mono hn⟩,E⟩
theorem doW4{x:Xa}(h0:0≤N)(hN:N+1000<4611686018427387904)(hx:x.total≤700)(h4:tA.length≤4)(G:G4 w0 F l tA tv t ms k ka kb kc N y ya yb sc w):
  Ca PP Fn.law29_Do #[ptr k,tv,x.V] w λ_ w'=>∃y' ya' yb' sc',yb'.tb=yb.tb∧G4 w0 F l tA tv t ms k ka kb kc (N+100) y' ya' yb' sc' w':=by
 obtain⟨R,D,Xs,M,Ma,Mb,K,Ka,Kb,Kc,vs,rfl,rfl,rfl,rfl,hV,h,E⟩:=G
 refine(DoS_okM (x:=x) (tv:=tv) h.w h0 hN hx h.w.ta h4 E).mono ?_
 clear E
 rintro r w_ ⟨dv,pv2,-,R',D',Xs',M',K',g1,g2,g3,hR',h',E⟩
 replace E:=((E.bIx 9).tl.bIx 9).tl
 rw[← g1]at E
 exact⟨_,_,{yb with Ts:=(y.act x).1.Ts},_,rfl,R',D',Xs',M',Ma,Mb,K',Ka,Kb,Kc,vs,g2,rfl,rfl,rfl,hV.mono hR',⟨h',h'.other h.a hR',h'.other h.b hR',h'.shared h.c hR'⟩,E⟩
theorem doA4{x:Xa}(h0:0≤N)(hN:N+1000<4611686018427387904)(hx:x.total≤700)(h4:tA.length≤4)(G:G4 w0 F l tA tv t ms k ka kb kc N y ya yb sc w):
  Ca PP Fn.law29_Do #[ptr ka,tv,x.V] w λ_ w'=>∃y' ya' yb' sc',y'.tb=y.tb∧y'.sp=y.sp∧yb'.tb=yb.tb∧G4 w0 F l tA tv t ms k ka kb kc (N+100) y' ya' yb' sc' w':=by
 obtain⟨R,D,Xs,M,Ma,Mb,K,Ka,Kb,Kc,vs,rfl,rfl,rfl,rfl,hV,h,E⟩:=G
 (replace E:=((((((((((((((E.bIx 4).bIx 4).bIx 4).bIx 4).bIx 4).bIx 8).bIx 8).bIx 8).bIx 8).bIx 13).bIx 13).bIx 13).bIx 13).bIx 13))
 refine(DoS_okM (x:=x) (tv:=tv) h.a h0 hN hx h.a.ta h4 E).mono ?_
 clear E
 rintro r w_ ⟨dv,pv2,-,R',D',Xs',M',K',g1,g2,g3,hR',h',E⟩
 replace E:=((E.bIx 9).tl.bIx 9).tl
 (replace E:=((((((((((((((E.bIx 4).bIx 4).bIx 4).bIx 4).bIx 4).bIx 8).bIx 8).bIx 8).bIx 8).bIx 13).bIx 13).bIx 13).bIx 13).bIx 13))
 exact⟨{y with Ts:=(ya.act x).1.Ts},_,{yb with Ts:=(ya.act x).1.Ts},sc,rfl,rfl,rfl,R',D',Xs',M,M',Mb,K,K',Kb,Kc,vs,rfl,g2,rfl,rfl,hV.mono hR',⟨h'.other h.w hR',h',h'.other h.b hR',h'.other h.c hR'⟩,E⟩
theorem doC4{x:Xa}(h0:0≤N)(hN:N+1000<4611686018427387904)(hx:x.total≤700)(h4:tA.length≤4)(G:G4 w0 F l tA tv t ms k ka kb kc N y ya yb sc w):
  Ca PP Fn.law29_Do #[ptr kc,tv,x.V] w λ_ w'=>∃y' ya' yb' sc',yb'.tb=yb.tb∧G4 w0 F l tA tv t ms k ka kb kc (N+100) y' ya' yb' sc' w':=by
 obtain⟨R,D,Xs,M,Ma,Mb,K,Ka,Kb,Kc,vs,rfl,rfl,rfl,rfl,hV,h,E⟩:=G
 (replace E:=(((((((((((((((((((((E.bIx 18).bIx 18).bIx 18).bIx 18).bIx 18).bIx 18).bIx 18).bIx 18).bIx 18).bIx 18).bIx 11).bIx 11).bIx 18).bIx 18).bIx 18).bIx 18).bIx 18).bIx 18).bIx 18).bIx 20).bIx 20))
 refine(DoS_okM (x:=x) (tv:=tv) (y:={y with sp:=sc}) h.c h0 hN hx h.c.ta h4 E).mono ?_
 clear E
 generalize Sy.act {y with sp:=sc} x=Z at*
 rintro r w_ ⟨dv,pv2,-,R',D',Xs',M',K',g1,g2,g3,hR',h',E⟩
 replace E:=((E.bIx 9).tl.bIx 9).tl
 rw[← g1]at E
 (replace E:=(((((((((((((((((((((E.bIx 1).bIx 1).bIx 20).bIx 20).bIx 20).bIx 20).bIx 20).bIx 20).bIx 20).bIx 20).bIx 20).bIx 20).bIx 18).bIx 18).bIx 18).bIx 18).bIx 18).bIx 18).bIx 18).bIx 20).bIx 20))
 exact⟨{Z.1 with sp:=y.sp},_,{yb with Ts:=Z.1.Ts},Z.1.sp,rfl,R',D',Xs',M',Ma,Mb,K,Ka,Kb,K',vs,rfl,rfl,rfl,g2,hV.mono hR',⟨h'.shared h.w hR',h'.other h.a hR',h'.other h.b hR',h'⟩,E⟩

theorem cmp_ok{vs:List (Value×Value)}(h:Fit R D Xs tA M K N y)(hV:TbV R vs ms)(hms:ms.length≤64)(hf:∀m∈ms,m.new.length≤16∧m.cr.length≤16)(ht:slA t Ty.t8 4 (mcs ms vs)∈l)(E:Hs w0 F w (SPl R D Xs tA M K y l))
  {J:Value→World→Prop}(hJ:∀R1 w',(∀x∈R,x∈R1)→Hs w0 F w' (SPl R1 D Xs tA M K y l)→J (.bool (decide (ms=y.tb.ms))) w'):
  Ca PP Fn.f33 #[ptr K.a] w λr w'=>Ca PP Fn.f51 #[t,r] w' J:=by
 refine(Table_okM h E).mono ?_
 clear E
 rintro t3 w_ ⟨R3,vs3,hR3,hV3,E⟩
 have ht2:slA t Ty.t8 4 (mcs ms vs)∈SPl R3 D Xs tA M K y l:=List.mem_append_right [_,_,_,_,_,_,_,_] ht
 have gt1:=RdS.sl (v:=t) (T:=Ty.t8) (sz:=4) (xs:=mcs ms vs) (List.mem_cons_of_mem _ ht2) (by omega) E
 have gt2:=RdS.sl (v:=t3) (T:=Ty.t8) (sz:=4) (xs:=mcs y.tb.ms vs3) List.mem_cons_self (by omega) E
 rw[mcs_len hV.len,Nat.mul_div_cancel _ (by omega)]at gt1
 rw[mcs_len hV3.len,Nat.mul_div_cancel _ (by omega)]at gt2
 refine(sameTable_ok (R:=R3) (by simp) (hV.mono hR3) hV3 hms hf gt1 gt2 E).mono ?_
 clear E
 rintro r w_ ⟨rfl,E⟩
 exact hJ _ _ hR3 E.tl
theorem cmpW4(hms:ms.length≤64)(hf:∀m∈ms,m.new.length≤16∧m.cr.length≤16)(G:G4 w0 F l tA tv t ms k ka kb kc N y ya yb sc w)
  {J:Value→World→Prop}(hJ:∀w',G4 w0 F l tA tv t ms k ka kb kc N y ya yb sc w'→J (.bool (decide (ms=y.tb.ms))) w'):
  Ca PP Fn.f33 #[ptr k] w λr w'=>Ca PP Fn.f51 #[t,r] w' J:=by
 obtain⟨R,D,Xs,M,Ma,Mb,K,Ka,Kb,Kc,vs,rfl,rfl,rfl,rfl,hV,h,E⟩:=G
 refine cmp_ok h.w hV hms hf (by simp) E λR1 w' hR1 E=>hJ _ ?_
 exact⟨R1,D,Xs,M,Ma,Mb,K,Ka,Kb,Kc,vs,rfl,rfl,rfl,rfl,hV.mono hR1,h.rows hR1,E⟩
theorem cmpB4(hms:ms.length≤64)(hf:∀m∈ms,m.new.length≤16∧m.cr.length≤16)(G:G4 w0 F l tA tv t ms k ka kb kc N y ya yb sc w)
  {J:Value→World→Prop}(hJ:∀w',G4 w0 F l tA tv t ms k ka kb kc N y ya yb sc w'→J (.bool (decide (ms=yb.tb.ms))) w'):
  Ca PP Fn.f33 #[ptr kb] w λr w'=>Ca PP Fn.f51 #[t,r] w' J:=by
 obtain⟨R,D,Xs,M,Ma,Mb,K,Ka,Kb,Kc,vs,rfl,rfl,rfl,rfl,hV,h,E⟩:=G
 (replace E:=(((((((((((((((((((E.bIx 13).bIx 13).bIx 13).bIx 13).bIx 13).bIx 9).bIx 9).bIx 9).bIx 9).bIx 9).bIx 13).bIx 13).bIx 13).bIx 13).bIx 18).bIx 18).bIx 18).bIx 18).bIx 18))
 refine cmp_ok h.b hV hms hf (by simp) E λR1 w' hR1 E=>hJ _ ?_
 (replace E:=(((((((((((((((((((E.bIx 4).bIx 4).bIx 4).bIx 4).bIx 4).bIx 18).bIx 18).bIx 18).bIx 18).bIx 18).bIx 13).bIx 13).bIx 13).bIx 13).bIx 18).bIx 18).bIx 18).bIx 18).bIx 18))
 exact⟨R1,D,Xs,M,Ma,Mb,K,Ka,Kb,Kc,vs,rfl,rfl,rfl,rfl,hV.mono hR1,h.rows hR1,E⟩
set_option maxRecDepth 100000
set_option linter.unusedVariables false
set_option linter.unusedSimpArgs false
variable {w0 w:World} {F:Nat→Prop} {l r1 r2 r3:List As}
variable {R:List RowS} {D:List Row} {Xs:List PT} {tA:List Nat} {M Ma Mb:TbM} {K Ka Kb Kc:SpM} {N:Int} {y ya yb:Sy} {sc:Sp}
variable {tv t:Value} {ms:List Mt} {k ka kb kc:Nat}
theorem chk_ok{vs:List (Value×Value)}{d:BA}(h:Fit R D Xs tA M K N y)(hV:TbV R vs ms)(hms:ms.length≤64)(hf:∀m∈ms,m.new.length≤16∧m.cr.length≤16)(ht:slA t Ty.t8 4 (mcs ms vs)∈l)(E:Hs w0 F w (SPl R D Xs tA M K y l))
  (he:ms=y.tb.ms)(hd:y.sp.dir=d)(hK:K.ov=[]){J:List Value→World→Prop}(hJ:∀R1 w',(∀x∈R,x∈R1)→Hs w0 F w' (SPl R1 D Xs tA M K y l)→J [.bool false] w'):
  Ca PP Fn.f33 #[ptr K.a] w λt103_88 w_89=>
Ca PP Fn.f51 #[t,t103_88] w_89 λt104_90 w_91=>
Un .not t104_90 λt105_92=>
Gd t105_92 false (λk_93=>k_93 (ptr K.a) w_91) w_91 λt107_94 w_95=>
Gd t105_92 false (λk_96=>Ca PP Fn.f84 #[t107_94] w_95 λt108_99 w_100=>
k_96 t108_99 w_100) w_95 λt108_97 w_98=>
Gd t105_92 false (λk_101=>k_101 (str d) w_98) w_98 λt109_102 w_103=>
Gd t105_92 false (λk_104=>Bi .neq t108_97 t109_102 λt110_107=>
k_104 t110_107 w_103) w_103 λt110_105 w_106=>
Pk t105_92 (.bool true) t110_105 λt111_108=>
Gd t111_108 false (λk_109=>k_109 (ptr K.a) w_106) w_106 λt113_110 w_111=>
Gd t111_108 false (λk_112=>Ca PP Fn.f91 #[t113_110] w_111 λt114_115 w_116=>
k_112 t114_115 w_116) w_111 λt114_113 w_114=>
Gd t111_108 false (λk_117=>LnL t114_113 λt115_120=>
k_117 t115_120 w_114) w_114 λt115_118 w_119=>
Gd t111_108 false (λk_121=>Bi .gtr t115_118 (.int .i64 0) λt116_124=>
k_121 t116_124 w_119) w_119 λt116_122 w_123=>
Pk t111_108 (.bool true) t116_122 λt117_125=>
J [t117_125] w_123:=by
 refine cmp_ok h hV hms hf ht E λR1 w1 hR1 E=>?_
 rw[decide_eq_true he]
 repeat with_reducible refine Stp.go ?_
 refine(Dir_okM (K:=K) (sp:=y.sp) E).mono ?_
 rintro r w_ ⟨rfl,E⟩
 subst hd
 repeat with_reducible refine Stp.go ?_
 refine Bi.snF rfl ?_
 repeat with_reducible refine Stp.go ?_
 refine(Files_none (K:=K) (ta:=M.a) (sp:=y.sp) hK E).mono ?_
 clear E
 rintro r w_ ⟨⟨a,c,rfl⟩,E⟩
 repeat with_reducible refine Stp.go ?_
 refine LnL.mk ?_
 repeat first|(with_reducible first|refine Stp.go ?_)|((with_reducible refine Bi.dec false ?_ ?_);focus exact rfl)
 exact hJ R1 _ hR1 E
theorem rem2S{a:Int}{k:Value→Prop}(h:0≤a)(hk:k (i64 (a % 2))):Bi .rem (i64 a) (i64 2) k:=by
 refine Bi.mk (v:=i64 (a.tmod 2)) rfl ?_
 rwa [Int.tmod_eq_emod_of_nonneg h]
theorem F4.mono{N':Int}(h:F4 R D Xs tA M Ma Mb K Ka Kb Kc N y ya yb sc)(hn:N≤N'):F4 R D Xs tA M Ma Mb K Ka Kb Kc N' y ya yb sc:=⟨h.w.mono hn,h.a.mono hn,h.b.mono hn,h.c.mono hn⟩
theorem u_sl_pSpace:PP.underlying Ty.sl_p_space_Space=some (.slice Ty.t54):=by kernel_rfl
theorem s_pSpace:sizeK PP Ty.t54=some 1:=by kernel_rfl
theorem z_pSpace:zeroK PP Ty.t54=some (.pointer none):=by kernel_rfl
theorem BdS.three{a b c:Nat}{k:Value→World→Prop}(E:Hs w0 F w l)(hk:∀s w',Hs w0 F w' (slA s Ty.t54 1 [ptr a,ptr b,ptr c]::l)→k s w'):Ef PP (Instr.buildSlice Ty.sl_p_space_Space 3 #[(0,ptr a),(1,ptr b),(2,ptr c)]) w k:=by
 refine BdS.sl E u_sl_pSpace s_pSpace z_pSpace (by omega) (by omega) (xs:=[ptr a,ptr b,ptr c]) ?_ rfl hk
 kernel_rfl
theorem Forks_law{user:BA}{pv xv zv:Value}{vs:List Value}{pls:List (List Pn)}{xs zs:List Xa}(hp:∀l,PlsIn w0 F l pv vs pls)(hs:∀ps∈pls,∀p∈ps,p.path.size≤140737488355328∧p.data.size≤140737488355328)
  (hx:∀x∈xs,x.Ok)(hv:∀l,RdS w0 F l 18 xs.length xv (xcs xs))(hxz:∀x∈zs,x.Ok)(hvz:∀l,RdS w0 F l 18 zs.length zv (xcs zs))(E:Hs w0 F w l):
  Ca PP Fn.f124 #[.agg #[str user,pv],xv,zv] w λr w'=>r=.bool true∧∃l',Hs w0 F w' l':=by
 refine S.f124.calls ?_
 unfold S.f124
 have ipv:Scal pv:=RdS_scal (hp []).v
 refine StpA.go E ?_
 clear E
 intro t3 w_ h1_ E
 refine(awake_okS E).mono ?_
 clear E
 rintro r w_ ⟨rfl,E⟩
 repeat with_reducible refine Stp.go ?_
 intro J6 hJ6
 have out:∀w_,(∃l',Hs w0 F w_ l')→J6 [.bool true] w_:=by
  intro w_ hE
  exact hJ6 _ w_ λu=>Cnd.t ⟨rfl,hE⟩
 have go6:∀w_,fewS user pls=true→fewX xs=true→fewX zs=true→Hs w0 F w_ (pt t3 (oc [str user,pv] Ty.t48)::l)→J6 [.bool false] w_:=by
  intro w_ hf hf2 hf3 E
  refine hJ6 _ w_ λu=>Cnd.f ?_
  clear hJ6 out
  obtain⟨f1,f2,f3,f4,f5⟩:=fewS_of hf
  obtain⟨f6,f7⟩:=fewX_one hf2
  obtain⟨f8,f9⟩:=fewX_one hf3
  repeat with_reducible refine StpE.go E ?_
  refine(made_okM (D:=[]) (hp _) f3 f1 f2 f4 f5 (Hs.starNil E)).mono ?_
  clear E
  rintro r w_ ⟨a,R,D,Xs,tA,M,K,tv,rfl,htA,h,E⟩
  refine Eq.ef u_p_World rfl ?_
  refine Cnd.f ?_
  replace E:=Hs.spl2 (E.bIx 1)
  refine(hv []).len ?_
  generalize hY:madeY user pls=y0 at*
  generalize hL0:(pt t3 (oc [str user,pv] Ty.t48)::l)=l0 at*
  have h4A:tA.length≤4:=by omega
  refine⟨λl1 w1=>∃(i:Nat) (R:List RowS) (D:List Row) (Xs:List PT) (M:TbM) (K:SpM) (y:Sy),l1=[i64 i]∧i≤xs.length∧Fit R D Xs tA M K (200+100*i) y∧Hs w0 F w1 (SPl R D Xs tA M K y (slA tv Ty.t6 1 (tA.map ptr)::pt a (wrO (ptr K.a) tv)::l0)),λl1 _=>match l1 with|[.int _ i]=>xs.length-i.toNat|_=>0,
   ⟨0,R,D,Xs,M,K,y0,rfl,Nat.zero_le _,h.mono (by omega),E⟩,?_⟩
  clear E h hY M K R D Xs htA
  rintro t42 u1 w1 ⟨i,R,D,Xs,M,K,y,e,hi,h,E⟩
  cases e
  have itv:Scal tv:=⟨Hs.slScal E FSl.mem⟩
  refine Bi.lss ?_ ?_<;>intro hlt
  ·refine Cnd.t ?_
   have hi1:i<xs.length:=by omega
   refine(hv []).ix (by omega) (by omega) (by omega) ?_
   intro b hb
   rw[xcs_at hi1]at hb
   have hx7:=f7 _ (List.getElem_mem hi1)
   refine(hb.weaken λ_ E=>E.drop (List.nil_sublist _)).lda E (m:=18) (ds:=xs[i].C) rfl rfl (by omega) ?_
   generalize xs[i]=x at*
   repeat with_reducible (refine StpA.go E ?_;clear E;intro b_ w_ hb_ E)
   (revert b_;intro q hbq E)
   (first|(refine StA.all E rfl rfl (by first|exact rfl|assumption) ?_;clear E;intro w_ E)|try (refine StA.by E rfl (by first|exact rfl|assumption) ?_;clear E;intro w_ E))
   repeat with_reducible first|refine Stp.go ?_|refine StpE.go E ?_|(refine StpW.go E ?_;clear E;intro w_ E)
   (replace E:=((((((((((E.bIx 0).bIx 9).bIx 9).bIx 9).bIx 9).bIx 9).bIx 9).bIx 9).bIx 9).bIx 9))
   refine(DoS_okM (x:=x) (tv:=tv) h (by omega) (by omega) hx7 h.ta h4A E).mono ?_
   clear E
   rintro r w_ ⟨dv,pv2,-,R',D',Xs',M',K',g1,g2,g3,hR',h',E⟩
   replace E:=(((E.bIx 9).tl.bIx 9).tl.bIx 9).tl
   rw[← g2]at E
   refine Bi.add (by omega) ?_
   exact⟨⟨i+1,R',D',Xs',M',K',_,by simp,by omega,h'.mono (by omega),E⟩,by simp only[];omega⟩
  ·refine Cnd.f ?_
   have hN1:(200+100*(i:Int))≤4200:=by omega
   have h:Fit R D Xs tA M K 4200 y:=h.mono hN1
   clear hN1 hlt hi
   repeat with_reducible first|refine Stp.go ?_|refine StpE.go E ?_|(refine StpW.go E ?_;clear E;intro w_ E)
   refine(Fork_okM h E).mono ?_
   clear E
   rintro r w_ ⟨ka,oa,ma,tva,mva,R1,vs1,rfl,hR1,hV1,E⟩
   (replace E:=((((((((((((((E.bIx 4).bIx 4).bIx 4).bIx 4).bIx 4).bIx 13).bIx 13).bIx 13).bIx 13).bIx 13).bIx 13).bIx 13).bIx 13).bIx 13))
   have hA:Fit R1 D Xs tA ⟨ma,tva,mva,vs1⟩ ⟨ka,oa,[]⟩ 4200 y.forked:=⟨⟨hV1.len,hV1.row⟩,⟨rfl,λk=>rfl⟩,h.wo,forked_inv h.inv⟩
   replace E:Hs w0 F w_ (SPl R1 D Xs tA M K y (slA tv Ty.t6 1 (tA.map ptr)::S5 tA ⟨ma,tva,mva,vs1⟩ ⟨ka,oa,[]⟩ y.forked (pt a (wrO (ptr K.a) tv)::l0))):=E
   replace h:=h.rows hR1
   (repeat(with_reducible refine And.intro ?_ ?_;focus ((repeat with_reducible refine StpE.go E ?_);exact rfl)))
   refine(Fork_okM h E).mono ?_
   clear E
   rintro r w_ ⟨kb,ob,mb,tvb,mvb,R2,vs2,rfl,hR2,hV2,E⟩
   (replace E:=(((((((((((((((((((E.bIx 4).bIx 4).bIx 4).bIx 4).bIx 4).bIx 18).bIx 18).bIx 18).bIx 18).bIx 18).bIx 18).bIx 18).bIx 18).bIx 18).bIx 18).bIx 18).bIx 18).bIx 18).bIx 18))
   have hB:Fit R2 D Xs tA ⟨mb,tvb,mvb,vs2⟩ ⟨kb,ob,[]⟩ 4200 y.forked:=⟨⟨hV2.len,hV2.row⟩,⟨rfl,λk=>rfl⟩,h.wo,forked_inv h.inv⟩
   replace E:Hs w0 F w_ (SPl R2 D Xs tA M K y (slA tv Ty.t6 1 (tA.map ptr)::S5 tA ⟨ma,tva,mva,vs1⟩ ⟨ka,oa,[]⟩ y.forked (S5 tA ⟨mb,tvb,mvb,vs2⟩ ⟨kb,ob,[]⟩ y.forked (pt a (wrO (ptr K.a) tv)::l0)))):=E
   replace h:=h.rows hR2
   replace hA:=hA.rows hR2
   (repeat(with_reducible refine And.intro ?_ ?_;focus ((repeat with_reducible refine StpE.go E ?_);exact rfl)))
   refine(Share_okM h E).mono ?_
   clear E
   rintro r w_ ⟨kc,om,rfl,E⟩
   (replace E:=(((((((((((((((((((((E.bIx 1).bIx 1).bIx 20).bIx 20).bIx 20).bIx 20).bIx 20).bIx 20).bIx 20).bIx 20).bIx 20).bIx 20).bIx 20).bIx 20).bIx 20).bIx 20).bIx 20).bIx 20).bIx 20).bIx 20).bIx 20))
   have hC:Fit R2 D Xs tA M ⟨kc,om,[]⟩ 4200 {y with sp:=y.forked.sp}:=⟨h.tb,⟨rfl,λk=>rfl⟩,h.wo,forked_inv h.inv⟩
   have h4:F4 R2 D Xs tA M ⟨ma,tva,mva,vs1⟩ ⟨mb,tvb,mvb,vs2⟩ K ⟨ka,oa,[]⟩ ⟨kb,ob,[]⟩ ⟨kc,om,[]⟩ 4200 y y.forked y.forked y.forked.sp:=⟨h,hA,hB,hC⟩
   replace E:Hs w0 F w_ (Q4 R2 D Xs tA tv M ⟨ma,tva,mva,vs1⟩ ⟨mb,tvb,mvb,vs2⟩ K ⟨ka,oa,[]⟩ ⟨kb,ob,[]⟩ ⟨kc,om,[]⟩ y y.forked y.forked y.forked.sp (pt a (wrO (ptr K.a) tv)::l0)):=E
   clear h hA hB hC hV1 hV2 hR1 hR2
   intro J56 hJ56
   have go56:∀w_,Hs w0 F w_ (Q4 R2 D Xs tA tv M ⟨ma,tva,mva,vs1⟩ ⟨mb,tvb,mvb,vs2⟩ K ⟨ka,oa,[]⟩ ⟨kb,ob,[]⟩ ⟨kc,om,[]⟩ y y.forked y.forked y.forked.sp (pt a (wrO (ptr K.a) tv)::l0))→J56 [.bool false] w_:=by
    clear E
    intro w_ E
    refine hJ56 _ w_ λu=>Cnd.f ?_
    clear hJ56
    repeat with_reducible first|refine Stp.go ?_|refine StpE.go E ?_|(refine StpW.go E ?_;clear E;intro w_ E)
    refine(Table_okM h4.w E).mono ?_
    clear E
    rintro t w_ ⟨R,vs3,hR,hV,E⟩
    replace h4:=h4.rows hR
    clear hR
    generalize (⟨ma,tva,mva,vs1⟩:TbM)=Ma at*
    generalize (⟨mb,tvb,mvb,vs2⟩:TbM)=Mb at*
    have it:Scal t:=⟨Hs.slScal E FSl.mem⟩
    (repeat(with_reducible refine And.intro ?_ ?_;focus ((repeat with_reducible refine StpE.go E ?_);exact rfl)))
    refine(Dir_okM (K:=K) (sp:=y.sp) E).mono ?_
    clear E
    rintro r w_ ⟨rfl,E⟩
    have hms:=h4.w.inv.tb.ms
    have hmf:=mtI_small h4.w.inv.tb.m
    generalize hmsd:y.tb.ms=ms at*
    refine BdS.three E ?_
    clear E
    intro nv w_ E
    refine LnL.sl1 E List.mem_cons_self ?_
    (replace E:=(((((((((((((((((((((((E.bIx 0).bIx 1).bIx 22).bIx 22).bIx 22).bIx 22).bIx 22).bIx 22).bIx 22).bIx 22).bIx 22).bIx 22).bIx 22).bIx 22).bIx 22).bIx 22).bIx 22).bIx 22).bIx 22).bIx 22).bIx 22).bIx 22).bIx 22))
    have hfm:y.forked.tb.ms=ms:=hmsd
    refine⟨λl1 w1=>∃(i:Nat) (R:List RowS),l1=[i64 i]∧i≤3∧TbV R vs3 ms∧F4 R D Xs tA M Ma Mb K ⟨ka,oa,[]⟩ ⟨kb,ob,[]⟩ ⟨kc,om,[]⟩ 4200 y y.forked y.forked y.forked.sp∧Hs w0 F w1 (Q4 R D Xs tA tv M Ma Mb K ⟨ka,oa,[]⟩ ⟨kb,ob,[]⟩ ⟨kc,om,[]⟩ y y.forked y.forked y.forked.sp (slA t Ty.t8 4 (mcs ms vs3)::slA nv Ty.t54 1 [ptr ka,ptr kb,ptr kc]::pt a (wrO (ptr K.a) tv)::l0)),λl1 _=>match l1 with|[.int _ i]=>3-i.toNat|_=>0,
     ⟨0,R,rfl,by omega,hV,h4,E⟩,?_⟩
    clear E h4 hV R
    rintro t97 u1 w1 ⟨i,R,e,hi,hV,h4,E⟩
    cases e
    refine Bi.lss ?_ ?_<;>intro hlt
    ·refine Cnd.t ?_
     have hlt3:i<3:=by simp only[List.length_cons,List.length_nil]at hlt;omega
     have hn:=RdS.sl (v:=nv) (T:=Ty.t54) (sz:=1) (xs:=[ptr ka,ptr kb,ptr kc]) (by simp) (by omega) E
     refine hn.ix (by omega) (by simp;omega) (by omega) ?_
     intro b hb
     have hi3:i=0∨i=1∨i=2:=by omega
     rcases hi3 with rfl|rfl|rfl
     ·refine hb.ld E (x:=ptr ka) rfl ?_
      clear hn hb
      intro J83 hJ83
      (replace E:=((((((((((((((E.bIx 4).bIx 4).bIx 4).bIx 4).bIx 4).bIx 8).bIx 8).bIx 8).bIx 8).bIx 13).bIx 13).bIx 13).bIx 13).bIx 13))
      refine chk_ok h4.a hV hms hmf (by simp) E hmsd.symm rfl rfl ?_
      clear E
      intro R1 w_ hR1 E
      (replace E:=((((((((((((((E.bIx 4).bIx 4).bIx 4).bIx 4).bIx 4).bIx 8).bIx 8).bIx 8).bIx 8).bIx 13).bIx 13).bIx 13).bIx 13).bIx 13))
      refine hJ83 _ _ λu=>Cnd.f ?_
      refine Bi.add (by omega) ?_
      exact⟨⟨1,R1,by simp,by omega,hV.mono hR1,h4.rows hR1,E⟩,by simp only[];omega⟩
     ·refine hb.ld E (x:=ptr kb) rfl ?_
      clear hn hb
      intro J83 hJ83
      (replace E:=(((((((((((((((((((E.bIx 13).bIx 13).bIx 13).bIx 13).bIx 13).bIx 9).bIx 9).bIx 9).bIx 9).bIx 9).bIx 13).bIx 13).bIx 13).bIx 13).bIx 18).bIx 18).bIx 18).bIx 18).bIx 18))
      refine chk_ok h4.b hV hms hmf (by simp) E hmsd.symm rfl rfl ?_
      clear E
      intro R1 w_ hR1 E
      (replace E:=(((((((((((((((((((E.bIx 4).bIx 4).bIx 4).bIx 4).bIx 4).bIx 18).bIx 18).bIx 18).bIx 18).bIx 18).bIx 13).bIx 13).bIx 13).bIx 13).bIx 18).bIx 18).bIx 18).bIx 18).bIx 18))
      refine hJ83 _ _ λu=>Cnd.f ?_
      refine Bi.add (by omega) ?_
      exact⟨⟨2,R1,by simp,by omega,hV.mono hR1,h4.rows hR1,E⟩,by simp only[];omega⟩
     ·refine hb.ld E (x:=ptr kc) rfl ?_
      clear hn hb
      intro J83 hJ83
      (replace E:=(((((((((((((((((((((E.bIx 18).bIx 18).bIx 18).bIx 18).bIx 18).bIx 18).bIx 18).bIx 18).bIx 18).bIx 18).bIx 11).bIx 11).bIx 18).bIx 18).bIx 18).bIx 18).bIx 18).bIx 18).bIx 18).bIx 20).bIx 20))
      refine chk_ok (y:={y with sp:=y.forked.sp}) h4.c hV hms hmf (by simp) E hmsd.symm rfl rfl ?_
      clear E
      intro R1 w_ hR1 E
      (replace E:=(((((((((((((((((((((E.bIx 1).bIx 1).bIx 20).bIx 20).bIx 20).bIx 20).bIx 20).bIx 20).bIx 20).bIx 20).bIx 20).bIx 20).bIx 18).bIx 18).bIx 18).bIx 18).bIx 18).bIx 18).bIx 18).bIx 20).bIx 20))
      refine hJ83 _ _ λu=>Cnd.f ?_
      refine Bi.add (by omega) ?_
      exact⟨⟨3,R1,by simp,by omega,hV.mono hR1,h4.rows hR1,E⟩,by simp only[];omega⟩
    refine Cnd.f ?_
    replace E:=(E.bIx 22).tl
    have G:G4 w0 F (pt a (wrO (ptr K.a) tv)::l0) tA tv t ms K.a ka kb kc 4200 y y.forked y.forked y.forked.sp w1:=⟨R,D,Xs,M,Ma,Mb,K,_,_,_,vs3,rfl,rfl,rfl,rfl,hV,h4,E⟩
    clear E hV h4
    generalize y.forked=yb at*
    generalize hd:y.sp.dir=d at*
    generalize K.a=k at*
    refine(hvz []).len ?_
    refine⟨λl1 w1=>∃(i:Nat) (y ya yb:Sy) (sc:Sp),l1=[i64 i]∧i≤zs.length∧y.tb.ms=ms∧y.sp.dir=d∧yb.tb.ms=ms∧G4 w0 F (pt a (wrO (ptr k) tv)::l0) tA tv t ms k ka kb kc (4200+100*i) y ya yb sc w1,λl1 _=>match l1 with|[.int _ i]=>zs.length-i.toNat|_=>0,
     ⟨0,y,yb,yb,yb.sp,rfl,Nat.zero_le _,hmsd,hd,hfm,G.mono (by omega)⟩,?_⟩
    clear G hmsd hd hfm
    rintro t121 u1 w1 ⟨i,y,ya,yb,sc,e,hi,hmy,hdy,hmb,G⟩
    cases e
    refine Bi.lss ?_ ?_<;>intro hlt
    ·refine Cnd.t ?_
     obtain⟨R,D,Xs,M,Ma,Mb,K,Ka,Kb,Kc,vs,h1,h2,h3,h4,hV,h,E⟩:=G
     have hi1:i<zs.length:=by omega
     refine(hvz []).ix (by omega) (by omega) (by omega) ?_
     intro b hb
     rw[xcs_at hi1]at hb
     have hx7:=f9 _ (List.getElem_mem hi1)
     refine(hb.weaken λ_ E=>E.drop (List.nil_sublist _)).lda E (m:=18) (ds:=zs[i].C) rfl rfl (by omega) ?_
     generalize zs[i]=x at*
     repeat with_reducible (refine StpA.go E ?_;clear E;intro b_ w_ hb_ E)
     (revert b_;intro q hbq E)
     (first|(refine StA.all E rfl rfl (by first|exact rfl|assumption) ?_;clear E;intro w_ E)|try (refine StA.by E rfl (by first|exact rfl|assumption) ?_;clear E;intro w_ E))
     repeat with_reducible first|refine Stp.go ?_|refine StpE.go E ?_|(refine StpW.go E ?_;clear E;intro w_ E)
     (replace E:=(((((((((((((((((((((((E.bIx 0).bIx 22).bIx 22).bIx 22).bIx 22).bIx 22).bIx 22).bIx 22).bIx 22).bIx 22).bIx 22).bIx 22).bIx 22).bIx 22).bIx 22).bIx 22).bIx 22).bIx 22).bIx 22).bIx 22).bIx 22).bIx 22).bIx 22))
     have G:G4 w0 F (pt q (oc x.C Ty.t93)::pt a (wrO (ptr k) tv)::l0) tA tv t ms k ka kb kc (4200+100*i) y ya yb sc _:=⟨R,D,Xs,M,Ma,Mb,K,Ka,Kb,Kc,vs,h1,h2,h3,h4,hV,h,E⟩
     clear E
     refine(doA4 (x:=x) (by omega) (by omega) hx7 h4A G).mono ?_
     clear G
     rintro r w_ ⟨y',ya',yb',sc',e1,e2,e3,G⟩
     refine Bi.add (by omega) ?_
     exact⟨⟨i+1,y',ya',yb',sc',by simp,by omega,by rw[e1,hmy],by rw[e2,hdy],by rw[e3,hmb],G.drop.mono (by omega)⟩,by simp only[];omega⟩
    ·refine Cnd.f ?_
     replace G:=G.mono (show(4200+100*(i:Int))≤8200 by omega)
     intro J146 hJ146
     have go146:∀w_,G4 w0 F (pt a (wrO (ptr k) tv)::l0) tA tv t ms k ka kb kc 8200 y ya yb sc w_→J146 [.bool false] w_:=by
      intro w_ G
      refine hJ146 _ w_ λu=>Cnd.f ?_
      clear hJ146
      refine(hvz []).len ?_
      refine⟨λl1 w1=>∃(i:Nat) (y ya yb:Sy) (sc:Sp),l1=[i64 i]∧i≤zs.length∧yb.tb.ms=ms∧G4 w0 F (pt a (wrO (ptr k) tv)::l0) tA tv t ms k ka kb kc (8200+100*i) y ya yb sc w1,λl1 _=>match l1 with|[.int _ i]=>zs.length-i.toNat|_=>0,
       ⟨0,y,ya,yb,sc,rfl,Nat.zero_le _,hmb,G.mono (by omega)⟩,?_⟩
      clear G hmy hdy hmb
      rintro t159 u1 w1 ⟨i,y,ya,yb,sc,e,hi,hmb,G⟩
      cases e
      refine Bi.lss ?_ ?_<;>intro hlt
      ·refine Cnd.t ?_
       obtain⟨R,D,Xs,M,Ma,Mb,K,Ka,Kb,Kc,vs,h1,h2,h3,h4,hV,h,E⟩:=G
       have hi1:i<zs.length:=by omega
       refine(hvz []).ix (by omega) (by omega) (by omega) ?_
       intro b hb
       rw[xcs_at hi1]at hb
       have hx7:=f9 _ (List.getElem_mem hi1)
       refine(hb.weaken λ_ E=>E.drop (List.nil_sublist _)).lda E (m:=18) (ds:=zs[i].C) rfl rfl (by omega) ?_
       generalize zs[i]=x at*
       repeat with_reducible (refine StpA.go E ?_;clear E;intro b_ w_ hb_ E)
       (revert b_;intro q hbq E)
       (first|(refine StA.all E rfl rfl (by first|exact rfl|assumption) ?_;clear E;intro w_ E)|try (refine StA.by E rfl (by first|exact rfl|assumption) ?_;clear E;intro w_ E))
       skip
       (replace E:=(((((((((((((((((((((((E.bIx 0).bIx 22).bIx 22).bIx 22).bIx 22).bIx 22).bIx 22).bIx 22).bIx 22).bIx 22).bIx 22).bIx 22).bIx 22).bIx 22).bIx 22).bIx 22).bIx 22).bIx 22).bIx 22).bIx 22).bIx 22).bIx 22).bIx 22))
       have G:G4 w0 F (pt q (oc x.C Ty.t93)::pt a (wrO (ptr k) tv)::l0) tA tv t ms k ka kb kc (8200+100*i) y ya yb sc _:=⟨R,D,Xs,M,Ma,Mb,K,Ka,Kb,Kc,vs,h1,h2,h3,h4,hV,h,E⟩
       clear E
       intro J162 hJ162
       have fin162:∀y' ya' yb' sc' w_,yb'.tb=yb.tb→G4 w0 F (pt q (oc x.C Ty.t93)::pt a (wrO (ptr k) tv)::l0) tA tv t ms k ka kb kc (8200+100*i+100) y' ya' yb' sc' w_→J162 [] w_:=by
        intro y' ya' yb' sc' w_ he G
        refine hJ162 _ λu=>?_
        clear hJ162
        obtain⟨R,D,Xs,M,Ma,Mb,K,Ka,Kb,Kc,vs,h1,h2,h3,h4,hV,h,E⟩:=G
        repeat with_reducible first|refine Stp.go ?_|refine StpE.go E ?_|(refine StpW.go E ?_;clear E;intro w_ E)
        subst h1 h4
        (replace E:=(((((((((((((((((((((E.bIx 18).bIx 18).bIx 18).bIx 18).bIx 18).bIx 18).bIx 18).bIx 18).bIx 18).bIx 18).bIx 11).bIx 11).bIx 18).bIx 18).bIx 18).bIx 18).bIx 18).bIx 18).bIx 18).bIx 20).bIx 20))
        refine(Table_okM (y:={y' with sp:=sc'}) h.c E).mono ?_
        clear E
        rintro t2 w_ ⟨R',vs2,hR',hV2,E⟩
        have it2:Scal t2:=⟨Hs.slScal E FSl.mem⟩
        (repeat(with_reducible refine And.intro ?_ ?_;focus ((repeat with_reducible refine StpE.go E ?_);exact rfl)))
        replace h:=h.rows hR'
        (replace E:=(((((((((((((((((((((((E.bIx 0).bIx 22).bIx 3).bIx 3).bIx 22).bIx 22).bIx 22).bIx 22).bIx 22).bIx 22).bIx 22).bIx 22).bIx 22).bIx 22).bIx 20).bIx 20).bIx 20).bIx 20).bIx 20).bIx 20).bIx 20).bIx 22).bIx 22))
        refine cmp_ok h.w (ms:=y'.tb.ms) hV2 h.w.inv.tb.ms (mtI_small h.w.inv.tb.m) (by simp) E λR1 w_ hR1 E=>?_
        rw[decide_eq_true rfl]
        repeat with_reducible refine Stp.go ?_
        refine Bi.add (by omega) ?_
        replace E:=((E.bIx 22).tl.bIx 22).tl
        exact⟨⟨i+1,y',ya',yb',sc',by simp,by omega,by rw[he,hmb],R1,D,Xs,M,Ma,Mb,K,Ka,Kb,Kc,vs,rfl,h2,h3,rfl,(hV.mono hR').mono hR1,(h.rows hR1).mono (by omega),E⟩,by simp only[];omega⟩
       clear hJ162
       refine rem2S (by omega) ?_
       refine Bi.eql ?_ ?_<;>intro hr
       ·refine Cnd.t ?_
        obtain⟨R,D,Xs,M,Ma,Mb,K,Ka,Kb,Kc,vs,h1,h2,h3,h4,hV,h,E⟩:=G
        repeat with_reducible first|refine Stp.go ?_|refine StpE.go E ?_|(refine StpW.go E ?_;clear E;intro w_ E)
        have G:G4 w0 F (pt q (oc x.C Ty.t93)::pt a (wrO (ptr k) tv)::l0) tA tv t ms k ka kb kc (8200+100*i) y ya yb sc _:=⟨R,D,Xs,M,Ma,Mb,K,Ka,Kb,Kc,vs,h1,h2,h3,h4,hV,h,E⟩
        clear E
        refine(doC4 (x:=x) (by omega) (by omega) hx7 h4A G).mono ?_
        clear G
        rintro r w_ ⟨y',ya',yb',sc',e1,G⟩
        exact fin162 _ _ _ _ _ e1 G
       ·refine Cnd.f ?_
        obtain⟨R,D,Xs,M,Ma,Mb,K,Ka,Kb,Kc,vs,h1,h2,h3,h4,hV,h,E⟩:=G
        repeat with_reducible first|refine Stp.go ?_|refine StpE.go E ?_|(refine StpW.go E ?_;clear E;intro w_ E)
        have G:G4 w0 F (pt q (oc x.C Ty.t93)::pt a (wrO (ptr k) tv)::l0) tA tv t ms k ka kb kc (8200+100*i) y ya yb sc _:=⟨R,D,Xs,M,Ma,Mb,K,Ka,Kb,Kc,vs,h1,h2,h3,h4,hV,h,E⟩
        clear E
        refine(doW4 (x:=x) (by omega) (by omega) hx7 h4A G).mono ?_
        clear G
        rintro r w_ ⟨y',ya',yb',sc',e1,G⟩
        exact fin162 _ _ _ _ _ e1 G
      ·refine Cnd.f ?_
       refine cmpB4 hms hmf G λw_ G=>?_
       rw[decide_eq_true hmb.symm]
       obtain⟨R,D,Xs,M,Ma,Mb,K,Ka,Kb,Kc,vs,h1,h2,h3,h4,hV,h,E⟩:=G
       exact⟨rfl,_,E⟩
     clear hJ146
     obtain⟨R,D,Xs,M,Ma,Mb,K,Ka,Kb,Kc,vs,h1,h2,h3,h4,hV,h,E⟩:=G
     repeat with_reducible first|refine Stp.go ?_|refine StpE.go E ?_
     replace G:G4 w0 F (pt a (wrO (ptr k) tv)::l0) tA tv t ms k ka kb kc 8200 y ya yb sc _:=⟨R,D,Xs,M,Ma,Mb,K,Ka,Kb,Kc,vs,h1,h2,h3,h4,hV,h,E⟩
     clear E
     refine cmpW4 hms hmf G λw_ G=>?_
     rw[decide_eq_true hmy.symm]
     repeat with_reducible refine Stp.go ?_
     refine(cmpB4 (J:=λr w'=>r=.bool (decide (ms=yb.tb.ms))∧G4 w0 F (pt a (wrO (ptr k) tv)::l0) tA tv t ms k ka kb kc 8200 y ya yb sc w') hms hmf G λw_ G=>⟨rfl,G⟩).mono ?_
     clear G
     intro r w_ hh
     repeat with_reducible refine Stp.go ?_
     refine hh.mono ?_
     clear hh
     rintro r w_ ⟨rfl,G⟩
     rw[decide_eq_true hmb.symm]
     obtain⟨R,D,Xs,M,Ma,Mb,K,Ka,Kb,Kc,vs,h1,h2,h3,h4,hV,h,E⟩:=G
     repeat with_reducible first|refine Stp.go ?_|refine StpE.go E ?_
     subst h1
     refine(Dir_okM (K:=K) (sp:=y.sp) E).mono ?_
     clear E
     rintro r w_ ⟨rfl,E⟩
     rw[hdy]
     repeat with_reducible refine Stp.go ?_
     refine Bi.snF rfl ?_
     repeat with_reducible refine Stp.go ?_
     exact go146 _ ⟨R,D,Xs,M,Ma,Mb,K,Ka,Kb,Kc,vs,rfl,h2,h3,h4,hV,h,E⟩
   clear hJ56
   refine Eq.ef u_p_Space rfl ?_
   repeat with_reducible refine Stp.go ?_
   refine Eq.ef u_p_Space rfl ?_
   repeat with_reducible refine Stp.go ?_
   refine Eq.ef u_p_Space rfl ?_
   repeat with_reducible refine Stp.go ?_
   exact go56 _ E
 clear hJ6
 repeat with_reducible refine StpE.go E ?_
 refine(fewS_okM (hp _) hs E).mono ?_
 clear E
 rintro r w_ ⟨rfl,E⟩
 cases hf:fewS user pls with
 |false=>
  repeat with_reducible refine Stp.go ?_
  exact out _ ⟨_,E⟩
 |true=>
  repeat with_reducible refine Stp.go ?_
  refine(FewX_ok hx (hv _) E).mono ?_
  clear E
  rintro r w_ ⟨rfl,E⟩
  cases hf2:fewX xs with
  |false=>
   repeat with_reducible refine Stp.go ?_
   exact out _ ⟨_,E⟩
  |true=>
   repeat with_reducible refine Stp.go ?_
   refine(FewX_ok hxz (hvz _) E).mono ?_
   clear E
   rintro r w_ ⟨rfl,E⟩
   cases hf3:fewX zs with
   |false=>
    repeat with_reducible refine Stp.go ?_
    exact out _ ⟨_,E⟩
   |true=>
    repeat with_reducible refine Stp.go ?_
    exact go6 _ hf hf2 hf3 E
set_option maxRecDepth 100000
set_option linter.unusedVariables false
set_option linter.unusedSimpArgs false
variable {w0 w:World} {F:Nat→Prop} {l:List As}
abbrev zXAct:Value:=.agg #[i64 0,i64 0,i64 0,str emp,str emp,str emp,i64 0,i64 0,i64 0,i64 0,i64 0,i64 0,i64 0,i64 0,str emp,str emp,str emp,str emp]
end Go.Proofs.YtjffgllkfbcaeaaGreatDoor