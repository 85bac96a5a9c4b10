/-
 Name spaces: Write, Close.
-/
import Derived.Test.YtjffgllkfbcaeaaGreatDoorUf3
import Derived.Test.YtjffgllkfbcaeaaGreatDoorUb7
namespace Go.Proofs.YtjffgllkfbcaeaaGreatDoor
open Go Go.Sh
set_option maxRecDepth 100000
set_option linter.unusedVariables false
set_option linter.unusedSimpArgs false
variable {w0 w:World} {F:Nat→Prop} {l r1 r2 r3:List As}
variable {R:List RowS} {D:List Row} {Xs:List PT} {tA:List Nat} {M:TbM} {K:SpM} {N:Int} {y:Sy}
theorem Write_okM{n off:Int}{d:BA}(h:Fit R D Xs tA M K N y)(hN:N+1000<4611686018427387904)(E:Hs w0 F w (SPl R D Xs tA M K y l)):
  Ca PP Fn.f105 #[ptr K.a,i64 n,i64 off,str d] w λr w'=>r=.tuple #[i64 (y.write n off d).2.1,i64 (y.write n off d).2.2]∧GoS w0 F l R tA M K (N+100) (y.write n off d).1 w':=by
 have hinv:=(write_invS h.inv n off d).mono (show N+3≤N+100 by omega)
 refine S.f105.calls ?_
 unfold S.f105
 refine(singleS_okM (n:=n) h.sp h.inv (by simp) E).mono ?_
 clear E
 rintro r w_ ⟨x,rfl,hx,ix,E⟩
 have hs1:=@singleS_ok _ _ h.inv n
 unfold Sy.write at hinv ⊢
 simp only[]at hinv ⊢
 generalize y.single n=H at*
 repeat with_reducible first|refine Stp.go ?_|(refine StpW.go E ?_;clear E;intro w_ E)|(refine StpA.go E ?_;clear E;intro b_ w_ hb_ E)
 (revert b_;intro q hbq E)
 refine Bi.neq ?_ ?_<;>intro he<;>(repeat with_reducible first|refine Stp.go ?_|refine StpE.go E ?_)
 ·rw[if_pos he]
  exact⟨rfl,(h.mono (by omega)).same E.tl⟩
 rw[if_neg (λh=>h he)]at hinv ⊢
 have hk:=hs1 he
 rw[hx he]
 have hT:=h.inv.t _ (trW_mem hk)
 repeat with_reducible refine Stp.go ?_
 refine(Wo.chg (Q:=λr=>r=.tuple #[i64 ((trW y.Ts H.1.1).write H.1.2 off d).2.1,i64 ((trW y.Ts H.1.1).write H.1.2 off d).2.2]) (T':=((trW y.Ts H.1.1).write H.1.2 off d).1) (args:=λz=>#[ptr z,i64 H.1.2,i64 off,str d]) h.wo hk E λX β l0 hb E=>Write_ok hb hT.1 (by omega) hT.2 E).mono ?_
 clear E
 rintro r w_ ⟨rfl,D2,Xs2,hW,E⟩
 generalize (trW y.Ts H.1.1).write H.1.2 off d=Z at*
 repeat with_reducible refine Stp.go ?_
 replace E:=(E.bIx 2).tl
 (replace E:=((((((((E.bIx 1).bIx 1).bIx 7).bIx 7).bIx 7).bIx 7).bIx 7).bIx 7))
 exact⟨rfl,h.goes hW hinv E⟩
theorem getL_del {α : Type} {L : List (Int × α)} (hn : (L.map (·.1)).Nodup) (k j : Int) : getL (delL L k) j = if j = k then none else getL L j:=by
 induction L with
 | nil =>
  unfold delL getL
  by_cases h : j = k <;> simp [h]
 | cons p r ih =>
  rw [List.map_cons,List.nodup_cons] at hn
  unfold delL
  by_cases hk : k = p.1
  ·rw [if_pos hk]
   by_cases hj : j = k
   ·rw [if_pos hj,getL_none,hj,hk]
    exact hn.1
   ·rw [if_neg hj]
    unfold getL
    rw [List.find?_cons,show decide (j = p.1) = false by simpa [← hk] using hj]
  ·rw [if_neg hk]
   have ih:=ih hn.2
   unfold getL at ih ⊢
   rw [List.find?_cons,List.find?_cons]
   by_cases hj : j = p.1
   ·have : ¬ j = k:=fun h=>hk (h ▸ hj)
    simp [hj,Ne.symm hk]
   ·simp only [hj,decide_false]
    exact ih
theorem delL_keys {α β : Type} {k : Int} : ∀ {L : List (Int × α)} {V : List (Int × β)},L.map (·.1) = V.map (·.1)→(delL L k).map (·.1) = (delL V k).map (·.1)
 | [],[],_=>rfl
 | [],b::s,h=>by simp at h
 | a::r,[],h=>by simp at h
 | a::r,b::s,h=>by
  rw [List.map_cons,List.map_cons,List.cons.injEq] at h
  unfold delL
  rw [h.1]
  split
  ·exact h.2
  ·rw [List.map_cons,List.map_cons,h.1,delL_keys h.2]
theorem SpT.del {sp : Sp} {n : Int} (h : SpT R tA K sp) (hn : (sp.op.map (·.1)).Nodup) : SpT R tA { K with ov:=delL K.ov n } { sp with op:=delL sp.op n }:=by
 refine ⟨delL_keys h.keys,fun k=>?_⟩
 show match getL (delL sp.op n) k with
  | none=>getL (delL K.ov n) k = none
  | some hs'=>∃ v',getL (delL K.ov n) k = some v'∧RdyS R Ty.t36 2 v' (hcs tA hs')
 rw [getL_del hn,getL_del (by rw [h.keys]; exact hn)]
 by_cases hk : k = n
 ·rw [if_pos hk,if_pos hk]
 ·rw [if_neg hk,if_neg hk]
  exact h.row k
theorem Close_okM{n:Int}(h:Fit R D Xs tA M K N y)(hN:N+1000<4611686018427387904)(E:Hs w0 F w (SPl R D Xs tA M K y l)):
  Ca PP Fn.f106 #[ptr K.a,i64 n] w λr w'=>r=i64 (y.close n).2∧GoS w0 F l R tA M K (N+100) (y.close n).1 w':=by
 have hinv:=close_invS h.inv n
 refine S.f106.calls ?_
 unfold S.f106
 refine(openedS_okM (n:=n) h.sp E).mono ?_
 clear E
 rintro r w_ ⟨v,rfl,hr,E⟩
 repeat with_reducible refine Stp.go ?_
 obtain⟨o1,o2,o3⟩:=openedS_ok h.inv n
 unfold Sy.close at hinv ⊢
 simp only[]at hinv ⊢
 generalize y.opened n=L at*
 refine Bi.neq ?_ ?_<;>intro he<;>(repeat with_reducible first|refine Stp.go ?_|refine StpE.go E ?_)
 ·rw[if_pos he]
  exact⟨rfl,(h.mono (by omega)).same E⟩
 rw[if_neg (λh=>h he)]at hinv ⊢
 have hr:=hr he
 refine Dl.by E u_sopen k_int rfl ?_
 clear E
 intro w_ E
 have e1:adel (ovM K.ov) (i64 n)=ovM (delL K.ov n):=adel_enc (ev:=id) (keyI .i64) K.ov n
 rw[e1]at E
 have hr0:∀{w1:World} {Xs:List PT} {D:List Row},Hs w0 F w1 (SPl R D Xs tA M {K with ov:=delL K.ov n} {y with sp:={y.sp with op:=delL y.sp.op n}} l)→RdS w0 F (SPl R D Xs tA M {K with ov:=delL K.ov n} {y with sp:={y.sp with op:=delL y.sp.op n}} l) 2 L.1.length v (hcs tA L.1):=
  λE=>hr.read (hcs_len _) (by omega) E (by simp)
 replace E:Hs w0 F w_ (SPl R D Xs tA M {K with ov:=delL K.ov n} {y with sp:={y.sp with op:=delL y.sp.op n}} l):=E
 refine(hr0 E).len ?_
 refine⟨λl1 w1=>∃(i:Nat) (D':List Row) (Xs':List PT) (Ts':List Tr) (f:Int),l1=[i64 f,i64 i]∧i≤L.1.length∧Wo D' tA Xs' Ts'∧TsI (N+3*i) Ts'∧Ts'.length=y.Ts.length∧closeW y.Ts L.1 0=closeW Ts' (L.1.drop i) f∧Hs w0 F w1 (SPl R D' Xs' tA M {K with ov:=delL K.ov n} {y with sp:={y.sp with op:=delL y.sp.op n}} l),λl1 _=>match l1 with|[_,.int _ i]=>L.1.length-i.toNat|_=>0,
  ⟨0,D,Xs,y.Ts,0,rfl,Nat.zero_le _,h.wo,h.inv.t.mono (by omega),rfl,rfl,E⟩,?_⟩
 clear E
 rintro t7 t27 u w1 ⟨i,D2,Xs2,Ts',f,e,hi,hW,hI,hTl,hcw,E⟩
 cases e
 refine Bi.lss ?_ ?_<;>intro hlt
 ·refine Cnd.t ?_
  have hi1:i<L.1.length:=by omega
  intro J19 hJ19
  have hrd:=hr0 E
  refine hrd.ix (by omega) (by omega) (by omega) ?_
  intro a ha
  rw[Int.toNat_natCast,hcs_drop,List.drop_eq_getElem_cons hi1]at ha
  refine ha.lda E (m:=2) (ds:=[iT (adW tA L.1[i].1),i64 L.1[i].2]) rfl rfl (by omega) ?_
  have hk1:=o3 _ (List.getElem_mem hi1)
  have hdr:L.1.drop i=L.1[i]::L.1.drop (i+1):=List.drop_eq_getElem_cons hi1
  generalize L.1[i]=o at*
  obtain⟨k1,h1⟩:=o
  repeat with_reducible first|refine Stp.go ?_|refine StpE.go E ?_|(refine StpW.go E ?_;clear E;intro w_ E)|(refine StpA.go E ?_;clear E;intro b_ w_ hb_ E)
  (revert b_;intro z hbz E)
  skip
  have hk1:k1<Ts'.length:=by rw[hTl];exact hk1
  have hT:=hI _ (trW_mem hk1)
  refine(Wo.chg (Q:=λr=>r=i64 ((trW Ts' k1).close h1).2) (T':=((trW Ts' k1).close h1).1) (args:=λz=>#[ptr z,i64 h1]) hW hk1 E λX β l0 hb E=>Close_ok hb hT.1 (by omega) hT.2 E).mono ?_
  clear E
  rintro r w_ ⟨rfl,D3,Xs3,hW3,E⟩
  replace E:=(E.bIx 2).tl
  (replace E:=((((((((E.bIx 1).bIx 1).bIx 7).bIx 7).bIx 7).bIx 7).bIx 7).bIx 7))
  have hcw2:closeW y.Ts L.1 0=closeW (Ts'.set k1 ((trW Ts' k1).close h1).1) (L.1.drop (i+1)) (if f=0 then((trW Ts' k1).close h1).2 else f):=by
   rw[hcw,hdr];rfl
  have fin:∀g:Int,g=(if f=0 then((trW Ts' k1).close h1).2 else f)→J19 [i64 g] w_:=by
   intro g hg
   refine hJ19 _ w_ λu=>?_
   refine Bi.add (by omega) ?_
   exact⟨⟨i+1,D3,Xs3,_,g,by simp,by omega,hW3,(hI.set (close_inv hT.1 _) (close_lim hT.2 _)).mono (by omega),by rw[List.length_set];exact hTl,by rw[hcw2,hg],E⟩,by simp only[];omega⟩
  refine Bi.eql ?_ ?_<;>intro hf
  ·refine Cnd.t ?_
   exact fin _ (by rw[if_pos hf])
  ·refine Cnd.f ?_
   exact fin _ (by rw[if_neg hf])
 ·refine Cnd.f ?_
  have hie:i=L.1.length:=by omega
  rw[hie,List.drop_length]at hcw
  rw[hcw]at hinv ⊢
  exact⟨rfl,R,D2,Xs2,M,{K with ov:=delL K.ov n},rfl,rfl,rfl,λ_ h=>h,⟨h.tb,h.sp.del h.inv.sp.nd,hW,hinv⟩,E⟩
set_option maxRecDepth 100000
set_option linter.unusedVariables false
set_option linter.unusedSimpArgs false
variable {w0 w:World} {F:Nat→Prop} {l r1 r2 r3:List As}
variable {R:List RowS} {D:List Row} {Xs:List PT} {tA:List Nat} {M:TbM} {K:SpM} {N:Int} {y:Sy}
theorem IndexB_ok{v:Value}{bs:List Bool}{b:Bool}(hn:bs.length≤100000)(h:RdS w0 F l 1 bs.length v (bcs bs))(E:Hs w0 F w l):
  Ca PP Fn.f55 #[v,.bool b] w λr w'=>r=i64 (if b∈bs then(bs.idxOf b:Int)else -1)∧Hs w0 F w' l:=by
 refine S.f55.calls ?_
 unfold S.f55
 refine h.len ?_
 refine⟨λl1 w1=>∃i:Nat,l1=[i64 i]∧i≤bs.length∧b∉bs.take i∧Hs w0 F w1 l,λl1 _=>match l1 with|[.int _ i]=>bs.length-i.toNat|_=>0,⟨0,rfl,Nat.zero_le _,by simp,E⟩,?_⟩
 clear E
 rintro t u1 w1 ⟨i,e,hi,hx,E⟩
 cases e
 refine Bi.lss ?_ ?_<;>intro hlt
 ·refine Cnd.t ?_
  have hi1:i<bs.length:=by omega
  refine h.ix (by omega) (by omega) (by omega) ?_
  intro a ha
  rw[Int.toNat_natCast,Nat.mul_one]at ha
  refine ha.ld E (x:=.bool bs[i]) (by rw[List.getElem?_drop,Nat.add_zero,List.getElem?_map,List.getElem?_eq_getElem hi1];rfl) ?_
  refine Beq.mk ?_
  have htk:bs.take (i+1)=bs.take i++[bs[i]]:=by rw[List.take_add_one,List.getElem?_eq_getElem hi1];rfl
  by_cases hp:b=bs[i]
  ·rw[show(if false=true then !(b == bs[i])else b == bs[i])=true by simp[hp]]
   refine Cnd.t ?_
   refine⟨?_,E⟩
   have hm:b∈bs:=by rw[hp];exact List.getElem_mem hi1
   rw[if_pos hm]
   have e:bs=bs.take i++bs.drop i:=(List.take_append_drop i bs).symm
   have e2:bs.idxOf b=i:=by
    rw[e,List.idxOf_append,if_neg hx,List.drop_eq_getElem_cons hi1,← hp,List.idxOf_cons_self,List.length_take]
    omega
   rw[e2]
  ·rw[show(if false=true then !(b == bs[i])else b == bs[i])=false by simp[hp]]
   refine Cnd.f ?_
   refine Bi.add (by omega) ?_
   refine⟨⟨i+1,by simp,by omega,?_,E⟩,by simp only[];omega⟩
   rw[htk,List.mem_append,not_or]
   exact⟨hx,by simpa using hp⟩
 ·refine Cnd.f ?_
  have:bs.take i=bs:=List.take_of_length_le (by omega)
  rw[this]at hx
  rw[if_neg hx]
  exact⟨rfl,E⟩

theorem nth_rd{v:Value}{L:List Pl}{i:Nat}(hi:i<L.length)(h:RdS w0 F l 2 L.length v (pcs L)){k:Value→Prop}(hk:∀a,RdP w0 F l a ((L.getD i p0).cs++pcs (L.drop (i+1)))→k (.pointer (some a))):IxA 2 v (i64 (i:Int)) k:=by
 refine h.ix (by omega) (by omega) (by omega) ?_
 intro a ha
 rw[Int.toNat_natCast,pcs_drop,List.drop_eq_getElem_cons hi]at ha
 have e0:L[i]=L.getD i p0:=by rw[List.getD_eq_getElem?_getD,List.getElem?_eq_getElem hi];rfl
 rw[e0]at ha
 exact hk a ha
theorem Create_okM{path:BA}{perm mode:Int}(h:Fit R D Xs tA M K N y)(h0:0≤N)(hN:N+1000<4611686018427387904)(hp:path.size≤1000000)(E:Hs w0 F w (SPl R D Xs tA M K y l)):
  Ca PP Fn.f92 #[ptr K.a,str path,i64 perm,i64 mode] w λr w'=>r=.tuple #[i64 (y.create path perm mode).2.1,i64 (y.create path perm mode).2.2]∧GoS w0 F l R tA M K (N+100) (y.create path perm mode).1 w':=by
 have hinv:=(create_invS h.inv h0 path perm mode).mono (show N+3≤N+100 by omega)
 have same:=(h.mono (show N≤N+100 by omega))
 refine S.f92.calls ?_
 unfold S.f92
 refine(elements_ok (K:=K) (y:=y) h.inv.sp.dir hp E).mono ?_
 clear E
 rintro r w_ ⟨v,rfl,E⟩
 unfold Sy.create at hinv ⊢
 simp only[]at hinv ⊢
 obtain⟨e1,e2⟩:=elems_small (y:=y) (path:=path)
 generalize y.elems path=L at*
 repeat with_reducible refine Stp.go ?_
 refine Bi.neq ?_ ?_<;>intro he<;>(repeat with_reducible refine Stp.go ?_)
 ·rw[if_pos he]
  exact⟨rfl,same.same E.tl⟩
 rw[if_neg (λh=>h he)]at hinv ⊢
 have hrd0:RdS w0 F [slA v Ty.t2 1 (L.1.map str)] 1 L.1.length v (L.1.map str):=by
  have:=RdS.sl (v:=v) (T:=Ty.t2) (sz:=1) (xs:=L.1.map str) (l:=[slA v Ty.t2 1 (L.1.map str)]) (by simp) (by omega) (E.drop (List.singleton_sublist.2 (by simp)))
  rwa [Nat.div_one,List.length_map]at this
 refine(walk_okM (hrd0.weaken λ_ E=>E.drop (List.singleton_sublist.2 (by simp))) e1 e2 (h.ctx0.cons _) E).mono ?_
 clear E
 rintro r w_ ⟨rfl,E⟩
 have hW1:L.1=[]→(y.walk L.1).2=0:=λh1=>by rw[h1];rfl
 generalize y.walk L.1=W1 at*
 repeat with_reducible first|refine Stp.go ?_|(refine StpW.go E ?_;clear E;intro w_ E)|(refine StpA.go E ?_;clear E;intro b_ w_ hb_ E)
 (revert b_;intro q1 hbq1 E)
 skip
 refine Bi.eql ?_ ?_<;>intro hw1<;>(repeat with_reducible first|refine Stp.go ?_|refine StpE.go E ?_)
 ·rw[if_pos hw1]
  exact⟨rfl,same.same E.tl.tl⟩
 rw[if_neg hw1]at hinv ⊢
 have hLne:L.1≠[]:=λh1=>hw1 (hW1 h1)
 have hpos:0<L.1.length:=List.length_pos_iff.2 hLne
 rw[show(L.1.map str).length=L.1.length from List.length_map _]
 refine Bi.sub (by omega) ?_
 obtain⟨m,hm⟩:∃m,L.1.length=m+1:=⟨L.1.length-1,by omega⟩
 rw[show((L.1.length:Int)-1)=(m:Int) by omega]
 refine RdS.preS hrd0 (m:=m) (by omega) ?_
 intro v2 hv2
 rw[Nat.mul_one,← List.map_take]at hv2
 have hdl:L.1.take m=L.1.dropLast:=by rw[List.dropLast_eq_take,hm];rfl
 rw[hdl]at hv2
 have hdlen:L.1.dropLast.length=m:=by rw[List.length_dropLast,hm];rfl
 have hv2:RdS w0 F [slA v Ty.t2 1 (L.1.map str)] 1 L.1.dropLast.length v2 (L.1.dropLast.map str):=by rw[hdlen];exact hv2
 refine(walk_okM (hv2.weaken λ_ E=>E.drop (List.singleton_sublist.2 (by simp))) (λx hx=>e1 x ((List.dropLast_sublist _).subset hx)) (by omega) ((h.ctx0.cons _).cons _) E).mono ?_
 clear E
 rintro r w_ ⟨rfl,E⟩
 have hpt:(y.walk L.1.dropLast).1.t<y.tb.ts.length:=walkW_ok h.inv.tb h.inv.tb.pos
 generalize y.walk L.1.dropLast=W2 at*
 repeat with_reducible first|refine Stp.go ?_|(refine StpW.go E ?_;clear E;intro w_ E)|(refine StpA.go E ?_;clear E;intro b_ w_ hb_ E)
 (revert b_;intro q2 hbq2 E)
 skip
 refine Bi.neq ?_ ?_<;>intro hw2<;>(repeat with_reducible first|refine Stp.go ?_|refine StpE.go E ?_|(refine StpW.go E ?_;clear E;intro w_ E))
 ·rw[if_pos hw2]
  exact⟨rfl,same.same E.tl.tl.tl⟩
 rw[if_neg (λh=>h hw2)]at hinv ⊢
 obtain⟨s1,s2,s3,s4⟩:=stand_ok h.inv.tb hpt
 refine(stand_okK (M:=M) (p:=W2.1) (by simp) h.tb (by simp) h.inv.tb E).mono ?_
 clear E
 rintro r w_ ⟨pv,bv,kk,rfl,E,gg⟩
 replace E:=Hs.star E
 obtain⟨g1,g2⟩:=gg [Sh.star kk,PoolS R] λw E=>E.unstar
 clear gg
 generalize Sh.star kk=A at*
 generalize standM y.tb.ms W2.1=S at*
 repeat with_reducible refine Stp.go ?_
 refine(IndexB_ok (by omega) (g2.weaken λ_ E=>E.drop (by repeat(first|exact List.nil_sublist _|with_reducible apply List.Sublist.cons_cons|apply List.Sublist.cons))) E).mono ?_
 clear E
 rintro r w_ ⟨rfl,E⟩
 by_cases hin:true∈S.2
 ·rw[if_pos hin]
  rw[if_neg (λh=>h hin)]at hinv ⊢
  have hik:S.2.idxOf true<S.1.length:=by rw[← s3];exact List.idxOf_lt_length_of_mem hin
  generalize S.2.idxOf true=i at*
  refine Bi.lss (λh=>absurd h (by omega)) (λ_=>Cnd.f ?_)
  repeat with_reducible first|refine Stp.go ?_|refine StpE.go E ?_
  refine Len.map E FMp.mem u_sopen ?_
  rw[encM_length]
  have hkl:K.ov.length=y.sp.op.length:=by
   have:=congrArg List.length h.sp.keys
   simpa using this
  rw[hkl]
  refine Bi.geq ?_ ?_<;>intro h64<;>(repeat with_reducible first|refine Stp.go ?_|refine StpE.go E ?_|(refine StpW.go E ?_;clear E;intro w_ E))
  ·rw[if_pos (by omega)]
   exact⟨rfl,same.same E.tl.tl.tl.tl⟩
  rw[if_neg (by omega)]at hinv ⊢
  refine nth_rd hik g1 ?_
  intro a1 ha1
  have hqt:=s4 _ (getD_mem hik p0)
  generalize hQ:S.1.getD i p0=Q at*
  refine ha1.fa (by simp[Pl.cs]) ?_
  intro a2 ha2
  refine(ha2.weaken λ_ E=>E.drop (by repeat(first|exact List.nil_sublist _|with_reducible apply List.Sublist.cons_cons|apply List.Sublist.cons))).ld E (x:=i64 (Q.t:Int)) rfl ?_
  have C1:=((((h.ctx0 (l:=l)).cons (slA v Ty.t2 1 (L.1.map str))).cons (pt q1 (oc W1.1.cs Ty.t0))).cons (pt q2 (oc W2.1.cs Ty.t0))).cons A
  refine C1.treeP E hqt ?_
  intro a4 ha4 hx4
  refine ha4.ld E hx4 ?_
  repeat with_reducible first|refine Stp.go ?_|refine StpE.go E ?_|(refine StpW.go E ?_;clear E;intro w_ E)
  refine nth_rd hik g1 ?_
  intro a5 ha5
  rw[show S.1.getD i p0=Q from hQ]at ha5
  refine ha5.fa (by simp[Pl.cs]) ?_
  intro a6 ha6
  refine(ha6.weaken λ_ E=>E.drop (by repeat(first|exact List.nil_sublist _|with_reducible apply List.Sublist.cons_cons|apply List.Sublist.cons))).ld E (x:=i64 Q.f) rfl ?_
  refine hrd0.ix (by omega) (by rw[Int.toNat_natCast];omega) (by omega) ?_
  intro a7 ha7
  rw[Int.toNat_natCast,Nat.mul_one]at ha7
  have hlast:L.1.getLast?.getD emp=L.1[m]'(by omega):=by
   rw[List.getLast?_eq_getElem?,show L.1.length-1=m by omega,List.getElem?_eq_getElem (by omega)];rfl
  have hns:=e1 _ (List.getElem_mem (show m<L.1.length by omega))
  have hx7:((L.1.map str).drop m)[0]? =some (str (L.1[m]'(by omega))):=by
   rw[List.getElem?_drop,Nat.add_zero,List.getElem?_map,List.getElem?_eq_getElem (by omega)];rfl
  rw[hlast]at hinv ⊢
  generalize L.1[m]'(by omega)=nm at*
  refine(ha7.weaken λ_ E=>E.drop (List.singleton_sublist.2 (by simp))).ld E (x:=str nm) hx7 ?_
  repeat with_reducible refine Stp.go ?_
  have hk:=h.inv.tb.ixLt hqt
  have hT:=h.inv.t _ (trW_mem hk)
  have hus:y.sp.user.size≤9223372036854775807:=by have:=h.inv.sp.user;omega
  have hxi:=create_inv hT.1 y.sp.user Q.f nm perm mode
  have hxl:=create_lim hT.2 h0 y.sp.user Q.f nm perm mode
  have call:∀(l2 r2:List As) w_ (_:FWP l2 Xs D r2),Hs w0 F w_ l2→Ca PP Fn.f33 #[ptr (adW tA (y.tb.ix Q.t)),str y.sp.user,i64 Q.f,str nm,i64 perm,i64 mode] w_ λr w'=>r=.tuple #[i64 ((trW y.Ts (y.tb.ix Q.t)).create y.sp.user Q.f nm perm mode).2.1,((trW y.Ts (y.tb.ix Q.t)).create y.sp.user Q.f nm perm mode).2.2.1.V,i64 ((trW y.Ts (y.tb.ix Q.t)).create y.sp.user Q.f nm perm mode).2.2.2]∧GoesW w0 F r2 tA (y.Ts.set (y.tb.ix Q.t) ((trW y.Ts (y.tb.ix Q.t)).create y.sp.user Q.f nm perm mode).1) w':=
   λl2 r2 w_ _ E=>Wo.chg (args:=λz=>#[ptr z,str y.sp.user,i64 Q.f,str nm,i64 perm,i64 mode]) h.wo hk E λX β l0 hb E=>Create_ok hb hT.1 (by omega) hT.2 hus (by omega) E
  have htr:(y.tr Q.t).create y.sp.user Q.f nm perm mode=(trW y.Ts (y.tb.ix Q.t)).create y.sp.user Q.f nm perm mode:=rfl
  rw[htr]at hinv ⊢
  clear htr
  generalize (trW y.Ts (y.tb.ix Q.t)).create y.sp.user Q.f nm perm mode=x at*
  refine And.intro ?left (And.intro ?right trivial)
  case' left=>
   repeat with_reducible refine Stp.go ?_
   refine(call _ _ _ inferInstance E).mono ?_
   clear E
   rintro r w_ ⟨rfl,D3,Xs3,hW3,E⟩
   repeat with_reducible first|refine Stp.go ?_|(refine StpA.go E ?_;clear E;intro b_ w_ hb_ E)
   (revert b_;intro z hbz E)
   (repeat(with_reducible refine And.intro ?_ ?_;focus ((repeat with_reducible refine StpE.go E ?_);exact rfl)))
   refine And.intro ((ha6.weaken λ_ E=>E.drop (by repeat(first|exact List.nil_sublist _|with_reducible apply List.Sublist.cons_cons|apply List.Sublist.cons))).ld E (x:=i64 Q.f) rfl rfl) ?_
   refine And.intro ((ha7.weaken λ_ E=>E.drop (List.singleton_sublist.2 (by simp))).ld E (x:=str nm) hx7 rfl) ?_
   repeat with_reducible (refine StpW.go E ?_;clear E;intro w_ E)
   (replace E:=(((E.bIx 0).bIx 2).bIx 2))
  case' right=>
   repeat with_reducible (refine StpA.go E ?_;clear E;intro b_ w_ hb_ E)
   (revert b_;intro z hbz E)
   refine And.intro (by (repeat with_reducible refine StpE.go E ?_);exact rfl) ?_
   refine And.intro ((ha6.weaken λ_ E=>E.drop (by repeat(first|exact List.nil_sublist _|with_reducible apply List.Sublist.cons_cons|apply List.Sublist.cons))).ld E (x:=i64 Q.f) rfl rfl) ?_
   refine And.intro ((ha7.weaken λ_ E=>E.drop (List.singleton_sublist.2 (by simp))).ld E (x:=str nm) hx7 rfl) ?_
   repeat with_reducible refine Stp.go ?_
   refine(call _ _ _ inferInstance E).mono ?_
   clear E
   rintro r w_ ⟨rfl,D3,Xs3,hW3,E⟩
   repeat with_reducible first|refine Stp.go ?_|(refine StpW.go E ?_;clear E;intro w_ E)
  all_goals
   replace E:=((((E.bIx 2).tl.bIx 2).tl.bIx 2).tl.bIx 2).tl
   replace E:=(E.bIx 2).tl
   (replace E:=((((((((E.bIx 1).bIx 1).bIx 7).bIx 7).bIx 7).bIx 7).bIx 7).bIx 7))
   have hTl3:(y.Ts.set (y.tb.ix Q.t) x.1).length=y.Ts.length:=List.length_set
   refine Bi.neq ?_ ?_<;>intro hxe<;>(repeat with_reducible first|refine Stp.go ?_|refine StpE.go E ?_)
   ·rw[if_pos hxe]at hinv ⊢
    exact⟨rfl,h.goes hW3 hinv E⟩
   ·rw[if_neg (λh=>h hxe)]at hinv ⊢
    refine BdS.hd E ?_
    clear E
    intro s w_ E
    have h3:Fit R D3 Xs3 tA M K (N+100) (y.setT Q.t x.1):=h.setTs hW3 ((h.inv.t.set hxi hxl).mono (by omega)) hTl3
    refine(add_okM (hs:=[(y.tb.ix Q.t,x.2.1)]) h3 (by show y.sp.op.length<64;omega) (by simp) (by simp) (λz hz=>by rw[List.mem_singleton.1 hz];show _<(y.Ts.set _ _).length;rw[hTl3];exact hk) E).mono ?_
    rintro r w' ⟨rfl,G⟩
    skip
    exact⟨rfl,G⟩
 ·rw[if_neg hin]
  rw[if_pos hin]
  refine Bi.lss (λ_=>Cnd.t ?_) (λh=>absurd h (by decide))
  exact⟨rfl,same.same E.tl.tl.tl.tl⟩
set_option maxRecDepth 100000
set_option linter.unusedVariables false
set_option linter.unusedSimpArgs false
variable {w0 w:World} {F:Nat→Prop} {l r1 r2 r3:List As}
variable {R:List RowS} {D:List Row} {Xs:List PT} {tA:List Nat} {M:TbM} {K:SpM} {N:Int} {y:Sy}
theorem list_len{T:Tr}(hi:Inv T)(hd:Int):(T.list hd).1.length≤1024:=by
 unfold Tr.list
 split
 ·exact Nat.zero_le _
 split
 ·exact Nat.zero_le _
 split
 ·exact Nat.zero_le _
 ·rw[List.length_map];exact kidsS_len hi _
theorem Wo.list{Ts:List Tr}(h:Wo D tA Xs Ts)(hI:TsI N Ts){k:Nat}{hd:Int}(hk:k<Ts.length)[hW:FWP l Xs D r1](E:Hs w0 F w l):
  Ca PP Fn.f91 #[ptr (adW tA k),i64 hd] w λr w'=>∃v,r=.tuple #[v,i64 ((trW Ts k).list hd).2]∧Hs w0 F w' (slA v Ty.t9 10 (dcs ((trW Ts k).list hd).1)::l):=by
 obtain⟨X,β,hX,ht,hb⟩:=h.get hk
 have hx:k<Xs.length:=by rw[h.len];exact hk
 have E1:=Hs.openI (f:=trA) hX (E.perm hW.perm)
 rw[← ht]
 refine(List_ok hb (hI _ (trW_mem hk)).1 (E1.perm ((List.Perm.swap _ _ _).cons _))).mono ?_
 rintro r w' ⟨v,rfl,E2⟩
 refine⟨v,rfl,?_⟩
 have E3:Hs w0 F w' (trA X::Sh.star ((Xs.eraseIdx k).map trA)::slA v Ty.t9 10 (dcs ((trW Ts k).list hd).1)::Pool D::r1):=((E2.bIx 3).bIx 2)
 have E4:=Hs.closeI (f:=trA) X hx E3
 have e:Xs.set k X=Xs:=by
  refine List.ext_getElem? λj=>?_
  by_cases hj:k=j
  ·subst hj;rw[List.getElem?_set_self hx,hX]
  ·rw[List.getElem?_set_ne hj]
 rw[e]at E4
 exact(E4.bIx 1).perm (hW.perm.symm.cons _)
theorem u_msb:PP.underlying Ty.map_string_bool=some (.map Ty.t2 Ty.bool):=by kernel_rfl
theorem k_str0:KT.str.fits PP Ty.t2=true:=by kernel_rfl
theorem z_bool0:zeroK PP Ty.bool=some (.bool false):=by kernel_rfl
def seenL(out:List Dr):List (BA×Bool):=out.map λd=>(d.name,true)
abbrev seenM(out:List Dr):AL:=encM Value.string Value.bool (seenL out)
theorem seen_get(out:List Dr)(s:BA):((getL (seenL out) s).map Value.bool).getD (.bool false)=.bool (out.any λx=>decide (x.name=s)):=by
 unfold seenL getL
 induction out with
 |nil=>rfl
 |cons d r ih=>
  rw[List.map_cons,List.find?_cons,List.any_cons]
  by_cases h:s=d.name
  ·subst h
   simp
  ·rw[show decide (s=(d.name,true).1)=false by simpa using h,show decide (d.name=s)=false by simpa using λe=>h e.symm]
   simpa using ih
theorem seen_put{out:List Dr}{d:Dr}(h:(out.any λx=>decide (x.name=d.name))=false):putL (seenL out) d.name true=seenL (out++[d]):=by
 rw[putL_new]
 ·unfold seenL
  rw[List.map_append]
  rfl
 ·unfold seenL
  rw[List.map_map]
  intro hm
  obtain⟨x,hx,he⟩:=List.mem_map.1 hm
  rw[List.any_eq_false]at h
  exact h x hx (by simpa using he)
theorem addD_len(out:List Dr)(d:Dr):(addD out d).length≤out.length+1:=by
 unfold addD
 split
 ·omega
 ·simp
theorem addsD_len:∀(ds out:List Dr),(ds.foldl addD out).length≤out.length+ds.length
 |[],out=>Nat.le_refl _
 |d::r,out=>by
  rw[List.foldl_cons,List.length_cons]
  have h1:=addsD_len r (addD out d)
  have h2:=addD_len out d
  omega
theorem List_okM{n:Int}(h:Fit R D Xs tA M K N y)(E:Hs w0 F w (SPl R D Xs tA M K y l)):
  Ca PP Fn.f97 #[ptr K.a,i64 n] w λr w'=>∃v,r=.tuple #[v,i64 (y.list n).2]∧Hs w0 F w' (slA v Ty.t9 10 (dcs (y.list n).1)::SPl R D Xs tA M K y l):=by
 refine S.f97.calls ?_
 unfold S.f97
 refine(openedS_okM (n:=n) h.sp E).mono ?_
 clear E
 rintro r w_ ⟨hv,rfl,hr,E⟩
 repeat with_reducible refine Stp.go ?_
 obtain⟨o1,o2,o3⟩:=openedS_ok h.inv n
 unfold Sy.list
 simp only[]
 generalize y.opened n=L at*
 refine Bi.neq ?_ ?_<;>intro he<;>(repeat with_reducible refine Stp.go ?_)
 ·rw[if_pos he]
  exact⟨_,rfl,Hs.nilSl E _ _⟩
 rw[if_neg (λh=>h he)]
 have hr0:RdS w0 F [PoolS R] 2 L.1.length hv (hcs tA L.1):=(hr he).read (hcs_len _) (by omega) (E.drop (List.singleton_sublist.2 (by simp))) (by simp)
 refine MkM.pt (kt:=.str) E ?_
 clear E
 intro mm w_ hmm_ E
 refine hr0.len ?_
 refine⟨λl1 w1=>∃(i:Nat) (out:List Dr) (ov:Value),l1=[ov,i64 i]∧i≤L.1.length∧out.length≤1024*i∧listW y.Ts L.1 []=listW y.Ts (L.1.drop i) out∧Hs w0 F w1 (slA ov Ty.t9 10 (dcs out)::mp mm .str (seenM out)::SPl R D Xs tA M K y l),λl1 _=>match l1 with|[_,.int _ i]=>L.1.length-i.toNat|_=>0,
  ⟨0,[],.slice none 0 0,rfl,Nat.zero_le _,Nat.le_refl _,rfl,Hs.nilSl E _ _⟩,?_⟩
 clear E
 rintro ov t28 u w1 ⟨i,out,ov',e,hi,hol,hlw,E⟩
 cases e
 refine Bi.lss ?_ ?_<;>intro hlt
 ·refine Cnd.t ?_
  have hi1:i<L.1.length:=by omega
  refine hr0.ix (by omega) (by omega) (by omega) ?_
  intro a ha
  rw[Int.toNat_natCast,hcs_drop,List.drop_eq_getElem_cons hi1]at ha
  refine(ha.weaken λ_ E=>E.drop (List.singleton_sublist.2 (by simp))).lda E (m:=2) (ds:=[iT (adW tA L.1[i].1),i64 L.1[i].2]) rfl rfl (by omega) ?_
  have hk1:=o3 _ (List.getElem_mem hi1)
  have hdr:L.1.drop i=L.1[i]::L.1.drop (i+1):=List.drop_eq_getElem_cons hi1
  generalize L.1[i]=o at*
  obtain⟨k1,h1⟩:=o
  repeat with_reducible first|refine Stp.go ?_|refine StpE.go E ?_|(refine StpW.go E ?_;clear E;intro w_ E)|(refine StpA.go E ?_;clear E;intro b_ w_ hb_ E)
  (revert b_;intro z hbz E)
  skip
  refine(Wo.list h.wo h.inv.t hk1 E).mono ?_
  clear E
  rintro r w_ ⟨dv,rfl,E⟩
  have hll:=list_len (h.inv.t _ (trW_mem hk1)).1 h1
  have hlw2:listW y.Ts L.1 []=if((trW y.Ts k1).list h1).2≠0 then([],((trW y.Ts k1).list h1).2)else listW y.Ts (L.1.drop (i+1)) (((trW y.Ts k1).list h1).1.foldl addD out):=by rw[hlw,hdr];rfl
  generalize (trW y.Ts k1).list h1=X at*
  repeat with_reducible refine Stp.go ?_
  refine Bi.neq ?_ ?_<;>intro hxe<;>(repeat with_reducible refine Stp.go ?_)
  ·rw[if_pos hxe]at hlw2
   rw[hlw2]
   replace E:=E.tl.tl.tl.tl
   exact⟨_,rfl,Hs.nilSl E _ _⟩
  rw[if_neg (λh=>h hxe)]at hlw2
  replace E:=(E.bIx 1).tl
  have hds:∀(ov:Value) (o2:List Dr) w1,Hs w0 F w1 (slA dv Ty.t9 10 (dcs X.1)::slA ov Ty.t9 10 (dcs o2)::mp mm .str (seenM o2)::SPl R D Xs tA M K y l)→RdS w0 F (slA dv Ty.t9 10 (dcs X.1)::slA ov Ty.t9 10 (dcs o2)::mp mm .str (seenM o2)::SPl R D Xs tA M K y l) 10 X.1.length dv (dcs X.1):=λov o2 w1 E=>by
   have:=RdS.sl (v:=dv) (T:=Ty.t9) (sz:=10) (xs:=dcs X.1) List.mem_cons_self (by omega) E
   rwa [dcs_len,Nat.mul_div_cancel _ (by omega)]at this
  refine(hds _ _ _ E).len ?_
  refine⟨λl1 w1=>∃(j:Nat) (ov:Value),l1=[ov,i64 j]∧j≤X.1.length∧Hs w0 F w1 (slA dv Ty.t9 10 (dcs X.1)::slA ov Ty.t9 10 (dcs ((X.1.take j).foldl addD out))::mp mm .str (seenM ((X.1.take j).foldl addD out))::SPl R D Xs tA M K y l),λl1 _=>match l1 with|[_,.int _ j]=>X.1.length-j.toNat|_=>0,
   ⟨0,ov,rfl,Nat.zero_le _,E⟩,?_⟩
  clear E
  rintro ov2 t45 u w2 ⟨j,ov2',e,hj,E⟩
  cases e
  refine Bi.lss ?_ ?_<;>intro hlt2
  ·refine Cnd.t ?_
   have hj1:j<X.1.length:=by omega
   intro J38 hJ38
   have htk:(X.1.take (j+1)).foldl addD out=addD ((X.1.take j).foldl addD out) X.1[j]:=by
    rw[List.take_add_one,List.getElem?_eq_getElem hj1,List.foldl_append,Option.toList_some,List.foldl_cons,List.foldl_nil]
   have hO:((X.1.take j).foldl addD out).length≤1024*(i+1):=by
    have:=addsD_len (X.1.take j) out
    rw[List.length_take]at this
    omega
   have hrd:=hds _ _ _ E
   generalize hOe:(X.1.take j).foldl addD out=O at*
   refine hrd.ix (by omega) (by omega) (by omega) ?_
   intro a ha
   rw[Int.toNat_natCast,dcs_drop,List.drop_eq_getElem_cons hj1]at ha
   refine ha.lda E (m:=10) (ds:=X.1[j].cs) rfl rfl (by omega) ?_
   generalize X.1[j]=d at*
   repeat with_reducible first|refine Stp.go ?_|refine StpE.go E ?_|(refine StpW.go E ?_;clear E;intro w_ E)|(refine StpA.go E ?_;clear E;intro b_ w_ hb_ E)
   (revert b_;intro q hbq E)
   (first|(refine StA.all E rfl rfl (by first|exact rfl|assumption) ?_;clear E;intro w_ E)|try (refine StA.by E rfl (by first|exact rfl|assumption) ?_;clear E;intro w_ E))
   skip
   refine Lk.one E FMp.mem u_msb k_str0 z_bool0 rfl ?_
   rw[aget_enc keyS,seen_get]
   have fin:∀(v:Value) w_,Hs w0 F w_ (slA dv Ty.t9 10 (dcs X.1)::slA v Ty.t9 10 (dcs (addD O d))::mp mm .str (seenM (addD O d))::SPl R D Xs tA M K y l)→J38 [v] w_:=by
    intro v w_ E
    refine hJ38 _ w_ λu=>?_
    refine Bi.add (by omega) ?_
    exact⟨⟨j+1,v,by simp,by omega,by rw[htk];exact E⟩,by simp only[];omega⟩
   clear hJ38
   cases hb:O.any λx=>decide (x.name=d.name)with
   |true=>
    repeat with_reducible refine Stp.go ?_
    refine fin ov2 _ ?_
    rw[show addD O d=O by unfold addD;rw[if_pos hb]]
    exact E.tl
   |false=>
    repeat with_reducible first|refine Stp.go ?_|refine StpE.go E ?_
    refine Mu.by E u_msb k_str0 rfl ?_
    clear E
    intro w_ E
    have e1:aput (seenM O) (str d.name) (.bool true)=seenM (O++[d]):=by
     show aput (encM Value.string Value.bool (seenL O)) _ _=_
     rw[aput_enc keyS,seen_put hb]
    rw[e1]at E
    repeat with_reducible refine StpE.go E ?_
    refine BdS.dir E ?_
    clear E
    intro s w_ E
    refine Ap.el E (i:=3) rfl u_sl_Dir ⟨_,u_sl_Dir,λ_ h=>by cases h⟩ e_Dir (by omega) (Src.slice (E.sat _ List.mem_cons_self) (n:=1) rfl (by omega) (dr_scal d)) rfl (by rw[dcs_len,Nat.mul_div_cancel _ (by omega)];omega) (by rw[dcs_len,Nat.mul_div_cancel _ (by omega)];omega) ?_
    clear E
    intro s2 w_ E
    simp only[List.set_cons_zero,List.set_cons_succ]at E
    rw[← dcs_app]at E
    refine fin s2 _ ?_
    rw[show addD O d=O++[d] by unfold addD;rw[hb];rfl]
    exact E.tl.tl
  ·refine Cnd.f ?_
   have hje:j=X.1.length:=by omega
   rw[hje,List.take_length]at E
   refine Bi.add (by omega) ?_
   exact⟨⟨i+1,_,ov2,by simp,by omega,by have:=addsD_len X.1 out;omega,hlw2,E.tl⟩,by simp only[];omega⟩
 ·refine Cnd.f ?_
  have hie:i=L.1.length:=by omega
  rw[hie,List.drop_length]at hlw
  rw[hlw]
  exact⟨ov,rfl,(E.bIx 1).tl⟩
set_option maxRecDepth 100000
set_option linter.unusedVariables false
set_option linter.unusedSimpArgs false
variable {w0 w:World} {F:Nat→Prop} {l r1 r2 r3:List As}
variable {R:List RowS} {D:List Row} {Xs:List PT} {tA:List Nat} {M:TbM} {K:SpM} {N:Int} {y:Sy}

structure TbV(R:List RowS)(vs:List (Value×Value))(ms:List Mt):Prop where
 len:vs.length=ms.length
 row:∀(i:Nat) m v,ms[i]? =some m→vs[i]? =some v→RdyS R Ty.t0 2 v.1 (pcs m.new)∧RdyS R Ty.bool 1 v.2 (bcs m.cr)
theorem TbV.mono{R':List RowS}{vs:List (Value×Value)}{ms:List Mt}(h:TbV R vs ms)(hs:∀x∈R,x∈R'):TbV R' vs ms:=⟨h.len,λi m v h1 h2=>⟨(h.row i m v h1 h2).1.mono hs,(h.row i m v h1 h2).2.mono hs⟩⟩
theorem copied_okM(h:Fit R D Xs tA M K N y)(E:Hs w0 F w (SPl R D Xs tA M K y l)):
  Ca PP Fn.f95 #[ptr M.a] w λr w'=>∃R' vs,(∀x∈R,x∈R')∧TbV R' vs y.tb.ms∧Hs w0 F w' (slA r Ty.t22 4 (mcs y.tb.ms vs)::SPl R' D Xs tA M K y l):=by
 refine S.f95.calls ?_
 unfold S.f95
 repeat with_reducible first|refine Stp.go ?_|refine StpE.go E ?_
 have hms:=h.inv.tb.ms
 have hrd0:∀{R':List RowS} {l2:List As} {w1:World},Hs w0 F w1 l2→slA M.mv Ty.t22 4 (mcs y.tb.ms M.vs)∈l2→RdS w0 F l2 4 y.tb.ms.length M.mv (mcs y.tb.ms M.vs):=λE hm=>by
  have:=RdS.sl hm (by omega) E
  rwa [mcs_len h.tb.len,Nat.mul_div_cancel _ (by omega)]at this
 refine(hrd0 (R':=R) E (by simp)).len ?_
 refine⟨λl1 w1=>∃(i:Nat) (ov:Value) (R':List RowS) (vs:List (Value×Value)),l1=[ov,i64 i]∧i≤y.tb.ms.length∧(∀x∈R,x∈R')∧TbV R' vs (y.tb.ms.take i)∧Hs w0 F w1 (slA ov Ty.t22 4 (mcs (y.tb.ms.take i) vs)::SPl R' D Xs tA M K y l),λl1 _=>match l1 with|[_,.int _ i]=>y.tb.ms.length-i.toNat|_=>0,
  ⟨0,.slice none 0 0,R,[],rfl,Nat.zero_le _,λ_ h=>h,⟨rfl,λi m v h=>by simp at h⟩,Hs.nilSl E _ _⟩,?_⟩
 clear E
 rintro ov t11 u w1 ⟨i,ov',R',vs,e,hi,hR,hV,E⟩
 cases e
 refine Bi.lss ?_ ?_<;>intro hlt
 ·refine Cnd.t ?_
  have hi1:i<y.tb.ms.length:=by omega
  have g1:y.tb.ms[i]? =some y.tb.ms[i]:=List.getElem?_eq_getElem hi1
  have g2:M.vs[i]? =some (M.vs[i]'(by rw[h.tb.len];exact hi1)):=List.getElem?_eq_getElem (by rw[h.tb.len];exact hi1)
  have hd:=mcs_at g1 g2
  obtain⟨y1,y2⟩:=h.tb.row _ _ _ g1 g2
  have hmi:=h.inv.tb.m _ (List.getElem_mem hi1)
  have hvl:vs.length=i:=by rw[hV.len,List.length_take];omega
  have htk:y.tb.ms.take (i+1)=y.tb.ms.take i++[y.tb.ms[i]]:=by rw[List.take_add_one,g1];rfl
  refine(hrd0 (R':=R') E (by simp)).ix (by omega) (by omega) (by omega) ?_
  intro a ha
  rw[Int.toNat_natCast,hd]at ha
  refine ha.lda E (m:=4) (ds:=y.tb.ms[i].C (M.vs[i]'(by rw[h.tb.len];exact hi1))) rfl rfl (by omega) ?_
  generalize y.tb.ms[i]=m at*
  generalize M.vs[i]'(by rw[h.tb.len];exact hi1)=v at*
  have s1:Scal v.1:=⟨RdyS.scal (n:=m.new.length) (y1.mono hR) (pcs_len _) (by omega) (by simp) E⟩
  have s2:Scal v.2:=⟨RdyS.scal (n:=m.cr.length) (y2.mono hR) (by simp) (by omega) (by simp) E⟩
  repeat with_reducible first|refine Stp.go ?_|refine StpE.go E ?_|(refine StpW.go E ?_;clear E;intro w_ E)|(refine StpA.go E ?_;clear E;intro b_ w_ hb_ E)
  (revert b_;intro z hbz E)
  (first|(refine StA.all E rfl rfl (by first|exact rfl|assumption) ?_;clear E;intro w_ E)|try (refine StA.by E rfl (by first|exact rfl|assumption) ?_;clear E;intro w_ E))
  skip
  have k1:=(y1.mono hR).read (n:=m.new.length) (pcs_len _) (by omega) E (by simp)
  have k2:=(y2.mono hR).read (n:=m.cr.length) (by simp) (by omega) E (by simp)
  refine(CloneP_ok k1 (by have:=hmi.few;omega) E).mono ?_
  clear E
  intro c1 w_ E
  (repeat(with_reducible refine And.intro ?_ ?_;focus ((repeat with_reducible refine StpE.go E ?_);exact rfl)))
  refine(CloneB_ok (k2.cons _) (by have:=hmi.few;have:=hmi.cr;omega) E).mono ?_
  clear E
  intro c2 w_ E
  have ic1:Scal c1:=⟨Hs.slScal E FSl.mem⟩
  have ic2:Scal c2:=⟨Hs.slScal E FSl.mem⟩
  (repeat(with_reducible refine And.intro ?_ ?_;focus ((repeat with_reducible refine StpE.go E ?_);exact rfl)))
  repeat with_reducible refine StpE.go E ?_
  refine BdS.mt (m:=m) (v:=(c1,c2)) E ?_
  clear E
  intro s w_ E
  refine Ap.el E (i:=4) rfl u_sl_Mount ⟨_,u_sl_Mount,λ_ h=>by cases h⟩ e_Mount (by omega) (Src.slice (E.sat _ List.mem_cons_self) (n:=1) rfl (by omega) (by simp only[List.all_cons,List.all_nil,ic1.s,ic2.s,Bool.and_true];rfl)) rfl (by rw[mcs_len hV.len,Nat.mul_div_cancel _ (by omega),List.length_take];omega) (by rw[mcs_len hV.len,Nat.mul_div_cancel _ (by omega),List.length_take];omega) ?_
  clear E
  intro s2 w_ E
  simp only[List.set_cons_zero,List.set_cons_succ]at E
  replace E:=E.tl
  rw[← mcs_app hV.len]at E
  replace E:=Hs.poolS Ty.t0 ((E.bIx 9).bIx 2)
  replace E:=Hs.poolS Ty.bool (E.bIx 1)
  replace E:=(E.bIx 1).tl
  (replace E:=(((((((((E.bIx 8).bIx 8).bIx 2).bIx 8).bIx 8).bIx 8).bIx 8).bIx 8).bIx 8))
  have hR2:∀x∈R',x∈(⟨c2,Ty.bool,1,bcs m.cr⟩:RowS)::⟨c1,Ty.t0,2,pcs m.new⟩::R':=λx hx=>List.mem_cons_of_mem _ (List.mem_cons_of_mem _ hx)
  refine Bi.add (by omega) ?_
  refine⟨⟨i+1,s2,_,vs++[(c1,c2)],by simp,by omega,λx hx=>hR2 x (hR x hx),⟨by rw[List.length_append,hV.len,htk,List.length_append];rfl,?_⟩,by rw[htk];exact E⟩,by simp only[];omega⟩
  rw[htk]
  exact rows_app hV.len hR2 ⟨.inr (List.mem_cons_of_mem _ List.mem_cons_self),.inr List.mem_cons_self⟩ hV.row
 ·refine Cnd.f ?_
  have hie:i=y.tb.ms.length:=by omega
  rw[hie,List.take_length]at E hV
  exact⟨R',vs,hR,hV,E⟩
theorem Table_okM(h:Fit R D Xs tA M K N y)(E:Hs w0 F w (SPl R D Xs tA M K y l)):
  Ca PP Fn.f64 #[ptr K.a] w λr w'=>∃R' vs,(∀x∈R,x∈R')∧TbV R' vs y.tb.ms∧Hs w0 F w' (slA r Ty.t22 4 (mcs y.tb.ms vs)::SPl R' D Xs tA M K y l):=by
 refine S.f64.calls ?_
 unfold S.f64
 refine Eq.ef u_p_Space rfl ?_
 repeat with_reducible first|refine Stp.go ?_|refine StpE.go E ?_
 refine(copied_okM h E).mono ?_
 clear E
 rintro r w_ hh
 skip
 exact hh
set_option maxRecDepth 100000
set_option linter.unusedVariables false
set_option linter.unusedSimpArgs false
variable {w0 w:World} {F:Nat→Prop} {l r1 r2 r3:List As}
variable {R:List RowS} {D:List Row} {Xs:List PT} {tA:List Nat} {M:TbM} {K:SpM} {N:Int} {y:Sy}

def Sy.forked(y:Sy):Sy:={y with sp:={y.sp with op:=[]}}
abbrev tblO(tv mv:Value):Obj:=oc [tv,mv] Ty.space_table
abbrev spcO(ma:Nat)(y:Sy)(om:Nat):Obj:=oc [ptr ma,str y.sp.user,str y.sp.dir,.map (some om)] Ty.space_Space
set_option maxRecDepth 100000
set_option linter.unusedVariables false
set_option linter.unusedSimpArgs false

def Sy.withOp(y:Sy)(o:List (Int×List (Nat×Int))):Sy:={y with sp:={y.sp with op:=o}}
theorem act_0(y:Sy){x:Xa}(h:x.kind=0):y.act x=((y.bind x.path x.old x.flag).1,{errno:=(y.bind x.path x.old x.flag).2}):=by
 unfold Sy.act
 rw[if_pos h]
theorem act_1(y:Sy){x:Xa}(h:x.kind=1):y.act x=((y.mount (x.tree y.Ts.length) x.old x.flag).1,{errno:=(y.mount (x.tree y.Ts.length) x.old x.flag).2}):=by
 unfold Sy.act
 rw[if_neg (by omega),if_pos h]
theorem act_2(y:Sy){x:Xa}(h:x.kind=2):y.act x=((y.unmount x.path x.old).1,{errno:=(y.unmount x.path x.old).2}):=by
 unfold Sy.act
 rw[if_neg (by omega),if_neg (by omega),if_pos h]
theorem act_3(y:Sy){x:Xa}(h:x.kind=3):y.act x=((y.chdir x.path).1,{errno:=(y.chdir x.path).2}):=by
 unfold Sy.act
 rw[if_neg (by omega),if_neg (by omega),if_neg (by omega),if_pos h]
set_option maxRecDepth 100000
set_option linter.unusedVariables false
set_option linter.unusedSimpArgs false
variable {w0 w:World} {F:Nat→Prop} {l:List As}
set_option maxRecDepth 100000
set_option linter.unusedVariables false
set_option linter.unusedSimpArgs false
variable {w0 w:World} {F:Nat→Prop} {l:List As}
abbrev Xa.C(x:Xa):List Value:=[i64 x.kind,i64 x.number,i64 x.flag,str x.path,str x.old,str x.data,i64 x.perm,i64 x.offset,i64 x.dir.kind,i64 x.dir.vers,i64 x.dir.path,i64 x.dir.mode,i64 x.dir.time,i64 x.dir.len,str x.dir.name,str x.dir.owner,str x.dir.group,str x.dir.last]
abbrev Xa.V(x:Xa):Value:=.agg x.C.toArray
abbrev raC(n:Int)(t:BA)(dv pv:Value)(e:Int):List Value:=[i64 n,str t,dv,pv,i64 e]
abbrev nlV:Value:=.slice none 0 0
set_option maxRecDepth 100000
set_option linter.unusedVariables false
set_option linter.unusedSimpArgs false
variable {w0 w:World} {F:Nat→Prop} {l:List As}
set_option maxRecDepth 100000
set_option linter.unusedVariables false
set_option linter.unusedSimpArgs false
variable {w0 w:World} {F:Nat→Prop} {l:List As}

structure Xa.Ok(x:Xa):Prop where
 path:x.path.size≤140737488355328
 old:x.old.size≤140737488355328
 data:x.data.size≤140737488355328
 name:x.dir.name.size≤140737488355328
 owner:x.dir.owner.size≤140737488355328
 group:x.dir.group.size≤140737488355328
 last:x.dir.last.size≤140737488355328
def Xa.total(x:Xa):Nat:=x.path.size+x.old.size+x.data.size+x.dir.name.size+x.dir.group.size+x.dir.owner.size+x.dir.last.size
def bigX(x:Xa):Bool:=decide (700<x.total) || decide (3000<x.offset∧x.offset≤1048576) || decide (3000<x.dir.len∧x.dir.len≤1048576)
theorem b_fewX:hasBody PP Fn.f121=true:=by kernel_rfl
theorem FewX1_ok{x:Xa}(hx:x.Ok)(E:Hs w0 F w l):Ca PP Fn.f121 #[x.V] w λr w'=>r=.bool (bigX x)∧Hs w0 F w' l:=by
 obtain⟨h1,h2,h3,h4,h5,h6,h7⟩:=hx
 refine S.f121.calls ?_
 unfold S.f121
 repeat with_reducible (refine StpA.go E ?_;clear E;intro b_ w_ hb_ E)
 (intro J3 hJ3)
 have fin:∀b w_,b=bigX x→(∃A,Hs w0 F w_ (A::l))→J3 [.bool b] w_:=by
  rintro b w_ hb ⟨A,E⟩
  repeat with_reducible (apply hJ3;intro u_)
  exact⟨by rw[hb],E.tl⟩
 clear hJ3
 repeat with_reducible first|refine Stp.go ?_|refine StpE.go E ?_
 refine Bi.add (by omega) ?_
 repeat with_reducible first|refine Stp.go ?_|refine StpE.go E ?_
 refine Bi.add (by omega) ?_
 repeat with_reducible first|refine Stp.go ?_|refine StpE.go E ?_
 refine Bi.add (by omega) ?_
 repeat with_reducible first|refine Stp.go ?_|refine StpE.go E ?_
 refine Bi.add (by omega) ?_
 repeat with_reducible first|refine Stp.go ?_|refine StpE.go E ?_
 refine Bi.add (by omega) ?_
 repeat with_reducible first|refine Stp.go ?_|refine StpE.go E ?_
 refine Bi.add (by omega) ?_
 have ht:(x.total:Int)=(x.path.size:Int)+x.old.size+x.data.size+x.dir.name.size+x.dir.group.size+x.dir.owner.size+x.dir.last.size:=by unfold Xa.total;omega
 refine Bi.gtr ?_ ?_<;>intro c1<;>(repeat with_reducible first|refine Stp.go ?_|refine StpE.go E ?_)
 ·exact fin _ _ (by unfold bigX;rw[decide_eq_true (show 700<x.total by omega)];rfl) ⟨_,E⟩
 have k1:decide (700<x.total)=false:=decide_eq_false (by omega)
 refine Bi.gtr ?_ ?_<;>intro c2<;>(repeat with_reducible first|refine Stp.go ?_|refine StpE.go E ?_)
 ·refine Bi.leq ?_ ?_<;>intro c3<;>(repeat with_reducible first|refine Stp.go ?_|refine StpE.go E ?_)
  ·exact fin _ _ (by unfold bigX;rw[k1];simp;omega) ⟨_,E⟩
  ·refine Bi.gtr ?_ ?_<;>intro c4<;>(repeat with_reducible first|refine Stp.go ?_|refine StpE.go E ?_)
   ·refine Bi.leq ?_ ?_<;>intro c5<;>(repeat with_reducible refine Stp.go ?_)
    ·exact fin _ _ (by unfold bigX;rw[k1];simp;omega) ⟨_,E⟩
    ·exact fin _ _ (by unfold bigX;rw[k1];simp;omega) ⟨_,E⟩
   ·exact fin _ _ (by unfold bigX;rw[k1];simp;omega) ⟨_,E⟩
 ·refine Bi.gtr ?_ ?_<;>intro c4<;>(repeat with_reducible first|refine Stp.go ?_|refine StpE.go E ?_)
  ·refine Bi.leq ?_ ?_<;>intro c5<;>(repeat with_reducible refine Stp.go ?_)
   ·exact fin _ _ (by unfold bigX;rw[k1];simp;omega) ⟨_,E⟩
   ·exact fin _ _ (by unfold bigX;rw[k1];simp;omega) ⟨_,E⟩
  ·exact fin _ _ (by unfold bigX;rw[k1];simp;omega) ⟨_,E⟩
set_option maxRecDepth 100000
set_option linter.unusedVariables false
set_option linter.unusedSimpArgs false
variable {w0 w:World} {F:Nat→Prop} {l r1 r2 r3:List As}
variable {R:List RowS} {D:List Row} {Xs:List PT} {tA:List Nat} {M:TbM} {K:SpM} {N:Int} {y:Sy}
theorem act_4(y:Sy){x:Xa}(h:x.kind=4):y.act x=(y,{dirs:=[(y.stat x.path).1],errno:=(y.stat x.path).2}):=by
 unfold Sy.act
 rw[if_neg (by omega),if_neg (by omega),if_neg (by omega),if_neg (by omega),if_pos h]
theorem act_5(y:Sy){x:Xa}(h:x.kind=5):y.act x=((y.wstat x.path x.dir).1,{errno:=(y.wstat x.path x.dir).2}):=by
 unfold Sy.act
 rw[if_neg (by omega),if_neg (by omega),if_neg (by omega),if_neg (by omega),if_neg (by omega),if_pos h]
theorem act_6(y:Sy){x:Xa}(h:x.kind=6):y.act x=((y.openF x.path x.flag).1,{number:=(y.openF x.path x.flag).2.1,errno:=(y.openF x.path x.flag).2.2}):=by
 unfold Sy.act
 rw[if_neg (by omega),if_neg (by omega),if_neg (by omega),if_neg (by omega),if_neg (by omega),if_neg (by omega),if_pos h]
theorem act_7(y:Sy){x:Xa}(h:x.kind=7):y.act x=((y.create x.path x.perm x.flag).1,{number:=(y.create x.path x.perm x.flag).2.1,errno:=(y.create x.path x.perm x.flag).2.2}):=by
 unfold Sy.act
 rw[if_neg (by omega),if_neg (by omega),if_neg (by omega),if_neg (by omega),if_neg (by omega),if_neg (by omega),if_neg (by omega),if_pos h]
theorem act_8(y:Sy){x:Xa}(h:x.kind=8):y.act x=(y,{text:=(y.read x.number x.offset x.flag).1,errno:=(y.read x.number x.offset x.flag).2}):=by
 unfold Sy.act
 rw[if_neg (by omega),if_neg (by omega),if_neg (by omega),if_neg (by omega),if_neg (by omega),if_neg (by omega),if_neg (by omega),if_neg (by omega),if_pos h]
theorem act_9(y:Sy){x:Xa}(h:x.kind=9):y.act x=(y,{dirs:=(y.list x.number).1,errno:=(y.list x.number).2}):=by
 unfold Sy.act
 rw[if_neg (by omega),if_neg (by omega),if_neg (by omega),if_neg (by omega),if_neg (by omega),if_neg (by omega),if_neg (by omega),if_neg (by omega),if_neg (by omega),if_pos h]
theorem act_10(y:Sy){x:Xa}(h:x.kind=10):y.act x=((y.write x.number x.offset x.data).1,{number:=(y.write x.number x.offset x.data).2.1,errno:=(y.write x.number x.offset x.data).2.2}):=by
 unfold Sy.act
 rw[if_neg (by omega),if_neg (by omega),if_neg (by omega),if_neg (by omega),if_neg (by omega),if_neg (by omega),if_neg (by omega),if_neg (by omega),if_neg (by omega),if_neg (by omega),if_pos h]
theorem act_11(y:Sy){x:Xa}(h:x.kind=11):y.act x=((y.close x.number).1,{errno:=(y.close x.number).2}):=by
 unfold Sy.act
 rw[if_neg (by omega),if_neg (by omega),if_neg (by omega),if_neg (by omega),if_neg (by omega),if_neg (by omega),if_neg (by omega),if_neg (by omega),if_neg (by omega),if_neg (by omega),if_neg (by omega),if_pos h]
theorem act_12(y:Sy){x:Xa}(h:x.kind=12):y.act x=((y.remove x.path).1,{errno:=(y.remove x.path).2}):=by
 unfold Sy.act
 rw[if_neg (by omega),if_neg (by omega),if_neg (by omega),if_neg (by omega),if_neg (by omega),if_neg (by omega),if_neg (by omega),if_neg (by omega),if_neg (by omega),if_neg (by omega),if_neg (by omega),if_neg (by omega),if_pos h]
theorem act_13(y:Sy){x:Xa}(h:x.kind=13):y.act x=(y,{places:=(y.where_ x.path).1,errno:=(y.where_ x.path).2}):=by
 unfold Sy.act
 rw[if_neg (by omega),if_neg (by omega),if_neg (by omega),if_neg (by omega),if_neg (by omega),if_neg (by omega),if_neg (by omega),if_neg (by omega),if_neg (by omega),if_neg (by omega),if_neg (by omega),if_neg (by omega),if_neg (by omega),if_pos h]
theorem act_no(y:Sy){x:Xa}(h:x.kind<0∨14≤x.kind):y.act x=(y,{}):=by
 unfold Sy.act
 rw[if_neg (by omega),if_neg (by omega),if_neg (by omega),if_neg (by omega),if_neg (by omega),if_neg (by omega),if_neg (by omega),if_neg (by omega),if_neg (by omega),if_neg (by omega),if_neg (by omega),if_neg (by omega),if_neg (by omega),if_neg (by omega)]
theorem Hs.spl3{a b c:As}(E:Hs w0 F w (a::b::c::SPl R D Xs tA M K y l)):Hs w0 F w (SPl R D Xs tA M K y (a::b::c::l)):=
 (((((((E.bIx 10).bIx 10).bIx 10).bIx 10).bIx 10).bIx 10).bIx 10).bIx 10
theorem DoS_okM{x:Xa}{tv:Value}(h:Fit R D Xs tA M K N y)(h0:0≤N)(hN:N+1000<4611686018427387904)(hx:x.total≤700)(htA:tA.length=y.Ts.length)(h4:tA.length≤4)(E:Hs w0 F w (SPl R D Xs tA M K y (slA tv Ty.t1 1 (tA.map ptr)::l))):
  Ca PP Fn.law29_Do #[ptr K.a,tv,x.V] w λr w'=>∃dv pv,r=.agg (raC (y.act x).2.number (y.act x).2.text dv pv (y.act x).2.errno).toArray∧
   GoS w0 F (slA tv Ty.t1 1 (tA.map ptr)::slA dv Ty.t9 10 (dcs (y.act x).2.dirs)::slA pv Ty.t0 2 (pcs (y.act x).2.places)::l) R tA M K (N+100) (y.act x).1 w':=by
 refine S.law29_Do.calls ?_
 unfold S.law29_Do
 have hz:x.path.size≤1000000∧x.old.size≤1000000∧x.dir.name.size≤9223372036854775807∧x.dir.group.size≤9223372036854775807:=by unfold Xa.total at hx;omega
 obtain⟨hz1,hz2,hz3,hz4⟩:=hz
 refine StpA.go E ?_
 clear E
 intro q w_ h1 E
 refine StpA.go E ?_
 clear E
 intro b w_ h2 E
 repeat with_reducible first|refine StpE.go E ?_|(refine StpW.go E ?_;clear E;intro w_ E)|(refine StpA.go E ?_;clear E;intro b_ w_ hb_ E)
 (revert b_;intro c hbc E)
 (first|(refine StA.all E rfl rfl (by first|exact rfl|assumption) ?_;clear E;intro w_ E)|try (refine StA.by E rfl (by first|exact rfl|assumption) ?_;clear E;intro w_ E))
 intro J9 hJ9
 have fin:∀(n:Int) (t:BA) (dv pv:Value) (ds:List Dr) (ps:List Pl) (e:Int) (yy:Sy) (R':List RowS) (D':List Row) (Xs':List PT) (M':TbM) (K':SpM) w_,M'.a=M.a→K'.a=K.a→K'.om=K.om→(∀x∈R,x∈R')→Fit R' D' Xs' tA M' K' (N+100) yy→y.act x=(yy,⟨n,t,ds,ps,e⟩)→
   Hs w0 F w_ (slA dv Ty.t9 10 (dcs ds)::slA pv Ty.t0 2 (pcs ps)::SPl R' D' Xs' tA M' K' yy (pt c (oc (raC n t dv pv e) Ty.t117)::pt b (oc (raC 0 emp nlV nlV 0) Ty.t117)::pt q (oc x.C Ty.law29_Act)::slA tv Ty.t1 1 (tA.map ptr)::l))→J9 [] w_:=by
  intro n t dv pv ds ps e yy R' D' Xs' M' K' w_ g1 g2 g3 g4 g5 ha E
  refine hJ9 w_ λu=>?_
  clear hJ9
  have iv1:Scal dv:=⟨Hs.slScal E FSl.mem⟩
  have iv2:Scal pv:=⟨Hs.slScal E FSl.mem⟩
  repeat with_reducible first|refine StpE.go E ?_|(refine StpW.go E ?_;clear E;intro w_ E)
  (first|(refine StA.all E rfl rfl (by first|exact rfl|assumption) ?_;clear E;intro w_ E)|try (refine StA.by E rfl (by first|exact rfl|assumption) ?_;clear E;intro w_ E))
  skip
  (replace E:=((((((((((((((E.bIx 12).bIx 12).bIx 12).bIx 4).bIx 4).bIx 13).bIx 13).bIx 13).bIx 13).bIx 13).bIx 13).bIx 13).bIx 13).bIx 13))
  replace E:=(((E.bIx 11).tl.bIx 11).tl.bIx 11).tl
  rw[ha]
  exact⟨dv,pv,rfl,R',D',Xs',M',K',g1,g2,g3,g4,g5,E⟩
 clear hJ9
 have same:Fit R D Xs tA M K (N+100) y:=h.mono (by omega)
 repeat with_reducible first|refine Stp.go ?_|refine StpE.go E ?_
 refine Bi.eql ?_ ?_<;>intro c0<;>(repeat with_reducible first|refine Stp.go ?_|refine StpE.go E ?_)
 ·refine(Bind_okM h hz1 hz2 (Hs.spl3 E)).mono ?_
  clear E
  rintro r w_ ⟨rfl,R',D',Xs',M',K',g1,g2,g3,g4,g5,E⟩
  repeat with_reducible first|refine Stp.go ?_|(refine StpW.go E ?_;clear E;intro w_ E)
  exact fin 0 emp nlV nlV [] [] _ _ R' D' Xs' M' K' _ g1 g2 g3 g4 (g5.mono (by omega)) (act_0 y c0) (Hs.nilSl (Hs.nilSl E _ _) _ _)
 refine Bi.eql ?_ ?_<;>intro c1<;>(repeat with_reducible refine Stp.go ?_)
 ·have htv:RdS w0 F (pt c (oc (raC 0 emp nlV nlV 0) Ty.t117)::pt b (oc (raC 0 emp nlV nlV 0) Ty.t117)::pt q (oc x.C Ty.law29_Act)::SPl R D Xs tA M K y (slA tv Ty.t1 1 (tA.map ptr)::l)) 1 tA.length tv (tA.map ptr):=by
   have:=RdS.sl (v:=tv) (T:=Ty.t1) (sz:=1) (xs:=tA.map ptr) (by simp) (by omega) E
   rwa [Nat.div_one,List.length_map]at this
  intro J29 hJ29
  have no:¬(0≤x.number∧x.number<(y.Ts.length:Int))→∀w_,Hs w0 F w_ (pt c (oc (raC 0 emp nlV nlV 0) Ty.t117)::pt b (oc (raC 0 emp nlV nlV 0) Ty.t117)::pt q (oc x.C Ty.law29_Act)::SPl R D Xs tA M K y (slA tv Ty.t1 1 (tA.map ptr)::l))→J29 [.bool false] w_:=by
   intro hb w_ E
   refine hJ29 _ w_ λu=>Cnd.f ?_
   repeat with_reducible first|refine Stp.go ?_|refine StpE.go E ?_
   have hxt:x.tree y.Ts.length=none:=by unfold Xa.tree;rw[if_neg hb]
   have ha:=act_1 y c1
   rw[hxt]at ha
   refine(Mount_none (old:=x.old) (flag:=x.flag) h (Hs.spl3 E)).mono ?_
   clear E
   rintro r w_ ⟨rfl,R',D',Xs',M',K',g1,g2,g3,g4,g5,E⟩
   repeat with_reducible first|refine Stp.go ?_|(refine StpW.go E ?_;clear E;intro w_ E)
   exact fin 0 emp nlV nlV [] [] _ _ R' D' Xs' M' K' _ g1 g2 g3 g4 (g5.mono (by omega)) ha (Hs.nilSl (Hs.nilSl E _ _) _ _)
  have yes:(0≤x.number∧x.number<(y.Ts.length:Int))→∀w_,Hs w0 F w_ (pt c (oc (raC 0 emp nlV nlV 0) Ty.t117)::pt b (oc (raC 0 emp nlV nlV 0) Ty.t117)::pt q (oc x.C Ty.law29_Act)::SPl R D Xs tA M K y (slA tv Ty.t1 1 (tA.map ptr)::l))→J29 [.bool true] w_:=by
   intro hb w_ E
   refine hJ29 _ w_ λu=>Cnd.t ?_
   repeat with_reducible first|refine Stp.go ?_|refine StpE.go E ?_|(refine StpW.go E ?_;clear E;intro w_ E)
   have hxt:x.tree y.Ts.length=some x.number.toNat:=by unfold Xa.tree;rw[if_pos hb]
   have ha:=act_1 y c1
   rw[hxt]at ha
   refine htv.ix hb.1 (by omega) (by omega) ?_
   intro a ha2
   rw[Nat.mul_one]at ha2
   refine ha2.ld E (x:=ptr (adW tA x.number.toNat)) (by
    rw[List.getElem?_drop,Nat.add_zero,List.getElem?_map]
    unfold adW
    rw[List.getD_eq_getElem?_getD,List.getElem?_eq_getElem (show x.number.toNat<tA.length by omega)]
    rfl) ?_
   repeat with_reducible first|refine Stp.go ?_|refine StpE.go E ?_
   refine(Mount_okM (k:=x.number.toNat) (old:=x.old) (flag:=x.flag) h (by omega) hz2 (Hs.spl3 E)).mono ?_
   clear E
   rintro r w_ ⟨rfl,R',D',Xs',M',K',g1,g2,g3,g4,g5,E⟩
   repeat with_reducible first|refine Stp.go ?_|(refine StpW.go E ?_;clear E;intro w_ E)
   exact fin 0 emp nlV nlV [] [] _ _ R' D' Xs' M' K' _ g1 g2 g3 g4 (g5.mono (by omega)) ha (Hs.nilSl (Hs.nilSl E _ _) _ _)
  clear hJ29
  repeat with_reducible first|refine Stp.go ?_|refine StpE.go E ?_
  refine Bi.geq ?_ ?_<;>intro d1<;>(repeat with_reducible first|refine Stp.go ?_|refine StpE.go E ?_)
  ·refine Bi.lss ?_ ?_<;>intro d2<;>(repeat with_reducible refine Stp.go ?_)
   ·exact yes ⟨d1,by rw[List.length_map]at d2;omega⟩ _ E
   ·exact no (λh=>by rw[List.length_map]at d2;omega) _ E
  ·exact no (λh=>by omega) _ E
 refine Bi.eql ?_ ?_<;>intro c2<;>(repeat with_reducible first|refine Stp.go ?_|refine StpE.go E ?_)
 ·refine(Unmount_okM h hz1 hz2 (Hs.spl3 E)).mono ?_
  clear E
  rintro r w_ ⟨rfl,R',D',Xs',M',K',g1,g2,g3,g4,g5,E⟩
  repeat with_reducible first|refine Stp.go ?_|(refine StpW.go E ?_;clear E;intro w_ E)
  exact fin 0 emp nlV nlV [] [] _ _ R' D' Xs' M' K' _ g1 g2 g3 g4 (g5.mono (by omega)) (act_2 y c2) (Hs.nilSl (Hs.nilSl E _ _) _ _)
 refine Bi.eql ?_ ?_<;>intro c3<;>(repeat with_reducible first|refine Stp.go ?_|refine StpE.go E ?_)
 ·refine(Chdir_okM h hz1 (Hs.spl3 E)).mono ?_
  clear E
  rintro r w_ ⟨rfl,R',D',Xs',M',K',g1,g2,g3,g4,g5,E⟩
  repeat with_reducible first|refine Stp.go ?_|(refine StpW.go E ?_;clear E;intro w_ E)
  exact fin 0 emp nlV nlV [] [] _ _ R' D' Xs' M' K' _ g1 g2 g3 g4 (g5.mono (by omega)) (act_3 y c3) (Hs.nilSl (Hs.nilSl E _ _) _ _)
 refine Bi.eql ?_ ?_<;>intro c4<;>(repeat with_reducible first|refine Stp.go ?_|refine StpE.go E ?_)
 ·refine(Stat_okM h hz1 (Hs.spl3 E)).mono ?_
  clear E
  rintro r w_ ⟨rfl,E⟩
  have ha:=act_4 y c4
  generalize y.stat x.path=X at*
  repeat with_reducible first|refine Stp.go ?_|refine StpE.go E ?_|(refine StpW.go E ?_;clear E;intro w_ E)|(refine StpA.go E ?_;clear E;intro b_ w_ hb_ E)
  (revert b_;intro z hbz E)
  (first|(refine StA.all E rfl rfl (by first|exact rfl|assumption) ?_;clear E;intro w_ E)|try (refine StA.by E rfl (by first|exact rfl|assumption) ?_;clear E;intro w_ E))
  skip
  refine BdS.dir E ?_
  clear E
  intro v w_ E
  have iv:Scal v:=⟨Hs.slScal E FSl.mem⟩
  repeat with_reducible first|refine Stp.go ?_|(refine StpW.go E ?_;clear E;intro w_ E)
  replace E:=(E.bIx 1).tl
  replace E:Hs w0 F _ (slA nlV Ty.t0 2 (pcs [])::_):=Hs.nilSl E Ty.t0 2
  exact fin 0 emp v nlV [X.1] [] _ _ R D Xs M K _ rfl rfl rfl (λ_ h=>h) same ha (E.bIx 1)
 refine Bi.eql ?_ ?_<;>intro c5<;>(repeat with_reducible first|refine Stp.go ?_|refine StpE.go E ?_)
 ·refine(Wstat_okM h hN hz1 hz3 hz4 (Hs.spl3 E)).mono ?_
  clear E
  rintro r w_ ⟨rfl,R',D',Xs',M',K',g1,g2,g3,g4,g5,E⟩
  repeat with_reducible first|refine Stp.go ?_|(refine StpW.go E ?_;clear E;intro w_ E)
  exact fin 0 emp nlV nlV [] [] _ _ R' D' Xs' M' K' _ g1 g2 g3 g4 g5 (act_5 y c5) (Hs.nilSl (Hs.nilSl E _ _) _ _)
 refine Bi.eql ?_ ?_<;>intro c6<;>(repeat with_reducible first|refine Stp.go ?_|refine StpE.go E ?_)
 ·refine(Open_okM h hN hz1 (Hs.spl3 E)).mono ?_
  clear E
  rintro r w_ ⟨rfl,R',D',Xs',M',K',g1,g2,g3,g4,g5,E⟩
  repeat with_reducible first|refine Stp.go ?_|(refine StpW.go E ?_;clear E;intro w_ E)
  exact fin _ emp nlV nlV [] [] _ _ R' D' Xs' M' K' _ g1 g2 g3 g4 g5 (act_6 y c6) (Hs.nilSl (Hs.nilSl E _ _) _ _)
 refine Bi.eql ?_ ?_<;>intro c7<;>(repeat with_reducible first|refine Stp.go ?_|refine StpE.go E ?_)
 ·refine(Create_okM h h0 hN hz1 (Hs.spl3 E)).mono ?_
  clear E
  rintro r w_ ⟨rfl,R',D',Xs',M',K',g1,g2,g3,g4,g5,E⟩
  repeat with_reducible first|refine Stp.go ?_|(refine StpW.go E ?_;clear E;intro w_ E)
  exact fin _ emp nlV nlV [] [] _ _ R' D' Xs' M' K' _ g1 g2 g3 g4 g5 (act_7 y c7) (Hs.nilSl (Hs.nilSl E _ _) _ _)
 refine Bi.eql ?_ ?_<;>intro c8<;>(repeat with_reducible first|refine Stp.go ?_|refine StpE.go E ?_)
 ·refine(ReadS_ok (n:=x.number) (off:=x.offset) (count:=x.flag) h.sp h.inv (by simp) h.wo (Hs.spl3 E)).mono ?_
  clear E
  rintro r w_ ⟨rfl,E⟩
  have ha:=act_8 y c8
  generalize y.read x.number x.offset x.flag=X at*
  repeat with_reducible first|refine Stp.go ?_|(refine StpW.go E ?_;clear E;intro w_ E)
  exact fin 0 _ nlV nlV [] [] _ _ R D Xs M K _ rfl rfl rfl (λ_ h=>h) same ha (Hs.nilSl (Hs.nilSl E _ _) _ _)
 refine Bi.eql ?_ ?_<;>intro c9<;>(repeat with_reducible first|refine Stp.go ?_|refine StpE.go E ?_)
 ·refine(List_okM (n:=x.number) h (Hs.spl3 E)).mono ?_
  clear E
  rintro r w_ ⟨v,rfl,E⟩
  have ha:=act_9 y c9
  generalize y.list x.number=X at*
  have iv:Scal v:=⟨Hs.slScal E FSl.mem⟩
  repeat with_reducible first|refine Stp.go ?_|(refine StpW.go E ?_;clear E;intro w_ E)
  replace E:Hs w0 F _ (slA nlV Ty.t0 2 (pcs [])::_):=Hs.nilSl E Ty.t0 2
  exact fin 0 emp v nlV _ [] _ _ R D Xs M K _ rfl rfl rfl (λ_ h=>h) same ha (E.bIx 1)
 refine Bi.eql ?_ ?_<;>intro c10<;>(repeat with_reducible first|refine Stp.go ?_|refine StpE.go E ?_)
 ·refine(Write_okM h hN (Hs.spl3 E)).mono ?_
  clear E
  rintro r w_ ⟨rfl,R',D',Xs',M',K',g1,g2,g3,g4,g5,E⟩
  repeat with_reducible first|refine Stp.go ?_|(refine StpW.go E ?_;clear E;intro w_ E)
  exact fin _ emp nlV nlV [] [] _ _ R' D' Xs' M' K' _ g1 g2 g3 g4 g5 (act_10 y c10) (Hs.nilSl (Hs.nilSl E _ _) _ _)
 refine Bi.eql ?_ ?_<;>intro c11<;>(repeat with_reducible first|refine Stp.go ?_|refine StpE.go E ?_)
 ·refine(Close_okM h hN (Hs.spl3 E)).mono ?_
  clear E
  rintro r w_ ⟨rfl,R',D',Xs',M',K',g1,g2,g3,g4,g5,E⟩
  repeat with_reducible first|refine Stp.go ?_|(refine StpW.go E ?_;clear E;intro w_ E)
  exact fin 0 emp nlV nlV [] [] _ _ R' D' Xs' M' K' _ g1 g2 g3 g4 g5 (act_11 y c11) (Hs.nilSl (Hs.nilSl E _ _) _ _)
 refine Bi.eql ?_ ?_<;>intro c12<;>(repeat with_reducible first|refine Stp.go ?_|refine StpE.go E ?_)
 ·refine(Remove_okM h hN hz1 (Hs.spl3 E)).mono ?_
  clear E
  rintro r w_ ⟨rfl,R',D',Xs',M',K',g1,g2,g3,g4,g5,E⟩
  repeat with_reducible first|refine Stp.go ?_|(refine StpW.go E ?_;clear E;intro w_ E)
  exact fin 0 emp nlV nlV [] [] _ _ R' D' Xs' M' K' _ g1 g2 g3 g4 g5 (act_12 y c12) (Hs.nilSl (Hs.nilSl E _ _) _ _)
 refine Bi.eql ?_ ?_<;>intro c13<;>(repeat with_reducible first|refine Stp.go ?_|refine StpE.go E ?_)
 ·refine(where_okM hz1 h.ctx0 (Hs.spl3 E)).mono ?_
  clear E
  rintro r w_ ⟨v,rfl,E⟩
  have ha:=act_13 y c13
  generalize y.where_ x.path=X at*
  have iv:Scal v:=⟨Hs.slScal E FSl.mem⟩
  repeat with_reducible first|refine Stp.go ?_|(refine StpW.go E ?_;clear E;intro w_ E)
  replace E:Hs w0 F _ (slA nlV Ty.t9 10 (dcs [])::_):=Hs.nilSl E Ty.t9 10
  exact fin 0 emp nlV v [] _ _ _ R D Xs M K _ rfl rfl rfl (λ_ h=>h) same ha E
 ·exact fin 0 emp nlV nlV [] [] 0 y R D Xs M K _ rfl rfl rfl (λ_ h=>h) same (act_no y (by omega)) (Hs.nilSl (Hs.nilSl (Hs.spl3 E) _ _) _ _)
set_option maxRecDepth 100000
set_option linter.unusedVariables false
set_option linter.unusedSimpArgs false
variable {w0 w:World} {F:Nat→Prop} {l r1 r2 r3:List As}
variable {R:List RowS}
set_option maxRecDepth 100000
set_option linter.unusedVariables false
set_option linter.unusedSimpArgs false
variable {w0 w:World} {F:Nat→Prop} {l r1 r2 r3:List As}
def bigN(p:Pn):Bool:=decide (200<p.path.size+p.data.size)
def fewL(ps:List Pn):Bool:=decide (ps.length≤12) && !ps.any bigN
def fewS(user:BA)(pls:List (List Pn)):Bool:=decide (1≤pls.length) && decide (pls.length≤4) && decide (user.size≤100) && pls.all fewL
theorem b_few1S:hasBody PP Fn.f120=true:=by kernel_rfl
theorem few1S_ok{p:Pn}(h1:p.path.size≤140737488355328)(h2:p.data.size≤140737488355328)(E:Hs w0 F w l):Ca PP Fn.f120 #[.agg p.cs.toArray] w λr w'=>r=.bool (bigN p)∧Hs w0 F w' l:=by
 refine S.f120.calls ?_
 unfold S.f120
 repeat with_reducible first|refine Stp.go ?_|refine StpE.go E ?_|(refine StpA.go E ?_;clear E;intro b_ w_ hb_ E)
 refine Bi.add (by omega) ?_
 unfold bigN
 refine Bi.gtr ?_ ?_<;>intro hb
 ·exact⟨by rw[decide_eq_true (by omega)],E.tl⟩
 ·exact⟨by rw[decide_eq_false (by omega)],E.tl⟩
theorem anyN_ok{v:Value}{ps:List Pn}(hn:ps.length≤12)(hs:∀p∈ps,p.path.size≤140737488355328∧p.data.size≤140737488355328)(h:RdS w0 F l 3 ps.length v (ncs ps))(E:Hs w0 F w l):
  Ca PP Fn.f14 #[v,.func (.func Fn.f120) #[] #[]] w λr w'=>r=.bool (ps.any bigN)∧Hs w0 F w' l:=by
 refine S.f14.calls ?_
 unfold S.f14
 have idx:Ca PP Fn.f16 #[v,.func (.func Fn.f120) #[] #[]] w λr w'=>(∃n:Int,r=i64 n∧(0≤n↔ps.any bigN=true))∧Hs w0 F w' l:=by
  refine S.f16.calls ?_
  unfold S.f16
  refine h.len ?_
  refine⟨λl1 w1=>∃i:Nat,l1=[i64 i]∧i≤ps.length∧(ps.take i).any bigN=false∧Hs w0 F w1 l,λl1 _=>match l1 with|[.int _ i]=>ps.length-i.toNat|_=>0,⟨0,rfl,Nat.zero_le _,by simp,E⟩,?_⟩
  clear E
  rintro t u1 w1 ⟨i,e,hi,hp,E⟩
  cases e
  refine Bi.lss ?_ ?_<;>intro hlt<;>(repeat with_reducible refine Stp.go ?_)
  ·have hi1:i<ps.length:=by omega
   have hd:(ncs ps).drop (((i:Int)).toNat*3)=ps[i].cs++ncs (ps.drop (i+1)):=by
    rw[Int.toNat_natCast,ncs_drop,List.drop_eq_getElem_cons hi1];rfl
   refine h.ix (by omega) (by omega) (by omega) ?_
   intro a ha
   rw[hd]at ha
   refine ha.lda E (m:=3) (ds:=ps[i].cs) rfl rfl (by omega) ?_
   refine CaV.mk b_few1S ?_
   obtain⟨z1,z2⟩:=hs _ (List.getElem_mem hi1)
   refine(few1S_ok (p:=ps[i]) z1 z2 E).mono ?_
   clear E
   rintro r w_ ⟨rfl,E⟩
   have htk:(ps.take (i+1)).any bigN=bigN ps[i]:=by rw[List.take_add_one,List.getElem?_eq_getElem hi1,List.any_append,hp];simp
   cases hb:bigN ps[i]with
   |true=>
    repeat with_reducible refine Stp.go ?_
    refine⟨⟨i,rfl,⟨λ_=>?_,λ_=>by omega⟩⟩,E⟩
    rw[List.any_eq_true];exact⟨_,List.getElem_mem _,hb⟩
   |false=>
    repeat with_reducible refine Stp.go ?_
    refine Bi.add (by omega) ?_
    exact⟨⟨i+1,by simp,by omega,by rw[htk,hb],E⟩,by simp only[];omega⟩
  ·have:ps.take i=ps:=List.take_of_length_le (by omega)
   rw[this]at hp
   exact⟨⟨-1,rfl,⟨λh=>by omega,λh=>by rw[hp]at h;cases h⟩⟩,E⟩
 refine idx.mono ?_
 clear E
 rintro r w_ ⟨⟨n,rfl,hn⟩,E⟩
 refine Bi.geq ?_ ?_<;>intro h1
 ·exact⟨by rw[hn.1 h1],E⟩
 ·have:ps.any bigN=false:=by
   cases h2:ps.any bigN with
   |false=>rfl
   |true=>have:=hn.2 h2;omega
  exact⟨by rw[this],E⟩
theorem fewS_okM{user:BA}{pv:Value}{vs:List Value}{pls:List (List Pn)}(hp:PlsIn w0 F l pv vs pls)(hs:∀ps∈pls,∀p∈ps,p.path.size≤140737488355328∧p.data.size≤140737488355328)(E:Hs w0 F w l):
  Ca PP Fn.law29_few #[.agg #[str user,pv]] w λr w'=>r=.bool (fewS user pls)∧Hs w0 F w' l:=by
 refine S.law29_few.calls ?_
 unfold S.law29_few
 have hvl:vs.length=pls.length:=by obtain⟨_,_,_,_,h1,_⟩:=hp.v;omega
 have ipv:Scal pv:=RdS_scal hp.v
 refine StpA.go E ?_
 clear E
 intro t1 w_ h1_ E
 intro J3 hJ3
 have bad:∀w_,fewS user pls=false→Hs w0 F w_ (pt t1 (oc [str user,pv] Ty.t49)::l)→J3 [.bool true] w_:=by
  intro w_ hb E
  refine hJ3 _ w_ λu=>Cnd.t ?_
  rw[hb]
  exact⟨rfl,E.tl⟩
 have good:∀w_,1≤pls.length→pls.length≤4→user.size≤100→Hs w0 F w_ (pt t1 (oc [str user,pv] Ty.t49)::l)→J3 [.bool false] w_:=by
  intro w_ k1 k2 k3 E
  refine hJ3 _ w_ λu=>Cnd.f ?_
  clear hJ3 bad
  have hf:fewS user pls=pls.all fewL:=by unfold fewS;rw[decide_eq_true k1,decide_eq_true k2,decide_eq_true k3];rfl
  rw[hf]
  repeat with_reducible first|refine Stp.go ?_|refine StpE.go E ?_
  refine hp.v.len ?_
  refine⟨λl1 w1=>∃i:Nat,l1=[i64 i]∧i≤pls.length∧(pls.take i).all fewL=true∧Hs w0 F w1 (pt t1 (oc [str user,pv] Ty.t49)::l),λl1 _=>match l1 with|[.int _ i]=>pls.length-i.toNat|_=>0,⟨0,rfl,Nat.zero_le _,by simp,E⟩,?_⟩
  clear E
  rintro t u1 w1 ⟨i,e,hi,hx,E⟩
  cases e
  refine Bi.lss ?_ ?_<;>intro hlt
  ·refine Cnd.t ?_
   have hi1:i<pls.length:=by omega
   refine hp.v.ix (by omega) (by omega) (by omega) ?_
   intro b hb
   rw[Int.toNat_natCast,Nat.mul_one]at hb
   refine(hb.weaken λ_ E=>E.tl).ld E (x:=vs[i]'(by omega)) (by rw[List.getElem?_drop,Nat.add_zero,List.getElem?_eq_getElem]) ?_
   have hr:=hp.row i (vs[i]'(by omega)) pls[i] (List.getElem?_eq_getElem (by omega)) (List.getElem?_eq_getElem hi1)
   have hm:=List.getElem_mem hi1
   have htk:(pls.take (i+1)).all fewL=fewL pls[i]:=by rw[List.take_add_one,List.getElem?_eq_getElem hi1,List.all_append,hx];simp
   have hsm:=hs _ hm
   intro J18 hJ18
   have no:∀w_,fewL pls[i]=false→Hs w0 F w_ (pt t1 (oc [str user,pv] Ty.t49)::l)→J18 [.bool true] w_:=by
    intro w_ hb E
    refine hJ18 _ w_ λu=>Cnd.t ?_
    refine⟨?_,E.tl⟩
    have:pls.all fewL=false:=by
     rw[List.all_eq_false]
     exact⟨_,hm,by rw[hb];simp⟩
    rw[this]
   have yes:∀w_,fewL pls[i]=true→Hs w0 F w_ (pt t1 (oc [str user,pv] Ty.t49)::l)→J18 [.bool false] w_:=by
    intro w_ hb E
    refine hJ18 _ w_ λu=>Cnd.f ?_
    refine Bi.add (by omega) ?_
    exact⟨⟨i+1,by simp,by omega,by rw[htk,hb],E⟩,by simp only[];omega⟩
   clear hJ18
   generalize pls[i]=ps at*
   generalize vs[i]'(by omega)=v at*
   refine hr.len ?_
   refine Bi.gtr ?_ ?_<;>intro h12<;>(repeat with_reducible refine Stp.go ?_)
   ·exact no _ (by unfold fewL;rw[decide_eq_false (by omega)];rfl) E
   ·refine(anyN_ok (by omega) hsm (hr.cons _) E).mono ?_
    clear E
    rintro r w_ ⟨rfl,E⟩
    cases hb:ps.any bigN with
    |true=>
     repeat with_reducible refine Stp.go ?_
     exact no _ (by unfold fewL;rw[hb];simp) E
    |false=>
     repeat with_reducible refine Stp.go ?_
     exact yes _ (by unfold fewL;rw[hb,decide_eq_true (by omega)];rfl) E
  ·refine Cnd.f ?_
   have hie:i=pls.length:=by omega
   rw[hie,List.take_length]at hx
   rw[hx]
   exact⟨rfl,E.tl⟩
 clear hJ3
 repeat with_reducible first|refine Stp.go ?_|refine StpE.go E ?_
 refine hp.v.len ?_
 refine Bi.lss ?_ ?_<;>intro k1<;>(repeat with_reducible first|refine Stp.go ?_|refine StpE.go E ?_)
 ·exact bad _ (by unfold fewS;rw[decide_eq_false (show ¬1≤pls.length by omega)];rfl) E
 refine hp.v.len ?_
 repeat with_reducible refine Stp.go ?_
 refine Bi.gtr ?_ ?_<;>intro k2<;>(repeat with_reducible first|refine Stp.go ?_|refine StpE.go E ?_)
 ·exact bad _ (by unfold fewS;rw[decide_eq_false (show ¬pls.length≤4 by omega)];simp) E
 refine Bi.gtr ?_ ?_<;>intro k3<;>(repeat with_reducible refine Stp.go ?_)
 ·exact bad _ (by unfold fewS;rw[decide_eq_false (show ¬user.size≤100 by omega)];simp) E
 ·exact good _ (by omega) (by omega) (by omega) E
set_option maxRecDepth 100000
set_option linter.unusedVariables false
set_option linter.unusedSimpArgs false
variable {w0 w:World} {F:Nat→Prop} {l:List As}
abbrev xcs(xs:List Xa):List Value:=xs.flatMap Xa.C
theorem xcs_drop(ds:List Xa):∀i:Nat,(xcs ds).drop (i*18)=xcs (ds.drop i):=by
 induction ds with
 |nil=>intro i;simp
 |cons d r ih=>
  intro i
  cases i with
  |zero=>simp
  |succ i=>
   rw[xcs,List.flatMap_cons,show(i+1)*18=i*18+18 by omega]
   simp only[Xa.C,List.cons_append,List.nil_append,List.drop_succ_cons]
   exact ih i
theorem anyX_ok{v:Value}{xs:List Xa}(hn:xs.length≤40)(hx:∀x∈xs,x.Ok)(h:RdS w0 F l 18 xs.length v (xcs xs))(E:Hs w0 F w l):
  Ca PP Fn.f19 #[v,.func (.func Fn.f121) #[] #[]] w λr w'=>r=.bool (xs.any bigX)∧Hs w0 F w' l:=by
 refine S.f19.calls ?_
 unfold S.f19
 have idx:Ca PP Fn.f25 #[v,.func (.func Fn.f121) #[] #[]] w λr w'=>(∃n:Int,r=i64 n∧(0≤n↔xs.any bigX=true))∧Hs w0 F w' l:=by
  refine S.f25.calls ?_
  unfold S.f25
  refine h.len ?_
  refine⟨λl1 w1=>∃i:Nat,l1=[i64 i]∧i≤xs.length∧(xs.take i).any bigX=false∧Hs w0 F w1 l,λl1 _=>match l1 with|[.int _ i]=>xs.length-i.toNat|_=>0,⟨0,rfl,Nat.zero_le _,by simp,E⟩,?_⟩
  clear E
  rintro t u1 w1 ⟨i,e,hi,hp,E⟩
  cases e
  refine Bi.lss ?_ ?_<;>intro hlt<;>(repeat with_reducible refine Stp.go ?_)
  ·have hi1:i<xs.length:=by omega
   have hd:(xcs xs).drop (((i:Int)).toNat*18)=xs[i].C++xcs (xs.drop (i+1)):=by
    rw[Int.toNat_natCast,xcs_drop,List.drop_eq_getElem_cons hi1];rfl
   refine h.ix (by omega) (by omega) (by omega) ?_
   intro a ha
   rw[hd]at ha
   refine ha.lda E (m:=18) (ds:=xs[i].C) rfl rfl (by omega) ?_
   refine CaV.mk b_fewX ?_
   refine(FewX1_ok (x:=xs[i]) (hx _ (List.getElem_mem hi1)) E).mono ?_
   clear E
   rintro r w_ ⟨rfl,E⟩
   have htk:(xs.take (i+1)).any bigX=bigX xs[i]:=by rw[List.take_add_one,List.getElem?_eq_getElem hi1,List.any_append,hp];simp
   cases hb:bigX xs[i]with
   |true=>
    repeat with_reducible refine Stp.go ?_
    refine⟨⟨i,rfl,⟨λ_=>?_,λ_=>by omega⟩⟩,E⟩
    rw[List.any_eq_true];exact⟨_,List.getElem_mem _,hb⟩
   |false=>
    repeat with_reducible refine Stp.go ?_
    refine Bi.add (by omega) ?_
    exact⟨⟨i+1,by simp,by omega,by rw[htk,hb],E⟩,by simp only[];omega⟩
  ·have:xs.take i=xs:=List.take_of_length_le (by omega)
   rw[this]at hp
   exact⟨⟨-1,rfl,⟨λh=>by omega,λh=>by rw[hp]at h;cases h⟩⟩,E⟩
 refine idx.mono ?_
 clear E idx
 rintro r w_ ⟨⟨n,rfl,hn⟩,E⟩
 refine Bi.geq ?_ ?_<;>intro h1
 ·exact⟨by rw[hn.1 h1],E⟩
 ·have:xs.any bigX=false:=by
   cases h2:xs.any bigX with
   |false=>rfl
   |true=>have:=hn.2 h2;omega
  exact⟨by rw[this],E⟩
def fewX(xs:List Xa):Bool:=decide (xs.length≤40) && !xs.any bigX
theorem FewX_ok{v:Value}{xs:List Xa}(hx:∀x∈xs,x.Ok)(h:RdS w0 F l 18 xs.length v (xcs xs))(E:Hs w0 F w l):
  Ca PP Fn.law29_Few #[v] w λr w'=>r=.bool (fewX xs)∧Hs w0 F w' l:=by
 refine S.law29_Few.calls ?_
 unfold S.law29_Few
 (intro J1 hJ1)
 have fin:∀b w_,b=fewX xs→Hs w0 F w_ l→J1 [.bool b] w_:=by
  rintro b w_ hb E
  repeat with_reducible (apply hJ1;intro u_)
  exact⟨by rw[hb],E⟩
 clear hJ1
 refine h.len ?_
 refine Bi.leq ?_ ?_<;>intro hle<;>(repeat with_reducible refine Stp.go ?_)
 ·refine(anyX_ok (by omega) hx h E).mono ?_
  clear E
  rintro r w_ ⟨rfl,E⟩
  cases hb:xs.any bigX with
  |true=>
   repeat with_reducible refine Stp.go ?_
   exact fin _ _ (by unfold fewX;rw[hb];simp) E
  |false=>
   repeat with_reducible refine Stp.go ?_
   exact fin _ _ (by unfold fewX;rw[hb,decide_eq_true (by omega)];rfl) E
 ·exact fin _ _ (by unfold fewX;rw[decide_eq_false (by omega)];rfl) E
set_option maxRecDepth 100000
set_option linter.unusedVariables false
set_option linter.unusedSimpArgs false
variable {w0 w:World} {F:Nat→Prop} {l r1 r2 r3:List As}
variable {R:List RowS} {D:List Row} {Xs:List PT} {tA:List Nat} {M:TbM} {K:SpM} {N:Int} {y:Sy}
theorem Fit.ta(h:Fit R D Xs tA M K N y):tA.length=y.Ts.length:=by rw[← h.wo.adr,List.length_map,h.wo.len]
theorem fewX_one{xs:List Xa}(h:fewX xs=true):xs.length≤40∧∀x∈xs,x.total≤700:=by
 unfold fewX at h
 rw[Bool.and_eq_true,decide_eq_true_eq]at h
 refine⟨h.1,λx hx=>?_⟩
 have h2:xs.any bigX=false:=by simpa using h.2
 rw[List.any_eq_false]at h2
 have:=h2 x hx
 unfold bigX at this
 rcases Nat.lt_or_ge 700 x.total with h3|h3
 ·rw[decide_eq_true h3]at this
  simp at this
 ·exact h3
theorem fewS_of{user:BA}{pls:List (List Pn)}(h:fewS user pls=true):pls≠[]∧pls.length≤4∧user.size≤100∧(∀ps∈pls,ps.length≤12)∧∀ps∈pls,∀p∈ps,p.path.size≤1000:=by
 unfold fewS at h
 simp only[Bool.and_eq_true,decide_eq_true_eq,List.all_eq_true]at h
 obtain⟨⟨⟨h1,h2⟩,h3⟩,h4⟩:=h
 refine⟨λh5=>by rw[h5]at h1;simp at h1,h2,h3,λps hps=>?_,λps hps p hp=>?_⟩
 ·have:=h4 ps hps
  unfold fewL at this
  rw[Bool.and_eq_true,decide_eq_true_eq]at this
  exact this.1
 ·have:=h4 ps hps
  unfold fewL at this
  rw[Bool.and_eq_true]at this
  have h5:ps.any bigN=false:=by simpa using this.2
  rw[List.any_eq_false]at h5
  have:=h5 p hp
  unfold bigN at this
  simp at this
  omega
theorem mtI_small{k:Nat}{ms:List Mt}(h:∀m∈ms,MtI k m):∀m∈ms,m.new.length≤16∧m.cr.length≤16:=λm hm=>⟨(h m hm).few,by rw[(h m hm).cr];exact(h m hm).few⟩
theorem xcs_at{xs:List Xa}{i:Nat}(hi:i<xs.length):(xcs xs).drop (((i:Int)).toNat*18)=xs[i].C++xcs (xs.drop (i+1)):=by
 rw[Int.toNat_natCast,xcs_drop,List.drop_eq_getElem_cons hi];rfl
set_option maxRecDepth 100000
set_option linter.unusedVariables false
set_option linter.unusedSimpArgs false
variable {w0 w:World} {F:Nat→Prop} {l r1 r2 r3:List As}
variable {R:List RowS}
theorem u_mib:PP.underlying Ty.map_int_bool=some (.map Ty.int Ty.bool):=by kernel_rfl
theorem k_int0:(KT.int .i64).fits PP Ty.int=true:=by kernel_rfl
theorem once_ok{v:Value}{xs:List Xa}(hn:xs.length≤40)(h:RdS w0 F l 18 xs.length v (xcs xs))(E:Hs w0 F w l):
  Ca PP Fn.law29_once #[v] w λr w'=>(∃b,r=.bool b)∧∃A,Hs w0 F w' (A::l):=by
 refine S.law29_once.calls ?_
 unfold S.law29_once
 refine MkM.pt (kt:=.int .i64) E ?_
 clear E
 intro m w_ hm_ E
 refine Mu.mp (i:=0) (kt:=.int .i64) E rfl u_mib k_int0 rfl ?_
 clear E
 intro w_ E
 replace E:Hs w0 F w_ (mp m (.int .i64) (encM i64 Value.bool [((0:Int),true)])::l):=E
 refine h.len ?_
 refine⟨λl1 w1=>∃(i:Nat) (L:List (Int×Bool)),l1=[i64 i]∧i≤xs.length∧Hs w0 F w1 (mp m (.int .i64) (encM i64 Value.bool L)::l),λl1 _=>match l1 with|[.int _ i]=>xs.length-i.toNat|_=>0,
  ⟨0,_,rfl,Nat.zero_le _,E⟩,?_⟩
 clear E
 rintro t10 u1 w1 ⟨i,L,e,hi,E⟩
 cases e
 refine Bi.lss ?_ ?_<;>intro hlt
 ·refine Cnd.t ?_
  intro J11 hJ11
  have fin:∀L w_,Hs w0 F w_ (mp m (.int .i64) (encM i64 Value.bool L)::l)→J11 [] w_:=by
   intro L w_ E
   refine hJ11 _ λu=>?_
   refine Bi.add (by omega) ?_
   exact⟨⟨i+1,L,by simp,by omega,E⟩,by simp only[];omega⟩
  clear hJ11
  have hi1:i<xs.length:=by omega
  refine h.ix (by omega) (by omega) (by omega) ?_
  intro b hb
  rw[xcs_at hi1]at hb
  refine(hb.weaken λ_ E=>E.tl).lda E (m:=18) (ds:=xs[i].C) rfl rfl (by omega) ?_
  generalize xs[i]=x at*
  repeat with_reducible (refine StpA.go E ?_;clear E;intro b_ w_ hb_ E)
  (revert b_;intro q hbq E)
  (first|(refine StA.all E rfl rfl (by first|exact rfl|assumption) ?_;clear E;intro w_ E)|try (refine StA.by E rfl (by first|exact rfl|assumption) ?_;clear E;intro w_ E))
  repeat with_reducible first|refine Stp.go ?_|refine StpE.go E ?_
  refine Bi.eql ?_ ?_<;>intro hk<;>(repeat with_reducible first|refine Stp.go ?_|refine StpE.go E ?_)
  ·refine Lk.one E (kt:=.int .i64) (M:=encM i64 Value.bool L) (by simp) u_mib k_int0 z_bool0 rfl ?_
   rw[aget_enc (keyI _)]
   have hc:∃c,(((getL L x.number).map Value.bool).getD (.bool false))=.bool c:=by
    cases getL L x.number with
    |none=>exact⟨false,rfl⟩
    |some c=>exact⟨c,rfl⟩
   obtain⟨c,hc⟩:=hc
   rw[hc]
   cases c with
   |true=>
    repeat with_reducible refine Stp.go ?_
    exact⟨⟨false,rfl⟩,_,E.tl⟩
   |false=>
    repeat with_reducible first|refine Stp.go ?_|refine StpE.go E ?_
    refine Mu.mp (i:=1) (kt:=.int .i64) E rfl u_mib k_int0 rfl ?_
    clear E
    intro w_ E
    simp only[List.set_cons_zero,List.set_cons_succ]at E
    rw[show aput (encM i64 Value.bool L) (i64 x.number) (.bool true)=encM i64 Value.bool (putL L x.number true)from aput_enc (keyI _) L x.number true]at E
    exact fin _ _ E.tl
  ·exact fin L _ E.tl
 ·refine Cnd.f ?_
  exact⟨⟨true,rfl⟩,_,E⟩
theorem b_un1:hasBody PP Fn.f56=true:=by kernel_rfl
theorem un1_ok{d e:Dr}{q:Nat}[h1:FPt l q (oc e.cs Ty.t9) r1](E:Hs w0 F w l):CaV PP (.func (.func Fn.f56) #[] #[ptr q]) #[d.V] w λr w'=>r=.bool (decide (d.name=e.name))∧Hs w0 F w' l:=by
 refine CaV.mk b_un1 ?_
 refine S.f56.calls (a0:=d.V) (a1:=ptr q) ?_
 unfold S.f56
 repeat with_reducible first|refine Stp.go ?_|refine StpE.go E ?_|(refine StpA.go E ?_;clear E;intro b_ w_ hb_ E)
 refine Bi.seql ?_ ?_<;>intro hb
 ·exact⟨by rw[decide_eq_true hb],E.tl⟩
 ·exact⟨by rw[decide_eq_false hb],E.tl⟩
theorem IndexDr_ok{v fv:Value}{xs:List Dr}{p:Dr→Bool}(hn:xs.length≤1000000)(E:Hs w0 F w l)(h:RdS w0 F l 10 xs.length v (dcs xs))
  (call:∀x∈xs,∀w1,Hs w0 F w1 l→CaV PP fv #[x.V] w1 λr w'=>r=.bool (p x)∧Hs w0 F w' l):
  Ca PP Fn.f30 #[v,fv] w λr w'=>(∃n:Int,r=i64 n∧(0≤n↔xs.any p=true))∧Hs w0 F w' l:=by
 refine S.f30.calls ?_
 unfold S.f30
 refine h.len ?_
 refine⟨λl1 w1=>∃i:Nat,l1=[i64 i]∧i≤xs.length∧(xs.take i).any p=false∧Hs w0 F w1 l,λl1 _=>match l1 with|[.int _ i]=>xs.length-i.toNat|_=>0,⟨0,rfl,Nat.zero_le _,rfl,E⟩,?_⟩
 clear E
 rintro t u w1 ⟨i,h1,hi,hp,E⟩
 cases h1
 refine Bi.lss ?_ ?_<;>intro hlt<;>(repeat with_reducible refine Stp.go ?_)
 ·have hx:xs[i]? =some xs[i]:=List.getElem?_eq_getElem (by omega)
  refine h.ix (by omega) (by omega) (by omega) ?_
  intro a ha
  rw[Int.toNat_natCast,dcs_drop,List.drop_eq_getElem_cons (show i<xs.length by omega),show dcs (xs[i]::xs.drop (i+1))=xs[i].cs++dcs (xs.drop (i+1))from rfl]at ha
  refine ha.lda E (m:=10) (ds:=xs[i].cs) rfl rfl (by omega) ?_
  refine(call _ (List.getElem_mem _) _ E).mono ?_
  clear E
  rintro r w_ ⟨rfl,E⟩
  have hany:(xs.take (i+1)).any p=p xs[i]:=by rw[List.take_add_one,hx,List.any_append,hp];simp
  cases hb:p xs[i]with
  |true=>
   repeat with_reducible refine Stp.go ?_
   refine⟨⟨i,rfl,⟨λ_=>?_,λ_=>by omega⟩⟩,E⟩
   rw[List.any_eq_true];exact⟨_,List.getElem_mem _,hb⟩
  |false=>
   repeat with_reducible refine Stp.go ?_
   refine Bi.add (by omega) ?_
   exact⟨⟨i+1,by simp,by omega,by rw[hany,hb],E⟩,by simp only[];omega⟩
 ·have:xs.take i=xs:=List.take_of_length_le (by omega)
  rw[this]at hp
  exact⟨⟨-1,rfl,⟨λh=>by omega,λh=>by rw[hp]at h;cases h⟩⟩,E⟩

theorem named_ok{v:Value}{xs:List Dr}{e:Dr}{q:Nat}(hn:xs.length≤1000000)[h1:FPt l q (oc e.cs Ty.t9) r1](E:Hs w0 F w l)(h:RdS w0 F l 10 xs.length v (dcs xs)):
  Ca PP Fn.f21 #[v,.func (.func Fn.f56) #[] #[ptr q]] w λr w'=>r=.bool (xs.any λx=>decide (x.name=e.name))∧Hs w0 F w' l:=by
 refine S.f21.calls ?_
 unfold S.f21
 refine(IndexDr_ok hn E h λx _ w1 E=>un1_ok E).mono ?_
 rintro r w_ ⟨⟨n,rfl,hn⟩,E⟩
 refine Bi.geq ?_ ?_<;>intro h1
 ·exact⟨by rw[hn.1 h1],E⟩
 ·have:(xs.any λx=>decide (x.name=e.name))=false:=by
   cases h2:xs.any λx=>decide (x.name=e.name)with
   |false=>rfl
   |true=>have:=hn.2 h2;omega
  exact⟨by rw[this],E⟩
theorem b_un2:hasBody PP Fn.f47=true:=by kernel_rfl
theorem un2_ok{m:Mt}{u:Value×Value}{p:Pl}{z:Qd}{q1 q2:Nat}(s1:Scal u.1)(s2:Scal u.2)[h1:FPt l q1 (oc p.cs Ty.t0) r1][h2:FPt l q2 (oc z.cs Ty.t31) r2](E:Hs w0 F w l):
  CaV PP (.func (.func Fn.f47) #[] #[ptr q1,ptr q2]) #[.agg (m.C u).toArray] w λr w'=>r=.bool (decide (m.old=⟨p.t,z.path⟩))∧Hs w0 F w' l:=by
 refine CaV.mk b_un2 ?_
 refine S.f47.calls (a0:=.agg (m.C u).toArray) (a1:=ptr q1) (a2:=ptr q2) ?_
 unfold S.f47
 refine StpA.go E ?_
 clear E
 intro a w_ ha E
 repeat with_reducible first|refine Stp.go ?_|refine StpE.go E ?_
 refine EqS.pl (p:=m.old) (q:=⟨p.t,z.path⟩) ?_
 exact⟨rfl,E.tl⟩
theorem IndexMt_ok{v fv:Value}{ms:List Mt}{us:List (Value×Value)}{p:Mt→Bool}(hR:PoolS R∈l)(hV:TbV R us ms)(hn:ms.length≤64)(hf:∀m∈ms,m.new.length≤16∧m.cr.length≤16)(g:RdS w0 F l 4 ms.length v (mcs ms us))(E:Hs w0 F w l)
  (call:∀(m:Mt) (u:Value×Value) w1,Scal u.1→Scal u.2→Hs w0 F w1 l→CaV PP fv #[.agg (m.C u).toArray] w1 λr w'=>r=.bool (p m)∧Hs w0 F w' l):
  Ca PP Fn.f4 #[v,fv] w λr w'=>(∃n:Int,r=i64 n∧(0≤n↔ms.any p=true))∧Hs w0 F w' l:=by
 refine S.f4.calls ?_
 unfold S.f4
 refine g.len ?_
 refine⟨λl1 w1=>∃i:Nat,l1=[i64 i]∧i≤ms.length∧(ms.take i).any p=false∧Hs w0 F w1 l,λl1 _=>match l1 with|[.int _ i]=>ms.length-i.toNat|_=>0,⟨0,rfl,Nat.zero_le _,rfl,E⟩,?_⟩
 clear E
 rintro t u1 w1 ⟨i,e,hi,hp,E⟩
 cases e
 refine Bi.lss ?_ ?_<;>intro hlt<;>(repeat with_reducible refine Stp.go ?_)
 ·have hi1:i<ms.length:=by omega
  have e1:ms[i]? =some ms[i]:=List.getElem?_eq_getElem hi1
  have e2:us[i]? =some (us[i]'(by rw[hV.len];exact hi1)):=List.getElem?_eq_getElem (by rw[hV.len];exact hi1)
  obtain⟨y1,y2⟩:=hV.row _ _ _ e1 e2
  obtain⟨f1,f2⟩:=hf _ (List.getElem_mem hi1)
  refine g.ix (by omega) (by omega) (by omega) ?_
  intro x hx
  rw[Int.toNat_natCast,mcs_at e1 e2]at hx
  refine hx.lda E (m:=4) (ds:=ms[i].C (us[i]'(by rw[hV.len];exact hi1))) rfl rfl (by omega) ?_
  generalize us[i]'(by rw[hV.len];exact hi1)=u at*
  have s1:Scal u.1:=⟨RdyS.scal (n:=ms[i].new.length) y1 (pcs_len _) (by omega) hR E⟩
  have s2:Scal u.2:=⟨RdyS.scal (n:=ms[i].cr.length) y2 (by simp) (by omega) hR E⟩
  refine(call ms[i] u _ s1 s2 E).mono ?_
  clear E
  rintro r w_ ⟨rfl,E⟩
  have hany:(ms.take (i+1)).any p=p ms[i]:=by rw[List.take_add_one,e1,List.any_append,hp];simp
  cases hb:p ms[i]with
  |true=>
   repeat with_reducible refine Stp.go ?_
   refine⟨⟨i,rfl,⟨λ_=>?_,λ_=>by omega⟩⟩,E⟩
   rw[List.any_eq_true];exact⟨_,List.getElem_mem _,hb⟩
  |false=>
   repeat with_reducible refine Stp.go ?_
   refine Bi.add (by omega) ?_
   exact⟨⟨i+1,by simp,by omega,by rw[hany,hb],E⟩,by simp only[];omega⟩
 ·have:ms.take i=ms:=List.take_of_length_le (by omega)
  rw[this]at hp
  exact⟨⟨-1,rfl,⟨λh=>by omega,λh=>by rw[hp]at h;cases h⟩⟩,E⟩

theorem mounted_ok{v:Value}{ms:List Mt}{us:List (Value×Value)}{p:Pl}{z:Qd}{q1 q2:Nat}(hR:PoolS R∈l)(hV:TbV R us ms)(hn:ms.length≤64)(hf:∀m∈ms,m.new.length≤16∧m.cr.length≤16)(g:RdS w0 F l 4 ms.length v (mcs ms us))
  [h1:FPt l q1 (oc p.cs Ty.t0) r1][h2:FPt l q2 (oc z.cs Ty.t31) r2](E:Hs w0 F w l):
  Ca PP Fn.f5 #[v,.func (.func Fn.f47) #[] #[ptr q1,ptr q2]] w λr w'=>r=.bool (ms.any λm=>decide (m.old=⟨p.t,z.path⟩))∧Hs w0 F w' l:=by
 refine S.f5.calls ?_
 unfold S.f5
 refine(IndexMt_ok hR hV hn hf g E λm u w1 s1 s2 E=>un2_ok s1 s2 E).mono ?_
 clear E
 rintro r w_ ⟨⟨n,rfl,hn⟩,E⟩
 refine Bi.geq ?_ ?_<;>intro h1
 ·exact⟨by rw[hn.1 h1],E⟩
 ·have:(ms.any λm=>decide (m.old=⟨p.t,z.path⟩))=false:=by
   cases h2:ms.any λm=>decide (m.old=⟨p.t,z.path⟩)with
   |false=>rfl
   |true=>have:=hn.2 h2;omega
  exact⟨by rw[this],E⟩
set_option maxRecDepth 100000
set_option linter.unusedVariables false
set_option linter.unusedSimpArgs false
theorem splitB_alone:∀{b:List UInt8},47∉b→splitB b=[b]
 |[],_=>rfl
 |x::r,h=>by
  have hx:x≠47:=λe=>h (by rw[e];exact List.mem_cons_self)
  rw[splitB,if_neg hx,splitB_alone λhr=>h (List.mem_cons_of_mem _ hr)]
theorem splitB_behind{b:List UInt8}(hb:47∉b):∀a:List UInt8,splitB (a++47::b)=splitB a++[b]
 |[]=>by
  show splitB (47::b)=_
  simp[splitB,splitB_alone hb]
 |x::r=>by
  show splitB (x::(r++47::b))=_
  have ih:=splitB_behind hb r
  rw[splitB,splitB]
  by_cases hx:x=47
  ·rw[if_pos hx,if_pos hx,ih];rfl
  ·rw[if_neg hx,if_neg hx,ih]
   cases hq:splitB r with
   |nil=>exact absurd hq (splitB_ne r)
   |cons p ps=>rfl
theorem splitS_app{s name:BA}(hn:47∉name.data.toList):splitS (s++sep++name)=splitS s++[name]:=by
 unfold splitS
 have e:(s++sep++name).data.toList=s.data.toList++47::name.data.toList:=by simp
 rw[e,splitB_behind hn,List.map_append]
 exact congrArg (List.map bmk (splitB s.data.toList)++·) (congrArg (λb:BA=>[b]) (ba_ext (by simp):bmk name.data.toList=name))
theorem absP_app{s t:BA}(h:s≠emp):absP (s++t)=absP s:=by
 unfold absP
 have e:(s++t).data.toList=s.data.toList++t.data.toList:=by simp
 rw[e]
 cases hs:s.data.toList with
 |nil=>exact absurd (ba_ext (by rw[hs];rfl)) h
 |cons x r=>rfl
theorem goodN{name:BA}(h:goodName name=true):47∉name.data.toList∧name≠emp∧name≠dot1∧name≠dot2:=by
 unfold goodName at h
 simp only[Bool.and_eq_true,List.all_eq_true]at h
 obtain⟨h1,⟨⟨h2,h3⟩,h4⟩,h5⟩:=h
 refine⟨λhm=>?_,λe=>by rw[e]at h2;exact absurd h2 (by decide),λe=>by rw[e]at h4;exact absurd h4 (by decide),λe=>by rw[e]at h5;exact absurd h5 (by decide)⟩
 have:=h1 47 hm
 unfold goodB at this
 simp at this
theorem elemsC_app{s name:BA}(h:s≠emp)(hn:goodName name=true):elemsC (s++sep++name)=elemsC s++[name]:=by
 obtain⟨n1,n2,n3,n4⟩:=goodN hn
 unfold elemsC
 rw[splitS_app n1,List.foldl_append,show s++sep++name=s++(sep++name)from ba_ext (by simp),absP_app h]
 show stepC (absP s) _ name=_
 unfold stepC
 rw[if_neg (by rintro(e|e);exact n2 e;exact n3 e),if_pos n4]
theorem absA_app{dir path name:BA}(h:path≠emp):absA dir (path++sep++name)=absA dir path++sep++name∧absA dir path≠emp:=by
 have ha:absP (path++sep++name)=absP path:=by rw[show path++sep++name=path++(sep++name)from ba_ext (by simp)];exact absP_app h
 unfold absA
 rw[ha]
 by_cases hp:absP path=true
 ·rw[if_pos hp,if_pos hp]
  exact⟨rfl,h⟩
 ·rw[if_neg hp,if_neg hp]
  refine⟨ba_ext (by simp),λe=>?_⟩
  have:=congrArg (λs:BA=>s.data.toList.length) e
  simp[emp]at this

theorem elemsA_app{dir path name:BA}(h:path≠emp)(hn:goodName name=true)(h1:(elemsA dir path).2=0)(h2:(elemsA dir (path++sep++name)).2=0):
  (elemsA dir (path++sep++name)).1=(elemsA dir path).1++[name]:=by
 have key:∀s,(splitP s).2=0→(splitP s).1=elemsC s:=by
  intro s hs
  unfold splitP at hs ⊢
  split at hs
  ·cases hs
  ·rename_i h1
   rw[if_neg h1]
   split at hs
   ·cases hs
   ·rename_i h2
    rw[if_neg h2]
 unfold elemsA at h1 h2 ⊢
 rw[key _ h1,key _ h2,(clean_elems _).2,(clean_elems _).2,(absA_app h).1]
 exact elemsC_app (absA_app (name:=name) h).2 hn
theorem walkW_app(Ts:List Tr)(tb:Tb)(user name:BA):∀(l:List BA) (p:Pl),(walkW Ts tb user l p).2=0→
  walkW Ts tb user (l++[name]) p=(let x:=stepW Ts tb user name (standM tb.ms (walkW Ts tb user l p).1).1 none;if x.2=0 then(x.1,0)else(p0,x.2))
 |[],p,_=>rfl
 |n::r,p,h=>by
  rw[walkW]at h
  rw[List.cons_append,walkW,walkW]
  simp only[]at h ⊢
  split at h
  ·rename_i h1
   rw[if_pos h1,if_pos h1]
   exact walkW_app Ts tb user name r _ h
  ·rename_i h1
   exact absurd h h1

theorem place_app{y:Sy}{path name:BA}(h:path≠emp)(hn:goodName name=true)(h1:(y.where_ path).2=0)(h2:(y.where_ (path++sep++name)).2=0):
  (stepW y.Ts y.tb y.sp.user name (y.where_ path).1 none).2=0∧(y.where_ (path++sep++name)).1=(standM y.tb.ms (stepW y.Ts y.tb y.sp.user name (y.where_ path).1 none).1).1:=by
 unfold Sy.where_ at h1 h2 ⊢
 split at h1
 ·rename_i hp;exact absurd h1 hp
 rename_i hp
 split at h2
 ·rename_i hq;exact absurd h2 hq
 rename_i hq
 rw[if_neg hp,if_neg hq]
 have hp:=Classical.byContradiction λhc=>hp hc
 have hq:=Classical.byContradiction λhc=>hq hc
 unfold Sy.place at hp hq ⊢
 split at hp
 ·rename_i hr;exact absurd hp hr
 rename_i hr
 split at hq
 ·rename_i hs;exact absurd hq hs
 rename_i hs
 rw[if_neg hr,if_neg hs]
 have hr:=Classical.byContradiction λhc=>hr hc
 have hs:=Classical.byContradiction λhc=>hs hc
 unfold Sy.elems at hr hs hp hq ⊢
 rw[elemsA_app h hn hr hs]at hq ⊢
 unfold Sy.walk at hp hq ⊢
 rw[walkW_app _ _ _ _ _ _ hp]at hq ⊢
 simp only[]at hq ⊢
 split at hq
 ·rename_i hx
  rw[if_pos hx]
  exact⟨hx,rfl⟩
 ·rename_i hx
  exact absurd hq hx
set_option maxRecDepth 100000
set_option linter.unusedVariables false
set_option linter.unusedSimpArgs false

def bareT(T:Tr):Tr:={T with hs:=[]}
def Alike(A B:List Tr):Prop:=A.map bareT=B.map bareT
theorem trW_bare(Ts:List Tr)(k:Nat):bareT (trW Ts k)=trW (Ts.map bareT) k:=by
 unfold trW
 rw[List.getD_eq_getElem?_getD,List.getD_eq_getElem?_getD,List.getElem?_map]
 cases Ts[k]? <;>rfl
theorem Alike.tr{A B:List Tr}(h:Alike A B)(k:Nat):bareT (trW A k)=bareT (trW B k):=by rw[trW_bare,trW_bare,h]
theorem Alike.refl(A:List Tr):Alike A A:=rfl
theorem Alike.trans{A B C:List Tr}(h:Alike A B)(h2:Alike B C):Alike A C:=Eq.trans h h2
theorem Alike.symm{A B:List Tr}(h:Alike A B):Alike B A:=Eq.symm h
theorem Alike.len{A B:List Tr}(h:Alike A B):A.length=B.length:=by
 have:=congrArg List.length h
 simpa using this
theorem bare_walk(T:Tr)(u:BA)(f:Int)(n:BA):T.walk u f n=(bareT T).walk u f n:=rfl
theorem Alike.walk{A B:List Tr}(h:Alike A B)(k:Nat)(u:BA)(f:Int)(n:BA):(trW A k).walk u f n=(trW B k).walk u f n:=by
 rw[bare_walk,h.tr k,← bare_walk]
theorem Alike.stepW{A B:List Tr}(h:Alike A B)(tb:Tb)(u n:BA):∀(l:List Pl) (first:Option Int),Go.Proofs.YtjffgllkfbcaeaaGreatDoor.stepW A tb u n l first=Go.Proofs.YtjffgllkfbcaeaaGreatDoor.stepW B tb u n l first
 |[],_=>rfl
 |p::r,first=>by
  rw[Go.Proofs.YtjffgllkfbcaeaaGreatDoor.stepW,Go.Proofs.YtjffgllkfbcaeaaGreatDoor.stepW,h.walk]
  rw[Alike.stepW h tb u n r]
theorem Alike.walkW{A B:List Tr}(h:Alike A B)(tb:Tb)(u:BA):∀(l:List BA) (p:Pl),Go.Proofs.YtjffgllkfbcaeaaGreatDoor.walkW A tb u l p=Go.Proofs.YtjffgllkfbcaeaaGreatDoor.walkW B tb u l p
 |[],_=>rfl
 |n::r,p=>by
  rw[Go.Proofs.YtjffgllkfbcaeaaGreatDoor.walkW,Go.Proofs.YtjffgllkfbcaeaaGreatDoor.walkW,h.stepW]
  rw[Alike.walkW h tb u r]
theorem Alike.where_{y z:Sy}(h:Alike y.Ts z.Ts)(htb:y.tb=z.tb)(hd:y.sp.dir=z.sp.dir)(hu:y.sp.user=z.sp.user)(p:BA):y.where_ p=z.where_ p:=by
 have hp:y.place p=z.place p:=by
  unfold Sy.place Sy.elems Sy.walk
  rw[hd,hu,htb,h.walkW]
 unfold Sy.where_
 rw[hp,htb]

def dirsOf(T:Tr)(f:Int):List Dr:=match T.get f with
 |none=>[]
 |some n=>(T.kidsS n.path).map Nd.stat
def dirOk(T:Tr)(f:Int):Prop:=∃n,T.get f=some n∧n.dir=true
theorem bare_dirs(T:Tr)(f:Int):dirsOf T f=dirsOf (bareT T) f:=rfl
theorem Alike.dirs{A B:List Tr}(h:Alike A B)(k:Nat)(f:Int):dirsOf (trW A k) f=dirsOf (trW B k) f:=by rw[bare_dirs,h.tr k,← bare_dirs]
theorem Alike.dirOk{A B:List Tr}(h:Alike A B){k:Nat}{f:Int}(hd:dirOk (trW A k) f):Go.Proofs.YtjffgllkfbcaeaaGreatDoor.dirOk (trW B k) f:=by
 obtain⟨n,h1,h2⟩:=hd
 refine⟨n,?_,h2⟩
 have e:∀T:Tr,T.get f=(bareT T).get f:=λ_=>rfl
 rw[e,← h.tr k,← e]
 exact h1
theorem list_of{T:Tr}{h:Int}{x:Hd}(hx:T.opened h=some x)(he:(T.list h).2=0):dirOk T x.file∧(T.list h).1=dirsOf T x.file:=by
 unfold Tr.list at he ⊢
 unfold dirsOf dirOk
 rw[hx]at he ⊢
 cases hg:T.get x.file with
 |none=>simp[hg]at he
 |some n=>
  simp only[hg]at he ⊢
  split at he
  ·cases he
  ·rename_i hd
   rw[if_neg hd]
   exact⟨⟨n,rfl,by simpa using hd⟩,rfl⟩
theorem list_to{T:Tr}{h:Int}{x:Hd}(hx:T.opened h=some x)(hd:dirOk T x.file):T.list h=(dirsOf T x.file,0):=by
 obtain⟨n,h1,h2⟩:=hd
 unfold Tr.list dirsOf
 rw[hx]
 simp only[h1]
 rw[if_neg (by rw[h2];simp)]
theorem open0(T:Tr)(u:BA)(f:Int):bareT (T.openF u f 0).1=bareT T∧((T.openF u f 0).2.2.2=0→(T.openF u f 0).1=(T.hold ⟨f,0,u⟩).1∧(T.openF u f 0).2.1=(T.hold ⟨f,0,u⟩).2):=by
 unfold Tr.openF
 rw[if_neg (by decide)]
 cases T.get f with
 |none=>exact⟨rfl,λh=>by cases h⟩
 |some n=>
  simp only[]
  split
  ·exact⟨rfl,λh=>by cases h⟩
  split
  ·exact⟨rfl,λh=>by cases h⟩
  split
  ·exact⟨rfl,λh=>by cases h⟩
  split
  ·exact⟨rfl,λh=>by cases h⟩
  have hc:¬(andI 0 16≠0∧andI n.mode 1073741824=0):=λh=>h.1 (by decide)
  rw[if_neg hc]
  exact⟨rfl,λ_=>⟨rfl,rfl⟩⟩
theorem hold_new {T : Tr} (hi : Inv T) (x : Hd) : (T.hold x).1.opened (T.hold x).2 = some x∧∀ h z,T.opened h = some z→(T.hold x).1.opened h = some z:=by
 have hs:=hold_spec hi x
 have nd : ((T.hold x).1.hs.map (·.1)).Nodup:=by
  rw [List.Nodup,List.pairwise_map]
  exact hs.sorted.imp fun h=>by omega
 refine ⟨(getL_some nd).2 (hs.perm.mem_iff.2 List.mem_cons_self),fun h z hz=>?_⟩
 exact (getL_some nd).2 (hs.perm.mem_iff.2 (List.mem_cons_of_mem _ (hi.openedM hz)))
theorem trW_put(Ts:List Tr)(k j:Nat)(T:Tr)(hk:k<Ts.length):trW (Ts.set k T) j=if j=k then T else trW Ts j:=by
 unfold trW
 rw[List.getD_eq_getElem?_getD,List.getD_eq_getElem?_getD,List.getElem?_set]
 by_cases h:j=k
 ·rw[if_pos h,if_pos h.symm,if_pos hk];rfl
 ·rw[if_neg h,if_neg (λe=>h e.symm)]
theorem Alike.put{Ts:List Tr}{k:Nat}{T:Tr}(hk:k<Ts.length)(hT:bareT T=bareT (trW Ts k)):Alike Ts (Ts.set k T):=by
 unfold Alike
 rw[List.map_set,hT,trW_bare]
 unfold trW
 refine List.ext_getElem? λi=>?_
 rw[List.getElem?_set]
 by_cases h:k=i
 ·subst h
  rw[if_pos rfl,if_pos (by rw[List.length_map];exact hk),List.getD_eq_getElem?_getD,List.getElem?_map,List.getElem?_eq_getElem hk]
  rfl
 ·rw[if_neg h]

def Held(Ts:List Tr)(tb:Tb)(u:BA):List Pl→List (Nat×Int)→Prop
 |[],[]=>True
 |p::ps,x::xs=>x.1=tb.ix p.t∧(trW Ts x.1).opened x.2=some ⟨p.f,0,u⟩∧Held Ts tb u ps xs
 |_,_=>False
theorem Held.keep{Ts Ts2:List Tr}{tb:Tb}{u:BA}(hk:∀k h z,(trW Ts k).opened h=some z→(trW Ts2 k).opened h=some z):∀{ps:List Pl} {xs:List (Nat×Int)},Held Ts tb u ps xs→Held Ts2 tb u ps xs
 |[],[],_=>trivial
 |p::ps,x::xs,h=>⟨h.1,hk _ _ _ h.2.1,Held.keep hk h.2.2⟩
 |[],_::_,h=>h.elim
 |_::_,[],h=>h.elim
theorem Held.snoc{Ts:List Tr}{tb:Tb}{u:BA}{p:Pl}{x:Nat×Int}(h1:x.1=tb.ix p.t)(h2:(trW Ts x.1).opened x.2=some ⟨p.f,0,u⟩):∀{ps:List Pl} {xs:List (Nat×Int)},Held Ts tb u ps xs→Held Ts tb u (ps++[p]) (xs++[x])
 |[],[],_=>⟨h1,h2,trivial⟩
 |_::_,_::_,h=>⟨h.1,h.2.1,Held.snoc h1 h2 h.2.2⟩
 |[],_::_,h=>h.elim
 |_::_,[],h=>h.elim
theorem openW_held {tb : Tb} {u : BA} : ∀ {ps : List Pl} {Ts : List Tr} {out : List (Nat × Int)} {pre : List Pl},(∀ p∈ps,tb.ix p.t < Ts.length)→(∀ T∈Ts,Inv T)→Held Ts tb u pre out→(openW Ts tb u 0 ps out).2.2 = 0 →
    Alike Ts (openW Ts tb u 0 ps out).1∧Held (openW Ts tb u 0 ps out).1 tb u (pre++ps) (openW Ts tb u 0 ps out).2.1
  | [],Ts,out,pre,_,_,h,_=>⟨Alike.refl _,by rw [List.append_nil]; exact h⟩
  | p::r,Ts,out,pre,hl,hi,h,he=>by
    have hk:=hl p List.mem_cons_self
    have hT : Inv (trW Ts (tb.ix p.t)):=hi _ (trW_mem hk)
    obtain ⟨o1,o2⟩:=open0 (trW Ts (tb.ix p.t)) u p.f
    have oi:=open_inv hT u p.f 0
    rw [openW] at he ⊢
    split at he
    · rename_i hne
      exact absurd he hne
    rename_i hne
    rw [if_neg hne]
    obtain ⟨o3,o4⟩:=o2 (Classical.byContradiction fun hc=>hne hc)
    obtain ⟨n1,n2⟩:=hold_new hT ⟨p.f,0,u⟩
    have hal : Alike Ts (Ts.set (tb.ix p.t) ((trW Ts (tb.ix p.t)).openF u p.f 0).1):=Alike.put hk o1
    have hkp : ∀ k h z,(trW Ts k).opened h = some z→(trW (Ts.set (tb.ix p.t) ((trW Ts (tb.ix p.t)).openF u p.f 0).1) k).opened h = some z:=by
      intro k h2 z hz
      rw [trW_put _ _ _ _ hk]
      split
      · rename_i e
        rw [o3]
        subst e
        exact n2 _ _ hz
      · exact hz
    obtain ⟨a1,a2⟩:=openW_held (ps:=r) (Ts:=Ts.set (tb.ix p.t) ((trW Ts (tb.ix p.t)).openF u p.f 0).1) (out:=out++[(tb.ix p.t,((trW Ts (tb.ix p.t)).openF u p.f 0).2.1)]) (pre:=pre++[p])
      (fun q hq=>by rw [List.length_set]; exact hl q (List.mem_cons_of_mem _ hq))
      (fun T hT2=>by
        rcases List.mem_or_eq_of_mem_set hT2 with h3 | rfl
        · exact hi T h3
        · exact oi)
      (Held.snoc rfl (by
        show (trW _ (tb.ix p.t)).opened _ = _
        rw [trW_put _ _ _ _ hk,if_pos rfl,o3,o4]; exact n1) (h.keep hkp)) he
    refine ⟨hal.trans a1,?_⟩
    rw [show pre++p::r = pre++[p]++r by simp]
    exact a2
theorem listW_held{Ts:List Tr}{tb:Tb}{u:BA}:∀{ps:List Pl} {xs:List (Nat×Int)} {out:List Dr},Held Ts tb u ps xs→(listW Ts xs out).2=0→
  (∀p∈ps,dirOk (trW Ts (tb.ix p.t)) p.f)∧(listW Ts xs out).1=(ps.flatMap λp=>dirsOf (trW Ts (tb.ix p.t)) p.f).foldl addD out
 |[],[],out,_,_=>⟨λp hp=>(by cases hp),rfl⟩
 |p::ps,(k,h)::xs,out,hh,he=>by
  obtain⟨h1,h2,h3⟩:=hh
  obtain rfl:k=tb.ix p.t:=h1
  rw[listW]at he ⊢
  split at he
  ·rename_i hne;exact absurd he hne
  rename_i hne
  rw[if_neg hne]
  obtain⟨l1,l2⟩:=list_of h2 (Classical.byContradiction λhc=>hne hc)
  obtain⟨a1,a2⟩:=listW_held h3 he
  refine⟨λq hq=>?_,?_⟩
  ·rcases List.mem_cons.1 hq with rfl|hq
   ·exact l1
   ·exact a1 q hq
  ·rw[a2,List.flatMap_cons,List.foldl_append,l2]
 |[],_::_,_,h,_=>h.elim
 |_::_,[],_,h,_=>h.elim
set_option maxRecDepth 100000
set_option linter.unusedVariables false
set_option linter.unusedSimpArgs false
theorem isDir_of{y:Sy}{p:Pl}(h:dirOk (y.tr p.t) p.f):(y.isDir p).1=true:=by
 obtain⟨n,h1,h2⟩:=h
 unfold Sy.isDir Tr.stat
 rw[h1]
 have:isD n.mode=true:=h2
 unfold isD at this
 simp only[Nd.stat]
 exact decide_eq_true (by simpa using this)
theorem union_open{N:Int}{y:Sy}{path:BA}(hi:SyI N y)(hw:(y.where_ path).2=0)(ho:(y.openF path 0).2.2=0)(hl:((y.openF path 0).1.list (y.openF path 0).2.1).2=0):
  Alike y.Ts (y.openF path 0).1.Ts∧(∀p∈(y.where_ path).1,dirOk (y.tr p.t) p.f)∧((y.openF path 0).1.list (y.openF path 0).2.1).1=((y.where_ path).1.flatMap λp=>dirsOf (y.tr p.t) p.f).foldl addD []:=by
 have hwo:=where_ok hi path
 have hT:∀T∈y.Ts,Inv T:=λT h=>(hi.t T h).1
 unfold Sy.openF at ho hl ⊢
 rw[if_neg (by rw[hw];simp)]at ho hl ⊢
 by_cases hb:(y.isDir ((y.where_ path).1.getD 0 p0)).2=0
 rotate_left
 ·rw[if_pos hb]at ho;exact absurd ho hb
 rw[if_neg (by rw[hb];simp)]at ho hl ⊢
 by_cases h64:64≤y.sp.op.length
 ·rw[if_pos h64]at ho;cases ho
 rw[if_neg h64]at ho hl ⊢
 generalize hps:(if(y.isDir ((y.where_ path).1.getD 0 p0)).1=true then(y.where_ path).1 else(y.where_ path).1.take 1)=ps at*
 have hsub:∀p∈ps,p∈(y.where_ path).1:=by
  intro p hp
  rw[← hps]at hp
  split at hp
  ·exact hp
  ·exact List.mem_of_mem_take hp
 by_cases hx:(openW y.Ts y.tb y.sp.user 0 ps []).2.2=0
 rotate_left
 ·rw[if_pos hx]at ho;exact absurd ho hx
 rw[if_neg (by rw[hx];simp)]at ho hl ⊢
 obtain⟨a1,a2⟩:=openW_held (tb:=y.tb) (u:=y.sp.user) (ps:=ps) (Ts:=y.Ts) (out:=[]) (pre:=[]) (λp hp=>hi.tb.ixLt (hwo.2.1 p (hsub p hp))) hT trivial hx
 rw[List.nil_append]at a2
 generalize openW y.Ts y.tb y.sp.user 0 ps []=X at*
 have hop:((Sy.add {y with Ts:=X.1} X.2.1).1.opened (Sy.add {y with Ts:=X.1} X.2.1).2)=(X.2.1,0):=by
  unfold Sy.opened Sy.add
  simp only[]
  rw[getL_put,if_pos rfl]
 have hTs:(Sy.add {y with Ts:=X.1} X.2.1).1.Ts=X.1:=rfl
 unfold Sy.list at hl ⊢
 simp only[hop]at hl ⊢
 rw[if_neg (by simp)]at hl ⊢
 rw[hTs]at hl ⊢
 obtain⟨b1,b2⟩:=listW_held a2 hl
 have hd:∀p∈ps,dirOk (y.tr p.t) p.f:=λp hp=>a1.symm.dirOk (b1 p hp)
 have hbt:(y.isDir ((y.where_ path).1.getD 0 p0)).1=true:=by
  refine Classical.byContradiction λhc=>?_
  rw[if_neg hc]at hps
  have hne:=hwo.2.2 hw
  have hm:(y.where_ path).1.getD 0 p0∈ps:=by
   rw[← hps]
   cases hq:(y.where_ path).1 with
   |nil=>exact absurd hq hne
   |cons q r=>simp
  exact hc (isDir_of (hd _ hm))
 rw[if_pos hbt]at hps
 rw[hps]
 refine⟨a1,hd,?_⟩
 rw[b2]
 congr 1
 rw[show(λp:Pl=>dirsOf (trW X.1 (y.tb.ix p.t)) p.f)=λp=>dirsOf (y.tr p.t) p.f from funext λp=>(a1.dirs (y.tb.ix p.t) p.f).symm]
theorem stepW_first{Ts:List Tr}{tb:Tb}{u name:BA}{p:Pl}{ps2:List Pl}(hp:((trW Ts (tb.ix p.t)).walk u p.f name).2=0):∀{ps1:List Pl} {first:Option Int},(∀q∈ps1,((trW Ts (tb.ix q.t)).walk u q.f name).2≠0)→
  stepW Ts tb u name (ps1++p::ps2) first=(⟨p.t,((trW Ts (tb.ix p.t)).walk u p.f name).1.path⟩,0)
 |[],first,_=>by
  show stepW Ts tb u name (p::ps2) first=_
  rw[stepW]
  rw[if_pos hp]
 |q::r,first,h=>by
  show stepW Ts tb u name (q::(r++p::ps2)) first=_
  rw[stepW]
  rw[if_neg (h q List.mem_cons_self)]
  exact stepW_first hp λz hz=>h z (List.mem_cons_of_mem _ hz)
theorem dirs_good{T:Tr}(hi:Inv T){f:Int}{d:Dr}(h:d∈dirsOf T f):goodName d.name=true:=by
 unfold dirsOf at h
 cases hg:T.get f with
 |none=>rw[hg]at h;cases h
 |some n=>
  rw[hg]at h
  obtain⟨k,hk,rfl⟩:=List.mem_map.1 h
  obtain⟨k1,k2,_⟩:=kidsS_mem hi hk
  exact hi.good k k1 k2

theorem walk_not {T : Tr} (hi : Inv T) {u name : BA} {f : Int} (hn : goodName name = true) (h : ∀ d∈dirsOf T f,d.name ≠ name) : (T.walk u f name).2 ≠ 0:=by
 obtain ⟨-,-,n1,n2⟩:=goodN hn
 unfold Tr.walk
 unfold dirsOf at h
 cases hg : T.get f with
 | none=>simp
 | some n =>
  rw [hg] at h
  simp only [] at h ⊢
  split
  ·simp
  split
  ·simp
  split
  ·simp
  cases hk : T.kid n.path name with
  | none=>simp
  | some k =>
   exfalso
   obtain ⟨k1,k2,k3,k4⟩:=(kid_some hi).1 hk
   have hm : name∈(T.kidsS n.path).map (·.name):=by
    rw [kidsS_names hi]
    refine (sortS_mem _).mem_iff.2 (List.mem_map.2 ⟨k,?_,k4⟩)
    unfold Tr.kids Tr.isKid
    exact List.mem_filter.2 ⟨k1,decide_eq_true ⟨k2,k3⟩⟩
   obtain ⟨k5,h5,h6⟩:=List.mem_map.1 hm
   exact h _ (List.mem_map.2 ⟨k5,h5,rfl⟩) h6

theorem union_name{N:Int}{y:Sy}(hi:SyI N y){path name:BA}{ps1 ps2:List Pl}{p:Pl}(h:path≠emp)(hw:(y.where_ path).2=0)(hps:(y.where_ path).1=ps1++p::ps2)(hd:∃d∈dirsOf (y.tr p.t) p.f,d.name=name)
  (hnot:∀q∈ps1,∀d∈dirsOf (y.tr q.t) q.f,d.name≠name)(hwk:((y.tr p.t).walk y.sp.user p.f name).2=0)(he:(y.where_ (path++sep++name)).2=0):
  (y.where_ (path++sep++name)).1=(standM y.tb.ms ⟨p.t,((y.tr p.t).walk y.sp.user p.f name).1.path⟩).1:=by
 have hwo:=where_ok hi path
 have hinv:∀q∈(y.where_ path).1,Inv (y.tr q.t):=λq hq=>(hi.t _ (trW_mem (hi.tb.ixLt (hwo.2.1 q hq)))).1
 obtain⟨d,hd1,rfl⟩:=hd
 have hg:=dirs_good (hinv p (by rw[hps];simp)) hd1
 obtain⟨-,e2⟩:=place_app h hg hw he
 rw[e2,hps,stepW_first (ps2:=ps2) hwk λq hq=>walk_not (hinv q (by rw[hps];simp[hq])) hg (hnot q hq)]
 rfl
theorem stand_one{ms:List Mt}{p:Pl}(h:∀m∈ms,m.old≠p):(standM ms p).1=[p]:=by
 unfold standM idxM
 have:(ms.findIdx λm=>decide (m.old=p))=ms.length:=by
  refine List.findIdx_eq_length_of_false λm hm=>?_
  exact decide_eq_false (h m hm)
 rw[this,List.getElem?_eq_none (Nat.le_refl _)]
set_option maxRecDepth 100000
set_option linter.unusedVariables false
set_option linter.unusedSimpArgs false
variable {w0 w:World} {F:Nat→Prop} {l r1 r2 r3:List As}
variable {R:List RowS} {D:List Row} {Xs:List PT} {tA:List Nat} {M:TbM} {K:SpM} {N:Int} {y:Sy}
theorem mount_ts{y:Sy}(k:Option Nat)(old:BA)(flag:Int):((y.mount k old flag).2=0→∃j,k=some j∧(y.mount k old flag).1.tb.ts=y.tb.ts++[j])∧((y.mount k old flag).2≠0→(y.mount k old flag).1.tb.ts=y.tb.ts):=by
 refine⟨λh=>?_,λh=>by rw[mount_err h]⟩
 unfold Sy.mount at h ⊢
 cases k with
 |none=>cases h
 |some k=>
  simp only[]at h ⊢
  refine⟨k,rfl,?_⟩
  split at h
  ·cases h
  rename_i h1
  rw[if_neg h1]
  split at h
  ·rename_i h2;exact absurd h h2
  rename_i h2
  rw[if_neg h2]
  split at h
  ·rename_i h3;exact absurd h h3
  rename_i h3
  rw[if_neg h3]
  split at h
  ·cases h
  rename_i h4
  rw[if_neg h4]
  split at h
  ·cases h
  rename_i h5
  rw[if_neg h5]
  split at h
  ·rename_i h6;exact absurd h h6
  rename_i h6
  rw[if_neg h6]

theorem act_trees(y:Sy)(x:Xa):
  (y.act x).1.sp.user=y.sp.user∧((x.kind=1∧(y.act x).2.errno=0)→∃j,x.tree y.Ts.length=some j∧(y.act x).1.tb.ts=y.tb.ts++[j])∧(¬(x.kind=1∧(y.act x).2.errno=0)→(y.act x).1.tb.ts=y.tb.ts):=by
 refine act_elim y x (P:=λr=>r.1.sp.user=y.sp.user∧((x.kind=1∧r.2.errno=0)→∃j,x.tree y.Ts.length=some j∧r.1.tb.ts=y.tb.ts++[j])∧(¬(x.kind=1∧r.2.errno=0)→r.1.tb.ts=y.tb.ts)) ?_ ?_ ?_ ?_ ?_ ?_ ?_ ?_ ?_ ?_ ?_ ?_ ?_ ?_ ?_<;>intro h
 ·have k:=bind_keep (y:=y) x.path x.old x.flag
  exact⟨by rw[k.1],λh2=>by omega,λ_=>k.2.2⟩
 ·have k:=mount_keep (y:=y) (x.tree y.Ts.length) x.old x.flag
  have m:=mount_ts (y:=y) (x.tree y.Ts.length) x.old x.flag
  exact⟨by rw[k.1],λh2=>m.1 h2.2,λh2=>m.2 λh3=>h2 ⟨h,h3⟩⟩
 ·have k:=unmount_keep (y:=y) x.path x.old
  exact⟨by rw[k.1],λh2=>by omega,λ_=>k.2.2⟩
 ·have k:=chdir_keep (y:=y) x.path
  exact⟨k.2.2.1,λh2=>by omega,λ_=>by rw[k.1]⟩
 ·exact⟨rfl,λh2=>by omega,λ_=>rfl⟩
 ·have k:=wstat_keep (y:=y) x.path x.dir
  exact⟨by rw[k.2],λh2=>by omega,λ_=>by rw[k.1]⟩
 ·have k:=open_keep (y:=y) x.path x.flag
  exact⟨k.2.2,λh2=>by omega,λ_=>by rw[k.1]⟩
 ·have k:=create_keep (y:=y) x.path x.perm x.flag
  exact⟨k.2.2,λh2=>by omega,λ_=>by rw[k.1]⟩
 ·exact⟨rfl,λh2=>by omega,λ_=>rfl⟩
 ·exact⟨rfl,λh2=>by omega,λ_=>rfl⟩
 ·have k:=write_keep (y:=y) x.number x.offset x.data
  exact⟨by rw[k.2],λh2=>by omega,λ_=>by rw[k.1]⟩
 ·have k:=close_keep (y:=y) x.number
  exact⟨k.2.2,λh2=>by omega,λ_=>by rw[k.1]⟩
 ·have k:=remove_keep (y:=y) x.path
  exact⟨by rw[k.2],λh2=>by omega,λ_=>by rw[k.1]⟩
 ·exact⟨rfl,λh2=>by omega,λ_=>rfl⟩
 ·exact⟨rfl,λh2=>by omega,λ_=>rfl⟩

theorem openT_okM{t:Nat}{u:BA}{f:Int}(h:Fit R D Xs tA M K N y)(ht:t<y.tb.ts.length)(hN:N+1000<4611686018427387904)(E:Hs w0 F w (SPl R D Xs tA M K y l)):
  Ca PP Fn.f81 #[ptr (adW tA (y.tb.ix t)),str u,i64 f,i64 0] w λr w'=>r=.tuple #[i64 ((y.tr t).openF u f 0).2.1,((y.tr t).openF u f 0).2.2.1.V,i64 ((y.tr t).openF u f 0).2.2.2]∧
   ∃D' Xs',Fit R D' Xs' tA M K (N+3) {y with Ts:=y.Ts.set (y.tb.ix t) ((y.tr t).openF u f 0).1}∧Hs w0 F w' (SPl R D' Xs' tA M K {y with Ts:=y.Ts.set (y.tb.ix t) ((y.tr t).openF u f 0).1} l):=by
 have hk:=h.inv.tb.ixLt ht
 have hT:=h.inv.t _ (trW_mem hk)
 refine(Wo.chg (args:=λz=>#[ptr z,str u,i64 f,i64 0]) (T':=((y.tr t).openF u f 0).1) (Q:=λr=>r=.tuple #[i64 ((y.tr t).openF u f 0).2.1,((y.tr t).openF u f 0).2.2.1.V,i64 ((y.tr t).openF u f 0).2.2.2]) h.wo hk E λX β l0 hb E=>Open_ok hb hT.1 (N:=N) (by omega) hT.2 E).mono ?_
 clear E
 rintro r w_ ⟨hr,D',Xs',hW,E⟩
 refine⟨hr,D',Xs',h.setTs hW (h.inv.t.set (open_inv hT.1 u f 0) (open_lim hT.2 u f 0)) (by rw[List.length_set]),?_⟩
 (replace E:=((((((((E.bIx 1).bIx 1).bIx 7).bIx 7).bIx 7).bIx 7).bIx 7).bIx 7))
 exact E

theorem addD_has(out:List Dr)(d:Dr):(∃x∈addD out d,x.name=d.name)∧∀x∈out,x∈addD out d:=by
 unfold addD
 split
 ·rename_i h
  obtain⟨x,hx,he⟩:=List.any_eq_true.1 h
  exact⟨⟨x,hx,of_decide_eq_true he⟩,λx hx=>hx⟩
 ·exact⟨⟨d,by simp,rfl⟩,λx hx=>by simp[hx]⟩
theorem addsD_has:∀(ds out:List Dr),(∀d∈ds,∃x∈ds.foldl addD out,x.name=d.name)∧∀x∈out,x∈ds.foldl addD out
 |[],out=>⟨λd hd=>(by cases hd),λx hx=>hx⟩
 |d::r,out=>by
  obtain⟨h1,h2⟩:=addsD_has r (addD out d)
  obtain⟨h3,h4⟩:=addD_has out d
  refine⟨λe he=>?_,λx hx=>h2 x (h4 x hx)⟩
  rcases List.mem_cons.1 he with rfl|he
  ·obtain⟨x,hx,hn⟩:=h3
   exact⟨x,h2 x hx,hn⟩
  ·exact h1 e he

theorem union_step{y yd:Sy}(hi:SyI N yd)(hal:Alike y.Ts yd.Ts)(htb:yd.tb=y.tb)(hdir:yd.sp.dir=y.sp.dir)(huser:yd.sp.user=y.sp.user){path:BA}(hpne:path≠emp)(hw:(y.where_ path).2=0){ps1 ps2:List Pl}{p:Pl}(hps:(y.where_ path).1=ps1++p::ps2)
  {d:Dr}(hd:d∈dirsOf (y.tr p.t) p.f){Wi:List Dr}(hW:∀q∈ps1,∀e∈dirsOf (y.tr q.t) q.f,∃x∈Wi,x.name=e.name)(hn:(Wi.any λx=>decide (x.name=d.name))=false)
  (hwk:((yd.tr p.t).walk yd.sp.user p.f d.name).2=0)(he:(yd.where_ (path++sep++d.name)).2=0)(hm:(yd.tb.ms.any λm=>decide (m.old=⟨p.t,((yd.tr p.t).walk yd.sp.user p.f d.name).1.path⟩))=false):
  (yd.where_ (path++sep++d.name)).1=[⟨p.t,((yd.tr p.t).walk yd.sp.user p.f d.name).1.path⟩]:=by
 have hwe:y.where_ path=yd.where_ path:=hal.where_ htb.symm hdir.symm huser.symm path
 have hde:∀q:Pl,dirsOf (y.tr q.t) q.f=dirsOf (yd.tr q.t) q.f:=λq=>by
  have:=hal.dirs (y.tb.ix q.t) q.f
  unfold Sy.tr
  rw[htb]
  exact this
 rw[hwe]at hw hps
 rw[union_name hi hpne hw hps ⟨d,(hde p)▸hd,rfl⟩ (λq hq e hee=>?_) hwk he]
 ·refine stand_one λm hm2=>?_
  rw[List.any_eq_false]at hm
  have:=hm m hm2
  simpa using this
 ·rw[← hde q]at hee
  obtain⟨x,hx,hxn⟩:=hW q hq e hee
  rw[List.any_eq_false]at hn
  have:=hn x hx
  rw[← hxn]
  simpa using this
end Go.Proofs.YtjffgllkfbcaeaaGreatDoor