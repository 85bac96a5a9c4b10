/-
 Name spaces: whether a Place of some is among others (Bind's test); marks repeated.
-/
import Derived.Test.YtjffgllkfbcaeaaGreatDoorUb7
import Derived.Test.YtjffgllkfbcaeaaGreatDoorSh28
import Derived.Test.YtjffgllkfbcaeaaGreatDoorShelf
import Derived.Test.YtjffgllkfbcaeaaGreatDoorTo5
namespace Go.Proofs.YtjffgllkfbcaeaaGreatDoor
open Go Go.Sh
set_option maxRecDepth 100000
set_option linter.unusedVariables false
set_option linter.unusedSimpArgs false
variable {w0 w:World} {F:Nat→Prop} {l r1 r2 r3:List As}
theorem IndexFP_ok{v fv:Value}{ps:List Pl}{p:Pl→Bool}(hn:ps.length≤100000)(h:RdS w0 F l 2 ps.length v (pcs ps))(E:Hs w0 F w l)
  (call:∀x:Pl,∀w1,Hs w0 F w1 l→CaV PP fv #[x.V] w1 λr w'=>r=.bool (p x)∧Hs w0 F w' l):
  Ca PP Fn.f17 #[v,fv] w λr w'=>(∃n:Int,r=i64 n∧(0≤n↔ps.any p=true))∧Hs w0 F w' l:=by
 refine S.f17.calls ?_
 unfold S.f17
 refine h.len ?_
 refine⟨λl1 w1=>∃i:Nat,l1=[i64 i]∧i≤ps.length∧(ps.take i).any p=false∧Hs w0 F w1 l,λl1 _=>match l1 with|[.int _ i]=>ps.length-i.toNat|_=>0,⟨0,rfl,Nat.zero_le _,by simp,E⟩,?_⟩
 clear E
 rintro t u1 w1 ⟨i,e,hi,hx,E⟩
 cases e
 refine Bi.lss ?_ ?_<;>intro hlt<;>(repeat with_reducible refine Stp.go ?_)
 ·have hi1:i<ps.length:=by omega
  have hd:(pcs ps).drop (((i:Int)).toNat*2)=ps[i].cs++pcs (ps.drop (i+1)):=by
   rw[Int.toNat_natCast,pcs_drop,List.drop_eq_getElem_cons hi1];rfl
  refine h.ix (by omega) (by omega) (by omega) ?_
  intro a ha
  rw[hd]at ha
  refine ha.lda E (m:=2) (ds:=ps[i].cs) rfl rfl (by omega) ?_
  refine(call ps[i] _ E).mono ?_
  clear E
  rintro r w_ ⟨rfl,E⟩
  have htk:(ps.take (i+1)).any p=p ps[i]:=by rw[List.take_add_one,List.getElem?_eq_getElem hi1,List.any_append,hx];simp
  cases hb:p ps[i]with
  |true=>
   repeat with_reducible refine Stp.go ?_
   refine⟨⟨i,rfl,⟨λ_=>?_,λ_=>by omega⟩⟩,E⟩
   rw[List.any_eq_true];exact⟨_,List.getElem_mem _,hb⟩
  |false=>
   repeat with_reducible refine Stp.go ?_
   refine Bi.add (by omega) ?_
   exact⟨⟨i+1,by simp,by omega,by rw[htk,hb],E⟩,by simp only[];omega⟩
 ·have:ps.take i=ps:=List.take_of_length_le (by omega)
  rw[this]at hx
  exact⟨⟨-1,rfl,⟨λh=>by omega,λh=>by rw[hx]at h;cases h⟩⟩,E⟩
theorem b_bind1:hasBody PP Fn.f70=true:=by kernel_rfl

theorem anyP_ok{v sv:Value}{ps qs:List Pl}{q:Nat}(hn:ps.length≤100000)(hm:qs.length≤100000)(h:RdS w0 F l 2 ps.length v (pcs ps))(h2:RdS w0 F l 2 qs.length sv (pcs qs))[h1:FPt l q (oc [sv] Ty.t13) r1](E:Hs w0 F w l):
  Ca PP Fn.f12 #[v,.func (.func Fn.f70) #[] #[ptr q]] w λr w'=>r=.bool (ps.any λx=>decide (x∈qs))∧Hs w0 F w' l:=by
 refine S.f12.calls ?_
 unfold S.f12
 refine(IndexFP_ok (p:=λx=>decide (x∈qs)) hn h E λx w1 E=>?_).mono ?_
 ·refine CaV.mk b_bind1 ?_
  refine S.f70.calls (a0:=x.V) (a1:=ptr q) ?_
  unfold S.f70
  repeat with_reducible first|refine StpE.go E ?_|(refine StpA.go E ?_;clear E;intro b_ w_ hb_ E)
  refine(ContainsP_ok hm (h2.cons _) E).mono ?_
  clear E
  rintro r w_ ⟨rfl,E⟩
  exact⟨rfl,E.tl⟩
 clear E
 rintro r w_ ⟨⟨n,rfl,hn⟩,E⟩
 refine Bi.geq ?_ ?_<;>intro h1
 ·exact⟨by rw[hn.1 h1],E⟩
 ·have:(ps.any λx=>decide (x∈qs))=false:=by
   cases h2:ps.any λx=>decide (x∈qs)with
   |false=>rfl
   |true=>have:=hn.2 h2;omega
  exact⟨by rw[this],E⟩
set_option maxRecDepth 100000
set_option linter.unusedVariables false
set_option linter.unusedSimpArgs false
variable {w0 w:World} {F:Nat→Prop} {l r1 r2 r3:List As}
theorem bitsMul_ok{x y:Nat}(hx:x<18446744073709551616)(hy:y<18446744073709551616)(E:Hs w0 F w l):
  Ca PP Fn.math_bits_Mul #[.int .u64 x,.int .u64 y] w λr w'=>r=.tuple #[.int .u64 ((x*y / 18446744073709551616:Nat):Int),.int .u64 ((x*y % 18446744073709551616:Nat):Int)]∧Hs w0 F w' l:=by
 refine Calls.mono (Tryz.bits_Mul x y hx hy w) ?_
 rintro e w' ⟨rfl,rfl⟩
 exact⟨_,rfl,rfl,E⟩
theorem s_bool1:sizeK PP Ty.bool=some 1:=by kernel_rfl
theorem Repeat_ok {v : Value} {b : Bool} {n : Nat} (hv : RdS w0 F l 1 1 v [.bool b]) (hn : n≤100) (E : Hs w0 F w l) :
  Ca PP Fn.f54 #[v,i64 (n : Int)] w fun r w'=>Hs w0 F w' (slA r Ty.bool 1 (bcs (List.replicate n b))::l):=by
 refine S.f54.calls ?_
 unfold S.f54
 refine fun J1 hJ1=>Bi.lss (fun h=>absurd h (by omega)) fun _=>Cnd.f (hJ1 w fun u=>?_)
 clear hJ1 J1
 refine hv.len ?_
 refine Cv.mk ?_
 refine Cv.mk ?_
 have e1 : IntKind.u64.wrap ((1 : Nat) : Int) = ((1 : Nat) : Int):=by decide
 have e2 : IntKind.u64.wrap ((n : Nat) : Int) = ((n : Nat) : Int):=by
  unfold IntKind.wrap
  simp only [IntKind.signed,IntKind.bits]
  simp
  omega
 rw [e1,e2]
 refine (bitsMul_ok (by omega) (by omega) E).mono ?_
 clear E
 rintro r w_ ⟨rfl,E⟩
 rw [Nat.one_mul,Nat.div_eq_of_lt (by omega),Nat.mod_eq_of_lt (by omega)]
 repeat with_reducible refine Stp.go ?_
 intro J11 hJ11
 have go11 : ∀ w_,Hs w0 F w_ l→J11 [] w_:=by
  intro w_ E
  refine hJ11 w_ fun u=>?_
  clear hJ11
  refine Cv.i64 (by omega) ?_
  refine MkS.pt E u_sl_bool e_bool rfl (by omega) (by omega) ?_
  clear E
  intro blk w_ hb_ E
  have hm1 : min 1 n≤1:=Nat.min_le_left _ _
  have hm2 : min 1 n≤n:=Nat.min_le_right _ _
  refine Cpy.pt (m:=min 1 n) (ys:=List.replicate (min 1 n) (.bool b)) E u_sl_bool s_bool1 (hv.lenOf _) rfl (by
   rw [(hv.cons _).first E hm1]
   congr 2
   rcases Nat.le_one_iff_eq_zero_or_eq_one.1 hm1 with h | h <;> rw [h] <;> rfl) (by simp) (by rw [List.length_replicate]; omega) (by rw [List.all_eq_true]; intro x hx; rw [List.eq_of_mem_replicate hx]; rfl) ?_
  clear E
  intro w_ E
  rw [List.take_zero,List.nil_append,Nat.zero_add,List.drop_replicate] at E
  refine ⟨fun l1 w1=>∃ i : Nat,l1 = [i64 i]∧i≤n∧(0 < i∨n = 0)∧Hs w0 F w1 (pt blk (oc (List.replicate i (.bool b)++List.replicate (n - i) (.bool false)) Ty.bool)::l),fun l1 _=>match l1 with | [.int _ i]=>n - i.toNat | _=>0,⟨min 1 n,rfl,hm2,by omega,E⟩,?_⟩
  clear E
  rintro t8 u1 w1 ⟨i,e,hi,h0,E⟩
  cases e
  refine ⟨_,n,n,rfl,?_⟩
  refine Bi.lss ?_ ?_ <;> intro hlt
  ·refine Cnd.t ?_
   refine Dr.st E ?_
   clear E
   intro w_ E
   refine ⟨_,n,n,i,n,rfl,by simp [bnd],rfl,hi,Nat.le_refl _,?_⟩
   rw [if_neg (by omega)]
   simp only [Option.map_some,add_mk]
   refine ⟨_,n,n,0,i,rfl,rfl,by simp [bnd],Nat.zero_le _,hi,?_⟩
   have ea : (if n = 0 then (some (⟨blk,0,none⟩ : Addr)) else (some (⟨blk,0,none⟩ : Addr)).map (·.add (0 * 1))) = some ⟨blk,0,none⟩:=by
    split
    ·rfl
    ·simp [add_mk]
   rw [ea]
   have g1 : min i (n - i)≤i:=Nat.min_le_left _ _
   have g2 : min i (n - i)≤n - i:=Nat.min_le_right _ _
   have g3 : 0 < min i (n - i):=by omega
   simp only [Nat.zero_add,Nat.mul_one,Nat.sub_zero]
   refine Cpy.pt (m:=min i (n - i)) (ys:=List.replicate (min i (n - i)) (.bool b)) E u_sl_bool s_bool1 rfl rfl ?_ (by simp) (by rw [List.length_append,List.length_replicate,List.length_replicate]; omega) (by rw [List.all_eq_true]; intro x hx; rw [List.eq_of_mem_replicate hx]; rfl) ?_
   ·have hsat:=E.sat _ List.mem_cons_self
    refine firstCells_slice (fr:=(0,0)) hsat (by simp) fun j u hj=>?_
    have hjl : j < min i (n - i):=by
     have:=(List.getElem?_eq_some_iff.1 hj).1
     simpa using this
    rw [Nat.zero_add,List.getElem?_append_left (by rw [List.length_replicate]; omega)]
    rw [List.getElem?_replicate] at hj ⊢
    rw [if_pos hjl] at hj
    rw [if_pos (by omega)]
    exact hj
   clear E
   intro w_ E
   refine Bi.add (by omega) ?_
   refine ⟨⟨i + min i (n - i),by simp,by omega,by omega,?_⟩,by simp only []; omega⟩
   have e1 : (List.replicate i (Value.bool b)++List.replicate (n - i) (Value.bool false)).take i = List.replicate i (Value.bool b):=by
    rw [List.take_append_of_le_length (by simp),List.take_of_length_le (by simp)]
   have e2 : (List.replicate i (Value.bool b)++List.replicate (n - i) (Value.bool false)).drop (i + min i (n - i)) = List.replicate (n - (i + min i (n - i))) (Value.bool false):=by
    rw [List.drop_append,List.drop_eq_nil_of_le (by simp),List.nil_append,List.length_replicate,List.drop_replicate]
    congr 1
    omega
   rw [e1,e2,List.replicate_append_replicate] at E
   exact E
  ·refine Cnd.f ?_
   have hie : i = n:=by omega
   subst hie
   rw [Nat.sub_self,List.replicate_zero,List.append_nil] at E
   rw [show bcs (List.replicate i b) = List.replicate i (Value.bool b) from List.map_replicate]
   exact Hs.ptSl (by simp) E
 clear hJ11
 intro J32 hJ32
 refine Bi.gtr (fun h=>absurd h (by decide)) (fun _=>?_)
 repeat with_reducible refine Stp.go ?_
 refine Bi.gtr (fun h=>absurd h (by omega)) (fun _=>?_)
 repeat with_reducible refine Stp.go ?_
 refine hJ32 _ _ fun u=>?_
 refine Cnd.f ?_
 exact go11 _ E
set_option maxRecDepth 100000
set_option linter.unusedVariables false
set_option linter.unusedSimpArgs false
variable {w0 w:World} {F:Nat→Prop} {l r1 r2 r3:List As}
theorem u_int0:PP.underlying Ty.int=some (.int .i64):=by kernel_rfl
theorem GrowP_ok{n:Nat}(hn:n≤100000)(E:Hs w0 F w l):Ca PP Fn.f26 #[.slice none 0 0,i64 (n:Int)] w λr w'=>Hs w0 F w' (slA r Ty.t0 2 []::l):=by
 refine S.f26.calls ?_
 unfold S.f26
 refine λJ1 hJ1=>Bi.lss (λh=>absurd h (by omega)) λ_=>Cnd.f (hJ1 w λu=>?_)
 clear hJ1 J1
 intro J4 hJ4
 refine⟨none,0,0,rfl,?_⟩
 refine⟨none,0,0,rfl,?_⟩
 refine Bi.sub (by omega) ?_
 refine Bi.sub (by omega) ?_
 rw[show(n:Int)-(((0:Nat):Int)-((0:Nat):Int))=(n:Int) by omega]
 refine Bi.gtr (λh=>Cnd.t ?_) (λh=>Cnd.f (hJ4 _ w λu=>?_))
 ·refine⟨none,0,0,rfl,?_⟩
  refine⟨none,0,0,0,0,rfl,rfl,rfl,Nat.le_refl _,Nat.le_refl _,?_⟩
  refine Ap.zer E u_sl_Place u_int0 e_Place (by omega) rfl (by omega) (by omega) (by omega) ?_
  clear E
  intro s w_ E
  refine⟨none,0,0,rfl,?_⟩
  refine Sl.sl (i:=0) E rfl (by omega) rfl rfl (Nat.le_refl _) (Nat.zero_le _) ?_
  clear E
  intro v E
  refine hJ4 _ w_ λu=>?_
  simpa using E
 ·exact Hs.nilSl E _ _
theorem ConcatP_ok{v:Value}{vs:List Value}{ps:List (List Pl)}(hv:RdS w0 F l 1 ps.length v vs)(hn:ps.length≤100)(ht:ps.flatten.length≤100000)(h:∀(i:Nat) x p,vs[i]? =some x→ps[i]? =some p→RdS w0 F l 2 p.length x (pcs p))(E:Hs w0 F w l):
  Ca PP Fn.f15 #[v] w λr w'=>Hs w0 F w' (slA r Ty.t0 2 (pcs ps.flatten)::l):=by
 refine S.f15.calls ?_
 unfold S.f15
 have hvl:vs.length=ps.length:=by obtain⟨_,_,_,_,h1,_⟩:=hv;omega
 have hpre:∀i,(ps.take i).flatten.length≤ps.flatten.length:=λi=>by
  have:ps.flatten=(ps.take i).flatten++(ps.drop i).flatten:=by rw[← List.flatten_append,List.take_append_drop]
  rw[this,List.length_append];omega
 have hnx:∀(i:Nat) (hi:i<ps.length),(ps.take (i+1)).flatten=(ps.take i).flatten++ps[i]:=λi hi=>by
  rw[List.take_add_one,List.getElem?_eq_getElem hi,List.flatten_append];simp
 refine hv.len ?_
 refine⟨λl1 w1=>∃i:Nat,l1=[i64 ((ps.take i).flatten.length:Nat),i64 i]∧i≤ps.length∧Hs w0 F w1 l,λl1 _=>match l1 with|[_,.int _ i]=>ps.length-i.toNat|_=>0,⟨0,rfl,Nat.zero_le _,E⟩,?_⟩
 clear E
 rintro t3 t11 u1 w1 ⟨i,e,hi,E⟩
 cases e
 refine Bi.lss ?_ ?_<;>intro hlt
 ·refine Cnd.t ?_
  have hi1:i<ps.length:=by omega
  intro J9 hJ9
  refine hv.ix (by omega) (by omega) (by omega) ?_
  intro a ha
  rw[Int.toNat_natCast,Nat.mul_one]at ha
  refine ha.ld E (x:=vs[i]'(by omega)) (by rw[List.getElem?_drop,Nat.add_zero,List.getElem?_eq_getElem]) ?_
  have hp:=h i (vs[i]'(by omega)) ps[i] (List.getElem?_eq_getElem (by omega)) (List.getElem?_eq_getElem hi1)
  refine hp.len ?_
  have h1:=hpre (i+1)
  rw[hnx i hi1,List.length_append]at h1
  refine Bi.add (by omega) ?_
  refine Bi.lss (λh=>absurd h (by omega)) (λ_=>Cnd.f ?_)
  refine hJ9 _ _ λu=>?_
  refine Bi.add (by omega) ?_
  exact⟨⟨i+1,by rw[hnx i hi1,List.length_append];simp,by omega,E⟩,by simp only[];omega⟩
 ·refine Cnd.f ?_
  have hie:i=ps.length:=by omega
  rw[hie,List.take_length]
  refine(GrowP_ok (by omega) E).mono ?_
  clear E
  intro g w_ E
  refine hv.len ?_
  refine⟨λl1 w1=>∃(i:Nat) (x:Value),l1=[x,i64 i]∧i≤ps.length∧Hs w0 F w1 (slA x Ty.t0 2 (pcs (ps.take i).flatten)::l),λl1 _=>match l1 with|[_,.int _ i]=>ps.length-i.toNat|_=>0,⟨0,g,rfl,Nat.zero_le _,E⟩,?_⟩
  clear E
  rintro t6 t27 u2 w2 ⟨i,x,e,hi,E⟩
  cases e
  refine Bi.lss ?_ ?_<;>intro hlt
  ·refine Cnd.t ?_
   have hi1:i<ps.length:=by omega
   have h1:=hpre (i+1)
   rw[hnx i hi1,List.length_append]at h1
   refine hv.ix (by omega) (by omega) (by omega) ?_
   intro a ha
   rw[Int.toNat_natCast,Nat.mul_one]at ha
   refine(ha.weaken λ_ E=>E.tl).ld E (x:=vs[i]'(by omega)) (by rw[List.getElem?_drop,Nat.add_zero,List.getElem?_eq_getElem]) ?_
   have hp:=h i (vs[i]'(by omega)) ps[i] (List.getElem?_eq_getElem (by omega)) (List.getElem?_eq_getElem hi1)
   refine Ap.el E (i:=0) rfl u_sl_Place ⟨_,u_sl_Place,λ_ h=>by cases h⟩ e_Place (by omega) (RdS.srcS (hp.cons _) (by omega) E (pcs_scal ps[i])) rfl (by rw[pcs_len,Nat.mul_div_cancel _ (by omega)];omega) (by rw[pcs_len,Nat.mul_div_cancel _ (by omega)];omega) ?_
   clear E
   intro x2 w3 E
   simp only[List.set_cons_zero]at E
   refine Bi.add (by omega) ?_
   refine⟨⟨i+1,x2,by simp,by omega,?_⟩,by simp only[];omega⟩
   rw[hnx i hi1]
   rw[show pcs ((ps.take i).flatten++ps[i])=pcs (ps.take i).flatten++pcs ps[i]from List.flatMap_append]
   exact E
  ·refine Cnd.f ?_
   have hie:i=ps.length:=by omega
   rw[hie,List.take_length]at E
   exact E
theorem GrowB_ok{n:Nat}(hn:n≤100000)(E:Hs w0 F w l):Ca PP Fn.f57 #[.slice none 0 0,i64 (n:Int)] w λr w'=>Hs w0 F w' (slA r Ty.bool 1 []::l):=by
 refine S.f57.calls ?_
 unfold S.f57
 refine λJ1 hJ1=>Bi.lss (λh=>absurd h (by omega)) λ_=>Cnd.f (hJ1 w λu=>?_)
 clear hJ1 J1
 intro J4 hJ4
 refine⟨none,0,0,rfl,?_⟩
 refine⟨none,0,0,rfl,?_⟩
 refine Bi.sub (by omega) ?_
 refine Bi.sub (by omega) ?_
 rw[show(n:Int)-(((0:Nat):Int)-((0:Nat):Int))=(n:Int) by omega]
 refine Bi.gtr (λh=>Cnd.t ?_) (λh=>Cnd.f (hJ4 _ w λu=>?_))
 ·refine⟨none,0,0,rfl,?_⟩
  refine⟨none,0,0,0,0,rfl,rfl,rfl,Nat.le_refl _,Nat.le_refl _,?_⟩
  refine Ap.zer E u_sl_bool u_int0 e_bool (by omega) rfl (by omega) (by omega) (by omega) ?_
  clear E
  intro s w_ E
  refine⟨none,0,0,rfl,?_⟩
  refine Sl.sl (i:=0) E rfl (by omega) rfl rfl (Nat.le_refl _) (Nat.zero_le _) ?_
  clear E
  intro v E
  refine hJ4 _ w_ λu=>?_
  simpa using E
 ·exact Hs.nilSl E _ _
theorem ConcatB_ok{v:Value}{vs:List Value}{ps:List (List Bool)}(hv:RdS w0 F l 1 ps.length v vs)(hn:ps.length≤100)(ht:ps.flatten.length≤100000)(h:∀(i:Nat) x p,vs[i]? =some x→ps[i]? =some p→RdS w0 F l 1 p.length x (bcs p))(E:Hs w0 F w l):
  Ca PP Fn.f46 #[v] w λr w'=>Hs w0 F w' (slA r Ty.bool 1 (bcs ps.flatten)::l):=by
 refine S.f46.calls ?_
 unfold S.f46
 have hvl:vs.length=ps.length:=by obtain⟨_,_,_,_,h1,_⟩:=hv;omega
 have hpre:∀i,(ps.take i).flatten.length≤ps.flatten.length:=λi=>by
  have:ps.flatten=(ps.take i).flatten++(ps.drop i).flatten:=by rw[← List.flatten_append,List.take_append_drop]
  rw[this,List.length_append];omega
 have hnx:∀(i:Nat) (hi:i<ps.length),(ps.take (i+1)).flatten=(ps.take i).flatten++ps[i]:=λi hi=>by
  rw[List.take_add_one,List.getElem?_eq_getElem hi,List.flatten_append];simp
 refine hv.len ?_
 refine⟨λl1 w1=>∃i:Nat,l1=[i64 ((ps.take i).flatten.length:Nat),i64 i]∧i≤ps.length∧Hs w0 F w1 l,λl1 _=>match l1 with|[_,.int _ i]=>ps.length-i.toNat|_=>0,⟨0,rfl,Nat.zero_le _,E⟩,?_⟩
 clear E
 rintro t3 t11 u1 w1 ⟨i,e,hi,E⟩
 cases e
 refine Bi.lss ?_ ?_<;>intro hlt
 ·refine Cnd.t ?_
  have hi1:i<ps.length:=by omega
  intro J9 hJ9
  refine hv.ix (by omega) (by omega) (by omega) ?_
  intro a ha
  rw[Int.toNat_natCast,Nat.mul_one]at ha
  refine ha.ld E (x:=vs[i]'(by omega)) (by rw[List.getElem?_drop,Nat.add_zero,List.getElem?_eq_getElem]) ?_
  have hp:=h i (vs[i]'(by omega)) ps[i] (List.getElem?_eq_getElem (by omega)) (List.getElem?_eq_getElem hi1)
  refine hp.len ?_
  have h1:=hpre (i+1)
  rw[hnx i hi1,List.length_append]at h1
  refine Bi.add (by omega) ?_
  refine Bi.lss (λh=>absurd h (by omega)) (λ_=>Cnd.f ?_)
  refine hJ9 _ _ λu=>?_
  refine Bi.add (by omega) ?_
  exact⟨⟨i+1,by rw[hnx i hi1,List.length_append];simp,by omega,E⟩,by simp only[];omega⟩
 ·refine Cnd.f ?_
  have hie:i=ps.length:=by omega
  rw[hie,List.take_length]
  refine(GrowB_ok (by omega) E).mono ?_
  clear E
  intro g w_ E
  refine hv.len ?_
  refine⟨λl1 w1=>∃(i:Nat) (x:Value),l1=[x,i64 i]∧i≤ps.length∧Hs w0 F w1 (slA x Ty.bool 1 (bcs (ps.take i).flatten)::l),λl1 _=>match l1 with|[_,.int _ i]=>ps.length-i.toNat|_=>0,⟨0,g,rfl,Nat.zero_le _,E⟩,?_⟩
  clear E
  rintro t6 t27 u2 w2 ⟨i,x,e,hi,E⟩
  cases e
  refine Bi.lss ?_ ?_<;>intro hlt
  ·refine Cnd.t ?_
   have hi1:i<ps.length:=by omega
   have h1:=hpre (i+1)
   rw[hnx i hi1,List.length_append]at h1
   refine hv.ix (by omega) (by omega) (by omega) ?_
   intro a ha
   rw[Int.toNat_natCast,Nat.mul_one]at ha
   refine(ha.weaken λ_ E=>E.tl).ld E (x:=vs[i]'(by omega)) (by rw[List.getElem?_drop,Nat.add_zero,List.getElem?_eq_getElem]) ?_
   have hp:=h i (vs[i]'(by omega)) ps[i] (List.getElem?_eq_getElem (by omega)) (List.getElem?_eq_getElem hi1)
   refine Ap.one E (i:=0) rfl u_sl_bool ⟨_,u_sl_bool,λ_ h=>by cases h⟩ e_bool (RdS.src (hp.cons _)  E (bcs_scal ps[i])) rfl (by rw[List.length_map];omega) (by rw[List.length_map];omega) ?_
   clear E
   intro x2 w3 E
   simp only[List.set_cons_zero]at E
   refine Bi.add (by omega) ?_
   refine⟨⟨i+1,x2,by simp,by omega,?_⟩,by simp only[];omega⟩
   rw[hnx i hi1]
   rw[show bcs ((ps.take i).flatten++ps[i])=bcs (ps.take i).flatten++bcs ps[i]from List.map_append]
   exact E
  ·refine Cnd.f ?_
   have hie:i=ps.length:=by omega
   rw[hie,List.take_length]at E
   exact E
set_option maxRecDepth 100000
set_option linter.unusedVariables false
set_option linter.unusedSimpArgs false
variable {w0 w:World} {F:Nat→Prop} {l:List As}
theorem u_sopen:PP.underlying Ty.t108=some (.map Ty.int Ty.t61):=by kernel_rfl
abbrev keysHF(a:Nat):Value:=.func (.func Fn.maps_Keys_map_int_sl_space_handle_int_sl_space_handle_1) #[] #[ptr a]
set_option maxRecDepth 100000
set_option linter.unusedVariables false
set_option linter.unusedSimpArgs false
variable {w0 w:World} {F:Nat→Prop} {l r1 r2 r3:List As}
variable {R:List RowS} {D:List Row} {Xs:List PT} {tA:List Nat} {M:TbM} {K:SpM} {N:Int} {y:Sy}
theorem z_sl_handle:zeroK PP Ty.t61=some (.slice none 0 0):=by kernel_rfl
theorem openedS_okM{n:Int}(T:SpT R tA K y.sp)[hS:FPt l K.a (spO K M.a y.sp) r1][hO:FMp l K.om (.int .i64) (ovM K.ov) r2](E:Hs w0 F w l):
  Ca PP Fn.f69 #[ptr K.a,i64 n] w λr w'=>∃v,r=.tuple #[v,i64 (y.opened n).2]∧((y.opened n).2=0→RdyS R Ty.t36 2 v (hcs tA (y.opened n).1))∧Hs w0 F w' l:=by
 refine S.f69.calls ?_
 unfold S.f69
 refine Eq.ef u_p_Space rfl ?_
 repeat with_reducible first|refine Stp.go ?_|refine StpE.go E ?_
 refine Lk.ok E FMp.mem u_sopen k_int z_sl_handle rfl ?_
 rw[aget_enc (keyI .i64)]
 have h:=T.row n
 unfold Sy.opened
 cases hg:getL y.sp.op n with
 |none=>
  rw[hg]at h
  simp only[]at h
  rw[h]
  simp only[Option.map_none,Option.getD_none,Option.isSome_none]
  repeat with_reducible refine Stp.go ?_
  exact⟨_,rfl,λh=>absurd h (by decide),E⟩
 |some hs=>
  rw[hg]at h
  obtain⟨v,hv,hr⟩:=h
  rw[hv]
  simp only[Option.map_some,Option.getD_some,Option.isSome_some]
  repeat with_reducible refine Stp.go ?_
  exact⟨_,rfl,λ_=>hr,E⟩
theorem hcs_len(hs:List (Nat×Int)):(hcs tA hs).length=hs.length*2:=by
 induction hs with
 |nil=>rfl
 |cons x r ih=>
  rw[hcs,List.flatMap_cons,List.length_append,List.length_cons]
  have:(List.flatMap (λx:Nat×Int=>[iT (adW tA x.1),i64 x.2]) r).length=r.length*2:=ih
  rw[this]
  show 2+r.length*2=(r.length+1)*2
  omega

theorem singleS_okM{n:Int}(T:SpT R tA K y.sp)(hI:SyI N y)(hR:PoolS R∈l)[hS:FPt l K.a (spO K M.a y.sp) r1][hO:FMp l K.om (.int .i64) (ovM K.ov) r2](E:Hs w0 F w l):
  Ca PP Fn.f76 #[ptr K.a,i64 n] w λr w'=>∃x,r=.tuple #[.agg #[x,i64 (y.single n).1.2],i64 (y.single n).2]∧((y.single n).2=0→x=iT (adW tA (y.single n).1.1))∧Scal x∧Hs w0 F w' l:=by
 refine S.f76.calls ?_
 unfold S.f76
 repeat with_reducible (refine StpA.go E ?_;clear E;intro b_ w_ hb_ E)
 (revert b_;intro q hbq E)
 refine(openedS_okM (n:=n) T E).mono ?_
 clear E
 rintro r w_ ⟨v,rfl,hr,E⟩
 repeat with_reducible refine Stp.go ?_
 obtain⟨o1,o2,o3⟩:=openedS_ok hI n
 refine Bi.neq ?_ ?_<;>intro he<;>(repeat with_reducible first|refine Stp.go ?_|refine StpE.go E ?_|(refine StpW.go E ?_;clear E;intro w_ E))
 ·have e:y.single n=((0,0),(y.opened n).2):=by unfold Sy.single;rw[if_pos he]
  rw[e]
  exact⟨_,rfl,λh=>absurd h he,inferInstance,E.tl⟩
 have hrd:=(hr he).read (n:=(y.opened n).1.length) (hcs_len _) (by omega) E (by simp[hR])
 have e0:y.single n=if 1<(y.opened n).1.length then((0,0),18)else((y.opened n).1.getD 0 (0,0),0):=by unfold Sy.single;rw[if_neg (λh=>h he)]
 have hne:=o1 he
 rw[e0]
 generalize (y.opened n).1=L at*
 refine hrd.len ?_
 refine Bi.gtr ?_ ?_<;>intro h1<;>(repeat with_reducible first|refine Stp.go ?_|refine StpE.go E ?_|(refine StpW.go E ?_;clear E;intro w_ E))
 ·rw[if_pos (by omega)]
  exact⟨_,rfl,λh=>absurd h (by decide),inferInstance,E.tl⟩
 ·rw[if_neg (by omega)]
  match L,hne with
  |x::r,_=>
  refine hrd.ix (by omega) (by simp) (by omega) ?_
  intro a ha
  refine ha.lda E (m:=2) (ds:=[iT (adW tA x.1),i64 x.2]) rfl rfl (by omega) ?_
  repeat with_reducible first|refine StpE.go E ?_|(refine StpW.go E ?_;clear E;intro w_ E)
  exact⟨_,rfl,λ_=>rfl,inferInstance,E.tl⟩
set_option maxRecDepth 100000
set_option linter.unusedVariables false
set_option linter.unusedSimpArgs false
variable {w0 w:World} {F:Nat→Prop} {l r1 r2 r3:List As}
variable {R:List RowS} {D:List Row} {Xs:List PT} {tA:List Nat} {M:TbM} {K:SpM} {N:Int} {y:Sy}

abbrev SPl(R:List RowS)(D:List Row)(Xs:List PT)(tA:List Nat)(M:TbM)(K:SpM)(y:Sy)(l:List As):List As:=
 pt K.a (spO K M.a y.sp)::mp K.om (.int .i64) (ovM K.ov)::pt M.a (tbO M)::slA M.tv Ty.api_Tree 1 (tcs tA y.tb.ts)::slA M.mv Ty.t22 4 (mcs y.tb.ms M.vs)::PoolS R::wdA Xs::Pool D::l
structure Fit(R:List RowS)(D:List Row)(Xs:List PT)(tA:List Nat)(M:TbM)(K:SpM)(N:Int)(y:Sy):Prop where
 tb:TbT R M y.tb
 sp:SpT R tA K y.sp
 wo:Wo D tA Xs y.Ts
 inv:SyI N y

def GoS(w0:World)(F:Nat→Prop)(l:List As)(R:List RowS)(tA:List Nat)(M:TbM)(K:SpM)(N:Int)(y:Sy)(w:World):Prop:=
 ∃R' D' Xs' M' K',M'.a=M.a∧K'.a=K.a∧K'.om=K.om∧(∀x∈R,x∈R')∧Fit R' D' Xs' tA M' K' N y∧Hs w0 F w (SPl R' D' Xs' tA M' K' y l)
theorem Fit.ctx0(h:Fit R D Xs tA M K N y):Ctx (SPl R D Xs tA M K y l) R D Xs tA M K N y:=
 ⟨by simp,by simp,by simp,h.tb,h.wo,h.inv⟩
theorem Fit.same(h:Fit R D Xs tA M K N y)(E:Hs w0 F w (SPl R D Xs tA M K y l)):GoS w0 F l R tA M K N y w:=⟨R,D,Xs,M,K,rfl,rfl,rfl,λ_ h=>h,h,E⟩
theorem TbT.mono{R':List RowS}{tb:Tb}(h:TbT R M tb)(hs:∀x∈R,x∈R'):TbT R' M tb:=⟨h.len,λi m v h1 h2=>⟨(h.row i m v h1 h2).1.mono hs,(h.row i m v h1 h2).2.mono hs⟩⟩
theorem SpT.mono{R':List RowS}{sp:Sp}(h:SpT R tA K sp)(hs:∀x∈R,x∈R'):SpT R' tA K sp:=⟨h.keys,λk=>by
 have h1:=h.row k
 revert h1
 cases getL sp.op k with
 |none=>exact id
 |some hs'=>rintro⟨v,h2,h3⟩;exact⟨v,h2,h3.mono hs⟩⟩
abbrev mtG(x:Mt×(Value×Value)):List Value:=x.1.C x.2
theorem mtG_len(x:Mt×(Value×Value)):(mtG x).length=4:=rfl
theorem u_sl_Mount:PP.underlying Ty.t52=some (.slice Ty.t22):=by kernel_rfl
theorem s_Mount:sizeK PP Ty.t22=some 4:=by kernel_rfl
abbrev zMt:Value:=.agg #[i64 0,i64 0,.slice none 0 0,.slice none 0 0]
theorem z_Mount:zeroK PP Ty.t22=some zMt:=by kernel_rfl
theorem e_Mount:el3 PP Ty.t22=some (some zMt,4,64):=by kernel_rfl
theorem BdS.mt{m:Mt}{v:Value×Value}[h1:Scal v.1][h2:Scal v.2]{k:Value→World→Prop}(E:Hs w0 F w l)(hk:∀s w',Hs w0 F w' (slA s Ty.t22 4 (m.C v)::l)→k s w'):Ef PP (Instr.buildSlice Ty.t52 1 #[(0,.agg (m.C v).toArray)]) w k:=by
 refine BdS.sl E u_sl_Mount s_Mount z_Mount (by omega) (by omega) (xs:=m.C v) ?_ rfl hk
 kernel_rfl

theorem mcs_set{ms:List Mt}{vs:List (Value×Value)}{i:Nat}{m:Mt}{v:Value×Value}:((ms.zip vs).set i (m,v))=(ms.set i m).zip (vs.set i v):=by
 induction ms generalizing vs i with
 |nil=>simp
 |cons a r ih=>
  cases vs with
  |nil=>cases i<;>simp
  |cons b s=>
   cases i with
   |zero=>rfl
   |succ i=>simp[ih]
theorem TbT.put{R':List RowS}{tb:Tb}{ms:List Mt}{vs:List (Value×Value)}{mv:Value}(h1:vs.length=ms.length)
  (h2:∀(i:Nat) m v,ms[i]? =some m→vs[i]? =some v→RdyS R' Ty.t0 2 v.1 (pcs m.new)∧RdyS R' Ty.bool 1 v.2 (bcs m.cr)):TbT R' {M with mv:=mv,vs:=vs} {tb with ms:=ms}:=⟨h1,h2⟩
set_option maxRecDepth 100000
set_option linter.unusedVariables false
set_option linter.unusedSimpArgs false
variable {w0 w:World} {F:Nat→Prop} {l r1 r2 r3:List As}
variable {R:List RowS} {D:List Row} {Xs:List PT} {tA:List Nat} {M:TbM} {K:SpM} {N:Int} {y:Sy}

def SetG(w0:World)(F:Nat→Prop)(l:List As)(R:List RowS)(D:List Row)(Xs:List PT)(tA:List Nat)(M:TbM)(K:SpM)(y:Sy)(ms:List Mt)(w:World):Prop:=
 ∃R' M',M'.a=M.a∧M'.tv=M.tv∧(∀x∈R,x∈R')∧TbT R' M' {y.tb with ms:=ms}∧Hs w0 F w (SPl R' D Xs tA M' K {y with tb:={y.tb with ms:=ms}} l)
theorem SetG.same(h:TbT R M y.tb)(E:Hs w0 F w (SPl R D Xs tA M K y l)):SetG w0 F l R D Xs tA M K y y.tb.ms w:=⟨R,M,rfl,rfl,λ_ h=>h,h,E⟩
theorem Fit.setG(h:Fit R D Xs tA M K N y){ms:List Mt}(G:SetG w0 F l R D Xs tA M K y ms w)(hi:SyI N {y with tb:={y.tb with ms:=ms}}):GoS w0 F l R tA M K N {y with tb:={y.tb with ms:=ms}} w:=by
 obtain⟨R',M',h1,h2,h3,h4,E⟩:=G
 exact⟨R',D,Xs,M',K,h1,rfl,rfl,h3,⟨h4,h.sp.mono h3,h.wo,hi⟩,E⟩
theorem RdS.cast2{sz n m:Nat}{v:Value}{xs:List Value}(h:RdS w0 F l sz n v xs)(e:n=m):RdS w0 F l sz m v xs:=e▸h
theorem u_slslP:PP.underlying Ty.sl_sl_space_Place=some (.slice Ty.t13):=by kernel_rfl
theorem e_slP:el3 PP Ty.t13=some (some (.slice none 0 0),1,24):=by kernel_rfl
theorem u_slslB:PP.underlying Ty.sl_sl_bool=some (.slice Ty.t90):=by kernel_rfl
theorem e_slB:el3 PP Ty.t90=some (some (.slice none 0 0),1,24):=by kernel_rfl
theorem two_rd{α:Type}{sz:Nat}{c:List α→List Value}{a b:Value}{p q:List α}(h1:RdS w0 F l sz p.length a (c p))(h2:RdS w0 F l sz q.length b (c q)):
  ∀(i:Nat) x r,[a,b][i]? =some x→[p,q][i]? =some r→RdS w0 F l sz r.length x (c r):=by
 intro i x r g1 g2
 match i with
 |0=>
  have e1:a=x:=by simpa using g1
  have e2:p=r:=by simpa using g2
  subst e1;subst e2;exact h1
 |1=>
  have e1:b=x:=by simpa using g1
  have e2:q=r:=by simpa using g2
  subst e1;subst e2;exact h2
 |i+2=>simp at g1
theorem Hs.pool2{R:List RowS}{a b c d e f g h:As}{v t:Value}{T T':TypeId}{z z':Nat}{x x':List Value}(E:Hs w0 F w (a::slA v T z x::slA t T' z' x'::b::c::d::e::f::g::h::PoolS R::l)):
  Hs w0 F w (d::e::f::g::h::PoolS ((⟨t,T',z',x'⟩:RowS)::⟨v,T,z,x⟩::R)::l):=by
 have E1:=Hs.poolS T ((E.bIx 10).bIx 2)
 have E2:=Hs.poolS T' (E1.bIx 2)
 have E3:=((((E2.bIx 1).tl).bIx 1).tl.bIx 1).tl
 exact((((E3.bIx 5).bIx 5).bIx 5).bIx 5).bIx 5
theorem rows_set{R R':List RowS}{ms:List Mt}{vs:List (Value×Value)}(hl:vs.length=ms.length)(hs:∀x∈R,x∈R'){j:Nat}{m0:Mt}{v0:Value×Value}(h0:RdyS R' Ty.t0 2 v0.1 (pcs m0.new)∧RdyS R' Ty.bool 1 v0.2 (bcs m0.cr))
  (h:∀(i:Nat) m v,ms[i]? =some m→vs[i]? =some v→RdyS R Ty.t0 2 v.1 (pcs m.new)∧RdyS R Ty.bool 1 v.2 (bcs m.cr)):
  ∀(i:Nat) m v,(ms.set j m0)[i]? =some m→(vs.set j v0)[i]? =some v→RdyS R' Ty.t0 2 v.1 (pcs m.new)∧RdyS R' Ty.bool 1 v.2 (bcs m.cr):=by
 intro i m v h1 h2
 by_cases hj:j=i
 ·subst hj
  have hlt:j<ms.length:=by
   have:=(List.getElem?_eq_some_iff.1 h1).1
   simpa using this
  rw[List.getElem?_set_self hlt]at h1
  rw[List.getElem?_set_self (by omega)]at h2
  cases h1;cases h2
  exact h0
 ·rw[List.getElem?_set_ne hj]at h1 h2
  exact⟨(h i m v h1 h2).1.mono hs,(h i m v h1 h2).2.mono hs⟩
theorem rows_app{R R':List RowS}{ms:List Mt}{vs:List (Value×Value)}(hl:vs.length=ms.length)(hs:∀x∈R,x∈R'){m0:Mt}{v0:Value×Value}(h0:RdyS R' Ty.t0 2 v0.1 (pcs m0.new)∧RdyS R' Ty.bool 1 v0.2 (bcs m0.cr))
  (h:∀(i:Nat) m v,ms[i]? =some m→vs[i]? =some v→RdyS R Ty.t0 2 v.1 (pcs m.new)∧RdyS R Ty.bool 1 v.2 (bcs m.cr)):
  ∀(i:Nat) m v,(ms++[m0])[i]? =some m→(vs++[v0])[i]? =some v→RdyS R' Ty.t0 2 v.1 (pcs m.new)∧RdyS R' Ty.bool 1 v.2 (bcs m.cr):=by
 intro i m v h1 h2
 by_cases hj:i<ms.length
 ·rw[List.getElem?_append_left hj]at h1
  rw[List.getElem?_append_left (by omega)]at h2
  exact⟨(h i m v h1 h2).1.mono hs,(h i m v h1 h2).2.mono hs⟩
 ·rw[List.getElem?_append_right (by omega)]at h1
  rw[List.getElem?_append_right (by omega)]at h2
  have e:i-ms.length=0:=by
   have:=(List.getElem?_eq_some_iff.1 h1).1
   simp at this
   omega
  rw[e]at h1
  rw[hl,e]at h2
  cases h1;cases h2
  exact h0
theorem mcs_app{ms:List Mt}{vs:List (Value×Value)}(hl:vs.length=ms.length){m:Mt}{v:Value×Value}:mcs (ms++[m]) (vs++[v])=mcs ms vs++m.C v:=by
 unfold mcs
 rw[List.zip_append (by omega),List.flatMap_append]
 rfl
theorem set_okM{p:Pl}{ps:List Pl}{lv:Value}{mark:Bool}{way:Int}(h:Fit R D Xs tA M K N y)(hp:p.t<y.tb.ts.length)(hn:ps.length≤16)(hl:RdS w0 F (SPl R D Xs tA M K y l) 2 ps.length lv (pcs ps))(E:Hs w0 F w (SPl R D Xs tA M K y l)):
  Ca PP Fn.f96 #[ptr K.a,p.V,lv,.bool mark,i64 way] w λr w'=>r=i64 (setM y.tb.ms p ps mark way).2∧SetG w0 F l R D Xs tA M K y (setM y.tb.ms p ps mark way).1 w':=by
 refine S.f96.calls ?_
 unfold S.f96
 repeat with_reducible (refine StpA.go E ?_;clear E;intro b_ w_ hb_ E)
 (revert b_;intro q hbq E)
 refine BdS.one E u_sl_bool e_bool rfl ?_
 clear E
 intro mv w_ E
 refine hl.len ?_
 have hmv:=RdS.sl (T:=Ty.bool) (v:=mv) (sz:=1) (xs:=[.bool mark]) List.mem_cons_self (by omega) E
 rw[show[Value.bool mark].length / 1=1 by simp]at hmv
 refine(Repeat_ok hmv (by omega) E).mono ?_
 clear E hmv
 intro rv w_ E
 replace E:=E.perm (((List.Perm.swap _ _ _)))
 replace E:=E.tl
 repeat with_reducible first|refine Stp.go ?_|refine StpE.go E ?_|(refine StpW.go E ?_;clear E;intro w_ E)
 have C1:=h.ctx0 (l:=l)
 obtain⟨s1,s2,s3,s4⟩:=stand_ok h.inv.tb hp
 refine(stand_okM (M:=M) (p:=p) ((C1.cons (pt q (oc p.cs Ty.t0))).cons (slA rv Ty.bool 1 (bcs (List.replicate ps.length mark)))).mv h.tb ((C1.cons (pt q (oc p.cs Ty.t0))).cons (slA rv Ty.bool 1 (bcs (List.replicate ps.length mark)))).pool h.inv.tb E).mono ?_
 clear E
 rintro r w_ ⟨v1,v2,A,rfl,E,g1,g2⟩
 repeat with_reducible refine Stp.go ?_
 generalize hQ:(standM y.tb.ms p).1=Q at*
 generalize hB:(standM y.tb.ms p).2=B at*
 intro J17 hJ17
 have go17:∀t2 t11 (A:As) w_,RdS w0 F (slA t11 Ty.bool 1 (bcs (joinW way (List.replicate ps.length mark) B))::pt q (oc p.cs Ty.t0)::(A::SPl R D Xs tA M K y l)) 2 (joinW way ps Q).length t2 (pcs (joinW way ps Q))→
   Hs w0 F w_ (slA t11 Ty.bool 1 (bcs (joinW way (List.replicate ps.length mark) B))::pt q (oc p.cs Ty.t0)::(A::SPl R D Xs tA M K y l))→J17 [t2,t11] w_:=by
  intro t2 t11 A w_ g E
  refine hJ17 t2 t11 w_ λu=>?_
  clear hJ17 J17 g1 g2
  generalize hL2:joinW way ps Q=l2 at*
  generalize hC2:joinW way (List.replicate ps.length mark) B=c2 at*
  repeat with_reducible first|refine Stp.go ?_|refine StpE.go E ?_|(refine StpW.go E ?_;clear E;intro w_ E)
  refine(find_okM (M:=M) (p:=p) (by simp) h.tb.len h.inv.tb.ms E).mono ?_
  clear E
  rintro r w_ ⟨rfl,E⟩
  have hset:setM y.tb.ms p ps mark way=(if 16<l2.length∨(y.tb.ms.length≤idxM y.tb.ms p∧64≤y.tb.ms.length)then(y.tb.ms,3)else if idxM y.tb.ms p<y.tb.ms.length then(y.tb.ms.set (idxM y.tb.ms p) ⟨p,l2,c2⟩,0)else(y.tb.ms++[⟨p,l2,c2⟩],0)):=by
   unfold setM
   simp only[]
   rw[hQ,hB,hL2,hC2]
  rw[hset]
  have hms:=h.inv.tb.ms
  have hid:fdI y.tb.ms p=if idxM y.tb.ms p<y.tb.ms.length then(idxM y.tb.ms p:Int)else -1:=rfl
  intro J29 hJ29
  have bad:∀w_,(16<l2.length∨(y.tb.ms.length≤idxM y.tb.ms p∧64≤y.tb.ms.length))→Hs w0 F w_ (slA t11 Ty.bool 1 (bcs c2)::pt q (oc p.cs Ty.t0)::(A::SPl R D Xs tA M K y l))→J29 [.bool true] w_:=by
   intro w_ hb E
   refine hJ29 _ w_ λu=>?_
   refine Cnd.t ?_
   rw[if_pos hb]
   exact⟨rfl,SetG.same h.tb (E.tl.tl.tl)⟩
  have good:∀w_,¬(16<l2.length∨(y.tb.ms.length≤idxM y.tb.ms p∧64≤y.tb.ms.length))→Hs w0 F w_ (slA t11 Ty.bool 1 (bcs c2)::pt q (oc p.cs Ty.t0)::(A::SPl R D Xs tA M K y l))→J29 [.bool false] w_:=by
   intro w_ hb E
   refine hJ29 _ w_ λu=>?_
   clear bad hJ29 J29
   refine Cnd.f ?_
   rw[if_neg hb]
   rw[not_or]at hb
   have h16:l2.length≤16:=by omega
   have it11:Scal t11:=⟨Hs.slScal E FSl.mem⟩
   repeat with_reducible first|refine StpE.go E ?_|(refine StpW.go E ?_;clear E;intro w_ E)
   refine And.intro ?left (And.intro ?right trivial)
   case' left=>
    refine(CloneP_ok g (by omega) E).mono ?_
    clear E
    rintro v5 w_ E
    have iv5:Scal v5:=⟨Hs.slScal E FSl.mem⟩
    (repeat(with_reducible refine And.intro ?_ ?_;focus ((repeat with_reducible refine StpE.go E ?_);exact rfl)))
    repeat with_reducible first|refine StpE.go E ?_|(refine StpA.go E ?_;clear E;intro b_ w_ hb_ E)
    (revert b_;intro m hbm E)
    (repeat(with_reducible refine And.intro ?_ ?_;focus ((repeat with_reducible refine StpE.go E ?_);exact rfl)))
    repeat with_reducible (refine StpW.go E ?_;clear E;intro w_ E)
   case' right=>
    repeat with_reducible (refine StpA.go E ?_;clear E;intro b_ w_ hb_ E)
    (revert b_;intro m hbm E)
    (repeat(with_reducible refine And.intro ?_ ?_;focus ((repeat with_reducible refine StpE.go E ?_);exact rfl)))
    refine(CloneP_ok (g.cons _) (by omega) E).mono ?_
    clear E
    rintro v5 w_ E
    have iv5:Scal v5:=⟨Hs.slScal E FSl.mem⟩
    (repeat(with_reducible refine And.intro ?_ ?_;focus ((repeat with_reducible refine StpE.go E ?_);exact rfl)))
    repeat with_reducible first|refine StpE.go E ?_|(refine StpW.go E ?_;clear E;intro w_ E)
    (first|(refine StA.all E rfl rfl (by first|exact rfl|assumption) ?_;clear E;intro w_ E)|try (refine StA.by E rfl (by first|exact rfl|assumption) ?_;clear E;intro w_ E))
    (replace E:=((E.bIx 0).bIx 1))
   all_goals
    intro J43 hJ43
    have hR:∀x∈R,x∈(⟨t11,Ty.bool,1,bcs c2⟩:RowS)::⟨v5,Ty.t0,2,pcs l2⟩::R:=λx hx=>List.mem_cons_of_mem _ (List.mem_cons_of_mem _ hx)
    have hrow:RdyS ((⟨t11,Ty.bool,1,bcs c2⟩:RowS)::⟨v5,Ty.t0,2,pcs l2⟩::R) Ty.t0 2 v5 (pcs l2)∧RdyS ((⟨t11,Ty.bool,1,bcs c2⟩:RowS)::⟨v5,Ty.t0,2,pcs l2⟩::R) Ty.bool 1 t11 (bcs c2):=
     ⟨.inr (List.mem_cons_of_mem _ List.mem_cons_self),.inr List.mem_cons_self⟩
    rw[hid]
    by_cases hx:idxM y.tb.ms p<y.tb.ms.length
    ·rw[if_pos hx]
     rw[if_pos hx]at hJ43
     refine Bi.geq (λ_=>?_) (λh=>absurd h (by omega))
     repeat with_reducible first|refine Stp.go ?_|refine StpE.go E ?_|(refine StpW.go E ?_;clear E;intro w_ E)
     have hzl:(y.tb.ms.zip M.vs)[idxM y.tb.ms p]? =some (y.tb.ms[idxM y.tb.ms p],M.vs[idxM y.tb.ms p]'(by rw[h.tb.len];exact hx)):=by
      rw[List.getElem?_zip_eq_some]
      exact⟨List.getElem?_eq_getElem hx,List.getElem?_eq_getElem (by rw[h.tb.len];exact hx)⟩
     refine IxA.rw (L:=y.tb.ms.zip M.vs) (g:=mtG) mtG_len E (v:=M.mv) (T:=Ty.t22) (by simp[mcs]) (by omega) (by omega) (by rw[Int.toNat_natCast,List.length_zip,h.tb.len];omega) ?_
     intro a ha
     rw[Int.toNat_natCast]at ha
     refine StA.rw (j:=9) (i:=idxM y.tb.ms p) (c:=0) (y:=(⟨p,l2,c2⟩,(v5,t11))) (L:=y.tb.ms.zip M.vs) (g:=mtG) mtG_len E rfl ha hzl rfl (by omega) ?_ rfl ?_
     ·simp only[List.all_cons,List.all_nil,it11.s,iv5.s,Bool.and_true];rfl
     clear E
     intro w_ E
     simp only[List.set_cons_zero,List.set_cons_succ]at E
     rw[mcs_set]at E
     refine hJ43 w_ λu=>?_
     refine⟨rfl,_,{M with vs:=M.vs.set (idxM y.tb.ms p) (v5,t11)},rfl,rfl,hR,⟨by simp[h.tb.len],λi m v h1 h2=>?_⟩,?_⟩
     ·exact rows_set h.tb.len hR hrow h.tb.row i m v h1 h2
     ·exact Hs.pool2 E
    ·rw[if_neg hx]
     rw[if_neg hx]at hJ43
     refine Bi.geq (λh=>absurd h (by decide)) (λ_=>?_)
     repeat with_reducible first|refine Stp.go ?_|refine StpE.go E ?_|(refine StpW.go E ?_;clear E;intro w_ E)
     refine BdS.mt (m:=⟨p,l2,c2⟩) (v:=(v5,t11)) E ?_
     clear E
     intro s w_ E
     (repeat(with_reducible refine And.intro ?_ ?_;focus ((repeat with_reducible refine StpE.go E ?_);exact rfl)))
     refine Ap.el E (i:=10) rfl u_sl_Mount ⟨_,u_sl_Mount,λ_ h=>by cases h⟩ e_Mount (by omega) (Src.slice (E.sat _ List.mem_cons_self) (n:=1) rfl (by omega) (by simp only[List.all_cons,List.all_nil,it11.s,iv5.s,Bool.and_true];rfl)) rfl (by rw[mcs_len h.tb.len,Nat.mul_div_cancel _ (by omega)];omega) (by rw[mcs_len h.tb.len,Nat.mul_div_cancel _ (by omega)];omega) ?_
     clear E
     intro s2 w_ E
     simp only[List.set_cons_zero,List.set_cons_succ]at E
     replace E:=E.tl
     have is2:Scal s2:=⟨Hs.slScal E FSl.mem⟩
     (repeat(with_reducible refine And.intro ?_ ?_;focus ((repeat with_reducible refine StpE.go E ?_);exact rfl)))
     repeat with_reducible first|refine Stp.go ?_|(refine StpW.go E ?_;clear E;intro w_ E)
     rw[← mcs_app h.tb.len]at E
     refine hJ43 w_ λu=>?_
     refine⟨rfl,_,{M with mv:=s2,vs:=M.vs++[(v5,t11)]},rfl,rfl,hR,⟨by simp[h.tb.len],λi m v h1 h2=>?_⟩,?_⟩
     ·exact rows_app h.tb.len hR hrow h.tb.row i m v h1 h2
     ·exact Hs.pool2 E
  clear hJ29
  have h64:y.tb.ms.length≤64:=hms
  refine g.len ?_
  refine Bi.gtr ?_ ?_<;>intro c1<;>(repeat with_reducible refine Stp.go ?_)
  ·exact bad _ (.inl (by omega)) E
  rw[hid]
  by_cases hx:idxM y.tb.ms p<y.tb.ms.length
  ·rw[if_pos hx]
   refine Bi.lss (λh=>absurd h (by omega)) (λ_=>?_)
   repeat with_reducible refine Stp.go ?_
   exact good _ (by omega) E
  ·rw[if_neg hx]
   refine Bi.lss (λ_=>?_) (λh=>absurd h (by decide))
   repeat with_reducible first|refine Stp.go ?_|refine StpE.go E ?_
   have hrd:=RdS.sl (v:=M.mv) (T:=Ty.t22) (sz:=4) (xs:=mcs y.tb.ms M.vs) (by simp) (by omega) E
   rw[mcs_len h.tb.len,Nat.mul_div_cancel _ (by omega)]at hrd
   refine hrd.len ?_
   repeat with_reducible refine Stp.go ?_
   refine Bi.geq ?_ ?_<;>intro c2<;>(repeat with_reducible refine Stp.go ?_)
   ·exact bad _ (.inr ⟨by omega,by omega⟩) E
   ·exact good _ (by omega) E
 clear hJ17
 have irv:Scal rv:=⟨Hs.slScal E FSl.mem⟩
 have ilv:Scal lv:=RdS_scal hl
 have iv1:Scal v1:=RdS_scal g1
 have iv2:Scal v2:=RdS_scal g2
 have hrv:=RdS.sl (v:=rv) (T:=Ty.bool) (sz:=1) (xs:=bcs (List.replicate ps.length mark)) (by simp) (by omega) E
 rw[Nat.div_one,List.length_map]at hrv
 refine Bi.eql ?_ ?_<;>intro e1<;>(repeat with_reducible refine Stp.go ?_)
 ·have j1:∀{α:Type} (a b:List α),joinW way a b=[a,b].flatten:=λa b=>by unfold joinW;rw[if_pos e1];simp
  rw[j1,j1]at go17
  refine BdS.two E u_slslP e_slP ilv.s iv1.s ?_
  clear E
  intro s1 w_ E
  have h1:=RdS.sl (v:=s1) (T:=Ty.t13) (sz:=1) (xs:=[lv,v1]) (by simp) (by omega) E
  refine(ConcatP_ok (ps:=[ps,Q]) (RdS.cast2 h1 (by simp)) (by simp) (by simp;omega) (two_rd ((((hl.cons _).cons _).cons _).cons _) (g1.cons _)) E).mono ?_
  clear E
  intro c1 w_ E
  skip
  refine BdS.two E u_slslB e_slB irv.s iv2.s ?_
  clear E
  intro s2 w_ E
  have h2:=RdS.sl (v:=s2) (T:=Ty.t90) (sz:=1) (xs:=[rv,v2]) (by simp) (by omega) E
  refine(ConcatB_ok (ps:=[List.replicate ps.length mark,B]) (RdS.cast2 h2 (by simp)) (by simp) (by simp;omega) (two_rd (((hrv.cons _).cons _).cons _) (((g2.cons _).cons _).cons _)) E).mono ?_
  clear E
  intro c2 w_ E
  (replace E:=(((((((E.bIx 6).bIx 1).bIx 6).bIx 6).bIx 6).bIx 6).bIx 6))
  have h3:=RdS.sl (v:=c1) (T:=Ty.t0) (sz:=2) (xs:=pcs [ps,Q].flatten) (by simp) (by omega) E
  rw[pcs_len,Nat.mul_div_cancel _ (by omega)]at h3
  have E2:=Hs.star (ls:=[_,_,_,_,_]) E
  exact go17 c1 c2 _ w_ (h3.weaken λ_ E=>(E.bIx 2).unstar) ((E2.bIx 2).bIx 2)
 refine Bi.eql ?_ ?_<;>intro e2<;>(repeat with_reducible refine Stp.go ?_)
 ·have j1:∀{α:Type} (a b:List α),joinW way a b=[b,a].flatten:=λa b=>by unfold joinW;rw[if_neg e1,if_pos e2];simp
  rw[j1,j1]at go17
  refine BdS.two E u_slslP e_slP iv1.s ilv.s ?_
  clear E
  intro s1 w_ E
  have h1:=RdS.sl (v:=s1) (T:=Ty.t13) (sz:=1) (xs:=[v1,lv]) (by simp) (by omega) E
  refine(ConcatP_ok (ps:=[Q,ps]) (RdS.cast2 h1 (by simp)) (by simp) (by simp;omega) (two_rd (g1.cons _) ((((hl.cons _).cons _).cons _).cons _)) E).mono ?_
  clear E
  intro c1 w_ E
  skip
  refine BdS.two E u_slslB e_slB iv2.s irv.s ?_
  clear E
  intro s2 w_ E
  have h2:=RdS.sl (v:=s2) (T:=Ty.t90) (sz:=1) (xs:=[v2,rv]) (by simp) (by omega) E
  refine(ConcatB_ok (ps:=[B,List.replicate ps.length mark]) (RdS.cast2 h2 (by simp)) (by simp) (by simp;omega) (two_rd (((g2.cons _).cons _).cons _) (((hrv.cons _).cons _).cons _)) E).mono ?_
  clear E
  intro c2 w_ E
  (replace E:=(((((((E.bIx 6).bIx 1).bIx 6).bIx 6).bIx 6).bIx 6).bIx 6))
  have h3:=RdS.sl (v:=c1) (T:=Ty.t0) (sz:=2) (xs:=pcs [Q,ps].flatten) (by simp) (by omega) E
  rw[pcs_len,Nat.mul_div_cancel _ (by omega)]at h3
  have E2:=Hs.star (ls:=[_,_,_,_,_]) E
  exact go17 c1 c2 _ w_ (h3.weaken λ_ E=>(E.bIx 2).unstar) ((E2.bIx 2).bIx 2)
 ·have j1:∀{α:Type} (a b:List α),joinW way a b=a:=λa b=>by unfold joinW;rw[if_neg e1,if_neg e2]
  rw[j1,j1]at go17
  exact go17 lv rv A _ (((hl.cons _).cons _).cons _) ((E.bIx 2).bIx 2)
set_option maxRecDepth 100000
set_option linter.unusedVariables false
set_option linter.unusedSimpArgs false
variable {w0 w:World} {F:Nat→Prop} {l r1 r2 r3:List As}
variable {R:List RowS} {D:List Row} {Xs:List PT} {tA:List Nat} {M:TbM} {K:SpM} {N:Int} {y:Sy}
theorem Hs.spl{a:As}(E:Hs w0 F w (a::SPl R D Xs tA M K y l)):Hs w0 F w (SPl R D Xs tA M K y (a::l)):=
 (((((((E.bIx 8).bIx 8).bIx 8).bIx 8).bIx 8).bIx 8).bIx 8).bIx 8
theorem Hs.unspl{a:As}(E:Hs w0 F w (SPl R D Xs tA M K y (a::l))):Hs w0 F w (a::SPl R D Xs tA M K y l):=E.bIx 8
theorem GoS.tl{a:As}(G:GoS w0 F (a::l) R tA M K N y w):GoS w0 F l R tA M K N y w:=by
 obtain⟨R',D',Xs',M',K',h1,h2,h3,h4,h5,E⟩:=G
 exact⟨R',D',Xs',M',K',h1,h2,h3,h4,h5,(Hs.unspl E).tl⟩
theorem Bind_okM{path old:BA}{flag:Int}(h:Fit R D Xs tA M K N y)(hp1:path.size≤1000000)(hp2:old.size≤1000000)(E:Hs w0 F w (SPl R D Xs tA M K y l)):
  Ca PP Fn.f85 #[ptr K.a,str path,str old,i64 flag] w λr w'=>r=i64 (y.bind path old flag).2∧GoS w0 F l R tA M K N (y.bind path old flag).1 w':=by
 have hinv:=bind_inv h.inv path old flag
 refine S.f85.calls ?_
 unfold S.f85
 refine Eq.ef u_p_Space rfl ?_
 repeat with_reducible refine Stp.go ?_
 refine(flags_ok E).mono ?_
 clear E
 rintro r w_ ⟨rfl,E⟩
 unfold Sy.bind at hinv ⊢
 simp only[]at hinv ⊢
 cases hf:flagOk flag with
 |false=>
  repeat with_reducible refine Stp.go ?_
  exact⟨rfl,h.same E⟩
 |true=>
 rw[hf]at hinv
 simp only[reduceCtorEq,if_false]at hinv ⊢
 repeat with_reducible refine Stp.go ?_
 refine(where_okM hp1 h.ctx0 E).mono ?_
 clear E
 rintro r w_ ⟨v,rfl,E⟩
 repeat with_reducible refine Stp.go ?_
 have hw:=where_ok h.inv path
 have hhd:(y.where_ path).2=0→((y.where_ path).1.getD 0 p0).t<y.tb.ts.length:=head_ok h.inv
 have hpl:=place_ok h.inv old
 generalize hL:y.where_ path=L at*
 refine Bi.neq ?_ ?_<;>intro he<;>(repeat with_reducible refine Stp.go ?_)
 ·rw[if_pos he]
  exact⟨rfl,h.same E.tl⟩
 rw[if_neg (λh=>h he)]at hinv ⊢
 have hne:=hw.2.2 he
 have hh:=hhd he
 refine(place_okM hp2 (h.ctx0.cons _) E).mono ?_
 clear E
 rintro r w_ ⟨rfl,E⟩
 repeat with_reducible first|refine Stp.go ?_|(refine StpW.go E ?_;clear E;intro w_ E)|(refine StpA.go E ?_;clear E;intro b_ w_ hb_ E)
 (revert b_;intro q hbq E)
 generalize hP:y.place old=p at*
 refine Bi.neq ?_ ?_<;>intro hpe<;>(repeat with_reducible refine Stp.go ?_)
 ·rw[if_pos hpe]
  exact⟨rfl,h.same E.tl.tl⟩
 rw[if_neg (λh=>h hpe)]at hinv ⊢
 have hrd:=RdS.sl (v:=v) (T:=Ty.t0) (sz:=2) (xs:=pcs L.1) (by simp) (by omega) E
 rw[pcs_len,Nat.mul_div_cancel _ (by omega)]at hrd
 have hpos:0<L.1.length:=List.length_pos_iff.2 hne
 refine hrd.ix (by omega) (by simpa using hpos) (by omega) ?_
 intro a ha
 rw[show((0:Int).toNat*2)=0*2 from rfl,pcs_drop,List.drop_eq_getElem_cons hpos]at ha
 have e0:L.1[0]=L.1.getD 0 p0:=by rw[List.getD_eq_getElem?_getD,List.getElem?_eq_getElem hpos];rfl
 rw[e0]at ha
 generalize hA:L.1.getD 0 p0=pa at*
 refine ha.lda E (m:=2) (ds:=pa.cs) rfl rfl (by omega) ?_
 refine(isDir_okM hh ((h.ctx0.cons _).cons _) E).mono ?_
 clear E
 rintro r w_ ⟨rfl,E⟩
 repeat with_reducible refine Stp.go ?_
 generalize hDA:y.isDir pa=da at*
 refine Bi.neq ?_ ?_<;>intro hda<;>(repeat with_reducible first|refine Stp.go ?_|refine StpE.go E ?_)
 ·rw[if_pos hda]
  exact⟨rfl,h.same E.tl.tl⟩
 rw[if_neg (λh=>h hda)]at hinv ⊢
 refine(isDir_okM hpl ((h.ctx0.cons _).cons _) E).mono ?_
 clear E
 rintro r w_ ⟨rfl,E⟩
 repeat with_reducible refine Stp.go ?_
 generalize hDB:y.isDir p.1=db at*
 refine Bi.neq ?_ ?_<;>intro hdb<;>(repeat with_reducible refine Stp.go ?_)
 ·rw[if_pos hdb]
  exact⟨rfl,h.same E.tl.tl⟩
 rw[if_neg (λh=>h hdb)]at hinv ⊢
 intro J34 hJ34
 have bad:∀w_,(da.1≠db.1∨(wayF flag≠0∧db.1=false))→Hs w0 F w_ (pt q (oc p.1.cs Ty.t0)::slA v Ty.t0 2 (pcs L.1)::SPl R D Xs tA M K y l)→J34 [.bool true] w_:=by
  intro w_ hb E
  refine hJ34 _ w_ λu=>Cnd.t ?_
  rw[if_pos hb]
  exact⟨rfl,h.same E.tl.tl⟩
 have good:∀w_,¬(da.1≠db.1∨(wayF flag≠0∧db.1=false))→Hs w0 F w_ (pt q (oc p.1.cs Ty.t0)::slA v Ty.t0 2 (pcs L.1)::SPl R D Xs tA M K y l)→J34 [.bool false] w_:=by
  intro w_ hb E
  refine hJ34 _ w_ λu=>Cnd.f ?_
  clear hJ34 bad
  rw[if_neg hb]at hinv ⊢
  repeat with_reducible first|refine Stp.go ?_|refine StpE.go E ?_|(refine StpW.go E ?_;clear E;intro w_ E)
  generalize p.1=pp at*
  obtain⟨s1,s2,s3,s4⟩:=stand_ok h.inv.tb hpl
  refine And.intro ?left (And.intro ?right trivial)
  case' left=>
   refine(stand_okK (M:=M) (p:=pp) (by simp) h.tb (by simp) h.inv.tb E).mono ?_
   clear E
   rintro r w_ ⟨v1,v2,kk,rfl,E,gg⟩
   replace E:=Hs.star E
   repeat with_reducible first|refine Stp.go ?_|(refine StpA.go E ?_;clear E;intro b_ w_ hb_ E)
   (revert b_;intro z hbz E)
   have iv1:Scal v1:=RdS_scal (gg _ λ_ E=>E).1
   (repeat(with_reducible refine And.intro ?_ ?_;focus ((repeat with_reducible refine StpE.go E ?_);exact rfl)))
   repeat with_reducible (refine StpW.go E ?_;clear E;intro w_ E)
  case' right=>
   repeat with_reducible (refine StpA.go E ?_;clear E;intro b_ w_ hb_ E)
   (revert b_;intro z hbz E)
   (repeat(with_reducible refine And.intro ?_ ?_;focus ((repeat with_reducible refine StpE.go E ?_);exact rfl)))
   refine(stand_okK (M:=M) (p:=pp) (by simp) h.tb (by simp) h.inv.tb E).mono ?_
   clear E
   rintro r w_ ⟨v1,v2,kk,rfl,E,gg⟩
   replace E:=Hs.star E
   have iv1:Scal v1:=RdS_scal (gg _ λ_ E=>E).1
   repeat with_reducible first|refine Stp.go ?_|(refine StpW.go E ?_;clear E;intro w_ E)
   (replace E:=((E.bIx 0).bIx 1))
  all_goals
   have g1:=(gg (pt z (oc [v1] Ty.t13)::Sh.star kk::pt q (oc pp.cs Ty.t0)::slA v Ty.t0 2 (pcs L.1)::SPl R D Xs tA M K y l) λw E=>E.tl.unstar.drop ((List.append_sublist_append_left _).2 (List.singleton_sublist.2 (by simp)))).1
   generalize hQ:(standM y.tb.ms pp).1=Q at*
   intro J52 hJ52
   have bad2:∀w_,(wayF flag≠0∧L.1.any (λx=>decide (x∈Q))=true)→Hs w0 F w_ (pt z (oc [v1] Ty.t13)::Sh.star kk::pt q (oc pp.cs Ty.t0)::slA v Ty.t0 2 (pcs L.1)::SPl R D Xs tA M K y l)→J52 [.bool true] w_:=by
    intro w_ hb E
    refine hJ52 _ w_ λu=>Cnd.t ?_
    rw[if_pos hb]
    exact⟨rfl,h.same E.tl.tl.tl.tl⟩
   have good2:∀w_,¬(wayF flag≠0∧L.1.any (λx=>decide (x∈Q))=true)→Hs w0 F w_ (pt z (oc [v1] Ty.t13)::Sh.star kk::pt q (oc pp.cs Ty.t0)::slA v Ty.t0 2 (pcs L.1)::SPl R D Xs tA M K y l)→J52 [.bool false] w_:=by
    intro w_ hb E
    refine hJ52 _ w_ λu=>Cnd.f ?_
    clear hJ52 bad2
    rw[if_neg hb]at hinv ⊢
    repeat with_reducible refine StpE.go E ?_
    replace E:=Hs.spl E.tl.tl.tl
    have hrd:=RdS.sl (v:=v) (T:=Ty.t0) (sz:=2) (xs:=pcs L.1) (by simp) (by omega) E
    rw[pcs_len,Nat.mul_div_cancel _ (by omega)]at hrd
    refine(set_okM (mark:=markF flag) (way:=wayF flag) h hpl hw.1 hrd E).mono ?_
    rintro r w' ⟨rfl,G⟩
    exact⟨rfl,(h.setG G hinv).tl⟩
   clear hJ52
   refine Bi.neq ?_ ?_<;>intro hwy<;>(repeat with_reducible refine Stp.go ?_)
   ·have hrd:=RdS.sl (v:=v) (T:=Ty.t0) (sz:=2) (xs:=pcs L.1) (by simp) (by omega) E
    rw[pcs_len,Nat.mul_div_cancel _ (by omega)]at hrd
    refine(anyP_ok (by omega) (by omega) hrd g1 E).mono ?_
    clear E
    rintro r w_ ⟨rfl,E⟩
    repeat with_reducible refine Stp.go ?_
    cases hb:L.1.any λx=>decide (x∈Q)with
    |true=>
     skip
     exact bad2 _ ⟨hwy,hb⟩ E
    |false=>
     skip
     exact good2 _ (λh=>by rw[hb]at h;cases h.2) E
   ·exact good2 _ (λh=>h.1 hwy) E
 clear hJ34
 refine Beq.mk ?_
 by_cases hab:da.1=db.1
 ·have e1:(if true=true then !(da.1 == db.1)else da.1 == db.1)=false:=by rw[hab];simp
  rw[e1]
  repeat with_reducible refine Stp.go ?_
  refine Bi.neq ?_ ?_<;>intro hwy<;>(repeat with_reducible refine Stp.go ?_)
  ·cases hb:db.1 with
   |true=>
    repeat with_reducible refine Stp.go ?_
    exact good _ (λh=>h.elim (λh=>h hab) (λh=>by rw[hb]at h;cases h.2)) E
   |false=>
    repeat with_reducible refine Stp.go ?_
    exact bad _ (.inr ⟨hwy,hb⟩) E
  ·exact good _ (λh=>h.elim (λh=>h hab) (λh=>h.1 hwy)) E
 ·have e1:(if true=true then !(da.1 == db.1)else da.1 == db.1)=true:=by simp[hab]
  rw[e1]
  repeat with_reducible refine Stp.go ?_
  exact bad _ (.inl hab) E
set_option maxRecDepth 100000
set_option linter.unusedVariables false
set_option linter.unusedSimpArgs false
variable {w0 w:World} {F:Nat→Prop} {l r1 r2 r3:List As}
theorem cut_ok(p:Pn):∃c:Nat,cutP p=(c:Int)∧c<(cleanS (sep++p.path)).size:=by
 have h1:absP (cleanS (sep++p.path))=true:=by rw[(clean_elems _).1,absP_sep]
 rw[absP_eq]at h1
 simp only[decide_eq_true_eq]at h1
 unfold cutP
 rcases Lib.lastIndexByte_spec (cleanS (sep++p.path)) 47 with⟨-,h2⟩|⟨i,h2,h3,-,-⟩
 ·have hs:0<(cleanS (sep++p.path)).size:=(List.getElem?_eq_some_iff.1 h1).1
  refine absurd ?_ (h2 0 hs)
  have h4:(cleanS (sep++p.path)).data[0]? =some 47:=by simpa using h1
  rw[getElem!_pos (cleanS (sep++p.path)).data 0 hs]
  have:=Array.getElem?_eq_some_iff.1 h4
  rw[this.2];rfl
 ·exact⟨i,h3,h2⟩
theorem joinS_len : ∀ (l : List BA),(Lib.join (l.map (·.data.toList)) sep.data.toList).length≤tot l
 | []=>by simp [Lib.join,List.intercalate]
 | [x]=>by simp [Lib.join,List.intercalate,tot]
 | x::y::r=>by
  have:=joinS_len (y::r)
  have e : Lib.join ((x::y::r).map (·.data.toList)) sep.data.toList = x.data.toList++47::Lib.join ((y::r).map (·.data.toList)) sep.data.toList:=by simp [Lib.join,List.intercalate]
  rw [e,List.length_append,List.length_cons]
  have h3 : tot (x::y::r) = x.size + 1 + tot (y::r):=by simp [tot]
  have h4 : x.data.toList.length = x.size:=by simp
  omega
theorem clean_small(s:BA):(cleanS s).size≤s.size+2:=by
 have h1:=joinS_len (elemsC s)
 have h2:=elems_tot s
 have h3:(joinS (elemsC s)).size≤tot (elemsC s):=by
  unfold joinS
  show(Lib.join _ _).toArray.size≤_
  rw[List.size_toArray];omega
 unfold cleanS
 split
 ·rw[ByteArray.size_append]
  have:sep.size=1:=rfl
  omega
 ·split
  ·show 1≤_;omega
  ·omega
theorem u_mbi:PP.underlying Ty.t32=some (.map Ty.bool Ty.int):=by kernel_rfl
theorem k_bool:KT.bool.fits PP Ty.bool=true:=by kernel_rfl
theorem z_int:zeroK PP Ty.int=some (i64 0):=by kernel_rfl
theorem LastIndexByteS_ok{s:BA}{c:Int}(hs:s.size<4611686018427387904)(E:Hs w0 F w l):Ca PP Fn.strings_LastIndexByte #[str s,.int .u8 c] w λr w'=>r=i64 (Lib.lastIndexByte s c)∧Hs w0 F w' l:=by
 refine Calls.mono (Tryz.strings_LastIndexByte s c hs w) ?_
 rintro e w' ⟨rfl,rfl⟩
 exact⟨_,rfl,rfl,E⟩
theorem Lk.mbi{b:Nat}{M:AL}{c:Bool}{v:Value}{k:Value→Prop}[h:FMp l b .bool M r1](E:Hs w0 F w l)(hv:aget M (.bool c)=some v)(hk:k v):Rd PP (Instr.lookup Ty.t32 (.map (some b)) (.bool c) false) w k:=by
 refine Lk.one E h.mem u_mbi k_bool z_int rfl ?_
 rw[hv]
 exact hk
abbrev Pn.cs(p:Pn):List Value:=[str p.path,.bool p.dir,str p.data]
abbrev ncs(ps:List Pn):List Value:=ps.flatMap Pn.cs
theorem ncs_drop(ps:List Pn):∀i:Nat,(ncs ps).drop (i*3)=ncs (ps.drop i):=by
 induction ps with
 |nil=>intro i;simp
 |cons d r ih=>
  intro i
  cases i with
  |zero=>simp
  |succ i=>
   rw[ncs,List.flatMap_cons,show(i+1)*3=i*3+3 by omega]
   simp only[Pn.cs,List.cons_append,List.nil_append,List.drop_succ_cons]
   exact ih i

theorem plant_tail{D:List Row}{X0 X:PT}{U:Tr×Int×Qd×Int}{β:Int→Nat}{N:Int}{pl:Nat}{p:Pn}{J16:List Value→World→Prop}(hT:Tie D X U.1 β)(hi:Inv U.1)(hN2:N+3<4611686018427387904)(hlim:Lim N U.1)(hX:X.t=X0.t)
  (hJ:∀D' X' β' w',(∀x∈D,x∈D')→X'.t=X0.t→Tie D' X' (if U.2.2.2≠0 then U.1 else((if p.dir=true then U.1 else(U.1.write U.2.1 0 p.data).1).close U.2.1).1) β'→Hs w0 F w' (trA X'::Pool D'::l)→J16 [] w')
  (E:Hs w0 F w (pt pl (oc p.cs Ty.t72)::trA X::Pool D::l)):
  Bi .neq (i64 U.2.2.2) (.int .i64 0) λt66=>Cnd t66 (J16 [] w) (∀J:List Value→World→Prop,(∀w78:World,(∀u:Env,Ca PP Fn.f38 #[ptr X0.t,i64 U.2.1] w78 λt79 w80=>J16 [] w80)→J [] w78)→
   Fa 1 (ptr pl) λt69=>Ld t69 w λt70=>Un .not t70 λt71=>Cnd t71 (Fa 2 (ptr pl) λt74=>Ld t74 w λt75=>Ca PP Fn.f39 #[ptr X0.t,i64 U.2.1,(.int .i64 0),t75] w λt76 w87=>J [] w87) (J [] w)):=by
 have hN:N<4611686018427387904:=by omega
 refine Bi.neq ?_ ?_<;>intro he
 ·refine Cnd.t ?_
  rw[if_pos he]at hJ
  exact hJ D X β w (λ_ h=>h) hX hT E.tl
 refine Cnd.f ?_
 rw[if_neg (λh=>h he)]at hJ
 intro J hJ1
 have go:∀(T:Tr) w_ (D':List Row) X' β',(∀x∈D,x∈D')→X'.t=X0.t→T=(if p.dir=true then U.1 else(U.1.write U.2.1 0 p.data).1)→Tie D' X' T β'→Inv T→Lim (N+3) T→Hs w0 F w_ (trA X'::Pool D'::l)→J [] w_:=by
  intro T w_ D' X' β' hD hx hTe hT hi hlim E
  refine hJ1 w_ λu=>?_
  rw[← hx]
  refine(Close_ok hT hi hN2 hlim E).mono ?_
  rintro r w' ⟨rfl,D2,X2,β2,hD2,hX2,hT2,E⟩
  exact hJ D2 X2 β2 w' (λx hx=>hD2 x (hD x hx)) (hX2.trans hx) (by rw[← hTe];exact hT2) E
 clear hJ1
 repeat with_reducible first|refine Stp.go ?_|refine StpE.go E ?_
 cases hd:p.dir with
 |true=>
  repeat with_reducible refine Stp.go ?_
  exact go U.1 _ D X β (λ_ h=>h) hX (by rw[hd];rfl) hT hi (hlim.mono (by omega)) E.tl
 |false=>
  repeat with_reducible first|refine Stp.go ?_|refine StpE.go E ?_
  rw[← hX]
  refine(Write_ok hT hi hN hlim E.tl).mono ?_
  rintro r w' ⟨rfl,D2,X2,β2,hD2,hX2,hT2,E⟩
  exact go _ _ D2 X2 β2 hD2 (hX2.trans hX) (by rw[hd];rfl) hT2 (write_inv hi _ _ _) (write_lim hlim _ _ _) E
set_option maxHeartbeats 4000000 in
theorem grow_okM{D:List Row}{v:Value}{ps:List Pn}(hv:RdS w0 F l 3 ps.length v (ncs ps))(hn:ps.length≤12)(hs:∀p∈ps,p.path.size≤1000)(E:Hs w0 F w (Pool D::l)):
  Ca PP Fn.law29_grow #[v] w λr w'=>∃D' X β,r=ptr X.t∧(∀x∈D,x∈D')∧Tie D' X (growT ps) β∧Hs w0 F w' (trA X::Pool D'::l):=by
 refine S.law29_grow.calls ?_
 unfold S.law29_grow
 refine(New_ok (gin_nil _ rfl) (Nat.zero_le _) (λg hg=>by cases hg) (λs hs=>by
  simp only[gwords,List.flatMap_nil,List.append_nil,List.mem_singleton]at hs
  subst hs
  decide) E).mono ?_
 clear E
 rintro r w_ (⟨h,_⟩|⟨_,D1,X1,β1,rfl,hD1,hT1,hi1,E⟩)
 ·rw[checkG_ann]at h;exact absurd rfl h
 repeat with_reducible refine Stp.go ?_
 generalize hta:X1.t=ta at*
 intro J5 hJ5
 have go5:J5 [.bool false] w_:=by
  refine hJ5 _ _ λu=>Cnd.f ?_
  clear hJ5
  refine hv.len ?_
  refine⟨λl1 w1=>∃(i:Nat) (D':List Row) (X:PT) (β:Int→Nat),l1=[i64 i]∧i≤ps.length∧X.t=ta∧(∀x∈D,x∈D')∧Tie D' X ((ps.take i).foldl plantT (newT ann [])) β∧Hs w0 F w1 (trA X::Pool D'::l),λl1 _=>match l1 with|[.int _ i]=>ps.length-i.toNat|_=>0,⟨0,D1,X1,β1,rfl,Nat.zero_le _,hta,hD1,hT1,E⟩,?_⟩
  clear E
  clear hT1 hi1 hD1 hta
  rintro t26 u1 w1 ⟨i,D1,X,β,e,hi0,hxt,hD1,hT,E⟩
  cases e
  refine Bi.lss ?_ ?_<;>intro hlt
  ·refine Cnd.t ?_
   have hi1:i<ps.length:=by omega
   obtain⟨hi,hlim⟩:=plants_ok (l:=ps.take i) (newT_inv (owner:=ann) (gs:=[]) ((checkG_zero checkG_ann).2.2.1 ann (by simp))) (by omega) (newT_lim ann [])
   have hlim:Lim 200 ((ps.take i).foldl plantT (newT ann [])):=hlim.mono (by rw[List.length_take];omega)
   have htk:(ps.take (i+1)).foldl plantT (newT ann [])=plantT ((ps.take i).foldl plantT (newT ann [])) ps[i]:=by
    rw[List.take_add_one,List.getElem?_eq_getElem hi1,List.foldl_append,Option.toList_some,List.foldl_cons,List.foldl_nil]
   have hps:=hs _ (List.getElem_mem hi1)
   intro J16 hJ16
   replace hJ16:∀D' X' β' w',(∀x∈D1,x∈D')→X'.t=X.t→Tie D' X' (plantT ((ps.take i).foldl plantT (newT ann [])) ps[i]) β'→Hs w0 F w' (trA X'::Pool D'::l)→J16 [] w':=by
    intro D' X' β' w' h1 h2 h3 E
    refine hJ16 w' λu=>?_
    refine Bi.add (by omega) ?_
    exact⟨⟨i+1,D',X',β',by simp,by omega,h2.trans hxt,λx hx=>h1 x (hD1 x hx),by rw[htk];exact h3,E⟩,by simp only[];omega⟩
   refine((hv.cons (Pool D1)).cons (trA X)).ix (by omega) (by omega) (by omega) ?_
   intro a ha
   rw[Int.toNat_natCast,ncs_drop,List.drop_eq_getElem_cons hi1]at ha
   refine ha.lda E (m:=3) (ds:=ps[i].cs) rfl rfl (by omega) ?_
   clear ha htk
   subst hxt
   generalize (ps.take i).foldl plantT (newT ann [])=T at*
   generalize ps[i]=p at*
   repeat with_reducible first|refine Stp.go ?_|refine StpE.go E ?_|(refine StpW.go E ?_;clear E;intro w_ E)|(refine StpA.go E ?_;clear E;intro b_ w_ hb_ E)
   (revert b_;intro pl hbpl E)
   skip
   refine Bi.sadd (by show 1+p.path.size≤_;omega) ?_
   refine(Clean_ok (by rw[ByteArray.size_append];show 1+p.path.size≤_;omega) E).mono ?_
   clear E
   rintro r w_ ⟨rfl,E⟩
   obtain⟨c,hc1,hc2⟩:=cut_ok p
   have hcs:(cleanS (sep++p.path)).size<4611686018427387904:=by
    have:=clean_small (sep++p.path)
    have:(sep++p.path).size=1+p.path.size:=by rw[ByteArray.size_append];rfl
    omega
   refine(LastIndexByteS_ok hcs E).mono ?_
   clear E
   rintro r w_ ⟨rfl,E⟩
   have hcut:Lib.lastIndexByte (cleanS (sep++p.path)) 47=(c:Int):=hc1
   rw[show Lib.lastIndexByte (cleanS (⟨#[47]⟩++p.path)) 47=(c:Int)from hcut]
   refine Mx.mk ?_
   have hmx:(if(1:Int)>(c:Int)then(1:Int)else c)=max (c:Int) 1:=by split<;>omega
   rw[hmx]
   refine SlS.pre (by omega) (by show(max (c:Int) 1).toNat≤(cleanS (sep++p.path)).size;omega) ?_
   have hup:ByteArray.extract (cleanS (⟨#[47]⟩++p.path)) 0 (max (c:Int) 1).toNat=upP p:=by unfold upP;rw[hc1]
   rw[hup]
   replace E:=E.bIx 1
   refine(Find_ok hT hi E).mono ?_
   clear E
   rintro r w_ ⟨rfl,E⟩
   unfold plantT at hJ16
   simp only[]at hJ16
   have hnm:ByteArray.extract (cleanS (⟨#[47]⟩++p.path)) ((c:Int)+1).toNat (cleanS (⟨#[47]⟩++p.path)).size=nameP p:=by unfold nameP;rw[hc1]
   have hns:(nameP p).size≤9223372036854775807:=by
    rw[← hnm,ByteArray.size_extract]
    have:(cleanS (⟨#[47]⟩++p.path)).size<4611686018427387904:=hcs
    omega
   have hsuf:((c:Int)+1).toNat≤(cleanS (⟨#[47]⟩++p.path)).size:=by
    show _≤(cleanS (sep++p.path)).size
    omega
   generalize nameP p=nm at*
   generalize T.find (upP p)=fq at*
   generalize cleanS (⟨#[47]⟩++p.path)=cs at*
   repeat with_reducible first|refine Stp.go ?_|(refine StpW.go E ?_;clear E;intro w_ E)|(refine StpA.go E ?_;clear E;intro b_ w_ hb_ E)
   (revert b_;intro q hbq E)
   replace E:=(E.bIx 2).bIx 1
   refine Bi.neq ?_ ?_<;>intro he
   ·refine Cnd.t ?_
    rw[if_pos he]at hJ16
    exact hJ16 D1 X β _ (λ_ h=>h) rfl hT E.tl.tl
   refine Cnd.f ?_
   rw[if_neg (λh=>h he)]at hJ16
   intro J42 hJ42
   have go42:∀b:Int,b=(if p.dir=true then 2147484159 else 438)→J42 [i64 b] w_:=by
    intro b hb
    refine hJ42 _ w_ λu=>?_
    rw[← hb]at hJ16
    clear hJ42 J42
    have hN:(200:Int)<4611686018427387904:=by omega
    have hN3:(200:Int)+3+3<4611686018427387904:=by omega
    have h0:(0:Int)≤200:=by omega
    repeat with_reducible first|refine Stp.go ?_|refine StpE.go E ?_|(refine StpW.go E ?_;clear E;intro w_ E)
    refine Bi.add (by omega) ?_
    refine SlS.suf (by omega) hsuf ?_
    rw[hnm]
    repeat with_reducible first|refine Stp.go ?_|refine StpE.go E ?_
    refine And.intro ?_ (And.intro ?_ trivial)
    ·refine MkM.pt (kt:=.bool) E ?_
     clear E
     intro mm w_ hmm_ E
     (repeat(with_reducible refine And.intro ?_ ?_;focus ((repeat with_reducible refine StpE.go E ?_);exact rfl)))
     refine And.intro ?_ (And.intro ?_ (And.intro ?_ trivial))
     ·refine Mu.by E u_mbi k_bool rfl ?_
      clear E
      intro w_ E
      (try simp only[List.set_cons_zero,List.set_cons_succ,List.cons_append,List.nil_append,Nat.zero_add,Nat.add_zero]at E)
      (repeat(with_reducible refine And.intro ?_ ?_;focus ((repeat with_reducible refine StpE.go E ?_);exact rfl)))
      refine And.intro ?_ (And.intro ?_ trivial)
      ·refine Mu.by E u_mbi k_bool rfl ?_
       clear E
       intro w_ E
       (try simp only[List.set_cons_zero,List.set_cons_succ,List.cons_append,List.nil_append,Nat.zero_add,Nat.add_zero]at E)
       (repeat(with_reducible refine And.intro ?_ ?_;focus ((repeat with_reducible refine StpE.go E ?_);exact rfl)))
       have hlk:aget (aput (aput [] (.bool true) (i64 0)) (.bool false) (i64 1)) (.bool p.dir)=some (i64 (if p.dir=true then 0 else 1)):=by cases p.dir<;>rfl
       refine Lk.mbi E hlk ?_
       skip
       refine And.intro ?_ (And.intro ?_ trivial)
       ·replace E:=E.bIx 4
        replace E:=E.bIx 4
        refine(Create_ok hT hi hN hlim (by decide) (by omega) E).mono ?_
        clear E
        rintro r w_ ⟨rfl,D2,X2,β2,hD2,hX2,hT2,E⟩
        repeat with_reducible first|refine Stp.go ?_|(refine StpA.go E ?_;clear E;intro b_ w_ hb_ E)
        skip
        (revert b_;intro z hbz E)
        (repeat(with_reducible refine And.intro ?_ ?_;focus ((repeat with_reducible refine StpE.go E ?_);exact rfl)))
        refine And.intro (Lk.mbi E hlk rfl) ?_
        repeat with_reducible (refine StpW.go E ?_;clear E;intro w_ E)
        exact plant_tail hT2 (create_inv hi _ _ _ _ _) hN3 (create_lim hlim h0 _ _ _ _ _) hX2 (λD' X' β' w' h1=>hJ16 D' X' β' w' λx hx=>h1 x (hD2 x hx)) (((((((E.bIx 2).bIx 2).bIx 5).bIx 3).tl.bIx 3).tl.bIx 3).tl)
       ·(repeat with_reducible (refine StpA.go E ?_;clear E;intro b_ w_ hb_ E))
        (revert b_;intro z hbz E)
        (repeat(with_reducible refine And.intro ?_ ?_;focus ((repeat with_reducible refine StpE.go E ?_);exact rfl)))
        refine And.intro (Lk.mbi E hlk rfl) ?_
        replace E:=E.bIx 5
        replace E:=E.bIx 5
        refine(Create_ok hT hi hN hlim (by decide) (by omega) E).mono ?_
        clear E
        rintro r w_ ⟨rfl,D2,X2,β2,hD2,hX2,hT2,E⟩
        repeat with_reducible first|refine Stp.go ?_|(refine StpW.go E ?_;clear E;intro w_ E)
        skip
        exact plant_tail hT2 (create_inv hi _ _ _ _ _) hN3 (create_lim hlim h0 _ _ _ _ _) hX2 (λD' X' β' w' h1=>hJ16 D' X' β' w' λx hx=>h1 x (hD2 x hx)) (((((((E.bIx 1).bIx 1).bIx 5).bIx 3).tl.bIx 3).tl.bIx 3).tl)
      ·(repeat with_reducible (refine StpA.go E ?_;clear E;intro b_ w_ hb_ E))
       (revert b_;intro z hbz E)
       (repeat(with_reducible refine And.intro ?_ ?_;focus ((repeat with_reducible refine StpE.go E ?_);exact rfl)))
       refine Mu.by E u_mbi k_bool rfl ?_
       clear E
       intro w_ E
       (try simp only[List.set_cons_zero,List.set_cons_succ,List.cons_append,List.nil_append,Nat.zero_add,Nat.add_zero]at E)
       (repeat(with_reducible refine And.intro ?_ ?_;focus ((repeat with_reducible refine StpE.go E ?_);exact rfl)))
       have hlk:aget (aput (aput [] (.bool true) (i64 0)) (.bool false) (i64 1)) (.bool p.dir)=some (i64 (if p.dir=true then 0 else 1)):=by cases p.dir<;>rfl
       refine Lk.mbi E hlk ?_
       skip
       replace E:=E.bIx 5
       replace E:=E.bIx 5
       refine(Create_ok hT hi hN hlim (by decide) (by omega) E).mono ?_
       clear E
       rintro r w_ ⟨rfl,D2,X2,β2,hD2,hX2,hT2,E⟩
       repeat with_reducible first|refine Stp.go ?_|(refine StpW.go E ?_;clear E;intro w_ E)
       skip
       exact plant_tail hT2 (create_inv hi _ _ _ _ _) hN3 (create_lim hlim h0 _ _ _ _ _) hX2 (λD' X' β' w' h1=>hJ16 D' X' β' w' λx hx=>h1 x (hD2 x hx)) (((((((E.bIx 1).bIx 1).bIx 5).bIx 3).tl.bIx 3).tl.bIx 3).tl)
     ·refine Mu.by E u_mbi k_bool rfl ?_
      clear E
      intro w_ E
      (try simp only[List.set_cons_zero,List.set_cons_succ,List.cons_append,List.nil_append,Nat.zero_add,Nat.add_zero]at E)
      (repeat(with_reducible refine And.intro ?_ ?_;focus ((repeat with_reducible refine StpE.go E ?_);exact rfl)))
      refine And.intro ?_ (And.intro ?_ trivial)
      ·refine Mu.by E u_mbi k_bool rfl ?_
       clear E
       intro w_ E
       (try simp only[List.set_cons_zero,List.set_cons_succ,List.cons_append,List.nil_append,Nat.zero_add,Nat.add_zero]at E)
       (repeat(with_reducible refine And.intro ?_ ?_;focus ((repeat with_reducible refine StpE.go E ?_);exact rfl)))
       have hlk:aget (aput (aput [] (.bool false) (i64 1)) (.bool true) (i64 0)) (.bool p.dir)=some (i64 (if p.dir=true then 0 else 1)):=by cases p.dir<;>rfl
       refine Lk.mbi E hlk ?_
       skip
       refine And.intro ?_ (And.intro ?_ trivial)
       ·replace E:=E.bIx 4
        replace E:=E.bIx 4
        refine(Create_ok hT hi hN hlim (by decide) (by omega) E).mono ?_
        clear E
        rintro r w_ ⟨rfl,D2,X2,β2,hD2,hX2,hT2,E⟩
        repeat with_reducible first|refine Stp.go ?_|(refine StpA.go E ?_;clear E;intro b_ w_ hb_ E)
        skip
        (revert b_;intro z hbz E)
        (repeat(with_reducible refine And.intro ?_ ?_;focus ((repeat with_reducible refine StpE.go E ?_);exact rfl)))
        refine And.intro (Lk.mbi E hlk rfl) ?_
        repeat with_reducible (refine StpW.go E ?_;clear E;intro w_ E)
        exact plant_tail hT2 (create_inv hi _ _ _ _ _) hN3 (create_lim hlim h0 _ _ _ _ _) hX2 (λD' X' β' w' h1=>hJ16 D' X' β' w' λx hx=>h1 x (hD2 x hx)) (((((((E.bIx 2).bIx 2).bIx 5).bIx 3).tl.bIx 3).tl.bIx 3).tl)
       ·(repeat with_reducible (refine StpA.go E ?_;clear E;intro b_ w_ hb_ E))
        (revert b_;intro z hbz E)
        (repeat(with_reducible refine And.intro ?_ ?_;focus ((repeat with_reducible refine StpE.go E ?_);exact rfl)))
        refine And.intro (Lk.mbi E hlk rfl) ?_
        replace E:=E.bIx 5
        replace E:=E.bIx 5
        refine(Create_ok hT hi hN hlim (by decide) (by omega) E).mono ?_
        clear E
        rintro r w_ ⟨rfl,D2,X2,β2,hD2,hX2,hT2,E⟩
        repeat with_reducible first|refine Stp.go ?_|(refine StpW.go E ?_;clear E;intro w_ E)
        skip
        exact plant_tail hT2 (create_inv hi _ _ _ _ _) hN3 (create_lim hlim h0 _ _ _ _ _) hX2 (λD' X' β' w' h1=>hJ16 D' X' β' w' λx hx=>h1 x (hD2 x hx)) (((((((E.bIx 1).bIx 1).bIx 5).bIx 3).tl.bIx 3).tl.bIx 3).tl)
      ·(repeat with_reducible (refine StpA.go E ?_;clear E;intro b_ w_ hb_ E))
       (revert b_;intro z hbz E)
       (repeat(with_reducible refine And.intro ?_ ?_;focus ((repeat with_reducible refine StpE.go E ?_);exact rfl)))
       refine Mu.by E u_mbi k_bool rfl ?_
       clear E
       intro w_ E
       (try simp only[List.set_cons_zero,List.set_cons_succ,List.cons_append,List.nil_append,Nat.zero_add,Nat.add_zero]at E)
       (repeat(with_reducible refine And.intro ?_ ?_;focus ((repeat with_reducible refine StpE.go E ?_);exact rfl)))
       have hlk:aget (aput (aput [] (.bool false) (i64 1)) (.bool true) (i64 0)) (.bool p.dir)=some (i64 (if p.dir=true then 0 else 1)):=by cases p.dir<;>rfl
       refine Lk.mbi E hlk ?_
       skip
       replace E:=E.bIx 5
       replace E:=E.bIx 5
       refine(Create_ok hT hi hN hlim (by decide) (by omega) E).mono ?_
       clear E
       rintro r w_ ⟨rfl,D2,X2,β2,hD2,hX2,hT2,E⟩
       repeat with_reducible first|refine Stp.go ?_|(refine StpW.go E ?_;clear E;intro w_ E)
       skip
       exact plant_tail hT2 (create_inv hi _ _ _ _ _) hN3 (create_lim hlim h0 _ _ _ _ _) hX2 (λD' X' β' w' h1=>hJ16 D' X' β' w' λx hx=>h1 x (hD2 x hx)) (((((((E.bIx 1).bIx 1).bIx 5).bIx 3).tl.bIx 3).tl.bIx 3).tl)
     ·(repeat with_reducible (refine StpA.go E ?_;clear E;intro b_ w_ hb_ E))
      (revert b_;intro z hbz E)
      (repeat(with_reducible refine And.intro ?_ ?_;focus ((repeat with_reducible refine StpE.go E ?_);exact rfl)))
      refine And.intro ?_ (And.intro ?_ trivial)
      ·refine Mu.by E u_mbi k_bool rfl ?_
       clear E
       intro w_ E
       (try simp only[List.set_cons_zero,List.set_cons_succ,List.cons_append,List.nil_append,Nat.zero_add,Nat.add_zero]at E)
       (repeat(with_reducible refine And.intro ?_ ?_;focus ((repeat with_reducible refine StpE.go E ?_);exact rfl)))
       refine Mu.by E u_mbi k_bool rfl ?_
       clear E
       intro w_ E
       (try simp only[List.set_cons_zero,List.set_cons_succ,List.cons_append,List.nil_append,Nat.zero_add,Nat.add_zero]at E)
       (repeat(with_reducible refine And.intro ?_ ?_;focus ((repeat with_reducible refine StpE.go E ?_);exact rfl)))
       have hlk:aget (aput (aput [] (.bool true) (i64 0)) (.bool false) (i64 1)) (.bool p.dir)=some (i64 (if p.dir=true then 0 else 1)):=by cases p.dir<;>rfl
       refine Lk.mbi E hlk ?_
       skip
       replace E:=E.bIx 5
       replace E:=E.bIx 5
       refine(Create_ok hT hi hN hlim (by decide) (by omega) E).mono ?_
       clear E
       rintro r w_ ⟨rfl,D2,X2,β2,hD2,hX2,hT2,E⟩
       repeat with_reducible first|refine Stp.go ?_|(refine StpW.go E ?_;clear E;intro w_ E)
       skip
       exact plant_tail hT2 (create_inv hi _ _ _ _ _) hN3 (create_lim hlim h0 _ _ _ _ _) hX2 (λD' X' β' w' h1=>hJ16 D' X' β' w' λx hx=>h1 x (hD2 x hx)) (((((((E.bIx 1).bIx 1).bIx 5).bIx 3).tl.bIx 3).tl.bIx 3).tl)
      ·refine Mu.by E u_mbi k_bool rfl ?_
       clear E
       intro w_ E
       (try simp only[List.set_cons_zero,List.set_cons_succ,List.cons_append,List.nil_append,Nat.zero_add,Nat.add_zero]at E)
       (repeat(with_reducible refine And.intro ?_ ?_;focus ((repeat with_reducible refine StpE.go E ?_);exact rfl)))
       refine Mu.by E u_mbi k_bool rfl ?_
       clear E
       intro w_ E
       (try simp only[List.set_cons_zero,List.set_cons_succ,List.cons_append,List.nil_append,Nat.zero_add,Nat.add_zero]at E)
       (repeat(with_reducible refine And.intro ?_ ?_;focus ((repeat with_reducible refine StpE.go E ?_);exact rfl)))
       have hlk:aget (aput (aput [] (.bool false) (i64 1)) (.bool true) (i64 0)) (.bool p.dir)=some (i64 (if p.dir=true then 0 else 1)):=by cases p.dir<;>rfl
       refine Lk.mbi E hlk ?_
       skip
       replace E:=E.bIx 5
       replace E:=E.bIx 5
       refine(Create_ok hT hi hN hlim (by decide) (by omega) E).mono ?_
       clear E
       rintro r w_ ⟨rfl,D2,X2,β2,hD2,hX2,hT2,E⟩
       repeat with_reducible first|refine Stp.go ?_|(refine StpW.go E ?_;clear E;intro w_ E)
       skip
       exact plant_tail hT2 (create_inv hi _ _ _ _ _) hN3 (create_lim hlim h0 _ _ _ _ _) hX2 (λD' X' β' w' h1=>hJ16 D' X' β' w' λx hx=>h1 x (hD2 x hx)) (((((((E.bIx 1).bIx 1).bIx 5).bIx 3).tl.bIx 3).tl.bIx 3).tl)
    ·(repeat with_reducible (refine StpA.go E ?_;clear E;intro b_ w_ hb_ E))
     (revert b_;intro z hbz E)
     (repeat(with_reducible refine And.intro ?_ ?_;focus ((repeat with_reducible refine StpE.go E ?_);exact rfl)))
     refine MkM.pt (kt:=.bool) E ?_
     clear E
     intro mm w_ hmm_ E
     (repeat(with_reducible refine And.intro ?_ ?_;focus ((repeat with_reducible refine StpE.go E ?_);exact rfl)))
     refine And.intro ?_ (And.intro ?_ trivial)
     ·refine Mu.by E u_mbi k_bool rfl ?_
      clear E
      intro w_ E
      (try simp only[List.set_cons_zero,List.set_cons_succ,List.cons_append,List.nil_append,Nat.zero_add,Nat.add_zero]at E)
      (repeat(with_reducible refine And.intro ?_ ?_;focus ((repeat with_reducible refine StpE.go E ?_);exact rfl)))
      refine Mu.by E u_mbi k_bool rfl ?_
      clear E
      intro w_ E
      (try simp only[List.set_cons_zero,List.set_cons_succ,List.cons_append,List.nil_append,Nat.zero_add,Nat.add_zero]at E)
      (repeat(with_reducible refine And.intro ?_ ?_;focus ((repeat with_reducible refine StpE.go E ?_);exact rfl)))
      have hlk:aget (aput (aput [] (.bool true) (i64 0)) (.bool false) (i64 1)) (.bool p.dir)=some (i64 (if p.dir=true then 0 else 1)):=by cases p.dir<;>rfl
      refine Lk.mbi E hlk ?_
      skip
      replace E:=E.bIx 5
      replace E:=E.bIx 5
      refine(Create_ok hT hi hN hlim (by decide) (by omega) E).mono ?_
      clear E
      rintro r w_ ⟨rfl,D2,X2,β2,hD2,hX2,hT2,E⟩
      repeat with_reducible first|refine Stp.go ?_|(refine StpW.go E ?_;clear E;intro w_ E)
      skip
      exact plant_tail hT2 (create_inv hi _ _ _ _ _) hN3 (create_lim hlim h0 _ _ _ _ _) hX2 (λD' X' β' w' h1=>hJ16 D' X' β' w' λx hx=>h1 x (hD2 x hx)) (((((((E.bIx 1).bIx 1).bIx 5).bIx 3).tl.bIx 3).tl.bIx 3).tl)
     ·refine Mu.by E u_mbi k_bool rfl ?_
      clear E
      intro w_ E
      (try simp only[List.set_cons_zero,List.set_cons_succ,List.cons_append,List.nil_append,Nat.zero_add,Nat.add_zero]at E)
      (repeat(with_reducible refine And.intro ?_ ?_;focus ((repeat with_reducible refine StpE.go E ?_);exact rfl)))
      refine Mu.by E u_mbi k_bool rfl ?_
      clear E
      intro w_ E
      (try simp only[List.set_cons_zero,List.set_cons_succ,List.cons_append,List.nil_append,Nat.zero_add,Nat.add_zero]at E)
      (repeat(with_reducible refine And.intro ?_ ?_;focus ((repeat with_reducible refine StpE.go E ?_);exact rfl)))
      have hlk:aget (aput (aput [] (.bool false) (i64 1)) (.bool true) (i64 0)) (.bool p.dir)=some (i64 (if p.dir=true then 0 else 1)):=by cases p.dir<;>rfl
      refine Lk.mbi E hlk ?_
      skip
      replace E:=E.bIx 5
      replace E:=E.bIx 5
      refine(Create_ok hT hi hN hlim (by decide) (by omega) E).mono ?_
      clear E
      rintro r w_ ⟨rfl,D2,X2,β2,hD2,hX2,hT2,E⟩
      repeat with_reducible first|refine Stp.go ?_|(refine StpW.go E ?_;clear E;intro w_ E)
      skip
      exact plant_tail hT2 (create_inv hi _ _ _ _ _) hN3 (create_lim hlim h0 _ _ _ _ _) hX2 (λD' X' β' w' h1=>hJ16 D' X' β' w' λx hx=>h1 x (hD2 x hx)) (((((((E.bIx 1).bIx 1).bIx 5).bIx 3).tl.bIx 3).tl.bIx 3).tl)
   clear hJ42
   repeat with_reducible first|refine Stp.go ?_|refine StpE.go E ?_
   cases hd:p.dir with
   |true=>
    repeat with_reducible refine Stp.go ?_
    exact go42 _ (by rw[hd];rfl)
   |false=>
    repeat with_reducible refine Stp.go ?_
    exact go42 _ (by rw[hd];rfl)
  ·refine Cnd.f ?_
   have hie:i=ps.length:=by omega
   rw[hie,List.take_length]at hT
   exact⟨D1,X,β,by rw[hxt],hD1,hT,E⟩
 clear hJ5
 refine Bi.neq (λh=>absurd rfl h) (λ_=>?_)
 repeat with_reducible refine Stp.go ?_
 refine Eq.ef u_p_tree rfl ?_
 repeat with_reducible refine Stp.go ?_
 exact go5
set_option maxRecDepth 100000
set_option linter.unusedVariables false
set_option linter.unusedSimpArgs false
variable {w0 w:World} {F:Nat→Prop} {l r1 r2 r3:List As}
theorem iT_ne{a:Nat}{x y:Operand}{k:Value→Prop}(hk:k (.bool false)):Rd PP (eqS .eql Ty.api_Tree x y (iT a) .nilIface) w k:=⟨.bool false,by kernel_rfl,hk⟩
theorem u_sl_api_Tree:PP.underlying Ty.sl_api_Tree=some (.slice Ty.api_Tree):=by kernel_rfl
theorem e_api_Tree:el3 PP Ty.api_Tree=some (some .nilIface,1,16):=by kernel_rfl
theorem NewS_ok{user:BA}{a:Nat}(E:Hs w0 F w l):Ca PP Fn.space_New #[str user,iT a] w λr w'=>∃ka om ma tv,r=.tuple #[ptr ka,i64 0]∧
  Hs w0 F w' (pt ka (oc [ptr ma,str user,str sep,.map (some om)] Ty.space_Space)::mp om (.int .i64) []::pt ma (oc [tv,.slice none 0 0] Ty.space_table)::slA tv Ty.api_Tree 1 [iT a]::l):=by
 refine S.space_New.calls ?_
 unfold S.space_New
 refine iT_ne ?_
 repeat with_reducible refine Stp.go ?_
 refine BdS.one E u_sl_api_Tree e_api_Tree rfl ?_
 clear E
 intro tv w_ E
 repeat with_reducible first|refine StpE.go E ?_|(refine StpA.go E ?_;clear E;intro b_ w_ hb_ E)
 (revert b_;intro ma hbma E)
 refine MkM.pt (kt:=.int .i64) E ?_
 clear E
 intro om w_ hom_ E
 repeat with_reducible first|refine StpE.go E ?_|(refine StpA.go E ?_;clear E;intro b_ w_ hb_ E)
 (revert b_;intro ka hbka E)
 exact⟨ka,om,ma,tv,rfl,E⟩
theorem u_sl_p_Tree:PP.underlying Ty.t80=some (.slice Ty.t1):=by kernel_rfl
theorem e_p_Tree:el3 PP Ty.t1=some (some (.pointer none),1,8):=by kernel_rfl
theorem Wo.snoc{D D':List Row}{tA:List Nat}{Xs:List PT}{Ts:List Tr}{X:PT}{T:Tr}{β:Int→Nat}(h:Wo D tA Xs Ts)(hD:∀x∈D,x∈D')(hT:Tie D' X T β):Wo D' (tA++[X.t]) (Xs++[X]) (Ts++[T]):=by
 refine⟨by rw[List.map_append,h.adr];rfl,by simp[h.len],λk X2 T2 h1 h2=>?_⟩
 by_cases hk:k<Xs.length
 ·rw[List.getElem?_append_left hk]at h1
  rw[List.getElem?_append_left (by rw[← h.len];exact hk)]at h2
  obtain⟨b,hb⟩:=h.tie k X2 T2 h1 h2
  exact⟨b,hb.monoD hD⟩
 ·rw[List.getElem?_append_right (by omega)]at h1
  rw[List.getElem?_append_right (by rw[← h.len];omega),← h.len]at h2
  have e:k-Xs.length=0:=by
   have:=(List.getElem?_eq_some_iff.1 h1).1
   simp at this
   omega
  rw[e]at h1 h2
  cases h1;cases h2
  exact⟨β,hT⟩
theorem Hs.wdSnoc{Xs:List PT}{X:PT}(E:Hs w0 F w (wdA Xs::trA X::l)):Hs w0 F w (wdA (Xs++[X])::l):=by
 have E1:=Hs.unstar E
 unfold wdA
 rw[List.map_append]
 refine Hs.star ?_
 rw[List.append_assoc]
 exact E1

structure PlsIn(w0:World)(F:Nat→Prop)(l:List As)(v:Value)(vs:List Value)(pls:List (List Pn)):Prop where
 v:RdS w0 F l 1 pls.length v vs
 row:∀(i:Nat) x ps,vs[i]? =some x→pls[i]? =some ps→RdS w0 F l 3 ps.length x (ncs ps)
abbrev wrO(k:Value)(tv:Value):Obj:=oc [k,tv] Ty.law29_World
theorem made_okM{D:List Row}{user:BA}{pv:Value}{vs:List Value}{pls:List (List Pn)}(hp:PlsIn w0 F l pv vs pls)(hu:user.size≤100)(h0:pls≠[])(h4:pls.length≤4)(h12:∀ps∈pls,ps.length≤12)(hs:∀ps∈pls,∀p∈ps,p.path.size≤1000)(E:Hs w0 F w (Pool D::l)):
  Ca PP Fn.law29_made #[.agg #[str user,pv]] w λr w'=>∃a R D' Xs tA M K tv,r=ptr a∧tA.length=pls.length∧Fit R D' Xs tA M K 200 (madeY user pls)∧
   Hs w0 F w' (pt a (wrO (ptr K.a) tv)::slA tv Ty.t1 1 (tA.map ptr)::SPl R D' Xs tA M K (madeY user pls) l):=by
 refine S.law29_made.calls ?_
 unfold S.law29_made
 have hvl:vs.length=pls.length:=by obtain⟨_,_,_,_,h1,_⟩:=hp.v;omega
 have ipv:Scal pv:=RdS_scal hp.v
 refine StpA.go E ?_
 clear E
 intro t1 w_ h1_ E
 repeat with_reducible first|refine Stp.go ?_|refine StpE.go E ?_|(refine StpA.go E ?_;clear E;intro b_ w_ hb_ E)
 (revert b_;intro a hba E)
 refine hp.v.len ?_
 have E0:Hs w0 F w_ (slA (.slice none 0 0) Ty.t1 1 []::wdA []::pt a (wrO (.pointer none) (.slice none 0 0))::pt t1 (oc [str user,pv] Ty.t49)::Pool D::l):=Hs.nilSl (Hs.starNil E) _ _
 clear E
 have hgl:∀i,((pls.take i).map growT).length≤4:=λi=>by rw[List.length_map,List.length_take];omega
 refine⟨λl1 w1=>∃(i:Nat) (D':List Row) (Xs:List PT) (tA:List Nat) (tv:Value),l1=[i64 i]∧i≤pls.length∧tA.length=i∧Wo D' tA Xs ((pls.take i).map growT)∧Hs w0 F w1 (slA tv Ty.t1 1 (tA.map ptr)::wdA Xs::pt a (wrO (.pointer none) tv)::pt t1 (oc [str user,pv] Ty.t49)::Pool D'::l),λl1 _=>match l1 with|[.int _ i]=>pls.length-i.toNat|_=>0,
  ⟨0,D,[],[],.slice none 0 0,rfl,Nat.zero_le _,rfl,⟨rfl,rfl,λk X T h=>by simp at h⟩,E0⟩,?_⟩
 clear E0
 rintro t14 u1 w1 ⟨i,D',Xs,tA,tv,e,hi,hta,hW,E⟩
 cases e
 refine Bi.lss ?_ ?_<;>intro hlt
 ·refine Cnd.t ?_
  have hi1:i<pls.length:=by omega
  refine hp.v.ix (by omega) (by omega) (by omega) ?_
  intro b hb
  rw[Int.toNat_natCast,Nat.mul_one]at hb
  refine(hb.weaken λ_ E=>E.tl.tl.tl.tl.tl).ld E (x:=vs[i]'(by omega)) (by rw[List.getElem?_drop,Nat.add_zero,List.getElem?_eq_getElem]) ?_
  have hr:=hp.row i (vs[i]'(by omega)) pls[i] (List.getElem?_eq_getElem (by omega)) (List.getElem?_eq_getElem hi1)
  have hm:=List.getElem_mem hi1
  replace E:=E.bIx 4
  refine(grow_okM ((((hr.cons _).cons _).cons _).cons _) (h12 _ hm) (hs _ hm) E).mono ?_
  clear E
  rintro r w_ ⟨D2,X,β,rfl,hD2,hT,E⟩
  refine Eq.ef u_p_tree rfl ?_
  refine Cnd.f ?_
  have itv:Scal tv:=⟨Hs.slScal E FSl.mem⟩
  repeat with_reducible first|refine Stp.go ?_|refine StpE.go E ?_
  refine BdS.one E u_sl_p_Tree e_p_Tree rfl ?_
  clear E
  intro s1 w_ E
  refine Ap.one E (i:=3) rfl u_sl_p_Tree ⟨_,u_sl_p_Tree,λ_ h=>by cases h⟩ e_p_Tree (Src.slice (E.sat _ List.mem_cons_self) (n:=1) rfl (by omega) rfl) rfl (by rw[List.length_map];omega) (by rw[List.length_map];omega) ?_
  clear E
  intro s2 w_ E
  simp only[List.set_cons_zero,List.set_cons_succ]at E
  have is2:Scal s2:=⟨Hs.slScal E FSl.mem⟩
  repeat with_reducible first|refine Stp.go ?_|(refine StpW.go E ?_;clear E;intro w_ E)
  refine Bi.add (by omega) ?_
  refine⟨⟨i+1,D2,Xs++[X],tA++[X.t],s2,by simp,by omega,by simp[hta],?_,?_⟩,by simp only[];omega⟩
  ·rw[List.take_add_one,List.getElem?_eq_getElem hi1,List.map_append,Option.toList_some]
   exact Wo.snoc hW hD2 hT
  ·replace E:=E.tl
   (replace E:=((((((E.bIx 1).bIx 5).bIx 5).bIx 4).bIx 4).bIx 5))
   rw[List.map_append]
   exact(Hs.wdSnoc E).bIx 1
 ·refine Cnd.f ?_
  have hie:i=pls.length:=by omega
  rw[hie,List.take_length]at hW
  have hpos:0<pls.length:=List.length_pos_iff.2 h0
  have itv:Scal tv:=⟨Hs.slScal E FSl.mem⟩
  repeat with_reducible first|refine Stp.go ?_|refine StpE.go E ?_|(refine StpW.go E ?_;clear E;intro w_ E)
  have htv:=RdS.sl (v:=tv) (T:=Ty.t1) (sz:=1) (xs:=tA.map ptr) (by simp) (by omega) E
  rw[Nat.div_one,List.length_map]at htv
  refine htv.ix (by omega) (by rw[Int.toNat_zero];omega) (by omega) ?_
  intro b hb
  refine hb.ld E (x:=ptr (adW tA 0)) (by
   rw[Int.toNat_zero,Nat.zero_mul,List.drop_zero,List.getElem?_map]
   unfold adW
   rw[List.getD_eq_getElem?_getD,List.getElem?_eq_getElem (show 0<tA.length by omega)]
   rfl) ?_
  refine(NewS_ok (a:=adW tA 0) E).mono ?_
  clear E
  rintro r w_ ⟨ka,om,ma,v,rfl,E⟩
  repeat with_reducible refine Stp.go ?_
  intro J43 hJ43
  have go:J43 [.bool false] w_:=by
   refine hJ43 _ _ λu=>Cnd.f ?_
   repeat with_reducible first|refine Stp.go ?_|(refine StpW.go E ?_;clear E;intro w_ E)
   replace E:Hs w0 F w_ (PoolS []::slA (.slice none 0 0) Ty.t22 4 []::_):=Hs.starNil (Hs.nilSl E _ _)
   (replace E:=(((((((((((E.bIx 9).bIx 10).bIx 9).bIx 3).bIx 4).bIx 8).bIx 8).bIx 8).bIx 8).bIx 9).bIx 10))
   replace E:=(E.bIx 10).tl
   exact⟨a,[],D',Xs,tA,⟨ma,v,.slice none 0 0,[]⟩,⟨ka,om,[]⟩,tv,rfl,by omega,⟨⟨rfl,λi m v h=>by simp[madeY]at h⟩,⟨rfl,λk=>rfl⟩,hW,made_inv hu h0 h12⟩,E⟩
  clear hJ43
  refine Bi.neq (λh=>absurd rfl h) (λ_=>?_)
  repeat with_reducible refine Stp.go ?_
  refine Eq.ef u_p_Space rfl ?_
  repeat with_reducible refine Stp.go ?_
  exact go
set_option maxRecDepth 100000
set_option linter.unusedVariables false
set_option linter.unusedSimpArgs false
variable {w0 w:World} {F:Nat→Prop} {l r1 r2 r3:List As}
variable {R:List RowS} {D:List Row} {Xs:List PT} {tA:List Nat} {M:TbM} {K:SpM} {N:Int} {y:Sy}
theorem getL_put{α:Type}(L:List (Int×α))(k j:Int)(v:α):getL (putL L k v) j=if j=k then some v else getL L j:=by
 induction L with
 |nil=>
  unfold putL getL
  by_cases h:j=k<;>simp[h]
 |cons p r ih=>
  unfold putL
  by_cases hk:k=p.1
  ·rw[if_pos hk]
   unfold getL
   rw[List.find?_cons,List.find?_cons]
   by_cases hj:j=k
   ·simp[hj]
   ·simp only[hj,decide_false,if_false]
    rw[show decide (j=p.1)=false by simpa[← hk] using hj]
  ·rw[if_neg hk]
   unfold getL at ih ⊢
   rw[List.find?_cons,List.find?_cons]
   by_cases hj:j=p.1
   ·have:¬j=k:=λh=>hk (h▸hj)
    simp[hj,Ne.symm hk]
   ·simp only[hj,decide_false]
    exact ih
theorem freeN_le{α:Type}(L:List (Int×α)):∀f n:Nat,freeN L f n≤n+f
 |0,n=>Nat.le_refl _
 |f+1,n=>by
  unfold freeN
  split
  ·have:=freeN_le L f (n+1);omega
  ·omega
theorem u_sl_handle:PP.underlying Ty.t61=some (.slice Ty.t36):=by kernel_rfl
theorem RdyS.some_{n:Nat}{T:TypeId}{v:Value}{xs:List Value}(h:RdyS R T 2 v xs)(hne:xs≠[])(hR:PoolS R∈l)(hl:xs.length=n*2)(E:Hs w0 F w l):∃a m c,v=.slice (some a) m c:=by
 obtain⟨a,c,h1,h2,h3,h4⟩:=h.read (n:=n) hl (by omega) E hR
 rcases h4 with h4|⟨p,rfl,h4⟩
 ·exact absurd h4 hne
 ·exact⟨p,n,c,h1⟩
theorem SpT.put{R':List RowS}{sp:Sp}{n:Int}{v:Value}{hs:List (Nat×Int)}(h:SpT R tA K sp)(hR:∀x∈R,x∈R')(hv:RdyS R' Ty.t36 2 v (hcs tA hs))(hn:getL sp.op n=none)(hm:getL K.ov n=none):
  SpT R' tA {K with ov:=putL K.ov n v} {sp with op:=putL sp.op n hs}:=by
 refine⟨?_,λk=>?_⟩
 ·show(putL K.ov n v).map _=(putL sp.op n hs).map _
  rw[(putL_len (v:=v) hm).2.1,(putL_len (v:=hs) hn).2.1,h.keys]
 ·show match getL (putL sp.op n hs) k with
   |none=>getL (putL K.ov n v) k=none
   |some hs'=>∃v',getL (putL K.ov n v) k=some v'∧RdyS R' Ty.t36 2 v' (hcs tA hs')
  rw[getL_put,getL_put]
  by_cases hk:k=n
  ·rw[if_pos hk,if_pos hk]
   exact⟨v,rfl,hv⟩
  ·rw[if_neg hk,if_neg hk]
   exact(h.mono hR).row k
theorem add_okM{v:Value}{hs:List (Nat×Int)}(h:Fit R D Xs tA M K N y)(h64:y.sp.op.length<64)(h0:hs≠[])(h16:hs.length≤16)(hl:∀x∈hs,x.1<y.Ts.length)(E:Hs w0 F w (slA v Ty.t36 2 (hcs tA hs)::SPl R D Xs tA M K y l)):
  Ca PP Fn.f94 #[ptr K.a,v] w λr w'=>r=i64 (y.add hs).2∧GoS w0 F l R tA M K N (y.add hs).1 w':=by
 refine S.f94.calls ?_
 unfold S.f94
 obtain⟨f1,f2,f3⟩:=freeN_ok y.sp.op (y.sp.op.length+1) 0 (by omega) h.inv.sp.nd
 have f4:=freeN_le y.sp.op (y.sp.op.length+1) 0
 have hinv:=add_inv h.inv h64 h0 h16 hl
 unfold Sy.add at hinv ⊢
 simp only[]at hinv ⊢
 generalize freeN y.sp.op (y.sp.op.length+1) 0=N0 at*
 refine⟨λl1 w1=>∃n:Nat,l1=[i64 n]∧n≤N0∧Hs w0 F w1 (slA v Ty.t36 2 (hcs tA hs)::SPl R D Xs tA M K y l),λl1 _=>match l1 with|[.int _ i]=>N0-i.toNat|_=>0,⟨0,rfl,Nat.zero_le _,E⟩,?_⟩
 clear E
 rintro t5 u1 w1 ⟨n,e,hn,E⟩
 cases e
 repeat with_reducible first|refine Stp.go ?_|refine StpE.go E ?_
 have hrow:=h.sp.row (n:Int)
 refine Lk.one E FMp.mem u_sopen k_int z_sl_handle rfl ?_
 rw[aget_enc (keyI .i64)]
 cases hg:getL y.sp.op (n:Int)with
 |some hs'=>
  rw[hg]at hrow
  obtain⟨v',hv',hr⟩:=hrow
  rw[hv']
  simp only[Option.map_some,Option.getD_some,id]
  have hne:hs'≠[]:=(h.inv.sp.op _ ((getL_some h.inv.sp.nd).1 hg)).2.1
  have hne2:hcs tA hs'≠[]:=by
   intro h1
   have:=hcs_len (tA:=tA) hs'
   rw[h1]at this
   have:=List.length_pos_iff.2 hne
   simp at*
   omega
  obtain⟨a,m,c,rfl⟩:=RdyS.some_ hr hne2 (by simp) (hcs_len hs') E
  refine Eq.nt u_sl_handle rfl ?_
  repeat with_reducible refine Stp.go ?_
  refine Bi.add (by omega) ?_
  refine⟨⟨n+1,by simp,?_,E⟩,?_⟩
  ·rcases Nat.lt_or_ge n N0 with h1|h1
   ·omega
   ·have:n=N0:=by omega
    subst this
    rw[f1]at hg
    cases hg
  ·have:n≠N0:=by
    rintro rfl
    rw[f1]at hg
    cases hg
   simp only[];omega
 |none=>
  rw[hg]at hrow
  simp only[]at hrow
  rw[hrow]
  simp only[Option.map_none,Option.getD_none]
  refine Eq.nf u_sl_handle rfl ?_
  have hnN:n=N0:=by
   rcases Nat.lt_or_ge n N0 with h1|h1
   ·have:=f3 n (Nat.zero_le _) h1
    rw[hg]at this
    cases this
   ·omega
  subst hnN
  repeat with_reducible first|refine Stp.go ?_|refine StpE.go E ?_
  refine Mu.by E u_sopen k_int rfl ?_
  clear E
  intro w_ E
  have e1:aput (ovM K.ov) (i64 (n:Int)) v=ovM (putL K.ov (n:Int) v):=aput_enc (ev:=id) (keyI .i64) K.ov (n:Int) v
  rw[e1]at E
  replace E:=Hs.poolS Ty.t36 ((E.bIx 6).bIx 1)
  (replace E:=((((((((E.bIx 7).bIx 7).bIx 2).bIx 7).bIx 7).bIx 7).bIx 7).bIx 7))
  have hR:∀x∈R,x∈(⟨v,Ty.t36,2,hcs tA hs⟩:RowS)::R:=λx hx=>List.mem_cons_of_mem _ hx
  exact⟨rfl,_,D,Xs,M,{K with ov:=putL K.ov (n:Int) v},rfl,rfl,rfl,hR,⟨h.tb.mono hR,h.sp.put hR (.inr List.mem_cons_self) hg hrow,h.wo,hinv⟩,E⟩
set_option maxRecDepth 100000
set_option linter.unusedVariables false
set_option linter.unusedSimpArgs false
variable {w0 w:World} {F:Nat→Prop} {l r1 r2 r3:List As}
variable {R:List RowS} {D:List Row} {Xs:List PT} {tA:List Nat} {M:TbM} {K:SpM} {N:Int} {y:Sy}
instance{b:Nat}:NilC PP Ty.t1 (ptr b) "Read":=⟨λw=>by kernel_rfl⟩
instance{b:Nat}:MtC PP Ty.t1 (ptr b) "Read" Fn.f125 (ptr b):=⟨λw=>by kernel_rfl,by kernel_rfl⟩
instance{b:Nat}:NilC PP Ty.t1 (ptr b) "Write":=⟨λw=>by kernel_rfl⟩
instance{b:Nat}:MtC PP Ty.t1 (ptr b) "Write" Fn.f39 (ptr b):=⟨λw=>by kernel_rfl,by kernel_rfl⟩
instance{b:Nat}:NilC PP Ty.t1 (ptr b) "Open":=⟨λw=>by kernel_rfl⟩
instance{b:Nat}:MtC PP Ty.t1 (ptr b) "Open" Fn.f81 (ptr b):=⟨λw=>by kernel_rfl,by kernel_rfl⟩
instance{b:Nat}:NilC PP Ty.t1 (ptr b) "Create":=⟨λw=>by kernel_rfl⟩
instance{b:Nat}:MtC PP Ty.t1 (ptr b) "Create" Fn.f33 (ptr b):=⟨λw=>by kernel_rfl,by kernel_rfl⟩
instance{b:Nat}:NilC PP Ty.t1 (ptr b) "Close":=⟨λw=>by kernel_rfl⟩
instance{b:Nat}:MtC PP Ty.t1 (ptr b) "Close" Fn.f38 (ptr b):=⟨λw=>by kernel_rfl,by kernel_rfl⟩
instance{b:Nat}:NilC PP Ty.t1 (ptr b) "List":=⟨λw=>by kernel_rfl⟩
instance{b:Nat}:MtC PP Ty.t1 (ptr b) "List" Fn.f91 (ptr b):=⟨λw=>by kernel_rfl,by kernel_rfl⟩
instance{b:Nat}:NilC PP Ty.t1 (ptr b) "Remove":=⟨λw=>by kernel_rfl⟩
instance{b:Nat}:MtC PP Ty.t1 (ptr b) "Remove" Fn.f112 (ptr b):=⟨λw=>by kernel_rfl,by kernel_rfl⟩
instance{b:Nat}:NilC PP Ty.t1 (ptr b) "Wstat":=⟨λw=>by kernel_rfl⟩
instance{b:Nat}:MtC PP Ty.t1 (ptr b) "Wstat" Fn.f116 (ptr b):=⟨λw=>by kernel_rfl,by kernel_rfl⟩
theorem ReadS_ok{n off count:Int}(T:SpT R tA K y.sp)(hI:SyI N y)(hR:PoolS R∈l)(hWo:Wo D tA Xs y.Ts)[hS:FPt l K.a (spO K M.a y.sp) r1][hO:FMp l K.om (.int .i64) (ovM K.ov) r2][hW:FWP l Xs D r3](E:Hs w0 F w l):
  Ca PP Fn.f98 #[ptr K.a,i64 n,i64 off,i64 count] w λr w'=>r=.tuple #[str (y.read n off count).1,i64 (y.read n off count).2]∧Hs w0 F w' l:=by
 refine S.f98.calls ?_
 unfold S.f98
 refine(singleS_okM (n:=n) T hI hR E).mono ?_
 clear E
 rintro r w_ ⟨x,rfl,hx,ix,E⟩
 repeat with_reducible first|refine Stp.go ?_|(refine StpW.go E ?_;clear E;intro w_ E)|(refine StpA.go E ?_;clear E;intro b_ w_ hb_ E)
 (revert b_;intro q hbq E)
 refine Bi.neq ?_ ?_<;>intro he<;>(repeat with_reducible first|refine Stp.go ?_|refine StpE.go E ?_)
 ·have e:y.read n off count=(emp,(y.single n).2):=by unfold Sy.read;simp only[];rw[if_pos he]
  rw[e]
  exact⟨rfl,E.tl⟩
 ·have e:y.read n off count=(trW y.Ts (y.single n).1.1).read (y.single n).1.2 off count:=by unfold Sy.read;simp only[];rw[if_neg (λh=>h he)]
  rw[e,hx he]
  repeat with_reducible refine Stp.go ?_
  refine(Wo.ask (args:=λz=>#[ptr z,i64 (y.single n).1.2,i64 off,i64 count]) hWo hI.t (singleS_ok hI he) E λX β l0 hb hi hp E=>Read_ok hb hi hp E).mono ?_
  clear E
  rintro r w_ ⟨rfl,E⟩
  repeat with_reducible refine Stp.go ?_
  exact⟨rfl,E.tl⟩
set_option maxRecDepth 100000
set_option linter.unusedVariables false
set_option linter.unusedSimpArgs false
variable {w0 w:World} {F:Nat→Prop} {l r1 r2 r3:List As}
variable {R:List RowS} {D:List Row} {Xs:List PT} {tA:List Nat} {M:TbM} {K:SpM} {N:Int} {y:Sy}
theorem Wo.chg{f:FuncId}{args:Nat→Array Value}{Q:Value→Prop}{Ts:List Tr}{T':Tr}(h:Wo D tA Xs Ts){k:Nat}(hk:k<Ts.length)[hW:FWP l Xs D r1](E:Hs w0 F w l)
  (hc:∀X β l0,Tie D X (trW Ts k) β→Hs w0 F w (trA X::Pool D::l0)→Ca PP f (args X.t) w λr w'=>Q r∧Goes w0 F l0 D X T' w'):
  Ca PP f (args (adW tA k)) w λr w'=>Q r∧GoesW w0 F r1 tA (Ts.set k T') w':=by
 obtain⟨X,β,hX,ht,hb⟩:=h.get hk
 have E1:=Hs.openI (f:=trA) hX (E.perm hW.perm)
 rw[← ht]
 refine(hc X β (wdA (Xs.eraseIdx k)::r1) hb (E1.perm ((List.Perm.swap _ _ _).cons _))).mono ?_
 rintro r w' ⟨hq,G⟩
 exact⟨hq,h.goes hk hX G⟩
theorem hcs_drop(hs:List (Nat×Int)):∀i:Nat,(hcs tA hs).drop (i*2)=hcs tA (hs.drop i):=by
 induction hs with
 |nil=>intro i;rw[List.drop_nil];exact List.drop_nil
 |cons d r ih=>
  intro i
  cases i with
  |zero=>simp
  |succ i=>
   rw[hcs,List.flatMap_cons,show(i+1)*2=i*2+2 by omega]
   simp only[List.cons_append,List.nil_append,List.drop_succ_cons]
   exact ih i
theorem closeW_fst:∀{l:List (Nat×Int)} {Ts:List Tr} {f g:Int},(closeW Ts l f).1=(closeW Ts l g).1
 |[],_,_,_=>rfl
 |(k,h)::r,Ts,f,g=>closeW_fst (l:=r)

theorem closes_ok{ov:Value}{out:List (Nat×Int)}{Ts:List Tr}{k:World→Prop}(hW:Wo D tA Xs Ts)(hI:TsI N Ts)(hN:N+100<4611686018427387904)(ho:∀x∈out,x.1<Ts.length)(hn:out.length≤16)
  (hk:∀D' Xs' w',Wo D' tA Xs' (closeW Ts out 0).1→Hs w0 F w' (slA ov Ty.t36 2 (hcs tA out)::SPl R D' Xs' tA M K y l)→k w')
  (E:Hs w0 F w (slA ov Ty.t36 2 (hcs tA out)::SPl R D Xs tA M K y l)):
  LnL ov λt89=>∃(I:List Value→World→Prop) (m:List Value→World→Nat),I [(.int .i64 0)] w∧∀t90,∀(u:Env) (w_:World),I [t90] w_→
   Bi .lss t90 t89 λt91=>Cnd t91 (IxA 2 ov t90 λt92=>LdA PP 2 t92 w_ λt93=>Al Ty.t36 #[.nilIface,.int .i64 0] w_ λt19 w_68=>St PP 2 t19 t93 w_68 λw_69=>
    Fa 0 t19 λt94=>Ld t94 w_69 λt95=>Fa 1 t19 λt96=>Ld t96 w_69 λt97=>Iv PP t95 "Close" #[t97] w_69 λt98 w_75=>Bi .add t90 (.int .i64 1) λt99=>I [t99] w_75∧m [t99] w_75<m [t90] w_) (k w_):=by
 refine LnL.sl E List.mem_cons_self (by omega) ?_
 rw[hcs_len,Nat.mul_div_cancel _ (by omega)]
 refine⟨λl1 w1=>∃(i:Nat) (D':List Row) (Xs':List PT) (Ts':List Tr),l1=[i64 i]∧i≤out.length∧Wo D' tA Xs' Ts'∧TsI (N+3*i) Ts'∧Ts'.length=Ts.length∧(closeW Ts out 0).1=(closeW Ts' (out.drop i) 0).1∧Hs w0 F w1 (slA ov Ty.t36 2 (hcs tA out)::SPl R D' Xs' tA M K y l),λl1 _=>match l1 with|[.int _ i]=>out.length-i.toNat|_=>0,
  ⟨0,D,Xs,Ts,rfl,Nat.zero_le _,hW,hI.mono (by omega),rfl,rfl,E⟩,?_⟩
 clear E hW hI
 rintro t90 u w1 ⟨i,D,Xs,Ts',e,hi,hW,hI,hTl,hcw,E⟩
 cases e
 refine Bi.lss ?_ ?_<;>intro hlt
 ·refine Cnd.t ?_
  have hi1:i<out.length:=by omega
  have hrd:=RdS.sl (v:=ov) (T:=Ty.t36) (sz:=2) (xs:=hcs tA out) (by simp) (by omega) E
  rw[hcs_len,Nat.mul_div_cancel _ (by omega)]at hrd
  refine hrd.ix (by omega) (by omega) (by omega) ?_
  intro a ha
  rw[Int.toNat_natCast,hcs_drop,List.drop_eq_getElem_cons hi1]at ha
  refine ha.lda E (m:=2) (ds:=[iT (adW tA out[i].1),i64 out[i].2]) rfl rfl (by omega) ?_
  have hk1:=ho _ (List.getElem_mem hi1)
  have hdr:out.drop i=out[i]::out.drop (i+1):=List.drop_eq_getElem_cons hi1
  generalize out[i]=o at*
  obtain⟨k1,h1⟩:=o
  repeat with_reducible first|refine Stp.go ?_|refine StpE.go E ?_|(refine StpW.go E ?_;clear E;intro w_ E)|(refine StpA.go E ?_;clear E;intro b_ w_ hb_ E)
  (revert b_;intro z hbz E)
  skip
  have hk1:k1<Ts'.length:=by rw[hTl];exact hk1
  have hT:=hI _ (trW_mem hk1)
  refine(Wo.chg (Q:=λ_=>True) (T':=((trW Ts' k1).close h1).1) (args:=λz=>#[ptr z,i64 h1]) hW hk1 E λX β l0 hb E=>(Close_ok hb hT.1 (by omega) hT.2 E).mono λr w' h=>⟨trivial,h.2⟩).mono ?_
  clear E
  rintro r w_ ⟨-,D2,Xs2,hW2,E⟩
  refine Bi.add (by omega) ?_
  replace E:=(E.bIx 2).tl
  (replace E:=(((((((((E.bIx 1).bIx 1).bIx 8).bIx 8).bIx 8).bIx 8).bIx 8).bIx 8).bIx 8))
  refine⟨⟨i+1,D2,Xs2,Ts'.set k1 ((trW Ts' k1).close h1).1,by simp,by omega,hW2,(hI.set (close_inv hT.1 _) (close_lim hT.2 _)).mono (by omega),by rw[List.length_set];exact hTl,?_,E⟩,by simp only[];omega⟩
  rw[hcw,hdr]
  show(closeW (Ts'.set k1 ((trW Ts' k1).close h1).1) (out.drop (i+1)) (if(0:Int)=0 then((trW Ts' k1).close h1).2 else 0)).1=_
  exact closeW_fst
 ·refine Cnd.f ?_
  have hie:i=out.length:=by omega
  rw[hie,List.drop_length]at hcw
  refine hk D Xs _ ?_ E
  rw[hcw]
  exact hW
set_option maxRecDepth 100000
set_option linter.unusedVariables false
set_option linter.unusedSimpArgs false
variable {w0 w:World} {F:Nat→Prop} {l r1 r2 r3:List As}
variable {R:List RowS} {D:List Row} {Xs:List PT} {tA:List Nat} {M:TbM} {K:SpM} {N:Int} {y:Sy}
theorem Fit.setTs{Ts:List Tr}{D':List Row}{Xs':List PT}{N':Int}(h:Fit R D Xs tA M K N y)(hW:Wo D' tA Xs' Ts)(hI:TsI N' Ts)(hl:Ts.length=y.Ts.length):Fit R D' Xs' tA M K N' {y with Ts:=Ts}:=
 ⟨h.tb,h.sp,hW,h.inv.setTs hI hl⟩

theorem RdS.preS {sz n m : Nat} {kk : IntKind} {v : Value} {xs : List Value} (h : RdS w0 F l sz n v xs) (h2 : m≤n) {k : Value→Prop} (hk : ∀ v',RdS w0 F l sz m v' (xs.take (m * sz))→k v') : Sl sz v none (some (.int kk (m : Int))) k:=by
 obtain ⟨p,c,rfl,hc,hl,hx⟩:=h
 refine ⟨p,n,c,0,m,rfl,rfl,by simp [bnd],Nat.zero_le _,by omega,hk _ ?_⟩
 have hle : m * sz≤n * sz:=Nat.mul_le_mul_right _ h2
 have e : (if c = 0 then p else p.map (·.add (0 * sz))) = p:=by
  split
  ·rfl
  ·cases p with
   | none=>rfl
   | some a=>simp [Addr.add]
 refine ⟨_,_,by rw [e]; rfl,by omega,by rw [List.length_take]; omega,?_⟩
 rcases hx with rfl | ⟨q,rfl,hq⟩
 ·left; simp
 ·right
  refine ⟨_,rfl,?_⟩
  rcases hq with rfl | ⟨g,o,rfl,hq⟩
  ·left; simp
  ·right
   refine ⟨g,o,rfl,fun w E j x hj=>?_⟩
   rw [List.getElem?_take] at hj
   split at hj
   ·exact hq w E j x hj
   ·cases hj
theorem pcs_take(ps:List Pl):∀i:Nat,(pcs ps).take (i*2)=pcs (ps.take i):=by
 induction ps with
 |nil=>intro i;simp
 |cons d r ih=>
  intro i
  cases i with
  |zero=>simp
  |succ i=>
   rw[pcs,List.flatMap_cons,show(i+1)*2=i*2+2 by omega]
   simp only[Pl.cs,List.cons_append,List.nil_append,List.take_succ_cons,List.flatMap_cons]
   rw[show(List.flatMap Pl.cs r).take (i*2)=pcs (r.take i)from ih i]
theorem s_shandle:sizeK PP Ty.t36=some 2:=by kernel_rfl
theorem z_shandle:zeroK PP Ty.t36=some (.agg #[.nilIface,i64 0]):=by kernel_rfl
theorem e_shandle:el3 PP Ty.t36=some (some (.agg #[.nilIface,i64 0]),2,24):=by kernel_rfl
theorem BdS.hd{a:Nat}{h:Int}{k:Value→World→Prop}(E:Hs w0 F w l)(hk:∀v w',Hs w0 F w' (slA v Ty.t36 2 [iT a,i64 h]::l)→k v w'):Ef PP (Instr.buildSlice Ty.t61 1 #[(0,.agg #[iT a,i64 h])]) w k:=
 BdS.sl E u_sl_handle s_shandle z_shandle (by omega) (by omega) (xs:=[iT a,i64 h]) (by kernel_rfl) rfl hk
theorem Open_okM{path:BA}{mode:Int}(h:Fit R D Xs tA M K N y)(hN:N+1000<4611686018427387904)(hp:path.size≤1000000)(E:Hs w0 F w (SPl R D Xs tA M K y l)):
  Ca PP Fn.f84 #[ptr K.a,str path,i64 mode] w λr w'=>r=.tuple #[i64 (y.openF path mode).2.1,i64 (y.openF path mode).2.2]∧GoS w0 F l R tA M K (N+100) (y.openF path mode).1 w':=by
 have hinv:=open_invS h.inv path mode
 refine S.f84.calls ?_
 unfold S.f84
 refine(where_okM hp h.ctx0 E).mono ?_
 clear E
 rintro r w_ ⟨v,rfl,E⟩
 unfold Sy.openF at hinv ⊢
 simp only[]at hinv ⊢
 have hw:=where_ok h.inv path
 have hhd:(y.where_ path).2=0→((y.where_ path).1.getD 0 p0).t<y.tb.ts.length:=head_ok h.inv
 have same:Fit R D Xs tA M K (N+100) y:=⟨h.tb,h.sp,h.wo,h.inv.mono (by omega)⟩
 generalize y.where_ path=L at*
 repeat with_reducible refine Stp.go ?_
 refine Bi.neq ?_ ?_<;>intro he<;>(repeat with_reducible refine Stp.go ?_)
 ·rw[if_pos he]
  exact⟨rfl,same.same E.tl⟩
 rw[if_neg (λh=>h he)]at hinv ⊢
 have hne:=hw.2.2 he
 have hh:=hhd he
 have hpos:0<L.1.length:=List.length_pos_iff.2 hne
 have hrd0:RdS w0 F [slA v Ty.t0 2 (pcs L.1)] 2 L.1.length v (pcs L.1):=by
  have:=RdS.sl (v:=v) (T:=Ty.t0) (sz:=2) (xs:=pcs L.1) (l:=[slA v Ty.t0 2 (pcs L.1)]) (by simp) (by omega) (E.drop (List.singleton_sublist.2 (by simp)))
  rwa [pcs_len,Nat.mul_div_cancel _ (by omega)]at this
 refine hrd0.ix (by omega) (by simpa using hpos) (by omega) ?_
 intro a ha
 rw[show((0:Int).toNat*2)=0*2 from rfl,pcs_drop,List.drop_eq_getElem_cons hpos]at ha
 have e0:L.1[0]=L.1.getD 0 p0:=by rw[List.getD_eq_getElem?_getD,List.getElem?_eq_getElem hpos];rfl
 rw[e0]at ha
 generalize hA:L.1.getD 0 p0=pa at*
 refine(ha.weaken λ_ E=>E.drop (List.singleton_sublist.2 (by simp))).lda E (m:=2) (ds:=pa.cs) rfl rfl (by omega) ?_
 refine(isDir_okM hh (h.ctx0.cons _) E).mono ?_
 clear E
 rintro r w_ ⟨rfl,E⟩
 repeat with_reducible refine Stp.go ?_
 generalize hDA:y.isDir pa=da at*
 intro J12 hJ12
 have go12:∀t8 w_,(RdS w0 F [slA v Ty.t0 2 (pcs L.1)] 2 (if da.1=true then L.1 else L.1.take 1).length t8 (pcs (if da.1=true then L.1 else L.1.take 1)))→da.2=0→y.sp.op.length<64→Hs w0 F w_ (slA v Ty.t0 2 (pcs L.1)::SPl R D Xs tA M K y l)→J12 [t8] w_:=by
  intro t8 w_ hrd hda h64 E
  refine hJ12 _ w_ λu=>?_
  clear hJ12
  rw[if_neg (λh=>h hda),if_neg (by omega)]at hinv ⊢
  have hLq:(if da.1=true then L.1 else L.1.take 1).length≤16∧(if da.1=true then L.1 else L.1.take 1)≠[]∧∀p∈(if da.1=true then L.1 else L.1.take 1),p.t<y.tb.ts.length:=by
   split
   ·exact⟨hw.1,hne,hw.2.1⟩
   ·refine⟨by rw[List.length_take];omega,?_,λp hp=>hw.2.1 p (List.mem_of_mem_take hp)⟩
    intro h1
    have:=congrArg List.length h1
    rw[List.length_take,List.length_nil]at this
    omega
  generalize hLL:(if da.1=true then L.1 else L.1.take 1)=LL at*
  obtain⟨hL16,hLne,hLt⟩:=hLq
  refine hrd.len ?_
  replace E:=Hs.spl E
  refine⟨λl1 w1=>∃(i:Nat) (D':List Row) (Xs':List PT) (Ts':List Tr) (out:List (Nat×Int)) (ov:Value),l1=[ov,i64 i]∧i≤LL.length∧out.length=i∧(∀x∈out,x.1<y.Ts.length)∧Wo D' tA Xs' Ts'∧TsI (N+3*i) Ts'∧Ts'.length=y.Ts.length∧
    openW y.Ts y.tb y.sp.user mode LL []=openW Ts' y.tb y.sp.user mode (LL.drop i) out∧Hs w0 F w1 (slA ov Ty.t36 2 (hcs tA out)::SPl R D' Xs' tA M K y (slA v Ty.t0 2 (pcs L.1)::l)),λl1 _=>match l1 with|[_,.int _ i]=>LL.length-i.toNat|_=>0,
   ⟨0,D,Xs,y.Ts,[],.slice none 0 0,rfl,Nat.zero_le _,rfl,(λx hx=>by cases hx),h.wo,h.inv.t.mono (by omega),rfl,rfl,Hs.nilSl E _ _⟩,?_⟩
  clear E
  rintro ov t55 u2 w1 ⟨i,D2,Xs2,Ts',out,ov',e,hi,hol,hox,hW,hI,hTl,how,E⟩
  cases e
  have h2:Fit R D2 Xs2 tA M K (N+3*i) {y with Ts:=Ts'}:=h.setTs hW hI hTl
  refine Bi.lss ?_ ?_<;>intro hlt
  ·refine Cnd.t ?_
   have hi1:i<LL.length:=by omega
   refine hrd.ix (by omega) (by omega) (by omega) ?_
   intro a ha
   rw[Int.toNat_natCast,pcs_drop,List.drop_eq_getElem_cons hi1]at ha
   refine(ha.weaken λ_ E=>E.drop (List.singleton_sublist.2 (by simp))).lda E (m:=2) (ds:=LL[i].cs) rfl rfl (by omega) ?_
   have hpt:=hLt _ (List.getElem_mem hi1)
   have hdr:LL.drop i=LL[i]::LL.drop (i+1):=List.drop_eq_getElem_cons hi1
   rw[hdr]at how
   generalize LL[i]=p at*
   have iov:Scal ov:=⟨Hs.slScal E FSl.mem⟩
   repeat with_reducible first|refine Stp.go ?_|refine StpE.go E ?_|(refine StpW.go E ?_;clear E;intro w_ E)|(refine StpA.go E ?_;clear E;intro b_ w_ hb_ E)
   (revert b_;intro q hbq E)
   skip
   have hki:y.tb.ix p.t<Ts'.length:=by rw[hTl];exact h.inv.tb.ixLt hpt
   have hT:=hI _ (trW_mem hki)
   have hxi:=open_inv hT.1 y.sp.user p.f mode
   have hxl:=open_lim hT.2 y.sp.user p.f mode
   have call:∀(l2 r2:List As) w_ (_:FWP l2 Xs2 D2 r2),Hs w0 F w_ l2→Ca PP Fn.f81 #[ptr (adW tA (y.tb.ix p.t)),str y.sp.user,i64 p.f,i64 mode] w_ λr w'=>r=.tuple #[i64 ((trW Ts' (y.tb.ix p.t)).openF y.sp.user p.f mode).2.1,((trW Ts' (y.tb.ix p.t)).openF y.sp.user p.f mode).2.2.1.V,i64 ((trW Ts' (y.tb.ix p.t)).openF y.sp.user p.f mode).2.2.2]∧GoesW w0 F r2 tA (Ts'.set (y.tb.ix p.t) ((trW Ts' (y.tb.ix p.t)).openF y.sp.user p.f mode).1) w':=
    λl2 r2 w_ _ E=>Wo.chg (args:=λz=>#[ptr z,str y.sp.user,i64 p.f,i64 mode]) hW hki E λX β l0 hb E=>Open_ok hb hT.1 (by omega) hT.2 E
   have how2:openW Ts' y.tb y.sp.user mode (p::LL.drop (i+1)) out=if((trW Ts' (y.tb.ix p.t)).openF y.sp.user p.f mode).2.2.2≠0 then((closeW (Ts'.set (y.tb.ix p.t) ((trW Ts' (y.tb.ix p.t)).openF y.sp.user p.f mode).1) out 0).1,[],((trW Ts' (y.tb.ix p.t)).openF y.sp.user p.f mode).2.2.2)else openW (Ts'.set (y.tb.ix p.t) ((trW Ts' (y.tb.ix p.t)).openF y.sp.user p.f mode).1) y.tb y.sp.user mode (LL.drop (i+1)) (out++[(y.tb.ix p.t,((trW Ts' (y.tb.ix p.t)).openF y.sp.user p.f mode).2.1)]):=rfl
   rw[how2]at how
   generalize (trW Ts' (y.tb.ix p.t)).openF y.sp.user p.f mode=x at*
   refine((h2.ctx0.cons _).cons _).treeP E hpt ?_
   intro a3 ha3 hx3
   refine ha3.ld E hx3 ?_
   repeat with_reducible first|refine Stp.go ?_|refine StpE.go E ?_|(refine StpW.go E ?_;clear E;intro w_ E)
   refine And.intro ?left (And.intro ?right trivial)
   case' left=>
    repeat with_reducible refine Stp.go ?_
    refine(call _ _ _ inferInstance E).mono ?_
    clear E
    rintro r w_ ⟨rfl,D3,Xs3,hW3,E⟩
    repeat with_reducible first|refine Stp.go ?_|(refine StpA.go E ?_;clear E;intro b_ w_ hb_ E)
    (revert b_;intro z hbz E)
    (repeat(with_reducible refine And.intro ?_ ?_;focus ((repeat with_reducible refine StpE.go E ?_);exact rfl)))
    repeat with_reducible (refine StpW.go E ?_;clear E;intro w_ E)
    (replace E:=(((E.bIx 0).bIx 2).bIx 2))
   case' right=>
    repeat with_reducible (refine StpA.go E ?_;clear E;intro b_ w_ hb_ E)
    (revert b_;intro z hbz E)
    (repeat(with_reducible refine And.intro ?_ ?_;focus ((repeat with_reducible refine StpE.go E ?_);exact rfl)))
    repeat with_reducible refine Stp.go ?_
    refine(call _ _ _ inferInstance E).mono ?_
    clear E
    rintro r w_ ⟨rfl,D3,Xs3,hW3,E⟩
    repeat with_reducible first|refine Stp.go ?_|(refine StpW.go E ?_;clear E;intro w_ E)
   all_goals
    replace E:=((E.bIx 2).tl.bIx 2).tl
    (replace E:=(((((((((E.bIx 1).bIx 1).bIx 8).bIx 8).bIx 8).bIx 8).bIx 8).bIx 8).bIx 8))
    have hI3:TsI (N+3*i+3) (Ts'.set (y.tb.ix p.t) x.1):=hI.set hxi hxl
    have hTl3:(Ts'.set (y.tb.ix p.t) x.1).length=y.Ts.length:=by rw[List.length_set];exact hTl
    refine Bi.neq ?_ ?_<;>intro hxe
    ·refine Cnd.t ?_
     rw[if_pos hxe]at how
     refine closes_ok hW3 hI3 (by omega) (λx hx=>by rw[hTl3];exact hox x hx) (by omega) ?_ E
     clear E
     intro D4 Xs4 w4 hW4 E
     rw[how]at hinv ⊢
     simp only[]at hinv ⊢
     rw[if_pos hxe]at hinv ⊢
     exact⟨rfl,R,D4,Xs4,M,K,rfl,rfl,rfl,λ_ h=>h,⟨h.tb,h.sp,hW4,hinv⟩,(Hs.unspl E.tl).tl⟩
    ·refine Cnd.f ?_
     rw[if_neg (λh=>h hxe)]at how
     repeat with_reducible refine StpE.go E ?_
     refine BdS.hd E ?_
     clear E
     intro s1 w_ E
     refine Ap.el E (i:=1) rfl u_sl_handle ⟨_,u_sl_handle,λ_ h=>by cases h⟩ e_shandle (by omega) (Src.slice (E.sat _ List.mem_cons_self) (n:=1) rfl (by omega) rfl) rfl (by rw[hcs_len,Nat.mul_div_cancel _ (by omega)];omega) (by rw[hcs_len,Nat.mul_div_cancel _ (by omega)];omega) ?_
     clear E
     intro s2 w_ E
     simp only[List.set_cons_zero,List.set_cons_succ]at E
     refine Bi.add (by omega) ?_
     refine⟨⟨i+1,D3,Xs3,Ts'.set (y.tb.ix p.t) x.1,out++[(y.tb.ix p.t,x.2.1)],s2,by simp,by omega,by simp[hol],?_,hW3,hI3.mono (by omega),hTl3,how,?_⟩,by simp only[];omega⟩
     ·intro q hq
      rcases List.mem_append.1 hq with hq|hq
      ·exact hox q hq
      ·rw[List.mem_singleton.1 hq,← hTl];exact hki
     ·rw[show hcs tA (out++[(y.tb.ix p.t,x.2.1)])=hcs tA out++[iT (adW tA (y.tb.ix p.t)),i64 x.2.1] by rw[hcs,List.flatMap_append];rfl]
      exact E.tl
  ·refine Cnd.f ?_
   have hie:i=LL.length:=by omega
   rw[hie,List.drop_length]at how
   rw[how]at hinv ⊢
   simp only[openW,ne_eq,not_true_eq_false,if_false]at hinv ⊢
   have hlen:0<LL.length:=List.length_pos_iff.2 hLne
   have h3:Fit R D2 Xs2 tA M K (N+100) {y with Ts:=Ts'}:=h.setTs hW (hI.mono (by omega)) hTl
   refine(add_okM (hs:=out) h3 h64 (by intro h1;rw[h1]at hol;simp at hol;omega) (by omega) (λx hx=>by show x.1<Ts'.length;rw[hTl];exact hox x hx) E).mono ?_
   rintro r w' ⟨rfl,G⟩
   exact⟨rfl,G.tl⟩
 clear hJ12
 refine Bi.neq ?_ ?_<;>intro hda<;>(repeat with_reducible first|refine Stp.go ?_|refine StpE.go E ?_)
 ·rw[if_pos hda]
  exact⟨rfl,same.same E.tl⟩
 refine Len.map E FMp.mem u_sopen ?_
 rw[encM_length]
 have hkl:K.ov.length=y.sp.op.length:=by
  have:=congrArg List.length h.sp.keys
  simpa using this
 rw[hkl]
 refine Bi.geq ?_ ?_<;>intro h64<;>(repeat with_reducible refine Stp.go ?_)
 ·rw[if_neg (λh=>h hda),if_pos (by omega)]
  exact⟨rfl,same.same E.tl⟩
 cases hb:da.1 with
 |true=>
  rw[hb]at go12
  repeat with_reducible refine Stp.go ?_
  exact go12 v _ hrd0 hda (by omega) E
 |false=>
  rw[hb]at go12
  repeat with_reducible refine Stp.go ?_
  refine RdS.preS hrd0 (m:=1) (by omega) ?_
  intro v1 hv1
  refine go12 v1 _ ?_ hda (by omega) E
  rw[pcs_take L.1 1]at hv1
  have e1:(L.1.take 1).length=1:=by rw[List.length_take];omega
  simp only[reduceCtorEq,if_false]
  rw[e1]
  exact hv1
set_option maxRecDepth 100000
set_option linter.unusedVariables false
set_option linter.unusedSimpArgs false
variable {w0 w:World} {F:Nat→Prop} {l r1 r2 r3:List As}
theorem EqS.npl{p q:Pl}{x y:Operand}{k:Value→Prop}(hk:k (.bool (!decide (p=q)))):Rd PP (eqS .neq Ty.t0 x y p.V q.V) w k:=
 EqS.n (xs:=p.cs) (ys:=q.cs) lv_Pl st_Pl g_Pl rfl rfl (by rw[ceq_pl];exact hk)
theorem eqPl_ok{u v:Value}{ps qs:List Pl}(hn:ps.length≤100000)(h1:RdS w0 F l 2 ps.length u (pcs ps))(h2:RdS w0 F l 2 qs.length v (pcs qs))(E:Hs w0 F w l):
  Ca PP Fn.f7 #[u,v] w λr w'=>r=.bool (decide (ps=qs))∧Hs w0 F w' l:=by
 refine S.f7.calls ?_
 unfold S.f7
 refine h1.len ?_
 refine h2.len ?_
 refine Bi.neq ?_ ?_<;>intro hne<;>(repeat with_reducible refine Stp.go ?_)
 ·rw[decide_eq_false (show ¬ps=qs by rintro rfl;exact hne rfl)]
  exact⟨rfl,E⟩
 have hl:ps.length=qs.length:=by omega
 refine h1.len ?_
 refine⟨λl1 w1=>∃i:Nat,l1=[i64 i]∧i≤ps.length∧ps.take i=qs.take i∧Hs w0 F w1 l,λl1 _=>match l1 with|[.int _ i]=>ps.length-i.toNat|_=>0,⟨0,rfl,Nat.zero_le _,rfl,E⟩,?_⟩
 clear E
 rintro t u1 w1 ⟨i,e,hi,htk,E⟩
 cases e
 refine Bi.lss ?_ ?_<;>intro hlt<;>(repeat with_reducible first|refine Stp.go ?_|(refine StpW.go E ?_;clear E;intro w_ E))
 ·have hi1:i<ps.length:=by omega
  have hi2:i<qs.length:=by omega
  refine h1.ix (by omega) (by omega) (by omega) ?_
  intro a ha
  rw[Int.toNat_natCast,pcs_drop,List.drop_eq_getElem_cons hi1]at ha
  refine ha.lda E (m:=2) (ds:=ps[i].cs) rfl rfl (by omega) ?_
  refine h2.ix (by omega) (by omega) (by omega) ?_
  intro a2 ha2
  rw[Int.toNat_natCast,pcs_drop,List.drop_eq_getElem_cons hi2]at ha2
  refine ha2.lda E (m:=2) (ds:=qs[i].cs) rfl rfl (by omega) ?_
  refine EqS.npl ?_
  by_cases hp:ps[i]=qs[i]
  ·rw[decide_eq_true hp]
   simp only[Bool.not_true]
   repeat with_reducible refine Stp.go ?_
   refine Bi.add (by omega) ?_
   exact⟨⟨i+1,by simp,by omega,by rw[List.take_add_one,List.take_add_one,htk,List.getElem?_eq_getElem hi1,List.getElem?_eq_getElem hi2,hp],E⟩,by simp only[];omega⟩
  ·rw[decide_eq_false hp]
   simp only[Bool.not_false]
   repeat with_reducible refine Stp.go ?_
   rw[decide_eq_false (show ¬ps=qs by rintro rfl;exact hp rfl)]
   exact⟨rfl,E⟩
 ·have hie:i=ps.length:=by omega
  rw[hie,List.take_length,hl,List.take_length]at htk
  rw[decide_eq_true htk]
  exact⟨rfl,E⟩
abbrev sv(l:List UInt8):BA:=⟨l.toArray⟩
def sampleP:List Pn:=[⟨⟨#[97]⟩,true,emp⟩,⟨⟨#[97,47,102]⟩,false,⟨#[49]⟩⟩,⟨⟨#[98]⟩,true,emp⟩,⟨⟨#[98,47,102]⟩,false,⟨#[50]⟩⟩,⟨⟨#[98,47,103]⟩,false,⟨#[51]⟩⟩]
def awA:Sy:=madeY ann [sampleP]
def awB:Sy:=(awA.bind ⟨#[47,98]⟩ ⟨#[47,97]⟩ 2).1
def awC:Sy:=(awB.openF ⟨#[47,97,47,103]⟩ 0).1
theorem awk1:(awA.bind ⟨#[47,98]⟩ ⟨#[47,97]⟩ 2).2=0:=by kernel_rfl
theorem awk2:(awB.bind ⟨#[47,98]⟩ ⟨#[47,97]⟩ 1).2=5:=by kernel_rfl
theorem awk3:awB.where_ ⟨#[47,97]⟩=([⟨0,1⟩,⟨0,3⟩],0):=by kernel_rfl
theorem awk4:(awB.openF ⟨#[47,97,47,103]⟩ 0).2=(0,0):=by kernel_rfl
theorem awk5:awC.read 0 0 9=(⟨#[51]⟩,0):=by kernel_rfl
theorem u_sl_Plant:PP.underlying Ty.t83=some (.slice Ty.t72):=by kernel_rfl
theorem s_Plant:sizeK PP Ty.t72=some 3:=by kernel_rfl
theorem z_Plant:zeroK PP Ty.t72=some (.agg #[str emp,.bool false,str emp]):=by kernel_rfl
theorem u_slslPlant:PP.underlying Ty.sl_sl_law29_Plant=some (.slice Ty.t83):=by kernel_rfl
theorem e_slPlant:el3 PP Ty.t83=some (some (.slice none 0 0),1,24):=by kernel_rfl
theorem sample_ok(E:Hs w0 F w l):Ca PP Fn.law29_sample #[] w λr w'=>∃v v1,r=.agg #[str ann,v]∧Hs w0 F w' (slA v Ty.t83 1 [v1]::slA v1 Ty.t72 3 (ncs sampleP)::l):=by
 refine S.law29_sample.calls ?_
 unfold S.law29_sample
 refine StpA.go E ?_
 clear E
 intro q w_ h1_ E
 repeat with_reducible refine StpE.go E ?_
 refine BdS.sl E u_sl_Plant s_Plant z_Plant (by omega) (by omega) (xs:=ncs sampleP) (by kernel_rfl) rfl ?_
 clear E
 intro v1 w_ E
 have iv1:Scal v1:=⟨Hs.slScal E FSl.mem⟩
 refine BdS.one E u_slslPlant e_slPlant iv1.s ?_
 clear E
 intro v w_ E
 have iv:Scal v:=⟨Hs.slScal E FSl.mem⟩
 repeat with_reducible first|refine StpE.go E ?_|(refine StpW.go E ?_;clear E;intro w_ E)
 exact⟨v,v1,rfl,(E.bIx 2).tl⟩
set_option maxRecDepth 100000
set_option linter.unusedVariables false
set_option linter.unusedSimpArgs false
variable {w0 w:World} {F:Nat→Prop} {l r1 r2 r3:List As}
variable {R:List RowS} {D:List Row} {Xs:List PT} {tA:List Nat} {M:TbM} {K:SpM} {N:Int} {y:Sy}
theorem Hs.spl2{a b:As}(E:Hs w0 F w (a::b::SPl R D Xs tA M K y l)):Hs w0 F w (SPl R D Xs tA M K y (a::b::l)):=
 (((((((E.bIx 9).bIx 9).bIx 9).bIx 9).bIx 9).bIx 9).bIx 9).bIx 9
theorem u_p_World:PP.underlying Ty.p_law29_World=some (.pointer Ty.law29_World):=by kernel_rfl
theorem BdS.pl2{p q:Pl}{k:Value→World→Prop}(E:Hs w0 F w l)(hk:∀v w',Hs w0 F w' (slA v Ty.t0 2 (pcs [p,q])::l)→k v w'):Ef PP (Instr.buildSlice Ty.t13 2 #[(0,p.V),(1,q.V)]) w k:=
 BdS.sl E u_sl_Place s_Place z_Place (by omega) (by omega) (xs:=pcs [p,q]) (by kernel_rfl) rfl hk
theorem GoS.wr{a:Nat}{tv:Value}(G:GoS w0 F (pt a (wrO (ptr K.a) tv)::l) R tA M K N y w):∃R' D' Xs' M' K',M'.a=M.a∧K'.a=K.a∧K'.om=K.om∧(∀x∈R,x∈R')∧Fit R' D' Xs' tA M' K' N y∧Hs w0 F w (SPl R' D' Xs' tA M' K' y (pt a (wrO (ptr K'.a) tv)::l)):=by
 obtain⟨R',D',Xs',M',K',h1,h2,h3,h4,h5,E⟩:=G
 rw[← h2]at E
 exact⟨R',D',Xs',M',K',h1,h2,h3,h4,h5,E⟩
theorem awake_okS(E:Hs w0 F w l):Ca PP Fn.law29_awake #[] w λr w'=>r=.bool true∧Hs w0 F w' l:=by
 refine S.law29_awake.calls ?_
 unfold S.law29_awake
 refine(sample_ok E).mono ?_
 clear E
 rintro r w_ ⟨pv,v1,rfl,E⟩
 have h1:=RdS.sl (v:=pv) (T:=Ty.t83) (sz:=1) (xs:=[v1]) (by simp) (by omega) E
 have h2:=RdS.sl (v:=v1) (T:=Ty.t72) (sz:=3) (xs:=ncs sampleP) (by simp) (by omega) E
 rw[show[v1].length / 1=1 by simp]at h1
 rw[show(ncs sampleP).length / 3=5 by decide]at h2
 have hpl:PlsIn w0 F (slA pv Ty.t83 1 [v1]::slA v1 Ty.t72 3 (ncs sampleP)::l) pv [v1] [sampleP]:=⟨h1,λi x ps g1 g2=>by
  match i with
  |0=>
   have e1:v1=x:=by simpa using g1
   have e2:sampleP=ps:=by simpa using g2
   subst e1;subst e2;exact h2
  |i+1=>simp at g1⟩
 have hm:=made_okM (user:=ann) (D:=[]) hpl (by decide) (by simp) (by simp) (λps h=>by rw[List.mem_singleton.1 h];decide) (λps h=>by
  rw[List.mem_singleton.1 h]
  intro p hp
  have:∀p∈sampleP,p.path.size≤3:=by decide
  have:=this p hp
  omega) (Hs.starNil E)
 refine hm.mono ?_
 clear hm E h1 h2 hpl
 rintro r w_ ⟨a,R,D,Xs,tA,M,K,tv,rfl,htA,h,E⟩
 rw[show madeY ann [sampleP]=awA from rfl]at*
 replace E:=Hs.spl2 E
 intro J5 hJ5
 have go5:∀(R:List RowS) (D:List Row) (Xs:List PT) (M:TbM) (K:SpM) w_,Fit R D Xs tA M K 200 awB→Hs w0 F w_ (SPl R D Xs tA M K awB (pt a (wrO (ptr K.a) tv)::slA tv Ty.t1 1 (tA.map ptr)::slA pv Ty.t83 1 [v1]::slA v1 Ty.t72 3 (ncs sampleP)::l))→J5 [.bool false] w_:=by
  intro R D Xs M K w_ h E
  refine hJ5 _ w_ λu=>Cnd.f ?_
  clear hJ5
  repeat with_reducible first|refine Stp.go ?_|refine StpE.go E ?_
  refine(where_okM (by decide) h.ctx0 E).mono ?_
  clear E
  rintro r w_ ⟨v,rfl,E⟩
  rw[awk3]at E ⊢
  replace E:=Hs.spl E
  repeat with_reducible first|refine Stp.go ?_|refine StpE.go E ?_
  refine(Open_okM h (by omega) (by decide) E).mono ?_
  clear E
  rintro r w_ ⟨rfl,G⟩
  rw[awk4]
  have E0:GoS w0 F (slA v Ty.t0 2 (pcs [⟨0,1⟩,⟨0,3⟩])::pt a (wrO (ptr K.a) tv)::slA tv Ty.t1 1 (tA.map ptr)::slA pv Ty.t83 1 [v1]::slA v1 Ty.t72 3 (ncs sampleP)::l) R tA M K (200+100) awC w_:=G
  clear G
  obtain⟨R1,D1,Xs1,M1,K1,hM,hK,hom,hR,h1,E⟩:=E0
  rw[← hK]at E
  repeat with_reducible first|refine Stp.go ?_|refine StpE.go E ?_
  refine(ReadS_ok (n:=0) (off:=0) (count:=9) h1.sp h1.inv (by simp) h1.wo E).mono ?_
  clear E
  rintro r w_ ⟨rfl,E⟩
  rw[awk5]
  repeat with_reducible refine Stp.go ?_
  intro J30 hJ30
  have fin:∀w_,(∃l',Hs w0 F w_ (l'++l))→J30 [.bool true] w_:=by
   rintro w_ ⟨l',E⟩
   refine hJ30 _ w_ λu=>⟨rfl,E.drop (List.sublist_append_right _ _)⟩
  clear hJ30
  repeat first|(with_reducible first|refine Stp.go ?_|refine StpE.go E ?_)|((with_reducible refine Bi.dec true ?_ ?_);focus exact rfl)|((with_reducible refine Bi.sdec true ?_ ?_);focus decide)
  refine BdS.pl2 (p:=⟨0,1⟩) (q:=⟨0,3⟩) E ?_
  clear E
  intro s2 w_ E
  have g1:=RdS.sl (v:=v) (T:=Ty.t0) (sz:=2) (xs:=pcs [⟨0,1⟩,⟨0,3⟩]) (by simp) (by omega) E
  have g2:=RdS.sl (v:=s2) (T:=Ty.t0) (sz:=2) (xs:=pcs [⟨0,1⟩,⟨0,3⟩]) (by simp) (by omega) E
  rw[pcs_len,Nat.mul_div_cancel _ (by omega)]at g1 g2
  repeat with_reducible refine Stp.go ?_
  refine(eqPl_ok (by simp) g1 g2 E).mono ?_
  clear E
  rintro r w_ ⟨rfl,E⟩
  rw[decide_eq_true rfl]
  repeat with_reducible refine Stp.go ?_
  exact fin _ ⟨[_,_,_,_,_,_,_,_,_,_,_,_,_,_],E⟩
 clear hJ5
 refine Eq.ef u_p_World rfl ?_
 repeat with_reducible first|refine Stp.go ?_|refine StpE.go E ?_
 refine(Bind_okM h (by decide) (by decide) E).mono ?_
 clear E
 rintro r w_ ⟨rfl,G⟩
 rw[awk1]
 obtain⟨R1,D1,Xs1,M1,K1,-,hK,-,-,h1,E⟩:=GoS.wr (y:=awB) G
 clear G hK
 repeat first|(with_reducible first|refine Stp.go ?_|refine StpE.go E ?_)|((with_reducible refine Bi.dec false ?_ ?_);focus exact rfl)
 refine(Bind_okM h1 (by decide) (by decide) E).mono ?_
 clear E
 rintro r w_ ⟨rfl,G⟩
 rw[awk2]
 have hb2:(awB.bind ⟨#[47,98]⟩ ⟨#[47,97]⟩ 1).1=awB:=bind_err (by rw[awk2];decide)
 rw[hb2]at G
 obtain⟨R2,D2,Xs2,M2,K2,-,-,-,-,h2,E⟩:=GoS.wr G
 repeat first|(with_reducible first|refine Stp.go ?_)|((with_reducible refine Bi.dec false ?_ ?_);focus exact rfl)
 exact go5 R2 D2 Xs2 M2 K2 _ h2 E
set_option maxRecDepth 100000
set_option linter.unusedVariables false
set_option linter.unusedSimpArgs false
variable {w0 w:World} {F:Nat→Prop} {l r1 r2 r3:List As}
variable {R:List RowS} {D:List Row} {Xs:List PT} {tA:List Nat} {M:TbM} {K:SpM} {N:Int} {y:Sy}
theorem Mount_none{old:BA}{flag:Int}(h:Fit R D Xs tA M K N y)(E:Hs w0 F w (SPl R D Xs tA M K y l)):
  Ca PP Fn.f58 #[ptr K.a,.nilIface,str old,i64 flag] w λr w'=>r=i64 (y.mount none old flag).2∧GoS w0 F l R tA M K N (y.mount none old flag).1 w':=by
 refine S.f58.calls ?_
 unfold S.f58
 refine Eq.ef u_p_Space rfl ?_
 repeat with_reducible refine Stp.go ?_
 refine⟨.bool true,by kernel_rfl,?_⟩
 refine Cnd.t ?_
 exact⟨rfl,h.same E⟩
theorem Mount_okM{k:Nat}{old:BA}{flag:Int}(h:Fit R D Xs tA M K N y)(hk:k<y.Ts.length)(hp:old.size≤1000000)(E:Hs w0 F w (SPl R D Xs tA M K y l)):
  Ca PP Fn.f58 #[ptr K.a,iT (adW tA k),str old,i64 flag] w λr w'=>r=i64 (y.mount (some k) old flag).2∧GoS w0 F l R tA M K N (y.mount (some k) old flag).1 w':=by
 have hinv:=mount_inv h.inv (some k) (λi hi=>by cases hi;exact hk) old flag
 refine S.f58.calls ?_
 unfold S.f58
 refine Eq.ef u_p_Space rfl ?_
 repeat with_reducible refine Stp.go ?_
 refine iT_ne ?_
 repeat with_reducible refine Stp.go ?_
 refine(flags_ok E).mono ?_
 clear E
 rintro r w_ ⟨rfl,E⟩
 unfold Sy.mount at hinv ⊢
 simp only[]at hinv ⊢
 cases hf:flagOk flag with
 |false=>
  repeat with_reducible refine Stp.go ?_
  exact⟨rfl,h.same E⟩
 |true=>
 rw[hf]at hinv
 simp only[reduceCtorEq,if_false]at hinv ⊢
 repeat with_reducible refine Stp.go ?_
 refine(place_okM hp h.ctx0 E).mono ?_
 clear E
 rintro r w_ ⟨rfl,E⟩
 repeat with_reducible first|refine Stp.go ?_|(refine StpW.go E ?_;clear E;intro w_ E)|(refine StpA.go E ?_;clear E;intro b_ w_ hb_ E)
 (revert b_;intro q hbq E)
 have hpl:=place_ok h.inv old
 generalize hP:y.place old=p at*
 refine Bi.neq ?_ ?_<;>intro hpe<;>(repeat with_reducible first|refine Stp.go ?_|refine StpE.go E ?_)
 ·rw[if_pos hpe]
  exact⟨rfl,h.same E.tl⟩
 rw[if_neg (λh=>h hpe)]at hinv ⊢
 refine(isDir_okM hpl (h.ctx0.cons _) E).mono ?_
 clear E
 rintro r w_ ⟨rfl,E⟩
 repeat with_reducible refine Stp.go ?_
 generalize hDB:y.isDir p.1=db at*
 refine Bi.neq ?_ ?_<;>intro hdb<;>(repeat with_reducible refine Stp.go ?_)
 ·rw[if_pos hdb]
  exact⟨rfl,h.same E.tl⟩
 rw[if_neg (λh=>h hdb)]at hinv ⊢
 cases hd1:db.1 with
 |false=>
  repeat with_reducible refine Stp.go ?_
  rw[if_pos rfl]
  exact⟨rfl,h.same E.tl⟩
 |true=>
 rw[hd1]at hinv
 simp only[reduceCtorEq,if_false]at hinv ⊢
 repeat with_reducible first|refine Stp.go ?_|refine StpE.go E ?_
 rw[show(tcs tA y.tb.ts).length=y.tb.ts.length from List.length_map _]
 refine Bi.geq ?_ ?_<;>intro h32<;>(repeat with_reducible first|refine Stp.go ?_|refine StpE.go E ?_|(refine StpW.go E ?_;clear E;intro w_ E))
 ·rw[if_pos (by omega)]
  exact⟨rfl,h.same E.tl⟩
 rw[if_neg (by omega)]at hinv ⊢
 skip
 rw[show(tcs tA y.tb.ts).length=y.tb.ts.length from List.length_map _]
 skip
 refine(Wo.ask (args:=λa=>#[ptr a]) h.wo h.inv.t hk E λX β l0 hb hi hp E=>Root_ok hb hi E).mono ?_
 clear E
 rintro r w_ ⟨⟨rk,rv,rfl⟩,E⟩
 (repeat(with_reducible refine And.intro ?_ ?_;focus ((repeat with_reducible refine StpE.go E ?_);exact rfl)))
 repeat with_reducible first|refine Stp.go ?_|refine StpE.go E ?_
 refine BdS.pl (p:=⟨y.tb.ts.length,0⟩) E ?_
 clear E
 intro v w_ E
 (repeat(with_reducible refine And.intro ?_ ?_;focus ((repeat with_reducible refine StpE.go E ?_);exact rfl)))
 replace E:=Hs.spl2 E
 have hrd:=RdS.sl (v:=v) (T:=Ty.t0) (sz:=2) (xs:=pcs [⟨y.tb.ts.length,0⟩]) (l:=SPl R D Xs tA M K y (slA v Ty.t0 2 (pcs [⟨y.tb.ts.length,0⟩])::pt q (oc [i64 ↑p.1.t,i64 p.1.f] Ty.t0)::l)) (by simp) (by omega) E
 rw[pcs_len,Nat.mul_div_cancel _ (by omega)]at hrd
 refine(set_okM (ps:=[⟨y.tb.ts.length,0⟩]) (mark:=markF flag) (way:=wayF flag) h hpl (by simp) hrd E).mono ?_
 clear E
 rintro r w_ ⟨rfl,G⟩
 have hse:=@setM_err y.tb.ms p.1 [⟨y.tb.ts.length,0⟩] (markF flag) (wayF flag)
 generalize hS:setM y.tb.ms p.1 [⟨y.tb.ts.length,0⟩] (markF flag) (wayF flag)=S at*
 refine Bi.neq ?_ ?_<;>intro hsn<;>(repeat with_reducible refine Stp.go ?_)
 ·rw[if_pos hsn]at hinv ⊢
  rw[hse hsn]at G
  exact⟨rfl,(h.setG G hinv).tl.tl⟩
 rw[if_neg (λh=>h hsn)]at hinv ⊢
 obtain⟨R',M',hM1,hM2,hR,hT,E⟩:=G
 repeat with_reducible first|refine Stp.go ?_|refine StpE.go E ?_|(refine StpW.go E ?_;clear E;intro w_ E)
 refine BdS.one E u_sl_api_Tree e_api_Tree rfl ?_
 clear E
 intro s1 w_ E
 (repeat(with_reducible refine And.intro ?_ ?_;focus ((repeat with_reducible refine StpE.go E ?_);exact rfl)))
 refine Ap.one E (i:=4) rfl u_sl_api_Tree ⟨_,u_sl_api_Tree,λ_ h=>by cases h⟩ e_api_Tree (Src.slice (E.sat _ List.mem_cons_self) (n:=1) rfl (by omega) rfl) rfl (by rw[List.length_map];show(y.tb.ts.length+1)*16≤_;omega) (by rw[List.length_map];show y.tb.ts.length+1≤_;omega) ?_
 clear E
 intro s2 w_ E
 simp only[List.set_cons_zero,List.set_cons_succ]at E
 replace E:=E.tl
 have is2:Scal s2:=⟨Hs.slScal E FSl.mem⟩
 (repeat(with_reducible refine And.intro ?_ ?_;focus ((repeat with_reducible refine StpE.go E ?_);exact rfl)))
 repeat with_reducible first|refine Stp.go ?_|(refine StpW.go E ?_;clear E;intro w_ E)
 rw[show tcs tA y.tb.ts++[iT (adW tA k)]=tcs tA (y.tb.ts++[k]) by simp only[tcs,List.map_append,List.map_cons,List.map_nil]]at E
 refine⟨rfl,GoS.tl (GoS.tl ⟨R',D,Xs,{M' with tv:=s2},K,hM1,rfl,rfl,hR,⟨⟨hT.len,hT.row⟩,h.sp.mono hR,h.wo,hinv⟩,E⟩)⟩
set_option maxRecDepth 100000
set_option linter.unusedVariables false
set_option linter.unusedSimpArgs false
variable {w0 w:World} {F:Nat→Prop} {l r1 r2 r3:List As}
variable {R:List RowS} {D:List Row} {Xs:List PT} {tA:List Nat} {M:TbM} {K:SpM} {N:Int} {y:Sy}
theorem flat_erase{α:Type}{g:α→List Value}{sz:Nat}(h:∀a,(g a).length=sz):∀{L:List α} {i:Nat},i<L.length→(L.flatMap g).take (i*sz)++(L.flatMap g).drop ((i+1)*sz)=(L.eraseIdx i).flatMap g
 |[],i,hi=>by simp at hi
 |x::r,0,hi=>by
  rw[Nat.zero_mul,List.take_zero,List.nil_append,Nat.zero_add,Nat.one_mul,List.flatMap_cons,← h x,List.drop_left]
  rfl
 |x::r,i+1,hi=>by
  have ih:=flat_erase h (L:=r) (i:=i) (by simpa using hi)
  rw[List.flatMap_cons,show(i+1)*sz=(g x).length+i*sz by rw[h,Nat.succ_mul];omega,show(i+1+1)*sz=(g x).length+(i+1)*sz by rw[h,Nat.succ_mul (i+1)];omega,List.take_length_add_append,List.drop_length_add_append,List.append_assoc,ih]
  rfl
theorem zip_erase{α β:Type}:∀{L:List α} {V:List β} {i:Nat},(L.zip V).eraseIdx i=(L.eraseIdx i).zip (V.eraseIdx i)
 |[],_,_=>by simp
 |_::_,[],i=>by cases i<;>simp
 |a::r,b::s,0=>rfl
 |a::r,b::s,i+1=>by
  simp only[List.zip_cons_cons,List.eraseIdx_cons_succ,zip_erase]
theorem map_erase{α β:Type}{f:α→β}:∀{l:List α} {i:Nat},(l.map f).eraseIdx i=(l.eraseIdx i).map f
 |[],_=>by simp
 |_::_,0=>rfl
 |a::r,i+1=>by simp only[List.map_cons,List.eraseIdx_cons_succ,map_erase]
theorem DelP_ok{v:Value}{ps:List Pl}{k:Nat}(hk:k<ps.length)(E:Hs w0 F w (slA v Ty.t0 2 (pcs ps)::l)):
  Ca PP Fn.f24 #[v,i64 (k:Int),i64 ((k:Int)+1)] w λr w'=>Hs w0 F w' (slA r Ty.t0 2 (pcs (ps.eraseIdx k))::l):=by
 refine S.f24.calls ?_
 unfold S.f24
 rw[show((k:Int)+1)=((k+1:Nat):Int) by omega]
 refine Del.sl (i:=k) (j:=k+1) (k:=λr w'=>Hs w0 F w' (slA r Ty.t0 2 (pcs (ps.eraseIdx k))::l)) E u_sl_Place e_Place (by omega) rfl rfl (by omega) (by rw[pcs_len];omega) (pcs_scal ps) ?_
 intro v' w' E
 rw[flat_erase (g:=Pl.cs) (sz:=2) (λ_=>rfl) hk]at E
 exact E
theorem DelB_ok{v:Value}{bs:List Bool}{k:Nat}(hk:k<bs.length)(E:Hs w0 F w (slA v Ty.bool 1 (bcs bs)::l)):
  Ca PP Fn.f53 #[v,i64 (k:Int),i64 ((k:Int)+1)] w λr w'=>Hs w0 F w' (slA r Ty.bool 1 (bcs (bs.eraseIdx k))::l):=by
 refine S.f53.calls ?_
 unfold S.f53
 rw[show((k:Int)+1)=((k+1:Nat):Int) by omega]
 refine Del.sl (i:=k) (j:=k+1) (k:=λr w'=>Hs w0 F w' (slA r Ty.bool 1 (bcs (bs.eraseIdx k))::l)) E u_sl_bool e_bool (by omega) rfl rfl (by omega) (by simp;omega) (bcs_scal bs) ?_
 intro v' w' E
 rw[Nat.mul_one,Nat.mul_one,← List.eraseIdx_eq_take_drop_succ,show(bcs bs).eraseIdx k=bcs (bs.eraseIdx k)from map_erase]at E
 exact E
theorem RdyS.scal{n sz:Nat}{T:TypeId}{v:Value}{xs:List Value}(h:RdyS R T sz v xs)(hl:xs.length=n*sz)(hz:0<sz)(hR:PoolS R∈l)(E:Hs w0 F w l):scalV v=true:=by
 obtain⟨a,c,h1,-⟩:=h.read (n:=n) hl hz E hR
 rw[h1];rfl
theorem mcs_scal{tb:Tb}(h:TbT R M tb)(hR:PoolS R∈l)(E:Hs w0 F w l):(mcs tb.ms M.vs).all scalV=true:=by
 rw[List.all_eq_true]
 intro v hv
 obtain⟨⟨m,x⟩,hx,hv⟩:=List.mem_flatMap.1 hv
 obtain⟨i,hi⟩:=List.mem_iff_getElem?.1 hx
 rw[List.getElem?_zip_eq_some]at hi
 obtain⟨g1,g2⟩:=h.row i m x hi.1 hi.2
 have s1:=RdyS.scal (n:=m.new.length) g1 (pcs_len _) (by omega) hR E
 have s2:=RdyS.scal (n:=m.cr.length) g2 (by simp) (by omega) hR E
 simp only[List.mem_cons,List.not_mem_nil,or_false]at hv
 rcases hv with rfl|rfl|rfl|rfl
 ·rfl
 ·rfl
 ·exact s1
 ·exact s2
theorem DelM_ok{v:Value}{ms:List Mt}{vs:List (Value×Value)}{k:Nat}(hk:k<ms.length)(hl:vs.length=ms.length)(hs:(mcs ms vs).all scalV=true)(E:Hs w0 F w (slA v Ty.t22 4 (mcs ms vs)::l)):
  Ca PP Fn.f23 #[v,i64 (k:Int),i64 ((k:Int)+1)] w λr w'=>Hs w0 F w' (slA r Ty.t22 4 (mcs (ms.eraseIdx k) (vs.eraseIdx k))::l):=by
 refine S.f23.calls ?_
 unfold S.f23
 rw[show((k:Int)+1)=((k+1:Nat):Int) by omega]
 refine Del.sl (i:=k) (j:=k+1) (k:=λr w'=>Hs w0 F w' (slA r Ty.t22 4 (mcs (ms.eraseIdx k) (vs.eraseIdx k))::l)) E u_sl_Mount e_Mount (by omega) rfl rfl (by omega) (by rw[mcs_len hl];omega) hs ?_
 intro v' w' E
 have e:(mcs ms vs).take (k*4)++(mcs ms vs).drop ((k+1)*4)=mcs (ms.eraseIdx k) (vs.eraseIdx k):=by
  unfold mcs
  rw[flat_erase (g:=mtG) (sz:=4) (λ_=>rfl) (by rw[List.length_zip,hl];omega),zip_erase]
 rw[e]at E
 exact E
theorem rows_erase{R:List RowS}{ms:List Mt}{vs:List (Value×Value)}{j:Nat}
  (h:∀(i:Nat) m v,ms[i]? =some m→vs[i]? =some v→RdyS R Ty.t0 2 v.1 (pcs m.new)∧RdyS R Ty.bool 1 v.2 (bcs m.cr)):
  ∀(i:Nat) m v,(ms.eraseIdx j)[i]? =some m→(vs.eraseIdx j)[i]? =some v→RdyS R Ty.t0 2 v.1 (pcs m.new)∧RdyS R Ty.bool 1 v.2 (bcs m.cr):=by
 intro i m v h1 h2
 rw[List.getElem?_eraseIdx]at h1 h2
 split at h1
 ·rename_i hi
  rw[if_pos hi]at h2
  exact h i m v h1 h2
 ·rename_i hi
  rw[if_neg hi]at h2
  exact h (i+1) m v h1 h2
theorem Hs.pool3{R:List RowS}{d e f g h:As}{v t:Value}{T T':TypeId}{z z':Nat}{x x':List Value}(E:Hs w0 F w (slA t T' z' x'::slA v T z x::d::e::f::g::h::PoolS R::l)):
  Hs w0 F w (d::e::f::g::h::PoolS ((⟨t,T',z',x'⟩:RowS)::⟨v,T,z,x⟩::R)::l):=by
 have E1:=Hs.poolS T ((E.bIx 7).bIx 2)
 have E2:=Hs.poolS T' (E1.bIx 1)
 exact((((E2.bIx 5).bIx 5).bIx 5).bIx 5).bIx 5
set_option maxRecDepth 100000
set_option linter.unusedVariables false
set_option linter.unusedSimpArgs false
variable {w0 w:World} {F:Nat→Prop} {l r1 r2 r3:List As}
variable {R:List RowS} {D:List Row} {Xs:List PT} {tA:List Nat} {M:TbM} {K:SpM} {N:Int} {y:Sy}
theorem Unmount_okM{path old:BA}(h:Fit R D Xs tA M K N y)(hp1:path.size≤1000000)(hp2:old.size≤1000000)(E:Hs w0 F w (SPl R D Xs tA M K y l)):
  Ca PP Fn.f89 #[ptr K.a,str path,str old] w λr w'=>r=i64 (y.unmount path old).2∧GoS w0 F l R tA M K N (y.unmount path old).1 w':=by
 have hinv:=unmount_inv h.inv path old
 refine S.f89.calls ?_
 unfold S.f89
 refine(place_okM hp2 h.ctx0 E).mono ?_
 clear E
 rintro r w_ ⟨rfl,E⟩
 generalize hU:y.unmount path old=U at hinv ⊢
 unfold Sy.unmount at hU
 simp only[]at hU
 repeat with_reducible first|refine Stp.go ?_|(refine StpW.go E ?_;clear E;intro w_ E)|(refine StpA.go E ?_;clear E;intro b_ w_ hb_ E)
 (revert b_;intro q hbq E)
 have hpl:=place_ok h.inv old
 generalize hP:y.place old=p at*
 refine Bi.neq ?_ ?_<;>intro hpe<;>(repeat with_reducible first|refine Stp.go ?_|refine StpE.go E ?_|(refine StpW.go E ?_;clear E;intro w_ E))
 ·rw[if_pos hpe]at hU
  subst hU
  exact⟨rfl,h.same E.tl⟩
 rw[if_neg (λh=>h hpe)]at hU
 refine(find_okM (M:=M) (p:=p.1) (by simp) h.tb.len h.inv.tb.ms E).mono ?_
 clear E
 rintro r w_ ⟨rfl,E⟩
 have hms:=h.inv.tb.ms
 have hid:fdI y.tb.ms p.1=if idxM y.tb.ms p.1<y.tb.ms.length then(idxM y.tb.ms p.1:Int)else -1:=rfl
 rw[hid]
 generalize hI:idxM y.tb.ms p.1=i at*
 intro J16 hJ16
 -- the mount is taken away
 have good16:i<y.tb.ms.length→U=({y with tb:={y.tb with ms:=y.tb.ms.eraseIdx i}},0)→∀(R':List RowS) (M':TbM) (ms':List Mt) w_,M'.a=M.a→(∀x∈R,x∈R')→TbT R' M' {y.tb with ms:=ms'}→ms'.length=y.tb.ms.length→ms'.eraseIdx i=y.tb.ms.eraseIdx i→
   Hs w0 F w_ (SPl R' D Xs tA M' K {y with tb:={y.tb with ms:=ms'}} (pt q (oc p.1.cs Ty.t0)::l))→J16 [] w_:=by
  intro hlt hUe R' M' ms' w_ hMa hR hT hml hme E
  refine hJ16 w_ λu=>?_
  clear hJ16
  subst hUe
  rw[if_pos hlt]
  refine Bi.lss (λh=>absurd h (by omega)) (λ_=>Cnd.f ?_)
  repeat with_reducible first|refine Stp.go ?_|refine StpE.go E ?_|(refine StpW.go E ?_;clear E;intro w_ E)
  refine Bi.add (by omega) ?_
  have hsc:=mcs_scal hT (by simp) E
  have hTl:=hT.len
  simp only[]at hTl
  replace E:=E.bIx 4
  refine(DelM_ok (by rw[hml];exact hlt) hTl hsc E).mono ?_
  clear E
  intro v w_ E
  have iv:Scal v:=⟨Hs.slScal E FSl.mem⟩
  (repeat(with_reducible refine And.intro ?_ ?_;focus ((repeat with_reducible refine StpE.go E ?_);exact rfl)))
  repeat with_reducible first|refine Stp.go ?_|(refine StpW.go E ?_;clear E;intro w_ E)
  (replace E:=(((((E.bIx 0).bIx 4).bIx 4).bIx 4).bIx 4))
  rw[hme]at E
  exact⟨rfl,GoS.tl ⟨R',D,Xs,{M' with mv:=v,vs:=M'.vs.eraseIdx i},K,hMa,rfl,rfl,hR,⟨⟨by show(M'.vs.eraseIdx i).length=(y.tb.ms.eraseIdx i).length;rw[List.length_eraseIdx,List.length_eraseIdx,hTl,hml],by show ∀(j:Nat) m v,(y.tb.ms.eraseIdx i)[j]? =some m→_;rw[← hme];exact rows_erase hT.row⟩,h.sp.mono hR,h.wo,hinv⟩,E⟩⟩
 have bad16:¬i<y.tb.ms.length→U=(y,23)→∀w_,Hs w0 F w_ (pt q (oc p.1.cs Ty.t0)::SPl R D Xs tA M K y l)→J16 [] w_:=by
  intro hlt hUe w_ E
  refine hJ16 w_ λu=>?_
  clear hJ16 good16
  subst hUe
  rw[if_neg hlt]
  refine Bi.lss (λ_=>Cnd.t ?_) (λh=>absurd h (by decide))
  exact⟨rfl,h.same E.tl⟩
 clear hJ16
 refine Bi.sneq ?_ ?_<;>intro hpe2<;>(repeat with_reducible refine Stp.go ?_)
 ·have hpn:path≠emp:=hpe2
  refine(place_okM hp1 (h.ctx0.cons _) E).mono ?_
  clear E
  rintro r w_ ⟨rfl,E⟩
  generalize hQ:y.place path=Q at*
  repeat with_reducible first|refine Stp.go ?_|(refine StpW.go E ?_;clear E;intro w_ E)|(refine StpA.go E ?_;clear E;intro b_ w_ hb_ E)
  (revert b_;intro z hbz E)
  refine Bi.neq ?_ ?_<;>intro hqe<;>(repeat with_reducible refine Stp.go ?_)
  ·rw[if_pos ⟨hpn,hqe⟩]at hU
   subst hU
   exact⟨rfl,h.same E.tl.tl⟩
  rw[if_neg (λh=>h.2 hqe)]at hU
  intro J46 hJ46
  have bad46:U=(y,23)→∀w_,Hs w0 F w_ (pt z (oc Q.1.cs Ty.t0)::pt q (oc p.1.cs Ty.t0)::SPl R D Xs tA M K y l)→J46 [i64 (-1)] w_:=by
   intro hUe w_ E
   refine hJ46 _ w_ λu=>?_
   clear hJ46
   subst hUe
   refine Bi.lss (λ_=>Cnd.t ?_) (λh=>absurd h (by decide))
   exact⟨rfl,h.same E.tl.tl⟩
  by_cases hlt:i<y.tb.ms.length
  ·rw[List.getElem?_eq_getElem hlt]at hU
   simp only[]at hU
   rw[if_neg hpn]at hU
   have hmi:=h.inv.tb.m _ (List.getElem_mem hlt)
   have hzl:(y.tb.ms.zip M.vs)[i]? =some (y.tb.ms[i],M.vs[i]'(by rw[h.tb.len];exact hlt)):=by
    rw[List.getElem?_zip_eq_some]
    exact⟨List.getElem?_eq_getElem hlt,List.getElem?_eq_getElem (by rw[h.tb.len];exact hlt)⟩
   obtain⟨y1,y2⟩:=h.tb.row _ _ _ (List.getElem?_eq_getElem hlt) (List.getElem?_eq_getElem (show i<M.vs.length by rw[h.tb.len];exact hlt))
   generalize hm:y.tb.ms[i]=m at*
   generalize M.vs[i]'(by rw[h.tb.len];exact hlt)=mv at*
   have good46:Q.1∈m.new→∀w_,Hs w0 F w_ (pt z (oc Q.1.cs Ty.t0)::pt q (oc p.1.cs Ty.t0)::SPl R D Xs tA M K y l)→J46 [i64 (m.new.idxOf Q.1:Int)] w_:=by
    intro hin w_ E
    refine hJ46 _ w_ λu=>?_
    clear hJ46 bad46
    rw[if_neg (λh=>h hin)]at hU
    have hk:=List.idxOf_lt_length_of_mem hin
    generalize m.new.idxOf Q.1=k at*
    refine Bi.lss (λh=>absurd h (by omega)) (λ_=>Cnd.f ?_)
    rw[if_pos hlt]
    repeat with_reducible first|refine Stp.go ?_|refine StpE.go E ?_
    refine IxA.rw (L:=y.tb.ms.zip M.vs) (g:=mtG) mtG_len E (v:=M.mv) (T:=Ty.t22) (by simp[mcs]) (by omega) (by omega) (by rw[Int.toNat_natCast,List.length_zip,h.tb.len];omega) ?_
    intro a ha
    rw[Int.toNat_natCast]at ha
    repeat with_reducible first|refine Stp.go ?_|(refine StpW.go E ?_;clear E;intro w_ E)
    refine Fa.el ha ?_
    intro a2 ha2
    refine Ld.rw (L:=y.tb.ms.zip M.vs) (i:=i) (c:=2) (g:=mtG) mtG_len E (v:=M.mv) (T:=Ty.t22) (by simp[mcs]) ha2 hzl (by omega) rfl ?_
    refine Bi.add (by have:=hmi.few;omega) ?_
    repeat with_reducible refine Stp.go ?_
    refine Fa.el ha ?_
    intro a3 ha3
    refine Ld.rw (L:=y.tb.ms.zip M.vs) (i:=i) (c:=3) (g:=mtG) mtG_len E (v:=M.mv) (T:=Ty.t22) (by simp[mcs]) ha3 hzl (by omega) rfl ?_
    refine Bi.add (by have:=hmi.few;omega) ?_
    have g1:=y1.read (n:=m.new.length) (pcs_len _) (by omega) E (by simp)
    have g2:=y2.read (n:=m.cr.length) (by simp) (by omega) E (by simp)
    refine(CloneP_ok g1 (by have:=hmi.few;omega) E).mono ?_
    clear E
    intro c1 w_ E
    refine And.intro (Ld.rw (L:=y.tb.ms.zip M.vs) (i:=i) (c:=3) (g:=mtG) mtG_len E (v:=M.mv) (T:=Ty.t22) (by simp[mcs]) ha3 hzl (by omega) rfl rfl) ?_
    refine(DelP_ok hk E).mono ?_
    clear E
    intro d1 w_ E
    refine And.intro (Ld.rw (L:=y.tb.ms.zip M.vs) (i:=i) (c:=3) (g:=mtG) mtG_len E (v:=M.mv) (T:=Ty.t22) (by simp[mcs]) ha3 hzl (by omega) rfl rfl) ?_
    refine(CloneB_ok (g2.cons _) (by have:=hmi.few;have:=hmi.cr;omega) E).mono ?_
    clear E
    intro c2 w_ E
    refine(DelB_ok (by rw[hmi.cr];exact hk) E).mono ?_
    clear E
    intro d2 w_ E
    have id1:Scal d1:=⟨Hs.slScal E FSl.mem⟩
    have id2:Scal d2:=⟨Hs.slScal E FSl.mem⟩
    repeat with_reducible refine Stp.go ?_
    refine Fa.el ha ?_
    intro a4 ha4
    refine St.rw (j:=8) (i:=i) (c:=2) (y:=(⟨m.old,m.new,m.cr⟩,(d1,mv.2))) (L:=y.tb.ms.zip M.vs) (g:=mtG) mtG_len E rfl ha4 hzl (by omega) id1.s rfl ?_
    clear E
    intro w_ E
    simp only[List.set_cons_zero,List.set_cons_succ]at E
    repeat with_reducible refine Stp.go ?_
    refine Fa.el ha ?_
    intro a5 ha5
    have hlz:i<(y.tb.ms.zip M.vs).length:=(List.getElem?_eq_some_iff.1 hzl).1
    refine St.rw (j:=8) (i:=i) (c:=3) (x:=(⟨m.old,m.new,m.cr⟩,(d1,mv.2))) (y:=(⟨m.old,m.new.eraseIdx k,m.cr.eraseIdx k⟩,(d1,d2))) (L:=(y.tb.ms.zip M.vs).set i (⟨m.old,m.new,m.cr⟩,(d1,mv.2))) (g:=mtG) mtG_len E rfl ha5 (List.getElem?_set_self hlz) (by omega) id2.s rfl ?_
    clear E
    intro w_ E
    simp only[List.set_cons_zero,List.set_cons_succ]at E
    rw[List.set_set,mcs_set]at E
    replace E:=(E.bIx 2).tl
    (replace E:=(((((((((((E.bIx 2).bIx 10).bIx 10).bIx 10).bIx 10).bIx 10).bIx 10).bIx 10).bIx 10).bIx 10).bIx 10))
    replace E:=Hs.pool3 E
    have hR:∀x∈R,x∈(⟨d2,Ty.bool,1,bcs (m.cr.eraseIdx k)⟩:RowS)::⟨d1,Ty.t0,2,pcs (m.new.eraseIdx k)⟩::R:=λx hx=>List.mem_cons_of_mem _ (List.mem_cons_of_mem _ hx)
    have hrow:RdyS ((⟨d2,Ty.bool,1,bcs (m.cr.eraseIdx k)⟩:RowS)::⟨d1,Ty.t0,2,pcs (m.new.eraseIdx k)⟩::R) Ty.t0 2 d1 (pcs (m.new.eraseIdx k))∧RdyS ((⟨d2,Ty.bool,1,bcs (m.cr.eraseIdx k)⟩:RowS)::⟨d1,Ty.t0,2,pcs (m.new.eraseIdx k)⟩::R) Ty.bool 1 d2 (bcs (m.cr.eraseIdx k)):=
     ⟨.inr (List.mem_cons_of_mem _ List.mem_cons_self),.inr List.mem_cons_self⟩
    have hT2:TbT ((⟨d2,Ty.bool,1,bcs (m.cr.eraseIdx k)⟩:RowS)::⟨d1,Ty.t0,2,pcs (m.new.eraseIdx k)⟩::R) {M with vs:=M.vs.set i (d1,d2)} {y.tb with ms:=y.tb.ms.set i ⟨m.old,m.new.eraseIdx k,m.cr.eraseIdx k⟩}:=
     ⟨by show(M.vs.set i _).length=(y.tb.ms.set i _).length;rw[List.length_set,List.length_set,h.tb.len],rows_set h.tb.len hR hrow h.tb.row⟩
    generalize ((⟨d2,Ty.bool,1,bcs (m.cr.eraseIdx k)⟩:RowS)::⟨d1,Ty.t0,2,pcs (m.new.eraseIdx k)⟩::R)=R2 at*
    replace E:Hs w0 F w_ (SPl R2 D Xs tA {M with vs:=M.vs.set i (d1,d2)} K {y with tb:={y.tb with ms:=y.tb.ms.set i ⟨m.old,m.new.eraseIdx k,m.cr.eraseIdx k⟩}} (pt q (oc p.1.cs Ty.t0)::l)):=E
    have hlz2:((y.tb.ms.set i ⟨m.old,m.new.eraseIdx k,m.cr.eraseIdx k⟩).zip (M.vs.set i (d1,d2)))[i]? =some (⟨m.old,m.new.eraseIdx k,m.cr.eraseIdx k⟩,(d1,d2)):=by
     rw[← mcs_set];exact List.getElem?_set_self hlz
    intro J83 hJ83
    have yes:¬(m.new.eraseIdx k=[]∨m.new.eraseIdx k=[p.1])→∀w_,Hs w0 F w_ (SPl R2 D Xs tA {M with vs:=M.vs.set i (d1,d2)} K {y with tb:={y.tb with ms:=y.tb.ms.set i ⟨m.old,m.new.eraseIdx k,m.cr.eraseIdx k⟩}} (pt q (oc p.1.cs Ty.t0)::l))→J83 [.bool true] w_:=by
     intro hb w_ E
     refine hJ83 _ w_ λu=>Cnd.t ?_
     rw[if_pos ⟨λh=>hb (.inl h),λh=>hb (.inr h)⟩]at hU
     subst hU
     exact⟨rfl,GoS.tl ⟨R2,D,Xs,{M with vs:=M.vs.set i (d1,d2)},K,rfl,rfl,rfl,hR,⟨hT2,h.sp.mono hR,h.wo,hinv⟩,E⟩⟩
    have no:(m.new.eraseIdx k=[]∨m.new.eraseIdx k=[p.1])→∀w_,Hs w0 F w_ (SPl R2 D Xs tA {M with vs:=M.vs.set i (d1,d2)} K {y with tb:={y.tb with ms:=y.tb.ms.set i ⟨m.old,m.new.eraseIdx k,m.cr.eraseIdx k⟩}} (pt q (oc p.1.cs Ty.t0)::l))→J83 [.bool false] w_:=by
     intro hb w_ E
     refine hJ83 _ w_ λu=>Cnd.f ?_
     rw[if_neg (λh=>hb.elim h.1 h.2)]at hU
     exact good16 hlt hU.symm R2 {M with vs:=M.vs.set i (d1,d2)} _ w_ rfl hR hT2 (List.length_set) erase_set E
    clear hJ83 good16 bad16 hU hinv
    repeat with_reducible first|refine Stp.go ?_|(refine StpW.go E ?_;clear E;intro w_ E)
    refine Fa.el ha ?_
    intro a6 ha6
    refine Ld.rw (L:=(y.tb.ms.set i ⟨m.old,m.new.eraseIdx k,m.cr.eraseIdx k⟩).zip (M.vs.set i (d1,d2))) (i:=i) (c:=2) (g:=mtG) mtG_len E (v:=M.mv) (T:=Ty.t22) (by simp[mcs]) ha6 hlz2 (by omega) rfl ?_
    have g1:=hrow.1.read (n:=(m.new.eraseIdx k).length) (pcs_len _) (by omega) E (by simp)
    refine g1.len ?_
    refine Bi.gtr ?_ ?_<;>intro hgt<;>(repeat with_reducible refine Stp.go ?_)
    ·refine Fa.el ha ?_
     intro a7 ha7
     repeat with_reducible refine Stp.go ?_
     refine Ld.rw (L:=(y.tb.ms.set i ⟨m.old,m.new.eraseIdx k,m.cr.eraseIdx k⟩).zip (M.vs.set i (d1,d2))) (i:=i) (c:=2) (g:=mtG) mtG_len E (v:=M.mv) (T:=Ty.t22) (by simp[mcs]) ha7 hlz2 (by omega) rfl ?_
     repeat with_reducible first|refine Stp.go ?_|refine StpE.go E ?_
     refine BdS.pl (p:=p.1) E ?_
     clear E
     intro s w_ E
     refine And.intro ?_ ?_
     ·(repeat with_reducible refine Stp.go ?_)
      refine Ld.rw (L:=(y.tb.ms.set i ⟨m.old,m.new.eraseIdx k,m.cr.eraseIdx k⟩).zip (M.vs.set i (d1,d2))) (i:=i) (c:=2) (g:=mtG) mtG_len E (v:=M.mv) (T:=Ty.t22) (by simp[mcs]) ha7 hlz2 (by omega) rfl ?_
      rfl
     have g2:=RdS.sl (v:=s) (T:=Ty.t0) (sz:=2) (xs:=pcs [p.1]) (by simp) (by omega) E
     rw[pcs_len,Nat.mul_div_cancel _ (by omega)]at g2
     repeat with_reducible refine Stp.go ?_
     refine(eqPl_ok (by have:=hmi.few;have:=List.length_eraseIdx_le m.new k;omega) (g1.cons _) g2 E).mono ?_
     clear E
     rintro r w_ ⟨rfl,E⟩
     replace E:=E.tl
     by_cases hb:m.new.eraseIdx k=[p.1]
     ·rw[decide_eq_true hb]
      repeat with_reducible refine Stp.go ?_
      exact no (.inr hb) _ E
     ·rw[decide_eq_false hb]
      repeat with_reducible refine Stp.go ?_
      refine yes ?_ _ E
      rintro(h1|h1)
      ·rw[h1]at hgt;simp at hgt
      ·exact hb h1
    ·(repeat(with_reducible refine And.intro ?_ ?_;focus ((repeat with_reducible refine Stp.go ?_);exact rfl)))
     repeat with_reducible refine Stp.go ?_
     exact no (.inl (List.length_eq_zero_iff.1 (by omega))) _ E
   clear hJ46
   refine Bi.geq (λ_=>?_) (λh=>absurd h (by rw[if_pos hlt];omega))
   repeat with_reducible first|refine Stp.go ?_|refine StpE.go E ?_|(refine StpW.go E ?_;clear E;intro w_ E)
   rw[if_pos hlt]
   refine IxA.rw (L:=y.tb.ms.zip M.vs) (g:=mtG) mtG_len E (v:=M.mv) (T:=Ty.t22) (by simp[mcs]) (by omega) (by omega) (by rw[Int.toNat_natCast,List.length_zip,h.tb.len];omega) ?_
   intro a ha
   rw[Int.toNat_natCast]at ha
   refine Fa.el ha ?_
   intro a2 ha2
   refine Ld.rw (L:=y.tb.ms.zip M.vs) (i:=i) (c:=2) (g:=mtG) mtG_len E (v:=M.mv) (T:=Ty.t22) (by simp[mcs]) ha2 hzl (by omega) rfl ?_
   repeat with_reducible refine StpE.go E ?_
   have g1:=y1.read (n:=m.new.length) (pcs_len _) (by omega) E (by simp)
   refine(IndexP_ok (by have:=hmi.few;omega) g1 E).mono ?_
   clear E
   rintro r w_ ⟨rfl,E⟩
   by_cases hin:Q.1∈m.new
   ·rw[if_pos hin]
    exact good46 hin _ E
   ·rw[if_neg hin]
    rw[if_pos hin]at hU
    exact bad46 hU.symm _ E
  ·rw[List.getElem?_eq_none (by omega)]at hU
   simp only[]at hU
   refine Bi.geq (λh=>absurd h (by rw[if_neg hlt];decide)) (λ_=>?_)
   repeat with_reducible refine Stp.go ?_
   exact bad46 hU.symm _ E
 ·have hpn:path=emp:=hpe2
  rw[if_neg (λh=>h.1 hpn)]at hU
  by_cases hlt:i<y.tb.ms.length
  ·rw[List.getElem?_eq_getElem hlt]at hU
   simp only[]at hU
   rw[if_pos hpn]at hU
   exact good16 hlt hU.symm R M y.tb.ms _ rfl (λ_ h=>h) h.tb rfl rfl (Hs.spl E)
  ·rw[List.getElem?_eq_none (by omega)]at hU
   simp only[]at hU
   exact bad16 hlt hU.symm _ E
set_option maxRecDepth 100000
set_option linter.unusedVariables false
set_option linter.unusedSimpArgs false
variable {w0 w:World} {F:Nat→Prop} {l r1 r2 r3:List As}
variable {R:List RowS} {D:List Row} {Xs:List PT} {tA:List Nat} {M:TbM} {K:SpM} {N:Int} {y:Sy}

theorem first_rd{v:Value}{L:List Pl}(hne:L≠[])(h:RdS w0 F l 2 L.length v (pcs L)){k:Value→Prop}(hk:∀a,RdP w0 F l a ((L.getD 0 p0).cs++pcs (L.drop 1))→k (.pointer (some a))):IxA 2 v (i64 0) k:=by
 have hpos:0<L.length:=List.length_pos_iff.2 hne
 refine h.ix (by omega) (by simpa using hpos) (by omega) ?_
 intro a ha
 rw[show((0:Int).toNat*2)=0*2 from rfl,pcs_drop,List.drop_eq_getElem_cons hpos]at ha
 have e0:L[0]=L.getD 0 p0:=by rw[List.getD_eq_getElem?_getD,List.getElem?_eq_getElem hpos];rfl
 rw[e0]at ha
 exact hk a ha
theorem Chdir_okM{path:BA}(h:Fit R D Xs tA M K N y)(hp:path.size≤1000000)(E:Hs w0 F w (SPl R D Xs tA M K y l)):
  Ca PP Fn.f103 #[ptr K.a,str path] w λr w'=>r=i64 (y.chdir path).2∧GoS w0 F l R tA M K N (y.chdir path).1 w':=by
 have hinv:=chdir_inv h.inv path
 refine S.f103.calls ?_
 unfold S.f103
 refine(where_okM hp h.ctx0 E).mono ?_
 clear E
 rintro r w_ ⟨v,rfl,E⟩
 unfold Sy.chdir at hinv ⊢
 simp only[]at hinv ⊢
 have hw:=where_ok h.inv path
 have hhd:(y.where_ path).2=0→((y.where_ path).1.getD 0 p0).t<y.tb.ts.length:=head_ok h.inv
 generalize y.where_ path=L at*
 repeat with_reducible refine Stp.go ?_
 refine Bi.neq ?_ ?_<;>intro he<;>(repeat with_reducible refine Stp.go ?_)
 ·rw[if_pos he]
  exact⟨rfl,h.same E.tl⟩
 rw[if_neg (λh=>h he)]at hinv ⊢
 have hne:=hw.2.2 he
 have hh:=hhd he
 have hrd0:RdS w0 F [slA v Ty.t0 2 (pcs L.1)] 2 L.1.length v (pcs L.1):=by
  have:=RdS.sl (v:=v) (T:=Ty.t0) (sz:=2) (xs:=pcs L.1) (l:=[slA v Ty.t0 2 (pcs L.1)]) (by simp) (by omega) (E.drop (List.singleton_sublist.2 (by simp)))
  rwa [pcs_len,Nat.mul_div_cancel _ (by omega)]at this
 refine first_rd hne hrd0 ?_
 intro a ha
 generalize hA:L.1.getD 0 p0=pa at*
 refine(ha.weaken λ_ E=>E.drop (List.singleton_sublist.2 (by simp))).lda E (m:=2) (ds:=pa.cs) rfl rfl (by omega) ?_
 refine(isDir_okM hh (h.ctx0.cons _) E).mono ?_
 clear E
 rintro r w_ ⟨rfl,E⟩
 repeat with_reducible refine Stp.go ?_
 generalize hDA:y.isDir pa=da at*
 refine Bi.neq ?_ ?_<;>intro hda<;>(repeat with_reducible refine Stp.go ?_)
 ·rw[if_pos hda]
  exact⟨rfl,h.same E.tl⟩
 rw[if_neg (λh=>h hda)]at hinv ⊢
 cases hd1:da.1 with
 |false=>
  repeat with_reducible refine Stp.go ?_
  rw[if_pos rfl]
  exact⟨rfl,h.same E.tl⟩
 |true=>
 rw[hd1]at hinv
 simp only[reduceCtorEq,if_false]at hinv ⊢
 repeat with_reducible first|refine Stp.go ?_|refine StpE.go E ?_|(refine StpW.go E ?_;clear E;intro w_ E)
 refine first_rd hne hrd0 ?_
 intro a2 ha2
 rw[hA]at ha2
 refine ha2.fa (by simp[Pl.cs]) ?_
 intro a3 ha3
 refine(ha3.weaken λ_ E=>E.drop (List.singleton_sublist.2 (by simp))).ld E (x:=i64 (pa.t:Int)) rfl ?_
 have C1:=(h.ctx0 (l:=l)).cons (slA v Ty.t0 2 (pcs L.1))
 refine C1.treeP E hh ?_
 intro a4 ha4 hx4
 refine ha4.ld E hx4 ?_
 repeat with_reducible first|refine Stp.go ?_|refine StpE.go E ?_
 refine first_rd hne hrd0 ?_
 intro a5 ha5
 rw[hA]at ha5
 refine ha5.fa (by simp[Pl.cs]) ?_
 intro a6 ha6
 refine(ha6.weaken λ_ E=>E.drop (List.singleton_sublist.2 (by simp))).ld E (x:=i64 pa.f) rfl ?_
 repeat with_reducible refine Stp.go ?_
 generalize hX:(y.tr pa.t).walk y.sp.user pa.f dot1=X at*
 have hX:(trW y.Ts (y.tb.ix pa.t)).walk y.sp.user pa.f dot1=X:=hX
 refine And.intro ?left (And.intro ?right trivial)
 case' left=>
  repeat with_reducible refine Stp.go ?_
  refine(C1.walkT (name:=dot1) hh (by decide) E).mono ?_
  clear E
  rintro r w_ ⟨rfl,E⟩
  rw[hX]
  repeat with_reducible first|refine Stp.go ?_|(refine StpA.go E ?_;clear E;intro b_ w_ hb_ E)
  (revert b_;intro z hbz E)
  (repeat(with_reducible refine And.intro ?_ ?_;focus ((repeat with_reducible refine StpE.go E ?_);exact rfl)))
  refine And.intro ((ha3.weaken λ_ E=>E.drop (List.singleton_sublist.2 (by simp))).ld E (x:=i64 (pa.t:Int)) rfl rfl) ?_
  refine And.intro ((ha4.weaken λ_ E=>E.tl).ld E hx4 rfl) ?_
  (repeat(with_reducible refine And.intro ?_ ?_;focus ((repeat with_reducible refine StpE.go E ?_);exact rfl)))
  refine And.intro ((ha6.weaken λ_ E=>E.drop (List.singleton_sublist.2 (by simp))).ld E (x:=i64 pa.f) rfl rfl) ?_
  repeat with_reducible (refine StpW.go E ?_;clear E;intro w_ E)
 case' right=>
  repeat with_reducible (refine StpA.go E ?_;clear E;intro b_ w_ hb_ E)
  (revert b_;intro z hbz E)
  (repeat(with_reducible refine And.intro ?_ ?_;focus ((repeat with_reducible refine StpE.go E ?_);exact rfl)))
  refine And.intro ((ha3.weaken λ_ E=>E.drop (List.singleton_sublist.2 (by simp))).ld E (x:=i64 (pa.t:Int)) rfl rfl) ?_
  refine And.intro ((ha4.weaken λ_ E=>E.tl).ld E hx4 rfl) ?_
  (repeat(with_reducible refine And.intro ?_ ?_;focus ((repeat with_reducible refine StpE.go E ?_);exact rfl)))
  refine And.intro ((ha6.weaken λ_ E=>E.drop (List.singleton_sublist.2 (by simp))).ld E (x:=i64 pa.f) rfl rfl) ?_
  repeat with_reducible refine Stp.go ?_
  refine((C1.cons _).walkT (name:=dot1) hh (by decide) E).mono ?_
  clear E
  rintro r w_ ⟨rfl,E⟩
  rw[hX]
  repeat with_reducible first|refine Stp.go ?_|(refine StpW.go E ?_;clear E;intro w_ E)
 all_goals
  refine Bi.neq ?_ ?_<;>intro hxe<;>(repeat with_reducible refine Stp.go ?_)
  ·rw[if_pos hxe]
   exact⟨rfl,h.same E.tl.tl⟩
  rw[if_neg (λh=>h hxe)]at hinv ⊢
  refine(cleanA_ok (K:=K) (y:=y) h.inv.sp.dir hp E).mono ?_
  clear E
  rintro r w_ ⟨rfl,E⟩
  refine(Clean_ok (by have:=absA_size h.inv.sp.dir hp;omega) E).mono ?_
  clear E
  rintro r w_ ⟨rfl,E⟩
  repeat with_reducible first|refine Stp.go ?_|(refine StpW.go E ?_;clear E;intro w_ E)
  exact⟨rfl,R,D,Xs,M,K,rfl,rfl,rfl,λ_ h=>h,⟨h.tb,⟨h.sp.keys,h.sp.row⟩,h.wo,hinv⟩,E.tl.tl⟩
set_option maxRecDepth 100000
set_option linter.unusedVariables false
set_option linter.unusedSimpArgs false
variable {w0 w:World} {F:Nat→Prop} {l r1 r2 r3:List As}
variable {R:List RowS} {D:List Row} {Xs:List PT} {tA:List Nat} {M:TbM} {K:SpM} {N:Int} {y:Sy}
theorem stat_zero(T:Tr)(f:Int)(h:(T.stat f).2≠0):(T.stat f).1=d0:=by
 unfold Tr.stat at h ⊢
 split
 ·rfl
 ·rename_i n hn
  rw[hn]at h
  exact absurd rfl h
theorem Stat_okM{path:BA}(h:Fit R D Xs tA M K N y)(hp:path.size≤1000000)(E:Hs w0 F w (SPl R D Xs tA M K y l)):
  Ca PP Fn.f109 #[ptr K.a,str path] w λr w'=>r=.tuple #[(y.stat path).1.V,i64 (y.stat path).2]∧Hs w0 F w' (SPl R D Xs tA M K y l):=by
 refine S.f109.calls ?_
 unfold S.f109
 refine StpA.go E ?_
 clear E
 intro q w_ hq_ E
 refine(where_okM hp (h.ctx0.cons _) E).mono ?_
 clear E
 rintro r w_ ⟨v,rfl,E⟩
 unfold Sy.stat
 simp only[]
 have hw:=where_ok h.inv path
 have hhd:(y.where_ path).2=0→((y.where_ path).1.getD 0 p0).t<y.tb.ts.length:=head_ok h.inv
 generalize y.where_ path=L at*
 repeat with_reducible refine Stp.go ?_
 refine Bi.neq ?_ ?_<;>intro he<;>(repeat with_reducible first|refine Stp.go ?_|refine StpE.go E ?_|(refine StpW.go E ?_;clear E;intro w_ E))
 ·(first|(refine StA.all E rfl rfl (by first|exact rfl|assumption) ?_;clear E;intro w_ E)|try (refine StA.by E rfl (by first|exact rfl|assumption) ?_;clear E;intro w_ E))
  skip
  rw[if_pos he]
  exact⟨rfl,E.tl.tl⟩
 rw[if_neg (λh=>h he)]
 have hne:=hw.2.2 he
 have hh:=hhd he
 have hrd0:RdS w0 F [slA v Ty.t0 2 (pcs L.1)] 2 L.1.length v (pcs L.1):=by
  have:=RdS.sl (v:=v) (T:=Ty.t0) (sz:=2) (xs:=pcs L.1) (l:=[slA v Ty.t0 2 (pcs L.1)]) (by simp) (by omega) (E.drop (List.singleton_sublist.2 (by simp)))
  rwa [pcs_len,Nat.mul_div_cancel _ (by omega)]at this
 generalize hA:L.1.getD 0 p0=pa at*
 refine first_rd hne hrd0 ?_
 intro a2 ha2
 rw[hA]at ha2
 refine ha2.fa (by simp[Pl.cs]) ?_
 intro a3 ha3
 refine(ha3.weaken λ_ E=>E.drop (List.singleton_sublist.2 (by simp))).ld E (x:=i64 (pa.t:Int)) rfl ?_
 have C1:=((h.ctx0 (l:=l)).cons (pt q (oc d0.cs Ty.t9))).cons (slA v Ty.t0 2 (pcs L.1))
 refine C1.treeP E hh ?_
 intro a4 ha4 hx4
 refine ha4.ld E hx4 ?_
 repeat with_reducible first|refine Stp.go ?_|refine StpE.go E ?_
 refine first_rd hne hrd0 ?_
 intro a5 ha5
 rw[hA]at ha5
 refine ha5.fa (by simp[Pl.cs]) ?_
 intro a6 ha6
 refine(ha6.weaken λ_ E=>E.drop (List.singleton_sublist.2 (by simp))).ld E (x:=i64 pa.f) rfl ?_
 repeat with_reducible refine Stp.go ?_
 have hz:=stat_zero (y.tr pa.t) pa.f
 generalize hX:(y.tr pa.t).stat pa.f=X at*
 have hX:(trW y.Ts (y.tb.ix pa.t)).stat pa.f=X:=hX
 refine And.intro ?left (And.intro ?right trivial)
 case' left=>
  repeat with_reducible refine Stp.go ?_
  refine(C1.statT hh E).mono ?_
  clear E
  rintro r w_ ⟨rfl,E⟩
  rw[hX]
  repeat with_reducible first|refine Stp.go ?_|(refine StpA.go E ?_;clear E;intro b_ w_ hb_ E)
  (revert b_;intro z hbz E)
  (repeat(with_reducible refine And.intro ?_ ?_;focus ((repeat with_reducible refine StpE.go E ?_);exact rfl)))
  refine And.intro ((ha3.weaken λ_ E=>E.drop (List.singleton_sublist.2 (by simp))).ld E (x:=i64 (pa.t:Int)) rfl rfl) ?_
  refine And.intro ((ha4.weaken λ_ E=>E.tl).ld E hx4 rfl) ?_
  (repeat(with_reducible refine And.intro ?_ ?_;focus ((repeat with_reducible refine StpE.go E ?_);exact rfl)))
  refine And.intro ((ha6.weaken λ_ E=>E.drop (List.singleton_sublist.2 (by simp))).ld E (x:=i64 pa.f) rfl rfl) ?_
  (first|(refine StA.all E rfl rfl (by first|exact rfl|assumption) ?_;clear E;intro w_ E)|try (refine StA.by E rfl (by first|exact rfl|assumption) ?_;clear E;intro w_ E))
  skip
 case' right=>
  repeat with_reducible (refine StpA.go E ?_;clear E;intro b_ w_ hb_ E)
  (revert b_;intro z hbz E)
  (repeat(with_reducible refine And.intro ?_ ?_;focus ((repeat with_reducible refine StpE.go E ?_);exact rfl)))
  refine And.intro ((ha3.weaken λ_ E=>E.drop (List.singleton_sublist.2 (by simp))).ld E (x:=i64 (pa.t:Int)) rfl rfl) ?_
  refine And.intro ((ha4.weaken λ_ E=>E.tl).ld E hx4 rfl) ?_
  (repeat(with_reducible refine And.intro ?_ ?_;focus ((repeat with_reducible refine StpE.go E ?_);exact rfl)))
  refine And.intro ((ha6.weaken λ_ E=>E.drop (List.singleton_sublist.2 (by simp))).ld E (x:=i64 pa.f) rfl rfl) ?_
  repeat with_reducible refine Stp.go ?_
  refine((C1.cons _).statT hh E).mono ?_
  clear E
  rintro r w_ ⟨rfl,E⟩
  rw[hX]
  repeat with_reducible first|refine Stp.go ?_|(refine StpW.go E ?_;clear E;intro w_ E)
  (first|(refine StA.all E rfl rfl (by first|exact rfl|assumption) ?_;clear E;intro w_ E)|try (refine StA.by E rfl (by first|exact rfl|assumption) ?_;clear E;intro w_ E))
  skip
 all_goals
  refine Bi.neq ?_ ?_<;>intro hxe<;>(repeat with_reducible first|refine Stp.go ?_|refine StpE.go E ?_|(refine StpW.go E ?_;clear E;intro w_ E))
  ·(first|(refine StA.all E rfl rfl (by first|exact rfl|assumption) ?_;clear E;intro w_ E)|try (refine StA.by E rfl (by first|exact rfl|assumption) ?_;clear E;intro w_ E))
   skip
   rw[hz hxe]
   exact⟨rfl,E.tl.tl.tl⟩
  ·(first|(refine StA.all E rfl rfl (by first|exact rfl|assumption) ?_;clear E;intro w_ E)|try (refine StA.by E rfl (by first|exact rfl|assumption) ?_;clear E;intro w_ E))
   skip
   exact⟨by rw[hxe],E.tl.tl.tl⟩
set_option maxRecDepth 100000
set_option linter.unusedVariables false
set_option linter.unusedSimpArgs false
variable {w0 w:World} {F:Nat→Prop} {l r1 r2 r3:List As}
variable {R:List RowS} {D:List Row} {Xs:List PT} {tA:List Nat} {M:TbM} {K:SpM} {N:Int} {y:Sy}
theorem Fit.mono{N':Int}(h:Fit R D Xs tA M K N y)(hN:N≤N'):Fit R D Xs tA M K N' y:=⟨h.tb,h.sp,h.wo,h.inv.mono hN⟩
theorem Fit.goes{Ts:List Tr}{D':List Row}{Xs':List PT}{N':Int}(h:Fit R D Xs tA M K N y)(hW:Wo D' tA Xs' Ts)(hi:SyI N' {y with Ts:=Ts})(E:Hs w0 F w (SPl R D' Xs' tA M K y l)):GoS w0 F l R tA M K N' {y with Ts:=Ts} w:=
 ⟨R,D',Xs',M,K,rfl,rfl,rfl,λ_ h=>h,⟨h.tb,h.sp,hW,hi⟩,E⟩
theorem Wstat_okM{path:BA}{d:Dr}(h:Fit R D Xs tA M K N y)(hN:N+1000<4611686018427387904)(hp:path.size≤1000000)(hd1:d.name.size≤9223372036854775807)(hd2:d.group.size≤9223372036854775807)(E:Hs w0 F w (SPl R D Xs tA M K y l)):
  Ca PP Fn.f104 #[ptr K.a,str path,d.V] w λr w'=>r=i64 (y.wstat path d).2∧GoS w0 F l R tA M K (N+100) (y.wstat path d).1 w':=by
 have hinv:=(wstat_invS h.inv path d).mono (show N+3≤N+100 by omega)
 refine S.f104.calls ?_
 unfold S.f104
 refine StpA.go E ?_
 clear E
 intro q w_ hq_ E
 refine(place_okM hp (h.ctx0.cons _) E).mono ?_
 clear E
 rintro r w_ ⟨rfl,E⟩
 unfold Sy.wstat at hinv ⊢
 simp only[]at hinv ⊢
 have hpl:=place_ok h.inv path
 generalize y.place path=p at*
 repeat with_reducible first|refine Stp.go ?_|(refine StpW.go E ?_;clear E;intro w_ E)|(refine StpA.go E ?_;clear E;intro b_ w_ hb_ E)
 (revert b_;intro z hbz E)
 skip
 refine Bi.neq ?_ ?_<;>intro hpe<;>(repeat with_reducible first|refine Stp.go ?_|refine StpE.go E ?_|(refine StpW.go E ?_;clear E;intro w_ E))
 ·rw[if_pos hpe]
  exact⟨rfl,(h.mono (by omega)).same E.tl.tl⟩
 rw[if_neg (λh=>h hpe)]at hinv ⊢
 have C1:=((h.ctx0 (l:=l)).cons (pt q (oc d.cs Ty.t9))).cons (pt z (oc p.1.cs Ty.t0))
 refine C1.treeP E hpl ?_
 intro a4 ha4 hx4
 refine ha4.ld E hx4 ?_
 repeat with_reducible first|refine Stp.go ?_|refine StpE.go E ?_
 have hk:=h.inv.tb.ixLt hpl
 have hT:=h.inv.t _ (trW_mem hk)
 refine(Wo.chg (Q:=λr=>r=i64 ((y.tr p.1.t).wstat y.sp.user p.1.f d).2) (T':=((y.tr p.1.t).wstat y.sp.user p.1.f d).1) (args:=λz=>#[ptr z,str y.sp.user,i64 p.1.f,d.V]) h.wo hk E λX β l0 hb E=>Wstat_ok hb hT.1 (by omega) hT.2 hd1 hd2 E).mono ?_
 clear E
 rintro r w_ ⟨rfl,D2,Xs2,hW,E⟩
 replace E:=((E.bIx 2).tl.bIx 2).tl
 (replace E:=((((((((E.bIx 1).bIx 1).bIx 7).bIx 7).bIx 7).bIx 7).bIx 7).bIx 7))
 exact⟨rfl,h.goes hW hinv E⟩
theorem Remove_okM{path:BA}(h:Fit R D Xs tA M K N y)(hN:N+1000<4611686018427387904)(hp:path.size≤1000000)(E:Hs w0 F w (SPl R D Xs tA M K y l)):
  Ca PP Fn.f93 #[ptr K.a,str path] w λr w'=>r=i64 (y.remove path).2∧GoS w0 F l R tA M K (N+100) (y.remove path).1 w':=by
 have hinv:=(remove_invS h.inv path).mono (show N+3≤N+100 by omega)
 refine S.f93.calls ?_
 unfold S.f93
 refine(place_okM hp h.ctx0 E).mono ?_
 clear E
 rintro r w_ ⟨rfl,E⟩
 unfold Sy.remove at hinv ⊢
 simp only[]at hinv ⊢
 have hpl:=place_ok h.inv path
 generalize y.place path=p at*
 repeat with_reducible first|refine Stp.go ?_|(refine StpW.go E ?_;clear E;intro w_ E)|(refine StpA.go E ?_;clear E;intro b_ w_ hb_ E)
 (revert b_;intro z hbz E)
 skip
 refine Bi.neq ?_ ?_<;>intro hpe<;>(repeat with_reducible first|refine Stp.go ?_|refine StpE.go E ?_|(refine StpW.go E ?_;clear E;intro w_ E))
 ·rw[if_pos hpe]
  exact⟨rfl,(h.mono (by omega)).same E.tl⟩
 rw[if_neg (λh=>h hpe)]at hinv ⊢
 refine(find_okM (M:=M) (p:=p.1) (by simp) h.tb.len h.inv.tb.ms E).mono ?_
 clear E
 rintro r w_ ⟨rfl,E⟩
 unfold fdI
 by_cases hx:idxM y.tb.ms p.1<y.tb.ms.length
 ·rw[if_pos hx,if_pos hx]
  refine Bi.geq (λ_=>Cnd.t ?_) (λh=>absurd h (by omega))
  exact⟨rfl,(h.mono (by omega)).same E.tl⟩
 rw[if_neg hx]at hinv ⊢
 rw[if_neg hx]
 refine Bi.geq (λh=>absurd h (by decide)) (λ_=>Cnd.f ?_)
 repeat with_reducible first|refine Stp.go ?_|refine StpE.go E ?_|(refine StpW.go E ?_;clear E;intro w_ E)
 have C1:=((h.ctx0 (l:=l)).cons (pt z (oc p.1.cs Ty.t0)))
 refine C1.treeP E hpl ?_
 intro a4 ha4 hx4
 refine ha4.ld E hx4 ?_
 repeat with_reducible first|refine Stp.go ?_|refine StpE.go E ?_
 have hk:=h.inv.tb.ixLt hpl
 have hT:=h.inv.t _ (trW_mem hk)
 refine(Wo.chg (Q:=λr=>r=i64 ((y.tr p.1.t).remove y.sp.user p.1.f).2) (T':=((y.tr p.1.t).remove y.sp.user p.1.f).1) (args:=λz=>#[ptr z,str y.sp.user,i64 p.1.f]) h.wo hk E λX β l0 hb E=>Remove_ok hb hT.1 (by omega) hT.2 E).mono ?_
 clear E
 rintro r w_ ⟨rfl,D2,Xs2,hW,E⟩
 replace E:=(E.bIx 2).tl
 (replace E:=((((((((E.bIx 1).bIx 1).bIx 7).bIx 7).bIx 7).bIx 7).bIx 7).bIx 7))
 exact⟨rfl,h.goes hW hinv E⟩
end Go.Proofs.YtjffgllkfbcaeaaGreatDoor