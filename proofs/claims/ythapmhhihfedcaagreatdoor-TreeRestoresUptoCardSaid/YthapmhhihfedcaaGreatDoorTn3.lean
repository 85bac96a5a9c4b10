/-
 Trees: words that all texts use; names; permissions; the first element that a function picks.
-/
import Derived.Test.YthapmhhihfedcaaGreatDoorS0
import Derived.Test.YthapmhhihfedcaaGreatDoorS1
import Derived.Test.YthapmhhihfedcaaGreatDoorS2
import Derived.Test.YthapmhhihfedcaaGreatDoorS3
import Derived.Test.YthapmhhihfedcaaGreatDoorSh17
import Derived.Test.YthapmhhihfedcaaGreatDoorShelf
namespace Go.Proofs.YthapmhhihfedcaaGreatDoor
open Go Go.Sh
set_option maxRecDepth 100000
set_option linter.unusedVariables false
set_option linter.unusedSimpArgs false
abbrev ptr(b:Nat):Value:=.pointer (some ⟨b,0,none⟩)
abbrev i64(n:Int):Value:=.int .i64 n
abbrev str(s:ByteArray):Value:=.string s
theorem k_i64:(KT.int .i64).fits PP Ty.int64=true:=by kernel_rfl
theorem k_int:(KT.int .i64).fits PP Ty.int=true:=by kernel_rfl
theorem k_str:KT.str.fits PP Ty.t9=true:=by kernel_rfl
theorem u_sl_string:PP.underlying Ty.t8=some (.slice Ty.t9):=by kernel_rfl
theorem u_string:PP.underlying Ty.t9=some .string:=by kernel_rfl
theorem e_string:el3 PP Ty.t9=some (some (.string ⟨#[]⟩),1,16):=by kernel_rfl
theorem u_sl_int:PP.underlying Ty.sl_int=some (.slice Ty.int):=by kernel_rfl
theorem e_int:el3 PP Ty.int=some (some (.int .i64 0),1,8):=by kernel_rfl
theorem strs_scal(bl:List ByteArray):(bl.map str).all scalV=true:=by
 rw[List.all_eq_true];intro x hx
 obtain⟨b,_,rfl⟩:=List.mem_map.1 hx;rfl
theorem ba_ext{a b:ByteArray}(h:a.data.toList=b.data.toList):a=b:=by
 cases a with|mk x=>cases b with|mk y=>exact congrArg ByteArray.mk (Array.ext' h)
variable {w0:World} {F:Nat→Prop} {l:List As}

def goodB(b:UInt8):Bool:=33≤b.toNat && b.toNat≤126 && b.toNat != 47
def goodName(s:ByteArray):Bool:=s.data.toList.all goodB && (s.size != 0 && s.size≤40 && s != ⟨#[46]⟩ && s != ⟨#[46,46]⟩)
theorem Valid_ok{w:World}{s:ByteArray}(hs:s.size≤9223372036854775807):Ca PP Fn.f55 #[.string s] w λr w'=>r=.bool (goodName s)∧w'=w:=by
 refine S.f55.calls ?_
 unfold S.f55
 refine LnS.mk ?_
 refine⟨λl w'=>∃i:Nat,l=[i64 i]∧i≤s.size∧((s.data.toList.take i).all goodB=true)∧w'=w,λl _=>match l with|[.int _ i]=>s.size-i.toNat|_=>0,⟨0,rfl,Nat.zero_le _,rfl,rfl⟩,?_⟩
 rintro t7 u w1 ⟨i,hl,hi,hg,rfl⟩
 cases hl
 refine Bi.lss ?_ ?_<;>intro h
 ·(repeat with_reducible refine Stp.go ?_)
  obtain⟨b,hb,hb'⟩:=ba_get (s:=s) (i:=i) (by omega)
  refine IxS.mk (by omega) (by simpa using hb) ?_
  (intro J1 hJ1)
  have hlt:i<s.data.toList.length:=(List.getElem?_eq_some_iff.1 hb').1
  have hbm:b∈s.data.toList:=List.mem_of_getElem? hb'
  have bad:goodB b=false→goodName s=false:=by
   intro h0
   have:s.data.toList.all goodB=false:=by
    rw[Bool.eq_false_iff];intro ha;rw[List.all_eq_true]at ha;have:=ha b hbm;rw[h0]at this;cases this
   simp[goodName,this]
  have good:goodB b=true→(s.data.toList.take (i+1)).all goodB=true:=by
   intro h0
   rw[List.take_add_one,hb',List.all_append,hg]
   simp[h0]
  refine Bi.lss ?_ ?_<;>intro h1<;>(repeat with_reducible first|refine Stp.go ?_|(apply hJ1;intro u_))
  ·exact⟨by rw[bad (by simp[goodB];omega)],rfl⟩
  ·refine Bi.gtr ?_ ?_<;>intro h2<;>(repeat with_reducible first|refine Stp.go ?_|(apply hJ1;intro u_))
   ·exact⟨by rw[bad (by simp[goodB];omega)],rfl⟩
   ·refine Bi.eql ?_ ?_<;>intro h3<;>(repeat with_reducible first|refine Stp.go ?_|(apply hJ1;intro u_))
    ·exact⟨by rw[bad (by simp[goodB];omega)],rfl⟩
    ·refine Bi.add (by omega) ?_
     refine⟨⟨i+1,by simp,by omega,good ?_,rfl⟩,?_⟩
     ·simp[goodB];omega
     ·simp only[];omega
 ·(repeat with_reducible refine Stp.go ?_)
  (intro J1 hJ1)
  have hall:s.data.toList.all goodB=true:=by
   have:s.data.toList.take i=s.data.toList:=List.take_of_length_le (by have:s.data.toList.length=s.size:=rfl;omega)
   rw[this]at hg;exact hg
  have e0:(s.size != 0)=decide (s≠⟨#[]⟩):=by
   by_cases h0:s=⟨#[]⟩
   ·subst h0;rfl
   ·have:s.size≠0:=λhh=>h0 (by cases s with|mk d=>congr 1;exact Array.eq_empty_of_size_eq_zero hh)
    simp[this,h0]
  have tail:goodName s=(decide (s≠⟨#[]⟩) && decide (s.size≤40) && decide (s≠⟨#[46]⟩) && decide (s≠⟨#[46,46]⟩)):=by
   unfold goodName
   rw[hall,e0]
   simp[bne,ba_beq]
  refine Bi.sneq ?_ ?_<;>intro h1<;>(repeat with_reducible first|refine Stp.go ?_|(apply hJ1;intro u_))
  ·refine Bi.leq ?_ ?_<;>intro h2<;>(repeat with_reducible first|refine Stp.go ?_|(apply hJ1;intro u_))
   ·refine Bi.sneq ?_ ?_<;>intro h3<;>(repeat with_reducible first|refine Stp.go ?_|(apply hJ1;intro u_))
    ·refine Bi.sneq ?_ ?_<;>intro h4<;>(repeat with_reducible first|refine Stp.go ?_|(apply hJ1;intro u_))
     ·exact⟨by rw[tail];simp[h1,h3,h4];omega,rfl⟩
     ·exact⟨by rw[tail];simp[h4],rfl⟩
    ·exact⟨by rw[tail];simp[h3],rfl⟩
   ·exact⟨by rw[tail];simp;omega,rfl⟩
  ·exact⟨by rw[tail];simp[h1],rfl⟩

def permF(m:Int)(o g:Bool)(need:Int):Bool:=
 let p:Int:=if o then m.fdiv 64 else if g then m.fdiv 8 else m
 let a:Int:=IntKind.i64.wrap (BitVec.ofInt 64 need &&& BitVec.ofInt 64 7).toNat
 IntKind.i64.wrap (BitVec.ofInt 64 a &&& ~~~ BitVec.ofInt 64 p).toNat == 0
theorem Permits_ok{w:World}{m need:Int}{o g:Bool}:Ca PP Fn.tree_Permits #[i64 m,.bool o,.bool g,i64 need] w λr w'=>r=.bool (permF m o g need)∧w'=w:=by
 refine S.tree_Permits.calls ?_
 unfold S.tree_Permits
 (intro J1 hJ1)
 cases o<;>(repeat with_reducible refine Stp.go ?_)
 ·cases g<;>(repeat with_reducible first|refine Stp.go ?_|(apply hJ1;intro u_))
  ·refine Bi.mk rfl (Bi.mk rfl (Bi.mk rfl ⟨rfl,rfl⟩))
  ·refine Bi.mk rfl ?_
   repeat with_reducible (apply hJ1;intro u_)
   refine Bi.mk rfl (Bi.mk rfl (Bi.mk rfl ⟨rfl,rfl⟩))
 ·refine Bi.mk rfl ?_
  repeat with_reducible (apply hJ1;intro u_)
  refine Bi.mk rfl (Bi.mk rfl (Bi.mk rfl ⟨rfl,rfl⟩))

theorem IndexFunc_ok{w:World}{v fv:Value}{xs:List ByteArray}{p:ByteArray→Bool}(hn:xs.length≤9223372036854775806)(E:Hs w0 F w l)(h:RdS w0 F l 1 xs.length v (xs.map str))
  (call:∀x∈xs,∀w1,Hs w0 F w1 l→CaV PP fv #[str x] w1 λr w'=>r=.bool (p x)∧Hs w0 F w' l):
  Ca PP Fn.f25 #[v,fv] w λr w'=>(∃n:Int,r=i64 n∧(0≤n↔xs.any p=true))∧Hs w0 F w' l:=by
 refine S.f25.calls ?_
 unfold S.f25
 refine h.len ?_
 refine⟨λl1 w1=>∃i:Nat,l1=[i64 i]∧i≤xs.length∧(xs.take i).any p=false∧Hs w0 F w1 l,λl1 _=>match l1 with|[.int _ i]=>xs.length-i.toNat|_=>0,⟨0,rfl,Nat.zero_le _,rfl,E⟩,?_⟩
 clear E
 rintro t u w1 ⟨i,h1,hi,hp,E⟩
 cases h1
 refine Bi.lss ?_ ?_<;>intro hlt<;>(repeat with_reducible refine Stp.go ?_)
 ·have hx:xs[i]? =some xs[i]:=List.getElem?_eq_getElem (by omega)
  refine h.ix (by omega) (by omega) (by omega) ?_
  intro a ha
  refine ha.ld E (x:=str xs[i]) (by simp[hx]) ?_
  refine(call _ (List.getElem_mem _) _ E).mono ?_
  clear E
  rintro r w_ ⟨rfl,E⟩
  have hany:(xs.take (i+1)).any p=p xs[i]:=by rw[List.take_add_one,hx,List.any_append,hp];simp
  cases hb:p xs[i]with
  |true=>
   repeat with_reducible refine Stp.go ?_
   refine⟨⟨i,rfl,⟨λ_=>?_,λ_=>by omega⟩⟩,E⟩
   rw[List.any_eq_true];exact⟨_,List.getElem_mem _,hb⟩
  |false=>
   repeat with_reducible refine Stp.go ?_
   refine Bi.add (by omega) ?_
   exact⟨⟨i+1,by simp,by omega,by rw[hany,hb],E⟩,by simp only[];omega⟩
 ·have:xs.take i=xs:=List.take_of_length_le (by omega)
  rw[this]at hp
  exact⟨⟨-1,rfl,⟨λh=>by omega,λh=>by rw[hp]at h;cases h⟩⟩,E⟩
theorem ContainsFunc_ok{w:World}{v fv:Value}{xs:List ByteArray}{p:ByteArray→Bool}(hn:xs.length≤9223372036854775806)(E:Hs w0 F w l)(h:RdS w0 F l 1 xs.length v (xs.map str))
  (call:∀x∈xs,∀w1,Hs w0 F w1 l→CaV PP fv #[str x] w1 λr w'=>r=.bool (p x)∧Hs w0 F w' l):
  Ca PP Fn.f21 #[v,fv] w λr w'=>r=.bool (xs.any p)∧Hs w0 F w' l:=by
 refine S.f21.calls ?_
 unfold S.f21
 refine(IndexFunc_ok hn E h call).mono ?_
 rintro r w_ ⟨⟨n,rfl,hn⟩,E⟩
 refine Bi.geq ?_ ?_<;>intro h1
 ·exact⟨by rw[hn.1 h1],E⟩
 ·have:xs.any p=false:=by
   cases h2:xs.any p with
   |false=>rfl
   |true=>have:=hn.2 h2;omega
  exact⟨by rw[this],E⟩
end Go.Proofs.YthapmhhihfedcaaGreatDoor
namespace Go.Proofs.YthapmhhihfedcaaGreatDoor
open Go Go.Sh Go.Sort
set_option maxRecDepth 100000
set_option linter.unusedVariables false
set_option linter.unusedSimpArgs false
variable {w0:World} {F:Nat→Prop} {l:List As}
theorem b_values1:hasBody PP Fn.f22=true:=by kernel_rfl
abbrev valuesF(b:Nat):Value:=.func (.func Fn.f22) #[] #[ptr b]
theorem Values_ok{w:World}{v:Value}{a:Option Addr}{n c:Nat}(hv:v=.slice a n c)(E:Hs w0 F w l):Ca PP Fn.f32 #[v] w λr w'=>∃b,r=valuesF b∧Hs w0 F w' (pt b (oc [v] Ty.t8)::l):=by
 subst hv
 refine S.f32.calls ?_
 unfold S.f32
 repeat with_reducible (refine StpA.go E ?_;clear E;intro b_ w_ hb_ E)
 exact⟨b_,rfl,E⟩

def InOrder{α:Type}(xs:List α)(pre:List α)(x:α):Prop:=pre=xs.take pre.length∧xs[pre.length]? =some x
theorem values_iter {b : Nat} {v : Value} {xs : List ByteArray} {q : List As} (hn : xs.length≤9223372036854775806) (h : RdS w0 F q 1 xs.length v (xs.map str)) :
    Iter PP w0 F (valuesF b) str (InOrder xs) (· = xs) (pt b (oc [v] Ty.t8)::q) (pt b (oc [v] Ty.t8)::q) (pt b (oc [v] Ty.t8)::q):=by
  intro K S_ y w ks rest hy h0 E
  refine CaV.mk b_values1 ?_
  refine S.f22.calls (a0:=y) (a1:=ptr b) ?_
  unfold S.f22
  refine Ld.pt E (List.mem_append_right _ List.mem_cons_self) rfl ?_
  refine h.len ?_
  refine ⟨fun l1 w1=>∃ (i : Nat) (ks : List As),l1 = [i64 i]∧i≤xs.length∧K (xs.take i) ks∧Hs w0 F w1 (ks++((pt b (oc [v] Ty.t8)::q)++rest)),fun l1 _=>match l1 with | [.int _ i]=>xs.length - i.toNat | _=>0,⟨0,ks,rfl,Nat.zero_le _,h0,E⟩,?_⟩
  clear E h0 ks
  rintro t u w1 ⟨i,ks,h1,hi,hk,E⟩
  cases h1
  refine Bi.lss ?_ ?_ <;> intro hlt <;> (repeat with_reducible refine Stp.go ?_)
  · have hx : xs[i]? = some xs[i]:=List.getElem?_eq_getElem (by omega)
    have hsub : ∀ w,Hs w0 F w (ks++((pt b (oc [v] Ty.t8)::q)++rest))→Hs w0 F w q:=fun w E=>E.drop (List.Sublist.trans (List.Sublist.trans (List.sublist_append_left _ rest) (List.sublist_cons_self _ _)) (List.sublist_append_right _ _))
    refine (h.weaken hsub).ix (by omega) (by omega) (by omega) ?_
    intro a ha
    refine ha.ld E (x:=str xs[i]) (by simp [hx]) ?_
    have hlen : (xs.take i).length = i:=by rw [List.length_take]; omega
    refine (hy (xs.take i) xs[i] w1 ks rest ⟨by rw [hlen],by rw [hlen]; exact hx⟩ hk E).mono ?_
    have htk : xs.take i++[xs[i]] = xs.take (i + 1):=by rw [List.take_add_one,hx]; rfl
    rw [htk]
    rintro r w_ (⟨rfl,ks',hk',E'⟩ | ⟨rfl,ks',hs',E'⟩)
    · (repeat with_reducible refine Stp.go ?_)
      refine Bi.add (by omega) ?_
      exact ⟨⟨i + 1,ks',by simp,by omega,hk',E'⟩,by simp only []; omega⟩
    · (repeat with_reducible refine Stp.go ?_)
      exact .inr ⟨_,ks',hs',E'⟩
  · have : xs.take i = xs:=List.take_of_length_le (by omega)
    rw [this] at hk
    exact .inl ⟨xs,ks,rfl,hk,E⟩

theorem AppendSeq_ok{w:World}{g:Value}{gf:FuncId}{first cap:Array Value}{Pf:List ByteArray→ByteArray→Prop}{Whole:List ByteArray→Prop}{own vis own' rest:List As}(hg:g=.func (.func gf) first cap)(hb:hasBody PP gf=true)
  (hit:Iter PP w0 F g str Pf Whole own vis own')(hsz:∀pre x,Pf pre x→pre.length<1000000000)(E:Hs w0 F w (own++rest)):
  Ca PP Fn.f26 #[.slice none 0 0,g] w λv w'=>∃xs,Whole xs∧Hs w0 F w' (slA v Ty.t9 1 (xs.map str)::(own'++rest)):=by
 refine S.f26.calls ?_
 unfold S.f26
 repeat with_reducible (refine StpA.go E ?_;clear E;intro b_ w_ hb_ E)
 (revert b_;intro b hbb E)
 replace E:=(E.nilSl Ty.t9 1)
 refine RFo.hs hg hb hit (λpre ks=>∃v,ks=[slA v Ty.t9 1 (pre.map str),pt b (oc [v] Ty.t8)]) (λ_ _ _=>False) (λ_ _=>False) (ks:=[slA (.slice none 0 0) Ty.t9 1 [],pt b (oc [.slice none 0 0] Ty.t8)]) E ⟨_,rfl⟩ ?_ ?_ (λ_ _ _ _ _ _ h _=>h.elim) (λ_ _ _ _ _ h _=>h.elim)
 ·clear E
  rintro r L D pre x w_ _ rest' Rn Re Rr hL hD hp ⟨v,rfl⟩ E hn - -
  simp only[List.cons_append,List.nil_append]at E
  repeat with_reducible first|refine Stp.go ?_|refine StpE.go E ?_|(refine StpW.go E ?_;clear E;intro w_ E)
  refine BdS.one E u_sl_string e_string rfl ?_
  intro v2 w_ E
  have:=hsz _ _ hp
  refine Ap.one E (i:=3) rfl u_sl_string ⟨_,u_sl_string,λ_ h=>by cases h⟩ e_string (Src.one E (by (first|assumption|exact FPt.mem|exact FMp.mem|exact FSl.mem|(repeat(first|assumption|with_reducible exact List.mem_cons_self|refine List.mem_cons_of_mem _ ?_)))) rfl) rfl (by simp;omega) (by simp;omega) ?_
  intro s' w_ E
  (try simp only[List.set_cons_zero,List.set_cons_succ,List.cons_append,List.nil_append,Nat.zero_add,Nat.add_zero]at E)
  repeat with_reducible (refine StpW.go E ?_;clear E;intro w_ E)
  refine hn _ _ ⟨s',rfl⟩ ?_
  simp only[List.cons_append,List.nil_append]
  (replace E:=(E.bSl v2))
  (replace E:=(E.bIx 0).tl)
  (replace E:=((((E.bPt b).bSl s').bPt D).bPt L))
  have e1:(pre++[x]).map str=pre.map str++[str x]:=by simp
  rw[e1]
  exact E
 ·clear E
  rintro D w_ xs _ hD hw ⟨v,rfl⟩ E
  simp only[List.cons_append,List.nil_append]at E
  repeat with_reducible first|refine Stp.go ?_|refine StpE.go E ?_|(refine StpW.go E ?_;clear E;intro w_ E)
  refine⟨xs,hw,?_⟩
  (replace E:=(E.bPt b))
  (replace E:=(E.bIx 0).tl)
  exact E
theorem Collect_ok{w:World}{g:Value}{gf:FuncId}{first cap:Array Value}{Pf:List ByteArray→ByteArray→Prop}{Whole:List ByteArray→Prop}{own vis own' rest:List As}(hg:g=.func (.func gf) first cap)(hb:hasBody PP gf=true)
  (hit:Iter PP w0 F g str Pf Whole own vis own')(hsz:∀pre x,Pf pre x→pre.length<1000000000)(E:Hs w0 F w (own++rest)):
  Ca PP Fn.f50 #[g] w λv w'=>∃xs,Whole xs∧Hs w0 F w' (slA v Ty.t9 1 (xs.map str)::(own'++rest)):=by
 refine S.f50.calls ?_
 unfold S.f50
 exact AppendSeq_ok hg hb hit hsz E

abbrev byt(s:ByteArray):List UInt8:=s.data.toList
def sortS(xs:List ByteArray):List ByteArray:=((xs.map byt).mergeSort λx y=>decide (x≤y)).map λl=>⟨l.toArray⟩
theorem byt_mk(s:ByteArray):(⟨(byt s).toArray⟩:ByteArray)=s:=ba_ext (by simp)
theorem map_enc(xs:List ByteArray):(xs.map byt).map encStr=xs.map str:=by
 rw[List.map_map];rfl
theorem map_mk(L:List (List UInt8)):(L.map λl=>(⟨l.toArray⟩:ByteArray)).map str=L.map encStr:=by rw[List.map_map];rfl
theorem sortS_len(xs:List ByteArray):(sortS xs).length=xs.length:=by simp[sortS]
theorem Sort_ok{w:World}{v:Value}{xs:List ByteArray}(hn:xs.length<4611686018427387904)(E:Hs w0 F w (slA v Ty.t9 1 (xs.map str)::l)):
  Ca PP Fn.slices_Sort_sl_string_string #[v] w λr w'=>Hs w0 F w' (slA v Ty.t9 1 ((sortS xs).map str)::l):=by
 have hs:=E.sat _ List.mem_cons_self
 rw[← map_enc]at hs
 rcases SliceAt.holds hs with⟨rfl,h0⟩|⟨b,off,cap,rfl,hH,hlt,hcap⟩
 ·obtain rfl:xs=[]:=by simpa using h0
  refine Calls.mono (Tryz.slices_Sort_string_none none 0 w) ?_
  rintro e w' ⟨rfl,rfl⟩
  exact⟨_,rfl,by simpa[sortS] using E⟩
 ·refine Calls.mono (Tryz.slices_Sort_string b off cap (xs.map byt) w hH hlt (by simpa using hn)) ?_
  rintro e w' ⟨rfl,n,os,rfl⟩
  refine⟨_,rfl,?_⟩
  have:=hs_sortRow E (enc:=encStr) (k:=n) (os:=os) (d:=((xs.map byt).mergeSort λx y=>decide (x≤y)).toArray) rfl (by simp)
  rw[sortS,map_mk]
  exact this
theorem Sorted_ok{w:World}{g:Value}{gf:FuncId}{first cap:Array Value}{Pf:List ByteArray→ByteArray→Prop}{Whole:List ByteArray→Prop}{own vis own' rest:List As}(hg:g=.func (.func gf) first cap)(hb:hasBody PP gf=true)
  (hit:Iter PP w0 F g str Pf Whole own vis own')(hsz:∀pre x,Pf pre x→pre.length<1000000000)(hw:∀xs,Whole xs→xs.length<4611686018427387904)(E:Hs w0 F w (own++rest)):
  Ca PP Fn.f48 #[g] w λv w'=>∃xs,Whole xs∧Hs w0 F w' (slA v Ty.t9 1 ((sortS xs).map str)::(own'++rest)):=by
 refine S.f48.calls ?_
 unfold S.f48
 refine(Collect_ok hg hb hit hsz E).mono ?_
 clear E
 rintro v w_ ⟨xs,hx,E⟩
 refine(Sort_ok (hw _ hx) E).mono ?_
 clear E
 intro r w_ E
 exact⟨xs,hx,E⟩
theorem compact_le(zs:List (List UInt8)):(Lib.compact zs).length≤zs.length:=by
 unfold Lib.compact Lib.compactUpTo
 rw[List.length_map]
 exact Nat.le_trans (List.length_filter_le _ _) (by simp)
theorem compact_lt(zs:List (List UInt8)):(Lib.compact zs).length<zs.length↔∃j,j+1<zs.length∧zs[j]? =zs[j+1]?:=by
 have e:(Lib.compact zs).length=((List.range zs.length).filter (Lib.keeps zs.toArray)).length:=by unfold Lib.compact Lib.compactUpTo;rw[List.length_map]
 rw[e]
 constructor
 ·intro h
  have:∃j∈List.range zs.length,¬Lib.keeps zs.toArray j=true:=by
   refine Classical.byContradiction λhn=>?_
   have hall:∀a∈List.range zs.length,Lib.keeps zs.toArray a=true:=λa ha=>Classical.byContradiction λhk=>hn ⟨a,ha,hk⟩
   rw[List.filter_eq_self.2 hall]at h
   simp at h
  obtain⟨j,hj,hk⟩:=this
  rw[List.mem_range]at hj
  have hk:¬(j=0∨zs.toArray[j]! ≠zs.toArray[j-1]!):=by simpa[Lib.keeps] using hk
  obtain⟨k,rfl⟩:∃k,j=k+1:=⟨j-1,by omega⟩
  refine⟨k,hj,?_⟩
  have:=Classical.not_not.1 λh=>hk (.inr h)
  rw[getElem!_pos zs.toArray _ (by simpa using hj),getElem!_pos zs.toArray _ (by simp;omega)]at this
  rw[List.getElem?_eq_getElem (by omega),List.getElem?_eq_getElem hj]
  simpa using this.symm
 ·rintro⟨j,hj,he⟩
  have hk:Lib.keeps zs.toArray (j+1)=false:=by
   have:zs.toArray[j+1]! =zs.toArray[j]!:=by
    rw[getElem!_pos zs.toArray _ (by simpa using hj),getElem!_pos zs.toArray _ (by simp;omega)]
    rw[List.getElem?_eq_getElem (by omega),List.getElem?_eq_getElem hj]at he
    simpa using he.symm
   simp[Lib.keeps,this]
  have:=List.length_filter_lt_length_iff_exists (p:=Lib.keeps zs.toArray) (l:=List.range zs.length) |>.2 ⟨j+1,List.mem_range.2 hj,by simp[hk]⟩
  simpa using this
theorem Compact_ok{w:World}{v:Value}{xs:List ByteArray}(hn:xs.length≤9223372036854775807)(E:Hs w0 F w (slA v Ty.t9 1 (xs.map str)::l)):
  Ca PP Fn.slices_Compact_sl_string_string #[v] w λr w'=>Hs w0 F w' (slA r Ty.t9 1 (((Lib.compact (xs.map byt)).map λl=>(⟨l.toArray⟩:ByteArray)).map str)::l):=by
 have hs:=E.sat _ List.mem_cons_self
 rw[← map_enc]at hs
 rcases SliceAt.holds hs with⟨rfl,h0⟩|⟨b,off,cap,rfl,hH,hlt,hcap⟩
 ·obtain rfl:xs=[]:=by simpa using h0
  refine Calls.mono (Tryz.slices_Compact_string_empty none 0 w) ?_
  rintro e w' ⟨rfl,rfl⟩
  exact⟨_,rfl,E⟩
 ·refine Calls.mono (Tryz.slices_Compact_string b off cap (xs.map byt) w hH (by simpa using hn) (by simpa using hcap)) ?_
  rintro e w' ⟨rfl,q,rfl⟩
  refine⟨_,rfl,?_⟩
  rw[map_mk]
  exact hs_cutRow E (enc:=encStr) rfl (by have:=compact_le (xs.map byt);simp at this ⊢;omega)

def twice(xs:List ByteArray):Bool:=decide (¬xs.Nodup)
theorem twice_eq (xs : List ByteArray) : decide ((Lib.compact ((sortS xs).map byt)).length < xs.length) = twice xs:=by
  unfold twice
  rw [decide_eq_decide]
  have e0 : (sortS xs).map byt = (xs.map byt).mergeSort fun x y=>decide (x≤y):=by
    unfold sortS; rw [List.map_map]
    have : (byt ∘ fun l : List UInt8=>(⟨l.toArray⟩ : ByteArray)) = id:=by funext l; simp
    rw [this,List.map_id]
  have hperm : ((xs.map byt).mergeSort fun x y=>decide (x≤y)).Perm (xs.map byt):=List.mergeSort_perm _ _
  have hsorted : ((xs.map byt).mergeSort fun x y=>decide (x≤y)).Pairwise (fun a b=>a≤b):=by
    have:=List.pairwise_mergeSort (le:=fun x y : List UInt8=>decide (x≤y)) (fun a b c h1 h2=>by simp at h1 h2 ⊢; exact List.le_trans h1 h2) (fun a b=>by simp; exact List.le_total a b) (xs.map byt)
    exact this.imp fun h=>by simpa using h
  rw [e0]
  generalize (xs.map byt).mergeSort (fun x y=>decide (x≤y)) = L at hperm hsorted
  have hlen : L.length = xs.length:=by rw [hperm.length_eq,List.length_map]
  have hnd : L.Nodup↔xs.Nodup:=by
    rw [hperm.nodup_iff]
    constructor
    · intro h
      exact List.Pairwise.of_map (S:=(· ≠ ·)) byt (fun a b h e=>h (by rw [e])) h
    · intro h
      exact List.Pairwise.map byt (fun a b hab e=>hab (ba_ext e)) h
  rw [← hlen,compact_lt,← hnd]
  constructor
  · rintro ⟨j,hj,he⟩ hn
    rw [List.getElem?_eq_getElem (by omega),List.getElem?_eq_getElem hj] at he
    have:=List.pairwise_iff_getElem.1 hn j (j + 1) (by omega) hj (by omega)
    exact this (by simpa using he)
  · intro hn
    refine Classical.byContradiction fun hno=>hn ?_
    rw [List.Nodup,List.pairwise_iff_getElem]
    intro i k hi hk hik heq
    have h1 : L[i]≤L[i + 1]:=List.pairwise_iff_getElem.1 hsorted i (i + 1) hi (by omega) (by omega)
    have h2 : L[i + 1]≤L[i]:=by
      by_cases hh : i + 1 = k
      · subst hh; rw [heq]; exact List.le_refl _
      · have:=List.pairwise_iff_getElem.1 hsorted (i + 1) k (by omega) hk (by omega)
        rw [heq]; exact this
    refine hno ⟨i,by omega,?_⟩
    rw [List.getElem?_eq_getElem hi,List.getElem?_eq_getElem (by omega)]
    exact congrArg some (List.le_antisymm h1 h2)
theorem repeated_ok{w:World}{v:Value}{xs:List ByteArray}(hn:xs.length<1000000000)(E:Hs w0 F w l)(h:RdS w0 F l 1 xs.length v (xs.map str)):
  Ca PP Fn.f84 #[v] w λr w'=>r=.bool (twice xs)∧Hs w0 F w' l:=by
 refine S.f84.calls ?_
 unfold S.f84
 obtain⟨a,c,hv,-⟩:=id h
 refine(Values_ok hv E).mono ?_
 clear E
 rintro r w_ ⟨b,rfl,E⟩
 refine(Sorted_ok (rest:=[]) rfl b_values1 (values_iter (by omega) h) (λpre x hp=>?_) (λxs' h=>by subst h;omega) (by rw[List.append_nil];exact E)).mono ?_
 ·have:=(List.getElem?_eq_some_iff.1 hp.2).1;omega
 clear E
 rintro r w_ ⟨xs',e,E⟩
 rw[List.append_nil,e]at E
 clear e xs'
 obtain⟨a2,c2,hv2⟩:=SliceAt.len (E.sat _ List.mem_cons_self) (by omega)
 refine(Compact_ok (by rw[sortS_len];omega) E).mono ?_
 clear E
 intro r2 w_ E
 repeat with_reducible refine StpE.go E ?_
 refine Ln.eq hv2 ?_
 have h1:(((Lib.compact ((sortS xs).map byt)).map λl:List UInt8=>(⟨l.toArray⟩:ByteArray)).map str).length=(Lib.compact ((sortS xs).map byt)).length:=by simp
 have h2:((sortS xs).map str).length / 1=xs.length:=by simp[sortS_len]
 rw[h1,h2]
 have h3:=twice_eq xs
 refine Bi.lss ?_ ?_<;>intro h4
 ·rw[decide_eq_true (by omega)]at h3
  exact⟨by rw[← h3],E.tl.tl⟩
 ·rw[decide_eq_false (by omega)]at h3
  exact⟨by rw[← h3],E.tl.tl⟩
end Go.Proofs.YthapmhhihfedcaaGreatDoor
namespace Go.Proofs.YthapmhhihfedcaaGreatDoor
open Go Go.Sh
set_option maxRecDepth 100000
set_option linter.unusedVariables false
set_option linter.unusedSimpArgs false
variable {w0 w:World} {F:Nat→Prop} {l:List As}

def andI(a b:Int):Int:=IntKind.i64.wrap (BitVec.ofInt 64 a &&& BitVec.ofInt 64 b).toNat
def orI(a b:Int):Int:=IntKind.i64.wrap (BitVec.ofInt 64 a |||BitVec.ofInt 64 b).toNat
def clrI(a b:Int):Int:=IntKind.i64.wrap (BitVec.ofInt 64 a &&& ~~~ BitVec.ofInt 64 b).toNat
theorem Bi.and'{a b:Int}{k:Value→Prop}(h:k (i64 (andI a b))):Bi .and (i64 a) (i64 b) k:=Bi.mk rfl h
theorem Bi.or'{a b:Int}{k:Value→Prop}(h:k (i64 (orI a b))):Bi .or (i64 a) (i64 b) k:=Bi.mk rfl h
theorem Bi.clr'{a b:Int}{k:Value→Prop}(h:k (i64 (clrI a b))):Bi .andNot (i64 a) (i64 b) k:=Bi.mk rfl h
instance{a b:Int}{k:Value→Prop}:Stp (Bi .and (.int .i64 a) (.int .i64 b) k) (k (i64 (andI a b))):=⟨Bi.and'⟩
instance{a b:Int}{k:Value→Prop}:Stp (Bi .or (.int .i64 a) (.int .i64 b) k) (k (i64 (orI a b))):=⟨Bi.or'⟩
instance{a b:Int}{k:Value→Prop}:Stp (Bi .andNot (.int .i64 a) (.int .i64 b) k) (k (i64 (clrI a b))):=⟨Bi.clr'⟩

structure MN where
 kind:Int
 vers:Int
 path:Int
 mode:Int
 time:Int
 ln:Int
 name:ByteArray
 owner:ByteArray
 group:ByteArray
 last:ByteArray
 dv:Value
 kids:Option Nat
 up:Option Nat
 gone:Bool
abbrev MN.C(m:MN):List Value:=
 [i64 m.kind,i64 m.vers,i64 m.path,i64 m.mode,i64 m.time,i64 m.ln,str m.name,str m.owner,str m.group,str m.last,m.dv,.map m.kids,.pointer (m.up.map λb=>⟨b,0,none⟩),.bool m.gone]
abbrev nd(b:Nat)(m:MN):As:=pt b (oc m.C Ty.tree_node)

def isD(m:Int):Bool:=andI m 2147483648 != 0
theorem isDir_ok{f:Nat}{m:MN}{r:List As}[h:FPt l f (oc m.C Ty.tree_node) r](E:Hs w0 F w l):Ca PP Fn.f18 #[ptr f] w λr w'=>r=.bool (isD m.mode)∧Hs w0 F w' l:=by
 refine S.f18.calls ?_
 unfold S.f18
 repeat with_reducible first|refine Stp.go ?_|refine StpE.go E ?_
 refine Bi.neq ?_ ?_<;>intro h1
 ·exact⟨by simp[isD,h1],E⟩
 ·exact⟨by simp[isD,h1],E⟩

def kindOf(m:Int):Int:=(if andI m 2147483648≠0 then 128 else 0)+(if andI m 1073741824≠0 then 64 else 0)+(if andI m 536870912≠0 then 32 else 0)
theorem u_map_int_int:PP.underlying Ty.map_int_int=some (.map Ty.int Ty.int):=by kernel_rfl

def orK(m:Int)(ps:AL)(k:Int):Int:=ps.foldl (λk p=>match p with|(.int _ b,.int _ q)=>if andI m b≠0 then orI k q else k|_=>k) k
theorem orK_app(m:Int)(ps qs:AL)(k:Int):orK m (ps++qs) k=orK m qs (orK m ps k):=List.foldl_append ..
abbrev bitsM:AL:=[(i64 2147483648,i64 128),(i64 1073741824,i64 64),(i64 536870912,i64 32)]
theorem ofInt_wrap(x:BitVec 64):BitVec.ofInt 64 (IntKind.i64.wrap (x.toNat:Int))=x:=by
 apply BitVec.eq_of_toNat_eq
 rw[BitVec.toNat_ofInt]
 have h:=x.isLt
 have h2:((x.toNat:Int) % (2 ^ IntKind.i64.bits:Int))=x.toNat:=Int.emod_eq_of_lt (by omega) (by show(x.toNat:Int)<18446744073709551616;omega)
 unfold IntKind.wrap
 simp only[h2]
 show((if(IntKind.i64.signed && decide ((x.toNat:Int)≥9223372036854775808))=true then(x.toNat:Int)-18446744073709551616 else(x.toNat:Int)) % 18446744073709551616).toNat=x.toNat
 split<;>omega
theorem orI_ofInt(a b:Int):BitVec.ofInt 64 (orI a b)=BitVec.ofInt 64 a |||BitVec.ofInt 64 b:=ofInt_wrap _
theorem andI_ofInt(a b:Int):BitVec.ofInt 64 (andI a b)=BitVec.ofInt 64 a &&& BitVec.ofInt 64 b:=ofInt_wrap _
theorem clrI_ofInt(a b:Int):BitVec.ofInt 64 (clrI a b)=BitVec.ofInt 64 a &&& ~~~ BitVec.ofInt 64 b:=ofInt_wrap _
theorem orI_right(k a b:Int):orI (orI k a) b=orI (orI k b) a:=by
 show IntKind.i64.wrap _=IntKind.i64.wrap _
 rw[orI_ofInt,orI_ofInt,BitVec.or_assoc,BitVec.or_comm (BitVec.ofInt 64 a),← BitVec.or_assoc]
theorem orK_perm(m:Int){ps:AL}(h:bitsM.Perm ps):orK m ps 0=kindOf m:=by
 have e:orK m bitsM 0=orK m ps 0:=by
  unfold orK
  refine h.foldl_eq' ?_ 0
  intro x hx y hy z
  have key:∀q∈bitsM,∃b c,q=(i64 b,i64 c):=by intro q hq;simp at hq;rcases hq with rfl|rfl|rfl<;>exact⟨_,_,rfl⟩
  obtain⟨b,c,rfl⟩:=key x hx
  obtain⟨b',c',rfl⟩:=key y hy
  by_cases h1:andI m b=0<;>by_cases h2:andI m b'=0<;>simp[h1,h2]
  exact orI_right _ _ _
 rw[← e]
 unfold orK kindOf
 simp only[List.foldl]
 by_cases h1:andI m 2147483648=0<;>by_cases h2:andI m 1073741824=0<;>by_cases h3:andI m 536870912=0<;>simp only[h1,h2,h3,ne_eq,not_true_eq_false,not_false_eq_true,if_true,if_false]<;>decide
theorem is_ok{f:Nat}{m:MN}{k:Int}(E:Hs w0 F w (nd f m::l)):Ca PP Fn.f72 #[ptr f,i64 k] w λr w'=>Hs w0 F w' (nd f {m with mode:=k,kind:=kindOf k}::l):=by
 refine S.f72.calls ?_
 unfold S.f72
 repeat with_reducible first|refine Stp.go ?_|(refine StpW.go E ?_;clear E;intro w_ E)
 refine MkM.pt (kt:=.int .i64) E ?_
 clear E
 intro b w_ hb E
 refine Mu.by E u_map_int_int k_int rfl ?_
 clear E
 intro w_ E
 refine Mu.by E u_map_int_int k_int rfl ?_
 clear E
 intro w_ E
 refine Mu.by E u_map_int_int k_int rfl ?_
 clear E
 intro w_ E
 refine Rg.mp E u_map_int_int ?_
 clear E
 intro it es clock w_ hit hes hw hok E
 have hes2:es.toList.map (λe=>(e.key,e.val))=bitsM:=hes
 refine⟨λl1 w1=>l1=[]∧∃ms,Wlk es clock ms∧Hs w0 F w1 (pt it (itO b clock ms)::pt b (mapO es clock)::nd f {m with mode:=k,kind:=orK k (ms.map λe=>(e.key,e.val)) 0}::l),λ_ w1=>itM it (es.size+1) w1,⟨rfl,[],hw,E⟩,?_⟩
 clear E hw
 rintro u w1 ⟨-,ms,hw,E⟩
 refine Nx.mp E hw ?_ ?_
 ·intro e w_ he hn hw2 E2
  have hm:itM it (es.size+1) w1=es.size+1-ms.length:=itM_eq E
  have hle:=hw2.le
  simp only[List.length_append,List.length_cons,List.length_nil]at hle
  clear E
  have E:=E2
  clear E2
  repeat with_reducible refine Stp.go ?_
  refine Ent.mp E hw2 ?_
  have hmem:(e.key,e.val)∈bitsM:=by rw[← hes2];exact List.mem_map.2 ⟨e,he,rfl⟩
  obtain⟨x,y,hx,hy⟩:∃x y,e.key=i64 x∧e.val=i64 y:=by
   simp only[bitsM,List.mem_cons,Prod.mk.injEq,List.not_mem_nil,or_false]at hmem
   rcases hmem with⟨h1,h2⟩|⟨h1,h2⟩|⟨h1,h2⟩<;>exact⟨_,_,h1,h2⟩
  have hor:orK k ((ms++[e]).map λe=>(e.key,e.val)) 0=if andI k x≠0 then orI (orK k (ms.map λe=>(e.key,e.val)) 0) y else orK k (ms.map λe=>(e.key,e.val)) 0:=by
   rw[List.map_append,orK_app]
   simp[orK,hx,hy]
  rw[hx,hy]
  repeat with_reducible refine Stp.go ?_
  refine Bi.neq ?_ ?_<;>intro h0<;>(repeat with_reducible first|refine Stp.go ?_|refine StpE.go E ?_|(refine StpW.go E ?_;clear E;intro w_ E))
  ·rw[if_pos h0]at hor
   refine⟨⟨rfl,_,hw2,?_⟩,?_⟩
   ·rw[hor];exact E
   ·show itM it (es.size+1) w_<itM it (es.size+1) w1
    rw[hm,itM_eq E]
    simp;omega
  ·rw[if_neg (by simpa using h0)]at hor
   refine⟨⟨rfl,_,hw2,?_⟩,?_⟩
   ·rw[hor];exact E
   ·show itM it (es.size+1) w_<itM it (es.size+1) w1
    rw[hm,itM_eq E]
    simp;omega
 ·intro hp
  repeat with_reducible refine Stp.go ?_
  have h1:orK k (ms.map λe=>(e.key,e.val)) 0=kindOf k:=orK_perm k (by rw[← hes2];exact hp.map _)
  rw[h1]at E
  exact E.tl.tl
end Go.Proofs.YthapmhhihfedcaaGreatDoor
namespace Go.Proofs.YthapmhhihfedcaaGreatDoor
open Go Go.Sh
set_option maxRecDepth 100000
set_option linter.unusedVariables false
set_option linter.unusedSimpArgs false
abbrev BA:=ByteArray
def emp:BA:=⟨#[]⟩

structure Qd where
 kind:Int
 vers:Int
 path:Int
abbrev Qd.cs(q:Qd):List Value:=[i64 q.kind,i64 q.vers,i64 q.path]
abbrev Qd.V(q:Qd):Value:=.agg q.cs.toArray
abbrev q0:Qd:=⟨0,0,0⟩

structure Dr where
 kind:Int
 vers:Int
 path:Int
 mode:Int
 time:Int
 len:Int
 name:BA
 owner:BA
 group:BA
 last:BA
abbrev Dr.cs(d:Dr):List Value:=[i64 d.kind,i64 d.vers,i64 d.path,i64 d.mode,i64 d.time,i64 d.len,str d.name,str d.owner,str d.group,str d.last]
abbrev Dr.V(d:Dr):Value:=.agg d.cs.toArray
abbrev d0:Dr:=⟨0,0,0,0,0,0,emp,emp,emp,emp⟩

structure Nd where
 path:Int
 vers:Int
 mode:Int
 time:Int
 up:Int
 name:BA
 owner:BA
 group:BA
 last:BA
 data:BA
abbrev Nd.dir(n:Nd):Bool:=isD n.mode
def Nd.qid(n:Nd):Qd:=⟨kindOf n.mode,n.vers,n.path⟩
def Nd.stat(n:Nd):Dr:=⟨kindOf n.mode,n.vers,n.path,n.mode,n.time,n.data.size,n.name,n.owner,n.group,n.last⟩

structure Hd where
 file:Int
 mode:Int
 user:BA

structure Tr where
 ns:List Nd
 clock:Int
 next:Int
 gs:List (BA×List BA)
 hs:List (Int×Hd)
def updN(ns:List Nd)(p:Int)(f:Nd→Nd):List Nd:=ns.map λn=>if n.path=p then f n else n
namespace Tr
def get(T:Tr)(p:Int):Option Nd:=T.ns.find? λn=>decide (n.path=p)
def isKid(p:Int)(n:Nd):Bool:=decide (n.path≠0∧n.up=p)
def kids(T:Tr)(p:Int):List Nd:=T.ns.filter (isKid p)
def kid(T:Tr)(p:Int)(s:BA):Option Nd:=(T.kids p).find? λn=>decide (n.name=s)
def upd(T:Tr)(p:Int)(f:Nd→Nd):Tr:={T with ns:=updN T.ns p f}
def parent(T:Tr)(n:Nd):Nd:=(T.get n.up).getD n
def member(T:Tr)(user group:BA):Bool:=decide (user=group) || (match getL T.gs group with|some l=>l.any λx=>decide (x=user)|none=>false)
def may(T:Tr)(user:BA)(n:Nd)(need:Int):Bool:=permF n.mode (decide (user=n.owner)) (T.member user n.group) need
def tick(T:Tr):Tr:={T with clock:=T.clock+1}
end Tr
def touchN(clock:Int)(user:BA)(n:Nd):Nd:={n with vers:=n.vers+1,time:=clock,last:=user}

def Tr.change(T:Tr)(user:BA)(ps:List Int):Tr:=ps.foldl (λT p=>T.upd p (touchN T.clock user)) T.tick

def holdL:List (Int×Hd)→Int→Hd→Int×List (Int×Hd)
 |[],h,x=>(h,[(h,x)])
 |p::r,h,x=>if p.1=h then((holdL r (h+1) x).1,p::(holdL r (h+1) x).2)else(h,(h,x)::p::r)
def rightM(m:Int):Bool:=decide (clrI m 3758096895=0) && (decide (andI m 2147483648=0) || decide (andI m 1610612736=0))
def needs(mode:Int):Int:=
 let n:=if andI mode 3=0 then 4 else if andI mode 3=1 then 2 else if andI mode 3=2 then 6 else 1
 if andI mode 16=0 then n else orI n 2

def sized(s:BA)(n:Nat):BA:=⟨(s.data.toList.take n++List.replicate (n-s.size) 0).toArray⟩

def overW(s:BA)(at_:Nat)(d:BA):BA:=⟨((sized s (max s.size (at_+d.size))).data.toList.take at_++d.data.toList++(sized s (max s.size (at_+d.size))).data.toList.drop (at_+d.size)).toArray⟩
def cutS(s:BA)(i j:Nat):BA:=⟨((s.data.toList.take j).drop i).toArray⟩
namespace Tr
def hold(T:Tr)(x:Hd):Tr×Int:=({T with hs:=(holdL T.hs 1 x).2},(holdL T.hs 1 x).1)
def walk(T:Tr)(user:BA)(file:Int)(name:BA):Qd×Int:=
 match T.get file with
 |none=>(q0,4)
 |some n=>
  if !n.dir then(q0,18)else
  if !T.may user n 1 then(q0,17)else
  if name=⟨#[46]⟩then(n.qid,0)else
  if name=⟨#[46,46]⟩then((T.parent n).qid,0)else
  if !goodName name then(q0,8)else
  match T.kid n.path name with
  |none=>(q0,4)
  |some k=>(k.qid,0)
def stat(T:Tr)(file:Int):Dr×Int:=
 match T.get file with
 |none=>(d0,4)
 |some n=>(n.stat,0)

def given(d:Dr)(n:Nd):Nd:=
 {n with
  name:=if d.name=emp then n.name else d.name
  time:=if d.time= -1 then n.time else d.time
  mode:=if d.mode= -1 then n.mode else d.mode
  group:=if d.group=emp then n.group else d.group
  data:=if d.len= -1∨n.dir=true then n.data else sized n.data d.len.toNat}
def wstat(T:Tr)(user:BA)(file:Int)(d:Dr):Tr×Int:=
 match T.get file with
 |none=>(T,4)
 |some n=>
  let moved:=d.name≠emp∧d.name≠n.name
  if ¬(d.kind=0∧d.vers=0∧d.path=0)∨d.owner≠emp∨d.last≠emp∨d.len< -1∨d.time< -1∨(d.name≠emp∧n.path=0)then(T,1)else
  if d.mode≠ -1∧(rightM d.mode=false∨andI d.mode 2147483648≠andI n.mode 2147483648)then(T,1)else
  if(d.name≠emp∧goodName d.name=false)∨(d.group≠emp∧goodName d.group=false)then(T,8)else
  if d.len≠ -1∧d.len≠0∧n.dir=true then(T,18)else
  if 1048576<d.len then(T,3)else
  if moved∧(T.kid n.up d.name).isSome then(T,5)else
  if(moved∧T.may user (T.parent n) 2=false)∨(d.len≠ -1∧n.dir=false∧T.may user n 2=false)∨((d.mode≠ -1∨d.time≠ -1∨d.group≠emp)∧user≠n.owner)∨(d.group≠emp∧T.member user d.group=false)then(T,17)else
  if d.name=emp∧d.group=emp∧d.mode= -1∧d.time= -1∧d.len= -1 then(T,0)else
  ((T.change user (file::if moved then[n.up]else[])).upd file (given d),0)
def openF(T:Tr)(user:BA)(file mode:Int):Tr×Int×Qd×Int:=
 if clrI mode 83≠0 then(T,0,q0,20)else
 match T.get file with
 |none=>(T,0,q0,4)
 |some n=>
  if n.dir=true∧mode≠0 then(T,0,q0,18)else
  if T.may user n (needs mode)=false∨(andI mode 64≠0∧T.may user (T.parent n) 2=false)then(T,0,q0,17)else
  if andI n.mode 536870912≠0∧(∃x∈T.hs,x.2.file=file)then(T,0,q0,19)else
  if ¬T.hs.length<64 then(T,0,q0,3)else
  let cut:=andI mode 16≠0∧andI n.mode 1073741824=0
  let T1:=if cut then(T.change user [file]).upd file (λn=>{n with data:=emp})else T
  let q:=if cut then{n.qid with vers:=n.vers+1}else n.qid
  ((T1.hold ⟨file,mode,user⟩).1,(T1.hold ⟨file,mode,user⟩).2,q,0)

def modeN(perm upm:Int):Int:=if andI perm 2147483648=0 then andI perm (orI (-439) (andI upm 438))else andI perm (orI (-512) (andI upm 511))
def create(T:Tr)(user:BA)(dir:Int)(name:BA)(perm mode:Int):Tr×Int×Qd×Int:=
 if clrI mode 83≠0∨rightM perm=false∨(andI perm 2147483648≠0∧mode≠0)then(T,0,q0,20)else
 match T.get dir with
 |none=>(T,0,q0,4)
 |some u=>
  if u.dir=false then(T,0,q0,18)else
  if goodName name=false∨goodName user=false then(T,0,q0,8)else
  if T.may user u 2=false then(T,0,q0,17)else
  if(T.kid dir name).isSome then(T,0,q0,5)else
  if 1024≤T.ns.length∨¬T.hs.length<64 then(T,0,q0,3)else
  let T1:=T.change user [dir]
  let n:Nd:=⟨T.next,0,modeN perm u.mode,T1.clock,dir,name,user,u.group,user,emp⟩
  let T2:Tr:={T1 with ns:=T1.ns++[n],next:=T.next+1}
  ((T2.hold ⟨T.next,mode,user⟩).1,(T2.hold ⟨T.next,mode,user⟩).2,n.qid,0)
def opened(T:Tr)(h:Int):Option Hd:=getL T.hs h
def read(T:Tr)(h off count:Int):BA×Int:=
 match T.opened h with
 |none=>(emp,19)
 |some x=>
  if andI x.mode 3=1 then(emp,20)else
  match T.get x.file with
  |none=>(emp,4)
  |some n=>
   if n.dir then(emp,18)else
   if off<0∨count<0 then(emp,11)else
   if(n.data.size:Int)≤off then(emp,0)else
   (cutS n.data off.toNat (off.toNat+min count.toNat (n.data.size-off.toNat)),0)
def write(T:Tr)(h off:Int)(d:BA):Tr×Int×Int:=
 match T.opened h with
 |none=>(T,0,19)
 |some x=>
  if andI x.mode 3≠1∧andI x.mode 3≠2 then(T,0,20)else
  match T.get x.file with
  |none=>(T,0,4)
  |some n=>
   if off<0 then(T,0,11)else
   if d=emp then(T,0,0)else
   let at_:Int:=if andI n.mode 1073741824≠0 then n.data.size else off
   if 1048576<(d.size:Int)∨1048576-(d.size:Int)<at_ then(T,0,3)else
   (((T.change x.user [x.file]).upd x.file λn=>{n with data:=overW n.data at_.toNat d}),d.size,0)

def drop(T:Tr)(user:BA)(n:Nd):Tr:={T with ns:=T.ns.filter λx=>decide (x.path≠n.path)}.change user [n.up]
def close(T:Tr)(h:Int):Tr×Int:=
 match T.opened h with
 |none=>(T,19)
 |some x=>
  let T1:Tr:={T with hs:=delL T.hs h}
  match T.get x.file with
  |some n=>if andI x.mode 64≠0 then(T1.drop x.user n,0)else(T1,0)
  |none=>(T1,0)
def remove(T:Tr)(user:BA)(file:Int):Tr×Int:=
 match T.get file with
 |none=>(T,4)
 |some n=>
  if n.path=0 then(T,1)else
  if T.may user (T.parent n) 2=false then(T,17)else
  if 0<(T.kids file).length then(T,6)else
  (T.drop user n,0)
end Tr
end Go.Proofs.YthapmhhihfedcaaGreatDoor
namespace Go.Proofs.YthapmhhihfedcaaGreatDoor
open Go Go.Sh
set_option maxRecDepth 100000
set_option linter.unusedVariables false
set_option linter.unusedSimpArgs false
variable {w0 w:World} {F:Nat→Prop} {l:List As}
theorem u_p_tree:PP.underlying Ty.t10=some (.pointer Ty.t17):=by kernel_rfl
theorem u_p_node:PP.underlying Ty.t4=some (.pointer Ty.tree_node):=by kernel_rfl
theorem n_node:sizeK PP Ty.tree_node=some 14:=by kernel_rfl
theorem u_mfiles:PP.underlying Ty.t56=some (.map Ty.int64 Ty.t4):=by kernel_rfl
theorem u_mopen:PP.underlying Ty.t27=some (.map Ty.int Ty.t44):=by kernel_rfl
theorem u_mgroups:PP.underlying Ty.t0=some (.map Ty.t9 Ty.t8):=by kernel_rfl
theorem u_mkids:PP.underlying Ty.t3=some (.map Ty.t9 Ty.t4):=by kernel_rfl
theorem z_p_node:zeroK PP Ty.t4=some (.pointer none):=by kernel_rfl
theorem z_sl_string:zeroK PP Ty.t8=some (.slice none 0 0):=by kernel_rfl
abbrev h0V:Value:=.agg #[.pointer none,i64 0,str ⟨#[]⟩]
theorem z_handle:zeroK PP Ty.t44=some h0V:=by kernel_rfl

structure PN where
 f:Nd
 blk:Nat
 ln:Int
 dv:Value
 kb:Nat
 kl:List (BA×Nat)
 ub:Option Nat
abbrev PN.mn(n:PN):MN:=⟨kindOf n.f.mode,n.f.vers,n.f.path,n.f.mode,n.f.time,n.ln,n.f.name,n.f.owner,n.f.group,n.f.last,n.dv,if n.f.dir then some n.kb else none,n.ub,false⟩
abbrev PN.kM(n:PN):AL:=encM Value.string ptr n.kl

def KM(n:PN):As:=star (if n.f.dir then[mp n.kb .str n.kM]else[])
def PN.as(n:PN):As:=star [nd n.blk n.mn,KM n]
def NT(ps:List PN):As:=star (ps.map PN.as)
theorem Hs.openN{ps rs:List PN}{n:PN}(E:Hs w0 F w (NT ps::l))(hp:ps.Perm (n::rs)):Hs w0 F w (nd n.blk n.mn::KM n::NT rs::l):=by
 have E1:=Hs.starPerm (hp.map PN.as) E
 have E2:Hs w0 F w (PN.as n::NT rs::l):=by
  have E3:Hs w0 F w (PN.as n::(rs.map PN.as++l)):=E1.unstar
  have E4:Hs w0 F w (rs.map PN.as++(PN.as n::l)):=E3.perm List.perm_middle.symm
  exact E4.star.perm (List.Perm.swap _ _ _)
 exact E2.unstar
theorem Hs.closeN{rs:List PN}(n:PN)(E:Hs w0 F w (nd n.blk n.mn::KM n::NT rs::l)):Hs w0 F w (NT (n::rs)::l):=by
 have E2:Hs w0 F w (PN.as n::NT rs::l):=Hs.star (ls:=[nd n.blk n.mn,KM n]) E
 have E3:Hs w0 F w (rs.map PN.as++(PN.as n::l)):=(E2.perm (List.Perm.swap _ _ _)).unstar
 have E4:Hs w0 F w ((n::rs).map PN.as++l):=E3.perm List.perm_middle
 exact E4.star
theorem Hs.permN{ps rs:List PN}(E:Hs w0 F w (NT ps::l))(hp:ps.Perm rs):Hs w0 F w (NT rs::l):=Hs.starPerm (hp.map PN.as) E
theorem Hs.openK{n:PN}(hd:n.f.dir=true)(E:Hs w0 F w (KM n::l)):Hs w0 F w (mp n.kb .str n.kM::l):=by
 unfold KM at E
 rw[if_pos hd]at E
 exact E.unstar
theorem Hs.closeK{n:PN}(hd:n.f.dir=true)(E:Hs w0 F w (mp n.kb .str n.kM::l)):Hs w0 F w (KM n::l):=by
 unfold KM
 rw[if_pos hd]
 exact Hs.star (ls:=[_]) E

structure HV where
 blk:Nat
 mode:Int
 user:BA
abbrev HV.V(h:HV):Value:=.agg #[ptr h.blk,i64 h.mode,str h.user]

structure PT where
 t:Nat
 root:Nat
 fm:Nat
 gm:Nat
 om:Nat
 next:Int
 clock:Int
 ps:List PN
 ds:List (Nat×MN)
 fl:List (Int×Nat)
 gv:List (BA×Value)
 ol:List (Int×HV)
abbrev PT.cs(X:PT):List Value:=[ptr X.root,.map (some X.fm),.map (some X.gm),i64 X.next,i64 X.clock,.map (some X.om)]
abbrev tb(X:PT):As:=pt X.t (oc X.cs Ty.t17)
abbrev PT.fM(X:PT):AL:=encM i64 ptr X.fl
abbrev PT.gM(X:PT):AL:=encM Value.string id X.gv
abbrev PT.oM(X:PT):AL:=encM i64 HV.V X.ol
def DT(ds:List (Nat×MN)):As:=star (ds.map λd=>nd d.1 d.2)
def trA(X:PT):As:=star [tb X,mp X.fm (.int .i64) X.fM,mp X.gm .str X.gM,mp X.om (.int .i64) X.oM,NT X.ps,DT X.ds]
theorem Hs.openT{X:PT}(E:Hs w0 F w (trA X::l)):Hs w0 F w (tb X::mp X.fm (.int .i64) X.fM::mp X.gm .str X.gM::mp X.om (.int .i64) X.oM::NT X.ps::DT X.ds::l):=E.unstar
theorem Hs.closeT(X:PT)(E:Hs w0 F w (tb X::mp X.fm (.int .i64) X.fM::mp X.gm .str X.gM::mp X.om (.int .i64) X.oM::NT X.ps::DT X.ds::l)):Hs w0 F w (trA X::l):=Hs.star (ls:=[_,_,_,_,_,_]) E


structure GTie (D : List Row) (gv : List (BA × Value)) (gs : List (BA × List BA)) : Prop where
 at_ : ∀ g,match getL gs g with
  | some us=>us.length≤16∧∃ v,getL gv g = some v∧Rdy D Ty.t9 v (us.map str)
  | none=>getL gv g = none
 nd : (gv.map (·.1)).Nodup
def memberG(gs:List (BA×List BA))(user group:BA):Bool:=decide (user=group) || (match getL gs group with|some l=>l.any λx=>decide (x=user)|none=>false)
theorem Contains_ok{w:World}{v:Value}{xs:List ByteArray}{s:BA}(hn:xs.length≤9223372036854775806)(E:Hs w0 F w l)(h:RdS w0 F l 1 xs.length v (xs.map str)):
  Ca PP Fn.f29 #[v,str s] w λr w'=>r=.bool (xs.any λx=>decide (x=s))∧Hs w0 F w' l:=by
 refine S.f29.calls ?_
 unfold S.f29
 have key:Ca PP Fn.f33 #[v,str s] w λr w'=>(∃n:Int,r=i64 n∧(0≤n↔(xs.any λx=>decide (x=s))=true))∧Hs w0 F w' l:=by
  refine S.f33.calls ?_
  unfold S.f33
  refine h.len ?_
  refine⟨λl1 w1=>∃i:Nat,l1=[i64 i]∧i≤xs.length∧((xs.take i).any λx=>decide (x=s))=false∧Hs w0 F w1 l,λl1 _=>match l1 with|[.int _ i]=>xs.length-i.toNat|_=>0,⟨0,rfl,Nat.zero_le _,rfl,E⟩,?_⟩
  clear E
  rintro t u w1 ⟨i,h1,hi,hp,E⟩
  cases h1
  refine Bi.lss ?_ ?_<;>intro hlt<;>(repeat with_reducible refine Stp.go ?_)
  ·have hx:xs[i]? =some xs[i]:=List.getElem?_eq_getElem (by omega)
   refine h.ix (by omega) (by omega) (by omega) ?_
   intro a ha
   refine ha.ld E (x:=str xs[i]) (by simp[hx]) ?_
   have hany:((xs.take (i+1)).any λx=>decide (x=s))=decide (xs[i]=s):=by rw[List.take_add_one,hx,List.any_append,hp];simp
   refine Bi.seql ?_ ?_<;>intro he
   ·(repeat with_reducible refine Stp.go ?_)
    refine⟨⟨i,rfl,⟨λ_=>?_,λ_=>by omega⟩⟩,E⟩
    rw[List.any_eq_true];exact⟨xs[i],List.getElem_mem _,by simp[he]⟩
   ·(repeat with_reducible refine Stp.go ?_)
    refine Bi.add (by omega) ?_
    exact⟨⟨i+1,by simp,by omega,by rw[hany];simpa using λhc=>he hc.symm,E⟩,by simp only[];omega⟩
  ·have:xs.take i=xs:=List.take_of_length_le (by omega)
   rw[this]at hp
   exact⟨⟨-1,rfl,⟨λh=>by omega,λh=>by rw[hp]at h;cases h⟩⟩,E⟩
 refine key.mono ?_
 clear E
 rintro r w_ ⟨⟨n,rfl,hn⟩,E⟩
 refine Bi.geq ?_ ?_<;>intro h1
 ·exact⟨by rw[hn.1 h1],E⟩
 ·have:(xs.any λx=>decide (x=s))=false:=by
   cases h2:xs.any λx=>decide (x=s)with
   |false=>rfl
   |true=>have:=hn.2 h2;omega
  exact⟨by rw[this],E⟩
theorem member_ok{t:Nat}{X:PT}{D:List Row}{gs:List (BA×List BA)}{user group:BA}{r1 r2:List As}[h1:FPt l t (oc X.cs Ty.t17) r1][h2:FMp l X.gm .str X.gM r2](hp:Pool D∈l)(hg:GTie D X.gv gs)(E:Hs w0 F w l):
  Ca PP Fn.f53 #[ptr t,str user,str group] w λr w'=>r=.bool (memberG gs user group)∧Hs w0 F w' l:=by
 refine S.f53.calls ?_
 unfold S.f53
 (intro J1 hJ1)
 have fin:∀b w_,b=memberG gs user group→Hs w0 F w_ l→J1 [.bool b] w_:=by
  intro b w_ hb E
  repeat with_reducible (apply hJ1;intro u_)
  exact⟨by rw[hb],E⟩
 clear hJ1
 refine Bi.seql ?_ ?_<;>intro he<;>(repeat with_reducible first|refine Stp.go ?_|refine StpE.go E ?_)
 ·exact fin _ _ (by simp[memberG,he]) E
 ·have hgg:=hg.at_ group
  have hm:=FMp.mem (h:=h2)
  refine Lk.one E hm u_mgroups k_str z_sl_string rfl ?_
  rw[aget_enc keyS]
  have hmem:memberG gs user group=(match getL gs group with|some l=>l.any λx=>decide (x=user)|none=>false):=by simp[memberG,he]
  cases hq:getL gs group with
  |none=>
   rw[hq]at hgg hmem
   simp only[]at hgg
   rw[hgg]
   repeat with_reducible refine Stp.go ?_
   refine(Contains_ok (xs:=[]) (by simp) E ⟨none,0,rfl,Nat.le_refl _,rfl,.inl rfl⟩).mono ?_
   clear E
   rintro r w_ ⟨rfl,E⟩
   repeat with_reducible refine Stp.go ?_
   exact fin _ _ (by rw[hmem];rfl) E
  |some us=>
   rw[hq]at hgg hmem
   obtain⟨h16,v,hv,hr⟩:=hgg
   rw[hv]
   repeat with_reducible refine Stp.go ?_
   have hrd:=hr.read E hp
   rw[List.length_map]at hrd
   refine(Contains_ok (by omega) E hrd).mono ?_
   clear E
   rintro r w_ ⟨rfl,E⟩
   repeat with_reducible refine Stp.go ?_
   exact fin _ _ (by rw[hmem]) E
end Go.Proofs.YthapmhhihfedcaaGreatDoor
namespace Go.Proofs.YthapmhhihfedcaaGreatDoor
open Go Go.Sh
set_option maxRecDepth 100000
set_option linter.unusedVariables false
set_option linter.unusedSimpArgs false
variable {w0 w:World} {F:Nat→Prop} {l:List As}
theorem may_ok{t f:Nat}{m:MN}{X:PT}{D:List Row}{gs:List (BA×List BA)}{user:BA}{need:Int}{r1 r2 r3:List As}[h1:FPt l t (oc X.cs Ty.t17) r1][h2:FMp l X.gm .str X.gM r2][h3:FPt l f (oc m.C Ty.tree_node) r3]
  (hp:Pool D∈l)(hg:GTie D X.gv gs)(E:Hs w0 F w l):
  Ca PP Fn.f47 #[ptr t,str user,ptr f,i64 need] w λr w'=>r=.bool (permF m.mode (decide (user=m.owner)) (memberG gs user m.group) need)∧Hs w0 F w' l:=by
 refine S.f47.calls ?_
 unfold S.f47
 repeat with_reducible first|refine Stp.go ?_|refine StpE.go E ?_|(refine StpW.go E ?_;clear E;intro w_ E)
 have key:∀b:Bool,b=decide (user=m.owner)→Ca PP Fn.f53 #[ptr t,str user,str m.group] w_ λt28 w_16=>
   (Ld (.pointer (some ⟨f,3,none⟩)) w_16 λt13=>t13=i64 m.mode)∧(Ld (.pointer (some ⟨f,7,none⟩)) w_16 λt19=>t19=str m.owner)∧
   Ca PP Fn.tree_Permits #[i64 m.mode,.bool b,t28,i64 need] w_16 λr w'=>r=.bool (permF m.mode (decide (user=m.owner)) (memberG gs user m.group) need)∧Hs w0 F w' l:=by
  intro b hb
  refine(member_ok hp hg E).mono ?_
  clear E
  rintro r w_ ⟨rfl,E⟩
  refine⟨?_,?_,?_⟩
  ·(repeat with_reducible refine StpE.go E ?_);rfl
  ·(repeat with_reducible refine StpE.go E ?_);rfl
  ·refine Permits_ok.mono ?_
   rintro r w' ⟨rfl,rfl⟩
   exact⟨by rw[hb],E⟩
 refine Bi.seql ?_ ?_<;>intro he
 ·(repeat with_reducible first|refine Stp.go ?_|refine StpE.go E ?_)
  exact key true (by simp[he])
 ·(repeat with_reducible first|refine Stp.go ?_|refine StpE.go E ?_)
  exact key false (by simp[he])
theorem Hs.nodupN{ps:List PN}(E:Hs w0 F w (NT ps::l)):(ps.map PN.blk).Nodup:=by
 have h:=(E.sat _ List.mem_cons_self).2
 rw[List.pairwise_map]at h
 rw[List.Nodup,List.pairwise_map]
 refine h.imp λ{a b} hab he=>?_
 refine hab a.blk ⟨_,List.mem_cons_self,rfl⟩ ⟨_,List.mem_cons_self,?_⟩
 exact he
def updB(ps:List PN)(b:Nat)(g:PN→PN):List PN:=ps.map λn=>if n.blk=b then g n else n
theorem updB_perm{ps rs:List PN}{n:PN}{g:PN→PN}(hn:(ps.map PN.blk).Nodup)(hp:ps.Perm (n::rs)):(updB ps n.blk g).Perm (g n::rs):=by
 have h1:(updB ps n.blk g).Perm (updB (n::rs) n.blk g):=hp.map _
 have h2:((n::rs).map PN.blk).Nodup:=(hp.map _).nodup_iff.1 hn
 simp only[List.map_cons,List.nodup_cons]at h2
 have h3:updB (n::rs) n.blk g=g n::rs:=by
  unfold updB
  simp only[List.map_cons,if_true]
  congr 1
  conv=>rhs;rw[← List.map_id rs]
  refine List.map_congr_left λx hx=>?_
  rw[if_neg λhe=>h2.1 (by rw[← he];exact List.mem_map.2 ⟨x,hx,rfl⟩)];rfl
 rw[h3]at h1
 exact h1
theorem updB_blk{ps:List PN}{b:Nat}{g:PN→PN}(hg:∀n,(g n).blk=n.blk):(updB ps b g).map PN.blk=ps.map PN.blk:=by
 unfold updB
 rw[List.map_map]
 refine List.map_congr_left λx _=>?_
 simp only[Function.comp]
 split
 ·exact hg x
 ·rfl
def PN.touch(c:Int)(user:BA)(n:PN):PN:={n with f:=touchN c user n.f}
def chgB(c:Int)(user:BA)(bs:List Nat)(ps:List PN):List PN:=bs.foldl (λps b=>updB ps b (PN.touch c user)) ps
theorem chgB_app{c:Int}{user:BA}{bs cs:List Nat}{ps:List PN}:chgB c user (bs++cs) ps=chgB c user cs (chgB c user bs ps):=List.foldl_append ..
theorem chgB_blk{c:Int}{user:BA}:∀{bs:List Nat} {ps:List PN},(chgB c user bs ps).map PN.blk=ps.map PN.blk
 |[],_=>rfl
 |b::bs,ps=>(chgB_blk (bs:=bs) (ps:=updB ps b (PN.touch c user))).trans (updB_blk λ_=>rfl)
theorem chgB_vers{c:Int}{user:BA}:∀{bs:List Nat} {ps:List PN} {n:PN},n∈chgB c user bs ps→∃m∈ps,n.f.vers≤m.f.vers+bs.length∧m.f.vers≤n.f.vers
 |[],ps,n,h=>⟨n,h,by simp,Int.le_refl _⟩
 |b::bs,ps,n,h=>by
  obtain⟨m,hm,h1,h2⟩:=chgB_vers (bs:=bs) (ps:=updB ps b (PN.touch c user)) h
  obtain⟨q,hq,rfl⟩:=List.mem_map.1 hm
  refine⟨q,hq,?_⟩
  split at h1<;>rename_i hb
  ·rw[if_pos hb]at h2
   simp only[PN.touch,touchN,List.length_cons]at h1 h2 ⊢
   omega
  ·rw[if_neg hb]at h2
   simp only[List.length_cons]at h1 h2 ⊢
   omega

theorem change_ok{X:PT}{user:BA}{bs:List Nat}{v:Value}{ps:List PN}(h:RdS w0 F l 1 bs.length v (bs.map ptr))(hb:∀b∈bs,b∈ps.map PN.blk)(hc:0≤X.clock∧X.clock<4611686018427387904)
  (hv:∀n∈ps,0≤n.f.vers∧n.f.vers<4611686018427387904)(hl:bs.length<1000)(E:Hs w0 F w (tb X::NT ps::l)):
  Ca PP Fn.f46 #[ptr X.t,str user,v] w λr w'=>Hs w0 F w' (tb {X with clock:=X.clock+1}::NT (chgB (X.clock+1) user bs ps)::l):=by
 refine S.f46.calls ?_
 unfold S.f46
 repeat with_reducible first|refine Stp.go ?_|refine StpE.go E ?_
 refine Bi.add (by omega) ?_
 repeat with_reducible first|refine Stp.go ?_|(refine StpW.go E ?_;clear E;intro w_ E)
 refine((h.cons (NT ps)).cons (tb X)).len ?_
 refine⟨λl1 w1=>∃i:Nat,l1=[i64 i]∧i≤bs.length∧Hs w0 F w1 (tb {X with clock:=X.clock+1}::NT (chgB (X.clock+1) user (bs.take i) ps)::l),λl1 _=>match l1 with|[.int _ i]=>bs.length-i.toNat|_=>0,
  ⟨0,rfl,Nat.zero_le _,E⟩,?_⟩
 clear E
 rintro t u w1 ⟨i,h1,hi,E⟩
 cases h1
 refine Bi.lss ?_ ?_<;>intro hlt<;>(repeat with_reducible refine Stp.go ?_)
 ·have hx:bs[i]? =some bs[i]:=List.getElem?_eq_getElem (by omega)
  refine((h.cons (NT (chgB (X.clock+1) user (bs.take i) ps))).cons (tb {X with clock:=X.clock+1})).ix (by omega) (by omega) (by omega) ?_
  intro a ha
  refine ha.ld E (x:=ptr bs[i]) (by simp[hx]) ?_
  have hmem:bs[i]∈(chgB (X.clock+1) user (bs.take i) ps).map PN.blk:=by rw[chgB_blk];exact hb _ (List.getElem_mem _)
  obtain⟨n,hn,hnb⟩:=List.mem_map.1 hmem
  obtain⟨rs,hp⟩:=split_perm hn
  have hnd:=Hs.nodupN (E.bIx 1)
  replace E:=Hs.openN (E.bIx 1) hp
  obtain⟨m,hm,hm1,hm2⟩:=chgB_vers hn
  have hmv:=hv m hm
  have hlen:(bs.take i).length≤bs.length:=by simp;omega
  have hvq:n.mn.vers=n.f.vers:=rfl
  rw[hnb]at E
  repeat with_reducible first|refine Stp.go ?_|refine StpE.go E ?_
  refine Bi.add (by omega) ?_
  repeat with_reducible first|refine Stp.go ?_|refine StpE.go E ?_|(refine StpW.go E ?_;clear E;intro w_ E)
  refine Bi.add (by omega) ?_
  rw[← hnb]at E
  refine⟨⟨i+1,by simp,by omega,?_⟩,by simp only[];omega⟩
  replace E:=Hs.closeN (PN.touch (X.clock+1) user n) (rs:=rs) (l:=tb {X with clock:=X.clock+1}::l) E
  replace E:=Hs.permN E (updB_perm (g:=PN.touch (X.clock+1) user) hnd hp).symm
  rw[List.take_add_one,hx,chgB_app]
  rw[hnb]at E
  exact E.bIx 1
 ·have:bs.take i=bs:=List.take_of_length_le (by omega)
  rw[this]at E
  exact E

def findV:Option Nat→Value
 |some b=>.tuple #[ptr b,i64 0]
 |none=>.tuple #[.pointer none,i64 4]
theorem find_ok{t:Nat}{X:PT}{p:Int}{r1 r2:List As}[h1:FPt l t (oc X.cs Ty.t17) r1][h2:FMp l X.fm (.int .i64) X.fM r2](E:Hs w0 F w l):
  Ca PP Fn.f49 #[ptr t,i64 p] w λr w'=>r=findV (getL X.fl p)∧Hs w0 F w' l:=by
 refine S.f49.calls ?_
 unfold S.f49
 refine Eq.ef u_p_tree rfl ?_
 repeat with_reducible first|refine Stp.go ?_|refine StpE.go E ?_
 refine Lk.ok E FMp.mem u_mfiles k_i64 z_p_node rfl ?_
 rw[aget_enc (keyI .i64)]
 cases getL X.fl p with
 |none=>simp only[Option.map_some,Option.map_none,Option.getD_some,Option.getD_none,Option.isSome_some,Option.isSome_none];(repeat with_reducible refine Stp.go ?_);exact⟨rfl,E⟩
 |some b=>simp only[Option.map_some,Option.map_none,Option.getD_some,Option.getD_none,Option.isSome_some,Option.isSome_none];(repeat with_reducible refine Stp.go ?_);exact⟨rfl,E⟩
end Go.Proofs.YthapmhhihfedcaaGreatDoor
namespace Go.Proofs.YthapmhhihfedcaaGreatDoor
open Go Go.Sh
set_option maxRecDepth 100000
set_option linter.unusedVariables false
set_option linter.unusedSimpArgs false
variable {w0 w:World} {F:Nat→Prop} {l:List As}
theorem u_sl_uint8:PP.underlying Ty.sl_uint8=some (.slice Ty.uint8):=by kernel_rfl
theorem u_uint8:PP.underlying Ty.uint8=some (.int .u8):=by kernel_rfl
theorem e_uint8:el3 PP Ty.uint8=some (some (.int .u8 0),1,1):=by kernel_rfl
theorem s_uint8:sizeK PP Ty.uint8=some 1:=by kernel_rfl
theorem u_sl_p_node:PP.underlying Ty.t89=some (.slice Ty.t4):=by kernel_rfl
theorem e_p_node:el3 PP Ty.t4=some (some (.pointer none),1,8):=by kernel_rfl
theorem right_ok{m:Int}(E:Hs w0 F w l):Ca PP Fn.tree_right #[i64 m] w λr w'=>r=.bool (rightM m)∧Hs w0 F w' l:=by
 refine S.tree_right.calls ?_
 unfold S.tree_right
 (intro J1 hJ1)
 have fin:∀b w_,b=rightM m→Hs w0 F w_ l→J1 [.bool b] w_:=by
  intro b w_ hb E
  repeat with_reducible (apply hJ1;intro u_)
  exact⟨by rw[hb],E⟩
 clear hJ1
 repeat with_reducible refine Stp.go ?_
 refine Bi.eql ?_ ?_<;>intro h1<;>(repeat with_reducible refine Stp.go ?_)
 ·refine Bi.eql ?_ ?_<;>intro h2<;>(repeat with_reducible refine Stp.go ?_)
  ·exact fin _ _ (by simp[rightM,h1,h2]) E
  ·refine Bi.eql ?_ ?_<;>intro h3<;>(repeat with_reducible refine Stp.go ?_)
   ·exact fin _ _ (by simp[rightM,h1,h2,h3]) E
   ·exact fin _ _ (by simp[rightM,h1,h2,h3]) E
 ·exact fin _ _ (by simp[rightM,h1]) E
theorem room_ok{t:Nat}{X:PT}{r1 r2:List As}[h1:FPt l t (oc X.cs Ty.t17) r1][h2:FMp l X.om (.int .i64) X.oM r2](E:Hs w0 F w l):
  Ca PP Fn.f76 #[ptr t] w λr w'=>r=.bool (decide (X.ol.length<64))∧Hs w0 F w' l:=by
 refine S.f76.calls ?_
 unfold S.f76
 repeat with_reducible first|refine Stp.go ?_|refine StpE.go E ?_
 refine Len.map E FMp.mem u_mopen ?_
 rw[encM_length]
 refine Bi.lss ?_ ?_<;>intro h
 ·exact⟨by rw[decide_eq_true (by omega)],E⟩
 ·exact⟨by rw[decide_eq_false (by omega)],E⟩

def openedV:Option HV→Value
 |some x=>.tuple #[x.V,i64 0]
 |none=>.tuple #[h0V,i64 19]
theorem opened_ok{t:Nat}{X:PT}{h:Int}{r1 r2:List As}[h1:FPt l t (oc X.cs Ty.t17) r1][h2:FMp l X.om (.int .i64) X.oM r2](E:Hs w0 F w l):
  Ca PP Fn.f51 #[ptr t,i64 h] w λr w'=>r=openedV (getL X.ol h)∧Hs w0 F w' l:=by
 refine S.f51.calls ?_
 unfold S.f51
 repeat with_reducible (refine StpA.go E ?_;clear E;intro b_ w_ hb_ E)
 refine Eq.ef u_p_tree rfl ?_
 repeat with_reducible first|refine Stp.go ?_|refine StpE.go E ?_
 refine Lk.ok E FMp.mem u_mopen k_int z_handle rfl ?_
 rw[aget_enc (keyI .i64)]
 cases getL X.ol h with
 |none=>
  simp only[Option.map_none,Option.getD_none,Option.isSome_none]
  repeat with_reducible first|refine Stp.go ?_|refine StpE.go E ?_|(refine StpW.go E ?_;clear E;intro w_ E)|(refine StpA.go E ?_;clear E;intro b_ w_ hb_ E)
  exact⟨rfl,(E.tl).tl⟩
 |some x=>
  simp only[Option.map_some,Option.getD_some,Option.isSome_some]
  repeat with_reducible first|refine Stp.go ?_|refine StpE.go E ?_|(refine StpW.go E ?_;clear E;intro w_ E)|(refine StpA.go E ?_;clear E;intro b_ w_ hb_ E)
  exact⟨rfl,(E.tl).tl⟩

structure Free1(ks:List Int)(h:Int):Prop where
 pos:1≤h
 le:h≤ks.length+1
 out:h∉ks
 all:∀k,1≤k→k<h→k∈ks
theorem all_le{ks:List Int}{h:Nat}(H:∀k:Int,1≤k→k<h+1→k∈ks):h≤ks.length:=by
 have key:∀(h:Nat) (ks:List Int),(∀k:Int,1≤k→k<h+1→k∈ks)→h≤ks.length:=by
  intro h
  induction h with
  |zero=>intro ks _;exact Nat.zero_le _
  |succ h ih=>
   intro ks H
   have hm:((h+1:Nat):Int)∈ks:=H _ (by omega) (by omega)
   have:=ih (ks.erase ((h+1:Nat):Int)) λk h1 h2=>(List.mem_erase_of_ne (by omega)).2 (H k h1 (by omega))
   rw[List.length_erase_of_mem hm]at this
   have:=List.length_pos_of_mem hm
   omega
 exact key h ks H
theorem handle_ok {X : PT} {b : Nat} {m : MN} {mode : Int} {user : BA} (hl : X.ol.length < 1000) (E : Hs w0 F w (tb X::mp X.om (.int .i64) X.oM::nd b m::l)) :
  Ca PP Fn.f62 #[ptr X.t,ptr b,i64 mode,str user] w fun r w'=>∃ h : Int,Free1 (X.ol.map (·.1)) h∧r = .tuple #[i64 h,(⟨m.kind,m.vers,m.path⟩ : Qd).V,i64 0] ∧
   Hs w0 F w' (tb X::mp X.om (.int .i64) (encM i64 HV.V (putL X.ol h ⟨b,mode,user⟩))::nd b m::l):=by
 refine S.f62.calls ?_
 unfold S.f62
 repeat with_reducible (refine StpA.go E ?_; clear E; intro b_ w_ hb_ E)
 (revert b_; intro q hbq E)
 refine ⟨fun l1 w1=>∃ i : Nat,l1 = [i64 (i + 1)]∧(∀ k : Int,1≤k→k < i + 1→k∈X.ol.map (·.1))∧Hs w0 F w1 (pt q (oc [i64 0,i64 0,i64 0] Ty.api_Qid)::tb X::mp X.om (.int .i64) X.oM::nd b m::l),fun l1 _=>match l1 with | [.int _ i]=>X.ol.length + 2 - i.toNat | _=>0,
  ⟨0,rfl,fun k h1 h2=>by omega,E⟩,?_⟩
 clear E
 rintro t u w1 ⟨i,h1,hi,E⟩
 cases h1
 have hle:=all_le hi
 rw [List.length_map] at hle
 repeat with_reducible first|refine Stp.go ?_|refine StpE.go E ?_
 refine Lk.one E FMp.mem u_mopen k_int z_handle rfl ?_
 rw [aget_enc (keyI .i64)]
 cases hg : getL X.ol (i + 1) with
 | some x =>
  simp only [Option.map_some,Option.getD_some]
  repeat with_reducible refine Stp.go ?_
  refine Eq.nt u_p_node rfl ?_
  repeat with_reducible refine Stp.go ?_
  refine Bi.add (by omega) ?_
  have hm : ((i : Int) + 1)∈X.ol.map (·.1):=Classical.byContradiction fun hn=>by rw [getL_none.2 hn] at hg; cases hg
  have hi' : ∀ k : Int,1≤k→k < i + 1 + 1→k∈X.ol.map (·.1):=fun k h1 h2=>by
   by_cases hk : k = i + 1
   ·rw [hk]; exact hm
   ·exact hi k h1 (by omega)
  have hle':=all_le (ks:=X.ol.map (·.1)) (h:=i + 1) (fun k h1 h2=>hi' k h1 (by omega))
  rw [List.length_map] at hle'
  exact ⟨⟨i + 1,by simp,fun k h1 h2=>hi' k h1 (by omega),E⟩,by simp only []; omega⟩
 | none =>
  simp only [Option.map_none,Option.getD_none]
  repeat with_reducible refine Stp.go ?_
  refine Eq.nf u_p_node rfl ?_
  repeat with_reducible first|refine Stp.go ?_|refine StpE.go E ?_
  refine Mu.by E u_mopen k_int rfl ?_
  clear E
  intro w_ E
  have he : aput X.oM (i64 (i + 1)) (HV.V ⟨b,mode,user⟩) = encM i64 HV.V (putL X.ol (i + 1) ⟨b,mode,user⟩):=aput_enc (keyI .i64) _ _ _
  replace E : Hs w0 F w_ (pt q (oc [i64 0,i64 0,i64 0] Ty.api_Qid)::tb X::mp X.om (.int .i64) (encM i64 HV.V (putL X.ol (i + 1) ⟨b,mode,user⟩))::nd b m::l):=by rw [← he]; exact E
  repeat with_reducible first|refine Stp.go ?_|refine StpE.go E ?_|(refine StpW.go E ?_; clear E; intro w_ E)
  exact ⟨i + 1,⟨by omega,by rw [List.length_map]; omega,getL_none.1 hg,hi⟩,rfl,E.tl⟩
theorem stat_ok{b:Nat}{m:MN}{n:Nat}{xs:List Value}(E:Hs w0 F w (nd b m::l))(hd:RdS w0 F l 1 n m.dv xs):
  Ca PP Fn.f58 #[ptr b] w λr w'=>r=(⟨m.kind,m.vers,m.path,m.mode,m.time,n,m.name,m.owner,m.group,m.last⟩:Dr).V∧Hs w0 F w' (nd b m::l):=by
 refine S.f58.calls ?_
 unfold S.f58
 repeat with_reducible first|refine Stp.go ?_|refine StpE.go E ?_|(refine StpW.go E ?_;clear E;intro w_ E)|(refine StpA.go E ?_;clear E;intro b_ w_ hb_ E)
 refine hd.len ?_
 repeat with_reducible first|refine Stp.go ?_|refine StpE.go E ?_|(refine StpW.go E ?_;clear E;intro w_ E)
 exact⟨rfl,E.tl.tl⟩
theorem resize_ok{b:Nat}{m:MN}{n:Nat}{xs:List Value}{k:Nat}(hk:k≤4000000)(hxs:xs.all scalV=true)(E:Hs w0 F w (nd b m::l))(hd:RdS w0 F l 1 n m.dv xs):
  Ca PP Fn.f63 #[ptr b,i64 k] w λr w'=>∃q,Hs w0 F w' (nd b {m with dv:=.slice (some ⟨q,0,none⟩) k k}::pt q (oc (xs.take k++List.replicate (k-n) (.int .u8 0)) Ty.uint8)::l):=by
 refine S.f63.calls ?_
 unfold S.f63
 refine MkS.pt E u_sl_uint8 e_uint8 rfl (by omega) (by omega) ?_
 clear E
 intro q w_ hq E
 repeat with_reducible first|refine Stp.go ?_|refine StpE.go E ?_
 have hx:xs.length=n:=by obtain⟨_,_,_,_,h,_⟩:=hd;simpa using h
 have hd2:=(hd.cons (nd b m)).cons (pt q (oc (List.replicate k (.int .u8 0)) Ty.uint8))
 refine Cpy.pt E u_sl_uint8 s_uint8 (hd2.lenOf _) rfl (hd2.first E (Nat.min_le_left _ _)) (by simp;omega) (by simp;omega) (by
  rw[List.all_eq_true]at hxs ⊢;exact λx hx=>hxs x (List.mem_of_mem_take hx)) ?_
 clear E
 intro w_ E
 repeat with_reducible first|refine Stp.go ?_|(refine StpW.go E ?_;clear E;intro w_ E)
 refine⟨q,?_⟩
 have e:List.take 0 (List.replicate k (Value.int .u8 0))++List.take (min n k) xs++List.drop (0+min n k) (List.replicate k (Value.int .u8 0))=xs.take k++List.replicate (k-n) (.int .u8 0):=by
  rw[List.take_zero,List.nil_append,Nat.zero_add,List.drop_replicate]
  congr 1
  ·by_cases h:n≤k
   ·rw[Nat.min_eq_left h,List.take_of_length_le (by omega),List.take_of_length_le (by omega)]
   ·rw[Nat.min_eq_right (by omega)]
  ·congr 1;omega
 rw[e]at E
 exact E.bIx 1
end Go.Proofs.YthapmhhihfedcaaGreatDoor
namespace Go.Proofs.YthapmhhihfedcaaGreatDoor
open Go Go.Sh
set_option maxRecDepth 100000
set_option linter.unusedVariables false
set_option linter.unusedSimpArgs false
variable {w0 w:World} {F:Nat→Prop} {l:List As}

structure Inv(T:Tr):Prop where
 sorted:T.ns.Pairwise λa b=>a.path<b.path
 root:∃n∈T.ns,n.path=0
 bound:∀n∈T.ns,0≤n.path∧n.path<T.next
 rootD:∀n∈T.ns,n.path=0→n.dir=true∧n.up=0
 up:∀n∈T.ns,n.path≠0→∃u∈T.ns,u.path=n.up∧u.dir=true
 names:∀a∈T.ns,∀b∈T.ns,a.path≠0→b.path≠0→a.up=b.up→a.name=b.name→a.path=b.path
 good:∀n∈T.ns,n.path≠0→goodName n.name=true
 rank:∃rk:Int→Nat,∀n∈T.ns,n.path≠0→rk n.up<rk n.path
 data:∀n∈T.ns,(n.dir=true→n.data=emp)∧n.data.size≤1048576
 form:∀n∈T.ns,goodName n.owner=true∧goodName n.group=true∧rightM n.mode=true∧0≤n.vers∧0≤n.time
 hsorted:T.hs.Pairwise λa b=>a.1<b.1
 hpos:∀x∈T.hs,1≤x.1
 hfile:∀x∈T.hs,0≤x.2.file∧x.2.file<T.next
 hclose:∀x∈T.hs,x.2.mode≠0→∀n∈T.ns,n.path=x.2.file→n.dir=false
 few:T.ns.length≤1024∧T.hs.length≤64
 clock:0≤T.clock
 rootN:∀n∈T.ns,n.path=0→n.name=emp

structure Lim(N:Int)(T:Tr):Prop where
 clock:T.clock≤N
 next:T.next≤N
 vers:∀n∈T.ns,n.vers≤N
theorem Inv.nodup {T : Tr} (h : Inv T) : (T.ns.map (·.path)).Nodup:=by
 rw [List.Nodup,List.pairwise_map]
 exact h.sorted.imp fun {a b} hab=>by omega
theorem Inv.inj{T:Tr}(h:Inv T){a b:Nd}(ha:a∈T.ns)(hb:b∈T.ns)(he:a.path=b.path):a=b:=by
 have:=h.sorted
 have key:∀(ns:List Nd),ns.Pairwise (λa b=>a.path<b.path)→a∈ns→b∈ns→a=b:=by
  intro ns
  induction ns with
  |nil=>intro _ h;cases h
  |cons x r ih=>
   intro hp ha hb
   rw[List.pairwise_cons]at hp
   rcases List.mem_cons.1 ha with h1|ha<;>rcases List.mem_cons.1 hb with h2|hb
   ·rw[h1,h2]
   ·have:=hp.1 b hb;rw[← h1]at this;omega
   ·have:=hp.1 a ha;rw[← h2]at this;omega
   ·exact ih hp.2 ha hb
 exact key _ this ha hb
theorem Inv.get{T:Tr}(h:Inv T){p:Int}{n:Nd}:T.get p=some n↔n∈T.ns∧n.path=p:=by
 unfold Tr.get
 constructor
 ·intro hg
  exact⟨List.mem_of_find?_eq_some hg,by simpa using List.find?_some hg⟩
 ·rintro⟨hn,rfl⟩
  cases hg:T.ns.find? λx=>decide (x.path=n.path)with
  |none=>
   have:=List.find?_eq_none.1 hg n hn
   simp at this
  |some x=>
   have h1:=List.mem_of_find?_eq_some hg
   have h2:x.path=n.path:=by simpa using List.find?_some hg
   rw[h.inj h1 hn h2]
theorem get_none{T:Tr}{p:Int}:T.get p=none↔∀n∈T.ns,n.path≠p:=by
 unfold Tr.get
 rw[List.find?_eq_none]
 simp

structure Tie(D:List Row)(X:PT)(T:Tr)(β:Int→Nat):Prop where
 ns:(X.ps.map PN.f).Perm T.ns
 clock:X.clock=T.clock
 next:X.next=T.next
 data:∀n∈X.ps,Rdy D Ty.uint8 n.dv (bts n.f.data)
 ub:∀n∈X.ps,(n.f.path=0→n.ub=none)∧(n.f.path≠0→∃u∈X.ps,u.f.path=n.f.up∧n.ub=some u.blk)
 kl:∀n∈X.ps,n.kl.Perm ((X.ps.filter λk=>Tr.isKid n.f.path k.f).map λk=>(k.f.name,k.blk))
 fl:X.fl.Perm (X.ps.map λn=>(n.f.path,n.blk))
 root:∃r∈X.ps,r.f.path=0∧r.blk=X.root
 gs:GTie D X.gv T.gs
 bl:∀n∈X.ps,β n.f.path=n.blk
 ol:X.ol.Perm (T.hs.map λx=>(x.1,(⟨β x.2.file,x.2.mode,x.2.user⟩:HV)))
 dead:∀x∈T.hs,(∀n∈T.ns,n.path≠x.2.file)→∃m,(β x.2.file,m)∈X.ds∧m.gone=true
section
variable {D:List Row} {X:PT} {T:Tr} {β:Int→Nat}
theorem Tie.mem(h:Tie D X T β){n:Nd}:n∈T.ns↔∃q∈X.ps,q.f=n:=by
 rw[← h.ns.mem_iff,List.mem_map]
theorem Tie.inj (h : Tie D X T β) (hi : Inv T) {a b : PN} (ha : a∈X.ps) (hb : b∈X.ps) (he : a.f.path = b.f.path) : a = b:=by
 have hn : (X.ps.map fun n=>n.f.path).Nodup:=by
  have:=(h.ns.map (·.path)).nodup_iff.2 hi.nodup
  rwa [List.map_map] at this
 have key : ∀ (ps : List PN),(ps.map fun n=>n.f.path).Nodup→a∈ps→b∈ps→a = b:=by
  intro ps
  induction ps with
  | nil=>intro _ h; cases h
  | cons x r ih =>
   intro hp ha hb
   rw [List.map_cons,List.nodup_cons] at hp
   rcases List.mem_cons.1 ha with h1 | ha <;> rcases List.mem_cons.1 hb with h2 | hb
   ·rw [h1,h2]
   ·exact absurd (List.mem_map.2 ⟨b,hb,by rw [← h1,he]⟩) hp.1
   ·exact absurd (List.mem_map.2 ⟨a,ha,by rw [← h2,he]⟩) hp.1
   ·exact ih hp.2 ha hb
 exact key _ hn ha hb
theorem Tie.flN (h : Tie D X T β) (hi : Inv T) : ((X.ps.map fun n=>(n.f.path,n.blk)).map (·.1)).Nodup:=by
 rw [List.map_map]
 have:=(h.ns.map (·.path)).nodup_iff.2 hi.nodup
 rwa [List.map_map] at this

theorem Tie.find(h:Tie D X T β)(hi:Inv T)(p:Int):
  (T.get p=none∧getL X.fl p=none)∨∃n rs,X.ps.Perm (n::rs)∧n∈X.ps∧n.f.path=p∧T.get p=some n.f∧getL X.fl p=some n.blk:=by
 cases hg:T.get p with
 |none=>
  left
  refine⟨rfl,?_⟩
  rw[getL_perm h.fl (h.flN hi),getL_none,List.map_map]
  intro hm
  obtain⟨n,hn,he⟩:=List.mem_map.1 hm
  exact get_none.1 hg n.f (h.mem.2 ⟨n,hn,rfl⟩) he
 |some n=>
  right
  obtain⟨hn,he⟩:=hi.get.1 hg
  obtain⟨q,hq,rfl⟩:=h.mem.1 hn
  obtain⟨rs,hp⟩:=split_perm hq
  refine⟨q,rs,hp,hq,he,rfl,?_⟩
  rw[getL_perm h.fl (h.flN hi),getL_some (h.flN hi)]
  exact List.mem_map.2 ⟨q,hq,by rw[he]⟩

theorem Tie.parent(h:Tie D X T β)(hi:Inv T){n:PN}{rs:List PN}(hp:X.ps.Perm (n::rs))(h0:n.f.path≠0):
  ∃u rs',rs.Perm (u::rs')∧u∈X.ps∧n.ub=some u.blk∧u.f.path=n.f.up∧u.f.path≠n.f.path∧u.f.dir=true∧T.get n.f.up=some u.f∧T.parent n.f=u.f:=by
 have hn:n∈X.ps:=hp.mem_iff.2 List.mem_cons_self
 obtain⟨u,hu,h1,h2⟩:=(h.ub n hn).2 h0
 have hnT:=h.mem.2 ⟨n,hn,rfl⟩
 obtain⟨rk,hrk⟩:=hi.rank
 have h3:u.f.path≠n.f.path:=λhe=>by
  have:=hrk _ hnT h0
  rw[← h1,he]at this;omega
 have hur:u∈rs:=by
  rcases List.mem_cons.1 (hp.mem_iff.1 hu)with rfl|h
  ·exact absurd rfl h3
  ·exact h
 obtain⟨rs',hp'⟩:=split_perm hur
 have huT:=h.mem.2 ⟨u,hu,rfl⟩
 obtain⟨v,hv,hv1,hv2⟩:=hi.up _ hnT h0
 have:v=u.f:=hi.inj hv huT (by rw[hv1,h1])
 have hg:T.get n.f.up=some u.f:=hi.get.2 ⟨huT,h1⟩
 exact⟨u,rs',hp',hu,h2,h1,h3,by rw[← this];exact hv2,hg,by unfold Tr.parent;rw[hg];rfl⟩
theorem Hs.openTN{n:PN}{rs:List PN}(hp:X.ps.Perm (n::rs))(E:Hs w0 F w (trA X::l)):Hs w0 F w (tb X::mp X.fm (.int .i64) X.fM::mp X.gm .str X.gM::mp X.om (.int .i64) X.oM::nd n.blk n.mn::KM n::NT rs::DT X.ds::l):=by
 replace E:=Hs.openN ((Hs.openT E).bIx 4) hp
 (replace E:=(((((((E.bIx 2).bIx 2).bIx 2).bIx 6).bIx 6).bIx 6).bIx 6))
 exact E
theorem Hs.closeTN(X:PT)(n:PN){rs:List PN}(hp:X.ps.Perm (n::rs))(E:Hs w0 F w (tb X::mp X.fm (.int .i64) X.fM::mp X.gm .str X.gM::mp X.om (.int .i64) X.oM::nd n.blk n.mn::KM n::NT rs::DT X.ds::l)):Hs w0 F w (trA X::l):=by
 (replace E:=(((((((E.bIx 3).bIx 3).bIx 3).bIx 3).bIx 6).bIx 6).bIx 6))
 replace E:=Hs.permN (Hs.closeN n E) hp.symm
 (replace E:=(((((E.bIx 0).bIx 4).bIx 4).bIx 4).bIx 4))
 exact Hs.closeT X E
theorem Hs.openTN2{n u:PN}{rs:List PN}(hp:X.ps.Perm (n::u::rs))(E:Hs w0 F w (trA X::l)):Hs w0 F w (tb X::mp X.fm (.int .i64) X.fM::mp X.gm .str X.gM::mp X.om (.int .i64) X.oM::nd n.blk n.mn::KM n::nd u.blk u.mn::KM u::NT rs::DT X.ds::l):=by
 replace E:=Hs.openN ((Hs.openTN hp E).bIx 6) (List.Perm.refl _)
 (replace E:=(((((((((E.bIx 2).bIx 2).bIx 2).bIx 8).bIx 8).bIx 8).bIx 8).bIx 8).bIx 8))
 exact E
theorem Hs.closeTN2(X:PT)(n u:PN){rs:List PN}(hp:X.ps.Perm (n::u::rs))(E:Hs w0 F w (tb X::mp X.fm (.int .i64) X.fM::mp X.gm .str X.gM::mp X.om (.int .i64) X.oM::nd n.blk n.mn::KM n::nd u.blk u.mn::KM u::NT rs::DT X.ds::l)):Hs w0 F w (trA X::l):=by
 (replace E:=(((((((((E.bIx 5).bIx 5).bIx 5).bIx 5).bIx 5).bIx 5).bIx 8).bIx 8).bIx 8))
 replace E:=Hs.closeN u E
 (replace E:=(((((((E.bIx 0).bIx 6).bIx 6).bIx 6).bIx 6).bIx 6).bIx 6))
 exact Hs.closeTN X n hp E
theorem memberG_eq(T:Tr)(user g:BA):memberG T.gs user g=T.member user g:=rfl
theorem Stat_ok(h:Tie D X T β)(hi:Inv T){user:BA}{file:Int}(hp:Pool D∈l)(E:Hs w0 F w (trA X::l)):
  Ca PP Fn.f74 #[ptr X.t,str user,i64 file] w λr w'=>r=.tuple #[(T.stat file).1.V,i64 (T.stat file).2]∧Hs w0 F w' (trA X::l):=by
 refine S.f74.calls ?_
 unfold S.f74
 repeat with_reducible (refine StpA.go E ?_;clear E;intro b_ w_ hb_ E)
 (revert b_;intro q hbq E)
 rcases h.find hi file with⟨h1,h2⟩|⟨n,rs,hpm,hn,hpath,h1,h2⟩
 ·replace E:=Hs.openT (E.bIx 1)
  refine(find_ok E).mono ?_
  clear E
  rintro r w_ ⟨rfl,E⟩
  rw[h2]
  unfold findV
  repeat first|(with_reducible first|refine Stp.go ?_|refine StpE.go E ?_|(refine StpW.go E ?_;clear E;intro w_ E))|((with_reducible refine Bi.dec true ?_ ?_);focus exact rfl)
  replace E:=E.bIx 6
  unfold Tr.stat
  rw[h1]
  exact⟨rfl,Hs.closeT X E.tl⟩
 ·replace E:=Hs.openTN hpm (E.bIx 1)
  refine(find_ok E).mono ?_
  clear E
  rintro r w_ ⟨rfl,E⟩
  rw[h2]
  unfold findV
  repeat first|(with_reducible first|refine Stp.go ?_)|((with_reducible refine Bi.dec false ?_ ?_);focus exact rfl)
  replace E:=E.bIx 4
  have hrd:=(h.data n hn).read E.tl (by simp[hp])
  have hsz:(bts n.f.data).length=n.f.data.size:=by simp[bts]
  rw[hsz]at hrd
  refine(stat_ok E hrd).mono ?_
  clear E
  rintro r w_ ⟨rfl,E⟩
  repeat with_reducible first|refine StpE.go E ?_|(refine StpW.go E ?_;clear E;intro w_ E)
  unfold Tr.stat
  rw[h1]
  replace E:=(E.bIx 8).tl
  (replace E:=(((((E.bIx 0).bIx 4).bIx 4).bIx 4).bIx 4))
  exact⟨rfl,Hs.closeTN X n hpm E⟩
end
end Go.Proofs.YthapmhhihfedcaaGreatDoor
namespace Go.Proofs.YthapmhhihfedcaaGreatDoor
open Go Go.Sh
set_option maxRecDepth 100000
set_option linter.unusedVariables false
set_option linter.unusedSimpArgs false
variable {w0 w:World} {F:Nat→Prop} {l:List As}
theorem updB_updB{ps:List PN}{b:Nat}{g1 g2:PN→PN}(h:∀n,(g1 n).blk=n.blk):updB (updB ps b g1) b g2=updB ps b λn=>g2 (g1 n):=by
 unfold updB
 rw[List.map_map]
 refine List.map_congr_left λn _=>?_
 simp only[Function.comp]
 by_cases hb:n.blk=b
 ·rw[if_pos hb,if_pos (by rw[h,hb]),if_pos hb]
 ·rw[if_neg hb,if_neg hb,if_neg hb]
theorem updN_updN{ns:List Nd}{p:Int}{f1 f2:Nd→Nd}(h:∀n,(f1 n).path=n.path):updN (updN ns p f1) p f2=updN ns p λn=>f2 (f1 n):=by
 unfold updN
 rw[List.map_map]
 refine List.map_congr_left λn _=>?_
 simp only[Function.comp]
 by_cases hb:n.path=p
 ·rw[if_pos hb,if_pos (by rw[h,hb]),if_pos hb]
 ·rw[if_neg hb,if_neg hb,if_neg hb]
section
variable {D D':List Row} {X:PT} {T:Tr} {β:Int→Nat}
theorem Hs.nodupT(E:Hs w0 F w (trA X::l)):(X.ps.map PN.blk).Nodup:=Hs.nodupN ((Hs.openT E).bIx 4)

theorem Tie.mapN(h:Tie D X T β){G:PN→PN}{g:Nd→Nd}(c:Int)(hs:∀n,(G n).blk=n.blk∧(G n).kl=n.kl∧(G n).ub=n.ub)(hg:∀n∈X.ps,(G n).f=g n.f)
  (hsh:∀n∈T.ns,(g n).path=n.path∧(g n).up=n.up∧(g n).name=n.name)(hD:∀x∈D,x∈D')(hdata:∀n∈X.ps,Rdy D' Ty.uint8 (G n).dv (bts (g n.f).data)):
  Tie D' {X with ps:=X.ps.map G,clock:=c} {T with ns:=T.ns.map g,clock:=c} β:=by
 have hT:∀n∈X.ps,(g n.f).path=n.f.path∧(g n.f).up=n.f.up∧(g n.f).name=n.f.name:=λn hn=>hsh _ (h.mem.2 ⟨n,hn,rfl⟩)
 refine⟨?_,rfl,h.next,?_,?_,?_,?_,?_,?_,?_,h.ol,?_⟩
 ·have e:(X.ps.map G).map PN.f=(X.ps.map PN.f).map g:=by
   rw[List.map_map,List.map_map]
   exact List.map_congr_left λn hn=>hg n hn
  show((X.ps.map G).map PN.f).Perm (T.ns.map g)
  rw[e]
  exact h.ns.map g
 ·intro n hn
  obtain⟨m,hm,rfl⟩:=List.mem_map.1 hn
  rw[hg m hm]
  exact hdata m hm
 ·intro n hn
  obtain⟨m,hm,rfl⟩:=List.mem_map.1 hn
  rw[hg m hm,(hT m hm).1,(hT m hm).2.1,(hs m).2.2]
  refine⟨(h.ub m hm).1,λh0=>?_⟩
  obtain⟨u,hu,h1,h2⟩:=(h.ub m hm).2 h0
  exact⟨G u,List.mem_map.2 ⟨u,hu,rfl⟩,by rw[hg u hu,(hT u hu).1,h1],by rw[(hs u).1,h2]⟩
 ·intro n hn
  obtain⟨m,hm,rfl⟩:=List.mem_map.1 hn
  rw[hg m hm,(hT m hm).1,(hs m).2.1]
  have e:(((X.ps.map G).filter λk=>Tr.isKid m.f.path k.f).map λk=>(k.f.name,k.blk))=((X.ps.filter λk=>Tr.isKid m.f.path k.f).map λk=>(k.f.name,k.blk)):=by
   rw[List.filter_map,List.map_map]
   have e1:X.ps.filter ((λk=>Tr.isKid m.f.path k.f) ∘ G)=X.ps.filter λk=>Tr.isKid m.f.path k.f:=by
    refine List.filter_congr λk hk=>?_
    simp only[Function.comp,Tr.isKid]
    rw[hg k hk,(hT k hk).1,(hT k hk).2.1]
   rw[e1]
   refine List.map_congr_left λk hk=>?_
   have hk:=(List.mem_filter.1 hk).1
   simp only[Function.comp]
   rw[hg k hk,(hT k hk).2.2,(hs k).1]
  show m.kl.Perm _
  rw[e]
  exact h.kl m hm
 ·have e:((X.ps.map G).map λn=>(n.f.path,n.blk))=X.ps.map λn=>(n.f.path,n.blk):=by
   rw[List.map_map]
   refine List.map_congr_left λk hk=>?_
   simp only[Function.comp]
   rw[hg k hk,(hT k hk).1,(hs k).1]
  show X.fl.Perm ((X.ps.map G).map λn=>(n.f.path,n.blk))
  rw[e];exact h.fl
 ·obtain⟨r,hr,h1,h2⟩:=h.root
  exact⟨G r,List.mem_map.2 ⟨r,hr,rfl⟩,by rw[hg r hr,(hT r hr).1,h1],by rw[(hs r).1,h2]⟩
 ·refine⟨?_,h.gs.nd⟩
  intro x
  have:=h.gs.at_ x
  revert this
  show(match getL T.gs x with|some us=>_|none=>_)→(match getL T.gs x with|some us=>_|none=>_)
  cases getL T.gs x with
  |none=>exact id
  |some us=>rintro⟨h1,v,h2,h3⟩;exact⟨h1,v,h2,h3.mono hD⟩
 ·intro n hn
  obtain⟨m,hm,rfl⟩:=List.mem_map.1 hn
  rw[hg m hm,(hT m hm).1,(hs m).1]
  exact h.bl m hm
 ·intro x hx hno
  refine h.dead x hx λn hn he=>?_
  refine hno (g n) (List.mem_map.2 ⟨n,hn,rfl⟩) ?_
  rw[(hsh n hn).1,he]
theorem Tie.upd(h:Tie D X T β)(hi:Inv T)(hnd:(X.ps.map PN.blk).Nodup){n:PN}(hn:n∈X.ps){G:PN→PN}{g:Nd→Nd}(c:Int)(hs:∀n,(G n).blk=n.blk∧(G n).kl=n.kl∧(G n).ub=n.ub)(hg:∀n,(G n).f=g n.f)
  (hsh:∀n,(g n).path=n.path∧(g n).up=n.up∧(g n).name=n.name)(hD:∀x∈D,x∈D')(hdata:Rdy D' Ty.uint8 (G n).dv (bts (g n.f).data)):
  Tie D' {X with ps:=updB X.ps n.blk G,clock:=c} {T with ns:=updN T.ns n.f.path g,clock:=c} β:=by
 have hb:∀m∈X.ps,m.blk=n.blk↔m.f.path=n.f.path:=by
  intro m hm
  constructor
  ·intro he
   have:m=n:=by
    have key:∀(ps:List PN),(ps.map PN.blk).Nodup→m∈ps→n∈ps→m=n:=by
     intro ps
     induction ps with
     |nil=>intro _ h;cases h
     |cons x r ih=>
      intro hp ha hb
      rw[List.map_cons,List.nodup_cons]at hp
      rcases List.mem_cons.1 ha with h1|ha<;>rcases List.mem_cons.1 hb with h2|hb
      ·rw[h1,h2]
      ·exact absurd (List.mem_map.2 ⟨n,hb,by rw[← h1,he]⟩) hp.1
      ·exact absurd (List.mem_map.2 ⟨m,ha,by rw[← h2,he]⟩) hp.1
      ·exact ih hp.2 ha hb
    exact key _ hnd hm hn
   rw[this]
  ·intro he
   rw[← h.bl m hm,← h.bl n hn,he]
 refine h.mapN (G:=λm=>if m.blk=n.blk then G m else m) (g:=λm=>if m.path=n.f.path then g m else m) c ?_ ?_ ?_ hD ?_
 ·intro m
  split
  ·exact hs m
  ·exact⟨rfl,rfl,rfl⟩
 ·intro m hm
  by_cases he:m.blk=n.blk
  ·rw[if_pos he,if_pos ((hb m hm).1 he),hg]
  ·rw[if_neg he,if_neg λhc=>he ((hb m hm).2 hc)]
 ·intro m _
  split
  ·exact hsh m
  ·exact⟨rfl,rfl,rfl⟩
 ·intro m hm
  by_cases he:m.f.path=n.f.path
  ·have:=h.inj hi hm hn he
   subst this
   simp only[if_true]
   exact hdata
  ·simp only[if_neg he,if_neg λhc=>he ((hb m hm).1 hc)]
   exact(h.data m hm).mono hD

theorem Inv.mapN(h:Inv T){g:Nd→Nd}(c:Int)(hc:0≤c)(hsh:∀n∈T.ns,(g n).path=n.path∧(g n).up=n.up∧(g n).name=n.name∧(g n).dir=n.dir)
  (hd:∀n∈T.ns,((g n).dir=true→(g n).data=emp)∧(g n).data.size≤1048576)(hf:∀n∈T.ns,goodName (g n).owner=true∧goodName (g n).group=true∧rightM (g n).mode=true∧0≤(g n).vers∧0≤(g n).time):
  Inv {T with ns:=T.ns.map g,clock:=c}:=by
 have mm:∀{P:Nd→Prop},(∀n∈T.ns,P (g n))→∀n∈T.ns.map g,P n:=by
  intro P hP n hn
  obtain⟨m,hm,rfl⟩:=List.mem_map.1 hn
  exact hP m hm
 refine⟨?_,?_,mm ?_,mm ?_,mm ?_,mm ?_,mm ?_,?_,mm hd,mm hf,h.hsorted,h.hpos,h.hfile,?_,⟨by show(T.ns.map g).length≤_;rw[List.length_map];exact h.few.1,h.few.2⟩,hc,mm λn hn=>by rw[(hsh n hn).1,(hsh n hn).2.2.1];exact h.rootN n hn⟩
 ·show(T.ns.map g).Pairwise _
  rw[List.pairwise_map]
  refine h.sorted.imp_of_mem λ{a b} ha hb hab=>?_
  rw[(hsh a ha).1,(hsh b hb).1];exact hab
 ·obtain⟨r,hr,h0⟩:=h.root
  exact⟨g r,List.mem_map.2 ⟨r,hr,rfl⟩,by rw[(hsh r hr).1,h0]⟩
 ·intro n hn;rw[(hsh n hn).1];exact h.bound n hn
 ·intro n hn;rw[(hsh n hn).1,(hsh n hn).2.1,(hsh n hn).2.2.2];exact h.rootD n hn
 ·intro n hn h0
  rw[(hsh n hn).1]at h0
  obtain⟨u,hu,h1,h2⟩:=h.up n hn h0
  exact⟨g u,List.mem_map.2 ⟨u,hu,rfl⟩,by rw[(hsh u hu).1,(hsh n hn).2.1,h1],by rw[(hsh u hu).2.2.2,h2]⟩
 ·intro a ha
  refine mm λb hb=>?_
  rw[(hsh a ha).1,(hsh a ha).2.1,(hsh a ha).2.2.1,(hsh b hb).1,(hsh b hb).2.1,(hsh b hb).2.2.1]
  exact h.names a ha b hb
 ·intro n hn;rw[(hsh n hn).1,(hsh n hn).2.2.1];exact h.good n hn
 ·obtain⟨rk,hrk⟩:=h.rank
  refine⟨rk,mm λn hn=>?_⟩
  rw[(hsh n hn).1,(hsh n hn).2.1];exact hrk n hn
 ·intro x hx h64
  refine mm λn hn he=>?_
  rw[(hsh n hn).2.2.2]
  rw[(hsh n hn).1]at he
  exact h.hclose x hx h64 n hn he
theorem Inv.upd(h:Inv T){g:Nd→Nd}{p:Int}(c:Int)(hc:0≤c)(hsh:∀n∈T.ns,n.path=p→(g n).path=n.path∧(g n).up=n.up∧(g n).name=n.name∧(g n).dir=n.dir)
  (hd:∀n∈T.ns,n.path=p→((g n).dir=true→(g n).data=emp)∧(g n).data.size≤1048576)(hf:∀n∈T.ns,n.path=p→goodName (g n).owner=true∧goodName (g n).group=true∧rightM (g n).mode=true∧0≤(g n).vers∧0≤(g n).time):
  Inv {T with ns:=updN T.ns p g,clock:=c}:=by
 refine h.mapN (g:=λn=>if n.path=p then g n else n) c hc ?_ ?_ ?_
 ·intro n hn
  split
  ·rename_i he;exact hsh n hn he
  ·exact⟨rfl,rfl,rfl,rfl⟩
 ·intro n hn
  by_cases he:n.path=p
  ·simp only[if_pos he];exact hd n hn he
  ·simp only[if_neg he];exact h.data n hn
 ·intro n hn
  by_cases he:n.path=p
  ·simp only[if_pos he];exact hf n hn he
  ·simp only[if_neg he];exact h.form n hn
end
end Go.Proofs.YthapmhhihfedcaaGreatDoor
namespace Go.Proofs.YthapmhhihfedcaaGreatDoor
open Go Go.Sh
set_option maxRecDepth 100000
set_option linter.unusedVariables false
set_option linter.unusedSimpArgs false
variable {w0 w:World} {F:Nat→Prop} {l:List As}
theorem getL_map{κ β γ:Type}[DecidableEq κ](f:β→γ)(L:List (κ×β))(k:κ):getL (L.map λx=>(x.1,f x.2)) k=(getL L k).map f:=by
 unfold getL
 induction L with
 |nil=>rfl
 |cons p r ih=>
  simp only[List.map_cons,List.find?_cons]
  by_cases h:k=p.1
  ·simp[h]
  ·simp only[h,decide_false];exact ih
theorem Hs.openD{ds rs:List (Nat×MN)}{d:Nat×MN}(E:Hs w0 F w (DT ds::l))(hp:ds.Perm (d::rs)):Hs w0 F w (nd d.1 d.2::DT rs::l):=by
 have E1:Hs w0 F w (nd d.1 d.2::((rs.map λd=>nd d.1 d.2)++l)):=(Hs.starPerm (hp.map λd=>nd d.1 d.2) E).unstar
 have E4:Hs w0 F w ((rs.map λd=>nd d.1 d.2)++(nd d.1 d.2::l)):=E1.perm List.perm_middle.symm
 exact E4.star.perm (List.Perm.swap _ _ _)
theorem Hs.closeD{ds rs:List (Nat×MN)}{d:Nat×MN}(E:Hs w0 F w (nd d.1 d.2::DT rs::l))(hp:ds.Perm (d::rs)):Hs w0 F w (DT ds::l):=by
 have E1:Hs w0 F w ((rs.map λd=>nd d.1 d.2)++(nd d.1 d.2::l)):=(E.perm (List.Perm.swap _ _ _)).unstar
 have E2:Hs w0 F w (((d::rs).map λd=>nd d.1 d.2)++l):=E1.perm List.perm_middle
 exact Hs.starPerm (hp.symm.map λd=>nd d.1 d.2) E2.star

theorem bts_len(s:BA):(bts s).length=s.size:=by simp[bts]
theorem bts_scal(s:BA):(bts s).all scalV=true:=by
 rw[List.all_eq_true];intro v hv;obtain⟨b,_,rfl⟩:=List.mem_map.1 hv;rfl
theorem bts_cut(s:BA)(i j:Nat):bts (cutS s i j)=((bts s).take j).drop i:=by simp[bts,cutS]
theorem bts_sized(s:BA)(n:Nat):bts (sized s n)=(bts s).take n++List.replicate (n-s.size) (.int .u8 0):=by simp[bts,sized]
theorem bts_over(s d:BA)(i:Nat):bts (overW s i d)=(bts (sized s (max s.size (i+d.size)))).take i++bts d++(bts (sized s (max s.size (i+d.size)))).drop (i+d.size):=by simp[bts,overW]
theorem sized_size(s:BA)(n:Nat):(sized s n).size=n:=by
 have:=congrArg List.length (bts_sized s n)
 rw[bts_len,List.length_append,List.length_take,bts_len,List.length_replicate]at this
 omega
theorem over_size(s d:BA)(i:Nat):(overW s i d).size=max s.size (i+d.size):=by
 have:=congrArg List.length (bts_over s d i)
 rw[bts_len,List.length_append,List.length_append,List.length_take,bts_len,bts_len,List.length_drop,bts_len,sized_size]at this
 omega
section
variable {D:List Row} {X:PT} {T:Tr} {β:Int→Nat}
theorem Tie.opened(h:Tie D X T β)(hi:Inv T)(k:Int):getL X.ol k=(T.opened k).map λx=>(⟨β x.file,x.mode,x.user⟩:HV):=by
 have e:=getL_map (λx:Hd=>(⟨β x.file,x.mode,x.user⟩:HV)) T.hs k
 rw[getL_perm h.ol]
 ·exact e
 ·rw[List.map_map,List.Nodup,List.pairwise_map]
  exact hi.hsorted.imp λ{a b} hab=>by simp only[Function.comp];omega
theorem hs_nodup (hi : Inv T) : (T.hs.map (·.1)).Nodup:=by
 rw [List.Nodup,List.pairwise_map]
 exact hi.hsorted.imp fun {a b} hab=>by omega

theorem Tie.file(h:Tie D X T β)(hi:Inv T){k:Int}{x:Hd}(hx:T.opened k=some x):
  (∃n rs,X.ps.Perm (n::rs)∧n∈X.ps∧n.f.path=x.file∧T.get x.file=some n.f∧β x.file=n.blk)∨(T.get x.file=none∧∃m ds,X.ds.Perm ((β x.file,m)::ds)∧m.gone=true):=by
 have hm:(k,x)∈T.hs:=(getL_some (hs_nodup hi)).1 hx
 rcases h.find hi x.file with⟨h1,h2⟩|⟨n,rs,h1,h2,h3,h4,h5⟩
 ·right
  obtain⟨m,h3,h4⟩:=h.dead _ hm (get_none.1 h1)
  obtain⟨ds,hds⟩:=split_perm h3
  exact⟨h1,m,ds,hds,h4⟩
 ·left
  exact⟨n,rs,h1,h2,h3,h4,by rw[← h3];exact h.bl n h2⟩
theorem Read_ok(h:Tie D X T β)(hi:Inv T){hd off count:Int}(hp:Pool D∈l)(E:Hs w0 F w (trA X::l)):
  Ca PP Fn.f73 #[ptr X.t,i64 hd,i64 off,i64 count] w λr w'=>r=.tuple #[str (T.read hd off count).1,i64 (T.read hd off count).2]∧Hs w0 F w' (trA X::l):=by
 refine S.f73.calls ?_
 unfold S.f73
 replace E:=Hs.openT E
 refine(opened_ok E).mono ?_
 clear E
 rintro r w_ ⟨rfl,E⟩
 rw[h.opened hi]
 cases hx:T.opened hd with
 |none=>
  simp only[Option.map_none,openedV]
  repeat first|(with_reducible first|refine Stp.go ?_|(refine StpW.go E ?_;clear E;intro w_ E)|(refine StpA.go E ?_;clear E;intro b_ w_ hb_ E))|((with_reducible refine Bi.dec true ?_ ?_);focus exact rfl)
  exact⟨by unfold Tr.read;rw[hx];rfl,Hs.closeT X E.tl⟩
 |some x=>
  simp only[Option.map_some,openedV]
  repeat first|(with_reducible first|refine Stp.go ?_|refine StpE.go E ?_|(refine StpW.go E ?_;clear E;intro w_ E)|(refine StpA.go E ?_;clear E;intro b_ w_ hb_ E))|((with_reducible refine Bi.dec false ?_ ?_);focus exact rfl)
  (revert b_;intro q hbq E)
  refine Bi.eql ?_ ?_<;>intro hm<;>(repeat with_reducible first|refine Stp.go ?_|refine StpE.go E ?_)
  ·exact⟨by unfold Tr.read;simp only[hx,hm,if_true];rfl,Hs.closeT X E.tl⟩
  (replace E:=(((((((E.bIx 0).bIx 6).bIx 6).bIx 6).bIx 6).bIx 6).bIx 6))
  rcases h.file hi hx with⟨n,rs,hpm,hn,hpath,hg,hb⟩|⟨hg,m,ds,hds,hgone⟩
  ·replace E:=Hs.openTN hpm (Hs.closeT X E)
   rw[hb]at E
   skip
   rw[hb]
   repeat with_reducible first|refine Stp.go ?_|refine StpE.go E ?_
   (replace E:=(E.bIx 4))
   refine(isDir_ok (m:=n.mn) E).mono ?_
   clear E
   rintro r w_ ⟨rfl,E⟩
   cases hdir:isD n.mn.mode with
   |true=>
    have hd2:n.f.dir=true:=hdir
    repeat with_reducible refine Stp.go ?_
    (replace E:=((((((((E.bIx 7).bIx 7).bIx 7).bIx 3).bIx 7).bIx 7).bIx 7).bIx 7))
    replace E:=Hs.closeTN X n hpm E
    exact⟨by unfold Tr.read;simp only[hx,if_neg hm,hg,hd2,if_true];rfl,(E.bIx 1).tl⟩
   |false=>
    have hd2:n.f.dir=false:=hdir
    repeat with_reducible refine Stp.go ?_
    (intro J22 hJ22)
    have fin:∀b w_,b=decide (off<0∨count<0)→Hs w0 F w_ (nd n.blk n.mn::tb X::mp X.fm (.int .i64) X.fM::mp X.gm .str X.gM::mp X.om (.int .i64) X.oM::KM n::NT rs::DT X.ds::pt q (oc [ptr n.blk,i64 x.mode,str x.user] Ty.t44)::l)→J22 [.bool b] w_:=by
     intro b w_ hb E
     repeat with_reducible (apply hJ22;intro u_)
     by_cases hr:off<0∨count<0
     ·rw[decide_eq_true hr]at hb
      subst hb
      repeat with_reducible refine Stp.go ?_
      (replace E:=((((((((E.bIx 7).bIx 7).bIx 7).bIx 3).bIx 7).bIx 7).bIx 7).bIx 7))
      replace E:=Hs.closeTN X n hpm E
      exact⟨by unfold Tr.read;simp only[hx,if_neg hm,hg,hd2,if_pos hr];rfl,(E.bIx 1).tl⟩
     ·rw[decide_eq_false hr]at hb
      subst hb
      repeat with_reducible first|refine Stp.go ?_|refine StpE.go E ?_
      have hrd:=(h.data n hn).read E (by simp[hp])
      rw[bts_len]at hrd
      refine hrd.len ?_
      refine Bi.geq ?_ ?_<;>intro hge<;>(repeat with_reducible first|refine Stp.go ?_|refine StpE.go E ?_)
      ·(replace E:=((((((((E.bIx 7).bIx 7).bIx 7).bIx 3).bIx 7).bIx 7).bIx 7).bIx 7))
       replace E:=Hs.closeTN X n hpm E
       exact⟨by unfold Tr.read;simp only[hx,if_neg hm,hg,hd2,if_neg hr,if_pos hge];rfl,(E.bIx 1).tl⟩
      ·refine hrd.slice (a:=off.toNat) (b:=n.f.data.size) (by simp[bnd];omega) rfl (by omega) (Nat.le_refl _) ?_
       intro v1 h1
       refine h1.len ?_
       refine Mn.mk ?_
       refine h1.slice (a:=0) (b:=min count.toNat (n.f.data.size-off.toNat)) rfl (by
        split<;>simp only[bnd]<;>(try rw[if_pos (by omega)])<;>congr 1<;>omega) (Nat.zero_le _) (Nat.min_le_right _ _) ?_
       intro v2 h2
       have e:((((bts n.f.data).take n.f.data.size).drop off.toNat).take (min count.toNat (n.f.data.size-off.toNat))).drop 0=bts (cutS n.f.data off.toNat (off.toNat+min count.toNat (n.f.data.size-off.toNat))):=by
        have e0:(bts n.f.data).take n.f.data.size=bts n.f.data:=List.take_of_length_le (by rw[bts_len];exact Nat.le_refl _)
        rw[bts_cut,List.drop_zero,e0,List.drop_take,Nat.add_sub_cancel_left]
       rw[e]at h2
       refine h2.cvb E u_sl_uint8 u_string u_uint8 ?_
       (replace E:=((((((((E.bIx 7).bIx 7).bIx 7).bIx 3).bIx 7).bIx 7).bIx 7).bIx 7))
       replace E:=Hs.closeTN X n hpm E
       exact⟨by unfold Tr.read;simp only[hx,if_neg hm,hg,hd2,if_neg hr,if_neg (show ¬(n.f.data.size:Int)≤off by omega)];rfl,(E.bIx 1).tl⟩
    clear hJ22
    refine Bi.lss ?_ ?_<;>intro h1<;>(repeat with_reducible refine Stp.go ?_)
    ·exact fin _ _ (by simp[h1]) E
    ·refine Bi.lss ?_ ?_<;>intro h2<;>(repeat with_reducible refine Stp.go ?_)
     ·exact fin _ _ (by simp[h2]) E
     ·exact fin _ _ (by simp;omega) E
  ·replace E:=Hs.openD (E.bIx 5) hds
   repeat with_reducible refine StpE.go E ?_
   rw[hgone]
   repeat with_reducible refine Stp.go ?_
   replace E:=Hs.closeD E hds
   (replace E:=((((((E.bIx 0).bIx 5).bIx 5).bIx 5).bIx 5).bIx 5))
   exact⟨by unfold Tr.read;simp only[hx,if_neg hm,hg];rfl,((Hs.closeT X E).bIx 1).tl⟩
end
end Go.Proofs.YthapmhhihfedcaaGreatDoor
namespace Go.Proofs.YthapmhhihfedcaaGreatDoor
open Go Go.Sh
set_option maxRecDepth 100000
set_option linter.unusedVariables false
set_option linter.unusedSimpArgs false
variable {w0 w:World} {F:Nat→Prop} {l:List As}
variable {D:List Row} {X:PT} {T:Tr} {β:Int→Nat}
theorem change_one(T:Tr)(user:BA)(p:Int):T.change user [p]={T with ns:=updN T.ns p (touchN (T.clock+1) user),clock:=T.clock+1}:=rfl
theorem wr_lemma{S:PN→PN}{ps rs:List PN}{n:PN}(E:Hs w0 F w (nd (S n).blk (S n).mn::KM (S n)::NT rs::l))(hnd:(ps.map PN.blk).Nodup)(hp:ps.Perm (n::rs)):Hs w0 F w (NT (updB ps n.blk S)::l):=
 Hs.permN (Hs.closeN (S n) E) (updB_perm hnd hp).symm

def Goes(w0:World)(F:Nat→Prop)(l:List As)(D:List Row)(X:PT)(T':Tr)(w:World):Prop:=
 ∃D' X' β',(∀x∈D,x∈D')∧X'.t=X.t∧Tie D' X' T' β'∧Hs w0 F w (trA X'::Pool D'::l)
theorem Goes.same(h:Tie D X T β)(E:Hs w0 F w (trA X::Pool D::l)):Goes w0 F l D X T w:=⟨D,X,β,λ_ h=>h,rfl,h,E⟩
theorem Write_ok(h:Tie D X T β)(hi:Inv T){N:Int}(hN:N<4611686018427387904)(hlim:Lim N T){hd off:Int}{d:BA}(E:Hs w0 F w (trA X::Pool D::l)):
  Ca PP Fn.f68 #[ptr X.t,i64 hd,i64 off,str d] w λr w'=>r=.tuple #[i64 (T.write hd off d).2.1,i64 (T.write hd off d).2.2]∧Goes w0 F l D X (T.write hd off d).1 w':=by
 refine S.f68.calls ?_
 unfold S.f68
 have hnd:=Hs.nodupT E
 replace E:=Hs.openT E
 refine(opened_ok E).mono ?_
 clear E
 rintro r w_ ⟨rfl,E⟩
 rw[h.opened hi]
 cases hx:T.opened hd with
 |none=>
  simp only[Option.map_none,openedV]
  repeat first|(with_reducible first|refine Stp.go ?_|(refine StpW.go E ?_;clear E;intro w_ E)|(refine StpA.go E ?_;clear E;intro b_ w_ hb_ E))|((with_reducible refine Bi.dec true ?_ ?_);focus exact rfl)
  have e:T.write hd off d=(T,0,19):=by unfold Tr.write;rw[hx]
  rw[e]
  exact⟨rfl,.same h (Hs.closeT X E.tl)⟩
 |some x=>
  simp only[Option.map_some,openedV]
  repeat first|(with_reducible first|refine Stp.go ?_|(refine StpW.go E ?_;clear E;intro w_ E)|(refine StpA.go E ?_;clear E;intro b_ w_ hb_ E))|((with_reducible refine Bi.dec false ?_ ?_);focus exact rfl)
  (revert b_;intro q hbq E)
  (replace E:=(((((((E.bIx 0).bIx 6).bIx 6).bIx 6).bIx 6).bIx 6).bIx 6))
  (intro J9 hJ9)
  have fin:∀b w_,b=decide (andI x.mode 3≠1∧andI x.mode 3≠2)→Hs w0 F w_ (tb X::mp X.fm (.int .i64) X.fM::mp X.gm .str X.gM::mp X.om (.int .i64) X.oM::NT X.ps::DT X.ds::pt q (oc [ptr (β x.file),i64 x.mode,str x.user] Ty.t44)::Pool D::l)→J9 [.bool b] w_:=by
   intro b w_ hb E
   repeat with_reducible (apply hJ9;intro u_)
   by_cases hm:andI x.mode 3≠1∧andI x.mode 3≠2
   ·rw[decide_eq_true hm]at hb
    subst hb
    repeat with_reducible refine Stp.go ?_
    have e:T.write hd off d=(T,0,20):=by unfold Tr.write;simp only[hx,if_pos hm]
    rw[e]
    exact⟨rfl,.same h ((Hs.closeT X E).bIx 1).tl⟩
   rw[decide_eq_false hm]at hb
   subst hb
   repeat with_reducible first|refine Stp.go ?_|refine StpE.go E ?_
   rcases h.file hi hx with⟨n,rs,hpm,hn,hpath,hg,hb⟩|⟨hg,m,ds,hds,hgone⟩
   ·replace E:=Hs.openTN hpm (Hs.closeT X E)
    have keep:∀w,Hs w0 F w (tb X::mp X.fm (.int .i64) X.fM::mp X.gm .str X.gM::mp X.om (.int .i64) X.oM::nd n.blk n.mn::KM n::NT rs::DT X.ds::pt q (oc [ptr (β x.file),i64 x.mode,str x.user] Ty.t44)::Pool D::l)→Goes w0 F l D X T w:=
     λw E=>.same h ((Hs.closeTN X n hpm E).bIx 1).tl
    rw[hb]at E keep
    skip
    rw[hb]
    repeat with_reducible first|refine Stp.go ?_|refine StpE.go E ?_
    refine Bi.lss ?_ ?_<;>intro h0<;>(repeat with_reducible refine Stp.go ?_)
    ·have e:T.write hd off d=(T,0,11):=by unfold Tr.write;simp only[hx,if_neg hm,hg,if_pos h0]
     rw[e]
     exact⟨rfl,keep _ E⟩
    refine Bi.seql ?_ ?_<;>intro hd0<;>(repeat with_reducible refine Stp.go ?_)
    ·have e:T.write hd off d=(T,0,0):=by unfold Tr.write;simp only[hx,if_neg hm,hg,if_neg (show ¬off<0 by omega),if_pos (show d=emp from hd0)]
     rw[e]
     exact⟨rfl,keep _ E⟩
    have hdpos:0<d.size:=by
     rcases Nat.eq_zero_or_pos d.size with h1|h1
     ·exact absurd (ba_ext (by
       have:d.data.size=0:=h1
       rw[Array.size_eq_zero_iff]at this
       rw[this])) hd0
     ·exact h1
    (intro J20 hJ20)
    have fin2:∀(a:Int) w_,a=(if andI n.f.mode 1073741824≠0 then(n.f.data.size:Int)else off)→Hs w0 F w_ (tb X::mp X.fm (.int .i64) X.fM::mp X.gm .str X.gM::mp X.om (.int .i64) X.oM::nd n.blk n.mn::KM n::NT rs::DT X.ds::pt q (oc [ptr n.blk,i64 x.mode,str x.user] Ty.t44)::Pool D::l)→J20 [i64 a] w_:=by
     intro a w_ ha E
     repeat with_reducible (apply hJ20;intro u_)
     clear hJ20
     have ha0:0≤a:=by rw[ha];split<;>omega
     (intro J24 hJ24)
     have fin3:∀b w_,b=decide (1048576<(d.size:Int)∨1048576-(d.size:Int)<a)→Hs w0 F w_ (tb X::mp X.fm (.int .i64) X.fM::mp X.gm .str X.gM::mp X.om (.int .i64) X.oM::nd n.blk n.mn::KM n::NT rs::DT X.ds::pt q (oc [ptr n.blk,i64 x.mode,str x.user] Ty.t44)::Pool D::l)→J24 [.bool b] w_:=by
      intro b w_ hb2 E
      repeat with_reducible (apply hJ24;intro u_)
      by_cases hlm:1048576<(d.size:Int)∨1048576-(d.size:Int)<a
      ·rw[decide_eq_true hlm]at hb2
       subst hb2
       repeat with_reducible refine Stp.go ?_
       have e:T.write hd off d=(T,0,3):=by unfold Tr.write;simp only[hx,if_neg hm,hg,if_neg (show ¬off<0 by omega),if_neg (show ¬d=emp from hd0)];rw[← ha,if_pos hlm]
       rw[e]
       exact⟨rfl,keep _ E⟩
      rw[decide_eq_false hlm]at hb2
      subst hb2
      have e:T.write hd off d=((T.change x.user [x.file]).upd x.file λn=>{n with data:=overW n.data a.toNat d},(d.size:Int),0):=by
       unfold Tr.write;simp only[hx,if_neg hm,hg,if_neg (show ¬off<0 by omega),if_neg (show ¬d=emp from hd0)];rw[← ha,if_neg hlm]
      rw[e]
      repeat with_reducible first|refine Stp.go ?_|refine StpE.go E ?_|(refine StpW.go E ?_;clear E;intro w_ E)
      have hrd:=(h.data n hn).read E (by simp)
      rw[bts_len]at hrd
      have hsz:=(hi.data n.f (h.mem.2 ⟨n,hn,rfl⟩)).2
      refine hrd.len ?_
      repeat with_reducible refine Stp.go ?_
      refine Bi.add (by omega) ?_
      refine Mx.mk ?_
      obtain⟨k,hk⟩:∃k:Nat,k=max n.f.data.size (a.toNat+d.size):=⟨_,rfl⟩
      have hk2:(if a+(d.size:Int)>(n.f.data.size:Int)then a+(d.size:Int)else(n.f.data.size:Int))=(k:Int):=by rw[hk];split<;>omega
      rw[hk2]
      (replace E:=(E.bIx 4))
      have hrd:=(h.data n hn).read E.tl (by simp)
      rw[bts_len]at hrd
      refine(resize_ok (m:=n.mn) (k:=k) (by omega) (bts_scal _) E hrd).mono ?_
      clear E
      rintro r w_ ⟨p,E⟩
      repeat with_reducible first|refine Stp.go ?_|refine StpE.go E ?_
      rw[← bts_sized]at E
      refine⟨_,_,_,a.toNat,k,rfl,by simp[bnd];omega,rfl,by omega,Nat.le_refl _,?_⟩
      rw[if_neg (by omega)]
      simp only[Option.map_some,add_mk,Nat.mul_one,Nat.zero_add]
      replace E:=E.bIx 1
      refine Cpy.pt (n:=d.size) (m:=d.size) (ys:=bts d) E u_sl_uint8 s_uint8 (by rfl) (by omega) ((Src.str (P:=PP) (w:=w_)).cells w_ rfl) (bts_len d) (by rw[bts_len,sized_size];omega) (bts_scal d) ?_
      clear E
      intro w_ E
      rw[hk,← bts_over]at E
      rw[← hk]at E
      repeat with_reducible first|refine Stp.go ?_|refine StpE.go E ?_
      replace E:=Hs.ptSl (n:=k) (by rw[bts_len,over_size,← hk]) E
      obtain⟨v,hv⟩:∃v,v=Value.slice (some ⟨p,0,none⟩) k k:=⟨_,rfl⟩
      rw[← hv]at E
      refine BdS.one E u_sl_p_node e_p_node rfl ?_
      clear E
      intro sv w_ E
      -- the node stands among the others again
      (replace E:=(((E.bIx 8).bIx 8).bIx 4))
      replace E:=wr_lemma (S:=λm:PN=>{m with dv:=v,f:={m.f with data:=overW m.f.data a.toNat d}}) (n:=n) E hnd hpm
      (replace E:=((E.bIx 9).bIx 3))
      replace E:=Hs.pool Ty.uint8 E
      (replace E:=((E.bIx 1).bIx 3))
      have hv0:=h.clock
      have hcl:=hlim.clock
      have hc0:=hi.clock
      refine(change_ok (X:=X) (bs:=[n.blk]) (RdS.by1 sv E.tl.tl) ?_ (by omega) ?_ (by simp) E).mono ?_
      ·intro b hb
       rw[List.mem_singleton.1 hb,updB_blk]
       ·exact List.mem_map.2 ⟨n,hn,rfl⟩
       ·intro m;rfl
      ·intro m hm
       obtain⟨m',hm',rfl⟩:=List.mem_map.1 hm
       have h1:=(hi.form m'.f (h.mem.2 ⟨m',hm',rfl⟩)).2.2.2.1
       have h2:=hlim.vers m'.f (h.mem.2 ⟨m',hm',rfl⟩)
       split<;>exact⟨h1,Int.lt_of_le_of_lt h2 hN⟩
      clear E
      rintro r w_ E
      repeat with_reducible refine Stp.go ?_
      refine⟨rfl,⟨v,Ty.uint8,bts (overW n.f.data a.toNat d)⟩::D,{X with ps:=updB X.ps n.blk λm=>PN.touch (X.clock+1) x.user {m with dv:=v,f:={m.f with data:=overW m.f.data a.toNat d}},clock:=X.clock+1},β,λx hx=>List.mem_cons_of_mem _ hx,rfl,?_,?_⟩
      ·have ht:=h.upd (D':=⟨v,Ty.uint8,bts (overW n.f.data a.toNat d)⟩::D) hi hnd hn (X.clock+1) (G:=λm=>PN.touch (X.clock+1) x.user {m with dv:=v,f:={m.f with data:=overW m.f.data a.toNat d}})
        (g:=λm=>{touchN (X.clock+1) x.user m with data:=overW m.data a.toNat d}) (λ_=>⟨rfl,rfl,rfl⟩) (λ_=>rfl) (λ_=>⟨rfl,rfl,rfl⟩) (λx hx=>List.mem_cons_of_mem _ hx) (.inr List.mem_cons_self)
       rw[hpath]at ht
       have e2:(T.change x.user [x.file]).upd x.file (λn=>{n with data:=overW n.data a.toNat d})={T with ns:=updN T.ns x.file (λm=>{touchN (X.clock+1) x.user m with data:=overW m.data a.toNat d}),clock:=X.clock+1}:=by
        rw[change_one,h.clock]
        unfold Tr.upd
        simp only[]
        rw[updN_updN (f1:=touchN (T.clock+1) x.user) (λn=>rfl)]
        rfl
       rw[e2]
       exact ht
      ·have e3:chgB (X.clock+1) x.user [n.blk] (updB X.ps n.blk λm=>{m with dv:=v,f:={m.f with data:=overW m.f.data a.toNat d}})=updB X.ps n.blk λm=>PN.touch (X.clock+1) x.user {m with dv:=v,f:={m.f with data:=overW m.f.data a.toNat d}}:=updB_updB λ_=>rfl
       rw[e3]at E
       (replace E:=(((((((E.bIx 2).bIx 7).bIx 3).bIx 7).bIx 7).bIx 7).bIx 6))
       replace E:=Hs.closeT {X with ps:=updB X.ps n.blk λm=>PN.touch (X.clock+1) x.user {m with dv:=v,f:={m.f with data:=overW m.f.data a.toNat d}},clock:=X.clock+1} E
       exact(((E.bIx 2).tl).bIx 2).tl
     clear hJ24
     repeat with_reducible refine Stp.go ?_
     refine Bi.gtr ?_ ?_<;>intro h1<;>(repeat with_reducible refine Stp.go ?_)
     ·exact fin3 _ _ (by simp;omega) E
     ·refine Bi.sub (by omega) ?_
      repeat with_reducible refine Stp.go ?_
      refine Bi.gtr ?_ ?_<;>intro h2<;>(repeat with_reducible refine Stp.go ?_)
      ·exact fin3 _ _ (by simp;omega) E
      ·exact fin3 _ _ (by simp;omega) E
    clear hJ20
    repeat with_reducible first|refine Stp.go ?_|refine StpE.go E ?_
    refine Bi.neq ?_ ?_<;>intro h1<;>(repeat with_reducible first|refine Stp.go ?_|refine StpE.go E ?_)
    ·have hrd:=(h.data n hn).read E (by simp)
     rw[bts_len]at hrd
     refine hrd.len ?_
     exact fin2 _ _ (by rw[if_pos h1]) E
    ·exact fin2 _ _ (by rw[if_neg (by simpa using h1)]) E
   ·replace E:=Hs.openD (E.bIx 5) hds
    repeat with_reducible refine StpE.go E ?_
    rw[hgone]
    repeat with_reducible refine Stp.go ?_
    have e:T.write hd off d=(T,0,4):=by unfold Tr.write;simp only[hx,if_neg hm,hg]
    rw[e]
    replace E:=Hs.closeD E hds
    (replace E:=((((((E.bIx 0).bIx 5).bIx 5).bIx 5).bIx 5).bIx 5))
    exact⟨rfl,.same h ((Hs.closeT X E).bIx 1).tl⟩
  clear hJ9
  repeat with_reducible first|refine Stp.go ?_|refine StpE.go E ?_
  refine Bi.neq ?_ ?_<;>intro h1<;>(repeat with_reducible first|refine Stp.go ?_|refine StpE.go E ?_)
  ·refine Bi.neq ?_ ?_<;>intro h2<;>(repeat with_reducible refine Stp.go ?_)
   ·exact fin _ _ (by rw[decide_eq_true ⟨h1,h2⟩]) E
   ·exact fin _ _ (by rw[decide_eq_false λhc=>hc.2 h2]) E
  ·exact fin _ _ (by rw[decide_eq_false λhc=>hc.1 h1]) E
end Go.Proofs.YthapmhhihfedcaaGreatDoor
namespace Go.Proofs.YthapmhhihfedcaaGreatDoor
open Go Go.Sh
set_option maxRecDepth 100000
set_option linter.unusedVariables false
set_option linter.unusedSimpArgs false
variable {w0 w:World} {F:Nat→Prop} {l:List As}
variable {D:List Row} {X:PT} {T:Tr} {β:Int→Nat}
structure HoldS (L : List (Int × Hd)) (h0 : Int) (x : Hd) (k : Int) (L' : List (Int × Hd)) : Prop where
 perm : L'.Perm ((k,x)::L)
 sorted : L'.Pairwise fun a b=>a.1 < b.1
 le : h0≤k
 out : k ∉ L.map (·.1)
 all : ∀ j,h0≤j→j < k→j∈L.map (·.1)
theorem holdL_spec(x:Hd):∀(L:List (Int×Hd)) (h0:Int),L.Pairwise (λa b=>a.1<b.1)→(∀p∈L,h0≤p.1)→HoldS L h0 x (holdL L h0 x).1 (holdL L h0 x).2
 |[],h0,_,_=>⟨List.Perm.refl _,List.pairwise_singleton _ _,Int.le_refl _,by simp,λj h1 h2=>by simp only[holdL]at h2;omega⟩
 |p::r,h0,hs,hb=>by
  rw[List.pairwise_cons]at hs
  unfold holdL
  by_cases h:p.1=h0
  ·rw[if_pos h]
   have ih:=holdL_spec x r (h0+1) hs.2 λq hq=>by have:=hs.1 q hq;omega
   refine⟨(ih.perm.cons p).trans (List.Perm.swap _ _ _),List.pairwise_cons.2 ⟨λq hq=>?_,ih.sorted⟩,by have:=ih.le;simp only[];omega,?_,λj h1 h2=>?_⟩
   ·rcases List.mem_cons.1 (ih.perm.mem_iff.1 hq)with rfl|hq
    ·have:=ih.le;simp only[];omega
    ·exact hs.1 q hq
   ·rw[List.map_cons,List.mem_cons,not_or]
    refine⟨?_,ih.out⟩
    have:=ih.le
    simp only[]
    omega
   ·rw[List.map_cons,List.mem_cons]
    by_cases hj:j=p.1
    ·exact .inl hj
    ·exact .inr (ih.all j (by omega) h2)
  ·rw[if_neg h]
   have hp:=hb p List.mem_cons_self
   refine⟨List.Perm.refl _,List.pairwise_cons.2 ⟨λq hq=>?_,List.pairwise_cons.2 hs⟩,Int.le_refl _,?_,λj h1 h2=>by simp only[]at h2;omega⟩
   ·rcases List.mem_cons.1 hq with rfl|hq
    ·simp only[];omega
    ·have:=hs.1 q hq;simp only[];omega
   ·rw[List.mem_map]
    rintro⟨q,hq,he⟩
    rcases List.mem_cons.1 hq with rfl|hq
    ·exact h he
    ·have:=hs.1 q hq;omega
theorem hold_spec(hi:Inv T)(x:Hd):HoldS T.hs 1 x (T.hold x).2 (T.hold x).1.hs:=holdL_spec x T.hs 1 hi.hsorted hi.hpos
theorem Tie.keys (h : Tie D X T β) : (X.ol.map (·.1)).Perm (T.hs.map (·.1)):=by
 have:=h.ol.map (·.1)
 rwa [List.map_map] at this
theorem Tie.hold (h : Tie D X T β) (hi : Inv T) {k : Int} (hk : Free1 (X.ol.map (·.1)) k) {n : PN} (hn : n∈X.ps) {mode : Int} {user : BA} :
  k = (T.hold ⟨n.f.path,mode,user⟩).2∧Tie D { X with ol:=putL X.ol k ⟨n.blk,mode,user⟩ } (T.hold ⟨n.f.path,mode,user⟩).1 β:=by
 have hs:=hold_spec hi ⟨n.f.path,mode,user⟩
 have hm : ∀ j,j∈X.ol.map (·.1)↔j∈T.hs.map (·.1):=fun j=>h.keys.mem_iff
 have he : k = (T.hold ⟨n.f.path,mode,user⟩).2:=by
  rcases Int.lt_trichotomy k (T.hold ⟨n.f.path,mode,user⟩).2 with hl | hl | hl
  ·exact absurd ((hm k).2 (hs.all k hk.pos hl)) hk.out
  ·exact hl
  ·exact absurd ((hm _).1 (hk.all _ hs.le hl)) hs.out
 refine ⟨he,h.ns,h.clock,h.next,h.data,h.ub,h.kl,h.fl,h.root,h.gs,h.bl,?_,?_⟩
 ·show (putL X.ol k ⟨n.blk,mode,user⟩).Perm ((T.hold ⟨n.f.path,mode,user⟩).1.hs.map _)
  rw [putL_new hk.out]
  have h1:=hs.perm.map fun x : Int × Hd=>(x.1,(⟨β x.2.file,x.2.mode,x.2.user⟩ : HV))
  rw [List.map_cons,← he,h.bl n hn] at h1
  refine List.Perm.trans ?_ h1.symm
  exact List.perm_append_comm.trans (h.ol.cons _)
 ·intro y hy hno
  rcases List.mem_cons.1 (hs.perm.mem_iff.1 hy) with rfl | hy
  ·exact absurd rfl (hno n.f (h.mem.2 ⟨n,hn,rfl⟩))
  ·exact h.dead y hy hno
theorem Inv.hold(hi:Inv T){x:Hd}(hl:T.hs.length<64)(hf:0≤x.file∧x.file<T.next)(hc:x.mode≠0→∀n∈T.ns,n.path=x.file→n.dir=false):Inv (T.hold x).1:=by
 have hs:=hold_spec hi x
 have mm:∀{P:Int×Hd→Prop},P ((T.hold x).2,x)→(∀p∈T.hs,P p)→∀p∈(T.hold x).1.hs,P p:=by
  intro P h1 h2 p hp
  rcases List.mem_cons.1 (hs.perm.mem_iff.1 hp)with rfl|hp
  ·exact h1
  ·exact h2 p hp
 exact⟨hi.sorted,hi.root,hi.bound,hi.rootD,hi.up,hi.names,hi.good,hi.rank,hi.data,hi.form,hs.sorted,mm hs.le hi.hpos,mm hf hi.hfile,mm hc hi.hclose,⟨hi.few.1,by
  rw[hs.perm.length_eq,List.length_cons];omega⟩,hi.clock,hi.rootN⟩

theorem Inv.newN (hi : Inv T) {n : Nd} (hp : n.path = T.next) (hu : ∃ u∈T.ns,u.path = n.up∧u.dir = true) (hname : ∀ m∈T.ns,m.path ≠ 0→m.up = n.up→m.name ≠ n.name) (hg : goodName n.name = true)
    (hd : n.data = emp) (hf : goodName n.owner = true∧goodName n.group = true∧rightM n.mode = true∧0≤n.vers∧0≤n.time) (hl : T.ns.length < 1024) : Inv { T with ns:=T.ns++[n],next:=T.next + 1 }:=by
  have mm : ∀ {P : Nd→Prop},(∀ p∈T.ns,P p)→P n→∀ p∈T.ns++[n],P p:=by
    intro P h1 h2 p hp
    rcases List.mem_append.1 hp with hp | hp
    · exact h1 p hp
    · rw [List.mem_singleton.1 hp]; exact h2
  obtain ⟨r0,hr0,hr1⟩:=hi.root
  have hnx:=hi.bound r0 hr0
  have h0 : n.path ≠ 0:=by omega
  obtain ⟨u,hu1,hu2,hu3⟩:=hu
  refine ⟨?_,⟨r0,List.mem_append_left _ hr0,hr1⟩,mm (fun m hm=>by have:=hi.bound m hm; simp only []; omega) (by simp only []; omega),mm hi.rootD (fun h=>absurd h h0),mm ?_ ?_,mm ?_ ?_,mm hi.good (fun _=>hg),?_,mm hi.data ⟨fun _=>hd,by rw [hd]; exact Nat.zero_le _⟩,
    mm hi.form hf,hi.hsorted,hi.hpos,fun x hx=>by have:=hi.hfile x hx; simp only []; omega,fun x hx h64=>mm (hi.hclose x hx h64) (fun he=>by have:=hi.hfile x hx; omega),⟨by simp; omega,hi.few.2⟩,hi.clock,mm hi.rootN fun h=>absurd h h0⟩
  · rw [List.pairwise_append]
    refine ⟨hi.sorted,List.pairwise_singleton _ _,fun a ha b hb=>?_⟩
    rw [List.mem_singleton.1 hb,hp]
    exact (hi.bound a ha).2
  · intro m hm h
    obtain ⟨v,hv,h1⟩:=hi.up m hm h
    exact ⟨v,List.mem_append_left _ hv,h1⟩
  · intro _
    exact ⟨u,List.mem_append_left _ hu1,hu2,hu3⟩
  · intro a ha
    refine mm (hi.names a ha) fun h1 h2 h3 h4=>?_
    exact absurd h4 (hname a ha h1 h3)
  · refine mm (fun b hb h1 h2 h3 h4=>?_) fun _ _ _ _=>rfl
    exact absurd h4.symm (hname b hb h2 h3.symm)
  · obtain ⟨rk,hrk⟩:=hi.rank
    refine ⟨fun p=>if p = T.next then rk n.up + 1 else rk p,mm (fun m hm h=>?_) fun _=>?_⟩
    · have h1:=hi.bound m hm
      obtain ⟨v,hv,h2,_⟩:=hi.up m hm h
      have h3:=hi.bound v hv
      show (if m.up = T.next then rk n.up + 1 else rk m.up) < (if m.path = T.next then rk n.up + 1 else rk m.path)
      rw [if_neg (by omega),if_neg (by omega)]
      exact hrk m hm h
    · have h3:=hi.bound u hu1
      show (if n.up = T.next then rk n.up + 1 else rk n.up) < (if n.path = T.next then rk n.up + 1 else rk n.path)
      rw [if_pos hp,if_neg (by omega)]
      omega
theorem Tie.newN (h : Tie D X T β) (hi : Inv T) (hnd : (X.ps.map PN.blk).Nodup) {u q : PN} (hu : u∈X.ps) (hp : q.f.path = T.next) (hup : q.f.up = u.f.path) (hname : q.f.name ∉ u.kl.map (·.1)) (hd : q.f.data = emp) (hdv : q.dv = .slice none 0 0)
  (hkl : q.kl = []) (hub : q.ub = some u.blk) :
  Tie D { X with ps:=q::updB X.ps u.blk (fun m=>{ m with kl:=putL m.kl q.f.name q.blk }),fl:=putL X.fl X.next q.blk,next:=X.next + 1 } { T with ns:=T.ns++[q.f],next:=T.next + 1 } (fun p=>if p = T.next then q.blk else β p):=by
 obtain ⟨r0,hr0,hr1⟩:=hi.root
 have hnx:=hi.bound r0 hr0
 have hT : ∀ n∈X.ps,n.f∈T.ns:=fun n hn=>h.mem.2 ⟨n,hn,rfl⟩
 have hb:=fun n hn=>hi.bound _ (hT n hn)
 -- the others,with the directory's map turned
 have hsame : (updB X.ps u.blk fun m=>{ m with kl:=putL m.kl q.f.name q.blk }).map PN.f = X.ps.map PN.f:=by
  unfold updB
  rw [List.map_map]
  refine List.map_congr_left fun m _=>?_
  simp only [Function.comp]; split <;> rfl
 have huni : ∀ m∈X.ps,m.blk = u.blk→m = u:=by
  intro m hm he
  have key : ∀ (ps : List PN),(ps.map PN.blk).Nodup→m∈ps→u∈ps→m = u:=by
   intro ps
   induction ps with
   | nil=>intro _ h; cases h
   | cons x r ih =>
    intro hp ha hb
    rw [List.map_cons,List.nodup_cons] at hp
    rcases List.mem_cons.1 ha with h1 | ha <;> rcases List.mem_cons.1 hb with h2 | hb
    ·rw [h1,h2]
    ·exact absurd (List.mem_map.2 ⟨u,hb,by rw [← h1,he]⟩) hp.1
    ·exact absurd (List.mem_map.2 ⟨m,ha,by rw [← h2,he]⟩) hp.1
    ·exact ih hp.2 ha hb
  exact key _ hnd hm hu
 have mm : ∀ {P : PN→Prop},(∀ m∈X.ps,P (if m.blk = u.blk then { m with kl:=putL m.kl q.f.name q.blk } else m))→P q→∀ p∈q::updB X.ps u.blk (fun m=>{ m with kl:=putL m.kl q.f.name q.blk }),P p:=by
  intro P h1 h2 p hp
  rcases List.mem_cons.1 hp with rfl | hp
  ·exact h2
  ·obtain ⟨m,hm,rfl⟩:=List.mem_map.1 hp
   exact h1 m hm
 have hfilt : ∀ p,((q::updB X.ps u.blk fun m=>{ m with kl:=putL m.kl q.f.name q.blk }).filter fun k=>Tr.isKid p k.f).map (fun k=>(k.f.name,k.blk)) = (if p = u.f.path then [(q.f.name,q.blk)] else [])++(X.ps.filter fun k=>Tr.isKid p k.f).map fun k=>(k.f.name,k.blk):=by
  intro p
  have e1 : ((updB X.ps u.blk fun m=>{ m with kl:=putL m.kl q.f.name q.blk }).filter fun k=>Tr.isKid p k.f).map (fun k=>(k.f.name,k.blk)) = (X.ps.filter fun k=>Tr.isKid p k.f).map fun k=>(k.f.name,k.blk):=by
   unfold updB
   rw [List.filter_map,List.map_map]
   have e2 : X.ps.filter ((fun k=>Tr.isKid p k.f) ∘ fun m=>if m.blk = u.blk then { m with kl:=putL m.kl q.f.name q.blk } else m) = X.ps.filter fun k=>Tr.isKid p k.f:=by
    refine List.filter_congr fun k _=>?_
    simp only [Function.comp]; split <;> rfl
   rw [e2]
   refine List.map_congr_left fun k _=>?_
   simp only [Function.comp]; split <;> rfl
  have hk : Tr.isKid p q.f = decide (p = u.f.path):=by
   unfold Tr.isKid
   rw [hup]
   by_cases hpp : p = u.f.path
   ·rw [decide_eq_true hpp,decide_eq_true ⟨by omega,hpp.symm⟩]
   ·rw [decide_eq_false hpp,decide_eq_false fun hc=>hpp hc.2.symm]
  rw [List.filter_cons,hk]
  by_cases hpp : p = u.f.path
  ·rw [decide_eq_true hpp,if_pos rfl,if_pos hpp,List.map_cons,e1]; rfl
  ·rw [decide_eq_false hpp,if_neg (by simp),if_neg hpp,e1]; rfl
 refine ⟨?_,h.clock,by show X.next + 1 = T.next + 1; rw [h.next],mm ?_ ?_,mm ?_ ?_,mm ?_ ?_,?_,?_,h.gs,mm ?_ ?_,?_,?_⟩
 ·show ((q::updB X.ps u.blk _).map PN.f).Perm (T.ns++[q.f])
  rw [List.map_cons,hsame]
  exact (h.ns.cons q.f).trans (List.perm_append_comm (l₁:=[q.f]))
 ·intro m hm
  have:=h.data m hm
  split <;> exact this
 ·rw [hdv,hd]; exact .inl ⟨rfl,_,_,rfl⟩
 ·intro m hm
  have h1:=h.ub m hm
  have key : ∀ v∈X.ps,(if v.blk = u.blk then { v with kl:=putL v.kl q.f.name q.blk } else v)∈q::updB X.ps u.blk (fun m=>{ m with kl:=putL m.kl q.f.name q.blk }):=fun v hv=>List.mem_cons_of_mem _ (List.mem_map.2 ⟨v,hv,rfl⟩)
  have h2 : (m.f.path = 0→m.ub = none)∧(m.f.path ≠ 0→∃ u_1∈q::updB X.ps u.blk (fun m=>{ m with kl:=putL m.kl q.f.name q.blk }),u_1.f.path = m.f.up∧m.ub = some u_1.blk):=by
   refine ⟨h1.1,fun h0=>?_⟩
   obtain ⟨v,hv,h3,h4⟩:=h1.2 h0
   refine ⟨_,key v hv,?_,?_⟩
   ·split <;> exact h3
   ·split <;> exact h4
  split <;> exact h2
 ·refine ⟨fun h0=>by omega,fun _=>?_⟩
  refine ⟨_,List.mem_cons_of_mem _ (List.mem_map.2 ⟨u,hu,rfl⟩),?_,?_⟩
  ·rw [if_pos rfl]; exact hup.symm
  ·rw [if_pos rfl]; exact hub
 ·intro m hm
  have h1:=h.kl m hm
  by_cases he : m.blk = u.blk
  ·obtain rfl:=huni m hm he
   rw [if_pos rfl]
   show (putL m.kl q.f.name q.blk).Perm _
   rw [hfilt,if_pos rfl,putL_new hname]
   exact List.perm_append_comm.trans (h1.cons _)
  ·rw [if_neg he]
   rw [hfilt,if_neg fun hc=>he (by rw [h.inj hi hm hu hc])]
   exact h1
 ·rw [hkl,hfilt]
  have hq : q.f.path ≠ u.f.path:=by have:=hb u hu; omega
  rw [if_neg hq,List.nil_append]
  have : (X.ps.filter fun k=>Tr.isKid q.f.path k.f) = []:=by
   rw [List.filter_eq_nil_iff]
   intro k hk hc
   have hc : k.f.path ≠ 0∧k.f.up = q.f.path:=by simpa [Tr.isKid] using hc
   obtain ⟨v,hv,h1,_⟩:=hi.up _ (hT k hk) hc.1
   have:=hi.bound v hv
   omega
  rw [this]
  exact List.Perm.refl _
 ·have hout : X.next ∉ X.fl.map (·.1):=by
   intro hc
   have:=(h.fl.map (·.1)).mem_iff.1 hc
   rw [List.map_map] at this
   obtain ⟨m,hm,he⟩:=List.mem_map.1 this
   have:=hb m hm
   have he : m.f.path = X.next:=he
   rw [h.next] at he
   omega
  show (putL X.fl X.next q.blk).Perm ((q::updB X.ps u.blk _).map fun n=>(n.f.path,n.blk))
  rw [putL_new hout,List.map_cons,hp,← h.next]
  have e1 : (updB X.ps u.blk fun m=>{ m with kl:=putL m.kl q.f.name q.blk }).map (fun n=>(n.f.path,n.blk)) = X.ps.map fun n=>(n.f.path,n.blk):=by
   unfold updB
   rw [List.map_map]
   refine List.map_congr_left fun k _=>?_
   simp only [Function.comp]; split <;> rfl
  rw [e1]
  exact List.perm_append_comm.trans (h.fl.cons _)
 ·obtain ⟨r,hr,h1,h2⟩:=h.root
  refine ⟨_,List.mem_cons_of_mem _ (List.mem_map.2 ⟨r,hr,rfl⟩),?_,?_⟩
  ·split <;> exact h1
  ·split <;> exact h2
 ·intro m hm
  have h1:=h.bl m hm
  have h2:=hb m hm
  split
  ·show (if m.f.path = T.next then q.blk else β m.f.path) = m.blk
   rw [if_neg (by omega)]; exact h1
  ·rw [if_neg (by omega)]; exact h1
 ·rw [if_pos hp]
 ·have e : (T.hs.map fun x=>(x.1,(⟨if x.2.file = T.next then q.blk else β x.2.file,x.2.mode,x.2.user⟩ : HV))) = T.hs.map fun x=>(x.1,(⟨β x.2.file,x.2.mode,x.2.user⟩ : HV)):=by
   refine List.map_congr_left fun x hx=>?_
   have:=hi.hfile x hx
   rw [if_neg (by omega)]
  show X.ol.Perm (T.hs.map fun x=>(x.1,(⟨if x.2.file = T.next then q.blk else β x.2.file,x.2.mode,x.2.user⟩ : HV)))
  rw [e]; exact h.ol
 ·intro x hx hno
  have:=hi.hfile x hx
  rw [if_neg (by omega)]
  exact h.dead x hx fun n hn=>hno n (List.mem_append_left _ hn)
end Go.Proofs.YthapmhhihfedcaaGreatDoor
namespace Go.Proofs.YthapmhhihfedcaaGreatDoor
open Go Go.Sh
set_option maxRecDepth 100000
set_option linter.unusedVariables false
set_option linter.unusedSimpArgs false
variable {w0 w:World} {F:Nat→Prop} {l:List As}
variable {D:List Row} {X:PT} {T:Tr} {β:Int→Nat}
theorem folder_ok (h : Tie D X T β) (hi : Inv T) {p : Int} (E : Hs w0 F w (trA X::l)) : Ca PP Fn.f61 #[ptr X.t,i64 p] w fun r w'=>Hs w0 F w' (trA X::l) ∧
    ((T.get p = none∧r = .tuple #[.pointer none,i64 4])∨∃ n rs,X.ps.Perm (n::rs)∧n∈X.ps∧n.f.path = p∧T.get p = some n.f ∧
      ((n.f.dir = false∧r = .tuple #[.pointer none,i64 18])∨(n.f.dir = true∧r = .tuple #[ptr n.blk,i64 0]))):=by
  refine S.f61.calls ?_
  unfold S.f61
  rcases h.find hi p with ⟨h1,h2⟩ | ⟨n,rs,hpm,hn,hpath,h1,h2⟩
  · replace E:=Hs.openT E
    refine (find_ok E).mono ?_
    clear E
    rintro r w_ ⟨rfl,E⟩
    rw [h2]
    unfold findV
    repeat with_reducible refine Stp.go ?_
    (intro J5 hJ5)
    repeat first|(with_reducible first|refine Stp.go ?_|(apply hJ5; intro u_))|((with_reducible refine Bi.dec false ?_ ?_); focus exact rfl)
    exact ⟨Hs.closeT X E,.inl ⟨h1,rfl⟩⟩
  · replace E:=Hs.openTN hpm E
    refine (find_ok E).mono ?_
    clear E
    rintro r w_ ⟨rfl,E⟩
    rw [h2]
    unfold findV
    repeat with_reducible refine Stp.go ?_
    (intro J5 hJ5)
    repeat first|(with_reducible first|refine Stp.go ?_)|((with_reducible refine Bi.dec true ?_ ?_); focus exact rfl)
    refine (isDir_ok (m:=n.mn) E).mono ?_
    clear E
    rintro r w_ ⟨rfl,E⟩
    cases hd : isD n.mn.mode with
    | true =>
      repeat with_reducible first|refine Stp.go ?_|(apply hJ5; intro u_)
      exact ⟨Hs.closeTN X n hpm E,.inr ⟨n,rs,hpm,hn,hpath,h1,.inr ⟨hd,rfl⟩⟩⟩
    | false =>
      repeat with_reducible first|refine Stp.go ?_|(apply hJ5; intro u_)
      exact ⟨Hs.closeTN X n hpm E,.inr ⟨n,rs,hpm,hn,hpath,h1,.inl ⟨hd,rfl⟩⟩⟩
theorem Tie.klN (h : Tie D X T β) (hi : Inv T) (p : Int) : (((X.ps.filter fun k=>Tr.isKid p k.f).map fun k=>(k.f.name,k.blk)).map (·.1)).Nodup:=by
 rw [List.map_map,List.Nodup,List.pairwise_map]
 have hn : X.ps.Pairwise fun a b=>a.f.path ≠ b.f.path:=by
  have:=(h.ns.map (·.path)).nodup_iff.2 hi.nodup
  rw [List.map_map,List.Nodup,List.pairwise_map] at this
  exact this
 refine (hn.filter _).imp_of_mem fun {a b} ha hb hab=>?_
 have h1:=List.mem_filter.1 ha
 have h2:=List.mem_filter.1 hb
 have k1 : a.f.path ≠ 0∧a.f.up = p:=by simpa [Tr.isKid] using h1.2
 have k2 : b.f.path ≠ 0∧b.f.up = p:=by simpa [Tr.isKid] using h2.2
 exact fun he=>hab (hi.names _ (h.mem.2 ⟨a,h1.1,rfl⟩) _ (h.mem.2 ⟨b,h2.1,rfl⟩) k1.1 k2.1 (by rw [k1.2,k2.2]) he)
theorem kid_some(hi:Inv T){p:Int}{s:BA}{n:Nd}:T.kid p s=some n↔n∈T.ns∧n.path≠0∧n.up=p∧n.name=s:=by
 unfold Tr.kid Tr.kids
 constructor
 ·intro h
  have h1:=List.mem_filter.1 (List.mem_of_find?_eq_some h)
  have h2:=List.find?_some h
  have h3:n.path≠0∧n.up=p:=by simpa[Tr.isKid] using h1.2
  exact⟨h1.1,h3.1,h3.2,by simpa using h2⟩
 ·rintro⟨h1,h2,h3,h4⟩
  cases hg:(T.ns.filter (Tr.isKid p)).find? λn=>decide (n.name=s)with
  |none=>
   have:=List.find?_eq_none.1 hg n (List.mem_filter.2 ⟨h1,by simp[Tr.isKid,h2,h3]⟩)
   simp[h4]at this
  |some m=>
   have g1:=List.mem_filter.1 (List.mem_of_find?_eq_some hg)
   have g2:m.name=s:=by simpa using List.find?_some hg
   have g3:m.path≠0∧m.up=p:=by simpa[Tr.isKid] using g1.2
   rw[hi.inj g1.1 h1 (hi.names m g1.1 n h1 g3.1 h2 (by rw[g3.2,h3]) (by rw[g2,h4]))]

theorem Tie.kid(h:Tie D X T β)(hi:Inv T){n:PN}(hn:n∈X.ps)(s:BA):
  (T.kid n.f.path s=none∧getL n.kl s=none)∨∃k∈X.ps,T.kid n.f.path s=some k.f∧getL n.kl s=some k.blk:=by
 have hk:=h.klN hi n.f.path
 rw[getL_perm (h.kl n hn) hk]
 cases hg:T.kid n.f.path s with
 |none=>
  left
  refine⟨rfl,?_⟩
  rw[getL_none,List.map_map]
  intro hm
  obtain⟨k,hk,he⟩:=List.mem_map.1 hm
  have h1:=List.mem_filter.1 hk
  have h2:k.f.path≠0∧k.f.up=n.f.path:=by simpa[Tr.isKid] using h1.2
  have:=(kid_some hi).2 ⟨h.mem.2 ⟨k,h1.1,rfl⟩,h2.1,h2.2,he⟩
  rw[hg]at this;cases this
 |some m=>
  right
  obtain⟨h1,h2,h3,h4⟩:=(kid_some hi).1 hg
  obtain⟨k,hk',rfl⟩:=h.mem.1 h1
  refine⟨k,hk',rfl,?_⟩
  rw[getL_some hk]
  exact List.mem_map.2 ⟨k,List.mem_filter.2 ⟨hk',by simp[Tr.isKid,h2,h3]⟩,by rw[h4]⟩

theorem andI_zero(a b:Int):andI a b=0↔BitVec.ofInt 64 a &&& BitVec.ofInt 64 b=0#64:=by
 constructor
 ·intro h
  rw[← andI_ofInt,h];rfl
 ·intro h
  unfold andI;rw[h];rfl
theorem clrI_zero(a b:Int):clrI a b=0↔BitVec.ofInt 64 a &&& ~~~ BitVec.ofInt 64 b=0#64:=by
 constructor
 ·intro h
  rw[← clrI_ofInt,h];rfl
 ·intro h
  unfold clrI;rw[h];rfl
def xorI(a:Int):Int:=IntKind.i64.wrap (BitVec.ofInt 64 (-1) ^^^ BitVec.ofInt 64 a).toNat
theorem Un.xor'{a:Int}{k:Value→Prop}(h:k (i64 (xorI a))):Un .xor (i64 a) k:=⟨_,rfl,h⟩
theorem xor511:xorI 511= -512:=by decide
theorem xor438:xorI 438= -439:=by decide
theorem and_sub{x z c:BitVec 64}(h:x &&& c=0#64):(x &&& z) &&& c=0#64:=by
 rw[BitVec.and_assoc,BitVec.and_comm z c,← BitVec.and_assoc,h,BitVec.zero_and]
theorem high_bit(x a y c:BitVec 64)(h:∀i,i<64→c.getLsbD i=true→a.getLsbD i=true):(x &&& (a |||y)) &&& c=x &&& c:=by
 apply BitVec.eq_of_getLsbD_eq
 intro i hi
 simp only[BitVec.getLsbD_and,BitVec.getLsbD_or]
 cases hc:c.getLsbD i with
 |false=>simp
 |true=>rw[h i hi hc];simp
theorem andI_dir(x a y:Int)(h:∀i,i<64→(BitVec.ofInt 64 2147483648).getLsbD i=true→(BitVec.ofInt 64 a).getLsbD i=true):andI (andI x (orI a y)) 2147483648=andI x 2147483648:=by
 show IntKind.i64.wrap _=IntKind.i64.wrap _
 rw[andI_ofInt,orI_ofInt,high_bit _ _ _ _ h]
theorem modeN_dir(perm um:Int):andI (Tr.modeN perm um) 2147483648=andI perm 2147483648:=by
 unfold Tr.modeN
 split
 ·exact andI_dir _ _ _ (by decide)
 ·exact andI_dir _ _ _ (by decide)
theorem modeN_isD(perm um:Int):isD (Tr.modeN perm um)=isD perm:=by unfold isD;rw[modeN_dir]
theorem rightM_and{p z:Int}(h:rightM p=true)(hd:andI (andI p z) 2147483648=andI p 2147483648):rightM (andI p z)=true:=by
 unfold rightM at h ⊢
 simp only[Bool.and_eq_true,Bool.or_eq_true,decide_eq_true_eq]at h ⊢
 refine⟨?_,?_⟩
 ·rw[clrI_zero]at h ⊢
  rw[andI_ofInt]
  exact and_sub h.1
 ·rw[hd]
  refine h.2.imp id λh2=>?_
  rw[andI_zero]at h2 ⊢
  rw[andI_ofInt]
  exact and_sub h2
theorem modeN_right{perm:Int}(um:Int)(h:rightM perm=true):rightM (Tr.modeN perm um)=true:=by
 have hd:=modeN_dir perm um
 unfold Tr.modeN at hd ⊢
 split at hd<;>rename_i h0
 ·rw[if_pos h0];exact rightM_and h hd
 ·rw[if_neg h0];exact rightM_and h hd
end Go.Proofs.YthapmhhihfedcaaGreatDoor
namespace Go.Proofs.YthapmhhihfedcaaGreatDoor
open Go Go.Sh
set_option maxRecDepth 100000
set_option linter.unusedVariables false
set_option linter.unusedSimpArgs false
variable {w0 w:World} {F:Nat→Prop} {l:List As}
variable {D:List Row} {X:PT} {T:Tr} {β:Int→Nat}
abbrev qd0(q:Nat):As:=pt q (oc [i64 0,i64 0,i64 0] Ty.api_Qid)
theorem Tie.len(h:Tie D X T β):X.fl.length=T.ns.length∧X.ol.length=T.hs.length:=by
 refine⟨?_,by rw[h.ol.length_eq,List.length_map]⟩
 rw[h.fl.length_eq,List.length_map,← h.ns.length_eq,List.length_map]
theorem lim_fit{T:Tr}{N:Int}(hi:Inv T)(hN:N<4611686018427387904)(hl:Lim N T){X:PT}(h:Tie D X T β):∀n∈X.ps,0≤n.f.vers∧n.f.vers<4611686018427387904:=λn hn=>by
 have h1:=(hi.form n.f (h.mem.2 ⟨n,hn,rfl⟩)).2.2.2.1
 have h2:=hl.vers n.f (h.mem.2 ⟨n,hn,rfl⟩)
 omega

theorem touch_tie(h:Tie D X T β)(hi:Inv T)(hnd:(X.ps.map PN.blk).Nodup){u:PN}(hu:u∈X.ps)(user:BA):
  Tie D {X with ps:=updB X.ps u.blk (PN.touch (X.clock+1) user),clock:=X.clock+1} (T.change user [u.f.path]) β∧Inv (T.change user [u.f.path]):=by
 rw[change_one,← h.clock]
 refine⟨h.upd hi hnd hu (X.clock+1) (λ_=>⟨rfl,rfl,rfl⟩) (λ_=>rfl) (λ_=>⟨rfl,rfl,rfl⟩) (λ_ hx=>hx) (h.data u hu),?_⟩
 have hc:=hi.clock
 rw[← h.clock]at hc
 refine hi.upd (X.clock+1) (by omega) (λ_ _ _=>⟨rfl,rfl,rfl,rfl⟩) (λn hn _=>hi.data n hn) λn hn _=>?_
 have:=hi.form n hn
 exact⟨this.1,this.2.1,this.2.2.1,by show 0≤n.vers+1;omega,by show 0≤X.clock+1;omega⟩
theorem Create_ok(h:Tie D X T β)(hi:Inv T){N:Int}(hN:N<4611686018427387904)(hlim:Lim N T){dir perm mode:Int}{user name:BA}(hus:user.size≤9223372036854775807)(hns:name.size≤9223372036854775807)(E:Hs w0 F w (trA X::Pool D::l)):
  Ca PP Fn.f60 #[ptr X.t,str user,i64 dir,str name,i64 perm,i64 mode] w λr w'=>
   r=.tuple #[i64 (T.create user dir name perm mode).2.1,(T.create user dir name perm mode).2.2.1.V,i64 (T.create user dir name perm mode).2.2.2]∧Goes w0 F l D X (T.create user dir name perm mode).1 w':=by
 refine S.f60.calls ?_
 unfold S.f60
 have hnd:=Hs.nodupT E
 repeat with_reducible (refine StpA.go E ?_;clear E;intro b_ w_ hb_ E)
 (revert b_;intro q hbq E)
 refine Eq.ef u_p_tree rfl ?_
 repeat with_reducible refine Stp.go ?_
 (replace E:=(((E.bIx 0).bIx 2).bIx 2))
 (intro J7 hJ7)
 have fin7:∀b w_,b=decide (clrI mode 83≠0∨rightM perm=false∨(andI perm 2147483648≠0∧mode≠0))→Hs w0 F w_ (trA X::Pool D::qd0 q::l)→J7 [.bool b] w_:=by
  intro b w_ hb E
  repeat with_reducible (apply hJ7;intro u_)
  by_cases c7:clrI mode 83≠0∨rightM perm=false∨(andI perm 2147483648≠0∧mode≠0)
  ·rw[decide_eq_true c7]at hb
   subst hb
   repeat with_reducible first|refine Stp.go ?_|refine StpE.go E ?_|(refine StpW.go E ?_;clear E;intro w_ E)
   have e:T.create user dir name perm mode=(T,0,q0,20):=by unfold Tr.create;rw[if_pos c7]
   rw[e]
   exact⟨rfl,.same h (E.bIx 2).tl⟩
  rw[decide_eq_false c7]at hb
  subst hb
  repeat with_reducible refine Stp.go ?_
  refine(folder_ok h hi E).mono ?_
  clear E
  rintro r w_ ⟨E,⟨hg,rfl⟩|⟨u,rs,hpm,hu,hpath,hg,⟨hdir,rfl⟩|⟨hdir,rfl⟩⟩⟩
  ·(repeat first|(with_reducible first|refine Stp.go ?_|refine StpE.go E ?_|(refine StpW.go E ?_;clear E;intro w_ E))|((with_reducible refine Bi.dec true ?_ ?_);focus exact rfl))
   have e:T.create user dir name perm mode=(T,0,q0,4):=by unfold Tr.create;rw[if_neg c7];simp only[hg]
   rw[e]
   exact⟨rfl,.same h (E.bIx 2).tl⟩
  ·(repeat first|(with_reducible first|refine Stp.go ?_|refine StpE.go E ?_|(refine StpW.go E ?_;clear E;intro w_ E))|((with_reducible refine Bi.dec true ?_ ?_);focus exact rfl))
   have e:T.create user dir name perm mode=(T,0,q0,18):=by unfold Tr.create;rw[if_neg c7];simp only[hg,if_pos hdir]
   rw[e]
   exact⟨rfl,.same h (E.bIx 2).tl⟩
  have hdn:¬u.f.dir=false:=by rw[hdir];simp
  subst hpath
  repeat first|(with_reducible first|refine Stp.go ?_)|((with_reducible refine Bi.dec false ?_ ?_);focus exact rfl)
  (intro J22 hJ22)
  have fin22:∀b w_,b=decide (goodName name=false∨goodName user=false)→Hs w0 F w_ (trA X::Pool D::qd0 q::l)→J22 [.bool b] w_:=by
   intro b w_ hb E
   repeat with_reducible (apply hJ22;intro u_)
   by_cases c22:goodName name=false∨goodName user=false
   ·rw[decide_eq_true c22]at hb
    subst hb
    repeat with_reducible first|refine Stp.go ?_|refine StpE.go E ?_|(refine StpW.go E ?_;clear E;intro w_ E)
    have e:T.create user u.f.path name perm mode=(T,0,q0,8):=by unfold Tr.create;rw[if_neg c7];simp only[hg,if_neg hdn,if_pos c22]
    rw[e]
    exact⟨rfl,.same h (E.bIx 2).tl⟩
   rw[decide_eq_false c22]at hb
   subst hb
   repeat with_reducible refine Stp.go ?_
   clear hJ22
   replace E:=Hs.openTN hpm E
   refine(may_ok (m:=u.mn) (D:=D) (by simp) h.gs E).mono ?_
   clear E
   rintro r w_ ⟨rfl,E⟩
   have hmay:permF u.mn.mode (decide (user=u.mn.owner)) (memberG T.gs user u.mn.group) 2=T.may user u.f 2:=rfl
   rw[hmay]
   cases hm:T.may user u.f 2 with
   |false=>
    repeat with_reducible first|refine Stp.go ?_|refine StpE.go E ?_|(refine StpW.go E ?_;clear E;intro w_ E)
    have e:T.create user u.f.path name perm mode=(T,0,q0,17):=by unfold Tr.create;rw[if_neg c7];simp only[hg,if_neg hdn,if_neg c22,hm,if_true]
    rw[e]
    exact⟨rfl,.same h ((Hs.closeTN X u hpm E).bIx 2).tl⟩
   |true=>
    have hmn:¬T.may user u.f 2=false:=by rw[hm];simp
    repeat with_reducible first|refine Stp.go ?_|refine StpE.go E ?_
    have hkb:u.mn.kids=some u.kb:=if_pos hdir
    rw[hkb]
    replace E:=Hs.openK hdir (E.bIx 5)
    refine Lk.one E FMp.mem u_mkids k_str z_p_node rfl ?_
    rw[aget_enc keyS]
    rcases h.kid hi hu name with⟨k1,k2⟩|⟨k,hk,k1,k2⟩
    rotate_left
    ·rw[k2]
     simp only[Option.map_some,Option.getD_some]
     refine Eq.nt u_p_node rfl ?_
     repeat with_reducible first|refine Stp.go ?_|refine StpE.go E ?_|(refine StpW.go E ?_;clear E;intro w_ E)
     replace E:=Hs.closeK hdir E
     (replace E:=((((((E.bIx 0).bIx 5).bIx 5).bIx 5).bIx 5).bIx 5))
     have e:T.create user u.f.path name perm mode=(T,0,q0,5):=by unfold Tr.create;rw[if_neg c7];simp only[hg,if_neg hdn,if_neg c22,if_neg hmn,k1,Option.isSome_some,if_true]
     rw[e]
     exact⟨rfl,.same h ((Hs.closeTN X u hpm E).bIx 2).tl⟩
    rw[k2]
    simp only[Option.map_none,Option.getD_none]
    refine Eq.nf u_p_node rfl ?_
    repeat with_reducible refine Stp.go ?_
    replace E:=Hs.closeK hdir E
    (replace E:=((((((E.bIx 0).bIx 5).bIx 5).bIx 5).bIx 5).bIx 5))
    replace E:=Hs.closeTN X u hpm E
    have kn:¬(T.kid u.f.path name).isSome=true:=by rw[k1];simp
    (intro J43 hJ43)
    have fin43:∀b w_,b=decide (1024≤T.ns.length∨¬T.hs.length<64)→Hs w0 F w_ (trA X::Pool D::qd0 q::l)→J43 [.bool b] w_:=by
     intro b w_ hb E
     repeat with_reducible (apply hJ43;intro u_)
     by_cases c43:1024≤T.ns.length∨¬T.hs.length<64
     ·rw[decide_eq_true c43]at hb
      subst hb
      repeat with_reducible first|refine Stp.go ?_|refine StpE.go E ?_|(refine StpW.go E ?_;clear E;intro w_ E)
      have e:T.create user u.f.path name perm mode=(T,0,q0,3):=by unfold Tr.create;rw[if_neg c7];simp only[hg,if_neg hdn,if_neg c22,if_neg hmn,if_neg kn,if_pos c43]
      rw[e]
      exact⟨rfl,.same h (E.bIx 2).tl⟩
     rw[decide_eq_false c43]at hb
     subst hb
     clear hJ43
     repeat with_reducible refine Stp.go ?_
     refine BdS.one E u_sl_p_node e_p_node rfl ?_
     clear E
     intro sv w_ E
     replace E:=Hs.openT (E.bIx 1)
     (replace E:=((E.bIx 4).bIx 1))
     have hv0:=h.clock
     have hcl:=hlim.clock
     have hc0:=hi.clock
     refine(change_ok (X:=X) (bs:=[u.blk]) (RdS.by1 sv E.tl.tl) (λb hb=>by rw[List.mem_singleton.1 hb];exact List.mem_map.2 ⟨u,hu,rfl⟩) (by omega) (lim_fit hi hN hlim h) (by simp) E).mono ?_
     clear E
     rintro r w_ E
     obtain⟨h1,i1⟩:=touch_tie h hi hnd hu user
     (replace E:=((((((E.bIx 5).bIx 2).bIx 5).bIx 5).bIx 5).bIx 5))
     replace E:=((Hs.closeT {X with ps:=updB X.ps u.blk (PN.touch (X.clock+1) user),clock:=X.clock+1} E).bIx 1).tl
     have nd1:=Hs.nodupT E
     have hpm1:(updB X.ps u.blk (PN.touch (X.clock+1) user)).Perm (PN.touch (X.clock+1) user u::rs):=updB_perm hnd hpm
     have hu1:PN.touch (X.clock+1) user u∈updB X.ps u.blk (PN.touch (X.clock+1) user):=hpm1.mem_iff.2 List.mem_cons_self
     replace E:=Hs.openTN (X:={X with ps:=updB X.ps u.blk (PN.touch (X.clock+1) user),clock:=X.clock+1}) hpm1 E
     have E2:Hs w0 F w_ (tb {X with ps:=updB X.ps u.blk (PN.touch (X.clock+1) user),clock:=X.clock+1}::mp X.fm (.int .i64) X.fM::mp X.gm .str X.gM::mp X.om (.int .i64) X.oM::nd u.blk (PN.touch (X.clock+1) user u).mn::KM (PN.touch (X.clock+1) user u)::NT rs::DT X.ds::Pool D::qd0 q::l):=E
     clear E
     have E:=E2
     clear E2
     repeat with_reducible first|refine Stp.go ?_|refine StpE.go E ?_|(refine StpW.go E ?_;clear E;intro w_ E)|(refine StpA.go E ?_;clear E;intro b_ w_ hb_ E)
     (revert b_;intro nb hbnb E)
     (intro J73 hJ73)
     have fin73:∀(own:Int) (kb:Nat) w_,andI perm (orI (xorI own) (andI u.f.mode own))=Tr.modeN perm u.f.mode→
       Hs w0 F w_ (nd nb ⟨0,0,X.next,0,X.clock+1,0,name,user,u.f.group,user,.slice none 0 0,if isD perm then some kb else none,some u.blk,false⟩::star (if isD perm then[mp kb .str (encM Value.string ptr [])]else[])::tb {X with ps:=updB X.ps u.blk (PN.touch (X.clock+1) user),clock:=X.clock+1}::mp X.fm (.int .i64) X.fM::mp X.gm .str X.gM::mp X.om (.int .i64) X.oM::
        nd u.blk (PN.touch (X.clock+1) user u).mn::KM (PN.touch (X.clock+1) user u)::NT rs::DT X.ds::Pool D::qd0 q::l)→J73 [i64 own] w_:=by
      intro own kb w_ hmode E
      repeat with_reducible (apply hJ73;intro u_)
      refine Un.xor' ?_
      repeat with_reducible first|refine Stp.go ?_|refine StpE.go E ?_
      have hm2:(PN.touch (X.clock+1) user u).mn.mode=u.f.mode:=rfl
      rw[hm2,hmode]
      clear hJ73
      refine(is_ok E).mono ?_
      clear E
      rintro r w_ E
      obtain⟨qn,hqn⟩:∃qn:PN,qn=⟨⟨X.next,0,Tr.modeN perm u.f.mode,X.clock+1,u.f.path,name,user,u.f.group,user,emp⟩,nb,0,.slice none 0 0,kb,[],some u.blk⟩:=⟨_,rfl⟩
      rw[← modeN_isD perm u.f.mode]at E
      have E2:Hs w0 F w_ (nd nb qn.mn::KM qn::tb {X with ps:=updB X.ps u.blk (PN.touch (X.clock+1) user),clock:=X.clock+1}::mp X.fm (.int .i64) (encM i64 ptr X.fl)::mp X.gm .str X.gM::mp X.om (.int .i64) X.oM::
        nd u.blk (PN.touch (X.clock+1) user u).mn::KM (PN.touch (X.clock+1) user u)::NT rs::DT X.ds::Pool D::qd0 q::l):=by rw[hqn];exact E
      clear E
      have E:=E2
      clear E2
      repeat with_reducible first|refine Stp.go ?_|refine StpE.go E ?_|(refine StpW.go E ?_;clear E;intro w_ E)
      refine Mu.by E u_mfiles k_i64 rfl ?_
      clear E
      intro w_ E
      have he:aput (encM i64 ptr X.fl) (i64 X.next) (ptr nb)=encM i64 ptr (putL X.fl X.next nb):=aput_enc (keyI .i64) _ _ _
      rw[he]at E
      repeat with_reducible first|refine Stp.go ?_|refine StpE.go E ?_
      have hkb1:(PN.touch (X.clock+1) user u).mn.kids=some u.kb:=if_pos hdir
      rw[hkb1]
      replace E:=Hs.openK (n:=PN.touch (X.clock+1) user u) hdir (E.bIx 7)
      have E2:Hs w0 F w_ (mp u.kb .str (encM Value.string ptr u.kl)::nd nb qn.mn::KM qn::tb {X with ps:=updB X.ps u.blk (PN.touch (X.clock+1) user),clock:=X.clock+1}::mp X.fm (.int .i64) (encM i64 ptr (putL X.fl X.next nb))::mp X.gm .str X.gM::mp X.om (.int .i64) X.oM::
        nd u.blk (PN.touch (X.clock+1) user u).mn::NT rs::DT X.ds::Pool D::qd0 q::l):=E
      clear E
      refine Mu.by E2 u_mkids k_str rfl ?_
      clear E2
      intro w_ E
      have he2:aput (encM Value.string ptr u.kl) (str name) (ptr nb)=encM Value.string ptr (putL u.kl name nb):=aput_enc keyS _ _ _
      rw[he2]at E
      obtain⟨u2,hu2⟩:∃u2:PN,u2={PN.touch (X.clock+1) user u with kl:=putL u.kl name nb}:=⟨_,rfl⟩
      have E2:Hs w0 F w_ (mp u2.kb .str u2.kM::nd nb qn.mn::KM qn::tb {X with ps:=updB X.ps u.blk (PN.touch (X.clock+1) user),clock:=X.clock+1}::mp X.fm (.int .i64) (encM i64 ptr (putL X.fl X.next nb))::mp X.gm .str X.gM::mp X.om (.int .i64) X.oM::
        nd u2.blk u2.mn::NT rs::DT X.ds::Pool D::qd0 q::l):=by rw[hu2];exact E
      clear E
      have E:=Hs.closeK (n:=u2) (by rw[hu2];exact hdir) E2
      clear E2
      have hnx:=h.next
      have hln:=hlim.next
      have hn0:0≤T.next:=by obtain⟨r0,hr0,_⟩:=hi.root;have:=hi.bound r0 hr0;omega
      repeat with_reducible first|refine Stp.go ?_|refine StpE.go E ?_
      refine Bi.add (by simp only[];omega) ?_
      repeat with_reducible first|refine Stp.go ?_|(refine StpW.go E ?_;clear E;intro w_ E)
      (replace E:=(((E.bIx 1).bIx 6).bIx 4))
      have hlen:=h.len
      have hfew:=hi.few
      refine(handle_ok (X:={X with ps:=updB X.ps u.blk (PN.touch (X.clock+1) user),clock:=X.clock+1,next:=X.next+1}) (m:=qn.mn) (by show X.ol.length<1000;omega) E).mono ?_
      clear E
      rintro r w_ ⟨hh,hfree,rfl,E⟩
      repeat with_reducible first|refine Stp.go ?_|refine StpE.go E ?_|(refine StpW.go E ?_;clear E;intro w_ E)
      (replace E:=((((((((((((E.bIx 11).bIx 11).bIx 11).bIx 11).bIx 7).bIx 11).bIx 9).bIx 9).bIx 9).bIx 11).bIx 11).bIx 11))
      obtain⟨X3,hX3⟩:∃X3:PT,X3={X with ps:=qn::updB (updB X.ps u.blk (PN.touch (X.clock+1) user)) u.blk (λm=>{m with kl:=putL m.kl name nb}),clock:=X.clock+1,next:=X.next+1,fl:=putL X.fl X.next nb,ol:=putL X.ol hh ⟨nb,mode,user⟩}:=⟨_,rfl⟩
      have hqf:qn.f=⟨T.next,0,Tr.modeN perm u.f.mode,T.clock+1,u.f.path,name,user,u.f.group,user,emp⟩:=by rw[hqn,← h.next,← h.clock]
      have k0:=h1.kid i1 hu1 name
      have hkn:(T.change user [u.f.path]).kid u.f.path name=none:=by
       rcases k0 with⟨k3,_⟩|⟨k,_,_,k4⟩
       ·exact k3
       ·have:getL u.kl name=some k.blk:=k4
        rw[k2]at this;cases this
      have i2:=i1.newN (n:=qn.f) (by rw[hqf];rfl) ⟨_,h1.mem.2 ⟨_,hu1,rfl⟩,by rw[hqf];rfl,hdir⟩ (by
        rw[hqf]
        intro m hm h0 h3 h4
        have:=(kid_some i1).2 ⟨hm,h0,h3,h4⟩
        rw[hkn]at this;cases this) (by
        rw[hqf]
        cases hgn:goodName name with
        |true=>rfl
        |false=>exact absurd (.inl hgn) c22) (by rw[hqf]) (by
        rw[hqf]
        have hf:=hi.form u.f (h.mem.2 ⟨u,hu,rfl⟩)
        have hr:rightM perm=true:=by
         cases hrp:rightM perm with
         |true=>rfl
         |false=>exact absurd (.inr (.inl hrp)) c7
        refine⟨?_,hf.2.1,modeN_right _ hr,Int.le_refl _,by simp only[];omega⟩
        cases hgn:goodName user with
        |true=>rfl
        |false=>exact absurd (.inr hgn) c22) (by
        have:(T.change user [u.f.path]).ns.length=T.ns.length:=by rw[change_one];unfold updN;simp
        omega)
      have h2:=h1.newN (q:=qn) i1 nd1 hu1 (by rw[hqf];rfl) (by rw[hqf];rfl) (by rw[hqf];exact getL_none.1 k2) (by rw[hqf]) (by rw[hqn]) (by rw[hqn]) (by rw[hqn];rfl)
      have hqb:qn.blk=nb:=by rw[hqn]
      have hqname:qn.f.name=name:=by rw[hqn]
      rw[hqb,hqname]at h2
      obtain⟨h4,h5⟩:=h2.hold i2 (k:=hh) hfree (n:=qn) List.mem_cons_self (mode:=mode) (user:=user)
      rw[hqb]at h5
      have e:T.create user u.f.path name perm mode=(({T.change user [u.f.path]with ns:=(T.change user [u.f.path]).ns++[qn.f],next:=(T.change user [u.f.path]).next+1}:Tr).hold ⟨qn.f.path,mode,user⟩ |>.1,({T.change user [u.f.path]with ns:=(T.change user [u.f.path]).ns++[qn.f],next:=(T.change user [u.f.path]).next+1}:Tr).hold ⟨qn.f.path,mode,user⟩ |>.2,qn.f.qid,0):=by
       rw[hqf]
       unfold Tr.create
       rw[if_neg c7]
       simp only[hg,if_neg hdn,if_neg c22,if_neg hmn,if_neg kn,if_neg c43]
       rfl
      rw[e]
      refine⟨?_,D,X3,_,λ_ hx=>hx,by rw[hX3],by rw[hX3];exact h5,?_⟩
      ·rw[← h4,hqn];rfl
      ·have hpm3:X3.ps.Perm (qn::u2::rs):=by
        rw[hX3,hu2]
        exact List.Perm.cons _ (updB_perm (g:=λm:PN=>{m with kl:=putL m.kl name nb}) nd1 hpm1)
       have E2:Hs w0 F w_ (tb X3::mp X3.fm (.int .i64) X3.fM::mp X3.gm .str X3.gM::mp X3.om (.int .i64) X3.oM::nd qn.blk qn.mn::KM qn::nd u2.blk u2.mn::KM u2::NT rs::DT X3.ds::Pool D::pt q (oc qn.f.qid.cs Ty.api_Qid)::l):=by
        rw[hX3,hqb]
        rw[hqn]at E ⊢
        exact E
       exact((Hs.closeTN2 X3 qn u2 hpm3 E2).bIx 2).tl
     clear hJ73
     repeat with_reducible refine Stp.go ?_
     refine Bi.neq ?_ ?_<;>intro h0<;>(repeat with_reducible refine Stp.go ?_)
     ·refine MkM.pt (kt:=.str) E ?_
      clear E
      intro kb w_ hkb E
      repeat with_reducible first|refine Stp.go ?_|(refine StpW.go E ?_;clear E;intro w_ E)
      replace E:=Hs.star (ls:=[mp kb .str []]) E
      (replace E:=((E.bIx 0).bIx 1))
      have hD:isD perm=true:=by simp[isD,h0]
      exact fin73 511 kb _ (by unfold Tr.modeN;rw[if_neg h0,xor511]) (by rw[hD];exact E)
     ·replace E:=Hs.starNil E
      (replace E:=((E.bIx 0).bIx 1))
      have hD:isD perm=false:=by simp[isD,h0]
      exact fin73 438 0 _ (by unfold Tr.modeN;rw[if_pos h0,xor438]) (by rw[hD];exact E)
    clear hJ43
    have hlen:=h.len
    replace E:=Hs.openT E
    repeat with_reducible first|refine Stp.go ?_|refine StpE.go E ?_
    refine Len.map E FMp.mem u_mfiles ?_
    rw[encM_length]
    refine Bi.geq ?_ ?_<;>intro h1<;>(repeat with_reducible refine Stp.go ?_)
    ·exact fin43 _ _ (by rw[decide_eq_true (.inl (by omega))]) (Hs.closeT X E)
    ·refine(room_ok E).mono ?_
     clear E
     rintro r w_ ⟨rfl,E⟩
     by_cases h2:X.ol.length<64
     ·rw[decide_eq_true h2]
      repeat with_reducible refine Stp.go ?_
      exact fin43 _ _ (by rw[decide_eq_false (by omega)]) (Hs.closeT X E)
     ·rw[decide_eq_false h2]
      repeat with_reducible refine Stp.go ?_
      exact fin43 _ _ (by rw[decide_eq_true (.inr (by omega))]) (Hs.closeT X E)
  clear hJ22
  refine(Valid_ok hns).mono ?_
  rintro r w' ⟨rfl,rfl⟩
  cases h1:goodName name with
  |false=>(repeat with_reducible refine Stp.go ?_);exact fin22 _ _ (by rw[decide_eq_true (.inl h1)]) E
  |true=>
   repeat with_reducible refine Stp.go ?_
   refine(Valid_ok hus).mono ?_
   rintro r w' ⟨rfl,rfl⟩
   cases h2:goodName user with
   |false=>(repeat with_reducible refine Stp.go ?_);exact fin22 _ _ (by rw[decide_eq_true (.inr h2)]) E
   |true=>(repeat with_reducible refine Stp.go ?_);exact fin22 _ _ (by rw[decide_eq_false (by rw[h1,h2];simp)]) E
 clear hJ7
 repeat with_reducible refine Stp.go ?_
 refine Bi.neq ?_ ?_<;>intro h1<;>(repeat with_reducible refine Stp.go ?_)
 ·exact fin7 _ _ (by rw[decide_eq_true (.inl h1)]) E
 refine(right_ok E).mono ?_
 clear E
 rintro r w_ ⟨rfl,E⟩
 cases h2:rightM perm with
 |false=>(repeat with_reducible refine Stp.go ?_);exact fin7 _ _ (by rw[decide_eq_true (.inr (.inl h2))]) E
 |true=>
  repeat with_reducible refine Stp.go ?_
  refine Bi.neq ?_ ?_<;>intro h3<;>(repeat with_reducible refine Stp.go ?_)
  ·refine Bi.neq ?_ ?_<;>intro h4<;>(repeat with_reducible refine Stp.go ?_)
   ·exact fin7 _ _ (by rw[decide_eq_true (.inr (.inr ⟨h3,h4⟩))]) E
   ·exact fin7 _ _ (by rw[decide_eq_false λhc=>hc.elim (λh=>h h1) λh=>h.elim (λh=>by rw[h2]at h;cases h) λh=>h.2 h4]) E
  ·exact fin7 _ _ (by rw[decide_eq_false λhc=>hc.elim (λh=>h h1) λh=>h.elim (λh=>by rw[h2]at h;cases h) λh=>h.1 h3]) E
end Go.Proofs.YthapmhhihfedcaaGreatDoor
namespace Go.Proofs.YthapmhhihfedcaaGreatDoor
open Go Go.Sh
set_option maxRecDepth 100000
set_option linter.unusedVariables false
set_option linter.unusedSimpArgs false
variable {w0 w:World} {F:Nat→Prop} {l:List As}
theorem RdS.src{P:Program}{n:Nat}{v:Value}{xs:List Value}(h:RdS w0 F l 1 n v xs)(E:Hs w0 F w l)(hs:xs.all scalV=true):Src P 1 w v n xs:=by
 obtain⟨a,c,rfl,hc,hl,hx⟩:=h
 refine⟨λ_=>rfl,λw' hw=>?_,hl,hs⟩
 rcases hx with rfl|⟨q,rfl,hq⟩
 ·have:n=0:=by simp at hl;omega
  subst this
  cases a with
  |none=>rfl
  |some a=>simp[Builtin.firstCells,loadCells,loadCellsFrom]
 ·refine run_firstCells_some w' 1 n q n c xs hl λj v hj=>?_
  rcases hq with rfl|⟨b,o,rfl,hq⟩
  ·cases hj
  ·rw[add_mk]
   have:=hq w E j v hj
   unfold World.cell? at this ⊢
   rw[hw];exact this

abbrev Gs:=List (BA×List BA)
abbrev gcell(g:BA×Value):List Value:=[str g.1,g.2]
structure GIn(w0:World)(F:Nat→Prop)(l:List As)(v:Value)(gv:List (BA×Value))(gs:Gs):Prop where
 rd:RdS w0 F l 2 gs.length v (gv.flatMap gcell)
 len:gv.length=gs.length
 one:∀(i:Nat) a b,gv[i]? =some a→gs[i]? =some b→a.1=b.1∧RdS w0 F l 1 b.2.length a.2 (b.2.map str)
theorem GIn.weaken{l':List As}{v:Value}{gv:List (BA×Value)}{gs:Gs}(h:GIn w0 F l v gv gs)(hl:∀w,Hs w0 F w l'→Hs w0 F w l):GIn w0 F l' v gv gs:=
 ⟨h.rd.weaken hl,h.len,λi a b ha hb=>⟨(h.one i a b ha hb).1,(h.one i a b ha hb).2.weaken hl⟩⟩
theorem flat_drop(gv:List (BA×Value)):∀i:Nat,(gv.flatMap gcell).drop (i*2)=(gv.drop i).flatMap gcell:=by
 induction gv with
 |nil=>intro i;simp
 |cons g r ih=>
  intro i
  cases i with
  |zero=>simp
  |succ i=>
   rw[List.flatMap_cons,show(i+1)*2=i*2+1+1 by omega]
   simp only[gcell,List.cons_append,List.nil_append,List.drop_succ_cons]
   exact ih i

def gwords(gs:Gs):List BA:=gs.flatMap λg=>g.1::g.2
def glimit(gs:Gs):Bool:=decide (16<gs.length) || gs.any λg=>decide (16<g.2.length)

def checkG (gs : Gs) (names : List BA) : Int :=
 if glimit gs = true then 3 else if (names++gwords gs).any (fun s=>!goodName s) = true then 8 else if (gs.any fun g=>twice g.2) || twice (gs.map (·.1)) then 5 else 0
theorem check1_ok{s:BA}(hs:s.size≤9223372036854775807)(E:Hs w0 F w l):CaV PP (.func (.func Fn.tree_check_1) #[] #[]) #[str s] w λr w'=>r=.bool (!goodName s)∧Hs w0 F w' l:=by
 refine CaV.mk (by kernel_rfl) ?_
 refine S.tree_check_1.calls ?_
 unfold S.tree_check_1
 refine(Valid_ok hs).mono ?_
 rintro r w' ⟨rfl,rfl⟩
 cases goodName s with
 |true=>(repeat with_reducible refine Stp.go ?_);exact⟨rfl,E⟩
 |false=>(repeat with_reducible refine Stp.go ?_);exact⟨rfl,E⟩
theorem check_ok {v nv : Value} {gv : List (BA × Value)} {gs : Gs} {names : List BA} (hg : GIn w0 F l v gv gs) (hn : names.length≤1000) (hgl : gs.length≤100000) (hul : ∀ g∈gs,g.2.length≤100000) (hsz : ∀ s∈names++gwords gs,s.size≤9223372036854775807)
  (E : Hs w0 F w (slA nv Ty.t9 1 (names.map str)::l)) : Ca PP Fn.tree_check #[v,nv] w fun r w'=>r = i64 (checkG gs names)∧Hs w0 F w' l:=by
 refine S.tree_check.calls ?_
 unfold S.tree_check
 refine hg.rd.len ?_
 refine Bi.mk rfl ?_
 refine hg.rd.len ?_
 have E0 : Hs w0 F w (slA nv Ty.t9 1 (names.map str)::slA (.slice none 0 0) Ty.t9 1 []::l):=(Hs.nilSl E Ty.t9 1).perm (List.Perm.swap _ _ _)
 refine ⟨fun l1 w1=>∃ (i : Nat) (nv tv : Value),i≤gs.length∧l1 = [nv,tv,.bool (decide ((gs.length : Int) > 16) || (gs.take i).any fun g=>decide (16 < g.2.length)),.bool ((gs.take i).any fun g=>twice g.2),i64 i] ∧
  Hs w0 F w1 (slA nv Ty.t9 1 ((names++gwords (gs.take i)).map str)::slA tv Ty.t9 1 (((gs.take i).map (·.1)).map str)::l),fun l1 _=>match l1 with | [_,_,_,_,.int _ i]=>gs.length - i.toNat | _=>0,
  ⟨0,nv,.slice none 0 0,Nat.zero_le _,by simp,by simpa [gwords] using E0⟩,?_⟩
 clear E E0
 rintro t1 t5 t6 t7 t15 u w1 ⟨i,nv,tv,hi,h1,E⟩
 cases h1
 have hwl : ∀ g : Gs,g.length≤100000→(∀ x∈g,x.2.length≤100000)→(gwords g).length≤g.length * 100001:=by
  intro g
  induction g with
  | nil=>intro _ _; simp [gwords]
  | cons x r ih =>
   intro h1 h2
   have:=ih (by simp at h1; omega) fun y hy=>h2 y (List.mem_cons_of_mem _ hy)
   have h3:=h2 x List.mem_cons_self
   unfold gwords at this ⊢
   rw [List.flatMap_cons,List.length_append,List.length_cons,List.length_cons]
   omega
 have hgw : (gwords (gs.take i)).length≤i * 100001:=by
  have:=hwl (gs.take i) (by simp; omega) fun x hx=>hul x (List.mem_of_mem_take hx)
  rw [List.length_take,Nat.min_eq_left hi] at this
  exact this
 refine Bi.lss ?_ ?_ <;> intro hlt <;> (repeat with_reducible refine Stp.go ?_)
 ·have hx : gs[i]? = some gs[i]:=List.getElem?_eq_getElem (by omega)
  have hy : gv[i]? = some (gv[i]'(by rw [hg.len]; omega)):=List.getElem?_eq_getElem (by rw [hg.len]; omega)
  obtain ⟨nm,uv,hgi⟩ : ∃ nm uv,gv[i]'(by rw [hg.len]; omega) = (nm,uv):=⟨_,_,rfl⟩
  obtain ⟨us,hus⟩ : ∃ us,gs[i] = (nm,us):=⟨gs[i].2,by have:=(hg.one i _ _ hy hx).1; rw [hgi] at this; exact Prod.ext this.symm rfl⟩
  have hu:=(hg.one i _ _ hy hx).2
  rw [hgi,hus] at hu
  rw [hus] at hx
  rw [hgi] at hy
  have hul1 : us.length≤100000:=hul (nm,us) (List.mem_of_getElem? hx)
  simp only [] at hu
  (intro J14 hJ14)
  refine ((hg.rd.cons (slA t5 Ty.t9 1 (((gs.take i).map (·.1)).map str))).cons (slA t1 Ty.t9 1 ((names++gwords (gs.take i)).map str))).ix (by omega) (by omega) (by omega) ?_
  intro a ha
  rw [Int.toNat_natCast,flat_drop,List.drop_eq_getElem_cons (by rw [hg.len]; omega),hgi,List.flatMap_cons] at ha
  have hus2:=hu
  obtain ⟨p,c,huv,-⟩:=hus2
  refine ha.lda E (m:=2) (ds:=[str nm,uv]) rfl rfl (by omega) ?_
  clear ha
  subst huv
  repeat with_reducible first|(refine StpW.go E ?_; clear E; intro w_ E)|(refine StpA.go E ?_; clear E; intro b_ w_ hb_ E)
  (revert b_; intro g hbg E)
  have tk : gs.take (i + 1) = gs.take i++[(nm,us)]:=by rw [List.take_add_one,hx]; rfl
  have hgw2 : gwords (gs.take (i + 1)) = gwords (gs.take i)++[nm]++us:=by rw [tk]; simp [gwords]
  (intro J27 hJ27)
  have fin : ∀ b w_,b = (decide ((gs.length : Int) > 16) || (gs.take (i + 1)).any fun g=>decide (16 < g.2.length))→Hs w0 F w_ (pt g (oc [str nm,.slice p us.length c] Ty.tree_Group)::slA t1 Ty.t9 1 ((names++gwords (gs.take i)).map str)::slA t5 Ty.t9 1 (((gs.take i).map (·.1)).map str)::l)→J27 [.bool b] w_:=by
   intro b w_ hb E
   repeat with_reducible first|refine Stp.go ?_|refine StpE.go E ?_|(refine StpW.go E ?_; clear E; intro w_ E)|(apply hJ27; intro u_)
   clear hJ27
   refine BdS.one E u_sl_string e_string rfl ?_
   clear E
   intro v1 w_ E
   refine ⟨by (repeat with_reducible refine StpE.go E ?_); rfl,?_⟩
   refine Ap.one E (i:=2) rfl u_sl_string ⟨_,u_sl_string,fun _ h=>by cases h⟩ e_string (Src.one E (by (first | assumption | exact FPt.mem | exact FMp.mem | exact FSl.mem|(repeat (first | assumption | with_reducible exact List.mem_cons_self|refine List.mem_cons_of_mem _ ?_)))) rfl) rfl (by simp; omega) (by simp; omega) ?_
   clear E
   intro v2 w_ E
   (try simp only [List.set_cons_zero,List.set_cons_succ,List.cons_append,List.nil_append,Nat.zero_add,Nat.add_zero] at E)
   refine ⟨by (repeat with_reducible refine StpE.go E ?_); rfl,?_⟩
   refine Ap.one E (i:=2) rfl u_sl_string ⟨_,u_sl_string,fun _ h=>by cases h⟩ e_string (RdS.src ((((hu.cons _).cons _).cons _).cons _) E (strs_scal us)) rfl (by simp; omega) (by simp; omega) ?_
   clear E
   intro v3 w_ E
   (try simp only [List.set_cons_zero,List.set_cons_succ,List.cons_append,List.nil_append,Nat.zero_add,Nat.add_zero] at E)
   repeat with_reducible first|refine Stp.go ?_|refine StpE.go E ?_
   refine BdS.one E u_sl_string e_string rfl ?_
   clear E
   intro v4 w_ E
   refine Ap.one E (i:=4) rfl u_sl_string ⟨_,u_sl_string,fun _ h=>by cases h⟩ e_string (Src.one E (by (first | assumption | exact FPt.mem | exact FMp.mem | exact FSl.mem|(repeat (first | assumption | with_reducible exact List.mem_cons_self|refine List.mem_cons_of_mem _ ?_)))) rfl) rfl (by simp; omega) (by simp; omega) ?_
   clear E
   intro v5 w_ E
   (try simp only [List.set_cons_zero,List.set_cons_succ,List.cons_append,List.nil_append,Nat.zero_add,Nat.add_zero] at E)
   have fin2 : ∀ b2 w_,b2 = ((gs.take (i + 1)).any fun g=>twice g.2)→Hs w0 F w_ (slA v3 Ty.t9 1 ((names++gwords (gs.take (i + 1))).map str)::slA v5 Ty.t9 1 (((gs.take (i + 1)).map (·.1)).map str)::l)→J14 [v3,v5,.bool b,.bool b2] w_:=by
    intro b2 w_ hb2 E
    repeat with_reducible (apply hJ14; intro u_)
    refine Bi.add (by omega) ?_
    exact ⟨⟨i + 1,v3,v5,by omega,by rw [hb,hb2]; simp,E⟩,by simp only []; omega⟩
   clear hJ14
   have e1 : List.map str (names++gwords (List.take i gs))++[str nm]++List.map str us = (names++gwords (gs.take (i + 1))).map str:=by rw [hgw2]; simp
   have e2 : List.map str (List.map (fun x=>x.1) (List.take i gs))++[str nm] = ((gs.take (i + 1)).map (·.1)).map str:=by rw [tk]; simp
   rw [e1,e2] at E
   have eq2 : ((gs.take (i + 1)).any fun g=>twice g.2) = (((gs.take i).any fun g=>twice g.2) || twice us):=by rw [tk]; simp
   cases hb2 : (gs.take i).any fun g=>twice g.2 with
   | true=>(repeat with_reducible refine Stp.go ?_); exact fin2 _ _ (by rw [eq2,hb2]; rfl) E.tl.tl.tl
   | false =>
    repeat with_reducible first|refine Stp.go ?_|refine StpE.go E ?_
    refine (repeated_ok (by omega) E (((((hu.cons _).cons _).cons _).cons _).cons _)).mono ?_
    clear E
    rintro r w_ ⟨rfl,E⟩
    repeat with_reducible refine Stp.go ?_
    exact fin2 _ _ (by rw [eq2,hb2]; rfl) E.tl.tl.tl
  clear hJ27
  have eq1 : (decide ((gs.length : Int) > 16) || (gs.take (i + 1)).any fun g=>decide (16 < g.2.length)) = ((decide ((gs.length : Int) > 16) || (gs.take i).any fun g=>decide (16 < g.2.length)) || decide (16 < us.length)):=by rw [tk]; simp [Bool.or_assoc]
  cases hb : (decide ((gs.length : Int) > 16) || (gs.take i).any fun g=>decide (16 < g.2.length)) with
  | true=>(repeat with_reducible refine Stp.go ?_); exact fin _ _ (by rw [eq1,hb]; rfl) E
  | false =>
   repeat with_reducible first|refine Stp.go ?_|refine StpE.go E ?_
   refine hu.len ?_
   repeat with_reducible refine Stp.go ?_
   refine Bi.gtr ?_ ?_ <;> intro h16 <;> (repeat with_reducible refine Stp.go ?_)
   ·exact fin _ _ (by rw [eq1,hb,decide_eq_true (by omega)]; rfl) E
   ·exact fin _ _ (by rw [eq1,hb,decide_eq_false (by omega)]; rfl) E
 ·obtain rfl : i = gs.length:=by omega
  rw [List.take_length] at E ⊢
  have hgl2 : (decide ((gs.length : Int) > 16) || gs.any fun g=>decide (16 < g.2.length)) = glimit gs:=by
   unfold glimit
   congr 1
   exact decide_eq_decide.2 (by omega)
  rw [hgl2]
  cases hl : glimit gs with
  | true=>(repeat with_reducible refine Stp.go ?_); exact ⟨by unfold checkG; rw [if_pos hl],E.tl.tl⟩
  | false =>
   have hln : ¬ glimit gs = true:=by rw [hl]; simp
   repeat with_reducible refine Stp.go ?_
   have hgw3:=hgw
   rw [List.take_length] at hgw3
   have hr:=RdS.by1 t1 E
   rw [List.length_map] at hr
   refine (ContainsFunc_ok (p:=fun s=>!goodName s) (by simp only [List.length_append]; omega) E hr fun x hx w1 E=>check1_ok (hsz x hx) E).mono ?_
   clear E
   rintro r w_ ⟨rfl,E⟩
   cases hc : (names++gwords gs).any fun s=>!goodName s with
   | true=>(repeat with_reducible refine Stp.go ?_); exact ⟨by unfold checkG; rw [if_neg hln,if_pos hc],E.tl.tl⟩
   | false =>
    have hcn : ¬ ((names++gwords gs).any fun s=>!goodName s) = true:=by rw [hc]; simp
    repeat with_reducible refine Stp.go ?_
    (intro J83 hJ83)
    have fin : ∀ b w_,b = ((gs.any fun g=>twice g.2) || twice (gs.map (·.1)))→Hs w0 F w_ (slA t1 Ty.t9 1 ((names++gwords gs).map str)::slA t5 Ty.t9 1 ((gs.map (·.1)).map str)::l)→J83 [.bool b] w_:=by
     intro b w_ hb E
     repeat with_reducible (apply hJ83; intro u_)
     cases b with
     | true=>(repeat with_reducible refine Stp.go ?_); exact ⟨by unfold checkG; rw [if_neg hln,if_neg hcn,← hb]; rfl,E.tl.tl⟩
     | false=>(repeat with_reducible refine Stp.go ?_); exact ⟨by unfold checkG; rw [if_neg hln,if_neg hcn,← hb]; rfl,E.tl.tl⟩
    clear hJ83
    cases h2 : gs.any fun g=>twice g.2 with
    | true=>(repeat with_reducible refine Stp.go ?_); exact fin _ _ (by rw [h2]; rfl) E
    | false =>
     repeat with_reducible refine Stp.go ?_
     have hr2:=RdS.by1 t5 E
     rw [List.length_map] at hr2
     refine (repeated_ok (by simp; omega) E hr2).mono ?_
     clear E
     rintro r w_ ⟨rfl,E⟩
     repeat with_reducible refine Stp.go ?_
     exact fin _ _ (by rw [h2]; rfl) E
end Go.Proofs.YthapmhhihfedcaaGreatDoor
namespace Go.Proofs.YthapmhhihfedcaaGreatDoor
open Go Go.Sh
set_option maxRecDepth 100000
set_option linter.unusedVariables false
set_option linter.unusedSimpArgs false
variable {w0 w:World} {F:Nat→Prop} {l:List As}
theorem BdS.zero{P:Program}{t e:TypeId}{k:Value→World→Prop}(E:Hs w0 F w l)(h1:P.underlying t=some (.slice e))(h2:sizeK P e=some 1)
  (hk:∀v w',Hs w0 F w' (slA v e 1 []::l)→k v w'):Ef P (Instr.buildSlice t 0 #[]) w k:=by
 refine⟨.slice (some ⟨w.heap.size,0,none⟩) 0 0,w.alloc (.cells #[] e),?_,hk _ _ (E.add (Upd.alloc w _) ⟨.inr ⟨w.heap.size,0,0,0,[],[],(0,0),rfl,?_,rfl,rfl,by simp,Nat.le_refl _,Free.zero _⟩⟩ λb hb=>?_)⟩
 ·have hr:Array.range 0=#[]:=rfl
  simp[Instr.buildSlice,run_underlying h1,run_sizeK h2,Instr.fill,newRow,run_newObj',hr]
 ·rw[heap_alloc_new];simp[ocf]
 ·have hb:some w.heap.size=some b:=hb
  cases hb;exact Nat.le_refl _
theorem s_string:sizeK PP Ty.t9=some 1:=by kernel_rfl
theorem Clone_ok{v:Value}{us:List BA}(h:RdS w0 F l 1 us.length v (us.map str))(hl:us.length≤100000)(E:Hs w0 F w l):
  Ca PP Fn.f1 #[v] w λr w'=>Hs w0 F w' (slA r Ty.t9 1 (us.map str)::l):=by
 refine S.f1.calls ?_
 unfold S.f1
 have h':=h
 obtain⟨a,c,rfl,hc,-,hx⟩:=h'
 cases a with
 |none=>
  have h0:us=[]:=by
   rcases hx with h1|⟨p,h1,_⟩
   ·simpa using h1
   ·cases h1
  subst h0
  refine Eq.et u_sl_string rfl ?_
  repeat with_reducible refine Stp.go ?_
  exact Hs.nilSl E _ _
 |some a=>
  refine Eq.ef u_sl_string rfl ?_
  repeat with_reducible refine Stp.go ?_
  refine BdS.zero E u_sl_string s_string ?_
  clear E
  intro v1 w_ E
  refine Ap.one E (i:=0) rfl u_sl_string ⟨_,u_sl_string,λ_ h=>by cases h⟩ e_string (RdS.src (h.cons _) E (strs_scal us)) rfl (by simp;omega) (by simp;omega) ?_
  clear E
  intro v2 w_ E
  (try simp only[List.set_cons_zero,List.set_cons_succ,List.cons_append,List.nil_append,Nat.zero_add,Nat.add_zero]at E)
  exact E
theorem getL_app{κ β:Type}[DecidableEq κ](L M:List (κ×β))(k:κ):getL (L++M) k=(getL L k).or (getL M k):=by
 unfold getL
 rw[List.find?_append]
 cases L.find? λp=>decide (k=p.1)<;>rfl
abbrev t0V(gm fm om:Nat):List Value:=[.pointer none,.map (some fm),.map (some gm),i64 1,i64 0,.map (some om)]
theorem empty_ok {D : List Row} {v : Value} {gv : List (BA × Value)} {gs : Gs} (hg : GIn w0 F l v gv gs) (hn : (gs.map (·.1)).Nodup) (hgl : gs.length≤16) (hul : ∀ g∈gs,g.2.length≤16)
  (E : Hs w0 F w (Pool D::l)) : Ca PP Fn.tree_empty #[v] w fun r w'=>∃ t fm gm om D' gr,r = ptr t∧(∀ x∈D,x∈D')∧GTie D' gr gs ∧
   Hs w0 F w' (pt t (oc (t0V gm fm om) Ty.t17)::mp fm (.int .i64) []::mp gm .str (encM Value.string id gr)::mp om (.int .i64) []::Pool D'::l):=by
 refine S.tree_empty.calls ?_
 unfold S.tree_empty
 refine MkM.pt (kt:=.int .i64) E ?_
 clear E
 intro fm w_ hfm E
 refine MkM.pt (kt:=.str) E ?_
 clear E
 intro gm w_ hgm E
 refine MkM.pt (kt:=.int .i64) E ?_
 clear E
 intro om w_ hom E
 repeat with_reducible first|refine StpE.go E ?_|(refine StpA.go E ?_; clear E; intro b_ w_ hb_ E)
 (revert b_; intro t hbt E)
 refine hg.rd.len ?_
 refine ⟨fun l1 w1=>∃ (i : Nat) (D' : List Row) (gr : List (BA × Value)),i≤gs.length∧l1 = [i64 i]∧(∀ x∈D,x∈D')∧GTie D' gr (gs.take i)∧gr.map (·.1) = (gs.take i).map (·.1) ∧
  Hs w0 F w1 (pt t (oc (t0V gm fm om) Ty.t17)::mp fm (.int .i64) []::mp gm .str (encM Value.string id gr)::mp om (.int .i64) []::Pool D'::l),fun l1 _=>match l1 with | [.int _ i]=>gs.length - i.toNat | _=>0,
  ⟨0,D,[],Nat.zero_le _,rfl,fun _ h=>h,⟨fun _=>rfl,List.nodup_nil⟩,rfl,by (replace E:=((((E.bIx 1).bIx 2).bIx 3).bIx 3)); exact E⟩,?_⟩
 clear E
 rintro t15 u w1 ⟨i,D',gr,hi,h1,hD,hgt,hkeys,E⟩
 cases h1
 refine Bi.lss ?_ ?_ <;> intro hlt <;> (repeat with_reducible refine Stp.go ?_)
 ·have hx : gs[i]? = some gs[i]:=List.getElem?_eq_getElem (by omega)
  have hy : gv[i]? = some (gv[i]'(by rw [hg.len]; omega)):=List.getElem?_eq_getElem (by rw [hg.len]; omega)
  obtain ⟨nm,uv,hgi⟩ : ∃ nm uv,gv[i]'(by rw [hg.len]; omega) = (nm,uv):=⟨_,_,rfl⟩
  obtain ⟨us,hus⟩ : ∃ us,gs[i] = (nm,us):=⟨gs[i].2,by have:=(hg.one i _ _ hy hx).1; rw [hgi] at this; exact Prod.ext this.symm rfl⟩
  have hu:=(hg.one i _ _ hy hx).2
  rw [hgi,hus] at hu
  rw [hus] at hx
  have hul1 : us.length≤16:=hul (nm,us) (List.mem_of_getElem? hx)
  simp only [] at hu
  have tk : gs.take (i + 1) = gs.take i++[(nm,us)]:=by rw [List.take_add_one,hx]; rfl
  refine (((((hg.rd.cons (Pool D')).cons (mp om (.int .i64) [])).cons (mp gm .str (encM Value.string id gr))).cons (mp fm (.int .i64) [])).cons (pt t (oc (t0V gm fm om) Ty.t17))).ix (by omega) (by omega) (by omega) ?_
  intro a ha
  rw [Int.toNat_natCast,flat_drop,List.drop_eq_getElem_cons (by rw [hg.len]; omega),hgi,List.flatMap_cons] at ha
  have hus2:=hu
  obtain ⟨p,c,huv,-⟩:=hus2
  refine ha.lda E (m:=2) (ds:=[str nm,uv]) rfl rfl (by omega) ?_
  clear ha
  subst huv
  repeat with_reducible first|refine Stp.go ?_|refine StpE.go E ?_|(refine StpW.go E ?_; clear E; intro w_ E)|(refine StpA.go E ?_; clear E; intro b_ w_ hb_ E)
  (revert b_; intro g hbg E)
  refine (Clone_ok (((((((hu.cons _).cons _).cons _).cons _).cons _).cons _)) (by omega) E).mono ?_
  clear E
  rintro r w_ E
  refine ⟨by (repeat with_reducible refine StpE.go E ?_); rfl,by (repeat with_reducible refine StpE.go E ?_); rfl,?_⟩
  refine Mu.by E u_mgroups k_str rfl ?_
  clear E
  intro w_ E
  have hout : nm ∉ gr.map (·.1):=by
   rw [hkeys]
   intro hc
   have h1 : (gs.map (·.1)) = ((gs.take i).map (·.1))++((gs.drop i).map (·.1)):=by rw [← List.map_append,List.take_append_drop]
   rw [h1,List.nodup_append] at hn
   refine hn.2.2 nm hc nm ?_ rfl
   rw [List.drop_eq_getElem_cons (by omega),hus]
   exact List.mem_cons_self
  have he : aput (encM Value.string id gr) (str nm) r = encM Value.string id (gr++[(nm,r)]):=by rw [← putL_new hout]; exact aput_enc (ev:=id) keyS _ _ _
  rw [he] at E
  refine Bi.add (by omega) ?_
  refine ⟨⟨i + 1,⟨r,Ty.t9,us.map str⟩::D',gr++[(nm,r)],by omega,by simp,fun x hx=>List.mem_cons_of_mem _ (hD x hx),?_,by rw [tk,List.map_append,List.map_append,hkeys]; rfl,?_⟩,by simp only []; omega⟩
  ·refine ⟨?_,by
    have e1 : (gs.take (i + 1)).map (·.1) = (gr++[(nm,r)]).map (·.1):=by rw [tk,List.map_append,List.map_append,hkeys]; rfl
    rw [← e1]
    exact List.Pairwise.sublist (List.Sublist.map _ (List.take_sublist _ _)) hn⟩
   intro y
   have h2:=hgt.at_ y
   rw [tk,getL_app,getL_app]
   revert h2
   cases hq : getL (gs.take i) y with
   | some us2 =>
    simp only [Option.some_or]
    rintro ⟨h3,v2,h4,h5⟩
    exact ⟨h3,v2,by rw [h4]; rfl,h5.mono fun x hx=>List.mem_cons_of_mem _ hx⟩
   | none =>
    simp only [Option.none_or]
    intro h2
    rw [h2]
    by_cases hy : y = nm
    ·subst hy
     have e1 : getL [(y,us)] y = some us:=by simp [getL]
     have e2 : getL [(y,r)] y = some r:=by simp [getL]
     rw [e1,e2]
     exact ⟨hul1,r,rfl,.inr List.mem_cons_self⟩
    ·have e1 : getL [(nm,us)] y = none:=by simp [getL,hy]
     have e2 : getL [(nm,r)] y = none:=by simp [getL,hy]
     rw [e1,e2]
     rfl
  ·replace E:=(E.bIx 1).tl
   (replace E:=((E.bIx 5).bIx 1))
   replace E:=Hs.pool Ty.t9 E
   (replace E:=(((((E.bIx 0).bIx 4).bIx 4).bIx 4).bIx 4))
   exact E
 ·obtain rfl : i = gs.length:=by omega
  rw [List.take_length] at hgt
  exact ⟨t,fm,gm,om,D',gr,rfl,hD,hgt,E⟩
end Go.Proofs.YthapmhhihfedcaaGreatDoor
namespace Go.Proofs.YthapmhhihfedcaaGreatDoor
open Go Go.Sh
set_option maxRecDepth 100000
set_option linter.unusedVariables false
set_option linter.unusedSimpArgs false
variable {w0 w:World} {F:Nat→Prop} {l:List As}
abbrev rootN(owner:BA):Nd:=⟨0,0,2147484157,0,0,emp,owner,owner,owner,emp⟩
def newT(owner:BA)(gs:Gs):Tr:=⟨[rootN owner],0,1,gs,[]⟩
theorem checkG_zero {gs : Gs} {names : List BA} (h : checkG gs names = 0) : gs.length≤16∧(∀ g∈gs,g.2.length≤16)∧(∀ s∈names++gwords gs,goodName s = true)∧(gs.map (·.1)).Nodup:=by
 unfold checkG at h
 split at h
 ·cases h
 rename_i h1
 split at h
 ·cases h
 rename_i h2
 split at h
 ·cases h
 rename_i h3
 unfold glimit at h1
 simp only [Bool.or_eq_true,decide_eq_true_eq,List.any_eq_true,not_or,not_exists,not_and] at h1 h2 h3
 refine ⟨by omega,fun g hg=>by have:=h1.2 g hg; omega,fun s hs=>by have:=h2 s hs; simpa using this,?_⟩
 have:=h3.2
 unfold twice at this
 simpa using this
theorem root_dir:isD 2147484157=true:=by decide
theorem root_right:rightM 2147484157=true:=by decide
theorem newT_inv {owner : BA} {gs : Gs} (ho : goodName owner = true) : Inv (newT owner gs):=by
  have mm : ∀ {P : Nd→Prop},P (rootN owner)→∀ n∈(newT owner gs).ns,P n:=by
    intro P h n hn
    rw [List.mem_singleton.1 hn]; exact h
  refine ⟨List.pairwise_singleton _ _,⟨_,List.mem_singleton.2 rfl,rfl⟩,mm ⟨Int.le_refl _,by show (0 : Int) < 1; omega⟩,mm fun _=>⟨root_dir,rfl⟩,mm fun h=>absurd rfl h,mm fun _ _ h=>absurd rfl h,mm fun h=>absurd rfl h,⟨fun _=>0,mm fun h=>absurd rfl h⟩,
    mm ⟨fun _=>rfl,Nat.zero_le _⟩,mm ⟨ho,ho,root_right,Int.le_refl _,Int.le_refl _⟩,List.Pairwise.nil,(fun _ h=>by cases h),(fun _ h=>by cases h),(fun _ h=>by cases h),⟨by show 1≤1024; omega,Nat.zero_le _⟩,Int.le_refl _,mm fun _=>rfl⟩
theorem New_ok{D:List Row}{v:Value}{gv:List (BA×Value)}{gs:Gs}{owner:BA}(hg:GIn w0 F l v gv gs)(hgl:gs.length≤100000)(hul:∀g∈gs,g.2.length≤100000)(hsz:∀s∈[owner]++gwords gs,s.size≤9223372036854775807)
  (E:Hs w0 F w (Pool D::l)):Ca PP Fn.tree_New #[str owner,v] w λr w'=>
   (checkG gs [owner]≠0∧r=.tuple #[.pointer none,i64 (checkG gs [owner])]∧Hs w0 F w' (Pool D::l))∨
   (checkG gs [owner]=0∧∃D' X β,r=.tuple #[ptr X.t,i64 0]∧(∀x∈D,x∈D')∧Tie D' X (newT owner gs) β∧Inv (newT owner gs)∧Hs w0 F w' (trA X::Pool D'::l)):=by
 refine S.tree_New.calls ?_
 unfold S.tree_New
 refine BdS.one E u_sl_string e_string rfl ?_
 clear E
 intro nv w_ E
 refine(check_ok (names:=[owner]) (hg.weaken λw E=>E.tl) (by simp) hgl hul hsz E).mono ?_
 clear E
 rintro r w_ ⟨rfl,E⟩
 refine Bi.neq ?_ ?_<;>intro hc<;>(repeat with_reducible refine Stp.go ?_)
 ·exact .inl ⟨hc,rfl,E⟩
 obtain⟨c1,c2,c3,c4⟩:=checkG_zero hc
 refine(empty_ok hg c4 c1 c2 E).mono ?_
 clear E
 rintro r w_ ⟨t,fm,gm,om,D',gr,rfl,hD,hgt,E⟩
 refine MkM.pt (kt:=.str) E ?_
 clear E
 intro kb w_ hkb E
 repeat with_reducible first|refine Stp.go ?_|refine StpE.go E ?_|(refine StpW.go E ?_;clear E;intro w_ E)|(refine StpA.go E ?_;clear E;intro b_ w_ hb_ E)
 (revert b_;intro nb hbnb E)
 have E2:Hs w0 F w_ (nd nb ⟨0,0,0,0,0,0,emp,owner,owner,owner,.slice none 0 0,some kb,none,false⟩::mp kb .str []::pt t (oc [ptr nb,.map (some fm),.map (some gm),i64 1,i64 0,.map (some om)] Ty.t17)::mp fm (.int .i64) []::mp gm .str (encM Value.string id gr)::mp om (.int .i64) []::Pool D'::l):=E
 clear E
 refine(is_ok E2).mono ?_
 clear E2
 rintro r w_ E
 repeat with_reducible first|refine Stp.go ?_|refine StpE.go E ?_|(refine StpW.go E ?_;clear E;intro w_ E)
 refine Mu.by E u_mfiles k_i64 rfl ?_
 clear E
 intro w_ E
 obtain⟨X,hX⟩:∃X:PT,X=⟨t,nb,fm,gm,om,1,0,[⟨rootN owner,nb,0,.slice none 0 0,kb,[],none⟩],[],[(0,nb)],gr,[]⟩:=⟨_,rfl⟩
 refine .inr ⟨hc,D',X,λ_=>nb,by rw[hX],hD,?_,newT_inv (c3 owner (by simp)),?_⟩
 ·rw[hX]
  refine⟨List.Perm.refl _,rfl,rfl,?_,?_,?_,List.Perm.refl _,⟨_,List.mem_singleton.2 rfl,rfl,rfl⟩,hgt,?_,List.Perm.refl _,λx h=>by cases h⟩
  ·intro n hn
   rw[List.mem_singleton.1 hn]
   exact .inl ⟨rfl,_,_,rfl⟩
  ·intro n hn
   rw[List.mem_singleton.1 hn]
   exact⟨λ_=>rfl,λh=>absurd rfl h⟩
  ·intro n hn
   rw[List.mem_singleton.1 hn]
   exact List.Perm.refl _
  ·intro n hn
   rw[List.mem_singleton.1 hn]
 ·obtain⟨qn,hqn⟩:∃qn:PN,qn=⟨rootN owner,nb,0,.slice none 0 0,kb,[],none⟩:=⟨_,rfl⟩
  have hmn:qn.mn=⟨kindOf 2147484157,0,0,2147484157,0,0,emp,owner,owner,owner,.slice none 0 0,some kb,none,false⟩:=by
   rw[hqn]
   show MN.mk _ _ _ _ _ _ _ _ _ _ _ (if isD 2147484157=true then some kb else none) _ _=_
   rw[if_pos root_dir]
  have hdir:qn.f.dir=true:=by rw[hqn];exact root_dir
  have E2:Hs w0 F w_ (nd qn.blk qn.mn::mp qn.kb .str qn.kM::tb X::mp X.fm (.int .i64) X.fM::mp X.gm .str X.gM::mp X.om (.int .i64) X.oM::Pool D'::l):=by
   rw[hmn,hX,hqn];exact E
  replace E2:=Hs.closeK hdir (E2.bIx 1)
  have E:=Hs.starNil (Hs.starNil E2)
  (replace E:=((((((((E.bIx 1).bIx 1).bIx 2).bIx 3).bIx 7).bIx 7).bIx 7).bIx 7))
  exact Hs.closeTN X qn (rs:=[]) (by rw[hX,hqn]) (by rw[hX]at E ⊢;exact E)
end Go.Proofs.YthapmhhihfedcaaGreatDoor