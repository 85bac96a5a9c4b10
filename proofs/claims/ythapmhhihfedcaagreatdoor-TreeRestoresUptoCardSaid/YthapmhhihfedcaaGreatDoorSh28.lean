/-
 The shallow layer, part 18: structs held against each other.
-/
import Derived.Test.YthapmhhihfedcaaGreatDoorSh17
import Derived.Laws.StructEq
import Derived.ChangeArms
import Derived.WideShapes
import Derived.ChangeShapes
import Derived.Lib.AppendZeros
namespace Go.Sh
set_option linter.unusedVariables false
set_option linter.unusedSimpArgs false
open Go

inductive LK where
 |int (k:IntKind)
 |str
 |bool
def LK.fit:LK→Value→Bool
 | .int k,.int q _=>decide (k=q)
 | .str,.string _=>true
 | .bool,.bool _=>true
 |_,_=>false
def fitL:List LK→List Value→Bool
 |[],[]=>true
 |k::ks,v::vs=>k.fit v && fitL ks vs
 |_,_=>false
def ceq:Value→Value→Bool
 | .int _ a,.int _ b=>decide (a=b)
 | .string a,.string b=>decide (a=b)
 | .bool a,.bool b=>decide (a=b)
 |_,_=>false
def ceqL:List Value→List Value→Bool
 |[],[]=>true
 |x::xs,y::ys=>ceq x y && ceqL xs ys
 |_,_=>false
def isSt(P:Program)(t:TypeId):Bool:=match P.underlying t with
 |some (.struct _)=>true
 |_=>false
def lvF(g:TypeId→Option (List LK)):List Field→Nat→Option (List LK)
 |[],_=>some []
 |f::r,o=>if f.name≠ "_"∧f.offset=o then
   match g f.type with
   |some l=>match lvF g r (o+l.length)with
    |some m=>some (l++m)
    |none=>none
   |none=>none
  else none

def lv(P:Program):Nat→TypeId→Option (List LK)
 |0,_=>none
 |d+1,t=>match P.underlying t with
  |some (.int k)=>some [.int k]
  |some .string=>some [.str]
  |some .bool=>some [.bool]
  |some (.struct fs)=>if P.stoodInHeld t=true then none else match lvF (lv P d) fs.toList 0,sizeK P t with
   |some l,some n=>if n=l.length then some l else none
   |_,_=>none
  |_=>none

def asV(P:Program)(t:TypeId)(xs:List Value):Value:=if isSt P t then .agg xs.toArray else xs.headD undef
theorem fitL_len:∀{ks:List LK} {xs:List Value},fitL ks xs=true→xs.length=ks.length
 |[],[],_=>rfl
 |k::ks,x::xs,h=>by
  simp only[fitL,Bool.and_eq_true]at h
  simp[fitL_len h.2]
 |[],_::_,h=>by simp[fitL]at h
 |_::_,[],h=>by simp[fitL]at h
theorem fitL_app:∀{ks ms:List LK} {xs:List Value},fitL (ks++ms) xs=true→fitL ks (xs.take ks.length)=true∧fitL ms (xs.drop ks.length)=true
 |[],ms,xs,h=>by simpa[fitL] using h
 |k::ks,ms,[],h=>by simp[fitL]at h
 |k::ks,ms,x::xs,h=>by
  simp only[List.cons_append,fitL,Bool.and_eq_true]at h
  have:=fitL_app h.2
  simp[fitL,h.1,this.1,this.2]
theorem ceqL_app:∀(n:Nat) (xs ys:List Value),xs.length=ys.length→ceqL xs ys=(ceqL (xs.take n) (ys.take n) && ceqL (xs.drop n) (ys.drop n))
 |0,xs,ys,_=>by simp[ceqL]
 |n+1,[],[],_=>by simp[ceqL]
 |n+1,x::xs,y::ys,h=>by
  have:=ceqL_app n xs ys (by simpa using h)
  simp only[List.take_succ_cons,List.drop_succ_cons,ceqL]
  rw[this,Bool.and_assoc]
 |n+1,[],_::_,h=>by simp at h
 |n+1,_::_,[],h=>by simp at h
variable {P:Program}
theorem lv_part {d : Nat} {t : TypeId} {ks : List LK} (h : lv P d t = some ks) {xs : List Value} {off : Nat} (hx : fitL ks ((xs.drop off).take ks.length) = true) (w : World) : (part t xs.toArray off).run P w = .ok (asV P t ((xs.drop off).take ks.length)) w:=by
  have hlen:=fitL_len hx
  cases d with
  | zero=>cases h
  | succ d =>
    have scalc : scal P t = true→ks.length = 1→isSt P t = false→(part t xs.toArray off).run P w = .ok (asV P t ((xs.drop off).take ks.length)) w:=by
      intro h1 h2 h3
      rw [h2] at hlen ⊢
      have hlt : off < xs.length:=by
        rw [List.length_take,List.length_drop] at hlen; omega
      have hxo : xs.toArray[off]? = some xs[off]:=by simp [hlt]
      unfold part asV
      rw [if_neg (by rw [h3]; simp)]
      simp only [Sem.run_bind,run_isAgg_scal h1,Result.andThen_ok,Bool.false_eq_true,if_false,hxo,Sem.run_pure]
      congr 1
      rw [List.drop_eq_getElem_cons hlt]; rfl
    unfold lv at h
    unfold scal isSt at scalc
    cases hu : P.underlying t with
    | none=>rw [hu] at h; cases h
    | some q =>
      rw [hu] at h scalc
      cases q with
      | int k=>cases h; exact scalc rfl rfl rfl
      | string=>cases h; exact scalc rfl rfl rfl
      | bool=>cases h; exact scalc rfl rfl rfl
      | struct fs =>
        simp only [] at h
        split at h
        · cases h
        split at h
        · rename_i l n hl hn
          split at h
          · rename_i hnl
            cases h
            have hs : aggSize P t = some n:=by unfold aggSize; rw [hu]; exact hn
            obtain ⟨h1,h2⟩:=aggSize_spec hs w
            have h3 : isSt P t = true:=by unfold isSt; rw [hu]
            unfold part asV
            rw [if_pos h3]
            simp only [Sem.run_bind,h1,Result.andThen_ok,if_true,h2,Sem.run_pure]
            congr 2
            apply Array.ext'
            simp only [Array.toList_extract,List.extract_eq_take_drop]
            rw [show off + n - off = n by omega,hnl]
          · cases h
        · cases h
      | _=>cases h
theorem equalIn_lv:∀(d:Nat) {t:TypeId} {ks:List LK},lv P d t=some ks→∀(e:Nat) (xs ys:List Value) (w:World),d≤e→fitL ks xs=true→fitL ks ys=true→(Op.equalIn e t (asV P t xs) (asV P t ys)).run P w=.ok (ceqL xs ys) w:=by
 intro d
 induction d with
 |zero=>intro t ks h;cases h
 |succ d ih=>
  intro t ks h e xs ys w hde hx hy
  obtain⟨e,rfl⟩:∃e',e=e'+1:=⟨e-1,by omega⟩
  have h0:=h
  unfold lv at h
  cases hu:P.underlying t with
  |none=>rw[hu]at h;cases h
  |some q=>
   rw[hu]at h
   have one:∀k:LK,ks=[k]→isSt P t=false→∃x y,xs=[x]∧ys=[y]∧k.fit x=true∧k.fit y=true∧asV P t xs=x∧asV P t ys=y:=by
    intro k hk hs
    subst hk
    have lx:=fitL_len hx
    have ly:=fitL_len hy
    match xs,ys,lx,ly with
    |[x],[y],_,_=>
     refine⟨x,y,rfl,rfl,?_,?_,?_,?_⟩
     ·simpa[fitL] using hx
     ·simpa[fitL] using hy
     ·unfold asV;rw[if_neg (by rw[hs];simp)];rfl
     ·unfold asV;rw[if_neg (by rw[hs];simp)];rfl
   cases q with
   |int k=>
    cases h
    obtain⟨x,y,rfl,rfl,fx,fy,ex,ey⟩:=one _ rfl (by unfold isSt;rw[hu])
    rw[ex,ey]
    cases x with
    |int q a=>
     cases y with
     |int r b=>
      simp only[LK.fit,decide_eq_true_eq]at fx fy
      subst fx fy
      rw[run_equalIn_int w e t k k a b hu]
      congr 1
      simp only[ceqL,ceq,Bool.and_true]
      by_cases hab:a=b<;>simp[hab]
     |_=>simp[LK.fit]at fy
    |_=>simp[LK.fit]at fx
   |string=>
    cases h
    obtain⟨x,y,rfl,rfl,fx,fy,ex,ey⟩:=one _ rfl (by unfold isSt;rw[hu])
    rw[ex,ey]
    cases x with
    |string a=>
     cases y with
     |string b=>
      rw[run_equalIn_string w e t a b hu]
      congr 1
      simp only[ceqL,ceq,Bool.and_true]
      exact toList_beq a b
     |_=>simp[LK.fit]at fy
    |_=>simp[LK.fit]at fx
   |bool=>
    cases h
    obtain⟨x,y,rfl,rfl,fx,fy,ex,ey⟩:=one _ rfl (by unfold isSt;rw[hu])
    rw[ex,ey]
    cases x with
    |bool a=>
     cases y with
     |bool b=>
      rw[run_equalIn_bool' w e t a b hu]
      congr 1
      simp only[ceqL,ceq,Bool.and_true]
      cases a<;>cases b<;>rfl
     |_=>simp[LK.fit]at fy
    |_=>simp[LK.fit]at fx
   |struct fs=>
    have hs:isSt P t=true:=by unfold isSt;rw[hu]
    simp only[]at h
    split at h
    ·cases h
    rename_i hst
    split at h
    ·rename_i l n hl hn
     split at h
     ·cases h
      have hfs:P.fieldsOf t=fs:=by simp[Program.fieldsOf,hu]
      unfold asV
      rw[if_pos hs,if_pos hs,run_equalIn_struct w e t _ _ (by rw[hfs];exact hu) (by simpa using hst),hfs]
      have key:∀(fs:List Field) (o:Nat) (ms:List LK),lvF (lv P d) fs o=some ms→fitL ms (xs.drop o)=true→fitL ms (ys.drop o)=true→
        (Op.eqFields e xs.toArray ys.toArray fs).run P w=.ok (ceqL (xs.drop o) (ys.drop o)) w:=by
       intro fs
       induction fs with
       |nil=>
        intro o ms h1 h2 h3
        cases h1
        have e1:=List.eq_nil_of_length_eq_zero (fitL_len h2)
        have e2:=List.eq_nil_of_length_eq_zero (fitL_len h3)
        rw[e1,e2]
        rfl
       |cons f r ihf=>
        intro o ms h1 h2 h3
        unfold lvF at h1
        split at h1
        ·rename_i hf
         split at h1
         ·rename_i l1 hl1
          split at h1
          ·rename_i m1 hm1
           cases h1
           obtain⟨a1,a2⟩:=fitL_app h2
           obtain⟨b1,b2⟩:=fitL_app h3
           unfold Op.eqFields
           rw[if_pos hf.1]
           rw[hf.2]
           simp only[Sem.run_bind,lv_part hl1 a1 w,lv_part hl1 b1 w,Result.andThen_ok,ih hl1 e _ _ w (by omega) a1 b1]
           rw[List.drop_drop]at a2 b2
           have hrest:=ihf (o+l1.length) m1 hm1 a2 b2
           have hsp:=ceqL_app l1.length (xs.drop o) (ys.drop o) (by rw[fitL_len h2,fitL_len h3])
           rw[List.drop_drop,List.drop_drop]at hsp
           rw[hsp]
           cases ceqL ((xs.drop o).take l1.length) ((ys.drop o).take l1.length)with
           |false=>simp
           |true=>simpa using hrest
          ·cases h1
         ·cases h1
        ·cases h1
      have:=key fs.toList 0 _ hl (by simpa using hx) (by simpa using hy)
      simpa using this
     ·cases h
    ·cases h
   |_=>cases h
variable {w:World}

theorem EqS.e{t:TypeId}{ks:List LK}{xs ys:List Value}{x y:Operand}{k:Value→Prop}(h:lv P 20 t=some ks)(hs:isSt P t=true)(hg:P.eqGuardType P.depth t=false)(hx:fitL ks xs=true)(hy:fitL ks ys=true)
  (hk:k (.bool (ceqL xs ys))):Rd P (eqS .eql t x y (.agg xs.toArray) (.agg ys.toArray)) w k:=by
 refine⟨_,?_,hk⟩
 have:=equalIn_lv 20 h 10000 xs ys w (by omega) hx hy
 unfold asV at this
 rw[if_pos hs,if_pos hs]at this
 unfold eqS
 simp only[Sem.run_bind,run_eqGuard_agg w .eql t x y _ _ hg,Result.andThen_ok]
 rw[run_eql_struct,this]
 rfl
theorem EqS.n{t:TypeId}{ks:List LK}{xs ys:List Value}{x y:Operand}{k:Value→Prop}(h:lv P 20 t=some ks)(hs:isSt P t=true)(hg:P.eqGuardType P.depth t=false)(hx:fitL ks xs=true)(hy:fitL ks ys=true)
  (hk:k (.bool !(ceqL xs ys))):Rd P (eqS .neq t x y (.agg xs.toArray) (.agg ys.toArray)) w k:=by
 refine⟨_,?_,hk⟩
 have:=equalIn_lv 20 h 10000 xs ys w (by omega) hx hy
 unfold asV at this
 rw[if_pos hs,if_pos hs]at this
 unfold eqS
 simp only[Sem.run_bind,run_eqGuard_agg w .neq t x y _ _ hg,Result.andThen_ok]
 rw[run_neq_struct,this]
 rfl
end Go.Sh
namespace Go.Sh
set_option linter.unusedVariables false
set_option linter.unusedSimpArgs false
open Go Go.ChangeShapes Go.WideShapes

def LK.fitW:LK→Value→Prop
 | .int k,.int q n=>k=q∧(Lit.int k n).wf=true
 | .str,.string s=>s.size≤maxLen
 | .bool,.bool _=>True
 |_,_=>False
def fitWL:List LK→List Value→Prop
 |[],[]=>True
 |k::ks,v::vs=>k.fitW v∧fitWL ks vs
 |_,_=>False
theorem fitWL_app:∀{ks ms:List LK} {xs ys:List Value},fitWL ks xs→fitWL ms ys→fitWL (ks++ms) (xs++ys)
 |[],_,[],_,_,h=>h
 |_::_,_,_::_,_,h,h2=>⟨h.1,fitWL_app h.2 h2⟩
 |[],_,_::_,_,h,_=>h.elim
 |_::_,_,[],_,h,_=>h.elim

def lvC(P:Program):Nat→TypeId→Bool
 |0,_=>false
 |d+1,t=>(match lv P (d+1) t with
  |some l=>decide (P.cellsOf t=l.length)
  |none=>false) && (match P.underlying t with
  |some (.struct fs)=>fs.toList.all λf=>lvC P d f.type
  |_=>true)
theorem lvC_cells{P:Program}:∀{d:Nat} {t:TypeId} {ks:List LK},lvC P d t=true→lv P d t=some ks→P.cellsOf t=ks.length
 |0,_,_,_,h=>by cases h
 |d+1,t,ks,hc,h=>by
  unfold lvC at hc
  rw[h]at hc
  simp only[Bool.and_eq_true,decide_eq_true_eq]at hc
  exact hc.1
variable {P:Program} {H:Type} {enc:TypeId×Value→H} {w:World} {base:Nat} {sp:Nat→Bool} {held:Bool}
theorem trod_lv:∀(d:Nat) {t:TypeId} {ks:List LK},lv P d t=some ks→lvC P d t=true→∀(fuel:Nat) (cs:List Value) (x:DataW H×List MemPlace),DataW.trod enc P w base sp held fuel t cs=some x→fitWL ks cs:=by
 intro d
 induction d with
 |zero=>intro t ks h;cases h
 |succ d ih=>
  intro t ks h hc fuel cs x hx
  have h0:=h
  unfold lv at h
  cases hu:P.underlying t with
  |none=>rw[hu]at h;cases h
  |some q=>
   rw[hu]at h
   cases q with
   |int k=>
    cases h
    obtain⟨n,rfl,-,hw⟩:=DataW.trod_int hu hx
    exact⟨⟨rfl,hw⟩,trivial⟩
   |string=>
    cases h
    obtain⟨s,rfl,-,hw⟩:=DataW.trod_string hu hx
    exact⟨hw,trivial⟩
   |bool=>
    cases h
    obtain⟨b,rfl,-⟩:=DataW.trod_bool hu hx
    exact⟨trivial,trivial⟩
   |struct fs=>
    simp only[]at h
    split at h
    ·cases h
    split at h
    ·rename_i l n hl hn
     split at h
     ·cases h
      obtain⟨xs,n,-,-,hlen,hxs,hf⟩:=DataW.trod_struct hu hx
      have hcells:=lvC_cells hc h0
      rw[hcells]at hlen
      unfold lvC at hc
      rw[hu]at hc
      simp only[Bool.and_eq_true,List.all_eq_true]at hc
      have key:∀(gs:List Field) (o:Nat) (ms:List LK),(∀f∈gs,f∈fs.toList)→lvF (lv P d) gs o=some ms→cs.length=o+ms.length→fitWL ms (cs.drop o):=by
       intro gs
       induction gs with
       |nil=>
        intro o ms _ h1 h2
        cases h1
        rw[List.drop_eq_nil_of_le (by simp at h2;omega)]
        trivial
       |cons f r ihf=>
        intro o ms hm h1 h2
        unfold lvF at h1
        split at h1
        ·rename_i hfo
         split at h1
         ·rename_i l1 hl1
          split at h1
          ·rename_i m1 hm1
           cases h1
           rw[List.length_append]at h2
           have hfm:=hm f List.mem_cons_self
           obtain⟨i,hi⟩:=List.getElem?_of_mem hfm
           have hfi:fs[i]? =some f:=by simpa using hi
           have h3:=hf i f hfi
           have hci:=lvC_cells (hc.2 f hfm) hl1
           rw[hfo.2,hci]at h3
           have hlt:i<xs.length:=by rw[hxs];exact(Array.getElem?_eq_some_iff.1 hfi).1
           rw[List.getElem?_eq_getElem hlt]at h3
           have h4:=ih hl1 (hc.2 f hfm) _ _ _ h3
           have h5:=ihf (o+l1.length) m1 (λg hg=>hm g (List.mem_cons_of_mem _ hg)) hm1 (by omega)
           have e:cs.drop o=(cs.drop o).take l1.length++cs.drop (o+l1.length):=by
            rw[← List.drop_drop,List.take_append_drop]
           rw[e]
           exact fitWL_app h4 h5
          ·cases h1
         ·cases h1
        ·cases h1
      have:=key fs.toList 0 _ (λf hf=>hf) hl (by omega)
      simpa using this
     ·cases h
    ·cases h
   |_=>cases h
theorem LK.int_of{k:IntKind}{v:Value}(h:LK.fitW (.int k) v):∃n,v=.int k n∧(Lit.int k n).wf=true:=by
 cases v with
 |int q n=>obtain⟨rfl,hw⟩:=h;exact⟨n,rfl,hw⟩
 |_=>exact h.elim
theorem LK.str_of{v:Value}(h:LK.fitW .str v):∃s,v=.string s∧s.size≤maxLen:=by
 cases v with
 |string s=>exact⟨s,rfl,h⟩
 |_=>exact h.elim
theorem fitWL_cons{k:LK}{ks:List LK}{xs:List Value}(h:fitWL (k::ks) xs):∃x r,xs=x::r∧k.fitW x∧fitWL ks r:=by
 cases xs with
 |nil=>exact h.elim
 |cons x r=>exact⟨x,r,rfl,h.1,h.2⟩
theorem fitWL_nil{xs:List Value}(h:fitWL [] xs):xs=[]:=by
 cases xs with
 |nil=>rfl
 |cons x r=>exact h.elim
end Go.Sh
namespace Go.Sh
set_option linter.unusedVariables false
set_option linter.unusedSimpArgs false
open Go

def Vw(v:Value)(a:Nat)(v':Value):Prop:=∃b o n c,v=.slice (some ⟨b,o,none⟩) n c∧v'=.slice (some ⟨b,o+a,none⟩) (n-a) (c-a)
section
variable {P:Program} {w0:World} {F:Nat→Prop} {w:World} {l:List As} {v x:Value} {T:TypeId} {xs:List Value}
theorem Cpy.sl{dT sT ty e T:TypeId}{n m a:Nat}{v':Value}{ys:List Value}{k:Value→World→Prop}(E:Hs w0 F w (slA v T 1 xs::l))(hv':Vw v a v')(h1:P.underlying dT=some (.slice e))(hs:sizeK P e=some 1)
  (hlen:(Builtin.lenOf x).run P w=.ok n w)(hm:m=min n (xs.length-a))(hf:(Builtin.firstCells 1 m x).run P w=.ok ys.toArray w)(hy:ys.length=m)(hfit:a+m≤xs.length)(hvs:ys.all scalV=true)
  (hk:∀w',Hs w0 F w' (slA v T 1 (xs.take a++ys++xs.drop (a+m))::l)→k (.int .i64 m) w'):Ef P (Builtin.copy_ #[dT,sT] ty #[v',x]) w k:=by
 obtain⟨b0,o0,n0,c0,rfl,rfl⟩:=hv'
 rcases(show SliceAt _ T 1 xs w from E.sat _ List.mem_cons_self).ex with⟨h,_⟩|⟨b,off,len,cap,pre,sp,fr,hv,g1,g2,g3,g4,g5,g6⟩
 ·cases h
 simp only[Value.slice.injEq,Option.some.injEq,Addr.mk.injEq,and_true]at hv
 obtain⟨⟨rfl,rfl⟩,rfl,rfl⟩:=hv
 rw[Nat.mul_one]at g3
 obtain⟨w',r1,r2,r3⟩:=storeCells_run (P:=P) (b:=b0) (T:=T) (fr:=fr) (o0+a) ys (pre++xs++sp) 0 w g1 g6 (by simp;omega) hvs
 refine⟨.int .i64 m,w',?_,hk _ ?_⟩
 ·unfold sizeK at hs
  cases hq:P.info? e with
  |none=>rw[hq]at hs;cases hs
  |some i=>
   rw[hq]at hs
   simp only[Option.map_some,Option.some.injEq]at hs
   have hm':Nat.min n (n0-a)=m:=by rw[hm,g3]
   simp[Builtin.copy_,run_underlying h1,hlen,sizeOf,typeInfo,hq,hs,hm',hf,r1,goInt]
 ·have e:setCs (pre++xs++sp) (o0+a+0) ys=pre++(xs.take a++ys++xs.drop (a+m))++sp:=by
   rw[Nat.add_zero,← g2,setCs_mid _ _ _ _ _ (by omega),setCs_eq _ _ _ (by omega),hy]
  rw[e]at r2
  have hl:(xs.take a++ys++xs.drop (a+m)).length=xs.length:=by simp;omega
  have:=E.set 0 (A:=slA (.slice (some ⟨b0,o0,none⟩) n0 c0) T 1 xs) (A':=slA (.slice (some ⟨b0,o0,none⟩) n0 c0) T 1 (xs.take a++ys++xs.drop (a+m))) rfl (r3.mono λy _ hy=>by rw[hy];rfl)
   ⟨.inr ⟨b0,o0,n0,c0,pre,sp,fr,rfl,r2,g2,by rw[hl,Nat.mul_one];exact g3,by rw[List.length_append,hl,← List.length_append];exact g4,g5,by
    have:(pre++(xs.take a++ys++xs.drop (a+m))++sp).length=(pre++xs++sp).length:=by simp only[List.length_append]at hl ⊢;omega
    rw[this];exact g6⟩⟩ λy hy=>.inl hy
  simpa using this
end
end Go.Sh
namespace Go.Sh
set_option linter.unusedVariables false
set_option linter.unusedSimpArgs false
open Go
theorem setCs_all(vs cs:List Value)(h:vs.length=cs.length):setCs cs 0 vs=vs:=by
 rw[setCs_eq _ _ _ (by omega),List.take_zero,List.nil_append,Nat.zero_add,List.drop_eq_nil_of_le (by omega),List.append_nil]

theorem StA.all{P:Program}{w0:World}{F:Nat→Prop}{w:World}{l:List As}{b n:Nat}{cs vs:List Value}{T:TypeId}{f:Obj→List As}{k:World→Prop}(E:Hs w0 F w l)[h:WOb l b (oc cs T) f](hn:vs.length=n)(hc:cs.length=n)(hv:vs.all scalV=true)
  (hk:∀w',Hs w0 F w' (f (oc vs T))→k w'):St P n (.pointer (some ⟨b,0,none⟩)) (.agg vs.toArray) w k:=by
 obtain⟨i,h1,h2⟩:=h.at_
 refine StA.pt E i h1 hn (by omega) hv λw' E'=>hk w' ?_
 rw[h2]
 have:setCs cs 0 vs=vs:=setCs_all vs cs (by omega)
 rw[this]at E'
 exact E'

theorem St.ten{P:Program}{w0:World}{F:Nat→Prop}{w:World}{l:List As}{b:Nat}{x0 x1 x2 y0 y1 y2 y3 y4 y5 y6 y7 y8 y9 v0 v1 v2 v3 v4 v5 v6 v7 v8 v9:Value}{r:List Value}{T:TypeId}{f:Obj→List As}{k:World→Prop}(E:Hs w0 F w l)
  [h:WOb l b (oc (x0::x1::x2::y0::y1::y2::y3::y4::y5::y6::y7::y8::y9::r) T) f](hv:[v0,v1,v2,v3,v4,v5,v6,v7,v8,v9].all scalV=true)
  (hk:∀w',Hs w0 F w' (f (oc (x0::x1::x2::v0::v1::v2::v3::v4::v5::v6::v7::v8::v9::r) T))→k w'):St P 10 (.pointer (some ⟨b,3,none⟩)) (.agg #[v0,v1,v2,v3,v4,v5,v6,v7,v8,v9]) w k:=by
 obtain⟨i,h1,h2⟩:=h.at_
 refine StA.pt E (vs:=[v0,v1,v2,v3,v4,v5,v6,v7,v8,v9]) i h1 rfl (by simp) hv λw' E'=>hk w' ?_
 rw[h2]
 exact E'
end Go.Sh
namespace Go.Sh
set_option linter.unusedVariables false
set_option linter.unusedSimpArgs false
open Go Go.ChangeShapes Go.WideShapes

def RdlA(w:World)(v:Value)(sz n:Nat)(xs:List Value):Prop:=∃a c,v=.slice a n c∧n≤c∧n≤maxLen∧xs.length=n*sz∧(xs=[]∨∃b o,a=some ⟨b,o,none⟩∧b<w.heap.size∧∀(j:Nat) x,xs[j]? =some x→w.cell? ⟨b,o+j,none⟩=some x)
section
variable {w0:World} {F:Nat→Prop} {l:List As} {sz n:Nat} {v:Value} {xs:List Value}
theorem RdS.oldA(h:RdlA w0 v sz n xs)(hF:∀b,¬F b):RdS w0 F l sz n v xs:=by
 obtain⟨a,c,h1,h2,-,h3,h4⟩:=h
 refine⟨a,c,h1,h2,h3,h4.imp id ?_⟩
 rintro⟨b,o,rfl,hlt,hc⟩
 refine⟨_,rfl,.inr ⟨b,o,rfl,λw E j x hx=>?_⟩⟩
 have hb:=E.upd.same b hlt (hF b)
 have:=hc j x hx
 unfold World.cell? at this ⊢
 rw[hb];exact this
end
theorem flat_get{sz:Nat}:∀{rows:List (List Value)} {j:Nat} {x:Value},(∀r∈rows,r.length=sz)→rows.flatten[j]? =some x→∃i k r,rows[i]? =some r∧k<sz∧j=i*sz+k∧r[k]? =some x
 |[],j,x,_,h=>by simp at h
 |r::rs,j,x,hr,h=>by
  rw[List.flatten_cons]at h
  have hl:=hr r List.mem_cons_self
  by_cases hj:j<sz
  ·rw[List.getElem?_append_left (by omega)]at h
   exact⟨0,j,r,rfl,hj,by omega,h⟩
  ·rw[List.getElem?_append_right (by omega)]at h
   obtain⟨i,k,r',h1,h2,h3,h4⟩:=flat_get (sz:=sz) (λy hy=>hr y (List.mem_cons_of_mem _ hy)) h
   exact⟨i+1,k,r',by simpa using h1,h2,by rw[Nat.succ_mul];omega,h4⟩
theorem flat_len{sz:Nat}:∀{rows:List (List Value)},(∀r∈rows,r.length=sz)→rows.flatten.length=rows.length*sz
 |[],_=>by simp
 |r::rs,h=>by
  rw[List.flatten_cons,List.length_append,flat_len (λy hy=>h y (List.mem_cons_of_mem _ hy)),h r List.mem_cons_self,List.length_cons,Nat.succ_mul]
  omega
section
variable {P:Program} {H:Type} {enc:TypeId×Value→H} {W:World}

theorem rdl_structs{d base:Nat}{t e:TypeId}{ks:List LK}{v:Value}{dt:DataW H}{ps:List MemPlace}(ht:P.underlying t=some (.slice e))(hl:lv P d e=some ks)(hc:lvC P d e=true)(hpos:0<ks.length)
  (hv:Value.okWide P W .any base t v)(h:DataW.Trod enc P W 0 (λ_=>true) true t v dt ps):∃rows:List (List Value),RdlA W v ks.length rows.length rows.flatten∧∀r∈rows,fitWL ks r:=by
 obtain⟨a0,n0,c0,rfl⟩:=okWide_slice ht hv
 obtain⟨fuel,hf⟩:=h
 have hsz:=lvC_cells hc hl
 rcases DataW.trod_slice ht hf with⟨hcs,-⟩|⟨a,len,cap,elems,rest,n,-,hcs,-,-,hle,hmx,hlen,hel,-,-⟩
 ·have:Value.slice a0 n0 c0=.slice none 0 0:=by simpa[Value.cells] using hcs
  rw[this]
  exact⟨[],⟨none,0,rfl,Nat.le_refl _,Nat.zero_le _,by simp,.inl rfl⟩,λ_ h=>by cases h⟩
 ·have:Value.slice a0 n0 c0=.slice (some a) len cap:=by simpa[Value.cells] using hcs
  rw[this]
  rw[hsz]at hel
  have each:∀i,∃r:List Value,i<len→fitWL ks r∧r.length=ks.length∧∀k,k<ks.length→W.cell? (a.add (i*ks.length+k))=r[k]?:=by
   intro i
   by_cases hi:i<len
   ·have h1:=hel i hi
    rw[List.getElem?_eq_getElem (show i<elems.length by omega),Option.bind_eq_some_iff]at h1
    obtain⟨r,hr,hx⟩:=h1
    obtain⟨-,h2,h3⟩:=World.cells?_some hr
    refine⟨r,λ_=>⟨trod_lv d hl hc _ _ _ hx,h2,λk hk=>?_⟩⟩
    have:=h3 k hk
    have e:(a.add (i*ks.length)).add k=a.add (i*ks.length+k):=by
     generalize i*ks.length=m
     unfold Addr.add
     by_cases h1:m=0<;>by_cases h2:k=0<;>simp[h1,h2,Nat.add_assoc]
    rwa [e]at this
   ·exact⟨[],λh=>absurd h hi⟩
  obtain⟨f,hfm⟩:∃f:Nat→List Value,∀i,i<len→fitWL ks (f i)∧(f i).length=ks.length∧∀k,k<ks.length→W.cell? (a.add (i*ks.length+k))=(f i)[k]?:=⟨λi=>(each i).choose,λi hi=>(each i).choose_spec hi⟩
  have hrl:∀r∈(List.range len).map f,r.length=ks.length:=by
   intro r hr
   obtain⟨i,hi,rfl⟩:=List.mem_map.1 hr
   exact(hfm i (List.mem_range.1 hi)).2.1
  refine⟨(List.range len).map f,⟨some a,cap,by simp,by simpa using hle,by simpa using Nat.le_trans hle hmx,flat_len hrl,?_⟩,λr hr=>?_⟩
  ·by_cases h0:len=0
   ·left;subst h0;rfl
   right
   have hc0:=(hfm 0 (by omega)).2.2 0 hpos
   have hl0:=(hfm 0 (by omega)).2.1
   rw[List.getElem?_eq_getElem (show 0<(f 0).length by omega)]at hc0
   obtain⟨ea,hb⟩:=spot_none hc0
   have e0:a.add (0*ks.length+0)=a:=by cases a;simp[Addr.add]
   rw[e0]at ea hb
   refine⟨a.block,a.off,by rw[← ea],hb,λj x hx=>?_⟩
   obtain⟨i,k,r,h1,h2,h3,h4⟩:=flat_get hrl hx
   rw[List.getElem?_map]at h1
   obtain⟨i',hi',rfl⟩:=Option.map_eq_some_iff.1 h1
   have hi2:=(List.getElem?_eq_some_iff.1 hi').1
   rw[List.length_range]at hi2
   have h5:i'=i:=by
    rw[List.getElem?_range (by omega)]at hi'
    exact(Option.some.inj hi').symm
   subst h5
   have:=(hfm i' hi2).2.2 k h2
   rw[h4,← h3,ea,add_mk]at this
   exact this
  ·obtain⟨i,hi,rfl⟩:=List.mem_map.1 hr
   exact(hfm i (List.mem_range.1 hi)).1
end

theorem Bi.addW{a b:Int}{k:Value→Prop}(hk:∀n:Int,k (.int .i64 n)):Bi .add (.int .i64 a) (.int .i64 b) k:=⟨_,rfl,hk _⟩
end Go.Sh
namespace Go.Sh
set_option linter.unusedVariables false
set_option linter.unusedSimpArgs false
open Go Go.ChangeShapes Go.WideShapes

def UsrD{H:Type}(g:ByteArray×List ByteArray)(d:DataW H):Prop:=
 ∃du,d=.agg [.lit (.string g.1.data.toList),du]∧((du=.nil∧g.2=[])∨∃sp,du=.slice (g.2.map λs=>.lit (.string s.data.toList)) sp)
def GrpD{H:Type}(gs:List (ByteArray×List ByteArray))(d:DataW H):Prop:=
 (d=.nil∧gs=[])∨∃elems spare,d=.slice elems spare∧elems.length=gs.length∧∀(i:Nat) d g,elems[i]? =some d→gs[i]? =some g→UsrD g d
section
variable {P:Program} {H:Type} {enc:TypeId×Value→H} {W:World}
theorem group_of{e s:TypeId}{a b:Field}{fuel:Nat}{cs:List Value}{x:DataW H×List MemPlace}(he:P.underlying e=some (.struct #[a,b]))(hc:P.cellsOf e=2)(ha:P.underlying a.type=some .string)(ha0:a.offset=0)(hac:P.cellsOf a.type=1)
  (hb:P.underlying b.type=some (.slice s))(hb0:b.offset=1)(hbc:P.cellsOf b.type=1)(hs:P.underlying s=some .string)(hsc:P.cellsOf s=1)
  (h:DataW.trod enc P W 0 (λ_=>true) true fuel e cs=some x):
  ∃nm uv us,cs=[.string nm,uv]∧nm.size≤maxLen∧Rdl W uv (us.map Value.string)∧(∀u∈us,u.size≤maxLen)∧UsrD (nm,us) x.1:=by
 obtain⟨xs,n,-,rfl,hlen,hxs,hf⟩:=DataW.trod_struct he h
 rw[hc]at hlen
 obtain⟨c0,c1,rfl⟩:∃c0 c1,cs=[c0,c1]:=by
  match cs,hlen with
  |[c0,c1],_=>exact⟨c0,c1,rfl⟩
 obtain⟨x0,x1,rfl⟩:∃x0 x1,xs=[x0,x1]:=by
  match xs,hxs with
  |[x0,x1],_=>exact⟨x0,x1,rfl⟩
 have h0:=hf 0 a rfl
 have h1:=hf 1 b rfl
 rw[ha0,hac]at h0
 rw[hb0,hbc]at h1
 have h0:DataW.trod enc P W 0 (λ_=>true) true n a.type [c0]=some x0:=h0
 have h1:DataW.trod enc P W 0 (λ_=>true) true n b.type [c1]=some x1:=h1
 obtain⟨nm,e0,hx0,hw⟩:=DataW.trod_string ha h0
 cases e0
 rcases open_strings hb hs hsc h1 with⟨hcs,hx1⟩|⟨p,len,cap,ss,hcs,-,hl,hmx,hz,hx1,hcell,hsz⟩
 ·cases hcs
  subst hx0 hx1
  exact⟨nm,_,[],rfl,hw,rdl_nil,(λ_ h=>by cases h),.nil,rfl,.inl ⟨rfl,rfl⟩⟩
 ·cases hcs
  simp only[if_true]at hz
  subst hx0 hx1
  refine⟨nm,_,ss.take len,rfl,hw,rdl_of hl (by simp;omega) λj hj=>?_,λu hu=>hsz u (List.mem_of_mem_take hu),_,rfl,.inr ⟨_,rfl⟩⟩
  rw[hcell j (by omega),List.getElem?_map,List.getElem?_take,if_pos hj]
  have hjs:j<ss.length:=by omega
  rw[List.getElem?_eq_getElem hjs]
  simp[List.getD,List.getElem?_eq_getElem hjs]
theorem groups_of{t e s:TypeId}{a b:Field}{fuel:Nat}{cs:List Value}{x:DataW H×List MemPlace}(ht:P.underlying t=some (.slice e))(he:P.underlying e=some (.struct #[a,b]))(hc:P.cellsOf e=2)(ha:P.underlying a.type=some .string)(ha0:a.offset=0)(hac:P.cellsOf a.type=1)
  (hb:P.underlying b.type=some (.slice s))(hb0:b.offset=1)(hbc:P.cellsOf b.type=1)(hs:P.underlying s=some .string)(hsc:P.cellsOf s=1)
  (h:DataW.trod enc P W 0 (λ_=>true) true fuel t cs=some x):
  ∃v,∃gv:List (ByteArray×Value),∃gs:List (ByteArray×List ByteArray),cs=[v]∧RdlA W v 2 gs.length (gv.flatMap λg=>[.string g.1,g.2])∧gv.length=gs.length∧
   (∀(i:Nat) a b,gv[i]? =some a→gs[i]? =some b→a.1=b.1∧Rdl W a.2 (b.2.map Value.string))∧(∀g∈gs,g.1.size≤maxLen∧∀u∈g.2,u.size≤maxLen)∧GrpD gs x.1:=by
 rcases DataW.trod_slice ht h with⟨rfl,rfl⟩|⟨p,len,cap,elems,rest,n,-,rfl,rfl,-,hle,hmx,hlen,hel,-,-⟩
 ·exact⟨_,[],[],rfl,⟨none,0,rfl,Nat.le_refl _,Nat.zero_le _,rfl,.inl rfl⟩,rfl,(λ_ _ _ h=>by simp at h),(λ_ h=>by cases h),.inl ⟨rfl,rfl⟩⟩
 ·rw[hc]at hel
  have each:∀i,∃q:(ByteArray×Value)×List ByteArray,i<len→q.1.1.size≤maxLen∧Rdl W q.1.2 (q.2.map Value.string)∧(∀u∈q.2,u.size≤maxLen)∧(∃y,elems[i]? =some y∧UsrD (q.1.1,q.2) y.1)∧W.cell? (p.add (i*2+0))=some (.string q.1.1)∧W.cell? (p.add (i*2+1))=some q.1.2:=by
   intro i
   by_cases hi:i<len
   ·have h1:=hel i hi
    rw[List.getElem?_eq_getElem (show i<elems.length by omega),Option.bind_eq_some_iff]at h1
    obtain⟨r,hr,hx⟩:=h1
    obtain⟨-,h2,h3⟩:=World.cells?_some hr
    obtain⟨nm,uv,us,rfl,g1,g2,g3,g4⟩:=group_of he hc ha ha0 hac hb hb0 hbc hs hsc hx
    have add2:∀k,(p.add (i*2)).add k=p.add (i*2+k):=by
     intro k
     generalize i*2=m
     unfold Addr.add
     by_cases h1:m=0<;>by_cases h2:k=0<;>simp[h1,h2,Nat.add_assoc]
    refine⟨((nm,uv),us),λ_=>⟨g1,g2,g3,⟨_,List.getElem?_eq_getElem (by omega),g4⟩,?_,?_⟩⟩
    ·rw[← add2 0,h3 0 (by omega)];rfl
    ·rw[← add2 1,h3 1 (by omega)];rfl
   ·exact⟨((ByteArray.empty,.nilFunc),[]),λh=>absurd h hi⟩
  obtain⟨f,hfm⟩:∃f:Nat→(ByteArray×Value)×List ByteArray,∀i,i<len→(f i).1.1.size≤maxLen∧Rdl W (f i).1.2 ((f i).2.map Value.string)∧(∀u∈(f i).2,u.size≤maxLen)∧(∃y,elems[i]? =some y∧UsrD ((f i).1.1,(f i).2) y.1)∧W.cell? (p.add (i*2+0))=some (.string (f i).1.1)∧W.cell? (p.add (i*2+1))=some (f i).1.2:=⟨λi=>(each i).choose,λi hi=>(each i).choose_spec hi⟩
  have rg:∀{i j:Nat},(List.range len)[i]? =some j→j=i∧i<len:=by
   intro i j h
   have h2:=(List.getElem?_eq_some_iff.1 h).1
   rw[List.length_range]at h2
   rw[List.getElem?_range (by omega)]at h
   exact⟨(Option.some.inj h).symm,h2⟩
  have fl:((List.range len).map λi=>(f i).1).flatMap (λg=>[Value.string g.1,g.2])=((List.range len).map λi=>[Value.string (f i).1.1,(f i).1.2]).flatten:=by
   rw[List.flatMap,List.map_map];rfl
  have hrl:∀r∈(List.range len).map λi=>[Value.string (f i).1.1,(f i).1.2],r.length=2:=by
   intro r hr
   obtain⟨i,-,rfl⟩:=List.mem_map.1 hr
   rfl
  refine⟨_,(List.range len).map λi=>(f i).1,(List.range len).map λi=>((f i).1.1,(f i).2),rfl,⟨some p,cap,by simp,by simpa using hle,by simpa using Nat.le_trans hle hmx,?_,?_⟩,by simp,?_,?_,.inr ⟨_,_,rfl,by simp[hlen],?_⟩⟩
  ·rw[fl,flat_len hrl];simp
  ·by_cases h0:len=0
   ·left;subst h0;rfl
   right
   have hc0:=(hfm 0 (by omega)).2.2.2.2.1
   obtain⟨ea,hbk⟩:=spot_none hc0
   have e0:p.add (0*2+0)=p:=by cases p;simp[Addr.add]
   rw[e0]at ea hbk
   refine⟨p.block,p.off,by rw[← ea],hbk,λj x hx=>?_⟩
   rw[fl]at hx
   obtain⟨i,k,r,h1,h2,h3,h4⟩:=flat_get hrl hx
   rw[List.getElem?_map]at h1
   obtain⟨i',hi',rfl⟩:=Option.map_eq_some_iff.1 h1
   obtain⟨rfl,hil⟩:=rg hi'
   have hq:=(hfm i' hil).2.2.2.2
   have hk:k=0∨k=1:=by omega
   rcases hk with rfl|rfl
   ·have:=hq.1
    rw[ea,add_mk]at this
    rw[h3,this];exact h4
   ·have:=hq.2
    rw[ea,add_mk]at this
    rw[h3,this];exact h4
  ·intro i ga gb ha hb
   rw[List.getElem?_map]at ha hb
   obtain⟨j,hj,rfl⟩:=Option.map_eq_some_iff.1 ha
   obtain⟨j',hj',rfl⟩:=Option.map_eq_some_iff.1 hb
   rw[hj]at hj';cases hj'
   obtain⟨rfl,hl⟩:=rg hj
   exact⟨rfl,(hfm j hl).2.1⟩
  ·intro g hg
   obtain⟨i,hi,rfl⟩:=List.mem_map.1 hg
   have:=hfm i (List.mem_range.1 hi)
   exact⟨this.1,this.2.2.1⟩
  ·intro i d g hd hg
   rw[List.getElem?_map]at hg hd
   obtain⟨j,hj,rfl⟩:=Option.map_eq_some_iff.1 hg
   obtain⟨rfl,hl⟩:=rg hj
   obtain⟨y,hy,hu⟩:=(hfm j hl).2.2.2.1
   rw[hy]at hd
   cases hd
   exact hu

theorem open_setting{r:Reach}{b0:Nat}{q e s:TypeId}{qa qb a b:Field}{v:Value}{d:DataW H}{ps:List MemPlace}(hq:P.underlying q=some (.struct #[qa,qb]))(hqc:P.cellsOf q=2)(hqa:P.underlying qa.type=some .string)(hqa0:qa.offset=0)(hqac:P.cellsOf qa.type=1)
  (ht:P.underlying qb.type=some (.slice e))(hqb0:qb.offset=1)(hqbc:P.cellsOf qb.type=1)(he:P.underlying e=some (.struct #[a,b]))(hc:P.cellsOf e=2)(ha:P.underlying a.type=some .string)(ha0:a.offset=0)(hac:P.cellsOf a.type=1)
  (hb:P.underlying b.type=some (.slice s))(hb0:b.offset=1)(hbc:P.cellsOf b.type=1)(hs:P.underlying s=some .string)(hsc:P.cellsOf s=1)(hval:Value.okWide P W r b0 q v)
  (h:DataW.Trod enc P W 0 (λ_=>true) true q v d ps):
  ∃owner gV,∃gv:List (ByteArray×Value),∃gs:List (ByteArray×List ByteArray),∃dg,v=.agg #[.string owner,gV]∧owner.size≤maxLen∧RdlA W gV 2 gs.length (gv.flatMap λg=>[.string g.1,g.2])∧gv.length=gs.length∧
   (∀(i:Nat) a b,gv[i]? =some a→gs[i]? =some b→a.1=b.1∧Rdl W a.2 (b.2.map Value.string))∧(∀g∈gs,g.1.size≤maxLen∧∀u∈g.2,u.size≤maxLen)∧d=.agg [.lit (.string owner.data.toList),dg]∧GrpD gs dg:=by
 obtain⟨cs0,rfl,_⟩:=okWide_struct hq hval
 obtain⟨fuel,h⟩:=h
 have h:DataW.trod enc P W 0 (λ_=>true) true fuel q cs0.toList=some (d,ps):=h
 obtain⟨xs,n,-,hx,hlen,hxs,hf⟩:=DataW.trod_struct hq h
 rw[hqc]at hlen
 obtain⟨c0,c1,hcs⟩:∃c0 c1,cs0.toList=[c0,c1]:=by
  match cs0.toList,hlen with
  |[c0,c1],_=>exact⟨c0,c1,rfl⟩
 obtain⟨x0,x1,rfl⟩:∃x0 x1,xs=[x0,x1]:=by
  match xs,hxs with
  |[x0,x1],_=>exact⟨x0,x1,rfl⟩
 have h0:=hf 0 qa rfl
 have h1:=hf 1 qb rfl
 rw[hcs,hqa0,hqac]at h0
 rw[hcs,hqb0,hqbc]at h1
 have h0:DataW.trod enc P W 0 (λ_=>true) true n qa.type [c0]=some x0:=h0
 have h1:DataW.trod enc P W 0 (λ_=>true) true n qb.type [c1]=some x1:=h1
 obtain⟨nm,e0,hx0,hw⟩:=DataW.trod_string hqa h0
 cases e0
 obtain⟨gV,gv,gs,e1,g1,g2,g3,g4,g5⟩:=groups_of ht he hc ha ha0 hac hb hb0 hbc hs hsc h1
 cases e1
 have e:cs0=#[.string nm,c1]:=by
  rw[← Array.toArray_toList (xs:=cs0),hcs]
 subst hx0
 cases hx
 exact⟨nm,c1,gv,gs,_,by rw[e],hw,g1,g2,g3,g4,rfl,g5⟩

def twoF(P:Program)(t:TypeId):Option (TypeId×Nat×TypeId×Nat):=match P.underlying t with
 |some (.struct fs)=>match fs.toList with
  |[a,b]=>some (a.type,a.offset,b.type,b.offset)
  |_=>none
 |_=>none
theorem twoF_of{t t0 t1:TypeId}{o0 o1:Nat}(h:twoF P t=some (t0,o0,t1,o1)):∃a b,P.underlying t=some (.struct #[a,b])∧a.type=t0∧a.offset=o0∧b.type=t1∧b.offset=o1:=by
 unfold twoF at h
 split at h
 ·rename_i fs hu
  split at h
  ·rename_i a b he
   cases h
   exact⟨a,b,by rw[hu,← Array.toArray_toList (xs:=fs),he],rfl,rfl,rfl,rfl⟩
  ·cases h
 ·cases h
theorem open_setting2{r:Reach}{b0:Nat}{q t e s str:TypeId}{v:Value}{d:DataW H}{ps:List MemPlace}(hq:twoF P q=some (str,0,t,1))(hqc:P.cellsOf q=2)(hstr:P.underlying str=some .string)(hsc:P.cellsOf str=1)
  (ht:P.underlying t=some (.slice e))(htc:P.cellsOf t=1)(he:twoF P e=some (str,0,s,1))(hc:P.cellsOf e=2)(hb:P.underlying s=some (.slice str))(hbc:P.cellsOf s=1)(hval:Value.okWide P W r b0 q v)
  (h:DataW.Trod enc P W 0 (λ_=>true) true q v d ps):
  ∃owner gV,∃gv:List (ByteArray×Value),∃gs:List (ByteArray×List ByteArray),∃dg,v=.agg #[.string owner,gV]∧owner.size≤maxLen∧RdlA W gV 2 gs.length (gv.flatMap λg=>[.string g.1,g.2])∧gv.length=gs.length∧
   (∀(i:Nat) a b,gv[i]? =some a→gs[i]? =some b→a.1=b.1∧Rdl W a.2 (b.2.map Value.string))∧(∀g∈gs,g.1.size≤maxLen∧∀u∈g.2,u.size≤maxLen)∧d=.agg [.lit (.string owner.data.toList),dg]∧GrpD gs dg:=by
 obtain⟨qa,qb,h1,rfl,h3,rfl,h5⟩:=twoF_of hq
 obtain⟨a,b,g1,g2,g3,rfl,g5⟩:=twoF_of he
 exact open_setting h1 hqc hstr h3 hsc ht h5 htc g1 hc (by rw[g2];exact hstr) g3 (by rw[g2];exact hsc) hb g5 hbc hstr hsc hval h
end
end Go.Sh
namespace Go.Sh
set_option linter.unusedVariables false
set_option linter.unusedSimpArgs false
open Go
section
variable {α:Type} {g:α→List Value} {sz:Nat}
theorem rw_len(h:∀a,(g a).length=sz):∀L:List α,(L.flatMap g).length=L.length*sz
 |[]=>by simp
 |a::r=>by rw[List.flatMap_cons,List.length_append,h a,rw_len h r,List.length_cons,Nat.succ_mul];omega
theorem rw_drop(h:∀a,(g a).length=sz):∀(L:List α) (i:Nat),(L.flatMap g).drop (i*sz)=(L.drop i).flatMap g
 |[],i=>by simp
 |a::r,0=>by simp
 |a::r,i+1=>by
  rw[List.flatMap_cons,Nat.succ_mul,Nat.add_comm,← List.drop_drop,← h a,List.drop_left,h a,rw_drop h r i]
  rfl
theorem rw_part(h:∀a,(g a).length=sz){L:List α}{i c n:Nat}{a:α}(hL:L[i]? =some a)(hc:c+n≤sz):((L.flatMap g).drop (i*sz+c)).take n=((g a).drop c).take n:=by
 obtain⟨hlt,rfl⟩:=List.getElem?_eq_some_iff.1 hL
 rw[← List.drop_drop,rw_drop h,List.drop_eq_getElem_cons hlt,List.flatMap_cons,List.drop_append_of_le_length (by rw[h];omega),List.take_append_of_le_length (by rw[List.length_drop,h];omega)]
theorem rw_get (h : ∀ a,(g a).length = sz) {L : List α} {i c : Nat} {a : α} (hL : L[i]? = some a) (hc : c < sz) : (L.flatMap g)[i * sz + c]? = (g a)[c]?:=by
 have:=rw_part h hL (show c + 1≤sz by omega)
 have:=congrArg (·[0]?) this
 simp only [List.getElem?_take,List.getElem?_drop,Nat.add_zero] at this
 simpa using this
theorem setCs_app:∀(vs A B:List Value) (c:Nat),c+vs.length≤A.length→setCs (A++B) c vs=setCs A c vs++B
 |[],_,_,_,_=>rfl
 |v::vs,A,B,c,h=>by
  simp only[List.length_cons]at h
  rw[setCs,setCs,List.set_append_left _ _ (by omega)]
  exact setCs_app vs _ _ _ (by rw[List.length_set];omega)
theorem setCs_back:∀(vs A B:List Value) (c:Nat),setCs (A++B) (A.length+c) vs=A++setCs B c vs
 |[],_,_,_=>rfl
 |v::vs,A,B,c=>by
  rw[setCs,setCs,List.set_append_right _ _ (by omega),Nat.add_sub_cancel_left]
  exact setCs_back vs A _ (c+1)
theorem rw_put(h:∀a,(g a).length=sz){a b:α}{vs:List Value}:∀{L:List α} {i c:Nat},L[i]? =some a→c+vs.length≤sz→setCs (g a) c vs=g b→setCs (L.flatMap g) (i*sz+c) vs=(L.set i b).flatMap g
 |[],i,c,hL,_,_=>by simp at hL
 |x::r,0,c,hL,hc,hb=>by
  obtain rfl:x=a:=by simpa using hL
  rw[List.flatMap_cons,Nat.zero_mul,Nat.zero_add,setCs_app _ _ _ _ (by rw[h];exact hc),hb]
  rfl
 |x::r,i+1,c,hL,hc,hb=>by
  have ih:=rw_put h (L:=r) (i:=i) (by simpa using hL) hc hb
  rw[List.flatMap_cons,show(i+1)*sz+c=(g x).length+(i*sz+c) by rw[h,Nat.succ_mul];omega,setCs_back,ih]
  rfl
end
section
variable {α:Type} {g:α→List Value} {sz:Nat} {P:Program} {w0:World} {F:Nat→Prop} {w:World} {l:List As} {v:Value} {T:TypeId} {L:List α}
theorem IxA.rw{kk:IntKind}{n:Int}{k:Value→Prop}(h:∀a,(g a).length=sz)(E:Hs w0 F w l)(hm:slA v T sz (L.flatMap g)∈l)(hz:0<sz)(h0:0≤n)(hn:n.toNat<L.length)(hk:∀a,Elp v (n.toNat*sz) a→k (.pointer (some a))):IxA sz v (.int kk n) k:=
 IxA.sl E hm hz h0 (by rw[rw_len h,Nat.mul_div_cancel _ hz];exact hn) hk
theorem LnL.rw{k:Value→Prop}(h:∀a,(g a).length=sz)(E:Hs w0 F w l)(hm:slA v T sz (L.flatMap g)∈l)(hz:0<sz)(hk:k (.int .i64 (L.length:Int))):LnL v k:=by
 have:=RdS.sl hm hz E
 rw[rw_len h,Nat.mul_div_cancel _ hz]at this
 exact this.len hk
theorem Ld.rw{i c:Nat}{a:Addr}{x:α}{y:Value}{k:Value→Prop}(h:∀a,(g a).length=sz)(E:Hs w0 F w l)(hm:slA v T sz (L.flatMap g)∈l)(hp:Elp v (i*sz+c) a)(hL:L[i]? =some x)(hc:c<sz)(hy:(g x)[c]? =some y)(hk:k y):Ld (.pointer (some a)) w k:=
 Ld.sl E hm hp (by rw[rw_get h hL hc];exact hy) hk
theorem LdA.rw{i c n:Nat}{a:Addr}{x:α}{ds:List Value}{k:Value→Prop}(h:∀a,(g a).length=sz)(E:Hs w0 F w l)(hm:slA v T sz (L.flatMap g)∈l)(hp:Elp v (i*sz+c) a)(hL:L[i]? =some x)(hc:c+n≤sz)(hd:((g x).drop c).take n=ds)(hn:ds.length=n)(hk:k (.agg ds.toArray)):LdA P n (.pointer (some a)) w k:=by
 refine LdA.sl E hm hp (by rw[rw_part h hL hc];exact hd) hn ?_ hk
 have:=(List.getElem?_eq_some_iff.1 hL).1
 rw[rw_len h]
 have:(i+1)*sz≤L.length*sz:=Nat.mul_le_mul_right _ this
 rw[Nat.succ_mul]at this
 omega
theorem StA.rw{j i c n:Nat}{a:Addr}{x y:α}{vs:List Value}{k:World→Prop}(h:∀a,(g a).length=sz)(E:Hs w0 F w l)(hm:l[j]? =some (slA v T sz (L.flatMap g)))(hp:Elp v (i*sz+c) a)(hL:L[i]? =some x)(hn:vs.length=n)(hc:c+n≤sz)(hv:vs.all scalV=true)(hy:setCs (g x) c vs=g y)
  (hk:∀w',Hs w0 F w' (l.set j (slA v T sz ((L.set i y).flatMap g)))→k w'):St P n (.pointer (some a)) (.agg vs.toArray) w k:=by
 have hlt:=(List.getElem?_eq_some_iff.1 hL).1
 have:(i+1)*sz≤L.length*sz:=Nat.mul_le_mul_right _ hlt
 rw[Nat.succ_mul]at this
 refine StA.sl E hm hp hn (by rw[rw_len h];omega) hv ?_
 rw[rw_put h hL (by rw[hn];exact hc) hy]
 exact hk
theorem St.rw{j i c:Nat}{a:Addr}{x y:α}{z:Value}{k:World→Prop}(h:∀a,(g a).length=sz)(E:Hs w0 F w l)(hm:l[j]? =some (slA v T sz (L.flatMap g)))(hp:Elp v (i*sz+c) a)(hL:L[i]? =some x)(hc:c<sz)(hv:scalV z=true)(hy:(g x).set c z=g y)
  (hk:∀w',Hs w0 F w' (l.set j (slA v T sz ((L.set i y).flatMap g)))→k w'):St P 1 (.pointer (some a)) z w k:=by
 have hlt:=(List.getElem?_eq_some_iff.1 hL).1
 have h1:(i+1)*sz≤L.length*sz:=Nat.mul_le_mul_right _ hlt
 rw[Nat.succ_mul]at h1
 refine St.sl E hm hp (by rw[rw_len h];omega) hv ?_
 have e:(L.flatMap g).set (i*sz+c) z=(L.set i y).flatMap g:=rw_put (vs:=[z]) h hL (by simp;omega) hy
 rw[e]
 exact hk
end
end Go.Sh
namespace Go.Sh
set_option linter.unusedVariables false
set_option linter.unusedSimpArgs false
open Go Go.ChangeShapes Go.WideShapes
section
variable {P:Program} {H:Type} {enc:TypeId×Value→H} {W:World}

def ftab(P:Program)(t:TypeId):List (TypeId×Nat×Nat):=match P.underlying t with
 |some (.struct fs)=>fs.toList.map λf=>(f.type,f.offset,P.cellsOf f.type)
 |_=>[]
theorem ftab_struct{t:TypeId}{L:List (TypeId×Nat×Nat)}(hL:ftab P t=L)(hne:L≠[]):∃fs,P.underlying t=some (.struct fs)∧L=fs.toList.map λf=>(f.type,f.offset,P.cellsOf f.type):=by
 unfold ftab at hL
 split at hL
 ·rename_i fs h;exact⟨fs,h,hL.symm⟩
 ·exact absurd hL.symm hne
theorem struct_parts {t : TypeId} {L : List (TypeId × Nat × Nat)} (hL : ftab P t = L) (hne : L ≠ []) {fuel : Nat} {cs : List Value} {x : DataW H × List MemPlace} (h : DataW.trod enc P W 0 (fun _=>true) true fuel t cs = some x) :
  ∃ xs : List (DataW H × List MemPlace),∃ n,x.1 = .agg (xs.map (·.1))∧cs.length = P.cellsOf t∧xs.length = L.length∧∀ (i : Nat) T o m,L[i]? = some (T,o,m)→DataW.trod enc P W 0 (fun _=>true) true n T ((cs.drop o).take m) = xs[i]?:=by
 obtain ⟨fs,hu,rfl⟩:=ftab_struct hL hne
 obtain ⟨xs,n,-,rfl,hlen,hxs,hf⟩:=DataW.trod_struct hu h
 refine ⟨xs,n,rfl,hlen,by simpa using hxs,fun i T o m hi=>?_⟩
 rw [List.getElem?_map] at hi
 obtain ⟨f,hf1,hf2⟩:=Option.map_eq_some_iff.1 hi
 cases hf2
 exact hf i f (by simpa using hf1)
theorem rdl_structs0{d:Nat}{t e:TypeId}{ks:List LK}{v:Value}{fuel:Nat}{x:DataW H×List MemPlace}(ht:P.underlying t=some (.slice e))(hl:lv P d e=some ks)(hc:lvC P d e=true)(hpos:0<ks.length)
  (hf:DataW.trod enc P W 0 (λ_=>true) true fuel t [v]=some x):∃rows:List (List Value),RdlA W v ks.length rows.length rows.flatten∧∀r∈rows,fitWL ks r:=by
 have hsz:=lvC_cells hc hl
 rcases DataW.trod_slice ht hf with⟨hcs,-⟩|⟨a,len,cap,elems,rest,n,-,hcs,-,-,hle,hmx,hlen,hel,-,-⟩
 ·have:v=.slice none 0 0:=by simpa using hcs
  rw[this]
  exact⟨[],⟨none,0,rfl,Nat.le_refl _,Nat.zero_le _,by simp,.inl rfl⟩,λ_ h=>by cases h⟩
 ·have:v=.slice (some a) len cap:=by simpa using hcs
  rw[this]
  rw[hsz]at hel
  have each:∀i,∃r:List Value,i<len→fitWL ks r∧r.length=ks.length∧∀k,k<ks.length→W.cell? (a.add (i*ks.length+k))=r[k]?:=by
   intro i
   by_cases hi:i<len
   ·have h1:=hel i hi
    rw[List.getElem?_eq_getElem (show i<elems.length by omega),Option.bind_eq_some_iff]at h1
    obtain⟨r,hr,hx⟩:=h1
    obtain⟨-,h2,h3⟩:=World.cells?_some hr
    refine⟨r,λ_=>⟨trod_lv d hl hc _ _ _ hx,h2,λk hk=>?_⟩⟩
    have:=h3 k hk
    have e:(a.add (i*ks.length)).add k=a.add (i*ks.length+k):=by
     generalize i*ks.length=m
     unfold Addr.add
     by_cases h1:m=0<;>by_cases h2:k=0<;>simp[h1,h2,Nat.add_assoc]
    rwa [e]at this
   ·exact⟨[],λh=>absurd h hi⟩
  obtain⟨f,hfm⟩:∃f:Nat→List Value,∀i,i<len→fitWL ks (f i)∧(f i).length=ks.length∧∀k,k<ks.length→W.cell? (a.add (i*ks.length+k))=(f i)[k]?:=⟨λi=>(each i).choose,λi hi=>(each i).choose_spec hi⟩
  have hrl:∀r∈(List.range len).map f,r.length=ks.length:=by
   intro r hr
   obtain⟨i,hi,rfl⟩:=List.mem_map.1 hr
   exact(hfm i (List.mem_range.1 hi)).2.1
  refine⟨(List.range len).map f,⟨some a,cap,by simp,by simpa using hle,by simpa using Nat.le_trans hle hmx,flat_len hrl,?_⟩,λr hr=>?_⟩
  ·by_cases h0:len=0
   ·left;subst h0;rfl
   right
   have hc0:=(hfm 0 (by omega)).2.2 0 hpos
   have hl0:=(hfm 0 (by omega)).2.1
   rw[List.getElem?_eq_getElem (show 0<(f 0).length by omega)]at hc0
   obtain⟨ea,hb⟩:=spot_none hc0
   have e0:a.add (0*ks.length+0)=a:=by cases a;simp[Addr.add]
   rw[e0]at ea hb
   refine⟨a.block,a.off,by rw[← ea],hb,λj x hx=>?_⟩
   obtain⟨i,k,r,h1,h2,h3,h4⟩:=flat_get hrl hx
   rw[List.getElem?_map]at h1
   obtain⟨i',hi',rfl⟩:=Option.map_eq_some_iff.1 h1
   have hi2:=(List.getElem?_eq_some_iff.1 hi').1
   rw[List.length_range]at hi2
   have h5:i'=i:=by
    rw[List.getElem?_range (by omega)]at hi'
    exact(Option.some.inj hi').symm
   subst h5
   have:=(hfm i' hi2).2.2 k h2
   rw[h4,← h3,ea,add_mk]at this
   exact this
  ·obtain⟨i,hi,rfl⟩:=List.mem_map.1 hr
   exact(hfm i (List.mem_range.1 hi)).1
end
end Go.Sh
namespace Go.Sh
set_option linter.unusedVariables false
set_option linter.unusedSimpArgs false
open Go

structure RowS where
 v:Value
 T:TypeId
 sz:Nat
 xs:List Value
def RowS.as(r:RowS):As:=slA r.v r.T r.sz r.xs
def PoolS(D:List RowS):As:=star (D.map RowS.as)

def RdyS(D:List RowS)(T:TypeId)(sz:Nat)(v:Value)(xs:List Value):Prop:=(xs=[]∧∃a c,v=.slice a 0 c)∨(⟨v,T,sz,xs⟩:RowS)∈D
section
variable {P:Program} {w0:World} {F:Nat→Prop} {w:World} {l r:List As}
theorem RdyS.mono{D D':List RowS}{T:TypeId}{sz:Nat}{v:Value}{xs:List Value}(h:RdyS D T sz v xs)(hs:∀x,x∈D→x∈D'):RdyS D' T sz v xs:=h.imp id (hs _)
theorem RdyS.read{D:List RowS}{T:TypeId}{sz n:Nat}{v:Value}{xs:List Value}(h:RdyS D T sz v xs)(hn:xs.length=n*sz)(hz:0<sz)(E:Hs w0 F w l)(hp:PoolS D∈l):RdS w0 F l sz n v xs:=by
 rcases h with⟨rfl,a,c,rfl⟩|hx
 ·obtain rfl:n=0:=by
   rcases Nat.mul_eq_zero.1 hn.symm with h|h
   ·exact h
   ·omega
  exact⟨a,c,rfl,Nat.zero_le _,by simp,.inl rfl⟩
 obtain⟨r1,h1⟩:=split_perm hp
 obtain⟨r2,h2⟩:=split_perm (List.mem_map.2 ⟨_,hx,rfl⟩:RowS.as ⟨v,T,sz,xs⟩∈D.map RowS.as)
 have key:∀w,Hs w0 F w l→Hs w0 F w (slA v T sz xs::(r2++r1)):=λw E=>(E.perm h1).unstar.perm (h2.append_right r1)
 have:=RdS.weaken (RdS.sl (w:=w) (l:=slA v T sz xs::(r2++r1)) (sz:=sz) (T:=T) List.mem_cons_self hz (key w E)) key
 rwa [hn,Nat.mul_div_cancel _ hz]at this
end
end Go.Sh
namespace Go.Sh
set_option linter.unusedVariables false
set_option linter.unusedSimpArgs false
open Go
section
variable {P:Program} {w0:World} {F:Nat→Prop} {w:World} {l:List As}
end
end Go.Sh
namespace Go.Sh
set_option linter.unusedVariables false
set_option linter.unusedSimpArgs false
open Go
section
variable {P:Program} {w0:World} {F:Nat→Prop} {w:World} {l:List As}
theorem append_room{t T ty:TypeId}{i:TypeInfo}{b off len cap n:Nat}{x:Value}{ys:List Value}{w':World}(hT:P.underlying t=some (.slice T))(hi:P.info? T=some i)(hr:len+n≤cap)
  (hlen:(Builtin.lenOf x).run P w=.ok n w)(hf:(Builtin.firstCells i.size n x).run P w=.ok ys.toArray w)(hst:(storeCells ⟨b,off+len*i.size,none⟩ ys).run P w=.ok () w'):
  (Builtin.append_ #[t,t] ty #[.slice (some ⟨b,off,none⟩) len cap,x]).run P w=.ok (.slice (some ⟨b,off,none⟩) (len+n) cap) w':=by
 have hsof:∀w',(sizeOf T).run P w'=.ok i.size w':=λw'=>run_sizeOf' hi w'
 have hadd:(⟨b,off,none⟩:Addr).add (len*i.size)=⟨b,off+len*i.size,none⟩:=add_mk _ _ _
 simp[Builtin.append_,run_underlying hT,hsof,hlen,hr,hf,hadd,hst]
theorem clear_run{t T ty:TypeId}{z:Value}{b off n cap:Nat}{w':World}(hT:P.underlying t=some (.slice T))(hz:zeroK P T=some z)(hn:0<n)
  (hst:(storeCells ⟨b,off,none⟩ (Builtin.zeroCells z.cells n).toList).run P w=.ok () w'):
  (Builtin.clear_ #[t] ty #[.slice (some ⟨b,off,none⟩) n cap]).run P w=.ok (.tuple #[]) w':=by
 obtain⟨m,rfl⟩:∃m,n=m+1:=⟨n-1,by omega⟩
 simp[Builtin.clear_,run_underlying hT,run_zero hz,hst]
theorem bound_run{n m:Nat}{q:BoundsCode}(h:n≤m):(Instr.sliceBound (.int .i64 (n:Int)) m q).run P w=.ok n w:=by
 unfold Instr.sliceBound
 simp[h,asIntOf]
theorem zeroCells_scal{z:Array Value}(h:z.toList.all scalV=true)(n:Nat):(Builtin.zeroCells z n).toList.all scalV=true:=by
 rw[List.all_eq_true]at h ⊢
 intro v hv
 unfold Builtin.zeroCells at hv
 simp only[Array.toList_map,List.mem_map]at hv
 obtain⟨i,hi,rfl⟩:=hv
 have hi2:i<n*z.size:=by simpa using hi
 have hpos:0<z.size:=by
  rcases Nat.eq_zero_or_pos z.size with h0|h0
  ·rw[h0]at hi2;simp at hi2
  ·exact h0
 have hlt:i % z.size<z.size:=Nat.mod_lt _ hpos
 rw[getElem!_pos z _ hlt]
 exact h _ (Array.getElem_mem_toList hlt)

theorem Del.sl {tS T tt : TypeId} {z : Value} {sz by_ i j : Nat} {v : Value} {xs : List Value} {k : Value→World→Prop} (E : Hs w0 F w (slA v T sz xs::l)) (hT : P.underlying tS = some (.slice T)) (hi : el3 P T = some (some z,sz,by_)) (hpos : 0 < sz)
    (hzc : z.cells.size = sz) (hzs : z.cells.toList.all scalV = true) (hij : i < j) (hj : j * sz≤xs.length) (hsc : xs.all scalV = true) (hk : ∀ v' w',Hs w0 F w' (slA v' T sz (xs.take (i * sz)++xs.drop (j * sz))::l)→k v' w') :
    LnL v fun n=>Rd P (Instr.sliceAt tS v (some (.int .i64 (i : Int))) (some (.int .i64 (j : Int))) (some n)) w fun _=>Bi .eql (.int .i64 (i : Int)) (.int .i64 (j : Int)) fun c=>Cnd c (k v w)
      (LnL v fun o=>Dr w fun w5=>Sl sz v none (some (.int .i64 (i : Int))) fun a=>Sl sz v (some (.int .i64 (j : Int))) none fun b=>Ef P (Builtin.append_ #[tS,tS] tS #[a,b]) w5 fun s w9 =>
        LnL s fun m=>Sl sz s (some m) (some o) fun c=>Ef P (Builtin.clear_ #[tS] tt #[c]) w9 fun _ w13=>k s w13):=by
  have hz : zeroK P T = some z:=by
    unfold el3 at hi; unfold zeroK
    cases h : P.info? T with
    | none=>rw [h] at hi; cases hi
    | some q=>rw [h] at hi; simp only [Option.map_some,Option.some.injEq,Prod.mk.injEq] at hi; simp [hi.1]
  obtain ⟨q,hq,hqs⟩ : ∃ q,P.info? T = some q∧q.size = sz:=by
    unfold el3 at hi
    cases h : P.info? T with
    | none=>rw [h] at hi; cases hi
    | some q=>rw [h] at hi; simp only [Option.map_some,Option.some.injEq,Prod.mk.injEq] at hi; exact ⟨q,rfl,hi.2.1⟩
  have hjp : 0 < j * sz:=Nat.mul_pos (by omega) hpos
  rcases (show SliceAt v T sz xs w from E.sat _ List.mem_cons_self).ex with ⟨rfl,rfl⟩ | ⟨b,off,n,cap,pre,sp,fr,rfl,h1,h2,h3,h4,h5,h6⟩
  · simp only [List.length_nil] at hj; omega
  have hjn : j≤n:=by
    rw [h3] at hj
    exact Nat.le_of_mul_le_mul_right hj hpos
  have hcap : j < cap∨j = cap:=by omega
  refine ⟨_,n,cap,rfl,?_⟩
  refine ⟨.slice (if n = i then some ⟨b,off,none⟩ else (some (⟨b,off,none⟩ : Addr)).map (·.add (i * q.size))) (j - i) (n - i),?_,?_⟩
  · unfold Instr.sliceAt
    simp only [Sem.run_bind,run_underlying hT,Result.andThen_ok]
    unfold Instr.slice
    simp only [Sem.run_bind,run_underlying hT,Result.andThen_ok]
    unfold Instr.sliceBounds
    simp only [Sem.run_bind,bound_run (P:=P) h5,Result.andThen_ok,bound_run (P:=P) hjn,bound_run (P:=P) (Nat.le_of_lt hij),Sem.run_pure,run_sizeOf' hq]
  refine Bi.eql (fun h=>absurd h (by omega)) (fun _=>?_)
  refine Cnd.f ?_
  refine ⟨_,n,cap,rfl,?_⟩
  refine Dr.st E fun w5 E5=>?_
  clear h1
  rcases (show SliceAt _ T sz xs w5 from E5.sat _ List.mem_cons_self).ex with ⟨h,_⟩ | ⟨b',off',n',cap',pre,sp,fr,hv,h1,h2,h3',h4,h5',h6⟩
  · cases h
  simp only [Value.slice.injEq,Option.some.injEq,Addr.mk.injEq,and_true] at hv
  obtain ⟨⟨rfl,rfl⟩,rfl,rfl⟩:=hv
  refine ⟨_,n,cap,0,i,rfl,rfl,by simp [bnd],Nat.zero_le _,by omega,?_⟩
  have ea : (if cap = 0 then (some (⟨b,off,none⟩ : Addr)) else (some (⟨b,off,none⟩ : Addr)).map (·.add (0 * sz))) = some ⟨b,off,none⟩:=by
    split
    · rfl
    · simp [add_mk]
  rw [ea]
  refine ⟨_,n,cap,j,n,rfl,by simp [bnd],rfl,hjn,h5,?_⟩
  simp only [Nat.sub_zero]
  have hnsz : n * sz = i * sz + (j - i) * sz + (n - j) * sz:=by rw [← Nat.add_mul,← Nat.add_mul]; congr 1; omega
  have hjsz : j * sz = i * sz + (j - i) * sz:=by rw [← Nat.add_mul]; congr 1; omega
  generalize hA : i * sz = A at *
  generalize hB : (j - i) * sz = B at *
  generalize hC : (n - j) * sz = C at *
  have hBp : 0 < B:=by rw [← hB]; exact Nat.mul_pos (by omega) hpos
  have hys : (xs.drop (j * sz)).length = C:=by rw [List.length_drop,h3']; omega
  -- the append
  obtain ⟨w9,g1,g2,g3⟩:=storeCells_run (P:=P) (b:=b) (T:=T) (fr:=fr) (off + A) (xs.drop (j * sz)) (pre++xs++sp) 0 w5 h1 h6 (by rw [List.length_append,List.length_append]; omega)
    (by rw [List.all_eq_true] at hsc ⊢; exact fun v hv=>hsc v (List.mem_of_mem_drop hv))
  have hfirst : (Builtin.firstCells q.size (n - j) (.slice (if cap = j then (some (⟨b,off,none⟩ : Addr)) else (some (⟨b,off,none⟩ : Addr)).map (·.add (j * sz))) (n - j) (cap - j))).run P w5 = .ok (xs.drop (j * sz)).toArray w5:=by
    rw [hqs]
    by_cases hcj : cap = j
    · have h0 : n - j = 0:=by omega
      have hd : xs.drop (j * sz) = []:=List.length_eq_zero_iff.1 (by rw [hys,← hC,h0]; simp)
      rw [hd,h0,if_pos hcj]
      simp [Builtin.firstCells,loadCells,loadCellsFrom]
    · rw [if_neg hcj]
      simp only [Option.map_some,add_mk]
      refine firstCells_slice h1 (by rw [hys,hC]) fun m u hm=>?_
      rw [List.getElem?_drop] at hm
      have hml : j * sz + m < xs.length:=(List.getElem?_eq_some_iff.1 hm).1
      rw [List.append_assoc,List.getElem?_append_right (by omega),List.getElem?_append_left (by omega),show off + j * sz + m - pre.length = j * sz + m by omega]
      exact hm
  refine ⟨_,w9,append_room hT hq (by omega) (by simp [Builtin.lenOf]) hfirst (by rw [hqs,hA]; exact g1),?_⟩
  rw [Nat.add_zero,← h2,setCs_mid _ _ _ _ _ (by omega),setCs_eq _ _ _ (by omega),hys] at g2
  refine ⟨_,_,_,rfl,?_⟩
  refine ⟨_,_,cap,i + (n - j),n,rfl,by simp [bnd]; omega,by simp [bnd],by omega,h5,?_⟩
  rw [if_neg (by omega)]
  simp only [Option.map_some,add_mk]
  have hnn : n - (i + (n - j)) = j - i:=by omega
  have hmm : (i + (n - j)) * sz = A + C:=by rw [Nat.add_mul,hA,hC]
  rw [hnn,hmm]
  have hzl : (Builtin.zeroCells z.cells (j - i)).toList.length = B:=by rw [Array.length_toList,size_zeroCells,hzc,hB]
  have hfr2 : Free fr (pre++(xs.take A++xs.drop (j * sz)++xs.drop (A + C))++sp).length:=by
    have : (pre++(xs.take A++xs.drop (j * sz)++xs.drop (A + C))++sp).length = (pre++xs++sp).length:=by
      simp only [List.length_append,List.length_take,List.length_drop]
      omega
    rw [this]; exact h6
  obtain ⟨w13,f1,f2,f3⟩:=storeCells_run (P:=P) (b:=b) (T:=T) (fr:=fr) (off + (A + C)) (Builtin.zeroCells z.cells (j - i)).toList _ 0 w9 g2 hfr2 (by
    simp only [List.length_append,List.length_take,List.length_drop,hzl]
    omega) (zeroCells_scal hzs _)
  refine ⟨_,w13,clear_run hT hz (by omega) f1,hk _ _ ?_⟩
  have hAl : (xs.take A++xs.drop (j * sz)).length = A + C:=by rw [List.length_append,hys,List.length_take]; omega
  rw [Nat.add_zero,← h2,setCs_mid _ _ _ _ _ (by rw [List.length_append,hAl,List.length_drop,hzl]; omega),show A + C = (xs.take A++xs.drop (j * sz)).length + 0 by omega,setCs_back,setCs_all _ _ (by rw [hzl,List.length_drop]; omega)] at f2
  have:=E5.set 0 (A:=slA (.slice (some ⟨b,off,none⟩) n cap) T sz xs) (A':=slA (.slice (some ⟨b,off,none⟩) (i + (n - j)) cap) T sz (xs.take A++xs.drop (j * sz))) rfl ((g3.trans f3).mono fun y _ hy=>by rw [hy]; rfl)
    ⟨.inr ⟨b,off,i + (n - j),cap,pre,(Builtin.zeroCells z.cells (j - i)).toList++sp,fr,rfl,by rw [f2]; simp only [List.append_assoc],h2,by rw [hAl,hmm],by
      rw [List.length_append,hAl,List.length_append,hzl]
      rw [List.length_append] at h4
      omega,by omega,by
      have : (pre++(xs.take A++xs.drop (j * sz))++((Builtin.zeroCells z.cells (j - i)).toList++sp)).length = (pre++xs++sp).length:=by
        simp only [List.length_append,hzl] at hAl ⊢
        omega
      rw [this]; exact h6⟩⟩ fun y hy=>.inl hy
  simpa using this

theorem BdS.two{t e:TypeId}{z x y:Value}{by_:Nat}{k:Value→World→Prop}(E:Hs w0 F w l)(h1:P.underlying t=some (.slice e))(hi:el3 P e=some (some z,1,by_))(hx:scalV x=true)(hy:scalV y=true)
  (hk:∀v w',Hs w0 F w' (slA v e 1 [x,y]::l)→k v w'):Ef P (Instr.buildSlice t 2 #[(0,x),(1,y)]) w k:=by
 unfold el3 at hi
 cases h:P.info? e with
 |none=>rw[h]at hi;cases hi
 |some ti=>
  rw[h]at hi
  simp only[Option.map_some,Option.some.injEq,Prod.mk.injEq]at hi
  obtain⟨h2,h3,h4⟩:=hi
  refine BdS.sl (sz:=1) (z:=z) (xs:=[x,y]) E h1 (by unfold sizeK;rw[h];simp[h3]) (by unfold zeroK;rw[h];exact h2) (by omega) (by omega) ?_ rfl hk
  have hc:=cells_scal hx
  have hd:=cells_scal hy
  simp[Instr.fill,hc,hd]
  have:Array.range 2=#[0,1]:=rfl
  rw[this];simp
end
end Go.Sh
namespace Go.Sh
set_option linter.unusedVariables false
set_option linter.unusedSimpArgs false
open Go Go.ChangeShapes Go.WideShapes
section
variable {P:Program} {H:Type} {enc:TypeId×Value→H} {W:World}
end
end Go.Sh