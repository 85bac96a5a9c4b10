/-
 The shallow layer, part 6: memory in pieces. Assertions with their blocks; a state as a list of pieces that lie apart; the laws of loads, stores and new blocks over it.
-/
import Derived.Test.YthapmhhihfedcaaGreatDoorSh5
import Derived.Lib.AppendStr
import Derived.Lib.ConvBytes
import Derived.IntWalk
import Derived.ProofKit
import Derived.OpenShut
import Derived.Carry
import Derived.SliceStrings
import Derived.Deep.Grids
import Derived.Maps.RangeRun
import Derived.LaidEqlPtr
import Derived.Sort.Row
import Derived.Sort.Grow
import Derived.Sort.EncStr
import Derived.Laws.MakeOwn
namespace Go.Sh
set_option linter.unusedVariables false
set_option linter.unusedSimpArgs false
open Go

structure Upd(G:Nat→Prop)(w w':World):Prop where
 size:w.heap.size≤w'.heap.size
 same:∀b,b<w.heap.size→¬G b→w'.heap[b]? =w.heap[b]?
 tape:w'.tape=w.tape
 os:w'.os=w.os
 out:w'.output=w.output
def Emp:Nat→Prop:=λ_=>False
theorem Upd.refl(G:Nat→Prop)(w:World):Upd G w w:=⟨Nat.le_refl _,λ_ _ _=>rfl,rfl,rfl,rfl⟩
theorem Upd.trans{G:Nat→Prop}{a b c:World}(h:Upd G a b)(k:Upd G b c):Upd G a c:=
 ⟨Nat.le_trans h.size k.size,λx hx hg=>(k.same x (Nat.lt_of_lt_of_le hx h.size) hg).trans (h.same x hx hg),k.tape.trans h.tape,k.os.trans h.os,k.out.trans h.out⟩
theorem Upd.mono{G H:Nat→Prop}{w w':World}(h:Upd G w w')(hg:∀b,b<w.heap.size→G b→H b):Upd H w w':=
 ⟨h.size,λb hb hn=>h.same b hb λhh=>hn (hg b hb hh),h.tape,h.os,h.out⟩

theorem Upd.trans'{G H:Nat→Prop}{a b c:World}(h:Upd G a b)(k:Upd H b c)(hg:∀x,x<a.heap.size→H x→G x):Upd G a c:=
 ⟨Nat.le_trans h.size k.size,λx hx hn=>(k.same x (Nat.lt_of_lt_of_le hx h.size) λhh=>hn (hg x hx hh)).trans (h.same x hx hn),k.tape.trans h.tape,k.os.trans h.os,k.out.trans h.out⟩
theorem heap_alloc_old{w:World}{o:Obj}{b:Nat}(h:b<w.heap.size):(w.alloc o).heap[b]? =w.heap[b]?:=by
 show(w.heap.push o)[b]? =_
 rw[Array.getElem?_push,if_neg (by omega)]
theorem heap_alloc_new(w:World)(o:Obj):(w.alloc o).heap[w.heap.size]? =some o:=by
 show(w.heap.push o)[w.heap.size]? =_
 simp
theorem Upd.alloc(w:World)(o:Obj):Upd Emp w (w.alloc o):=
 ⟨by show w.heap.size≤(w.heap.push o).size;simp,λb hb _=>heap_alloc_old hb,rfl,rfl,rfl⟩
theorem Upd.drew(w:World):Upd Emp w w.drew:=⟨Nat.le_refl _,λ_ _ _=>rfl,rfl,rfl,rfl⟩

def World.putOb(w:World)(b:Nat)(o:Obj):World:={w with heap:=w.heap.setIfInBounds b o}
theorem putOb_at{w:World}{b:Nat}{o o':Obj}(h:w.heap[b]? =some o):(World.putOb w b o').heap[b]? =some o':=by
 have:=(Array.getElem?_eq_some_iff.1 h).1
 simp[World.putOb,this]
theorem Upd.putOb {w : World} {b : Nat} (o : Obj) : Upd (· = b) w (World.putOb w b o) :=
  ⟨by simp [World.putOb],fun x _ hn=>by simp only [World.putOb]; rw [Array.getElem?_setIfInBounds_ne (fun h=>hn h.symm)],rfl,rfl,rfl⟩

structure As where
 foot:Nat→Prop
 sat:World→Prop
 lt:∀w,sat w→∀b,foot b→b<w.heap.size
 loc:∀w w':World,(∀b,foot b→w'.heap[b]? =w.heap[b]?)→sat w→sat w'
theorem As.keep{A:As}{G:Nat→Prop}{w w':World}(h:A.sat w)(u:Upd G w w')(hd:∀b,A.foot b→¬G b):A.sat w':=
 A.loc w w' (λb hb=>u.same b (A.lt w h b hb) (hd b hb)) h
def pt (b : Nat) (o : Obj) : As where
  foot:=(· = b)
  sat w:=w.heap[b]? = some o
  lt w h x hx:=by subst hx; exact (Array.getElem?_eq_some_iff.1 h).1
  loc w w' h hs:=by rw [h b rfl]; exact hs

def oc(cs:List Value)(T:TypeId):Obj:=.cells cs.toArray T (0,0)
def ocf(cs:List Value)(T:TypeId)(fr:Nat×Nat):Obj:=.cells cs.toArray T fr

def Free(fr:Nat×Nat)(n:Nat):Prop:=∀o,o<n→¬(fr.1≤o∧o<fr.2)
theorem Free.zero(n:Nat):Free (0,0) n:=λo _ h=>by have:=h.2;simp at this

structure Hs(w0:World)(F:Nat→Prop)(w:World)(l:List As):Prop where
 upd:Upd F w0 w
 sat:∀A,A∈l→A.sat w
 own:∀A,A∈l→∀b,A.foot b→b<w0.heap.size→F b
 apart:l.Pairwise λA B=>∀b,A.foot b→¬B.foot b
theorem Hs.start(w:World)(F:Nat→Prop):Hs w F w []:=⟨Upd.refl _ _,(λ_ h=>by cases h),(λ_ h=>by cases h),List.Pairwise.nil⟩
theorem Hs.lt{w0:World}{F:Nat→Prop}{w:World}{l:List As}(E:Hs w0 F w l){A:As}(hA:A∈l){b:Nat}(hb:A.foot b):b<w.heap.size:=A.lt w (E.sat A hA) b hb

theorem Hs.take{w0:World}{F:Nat→Prop}{w:World}{l:List As}(E:Hs w0 F w l){A:As}(h:A.sat w)(hF:∀b,A.foot b→b<w0.heap.size→F b)(hd:∀B,B∈l→∀b,A.foot b→¬B.foot b):Hs w0 F w (A::l):=
 ⟨E.upd,(λB hB=>(List.mem_cons.1 hB).elim (λe=>e▸h) (E.sat B)),
  (λB hB=>(List.mem_cons.1 hB).elim (λe=>e▸hF) (E.own B)),.cons hd E.apart⟩

theorem Hs.old{w0:World}{F:Nat→Prop}{w:World}{l:List As}(E:Hs w0 F w l){b:Nat}{o:Obj}(h:w0.heap[b]? =some o)(hF:¬F b):w.heap[b]? =some o:=by
 rw[E.upd.same b (Array.getElem?_eq_some_iff.1 h).1 hF];exact h

theorem Hs.grow{w0:World}{F:Nat→Prop}{w w':World}{l:List As}(E:Hs w0 F w l)(u:Upd Emp w w'):Hs w0 F w' l:=
 ⟨E.upd.trans' u λ_ _ h=>h.elim,λA hA=>As.keep (E.sat A hA) u λ_ _ h=>h,E.own,E.apart⟩

theorem Hs.add{w0:World}{F:Nat→Prop}{w w':World}{l:List As}(E:Hs w0 F w l)(u:Upd Emp w w'){A:As}(h:A.sat w')(hn:∀b,A.foot b→w.heap.size≤b):Hs w0 F w' (A::l):=by
 have E':=E.grow u
 refine E'.take h (λb hb hlt=>?_) λB hB b hb hb'=>?_
 ·have:=hn b hb;have:=E.upd.size;omega
 ·have:=hn b hb;have:=E.lt hB hb';omega

theorem Hs.set{w0:World}{F:Nat→Prop}{w w':World}{l:List As}(E:Hs w0 F w l)(i:Nat){A A':As}(hi:l[i]? =some A)(u:Upd A.foot w w')(h:A'.sat w')
  (hf:∀b,A'.foot b→A.foot b∨w.heap.size≤b):Hs w0 F w' (l.set i A'):=by
 have hA:A∈l:=List.mem_of_getElem? hi
 have hap:=E.apart
 have key:∀(l:List As) (i:Nat),l[i]? =some A→(∀B,B∈l→B.sat w)→l.Pairwise (λA B=>∀b,A.foot b→¬B.foot b)→
   (∀B,B∈l.set i A'→B=A'∨(B∈l∧∀b,B.foot b→¬A.foot b))∧(l.set i A').Pairwise (λA B=>∀b,A.foot b→¬B.foot b):=by
  intro l
  induction l with
  |nil=>intro i hi;cases i<;>cases hi
  |cons B r ih=>
   intro i hi hs hp
   cases hp with
   |cons h1 h2=>
    cases i with
    |zero=>
     simp only[List.getElem?_cons_zero,Option.some.injEq]at hi
     subst hi
     simp only[List.set_cons_zero]
     refine⟨λC hC=>?_,.cons (λC hC b hb hb'=>?_) h2⟩
     ·rcases List.mem_cons.1 hC with rfl|hC
      ·exact .inl rfl
      ·exact .inr ⟨List.mem_cons_of_mem _ hC,λb hb hb'=>h1 C hC b hb' hb⟩
     ·rcases hf b hb with h|h
      ·exact h1 C hC b h hb'
      ·have:=C.lt w (hs C (List.mem_cons_of_mem _ hC)) b hb';omega
    |succ i=>
     simp only[List.getElem?_cons_succ]at hi
     have hAr:A∈r:=List.mem_of_getElem? hi
     obtain⟨g1,g2⟩:=ih i hi (λC hC=>hs C (List.mem_cons_of_mem _ hC)) h2
     simp only[List.set_cons_succ]
     refine⟨λC hC=>?_,.cons (λC hC b hb hb'=>?_) g2⟩
     ·rcases List.mem_cons.1 hC with rfl|hC
      ·exact .inr ⟨List.mem_cons_self,λb hb hb'=>h1 A hAr b hb hb'⟩
      ·rcases g1 C hC with h|⟨h,h'⟩
       ·exact .inl h
       ·exact .inr ⟨List.mem_cons_of_mem _ h,h'⟩
     ·rcases g1 C hC with rfl|⟨h,h'⟩
      ·rcases hf b hb' with h|h
       ·exact h1 A hAr b hb h
       ·have:=B.lt w (hs B List.mem_cons_self) b hb;omega
      ·exact h1 C h b hb hb'
 obtain⟨k1,k2⟩:=key l i hi E.sat hap
 refine⟨E.upd.trans' u λb hb hh=>E.own A hA b hh hb,λB hB=>?_,λB hB b hb hlt=>?_,k2⟩
 ·rcases k1 B hB with rfl|⟨hB',hd⟩
  ·exact h
  ·exact As.keep (E.sat B hB') u hd
 ·rcases k1 B hB with rfl|⟨hB',_⟩
  ·rcases hf b hb with hh|hh
   ·exact E.own A hA b hh hlt
   ·have:=E.upd.size;omega
  ·exact E.own B hB' b hb hlt

theorem Hs.drop{w0:World}{F:Nat→Prop}{w:World}{l l':List As}(E:Hs w0 F w l)(h:l'.Sublist l):Hs w0 F w l':=
 ⟨E.upd,λA hA=>E.sat A (h.subset hA),λA hA=>E.own A (h.subset hA),E.apart.sublist h⟩

theorem Hs.turn{w0:World}{F:Nat→Prop}{w:World}{l:List As}(E:Hs w0 F w l)(i:Nat){A A':As}(hi:l[i]? =some A)(h:A.sat w→A'.sat w)(hf:∀b,A'.foot b→A.foot b):Hs w0 F w (l.set i A'):=
 E.set i hi (Upd.refl _ _) (h (E.sat A (List.mem_of_getElem? hi))) λb hb=>.inl (hf b hb)
section
variable {P:Program} {w0:World} {F:Nat→Prop} {w:World} {l:List As}
theorem cell_of{w:World}{b o:Nat}{cs:Array Value}{T:TypeId}{fr:Nat×Nat}{v:Value}(h:w.heap[b]? =some (.cells cs T fr))(hv:cs[o]? =some v):w.cell? ⟨b,o,none⟩=some v:=by
 unfold World.cell?;simp[h,hv]
theorem Ld.cell{b o:Nat}{v:Value}{k:Value→Prop}(h:w.cell? ⟨b,o,none⟩=some v)(hk:k v):Ld (.pointer (some ⟨b,o,none⟩)) w k:=⟨_,v,rfl,h,hk⟩
theorem Ld.ob{b o:Nat}{cs:Array Value}{T:TypeId}{fr:Nat×Nat}{v:Value}{k:Value→Prop}(h:w.heap[b]? =some (.cells cs T fr))(hv:cs[o]? =some v)(hk:k v):
  Ld (.pointer (some ⟨b,o,none⟩)) w k:=⟨_,v,rfl,cell_of h hv,hk⟩
theorem Ld.pt{b o:Nat}{cs:List Value}{T:TypeId}{v:Value}{k:Value→Prop}(E:Hs w0 F w l)(hm:Sh.pt b (oc cs T)∈l)(hv:cs[o]? =some v)(hk:k v):
  Ld (.pointer (some ⟨b,o,none⟩)) w k:=Ld.ob (E.sat _ hm) (by simpa using hv) hk
theorem Ld.old{b o:Nat}{cs:Array Value}{T:TypeId}{fr:Nat×Nat}{v:Value}{k:Value→Prop}(E:Hs w0 F w l)(h:w0.heap[b]? =some (.cells cs T fr))(hF:¬F b)(hv:cs[o]? =some v)(hk:k v):
  Ld (.pointer (some ⟨b,o,none⟩)) w k:=Ld.ob (E.old h hF) hv hk
theorem loadCellsFrom_run{b o:Nat}{cs:Array Value}{T:TypeId}{fr:Nat×Nat}(h:w.heap[b]? =some (.cells cs T fr)):∀(n i:Nat) (acc:Array Value),o+i+n≤cs.size→
  (loadCellsFrom ⟨b,o,none⟩ i n acc).run P w=.ok (acc++cs.extract (o+i) (o+i+n)) w
 |0,i,acc,hn=>by simp[loadCellsFrom];omega
 |n+1,i,acc,hn=>by
  have hlt:o+i<cs.size:=by omega
  have hc:w.cell? ((⟨b,o,none⟩:Addr).add i)=some cs[o+i]:=by
   have:(⟨b,o,none⟩:Addr).add i=⟨b,o+i,none⟩:=by
    unfold Addr.add;split
    ·rename_i h0;subst h0;rfl
    ·rfl
   rw[this];exact cell_of h (Array.getElem?_eq_getElem hlt)
  simp only[loadCellsFrom,Sem.run_bind,run_load_cell hc,Result.andThen_ok]
  rw[loadCellsFrom_run h n (i+1) _ (by omega)]
  congr 1
  apply Array.ext'
  simp only[Array.toList_append,Array.toList_push,Array.toList_extract,List.append_assoc]
  congr 1
  rw[List.extract_eq_take_drop,List.extract_eq_take_drop]
  have e1:o+i+(n+1)-(o+i)=n+1:=by omega
  have e2:o+(i+1)+n-(o+(i+1))=n:=by omega
  rw[e1,e2]
  have hd:List.drop (o+i) cs.toList=cs[o+i]::List.drop (o+(i+1)) cs.toList:=by
   rw[List.drop_eq_getElem_cons (by simpa using hlt)]
   simp[Nat.add_assoc]
  rw[hd]
  simp
theorem LdA.ob{n b o:Nat}{cs:Array Value}{T:TypeId}{fr:Nat×Nat}{k:Value→Prop}(h:w.heap[b]? =some (.cells cs T fr))(hn:o+n≤cs.size)(hk:k (.agg (cs.extract o (o+n)))):
  LdA P n (.pointer (some ⟨b,o,none⟩)) w k:=by
 refine⟨_,_,rfl,?_,hk⟩
 have:=loadCellsFrom_run (P:=P) h n 0 #[] (by omega)
 unfold loadCells
 rw[this];simp
theorem LdA.pt{n b o:Nat}{cs:List Value}{T:TypeId}{k:Value→Prop}(E:Hs w0 F w l)(hm:Sh.pt b (oc cs T)∈l){ds:List Value}(hds:(cs.drop o).take n=ds)(hn:ds.length=n)(hk:k (.agg ds.toArray)):
  LdA P n (.pointer (some ⟨b,o,none⟩)) w k:=by
 have hle:n≤(cs.drop o).length:=by rw[← hn,← hds];simp;omega
 simp only[List.length_drop]at hle
 by_cases hz:n=0
 ·subst hz
  refine⟨_,#[],rfl,rfl,?_⟩
  have:ds=[]:=List.length_eq_zero_iff.1 hn
  subst this;exact hk
 ·refine LdA.ob (E.sat _ hm) (by simp;omega) ?_
  have:cs.toArray.extract o (o+n)=ds.toArray:=by
   apply Array.ext'
   simp only[Array.toList_extract,List.extract_eq_take_drop]
   have:o+n-o=n:=by omega
   rw[this,← hds]
  rw[this];exact hk
def scalV:Value→Bool
 | .agg _| .tuple _=>false
 |_=>true
theorem cells_scal{v:Value}(h:scalV v=true):v.cells=#[v]:=by cases v<;>first|rfl|cases h
theorem run_store_cell{w:World}{b o:Nat}{cs:Array Value}{T:TypeId}{fr:Nat×Nat}{v:Value}(h:w.heap[b]? =some (.cells cs T fr))(ho:o<cs.size)(hfr:¬(fr.1≤o∧o<fr.2))(hv:scalV v=true):
  (store ⟨b,o,none⟩ v).run P w=.ok () (World.putOb w b (.cells (cs.setIfInBounds o v) T fr)):=by
 have hc:w.cell? ⟨b,o,none⟩=some cs[o]:=cell_of h (Array.getElem?_eq_getElem ho)
 have hf:w.frozen? ⟨b,o,none⟩=false:=by
  unfold World.frozen?
  simp only[h]
  rw[Bool.and_eq_false_iff]
  by_cases h1:fr.1≤o
  ·right;simp;omega
  ·left;simp;omega
 have hs:w.setCell ⟨b,o,none⟩ v=World.putOb w b (.cells (cs.setIfInBounds o v) T fr):=by
  unfold World.setCell World.putOb
  have hlt:=(Array.getElem?_eq_some_iff.1 h).1
  congr 1
  apply Array.ext_getElem?
  intro j
  rw[Array.getElem?_modify,Array.getElem?_setIfInBounds]
  by_cases hj:b=j
  ·subst hj
   have h':w.heap[b]=.cells cs T fr:=(Array.getElem?_eq_some_iff.1 h).2
   simp[hlt,h']
  ·simp[hj]
 unfold store
 cases v<;>simp only[Sem.run,hc,hf]<;>first|(rw[hs];rfl)|cases hv
theorem St.pt{b o:Nat}{cs:List Value}{T:TypeId}{v:Value}{k:World→Prop}(E:Hs w0 F w l)(i:Nat)(hm:l[i]? =some (Sh.pt b (oc cs T)))(ho:o<cs.length)(hv:scalV v=true)
  (hk:∀w',Hs w0 F w' (l.set i (Sh.pt b (oc (cs.set o v) T)))→k w'):St P 1 (.pointer (some ⟨b,o,none⟩)) v w k:=by
 have hsat:=E.sat _ (List.mem_of_getElem? hm)
 have hr:=run_store_cell (P:=P) (v:=v) (o:=o) (fr:=(0,0)) hsat (by simpa using ho) (by simp) hv
 refine⟨⟨b,o,none⟩,World.putOb w b (.cells (cs.toArray.setIfInBounds o v) T (0,0)),rfl,by rw[cells_scal hv];rfl,?_,hk _ ?_⟩
 ·rw[cells_scal hv]
  show(storeCells ⟨b,o,none⟩ [v]).run P w=_
  simp only[storeCells,Sem.run_bind]
  have:(⟨b,o,none⟩:Addr).add 0=⟨b,o,none⟩:=rfl
  rw[this,hr]
  rfl
 ·refine E.set i hm (Upd.putOb _) ?_ λx hx=>.inl hx
  have:=putOb_at (o':=Obj.cells (cs.toArray.setIfInBounds o v) T (0,0)) hsat
  show(World.putOb w b _).heap[b]? =some (oc (cs.set o v) T)
  rw[this];simp[oc]

def setCs:List Value→Nat→List Value→List Value
 |cs,_,[]=>cs
 |cs,o,v::vs=>setCs (cs.set o v) (o+1) vs
theorem setCs_length:∀(vs cs:List Value) (o:Nat),(setCs cs o vs).length=cs.length
 |[],_,_=>rfl
 |_::vs,cs,o=>by rw[setCs,setCs_length vs];simp
theorem storeCells_run {b : Nat} {T : TypeId} {fr : Nat × Nat} (a : Nat) : ∀ (vs : List Value) (cs : List Value) (i : Nat) (w : World),w.heap[b]? = some (ocf cs T fr)→Free fr cs.length→a + i + vs.length≤cs.length→vs.all scalV = true →
    ∃ w',(storeCells ⟨b,a,none⟩ vs i).run P w = .ok () w'∧w'.heap[b]? = some (ocf (setCs cs (a + i) vs) T fr)∧Upd (· = b) w w'
  | [],cs,i,w,h,_,_,_=>⟨w,rfl,h,Upd.refl _ _⟩
  | v::vs,cs,i,w,h,hfr,hl,hv=>by
    simp only [List.all_cons,Bool.and_eq_true] at hv
    simp only [List.length_cons] at hl
    have hr:=run_store_cell (P:=P) (v:=v) (o:=a + i) (fr:=fr) h (by simp; omega) (hfr _ (by omega)) hv.1
    have hat : (World.putOb w b (.cells (cs.toArray.setIfInBounds (a + i) v) T fr)).heap[b]? = some (ocf (cs.set (a + i) v) T fr):=by
      rw [putOb_at h]; simp [ocf]
    obtain ⟨w',h1,h2,h3⟩:=storeCells_run a vs (cs.set (a + i) v) (i + 1) _ hat (by simpa using hfr) (by simp; omega) hv.2
    refine ⟨w',?_,by rw [setCs]; exact h2,(Upd.putOb _).trans h3⟩
    have hadd : (⟨b,a,none⟩ : Addr).add i = ⟨b,a + i,none⟩:=by
      unfold Addr.add; split
      · rename_i h0; subst h0; rfl
      · rfl
    simp only [storeCells,Sem.run_bind,hadd,hr,Result.andThen_ok]
    exact h1
theorem StA.pt{b o n:Nat}{cs:List Value}{T:TypeId}{vs:List Value}{k:World→Prop}(E:Hs w0 F w l)(i:Nat)(hm:l[i]? =some (Sh.pt b (oc cs T)))(hn:vs.length=n)(ho:o+n≤cs.length)
  (hv:vs.all scalV=true)(hk:∀w',Hs w0 F w' (l.set i (Sh.pt b (oc (setCs cs o vs) T)))→k w'):St P n (.pointer (some ⟨b,o,none⟩)) (.agg vs.toArray) w k:=by
 have hsat:=E.sat _ (List.mem_of_getElem? hm)
 obtain⟨w',h1,h2,h3⟩:=storeCells_run (P:=P) (b:=b) (T:=T) (fr:=(0,0)) o vs cs 0 w hsat (Free.zero _) (by omega) hv
 exact⟨⟨b,o,none⟩,w',rfl,by simpa[Value.cells] using hn,by simpa[Value.cells] using h1,hk _ (E.set i hm h3 h2 λx hx=>.inl hx)⟩
theorem Al.pt{t:TypeId}{cs:List Value}{k:Value→World→Prop}(E:Hs w0 F w l)
  (hk:∀b w',w0.heap.size≤b→Hs w0 F w' (Sh.pt b (oc cs t)::l)→k (.pointer (some ⟨b,0,none⟩)) w'):Al t cs.toArray w k:=by
 refine hk _ _ E.upd.size (E.add (Upd.alloc w _) ?_ λx hx=>by cases hx;exact Nat.le_refl _)
 show(w.alloc _).heap[w.heap.size]? =_
 rw[heap_alloc_new];simp[oc]
end

section
theorem Nc.ptr{a:Addr}{k:Value→Prop}(h:k (.pointer (some a))):Nc (.pointer (some a)) k:=⟨rfl,h⟩
theorem Fa.ptr{off b o:Nat}{k:Value→Prop}(h:k (.pointer (some ⟨b,o+off,none⟩))):Fa off (.pointer (some ⟨b,o,none⟩)) k:=by
 refine⟨_,rfl,?_⟩
 have:(⟨b,o,none⟩:Addr).add off=⟨b,o+off,none⟩:=by
  unfold Addr.add;split
  ·rename_i h0;subst h0;rfl
  ·rfl
 rw[this];exact h
theorem Pk.mk{b:Bool}{x y:Value}{k:Value→Prop}(h:k (if b then x else y)):Pk (.bool b) x y k:=⟨b,rfl,h⟩
theorem Ex.mk{vs:Array Value}{i:Nat}{v:Value}{k:Value→Prop}(hv:vs[i]? =some v)(h:k v):Ex (.tuple vs) i k:=⟨vs,v,rfl,hv,h⟩
theorem Cnd.t{A B:Prop}(h:A):Cnd (.bool true) A B:=.inl ⟨rfl,h⟩
theorem Cnd.f{A B:Prop}(h:B):Cnd (.bool false) A B:=.inr ⟨rfl,h⟩
theorem Cnd.mk{b:Bool}{A B:Prop}(ht:b=true→A)(hf:b=false→B):Cnd (.bool b) A B:=by
 cases b
 ·exact .inr ⟨rfl,hf rfl⟩
 ·exact .inl ⟨rfl,ht rfl⟩
theorem Gd.t{op:(Value→World→Prop)→Prop}{w:World}{k:Value→World→Prop}(b:Bool)(h:op k):Gd (.bool b) b op w k:=.inl ⟨rfl,h⟩
theorem Gd.f{op:(Value→World→Prop)→Prop}{w:World}{k:Value→World→Prop}{b c:Bool}(hbc:b≠c)(h:k undef w):Gd (.bool b) c op w k:=.inr ⟨by simp[isB,hbc],h⟩
theorem Gd.mk{op:(Value→World→Prop)→Prop}{w:World}{k:Value→World→Prop}{b c:Bool}(ht:b=c→op k)(hf:b= !c→k undef w):Gd (.bool b) c op w k:=by
 by_cases h:b=c
 ·subst h;exact .inl ⟨rfl,ht rfl⟩
 ·exact .inr ⟨by simp[isB,h],hf (by cases b<;>cases c<;>simp_all)⟩
theorem Bi.mk{op:BinOp}{x y v:Value}{k:Value→Prop}(h:binV op x y=some v)(hk:k v):Bi op x y k:=⟨v,h,hk⟩
theorem Beq.mk{neg a b:Bool}{k:Value→Prop}(h:k (.bool (if neg then !(a == b)else a == b))):Beq neg (.bool a) (.bool b) k:=⟨a,b,rfl,rfl,h⟩
theorem Un.not{b:Bool}{k:Value→Prop}(h:k (.bool !b)):Un .not (.bool b) k:=⟨_,rfl,h⟩
theorem Un.neg{kd:IntKind}{n:Int}{k:Value→Prop}(h:k (.int kd (kd.wrap (0-n)))):Un .neg (.int kd n) k:=⟨_,rfl,h⟩
theorem Cv.mk{kd kk:IntKind}{n:Int}{k:Value→Prop}(h:k (.int kd (kd.wrap n))):Cv kd (.int kk n) k:=⟨kk,n,rfl,h⟩
theorem StrC.mk{s:ByteArray}{k:Value→Prop}(h:k (.string s)):StrC (.string s) k:=⟨s,rfl,h⟩
theorem LnS.mk{s:ByteArray}{k:Value→Prop}(h:k (.int .i64 s.size)):LnS (.string s) k:=⟨s,rfl,h⟩
theorem LnL.mk{a:Option Addr}{n c:Nat}{k:Value→Prop}(h:k (.int .i64 n)):LnL (.slice a n c) k:=⟨a,n,c,rfl,h⟩
theorem Cp.mk{a:Option Addr}{n c:Nat}{k:Value→Prop}(h:k (.int .i64 c)):Cp (.slice a n c) k:=⟨a,n,c,rfl,h⟩
theorem Mx.mk{kk:IntKind}{a b:Int}{k:Value→Prop}(h:k (.int kk (if b>a then b else a))):Mx (.int kk a) (.int kk b) k:=⟨kk,a,b,rfl,rfl,h⟩
theorem Mn.mk{kk:IntKind}{a b:Int}{k:Value→Prop}(h:k (.int kk (if b<a then b else a))):Mn (.int kk a) (.int kk b) k:=⟨kk,a,b,rfl,rfl,h⟩
theorem Fi.mk{off:Nat}{cs:Array Value}{v:Value}{k:Value→Prop}(hv:cs[off]? =some v)(h:k v):Fi off (.agg cs) k:=⟨cs,v,rfl,hv,h⟩
theorem Bd.mk{z:Array Value}{pl:List (Nat×Nat)}{parts:List (Nat×Value)}{cs:Array Value}{k:Value→Prop}(hf:Instr.fill (pl[·]?) z parts=some cs)(h:k (.agg cs)):Bd z pl parts k:=⟨cs,hf,h⟩
theorem Ca.mono{P:Program}{f:FuncId}{args:Array Value}{w:World}{k k':Value→World→Prop}(h:Ca P f args w k)(hk:∀v w',k v w'→k' v w'):Ca P f args w k':=
 Calls.mono h λ_ w' ⟨v,he,hv⟩=>⟨v,he,hk v w' hv⟩
theorem CaV.mk{P:Program}{f:FuncId}{first cap args:Array Value}{w:World}{k:Value→World→Prop}(hb:hasBody P f=true)(h:Ca P f (first++args++cap) w k):CaV P (.func (.func f) first cap) args w k:=
 .inl ⟨f,first,cap,rfl,hb,h⟩
theorem Rd.mk{α:Type}{P:Program}{s:Sem α}{w:World}{k:α→Prop}{v:α}(h:s.run P w=.ok v w)(hk:k v):Rd P s w k:=⟨v,h,hk⟩
theorem Ef.mk{α:Type}{P:Program}{s:Sem α}{w w':World}{k:α→World→Prop}{v:α}(h:s.run P w=.ok v w')(hk:k v w'):Ef P s w k:=⟨v,w',h,hk⟩
end
end Go.Sh
namespace Go.Sh
set_option linter.unusedVariables false
set_option linter.unusedSimpArgs false
open Go

inductive KT where
 |int (k:IntKind)
 |str
 |bool
def KT.ok:KT→Value→Bool
 | .int k,.int k' _=>k == k'
 | .str,.string _=>true
 | .bool,.bool _=>true
 |_,_=>false
def KT.fits(P:Program)(K:TypeId):KT→Bool
 | .int k=>match P.underlying K with|some (.int k')=>k == k'|_=>false
 | .str=>match P.underlying K with|some .string=>true|_=>false
 | .bool=>match P.underlying K with|some .bool=>true|_=>false
def keyEq:Value→Value→Bool
 | .int _ a,.int _ b=>a == b
 | .string a,.string b=>a == b
 | .bool a,.bool b=>a == b
 |_,_=>false
theorem ba_beq(a b:ByteArray):(a == b)=decide (a=b):=by
 cases a with|mk x=>cases b with|mk y=>
 have:(ByteArray.mk x == ByteArray.mk y)=(x == y):=rfl
 rw[this]
 by_cases h:x=y
 ·subst h;simp
 ·simp[h]

abbrev AL:=List (Value×Value)
def aget (M : AL) (key : Value) : Option Value:=(M.find? fun p=>keyEq key p.1).map (·.2)
def aput:AL→Value→Value→AL
 |[],key,v=>[(key,v)]
 |p::r,key,v=>if keyEq key p.1 then(key,v)::r else p::aput r key v
def adel:AL→Value→AL
 |[],_=>[]
 |p::r,key=>if keyEq key p.1 then r else p::adel r key
def prs(es:List MapEntry):AL:=es.map λe=>(e.key,e.val)

structure MapAt (b : Nat) (kt : KT) (M : AL) (w : World) : Prop where
 ex : ∃ es clock,w.heap[b]? = some (.map es clock)∧prs es.toList = M∧(es.toList.map (·.born)).Nodup∧∀ e∈es.toList,e.born < clock
 ok : ∀ p∈M,kt.ok p.1 = true
def mp (b : Nat) (kt : KT) (M : AL) : As where
  foot:=(· = b)
  sat:=MapAt b kt M
  lt w h x hx:=by
    subst hx; obtain ⟨es,clock,h1,_⟩:=h.ex
    exact (Array.getElem?_eq_some_iff.1 h1).1
  loc w w' h hs:=by
    obtain ⟨es,clock,h1,h2⟩:=hs.ex
    exact ⟨⟨es,clock,by rw [h b rfl]; exact h1,h2⟩,hs.ok⟩
theorem sameNow_ok{kt:KT}{P:Program}{K:TypeId}(hf:kt.fits P K=true):∃d,P.underlying K=some d∧∀a b,kt.ok a=true→kt.ok b=true→Instr.sameNow d a b=some (keyEq a b):=by
 cases kt with
 |int k=>
  simp only[KT.fits]at hf
  split at hf
  ·rename_i k' hu
   refine⟨_,hu,λa b ha hb=>?_⟩
   cases a<;>simp only[KT.ok]at ha<;>try cases ha
   cases b<;>simp only[KT.ok]at hb<;>try cases hb
   rename_i k1 n1 k2 n2
   have e1:k=k1:=by simpa using ha
   have e2:k=k2:=by simpa using hb
   subst e1;subst e2
   simp[Instr.sameNow,keyEq]
  ·cases hf
 |str=>
  simp only[KT.fits]at hf
  split at hf
  ·rename_i hu
   refine⟨_,hu,λa b ha hb=>?_⟩
   cases a<;>simp only[KT.ok]at ha<;>try cases ha
   cases b<;>simp only[KT.ok]at hb<;>try cases hb
   rfl
  ·cases hf
 |bool=>
  simp only[KT.fits]at hf
  split at hf
  ·rename_i hu
   refine⟨_,hu,λa b ha hb=>?_⟩
   cases a<;>simp only[KT.ok]at ha<;>try cases ha
   cases b<;>simp only[KT.ok]at hb<;>try cases hb
   rfl
  ·cases hf

def ixOf(key:Value):List MapEntry→Nat→Option (Nat×Value)
 |[],_=>none
 |e::r,i=>if keyEq key e.key then some (i,e.val)else ixOf key r (i+1)
theorem findNow_ok{kt:KT}{d:TypeDesc}(hs:∀a b,kt.ok a=true→kt.ok b=true→Instr.sameNow d a b=some (keyEq a b)){key:Value}(hk:kt.ok key=true):
  ∀(es:List MapEntry) (i:Nat),(∀e∈es,kt.ok e.key=true)→Instr.findNow d key es i=some (ixOf key es i)
 |[],_,_=>rfl
 |e::r,i,h=>by
  simp only[Instr.findNow,hs key e.key hk (h e List.mem_cons_self),ixOf]
  cases hb:keyEq key e.key with
  |true=>rfl
  |false=>simpa using findNow_ok hs hk r (i+1) λx hx=>h x (List.mem_cons_of_mem _ hx)
theorem ixOf_get (key : Value) : ∀ (es : List MapEntry) (i : Nat),(ixOf key es i).map (·.2) = aget (prs es) key
 | [],_=>rfl
 | e::r,i=>by
  simp only [ixOf,prs,aget,List.map_cons,List.find?_cons]
  cases hb : keyEq key e.key with
  | true=>simp
  | false=>simpa [prs,aget] using ixOf_get key r (i + 1)
theorem findKey_run{P:Program}{kt:KT}{K:TypeId}(hf:kt.fits P K=true){key:Value}(hk:kt.ok key=true){es:List MapEntry}(h:∀e∈es,kt.ok e.key=true)(w:World):
  (Instr.findKey K key es).run P w=.ok (ixOf key es 0) w:=by
 obtain⟨d,hu,hs⟩:=sameNow_ok hf
 unfold Instr.findKey
 simp only[Sem.run_bind,run_underlying hu,Result.andThen_ok,findNow_ok hs hk es 0 h]
 rfl
theorem checkKey_run{P:Program}{kt:KT}{K:TypeId}(hf:kt.fits P K=true){key:Value}(hk:kt.ok key=true)(b:Bool)(w:World):
  (Instr.checkKey b 10000 K key).run P w=.ok () w:=by
 show(Instr.checkKey b (9999+1) K key).run P w=.ok () w
 rw[Instr.checkKey]
 cases kt with
 |int k=>
  simp only[KT.fits]at hf
  split at hf
  ·rename_i k' hu
   cases key<;>simp only[KT.ok]at hk<;>try cases hk
   simp only[Sem.run_bind,run_underlying hu,Result.andThen_ok]
   rfl
  ·cases hf
 |str=>
  simp only[KT.fits]at hf
  split at hf
  ·rename_i hu
   cases key<;>simp only[KT.ok]at hk<;>try cases hk
   simp only[Sem.run_bind,run_underlying hu,Result.andThen_ok]
   rfl
  ·cases hf
 |bool=>
  simp only[KT.fits]at hf
  split at hf
  ·rename_i hu
   cases key<;>simp only[KT.ok]at hk<;>try cases hk
   simp only[Sem.run_bind,run_underlying hu,Result.andThen_ok]
   rfl
  ·cases hf
theorem keysOk{kt:KT}{M:AL}{es:List MapEntry}(h:prs es=M)(hok:∀p∈M,kt.ok p.1=true):∀e∈es,kt.ok e.key=true:=by
 intro e he
 exact hok (e.key,e.val) (by rw[← h];exact List.mem_map.2 ⟨e,he,rfl⟩)
theorem run_getObj_map{P:Program}{w:World}{b:Nat}{es:Array MapEntry}{clock:Nat}(h:w.heap[b]? =some (.map es clock)):(getObj b).run P w=.ok (.map es clock) w:=by
 unfold getObj;simp[Sem.run,h]
theorem run_setObj_map{P:Program}{w:World}{b:Nat}{es:Array MapEntry}{clock:Nat}(o:Obj)(h:w.heap[b]? =some (.map es clock)):(setObj b o).run P w=.ok () (World.putOb w b o):=by
 unfold setObj;simp[Sem.run,h,World.putOb]

def zeroK (P : Program) (t : TypeId) : Option Value:=(P.info? t).bind (·.zero)
theorem run_zero{P:Program}{t:TypeId}{z:Value}(h:zeroK P t=some z)(w:World):(zeroValue t).run P w=.ok z w:=by
 unfold zeroK at h
 unfold zeroValue typeInfo
 cases hi:P.info? t with
 |none=>rw[hi]at h;cases h
 |some i=>rw[hi]at h;simp only[Option.bind_some]at h;simp[program,Sem.run,hi,h]
section
variable {P:Program} {w0:World} {F:Nat→Prop} {w:World} {l:List As}
theorem lookup_run{b:Nat}{kt:KT}{M:AL}(h:MapAt b kt M w){T K El:TypeId}{z key:Value}(hT:P.underlying T=some (.map K El))(hf:kt.fits P K=true)(hz:zeroK P El=some z)
  (hk:kt.ok key=true)(ok:Bool):(Instr.lookup T (.map (some b)) key ok).run P w=.ok (if ok then .tuple #[(aget M key).getD z,.bool (aget M key).isSome]else(aget M key).getD z) w:=by
 obtain⟨es,clock,h1,h2,_,_⟩:=h.ex
 unfold Instr.lookup
 simp only[Sem.run_bind,run_underlying hT,Result.andThen_ok,run_getObj_map h1,Sem.run_pure,checkKey_run hf hk,findKey_run hf hk (keysOk h2 h.ok)]
 have hg:=ixOf_get key es.toList 0
 rw[h2]at hg
 cases hi:ixOf key es.toList 0 with
 |none=>
  rw[hi]at hg
  simp only[Option.map_none]at hg
  simp only[Sem.run_bind,run_zero hz,Result.andThen_ok,Sem.run_pure,← hg]
  cases ok<;>rfl
 |some p=>
  obtain⟨i,v⟩:=p
  rw[hi]at hg
  simp only[Option.map_some]at hg
  simp only[Sem.run_pure,Result.andThen_ok,← hg]
  cases ok<;>rfl

theorem Lk.ok{b:Nat}{kt:KT}{M:AL}{T K El:TypeId}{z key:Value}{k:Value→Prop}(E:Hs w0 F w l)(hm:mp b kt M∈l)(hT:P.underlying T=some (.map K El))(hf:kt.fits P K=true)
  (hz:zeroK P El=some z)(hk:kt.ok key=true)(h:k (.tuple #[(aget M key).getD z,.bool (aget M key).isSome])):Rd P (Instr.lookup T (.map (some b)) key true) w k:=
 ⟨_,lookup_run (E.sat _ hm) hT hf hz hk true,h⟩

theorem Lk.one{b:Nat}{kt:KT}{M:AL}{T K El:TypeId}{z key:Value}{k:Value→Prop}(E:Hs w0 F w l)(hm:mp b kt M∈l)(hT:P.underlying T=some (.map K El))(hf:kt.fits P K=true)
  (hz:zeroK P El=some z)(hk:kt.ok key=true)(h:k ((aget M key).getD z)):Rd P (Instr.lookup T (.map (some b)) key false) w k:=
 ⟨_,lookup_run (E.sat _ hm) hT hf hz hk false,h⟩
theorem Lk.nil{T K El:TypeId}{kt:KT}{z key:Value}{k:Value→Prop}(hT:P.underlying T=some (.map K El))(hf:kt.fits P K=true)(hz:zeroK P El=some z)(hk:kt.ok key=true){ok:Bool}
  (h:k (if ok then .tuple #[z,.bool false]else z)):Rd P (Instr.lookup T (.map none) key ok) w k:=by
 refine⟨_,?_,h⟩
 have hc:=findKey_run (es:=[]) hf hk (λ_ h=>by cases h) w
 unfold Instr.lookup
 simp only[Sem.run_bind,run_underlying hT,Result.andThen_ok,Sem.run_pure,checkKey_run hf hk]
 rw[hc]
 simp only[ixOf,Result.andThen_ok,Sem.run_bind,run_zero hz,Sem.run_pure]
theorem len_map_run{b:Nat}{kt:KT}{M:AL}(h:MapAt b kt M w){T K El ty:TypeId}(hT:P.underlying T=some (.map K El)):(Builtin.len_ #[T] ty #[.map (some b)]).run P w=.ok (.int .i64 M.length) w:=by
 obtain⟨es,clock,h1,h2,_,_⟩:=h.ex
 have:M.length=es.size:=by rw[← h2];simp[prs]
 unfold Builtin.len_
 simp[run_underlying hT,run_getObj_map h1,goInt,this]
theorem Len.map{b:Nat}{kt:KT}{M:AL}{T K El ty:TypeId}{k:Value→Prop}(E:Hs w0 F w l)(hm:mp b kt M∈l)(hT:P.underlying T=some (.map K El))(h:k (.int .i64 M.length)):
  Rd P (Builtin.len_ #[T] ty #[.map (some b)]) w k:=⟨_,len_map_run (E.sat _ hm) hT,h⟩
theorem Len.nilmap{T K El ty:TypeId}{k:Value→Prop}(hT:P.underlying T=some (.map K El))(h:k (.int .i64 0)):Rd P (Builtin.len_ #[T] ty #[.map none]) w k:=by
 refine⟨_,?_,h⟩
 unfold Builtin.len_
 simp[run_underlying hT,goInt]
theorem MkM.pt{kt:KT}{k:Value→World→Prop}(E:Hs w0 F w l)(hk:∀b w',w0.heap.size≤b→Hs w0 F w' (mp b kt []::l)→k (.map (some b)) w'):MkM w k:=by
 refine hk _ _ E.upd.size (E.add (Upd.alloc w _) ?_ λx hx=>by cases hx;exact Nat.le_refl _)
 exact⟨⟨#[],0,heap_alloc_new _ _,rfl,List.nodup_nil,λ_ h=>by cases h⟩,λ_ h=>by cases h⟩
theorem aput_ok{kt:KT}{key v:Value}(hk:kt.ok key=true):∀{M:AL},(∀p∈M,kt.ok p.1=true)→∀p∈aput M key v,kt.ok p.1=true
 |[],_,p,hp=>by simp only[aput,List.mem_singleton]at hp;subst hp;exact hk
 |q::r,h,p,hp=>by
  simp only[aput]at hp
  split at hp
  ·rcases List.mem_cons.1 hp with rfl|hp
   ·exact hk
   ·exact h p (List.mem_cons_of_mem _ hp)
  ·rcases List.mem_cons.1 hp with rfl|hp
   ·exact h _ List.mem_cons_self
   ·exact aput_ok hk (λp hp=>h p (List.mem_cons_of_mem _ hp)) p hp
theorem adel_ok{kt:KT}{key:Value}:∀{M:AL},(∀p∈M,kt.ok p.1=true)→∀p∈adel M key,kt.ok p.1=true
 |[],_,p,hp=>by cases hp
 |q::r,h,p,hp=>by
  simp only[adel]at hp
  split at hp
  ·exact h p (List.mem_cons_of_mem _ hp)
  ·rcases List.mem_cons.1 hp with rfl|hp
   ·exact h _ List.mem_cons_self
   ·exact adel_ok (λp hp=>h p (List.mem_cons_of_mem _ hp)) p hp
theorem ixOf_none{key:Value}{v:Value}:∀{es:List MapEntry} {i:Nat},ixOf key es i=none→aput (prs es) key v=prs es++[(key,v)]∧adel (prs es) key=prs es
 |[],_,_=>⟨rfl,rfl⟩
 |e::r,i,h=>by
  simp only[ixOf]at h
  split at h
  ·cases h
  ·rename_i hb
   obtain⟨h1,h2⟩:=ixOf_none (v:=v) h
   constructor
   ·simp only[prs,List.map_cons,aput,hb]
    simpa[prs] using h1
   ·simp only[prs,List.map_cons,adel,hb]
    simpa[prs] using h2
theorem ixOf_some{key v:Value}:∀{es:List MapEntry} {i j:Nat} {u:Value},ixOf key es i=some (j,u)→i≤j∧j-i<es.length∧
  prs (es.modify (j-i) λe=>{e with key,val:=v})=aput (prs es) key v∧prs (es.eraseIdx (j-i))=adel (prs es) key
 |[],_,_,_,h=>by cases h
 |e::r,i,j,u,h=>by
  simp only[ixOf]at h
  split at h
  ·rename_i hb
   simp only[Option.some.injEq,Prod.mk.injEq]at h
   obtain⟨rfl,rfl⟩:=h
   refine⟨Nat.le_refl _,by simp,?_,?_⟩
   ·simp[prs,aput,hb]
   ·simp[prs,adel,hb]
  ·rename_i hb
   obtain⟨h1,h2,h3,h4⟩:=ixOf_some (v:=v) h
   have e1:j-i=(j-(i+1))+1:=by omega
   refine⟨by omega,by simp;omega,?_,?_⟩
   ·rw[e1]
    simp only[List.modify_succ_cons,prs,List.map_cons,aput,hb]
    simpa[prs] using h3
   ·rw[e1]
    simp only[List.eraseIdx_cons_succ,prs,List.map_cons,adel,hb]
    simpa[prs] using h4
theorem keyThat_run{kt:KT}{old new:Value}(h1:kt.ok old=true)(h2:kt.ok new=true)(he:keyEq new old=true)(w:World):(Instr.keyThatStays old new).run P w=.ok new w:=by
 have hb:Instr.sameBits 10000 old new=true:=by
  cases kt with
  |int k=>
   cases old<;>simp only[KT.ok]at h1<;>try cases h1
   cases new<;>simp only[KT.ok]at h2<;>try cases h2
   simp only[keyEq]at he
   simp only[Instr.sameBits,Bool.and_eq_true]
   refine⟨?_,?_⟩
   ·have e1:=eq_of_beq h1;have e2:=eq_of_beq h2;rw[← e1,← e2];simp
   ·rw[eq_of_beq he];simp
  |str=>
   cases old<;>simp only[KT.ok]at h1<;>try cases h1
   cases new<;>simp only[KT.ok]at h2<;>try cases h2
   simp only[keyEq]at he
   simp only[Instr.sameBits]
   rw[ba_beq]at he ⊢
   simp only[decide_eq_true_eq]at he ⊢
   exact he.symm
  |bool=>
   cases old<;>simp only[KT.ok]at h1<;>try cases h1
   cases new<;>simp only[KT.ok]at h2<;>try cases h2
   simp only[keyEq]at he
   simp only[Instr.sameBits]
   rw[eq_of_beq he]
   simp
 unfold Instr.keyThatStays
 rw[hb]
 rfl
theorem ixOf_at{key:Value}:∀{es:List MapEntry} {i j:Nat} {u:Value},ixOf key es i=some (j,u)→∃e,es[j-i]? =some e∧keyEq key e.key=true
 |[],_,_,_,h=>by cases h
 |e::r,i,j,u,h=>by
  simp only[ixOf]at h
  split at h
  ·rename_i hb
   simp only[Option.some.injEq,Prod.mk.injEq]at h
   obtain⟨rfl,rfl⟩:=h
   exact⟨e,by simp,hb⟩
  ·obtain⟨e',h1,h2⟩:=ixOf_at h
   have:=(ixOf_some (v:=u) h).1
   refine⟨e',?_,h2⟩
   have e1:j-i=(j-(i+1))+1:=by omega
   rw[e1];simpa using h1
theorem Mu.mp {i b : Nat} {kt : KT} {M : AL} {T K El : TypeId} {key v : Value} {k : Unit→World→Prop} (E : Hs w0 F w l) (hm : l[i]? = some (mp b kt M)) (hT : P.underlying T = some (.map K El)) (hf : kt.fits P K = true)
  (hk : kt.ok key = true) (h : ∀ w',Hs w0 F w' (l.set i (Sh.mp b kt (aput M key v)))→k () w') : Ef P (Instr.mapUpdate T (.map (some b)) key v) w k:=by
 have hs : MapAt b kt M w:=E.sat _ (List.mem_of_getElem? hm)
 obtain ⟨es,clock,h1,h2,h3,h4⟩:=hs.ex
 have run0 : ∀ o w',(do
   match ← Instr.findKey K key es.toList with
   | some (i,_)=>do
    let key ← Instr.keyThatStays (((es[i]?).map (·.key)).getD key) key
    setObj b (.map (es.modify i fun e=>{ e with key,val:=v }) clock)
   | none=>setObj b (.map (es.push { key,val:=v,born:=clock }) (clock + 1)) : Sem Unit).run P w = .ok o w'→(Instr.mapUpdate T (.map (some b)) key v).run P w = .ok o w':=by
  intro o w' hh
  unfold Instr.mapUpdate
  simp only [Sem.run_bind,run_underlying hT,Result.andThen_ok,run_getObj_map h1,checkKey_run hf hk]
  rw [Sem.run_bind] at hh
  exact hh
 have hfk:=findKey_run hf hk (keysOk h2 hs.ok) w
 cases hi : ixOf key es.toList 0 with
 | none =>
  have e1:=(ixOf_none (v:=v) hi).1
  rw [h2] at e1
  refine ⟨(),World.putOb w b (.map (es.push { key,val:=v,born:=clock }) (clock + 1)),run0 _ _ ?_,h _ (E.set i hm (Upd.putOb _) ?_ fun x hx=>.inl hx)⟩
  ·simp only [Sem.run_bind,hfk,hi,Result.andThen_ok]
   exact run_setObj_map _ h1
  ·refine ⟨⟨_,_,putOb_at h1,?_,?_,?_⟩,aput_ok hk hs.ok⟩
   ·rw [e1,← h2]; simp [prs]
   ·simp only [Array.toList_push,List.map_append,List.map_cons,List.map_nil]
    rw [List.nodup_append]
    refine ⟨h3,by simp,?_⟩
    intro a ha c hc
    simp only [List.mem_singleton] at hc
    subst hc
    obtain ⟨e,he,rfl⟩:=List.mem_map.1 ha
    have:=h4 e he; omega
   ·intro e he
    simp only [Array.toList_push,List.mem_append,List.mem_singleton] at he
    rcases he with he | rfl
    ·have:=h4 e he; omega
    ·simp
 | some p =>
  obtain ⟨j,u⟩:=p
  obtain ⟨_,g2,g3,_⟩:=ixOf_some (v:=v) hi
  obtain ⟨e,g4,g5⟩:=ixOf_at hi
  simp only [Nat.sub_zero] at g2 g3 g4
  rw [h2] at g3
  have hej : es[j]? = some e:=by rw [← Array.getElem?_toList]; exact g4
  have hme : e∈es.toList:=List.mem_of_getElem? g4
  have hmod : (es.modify j fun e=>{ e with key,val:=v }).toList = es.toList.modify j fun e=>{ e with key,val:=v }:=by
   rw [Array.toList_modify]
  refine ⟨(),World.putOb w b (.map (es.modify j fun e=>{ e with key,val:=v }) clock),run0 _ _ ?_,h _ (E.set i hm (Upd.putOb _) ?_ fun x hx=>.inl hx)⟩
  ·simp only [Sem.run_bind,hfk,hi,Result.andThen_ok,hej,Option.map_some,Option.getD_some]
   rw [keyThat_run (keysOk h2 hs.ok e hme) hk g5,Result.andThen_ok]
   exact run_setObj_map _ h1
  ·have hborn : (es.toList.modify j fun e=>{ e with key,val:=v }).map (·.born) = es.toList.map (·.born):=by
    apply List.ext_getElem?
    intro n
    rw [List.getElem?_map,List.getElem?_map,List.getElem?_modify]
    cases es.toList[n]? with
    | none=>simp
    | some x=>by_cases hjn : j = n <;> simp [hjn]
   refine ⟨⟨_,_,putOb_at h1,?_,?_,?_⟩,aput_ok hk hs.ok⟩
   ·rw [hmod]; exact g3
   ·rw [hmod,hborn]; exact h3
   ·intro x hx
    rw [hmod] at hx
    have : x.born∈(es.toList.modify j fun e=>{ e with key,val:=v }).map (·.born):=List.mem_map.2 ⟨x,hx,rfl⟩
    rw [hborn] at this
    obtain ⟨y,hy,hyb⟩:=List.mem_map.1 this
    have:=h4 y hy; omega
theorem Dl.mp{i b:Nat}{kt:KT}{M:AL}{T K El K' ty:TypeId}{key:Value}{k:Value→World→Prop}(E:Hs w0 F w l)(hm:l[i]? =some (Sh.mp b kt M))(hT:P.underlying T=some (.map K El))(hf:kt.fits P K=true)
  (hk:kt.ok key=true)(h:∀w',Hs w0 F w' (l.set i (Sh.mp b kt (adel M key)))→k (.tuple #[]) w'):Ef P (Builtin.delete_ #[T,K'] ty #[.map (some b),key]) w k:=by
 have hs:MapAt b kt M w:=E.sat _ (List.mem_of_getElem? hm)
 obtain⟨es,clock,h1,h2,h3,h4⟩:=hs.ex
 have hfk:=findKey_run hf hk (keysOk h2 hs.ok) w
 have run0:∀w',(do
   match ← Instr.findKey K key es.toList with
   |some (i,_)=>setObj b (.map (es.eraseIdxIfInBounds i) clock)
   |none=>setObj b (.map es clock):Sem Unit).run P w=.ok () w'→(Builtin.delete_ #[T,K'] ty #[.map (some b),key]).run P w=.ok (.tuple #[]) w':=by
  intro w' hh
  unfold Builtin.delete_
  show(do
   let .map keyType _ ← underlying T|stuck "delete: map type expected"
   let .map es clock ← getObj b|stuck "delete: map expected"
   Instr.checkKey es.isEmpty 10000 keyType key
   match ← Instr.findKey keyType key es.toList with
   |some (i,_)=>setObj b (.map (es.eraseIdxIfInBounds i) clock)
   |none=>setObj b (.map es clock)
   pure (.tuple #[]):Sem Value).run P w=_
  simp only[Sem.run_bind,run_underlying hT,Result.andThen_ok,run_getObj_map h1,checkKey_run hf hk]
  rw[Sem.run_bind]at hh
  cases hr:(Instr.findKey K key es.toList).run P w with
  |halt x y=>rw[hr]at hh;cases hh
  |ok x y=>
   rw[hr]at hh
   simp only[Result.andThen_ok]at hh ⊢
   cases x with
   |none=>simp only at hh ⊢;simp only[Sem.run_bind,hh,Result.andThen_ok,Sem.run_pure]
   |some p=>simp only at hh ⊢;simp only[Sem.run_bind,hh,Result.andThen_ok,Sem.run_pure]
 cases hi:ixOf key es.toList 0 with
 |none=>
  have e1:=(ixOf_none (v:=.nilFunc) hi).2
  rw[h2]at e1
  refine⟨_,World.putOb w b (.map es clock),run0 _ ?_,h _ (E.set i hm (Upd.putOb _) ?_ λx hx=>.inl hx)⟩
  ·simp only[Sem.run_bind,hfk,hi,Result.andThen_ok]
   exact run_setObj_map _ h1
  ·exact⟨⟨es,clock,putOb_at h1,by rw[h2,e1],h3,h4⟩,adel_ok hs.ok⟩
 |some p=>
  obtain⟨j,u⟩:=p
  obtain⟨_,g2,_,g3⟩:=ixOf_some (v:=.nilFunc) hi
  simp only[Nat.sub_zero]at g2 g3
  rw[h2]at g3
  have hlt:j<es.size:=by simpa using g2
  have htl:(es.eraseIdxIfInBounds j).toList=es.toList.eraseIdx j:=by
   rw[Array.eraseIdxIfInBounds,dif_pos hlt,Array.toList_eraseIdx]
  refine⟨_,World.putOb w b (.map (es.eraseIdxIfInBounds j) clock),run0 _ ?_,h _ (E.set i hm (Upd.putOb _) ?_ λx hx=>.inl hx)⟩
  ·simp only[Sem.run_bind,hfk,hi,Result.andThen_ok]
   exact run_setObj_map _ h1
  ·refine⟨⟨_,_,putOb_at h1,by rw[htl];exact g3,?_,?_⟩,adel_ok hs.ok⟩
   ·rw[htl];exact h3.sublist ((List.eraseIdx_sublist _ _).map _)
   ·intro e he;rw[htl]at he;exact h4 e ((List.eraseIdx_sublist _ _).subset he)
end
end Go.Sh
namespace Go.Sh
set_option linter.unusedVariables false
set_option linter.unusedSimpArgs false
open Go
def zeroLen:Value→Prop:=λv=>v=.slice none 0 0

structure SliceAt(v:Value)(T:TypeId)(sz:Nat)(xs:List Value)(w:World):Prop where
 ex:(v=.slice none 0 0∧xs=[])∨∃b off len cap pre sp fr,v=.slice (some ⟨b,off,none⟩) len cap∧w.heap[b]? =some (ocf (pre++xs++sp) T fr)∧pre.length=off∧
  xs.length=len*sz∧cap*sz≤(xs++sp).length∧len≤cap∧Free fr (pre++xs++sp).length
def blkOf:Value→Option Nat
 | .slice (some a) _ _=>some a.block
 |_=>none
def slA(v:Value)(T:TypeId)(sz:Nat)(xs:List Value):As where
 foot b:=blkOf v=some b
 sat:=SliceAt v T sz xs
 lt w h b hb:=by
  rcases h.ex with⟨rfl,_⟩|⟨b',off,len,cap,pre,sp,fr,rfl,h1,_⟩
  ·cases hb
  ·simp only[blkOf,Option.some.injEq]at hb;subst hb;exact(Array.getElem?_eq_some_iff.1 h1).1
 loc w w' h hs:=by
  refine⟨?_⟩
  rcases hs.ex with h0|⟨b',off,len,cap,pre,sp,fr,rfl,h1,h2⟩
  ·exact .inl h0
  ·exact .inr ⟨b',off,len,cap,pre,sp,fr,rfl,by rw[h b' rfl];exact h1,h2⟩

structure Src(P:Program)(sz:Nat)(w:World)(x:Value)(n:Nat)(ys:List Value):Prop where
 len:∀w':World,(Builtin.lenOf x).run P w'=.ok n w'
 cells:∀w':World,w'.heap=w.heap→(Builtin.firstCells sz n x).run P w'=.ok ys.toArray w'
 size:ys.length=n*sz
 scal:ys.all scalV=true
section
variable {P:Program} {w0:World} {F:Nat→Prop} {w:World} {l:List As}
theorem cell_add{w:World}{b off j:Nat}{cs:List Value}{T:TypeId}{fr:Nat×Nat}{v:Value}(h:w.heap[b]? =some (ocf cs T fr))(hv:cs[off+j]? =some v):w.cell? ((⟨b,off,none⟩:Addr).add j)=some v:=by
 have:(⟨b,off,none⟩:Addr).add j=⟨b,off+j,none⟩:=by
  unfold Addr.add;split
  ·rename_i h0;subst h0;rfl
  ·rfl
 rw[this];exact cell_of h (by simpa using hv)
theorem firstCells_slice{sz n b off len cap:Nat}{cs ys:List Value}{T:TypeId}{fr:Nat×Nat}{w:World}(h:w.heap[b]? =some (ocf cs T fr))(hy:ys.length=n*sz)(hs:∀j v,ys[j]? =some v→cs[off+j]? =some v):
  (Builtin.firstCells sz n (.slice (some ⟨b,off,none⟩) len cap)).run P w=.ok ys.toArray w:=
 run_firstCells_some w sz n ⟨b,off,none⟩ len cap ys hy λj v hv=>cell_add h (hs j v hv)
theorem Src.slice{v:Value}{T:TypeId}{sz n:Nat}{xs:List Value}(h:SliceAt v T sz xs w)(hn:xs.length=n*sz)(hz:0<sz)(hs:xs.all scalV=true):Src P sz w v n xs:=by
 rcases h.ex with⟨rfl,rfl⟩|⟨b,off,len,cap,pre,sp,fr,rfl,h1,h2,h3,h4,h5,h6⟩
 ·have:n=0:=by
   simp only[List.length_nil]at hn
   rcases Nat.eq_zero_or_pos n with h|h
   ·exact h
   ·have:=Nat.mul_pos h hz;omega
  subst this
  exact⟨λ_=>rfl,λ_ _=>rfl,by simp,rfl⟩
 ·have hlen:len=n:=by
   have:len*sz=n*sz:=h3.symm.trans hn
   exact Nat.eq_of_mul_eq_mul_right hz this
  subst hlen
  refine⟨λ_=>rfl,λw' hw=>firstCells_slice (by rw[hw];exact h1) h3 ?_,h3,hs⟩
  intro j u hj
  have hjl:j<xs.length:=(List.getElem?_eq_some_iff.1 hj).1
  rw[List.append_assoc,List.getElem?_append_right (by omega),List.getElem?_append_left (by omega)]
  have:off+j-pre.length=j:=by omega
  rw[this];exact hj
def bts(s:ByteArray):List Value:=s.data.toList.map λb=>Value.int .u8 b.toNat
theorem Src.str{s:ByteArray}:Src P 1 w (.string s) s.size (bts s):=by
 refine⟨λ_=>rfl,λw' _=>?_,by simp[bts],List.all_eq_true.2 λv hv=>by obtain⟨b,_,rfl⟩:=List.mem_map.1 hv;rfl⟩
 have:=Lib.run_firstCells_string (P:=P) (w:=w') 1 s
 rw[this]
 congr 1

theorem Ap.run{t t2 ty T:TypeId}{i:TypeInfo}{z:Value}{s x:Value}{n:Nat}{sz:Nat}{xs ys:List Value}(hT:P.underlying t=some (.slice T))(hT2:∃d,P.underlying t2=some d∧∀q,d≠ .int q)
  (hi:P.info? T=some i)(hz:i.zero=some z)(hsz:i.size=sz)(hpos:0<sz)(hs:SliceAt s T sz xs w)(hx:Src P sz w x n ys)(hzc:z.cells.size=sz)
  (hb:(xs.length / sz+n)*i.bytes≤140737488355328)(hb2:xs.length / sz+n≤140737488355328):
  ∃s' w',(Builtin.append_ #[t,t2] ty #[s,x]).run P w=.ok s' w'∧SliceAt s' T sz (xs++ys) w'∧Upd (λb=>blkOf s=some b) w w'∧(∀b,blkOf s'=some b→blkOf s=some b∨w.heap.size≤b):=by
 subst hsz
 obtain⟨d2,hd2,hni⟩:=hT2
 have hnotint:(d2 matches .int _)=false:=by cases d2<;>first|rfl|exact absurd rfl (hni _)
 have hsof:∀w',(sizeOf T).run P w'=.ok i.size w':=λw'=>run_sizeOf' hi w'
 have hti:∀w',(typeInfo T).run P w'=.ok i w':=λw'=>by unfold typeInfo;simp[program,Sem.run,hi]
 have hzv:∀w',(zeroValue T).run P w'=.ok z w':=λw'=>by unfold zeroValue;simp[hti,hz]
 -- a new row
 have grow:∀(base:Option Addr) (len cap:Nat),s=.slice base len cap→cap<len+n→xs.length=len*i.size→(∀w',w'.heap=w.heap→(Builtin.firstCells i.size len s).run P w'=.ok xs.toArray w')→
   (len+n)*i.bytes≤140737488355328→len+n≤140737488355328→
   (Builtin.append_ #[t,t2] ty #[s,x]).run P w=.ok (.slice (some ⟨w.heap.size,0,none⟩) (len+n) (grownCap w (len+n) cap T))
    (w.drew.alloc (.cells (xs.toArray++ys.toArray++Builtin.zeroCells z.cells (grownCap w (len+n) cap T-(len+n))) T)):=by
  intro base len cap hse hcap hxl hfc hb hb2
  subst hse
  have hfit:=growslice_fits hcap hb
  have hn:¬(len+n≤cap):=by omega
  have h63:¬(9223372036854775807<((len:Int)+(n:Int))):=by omega
  have h48:¬(281474976710656<Builtin.nextslicecap (len+n) cap*i.bytes):=by omega
  have hfx:=hx.cells w.drew rfl
  have hfo:=hfc w.drew rfl
  simp[Builtin.append_,run_underlying hT,run_underlying hd2,hsof,hti,hzv,hx.len,hnotint,hn,h63,h48,Question.forced,hfx,hfo,newRow,grownCap]
  congr 2
  apply Array.ext'
  simp[List.append_assoc]
 have made:∀(len cap:Nat),xs.length=len*i.size→SliceAt (.slice (some ⟨w.heap.size,0,none⟩) (len+n) (grownCap w (len+n) cap T)) T i.size (xs++ys)
   (w.drew.alloc (.cells (xs.toArray++ys.toArray++Builtin.zeroCells z.cells (grownCap w (len+n) cap T-(len+n))) T)):=by
  intro len cap hxl
  have hge:=grownCap_ge w (len+n) cap T
  refine⟨.inr ⟨w.heap.size,0,len+n,grownCap w (len+n) cap T,[],(Builtin.zeroCells z.cells (grownCap w (len+n) cap T-(len+n))).toList,(0,0),rfl,?_,rfl,?_,?_,hge,Free.zero _⟩⟩
  ·have:=heap_alloc_new w.drew (.cells (xs.toArray++ys.toArray++Builtin.zeroCells z.cells (grownCap w (len+n) cap T-(len+n))) T)
   have hsz:w.drew.heap.size=w.heap.size:=rfl
   rw[hsz]at this
   rw[this]
   simp only[ocf,List.nil_append]
   congr 2
   apply Array.ext'
   simp
  ·rw[List.length_append,hxl,hx.size,Nat.add_mul]
  ·rw[List.length_append,List.length_append,hxl,hx.size,Array.length_toList,size_zeroCells,hzc,← Nat.add_mul,← Nat.add_mul]
   exact Nat.mul_le_mul_right _ (by omega)
 have hupd:∀(G:Nat→Prop) o,Upd G w (w.drew.alloc o):=λG o=>((Upd.drew w).trans (Upd.alloc w.drew o)).mono λ_ _ h=>h.elim
 rcases hs.ex with⟨rfl,rfl⟩|⟨b,off,len,cap,pre,sp,fr,rfl,h1,h2,h3,h4,h5,h6⟩
 ·simp only[List.length_nil,Nat.zero_div,Nat.zero_add]at hb hb2
  by_cases hn0:n=0
  ·subst hn0
   have hys:ys=[]:=List.length_eq_zero_iff.1 (by simpa using hx.size)
   subst hys
   refine⟨.slice none 0 0,w,?_,⟨.inl ⟨rfl,rfl⟩⟩,Upd.refl _ _,λb h=>by cases h⟩
   have hfx:=hx.cells w rfl
   simp[Builtin.append_,run_underlying hT,run_underlying hd2,hsof,hx.len,hnotint,hfx]
  ·have hr:=grow none 0 0 rfl (by omega) (by simp) (λw' _=>run_firstCells_none w' i.size 0 0 0) (by simpa using hb) (by omega)
   exact⟨_,_,hr,made 0 0 (by simp),hupd _ _,λb h=>by simp only[blkOf,Option.some.injEq]at h;right;omega⟩
 ·have hdiv:xs.length / i.size=len:=by rw[h3];exact Nat.mul_div_cancel _ hpos
  rw[hdiv]at hb hb2
  by_cases hroom:len+n≤cap
  ·have hfit:off+len*i.size+ys.length≤(pre++xs++sp).length:=by
    have:(len+n)*i.size≤cap*i.size:=Nat.mul_le_mul_right _ hroom
    rw[Nat.add_mul]at this
    have e4:=h4
    rw[List.length_append]at e4
    rw[List.append_assoc,List.length_append,List.length_append,hx.size]
    omega
   obtain⟨w',hst,hat,hu⟩:=storeCells_run (P:=P) (b:=b) (T:=T) (fr:=fr) (off+len*i.size) ys (pre++xs++sp) 0 w h1 h6 (by omega) hx.scal
   have hadd:(⟨b,off,none⟩:Addr).add (len*i.size)=⟨b,off+len*i.size,none⟩:=by
    unfold Addr.add;split
    ·rename_i h0;rw[h0];rfl
    ·rfl
   refine⟨.slice (some ⟨b,off,none⟩) (len+n) cap,w',?_,⟨.inr ⟨b,off,len+n,cap,pre,sp.drop ys.length,fr,rfl,?_,h2,?_,?_,hroom,?_⟩⟩,hu.mono λx _ hx=>by rw[hx];rfl,λx hx=>.inl hx⟩
   ·have hfx:=hx.cells w rfl
    simp[Builtin.append_,run_underlying hT,run_underlying hd2,hsof,hx.len,hnotint,hroom,hfx,hadd,hst]
   ·rw[hat]
    have hset:∀(vs cs:List Value) (o:Nat),o+vs.length≤cs.length→setCs cs o vs=cs.take o++vs++cs.drop (o+vs.length):=by
     intro vs
     induction vs with
     |nil=>intro cs o _;simp[setCs]
     |cons v vs ih=>
      intro cs o ho
      simp only[List.length_cons]at ho
      rw[setCs,ih _ _ (by simp;omega)]
      have e1:(cs.set o v).take (o+1)=cs.take o++[v]:=by
       rw[List.take_add_one,List.take_set_of_le (Nat.le_refl o)]
       rw[List.getElem?_set_self (by omega)]
       rfl
      have e2:(cs.set o v).drop (o+1+vs.length)=cs.drop (o+(vs.length+1)):=by
       rw[List.drop_set_of_lt (by omega)]
       congr 1;omega
      rw[e1,e2]
      simp
    rw[hset _ _ _ (by omega)]
    congr 2
    have e0:off+len*i.size+0=(pre++xs).length:=by rw[List.length_append,h2,h3];rfl
    rw[e0,List.take_left,List.drop_append]
    have e1:(pre++xs).length+ys.length-(pre++xs).length=ys.length:=by omega
    rw[e1]
    have e2:(pre++xs).drop ((pre++xs).length+ys.length)=[]:=List.drop_eq_nil_of_le (by omega)
    rw[e2]
    simp
   ·rw[List.length_append,h3,hx.size,Nat.add_mul]
   ·rw[List.length_append]at h4
    rw[List.length_append,List.length_append,List.length_drop]
    rw[List.length_append,List.length_append]at hfit
    omega
   ·have:(pre++(xs++ys)++List.drop ys.length sp).length=(pre++xs++sp).length:=by
     simp only[List.length_append,List.length_drop]at hfit ⊢
     omega
    rw[this];exact h6
  ·have hr:=grow (some ⟨b,off,none⟩) len cap rfl (by omega) h3 (λw' hw=>firstCells_slice (by rw[hw];exact h1) h3 λj u hj=>by
    have hjl:j<xs.length:=(List.getElem?_eq_some_iff.1 hj).1
    rw[List.append_assoc,List.getElem?_append_right (by omega),List.getElem?_append_left (by omega)]
    have:off+j-pre.length=j:=by omega
    rw[this];exact hj) hb hb2
   exact⟨_,_,hr,made len cap h3,hupd _ _,λb h=>by simp only[blkOf,Option.some.injEq]at h;right;omega⟩
theorem Ap.sl{i:Nat}{t t2 ty T:TypeId}{ti:TypeInfo}{z:Value}{s x:Value}{n:Nat}{sz:Nat}{xs ys:List Value}{k:Value→World→Prop}(E:Hs w0 F w l)(hm:l[i]? =some (slA s T sz xs))
  (hT:P.underlying t=some (.slice T))(hT2:∃d,P.underlying t2=some d∧∀q,d≠ .int q)
  (hi:P.info? T=some ti)(hz:ti.zero=some z)(hsz:ti.size=sz)(hpos:0<sz)(hx:Src P sz w x n ys)(hzc:z.cells.size=sz)
  (hb:(xs.length / sz+n)*ti.bytes≤140737488355328)(hb2:xs.length / sz+n≤140737488355328)
  (hk:∀s' w',Hs w0 F w' (l.set i (slA s' T sz (xs++ys)))→k s' w'):Ef P (Builtin.append_ #[t,t2] ty #[s,x]) w k:=by
 obtain⟨s',w',h1,h2,h3,h4⟩:=Ap.run (P:=P) (ty:=ty) hT hT2 hi hz hsz hpos (E.sat _ (List.mem_of_getElem? hm)) hx hzc hb hb2
 exact⟨s',w',h1,hk _ _ (E.set i hm h3 h2 h4)⟩

theorem Hs.nilSl(E:Hs w0 F w l)(T:TypeId)(sz:Nat):Hs w0 F w (slA (.slice none 0 0) T sz []::l):=
 E.take (A:=slA (.slice none 0 0) T sz []) ⟨.inl ⟨rfl,rfl⟩⟩ (λb hb=>by cases hb) (λB _ b hb=>by cases hb)
theorem SliceAt.len{v:Value}{T:TypeId}{sz:Nat}{xs:List Value}{w:World}(h:SliceAt v T sz xs w)(hz:0<sz):∃a c,v=.slice a (xs.length / sz) c:=by
 rcases h.ex with⟨rfl,rfl⟩|⟨b,off,len,cap,pre,sp,fr,rfl,h1,h2,h3,h4,h5,h6⟩
 ·exact⟨none,0,by simp⟩
 ·exact⟨_,cap,by rw[h3,Nat.mul_div_cancel _ hz]⟩
theorem LnL.sl{v:Value}{T:TypeId}{sz:Nat}{xs:List Value}{k:Value→Prop}(E:Hs w0 F w l)(hm:slA v T sz xs∈l)(hz:0<sz)(h:k (.int .i64 ((xs.length / sz:Nat):Int))):LnL v k:=by
 obtain⟨a,c,rfl⟩:=(show SliceAt v T sz xs w from E.sat _ hm).len hz
 exact⟨_,_,_,rfl,h⟩

theorem bytes_run{v:Value}{T:TypeId}{s:ByteArray}(h:SliceAt v T 1 (bts s) w):(Conv.bytesToString v).run P w=.ok (.string s) w:=by
 rcases h.ex with⟨rfl,hx⟩|⟨b,off,len,cap,pre,sp,fr,rfl,h1,h2,h3,h4,h5,h6⟩
 ·have:s=ByteArray.empty:=by
   cases s with|mk d=>
   have:d.toList=[]:=by simpa[bts] using hx
   have:d=#[]:=by rw[← Array.toList_eq_nil_iff];exact this
   subst this;rfl
  subst this;rfl
 ·have hlen:len=s.size:=by
   rw[Nat.mul_one]at h3
   rw[← h3];simp[bts]
  have hcs:bts s=(s.data.toList.map λb=>(b.toNat:Int)).map (Value.int .u8):=by simp[bts]
  have hl:(loadCells ⟨b,off,none⟩ len).run P w=.ok ((s.data.toList.map λb=>(b.toNat:Int)).map (Value.int .u8)).toArray w:=by
   have:=firstCells_slice (P:=P) (sz:=1) (n:=len) (b:=b) (off:=off) (len:=len) (cap:=cap) (ys:=bts s) h1 h3 (λj u hj=>by
    have hjl:j<(bts s).length:=(List.getElem?_eq_some_iff.1 hj).1
    rw[List.append_assoc,List.getElem?_append_right (by omega),List.getElem?_append_left (by omega)]
    have:off+j-pre.length=j:=by omega
    rw[this];exact hj)
   rw[← hcs]
   simpa[Builtin.firstCells] using this
  rw[run_bytesToString w _ len cap _ hl]
  congr 1
  congr 1
  have key:∀(l:List UInt8) (r:ByteArray),(l.map λb=>(b.toNat:Int)).foldl (λr n=>r.push (UInt8.ofNat n.toNat)) r=⟨(r.data.toList++l).toArray⟩:=by
   intro l
   induction l with
   |nil=>intro r;simp
   |cons x l ih=>
    intro r
    simp only[List.map_cons,List.foldl_cons]
    rw[ih]
    congr 1
    simp[ByteArray.push]
  rw[key]
  cases s with|mk d=>simp
theorem CvB.sl{v:Value}{T tS tT:TypeId}{s:ByteArray}{k:Value→Prop}(E:Hs w0 F w l)(hm:slA v T 1 (bts s)∈l)(h1:P.underlying tS=some (.slice T))(h2:P.underlying tT=some .string)
  (h3:P.underlying T=some (.int .u8))(h:k (.string s)):Rd P (convert tS tT v) w k:=by
 refine⟨.string s,?_,h⟩
 have hr:=bytes_run (P:=P) (show SliceAt v T 1 (bts s) w from E.sat _ hm)
 obtain⟨a,c,rfl⟩:=(show SliceAt v T 1 (bts s) w from E.sat _ hm).len (by omega)
 unfold convert
 simp only[Sem.run_bind,run_underlying h1,run_underlying h2,Result.andThen_ok]
 cases a with
 |none=>simp only[Sem.run_bind,run_underlying h3,Result.andThen_ok];exact hr
 |some a=>simp only[Sem.run_bind,run_underlying h3,Result.andThen_ok];exact hr
end

def fillL(pl:List (Nat×Nat)):List Value→List (Nat×Value)→Option (List Value)
 |cs,[]=>some cs
 |cs,(i,v)::r=>match pl[i]? with
  |none=>none
  |some (off,size)=>if v.cells.toList.length=size∧off+size≤cs.length then fillL pl (setCs cs off v.cells.toList) r else none
theorem foldl_setCs(off:Nat):∀(vs:List Value) (k:Nat) (cells:Array Value),
  (vs.zipIdx k).foldl (λcs (p:Value×Nat)=>cs.setIfInBounds (off+p.2) p.1) cells=(setCs cells.toList (off+k) vs).toArray
 |[],_,cells=>by simp[setCs]
 |v::vs,k,cells=>by
  simp only[List.zipIdx_cons,List.foldl_cons]
  rw[foldl_setCs off vs (k+1)]
  simp[setCs,Nat.add_assoc]
theorem fillL_fill{pl:List (Nat×Nat)}:∀{parts:List (Nat×Value)} {cs out:List Value},fillL pl cs parts=some out→Instr.fill (pl[·]?) cs.toArray parts=some out.toArray
 |[],cs,out,h=>by simp only[fillL,Option.some.injEq]at h;subst h;rfl
 |(i,v)::r,cs,out,h=>by
  simp only[fillL]at h
  unfold Instr.fill
  cases hp:pl[i]? with
  |none=>rw[hp]at h;cases h
  |some p=>
   obtain⟨off,size⟩:=p
   rw[hp]at h
   simp only at h ⊢
   split at h
   ·rename_i hc
    obtain⟨h1,h2⟩:=hc
    have h1':v.cells.size=size:=by simpa using h1
    have hn:(v.cells.size≠size || decide (off+v.cells.size>cs.toArray.size))=false:=by
     have h3:¬(off+v.cells.size>cs.toArray.size):=by rw[h1'];simp;omega
     simp[h1',h3];omega
    have hf:v.cells.zipIdx.foldl (λcs (p:Value×Nat)=>cs.setIfInBounds (off+p.2) p.1) cs.toArray=(setCs cs off v.cells.toList).toArray:=by
     have:=foldl_setCs off v.cells.toList 0 cs.toArray
     simp only[Nat.add_zero]at this
     rw[← Array.foldl_toList,Array.toList_zipIdx]
     exact this
    rw[if_neg (by rw[hn];simp)]
    show Instr.fill _ (v.cells.zipIdx.foldl (λcs (p:Value×Nat)=>cs.setIfInBounds (off+p.2) p.1) cs.toArray) r=_
    rw[hf]
    exact fillL_fill h
   ·cases h
theorem Bd.mk3{z:List Value}{pl:List (Nat×Nat)}{parts:List (Nat×Value)}{cs:List Value}{k:Value→Prop}(hf:fillL pl z parts=some cs)(h:k (.agg cs.toArray)):Bd z.toArray pl parts k:=
 ⟨_,fillL_fill hf,h⟩
end Go.Sh
namespace Go.Sh
set_option linter.unusedVariables false
set_option linter.unusedSimpArgs false
open Go

def Elp(v:Value)(c:Nat)(a:Addr):Prop:=∃b o n m,v=.slice (some ⟨b,o,none⟩) n m∧a=⟨b,o+c,none⟩
theorem add_mk(b o c:Nat):(⟨b,o,none⟩:Addr).add c=⟨b,o+c,none⟩:=by
 unfold Addr.add;split
 ·rename_i h0;subst h0;rfl
 ·rfl
section
variable {P:Program} {w0:World} {F:Nat→Prop} {w:World} {l:List As}
theorem Fa.el{off c:Nat}{v:Value}{a:Addr}{k:Value→Prop}(hp:Elp v c a)(hk:∀a',Elp v (c+off) a'→k (.pointer (some a'))):Fa off (.pointer (some a)) k:=by
 obtain⟨b,o,n,m,rfl,rfl⟩:=hp
 exact⟨_,rfl,hk _ ⟨b,o,n,m,rfl,by rw[add_mk];simp[Nat.add_assoc]⟩⟩
theorem IxA.sl{v:Value}{T:TypeId}{sz:Nat}{xs:List Value}{kk:IntKind}{n:Int}{k:Value→Prop}(E:Hs w0 F w l)(hm:slA v T sz xs∈l)(hz:0<sz)(h0:0≤n)(hn:n.toNat<xs.length / sz)
  (hk:∀a,Elp v (n.toNat*sz) a→k (.pointer (some a))):IxA sz v (.int kk n) k:=by
 rcases(show SliceAt v T sz xs w from E.sat _ hm).ex with⟨rfl,rfl⟩|⟨b,off,len,cap,pre,sp,fr,rfl,h1,h2,h3,h4,h5,h6⟩
 ·simp at hn
 ·rw[h3,Nat.mul_div_cancel _ hz]at hn
  exact⟨_,len,cap,kk,n,rfl,rfl,h0,by omega,hk _ ⟨b,off,len,cap,rfl,add_mk _ _ _⟩⟩
theorem SliceAt.row{v:Value}{T:TypeId}{sz c:Nat}{xs:List Value}{a:Addr}(h:SliceAt v T sz xs w)(hp:Elp v c a):∃b off pre sp fr,v=v∧a=⟨b,pre.length+c,none⟩∧blkOf v=some b∧w.heap[b]? =some (ocf (pre++xs++sp) T fr)∧off=pre.length∧
  Free fr (pre++xs++sp).length∧∃len cap,v=.slice (some ⟨b,off,none⟩) len cap∧xs.length=len*sz∧cap*sz≤(xs++sp).length∧len≤cap:=by
 obtain⟨b',o',n',m',hv,rfl⟩:=hp
 rcases h.ex with⟨rfl,rfl⟩|⟨b,off,len,cap,pre,sp,fr,rfl,h1,h2,h3,h4,h5,h6⟩
 ·cases hv
 ·simp only[Value.slice.injEq,Option.some.injEq,Addr.mk.injEq]at hv
  obtain⟨⟨rfl,rfl,-⟩,rfl,rfl⟩:=hv
  exact⟨b,off,pre,sp,fr,rfl,by rw[h2],rfl,h1,h2.symm,h6,len,cap,rfl,h3,h4,h5⟩
theorem Ld.sl{v x:Value}{T:TypeId}{sz c:Nat}{xs:List Value}{a:Addr}{k:Value→Prop}(E:Hs w0 F w l)(hm:slA v T sz xs∈l)(hp:Elp v c a)(hx:xs[c]? =some x)(hk:k x):Ld (.pointer (some a)) w k:=by
 obtain⟨b,off,pre,sp,fr,-,rfl,-,h1,-,-,-⟩:=(show SliceAt v T sz xs w from E.sat _ hm).row hp
 refine Ld.ob h1 ?_ hk
 have hc:=(List.getElem?_eq_some_iff.1 hx).1
 simp only[List.getElem?_toArray]
 rw[List.append_assoc,List.getElem?_append_right (by omega),List.getElem?_append_left (by omega)]
 have:pre.length+c-pre.length=c:=by omega
 rw[this];exact hx
theorem LdA.sl{v:Value}{T:TypeId}{sz c n:Nat}{xs ds:List Value}{a:Addr}{k:Value→Prop}(E:Hs w0 F w l)(hm:slA v T sz xs∈l)(hp:Elp v c a)(hds:(xs.drop c).take n=ds)(hn:ds.length=n)(hc:c+n≤xs.length)
  (hk:k (.agg ds.toArray)):LdA P n (.pointer (some a)) w k:=by
 obtain⟨b,off,pre,sp,fr,-,rfl,-,h1,-,-,-⟩:=(show SliceAt v T sz xs w from E.sat _ hm).row hp
 refine LdA.ob h1 (by simp;omega) ?_
 have:(pre++xs++sp).toArray.extract (pre.length+c) (pre.length+c+n)=ds.toArray:=by
  apply Array.ext'
  simp only[Array.toList_extract,List.extract_eq_take_drop]
  have e1:pre.length+c+n-(pre.length+c)=n:=by omega
  rw[e1,List.append_assoc,List.drop_append]
  have e2:pre.length+c-pre.length=c:=by omega
  have e3:pre.drop (pre.length+c)=[]:=List.drop_eq_nil_of_le (by omega)
  rw[e2,e3,List.nil_append,List.drop_append,List.take_append_of_le_length (by simp;omega)]
  exact hds
 rw[this];exact hk
theorem set_mid(pre xs sp:List Value)(c:Nat)(x:Value)(hc:c<xs.length):(pre++xs++sp).set (pre.length+c) x=pre++xs.set c x++sp:=by
 rw[List.append_assoc,List.set_append_right _ _ (by omega),List.set_append_left _ _ (by omega),List.append_assoc]
 have:pre.length+c-pre.length=c:=by omega
 rw[this]
theorem setCs_mid(pre sp:List Value):∀(vs xs:List Value) (c:Nat),c+vs.length≤xs.length→setCs (pre++xs++sp) (pre.length+c) vs=pre++setCs xs c vs++sp
 |[],_,_,_=>rfl
 |v::vs,xs,c,h=>by
  simp only[List.length_cons]at h
  rw[setCs,setCs,set_mid _ _ _ _ _ (by omega)]
  have:=setCs_mid pre sp vs (xs.set c v) (c+1) (by simp;omega)
  rw[← this];rfl
theorem St.sl{i:Nat}{v x:Value}{T:TypeId}{sz c:Nat}{xs:List Value}{a:Addr}{k:World→Prop}(E:Hs w0 F w l)(hm:l[i]? =some (slA v T sz xs))(hp:Elp v c a)(hc:c<xs.length)(hv:scalV x=true)
  (hk:∀w',Hs w0 F w' (l.set i (slA v T sz (xs.set c x)))→k w'):St P 1 (.pointer (some a)) x w k:=by
 obtain⟨b,off,pre,sp,fr,-,rfl,hb,h1,rfl,h6,len,cap,rfl,h3,h4,h5⟩:=(show SliceAt v T sz xs w from E.sat _ (List.mem_of_getElem? hm)).row hp
 have hr:=run_store_cell (P:=P) (v:=x) (o:=pre.length+c) (fr:=fr) h1 (by simp;omega) (h6 _ (by simp;omega)) hv
 refine⟨_,_,rfl,by rw[cells_scal hv];rfl,?_,hk _ (E.set i hm ((Upd.putOb (.cells ((pre++xs++sp).toArray.setIfInBounds (pre.length+c) x) T fr)).mono λy _ hy=>by rw[hy];exact hb) ?_ λy hy=>.inl hy)⟩
 ·rw[cells_scal hv]
  show(storeCells _ [x]).run P w=_
  simp only[storeCells,Sem.run_bind]
  have:(⟨b,pre.length+c,none⟩:Addr).add 0=⟨b,pre.length+c,none⟩:=rfl
  rw[this,hr];rfl
 ·refine⟨.inr ⟨b,pre.length,len,cap,pre,sp,fr,rfl,?_,rfl,by simpa using h3,by simpa using h4,h5,by simpa using h6⟩⟩
  rw[putOb_at h1]
  congr 1
  simp only[ocf]
  congr 1
  apply Array.ext'
  simp only[Array.toList_setIfInBounds]
  exact set_mid _ _ _ _ _ hc
theorem StA.sl{i n:Nat}{v:Value}{T:TypeId}{sz c:Nat}{xs vs:List Value}{a:Addr}{k:World→Prop}(E:Hs w0 F w l)(hm:l[i]? =some (slA v T sz xs))(hp:Elp v c a)(hn:vs.length=n)(hc:c+n≤xs.length)(hv:vs.all scalV=true)
  (hk:∀w',Hs w0 F w' (l.set i (slA v T sz (setCs xs c vs)))→k w'):St P n (.pointer (some a)) (.agg vs.toArray) w k:=by
 obtain⟨b,off,pre,sp,fr,-,rfl,hb,h1,rfl,h6,len,cap,rfl,h3,h4,h5⟩:=(show SliceAt v T sz xs w from E.sat _ (List.mem_of_getElem? hm)).row hp
 obtain⟨w',hr,hat,hu⟩:=storeCells_run (P:=P) (b:=b) (T:=T) (fr:=fr) (pre.length+c) vs (pre++xs++sp) 0 w h1 h6 (by simp;omega) hv
 refine⟨_,w',rfl,by simpa[Value.cells] using hn,by simpa[Value.cells] using hr,hk _ (E.set i hm (hu.mono λy _ hy=>by rw[hy];exact hb) ?_ λy hy=>.inl hy)⟩
 refine⟨.inr ⟨b,pre.length,len,cap,pre,sp,fr,rfl,?_,rfl,by rw[setCs_length];exact h3,by rw[List.length_append,setCs_length,← List.length_append];exact h4,h5,?_⟩⟩
 ·rw[hat,Nat.add_zero,setCs_mid _ _ _ _ _ (by omega)]
 ·have:(pre++setCs xs c vs++sp).length=(pre++xs++sp).length:=by simp[setCs_length]
  rw[this];exact h6

theorem Sl.sl{i:Nat}{v:Value}{T:TypeId}{sz:Nat}{xs:List Value}{lo hi:Option Value}{a b:Nat}{k:Value→Prop}(E:Hs w0 F w l)(hm:l[i]? =some (slA v T sz xs))(hz:0<sz)(hlo:bnd lo 0=some a)
  (hhi:bnd hi (xs.length / sz)=some b)(hab:a≤b)(hb:b≤xs.length / sz)(hk:∀v',Hs w0 F w (l.set i (slA v' T sz ((xs.take (b*sz)).drop (a*sz))))→k v'):Sl sz v lo hi k:=by
 rcases(show SliceAt v T sz xs w from E.sat _ (List.mem_of_getElem? hm)).ex with⟨rfl,rfl⟩|⟨bl,off,len,cap,pre,sp,fr,rfl,h1,h2,h3,h4,h5,h6⟩
 ·simp only[List.length_nil,Nat.zero_div]at hhi hb
  have hb0:b=0:=by omega
  subst hb0
  have ha0:a=0:=by omega
  subst ha0
  refine⟨none,0,0,0,0,rfl,hlo,hhi,Nat.le_refl _,Nat.le_refl _,hk _ (E.turn i hm ?_ λy hy=>hy)⟩
  intro _;exact⟨.inl ⟨rfl,by simp⟩⟩
 ·rw[h3,Nat.mul_div_cancel _ hz]at hhi hb
  refine⟨_,len,cap,a,b,rfl,hlo,hhi,hab,by omega,hk _ (E.turn i hm ?_ λy hy=>?_)⟩
  ·intro _
   have hle:b*sz≤xs.length:=by rw[h3];exact Nat.mul_le_mul_right _ hb
   have hal:a*sz≤b*sz:=Nat.mul_le_mul_right _ hab
   have hlen:((xs.take (b*sz)).drop (a*sz)).length=(b-a)*sz:=by
    rw[List.length_drop,List.length_take,Nat.min_eq_left hle,Nat.sub_mul]
   have hsplit:xs=xs.take (a*sz)++(xs.take (b*sz)).drop (a*sz)++xs.drop (b*sz):=by
    have e1:xs.take (a*sz)=(xs.take (b*sz)).take (a*sz):=by rw[List.take_take,Nat.min_eq_left hal]
    rw[e1,List.take_append_drop,List.take_append_drop]
   have hall:(pre++xs.take (a*sz)++(xs.take (b*sz)).drop (a*sz)++(xs.drop (b*sz)++sp))=pre++xs++sp:=by
    have:pre++(xs.take (a*sz)++(xs.take (b*sz)).drop (a*sz)++xs.drop (b*sz))++sp=pre++xs++sp:=by rw[← hsplit]
    rw[← this]
    simp only[List.append_assoc]
   by_cases hc:cap=a
   ·rw[if_pos hc]
    have hbe:b=a:=by omega
    have hle2:len=a:=by omega
    refine⟨.inr ⟨bl,off,b-a,cap-a,pre,xs++sp,fr,rfl,?_,h2,hlen,?_,by omega,?_⟩⟩
    ·have hnil:(xs.take (b*sz)).drop (a*sz)=[]:=List.length_eq_zero_iff.1 (by rw[hlen,hbe];simp)
     rw[hnil,h1];simp
    ·rw[hc];simp
    ·have hnil:(xs.take (b*sz)).drop (a*sz)=[]:=List.length_eq_zero_iff.1 (by rw[hlen,hbe];simp)
     rw[hnil];simpa using h6
   ·rw[if_neg hc]
    simp only[Option.map_some,add_mk]
    refine⟨.inr ⟨bl,off+a*sz,b-a,cap-a,pre++xs.take (a*sz),xs.drop (b*sz)++sp,fr,rfl,?_,?_,hlen,?_,by omega,?_⟩⟩
    ·rw[h1]
     congr 2
     exact hall.symm
    ·rw[List.length_append,List.length_take,h2,Nat.min_eq_left (by omega)]
    ·rw[List.length_append]at h4
     rw[List.length_append,List.length_append,hlen,List.length_drop,Nat.sub_mul,Nat.sub_mul]
     omega
    ·rw[hall];exact h6
  ·by_cases hc:cap=a
   ·rw[if_pos hc]at hy;exact hy
   ·rw[if_neg hc]at hy
    simp only[Option.map_some,add_mk]at hy;exact hy

theorem CvS.sl{tS tD e:TypeId}{s:ByteArray}{k:Value→World→Prop}(E:Hs w0 F w l)(h1:P.underlying tS=some .string)(h2:P.underlying tD=some (.slice e))(h3:P.underlying e=some (.int .u8))
  (hk:∀v w',Hs w0 F w' (slA v e 1 (bts s)::l)→k v w'):Ef P (convert tS tD (.string s)) w k:=by
 refine⟨_,_,Lib.run_convert_string_bytes w tS tD e s h1 h2 h3,hk _ _ (E.add ⟨?_,λj hj _=>Lib.bytesWorld_at_old w e s j hj,?_,?_,?_⟩ ⟨.inr ⟨w.heap.size,0,s.size,grownCap w s.size 0 e,[],
  (Array.replicate (grownCap w s.size 0 e-s.size) (.int .u8 0)).toList,((Lib.bytesCells w e s).size,(Lib.bytesCells w e s).size+1),rfl,?_,rfl,?_,?_,?_,?_⟩⟩ λb hb=>?_)⟩
 ·rw[Lib.bytesWorld_size];omega
 ·rfl
 ·rfl
 ·rfl
 ·rw[Lib.bytesWorld_at_new]
  congr 1
  simp only[ocf]
  congr 1
  apply Array.ext'
  simp[Lib.bytesCells,bts]
 ·simp[bts]
 ·have:=grownCap_ge w s.size 0 e
  simp[bts];omega
 ·exact grownCap_ge w s.size 0 e
 ·intro o ho h
  have:(Lib.bytesCells w e s).size=([]++bts s++(Array.replicate (grownCap w s.size 0 e-s.size) (Value.int .u8 0)).toList).length:=by simp[Lib.bytesCells,bts]
  simp only[this]at h
  omega
 ·have hb:some w.heap.size=some b:=hb
  cases hb;exact Nat.le_refl _
theorem BdS.sl {t e : TypeId} {n sz : Nat} {z : Value} {xs : List Value} {parts : Array (Nat × Value)} {k : Value→World→Prop} (E : Hs w0 F w l) (h1 : P.underlying t = some (.slice e)) (h2 : sizeK P e = some sz) (h3 : zeroK P e = some z)
  (hs : n * sz≤16777216) (h0 : n * sz ≠ 0) (hf : Instr.fill (fun i=>some (i * sz,sz)) ((Array.range (n * sz)).map (z.cells[· % z.cells.size]!)) parts.toList = some xs.toArray) (hl : xs.length = n * sz)
  (hk : ∀ v w',Hs w0 F w' (slA v e sz xs::l)→k v w') : Ef P (Instr.buildSlice t n parts) w k:=by
 refine ⟨.slice (some ⟨w.heap.size,0,none⟩) n n,w.alloc (.cells xs.toArray e),?_,hk _ _ (E.add (Upd.alloc w _) ⟨.inr ⟨w.heap.size,0,n,n,[],[],(0,0),rfl,?_,rfl,hl,by simp [hl],Nat.le_refl _,Free.zero _⟩⟩ fun b hb=>?_)⟩
 ·have hn : ¬ (n * sz > 2 ^ 24):=by omega
  simp [Instr.buildSlice,run_underlying h1,run_sizeK h2,hn,h0,run_zero h3,hf,newRow,run_newObj']
 ·rw [heap_alloc_new]; simp [ocf]
 ·have hb : some w.heap.size = some b:=hb
  cases hb; exact Nat.le_refl _

theorem Ix.arr{t e:TypeId}{n:Nat}{cs:List Value}{kk:IntKind}{i:Int}{v:Value}{k:Value→Prop}(h1:P.underlying t=some (.array n e))(hs:scal P e=true)(h2:sizeK P e=some 1)(h0:0≤i)(hi:i<n)(hv:cs[i.toNat]? =some v)
  (hk:k v):Rd P (Instr.index t (.agg cs.toArray) (.int kk i)) w k:=by
 refine⟨v,?_,hk⟩
 have hv':i.toNat<cs.length:=(List.getElem?_eq_some_iff.1 hv).1
 simp[Instr.index,asIntOf,run_underlying h1,h0,hi,run_sizeK h2,part,run_isAgg_scal hs,hv]

def eqV:TypeDesc→Value→Value→Option Bool
 | .pointer _,.pointer none,.pointer b=>some b.isNone
 | .pointer _,.pointer (some _),.pointer none=>some false
 | .interface _,.nilIface,.iface _ _=>some false
 | .interface _,.iface _ _,.nilIface=>some false
 | .slice _,.slice none _ _,.slice b _ _=>some b.isNone
 | .slice _,.slice (some _) _ _,.slice none _ _=>some false
 | .map _ _,.map none,.map b=>some b.isNone
 | .map _ _,.map (some _),.map none=>some false
 | .func _ _ _,.nilFunc,.nilFunc=>some true
 | .func _ _ _,.nilFunc,.func _ _ _=>some false
 | .func _ _ _,.func _ _ _,.nilFunc=>some false
 |_,_,_=>none
theorem eqV_run {t : TypeId} {d : TypeDesc} {a b : Value} {r : Bool} (hu : P.underlying t = some d) (h : eqV d a b = some r) (w : World) (op : BinOp) (x y : Operand) :
    (eqGuard op t x y a b).run P w = .ok () w∧(Op.equal t a b).run P w = .ok r w∧(∀ n,binOp .eql t a b = (do pure (.bool (← Op.equal t a b)) : Sem Value)∧binOp .neq t a b = (do pure (.bool (!(← Op.equal t a b))) : Sem Value)∨n = 0):=by
  unfold eqV at h
  split at h <;> first
    | (simp only [reduceCtorEq] at h; done)
    | (simp only [Option.some.injEq] at h; subst h
       refine ⟨?_,?_,fun _=>.inl ⟨rfl,rfl⟩⟩
       · unfold eqGuard; cases op <;> rfl
       · unfold Op.equal Op.maxDepth Op.equalIn
         simp only [Sem.run_bind,run_underlying hu,Result.andThen_ok]
         first | rfl|(rename_i b; cases b <;> rfl))
theorem Eq.e{t:TypeId}{d:TypeDesc}{a b:Value}{x y:Operand}{r:Bool}{k:Value→Prop}(hu:P.underlying t=some d)(h:eqV d a b=some r)(hk:k (.bool r)):Rd P (eqS .eql t x y a b) w k:=by
 obtain⟨h1,h2,h3⟩:=eqV_run hu h w .eql x y
 refine⟨_,?_,hk⟩
 unfold eqS
 rcases h3 1 with⟨h4,-⟩|h4
 ·simp only[Sem.run_bind,h1,Result.andThen_ok,h4,h2,Sem.run_pure]
 ·cases h4
theorem Eq.n{t:TypeId}{d:TypeDesc}{a b:Value}{x y:Operand}{r:Bool}{k:Value→Prop}(hu:P.underlying t=some d)(h:eqV d a b=some r)(hk:k (.bool !r)):Rd P (eqS .neq t x y a b) w k:=by
 obtain⟨h1,h2,h3⟩:=eqV_run hu h w .neq x y
 refine⟨_,?_,hk⟩
 unfold eqS
 rcases h3 1 with⟨-,h4⟩|h4
 ·simp only[Sem.run_bind,h1,Result.andThen_ok,h4,h2,Sem.run_pure]
 ·cases h4
end
section
variable {P:Program} {w0:World} {F:Nat→Prop} {w:World} {l:List As}
variable {b:Nat} {kt:KT} {M:AL} {T K El:TypeId} {z key:Value} {k:Value→Prop}

theorem Lk.by(E:Hs w0 F w l)(hm:mp b kt M∈l)(hT:P.underlying T=some (.map K El))(hf:kt.fits P K=true)(hz:zeroK P El=some z)(hk:kt.ok key=true)
  (hs:∀v,aget M key=some v→k (.tuple #[v,.bool true]))(hn:aget M key=none→k (.tuple #[z,.bool false])):Rd P (Instr.lookup T (.map (some b)) key true) w k:=by
 refine Lk.ok E hm hT hf hz hk ?_
 cases h:aget M key with
 |none=>exact hn h
 |some v=>exact hs v h
theorem Lk.hit{v:Value}(E:Hs w0 F w l)(hm:mp b kt M∈l)(hT:P.underlying T=some (.map K El))(hf:kt.fits P K=true)(hz:zeroK P El=some z)(hk:kt.ok key=true)
  (h:aget M key=some v)(hs:k (.tuple #[v,.bool true])):Rd P (Instr.lookup T (.map (some b)) key true) w k:=by
 refine Lk.ok E hm hT hf hz hk ?_
 rw[h];exact hs
theorem Lk.by1(E:Hs w0 F w l)(hm:mp b kt M∈l)(hT:P.underlying T=some (.map K El))(hf:kt.fits P K=true)(hz:zeroK P El=some z)(hk:kt.ok key=true)
  (hs:∀v,aget M key=some v→k v)(hn:aget M key=none→k z):Rd P (Instr.lookup T (.map (some b)) key false) w k:=by
 refine Lk.one E hm hT hf hz hk ?_
 cases h:aget M key with
 |none=>exact hn h
 |some v=>exact hs v h
end

def el3(P:Program)(T:TypeId):Option (Option Value×Nat×Nat):=(P.info? T).map λi=>(i.zero,i.size,i.bytes)
section
variable {P:Program} {w0:World} {F:Nat→Prop} {w:World} {l:List As}
theorem LnL.sl1{v:Value}{T:TypeId}{xs:List Value}{k:Value→Prop}(E:Hs w0 F w l)(hm:slA v T 1 xs∈l)(h:k (.int .i64 (xs.length:Int))):LnL v k:=
 LnL.sl E hm (by omega) (by rw[Nat.div_one];exact h)
theorem Dr.st{k:World→Prop}(E:Hs w0 F w l)(hk:∀w',Hs w0 F w' l→k w'):Dr w k:=hk _ (E.grow (Upd.drew _))
theorem Hs.slScal{v:Value}{T:TypeId}{sz:Nat}{xs:List Value}(E:Hs w0 F w l)(hm:slA v T sz xs∈l):scalV v=true:=by
 rcases(show SliceAt v T sz xs w from E.sat _ hm).ex with⟨rfl,_⟩|⟨b,off,len,cap,pre,sp,fr,rfl,_⟩<;>rfl
theorem bts_scal(s:ByteArray):(bts s).all scalV=true:=by
 rw[List.all_eq_true];intro x hx
 simp only[bts,List.mem_map]at hx
 obtain⟨b,_,rfl⟩:=hx;rfl
theorem bts_len(s:ByteArray):(bts s).length=s.size:=by simp[bts]
theorem Ap.el{i:Nat}{t t2 ty T:TypeId}{z:Value}{s x:Value}{n sz by_:Nat}{xs ys:List Value}{k:Value→World→Prop}(E:Hs w0 F w l)(hm:l[i]? =some (slA s T sz xs))
  (hT:P.underlying t=some (.slice T))(hT2:∃d,P.underlying t2=some d∧∀q,d≠ .int q)(hi:el3 P T=some (some z,sz,by_))(hpos:0<sz)(hx:Src P sz w x n ys)(hzc:z.cells.size=sz)
  (hb:(xs.length / sz+n)*by_≤140737488355328)(hb2:xs.length / sz+n≤140737488355328)
  (hk:∀s' w',Hs w0 F w' (l.set i (slA s' T sz (xs++ys)))→k s' w'):Ef P (Builtin.append_ #[t,t2] ty #[s,x]) w k:=by
 unfold el3 at hi
 cases h:P.info? T with
 |none=>rw[h]at hi;cases hi
 |some ti=>
  rw[h]at hi
  simp only[Option.map_some,Option.some.injEq,Prod.mk.injEq]at hi
  obtain⟨h1,h2,h3⟩:=hi
  exact Ap.sl E hm hT hT2 h h1 h2 hpos hx hzc (by rw[h3];exact hb) hb2 hk

theorem Ap.one{i:Nat}{t t2 ty T:TypeId}{z:Value}{s x:Value}{n by_:Nat}{xs ys:List Value}{k:Value→World→Prop}(E:Hs w0 F w l)(hm:l[i]? =some (slA s T 1 xs))
  (hT:P.underlying t=some (.slice T))(hT2:∃d,P.underlying t2=some d∧∀q,d≠ .int q)(hi:el3 P T=some (some z,1,by_))(hx:Src P 1 w x n ys)(hzc:z.cells.size=1)
  (hb:(xs.length+n)*by_≤140737488355328)(hb2:xs.length+n≤140737488355328)
  (hk:∀s' w',Hs w0 F w' (l.set i (slA s' T 1 (xs++ys)))→k s' w'):Ef P (Builtin.append_ #[t,t2] ty #[s,x]) w k:=
 Ap.el E hm hT hT2 hi (by omega) hx hzc (by rw[Nat.div_one];exact hb) (by rw[Nat.div_one];exact hb2) hk
theorem Src.one{v:Value}{T:TypeId}{xs:List Value}(E:Hs w0 F w l)(hm:slA v T 1 xs∈l)(hs:xs.all scalV=true):Src P 1 w v xs.length xs:=
 Src.slice (show SliceAt v T 1 xs w from E.sat _ hm) (by rw[Nat.mul_one]) (by omega) hs

theorem BdS.one{t e:TypeId}{z x:Value}{by_:Nat}{k:Value→World→Prop}(E:Hs w0 F w l)(h1:P.underlying t=some (.slice e))(hi:el3 P e=some (some z,1,by_))(hx:scalV x=true)
  (hk:∀v w',Hs w0 F w' (slA v e 1 [x]::l)→k v w'):Ef P (Instr.buildSlice t 1 #[(0,x)]) w k:=by
 unfold el3 at hi
 cases h:P.info? e with
 |none=>rw[h]at hi;cases hi
 |some ti=>
  rw[h]at hi
  simp only[Option.map_some,Option.some.injEq,Prod.mk.injEq]at hi
  obtain⟨h2,h3,h4⟩:=hi
  refine BdS.sl (sz:=1) (z:=z) (xs:=[x]) E h1 (by unfold sizeK;rw[h];simp[h3]) (by unfold zeroK;rw[h];exact h2) (by omega) (by omega) ?_ rfl hk
  have hc:=cells_scal hx
  simp[Instr.fill,hc]
  have:Array.range 1=#[0]:=rfl
  rw[this];simp
end
section
variable {P:Program} {w:World} {t:TypeId} {d:TypeDesc} {a b:Value} {x y:Operand} {k:Value→Prop}
theorem Eq.et(hu:P.underlying t=some d)(h:eqV d a b=some true)(hk:k (.bool true)):Rd P (eqS .eql t x y a b) w k:=Eq.e hu h hk
theorem Eq.ef(hu:P.underlying t=some d)(h:eqV d a b=some false)(hk:k (.bool false)):Rd P (eqS .eql t x y a b) w k:=Eq.e hu h hk
theorem Eq.nt(hu:P.underlying t=some d)(h:eqV d a b=some false)(hk:k (.bool true)):Rd P (eqS .neq t x y a b) w k:=Eq.n hu h hk
theorem Eq.nf(hu:P.underlying t=some d)(h:eqV d a b=some true)(hk:k (.bool false)):Rd P (eqS .neq t x y a b) w k:=Eq.n hu h hk
theorem Un.nt(hk:k (.bool true)):Un .not (.bool false) k:=Un.not hk
theorem Un.nf(hk:k (.bool false)):Un .not (.bool true) k:=Un.not hk
end

section
variable {kk:IntKind} {a b:Int} {k:Value→Prop}
theorem Bi.lss(ht:a<b→k (.bool true))(hf:b≤a→k (.bool false)):Bi .lss (.int kk a) (.int kk b) k:=by
 by_cases h:a<b
 ·exact⟨_,by simp[binV,intOp,h],ht h⟩
 ·exact⟨_,by simp[binV,intOp,h],hf (by omega)⟩
theorem Bi.leq(ht:a≤b→k (.bool true))(hf:b<a→k (.bool false)):Bi .leq (.int kk a) (.int kk b) k:=by
 by_cases h:a≤b
 ·exact⟨_,by simp[binV,intOp,h],ht h⟩
 ·exact⟨_,by simp[binV,intOp,h],hf (by omega)⟩
theorem Bi.gtr(ht:b<a→k (.bool true))(hf:a≤b→k (.bool false)):Bi .gtr (.int kk a) (.int kk b) k:=by
 by_cases h:b<a
 ·exact⟨_,by simp[binV,intOp,h],ht h⟩
 ·exact⟨_,by simp[binV,intOp,h],hf (by omega)⟩
theorem Bi.geq(ht:b≤a→k (.bool true))(hf:a<b→k (.bool false)):Bi .geq (.int kk a) (.int kk b) k:=by
 by_cases h:b≤a
 ·exact⟨_,by simp[binV,intOp,h],ht h⟩
 ·exact⟨_,by simp[binV,intOp,h],hf (by omega)⟩
theorem Bi.eql(ht:a=b→k (.bool true))(hf:a≠b→k (.bool false)):Bi .eql (.int kk a) (.int kk b) k:=by
 by_cases h:a=b
 ·exact⟨.bool true,by simp[binV,intOp,h],ht h⟩
 ·exact⟨.bool false,by simp[binV,intOp,h],hf h⟩
theorem Bi.neq(ht:a≠b→k (.bool true))(hf:a=b→k (.bool false)):Bi .neq (.int kk a) (.int kk b) k:=by
 by_cases h:a=b
 ·exact⟨.bool false,by simp[binV,intOp,h],hf h⟩
 ·exact⟨.bool true,by simp[binV,intOp,h],ht h⟩
theorem toList_data(s:ByteArray):s.toList=s.data.toList:=ByteArray.toList_eq s
theorem toList_beq(s t:ByteArray):(s.toList == t.toList)=decide (s=t):=by
 rw[toList_data,toList_data]
 by_cases h:s=t
 ·subst h;simp
 ·have:s.data.toList≠t.data.toList:=λhh=>h (by cases s;cases t;congr 1;exact Array.ext' hh)
  rw[decide_eq_false h];simpa using this
theorem Bi.seql{s t:ByteArray}(ht:s=t→k (.bool true))(hf:s≠t→k (.bool false)):Bi .eql (.string s) (.string t) k:=by
 by_cases h:s=t
 ·exact⟨_,by simp only[binV,strOp,toList_beq,h,decide_true],ht h⟩
 ·exact⟨_,by simp only[binV,strOp,toList_beq,h,decide_false],hf h⟩
theorem Bi.sneq{s t:ByteArray}(ht:s≠t→k (.bool true))(hf:s=t→k (.bool false)):Bi .neq (.string s) (.string t) k:=by
 by_cases h:s=t
 ·exact⟨_,by simp only[binV,strOp,toList_beq,h,decide_true,Bool.not_true],hf h⟩
 ·exact⟨_,by simp only[binV,strOp,toList_beq,h,decide_false,Bool.not_false],ht h⟩
theorem Bi.seqT{s t:ByteArray}(h:s=t)(hk:k (.bool true)):Bi .eql (.string s) (.string t) k:=Bi.seql (λ_=>hk) λh'=>absurd h h'
theorem Bi.sadd{s t:ByteArray}(h:s.size+t.size≤9223372036854775807)(hk:k (.string (s++t))):Bi .add (.string s) (.string t) k:=by
 refine⟨_,?_,hk⟩
 have:¬((s.size+t.size:Nat):Int)>IntKind.i64.max:=by
  have:IntKind.i64.max=9223372036854775807:=by decide
  omega
 simp only[binV,strOp,if_neg this]
theorem Bi.add(h: -9223372036854775808≤a+b∧a+b≤9223372036854775807)(hk:k (.int .i64 (a+b))):Bi .add (.int .i64 a) (.int .i64 b) k:=
 ⟨_,rfl,by rw[IntWalk.i64_in _ h];exact hk⟩
theorem Bi.sub(h: -9223372036854775808≤a-b∧a-b≤9223372036854775807)(hk:k (.int .i64 (a-b))):Bi .sub (.int .i64 a) (.int .i64 b) k:=
 ⟨_,rfl,by rw[IntWalk.i64_in _ h];exact hk⟩
theorem Bi.mul(h: -9223372036854775808≤a*b∧a*b≤9223372036854775807)(hk:k (.int .i64 (a*b))):Bi .mul (.int .i64 a) (.int .i64 b) k:=
 ⟨_,rfl,by rw[IntWalk.i64_in _ h];exact hk⟩
theorem Cv.i64{kd:IntKind}(h: -9223372036854775808≤a∧a≤9223372036854775807)(hk:k (.int .i64 a)):Cv .i64 (.int kd a) k:=
 ⟨_,_,rfl,by rw[IntWalk.i64_in _ h];exact hk⟩
end
theorem BdA.mk{z cs:Array Value}{sz:Nat}{parts:List (Nat×Value)}{k:Value→Prop}(hf:Instr.fill (λi=>some (i*sz,sz)) z parts=some cs)(h:k (.agg cs)):BdA z sz parts k:=⟨cs,hf,h⟩
theorem Ex.ls{vs:List Value}{i:Nat}{v:Value}{k:Value→Prop}(hv:vs[i]? =some v)(h:k v):Ex (.tuple vs.toArray) i k:=Ex.mk (by simpa using hv) h
theorem Fi.ls{off:Nat}{cs:List Value}{v:Value}{k:Value→Prop}(hv:cs[off]? =some v)(h:k v):Fi off (.agg cs.toArray) k:=Fi.mk (by simpa using hv) h
theorem FiA.ls{off n:Nat}{cs ds:List Value}{k:Value→Prop}(hds:(cs.drop off).take n=ds)(h:k (.agg ds.toArray)):FiA off n (.agg cs.toArray) k:=by
 refine⟨_,rfl,?_⟩
 have:cs.toArray.extract off (off+n)=ds.toArray:=by
  apply Array.ext'
  simp only[Array.toList_extract,List.extract_eq_take_drop]
  have:off+n-off=n:=by omega
  rw[this,← hds]
 rw[this];exact h
theorem CaV.mono{P:Program}{fv:Value}{args:Array Value}{w:World}{k k':Value→World→Prop}(h:CaV P fv args w k)(hk:∀v w',k v w'→k' v w'):CaV P fv args w k':=by
 rcases h with⟨f,first,cap,h1,h2,h3⟩|⟨L,h1,r,h2,h3,h4⟩
 ·exact .inl ⟨f,first,cap,h1,h2,h3.mono hk⟩
 ·exact .inr ⟨L,h1,r,h2,h3,h4.mono λe w' ⟨v,he,hv⟩=>⟨v,he,hk _ _ hv⟩⟩
theorem Pk.t{x y:Value}{k:Value→Prop}(h:k x):Pk (.bool true) x y k:=⟨true,rfl,h⟩
theorem Pk.f{x y:Value}{k:Value→Prop}(h:k y):Pk (.bool false) x y k:=⟨false,rfl,h⟩
theorem Gd.tf{op:(Value→World→Prop)→Prop}{w:World}{k:Value→World→Prop}(h:k undef w):Gd (.bool false) true op w k:=.inr ⟨by simp[isB],h⟩
theorem Gd.ft{op:(Value→World→Prop)→Prop}{w:World}{k:Value→World→Prop}(h:k undef w):Gd (.bool true) false op w k:=.inr ⟨by simp[isB],h⟩
theorem IxS.mk{s:ByteArray}{kk:IntKind}{n:Int}{b:UInt8}{k:Value→Prop}(h0:0≤n)(hb:s[n.toNat]? =some b)(hk:k (.int .u8 b.toNat)):IxS (.string s) (.int kk n) k:=⟨s,kk,n,b,rfl,rfl,h0,hb,hk⟩
theorem SlS.pre{s:ByteArray}{kk:IntKind}{n:Int}{k:Value→Prop}(h0:0≤n)(h1:n.toNat≤s.size)(hk:k (.string (s.extract 0 n.toNat))):SlS (.string s) none (some (.int kk n)) k:=
 ⟨s,0,n.toNat,rfl,rfl,by simp[bnd,h0],Nat.zero_le _,h1,hk⟩
theorem SlS.suf{s:ByteArray}{kk:IntKind}{n:Int}{k:Value→Prop}(h0:0≤n)(h1:n.toNat≤s.size)(hk:k (.string (s.extract n.toNat s.size))):SlS (.string s) (some (.int kk n)) none k:=
 ⟨s,n.toNat,s.size,rfl,by simp[bnd,h0],rfl,h1,Nat.le_refl _,hk⟩
theorem ba_get{s:ByteArray}{i:Nat}(h:i<s.size):∃b:UInt8,s[i]? =some b∧s.data.toList[i]? =some b:=by
 refine⟨s[i],?_,?_⟩
 ·simp[h]
 ·have:i<s.data.toList.length:=h
  rw[List.getElem?_eq_getElem this];rfl
theorem Ln.eq{v:Value}{a:Option Addr}{n c:Nat}{k:Value→Prop}(hv:v=.slice a n c)(h:k (.int .i64 n)):LnL v k:=⟨a,n,c,hv,h⟩
end Go.Sh
namespace Go.Sh
set_option linter.unusedVariables false
set_option linter.unusedSimpArgs false
open Go Go.ChangeShapes Go.WideShapes Go.RowKit
section
variable {w0 w:World} {l:List As}

def Rdl(w:World)(v:Value)(xs:List Value):Prop:=∃a c,v=.slice a xs.length c∧xs.length≤c∧(xs=[]∨∃b o,a=some ⟨b,o,none⟩∧b<w.heap.size∧∀(j:Nat) x,xs[j]? =some x→w.cell? ⟨b,o+j,none⟩=some x)
end
section
variable {H:Type} {enc:TypeId×Value→H} {P:Program}
theorem Upd.below{w w':World}(u:Upd Emp w w'):Below w.heap.size w w':=⟨u.os,u.tape,u.out,u.size,λk hk=>u.same k hk λh=>h⟩
theorem Upd.ofBelow{w w':World}(h:Below w.heap.size w w'):Upd Emp w w':=⟨h.size,λb hb _=>h.block b hb,h.tape,h.os,h.output⟩
theorem keptBut_of{w w':World}(u:Upd Emp w w')(may:MemPlace→Prop):w.keptBut w' may:=by
 refine⟨u.os,u.out,λi hi=>?_⟩
 rw[u.same i hi λh=>h]
 cases w.heap[i]? with
 |none=>rfl
 |some o=>cases o<;>first|exact⟨rfl,rfl,rfl,λ_ _=>rfl⟩|exact .inr ⟨rfl,rfl⟩|rfl
theorem frozen_of{w w':World}(u:Upd Emp w w'){b off:Nat}(hb:b<w.heap.size):w'.frozen? ⟨b,off,none⟩=w.frozen? ⟨b,off,none⟩:=by
 unfold World.frozen?
 rw[u.same b hb λh=>h]

def readsB(P:Program)(ts:List TypeId):Bool:=laidOutB P && ts.all λt=>P.readableRec t && decide (t<P.types.size)
theorem trodAll_kept{W W':World}(u:Upd Emp W W')(hl:laidOutB P=true):∀{ts:List TypeId} {vs:List Value} {ds:List (DataW H)} {ps:List MemPlace},(ts.all λt=>P.readableRec t && decide (t<P.types.size))=true→
  DataW.TrodAll enc P W 0 (λ_=>true) true ts vs ds ps→(∀p∈ps,p.block<W.heap.size)→∀sp:Nat→Bool,(∀p∈ps,sp p.block=true)→DataW.TrodAll enc P W' 0 sp true ts vs ds ps
 |[],[],[],_,_,h,_,_,_=>h
 |t::ts,v::vs,d::ds,_,ht,⟨p,q,h1,h2,e⟩,hlt,sp,hs=>by
  subst e
  simp only[List.all_cons,Bool.and_eq_true,decide_eq_true_eq]at ht
  refine⟨p,q,WideElems.Trod_stays hl ht.1.1 ht.1.2 h1 (λx hx=>u.below.same (hlt x (List.mem_append_left _ hx))) (λx hx=>hs x (List.mem_append_left _ hx)),?_,rfl⟩
  exact trodAll_kept u hl ht.2 h2 (λx hx=>hlt x (List.mem_append_right _ hx)) sp λx hx=>hs x (List.mem_append_right _ hx)
 |[],[],_::_,_,_,h,_,_,_=>h.elim
 |[],_::_,_,_,_,h,_,_,_=>h.elim
 |_::_,[],_,_,_,h,_,_,_=>h.elim
 |_::_,_::_,[],_,_,h,_,_,_=>h.elim

theorem lawPost{fn:Func}{s:ChangeSpec}{apart fresh handsOn again:Bool}{W W':World}{args:Array Value}{ds gs:List (DataW H)}{before:List MemPlace}{tb:TypeId}
  (hW:DataW.Whole enc P fn.params.toList s.vars apart W args.toList ds gs before)(u:Upd Emp W W')(hr:readsB P fn.params.toList=true)(hvars:s.vars=[])(hres:fn.resultTypes=#[tb])(hb:P.underlying tb=some .bool)
  (hspec:s.fn H (ds++gs)={results:=[.lit (.bool true)],args:=ds}):s.post enc P fn apart fresh handsOn again W args (.bool true) W':=by
 unfold readsB at hr
 simp only[Bool.and_eq_true]at hr
 have hlt:=hW.lt
 have hW0:=hW
 obtain⟨p,q,h1,h2,rfl,hz,hn⟩:=hW
 rw[hvars]at h2
 have hq:q=[]:=by
  cases gs with
  |nil=>exact h2
  |cons g gs=>exact h2.elim
 subst hq
 rw[List.append_nil]at hlt hz hn
 have ha:=trodAll_kept u hr.1 hr.2 h1 hlt
 have hR:∀(b:Nat) (sp:Nat→Bool) (hd:Bool),DataW.TrodAll enc P W' b sp hd fn.resultTypes.toList ((Value.bool true).resultList fn.resultTypes.size) (s.fn H (ds++gs)).results []:=by
  intro b sp hd
  rw[hres,hspec]
  exact trodAll_cons_mk (shut_bool hb _) trodAll_mk0
 have hV:∀sp:Nat→Bool,DataW.TrodVars enc P W' sp s.vars (s.fn H (ds++gs)).vars []:=by
  intro sp
  rw[hvars,hspec]
  exact rfl
 refine⟨ds,gs,_,[],p,[],hW0,hR _ _ _,?_,hV _,keptBut_of u _,λ_=>⟨?_,?_⟩⟩
 ·rw[hspec];exact ha _ λx hx=>by simpa using hlt x hx
 ·exact ok_one hres rfl (okWide_bool_mk hb _)
 ·refine⟨_,_,([]++p)++[],⟨[]++p,[],trodAll_append (ha _ λ_ _=>rfl) (hR _ _ _),hV _,rfl,?_,?_⟩,?_⟩
  ·intro b off hp
   simp only[List.nil_append,List.append_nil]at hp
   rw[frozen_of u (b:=b) (show b<_ from hlt _ hp)]
   exact hz b off hp
  ·intro h
   simpa using hn h
  ·intro x hx _
   simpa using hx
theorem spot_none{w:World}{a:Addr}{v:Value}(h:w.cell? a=some v):a=⟨a.block,a.off,none⟩∧a.block<w.heap.size:=by
 unfold World.cell? at h
 cases hb:w.heap[a.block]? with
 |none=>rw[hb]at h;cases h
 |some o=>
  rw[hb]at h
  have hlt:=(Array.getElem?_eq_some_iff.1 hb).1
  cases o with
  |cells c t fr=>
   simp only at h
   cases hs:a.spot with
   |none=>exact⟨by cases a;simp_all,hlt⟩
   |some n=>rw[hs]at h;simp at h
  |_=>cases h
theorem rdl_of{W:World}{xs:List Value}{a:Addr}{len cap:Nat}(hl:len≤cap)(hlen:xs.length=len)(h:∀j,j<len→W.cell? (a.add j)=xs[j]?):Rdl W (.slice (some a) len cap) xs:=by
 refine⟨some a,cap,by rw[hlen],by omega,?_⟩
 by_cases h0:xs=[]
 ·exact .inl h0
 ·right
  have hpos:0<len:=by
   rw[← hlen];exact List.length_pos_iff.2 h0
  have hc:=h 0 hpos
  have h00:xs[0]? =some xs[0]:=List.getElem?_eq_getElem (by omega)
  rw[h00]at hc
  obtain⟨e,hb⟩:=spot_none (a:=a) hc
  refine⟨a.block,a.off,by rw[← e],hb,λj x hx=>?_⟩
  have hj:=(List.getElem?_eq_some_iff.1 hx).1
  have:=h j (by omega)
  rw[hx,e,add_mk]at this
  exact this
theorem rdl_nil{W:World}:Rdl W (.slice none 0 0) []:=⟨none,0,rfl,Nat.le_refl _,.inl rfl⟩
end
end Go.Sh
namespace Go.Sh
set_option linter.unusedVariables false
set_option linter.unusedSimpArgs false
open Go

class Nth{α:Type}(l:List α)(i:Nat)(v:outParam α):Prop where
 at_:l[i]? =some v
instance{α:Type}{x:α}{r:List α}:Nth (x::r) 0 x:=⟨rfl⟩
instance{α:Type}{x y:α}{r:List α}{i:Nat}[h:Nth r i y]:Nth (x::r) (i+1) y:=⟨by simpa using h.at_⟩
class Dp(l:List Value)(i:Nat)(r:outParam (List Value)):Prop where
 eq:l.drop i=r
instance{l:List Value}:Dp l 0 l:=⟨rfl⟩
instance{x:Value}{l r:List Value}{i:Nat}[h:Dp l i r]:Dp (x::l) (i+1) r:=⟨by simpa using h.eq⟩
class Tk(l:List Value)(n:Nat)(ds:outParam (List Value)):Prop where
 eq:l.take n=ds
 len:ds.length=n
instance{l:List Value}:Tk l 0 []:=⟨rfl,rfl⟩
instance{x:Value}{l ds:List Value}{n:Nat}[h:Tk l n ds]:Tk (x::l) (n+1) (x::ds):=⟨by simp[h.eq],by simp[h.len]⟩
class SetN(l:List Value)(i:Nat)(v:Value)(l':outParam (List Value)):Prop where
 eq:l.set i v=l'
 lt:i<l.length
instance{x v:Value}{l:List Value}:SetN (x::l) 0 v (v::l):=⟨rfl,by simp⟩
instance{x v:Value}{l l':List Value}{i:Nat}[h:SetN l i v l']:SetN (x::l) (i+1) v (x::l'):=⟨by simp[h.eq],by simp[h.lt]⟩
class SetL(l:List Value)(i:Nat)(vs:List Value)(l':outParam (List Value)):Prop where
 eq:setCs l i vs=l'
 le:vs=[]∨i+vs.length≤l.length
instance{l:List Value}{i:Nat}:SetL l i [] l:=⟨rfl,.inl rfl⟩
instance{l l' l'' vs:List Value}{v:Value}{i:Nat}[h:SetN l i v l'][h2:SetL l' (i+1) vs l'']:SetL l i (v::vs) l'':=
 ⟨by rw[setCs,h.eq,h2.eq],.inr (by
  have hl:l'.length=l.length:=by rw[← h.eq];simp
  have:=h.lt
  rcases h2.le with h3|h3
  ·subst h3;simp;omega
  ·simp;omega)⟩
class Scal(v:Value):Prop where
 s:scalV v=true
instance{k:IntKind}{n:Int}:Scal (.int k n):=⟨rfl⟩
instance{b:Bool}:Scal (.bool b):=⟨rfl⟩
instance{s:ByteArray}:Scal (.string s):=⟨rfl⟩
instance{a:Option Addr}:Scal (.pointer a):=⟨rfl⟩
instance{a:Option Addr}{n m:Nat}:Scal (.slice a n m):=⟨rfl⟩
instance{a:Option Nat}:Scal (.map a):=⟨rfl⟩
instance{f:Fn}{x y:Array Value}:Scal (.func f x y):=⟨rfl⟩
instance{t:TypeId}{v:Value}:Scal (.iface t v):=⟨rfl⟩
instance:Scal .nilFunc:=⟨rfl⟩
instance:Scal .nilIface:=⟨rfl⟩


class FPt(l:List As)(b:Nat)(o:outParam Obj)(r:outParam (List As)):Prop where
 perm:l.Perm (pt b o::r)
instance(priority:=2000){b:Nat}{o:Obj}{r:List As}:FPt (pt b o::r) b o r:=⟨List.Perm.refl _⟩
instance{A:As}{b:Nat}{o:Obj}{l r:List As}[h:FPt l b o r]:FPt (A::l) b o (A::r):=⟨(h.perm.cons A).trans (List.Perm.swap _ _ _)⟩
class FMp(l:List As)(b:Nat)(kt:outParam KT)(M:outParam AL)(r:outParam (List As)):Prop where
 perm:l.Perm (mp b kt M::r)
instance(priority:=2000){b:Nat}{kt:KT}{M:AL}{r:List As}:FMp (mp b kt M::r) b kt M r:=⟨List.Perm.refl _⟩
instance{A:As}{b:Nat}{kt:KT}{M:AL}{l r:List As}[h:FMp l b kt M r]:FMp (A::l) b kt M (A::r):=⟨(h.perm.cons A).trans (List.Perm.swap _ _ _)⟩
class FSl(l:List As)(v:Value)(T:outParam TypeId)(sz:outParam Nat)(xs:outParam (List Value))(r:outParam (List As)):Prop where
 perm:l.Perm (slA v T sz xs::r)
instance(priority:=2000){v:Value}{T:TypeId}{sz:Nat}{xs:List Value}{r:List As}:FSl (slA v T sz xs::r) v T sz xs r:=⟨List.Perm.refl _⟩
instance{A:As}{v:Value}{T:TypeId}{sz:Nat}{xs:List Value}{l r:List As}[h:FSl l v T sz xs r]:FSl (A::l) v T sz xs (A::r):=⟨(h.perm.cons A).trans (List.Perm.swap _ _ _)⟩

class FIx(l:List As)(i:Nat)(A:outParam As)(r:outParam (List As)):Prop where
 perm:l.Perm (A::r)
instance{A:As}{l:List As}:FIx (A::l) 0 A l:=⟨List.Perm.refl _⟩
instance{A B:As}{l r:List As}{i:Nat}[h:FIx l i A r]:FIx (B::l) (i+1) A (B::r):=⟨(h.perm.cons B).trans (List.Perm.swap _ _ _)⟩

class FPtT(l:List As)(T:TypeId)(b:outParam Nat)(cs:outParam (List Value))(r:outParam (List As)):Prop where
 perm:l.Perm (pt b (oc cs T)::r)
instance(priority:=2000){b:Nat}{cs:List Value}{T:TypeId}{r:List As}:FPtT (pt b (oc cs T)::r) T b cs r:=⟨List.Perm.refl _⟩
instance{A:As}{b:Nat}{cs:List Value}{T:TypeId}{l r:List As}[h:FPtT l T b cs r]:FPtT (A::l) T b cs (A::r):=⟨(h.perm.cons A).trans (List.Perm.swap _ _ _)⟩
class FSlT(l:List As)(T:TypeId)(v:outParam Value)(sz:outParam Nat)(xs:outParam (List Value))(r:outParam (List As)):Prop where
 perm:l.Perm (slA v T sz xs::r)
instance(priority:=2000){v:Value}{T:TypeId}{sz:Nat}{xs:List Value}{r:List As}:FSlT (slA v T sz xs::r) T v sz xs r:=⟨List.Perm.refl _⟩
instance{A:As}{v:Value}{T:TypeId}{sz:Nat}{xs:List Value}{l r:List As}[h:FSlT l T v sz xs r]:FSlT (A::l) T v sz xs (A::r):=⟨(h.perm.cons A).trans (List.Perm.swap _ _ _)⟩
class FSlV(l:List As)(v:Value)(T:TypeId)(sz:outParam Nat)(xs:outParam (List Value))(r:outParam (List As)):Prop where
 perm:l.Perm (slA v T sz xs::r)
instance(priority:=2000){v:Value}{T:TypeId}{sz:Nat}{xs:List Value}{r:List As}:FSlV (slA v T sz xs::r) v T sz xs r:=⟨List.Perm.refl _⟩
instance{A:As}{v:Value}{T:TypeId}{sz:Nat}{xs:List Value}{l r:List As}[h:FSlV l v T sz xs r]:FSlV (A::l) v T sz xs (A::r):=⟨(h.perm.cons A).trans (List.Perm.swap _ _ _)⟩
theorem Hs.perm{w0:World}{F:Nat→Prop}{w:World}{l l':List As}(E:Hs w0 F w l)(hp:l.Perm l'):Hs w0 F w l':=
 ⟨E.upd,λB hB=>E.sat B (hp.mem_iff.2 hB),λB hB=>E.own B (hp.mem_iff.2 hB),hp.pairwise E.apart λ{A B} h b hb hb'=>h b hb' hb⟩
section
variable {w0:World} {F:Nat→Prop} {w:World} {l r:List As}
theorem Hs.bPt(b:Nat){o:Obj}[h:FPt l b o r](E:Hs w0 F w l):Hs w0 F w (pt b o::r):=E.perm h.perm
theorem Hs.bMp(b:Nat){kt:KT}{M:AL}[h:FMp l b kt M r](E:Hs w0 F w l):Hs w0 F w (mp b kt M::r):=E.perm h.perm
theorem Hs.bSl(v:Value){T:TypeId}{sz:Nat}{xs:List Value}[h:FSl l v T sz xs r](E:Hs w0 F w l):Hs w0 F w (slA v T sz xs::r):=E.perm h.perm
theorem Hs.bIx(i:Nat){A:As}[h:FIx l i A r](E:Hs w0 F w l):Hs w0 F w (A::r):=E.perm h.perm
theorem Hs.tl{A:As}(E:Hs w0 F w (A::l)):Hs w0 F w l:=E.drop (List.sublist_cons_self _ _)
theorem FPt.mem{b:Nat}{o:Obj}[h:FPt l b o r]:pt b o∈l:=h.perm.mem_iff.2 List.mem_cons_self
theorem FMp.mem{b:Nat}{kt:KT}{M:AL}[h:FMp l b kt M r]:mp b kt M∈l:=h.perm.mem_iff.2 List.mem_cons_self
theorem FSl.mem{v:Value}{T:TypeId}{sz:Nat}{xs:List Value}[h:FSl l v T sz xs r]:slA v T sz xs∈l:=h.perm.mem_iff.2 List.mem_cons_self
end

class WPt(l:List As)(b:Nat)(cs:outParam (List Value))(T:outParam TypeId)(cs':List Value)(l':outParam (List As)):Prop where
 at_:∃i:Nat,l[i]? =some (pt b (oc cs T))∧l'=l.set i (pt b (oc cs' T))
instance(priority:=2000){b:Nat}{cs cs':List Value}{T:TypeId}{r:List As}:WPt (pt b (oc cs T)::r) b cs T cs' (pt b (oc cs' T)::r):=⟨0,rfl,rfl⟩
instance{A:As}{b:Nat}{cs cs':List Value}{T:TypeId}{l l':List As}[h:WPt l b cs T cs' l']:WPt (A::l) b cs T cs' (A::l'):=⟨by
 obtain⟨i,h1,h2⟩:=h.at_
 exact⟨i+1,by simpa using h1,by simp[h2]⟩⟩

class StC(l:List As)(b o:Nat)(vs:List Value)(l':outParam (List As)):Prop where
 at_:∃(i:Nat) (cs:List Value) (T:TypeId),l[i]? =some (pt b (oc cs T))∧(vs=[]∨o+vs.length≤cs.length)∧l'=l.set i (pt b (oc (setCs cs o vs) T))
instance(priority:=2000){b o:Nat}{cs cs' vs:List Value}{T:TypeId}{r:List As}[h:SetL cs o vs cs']:StC (pt b (oc cs T)::r) b o vs (pt b (oc cs' T)::r):=⟨0,cs,T,rfl,h.le,by rw[h.eq];rfl⟩
instance{A:As}{b o:Nat}{vs:List Value}{l l':List As}[h:StC l b o vs l']:StC (A::l) b o vs (A::l'):=⟨by
 obtain⟨i,cs,T,h1,h2,h3⟩:=h.at_
 exact⟨i+1,cs,T,by simpa using h1,h2,by simp[h3]⟩⟩
class WMp(l:List As)(b:Nat)(kt:outParam KT)(M:outParam AL)(r:outParam (List As))(f:AL→AL)(l':outParam (List As)):Prop where
 at_:∃i:Nat,l[i]? =some (mp b kt M)∧l'=l.set i (mp b kt (f M))
instance(priority:=2000){b:Nat}{kt:KT}{M:AL}{r:List As}{f:AL→AL}:WMp (mp b kt M::r) b kt M r f (mp b kt (f M)::r):=⟨0,rfl,rfl⟩
instance{A:As}{b:Nat}{kt:KT}{M:AL}{l r l':List As}{f:AL→AL}[h:WMp l b kt M r f l']:WMp (A::l) b kt M (A::r) f (A::l'):=⟨by
 obtain⟨i,h1,h2⟩:=h.at_
 exact⟨i+1,by simpa using h1,by simp[h2]⟩⟩


class Stp(G:Prop)(N:outParam Prop):Prop where
 go:N→G
class StpE{w0:World}{F:Nat→Prop}{w:World}{l:List As}(E:Hs w0 F w l)(G:Prop)(N:outParam Prop):Prop where
 go:N→G

class StpW{w0:World}{F:Nat→Prop}{w:World}{l:List As}(E:Hs w0 F w l)(G:Prop)(N:outParam Prop):Prop where
 go:N→G
class StpA{w0:World}{F:Nat→Prop}{w:World}{l:List As}(E:Hs w0 F w l)(G:Prop)(N:outParam Prop):Prop where
 go:N→G
instance{A B:Prop}:Stp (Cnd (.bool true) A B) A:=⟨Cnd.t⟩
instance{A B:Prop}:Stp (Cnd (.bool false) A B) B:=⟨Cnd.f⟩
instance{op:(Value→World→Prop)→Prop}{w:World}{k:Value→World→Prop}:Stp (Gd (.bool true) true op w k) (op k):=⟨Gd.t true⟩
instance{op:(Value→World→Prop)→Prop}{w:World}{k:Value→World→Prop}:Stp (Gd (.bool false) false op w k) (op k):=⟨Gd.t false⟩
instance{op:(Value→World→Prop)→Prop}{w:World}{k:Value→World→Prop}:Stp (Gd (.bool false) true op w k) (k undef w):=⟨Gd.tf⟩
instance{op:(Value→World→Prop)→Prop}{w:World}{k:Value→World→Prop}:Stp (Gd (.bool true) false op w k) (k undef w):=⟨Gd.ft⟩
instance{x y:Value}{k:Value→Prop}:Stp (Pk (.bool true) x y k) (k x):=⟨Pk.t⟩
instance{x y:Value}{k:Value→Prop}:Stp (Pk (.bool false) x y k) (k y):=⟨Pk.f⟩
instance{k:Value→Prop}:Stp (Un .not (.bool true) k) (k (.bool false)):=⟨Un.nf⟩
instance{k:Value→Prop}:Stp (Un .not (.bool false) k) (k (.bool true)):=⟨Un.nt⟩
instance{a:Addr}{k:Value→Prop}:Stp (Nc (.pointer (some a)) k) (k (.pointer (some a))):=⟨λh=>⟨rfl,h⟩⟩
instance{f:FuncId}{x y:Array Value}{k:Value→Prop}:Stp (Nc (.func (.func f) x y) k) (k (.func (.func f) x y)):=⟨λh=>⟨rfl,h⟩⟩
instance{t:TypeId}{v:Value}{k:Value→Prop}:Stp (Nc (.iface t v) k) (k (.iface t v)):=⟨λh=>⟨rfl,h⟩⟩
instance{L:Nat}{x y:Array Value}{k:Value→Prop}:Stp (Nc (.func (.yield L) x y) k) (k (.func (.yield L) x y)):=⟨λh=>⟨rfl,h⟩⟩
instance{P:Program}{f:FuncId}{x y:Array Value}{k:Value→Prop}:Stp (NcF P (.func (.func f) x y) k) (k (.func (.func f) x y)):=⟨λh=>⟨.inl rfl,h⟩⟩
instance{P:Program}{L:Nat}{x y:Array Value}{k:Value→Prop}:Stp (NcF P (.func (.yield L) x y) k) (k (.func (.yield L) x y)):=⟨λh=>⟨.inl rfl,h⟩⟩

class NilC(P:Program)(t:TypeId)(v:Value)(name:String):Prop where
 h:NilA P t v name
instance{P:Program}{t:TypeId}{v:Value}{name:String}{k:Value→Prop}[h:NilC P t v name]:Stp (NcF P (.func (.method name) #[.iface t v] #[]) k) (k (.func (.method name) #[.iface t v] #[])):=
 ⟨λhk=>⟨.inr ⟨t,v,name,_,_,rfl,rfl,h.h⟩,hk⟩⟩
class MtC(P:Program)(t:TypeId)(v:Value)(name:String)(f:outParam FuncId)(recv:outParam Value):Prop where
 run:∀w,(method (P.types.size+Made.depth) t v name).run P w=.ok (f,recv) w
 body:hasBody P f=true
instance{P:Program}{t:TypeId}{v recv:Value}{name:String}{f:FuncId}{args:List Value}{w:World}{k:Value→World→Prop}[h:MtC P t v name f recv]:Stp (Iv P (.iface t v) name args.toArray w k) (Ca P f (recv::args).toArray w k):=
 ⟨λhk=>⟨t,v,f,recv,rfl,h.run w,h.body,by
  have e:#[recv]++args.toArray=(recv::args).toArray:=by simp
  rw[e];exact hk⟩⟩
instance{off b o:Nat}{k:Value→Prop}:Stp (Fa off (.pointer (some ⟨b,o,none⟩)) k) (k (.pointer (some ⟨b,o+off,none⟩))):=⟨Fa.ptr⟩
instance(priority:=1500){off b:Nat}{k:Value→Prop}:Stp (Fa off (.pointer (some ⟨b,0,none⟩)) k) (k (.pointer (some ⟨b,off,none⟩))):=⟨λh=>Fa.ptr (by rw[Nat.zero_add];exact h)⟩
instance(priority:=2000){b o:Nat}{k:Value→Prop}:Stp (Fa 0 (.pointer (some ⟨b,o,none⟩)) k) (k (.pointer (some ⟨b,o,none⟩))):=⟨λh=>Fa.ptr (off:=0) (by rw[Nat.add_zero];exact h)⟩
instance{vs:List Value}{i:Nat}{v:Value}{k:Value→Prop}[h:Nth vs i v]:Stp (Ex (.tuple vs.toArray) i k) (k v):=⟨Ex.ls h.at_⟩
instance{off:Nat}{cs:List Value}{v:Value}{k:Value→Prop}[h:Nth cs off v]:Stp (Fi off (.agg cs.toArray) k) (k v):=⟨Fi.ls h.at_⟩
instance{off n:Nat}{cs r ds:List Value}{k:Value→Prop}[h:Dp cs off r][h2:Tk r n ds]:Stp (FiA off n (.agg cs.toArray) k) (k (.agg ds.toArray)):=⟨FiA.ls (by rw[h.eq,h2.eq])⟩
instance{s:ByteArray}{k:Value→Prop}:Stp (LnS (.string s) k) (k (.int .i64 s.size)):=⟨λh=>⟨s,rfl,h⟩⟩
instance{s:ByteArray}{k:Value→Prop}:Stp (StrC (.string s) k) (k (.string s)):=⟨λh=>⟨s,rfl,h⟩⟩
instance{w:World}{k:World→Prop}{P:Program}:Stp (Lvs P [] w k) (k w):=⟨id⟩

def cmpB:BinOp→Int→Int→Option Bool
 | .eql,a,b=>some (decide (a=b))
 | .neq,a,b=>some (decide (a≠b))
 | .lss,a,b=>some (decide (a<b))
 | .leq,a,b=>some (decide (a≤b))
 | .gtr,a,b=>some (decide (b<a))
 | .geq,a,b=>some (decide (b≤a))
 |_,_,_=>none
theorem Bi.dec{op:BinOp}{x y:Value}{k:Value→Prop}(r:Bool)(h:binV op x y=some (.bool r))(hk:k (.bool r)):Bi op x y k:=⟨_,h,hk⟩
def scm:BinOp→ByteArray→ByteArray→Option Bool
 | .eql,s,t=>some (decide (s=t))
 | .neq,s,t=>some (decide (s≠t))
 |_,_,_=>none
theorem Bi.sdec{op:BinOp}{s t:ByteArray}{k:Value→Prop}(r:Bool)(h:scm op s t=some r)(hk:k (.bool r)):Bi op (.string s) (.string t) k:=by
 unfold scm at h
 split at h<;>first|cases h|skip
 ·exact Bi.seql (λe=>by rw[decide_eq_true e]at hk;exact hk) (λe=>by rw[decide_eq_false e]at hk;exact hk)
 ·exact Bi.sneq (λe=>by rw[decide_eq_true e]at hk;exact hk) (λe=>by rw[decide_eq_false (by simpa using e)]at hk;exact hk)
section
variable {P:Program} {w0:World} {F:Nat→Prop} {w:World} {l r l':List As} {E:Hs w0 F w l}
instance{b o:Nat}{cs:List Value}{T:TypeId}{v:Value}{k:Value→Prop}[h:FPt l b (oc cs T) r][h2:Nth cs o v]:StpE E (Ld (.pointer (some ⟨b,o,none⟩)) w k) (k v):=⟨Ld.pt E h.mem h2.at_⟩
instance{b o n:Nat}{cs rs ds:List Value}{T:TypeId}{k:Value→Prop}[h:FPt l b (oc cs T) r][h2:Dp cs o rs][h3:Tk rs n ds]:StpE E (LdA P n (.pointer (some ⟨b,o,none⟩)) w k) (k (.agg ds.toArray)):=
 ⟨LdA.pt E h.mem (by rw[h2.eq,h3.eq]) h3.len⟩
instance{v:Value}{T:TypeId}{xs:List Value}{k:Value→Prop}[h:FSl l v T 1 xs r]:StpE E (LnL v k) (k (.int .i64 (xs.length:Int))):=⟨LnL.sl1 E h.mem⟩
instance{k:World→Prop}:StpW E (Dr w k) (∀w',Hs w0 F w' l→k w'):=⟨Dr.st E⟩
instance{t:TypeId}{cs:List Value}{k:Value→World→Prop}:StpA E (Al t cs.toArray w k) (∀b w',w0.heap.size≤b→Hs w0 F w' (pt b (oc cs t)::l)→k (.pointer (some ⟨b,0,none⟩)) w'):=⟨Al.pt E⟩

class ScalE{w0:World}{F:Nat→Prop}{w:World}{l:List As}(E:Hs w0 F w l)(v:Value):Prop where
 s:scalV v=true
instance{v:Value}[h:Scal v]:ScalE E v:=⟨h.s⟩
instance{v:Value}{T:TypeId}{sz:Nat}{xs:List Value}[h:FSl l v T sz xs r]:ScalE E v:=⟨Hs.slScal E h.mem⟩
class ScalsE{w0:World}{F:Nat→Prop}{w:World}{l:List As}(E:Hs w0 F w l)(vs:List Value):Prop where
 s:vs.all scalV=true
instance:ScalsE E []:=⟨rfl⟩
instance{v:Value}{vs:List Value}[h:ScalE E v][h2:ScalsE E vs]:ScalsE E (v::vs):=⟨by simp only[List.all_cons,h.s,h2.s,Bool.and_self]⟩
instance(priority:=900){b o:Nat}{v:Value}{k:World→Prop}[h:StC l b o [v] l'][h2:ScalE E v]:StpW E (St P 1 (.pointer (some ⟨b,o,none⟩)) v w k) (∀w',Hs w0 F w' l'→k w'):=⟨λhk=>by
 obtain⟨i,cs,T,h1,h3,rfl⟩:=h.at_
 exact St.pt E i h1 (by rcases h3 with h3|h3<;>simp at h3;omega) h2.s hk⟩
instance{b o n:Nat}{vs:List Value}{k:World→Prop}[ht:Tk vs n vs][h:StC l b o vs l'][h2:ScalsE E vs]:StpW E (St P n (.pointer (some ⟨b,o,none⟩)) (.agg vs.toArray) w k) (∀w',Hs w0 F w' l'→k w'):=⟨λhk=>by
 obtain⟨i,cs,T,h1,h3,rfl⟩:=h.at_
 have hn:=ht.len
 rcases h3 with rfl|h3
 ·refine⟨⟨b,o,none⟩,w,rfl,by simpa[Value.cells] using hn,by simp[Value.cells,storeCells],hk _ (E.set i h1 (Upd.refl _ _) ?_ λx hx=>.inl hx)⟩
  exact E.sat _ (List.mem_of_getElem? h1)
 ·exact StA.pt E i h1 hn (by omega) h2.s hk⟩

class WSt(l:List As)(b o:Nat)(v:Value)(cs:outParam (List Value))(l':outParam (List As)):Prop where
 at_:∃(i:Nat) (T:TypeId),l[i]? =some (pt b (oc cs T))∧l'=l.set i (pt b (oc (cs.set o v) T))
instance(priority:=2000){b o:Nat}{v:Value}{cs:List Value}{T:TypeId}{r:List As}:WSt (pt b (oc cs T)::r) b o v cs (pt b (oc (cs.set o v) T)::r):=⟨0,T,rfl,rfl⟩
instance{A:As}{b o:Nat}{v:Value}{cs:List Value}{l l':List As}[h:WSt l b o v cs l']:WSt (A::l) b o v cs (A::l'):=⟨by
 obtain⟨i,T,h1,h2⟩:=h.at_
 exact⟨i+1,T,by simpa using h1,by simp[h2]⟩⟩
theorem St.by{b o:Nat}{v:Value}{cs:List Value}{k:World→Prop}(E:Hs w0 F w l)[h:WSt l b o v cs l'](ho:o<cs.length)(hv:scalV v=true)(hk:∀w',Hs w0 F w' l'→k w'):St P 1 (.pointer (some ⟨b,o,none⟩)) v w k:=by
 obtain⟨i,T,h1,rfl⟩:=h.at_
 exact St.pt E i h1 ho hv hk
theorem StA.by{b o n:Nat}{vs:List Value}{k:World→Prop}(E:Hs w0 F w l)[h:StC l b o vs l'](hn:vs.length=n)(hv:vs.all scalV=true)(hk:∀w',Hs w0 F w' l'→k w'):St P n (.pointer (some ⟨b,o,none⟩)) (.agg vs.toArray) w k:=by
 obtain⟨i,cs,T,h1,h3,rfl⟩:=h.at_
 rcases h3 with rfl|h3
 ·refine⟨⟨b,o,none⟩,w,rfl,by simpa[Value.cells] using hn,by simp[Value.cells,storeCells],hk _ (E.set i h1 (Upd.refl _ _) ?_ λx hx=>.inl hx)⟩
  exact E.sat _ (List.mem_of_getElem? h1)
 ·exact StA.pt E i h1 hn (by omega) hv hk

theorem Mu.by{b:Nat}{kt:KT}{M:AL}{T K El:TypeId}{key v:Value}{k:Unit→World→Prop}(E:Hs w0 F w l)[h:WMp l b kt M r (λM=>aput M key v) l'](hT:P.underlying T=some (.map K El))(hf:kt.fits P K=true)
  (hk:kt.ok key=true)(hc:∀w',Hs w0 F w' l'→k () w'):Ef P (Instr.mapUpdate T (.map (some b)) key v) w k:=by
 obtain⟨i,h1,rfl⟩:=h.at_
 exact Mu.mp E h1 hT hf hk hc
theorem Dl.by{b:Nat}{kt:KT}{M:AL}{T K El K' ty:TypeId}{key:Value}{k:Value→World→Prop}(E:Hs w0 F w l)[h:WMp l b kt M r (λM=>adel M key) l'](hT:P.underlying T=some (.map K El))(hf:kt.fits P K=true)
  (hk:kt.ok key=true)(hc:∀w',Hs w0 F w' l'→k (.tuple #[]) w'):Ef P (Builtin.delete_ #[T,K'] ty #[.map (some b),key]) w k:=by
 obtain⟨i,h1,rfl⟩:=h.at_
 exact Dl.mp E h1 hT hf hk hc

class CellsE{w0:World}{F:Nat→Prop}{w:World}{l:List As}(E:Hs w0 F w l)(v:Value)(cs:outParam (List Value)):Prop where
 eq:v.cells=cs.toArray
instance(priority:=900){v:Value}[h:ScalE E v]:CellsE E v [v]:=⟨cells_scal h.s⟩
instance{cs:List Value}:CellsE E (.agg cs.toArray) cs:=⟨rfl⟩
instance{t:TypeId}{v:Value}{cs:List Value}{k:Value→World→Prop}[h:CellsE E v cs]:StpA E (Al t v.cells w k) (∀b w',w0.heap.size≤b→Hs w0 F w' (pt b (oc cs t)::l)→k (.pointer (some ⟨b,0,none⟩)) w'):=⟨λhk=>by
 rw[h.eq];exact Al.pt E hk⟩
class FillE{w0:World}{F:Nat→Prop}{w:World}{l:List As}(E:Hs w0 F w l)(z:List Value)(pl:List (Nat×Nat))(ps:List (Nat×Value))(out:outParam (List Value)):Prop where
 eq:fillL pl z ps=some out
instance{z:List Value}{pl:List (Nat×Nat)}:FillE E z pl [] z:=⟨rfl⟩
instance{z z' out cs:List Value}{pl:List (Nat×Nat)}{ps:List (Nat×Value)}{i off n:Nat}{v:Value}[h1:Nth pl i (off,n+1)][h2:CellsE E v cs][h3:Tk cs (n+1) cs][h4:SetL z off cs z'][h5:FillE E z' pl ps out]:
  FillE E z pl ((i,v)::ps) out:=⟨by
 have hn:=h3.len
 have hle:off+(n+1)≤z.length:=by
  rcases h4.le with h|h
  ·rw[h]at hn;simp at hn
  ·omega
 simp only[fillL,h1.at_,h2.eq]
 rw[if_pos ⟨hn,hle⟩,h4.eq]
 exact h5.eq⟩
instance{z out:List Value}{pl:List (Nat×Nat)}{ps:List (Nat×Value)}{k:Value→Prop}[h:FillE E z pl ps out]:StpE E (Bd z.toArray pl ps k) (k (.agg out.toArray)):=⟨Bd.mk3 h.eq⟩
end
end Go.Sh
namespace Go.Sh
set_option linter.unusedVariables false
set_option linter.unusedSimpArgs false
open Go
theorem CaD.mono{P:Program}{f:FuncId}{args:Array Value}{w:World}{k k':World→Prop}(h:CaD P f args w k)(hk:∀w',k w'→k' w'):CaD P f args w k':=
 CallsDIn.mono h λe u' w' ⟨h1,h2,h3⟩=>⟨h1,h2,hk _ h3⟩
section
variable {P:Program} {w0:World} {F:Nat→Prop} {w:World} {l r l':List As}

class WOb(l:List As)(b:Nat)(o:outParam Obj)(f:outParam (Obj→List As)):Prop where
 at_:∃i:Nat,l[i]? =some (pt b o)∧∀o',f o'=l.set i (pt b o')
instance(priority:=2000){b:Nat}{o:Obj}{r:List As}:WOb (pt b o::r) b o (λo'=>pt b o'::r):=⟨0,rfl,λ_=>rfl⟩
instance{A:As}{b:Nat}{o:Obj}{l:List As}{f:Obj→List As}[h:WOb l b o f]:WOb (A::l) b o (λo'=>A::f o'):=⟨by
 obtain⟨i,h1,h2⟩:=h.at_
 exact⟨i+1,by simpa using h1,λo'=>by simp[h2]⟩⟩
theorem putObj_at{w:World}{b:Nat}{o o':Obj}(h:w.heap[b]? =some o):(w.putObj b o').heap[b]? =some o':=World.putObj_heap_same (Array.getElem?_eq_some_iff.1 h).1
theorem Upd.putObj {w : World} {b : Nat} (o : Obj) : Upd (· = b) w (w.putObj b o) :=
  ⟨by simp,fun x _ hn=>World.putObj_heap_other hn,rfl,rfl,rfl⟩

theorem Hs.wOb{b:Nat}{o:Obj}{f:Obj→List As}(E:Hs w0 F w l)[h:WOb l b o f](o':Obj):Hs w0 F (w.putObj b o') (f o'):=by
 obtain⟨i,h1,h2⟩:=h.at_
 rw[h2]
 exact E.set i h1 (Upd.putObj o') (putObj_at (E.sat _ (List.mem_of_getElem? h1))) λx hx=>.inl hx
theorem Hs.atOb{b:Nat}{o:Obj}(E:Hs w0 F w l)[h:FPt l b o r]:w.heap[b]? =some o:=E.sat _ h.mem


structure Wlk (es : Array MapEntry) (clock : Nat) (ms : List MapEntry) : Prop where
 nodup : (es.toList.map (·.born)).Nodup
 lt : ∀ e∈es.toList,e.born < clock
 sub : ∀ e∈ms,e∈es.toList
 nd : (ms.map (·.born)).Nodup
def itO (m clock : Nat) (ms : List MapEntry) : Obj:=.mapIter (some m) clock (ms.map (·.born)).toArray clock
def mapO(es:Array MapEntry)(clock:Nat):Obj:=.map es clock
theorem Rg.mp{m:Nat}{kt:KT}{M:AL}{T K El:TypeId}{k:Value→World→Prop}(E:Hs w0 F w l)[h:FMp l m kt M r](hT:P.underlying T=some (.map K El))
  (hk:∀b es clock w',w0.heap.size≤b→prs es.toList=M→Wlk es clock []→(∀p∈M,kt.ok p.1=true)→Hs w0 F w' (pt b (itO m clock [])::pt m (mapO es clock)::r)→k (.pointer (some ⟨b,0,none⟩)) w'):
  Ef P (Instr.range T (.map (some m))) w k:=by
 have hs:MapAt m kt M w:=E.sat _ h.mem
 obtain⟨es,clock,h1,h2,h3,h4⟩:=hs.ex
 have E1:Hs w0 F w (pt m (mapO es clock)::r):=by
  have:=(E.perm h.perm).turn 0 (A':=pt m (mapO es clock)) rfl (λ_=>h1) (λb hb=>hb)
  simpa using this
 refine⟨_,w.alloc (itO m clock []),?_,hk w.heap.size es clock _ E1.upd.size h2 ⟨h3,h4,(λ_ h=>by cases h),by simp⟩ hs.ok (E1.add (Upd.alloc w _) (heap_alloc_new w _) λx hx=>by cases hx;exact Nat.le_refl _)⟩
 unfold Instr.range
 simp only[Sem.run_bind,run_underlying hT,Result.andThen_ok,run_getObj_map h1,Sem.run_pure,run_newObj']
 rfl
theorem Rg.nil{T K El:TypeId}{k:Value→World→Prop}(E:Hs w0 F w l)(hT:P.underlying T=some (.map K El))
  (hk:∀b w',w0.heap.size≤b→Hs w0 F w' (pt b (.mapIter none 0 #[] 0)::l)→k (.pointer (some ⟨b,0,none⟩)) w'):Ef P (Instr.range T (.map none)) w k:=by
 refine⟨_,w.alloc (.mapIter none 0 #[] 0),?_,hk w.heap.size _ E.upd.size (E.add (Upd.alloc w _) (heap_alloc_new w _) λx hx=>by cases hx;exact Nat.le_refl _)⟩
 unfold Instr.range
 simp only[Sem.run_bind,run_underlying hT,Result.andThen_ok,Sem.run_pure,run_newObj']
theorem Nx.nil{b:Nat}{ty:TypeId}{k:Value→World→Prop}(E:Hs w0 F w l)[h:FPt l b (.mapIter none 0 #[] 0) r](hk:k (.tuple #[.bool false]) w):Ef P (Instr.next (.pointer (some ⟨b,0,none⟩)) false ty) w k:=by
 have hb:w.heap[b]? =some (.mapIter none 0 #[] 0):=E.atOb
 refine⟨_,w,?_,hk⟩
 simp[Instr.next,getObj,Sem.run_bind,Sem.run,hb,Result.andThen]
theorem Wlk.left {es : Array MapEntry} {clock : Nat} {ms : List MapEntry} (e : MapEntry) : e∈(leftOf es (ms.map (·.born)).toArray).toList↔e∈es.toList∧e.born ∉ ms.map (·.born):=by
 unfold leftOf; simp
theorem Wlk.push {es : Array MapEntry} {clock : Nat} {ms : List MapEntry} (h : Wlk es clock ms) {e : MapEntry} (he : e∈es.toList) (hn : e.born ∉ ms.map (·.born)) : Wlk es clock (ms++[e]) :=
 ⟨h.nodup,h.lt,fun x hx=>by rcases List.mem_append.1 hx with hx | hx; exact h.sub x hx; rw [List.mem_singleton] at hx; exact hx ▸ he,by
  rw [List.map_append,List.nodup_append]
  refine ⟨h.nd,by simp,?_⟩
  intro a ha b hb hab
  simp only [List.map_cons,List.map_nil,List.mem_singleton] at hb
  subst hab; exact hn (hb ▸ ha)⟩
theorem Wlk.perm {es : Array MapEntry} {clock : Nat} {ms : List MapEntry} (h : Wlk es clock ms) (hall : ∀ e∈es.toList,e.born∈ms.map (·.born)) : es.toList.Perm ms:=by
  have inj : ∀ a∈es.toList,∀ b∈es.toList,a.born = b.born→a = b:=by
    have hn:=h.nodup
    generalize es.toList = L at hn
    intro a ha b hb hab
    induction L with
    | nil=>cases ha
    | cons x r ih =>
      simp only [List.map_cons,List.nodup_cons,List.mem_map,not_exists,not_and] at hn
      rcases List.mem_cons.1 ha with rfl | ha' <;> rcases List.mem_cons.1 hb with rfl | hb'
      · rfl
      · exact absurd hab.symm (hn.1 b hb')
      · exact absurd hab (hn.1 a ha')
      · exact ih hn.2 ha' hb'
  have nd1 : es.toList.Nodup:=by
    have:=h.nodup
    exact List.Pairwise.of_map (S:=(· ≠ ·)) _ (fun a b h e=>h (by rw [e])) this
  have nd2 : ms.Nodup:=List.Pairwise.of_map (S:=(· ≠ ·)) _ (fun a b h e=>h (by rw [e])) h.nd
  refine (List.perm_ext_iff_of_nodup nd1 nd2).2 fun a=>⟨fun ha=>?_,h.sub a⟩
  obtain ⟨b,hb,hab⟩:=List.mem_map.1 (hall a ha)
  rw [← inj b (h.sub b hb) a ha hab]; exact hb
theorem setBlock_put{w:World}{b:Nat}{o:Obj}:ChangeMaps.setBlock w b o=w.putObj b o:=rfl
theorem Nx.mp {b m clock : Nat} {es : Array MapEntry} {ms : List MapEntry} {ty : TypeId} {f : Obj→List As} {k : Value→World→Prop} (E : Hs w0 F w l) (hw : Wlk es clock ms) [h1 : WOb l b (itO m clock ms) f] [h2 : FPt l m (mapO es clock) r]
  (more : ∀ e w',e∈es.toList→e.born ∉ ms.map (·.born)→Wlk es clock (ms++[e])→Hs w0 F w' (f (itO m clock (ms++[e])))→k (.tuple #[.bool true,e.key,e.val]) w')
  (done : es.toList.Perm ms→k (.tuple #[.bool false]) w) : Ef P (Instr.next (.pointer (some ⟨b,0,none⟩)) false ty) w k:=by
 obtain ⟨i,hi,hf⟩:=h1.at_
 have hb : w.heap[b]? = some (itO m clock ms):=E.sat _ (List.mem_of_getElem? hi)
 have hm : w.heap[m]? = some (mapO es clock):=E.atOb
 rcases run_next_at (P:=P) w ty b m clock clock _ es clock hb hm hw.lt (Nat.le_refl _) with ⟨h0,hr⟩ | ⟨e,he,w1,hw1,hr⟩
 ·refine ⟨_,w,hr,done (hw.perm fun e he=>?_)⟩
  by_cases hn : e.born∈ms.map (·.born)
  ·exact hn
  ·have hmem:=(Wlk.left (clock:=clock) e).2 ⟨he,hn⟩
   have : (leftOf es (ms.map (·.born)).toArray).toList = []:=by rw [← List.length_eq_zero_iff]; simpa using h0
   rw [this] at hmem; cases hmem
 ·obtain ⟨he1,he2⟩:=(Wlk.left (clock:=clock) e).1 he
  refine ⟨_,_,hr,more e _ he1 he2 (hw.push he1 he2) ?_⟩
  have E1 : Hs w0 F w1 l:=by rcases hw1 with rfl | rfl; exact E; exact E.grow (Upd.drew _)
  rw [hf,setBlock_put]
  refine E1.set i hi (Upd.putObj _) ?_ fun x hx=>.inl hx
  have hb1 : w1.heap[b]? = some (itO m clock ms):=E1.sat _ (List.mem_of_getElem? hi)
  show (w1.putObj b _).heap[b]? = _
  rw [putObj_at hb1]
  simp [itO]
theorem Ent.mp {b m clock : Nat} {es : Array MapEntry} {ms : List MapEntry} {e : MapEntry} {r2 : List As} {k : Value→Prop} (E : Hs w0 F w l) (hw : Wlk es clock (ms++[e])) [h1 : FPt l b (itO m clock (ms++[e])) r] [h2 : FPt l m (mapO es clock) r2]
  (hk : k (.tuple #[e.key,e.val])) : Rd P (Instr.entry (.pointer (some ⟨b,0,none⟩))) w k:=by
 have hb : w.heap[b]? = some (itO m clock (ms++[e])):=E.atOb
 have hm : w.heap[m]? = some (mapO es clock):=E.atOb
 refine ⟨_,run_entry_at w b m clock (ms.map (·.born)).toArray es clock e ?_ hm (hw.sub e (by simp)) hw.nodup,hk⟩
 rw [hb]; simp [itO]

theorem Hs.mapBack{m clock:Nat}{kt:KT}{M:AL}{es:Array MapEntry}{ms:List MapEntry}(E:Hs w0 F w l)[h:FPt l m (mapO es clock) r](hp:prs es.toList=M)(hw:Wlk es clock ms)(hok:∀p∈M,kt.ok p.1=true):Hs w0 F w (mp m kt M::r):=by
 have:=(E.perm h.perm).turn 0 (A':=mp m kt M) rfl (λhs=>⟨⟨es,clock,hs,hp,hw.nodup,hw.lt⟩,hok⟩) (λb hb=>hb)
 simpa using this

def itM(b N:Nat)(w:World):Nat:=match w.heap[b]? with
 |some (.mapIter _ _ seen _)=>N-seen.size
 |_=>0
theorem itM_eq{b m clock N:Nat}{ms:List MapEntry}(E:Hs w0 F w l)[h:FPt l b (itO m clock ms) r]:itM b N w=N-ms.length:=by
 unfold itM
 rw[show w.heap[b]? =_ from E.atOb]
 simp[itO]
theorem Wlk.le {es : Array MapEntry} {clock : Nat} {ms : List MapEntry} (h : Wlk es clock ms) : ms.length≤es.size:=by
 have key : ∀ (a b : List Nat),a.Nodup→(∀ e∈a,e∈b)→a.length≤b.length:=by
  intro a
  induction a with
  | nil=>intro b _ _; exact Nat.zero_le _
  | cons x r ih =>
   intro b hn hs
   rw [List.nodup_cons] at hn
   have hx:=hs x List.mem_cons_self
   have:=ih (b.erase x) hn.2 (fun e he=>by
    have hne : e ≠ x:=fun hh=>hn.1 (hh ▸ he)
    exact (List.mem_erase_of_ne hne).2 (hs e (List.mem_cons_of_mem _ he)))
   rw [List.length_erase_of_mem hx] at this
   have:=List.length_pos_of_mem hx
   simp; omega
 have:=key (ms.map (·.born)) (es.toList.map (·.born)) h.nd fun e he=>by
  obtain ⟨x,hx,rfl⟩:=List.mem_map.1 he
  exact List.mem_map.2 ⟨x,h.sub x hx,rfl⟩
 simpa using this

theorem ptr_eql{t el:TypeId}{i:TypeInfo}{a b:Addr}{ca cb:List Value}{ta tb:TypeId}(hu:P.underlying t=some (.pointer el))(hi:P.info? el=some i)(hz:i.size≠0)(ha:w.heap[a.block]? =some (oc ca ta))(hb:w.heap[b.block]? =some (oc cb tb)):
  (binOp .eql t (.pointer (some a)) (.pointer (some b))).run P w=.ok (.bool (decide (a=b))) w:=by
 by_cases h:a=b
 ·subst h;rw[decide_eq_true rfl];exact run_eql_ptr_same w a hu hi
 ·rw[decide_eq_false h];exact run_eql_ptr_other w hu hi hz h ha hb
theorem Eq.pp{t el:TypeId}{n:Nat}{a b:Addr}{ca cb:List Value}{ta tb:TypeId}{x y:Operand}{k:Value→Prop}(hu:P.underlying t=some (.pointer el))(hs:sizeK P el=some (n+1))
  (ha:w.heap[a.block]? =some (oc ca ta))(hb:w.heap[b.block]? =some (oc cb tb))(hk:k (.bool (decide (a=b)))):Rd P (eqS .eql t x y (.pointer (some a)) (.pointer (some b))) w k:=by
 refine⟨_,?_,hk⟩
 have hg:(eqGuard .eql t x y (.pointer (some a)) (.pointer (some b))).run P w=.ok () w:=by unfold eqGuard;rfl
 unfold eqS
 rw[Sem.run_bind,hg,Result.andThen_ok]
 unfold sizeK at hs
 cases hi:P.info? el with
 |none=>rw[hi]at hs;cases hs
 |some i=>
  rw[hi]at hs
  simp only[Option.map_some,Option.some.injEq]at hs
  exact ptr_eql hu hi (by omega) ha hb

instance{b:Bool}{op:(Value→World→Prop)→Prop}{w:World}{k:Value→World→Prop}:Stp (Gd undef b op w k) (k undef w):=⟨λh=>.inr ⟨by simp[isB,undef],h⟩⟩
theorem LnL.nil{c:Nat}{k:Value→Prop}(h:k (.int .i64 0)):LnL (.slice none 0 c) k:=⟨none,0,c,rfl,h⟩
instance(priority:=1500){n sz b o:Nat}{kk:IntKind}{k:Value→Prop}:Stp (IxP (n+1) sz (.pointer (some ⟨b,o,none⟩)) (.int kk 0) k) (k (.pointer (some ⟨b,o,none⟩))):=
 ⟨λh=>⟨_,_,_,rfl,rfl,by omega,by omega,by rw[add_mk];simpa using h⟩⟩
instance(priority:=1500){n sz b:Nat}{kk:IntKind}{k:Value→Prop}:Stp (IxP (n+2) sz (.pointer (some ⟨b,0,none⟩)) (.int kk 1) k) (k (.pointer (some ⟨b,sz,none⟩))):=
 ⟨λh=>⟨_,_,_,rfl,rfl,by omega,by omega,by rw[add_mk];simpa using h⟩⟩
end
end Go.Sh
namespace Go.Sh
set_option linter.unusedVariables false
set_option linter.unusedSimpArgs false
open Go
section
variable {P:Program} {w0:World} {F:Nat→Prop} {w:World} {l r:List As}

def Iter (P : Program) (w0 : World) (F : Nat→Prop) {α : Type} (g : Value) (enc : α→Value) (Pf : List α→α→Prop) (Whole : List α→Prop) (own vis own' : List As) : Prop :=
  ∀ (K S : List α→List As→Prop) (y : Value) (w : World) (ks rest : List As),
    (∀ pre x w ks rest,Pf pre x→K pre ks→Hs w0 F w (ks++(vis++rest))→CaV P y #[enc x] w fun v w' =>
      (v = .bool true∧∃ ks',K (pre++[x]) ks'∧Hs w0 F w' (ks'++(vis++rest)))∨(v = .bool false∧∃ ks',S (pre++[x]) ks'∧Hs w0 F w' (ks'++(vis++rest)))) →
    K [] ks→Hs w0 F w (ks++(own++rest)) →
    CaV P g #[y] w fun _ w'=>(∃ xs ks',Whole xs∧K xs ks'∧Hs w0 F w' (ks'++(own'++rest)))∨(∃ xs ks',S xs ks'∧Hs w0 F w' (ks'++(own'++rest)))
abbrev dfO:Obj:=.deferred (some [])
theorem CaV.func{g:Value}{gf:FuncId}{first cap args:Array Value}{k:Value→World→Prop}(hg:g=.func (.func gf) first cap)(h:CaV P g args w k):hasBody P gf=true∧Ca P gf (first++args++cap) w k:=by
 subst hg
 rcases h with⟨f,x,y,h1,h2,h3⟩|⟨L,h1,_⟩
 ·cases h1;exact⟨h2,h3⟩
 ·cases h1

theorem RFc.hs {α : Type} {g : Value} {gf : FuncId} {first cap : Array Value} {enc : α→Value} {Pf : List α→α→Prop} {Whole : List α→Prop} {own vis own' ds : List As} {L : Nat} {w1 : Loop→World} (hg : g = .func (.func gf) first cap) (hb : hasBody P gf = true)
    (hit : Iter P w0 F g enc Pf Whole own vis own') (K : List α→List As→Prop) (Sn : Nat→List α→List As→Prop) (Sr : List α→List As→Prop) {ks rest : List As}
    (E : ∀ r,Hs w0 F (w1 r) (pt L (lpO r .ready none)::(ds++(ks++(own++rest))))) (h0 : K [] ks) {B : RB} {kn : World→Prop} {ke : List (Nat × (World→Prop))} {kr : World→Prop}
    (body : ∀ (r : Loop) pre x w ks rest Rn Re Rr,Pf pre x→K pre ks→Hs w0 F w (pt L (lpO r .ready none)::(ds++(ks++(vis++rest)))) →
      (∀ w' ks',K (pre++[x]) ks'→Hs w0 F w' (pt L (lpO r .busy none)::(ds++(ks'++(vis++rest))))→Rn w') →
      (∀ i w' ks',Sn i (pre++[x]) ks'→Hs w0 F w' (pt L (lpO r .busy none)::(ds++(ks'++(vis++rest))))→Re i w') →
      (∀ w' ks',Sr (pre++[x]) ks'→Hs w0 F w' (pt L (lpO r .busy none)::(ds++(ks'++(vis++rest))))→Rr w')→B r L [enc x] w Rn Re Rr)
    (done : ∀ w xs ks,Whole xs→K xs ks→Hs w0 F w (ds++(ks++(own'++rest)))→kn w)
    (exit : ∀ i w xs ks,Sn i xs ks→Hs w0 F w (ds++(ks++(own'++rest)))→∃ q,q∈ke∧q.1 = i∧q.2 w)
    (ret : ∀ w xs ks,Sr xs ks→Hs w0 F w (ds++(ks++(own'++rest)))→kr w) : RFc P g L w1 B kn ke kr:=by
  refine ⟨gf,first,cap,hg,hb,fun r hY=>?_⟩
  have hc:=hit (fun pre ls=>∃ ks,K pre ks∧ls = pt L (lpO r .ready none)::(ds++ks))
    (fun pre ls=>∃ ks,(∃ i,Sn i pre ks∧ls = pt L (lpO r .done (some (.exit i)))::(ds++ks))∨(Sr pre ks∧ls = pt L (lpO r .done (some .ret))::(ds++ks)))
    (.func (.yield L) #[] #[]) (w1 r) (pt L (lpO r .ready none)::(ds++ks)) rest ?_ ⟨ks,h0,rfl⟩ (by simpa [List.append_assoc] using E r)
  · refine ((CaV.func hg hc).2).mono ?_
    rintro v w' h
    rcases h with ⟨xs,ls,hw,⟨ks',hk,hls⟩,E'⟩ | ⟨xs,ls,⟨ks',⟨i,hs,hls⟩ | ⟨hs,hls⟩⟩,E'⟩ <;> rw [hls] at E' <;> simp only [List.cons_append,List.append_assoc] at E'
    · refine .inl ⟨E'.sat _ List.mem_cons_self,done _ xs ks' hw hk ?_⟩
      exact (E'.wOb (b:=L) (lpO r .exhausted none)).tl
    · have E2:=(E'.wOb (b:=L) (lpO r .exhausted (some (.exit i)))).tl
      obtain ⟨q,hq,hqi,hq2⟩:=exit i _ xs ks' hs E2
      obtain ⟨i',K'⟩:=q
      simp only at hqi hq2
      subst hqi
      exact .inr (.inl ⟨(i',K'),hq,E'.sat _ List.mem_cons_self,hq2⟩)
    · refine .inr (.inr ⟨E'.sat _ List.mem_cons_self,ret _ xs ks' hs ?_⟩)
      exact (E'.wOb (b:=L) (lpO r .exhausted (some .ret))).tl
  · rintro pre x w' ls rest' hp ⟨ks',hk,hls⟩ E'
    rw [hls] at E'
    simp only [List.cons_append,List.append_assoc] at E'
    refine hY [enc x] w' _ (body r pre x w' ks' rest' _ _ _ hp hk E' ?_ ?_ ?_) (E'.sat _ List.mem_cons_self)
    · intro w2 ks2 hk2 E2
      refine ⟨E2.sat _ List.mem_cons_self,.inl ⟨rfl,_,⟨ks2,hk2,rfl⟩,?_⟩⟩
      have:=E2.wOb (b:=L) (lpO r .ready none)
      simpa [List.append_assoc] using this
    · intro i w2 ks2 hk2 E2
      refine ⟨E2.sat _ List.mem_cons_self,.inr ⟨rfl,_,⟨ks2,.inl ⟨i,hk2,rfl⟩⟩,?_⟩⟩
      have:=E2.wOb (b:=L) (lpO r .done (some (.exit i)))
      simpa [List.append_assoc] using this
    · intro w2 ks2 hk2 E2
      refine ⟨E2.sat _ List.mem_cons_self,.inr ⟨rfl,_,⟨ks2,.inr ⟨hk2,rfl⟩⟩,?_⟩⟩
      have:=E2.wOb (b:=L) (lpO r .done (some .ret))
      simpa [List.append_assoc] using this

theorem RFo.hs {α : Type} {g : Value} {gf : FuncId} {first cap : Array Value} {enc : α→Value} {Pf : List α→α→Prop} {Whole : List α→Prop} {own vis own' : List As} (hg : g = .func (.func gf) first cap) (hb : hasBody P gf = true)
    (hit : Iter P w0 F g enc Pf Whole own vis own') (K : List α→List As→Prop) (Sn : Nat→List α→List As→Prop) (Sr : List α→List As→Prop) {ks rest : List As}
    (E : Hs w0 F w (ks++(own++rest))) (h0 : K [] ks) {B : RB} {kn : Nat→World→Prop} {ke : List (Nat × (Nat→World→Prop))} {kr : Nat→World→Prop}
    (body : ∀ (r : Loop) L D pre x w ks rest Rn Re Rr,w0.heap.size≤L→w0.heap.size≤D→Pf pre x→K pre ks→Hs w0 F w (pt L (lpO r .ready none)::pt D dfO::(ks++(vis++rest))) →
      (∀ w' ks',K (pre++[x]) ks'→Hs w0 F w' (pt L (lpO r .busy none)::pt D dfO::(ks'++(vis++rest)))→Rn w') →
      (∀ i w' ks',Sn i (pre++[x]) ks'→Hs w0 F w' (pt L (lpO r .busy none)::pt D dfO::(ks'++(vis++rest)))→Re i w') →
      (∀ w' ks',Sr (pre++[x]) ks'→Hs w0 F w' (pt L (lpO r .busy none)::pt D dfO::(ks'++(vis++rest)))→Rr w')→B r L [enc x] w Rn Re Rr)
    (done : ∀ D w xs ks,w0.heap.size≤D→Whole xs→K xs ks→Hs w0 F w (pt D dfO::(ks++(own'++rest)))→kn D w)
    (exit : ∀ i D w xs ks,w0.heap.size≤D→Sn i xs ks→Hs w0 F w (pt D dfO::(ks++(own'++rest)))→∃ q,q∈ke∧q.1 = i∧q.2 D w)
    (ret : ∀ D w xs ks,w0.heap.size≤D→Sr xs ks→Hs w0 F w (pt D dfO::(ks++(own'++rest)))→kr D w) : RFo P g w B kn ke kr:=by
  have hD : w0.heap.size≤w.heap.size:=E.upd.size
  have hL : w0.heap.size≤w.heap.size + 1:=by omega
  refine RFc.hs (ds:=[pt w.heap.size dfO]) hg hb hit K Sn Sr (ks:=ks) (rest:=rest) (fun r=>?_) h0 (fun r pre x w ks rest Rn Re Rr h1 h2 h3=>body r _ _ pre x w ks rest Rn Re Rr hL hD h1 h2 h3)
    (fun w xs ks h1 h2 h3=>done _ w xs ks hD h1 h2 h3) (fun i w' xs ks h1 h2=>?_) (fun w xs ks h1 h2=>ret _ w xs ks hD h1 h2)
  · have E1 : Hs w0 F (w.alloc dfO) (pt w.heap.size dfO::(ks++(own++rest))):=E.add (Upd.alloc w _) (heap_alloc_new w _) fun x hx=>by cases hx; exact Nat.le_refl _
    have hs : (w.alloc dfO).heap.size = w.heap.size + 1:=by show (w.heap.push _).size = _; simp
    have:=E1.add (A:=pt (w.heap.size + 1) (lpO r .ready none)) (Upd.alloc (w.alloc dfO) (lpO r .ready none)) (by rw [← hs]; exact heap_alloc_new _ _) fun x hx=>by cases hx; omega
    exact this
  · obtain ⟨q,hq,h3,h4⟩:=exit i _ w' xs ks hD h1 h2
    exact ⟨_,List.mem_map.2 ⟨q,hq,rfl⟩,h3,h4⟩

theorem RFi.hs {α : Type} {g : Value} {gf : FuncId} {first cap : Array Value} {enc : α→Value} {Pf : List α→α→Prop} {Whole : List α→Prop} {own vis own' : List As} {l0 : Nat} (hg : g = .func (.func gf) first cap) (hb : hasBody P gf = true)
    (hit : Iter P w0 F g enc Pf Whole own vis own') (K : List α→List As→Prop) (Sn : Nat→List α→List As→Prop) (Sr : List α→List As→Prop) {ks rest : List As}
    (E : Hs w0 F w (ks++(own++rest))) (hl : ∃ r',w.heap[l0]? = some (.loop r')) (h0 : K [] ks) {B : RB} {kn : World→Prop} {ke : List (Nat × (World→Prop))} {kr : World→Prop}
    (body : ∀ (r : Loop) L pre x w ks rest Rn Re Rr,w0.heap.size≤L→Pf pre x→K pre ks→Hs w0 F w (pt L (lpO r .ready none)::(ks++(vis++rest))) →
      (∀ w' ks',K (pre++[x]) ks'→Hs w0 F w' (pt L (lpO r .busy none)::(ks'++(vis++rest)))→Rn w') →
      (∀ i w' ks',Sn i (pre++[x]) ks'→Hs w0 F w' (pt L (lpO r .busy none)::(ks'++(vis++rest)))→Re i w') →
      (∀ w' ks',Sr (pre++[x]) ks'→Hs w0 F w' (pt L (lpO r .busy none)::(ks'++(vis++rest)))→Rr w')→B r L [enc x] w Rn Re Rr)
    (done : ∀ w xs ks,Whole xs→K xs ks→Hs w0 F w (ks++(own'++rest))→kn w)
    (exit : ∀ i w xs ks,Sn i xs ks→Hs w0 F w (ks++(own'++rest))→∃ q,q∈ke∧q.1 = i∧q.2 w)
    (ret : ∀ w xs ks,Sr xs ks→Hs w0 F w (ks++(own'++rest))→kr w) : RFi P l0 g w B kn ke kr:=by
  have hL : w0.heap.size≤w.heap.size:=E.upd.size
  refine ⟨hl,RFc.hs (ds:=[]) hg hb hit K Sn Sr (ks:=ks) (rest:=rest) (fun r=>?_) h0 (fun r pre x w ks rest Rn Re Rr h1 h2 h3=>body r _ pre x w ks rest Rn Re Rr hL h1 h2 h3) done exit ret⟩
  exact E.add (Upd.alloc w _) (heap_alloc_new w _) fun x hx=>by cases hx; exact Nat.le_refl _
instance{E:Hs w0 F w l}{D:Nat}{ds:List Df}{k:World→Prop}{f:Obj→List As}[h:FPt l D dfO r][h2:WOb l D dfO f]:StpW E (Lvs P (.mark D::ds) w k) (∀w',Hs w0 F w' r→Lvs P ds w' k):=⟨λhk=>
 ⟨E.atOb,hk _ (by
  have E1:=E.perm h.perm
  exact(E1.wOb (b:=D) (.deferred none)).tl)⟩⟩
instance{E:Hs w0 F w l}{lp:Loop}{L:Nat}{k:World→Prop}{f:Obj→List As}[h:WOb l L (lpO lp .ready none) f]:StpW E (Bgn lp L w k) (∀w',Hs w0 F w' (f (lpO lp .busy none))→k w'):=⟨λhk=>by
 obtain⟨i,h1,-⟩:=h.at_
 exact⟨E.sat _ (List.mem_of_getElem? h1),hk _ (E.wOb (b:=L) (lpO lp .busy none))⟩⟩
instance{b:Loop→Nat→Value→World→(World→Prop)→(Nat→World→Prop)→(World→Prop)→Prop}{lp:Loop}{L:Nat}{v:Value}{Rn:World→Prop}{Re:Nat→World→Prop}{Rr:World→Prop}:Stp (RB.one b lp L [v] w Rn Re Rr) (b lp L v w Rn Re Rr):=⟨id⟩
instance{b:Loop→Nat→Value→Value→World→(World→Prop)→(Nat→World→Prop)→(World→Prop)→Prop}{lp:Loop}{L:Nat}{u v:Value}{Rn:World→Prop}{Re:Nat→World→Prop}{Rr:World→Prop}:Stp (RB.two b lp L [u,v] w Rn Re Rr) (b lp L u v w Rn Re Rr):=⟨id⟩
end
end Go.Sh
namespace Go.Sh
set_option linter.unusedVariables false
set_option linter.unusedSimpArgs false
open Go

def RdP(w0:World)(F:Nat→Prop)(l:List As)(a:Addr)(xs:List Value):Prop:=
 xs=[]∨∃b o,a=⟨b,o,none⟩∧∀w,Hs w0 F w l→∀(j:Nat) x,xs[j]? =some x→w.cell? ⟨b,o+j,none⟩=some x

def RdS(w0:World)(F:Nat→Prop)(l:List As)(sz n:Nat)(v:Value)(xs:List Value):Prop:=
 ∃a c,v=.slice a n c∧n≤c∧xs.length=n*sz∧(xs=[]∨∃p,a=some p∧RdP w0 F l p xs)
section
variable {P:Program} {w0:World} {F:Nat→Prop} {w:World} {l l' r:List As} {sz n:Nat} {v:Value} {xs:List Value} {a:Addr}
theorem RdP.weaken(h:RdP w0 F l a xs)(hl:∀w,Hs w0 F w l'→Hs w0 F w l):RdP w0 F l' a xs:=
 h.imp id λ⟨b,o,h1,h2⟩=>⟨b,o,h1,λw E=>h2 w (hl w E)⟩
theorem RdS.weaken(h:RdS w0 F l sz n v xs)(hl:∀w,Hs w0 F w l'→Hs w0 F w l):RdS w0 F l' sz n v xs:=by
 obtain⟨a,c,h1,h2,h3,h4⟩:=h
 exact⟨a,c,h1,h2,h3,h4.imp id λ⟨p,hp,h⟩=>⟨p,hp,h.weaken hl⟩⟩
theorem RdS.cons(h:RdS w0 F l sz n v xs)(A:As):RdS w0 F (A::l) sz n v xs:=h.weaken λ_ E=>E.tl
theorem RdS.app(h:RdS w0 F l sz n v xs)(k:List As):RdS w0 F (k++l) sz n v xs:=h.weaken λ_ E=>E.drop (List.sublist_append_right _ _)

theorem RdS.old(h:Rdl w0 v xs)(hF:∀b,¬F b):RdS w0 F l 1 xs.length v xs:=by
 obtain⟨a,c,h1,h2,h3⟩:=h
 refine⟨a,c,h1,h2,by simp,h3.imp id ?_⟩
 rintro⟨b,o,rfl,hlt,hc⟩
 refine⟨_,rfl,.inr ⟨b,o,rfl,λw E j x hx=>?_⟩⟩
 have hb:=E.upd.same b hlt (hF b)
 have:=hc j x hx
 unfold World.cell? at this ⊢
 rw[hb];exact this

theorem RdS.sl{T:TypeId}(h:slA v T sz xs∈l)(hz:0<sz)(hw:Hs w0 F w l):RdS w0 F l sz (xs.length / sz) v xs:=by
 have hs:=hw.sat _ h
 rcases hs.ex with⟨h1,h2⟩|⟨b,off,m,cap,pre,sp,fr,h1,h2,h3,h4,h5,h6,h7⟩
 ·subst h2;exact⟨none,0,by simpa using h1,by simp,by simp,.inl rfl⟩
 ·have hdiv:xs.length / sz=m:=by rw[h4,Nat.mul_div_cancel _ hz]
  rw[hdiv]
  refine⟨_,_,h1,h6,h4,.inr ⟨_,rfl,.inr ⟨b,off,rfl,λw2 E j x hx=>?_⟩⟩⟩
  rcases(E.sat _ h).ex with⟨h1',h2'⟩|⟨b',off',m',cap',pre',sp',fr',h1',h2',h3',h4',h5',h6',h7'⟩
  ·rw[h2']at hx;simp at hx
  ·rw[h1]at h1'
   simp only[Value.slice.injEq,Option.some.injEq,Addr.mk.injEq,and_true]at h1'
   obtain⟨⟨rfl,rfl⟩,-,-⟩:=h1'
   refine cell_of h2' ?_
   have hlt:=(List.getElem?_eq_some_iff.1 hx).1
   simp only[List.getElem?_toArray]
   rw[List.append_assoc,List.getElem?_append_right (by omega),List.getElem?_append_left (by omega)]
   rw[show off+j-pre'.length=j by omega];exact hx
theorem RdS.len(h:RdS w0 F l sz n v xs){k:Value→Prop}(hk:k (.int .i64 (n:Int))):LnL v k:=by
 obtain⟨a,c,rfl,-,-,-⟩:=h
 exact⟨a,n,c,rfl,hk⟩
theorem RdS.ix(h:RdS w0 F l sz n v xs){i:Int}{kk:IntKind}{k:Value→Prop}(h0:0≤i)(hi:i.toNat<n)(hz:0<sz)(hk:∀a,RdP w0 F l a (xs.drop (i.toNat*sz))→k (.pointer (some a))):IxA sz v (.int kk i) k:=by
 obtain⟨a,c,rfl,h1,h2,h3⟩:=h
 have hpos:0<xs.length:=by rw[h2];exact Nat.mul_pos (by omega) hz
 rcases h3 with rfl|⟨p,rfl,h3⟩
 ·simp at hpos
 rcases h3 with rfl|⟨b,o,rfl,h4⟩
 ·simp at hpos
 refine⟨_,n,c,kk,i,rfl,rfl,h0,by omega,?_⟩
 rw[add_mk]
 exact hk _ (.inr ⟨b,_,rfl,λw E j x hx=>by
  rw[List.getElem?_drop]at hx
  have:=h4 w E _ x hx
  rwa [Nat.add_assoc]⟩)
theorem RdP.fa(h:RdP w0 F l a xs){off:Nat}{k:Value→Prop}(hne:xs≠[])(hk:∀a',RdP w0 F l a' (xs.drop off)→k (.pointer (some a'))):Fa off (.pointer (some a)) k:=by
 rcases h with rfl|⟨b,o,rfl,h4⟩
 ·exact absurd rfl hne
 refine⟨_,rfl,?_⟩
 rw[add_mk]
 exact hk _ (.inr ⟨b,_,rfl,λw E j x hx=>by
  rw[List.getElem?_drop]at hx
  have:=h4 w E _ x hx
  rwa [Nat.add_assoc]⟩)
theorem RdP.ld(h:RdP w0 F l a xs)(E:Hs w0 F w l){x:Value}(hx:xs[0]? =some x){k:Value→Prop}(hk:k x):Ld (.pointer (some a)) w k:=by
 rcases h with rfl|⟨b,o,rfl,h4⟩
 ·cases hx
 exact⟨_,x,rfl,h4 w E 0 x hx,hk⟩
theorem RdP.lda(h:RdP w0 F l a xs)(E:Hs w0 F w l){m:Nat}{ds:List Value}(hd:xs.take m=ds)(hm:ds.length=m)(hpos:0<m){k:Value→Prop}(hk:k (.agg ds.toArray)):LdA P m (.pointer (some a)) w k:=by
 have hle:m≤xs.length:=by rw[← hm,← hd];simp;omega
 rcases h with rfl|⟨b,o,rfl,h4⟩
 ·simp at hle;omega
 refine⟨_,ds.toArray,rfl,?_,hk⟩
 have key:∀(n i:Nat) (acc:Array Value),i+n≤xs.length→(loadCellsFrom ⟨b,o,none⟩ i n acc).run P w=.ok (acc++((xs.drop i).take n).toArray) w:=by
  intro n
  induction n with
  |zero=>intro i acc _;simp[loadCellsFrom]
  |succ n ih=>
   intro i acc hn
   have hlt:i<xs.length:=by omega
   have hc:w.cell? ((⟨b,o,none⟩:Addr).add i)=some xs[i]:=by rw[add_mk];exact h4 w E i _ (List.getElem?_eq_getElem hlt)
   simp only[loadCellsFrom,Sem.run_bind,run_load_cell hc,Result.andThen_ok]
   rw[ih (i+1) _ (by omega)]
   congr 1
   apply Array.ext'
   simp only[Array.toList_append,Array.toList_push,List.append_assoc]
   congr 1
   have e:=List.drop_eq_getElem_cons hlt
   simp only[e,List.take_succ_cons,List.singleton_append]
 unfold loadCells
 have:=key m 0 #[] (by omega)
 rw[this,List.drop_zero,hd]
 simp
end
end Go.Sh
namespace Go.Sh
set_option linter.unusedVariables false
set_option linter.unusedSimpArgs false
open Go Go.Sort
section
variable {w0:World} {F:Nat→Prop} {w:World} {l:List As} {α:Type} [Inhabited α] {enc:α→Value}
theorem mid_get(pre xs sp:List Value)(k:Nat):(pre++xs++sp)[k]? =if k<pre.length then pre[k]? else if k<pre.length+xs.length then xs[k-pre.length]? else sp[k-pre.length-xs.length]?:=by
 rw[List.append_assoc,List.getElem?_append,List.getElem?_append]
 by_cases h1:k<pre.length
 ·simp[h1]
 ·rw[if_neg h1,if_neg h1]
  by_cases h2:k<pre.length+xs.length
  ·rw[if_pos h2,if_pos (by omega)]
  ·rw[if_neg h2,if_neg (by omega)]
theorem putCells_mid(pre xs sp:List Value)(d:Array α)(hd:d.size=xs.length):putCells enc pre.length d (pre++xs++sp).toArray=(pre++d.toList.map enc++sp).toArray:=by
 apply Array.ext_getElem?
 intro k
 unfold putCells
 rw[Array.getElem?_mapIdx]
 simp only[List.getElem?_toArray]
 rw[mid_get,mid_get]
 simp only[List.length_map,Array.length_toList]
 by_cases h1:k<pre.length
 ·rw[if_pos h1,if_pos h1,List.getElem?_eq_getElem h1]
  simp only[Option.map_some]
  rw[if_neg (by omega)]
 ·rw[if_neg h1,if_neg h1]
  by_cases h2:k<pre.length+d.size
  ·rw[if_pos (by omega),if_pos h2,List.getElem?_eq_getElem (by omega:k-pre.length<xs.length)]
   simp only[Option.map_some]
   rw[if_pos (by omega),List.getElem?_map,Array.getElem?_toList,Array.getElem?_eq_getElem (by omega),Option.map_some,getElem!_pos d _ (by omega)]
  ·rw[if_neg (by omega),if_neg h2,hd]
   cases sp[k-pre.length-xs.length]? with
   |none=>rfl
   |some x=>simp only[Option.map_some];rw[if_neg (by omega)]
theorem putRow_at{b off:Nat}{cs:Array Value}{T:TypeId}{fr:Nat×Nat}{d:Array α}{n:Nat}{os:Array Obj}(h:w.heap[b]? =some (.cells cs T fr)):
  (grow (putRow enc (Sort.ahead w n) b off d) os).heap[b]? =some (.cells (putCells enc off d cs) T fr):=by
 have hlt:=(Array.getElem?_eq_some_iff.1 h).1
 unfold grow putRow mapBlock Sort.ahead
 show(w.heap.modify b (onCells (putCells enc off d))++os)[b]? =_
 rw[Array.getElem?_append_left (by simpa using hlt),Array.getElem?_modify,if_pos rfl,h]
 rfl
theorem putRow_upd {b off : Nat} {d : Array α} {n : Nat} {os : Array Obj} : Upd (· = b) w (grow (putRow enc (Sort.ahead w n) b off d) os):=by
  refine ⟨?_,fun x hx hn=>?_,rfl,rfl,rfl⟩
  · show w.heap.size≤(w.heap.modify b (onCells (putCells enc off d))++os).size
    simp
  · show (w.heap.modify b (onCells (putCells enc off d))++os)[x]? = w.heap[x]?
    rw [Array.getElem?_append_left (by simpa using hx),Array.getElem?_modify,if_neg (fun h=>hn h.symm)]
theorem putRow_upd0 {b off : Nat} {d : Array α} {n : Nat} : Upd (· = b) w (putRow enc (Sort.ahead w n) b off d):=by
  refine ⟨?_,fun x hx hn=>?_,rfl,rfl,rfl⟩
  · show w.heap.size≤(w.heap.modify b (onCells (putCells enc off d))).size
    simp
  · show (w.heap.modify b (onCells (putCells enc off d)))[x]? = w.heap[x]?
    rw [Array.getElem?_modify,if_neg (fun h=>hn h.symm)]
theorem putRow_at0{b off:Nat}{cs:Array Value}{T:TypeId}{fr:Nat×Nat}{d:Array α}{n:Nat}(h:w.heap[b]? =some (.cells cs T fr)):
  (putRow enc (Sort.ahead w n) b off d).heap[b]? =some (.cells (putCells enc off d cs) T fr):=by
 show(w.heap.modify b (onCells (putCells enc off d)))[b]? =_
 rw[Array.getElem?_modify,if_pos rfl,h]
 rfl

theorem SliceAt.holds{v:Value}{T:TypeId}{xs:List α}(h:SliceAt v T 1 (xs.map enc) w):(v=.slice none 0 0∧xs=[])∨∃b off cap,v=.slice (some ⟨b,off,none⟩) xs.length cap∧Holds enc w b off xs.toArray∧b<w.heap.size∧xs.length≤cap:=by
 rcases h.ex with⟨h1,h2⟩|⟨b,off,m,cap,pre,sp,fr,h1,h2,h3,h4,h5,h6,h7⟩
 ·exact .inl ⟨h1,by simpa using h2⟩
 ·simp only[List.length_map,Nat.mul_one]at h4
  subst h4
  refine .inr ⟨b,off,cap,h1,λj hj=>?_,(Array.getElem?_eq_some_iff.1 h2).1,h6⟩
  simp only[List.size_toArray]at hj
  refine⟨cell_of h2 ?_,?_⟩
  ·simp only[List.getElem?_toArray]
   rw[mid_get,if_neg (by omega),if_pos (by simp;omega),show off+j-pre.length=j by omega,List.getElem?_map,List.getElem?_eq_getElem hj,Option.map_some,getElem!_pos _ j (by simpa using hj)]
   simp
  ·unfold World.frozen?
   simp only[h2,ocf]
   have:=h7 (off+j) (by simp;omega)
   rw[Bool.and_eq_false_iff]
   by_cases h8:fr.1≤off+j
   ·right;simp;omega
   ·left;simp;omega

theorem hs_sortRow{v:Value}{T:TypeId}{b off n' cap k:Nat}{ys:List Value}{d:Array α}{os:Array Obj}(E:Hs w0 F w (slA v T 1 ys::l))(hv:v=.slice (some ⟨b,off,none⟩) n' cap)(hd:d.size=ys.length):
  Hs w0 F (grow (putRow enc (Sort.ahead w k) b off d) os) (slA v T 1 (d.toList.map enc)::l):=by
 subst hv
 have hs:=E.sat _ List.mem_cons_self
 rcases hs.ex with⟨h1,_⟩|⟨b',off',m,cap',pre,sp,fr,h1,h2,h3,h4,h5,h6,h7⟩
 ·cases h1
 ·cases h1
  refine E.set 0 rfl (putRow_upd.mono λx hx hxb=>?_) ⟨.inr ⟨_,_,_,_,pre,sp,fr,rfl,?_,h3,by simp;omega,by simp at h5 ⊢;omega,h6,by simpa[hd] using h7⟩⟩ λx hx=>.inl hx
  ·subst hxb;rfl
  ·rw[putRow_at h2,← h3,putCells_mid _ _ _ _ hd];rfl

theorem hs_cutRow{v:Value}{T:TypeId}{b off n' cap k:Nat}{ys:List Value}{d tail:List α}(E:Hs w0 F w (slA v T 1 ys::l))(hv:v=.slice (some ⟨b,off,none⟩) n' cap)(hd:d.length+tail.length=ys.length):
  Hs w0 F (putRow enc (Sort.ahead w k) b off (d++tail).toArray) (slA (.slice (some ⟨b,off,none⟩) d.length cap) T 1 (d.map enc)::l):=by
 subst hv
 have hs:=E.sat _ List.mem_cons_self
 rcases hs.ex with⟨h1,_⟩|⟨b',off',m,cap',pre,sp,fr,h1,h2,h3,h4,h5,h6,h7⟩
 ·cases h1
 ·cases h1
  refine E.set 0 rfl (putRow_upd0.mono λx hx hxb=>?_) ⟨.inr ⟨_,_,_,_,pre,tail.map enc++sp,fr,rfl,?_,h3,by simp,by simp at h5 ⊢;omega,by simp at h4;omega,?_⟩⟩ λx hx=>.inl hx
  ·subst hxb;rfl
  ·rw[putRow_at0 h2,← h3,putCells_mid _ _ _ _ (by simpa using hd)]
   simp[ocf]
  ·have:(pre++d.map enc++(tail.map enc++sp)).length=(pre++ys++sp).length:=by simp;omega
   rw[this];exact h7
end
end Go.Sh
namespace Go.Sh
set_option linter.unusedVariables false
set_option linter.unusedSimpArgs false
open Go

def Apart(A B:As):Prop:=∀b,A.foot b→¬B.foot b
def star(ls:List As):As where
 foot b:=∃A,A∈ls∧A.foot b
 sat w:=(∀A,A∈ls→A.sat w)∧ls.Pairwise Apart
 lt w h b:=λ⟨A,hA,hb⟩=>A.lt w (h.1 A hA) b hb
 loc w w' h hs:=⟨λA hA=>A.loc w w' (λb hb=>h b ⟨A,hA,hb⟩) (hs.1 A hA),hs.2⟩
section
variable {P:Program} {w0:World} {F:Nat→Prop} {w:World} {l r:List As}
theorem Hs.unstar{ls:List As}(E:Hs w0 F w (star ls::l)):Hs w0 F w (ls++l):=by
 have hs:=E.sat _ List.mem_cons_self
 have ha:=E.apart
 rw[List.pairwise_cons]at ha
 refine⟨E.upd,λA hA=>?_,λA hA b hb hlt=>?_,?_⟩
 ·rcases List.mem_append.1 hA with h|h
  ·exact hs.1 A h
  ·exact E.sat A (List.mem_cons_of_mem _ h)
 ·rcases List.mem_append.1 hA with h|h
  ·exact E.own _ List.mem_cons_self b ⟨A,h,hb⟩ hlt
  ·exact E.own A (List.mem_cons_of_mem _ h) b hb hlt
 ·rw[List.pairwise_append]
  exact⟨hs.2,ha.2,λA hA B hB b hb=>ha.1 B hB b ⟨A,hA,hb⟩⟩
theorem Hs.star{ls:List As}(E:Hs w0 F w (ls++l)):Hs w0 F w (star ls::l):=by
 have ha:=E.apart
 rw[List.pairwise_append]at ha
 refine⟨E.upd,λA hA=>?_,λA hA b hb hlt=>?_,?_⟩
 ·rcases List.mem_cons.1 hA with rfl|h
  ·exact⟨λB hB=>E.sat B (List.mem_append_left _ hB),ha.1⟩
  ·exact E.sat A (List.mem_append_right _ h)
 ·rcases List.mem_cons.1 hA with rfl|h
  ·obtain⟨B,hB,hb⟩:=hb
   exact E.own B (List.mem_append_left _ hB) b hb hlt
  ·exact E.own A (List.mem_append_right _ h) b hb hlt
 ·rw[List.pairwise_cons]
  exact⟨λB hB b ⟨A,hA,hb⟩=>ha.2.2 A hA B hB b hb,ha.2.1⟩
theorem Hs.starPerm{a b:List As}(hp:a.Perm b)(E:Hs w0 F w (Sh.star a::l)):Hs w0 F w (Sh.star b::l):=(E.unstar.perm (hp.append_right l)).star
theorem Hs.starNil(E:Hs w0 F w l):Hs w0 F w (Sh.star []::l):=Hs.star (ls:=[]) E
theorem Hs.disj{A B:As}{b:Nat}(E:Hs w0 F w (A::B::l))(h1:A.foot b)(h2:B.foot b):False:=by
 have:=E.apart
 rw[List.pairwise_cons]at this
 exact this.1 B List.mem_cons_self b h1 h2


structure Row where
 v:Value
 T:TypeId
 xs:List Value
def Row.as(r:Row):As:=slA r.v r.T 1 r.xs
def Pool(D:List Row):As:=star (D.map Row.as)
theorem split_perm{α:Type}{a:α}{l:List α}(h:a∈l):∃r,l.Perm (a::r):=by
 obtain⟨s,t,rfl⟩:=List.append_of_mem h
 exact⟨s++t,List.perm_middle⟩

def Rdy(D:List Row)(T:TypeId)(v:Value)(xs:List Value):Prop:=(xs=[]∧∃a c,v=.slice a 0 c)∨(⟨v,T,xs⟩:Row)∈D
theorem Rdy.mono{D D':List Row}{T:TypeId}{v:Value}{xs:List Value}(h:Rdy D T v xs)(hs:∀x,x∈D→x∈D'):Rdy D' T v xs:=h.imp id (hs _)
theorem Rdy.read{D:List Row}{T:TypeId}{v:Value}{xs:List Value}(h:Rdy D T v xs)(E:Hs w0 F w l)(hp:Pool D∈l):RdS w0 F l 1 xs.length v xs:=by
 rcases h with⟨rfl,a,c,rfl⟩|hx
 ·exact⟨a,c,rfl,Nat.zero_le _,rfl,.inl rfl⟩
 obtain⟨r1,h1⟩:=split_perm hp
 obtain⟨r2,h2⟩:=split_perm (List.mem_map.2 ⟨_,hx,rfl⟩:Row.as ⟨v,T,xs⟩∈D.map Row.as)
 have key:∀w,Hs w0 F w l→Hs w0 F w (slA v T 1 xs::(r2++r1)):=λw E=>(E.perm h1).unstar.perm (h2.append_right r1)
 have:=RdS.weaken (RdS.sl (w:=w) (l:=slA v T 1 xs::(r2++r1)) (sz:=1) (T:=T) List.mem_cons_self (by omega) (key w E)) key
 simpa using this
theorem Hs.pool(T:TypeId){D:List Row}{v:Value}{xs:List Value}(E:Hs w0 F w (slA v T 1 xs::Pool D::l)):Hs w0 F w (Pool (⟨v,T,xs⟩::D)::l):=by
 have E1:Hs w0 F w (D.map Row.as++slA v T 1 xs::l):=(E.perm (List.Perm.swap _ _ _)).unstar
 exact Hs.star (ls:=Row.as ⟨v,T,xs⟩::D.map Row.as) (E1.perm List.perm_middle)

section
variable {κ β:Type} [DecidableEq κ] {ek:κ→Value} {ev:β→Value}
def encM(ek:κ→Value)(ev:β→Value)(L:List (κ×β)):AL:=L.map λp=>(ek p.1,ev p.2)
def putL:List (κ×β)→κ→β→List (κ×β)
 |[],k,v=>[(k,v)]
 |p::r,k,v=>if k=p.1 then(k,v)::r else p::putL r k v
def delL:List (κ×β)→κ→List (κ×β)
 |[],_=>[]
 |p::r,k=>if k=p.1 then r else p::delL r k
def getL (L : List (κ × β)) (k : κ) : Option β:=(L.find? fun p=>decide (k = p.1)).map (·.2)
def KeyInj(ek:κ→Value):Prop:=∀a b,keyEq (ek a) (ek b)=decide (a=b)
theorem aget_enc(h:KeyInj ek)(L:List (κ×β))(k:κ):aget (encM ek ev L) (ek k)=(getL L k).map ev:=by
 unfold aget encM getL
 induction L with
 |nil=>rfl
 |cons p r ih=>
  simp only[List.map_cons,List.find?_cons,h k p.1]
  by_cases hk:k=p.1
  ·simp[hk]
  ·simp only[hk,decide_false];exact ih
theorem aput_enc(h:KeyInj ek)(L:List (κ×β))(k:κ)(v:β):aput (encM ek ev L) (ek k) (ev v)=encM ek ev (putL L k v):=by
 unfold encM
 induction L with
 |nil=>rfl
 |cons p r ih=>
  simp only[List.map_cons,aput,putL,h k p.1]
  by_cases hk:k=p.1
  ·simp[hk]
  ·simp only[hk,decide_false,Bool.false_eq_true,if_false,List.map_cons];rw[ih]
theorem adel_enc(h:KeyInj ek)(L:List (κ×β))(k:κ):adel (encM ek ev L) (ek k)=encM ek ev (delL L k):=by
 unfold encM
 induction L with
 |nil=>rfl
 |cons p r ih=>
  simp only[List.map_cons,adel,delL,h k p.1]
  by_cases hk:k=p.1
  ·simp[hk]
  ·simp only[hk,decide_false,Bool.false_eq_true,if_false,List.map_cons];rw[ih]
theorem getL_none {L : List (κ × β)} {k : κ} : getL L k = none↔k ∉ L.map (·.1):=by
 unfold getL
 simp only [Option.map_eq_none_iff,List.find?_eq_none,decide_eq_true_eq,List.mem_map,not_exists,not_and]
 exact ⟨fun h p hp he=>h p hp he.symm,fun h p hp he=>h p hp he.symm⟩
theorem getL_some {L : List (κ × β)} (hn : (L.map (·.1)).Nodup) {k : κ} {v : β} : getL L k = some v↔(k,v)∈L:=by
 unfold getL
 induction L with
 | nil=>simp
 | cons p r ih =>
  simp only [List.map_cons,List.nodup_cons] at hn
  simp only [List.find?_cons,List.mem_cons]
  by_cases hk : k = p.1
  ·subst hk
   simp only [decide_true,Option.map_some,Option.some.injEq]
   constructor
   ·rintro rfl; exact .inl rfl
   ·rintro (h | h)
    ·rw [← h]
    ·exact absurd (List.mem_map.2 ⟨_,h,rfl⟩) hn.1
  ·simp only [hk,decide_false]
   rw [ih hn.2]
   constructor
   ·exact .inr
   ·rintro (h | h)
    ·exact absurd (by rw [← h]) hk
    ·exact h
theorem getL_perm {L M : List (κ × β)} (hp : L.Perm M) (hn : (M.map (·.1)).Nodup) (k : κ) : getL L k = getL M k:=by
 have hl : (L.map (·.1)).Nodup:=(hp.map _).nodup_iff.2 hn
 cases h : getL M k with
 | none=>rw [getL_none] at h ⊢; exact fun hc=>h ((hp.map _).mem_iff.1 hc)
 | some v=>rw [getL_some hn] at h; rw [getL_some hl]; exact hp.mem_iff.2 h
theorem putL_new {L : List (κ × β)} {k : κ} {v : β} (h : k ∉ L.map (·.1)) : putL L k v = L++[(k,v)]:=by
 induction L with
 | nil=>rfl
 | cons p r ih =>
  simp only [List.map_cons,List.mem_cons,not_or] at h
  simp only [putL,h.1,if_false,List.cons_append,ih h.2]
theorem delL_perm {L : List (κ × β)} {k : κ} {v : β} (hn : (L.map (·.1)).Nodup) (h : (k,v)∈L) : L.Perm ((k,v)::delL L k):=by
 induction L with
 | nil=>cases h
 | cons p r ih =>
  simp only [List.map_cons,List.nodup_cons] at hn
  simp only [delL]
  by_cases hk : k = p.1
  ·simp only [hk,if_true]
   rcases List.mem_cons.1 h with h | h
   ·rw [← hk,h]
   ·exact absurd (List.mem_map.2 ⟨_,h,hk⟩) hn.1
  ·simp only [hk,if_false]
   rcases List.mem_cons.1 h with h | h
   ·exact absurd (by rw [← h]) hk
   ·exact ((ih hn.2 h).cons p).trans (List.Perm.swap _ _ _)
omit [DecidableEq κ] in
theorem encM_length(L:List (κ×β)):(encM ek ev L).length=L.length:=by simp[encM]
end
theorem keyI(kk:IntKind):KeyInj (Value.int kk):=λa b=>by simp[keyEq];rfl
theorem keyS:KeyInj Value.string:=λa b=>ba_beq a b
end
end Go.Sh
namespace Go.Sh
set_option linter.unusedVariables false
set_option linter.unusedSimpArgs false
open Go
section
variable {P:Program} {w0:World} {F:Nat→Prop} {w:World} {l r:List As} {n:Nat} {v:Value} {xs:List Value}

theorem RdS.slice(h:RdS w0 F l 1 n v xs){lo hi:Option Value}{a b:Nat}{k:Value→Prop}(hlo:bnd lo 0=some a)(hhi:bnd hi n=some b)(h1:a≤b)(h2:b≤n)
  (hk:∀v',RdS w0 F l 1 (b-a) v' ((xs.take b).drop a)→k v'):Sl 1 v lo hi k:=by
 obtain⟨p,c,rfl,hc,hl,hx⟩:=h
 refine⟨p,n,c,a,b,rfl,hlo,hhi,h1,by omega,hk _ ?_⟩
 refine⟨_,_,rfl,by omega,by simp;omega,?_⟩
 by_cases he:a=b
 ·left;subst he;simp
 right
 have hne:¬c=a:=by omega
 rw[if_neg hne]
 rcases hx with rfl|⟨q,rfl,hq⟩
 ·simp at hl;omega
 refine⟨_,rfl,?_⟩
 rcases hq with rfl|⟨g,o,rfl,hq⟩
 ·simp at hl;omega
 right
 refine⟨g,o+a,by show Addr.add _ _=_;rw[add_mk,Nat.mul_one],λw E j x hj=>?_⟩
 rw[List.getElem?_drop,List.getElem?_take]at hj
 split at hj
 ·have:=hq w E _ x hj
  rwa [Nat.add_assoc]
 ·cases hj
theorem RdS.first(h:RdS w0 F l 1 n v xs)(E:Hs w0 F w l){m:Nat}(hm:m≤n):(Builtin.firstCells 1 m v).run P w=.ok (xs.take m).toArray w:=by
 obtain⟨p,c,rfl,hc,hl,hx⟩:=h
 rcases hx with rfl|⟨q,rfl,hq⟩
 ·have:m=0:=by simp at hl;omega
  subst this
  cases p with
  |none=>rfl
  |some a=>simp[Builtin.firstCells,loadCells,loadCellsFrom]
 ·by_cases h0:m=0
  ·subst h0;simp[Builtin.firstCells,loadCells,loadCellsFrom]
  have:=RdP.lda (P:=P) hq E (m:=m) (ds:=xs.take m) (k:=λv=>v=.agg (xs.take m).toArray) rfl (by simp;omega) (by omega) rfl
  obtain⟨a,vs,h1,h2,h3⟩:=this
  cases h1
  simp only[Value.agg.injEq]at h3
  subst h3
  simpa[Builtin.firstCells] using h2

theorem RdS.cvb{T tS tT:TypeId}{s:ByteArray}{k:Value→Prop}(h:RdS w0 F l 1 n v (bts s))(E:Hs w0 F w l)(h1:P.underlying tS=some (.slice T))(h2:P.underlying tT=some .string)
  (h3:P.underlying T=some (.int .u8))(hk:k (.string s)):Rd P (convert tS tT v) w k:=by
 refine⟨.string s,?_,hk⟩
 have hf:=h.first (P:=P) E (Nat.le_refl n)
 obtain⟨p,c,rfl,hc,hl,hx⟩:=h
 rw[Nat.mul_one]at hl
 have hcs:bts s=(s.data.toList.map λb=>(b.toNat:Int)).map (Value.int .u8):=by simp[bts]
 have key:∀(l:List UInt8) (r:ByteArray),(l.map λb=>(b.toNat:Int)).foldl (λr n=>r.push (UInt8.ofNat n.toNat)) r=⟨(r.data.toList++l).toArray⟩:=by
  intro l
  induction l with
  |nil=>intro r;simp
  |cons x l ih=>
   intro r
   simp only[List.map_cons,List.foldl_cons]
   rw[ih]
   congr 1
   simp[ByteArray.push]
 have hr:(Conv.bytesToString (.slice p n c)).run P w=.ok (.string s) w:=by
  cases p with
  |none=>
   have hs:bts s=[]:=by
    rcases hx with h|⟨q,hq,_⟩
    ·exact h
    ·cases hq
   have:s=ByteArray.empty:=by
    cases s with|mk d=>
    have:d.toList=[]:=by simpa[bts] using hs
    have:d=#[]:=by rw[← Array.toList_eq_nil_iff];exact this
    subst this;rfl
   subst this;rfl
  |some a=>
   have hl2:(loadCells a n).run P w=.ok ((s.data.toList.map λb=>(b.toNat:Int)).map (Value.int .u8)).toArray w:=by
    rw[← hcs]
    have e:(bts s).take n=bts s:=List.take_of_length_le (by omega)
    rw[e]at hf
    simpa[Builtin.firstCells] using hf
   rw[run_bytesToString w _ n c _ hl2]
   congr 1
   congr 1
   rw[key]
   cases s with|mk d=>simp
 unfold convert
 simp only[Sem.run_bind,run_underlying h1,run_underlying h2,Result.andThen_ok]
 cases p with
 |none=>simp only[run_underlying h3,Result.andThen_ok];exact hr
 |some a=>simp only[run_underlying h3,Result.andThen_ok];exact hr

theorem MkS.pt{t e:TypeId}{z:Value}{by_:Nat}{n:Nat}{k:Value→World→Prop}(E:Hs w0 F w l)(h1:P.underlying t=some (.slice e))(hi:el3 P e=some (some z,1,by_))(hz:scalV z=true)
  (hb:by_*n≤281474976710656)(hn:n≤9223372036854775807)(hk:∀b w',w0.heap.size≤b→Hs w0 F w' (pt b (oc (List.replicate n z) e)::l)→k (.slice (some ⟨b,0,none⟩) n n) w'):
  Ef P (Instr.makeSlice t (.int .i64 (n:Int)) (.int .i64 (n:Int))) w k:=by
 unfold el3 at hi
 cases hi':P.info? e with
 |none=>rw[hi']at hi;cases hi
 |some i=>
  rw[hi']at hi
  simp only[Option.map_some,Option.some.injEq,Prod.mk.injEq]at hi
  obtain⟨hz1,hs1,hb1⟩:=hi
  have hbb:(i.bytes:Int)*(n:Int)≤281474976710656:=by
   rw[hb1]
   have:((by_*n:Nat):Int)≤281474976710656:=by omega
   rwa [Int.natCast_mul]at this
  have hr:=run_make (P:=P) w t e i z h1 hi' hz1 .i64 .i64 n n (by omega) (Int.le_refl _) hbb (by omega)
  refine⟨_,_,hr,?_⟩
  simp only[Int.toNat_natCast]
  refine hk _ _ E.upd.size (E.add (Upd.alloc w _) ?_ λx hx=>by cases hx;exact Nat.le_refl _)
  show(w.alloc _).heap[w.heap.size]? =_
  rw[heap_alloc_new]
  have hc:madeCells z.cells (n*i.size)=(List.replicate n z).toArray:=by
   rw[hs1,cells_scal hz]
   apply Array.ext
   ·simp[madeCells]
   ·intro j h1 h2
    simp[madeCells,Nat.mod_one]
  rw[hc]
  rfl
theorem setCs_eq:∀(vs cs:List Value) (o:Nat),o+vs.length≤cs.length→setCs cs o vs=cs.take o++vs++cs.drop (o+vs.length)
 |[],cs,o,_=>by simp[setCs]
 |v::vs,cs,o,h=>by
  simp only[List.length_cons]at h
  rw[setCs,setCs_eq vs _ _ (by simp;omega)]
  have e1:(cs.set o v).take (o+1)=cs.take o++[v]:=by
   rw[List.take_add_one,List.take_set_of_le (Nat.le_refl _)]
   simp[show o<cs.length by omega]
  have e2:(cs.set o v).drop (o+1+vs.length)=cs.drop (o+(vs.length+1)):=by
   rw[List.drop_set_of_lt (by omega)]
   congr 1;omega
  rw[e1,e2]
  simp

theorem Cpy.pt{dT sT ty e T:TypeId}{b o dLen dCap n m:Nat}{cs ys:List Value}{x:Value}{k:Value→World→Prop}(E:Hs w0 F w (pt b (oc cs T)::l))(h1:P.underlying dT=some (.slice e))(hs:sizeK P e=some 1)
  (hlen:(Builtin.lenOf x).run P w=.ok n w)(hm:m=min n dLen)(hf:(Builtin.firstCells 1 m x).run P w=.ok ys.toArray w)(hy:ys.length=m)(hfit:o+m≤cs.length)(hv:ys.all scalV=true)
  (hk:∀w',Hs w0 F w' (pt b (oc (cs.take o++ys++cs.drop (o+m)) T)::l)→k (.int .i64 m) w'):Ef P (Builtin.copy_ #[dT,sT] ty #[.slice (some ⟨b,o,none⟩) dLen dCap,x]) w k:=by
 have hsat:w.heap[b]? =some (ocf cs T (0,0)):=E.sat _ List.mem_cons_self
 obtain⟨w',g1,g2,g3⟩:=storeCells_run (P:=P) (b:=b) (T:=T) (fr:=(0,0)) o ys cs 0 w hsat (Free.zero _) (by omega) hv
 refine⟨.int .i64 m,w',?_,hk _ ?_⟩
 ·unfold sizeK at hs
  cases hq:P.info? e with
  |none=>rw[hq]at hs;cases hs
  |some i=>
   rw[hq]at hs
   simp only[Option.map_some,Option.some.injEq]at hs
   have hm':Nat.min n dLen=m:=hm.symm
   simp[Builtin.copy_,run_underlying h1,hlen,sizeOf,typeInfo,hq,hs,hm',hf,g1,goInt]
 ·have:=E.set 0 (A:=Sh.pt b (oc cs T)) (A':=Sh.pt b (oc (cs.take o++ys++cs.drop (o+m)) T)) rfl g3 (by
   show w'.heap[b]? =_
   rw[g2,Nat.add_zero,setCs_eq _ _ _ (by omega),hy];rfl) λx hx=>.inl hx
  simpa using this
theorem Hs.ptSl{b n:Nat}{cs:List Value}{T:TypeId}(hn:cs.length=n)(E:Hs w0 F w (pt b (oc cs T)::l)):Hs w0 F w (slA (.slice (some ⟨b,0,none⟩) n n) T 1 cs::l):=by
 have:=E.turn 0 (A:=Sh.pt b (oc cs T)) (A':=slA (.slice (some ⟨b,0,none⟩) n n) T 1 cs) rfl (λh=>⟨.inr ⟨b,0,n,n,[],[],(0,0),rfl,by rw[List.nil_append,List.append_nil];exact h,rfl,by omega,by simp;omega,Nat.le_refl _,Free.zero _⟩⟩) λx hx=>by
  have:some b=some x:=hx
  cases this;rfl
 simpa using this
theorem RdS.by1(v:Value){T:TypeId}{xs:List Value}[h:FSl l v T 1 xs r](E:Hs w0 F w l):RdS w0 F l 1 xs.length v xs:=by
 have:=RdS.sl (T:=T) h.mem (by omega) E
 simpa using this
theorem RdS.lenOf(h:RdS w0 F l 1 n v xs)(w:World):(Builtin.lenOf v).run P w=.ok n w:=by
 obtain⟨a,c,rfl,-,-,-⟩:=h;rfl
end
end Go.Sh