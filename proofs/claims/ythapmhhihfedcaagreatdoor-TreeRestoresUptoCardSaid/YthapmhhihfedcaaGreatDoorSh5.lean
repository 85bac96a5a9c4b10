/-
 The shallow layer, part 1: a weakest precondition over slots-as-functions that the kernel computes from a loaded function's code; its soundness against the kit's 'Code.wp'.
-/
import Derived.WalkKit
import Derived.RangeFuncRecord
import Derived.OrdersIn
import Derived.TacticsIn
import Derived.Scope
import Derived.DefersIn
import Derived.RangeFuncNested
namespace Go.Sh
set_option linter.unusedVariables false
set_option linter.unusedSimpArgs false
open Go

abbrev Env:=Nat→Value
def put(e:Env)(d:Nat)(v:Value):Env:=λt=>bif Nat.beq t d then v else e t
def putO(e:Env):Option Nat→Value→Env
 |some d,v=>put e d v
 |none,_=>e
def ev(e:Env):Operand→Value
 | .tmp t=>e t
 | .const v=>v
 | .global g=>.pointer (some ⟨g,0,none⟩)
 | .func f=>.func (.func f) #[] #[]

def Rd{α:Type}(P:Program)(s:Sem α)(w:World)(k:α→Prop):Prop:=∃v,s.run P w=.ok v w∧k v
def Ef{α:Type}(P:Program)(s:Sem α)(w:World)(k:α→World→Prop):Prop:=∃v w',s.run P w=.ok v w'∧k v w'
def Ca(P:Program)(f:FuncId)(args:Array Value)(w:World)(k:Value→World→Prop):Prop:=
 Calls P f args w λe w'=>∃v,e=.returned v∧k v w'
def Cnd(c:Value)(A B:Prop):Prop:=(c=.bool true∧A)∨(c=.bool false∧B)
def isB:Value→Option Bool
 | .bool b=>some b
 |_=>none

def Gd(g:Value)(want:Bool)(op:(Value→World→Prop)→Prop)(w:World)(k:Value→World→Prop):Prop:=
 (isB g=some want∧op k)∨(isB g≠some want∧k undef w)

def Ld(p:Value)(w:World)(k:Value→Prop):Prop:=∃a v,p=.pointer (some a)∧w.cell? a=some v∧k v
def LdA(P:Program)(n:Nat)(p:Value)(w:World)(k:Value→Prop):Prop:=
 ∃a cs,p=.pointer (some a)∧(loadCells a n).run P w=.ok cs w∧k (.agg cs)
def St(P:Program)(n:Nat)(p v:Value)(w:World)(k:World→Prop):Prop:=
 ∃a w',p=.pointer (some a)∧v.cells.size=n∧(storeCells a v.cells.toList).run P w=.ok () w'∧k w'
def Al(t:TypeId)(cs:Array Value)(w:World)(k:Value→World→Prop):Prop:=
 k (.pointer (some ⟨w.heap.size,0,none⟩)) (w.alloc (.cells cs t))
def nilOk:Value→Bool
 | .pointer (some _)=>true
 | .func (.func _) _ _=>true
 | .func (.via ..) _ _=>true
 | .func (.yield _) _ _=>true
 | .iface _ _=>true
 |_=>false
def Nc(x:Value)(k:Value→Prop):Prop:=nilOk x=true∧k x

def NilA(P:Program)(t:TypeId)(v:Value)(name:String):Prop:=∀w,(nilAhead (P.types.size+Made.depth) t v name).run P w=.ok (some false) w
def nilOkF(P:Program)(x:Value):Prop:=
 nilOk x=true∨∃t v name first cap,x=.func (.method name) first cap∧first[0]? =some (.iface t v)∧NilA P t v name
def NcF(P:Program)(x:Value)(k:Value→Prop):Prop:=nilOkF P x∧k x
def Fa(off:Nat)(x:Value)(k:Value→Prop):Prop:=∃a,x=.pointer (some a)∧k (.pointer (some (a.add off)))
def Pk(c a b:Value)(k:Value→Prop):Prop:=∃t,c=.bool t∧k (if t then a else b)
def Ex(x:Value)(i:Nat)(k:Value→Prop):Prop:=∃vs v,x=.tuple vs∧vs[i]? =some v∧k v

def MkM(w:World)(k:Value→World→Prop):Prop:=k (.map (some w.heap.size)) (w.alloc (.map #[] 0))
def Dr(w:World)(k:World→Prop):Prop:=k w.drew

def hasBody(P:Program)(f:FuncId):Bool:=
 match P.funcs[f]? with
 |some fn=>fn.body.isSome && fn.name != "runtime.NumGoroutine"
 |none=>false

abbrev FW(ro:Option Nat):Fence:={Fence.wide with round:=ro}
theorem FW.room(ro:Option Nat)(m:Nat):(FW ro).room m:=λ_ h=>by simp[FW,Fence.wide]at h

def CaY(P:Program)(L:Nat)(args:Array Value)(w:World)(k:Value→World→Prop):Prop:=
 ∃r:Loop,w.heap[L]? =some (.loop r)∧args.size=r.params.size∧
  RoundIn (FW none) 0 P L r.fn ((r.params.zip args).foldl (λtmps (t,a)=>tmps.setIfInBounds t a) r.tmps) r.assign r.body w λe w'=>∃v,e=.returned v∧k v w'
def CaV(P:Program)(fv:Value)(args:Array Value)(w:World)(k:Value→World→Prop):Prop:=
 (∃f first cap,fv=.func (.func f) first cap∧hasBody P f=true∧Ca P f (first++args++cap) w k)∨
 ∃L,fv=.func (.yield L) #[] #[]∧CaY P L args w k

def Iv(P:Program)(x:Value)(name:String)(args:Array Value)(w:World)(k:Value→World→Prop):Prop:=
 ∃t v f recv,x=.iface t v∧(method (P.types.size+Made.depth) t v name).run P w=.ok (f,recv) w∧hasBody P f=true∧Ca P f (#[recv]++args) w k
theorem callsIn_fw{ro:Option Nat}{n:Nat}{P:Program}{f:FuncId}{args:Array Value}{w:World}{R:Ending→World→Prop}(h:Calls P f args w R):CallsIn (FW ro) n P f args w R:=
 ⟨trivial,λcs _=>(callsIn_wide (n:=n).2 h).2 cs (room_wide _)⟩
theorem roundIn_fw{ro:Option Nat}{n:Nat}{P:Program}{l:Nat}{f:FuncId}{tmps:Array Value}{assign body:Code}{w:World}{R:Ending→World→Prop}
  (h:RoundIn (FW none) 0 P l f tmps assign body w R):RoundIn (FW ro) n P l f tmps assign body w R:=
 ⟨trivial,λc cs _=>h.2 c cs (FW.room _ _)⟩

def intOp(op:BinOp)(k:IntKind)(a b:Int):Option Value:=
 match op with
 | .add=>some (.int k (k.wrap (a+b)))
 | .sub=>some (.int k (k.wrap (a-b)))
 | .mul=>some (.int k (k.wrap (a*b)))
 | .quo=>if b=0 then none else some (.int k (k.wrap (a.tdiv b)))
 | .rem=>if b=0 then none else some (.int k (a.tmod b))
 | .and=>some (.int k (k.wrap (BitVec.ofInt k.bits a &&& BitVec.ofInt k.bits b).toNat))
 | .or=>some (.int k (k.wrap (BitVec.ofInt k.bits a |||BitVec.ofInt k.bits b).toNat))
 | .xor=>some (.int k (k.wrap (BitVec.ofInt k.bits a ^^^ BitVec.ofInt k.bits b).toNat))
 | .andNot=>some (.int k (k.wrap (BitVec.ofInt k.bits a &&& ~~~ BitVec.ofInt k.bits b).toNat))
 | .eql=>some (.bool (a == b))
 | .neq=>some (.bool (a != b))
 | .lss=>some (.bool (a<b))
 | .leq=>some (.bool (a≤b))
 | .gtr=>some (.bool (a>b))
 | .geq=>some (.bool (a≥b))
 |_=>none
def strOp(op:BinOp)(x y:ByteArray):Option Value:=
 match op with
 | .add=>if((x.size+y.size:Nat):Int)>IntKind.i64.max then none else some (.string (x++y))
 | .eql=>some (.bool (x.toList == y.toList))
 | .neq=>some (.bool !(x.toList == y.toList))
 | .lss=>some (.bool (Op.bytesLess x.toList y.toList))
 | .leq=>some (.bool (Op.bytesLess x.toList y.toList || x.toList == y.toList))
 | .gtr=>some (.bool !(Op.bytesLess x.toList y.toList || x.toList == y.toList))
 | .geq=>some (.bool !(Op.bytesLess x.toList y.toList))
 |_=>none
def binV(op:BinOp)(x y:Value):Option Value:=
 match x,y with
 | .int k a,.int k' b=>
  match op with
  | .shl=>if b<0 then none else some (.int k (k.wrap (a*2 ^ (min b.toNat k.bits))))
  | .shr=>if b<0 then none else some (.int k (a.fdiv (2 ^ (min b.toNat k.bits))))
  |_=>if k=k' then intOp op k a b else none
 | .string a,.string b=>strOp op a b
 |_,_=>none
def Bi(op:BinOp)(x y:Value)(k:Value→Prop):Prop:=∃v,binV op x y=some v∧k v
def Beq(neg:Bool)(x y:Value)(k:Value→Prop):Prop:=∃a b,x=.bool a∧y=.bool b∧k (.bool (if neg then !(a == b)else a == b))
def unV:UnOp→Value→Option Value
 | .not,.bool b=>some (.bool !b)
 | .neg,.int k n=>some (.int k (k.wrap (0-n)))
 | .xor,.int k n=>some (.int k (k.wrap (BitVec.ofInt k.bits (if k.signed then -1 else k.max) ^^^ BitVec.ofInt k.bits n).toNat))
 |_,_=>none
def Un(op:UnOp)(x:Value)(k:Value→Prop):Prop:=∃v,unV op x=some v∧k v
def Cv(kd:IntKind)(x:Value)(k:Value→Prop):Prop:=∃kk n,x=.int kk n∧k (.int kd (kd.wrap n))
def StrC(x:Value)(k:Value→Prop):Prop:=∃s,x=.string s∧k (.string s)
def LnS(x:Value)(k:Value→Prop):Prop:=∃s,x=.string s∧k (.int .i64 s.size)
def LnL(x:Value)(k:Value→Prop):Prop:=∃a n c,x=.slice a n c∧k (.int .i64 (n:Nat))
def Cp(x:Value)(k:Value→Prop):Prop:=∃a c n,x=.slice a c n∧k (.int .i64 (n:Nat))
def Mx(x y:Value)(k:Value→Prop):Prop:=∃kk a b,x=.int kk a∧y=.int kk b∧k (.int kk (if b>a then b else a))
def Mn(x y:Value)(k:Value→Prop):Prop:=∃kk a b,x=.int kk a∧y=.int kk b∧k (.int kk (if b<a then b else a))
def IxS(x i:Value)(k:Value→Prop):Prop:=∃s kk n b,x=.string s∧i=.int kk n∧0≤n∧s[n.toNat]? =some b∧k (.int .u8 (b:UInt8).toNat)
def IxA(sz:Nat)(x i:Value)(k:Value→Prop):Prop:=
 ∃a len cap kk n,x=.slice (some a) len cap∧i=.int kk n∧0≤n∧n<(len:Nat)∧k (.pointer (some (a.add (n.toNat*sz))))
def IxP(len sz:Nat)(x i:Value)(k:Value→Prop):Prop:=
 ∃a kk n,x=.pointer (some a)∧i=.int kk n∧0≤n∧n<(len:Nat)∧k (.pointer (some (a.add (n.toNat*sz))))
def bnd:Option Value→Nat→Option Nat
 |none,d=>some d
 |some (.int _ n),_=>if 0≤n then some n.toNat else none
 |_,_=>none
def SlS(x:Value)(lo hi:Option Value)(k:Value→Prop):Prop:=
 ∃s l h,x=.string s∧bnd lo 0=some l∧bnd hi s.size=some h∧l≤h∧h≤s.size∧k (.string (s.extract l h))
def Sl (sz : Nat) (x : Value) (lo hi : Option Value) (k : Value→Prop) : Prop :=
 ∃ a len cap l h,x = .slice a len cap∧bnd lo 0 = some l∧bnd hi len = some h∧l≤h∧h≤cap ∧
  k (.slice (if cap = l then a else a.map (·.add (l * sz))) (h - l) (cap - l))
def Fi(off:Nat)(x:Value)(k:Value→Prop):Prop:=∃cs v,x=.agg cs∧cs[off]? =some v∧k v
def FiA(off n:Nat)(x:Value)(k:Value→Prop):Prop:=∃cs,x=.agg cs∧k (.agg (cs.extract off (off+n)))
def Bd(z:Array Value)(pl:List (Nat×Nat))(parts:List (Nat×Value))(k:Value→Prop):Prop:=
 ∃cs,Instr.fill (pl[·]?) z parts=some cs∧k (.agg cs)
def BdA(z:Array Value)(sz:Nat)(parts:List (Nat×Value))(k:Value→Prop):Prop:=
 ∃cs,Instr.fill (λi=>some (i*sz,sz)) z parts=some cs∧k (.agg cs)
def places(P:Program):List Field→Option (List (Nat×Nat))
 |[]=>some []
 |f::r=>match P.info? f.type,places P r with
  |some i,some l=>some ((f.offset,i.size)::l)
  |_,_=>none

def structP (P : Program) (t : TypeId) : Option (List (Nat × Nat) × Array Value) :=
 match P.underlying t,(P.info? t).bind (·.zero) with
 | some (.struct fs),some z=>(places P fs.toList).map fun l=>(l,z.cells)
 | _,_=>none
def arrayP (P : Program) (t : TypeId) : Option (Nat × Array Value) :=
 match P.underlying t,(P.info? t).bind (·.zero) with
 | some (.array _ el),some z=>((P.info? el).map (·.size)).map fun n=>(n,z.cells)
 | _,_=>none
inductive Kd where
 |int|str|bool|slice (sz:Nat)|other
def sizeK (P : Program) (t : TypeId) : Option Nat:=(P.info? t).map (·.size)
def kd(P:Program)(t:TypeId):Kd:=
 match P.underlying t with
 |some (.int _)=>.int
 |some .string=>.str
 |some .bool=>.bool
 |some (.slice e)=>match sizeK P e with
  |some n=>.slice n
  |none=>.other
 |_=>.other

def eqS(op:BinOp)(t:TypeId)(x y:Operand)(a b:Value):Sem Value:=do eqGuard op t x y a b;binOp op t a b
def scal(P:Program)(t:TypeId):Bool:=
 match P.underlying t with
 |some (.struct _)|some (.array _ _)|none=>false
 |_=>true
def aggSize (P : Program) (t : TypeId) : Option Nat :=
 match P.underlying t with
 | some (.struct _) | some (.array _ _)=>(P.info? t).map (·.size)
 | _=>none
def fldOff(P:Program)(s f:Nat):Option Nat:=
 match P.underlying s with
 |some (.struct fs)=>
  match fs[f]? with
  |some fl=>match P.info? fl.type with
   |some i=>bif Nat.beq i.size 0 then none else some fl.offset
   |none=>none
  |none=>none
 |_=>none

def opC (P : Program) (o : Oper) (ρ : Operand→Value) (w : World) (k : Value→World→Prop) : Prop :=
 match o.op with
 | .move x | .assign x=>k (ρ x) w
 | .pick c a b=>Pk (ρ c) (ρ a) (ρ b) fun v=>k v w
 | .alloc t=>match (P.info? t).bind (·.zero) with
  | some z=>Al t z.cells w k
  | none=>False
 | .box t x=>Al t (ρ x).cells w k
 | .build t parts=>match structP P t with
  | some (pl,z)=>Bd z pl (parts.toList.map fun (i,x)=>(i,ρ x)) fun v=>k v w
  | none=>match arrayP P t with
   | some (sz,z)=>BdA z sz (parts.toList.map fun (i,x)=>(i,ρ x)) fun v=>k v w
   | none=>False
 | .buildSlice t len parts=>Ef P (Instr.buildSlice t len (parts.map fun (i,x)=>(i,ρ x))) w k
 | .load t x=>match aggSize P t with
  | some n=>LdA P n (ρ x) w fun v=>k v w
  | none=>bif scal P t then Ld (ρ x) w fun v=>k v w else False
 | .store t p x=>match P.info? t with
  | some i=>St P i.size (ρ p) (ρ x) w fun w'=>k undef w'
  | none=>False
 | .nilCheck x=>match P.underlying o.type with
  | some (.func _ _ _)=>NcF P (ρ x) fun v=>k v w
  | _=>Nc (ρ x) fun v=>k v w
 | .fieldAddr s x f=>match fldOff P s f with
  | some off=>Fa off (ρ x) fun v=>k v w
  | none=>False
 | .extract x i=>Ex (ρ x) i fun v=>k v w
 | .binOp op t x y _=>match kd P t with
  | .int | .str=>Bi op (ρ x) (ρ y) fun v=>k v w
  | .bool=>match op with
   | .eql=>Beq false (ρ x) (ρ y) fun v=>k v w
   | .neq=>Beq true (ρ x) (ρ y) fun v=>k v w
   | _=>False
  | _=>Rd P (do eqGuard op t x y (ρ x) (ρ y); binOp op t (ρ x) (ρ y)) w fun v=>k v w
 | .unOp op _ x=>Un op (ρ x) fun v=>k v w
 | .convert s d x=>match P.underlying s,P.underlying d with
  | some (.int _),some (.int k')=>Cv k' (ρ x) fun v=>k v w
  | some .string,some .string=>StrC (ρ x) fun v=>k v w
  | some (.slice _),some .string=>Rd P (convert s d (ρ x)) w fun v=>k v w
  | _,_=>Ef P (convert s d (ρ x)) w k
 | .makeInterface t x=>match P.underlying t with
  | some (.interface _) | none=>False
  | _=>k (.iface t (ρ x)) w
 | .makeFunc fn first cap=>k (.func fn (first.map ρ) (cap.map ρ)) w
 | .makeMap t none=>k (.map (some w.heap.size)) (w.alloc (.map #[] 0))
 | .makeSlice t l c=>Ef P (Instr.makeSlice t (ρ l) (ρ c)) w k
 | .slice t x lo hi mx=>match mx with
  | some m=>Rd P (Instr.sliceAt t (ρ x) (lo.map ρ) (hi.map ρ) (some (ρ m))) w fun v=>k v w
  | none=>match kd P t with
   | .str=>SlS (ρ x) (lo.map ρ) (hi.map ρ) fun v=>k v w
   | .slice sz=>Sl sz (ρ x) (lo.map ρ) (hi.map ρ) fun v=>k v w
   | _=>Rd P (Instr.sliceAt t (ρ x) (lo.map ρ) (hi.map ρ) none) w fun v=>k v w
 | .field t x f=>match P.underlying t with
  | some (.struct fs)=>match fs[f]? with
   | some fl=>match aggSize P fl.type with
    | some n=>FiA fl.offset n (ρ x) fun v=>k v w
    | none=>bif scal P fl.type then Fi fl.offset (ρ x) fun v=>k v w else False
   | none=>False
  | _=>False
 | .indexAddr t x ix=>match P.underlying t with
  | some (.slice el)=>match sizeK P el with
   | some sz=>IxA sz (ρ x) (ρ ix) fun v=>k v w
   | none=>False
  | some (.array len el)=>match sizeK P el with
   | some sz=>IxP len sz (ρ x) (ρ ix) fun v=>k v w
   | none=>False
  | _=>False
 | .index t x ix=>match kd P t with
  | .str=>IxS (ρ x) (ρ ix) fun v=>k v w
  | _=>Rd P (Instr.index t (ρ x) (ρ ix)) w fun v=>k v w
 | .lookup t x ix ok=>Rd P (Instr.lookup t (ρ x) (ρ ix) ok) w fun v=>k v w
 | .mapUpdate t m key x=>Ef P (Instr.mapUpdate t (ρ m) (ρ key) (ρ x)) w fun _ w'=>k undef w'
 | .insert t m key x=>Ef P (Instr.mapUpdate t (ρ m) (ρ key) (ρ x)) w fun _ w'=>k undef w'
 | .range t x=>Ef P (Instr.range t (ρ x)) w k
 | .entry it=>Rd P (Instr.entry (ρ it)) w fun v=>k v w
 | .next it s=>Ef P (Instr.next (ρ it) s o.type) w k
 | .typeAssert x t u ok=>Ef P (Instr.typeAssert (ρ x) t u ok) w k
 | .call c=>match c.callee with
  | .builtin .len=>match c.args.toList,c.argTypes.toList with
   | [x],[t]=>match kd P t with
    | .str=>LnS (ρ x) fun v=>k v w
    | .slice _=>LnL (ρ x) fun v=>k v w
    | _=>Rd P (Builtin.len_ #[t] o.type #[ρ x]) w fun v=>k v w
   | _,_=>False
  | .builtin .cap=>match c.args.toList,c.argTypes.toList with
   | [x],[t]=>match kd P t with
    | .slice _=>Cp (ρ x) fun v=>k v w
    | _=>False
   | _,_=>False
  | .builtin .min=>match c.args.toList with
   | [x,y]=>Mn (ρ x) (ρ y) fun v=>k v w
   | _=>False
  | .builtin .max=>match c.args.toList with
   | [x,y]=>Mx (ρ x) (ρ y) fun v=>k v w
   | _=>False
  | .builtin .append=>Ef P (Builtin.append_ c.argTypes o.type (c.args.map ρ)) w k
  | .builtin .copy=>Ef P (Builtin.copy_ c.argTypes o.type (c.args.map ρ)) w k
  | .builtin .delete=>Ef P (Builtin.delete_ c.argTypes o.type (c.args.map ρ)) w k
  | .builtin .clear=>Ef P (Builtin.clear_ c.argTypes o.type (c.args.map ρ)) w k
  | .builtin .unsafeSliceData=>Ef P (Builtin.unsafeSliceData_ c.argTypes o.type (c.args.map ρ)) w k
  | .builtin .unsafeString=>Ef P (Builtin.unsafeString_ c.argTypes o.type (c.args.map ρ)) w k
  | .builtin _=>False
  | .value (.func f)=>bif hasBody P f then Ca P f (c.args.map ρ) w k else False
  | .value x=>CaV P (ρ x) (c.args.map ρ) w k
  | .invoke recv name=>Iv P (ρ recv) name (c.args.map ρ) w k
 | _=>False
def gslot (ops : Array Oper) (j : Nat) : Option Nat:=(ops[j]?).bind (·.dst)
def gval(ops:Array Oper)(e:Env)(j:Nat):Value:=match gslot ops j with
 |some d=>e d
 |none=>undef
def opsC(P:Program)(N:Nat)(ops:Array Oper):List Oper→(Env→World→Prop)→Env→World→Prop
 |[],k,e,w=>k e w
 |o::rest,k,e,w=>
  match o.guard with
  |none=>opC P o (ev e) w λv w'=>opsC P N ops rest k (putO e o.dst v) w'
  |some (j,want)=>Gd (gval ops e j) want (opC P o (ev e) w) w λv w'=>opsC P N ops rest k (putO e o.dst v) w'

def dstsOk(N:Nat):List Oper→Bool
 |[]=>true
 |o::rest=>(match o.dst with|some d=>Nat.blt d N|none=>true) && dstsOk N rest

structure Rel(N:Nat)(ds:List Deferred)(a:Act)(e:Env):Prop where
 size:a.tmps.size=N
 at_:∀t,a.tmps.getD t undef=e t
 defers:a.defers=ds
theorem Rel.eval{N:Nat}{ds:List Deferred}{a:Act}{e:Env}(h:Rel N ds a e):a.eval=ev e:=by
 funext x;cases x<;>simp[Act.eval,ev,h.at_]
theorem put_apply(e:Env)(d:Nat)(v:Value)(t:Nat):put e d v t=if t=d then v else e t:=by
 unfold put
 by_cases h:t=d
 ·subst h;simp
 ·have:Nat.beq t d=false:=by
   cases hb:Nat.beq t d
   ·rfl
   ·exact absurd (Nat.eq_of_beq_eq_true hb) h
  simp[this,h]
theorem Rel.put{N:Nat}{ds:List Deferred}{a:Act}{e:Env}(h:Rel N ds a e){d:Nat}(hd:d<N)(v:Value):Rel N ds (a.put (some d) v) (put e d v) where
 size:=by simp[Act.put,h.size]
 at_ t:=by
  have ht:=h.at_ t
  rw[put_apply]
  simp only[Act.put,Array.getD_eq_getD_getElem?]at ht ⊢
  rw[Array.getElem?_setIfInBounds]
  by_cases hx:t=d
  ·subst hx;simp[h.size,hd]
  ·have:¬d=t:=λhh=>hx hh.symm
   simp[this,hx,ht]
 defers:=h.defers
theorem Rel.putO{N:Nat}{ds:List Deferred}{a:Act}{e:Env}(h:Rel N ds a e){d:Option Nat}(hd:(match d with|some d=>Nat.blt d N|none=>true)=true)(v:Value):
  Rel N ds (a.put d v) (putO e d v):=by
 cases d with
 |none=>exact⟨h.size,h.at_,h.defers⟩
 |some d=>exact h.put (by have:=Nat.le_of_ble_eq_true hd;omega) v
theorem Rel.yielded {N : Nat} {ds : List Deferred} {a : Act} {e : Env} (h : Rel N ds a e) (ops : Array Oper) (j : Nat) : yielded ops a.tmps j = isB (gval ops e j):=by
 unfold Go.yielded gval gslot
 cases hd : (ops[j]?).bind (·.dst) with
 | none=>simp [isB,undef]
 | some d =>
  have hx:=h.at_ d
  simp only [Option.bind_some]
  rw [← hx,Array.getD_eq_getD_getElem?]
  cases hg : a.tmps[d]? with
  | none=>simp [isB,undef]
  | some v=>cases v <;> simp [isB]
theorem run_isAgg_scal{P:Program}{t:TypeId}(h:scal P t=true)(w:World):(isAgg t).run P w=.ok false w:=by
 unfold scal at h
 unfold isAgg
 cases hu:P.underlying t with
 |none=>rw[hu]at h;cases h
 |some d=>
  rw[hu]at h
  simp only[Sem.run_bind,run_underlying hu,Result.andThen_ok]
  cases d<;>first|rfl|cases h
theorem aggSize_spec {P : Program} {t : TypeId} {n : Nat} (h : aggSize P t = some n) (w : World) :
  (isAgg t).run P w = .ok true w∧(sizeOf t).run P w = .ok n w:=by
 unfold aggSize at h
 have key : ∀ d,P.underlying t = some d→(P.info? t).map (·.size) = some n→((match d with | .struct _=>true | .array _ _=>true | _=>false) = true) →
   (isAgg t).run P w = .ok true w∧(sizeOf t).run P w = .ok n w:=by
  intro d hu hi hd
  constructor
  ·unfold isAgg
   simp only [Sem.run_bind,run_underlying hu,Result.andThen_ok]
   cases d <;> first | rfl | cases hd
  ·unfold sizeOf typeInfo
   cases hx : P.info? t with
   | none=>rw [hx] at hi; cases hi
   | some i =>
    rw [hx] at hi
    simp only [Option.map_some,Option.some.injEq] at hi
    subst hi
    simp [program,Sem.run,hx]
 cases hu : P.underlying t with
 | none=>rw [hu] at h; cases h
 | some d =>
  rw [hu] at h
  cases d <;> first | cases h | exact key _ hu h rfl
theorem run_sizeOf'{P:Program}{t:TypeId}{i:TypeInfo}(h:P.info? t=some i)(w:World):(sizeOf t).run P w=.ok i.size w:=by
 unfold sizeOf typeInfo
 simp[program,Sem.run,h]
theorem run_load_cell{P:Program}{w:World}{a:Addr}{v:Value}(h:w.cell? a=some v):(load a).run P w=.ok v w:=by
 unfold load;simp[Sem.run,h]
theorem Ld.run{P:Program}{t:TypeId}{p:Value}{w:World}{k:Value→Prop}(hs:scal P t=true)(h:Ld p w k):
  ∃v,(Instr.loadAt t p).run P w=.ok v w∧k v:=by
 obtain⟨a,v,rfl,hc,hk⟩:=h
 refine⟨v,?_,hk⟩
 unfold Instr.loadAt Instr.sureAddr loadVar
 simp only[Sem.run_bind,Sem.run_pure,Result.andThen_ok,run_isAgg_scal hs]
 exact run_load_cell hc
theorem LdA.run{P:Program}{t:TypeId}{n:Nat}{p:Value}{w:World}{k:Value→Prop}(hs:aggSize P t=some n)(h:LdA P n p w k):
  ∃v,(Instr.loadAt t p).run P w=.ok v w∧k v:=by
 obtain⟨a,cs,rfl,hc,hk⟩:=h
 refine⟨_,?_,hk⟩
 unfold Instr.loadAt Instr.sureAddr loadVar
 simp[Sem.run_bind,(aggSize_spec hs w).1,(aggSize_spec hs w).2,hc]
theorem St.run{P:Program}{t:TypeId}{i:TypeInfo}{p v:Value}{w:World}{k:World→Prop}(hi:P.info? t=some i)(h:St P i.size p v w k):
  ∃w',(Instr.storeAt t p v).run P w=.ok () w'∧k w':=by
 obtain⟨a,w',rfl,hsz,hc,hk⟩:=h
 refine⟨w',?_,hk⟩
 unfold Instr.storeAt Instr.sureAddr storeVar
 simp[Sem.run_bind,run_sizeOf' hi,hsz,hc]
theorem Fa.run{P:Program}{s f off:Nat}{x:Value}{w:World}{k:Value→Prop}(hs:fldOff P s f=some off)(h:Fa off x k):
  ∃v,(Instr.fieldAt s x f).run P w=.ok v w∧k v:=by
 obtain⟨a,rfl,hk⟩:=h
 refine⟨_,?_,hk⟩
 unfold fldOff at hs
 cases hu:P.underlying s with
 |none=>rw[hu]at hs;cases hs
 |some d=>
  rw[hu]at hs
  cases d with
  |struct fs=>
   simp only at hs
   cases hf:fs[f]? with
   |none=>rw[hf]at hs;cases hs
   |some fl=>
    rw[hf]at hs
    simp only at hs
    cases hi:P.info? fl.type with
    |none=>rw[hi]at hs;cases hs
    |some i=>
     rw[hi]at hs
     simp only at hs
     cases hz:Nat.beq i.size 0 with
     |true=>rw[hz]at hs;cases hs
     |false=>
      rw[hz]at hs
      simp only[cond_false,Option.some.injEq]at hs
      subst hs
      have hne:i.size≠0:=by
       intro h0;rw[h0]at hz;cases hz
      unfold Instr.fieldAt Instr.sureAddr fieldPlace
      simp[Sem.run_bind,run_underlying hu,hf,run_sizeOf' hi,hne]
  |_=>cases hs
theorem run_newObj'(P:Program)(o:Obj)(w:World):(newObj o).run P w=.ok w.heap.size (w.alloc o):=rfl
theorem run_callFunc{P:Program}{f:FuncId}(h:hasBody P f=true)(args:Array Value)(w:World):(callFunc f args).run P w=.ok (.enter f args) w:=by
 unfold hasBody at h
 unfold callFunc
 cases hf:P.funcs[f]? with
 |none=>rw[hf]at h;cases h
 |some fn=>
  rw[hf]at h
  simp only[Bool.and_eq_true,bne_iff_ne,ne_eq]at h
  obtain⟨h1,h2⟩:=h
  cases hb:fn.body with
  |none=>rw[hb]at h1;cases h1
  |some c=>simp[program,Sem.run,Sem.run_bind,hf,h2,hb]
theorem run_bindP{α β:Type}{P:Program}{s:Sem α}{k:α→Sem β}{w w':World}{v:α}(h:s.run P w=.ok v w'):(s>>=k).run P w=(k v).run P w':=by simp[Sem.run_bind,h]
theorem run_callMethod{P:Program}{t:TypeId}{v rv:Value}{name:String}{args:Array Value}{f:FuncId}{w:World}(hm:(method (P.types.size+Made.depth) t v name).run P w=.ok (f,rv) w)
  (hf:(callFunc f (#[rv]++args)).run P w=.ok (.enter f (#[rv]++args)) w):(callMethod (.iface t v) name args).run P w=.ok (.enter f (#[rv]++args)) w:=by
 unfold callMethod
 have h1:(program).run P w=.ok P w:=rfl
 exact(run_bindP h1).trans ((run_bindP hm).trans hf)
theorem Ca.upon{P:Program}{f:FuncId}{args:Array Value}{w:World}{k:Value→World→Prop}{next:Act→World→Prop}{Q:Exit→Act→World→Prop}{a:Act}{d:Option Tmp}
  {ro:Option Nat}{n:Nat}(h:Ca P f args w k)(hk:∀v w',k v w'→next (a.put d v) w'):
  ((FW ro).depth.isSome=true→1≤n)∧CallsIn (FW ro) (n-1) P f args w λ
   | .returned v,w''=>next (a.put d v) w''
   | .panicked chain,w''=>Q (.panic chain) a w''
   | .outgrown,_=>LetsOut Q:=
 ⟨λh=>by simp[FW,Fence.wide]at h,callsIn_fw (h.mono λe w' ⟨v,he,hv⟩=>by subst he;exact hk v w' hv)⟩
theorem kd_str{P:Program}{t:TypeId}(h:kd P t=.str):P.underlying t=some .string:=by
 unfold kd at h
 split at h<;>first|assumption|cases h|(split at h<;>cases h)
theorem kd_bool{P:Program}{t:TypeId}(h:kd P t=.bool):P.underlying t=some .bool:=by
 unfold kd at h
 split at h<;>first|assumption|cases h|(split at h<;>cases h)
theorem kd_slice{P:Program}{t:TypeId}{n:Nat}(h:kd P t=.slice n):∃el,P.underlying t=some (.slice el)∧sizeK P el=some n:=by
 unfold kd at h
 split at h
 ·cases h
 ·cases h
 ·cases h
 ·rename_i el hu
  split at h
  ·rename_i m hm;cases h;exact⟨el,hu,hm⟩
  ·cases h
 ·cases h
theorem run_sizeK{P:Program}{t:TypeId}{n:Nat}(h:sizeK P t=some n)(w:World):(sizeOf t).run P w=.ok n w:=by
 unfold sizeK at h
 cases hi:P.info? t with
 |none=>rw[hi]at h;cases h
 |some i=>rw[hi]at h;simp only[Option.map_some,Option.some.injEq]at h;subst h;exact run_sizeOf' hi w
theorem binV_run {P : Program} {op : BinOp} {t : TypeId} {x y : Operand} {a b v : Value} (h : binV op a b = some v) (w : World) :
    (do eqGuard op t x y a b; binOp op t a b : Sem Value).run P w = .ok v w:=by
  have hg : (eqGuard op t x y a b).run P w = .ok () w:=by
    unfold binV at h
    split at h
    · unfold eqGuard; split <;> rfl
    · unfold eqGuard; split <;> rfl
    · cases h
  rw [Sem.run_bind,hg,Result.andThen_ok]
  unfold binV at h
  split at h
  · rename_i k p k' q
    split at h
    · split at h
      · cases h
      · rename_i hq; cases h; simp [binOp,Op.shift,hq]
    · split at h
      · cases h
      · rename_i hq; cases h; simp [binOp,Op.shift,hq]
    · rename_i h1 h2
      split at h
      · rename_i hk; subst hk
        unfold intOp at h
        cases op <;> simp only at h <;> first
          | (split at h; · cases h
             · rename_i hb; cases h; simp [binOp,Op.intDiv,hb])
          | (cases h; simp [binOp,Op.intArith,Op.intBits,Op.intCmp]; done)
          | cases h
      · cases h
  · rename_i p q
    unfold strOp at h
    cases op <;> simp only at h <;> first
      | (split at h; · cases h
         · rename_i hb; cases h; simp only [binOp,Op.stringOp]; rw [if_neg hb]; rfl)
      | (cases h; simp [binOp,Op.stringOp]; done)
      | cases h
  · cases h
theorem Beq_run{P:Program}{t:TypeId}{x y:Operand}{a b:Bool}(ht:P.underlying t=some .bool)(w:World):
  (do eqGuard .eql t x y (.bool a) (.bool b);binOp .eql t (.bool a) (.bool b):Sem Value).run P w=.ok (.bool (a == b)) w∧
  (do eqGuard .neq t x y (.bool a) (.bool b);binOp .neq t (.bool a) (.bool b):Sem Value).run P w=.ok (.bool !(a == b)) w:=by
 have he:(Op.equal t (.bool a) (.bool b)).run P w=.ok (a == b) w:=by
  show(Op.equalIn (9999+1) t (.bool a) (.bool b)).run P w=.ok (a == b) w
  rw[Op.equalIn]
  simp only[Sem.run_bind,run_underlying ht,Result.andThen_ok,Sem.run_pure]
 constructor<;>simp[eqGuard,binOp,he]
theorem unV_run{P:Program}{op:UnOp}{a v:Value}(h:unV op a=some v)(w:World):(Op.unary op a).run P w=.ok v w:=by
 unfold unV at h
 split at h
 ·cases h;rfl
 ·cases h;rfl
 ·cases h;rfl
 ·cases h
theorem bnd_run{P:Program}{x:Value}{y n:Nat}{c:BoundsCode}{d:Nat}(h:bnd (some x) d=some n)(hn:n≤y)(w:World):
  (Instr.sliceBound x y c).run P w=.ok n w:=by
 cases x<;>simp only[bnd]at h<;>try cases h
 rename_i kk m
 split at h
 ·rename_i h0
  cases h
  have h1:m≤(y:Int):=by omega
  simp[Instr.sliceBound,asIntOf,h0,h1]
 ·cases h
theorem sliceBounds_run{P:Program}{b:Bool}{len cap l h:Nat}{lo hi:Option Value}(hl:bnd lo 0=some l)(hh:bnd hi len=some h)(h1:l≤h)(h2:h≤cap)(w:World):
  (Instr.sliceBounds b len cap lo hi none).run P w=.ok (l,h,cap) w:=by
 unfold Instr.sliceBounds
 cases hi with
 |none=>
  simp only[bnd,Option.some.injEq]at hh;subst hh
  cases lo with
  |none=>simp only[bnd,Option.some.injEq]at hl;subst hl;simp
  |some v=>simp[bnd_run hl h1]
 |some u=>
  cases lo with
  |none=>simp only[bnd,Option.some.injEq]at hl;subst hl;simp[bnd_run hh h2]
  |some v=>simp[bnd_run hl h1,bnd_run hh h2]
theorem places_run{P:Program}{fs:List Field}{l:List (Nat×Nat)}(h:places P fs=some l)(w:World):
  (fs.mapM (m:=Sem) λf=>do pure (f.offset,← sizeOf f.type)).run P w=.ok l w:=by
 induction fs generalizing l with
 |nil=>simp only[places,Option.some.injEq]at h;subst h;rfl
 |cons f r ih=>
  simp only[places]at h
  split at h
  ·rename_i i l' hi hl
   cases h
   rw[List.mapM_cons]
   simp only[Sem.run_bind,run_sizeOf' hi,Result.andThen_ok,Sem.run_pure,ih hl]
  ·cases h
theorem Bd_run{P:Program}{t:TypeId}{pl:List (Nat×Nat)}{z cs:Array Value}{parts:Array (Nat×Value)}(hs:structP P t=some (pl,z))
  (hf:Instr.fill (pl[·]?) z parts.toList=some cs)(w:World):(Instr.build t parts).run P w=.ok (.agg cs) w:=by
 unfold structP at hs
 split at hs
 ·rename_i fs zz hu hz
  cases hp:places P fs.toList with
  |none=>rw[hp]at hs;cases hs
  |some l=>
   rw[hp]at hs
   simp only[Option.map_some,Option.some.injEq,Prod.mk.injEq]at hs
   obtain⟨rfl,rfl⟩:=hs
   have hzv:(zeroValue t).run P w=.ok zz w:=by
    unfold zeroValue typeInfo
    cases hi:P.info? t with
    |none=>rw[hi]at hz;cases hz
    |some i=>rw[hi]at hz;simp only[Option.bind_some]at hz;simp[program,Sem.run,hi,hz]
   have hm:(fs.mapM (m:=Sem) λf=>do pure (f.offset,← sizeOf f.type)).run P w=.ok l.toArray w:=by
    rw[Array.mapM_eq_mapM_toList]
    have:=places_run hp w
    simp only[map_eq_pure_bind,Sem.run_bind,this,Result.andThen_ok,Sem.run_pure]
   unfold Instr.build
   simp only[Sem.run_bind,hzv,Result.andThen_ok,run_underlying hu,hm]
   have:(λ(x:Nat)=>l.toArray[x]?)=(λ(x:Nat)=>l[x]?):=by funext x;simp
   rw[this,hf]
   rfl
 ·cases hs
theorem BdA_run{P:Program}{t:TypeId}{sz:Nat}{z cs:Array Value}{parts:Array (Nat×Value)}(hs:arrayP P t=some (sz,z))
  (hf:Instr.fill (λi=>some (i*sz,sz)) z parts.toList=some cs)(w:World):(Instr.build t parts).run P w=.ok (.agg cs) w:=by
 unfold arrayP at hs
 split at hs
 ·rename_i len el zz hu hz
  cases hi:P.info? el with
  |none=>rw[hi]at hs;cases hs
  |some i=>
   rw[hi]at hs
   simp only[Option.map_some,Option.some.injEq,Prod.mk.injEq]at hs
   obtain⟨rfl,rfl⟩:=hs
   have hzv:(zeroValue t).run P w=.ok zz w:=by
    unfold zeroValue typeInfo
    cases hi:P.info? t with
    |none=>rw[hi]at hz;cases hz
    |some i=>rw[hi]at hz;simp only[Option.bind_some]at hz;simp[program,Sem.run,hi,hz]
   unfold Instr.build
   simp only[Sem.run_bind,hzv,Result.andThen_ok,run_underlying hu,run_sizeOf' hi]
   rw[hf]
   rfl
 ·cases hs
theorem opC_sound{P:Program}{o:Oper}{ρ:Operand→Value}{w:World}{k:Value→World→Prop}(h:opC P o ρ w k){a:Act}(hr:a.eval=ρ)
  {next:Act→World→Prop}{Q:Exit→Act→World→Prop}{ro:Option Nat}{n:Nat}(hk:∀v w',k v w'→next (a.put o.dst v) w'):o.wpIn (FW ro) n P a w next Q:=by
 unfold Oper.wpIn
 refine⟨λ_ _=>trivial,?_⟩
 have hsem:o.semAt (FW ro).round a.eval=execOp a.eval o:=Oper.semAt_eq _ _ _ (λc hc=>by unfold opC at h;rw[hc]at h;exact h)
 rw[hsem,hr]
 have val:∀v w',(execOp ρ o).run P w=.ok (.value v) w'→k v w'→o.uponIn (FW ro) n P a next Q ((execOp ρ o).run P w):=by
  intro v w' hv hkv;rw[hv];exact hk v w' hkv
 have skp:∀w',(execOp ρ o).run P w=.ok .skip w'→k undef w'→o.uponIn (FW ro) n P a next Q ((execOp ρ o).run P w):=by
  intro w' hv hkv;rw[hv];exact hk undef w' hkv
 have rd:∀s:Sem Value,(execOp ρ o)=(do pure (.value (← s)))→(Rd P s w λv=>k v w)→o.uponIn (FW ro) n P a next Q ((execOp ρ o).run P w):=by
  rintro s hs ⟨v,hv,hkv⟩
  exact val v w (by rw[hs];simp[Sem.run_bind,hv]) hkv
 have ef:∀s:Sem Value,(execOp ρ o)=(do pure (.value (← s)))→Ef P s w k→o.uponIn (FW ro) n P a next Q ((execOp ρ o).run P w):=by
  rintro s hs ⟨v,w',hv,hkv⟩
  exact val v w' (by rw[hs];simp[Sem.run_bind,hv]) hkv
 have hx:∀op,o.op=op→(execOp ρ o)=execOp ρ {o with op:=op}:=by intro op hop;rw[← hop]
 unfold opC at h
 split at h
 ·rename_i x hop;exact val _ w (by rw[hx _ hop];simp[execOp]) h
 ·rename_i x hop;exact val _ w (by rw[hx _ hop];simp[execOp]) h
 ·rename_i c x y hop
  obtain⟨t,hc,hkv⟩:=h
  exact val _ w (by rw[hx _ hop];simp only[execOp,hc];cases t<;>simp[asBool]) hkv
 ·rename_i t hop
  split at h
  ·rename_i z hz
   refine val _ _ ?_ h
   rw[hx _ hop]
   cases hi:P.info? t with
   |none=>rw[hi]at hz;cases hz
   |some i=>
    rw[hi]at hz
    simp only[Option.bind_some]at hz
    have hzv:(zeroValue t).run P w=.ok z w:=by
     unfold zeroValue typeInfo;simp[program,Sem.run,hi,hz]
    simp only[execOp,Instr.alloc,newVar,newRow,Sem.run_bind,hzv,Result.andThen_ok,run_newObj',Sem.run_pure]
  ·exact h.elim
 ·rename_i t x hop
  refine val _ _ ?_ h
  rw[hx _ hop]
  simp only[execOp,Instr.box,newVar,newRow,Sem.run_bind,Result.andThen_ok,run_newObj',Sem.run_pure]
 ·rename_i t parts hop
  split at h
  ·rename_i pl z hs
   obtain⟨cs,hf,hkv⟩:=h
   refine rd _ (by rw[hx _ hop];rfl) ⟨_,Bd_run hs (by simpa using hf) w,hkv⟩
  ·split at h
   ·rename_i sz z hs
    obtain⟨cs,hf,hkv⟩:=h
    refine rd _ (by rw[hx _ hop];rfl) ⟨_,BdA_run hs (by simpa using hf) w,hkv⟩
   ·exact h.elim
 ·rename_i t len parts hop;exact ef _ (by rw[hx _ hop];rfl) h
 ·rename_i t x hop
  split at h
  ·rename_i n hn
   obtain⟨v,hv,hkv⟩:=LdA.run hn h
   exact rd _ (by rw[hx _ hop];rfl) ⟨v,hv,hkv⟩
  ·cases hs:scal P t with
   |false=>rw[hs]at h;exact h.elim
   |true=>
    rw[hs]at h
    obtain⟨v,hv,hkv⟩:=Ld.run hs h
    exact rd _ (by rw[hx _ hop];rfl) ⟨v,hv,hkv⟩
 ·rename_i t p x hop
  split at h
  ·rename_i i hi
   obtain⟨w',hv,hkv⟩:=St.run hi h
   refine skp w' ?_ hkv
   rw[hx _ hop]
   simp[execOp,hv]
  ·exact h.elim
 ·rename_i x hop
  have plain:∀y,nilOk y=true→ρ x=y→(execOp ρ o).run P w=.ok (.value y) w:=by
   intro y hn hy
   rw[hx _ hop]
   simp only[execOp,hy]
   unfold nilOk at hn
   split at hn<;>first|rfl|cases hn
  split at h
  ·obtain⟨hn,hkv⟩:=h
   refine val _ w ?_ hkv
   rcases hn with hn|⟨t,v,name,first,cap,e,hf,hn⟩
   ·exact plain _ hn rfl
   ·rw[hx _ hop]
    simp only[execOp,e,hf]
    have:=hn w
    simp[Sem.run_bind,this,program,Sem.run]
  ·obtain⟨hn,hkv⟩:=h
   exact val _ w (plain _ hn rfl) hkv
 ·rename_i s x f hop
  split at h
  ·rename_i off hoff
   obtain⟨v,hv,hkv⟩:=Fa.run (w:=w) hoff h
   exact rd _ (by rw[hx _ hop];rfl) ⟨v,hv,hkv⟩
  ·exact h.elim
 ·rename_i x i hop
  obtain⟨vs,v,he,hi,hkv⟩:=h
  refine val v w ?_ hkv
  rw[hx _ hop]
  simp[execOp,Instr.extract,he,hi]
 ·rename_i op t x y z hop
  have bi:(Bi op (ρ x) (ρ y) λv=>k v w)→o.uponIn (FW ro) n P a next Q ((execOp ρ o).run P w):=by
   rintro⟨v,hv,hkv⟩
   exact rd _ (by rw[hx _ hop];rfl) ⟨v,binV_run hv w,hkv⟩
  split at h
  ·exact bi h
  ·exact bi h
  ·rename_i hb
   split at h
   ·obtain⟨p,q,hp,hq,hkv⟩:=h
    refine rd _ (by rw[hx _ hop];rfl) ⟨_,?_,hkv⟩
    rw[hp,hq];exact(Beq_run (kd_bool hb) w).1
   ·obtain⟨p,q,hp,hq,hkv⟩:=h
    refine rd _ (by rw[hx _ hop];rfl) ⟨_,?_,hkv⟩
    rw[hp,hq];exact(Beq_run (kd_bool hb) w).2
   ·exact h.elim
  ·exact rd _ (by rw[hx _ hop];rfl) h
 ·rename_i op z x hop
  obtain⟨v,hv,hkv⟩:=h
  exact rd _ (by rw[hx _ hop];rfl) ⟨v,unV_run hv w,hkv⟩
 ·rename_i s d x hop
  split at h
  ·rename_i q k' h1 h2
   obtain⟨kk,n,he,hkv⟩:=h
   refine rd _ (by rw[hx _ hop];rfl) ⟨_,?_,hkv⟩
   rw[he]
   simp[convert,run_underlying h1,run_underlying h2,Conv.intToInt]
  ·rename_i h1 h2
   obtain⟨st,he,hkv⟩:=h
   refine rd _ (by rw[hx _ hop];rfl) ⟨_,?_,hkv⟩
   rw[he]
   simp[convert,run_underlying h1,run_underlying h2]
  ·exact rd _ (by rw[hx _ hop];rfl) h
  ·exact ef _ (by rw[hx _ hop];rfl) h
 ·rename_i t x hop
  have mk:∀d,P.underlying t=some d→(∀ms,d≠ .interface ms)→k (.iface t (ρ x)) w→o.uponIn (FW ro) n P a next Q ((execOp ρ o).run P w):=by
   intro d hd hni hkv
   refine val _ w ?_ hkv
   rw[hx _ hop]
   simp only[execOp,Instr.makeInterface,Sem.run_bind,run_underlying hd,Result.andThen_ok]
   cases d<;>first|rfl|exact absurd rfl (hni _)
  cases hu:P.underlying t with
  |none=>rw[hu]at h;exact h.elim
  |some d=>
   rw[hu]at h
   cases d<;>first|exact h.elim|exact mk _ hu (λ_ hh=>by cases hh) h
 ·rename_i fn first cap hop
  refine val _ w ?_ h
  rw[hx _ hop]
  simp[execOp,Instr.makeFunc]
 ·rename_i t hop
  refine val _ _ ?_ h
  rw[hx _ hop]
  simp only[execOp,Instr.makeMap,Option.map_none,Sem.run_bind,Result.andThen_ok,run_newObj',Sem.run_pure]
 ·rename_i t l c hop;exact ef _ (by rw[hx _ hop];rfl) h
 ·rename_i t x lo hi mx hop
  cases mx with
  |some m=>exact rd _ (by rw[hx _ hop];rfl) h
  |none=>
  (try simp only at h)
  split at h
  ·rename_i hk
   obtain⟨s,l,hh,he,hl,hhi,h1,h2,hkv⟩:=h
   refine rd _ (by rw[hx _ hop];rfl) ⟨_,?_,hkv⟩
   rw[he]
   unfold Instr.sliceAt
   simp only[Sem.run_bind,run_underlying (kd_str hk),Result.andThen_ok]
   unfold Instr.slice
   simp[Sem.run_bind,run_underlying (kd_str hk),sliceBounds_run hl hhi h1 h2]
  ·rename_i sz hk
   obtain⟨aa,len,cap,l,hh,he,hl,hhi,h1,h2,hkv⟩:=h
   obtain⟨el,hu,hsz⟩:=kd_slice hk
   refine rd _ (by rw[hx _ hop];rfl) ⟨_,?_,hkv⟩
   rw[he]
   unfold Instr.sliceAt
   simp only[Sem.run_bind,run_underlying hu,Result.andThen_ok]
   unfold Instr.slice
   simp[Sem.run_bind,run_underlying hu,sliceBounds_run hl hhi h1 h2,run_sizeK hsz]
  ·exact rd _ (by rw[hx _ hop];rfl) h
 ·rename_i t x f hop
  split at h
  ·rename_i fs hu
   split at h
   ·rename_i fl hf
    split at h
    ·rename_i n hn
     obtain⟨cs,he,hkv⟩:=h
     refine rd _ (by rw[hx _ hop];rfl) ⟨_,?_,hkv⟩
     rw[he]
     simp only[Instr.field,Sem.run_bind,run_underlying hu,Result.andThen_ok,hf,asAgg,Sem.run_pure,part,(aggSize_spec hn w).1,(aggSize_spec hn w).2,if_true]
    ·cases hs:scal P fl.type with
     |false=>rw[hs]at h;exact h.elim
     |true=>
      rw[hs]at h
      obtain⟨cs,v,he,hv,hkv⟩:=h
      refine rd _ (by rw[hx _ hop];rfl) ⟨v,?_,hkv⟩
      rw[he]
      simp[Instr.field,run_underlying hu,hf,asAgg,part,run_isAgg_scal hs,hv]
   ·exact h.elim
  ·exact h.elim
 ·rename_i t x ix hop
  split at h
  ·rename_i el hu
   split at h
   ·rename_i sz hsz
    obtain⟨aa,len,cap,kk,n,he,hi,h0,h1,hkv⟩:=h
    refine rd _ (by rw[hx _ hop];rfl) ⟨_,?_,hkv⟩
    rw[he,hi]
    simp[Instr.indexAt,asIntOf,run_underlying hu,h0,h1,run_sizeK hsz]
   ·exact h.elim
  ·rename_i len el hu
   split at h
   ·rename_i sz hsz
    obtain⟨aa,kk,n,he,hi,h0,h1,hkv⟩:=h
    refine rd _ (by rw[hx _ hop];rfl) ⟨_,?_,hkv⟩
    rw[he,hi]
    simp[Instr.indexAt,asIntOf,run_underlying hu,h0,h1,run_sizeK hsz,Instr.sureAddr]
   ·exact h.elim
  ·exact h.elim
 ·rename_i t x ix hop
  split at h
  ·rename_i hk
   obtain⟨s,kk,n,b,he,hi,h0,hb,hkv⟩:=h
   refine rd _ (by rw[hx _ hop];rfl) ⟨_,?_,hkv⟩
   rw[he,hi]
   simp[Instr.index,asIntOf,run_underlying (kd_str hk),h0,hb]
  ·exact rd _ (by rw[hx _ hop];rfl) h
 ·rename_i t x ix ok hop;exact rd _ (by rw[hx _ hop];rfl) h
 ·rename_i t m key x hop
  obtain⟨v,w',hv,hkv⟩:=h
  refine skp w' ?_ hkv
  rw[hx _ hop]
  simp[execOp,hv]
 ·rename_i t m key x hop
  obtain⟨v,w',hv,hkv⟩:=h
  refine skp w' ?_ hkv
  rw[hx _ hop]
  simp[execOp,hv]
 ·rename_i t x hop;exact ef _ (by rw[hx _ hop];rfl) h
 ·rename_i it hop;exact rd _ (by rw[hx _ hop];rfl) h
 ·rename_i it s hop;exact ef _ (by rw[hx _ hop];rfl) h
 ·rename_i x t u ok hop;exact ef _ (by rw[hx _ hop];rfl) h
 ·rename_i c hop
  have bi:∀b,c.callee=.builtin b→(execOp ρ o)=builtin b c.argTypes o.type (c.args.map λ| .const _=>true|_=>false) (c.args.map ρ):=by
   intro b hb
   rw[hx _ hop]
   simp only[execOp,resolve,hb]
   rfl
  have arr:∀{α:Type} {xs:Array α} {l:List α},xs.toList=l→xs=l.toArray:=by
   intro α xs l h;rw[← h]
  split at h
  ·rename_i hb
   split at h
   ·rename_i x t hx1 ht1
    have hargs:c.args.map ρ=#[ρ x]:=by rw[arr hx1];simp
    have htys:c.argTypes=#[t]:=arr ht1
    split at h
    ·rename_i hk
     obtain⟨s,he,hkv⟩:=h
     refine rd _ (by rw[bi _ hb];rfl) ⟨_,?_,hkv⟩
     rw[hargs,htys,he]
     simp[Builtin.len_,run_underlying (kd_str hk),goInt]
    ·rename_i m hk
     obtain⟨aa,n,cc,he,hkv⟩:=h
     obtain⟨el,hu,_⟩:=kd_slice hk
     refine rd _ (by rw[bi _ hb];rfl) ⟨_,?_,hkv⟩
     rw[hargs,htys,he]
     simp[Builtin.len_,run_underlying hu,goInt]
    ·exact rd _ (by rw[bi _ hb,hargs,htys];rfl) h
   ·exact h.elim
  ·rename_i hb
   split at h
   ·rename_i x t hx1 ht1
    have hargs:c.args.map ρ=#[ρ x]:=by rw[arr hx1];simp
    have htys:c.argTypes=#[t]:=arr ht1
    split at h
    ·rename_i m hk
     obtain⟨aa,cc,n,he,hkv⟩:=h
     obtain⟨el,hu,_⟩:=kd_slice hk
     refine rd _ (by rw[bi _ hb];rfl) ⟨_,?_,hkv⟩
     rw[hargs,htys,he]
     simp[Builtin.cap_,run_underlying hu,goInt]
    ·exact h.elim
   ·exact h.elim
  ·rename_i hb
   split at h
   ·rename_i x y hx1
    have hargs:c.args.map ρ=#[ρ x,ρ y]:=by rw[arr hx1];simp
    obtain⟨kk,p,q,hp,hq,hkv⟩:=h
    refine rd _ (by rw[bi _ hb];rfl) ⟨_,?_,hkv⟩
    rw[hargs,hp,hq]
    simp[Builtin.min_,Builtin.min2]
   ·exact h.elim
  ·rename_i hb
   split at h
   ·rename_i x y hx1
    have hargs:c.args.map ρ=#[ρ x,ρ y]:=by rw[arr hx1];simp
    obtain⟨kk,p,q,hp,hq,hkv⟩:=h
    refine rd _ (by rw[bi _ hb];rfl) ⟨_,?_,hkv⟩
    rw[hargs,hp,hq]
    simp[Builtin.max_,Builtin.max2]
   ·exact h.elim
  ·rename_i hb;exact ef _ (by rw[bi _ hb];rfl) h
  ·rename_i hb;exact ef _ (by rw[bi _ hb];rfl) h
  ·rename_i hb;exact ef _ (by rw[bi _ hb];rfl) h
  ·rename_i hb;exact ef _ (by rw[bi _ hb];rfl) h
  ·rename_i hb;exact ef _ (by rw[bi _ hb];rfl) h
  ·rename_i hb;exact ef _ (by rw[bi _ hb];rfl) h
  ·exact h.elim
  ·rename_i f hb
   cases hf:hasBody P f with
   |false=>rw[hf]at h;exact h.elim
   |true=>
    rw[hf]at h
    have hfv:ρ (.func f)=.func (.func f) #[] #[]:=by rw[← hr];rfl
    have:(execOp ρ o).run P w=.ok (.enter f (c.args.map ρ)) w:=by
     rw[hx _ hop]
     simp[execOp,resolve,hb,hfv,Deferred.ofValue,invoke,run_callFunc hf]
    rw[this]
    exact Ca.upon h hk
  ·rename_i x hnf hb
   rcases h with⟨f,first,cap,hv,hf,hc⟩|⟨L,hv,r,hL,hsz,hR⟩
   ·have:(execOp ρ o).run P w=.ok (.enter f (first++c.args.map ρ++cap)) w:=by
     rw[hx _ hop]
     simp[execOp,resolve,hb,hv,Deferred.ofValue,invoke,run_callFunc hf]
    rw[this]
    exact Ca.upon hc hk
   ·have:(execOp ρ o).run P w=.ok (.round L r.fn ((r.params.zip (c.args.map ρ)).foldl (λtmps (t,a)=>tmps.setIfInBounds t a) r.tmps) r.assign r.body) w:=by
     rw[hx _ hop]
     simp[execOp,resolve,hb,hv,Deferred.ofValue,invoke,run_yield hL hsz]
    rw[this]
    exact⟨λh=>by simp[FW,Fence.wide]at h,roundIn_fw (hR.mono λe w' ⟨v,he,hv⟩=>by subst he;exact hk v w' hv)⟩
  ·rename_i recv name hb
   obtain⟨t,v,f,rv,hv,hm,hf,hc⟩:=h
   have:(execOp ρ o).run P w=.ok (.enter f (#[rv]++c.args.map ρ)) w:=by
    rw[hx _ hop]
    have e0:(#[ρ recv]++c.args.map ρ)[0]? =some (.iface t v):=by rw[hv,Array.getElem?_append_left (by simp)];rfl
    have e1:(#[ρ recv]++c.args.map ρ).extract 1 (#[ρ recv]++c.args.map ρ).size=c.args.map ρ:=by
     apply Array.ext'
     simp[List.extract_eq_take_drop]
     rw[List.take_of_length_le (by simp)]
    have e2:(callMethod (.iface t v) name (c.args.map ρ)).run P w=.ok (.enter f (#[rv]++c.args.map ρ)) w:=by
     exact run_callMethod hm (run_callFunc hf _ _)
    simp only[execOp,resolve,hb,Sem.run_bind,Sem.run_pure,Result.andThen_ok,invoke]
    rw[e0,e1]
    exact e2
   rw[this]
   exact Ca.upon hc hk
 ·exact h.elim
end Go.Sh
namespace Go.Sh
set_option linter.unusedVariables false
set_option linter.unusedSimpArgs false
open Go
theorem opC_mono {P : Program} {o : Oper} {ρ : Operand→Value} {w : World} {k k' : Value→World→Prop} (hk : ∀ v w',k v w'→k' v w') (h : opC P o ρ w k) : opC P o ρ w k':=by
  have rd : ∀ s : Sem Value,(Rd P s w fun v=>k v w)→(Rd P s w fun v=>k' v w):=fun s ⟨v,hv,h⟩=>⟨v,hv,hk _ _ h⟩
  have ef : ∀ s : Sem Value,Ef P s w k→Ef P s w k':=fun s ⟨v,w',hv,h⟩=>⟨v,w',hv,hk _ _ h⟩
  have ca : ∀ f as,Ca P f as w k→Ca P f as w k':=fun f as h=>h.mono fun e w' ⟨v,he,hv⟩=>⟨v,he,hk _ _ hv⟩
  have cn : ∀ (b : Bool) (A A' : Prop),(A→A')→(bif b then A else False)→(bif b then A' else False):=by
    intro b A A' hh h; cases b with
    | false=>exact h.elim
    | true=>exact hh h
  have iff : ∀ d : Option TypeDesc,∀ A A' : Prop,(A→A')→(match d with | some (.interface _) | none=>False | _=>A)→(match d with | some (.interface _) | none=>False | _=>A'):=by
    intro d A A' hh h
    cases d with
    | none=>exact h.elim
    | some d=>cases d <;> first | exact h.elim | exact hh h
  unfold opC at h ⊢
  repeat' split at h
  all_goals first
    | exact h.elim
    | exact hk _ _ h
    | exact rd _ h
    | exact ef _ h
    | exact ca _ _ h
    | exact cn _ _ _ (ca _ _) h
    | exact cn _ _ _ (fun ⟨a,v,h1,h2,h3⟩=>⟨a,v,h1,h2,hk _ _ h3⟩) h
    | exact cn _ _ _ (fun ⟨a,h1,h2⟩=>⟨a,h1,hk _ _ h2⟩) h
    | exact iff _ _ _ (hk _ _) h
    | (obtain ⟨v,w',h1,h2⟩:=h; exact ⟨v,w',h1,hk _ _ h2⟩)
    | (rcases h with ⟨f,first,cap,h1,h2,h3⟩ | ⟨L,h1,r,h2,h3,h4⟩
       · exact .inl ⟨f,first,cap,h1,h2,ca _ _ h3⟩
       · exact .inr ⟨L,h1,r,h2,h3,h4.mono fun e w' ⟨v,he,hv⟩=>⟨v,he,hk _ _ hv⟩⟩)
    | (obtain ⟨t,v,f,rv,h1,h2,h3,h4⟩:=h; exact ⟨t,v,f,rv,h1,h2,h3,ca _ _ h4⟩)
    | (repeat' (first | exact hk _ _ h|(obtain ⟨x,h⟩:=h; refine ⟨x,?_⟩)))
theorem opC_congr {P : Program} {o : Oper} {ρ ρ' : Operand→Value} {w : World} {k : Value→World→Prop} (hρ : ∀ x∈o.op.operands,ρ x = ρ' x)
  (hf : ∀ f,ρ (.func f) = ρ' (.func f)) (h : opC P o ρ w k) : opC P o ρ' w k:=by
 have : opC P o ρ w k = opC P o ρ' w k:=by
  obtain ⟨dst,op,type,pos,after,guard⟩:=o
  have pairs : ∀ ps : Array (Nat × Operand),(∀ x∈ps.map (·.2),ρ x = ρ' x)→(ps.map fun (i,x)=>(i,ρ x)) = (ps.map fun (i,x)=>(i,ρ' x)):=fun ps hp =>
   Array.map_congr_left fun p hm=>by
    obtain ⟨i,x⟩:=p
    simp only [hp x (Array.mem_map.2 ⟨(i,x),hm,rfl⟩)]
  have pairl : ∀ ps : Array (Nat × Operand),(∀ x∈ps.map (·.2),ρ x = ρ' x)→(ps.toList.map fun (i,x)=>(i,ρ x)) = (ps.toList.map fun (i,x)=>(i,ρ' x)):=fun ps hp =>
   List.map_congr_left fun p hm=>by
    obtain ⟨i,x⟩:=p
    simp only [hp x (Array.mem_map.2 ⟨(i,x),by simpa using hm,rfl⟩)]
  cases op <;> simp only [Op.operands] at hρ <;> simp only [opC]
  case build t ps=>rw [pairl ps fun x hx=>hρ x (by simpa using hx)]
  case buildSlice t n ps=>rw [pairs ps fun x hx=>hρ x (by simpa using hx)]
  case makeFunc fn first captured =>
   rw [Array.map_congr_left (xs:=first) fun x hx=>hρ x (by simp [hx]),Array.map_congr_left (xs:=captured) fun x hx=>hρ x (by simp [hx])]
  case call c =>
   have hargs : c.args.map ρ = c.args.map ρ':=Array.map_congr_left fun x hx=>hρ x (by simp [Call.operands,hx])
   have hmem : ∀ x∈c.args.toList,ρ x = ρ' x:=fun x hx=>hρ x (by simp [Call.operands]; right; simpa using hx)
   simp only [hargs]
   cases hc : c.callee with
   | value f =>
    have hf' : ρ f = ρ' f:=hρ f (by simp [Call.operands,hc])
    cases f <;> simp only [hf']
   | invoke r m =>
    have hr' : ρ r = ρ' r:=hρ r (by simp [Call.operands,hc])
    simp only [hr']
   | builtin b =>
    cases b <;> simp only
    case len =>
     split <;> first | rfl|(rename_i h1 _; simp only [h1,List.mem_cons,List.mem_nil_iff,or_false,forall_eq] at hmem; simp only [hmem])
    case cap =>
     split <;> first | rfl|(rename_i h1 _; simp only [h1,List.mem_cons,List.mem_nil_iff,or_false,forall_eq] at hmem; simp only [hmem])
    case min =>
     split <;> first | rfl|(rename_i h1; simp only [h1,List.mem_cons,List.mem_nil_iff,or_false,forall_eq_or_imp,forall_eq] at hmem; simp only [hmem])
    case max =>
     split <;> first | rfl|(rename_i h1; simp only [h1,List.mem_cons,List.mem_nil_iff,or_false,forall_eq_or_imp,forall_eq] at hmem; simp only [hmem])
  case makeMap t r=>cases r <;> simp_all
  case slice t x lo hi mx=>cases lo <;> cases hi <;> cases mx <;> simp_all
  all_goals (first | rfl|(simp_all; done))
 exact this ▸ h
end Go.Sh
namespace Go.Sh
set_option linter.unusedVariables false
set_option linter.unusedSimpArgs false
open Go

def calm(P:Program)(o:Oper):Bool:=
 match o.op with
 | .move _| .assign _| .pick .. | .load .. | .nilCheck _| .fieldAddr .. | .extract .. | .unOp .. | .binOp .. | .makeFunc .. | .makeInterface ..
 | .slice .. | .field .. | .indexAddr .. | .index .. | .lookup .. | .build .. | .entry _=>true
 | .convert s d _=>match P.underlying s,P.underlying d with
  |some (.int _),some (.int _)=>true
  |some .string,some .string=>true
  |some (.slice _),some .string=>true
  |_,_=>false
 | .call c=>match c.callee with
  | .builtin .len| .builtin .cap| .builtin .min| .builtin .max=>true
  |_=>false
 |_=>false

def wless(P:Program)(o:Oper):Bool:=
 match o.op with
 | .move _| .assign _| .pick .. | .nilCheck _| .fieldAddr .. | .extract .. | .unOp .. | .makeFunc .. | .makeInterface ..
 | .field .. | .indexAddr .. | .build ..=>true
 | .binOp _ t _ _ _=>match kd P t with
  | .int| .str| .bool=>true
  |_=>false
 | .slice t _ _ _ mx=>match mx with
  |some _=>false
  |none=>match kd P t with
   | .str| .slice _=>true
   |_=>false
 | .index t _ _=>match kd P t with
  | .str=>true
  |_=>false
 | .convert s d _=>match P.underlying s,P.underlying d with
  |some (.int _),some (.int _)=>true
  |some .string,some .string=>true
  |_,_=>false
 | .call c=>match c.callee with
  | .builtin .len=>match c.argTypes.toList with
   |[t]=>match kd P t with
    | .str| .slice _=>true
    |_=>false
   |_=>false
  | .builtin .cap| .builtin .min| .builtin .max=>true
  |_=>false
 |_=>false
theorem calm_spec{P:Program}{o:Oper}{ρ:Operand→Value}{w:World}{k:Value→World→Prop}(hc:calm P o=true)(h:opC P o ρ w k):
  ∃v,k v w∧∀k':Value→World→Prop,k' v w→opC P o ρ w k':=by
 obtain⟨dst,op,type,pos,after,guard⟩:=o
 have rd:∀s:Sem Value,(Rd P s w λv=>k v w)→∃v,k v w∧∀k':Value→World→Prop,k' v w→(Rd P s w λv'=>k' v' w):=λs ⟨v,hv,h⟩=>⟨v,h,λ_ hk=>⟨v,hv,hk⟩⟩
 have cn:∀(b:Bool) (A:Prop) (B:(Value→World→Prop)→Prop),(A→∃v,k v w∧∀k':Value→World→Prop,k' v w→B k')→(bif b then A else False)→
   ∃v,k v w∧∀k':Value→World→Prop,k' v w→(bif b then B k' else False):=by
  intro b A B hh h;cases b with
  |false=>exact h.elim
  |true=>exact hh h
 have ifc:∀d:Option TypeDesc,∀u:Value,(match d with|some (.interface _)|none=>False|_=>k u w)→
   ∃v,k v w∧∀k':Value→World→Prop,k' v w→(match d with|some (.interface _)|none=>False|_=>k' u w):=by
  intro d u h
  cases d with
  |none=>exact h.elim
  |some d=>cases d<;>first|exact h.elim|exact⟨u,h,λ_ hk=>hk⟩
 unfold calm at hc
 cases op
 all_goals (try exact absurd hc Bool.false_ne_true)
 all_goals simp only[opC]at h ⊢
 case slice t x lo hi mx=>
  cases mx with
  |some m=>exact rd _ h
  |none=>
   (try simp only at h ⊢)
   split at h
   ·obtain⟨s,l,hh,h1,h2,h3,h4,h5,h6⟩:=h;exact⟨_,h6,λ_ hk=>⟨s,l,hh,h1,h2,h3,h4,h5,hk⟩⟩
   ·obtain⟨a,len,cap,l,hh,h1,h2,h3,h4,h5,h6⟩:=h;exact⟨_,h6,λ_ hk=>⟨a,len,cap,l,hh,h1,h2,h3,h4,h5,hk⟩⟩
   ·exact rd _ h
 case convert s d x=>
  (try simp only at hc)
  split at hc
  ·rename_i h1 h2;simp only[h1,h2]at h ⊢;obtain⟨kk,n,he,hk⟩:=h;exact⟨_,hk,λ_ hk=>⟨kk,n,he,hk⟩⟩
  ·rename_i h1 h2;simp only[h1,h2]at h ⊢;obtain⟨st,he,hk⟩:=h;exact⟨_,hk,λ_ hk=>⟨st,he,hk⟩⟩
  ·rename_i h1 h2;simp only[h1,h2]at h ⊢;exact rd _ h
  ·cases hc
 case call c=>
  obtain⟨callee,args,tys⟩:=c
  cases callee with
  |value f=>exact absurd hc Bool.false_ne_true
  |invoke r m=>exact absurd hc Bool.false_ne_true
  |builtin b=>
   cases b
   all_goals (try exact absurd hc Bool.false_ne_true)
   all_goals (try simp only at h ⊢)
   all_goals repeat' split at h
   all_goals first
    |exact h.elim
    |exact rd _ h
    |(obtain⟨a,h1,h2⟩:=h;exact⟨_,h2,λ_ hk=>⟨a,h1,hk⟩⟩)
    |(obtain⟨a,b,c,h1,h2⟩:=h;exact⟨_,h2,λ_ hk=>⟨a,b,c,h1,hk⟩⟩)
    |(obtain⟨a,b,c,h1,h2,h3⟩:=h;exact⟨_,h3,λ_ hk=>⟨a,b,c,h1,h2,hk⟩⟩)
 all_goals repeat' split at h
 all_goals first
  |exact h.elim
  |exact rd _ h
  |exact⟨_,h,λ_ hk=>hk⟩
  |exact ifc _ _ h
  |exact cn _ _ _ (λ⟨a,v,h1,h2,h3⟩=>⟨v,h3,λ_ hk=>⟨a,v,h1,h2,hk⟩⟩) h
  |exact cn _ _ _ (λ⟨a,v,h1,h2,h3⟩=>⟨_,h3,λ_ hk=>⟨a,v,h1,h2,hk⟩⟩) h
  |(obtain⟨a,h1⟩:=h;exact⟨_,h1,λ_ hk=>⟨a,hk⟩⟩)
  |(obtain⟨a,h1,h2⟩:=h;exact⟨_,h2,λ_ hk=>⟨a,h1,hk⟩⟩)
  |(obtain⟨a,b,h1,h2⟩:=h;exact⟨_,h2,λ_ hk=>⟨a,b,h1,hk⟩⟩)
  |(obtain⟨a,b,h1,h2,h3⟩:=h;exact⟨_,h3,λ_ hk=>⟨a,b,h1,h2,hk⟩⟩)
  |(obtain⟨s,l,hh,h1,h2,h3,h4,h5,h6⟩:=h;exact⟨_,h6,λ_ hk=>⟨s,l,hh,h1,h2,h3,h4,h5,hk⟩⟩)
  |(obtain⟨a,len,cap,l,hh,h1,h2,h3,h4,h5,h6⟩:=h;exact⟨_,h6,λ_ hk=>⟨a,len,cap,l,hh,h1,h2,h3,h4,h5,hk⟩⟩)
  |(obtain⟨a,len,cap,kk,n,h1,h2,h3,h4,h5⟩:=h;exact⟨_,h5,λ_ hk=>⟨a,len,cap,kk,n,h1,h2,h3,h4,hk⟩⟩)
  |(obtain⟨a,kk,n,h1,h2,h3,h4,h5⟩:=h;exact⟨_,h5,λ_ hk=>⟨a,kk,n,h1,h2,h3,h4,hk⟩⟩)
  |(obtain⟨s,kk,n,b,h1,h2,h3,h4,h5⟩:=h;exact⟨_,h5,λ_ hk=>⟨s,kk,n,b,h1,h2,h3,h4,hk⟩⟩)
theorem wless_spec{P:Program}{o:Oper}{ρ:Operand→Value}{w:World}{v:Value}(hc:wless P o=true)(h:opC P o ρ w (λv' _=>v'=v))(w2:World)
  {k':Value→World→Prop}(hk:k' v w2):opC P o ρ w2 k':=by
 obtain⟨dst,op,type,pos,after,guard⟩:=o
 have tr:∀{u},u=v→k' u w2:=λh=>h▸hk
 have cn:∀(b:Bool) (A B:Prop),(A→B)→(bif b then A else False)→(bif b then B else False):=by
  intro b A B hh h;cases b with
  |false=>exact h.elim
  |true=>exact hh h
 have ifc:∀d:Option TypeDesc,∀A B:Prop,(A→B)→(match d with|some (.interface _)|none=>False|_=>A)→(match d with|some (.interface _)|none=>False|_=>B):=by
  intro d A B hh h
  cases d with
  |none=>exact h.elim
  |some d=>cases d<;>first|exact h.elim|exact hh h
 unfold wless at hc
 cases op
 all_goals (try exact absurd hc Bool.false_ne_true)
 all_goals simp only[opC]at h ⊢
 case binOp op t x y z=>
  (try simp only at hc)
  split at hc
  ·rename_i h1;simp only[h1]at h ⊢;exact(λ⟨u,h2,h3⟩=>⟨u,h2,tr h3⟩) h
  ·rename_i h1;simp only[h1]at h ⊢;exact(λ⟨u,h2,h3⟩=>⟨u,h2,tr h3⟩) h
  ·rename_i h1;simp only[h1]at h ⊢
   split at h
   ·exact(λ⟨p,q,h2,h3,h4⟩=>⟨p,q,h2,h3,tr h4⟩) h
   ·exact(λ⟨p,q,h2,h3,h4⟩=>⟨p,q,h2,h3,tr h4⟩) h
   ·exact h.elim
  ·cases hc
 case slice t x lo hi mx=>
  cases mx with
  |some m=>exact absurd hc Bool.false_ne_true
  |none=>
   simp only at hc h ⊢
   split at hc
   ·rename_i h0;simp only[h0]at h ⊢;exact(λ⟨s,l,hh,h1,h2,h3,h4,h5,h6⟩=>⟨s,l,hh,h1,h2,h3,h4,h5,tr h6⟩) h
   ·rename_i h0;simp only[h0]at h ⊢;exact(λ⟨a,len,cap,l,hh,h1,h2,h3,h4,h5,h6⟩=>⟨a,len,cap,l,hh,h1,h2,h3,h4,h5,tr h6⟩) h
   ·cases hc
 case index t x ix=>
  (try simp only at hc)
  split at hc
  ·rename_i h0;simp only[h0]at h ⊢;exact(λ⟨s,kk,n,b,h1,h2,h3,h4,h5⟩=>⟨s,kk,n,b,h1,h2,h3,h4,tr h5⟩) h
  ·cases hc
 case convert s d x=>
  (try simp only at hc)
  split at hc
  ·rename_i h1 h2;simp only[h1,h2]at h ⊢;exact(λ⟨kk,n,he,hk⟩=>⟨kk,n,he,tr hk⟩) h
  ·rename_i h1 h2;simp only[h1,h2]at h ⊢;exact(λ⟨st,he,hk⟩=>⟨st,he,tr hk⟩) h
  ·cases hc
 case call c=>
  obtain⟨callee,args,tys⟩:=c
  cases callee with
  |value f=>exact absurd hc Bool.false_ne_true
  |invoke r m=>exact absurd hc Bool.false_ne_true
  |builtin b=>
   cases b
   all_goals (try exact absurd hc Bool.false_ne_true)
   case len=>
    (try simp only at hc)
    cases ht:tys.toList with
    |nil=>simp only[ht]at hc;exact absurd hc Bool.false_ne_true
    |cons t r=>
     cases r with
     |cons t2 r=>simp only[ht]at hc;exact absurd hc Bool.false_ne_true
     |nil=>
      simp only[ht]at hc h ⊢
      cases hl:args.toList with
      |nil=>simp only[hl]at h
      |cons x r=>
       cases r with
       |cons y r=>simp only[hl]at h
       |nil=>
        simp only[hl]at h ⊢
        split at hc
        ·rename_i h0
         simp only[h0]at h ⊢
         exact(λ⟨a,h1,h2⟩=>⟨a,h1,tr h2⟩) h
        ·rename_i n h0
         simp only[h0]at h ⊢
         exact(λ⟨a,b,c,h1,h2⟩=>⟨a,b,c,h1,tr h2⟩) h
        ·cases hc
   all_goals (try simp only at h ⊢)
   all_goals repeat' split at h
   all_goals first
    |exact h.elim
    |(obtain⟨a,b,c,h1,h2⟩:=h;exact⟨a,b,c,h1,tr h2⟩)
    |(obtain⟨a,b,c,h1,h2,h3⟩:=h;exact⟨a,b,c,h1,h2,tr h3⟩)
 all_goals repeat' split at h
 all_goals first
  |exact h.elim
  |exact tr h
  |exact ifc _ _ _ tr h
  |exact cn _ _ _ (λ⟨a,v,h1,h2,h3⟩=>⟨a,v,h1,h2,tr h3⟩) h
  |(obtain⟨a,h1⟩:=h;exact⟨a,tr h1⟩)
  |(obtain⟨a,h1,h2⟩:=h;exact⟨a,h1,tr h2⟩)
  |(obtain⟨a,b,h1,h2⟩:=h;exact⟨a,b,h1,tr h2⟩)
  |(obtain⟨a,b,h1,h2,h3⟩:=h;exact⟨a,b,h1,h2,tr h3⟩)
  |(obtain⟨a,len,cap,kk,n,h1,h2,h3,h4,h5⟩:=h;exact⟨a,len,cap,kk,n,h1,h2,h3,h4,tr h5⟩)
  |(obtain⟨a,kk,n,h1,h2,h3,h4,h5⟩:=h;exact⟨a,kk,n,h1,h2,h3,h4,tr h5⟩)
end Go.Sh
namespace Go.Sh
set_option linter.unusedVariables false
set_option linter.unusedSimpArgs false
open Go

def gOp(P:Program)(ops:Array Oper)(o:Oper)(e:Env)(w:World)(k:Value→World→Prop):Prop:=
 match o.guard with
 |none=>opC P o (ev e) w k
 |some (j,want)=>Gd (gval ops e j) want (opC P o (ev e) w) w k

inductive DT where
 |done
 |none
 |calm (i:Nat) (t:DT)
 |eff1 (i:Nat) (chks:List Nat) (t:DT)
 |effs (i:Nat) (chks:List Nat) (t alt:DT)
def upd{α:Type}(f:Nat→α)(i:Nat)(x:α):Nat→α:=λj=>bif Nat.beq j i then x else f j
theorem upd_apply{α:Type}(f:Nat→α)(i:Nat)(x:α)(j:Nat):upd f i x j=if j=i then x else f j:=by
 unfold upd
 by_cases h:j=i
 ·subst h;simp
 ·have:Nat.beq j i=false:=by
   cases hb:Nat.beq j i
   ·rfl
   ·exact absurd (Nat.eq_of_beq_eq_true hb) h
  simp[this,h]
def chkAll(P:Program)(ops:Array Oper)(sn:Nat→Env)(vl:Nat→Value):List Nat→World→Prop→Prop
 |[],_,K=>K
 |r::rs,w,K=>(match ops[r]? with
  |some o=>gOp P ops o (sn r) w λv _=>v=vl r
  |none=>False)∧chkAll P ops sn vl rs w K
def drawC(P:Program)(ops:Array Oper):DT→Env→(Nat→Env)→(Nat→Value)→(Env→World→Prop)→World→Prop
 | .done,e,_,_,k,w=>k e w
 | .none,_,_,_,_,_=>True
 | .calm i t,e,sn,vl,k,w=>match ops[i]? with
  |none=>False
  |some o=>gOp P ops o e w λv w'=>drawC P ops t (putO e o.dst v) (upd sn i e) (upd vl i v) k w'
 | .eff1 i chks t,e,sn,vl,k,w=>match ops[i]? with
  |none=>False
  |some o=>gOp P ops o e w λv w'=>chkAll P ops sn vl chks w' (drawC P ops t (putO e o.dst v) (upd sn i e) (upd vl i v) k w')
 | .effs i chks t alt,e,sn,vl,k,w=>(match ops[i]? with
  |none=>False
  |some o=>gOp P ops o e w λv w'=>chkAll P ops sn vl chks w' (drawC P ops t (putO e o.dst v) (upd sn i e) (upd vl i v) k w'))∧drawC P ops alt e sn vl k w

def reads(ops:Array Oper)(o:Oper):List Nat:=o.looksAt ops
def writer(ops:Array Oper)(i t:Nat):Bool:=match ops[i]? with
 |some o=>match o.dst with
  |some d=>Nat.beq d t
  |none=>false
 |none=>false
def isCalm(P:Program)(ops:Array Oper)(i:Nat):Bool:=match ops[i]? with
 |some o=>calm P o
 |none=>false
def isWless(P:Program)(ops:Array Oper)(i:Nat):Bool:=match ops[i]? with
 |some o=>wless P o
 |none=>false
def readsAt(ops:Array Oper)(i:Nat):List Nat:=match ops[i]? with
 |some o=>reads ops o
 |none=>[]

def ancOk(ops:Array Oper)(A:List (List Nat)):Bool:=
 (List.range ops.size).all λi=>match ops[i]? with
  |none=>false
  |some o=>
   (o.after.toList.all λe=>!Region.binds .any e || Nat.blt e.on i) &&
   (A.getD i []).all λj=>o.after.toList.any λe=>Region.binds .any e && (Nat.beq e.on j || (A.getD e.on []).contains j)
def isAnc(A:List (List Nat))(j i:Nat):Bool:=(A.getD i []).contains j

def ssaOk (ops : Array Oper) (A : List (List Nat)) : Bool :=
  (List.range ops.size).all fun i=>(List.range ops.size).all fun j=>Nat.beq i j ||
    ((match ops[i]? with | some o=>(match o.dst with | some d=>!writer ops j d | none=>true) | none=>true) &&
     (readsAt ops i).all fun t=>!writer ops j t || isAnc A j i || isAnc A i j)

def addOk(ops:Array Oper)(A:List (List Nat))(C:List Nat)(i:Nat):Bool:=
 Nat.blt i ops.size && !C.contains i &&
 (List.range ops.size).all λj=>Nat.beq i j || (readsAt ops i).all λt=>!writer ops j t || (if isAnc A j i then C.contains j else !C.contains j)

def waits(P:Program)(ops:Array Oper)(A:List (List Nat))(C heads:List Nat):Bool:=
 (List.range ops.size).all λi=>C.contains i || heads.contains i || (A.getD i []).any λf=>!isCalm P ops f && !C.contains f
def chkOk(P:Program)(ops:Array Oper)(A:List (List Nat))(C:List Nat)(f:Nat)(chks:List Nat):Bool:=
 C.all λr=>isAnc A r f || !isCalm P ops r || isWless P ops r || chks.contains r
def DT.heads:DT→List Nat
 | .eff1 i _ _=>[i]
 | .effs i _ _ alt=>i::alt.heads
 |_=>[]
def dtOk(P:Program)(ops:Array Oper)(A:List (List Nat)):Bool→DT→List Nat→Bool
 |root,.done,C=>root && (List.range ops.size).all λi=>C.contains i
 |root,.none,_=>!root
 |root,.calm i t,C=>root && isCalm P ops i && addOk ops A C i && dtOk P ops A true t (i::C)
 |root,.eff1 i chks t,C=>root && !isCalm P ops i && addOk ops A C i && chkOk P ops A C i chks && waits P ops A C [i] && dtOk P ops A true t (i::C)
 |root,.effs i chks t alt,C=>(!root || waits P ops A C (i::alt.heads)) && !isCalm P ops i && addOk ops A C i && chkOk P ops A C i chks && dtOk P ops A true t (i::C) && dtOk P ops A false alt C
theorem gOp_mono{P:Program}{ops:Array Oper}{o:Oper}{e:Env}{w:World}{k k':Value→World→Prop}(hk:∀v w',k v w'→k' v w')(h:gOp P ops o e w k):gOp P ops o e w k':=by
 unfold gOp at h ⊢
 split at h
 ·exact opC_mono hk h
 ·rcases h with⟨h1,h2⟩|⟨h1,h2⟩
  ·exact .inl ⟨h1,opC_mono hk h2⟩
  ·exact .inr ⟨h1,hk _ _ h2⟩
theorem gOp_calm{P:Program}{ops:Array Oper}{o:Oper}{e:Env}{w:World}{k:Value→World→Prop}(hc:calm P o=true)(h:gOp P ops o e w k):
  ∃v,k v w∧∀k':Value→World→Prop,k' v w→gOp P ops o e w k':=by
 unfold gOp at h ⊢
 split at h
 ·exact calm_spec hc h
 ·rcases h with⟨h1,h2⟩|⟨h1,h2⟩
  ·obtain⟨v,hv,hk⟩:=calm_spec hc h2
   exact⟨v,hv,λk' hk'=>.inl ⟨h1,hk k' hk'⟩⟩
  ·exact⟨undef,h2,λk' hk'=>.inr ⟨h1,hk'⟩⟩
theorem gOp_wless{P:Program}{ops:Array Oper}{o:Oper}{e:Env}{w:World}{v:Value}(hc:wless P o=true)(h:gOp P ops o e w (λv' _=>v'=v))(w2:World):
  gOp P ops o e w2 (λv' _=>v'=v):=by
 unfold gOp at h ⊢
 split at h
 ·exact wless_spec hc h w2 rfl
 ·rcases h with⟨h1,h2⟩|⟨h1,h2⟩
  ·exact .inl ⟨h1,wless_spec hc h2 w2 rfl⟩
  ·exact .inr ⟨h1,h2⟩

theorem gOp_wp {P : Program} {ops : Array Oper} {i : Nat} {o : Oper} {e : Env} {a : Act} {w : World} {k : Value→World→Prop} {K : Act→World→Prop} {Q : Exit→Act→World→Prop}
  (hi : ops[i]? = some o) (hag : ∀ t∈reads ops o,a.tmps.getD t undef = e t) (hk : ∀ v w',k v w'→K (a.put o.dst v) w') (h : gOp P ops o e w k) {ro : Option Nat} {n : Nat} : wpOpIn (FW ro) n P ops Q i K a w:=by
 have hop : opC P o (ev e) w k→o.wpIn (FW ro) n P a w K Q:=fun h=>by
  refine opC_sound (opC_congr (ρ':=a.eval) ?_ ?_ h) rfl hk
  ·intro x hx
   cases x with
   | tmp t=>exact (hag t (List.mem_append_left _ (List.mem_filterMap.2 ⟨.tmp t,by simpa using hx,rfl⟩))).symm
   | _=>rfl
  ·intro f; rfl
 unfold wpOpIn
 simp only [hi]
 unfold gOp at h
 cases hg : o.guard with
 | none =>
  simp only [hg] at h
  have hw : Region.wanted o (yielded ops a.tmps) = true:=by simp [Region.wanted,hg]
  rw [if_pos hw]
  exact hop h
 | some g =>
  obtain ⟨j,want⟩:=g
  simp only [hg] at h
  have hy : yielded ops a.tmps j = isB (gval ops e j):=by
   unfold yielded gval gslot
   cases hd : (ops[j]?).bind (·.dst) with
   | none=>simp [isB,undef]
   | some d =>
    have hx:=hag d (List.mem_append_right _ (by simp [hg,hd]))
    simp only [Option.bind_some]
    rw [← hx,Array.getD_eq_getD_getElem?]
    cases ht : a.tmps[d]? with
    | none=>simp [isB,undef]
    | some v=>cases v <;> simp [isB]
  rcases h with ⟨h1,h2⟩ | ⟨h1,h2⟩
  ·have hw : Region.wanted o (yielded ops a.tmps) = true:=by simp [Region.wanted,hg,hy,h1]
   rw [if_pos hw]
   exact hop h2
  ·have hw : ¬ Region.wanted o (yielded ops a.tmps) = true:=by simp [Region.wanted,hg,hy,h1]
   rw [if_neg hw]
   exact ⟨fun _ _=>trivial,hk _ _ h2⟩
section
variable (P:Program) (ops:Array Oper) (A:List (List Nat)) (N:Nat) (ds:List Deferred) (e0:Env) (k:Env→World→Prop)
structure Inv(T:DT)(C:List Nat)(e:Env)(sn:Nat→Env)(vl:Nat→Value)(D:Nat→Prop)(a:Act)(w:World):Prop where
 ok:dtOk P ops A true T C=true
 can:drawC P ops T e sn vl k w
 sub:∀i,D i→i∈C
 lt:∀i,i∈C→i<ops.size
 eff:∀i,i∈C→isCalm P ops i=false→D i
 down:∀i,D i→∀o,ops[i]? =some o→∀ed∈o.after,Region.binds .any ed=true→D ed.on
 size:a.tmps.size=N
 defers:a.defers=ds
 act:∀t,(∀i,D i→writer ops i t=true→a.tmps.getD t undef=vl i)∧((∀i,D i→writer ops i t=false)→a.tmps.getD t undef=e0 t)
 env:∀t,(∀i,i∈C→writer ops i t=true→e t=vl i)∧((∀i,i∈C→writer ops i t=false)→e t=e0 t)
 snap:∀i,i∈C→∀t,t∈readsAt ops i→(∀j,j≠i→writer ops j t=true→isAnc A j i=true→j∈C∧sn i t=vl j)∧
  ((∀j,j≠i→writer ops j t=true→isAnc A j i=false)→sn i t=e0 t)
 pend:∀i,i∈C→¬D i→∃o,ops[i]? =some o∧gOp P ops o (sn i) w λv _=>v=vl i
end
section
variable {P:Program} {ops:Array Oper} {A:List (List Nat)} {N:Nat} {ds:List Deferred} {e0:Env} {k:Env→World→Prop}
theorem writer_lt{i t:Nat}(h:writer ops i t=true):i<ops.size:=by
 unfold writer at h
 cases hi:ops[i]? with
 |none=>rw[hi]at h;cases h
 |some o=>exact(Array.getElem?_eq_some_iff.1 hi).1
theorem ancOk_spec(h:ancOk ops A=true){i:Nat}{o:Oper}(hi:ops[i]? =some o):
  (∀ed∈o.after,Region.binds .any ed=true→ed.on<i)∧
  ∀j,isAnc A j i=true→∃ed∈o.after,Region.binds .any ed=true∧(ed.on=j∨isAnc A j ed.on=true):=by
 have hlt:i<ops.size:=(Array.getElem?_eq_some_iff.1 hi).1
 have:=(List.all_eq_true.1 h) i (List.mem_range.2 hlt)
 simp only[hi,Bool.and_eq_true]at this
 obtain⟨h1,h2⟩:=this
 constructor
 ·intro ed hed hb
  have:=(List.all_eq_true.1 h1) ed (by simpa using hed)
  simp only[hb,Bool.not_true,Bool.false_or]at this
  exact by have:=Nat.le_of_ble_eq_true this;omega
 ·intro j hj
  unfold isAnc at hj
  have:=(List.all_eq_true.1 h2) j (by simpa using hj)
  obtain⟨ed,hed,hh⟩:=List.any_eq_true.1 this
  simp only[Bool.and_eq_true,Bool.or_eq_true]at hh
  refine⟨ed,by simpa using hed,hh.1,?_⟩
  rcases hh.2 with h3|h3
  ·exact .inl (Nat.eq_of_beq_eq_true h3)
  ·exact .inr (by unfold isAnc;exact h3)
theorem anc_done(hA:ancOk ops A=true){D:Nat→Prop}(down:∀i,D i→∀o,ops[i]? =some o→∀ed∈o.after,Region.binds .any ed=true→D ed.on):
  ∀(i:Nat) (o:Oper),ops[i]? =some o→(∀ed∈o.after,Region.binds .any ed=true→D ed.on)→∀j,isAnc A j i=true→D j:=by
 intro i
 induction i using Nat.strongRecOn with
 |_ i ih=>
  intro o hi hd j hj
  obtain⟨hlt,hex⟩:=ancOk_spec hA hi
  obtain⟨ed,hed,hb,h⟩:=hex j hj
  rcases h with rfl|h
  ·exact hd ed hed hb
  ·have hDk:=hd ed hed hb
   have hk:=hlt ed hed hb
   have hik:i<ops.size:=(Array.getElem?_eq_some_iff.1 hi).1
   have ho:ops[ed.on]? =some ops[ed.on]:=Array.getElem?_eq_getElem (by omega)
   exact ih ed.on hk _ ho (down _ hDk _ ho) j h
theorem ssa_one(hs:ssaOk ops A=true){i j t:Nat}(hi:writer ops i t=true)(hj:writer ops j t=true):i=j:=by
 by_cases hne:i=j
 ·exact hne
 ·exfalso
  have h:=(List.all_eq_true.1 ((List.all_eq_true.1 hs) i (List.mem_range.2 (writer_lt hi)))) j (List.mem_range.2 (writer_lt hj))
  simp only[Bool.or_eq_true,Bool.and_eq_true]at h
  rcases h with h|h
  ·exact hne (Nat.eq_of_beq_eq_true h)
  ·have h1:=h.1
   unfold writer at hi
   cases ho:ops[i]? with
   |none=>rw[ho]at hi;cases hi
   |some o=>
    rw[ho]at hi h1
    simp only at hi h1
    cases hd:o.dst with
    |none=>rw[hd]at hi;cases hi
    |some d=>
     rw[hd]at hi h1
     simp only at hi h1
     have:=Nat.eq_of_beq_eq_true hi
     subst this
     rw[hj]at h1;cases h1
theorem ssa_order(hs:ssaOk ops A=true){i j t:Nat}(hne:i≠j)(hi:i<ops.size)(ht:t∈readsAt ops i)(hj:writer ops j t=true):isAnc A j i=true∨isAnc A i j=true:=by
 have h:=(List.all_eq_true.1 ((List.all_eq_true.1 hs) i (List.mem_range.2 hi))) j (List.mem_range.2 (writer_lt hj))
 simp only[Bool.or_eq_true,Bool.and_eq_true]at h
 rcases h with h|h
 ·exact absurd (Nat.eq_of_beq_eq_true h) hne
 ·have:=(List.all_eq_true.1 h.2) t ht
  simp only[hj,Bool.not_true,Bool.false_or,Bool.or_eq_true]at this
  exact this
theorem addOk_spec{C:List Nat}{i:Nat}(h:addOk ops A C i=true):i<ops.size∧i∉C∧
  ∀j t,j≠i→t∈readsAt ops i→writer ops j t=true→if isAnc A j i=true then j∈C else j∉C:=by
 unfold addOk at h
 simp only[Bool.and_eq_true]at h
 obtain⟨⟨h1,h2⟩,h3⟩:=h
 refine⟨by have:=Nat.le_of_ble_eq_true h1;omega,by simpa using h2,?_⟩
 intro j t hne ht hw
 have:=(List.all_eq_true.1 h3) j (List.mem_range.2 (writer_lt hw))
 simp only[Bool.or_eq_true]at this
 rcases this with h|h
 ·exact absurd (Nat.eq_of_beq_eq_true h).symm hne
 ·have:=(List.all_eq_true.1 h) t ht
  simp only[hw,Bool.not_true,Bool.false_or]at this
  by_cases ha:isAnc A j i=true
  ·rw[if_pos ha]at this ⊢;simpa using this
  ·rw[if_neg ha]at this ⊢;simpa using this
theorem putO_apply(e:Env)(o:Oper)(i:Nat)(hi:ops[i]? =some o)(v:Value)(t:Nat):putO e o.dst v t=if writer ops i t=true then v else e t:=by
 unfold writer
 simp only[hi]
 cases hd:o.dst with
 |none=>simp[putO]
 |some d=>
  simp only[putO,put_apply]
  by_cases h:t=d
  ·subst h;simp
  ·have:Nat.beq d t=false:=by
    cases hb:Nat.beq d t
    ·rfl
    ·exact absurd (Nat.eq_of_beq_eq_true hb).symm h
   simp[this,h]
theorem actPut_apply(a:Act)(o:Oper)(i:Nat)(hi:ops[i]? =some o)(v:Value)(hd:∀d,o.dst=some d→d<a.tmps.size)(t:Nat):
  (a.put o.dst v).tmps.getD t undef=if writer ops i t=true then v else a.tmps.getD t undef:=by
 unfold writer
 simp only[hi]
 cases ho:o.dst with
 |none=>simp[Act.put]
 |some d=>
  have hlt:=hd d ho
  simp only[Act.put,Array.getD_eq_getD_getElem?]
  rw[Array.getElem?_setIfInBounds]
  by_cases h:d=t
  ·subst h;simp[hlt]
  ·have:Nat.beq d t=false:=by
    cases hb:Nat.beq d t
    ·rfl
    ·exact absurd (Nat.eq_of_beq_eq_true hb) h
   simp[this,h]
theorem mem_readsAt{i:Nat}{o:Oper}(hi:ops[i]? =some o):readsAt ops i=reads ops o:=by unfold readsAt;rw[hi]

theorem Inv.norm(hs:ssaOk ops A=true){T:DT}:∀{C:List Nat} {e:Env} {sn:Nat→Env} {vl:Nat→Value} {D:Nat→Prop} {a:Act} {w:World},Inv P ops A N ds e0 k T C e sn vl D a w→
  ∃T' C' e' sn' vl',Inv P ops A N ds e0 k T' C' e' sn' vl' D a w∧(∀i t,T'≠ .calm i t):=by
 induction T with
 |calm i t ih=>
  intro C e sn vl D a w I
  have hok:=I.ok
  simp only[dtOk,Bool.and_eq_true]at hok
  obtain⟨⟨⟨_,hcalm⟩,hadd⟩,hrest⟩:=hok
  obtain⟨hlt,hni,hw⟩:=addOk_spec hadd
  have ho:ops[i]? =some ops[i]:=Array.getElem?_eq_getElem hlt
  have hcan:=I.can
  simp only[drawC,ho]at hcan
  have hc:calm P ops[i]=true:=by unfold isCalm at hcalm;rw[ho]at hcalm;exact hcalm
  obtain⟨v,hv,hall⟩:=gOp_calm hc hcan
  have hne:∀{x},x∈C→x≠i:=λhx h=>hni (h▸hx)
  refine ih (C:=i::C) (e:=putO e ops[i].dst v) (sn:=upd sn i e) (vl:=upd vl i v) ⟨hrest,hv,λx hx=>List.mem_cons_of_mem _ (I.sub x hx),?_,?_,I.down,I.size,I.defers,?_,?_,?_,?_⟩
  ·intro x hx
   rcases List.mem_cons.1 hx with rfl|hx
   ·exact hlt
   ·exact I.lt x hx
  ·intro x hx hcx
   rcases List.mem_cons.1 hx with rfl|hx
   ·rw[hcalm]at hcx;cases hcx
   ·exact I.eff x hx hcx
  ·intro t'
   refine⟨λx hx hwx=>?_,(I.act t').2⟩
   rw[upd_apply,if_neg (hne (I.sub x hx))]
   exact(I.act t').1 x hx hwx
  ·intro t'
   rw[putO_apply e _ i ho v t']
   refine⟨λx hx hwx=>?_,λhnone=>?_⟩
   ·rcases List.mem_cons.1 hx with rfl|hx
    ·rw[if_pos hwx,upd_apply,if_pos rfl]
    ·have hxi:x≠i:=hne hx
     have:¬writer ops i t'=true:=λh=>hxi (ssa_one hs hwx h)
     rw[if_neg this,upd_apply,if_neg hxi]
     exact(I.env t').1 x hx hwx
   ·have h0:=hnone i (by simp)
    rw[if_neg (by simp[h0])]
    exact(I.env t').2 λx hx=>hnone x (List.mem_cons_of_mem _ hx)
  ·intro x hx t' ht'
   rcases List.mem_cons.1 hx with rfl|hx
   ·refine⟨λj hj hwj haj=>?_,λhnone=>?_⟩
    ·have:=hw j t' hj ht' hwj
     rw[if_pos haj]at this
     refine⟨List.mem_cons_of_mem _ this,?_⟩
     rw[upd_apply,if_pos rfl,upd_apply,if_neg hj]
     exact(I.env t').1 j this hwj
    ·rw[upd_apply,if_pos rfl]
     refine(I.env t').2 λj hj=>?_
     cases hwj:writer ops j t' with
     |false=>rfl
     |true=>
      have hji:j≠x:=λh=>hni (h▸hj)
      have:=hw j t' hji ht' hwj
      rw[if_neg (by simp[hnone j hji hwj])]at this
      exact absurd hj this
   ·have hxi:x≠i:=hne hx
    obtain⟨s1,s2⟩:=I.snap x hx t' ht'
    refine⟨λj hj hwj haj=>?_,λhnone=>?_⟩
    ·obtain⟨hjC,hsn⟩:=s1 j hj hwj haj
     refine⟨List.mem_cons_of_mem _ hjC,?_⟩
     rw[upd_apply,if_neg hxi,upd_apply,if_neg (hne hjC)]
     exact hsn
    ·rw[upd_apply,if_neg hxi]
     exact s2 hnone
  ·intro x hx hnd
   rcases List.mem_cons.1 hx with rfl|hx
   ·refine⟨_,ho,?_⟩
    simp only[upd_apply,if_true]
    exact hall _ rfl
   ·obtain⟨o,h1,h2⟩:=I.pend x hx hnd
    refine⟨o,h1,?_⟩
    simp only[upd_apply,if_neg (hne hx)]
    exact h2
 |done=>intro C e sn vl D a w I;exact⟨_,_,_,_,_,I,λ_ _ h=>by cases h⟩
 |none=>intro C e sn vl D a w I;exact⟨_,_,_,_,_,I,λ_ _ h=>by cases h⟩
 |eff1 i c t ih=>intro C e sn vl D a w I;exact⟨_,_,_,_,_,I,λ_ _ h=>by cases h⟩
 |effs i c t alt ih1 ih2=>intro C e sn vl D a w I;exact⟨_,_,_,_,_,I,λ_ _ h=>by cases h⟩

theorem branch{C:List Nat}{e:Env}{sn:Nat→Env}{vl:Nat→Value}{w:World}{i:Nat}:∀{T:DT} {root:Bool},dtOk P ops A root T C=true→drawC P ops T e sn vl k w→i∈T.heads→
  ∃chks t,isCalm P ops i=false∧addOk ops A C i=true∧chkOk P ops A C i chks=true∧dtOk P ops A true t (i::C)=true∧
   ∀o,ops[i]? =some o→gOp P ops o e w λv w'=>chkAll P ops sn vl chks w' (drawC P ops t (putO e o.dst v) (upd sn i e) (upd vl i v) k w'):=by
 intro T
 induction T with
 |done=>intro root _ _ h;cases h
 |none=>intro root _ _ h;cases h
 |calm j t ih=>intro root _ _ h;cases h
 |eff1 j c t ih=>
  intro root hok hc h
  simp only[DT.heads,List.mem_singleton]at h
  subst h
  simp only[dtOk,Bool.and_eq_true,Bool.not_eq_true']at hok
  obtain⟨⟨⟨⟨⟨_,h1⟩,h2⟩,h3⟩,_⟩,h4⟩:=hok
  refine⟨c,t,h1,h2,h3,h4,λo ho=>?_⟩
  simp only[drawC,ho]at hc
  exact hc
 |effs j c t alt ih1 ih2=>
  intro root hok hc h
  simp only[dtOk,Bool.and_eq_true,Bool.not_eq_true']at hok
  obtain⟨⟨⟨⟨⟨_,h1⟩,h2⟩,h3⟩,h4⟩,h5⟩:=hok
  simp only[DT.heads,List.mem_cons]at h
  rcases h with rfl|h
  ·refine⟨c,t,h1,h2,h3,h4,λo ho=>?_⟩
   simp only[drawC,ho]at hc
   exact hc.1
  ·simp only[drawC]at hc
   exact ih2 h5 hc.2 h
theorem chkAll_spec{sn:Nat→Env}{vl:Nat→Value}{w:World}{K:Prop}:∀{chks:List Nat},chkAll P ops sn vl chks w K→K∧∀r∈chks,∃o,ops[r]? =some o∧gOp P ops o (sn r) w λv _=>v=vl r:=by
 intro chks
 induction chks with
 |nil=>exact λh=>⟨h,λr hr=>by cases hr⟩
 |cons r rs ih=>
  intro h
  obtain⟨h1,h2⟩:=h
  obtain⟨hK,hall⟩:=ih h2
  refine⟨hK,λx hx=>?_⟩
  rcases List.mem_cons.1 hx with rfl|hx
  ·cases ho:ops[x]? with
   |none=>rw[ho]at h1;exact h1.elim
   |some o=>rw[ho]at h1;exact⟨o,rfl,h1⟩
  ·exact hall x hx
theorem getD_set{listed:Array Bool}{i j:Nat}(hi:i<listed.size):(listed.setIfInBounds i true).getD j false=true↔j=i∨listed.getD j false=true:=by
 simp only[Array.getD_eq_getD_getElem?]
 rw[Array.getElem?_setIfInBounds]
 by_cases h:i=j
 ·subst h;simp[hi]
 ·have:¬j=i:=λhh=>h hh.symm
  simp[h,this]
theorem countP_flip{i:Nat}{p q:Nat→Bool}(hp:p i=true)(hq:q i=false)(h:∀j,j≠i→q j=p j):∀{l:List Nat},l.Nodup→i∈l→l.countP p=l.countP q+1
 |[],_,hm=>by cases hm
 |x::r,hn,hm=>by
  have hn':=List.nodup_cons.1 hn
  rw[List.countP_cons,List.countP_cons]
  by_cases hx:x=i
  ·subst hx
   have:r.countP p=r.countP q:=by
    refine List.countP_congr λj hj=>?_
    rw[h j (λhh=>hn'.1 (hh▸hj))]
   simp[hp,hq,this]
  ·have hm':i∈r:=by rcases List.mem_cons.1 hm with hh|hh;exact absurd hh.symm hx;exact hh
   have:=countP_flip hp hq h hn'.2 hm'
   rw[this,h x hx]
   omega
theorem act_step(hs:ssaOk ops A=true){D D':Nat→Prop}{vl vl':Nat→Value}{a:Act}{o:Oper}{i:Nat}(hi:ops[i]? =some o)(hd:∀d,o.dst=some d→d<a.tmps.size)
  (hD:∀x,D' x↔x=i∨D x)(hni:¬D i)(hv:∀x,D x→vl' x=vl x){v:Value}(hvi:vl' i=v)
  (h:∀t,(∀x,D x→writer ops x t=true→a.tmps.getD t undef=vl x)∧((∀x,D x→writer ops x t=false)→a.tmps.getD t undef=e0 t)):
  ∀t,(∀x,D' x→writer ops x t=true→(a.put o.dst v).tmps.getD t undef=vl' x)∧((∀x,D' x→writer ops x t=false)→(a.put o.dst v).tmps.getD t undef=e0 t):=by
 intro t
 rw[actPut_apply a o i hi v hd t]
 refine⟨λx hx hw=>?_,λhnone=>?_⟩
 ·rcases(hD x).1 hx with rfl|hx
  ·rw[if_pos hw,hvi]
  ·have hne:x≠i:=λhh=>hni (hh▸hx)
   rw[if_neg (λhh=>hne (ssa_one hs hw hh)),hv x hx]
   exact(h t).1 x hx hw
 ·rw[if_neg (by simp[hnone i ((hD i).2 (.inl rfl))])]
  exact(h t).2 λx hx=>hnone x ((hD x).2 (.inr hx))
theorem ready_spec{listed:Array Bool}(hsz:listed.size=ops.size){i:Nat}(h:i∈Region.ready .any ops listed):
  ¬listed.getD i false=true∧∃o,ops[i]? =some o∧∀ed∈o.after,Region.binds .any ed=true→listed.getD ed.on false=true:=by
 obtain⟨h1,o,ho,h2⟩:=mem_ready.1 h
 refine⟨?_,o,ho,h2⟩
 have hlt:i<listed.size:=by rw[hsz];exact(Array.getElem?_eq_some_iff.1 ho).1
 intro hh
 simp[Array.getD_eq_getD_getElem?,Array.getElem?_eq_getElem hlt]at h1 hh
 rw[h1]at hh;cases hh
theorem all_listed(hA:ancOk ops A=true){listed:Array Bool}(hsz:listed.size=ops.size)(h:Region.ready .any ops listed=[]):∀i,i<ops.size→listed.getD i false=true:=by
 intro i
 induction i using Nat.strongRecOn with
 |_ i ih=>
  intro hlt
  cases hb:listed.getD i false with
  |true=>rfl
  |false=>
   exfalso
   have ho:ops[i]? =some ops[i]:=Array.getElem?_eq_getElem hlt
   have:i∈Region.ready .any ops listed:=mem_ready.2 ⟨by
    simp[Array.getD_eq_getD_getElem?,Array.getElem?_eq_getElem (by omega:i<listed.size)]at hb ⊢;exact hb,ops[i],ho,λed hed hbd=>by
    have:=(ancOk_spec hA ho).1 ed hed hbd
    exact ih ed.on this (by omega)⟩
   rw[h]at this;cases this
theorem Inv.finish{T:DT}{C:List Nat}{e:Env}{sn:Nat→Env}{vl:Nat→Value}{D:Nat→Prop}{a:Act}{w:World}(I:Inv P ops A N ds e0 k T C e sn vl D a w)
  (hnc:∀i t,T≠ .calm i t)(hall:∀i,i<ops.size→D i):Rel N ds a e∧k e w:=by
 have hC:∀i,i<ops.size→i∈C:=λi hi=>I.sub i (hall i hi)
 refine⟨⟨I.size,λt=>?_,I.defers⟩,?_⟩
 ·by_cases hex:∃j,writer ops j t=true
  ·obtain⟨j,hj⟩:=hex
   have hlt:=writer_lt hj
   rw[(I.act t).1 j (hall j hlt) hj,(I.env t).1 j (hC j hlt) hj]
  ·have hno:∀j,writer ops j t=false:=λj=>by
    cases hj:writer ops j t with
    |false=>rfl
    |true=>exact absurd ⟨j,hj⟩ hex
   rw[(I.act t).2 λj _=>hno j,(I.env t).2 λj _=>hno j]
 ·have hok:=I.ok
  cases T with
  |done=>exact I.can
  |none=>simp[dtOk]at hok
  |calm i t=>exact absurd rfl (hnc i t)
  |eff1 i c t=>
   simp only[dtOk,Bool.and_eq_true]at hok
   obtain⟨h1,h2,_⟩:=addOk_spec hok.1.1.1.2
   exact absurd (hC i h1) h2
  |effs i c t alt=>
   simp only[dtOk,Bool.and_eq_true]at hok
   obtain⟨h1,h2,_⟩:=addOk_spec hok.1.1.1.2
   exact absurd (hC i h1) h2
theorem draw_sound(hA:ancOk ops A=true)(hs:ssaOk ops A=true)(hN:dstsOk N ops.toList=true){Q:Exit→Act→World→Prop}{ro:Option Nat}{n:Nat}
  (hk:∀e' a' w',Rel N ds a' e'→k e' w'→Q .normal a' w'):
  ∀(fuel:Nat) (listed:Array Bool),listed.size=ops.size→((List.range ops.size).countP λi=>!listed.getD i false)=fuel→
   ∀{T:DT} {C:List Nat} {e:Env} {sn:Nat→Env} {vl:Nat→Value} {a:Act} {w:World},Inv P ops A N ds e0 k T C e sn vl (λi=>listed.getD i false=true) a w→
    wpAnyIn (FW ro) n P .any ops Q fuel listed a w:=by
 have hdst:∀(i:Nat) (o:Oper),ops[i]? =some o→∀d,o.dst=some d→d<N:=by
  intro i o hi d hd
  have hmem:o∈ops.toList:=by simpa using Array.mem_of_getElem? hi
  have key:∀l:List Oper,dstsOk N l=true→o∈l→d<N:=by
   intro l
   induction l with
   |nil=>intro _ h;cases h
   |cons x r ih=>
    intro hl hm
    simp only[dstsOk,Bool.and_eq_true]at hl
    rcases List.mem_cons.1 hm with rfl|hm
    ·have h1:=hl.1;rw[hd]at h1;exact Nat.le_of_ble_eq_true h1
    ·exact ih hl.2 hm
  exact key _ hN hmem
 have fin:∀(listed:Array Bool),listed.size=ops.size→∀{T:DT} {C:List Nat} {e:Env} {sn:Nat→Env} {vl:Nat→Value} {a:Act} {w:World},
   Inv P ops A N ds e0 k T C e sn vl (λi=>listed.getD i false=true) a w→Region.ready .any ops listed=[]→Q .normal a w:=by
  intro listed hsz T C e sn vl a w I hr
  obtain⟨T',C',e',sn',vl',I',hnc⟩:=I.norm hs
  obtain⟨h1,h2⟩:=I'.finish hnc (all_listed hA hsz hr)
  exact hk _ _ _ h1 h2
 intro fuel
 induction fuel with
 |zero=>
  intro listed hsz hcnt T C e sn vl a w I
  have hr:Region.ready .any ops listed=[]:=by
   refine List.eq_nil_iff_forall_not_mem.2 λi hi=>?_
   obtain⟨h1,o,ho,_⟩:=ready_spec hsz hi
   have hlt:=(Array.getElem?_eq_some_iff.1 ho).1
   have:=List.countP_eq_zero.1 hcnt i (List.mem_range.2 hlt)
   simp at this
   exact h1 (by simpa using this)
  exact⟨hr,fin listed hsz I hr⟩
 |succ fuel ih=>
  intro listed hsz hcnt T C e sn vl a w I
  refine⟨fin listed hsz I,λi hi=>?_⟩
  obtain⟨T,C,e,sn,vl,I,hnc⟩:=I.norm hs
  obtain⟨hnd,o,ho,hpre⟩:=ready_spec hsz hi
  have hlt:=(Array.getElem?_eq_some_iff.1 ho).1
  have hll:i<listed.size:=by omega
  have hD:∀x,(listed.setIfInBounds i true).getD x false=true↔x=i∨listed.getD x false=true:=λx=>getD_set hll
  have hsz':(listed.setIfInBounds i true).size=ops.size:=by simp[hsz]
  have hcnt':((List.range ops.size).countP λj=>!(listed.setIfInBounds i true).getD j false)=fuel:=by
   have:=countP_flip (i:=i) (p:=λj=>!listed.getD j false) (q:=λj=>!(listed.setIfInBounds i true).getD j false) (by simpa using hnd)
    (by simp[(hD i).2 (.inl rfl)]) (λj hj=>by
     have:((listed.setIfInBounds i true).getD j false=true)↔(listed.getD j false=true):=⟨λh=>((hD j).1 h).resolve_left hj,λh=>(hD j).2 (.inr h)⟩
     have:=Bool.eq_iff_iff.2 this
     rw[this]) (List.nodup_range (n:=ops.size)) (List.mem_range.2 hlt)
   omega
  have hanc:∀j,isAnc A j i=true→listed.getD j false=true:=anc_done hA I.down i o ho hpre
  have hdb:∀d,o.dst=some d→d<a.tmps.size:=λd hd=>by rw[I.size];exact hdst i o ho d hd
  have hdown:∀x,(listed.setIfInBounds i true).getD x false=true→∀o',ops[x]? =some o'→∀ed∈o'.after,Region.binds .any ed=true→(listed.setIfInBounds i true).getD ed.on false=true:=by
   intro x hx o' ho' ed hed hb
   rcases(hD x).1 hx with rfl|hx
   ·rw[ho]at ho';cases ho'
    exact(hD _).2 (.inr (hpre ed hed hb))
   ·exact(hD _).2 (.inr (I.down x hx o' ho' ed hed hb))
  have hsize':∀v,(a.put o.dst v).tmps.size=N:=λv=>by
   cases hod:o.dst with
   |none=>simpa[Act.put] using I.size
   |some d=>simpa[Act.put] using I.size
  have hdef':∀v,(a.put o.dst v).defers=ds:=λv=>by
   cases hod:o.dst with
   |none=>simpa[Act.put] using I.defers
   |some d=>simpa[Act.put] using I.defers
  by_cases hC:i∈C
  ·-- a pending operation that leaves the world alone
   have hcalm:calm P o=true:=by
    cases hcc:isCalm P ops i with
    |false=>exact absurd (I.eff i hC hcc) hnd
    |true=>unfold isCalm at hcc;rw[ho]at hcc;exact hcc
   obtain⟨o',ho',hp⟩:=I.pend i hC hnd
   rw[ho]at ho';cases ho'
   obtain⟨v,hv,hall⟩:=gOp_calm hcalm hp
   subst hv
   refine gOp_wp ho (e:=sn i) ?_ ?_ (hall (λv' w'=>v'=vl i∧w'=w) ⟨rfl,rfl⟩)
   ·intro t ht
    rw[← mem_readsAt ho]at ht
    obtain⟨s1,s2⟩:=I.snap i hC t ht
    by_cases hex:∃j,j≠i∧writer ops j t=true∧isAnc A j i=true
    ·obtain⟨j,h1,h2,h3⟩:=hex
     rw[(s1 j h1 h2 h3).2]
     exact(I.act t).1 j (hanc j h3) h2
    ·rw[s2 λj h1 h2=>by
      cases h3:isAnc A j i with
      |false=>rfl
      |true=>exact absurd ⟨j,h1,h2,h3⟩ hex]
     refine(I.act t).2 λj hj=>?_
     cases h2:writer ops j t with
     |false=>rfl
     |true=>
      exfalso
      have h1:j≠i:=λhh=>hnd (hh▸hj)
      rcases ssa_order hs (Ne.symm h1) hlt ht h2 with h3|h3
      ·exact hex ⟨j,h1,h2,h3⟩
      ·have hjo:ops[j]? =some (ops[j]'(writer_lt h2)):=Array.getElem?_eq_getElem (writer_lt h2)
       exact hnd (anc_done hA I.down j _ hjo (I.down j hj _ hjo) i h3)
   ·rintro v' w' ⟨rfl,rfl⟩
    refine ih _ hsz' hcnt' (T:=T) (C:=C) (e:=e) (sn:=sn) (vl:=vl) ⟨I.ok,I.can,?_,I.lt,?_,hdown,hsize' _,hdef' _,?_,I.env,I.snap,?_⟩
    ·intro x hx
     rcases(hD x).1 hx with rfl|hx
     ·exact hC
     ·exact I.sub x hx
    ·intro x hx hcx;exact(hD x).2 (.inr (I.eff x hx hcx))
    ·exact act_step hs ho hdb hD hnd (λ_ _=>rfl) rfl I.act
    ·intro x hx hnx
     exact I.pend x hx λh=>hnx ((hD x).2 (.inr h))
  ·-- an effect
   have hheads:i∈T.heads:=by
    have hok:=I.ok
    have hw:∀heads,waits P ops A C heads=true→i∈heads:=by
     intro heads hw
     have:=(List.all_eq_true.1 hw) i (List.mem_range.2 hlt)
     simp only[Bool.or_eq_true]at this
     rcases this with(h|h)|h
     ·exact absurd (by simpa using h) hC
     ·simpa using h
     ·obtain⟨f,hf,hh⟩:=List.any_eq_true.1 h
      simp only[Bool.and_eq_true,Bool.not_eq_true']at hh
      have hDf:=hanc f (by unfold isAnc;simpa using hf)
      have:=I.sub f hDf
      exact absurd this (by simpa using hh.2)
    cases T with
    |done=>
     simp only[dtOk,Bool.true_and]at hok
     have:=(List.all_eq_true.1 hok) i (List.mem_range.2 hlt)
     exact absurd (by simpa using this) hC
    |none=>simp[dtOk]at hok
    |calm j t=>exact absurd rfl (hnc j t)
    |eff1 j c t=>
     simp only[dtOk,Bool.and_eq_true]at hok
     exact hw _ hok.1.2
    |effs j c t alt=>
     simp only[dtOk,Bool.and_eq_true,Bool.not_true,Bool.false_or]at hok
     exact hw _ hok.1.1.1.1.1
   obtain⟨chks,t',hnot,hadd,hchk,hok',hg⟩:=branch I.ok I.can hheads
   obtain⟨_,_,hwr⟩:=addOk_spec hadd
   have hne:∀{x},x∈C→x≠i:=λhx h=>hC (h▸hx)
   refine gOp_wp ho (e:=e) ?_ ?_ (hg o ho)
   ·intro t ht
    rw[← mem_readsAt ho]at ht
    by_cases hex:∃j,j≠i∧writer ops j t=true∧isAnc A j i=true
    ·obtain⟨j,h1,h2,h3⟩:=hex
     have hjC:=hwr j t h1 ht h2
     rw[if_pos h3]at hjC
     rw[(I.env t).1 j hjC h2]
     exact(I.act t).1 j (hanc j h3) h2
    ·have hno:∀j,j∈C→writer ops j t=false:=λj hj=>by
      cases h2:writer ops j t with
      |false=>rfl
      |true=>
       have h1:=hne hj
       have hjC:=hwr j t h1 ht h2
       rw[if_neg λh3=>hex ⟨j,h1,h2,h3⟩]at hjC
       exact absurd hj hjC
     rw[(I.env t).2 hno]
     exact(I.act t).2 λj hj=>hno j (I.sub j hj)
   ·intro v w' hcont
    obtain⟨hcan,hchks⟩:=chkAll_spec hcont
    refine ih _ hsz' hcnt' (T:=t') (C:=i::C) (e:=putO e o.dst v) (sn:=upd sn i e) (vl:=upd vl i v) ⟨hok',hcan,?_,?_,?_,hdown,hsize' _,hdef' _,?_,?_,?_,?_⟩
    ·intro x hx
     rcases(hD x).1 hx with rfl|hx
     ·exact List.mem_cons_self
     ·exact List.mem_cons_of_mem _ (I.sub x hx)
    ·intro x hx
     rcases List.mem_cons.1 hx with rfl|hx
     ·exact hlt
     ·exact I.lt x hx
    ·intro x hx hcx
     rcases List.mem_cons.1 hx with rfl|hx
     ·exact(hD _).2 (.inl rfl)
     ·exact(hD x).2 (.inr (I.eff x hx hcx))
    ·refine act_step hs ho hdb hD hnd (λx hx=>?_) ?_ I.act
     ·rw[upd_apply,if_neg (hne (I.sub x hx))]
     ·rw[upd_apply,if_pos rfl]
    ·intro t
     rw[putO_apply e o i ho v t]
     refine⟨λx hx hwx=>?_,λhnone=>?_⟩
     ·rcases List.mem_cons.1 hx with rfl|hx
      ·rw[if_pos hwx,upd_apply,if_pos rfl]
      ·have hxi:x≠i:=hne hx
       rw[if_neg (λh=>hxi (ssa_one hs hwx h)),upd_apply,if_neg hxi]
       exact(I.env t).1 x hx hwx
     ·have h0:=hnone i (by simp)
      rw[if_neg (by simp[h0])]
      exact(I.env t).2 λx hx=>hnone x (List.mem_cons_of_mem _ hx)
    ·intro x hx t ht
     rcases List.mem_cons.1 hx with rfl|hx
     ·refine⟨λj hj hwj haj=>?_,λhnone=>?_⟩
      ·have:=hwr j t hj ht hwj
       rw[if_pos haj]at this
       refine⟨List.mem_cons_of_mem _ this,?_⟩
       rw[upd_apply,if_pos rfl,upd_apply,if_neg hj]
       exact(I.env t).1 j this hwj
      ·rw[upd_apply,if_pos rfl]
       refine(I.env t).2 λj hj=>?_
       cases hwj:writer ops j t with
       |false=>rfl
       |true=>
        have hji:j≠x:=hne hj
        have:=hwr j t hji ht hwj
        rw[if_neg (by simp[hnone j hji hwj])]at this
        exact absurd hj this
     ·have hxi:x≠i:=hne hx
      obtain⟨s1,s2⟩:=I.snap x hx t ht
      refine⟨λj hj hwj haj=>?_,λhnone=>?_⟩
      ·obtain⟨hjC,hsn⟩:=s1 j hj hwj haj
       refine⟨List.mem_cons_of_mem _ hjC,?_⟩
       rw[upd_apply,if_neg hxi,upd_apply,if_neg (hne hjC)]
       exact hsn
      ·rw[upd_apply,if_neg hxi]
       exact s2 hnone
    ·intro x hx hnx
     rcases List.mem_cons.1 hx with rfl|hx
     ·exact absurd ((hD _).2 (.inl rfl)) hnx
     ·have hxi:x≠i:=hne hx
      have hnDx:¬listed.getD x false=true:=λh=>hnx ((hD x).2 (.inr h))
      simp only[upd_apply,if_neg hxi]
      have:=(List.all_eq_true.1 hchk) x hx
      simp only[Bool.or_eq_true,Bool.not_eq_true']at this
      rcases this with((h|h)|h)|h
      ·exact absurd (hanc x h) hnDx
      ·exact absurd (I.eff x hx h) hnDx
      ·obtain⟨ox,hox,hp⟩:=I.pend x hx hnDx
       refine⟨ox,hox,?_⟩
       unfold isWless at h;rw[hox]at h
       exact gOp_wless h hp w'
      ·exact hchks x (by simpa using h)
end

def planOk(P:Program)(N:Nat)(ops:Array Oper)(A:List (List Nat))(T:DT):Bool:=
 ancOk ops A && ssaOk ops A && dstsOk N ops.toList && dtOk P ops A true T []
theorem draw_wp {P : Program} {ops : Array Oper} {A : List (List Nat)} {N : Nat} {ds : List Deferred} {ro : Option Nat} {n : Nat} {T : DT} (hp : planOk P N ops A T = true) {id : Nat} {e : Env} {a : Act} {w : World} {k : Env→World→Prop}
    (hm : P.follows .mixedOrders = true) (hr : Rel N ds a e) (h : drawC P ops T e (fun _=>e) (fun _=>undef) k w.drew) {Q : Exit→Act→World→Prop}
    (hk : ∀ e' a' w',Rel N ds a' e'→k e' w'→Q .normal a' w') : (Code.region id ops true).wpIn (FW ro) n P Q a w:=by
  unfold planOk at hp
  simp only [Bool.and_eq_true] at hp
  obtain ⟨⟨⟨h1,h2⟩,h3⟩,h4⟩:=hp
  have hno : ∀ j,(Array.replicate ops.size false).getD j false = false:=fun j=>by
    rw [Array.getD_eq_getD_getElem?,Array.getElem?_replicate]
    split <;> rfl
  have hnd : ∀ j,¬ (Array.replicate ops.size false).getD j false = true:=fun j h=>by rw [hno] at h; cases h
  refine wpIn_region_any hm (draw_sound h1 h2 h3 hk ops.size (Array.replicate ops.size false) (by simp) (by simp [hno]) (T:=T) (C:=[]) (e:=e) (sn:=fun _=>e) (vl:=fun _=>undef)
    ⟨h4,h,fun i hi=>absurd hi (hnd i),?_,?_,fun i hi=>absurd hi (hnd i),hr.size,hr.defers,fun t=>⟨fun i hi=>absurd hi (hnd i),fun _=>hr.at_ t⟩,?_,?_,?_⟩)
  · intro i hi; cases hi
  · intro i hi; cases hi
  · intro t; exact ⟨fun i hi=>(by cases hi),fun _=>rfl⟩
  · intro i hi; cases hi
  · intro i hi; cases hi
end Go.Sh
namespace Go.Sh
set_option linter.unusedVariables false
set_option linter.unusedSimpArgs false
open Go
def memN:List Nat→Nat→Bool
 |[],_=>false
 |x::r,t=>Nat.beq x t || memN r t
theorem memN_iff{l:List Nat}{t:Nat}:memN l t=true↔t∈l:=by
 induction l with
 |nil=>simp[memN]
 |cons x r ih=>
  simp only[memN,Bool.or_eq_true,ih,List.mem_cons]
  constructor
  ·rintro(h|h)
   ·exact .inl (Nat.eq_of_beq_eq_true h).symm
   ·exact .inr h
  ·rintro(rfl|h)
   ·exact .inl (Nat.beq_refl t)
   ·exact .inr h

inductive Ann where
 |leaf
 |seq (x y:Ann)
 |join (x:Ann) (live dead:List Nat) (y:Ann)
 |cond (x y:Ann)
 |block (x:Ann)
 |loop (x:Ann) (live dead:List Nat)
 |draw (A:List (List Nat)) (T:DT)
 |rf (x y:Ann) (ids:List Nat)
 |joinD (x:Ann) (live dead:List Nat) (y:Ann)
 |loopD (x:Ann) (live dead:List Nat)
 |dfr
def setL(e:Env):List Nat→List Value→Env
 |d::r,v::vs=>put (setL e r vs) d v
 |_,_=>e
def setD(e:Env)(dead:List Nat)(u:Env):Env:=λt=>bif memN dead t then u t else e t
def hav(e:Env)(live:List Nat)(l:List Value)(dead:List Nat)(u:Env):Env:=setL (setD e dead u) live l
def All:List Nat→(List Value→Prop)→Prop
 |[],f=>f []
 |_::r,f=>∀v:Value,All r λl=>f (v::l)
theorem All.spec:∀{live:List Nat} {f:List Value→Prop},All live f→∀l,l.length=live.length→f l
 |[],_,h,[],_=>h
 |_::_,_,h,v::l,hl=>All.spec (h v) l (by simpa using hl)
 |[],_,_,_::_,hl=>by simp at hl
 |_::_,_,_,[],hl=>by simp at hl
theorem All.intro:∀{live:List Nat} {f:List Value→Prop},(∀l,f l)→All live f
 |[],_,h=>h []
 |_::_,_,h=>λv=>All.intro λl=>h (v::l)
theorem All.mono:∀{live:List Nat} {f g:List Value→Prop},(∀l,f l→g l)→All live f→All live g
 |[],_,_,h,hf=>h _ hf
 |_::_,_,_,h,hf=>λv=>All.mono (λl=>h (v::l)) (hf v)
theorem setL_map(e e':Env)(live:List Nat)(t:Nat):setL e live (live.map e') t=if t∈live then e' t else e t:=by
 induction live with
 |nil=>simp[setL]
 |cons d r ih=>
  simp only[List.map_cons,setL,put_apply,ih,List.mem_cons]
  by_cases h:t=d
  ·subst h;simp
  ·simp[h]
def Off(S:List Nat)(e e':Env):Prop:=∀t,t∉S→e' t=e t
theorem Off.refl(S:List Nat)(e:Env):Off S e e:=λ_ _=>rfl
theorem Off.trans{S:List Nat}{a b c:Env}(h:Off S a b)(k:Off S b c):Off S a c:=λt ht=>(k t ht).trans (h t ht)
theorem hav_self{e e':Env}{live dead:List Nat}(h:Off (live++dead) e e'):hav e live (live.map e') dead e'=e':=by
 funext t
 unfold hav
 rw[setL_map]
 by_cases hl:t∈live
 ·rw[if_pos hl]
 ·rw[if_neg hl]
  unfold setD
  cases hd:memN dead t with
  |true=>rfl
  |false=>
   have:t∉dead:=λhh=>by rw[memN_iff.2 hh]at hd;cases hd
   exact(h t (by simp[hl,this])).symm
theorem hav_off(e u:Env)(live dead:List Nat)(l:List Value):Off (live++dead) e (hav e live l dead u):=by
 intro t ht
 simp only[List.mem_append,not_or]at ht
 unfold hav
 have key:∀(e1:Env) (live:List Nat) (l:List Value),t∉live→setL e1 live l t=e1 t:=by
  intro e1 live
  induction live with
  |nil=>intro l _;cases l<;>rfl
  |cons d r ih=>
   intro l hm
   simp only[List.mem_cons,not_or]at hm
   cases l with
   |nil=>rfl
   |cons v vs=>simp only[setL,put_apply,if_neg hm.1];exact ih vs hm.2
 rw[key _ _ _ ht.1]
 unfold setD
 cases hd:memN dead t with
 |true=>exact absurd (memN_iff.1 hd) ht.2
 |false=>rfl

def coverL(S:List Nat):List Oper→Bool
 |[]=>true
 |o::r=>(match o.dst with|some d=>memN S d|none=>true) && coverL S r
def cover(S:List Nat):Code→Bool
 | .region _ ops _=>coverL S ops.toList
 | .seq a b| .cond _ a b=>cover S a && cover S b
 | .block _ a| .loop a| .scope a=>cover S a
 |_=>true

def wroteL(t:Nat):List Oper→Bool
 |[]=>false
 |o::r=>(match o.dst with|some d=>Nat.beq d t|none=>false) || wroteL t r
def wrote(t:Nat):Code→Bool
 | .region _ ops _=>wroteL t ops.toList
 | .seq a b| .cond _ a b=>wrote t a || wrote t b
 | .block _ a| .loop a| .scope a=>wrote t a
 |_=>false
def allW:List Nat→Code→Bool
 |[],_=>true
 |t::r,c=>wrote t c && allW r c

def just(S:List Nat)(c:Code):Bool:=cover S c && allW S c
theorem wrote_mem{S:List Nat}{t:Nat}:∀{c:Code},cover S c=true→wrote t c=true→t∈S:=by
 have key:∀l:List Oper,coverL S l=true→wroteL t l=true→t∈S:=by
  intro l
  induction l with
  |nil=>intro _ h;cases h
  |cons o r ih=>
   intro hc h
   simp only[coverL,Bool.and_eq_true]at hc
   simp only[wroteL,Bool.or_eq_true]at h
   rcases h with h|h
   ·have h1:=hc.1
    cases hd:o.dst with
    |none=>rw[hd]at h;cases h
    |some d=>
     rw[hd]at h h1
     rw[← Nat.eq_of_beq_eq_true h]
     exact memN_iff.1 h1
   ·exact ih hc.2 h
 intro c
 induction c with
 |region id ops d=>intro hc h;exact key _ hc h
 |seq x y ihx ihy=>
  intro hc h
  simp only[cover,Bool.and_eq_true]at hc
  simp only[wrote,Bool.or_eq_true]at h
  exact h.elim (ihx hc.1) (ihy hc.2)
 |cond _ x y ihx ihy=>
  intro hc h
  simp only[cover,Bool.and_eq_true]at hc
  simp only[wrote,Bool.or_eq_true]at h
  exact h.elim (ihx hc.1) (ihy hc.2)
 |block _ x ih=>intro hc h;exact ih hc h
 |loop x ih=>intro hc h;exact ih hc h
 |scope x ih=>intro hc h;exact ih hc h
 |_=>intro _ h;cases h
theorem just_sub{S L:List Nat}{c:Code}(hj:just L c=true)(hc:cover S c=true):∀t,t∈L→t∈S:=by
 unfold just at hj
 simp only[Bool.and_eq_true]at hj
 have h:=hj.2
 intro t ht
 have key:∀L:List Nat,allW L c=true→t∈L→t∈S:=by
  intro L
  induction L with
  |nil=>intro _ h;cases h
  |cons x r ih=>
   intro h hm
   simp only[allW,Bool.and_eq_true]at h
   rcases List.mem_cons.1 hm with rfl|hm
   ·exact wrote_mem hc h.1
   ·exact ih h.2 hm
 exact key L h ht
theorem just_cover{L:List Nat}{c:Code}(hj:just L c=true):cover L c=true:=by
 unfold just at hj;simp only[Bool.and_eq_true]at hj;exact hj.1
theorem Off.sub{S L:List Nat}{a b:Env}(h:Off L a b)(hs:∀t,t∈L→t∈S):Off S a b:=λt ht=>h t λhh=>ht (hs t hh)

inductive Df where
 |mark (D:Nat)
 |call (f:FuncId) (cap args:Array Value)
def Df.d:Df→Deferred
 | .mark D=>{target:=.collected D,args:=#[]}
 | .call f cap args=>{target:=.fn (.func f) cap,args:=args}
def dfOf(ρ:Operand→Value)(c:Call):Option Df:=
 match c.callee with
 | .value f=>match ρ f with
  | .func (.func g) first cap=>some (.call g cap (first++c.args.map ρ))
  |_=>none
 |_=>none
def CaD(P:Program)(f:FuncId)(args:Array Value)(w:World)(k:World→Prop):Prop:=
 CallsDIn (FW none) 0 P f args .returning w λe u' w'=>u'=.returning∧(∃v,e=.returned v)∧k w'

def Lvs(P:Program):List Df→World→(World→Prop)→Prop
 |[],w,k=>k w
 | .mark D::r,w,k=>w.heap[D]? =some (.deferred (some []))∧Lvs P r (w.putObj D (.deferred none)) k
 | .call f cap args::r,w,k=>hasBody P f=true∧CaD P f (args++cap) w λw'=>Lvs P r w' k

def lpO(r:Loop)(st:LoopState)(pe:Option Code):Obj:=.loop {r with state:=st,pending:=pe}

abbrev RB:=Loop→Nat→List Value→World→(World→Prop)→(Nat→World→Prop)→(World→Prop)→Prop
def RB.one(b:Loop→Nat→Value→World→(World→Prop)→(Nat→World→Prop)→(World→Prop)→Prop):RB:=λr L vs w Rn Re Rr=>match vs with
 |[v]=>b r L v w Rn Re Rr
 |_=>False
def RB.two(b:Loop→Nat→Value→Value→World→(World→Prop)→(Nat→World→Prop)→(World→Prop)→Prop):RB:=λr L vs w Rn Re Rr=>match vs with
 |[u,v]=>b r L u v w Rn Re Rr
 |_=>False

def Bgn(r:Loop)(L:Nat)(w:World)(k:World→Prop):Prop:=w.heap[L]? =some (lpO r .ready none)∧k (w.putObj L (lpO r .busy none))

def Yld(P:Program)(L:Nat)(r:Loop)(B:RB):Prop:=
 ∀(vs:List Value) (W:World) (k:Value→World→Prop),
  B r L vs W (λW'=>W'.heap[L]? =some (lpO r .busy none)∧k (.bool true) (W'.putObj L (lpO r .ready none)))
   (λi W'=>W'.heap[L]? =some (lpO r .busy none)∧k (.bool false) (W'.putObj L (lpO r .done (some (.exit i)))))
   (λW'=>W'.heap[L]? =some (lpO r .busy none)∧k (.bool false) (W'.putObj L (lpO r .done (some .ret))))→
  W.heap[L]? =some (lpO r .ready none)→CaV P (.func (.yield L) #[] #[]) vs.toArray W k
def EndL(L:Nat)(r:Loop)(w:World)(kn:World→Prop)(ke:List (Nat×(World→Prop)))(kr:World→Prop):Prop:=
 (w.heap[L]? =some (lpO r .ready none)∧kn (w.putObj L (lpO r .exhausted none)))∨
 (∃q,q∈ke∧w.heap[L]? =some (lpO r .done (some (.exit q.1)))∧q.2 (w.putObj L (lpO r .exhausted (some (.exit q.1)))))∨
 (w.heap[L]? =some (lpO r .done (some .ret))∧kr (w.putObj L (lpO r .exhausted (some .ret))))

def RFc(P:Program)(g:Value)(L:Nat)(w1:Loop→World)(B:RB)(kn:World→Prop)(ke:List (Nat×(World→Prop)))(kr:World→Prop):Prop:=
 ∃gf first cap,g=.func (.func gf) first cap∧hasBody P gf=true∧∀r:Loop,Yld P L r B→
  Ca P gf (first++#[.func (.yield L) #[] #[]]++cap) (w1 r) λ_ w'=>EndL L r w' kn ke kr
def RFo(P:Program)(g:Value)(w:World)(B:RB)(kn:Nat→World→Prop)(ke:List (Nat×(Nat→World→Prop)))(kr:Nat→World→Prop):Prop:=
 RFc P g (w.heap.size+1) (λr=>(w.alloc (.deferred (some []))).alloc (lpO r .ready none)) B (kn w.heap.size) (ke.map λq=>(q.1,q.2 w.heap.size)) (kr w.heap.size)
def RFi(P:Program)(l:Nat)(g:Value)(w:World)(B:RB)(kn:World→Prop)(ke:List (Nat×(World→Prop)))(kr:World→Prop):Prop:=
 (∃r',w.heap[l]? =some (.loop r'))∧RFc P g w.heap.size (λr=>w.alloc (lpO r .ready none)) B kn ke kr

def isDefer(o:Oper):Bool:=match o.op with
 | .defer _=>true
 |_=>false
def anyDefer:List Oper→Bool
 |[]=>false
 |o::r=>isDefer o || anyDefer r
def noRF:Code→Bool
 | .rangeFunc ..=>false
 | .region _ ops _=>!anyDefer ops.toList
 | .seq a b| .cond _ a b=>noRF a && noRF b
 | .block _ a| .loop a| .scope a=>noRF a
 |_=>true
def wpC(P:Program)(N:Nat):Code→Ann→Option Nat→(List Df→Env→World→Prop)→(Nat→List Df→Env→World→Prop)→(List Df→Env→World→Prop)→List Df→Env→World→Prop
 | .skip,_,_,kn,_,_,ds,e,w=>kn ds e w
 | .label _,_,_,kn,_,_,ds,e,w=>kn ds e w
 | .scope x,.block ax,ro,kn,ke,kr,ds,e,w=>wpC P N x ax ro kn ke kr ds e w
 | .ret,_,_,_,_,kr,ds,e,w=>kr ds e w
 | .exit id,_,_,_,ke,_,ds,e,w=>ke id ds e w
 | .seq x y,.seq ax ay,ro,kn,ke,kr,ds,e,w=>wpC P N x ax ro (wpC P N y ay ro kn ke kr) ke kr ds e w
 | .seq x y,.join ax live dead ay,ro,kn,ke,kr,ds,e,w=>
  bif just (live++dead) x && noRF x then
   ∀J:List Value→World→Prop,(All live λl=>∀w':World,(∀u:Env,wpC P N y ay ro kn ke kr ds (hav e live l dead u) w')→J l w')→
    wpC P N x ax ro (λ_ e' w'=>J (live.map e') w') ke kr ds e w
  else False
 | .seq x y,.joinD ax live dead ay,ro,kn,ke,kr,ds,e,w=>
  bif just (live++dead) x then
   ∀J:List Df→List Value→World→Prop,(All live λl=>∀(ds':List Df) (w':World),(∀u:Env,wpC P N y ay ro kn ke kr ds' (hav e live l dead u) w')→J ds' l w')→
    wpC P N x ax ro (λds' e' w'=>J ds' (live.map e') w') ke kr ds e w
  else False
 | .cond c x y,.cond ax ay,ro,kn,ke,kr,ds,e,w=>Cnd (ev e c) (wpC P N x ax ro kn ke kr ds e w) (wpC P N y ay ro kn ke kr ds e w)
 | .block id x,.block ax,ro,kn,ke,kr,ds,e,w=>wpC P N x ax ro kn (λi=>bif Nat.beq i id then kn else ke i) kr ds e w
 | .loop x,.loop ax live dead,ro,_,ke,kr,ds,e,w=>
  bif just (live++dead) x && noRF x then
   ∃(I:List Value→World→Prop) (μ:List Value→World→Nat),I (live.map e) w∧
    All live λl=>∀(u:Env) (w':World),I l w'→wpC P N x ax ro (λ_ e' w''=>I (live.map e') w''∧μ (live.map e') w''<μ l w') ke kr ds (hav e live l dead u) w'
  else False
 | .loop x,.loopD ax live dead,ro,_,ke,kr,ds,e,w=>
  bif just (live++dead) x then
   ∃(I:List Df→List Value→World→Prop) (μ:List Value→World→Nat),I ds (live.map e) w∧
    All live λl=>∀(u:Env) (ds':List Df) (w':World),I ds' l w'→wpC P N x ax ro (λds'' e' w''=>I ds'' (live.map e') w''∧μ (live.map e') w''<μ l w') ke kr ds' (hav e live l dead u) w'
  else False
 | .region _ ops false,.leaf,_,kn,_,_,ds,e,w=>bif dstsOk N ops.toList && !anyDefer ops.toList then opsC P N ops ops.toList (kn ds) e w else False
 | .region _ ops true,.draw A T,_,kn,_,_,ds,e,w=>bif planOk P N ops A T && !anyDefer ops.toList then drawC P ops T e (λ_=>e) (λ_=>undef) (kn ds) w.drew else False
 | .region _ ops false,.dfr,none,kn,_,_,ds,e,w=>match ops.toList.getLast? with
  |some o=>match o.op,o.guard with
   | .defer c,none=>bif dstsOk N ops.toList && !anyDefer ops.toList.dropLast then opsC P N ops ops.toList.dropLast (λe' w'=>match dfOf (ev e') c with
     |some d=>kn (d::ds) (putO e' o.dst undef) w'
     |none=>False) e w else False
   |_,_=>False
  |none=>False
 | .rangeFunc g ps assign body,.rf aa ab ids,ro,kn,ke,kr,ds,e,w=>match ps.toList with
  |[p]=>bif Nat.blt p N then
    match ro with
    |none=>RFo P (ev e g) w (RB.one λr L v w' Rn Re Rr=>wpC P N assign aa (some L) (λds2 e2 w2=>Bgn r L w2 λw3=>wpC P N body ab (some L) (λ_ _ w4=>Rn w4) (λi _ _ w4=>Re i w4) (λ_ _ w4=>Rr w4) ds2 e2 w3)
      (λ_ _ _ _=>False) (λ_ _ _=>False) [] (put e p v) w') (λD w'=>kn (.mark D::ds) e w') (ids.map λi=>(i,λD w'=>ke i (.mark D::ds) e w')) (λD w'=>kr (.mark D::ds) e w')
    |some l=>RFi P l (ev e g) w (RB.one λr L v w' Rn Re Rr=>wpC P N assign aa (some L) (λds2 e2 w2=>Bgn r L w2 λw3=>wpC P N body ab (some L) (λ_ _ w4=>Rn w4) (λi _ _ w4=>Re i w4) (λ_ _ w4=>Rr w4) ds2 e2 w3)
      (λ_ _ _ _=>False) (λ_ _ _=>False) [] (put e p v) w') (λw'=>kn ds e w') (ids.map λi=>(i,λw'=>ke i ds e w')) (λw'=>kr ds e w')
   else False
  |[p,q]=>bif Nat.blt p N && Nat.blt q N then
    match ro with
    |none=>RFo P (ev e g) w (RB.two λr L u v w' Rn Re Rr=>wpC P N assign aa (some L) (λds2 e2 w2=>Bgn r L w2 λw3=>wpC P N body ab (some L) (λ_ _ w4=>Rn w4) (λi _ _ w4=>Re i w4) (λ_ _ w4=>Rr w4) ds2 e2 w3)
      (λ_ _ _ _=>False) (λ_ _ _=>False) [] (put (put e p u) q v) w') (λD w'=>kn (.mark D::ds) e w') (ids.map λi=>(i,λD w'=>ke i (.mark D::ds) e w')) (λD w'=>kr (.mark D::ds) e w')
    |some l=>RFi P l (ev e g) w (RB.two λr L u v w' Rn Re Rr=>wpC P N assign aa (some L) (λds2 e2 w2=>Bgn r L w2 λw3=>wpC P N body ab (some L) (λ_ _ w4=>Rn w4) (λi _ _ w4=>Re i w4) (λ_ _ w4=>Rr w4) ds2 e2 w3)
      (λ_ _ _ _=>False) (λ_ _ _=>False) [] (put (put e p u) q v) w') (λw'=>kn ds e w') (ids.map λi=>(i,λw'=>ke i ds e w')) (λw'=>kr ds e w')
   else False
  |_=>False
 |_,_,_,_,_,_,_,_,_=>False
theorem putO_off{S:List Nat}{d:Option Nat}(h:(match d with|some d=>memN S d|none=>true)=true)(e:Env)(v:Value):Off S e (putO e d v):=by
 intro t ht
 cases d with
 |none=>rfl
 |some d=>
  simp only[putO,put_apply]
  have:t≠d:=λhh=>ht (hh▸memN_iff.1 h)
  rw[if_neg this]
theorem Gd_mono{g:Value}{want:Bool}{op op':(Value→World→Prop)→Prop}{w:World}{k k':Value→World→Prop}(hop:op k→op' k')(hk:∀v w',k v w'→k' v w')
  (h:Gd g want op w k):Gd g want op' w k':=by
 rcases h with⟨h1,h2⟩|⟨h1,h2⟩
 ·exact .inl ⟨h1,hop h2⟩
 ·exact .inr ⟨h1,hk _ _ h2⟩
theorem opsC_mono{P:Program}{N:Nat}{ops:Array Oper}{S:List Nat}:∀{l:List Oper} {k k':Env→World→Prop} {e:Env} {w:World},coverL S l=true→
  (∀e' w',Off S e e'→k e' w'→k' e' w')→opsC P N ops l k e w→opsC P N ops l k' e w
 |[],_,_,e,_,_,hk,h=>hk _ _ (Off.refl _ e) h
 |o::r,k,k',e,w,hc,hk,h=>by
  simp only[coverL,Bool.and_eq_true]at hc
  have step:∀v w',opsC P N ops r k (putO e o.dst v) w'→opsC P N ops r k' (putO e o.dst v) w':=λv w' h=>
   opsC_mono hc.2 (λe' w'' ho hh=>hk _ _ ((putO_off hc.1 e v).trans ho) hh) h
  simp only[opsC]at h ⊢
  split at h
  ·exact opC_mono step h
  ·exact Gd_mono (opC_mono step) step h
theorem drawC_mono{P:Program}{ops:Array Oper}{S:List Nat}(hc:coverL S ops.toList=true):∀{T:DT} {e:Env} {sn:Nat→Env} {vl:Nat→Value} {k k':Env→World→Prop} {w:World},
  (∀e' w',Off S e e'→k e' w'→k' e' w')→drawC P ops T e sn vl k w→drawC P ops T e sn vl k' w:=by
 have hd:∀(i:Nat) (o:Oper),ops[i]? =some o→∀(e:Env) (v:Value),Off S e (putO e o.dst v):=by
  intro i o hi e v
  have hmem:o∈ops.toList:=by simpa using Array.mem_of_getElem? hi
  have key:∀l:List Oper,coverL S l=true→o∈l→Off S e (putO e o.dst v):=by
   intro l
   induction l with
   |nil=>intro _ h;cases h
   |cons x r ih=>
    intro hl hm
    simp only[coverL,Bool.and_eq_true]at hl
    rcases List.mem_cons.1 hm with rfl|hm
    ·exact putO_off hl.1 e v
    ·exact ih hl.2 hm
  exact key _ hc hmem
 have chk:∀{chks:List Nat} {sn:Nat→Env} {vl:Nat→Value} {w:World} {K K':Prop},(K→K')→chkAll P ops sn vl chks w K→chkAll P ops sn vl chks w K':=by
  intro chks
  induction chks with
  |nil=>intro _ _ _ _ _ h hk;exact h hk
  |cons r rs ih=>intro _ _ _ _ _ h hk;exact⟨hk.1,ih h hk.2⟩
 intro T
 induction T with
 |done=>intro e sn vl k k' w hk h;exact hk _ _ (Off.refl _ e) h
 |none=>intro e sn vl k k' w hk h;trivial
 |calm i t ih=>
  intro e sn vl k k' w hk h
  simp only[drawC]at h ⊢
  cases ho:ops[i]? with
  |none=>rw[ho]at h;exact h.elim
  |some o=>
   rw[ho]at h
   exact gOp_mono (λv w' hh=>ih (λe' w'' hoff hk1=>hk _ _ ((hd i o ho e v).trans hoff) hk1) hh) h
 |eff1 i c t ih=>
  intro e sn vl k k' w hk h
  simp only[drawC]at h ⊢
  cases ho:ops[i]? with
  |none=>rw[ho]at h;exact h.elim
  |some o=>
   rw[ho]at h
   exact gOp_mono (λv w' hh=>chk (λhh=>ih (λe' w'' hoff hk1=>hk _ _ ((hd i o ho e v).trans hoff) hk1) hh) hh) h
 |effs i c t alt ih1 ih2=>
  intro e sn vl k k' w hk h
  simp only[drawC]at h ⊢
  refine⟨?_,ih2 hk h.2⟩
  have h:=h.1
  cases ho:ops[i]? with
  |none=>rw[ho]at h;exact h.elim
  |some o=>
   rw[ho]at h
   exact gOp_mono (λv w' hh=>chk (λhh=>ih1 (λe' w'' hoff hk1=>hk _ _ ((hd i o ho e v).trans hoff) hk1) hh) hh) h
theorem EndL.mono{L:Nat}{r:Loop}{w:World}{kn kn':World→Prop}{ke ke':List (Nat×(World→Prop))}{kr kr':World→Prop}(h:EndL L r w kn ke kr)
  (hn:∀w,kn w→kn' w)(he:∀i K,(i,K)∈ke→∃K',(i,K')∈ke'∧∀w,K w→K' w)(hr:∀w,kr w→kr' w):EndL L r w kn' ke' kr':=by
 rcases h with⟨h1,h2⟩|⟨⟨i,K⟩,hq,h1,h2⟩|⟨h1,h2⟩
 ·exact .inl ⟨h1,hn _ h2⟩
 ·obtain⟨K',hm,hk⟩:=he i K hq
  exact .inr (.inl ⟨(i,K'),hm,h1,hk _ h2⟩)
 ·exact .inr (.inr ⟨h1,hr _ h2⟩)
theorem RFc.mono{P:Program}{g:Value}{L:Nat}{w1:Loop→World}{B:RB}{kn kn':World→Prop}{ke ke':List (Nat×(World→Prop))}{kr kr':World→Prop}(h:RFc P g L w1 B kn ke kr)
  (hn:∀w,kn w→kn' w)(he:∀i K,(i,K)∈ke→∃K',(i,K')∈ke'∧∀w,K w→K' w)(hr:∀w,kr w→kr' w):RFc P g L w1 B kn' ke' kr':=by
 obtain⟨gf,first,cap,h1,h2,h3⟩:=h
 exact⟨gf,first,cap,h1,h2,λr hy=>(h3 r hy).mono λe w' ⟨v,hv,hh⟩=>⟨v,hv,hh.mono hn he hr⟩⟩
theorem mem_ids{β:Type}{ids:List Nat}{f g:Nat→β→Prop}{i:Nat}{K:β→Prop}(h:(i,K)∈ids.map λi=>(i,f i))(hfg:∀i w,f i w→g i w):∃K',(i,K')∈(ids.map λi=>(i,g i))∧∀w,K w→K' w:=by
 obtain⟨x,hx,he⟩:=List.mem_map.1 h
 cases he
 exact⟨_,List.mem_map.2 ⟨_,hx,rfl⟩,λw hw=>hfg _ w hw⟩
theorem wpC_mono{P:Program}{N:Nat}{S:List Nat}:∀{c:Code} {an:Ann} {ro:Option Nat} {kn kn':List Df→Env→World→Prop} {ke ke':Nat→List Df→Env→World→Prop} {kr kr':List Df→Env→World→Prop} {ds:List Df} {e:Env} {w:World},
  cover S c=true→(∀ds' e' w',Off S e e'→(noRF c=true→ds'=ds)→kn ds' e' w'→kn' ds' e' w')→(∀i ds' e' w',Off S e e'→(noRF c=true→ds'=ds)→ke i ds' e' w'→ke' i ds' e' w')→
   (∀ds' e' w',Off S e e'→(noRF c=true→ds'=ds)→kr ds' e' w'→kr' ds' e' w')→wpC P N c an ro kn ke kr ds e w→wpC P N c an ro kn' ke' kr' ds e w:=by
 intro c
 induction c with
 |skip=>intro an ro kn kn' ke ke' kr kr' ds e w _ hn _ _ h;simp only[wpC]at h ⊢;exact hn _ _ _ (Off.refl _ e) (λ_=>rfl) h
 |ret=>intro an ro kn kn' ke ke' kr kr' ds e w _ _ _ hr h;simp only[wpC]at h ⊢;exact hr _ _ _ (Off.refl _ e) (λ_=>rfl) h
 |exit id=>intro an ro kn kn' ke ke' kr kr' ds e w _ _ he _ h;simp only[wpC]at h ⊢;exact he _ _ _ _ (Off.refl _ e) (λ_=>rfl) h
 |seq x y ihx ihy=>
  intro an ro kn kn' ke ke' kr kr' ds e w hc hn he hr h
  simp only[cover,Bool.and_eq_true]at hc
  simp only[noRF,Bool.and_eq_true]at hn he hr
  cases an with
  |seq ax ay=>
   simp only[wpC]at h ⊢
   exact ihx hc.1 (λds1 e1 w1 ho hd hh=>ihy hc.2 (λds' e' w' o' d'=>hn ds' e' w' (ho.trans o') λb=>(d' b.2).trans (hd b.1)) (λi ds' e' w' o' d'=>he i ds' e' w' (ho.trans o') λb=>(d' b.2).trans (hd b.1))
    (λds' e' w' o' d'=>hr ds' e' w' (ho.trans o') λb=>(d' b.2).trans (hd b.1)) hh) (λi ds' e' w' o' d'=>he i ds' e' w' o' λb=>d' b.1) (λds' e' w' o' d'=>hr ds' e' w' o' λb=>d' b.1) h
  |join ax live dead ay=>
   simp only[wpC]at h ⊢
   cases hcv:just (live++dead) x && noRF x with
   |false=>rw[hcv]at h;exact h.elim
   |true=>
    rw[hcv]at h
    simp only[Bool.and_eq_true]at hcv
    simp only[cond_true]at h ⊢
    intro J hJ
    have hoff:∀l u,Off S e (hav e live l dead u):=λl u=>(hav_off e u live dead l).sub (just_sub hcv.1 hc.1)
    have h1:=h J (All.mono (λl hl w' hwp=>hl w' λu=>ihy hc.2 (λds' e' w' o' d'=>hn ds' e' w' ((hoff l u).trans o') λb=>d' b.2) (λi ds' e' w' o' d'=>he i ds' e' w' ((hoff l u).trans o') λb=>d' b.2)
     (λds' e' w' o' d'=>hr ds' e' w' ((hoff l u).trans o') λb=>d' b.2) (hwp u)) hJ)
    exact ihx hc.1 (λ_ _ _ _ _ hh=>hh) (λi ds' e' w' o' d'=>he i ds' e' w' o' λb=>d' b.1) (λds' e' w' o' d'=>hr ds' e' w' o' λb=>d' b.1) h1
  |joinD ax live dead ay=>
   simp only[wpC]at h ⊢
   cases hcv:just (live++dead) x with
   |false=>rw[hcv]at h;exact h.elim
   |true=>
    rw[hcv]at h
    simp only[cond_true]at h ⊢
    intro J hJ
    have hoff:∀l u,Off S e (hav e live l dead u):=λl u=>(hav_off e u live dead l).sub (just_sub hcv hc.1)
    have h1:=h (λds' l w'=>(noRF x=true→ds'=ds)→J ds' l w') (All.mono (λl hl ds1 w' hwp hd=>hl ds1 w' λu=>ihy hc.2 (λds' e' w' o' d'=>hn ds' e' w' ((hoff l u).trans o') λb=>(d' b.2).trans (hd b.1))
     (λi ds' e' w' o' d'=>he i ds' e' w' ((hoff l u).trans o') λb=>(d' b.2).trans (hd b.1)) (λds' e' w' o' d'=>hr ds' e' w' ((hoff l u).trans o') λb=>(d' b.2).trans (hd b.1)) (hwp u)) hJ)
    exact ihx hc.1 (λ_ _ _ _ hd hh=>hh hd) (λi ds' e' w' o' d'=>he i ds' e' w' o' λb=>d' b.1) (λds' e' w' o' d'=>hr ds' e' w' o' λb=>d' b.1) h1
  |_=>simp only[wpC]at h
 |cond c x y ihx ihy=>
  intro an ro kn kn' ke ke' kr kr' ds e w hc hn he hr h
  simp only[cover,Bool.and_eq_true]at hc
  simp only[noRF,Bool.and_eq_true]at hn he hr
  cases an with
  |cond ax ay=>
   simp only[wpC]at h ⊢
   rcases h with⟨h1,h2⟩|⟨h1,h2⟩
   ·exact .inl ⟨h1,ihx hc.1 (λa b c d f=>hn a b c d λq=>f q.1) (λi a b c d f=>he i a b c d λq=>f q.1) (λa b c d f=>hr a b c d λq=>f q.1) h2⟩
   ·exact .inr ⟨h1,ihy hc.2 (λa b c d f=>hn a b c d λq=>f q.2) (λi a b c d f=>he i a b c d λq=>f q.2) (λa b c d f=>hr a b c d λq=>f q.2) h2⟩
  |_=>simp only[wpC]at h
 |label l=>intro an ro kn kn' ke ke' kr kr' ds e w _ hn _ _ h;simp only[wpC]at h ⊢;exact hn _ _ _ (Off.refl _ e) (λ_=>rfl) h
 |scope x ih=>
  intro an ro kn kn' ke ke' kr kr' ds e w hc hn he hr h
  cases an with
  |block ax=>simp only[wpC]at h ⊢;exact ih hc hn he hr h
  |_=>simp only[wpC]at h
 |block id x ih=>
  intro an ro kn kn' ke ke' kr kr' ds e w hc hn he hr h
  cases an with
  |block ax=>
   simp only[wpC]at h ⊢
   refine ih hc hn (λi ds' e' w' ho hd hh=>?_) hr h
   cases hb:Nat.beq i id with
   |true=>rw[hb]at hh;exact hn ds' e' w' ho hd hh
   |false=>rw[hb]at hh;exact he i ds' e' w' ho hd hh
  |_=>simp only[wpC]at h
 |loop x ih=>
  intro an ro kn kn' ke ke' kr kr' ds e w hc hn he hr h
  cases an with
  |loop ax live dead=>
   simp only[wpC]at h ⊢
   cases hcv:just (live++dead) x && noRF x with
   |false=>rw[hcv]at h;exact h.elim
   |true=>
    rw[hcv]at h
    simp only[Bool.and_eq_true]at hcv
    simp only[cond_true]at h ⊢
    obtain⟨I,μ,h0,hround⟩:=h
    have hoff:∀l u,Off S e (hav e live l dead u):=λl u=>(hav_off e u live dead l).sub (just_sub hcv.1 hc)
    exact⟨I,μ,h0,All.mono (λl hl u w' hI=>ih hc (λ_ _ _ _ _ hh=>hh) (λi ds' e' w' o'=>he i ds' e' w' ((hoff l u).trans o')) (λds' e' w' o'=>hr ds' e' w' ((hoff l u).trans o')) (hl u w' hI)) hround⟩
  |loopD ax live dead=>
   simp only[wpC]at h ⊢
   cases hcv:just (live++dead) x with
   |false=>rw[hcv]at h;exact h.elim
   |true=>
    rw[hcv]at h
    simp only[cond_true]at h ⊢
    obtain⟨I,μ,h0,hround⟩:=h
    have hoff:∀l u,Off S e (hav e live l dead u):=λl u=>(hav_off e u live dead l).sub (just_sub hcv hc)
    refine⟨λds' l w'=>I ds' l w'∧(noRF x=true→ds'=ds),μ,⟨h0,λ_=>rfl⟩,All.mono (λl hl u ds1 w' hI=>ih hc (λ_ _ _ _ hd hh=>⟨⟨hh.1,λb=>(hd b).trans (hI.2 b)⟩,hh.2⟩)
     (λi ds' e' w' o' hd=>he i ds' e' w' ((hoff l u).trans o') λb=>(hd b).trans (hI.2 b)) (λds' e' w' o' hd=>hr ds' e' w' ((hoff l u).trans o') λb=>(hd b).trans (hI.2 b)) (hl u ds1 w' hI.1)) hround⟩
  |_=>simp only[wpC]at h
 |region id ops d=>
  intro an ro kn kn' ke ke' kr kr' ds e w hc hn he hr h
  cases d with
  |false=>
   cases an with
   |leaf=>
    simp only[wpC]at h ⊢
    cases hd:dstsOk N ops.toList && !anyDefer ops.toList with
    |false=>rw[hd]at h;exact h.elim
    |true=>rw[hd]at h;simp only[cond_true]at h ⊢;exact opsC_mono hc (λe' w' ho hh=>hn ds e' w' ho (λ_=>rfl) hh) h
   |dfr=>
    cases ro with
    |some l=>simp only[wpC]at h
    |none=>
    simp only[wpC]at h ⊢
    split at h
    ·rename_i o ho
     split at h
     ·rename_i c h1 h2
      cases hd:dstsOk N ops.toList && !anyDefer ops.toList.dropLast with
      |false=>rw[hd]at h;exact h.elim
      |true=>
       rw[hd]at h
       simp only[cond_true]at h ⊢
       have hne:ops.toList≠[]:=λh0=>by rw[h0]at ho;cases ho
       have hlast:ops.toList.getLast hne=o:=by rw[List.getLast?_eq_some_getLast hne]at ho;exact Option.some.inj ho
       have hsplit:=List.dropLast_concat_getLast hne
       rw[hlast]at hsplit
       have hany:anyDefer ops.toList=true:=by
        rw[← hsplit]
        have key:∀l:List Oper,anyDefer (l++[o])=true:=by
         intro l
         induction l with
         |nil=>simp[anyDefer,isDefer,h1]
         |cons x r ih=>simp[anyDefer,ih]
        exact key _
       have hcov:coverL S ops.toList.dropLast=true∧coverL S [o]=true:=by
        have key:∀l m:List Oper,coverL S (l++m)=true→coverL S l=true∧coverL S m=true:=by
         intro l m
         induction l with
         |nil=>exact λh=>⟨rfl,h⟩
         |cons x r ih=>
          intro h
          simp only[List.cons_append,coverL,Bool.and_eq_true]at h ⊢
          exact⟨⟨h.1,(ih h.2).1⟩,(ih h.2).2⟩
        exact key _ _ (by rw[hsplit];exact hc)
       refine opsC_mono hcov.1 (λe' w' hoff hh=>?_) h
       cases hdf:dfOf (ev e') c with
       |none=>rw[hdf]at hh;exact hh.elim
       |some d=>
        rw[hdf]at hh
        have hc2:=hcov.2
        simp only[coverL,Bool.and_true]at hc2
        exact hn _ _ _ (hoff.trans (putO_off hc2 e' undef)) (λb=>by simp[noRF,hany]at b) hh
     ·exact h.elim
    ·exact h.elim
   |_=>simp only[wpC]at h
  |true=>
   cases an with
   |draw A T=>
    simp only[wpC]at h ⊢
    cases hd:planOk P N ops A T && !anyDefer ops.toList with
    |false=>rw[hd]at h;exact h.elim
    |true=>rw[hd]at h;simp only[cond_true]at h ⊢;exact drawC_mono hc (λe' w' ho hh=>hn ds e' w' ho (λ_=>rfl) hh) h
   |_=>simp only[wpC]at h
 |rangeFunc g ps x y ihx ihy=>
  intro an ro kn kn' ke ke' kr kr' ds e w hc hn he hr h
  have nb:∀{Q:Prop},noRF (.rangeFunc g ps x y)=true→Q:=λb=>by simp[noRF]at b
  cases an with
  |rf aa ab ids=>
   simp only[wpC]at h ⊢
   split at h
   ·rename_i p hp
    cases hb:Nat.blt p N with
    |false=>rw[hb]at h;exact h.elim
    |true=>
     rw[hb]at h
     simp only[cond_true]at h ⊢
     cases ro with
     |none=>
      refine RFc.mono h (λw' hh=>hn _ _ _ (Off.refl _ e) nb hh) (λi K hi=>?_) (λw' hh=>hr _ _ _ (Off.refl _ e) nb hh)
      rw[List.map_map]at hi ⊢
      exact mem_ids (f:=λi w'=>ke i (.mark w.heap.size::ds) e w') (g:=λi w'=>ke' i (.mark w.heap.size::ds) e w') hi λi w' hh=>he i _ _ _ (Off.refl _ e) nb hh
     |some l=>
      refine⟨h.1,RFc.mono h.2 (λw' hh=>hn _ _ _ (Off.refl _ e) nb hh) (λi K hi=>?_) (λw' hh=>hr _ _ _ (Off.refl _ e) nb hh)⟩
      exact mem_ids (f:=λi w'=>ke i ds e w') (g:=λi w'=>ke' i ds e w') hi λi w' hh=>he i _ _ _ (Off.refl _ e) nb hh
   ·rename_i p q hp
    cases hb:Nat.blt p N && Nat.blt q N with
    |false=>rw[hb]at h;exact h.elim
    |true=>
     rw[hb]at h
     simp only[cond_true]at h ⊢
     cases ro with
     |none=>
      refine RFc.mono h (λw' hh=>hn _ _ _ (Off.refl _ e) nb hh) (λi K hi=>?_) (λw' hh=>hr _ _ _ (Off.refl _ e) nb hh)
      rw[List.map_map]at hi ⊢
      exact mem_ids (f:=λi w'=>ke i (.mark w.heap.size::ds) e w') (g:=λi w'=>ke' i (.mark w.heap.size::ds) e w') hi λi w' hh=>he i _ _ _ (Off.refl _ e) nb hh
     |some l=>
      refine⟨h.1,RFc.mono h.2 (λw' hh=>hn _ _ _ (Off.refl _ e) nb hh) (λi K hi=>?_) (λw' hh=>hr _ _ _ (Off.refl _ e) nb hh)⟩
      exact mem_ids (f:=λi w'=>ke i ds e w') (g:=λi w'=>ke' i ds e w') hi λi w' hh=>he i _ _ _ (Off.refl _ e) nb hh
   ·exact h.elim
  |_=>simp only[wpC]at h
 |_=>intro an ro kn kn' ke ke' kr kr' ds e w _ _ _ _ h;cases an<;>simp only[wpC]at h
theorem opsC_soundK{P:Program}{N:Nat}{ds:List Deferred}{ro:Option Nat}{n:Nat}{ops:Array Oper}{Q:Exit→Act→World→Prop}:∀{l rest:List Oper} {k:Env→World→Prop} {e:Env} {a:Act} {w:World},dstsOk N l=true→Rel N ds a e→
  (∀e' a' w',Rel N ds a' e'→k e' w'→wpListIn (FW ro) n P ops Q rest a' w')→opsC P N ops l k e w→wpListIn (FW ro) n P ops Q (l++rest) a w
 |[],rest,k,e,a,w,_,hr,hk,h=>hk _ _ _ hr h
 |o::r,rest,k,e,a,w,hd,hr,hk,h=>by
  simp only[dstsOk,Bool.and_eq_true]at hd
  have step:∀v w',opsC P N ops r k (putO e o.dst v) w'→wpListIn (FW ro) n P ops Q (r++rest) (a.put o.dst v) w':=λv w' hh=>opsC_soundK hd.2 (hr.putO hd.1 v) hk hh
  have hop:opC P o (ev e) w (λv w'=>opsC P N ops r k (putO e o.dst v) w')→o.wpIn (FW ro) n P a w (wpListIn (FW ro) n P ops Q (r++rest)) Q:=λhh=>opC_sound hh hr.eval step
  simp only[opsC]at h
  rw[List.cons_append]
  unfold wpListIn
  cases hg:o.guard with
  |none=>
   simp only[hg]at h
   rw[if_pos (by simp[Region.wanted,hg])]
   exact hop h
  |some g=>
   obtain⟨j,want⟩:=g
   simp only[hg]at h
   rcases h with⟨h1,h2⟩|⟨h1,h2⟩
   ·rw[if_pos (by simp[Region.wanted,hg,hr.yielded,h1])]
    exact hop h2
   ·rw[if_neg (by simp[Region.wanted,hg,hr.yielded,h1])]
    exact⟨λ_ _=>trivial,step _ _ h2⟩
theorem opsC_sound{P:Program}{N:Nat}{ds:List Deferred}{ro:Option Nat}{n:Nat}{ops:Array Oper}{Q:Exit→Act→World→Prop}{l:List Oper}{k:Env→World→Prop}{e:Env}{a:Act}{w:World}(hd:dstsOk N l=true)(hr:Rel N ds a e)
  (hk:∀e' a' w',Rel N ds a' e'→k e' w'→Q .normal a' w')(h:opsC P N ops l k e w):wpListIn (FW ro) n P ops Q l a w:=by
 have:=opsC_soundK (ro:=ro) (n:=n) (rest:=[]) hd hr (λe' a' w' h1 h2=>(by unfold wpListIn;exact hk _ _ _ h1 h2)) h
 rwa [List.append_nil]at this
theorem wpIn_scope_straight{ro:Option Nat}{P:Program}{Q:Exit→Act→World→Prop}{a:Act}{w:World}{c:Code}(h:c.wpIn (FW ro) 0 P (Exit.noGoto Q) a w):(Code.scope c).wpIn (FW ro) 0 P Q a w:=by
 intro b k cs hro hb hr
 have st1:step P (lone (b.atR a (.code (.scope c)::k)) cs w)=.next (lone (b.atR a (.code c::.inScope c::k)) cs w):=step_lone_go (by simp[stepG,stepG.exec,Frame.atR])
 have st2:∀a w,step P (lone (b.atR a (.inScope c::k)) cs w)=.next (lone (b.atR a k) cs w):=λa w=>step_lone_go (by simp[stepG,stepG.exec,Frame.atR])
 have h0:(lone (b.atR a (.code (.scope c)::k)) cs w).fenced P (FW ro):=fenced_calm hb hr rfl
 obtain⟨e,a₁,w₁,hq,harr⟩:=h b (.inScope c::k) cs hro hb hr
 cases e with
 |normal=>exact⟨.normal,a₁,w₁,hq,.head h0 st1 (StepsIn.trans harr (.one (fenced_calm hb hr rfl) (st2 _ _)))⟩
 |exit id=>
  have hx:exitTo id (.inScope c::k)=exitTo id k:=by simp[exitTo]
  exact⟨.exit id,a₁,w₁,hq,λk' hk=>.head h0 st1 (harr.1 k' (by rw[hx];exact hk)),λhr' hk=>let ⟨k₁,h1,h2⟩:=harr.2 hr' (by rw[hx];exact hk);⟨k₁,h1,.head h0 st1 h2⟩⟩
 |goto l=>exact hq.elim
 |ret=>exact⟨_,a₁,w₁,hq,.of_steps (.one h0 st1) harr⟩
 |panic ch=>exact⟨_,a₁,w₁,hq,.of_steps (.one h0 st1) harr⟩
 |outgrown=>exact⟨_,a₁,w₁,hq,.of_steps (.one h0 st1) harr⟩
theorem Rel.mark{N:Nat}{ds:List Deferred}{a:Act}{e:Env}(h:Rel N ds a e)(d:Deferred):Rel N (d::ds) {a with defers:=d::a.defers} e:=⟨h.size,h.at_,by simp[h.defers]⟩

def recO(fn:FuncId)(tmps:Array Value)(ps:Array Tmp)(assign body:Code)(dfs:Nat):Loop:={state:=.ready,pending:=none,fn,tmps,params:=ps,assign,body,defers:=dfs}
theorem RFc.wp {P : Program} {N : Nat} {ro : Option Nat} {dds mark : List Deferred} {g : Operand} {ps : Array Tmp} {assign body : Code} {Q : Exit→Act→World→Prop} {e : Env} {a : Act} {w : World} {L : Nat} {w1 : Loop→World} {B : RB} {kn : World→Prop} {ke : List (Nat × (World→Prop))} {kr : World→Prop} {dfs : Nat}
    (hr : Rel N dds a e) (h : RFc P (ev e g) L w1 B kn ke kr)
    (henter : ∀ fn,(Instr.enterLoop fn a.tmps ps assign body ro).run P w = .ok (L,mark) (w1 (recO fn a.tmps ps assign body dfs)))
    (hB : ∀ (fn : FuncId) (vs : List Value) (W : World) (k : Value→World→Prop),B (recO fn a.tmps ps assign body dfs) L vs W
        (fun W'=>W'.heap[L]? = some (lpO (recO fn a.tmps ps assign body dfs) .busy none)∧k (.bool true) (W'.putObj L (lpO (recO fn a.tmps ps assign body dfs) .ready none)))
        (fun i W'=>W'.heap[L]? = some (lpO (recO fn a.tmps ps assign body dfs) .busy none)∧k (.bool false) (W'.putObj L (lpO (recO fn a.tmps ps assign body dfs) .done (some (.exit i)))))
        (fun W'=>W'.heap[L]? = some (lpO (recO fn a.tmps ps assign body dfs) .busy none)∧k (.bool false) (W'.putObj L (lpO (recO fn a.tmps ps assign body dfs) .done (some .ret)))) →
      vs.length = ps.size∧assign.wpIn (FW (some L)) 0 P (Exit.then (fun a₁ w₁=>∃ w₂,(Instr.beginRound L).run P w₁ = .ok () w₂∧body.wpIn (FW (some L)) 0 P (roundPost P L fun e w'=>∃ v,e = .returned v∧k v w') a₁ w₂) (fun _ _ _=>False))
        { tmps:=((ps.zip vs.toArray).foldl (fun t (p,v)=>t.setIfInBounds p v) a.tmps),defers:=[] } W)
    (hn : ∀ w',kn w'→Q .normal { a with defers:=mark++a.defers } w') (he : ∀ i K,(i,K)∈ke→∀ w',K w'→Q (.exit i) { a with defers:=mark++a.defers } w')
    (hret : ∀ w',kr w'→Q .ret { a with defers:=mark++a.defers } w') : (Code.rangeFunc g ps assign body).wpIn (FW ro) 0 P Q a w:=by
  refine wpIn_rangeFunc ?_
  intro fn _
  obtain ⟨gf,first,cap,hg,hb,hcall⟩:=h
  have hg' : a.eval g = .func (.func gf) first cap:=by rw [hr.eval]; exact hg
  refine ⟨L,mark,w1 (recO fn a.tmps ps assign body dfs),{ target:=.fn (.func gf) cap,args:=first++#[.func (.yield L) #[] #[]] },w1 (recO fn a.tmps ps assign body dfs),gf,first++#[.func (.yield L) #[] #[]]++cap,w1 (recO fn a.tmps ps assign body dfs),henter fn,?_,fun _ _=>trivial,?_,fun hh=>by simp [Fence.wide] at hh,?_⟩
  · simp only [resolve,hg']
    simp [go_sem,Deferred.ofValue]
  · simp [invoke,run_callFunc hb]
  · refine callsIn_fw ((hcall _ ?_).mono ?_)
    · intro vs W k hBb hW
      obtain ⟨h1,h2⟩:=hB fn vs W k hBb
      exact .inr ⟨L,rfl,_,hW,by simpa [recO] using h1,roundIn_of_wpIn trivial h2⟩
    · rintro e' w' ⟨v,rfl,hE⟩
      rcases hE with ⟨h1,h2⟩ | ⟨⟨i,K⟩,hq,h1,h2⟩ | ⟨h1,h2⟩
      · exact ⟨none,_,run_endLoop h1 (by simp),hn _ h2⟩
      · exact ⟨some (.exit i),_,run_endLoop h1 (by simp),wpIn_exit (he i K hq _ h2)⟩
      · exact ⟨some .ret,_,run_endLoop h1 (by simp),wpIn_ret (hret _ h2)⟩

def Snd(P:Program)(N:Nat)(c:Code):Prop:=∀{an:Ann} {ro:Option Nat} {kn:List Df→Env→World→Prop} {ke:Nat→List Df→Env→World→Prop} {kr:List Df→Env→World→Prop}
   {Q:Exit→Act→World→Prop} {ds:List Df} {e:Env} {a:Act} {w:World},Rel N (ds.map Df.d) a e→(∀ds' e' a' w',Rel N (ds'.map Df.d) a' e'→kn ds' e' w'→Q .normal a' w')→
   (∀i ds' e' a' w',Rel N (ds'.map Df.d) a' e'→ke i ds' e' w'→Q (.exit i) a' w')→(∀ds' e' a' w',Rel N (ds'.map Df.d) a' e'→kr ds' e' w'→Q .ret a' w')→wpC P N c an ro kn ke kr ds e w→c.wpIn (FW ro) 0 P Q a w
theorem round_sound {P : Program} {N : Nat} {assign body : Code} {aa ab : Ann} {rec : Loop} {L : Nat} {e : Env} {a : Act} {W : World} {k : Value→World→Prop} (iha : Snd P N assign) (ihb : Snd P N body) (hr : Rel N [] a e)
    (h : wpC P N assign aa (some L) (fun ds2 e2 w2=>Bgn rec L w2 fun w3=>wpC P N body ab (some L) (fun _ _ w4=>w4.heap[L]? = some (lpO rec .busy none)∧k (.bool true) (w4.putObj L (lpO rec .ready none)))
      (fun i _ _ w4=>w4.heap[L]? = some (lpO rec .busy none)∧k (.bool false) (w4.putObj L (lpO rec .done (some (.exit i))))) (fun _ _ w4=>w4.heap[L]? = some (lpO rec .busy none)∧k (.bool false) (w4.putObj L (lpO rec .done (some .ret)))) ds2 e2 w3)
      (fun _ _ _ _=>False) (fun _ _ _=>False) [] e W) :
    assign.wpIn (FW (some L)) 0 P (Exit.then (fun a₁ w₁=>∃ w₂,(Instr.beginRound L).run P w₁ = .ok () w₂∧body.wpIn (FW (some L)) 0 P (roundPost P L fun e w'=>∃ v,e = .returned v∧k v w') a₁ w₂) (fun _ _ _=>False)) a W:=by
  refine iha (ds:=[]) hr ?_ (fun _ _ _ _ _ _ hh=>hh.elim) (fun _ _ _ _ _ hh=>hh.elim) h
  rintro ds2 e2 a2 w2 hr2 ⟨hW,hb⟩
  refine ⟨_,run_beginRound hW rfl,ihb hr2 ?_ ?_ ?_ hb⟩
  · rintro ds' e' a' w' _ ⟨h1,h2⟩
    exact ⟨_,_,run_endRound none h1,_,rfl,h2⟩
  · rintro i ds' e' a' w' _ ⟨h1,h2⟩
    exact ⟨_,_,run_endRound (some (.exit i)) h1,_,rfl,h2⟩
  · rintro ds' e' a' w' _ ⟨h1,h2⟩
    exact ⟨_,_,run_endRound (some .ret) h1,_,rfl,h2⟩
theorem blt_lt{p N:Nat}(h:Nat.blt p N=true):p<N:=by have:=Nat.le_of_ble_eq_true h;omega
theorem Rel.round1{N:Nat}{ds:List Deferred}{a:Act}{e:Env}(h:Rel N ds a e){ps:Array Tmp}{p:Nat}(hp:ps.toList=[p])(hlt:p<N)(v:Value):
  Rel N [] {tmps:=((ps.zip #[v]).foldl (λt (p,v)=>t.setIfInBounds p v) a.tmps),defers:=[]} (Sh.put e p v):=by
 have:ps=#[p]:=by rw[← Array.toList_inj,hp]
 subst this
 have h0:Rel N [] {a with defers:=[]} e:=⟨h.size,h.at_,rfl⟩
 have h1:=h0.put hlt v
 have e1:(#[p]:Array Tmp).zip #[v]=#[(p,v)]:=by simp[Array.zip]
 rw[e1]
 exact h1
theorem Rel.round2{N:Nat}{ds:List Deferred}{a:Act}{e:Env}(h:Rel N ds a e){ps:Array Tmp}{p q:Nat}(hp:ps.toList=[p,q])(hlt:p<N)(hlq:q<N)(u v:Value):
  Rel N [] {tmps:=((ps.zip #[u,v]).foldl (λt (p,v)=>t.setIfInBounds p v) a.tmps),defers:=[]} (Sh.put (Sh.put e p u) q v):=by
 have:ps=#[p,q]:=by rw[← Array.toList_inj,hp]
 subst this
 have h0:Rel N [] {a with defers:=[]} e:=⟨h.size,h.at_,rfl⟩
 have h1:=(h0.put hlt u).put hlq v
 have e1:(#[p,q]:Array Tmp).zip #[u,v]=#[(p,u),(q,v)]:=by simp[Array.zip]
 rw[e1]
 exact h1
theorem wpC_sound{P:Program}{N:Nat}(hm:P.follows .mixedOrders=true):∀{c:Code},Snd P N c:=by
 intro c
 induction c with
 |skip=>intro an ro kn ke kr Q ds e a w hr hn he hret h;simp only[wpC]at h;exact wpIn_skip (hn _ _ _ _ hr h)
 |ret=>intro an ro kn ke kr Q ds e a w hr hn he hret h;simp only[wpC]at h;exact wpIn_ret (hret _ _ _ _ hr h)
 |exit id=>intro an ro kn ke kr Q ds e a w hr hn he hret h;simp only[wpC]at h;exact wpIn_exit (he _ _ _ _ _ hr h)
 |seq x y ihx ihy=>
  intro an ro kn ke kr Q ds e a w hr hn he hret h
  cases an with
  |seq ax ay=>
   simp only[wpC]at h
   exact wpIn_seq (ihx hr (λds1 e1 a1 w1 h1 hh=>ihy h1 hn he hret hh) he hret h)
  |join ax live dead ay=>
   simp only[wpC]at h
   cases hcv:just (live++dead) x && noRF x with
   |false=>rw[hcv]at h;exact h.elim
   |true=>
    rw[hcv]at h
    simp only[Bool.and_eq_true]at hcv
    simp only[cond_true]at h
    have h1:=h (λl w'=>∀e' a',Off (live++dead) e e'→live.map e'=l→Rel N (ds.map Df.d) a' e'→y.wpIn (FW ro) 0 P Q a' w') (All.intro λl w' hwp e' a' ho hl hr'=>by
     have:=hwp e'
     rw[← hl,hav_self ho]at this
     exact ihy hr' hn he hret this)
    have h2:=wpC_mono (S:=live++dead) (kn':=λds' e' w'=>∀a',Rel N (ds'.map Df.d) a' e'→y.wpIn (FW ro) 0 P Q a' w') (ke':=ke) (kr':=kr) (just_cover hcv.1)
     (λds' e' w' ho hd hh a' hr'=>hh e' a' ho rfl (by rw[← hd hcv.2];exact hr')) (λ_ _ _ _ _ _ hh=>hh) (λ_ _ _ _ _ hh=>hh) h1
    exact wpIn_seq (ihx hr (λds1 e1 a1 w1 hr1 hh=>hh a1 hr1) he hret h2)
  |joinD ax live dead ay=>
   simp only[wpC]at h
   cases hcv:just (live++dead) x with
   |false=>rw[hcv]at h;exact h.elim
   |true=>
    rw[hcv]at h
    simp only[cond_true]at h
    have h1:=h (λds' l w'=>∀e' a',Off (live++dead) e e'→live.map e'=l→Rel N (ds'.map Df.d) a' e'→y.wpIn (FW ro) 0 P Q a' w') (All.intro λl ds' w' hwp e' a' ho hl hr'=>by
     have:=hwp e'
     rw[← hl,hav_self ho]at this
     exact ihy hr' hn he hret this)
    have h2:=wpC_mono (S:=live++dead) (kn':=λds' e' w'=>∀a',Rel N (ds'.map Df.d) a' e'→y.wpIn (FW ro) 0 P Q a' w') (ke':=ke) (kr':=kr) (just_cover hcv)
     (λds' e' w' ho _ hh a' hr'=>hh e' a' ho rfl hr') (λ_ _ _ _ _ _ hh=>hh) (λ_ _ _ _ _ hh=>hh) h1
    exact wpIn_seq (ihx hr (λds1 e1 a1 w1 hr1 hh=>hh a1 hr1) he hret h2)
  |_=>simp only[wpC]at h
 |cond c x y ihx ihy=>
  intro an ro kn ke kr Q ds e a w hr hn he hret h
  cases an with
  |cond ax ay=>
   simp only[wpC]at h
   rcases h with⟨h1,h2⟩|⟨h1,h2⟩
   ·exact wpIn_cond (t:=true) (by rw[hr.eval];exact h1) (ihx hr hn he hret h2)
   ·exact wpIn_cond (t:=false) (by rw[hr.eval];exact h1) (ihy hr hn he hret h2)
  |_=>simp only[wpC]at h
 |label l=>intro an ro kn ke kr Q ds e a w hr hn he hret h;simp only[wpC]at h;exact wpIn_label (hn _ _ _ _ hr h)
 |scope x ih=>
  intro an ro kn ke kr Q ds e a w hr hn he hret h
  cases an with
  |block ax=>
   simp only[wpC]at h
   exact wpIn_scope_straight (ih (Q:=Exit.noGoto Q) hr hn he hret h)
  |_=>simp only[wpC]at h
 |block id x ih=>
  intro an ro kn ke kr Q ds e a w hr hn he hret h
  cases an with
  |block ax=>
   simp only[wpC]at h
   refine wpIn_block (ih hr hn (λi ds' e' a' w' hr' hh=>?_) hret h)
   simp only[Exit.inBlock]
   by_cases hi:i=id
   ·subst hi
    rw[if_pos rfl]
    simp only[Nat.beq_refl,cond_true]at hh
    exact hn _ _ _ _ hr' hh
   ·rw[if_neg hi]
    have:Nat.beq i id=false:=by
     cases hb:Nat.beq i id
     ·rfl
     ·exact absurd (Nat.eq_of_beq_eq_true hb) hi
    rw[this]at hh
    exact he _ _ _ _ _ hr' hh
  |_=>simp only[wpC]at h
 |loop x ih=>
  intro an ro kn ke kr Q ds e a w hr hn he hret h
  cases an with
  |loop ax live dead=>
   simp only[wpC]at h
   cases hcv:just (live++dead) x && noRF x with
   |false=>rw[hcv]at h;exact h.elim
   |true=>
    rw[hcv]at h
    simp only[Bool.and_eq_true]at hcv
    simp only[cond_true]at h
    obtain⟨I,μ,h0,hround⟩:=h
    refine wpIn_loop (λa' w'=>∃e',Rel N (ds.map Df.d) a' e'∧Off (live++dead) e e'∧I (live.map e') w') (λa' w'=>μ (live.map λt=>a'.tmps.getD t undef) w') ⟨e,hr,Off.refl _ e,h0⟩ ?_
    rintro a1 w1 ⟨e1,hr1,ho1,hI1⟩
    have hsp:=All.spec hround (live.map e1) (by simp) e1 w1 hI1
    rw[hav_self ho1]at hsp
    have h2:=wpC_mono (S:=live++dead) (kn':=λds' e' w''=>(I (live.map e') w''∧μ (live.map e') w''<μ (live.map e1) w1)∧Off (live++dead) e1 e'∧ds'=ds) (ke':=ke) (kr':=kr) (just_cover hcv.1)
     (λds' e' w' ho hd hh=>⟨hh,ho,hd hcv.2⟩) (λ_ _ _ _ _ _ hh=>hh) (λ_ _ _ _ _ hh=>hh) hsp
    refine ih hr1 (λds' e' a' w' hr' hh=>?_) he hret h2
    obtain⟨⟨hI,hlt⟩,ho,rfl⟩:=hh
    refine⟨⟨e',hr',ho1.trans ho,hI⟩,?_⟩
    have e1':(λt=>a1.tmps.getD t undef)=e1:=funext hr1.at_
    have e2':(λt=>a'.tmps.getD t undef)=e':=funext hr'.at_
    show μ (live.map λt=>a'.tmps.getD t undef) w'<μ (live.map λt=>a1.tmps.getD t undef) w1
    rw[e1',e2']
    exact hlt
  |loopD ax live dead=>
   simp only[wpC]at h
   cases hcv:just (live++dead) x with
   |false=>rw[hcv]at h;exact h.elim
   |true=>
    rw[hcv]at h
    simp only[cond_true]at h
    obtain⟨I,μ,h0,hround⟩:=h
    refine wpIn_loop (λa' w'=>∃ds' e',Rel N (ds'.map Df.d) a' e'∧Off (live++dead) e e'∧I ds' (live.map e') w') (λa' w'=>μ (live.map λt=>a'.tmps.getD t undef) w') ⟨ds,e,hr,Off.refl _ e,h0⟩ ?_
    rintro a1 w1 ⟨ds1,e1,hr1,ho1,hI1⟩
    have hsp:=All.spec hround (live.map e1) (by simp) e1 ds1 w1 hI1
    rw[hav_self ho1]at hsp
    have h2:=wpC_mono (S:=live++dead) (kn':=λds' e' w''=>(I ds' (live.map e') w''∧μ (live.map e') w''<μ (live.map e1) w1)∧Off (live++dead) e1 e') (ke':=ke) (kr':=kr) (just_cover hcv)
     (λds' e' w' ho _ hh=>⟨hh,ho⟩) (λ_ _ _ _ _ _ hh=>hh) (λ_ _ _ _ _ hh=>hh) hsp
    refine ih hr1 (λds' e' a' w' hr' hh=>?_) he hret h2
    obtain⟨⟨hI,hlt⟩,ho⟩:=hh
    refine⟨⟨ds',e',hr',ho1.trans ho,hI⟩,?_⟩
    have e1':(λt=>a1.tmps.getD t undef)=e1:=funext hr1.at_
    have e2':(λt=>a'.tmps.getD t undef)=e':=funext hr'.at_
    show μ (live.map λt=>a'.tmps.getD t undef) w'<μ (live.map λt=>a1.tmps.getD t undef) w1
    rw[e1',e2']
    exact hlt
  |_=>simp only[wpC]at h
 |region id ops d=>
  intro an ro kn ke kr Q ds e a w hr hn he hret h
  cases d with
  |false=>
   cases an with
   |leaf=>
    simp only[wpC]at h
    cases hd:dstsOk N ops.toList && !anyDefer ops.toList with
    |false=>rw[hd]at h;exact h.elim
    |true=>rw[hd]at h;simp only[Bool.and_eq_true]at hd;simp only[cond_true]at h;exact wpIn_region_list (opsC_sound hd.1 hr (λe' a' w' h1 h2=>hn ds e' a' w' h1 h2) h)
   |dfr=>
    cases ro with
    |some l=>simp only[wpC]at h
    |none=>
    simp only[wpC]at h
    split at h
    ·rename_i o ho
     split at h
     ·rename_i c h1 h2
      cases hd:dstsOk N ops.toList && !anyDefer ops.toList.dropLast with
      |false=>rw[hd]at h;exact h.elim
      |true=>
       rw[hd]at h
       simp only[Bool.and_eq_true]at hd
       simp only[cond_true]at h
       have hne:ops.toList≠[]:=λh0=>by rw[h0]at ho;cases ho
       have hlast:ops.toList.getLast hne=o:=by rw[List.getLast?_eq_some_getLast hne]at ho;exact Option.some.inj ho
       have hsplit:=List.dropLast_concat_getLast hne
       rw[hlast]at hsplit
       have hds:dstsOk N ops.toList.dropLast=true∧dstsOk N [o]=true:=by
        have key:∀l m:List Oper,dstsOk N (l++m)=true→dstsOk N l=true∧dstsOk N m=true:=by
         intro l m
         induction l with
         |nil=>exact λh=>⟨rfl,h⟩
         |cons x r ih=>
          intro h
          simp only[List.cons_append,dstsOk,Bool.and_eq_true]at h ⊢
          exact⟨⟨h.1,(ih h.2).1⟩,(ih h.2).2⟩
        exact key _ _ (by rw[hsplit];exact hd.1)
       refine wpIn_region_list ?_
       have:=opsC_soundK (ro:=none) (n:=0) (rest:=[o]) (Q:=Q) hds.1 hr (λe' a' w' hr' hh=>?_) h
       ·rwa [hsplit]at this
       ·cases hdf:dfOf (ev e') c with
        |none=>rw[hdf]at hh;exact hh.elim
        |some d=>
         rw[hdf]at hh
         have hres:(resolve a'.eval c o.type).run P w'=.ok d.d w':=by
          rw[hr'.eval]
          unfold dfOf at hdf
          unfold resolve
          split at hdf
          ·rename_i f hf
           split at hdf
           ·rename_i g first cap hfv
            cases hdf
            simp[hf,hfv,Deferred.ofValue,Df.d]
           ·cases hdf
          ·cases hdf
         have hd2:=hds.2
         simp only[dstsOk,Bool.and_true]at hd2
         unfold wpListIn
         rw[if_pos (by simp[Region.wanted,h2])]
         refine⟨λ_ _=>trivial,?_⟩
         have hex:(o.semAt (FW none).round a'.eval).run P w'=.ok (.defer d.d) w':=by
          obtain⟨dst,op,type,pos,after,guard⟩:=o
          simp only at h1
          subst h1
          rw[show(FW none).round=none from rfl,Oper.semAt_none]
          simp[execOp,hres]
         rw[hex]
         show wpListIn (FW none) 0 P ops Q [] _ w'
         unfold wpListIn
         exact hn (d::ds) _ _ _ ((hr'.mark d.d).putO hd2 undef) hh
     ·exact h.elim
    ·exact h.elim
   |_=>simp only[wpC]at h
  |true=>
   cases an with
   |draw A T=>
    simp only[wpC]at h
    cases hd:planOk P N ops A T && !anyDefer ops.toList with
    |false=>rw[hd]at h;exact h.elim
    |true=>rw[hd]at h;simp only[Bool.and_eq_true]at hd;simp only[cond_true]at h;exact draw_wp hd.1 hm hr h (λe' a' w' h1 h2=>hn ds e' a' w' h1 h2)
   |_=>simp only[wpC]at h
 |rangeFunc g ps x y ihx ihy=>
  intro an ro kn ke kr Q ds e a w hr hn he hret h
  cases an with
  |rf aa ab ids=>
   simp only[wpC]at h
   have outer:∀fn,(Instr.enterLoop fn a.tmps ps x y none).run P w=.ok (w.heap.size+1,[{target:=.collected w.heap.size,args:=#[]}])
     ((w.alloc (.deferred (some []))).alloc (lpO (recO fn a.tmps ps x y w.heap.size) .ready none)):=λfn=>run_enterLoop_outer _ _ _ _ _
   split at h
   ·rename_i p hp
    cases hb:Nat.blt p N with
    |false=>rw[hb]at h;exact h.elim
    |true=>
     rw[hb]at h
     simp only[cond_true]at h
     have hps:ps.size=1:=by rw[← Array.length_toList,hp];rfl
     cases ro with
     |none=>
      refine RFc.wp (ro:=none) hr h outer ?_ (λw' hh=>hn (.mark w.heap.size::ds) e _ w' (hr.mark (Df.mark w.heap.size).d) hh) ?_ (λw' hh=>hret (.mark w.heap.size::ds) e _ w' (hr.mark (Df.mark w.heap.size).d) hh)
      ·intro fn vs W k hBb
       match vs,hBb with
       |[v],hBb=>exact⟨by rw[hps];rfl,round_sound ihx ihy (hr.round1 hp (blt_lt hb) v) hBb⟩
      ·intro i K hi w' hh
       rw[List.map_map]at hi
       obtain⟨i',_,hx⟩:=List.mem_map.1 hi
       cases hx
       exact he _ (.mark w.heap.size::ds) e _ w' (hr.mark (Df.mark w.heap.size).d) hh
     |some l=>
      obtain⟨⟨r',hr'⟩,h⟩:=h
      refine RFc.wp (ro:=some l) hr h (λfn=>run_enterLoop_inner hr' _ _ _ _ _) ?_ (λw' hh=>hn _ _ _ _ hr hh) ?_ (λw' hh=>hret _ _ _ _ hr hh)
      ·intro fn vs W k hBb
       match vs,hBb with
       |[v],hBb=>exact⟨by rw[hps];rfl,round_sound ihx ihy (hr.round1 hp (blt_lt hb) v) hBb⟩
      ·intro i K hi w' hh
       obtain⟨i',_,hx⟩:=List.mem_map.1 hi
       cases hx
       exact he _ _ _ _ _ hr hh
   ·rename_i p q hp
    cases hb:Nat.blt p N && Nat.blt q N with
    |false=>rw[hb]at h;exact h.elim
    |true=>
     rw[hb]at h
     simp only[Bool.and_eq_true]at hb
     simp only[cond_true]at h
     have hps:ps.size=2:=by rw[← Array.length_toList,hp];rfl
     cases ro with
     |none=>
      refine RFc.wp (ro:=none) hr h outer ?_ (λw' hh=>hn (.mark w.heap.size::ds) e _ w' (hr.mark (Df.mark w.heap.size).d) hh) ?_ (λw' hh=>hret (.mark w.heap.size::ds) e _ w' (hr.mark (Df.mark w.heap.size).d) hh)
      ·intro fn vs W k hBb
       match vs,hBb with
       |[u,v],hBb=>exact⟨by rw[hps];rfl,round_sound ihx ihy (hr.round2 hp (blt_lt hb.1) (blt_lt hb.2) u v) hBb⟩
      ·intro i K hi w' hh
       rw[List.map_map]at hi
       obtain⟨i',_,hx⟩:=List.mem_map.1 hi
       cases hx
       exact he _ (.mark w.heap.size::ds) e _ w' (hr.mark (Df.mark w.heap.size).d) hh
     |some l=>
      obtain⟨⟨r',hr'⟩,h⟩:=h
      refine RFc.wp (ro:=some l) hr h (λfn=>run_enterLoop_inner hr' _ _ _ _ _) ?_ (λw' hh=>hn _ _ _ _ hr hh) ?_ (λw' hh=>hret _ _ _ _ hr hh)
      ·intro fn vs W k hBb
       match vs,hBb with
       |[u,v],hBb=>exact⟨by rw[hps];rfl,round_sound ihx ihy (hr.round2 hp (blt_lt hb.1) (blt_lt hb.2) u v) hBb⟩
      ·intro i K hi w' hh
       obtain⟨i',_,hx⟩:=List.mem_map.1 hi
       cases hx
       exact he _ _ _ _ _ hr hh
   ·exact h.elim
  |_=>simp only[wpC]at h
 |_=>intro an ro kn ke kr Q ds e a w _ _ _ _ h;cases an<;>simp only[wpC]at h

def env0(args:List Value):Env:=λt=>args.getD t undef

def retK(P:Program):List ResultVar→Env→World→(List Value→Prop)→Prop
 |[],_,_,k=>k []
 | .tmp t::r,e,w,k=>retK P r e w λl=>k (e t::l)
 | .cell a t::r,e,w,k=>match aggSize P t with
  |some n=>LdA P n (e a) w λv=>retK P r e w λl=>k (v::l)
  |none=>bif scal P t then Ld (e a) w λv=>retK P r e w λl=>k (v::l)else False
def tup:List Value→Value
 |[x]=>x
 |l=>.tuple l.toArray
def fnC(P:Program)(N:Nat)(c:Code)(an:Ann)(rs:List ResultVar)(args:List Value)(w:World)(R:Value→World→Prop):Prop:=
 wpC P N c an none (λds e w'=>Lvs P ds w' λw''=>retK P rs e w'' λl=>R (tup l) w'') (λ_ _ _ _=>False) (λds e w'=>Lvs P ds w' λw''=>retK P rs e w'' λl=>R (tup l) w'') [] (env0 args) w
theorem Ld.loadVar{P:Program}{t:TypeId}{p:Value}{w:World}{k:Value→Prop}(hs:scal P t=true)(h:Ld p w k):
  ∃a v,p=.pointer (some a)∧(Go.loadVar t a).run P w=.ok v w∧k v:=by
 obtain⟨a,v,rfl,hc,hk⟩:=h
 refine⟨a,v,rfl,?_,hk⟩
 unfold Go.loadVar
 simp only[Sem.run_bind,Result.andThen_ok,run_isAgg_scal hs]
 exact run_load_cell hc
theorem LdA.loadVar{P:Program}{t:TypeId}{n:Nat}{p:Value}{w:World}{k:Value→Prop}(hs:aggSize P t=some n)(h:LdA P n p w k):
  ∃a v,p=.pointer (some a)∧(Go.loadVar t a).run P w=.ok v w∧k v:=by
 obtain⟨a,cs,rfl,hc,hk⟩:=h
 refine⟨a,_,rfl,?_,hk⟩
 unfold Go.loadVar
 simp[Sem.run_bind,(aggSize_spec hs w).1,(aggSize_spec hs w).2,hc]
def rvSem(tmps:Array Value):ResultVar→Sem Value
 | .tmp t=>pure (tmps.getD t undef)
 | .cell b t=>do Go.loadVar t (← asAddr (tmps.getD b undef))
theorem retK_run{P:Program}{N:Nat}{dds:List Deferred}{a:Act}{e:Env}{w:World}(hr:Rel N dds a e):∀{rs:List ResultVar} {k:List Value→Prop},retK P rs e w k→
  ∃l,(rs.mapM (m:=Sem) (rvSem a.tmps)).run P w=.ok l w∧k l
 |[],k,h=>⟨[],rfl,h⟩
 | .tmp t::r,k,h=>by
  obtain⟨l,h1,h2⟩:=retK_run hr (rs:=r) h
  refine⟨e t::l,?_,h2⟩
  rw[List.mapM_cons]
  simp only[rvSem,Sem.run_bind,Sem.run_pure,Result.andThen_ok,h1]
  rw[hr.at_]
 | .cell b t::r,k,h=>by
  simp only[retK]at h
  have go:(∃ad v,e b=.pointer (some ad)∧(Go.loadVar t ad).run P w=.ok v w∧retK P r e w λl=>k (v::l))→
    ∃l,((ResultVar.cell b t::r).mapM (m:=Sem) (rvSem a.tmps)).run P w=.ok l w∧k l:=by
   rintro⟨ad,v,he,hl,hk⟩
   obtain⟨l,h1,h2⟩:=retK_run hr (rs:=r) hk
   refine⟨v::l,?_,h2⟩
   have hb:a.tmps.getD b undef=.pointer (some ad):=by rw[hr.at_];exact he
   have h3:(asAddr (a.tmps.getD b undef)).run P w=.ok ad w:=by rw[hb];rfl
   rw[List.mapM_cons]
   simp only[rvSem,Sem.run_bind,Sem.run_pure,Result.andThen_ok,h3,hl,h1]
  split at h
  ·rename_i n hn;exact go (LdA.loadVar hn h)
  ·cases hs:scal P t with
   |false=>rw[hs]at h;exact h.elim
   |true=>rw[hs]at h;exact go (Ld.loadVar hs h)
theorem results_run{P:Program}{fn:Func}{N:Nat}{dds:List Deferred}{a:Act}{e:Env}{w:World}(hr:Rel N dds a e){k:List Value→Prop}(h:retK P fn.results.toList e w k):
  ∃l,(results fn a.tmps).run P w=.ok (tup l) w∧k l:=by
 obtain⟨l,h1,h2⟩:=retK_run hr h
 refine⟨l,?_,h2⟩
 have hm:(fn.results.mapM (m:=Sem) (rvSem a.tmps)).run P w=.ok l.toArray w:=by
  rw[Array.mapM_eq_mapM_toList]
  simp only[map_eq_pure_bind,Sem.run_bind,Sem.run_pure]
  rw[h1]
  rfl
 have hrs:results fn a.tmps=(do let vs ← fn.results.mapM (rvSem a.tmps);pure (if h:vs.size=1 then vs[0]else .tuple vs)):=by
  unfold results
  rfl
 rw[hrs,Sem.run_bind,hm,Result.andThen_ok]
 match l with
 |[]=>rfl
 |[x]=>rfl
 |x::y::r=>simp[tup]
theorem leaves_of{P:Program}{fn:Func}{tmps:Array Value}{R:Ending→World→Prop}:∀{ds:List Df} {w:World} {k:World→Prop},Lvs P ds w k→(∀w',k w'→∃v,(results fn tmps).run P w'=.ok v w'∧R (.returned v) w')→
  LeavesInM (FW none) 0 P fn tmps R (ds.map Df.d) .returning w
 |[],w,k,h,hk=>hk w h
 | .mark D::r,w,k,h,hk=>⟨by simp,.inl ⟨D,_,rfl,run_takeDeferred h.1,leaves_of h.2 hk⟩⟩
 | .call f cap args::r,w,k,h,hk=>by
  refine⟨by simp,.inr ⟨λhh=>by simp[FW,Fence.wide]at hh,.func f,cap,f,args++cap,rfl,?_,λ_ _=>trivial,h.2.mono λe u' w' hh=>?_⟩⟩
  ·simp[Df.d,invoke,run_callFunc h.1]
  ·obtain⟨rfl,⟨v,rfl⟩,hk'⟩:=hh
   exact leaves_of hk' hk
theorem rel0{fn:Func}{args:Array Value}(hn:args.size≤fn.ntmps):Rel fn.ntmps [] {tmps:=args++Array.replicate (fn.ntmps-args.size) undef,defers:=[]} (env0 args.toList):=by
 refine⟨by simp;omega,λt=>?_,rfl⟩
 simp only[env0,Array.getD_eq_getD_getElem?,List.getD_eq_getElem?_getD,Array.getElem?_append,Array.getElem?_replicate]
 by_cases ht:t<args.size
 ·simp[ht]
 ·have:args.toList[t]? =none:=by simp;omega
  rw[if_neg ht,this]
  split<;>rfl
theorem fnC_calls{P:Program}(hm:P.follows .mixedOrders=true){f:FuncId}{fn:Func}{c:Code}{an:Ann}{args:Array Value}{w:World}{R:Value→World→Prop}
  (hf:P.funcs[f]? =some fn)(hb:fn.body=some c)(hn:args.size≤fn.ntmps)(h:fnC P fn.ntmps c an fn.results.toList args.toList w R):Ca P f args w R:=by
 refine callsIn_wide (n:=0).1 (callsIn_of_wp_marks (F:=FW none) hf hb trivial ?_)
 refine wpC_sound hm (ds:=[]) (rel0 hn) ?_ ?_ ?_ h
 ·intro ds' e' a' w' hr' hh
  show LeavesInM _ _ _ _ _ _ a'.defers _ _
  rw[hr'.defers]
  exact leaves_of hh λw'' hk=>by obtain⟨l,h1,h2⟩:=results_run hr' hk;exact⟨_,h1,_,rfl,h2⟩
 ·intro i ds' e' a' w' _ hh;exact hh.elim
 ·intro ds' e' a' w' hr' hh
  show LeavesInM _ _ _ _ _ _ a'.defers _ _
  rw[hr'.defers]
  exact leaves_of hh λw'' hk=>by obtain⟨l,h1,h2⟩:=results_run hr' hk;exact⟨_,h1,_,rfl,h2⟩

def slots : Code→List Nat
 | .region _ ops _=>ops.toList.filterMap (·.dst)
 | .seq a b | .cond _ a b=>slots a++slots b
 | .block _ a | .loop a | .scope a=>slots a
 | _=>[]
end Go.Sh