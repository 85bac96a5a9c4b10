/-
  The shallow layer, part 1: a weakest precondition over slots-as-functions that the kernel computes from a loaded function's code; its soundness against the kit's 'Code.wp'.
-/
import Derived.WalkKit
import Derived.RangeFuncRecord
import Derived.OrdersIn
import Derived.TacticsIn
namespace Go.Sh
open Go

/-- Slots as a function. -/
abbrev Env := Nat → Value
def put (e : Env) (d : Nat) (v : Value) : Env := fun t => bif Nat.beq t d then v else e t
def putO (e : Env) : Option Nat → Value → Env
  | some d, v => put e d v
  | none, _ => e
def ev (e : Env) : Operand → Value
  | .tmp t => e t
  | .const v => v
  | .global g => .pointer (some ⟨g, 0, none⟩)
  | .func f => .func (.func f) #[] #[]

/-- A run that leaves the world alone; a run that may change it; a call. -/
def Rd {α : Type} (P : Program) (s : Sem α) (w : World) (k : α → Prop) : Prop := ∃ v, s.run P w = .ok v w ∧ k v
def Ef {α : Type} (P : Program) (s : Sem α) (w : World) (k : α → World → Prop) : Prop := ∃ v w', s.run P w = .ok v w' ∧ k v w'
def Ca (P : Program) (f : FuncId) (args : Array Value) (w : World) (k : Value → World → Prop) : Prop :=
  Calls P f args w fun e w' => ∃ v, e = .returned v ∧ k v w'
def Cnd (c : Value) (A B : Prop) : Prop := (c = .bool true ∧ A) ∨ (c = .bool false ∧ B)
def isB : Value → Option Bool
  | .bool b => some b
  | _ => none
/-- A guarded operation: done if the guard's slot holds what is wanted. -/
def Gd (g : Value) (want : Bool) (op : (Value → World → Prop) → Prop) (w : World) (k : Value → World → Prop) : Prop :=
  (isB g = some want ∧ op k) ∨ (isB g ≠ some want ∧ k undef w)

/-- Loads, stores and places. -/
def Ld (p : Value) (w : World) (k : Value → Prop) : Prop := ∃ a v, p = .pointer (some a) ∧ w.cell? a = some v ∧ k v
def LdA (P : Program) (n : Nat) (p : Value) (w : World) (k : Value → Prop) : Prop :=
  ∃ a cs, p = .pointer (some a) ∧ (loadCells a n).run P w = .ok cs w ∧ k (.agg cs)
def St (P : Program) (n : Nat) (p v : Value) (w : World) (k : World → Prop) : Prop :=
  ∃ a w', p = .pointer (some a) ∧ v.cells.size = n ∧ (storeCells a v.cells.toList).run P w = .ok () w' ∧ k w'
def Al (t : TypeId) (cs : Array Value) (w : World) (k : Value → World → Prop) : Prop :=
  k (.pointer (some ⟨w.heap.size, 0, none⟩)) (w.alloc (.cells cs t))
def nilOk : Value → Bool
  | .pointer (some _) => true
  | .func (.func _) _ _ => true
  | .func (.via ..) _ _ => true
  | .func (.yield _) _ _ => true
  | _ => false
def Nc (x : Value) (k : Value → Prop) : Prop := nilOk x = true ∧ k x
def Fa (off : Nat) (x : Value) (k : Value → Prop) : Prop := ∃ a, x = .pointer (some a) ∧ k (.pointer (some (a.add off)))
def Pk (c a b : Value) (k : Value → Prop) : Prop := ∃ t, c = .bool t ∧ k (if t then a else b)
def Ex (x : Value) (i : Nat) (k : Value → Prop) : Prop := ∃ vs v, x = .tuple vs ∧ vs[i]? = some v ∧ k v
/-- A new map; a drawn order's draw. -/
def MkM (w : World) (k : Value → World → Prop) : Prop := k (.map (some w.heap.size)) (w.alloc (.map #[] 0))
def Dr (w : World) (k : World → Prop) : Prop := k w.drew
/-- A call of a function value. -/
def hasBody (P : Program) (f : FuncId) : Bool :=
  match P.funcs[f]? with
  | some fn => fn.body.isSome && fn.name != "runtime.NumGoroutine"
  | none => false
/-- The fence that lets all in; 'ro': the loop whose round a frame runs. -/
abbrev FW (ro : Option Nat) : Fence := { Fence.wide with round := ro }
theorem FW.room (ro : Option Nat) (m : Nat) : (FW ro).room m := fun _ h => by simp [FW, Fence.wide] at h
/-- A call of loop L's yield: a round. -/
def CaY (P : Program) (L : Nat) (args : Array Value) (w : World) (k : Value → World → Prop) : Prop :=
  ∃ r : Loop, w.heap[L]? = some (.loop r) ∧ args.size = r.params.size ∧
    RoundIn (FW none) 0 P L r.fn ((r.params.zip args).foldl (fun tmps (t, a) => tmps.setIfInBounds t a) r.tmps) r.assign r.body w fun e w' => ∃ v, e = .returned v ∧ k v w'
def CaV (P : Program) (fv : Value) (args : Array Value) (w : World) (k : Value → World → Prop) : Prop :=
  (∃ f first cap, fv = .func (.func f) first cap ∧ hasBody P f = true ∧ Ca P f (first ++ args ++ cap) w k) ∨
  ∃ L, fv = .func (.yield L) #[] #[] ∧ CaY P L args w k
/-- A method's call by way of an interface value. -/
def Iv (P : Program) (x : Value) (name : String) (args : Array Value) (w : World) (k : Value → World → Prop) : Prop :=
  ∃ t v f recv, x = .iface t v ∧ (method (P.types.size + Made.depth) t v name).run P w = .ok (f, recv) w ∧ hasBody P f = true ∧ Ca P f (#[recv] ++ args) w k
theorem callsIn_fw {ro : Option Nat} {n : Nat} {P : Program} {f : FuncId} {args : Array Value} {w : World} {R : Ending → World → Prop} (h : Calls P f args w R) : CallsIn (FW ro) n P f args w R :=
  ⟨trivial, fun cs _ => (callsIn_wide (n := n).2 h).2 cs (room_wide _)⟩
theorem roundIn_fw {ro : Option Nat} {n : Nat} {P : Program} {l : Nat} {f : FuncId} {tmps : Array Value} {assign body : Code} {w : World} {R : Ending → World → Prop}
    (h : RoundIn (FW none) 0 P l f tmps assign body w R) : RoundIn (FW ro) n P l f tmps assign body w R :=
  ⟨trivial, fun c cs _ => h.2 c cs (FW.room _ _)⟩

/-- What needs no memory and no tables. -/
def intOp (op : BinOp) (k : IntKind) (a b : Int) : Option Value :=
  match op with
  | .add => some (.int k (k.wrap (a + b)))
  | .sub => some (.int k (k.wrap (a - b)))
  | .mul => some (.int k (k.wrap (a * b)))
  | .quo => if b = 0 then none else some (.int k (k.wrap (a.tdiv b)))
  | .rem => if b = 0 then none else some (.int k (a.tmod b))
  | .and => some (.int k (k.wrap (BitVec.ofInt k.bits a &&& BitVec.ofInt k.bits b).toNat))
  | .or => some (.int k (k.wrap (BitVec.ofInt k.bits a ||| BitVec.ofInt k.bits b).toNat))
  | .xor => some (.int k (k.wrap (BitVec.ofInt k.bits a ^^^ BitVec.ofInt k.bits b).toNat))
  | .andNot => some (.int k (k.wrap (BitVec.ofInt k.bits a &&& ~~~ BitVec.ofInt k.bits b).toNat))
  | .eql => some (.bool (a == b))
  | .neq => some (.bool (a != b))
  | .lss => some (.bool (a < b))
  | .leq => some (.bool (a ≤ b))
  | .gtr => some (.bool (a > b))
  | .geq => some (.bool (a ≥ b))
  | _ => none
def strOp (op : BinOp) (x y : ByteArray) : Option Value :=
  match op with
  | .add => if ((x.size + y.size : Nat) : Int) > IntKind.i64.max then none else some (.string (x ++ y))
  | .eql => some (.bool (x.toList == y.toList))
  | .neq => some (.bool !(x.toList == y.toList))
  | .lss => some (.bool (Op.bytesLess x.toList y.toList))
  | .leq => some (.bool (Op.bytesLess x.toList y.toList || x.toList == y.toList))
  | .gtr => some (.bool !(Op.bytesLess x.toList y.toList || x.toList == y.toList))
  | .geq => some (.bool !(Op.bytesLess x.toList y.toList))
  | _ => none
def binV (op : BinOp) (x y : Value) : Option Value :=
  match x, y with
  | .int k a, .int k' b =>
    match op with
    | .shl => if b < 0 then none else some (.int k (k.wrap (a * 2 ^ (min b.toNat k.bits))))
    | .shr => if b < 0 then none else some (.int k (a.fdiv (2 ^ (min b.toNat k.bits))))
    | _ => if k = k' then intOp op k a b else none
  | .string a, .string b => strOp op a b
  | _, _ => none
def Bi (op : BinOp) (x y : Value) (k : Value → Prop) : Prop := ∃ v, binV op x y = some v ∧ k v
def Beq (neg : Bool) (x y : Value) (k : Value → Prop) : Prop := ∃ a b, x = .bool a ∧ y = .bool b ∧ k (.bool (if neg then !(a == b) else a == b))
def unV : UnOp → Value → Option Value
  | .not, .bool b => some (.bool !b)
  | .neg, .int k n => some (.int k (k.wrap (0 - n)))
  | .xor, .int k n => some (.int k (k.wrap (BitVec.ofInt k.bits (if k.signed then -1 else k.max) ^^^ BitVec.ofInt k.bits n).toNat))
  | _, _ => none
def Un (op : UnOp) (x : Value) (k : Value → Prop) : Prop := ∃ v, unV op x = some v ∧ k v
def Cv (kd : IntKind) (x : Value) (k : Value → Prop) : Prop := ∃ kk n, x = .int kk n ∧ k (.int kd (kd.wrap n))
def StrC (x : Value) (k : Value → Prop) : Prop := ∃ s, x = .string s ∧ k (.string s)
def LnS (x : Value) (k : Value → Prop) : Prop := ∃ s, x = .string s ∧ k (.int .i64 s.size)
def LnL (x : Value) (k : Value → Prop) : Prop := ∃ a n c, x = .slice a n c ∧ k (.int .i64 (n : Nat))
def Cp (x : Value) (k : Value → Prop) : Prop := ∃ a c n, x = .slice a c n ∧ k (.int .i64 (n : Nat))
def Mx (x y : Value) (k : Value → Prop) : Prop := ∃ kk a b, x = .int kk a ∧ y = .int kk b ∧ k (.int kk (if b > a then b else a))
def Mn (x y : Value) (k : Value → Prop) : Prop := ∃ kk a b, x = .int kk a ∧ y = .int kk b ∧ k (.int kk (if b < a then b else a))
def IxS (x i : Value) (k : Value → Prop) : Prop := ∃ s kk n b, x = .string s ∧ i = .int kk n ∧ 0 ≤ n ∧ s[n.toNat]? = some b ∧ k (.int .u8 (b : UInt8).toNat)
def IxA (sz : Nat) (x i : Value) (k : Value → Prop) : Prop :=
  ∃ a len cap kk n, x = .slice (some a) len cap ∧ i = .int kk n ∧ 0 ≤ n ∧ n < (len : Nat) ∧ k (.pointer (some (a.add (n.toNat * sz))))
def IxP (len sz : Nat) (x i : Value) (k : Value → Prop) : Prop :=
  ∃ a kk n, x = .pointer (some a) ∧ i = .int kk n ∧ 0 ≤ n ∧ n < (len : Nat) ∧ k (.pointer (some (a.add (n.toNat * sz))))
def bnd : Option Value → Nat → Option Nat
  | none, d => some d
  | some (.int _ n), _ => if 0 ≤ n then some n.toNat else none
  | _, _ => none
def SlS (x : Value) (lo hi : Option Value) (k : Value → Prop) : Prop :=
  ∃ s l h, x = .string s ∧ bnd lo 0 = some l ∧ bnd hi s.size = some h ∧ l ≤ h ∧ h ≤ s.size ∧ k (.string (s.extract l h))
def Sl (sz : Nat) (x : Value) (lo hi : Option Value) (k : Value → Prop) : Prop :=
  ∃ a len cap l h, x = .slice a len cap ∧ bnd lo 0 = some l ∧ bnd hi len = some h ∧ l ≤ h ∧ h ≤ cap ∧
    k (.slice (if cap = l then a else a.map (·.add (l * sz))) (h - l) (cap - l))
def Fi (off : Nat) (x : Value) (k : Value → Prop) : Prop := ∃ cs v, x = .agg cs ∧ cs[off]? = some v ∧ k v
def FiA (off n : Nat) (x : Value) (k : Value → Prop) : Prop := ∃ cs, x = .agg cs ∧ k (.agg (cs.extract off (off + n)))
def Bd (z : Array Value) (pl : List (Nat × Nat)) (parts : List (Nat × Value)) (k : Value → Prop) : Prop :=
  ∃ cs, Instr.fill (pl[·]?) z parts = some cs ∧ k (.agg cs)
def BdA (z : Array Value) (sz : Nat) (parts : List (Nat × Value)) (k : Value → Prop) : Prop :=
  ∃ cs, Instr.fill (fun i => some (i * sz, sz)) z parts = some cs ∧ k (.agg cs)

def places (P : Program) : List Field → Option (List (Nat × Nat))
  | [] => some []
  | f :: r => match P.info? f.type, places P r with
    | some i, some l => some ((f.offset, i.size) :: l)
    | _, _ => none
/-- The places of a struct's fields, and its zero cells. -/
def structP (P : Program) (t : TypeId) : Option (List (Nat × Nat) × Array Value) :=
  match P.underlying t, (P.info? t).bind (·.zero) with
  | some (.struct fs), some z => (places P fs.toList).map fun l => (l, z.cells)
  | _, _ => none
def arrayP (P : Program) (t : TypeId) : Option (Nat × Array Value) :=
  match P.underlying t, (P.info? t).bind (·.zero) with
  | some (.array _ el), some z => ((P.info? el).map (·.size)).map fun n => (n, z.cells)
  | _, _ => none
inductive Kd where
  | int | str | bool | slice (sz : Nat) | other
def sizeK (P : Program) (t : TypeId) : Option Nat := (P.info? t).map (·.size)
def kd (P : Program) (t : TypeId) : Kd :=
  match P.underlying t with
  | some (.int _) => .int
  | some .string => .str
  | some .bool => .bool
  | some (.slice e) => match sizeK P e with
    | some n => .slice n
    | none => .other
  | _ => .other
/-- An equation's run, its guard ahead. -/
def eqS (op : BinOp) (t : TypeId) (x y : Operand) (a b : Value) : Sem Value := do eqGuard op t x y a b; binOp op t a b
def scal (P : Program) (t : TypeId) : Bool :=
  match P.underlying t with
  | some (.struct _) | some (.array _ _) | none => false
  | _ => true
def aggSize (P : Program) (t : TypeId) : Option Nat :=
  match P.underlying t with
  | some (.struct _) | some (.array _ _) => (P.info? t).map (·.size)
  | _ => none
def fldOff (P : Program) (s f : Nat) : Option Nat :=
  match P.underlying s with
  | some (.struct fs) =>
    match fs[f]? with
    | some fl => match P.info? fl.type with
      | some i => bif Nat.beq i.size 0 then none else some fl.offset
      | none => none
    | none => none
  | _ => none

/-- One operation; 'k' takes its value ('undef' where it has none) and the world behind it. -/
def opC (P : Program) (o : Oper) (ρ : Operand → Value) (w : World) (k : Value → World → Prop) : Prop :=
  match o.op with
  | .move x | .assign x => k (ρ x) w
  | .pick c a b => Pk (ρ c) (ρ a) (ρ b) fun v => k v w
  | .alloc t => match (P.info? t).bind (·.zero) with
    | some z => Al t z.cells w k
    | none => False
  | .box t x => Al t (ρ x).cells w k
  | .build t parts => match structP P t with
    | some (pl, z) => Bd z pl (parts.toList.map fun (i, x) => (i, ρ x)) fun v => k v w
    | none => match arrayP P t with
      | some (sz, z) => BdA z sz (parts.toList.map fun (i, x) => (i, ρ x)) fun v => k v w
      | none => False
  | .buildSlice t len parts => Ef P (Instr.buildSlice t len (parts.map fun (i, x) => (i, ρ x))) w k
  | .load t x => match aggSize P t with
    | some n => LdA P n (ρ x) w fun v => k v w
    | none => bif scal P t then Ld (ρ x) w fun v => k v w else False
  | .store t p x => match P.info? t with
    | some i => St P i.size (ρ p) (ρ x) w fun w' => k undef w'
    | none => False
  | .nilCheck x => Nc (ρ x) fun v => k v w
  | .fieldAddr s x f => match fldOff P s f with
    | some off => Fa off (ρ x) fun v => k v w
    | none => False
  | .extract x i => Ex (ρ x) i fun v => k v w
  | .binOp op t x y _ => match kd P t with
    | .int | .str => Bi op (ρ x) (ρ y) fun v => k v w
    | .bool => match op with
      | .eql => Beq false (ρ x) (ρ y) fun v => k v w
      | .neq => Beq true (ρ x) (ρ y) fun v => k v w
      | _ => False
    | _ => Rd P (do eqGuard op t x y (ρ x) (ρ y); binOp op t (ρ x) (ρ y)) w fun v => k v w
  | .unOp op _ x => Un op (ρ x) fun v => k v w
  | .convert s d x => match P.underlying s, P.underlying d with
    | some (.int _), some (.int k') => Cv k' (ρ x) fun v => k v w
    | some .string, some .string => StrC (ρ x) fun v => k v w
    | some (.slice _), some .string => Rd P (convert s d (ρ x)) w fun v => k v w
    | _, _ => Ef P (convert s d (ρ x)) w k
  | .makeInterface t x => match P.underlying t with
    | some (.interface _) | none => False
    | _ => k (.iface t (ρ x)) w
  | .makeFunc fn first cap => k (.func fn (first.map ρ) (cap.map ρ)) w
  | .makeMap t none => k (.map (some w.heap.size)) (w.alloc (.map #[] 0))
  | .makeSlice t l c => Ef P (Instr.makeSlice t (ρ l) (ρ c)) w k
  | .slice t x lo hi mx => match mx with
    | some m => Rd P (Instr.sliceAt t (ρ x) (lo.map ρ) (hi.map ρ) (some (ρ m))) w fun v => k v w
    | none => match kd P t with
      | .str => SlS (ρ x) (lo.map ρ) (hi.map ρ) fun v => k v w
      | .slice sz => Sl sz (ρ x) (lo.map ρ) (hi.map ρ) fun v => k v w
      | _ => Rd P (Instr.sliceAt t (ρ x) (lo.map ρ) (hi.map ρ) none) w fun v => k v w
  | .field t x f => match P.underlying t with
    | some (.struct fs) => match fs[f]? with
      | some fl => match aggSize P fl.type with
        | some n => FiA fl.offset n (ρ x) fun v => k v w
        | none => bif scal P fl.type then Fi fl.offset (ρ x) fun v => k v w else False
      | none => False
    | _ => False
  | .indexAddr t x ix => match P.underlying t with
    | some (.slice el) => match sizeK P el with
      | some sz => IxA sz (ρ x) (ρ ix) fun v => k v w
      | none => False
    | some (.array len el) => match sizeK P el with
      | some sz => IxP len sz (ρ x) (ρ ix) fun v => k v w
      | none => False
    | _ => False
  | .index t x ix => match kd P t with
    | .str => IxS (ρ x) (ρ ix) fun v => k v w
    | _ => Rd P (Instr.index t (ρ x) (ρ ix)) w fun v => k v w
  | .lookup t x ix ok => Rd P (Instr.lookup t (ρ x) (ρ ix) ok) w fun v => k v w
  | .mapUpdate t m key x => Ef P (Instr.mapUpdate t (ρ m) (ρ key) (ρ x)) w fun _ w' => k undef w'
  | .insert t m key x => Ef P (Instr.mapUpdate t (ρ m) (ρ key) (ρ x)) w fun _ w' => k undef w'
  | .range t x => Ef P (Instr.range t (ρ x)) w k
  | .entry it => Rd P (Instr.entry (ρ it)) w fun v => k v w
  | .next it s => Ef P (Instr.next (ρ it) s o.type) w k
  | .typeAssert x t u ok => Ef P (Instr.typeAssert (ρ x) t u ok) w k
  | .call c => match c.callee with
    | .builtin .len => match c.args.toList, c.argTypes.toList with
      | [x], [t] => match kd P t with
        | .str => LnS (ρ x) fun v => k v w
        | .slice _ => LnL (ρ x) fun v => k v w
        | _ => Rd P (Builtin.len_ #[t] o.type #[ρ x]) w fun v => k v w
      | _, _ => False
    | .builtin .cap => match c.args.toList, c.argTypes.toList with
      | [x], [t] => match kd P t with
        | .slice _ => Cp (ρ x) fun v => k v w
        | _ => False
      | _, _ => False
    | .builtin .min => match c.args.toList with
      | [x, y] => Mn (ρ x) (ρ y) fun v => k v w
      | _ => False
    | .builtin .max => match c.args.toList with
      | [x, y] => Mx (ρ x) (ρ y) fun v => k v w
      | _ => False
    | .builtin .append => Ef P (Builtin.append_ c.argTypes o.type (c.args.map ρ)) w k
    | .builtin .copy => Ef P (Builtin.copy_ c.argTypes o.type (c.args.map ρ)) w k
    | .builtin .delete => Ef P (Builtin.delete_ c.argTypes o.type (c.args.map ρ)) w k
    | .builtin .clear => Ef P (Builtin.clear_ c.argTypes o.type (c.args.map ρ)) w k
    | .builtin .unsafeSliceData => Ef P (Builtin.unsafeSliceData_ c.argTypes o.type (c.args.map ρ)) w k
    | .builtin .unsafeString => Ef P (Builtin.unsafeString_ c.argTypes o.type (c.args.map ρ)) w k
    | .builtin _ => False
    | .value (.func f) => bif hasBody P f then Ca P f (c.args.map ρ) w k else False
    | .value x => CaV P (ρ x) (c.args.map ρ) w k
    | .invoke recv name => Iv P (ρ recv) name (c.args.map ρ) w k
  | _ => False

def gslot (ops : Array Oper) (j : Nat) : Option Nat := (ops[j]?).bind (·.dst)
def gval (ops : Array Oper) (e : Env) (j : Nat) : Value := match gslot ops j with
  | some d => e d
  | none => undef

def opsC (P : Program) (N : Nat) (ops : Array Oper) : List Oper → (Env → World → Prop) → Env → World → Prop
  | [], k, e, w => k e w
  | o :: rest, k, e, w =>
    match o.guard with
    | none => opC P o (ev e) w fun v w' => opsC P N ops rest k (putO e o.dst v) w'
    | some (j, want) => Gd (gval ops e j) want (opC P o (ev e) w) w fun v w' => opsC P N ops rest k (putO e o.dst v) w'

/-- The slots that a region's operations write lie below N. -/
def dstsOk (N : Nat) : List Oper → Bool
  | [] => true
  | o :: rest => (match o.dst with | some d => Nat.blt d N | none => true) && dstsOk N rest

/-- The state that a frame's slots stand for. -/
structure Rel (N : Nat) (ds : List Deferred) (a : Act) (e : Env) : Prop where
  size : a.tmps.size = N
  at_ : ∀ t, a.tmps.getD t undef = e t
  defers : a.defers = ds

theorem Rel.eval {N : Nat} {ds : List Deferred} {a : Act} {e : Env} (h : Rel N ds a e) : a.eval = ev e := by
  funext x; cases x <;> simp [Act.eval, ev, h.at_]

theorem put_apply (e : Env) (d : Nat) (v : Value) (t : Nat) : put e d v t = if t = d then v else e t := by
  unfold put
  by_cases h : t = d
  · subst h; simp
  · have : Nat.beq t d = false := by
      cases hb : Nat.beq t d
      · rfl
      · exact absurd (Nat.eq_of_beq_eq_true hb) h
    simp [this, h]

theorem Rel.put {N : Nat} {ds : List Deferred} {a : Act} {e : Env} (h : Rel N ds a e) {d : Nat} (hd : d < N) (v : Value) : Rel N ds (a.put (some d) v) (put e d v) where
  size := by simp [Act.put, h.size]
  at_ t := by
    have ht := h.at_ t
    rw [put_apply]
    simp only [Act.put, Array.getD_eq_getD_getElem?] at ht ⊢
    rw [Array.getElem?_setIfInBounds]
    by_cases hx : t = d
    · subst hx; simp [h.size, hd]
    · have : ¬ d = t := fun hh => hx hh.symm
      simp [this, hx, ht]
  defers := h.defers

theorem Rel.putO {N : Nat} {ds : List Deferred} {a : Act} {e : Env} (h : Rel N ds a e) {d : Option Nat} (hd : (match d with | some d => Nat.blt d N | none => true) = true) (v : Value) :
    Rel N ds (a.put d v) (putO e d v) := by
  cases d with
  | none => exact ⟨h.size, h.at_, h.defers⟩
  | some d => exact h.put (by have := Nat.le_of_ble_eq_true hd; omega) v

theorem Rel.yielded {N : Nat} {ds : List Deferred} {a : Act} {e : Env} (h : Rel N ds a e) (ops : Array Oper) (j : Nat) : yielded ops a.tmps j = isB (gval ops e j) := by
  unfold Go.yielded gval gslot
  cases hd : (ops[j]?).bind (·.dst) with
  | none => simp [isB, undef]
  | some d =>
    have hx := h.at_ d
    simp only [Option.bind_some]
    rw [← hx, Array.getD_eq_getD_getElem?]
    cases hg : a.tmps[d]? with
    | none => simp [isB, undef]
    | some v => cases v <;> simp [isB]

theorem run_isAgg_scal {P : Program} {t : TypeId} (h : scal P t = true) (w : World) : (isAgg t).run P w = .ok false w := by
  unfold scal at h
  unfold isAgg
  cases hu : P.underlying t with
  | none => rw [hu] at h; cases h
  | some d =>
    rw [hu] at h
    simp only [Sem.run_bind, run_underlying hu, Result.andThen_ok]
    cases d <;> first | rfl | cases h

theorem aggSize_spec {P : Program} {t : TypeId} {n : Nat} (h : aggSize P t = some n) (w : World) :
    (isAgg t).run P w = .ok true w ∧ (sizeOf t).run P w = .ok n w := by
  unfold aggSize at h
  have key : ∀ d, P.underlying t = some d → (P.info? t).map (·.size) = some n → ((match d with | .struct _ => true | .array _ _ => true | _ => false) = true) →
      (isAgg t).run P w = .ok true w ∧ (sizeOf t).run P w = .ok n w := by
    intro d hu hi hd
    constructor
    · unfold isAgg
      simp only [Sem.run_bind, run_underlying hu, Result.andThen_ok]
      cases d <;> first | rfl | cases hd
    · unfold sizeOf typeInfo
      cases hx : P.info? t with
      | none => rw [hx] at hi; cases hi
      | some i =>
        rw [hx] at hi
        simp only [Option.map_some, Option.some.injEq] at hi
        subst hi
        simp [program, Sem.run, hx]
  cases hu : P.underlying t with
  | none => rw [hu] at h; cases h
  | some d =>
    rw [hu] at h
    cases d <;> first | cases h | exact key _ hu h rfl

theorem run_sizeOf' {P : Program} {t : TypeId} {i : TypeInfo} (h : P.info? t = some i) (w : World) : (sizeOf t).run P w = .ok i.size w := by
  unfold sizeOf typeInfo
  simp [program, Sem.run, h]

theorem run_load_cell {P : Program} {w : World} {a : Addr} {v : Value} (h : w.cell? a = some v) : (load a).run P w = .ok v w := by
  unfold load; simp [Sem.run, h]

theorem Ld.run {P : Program} {t : TypeId} {p : Value} {w : World} {k : Value → Prop} (hs : scal P t = true) (h : Ld p w k) :
    ∃ v, (Instr.loadAt t p).run P w = .ok v w ∧ k v := by
  obtain ⟨a, v, rfl, hc, hk⟩ := h
  refine ⟨v, ?_, hk⟩
  unfold Instr.loadAt Instr.sureAddr loadVar
  simp only [Sem.run_bind, Sem.run_pure, Result.andThen_ok, run_isAgg_scal hs]
  exact run_load_cell hc

theorem LdA.run {P : Program} {t : TypeId} {n : Nat} {p : Value} {w : World} {k : Value → Prop} (hs : aggSize P t = some n) (h : LdA P n p w k) :
    ∃ v, (Instr.loadAt t p).run P w = .ok v w ∧ k v := by
  obtain ⟨a, cs, rfl, hc, hk⟩ := h
  refine ⟨_, ?_, hk⟩
  unfold Instr.loadAt Instr.sureAddr loadVar
  simp [Sem.run_bind, (aggSize_spec hs w).1, (aggSize_spec hs w).2, hc]

theorem St.run {P : Program} {t : TypeId} {i : TypeInfo} {p v : Value} {w : World} {k : World → Prop} (hi : P.info? t = some i) (h : St P i.size p v w k) :
    ∃ w', (Instr.storeAt t p v).run P w = .ok () w' ∧ k w' := by
  obtain ⟨a, w', rfl, hsz, hc, hk⟩ := h
  refine ⟨w', ?_, hk⟩
  unfold Instr.storeAt Instr.sureAddr storeVar
  simp [Sem.run_bind, run_sizeOf' hi, hsz, hc]

theorem Fa.run {P : Program} {s f off : Nat} {x : Value} {w : World} {k : Value → Prop} (hs : fldOff P s f = some off) (h : Fa off x k) :
    ∃ v, (Instr.fieldAt s x f).run P w = .ok v w ∧ k v := by
  obtain ⟨a, rfl, hk⟩ := h
  refine ⟨_, ?_, hk⟩
  unfold fldOff at hs
  cases hu : P.underlying s with
  | none => rw [hu] at hs; cases hs
  | some d =>
    rw [hu] at hs
    cases d with
    | struct fs =>
      simp only at hs
      cases hf : fs[f]? with
      | none => rw [hf] at hs; cases hs
      | some fl =>
        rw [hf] at hs
        simp only at hs
        cases hi : P.info? fl.type with
        | none => rw [hi] at hs; cases hs
        | some i =>
          rw [hi] at hs
          simp only at hs
          cases hz : Nat.beq i.size 0 with
          | true => rw [hz] at hs; cases hs
          | false =>
            rw [hz] at hs
            simp only [cond_false, Option.some.injEq] at hs
            subst hs
            have hne : i.size ≠ 0 := by
              intro h0; rw [h0] at hz; cases hz
            unfold Instr.fieldAt Instr.sureAddr fieldPlace
            simp [Sem.run_bind, run_underlying hu, hf, run_sizeOf' hi, hne]
    | _ => cases hs

theorem run_newObj' (P : Program) (o : Obj) (w : World) : (newObj o).run P w = .ok w.heap.size (w.alloc o) := rfl

theorem run_callFunc {P : Program} {f : FuncId} (h : hasBody P f = true) (args : Array Value) (w : World) : (callFunc f args).run P w = .ok (.enter f args) w := by
  unfold hasBody at h
  unfold callFunc
  cases hf : P.funcs[f]? with
  | none => rw [hf] at h; cases h
  | some fn =>
    rw [hf] at h
    simp only [Bool.and_eq_true, bne_iff_ne, ne_eq] at h
    obtain ⟨h1, h2⟩ := h
    cases hb : fn.body with
    | none => rw [hb] at h1; cases h1
    | some c => simp [program, Sem.run, Sem.run_bind, hf, h2, hb]

theorem run_bindP {α β : Type} {P : Program} {s : Sem α} {k : α → Sem β} {w w' : World} {v : α} (h : s.run P w = .ok v w') : (s >>= k).run P w = (k v).run P w' := by simp [Sem.run_bind, h]
theorem run_callMethod {P : Program} {t : TypeId} {v rv : Value} {name : String} {args : Array Value} {f : FuncId} {w : World} (hm : (method (P.types.size + Made.depth) t v name).run P w = .ok (f, rv) w)
    (hf : (callFunc f (#[rv] ++ args)).run P w = .ok (.enter f (#[rv] ++ args)) w) : (callMethod (.iface t v) name args).run P w = .ok (.enter f (#[rv] ++ args)) w := by
  unfold callMethod
  have h1 : (program).run P w = .ok P w := rfl
  exact (run_bindP h1).trans ((run_bindP hm).trans hf)

theorem Ca.upon {P : Program} {f : FuncId} {args : Array Value} {w : World} {k : Value → World → Prop} {next : Act → World → Prop} {Q : Exit → Act → World → Prop} {a : Act} {d : Option Tmp}
    {ro : Option Nat} {n : Nat} (h : Ca P f args w k) (hk : ∀ v w', k v w' → next (a.put d v) w') :
    ((FW ro).depth.isSome = true → 1 ≤ n) ∧ CallsIn (FW ro) (n - 1) P f args w fun
      | .returned v, w'' => next (a.put d v) w''
      | .panicked chain, w'' => Q (.panic chain) a w''
      | .outgrown, _ => LetsOut Q :=
  ⟨fun h => by simp [FW, Fence.wide] at h, callsIn_fw (h.mono fun e w' ⟨v, he, hv⟩ => by subst he; exact hk v w' hv)⟩

theorem kd_int {P : Program} {t : TypeId} (h : kd P t = .int) : ∃ q, P.underlying t = some (.int q) := by
  unfold kd at h
  split at h <;> first | exact ⟨_, by assumption⟩ | cases h | (split at h <;> cases h)
theorem kd_str {P : Program} {t : TypeId} (h : kd P t = .str) : P.underlying t = some .string := by
  unfold kd at h
  split at h <;> first | assumption | cases h | (split at h <;> cases h)
theorem kd_bool {P : Program} {t : TypeId} (h : kd P t = .bool) : P.underlying t = some .bool := by
  unfold kd at h
  split at h <;> first | assumption | cases h | (split at h <;> cases h)
theorem kd_slice {P : Program} {t : TypeId} {n : Nat} (h : kd P t = .slice n) : ∃ el, P.underlying t = some (.slice el) ∧ sizeK P el = some n := by
  unfold kd at h
  split at h
  · cases h
  · cases h
  · cases h
  · rename_i el hu
    split at h
    · rename_i m hm; cases h; exact ⟨el, hu, hm⟩
    · cases h
  · cases h
theorem run_sizeK {P : Program} {t : TypeId} {n : Nat} (h : sizeK P t = some n) (w : World) : (sizeOf t).run P w = .ok n w := by
  unfold sizeK at h
  cases hi : P.info? t with
  | none => rw [hi] at h; cases h
  | some i => rw [hi] at h; simp only [Option.map_some, Option.some.injEq] at h; subst h; exact run_sizeOf' hi w

theorem binV_run {P : Program} {op : BinOp} {t : TypeId} {x y : Operand} {a b v : Value} (h : binV op a b = some v) (w : World) :
    (do eqGuard op t x y a b; binOp op t a b : Sem Value).run P w = .ok v w := by
  have hg : (eqGuard op t x y a b).run P w = .ok () w := by
    unfold binV at h
    split at h
    · unfold eqGuard; split <;> rfl
    · unfold eqGuard; split <;> rfl
    · cases h
  rw [Sem.run_bind, hg, Result.andThen_ok]
  unfold binV at h
  split at h
  · rename_i k p k' q
    split at h
    · split at h
      · cases h
      · rename_i hq; cases h; simp [binOp, Op.shift, hq]
    · split at h
      · cases h
      · rename_i hq; cases h; simp [binOp, Op.shift, hq]
    · rename_i h1 h2
      split at h
      · rename_i hk; subst hk
        unfold intOp at h
        cases op <;> simp only at h <;> first
          | (split at h; · cases h
             · rename_i hb; cases h; simp [binOp, Op.intDiv, hb])
          | (cases h; simp [binOp, Op.intArith, Op.intBits, Op.intCmp]; done)
          | cases h
      · cases h
  · rename_i p q
    unfold strOp at h
    cases op <;> simp only at h <;> first
      | (split at h; · cases h
         · rename_i hb; cases h; simp only [binOp, Op.stringOp]; rw [if_neg hb]; rfl)
      | (cases h; simp [binOp, Op.stringOp]; done)
      | cases h
  · cases h

theorem Beq_run {P : Program} {t : TypeId} {x y : Operand} {a b : Bool} (ht : P.underlying t = some .bool) (w : World) :
    (do eqGuard .eql t x y (.bool a) (.bool b); binOp .eql t (.bool a) (.bool b) : Sem Value).run P w = .ok (.bool (a == b)) w ∧
    (do eqGuard .neq t x y (.bool a) (.bool b); binOp .neq t (.bool a) (.bool b) : Sem Value).run P w = .ok (.bool !(a == b)) w := by
  have he : (Op.equal t (.bool a) (.bool b)).run P w = .ok (a == b) w := by
    show (Op.equalIn (9999 + 1) t (.bool a) (.bool b)).run P w = .ok (a == b) w
    rw [Op.equalIn]
    simp only [Sem.run_bind, run_underlying ht, Result.andThen_ok, Sem.run_pure]
  constructor <;> simp [eqGuard, binOp, he]

theorem unV_run {P : Program} {op : UnOp} {a v : Value} (h : unV op a = some v) (w : World) : (Op.unary op a).run P w = .ok v w := by
  unfold unV at h
  split at h
  · cases h; rfl
  · cases h; rfl
  · cases h; rfl
  · cases h

theorem bnd_run {P : Program} {x : Value} {y n : Nat} {c : BoundsCode} {d : Nat} (h : bnd (some x) d = some n) (hn : n ≤ y) (w : World) :
    (Instr.sliceBound x y c).run P w = .ok n w := by
  cases x <;> simp only [bnd] at h <;> try cases h
  rename_i kk m
  split at h
  · rename_i h0
    cases h
    have h1 : m ≤ (y : Int) := by omega
    simp [Instr.sliceBound, asIntOf, h0, h1]
  · cases h

theorem sliceBounds_run {P : Program} {b : Bool} {len cap l h : Nat} {lo hi : Option Value} (hl : bnd lo 0 = some l) (hh : bnd hi len = some h) (h1 : l ≤ h) (h2 : h ≤ cap) (w : World) :
    (Instr.sliceBounds b len cap lo hi none).run P w = .ok (l, h, cap) w := by
  unfold Instr.sliceBounds
  cases hi with
  | none =>
    simp only [bnd, Option.some.injEq] at hh; subst hh
    cases lo with
    | none => simp only [bnd, Option.some.injEq] at hl; subst hl; simp
    | some v => simp [bnd_run hl h1]
  | some u =>
    cases lo with
    | none => simp only [bnd, Option.some.injEq] at hl; subst hl; simp [bnd_run hh h2]
    | some v => simp [bnd_run hl h1, bnd_run hh h2]

theorem places_run {P : Program} {fs : List Field} {l : List (Nat × Nat)} (h : places P fs = some l) (w : World) :
    (fs.mapM (m := Sem) fun f => do pure (f.offset, ← sizeOf f.type)).run P w = .ok l w := by
  induction fs generalizing l with
  | nil => simp only [places, Option.some.injEq] at h; subst h; rfl
  | cons f r ih =>
    simp only [places] at h
    split at h
    · rename_i i l' hi hl
      cases h
      rw [List.mapM_cons]
      simp only [Sem.run_bind, run_sizeOf' hi, Result.andThen_ok, Sem.run_pure, ih hl]
    · cases h

theorem Bd_run {P : Program} {t : TypeId} {pl : List (Nat × Nat)} {z cs : Array Value} {parts : Array (Nat × Value)} (hs : structP P t = some (pl, z))
    (hf : Instr.fill (pl[·]?) z parts.toList = some cs) (w : World) : (Instr.build t parts).run P w = .ok (.agg cs) w := by
  unfold structP at hs
  split at hs
  · rename_i fs zz hu hz
    cases hp : places P fs.toList with
    | none => rw [hp] at hs; cases hs
    | some l =>
      rw [hp] at hs
      simp only [Option.map_some, Option.some.injEq, Prod.mk.injEq] at hs
      obtain ⟨rfl, rfl⟩ := hs
      have hzv : (zeroValue t).run P w = .ok zz w := by
        unfold zeroValue typeInfo
        cases hi : P.info? t with
        | none => rw [hi] at hz; cases hz
        | some i => rw [hi] at hz; simp only [Option.bind_some] at hz; simp [program, Sem.run, hi, hz]
      have hm : (fs.mapM (m := Sem) fun f => do pure (f.offset, ← sizeOf f.type)).run P w = .ok l.toArray w := by
        rw [Array.mapM_eq_mapM_toList]
        have := places_run hp w
        simp only [map_eq_pure_bind, Sem.run_bind, this, Result.andThen_ok, Sem.run_pure]
      unfold Instr.build
      simp only [Sem.run_bind, hzv, Result.andThen_ok, run_underlying hu, hm]
      have : (fun (x : Nat) => l.toArray[x]?) = (fun (x : Nat) => l[x]?) := by funext x; simp
      rw [this, hf]
      rfl
  · cases hs

theorem BdA_run {P : Program} {t : TypeId} {sz : Nat} {z cs : Array Value} {parts : Array (Nat × Value)} (hs : arrayP P t = some (sz, z))
    (hf : Instr.fill (fun i => some (i * sz, sz)) z parts.toList = some cs) (w : World) : (Instr.build t parts).run P w = .ok (.agg cs) w := by
  unfold arrayP at hs
  split at hs
  · rename_i len el zz hu hz
    cases hi : P.info? el with
    | none => rw [hi] at hs; cases hs
    | some i =>
      rw [hi] at hs
      simp only [Option.map_some, Option.some.injEq, Prod.mk.injEq] at hs
      obtain ⟨rfl, rfl⟩ := hs
      have hzv : (zeroValue t).run P w = .ok zz w := by
        unfold zeroValue typeInfo
        cases hi : P.info? t with
        | none => rw [hi] at hz; cases hz
        | some i => rw [hi] at hz; simp only [Option.bind_some] at hz; simp [program, Sem.run, hi, hz]
      unfold Instr.build
      simp only [Sem.run_bind, hzv, Result.andThen_ok, run_underlying hu, run_sizeOf' hi]
      rw [hf]
      rfl
  · cases hs

theorem opC_sound {P : Program} {o : Oper} {ρ : Operand → Value} {w : World} {k : Value → World → Prop} (h : opC P o ρ w k) {a : Act} (hr : a.eval = ρ)
    {next : Act → World → Prop} {Q : Exit → Act → World → Prop} {ro : Option Nat} {n : Nat} (hk : ∀ v w', k v w' → next (a.put o.dst v) w') : o.wpIn (FW ro) n P a w next Q := by
  unfold Oper.wpIn
  refine ⟨fun _ _ => trivial, ?_⟩
  have hsem : o.semAt (FW ro).round a.eval = execOp a.eval o := Oper.semAt_eq _ _ _ (fun c hc => by unfold opC at h; rw [hc] at h; exact h)
  rw [hsem, hr]
  have val : ∀ v w', (execOp ρ o).run P w = .ok (.value v) w' → k v w' → o.uponIn (FW ro) n P a next Q ((execOp ρ o).run P w) := by
    intro v w' hv hkv; rw [hv]; exact hk v w' hkv
  have skp : ∀ w', (execOp ρ o).run P w = .ok .skip w' → k undef w' → o.uponIn (FW ro) n P a next Q ((execOp ρ o).run P w) := by
    intro w' hv hkv; rw [hv]; exact hk undef w' hkv
  have rd : ∀ s : Sem Value, (execOp ρ o) = (do pure (.value (← s))) → (Rd P s w fun v => k v w) → o.uponIn (FW ro) n P a next Q ((execOp ρ o).run P w) := by
    rintro s hs ⟨v, hv, hkv⟩
    exact val v w (by rw [hs]; simp [Sem.run_bind, hv]) hkv
  have ef : ∀ s : Sem Value, (execOp ρ o) = (do pure (.value (← s))) → Ef P s w k → o.uponIn (FW ro) n P a next Q ((execOp ρ o).run P w) := by
    rintro s hs ⟨v, w', hv, hkv⟩
    exact val v w' (by rw [hs]; simp [Sem.run_bind, hv]) hkv
  have hx : ∀ op, o.op = op → (execOp ρ o) = execOp ρ { o with op := op } := by intro op hop; rw [← hop]
  unfold opC at h
  split at h
  · rename_i x hop; exact val _ w (by rw [hx _ hop]; simp [execOp]) h
  · rename_i x hop; exact val _ w (by rw [hx _ hop]; simp [execOp]) h
  · rename_i c x y hop
    obtain ⟨t, hc, hkv⟩ := h
    exact val _ w (by rw [hx _ hop]; simp only [execOp, hc]; cases t <;> simp [asBool]) hkv
  · rename_i t hop
    split at h
    · rename_i z hz
      refine val _ _ ?_ h
      rw [hx _ hop]
      cases hi : P.info? t with
      | none => rw [hi] at hz; cases hz
      | some i =>
        rw [hi] at hz
        simp only [Option.bind_some] at hz
        have hzv : (zeroValue t).run P w = .ok z w := by
          unfold zeroValue typeInfo; simp [program, Sem.run, hi, hz]
        simp only [execOp, Instr.alloc, newVar, newRow, Sem.run_bind, hzv, Result.andThen_ok, run_newObj', Sem.run_pure]
    · exact h.elim
  · rename_i t x hop
    refine val _ _ ?_ h
    rw [hx _ hop]
    simp only [execOp, Instr.box, newVar, newRow, Sem.run_bind, Result.andThen_ok, run_newObj', Sem.run_pure]
  · rename_i t parts hop
    split at h
    · rename_i pl z hs
      obtain ⟨cs, hf, hkv⟩ := h
      refine rd _ (by rw [hx _ hop]; rfl) ⟨_, Bd_run hs (by simpa using hf) w, hkv⟩
    · split at h
      · rename_i sz z hs
        obtain ⟨cs, hf, hkv⟩ := h
        refine rd _ (by rw [hx _ hop]; rfl) ⟨_, BdA_run hs (by simpa using hf) w, hkv⟩
      · exact h.elim
  · rename_i t len parts hop; exact ef _ (by rw [hx _ hop]; rfl) h
  · rename_i t x hop
    split at h
    · rename_i n hn
      obtain ⟨v, hv, hkv⟩ := LdA.run hn h
      exact rd _ (by rw [hx _ hop]; rfl) ⟨v, hv, hkv⟩
    · cases hs : scal P t with
      | false => rw [hs] at h; exact h.elim
      | true =>
        rw [hs] at h
        obtain ⟨v, hv, hkv⟩ := Ld.run hs h
        exact rd _ (by rw [hx _ hop]; rfl) ⟨v, hv, hkv⟩
  · rename_i t p x hop
    split at h
    · rename_i i hi
      obtain ⟨w', hv, hkv⟩ := St.run hi h
      refine skp w' ?_ hkv
      rw [hx _ hop]
      simp [execOp, hv]
    · exact h.elim
  · rename_i x hop
    obtain ⟨hn, hkv⟩ := h
    refine val _ w ?_ hkv
    rw [hx _ hop]
    simp only [execOp]
    generalize ρ x = y at hn ⊢
    unfold nilOk at hn
    split at hn <;> first | rfl | cases hn
  · rename_i s x f hop
    split at h
    · rename_i off hoff
      obtain ⟨v, hv, hkv⟩ := Fa.run (w := w) hoff h
      exact rd _ (by rw [hx _ hop]; rfl) ⟨v, hv, hkv⟩
    · exact h.elim
  · rename_i x i hop
    obtain ⟨vs, v, he, hi, hkv⟩ := h
    refine val v w ?_ hkv
    rw [hx _ hop]
    simp [execOp, Instr.extract, he, hi]
  · rename_i op t x y z hop
    have bi : (Bi op (ρ x) (ρ y) fun v => k v w) → o.uponIn (FW ro) n P a next Q ((execOp ρ o).run P w) := by
      rintro ⟨v, hv, hkv⟩
      exact rd _ (by rw [hx _ hop]; rfl) ⟨v, binV_run hv w, hkv⟩
    split at h
    · exact bi h
    · exact bi h
    · rename_i hb
      split at h
      · obtain ⟨p, q, hp, hq, hkv⟩ := h
        refine rd _ (by rw [hx _ hop]; rfl) ⟨_, ?_, hkv⟩
        rw [hp, hq]; exact (Beq_run (kd_bool hb) w).1
      · obtain ⟨p, q, hp, hq, hkv⟩ := h
        refine rd _ (by rw [hx _ hop]; rfl) ⟨_, ?_, hkv⟩
        rw [hp, hq]; exact (Beq_run (kd_bool hb) w).2
      · exact h.elim
    · exact rd _ (by rw [hx _ hop]; rfl) h
  · rename_i op z x hop
    obtain ⟨v, hv, hkv⟩ := h
    exact rd _ (by rw [hx _ hop]; rfl) ⟨v, unV_run hv w, hkv⟩
  · rename_i s d x hop
    split at h
    · rename_i q k' h1 h2
      obtain ⟨kk, n, he, hkv⟩ := h
      refine rd _ (by rw [hx _ hop]; rfl) ⟨_, ?_, hkv⟩
      rw [he]
      simp [convert, run_underlying h1, run_underlying h2, Conv.intToInt]
    · rename_i h1 h2
      obtain ⟨st, he, hkv⟩ := h
      refine rd _ (by rw [hx _ hop]; rfl) ⟨_, ?_, hkv⟩
      rw [he]
      simp [convert, run_underlying h1, run_underlying h2]
    · exact rd _ (by rw [hx _ hop]; rfl) h
    · exact ef _ (by rw [hx _ hop]; rfl) h
  · rename_i t x hop
    have mk : ∀ d, P.underlying t = some d → (∀ ms, d ≠ .interface ms) → k (.iface t (ρ x)) w → o.uponIn (FW ro) n P a next Q ((execOp ρ o).run P w) := by
      intro d hd hni hkv
      refine val _ w ?_ hkv
      rw [hx _ hop]
      simp only [execOp, Instr.makeInterface, Sem.run_bind, run_underlying hd, Result.andThen_ok]
      cases d <;> first | rfl | exact absurd rfl (hni _)
    cases hu : P.underlying t with
    | none => rw [hu] at h; exact h.elim
    | some d =>
      rw [hu] at h
      cases d <;> first | exact h.elim | exact mk _ hu (fun _ hh => by cases hh) h
  · rename_i fn first cap hop
    refine val _ w ?_ h
    rw [hx _ hop]
    simp [execOp, Instr.makeFunc]
  · rename_i t hop
    refine val _ _ ?_ h
    rw [hx _ hop]
    simp only [execOp, Instr.makeMap, Option.map_none, Sem.run_bind, Result.andThen_ok, run_newObj', Sem.run_pure]
  · rename_i t l c hop; exact ef _ (by rw [hx _ hop]; rfl) h
  · rename_i t x lo hi mx hop
    cases mx with
    | some m => exact rd _ (by rw [hx _ hop]; rfl) h
    | none =>
    (try simp only at h)
    split at h
    · rename_i hk
      obtain ⟨s, l, hh, he, hl, hhi, h1, h2, hkv⟩ := h
      refine rd _ (by rw [hx _ hop]; rfl) ⟨_, ?_, hkv⟩
      rw [he]
      unfold Instr.sliceAt
      simp only [Sem.run_bind, run_underlying (kd_str hk), Result.andThen_ok]
      unfold Instr.slice
      simp [Sem.run_bind, run_underlying (kd_str hk), sliceBounds_run hl hhi h1 h2]
    · rename_i sz hk
      obtain ⟨aa, len, cap, l, hh, he, hl, hhi, h1, h2, hkv⟩ := h
      obtain ⟨el, hu, hsz⟩ := kd_slice hk
      refine rd _ (by rw [hx _ hop]; rfl) ⟨_, ?_, hkv⟩
      rw [he]
      unfold Instr.sliceAt
      simp only [Sem.run_bind, run_underlying hu, Result.andThen_ok]
      unfold Instr.slice
      simp [Sem.run_bind, run_underlying hu, sliceBounds_run hl hhi h1 h2, run_sizeK hsz]
    · exact rd _ (by rw [hx _ hop]; rfl) h
  · rename_i t x f hop
    split at h
    · rename_i fs hu
      split at h
      · rename_i fl hf
        split at h
        · rename_i n hn
          obtain ⟨cs, he, hkv⟩ := h
          refine rd _ (by rw [hx _ hop]; rfl) ⟨_, ?_, hkv⟩
          rw [he]
          simp only [Instr.field, Sem.run_bind, run_underlying hu, Result.andThen_ok, hf, asAgg, Sem.run_pure, part, (aggSize_spec hn w).1, (aggSize_spec hn w).2, if_true]
        · cases hs : scal P fl.type with
          | false => rw [hs] at h; exact h.elim
          | true =>
            rw [hs] at h
            obtain ⟨cs, v, he, hv, hkv⟩ := h
            refine rd _ (by rw [hx _ hop]; rfl) ⟨v, ?_, hkv⟩
            rw [he]
            simp [Instr.field, run_underlying hu, hf, asAgg, part, run_isAgg_scal hs, hv]
      · exact h.elim
    · exact h.elim
  · rename_i t x ix hop
    split at h
    · rename_i el hu
      split at h
      · rename_i sz hsz
        obtain ⟨aa, len, cap, kk, n, he, hi, h0, h1, hkv⟩ := h
        refine rd _ (by rw [hx _ hop]; rfl) ⟨_, ?_, hkv⟩
        rw [he, hi]
        simp [Instr.indexAt, asIntOf, run_underlying hu, h0, h1, run_sizeK hsz]
      · exact h.elim
    · rename_i len el hu
      split at h
      · rename_i sz hsz
        obtain ⟨aa, kk, n, he, hi, h0, h1, hkv⟩ := h
        refine rd _ (by rw [hx _ hop]; rfl) ⟨_, ?_, hkv⟩
        rw [he, hi]
        simp [Instr.indexAt, asIntOf, run_underlying hu, h0, h1, run_sizeK hsz, Instr.sureAddr]
      · exact h.elim
    · exact h.elim
  · rename_i t x ix hop
    split at h
    · rename_i hk
      obtain ⟨s, kk, n, b, he, hi, h0, hb, hkv⟩ := h
      refine rd _ (by rw [hx _ hop]; rfl) ⟨_, ?_, hkv⟩
      rw [he, hi]
      simp [Instr.index, asIntOf, run_underlying (kd_str hk), h0, hb]
    · exact rd _ (by rw [hx _ hop]; rfl) h
  · rename_i t x ix ok hop; exact rd _ (by rw [hx _ hop]; rfl) h
  · rename_i t m key x hop
    obtain ⟨v, w', hv, hkv⟩ := h
    refine skp w' ?_ hkv
    rw [hx _ hop]
    simp [execOp, hv]
  · rename_i t m key x hop
    obtain ⟨v, w', hv, hkv⟩ := h
    refine skp w' ?_ hkv
    rw [hx _ hop]
    simp [execOp, hv]
  · rename_i t x hop; exact ef _ (by rw [hx _ hop]; rfl) h
  · rename_i it hop; exact rd _ (by rw [hx _ hop]; rfl) h
  · rename_i it s hop; exact ef _ (by rw [hx _ hop]; rfl) h
  · rename_i x t u ok hop; exact ef _ (by rw [hx _ hop]; rfl) h
  · rename_i c hop
    have bi : ∀ b, c.callee = .builtin b → (execOp ρ o) = builtin b c.argTypes o.type (c.args.map fun | .const _ => true | _ => false) (c.args.map ρ) := by
      intro b hb
      rw [hx _ hop]
      simp only [execOp, resolve, hb]
      rfl
    have arr : ∀ {α : Type} {xs : Array α} {l : List α}, xs.toList = l → xs = l.toArray := by
      intro α xs l h; rw [← h]
    split at h
    · rename_i hb
      split at h
      · rename_i x t hx1 ht1
        have hargs : c.args.map ρ = #[ρ x] := by rw [arr hx1]; simp
        have htys : c.argTypes = #[t] := arr ht1
        split at h
        · rename_i hk
          obtain ⟨s, he, hkv⟩ := h
          refine rd _ (by rw [bi _ hb]; rfl) ⟨_, ?_, hkv⟩
          rw [hargs, htys, he]
          simp [Builtin.len_, run_underlying (kd_str hk), goInt]
        · rename_i m hk
          obtain ⟨aa, n, cc, he, hkv⟩ := h
          obtain ⟨el, hu, _⟩ := kd_slice hk
          refine rd _ (by rw [bi _ hb]; rfl) ⟨_, ?_, hkv⟩
          rw [hargs, htys, he]
          simp [Builtin.len_, run_underlying hu, goInt]
        · exact rd _ (by rw [bi _ hb, hargs, htys]; rfl) h
      · exact h.elim
    · rename_i hb
      split at h
      · rename_i x t hx1 ht1
        have hargs : c.args.map ρ = #[ρ x] := by rw [arr hx1]; simp
        have htys : c.argTypes = #[t] := arr ht1
        split at h
        · rename_i m hk
          obtain ⟨aa, cc, n, he, hkv⟩ := h
          obtain ⟨el, hu, _⟩ := kd_slice hk
          refine rd _ (by rw [bi _ hb]; rfl) ⟨_, ?_, hkv⟩
          rw [hargs, htys, he]
          simp [Builtin.cap_, run_underlying hu, goInt]
        · exact h.elim
      · exact h.elim
    · rename_i hb
      split at h
      · rename_i x y hx1
        have hargs : c.args.map ρ = #[ρ x, ρ y] := by rw [arr hx1]; simp
        obtain ⟨kk, p, q, hp, hq, hkv⟩ := h
        refine rd _ (by rw [bi _ hb]; rfl) ⟨_, ?_, hkv⟩
        rw [hargs, hp, hq]
        simp [Builtin.min_, Builtin.min2]
      · exact h.elim
    · rename_i hb
      split at h
      · rename_i x y hx1
        have hargs : c.args.map ρ = #[ρ x, ρ y] := by rw [arr hx1]; simp
        obtain ⟨kk, p, q, hp, hq, hkv⟩ := h
        refine rd _ (by rw [bi _ hb]; rfl) ⟨_, ?_, hkv⟩
        rw [hargs, hp, hq]
        simp [Builtin.max_, Builtin.max2]
      · exact h.elim
    · rename_i hb; exact ef _ (by rw [bi _ hb]; rfl) h
    · rename_i hb; exact ef _ (by rw [bi _ hb]; rfl) h
    · rename_i hb; exact ef _ (by rw [bi _ hb]; rfl) h
    · rename_i hb; exact ef _ (by rw [bi _ hb]; rfl) h
    · rename_i hb; exact ef _ (by rw [bi _ hb]; rfl) h
    · rename_i hb; exact ef _ (by rw [bi _ hb]; rfl) h
    · exact h.elim
    · rename_i f hb
      cases hf : hasBody P f with
      | false => rw [hf] at h; exact h.elim
      | true =>
        rw [hf] at h
        have hfv : ρ (.func f) = .func (.func f) #[] #[] := by rw [← hr]; rfl
        have : (execOp ρ o).run P w = .ok (.enter f (c.args.map ρ)) w := by
          rw [hx _ hop]
          simp [execOp, resolve, hb, hfv, Deferred.ofValue, invoke, run_callFunc hf]
        rw [this]
        exact Ca.upon h hk
    · rename_i x hnf hb
      rcases h with ⟨f, first, cap, hv, hf, hc⟩ | ⟨L, hv, r, hL, hsz, hR⟩
      · have : (execOp ρ o).run P w = .ok (.enter f (first ++ c.args.map ρ ++ cap)) w := by
          rw [hx _ hop]
          simp [execOp, resolve, hb, hv, Deferred.ofValue, invoke, run_callFunc hf]
        rw [this]
        exact Ca.upon hc hk
      · have : (execOp ρ o).run P w = .ok (.round L r.fn ((r.params.zip (c.args.map ρ)).foldl (fun tmps (t, a) => tmps.setIfInBounds t a) r.tmps) r.assign r.body) w := by
          rw [hx _ hop]
          simp [execOp, resolve, hb, hv, Deferred.ofValue, invoke, run_yield hL hsz]
        rw [this]
        exact ⟨fun h => by simp [FW, Fence.wide] at h, roundIn_fw (hR.mono fun e w' ⟨v, he, hv⟩ => by subst he; exact hk v w' hv)⟩
    · rename_i recv name hb
      obtain ⟨t, v, f, rv, hv, hm, hf, hc⟩ := h
      have : (execOp ρ o).run P w = .ok (.enter f (#[rv] ++ c.args.map ρ)) w := by
        rw [hx _ hop]
        have e0 : (#[ρ recv] ++ c.args.map ρ)[0]? = some (.iface t v) := by rw [hv, Array.getElem?_append_left (by simp)]; rfl
        have e1 : (#[ρ recv] ++ c.args.map ρ).extract 1 (#[ρ recv] ++ c.args.map ρ).size = c.args.map ρ := by
          apply Array.ext'
          simp [List.extract_eq_take_drop]
          rw [List.take_of_length_le (by simp)]
        have e2 : (callMethod (.iface t v) name (c.args.map ρ)).run P w = .ok (.enter f (#[rv] ++ c.args.map ρ)) w := by
          exact run_callMethod hm (run_callFunc hf _ _)
        simp only [execOp, resolve, hb, Sem.run_bind, Sem.run_pure, Result.andThen_ok, invoke]
        rw [e0, e1]
        exact e2
      rw [this]
      exact Ca.upon hc hk
  · exact h.elim

end Go.Sh
