/-
  Trees: Wstat.
-/
import Derived.Test.YtjffgllkfbcaeaaGreatDoorTo5
import Derived.Test.YtjffgllkfbcaeaaGreatDoorSh28
import Derived.Test.YtjffgllkfbcaeaaGreatDoorTn3
namespace Go.Proofs.YtjffgllkfbcaeaaGreatDoor
open Go Go.Sh
set_option maxRecDepth 100000
set_option linter.unusedVariables false
set_option linter.unusedSimpArgs false
variable {w0 w : World} {F : Nat → Prop} {l : List As}
variable {D : List Row} {X : PT} {T : Tr} {β : Int → Nat}

/-- A tree in memory, with its files as one. -/
abbrev opT (X : PT) : List As := [tb X, mp X.fm (.int .i64) X.fM, mp X.gm .str X.gM, mp X.om (.int .i64) X.oM, NT X.ps, DT X.ds]
abbrev wsL (X : PT) (D : List Row) (q : Nat) (d : Dr) (l : List As) : List As := tb X :: mp X.fm (.int .i64) X.fM :: mp X.gm .str X.gM :: mp X.om (.int .i64) X.oM :: NT X.ps :: DT X.ds :: Pool D :: pt q (oc d.cs Ty.api_Dir) :: l
abbrev wsR (X : PT) (n : PN) (rs : List PN) (v : Value) (bs : List Nat) (D : List Row) (q : Nat) (d : Dr) (l : List As) : List As :=
  KM n :: NT rs :: tb X :: slA v Ty.p_tree_node 1 (bs.map ptr) :: mp X.fm (.int .i64) X.fM :: mp X.gm .str X.gM :: mp X.om (.int .i64) X.oM :: DT X.ds :: Pool D :: pt q (oc d.cs Ty.api_Dir) :: l
/-- What a Wstat gives a file but its name. -/
def given1 (d : Dr) (n : Nd) : Nd := { Tr.given d n with name := n.name }

end Go.Proofs.YtjffgllkfbcaeaaGreatDoor

/-
  Trees, plain: what always holds of a tree holds behind a Wstat; every operation as one function.
-/
namespace Go.Proofs.YtjffgllkfbcaeaaGreatDoor
open Go Go.Sh
set_option maxRecDepth 100000
set_option linter.unusedVariables false
set_option linter.unusedSimpArgs false
variable {T : Tr}

end Go.Proofs.YtjffgllkfbcaeaaGreatDoor

/-
  Trees: the keys of maps, in any order.
-/
namespace Go.Proofs.YtjffgllkfbcaeaaGreatDoor
open Go Go.Sh
set_option maxRecDepth 100000
set_option linter.unusedVariables false
set_option linter.unusedSimpArgs false
variable {w0 w : World} {F : Nat → Prop} {l : List As}

abbrev keysSF (a : Nat) : Value := .func (.func Fn.maps_Keys_map_string_p_tree_node_string_p_tree_node_1) #[] #[ptr a]
end Go.Proofs.YtjffgllkfbcaeaaGreatDoor

/-
  Trees: the files of a directory in the order of their names.
-/
namespace Go.Proofs.YtjffgllkfbcaeaaGreatDoor
open Go Go.Sh
set_option maxRecDepth 100000
set_option linter.unusedVariables false
set_option linter.unusedSimpArgs false
variable {w0 w : World} {F : Nat → Prop} {l : List As}
variable {D : List Row} {X : PT} {T : Tr} {β : Int → Nat}

/-- The files of a directory, by their names. -/
def Tr.kidsS (T : Tr) (p : Int) : List Nd := (sortS ((T.kids p).map (·.name))).filterMap (T.kid p)
abbrev sortedF (a : Nat) : Value := .func (.func Fn.tree_node_sorted_1) #[] #[ptr a]
/-- A directory's files in memory, in order. -/
structure KidsL (X : PT) (T : Tr) (p : Int) (L : List PN) : Prop where
  mem : ∀ k ∈ L, k ∈ X.ps
  eq : L.map PN.f = T.kidsS p
end Go.Proofs.YtjffgllkfbcaeaaGreatDoor

/-
  Trees: what is told of the files of a directory.
-/
namespace Go.Proofs.YtjffgllkfbcaeaaGreatDoor
open Go Go.Sh
set_option maxRecDepth 100000
set_option linter.unusedVariables false
set_option linter.unusedSimpArgs false
variable {w0 w : World} {F : Nat → Prop} {l : List As}
variable {D : List Row} {X : PT} {T : Tr} {β : Int → Nat}

theorem u_sl_Dir : PP.underlying Ty.sl_api_Dir = some (.slice Ty.api_Dir) := by kernel_rfl
theorem n_Dir : sizeK PP Ty.api_Dir = some 10 := by kernel_rfl
theorem z_Dir : zeroK PP Ty.api_Dir = some d0.V := by kernel_rfl
theorem BdS.dir {d : Dr} {k : Value → World → Prop} (E : Hs w0 F w l) (hk : ∀ v w', Hs w0 F w' (slA v Ty.api_Dir 10 d.cs :: l) → k v w') : Ef PP (Instr.buildSlice Ty.sl_api_Dir 1 #[(0, d.V)]) w k :=
  BdS.sl E u_sl_Dir n_Dir z_Dir (by omega) (by omega) (xs := d.cs) (by kernel_rfl) rfl hk
/-- What a directory's list tells. -/
def Tr.list (T : Tr) (hd : Int) : List Dr × Int := match T.opened hd with
  | none => ([], 19)
  | some x => match T.get x.file with
    | none => ([], 4)
    | some n => if n.dir = false then ([], 18) else ((T.kidsS n.path).map Nd.stat, 0)
end Go.Proofs.YtjffgllkfbcaeaaGreatDoor

/-
  Name spaces, plain: what the calls of a name space do, on lists, with no program in sight.
-/
namespace Go.Proofs.YtjffgllkfbcaeaaGreatDoor
open Go Go.Sh
set_option maxRecDepth 100000
set_option linter.unusedVariables false
set_option linter.unusedSimpArgs false

/-- A file of a tree of a table. -/
structure Pl where
  t : Nat
  f : Int
  deriving DecidableEq
abbrev Pl.cs (p : Pl) : List Value := [i64 (p.t : Int), i64 p.f]
abbrev Pl.V (p : Pl) : Value := .agg p.cs.toArray
abbrev p0 : Pl := ⟨0, 0⟩
/-- What stands for a place. -/
structure Mt where
  old : Pl
  new : List Pl
  cr : List Bool
  deriving DecidableEq
/-- A table: its trees (by their numbers in the world) and its mounts. -/
structure Tb where
  ts : List Nat
  ms : List Mt
/-- A name space but its table: open files have handles of trees of the world. -/
structure Sp where
  user : BA
  dir : BA
  op : List (Int × List (Nat × Int))
/-- A name space with its table, and all trees of the world. -/
structure Sy where
  Ts : List Tr
  tb : Tb
  sp : Sp
def nulT : Tr := ⟨[], 0, 0, [], []⟩
def idxM (ms : List Mt) (p : Pl) : Nat := ms.findIdx fun m => decide (m.old = p)
def standM (ms : List Mt) (p : Pl) : List Pl × List Bool := match ms[idxM ms p]? with
  | some m => (m.new, m.cr)
  | none => ([p], [true])
/-- The number of a tree in the world. -/
def Tb.ix (tb : Tb) (k : Nat) : Nat := tb.ts.getD k 0
def trW (Ts : List Tr) (i : Nat) : Tr := Ts.getD i nulT
/-- The absolute path. -/
def absA (dir path : BA) : BA := if absP path = true then path else dir ++ sep ++ path
def elemsA (dir path : BA) : List BA × Int := splitP (cleanS (absA dir path))
/-- A name in places: in the first of them that has it. -/
def stepW (Ts : List Tr) (tb : Tb) (user name : BA) : List Pl → Option Int → Pl × Int
  | [], first => (p0, first.getD 0)
  | p :: r, first =>
    let x := (trW Ts (tb.ix p.t)).walk user p.f name
    if x.2 = 0 then (⟨p.t, x.1.path⟩, 0) else stepW Ts tb user name r (some (first.getD x.2))
def walkW (Ts : List Tr) (tb : Tb) (user : BA) : List BA → Pl → Pl × Int
  | [], p => (p, 0)
  | name :: r, p =>
    let x := stepW Ts tb user name (standM tb.ms p).1 none
    if x.2 = 0 then walkW Ts tb user r x.1 else (p0, x.2)
/-- What is new instead of, before or behind what was. -/
def joinW {α : Type} (way : Int) (l was : List α) : List α := if way = 1 then l ++ was else if way = 2 then was ++ l else l
/-- A new mount, or another one for a place. -/
def setM (ms : List Mt) (old : Pl) (l : List Pl) (mark : Bool) (way : Int) : List Mt × Int :=
  let l2 := joinW way l (standM ms old).1
  let c2 := joinW way (List.replicate l.length mark) (standM ms old).2
  if 16 < l2.length ∨ (ms.length ≤ idxM ms old ∧ 64 ≤ ms.length) then (ms, 3) else
  if idxM ms old < ms.length then (ms.set (idxM ms old) ⟨old, l2, c2⟩, 0) else (ms ++ [⟨old, l2, c2⟩], 0)
/-- A flag: its way, its mark, whether it is one. -/
def wayF (flag : Int) : Int := clrI flag 4
def markF (flag : Int) : Bool := decide (andI flag 4 ≠ 0)
def flagOk (flag : Int) : Bool := decide (0 ≤ flag ∧ wayF flag ≤ 2)
/-- Directories one behind the other, each name once. -/
def addD (out : List Dr) (d : Dr) : List Dr := if out.any (fun x => decide (x.name = d.name)) then out else out ++ [d]
/-- The first number that is free. -/
def freeN {α : Type} (L : List (Int × α)) : Nat → Nat → Nat
  | 0, n => n
  | f + 1, n => if (getL L (n : Int)).isSome then freeN L f (n + 1) else n
def closeW (Ts : List Tr) : List (Nat × Int) → Int → List Tr × Int
  | [], first => (Ts, first)
  | (k, h) :: r, first =>
    let x := (trW Ts k).close h
    closeW (Ts.set k x.1) r (if first = 0 then x.2 else first)
def openW (Ts : List Tr) (tb : Tb) (user : BA) (mode : Int) : List Pl → List (Nat × Int) → List Tr × List (Nat × Int) × Int
  | [], out => (Ts, out, 0)
  | p :: r, out =>
    let k := tb.ix p.t
    let x := (trW Ts k).openF user p.f mode
    if x.2.2.2 ≠ 0 then ((closeW (Ts.set k x.1) out 0).1, [], x.2.2.2) else openW (Ts.set k x.1) tb user mode r (out ++ [(k, x.2.1)])
def listW (Ts : List Tr) : List (Nat × Int) → List Dr → List Dr × Int
  | [], out => (out, 0)
  | (k, h) :: r, out =>
    let x := (trW Ts k).list h
    if x.2 ≠ 0 then ([], x.2) else listW Ts r (x.1.foldl addD out)
namespace Sy
def tr (y : Sy) (k : Nat) : Tr := trW y.Ts (y.tb.ix k)
def setT (y : Sy) (k : Nat) (T : Tr) : Sy := { y with Ts := y.Ts.set (y.tb.ix k) T }
def walk (y : Sy) (l : List BA) : Pl × Int := walkW y.Ts y.tb y.sp.user l p0
def elems (y : Sy) (path : BA) : List BA × Int := elemsA y.sp.dir path
def place (y : Sy) (path : BA) : Pl × Int :=
  if (y.elems path).2 ≠ 0 then (p0, (y.elems path).2) else y.walk (y.elems path).1
def where_ (y : Sy) (path : BA) : List Pl × Int :=
  if (y.place path).2 ≠ 0 then ([], (y.place path).2) else ((standM y.tb.ms (y.place path).1).1, 0)
def isDir (y : Sy) (p : Pl) : Bool × Int :=
  let x := (y.tr p.t).stat p.f
  (decide (andI x.1.mode 2147483648 ≠ 0), x.2)
def setMs (y : Sy) (x : List Mt × Int) : Sy × Int := ({ y with tb := { y.tb with ms := x.1 } }, x.2)
def bind (y : Sy) (path old : BA) (flag : Int) : Sy × Int :=
  if flagOk flag = false then (y, 20) else
  let l := y.where_ path
  if l.2 ≠ 0 then (y, l.2) else
  let p := y.place old
  if p.2 ≠ 0 then (y, p.2) else
  let a := y.isDir (l.1.getD 0 p0)
  if a.2 ≠ 0 then (y, a.2) else
  let b := y.isDir p.1
  if b.2 ≠ 0 then (y, b.2) else
  if a.1 ≠ b.1 ∨ (wayF flag ≠ 0 ∧ b.1 = false) then (y, 18) else
  if wayF flag ≠ 0 ∧ l.1.any (fun x => decide (x ∈ (standM y.tb.ms p.1).1)) = true then (y, 5) else
  y.setMs (setM y.tb.ms p.1 l.1 (markF flag) (wayF flag))
def mount (y : Sy) (k : Option Nat) (old : BA) (flag : Int) : Sy × Int :=
  match k with
  | none => (y, 1)
  | some k =>
    if flagOk flag = false then (y, 20) else
    let p := y.place old
    if p.2 ≠ 0 then (y, p.2) else
    let b := y.isDir p.1
    if b.2 ≠ 0 then (y, b.2) else
    if b.1 = false then (y, 18) else
    if 32 ≤ y.tb.ts.length then (y, 3) else
    let x := setM y.tb.ms p.1 [⟨y.tb.ts.length, 0⟩] (markF flag) (wayF flag)
    if x.2 ≠ 0 then (y, x.2) else
    ({ y with tb := ⟨y.tb.ts ++ [k], x.1⟩ }, 0)
def unmount (y : Sy) (path old : BA) : Sy × Int :=
  let p := y.place old
  if p.2 ≠ 0 then (y, p.2) else
  let i := idxM y.tb.ms p.1
  let q := y.place path
  if path ≠ emp ∧ q.2 ≠ 0 then (y, q.2) else
  match y.tb.ms[i]? with
  | none => (y, 23)
  | some m =>
    if path = emp then y.setMs (y.tb.ms.eraseIdx i, 0) else
    if q.1 ∉ m.new then (y, 23) else
    let n := m.new.eraseIdx (m.new.idxOf q.1)
    if n ≠ [] ∧ n ≠ [p.1] then y.setMs (y.tb.ms.set i ⟨m.old, n, m.cr.eraseIdx (m.new.idxOf q.1)⟩, 0) else
    y.setMs (y.tb.ms.eraseIdx i, 0)
def chdir (y : Sy) (path : BA) : Sy × Int :=
  let l := y.where_ path
  if l.2 ≠ 0 then (y, l.2) else
  let p := l.1.getD 0 p0
  let b := y.isDir p
  if b.2 ≠ 0 then (y, b.2) else
  if b.1 = false then (y, 18) else
  let w := (y.tr p.t).walk y.sp.user p.f dot1
  if w.2 ≠ 0 then (y, w.2) else
  ({ y with sp := { y.sp with dir := cleanS (absA y.sp.dir path) } }, 0)
def stat (y : Sy) (path : BA) : Dr × Int :=
  let l := y.where_ path
  if l.2 ≠ 0 then (d0, l.2) else
  let p := l.1.getD 0 p0
  (y.tr p.t).stat p.f
def wstat (y : Sy) (path : BA) (d : Dr) : Sy × Int :=
  let p := y.place path
  if p.2 ≠ 0 then (y, p.2) else
  let x := (y.tr p.1.t).wstat y.sp.user p.1.f d
  (y.setT p.1.t x.1, x.2)
def remove (y : Sy) (path : BA) : Sy × Int :=
  let p := y.place path
  if p.2 ≠ 0 then (y, p.2) else
  if idxM y.tb.ms p.1 < y.tb.ms.length then (y, 23) else
  let x := (y.tr p.1.t).remove y.sp.user p.1.f
  (y.setT p.1.t x.1, x.2)
/-- A new open file. -/
def add (y : Sy) (l : List (Nat × Int)) : Sy × Int :=
  let n : Int := (freeN y.sp.op (y.sp.op.length + 1) 0 : Nat)
  ({ y with sp := { y.sp with op := putL y.sp.op n l } }, n)
def openF (y : Sy) (path : BA) (mode : Int) : Sy × Int × Int :=
  let l := y.where_ path
  if l.2 ≠ 0 then (y, 0, l.2) else
  let b := y.isDir (l.1.getD 0 p0)
  if b.2 ≠ 0 then (y, 0, b.2) else
  if 64 ≤ y.sp.op.length then (y, 0, 3) else
  let x := openW y.Ts y.tb y.sp.user mode (if b.1 = true then l.1 else l.1.take 1) []
  if x.2.2 ≠ 0 then ({ y with Ts := x.1 }, 0, x.2.2) else
  let z := add { y with Ts := x.1 } x.2.1
  (z.1, z.2, 0)
def create (y : Sy) (path : BA) (perm mode : Int) : Sy × Int × Int :=
  let l := y.elems path
  if l.2 ≠ 0 then (y, 0, l.2) else
  if (y.walk l.1).2 = 0 then (y, 0, 5) else
  let p := y.walk l.1.dropLast
  if p.2 ≠ 0 then (y, 0, p.2) else
  let s := standM y.tb.ms p.1
  if true ∉ s.2 then (y, 0, 17) else
  if 64 ≤ y.sp.op.length then (y, 0, 3) else
  let q := s.1.getD (s.2.idxOf true) p0
  let x := (y.tr q.t).create y.sp.user q.f (l.1.getLast?.getD emp) perm mode
  if x.2.2.2 ≠ 0 then (y.setT q.t x.1, 0, x.2.2.2) else
  let z := add (y.setT q.t x.1) [(y.tb.ix q.t, x.2.1)]
  (z.1, z.2, 0)
def opened (y : Sy) (n : Int) : List (Nat × Int) × Int := match getL y.sp.op n with
  | none => ([], 19)
  | some l => (l, 0)
/-- The handle of an open file that has one. -/
def single (y : Sy) (n : Int) : (Nat × Int) × Int :=
  if (y.opened n).2 ≠ 0 then ((0, 0), (y.opened n).2) else
  if 1 < (y.opened n).1.length then ((0, 0), 18) else ((y.opened n).1.getD 0 (0, 0), 0)
def read (y : Sy) (n off count : Int) : BA × Int :=
  let h := y.single n
  if h.2 ≠ 0 then (emp, h.2) else (trW y.Ts h.1.1).read h.1.2 off count
def write (y : Sy) (n off : Int) (d : BA) : Sy × Int × Int :=
  let h := y.single n
  if h.2 ≠ 0 then (y, 0, h.2) else
  let x := (trW y.Ts h.1.1).write h.1.2 off d
  ({ y with Ts := y.Ts.set h.1.1 x.1 }, x.2.1, x.2.2)
def list (y : Sy) (n : Int) : List Dr × Int :=
  let l := y.opened n
  if l.2 ≠ 0 then ([], l.2) else listW y.Ts l.1 []
def close (y : Sy) (n : Int) : Sy × Int :=
  let l := y.opened n
  if l.2 ≠ 0 then (y, l.2) else
  let x := closeW y.Ts l.1 0
  ({ y with Ts := x.1, sp := { y.sp with op := delL y.sp.op n } }, x.2)
end Sy
/-- A call. -/
structure Xa where
  kind : Int
  number : Int
  flag : Int
  path : BA
  old : BA
  data : BA
  perm : Int
  offset : Int
  dir : Dr
/-- What a call returns. -/
structure Ra where
  number : Int := 0
  text : BA := emp
  dirs : List Dr := []
  places : List Pl := []
  errno : Int := 0
/-- The tree that is mounted. -/
def Xa.tree (x : Xa) (n : Nat) : Option Nat := if 0 ≤ x.number ∧ x.number < n then some x.number.toNat else none
def Sy.act (y : Sy) (x : Xa) : Sy × Ra :=
  if x.kind = 0 then ((y.bind x.path x.old x.flag).1, { errno := (y.bind x.path x.old x.flag).2 }) else
  if x.kind = 1 then ((y.mount (x.tree y.Ts.length) x.old x.flag).1, { errno := (y.mount (x.tree y.Ts.length) x.old x.flag).2 }) else
  if x.kind = 2 then ((y.unmount x.path x.old).1, { errno := (y.unmount x.path x.old).2 }) else
  if x.kind = 3 then ((y.chdir x.path).1, { errno := (y.chdir x.path).2 }) else
  if x.kind = 4 then (y, { dirs := [(y.stat x.path).1], errno := (y.stat x.path).2 }) else
  if x.kind = 5 then ((y.wstat x.path x.dir).1, { errno := (y.wstat x.path x.dir).2 }) else
  if x.kind = 6 then ((y.openF x.path x.flag).1, { number := (y.openF x.path x.flag).2.1, errno := (y.openF x.path x.flag).2.2 }) else
  if x.kind = 7 then ((y.create x.path x.perm x.flag).1, { number := (y.create x.path x.perm x.flag).2.1, errno := (y.create x.path x.perm x.flag).2.2 }) else
  if x.kind = 8 then (y, { text := (y.read x.number x.offset x.flag).1, errno := (y.read x.number x.offset x.flag).2 }) else
  if x.kind = 9 then (y, { dirs := (y.list x.number).1, errno := (y.list x.number).2 }) else
  if x.kind = 10 then ((y.write x.number x.offset x.data).1, { number := (y.write x.number x.offset x.data).2.1, errno := (y.write x.number x.offset x.data).2.2 }) else
  if x.kind = 11 then ((y.close x.number).1, { errno := (y.close x.number).2 }) else
  if x.kind = 12 then ((y.remove x.path).1, { errno := (y.remove x.path).2 }) else
  if x.kind = 13 then (y, { places := (y.where_ x.path).1, errno := (y.where_ x.path).2 }) else (y, {})
end Go.Proofs.YtjffgllkfbcaeaaGreatDoor

/-
  Name spaces, plain: what always holds of them.
-/
namespace Go.Proofs.YtjffgllkfbcaeaaGreatDoor
open Go Go.Sh
set_option maxRecDepth 100000
set_option linter.unusedVariables false
set_option linter.unusedSimpArgs false

/-- What holds of a table: k trees, 'n' trees in the world. -/
structure MtI (k : Nat) (m : Mt) : Prop where
  ne : m.new ≠ []
  few : m.new.length ≤ 16
  cr : m.cr.length = m.new.length
  old : m.old.t < k
  new : ∀ p ∈ m.new, p.t < k
structure TbI (n : Nat) (tb : Tb) : Prop where
  ne : tb.ts ≠ []
  ts : tb.ts.length ≤ 32
  ix : ∀ k ∈ tb.ts, k < n
  ms : tb.ms.length ≤ 64
  m : ∀ m ∈ tb.ms, MtI tb.ts.length m
structure SpI (n : Nat) (sp : Sp) : Prop where
  user : sp.user.size ≤ 1000
  dir : sp.dir.size ≤ 2000
  few : sp.op.length ≤ 64
  nd : (sp.op.map (·.1)).Nodup
  op : ∀ x ∈ sp.op, 0 ≤ x.1 ∧ x.2 ≠ [] ∧ x.2.length ≤ 16 ∧ ∀ y ∈ x.2, y.1 < n
def TsI (N : Int) (Ts : List Tr) : Prop := ∀ T ∈ Ts, Inv T ∧ Lim N T
structure SyI (N : Int) (y : Sy) : Prop where
  t : TsI N y.Ts
  tb : TbI y.Ts.length y.tb
  sp : SpI y.Ts.length y.sp

theorem trW_mem {Ts : List Tr} {k : Nat} (h : k < Ts.length) : trW Ts k ∈ Ts := by
  unfold trW
  rw [List.getD_eq_getElem?_getD, List.getElem?_eq_getElem h]
  exact List.getElem_mem h
theorem TbI.pos {n : Nat} {tb : Tb} (h : TbI n tb) : 0 < tb.ts.length := List.length_pos_iff.2 h.ne
theorem TbI.ixLt {n : Nat} {tb : Tb} (h : TbI n tb) {k : Nat} (hk : k < tb.ts.length) : tb.ix k < n := by
  unfold Tb.ix
  rw [List.getD_eq_getElem?_getD, List.getElem?_eq_getElem hk]
  exact h.ix _ (List.getElem_mem hk)
theorem TsI.mono {N M : Int} {Ts : List Tr} (h : TsI N Ts) (hm : N ≤ M) : TsI M Ts := fun T hT => ⟨(h T hT).1, (h T hT).2.mono hm⟩
theorem TsI.set {N : Int} {Ts : List Tr} (h : TsI N Ts) {k : Nat} {T : Tr} (h1 : Inv T) (h2 : Lim (N + 3) T) : TsI (N + 3) (Ts.set k T) := by
  intro U hU
  rcases List.mem_or_eq_of_mem_set hU with h3 | rfl
  · exact ⟨(h U h3).1, (h U h3).2.mono (by omega)⟩
  · exact ⟨h1, h2⟩
theorem stand_ok {n : Nat} {tb : Tb} (h : TbI n tb) {p : Pl} (hp : p.t < tb.ts.length) :
    (standM tb.ms p).1 ≠ [] ∧ (standM tb.ms p).1.length ≤ 16 ∧ (standM tb.ms p).2.length = (standM tb.ms p).1.length ∧ ∀ q ∈ (standM tb.ms p).1, q.t < tb.ts.length := by
  unfold standM
  cases hm : tb.ms[idxM tb.ms p]? with
  | none => exact ⟨by simp, by simp, rfl, fun q hq => by rw [List.mem_singleton.1 hq]; exact hp⟩
  | some m =>
    have := h.m m (List.mem_of_getElem? hm)
    exact ⟨this.ne, this.few, this.cr, this.new⟩
theorem stepW_ok {Ts : List Tr} {tb : Tb} {user name : BA} : ∀ {l : List Pl} {first : Option Int}, (∀ e, first = some e → e ≠ 0) → (l = [] → first ≠ none) →
    ((stepW Ts tb user name l first).2 = 0 → ∃ p ∈ l, (stepW Ts tb user name l first).1.t = p.t)
  | [], first, h1, h2, h => by
    cases first with
    | none => exact absurd rfl (h2 rfl)
    | some e => exact absurd h (h1 e rfl)
  | p :: r, first, h1, h2, h => by
    unfold stepW at h ⊢
    simp only [] at h ⊢
    split at h
    · rename_i he
      rw [if_pos he]
      exact ⟨p, List.mem_cons_self, rfl⟩
    · rename_i he
      rw [if_neg he]
      obtain ⟨q, hq, h3⟩ := stepW_ok (l := r) (first := some (first.getD ((trW Ts (tb.ix p.t)).walk user p.f name).2)) (fun e h4 => by
        cases h4
        cases first with
        | none => exact he
        | some e => exact h1 e rfl) (fun _ h4 => by cases h4) h
      exact ⟨q, List.mem_cons_of_mem _ hq, h3⟩
theorem walkW_ok {n : Nat} {Ts : List Tr} {tb : Tb} (h : TbI n tb) {user : BA} : ∀ {l : List BA} {p : Pl}, p.t < tb.ts.length → (walkW Ts tb user l p).1.t < tb.ts.length
  | [], p, hp => hp
  | name :: r, p, hp => by
    unfold walkW
    simp only []
    have hs := stand_ok h hp
    split
    · rename_i he
      refine walkW_ok h ?_
      obtain ⟨q, hq, h3⟩ := stepW_ok (fun e h4 => by cases h4) (fun h4 => absurd h4 hs.1) he
      rw [h3]
      exact hs.2.2.2 q hq
    · exact h.pos
theorem place_ok {N : Int} {y : Sy} (h : SyI N y) (path : BA) : (y.place path).1.t < y.tb.ts.length := by
  unfold Sy.place
  split
  · exact h.tb.pos
  · exact walkW_ok h.tb h.tb.pos
theorem where_ok {N : Int} {y : Sy} (h : SyI N y) (path : BA) : (y.where_ path).1.length ≤ 16 ∧ (∀ q ∈ (y.where_ path).1, q.t < y.tb.ts.length) ∧ ((y.where_ path).2 = 0 → (y.where_ path).1 ≠ []) := by
  unfold Sy.where_
  have hs := stand_ok h.tb (place_ok h path)
  split
  · rename_i he
    exact ⟨Nat.zero_le _, (fun q hq => by cases hq), fun h4 => absurd h4 he⟩
  · exact ⟨hs.2.1, hs.2.2.2, fun _ => hs.1⟩
theorem getD_mem {α : Type} {l : List α} {i : Nat} (h : i < l.length) (d : α) : l.getD i d ∈ l := by
  rw [List.getD_eq_getElem?_getD, List.getElem?_eq_getElem h]
  exact List.getElem_mem h
theorem head_ok {N : Int} {y : Sy} (h : SyI N y) {path : BA} (he : (y.where_ path).2 = 0) : ((y.where_ path).1.getD 0 p0).t < y.tb.ts.length := by
  have hw := where_ok h path
  exact hw.2.1 _ (getD_mem (List.length_pos_iff.2 (hw.2.2 he)) _)
theorem setM_ok {n : Nat} {tb : Tb} (h : TbI n tb) {old : Pl} {l : List Pl} {mark : Bool} {way : Int} {k : Nat} (hk : tb.ts.length ≤ k) (ho : old.t < tb.ts.length) (h0 : l ≠ []) (hl : ∀ p ∈ l, p.t < k) :
    (setM tb.ms old l mark way).1.length ≤ 64 ∧ ∀ m ∈ (setM tb.ms old l mark way).1, MtI k m := by
  have keep : ∀ m ∈ tb.ms, MtI k m := fun m hm => by
    have := h.m m hm
    exact ⟨this.ne, this.few, this.cr, by have := this.old; omega, fun p hp => by have := this.new p hp; omega⟩
  obtain ⟨s1, s2, s3, s4⟩ := stand_ok h ho
  unfold setM
  simp only []
  have hne : joinW way l (standM tb.ms old).1 ≠ [] := by
    unfold joinW
    split
    · simp [h0]
    · split <;> simp [h0]
  have hmem : ∀ p ∈ joinW way l (standM tb.ms old).1, p.t < k := by
    intro p hp
    unfold joinW at hp
    split at hp
    · rcases List.mem_append.1 hp with hp | hp
      · exact hl p hp
      · have := s4 p hp; omega
    · split at hp
      · rcases List.mem_append.1 hp with hp | hp
        · have := s4 p hp; omega
        · exact hl p hp
      · exact hl p hp
  have hlen : (joinW way (List.replicate l.length mark) (standM tb.ms old).2).length = (joinW way l (standM tb.ms old).1).length := by
    unfold joinW
    split
    · simp [s3]
    · split <;> simp [s3]
  generalize joinW way l (standM tb.ms old).1 = l2 at *
  generalize joinW way (List.replicate l.length mark) (standM tb.ms old).2 = c2 at *
  split
  · exact ⟨h.ms, keep⟩
  · rename_i hc
    rw [not_or] at hc
    have hm : MtI k ⟨old, l2, c2⟩ := ⟨hne, Nat.not_lt.1 hc.1, hlen, by show old.t < k; omega, hmem⟩
    split
    · refine ⟨by rw [List.length_set]; exact h.ms, fun m h1 => ?_⟩
      rcases List.mem_or_eq_of_mem_set h1 with h2 | rfl
      · exact keep m h2
      · exact hm
    · rename_i hi
      refine ⟨by rw [List.length_append]; have := hc.2; simp only [List.length_singleton]; omega, fun m h1 => ?_⟩
      rcases List.mem_append.1 h1 with h2 | h2
      · exact keep m h2
      · rw [List.mem_singleton.1 h2]; exact hm
theorem SyI.ms {N : Int} {y : Sy} (h : SyI N y) {ms : List Mt} (h1 : ms.length ≤ 64) (h2 : ∀ m ∈ ms, MtI y.tb.ts.length m) : SyI N { y with tb := { y.tb with ms := ms } } :=
  ⟨h.t, ⟨h.tb.ne, h.tb.ts, h.tb.ix, h1, h2⟩, h.sp⟩
theorem bind_inv {N : Int} {y : Sy} (h : SyI N y) (path old : BA) (flag : Int) : SyI N (y.bind path old flag).1 := by
  unfold Sy.bind
  simp only []
  repeat' split
  all_goals first | exact h | skip
  rename_i h1 h2 h3 h4 h5 h6
  have hw := where_ok h path
  have hs := setM_ok h.tb (k := y.tb.ts.length) (mark := markF flag) (way := wayF flag) (Nat.le_refl _) (place_ok h old) (hw.2.2 (by simpa using ‹¬ (y.where_ path).2 ≠ 0›)) hw.2.1
  exact h.ms hs.1 hs.2
end Go.Proofs.YtjffgllkfbcaeaaGreatDoor

/-
  Name spaces, plain: what a call leaves as it is.
-/
namespace Go.Proofs.YtjffgllkfbcaeaaGreatDoor
open Go Go.Sh
set_option maxRecDepth 100000
set_option linter.unusedVariables false
set_option linter.unusedSimpArgs false
variable {y : Sy}

theorem setM_err {ms : List Mt} {old : Pl} {l : List Pl} {mark : Bool} {way : Int} (h : (setM ms old l mark way).2 ≠ 0) : (setM ms old l mark way).1 = ms := by
  unfold setM at h ⊢
  simp only [] at h ⊢
  split
  · rfl
  · rename_i h1
    rw [if_neg h1] at h
    split at h <;> exact absurd rfl h
theorem bind_err0 (path old : BA) (flag : Int) : (y.bind path old flag).2 = 0 ∨ (y.bind path old flag).1 = y := by
  unfold Sy.bind
  simp only []
  repeat' split
  all_goals first | exact .inr rfl | skip
  unfold Sy.setMs
  by_cases h : (setM y.tb.ms (y.place old).1 (y.where_ path).1 (markF flag) (wayF flag)).2 = 0
  · exact .inl h
  · exact .inr (by rw [setM_err h])
theorem bind_err {path old : BA} {flag : Int} (h : (y.bind path old flag).2 ≠ 0) : (y.bind path old flag).1 = y := (bind_err0 path old flag).resolve_left h
end Go.Proofs.YtjffgllkfbcaeaaGreatDoor

/-
  Name spaces, plain: what always holds of them, behind each call.
-/
namespace Go.Proofs.YtjffgllkfbcaeaaGreatDoor
open Go Go.Sh
set_option maxRecDepth 100000
set_option linter.unusedVariables false
set_option linter.unusedSimpArgs false
variable {N : Int} {y : Sy}

theorem SyI.setTs {M : Int} {Ts : List Tr} (h : SyI N y) (h1 : TsI M Ts) (h2 : Ts.length = y.Ts.length) : SyI M { y with Ts := Ts } :=
  ⟨h1, by rw [h2]; exact h.tb, by rw [h2]; exact h.sp⟩
theorem SyI.mono {M : Int} (h : SyI N y) (hm : N ≤ M) : SyI M y := ⟨h.t.mono hm, h.tb, h.sp⟩
theorem closeW_ok : ∀ {l : List (Nat × Int)} {Ts : List Tr} {first : Int} {N : Int}, TsI N Ts → (∀ x ∈ l, x.1 < Ts.length) →
    TsI (N + 3 * l.length) (closeW Ts l first).1 ∧ (closeW Ts l first).1.length = Ts.length
  | [], Ts, first, N, h, _ => ⟨h.mono (by simp), rfl⟩
  | (k, hd) :: r, Ts, first, N, h, hl => by
    have hT := h _ (trW_mem (hl (k, hd) List.mem_cons_self))
    unfold closeW
    have ih := closeW_ok (l := r) (Ts := Ts.set k ((trW Ts k).close hd).1) (first := if first = 0 then ((trW Ts k).close hd).2 else first) (h.set (k := k) (close_inv hT.1 hd) (close_lim hT.2 hd)) (fun x hx => by rw [List.length_set]; exact hl x (List.mem_cons_of_mem _ hx))
    rw [List.length_set] at ih
    refine ⟨ih.1.mono ?_, ih.2⟩
    rw [List.length_cons]
    omega
theorem openW_ok {n : Nat} {tb : Tb} {user : BA} {mode : Int} (htb : TbI n tb) : ∀ {l : List Pl} {out : List (Nat × Int)} {Ts : List Tr} {N : Int}, Ts.length = n → TsI N Ts → (∀ p ∈ l, p.t < tb.ts.length) → (∀ x ∈ out, x.1 < n) →
    TsI (N + 3 * (2 * l.length + out.length)) (openW Ts tb user mode l out).1 ∧ (openW Ts tb user mode l out).1.length = n ∧ (∀ x ∈ (openW Ts tb user mode l out).2.1, x.1 < n) ∧
    ((openW Ts tb user mode l out).2.2 = 0 → (openW Ts tb user mode l out).2.1.length = out.length + l.length)
  | [], out, Ts, N, hn, h, _, ho => ⟨h.mono (by simp; omega), hn, ho, fun _ => rfl⟩
  | p :: r, out, Ts, N, hn, h, hl, ho => by
    have hk := htb.ixLt (hl p List.mem_cons_self)
    have hT := h _ (trW_mem (by rw [hn]; exact hk))
    have hs := h.set (k := tb.ix p.t) (open_inv hT.1 user p.f mode) (open_lim hT.2 user p.f mode)
    unfold openW
    simp only []
    split
    · rename_i he
      have hc := closeW_ok (l := out) (first := 0) hs (fun x hx => by rw [List.length_set, hn]; exact ho x hx)
      rw [List.length_set] at hc
      refine ⟨hc.1.mono ?_, by rw [hc.2, hn], (fun x hx => by cases hx), fun h1 => absurd h1 he⟩
      rw [List.length_cons]
      omega
    · have ih := openW_ok (user := user) (mode := mode) htb (l := r) (out := out ++ [(tb.ix p.t, ((trW Ts (tb.ix p.t)).openF user p.f mode).2.1)]) (by rw [List.length_set, hn]) hs (fun q hq => hl q (List.mem_cons_of_mem _ hq)) (fun x hx => by
        rcases List.mem_append.1 hx with hx | hx
        · exact ho x hx
        · rw [List.mem_singleton.1 hx]; exact hk)
      refine ⟨ih.1.mono ?_, ih.2.1, ih.2.2.1, fun h1 => ?_⟩
      · rw [List.length_cons, List.length_append, List.length_singleton]
        omega
      · rw [ih.2.2.2 h1, List.length_append, List.length_singleton, List.length_cons]
        omega
theorem freeN_ok {α : Type} (L : List (Int × α)) : ∀ (f n : Nat), L.length < f + (L.filter fun x => decide (0 ≤ x.1 ∧ x.1 < (n : Int))).length → (L.map (·.1)).Nodup → getL L (freeN L f n : Nat) = none ∧ n ≤ freeN L f n ∧ ∀ j : Nat, n ≤ j → j < freeN L f n → (getL L (j : Int)).isSome
  | 0, n, h, _ => by
    have := List.length_filter_le (fun x : Int × α => decide (0 ≤ x.1 ∧ x.1 < (n : Int))) L
    omega
  | f + 1, n, h, hn => by
    unfold freeN
    split
    · rename_i hs
      obtain ⟨v, hv⟩ := Option.isSome_iff_exists.1 hs
      have hm : ((n : Int), v) ∈ L := (getL_some hn).1 hv
      have hlt : (L.filter fun x => decide (0 ≤ x.1 ∧ x.1 < (n : Int))).length < (L.filter fun x => decide (0 ≤ x.1 ∧ x.1 < ((n + 1 : Nat) : Int))).length := by
        have key : ∀ L : List (Int × α), ((n : Int), v) ∈ L → (L.filter fun x => decide (0 ≤ x.1 ∧ x.1 < (n : Int))).length < (L.filter fun x => decide (0 ≤ x.1 ∧ x.1 < ((n + 1 : Nat) : Int))).length := by
          have le : ∀ L : List (Int × α), (L.filter fun x => decide (0 ≤ x.1 ∧ x.1 < (n : Int))).length ≤ (L.filter fun x => decide (0 ≤ x.1 ∧ x.1 < ((n + 1 : Nat) : Int))).length := by
            intro L
            induction L with
            | nil => exact Nat.le_refl _
            | cons x r ih =>
              rw [List.filter_cons, List.filter_cons]
              by_cases h1 : 0 ≤ x.1 ∧ x.1 < (n : Int)
              · rw [if_pos (by simpa using h1), if_pos (by simp; omega)]; simpa using ih
              · rw [if_neg (by simpa using h1)]
                split
                · rw [List.length_cons]; omega
                · exact ih
          intro L
          induction L with
          | nil => intro h; cases h
          | cons x r ih =>
            intro hm
            rw [List.filter_cons, List.filter_cons]
            rcases List.mem_cons.1 hm with rfl | hm
            · rw [if_neg (by simp), if_pos (by simp; omega), List.length_cons]
              have := le r
              omega
            · have := ih hm
              by_cases h1 : 0 ≤ x.1 ∧ x.1 < (n : Int)
              · rw [if_pos (by simpa using h1), if_pos (by simp; omega)]; simpa using this
              · rw [if_neg (by simpa using h1)]
                split
                · rw [List.length_cons]; omega
                · exact this
        exact key L hm
      obtain ⟨g1, g2, g3⟩ := freeN_ok L f (n + 1) (by omega) hn
      refine ⟨g1, by omega, fun j h1 h2 => ?_⟩
      by_cases hj : j = n
      · rw [hj]; exact hs
      · exact g3 j (by omega) h2
    · rename_i hs
      refine ⟨by simpa using hs, Nat.le_refl _, fun j h1 h2 => by omega⟩
theorem putL_len {α : Type} {L : List (Int × α)} {k : Int} {v : α} (h : getL L k = none) : (putL L k v).length = L.length + 1 ∧ (putL L k v).map (·.1) = L.map (·.1) ++ [k] ∧ ∀ x ∈ putL L k v, x ∈ L ∨ x = (k, v) := by
  have hk := getL_none.1 h
  clear h
  induction L with
  | nil => exact ⟨rfl, rfl, fun x hx => .inr (List.mem_singleton.1 hx)⟩
  | cons p r ih =>
    rw [List.map_cons, List.mem_cons, not_or] at hk
    unfold putL
    rw [if_neg hk.1]
    obtain ⟨h1, h2, h3⟩ := ih hk.2
    refine ⟨by rw [List.length_cons, h1]; rfl, by rw [List.map_cons, h2]; rfl, fun x hx => ?_⟩
    rcases List.mem_cons.1 hx with rfl | hx
    · exact .inl List.mem_cons_self
    · exact (h3 x hx).imp (List.mem_cons_of_mem _) id
theorem add_inv (h : SyI N y) (h64 : y.sp.op.length < 64) {l : List (Nat × Int)} (h0 : l ≠ []) (h16 : l.length ≤ 16) (hl : ∀ x ∈ l, x.1 < y.Ts.length) : SyI N (y.add l).1 := by
  have hf := freeN_ok y.sp.op (y.sp.op.length + 1) 0 (by omega) h.sp.nd
  obtain ⟨h1, h2, h3⟩ := putL_len (v := l) hf.1
  refine ⟨h.t, h.tb, ⟨h.sp.user, h.sp.dir, ?_, ?_, fun x hx => ?_⟩⟩
  · show (putL _ _ _).length ≤ 64
    rw [h1]; omega
  · show ((putL _ _ _).map _).Nodup
    rw [h2, List.nodup_append]
    refine ⟨h.sp.nd, by simp, fun a ha b hb hab => ?_⟩
    rw [List.mem_singleton.1 hb] at hab
    rw [hab] at ha
    exact getL_none.1 hf.1 ha
  · rcases h3 x hx with h4 | rfl
    · exact h.sp.op x h4
    · exact ⟨Int.natCast_nonneg _, h0, h16, hl⟩
theorem open_invS (h : SyI N y) (path : BA) (mode : Int) : SyI (N + 100) (y.openF path mode).1 := by
  unfold Sy.openF
  simp only []
  split
  · exact h.mono (by omega)
  rename_i h1
  have hw := where_ok h path
  split
  · exact h.mono (by omega)
  split
  · exact h.mono (by omega)
  rename_i h2 h3
  generalize hL : (if (y.isDir ((y.where_ path).1.getD 0 p0)).1 = true then (y.where_ path).1 else (y.where_ path).1.take 1) = L
  have hne : (y.where_ path).1 ≠ [] := hw.2.2 (Decidable.not_not.1 h1)
  have hLl : L.length ≤ 16 ∧ L ≠ [] ∧ ∀ p ∈ L, p.t < y.tb.ts.length := by
    rw [← hL]
    split
    · exact ⟨hw.1, hne, hw.2.1⟩
    · refine ⟨by rw [List.length_take]; omega, ?_, fun p hp => hw.2.1 p (List.mem_of_mem_take hp)⟩
      cases hx : (y.where_ path).1 with
      | nil => exact absurd hx hne
      | cons a b => simp
  obtain ⟨o1, o2, o3, o4⟩ := openW_ok (user := y.sp.user) (mode := mode) h.tb (l := L) (out := []) rfl h.t hLl.2.2 (fun x hx => by cases hx)
  have o1 : TsI (N + 100) (openW y.Ts y.tb y.sp.user mode L []).1 := o1.mono (by have := hLl.1; simp only [List.length_nil]; omega)
  split
  · exact h.setTs o1 o2
  · rename_i h4
    have hl := o4 (Decidable.not_not.1 h4)
    rw [List.length_nil, Nat.zero_add] at hl
    refine add_inv (h.setTs o1 o2) (by show y.sp.op.length < 64; omega) ?_ (by rw [hl]; exact hLl.1) (fun x hx => by show x.1 < (openW y.Ts y.tb y.sp.user mode L []).1.length; rw [o2]; exact o3 x hx)
    intro h5
    rw [h5] at hl
    exact hLl.2.1 (List.length_eq_zero_iff.1 hl.symm)
theorem openedS_ok (h : SyI N y) (n : Int) : ((y.opened n).2 = 0 → (y.opened n).1 ≠ []) ∧ (y.opened n).1.length ≤ 16 ∧ ∀ x ∈ (y.opened n).1, x.1 < y.Ts.length := by
  unfold Sy.opened
  cases hg : getL y.sp.op n with
  | none => exact ⟨fun h1 => absurd h1 (by decide), Nat.zero_le _, fun x hx => by cases hx⟩
  | some l =>
    have := h.sp.op _ ((getL_some h.sp.nd).1 hg)
    exact ⟨fun _ => this.2.1, this.2.2.1, this.2.2.2⟩
theorem singleS_ok (h : SyI N y) {n : Int} (he : (y.single n).2 = 0) : (y.single n).1.1 < y.Ts.length := by
  obtain ⟨h1, h2, h3⟩ := openedS_ok h n
  unfold Sy.single at he ⊢
  split at he
  · rename_i h4
    exact absurd he h4
  · rename_i h4
    rw [if_neg h4]
    split at he
    · exact absurd he (by decide)
    · rename_i h5
      rw [if_neg h5]
      exact h3 _ (getD_mem (List.length_pos_iff.2 (h1 (Decidable.not_not.1 h4))) _)
end Go.Proofs.YtjffgllkfbcaeaaGreatDoor

/-
  Name spaces: trees, tables and name spaces in memory.
-/
namespace Go.Proofs.YtjffgllkfbcaeaaGreatDoor
open Go Go.Sh
set_option maxRecDepth 100000
set_option linter.unusedVariables false
set_option linter.unusedSimpArgs false
variable {w0 w : World} {F : Nat → Prop} {l : List As}

theorem Tie.monoD {D D' : List Row} {X : PT} {T : Tr} {β : Int → Nat} (h : Tie D X T β) (hD : ∀ x ∈ D, x ∈ D') : Tie D' X T β :=
  ⟨h.ns, h.clock, h.next, fun n hn => (h.data n hn).mono hD, h.ub, h.kl, h.fl, h.root, ⟨fun g => by
    have := h.gs.at_ g
    revert this
    cases getL T.gs g with
    | none => exact id
    | some us => rintro ⟨h1, v, h2, h3⟩; exact ⟨h1, v, h2, h3.mono hD⟩, h.gs.nd⟩, h.bl, h.ol, h.dead⟩
/-! ### The trees of the world -/
def wdA (Xs : List PT) : As := star (Xs.map trA)
structure Wo (D : List Row) (tA : List Nat) (Xs : List PT) (Ts : List Tr) : Prop where
  adr : Xs.map (·.t) = tA
  len : Xs.length = Ts.length
  tie : ∀ (k : Nat) X T, Xs[k]? = some X → Ts[k]? = some T → ∃ β, Tie D X T β
abbrev adW (tA : List Nat) (k : Nat) : Nat := tA.getD k 0
theorem Wo.get {D : List Row} {tA : List Nat} {Xs : List PT} {Ts : List Tr} (h : Wo D tA Xs Ts) {k : Nat} (hk : k < Ts.length) : ∃ X β, Xs[k]? = some X ∧ X.t = adW tA k ∧ Tie D X (trW Ts k) β := by
  have hx : k < Xs.length := by rw [h.len]; exact hk
  obtain ⟨β, hb⟩ := h.tie k Xs[k] Ts[k] (List.getElem?_eq_getElem hx) (List.getElem?_eq_getElem hk)
  refine ⟨Xs[k], β, List.getElem?_eq_getElem hx, ?_, ?_⟩
  · unfold adW
    rw [← h.adr, List.getD_eq_getElem?_getD, List.getElem?_map, List.getElem?_eq_getElem hx]
    rfl
  · unfold trW
    rw [List.getD_eq_getElem?_getD, List.getElem?_eq_getElem hk]
    exact hb
/-- What an operation of a tree leaves of the world. -/
def GoesW (w0 : World) (F : Nat → Prop) (l : List As) (tA : List Nat) (Ts' : List Tr) (w : World) : Prop := ∃ D' Xs', Wo D' tA Xs' Ts' ∧ Hs w0 F w (wdA Xs' :: Pool D' :: l)
theorem Wo.goes {D : List Row} {tA : List Nat} {Xs : List PT} {Ts : List Tr} (h : Wo D tA Xs Ts) {k : Nat} (hk : k < Ts.length) {X : PT} (hX : Xs[k]? = some X) {T' : Tr} (G : Goes w0 F (wdA (Xs.eraseIdx k) :: l) D X T' w) : GoesW w0 F l tA (Ts.set k T') w := by
  obtain ⟨D', X', β', hD, ht, hT, E⟩ := G
  have hx : k < Xs.length := by rw [h.len]; exact hk
  refine ⟨D', Xs.set k X', ⟨?_, by rw [List.length_set, List.length_set, h.len], fun j X2 T2 h1 h2 => ?_⟩, Hs.closeI (f := trA) X' hx (E.perm ((List.Perm.swap _ _ _).cons _))⟩
  · rw [List.map_set, ht, ← h.adr]
    refine List.ext_getElem? fun j => ?_
    rw [List.getElem?_set]
    split
    · rename_i hj
      subst hj
      rw [List.length_map, if_pos hx, List.getElem?_map, hX]
      rfl
    · rfl
  · by_cases hj : k = j
    · subst hj
      rw [List.getElem?_set_self hx] at h1
      rw [List.getElem?_set_self hk] at h2
      cases h1; cases h2
      exact ⟨β', hT⟩
    · rw [List.getElem?_set_ne hj] at h1 h2
      obtain ⟨β, hb⟩ := h.tie j X2 T2 h1 h2
      exact ⟨β, hb.monoD hD⟩
/-! ### A table in memory -/
structure TbM where
  a : Nat
  tv : Value
  mv : Value
  vs : List (Value × Value)
abbrev Mt.C (m : Mt) (v : Value × Value) : List Value := [i64 (m.old.t : Int), i64 m.old.f, v.1, v.2]
def mcs (ms : List Mt) (vs : List (Value × Value)) : List Value := (ms.zip vs).flatMap fun x => x.1.C x.2
abbrev iT (a : Nat) : Value := .iface Ty.p_tree_Tree (ptr a)
abbrev tcs (tA : List Nat) (ts : List Nat) : List Value := ts.map fun k => iT (adW tA k)
abbrev pcs (ps : List Pl) : List Value := ps.flatMap Pl.cs
abbrev bcs (bs : List Bool) : List Value := bs.map Value.bool
abbrev tbO (M : TbM) : Obj := oc [M.tv, M.mv] Ty.space_table
structure TbT (R : List RowS) (M : TbM) (tb : Tb) : Prop where
  len : M.vs.length = tb.ms.length
  row : ∀ (i : Nat) m v, tb.ms[i]? = some m → M.vs[i]? = some v → RdyS R Ty.space_Place 2 v.1 (pcs m.new) ∧ RdyS R Ty.bool 1 v.2 (bcs m.cr)
/-! ### A name space in memory -/
structure SpM where
  a : Nat
  om : Nat
  ov : List (Int × Value)
abbrev spO (M : SpM) (tb : Nat) (sp : Sp) : Obj := oc [ptr tb, str sp.user, str sp.dir, .map (some M.om)] Ty.space_Space
abbrev ovM (ov : List (Int × Value)) : AL := encM i64 id ov
def hcs (tA : List Nat) (hs : List (Nat × Int)) : List Value := hs.flatMap fun x => [iT (adW tA x.1), i64 x.2]
structure SpT (R : List RowS) (tA : List Nat) (M : SpM) (sp : Sp) : Prop where
  keys : M.ov.map (·.1) = sp.op.map (·.1)
  row : ∀ k, match getL sp.op k with
    | none => getL M.ov k = none
    | some hs => ∃ v, getL M.ov k = some v ∧ RdyS R Ty.space_handle 2 v (hcs tA hs)
end Go.Proofs.YtjffgllkfbcaeaaGreatDoor

/-
  Name spaces: finding a mount; what stands for a place.
-/
namespace Go.Proofs.YtjffgllkfbcaeaaGreatDoor
open Go Go.Sh
set_option maxRecDepth 100000
set_option linter.unusedVariables false
set_option linter.unusedSimpArgs false
variable {w0 w : World} {F : Nat → Prop} {l r1 : List As}

abbrev lkPl : List LK := [.int .i64, .int .i64]
theorem lv_Pl : lv PP 20 Ty.space_Place = some lkPl := by kernel_rfl
theorem st_Pl : isSt PP Ty.space_Place = true := by kernel_rfl
theorem g_Pl : PP.eqGuardType PP.depth Ty.space_Place = false := by kernel_rfl
theorem ceq_pl (p q : Pl) : ceqL p.cs q.cs = decide (p = q) := by
  cases p with | mk a b => cases q with | mk c d =>
  simp only [ceqL, ceq, Bool.and_true]
  by_cases h1 : a = c
  · by_cases h2 : b = d
    · subst h1; subst h2; simp
    · simp [h2]
  · have : ¬ ((a : Int) = c) := by omega
    simp [h1, this]
theorem EqS.pl {p q : Pl} {x y : Operand} {k : Value → Prop} (hk : k (.bool (decide (p = q)))) : Rd PP (eqS .eql Ty.space_Place x y p.V q.V) w k :=
  EqS.e (xs := p.cs) (ys := q.cs) lv_Pl st_Pl g_Pl rfl rfl (by rw [ceq_pl]; exact hk)
theorem mcs_len : ∀ {ms : List Mt} {vs : List (Value × Value)}, vs.length = ms.length → (mcs ms vs).length = ms.length * 4
  | [], [], _ => rfl
  | m :: ms, v :: vs, h => by
    have ih := mcs_len (ms := ms) (vs := vs) (by simpa using h)
    unfold mcs at ih ⊢
    rw [List.zip_cons_cons, List.flatMap_cons, List.length_append, ih, List.length_cons]
    show 4 + ms.length * 4 = (ms.length + 1) * 4
    omega
  | [], _ :: _, h => by simp at h
  | _ :: _, [], h => by simp at h
theorem mcs_at {ms : List Mt} {vs : List (Value × Value)} : ∀ {i : Nat} {m : Mt} {v : Value × Value}, ms[i]? = some m → vs[i]? = some v → (mcs ms vs).drop (i * 4) = m.C v ++ mcs (ms.drop (i + 1)) (vs.drop (i + 1)) := by
  induction ms generalizing vs with
  | nil => intro i m v h; simp at h
  | cons a ms ih =>
    intro i m v h1 h2
    cases vs with
    | nil => simp at h2
    | cons b vs =>
      cases i with
      | zero =>
        have e1 : a = m := by simpa using h1
        have e2 : b = v := by simpa using h2
        subst e1; subst e2
        rfl
      | succ i =>
        have := ih (i := i) (m := m) (v := v) (by simpa using h1) (by simpa using h2)
        have e : mcs (a :: ms) (b :: vs) = a.C b ++ mcs ms vs := rfl
        rw [e, show (i + 1) * 4 = i * 4 + 4 by omega]
        show (mcs ms vs).drop (i * 4) = _
        rw [this]
        rfl
theorem idx_hit {ms : List Mt} {p : Pl} {i : Nat} (hi : i < ms.length) (hle : i ≤ idxM ms p) (h : ms[i].old = p) : idxM ms p = i := by
  rcases Nat.lt_or_ge i (idxM ms p) with h1 | h1
  · have h2 := List.not_of_lt_findIdx h1
    simp [h] at h2
  · omega
theorem idx_miss {ms : List Mt} {p : Pl} {i : Nat} (hi : i < ms.length) (hle : i ≤ idxM ms p) (h : ms[i].old ≠ p) : i + 1 ≤ idxM ms p := by
  rcases Nat.lt_or_ge i (idxM ms p) with h1 | h1
  · exact h1
  · have e : idxM ms p = i := by omega
    have h0 : List.findIdx (fun m => decide (m.old = p)) ms < ms.length := by show idxM ms p < _; omega
    have h2 := List.findIdx_getElem (p := fun m : Mt => decide (m.old = p)) (w := h0)
    simp only [decide_eq_true_eq] at h2
    have h3 : ms[i]? = some (ms[List.findIdx (fun m => decide (m.old = p)) ms]'h0) := by rw [← e]; exact List.getElem?_eq_getElem h0
    rw [List.getElem?_eq_getElem hi] at h3
    rw [Option.some.inj h3] at h
    exact absurd h2 h
theorem b_find1 : hasBody PP Fn.space_table_find_1 = true := by kernel_rfl
/-- The number that 'find' returns. -/
def fdI (ms : List Mt) (p : Pl) : Int := if idxM ms p < ms.length then (idxM ms p : Int) else -1
theorem IndexM_ok {M : TbM} {tb : Tb} {p : Pl} {q : Nat} (hm : slA M.mv Ty.space_Mount 4 (mcs tb.ms M.vs) ∈ l) (hl : M.vs.length = tb.ms.length) (h64 : tb.ms.length ≤ 64) [h1 : FPt l q (oc p.cs Ty.space_Place) r1] (E : Hs w0 F w l) :
    Ca PP Fn.slices_IndexFunc_sl_space_Mount_space_Mount #[M.mv, .func (.func Fn.space_table_find_1) #[] #[ptr q]] w fun r w' => r = i64 (fdI tb.ms p) ∧ Hs w0 F w' l := by
  refine S.slices_IndexFunc_sl_space_Mount_space_Mount.calls ?_
  unfold S.slices_IndexFunc_sl_space_Mount_space_Mount
  have hrd := RdS.sl hm (by omega) E
  rw [mcs_len hl, Nat.mul_div_cancel _ (by omega)] at hrd
  refine hrd.len ?_
  refine ⟨fun l1 w1 => ∃ i : Nat, l1 = [i64 i] ∧ i ≤ tb.ms.length ∧ i ≤ idxM tb.ms p ∧ Hs w0 F w1 l, fun l1 _ => match l1 with | [.int _ i] => tb.ms.length - i.toNat | _ => 0, ⟨0, rfl, Nat.zero_le _, Nat.zero_le _, E⟩, ?_⟩
  clear E
  rintro t u1 w1 ⟨i, e, hi, hx, E⟩
  cases e
  refine Bi.lss ?_ ?_ <;> intro hlt <;> (repeat with_reducible refine Stp.go ?_)
  · have hi1 : i < tb.ms.length := by omega
    have g1 : tb.ms[i]? = some tb.ms[i] := List.getElem?_eq_getElem hi1
    have g2 : M.vs[i]? = some (M.vs[i]'(by omega)) := List.getElem?_eq_getElem (by omega)
    have hd := mcs_at g1 g2
    refine hrd.ix (by omega) (by omega) (by omega) ?_
    intro a ha
    rw [Int.toNat_natCast, hd] at ha
    refine ha.lda E (m := 4) (ds := tb.ms[i].C (M.vs[i]'(by omega))) rfl rfl (by omega) ?_
    refine CaV.mk b_find1 ?_
    refine S.space_table_find_1.calls (a0 := .agg (tb.ms[i].C (M.vs[i]'(by omega))).toArray) (a1 := ptr q) ?_
    unfold S.space_table_find_1
    (repeat with_reducible first | refine Stp.go ?_ | refine StpE.go E ?_ | (refine StpA.go E ?_; clear E; intro b_ w_ hb_ E))
    refine EqS.pl (p := tb.ms[i].old) (q := p) ?_
    replace E := E.tl
    by_cases hp : tb.ms[i].old = p
    · rw [decide_eq_true hp]
      (repeat with_reducible refine Stp.go ?_)
      refine ⟨?_, E⟩
      unfold fdI
      rw [idx_hit hi1 hx hp, if_pos hi1]
    · rw [decide_eq_false hp]
      (repeat with_reducible refine Stp.go ?_)
      refine Bi.add (by omega) ?_
      exact ⟨⟨i + 1, by simp, by omega, idx_miss hi1 hx hp, E⟩, by simp only []; omega⟩
  · refine ⟨?_, E⟩
    unfold fdI
    rw [if_neg (by omega)]
theorem find_okM {M : TbM} {tb : Tb} {p : Pl} (hm : slA M.mv Ty.space_Mount 4 (mcs tb.ms M.vs) ∈ l) (hl : M.vs.length = tb.ms.length) (h64 : tb.ms.length ≤ 64) [h1 : FPt l M.a (tbO M) r1] (E : Hs w0 F w l) :
    Ca PP Fn.space_table_find #[ptr M.a, p.V] w fun r w' => r = i64 (fdI tb.ms p) ∧ Hs w0 F w' l := by
  refine S.space_table_find.calls ?_
  unfold S.space_table_find
  (repeat with_reducible first | refine Stp.go ?_ | refine StpE.go E ?_ | (refine StpA.go E ?_; clear E; intro b_ w_ hb_ E))
  refine (IndexM_ok (M := M) (p := p) (List.mem_cons_of_mem _ hm) hl h64 E).mono ?_
  clear E
  rintro r w_ ⟨rfl, E⟩
  exact ⟨rfl, E.tl⟩
theorem pcs_len (ps : List Pl) : (pcs ps).length = ps.length * 2 := by
  induction ps with
  | nil => rfl
  | cons p r ih =>
    rw [pcs, List.flatMap_cons, List.length_append, List.length_cons]
    have : (List.flatMap Pl.cs r).length = r.length * 2 := ih
    rw [this]
    show 2 + r.length * 2 = (r.length + 1) * 2
    omega
theorem u_sl_Place : PP.underlying Ty.sl_space_Place = some (.slice Ty.space_Place) := by kernel_rfl
theorem s_Place : sizeK PP Ty.space_Place = some 2 := by kernel_rfl
theorem z_Place : zeroK PP Ty.space_Place = some (.agg #[i64 0, i64 0]) := by kernel_rfl
theorem u_sl_bool : PP.underlying Ty.sl_bool = some (.slice Ty.bool) := by kernel_rfl
theorem e_bool : el3 PP Ty.bool = some (some (.bool false), 1, 1) := by kernel_rfl
theorem BdS.pl {p : Pl} {k : Value → World → Prop} (E : Hs w0 F w l) (hk : ∀ v w', Hs w0 F w' (slA v Ty.space_Place 2 p.cs :: l) → k v w') : Ef PP (Instr.buildSlice Ty.sl_space_Place 1 #[(0, p.V)]) w k :=
  BdS.sl E u_sl_Place s_Place z_Place (by omega) (by omega) (xs := p.cs) (by kernel_rfl) rfl hk
/-- What stands for a place: slices that can be read, and nothing that was there is turned. -/
theorem stand_okK {n : Nat} {R : List RowS} {M : TbM} {tb : Tb} {p : Pl} (hm : slA M.mv Ty.space_Mount 4 (mcs tb.ms M.vs) ∈ l) (ht : TbT R M tb) (hR : PoolS R ∈ l) (hi : TbI n tb) [h1 : FPt l M.a (tbO M) r1] (E : Hs w0 F w l) :
    Ca PP Fn.space_table_stand #[ptr M.a, p.V] w fun r w' => ∃ v1 v2 k, r = .tuple #[v1, v2] ∧ Hs w0 F w' (k ++ l) ∧
      (∀ l', (∀ w, Hs w0 F w l' → Hs w0 F w (k ++ [PoolS R])) → RdS w0 F l' 2 (standM tb.ms p).1.length v1 (pcs (standM tb.ms p).1) ∧ RdS w0 F l' 1 (standM tb.ms p).2.length v2 (bcs (standM tb.ms p).2)) := by
  refine S.space_table_stand.calls ?_
  unfold S.space_table_stand
  (repeat with_reducible first | refine StpE.go E ?_ | (refine StpA.go E ?_; clear E; intro b_ w_ hb_ E))
  (revert b_; intro q hbq E)
  refine (find_okM (M := M) (p := p) (List.mem_cons_of_mem _ hm) ht.len hi.ms E).mono ?_
  clear E
  rintro r w_ ⟨rfl, E⟩
  unfold fdI standM
  by_cases hx : idxM tb.ms p < tb.ms.length
  · rw [if_pos hx, List.getElem?_eq_getElem hx]
    refine Bi.geq (fun _ => ?_) (fun h => absurd h (by omega))
    have g2 : M.vs[idxM tb.ms p]? = some (M.vs[idxM tb.ms p]'(by rw [ht.len]; exact hx)) := List.getElem?_eq_getElem (by rw [ht.len]; exact hx)
    have hd := mcs_at (List.getElem?_eq_getElem hx) g2
    obtain ⟨y1, y2⟩ := ht.row _ _ _ (List.getElem?_eq_getElem hx) g2
    have hmi := hi.m _ (List.getElem_mem hx)
    have hrd := RdS.sl (List.mem_cons_of_mem (pt q (oc p.cs Ty.space_Place)) hm) (by omega) E
    rw [mcs_len ht.len, Nat.mul_div_cancel _ (by omega)] at hrd
    (repeat with_reducible first | refine Stp.go ?_ | refine StpE.go E ?_ | (refine StpW.go E ?_; clear E; intro w_ E))
    refine hrd.ix (by omega) (by omega) (by omega) ?_
    intro a ha
    rw [Int.toNat_natCast, hd] at ha
    refine ha.fa (by simp [Mt.C]) ?_
    intro a' ha'
    refine ha'.ld E rfl ?_
    (repeat with_reducible first | refine Stp.go ?_ | refine StpE.go E ?_)
    refine hrd.ix (by omega) (by omega) (by omega) ?_
    intro a2 ha2
    rw [Int.toNat_natCast, hd] at ha2
    refine ha2.fa (by simp [Mt.C]) ?_
    intro a3 ha3
    refine ha3.ld E rfl ?_
    refine ⟨_, _, [], rfl, E.tl, fun l' hl' => ⟨?_, ?_⟩⟩
    · exact RdS.weaken (l := [PoolS R]) (y1.read (n := tb.ms[idxM tb.ms p].new.length) (pcs_len _) (by omega) (E.tl.drop (List.singleton_sublist.2 hR)) (by simp)) hl'
    · exact RdS.weaken (l := [PoolS R]) (y2.read (n := tb.ms[idxM tb.ms p].cr.length) (by simp) (by omega) (E.tl.drop (List.singleton_sublist.2 hR)) (by simp)) hl'
  · rw [if_neg hx, List.getElem?_eq_none (by omega)]
    simp only []
    refine Bi.geq (fun h => absurd h (by decide)) (fun _ => ?_)
    (repeat with_reducible first | refine Stp.go ?_ | refine StpE.go E ?_)
    refine BdS.pl E ?_
    clear E
    intro v1 w_ E
    skip
    refine BdS.one E u_sl_bool e_bool rfl ?_
    clear E
    intro v2 w_ E
    refine ⟨_, _, [slA v2 Ty.bool 1 [.bool true], slA v1 Ty.space_Place 2 p.cs], rfl, ?_, fun l' hl' => ?_⟩
    · exact (E.bIx 2).tl
    · have E2 : Hs w0 F w_ [slA v2 Ty.bool 1 [.bool true], slA v1 Ty.space_Place 2 p.cs, PoolS R] := ((E.bIx 2).tl).drop (((List.singleton_sublist.2 hR).cons_cons _).cons_cons _)
      have g1 := RdS.sl (xs := p.cs) (sz := 2) (T := Ty.space_Place) (v := v1) (by simp) (by omega) E2
      rw [show p.cs.length / 2 = 1 by rw [show p.cs.length = 2 from rfl]] at g1
      have g2 := RdS.sl (xs := [.bool true]) (sz := 1) (T := Ty.bool) (v := v2) (by simp) (by omega) E2
      exact ⟨RdS.weaken g1 hl', RdS.weaken g2 hl'⟩
theorem stand_okM {n : Nat} {R : List RowS} {M : TbM} {tb : Tb} {p : Pl} (hm : slA M.mv Ty.space_Mount 4 (mcs tb.ms M.vs) ∈ l) (ht : TbT R M tb) (hR : PoolS R ∈ l) (hi : TbI n tb) [h1 : FPt l M.a (tbO M) r1] (E : Hs w0 F w l) :
    Ca PP Fn.space_table_stand #[ptr M.a, p.V] w fun r w' => ∃ v1 v2 A, r = .tuple #[v1, v2] ∧ Hs w0 F w' (A :: l) ∧
      RdS w0 F (A :: l) 2 (standM tb.ms p).1.length v1 (pcs (standM tb.ms p).1) ∧ RdS w0 F (A :: l) 1 (standM tb.ms p).2.length v2 (bcs (standM tb.ms p).2) := by
  refine (stand_okK (p := p) hm ht hR hi E).mono ?_
  rintro r w' ⟨v1, v2, k, rfl, E, h⟩
  obtain ⟨g1, g2⟩ := h (star k :: l) fun w E => E.unstar.drop ((List.append_sublist_append_left _).2 (List.singleton_sublist.2 hR))
  exact ⟨v1, v2, star k, rfl, E.star, g1, g2⟩
end Go.Proofs.YtjffgllkfbcaeaaGreatDoor

/-
  Name spaces: what a name space stands on; the elements of a path; a tree of the world that is asked.
-/
namespace Go.Proofs.YtjffgllkfbcaeaaGreatDoor
open Go Go.Sh
set_option maxRecDepth 100000
set_option linter.unusedVariables false
set_option linter.unusedSimpArgs false
variable {w0 w : World} {F : Nat → Prop} {l r1 r2 r3 : List As}

/-- The trees and their pool among the pieces. -/
 class FWP (l : List As) (Xs : outParam (List PT)) (D : outParam (List Row)) (r : outParam (List As)) : Prop where
  perm : l.Perm (wdA Xs :: Pool D :: r)
instance (priority := 2000) {Xs : List PT} {D : List Row} {r : List As} : FWP (wdA Xs :: Pool D :: r) Xs D r := ⟨List.Perm.refl _⟩
instance {A : As} {Xs : List PT} {D : List Row} {l r : List As} [h : FWP l Xs D r] : FWP (A :: l) Xs D (A :: r) :=
  ⟨(h.perm.cons A).trans ((List.Perm.swap _ _ _).trans ((List.Perm.swap _ _ _).cons _))⟩
/-- What a name space stands on: nothing of it is turned by what only asks. -/
structure Ctx (l : List As) (R : List RowS) (D : List Row) (Xs : List PT) (tA : List Nat) (M : TbM) (K : SpM) (N : Int) (y : Sy) : Prop where
  tv : slA M.tv Ty.api_Tree 1 (tcs tA y.tb.ts) ∈ l
  mv : slA M.mv Ty.space_Mount 4 (mcs y.tb.ms M.vs) ∈ l
  pool : PoolS R ∈ l
  tb : TbT R M y.tb
  wo : Wo D tA Xs y.Ts
  inv : SyI N y
variable {R : List RowS} {D : List Row} {Xs : List PT} {tA : List Nat} {M : TbM} {K : SpM} {N : Int} {y : Sy}
theorem Ctx.cons (C : Ctx l R D Xs tA M K N y) (A : As) : Ctx (A :: l) R D Xs tA M K N y := ⟨List.mem_cons_of_mem _ C.tv, List.mem_cons_of_mem _ C.mv, List.mem_cons_of_mem _ C.pool, C.tb, C.wo, C.inv⟩
theorem Ctx.app (C : Ctx l R D Xs tA M K N y) (k : List As) : Ctx (k ++ l) R D Xs tA M K N y := ⟨List.mem_append_right _ C.tv, List.mem_append_right _ C.mv, List.mem_append_right _ C.pool, C.tb, C.wo, C.inv⟩
/-- A tree is asked. -/
theorem Wo.ask {f : FuncId} {args : Nat → Array Value} {Q : Value → Prop} (h : Wo D tA Xs y.Ts) (hI : TsI N y.Ts) {k : Nat} (hk : k < y.Ts.length) [hW : FWP l Xs D r1] (E : Hs w0 F w l)
    (hc : ∀ X β l0, Tie D X (trW y.Ts k) β → Inv (trW y.Ts k) → Pool D ∈ l0 → Hs w0 F w (trA X :: l0) → Ca PP f (args X.t) w fun r w' => Q r ∧ Hs w0 F w' (trA X :: l0)) :
    Ca PP f (args (adW tA k)) w fun r w' => Q r ∧ Hs w0 F w' l := by
  obtain ⟨X, β, hX, ht, hb⟩ := h.get hk
  have hx : k < Xs.length := by rw [h.len]; exact hk
  have E1 := Hs.openI (f := trA) hX (E.perm hW.perm)
  rw [← ht]
  refine (hc X β (star ((Xs.eraseIdx k).map trA) :: Pool D :: r1) hb (hI _ (trW_mem hk)).1 (by simp) E1).mono ?_
  rintro r w' ⟨hq, E2⟩
  have E3 := Hs.closeI (f := trA) X hx E2
  have e : Xs.set k X = Xs := by
    refine List.ext_getElem? fun j => ?_
    by_cases hj : k = j
    · subst hj; rw [List.getElem?_set_self hx, hX]
    · rw [List.getElem?_set_ne hj]
  rw [e] at E3
  exact ⟨hq, E3.perm hW.perm.symm⟩
theorem u_p_Space : PP.underlying Ty.p_space_Space = some (.pointer Ty.space_Space) := by kernel_rfl
theorem cleanA_ok {ta : Nat} {path : BA} (hd : y.sp.dir.size ≤ 2000) (hp : path.size ≤ 1000000) [h1 : FPt l K.a (spO K ta y.sp) r1] (E : Hs w0 F w l) :
    Ca PP Fn.space_Space_clean #[ptr K.a, str path] w fun r w' => r = str (absA y.sp.dir path) ∧ Hs w0 F w' l := by
  refine S.space_Space_clean.calls ?_
  unfold S.space_Space_clean
  (intro J1 hJ1)
  refine (HasPrefix_ok E).mono ?_
  clear E
  rintro r w_ ⟨rfl, E⟩
  have e : Lib.hasPrefix path.data.toList (⟨#[47]⟩ : BA).data.toList = absP path := rfl
  rw [e]
  cases hab : absP path with
  | true =>
    (repeat with_reducible first | refine Stp.go ?_ | (apply hJ1; intro u_))
    exact ⟨by unfold absA; rw [if_pos hab], E⟩
  | false =>
    (repeat with_reducible first | refine Stp.go ?_ | refine StpE.go E ?_)
    refine Bi.sadd (by show y.sp.dir.size + 1 ≤ _; omega) ?_
    refine Bi.sadd (by rw [ByteArray.size_append]; show y.sp.dir.size + 1 + path.size ≤ _; omega) ?_
    (repeat with_reducible (apply hJ1; intro u_))
    exact ⟨by unfold absA; rw [if_neg (by rw [hab]; simp)], E⟩
theorem absA_size {dir path : BA} (hd : dir.size ≤ 2000) (hp : path.size ≤ 1000000) : (absA dir path).size ≤ 1002001 := by
  unfold absA
  split
  · omega
  · rw [ByteArray.size_append, ByteArray.size_append]
    show dir.size + 1 + path.size ≤ _
    omega
theorem elements_ok {ta : Nat} {path : BA} (hd : y.sp.dir.size ≤ 2000) (hp : path.size ≤ 1000000) [h1 : FPt l K.a (spO K ta y.sp) r1] (E : Hs w0 F w l) :
    Ca PP Fn.space_Space_elements #[ptr K.a, str path] w fun r w' => ∃ v, r = .tuple #[v, i64 (y.elems path).2] ∧ Hs w0 F w' (slA v Ty.string 1 ((y.elems path).1.map str) :: l) := by
  refine S.space_Space_elements.calls ?_
  unfold S.space_Space_elements
  refine Eq.ef u_p_Space rfl ?_
  (repeat with_reducible refine Stp.go ?_)
  refine (cleanA_ok (K := K) (y := y) hd hp E).mono ?_
  clear E
  rintro r w_ ⟨rfl, E⟩
  refine (Clean_ok (by have := absA_size hd hp; omega) E).mono ?_
  clear E
  rintro r w_ ⟨rfl, E⟩
  refine (Split_ok E).mono ?_
  clear E
  rintro r w_ ⟨v, rfl, E⟩
  (repeat with_reducible refine Stp.go ?_)
  exact ⟨v, rfl, E⟩
theorem Root_ok {X : PT} {T : Tr} {β : Int → Nat} (h : Tie D X T β) (hi : Inv T) (E : Hs w0 F w (trA X :: l)) : Ca PP Fn.tree_Tree_Root #[ptr X.t] w fun r w' => (∃ k v, r = .agg #[i64 k, i64 v, i64 0]) ∧ Hs w0 F w' (trA X :: l) := by
  refine S.tree_Tree_Root.calls ?_
  unfold S.tree_Tree_Root
  (repeat with_reducible (refine StpA.go E ?_; clear E; intro b_ w_ hb_ E))
  (revert b_; intro q hbq E)
  (replace E := ((E.bIx 0).bIx 1))
  refine Eq.ef u_p_tree rfl ?_
  (repeat with_reducible refine Stp.go ?_)
  obtain ⟨n, hn, hn1, hn2⟩ := h.root
  replace E := Hs.openT E
  (repeat with_reducible first | refine Stp.go ?_ | refine StpE.go E ?_)
  rw [← hn2]
  skip
  refine LdA.ob (Hs.ntAt E (by simp) hn) (by simp) ?_
  have eq3 : (n.mn.C.toArray.extract 0 (0 + 3) : Array Value) = #[i64 n.mn.kind, i64 n.mn.vers, i64 n.mn.path] := by simp
  rw [eq3]
  (repeat with_reducible first | refine StpE.go E ?_ | (refine StpW.go E ?_; clear E; intro w_ E))
  exact ⟨⟨n.mn.kind, n.mn.vers, by rw [← hn1]⟩, ((Hs.closeT X E).bIx 1).tl⟩
instance {b : Nat} : NilC PP Ty.p_tree_Tree (ptr b) "Root" := ⟨fun w => by kernel_rfl⟩
instance {b : Nat} : MtC PP Ty.p_tree_Tree (ptr b) "Root" Fn.tree_Tree_Root (ptr b) := ⟨fun w => by kernel_rfl, by kernel_rfl⟩
instance {b : Nat} : NilC PP Ty.p_tree_Tree (ptr b) "Walk" := ⟨fun w => by kernel_rfl⟩
instance {b : Nat} : MtC PP Ty.p_tree_Tree (ptr b) "Walk" Fn.tree_Tree_Walk (ptr b) := ⟨fun w => by kernel_rfl, by kernel_rfl⟩
instance {b : Nat} : NilC PP Ty.p_tree_Tree (ptr b) "Stat" := ⟨fun w => by kernel_rfl⟩
instance {b : Nat} : MtC PP Ty.p_tree_Tree (ptr b) "Stat" Fn.tree_Tree_Stat (ptr b) := ⟨fun w => by kernel_rfl, by kernel_rfl⟩
end Go.Proofs.YtjffgllkfbcaeaaGreatDoor

/-
  Name spaces: walking.
-/
namespace Go.Proofs.YtjffgllkfbcaeaaGreatDoor
open Go Go.Sh
set_option maxRecDepth 100000
set_option linter.unusedVariables false
set_option linter.unusedSimpArgs false
variable {w0 w : World} {F : Nat → Prop} {l r1 r2 r3 : List As}
variable {R : List RowS} {D : List Row} {Xs : List PT} {tA : List Nat} {M : TbM} {K : SpM} {N : Int} {y : Sy}

theorem pcs_drop (ps : List Pl) : ∀ i : Nat, (pcs ps).drop (i * 2) = pcs (ps.drop i) := by
  induction ps with
  | nil => intro i; simp
  | cons d r ih =>
    intro i
    cases i with
    | zero => simp
    | succ i =>
      rw [pcs, List.flatMap_cons, show (i + 1) * 2 = i * 2 + 2 by omega]
      simp only [Pl.cs, List.cons_append, List.nil_append, List.drop_succ_cons]
      exact ih i
/-- The tree of a place, as the table has it. -/
theorem Ctx.tree (C : Ctx l R D Xs tA M K N y) (E : Hs w0 F w l) {t : Nat} (ht : t < y.tb.ts.length) {k : Value → Prop} (hk : k (iT (adW tA (y.tb.ix t)))) :
    IxA 1 M.tv (i64 (t : Int)) fun a => Ld a w fun v => k v := by
  have hrd := RdS.sl C.tv (by omega) E
  rw [Nat.div_one] at hrd
  refine hrd.ix (by omega) (by rw [List.length_map]; omega) (by omega) ?_
  intro a ha
  refine ha.ld E (x := iT (adW tA (y.tb.ix t))) ?_ hk
  rw [Int.toNat_natCast, Nat.mul_one, List.getElem?_drop, Nat.add_zero, List.getElem?_map]
  unfold Tb.ix
  rw [List.getD_eq_getElem?_getD, List.getElem?_eq_getElem ht]
  rfl
theorem Ctx.treeP (C : Ctx l R D Xs tA M K N y) (E : Hs w0 F w l) {t : Nat} (ht : t < y.tb.ts.length) {k : Value → Prop} (hk : ∀ a, RdP w0 F l a ((tcs tA y.tb.ts).drop t) → ((tcs tA y.tb.ts).drop t)[0]? = some (iT (adW tA (y.tb.ix t))) → k (.pointer (some a))) :
    IxA 1 M.tv (i64 (t : Int)) k := by
  have hrd := RdS.sl C.tv (by omega) E
  rw [Nat.div_one] at hrd
  refine hrd.ix (by omega) (by rw [List.length_map]; omega) (by omega) ?_
  intro a ha
  rw [Int.toNat_natCast, Nat.mul_one] at ha
  refine hk a ha ?_
  rw [List.getElem?_drop, Nat.add_zero, List.getElem?_map]
  unfold Tb.ix
  rw [List.getD_eq_getElem?_getD, List.getElem?_eq_getElem ht]
  rfl
/-- A tree of the table is asked. -/
theorem Ctx.walkT (C : Ctx l R D Xs tA M K N y) {t : Nat} (ht : t < y.tb.ts.length) {user name : BA} {f : Int} (hn : name.size ≤ 1000000) [hW : FWP l Xs D r3] (E : Hs w0 F w l) :
    Ca PP Fn.tree_Tree_Walk #[ptr (adW tA (y.tb.ix t)), str user, i64 f, str name] w fun r w' => r = .tuple #[((trW y.Ts (y.tb.ix t)).walk user f name).1.V, i64 ((trW y.Ts (y.tb.ix t)).walk user f name).2] ∧ Hs w0 F w' l :=
  Wo.ask (args := fun z => #[ptr z, str user, i64 f, str name]) C.wo C.inv.t (C.inv.tb.ixLt ht) E fun X β l0 hb hi hp E => Walk_ok hb hi (by omega) hp E
theorem walk_okM {lv : Value} {L : List BA} (hL : RdS w0 F l 1 L.length lv (L.map str)) (hLs : ∀ x ∈ L, x.size ≤ 1000000) (hn : L.length ≤ 1000000) (C : Ctx l R D Xs tA M K N y) [hS : FPt l K.a (spO K M.a y.sp) r1] [hT : FPt l M.a (tbO M) r2] [hW : FWP l Xs D r3] (E : Hs w0 F w l) :
    Ca PP Fn.space_Space_walk #[ptr K.a, lv] w fun r w' => r = .tuple #[(y.walk L).1.V, i64 (y.walk L).2] ∧ Hs w0 F w' l := by
  refine S.space_Space_walk.calls ?_
  unfold S.space_Space_walk
  (repeat with_reducible first | refine Stp.go ?_ | refine StpE.go E ?_ | (refine StpA.go E ?_; clear E; intro b_ w_ hb_ E))
  (revert b_; intro q hbq E)
  refine (C.cons _).tree E (t := 0) C.inv.tb.pos ?_
  (repeat with_reducible refine Stp.go ?_)
  refine (Wo.ask (args := fun a => #[ptr a]) C.wo C.inv.t (C.inv.tb.ixLt C.inv.tb.pos) E fun X β l0 hb hi hp E => Root_ok hb hi E).mono ?_
  clear E
  rintro r w_ ⟨⟨rk, rv, rfl⟩, E⟩
  (repeat with_reducible first | refine Stp.go ?_ | refine StpE.go E ?_ | (refine StpW.go E ?_; clear E; intro w_ E) | (refine StpA.go E ?_; clear E; intro b_ w_ hb_ E))
  (revert b_; intro a hba E)
  (first | (refine StA.all E rfl rfl (by first | exact rfl | assumption) ?_; clear E; intro w_ E) | try (refine StA.by E rfl (by first | exact rfl | assumption) ?_; clear E; intro w_ E))
  refine hL.len ?_
  refine ⟨fun l1 w1 => ∃ (i : Nat) (p : Pl), l1 = [i64 i] ∧ i ≤ L.length ∧ p.t < y.tb.ts.length ∧ y.walk L = walkW y.Ts y.tb y.sp.user (L.drop i) p ∧ Hs w0 F w1 (pt a (oc p.cs Ty.space_Place) :: pt q (oc p0.cs Ty.space_Place) :: l), fun l1 _ => match l1 with | [.int _ i] => L.length - i.toNat | _ => 0, ⟨0, p0, rfl, Nat.zero_le _, C.inv.tb.pos, rfl, E⟩, ?_⟩
  clear E
  rintro t u1 w1 ⟨i, p, e, hi, hp, hwk, E⟩
  cases e
  refine Bi.lss ?_ ?_ <;> intro hlt <;> (repeat with_reducible first | refine Stp.go ?_ | refine StpE.go E ?_ | (refine StpW.go E ?_; clear E; intro w_ E))
  · have hi1 : i < L.length := by omega
    refine ((hL.cons (pt q (oc p0.cs Ty.space_Place))).cons (pt a (oc p.cs Ty.space_Place))).ix (by omega) (by omega) (by omega) ?_
    intro b hb
    refine hb.ld E (x := str L[i]) (by simp [List.getElem?_eq_getElem hi1]) ?_
    (repeat with_reducible first | refine Stp.go ?_ | refine StpE.go E ?_ | (refine StpW.go E ?_; clear E; intro w_ E))
    have C2 := (C.cons (pt q (oc p0.cs Ty.space_Place))).cons (pt a (oc p.cs Ty.space_Place))
    refine (stand_okM (M := M) (p := p) C2.mv C2.tb C2.pool C2.inv.tb E).mono ?_
    clear E
    rintro r w_ ⟨v1, v2, A, rfl, E, g1, g2⟩
    (repeat with_reducible refine Stp.go ?_)
    refine g1.len ?_
    obtain ⟨s1, s2, s3, s4⟩ := stand_ok C.inv.tb hp
    have hdr : L.drop i = L[i] :: L.drop (i + 1) := List.drop_eq_getElem_cons hi1
    generalize hQ : (standM y.tb.ms p).1 = Q at *
    have hw1 : y.walk L = (if (stepW y.Ts y.tb y.sp.user L[i] Q none).2 = 0 then walkW y.Ts y.tb y.sp.user (L.drop (i + 1)) (stepW y.Ts y.tb y.sp.user L[i] Q none).1 else (p0, (stepW y.Ts y.tb y.sp.user L[i] Q none).2)) := by
      rw [hwk, hdr]
      show (if _ then _ else _) = _
      rw [hQ]
    have C3 := C2.cons A
    refine ⟨fun l1 w1 => ∃ (j : Nat) (fv : Int), l1 = [i64 fv, i64 j] ∧ j ≤ Q.length ∧ (j = 0 → fv = 0) ∧ (j ≠ 0 → fv ≠ 0) ∧ stepW y.Ts y.tb y.sp.user L[i] Q none = stepW y.Ts y.tb y.sp.user L[i] (Q.drop j) (if j = 0 then none else some fv) ∧ Hs w0 F w1 (A :: pt a (oc p.cs Ty.space_Place) :: pt q (oc p0.cs Ty.space_Place) :: l), fun l1 _ => match l1 with | [_, .int _ j] => Q.length - j.toNat | _ => 0, ⟨0, 0, rfl, Nat.zero_le _, fun _ => rfl, fun h => absurd rfl h, rfl, E⟩, ?_⟩
    clear E
    rintro t9 t45 u2 w2 ⟨j, fv, e, hj, f0, f1, hst, E⟩
    cases e
    refine Bi.lss ?_ ?_ <;> intro hlt2 <;> (repeat with_reducible first | refine Stp.go ?_ | refine StpE.go E ?_ | (refine StpW.go E ?_; clear E; intro w_ E))
    · have hj1 : j < Q.length := by omega
      have hpj := s4 _ (List.getElem_mem hj1)
      have hdq : Q.drop j = Q[j] :: Q.drop (j + 1) := List.drop_eq_getElem_cons hj1
      (intro J44 hJ44)
      have fin44 : ∀ (fv' : Int) w_, fv' ≠ 0 → stepW y.Ts y.tb y.sp.user L[i] Q none = stepW y.Ts y.tb y.sp.user L[i] (Q.drop (j + 1)) (some fv') → Hs w0 F w_ (A :: pt a (oc p.cs Ty.space_Place) :: pt q (oc p0.cs Ty.space_Place) :: l) → J44 [i64 fv'] w_ := by
        intro fv' w_ h0 hs E
        (repeat with_reducible (apply hJ44; intro u_))
        refine Bi.add (by omega) ?_
        exact ⟨⟨j + 1, fv', by simp, by omega, fun h => absurd h (by omega), fun _ => h0, by rw [if_neg (by omega)]; exact hs, E⟩, by simp only []; omega⟩
      clear hJ44
      refine g1.ix (by omega) (by omega) (by omega) ?_
      intro a2 ha2
      rw [Int.toNat_natCast, pcs_drop, hdq] at ha2
      refine ha2.lda E (m := 2) (ds := Q[j].cs) rfl rfl (by omega) ?_
      generalize Q[j] = pj at *
      have hsz : L[i].size ≤ 1000000 := hLs _ (List.getElem_mem hi1)
      generalize L[i] = nm at *
      (repeat with_reducible first | refine Stp.go ?_ | refine StpE.go E ?_ | (refine StpW.go E ?_; clear E; intro w_ E) | (refine StpA.go E ?_; clear E; intro b_ w_ hb_ E))
      (revert b_; intro c hbc E)
      refine (C3.cons (pt c (oc pj.cs Ty.space_Place))).treeP E hpj ?_
      intro a3 ha3 hx3
      refine ha3.ld E hx3 ?_
      (repeat with_reducible first | refine Stp.go ?_ | refine StpE.go E ?_)
      refine And.intro ?left (And.intro ?right trivial)
      case' left =>
        (repeat with_reducible refine Stp.go ?_)
        refine ((C3.cons (pt c (oc pj.cs Ty.space_Place))).walkT hpj hsz E).mono ?_
        clear E
        rintro r w_ ⟨rfl, E⟩
        (repeat with_reducible first | refine Stp.go ?_ | (refine StpA.go E ?_; clear E; intro b_ w_ hb_ E))
        (revert b_; intro d hbd E)
        (repeat (with_reducible refine And.intro ?_ ?_; focus ((repeat with_reducible refine StpE.go E ?_); exact rfl)))
        refine And.intro ?_ ?_
        · exact (ha3.weaken fun _ E => E.tl).ld E hx3 rfl
        (repeat (with_reducible refine And.intro ?_ ?_; focus ((repeat with_reducible refine StpE.go E ?_); exact rfl)))
      case' right =>
        (repeat with_reducible (refine StpA.go E ?_; clear E; intro b_ w_ hb_ E))
        (revert b_; intro d hbd E)
        (repeat (with_reducible refine And.intro ?_ ?_; focus ((repeat with_reducible refine StpE.go E ?_); exact rfl)))
        refine And.intro ?_ ?_
        · exact (ha3.weaken fun _ E => E.tl).ld E hx3 rfl
        (repeat (with_reducible refine And.intro ?_ ?_; focus ((repeat with_reducible refine StpE.go E ?_); exact rfl)))
        (repeat with_reducible refine Stp.go ?_)
        refine (((C3.cons (pt c (oc pj.cs Ty.space_Place))).cons (pt d (oc q0.cs Ty.api_Qid))).walkT hpj hsz E).mono ?_
        clear E
        rintro r w_ ⟨rfl, E⟩
        (repeat with_reducible first | refine Stp.go ?_ | (refine StpW.go E ?_; clear E; intro w_ E))
      all_goals (repeat with_reducible (refine StpW.go E ?_; clear E; intro w_ E))
      all_goals
        generalize hX : (trW y.Ts (y.tb.ix pj.t)).walk y.sp.user pj.f nm = X at *
        have hst2 : stepW y.Ts y.tb y.sp.user nm Q none = if X.2 = 0 then ((⟨pj.t, X.1.path⟩ : Pl), (0 : Int)) else stepW y.Ts y.tb y.sp.user nm (Q.drop (j + 1)) (some ((if j = 0 then none else some fv).getD X.2)) := by
          rw [hst, hdq]
          show (if _ then _ else _) = _
          rw [hX]
        refine Bi.eql ?_ ?_ <;> intro he <;> (repeat with_reducible first | refine Stp.go ?_ | refine StpE.go E ?_ | (refine StpW.go E ?_; clear E; intro w_ E))
        · rw [if_pos he] at hst2
          (first | (refine StA.all E rfl rfl (by first | exact rfl | assumption) ?_; clear E; intro w_ E) | try (refine StA.by E rfl (by first | exact rfl | assumption) ?_; clear E; intro w_ E))
          skip
          refine Bi.add (by omega) ?_
          refine ⟨⟨i + 1, ⟨pj.t, X.1.path⟩, by simp, by omega, hpj, ?_, E.tl.tl.tl⟩, by simp only []; omega⟩
          rw [hw1, hst2]
          rfl
        · rw [if_neg he] at hst2
          refine Bi.eql ?_ ?_ <;> intro hj0 <;> (repeat with_reducible refine Stp.go ?_)
          · have h0 : j = 0 := by omega
            rw [if_pos h0] at hst2
            exact fin44 _ _ he hst2 E.tl.tl
          · have h0 : j ≠ 0 := by omega
            rw [if_neg h0] at hst2
            exact fin44 _ _ (f1 h0) hst2 E.tl.tl
    · have hje : j = Q.length := by omega
      have hj0 : j ≠ 0 := by
        intro h0
        exact s1 (List.length_eq_zero_iff.1 (by omega))
      rw [hje, List.drop_length, if_neg (by omega)] at hst
      have e2 : y.walk L = (p0, fv) := by
        rw [hw1, hst]
        show (if fv = 0 then _ else _) = _
        rw [if_neg (f1 hj0)]
        rfl
      rw [e2]
      skip
      exact ⟨rfl, E.tl.tl.tl⟩
  · have hie : i = L.length := by omega
    rw [hie, List.drop_length] at hwk
    rw [hwk]
    skip
    exact ⟨rfl, E.tl.tl⟩
end Go.Proofs.YtjffgllkfbcaeaaGreatDoor

/-
  Name spaces: the place of a path; directories.
-/
namespace Go.Proofs.YtjffgllkfbcaeaaGreatDoor
open Go Go.Sh
set_option maxRecDepth 100000
set_option linter.unusedVariables false
set_option linter.unusedSimpArgs false
variable {w0 w : World} {F : Nat → Prop} {l r1 r2 r3 : List As}
variable {R : List RowS} {D : List Row} {Xs : List PT} {tA : List Nat} {M : TbM} {K : SpM} {N : Int} {y : Sy}

theorem tot_mem {L : List BA} {x : BA} (h : x ∈ L) : x.size ≤ tot L := by
  induction L with
  | nil => cases h
  | cons a r ih =>
    have e : tot (a :: r) = (a.size + 1) + tot r := rfl
    rw [e]
    rcases List.mem_cons.1 h with rfl | h
    · omega
    · have := ih h; omega
theorem elems_small {path : BA} : (∀ x ∈ (y.elems path).1, x.size ≤ 1000000) ∧ (y.elems path).1.length ≤ 1000000 := by
  unfold Sy.elems elemsA splitP
  split
  · exact ⟨fun x hx => (by cases hx), by simp⟩
  · split
    · exact ⟨fun x hx => (by cases hx), by simp⟩
    · rename_i h1 h2
      have ht := elems_tot (cleanS (absA y.sp.dir path))
      refine ⟨fun x hx => ?_, ?_⟩
      · have hx : x ∈ elemsC (cleanS (absA y.sp.dir path)) := hx
        have := tot_mem hx
        omega
      · have := tot_len (elemsC (cleanS (absA y.sp.dir path))); show (elemsC (cleanS (absA y.sp.dir path))).length ≤ _; omega
theorem place_okM {path : BA} (hp : path.size ≤ 1000000) (C : Ctx l R D Xs tA M K N y) [hS : FPt l K.a (spO K M.a y.sp) r1] [hT : FPt l M.a (tbO M) r2] [hW : FWP l Xs D r3] (E : Hs w0 F w l) :
    Ca PP Fn.space_Space_place #[ptr K.a, str path] w fun r w' => r = .tuple #[(y.place path).1.V, i64 (y.place path).2] ∧ Hs w0 F w' l := by
  refine S.space_Space_place.calls ?_
  unfold S.space_Space_place
  (repeat with_reducible (refine StpA.go E ?_; clear E; intro b_ w_ hb_ E))
  (revert b_; intro q hbq E)
  refine (elements_ok (K := K) (y := y) C.inv.sp.dir hp E).mono ?_
  clear E
  rintro r w_ ⟨v, rfl, E⟩
  (repeat with_reducible refine Stp.go ?_)
  obtain ⟨e1, e2⟩ := elems_small (y := y) (path := path)
  refine Bi.neq ?_ ?_ <;> intro he <;> (repeat with_reducible first | refine Stp.go ?_ | refine StpE.go E ?_ | (refine StpW.go E ?_; clear E; intro w_ E))
  · have e : y.place path = (p0, (y.elems path).2) := by unfold Sy.place; rw [if_pos he]
    rw [e]
    exact ⟨rfl, (E.bIx 1).tl.tl⟩
  · have e : y.place path = y.walk (y.elems path).1 := by unfold Sy.place; rw [if_neg (fun h => h he)]
    have hrd := RdS.sl (sz := 1) (List.mem_cons_self) (by omega) E
    rw [Nat.div_one, List.length_map] at hrd
    refine (walk_okM hrd e1 e2 ((C.cons _).cons _) E).mono ?_
    clear E
    rintro r w_ ⟨rfl, E⟩
    rw [e]
    (repeat with_reducible first | refine Stp.go ?_ | refine StpE.go E ?_ | (refine StpW.go E ?_; clear E; intro w_ E))
    exact ⟨rfl, (E.bIx 1).tl.tl⟩
theorem Ctx.statT (C : Ctx l R D Xs tA M K N y) {t : Nat} (ht : t < y.tb.ts.length) {user : BA} {f : Int} [hW : FWP l Xs D r3] (E : Hs w0 F w l) :
    Ca PP Fn.tree_Tree_Stat #[ptr (adW tA (y.tb.ix t)), str user, i64 f] w fun r w' => r = .tuple #[((trW y.Ts (y.tb.ix t)).stat f).1.V, i64 ((trW y.Ts (y.tb.ix t)).stat f).2] ∧ Hs w0 F w' l :=
  Wo.ask (args := fun z => #[ptr z, str user, i64 f]) C.wo C.inv.t (C.inv.tb.ixLt ht) E fun X β l0 hb hi hp E => Stat_ok hb hi hp E
theorem isDir_okM {p : Pl} (hp : p.t < y.tb.ts.length) (C : Ctx l R D Xs tA M K N y) [hS : FPt l K.a (spO K M.a y.sp) r1] [hT : FPt l M.a (tbO M) r2] [hW : FWP l Xs D r3] (E : Hs w0 F w l) :
    Ca PP Fn.space_Space_isDir #[ptr K.a, p.V] w fun r w' => r = .tuple #[.bool (y.isDir p).1, i64 (y.isDir p).2] ∧ Hs w0 F w' l := by
  refine S.space_Space_isDir.calls ?_
  unfold S.space_Space_isDir
  (repeat with_reducible first | refine Stp.go ?_ | refine StpE.go E ?_ | (refine StpW.go E ?_; clear E; intro w_ E) | (refine StpA.go E ?_; clear E; intro b_ w_ hb_ E))
  (revert b_; intro c hbc E)
  refine (C.cons (pt c (oc p.cs Ty.space_Place))).treeP E hp ?_
  intro a3 ha3 hx3
  refine ha3.ld E hx3 ?_
  (repeat with_reducible first | refine Stp.go ?_ | refine StpE.go E ?_)
  refine And.intro ?left (And.intro ?right trivial)
  case' left =>
    (repeat with_reducible refine Stp.go ?_)
    refine ((C.cons (pt c (oc p.cs Ty.space_Place))).statT hp E).mono ?_
    clear E
    rintro r w_ ⟨rfl, E⟩
    (repeat with_reducible first | refine Stp.go ?_ | (refine StpA.go E ?_; clear E; intro b_ w_ hb_ E))
    (revert b_; intro d hbd E)
    (repeat (with_reducible refine And.intro ?_ ?_; focus ((repeat with_reducible refine StpE.go E ?_); exact rfl)))
    refine And.intro ?_ ?_
    · exact (ha3.weaken fun _ E => E.tl).ld E hx3 rfl
    (repeat (with_reducible refine And.intro ?_ ?_; focus ((repeat with_reducible refine StpE.go E ?_); exact rfl)))
  case' right =>
    (repeat with_reducible (refine StpA.go E ?_; clear E; intro b_ w_ hb_ E))
    (revert b_; intro d hbd E)
    (repeat (with_reducible refine And.intro ?_ ?_; focus ((repeat with_reducible refine StpE.go E ?_); exact rfl)))
    refine And.intro ?_ ?_
    · exact (ha3.weaken fun _ E => E.tl).ld E hx3 rfl
    (repeat (with_reducible refine And.intro ?_ ?_; focus ((repeat with_reducible refine StpE.go E ?_); exact rfl)))
    (repeat with_reducible refine Stp.go ?_)
    refine (((C.cons (pt c (oc p.cs Ty.space_Place))).cons (pt d (oc d0.cs Ty.api_Dir))).statT hp E).mono ?_
    clear E
    rintro r w_ ⟨rfl, E⟩
    (repeat with_reducible first | refine Stp.go ?_ | refine StpE.go E ?_ | (refine StpW.go E ?_; clear E; intro w_ E))
  all_goals (repeat with_reducible first | refine Stp.go ?_ | refine StpE.go E ?_ | (refine StpW.go E ?_; clear E; intro w_ E))
  all_goals
    refine Bi.neq ?_ ?_ <;> intro he
    · refine ⟨?_, E.tl.tl⟩
      unfold Sy.isDir Sy.tr
      simp [he]
    · refine ⟨?_, E.tl.tl⟩
      unfold Sy.isDir Sy.tr
      simp [he]
end Go.Proofs.YtjffgllkfbcaeaaGreatDoor

/-
  Name spaces: copies of slices; the places of a path.
-/
namespace Go.Proofs.YtjffgllkfbcaeaaGreatDoor
open Go Go.Sh
set_option maxRecDepth 100000
set_option linter.unusedVariables false
set_option linter.unusedSimpArgs false
variable {w0 w : World} {F : Nat → Prop} {l r1 r2 r3 : List As}
variable {R : List RowS} {D : List Row} {Xs : List PT} {tA : List Nat} {M : TbM} {K : SpM} {N : Int} {y : Sy}

theorem RdS.srcS {P : Program} {n sz : Nat} {v : Value} {xs : List Value} (h : RdS w0 F l sz n v xs) (hz : 0 < sz) (E : Hs w0 F w l) (hs : xs.all scalV = true) : Src P sz w v n xs := by
  obtain ⟨a, c, rfl, hc, hl, hx⟩ := h
  refine ⟨fun _ => rfl, fun w' hw => ?_, hl, hs⟩
  rcases hx with rfl | ⟨q, rfl, hq⟩
  · have : n = 0 := by
      rcases Nat.mul_eq_zero.1 hl.symm with h | h
      · exact h
      · omega
    subst this
    cases a with
    | none => rfl
    | some a => simp [Builtin.firstCells, loadCells, loadCellsFrom]
  · refine run_firstCells_some w' sz n q n c xs hl fun j v hj => ?_
    rcases hq with rfl | ⟨b, o, rfl, hq⟩
    · cases hj
    · rw [add_mk]
      have := hq w E j v hj
      unfold World.cell? at this ⊢
      rw [hw]; exact this
theorem BdS.zeroS {P : Program} {t e : TypeId} {sz : Nat} {k : Value → World → Prop} (E : Hs w0 F w l) (h1 : P.underlying t = some (.slice e)) (h2 : sizeK P e = some sz)
    (hk : ∀ v w', Hs w0 F w' (slA v e sz [] :: l) → k v w') : Ef P (Instr.buildSlice t 0 #[]) w k := by
  refine ⟨.slice (some ⟨w.heap.size, 0, none⟩) 0 0, w.alloc (.cells #[] e), ?_, hk _ _ (E.add (Upd.alloc w _) ⟨.inr ⟨w.heap.size, 0, 0, 0, [], [], (0, 0), rfl, ?_, rfl, by simp, by simp, Nat.le_refl _, Free.zero _⟩⟩ fun b hb => ?_)⟩
  · have hr : Array.range 0 = #[] := rfl
    simp [Instr.buildSlice, run_underlying h1, run_sizeK h2, Instr.fill, newRow, run_newObj', hr]
  · rw [heap_alloc_new]; simp [ocf]
  · have hb : some w.heap.size = some b := hb
    cases hb; exact Nat.le_refl _
theorem e_Place : el3 PP Ty.space_Place = some (some (.agg #[i64 0, i64 0]), 2, 16) := by kernel_rfl
theorem pcs_scal (ps : List Pl) : (pcs ps).all scalV = true := by
  rw [List.all_eq_true]
  intro v hv
  obtain ⟨p, -, hp⟩ := List.mem_flatMap.1 hv
  rcases List.mem_cons.1 hp with rfl | hp
  · rfl
  · rw [List.mem_singleton.1 hp]; rfl
theorem bcs_scal (bs : List Bool) : (bcs bs).all scalV = true := by
  rw [List.all_eq_true]
  intro v hv
  obtain ⟨b, -, rfl⟩ := List.mem_map.1 hv
  rfl
theorem CloneP_ok {v : Value} {ps : List Pl} (h : RdS w0 F l 2 ps.length v (pcs ps)) (hl : ps.length ≤ 100000) (E : Hs w0 F w l) :
    Ca PP Fn.slices_Clone_sl_space_Place_space_Place #[v] w fun r w' => Hs w0 F w' (slA r Ty.space_Place 2 (pcs ps) :: l) := by
  refine S.slices_Clone_sl_space_Place_space_Place.calls ?_
  unfold S.slices_Clone_sl_space_Place_space_Place
  have h' := h
  obtain ⟨a, c, rfl, hc, hln, hx⟩ := h'
  cases a with
  | none =>
    have h0 : pcs ps = [] := by
      rcases hx with h1 | ⟨p, h1, _⟩
      · exact h1
      · cases h1
    rw [h0]
    refine Eq.et u_sl_Place rfl ?_
    (repeat with_reducible refine Stp.go ?_)
    exact Hs.nilSl E _ _
  | some a =>
    refine Eq.ef u_sl_Place rfl ?_
    (repeat with_reducible refine Stp.go ?_)
    refine BdS.zeroS E u_sl_Place s_Place ?_
    clear E
    intro v1 w_ E
    refine Ap.el E (i := 0) rfl u_sl_Place ⟨_, u_sl_Place, fun _ h => by cases h⟩ e_Place (by omega) (RdS.srcS (h.cons _) (by omega) E (pcs_scal ps)) rfl (by show (0 / 2 + ps.length) * 16 ≤ _; omega) (by show 0 / 2 + ps.length ≤ _; omega) ?_
    clear E
    intro v2 w_ E
    (try simp only [List.set_cons_zero, List.set_cons_succ, List.cons_append, List.nil_append, Nat.zero_add, Nat.add_zero] at E)
    exact E
/-- The places of a path, in their own memory. -/
theorem where_okM {path : BA} (hp : path.size ≤ 1000000) (C : Ctx l R D Xs tA M K N y) [hS : FPt l K.a (spO K M.a y.sp) r1] [hT : FPt l M.a (tbO M) r2] [hW : FWP l Xs D r3] (E : Hs w0 F w l) :
    Ca PP Fn.space_Space_Where #[ptr K.a, str path] w fun r w' => ∃ v, r = .tuple #[v, i64 (y.where_ path).2] ∧ Hs w0 F w' (slA v Ty.space_Place 2 (pcs (y.where_ path).1) :: l) := by
  refine S.space_Space_Where.calls ?_
  unfold S.space_Space_Where
  refine (place_okM hp C E).mono ?_
  clear E
  rintro r w_ ⟨rfl, E⟩
  (repeat with_reducible first | refine Stp.go ?_ | (refine StpW.go E ?_; clear E; intro w_ E) | (refine StpA.go E ?_; clear E; intro b_ w_ hb_ E))
  (revert b_; intro q hbq E)
  refine Bi.neq ?_ ?_ <;> intro he <;> (repeat with_reducible first | refine Stp.go ?_ | refine StpE.go E ?_ | (refine StpW.go E ?_; clear E; intro w_ E))
  · have e : y.where_ path = ([], (y.place path).2) := by unfold Sy.where_; rw [if_pos he]
    rw [e]
    exact ⟨_, rfl, Hs.nilSl E.tl _ _⟩
  · have e : y.where_ path = ((standM y.tb.ms (y.place path).1).1, 0) := by unfold Sy.where_; rw [if_neg (fun h => h he)]
    rw [e]
    have C2 := C.cons (pt q (oc (y.place path).1.cs Ty.space_Place))
    have ht := place_ok C.inv path
    generalize (y.place path).1 = p at *
    refine (stand_okM (M := M) (p := p) C2.mv C2.tb C2.pool C2.inv.tb E).mono ?_
    clear E
    rintro r w_ ⟨v1, v2, A, rfl, E, g1, g2⟩
    (repeat with_reducible refine Stp.go ?_)
    obtain ⟨s1, s2, s3, s4⟩ := stand_ok C.inv.tb ht
    refine (CloneP_ok g1 (by omega) E).mono ?_
    clear E
    rintro r w_ E
    skip
    exact ⟨_, rfl, E.drop (((List.sublist_cons_self _ _).trans (List.sublist_cons_self _ _)).cons_cons _)⟩
end Go.Proofs.YtjffgllkfbcaeaaGreatDoor

/-
  Name spaces: flags; Places in slices of Places.
-/
namespace Go.Proofs.YtjffgllkfbcaeaaGreatDoor
open Go Go.Sh
set_option maxRecDepth 100000
set_option linter.unusedVariables false
set_option linter.unusedSimpArgs false
variable {w0 w : World} {F : Nat → Prop} {l r1 r2 r3 : List As}
variable {R : List RowS} {D : List Row} {Xs : List PT} {tA : List Nat} {M : TbM} {K : SpM} {N : Int} {y : Sy}

theorem flags_ok {flag : Int} (E : Hs w0 F w l) : Ca PP Fn.space_flags #[i64 flag] w fun r w' => r = .tuple #[i64 (wayF flag), .bool (markF flag), .bool (flagOk flag)] ∧ Hs w0 F w' l := by
  refine S.space_flags.calls ?_
  unfold S.space_flags
  refine Bi.clr' ?_
  refine Bi.and' ?_
  refine Bi.neq ?_ ?_ <;> intro hm
  · (intro J4 hJ4)
    have go : ∀ b : Bool, b = flagOk flag → J4 [i64 (clrI flag 4), .bool true, .bool b] w := by
      intro b hb
      (repeat with_reducible (apply hJ4; intro u_))
      refine ⟨?_, E⟩
      rw [hb, show markF flag = true by unfold markF; simp [hm]]
      rfl
    clear hJ4
    refine Bi.geq ?_ ?_ <;> intro h0 <;> (repeat with_reducible refine Stp.go ?_)
    · refine Bi.leq ?_ ?_ <;> intro h1 <;> (repeat with_reducible refine Stp.go ?_)
      · exact go _ (by unfold flagOk wayF; simp; omega)
      · exact go _ (by unfold flagOk wayF; simp; omega)
    · exact go _ (by unfold flagOk wayF; simp; omega)
  · (intro J4 hJ4)
    have go : ∀ b : Bool, b = flagOk flag → J4 [i64 (clrI flag 4), .bool false, .bool b] w := by
      intro b hb
      (repeat with_reducible (apply hJ4; intro u_))
      refine ⟨?_, E⟩
      rw [hb, show markF flag = false by unfold markF; simp [hm]]
      rfl
    clear hJ4
    refine Bi.geq ?_ ?_ <;> intro h0 <;> (repeat with_reducible refine Stp.go ?_)
    · refine Bi.leq ?_ ?_ <;> intro h1 <;> (repeat with_reducible refine Stp.go ?_)
      · exact go _ (by unfold flagOk wayF; simp; omega)
      · exact go _ (by unfold flagOk wayF; simp; omega)
    · exact go _ (by unfold flagOk wayF; simp; omega)
/-- A Place among others. -/
theorem IndexP_ok {v : Value} {ps : List Pl} {p : Pl} (hn : ps.length ≤ 100000) (h : RdS w0 F l 2 ps.length v (pcs ps)) (E : Hs w0 F w l) :
    Ca PP Fn.slices_Index_sl_space_Place_space_Place #[v, p.V] w fun r w' => r = i64 (if p ∈ ps then (ps.idxOf p : Int) else -1) ∧ Hs w0 F w' l := by
  refine S.slices_Index_sl_space_Place_space_Place.calls ?_
  unfold S.slices_Index_sl_space_Place_space_Place
  (repeat with_reducible (refine StpA.go E ?_; clear E; intro b_ w_ hb_ E))
  (revert b_; intro q hbq E)
  refine h.len ?_
  refine ⟨fun l1 w1 => ∃ i : Nat, l1 = [i64 i] ∧ i ≤ ps.length ∧ p ∉ ps.take i ∧ Hs w0 F w1 (pt q (oc p.cs Ty.space_Place) :: l), fun l1 _ => match l1 with | [.int _ i] => ps.length - i.toNat | _ => 0, ⟨0, rfl, Nat.zero_le _, by simp, E⟩, ?_⟩
  clear E
  rintro t u1 w1 ⟨i, e, hi, hx, E⟩
  cases e
  refine Bi.lss ?_ ?_ <;> intro hlt <;> (repeat with_reducible first | refine Stp.go ?_ | refine StpE.go E ?_ | (refine StpW.go E ?_; clear E; intro w_ E))
  · have hi1 : i < ps.length := by omega
    have hd : (pcs ps).drop (((i : Int)).toNat * 2) = ps[i].cs ++ pcs (ps.drop (i + 1)) := by
      rw [Int.toNat_natCast, pcs_drop, List.drop_eq_getElem_cons hi1]; rfl
    refine (h.cons (pt q (oc p.cs Ty.space_Place))).ix (by omega) (by omega) (by omega) ?_
    intro a ha
    rw [hd] at ha
    refine ha.lda E (m := 2) (ds := ps[i].cs) rfl rfl (by omega) ?_
    refine EqS.pl (p := p) (q := ps[i]) ?_
    have htk : ps.take (i + 1) = ps.take i ++ [ps[i]] := by rw [List.take_add_one, List.getElem?_eq_getElem hi1]; rfl
    by_cases hp : p = ps[i]
    · rw [decide_eq_true hp]
      (repeat with_reducible refine Stp.go ?_)
      refine ⟨?_, E.tl⟩
      have hm : p ∈ ps := by rw [hp]; exact List.getElem_mem hi1
      rw [if_pos hm]
      have e : ps = ps.take i ++ ps.drop i := (List.take_append_drop i ps).symm
      have e2 : ps.idxOf p = i := by
        rw [e, List.idxOf_append, if_neg hx, List.drop_eq_getElem_cons hi1, ← hp, List.idxOf_cons_self, List.length_take]
        omega
      rw [e2]
    · rw [decide_eq_false hp]
      (repeat with_reducible refine Stp.go ?_)
      refine Bi.add (by omega) ?_
      refine ⟨⟨i + 1, by simp, by omega, ?_, E⟩, by simp only []; omega⟩
      rw [htk, List.mem_append, not_or]
      exact ⟨hx, by simpa using hp⟩
  · have : ps.take i = ps := List.take_of_length_le (by omega)
    rw [this] at hx
    rw [if_neg hx]
    exact ⟨rfl, E.tl⟩
theorem ContainsP_ok {v : Value} {ps : List Pl} {p : Pl} (hn : ps.length ≤ 100000) (h : RdS w0 F l 2 ps.length v (pcs ps)) (E : Hs w0 F w l) :
    Ca PP Fn.slices_Contains_sl_space_Place_space_Place #[v, p.V] w fun r w' => r = .bool (decide (p ∈ ps)) ∧ Hs w0 F w' l := by
  refine S.slices_Contains_sl_space_Place_space_Place.calls ?_
  unfold S.slices_Contains_sl_space_Place_space_Place
  (repeat with_reducible first | refine StpE.go E ?_ | (refine StpA.go E ?_; clear E; intro b_ w_ hb_ E))
  refine (IndexP_ok hn (h.cons _) E).mono ?_
  clear E
  rintro r w_ ⟨rfl, E⟩
  by_cases hp : p ∈ ps
  · rw [if_pos hp]
    refine Bi.geq (fun _ => ?_) (fun h => absurd h (by omega))
    exact ⟨by rw [decide_eq_true hp], E.tl⟩
  · rw [if_neg hp]
    refine Bi.geq (fun h => absurd h (by omega)) (fun _ => ?_)
    exact ⟨by rw [decide_eq_false hp], E.tl⟩
end Go.Proofs.YtjffgllkfbcaeaaGreatDoor

/-
  Name spaces: whether a Place of some is among others (Bind's test); marks repeated.
-/
namespace Go.Proofs.YtjffgllkfbcaeaaGreatDoor
open Go Go.Sh
set_option maxRecDepth 100000
set_option linter.unusedVariables false
set_option linter.unusedSimpArgs false
variable {w0 w : World} {F : Nat → Prop} {l r1 r2 r3 : List As}

theorem IndexFP_ok {v fv : Value} {ps : List Pl} {p : Pl → Bool} (hn : ps.length ≤ 100000) (h : RdS w0 F l 2 ps.length v (pcs ps)) (E : Hs w0 F w l)
    (call : ∀ x : Pl, ∀ w1, Hs w0 F w1 l → CaV PP fv #[x.V] w1 fun r w' => r = .bool (p x) ∧ Hs w0 F w' l) :
    Ca PP Fn.slices_IndexFunc_sl_space_Place_space_Place #[v, fv] w fun r w' => (∃ n : Int, r = i64 n ∧ (0 ≤ n ↔ ps.any p = true)) ∧ Hs w0 F w' l := by
  refine S.slices_IndexFunc_sl_space_Place_space_Place.calls ?_
  unfold S.slices_IndexFunc_sl_space_Place_space_Place
  refine h.len ?_
  refine ⟨fun l1 w1 => ∃ i : Nat, l1 = [i64 i] ∧ i ≤ ps.length ∧ (ps.take i).any p = false ∧ Hs w0 F w1 l, fun l1 _ => match l1 with | [.int _ i] => ps.length - i.toNat | _ => 0, ⟨0, rfl, Nat.zero_le _, by simp, E⟩, ?_⟩
  clear E
  rintro t u1 w1 ⟨i, e, hi, hx, E⟩
  cases e
  refine Bi.lss ?_ ?_ <;> intro hlt <;> (repeat with_reducible refine Stp.go ?_)
  · have hi1 : i < ps.length := by omega
    have hd : (pcs ps).drop (((i : Int)).toNat * 2) = ps[i].cs ++ pcs (ps.drop (i + 1)) := by
      rw [Int.toNat_natCast, pcs_drop, List.drop_eq_getElem_cons hi1]; rfl
    refine h.ix (by omega) (by omega) (by omega) ?_
    intro a ha
    rw [hd] at ha
    refine ha.lda E (m := 2) (ds := ps[i].cs) rfl rfl (by omega) ?_
    refine (call ps[i] _ E).mono ?_
    clear E
    rintro r w_ ⟨rfl, E⟩
    have htk : (ps.take (i + 1)).any p = p ps[i] := by rw [List.take_add_one, List.getElem?_eq_getElem hi1, List.any_append, hx]; simp
    cases hb : p ps[i] with
    | true =>
      (repeat with_reducible refine Stp.go ?_)
      refine ⟨⟨i, rfl, ⟨fun _ => ?_, fun _ => by omega⟩⟩, E⟩
      rw [List.any_eq_true]; exact ⟨_, List.getElem_mem _, hb⟩
    | false =>
      (repeat with_reducible refine Stp.go ?_)
      refine Bi.add (by omega) ?_
      exact ⟨⟨i + 1, by simp, by omega, by rw [htk, hb], E⟩, by simp only []; omega⟩
  · have : ps.take i = ps := List.take_of_length_le (by omega)
    rw [this] at hx
    exact ⟨⟨-1, rfl, ⟨fun h => by omega, fun h => by rw [hx] at h; cases h⟩⟩, E⟩
theorem b_bind1 : hasBody PP Fn.space_Space_Bind_1 = true := by kernel_rfl
/-- Whether one of some Places is among others. -/
theorem anyP_ok {v sv : Value} {ps qs : List Pl} {q : Nat} (hn : ps.length ≤ 100000) (hm : qs.length ≤ 100000) (h : RdS w0 F l 2 ps.length v (pcs ps)) (h2 : RdS w0 F l 2 qs.length sv (pcs qs)) [h1 : FPt l q (oc [sv] Ty.sl_space_Place) r1] (E : Hs w0 F w l) :
    Ca PP Fn.slices_ContainsFunc_sl_space_Place_space_Place #[v, .func (.func Fn.space_Space_Bind_1) #[] #[ptr q]] w fun r w' => r = .bool (ps.any fun x => decide (x ∈ qs)) ∧ Hs w0 F w' l := by
  refine S.slices_ContainsFunc_sl_space_Place_space_Place.calls ?_
  unfold S.slices_ContainsFunc_sl_space_Place_space_Place
  refine (IndexFP_ok (p := fun x => decide (x ∈ qs)) hn h E fun x w1 E => ?_).mono ?_
  · refine CaV.mk b_bind1 ?_
    refine S.space_Space_Bind_1.calls (a0 := x.V) (a1 := ptr q) ?_
    unfold S.space_Space_Bind_1
    (repeat with_reducible first | refine StpE.go E ?_ | (refine StpA.go E ?_; clear E; intro b_ w_ hb_ E))
    refine (ContainsP_ok hm (h2.cons _) E).mono ?_
    clear E
    rintro r w_ ⟨rfl, E⟩
    exact ⟨rfl, E.tl⟩
  clear E
  rintro r w_ ⟨⟨n, rfl, hn⟩, E⟩
  refine Bi.geq ?_ ?_ <;> intro h1
  · exact ⟨by rw [hn.1 h1], E⟩
  · have : (ps.any fun x => decide (x ∈ qs)) = false := by
      cases h2 : ps.any fun x => decide (x ∈ qs) with
      | false => rfl
      | true => have := hn.2 h2; omega
    exact ⟨by rw [this], E⟩
end Go.Proofs.YtjffgllkfbcaeaaGreatDoor
