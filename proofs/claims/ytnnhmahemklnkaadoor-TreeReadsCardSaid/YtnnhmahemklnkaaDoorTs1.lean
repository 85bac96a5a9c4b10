/-
  Trees, plain: what the operations of a tree of files do, on lists, with no program in sight.
-/
import Derived.Test.YtnnhmahemklnkaaDoorTr1
import Derived.Test.YtnnhmahemklnkaaDoorSh16
namespace Go.Proofs.YtnnhmahemklnkaaDoor
open Go Go.Sh
set_option maxRecDepth 100000
set_option linter.unusedVariables false
set_option linter.unusedSimpArgs false

abbrev BA := ByteArray
def emp : BA := ⟨#[]⟩
/-- A Qid. -/
structure Qd where
  kind : Int
  vers : Int
  path : Int
abbrev Qd.cs (q : Qd) : List Value := [i64 q.kind, i64 q.vers, i64 q.path]
abbrev Qd.V (q : Qd) : Value := .agg q.cs.toArray
abbrev q0 : Qd := ⟨0, 0, 0⟩
/-- What is told of a file. -/
structure Dr where
  kind : Int
  vers : Int
  path : Int
  mode : Int
  time : Int
  len : Int
  name : BA
  owner : BA
  group : BA
  last : BA
abbrev Dr.cs (d : Dr) : List Value := [i64 d.kind, i64 d.vers, i64 d.path, i64 d.mode, i64 d.time, i64 d.len, str d.name, str d.owner, str d.group, str d.last]
abbrev Dr.V (d : Dr) : Value := .agg d.cs.toArray
abbrev d0 : Dr := ⟨0, 0, 0, 0, 0, 0, emp, emp, emp, emp⟩
/-- A file. -/
structure Nd where
  path : Int
  vers : Int
  mode : Int
  time : Int
  up : Int
  name : BA
  owner : BA
  group : BA
  last : BA
  data : BA
abbrev Nd.dir (n : Nd) : Bool := isD n.mode
def Nd.qid (n : Nd) : Qd := ⟨kindOf n.mode, n.vers, n.path⟩
def Nd.stat (n : Nd) : Dr := ⟨kindOf n.mode, n.vers, n.path, n.mode, n.time, n.data.size, n.name, n.owner, n.group, n.last⟩
/-- An open file. -/
structure Hd where
  file : Int
  mode : Int
  user : BA
/-- A tree: the files by their Paths, the handles by their numbers. -/
structure Tr where
  ns : List Nd
  clock : Int
  next : Int
  gs : List (BA × List BA)
  hs : List (Int × Hd)

def updN (ns : List Nd) (p : Int) (f : Nd → Nd) : List Nd := ns.map fun n => if n.path = p then f n else n
namespace Tr
def get (T : Tr) (p : Int) : Option Nd := T.ns.find? fun n => decide (n.path = p)
def isKid (p : Int) (n : Nd) : Bool := decide (n.path ≠ 0 ∧ n.up = p)
def kids (T : Tr) (p : Int) : List Nd := T.ns.filter (isKid p)
def kid (T : Tr) (p : Int) (s : BA) : Option Nd := (T.kids p).find? fun n => decide (n.name = s)
def upd (T : Tr) (p : Int) (f : Nd → Nd) : Tr := { T with ns := updN T.ns p f }
def parent (T : Tr) (n : Nd) : Nd := (T.get n.up).getD n
def member (T : Tr) (user group : BA) : Bool := decide (user = group) || (match getL T.gs group with | some l => l.any fun x => decide (x = user) | none => false)
def may (T : Tr) (user : BA) (n : Nd) (need : Int) : Bool := permF n.mode (decide (user = n.owner)) (T.member user n.group) need
def tick (T : Tr) : Tr := { T with clock := T.clock + 1 }
end Tr
def touchN (clock : Int) (user : BA) (n : Nd) : Nd := { n with vers := n.vers + 1, time := clock, last := user }
/-- Files that are changed. -/
def Tr.change (T : Tr) (user : BA) (ps : List Int) : Tr := ps.foldl (fun T p => T.upd p (touchN T.clock user)) T.tick
/-- The next handle, and the handles with it. -/
def holdL : List (Int × Hd) → Int → Hd → Int × List (Int × Hd)
  | [], h, x => (h, [(h, x)])
  | p :: r, h, x => if p.1 = h then ((holdL r (h + 1) x).1, p :: (holdL r (h + 1) x).2) else (h, (h, x) :: p :: r)
def rightM (m : Int) : Bool := decide (clrI m 3758096895 = 0) && (decide (andI m 2147483648 = 0) || decide (andI m 1610612736 = 0))
def needs (mode : Int) : Int :=
  let n := if andI mode 3 = 0 then 4 else if andI mode 3 = 1 then 2 else if andI mode 3 = 2 then 6 else 1
  if andI mode 16 = 0 then n else orI n 2
/-- Data of a length: cut, or with bytes 0 behind it. -/
def sized (s : BA) (n : Nat) : BA := ⟨(s.data.toList.take n ++ List.replicate (n - s.size) 0).toArray⟩
/-- Bytes of data replaced. -/
def overW (s : BA) (at_ : Nat) (d : BA) : BA := ⟨((sized s (max s.size (at_ + d.size))).data.toList.take at_ ++ d.data.toList ++ (sized s (max s.size (at_ + d.size))).data.toList.drop (at_ + d.size)).toArray⟩
def cutS (s : BA) (i j : Nat) : BA := ⟨((s.data.toList.take j).drop i).toArray⟩

namespace Tr
def hold (T : Tr) (x : Hd) : Tr × Int := ({ T with hs := (holdL T.hs 1 x).2 }, (holdL T.hs 1 x).1)
def walk (T : Tr) (user : BA) (file : Int) (name : BA) : Qd × Int :=
  match T.get file with
  | none => (q0, 4)
  | some n =>
    if !n.dir then (q0, 18) else
    if !T.may user n 1 then (q0, 17) else
    if name = ⟨#[46]⟩ then (n.qid, 0) else
    if name = ⟨#[46, 46]⟩ then ((T.parent n).qid, 0) else
    if !goodName name then (q0, 8) else
    match T.kid n.path name with
    | none => (q0, 4)
    | some k => (k.qid, 0)
def stat (T : Tr) (file : Int) : Dr × Int :=
  match T.get file with
  | none => (d0, 4)
  | some n => (n.stat, 0)
/-- What a Wstat gives a file. -/
def given (d : Dr) (n : Nd) : Nd :=
  { n with
    name := if d.name = emp then n.name else d.name
    time := if d.time = -1 then n.time else d.time
    mode := if d.mode = -1 then n.mode else d.mode
    group := if d.group = emp then n.group else d.group
    data := if d.len = -1 ∨ n.dir = true then n.data else sized n.data d.len.toNat }
def wstat (T : Tr) (user : BA) (file : Int) (d : Dr) : Tr × Int :=
  match T.get file with
  | none => (T, 4)
  | some n =>
    let moved := d.name ≠ emp ∧ d.name ≠ n.name
    if ¬(d.kind = 0 ∧ d.vers = 0 ∧ d.path = 0) ∨ d.owner ≠ emp ∨ d.last ≠ emp ∨ d.len < -1 ∨ d.time < -1 ∨ (d.name ≠ emp ∧ n.path = 0) then (T, 1) else
    if d.mode ≠ -1 ∧ (rightM d.mode = false ∨ andI d.mode 2147483648 ≠ andI n.mode 2147483648) then (T, 1) else
    if (d.name ≠ emp ∧ goodName d.name = false) ∨ (d.group ≠ emp ∧ goodName d.group = false) then (T, 8) else
    if d.len ≠ -1 ∧ d.len ≠ 0 ∧ n.dir = true then (T, 18) else
    if 1048576 < d.len then (T, 3) else
    if moved ∧ (T.kid n.up d.name).isSome then (T, 5) else
    if (moved ∧ T.may user (T.parent n) 2 = false) ∨ (d.len ≠ -1 ∧ n.dir = false ∧ T.may user n 2 = false) ∨ ((d.mode ≠ -1 ∨ d.time ≠ -1 ∨ d.group ≠ emp) ∧ user ≠ n.owner) ∨ (d.group ≠ emp ∧ T.member user d.group = false) then (T, 17) else
    if d.name = emp ∧ d.group = emp ∧ d.mode = -1 ∧ d.time = -1 ∧ d.len = -1 then (T, 0) else
    ((T.change user (file :: if moved then [n.up] else [])).upd file (given d), 0)
def openF (T : Tr) (user : BA) (file mode : Int) : Tr × Int × Qd × Int :=
  if clrI mode 83 ≠ 0 then (T, 0, q0, 20) else
  match T.get file with
  | none => (T, 0, q0, 4)
  | some n =>
    if n.dir = true ∧ mode ≠ 0 then (T, 0, q0, 18) else
    if T.may user n (needs mode) = false ∨ (andI mode 64 ≠ 0 ∧ T.may user (T.parent n) 2 = false) then (T, 0, q0, 17) else
    if andI n.mode 536870912 ≠ 0 ∧ (∃ x ∈ T.hs, x.2.file = file) then (T, 0, q0, 19) else
    if ¬ T.hs.length < 64 then (T, 0, q0, 3) else
    let cut := andI mode 16 ≠ 0 ∧ andI n.mode 1073741824 = 0
    let T1 := if cut then (T.change user [file]).upd file (fun n => { n with data := emp }) else T
    let q := if cut then { n.qid with vers := n.vers + 1 } else n.qid
    ((T1.hold ⟨file, mode, user⟩).1, (T1.hold ⟨file, mode, user⟩).2, q, 0)
/-- The mode of a new file. -/
def modeN (perm upm : Int) : Int := if andI perm 2147483648 = 0 then andI perm (orI (-439) (andI upm 438)) else andI perm (orI (-512) (andI upm 511))
def create (T : Tr) (user : BA) (dir : Int) (name : BA) (perm mode : Int) : Tr × Int × Qd × Int :=
  if clrI mode 83 ≠ 0 ∨ rightM perm = false ∨ (andI perm 2147483648 ≠ 0 ∧ mode ≠ 0) then (T, 0, q0, 20) else
  match T.get dir with
  | none => (T, 0, q0, 4)
  | some u =>
    if u.dir = false then (T, 0, q0, 18) else
    if goodName name = false ∨ goodName user = false then (T, 0, q0, 8) else
    if T.may user u 2 = false then (T, 0, q0, 17) else
    if (T.kid dir name).isSome then (T, 0, q0, 5) else
    if 1024 ≤ T.ns.length ∨ ¬ T.hs.length < 64 then (T, 0, q0, 3) else
    let T1 := T.change user [dir]
    let n : Nd := ⟨T.next, 0, modeN perm u.mode, T1.clock, dir, name, user, u.group, user, emp⟩
    let T2 : Tr := { T1 with ns := T1.ns ++ [n], next := T.next + 1 }
    ((T2.hold ⟨T.next, mode, user⟩).1, (T2.hold ⟨T.next, mode, user⟩).2, n.qid, 0)
def opened (T : Tr) (h : Int) : Option Hd := getL T.hs h
def read (T : Tr) (h off count : Int) : BA × Int :=
  match T.opened h with
  | none => (emp, 19)
  | some x =>
    if andI x.mode 3 = 1 then (emp, 20) else
    match T.get x.file with
    | none => (emp, 4)
    | some n =>
      if n.dir then (emp, 18) else
      if off < 0 ∨ count < 0 then (emp, 11) else
      if (n.data.size : Int) ≤ off then (emp, 0) else
      (cutS n.data off.toNat (off.toNat + min count.toNat (n.data.size - off.toNat)), 0)
def write (T : Tr) (h off : Int) (d : BA) : Tr × Int × Int :=
  match T.opened h with
  | none => (T, 0, 19)
  | some x =>
    if andI x.mode 3 ≠ 1 ∧ andI x.mode 3 ≠ 2 then (T, 0, 20) else
    match T.get x.file with
    | none => (T, 0, 4)
    | some n =>
      if off < 0 then (T, 0, 11) else
      if d = emp then (T, 0, 0) else
      let at_ : Int := if andI n.mode 1073741824 ≠ 0 then n.data.size else off
      if 1048576 < (d.size : Int) ∨ 1048576 - (d.size : Int) < at_ then (T, 0, 3) else
      (((T.change x.user [x.file]).upd x.file fun n => { n with data := overW n.data at_.toNat d }), d.size, 0)
/-- A file is taken out of its directory. -/
def drop (T : Tr) (user : BA) (n : Nd) : Tr := { T with ns := T.ns.filter fun x => decide (x.path ≠ n.path) }.change user [n.up]
def close (T : Tr) (h : Int) : Tr × Int :=
  match T.opened h with
  | none => (T, 19)
  | some x =>
    let T1 : Tr := { T with hs := delL T.hs h }
    match T.get x.file with
    | some n => if andI x.mode 64 ≠ 0 then (T1.drop x.user n, 0) else (T1, 0)
    | none => (T1, 0)
def remove (T : Tr) (user : BA) (file : Int) : Tr × Int :=
  match T.get file with
  | none => (T, 4)
  | some n =>
    if n.path = 0 then (T, 1) else
    if T.may user (T.parent n) 2 = false then (T, 17) else
    if 0 < (T.kids file).length then (T, 6) else
    (T.drop user n, 0)
end Tr
end Go.Proofs.YtnnhmahemklnkaaDoor
