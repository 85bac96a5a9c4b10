/-
  The protocol, plain: numbers in bytes, the least significant one first.
-/
import Derived.Test.YtmlccboapkkcfaaGreatDoorSh21
import Derived.ProofKit
import Derived.Lib.LaidU8
import Derived.Test.YtmlccboapkkcfaaGreatDoorS0
import Derived.Test.YtmlccboapkkcfaaGreatDoorS1
namespace Go.Proofs.YtmlccboapkkcfaaGreatDoor
open Go Go.Sh
set_option maxRecDepth 100000
set_option linter.unusedVariables false
set_option linter.unusedSimpArgs false
abbrev BA := ByteArray
/-- A number's first k bytes; the number that bytes are. -/
def le : Int → Nat → List UInt8
  | _, 0 => []
  | n, k + 1 => UInt8.ofNat (n % 256).toNat :: le (n / 256) k
def un : List UInt8 → Nat
  | [] => 0
  | b :: r => b.toNat + 256 * un r

theorem le_length : ∀ (k : Nat) (n : Int), (le n k).length = k
  | 0, _ => rfl
  | k + 1, n => by rw [le, List.length_cons, le_length k]

theorem un_lt : ∀ (l : List UInt8), un l < 256 ^ l.length
  | [] => by simp [un]
  | b :: r => by
    have h := un_lt r
    have hb := b.toNat_lt
    rw [un, List.length_cons, Nat.pow_succ]
    omega

theorem le_un : ∀ (l : List UInt8), le (un l) l.length = l
  | [] => rfl
  | b :: r => by
    have hb : b.toNat < 256 := b.toNat_lt
    rw [List.length_cons, le, un]
    have h1 : (((b.toNat + 256 * un r : Nat) : Int) % 256).toNat = b.toNat := by omega
    have h2 : ((b.toNat + 256 * un r : Nat) : Int) / 256 = (un r : Int) := by omega
    rw [h1, h2, le_un r]
    congr 1
    exact UInt8.ofNat_toNat

theorem un_le : ∀ (k : Nat) (n : Int), (un (le n k) : Int) = n % (256 ^ k : Nat)
  | 0, n => by rw [le, un, Nat.pow_zero]; omega
  | k + 1, n => by
    have ih := un_le k (n / 256)
    have h1 : (UInt8.ofNat (n % 256).toNat).toNat = (n % 256).toNat := by
      rw [UInt8.toNat_ofNat']; omega
    rw [le, un, h1, Nat.pow_succ]
    have h2 : ((((n % 256).toNat + 256 * un (le (n / 256) k) : Nat)) : Int) = n % 256 + 256 * (un (le (n / 256) k) : Int) := by omega
    rw [h2, ih]
    have hp : (0 : Int) < ((256 ^ k : Nat) : Int) := by exact_mod_cast Nat.pos_of_ne_zero (by simp)
    have h3 : ((256 ^ k * 256 : Nat) : Int) = 256 * ((256 ^ k : Nat) : Int) := by push_cast; omega
    rw [h3]
    have e1 := Int.emod_add_mul_ediv n 256
    have e2 := Int.emod_add_mul_ediv (n / 256) ((256 ^ k : Nat) : Int)
    generalize hq : n / 256 / ((256 ^ k : Nat) : Int) = q at e2
    generalize hr : n / 256 % ((256 ^ k : Nat) : Int) = r at e2
    have r0 : 0 ≤ r := hr ▸ Int.emod_nonneg _ (by omega)
    have r1 : r < ((256 ^ k : Nat) : Int) := hr ▸ Int.emod_lt_of_pos _ hp
    generalize ((256 ^ k : Nat) : Int) = P at *
    have e3 : n = (n % 256 + 256 * r) + 256 * P * q := by
      have : 256 * (n / 256) = 256 * r + 256 * P * q := by rw [← e2, Int.mul_add, Int.mul_assoc]
      omega
    have m0 : 0 ≤ n % 256 := by omega
    have m1 : n % 256 < 256 := by omega
    generalize n % 256 = m at *
    rw [e3, Int.add_mul_emod_self_left, Int.emod_eq_of_lt (by omega) (by omega)]

end Go.Proofs.YtmlccboapkkcfaaGreatDoor

/-
  The protocol, plain: messages, their fields, what is written and what is read.
-/
namespace Go.Proofs.YtmlccboapkkcfaaGreatDoor
open Go Go.Sh
set_option maxRecDepth 100000
set_option linter.unusedVariables false
set_option linter.unusedSimpArgs false
/-- A text's bytes. -/
abbrev bl (s : BA) : List UInt8 := s.data.toList
structure Qi where
  kind : Int
  vers : Int
  path : Int
 deriving DecidableEq
structure Di where
  q : Qi
  mode : Int
  time : Int
  len : Int
  name : List UInt8
  owner : List UInt8
  group : List UInt8
  last : List UInt8
 deriving DecidableEq
structure Ms where
  kind : Int
  tag : Int
  fid : Int
  other : Int
  old : Int
  size : Int
  off : Int
  mode : Int
  perm : Int
  ver : List UInt8
  user : List UInt8
  tree : List UInt8
  name : List UInt8
  names : List (List UInt8)
  qids : List Qi
  data : List UInt8
  dir : Di
  code : Int
 deriving DecidableEq
def q0 : Qi := ⟨0, 0, 0⟩
def d0 : Di := ⟨q0, 0, 0, 0, [], [], [], []⟩
def m0 : Ms := ⟨0, 0, 0, 0, 0, 0, 0, 0, 0, [], [], [], [], [], [], [], d0, 0⟩
/-- The fields, a letter each. -/
inductive Fl | xS | xv | xf | xu | xt | xq | xo | xc | xd | xn | xQ | xm | xN | xp | xO | xD | xi
 deriving DecidableEq
def fls (k : Int) : Option (List Fl) :=
  if k = 100 ∨ k = 101 then some [.xS, .xv] else if k = 102 then some [.xf, .xu, .xt] else if k = 103 ∨ k = 105 then some [.xq] else
  if k = 104 then some [.xf, .xo, .xu, .xt] else if k = 107 then some [.xc] else if k = 108 then some [.xd] else if k = 110 then some [.xf, .xo, .xn] else
  if k = 111 then some [.xQ] else if k = 112 then some [.xf, .xm] else if k = 113 ∨ k = 115 then some [.xq, .xS] else if k = 114 then some [.xf, .xN, .xp, .xm] else
  if k = 116 then some [.xf, .xO, .xS] else if k = 117 then some [.xD] else if k = 118 then some [.xf, .xO, .xD] else if k = 119 then some [.xS] else
  if k = 120 ∨ k = 122 ∨ k = 124 then some [.xf] else if k = 125 then some [.xi] else if k = 126 then some [.xf, .xi] else
  if k = 109 ∨ k = 121 ∨ k = 123 ∨ k = 127 then some [] else none
/-- What is written. -/
def eW (s : List UInt8) : List UInt8 := le s.length 2 ++ s
def eQ (q : Qi) : List UInt8 := le q.kind 1 ++ le q.vers 4 ++ le q.path 8
def eB (d : Di) : List UInt8 := eQ d.q ++ le d.mode 4 ++ le d.time 8 ++ le d.len 8 ++ eW d.name ++ eW d.owner ++ eW d.group ++ eW d.last
def eD (d : Di) : List UInt8 := eW (eB d)
def eF (m : Ms) : Fl → List UInt8
  | .xS => le m.size 4
  | .xv => eW m.ver
  | .xf => le m.fid 4
  | .xu => eW m.user
  | .xt => eW m.tree
  | .xq => match m.qids with | x :: _ => eQ x | [] => []
  | .xo => le m.other 4
  | .xc => le m.code 2
  | .xd => le m.old 2
  | .xn => le m.names.length 2 ++ (m.names.map eW).flatten
  | .xQ => le m.qids.length 2 ++ (m.qids.map eQ).flatten
  | .xm => le m.mode 1
  | .xN => eW m.name
  | .xp => le m.perm 4
  | .xO => le m.off 8
  | .xD => le m.data.length 4 ++ m.data
  | .xi => eD m.dir
def eFs (m : Ms) (l : List Fl) : List UInt8 := (l.map (eF m)).flatten
def eM (m : Ms) (l : List Fl) : List UInt8 :=
  le (7 + (eFs m l).length : Nat) 4 ++ le m.kind 1 ++ le m.tag 2 ++ eFs m l
/-- The ranges. -/
def inR (n : Int) (k : Nat) : Bool := decide (0 ≤ n) && decide (n < (256 ^ k : Nat))
def rQ (q : Qi) : Bool := inR q.kind 1 && inR q.vers 4 && decide (0 ≤ q.path)
def rD (d : Di) : Bool := rQ d.q && decide (-1 ≤ d.mode) && decide (d.mode < 4294967295) && decide (-1 ≤ d.time) && decide (-1 ≤ d.len)
def dB (d : Di) : Nat := 43 + d.name.length + d.owner.length + d.group.length + d.last.length
def shp (m : Ms) (l : List Fl) : Bool :=
  !((l.contains .xq && m.qids.length != 1) || (!l.contains .xq && !l.contains .xQ && m.qids.length != 0) || (!l.contains .xn && m.names.length != 0)) &&
  (l.contains .xf || m.fid == 0) && (l.contains .xo || m.other == 0) && (l.contains .xd || m.old == 0) && (l.contains .xS || m.size == 0) &&
  (l.contains .xO || m.off == 0) && (l.contains .xm || m.mode == 0) && (l.contains .xp || m.perm == 0) && (l.contains .xc || m.code == 0) &&
  (l.contains .xv || m.ver == []) && (l.contains .xu || m.user == []) && (l.contains .xt || m.tree == []) && (l.contains .xN || m.name == []) &&
  (l.contains .xD || m.data == []) && (l.contains .xi || m.dir == d0)
def rM (m : Ms) : Bool :=
  inR m.tag 2 && inR m.fid 4 && inR m.other 4 && inR m.old 2 && inR m.size 4 && decide (0 ≤ m.off) && inR m.mode 1 && inR m.perm 4 && inR m.code 2 && rD m.dir && m.qids.all rQ
def rmF (m : Ms) : Fl → Nat
  | .xS | .xf | .xo | .xp => 4
  | .xc | .xd => 2
  | .xm => 1
  | .xO => 8
  | .xv => 2 + m.ver.length
  | .xu => 2 + m.user.length
  | .xt => 2 + m.tree.length
  | .xN => 2 + m.name.length
  | .xD => 4 + m.data.length
  | .xq => 13
  | .xQ => 2 + 13 * m.qids.length
  | .xi => dB m.dir
  | .xn => 2 + (m.names.map fun s => 2 + s.length).sum
def room (m : Ms) (l : List Fl) : Nat := 7 + (l.map (rmF m)).sum
/-- What is wrong with a message: the numbers of package api (13 kind, 14 shape, 11 range, 3 limit, 2 form, 16 end). -/
def chk (m : Ms) : Int :=
  match fls m.kind with
  | none => 13
  | some l =>
    if !shp m l then 14 else if !rM m then 11 else
    if m.names.length > 16 ∨ m.qids.length > 16 ∨ (l.contains .xi = true ∧ dB m.dir > 1024) ∨ room m l > 8192 then 3 else 0
def enc (m : Ms) : List UInt8 × Int :=
  if chk m = 0 then (eM m ((fls m.kind).getD []), 0) else ([], chk m)
def chkD (d : Di) : Int := if !rD d then 11 else if dB d > 1024 then 3 else 0
def encD (d : Di) : List UInt8 × Int := if chkD d = 0 then (eD d, 0) else ([], chkD d)
/-- What is read. -/
def sg (n : Nat) : Int := if n < 9223372036854775808 then n else (n : Int) - 18446744073709551616
def mdI (n : Int) : Int := if n = 4294967295 then -1 else n
def rd (k : Nat) (s : List UInt8) : Option (Nat × List UInt8) := if k ≤ s.length then some (un (s.take k), s.drop k) else none
def rd8 (s : List UInt8) : Option (Int × List UInt8) := (rd 8 s).bind fun x => some (sg x.1, x.2)
def rdM (s : List UInt8) : Option (Int × List UInt8) := (rd 4 s).bind fun x => some (mdI x.1, x.2)
def rdN (n : Nat) (s : List UInt8) : Option (List UInt8 × List UInt8) := if n ≤ s.length then some (s.take n, s.drop n) else none
def rdW (s : List UInt8) : Option (List UInt8 × List UInt8) := (rd 2 s).bind fun x => rdN x.1 x.2
def rdQ (s : List UInt8) : Option (Qi × List UInt8) :=
  (rd 1 s).bind fun a => (rd 4 a.2).bind fun b => (rd8 b.2).bind fun c => some (⟨a.1, b.1, c.1⟩, c.2)
def rdB (s : List UInt8) : Option (Di × List UInt8) :=
  (rdQ s).bind fun q => (rdM q.2).bind fun m => (rd8 m.2).bind fun t => (rd8 t.2).bind fun n =>
  (rdW n.2).bind fun a => (rdW a.2).bind fun b => (rdW b.2).bind fun c => (rdW c.2).bind fun d =>
    some (⟨q.1, m.1, t.1, n.1, a.1, b.1, c.1, d.1⟩, d.2)
def rdD (s : List UInt8) : Option (Di × List UInt8) :=
  (rdW s).bind fun p => (rdB p.1).bind fun d => if d.2 = [] then some (d.1, p.2) else none
def rdL {α : Type} (f : List UInt8 → Option (α × List UInt8)) : Nat → List UInt8 → Option (List α × List UInt8)
  | 0, s => some ([], s)
  | n + 1, s => (f s).bind fun x => (rdL f n x.2).bind fun y => some (x.1 :: y.1, y.2)
def rdF (m : Ms) (s : List UInt8) : Fl → Option (Ms × List UInt8)
  | .xS => (rd 4 s).bind fun x => some ({ m with size := x.1 }, x.2)
  | .xv => (rdW s).bind fun x => some ({ m with ver := x.1 }, x.2)
  | .xf => (rd 4 s).bind fun x => some ({ m with fid := x.1 }, x.2)
  | .xu => (rdW s).bind fun x => some ({ m with user := x.1 }, x.2)
  | .xt => (rdW s).bind fun x => some ({ m with tree := x.1 }, x.2)
  | .xq => (rdQ s).bind fun x => some ({ m with qids := [x.1] }, x.2)
  | .xo => (rd 4 s).bind fun x => some ({ m with other := x.1 }, x.2)
  | .xc => (rd 2 s).bind fun x => some ({ m with code := x.1 }, x.2)
  | .xd => (rd 2 s).bind fun x => some ({ m with old := x.1 }, x.2)
  | .xn => (rd 2 s).bind fun x => (rdL rdW x.1 x.2).bind fun y => some ({ m with names := y.1 }, y.2)
  | .xQ => (rd 2 s).bind fun x => (rdL rdQ x.1 x.2).bind fun y => some ({ m with qids := y.1 }, y.2)
  | .xm => (rd 1 s).bind fun x => some ({ m with mode := x.1 }, x.2)
  | .xN => (rdW s).bind fun x => some ({ m with name := x.1 }, x.2)
  | .xp => (rd 4 s).bind fun x => some ({ m with perm := x.1 }, x.2)
  | .xO => (rd8 s).bind fun x => some ({ m with off := x.1 }, x.2)
  | .xD => (rd 4 s).bind fun x => (rdN x.1 x.2).bind fun y => some ({ m with data := y.1 }, y.2)
  | .xi => (rdD s).bind fun x => some ({ m with dir := x.1 }, x.2)
def rdFs : List Fl → Ms → List UInt8 → Option (Ms × List UInt8)
  | [], m, s => some (m, s)
  | f :: r, m, s => (rdF m s f).bind fun x => rdFs r x.1 x.2
/-- The message of an encoding, or an error. -/
def dec (s : List UInt8) : Ms × Int :=
  if s.length < 7 then (m0, 16) else
  if un (s.take 4) > 8192 then (m0, 3) else
  if un (s.take 4) ≠ s.length then (m0, 14) else
  let m : Ms := { m0 with kind := un ((s.drop 4).take 1), tag := un ((s.drop 5).take 2) }
  match fls m.kind with
  | none => (m0, 13)
  | some l =>
    match rdFs l m (s.drop 7) with
    | some (m, []) => if chk m = 0 then (m, 0) else (m0, chk m)
    | _ => (m0, 2)
end Go.Proofs.YtmlccboapkkcfaaGreatDoor

/-
  The protocol, plain: what was written is read again, and what is read was written so.
-/
namespace Go.Proofs.YtmlccboapkkcfaaGreatDoor
open Go Go.Sh
set_option maxRecDepth 100000
set_option linter.unusedVariables false
set_option linter.unusedSimpArgs false
theorem rd_le (n : Int) (k : Nat) (s : List UInt8) : rd k (le n k ++ s) = some ((n % (256 ^ k : Nat)).toNat, s) := by
  have h := le_length k n
  unfold rd
  rw [if_pos (by rw [List.length_append]; omega), List.take_left' h, List.drop_left' h]
  congr 2
  have := un_le k n
  omega
theorem rd_in {n : Int} {k : Nat} (h : inR n k = true) (s : List UInt8) : rd k (le n k ++ s) = some (n.toNat, s) := by
  unfold inR at h
  rw [Bool.and_eq_true, decide_eq_true_eq, decide_eq_true_eq] at h
  rw [rd_le, Int.emod_eq_of_lt h.1 h.2]
theorem rd_eq {k : Nat} {s r : List UInt8} {n : Nat} (h : rd k s = some (n, r)) : s = le n k ++ r ∧ n < 256 ^ k := by
  unfold rd at h
  split at h
  · rename_i hk
    cases h
    have hl : (s.take k).length = k := by rw [List.length_take]; omega
    have := le_un (s.take k)
    rw [hl] at this
    refine ⟨?_, ?_⟩
    · rw [this, List.take_append_drop]
    · have := un_lt (s.take k)
      rwa [hl] at this
  · cases h
theorem rdN_app (a r : List UInt8) : rdN a.length (a ++ r) = some (a, r) := by
  unfold rdN
  rw [if_pos (by rw [List.length_append]; omega), List.take_left' rfl, List.drop_left' rfl]
theorem rdN_eq {n : Nat} {s a r : List UInt8} (h : rdN n s = some (a, r)) : s = a ++ r ∧ a.length = n := by
  unfold rdN at h
  split at h
  · cases h
    exact ⟨(List.take_append_drop _ _).symm, by rw [List.length_take]; omega⟩
  · cases h
theorem rdW_eW {a : List UInt8} (h : a.length < 65536) (r : List UInt8) : rdW (eW a ++ r) = some (a, r) := by
  unfold rdW eW
  rw [List.append_assoc, rd_le, Option.bind_some]
  have : ((a.length : Int) % (256 ^ 2 : Nat)).toNat = a.length := by
    rw [show ((256 ^ 2 : Nat) : Int) = 65536 by decide]; omega
  simp only [this]
  exact rdN_app a r
theorem rdW_eq {s a r : List UInt8} (h : rdW s = some (a, r)) : s = eW a ++ r ∧ a.length < 65536 := by
  unfold rdW at h
  obtain ⟨⟨n, t⟩, h1, h2⟩ := Option.bind_eq_some_iff.1 h
  obtain ⟨rfl, hn⟩ := rd_eq h1
  obtain ⟨rfl, hl⟩ := rdN_eq h2
  refine ⟨?_, ?_⟩
  · unfold eW; rw [hl, List.append_assoc]
  · rw [hl]; exact hn
theorem sg_mod (n : Nat) (h : n < 18446744073709551616) : (sg n) % 18446744073709551616 = n := by
  unfold sg; split <;> omega
theorem le_mod : ∀ (k : Nat) {a b : Int}, a % (256 ^ k : Nat) = b % (256 ^ k : Nat) → le a k = le b k
  | k, a, b, h => by
    have e : un (le a k) = un (le b k) := by
      have h1 := un_le k a
      have h2 := un_le k b
      rw [h] at h1
      omega
    have h1 := le_un (le a k)
    have h2 := le_un (le b k)
    rw [le_length] at h1 h2
    rw [← h1, ← h2, e]
theorem le_sg {n : Nat} (h : n < 18446744073709551616) : le (sg n) 8 = le n 8 :=
  le_mod 8 (by rw [show ((256 ^ 8 : Nat) : Int) = 18446744073709551616 by decide, sg_mod n h]; omega)
theorem sg_le {n : Int} (h1 : -9223372036854775808 ≤ n) (h2 : n ≤ 9223372036854775807) : sg (n % (256 ^ 8 : Nat)).toNat = n := by
  rw [show ((256 ^ 8 : Nat) : Int) = 18446744073709551616 by decide]
  unfold sg; split <;> omega
theorem rd8_le {n : Int} (h1 : -9223372036854775808 ≤ n) (h2 : n ≤ 9223372036854775807) (r : List UInt8) : rd8 (le n 8 ++ r) = some (n, r) := by
  unfold rd8; rw [rd_le, Option.bind_some, sg_le h1 h2]
theorem rd8_eq {s r : List UInt8} {n : Int} (h : rd8 s = some (n, r)) : s = le n 8 ++ r ∧ -9223372036854775808 ≤ n ∧ n ≤ 9223372036854775807 := by
  unfold rd8 at h
  obtain ⟨⟨c, s1⟩, h1, h⟩ := Option.bind_eq_some_iff.1 h
  cases h
  obtain ⟨rfl, hc⟩ := rd_eq h1
  have hc' : c < 18446744073709551616 := hc
  refine ⟨by rw [le_sg hc'], ?_⟩
  unfold sg; split <;> omega
/-- What a machine's numbers keep to. -/
def Qi.Ok (q : Qi) : Prop := -9223372036854775808 ≤ q.path ∧ q.path ≤ 9223372036854775807
def Di.Ok (d : Di) : Prop := d.q.Ok ∧ (-9223372036854775808 ≤ d.time ∧ d.time ≤ 9223372036854775807) ∧ (-9223372036854775808 ≤ d.len ∧ d.len ≤ 9223372036854775807)
structure Ms.Ok (m : Ms) : Prop where
  off : -9223372036854775808 ≤ m.off ∧ m.off ≤ 9223372036854775807
  qids : ∀ q ∈ m.qids, q.Ok
  dir : m.dir.Ok
theorem inR_nat {n : Int} {k : Nat} (h : inR n k = true) : ((n.toNat : Nat) : Int) = n := by
  unfold inR at h
  rw [Bool.and_eq_true, decide_eq_true_eq, decide_eq_true_eq] at h
  omega
theorem rdQ_eQ {q : Qi} (h : rQ q = true) (hq : q.Ok) (r : List UInt8) : rdQ (eQ q ++ r) = some (q, r) := by
  unfold rQ at h
  simp only [Bool.and_eq_true, decide_eq_true_eq] at h
  obtain ⟨⟨h1, h2⟩, h3⟩ := h
  unfold rdQ eQ
  rw [List.append_assoc, List.append_assoc, rd_in h1, Option.bind_some, rd_in h2, Option.bind_some, rd8_le hq.1 hq.2, Option.bind_some, inR_nat h1, inR_nat h2]
theorem inR_of {n k : Nat} (h : n < 256 ^ k) : inR n k = true := by
  unfold inR; simp only [Bool.and_eq_true, decide_eq_true_eq]; exact ⟨by omega, by exact_mod_cast h⟩
theorem rdQ_eq {s r : List UInt8} {q : Qi} (h : rdQ s = some (q, r)) : s = eQ q ++ r ∧ q.Ok ∧ inR q.kind 1 = true ∧ inR q.vers 4 = true := by
  unfold rdQ at h
  obtain ⟨⟨a, s1⟩, h1, h⟩ := Option.bind_eq_some_iff.1 h
  obtain ⟨⟨b, s2⟩, h2, h⟩ := Option.bind_eq_some_iff.1 h
  obtain ⟨⟨c, s3⟩, h3, h⟩ := Option.bind_eq_some_iff.1 h
  cases h
  obtain ⟨rfl, ha⟩ := rd_eq h1
  obtain ⟨e2, hb⟩ := rd_eq h2
  obtain ⟨e3, hc⟩ := rd8_eq h3
  dsimp only at e2 e3
  subst e2
  subst e3
  exact ⟨by unfold eQ; simp only [List.append_assoc], hc, inR_of ha, inR_of hb⟩
theorem eQ_length (q : Qi) : (eQ q).length = 13 := by unfold eQ; simp only [List.length_append, le_length]
theorem eW_length (s : List UInt8) : (eW s).length = 2 + s.length := by unfold eW; simp only [List.length_append, le_length]
theorem eB_length (d : Di) : (eB d).length + 2 = dB d := by unfold eB dB; simp only [List.length_append, le_length, eQ_length, eW_length]; omega
theorem eD_length (d : Di) : (eD d).length = dB d := by unfold eD; rw [eW_length]; have := eB_length d; omega
theorem mdI_le {n : Int} (h1 : -1 ≤ n) (h2 : n < 4294967295) : mdI ((n % (256 ^ 4 : Nat)).toNat) = n := by
  rw [show ((256 ^ 4 : Nat) : Int) = 4294967296 by decide]
  unfold mdI; split <;> omega
theorem le_mdI {n : Nat} (h : n < 4294967296) : le (mdI n) 4 = le n 4 := by
  apply le_mod
  rw [show ((256 ^ 4 : Nat) : Int) = 4294967296 by decide]
  unfold mdI; split <;> omega
theorem rdM_le {n : Int} (h1 : -1 ≤ n) (h2 : n < 4294967295) (r : List UInt8) : rdM (le n 4 ++ r) = some (n, r) := by
  unfold rdM; rw [rd_le, Option.bind_some, mdI_le h1 h2]
theorem rdM_eq {s r : List UInt8} {n : Int} (h : rdM s = some (n, r)) : s = le n 4 ++ r ∧ -1 ≤ n ∧ n < 4294967295 := by
  unfold rdM at h
  obtain ⟨⟨c, s1⟩, h1, h⟩ := Option.bind_eq_some_iff.1 h
  cases h
  obtain ⟨rfl, hc⟩ := rd_eq h1
  have hc' : c < 4294967296 := hc
  refine ⟨by rw [le_mdI hc'], ?_⟩
  unfold mdI; split <;> omega
theorem rdB_eB {d : Di} (h : rD d = true) (hd : d.Ok) (hl : dB d ≤ 65536) (r : List UInt8) : rdB (eB d ++ r) = some (d, r) := by
  unfold rD at h
  simp only [Bool.and_eq_true, decide_eq_true_eq] at h
  obtain ⟨⟨⟨⟨h1, h2⟩, h3⟩, h4⟩, h5⟩ := h
  unfold dB at hl
  unfold rdB eB
  simp only [List.append_assoc]
  rw [rdQ_eQ h1 hd.1, Option.bind_some, rdM_le h2 h3, Option.bind_some, rd8_le hd.2.1.1 hd.2.1.2, Option.bind_some, rd8_le hd.2.2.1 hd.2.2.2, Option.bind_some,
    rdW_eW (by omega), Option.bind_some, rdW_eW (by omega), Option.bind_some, rdW_eW (by omega), Option.bind_some, rdW_eW (by omega), Option.bind_some]
theorem rdB_eq {s r : List UInt8} {d : Di} (h : rdB s = some (d, r)) : s = eB d ++ r ∧ d.Ok ∧ inR d.q.kind 1 = true ∧ inR d.q.vers 4 = true ∧ -1 ≤ d.mode ∧ d.mode < 4294967295 := by
  unfold rdB at h
  obtain ⟨⟨q, s1⟩, h1, h⟩ := Option.bind_eq_some_iff.1 h
  obtain ⟨⟨m, s2⟩, h2, h⟩ := Option.bind_eq_some_iff.1 h
  obtain ⟨⟨t, s3⟩, h3, h⟩ := Option.bind_eq_some_iff.1 h
  obtain ⟨⟨n, s4⟩, h4, h⟩ := Option.bind_eq_some_iff.1 h
  obtain ⟨⟨x1, s5⟩, h5, h⟩ := Option.bind_eq_some_iff.1 h
  obtain ⟨⟨x2, s6⟩, h6, h⟩ := Option.bind_eq_some_iff.1 h
  obtain ⟨⟨x3, s7⟩, h7, h⟩ := Option.bind_eq_some_iff.1 h
  obtain ⟨⟨x4, s8⟩, h8, h⟩ := Option.bind_eq_some_iff.1 h
  cases h
  dsimp only at *
  obtain ⟨rfl, ok, hk, hv⟩ := rdQ_eq h1
  obtain ⟨rfl, hm⟩ := rdM_eq h2
  obtain ⟨rfl, ht⟩ := rd8_eq h3
  obtain ⟨rfl, hn⟩ := rd8_eq h4
  obtain ⟨rfl, _⟩ := rdW_eq h5
  obtain ⟨rfl, _⟩ := rdW_eq h6
  obtain ⟨rfl, _⟩ := rdW_eq h7
  obtain ⟨rfl, _⟩ := rdW_eq h8
  exact ⟨by unfold eB; simp only [List.append_assoc], ⟨ok, ht, hn⟩, hk, hv, hm⟩
theorem rdD_eq {s r : List UInt8} {d : Di} (h : rdD s = some (d, r)) : s = eD d ++ r ∧ d.Ok ∧ inR d.q.kind 1 = true ∧ inR d.q.vers 4 = true ∧ -1 ≤ d.mode ∧ d.mode < 4294967295 := by
  unfold rdD at h
  obtain ⟨⟨p, s1⟩, h1, h⟩ := Option.bind_eq_some_iff.1 h
  obtain ⟨⟨d1, s2⟩, h2, h⟩ := Option.bind_eq_some_iff.1 h
  try dsimp only at h h2
  split at h
  · cases h
    subst_vars
    obtain ⟨rfl, _⟩ := rdW_eq h1
    obtain ⟨rfl, h3⟩ := rdB_eq h2
    refine ⟨?_, h3⟩
    rw [List.append_nil]; rfl
  · cases h
theorem rdL_eq {α : Type} {f : List UInt8 → Option (α × List UInt8)} {e : α → List UInt8} {Q : α → Prop} (hf : ∀ s x r, f s = some (x, r) → s = e x ++ r ∧ Q x) : ∀ {n : Nat} {s r : List UInt8} {l : List α}, rdL f n s = some (l, r) → s = (l.map e).flatten ++ r ∧ l.length = n ∧ ∀ x ∈ l, Q x
  | 0, s, r, l, h => by
    rw [rdL] at h
    cases h
    exact ⟨rfl, rfl, by simp⟩
  | n + 1, s, r, l, h => by
    rw [rdL] at h
    obtain ⟨⟨x, s1⟩, h1, h⟩ := Option.bind_eq_some_iff.1 h
    obtain ⟨⟨y, s2⟩, h2, h⟩ := Option.bind_eq_some_iff.1 h
    cases h
    obtain ⟨rfl, hx⟩ := hf _ _ _ h1
    obtain ⟨e2, hl, hy⟩ := rdL_eq hf h2
    dsimp only at e2
    subst e2
    refine ⟨by rw [List.map_cons, List.flatten_cons, List.append_assoc], by rw [List.length_cons, hl], ?_⟩
    intro z hz
    rcases List.mem_cons.1 hz with rfl | hz
    · exact hx
    · exact hy z hz
end Go.Proofs.YtmlccboapkkcfaaGreatDoor

/-
  The protocol, plain: whole messages.
-/
namespace Go.Proofs.YtmlccboapkkcfaaGreatDoor
open Go Go.Sh
set_option maxRecDepth 100000
set_option linter.unusedVariables false
set_option linter.unusedSimpArgs false
/-- One field of M. -/
def setF (M m : Ms) : Fl → Ms
  | .xS => { m with size := M.size }
  | .xv => { m with ver := M.ver }
  | .xf => { m with fid := M.fid }
  | .xu => { m with user := M.user }
  | .xt => { m with tree := M.tree }
  | .xq => { m with qids := M.qids }
  | .xo => { m with other := M.other }
  | .xc => { m with code := M.code }
  | .xd => { m with old := M.old }
  | .xn => { m with names := M.names }
  | .xQ => { m with qids := M.qids }
  | .xm => { m with mode := M.mode }
  | .xN => { m with name := M.name }
  | .xp => { m with perm := M.perm }
  | .xO => { m with off := M.off }
  | .xD => { m with data := M.data }
  | .xi => { m with dir := M.dir }
def samF (m M : Ms) : Fl → Prop
  | .xS => m.size = M.size
  | .xv => m.ver = M.ver
  | .xf => m.fid = M.fid
  | .xu => m.user = M.user
  | .xt => m.tree = M.tree
  | .xq => m.qids = M.qids
  | .xo => m.other = M.other
  | .xc => m.code = M.code
  | .xd => m.old = M.old
  | .xn => m.names = M.names
  | .xQ => m.qids = M.qids
  | .xm => m.mode = M.mode
  | .xN => m.name = M.name
  | .xp => m.perm = M.perm
  | .xO => m.off = M.off
  | .xD => m.data = M.data
  | .xi => m.dir = M.dir
def qQ (f g : Fl) : Prop := (f = .xq ∧ g = .xQ) ∨ (f = .xQ ∧ g = .xq)
theorem samF_set {M m : Ms} {f g : Fl} (h : f ≠ g) (h2 : ¬ qQ f g) : samF (setF M m g) m f := by
  cases f <;> cases g <;> first | rfl | exact absurd rfl h | exact absurd (.inl ⟨rfl, rfl⟩) h2 | exact absurd (.inr ⟨rfl, rfl⟩) h2
theorem samF_refl (m : Ms) (f : Fl) : samF m m f := by cases f <;> rfl
theorem samF.symm {m M : Ms} {f : Fl} (h : samF m M f) : samF M m f := by cases f <;> exact Eq.symm h
theorem samF.trans {a b c : Ms} {f : Fl} (h : samF a b f) (h2 : samF b c f) : samF a c f := by cases f <;> exact Eq.trans h h2
theorem samF_fold {M : Ms} {f : Fl} : ∀ {l : List Fl} {m : Ms} (h : f ∉ l) (h2 : ∀ g ∈ l, ¬ qQ f g), samF (l.foldl (setF M) m) m f
  | [], m, _, _ => samF_refl m f
  | g :: l, m, h, h2 => by
    rw [List.foldl_cons]
    exact (samF_fold (fun hh => h (List.mem_cons_of_mem _ hh)) fun x hx => h2 x (List.mem_cons_of_mem _ hx)).trans (samF_set (fun e => h (e ▸ List.mem_cons_self)) (h2 g List.mem_cons_self))
theorem eF_sam {m M : Ms} {f : Fl} (h : samF m M f) : eF m f = eF M f := by
  cases f <;> (simp only [samF] at h; simp only [eF, h])
theorem setF_sam {m M N : Ms} {f : Fl} (h : samF M N f) : setF M m f = setF N m f := by
  cases f <;> (simp only [samF] at h; simp only [setF, h])
/-- A field that can be written and read. -/
def okF (M : Ms) : Fl → Prop
  | .xS => inR M.size 4 = true
  | .xv => M.ver.length < 65536
  | .xf => inR M.fid 4 = true
  | .xu => M.user.length < 65536
  | .xt => M.tree.length < 65536
  | .xq => ∃ x, M.qids = [x] ∧ rQ x = true ∧ x.Ok
  | .xo => inR M.other 4 = true
  | .xc => inR M.code 2 = true
  | .xd => inR M.old 2 = true
  | .xn => M.names.length < 65536 ∧ ∀ s ∈ M.names, s.length < 65536
  | .xQ => M.qids.length < 65536 ∧ ∀ x ∈ M.qids, rQ x = true ∧ x.Ok
  | .xm => inR M.mode 1 = true
  | .xN => M.name.length < 65536
  | .xp => inR M.perm 4 = true
  | .xO => 0 ≤ M.off ∧ M.off ≤ 9223372036854775807
  | .xD => M.data.length < 4294967296
  | .xi => rD M.dir = true ∧ M.dir.Ok ∧ dB M.dir ≤ 1024
theorem len_mod2 {n : Nat} (h : n < 65536) : (((n : Int) % (256 ^ 2 : Nat)).toNat) = n := by
  rw [show ((256 ^ 2 : Nat) : Int) = 65536 by decide]; omega
/-- What a field that was read keeps to. -/
def gtF (M : Ms) : Fl → Prop
  | .xS => inR M.size 4 = true
  | .xf => inR M.fid 4 = true
  | .xq => (∃ x, M.qids = [x]) ∧ ∀ x ∈ M.qids, x.Ok ∧ inR x.kind 1 = true ∧ inR x.vers 4 = true
  | .xo => inR M.other 4 = true
  | .xc => inR M.code 2 = true
  | .xd => inR M.old 2 = true
  | .xQ => M.qids.length < 65536 ∧ ∀ x ∈ M.qids, x.Ok ∧ inR x.kind 1 = true ∧ inR x.vers 4 = true
  | .xm => inR M.mode 1 = true
  | .xp => inR M.perm 4 = true
  | .xO => -9223372036854775808 ≤ M.off ∧ M.off ≤ 9223372036854775807
  | .xi => M.dir.Ok ∧ inR M.dir.q.kind 1 = true ∧ inR M.dir.q.vers 4 = true ∧ -1 ≤ M.dir.mode ∧ M.dir.mode < 4294967295
  | _ => True
theorem rdF_eq {m M : Ms} {s r : List UInt8} {f : Fl} (h : rdF m s f = some (M, r)) : s = eF M f ++ r ∧ M = setF M m f ∧ gtF M f := by
  cases f <;> simp only [rdF] at h <;> obtain ⟨⟨x, s1⟩, h1, h⟩ := Option.bind_eq_some_iff.1 h
  case xS | xf | xo | xc | xd | xm | xp =>
    cases h; obtain ⟨rfl, hx⟩ := rd_eq h1
    exact ⟨rfl, rfl, inR_of hx⟩
  case xv | xu | xt | xN =>
    cases h; obtain ⟨rfl, hx⟩ := rdW_eq h1
    exact ⟨rfl, rfl, trivial⟩
  case xq =>
    cases h; obtain ⟨rfl, hx⟩ := rdQ_eq h1
    exact ⟨rfl, rfl, ⟨_, rfl⟩, fun y hy => by rw [List.mem_singleton.1 hy]; exact hx⟩
  case xn =>
    obtain ⟨⟨y, s2⟩, h2, h⟩ := Option.bind_eq_some_iff.1 h
    cases h; obtain ⟨rfl, hx⟩ := rd_eq h1
    obtain ⟨e2, hl, _⟩ := rdL_eq (e := eW) (fun s x r h => rdW_eq h) h2
    dsimp only at e2 hl
    subst e2
    refine ⟨?_, rfl, trivial⟩
    simp only [eF, hl, List.append_assoc]
  case xQ =>
    obtain ⟨⟨y, s2⟩, h2, h⟩ := Option.bind_eq_some_iff.1 h
    cases h; obtain ⟨rfl, hx⟩ := rd_eq h1
    obtain ⟨e2, hl, hq⟩ := rdL_eq (e := eQ) (fun s x r h => rdQ_eq h) h2
    dsimp only at e2 hl
    subst e2
    refine ⟨?_, rfl, by rw [hl]; exact hx, hq⟩
    simp only [eF, hl, List.append_assoc]
  case xO =>
    cases h; obtain ⟨rfl, hx⟩ := rd8_eq h1
    exact ⟨rfl, rfl, hx⟩
  case xD =>
    obtain ⟨⟨y, s2⟩, h2, h⟩ := Option.bind_eq_some_iff.1 h
    cases h; obtain ⟨rfl, hx⟩ := rd_eq h1
    obtain ⟨e2, hl⟩ := rdN_eq h2
    dsimp only at e2 hl
    subst e2
    refine ⟨?_, rfl, trivial⟩
    simp only [eF, hl, List.append_assoc]
  case xi =>
    cases h; obtain ⟨rfl, hx⟩ := rdD_eq h1
    exact ⟨rfl, rfl, hx⟩
theorem gtF_sam {m M : Ms} {f : Fl} (h : samF m M f) (g : gtF m f) : gtF M f := by
  cases f <;> simp only [samF] at h <;> simp only [gtF] at g ⊢ <;> (try rw [← h]) <;> exact g
def okL : List Fl → Prop
  | [] => True
  | f :: l => f ∉ l ∧ (∀ g ∈ l, ¬ qQ f g) ∧ okL l
theorem rdFs_eq : ∀ {l : List Fl} (hl : okL l) {m M : Ms} {s r : List UInt8} (h : rdFs l m s = some (M, r)), s = eFs M l ++ r ∧ M = l.foldl (setF M) m ∧ ∀ f ∈ l, gtF M f
  | [], _, m, M, s, r, h => by
    rw [rdFs] at h
    cases h
    exact ⟨rfl, rfl, by simp⟩
  | f :: l, hl, m, M, s, r, h => by
    rw [rdFs] at h
    obtain ⟨⟨m1, s1⟩, h1, h2⟩ := Option.bind_eq_some_iff.1 h
    obtain ⟨rfl, e1, g1⟩ := rdF_eq h1
    obtain ⟨e2, e3, g3⟩ := rdFs_eq hl.2.2 h2
    dsimp only at e2 e3
    subst e2
    have hs : samF m1 M f := by
      have := samF_fold (M := M) (m := m1) hl.1 hl.2.1
      rw [← e3] at this
      exact this.symm
    refine ⟨?_, ?_, ?_⟩
    · rw [eF_sam hs, ← List.append_assoc]; rfl
    · rw [List.foldl_cons, ← setF_sam (m := m) hs, ← e1]; exact e3
    · intro g hg
      rcases List.mem_cons.1 hg with rfl | hg
      · exact gtF_sam hs g1
      · exact g3 g hg
end Go.Proofs.YtmlccboapkkcfaaGreatDoor

/-
  The protocol, plain: encodings and messages are one to one.
-/
namespace Go.Proofs.YtmlccboapkkcfaaGreatDoor
open Go Go.Sh
set_option maxRecDepth 100000
set_option linter.unusedVariables false
set_option linter.unusedSimpArgs false
def allL : List (List Fl) := [[.xS, .xv], [.xf, .xu, .xt], [.xq], [.xf, .xo, .xu, .xt], [.xc], [.xd], [.xf, .xo, .xn], [.xQ], [.xf, .xm], [.xq, .xS], [.xf, .xN, .xp, .xm], [.xf, .xO, .xS], [.xD], [.xf, .xO, .xD], [.xS], [.xf], [.xi], [.xf, .xi], []]
theorem fls_both {k : Int} {l : List Fl} (h : fls k = some l) : l ∈ allL ∧ 100 ≤ k ∧ k ≤ 127 := by
  unfold fls at h
  by_cases c0 : k = 100 ∨ k = 101
  · rw [if_pos c0] at h; cases h; exact ⟨by decide, by omega⟩
  rw [if_neg c0] at h
  by_cases c1 : k = 102
  · rw [if_pos c1] at h; cases h; exact ⟨by decide, by omega⟩
  rw [if_neg c1] at h
  by_cases c2 : k = 103 ∨ k = 105
  · rw [if_pos c2] at h; cases h; exact ⟨by decide, by omega⟩
  rw [if_neg c2] at h
  by_cases c3 : k = 104
  · rw [if_pos c3] at h; cases h; exact ⟨by decide, by omega⟩
  rw [if_neg c3] at h
  by_cases c4 : k = 107
  · rw [if_pos c4] at h; cases h; exact ⟨by decide, by omega⟩
  rw [if_neg c4] at h
  by_cases c5 : k = 108
  · rw [if_pos c5] at h; cases h; exact ⟨by decide, by omega⟩
  rw [if_neg c5] at h
  by_cases c6 : k = 110
  · rw [if_pos c6] at h; cases h; exact ⟨by decide, by omega⟩
  rw [if_neg c6] at h
  by_cases c7 : k = 111
  · rw [if_pos c7] at h; cases h; exact ⟨by decide, by omega⟩
  rw [if_neg c7] at h
  by_cases c8 : k = 112
  · rw [if_pos c8] at h; cases h; exact ⟨by decide, by omega⟩
  rw [if_neg c8] at h
  by_cases c9 : k = 113 ∨ k = 115
  · rw [if_pos c9] at h; cases h; exact ⟨by decide, by omega⟩
  rw [if_neg c9] at h
  by_cases c10 : k = 114
  · rw [if_pos c10] at h; cases h; exact ⟨by decide, by omega⟩
  rw [if_neg c10] at h
  by_cases c11 : k = 116
  · rw [if_pos c11] at h; cases h; exact ⟨by decide, by omega⟩
  rw [if_neg c11] at h
  by_cases c12 : k = 117
  · rw [if_pos c12] at h; cases h; exact ⟨by decide, by omega⟩
  rw [if_neg c12] at h
  by_cases c13 : k = 118
  · rw [if_pos c13] at h; cases h; exact ⟨by decide, by omega⟩
  rw [if_neg c13] at h
  by_cases c14 : k = 119
  · rw [if_pos c14] at h; cases h; exact ⟨by decide, by omega⟩
  rw [if_neg c14] at h
  by_cases c15 : k = 120 ∨ k = 122 ∨ k = 124
  · rw [if_pos c15] at h; cases h; exact ⟨by decide, by omega⟩
  rw [if_neg c15] at h
  by_cases c16 : k = 125
  · rw [if_pos c16] at h; cases h; exact ⟨by decide, by omega⟩
  rw [if_neg c16] at h
  by_cases c17 : k = 126
  · rw [if_pos c17] at h; cases h; exact ⟨by decide, by omega⟩
  rw [if_neg c17] at h
  by_cases c18 : k = 109 ∨ k = 121 ∨ k = 123 ∨ k = 127
  · rw [if_pos c18] at h; cases h; exact ⟨by decide, by omega⟩
  rw [if_neg c18] at h
  cases h
theorem fls_mem {k : Int} {l : List Fl} (h : fls k = some l) : l ∈ allL := (fls_both h).1
theorem fls_rng {k : Int} {l : List Fl} (h : fls k = some l) : 100 ≤ k ∧ k ≤ 127 := (fls_both h).2
theorem okL_all : ∀ l ∈ allL, okL l := by
  intro l hl
  simp only [allL, List.mem_cons, List.not_mem_nil, or_false] at hl
  rcases hl with rfl | rfl | rfl | rfl | rfl | rfl | rfl | rfl | rfl | rfl | rfl | rfl | rfl | rfl | rfl | rfl | rfl | rfl | rfl <;> simp [okL, qQ]
theorem fold_shp {M : Ms} {k t : Int} {l : List Fl} (hl : l ∈ allL) (h : M = l.foldl (setF M) { m0 with kind := k, tag := t }) (hq : .xq ∈ l → ∃ x, M.qids = [x]) : shp M l = true ∧ M.kind = k ∧ M.tag = t := by
  simp only [allL, List.mem_cons, List.not_mem_nil, or_false] at hl
  cases M
  rcases hl with rfl | rfl | rfl | rfl | rfl | rfl | rfl | rfl | rfl | rfl | rfl | rfl | rfl | rfl | rfl | rfl | rfl | rfl | rfl <;>
    (simp [setF, m0] at h; first | (simp [shp, h]; done) | (obtain ⟨x, hq⟩ := hq (by simp); dsimp only at hq; simp [shp, h, hq]))
theorem rm_len {m : Ms} {f : Fl} (h : f = .xq → ∃ x, m.qids = [x]) : (eF m f).length = rmF m f := by
  cases f <;> simp only [eF, rmF, le_length, eW_length, eD_length, List.length_append]
  case xq => obtain ⟨x, hx⟩ := h rfl; rw [hx]; exact eQ_length x
  case xn =>
    rw [List.length_flatten, List.map_map]
    congr 2
    apply List.map_congr_left
    intro s _
    exact eW_length s
  case xQ =>
    congr 1
    induction m.qids with
    | nil => rfl
    | cons x r ih => rw [List.map_cons, List.flatten_cons, List.length_append, eQ_length, ih, List.length_cons]; omega
theorem shp_q {m : Ms} {l : List Fl} (h : shp m l = true) (hq : .xq ∈ l) : ∃ x, m.qids = [x] := by
  have : m.qids.length = 1 := by
    have hc : l.contains Fl.xq = true := List.contains_iff_mem.2 hq
    simp only [shp, hc, Bool.true_and, Bool.not_true, Bool.false_and, Bool.false_or, Bool.or_false, Bool.and_eq_true, Bool.not_eq_true', Bool.or_eq_false_iff] at h
    simpa using h.1.1.1.1.1.1.1.1.1.1.1.1.1.1.1
  exact List.length_eq_one_iff.1 this
theorem eFs_len {m : Ms} {l : List Fl} (h : shp m l = true) : 7 + (eFs m l).length = room m l := by
  unfold room eFs
  rw [List.length_flatten, List.map_map]
  congr 2
  apply List.map_congr_left
  intro f hf
  exact rm_len fun e => shp_q h (e ▸ hf)
theorem rm_le {m : Ms} : ∀ {l : List Fl} {f : Fl} (hf : f ∈ l), rmF m f ≤ (l.map (rmF m)).sum
  | g :: l, f, hf => by
    rw [List.map_cons, List.sum_cons]
    rcases List.mem_cons.1 hf with rfl | hf
    · omega
    · have := rm_le (m := m) hf; omega
theorem nm_le : ∀ {l : List (List UInt8)} {s : List UInt8} (hs : s ∈ l), 2 + s.length ≤ (l.map fun s => 2 + s.length).sum
  | g :: l, s, hs => by
    rw [List.map_cons, List.sum_cons]
    rcases List.mem_cons.1 hs with rfl | hs
    · omega
    · have := nm_le hs; omega
end Go.Proofs.YtmlccboapkkcfaaGreatDoor

/-
  The protocol, plain: what the program's writer of fields leaves, and the errors that it keeps, are the message's.
-/
namespace Go.Proofs.YtmlccboapkkcfaaGreatDoor
open Go Go.Sh
set_option maxRecDepth 100000
set_option linter.unusedVariables false
set_option linter.unusedSimpArgs false
/-- A writer of fields: its bytes, whether a number was out of range, whether a limit was. -/
structure Ou where
  s : List UInt8
  bad : Bool
  ov : Bool
def o0 : Ou := ⟨[], false, false⟩
def Ou.num (o : Ou) (n : Int) (k : Nat) : Ou := if inR n k = true then { o with s := o.s ++ le n k } else { o with bad := true }
def Ou.least (o : Ou) (n b : Int) : Ou := { o with s := o.s ++ le n 8, bad := o.bad || decide (n < b) }
def Ou.put (o : Ou) (n : Int) (k : Nat) : Ou := if inR n k = true then { o with s := o.s ++ le n k } else o
def Ou.mode (o : Ou) (n : Int) : Ou :=
  if n < -1 ∨ 4294967295 ≤ n then { o with bad := true }.put n 4 else if n = -1 then o.put 4294967295 4 else o.put n 4
def Ou.sized (o : Ou) (t : List UInt8) (k : Nat) : Ou :=
  if inR t.length k = true ∧ t.length ≤ 8192 then { o with s := o.s ++ le t.length k ++ t } else { o.put t.length k with ov := true }
def Ou.count (o : Ou) (n : Nat) : Ou := { o with ov := o.ov || decide (n > 16) }.put n 2
def Ou.qid (o : Ou) (q : Qi) : Ou := ((o.num q.kind 1).num q.vers 4).least q.path 0
def Ou.body (o : Ou) (d : Di) : Ou :=
  (((((((o.qid d.q).mode d.mode).least d.time (-1)).least d.len (-1)).sized d.name 2).sized d.owner 2).sized d.group 2).sized d.last 2
def Ou.dir (o : Ou) (d : Di) : Ou :=
  let i := o0.body d
  { o with bad := o.bad || i.bad, ov := o.ov || i.ov || decide (i.s.length + 2 > 1024) }.sized i.s 2
def Ou.fld (m : Ms) (o : Ou) : Fl → Ou
  | .xS => o.num m.size 4
  | .xv => o.sized m.ver 2
  | .xf => o.num m.fid 4
  | .xu => o.sized m.user 2
  | .xt => o.sized m.tree 2
  | .xq => match m.qids with | x :: _ => o.qid x | [] => o
  | .xo => o.num m.other 4
  | .xc => o.num m.code 2
  | .xd => o.num m.old 2
  | .xn => m.names.foldl (fun o s => o.sized s 2) (o.count m.names.length)
  | .xQ => m.qids.foldl Ou.qid (o.count m.qids.length)
  | .xm => o.num m.mode 1
  | .xN => o.sized m.name 2
  | .xp => o.num m.perm 4
  | .xO => o.least m.off 0
  | .xD => o.sized m.data 4
  | .xi => o.dir m.dir
/-- o' is o with the bytes e behind; b: a number out of range; v: a limit. -/
structure GG (o o' : Ou) (e : List UInt8) (b v : Bool) : Prop where
  bad : o'.bad = (o.bad || b)
  ov : o'.bad = false → o'.ov = (o.ov || v)
  s : o'.bad = false → v = false → o'.s = o.s ++ e
theorem GG.refl (o : Ou) : GG o o [] false false := ⟨by simp, fun _ => by simp, fun _ _ => by simp⟩
theorem GG.trans {a b c : Ou} {e f : List UInt8} {x y u v : Bool} (h : GG a b e x u) (k : GG b c f y v) : GG a c (e ++ f) (x || y) (u || v) := by
  refine ⟨by rw [k.bad, h.bad, Bool.or_assoc], fun hb => ?_, fun hb hv => ?_⟩
  · have hb' : b.bad = false := by have := k.bad; rw [hb] at this; simpa using (Bool.or_eq_false_iff.1 this.symm).1
    rw [k.ov hb, h.ov hb', Bool.or_assoc]
  · have hb' : b.bad = false := by have := k.bad; rw [hb] at this; simpa using (Bool.or_eq_false_iff.1 this.symm).1
    obtain ⟨h1, h2⟩ := Bool.or_eq_false_iff.1 hv
    rw [k.s hb h2, h.s hb' h1, List.append_assoc]
theorem GG.cast {o o' : Ou} {e f : List UInt8} {x y u v : Bool} (h : GG o o' e x u) (h1 : e = f) (h2 : x = y) (h3 : u = v) : GG o o' f y v := h1 ▸ h2 ▸ h3 ▸ h
theorem num_gg (o : Ou) (n : Int) (k : Nat) : GG o (o.num n k) (le n k) (!inR n k) false := by
  unfold Ou.num
  split
  · rename_i h; exact ⟨by simp [h], fun _ => by simp, fun _ _ => rfl⟩
  · rename_i h
    have h' : inR n k = false := by simpa using h
    exact ⟨by simp [h'], fun hb => by simp at hb, fun hb => by simp at hb⟩
theorem least_gg (o : Ou) (n b : Int) : GG o (o.least n b) (le n 8) (decide (n < b)) false :=
  ⟨rfl, fun _ => by simp [Ou.least], fun _ _ => rfl⟩
theorem mode_gg (o : Ou) (n : Int) : GG o (o.mode n) (le n 4) (!(decide (-1 ≤ n) && decide (n < 4294967295))) false := by
  unfold Ou.mode
  split
  · rename_i h
    have h' : (decide (-1 ≤ n) && decide (n < 4294967295)) = false := by
      rw [Bool.and_eq_false_iff, decide_eq_false_iff_not, decide_eq_false_iff_not]; omega
    rw [h']
    have hb : (Ou.put { o with bad := true } n 4).bad = true := by unfold Ou.put; split <;> rfl
    exact ⟨by simp [hb], fun h => absurd (hb.symm.trans h) (by decide), fun h => absurd (hb.symm.trans h) (by decide)⟩
  · rename_i h
    have h' : (decide (-1 ≤ n) && decide (n < 4294967295)) = true := by
      rw [Bool.and_eq_true, decide_eq_true_eq, decide_eq_true_eq]; omega
    rw [h']
    split
    · rename_i h1
      subst h1
      unfold Ou.put
      rw [if_pos (by decide)]
      exact ⟨by simp, fun _ => by simp, fun _ _ => by simp only []; rw [show le (-1) 4 = le 4294967295 4 by decide]⟩
    · rename_i h1
      unfold Ou.put
      have : inR n 4 = true := by
        unfold inR; rw [Bool.and_eq_true, decide_eq_true_eq, decide_eq_true_eq, show ((256 ^ 4 : Nat) : Int) = 4294967296 by decide]; omega
      rw [if_pos this]
      exact ⟨by simp, fun _ => by simp, fun _ _ => rfl⟩
theorem sized_gg (o : Ou) (t : List UInt8) {k : Nat} (hk : 8192 < 256 ^ k) : GG o (o.sized t k) (le t.length k ++ t) false (decide (t.length > 8192)) := by
  unfold Ou.sized
  split
  · rename_i h
    have h' : decide (t.length > 8192) = false := by rw [decide_eq_false_iff_not]; omega
    rw [h']
    exact ⟨by simp, fun _ => by simp, fun _ _ => by simp⟩
  · rename_i h
    have h' : decide (t.length > 8192) = true := by
      rw [decide_eq_true_eq]
      by_cases hl : t.length ≤ 8192
      · exact absurd ⟨inR_of (by omega), hl⟩ h
      · omega
    rw [h']
    refine ⟨?_, fun _ => by simp, fun _ hv => by cases hv⟩
    show (o.put _ _).bad = _
    unfold Ou.put; split <;> simp
theorem count_gg (o : Ou) (n : Nat) : GG o (o.count n) (le n 2) false (decide (n > 16)) := by
  unfold Ou.count Ou.put
  split
  · exact ⟨by simp, fun _ => rfl, fun _ _ => rfl⟩
  · rename_i h
    refine ⟨by simp, fun _ => rfl, fun _ hv => ?_⟩
    rw [decide_eq_false_iff_not] at hv
    exact absurd (inR_of (by show _ < 65536; omega)) h
theorem qid_gg (o : Ou) (q : Qi) : GG o (o.qid q) (eQ q) (!rQ q) false := by
  refine (((num_gg o q.kind 1).trans (num_gg _ q.vers 4)).trans (least_gg _ q.path 0)).cast rfl ?_ rfl
  unfold rQ
  have : decide (q.path < 0) = !decide (0 ≤ q.path) := by rw [← decide_not]; apply decide_eq_decide.2; omega
  rw [this, Bool.not_and, Bool.not_and]
theorem body_gg (o : Ou) (d : Di) : GG o (o.body d) (eB d) (!rD d) (decide (d.name.length > 8192) || decide (d.owner.length > 8192) || decide (d.group.length > 8192) || decide (d.last.length > 8192)) := by
  have hk : 8192 < 256 ^ 2 := by decide
  refine ((((((((qid_gg o d.q).trans (mode_gg _ d.mode)).trans (least_gg _ d.time (-1))).trans (least_gg _ d.len (-1))).trans (sized_gg _ d.name hk)).trans (sized_gg _ d.owner hk)).trans (sized_gg _ d.group hk)).trans (sized_gg _ d.last hk)).cast rfl ?_ (by simp)
  unfold rD
  have h1 : decide (d.time < -1) = !decide (-1 ≤ d.time) := by rw [← decide_not]; apply decide_eq_decide.2; omega
  have h2 : decide (d.len < -1) = !decide (-1 ≤ d.len) := by rw [← decide_not]; apply decide_eq_decide.2; omega
  rw [h1, h2]
  cases rQ d.q <;> cases decide (-1 ≤ d.mode) <;> cases decide (d.mode < 4294967295) <;> cases decide (-1 ≤ d.time) <;> cases decide (-1 ≤ d.len) <;> rfl
theorem dir_gg (o : Ou) (d : Di) : GG o (o.dir d) (eD d) (!rD d) (decide (dB d > 1024)) := by
  have h := body_gg o0 d
  have hk : 8192 < 256 ^ 2 := by decide
  have hs := sized_gg { o with bad := o.bad || (o0.body d).bad, ov := o.ov || (o0.body d).ov || decide ((o0.body d).s.length + 2 > 1024) } (o0.body d).s hk
  have hb : (o0.body d).bad = !rD d := by rw [h.bad]; simp [o0]
  have hl := eB_length d
  have e1 : (o.dir d).bad = (o.bad || !rD d) := by
    show (Ou.sized _ _ _).bad = _
    rw [hs.bad, hb]; simp
  have key : (o.dir d).bad = false → (o0.body d).bad = false ∧ ((o0.body d).ov = false → (o0.body d).s = eB d) ∧ ((o0.body d).ov = true → dB d > 1024) := by
    intro hh
    have hb' : (o0.body d).bad = false := by rw [e1] at hh; rw [hb]; exact (Bool.or_eq_false_iff.1 hh).2
    refine ⟨hb', fun hov => ?_, fun hov => ?_⟩
    · have := h.ov hb'
      rw [hov] at this
      have := h.s hb' (by simpa [o0] using this.symm)
      simpa [o0] using this
    · have := h.ov hb'
      rw [hov] at this
      simp only [o0, Bool.false_or] at this
      have := this.symm
      simp only [Bool.or_eq_true, decide_eq_true_eq] at this
      unfold dB; omega
  refine ⟨e1, fun hh => ?_, fun hh hv => ?_⟩
  · obtain ⟨hb', h1, h2⟩ := key hh
    have := hs.ov hh
    refine this.trans ?_
    rw [Bool.or_assoc, Bool.or_assoc]
    refine congrArg (o.ov || ·) ?_
    cases hov : (o0.body d).ov with
    | true => rw [decide_eq_true (h2 hov)]; simp
    | false =>
      rw [h1 hov, hl, Bool.false_or]
      by_cases hd : dB d > 1024
      · rw [decide_eq_true hd, Bool.true_or]
      · rw [decide_eq_false hd, Bool.false_or, decide_eq_false_iff_not]; omega
  · obtain ⟨hb', h1, h2⟩ := key hh
    rw [decide_eq_false_iff_not] at hv
    have hov : (o0.body d).ov = false := by
      cases hov : (o0.body d).ov with
      | true => exact absurd (h2 hov) hv
      | false => rfl
    have e := h1 hov
    have := hs.s hh (by rw [e, decide_eq_false_iff_not]; omega)
    refine this.trans ?_
    rw [e]
    rfl
theorem names_gg : ∀ (l : List (List UInt8)) (o : Ou), GG o (l.foldl (fun o s => o.sized s 2) o) (l.map eW).flatten false (l.any fun s => decide (s.length > 8192))
  | [], o => GG.refl o
  | x :: l, o => by
    rw [List.foldl_cons, List.map_cons, List.flatten_cons, List.any_cons]
    exact ((sized_gg o x (by decide)).trans (names_gg l _)).cast rfl rfl rfl
theorem qids_gg : ∀ (l : List Qi) (o : Ou), GG o (l.foldl Ou.qid o) (l.map eQ).flatten (!l.all rQ) false
  | [], o => GG.refl o
  | x :: l, o => by
    rw [List.foldl_cons, List.map_cons, List.flatten_cons, List.all_cons]
    exact ((qid_gg o x).trans (qids_gg l _)).cast rfl (by rw [Bool.not_and]) rfl
def bF (m : Ms) : Fl → Bool
  | .xS => !inR m.size 4
  | .xf => !inR m.fid 4
  | .xq | .xQ => !m.qids.all rQ
  | .xo => !inR m.other 4
  | .xc => !inR m.code 2
  | .xd => !inR m.old 2
  | .xm => !inR m.mode 1
  | .xp => !inR m.perm 4
  | .xO => decide (m.off < 0)
  | .xi => !rD m.dir
  | _ => false
def vF (m : Ms) : Fl → Bool
  | .xv => decide (m.ver.length > 8192)
  | .xu => decide (m.user.length > 8192)
  | .xt => decide (m.tree.length > 8192)
  | .xN => decide (m.name.length > 8192)
  | .xD => decide (m.data.length > 8192)
  | .xn => decide (m.names.length > 16) || m.names.any fun s => decide (s.length > 8192)
  | .xQ => decide (m.qids.length > 16)
  | .xi => decide (dB m.dir > 1024)
  | _ => false
theorem fld_gg {m : Ms} (o : Ou) {g : Fl} (h : g = .xq → ∃ x, m.qids = [x]) : GG o (o.fld m g) (eF m g) (bF m g) (vF m g) := by
  have hk : 8192 < 256 ^ 2 := by decide
  cases g <;> simp only [Ou.fld, eF, bF, vF]
  case xS | xf | xo | xc | xd | xm | xp => exact num_gg _ _ _
  case xv | xu | xt | xN => exact sized_gg _ _ hk
  case xD => exact sized_gg _ _ (by decide)
  case xO => exact least_gg _ _ _
  case xi => exact dir_gg _ _
  case xq =>
    obtain ⟨x, hx⟩ := h rfl
    rw [hx]
    exact (qid_gg o x).cast rfl (by simp) rfl
  case xn => exact ((count_gg o m.names.length).trans (names_gg m.names _)).cast rfl rfl rfl
  case xQ => exact ((count_gg o m.qids.length).trans (qids_gg m.qids _)).cast rfl (by simp) (by simp)
def Ou.flds (m : Ms) (l : List Fl) (o : Ou) : Ou := l.foldl (Ou.fld m) o
theorem flds_gg {m : Ms} : ∀ {l : List Fl} (h : .xq ∈ l → ∃ x, m.qids = [x]) (o : Ou), GG o (Ou.flds m l o) (eFs m l) (l.any (bF m)) (l.any (vF m))
  | [], _, o => GG.refl o
  | g :: l, h, o => by
    have e : eFs m (g :: l) = eF m g ++ eFs m l := by unfold eFs; rw [List.map_cons, List.flatten_cons]
    rw [e, List.any_cons, List.any_cons]
    exact (fld_gg o fun hg => h (hg ▸ List.mem_cons_self)).trans (flds_gg (fun hm => h (List.mem_cons_of_mem _ hm)) _)
/-- Numbers out of range. -/
theorem rM_any {m : Ms} {l : List Fl} (hl : l ∈ allL) (h : shp m l = true) : rM m = (inR m.tag 2 && !(l.any (bF m))) := by
  have z2 : inR 0 2 = true := by decide
  have z4 : inR 0 4 = true := by decide
  have z1 : inR 0 1 = true := by decide
  have zd : rD d0 = true := by decide
  have ho : ∀ n : Int, decide (n < 0) = !decide (0 ≤ n) := by intro n; rw [← decide_not]; apply decide_eq_decide.2; omega
  simp only [allL, List.mem_cons, List.not_mem_nil, or_false] at hl
  cases m
  rcases hl with rfl | rfl | rfl | rfl | rfl | rfl | rfl | rfl | rfl | rfl | rfl | rfl | rfl | rfl | rfl | rfl | rfl | rfl | rfl <;>
    (simp [shp] at h; simp [rM, bF, h, z1, z2, z4, zd, ho, Bool.and_assoc, Bool.and_comm, Bool.and_left_comm])
end Go.Proofs.YtmlccboapkkcfaaGreatDoor

/-
  The protocol, plain: what the program's Encode computes is the encoding.
-/
namespace Go.Proofs.YtmlccboapkkcfaaGreatDoor
open Go Go.Sh
set_option maxRecDepth 100000
set_option linter.unusedVariables false
set_option linter.unusedSimpArgs false
theorem shp_names {m : Ms} {l : List Fl} (h : shp m l = true) (hn : m.names ≠ []) : .xn ∈ l := by
  by_cases hc : l.contains Fl.xn = true
  · exact List.contains_iff_mem.1 hc
  · have hc' : l.contains Fl.xn = false := by simpa using hc
    have : (m.names.length != 0) = true := by simpa using hn
    unfold shp at h
    rw [hc', this] at h
    simp at h
theorem shp_qids {m : Ms} {l : List Fl} (h : shp m l = true) (hn : m.qids.length > 1) : .xQ ∈ l := by
  by_cases hq : Fl.xq ∈ l
  · obtain ⟨x, hx⟩ := shp_q h hq
    rw [hx] at hn
    exact absurd hn (by simp)
  by_cases hc : l.contains Fl.xQ = true
  · exact List.contains_iff_mem.1 hc
  · have hc' : l.contains Fl.xQ = false := by simpa using hc
    have hq' : l.contains Fl.xq = false := by
      cases e : l.contains Fl.xq with
      | false => rfl
      | true => exact absurd (List.contains_iff_mem.1 e) hq
    have h2 : (m.qids.length != 0) = true := by rw [bne_iff_ne]; omega
    unfold shp at h
    rw [hc', hq', h2] at h
    simp at h
theorem lim_any {m : Ms} {l : List Fl} (h : shp m l = true) : (l.any (vF m) = true ∨ room m l > 8192) ↔ (m.names.length > 16 ∨ m.qids.length > 16 ∨ (l.contains .xi = true ∧ dB m.dir > 1024) ∨ room m l > 8192) := by
  constructor
  · rintro (h1 | h1)
    · obtain ⟨g, hg, hv⟩ := List.any_eq_true.1 h1
      have hr := rm_le (m := m) hg
      have hroom : (l.map (rmF m)).sum ≤ room m l := by unfold room; omega
      cases g <;> simp only [vF, Bool.or_eq_true, decide_eq_true_eq] at hv <;> simp only [rmF] at hr
      case xv | xu | xt | xN | xD => omega
      case xn =>
        rcases hv with hv | hv
        · exact .inl hv
        · obtain ⟨s, hs, hv⟩ := List.any_eq_true.1 hv
          have := nm_le hs
          rw [decide_eq_true_eq] at hv
          omega
      case xQ => exact .inr (.inl hv)
      case xi => exact .inr (.inr (.inl ⟨List.contains_iff_mem.2 hg, hv⟩))
      all_goals cases hv
    · exact .inr (.inr (.inr h1))
  · rintro (h1 | h1 | ⟨h1, h2⟩ | h1)
    · refine .inl (List.any_eq_true.2 ⟨.xn, shp_names h (by intro e; rw [e] at h1; simp at h1), ?_⟩)
      simp [vF, h1]
    · refine .inl (List.any_eq_true.2 ⟨.xQ, shp_qids h (by omega), ?_⟩)
      simp [vF, h1]
    · refine .inl (List.any_eq_true.2 ⟨.xi, List.contains_iff_mem.1 h1, ?_⟩)
      simp [vF, h2]
    · exact .inr h1
def ouM (m : Ms) (l : List Fl) : Ou := Ou.flds m l ((o0.num m.kind 1).num m.tag 2)
def encP (m : Ms) : List UInt8 × Int :=
  match fls m.kind with
  | none => ([], 13)
  | some l =>
    if !shp m l then ([], 14) else
    if (ouM m l).bad then ([], 11) else
    if (ouM m l).ov || decide ((ouM m l).s.length + 4 > 8192) then ([], 3) else (le ((ouM m l).s.length + 4 : Nat) 4 ++ (ouM m l).s, 0)
theorem encP_enc (m : Ms) : encP m = enc m := by
  unfold encP enc chk
  cases hl : fls m.kind with
  | none => rfl
  | some l =>
    simp only [Option.getD_some]
    by_cases hs : shp m l = true
    rotate_left
    · have : shp m l = false := by simpa using hs
      rw [this]; rfl
    rw [hs]
    simp only [Bool.not_true, Bool.false_eq_true, if_false]
    have ha := fls_mem hl
    have hk := fls_rng hl
    have hki : inR m.kind 1 = true := by
      unfold inR; rw [Bool.and_eq_true, decide_eq_true_eq, decide_eq_true_eq, show ((256 ^ 1 : Nat) : Int) = 256 by decide]; omega
    have g : GG o0 (ouM m l) (le m.kind 1 ++ le m.tag 2 ++ eFs m l) (!inR m.kind 1 || !inR m.tag 2 || l.any (bF m)) (l.any (vF m)) :=
      (((num_gg o0 m.kind 1).trans (num_gg _ m.tag 2)).trans (flds_gg (fun hq => shp_q hs hq) _)).cast rfl rfl (by simp)
    have hb : (ouM m l).bad = !rM m := by
      rw [g.bad, rM_any ha hs, hki]
      simp [o0]
    rw [hb]
    cases hr : rM m with
    | false => simp
    | true =>
      rw [hr] at hb
      simp only [Bool.not_true, Bool.false_eq_true, if_false] at hb ⊢
      have hv : (ouM m l).ov = l.any (vF m) := by rw [g.ov hb]; simp [o0]
      have hlim := lim_any hs
      have hlen := eFs_len hs
      have hL : l.any (vF m) = false → (ouM m l).s = le m.kind 1 ++ le m.tag 2 ++ eFs m l := fun h0 => by rw [g.s hb h0]; rfl
      by_cases hc : m.names.length > 16 ∨ m.qids.length > 16 ∨ (l.contains .xi = true ∧ dB m.dir > 1024) ∨ room m l > 8192
      · simp only [if_pos hc]
        rw [if_pos, if_neg (by decide)]
        rw [hv]
        rcases hlim.2 hc with h1 | h1
        · rw [h1]; rfl
        · cases h2 : l.any (vF m) with
          | true => rfl
          | false =>
            rw [Bool.false_or, decide_eq_true_eq, hL h2]
            simp only [List.length_append, le_length]
            omega
      · simp only [if_neg hc]
        have h0 : l.any (vF m) = false := by
          cases h2 : l.any (vF m) with
          | true => exact absurd (hlim.1 (.inl h2)) hc
          | false => rfl
        have h3 : ¬ room m l > 8192 := fun h => hc (hlim.1 (.inr h))
        rw [if_neg, if_pos trivial]
        · unfold eM
          rw [hL h0]
          have : (le m.kind 1 ++ le m.tag 2 ++ eFs m l).length + 4 = 7 + (eFs m l).length := by
            simp only [List.length_append, le_length]; omega
          rw [this]
          simp only [List.append_assoc]
        · rw [hv, h0, hL h0, Bool.false_or, decide_eq_true_eq]
          simp only [List.length_append, le_length]
          omega
def encDP (d : Di) : List UInt8 × Int :=
  if (o0.dir d).bad then ([], 11) else if (o0.dir d).ov then ([], 3) else ((o0.dir d).s, 0)
theorem encDP_encD (d : Di) : encDP d = encD d := by
  have g := dir_gg o0 d
  unfold encDP encD chkD
  have hb : (o0.dir d).bad = !rD d := by rw [g.bad]; simp [o0]
  rw [hb]
  cases hr : rD d with
  | false => simp
  | true =>
    rw [hr] at hb
    simp only [Bool.not_true, Bool.false_eq_true, if_false] at hb ⊢
    have hv : (o0.dir d).ov = decide (dB d > 1024) := by rw [g.ov hb]; simp [o0]
    rw [hv]
    by_cases hd : dB d > 1024
    · simp [hd]
    · have := g.s hb (by rw [decide_eq_false_iff_not]; exact hd)
      have e : (o0.dir d).s = eD d := by rw [this]; rfl
      simp [hd, e]
end Go.Proofs.YtmlccboapkkcfaaGreatDoor

/-
  The protocol, plain: what the program's reader of fields computes is what is read.
-/
namespace Go.Proofs.YtmlccboapkkcfaaGreatDoor
open Go Go.Sh
set_option maxRecDepth 100000
set_option linter.unusedVariables false
set_option linter.unusedSimpArgs false
/-- A reader of fields: the bytes that are left, whether it stopped, and what was wrong. -/
structure Ip where
  r : List UInt8
  err : Bool
  bad : Bool
  ov : Bool
  cut : Bool
def i0 (s : List UInt8) : Ip := ⟨s, false, false, false, false⟩
def Ip.num (i : Ip) (k : Nat) : Nat × Ip :=
  if i.err then (0, { i with cut := true }) else
  match rd k i.r with
  | some x => (x.1, { i with r := x.2 })
  | none => (0, { i with err := true, cut := true })
def Ip.least (i : Ip) (b : Int) : Int × Ip :=
  if i.err then (0, { i with cut := true, bad := i.bad || decide (0 < b) }) else
  match rd 8 i.r with
  | some x => (sg x.1, { i with r := x.2, bad := i.bad || decide (sg x.1 < b) })
  | none => (0, { i with err := true, cut := true, bad := i.bad || decide (0 < b) })
def Ip.raw (i : Ip) (n : Nat) : List UInt8 × Ip :=
  if i.err then ([], { i with cut := true }) else
  match rdN n i.r with
  | some x => (x.1, { i with r := x.2 })
  | none => ([], { i with err := true, cut := true })
def Ip.sized (i : Ip) (k : Nat) : List UInt8 × Ip := let x := i.num k; x.2.raw x.1
def Ip.mode (i : Ip) : Int × Ip := let x := i.num 4; (mdI x.1, x.2)
def Ip.count (i : Ip) : Nat × Ip := let x := i.num 2; (x.1, { x.2 with ov := x.2.ov || decide (x.1 > 16) })
def Ip.loop {α : Type} (f : Ip → α × Ip) : Nat → Ip → List α × Ip
  | 0, i => ([], i)
  | n + 1, i => if i.cut then ([], i) else let x := f i; let y := Ip.loop f n x.2; (x.1 :: y.1, y.2)
def Ip.qid (i : Ip) : Qi × Ip :=
  let a := i.num 1; let b := a.2.num 4; let c := b.2.least 0; (⟨a.1, b.1, c.1⟩, c.2)
def Ip.body (i : Ip) : Di × Ip :=
  let q := i.qid; let m := q.2.mode; let t := m.2.least (-1); let n := t.2.least (-1)
  let a := n.2.sized 2; let b := a.2.sized 2; let c := b.2.sized 2; let d := c.2.sized 2
  (⟨q.1, m.1, t.1, n.1, a.1, b.1, c.1, d.1⟩, d.2)
def Ip.fin (i : Ip) : Ip := { i with err := i.err || !i.r.isEmpty, cut := i.err || !i.r.isEmpty || i.cut }
def Ip.dir (i : Ip) : Di × Ip :=
  let s := i.sized 2
  let d := (i0 s.1).body
  let e := d.2.fin
  (d.1, { s.2 with bad := s.2.bad || e.bad, cut := s.2.cut || e.cut, ov := s.2.ov || e.ov || decide (s.1.length + 2 > 1024) })
def Ip.fld (m : Ms) (i : Ip) : Fl → Ms × Ip
  | .xS => let x := i.num 4; ({ m with size := x.1 }, x.2)
  | .xv => let x := i.sized 2; ({ m with ver := x.1 }, x.2)
  | .xf => let x := i.num 4; ({ m with fid := x.1 }, x.2)
  | .xu => let x := i.sized 2; ({ m with user := x.1 }, x.2)
  | .xt => let x := i.sized 2; ({ m with tree := x.1 }, x.2)
  | .xq => let x := i.qid; ({ m with qids := [x.1] }, x.2)
  | .xo => let x := i.num 4; ({ m with other := x.1 }, x.2)
  | .xc => let x := i.num 2; ({ m with code := x.1 }, x.2)
  | .xd => let x := i.num 2; ({ m with old := x.1 }, x.2)
  | .xn => let c := i.count; let x := Ip.loop (Ip.sized · 2) c.1 c.2; ({ m with names := x.1 }, x.2)
  | .xQ => let c := i.count; let x := Ip.loop Ip.qid c.1 c.2; ({ m with qids := x.1 }, x.2)
  | .xm => let x := i.num 1; ({ m with mode := x.1 }, x.2)
  | .xN => let x := i.sized 2; ({ m with name := x.1 }, x.2)
  | .xp => let x := i.num 4; ({ m with perm := x.1 }, x.2)
  | .xO => let x := i.least 0; ({ m with off := x.1 }, x.2)
  | .xD => let x := i.sized 4; ({ m with data := x.1 }, x.2)
  | .xi => let x := i.dir; ({ m with dir := x.1 }, x.2)
def Ip.flds : List Fl → Ms → Ip → Ms × Ip
  | [], m, i => (m, i)
  | f :: l, m, i => let x := Ip.fld m i f; Ip.flds l x.1 x.2
/-- An operation o of a reader against what is to be read: p; b, v: what is wrong with what was read. -/
structure HH {α : Type} (i : Ip) (o : α × Ip) (p : Option (α × List UInt8)) (b v : α → Bool) : Prop where
  cut : i.cut = true → o.2.cut = true
  ok : i.cut = false → i.err = false → ∀ x, p = some x → o.1 = x.1 ∧ o.2.r = x.2 ∧ o.2.err = false ∧ o.2.cut = false ∧ o.2.bad = (i.bad || b x.1) ∧ o.2.ov = (i.ov || v x.1)
  no : i.cut = false → i.err = false → p = none → o.2.cut = true
def ff {α : Type} (_ : α) : Bool := false
theorem num_hh (i : Ip) (k : Nat) : HH i (i.num k) (rd k i.r) ff ff := by
  unfold Ip.num
  refine ⟨fun h => ?_, fun h he x hx => ?_, fun h he hx => ?_⟩
  · split
    · rfl
    · split <;> first | exact h | rfl
  · rw [if_neg (by simp [he])]; simp only [hx]; simp [ff, h, he]
  · rw [if_neg (by simp [he])]; simp only [hx]
theorem least_hh (i : Ip) (b : Int) (hb : b ≤ 0) : HH i (i.least b) (rd8 i.r) (fun n => decide (n < b)) ff := by
  unfold Ip.least rd8
  refine ⟨fun h => ?_, fun h he x hx => ?_, fun h he hx => ?_⟩
  · split
    · rfl
    · split <;> first | exact h | rfl
  · rw [if_neg (by simp [he])]
    obtain ⟨y, hy, hx⟩ := Option.bind_eq_some_iff.1 hx
    cases hx
    simp only [hy]; simp [ff, h, he]
  · rw [if_neg (by simp [he])]
    cases hr : rd 8 i.r with
    | none => rfl
    | some y => rw [hr] at hx; cases hx
theorem raw_hh (i : Ip) (n : Nat) : HH i (i.raw n) (rdN n i.r) ff ff := by
  unfold Ip.raw
  refine ⟨fun h => ?_, fun h he x hx => ?_, fun h he hx => ?_⟩
  · split
    · rfl
    · split <;> first | exact h | rfl
  · rw [if_neg (by simp [he])]; simp only [hx]; simp [ff, h, he]
  · rw [if_neg (by simp [he])]; simp only [hx]
theorem HH.seq {α β : Type} {i : Ip} {o : α × Ip} {p : Option (α × List UInt8)} {b v : α → Bool} (h : HH i o p b v) {o2 : β × Ip} {q : α × List UInt8 → Option (β × List UInt8)} {b2 v2 b3 v3 : β → Bool}
    (k : HH o.2 o2 (q (o.1, o.2.r)) b2 v2) (hb : ∀ x y, p = some x → q x = some y → (b x.1 || b2 y.1) = b3 y.1) (hv : ∀ x y, p = some x → q x = some y → (v x.1 || v2 y.1) = v3 y.1) : HH i o2 (p.bind q) b3 v3 := by
  refine ⟨fun hc => k.cut (h.cut hc), fun hc he y hy => ?_, fun hc he hn => ?_⟩
  · obtain ⟨x, hx, hy⟩ := Option.bind_eq_some_iff.1 hy
    obtain ⟨e1, e2, e3, e4, e5, e6⟩ := h.ok hc he x hx
    have hq : q (o.1, o.2.r) = some y := by rw [e1, e2]; exact hy
    obtain ⟨f1, f2, f3, f4, f5, f6⟩ := k.ok e4 e3 y hq
    exact ⟨f1, f2, f3, f4, by rw [f5, e5, Bool.or_assoc, hb x y hx hy], by rw [f6, e6, Bool.or_assoc, hv x y hx hy]⟩
  · cases hp : p with
    | none => exact k.cut (h.no hc he hp)
    | some x =>
      obtain ⟨e1, e2, e3, e4, e5, e6⟩ := h.ok hc he x hp
      rw [hp, Option.bind_some] at hn
      exact k.no e4 e3 (by rw [e1, e2]; exact hn)
theorem HH.map {α β : Type} {i : Ip} {o : α × Ip} {p : Option (α × List UInt8)} {b v : α → Bool} (h : HH i o p b v) {g : α → β} {b2 v2 : β → Bool} (hb : ∀ x, b x = b2 (g x)) (hv : ∀ x, v x = v2 (g x)) : HH i (g o.1, o.2) (p.bind fun x => some (g x.1, x.2)) b2 v2 := by
  refine ⟨h.cut, fun hc he y hy => ?_, fun hc he hn => ?_⟩
  · obtain ⟨x, hx, hy⟩ := Option.bind_eq_some_iff.1 hy
    cases hy
    obtain ⟨e1, e2, e3, e4, e5, e6⟩ := h.ok hc he x hx
    exact ⟨by rw [e1], e2, e3, e4, by rw [e5, hb], by rw [e6, hv]⟩
  · cases hp : p with
    | none => exact h.no hc he hp
    | some x => rw [hp] at hn; cases hn
theorem HH.refl {α : Type} (i : Ip) (x : α) : HH i (x, i) (some (x, i.r)) ff ff :=
  ⟨fun h => h, fun hc he y hy => by cases hy; simp [ff, hc, he], fun _ _ hn => by cases hn⟩
theorem sized_hh (i : Ip) (k : Nat) : HH i (i.sized k) ((rd k i.r).bind fun x => rdN x.1 x.2) ff ff :=
  (num_hh i k).seq (raw_hh _ _) (fun _ _ _ _ => rfl) (fun _ _ _ _ => rfl)
theorem mode_hh (i : Ip) : HH i i.mode (rdM i.r) ff ff :=
  (num_hh i 4).map (g := fun n : Nat => mdI n) (fun _ => rfl) (fun _ => rfl)
def bQ (q : Qi) : Bool := decide (q.path < 0)
def bD (d : Di) : Bool := bQ d.q || decide (d.time < -1) || decide (d.len < -1)
theorem qid_hh (i : Ip) : HH i i.qid (rdQ i.r) bQ ff :=
  (num_hh i 1).seq (b2 := bQ) (v2 := ff) ((num_hh _ 4).seq (b2 := bQ) (v2 := ff)
    ((least_hh _ 0 (by omega)).map (g := fun c : Int => (⟨_, _, c⟩ : Qi)) (fun _ => rfl) (fun _ => rfl)) (fun _ _ _ _ => rfl) (fun _ _ _ _ => rfl)) (fun _ _ _ _ => rfl) (fun _ _ _ _ => rfl)
theorem body_hh (i : Ip) : HH i i.body (rdB i.r) bD ff := by
  unfold rdB
  refine (qid_hh i).seq (b2 := fun d => decide (d.time < -1) || decide (d.len < -1)) (v2 := ff) ?_ (fun x y hx hy => ?_) (fun _ _ _ _ => rfl)
  · refine (mode_hh _).seq (b2 := fun d => decide (d.time < -1) || decide (d.len < -1)) (v2 := ff) ?_ (fun _ _ _ _ => rfl) (fun _ _ _ _ => rfl)
    refine (least_hh _ (-1) (by omega)).seq (b2 := fun d => decide (d.len < -1)) (v2 := ff) ?_ (fun x y hx hy => ?_) (fun _ _ _ _ => rfl)
    · refine (least_hh _ (-1) (by omega)).seq (b2 := ff) (v2 := ff) ?_ (fun x y hx hy => ?_) (fun _ _ _ _ => rfl)
      · refine (sized_hh _ 2).seq (b2 := ff) (v2 := ff) ?_ (fun _ _ _ _ => rfl) (fun _ _ _ _ => rfl)
        refine (sized_hh _ 2).seq (b2 := ff) (v2 := ff) ?_ (fun _ _ _ _ => rfl) (fun _ _ _ _ => rfl)
        refine (sized_hh _ 2).seq (b2 := ff) (v2 := ff) ?_ (fun _ _ _ _ => rfl) (fun _ _ _ _ => rfl)
        exact (sized_hh _ 2).map (g := fun c => (⟨_, _, _, _, _, _, _, c⟩ : Di)) (fun _ => rfl) (fun _ => rfl)
      · obtain ⟨a, _, hy⟩ := Option.bind_eq_some_iff.1 hy
        obtain ⟨b, _, hy⟩ := Option.bind_eq_some_iff.1 hy
        obtain ⟨c, _, hy⟩ := Option.bind_eq_some_iff.1 hy
        obtain ⟨d, _, hy⟩ := Option.bind_eq_some_iff.1 hy
        cases hy
        simp [ff]
    · obtain ⟨n, _, hy⟩ := Option.bind_eq_some_iff.1 hy
      obtain ⟨a, _, hy⟩ := Option.bind_eq_some_iff.1 hy
      obtain ⟨b, _, hy⟩ := Option.bind_eq_some_iff.1 hy
      obtain ⟨c, _, hy⟩ := Option.bind_eq_some_iff.1 hy
      obtain ⟨d, _, hy⟩ := Option.bind_eq_some_iff.1 hy
      cases hy
      rfl
  · obtain ⟨m, _, hy⟩ := Option.bind_eq_some_iff.1 hy
    obtain ⟨t, _, hy⟩ := Option.bind_eq_some_iff.1 hy
    obtain ⟨n, _, hy⟩ := Option.bind_eq_some_iff.1 hy
    obtain ⟨a, _, hy⟩ := Option.bind_eq_some_iff.1 hy
    obtain ⟨b, _, hy⟩ := Option.bind_eq_some_iff.1 hy
    obtain ⟨c, _, hy⟩ := Option.bind_eq_some_iff.1 hy
    obtain ⟨d, _, hy⟩ := Option.bind_eq_some_iff.1 hy
    cases hy
    simp [bD, Bool.or_assoc]
theorem count_hh (i : Ip) : HH i i.count (rd 2 i.r) ff (fun n => decide (n > 16)) := by
  have h := num_hh i 2
  refine ⟨h.cut, fun hc he x hx => ?_, h.no⟩
  obtain ⟨e1, e2, e3, e4, e5, e6⟩ := h.ok hc he x hx
  refine ⟨e1, e2, e3, e4, e5, ?_⟩
  show ((i.num 2).2.ov || decide ((i.num 2).1 > 16)) = _
  rw [e6, e1]; simp [ff]
theorem loop_hh {α : Type} {f : Ip → α × Ip} {p : List UInt8 → Option (α × List UInt8)} {b : α → Bool} (h : ∀ i : Ip, HH i (f i) (p i.r) b ff) : ∀ (n : Nat) (i : Ip), HH i (Ip.loop f n i) (rdL p n i.r) (fun l => l.any b) ff
  | 0, i => ⟨fun h => h, fun hc he y hy => by cases hy; simp [Ip.loop, ff, hc, he], fun _ _ hn => by cases hn⟩
  | n + 1, i => by
    cases hc : i.cut with
    | true =>
      refine ⟨fun _ => ?_, fun h => absurd (hc.symm.trans h) (by decide), fun h => absurd (hc.symm.trans h) (by decide)⟩
      rw [Ip.loop, if_pos hc]; exact hc
    | false =>
      have := (h i).seq (o2 := let y := Ip.loop f n (f i).2; ((f i).1 :: y.1, y.2)) (q := fun x => (rdL p n x.2).bind fun y => some (x.1 :: y.1, y.2)) (b2 := fun l => (l.drop 1).any b) (v2 := ff) (b3 := fun l => l.any b) (v3 := ff)
        ((loop_hh h n _).map (g := fun l => _ :: l) (fun _ => rfl) (fun _ => rfl)) (fun x y hx hy => by
          obtain ⟨z, _, hy⟩ := Option.bind_eq_some_iff.1 hy
          cases hy
          rfl) (fun _ _ _ _ => rfl)
      rw [Ip.loop, if_neg (by rw [hc]; decide)]
      exact this
theorem dir_hh (i : Ip) : HH i i.dir (rdD i.r) bD (fun d => decide (dB d > 1024)) := by
  have h := sized_hh i 2
  have hw : ((rd 2 i.r).bind fun x => rdN x.1 x.2) = rdW i.r := rfl
  rw [hw] at h
  have hb := body_hh (i0 (i.sized 2).1)
  have ec : (i0 (i.sized 2).1).cut = false := rfl
  have ee : (i0 (i.sized 2).1).err = false := rfl
  refine ⟨fun hc => ?_, fun hc he x hx => ?_, fun hc he hn => ?_⟩
  · show ((i.sized 2).2.cut || _) = true
    rw [h.cut hc]; rfl
  · unfold rdD at hx
    obtain ⟨y, hy, hx⟩ := Option.bind_eq_some_iff.1 hx
    obtain ⟨z, hz, hx⟩ := Option.bind_eq_some_iff.1 hx
    split at hx
    rotate_left
    · cases hx
    rename_i hnil
    cases hx
    obtain ⟨e1, e2, e3, e4, e5, e6⟩ := h.ok hc he y hy
    rw [← e1] at hz
    obtain ⟨f1, f2, f3, f4, f5, f6⟩ := hb.ok ec ee z hz
    have hlen : (i.sized 2).1.length + 2 = dB z.1 := by
      have := (rdB_eq (r := z.2) (d := z.1) hz).1
      rw [hnil, List.append_nil] at this
      rw [this, eB_length]
    have hfin : (i0 (i.sized 2).1).body.2.fin.cut = false := by unfold Ip.fin; simp [f2, f3, f4, hnil]
    refine ⟨f1, e2, e3, ?_, ?_, ?_⟩
    · show ((i.sized 2).2.cut || (i0 (i.sized 2).1).body.2.fin.cut) = false
      rw [e4, hfin]; rfl
    · show ((i.sized 2).2.bad || (i0 (i.sized 2).1).body.2.bad) = _
      rw [e5, f5]; simp [ff, i0]
    · show ((i.sized 2).2.ov || (i0 (i.sized 2).1).body.2.ov || decide ((i.sized 2).1.length + 2 > 1024)) = _
      rw [e6, f6, hlen]; simp [ff, i0]
  · show ((i.sized 2).2.cut || (i0 (i.sized 2).1).body.2.fin.cut) = true
    unfold rdD at hn
    cases hy : rdW i.r with
    | none => rw [h.no hc he hy]; rfl
    | some y =>
      rw [hy, Option.bind_some] at hn
      obtain ⟨e1, e2, e3, e4, e5, e6⟩ := h.ok hc he y hy
      rw [← e1] at hn
      rw [e4, Bool.false_or]
      cases hz : rdB (i.sized 2).1 with
      | none =>
        have := hb.no ec ee hz
        unfold Ip.fin; simp [this]
      | some z =>
        rw [hz, Option.bind_some] at hn
        split at hn
        · cases hn
        rename_i hnil
        obtain ⟨f1, f2, f3, f4, f5, f6⟩ := hb.ok ec ee z hz
        unfold Ip.fin
        simp only [f2, f3, f4]
        cases hz2 : z.2 with
        | nil => exact absurd hz2 hnil
        | cons a r => rfl
def bI (m : Ms) : Fl → Bool
  | .xq | .xQ => m.qids.any bQ
  | .xO => decide (m.off < 0)
  | .xi => bD m.dir
  | _ => false
def vI (m : Ms) : Fl → Bool
  | .xn => decide (m.names.length > 16)
  | .xQ => decide (m.qids.length > 16)
  | .xi => decide (dB m.dir > 1024)
  | _ => false
theorem rdL_len {α : Type} {p : List UInt8 → Option (α × List UInt8)} : ∀ {n : Nat} {s : List UInt8} {y : List α × List UInt8}, rdL p n s = some y → y.1.length = n
  | 0, s, y, h => by rw [rdL] at h; cases h; rfl
  | n + 1, s, y, h => by
    rw [rdL] at h
    obtain ⟨x, _, h⟩ := Option.bind_eq_some_iff.1 h
    obtain ⟨z, hz, h⟩ := Option.bind_eq_some_iff.1 h
    cases h
    rw [List.length_cons, rdL_len hz]
theorem fld_hh (m : Ms) (i : Ip) (g : Fl) : HH i (Ip.fld m i g) (rdF m i.r g) (fun M => bI M g) (fun M => vI M g) := by
  cases g <;> simp only [Ip.fld, rdF, bI, vI]
  case xS => exact (num_hh i 4).map (g := fun n : Nat => { m with size := n }) (b2 := ff) (v2 := ff) (fun _ => rfl) (fun _ => rfl)
  case xf => exact (num_hh i 4).map (g := fun n : Nat => { m with fid := n }) (b2 := ff) (v2 := ff) (fun _ => rfl) (fun _ => rfl)
  case xo => exact (num_hh i 4).map (g := fun n : Nat => { m with other := n }) (b2 := ff) (v2 := ff) (fun _ => rfl) (fun _ => rfl)
  case xp => exact (num_hh i 4).map (g := fun n : Nat => { m with perm := n }) (b2 := ff) (v2 := ff) (fun _ => rfl) (fun _ => rfl)
  case xc => exact (num_hh i 2).map (g := fun n : Nat => { m with code := n }) (b2 := ff) (v2 := ff) (fun _ => rfl) (fun _ => rfl)
  case xd => exact (num_hh i 2).map (g := fun n : Nat => { m with old := n }) (b2 := ff) (v2 := ff) (fun _ => rfl) (fun _ => rfl)
  case xm => exact (num_hh i 1).map (g := fun n : Nat => { m with mode := n }) (b2 := ff) (v2 := ff) (fun _ => rfl) (fun _ => rfl)
  case xv => exact (sized_hh i 2).map (g := fun n => { m with ver := n }) (b2 := ff) (v2 := ff) (fun _ => rfl) (fun _ => rfl)
  case xu => exact (sized_hh i 2).map (g := fun n => { m with user := n }) (b2 := ff) (v2 := ff) (fun _ => rfl) (fun _ => rfl)
  case xt => exact (sized_hh i 2).map (g := fun n => { m with tree := n }) (b2 := ff) (v2 := ff) (fun _ => rfl) (fun _ => rfl)
  case xN => exact (sized_hh i 2).map (g := fun n => { m with name := n }) (b2 := ff) (v2 := ff) (fun _ => rfl) (fun _ => rfl)
  case xq => exact (qid_hh i).map (g := fun n => { m with qids := [n] }) (b2 := fun M => M.qids.any bQ) (v2 := ff) (fun _ => by simp) (fun _ => rfl)
  case xO => exact (least_hh i 0 (by omega)).map (g := fun n => { m with off := n }) (b2 := fun M => decide (M.off < 0)) (v2 := ff) (fun _ => rfl) (fun _ => rfl)
  case xi => exact (dir_hh i).map (g := fun n => { m with dir := n }) (b2 := fun M => bD M.dir) (v2 := fun M => decide (dB M.dir > 1024)) (fun _ => rfl) (fun _ => rfl)
  case xD => exact (num_hh i 4).seq (b2 := ff) (v2 := ff) ((raw_hh _ _).map (g := fun n => { m with data := n }) (b2 := ff) (v2 := ff) (fun _ => rfl) (fun _ => rfl)) (fun _ _ _ _ => rfl) (fun _ _ _ _ => rfl)
  case xn =>
    refine (count_hh i).seq (b2 := ff) (v2 := ff) ((loop_hh (b := ff) (p := rdW) (fun i => sized_hh i 2) _ _).map (g := fun n => { m with names := n }) (b2 := ff) (v2 := ff) (fun l => ?_) (fun _ => rfl)) (fun _ _ _ _ => rfl) (fun x y hx hy => ?_)
    · simp [ff]
    · obtain ⟨z, hz, hy⟩ := Option.bind_eq_some_iff.1 hy
      cases hy
      have := rdL_len hz
      simp [ff, this]
  case xQ =>
    refine (count_hh i).seq (b2 := fun M => M.qids.any bQ) (v2 := ff) ((loop_hh (b := bQ) (p := rdQ) qid_hh _ _).map (g := fun n => { m with qids := n }) (b2 := fun M => M.qids.any bQ) (v2 := ff) (fun _ => rfl) (fun _ => rfl)) (fun _ _ _ _ => rfl) (fun x y hx hy => ?_)
    obtain ⟨z, hz, hy⟩ := Option.bind_eq_some_iff.1 hy
    cases hy
    have := rdL_len hz
    simp [ff, this]
end Go.Proofs.YtmlccboapkkcfaaGreatDoor

/-
  The protocol, plain: what the program's Decode computes is the message of an encoding.
-/
namespace Go.Proofs.YtmlccboapkkcfaaGreatDoor
open Go Go.Sh
set_option maxRecDepth 100000
set_option linter.unusedVariables false
set_option linter.unusedSimpArgs false
theorem bI_sam {m M : Ms} {g : Fl} (h : samF m M g) : bI m g = bI M g := by
  cases g <;> (simp only [samF] at h; simp only [bI, h])
theorem vI_sam {m M : Ms} {g : Fl} (h : samF m M g) : vI m g = vI M g := by
  cases g <;> (simp only [samF] at h; simp only [vI, h])
theorem flds_hh : ∀ {l : List Fl} (hl : okL l) (m : Ms) (i : Ip), HH i (Ip.flds l m i) (rdFs l m i.r) (fun M => l.any (bI M)) (fun M => l.any (vI M))
  | [], _, m, i => ⟨fun h => h, fun hc he y hy => by cases hy; simp [Ip.flds, hc, he], fun _ _ hn => by cases hn⟩
  | g :: l, hl, m, i => by
    have key : ∀ {x y : Ms × List UInt8}, rdFs l x.1 x.2 = some y → samF x.1 y.1 g := by
      intro x y h
      obtain ⟨_, e2, _⟩ := rdFs_eq hl.2.2 (M := y.1) (r := y.2) h
      have := samF_fold (M := y.1) (m := x.1) hl.1 hl.2.1
      rw [← e2] at this
      exact this.symm
    exact (fld_hh m i g).seq (flds_hh hl.2.2 _ _) (fun x y hx hy => by rw [bI_sam (key hy), List.any_cons]) (fun x y hx hy => by rw [vI_sam (key hy), List.any_cons])
def decP (s : List UInt8) : Ms × Int :=
  if s.length < 7 then (m0, 16) else
  if un (s.take 4) > 8192 then (m0, 3) else
  if un (s.take 4) ≠ s.length then (m0, 14) else
  let k := (i0 (s.drop 4)).num 1
  let t := k.2.num 2
  match fls k.1 with
  | none => (m0, 13)
  | some l =>
    let x := Ip.flds l { m0 with kind := k.1, tag := t.1 } t.2
    if x.2.fin.cut then (m0, 2) else if x.2.bad then (m0, 11) else if x.2.ov then (m0, 3) else (x.1, 0)
theorem bFI {M : Ms} {g : Fl} (h : gtF M g) : bF M g = bI M g := by
  have ho : ∀ n : Int, decide (n < 0) = !decide (0 ≤ n) := by intro n; rw [← decide_not]; apply decide_eq_decide.2; omega
  have h1 : ∀ n : Int, decide (n < -1) = !decide (-1 ≤ n) := by intro n; rw [← decide_not]; apply decide_eq_decide.2; omega
  have hq : ∀ q : Qi, inR q.kind 1 = true → inR q.vers 4 = true → (!rQ q) = bQ q := by
    intro q h1 h2; unfold rQ bQ; rw [h1, h2, ho]; simp
  have hqs : ∀ L : List Qi, (∀ x ∈ L, x.Ok ∧ inR x.kind 1 = true ∧ inR x.vers 4 = true) → (!L.all rQ) = L.any bQ := by
    intro L
    induction L with
    | nil => intro _; rfl
    | cons x r ih =>
      intro hx
      have a := hx x List.mem_cons_self
      rw [List.all_cons, List.any_cons, Bool.not_and, hq x a.2.1 a.2.2, ih fun y hy => hx y (List.mem_cons_of_mem _ hy)]
  cases g <;> simp only [gtF] at h <;> simp only [bF, bI]
  case xS | xf | xo | xc | xd | xm | xp => rw [h]; rfl
  case xq => exact hqs _ h.2
  case xQ => exact hqs _ h.2
  case xi =>
    obtain ⟨_, h2, h3, h4, h5⟩ := h
    have := hq M.dir.q h2 h3
    unfold rD bD
    rw [← this, decide_eq_true h4, decide_eq_true h5, h1, h1]
    cases rQ M.dir.q <;> simp
theorem lim_vI {m : Ms} {l : List Fl} (h : shp m l = true) (hr : room m l ≤ 8192) : l.any (vI m) = true ↔ (m.names.length > 16 ∨ m.qids.length > 16 ∨ (l.contains .xi = true ∧ dB m.dir > 1024) ∨ room m l > 8192) := by
  constructor
  · intro h1
    obtain ⟨g, hg, hv⟩ := List.any_eq_true.1 h1
    cases g <;> simp only [vI, decide_eq_true_eq] at hv
    case xn => exact .inl hv
    case xQ => exact .inr (.inl hv)
    case xi => exact .inr (.inr (.inl ⟨List.contains_iff_mem.2 hg, hv⟩))
    all_goals cases hv
  · rintro (h1 | h1 | ⟨h1, h2⟩ | h1)
    · refine List.any_eq_true.2 ⟨.xn, shp_names h (by intro e; rw [e] at h1; simp at h1), ?_⟩
      simp [vI, h1]
    · refine List.any_eq_true.2 ⟨.xQ, shp_qids h (by omega), ?_⟩
      simp [vI, h1]
    · refine List.any_eq_true.2 ⟨.xi, List.contains_iff_mem.1 h1, ?_⟩
      simp [vI, h2]
    · omega
theorem any_cong {α : Type} {p q : α → Bool} : ∀ {l : List α} (h : ∀ x ∈ l, p x = q x), l.any p = l.any q
  | [], _ => rfl
  | x :: l, h => by rw [List.any_cons, List.any_cons, h x List.mem_cons_self, any_cong fun y hy => h y (List.mem_cons_of_mem _ hy)]
theorem decP_dec (s : List UInt8) : decP s = dec s := by
  unfold decP dec
  by_cases h7 : s.length < 7
  · rw [if_pos h7, if_pos h7]
  rw [if_neg h7, if_neg h7]
  by_cases h8 : un (s.take 4) > 8192
  · rw [if_pos h8, if_pos h8]
  rw [if_neg h8, if_neg h8]
  by_cases hn : un (s.take 4) ≠ s.length
  · rw [if_pos hn, if_pos hn]
  rw [if_neg hn, if_neg hn]
  have hk : (i0 (s.drop 4)).num 1 = (un ((s.drop 4).take 1), i0 (s.drop 5)) := by
    unfold Ip.num
    rw [if_neg (by simp [i0])]
    have : rd 1 (i0 (s.drop 4)).r = some (un ((s.drop 4).take 1), s.drop 5) := by
      unfold rd
      rw [if_pos (by show 1 ≤ (s.drop 4).length; rw [List.length_drop]; omega)]
      show some (_, (s.drop 4).drop 1) = _
      rw [List.drop_drop]; rfl
    rw [this]; rfl
  have ht : (i0 (s.drop 5)).num 2 = (un ((s.drop 5).take 2), i0 (s.drop 7)) := by
    unfold Ip.num
    rw [if_neg (by simp [i0])]
    have : rd 2 (i0 (s.drop 5)).r = some (un ((s.drop 5).take 2), s.drop 7) := by
      unfold rd
      rw [if_pos (by show 2 ≤ (s.drop 5).length; rw [List.length_drop]; omega)]
      show some (_, (s.drop 5).drop 2) = _
      rw [List.drop_drop]; rfl
    rw [this]; rfl
  simp only [hk, ht]
  cases hl : fls ((un ((s.drop 4).take 1) : Nat) : Int) with
  | none => rfl
  | some l =>
    simp only []
    have ha := fls_mem hl
    have h := flds_hh (okL_all l ha) { m0 with kind := (un ((s.drop 4).take 1) : Nat), tag := (un ((s.drop 5).take 2) : Nat) } (i0 (s.drop 7))
    generalize hx : Ip.flds l { m0 with kind := (un ((s.drop 4).take 1) : Nat), tag := (un ((s.drop 5).take 2) : Nat) } (i0 (s.drop 7)) = x at h
    have er : (i0 (s.drop 7)).r = s.drop 7 := rfl
    rw [er] at h
    cases hp : rdFs l { m0 with kind := (un ((s.drop 4).take 1) : Nat), tag := (un ((s.drop 5).take 2) : Nat) } (s.drop 7) with
    | none =>
      have : x.2.fin.cut = true := by
        have := h.no rfl rfl hp
        unfold Ip.fin; simp [this]
      rw [if_pos this]
    | some y =>
      obtain ⟨M, r⟩ := y
      obtain ⟨e1, e2, e3, e4, e5, e6⟩ := h.ok rfl rfl _ hp
      dsimp only at e1 e2 e5 e6
      cases r with
      | cons a r =>
        have : x.2.fin.cut = true := by unfold Ip.fin; simp [e2]
        rw [if_pos this]
      | nil =>
        have hfin : x.2.fin.cut = false := by unfold Ip.fin; simp [e2, e3, e4]
        rw [if_neg (by rw [hfin]; decide)]
        simp only []
        obtain ⟨q1, q2, g⟩ := rdFs_eq (okL_all l ha) hp
        rw [List.append_nil] at q1
        obtain ⟨hs, hk', ht'⟩ := fold_shp ha q2 fun hq => (g _ hq).1
        have hroom : room M l ≤ 8192 := by
          rw [← eFs_len hs, ← q1, List.length_drop]; omega
        have htag : inR M.tag 2 = true := by
          rw [ht']
          refine inR_of (Nat.lt_of_lt_of_le (un_lt _) ?_)
          exact Nat.pow_le_pow_right (by decide) (by rw [List.length_take]; omega)
        have hb : x.2.bad = !rM M := by
          rw [e5, rM_any ha hs, htag]
          have : l.any (bI M) = l.any (bF M) := any_cong fun f hf => (bFI (g f hf)).symm
          rw [this]; simp [i0]
        have hfl : fls M.kind = some l := by rw [hk']; exact hl
        have hv : x.2.ov = l.any (vI M) := by rw [e6]; simp [i0]
        have hlim := lim_vI hs hroom
        unfold chk
        rw [hfl]
        simp only [hs, Bool.not_true, Bool.false_eq_true, if_false]
        rw [hb, hv]
        cases hr : rM M with
        | false => simp
        | true =>
          simp only [Bool.not_true, Bool.false_eq_true, if_false]
          by_cases hc : l.any (vI M) = true
          · rw [if_pos hc]; simp only [if_pos (hlim.1 hc)]; rfl
          · rw [if_neg hc]; simp only [if_neg fun h => hc (hlim.2 h)]; rw [e1]; rfl
end Go.Proofs.YtmlccboapkkcfaaGreatDoor

/-
  The protocol, plain: frames of a stream, cut anywhere.
-/
namespace Go.Proofs.YtmlccboapkkcfaaGreatDoor
open Go Go.Sh
set_option maxRecDepth 100000
set_option linter.unusedVariables false
set_option linter.unusedSimpArgs false
/-- The complete messages at the beginning, the rest, and the error (with nothing). -/
def frs : Nat → List UInt8 → List (List UInt8) × List UInt8 × Int
  | 0, s => ([], s, 0)
  | f + 1, s =>
    if s.length < 4 then ([], s, 0) else
    if un (s.take 4) > 8192 then ([], [], 3) else
    if un (s.take 4) < 7 then ([], [], 14) else
    if un (s.take 4) > s.length then ([], s, 0) else
    let x := frs f (s.drop (un (s.take 4)))
    if x.2.2 = 0 then (s.take (un (s.take 4)) :: x.1, x.2.1, 0) else ([], [], x.2.2)
def fr (s : List UInt8) := frs s.length s
/-- A stream of encodings. -/
def isE (s : List UInt8) : Prop := 7 ≤ s.length ∧ s.length ≤ 8192 ∧ un (s.take 4) = s.length
end Go.Proofs.YtmlccboapkkcfaaGreatDoor

/-
  The protocol, plain: lists of Dirs.
-/
namespace Go.Proofs.YtmlccboapkkcfaaGreatDoor
open Go Go.Sh
set_option maxRecDepth 100000
set_option linter.unusedVariables false
set_option linter.unusedSimpArgs false
/-- The Dir at the beginning, the number of its bytes, and the error. -/
def decD (s : List UInt8) : Di × Nat × Int :=
  match rd 2 s with
  | none => (d0, 0, 16)
  | some (n, r) =>
    if n + 2 > s.length then (d0, 0, 16) else
    if n + 2 > 1024 then (d0, 0, 3) else
    match rdB (r.take n) with
    | some (d, []) => if rD d then (d, n + 2, 0) else (d0, 0, 11)
    | _ => (d0, 0, 2)
def decDP (s : List UInt8) : Di × Nat × Int :=
  match rd 2 s with
  | none => (d0, 0, 16)
  | some (n, r) =>
    if n + 2 > s.length then (d0, 0, 16) else
    if n + 2 > 1024 then (d0, 0, 3) else
    let x := (i0 (r.take n)).body
    if x.2.fin.cut then (d0, 0, 2) else if x.2.bad then (d0, 0, 11) else if x.2.ov then (d0, 0, 3) else (x.1, n + 2, 0)
theorem rD_bD {d : Di} (h1 : inR d.q.kind 1 = true) (h2 : inR d.q.vers 4 = true) (h3 : -1 ≤ d.mode) (h4 : d.mode < 4294967295) : rD d = !bD d := by
  have ho : ∀ n : Int, decide (n < 0) = !decide (0 ≤ n) := by intro n; rw [← decide_not]; apply decide_eq_decide.2; omega
  have h5 : ∀ n : Int, decide (n < -1) = !decide (-1 ≤ n) := by intro n; rw [← decide_not]; apply decide_eq_decide.2; omega
  unfold rD bD rQ bQ
  rw [h1, h2, decide_eq_true h3, decide_eq_true h4, ho, h5, h5]
  cases decide (0 ≤ d.q.path) <;> simp
theorem decDP_decD (s : List UInt8) : decDP s = decD s := by
  unfold decDP decD
  cases hr : rd 2 s with
  | none => rfl
  | some y =>
    obtain ⟨n, r⟩ := y
    simp only []
    by_cases h1 : n + 2 > s.length
    · rw [if_pos h1, if_pos h1]
    rw [if_neg h1, if_neg h1]
    by_cases h2 : n + 2 > 1024
    · rw [if_pos h2, if_pos h2]
    rw [if_neg h2, if_neg h2]
    have h := body_hh (i0 (r.take n))
    have er : (i0 (r.take n)).r = r.take n := rfl
    rw [er] at h
    generalize (i0 (r.take n)).body = x at h
    cases hp : rdB (r.take n) with
    | none =>
      have : x.2.fin.cut = true := by
        have := h.no rfl rfl hp
        unfold Ip.fin; simp [this]
      rw [if_pos this]
    | some y =>
      obtain ⟨d, t⟩ := y
      obtain ⟨e1, e2, e3, e4, e5, e6⟩ := h.ok rfl rfl _ hp
      dsimp only at e1 e2 e5 e6
      cases t with
      | cons a t =>
        have : x.2.fin.cut = true := by unfold Ip.fin; simp [e2]
        rw [if_pos this]
      | nil =>
        have hfin : x.2.fin.cut = false := by unfold Ip.fin; simp [e2, e3, e4]
        rw [if_neg (by rw [hfin]; decide)]
        obtain ⟨_, _, g1, g2, g3, g4⟩ := rdB_eq hp
        simp only [rD_bD g1 g2 g3 g4]
        have hb : x.2.bad = bD d := by rw [e5]; simp [i0]
        have hv : x.2.ov = false := by rw [e6]; simp [i0, ff]
        rw [hb, hv, e1]
        cases bD d <;> rfl
theorem decD_len {s : List UInt8} {d : Di} {n : Nat} (h : decD s = (d, n, 0)) : 2 ≤ n ∧ n ≤ s.length := by
  unfold decD at h
  split at h
  · cases h
  split at h
  · cases h
  split at h
  · cases h
  split at h
  · split at h
    · cases h; omega
    · cases h
  · cases h
/-- An encoding, whatever follows. -/
theorem decD_eD {d : Di} (h : chkD d = 0) (hd : d.Ok) (s : List UInt8) : decD (eD d ++ s) = (d, (eD d).length, 0) := by
  have h1 : rD d = true ∧ dB d ≤ 1024 := by
    unfold chkD at h
    split at h
    · omega
    split at h
    · omega
    rename_i a b
    exact ⟨by simpa using a, by omega⟩
  have hb := eB_length d
  have hl := eD_length d
  unfold decD
  have e : rd 2 (eD d ++ s) = some ((eB d).length, eB d ++ s) := by
    unfold eD eW
    rw [List.append_assoc, rd_le]
    congr 2
    exact len_mod2 (by omega)
  rw [e]
  simp only []
  rw [if_neg (by rw [List.length_append]; omega), if_neg (by omega), List.take_left' rfl]
  have := rdB_eB h1.1 hd (by omega) []
  rw [List.append_nil] at this
  rw [this]
  simp only [h1.1, if_true]
  rw [show (eB d).length + 2 = (eD d).length by omega]
/-- All Dirs of a text. -/
def drs : Nat → List UInt8 → List Di × Int
  | 0, _ => ([], 0)
  | f + 1, s =>
    if s = [] then ([], 0) else
    let x := decD s
    if x.2.2 ≠ 0 then ([], x.2.2) else
    let y := drs f (s.drop x.2.1)
    if y.2 = 0 then (x.1 :: y.1, 0) else ([], y.2)
def dr (s : List UInt8) := drs s.length s
theorem drs_fuel : ∀ (f g : Nat) (s : List UInt8), s.length ≤ f → s.length ≤ g → drs f s = drs g s
  | 0, g, s, hf, _ => by
    have : s = [] := List.length_eq_zero_iff.1 (by omega)
    subst this
    cases g with
    | zero => rfl
    | succ g => simp [drs]
  | f + 1, 0, s, _, hg => by
    have : s = [] := List.length_eq_zero_iff.1 (by omega)
    subst this
    simp [drs]
  | f + 1, g + 1, s, hf, hg => by
    unfold drs
    split
    · rfl
    rename_i h0
    dsimp only
    split
    · rfl
    rename_i h1
    have hx : decD s = ((decD s).1, (decD s).2.1, 0) := by
      have : (decD s).2.2 = 0 := by omega
      rw [← this]
    have := decD_len hx
    rw [drs_fuel f g (s.drop (decD s).2.1) (by rw [List.length_drop]; omega) (by rw [List.length_drop]; omega)]
theorem dr_eq (s : List UInt8) : dr s = if s = [] then ([], 0) else
    let x := decD s
    if x.2.2 ≠ 0 then ([], x.2.2) else
    let y := dr (s.drop x.2.1)
    if y.2 = 0 then (x.1 :: y.1, 0) else ([], y.2) := by
  unfold dr
  rw [drs_fuel s.length (s.length + 1) s (Nat.le_refl _) (by omega)]
  conv => lhs; unfold drs
  split
  · rfl
  dsimp only
  split
  · rfl
  rename_i h1
  rw [drs_fuel s.length (s.drop (decD s).2.1).length (s.drop (decD s).2.1) (by rw [List.length_drop]; omega) (Nat.le_refl _)]
/-- The encodings from an offset on. -/
def skp : Int → List (List UInt8) → Int × List (List UInt8)
  | o, [] => (o, [])
  | o, x :: r => if o > 0 then skp (o - x.length) r else (o, x :: r)
def tkn (count : Int) : List UInt8 → List (List UInt8) → List UInt8
  | out, [] => out
  | out, x :: r => if ((out.length + x.length : Nat) : Int) > count then out else tkn count (out ++ x) r
def ent (l : List Di) (off count : Int) : List UInt8 × Int :=
  match l.find? fun d => chkD d != 0 with
  | some d => ([], chkD d)
  | none =>
    let x := skp off (l.map eD)
    if count < 0 ∨ x.1 ≠ 0 then ([], 11) else
    match x.2 with
    | [] => ([], 0)
    | y :: r => if (y.length : Int) > count then ([], 3) else (tkn count [] (y :: r), 0)
end Go.Proofs.YtmlccboapkkcfaaGreatDoor

/-
  The protocol, plain: a list of Dirs that is read in parts.
-/
namespace Go.Proofs.YtmlccboapkkcfaaGreatDoor
open Go Go.Sh
set_option maxRecDepth 100000
set_option linter.unusedVariables false
set_option linter.unusedSimpArgs false
theorem chkD_le {d : Di} (h : chkD d = 0) : rD d = true ∧ dB d ≤ 1024 := by
  unfold chkD at h
  split at h
  · omega
  split at h
  · omega
  rename_i a b
  exact ⟨by simpa using a, by omega⟩
end Go.Proofs.YtmlccboapkkcfaaGreatDoor

/-
  The protocol, plain: the words of kinds.
-/
namespace Go.Proofs.YtmlccboapkkcfaaGreatDoor
open Go Go.Sh
set_option maxRecDepth 100000
set_option linter.unusedVariables false
set_option linter.unusedSimpArgs false
/-- The requests and their words. -/
def wds : List (Int × List UInt8) := [(100, [118, 101, 114, 115, 105, 111, 110]), (102, [97, 117, 116, 104]), (104, [97, 116, 116, 97, 99, 104]), (108, [102, 108, 117, 115, 104]), (110, [119, 97, 108, 107]), (112, [111, 112, 101, 110]), (114, [99, 114, 101, 97, 116, 101]), (116, [114, 101, 97, 100]), (118, [119, 114, 105, 116, 101]), (120, [99, 108, 117, 110, 107]), (122, [114, 101, 109, 111, 118, 101]), (124, [115, 116, 97, 116]), (126, [119, 115, 116, 97, 116])]
def wdo (k : Int) : Option (List UInt8) := wds.lookup k
def wd (k : Int) : List UInt8 := (wdo k).getD []
def isRq (k : Int) : Bool := wd k != []
def ans (k : Int) : Int := if isRq k then k + 1 else 0
def word (k : Int) : List UInt8 := if k = 107 then [82, 101, 114, 114, 111, 114] else if isRq k then wd k else if isRq (k - 1) then 82 :: wd (k - 1) else []
theorem wdo_some {k : Int} {s : List UInt8} (h : wdo k = some s) : (k, s) ∈ wds := by
  unfold wdo at h
  have : ∀ {l : List (Int × List UInt8)}, l.lookup k = some s → (k, s) ∈ l := by
    intro l
    induction l with
    | nil => intro h; cases h
    | cons x r ih =>
      intro h
      rw [List.lookup_cons] at h
      split at h
      · rename_i e
        cases h
        have : k = x.1 := by simpa using e
        rw [this]; exact List.mem_cons_self
      · exact List.mem_cons_of_mem _ (ih h)
  exact this h
theorem wd_mem {k : Int} (h : isRq k = true) : (k, wd k) ∈ wds := by
  unfold isRq wd at h
  cases e : wdo k with
  | none => rw [e] at h; exact absurd h (by decide)
  | some s =>
    have : wd k = s := by unfold wd; rw [e]; rfl
    rw [this]
    exact wdo_some e
theorem rq_rng {k : Int} (h : isRq k = true) : 100 ≤ k ∧ k ≤ 126 ∧ k % 2 = 0 := by
  have := wd_mem h
  have key : ∀ x ∈ wds, 100 ≤ x.1 ∧ x.1 ≤ 126 ∧ x.1 % 2 = 0 := by decide
  exact key _ this
/-- Whether a kind is known: by its fields. -/
theorem word_fls (k : Int) : (word k != []) = (fls k).isSome := by
  by_cases hk : 100 ≤ k ∧ k ≤ 127
  · obtain ⟨n, rfl⟩ : ∃ n : Nat, k = n := ⟨k.toNat, by omega⟩
    have key : ∀ n : Fin 128, (word (n.val : Int) != []) = (fls (n.val : Int)).isSome := by decide
    exact key ⟨n, by omega⟩
  · have h1 : isRq k = false := by
      cases e : isRq k with
      | false => rfl
      | true => have := rq_rng e; omega
    have h2 : isRq (k - 1) = false := by
      cases e : isRq (k - 1) with
      | false => rfl
      | true => have := rq_rng e; omega
    have h3 : fls k = none := by
      cases e : fls k with
      | none => rfl
      | some l => have := fls_rng e; omega
    unfold word
    rw [if_neg (by omega), h1, h2, h3]
    rfl
end Go.Proofs.YtmlccboapkkcfaaGreatDoor

/-
  The protocol, plain: a message whose own fields are blank has no other ones.
-/
namespace Go.Proofs.YtmlccboapkkcfaaGreatDoor
open Go Go.Sh
set_option maxRecDepth 100000
set_option linter.unusedVariables false
set_option linter.unusedSimpArgs false
def zchk (m : Ms) : Bool :=
  m.names.length == 0 && m.qids.length == 0 && m.fid == 0 && m.other == 0 && m.old == 0 && m.size == 0 && m.mode == 0 && m.perm == 0 && m.code == 0 && m.off == 0 &&
  m.ver == [] && m.user == [] && m.tree == [] && m.name == [] && m.data == [] && m.dir == d0
def blk (m : Ms) (l : List Fl) : Ms := l.foldl (setF m0) m
theorem shp_z {m : Ms} {l : List Fl} (hl : l ∈ allL) (hq : .xq ∈ l → m.qids.length = 1) : shp m l = zchk { blk m l with qids := if l.contains .xq then [] else (blk m l).qids } := by
  simp only [allL, List.mem_cons, List.not_mem_nil, or_false] at hl
  cases m
  rcases hl with rfl | rfl | rfl | rfl | rfl | rfl | rfl | rfl | rfl | rfl | rfl | rfl | rfl | rfl | rfl | rfl | rfl | rfl | rfl <;>
    (rw [Bool.eq_iff_iff]; constructor <;> intro h <;> simp [shp, zchk, blk, setF, m0] at hq h ⊢ <;> simp_all)
theorem shp_one {m : Ms} {l : List Fl} (hq : .xq ∈ l) (h : m.qids.length ≠ 1) : shp m l = false := by
  cases e : shp m l with
  | false => rfl
  | true =>
    obtain ⟨x, hx⟩ := shp_q e hq
    rw [hx] at h
    exact absurd rfl h
end Go.Proofs.YtmlccboapkkcfaaGreatDoor

/-
  Texts as lists of bytes; the table of words, as the program lays it.
-/
namespace Go.Proofs.YtmlccboapkkcfaaGreatDoor
open Go Go.Sh
set_option maxRecDepth 100000
set_option linter.unusedVariables false
set_option linter.unusedSimpArgs false
abbrev ptr (b : Nat) : Value := .pointer (some ⟨b, 0, none⟩)
abbrev i64 (n : Int) : Value := .int .i64 n
abbrev str (s : ByteArray) : Value := .string s
abbrev mkB (l : List UInt8) : ByteArray := ⟨l.toArray⟩
abbrev sb (l : List UInt8) : Value := .string (mkB l)
theorem mkB_bl (s : ByteArray) : mkB (bl s) = s := by cases s; rfl
theorem mkB_size (l : List UInt8) : (mkB l).size = l.length := rfl
theorem mkB_app (a b : List UInt8) : mkB a ++ mkB b = mkB (a ++ b) := by
  apply ByteArray.ext
  rw [ByteArray.data_append]
  simp
theorem mkB_ext (l : List UInt8) (i j : Nat) : (mkB l).extract i j = mkB ((l.take j).drop i) := by
  apply ByteArray.ext
  rw [ByteArray.data_extract]
  apply Array.ext'
  simp [List.extract_eq_take_drop, List.drop_take]
theorem mkB_inj {a b : List UInt8} (h : mkB a = mkB b) : a = b := by
  have := congrArg bl h
  exact this
theorem str_sb (s : ByteArray) : str s = sb (bl s) := by rw [show sb (bl s) = str (mkB (bl s)) from rfl, mkB_bl]

theorem insert_perm {H : Type} (x : Lit × DataW H) : ∀ l : List (Lit × DataW H), (DataW.insert x l).Perm (x :: l)
  | [] => List.Perm.refl _
  | y :: r => by
    unfold DataW.insert
    split
    · exact List.Perm.refl _
    · exact ((insert_perm x r).cons y).trans (List.Perm.swap _ _ _)
theorem sorted_perm {H : Type} : ∀ l : List (Lit × DataW H), (l.foldr DataW.insert []).Perm l
  | [] => List.Perm.refl _
  | x :: r => by
    rw [List.foldr_cons]
    exact (insert_perm x _).trans ((sorted_perm r).cons x)
/-- A pair of the table. -/
def cvp (x : Int × List UInt8) : Value × Value := (i64 x.1, sb x.2)
theorem aget_cv (k : Int) : ∀ l : List (Int × List UInt8), aget (l.map cvp) (i64 k) = (l.lookup k).map sb
  | [] => rfl
  | x :: r => by
    rw [List.map_cons, List.lookup_cons]
    have ih := aget_cv k r
    unfold aget at ih ⊢
    rw [List.find?_cons]
    have e : keyEq (i64 k) (cvp x).1 = (k == x.1) := rfl
    rw [e]
    cases k == x.1 with
    | true => rfl
    | false => exact ih
theorem lookup_mem {l : List (Int × List UInt8)} (hn : (l.map (·.1)).Nodup) {k : Int} {s : List UInt8} (h : (k, s) ∈ l) : l.lookup k = some s := by
  induction l with
  | nil => cases h
  | cons x r ih =>
    rw [List.map_cons, List.nodup_cons] at hn
    rw [List.lookup_cons]
    rcases List.mem_cons.1 h with e | h
    · rw [← e]; simp
    · have : (k == x.1) = false := by
        rw [beq_eq_false_iff_ne]
        rintro rfl
        exact hn.1 (List.mem_map.2 ⟨_, h, rfl⟩)
      rw [this]
      exact ih hn.2 h
theorem lookup_none {l : List (Int × List UInt8)} {k : Int} (h : ∀ s, (k, s) ∉ l) : l.lookup k = none := by
  cases e : l.lookup k with
  | none => rfl
  | some s =>
    exfalso
    have : ∀ {l : List (Int × List UInt8)}, l.lookup k = some s → (k, s) ∈ l := by
      intro l
      induction l with
      | nil => intro h; cases h
      | cons x r ih =>
        intro h
        rw [List.lookup_cons] at h
        split at h
        · rename_i e2
          cases h
          have : k = x.1 := by simpa using e2
          rw [this]; exact List.mem_cons_self
        · exact List.mem_cons_of_mem _ (ih h)
    exact h s (this e)
theorem lookup_perm {l m : List (Int × List UInt8)} (h : l.Perm m) (hn : (m.map (·.1)).Nodup) (k : Int) : l.lookup k = m.lookup k := by
  have hl : (l.map (·.1)).Nodup := (h.map _).nodup_iff.2 hn
  cases e : m.lookup k with
  | none =>
    refine lookup_none fun s hs => ?_
    have := lookup_mem hn (h.mem_iff.1 hs)
    rw [e] at this; cases this
  | some s =>
    have : (k, s) ∈ m := by
      by_cases hm : ∃ s', (k, s') ∈ m
      · obtain ⟨s', hs'⟩ := hm
        have := lookup_mem hn hs'
        rw [e] at this
        cases this; exact hs'
      · have := lookup_none (l := m) (k := k) fun s' hs' => hm ⟨s', hs'⟩
        rw [e] at this; cases this
    exact lookup_mem hl (h.mem_iff.2 this)
/-- A map of words that is laid. -/
theorem words_open {P : Program} {W : World} {base : Nat} {sp : Nat → Bool} {held : Bool} {t k e : TypeId} {fuel : Nat} {cs : List Value} {p : List MemPlace} (ht : P.underlying t = some (.map k e)) (hk : P.underlying k = some (.int .i64)) (he : P.underlying e = some .string)
    (h : DataW.trod (fun _ => ()) P W base sp held fuel t cs = some (.map (wds.map fun x => ((Lit.int .i64 x.1, (.lit (.string x.2) : DataW Unit)))), p)) :
    ∃ m M, cs = [.map (some m)] ∧ MapAt m (.int .i64) M W ∧ ∀ k : Int, aget M (i64 k) = (wdo k).map sb := by
  rcases Go.WideElems.open_map ht h with ⟨_, hx⟩ | ⟨b, es, clock, n, rfl, rfl, hb, _, F, hx⟩
  · cases hx
  have hD := (DataW.map.inj (congrArg Prod.fst hx)).symm
  have hp := sorted_perm (es.toList.map (Go.WideElems.rg P k (Go.WideElems.elemAt (fun _ => ()) P W base sp held n e)))
  rw [hD] at hp
  have each : ∀ x ∈ es.toList, ∃ a : Int, ∃ s : List UInt8, x.key = i64 a ∧ x.val = sb s ∧ Go.WideElems.rg P k (Go.WideElems.elemAt (fun _ => ()) P W base sp held n e) x = (Lit.int .i64 a, .lit (.string s)) := by
    intro x hx
    obtain ⟨y, hy⟩ := F.reads x hx
    have h1 := Go.WideElems.rd_key hy
    obtain ⟨z, hz, h2⟩ := Go.WideElems.rd_val hy
    have hr := Go.WideElems.rg_of hy
    unfold keyOf at h1
    rw [hk] at h1
    simp only [] at h1
    have hm : ∃ a, x.key = i64 a ∧ y.1 = Lit.int .i64 a := by
      unfold mapKey at h1
      rw [hk] at h1
      split at h1 <;> first | (cases h1; done) | skip
      all_goals (try (split at h1)) <;> simp_all
    obtain ⟨a, ha, hya⟩ := hm
    unfold Go.WideElems.elemAt at hz
    split at hz
    · rename_i hf
      obtain ⟨s, hs, rfl, _⟩ := DataW.trod_string he hz
      refine ⟨a, bl s, ha, ?_, ?_⟩
      · have : x.val = .string s := by
          cases hv : x.val <;> rw [hv] at hs hf <;> first | (simp [Value.cells] at hs; done) | (simp [Value.cells] at hs; subst hs; rfl) | (simp [Value.formed, he] at hf; done)
        rw [this, ← str_sb s]
      · rw [hr]
        exact Prod.ext hya h2
    · cases hz
  let dcd : Lit × DataW Unit → Int × List UInt8 := fun x => match x with | (.int _ a, .lit (.string s)) => (a, s) | _ => (0, [])
  have hprs : prs es.toList = ((es.toList.map (Go.WideElems.rg P k (Go.WideElems.elemAt (fun _ => ()) P W base sp held n e))).map dcd).map cvp := by
    unfold prs
    rw [List.map_map, List.map_map]
    apply List.map_congr_left
    intro x hx
    obtain ⟨a, s, h1, h2, h3⟩ := each x hx
    simp only [Function.comp, h3, h1, h2]
    rfl
  have hperm := hp.symm.map dcd
  have hdw : (wds.map fun x => ((Lit.int .i64 x.1, (.lit (.string x.2) : DataW Unit)))).map dcd = wds := by
    rw [List.map_map]
    exact List.map_id _
  rw [hdw] at hperm
  obtain ⟨st1, st2, st3⟩ := F.stamped
  refine ⟨b, prs es.toList, rfl, ⟨⟨es, clock, hb, rfl, st2, st1⟩, ?_⟩, fun k' => ?_⟩
  · intro q hq
    unfold prs at hq
    obtain ⟨x, hx, rfl⟩ := List.mem_map.1 hq
    obtain ⟨a, s, h1, h2, h3⟩ := each x hx
    simp only [h1]; rfl
  · rw [hprs, aget_cv, lookup_perm hperm (by decide)]
    rfl
end Go.Proofs.YtmlccboapkkcfaaGreatDoor

/-
  The visitors: their methods.
-/
namespace Go.Proofs.YtmlccboapkkcfaaGreatDoor
open Go Go.Sh
set_option maxRecDepth 100000
set_option linter.unusedVariables false
set_option linter.unusedSimpArgs false
instance {b : Nat} : NilC PP Ty.p_styx_output (ptr b) "acheron/styx.num" := ⟨fun w => by kernel_rfl⟩
instance {b : Nat} : MtC PP Ty.p_styx_output (ptr b) "acheron/styx.num" Fn.styx_output_num (ptr b) := ⟨fun w => by kernel_rfl, by kernel_rfl⟩
instance {b : Nat} : NilC PP Ty.p_styx_output (ptr b) "acheron/styx.long" := ⟨fun w => by kernel_rfl⟩
instance {b : Nat} : MtC PP Ty.p_styx_output (ptr b) "acheron/styx.long" Fn.styx_output_long (ptr b) := ⟨fun w => by kernel_rfl, by kernel_rfl⟩
instance {b : Nat} : NilC PP Ty.p_styx_output (ptr b) "acheron/styx.optional" := ⟨fun w => by kernel_rfl⟩
instance {b : Nat} : MtC PP Ty.p_styx_output (ptr b) "acheron/styx.optional" Fn.styx_output_optional (ptr b) := ⟨fun w => by kernel_rfl, by kernel_rfl⟩
instance {b : Nat} : NilC PP Ty.p_styx_output (ptr b) "acheron/styx.mode" := ⟨fun w => by kernel_rfl⟩
instance {b : Nat} : MtC PP Ty.p_styx_output (ptr b) "acheron/styx.mode" Fn.styx_output_mode (ptr b) := ⟨fun w => by kernel_rfl, by kernel_rfl⟩
instance {b : Nat} : NilC PP Ty.p_styx_output (ptr b) "acheron/styx.text" := ⟨fun w => by kernel_rfl⟩
instance {b : Nat} : MtC PP Ty.p_styx_output (ptr b) "acheron/styx.text" Fn.styx_output_text (ptr b) := ⟨fun w => by kernel_rfl, by kernel_rfl⟩
instance {b : Nat} : NilC PP Ty.p_styx_output (ptr b) "acheron/styx.data" := ⟨fun w => by kernel_rfl⟩
instance {b : Nat} : MtC PP Ty.p_styx_output (ptr b) "acheron/styx.data" Fn.styx_output_data (ptr b) := ⟨fun w => by kernel_rfl, by kernel_rfl⟩
instance {b : Nat} : NilC PP Ty.p_styx_output (ptr b) "acheron/styx.names" := ⟨fun w => by kernel_rfl⟩
instance {b : Nat} : MtC PP Ty.p_styx_output (ptr b) "acheron/styx.names" Fn.styx_output_names (ptr b) := ⟨fun w => by kernel_rfl, by kernel_rfl⟩
instance {b : Nat} : NilC PP Ty.p_styx_output (ptr b) "acheron/styx.qids" := ⟨fun w => by kernel_rfl⟩
instance {b : Nat} : MtC PP Ty.p_styx_output (ptr b) "acheron/styx.qids" Fn.styx_output_qids (ptr b) := ⟨fun w => by kernel_rfl, by kernel_rfl⟩
instance {b : Nat} : NilC PP Ty.p_styx_output (ptr b) "acheron/styx.dir" := ⟨fun w => by kernel_rfl⟩
instance {b : Nat} : MtC PP Ty.p_styx_output (ptr b) "acheron/styx.dir" Fn.styx_output_dir (ptr b) := ⟨fun w => by kernel_rfl, by kernel_rfl⟩
instance {b : Nat} : NilC PP Ty.p_styx_input (ptr b) "acheron/styx.num" := ⟨fun w => by kernel_rfl⟩
instance {b : Nat} : MtC PP Ty.p_styx_input (ptr b) "acheron/styx.num" Fn.styx_input_num (ptr b) := ⟨fun w => by kernel_rfl, by kernel_rfl⟩
instance {b : Nat} : NilC PP Ty.p_styx_input (ptr b) "acheron/styx.long" := ⟨fun w => by kernel_rfl⟩
instance {b : Nat} : MtC PP Ty.p_styx_input (ptr b) "acheron/styx.long" Fn.styx_input_long (ptr b) := ⟨fun w => by kernel_rfl, by kernel_rfl⟩
instance {b : Nat} : NilC PP Ty.p_styx_input (ptr b) "acheron/styx.optional" := ⟨fun w => by kernel_rfl⟩
instance {b : Nat} : MtC PP Ty.p_styx_input (ptr b) "acheron/styx.optional" Fn.styx_input_optional (ptr b) := ⟨fun w => by kernel_rfl, by kernel_rfl⟩
instance {b : Nat} : NilC PP Ty.p_styx_input (ptr b) "acheron/styx.mode" := ⟨fun w => by kernel_rfl⟩
instance {b : Nat} : MtC PP Ty.p_styx_input (ptr b) "acheron/styx.mode" Fn.styx_input_mode (ptr b) := ⟨fun w => by kernel_rfl, by kernel_rfl⟩
instance {b : Nat} : NilC PP Ty.p_styx_input (ptr b) "acheron/styx.text" := ⟨fun w => by kernel_rfl⟩
instance {b : Nat} : MtC PP Ty.p_styx_input (ptr b) "acheron/styx.text" Fn.styx_input_text (ptr b) := ⟨fun w => by kernel_rfl, by kernel_rfl⟩
instance {b : Nat} : NilC PP Ty.p_styx_input (ptr b) "acheron/styx.data" := ⟨fun w => by kernel_rfl⟩
instance {b : Nat} : MtC PP Ty.p_styx_input (ptr b) "acheron/styx.data" Fn.styx_input_data (ptr b) := ⟨fun w => by kernel_rfl, by kernel_rfl⟩
instance {b : Nat} : NilC PP Ty.p_styx_input (ptr b) "acheron/styx.names" := ⟨fun w => by kernel_rfl⟩
instance {b : Nat} : MtC PP Ty.p_styx_input (ptr b) "acheron/styx.names" Fn.styx_input_names (ptr b) := ⟨fun w => by kernel_rfl, by kernel_rfl⟩
instance {b : Nat} : NilC PP Ty.p_styx_input (ptr b) "acheron/styx.qids" := ⟨fun w => by kernel_rfl⟩
instance {b : Nat} : MtC PP Ty.p_styx_input (ptr b) "acheron/styx.qids" Fn.styx_input_qids (ptr b) := ⟨fun w => by kernel_rfl, by kernel_rfl⟩
instance {b : Nat} : NilC PP Ty.p_styx_input (ptr b) "acheron/styx.dir" := ⟨fun w => by kernel_rfl⟩
instance {b : Nat} : MtC PP Ty.p_styx_input (ptr b) "acheron/styx.dir" Fn.styx_input_dir (ptr b) := ⟨fun w => by kernel_rfl, by kernel_rfl⟩
instance : NilC PP Ty.styx_blank (.agg #[]) "acheron/styx.num" := ⟨fun w => by kernel_rfl⟩
instance : MtC PP Ty.styx_blank (.agg #[]) "acheron/styx.num" Fn.styx_blank_num (.agg #[]) := ⟨fun w => by kernel_rfl, by kernel_rfl⟩
instance : NilC PP Ty.styx_blank (.agg #[]) "acheron/styx.long" := ⟨fun w => by kernel_rfl⟩
instance : MtC PP Ty.styx_blank (.agg #[]) "acheron/styx.long" Fn.styx_blank_long (.agg #[]) := ⟨fun w => by kernel_rfl, by kernel_rfl⟩
instance : NilC PP Ty.styx_blank (.agg #[]) "acheron/styx.optional" := ⟨fun w => by kernel_rfl⟩
instance : MtC PP Ty.styx_blank (.agg #[]) "acheron/styx.optional" Fn.styx_blank_optional (.agg #[]) := ⟨fun w => by kernel_rfl, by kernel_rfl⟩
instance : NilC PP Ty.styx_blank (.agg #[]) "acheron/styx.mode" := ⟨fun w => by kernel_rfl⟩
instance : MtC PP Ty.styx_blank (.agg #[]) "acheron/styx.mode" Fn.styx_blank_mode (.agg #[]) := ⟨fun w => by kernel_rfl, by kernel_rfl⟩
instance : NilC PP Ty.styx_blank (.agg #[]) "acheron/styx.text" := ⟨fun w => by kernel_rfl⟩
instance : MtC PP Ty.styx_blank (.agg #[]) "acheron/styx.text" Fn.styx_blank_text (.agg #[]) := ⟨fun w => by kernel_rfl, by kernel_rfl⟩
instance : NilC PP Ty.styx_blank (.agg #[]) "acheron/styx.data" := ⟨fun w => by kernel_rfl⟩
instance : MtC PP Ty.styx_blank (.agg #[]) "acheron/styx.data" Fn.styx_blank_data (.agg #[]) := ⟨fun w => by kernel_rfl, by kernel_rfl⟩
instance : NilC PP Ty.styx_blank (.agg #[]) "acheron/styx.names" := ⟨fun w => by kernel_rfl⟩
instance : MtC PP Ty.styx_blank (.agg #[]) "acheron/styx.names" Fn.styx_blank_names (.agg #[]) := ⟨fun w => by kernel_rfl, by kernel_rfl⟩
instance : NilC PP Ty.styx_blank (.agg #[]) "acheron/styx.qids" := ⟨fun w => by kernel_rfl⟩
instance : MtC PP Ty.styx_blank (.agg #[]) "acheron/styx.qids" Fn.styx_blank_qids (.agg #[]) := ⟨fun w => by kernel_rfl, by kernel_rfl⟩
instance : NilC PP Ty.styx_blank (.agg #[]) "acheron/styx.dir" := ⟨fun w => by kernel_rfl⟩
instance : MtC PP Ty.styx_blank (.agg #[]) "acheron/styx.dir" Fn.styx_blank_dir (.agg #[]) := ⟨fun w => by kernel_rfl, by kernel_rfl⟩
end Go.Proofs.YtmlccboapkkcfaaGreatDoor

/-
  The protocol: the writer of bytes.
-/
namespace Go.Proofs.YtmlccboapkkcfaaGreatDoor
open Go Go.Sh
set_option maxRecDepth 100000
set_option linter.unusedVariables false
set_option linter.unusedSimpArgs false
theorem u_sl_uint8 : PP.underlying Ty.sl_uint8 = some (.slice Ty.uint8) := by kernel_rfl
theorem u_uint8 : PP.underlying Ty.uint8 = some (.int .u8) := by kernel_rfl
theorem e_uint8 : el3 PP Ty.uint8 = some (some (.int .u8 0), 1, 1) := by kernel_rfl
theorem u_string : PP.underlying Ty.string = some .string := by kernel_rfl
theorem u_sl_int : PP.underlying Ty.sl_int = some (.slice Ty.int) := by kernel_rfl
theorem n_int : sizeK PP Ty.int = some 1 := by kernel_rfl
theorem z_int : zeroK PP Ty.int = some (i64 0) := by kernel_rfl
theorem u_writer : PP.underlying Ty.p_wire_Writer = some (.pointer Ty.wire_Writer) := by kernel_rfl
variable {w0 w : World} {F : Nat → Prop} {l : List As}
/-- A slice of bytes. -/
abbrev bsA (v : Value) (s : List UInt8) : As := slA v Ty.uint8 1 (bts (mkB s))
theorem bts_sz (s : List UInt8) : (bts (mkB s)).length = s.length := by simp [bts]
theorem bts_ap (s t : List UInt8) : bts (mkB s) ++ bts (mkB t) = bts (mkB (s ++ t)) := by simp [bts]
theorem index_ok {v : Value} {xs : List Int} {a : Int} (hn : xs.length ≤ 1000000000) (E : Hs w0 F w l) (hm : slA v Ty.int 1 (xs.map i64) ∈ l) :
    Ca PP Fn.slices_Index_sl_int_int #[v, i64 a] w fun r w' => r = i64 (match xs.findIdx? (· == a) with | some i => (i : Int) | none => -1) ∧ Hs w0 F w' l := by
  refine S.slices_Index_sl_int_int.calls ?_
  unfold S.slices_Index_sl_int_int
  refine LnL.sl E hm (by omega) ?_
  rw [List.length_map, Nat.div_one]
  refine ⟨fun l1 w1 => ∃ i : Nat, l1 = [i64 i] ∧ i ≤ xs.length ∧ (∀ x ∈ xs.take i, x ≠ a) ∧ Hs w0 F w1 l, fun l1 _ => match l1 with | [.int _ i] => xs.length - i.toNat | _ => 0, ⟨0, rfl, Nat.zero_le _, by simp, E⟩, ?_⟩
  clear E
  rintro t u1 w1 ⟨i, e, hi, hne, E⟩
  cases e
  refine Bi.lss ?_ ?_ <;> intro hlt <;> (repeat with_reducible refine Stp.go ?_)
  · have hx : xs[i]? = some xs[i] := List.getElem?_eq_getElem (by omega)
    refine IxA.sl E hm (by omega) (by omega) (by rw [List.length_map]; omega) ?_
    intro p hp
    refine Ld.sl E hm hp (x := i64 xs[i]) (by rw [Int.toNat_natCast, Nat.mul_one, List.getElem?_map, hx]; rfl) ?_
    refine Bi.eql ?_ ?_ <;> intro c <;> (repeat with_reducible refine Stp.go ?_)
    · have : xs.findIdx? (· == a) = some i := by
        rw [List.findIdx?_eq_some_iff_getElem]
        refine ⟨by omega, by simp [c], ?_⟩
        intro j hj
        have := hne xs[j] (List.mem_iff_getElem.2 ⟨j, by rw [List.length_take]; omega, by simp⟩)
        simpa using this
      rw [this]
      exact ⟨rfl, E⟩
    · refine Bi.add (by omega) ?_
      refine ⟨⟨i + 1, by simp, by omega, ?_, E⟩, by simp only []; omega⟩
      intro x hx'
      rw [List.take_add_one, hx] at hx'
      rcases List.mem_append.1 hx' with h | h
      · exact hne x h
      · have : x = xs[i] := by simpa using h
        rw [this]; exact fun e => c e.symm
  · have : xs.findIdx? (· == a) = none := by
      rw [List.findIdx?_eq_none_iff]
      intro x hx
      have := hne x (by rw [List.take_of_length_le (by omega)]; exact hx)
      simpa using this
    rw [this]
    exact ⟨rfl, E⟩
theorem width_ok {k : Int} (E : Hs w0 F w l) : Ca PP Fn.wire_width #[i64 k] w fun r w' => r = .bool (decide (k = 1 ∨ k = 2 ∨ k = 4 ∨ k = 8)) ∧ Hs w0 F w' l := by
  refine S.wire_width.calls ?_
  unfold S.wire_width
  refine BdS.sl (xs := [i64 1, i64 2, i64 4, i64 8]) E u_sl_int n_int z_int (by omega) (by omega) (by kernel_rfl) rfl ?_
  intro v w_ E
  refine S.slices_Contains_sl_int_int.calls ?_
  unfold S.slices_Contains_sl_int_int
  refine (index_ok (xs := [1, 2, 4, 8]) (by decide) E List.mem_cons_self).mono ?_
  clear E
  rintro r w_ ⟨rfl, E⟩
  by_cases h : k = 1 ∨ k = 2 ∨ k = 4 ∨ k = 8
  · rw [decide_eq_true h]
    have : ∃ n : Nat, [1, 2, 4, 8].findIdx? (· == k) = some n := by
      rcases h with rfl | rfl | rfl | rfl
      · exact ⟨0, rfl⟩
      · exact ⟨1, rfl⟩
      · exact ⟨2, rfl⟩
      · exact ⟨3, rfl⟩
    obtain ⟨n, hn⟩ := this
    rw [hn]
    refine Bi.geq (fun _ => ⟨rfl, E.tl⟩) fun h => absurd h (by simp only []; omega)
  · rw [decide_eq_false h]
    have : [1, 2, 4, 8].findIdx? (· == k) = none := by
      rw [List.findIdx?_eq_none_iff]
      intro x hx
      simp only [List.mem_cons, List.not_mem_nil, or_false] at hx
      rw [beq_eq_false_iff_ne]
      omega
    rw [this]
    refine Bi.geq (fun h => absurd h (by decide)) fun _ => ⟨rfl, E.tl⟩
theorem le_snoc : ∀ (k : Nat) (n : Int), le n (k + 1) = le n k ++ [UInt8.ofNat ((n / (256 ^ k : Nat)) % 256).toNat]
  | 0, n => by simp [le]
  | k + 1, n => by
    rw [le, le_snoc k (n / 256), le, List.cons_append]
    congr 4
    rw [Int.ediv_ediv_of_nonneg (by omega), Nat.pow_succ]
    congr 2
    push_cast
    rw [Int.mul_comm]
theorem shr_byte {n : Int} {i : Nat} {k : Value → Prop} (hi : i < 8) (hk : k (.int .i64 (n / (256 ^ i : Nat)))) : Bi .shr (i64 n) (i64 (8 * i)) k := by
  refine Bi.mk (v := .int .i64 (n / (256 ^ i : Nat))) ?_ hk
  have h1 : min (8 * (i : Int)).toNat (IntKind.bits .i64) = 8 * i := by
    have : IntKind.bits .i64 = 64 := rfl
    omega
  simp only [binV]
  rw [if_neg (by omega), h1]
  have h2 : (2 : Int) ^ (8 * i) = ((256 ^ i : Nat) : Int) := by rw [Int.pow_mul]; norm_cast
  rw [h2, Int.fdiv_eq_ediv_of_nonneg _ (Int.natCast_nonneg _)]
theorem u8_wrap (n : Int) : IntKind.u8.wrap n = (UInt8.ofNat (n % 256).toNat).toNat := by
  have : IntKind.u8.wrap n = n % 256 := rfl
  rw [this, UInt8.toNat_ofNat']
  omega
theorem wlittle_ok {o : Nat} {v : Value} {cs : List Value} {T : TypeId} {s : List UInt8} {n : Int} {k : Nat} (hk : k ≤ 8) (hs : s.length ≤ 1000000000) (E : Hs w0 F w (pt o (oc (v :: cs) T) :: bsA v s :: l)) :
    Ca PP Fn.wire_Writer_little #[ptr o, i64 n, i64 k] w fun r w' => r = i64 0 ∧ ∃ v', Hs w0 F w' (pt o (oc (v' :: cs) T) :: bsA v' (s ++ le n k) :: l) := by
  refine S.wire_Writer_little.calls ?_
  unfold S.wire_Writer_little
  refine ⟨fun l1 w1 => ∃ (i : Nat) (v : Value), l1 = [i64 i] ∧ i ≤ k ∧ Hs w0 F w1 (pt o (oc (v :: cs) T) :: bsA v (s ++ le n i) :: l), fun l1 _ => match l1 with | [.int _ i] => k - i.toNat | _ => 0, ⟨0, v, rfl, Nat.zero_le _, by rw [le, List.append_nil]; exact E⟩, ?_⟩
  clear E
  rintro t u1 w1 ⟨i, v, e, hi, E⟩
  cases e
  refine Bi.lss ?_ ?_ <;> intro hlt <;> (repeat with_reducible first | refine Stp.go ?_ | refine StpE.go E ?_ | (refine StpW.go E ?_; clear E; intro w_ E))
  · refine Bi.mul (by omega) ?_
    refine shr_byte (by omega) ?_
    refine Cv.mk ?_
    rw [u8_wrap]
    refine BdS.one E u_sl_uint8 e_uint8 rfl ?_
    intro v2 w_ E
    have hb1 : ([Value.int .u8 (UInt8.ofNat (n / (256 ^ i : Nat) % 256).toNat).toNat] : List Value) = bts (mkB [UInt8.ofNat (n / (256 ^ i : Nat) % 256).toNat]) := rfl
    rw [hb1] at E
    refine ⟨?_, ?_⟩
    · (repeat with_reducible refine StpE.go E ?_)
      rfl
    refine Ap.one E (i := 2) rfl u_sl_uint8 ⟨_, u_sl_uint8, fun _ h => by cases h⟩ e_uint8 (Src.one E (by (first | assumption | exact FPt.mem | exact FMp.mem | exact FSl.mem | (repeat (first | assumption | with_reducible exact List.mem_cons_self | refine List.mem_cons_of_mem _ ?_)))) (bts_scal _)) rfl (by rw [bts_sz, bts_sz, List.length_append, le_length]; show (_ + 1) * _ ≤ _; omega) (by rw [bts_sz, bts_sz, List.length_append, le_length]; show _ + 1 ≤ _; omega) ?_
    intro s' w_ E
    (try simp only [List.set_cons_zero, List.set_cons_succ, List.cons_append, List.nil_append, Nat.zero_add, Nat.add_zero] at E)
    rw [bts_ap, List.append_assoc, ← le_snoc] at E
    (repeat with_reducible first | refine Stp.go ?_ | (refine StpW.go E ?_; clear E; intro w_ E))
    refine Bi.add (by omega) ?_
    (replace E := (E.bIx 0).tl)
    exact ⟨⟨i + 1, s', by simp, by omega, E⟩, by simp only []; omega⟩
  · have : i = k := by omega
    subst this
    exact ⟨rfl, v, E⟩
end Go.Proofs.YtmlccboapkkcfaaGreatDoor

/-
  The protocol: the writer of bytes: its functions.
-/
namespace Go.Proofs.YtmlccboapkkcfaaGreatDoor
open Go Go.Sh
set_option maxRecDepth 100000
set_option linter.unusedVariables false
set_option linter.unusedSimpArgs false
variable {w0 w : World} {F : Nat → Prop} {l : List As}
variable {o : Nat} {v : Value} {cs : List Value} {T : TypeId} {s : List UInt8}
theorem inR_pos {n : Int} {k : Nat} (h0 : 0 ≤ n) (h : n / (256 ^ k : Nat) = 0) : inR n k = true := by
  unfold inR
  rw [Bool.and_eq_true, decide_eq_true_eq, decide_eq_true_eq]
  refine ⟨h0, ?_⟩
  have hp : (0 : Int) < ((256 ^ k : Nat) : Int) := by exact_mod_cast Nat.pos_of_ne_zero (by simp)
  have h1 := Int.emod_add_mul_ediv n ((256 ^ k : Nat) : Int)
  have h2 := Int.emod_lt_of_pos n hp
  rw [h, Int.mul_zero] at h1
  omega
theorem inR_neg {n : Int} {k : Nat} (h : n < 0) : inR n k = false := by
  unfold inR
  rw [decide_eq_false (by omega), Bool.false_and]
theorem inR_far {n : Int} {k : Nat} (h0 : 0 ≤ n) (h : n / (256 ^ k : Nat) ≠ 0) : inR n k = false := by
  unfold inR
  rw [Bool.and_eq_false_iff, decide_eq_false_iff_not, decide_eq_false_iff_not]
  right
  intro hl
  exact h (Int.ediv_eq_zero_of_lt h0 hl)
theorem Little_ok {n : Int} {k : Nat} (hk : k = 1 ∨ k = 2 ∨ k = 4) (hs : s.length ≤ 1000000000) (E : Hs w0 F w (pt o (oc (v :: cs) T) :: bsA v s :: l)) :
    Ca PP Fn.wire_Writer_Little #[ptr o, i64 n, i64 k] w fun r w' => r = i64 (if inR n k = true then 0 else 11) ∧ ∃ v', Hs w0 F w' (pt o (oc (v' :: cs) T) :: bsA v' (if inR n k = true then s ++ le n k else s) :: l) := by
  refine S.wire_Writer_Little.calls ?_
  unfold S.wire_Writer_Little
  refine Eq.ef u_writer rfl ?_
  (repeat with_reducible refine Stp.go ?_)
  refine (width_ok E).mono ?_
  clear E
  rintro r w_ ⟨rfl, E⟩
  rw [decide_eq_true (by omega)]
  (repeat with_reducible refine Stp.go ?_)
  (intro J5 hJ5)
  have fin5 : ∀ b w_, b = !inR n k → Hs w0 F w_ (pt o (oc (v :: cs) T) :: bsA v s :: l) → J5 [.bool b] w_ := by
    intro b w_ hb E
    (repeat with_reducible (apply hJ5; intro u_))
    clear hJ5
    cases hi : inR n k with
    | false =>
      obtain rfl : b = true := by rw [hb, hi]; rfl
      (repeat with_reducible refine Stp.go ?_)
      exact ⟨rfl, v, E⟩
    | true =>
      obtain rfl : b = false := by rw [hb, hi]; rfl
      (repeat with_reducible refine Stp.go ?_)
      refine (wlittle_ok (k := k) (by omega) hs E).mono ?_
      clear E
      rintro r w_ ⟨rfl, v', E⟩
      exact ⟨rfl, v', E⟩
  clear hJ5
  refine Bi.lss ?_ ?_ <;> intro c1 <;> (repeat with_reducible refine Stp.go ?_)
  · exact fin5 _ _ (by rw [inR_neg c1]; rfl) E
  refine Bi.lss ?_ ?_ <;> intro c2
  rotate_left
  · omega
  (repeat with_reducible refine Stp.go ?_)
  refine Bi.mul (by omega) ?_
  (repeat with_reducible refine Stp.go ?_)
  refine shr_byte (i := k) (by omega) ?_
  (repeat with_reducible refine Stp.go ?_)
  refine Bi.neq ?_ ?_ <;> intro c3 <;> (repeat with_reducible refine Stp.go ?_)
  · exact fin5 _ _ (by rw [inR_far c1 c3]; rfl) E
  · exact fin5 _ _ (by rw [inR_pos c1 c3]; rfl) E
theorem Signed_ok {n : Int} (hn : -9223372036854775808 ≤ n ∧ n ≤ 9223372036854775807) (hs : s.length ≤ 1000000000) (E : Hs w0 F w (pt o (oc (v :: cs) T) :: bsA v s :: l)) :
    Ca PP Fn.wire_Writer_Signed #[ptr o, i64 n, i64 8] w fun r w' => r = i64 0 ∧ ∃ v', Hs w0 F w' (pt o (oc (v' :: cs) T) :: bsA v' (s ++ le n 8) :: l) := by
  refine S.wire_Writer_Signed.calls ?_
  unfold S.wire_Writer_Signed
  refine Eq.ef u_writer rfl ?_
  (repeat with_reducible refine Stp.go ?_)
  refine (width_ok E).mono ?_
  clear E
  rintro r w_ ⟨rfl, E⟩
  rw [decide_eq_true (by omega)]
  (repeat with_reducible refine Stp.go ?_)
  refine Bi.mul (by omega) ?_
  refine Bi.sub (by omega) ?_
  refine Bi.mk (v := i64 (n / 9223372036854775808)) (by
    show (if (8 * 8 - 1 : Int) < 0 then none else some (Value.int .i64 (n.fdiv (2 ^ (min (8 * 8 - 1 : Int).toNat 64))))) = _
    rw [if_neg (by decide), Int.fdiv_eq_ediv_of_nonneg _ (by decide)]
    rfl) ?_
  have ht : n / 9223372036854775808 = 0 ∨ n / 9223372036854775808 = -1 := by omega
  (intro J8 hJ8)
  have fin8 : ∀ w_, Hs w0 F w_ (pt o (oc (v :: cs) T) :: bsA v s :: l) → J8 [.bool false] w_ := by
    intro w_ E
    (repeat with_reducible first | refine Stp.go ?_ | (apply hJ8; intro u_))
    clear hJ8
    have := (wlittle_ok (k := 8) (n := n) (by omega) hs E)
    refine this.mono ?_
    clear E
    rintro r w_ ⟨rfl, v', E⟩
    exact ⟨rfl, v', E⟩
  clear hJ8
  refine Bi.neq ?_ ?_ <;> intro c1 <;> (repeat with_reducible refine Stp.go ?_)
  · refine Bi.neq ?_ ?_ <;> intro c2 <;> (repeat with_reducible refine Stp.go ?_)
    · omega
    · exact fin8 _ E
  · exact fin8 _ E
theorem Raw_ok {t : List UInt8} (hs : s.length ≤ 10000000000) (ht : t.length ≤ 10000000000) (E : Hs w0 F w (pt o (oc (v :: cs) T) :: bsA v s :: l)) :
    Ca PP Fn.wire_Writer_Raw #[ptr o, sb t] w fun r w' => r = i64 0 ∧ ∃ v', Hs w0 F w' (pt o (oc (v' :: cs) T) :: bsA v' (s ++ t) :: l) := by
  refine S.wire_Writer_Raw.calls ?_
  unfold S.wire_Writer_Raw
  refine Eq.ef u_writer rfl ?_
  (repeat with_reducible first | refine Stp.go ?_ | refine StpE.go E ?_)
  have hz : (mkB t).size = t.length := rfl
  refine Ap.one E (i := 1) rfl u_sl_uint8 ⟨_, u_string, fun _ h => by cases h⟩ e_uint8 (Src.str (s := mkB t)) rfl (by rw [bts_sz]; omega) (by rw [bts_sz]; omega) ?_
  intro s' w_ E
  (try simp only [List.set_cons_zero, List.set_cons_succ, List.cons_append, List.nil_append, Nat.zero_add, Nat.add_zero] at E)
  rw [bts_ap] at E
  (repeat with_reducible first | refine Stp.go ?_ | (refine StpW.go E ?_; clear E; intro w_ E))
  exact ⟨rfl, s', E⟩
theorem Text_ok (E : Hs w0 F w (pt o (oc (v :: cs) T) :: bsA v s :: l)) :
    Ca PP Fn.wire_Writer_Text #[ptr o] w fun r w' => r = sb s ∧ Hs w0 F w' (pt o (oc (v :: cs) T) :: bsA v s :: l) := by
  refine S.wire_Writer_Text.calls ?_
  unfold S.wire_Writer_Text
  refine Eq.ef u_writer rfl ?_
  (repeat with_reducible first | refine Stp.go ?_ | refine StpE.go E ?_)
  refine CvB.sl E (s := mkB s) (by (first | assumption | exact FPt.mem | exact FMp.mem | exact FSl.mem | (repeat (first | assumption | with_reducible exact List.mem_cons_self | refine List.mem_cons_of_mem _ ?_)))) u_sl_uint8 u_string u_uint8 ?_
  exact ⟨rfl, E⟩
theorem Len_ok (E : Hs w0 F w (pt o (oc (v :: cs) T) :: bsA v s :: l)) :
    Ca PP Fn.wire_Writer_Len #[ptr o] w fun r w' => r = i64 s.length ∧ Hs w0 F w' (pt o (oc (v :: cs) T) :: bsA v s :: l) := by
  refine S.wire_Writer_Len.calls ?_
  unfold S.wire_Writer_Len
  refine Eq.ef u_writer rfl ?_
  (repeat with_reducible first | refine Stp.go ?_ | refine StpE.go E ?_)
  rw [bts_sz]
  exact ⟨rfl, E⟩
theorem NewWriter_ok (E : Hs w0 F w l) :
    Ca PP Fn.wire_NewWriter #[] w fun r w' => ∃ o v, r = ptr o ∧ Hs w0 F w' (pt o (oc [v] Ty.wire_Writer) :: bsA v [] :: l) := by
  refine S.wire_NewWriter.calls ?_
  unfold S.wire_NewWriter
  have E := E.nilSl Ty.uint8 1
  (repeat with_reducible first | refine StpE.go E ?_ | (refine StpA.go E ?_; clear E; intro b_ w_ hb_ E))
  exact ⟨_, _, rfl, E⟩
end Go.Proofs.YtmlccboapkkcfaaGreatDoor

/-
  The protocol: the writer of fields.
-/
namespace Go.Proofs.YtmlccboapkkcfaaGreatDoor
open Go Go.Sh
set_option maxRecDepth 100000
set_option linter.unusedVariables false
set_option linter.unusedSimpArgs false
variable {w0 w : World} {F : Nat → Prop} {l : List As}
variable {o : Nat} {O : Ou} {a : Addr} {xs : List Value}
theorem u_sl_p_string : PP.underlying Ty.sl_p_string = some (.slice Ty.p_string) := by kernel_rfl
theorem n_p_string : sizeK PP Ty.p_string = some 1 := by kernel_rfl
theorem z_p_string : zeroK PP Ty.p_string = some (.pointer none) := by kernel_rfl
/-- The writer in memory. -/
def OT (w0 : World) (F : Nat → Prop) (o : Nat) (O : Ou) (l : List As) (w : World) : Prop :=
  ∃ v, Hs w0 F w (pt o (oc [v, .bool O.bad, .bool O.ov] Ty.styx_output) :: bsA v O.s :: l)
theorem OT.rest (E : OT w0 F o O l w) : Hs w0 F w l := by obtain ⟨v, E⟩ := E; exact E.tl.tl
theorem RdP.pt {b off : Nat} {cs : List Value} {T : TypeId} (h : Sh.pt b (oc cs T) ∈ l) : RdP w0 F l ⟨b, off, none⟩ (cs.drop off) := by
  right
  refine ⟨b, off, rfl, fun w E j x hj => ?_⟩
  have h1 : w.heap[b]? = some (oc cs T) := E.sat _ h
  rw [List.getElem?_drop] at hj
  exact cell_of h1 (by simpa using hj)
theorem onum_ok {n : Int} {k : Nat} (hk : k = 1 ∨ k = 2 ∨ k = 4) (ha : RdP w0 F l a (i64 n :: xs)) (hs : O.s.length ≤ 100000000) (E : OT w0 F o O l w) :
    Ca PP Fn.styx_output_num #[ptr o, .pointer (some a), i64 k] w fun r w' => r = .tuple #[] ∧ OT w0 F o (O.num n k) l w' := by
  obtain ⟨v, E⟩ := E
  refine S.styx_output_num.calls ?_
  unfold S.styx_output_num
  (repeat with_reducible first | refine Stp.go ?_ | (refine StpW.go E ?_; clear E; intro w_ E))
  refine ha.ld E.tl.tl rfl ?_
  refine (Little_ok hk (by omega) E).mono ?_
  clear E
  rintro r w_ ⟨rfl, v', E⟩
  unfold Ou.num
  by_cases hi : inR n k = true
  · rw [if_pos hi] at E ⊢
    rw [if_pos hi]
    (repeat first | (with_reducible first | refine Stp.go ?_) | ((with_reducible refine Bi.dec false ?_ ?_); focus exact rfl))
    exact ⟨rfl, v', E⟩
  · rw [if_neg hi] at E ⊢
    rw [if_neg hi]
    (repeat first | (with_reducible first | refine Stp.go ?_ | (refine StpW.go E ?_; clear E; intro w_ E)) | ((with_reducible refine Bi.dec true ?_ ?_); focus exact rfl))
    exact ⟨rfl, v', E⟩
theorem oleast_ok {n b : Int} (hn : -9223372036854775808 ≤ n ∧ n ≤ 9223372036854775807) (hs : O.s.length ≤ 100000000) (E : OT w0 F o O l w) :
    Ca PP Fn.styx_output_least #[ptr o, i64 n, i64 b] w fun r w' => r = .tuple #[] ∧ OT w0 F o (O.least n b) l w' := by
  obtain ⟨v, E⟩ := E
  refine S.styx_output_least.calls ?_
  unfold S.styx_output_least
  (intro J1 hJ1)
  have fin1 : ∀ w_ (x : Bool), x = (O.bad || decide (n < b)) → Hs w0 F w_ (pt o (oc [v, .bool x, .bool O.ov] Ty.styx_output) :: bsA v O.s :: l) → J1 [] w_ := by
    intro w_ x hx E
    (repeat with_reducible first | refine Stp.go ?_ | (apply hJ1; intro u_))
    refine (Signed_ok hn (by omega) E).mono ?_
    clear E
    rintro r w_ ⟨rfl, v', E⟩
    skip
    rw [hx] at E
    exact ⟨rfl, v', E⟩
  clear hJ1
  refine Bi.lss ?_ ?_ <;> intro c <;> (repeat with_reducible first | refine Stp.go ?_ | (refine StpW.go E ?_; clear E; intro w_ E))
  · exact fin1 _ _ (by rw [decide_eq_true c, Bool.or_true]) E
  · exact fin1 _ _ (by rw [decide_eq_false (by omega), Bool.or_false]) E
theorem olong_ok {n : Int} (ha : RdP w0 F l a (i64 n :: xs)) (hn : -9223372036854775808 ≤ n ∧ n ≤ 9223372036854775807) (hs : O.s.length ≤ 100000000) (E : OT w0 F o O l w) :
    Ca PP Fn.styx_output_long #[ptr o, .pointer (some a)] w fun r w' => r = .tuple #[] ∧ OT w0 F o (O.least n 0) l w' := by
  refine S.styx_output_long.calls ?_
  unfold S.styx_output_long
  refine Stp.go ?_
  refine ha.ld E.rest rfl ?_
  refine (oleast_ok hn hs E).mono ?_
  rintro r w_ ⟨rfl, E⟩
  exact ⟨rfl, E⟩
theorem oopt_ok {n : Int} (ha : RdP w0 F l a (i64 n :: xs)) (hn : -9223372036854775808 ≤ n ∧ n ≤ 9223372036854775807) (hs : O.s.length ≤ 100000000) (E : OT w0 F o O l w) :
    Ca PP Fn.styx_output_optional #[ptr o, .pointer (some a)] w fun r w' => r = .tuple #[] ∧ OT w0 F o (O.least n (-1)) l w' := by
  refine S.styx_output_optional.calls ?_
  unfold S.styx_output_optional
  refine Stp.go ?_
  refine ha.ld E.rest rfl ?_
  refine (oleast_ok hn hs E).mono ?_
  rintro r w_ ⟨rfl, E⟩
  exact ⟨rfl, E⟩
/-- A number is put, whatever the writer says of it. -/
theorem oput_ok {n : Int} {k : Nat} (hk : k = 1 ∨ k = 2 ∨ k = 4) (hs : O.s.length ≤ 100000000) {v : Value} (E : Hs w0 F w (pt o (oc [v, .bool O.bad, .bool O.ov] Ty.styx_output) :: bsA v O.s :: l)) :
    Ca PP Fn.wire_Writer_Little #[ptr o, i64 n, i64 k] w fun r w' => r = i64 (if inR n k = true then 0 else 11) ∧ OT w0 F o (O.put n k) l w' := by
  refine (Little_ok hk (by omega) E).mono ?_
  rintro r w_ ⟨rfl, v', E⟩
  refine ⟨rfl, v', ?_⟩
  unfold Ou.put
  split
  · rename_i h; rw [if_pos h] at E; exact E
  · rename_i h; rw [if_neg h] at E; exact E
theorem omode_ok {n : Int} (ha : RdP w0 F l a (i64 n :: xs)) (hs : O.s.length ≤ 100000000) (E : OT w0 F o O l w) :
    Ca PP Fn.styx_output_mode #[ptr o, .pointer (some a)] w fun r w' => r = .tuple #[] ∧ OT w0 F o (O.mode n) l w' := by
  obtain ⟨v, E⟩ := E
  refine S.styx_output_mode.calls ?_
  unfold S.styx_output_mode
  (repeat with_reducible refine Stp.go ?_)
  refine ha.ld E.tl.tl rfl ?_
  (intro J3 hJ3)
  have fin3 : ∀ (P : Ou) (m : Int) w_, O.mode n = P.put m 4 → P.s.length ≤ 100000000 → Hs w0 F w_ (pt o (oc [v, .bool P.bad, .bool P.ov] Ty.styx_output) :: bsA v P.s :: l) → J3 [i64 m] w_ := by
    intro P m w_ hP hs E
    (repeat with_reducible first | refine Stp.go ?_ | (apply hJ3; intro u_))
    refine (oput_ok (k := 4) (by omega) hs E).mono ?_
    clear E
    rintro r w_ ⟨rfl, E⟩
    rw [hP]
    exact ⟨rfl, E⟩
  clear hJ3
  (intro J11 hJ11)
  have fin11 : ∀ b w_, b = decide (n < -1 ∨ 4294967295 ≤ n) → Hs w0 F w_ (pt o (oc [v, .bool O.bad, .bool O.ov] Ty.styx_output) :: bsA v O.s :: l) → J11 [.bool b] w_ := by
    intro b w_ hb E
    (repeat with_reducible (apply hJ11; intro u_))
    clear hJ11
    by_cases c : n < -1 ∨ 4294967295 ≤ n
    · rw [decide_eq_true c] at hb
      subst hb
      (repeat with_reducible first | refine Stp.go ?_ | (refine StpW.go E ?_; clear E; intro w_ E))
      exact fin3 { O with bad := true } n _ (by unfold Ou.mode; rw [if_pos c]) hs E
    · rw [decide_eq_false c] at hb
      subst hb
      (repeat with_reducible refine Stp.go ?_)
      refine Bi.eql ?_ ?_ <;> intro c2 <;> (repeat with_reducible refine Stp.go ?_)
      · exact fin3 O 4294967295 _ (by unfold Ou.mode; rw [if_neg c, if_pos c2]) hs E
      · exact fin3 O n _ (by unfold Ou.mode; rw [if_neg c, if_neg c2]) hs E
  clear hJ11
  refine Bi.lss ?_ ?_ <;> intro c1 <;> (repeat with_reducible refine Stp.go ?_)
  · exact fin11 _ _ (by rw [decide_eq_true (.inl c1)]) E
  refine Bi.geq ?_ ?_ <;> intro c2 <;> (repeat with_reducible refine Stp.go ?_)
  · exact fin11 _ _ (by rw [decide_eq_true (.inr c2)]) E
  · exact fin11 _ _ (by rw [decide_eq_false (by omega)]) E
theorem osized_ok {t : List UInt8} {k : Nat} (hk : k = 2 ∨ k = 4) (ht : t.length ≤ 9223372036854775807) (hs : O.s.length ≤ 100000000) (E : OT w0 F o O l w) :
    Ca PP Fn.styx_output_sized #[ptr o, sb t, i64 k] w fun r w' => r = .tuple #[] ∧ OT w0 F o (O.sized t k) l w' := by
  obtain ⟨v, E⟩ := E
  refine S.styx_output_sized.calls ?_
  unfold S.styx_output_sized
  (intro J1 hJ1)
  have fin1 : ∀ b w_, b = !decide (inR t.length k = true ∧ t.length ≤ 8192) → OT w0 F o (O.put t.length k) l w_ → J1 [.bool b] w_ := by
    rintro b w_ hb ⟨v, E⟩
    (repeat with_reducible (apply hJ1; intro u_))
    unfold Ou.sized
    by_cases c : inR t.length k = true ∧ t.length ≤ 8192
    · obtain rfl : b = false := by rw [hb, decide_eq_true c]; rfl
      rw [if_pos c]
      (repeat with_reducible refine Stp.go ?_)
      have hp : (O.put t.length k) = { O with s := O.s ++ le t.length k } := by unfold Ou.put; rw [if_pos c.1]
      rw [hp] at E
      refine (Raw_ok (by simp only [List.length_append, le_length]; omega) (by omega) E).mono ?_
      clear E
      rintro r w_ ⟨rfl, v', E⟩
      exact ⟨rfl, v', E⟩
    · obtain rfl : b = true := by rw [hb, decide_eq_false c]; rfl
      rw [if_neg c]
      (repeat with_reducible first | refine Stp.go ?_ | (refine StpW.go E ?_; clear E; intro w_ E))
      exact ⟨rfl, _, E⟩
  clear hJ1
  (repeat with_reducible refine Stp.go ?_)
  rw [mkB_size]
  refine (oput_ok (by omega) hs E).mono ?_
  clear E
  rintro r w_ ⟨rfl, E⟩
  by_cases c : inR t.length k = true
  · rw [if_pos c]
    (repeat first | (with_reducible first | refine Stp.go ?_) | ((with_reducible refine Bi.dec false ?_ ?_); focus exact rfl))
    rw [mkB_size]
    refine Bi.gtr ?_ ?_ <;> intro c2 <;> (repeat with_reducible refine Stp.go ?_)
    · exact fin1 _ _ (by rw [decide_eq_false (by omega)]; rfl) E
    · exact fin1 _ _ (by rw [decide_eq_true ⟨c, by omega⟩]; rfl) E
  · rw [if_neg c]
    (repeat first | (with_reducible first | refine Stp.go ?_) | ((with_reducible refine Bi.dec true ?_ ?_); focus exact rfl))
    exact fin1 _ _ (by rw [decide_eq_false (fun h => c h.1)]; rfl) E
theorem otext_ok {t : List UInt8} (ha : RdP w0 F l a (sb t :: xs)) (ht : t.length ≤ 9223372036854775807) (hs : O.s.length ≤ 100000000) (E : OT w0 F o O l w) :
    Ca PP Fn.styx_output_text #[ptr o, .pointer (some a)] w fun r w' => r = .tuple #[] ∧ OT w0 F o (O.sized t 2) l w' := by
  refine S.styx_output_text.calls ?_
  unfold S.styx_output_text
  refine Stp.go ?_
  refine ha.ld E.rest rfl ?_
  refine (osized_ok (k := 2) (by omega) ht hs E).mono ?_
  rintro r w_ ⟨rfl, E⟩
  exact ⟨rfl, E⟩
theorem odata_ok {t : List UInt8} (ha : RdP w0 F l a (sb t :: xs)) (ht : t.length ≤ 9223372036854775807) (hs : O.s.length ≤ 100000000) (E : OT w0 F o O l w) :
    Ca PP Fn.styx_output_data #[ptr o, .pointer (some a)] w fun r w' => r = .tuple #[] ∧ OT w0 F o (O.sized t 4) l w' := by
  refine S.styx_output_data.calls ?_
  unfold S.styx_output_data
  refine Stp.go ?_
  refine ha.ld E.rest rfl ?_
  refine (osized_ok (k := 4) (by omega) ht hs E).mono ?_
  rintro r w_ ⟨rfl, E⟩
  exact ⟨rfl, E⟩
theorem ocount_ok {n : Nat} (hs : O.s.length ≤ 100000000) (E : OT w0 F o O l w) :
    Ca PP Fn.styx_output_count #[ptr o, i64 n] w fun r w' => r = .tuple #[] ∧ OT w0 F o (O.count n) l w' := by
  obtain ⟨v, E⟩ := E
  refine S.styx_output_count.calls ?_
  unfold S.styx_output_count
  (intro J1 hJ1)
  have fin1 : ∀ w_ (x : Bool), x = (O.ov || decide (n > 16)) → Hs w0 F w_ (pt o (oc [v, .bool O.bad, .bool x] Ty.styx_output) :: bsA v O.s :: l) → J1 [] w_ := by
    intro w_ x hx E
    (repeat with_reducible first | refine Stp.go ?_ | (apply hJ1; intro u_))
    subst hx
    refine (oput_ok (O := { O with ov := O.ov || decide (n > 16) }) (k := 2) (by omega) hs E).mono ?_
    clear E
    rintro r w_ ⟨rfl, E⟩
    skip
    exact ⟨rfl, E⟩
  clear hJ1
  refine Bi.gtr ?_ ?_ <;> intro c <;> (repeat with_reducible first | refine Stp.go ?_ | (refine StpW.go E ?_; clear E; intro w_ E))
  · exact fin1 _ _ (by rw [decide_eq_true (by omega), Bool.or_true]) E
  · exact fin1 _ _ (by rw [decide_eq_false (by omega), Bool.or_false]) E
end Go.Proofs.YtmlccboapkkcfaaGreatDoor

/-
  The protocol: the writer of fields: lists, qids and Dirs.
-/
namespace Go.Proofs.YtmlccboapkkcfaaGreatDoor
open Go Go.Sh
set_option maxRecDepth 100000
set_option linter.unusedVariables false
set_option linter.unusedSimpArgs false
variable {w0 w : World} {F : Nat → Prop} {l : List As}
variable {o : Nat} {O : Ou} {a : Addr} {xs : List Value}
theorem put_len (O : Ou) (n : Int) (k : Nat) : (O.put n k).s.length ≤ O.s.length + k := by
  unfold Ou.put; split
  · simp only [List.length_append, le_length]; omega
  · omega
theorem num_len (O : Ou) (n : Int) (k : Nat) : (O.num n k).s.length ≤ O.s.length + k := by
  unfold Ou.num; split
  · simp only [List.length_append, le_length]; omega
  · simp only []; omega
theorem least_len (O : Ou) (n b : Int) : (O.least n b).s.length = O.s.length + 8 := by
  unfold Ou.least; simp only [List.length_append, le_length]
theorem mode_len (O : Ou) (n : Int) : (O.mode n).s.length ≤ O.s.length + 4 := by
  unfold Ou.mode; split
  · exact put_len _ _ _
  · split <;> exact put_len _ _ _
theorem sized_len (O : Ou) (t : List UInt8) (k : Nat) : (O.sized t k).s.length ≤ O.s.length + k + 8192 := by
  unfold Ou.sized; split
  · simp only [List.length_append, le_length]; omega
  · have := put_len O t.length k
    show (O.put _ _).s.length ≤ _
    omega
theorem count_len (O : Ou) (n : Nat) : (O.count n).s.length ≤ O.s.length + 2 := put_len { O with ov := O.ov || decide (n > 16) } n 2
theorem qid_len (O : Ou) (q : Qi) : (O.qid q).s.length ≤ O.s.length + 13 := by
  unfold Ou.qid
  have h1 := num_len O q.kind 1
  have h2 := num_len (O.num q.kind 1) q.vers 4
  have h3 := least_len ((O.num q.kind 1).num q.vers 4) q.path 0
  omega
abbrev qcs (q : Qi) : List Value := [i64 q.kind, i64 q.vers, i64 q.path]
abbrev dcs (d : Di) : List Value := [i64 d.q.kind, i64 d.q.vers, i64 d.q.path, i64 d.mode, i64 d.time, i64 d.len, sb d.name, sb d.owner, sb d.group, sb d.last]
theorem oqid_ok {q : Qi} (ha : RdP w0 F l a (qcs q ++ xs)) (hq : q.Ok) (hs : O.s.length ≤ 90000000) (E : OT w0 F o O l w) :
    Ca PP Fn.styx_qid #[.iface Ty.p_styx_output (ptr o), .pointer (some a)] w fun r w' => r = .tuple #[] ∧ OT w0 F o (O.qid q) l w' := by
  have h1 := num_len O q.kind 1
  have h2 := num_len (O.num q.kind 1) q.vers 4
  obtain ⟨v, E⟩ := E
  refine S.styx_qid.calls ?_
  unfold S.styx_qid
  (repeat with_reducible first | refine Stp.go ?_ | (refine StpW.go E ?_; clear E; intro w_ E))
  refine ha.fa (by simp) ?_
  intro a1 ha1
  (repeat with_reducible refine Stp.go ?_)
  refine (onum_ok (k := 1) (by omega) ha1 (by omega) ⟨_, E⟩).mono ?_
  clear E
  rintro r w_ ⟨rfl, v, E⟩
  (repeat with_reducible first | refine Stp.go ?_ | (refine StpW.go E ?_; clear E; intro w_ E))
  refine ha.fa (by simp) ?_
  intro a1 ha1
  (repeat with_reducible refine Stp.go ?_)
  refine (onum_ok (k := 4) (by omega) ha1 (by omega) ⟨_, E⟩).mono ?_
  clear E
  rintro r w_ ⟨rfl, v, E⟩
  (repeat with_reducible first | refine Stp.go ?_ | (refine StpW.go E ?_; clear E; intro w_ E))
  refine ha.fa (by simp) ?_
  intro a1 ha1
  (repeat with_reducible refine Stp.go ?_)
  refine (olong_ok ha1 hq (by omega) ⟨_, E⟩).mono ?_
  clear E
  rintro r w_ ⟨rfl, E⟩
  exact ⟨rfl, E⟩
/-- Texts, one behind the other. -/
def Ou.texts (O : Ou) (ts : List (List UInt8)) : Ou := ts.foldl (fun o s => o.sized s 2) O
theorem texts_len : ∀ (ts : List (List UInt8)) (O : Ou), (O.texts ts).s.length ≤ O.s.length + ts.length * 8194
  | [], O => by simp [Ou.texts]
  | t :: r, O => by
    have h1 := sized_len O t 2
    have h2 := texts_len r (O.sized t 2)
    have e : O.texts (t :: r) = (O.sized t 2).texts r := by unfold Ou.texts; rw [List.foldl_cons]
    rw [e, List.length_cons]; omega
theorem obody_ok {d : Di} (ha : RdP w0 F l a (dcs d ++ xs)) (hd : d.Ok) (hz : d.name.length ≤ 9223372036854775807 ∧ d.owner.length ≤ 9223372036854775807 ∧ d.group.length ≤ 9223372036854775807 ∧ d.last.length ≤ 9223372036854775807)
    (hs : O.s.length ≤ 80000000) (E : OT w0 F o O l w) :
    Ca PP Fn.styx_body #[.iface Ty.p_styx_output (ptr o), .pointer (some a)] w fun r w' => r = .tuple #[] ∧ OT w0 F o (O.body d) l w' := by
  refine S.styx_body.calls ?_
  unfold S.styx_body
  (repeat with_reducible refine Stp.go ?_)
  refine ha.fa (by simp) ?_
  intro a1 ha1
  have h1 := qid_len O d.q
  refine (oqid_ok (q := d.q) (xs := (dcs d ++ xs).drop 3) ha1 hd.1 (by omega) E).mono ?_
  clear E
  rintro r w_ ⟨rfl, v, E⟩
  (repeat with_reducible first | refine Stp.go ?_ | (refine StpW.go E ?_; clear E; intro w_ E))
  refine ha.fa (by simp) ?_
  intro a1 ha1
  (repeat with_reducible refine Stp.go ?_)
  have h2 := mode_len (O.qid d.q) d.mode
  refine (omode_ok ha1 (by omega) ⟨_, E⟩).mono ?_
  clear E
  rintro r w_ ⟨rfl, v, E⟩
  (repeat with_reducible first | refine Stp.go ?_ | (refine StpW.go E ?_; clear E; intro w_ E))
  refine ha.fa (by simp) ?_
  intro a1 ha1
  (repeat with_reducible refine Stp.go ?_)
  have h3 := least_len ((O.qid d.q).mode d.mode) d.time (-1)
  refine (oopt_ok ha1 hd.2.1 (by omega) ⟨_, E⟩).mono ?_
  clear E
  rintro r w_ ⟨rfl, v, E⟩
  (repeat with_reducible first | refine Stp.go ?_ | (refine StpW.go E ?_; clear E; intro w_ E))
  refine ha.fa (by simp) ?_
  intro a1 ha1
  (repeat with_reducible refine Stp.go ?_)
  have h4 := least_len (((O.qid d.q).mode d.mode).least d.time (-1)) d.len (-1)
  refine (oopt_ok ha1 hd.2.2 (by omega) ⟨_, E⟩).mono ?_
  clear E
  rintro r w_ ⟨rfl, v, E⟩
  (repeat with_reducible first | refine Stp.go ?_ | (refine StpW.go E ?_; clear E; intro w_ E))
  refine ha.fa (by simp) ?_
  intro a6 ha6
  (repeat with_reducible refine Stp.go ?_)
  refine ha.fa (by simp) ?_
  intro a7 ha7
  (repeat with_reducible refine Stp.go ?_)
  refine ha.fa (by simp) ?_
  intro a8 ha8
  (repeat with_reducible refine Stp.go ?_)
  refine ha.fa (by simp) ?_
  intro a9 ha9
  refine BdS.sl (xs := [.pointer (some a6), .pointer (some a7), .pointer (some a8), .pointer (some a9)]) E u_sl_p_string n_p_string z_p_string (by omega) (by omega) (by kernel_rfl) rfl ?_
  clear E
  intro v4 w_ E
  (replace E := (((E.bIx 0).bIx 2).bIx 2))
  have hO : O.body d = ((((O.qid d.q).mode d.mode).least d.time (-1)).least d.len (-1)).texts [d.name, d.owner, d.group, d.last] := by unfold Ou.body Ou.texts; simp only [List.foldl_cons, List.foldl_nil]
  rw [hO]
  clear hO
  generalize (((O.qid d.q).mode d.mode).least d.time (-1)).least d.len (-1) = Q at E h4 ⊢
  have hps : ∀ (i : Nat) (t : List UInt8), [d.name, d.owner, d.group, d.last][i]? = some t → t.length ≤ 9223372036854775807 ∧ ∃ p ys, [a6, a7, a8, a9][i]? = some p ∧ RdP w0 F (slA v4 Ty.p_string 1 [.pointer (some a6), .pointer (some a7), .pointer (some a8), .pointer (some a9)] :: l) p (sb t :: ys) := by
    intro i t hi
    match i, hi with
    | 0, hi => cases hi; exact ⟨hz.1, a6, _, rfl, RdP.weaken ha6 fun _ E => E.tl⟩
    | 1, hi => cases hi; exact ⟨hz.2.1, a7, _, rfl, RdP.weaken ha7 fun _ E => E.tl⟩
    | 2, hi => cases hi; exact ⟨hz.2.2.1, a8, _, rfl, RdP.weaken ha8 fun _ E => E.tl⟩
    | 3, hi => cases hi; exact ⟨hz.2.2.2, a9, _, rfl, RdP.weaken ha9 fun _ E => E.tl⟩
    | i + 4, hi => cases hi
  (repeat with_reducible refine StpE.go E ?_)
  refine ⟨fun l1 w1 => ∃ i : Nat, l1 = [i64 i] ∧ i ≤ 4 ∧ OT w0 F o (Q.texts ([d.name, d.owner, d.group, d.last].take i)) (slA v4 Ty.p_string 1 [.pointer (some a6), .pointer (some a7), .pointer (some a8), .pointer (some a9)] :: l) w1, fun l1 _ => match l1 with | [.int _ i] => 4 - i.toNat | _ => 0, ⟨0, rfl, by omega, _, E⟩, ?_⟩
  clear E
  rintro t u1 w1 ⟨i, e, hi, E⟩
  cases e
  refine Bi.lss ?_ ?_ <;> intro hlt
  · have hlt' : i < 4 := by simp at hlt; omega
    obtain ⟨t, ht⟩ : ∃ t, [d.name, d.owner, d.group, d.last][i]? = some t := ⟨_, List.getElem?_eq_getElem (by simpa using hlt')⟩
    obtain ⟨hzt, p, ys, hp, hr⟩ := hps i t ht
    obtain ⟨v, E⟩ := E
    (repeat with_reducible refine Stp.go ?_)
    refine IxA.sl E (by (first | assumption | exact FPt.mem | exact FMp.mem | exact FSl.mem | (repeat (first | assumption | with_reducible exact List.mem_cons_self | refine List.mem_cons_of_mem _ ?_)))) (by omega) (by omega) (by simp; omega) ?_
    intro q hq
    refine Ld.sl E (by (first | assumption | exact FPt.mem | exact FMp.mem | exact FSl.mem | (repeat (first | assumption | with_reducible exact List.mem_cons_self | refine List.mem_cons_of_mem _ ?_)))) hq (x := .pointer (some p)) ?_ ?_
    · rw [Int.toNat_natCast, Nat.mul_one]
      have : [Value.pointer (some a6), .pointer (some a7), .pointer (some a8), .pointer (some a9)] = [a6, a7, a8, a9].map fun x => Value.pointer (some x) := rfl
      rw [this, List.getElem?_map, hp]; rfl
    (repeat with_reducible refine Stp.go ?_)
    have hl := texts_len ([d.name, d.owner, d.group, d.last].take i) Q
    rw [List.length_take] at hl
    have hmi : min i [d.name, d.owner, d.group, d.last].length ≤ 4 := by simp; omega
    have hmm : min i [d.name, d.owner, d.group, d.last].length * 8194 ≤ 4 * 8194 := Nat.mul_le_mul_right _ hmi
    refine (otext_ok hr hzt (by omega) ⟨_, E⟩).mono ?_
    clear E
    rintro r w_ ⟨rfl, E⟩
    refine Bi.add (by omega) ?_
    refine ⟨⟨i + 1, by simp, by omega, ?_⟩, by simp only []; omega⟩
    rw [List.take_add_one, ht]
    have e : Q.texts ([d.name, d.owner, d.group, d.last].take i ++ (some t).toList) = (Q.texts ([d.name, d.owner, d.group, d.last].take i)).sized t 2 := by
      unfold Ou.texts
      rw [List.foldl_append, Option.toList_some, List.foldl_cons, List.foldl_nil]
    rw [e]
    exact E
  · have : i = 4 := by simp at hlt; omega
    subst this
    (repeat with_reducible refine Stp.go ?_)
    obtain ⟨v, E⟩ := E
    exact ⟨rfl, v, E.drop (.cons_cons _ (.cons_cons _ (.cons _ (List.Sublist.refl _))))⟩
end Go.Proofs.YtmlccboapkkcfaaGreatDoor

/-
  The protocol: the writer of fields: lists and a Dir with its length.
-/
namespace Go.Proofs.YtmlccboapkkcfaaGreatDoor
open Go Go.Sh
set_option maxRecDepth 100000
set_option linter.unusedVariables false
set_option linter.unusedSimpArgs false
variable {w0 w : World} {F : Nat → Prop} {l : List As}
variable {o : Nat} {O : Ou} {a : Addr} {xs : List Value}
theorem texts_snoc (O : Ou) (ts : List (List UInt8)) (t : List UInt8) : O.texts (ts ++ [t]) = (O.texts ts).sized t 2 := by
  unfold Ou.texts
  rw [List.foldl_append, List.foldl_cons, List.foldl_nil]
theorem onames_ok {nv : Value} {ns : List (List UInt8)} (ha : RdP w0 F l a (nv :: xs)) (hn : RdS w0 F l 1 ns.length nv (ns.map sb)) (hl : ns.length ≤ 1000) (hz : ∀ t ∈ ns, t.length ≤ 9223372036854775807)
    (hs : O.s.length ≤ 80000000) (E : OT w0 F o O l w) :
    Ca PP Fn.styx_output_names #[ptr o, .pointer (some a)] w fun r w' => r = .tuple #[] ∧ OT w0 F o ((O.count ns.length).texts ns) l w' := by
  refine S.styx_output_names.calls ?_
  unfold S.styx_output_names
  (repeat with_reducible refine Stp.go ?_)
  refine ha.ld E.rest rfl ?_
  refine hn.len ?_
  have hc := count_len O ns.length
  refine (ocount_ok (by omega) E).mono ?_
  clear E
  rintro r w_ ⟨rfl, E⟩
  (repeat with_reducible refine Stp.go ?_)
  refine ha.ld E.rest rfl ?_
  refine hn.len ?_
  generalize O.count ns.length = Q at E hc ⊢
  refine ⟨fun l1 w1 => ∃ i : Nat, l1 = [i64 i] ∧ i ≤ ns.length ∧ OT w0 F o (Q.texts (ns.take i)) l w1, fun l1 _ => match l1 with | [.int _ i] => ns.length - i.toNat | _ => 0, ⟨0, rfl, by omega, by rw [List.take_zero]; exact E⟩, ?_⟩
  clear E
  rintro t u1 w1 ⟨i, e, hi, E⟩
  cases e
  refine Bi.lss ?_ ?_ <;> intro hlt <;> (repeat with_reducible refine Stp.go ?_)
  · have hx : ns[i]? = some ns[i] := List.getElem?_eq_getElem (by omega)
    refine ha.ld E.rest rfl ?_
    refine hn.ix (by omega) (by omega) (by omega) ?_
    intro a1 ha1
    have hd : (ns.map sb).drop ((i : Int).toNat * 1) = sb ns[i] :: (ns.map sb).drop (i + 1) := by
      rw [Int.toNat_natCast, Nat.mul_one, List.drop_eq_getElem_cons (by rw [List.length_map]; omega), List.getElem_map]
    rw [hd] at ha1
    have hl2 := texts_len (ns.take i) Q
    rw [List.length_take] at hl2
    have hm : min i ns.length * 8194 ≤ 1000 * 8194 := Nat.mul_le_mul_right _ (by omega)
    refine (otext_ok ha1 (hz _ (List.getElem_mem _)) (by omega) E).mono ?_
    clear E
    rintro r w_ ⟨rfl, E⟩
    refine Bi.add (by omega) ?_
    refine ⟨⟨i + 1, by simp, by omega, ?_⟩, by simp only []; omega⟩
    rw [List.take_add_one, hx, Option.toList_some, texts_snoc]
    exact E
  · rw [List.take_of_length_le (by omega)] at E
    exact ⟨rfl, E⟩
def Ou.qs (O : Ou) (qs : List Qi) : Ou := qs.foldl Ou.qid O
theorem qs_len : ∀ (qs : List Qi) (O : Ou), (O.qs qs).s.length ≤ O.s.length + qs.length * 13
  | [], O => by simp [Ou.qs]
  | q :: r, O => by
    have h1 := qid_len O q
    have h2 := qs_len r (O.qid q)
    have e : O.qs (q :: r) = (O.qid q).qs r := by unfold Ou.qs; rw [List.foldl_cons]
    rw [e, List.length_cons]; omega
theorem qs_snoc (O : Ou) (qs : List Qi) (q : Qi) : O.qs (qs ++ [q]) = (O.qs qs).qid q := by
  unfold Ou.qs
  rw [List.foldl_append, List.foldl_cons, List.foldl_nil]
abbrev qqs (qs : List Qi) : List Value := qs.flatMap qcs
theorem qqs_len (qs : List Qi) : (qqs qs).length = qs.length * 3 := by
  induction qs with
  | nil => rfl
  | cons q r ih =>
    have e : qqs (q :: r) = qcs q ++ qqs r := by rw [qqs, List.flatMap_cons]
    rw [e, List.length_append, ih]
    show 3 + r.length * 3 = (r.length + 1) * 3
    omega
theorem qqs_drop (qs : List Qi) : ∀ i : Nat, (qqs qs).drop (i * 3) = qqs (qs.drop i) := by
  induction qs with
  | nil => intro i; simp
  | cons q r ih =>
    intro i
    cases i with
    | zero => simp
    | succ i =>
      rw [qqs, List.flatMap_cons, show (i + 1) * 3 = i * 3 + 3 by omega]
      simp only [qcs, List.cons_append, List.nil_append, List.drop_succ_cons]
      exact ih i
theorem qqs_at {qs : List Qi} {i : Nat} (h : i < qs.length) : (qqs qs).drop (i * 3) = qcs qs[i] ++ qqs (qs.drop (i + 1)) := by
  rw [qqs_drop, List.drop_eq_getElem_cons h]; rfl
theorem oqids_ok {qv : Value} {qs : List Qi} (ha : RdP w0 F l a (qv :: xs)) (hn : RdS w0 F l 3 qs.length qv (qqs qs)) (hl : qs.length ≤ 1000) (hz : ∀ q ∈ qs, q.Ok)
    (hs : O.s.length ≤ 80000000) (E : OT w0 F o O l w) :
    Ca PP Fn.styx_output_qids #[ptr o, .pointer (some a)] w fun r w' => r = .tuple #[] ∧ OT w0 F o ((O.count qs.length).qs qs) l w' := by
  refine S.styx_output_qids.calls ?_
  unfold S.styx_output_qids
  (repeat with_reducible refine Stp.go ?_)
  refine ha.ld E.rest rfl ?_
  refine hn.len ?_
  have hc := count_len O qs.length
  refine (ocount_ok (by omega) E).mono ?_
  clear E
  rintro r w_ ⟨rfl, E⟩
  (repeat with_reducible refine Stp.go ?_)
  refine ha.ld E.rest rfl ?_
  refine hn.len ?_
  generalize O.count qs.length = Q at E hc ⊢
  refine ⟨fun l1 w1 => ∃ i : Nat, l1 = [i64 i] ∧ i ≤ qs.length ∧ OT w0 F o (Q.qs (qs.take i)) l w1, fun l1 _ => match l1 with | [.int _ i] => qs.length - i.toNat | _ => 0, ⟨0, rfl, by omega, by rw [List.take_zero]; exact E⟩, ?_⟩
  clear E
  rintro t u1 w1 ⟨i, e, hi, E⟩
  cases e
  refine Bi.lss ?_ ?_ <;> intro hlt <;> (repeat with_reducible refine Stp.go ?_)
  · have hx : qs[i]? = some qs[i] := List.getElem?_eq_getElem (by omega)
    refine ha.ld E.rest rfl ?_
    refine hn.ix (by omega) (by omega) (by omega) ?_
    intro a1 ha1
    rw [Int.toNat_natCast, qqs_at (by omega)] at ha1
    have hl2 := qs_len (qs.take i) Q
    rw [List.length_take] at hl2
    have hm : min i qs.length * 13 ≤ 1000 * 13 := Nat.mul_le_mul_right _ (by omega)
    refine (oqid_ok ha1 (hz _ (List.getElem_mem _)) (by omega) E).mono ?_
    clear E
    rintro r w_ ⟨rfl, E⟩
    refine Bi.add (by omega) ?_
    refine ⟨⟨i + 1, by simp, by omega, ?_⟩, by simp only []; omega⟩
    rw [List.take_add_one, hx, Option.toList_some, qs_snoc]
    exact E
  · rw [List.take_of_length_le (by omega)] at E
    exact ⟨rfl, E⟩
theorem body_len (O : Ou) (d : Di) : (O.body d).s.length ≤ O.s.length + 40000 := by
  have h1 := qid_len O d.q
  have h2 := mode_len (O.qid d.q) d.mode
  have h3 := least_len ((O.qid d.q).mode d.mode) d.time (-1)
  have h4 := least_len (((O.qid d.q).mode d.mode).least d.time (-1)) d.len (-1)
  have h5 := texts_len [d.name, d.owner, d.group, d.last] ((((O.qid d.q).mode d.mode).least d.time (-1)).least d.len (-1))
  have e : O.body d = ((((O.qid d.q).mode d.mode).least d.time (-1)).least d.len (-1)).texts [d.name, d.owner, d.group, d.last] := by unfold Ou.body Ou.texts; simp only [List.foldl_cons, List.foldl_nil]
  have h6 : [d.name, d.owner, d.group, d.last].length = 4 := rfl
  rw [e]
  omega
theorem odir_ok {d : Di} (ha : RdP w0 F l a (dcs d ++ xs)) (hd : d.Ok) (hz : d.name.length ≤ 9223372036854775807 ∧ d.owner.length ≤ 9223372036854775807 ∧ d.group.length ≤ 9223372036854775807 ∧ d.last.length ≤ 9223372036854775807)
    (hs : O.s.length ≤ 80000000) (E : OT w0 F o O l w) :
    Ca PP Fn.styx_output_dir #[ptr o, .pointer (some a)] w fun r w' => r = .tuple #[] ∧ OT w0 F o (O.dir d) l w' := by
  obtain ⟨v, E⟩ := E
  refine S.styx_output_dir.calls ?_
  unfold S.styx_output_dir
  have E := E.nilSl Ty.uint8 1
  (repeat with_reducible first | refine StpE.go E ?_ | (refine StpA.go E ?_; clear E; intro b_ w_ hb_ E))
  (revert b_; intro i hbi E)
  (replace E := ((E.bIx 1).bIx 1))
  have ha' : RdP w0 F (pt o (oc [v, .bool O.bad, .bool O.ov] Ty.styx_output) :: bsA v O.s :: l) a (dcs d ++ xs) := RdP.weaken ha fun _ E => E.tl.tl
  refine (obody_ok (O := o0) ha' hd hz (by decide) ⟨_, E⟩).mono ?_
  clear E
  rintro r w_ ⟨rfl, vi, E⟩
  have hbl := body_len o0 d
  have hdir : O.dir d = Ou.sized { O with bad := O.bad || (o0.body d).bad, ov := O.ov || (o0.body d).ov || decide ((o0.body d).s.length + 2 > 1024) } (o0.body d).s 2 := rfl
  rw [hdir]
  clear hdir
  generalize o0.body d = I at E hbl ⊢
  have hbl2 : I.s.length ≤ 40000 := by simpa [o0] using hbl
  (intro J6 hJ6)
  have fin6 : ∀ w_, Hs w0 F w_ (pt i (oc [vi, .bool I.bad, .bool I.ov] Ty.styx_output) :: bsA vi I.s :: pt o (oc [v, .bool (O.bad || I.bad), .bool (O.ov || I.ov || decide (I.s.length + 2 > 1024))] Ty.styx_output) :: bsA v O.s :: l) → J6 [] w_ := by
    intro w_ E
    (repeat with_reducible first | refine Stp.go ?_ | (apply hJ6; intro u_))
    refine (Text_ok E).mono ?_
    clear E
    rintro r w_ ⟨rfl, E⟩
    (replace E := ((((E.bIx 1).bIx 1).bIx 3).bIx 3))
    refine (osized_ok (O := { O with bad := O.bad || I.bad, ov := O.ov || I.ov || decide (I.s.length + 2 > 1024) }) (k := 2) (by omega) (by omega) (by show O.s.length ≤ _; omega) ⟨_, E⟩).mono ?_
    clear E
    rintro r w_ ⟨rfl, v2, E⟩
    exact ⟨rfl, v2, E.drop (.cons_cons _ (.cons_cons _ (.cons _ (.cons _ (List.Sublist.refl _)))))⟩
  clear hJ6
  obtain ⟨Is, Ib, Iv⟩ := I
  obtain ⟨Os, Ob, Oo⟩ := O
  simp only [] at E fin6 hbl2 ⊢
  cases Ob <;> cases Oo <;> cases Iv
  all_goals (repeat with_reducible first | refine Stp.go ?_ | refine StpE.go E ?_ | (refine StpW.go E ?_; clear E; intro w_ E))
  all_goals first
    | (refine ⟨by (repeat with_reducible first | refine Stp.go ?_ | refine StpE.go E ?_); rfl, ?_⟩
       (repeat with_reducible first | refine Stp.go ?_ | (refine StpW.go E ?_; clear E; intro w_ E))
       exact fin6 _ E)
    | (refine (Len_ok E).mono ?_
       clear E
       rintro r w_ ⟨rfl, E⟩
       refine ⟨by (repeat with_reducible first | refine Stp.go ?_ | refine StpE.go E ?_); rfl, ?_⟩
       (repeat with_reducible refine Stp.go ?_)
       refine Bi.add (by omega) ?_
       (repeat with_reducible refine Stp.go ?_)
       refine Bi.gtr ?_ ?_ <;> intro c <;> (repeat with_reducible first | refine Stp.go ?_ | (refine StpW.go E ?_; clear E; intro w_ E))
       · have h := fin6 w_
         rw [decide_eq_true (show Is.length + 2 > 1024 by omega)] at h
         exact h E
       · have h := fin6 w_
         rw [decide_eq_false (show ¬ Is.length + 2 > 1024 by omega)] at h
         exact h E)
end Go.Proofs.YtmlccboapkkcfaaGreatDoor

/-
  The protocol: kinds and their words.
-/
namespace Go.Proofs.YtmlccboapkkcfaaGreatDoor
open Go Go.Sh
set_option maxRecDepth 100000
set_option linter.unusedVariables false
set_option linter.unusedSimpArgs false
variable {w0 w : World} {F : Nat → Prop} {l : List As}
theorem u_words : PP.underlying Ty.map_int_string = some (.map Ty.int Ty.string) := by kernel_rfl
theorem k_int : (KT.int .i64).fits PP Ty.int = true := by kernel_rfl
theorem z_string : zeroK PP Ty.string = some (.string ⟨#[]⟩) := by kernel_rfl
/-- The table of words lies in old memory. -/
def Wds (w0 : World) (F : Nat → Prop) : Prop :=
  ∃ m M cs T fr, w0.heap[0]? = some (.cells cs T fr) ∧ cs[0]? = some (.map (some m)) ∧ ¬ F 0 ∧ ¬ F m ∧ MapAt m (.int .i64) M w0 ∧ ∀ k : Int, aget M (i64 k) = (wdo k).map sb
theorem Wds.ld (h : Wds w0 F) (E : Hs w0 F w l) {k : Value → Prop}
    (hk : ∀ m, (∀ (x : Int) (k' : Value → Prop), k' (sb (wd x)) → Rd PP (Instr.lookup Ty.map_int_string (.map (some m)) (i64 x) false) w k') → k (.map (some m))) : Ld (.pointer (some ⟨0, 0, none⟩)) w k := by
  obtain ⟨m, M, cs, T, fr, h1, h2, h3, h4, h5, h6⟩ := h
  refine Ld.old E h1 h3 h2 (hk m fun x k' hk' => ?_)
  have hm : MapAt m (.int .i64) M w := by
    obtain ⟨es, clock, e1, e2⟩ := h5.ex
    exact ⟨⟨es, clock, E.old e1 h4, e2⟩, h5.ok⟩
  refine ⟨_, lookup_run hm u_words k_int z_string rfl false, ?_⟩
  rw [h6]
  have : ((wdo x).map sb).getD (.string ⟨#[]⟩) = sb (wd x) := by
    unfold wd
    cases wdo x <;> rfl
  simp only [Bool.false_eq_true, if_false]
  rw [this]
  exact hk'
theorem Request_ok (hW : Wds w0 F) {k : Int} (E : Hs w0 F w l) : Ca PP Fn.styx_Request #[i64 k] w fun r w' => r = .bool (isRq k) ∧ Hs w0 F w' l := by
  refine S.styx_Request.calls ?_
  unfold S.styx_Request
  refine hW.ld E ?_
  intro m hm
  refine hm _ _ ?_
  unfold isRq
  refine Bi.sneq ?_ ?_ <;> intro c
  · refine ⟨?_, E⟩
    have : wd k ≠ [] := fun h => c (by rw [h])
    rw [show (wd k != []) = true by simpa using this]
  · refine ⟨?_, E⟩
    have : wd k = [] := mkB_inj c
    rw [this]; rfl
theorem wd_size (k : Int) : (wd k).length ≤ 7 := by
  cases h : isRq k with
  | false =>
    unfold isRq at h
    have : wd k = [] := by simpa using h
    rw [this]; decide
  | true =>
    have := wd_mem h
    have key : ∀ x ∈ wds, x.2.length ≤ 7 := by decide
    exact key _ this
theorem rq_out {k : Int} (h : k < 100 ∨ 126 < k) : isRq k = false := by
  cases e : isRq k with
  | false => rfl
  | true => have := rq_rng e; omega
theorem subW {k : Int} (hk : -9223372036854775808 ≤ k ∧ k ≤ 9223372036854775807) {K : Value → Prop} (hK : ∀ j : Int, isRq j = isRq (k - 1) → (isRq (k - 1) = true → j = k - 1) → K (i64 j)) : Bi .sub (i64 k) (i64 1) K := by
  by_cases h : k = -9223372036854775808
  · subst h
    refine Bi.mk (v := i64 9223372036854775807) rfl (hK _ ?_ fun h2 => ?_)
    · rw [rq_out (by omega), rq_out (by omega)]
    · rw [rq_out (by omega)] at h2; cases h2
  · exact Bi.sub (by omega) (hK _ rfl fun _ => rfl)
theorem Word_ok (hW : Wds w0 F) {k : Int} (hk : -9223372036854775808 ≤ k ∧ k ≤ 9223372036854775807) (E : Hs w0 F w l) : Ca PP Fn.styx_Word #[i64 k] w fun r w' => r = sb (word k) ∧ Hs w0 F w' l := by
  refine S.styx_Word.calls ?_
  unfold S.styx_Word word
  refine Bi.eql ?_ ?_ <;> intro c <;> (repeat with_reducible refine Stp.go ?_)
  · rw [if_pos c]
    exact ⟨rfl, E⟩
  rw [if_neg c]
  refine (Request_ok hW E).mono ?_
  clear E
  rintro r w_ ⟨rfl, E⟩
  cases h : isRq k with
  | true =>
    (repeat with_reducible refine Stp.go ?_)
    refine hW.ld E ?_
    intro m hm
    refine hm _ _ ?_
    exact ⟨rfl, E⟩
  | false =>
    (repeat with_reducible refine Stp.go ?_)
    refine subW hk ?_
    intro j hj hj2
    refine (Request_ok hW E).mono ?_
    clear E
    rintro r w_ ⟨rfl, E⟩
    rw [hj]
    cases h2 : isRq (k - 1) with
    | true =>
      (repeat with_reducible refine Stp.go ?_)
      refine hW.ld E ?_
      intro m hm
      refine subW hk ?_
      intro j3 hj3 hj4
      rw [hj4 h2]
      refine hm _ _ ?_
      have := wd_size (k - 1)
      refine Bi.sadd (by show ([82] : List UInt8).length + (wd (k - 1)).length ≤ _; simp only [List.length_cons, List.length_nil]; omega) ?_
      refine ⟨?_, E⟩
      show sb ([82] ++ wd (k - 1)) = _
      rfl
    | false =>
      (repeat with_reducible refine Stp.go ?_)
      exact ⟨rfl, E⟩
theorem known_ok (hW : Wds w0 F) {k : Int} (hk : -9223372036854775808 ≤ k ∧ k ≤ 9223372036854775807) (E : Hs w0 F w l) : Ca PP Fn.styx_known #[i64 k] w fun r w' => r = .bool (fls k).isSome ∧ Hs w0 F w' l := by
  refine S.styx_known.calls ?_
  unfold S.styx_known
  refine (Word_ok hW hk E).mono ?_
  clear E
  rintro r w_ ⟨rfl, E⟩
  rw [← word_fls]
  refine Bi.sneq ?_ ?_ <;> intro c
  · refine ⟨?_, E⟩
    have : word k ≠ [] := fun h => c (by rw [h])
    rw [show (word k != []) = true by simpa using this]
  · refine ⟨?_, E⟩
    have : word k = [] := mkB_inj c
    rw [this]; rfl
def sng (k : Int) : Bool := decide (k = 103 ∨ k = 105 ∨ k = 113 ∨ k = 115)
theorem single_ok {k : Int} (E : Hs w0 F w l) : Ca PP Fn.styx_single #[i64 k] w fun r w' => r = .bool (sng k) ∧ Hs w0 F w' l := by
  refine S.styx_single.calls ?_
  unfold S.styx_single
  (intro J1 hJ1)
  have fin1 : ∀ b, b = sng k → J1 [.bool b] w := by
    intro b hb
    (repeat with_reducible (apply hJ1; intro u_))
    subst hb
    cases sng k with
    | true => (repeat with_reducible refine Stp.go ?_); exact ⟨rfl, E⟩
    | false => (repeat with_reducible refine Stp.go ?_); exact ⟨rfl, E⟩
  clear hJ1
  unfold sng at fin1
  refine Bi.eql ?_ ?_ <;> intro c1 <;> (repeat with_reducible refine Stp.go ?_)
  · exact fin1 _ (by rw [decide_eq_true (.inl c1)])
  refine Bi.eql ?_ ?_ <;> intro c2 <;> (repeat with_reducible refine Stp.go ?_)
  · exact fin1 _ (by rw [decide_eq_true (.inr (.inl c2))])
  refine Bi.eql ?_ ?_ <;> intro c3 <;> (repeat with_reducible refine Stp.go ?_)
  · exact fin1 _ (by rw [decide_eq_true (.inr (.inr (.inl c3)))])
  refine Bi.eql ?_ ?_ <;> intro c4 <;> skip
  · exact fin1 _ (by rw [decide_eq_true (.inr (.inr (.inr c4)))])
  · exact fin1 _ (by rw [decide_eq_false (by omega)])
theorem sng_fls {k : Int} {fl : List Fl} (h : fls k = some fl) : sng k = fl.contains .xq := by
  have hr := fls_rng h
  obtain ⟨n, rfl⟩ : ∃ n : Nat, k = n := ⟨k.toNat, by omega⟩
  have key : ∀ n : Fin 128, ∀ fl, fls (n.val : Int) = some fl → sng (n.val : Int) = fl.contains .xq := by
    intro n fl h
    have : (fls (n.val : Int)).map (fun fl => fl.contains Fl.xq) = some (fl.contains .xq) := by rw [h]; rfl
    have all : ∀ n : Fin 128, (fls (n.val : Int)).map (fun fl => fl.contains Fl.xq) = if (fls (n.val : Int)).isSome then some (sng (n.val : Int)) else none := by decide
    rw [all n, h] at this
    simpa using this
  exact key ⟨n, by omega⟩ fl h
end Go.Proofs.YtmlccboapkkcfaaGreatDoor
