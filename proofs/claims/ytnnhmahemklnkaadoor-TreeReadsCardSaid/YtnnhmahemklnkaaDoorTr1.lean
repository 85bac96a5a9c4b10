/-
  Trees: a node in memory; its mode.
-/
import Derived.Test.YtnnhmahemklnkaaDoorLb1
namespace Go.Proofs.YtnnhmahemklnkaaDoor
open Go Go.Sh
set_option maxRecDepth 100000
set_option linter.unusedVariables false
set_option linter.unusedSimpArgs false
variable {w0 w : World} {F : Nat → Prop} {l : List As}

/-- The bits of numbers. -/
def andI (a b : Int) : Int := IntKind.i64.wrap (BitVec.ofInt 64 a &&& BitVec.ofInt 64 b).toNat
def orI (a b : Int) : Int := IntKind.i64.wrap (BitVec.ofInt 64 a ||| BitVec.ofInt 64 b).toNat
def clrI (a b : Int) : Int := IntKind.i64.wrap (BitVec.ofInt 64 a &&& ~~~ BitVec.ofInt 64 b).toNat
theorem Bi.and' {a b : Int} {k : Value → Prop} (h : k (i64 (andI a b))) : Bi .and (i64 a) (i64 b) k := Bi.mk rfl h
theorem Bi.or' {a b : Int} {k : Value → Prop} (h : k (i64 (orI a b))) : Bi .or (i64 a) (i64 b) k := Bi.mk rfl h
theorem Bi.clr' {a b : Int} {k : Value → Prop} (h : k (i64 (clrI a b))) : Bi .andNot (i64 a) (i64 b) k := Bi.mk rfl h
instance {a b : Int} {k : Value → Prop} : Stp (Bi .and (.int .i64 a) (.int .i64 b) k) (k (i64 (andI a b))) := ⟨Bi.and'⟩
instance {a b : Int} {k : Value → Prop} : Stp (Bi .or (.int .i64 a) (.int .i64 b) k) (k (i64 (orI a b))) := ⟨Bi.or'⟩
instance {a b : Int} {k : Value → Prop} : Stp (Bi .andNot (.int .i64 a) (.int .i64 b) k) (k (i64 (clrI a b))) := ⟨Bi.clr'⟩

/-- A node's cells. -/
structure MN where
  kind : Int
  vers : Int
  path : Int
  mode : Int
  time : Int
  ln : Int
  name : ByteArray
  owner : ByteArray
  group : ByteArray
  last : ByteArray
  dv : Value
  kids : Option Nat
  up : Option Nat
  gone : Bool
abbrev MN.C (m : MN) : List Value :=
  [i64 m.kind, i64 m.vers, i64 m.path, i64 m.mode, i64 m.time, i64 m.ln, str m.name, str m.owner, str m.group, str m.last, m.dv, .map m.kids, .pointer (m.up.map fun b => ⟨b, 0, none⟩), .bool m.gone]
abbrev nd (b : Nat) (m : MN) : As := pt b (oc m.C Ty.tree_node)

/-- A directory. -/
def isD (m : Int) : Bool := andI m 2147483648 != 0
theorem isDir_ok {f : Nat} {m : MN} {r : List As} [h : FPt l f (oc m.C Ty.tree_node) r] (E : Hs w0 F w l) : Ca PP Fn.tree_node_isDir #[ptr f] w fun r w' => r = .bool (isD m.mode) ∧ Hs w0 F w' l := by
  refine S.tree_node_isDir.calls ?_
  unfold S.tree_node_isDir
  (repeat first | (with_reducible first | refine Stp.go ?_ | refine StpE.go E ?_ | (refine StpW.go E ?_; clear E; intro w_ E) | (refine StpA.go E ?_; clear E; intro b_ w_ hb_ E) | refine LnL.nil ?_) | ((with_reducible refine Bi.dec true ?_ ?_); focus exact rfl) | ((with_reducible refine Bi.dec false ?_ ?_); focus exact rfl) | ((with_reducible refine Bi.sdec true ?_ ?_); focus decide) | ((with_reducible refine Bi.sdec false ?_ ?_); focus decide))
  refine Bi.neq ?_ ?_ <;> intro h1
  · exact ⟨by simp [isD, h1], E⟩
  · exact ⟨by simp [isD, h1], E⟩

/-- A mode's kind. -/
def kindOf (m : Int) : Int := (if andI m 2147483648 ≠ 0 then 128 else 0) + (if andI m 1073741824 ≠ 0 then 64 else 0) + (if andI m 536870912 ≠ 0 then 32 else 0)
theorem u_map_int_int : PP.underlying Ty.map_int_int = some (.map Ty.int Ty.int) := by kernel_rfl
/-- What some rounds of 'is' have put together. -/
def orK (m : Int) (ps : AL) (k : Int) : Int := ps.foldl (fun k p => match p with | (.int _ b, .int _ q) => if andI m b ≠ 0 then orI k q else k | _ => k) k
theorem orK_app (m : Int) (ps qs : AL) (k : Int) : orK m (ps ++ qs) k = orK m qs (orK m ps k) := List.foldl_append ..
abbrev bitsM : AL := [(i64 2147483648, i64 128), (i64 1073741824, i64 64), (i64 536870912, i64 32)]
theorem ofInt_wrap (x : BitVec 64) : BitVec.ofInt 64 (IntKind.i64.wrap (x.toNat : Int)) = x := by
  apply BitVec.eq_of_toNat_eq
  rw [BitVec.toNat_ofInt]
  have h := x.isLt
  have h2 : ((x.toNat : Int) % (2 ^ IntKind.i64.bits : Int)) = x.toNat := Int.emod_eq_of_lt (by omega) (by show (x.toNat : Int) < 18446744073709551616; omega)
  unfold IntKind.wrap
  simp only [h2]
  show ((if (IntKind.i64.signed && decide ((x.toNat : Int) ≥ 9223372036854775808)) = true then (x.toNat : Int) - 18446744073709551616 else (x.toNat : Int)) % 18446744073709551616).toNat = x.toNat
  split <;> omega
theorem orI_ofInt (a b : Int) : BitVec.ofInt 64 (orI a b) = BitVec.ofInt 64 a ||| BitVec.ofInt 64 b := ofInt_wrap _
theorem andI_ofInt (a b : Int) : BitVec.ofInt 64 (andI a b) = BitVec.ofInt 64 a &&& BitVec.ofInt 64 b := ofInt_wrap _
theorem clrI_ofInt (a b : Int) : BitVec.ofInt 64 (clrI a b) = BitVec.ofInt 64 a &&& ~~~ BitVec.ofInt 64 b := ofInt_wrap _
theorem orI_right (k a b : Int) : orI (orI k a) b = orI (orI k b) a := by
  show IntKind.i64.wrap _ = IntKind.i64.wrap _
  rw [orI_ofInt, orI_ofInt, BitVec.or_assoc, BitVec.or_comm (BitVec.ofInt 64 a), ← BitVec.or_assoc]
theorem orK_perm (m : Int) {ps : AL} (h : bitsM.Perm ps) : orK m ps 0 = kindOf m := by
  have e : orK m bitsM 0 = orK m ps 0 := by
    unfold orK
    refine h.foldl_eq' ?_ 0
    intro x hx y hy z
    have key : ∀ q ∈ bitsM, ∃ b c, q = (i64 b, i64 c) := by intro q hq; simp at hq; rcases hq with rfl | rfl | rfl <;> exact ⟨_, _, rfl⟩
    obtain ⟨b, c, rfl⟩ := key x hx
    obtain ⟨b', c', rfl⟩ := key y hy
    by_cases h1 : andI m b = 0 <;> by_cases h2 : andI m b' = 0 <;> simp [h1, h2]
    exact orI_right _ _ _
  rw [← e]
  unfold orK kindOf
  simp only [List.foldl]
  by_cases h1 : andI m 2147483648 = 0 <;> by_cases h2 : andI m 1073741824 = 0 <;> by_cases h3 : andI m 536870912 = 0 <;> simp only [h1, h2, h3, ne_eq, not_true_eq_false, not_false_eq_true, if_true, if_false] <;> decide

theorem is_ok {f : Nat} {m : MN} {k : Int} (E : Hs w0 F w (nd f m :: l)) : Ca PP Fn.tree_node_is #[ptr f, i64 k] w fun r w' => Hs w0 F w' (nd f { m with mode := k, kind := kindOf k } :: l) := by
  refine S.tree_node_is.calls ?_
  unfold S.tree_node_is
  (repeat first | (with_reducible first | refine Stp.go ?_ | refine StpE.go E ?_ | (refine StpW.go E ?_; clear E; intro w_ E) | (refine StpA.go E ?_; clear E; intro b_ w_ hb_ E) | refine LnL.nil ?_) | ((with_reducible refine Bi.dec true ?_ ?_); focus exact rfl) | ((with_reducible refine Bi.dec false ?_ ?_); focus exact rfl) | ((with_reducible refine Bi.sdec true ?_ ?_); focus decide) | ((with_reducible refine Bi.sdec false ?_ ?_); focus decide))
  refine MkM.pt (kt := .int .i64) E ?_
  clear E
  intro b w_ hb E
  refine Mu.by E u_map_int_int k_int rfl ?_
  clear E
  intro w_ E
  refine Mu.by E u_map_int_int k_int rfl ?_
  clear E
  intro w_ E
  refine Mu.by E u_map_int_int k_int rfl ?_
  clear E
  intro w_ E
  refine Rg.mp E u_map_int_int ?_
  clear E
  intro it es clock w_ hit hes hw hok E
  have hes2 : es.toList.map (fun e => (e.key, e.val)) = bitsM := hes
  refine ⟨fun l1 w1 => l1 = [] ∧ ∃ ms, Wlk es clock ms ∧ Hs w0 F w1 (pt it (itO b clock ms) :: pt b (mapO es clock) :: nd f { m with mode := k, kind := orK k (ms.map fun e => (e.key, e.val)) 0 } :: l), fun _ w1 => itM it (es.size + 1) w1, ⟨rfl, [], hw, E⟩, ?_⟩
  clear E hw
  rintro u w1 ⟨-, ms, hw, E⟩
  refine Nx.mp E hw ?_ ?_
  · intro e w_ he hn hw2 E2
    have hm : itM it (es.size + 1) w1 = es.size + 1 - ms.length := itM_eq E
    have hle := hw2.le
    simp only [List.length_append, List.length_cons, List.length_nil] at hle
    clear E
    have E := E2
    clear E2
    (repeat first | (with_reducible first | refine Stp.go ?_ | refine StpE.go E ?_ | (refine StpW.go E ?_; clear E; intro w_ E) | (refine StpA.go E ?_; clear E; intro b_ w_ hb_ E) | refine LnL.nil ?_) | ((with_reducible refine Bi.dec true ?_ ?_); focus exact rfl) | ((with_reducible refine Bi.dec false ?_ ?_); focus exact rfl) | ((with_reducible refine Bi.sdec true ?_ ?_); focus decide) | ((with_reducible refine Bi.sdec false ?_ ?_); focus decide))
    refine Ent.mp E hw2 ?_
    have hmem : (e.key, e.val) ∈ bitsM := by rw [← hes2]; exact List.mem_map.2 ⟨e, he, rfl⟩
    obtain ⟨x, y, hx, hy⟩ : ∃ x y, e.key = i64 x ∧ e.val = i64 y := by
      simp only [bitsM, List.mem_cons, Prod.mk.injEq, List.not_mem_nil, or_false] at hmem
      rcases hmem with ⟨h1, h2⟩ | ⟨h1, h2⟩ | ⟨h1, h2⟩ <;> exact ⟨_, _, h1, h2⟩
    have hor : orK k ((ms ++ [e]).map fun e => (e.key, e.val)) 0 = if andI k x ≠ 0 then orI (orK k (ms.map fun e => (e.key, e.val)) 0) y else orK k (ms.map fun e => (e.key, e.val)) 0 := by
      rw [List.map_append, orK_app]
      simp [orK, hx, hy]
    rw [hx, hy]
    (repeat first | (with_reducible first | refine Stp.go ?_ | refine StpE.go E ?_ | (refine StpW.go E ?_; clear E; intro w_ E) | (refine StpA.go E ?_; clear E; intro b_ w_ hb_ E) | refine LnL.nil ?_) | ((with_reducible refine Bi.dec true ?_ ?_); focus exact rfl) | ((with_reducible refine Bi.dec false ?_ ?_); focus exact rfl) | ((with_reducible refine Bi.sdec true ?_ ?_); focus decide) | ((with_reducible refine Bi.sdec false ?_ ?_); focus decide))
    refine Bi.neq ?_ ?_ <;> intro h0 <;> (repeat first | (with_reducible first | refine Stp.go ?_ | refine StpE.go E ?_ | (refine StpW.go E ?_; clear E; intro w_ E) | (refine StpA.go E ?_; clear E; intro b_ w_ hb_ E) | refine LnL.nil ?_) | ((with_reducible refine Bi.dec true ?_ ?_); focus exact rfl) | ((with_reducible refine Bi.dec false ?_ ?_); focus exact rfl) | ((with_reducible refine Bi.sdec true ?_ ?_); focus decide) | ((with_reducible refine Bi.sdec false ?_ ?_); focus decide))
    · rw [if_pos h0] at hor
      refine ⟨⟨rfl, _, hw2, ?_⟩, ?_⟩
      · rw [hor]; exact E
      · show itM it (es.size + 1) w_ < itM it (es.size + 1) w1
        rw [hm, itM_eq E]
        simp; omega
    · rw [if_neg (by simpa using h0)] at hor
      refine ⟨⟨rfl, _, hw2, ?_⟩, ?_⟩
      · rw [hor]; exact E
      · show itM it (es.size + 1) w_ < itM it (es.size + 1) w1
        rw [hm, itM_eq E]
        simp; omega
  · intro hp
    (repeat first | (with_reducible first | refine Stp.go ?_ | refine StpE.go E ?_ | (refine StpW.go E ?_; clear E; intro w_ E) | (refine StpA.go E ?_; clear E; intro b_ w_ hb_ E) | refine LnL.nil ?_) | ((with_reducible refine Bi.dec true ?_ ?_); focus exact rfl) | ((with_reducible refine Bi.dec false ?_ ?_); focus exact rfl) | ((with_reducible refine Bi.sdec true ?_ ?_); focus decide) | ((with_reducible refine Bi.sdec false ?_ ?_); focus decide))
    have h1 : orK k (ms.map fun e => (e.key, e.val)) 0 = kindOf k := orK_perm k (by rw [← hes2]; exact hp.map _)
    rw [h1] at E
    exact E.tl.tl
end Go.Proofs.YtnnhmahemklnkaaDoor
