/-
  The shallow layer, part 11: steps that need no choice, found by instances: a list's elements and pieces by their names; one step of a term; pieces brought to the front.
-/
import Derived.Test.YtnnhmahemklnkaaDoorSh10
namespace Go.Sh
open Go

/-! ### Lists -/
 class Nth {α : Type} (l : List α) (i : Nat) (v : outParam α) : Prop where
  at_ : l[i]? = some v
instance {α : Type} {x : α} {r : List α} : Nth (x :: r) 0 x := ⟨rfl⟩
instance {α : Type} {x y : α} {r : List α} {i : Nat} [h : Nth r i y] : Nth (x :: r) (i + 1) y := ⟨by simpa using h.at_⟩
 class Dp (l : List Value) (i : Nat) (r : outParam (List Value)) : Prop where
  eq : l.drop i = r
instance {l : List Value} : Dp l 0 l := ⟨rfl⟩
instance {x : Value} {l r : List Value} {i : Nat} [h : Dp l i r] : Dp (x :: l) (i + 1) r := ⟨by simpa using h.eq⟩
 class Tk (l : List Value) (n : Nat) (ds : outParam (List Value)) : Prop where
  eq : l.take n = ds
  len : ds.length = n
instance {l : List Value} : Tk l 0 [] := ⟨rfl, rfl⟩
instance {x : Value} {l ds : List Value} {n : Nat} [h : Tk l n ds] : Tk (x :: l) (n + 1) (x :: ds) := ⟨by simp [h.eq], by simp [h.len]⟩
 class SetN (l : List Value) (i : Nat) (v : Value) (l' : outParam (List Value)) : Prop where
  eq : l.set i v = l'
  lt : i < l.length
instance {x v : Value} {l : List Value} : SetN (x :: l) 0 v (v :: l) := ⟨rfl, by simp⟩
instance {x v : Value} {l l' : List Value} {i : Nat} [h : SetN l i v l'] : SetN (x :: l) (i + 1) v (x :: l') := ⟨by simp [h.eq], by simp [h.lt]⟩
 class SetL (l : List Value) (i : Nat) (vs : List Value) (l' : outParam (List Value)) : Prop where
  eq : setCs l i vs = l'
  le : vs = [] ∨ i + vs.length ≤ l.length
instance {l : List Value} {i : Nat} : SetL l i [] l := ⟨rfl, .inl rfl⟩
instance {l l' l'' vs : List Value} {v : Value} {i : Nat} [h : SetN l i v l'] [h2 : SetL l' (i + 1) vs l''] : SetL l i (v :: vs) l'' :=
  ⟨by rw [setCs, h.eq, h2.eq], .inr (by
    have hl : l'.length = l.length := by rw [← h.eq]; simp
    have := h.lt
    rcases h2.le with h3 | h3
    · subst h3; simp; omega
    · simp; omega)⟩
 class Scal (v : Value) : Prop where
  s : scalV v = true
instance {k : IntKind} {n : Int} : Scal (.int k n) := ⟨rfl⟩
instance {b : Bool} : Scal (.bool b) := ⟨rfl⟩
instance {s : ByteArray} : Scal (.string s) := ⟨rfl⟩
instance {a : Option Addr} : Scal (.pointer a) := ⟨rfl⟩
instance {a : Option Addr} {n m : Nat} : Scal (.slice a n m) := ⟨rfl⟩
instance {a : Option Nat} : Scal (.map a) := ⟨rfl⟩
instance {f : Fn} {x y : Array Value} : Scal (.func f x y) := ⟨rfl⟩
instance {t : TypeId} {v : Value} : Scal (.iface t v) := ⟨rfl⟩
instance : Scal .nilFunc := ⟨rfl⟩
instance : Scal .nilIface := ⟨rfl⟩

/-! ### Pieces -/
/-- A piece is among the list, and what is left when it is taken out. -/
 class FPt (l : List As) (b : Nat) (o : outParam Obj) (r : outParam (List As)) : Prop where
  perm : l.Perm (pt b o :: r)
instance (priority := 2000) {b : Nat} {o : Obj} {r : List As} : FPt (pt b o :: r) b o r := ⟨List.Perm.refl _⟩
instance {A : As} {b : Nat} {o : Obj} {l r : List As} [h : FPt l b o r] : FPt (A :: l) b o (A :: r) := ⟨(h.perm.cons A).trans (List.Perm.swap _ _ _)⟩
 class FMp (l : List As) (b : Nat) (kt : outParam KT) (M : outParam AL) (r : outParam (List As)) : Prop where
  perm : l.Perm (mp b kt M :: r)
instance (priority := 2000) {b : Nat} {kt : KT} {M : AL} {r : List As} : FMp (mp b kt M :: r) b kt M r := ⟨List.Perm.refl _⟩
instance {A : As} {b : Nat} {kt : KT} {M : AL} {l r : List As} [h : FMp l b kt M r] : FMp (A :: l) b kt M (A :: r) := ⟨(h.perm.cons A).trans (List.Perm.swap _ _ _)⟩
 class FSl (l : List As) (v : Value) (T : outParam TypeId) (sz : outParam Nat) (xs : outParam (List Value)) (r : outParam (List As)) : Prop where
  perm : l.Perm (slA v T sz xs :: r)
instance (priority := 2000) {v : Value} {T : TypeId} {sz : Nat} {xs : List Value} {r : List As} : FSl (slA v T sz xs :: r) v T sz xs r := ⟨List.Perm.refl _⟩
instance {A : As} {v : Value} {T : TypeId} {sz : Nat} {xs : List Value} {l r : List As} [h : FSl l v T sz xs r] : FSl (A :: l) v T sz xs (A :: r) := ⟨(h.perm.cons A).trans (List.Perm.swap _ _ _)⟩
/-- The piece at a place, and what is left. -/
 class FIx (l : List As) (i : Nat) (A : outParam As) (r : outParam (List As)) : Prop where
  perm : l.Perm (A :: r)
instance {A : As} {l : List As} : FIx (A :: l) 0 A l := ⟨List.Perm.refl _⟩
instance {A B : As} {l r : List As} {i : Nat} [h : FIx l i A r] : FIx (B :: l) (i + 1) A (B :: r) := ⟨(h.perm.cons B).trans (List.Perm.swap _ _ _)⟩

/-- By the type alone. -/
 class FPtT (l : List As) (T : TypeId) (b : outParam Nat) (cs : outParam (List Value)) (r : outParam (List As)) : Prop where
  perm : l.Perm (pt b (oc cs T) :: r)
instance (priority := 2000) {b : Nat} {cs : List Value} {T : TypeId} {r : List As} : FPtT (pt b (oc cs T) :: r) T b cs r := ⟨List.Perm.refl _⟩
instance {A : As} {b : Nat} {cs : List Value} {T : TypeId} {l r : List As} [h : FPtT l T b cs r] : FPtT (A :: l) T b cs (A :: r) := ⟨(h.perm.cons A).trans (List.Perm.swap _ _ _)⟩
 class FSlT (l : List As) (T : TypeId) (v : outParam Value) (sz : outParam Nat) (xs : outParam (List Value)) (r : outParam (List As)) : Prop where
  perm : l.Perm (slA v T sz xs :: r)
instance (priority := 2000) {v : Value} {T : TypeId} {sz : Nat} {xs : List Value} {r : List As} : FSlT (slA v T sz xs :: r) T v sz xs r := ⟨List.Perm.refl _⟩
instance {A : As} {v : Value} {T : TypeId} {sz : Nat} {xs : List Value} {l r : List As} [h : FSlT l T v sz xs r] : FSlT (A :: l) T v sz xs (A :: r) := ⟨(h.perm.cons A).trans (List.Perm.swap _ _ _)⟩
 class FSlV (l : List As) (v : Value) (T : TypeId) (sz : outParam Nat) (xs : outParam (List Value)) (r : outParam (List As)) : Prop where
  perm : l.Perm (slA v T sz xs :: r)
instance (priority := 2000) {v : Value} {T : TypeId} {sz : Nat} {xs : List Value} {r : List As} : FSlV (slA v T sz xs :: r) v T sz xs r := ⟨List.Perm.refl _⟩
instance {A : As} {v : Value} {T : TypeId} {sz : Nat} {xs : List Value} {l r : List As} [h : FSlV l v T sz xs r] : FSlV (A :: l) v T sz xs (A :: r) := ⟨(h.perm.cons A).trans (List.Perm.swap _ _ _)⟩

theorem Hs.perm {w0 : World} {F : Nat → Prop} {w : World} {l l' : List As} (E : Hs w0 F w l) (hp : l.Perm l') : Hs w0 F w l' :=
  ⟨E.upd, fun B hB => E.sat B (hp.mem_iff.2 hB), fun B hB => E.own B (hp.mem_iff.2 hB), hp.pairwise E.apart fun {A B} h b hb hb' => h b hb' hb⟩
section
variable {w0 : World} {F : Nat → Prop} {w : World} {l r : List As}
theorem Hs.bPt (b : Nat) {o : Obj} [h : FPt l b o r] (E : Hs w0 F w l) : Hs w0 F w (pt b o :: r) := E.perm h.perm
theorem Hs.bMp (b : Nat) {kt : KT} {M : AL} [h : FMp l b kt M r] (E : Hs w0 F w l) : Hs w0 F w (mp b kt M :: r) := E.perm h.perm
theorem Hs.bSl (v : Value) {T : TypeId} {sz : Nat} {xs : List Value} [h : FSl l v T sz xs r] (E : Hs w0 F w l) : Hs w0 F w (slA v T sz xs :: r) := E.perm h.perm
theorem Hs.bPtT (T : TypeId) {b : Nat} {cs : List Value} [h : FPtT l T b cs r] (E : Hs w0 F w l) : Hs w0 F w (pt b (oc cs T) :: r) := E.perm h.perm
theorem Hs.bSlT (T : TypeId) {v : Value} {sz : Nat} {xs : List Value} [h : FSlT l T v sz xs r] (E : Hs w0 F w l) : Hs w0 F w (slA v T sz xs :: r) := E.perm h.perm
theorem Hs.bSlV (v : Value) (T : TypeId) {sz : Nat} {xs : List Value} [h : FSlV l v T sz xs r] (E : Hs w0 F w l) : Hs w0 F w (slA v T sz xs :: r) := E.perm h.perm
theorem Hs.bIx (i : Nat) {A : As} [h : FIx l i A r] (E : Hs w0 F w l) : Hs w0 F w (A :: r) := E.perm h.perm
theorem Hs.tl {A : As} (E : Hs w0 F w (A :: l)) : Hs w0 F w l := E.drop (List.sublist_cons_self _ _)
theorem FPt.mem {b : Nat} {o : Obj} [h : FPt l b o r] : pt b o ∈ l := h.perm.mem_iff.2 List.mem_cons_self
theorem FMp.mem {b : Nat} {kt : KT} {M : AL} [h : FMp l b kt M r] : mp b kt M ∈ l := h.perm.mem_iff.2 List.mem_cons_self
theorem FSl.mem {v : Value} {T : TypeId} {sz : Nat} {xs : List Value} [h : FSl l v T sz xs r] : slA v T sz xs ∈ l := h.perm.mem_iff.2 List.mem_cons_self
end

/-- A turned piece: where it lies, what it was, what the list is behind it. -/
 class WPt (l : List As) (b : Nat) (cs : outParam (List Value)) (T : outParam TypeId) (cs' : List Value) (l' : outParam (List As)) : Prop where
  at_ : ∃ i : Nat, l[i]? = some (pt b (oc cs T)) ∧ l' = l.set i (pt b (oc cs' T))
instance (priority := 2000) {b : Nat} {cs cs' : List Value} {T : TypeId} {r : List As} : WPt (pt b (oc cs T) :: r) b cs T cs' (pt b (oc cs' T) :: r) := ⟨0, rfl, rfl⟩
instance {A : As} {b : Nat} {cs cs' : List Value} {T : TypeId} {l l' : List As} [h : WPt l b cs T cs' l'] : WPt (A :: l) b cs T cs' (A :: l') := ⟨by
  obtain ⟨i, h1, h2⟩ := h.at_
  exact ⟨i + 1, by simpa using h1, by simp [h2]⟩⟩
/-- The same, the cells first found (what they become hangs on them). -/
 class StC (l : List As) (b o : Nat) (vs : List Value) (l' : outParam (List As)) : Prop where
  at_ : ∃ (i : Nat) (cs : List Value) (T : TypeId), l[i]? = some (pt b (oc cs T)) ∧ (vs = [] ∨ o + vs.length ≤ cs.length) ∧ l' = l.set i (pt b (oc (setCs cs o vs) T))
instance (priority := 2000) {b o : Nat} {cs cs' vs : List Value} {T : TypeId} {r : List As} [h : SetL cs o vs cs'] : StC (pt b (oc cs T) :: r) b o vs (pt b (oc cs' T) :: r) := ⟨0, cs, T, rfl, h.le, by rw [h.eq]; rfl⟩
instance {A : As} {b o : Nat} {vs : List Value} {l l' : List As} [h : StC l b o vs l'] : StC (A :: l) b o vs (A :: l') := ⟨by
  obtain ⟨i, cs, T, h1, h2, h3⟩ := h.at_
  exact ⟨i + 1, cs, T, by simpa using h1, h2, by simp [h3]⟩⟩
 class WMp (l : List As) (b : Nat) (kt : outParam KT) (M : outParam AL) (r : outParam (List As)) (f : AL → AL) (l' : outParam (List As)) : Prop where
  at_ : ∃ i : Nat, l[i]? = some (mp b kt M) ∧ l' = l.set i (mp b kt (f M))
instance (priority := 2000) {b : Nat} {kt : KT} {M : AL} {r : List As} {f : AL → AL} : WMp (mp b kt M :: r) b kt M r f (mp b kt (f M) :: r) := ⟨0, rfl, rfl⟩
instance {A : As} {b : Nat} {kt : KT} {M : AL} {l r l' : List As} {f : AL → AL} [h : WMp l b kt M r f l'] : WMp (A :: l) b kt M (A :: r) f (A :: l') := ⟨by
  obtain ⟨i, h1, h2⟩ := h.at_
  exact ⟨i + 1, by simpa using h1, by simp [h2]⟩⟩

/-! ### Steps -/
/-- G follows from N. -/
 class Stp (G : Prop) (N : outParam Prop) : Prop where
  go : N → G
 class StpE {w0 : World} {F : Nat → Prop} {w : World} {l : List As} (E : Hs w0 F w l) (G : Prop) (N : outParam Prop) : Prop where
  go : N → G
/-- .. behind a step that turns the world. -/
 class StpW {w0 : World} {F : Nat → Prop} {w : World} {l : List As} (E : Hs w0 F w l) (G : Prop) (N : outParam Prop) : Prop where
  go : N → G
 class StpA {w0 : World} {F : Nat → Prop} {w : World} {l : List As} (E : Hs w0 F w l) (G : Prop) (N : outParam Prop) : Prop where
  go : N → G

instance {A B : Prop} : Stp (Cnd (.bool true) A B) A := ⟨Cnd.t⟩
instance {A B : Prop} : Stp (Cnd (.bool false) A B) B := ⟨Cnd.f⟩
instance {op : (Value → World → Prop) → Prop} {w : World} {k : Value → World → Prop} : Stp (Gd (.bool true) true op w k) (op k) := ⟨Gd.t true⟩
instance {op : (Value → World → Prop) → Prop} {w : World} {k : Value → World → Prop} : Stp (Gd (.bool false) false op w k) (op k) := ⟨Gd.t false⟩
instance {op : (Value → World → Prop) → Prop} {w : World} {k : Value → World → Prop} : Stp (Gd (.bool false) true op w k) (k undef w) := ⟨Gd.tf⟩
instance {op : (Value → World → Prop) → Prop} {w : World} {k : Value → World → Prop} : Stp (Gd (.bool true) false op w k) (k undef w) := ⟨Gd.ft⟩
instance {x y : Value} {k : Value → Prop} : Stp (Pk (.bool true) x y k) (k x) := ⟨Pk.t⟩
instance {x y : Value} {k : Value → Prop} : Stp (Pk (.bool false) x y k) (k y) := ⟨Pk.f⟩
instance {k : Value → Prop} : Stp (Un .not (.bool true) k) (k (.bool false)) := ⟨Un.nf⟩
instance {k : Value → Prop} : Stp (Un .not (.bool false) k) (k (.bool true)) := ⟨Un.nt⟩
instance {a : Addr} {k : Value → Prop} : Stp (Nc (.pointer (some a)) k) (k (.pointer (some a))) := ⟨fun h => ⟨rfl, h⟩⟩
instance {f : FuncId} {x y : Array Value} {k : Value → Prop} : Stp (Nc (.func (.func f) x y) k) (k (.func (.func f) x y)) := ⟨fun h => ⟨rfl, h⟩⟩
instance {L : Nat} {x y : Array Value} {k : Value → Prop} : Stp (Nc (.func (.yield L) x y) k) (k (.func (.yield L) x y)) := ⟨fun h => ⟨rfl, h⟩⟩
instance {off b o : Nat} {k : Value → Prop} : Stp (Fa off (.pointer (some ⟨b, o, none⟩)) k) (k (.pointer (some ⟨b, o + off, none⟩))) := ⟨Fa.ptr⟩
instance (priority := 1500) {off b : Nat} {k : Value → Prop} : Stp (Fa off (.pointer (some ⟨b, 0, none⟩)) k) (k (.pointer (some ⟨b, off, none⟩))) := ⟨fun h => Fa.ptr (by rw [Nat.zero_add]; exact h)⟩
instance (priority := 2000) {b o : Nat} {k : Value → Prop} : Stp (Fa 0 (.pointer (some ⟨b, o, none⟩)) k) (k (.pointer (some ⟨b, o, none⟩))) := ⟨fun h => Fa.ptr (off := 0) (by rw [Nat.add_zero]; exact h)⟩
instance {vs : List Value} {i : Nat} {v : Value} {k : Value → Prop} [h : Nth vs i v] : Stp (Ex (.tuple vs.toArray) i k) (k v) := ⟨Ex.ls h.at_⟩
instance {off : Nat} {cs : List Value} {v : Value} {k : Value → Prop} [h : Nth cs off v] : Stp (Fi off (.agg cs.toArray) k) (k v) := ⟨Fi.ls h.at_⟩
instance {off n : Nat} {cs r ds : List Value} {k : Value → Prop} [h : Dp cs off r] [h2 : Tk r n ds] : Stp (FiA off n (.agg cs.toArray) k) (k (.agg ds.toArray)) := ⟨FiA.ls (by rw [h.eq, h2.eq])⟩
instance {s : ByteArray} {k : Value → Prop} : Stp (LnS (.string s) k) (k (.int .i64 s.size)) := ⟨fun h => ⟨s, rfl, h⟩⟩
instance {s : ByteArray} {k : Value → Prop} : Stp (StrC (.string s) k) (k (.string s)) := ⟨fun h => ⟨s, rfl, h⟩⟩
instance {w : World} {k : World → Prop} {P : Program} : Stp (Lvs P [] w k) (k w) := ⟨id⟩

/-- Numbers that are there as digits. -/
def cmpB : BinOp → Int → Int → Option Bool
  | .eql, a, b => some (decide (a = b))
  | .neq, a, b => some (decide (a ≠ b))
  | .lss, a, b => some (decide (a < b))
  | .leq, a, b => some (decide (a ≤ b))
  | .gtr, a, b => some (decide (b < a))
  | .geq, a, b => some (decide (b ≤ a))
  | _, _, _ => none
theorem Bi.cmp {op : BinOp} {kk : IntKind} {a b : Int} {k : Value → Prop} (r : Bool) (h : cmpB op a b = some r) (hk : k (.bool r)) : Bi op (.int kk a) (.int kk b) k := by
  unfold cmpB at h
  split at h <;> first | cases h | skip
  · exact Bi.eql (fun e => by rw [decide_eq_true e] at hk; exact hk) (fun e => by rw [decide_eq_false e] at hk; exact hk)
  · exact Bi.neq (fun e => by rw [decide_eq_true e] at hk; exact hk) (fun e => by rw [decide_eq_false (by simpa using e)] at hk; exact hk)
  · exact Bi.lss (fun e => by rw [decide_eq_true e] at hk; exact hk) (fun e => by rw [decide_eq_false (by omega)] at hk; exact hk)
  · exact Bi.leq (fun e => by rw [decide_eq_true e] at hk; exact hk) (fun e => by rw [decide_eq_false (by omega)] at hk; exact hk)
  · exact Bi.gtr (fun e => by rw [decide_eq_true e] at hk; exact hk) (fun e => by rw [decide_eq_false (by omega)] at hk; exact hk)
  · exact Bi.geq (fun e => by rw [decide_eq_true e] at hk; exact hk) (fun e => by rw [decide_eq_false (by omega)] at hk; exact hk)
theorem Bi.dec {op : BinOp} {x y : Value} {k : Value → Prop} (r : Bool) (h : binV op x y = some (.bool r)) (hk : k (.bool r)) : Bi op x y k := ⟨_, h, hk⟩
def scm : BinOp → ByteArray → ByteArray → Option Bool
  | .eql, s, t => some (decide (s = t))
  | .neq, s, t => some (decide (s ≠ t))
  | _, _, _ => none
theorem Bi.sdec {op : BinOp} {s t : ByteArray} {k : Value → Prop} (r : Bool) (h : scm op s t = some r) (hk : k (.bool r)) : Bi op (.string s) (.string t) k := by
  unfold scm at h
  split at h <;> first | cases h | skip
  · exact Bi.seql (fun e => by rw [decide_eq_true e] at hk; exact hk) (fun e => by rw [decide_eq_false e] at hk; exact hk)
  · exact Bi.sneq (fun e => by rw [decide_eq_true e] at hk; exact hk) (fun e => by rw [decide_eq_false (by simpa using e)] at hk; exact hk)
section
variable {P : Program} {w0 : World} {F : Nat → Prop} {w : World} {l r l' : List As} {E : Hs w0 F w l}
instance {b o : Nat} {cs : List Value} {T : TypeId} {v : Value} {k : Value → Prop} [h : FPt l b (oc cs T) r] [h2 : Nth cs o v] : StpE E (Ld (.pointer (some ⟨b, o, none⟩)) w k) (k v) := ⟨Ld.pt E h.mem h2.at_⟩
instance {b o n : Nat} {cs rs ds : List Value} {T : TypeId} {k : Value → Prop} [h : FPt l b (oc cs T) r] [h2 : Dp cs o rs] [h3 : Tk rs n ds] : StpE E (LdA P n (.pointer (some ⟨b, o, none⟩)) w k) (k (.agg ds.toArray)) :=
  ⟨LdA.pt E h.mem (by rw [h2.eq, h3.eq]) h3.len⟩
instance {v : Value} {T : TypeId} {xs : List Value} {k : Value → Prop} [h : FSl l v T 1 xs r] : StpE E (LnL v k) (k (.int .i64 (xs.length : Int))) := ⟨LnL.sl1 E h.mem⟩
instance {k : World → Prop} : StpW E (Dr w k) (∀ w', Hs w0 F w' l → k w') := ⟨Dr.st E⟩
instance {t : TypeId} {cs : List Value} {k : Value → World → Prop} : StpA E (Al t cs.toArray w k) (∀ b w', w0.heap.size ≤ b → Hs w0 F w' (pt b (oc cs t) :: l) → k (.pointer (some ⟨b, 0, none⟩)) w') := ⟨Al.pt E⟩
/-- A value of one cell, a slice's among the pieces too. -/
 class ScalE {w0 : World} {F : Nat → Prop} {w : World} {l : List As} (E : Hs w0 F w l) (v : Value) : Prop where
  s : scalV v = true
instance {v : Value} [h : Scal v] : ScalE E v := ⟨h.s⟩
instance {v : Value} {T : TypeId} {sz : Nat} {xs : List Value} [h : FSl l v T sz xs r] : ScalE E v := ⟨Hs.slScal E h.mem⟩
 class ScalsE {w0 : World} {F : Nat → Prop} {w : World} {l : List As} (E : Hs w0 F w l) (vs : List Value) : Prop where
  s : vs.all scalV = true
instance : ScalsE E [] := ⟨rfl⟩
instance {v : Value} {vs : List Value} [h : ScalE E v] [h2 : ScalsE E vs] : ScalsE E (v :: vs) := ⟨by simp only [List.all_cons, h.s, h2.s, Bool.and_self]⟩
instance (priority := 900) {b o : Nat} {v : Value} {k : World → Prop} [h : StC l b o [v] l'] [h2 : ScalE E v] : StpW E (St P 1 (.pointer (some ⟨b, o, none⟩)) v w k) (∀ w', Hs w0 F w' l' → k w') := ⟨fun hk => by
  obtain ⟨i, cs, T, h1, h3, rfl⟩ := h.at_
  exact St.pt E i h1 (by rcases h3 with h3 | h3 <;> simp at h3; omega) h2.s hk⟩
instance {b o n : Nat} {vs : List Value} {k : World → Prop} [ht : Tk vs n vs] [h : StC l b o vs l'] [h2 : ScalsE E vs] : StpW E (St P n (.pointer (some ⟨b, o, none⟩)) (.agg vs.toArray) w k) (∀ w', Hs w0 F w' l' → k w') := ⟨fun hk => by
  obtain ⟨i, cs, T, h1, h3, rfl⟩ := h.at_
  have hn := ht.len
  rcases h3 with rfl | h3
  · refine ⟨⟨b, o, none⟩, w, rfl, by simpa [Value.cells] using hn, by simp [Value.cells, storeCells], hk _ (E.set i h1 (Upd.refl _ _) ?_ fun x hx => .inl hx)⟩
    exact E.sat _ (List.mem_of_getElem? h1)
  · exact StA.pt E i h1 hn (by omega) h2.s hk⟩
/-- A store into cells that are a list by name. -/
 class WSt (l : List As) (b o : Nat) (v : Value) (cs : outParam (List Value)) (l' : outParam (List As)) : Prop where
  at_ : ∃ (i : Nat) (T : TypeId), l[i]? = some (pt b (oc cs T)) ∧ l' = l.set i (pt b (oc (cs.set o v) T))
instance (priority := 2000) {b o : Nat} {v : Value} {cs : List Value} {T : TypeId} {r : List As} : WSt (pt b (oc cs T) :: r) b o v cs (pt b (oc (cs.set o v) T) :: r) := ⟨0, T, rfl, rfl⟩
instance {A : As} {b o : Nat} {v : Value} {cs : List Value} {l l' : List As} [h : WSt l b o v cs l'] : WSt (A :: l) b o v cs (A :: l') := ⟨by
  obtain ⟨i, T, h1, h2⟩ := h.at_
  exact ⟨i + 1, T, by simpa using h1, by simp [h2]⟩⟩
theorem St.by {b o : Nat} {v : Value} {cs : List Value} {k : World → Prop} (E : Hs w0 F w l) [h : WSt l b o v cs l'] (ho : o < cs.length) (hv : scalV v = true) (hk : ∀ w', Hs w0 F w' l' → k w') : St P 1 (.pointer (some ⟨b, o, none⟩)) v w k := by
  obtain ⟨i, T, h1, rfl⟩ := h.at_
  exact St.pt E i h1 ho hv hk
theorem StA.by {b o n : Nat} {vs : List Value} {k : World → Prop} (E : Hs w0 F w l) [h : StC l b o vs l'] (hn : vs.length = n) (hv : vs.all scalV = true) (hk : ∀ w', Hs w0 F w' l' → k w') : St P n (.pointer (some ⟨b, o, none⟩)) (.agg vs.toArray) w k := by
  obtain ⟨i, cs, T, h1, h3, rfl⟩ := h.at_
  rcases h3 with rfl | h3
  · refine ⟨⟨b, o, none⟩, w, rfl, by simpa [Value.cells] using hn, by simp [Value.cells, storeCells], hk _ (E.set i h1 (Upd.refl _ _) ?_ fun x hx => .inl hx)⟩
    exact E.sat _ (List.mem_of_getElem? h1)
  · exact StA.pt E i h1 hn (by omega) hv hk
/-- A map's store, its pieces found by the map's block. -/
theorem Mu.by {b : Nat} {kt : KT} {M : AL} {T K El : TypeId} {key v : Value} {k : Unit → World → Prop} (E : Hs w0 F w l) [h : WMp l b kt M r (fun M => aput M key v) l'] (hT : P.underlying T = some (.map K El)) (hf : kt.fits P K = true)
    (hk : kt.ok key = true) (hc : ∀ w', Hs w0 F w' l' → k () w') : Ef P (Instr.mapUpdate T (.map (some b)) key v) w k := by
  obtain ⟨i, h1, rfl⟩ := h.at_
  exact Mu.mp E h1 hT hf hk hc
theorem Dl.by {b : Nat} {kt : KT} {M : AL} {T K El K' ty : TypeId} {key : Value} {k : Value → World → Prop} (E : Hs w0 F w l) [h : WMp l b kt M r (fun M => adel M key) l'] (hT : P.underlying T = some (.map K El)) (hf : kt.fits P K = true)
    (hk : kt.ok key = true) (hc : ∀ w', Hs w0 F w' l' → k (.tuple #[]) w') : Ef P (Builtin.delete_ #[T, K'] ty #[.map (some b), key]) w k := by
  obtain ⟨i, h1, rfl⟩ := h.at_
  exact Dl.mp E h1 hT hf hk hc
/-- A value's cells; a struct's, put together. -/
 class CellsE {w0 : World} {F : Nat → Prop} {w : World} {l : List As} (E : Hs w0 F w l) (v : Value) (cs : outParam (List Value)) : Prop where
  eq : v.cells = cs.toArray
instance (priority := 900) {v : Value} [h : ScalE E v] : CellsE E v [v] := ⟨cells_scal h.s⟩
instance {cs : List Value} : CellsE E (.agg cs.toArray) cs := ⟨rfl⟩
instance {t : TypeId} {v : Value} {cs : List Value} {k : Value → World → Prop} [h : CellsE E v cs] : StpA E (Al t v.cells w k) (∀ b w', w0.heap.size ≤ b → Hs w0 F w' (pt b (oc cs t) :: l) → k (.pointer (some ⟨b, 0, none⟩)) w') := ⟨fun hk => by
  rw [h.eq]; exact Al.pt E hk⟩
 class FillE {w0 : World} {F : Nat → Prop} {w : World} {l : List As} (E : Hs w0 F w l) (z : List Value) (pl : List (Nat × Nat)) (ps : List (Nat × Value)) (out : outParam (List Value)) : Prop where
  eq : fillL pl z ps = some out
instance {z : List Value} {pl : List (Nat × Nat)} : FillE E z pl [] z := ⟨rfl⟩
instance {z z' out cs : List Value} {pl : List (Nat × Nat)} {ps : List (Nat × Value)} {i off n : Nat} {v : Value} [h1 : Nth pl i (off, n + 1)] [h2 : CellsE E v cs] [h3 : Tk cs (n + 1) cs] [h4 : SetL z off cs z'] [h5 : FillE E z' pl ps out] :
    FillE E z pl ((i, v) :: ps) out := ⟨by
  have hn := h3.len
  have hle : off + (n + 1) ≤ z.length := by
    rcases h4.le with h | h
    · rw [h] at hn; simp at hn
    · omega
  simp only [fillL, h1.at_, h2.eq]
  rw [if_pos ⟨hn, hle⟩, h4.eq]
  exact h5.eq⟩
instance {z out : List Value} {pl : List (Nat × Nat)} {ps : List (Nat × Value)} {k : Value → Prop} [h : FillE E z pl ps out] : StpE E (Bd z.toArray pl ps k) (k (.agg out.toArray)) := ⟨Bd.mk3 h.eq⟩
end
end Go.Sh
