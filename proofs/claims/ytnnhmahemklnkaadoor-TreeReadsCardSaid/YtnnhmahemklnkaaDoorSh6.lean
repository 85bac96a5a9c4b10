/-
  The shallow layer, part 6: memory in pieces. Assertions with their blocks; a state as a list of pieces that lie apart; the laws of loads, stores and new blocks over it.
-/
import Derived.Test.YtnnhmahemklnkaaDoorSh5
namespace Go.Sh
open Go

/-- w' is w but for the blocks of G and new ones. -/
structure Upd (G : Nat → Prop) (w w' : World) : Prop where
  size : w.heap.size ≤ w'.heap.size
  same : ∀ b, b < w.heap.size → ¬ G b → w'.heap[b]? = w.heap[b]?
  tape : w'.tape = w.tape
  os : w'.os = w.os
  out : w'.output = w.output
def Emp : Nat → Prop := fun _ => False

theorem Upd.refl (G : Nat → Prop) (w : World) : Upd G w w := ⟨Nat.le_refl _, fun _ _ _ => rfl, rfl, rfl, rfl⟩
theorem Upd.trans {G : Nat → Prop} {a b c : World} (h : Upd G a b) (k : Upd G b c) : Upd G a c :=
  ⟨Nat.le_trans h.size k.size, fun x hx hg => (k.same x (Nat.lt_of_lt_of_le hx h.size) hg).trans (h.same x hx hg), k.tape.trans h.tape, k.os.trans h.os, k.out.trans h.out⟩
theorem Upd.mono {G H : Nat → Prop} {w w' : World} (h : Upd G w w') (hg : ∀ b, b < w.heap.size → G b → H b) : Upd H w w' :=
  ⟨h.size, fun b hb hn => h.same b hb fun hh => hn (hg b hb hh), h.tape, h.os, h.out⟩
/-- Two steps, the second of which may also turn what the first has made. -/
theorem Upd.trans' {G H : Nat → Prop} {a b c : World} (h : Upd G a b) (k : Upd H b c) (hg : ∀ x, x < a.heap.size → H x → G x) : Upd G a c :=
  ⟨Nat.le_trans h.size k.size, fun x hx hn => (k.same x (Nat.lt_of_lt_of_le hx h.size) fun hh => hn (hg x hx hh)).trans (h.same x hx hn), k.tape.trans h.tape, k.os.trans h.os, k.out.trans h.out⟩

theorem heap_alloc_old {w : World} {o : Obj} {b : Nat} (h : b < w.heap.size) : (w.alloc o).heap[b]? = w.heap[b]? := by
  show (w.heap.push o)[b]? = _
  rw [Array.getElem?_push, if_neg (by omega)]
theorem heap_alloc_new (w : World) (o : Obj) : (w.alloc o).heap[w.heap.size]? = some o := by
  show (w.heap.push o)[w.heap.size]? = _
  simp
theorem Upd.alloc (w : World) (o : Obj) : Upd Emp w (w.alloc o) :=
  ⟨by show w.heap.size ≤ (w.heap.push o).size; simp, fun b hb _ => heap_alloc_old hb, rfl, rfl, rfl⟩
theorem Upd.drew (w : World) : Upd Emp w w.drew := ⟨Nat.le_refl _, fun _ _ _ => rfl, rfl, rfl, rfl⟩
/-- Block b holds o behind this. -/
def World.putOb (w : World) (b : Nat) (o : Obj) : World := { w with heap := w.heap.setIfInBounds b o }
theorem putOb_at {w : World} {b : Nat} {o o' : Obj} (h : w.heap[b]? = some o) : (World.putOb w b o').heap[b]? = some o' := by
  have := (Array.getElem?_eq_some_iff.1 h).1
  simp [World.putOb, this]
theorem Upd.putOb {w : World} {b : Nat} (o : Obj) : Upd (· = b) w (World.putOb w b o) :=
  ⟨by simp [World.putOb], fun x _ hn => by simp only [World.putOb]; rw [Array.getElem?_setIfInBounds_ne (fun h => hn h.symm)], rfl, rfl, rfl⟩

/-- An assertion on memory that looks at its own blocks alone. -/
structure As where
  foot : Nat → Prop
  sat : World → Prop
  lt : ∀ w, sat w → ∀ b, foot b → b < w.heap.size
  loc : ∀ w w' : World, (∀ b, foot b → w'.heap[b]? = w.heap[b]?) → sat w → sat w'

theorem As.keep {A : As} {G : Nat → Prop} {w w' : World} (h : A.sat w) (u : Upd G w w') (hd : ∀ b, A.foot b → ¬ G b) : A.sat w' :=
  A.loc w w' (fun b hb => u.same b (A.lt w h b hb) (hd b hb)) h

def pt (b : Nat) (o : Obj) : As where
  foot := (· = b)
  sat w := w.heap[b]? = some o
  lt w h x hx := by subst hx; exact (Array.getElem?_eq_some_iff.1 h).1
  loc w w' h hs := by rw [h b rfl]; exact hs
/-- A block of cells that nothing freezes. -/
def oc (cs : List Value) (T : TypeId) : Obj := .cells cs.toArray T (0, 0)
def ocf (cs : List Value) (T : TypeId) (fr : Nat × Nat) : Obj := .cells cs.toArray T fr
/-- Nothing below n is frozen. -/
def Free (fr : Nat × Nat) (n : Nat) : Prop := ∀ o, o < n → ¬ (fr.1 ≤ o ∧ o < fr.2)
theorem Free.zero (n : Nat) : Free (0, 0) n := fun o _ h => by have := h.2; simp at this

/-- A state: w grew out of w0, of w0's blocks at most those of F have turned; the pieces of l lie in it, apart, in F's blocks and new ones. -/
structure Hs (w0 : World) (F : Nat → Prop) (w : World) (l : List As) : Prop where
  upd : Upd F w0 w
  sat : ∀ A, A ∈ l → A.sat w
  own : ∀ A, A ∈ l → ∀ b, A.foot b → b < w0.heap.size → F b
  apart : l.Pairwise fun A B => ∀ b, A.foot b → ¬ B.foot b

theorem Hs.start (w : World) (F : Nat → Prop) : Hs w F w [] := ⟨Upd.refl _ _, (fun _ h => by cases h), (fun _ h => by cases h), List.Pairwise.nil⟩
theorem Hs.lt {w0 : World} {F : Nat → Prop} {w : World} {l : List As} (E : Hs w0 F w l) {A : As} (hA : A ∈ l) {b : Nat} (hb : A.foot b) : b < w.heap.size := A.lt w (E.sat A hA) b hb
/-- A piece of w0, in F's blocks, that no other piece overlaps. -/
theorem Hs.take {w0 : World} {F : Nat → Prop} {w : World} {l : List As} (E : Hs w0 F w l) {A : As} (h : A.sat w) (hF : ∀ b, A.foot b → b < w0.heap.size → F b) (hd : ∀ B, B ∈ l → ∀ b, A.foot b → ¬ B.foot b) : Hs w0 F w (A :: l) :=
  ⟨E.upd, (fun B hB => (List.mem_cons.1 hB).elim (fun e => e ▸ h) (E.sat B)),
    (fun B hB => (List.mem_cons.1 hB).elim (fun e => e ▸ hF) (E.own B)), .cons hd E.apart⟩
/-- What lies outside F's blocks is as it was. -/
theorem Hs.old {w0 : World} {F : Nat → Prop} {w : World} {l : List As} (E : Hs w0 F w l) {b : Nat} {o : Obj} (h : w0.heap[b]? = some o) (hF : ¬ F b) : w.heap[b]? = some o := by
  rw [E.upd.same b (Array.getElem?_eq_some_iff.1 h).1 hF]; exact h
/-- A step that only makes memory. -/
theorem Hs.grow {w0 : World} {F : Nat → Prop} {w w' : World} {l : List As} (E : Hs w0 F w l) (u : Upd Emp w w') : Hs w0 F w' l :=
  ⟨E.upd.trans' u fun _ _ h => h.elim, fun A hA => As.keep (E.sat A hA) u fun _ _ h => h, E.own, E.apart⟩
/-- A step that makes a new piece. -/
theorem Hs.add {w0 : World} {F : Nat → Prop} {w w' : World} {l : List As} (E : Hs w0 F w l) (u : Upd Emp w w') {A : As} (h : A.sat w') (hn : ∀ b, A.foot b → w.heap.size ≤ b) : Hs w0 F w' (A :: l) := by
  have E' := E.grow u
  refine E'.take h (fun b hb hlt => ?_) fun B hB b hb hb' => ?_
  · have := hn b hb; have := E.upd.size; omega
  · have := hn b hb; have := E.lt hB hb'; omega
/-- A step that turns one piece. -/
theorem Hs.set {w0 : World} {F : Nat → Prop} {w w' : World} {l : List As} (E : Hs w0 F w l) (i : Nat) {A A' : As} (hi : l[i]? = some A) (u : Upd A.foot w w') (h : A'.sat w')
    (hf : ∀ b, A'.foot b → A.foot b ∨ w.heap.size ≤ b) : Hs w0 F w' (l.set i A') := by
  have hA : A ∈ l := List.mem_of_getElem? hi
  have hap := E.apart
  have key : ∀ (l : List As) (i : Nat), l[i]? = some A → (∀ B, B ∈ l → B.sat w) → l.Pairwise (fun A B => ∀ b, A.foot b → ¬ B.foot b) →
      (∀ B, B ∈ l.set i A' → B = A' ∨ (B ∈ l ∧ ∀ b, B.foot b → ¬ A.foot b)) ∧ (l.set i A').Pairwise (fun A B => ∀ b, A.foot b → ¬ B.foot b) := by
    intro l
    induction l with
    | nil => intro i hi; cases i <;> cases hi
    | cons B r ih =>
      intro i hi hs hp
      cases hp with
      | cons h1 h2 =>
        cases i with
        | zero =>
          simp only [List.getElem?_cons_zero, Option.some.injEq] at hi
          subst hi
          simp only [List.set_cons_zero]
          refine ⟨fun C hC => ?_, .cons (fun C hC b hb hb' => ?_) h2⟩
          · rcases List.mem_cons.1 hC with rfl | hC
            · exact .inl rfl
            · exact .inr ⟨List.mem_cons_of_mem _ hC, fun b hb hb' => h1 C hC b hb' hb⟩
          · rcases hf b hb with h | h
            · exact h1 C hC b h hb'
            · have := C.lt w (hs C (List.mem_cons_of_mem _ hC)) b hb'; omega
        | succ i =>
          simp only [List.getElem?_cons_succ] at hi
          have hAr : A ∈ r := List.mem_of_getElem? hi
          obtain ⟨g1, g2⟩ := ih i hi (fun C hC => hs C (List.mem_cons_of_mem _ hC)) h2
          simp only [List.set_cons_succ]
          refine ⟨fun C hC => ?_, .cons (fun C hC b hb hb' => ?_) g2⟩
          · rcases List.mem_cons.1 hC with rfl | hC
            · exact .inr ⟨List.mem_cons_self, fun b hb hb' => h1 A hAr b hb hb'⟩
            · rcases g1 C hC with h | ⟨h, h'⟩
              · exact .inl h
              · exact .inr ⟨List.mem_cons_of_mem _ h, h'⟩
          · rcases g1 C hC with rfl | ⟨h, h'⟩
            · rcases hf b hb' with h | h
              · exact h1 A hAr b hb h
              · have := B.lt w (hs B List.mem_cons_self) b hb; omega
            · exact h1 C h b hb hb'
  obtain ⟨k1, k2⟩ := key l i hi E.sat hap
  refine ⟨E.upd.trans' u fun b hb hh => E.own A hA b hh hb, fun B hB => ?_, fun B hB b hb hlt => ?_, k2⟩
  · rcases k1 B hB with rfl | ⟨hB', hd⟩
    · exact h
    · exact As.keep (E.sat B hB') u hd
  · rcases k1 B hB with rfl | ⟨hB', _⟩
    · rcases hf b hb with hh | hh
      · exact E.own A hA b hh hlt
      · have := E.upd.size; omega
    · exact E.own B hB' b hb hlt
/-- A piece comes to the front. -/
theorem Hs.front {w0 : World} {F : Nat → Prop} {w : World} {l : List As} (E : Hs w0 F w l) (i : Nat) {A : As} (hi : l[i]? = some A) : Hs w0 F w (A :: l.eraseIdx i) := by
  have hp : l.Perm (A :: l.eraseIdx i) := by
    have key : ∀ (l : List As) (i : Nat), l[i]? = some A → l.Perm (A :: l.eraseIdx i) := by
      intro l
      induction l with
      | nil => intro i hi; cases i <;> cases hi
      | cons B r ih =>
        intro i hi
        cases i with
        | zero =>
          simp only [List.getElem?_cons_zero, Option.some.injEq] at hi
          subst hi
          exact List.Perm.refl _
        | succ i =>
          simp only [List.getElem?_cons_succ] at hi
          simp only [List.eraseIdx_cons_succ]
          exact ((ih i hi).cons B).trans (List.Perm.swap A B _)
    exact key l i hi
  refine ⟨E.upd, fun B hB => E.sat B (hp.mem_iff.2 hB), fun B hB => E.own B (hp.mem_iff.2 hB), ?_⟩
  exact hp.pairwise E.apart fun {A B} h b hb hb' => h b hb' hb
/-- A piece is let go. -/
theorem Hs.drop {w0 : World} {F : Nat → Prop} {w : World} {l l' : List As} (E : Hs w0 F w l) (h : l'.Sublist l) : Hs w0 F w l' :=
  ⟨E.upd, fun A hA => E.sat A (h.subset hA), fun A hA => E.own A (h.subset hA), E.apart.sublist h⟩
/-- A piece is told otherwise. -/
theorem Hs.turn {w0 : World} {F : Nat → Prop} {w : World} {l : List As} (E : Hs w0 F w l) (i : Nat) {A A' : As} (hi : l[i]? = some A) (h : A.sat w → A'.sat w) (hf : ∀ b, A'.foot b → A.foot b) : Hs w0 F w (l.set i A') :=
  E.set i hi (Upd.refl _ _) (h (E.sat A (List.mem_of_getElem? hi))) fun b hb => .inl (hf b hb)

section
variable {P : Program} {w0 : World} {F : Nat → Prop} {w : World} {l : List As}

theorem cell_of {w : World} {b o : Nat} {cs : Array Value} {T : TypeId} {fr : Nat × Nat} {v : Value} (h : w.heap[b]? = some (.cells cs T fr)) (hv : cs[o]? = some v) : w.cell? ⟨b, o, none⟩ = some v := by
  unfold World.cell?; simp [h, hv]

theorem Ld.cell {b o : Nat} {v : Value} {k : Value → Prop} (h : w.cell? ⟨b, o, none⟩ = some v) (hk : k v) : Ld (.pointer (some ⟨b, o, none⟩)) w k := ⟨_, v, rfl, h, hk⟩
theorem Ld.ob {b o : Nat} {cs : Array Value} {T : TypeId} {fr : Nat × Nat} {v : Value} {k : Value → Prop} (h : w.heap[b]? = some (.cells cs T fr)) (hv : cs[o]? = some v) (hk : k v) :
    Ld (.pointer (some ⟨b, o, none⟩)) w k := ⟨_, v, rfl, cell_of h hv, hk⟩
theorem Ld.pt {b o : Nat} {cs : List Value} {T : TypeId} {v : Value} {k : Value → Prop} (E : Hs w0 F w l) (hm : Sh.pt b (oc cs T) ∈ l) (hv : cs[o]? = some v) (hk : k v) :
    Ld (.pointer (some ⟨b, o, none⟩)) w k := Ld.ob (E.sat _ hm) (by simpa using hv) hk
theorem Ld.old {b o : Nat} {cs : Array Value} {T : TypeId} {fr : Nat × Nat} {v : Value} {k : Value → Prop} (E : Hs w0 F w l) (h : w0.heap[b]? = some (.cells cs T fr)) (hF : ¬ F b) (hv : cs[o]? = some v) (hk : k v) :
    Ld (.pointer (some ⟨b, o, none⟩)) w k := Ld.ob (E.old h hF) hv hk

theorem loadCellsFrom_run {b o : Nat} {cs : Array Value} {T : TypeId} {fr : Nat × Nat} (h : w.heap[b]? = some (.cells cs T fr)) : ∀ (n i : Nat) (acc : Array Value), o + i + n ≤ cs.size →
    (loadCellsFrom ⟨b, o, none⟩ i n acc).run P w = .ok (acc ++ cs.extract (o + i) (o + i + n)) w
  | 0, i, acc, hn => by simp [loadCellsFrom]; omega
  | n + 1, i, acc, hn => by
    have hlt : o + i < cs.size := by omega
    have hc : w.cell? ((⟨b, o, none⟩ : Addr).add i) = some cs[o + i] := by
      have : (⟨b, o, none⟩ : Addr).add i = ⟨b, o + i, none⟩ := by
        unfold Addr.add; split
        · rename_i h0; subst h0; rfl
        · rfl
      rw [this]; exact cell_of h (Array.getElem?_eq_getElem hlt)
    simp only [loadCellsFrom, Sem.run_bind, run_load_cell hc, Result.andThen_ok]
    rw [loadCellsFrom_run h n (i + 1) _ (by omega)]
    congr 1
    apply Array.ext'
    simp only [Array.toList_append, Array.toList_push, Array.toList_extract, List.append_assoc]
    congr 1
    rw [List.extract_eq_take_drop, List.extract_eq_take_drop]
    have e1 : o + i + (n + 1) - (o + i) = n + 1 := by omega
    have e2 : o + (i + 1) + n - (o + (i + 1)) = n := by omega
    rw [e1, e2]
    have hd : List.drop (o + i) cs.toList = cs[o + i] :: List.drop (o + (i + 1)) cs.toList := by
      rw [List.drop_eq_getElem_cons (by simpa using hlt)]
      simp [Nat.add_assoc]
    rw [hd]
    simp

theorem LdA.ob {n b o : Nat} {cs : Array Value} {T : TypeId} {fr : Nat × Nat} {k : Value → Prop} (h : w.heap[b]? = some (.cells cs T fr)) (hn : o + n ≤ cs.size) (hk : k (.agg (cs.extract o (o + n)))) :
    LdA P n (.pointer (some ⟨b, o, none⟩)) w k := by
  refine ⟨_, _, rfl, ?_, hk⟩
  have := loadCellsFrom_run (P := P) h n 0 #[] (by omega)
  unfold loadCells
  rw [this]; simp
theorem LdA.pt {n b o : Nat} {cs : List Value} {T : TypeId} {k : Value → Prop} (E : Hs w0 F w l) (hm : Sh.pt b (oc cs T) ∈ l) {ds : List Value} (hds : (cs.drop o).take n = ds) (hn : ds.length = n) (hk : k (.agg ds.toArray)) :
    LdA P n (.pointer (some ⟨b, o, none⟩)) w k := by
  have hle : n ≤ (cs.drop o).length := by rw [← hn, ← hds]; simp; omega
  simp only [List.length_drop] at hle
  by_cases hz : n = 0
  · subst hz
    refine ⟨_, #[], rfl, rfl, ?_⟩
    have : ds = [] := List.length_eq_zero_iff.1 hn
    subst this; exact hk
  · refine LdA.ob (E.sat _ hm) (by simp; omega) ?_
    have : cs.toArray.extract o (o + n) = ds.toArray := by
      apply Array.ext'
      simp only [Array.toList_extract, List.extract_eq_take_drop]
      have : o + n - o = n := by omega
      rw [this, ← hds]
    rw [this]; exact hk

def scalV : Value → Bool
  | .agg _ | .tuple _ => false
  | _ => true
theorem cells_scal {v : Value} (h : scalV v = true) : v.cells = #[v] := by cases v <;> first | rfl | cases h
theorem run_store_cell {w : World} {b o : Nat} {cs : Array Value} {T : TypeId} {fr : Nat × Nat} {v : Value} (h : w.heap[b]? = some (.cells cs T fr)) (ho : o < cs.size) (hfr : ¬ (fr.1 ≤ o ∧ o < fr.2)) (hv : scalV v = true) :
    (store ⟨b, o, none⟩ v).run P w = .ok () (World.putOb w b (.cells (cs.setIfInBounds o v) T fr)) := by
  have hc : w.cell? ⟨b, o, none⟩ = some cs[o] := cell_of h (Array.getElem?_eq_getElem ho)
  have hf : w.frozen? ⟨b, o, none⟩ = false := by
    unfold World.frozen?
    simp only [h]
    rw [Bool.and_eq_false_iff]
    by_cases h1 : fr.1 ≤ o
    · right; simp; omega
    · left; simp; omega
  have hs : w.setCell ⟨b, o, none⟩ v = World.putOb w b (.cells (cs.setIfInBounds o v) T fr) := by
    unfold World.setCell World.putOb
    have hlt := (Array.getElem?_eq_some_iff.1 h).1
    congr 1
    apply Array.ext_getElem?
    intro j
    rw [Array.getElem?_modify, Array.getElem?_setIfInBounds]
    by_cases hj : b = j
    · subst hj
      have h' : w.heap[b] = .cells cs T fr := (Array.getElem?_eq_some_iff.1 h).2
      simp [hlt, h']
    · simp [hj]
  unfold store
  cases v <;> simp only [Sem.run, hc, hf] <;> first | (rw [hs]; rfl) | cases hv

theorem St.pt {b o : Nat} {cs : List Value} {T : TypeId} {v : Value} {k : World → Prop} (E : Hs w0 F w l) (i : Nat) (hm : l[i]? = some (Sh.pt b (oc cs T))) (ho : o < cs.length) (hv : scalV v = true)
    (hk : ∀ w', Hs w0 F w' (l.set i (Sh.pt b (oc (cs.set o v) T))) → k w') : St P 1 (.pointer (some ⟨b, o, none⟩)) v w k := by
  have hsat := E.sat _ (List.mem_of_getElem? hm)
  have hr := run_store_cell (P := P) (v := v) (o := o) (fr := (0, 0)) hsat (by simpa using ho) (by simp) hv
  refine ⟨⟨b, o, none⟩, World.putOb w b (.cells (cs.toArray.setIfInBounds o v) T (0, 0)), rfl, by rw [cells_scal hv]; rfl, ?_, hk _ ?_⟩
  · rw [cells_scal hv]
    show (storeCells ⟨b, o, none⟩ [v]).run P w = _
    simp only [storeCells, Sem.run_bind]
    have : (⟨b, o, none⟩ : Addr).add 0 = ⟨b, o, none⟩ := rfl
    rw [this, hr]
    rfl
  · refine E.set i hm (Upd.putOb _) ?_ fun x hx => .inl hx
    have := putOb_at (o' := Obj.cells (cs.toArray.setIfInBounds o v) T (0, 0)) hsat
    show (World.putOb w b _).heap[b]? = some (oc (cs.set o v) T)
    rw [this]; simp [oc]

/-- Cells from o on replaced by vs. -/
def setCs : List Value → Nat → List Value → List Value
  | cs, _, [] => cs
  | cs, o, v :: vs => setCs (cs.set o v) (o + 1) vs
theorem setCs_length : ∀ (vs cs : List Value) (o : Nat), (setCs cs o vs).length = cs.length
  | [], _, _ => rfl
  | _ :: vs, cs, o => by rw [setCs, setCs_length vs]; simp
theorem storeCells_run {b : Nat} {T : TypeId} {fr : Nat × Nat} (a : Nat) : ∀ (vs : List Value) (cs : List Value) (i : Nat) (w : World), w.heap[b]? = some (ocf cs T fr) → Free fr cs.length → a + i + vs.length ≤ cs.length → vs.all scalV = true →
    ∃ w', (storeCells ⟨b, a, none⟩ vs i).run P w = .ok () w' ∧ w'.heap[b]? = some (ocf (setCs cs (a + i) vs) T fr) ∧ Upd (· = b) w w'
  | [], cs, i, w, h, _, _, _ => ⟨w, rfl, h, Upd.refl _ _⟩
  | v :: vs, cs, i, w, h, hfr, hl, hv => by
    simp only [List.all_cons, Bool.and_eq_true] at hv
    simp only [List.length_cons] at hl
    have hr := run_store_cell (P := P) (v := v) (o := a + i) (fr := fr) h (by simp; omega) (hfr _ (by omega)) hv.1
    have hat : (World.putOb w b (.cells (cs.toArray.setIfInBounds (a + i) v) T fr)).heap[b]? = some (ocf (cs.set (a + i) v) T fr) := by
      rw [putOb_at h]; simp [ocf]
    obtain ⟨w', h1, h2, h3⟩ := storeCells_run a vs (cs.set (a + i) v) (i + 1) _ hat (by simpa using hfr) (by simp; omega) hv.2
    refine ⟨w', ?_, by rw [setCs]; exact h2, (Upd.putOb _).trans h3⟩
    have hadd : (⟨b, a, none⟩ : Addr).add i = ⟨b, a + i, none⟩ := by
      unfold Addr.add; split
      · rename_i h0; subst h0; rfl
      · rfl
    simp only [storeCells, Sem.run_bind, hadd, hr, Result.andThen_ok]
    exact h1
theorem StA.pt {b o n : Nat} {cs : List Value} {T : TypeId} {vs : List Value} {k : World → Prop} (E : Hs w0 F w l) (i : Nat) (hm : l[i]? = some (Sh.pt b (oc cs T))) (hn : vs.length = n) (ho : o + n ≤ cs.length)
    (hv : vs.all scalV = true) (hk : ∀ w', Hs w0 F w' (l.set i (Sh.pt b (oc (setCs cs o vs) T))) → k w') : St P n (.pointer (some ⟨b, o, none⟩)) (.agg vs.toArray) w k := by
  have hsat := E.sat _ (List.mem_of_getElem? hm)
  obtain ⟨w', h1, h2, h3⟩ := storeCells_run (P := P) (b := b) (T := T) (fr := (0, 0)) o vs cs 0 w hsat (Free.zero _) (by omega) hv
  exact ⟨⟨b, o, none⟩, w', rfl, by simpa [Value.cells] using hn, by simpa [Value.cells] using h1, hk _ (E.set i hm h3 h2 fun x hx => .inl hx)⟩

theorem Al.pt {t : TypeId} {cs : List Value} {k : Value → World → Prop} (E : Hs w0 F w l)
    (hk : ∀ b w', w0.heap.size ≤ b → Hs w0 F w' (Sh.pt b (oc cs t) :: l) → k (.pointer (some ⟨b, 0, none⟩)) w') : Al t cs.toArray w k := by
  refine hk _ _ E.upd.size (E.add (Upd.alloc w _) ?_ fun x hx => by cases hx; exact Nat.le_refl _)
  show (w.alloc _).heap[w.heap.size]? = _
  rw [heap_alloc_new]; simp [oc]
end

/- The rest of the pure steps, told by what they come to. -/
section
theorem Nc.ptr {a : Addr} {k : Value → Prop} (h : k (.pointer (some a))) : Nc (.pointer (some a)) k := ⟨rfl, h⟩
theorem Fa.ptr {off b o : Nat} {k : Value → Prop} (h : k (.pointer (some ⟨b, o + off, none⟩))) : Fa off (.pointer (some ⟨b, o, none⟩)) k := by
  refine ⟨_, rfl, ?_⟩
  have : (⟨b, o, none⟩ : Addr).add off = ⟨b, o + off, none⟩ := by
    unfold Addr.add; split
    · rename_i h0; subst h0; rfl
    · rfl
  rw [this]; exact h
theorem Pk.mk {b : Bool} {x y : Value} {k : Value → Prop} (h : k (if b then x else y)) : Pk (.bool b) x y k := ⟨b, rfl, h⟩
theorem Ex.mk {vs : Array Value} {i : Nat} {v : Value} {k : Value → Prop} (hv : vs[i]? = some v) (h : k v) : Ex (.tuple vs) i k := ⟨vs, v, rfl, hv, h⟩
theorem Cnd.t {A B : Prop} (h : A) : Cnd (.bool true) A B := .inl ⟨rfl, h⟩
theorem Cnd.f {A B : Prop} (h : B) : Cnd (.bool false) A B := .inr ⟨rfl, h⟩
theorem Cnd.mk {b : Bool} {A B : Prop} (ht : b = true → A) (hf : b = false → B) : Cnd (.bool b) A B := by
  cases b
  · exact .inr ⟨rfl, hf rfl⟩
  · exact .inl ⟨rfl, ht rfl⟩
theorem Gd.t {op : (Value → World → Prop) → Prop} {w : World} {k : Value → World → Prop} (b : Bool) (h : op k) : Gd (.bool b) b op w k := .inl ⟨rfl, h⟩
theorem Gd.f {op : (Value → World → Prop) → Prop} {w : World} {k : Value → World → Prop} {b c : Bool} (hbc : b ≠ c) (h : k undef w) : Gd (.bool b) c op w k := .inr ⟨by simp [isB, hbc], h⟩
theorem Gd.mk {op : (Value → World → Prop) → Prop} {w : World} {k : Value → World → Prop} {b c : Bool} (ht : b = c → op k) (hf : b = !c → k undef w) : Gd (.bool b) c op w k := by
  by_cases h : b = c
  · subst h; exact .inl ⟨rfl, ht rfl⟩
  · exact .inr ⟨by simp [isB, h], hf (by cases b <;> cases c <;> simp_all)⟩
theorem Bi.mk {op : BinOp} {x y v : Value} {k : Value → Prop} (h : binV op x y = some v) (hk : k v) : Bi op x y k := ⟨v, h, hk⟩
theorem Beq.mk {neg a b : Bool} {k : Value → Prop} (h : k (.bool (if neg then !(a == b) else a == b))) : Beq neg (.bool a) (.bool b) k := ⟨a, b, rfl, rfl, h⟩
theorem Un.not {b : Bool} {k : Value → Prop} (h : k (.bool !b)) : Un .not (.bool b) k := ⟨_, rfl, h⟩
theorem Un.neg {kd : IntKind} {n : Int} {k : Value → Prop} (h : k (.int kd (kd.wrap (0 - n)))) : Un .neg (.int kd n) k := ⟨_, rfl, h⟩
theorem Cv.mk {kd kk : IntKind} {n : Int} {k : Value → Prop} (h : k (.int kd (kd.wrap n))) : Cv kd (.int kk n) k := ⟨kk, n, rfl, h⟩
theorem StrC.mk {s : ByteArray} {k : Value → Prop} (h : k (.string s)) : StrC (.string s) k := ⟨s, rfl, h⟩
theorem LnS.mk {s : ByteArray} {k : Value → Prop} (h : k (.int .i64 s.size)) : LnS (.string s) k := ⟨s, rfl, h⟩
theorem LnL.mk {a : Option Addr} {n c : Nat} {k : Value → Prop} (h : k (.int .i64 n)) : LnL (.slice a n c) k := ⟨a, n, c, rfl, h⟩
theorem Cp.mk {a : Option Addr} {n c : Nat} {k : Value → Prop} (h : k (.int .i64 c)) : Cp (.slice a n c) k := ⟨a, n, c, rfl, h⟩
theorem Mx.mk {kk : IntKind} {a b : Int} {k : Value → Prop} (h : k (.int kk (if b > a then b else a))) : Mx (.int kk a) (.int kk b) k := ⟨kk, a, b, rfl, rfl, h⟩
theorem Mn.mk {kk : IntKind} {a b : Int} {k : Value → Prop} (h : k (.int kk (if b < a then b else a))) : Mn (.int kk a) (.int kk b) k := ⟨kk, a, b, rfl, rfl, h⟩
theorem Fi.mk {off : Nat} {cs : Array Value} {v : Value} {k : Value → Prop} (hv : cs[off]? = some v) (h : k v) : Fi off (.agg cs) k := ⟨cs, v, rfl, hv, h⟩
theorem Bd.mk {z : Array Value} {pl : List (Nat × Nat)} {parts : List (Nat × Value)} {cs : Array Value} {k : Value → Prop} (hf : Instr.fill (pl[·]?) z parts = some cs) (h : k (.agg cs)) : Bd z pl parts k := ⟨cs, hf, h⟩
theorem Ca.mono {P : Program} {f : FuncId} {args : Array Value} {w : World} {k k' : Value → World → Prop} (h : Ca P f args w k) (hk : ∀ v w', k v w' → k' v w') : Ca P f args w k' :=
  Calls.mono h fun _ w' ⟨v, he, hv⟩ => ⟨v, he, hk v w' hv⟩
theorem CaV.mk {P : Program} {f : FuncId} {first cap args : Array Value} {w : World} {k : Value → World → Prop} (hb : hasBody P f = true) (h : Ca P f (first ++ args ++ cap) w k) : CaV P (.func (.func f) first cap) args w k :=
  .inl ⟨f, first, cap, rfl, hb, h⟩
theorem Rd.mk {α : Type} {P : Program} {s : Sem α} {w : World} {k : α → Prop} {v : α} (h : s.run P w = .ok v w) (hk : k v) : Rd P s w k := ⟨v, h, hk⟩
theorem Ef.mk {α : Type} {P : Program} {s : Sem α} {w w' : World} {k : α → World → Prop} {v : α} (h : s.run P w = .ok v w') (hk : k v w') : Ef P s w k := ⟨v, w', h, hk⟩
end

end Go.Sh
