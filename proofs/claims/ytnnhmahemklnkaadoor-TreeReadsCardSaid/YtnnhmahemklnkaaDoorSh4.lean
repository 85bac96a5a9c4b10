/-
  The shallow layer, part 4: a region whose order the model draws: one canonical order, its reads checked again behind each effect that they are not ordered with, stands for all.
-/
import Derived.Test.YtnnhmahemklnkaaDoorSh3
namespace Go.Sh
open Go

/-- One operation with its guard. -/
def gOp (P : Program) (ops : Array Oper) (o : Oper) (e : Env) (w : World) (k : Value → World → Prop) : Prop :=
  match o.guard with
  | none => opC P o (ev e) w k
  | some (j, want) => Gd (gval ops e j) want (opC P o (ev e) w) w k

/-- The plan of a drawn region: operations that leave the world alone as soon as they may; effects in every order that the edges leave open; behind an effect the operations whose value is checked again. -/
inductive DT where
  | done
  | none
  | calm (i : Nat) (t : DT)
  | eff1 (i : Nat) (chks : List Nat) (t : DT)
  | effs (i : Nat) (chks : List Nat) (t alt : DT)

def upd {α : Type} (f : Nat → α) (i : Nat) (x : α) : Nat → α := fun j => bif Nat.beq j i then x else f j
theorem upd_apply {α : Type} (f : Nat → α) (i : Nat) (x : α) (j : Nat) : upd f i x j = if j = i then x else f j := by
  unfold upd
  by_cases h : j = i
  · subst h; simp
  · have : Nat.beq j i = false := by
      cases hb : Nat.beq j i
      · rfl
      · exact absurd (Nat.eq_of_beq_eq_true hb) h
    simp [this, h]

def chkAll (P : Program) (ops : Array Oper) (sn : Nat → Env) (vl : Nat → Value) : List Nat → World → Prop → Prop
  | [], _, K => K
  | r :: rs, w, K => (match ops[r]? with
    | some o => gOp P ops o (sn r) w fun v _ => v = vl r
    | none => False) ∧ chkAll P ops sn vl rs w K

def drawC (P : Program) (ops : Array Oper) : DT → Env → (Nat → Env) → (Nat → Value) → (Env → World → Prop) → World → Prop
  | .done, e, _, _, k, w => k e w
  | .none, _, _, _, _, _ => True
  | .calm i t, e, sn, vl, k, w => match ops[i]? with
    | none => False
    | some o => gOp P ops o e w fun v w' => drawC P ops t (putO e o.dst v) (upd sn i e) (upd vl i v) k w'
  | .eff1 i chks t, e, sn, vl, k, w => match ops[i]? with
    | none => False
    | some o => gOp P ops o e w fun v w' => chkAll P ops sn vl chks w' (drawC P ops t (putO e o.dst v) (upd sn i e) (upd vl i v) k w')
  | .effs i chks t alt, e, sn, vl, k, w => (match ops[i]? with
    | none => False
    | some o => gOp P ops o e w fun v w' => chkAll P ops sn vl chks w' (drawC P ops t (putO e o.dst v) (upd sn i e) (upd vl i v) k w')) ∧ drawC P ops alt e sn vl k w

/-- What an operation reads: the slots of its operands, and its guard's. -/
def reads (ops : Array Oper) (o : Oper) : List Nat := o.looksAt ops
def writer (ops : Array Oper) (i t : Nat) : Bool := match ops[i]? with
  | some o => match o.dst with
    | some d => Nat.beq d t
    | none => false
  | none => false
def isCalm (P : Program) (ops : Array Oper) (i : Nat) : Bool := match ops[i]? with
  | some o => calm P o
  | none => false
def isWless (P : Program) (ops : Array Oper) (i : Nat) : Bool := match ops[i]? with
  | some o => wless P o
  | none => false
def readsAt (ops : Array Oper) (i : Nat) : List Nat := match ops[i]? with
  | some o => reads ops o
  | none => []

/-- 'A i' lists operations that come before i in every order. -/
def ancOk (ops : Array Oper) (A : List (List Nat)) : Bool :=
  (List.range ops.size).all fun i => match ops[i]? with
    | none => false
    | some o =>
      (o.after.toList.all fun e => !Region.binds .any e || Nat.blt e.on i) &&
      (A.getD i []).all fun j => o.after.toList.any fun e => Region.binds .any e && (Nat.beq e.on j || (A.getD e.on []).contains j)
def isAnc (A : List (List Nat)) (j i : Nat) : Bool := (A.getD i []).contains j
/-- No slot is written twice; a slot that one operation writes and another reads orders the two. -/
def ssaOk (ops : Array Oper) (A : List (List Nat)) : Bool :=
  (List.range ops.size).all fun i => (List.range ops.size).all fun j => Nat.beq i j ||
    ((match ops[i]? with | some o => (match o.dst with | some d => !writer ops j d | none => true) | none => true) &&
     (readsAt ops i).all fun t => !writer ops j t || isAnc A j i || isAnc A i j)
/-- Operation i may be done in the plan when C are done. -/
def addOk (ops : Array Oper) (A : List (List Nat)) (C : List Nat) (i : Nat) : Bool :=
  Nat.blt i ops.size && !C.contains i &&
  (List.range ops.size).all fun j => Nat.beq i j || (readsAt ops i).all fun t => !writer ops j t || (if isAnc A j i then C.contains j else !C.contains j)
/-- What is not among C waits for an effect that is not among C, or is among 'heads'. -/
def waits (P : Program) (ops : Array Oper) (A : List (List Nat)) (C heads : List Nat) : Bool :=
  (List.range ops.size).all fun i => C.contains i || heads.contains i || (A.getD i []).any fun f => !isCalm P ops f && !C.contains f
def chkOk (P : Program) (ops : Array Oper) (A : List (List Nat)) (C : List Nat) (f : Nat) (chks : List Nat) : Bool :=
  C.all fun r => isAnc A r f || !isCalm P ops r || isWless P ops r || chks.contains r
def DT.heads : DT → List Nat
  | .eff1 i _ _ => [i]
  | .effs i _ _ alt => i :: alt.heads
  | _ => []
def dtOk (P : Program) (ops : Array Oper) (A : List (List Nat)) : Bool → DT → List Nat → Bool
  | root, .done, C => root && (List.range ops.size).all fun i => C.contains i
  | root, .none, _ => !root
  | root, .calm i t, C => root && isCalm P ops i && addOk ops A C i && dtOk P ops A true t (i :: C)
  | root, .eff1 i chks t, C => root && !isCalm P ops i && addOk ops A C i && chkOk P ops A C i chks && waits P ops A C [i] && dtOk P ops A true t (i :: C)
  | root, .effs i chks t alt, C => (!root || waits P ops A C (i :: alt.heads)) && !isCalm P ops i && addOk ops A C i && chkOk P ops A C i chks && dtOk P ops A true t (i :: C) && dtOk P ops A false alt C

theorem gOp_mono {P : Program} {ops : Array Oper} {o : Oper} {e : Env} {w : World} {k k' : Value → World → Prop} (hk : ∀ v w', k v w' → k' v w') (h : gOp P ops o e w k) : gOp P ops o e w k' := by
  unfold gOp at h ⊢
  split at h
  · exact opC_mono hk h
  · rcases h with ⟨h1, h2⟩ | ⟨h1, h2⟩
    · exact .inl ⟨h1, opC_mono hk h2⟩
    · exact .inr ⟨h1, hk _ _ h2⟩

theorem gOp_calm {P : Program} {ops : Array Oper} {o : Oper} {e : Env} {w : World} {k : Value → World → Prop} (hc : calm P o = true) (h : gOp P ops o e w k) :
    ∃ v, k v w ∧ ∀ k' : Value → World → Prop, k' v w → gOp P ops o e w k' := by
  unfold gOp at h ⊢
  split at h
  · exact calm_spec hc h
  · rcases h with ⟨h1, h2⟩ | ⟨h1, h2⟩
    · obtain ⟨v, hv, hk⟩ := calm_spec hc h2
      exact ⟨v, hv, fun k' hk' => .inl ⟨h1, hk k' hk'⟩⟩
    · exact ⟨undef, h2, fun k' hk' => .inr ⟨h1, hk'⟩⟩

theorem gOp_wless {P : Program} {ops : Array Oper} {o : Oper} {e : Env} {w : World} {v : Value} (hc : wless P o = true) (h : gOp P ops o e w (fun v' _ => v' = v)) (w2 : World) :
    gOp P ops o e w2 (fun v' _ => v' = v) := by
  unfold gOp at h ⊢
  split at h
  · exact wless_spec hc h w2 rfl
  · rcases h with ⟨h1, h2⟩ | ⟨h1, h2⟩
    · exact .inl ⟨h1, wless_spec hc h2 w2 rfl⟩
    · exact .inr ⟨h1, h2⟩

/-- From the plan's operation to the machine's, the slots that it reads being alike. -/
theorem gOp_wp {P : Program} {ops : Array Oper} {i : Nat} {o : Oper} {e : Env} {a : Act} {w : World} {k : Value → World → Prop} {K : Act → World → Prop} {Q : Exit → Act → World → Prop}
    (hi : ops[i]? = some o) (hag : ∀ t ∈ reads ops o, a.tmps.getD t undef = e t) (hk : ∀ v w', k v w' → K (a.put o.dst v) w') (h : gOp P ops o e w k) {ro : Option Nat} {n : Nat} : wpOpIn (FW ro) n P ops Q i K a w := by
  have hop : opC P o (ev e) w k → o.wpIn (FW ro) n P a w K Q := fun h => by
    refine opC_sound (opC_congr (ρ' := a.eval) ?_ ?_ h) rfl hk
    · intro x hx
      cases x with
      | tmp t => exact (hag t (List.mem_append_left _ (List.mem_filterMap.2 ⟨.tmp t, by simpa using hx, rfl⟩))).symm
      | _ => rfl
    · intro f; rfl
  unfold wpOpIn
  simp only [hi]
  unfold gOp at h
  cases hg : o.guard with
  | none =>
    simp only [hg] at h
    have hw : Region.wanted o (yielded ops a.tmps) = true := by simp [Region.wanted, hg]
    rw [if_pos hw]
    exact hop h
  | some g =>
    obtain ⟨j, want⟩ := g
    simp only [hg] at h
    have hy : yielded ops a.tmps j = isB (gval ops e j) := by
      unfold yielded gval gslot
      cases hd : (ops[j]?).bind (·.dst) with
      | none => simp [isB, undef]
      | some d =>
        have hx := hag d (List.mem_append_right _ (by simp [hg, hd]))
        simp only [Option.bind_some]
        rw [← hx, Array.getD_eq_getD_getElem?]
        cases ht : a.tmps[d]? with
        | none => simp [isB, undef]
        | some v => cases v <;> simp [isB]
    rcases h with ⟨h1, h2⟩ | ⟨h1, h2⟩
    · have hw : Region.wanted o (yielded ops a.tmps) = true := by simp [Region.wanted, hg, hy, h1]
      rw [if_pos hw]
      exact hop h2
    · have hw : ¬ Region.wanted o (yielded ops a.tmps) = true := by simp [Region.wanted, hg, hy, h1]
      rw [if_neg hw]
      exact ⟨fun _ _ => trivial, hk _ _ h2⟩

section
variable (P : Program) (ops : Array Oper) (A : List (List Nat)) (N : Nat) (ds : List Deferred) (e0 : Env) (k : Env → World → Prop)

structure Inv (T : DT) (C : List Nat) (e : Env) (sn : Nat → Env) (vl : Nat → Value) (D : Nat → Prop) (a : Act) (w : World) : Prop where
  ok : dtOk P ops A true T C = true
  can : drawC P ops T e sn vl k w
  sub : ∀ i, D i → i ∈ C
  lt : ∀ i, i ∈ C → i < ops.size
  eff : ∀ i, i ∈ C → isCalm P ops i = false → D i
  down : ∀ i, D i → ∀ o, ops[i]? = some o → ∀ ed ∈ o.after, Region.binds .any ed = true → D ed.on
  size : a.tmps.size = N
  defers : a.defers = ds
  act : ∀ t, (∀ i, D i → writer ops i t = true → a.tmps.getD t undef = vl i) ∧ ((∀ i, D i → writer ops i t = false) → a.tmps.getD t undef = e0 t)
  env : ∀ t, (∀ i, i ∈ C → writer ops i t = true → e t = vl i) ∧ ((∀ i, i ∈ C → writer ops i t = false) → e t = e0 t)
  snap : ∀ i, i ∈ C → ∀ t, t ∈ readsAt ops i → (∀ j, j ≠ i → writer ops j t = true → isAnc A j i = true → j ∈ C ∧ sn i t = vl j) ∧
    ((∀ j, j ≠ i → writer ops j t = true → isAnc A j i = false) → sn i t = e0 t)
  pend : ∀ i, i ∈ C → ¬ D i → ∃ o, ops[i]? = some o ∧ gOp P ops o (sn i) w fun v _ => v = vl i
end

section
variable {P : Program} {ops : Array Oper} {A : List (List Nat)} {N : Nat} {ds : List Deferred} {e0 : Env} {k : Env → World → Prop}

theorem writer_lt {i t : Nat} (h : writer ops i t = true) : i < ops.size := by
  unfold writer at h
  cases hi : ops[i]? with
  | none => rw [hi] at h; cases h
  | some o => exact (Array.getElem?_eq_some_iff.1 hi).1

theorem ancOk_spec (h : ancOk ops A = true) {i : Nat} {o : Oper} (hi : ops[i]? = some o) :
    (∀ ed ∈ o.after, Region.binds .any ed = true → ed.on < i) ∧
    ∀ j, isAnc A j i = true → ∃ ed ∈ o.after, Region.binds .any ed = true ∧ (ed.on = j ∨ isAnc A j ed.on = true) := by
  have hlt : i < ops.size := (Array.getElem?_eq_some_iff.1 hi).1
  have := (List.all_eq_true.1 h) i (List.mem_range.2 hlt)
  simp only [hi, Bool.and_eq_true] at this
  obtain ⟨h1, h2⟩ := this
  constructor
  · intro ed hed hb
    have := (List.all_eq_true.1 h1) ed (by simpa using hed)
    simp only [hb, Bool.not_true, Bool.false_or] at this
    exact by have := Nat.le_of_ble_eq_true this; omega
  · intro j hj
    unfold isAnc at hj
    have := (List.all_eq_true.1 h2) j (by simpa using hj)
    obtain ⟨ed, hed, hh⟩ := List.any_eq_true.1 this
    simp only [Bool.and_eq_true, Bool.or_eq_true] at hh
    refine ⟨ed, by simpa using hed, hh.1, ?_⟩
    rcases hh.2 with h3 | h3
    · exact .inl (Nat.eq_of_beq_eq_true h3)
    · exact .inr (by unfold isAnc; exact h3)

theorem anc_done (hA : ancOk ops A = true) {D : Nat → Prop} (down : ∀ i, D i → ∀ o, ops[i]? = some o → ∀ ed ∈ o.after, Region.binds .any ed = true → D ed.on) :
    ∀ (i : Nat) (o : Oper), ops[i]? = some o → (∀ ed ∈ o.after, Region.binds .any ed = true → D ed.on) → ∀ j, isAnc A j i = true → D j := by
  intro i
  induction i using Nat.strongRecOn with
  | _ i ih =>
    intro o hi hd j hj
    obtain ⟨hlt, hex⟩ := ancOk_spec hA hi
    obtain ⟨ed, hed, hb, h⟩ := hex j hj
    rcases h with rfl | h
    · exact hd ed hed hb
    · have hDk := hd ed hed hb
      have hk := hlt ed hed hb
      have hik : i < ops.size := (Array.getElem?_eq_some_iff.1 hi).1
      have ho : ops[ed.on]? = some ops[ed.on] := Array.getElem?_eq_getElem (by omega)
      exact ih ed.on hk _ ho (down _ hDk _ ho) j h

theorem ssa_one (hs : ssaOk ops A = true) {i j t : Nat} (hi : writer ops i t = true) (hj : writer ops j t = true) : i = j := by
  by_cases hne : i = j
  · exact hne
  · exfalso
    have h := (List.all_eq_true.1 ((List.all_eq_true.1 hs) i (List.mem_range.2 (writer_lt hi)))) j (List.mem_range.2 (writer_lt hj))
    simp only [Bool.or_eq_true, Bool.and_eq_true] at h
    rcases h with h | h
    · exact hne (Nat.eq_of_beq_eq_true h)
    · have h1 := h.1
      unfold writer at hi
      cases ho : ops[i]? with
      | none => rw [ho] at hi; cases hi
      | some o =>
        rw [ho] at hi h1
        simp only at hi h1
        cases hd : o.dst with
        | none => rw [hd] at hi; cases hi
        | some d =>
          rw [hd] at hi h1
          simp only at hi h1
          have := Nat.eq_of_beq_eq_true hi
          subst this
          rw [hj] at h1; cases h1

theorem ssa_order (hs : ssaOk ops A = true) {i j t : Nat} (hne : i ≠ j) (hi : i < ops.size) (ht : t ∈ readsAt ops i) (hj : writer ops j t = true) : isAnc A j i = true ∨ isAnc A i j = true := by
  have h := (List.all_eq_true.1 ((List.all_eq_true.1 hs) i (List.mem_range.2 hi))) j (List.mem_range.2 (writer_lt hj))
  simp only [Bool.or_eq_true, Bool.and_eq_true] at h
  rcases h with h | h
  · exact absurd (Nat.eq_of_beq_eq_true h) hne
  · have := (List.all_eq_true.1 h.2) t ht
    simp only [hj, Bool.not_true, Bool.false_or, Bool.or_eq_true] at this
    exact this

theorem addOk_spec {C : List Nat} {i : Nat} (h : addOk ops A C i = true) : i < ops.size ∧ i ∉ C ∧
    ∀ j t, j ≠ i → t ∈ readsAt ops i → writer ops j t = true → if isAnc A j i = true then j ∈ C else j ∉ C := by
  unfold addOk at h
  simp only [Bool.and_eq_true] at h
  obtain ⟨⟨h1, h2⟩, h3⟩ := h
  refine ⟨by have := Nat.le_of_ble_eq_true h1; omega, by simpa using h2, ?_⟩
  intro j t hne ht hw
  have := (List.all_eq_true.1 h3) j (List.mem_range.2 (writer_lt hw))
  simp only [Bool.or_eq_true] at this
  rcases this with h | h
  · exact absurd (Nat.eq_of_beq_eq_true h).symm hne
  · have := (List.all_eq_true.1 h) t ht
    simp only [hw, Bool.not_true, Bool.false_or] at this
    by_cases ha : isAnc A j i = true
    · rw [if_pos ha] at this ⊢; simpa using this
    · rw [if_neg ha] at this ⊢; simpa using this

theorem putO_apply (e : Env) (o : Oper) (i : Nat) (hi : ops[i]? = some o) (v : Value) (t : Nat) : putO e o.dst v t = if writer ops i t = true then v else e t := by
  unfold writer
  simp only [hi]
  cases hd : o.dst with
  | none => simp [putO]
  | some d =>
    simp only [putO, put_apply]
    by_cases h : t = d
    · subst h; simp
    · have : Nat.beq d t = false := by
        cases hb : Nat.beq d t
        · rfl
        · exact absurd (Nat.eq_of_beq_eq_true hb).symm h
      simp [this, h]

theorem actPut_apply (a : Act) (o : Oper) (i : Nat) (hi : ops[i]? = some o) (v : Value) (hd : ∀ d, o.dst = some d → d < a.tmps.size) (t : Nat) :
    (a.put o.dst v).tmps.getD t undef = if writer ops i t = true then v else a.tmps.getD t undef := by
  unfold writer
  simp only [hi]
  cases ho : o.dst with
  | none => simp [Act.put]
  | some d =>
    have hlt := hd d ho
    simp only [Act.put, Array.getD_eq_getD_getElem?]
    rw [Array.getElem?_setIfInBounds]
    by_cases h : d = t
    · subst h; simp [hlt]
    · have : Nat.beq d t = false := by
        cases hb : Nat.beq d t
        · rfl
        · exact absurd (Nat.eq_of_beq_eq_true hb) h
      simp [this, h]

theorem mem_readsAt {i : Nat} {o : Oper} (hi : ops[i]? = some o) : readsAt ops i = reads ops o := by unfold readsAt; rw [hi]

/-- The plan goes on through operations that leave the world alone. -/
theorem Inv.norm (hs : ssaOk ops A = true) {T : DT} : ∀ {C : List Nat} {e : Env} {sn : Nat → Env} {vl : Nat → Value} {D : Nat → Prop} {a : Act} {w : World}, Inv P ops A N ds e0 k T C e sn vl D a w →
    ∃ T' C' e' sn' vl', Inv P ops A N ds e0 k T' C' e' sn' vl' D a w ∧ (∀ i t, T' ≠ .calm i t) := by
  induction T with
  | calm i t ih =>
    intro C e sn vl D a w I
    have hok := I.ok
    simp only [dtOk, Bool.and_eq_true] at hok
    obtain ⟨⟨⟨_, hcalm⟩, hadd⟩, hrest⟩ := hok
    obtain ⟨hlt, hni, hw⟩ := addOk_spec hadd
    have ho : ops[i]? = some ops[i] := Array.getElem?_eq_getElem hlt
    have hcan := I.can
    simp only [drawC, ho] at hcan
    have hc : calm P ops[i] = true := by unfold isCalm at hcalm; rw [ho] at hcalm; exact hcalm
    obtain ⟨v, hv, hall⟩ := gOp_calm hc hcan
    have hne : ∀ {x}, x ∈ C → x ≠ i := fun hx h => hni (h ▸ hx)
    refine ih (C := i :: C) (e := putO e ops[i].dst v) (sn := upd sn i e) (vl := upd vl i v) ⟨hrest, hv, fun x hx => List.mem_cons_of_mem _ (I.sub x hx), ?_, ?_, I.down, I.size, I.defers, ?_, ?_, ?_, ?_⟩
    · intro x hx
      rcases List.mem_cons.1 hx with rfl | hx
      · exact hlt
      · exact I.lt x hx
    · intro x hx hcx
      rcases List.mem_cons.1 hx with rfl | hx
      · rw [hcalm] at hcx; cases hcx
      · exact I.eff x hx hcx
    · intro t'
      refine ⟨fun x hx hwx => ?_, (I.act t').2⟩
      rw [upd_apply, if_neg (hne (I.sub x hx))]
      exact (I.act t').1 x hx hwx
    · intro t'
      rw [putO_apply e _ i ho v t']
      refine ⟨fun x hx hwx => ?_, fun hnone => ?_⟩
      · rcases List.mem_cons.1 hx with rfl | hx
        · rw [if_pos hwx, upd_apply, if_pos rfl]
        · have hxi : x ≠ i := hne hx
          have : ¬ writer ops i t' = true := fun h => hxi (ssa_one hs hwx h)
          rw [if_neg this, upd_apply, if_neg hxi]
          exact (I.env t').1 x hx hwx
      · have h0 := hnone i (by simp)
        rw [if_neg (by simp [h0])]
        exact (I.env t').2 fun x hx => hnone x (List.mem_cons_of_mem _ hx)
    · intro x hx t' ht'
      rcases List.mem_cons.1 hx with rfl | hx
      · refine ⟨fun j hj hwj haj => ?_, fun hnone => ?_⟩
        · have := hw j t' hj ht' hwj
          rw [if_pos haj] at this
          refine ⟨List.mem_cons_of_mem _ this, ?_⟩
          rw [upd_apply, if_pos rfl, upd_apply, if_neg hj]
          exact (I.env t').1 j this hwj
        · rw [upd_apply, if_pos rfl]
          refine (I.env t').2 fun j hj => ?_
          cases hwj : writer ops j t' with
          | false => rfl
          | true =>
            have hji : j ≠ x := fun h => hni (h ▸ hj)
            have := hw j t' hji ht' hwj
            rw [if_neg (by simp [hnone j hji hwj])] at this
            exact absurd hj this
      · have hxi : x ≠ i := hne hx
        obtain ⟨s1, s2⟩ := I.snap x hx t' ht'
        refine ⟨fun j hj hwj haj => ?_, fun hnone => ?_⟩
        · obtain ⟨hjC, hsn⟩ := s1 j hj hwj haj
          refine ⟨List.mem_cons_of_mem _ hjC, ?_⟩
          rw [upd_apply, if_neg hxi, upd_apply, if_neg (hne hjC)]
          exact hsn
        · rw [upd_apply, if_neg hxi]
          exact s2 hnone
    · intro x hx hnd
      rcases List.mem_cons.1 hx with rfl | hx
      · refine ⟨_, ho, ?_⟩
        simp only [upd_apply, if_true]
        exact hall _ rfl
      · obtain ⟨o, h1, h2⟩ := I.pend x hx hnd
        refine ⟨o, h1, ?_⟩
        simp only [upd_apply, if_neg (hne hx)]
        exact h2
  | done => intro C e sn vl D a w I; exact ⟨_, _, _, _, _, I, fun _ _ h => by cases h⟩
  | none => intro C e sn vl D a w I; exact ⟨_, _, _, _, _, I, fun _ _ h => by cases h⟩
  | eff1 i c t ih => intro C e sn vl D a w I; exact ⟨_, _, _, _, _, I, fun _ _ h => by cases h⟩
  | effs i c t alt ih1 ih2 => intro C e sn vl D a w I; exact ⟨_, _, _, _, _, I, fun _ _ h => by cases h⟩

/-- The branch of the plan that an effect takes. -/
theorem branch {C : List Nat} {e : Env} {sn : Nat → Env} {vl : Nat → Value} {w : World} {i : Nat} : ∀ {T : DT} {root : Bool}, dtOk P ops A root T C = true → drawC P ops T e sn vl k w → i ∈ T.heads →
    ∃ chks t, isCalm P ops i = false ∧ addOk ops A C i = true ∧ chkOk P ops A C i chks = true ∧ dtOk P ops A true t (i :: C) = true ∧
      ∀ o, ops[i]? = some o → gOp P ops o e w fun v w' => chkAll P ops sn vl chks w' (drawC P ops t (putO e o.dst v) (upd sn i e) (upd vl i v) k w') := by
  intro T
  induction T with
  | done => intro root _ _ h; cases h
  | none => intro root _ _ h; cases h
  | calm j t ih => intro root _ _ h; cases h
  | eff1 j c t ih =>
    intro root hok hc h
    simp only [DT.heads, List.mem_singleton] at h
    subst h
    simp only [dtOk, Bool.and_eq_true, Bool.not_eq_true'] at hok
    obtain ⟨⟨⟨⟨⟨_, h1⟩, h2⟩, h3⟩, _⟩, h4⟩ := hok
    refine ⟨c, t, h1, h2, h3, h4, fun o ho => ?_⟩
    simp only [drawC, ho] at hc
    exact hc
  | effs j c t alt ih1 ih2 =>
    intro root hok hc h
    simp only [dtOk, Bool.and_eq_true, Bool.not_eq_true'] at hok
    obtain ⟨⟨⟨⟨⟨_, h1⟩, h2⟩, h3⟩, h4⟩, h5⟩ := hok
    simp only [DT.heads, List.mem_cons] at h
    rcases h with rfl | h
    · refine ⟨c, t, h1, h2, h3, h4, fun o ho => ?_⟩
      simp only [drawC, ho] at hc
      exact hc.1
    · simp only [drawC] at hc
      exact ih2 h5 hc.2 h

theorem chkAll_spec {sn : Nat → Env} {vl : Nat → Value} {w : World} {K : Prop} : ∀ {chks : List Nat}, chkAll P ops sn vl chks w K → K ∧ ∀ r ∈ chks, ∃ o, ops[r]? = some o ∧ gOp P ops o (sn r) w fun v _ => v = vl r := by
  intro chks
  induction chks with
  | nil => exact fun h => ⟨h, fun r hr => by cases hr⟩
  | cons r rs ih =>
    intro h
    obtain ⟨h1, h2⟩ := h
    obtain ⟨hK, hall⟩ := ih h2
    refine ⟨hK, fun x hx => ?_⟩
    rcases List.mem_cons.1 hx with rfl | hx
    · cases ho : ops[x]? with
      | none => rw [ho] at h1; exact h1.elim
      | some o => rw [ho] at h1; exact ⟨o, rfl, h1⟩
    · exact hall x hx

theorem getD_set {listed : Array Bool} {i j : Nat} (hi : i < listed.size) : (listed.setIfInBounds i true).getD j false = true ↔ j = i ∨ listed.getD j false = true := by
  simp only [Array.getD_eq_getD_getElem?]
  rw [Array.getElem?_setIfInBounds]
  by_cases h : i = j
  · subst h; simp [hi]
  · have : ¬ j = i := fun hh => h hh.symm
    simp [h, this]

theorem countP_flip {i : Nat} {p q : Nat → Bool} (hp : p i = true) (hq : q i = false) (h : ∀ j, j ≠ i → q j = p j) : ∀ {l : List Nat}, l.Nodup → i ∈ l → l.countP p = l.countP q + 1
  | [], _, hm => by cases hm
  | x :: r, hn, hm => by
    have hn' := List.nodup_cons.1 hn
    rw [List.countP_cons, List.countP_cons]
    by_cases hx : x = i
    · subst hx
      have : r.countP p = r.countP q := by
        refine List.countP_congr fun j hj => ?_
        rw [h j (fun hh => hn'.1 (hh ▸ hj))]
      simp [hp, hq, this]
    · have hm' : i ∈ r := by rcases List.mem_cons.1 hm with hh | hh; exact absurd hh.symm hx; exact hh
      have := countP_flip hp hq h hn'.2 hm'
      rw [this, h x hx]
      omega

theorem act_step (hs : ssaOk ops A = true) {D D' : Nat → Prop} {vl vl' : Nat → Value} {a : Act} {o : Oper} {i : Nat} (hi : ops[i]? = some o) (hd : ∀ d, o.dst = some d → d < a.tmps.size)
    (hD : ∀ x, D' x ↔ x = i ∨ D x) (hni : ¬ D i) (hv : ∀ x, D x → vl' x = vl x) {v : Value} (hvi : vl' i = v)
    (h : ∀ t, (∀ x, D x → writer ops x t = true → a.tmps.getD t undef = vl x) ∧ ((∀ x, D x → writer ops x t = false) → a.tmps.getD t undef = e0 t)) :
    ∀ t, (∀ x, D' x → writer ops x t = true → (a.put o.dst v).tmps.getD t undef = vl' x) ∧ ((∀ x, D' x → writer ops x t = false) → (a.put o.dst v).tmps.getD t undef = e0 t) := by
  intro t
  rw [actPut_apply a o i hi v hd t]
  refine ⟨fun x hx hw => ?_, fun hnone => ?_⟩
  · rcases (hD x).1 hx with rfl | hx
    · rw [if_pos hw, hvi]
    · have hne : x ≠ i := fun hh => hni (hh ▸ hx)
      rw [if_neg (fun hh => hne (ssa_one hs hw hh)), hv x hx]
      exact (h t).1 x hx hw
  · rw [if_neg (by simp [hnone i ((hD i).2 (.inl rfl))])]
    exact (h t).2 fun x hx => hnone x ((hD x).2 (.inr hx))

theorem ready_spec {listed : Array Bool} (hsz : listed.size = ops.size) {i : Nat} (h : i ∈ Region.ready .any ops listed) :
    ¬ listed.getD i false = true ∧ ∃ o, ops[i]? = some o ∧ ∀ ed ∈ o.after, Region.binds .any ed = true → listed.getD ed.on false = true := by
  obtain ⟨h1, o, ho, h2⟩ := mem_ready.1 h
  refine ⟨?_, o, ho, h2⟩
  have hlt : i < listed.size := by rw [hsz]; exact (Array.getElem?_eq_some_iff.1 ho).1
  intro hh
  simp [Array.getD_eq_getD_getElem?, Array.getElem?_eq_getElem hlt] at h1 hh
  rw [h1] at hh; cases hh

theorem all_listed (hA : ancOk ops A = true) {listed : Array Bool} (hsz : listed.size = ops.size) (h : Region.ready .any ops listed = []) : ∀ i, i < ops.size → listed.getD i false = true := by
  intro i
  induction i using Nat.strongRecOn with
  | _ i ih =>
    intro hlt
    cases hb : listed.getD i false with
    | true => rfl
    | false =>
      exfalso
      have ho : ops[i]? = some ops[i] := Array.getElem?_eq_getElem hlt
      have : i ∈ Region.ready .any ops listed := mem_ready.2 ⟨by
        simp [Array.getD_eq_getD_getElem?, Array.getElem?_eq_getElem (by omega : i < listed.size)] at hb ⊢; exact hb, ops[i], ho, fun ed hed hbd => by
        have := (ancOk_spec hA ho).1 ed hed hbd
        exact ih ed.on this (by omega)⟩
      rw [h] at this; cases this

theorem Inv.finish {T : DT} {C : List Nat} {e : Env} {sn : Nat → Env} {vl : Nat → Value} {D : Nat → Prop} {a : Act} {w : World} (I : Inv P ops A N ds e0 k T C e sn vl D a w)
    (hnc : ∀ i t, T ≠ .calm i t) (hall : ∀ i, i < ops.size → D i) : Rel N ds a e ∧ k e w := by
  have hC : ∀ i, i < ops.size → i ∈ C := fun i hi => I.sub i (hall i hi)
  refine ⟨⟨I.size, fun t => ?_, I.defers⟩, ?_⟩
  · by_cases hex : ∃ j, writer ops j t = true
    · obtain ⟨j, hj⟩ := hex
      have hlt := writer_lt hj
      rw [(I.act t).1 j (hall j hlt) hj, (I.env t).1 j (hC j hlt) hj]
    · have hno : ∀ j, writer ops j t = false := fun j => by
        cases hj : writer ops j t with
        | false => rfl
        | true => exact absurd ⟨j, hj⟩ hex
      rw [(I.act t).2 fun j _ => hno j, (I.env t).2 fun j _ => hno j]
  · have hok := I.ok
    cases T with
    | done => exact I.can
    | none => simp [dtOk] at hok
    | calm i t => exact absurd rfl (hnc i t)
    | eff1 i c t =>
      simp only [dtOk, Bool.and_eq_true] at hok
      obtain ⟨h1, h2, _⟩ := addOk_spec hok.1.1.1.2
      exact absurd (hC i h1) h2
    | effs i c t alt =>
      simp only [dtOk, Bool.and_eq_true] at hok
      obtain ⟨h1, h2, _⟩ := addOk_spec hok.1.1.1.2
      exact absurd (hC i h1) h2

theorem draw_sound (hA : ancOk ops A = true) (hs : ssaOk ops A = true) (hN : dstsOk N ops.toList = true) {Q : Exit → Act → World → Prop} {ro : Option Nat} {n : Nat}
    (hk : ∀ e' a' w', Rel N ds a' e' → k e' w' → Q .normal a' w') :
    ∀ (fuel : Nat) (listed : Array Bool), listed.size = ops.size → ((List.range ops.size).countP fun i => !listed.getD i false) = fuel →
      ∀ {T : DT} {C : List Nat} {e : Env} {sn : Nat → Env} {vl : Nat → Value} {a : Act} {w : World}, Inv P ops A N ds e0 k T C e sn vl (fun i => listed.getD i false = true) a w →
        wpAnyIn (FW ro) n P .any ops Q fuel listed a w := by
  have hdst : ∀ (i : Nat) (o : Oper), ops[i]? = some o → ∀ d, o.dst = some d → d < N := by
    intro i o hi d hd
    have hmem : o ∈ ops.toList := by simpa using Array.mem_of_getElem? hi
    have key : ∀ l : List Oper, dstsOk N l = true → o ∈ l → d < N := by
      intro l
      induction l with
      | nil => intro _ h; cases h
      | cons x r ih =>
        intro hl hm
        simp only [dstsOk, Bool.and_eq_true] at hl
        rcases List.mem_cons.1 hm with rfl | hm
        · have h1 := hl.1; rw [hd] at h1; exact Nat.le_of_ble_eq_true h1
        · exact ih hl.2 hm
    exact key _ hN hmem
  have fin : ∀ (listed : Array Bool), listed.size = ops.size → ∀ {T : DT} {C : List Nat} {e : Env} {sn : Nat → Env} {vl : Nat → Value} {a : Act} {w : World},
      Inv P ops A N ds e0 k T C e sn vl (fun i => listed.getD i false = true) a w → Region.ready .any ops listed = [] → Q .normal a w := by
    intro listed hsz T C e sn vl a w I hr
    obtain ⟨T', C', e', sn', vl', I', hnc⟩ := I.norm hs
    obtain ⟨h1, h2⟩ := I'.finish hnc (all_listed hA hsz hr)
    exact hk _ _ _ h1 h2
  intro fuel
  induction fuel with
  | zero =>
    intro listed hsz hcnt T C e sn vl a w I
    have hr : Region.ready .any ops listed = [] := by
      refine List.eq_nil_iff_forall_not_mem.2 fun i hi => ?_
      obtain ⟨h1, o, ho, _⟩ := ready_spec hsz hi
      have hlt := (Array.getElem?_eq_some_iff.1 ho).1
      have := List.countP_eq_zero.1 hcnt i (List.mem_range.2 hlt)
      simp at this
      exact h1 (by simpa using this)
    exact ⟨hr, fin listed hsz I hr⟩
  | succ fuel ih =>
    intro listed hsz hcnt T C e sn vl a w I
    refine ⟨fin listed hsz I, fun i hi => ?_⟩
    obtain ⟨T, C, e, sn, vl, I, hnc⟩ := I.norm hs
    obtain ⟨hnd, o, ho, hpre⟩ := ready_spec hsz hi
    have hlt := (Array.getElem?_eq_some_iff.1 ho).1
    have hll : i < listed.size := by omega
    have hD : ∀ x, (listed.setIfInBounds i true).getD x false = true ↔ x = i ∨ listed.getD x false = true := fun x => getD_set hll
    have hsz' : (listed.setIfInBounds i true).size = ops.size := by simp [hsz]
    have hcnt' : ((List.range ops.size).countP fun j => !(listed.setIfInBounds i true).getD j false) = fuel := by
      have := countP_flip (i := i) (p := fun j => !listed.getD j false) (q := fun j => !(listed.setIfInBounds i true).getD j false) (by simpa using hnd)
        (by simp [(hD i).2 (.inl rfl)]) (fun j hj => by
          have : ((listed.setIfInBounds i true).getD j false = true) ↔ (listed.getD j false = true) := ⟨fun h => ((hD j).1 h).resolve_left hj, fun h => (hD j).2 (.inr h)⟩
          have := Bool.eq_iff_iff.2 this
          rw [this]) (List.nodup_range (n := ops.size)) (List.mem_range.2 hlt)
      omega
    have hanc : ∀ j, isAnc A j i = true → listed.getD j false = true := anc_done hA I.down i o ho hpre
    have hdb : ∀ d, o.dst = some d → d < a.tmps.size := fun d hd => by rw [I.size]; exact hdst i o ho d hd
    have hdown : ∀ x, (listed.setIfInBounds i true).getD x false = true → ∀ o', ops[x]? = some o' → ∀ ed ∈ o'.after, Region.binds .any ed = true → (listed.setIfInBounds i true).getD ed.on false = true := by
      intro x hx o' ho' ed hed hb
      rcases (hD x).1 hx with rfl | hx
      · rw [ho] at ho'; cases ho'
        exact (hD _).2 (.inr (hpre ed hed hb))
      · exact (hD _).2 (.inr (I.down x hx o' ho' ed hed hb))
    have hsize' : ∀ v, (a.put o.dst v).tmps.size = N := fun v => by
      cases hod : o.dst with
      | none => simpa [Act.put] using I.size
      | some d => simpa [Act.put] using I.size
    have hdef' : ∀ v, (a.put o.dst v).defers = ds := fun v => by
      cases hod : o.dst with
      | none => simpa [Act.put] using I.defers
      | some d => simpa [Act.put] using I.defers
    by_cases hC : i ∈ C
    · -- a pending operation that leaves the world alone
      have hcalm : calm P o = true := by
        cases hcc : isCalm P ops i with
        | false => exact absurd (I.eff i hC hcc) hnd
        | true => unfold isCalm at hcc; rw [ho] at hcc; exact hcc
      obtain ⟨o', ho', hp⟩ := I.pend i hC hnd
      rw [ho] at ho'; cases ho'
      obtain ⟨v, hv, hall⟩ := gOp_calm hcalm hp
      subst hv
      refine gOp_wp ho (e := sn i) ?_ ?_ (hall (fun v' w' => v' = vl i ∧ w' = w) ⟨rfl, rfl⟩)
      · intro t ht
        rw [← mem_readsAt ho] at ht
        obtain ⟨s1, s2⟩ := I.snap i hC t ht
        by_cases hex : ∃ j, j ≠ i ∧ writer ops j t = true ∧ isAnc A j i = true
        · obtain ⟨j, h1, h2, h3⟩ := hex
          rw [(s1 j h1 h2 h3).2]
          exact (I.act t).1 j (hanc j h3) h2
        · rw [s2 fun j h1 h2 => by
            cases h3 : isAnc A j i with
            | false => rfl
            | true => exact absurd ⟨j, h1, h2, h3⟩ hex]
          refine (I.act t).2 fun j hj => ?_
          cases h2 : writer ops j t with
          | false => rfl
          | true =>
            exfalso
            have h1 : j ≠ i := fun hh => hnd (hh ▸ hj)
            rcases ssa_order hs (Ne.symm h1) hlt ht h2 with h3 | h3
            · exact hex ⟨j, h1, h2, h3⟩
            · have hjo : ops[j]? = some (ops[j]'(writer_lt h2)) := Array.getElem?_eq_getElem (writer_lt h2)
              exact hnd (anc_done hA I.down j _ hjo (I.down j hj _ hjo) i h3)
      · rintro v' w' ⟨rfl, rfl⟩
        refine ih _ hsz' hcnt' (T := T) (C := C) (e := e) (sn := sn) (vl := vl) ⟨I.ok, I.can, ?_, I.lt, ?_, hdown, hsize' _, hdef' _, ?_, I.env, I.snap, ?_⟩
        · intro x hx
          rcases (hD x).1 hx with rfl | hx
          · exact hC
          · exact I.sub x hx
        · intro x hx hcx; exact (hD x).2 (.inr (I.eff x hx hcx))
        · exact act_step hs ho hdb hD hnd (fun _ _ => rfl) rfl I.act
        · intro x hx hnx
          exact I.pend x hx fun h => hnx ((hD x).2 (.inr h))
    · -- an effect
      have hheads : i ∈ T.heads := by
        have hok := I.ok
        have hw : ∀ heads, waits P ops A C heads = true → i ∈ heads := by
          intro heads hw
          have := (List.all_eq_true.1 hw) i (List.mem_range.2 hlt)
          simp only [Bool.or_eq_true] at this
          rcases this with (h | h) | h
          · exact absurd (by simpa using h) hC
          · simpa using h
          · obtain ⟨f, hf, hh⟩ := List.any_eq_true.1 h
            simp only [Bool.and_eq_true, Bool.not_eq_true'] at hh
            have hDf := hanc f (by unfold isAnc; simpa using hf)
            have := I.sub f hDf
            exact absurd this (by simpa using hh.2)
        cases T with
        | done =>
          simp only [dtOk, Bool.true_and] at hok
          have := (List.all_eq_true.1 hok) i (List.mem_range.2 hlt)
          exact absurd (by simpa using this) hC
        | none => simp [dtOk] at hok
        | calm j t => exact absurd rfl (hnc j t)
        | eff1 j c t =>
          simp only [dtOk, Bool.and_eq_true] at hok
          exact hw _ hok.1.2
        | effs j c t alt =>
          simp only [dtOk, Bool.and_eq_true, Bool.not_true, Bool.false_or] at hok
          exact hw _ hok.1.1.1.1.1
      obtain ⟨chks, t', hnot, hadd, hchk, hok', hg⟩ := branch I.ok I.can hheads
      obtain ⟨_, _, hwr⟩ := addOk_spec hadd
      have hne : ∀ {x}, x ∈ C → x ≠ i := fun hx h => hC (h ▸ hx)
      refine gOp_wp ho (e := e) ?_ ?_ (hg o ho)
      · intro t ht
        rw [← mem_readsAt ho] at ht
        by_cases hex : ∃ j, j ≠ i ∧ writer ops j t = true ∧ isAnc A j i = true
        · obtain ⟨j, h1, h2, h3⟩ := hex
          have hjC := hwr j t h1 ht h2
          rw [if_pos h3] at hjC
          rw [(I.env t).1 j hjC h2]
          exact (I.act t).1 j (hanc j h3) h2
        · have hno : ∀ j, j ∈ C → writer ops j t = false := fun j hj => by
            cases h2 : writer ops j t with
            | false => rfl
            | true =>
              have h1 := hne hj
              have hjC := hwr j t h1 ht h2
              rw [if_neg fun h3 => hex ⟨j, h1, h2, h3⟩] at hjC
              exact absurd hj hjC
          rw [(I.env t).2 hno]
          exact (I.act t).2 fun j hj => hno j (I.sub j hj)
      · intro v w' hcont
        obtain ⟨hcan, hchks⟩ := chkAll_spec hcont
        refine ih _ hsz' hcnt' (T := t') (C := i :: C) (e := putO e o.dst v) (sn := upd sn i e) (vl := upd vl i v) ⟨hok', hcan, ?_, ?_, ?_, hdown, hsize' _, hdef' _, ?_, ?_, ?_, ?_⟩
        · intro x hx
          rcases (hD x).1 hx with rfl | hx
          · exact List.mem_cons_self
          · exact List.mem_cons_of_mem _ (I.sub x hx)
        · intro x hx
          rcases List.mem_cons.1 hx with rfl | hx
          · exact hlt
          · exact I.lt x hx
        · intro x hx hcx
          rcases List.mem_cons.1 hx with rfl | hx
          · exact (hD _).2 (.inl rfl)
          · exact (hD x).2 (.inr (I.eff x hx hcx))
        · refine act_step hs ho hdb hD hnd (fun x hx => ?_) ?_ I.act
          · rw [upd_apply, if_neg (hne (I.sub x hx))]
          · rw [upd_apply, if_pos rfl]
        · intro t
          rw [putO_apply e o i ho v t]
          refine ⟨fun x hx hwx => ?_, fun hnone => ?_⟩
          · rcases List.mem_cons.1 hx with rfl | hx
            · rw [if_pos hwx, upd_apply, if_pos rfl]
            · have hxi : x ≠ i := hne hx
              rw [if_neg (fun h => hxi (ssa_one hs hwx h)), upd_apply, if_neg hxi]
              exact (I.env t).1 x hx hwx
          · have h0 := hnone i (by simp)
            rw [if_neg (by simp [h0])]
            exact (I.env t).2 fun x hx => hnone x (List.mem_cons_of_mem _ hx)
        · intro x hx t ht
          rcases List.mem_cons.1 hx with rfl | hx
          · refine ⟨fun j hj hwj haj => ?_, fun hnone => ?_⟩
            · have := hwr j t hj ht hwj
              rw [if_pos haj] at this
              refine ⟨List.mem_cons_of_mem _ this, ?_⟩
              rw [upd_apply, if_pos rfl, upd_apply, if_neg hj]
              exact (I.env t).1 j this hwj
            · rw [upd_apply, if_pos rfl]
              refine (I.env t).2 fun j hj => ?_
              cases hwj : writer ops j t with
              | false => rfl
              | true =>
                have hji : j ≠ x := hne hj
                have := hwr j t hji ht hwj
                rw [if_neg (by simp [hnone j hji hwj])] at this
                exact absurd hj this
          · have hxi : x ≠ i := hne hx
            obtain ⟨s1, s2⟩ := I.snap x hx t ht
            refine ⟨fun j hj hwj haj => ?_, fun hnone => ?_⟩
            · obtain ⟨hjC, hsn⟩ := s1 j hj hwj haj
              refine ⟨List.mem_cons_of_mem _ hjC, ?_⟩
              rw [upd_apply, if_neg hxi, upd_apply, if_neg (hne hjC)]
              exact hsn
            · rw [upd_apply, if_neg hxi]
              exact s2 hnone
        · intro x hx hnx
          rcases List.mem_cons.1 hx with rfl | hx
          · exact absurd ((hD _).2 (.inl rfl)) hnx
          · have hxi : x ≠ i := hne hx
            have hnDx : ¬ listed.getD x false = true := fun h => hnx ((hD x).2 (.inr h))
            simp only [upd_apply, if_neg hxi]
            have := (List.all_eq_true.1 hchk) x hx
            simp only [Bool.or_eq_true, Bool.not_eq_true'] at this
            rcases this with ((h | h) | h) | h
            · exact absurd (hanc x h) hnDx
            · exact absurd (I.eff x hx h) hnDx
            · obtain ⟨ox, hox, hp⟩ := I.pend x hx hnDx
              refine ⟨ox, hox, ?_⟩
              unfold isWless at h; rw [hox] at h
              exact gOp_wless h hp w'
            · exact hchks x (by simpa using h)
end

/-- All that a plan must meet, in one look. -/
def planOk (P : Program) (N : Nat) (ops : Array Oper) (A : List (List Nat)) (T : DT) : Bool :=
  ancOk ops A && ssaOk ops A && dstsOk N ops.toList && dtOk P ops A true T []

theorem draw_wp {P : Program} {ops : Array Oper} {A : List (List Nat)} {N : Nat} {ds : List Deferred} {ro : Option Nat} {n : Nat} {T : DT} (hp : planOk P N ops A T = true) {id : Nat} {e : Env} {a : Act} {w : World} {k : Env → World → Prop}
    (hm : P.follows .mixedOrders = true) (hr : Rel N ds a e) (h : drawC P ops T e (fun _ => e) (fun _ => undef) k w.drew) {Q : Exit → Act → World → Prop}
    (hk : ∀ e' a' w', Rel N ds a' e' → k e' w' → Q .normal a' w') : (Code.region id ops true).wpIn (FW ro) n P Q a w := by
  unfold planOk at hp
  simp only [Bool.and_eq_true] at hp
  obtain ⟨⟨⟨h1, h2⟩, h3⟩, h4⟩ := hp
  have hno : ∀ j, (Array.replicate ops.size false).getD j false = false := fun j => by
    rw [Array.getD_eq_getD_getElem?, Array.getElem?_replicate]
    split <;> rfl
  have hnd : ∀ j, ¬ (Array.replicate ops.size false).getD j false = true := fun j h => by rw [hno] at h; cases h
  refine wpIn_region_any hm (draw_sound h1 h2 h3 hk ops.size (Array.replicate ops.size false) (by simp) (by simp [hno]) (T := T) (C := []) (e := e) (sn := fun _ => e) (vl := fun _ => undef)
    ⟨h4, h, fun i hi => absurd hi (hnd i), ?_, ?_, fun i hi => absurd hi (hnd i), hr.size, hr.defers, fun t => ⟨fun i hi => absurd hi (hnd i), fun _ => hr.at_ t⟩, ?_, ?_, ?_⟩)
  · intro i hi; cases hi
  · intro i hi; cases hi
  · intro t; exact ⟨fun i hi => (by cases hi), fun _ => rfl⟩
  · intro i hi; cases hi
  · intro i hi; cases hi

end Go.Sh
