/-
  The shallow layer, part 5: code. The weakest precondition that the kernel computes, along a note of which slots live across a join and a loop; its soundness; functions.
-/
import Derived.Test.YtnnhmahemklnkaaDoorSh4
import Derived.Scope
import Derived.DefersIn
import Derived.RangeFuncNested
namespace Go.Sh
open Go

def memN : List Nat → Nat → Bool
  | [], _ => false
  | x :: r, t => Nat.beq x t || memN r t
theorem memN_iff {l : List Nat} {t : Nat} : memN l t = true ↔ t ∈ l := by
  induction l with
  | nil => simp [memN]
  | cons x r ih =>
    simp only [memN, Bool.or_eq_true, ih, List.mem_cons]
    constructor
    · rintro (h | h)
      · exact .inl (Nat.eq_of_beq_eq_true h).symm
      · exact .inr h
    · rintro (rfl | h)
      · exact .inl (Nat.beq_refl t)
      · exact .inr h

/-- Which slots live across a join ('live'), which are written and dead there ('dead'); the plan of a drawn region. -/
inductive Ann where
  | leaf
  | seq (x y : Ann)
  | join (x : Ann) (live dead : List Nat) (y : Ann)
  | cond (x y : Ann)
  | block (x : Ann)
  | loop (x : Ann) (live dead : List Nat)
  | draw (A : List (List Nat)) (T : DT)
  | rf (x y : Ann) (ids : List Nat)
  | joinD (x : Ann) (live dead : List Nat) (y : Ann)
  | loopD (x : Ann) (live dead : List Nat)
  | dfr

def setL (e : Env) : List Nat → List Value → Env
  | d :: r, v :: vs => put (setL e r vs) d v
  | _, _ => e
def setD (e : Env) (dead : List Nat) (u : Env) : Env := fun t => bif memN dead t then u t else e t
def hav (e : Env) (live : List Nat) (l : List Value) (dead : List Nat) (u : Env) : Env := setL (setD e dead u) live l
def All : List Nat → (List Value → Prop) → Prop
  | [], f => f []
  | _ :: r, f => ∀ v : Value, All r fun l => f (v :: l)
theorem All.spec : ∀ {live : List Nat} {f : List Value → Prop}, All live f → ∀ l, l.length = live.length → f l
  | [], _, h, [], _ => h
  | _ :: _, _, h, v :: l, hl => All.spec (h v) l (by simpa using hl)
  | [], _, _, _ :: _, hl => by simp at hl
  | _ :: _, _, _, [], hl => by simp at hl
theorem All.intro : ∀ {live : List Nat} {f : List Value → Prop}, (∀ l, f l) → All live f
  | [], _, h => h []
  | _ :: _, _, h => fun v => All.intro fun l => h (v :: l)
theorem All.mono : ∀ {live : List Nat} {f g : List Value → Prop}, (∀ l, f l → g l) → All live f → All live g
  | [], _, _, h, hf => h _ hf
  | _ :: _, _, _, h, hf => fun v => All.mono (fun l => h (v :: l)) (hf v)

theorem setL_map (e e' : Env) (live : List Nat) (t : Nat) : setL e live (live.map e') t = if t ∈ live then e' t else e t := by
  induction live with
  | nil => simp [setL]
  | cons d r ih =>
    simp only [List.map_cons, setL, put_apply, ih, List.mem_cons]
    by_cases h : t = d
    · subst h; simp
    · simp [h]
def Off (S : List Nat) (e e' : Env) : Prop := ∀ t, t ∉ S → e' t = e t
theorem Off.refl (S : List Nat) (e : Env) : Off S e e := fun _ _ => rfl
theorem Off.trans {S : List Nat} {a b c : Env} (h : Off S a b) (k : Off S b c) : Off S a c := fun t ht => (k t ht).trans (h t ht)
theorem hav_self {e e' : Env} {live dead : List Nat} (h : Off (live ++ dead) e e') : hav e live (live.map e') dead e' = e' := by
  funext t
  unfold hav
  rw [setL_map]
  by_cases hl : t ∈ live
  · rw [if_pos hl]
  · rw [if_neg hl]
    unfold setD
    cases hd : memN dead t with
    | true => rfl
    | false =>
      have : t ∉ dead := fun hh => by rw [memN_iff.2 hh] at hd; cases hd
      exact (h t (by simp [hl, this])).symm
theorem hav_off (e u : Env) (live dead : List Nat) (l : List Value) : Off (live ++ dead) e (hav e live l dead u) := by
  intro t ht
  simp only [List.mem_append, not_or] at ht
  unfold hav
  have key : ∀ (e1 : Env) (live : List Nat) (l : List Value), t ∉ live → setL e1 live l t = e1 t := by
    intro e1 live
    induction live with
    | nil => intro l _; cases l <;> rfl
    | cons d r ih =>
      intro l hm
      simp only [List.mem_cons, not_or] at hm
      cases l with
      | nil => rfl
      | cons v vs => simp only [setL, put_apply, if_neg hm.1]; exact ih vs hm.2
  rw [key _ _ _ ht.1]
  unfold setD
  cases hd : memN dead t with
  | true => exact absurd (memN_iff.1 hd) ht.2
  | false => rfl

/-- The slots that a code writes are among S. -/
def coverL (S : List Nat) : List Oper → Bool
  | [] => true
  | o :: r => (match o.dst with | some d => memN S d | none => true) && coverL S r
def cover (S : List Nat) : Code → Bool
  | .region _ ops _ => coverL S ops.toList
  | .seq a b | .cond _ a b => cover S a && cover S b
  | .block _ a | .loop a | .scope a => cover S a
  | _ => true

/-- The code writes slot t. -/
def wroteL (t : Nat) : List Oper → Bool
  | [] => false
  | o :: r => (match o.dst with | some d => Nat.beq d t | none => false) || wroteL t r
def wrote (t : Nat) : Code → Bool
  | .region _ ops _ => wroteL t ops.toList
  | .seq a b | .cond _ a b => wrote t a || wrote t b
  | .block _ a | .loop a | .scope a => wrote t a
  | _ => false
def allW : List Nat → Code → Bool
  | [], _ => true
  | t :: r, c => wrote t c && allW r c
/-- 'S' is just what the code writes. -/
def just (S : List Nat) (c : Code) : Bool := cover S c && allW S c
theorem wrote_mem {S : List Nat} {t : Nat} : ∀ {c : Code}, cover S c = true → wrote t c = true → t ∈ S := by
  have key : ∀ l : List Oper, coverL S l = true → wroteL t l = true → t ∈ S := by
    intro l
    induction l with
    | nil => intro _ h; cases h
    | cons o r ih =>
      intro hc h
      simp only [coverL, Bool.and_eq_true] at hc
      simp only [wroteL, Bool.or_eq_true] at h
      rcases h with h | h
      · have h1 := hc.1
        cases hd : o.dst with
        | none => rw [hd] at h; cases h
        | some d =>
          rw [hd] at h h1
          rw [← Nat.eq_of_beq_eq_true h]
          exact memN_iff.1 h1
      · exact ih hc.2 h
  intro c
  induction c with
  | region id ops d => intro hc h; exact key _ hc h
  | seq x y ihx ihy =>
    intro hc h
    simp only [cover, Bool.and_eq_true] at hc
    simp only [wrote, Bool.or_eq_true] at h
    exact h.elim (ihx hc.1) (ihy hc.2)
  | cond _ x y ihx ihy =>
    intro hc h
    simp only [cover, Bool.and_eq_true] at hc
    simp only [wrote, Bool.or_eq_true] at h
    exact h.elim (ihx hc.1) (ihy hc.2)
  | block _ x ih => intro hc h; exact ih hc h
  | loop x ih => intro hc h; exact ih hc h
  | scope x ih => intro hc h; exact ih hc h
  | _ => intro _ h; cases h
theorem just_sub {S L : List Nat} {c : Code} (hj : just L c = true) (hc : cover S c = true) : ∀ t, t ∈ L → t ∈ S := by
  unfold just at hj
  simp only [Bool.and_eq_true] at hj
  have h := hj.2
  intro t ht
  have key : ∀ L : List Nat, allW L c = true → t ∈ L → t ∈ S := by
    intro L
    induction L with
    | nil => intro _ h; cases h
    | cons x r ih =>
      intro h hm
      simp only [allW, Bool.and_eq_true] at h
      rcases List.mem_cons.1 hm with rfl | hm
      · exact wrote_mem hc h.1
      · exact ih h.2 hm
  exact key L h ht
theorem just_cover {L : List Nat} {c : Code} (hj : just L c = true) : cover L c = true := by
  unfold just at hj; simp only [Bool.and_eq_true] at hj; exact hj.1
theorem Off.sub {S L : List Nat} {a b : Env} (h : Off L a b) (hs : ∀ t, t ∈ L → t ∈ S) : Off S a b := fun t ht => h t fun hh => ht (hs t hh)

/-- A deferred call: a loop's mark; a function's. -/
inductive Df where
  | mark (D : Nat)
  | call (f : FuncId) (cap args : Array Value)
def Df.d : Df → Deferred
  | .mark D => { target := .collected D, args := #[] }
  | .call f cap args => { target := .fn (.func f) cap, args := args }
def dfOf (ρ : Operand → Value) (c : Call) : Option Df :=
  match c.callee with
  | .value f => match ρ f with
    | .func (.func g) first cap => some (.call g cap (first ++ c.args.map ρ))
    | _ => none
  | _ => none
def CaD (P : Program) (f : FuncId) (args : Array Value) (w : World) (k : World → Prop) : Prop :=
  CallsDIn (FW none) 0 P f args .returning w fun e u' w' => u' = .returning ∧ (∃ v, e = .returned v) ∧ k w'
/-- What a function's return still does. -/
def Lvs (P : Program) : List Df → World → (World → Prop) → Prop
  | [], w, k => k w
  | .mark D :: r, w, k => w.heap[D]? = some (.deferred (some [])) ∧ Lvs P r (w.putObj D (.deferred none)) k
  | .call f cap args :: r, w, k => hasBody P f = true ∧ CaD P f (args ++ cap) w fun w' => Lvs P r w' k

/-- A loop's record. -/
def lpO (r : Loop) (st : LoopState) (pe : Option Code) : Obj := .loop { r with state := st, pending := pe }
/-- A round's body: the record, its place, what yield is given, the world; what follows its end, an exit, a return. -/
abbrev RB := Loop → Nat → List Value → World → (World → Prop) → (Nat → World → Prop) → (World → Prop) → Prop
def RB.one (b : Loop → Nat → Value → World → (World → Prop) → (Nat → World → Prop) → (World → Prop) → Prop) : RB := fun r L vs w Rn Re Rr => match vs with
  | [v] => b r L v w Rn Re Rr
  | _ => False
def RB.two (b : Loop → Nat → Value → Value → World → (World → Prop) → (Nat → World → Prop) → (World → Prop) → Prop) : RB := fun r L vs w Rn Re Rr => match vs with
  | [u, v] => b r L u v w Rn Re Rr
  | _ => False
/-- A round begins. -/
def Bgn (r : Loop) (L : Nat) (w : World) (k : World → Prop) : Prop := w.heap[L]? = some (lpO r .ready none) ∧ k (w.putObj L (lpO r .busy none))
/-- What a call of loop L's yield does. -/
def Yld (P : Program) (L : Nat) (r : Loop) (B : RB) : Prop :=
  ∀ (vs : List Value) (W : World) (k : Value → World → Prop),
    B r L vs W (fun W' => W'.heap[L]? = some (lpO r .busy none) ∧ k (.bool true) (W'.putObj L (lpO r .ready none)))
      (fun i W' => W'.heap[L]? = some (lpO r .busy none) ∧ k (.bool false) (W'.putObj L (lpO r .done (some (.exit i)))))
      (fun W' => W'.heap[L]? = some (lpO r .busy none) ∧ k (.bool false) (W'.putObj L (lpO r .done (some .ret)))) →
    W.heap[L]? = some (lpO r .ready none) → CaV P (.func (.yield L) #[] #[]) vs.toArray W k
def EndL (L : Nat) (r : Loop) (w : World) (kn : World → Prop) (ke : List (Nat × (World → Prop))) (kr : World → Prop) : Prop :=
  (w.heap[L]? = some (lpO r .ready none) ∧ kn (w.putObj L (lpO r .exhausted none))) ∨
  (∃ q, q ∈ ke ∧ w.heap[L]? = some (lpO r .done (some (.exit q.1))) ∧ q.2 (w.putObj L (lpO r .exhausted (some (.exit q.1))))) ∨
  (w.heap[L]? = some (lpO r .done (some .ret)) ∧ kr (w.putObj L (lpO r .exhausted (some .ret))))
/-- A range over a function: the record at L, the world that the function is called in. -/
def RFc (P : Program) (g : Value) (L : Nat) (w1 : Loop → World) (B : RB) (kn : World → Prop) (ke : List (Nat × (World → Prop))) (kr : World → Prop) : Prop :=
  ∃ gf first cap, g = .func (.func gf) first cap ∧ hasBody P gf = true ∧ ∀ r : Loop, Yld P L r B →
    Ca P gf (first ++ #[.func (.yield L) #[] #[]] ++ cap) (w1 r) fun _ w' => EndL L r w' kn ke kr
def RFo (P : Program) (g : Value) (w : World) (B : RB) (kn : Nat → World → Prop) (ke : List (Nat × (Nat → World → Prop))) (kr : Nat → World → Prop) : Prop :=
  RFc P g (w.heap.size + 1) (fun r => (w.alloc (.deferred (some []))).alloc (lpO r .ready none)) B (kn w.heap.size) (ke.map fun q => (q.1, q.2 w.heap.size)) (kr w.heap.size)
def RFi (P : Program) (l : Nat) (g : Value) (w : World) (B : RB) (kn : World → Prop) (ke : List (Nat × (World → Prop))) (kr : World → Prop) : Prop :=
  (∃ r', w.heap[l]? = some (.loop r')) ∧ RFc P g w.heap.size (fun r => w.alloc (lpO r .ready none)) B kn ke kr

/-- No range over a function, and no 'defer'. -/
def isDefer (o : Oper) : Bool := match o.op with
  | .defer _ => true
  | _ => false
def anyDefer : List Oper → Bool
  | [] => false
  | o :: r => isDefer o || anyDefer r
def noRF : Code → Bool
  | .rangeFunc .. => false
  | .region _ ops _ => !anyDefer ops.toList
  | .seq a b | .cond _ a b => noRF a && noRF b
  | .block _ a | .loop a | .scope a => noRF a
  | _ => true

def wpC (P : Program) (N : Nat) : Code → Ann → Option Nat → (List Df → Env → World → Prop) → (Nat → List Df → Env → World → Prop) → (List Df → Env → World → Prop) → List Df → Env → World → Prop
  | .skip, _, _, kn, _, _, ds, e, w => kn ds e w
  | .label _, _, _, kn, _, _, ds, e, w => kn ds e w
  | .scope x, .block ax, ro, kn, ke, kr, ds, e, w => wpC P N x ax ro kn ke kr ds e w
  | .ret, _, _, _, _, kr, ds, e, w => kr ds e w
  | .exit id, _, _, _, ke, _, ds, e, w => ke id ds e w
  | .seq x y, .seq ax ay, ro, kn, ke, kr, ds, e, w => wpC P N x ax ro (wpC P N y ay ro kn ke kr) ke kr ds e w
  | .seq x y, .join ax live dead ay, ro, kn, ke, kr, ds, e, w =>
    bif just (live ++ dead) x && noRF x then
      ∀ J : List Value → World → Prop, (All live fun l => ∀ w' : World, (∀ u : Env, wpC P N y ay ro kn ke kr ds (hav e live l dead u) w') → J l w') →
        wpC P N x ax ro (fun _ e' w' => J (live.map e') w') ke kr ds e w
    else False
  | .seq x y, .joinD ax live dead ay, ro, kn, ke, kr, ds, e, w =>
    bif just (live ++ dead) x then
      ∀ J : List Df → List Value → World → Prop, (All live fun l => ∀ (ds' : List Df) (w' : World), (∀ u : Env, wpC P N y ay ro kn ke kr ds' (hav e live l dead u) w') → J ds' l w') →
        wpC P N x ax ro (fun ds' e' w' => J ds' (live.map e') w') ke kr ds e w
    else False
  | .cond c x y, .cond ax ay, ro, kn, ke, kr, ds, e, w => Cnd (ev e c) (wpC P N x ax ro kn ke kr ds e w) (wpC P N y ay ro kn ke kr ds e w)
  | .block id x, .block ax, ro, kn, ke, kr, ds, e, w => wpC P N x ax ro kn (fun i => bif Nat.beq i id then kn else ke i) kr ds e w
  | .loop x, .loop ax live dead, ro, _, ke, kr, ds, e, w =>
    bif just (live ++ dead) x && noRF x then
      ∃ (I : List Value → World → Prop) (μ : List Value → World → Nat), I (live.map e) w ∧
        All live fun l => ∀ (u : Env) (w' : World), I l w' → wpC P N x ax ro (fun _ e' w'' => I (live.map e') w'' ∧ μ (live.map e') w'' < μ l w') ke kr ds (hav e live l dead u) w'
    else False
  | .loop x, .loopD ax live dead, ro, _, ke, kr, ds, e, w =>
    bif just (live ++ dead) x then
      ∃ (I : List Df → List Value → World → Prop) (μ : List Value → World → Nat), I ds (live.map e) w ∧
        All live fun l => ∀ (u : Env) (ds' : List Df) (w' : World), I ds' l w' → wpC P N x ax ro (fun ds'' e' w'' => I ds'' (live.map e') w'' ∧ μ (live.map e') w'' < μ l w') ke kr ds' (hav e live l dead u) w'
    else False
  | .region _ ops false, .leaf, _, kn, _, _, ds, e, w => bif dstsOk N ops.toList && !anyDefer ops.toList then opsC P N ops ops.toList (kn ds) e w else False
  | .region _ ops true, .draw A T, _, kn, _, _, ds, e, w => bif planOk P N ops A T && !anyDefer ops.toList then drawC P ops T e (fun _ => e) (fun _ => undef) (kn ds) w.drew else False
  | .region _ ops false, .dfr, none, kn, _, _, ds, e, w => match ops.toList.getLast? with
    | some o => match o.op, o.guard with
      | .defer c, none => bif dstsOk N ops.toList && !anyDefer ops.toList.dropLast then opsC P N ops ops.toList.dropLast (fun e' w' => match dfOf (ev e') c with
          | some d => kn (d :: ds) (putO e' o.dst undef) w'
          | none => False) e w else False
      | _, _ => False
    | none => False
  | .rangeFunc g ps assign body, .rf aa ab ids, ro, kn, ke, kr, ds, e, w => match ps.toList with
    | [p] => bif Nat.blt p N then
        match ro with
        | none => RFo P (ev e g) w (RB.one fun r L v w' Rn Re Rr => wpC P N assign aa (some L) (fun ds2 e2 w2 => Bgn r L w2 fun w3 => wpC P N body ab (some L) (fun _ _ w4 => Rn w4) (fun i _ _ w4 => Re i w4) (fun _ _ w4 => Rr w4) ds2 e2 w3)
            (fun _ _ _ _ => False) (fun _ _ _ => False) [] (put e p v) w') (fun D w' => kn (.mark D :: ds) e w') (ids.map fun i => (i, fun D w' => ke i (.mark D :: ds) e w')) (fun D w' => kr (.mark D :: ds) e w')
        | some l => RFi P l (ev e g) w (RB.one fun r L v w' Rn Re Rr => wpC P N assign aa (some L) (fun ds2 e2 w2 => Bgn r L w2 fun w3 => wpC P N body ab (some L) (fun _ _ w4 => Rn w4) (fun i _ _ w4 => Re i w4) (fun _ _ w4 => Rr w4) ds2 e2 w3)
            (fun _ _ _ _ => False) (fun _ _ _ => False) [] (put e p v) w') (fun w' => kn ds e w') (ids.map fun i => (i, fun w' => ke i ds e w')) (fun w' => kr ds e w')
      else False
    | [p, q] => bif Nat.blt p N && Nat.blt q N then
        match ro with
        | none => RFo P (ev e g) w (RB.two fun r L u v w' Rn Re Rr => wpC P N assign aa (some L) (fun ds2 e2 w2 => Bgn r L w2 fun w3 => wpC P N body ab (some L) (fun _ _ w4 => Rn w4) (fun i _ _ w4 => Re i w4) (fun _ _ w4 => Rr w4) ds2 e2 w3)
            (fun _ _ _ _ => False) (fun _ _ _ => False) [] (put (put e p u) q v) w') (fun D w' => kn (.mark D :: ds) e w') (ids.map fun i => (i, fun D w' => ke i (.mark D :: ds) e w')) (fun D w' => kr (.mark D :: ds) e w')
        | some l => RFi P l (ev e g) w (RB.two fun r L u v w' Rn Re Rr => wpC P N assign aa (some L) (fun ds2 e2 w2 => Bgn r L w2 fun w3 => wpC P N body ab (some L) (fun _ _ w4 => Rn w4) (fun i _ _ w4 => Re i w4) (fun _ _ w4 => Rr w4) ds2 e2 w3)
            (fun _ _ _ _ => False) (fun _ _ _ => False) [] (put (put e p u) q v) w') (fun w' => kn ds e w') (ids.map fun i => (i, fun w' => ke i ds e w')) (fun w' => kr ds e w')
      else False
    | _ => False
  | _, _, _, _, _, _, _, _, _ => False

theorem putO_off {S : List Nat} {d : Option Nat} (h : (match d with | some d => memN S d | none => true) = true) (e : Env) (v : Value) : Off S e (putO e d v) := by
  intro t ht
  cases d with
  | none => rfl
  | some d =>
    simp only [putO, put_apply]
    have : t ≠ d := fun hh => ht (hh ▸ memN_iff.1 h)
    rw [if_neg this]

theorem Gd_mono {g : Value} {want : Bool} {op op' : (Value → World → Prop) → Prop} {w : World} {k k' : Value → World → Prop} (hop : op k → op' k') (hk : ∀ v w', k v w' → k' v w')
    (h : Gd g want op w k) : Gd g want op' w k' := by
  rcases h with ⟨h1, h2⟩ | ⟨h1, h2⟩
  · exact .inl ⟨h1, hop h2⟩
  · exact .inr ⟨h1, hk _ _ h2⟩

theorem opsC_mono {P : Program} {N : Nat} {ops : Array Oper} {S : List Nat} : ∀ {l : List Oper} {k k' : Env → World → Prop} {e : Env} {w : World}, coverL S l = true →
    (∀ e' w', Off S e e' → k e' w' → k' e' w') → opsC P N ops l k e w → opsC P N ops l k' e w
  | [], _, _, e, _, _, hk, h => hk _ _ (Off.refl _ e) h
  | o :: r, k, k', e, w, hc, hk, h => by
    simp only [coverL, Bool.and_eq_true] at hc
    have step : ∀ v w', opsC P N ops r k (putO e o.dst v) w' → opsC P N ops r k' (putO e o.dst v) w' := fun v w' h =>
      opsC_mono hc.2 (fun e' w'' ho hh => hk _ _ ((putO_off hc.1 e v).trans ho) hh) h
    simp only [opsC] at h ⊢
    split at h
    · exact opC_mono step h
    · exact Gd_mono (opC_mono step) step h

theorem drawC_mono {P : Program} {ops : Array Oper} {S : List Nat} (hc : coverL S ops.toList = true) : ∀ {T : DT} {e : Env} {sn : Nat → Env} {vl : Nat → Value} {k k' : Env → World → Prop} {w : World},
    (∀ e' w', Off S e e' → k e' w' → k' e' w') → drawC P ops T e sn vl k w → drawC P ops T e sn vl k' w := by
  have hd : ∀ (i : Nat) (o : Oper), ops[i]? = some o → ∀ (e : Env) (v : Value), Off S e (putO e o.dst v) := by
    intro i o hi e v
    have hmem : o ∈ ops.toList := by simpa using Array.mem_of_getElem? hi
    have key : ∀ l : List Oper, coverL S l = true → o ∈ l → Off S e (putO e o.dst v) := by
      intro l
      induction l with
      | nil => intro _ h; cases h
      | cons x r ih =>
        intro hl hm
        simp only [coverL, Bool.and_eq_true] at hl
        rcases List.mem_cons.1 hm with rfl | hm
        · exact putO_off hl.1 e v
        · exact ih hl.2 hm
    exact key _ hc hmem
  have chk : ∀ {chks : List Nat} {sn : Nat → Env} {vl : Nat → Value} {w : World} {K K' : Prop}, (K → K') → chkAll P ops sn vl chks w K → chkAll P ops sn vl chks w K' := by
    intro chks
    induction chks with
    | nil => intro _ _ _ _ _ h hk; exact h hk
    | cons r rs ih => intro _ _ _ _ _ h hk; exact ⟨hk.1, ih h hk.2⟩
  intro T
  induction T with
  | done => intro e sn vl k k' w hk h; exact hk _ _ (Off.refl _ e) h
  | none => intro e sn vl k k' w hk h; trivial
  | calm i t ih =>
    intro e sn vl k k' w hk h
    simp only [drawC] at h ⊢
    cases ho : ops[i]? with
    | none => rw [ho] at h; exact h.elim
    | some o =>
      rw [ho] at h
      exact gOp_mono (fun v w' hh => ih (fun e' w'' hoff hk1 => hk _ _ ((hd i o ho e v).trans hoff) hk1) hh) h
  | eff1 i c t ih =>
    intro e sn vl k k' w hk h
    simp only [drawC] at h ⊢
    cases ho : ops[i]? with
    | none => rw [ho] at h; exact h.elim
    | some o =>
      rw [ho] at h
      exact gOp_mono (fun v w' hh => chk (fun hh => ih (fun e' w'' hoff hk1 => hk _ _ ((hd i o ho e v).trans hoff) hk1) hh) hh) h
  | effs i c t alt ih1 ih2 =>
    intro e sn vl k k' w hk h
    simp only [drawC] at h ⊢
    refine ⟨?_, ih2 hk h.2⟩
    have h := h.1
    cases ho : ops[i]? with
    | none => rw [ho] at h; exact h.elim
    | some o =>
      rw [ho] at h
      exact gOp_mono (fun v w' hh => chk (fun hh => ih1 (fun e' w'' hoff hk1 => hk _ _ ((hd i o ho e v).trans hoff) hk1) hh) hh) h

theorem EndL.mono {L : Nat} {r : Loop} {w : World} {kn kn' : World → Prop} {ke ke' : List (Nat × (World → Prop))} {kr kr' : World → Prop} (h : EndL L r w kn ke kr)
    (hn : ∀ w, kn w → kn' w) (he : ∀ i K, (i, K) ∈ ke → ∃ K', (i, K') ∈ ke' ∧ ∀ w, K w → K' w) (hr : ∀ w, kr w → kr' w) : EndL L r w kn' ke' kr' := by
  rcases h with ⟨h1, h2⟩ | ⟨⟨i, K⟩, hq, h1, h2⟩ | ⟨h1, h2⟩
  · exact .inl ⟨h1, hn _ h2⟩
  · obtain ⟨K', hm, hk⟩ := he i K hq
    exact .inr (.inl ⟨(i, K'), hm, h1, hk _ h2⟩)
  · exact .inr (.inr ⟨h1, hr _ h2⟩)
theorem RFc.mono {P : Program} {g : Value} {L : Nat} {w1 : Loop → World} {B : RB} {kn kn' : World → Prop} {ke ke' : List (Nat × (World → Prop))} {kr kr' : World → Prop} (h : RFc P g L w1 B kn ke kr)
    (hn : ∀ w, kn w → kn' w) (he : ∀ i K, (i, K) ∈ ke → ∃ K', (i, K') ∈ ke' ∧ ∀ w, K w → K' w) (hr : ∀ w, kr w → kr' w) : RFc P g L w1 B kn' ke' kr' := by
  obtain ⟨gf, first, cap, h1, h2, h3⟩ := h
  exact ⟨gf, first, cap, h1, h2, fun r hy => (h3 r hy).mono fun e w' ⟨v, hv, hh⟩ => ⟨v, hv, hh.mono hn he hr⟩⟩
theorem mem_ids {β : Type} {ids : List Nat} {f g : Nat → β → Prop} {i : Nat} {K : β → Prop} (h : (i, K) ∈ ids.map fun i => (i, f i)) (hfg : ∀ i w, f i w → g i w) : ∃ K', (i, K') ∈ (ids.map fun i => (i, g i)) ∧ ∀ w, K w → K' w := by
  obtain ⟨x, hx, he⟩ := List.mem_map.1 h
  cases he
  exact ⟨_, List.mem_map.2 ⟨_, hx, rfl⟩, fun w hw => hfg _ w hw⟩

theorem wpC_mono {P : Program} {N : Nat} {S : List Nat} : ∀ {c : Code} {an : Ann} {ro : Option Nat} {kn kn' : List Df → Env → World → Prop} {ke ke' : Nat → List Df → Env → World → Prop} {kr kr' : List Df → Env → World → Prop} {ds : List Df} {e : Env} {w : World},
    cover S c = true → (∀ ds' e' w', Off S e e' → (noRF c = true → ds' = ds) → kn ds' e' w' → kn' ds' e' w') → (∀ i ds' e' w', Off S e e' → (noRF c = true → ds' = ds) → ke i ds' e' w' → ke' i ds' e' w') →
      (∀ ds' e' w', Off S e e' → (noRF c = true → ds' = ds) → kr ds' e' w' → kr' ds' e' w') → wpC P N c an ro kn ke kr ds e w → wpC P N c an ro kn' ke' kr' ds e w := by
  intro c
  induction c with
  | skip => intro an ro kn kn' ke ke' kr kr' ds e w _ hn _ _ h; simp only [wpC] at h ⊢; exact hn _ _ _ (Off.refl _ e) (fun _ => rfl) h
  | ret => intro an ro kn kn' ke ke' kr kr' ds e w _ _ _ hr h; simp only [wpC] at h ⊢; exact hr _ _ _ (Off.refl _ e) (fun _ => rfl) h
  | exit id => intro an ro kn kn' ke ke' kr kr' ds e w _ _ he _ h; simp only [wpC] at h ⊢; exact he _ _ _ _ (Off.refl _ e) (fun _ => rfl) h
  | seq x y ihx ihy =>
    intro an ro kn kn' ke ke' kr kr' ds e w hc hn he hr h
    simp only [cover, Bool.and_eq_true] at hc
    simp only [noRF, Bool.and_eq_true] at hn he hr
    cases an with
    | seq ax ay =>
      simp only [wpC] at h ⊢
      exact ihx hc.1 (fun ds1 e1 w1 ho hd hh => ihy hc.2 (fun ds' e' w' o' d' => hn ds' e' w' (ho.trans o') fun b => (d' b.2).trans (hd b.1)) (fun i ds' e' w' o' d' => he i ds' e' w' (ho.trans o') fun b => (d' b.2).trans (hd b.1))
        (fun ds' e' w' o' d' => hr ds' e' w' (ho.trans o') fun b => (d' b.2).trans (hd b.1)) hh) (fun i ds' e' w' o' d' => he i ds' e' w' o' fun b => d' b.1) (fun ds' e' w' o' d' => hr ds' e' w' o' fun b => d' b.1) h
    | join ax live dead ay =>
      simp only [wpC] at h ⊢
      cases hcv : just (live ++ dead) x && noRF x with
      | false => rw [hcv] at h; exact h.elim
      | true =>
        rw [hcv] at h
        simp only [Bool.and_eq_true] at hcv
        simp only [cond_true] at h ⊢
        intro J hJ
        have hoff : ∀ l u, Off S e (hav e live l dead u) := fun l u => (hav_off e u live dead l).sub (just_sub hcv.1 hc.1)
        have h1 := h J (All.mono (fun l hl w' hwp => hl w' fun u => ihy hc.2 (fun ds' e' w' o' d' => hn ds' e' w' ((hoff l u).trans o') fun b => d' b.2) (fun i ds' e' w' o' d' => he i ds' e' w' ((hoff l u).trans o') fun b => d' b.2)
          (fun ds' e' w' o' d' => hr ds' e' w' ((hoff l u).trans o') fun b => d' b.2) (hwp u)) hJ)
        exact ihx hc.1 (fun _ _ _ _ _ hh => hh) (fun i ds' e' w' o' d' => he i ds' e' w' o' fun b => d' b.1) (fun ds' e' w' o' d' => hr ds' e' w' o' fun b => d' b.1) h1
    | joinD ax live dead ay =>
      simp only [wpC] at h ⊢
      cases hcv : just (live ++ dead) x with
      | false => rw [hcv] at h; exact h.elim
      | true =>
        rw [hcv] at h
        simp only [cond_true] at h ⊢
        intro J hJ
        have hoff : ∀ l u, Off S e (hav e live l dead u) := fun l u => (hav_off e u live dead l).sub (just_sub hcv hc.1)
        have h1 := h (fun ds' l w' => (noRF x = true → ds' = ds) → J ds' l w') (All.mono (fun l hl ds1 w' hwp hd => hl ds1 w' fun u => ihy hc.2 (fun ds' e' w' o' d' => hn ds' e' w' ((hoff l u).trans o') fun b => (d' b.2).trans (hd b.1))
          (fun i ds' e' w' o' d' => he i ds' e' w' ((hoff l u).trans o') fun b => (d' b.2).trans (hd b.1)) (fun ds' e' w' o' d' => hr ds' e' w' ((hoff l u).trans o') fun b => (d' b.2).trans (hd b.1)) (hwp u)) hJ)
        exact ihx hc.1 (fun _ _ _ _ hd hh => hh hd) (fun i ds' e' w' o' d' => he i ds' e' w' o' fun b => d' b.1) (fun ds' e' w' o' d' => hr ds' e' w' o' fun b => d' b.1) h1
    | _ => simp only [wpC] at h
  | cond c x y ihx ihy =>
    intro an ro kn kn' ke ke' kr kr' ds e w hc hn he hr h
    simp only [cover, Bool.and_eq_true] at hc
    simp only [noRF, Bool.and_eq_true] at hn he hr
    cases an with
    | cond ax ay =>
      simp only [wpC] at h ⊢
      rcases h with ⟨h1, h2⟩ | ⟨h1, h2⟩
      · exact .inl ⟨h1, ihx hc.1 (fun a b c d f => hn a b c d fun q => f q.1) (fun i a b c d f => he i a b c d fun q => f q.1) (fun a b c d f => hr a b c d fun q => f q.1) h2⟩
      · exact .inr ⟨h1, ihy hc.2 (fun a b c d f => hn a b c d fun q => f q.2) (fun i a b c d f => he i a b c d fun q => f q.2) (fun a b c d f => hr a b c d fun q => f q.2) h2⟩
    | _ => simp only [wpC] at h
  | label l => intro an ro kn kn' ke ke' kr kr' ds e w _ hn _ _ h; simp only [wpC] at h ⊢; exact hn _ _ _ (Off.refl _ e) (fun _ => rfl) h
  | scope x ih =>
    intro an ro kn kn' ke ke' kr kr' ds e w hc hn he hr h
    cases an with
    | block ax => simp only [wpC] at h ⊢; exact ih hc hn he hr h
    | _ => simp only [wpC] at h
  | block id x ih =>
    intro an ro kn kn' ke ke' kr kr' ds e w hc hn he hr h
    cases an with
    | block ax =>
      simp only [wpC] at h ⊢
      refine ih hc hn (fun i ds' e' w' ho hd hh => ?_) hr h
      cases hb : Nat.beq i id with
      | true => rw [hb] at hh; exact hn ds' e' w' ho hd hh
      | false => rw [hb] at hh; exact he i ds' e' w' ho hd hh
    | _ => simp only [wpC] at h
  | loop x ih =>
    intro an ro kn kn' ke ke' kr kr' ds e w hc hn he hr h
    cases an with
    | loop ax live dead =>
      simp only [wpC] at h ⊢
      cases hcv : just (live ++ dead) x && noRF x with
      | false => rw [hcv] at h; exact h.elim
      | true =>
        rw [hcv] at h
        simp only [Bool.and_eq_true] at hcv
        simp only [cond_true] at h ⊢
        obtain ⟨I, μ, h0, hround⟩ := h
        have hoff : ∀ l u, Off S e (hav e live l dead u) := fun l u => (hav_off e u live dead l).sub (just_sub hcv.1 hc)
        exact ⟨I, μ, h0, All.mono (fun l hl u w' hI => ih hc (fun _ _ _ _ _ hh => hh) (fun i ds' e' w' o' => he i ds' e' w' ((hoff l u).trans o')) (fun ds' e' w' o' => hr ds' e' w' ((hoff l u).trans o')) (hl u w' hI)) hround⟩
    | loopD ax live dead =>
      simp only [wpC] at h ⊢
      cases hcv : just (live ++ dead) x with
      | false => rw [hcv] at h; exact h.elim
      | true =>
        rw [hcv] at h
        simp only [cond_true] at h ⊢
        obtain ⟨I, μ, h0, hround⟩ := h
        have hoff : ∀ l u, Off S e (hav e live l dead u) := fun l u => (hav_off e u live dead l).sub (just_sub hcv hc)
        refine ⟨fun ds' l w' => I ds' l w' ∧ (noRF x = true → ds' = ds), μ, ⟨h0, fun _ => rfl⟩, All.mono (fun l hl u ds1 w' hI => ih hc (fun _ _ _ _ hd hh => ⟨⟨hh.1, fun b => (hd b).trans (hI.2 b)⟩, hh.2⟩)
          (fun i ds' e' w' o' hd => he i ds' e' w' ((hoff l u).trans o') fun b => (hd b).trans (hI.2 b)) (fun ds' e' w' o' hd => hr ds' e' w' ((hoff l u).trans o') fun b => (hd b).trans (hI.2 b)) (hl u ds1 w' hI.1)) hround⟩
    | _ => simp only [wpC] at h
  | region id ops d =>
    intro an ro kn kn' ke ke' kr kr' ds e w hc hn he hr h
    cases d with
    | false =>
      cases an with
      | leaf =>
        simp only [wpC] at h ⊢
        cases hd : dstsOk N ops.toList && !anyDefer ops.toList with
        | false => rw [hd] at h; exact h.elim
        | true => rw [hd] at h; simp only [cond_true] at h ⊢; exact opsC_mono hc (fun e' w' ho hh => hn ds e' w' ho (fun _ => rfl) hh) h
      | dfr =>
        cases ro with
        | some l => simp only [wpC] at h
        | none =>
        simp only [wpC] at h ⊢
        split at h
        · rename_i o ho
          split at h
          · rename_i c h1 h2
            cases hd : dstsOk N ops.toList && !anyDefer ops.toList.dropLast with
            | false => rw [hd] at h; exact h.elim
            | true =>
              rw [hd] at h
              simp only [cond_true] at h ⊢
              have hne : ops.toList ≠ [] := fun h0 => by rw [h0] at ho; cases ho
              have hlast : ops.toList.getLast hne = o := by rw [List.getLast?_eq_some_getLast hne] at ho; exact Option.some.inj ho
              have hsplit := List.dropLast_concat_getLast hne
              rw [hlast] at hsplit
              have hany : anyDefer ops.toList = true := by
                rw [← hsplit]
                have key : ∀ l : List Oper, anyDefer (l ++ [o]) = true := by
                  intro l
                  induction l with
                  | nil => simp [anyDefer, isDefer, h1]
                  | cons x r ih => simp [anyDefer, ih]
                exact key _
              have hcov : coverL S ops.toList.dropLast = true ∧ coverL S [o] = true := by
                have key : ∀ l m : List Oper, coverL S (l ++ m) = true → coverL S l = true ∧ coverL S m = true := by
                  intro l m
                  induction l with
                  | nil => exact fun h => ⟨rfl, h⟩
                  | cons x r ih =>
                    intro h
                    simp only [List.cons_append, coverL, Bool.and_eq_true] at h ⊢
                    exact ⟨⟨h.1, (ih h.2).1⟩, (ih h.2).2⟩
                exact key _ _ (by rw [hsplit]; exact hc)
              refine opsC_mono hcov.1 (fun e' w' hoff hh => ?_) h
              cases hdf : dfOf (ev e') c with
              | none => rw [hdf] at hh; exact hh.elim
              | some d =>
                rw [hdf] at hh
                have hc2 := hcov.2
                simp only [coverL, Bool.and_true] at hc2
                exact hn _ _ _ (hoff.trans (putO_off hc2 e' undef)) (fun b => by simp [noRF, hany] at b) hh
          · exact h.elim
        · exact h.elim
      | _ => simp only [wpC] at h
    | true =>
      cases an with
      | draw A T =>
        simp only [wpC] at h ⊢
        cases hd : planOk P N ops A T && !anyDefer ops.toList with
        | false => rw [hd] at h; exact h.elim
        | true => rw [hd] at h; simp only [cond_true] at h ⊢; exact drawC_mono hc (fun e' w' ho hh => hn ds e' w' ho (fun _ => rfl) hh) h
      | _ => simp only [wpC] at h
  | rangeFunc g ps x y ihx ihy =>
    intro an ro kn kn' ke ke' kr kr' ds e w hc hn he hr h
    have nb : ∀ {Q : Prop}, noRF (.rangeFunc g ps x y) = true → Q := fun b => by simp [noRF] at b
    cases an with
    | rf aa ab ids =>
      simp only [wpC] at h ⊢
      split at h
      · rename_i p hp
        cases hb : Nat.blt p N with
        | false => rw [hb] at h; exact h.elim
        | true =>
          rw [hb] at h
          simp only [cond_true] at h ⊢
          cases ro with
          | none =>
            refine RFc.mono h (fun w' hh => hn _ _ _ (Off.refl _ e) nb hh) (fun i K hi => ?_) (fun w' hh => hr _ _ _ (Off.refl _ e) nb hh)
            rw [List.map_map] at hi ⊢
            exact mem_ids (f := fun i w' => ke i (.mark w.heap.size :: ds) e w') (g := fun i w' => ke' i (.mark w.heap.size :: ds) e w') hi fun i w' hh => he i _ _ _ (Off.refl _ e) nb hh
          | some l =>
            refine ⟨h.1, RFc.mono h.2 (fun w' hh => hn _ _ _ (Off.refl _ e) nb hh) (fun i K hi => ?_) (fun w' hh => hr _ _ _ (Off.refl _ e) nb hh)⟩
            exact mem_ids (f := fun i w' => ke i ds e w') (g := fun i w' => ke' i ds e w') hi fun i w' hh => he i _ _ _ (Off.refl _ e) nb hh
      · rename_i p q hp
        cases hb : Nat.blt p N && Nat.blt q N with
        | false => rw [hb] at h; exact h.elim
        | true =>
          rw [hb] at h
          simp only [cond_true] at h ⊢
          cases ro with
          | none =>
            refine RFc.mono h (fun w' hh => hn _ _ _ (Off.refl _ e) nb hh) (fun i K hi => ?_) (fun w' hh => hr _ _ _ (Off.refl _ e) nb hh)
            rw [List.map_map] at hi ⊢
            exact mem_ids (f := fun i w' => ke i (.mark w.heap.size :: ds) e w') (g := fun i w' => ke' i (.mark w.heap.size :: ds) e w') hi fun i w' hh => he i _ _ _ (Off.refl _ e) nb hh
          | some l =>
            refine ⟨h.1, RFc.mono h.2 (fun w' hh => hn _ _ _ (Off.refl _ e) nb hh) (fun i K hi => ?_) (fun w' hh => hr _ _ _ (Off.refl _ e) nb hh)⟩
            exact mem_ids (f := fun i w' => ke i ds e w') (g := fun i w' => ke' i ds e w') hi fun i w' hh => he i _ _ _ (Off.refl _ e) nb hh
      · exact h.elim
    | _ => simp only [wpC] at h
  | _ => intro an ro kn kn' ke ke' kr kr' ds e w _ _ _ _ h; cases an <;> simp only [wpC] at h

theorem opsC_soundK {P : Program} {N : Nat} {ds : List Deferred} {ro : Option Nat} {n : Nat} {ops : Array Oper} {Q : Exit → Act → World → Prop} : ∀ {l rest : List Oper} {k : Env → World → Prop} {e : Env} {a : Act} {w : World}, dstsOk N l = true → Rel N ds a e →
    (∀ e' a' w', Rel N ds a' e' → k e' w' → wpListIn (FW ro) n P ops Q rest a' w') → opsC P N ops l k e w → wpListIn (FW ro) n P ops Q (l ++ rest) a w
  | [], rest, k, e, a, w, _, hr, hk, h => hk _ _ _ hr h
  | o :: r, rest, k, e, a, w, hd, hr, hk, h => by
    simp only [dstsOk, Bool.and_eq_true] at hd
    have step : ∀ v w', opsC P N ops r k (putO e o.dst v) w' → wpListIn (FW ro) n P ops Q (r ++ rest) (a.put o.dst v) w' := fun v w' hh => opsC_soundK hd.2 (hr.putO hd.1 v) hk hh
    have hop : opC P o (ev e) w (fun v w' => opsC P N ops r k (putO e o.dst v) w') → o.wpIn (FW ro) n P a w (wpListIn (FW ro) n P ops Q (r ++ rest)) Q := fun hh => opC_sound hh hr.eval step
    simp only [opsC] at h
    rw [List.cons_append]
    unfold wpListIn
    cases hg : o.guard with
    | none =>
      simp only [hg] at h
      rw [if_pos (by simp [Region.wanted, hg])]
      exact hop h
    | some g =>
      obtain ⟨j, want⟩ := g
      simp only [hg] at h
      rcases h with ⟨h1, h2⟩ | ⟨h1, h2⟩
      · rw [if_pos (by simp [Region.wanted, hg, hr.yielded, h1])]
        exact hop h2
      · rw [if_neg (by simp [Region.wanted, hg, hr.yielded, h1])]
        exact ⟨fun _ _ => trivial, step _ _ h2⟩
theorem opsC_sound {P : Program} {N : Nat} {ds : List Deferred} {ro : Option Nat} {n : Nat} {ops : Array Oper} {Q : Exit → Act → World → Prop} {l : List Oper} {k : Env → World → Prop} {e : Env} {a : Act} {w : World} (hd : dstsOk N l = true) (hr : Rel N ds a e)
    (hk : ∀ e' a' w', Rel N ds a' e' → k e' w' → Q .normal a' w') (h : opsC P N ops l k e w) : wpListIn (FW ro) n P ops Q l a w := by
  have := opsC_soundK (ro := ro) (n := n) (rest := []) hd hr (fun e' a' w' h1 h2 => (by unfold wpListIn; exact hk _ _ _ h1 h2)) h
  rwa [List.append_nil] at this

theorem wpIn_scope_straight {ro : Option Nat} {P : Program} {Q : Exit → Act → World → Prop} {a : Act} {w : World} {c : Code} (h : c.wpIn (FW ro) 0 P (Exit.noGoto Q) a w) : (Code.scope c).wpIn (FW ro) 0 P Q a w := by
  intro b k cs hro hb hr
  have st1 : step P (lone (b.atR a (.code (.scope c) :: k)) cs w) = .next (lone (b.atR a (.code c :: .inScope c :: k)) cs w) := step_lone_go (by simp [stepG, stepG.exec, Frame.atR])
  have st2 : ∀ a w, step P (lone (b.atR a (.inScope c :: k)) cs w) = .next (lone (b.atR a k) cs w) := fun a w => step_lone_go (by simp [stepG, stepG.exec, Frame.atR])
  have h0 : (lone (b.atR a (.code (.scope c) :: k)) cs w).fenced P (FW ro) := fenced_calm hb hr rfl
  obtain ⟨e, a₁, w₁, hq, harr⟩ := h b (.inScope c :: k) cs hro hb hr
  cases e with
  | normal => exact ⟨.normal, a₁, w₁, hq, .head h0 st1 (StepsIn.trans harr (.one (fenced_calm hb hr rfl) (st2 _ _)))⟩
  | exit id =>
    have hx : exitTo id (.inScope c :: k) = exitTo id k := by simp [exitTo]
    exact ⟨.exit id, a₁, w₁, hq, fun k' hk => .head h0 st1 (harr.1 k' (by rw [hx]; exact hk)), fun hr' hk => let ⟨k₁, h1, h2⟩ := harr.2 hr' (by rw [hx]; exact hk); ⟨k₁, h1, .head h0 st1 h2⟩⟩
  | goto l => exact hq.elim
  | ret => exact ⟨_, a₁, w₁, hq, .of_steps (.one h0 st1) harr⟩
  | panic ch => exact ⟨_, a₁, w₁, hq, .of_steps (.one h0 st1) harr⟩
  | outgrown => exact ⟨_, a₁, w₁, hq, .of_steps (.one h0 st1) harr⟩

theorem Rel.mark {N : Nat} {ds : List Deferred} {a : Act} {e : Env} (h : Rel N ds a e) (d : Deferred) : Rel N (d :: ds) { a with defers := d :: a.defers } e := ⟨h.size, h.at_, by simp [h.defers]⟩
/-- A loop's record as its statement lays it. -/
def recO (fn : FuncId) (tmps : Array Value) (ps : Array Tmp) (assign body : Code) (dfs : Nat) : Loop := { state := .ready, pending := none, fn, tmps, params := ps, assign, body, defers := dfs }
theorem RFc.wp {P : Program} {N : Nat} {ro : Option Nat} {dds mark : List Deferred} {g : Operand} {ps : Array Tmp} {assign body : Code} {Q : Exit → Act → World → Prop} {e : Env} {a : Act} {w : World} {L : Nat} {w1 : Loop → World} {B : RB} {kn : World → Prop} {ke : List (Nat × (World → Prop))} {kr : World → Prop} {dfs : Nat}
    (hr : Rel N dds a e) (h : RFc P (ev e g) L w1 B kn ke kr)
    (henter : ∀ fn, (Instr.enterLoop fn a.tmps ps assign body ro).run P w = .ok (L, mark) (w1 (recO fn a.tmps ps assign body dfs)))
    (hB : ∀ (fn : FuncId) (vs : List Value) (W : World) (k : Value → World → Prop), B (recO fn a.tmps ps assign body dfs) L vs W
        (fun W' => W'.heap[L]? = some (lpO (recO fn a.tmps ps assign body dfs) .busy none) ∧ k (.bool true) (W'.putObj L (lpO (recO fn a.tmps ps assign body dfs) .ready none)))
        (fun i W' => W'.heap[L]? = some (lpO (recO fn a.tmps ps assign body dfs) .busy none) ∧ k (.bool false) (W'.putObj L (lpO (recO fn a.tmps ps assign body dfs) .done (some (.exit i)))))
        (fun W' => W'.heap[L]? = some (lpO (recO fn a.tmps ps assign body dfs) .busy none) ∧ k (.bool false) (W'.putObj L (lpO (recO fn a.tmps ps assign body dfs) .done (some .ret)))) →
      vs.length = ps.size ∧ assign.wpIn (FW (some L)) 0 P (Exit.then (fun a₁ w₁ => ∃ w₂, (Instr.beginRound L).run P w₁ = .ok () w₂ ∧ body.wpIn (FW (some L)) 0 P (roundPost P L fun e w' => ∃ v, e = .returned v ∧ k v w') a₁ w₂) (fun _ _ _ => False))
        { tmps := ((ps.zip vs.toArray).foldl (fun t (p, v) => t.setIfInBounds p v) a.tmps), defers := [] } W)
    (hn : ∀ w', kn w' → Q .normal { a with defers := mark ++ a.defers } w') (he : ∀ i K, (i, K) ∈ ke → ∀ w', K w' → Q (.exit i) { a with defers := mark ++ a.defers } w')
    (hret : ∀ w', kr w' → Q .ret { a with defers := mark ++ a.defers } w') : (Code.rangeFunc g ps assign body).wpIn (FW ro) 0 P Q a w := by
  refine wpIn_rangeFunc ?_
  intro fn _
  obtain ⟨gf, first, cap, hg, hb, hcall⟩ := h
  have hg' : a.eval g = .func (.func gf) first cap := by rw [hr.eval]; exact hg
  refine ⟨L, mark, w1 (recO fn a.tmps ps assign body dfs), { target := .fn (.func gf) cap, args := first ++ #[.func (.yield L) #[] #[]] }, w1 (recO fn a.tmps ps assign body dfs), gf, first ++ #[.func (.yield L) #[] #[]] ++ cap, w1 (recO fn a.tmps ps assign body dfs), henter fn, ?_, fun _ _ => trivial, ?_, fun hh => by simp [Fence.wide] at hh, ?_⟩
  · simp only [resolve, hg']
    simp [go_sem, Deferred.ofValue]
  · simp [invoke, run_callFunc hb]
  · refine callsIn_fw ((hcall _ ?_).mono ?_)
    · intro vs W k hBb hW
      obtain ⟨h1, h2⟩ := hB fn vs W k hBb
      exact .inr ⟨L, rfl, _, hW, by simpa [recO] using h1, roundIn_of_wpIn trivial h2⟩
    · rintro e' w' ⟨v, rfl, hE⟩
      rcases hE with ⟨h1, h2⟩ | ⟨⟨i, K⟩, hq, h1, h2⟩ | ⟨h1, h2⟩
      · exact ⟨none, _, run_endLoop h1 (by simp), hn _ h2⟩
      · exact ⟨some (.exit i), _, run_endLoop h1 (by simp), wpIn_exit (he i K hq _ h2)⟩
      · exact ⟨some .ret, _, run_endLoop h1 (by simp), wpIn_ret (hret _ h2)⟩

/-- What 'wpC_sound' says of a code. -/
def Snd (P : Program) (N : Nat) (c : Code) : Prop := ∀ {an : Ann} {ro : Option Nat} {kn : List Df → Env → World → Prop} {ke : Nat → List Df → Env → World → Prop} {kr : List Df → Env → World → Prop}
      {Q : Exit → Act → World → Prop} {ds : List Df} {e : Env} {a : Act} {w : World}, Rel N (ds.map Df.d) a e → (∀ ds' e' a' w', Rel N (ds'.map Df.d) a' e' → kn ds' e' w' → Q .normal a' w') →
      (∀ i ds' e' a' w', Rel N (ds'.map Df.d) a' e' → ke i ds' e' w' → Q (.exit i) a' w') → (∀ ds' e' a' w', Rel N (ds'.map Df.d) a' e' → kr ds' e' w' → Q .ret a' w') → wpC P N c an ro kn ke kr ds e w → c.wpIn (FW ro) 0 P Q a w

theorem round_sound {P : Program} {N : Nat} {assign body : Code} {aa ab : Ann} {rec : Loop} {L : Nat} {e : Env} {a : Act} {W : World} {k : Value → World → Prop} (iha : Snd P N assign) (ihb : Snd P N body) (hr : Rel N [] a e)
    (h : wpC P N assign aa (some L) (fun ds2 e2 w2 => Bgn rec L w2 fun w3 => wpC P N body ab (some L) (fun _ _ w4 => w4.heap[L]? = some (lpO rec .busy none) ∧ k (.bool true) (w4.putObj L (lpO rec .ready none)))
      (fun i _ _ w4 => w4.heap[L]? = some (lpO rec .busy none) ∧ k (.bool false) (w4.putObj L (lpO rec .done (some (.exit i))))) (fun _ _ w4 => w4.heap[L]? = some (lpO rec .busy none) ∧ k (.bool false) (w4.putObj L (lpO rec .done (some .ret)))) ds2 e2 w3)
      (fun _ _ _ _ => False) (fun _ _ _ => False) [] e W) :
    assign.wpIn (FW (some L)) 0 P (Exit.then (fun a₁ w₁ => ∃ w₂, (Instr.beginRound L).run P w₁ = .ok () w₂ ∧ body.wpIn (FW (some L)) 0 P (roundPost P L fun e w' => ∃ v, e = .returned v ∧ k v w') a₁ w₂) (fun _ _ _ => False)) a W := by
  refine iha (ds := []) hr ?_ (fun _ _ _ _ _ _ hh => hh.elim) (fun _ _ _ _ _ hh => hh.elim) h
  rintro ds2 e2 a2 w2 hr2 ⟨hW, hb⟩
  refine ⟨_, run_beginRound hW rfl, ihb hr2 ?_ ?_ ?_ hb⟩
  · rintro ds' e' a' w' _ ⟨h1, h2⟩
    exact ⟨_, _, run_endRound none h1, _, rfl, h2⟩
  · rintro i ds' e' a' w' _ ⟨h1, h2⟩
    exact ⟨_, _, run_endRound (some (.exit i)) h1, _, rfl, h2⟩
  · rintro ds' e' a' w' _ ⟨h1, h2⟩
    exact ⟨_, _, run_endRound (some .ret) h1, _, rfl, h2⟩

theorem blt_lt {p N : Nat} (h : Nat.blt p N = true) : p < N := by have := Nat.le_of_ble_eq_true h; omega
theorem Rel.round1 {N : Nat} {ds : List Deferred} {a : Act} {e : Env} (h : Rel N ds a e) {ps : Array Tmp} {p : Nat} (hp : ps.toList = [p]) (hlt : p < N) (v : Value) :
    Rel N [] { tmps := ((ps.zip #[v]).foldl (fun t (p, v) => t.setIfInBounds p v) a.tmps), defers := [] } (Sh.put e p v) := by
  have : ps = #[p] := by rw [← Array.toList_inj, hp]
  subst this
  have h0 : Rel N [] { a with defers := [] } e := ⟨h.size, h.at_, rfl⟩
  have h1 := h0.put hlt v
  have e1 : (#[p] : Array Tmp).zip #[v] = #[(p, v)] := by simp [Array.zip]
  rw [e1]
  exact h1
theorem Rel.round2 {N : Nat} {ds : List Deferred} {a : Act} {e : Env} (h : Rel N ds a e) {ps : Array Tmp} {p q : Nat} (hp : ps.toList = [p, q]) (hlt : p < N) (hlq : q < N) (u v : Value) :
    Rel N [] { tmps := ((ps.zip #[u, v]).foldl (fun t (p, v) => t.setIfInBounds p v) a.tmps), defers := [] } (Sh.put (Sh.put e p u) q v) := by
  have : ps = #[p, q] := by rw [← Array.toList_inj, hp]
  subst this
  have h0 : Rel N [] { a with defers := [] } e := ⟨h.size, h.at_, rfl⟩
  have h1 := (h0.put hlt u).put hlq v
  have e1 : (#[p, q] : Array Tmp).zip #[u, v] = #[(p, u), (q, v)] := by simp [Array.zip]
  rw [e1]
  exact h1

theorem wpC_sound {P : Program} {N : Nat} (hm : P.follows .mixedOrders = true) : ∀ {c : Code}, Snd P N c := by
  intro c
  induction c with
  | skip => intro an ro kn ke kr Q ds e a w hr hn he hret h; simp only [wpC] at h; exact wpIn_skip (hn _ _ _ _ hr h)
  | ret => intro an ro kn ke kr Q ds e a w hr hn he hret h; simp only [wpC] at h; exact wpIn_ret (hret _ _ _ _ hr h)
  | exit id => intro an ro kn ke kr Q ds e a w hr hn he hret h; simp only [wpC] at h; exact wpIn_exit (he _ _ _ _ _ hr h)
  | seq x y ihx ihy =>
    intro an ro kn ke kr Q ds e a w hr hn he hret h
    cases an with
    | seq ax ay =>
      simp only [wpC] at h
      exact wpIn_seq (ihx hr (fun ds1 e1 a1 w1 h1 hh => ihy h1 hn he hret hh) he hret h)
    | join ax live dead ay =>
      simp only [wpC] at h
      cases hcv : just (live ++ dead) x && noRF x with
      | false => rw [hcv] at h; exact h.elim
      | true =>
        rw [hcv] at h
        simp only [Bool.and_eq_true] at hcv
        simp only [cond_true] at h
        have h1 := h (fun l w' => ∀ e' a', Off (live ++ dead) e e' → live.map e' = l → Rel N (ds.map Df.d) a' e' → y.wpIn (FW ro) 0 P Q a' w') (All.intro fun l w' hwp e' a' ho hl hr' => by
          have := hwp e'
          rw [← hl, hav_self ho] at this
          exact ihy hr' hn he hret this)
        have h2 := wpC_mono (S := live ++ dead) (kn' := fun ds' e' w' => ∀ a', Rel N (ds'.map Df.d) a' e' → y.wpIn (FW ro) 0 P Q a' w') (ke' := ke) (kr' := kr) (just_cover hcv.1)
          (fun ds' e' w' ho hd hh a' hr' => hh e' a' ho rfl (by rw [← hd hcv.2]; exact hr')) (fun _ _ _ _ _ _ hh => hh) (fun _ _ _ _ _ hh => hh) h1
        exact wpIn_seq (ihx hr (fun ds1 e1 a1 w1 hr1 hh => hh a1 hr1) he hret h2)
    | joinD ax live dead ay =>
      simp only [wpC] at h
      cases hcv : just (live ++ dead) x with
      | false => rw [hcv] at h; exact h.elim
      | true =>
        rw [hcv] at h
        simp only [cond_true] at h
        have h1 := h (fun ds' l w' => ∀ e' a', Off (live ++ dead) e e' → live.map e' = l → Rel N (ds'.map Df.d) a' e' → y.wpIn (FW ro) 0 P Q a' w') (All.intro fun l ds' w' hwp e' a' ho hl hr' => by
          have := hwp e'
          rw [← hl, hav_self ho] at this
          exact ihy hr' hn he hret this)
        have h2 := wpC_mono (S := live ++ dead) (kn' := fun ds' e' w' => ∀ a', Rel N (ds'.map Df.d) a' e' → y.wpIn (FW ro) 0 P Q a' w') (ke' := ke) (kr' := kr) (just_cover hcv)
          (fun ds' e' w' ho _ hh a' hr' => hh e' a' ho rfl hr') (fun _ _ _ _ _ _ hh => hh) (fun _ _ _ _ _ hh => hh) h1
        exact wpIn_seq (ihx hr (fun ds1 e1 a1 w1 hr1 hh => hh a1 hr1) he hret h2)
    | _ => simp only [wpC] at h
  | cond c x y ihx ihy =>
    intro an ro kn ke kr Q ds e a w hr hn he hret h
    cases an with
    | cond ax ay =>
      simp only [wpC] at h
      rcases h with ⟨h1, h2⟩ | ⟨h1, h2⟩
      · exact wpIn_cond (t := true) (by rw [hr.eval]; exact h1) (ihx hr hn he hret h2)
      · exact wpIn_cond (t := false) (by rw [hr.eval]; exact h1) (ihy hr hn he hret h2)
    | _ => simp only [wpC] at h
  | label l => intro an ro kn ke kr Q ds e a w hr hn he hret h; simp only [wpC] at h; exact wpIn_label (hn _ _ _ _ hr h)
  | scope x ih =>
    intro an ro kn ke kr Q ds e a w hr hn he hret h
    cases an with
    | block ax =>
      simp only [wpC] at h
      exact wpIn_scope_straight (ih (Q := Exit.noGoto Q) hr hn he hret h)
    | _ => simp only [wpC] at h
  | block id x ih =>
    intro an ro kn ke kr Q ds e a w hr hn he hret h
    cases an with
    | block ax =>
      simp only [wpC] at h
      refine wpIn_block (ih hr hn (fun i ds' e' a' w' hr' hh => ?_) hret h)
      simp only [Exit.inBlock]
      by_cases hi : i = id
      · subst hi
        rw [if_pos rfl]
        simp only [Nat.beq_refl, cond_true] at hh
        exact hn _ _ _ _ hr' hh
      · rw [if_neg hi]
        have : Nat.beq i id = false := by
          cases hb : Nat.beq i id
          · rfl
          · exact absurd (Nat.eq_of_beq_eq_true hb) hi
        rw [this] at hh
        exact he _ _ _ _ _ hr' hh
    | _ => simp only [wpC] at h
  | loop x ih =>
    intro an ro kn ke kr Q ds e a w hr hn he hret h
    cases an with
    | loop ax live dead =>
      simp only [wpC] at h
      cases hcv : just (live ++ dead) x && noRF x with
      | false => rw [hcv] at h; exact h.elim
      | true =>
        rw [hcv] at h
        simp only [Bool.and_eq_true] at hcv
        simp only [cond_true] at h
        obtain ⟨I, μ, h0, hround⟩ := h
        refine wpIn_loop (fun a' w' => ∃ e', Rel N (ds.map Df.d) a' e' ∧ Off (live ++ dead) e e' ∧ I (live.map e') w') (fun a' w' => μ (live.map fun t => a'.tmps.getD t undef) w') ⟨e, hr, Off.refl _ e, h0⟩ ?_
        rintro a1 w1 ⟨e1, hr1, ho1, hI1⟩
        have hsp := All.spec hround (live.map e1) (by simp) e1 w1 hI1
        rw [hav_self ho1] at hsp
        have h2 := wpC_mono (S := live ++ dead) (kn' := fun ds' e' w'' => (I (live.map e') w'' ∧ μ (live.map e') w'' < μ (live.map e1) w1) ∧ Off (live ++ dead) e1 e' ∧ ds' = ds) (ke' := ke) (kr' := kr) (just_cover hcv.1)
          (fun ds' e' w' ho hd hh => ⟨hh, ho, hd hcv.2⟩) (fun _ _ _ _ _ _ hh => hh) (fun _ _ _ _ _ hh => hh) hsp
        refine ih hr1 (fun ds' e' a' w' hr' hh => ?_) he hret h2
        obtain ⟨⟨hI, hlt⟩, ho, rfl⟩ := hh
        refine ⟨⟨e', hr', ho1.trans ho, hI⟩, ?_⟩
        have e1' : (fun t => a1.tmps.getD t undef) = e1 := funext hr1.at_
        have e2' : (fun t => a'.tmps.getD t undef) = e' := funext hr'.at_
        show μ (live.map fun t => a'.tmps.getD t undef) w' < μ (live.map fun t => a1.tmps.getD t undef) w1
        rw [e1', e2']
        exact hlt
    | loopD ax live dead =>
      simp only [wpC] at h
      cases hcv : just (live ++ dead) x with
      | false => rw [hcv] at h; exact h.elim
      | true =>
        rw [hcv] at h
        simp only [cond_true] at h
        obtain ⟨I, μ, h0, hround⟩ := h
        refine wpIn_loop (fun a' w' => ∃ ds' e', Rel N (ds'.map Df.d) a' e' ∧ Off (live ++ dead) e e' ∧ I ds' (live.map e') w') (fun a' w' => μ (live.map fun t => a'.tmps.getD t undef) w') ⟨ds, e, hr, Off.refl _ e, h0⟩ ?_
        rintro a1 w1 ⟨ds1, e1, hr1, ho1, hI1⟩
        have hsp := All.spec hround (live.map e1) (by simp) e1 ds1 w1 hI1
        rw [hav_self ho1] at hsp
        have h2 := wpC_mono (S := live ++ dead) (kn' := fun ds' e' w'' => (I ds' (live.map e') w'' ∧ μ (live.map e') w'' < μ (live.map e1) w1) ∧ Off (live ++ dead) e1 e') (ke' := ke) (kr' := kr) (just_cover hcv)
          (fun ds' e' w' ho _ hh => ⟨hh, ho⟩) (fun _ _ _ _ _ _ hh => hh) (fun _ _ _ _ _ hh => hh) hsp
        refine ih hr1 (fun ds' e' a' w' hr' hh => ?_) he hret h2
        obtain ⟨⟨hI, hlt⟩, ho⟩ := hh
        refine ⟨⟨ds', e', hr', ho1.trans ho, hI⟩, ?_⟩
        have e1' : (fun t => a1.tmps.getD t undef) = e1 := funext hr1.at_
        have e2' : (fun t => a'.tmps.getD t undef) = e' := funext hr'.at_
        show μ (live.map fun t => a'.tmps.getD t undef) w' < μ (live.map fun t => a1.tmps.getD t undef) w1
        rw [e1', e2']
        exact hlt
    | _ => simp only [wpC] at h
  | region id ops d =>
    intro an ro kn ke kr Q ds e a w hr hn he hret h
    cases d with
    | false =>
      cases an with
      | leaf =>
        simp only [wpC] at h
        cases hd : dstsOk N ops.toList && !anyDefer ops.toList with
        | false => rw [hd] at h; exact h.elim
        | true => rw [hd] at h; simp only [Bool.and_eq_true] at hd; simp only [cond_true] at h; exact wpIn_region_list (opsC_sound hd.1 hr (fun e' a' w' h1 h2 => hn ds e' a' w' h1 h2) h)
      | dfr =>
        cases ro with
        | some l => simp only [wpC] at h
        | none =>
        simp only [wpC] at h
        split at h
        · rename_i o ho
          split at h
          · rename_i c h1 h2
            cases hd : dstsOk N ops.toList && !anyDefer ops.toList.dropLast with
            | false => rw [hd] at h; exact h.elim
            | true =>
              rw [hd] at h
              simp only [Bool.and_eq_true] at hd
              simp only [cond_true] at h
              have hne : ops.toList ≠ [] := fun h0 => by rw [h0] at ho; cases ho
              have hlast : ops.toList.getLast hne = o := by rw [List.getLast?_eq_some_getLast hne] at ho; exact Option.some.inj ho
              have hsplit := List.dropLast_concat_getLast hne
              rw [hlast] at hsplit
              have hds : dstsOk N ops.toList.dropLast = true ∧ dstsOk N [o] = true := by
                have key : ∀ l m : List Oper, dstsOk N (l ++ m) = true → dstsOk N l = true ∧ dstsOk N m = true := by
                  intro l m
                  induction l with
                  | nil => exact fun h => ⟨rfl, h⟩
                  | cons x r ih =>
                    intro h
                    simp only [List.cons_append, dstsOk, Bool.and_eq_true] at h ⊢
                    exact ⟨⟨h.1, (ih h.2).1⟩, (ih h.2).2⟩
                exact key _ _ (by rw [hsplit]; exact hd.1)
              refine wpIn_region_list ?_
              have := opsC_soundK (ro := none) (n := 0) (rest := [o]) (Q := Q) hds.1 hr (fun e' a' w' hr' hh => ?_) h
              · rwa [hsplit] at this
              · cases hdf : dfOf (ev e') c with
                | none => rw [hdf] at hh; exact hh.elim
                | some d =>
                  rw [hdf] at hh
                  have hres : (resolve a'.eval c o.type).run P w' = .ok d.d w' := by
                    rw [hr'.eval]
                    unfold dfOf at hdf
                    unfold resolve
                    split at hdf
                    · rename_i f hf
                      split at hdf
                      · rename_i g first cap hfv
                        cases hdf
                        simp [hf, hfv, Deferred.ofValue, Df.d]
                      · cases hdf
                    · cases hdf
                  have hd2 := hds.2
                  simp only [dstsOk, Bool.and_true] at hd2
                  unfold wpListIn
                  rw [if_pos (by simp [Region.wanted, h2])]
                  refine ⟨fun _ _ => trivial, ?_⟩
                  have hex : (o.semAt (FW none).round a'.eval).run P w' = .ok (.defer d.d) w' := by
                    obtain ⟨dst, op, type, pos, after, guard⟩ := o
                    simp only at h1
                    subst h1
                    rw [show (FW none).round = none from rfl, Oper.semAt_none]
                    simp [execOp, hres]
                  rw [hex]
                  show wpListIn (FW none) 0 P ops Q [] _ w'
                  unfold wpListIn
                  exact hn (d :: ds) _ _ _ ((hr'.mark d.d).putO hd2 undef) hh
          · exact h.elim
        · exact h.elim
      | _ => simp only [wpC] at h
    | true =>
      cases an with
      | draw A T =>
        simp only [wpC] at h
        cases hd : planOk P N ops A T && !anyDefer ops.toList with
        | false => rw [hd] at h; exact h.elim
        | true => rw [hd] at h; simp only [Bool.and_eq_true] at hd; simp only [cond_true] at h; exact draw_wp hd.1 hm hr h (fun e' a' w' h1 h2 => hn ds e' a' w' h1 h2)
      | _ => simp only [wpC] at h
  | rangeFunc g ps x y ihx ihy =>
    intro an ro kn ke kr Q ds e a w hr hn he hret h
    cases an with
    | rf aa ab ids =>
      simp only [wpC] at h
      have outer : ∀ fn, (Instr.enterLoop fn a.tmps ps x y none).run P w = .ok (w.heap.size + 1, [{ target := .collected w.heap.size, args := #[] }])
          ((w.alloc (.deferred (some []))).alloc (lpO (recO fn a.tmps ps x y w.heap.size) .ready none)) := fun fn => run_enterLoop_outer _ _ _ _ _
      split at h
      · rename_i p hp
        cases hb : Nat.blt p N with
        | false => rw [hb] at h; exact h.elim
        | true =>
          rw [hb] at h
          simp only [cond_true] at h
          have hps : ps.size = 1 := by rw [← Array.length_toList, hp]; rfl
          cases ro with
          | none =>
            refine RFc.wp (ro := none) hr h outer ?_ (fun w' hh => hn (.mark w.heap.size :: ds) e _ w' (hr.mark (Df.mark w.heap.size).d) hh) ?_ (fun w' hh => hret (.mark w.heap.size :: ds) e _ w' (hr.mark (Df.mark w.heap.size).d) hh)
            · intro fn vs W k hBb
              match vs, hBb with
              | [v], hBb => exact ⟨by rw [hps]; rfl, round_sound ihx ihy (hr.round1 hp (blt_lt hb) v) hBb⟩
            · intro i K hi w' hh
              rw [List.map_map] at hi
              obtain ⟨i', _, hx⟩ := List.mem_map.1 hi
              cases hx
              exact he _ (.mark w.heap.size :: ds) e _ w' (hr.mark (Df.mark w.heap.size).d) hh
          | some l =>
            obtain ⟨⟨r', hr'⟩, h⟩ := h
            refine RFc.wp (ro := some l) hr h (fun fn => run_enterLoop_inner hr' _ _ _ _ _) ?_ (fun w' hh => hn _ _ _ _ hr hh) ?_ (fun w' hh => hret _ _ _ _ hr hh)
            · intro fn vs W k hBb
              match vs, hBb with
              | [v], hBb => exact ⟨by rw [hps]; rfl, round_sound ihx ihy (hr.round1 hp (blt_lt hb) v) hBb⟩
            · intro i K hi w' hh
              obtain ⟨i', _, hx⟩ := List.mem_map.1 hi
              cases hx
              exact he _ _ _ _ _ hr hh
      · rename_i p q hp
        cases hb : Nat.blt p N && Nat.blt q N with
        | false => rw [hb] at h; exact h.elim
        | true =>
          rw [hb] at h
          simp only [Bool.and_eq_true] at hb
          simp only [cond_true] at h
          have hps : ps.size = 2 := by rw [← Array.length_toList, hp]; rfl
          cases ro with
          | none =>
            refine RFc.wp (ro := none) hr h outer ?_ (fun w' hh => hn (.mark w.heap.size :: ds) e _ w' (hr.mark (Df.mark w.heap.size).d) hh) ?_ (fun w' hh => hret (.mark w.heap.size :: ds) e _ w' (hr.mark (Df.mark w.heap.size).d) hh)
            · intro fn vs W k hBb
              match vs, hBb with
              | [u, v], hBb => exact ⟨by rw [hps]; rfl, round_sound ihx ihy (hr.round2 hp (blt_lt hb.1) (blt_lt hb.2) u v) hBb⟩
            · intro i K hi w' hh
              rw [List.map_map] at hi
              obtain ⟨i', _, hx⟩ := List.mem_map.1 hi
              cases hx
              exact he _ (.mark w.heap.size :: ds) e _ w' (hr.mark (Df.mark w.heap.size).d) hh
          | some l =>
            obtain ⟨⟨r', hr'⟩, h⟩ := h
            refine RFc.wp (ro := some l) hr h (fun fn => run_enterLoop_inner hr' _ _ _ _ _) ?_ (fun w' hh => hn _ _ _ _ hr hh) ?_ (fun w' hh => hret _ _ _ _ hr hh)
            · intro fn vs W k hBb
              match vs, hBb with
              | [u, v], hBb => exact ⟨by rw [hps]; rfl, round_sound ihx ihy (hr.round2 hp (blt_lt hb.1) (blt_lt hb.2) u v) hBb⟩
            · intro i K hi w' hh
              obtain ⟨i', _, hx⟩ := List.mem_map.1 hi
              cases hx
              exact he _ _ _ _ _ hr hh
      · exact h.elim
    | _ => simp only [wpC] at h
  | _ => intro an ro kn ke kr Q ds e a w _ _ _ _ h; cases an <;> simp only [wpC] at h

/-- A function's slots at its start. -/
def env0 (args : List Value) : Env := fun t => args.getD t undef
/-- A function's results, read behind its body. -/
def retK (P : Program) : List ResultVar → Env → World → (List Value → Prop) → Prop
  | [], _, _, k => k []
  | .tmp t :: r, e, w, k => retK P r e w fun l => k (e t :: l)
  | .cell a t :: r, e, w, k => match aggSize P t with
    | some n => LdA P n (e a) w fun v => retK P r e w fun l => k (v :: l)
    | none => bif scal P t then Ld (e a) w fun v => retK P r e w fun l => k (v :: l) else False
def tup : List Value → Value
  | [x] => x
  | l => .tuple l.toArray
def fnC (P : Program) (N : Nat) (c : Code) (an : Ann) (rs : List ResultVar) (args : List Value) (w : World) (R : Value → World → Prop) : Prop :=
  wpC P N c an none (fun ds e w' => Lvs P ds w' fun w'' => retK P rs e w'' fun l => R (tup l) w'') (fun _ _ _ _ => False) (fun ds e w' => Lvs P ds w' fun w'' => retK P rs e w'' fun l => R (tup l) w'') [] (env0 args) w

theorem Ld.loadVar {P : Program} {t : TypeId} {p : Value} {w : World} {k : Value → Prop} (hs : scal P t = true) (h : Ld p w k) :
    ∃ a v, p = .pointer (some a) ∧ (Go.loadVar t a).run P w = .ok v w ∧ k v := by
  obtain ⟨a, v, rfl, hc, hk⟩ := h
  refine ⟨a, v, rfl, ?_, hk⟩
  unfold Go.loadVar
  simp only [Sem.run_bind, Result.andThen_ok, run_isAgg_scal hs]
  exact run_load_cell hc
theorem LdA.loadVar {P : Program} {t : TypeId} {n : Nat} {p : Value} {w : World} {k : Value → Prop} (hs : aggSize P t = some n) (h : LdA P n p w k) :
    ∃ a v, p = .pointer (some a) ∧ (Go.loadVar t a).run P w = .ok v w ∧ k v := by
  obtain ⟨a, cs, rfl, hc, hk⟩ := h
  refine ⟨a, _, rfl, ?_, hk⟩
  unfold Go.loadVar
  simp [Sem.run_bind, (aggSize_spec hs w).1, (aggSize_spec hs w).2, hc]

def rvSem (tmps : Array Value) : ResultVar → Sem Value
  | .tmp t => pure (tmps.getD t undef)
  | .cell b t => do Go.loadVar t (← asAddr (tmps.getD b undef))

theorem retK_run {P : Program} {N : Nat} {dds : List Deferred} {a : Act} {e : Env} {w : World} (hr : Rel N dds a e) : ∀ {rs : List ResultVar} {k : List Value → Prop}, retK P rs e w k →
    ∃ l, (rs.mapM (m := Sem) (rvSem a.tmps)).run P w = .ok l w ∧ k l
  | [], k, h => ⟨[], rfl, h⟩
  | .tmp t :: r, k, h => by
    obtain ⟨l, h1, h2⟩ := retK_run hr (rs := r) h
    refine ⟨e t :: l, ?_, h2⟩
    rw [List.mapM_cons]
    simp only [rvSem, Sem.run_bind, Sem.run_pure, Result.andThen_ok, h1]
    rw [hr.at_]
  | .cell b t :: r, k, h => by
    simp only [retK] at h
    have go : (∃ ad v, e b = .pointer (some ad) ∧ (Go.loadVar t ad).run P w = .ok v w ∧ retK P r e w fun l => k (v :: l)) →
        ∃ l, ((ResultVar.cell b t :: r).mapM (m := Sem) (rvSem a.tmps)).run P w = .ok l w ∧ k l := by
      rintro ⟨ad, v, he, hl, hk⟩
      obtain ⟨l, h1, h2⟩ := retK_run hr (rs := r) hk
      refine ⟨v :: l, ?_, h2⟩
      have hb : a.tmps.getD b undef = .pointer (some ad) := by rw [hr.at_]; exact he
      have h3 : (asAddr (a.tmps.getD b undef)).run P w = .ok ad w := by rw [hb]; rfl
      rw [List.mapM_cons]
      simp only [rvSem, Sem.run_bind, Sem.run_pure, Result.andThen_ok, h3, hl, h1]
    split at h
    · rename_i n hn; exact go (LdA.loadVar hn h)
    · cases hs : scal P t with
      | false => rw [hs] at h; exact h.elim
      | true => rw [hs] at h; exact go (Ld.loadVar hs h)

theorem results_run {P : Program} {fn : Func} {N : Nat} {dds : List Deferred} {a : Act} {e : Env} {w : World} (hr : Rel N dds a e) {k : List Value → Prop} (h : retK P fn.results.toList e w k) :
    ∃ l, (results fn a.tmps).run P w = .ok (tup l) w ∧ k l := by
  obtain ⟨l, h1, h2⟩ := retK_run hr h
  refine ⟨l, ?_, h2⟩
  have hm : (fn.results.mapM (m := Sem) (rvSem a.tmps)).run P w = .ok l.toArray w := by
    rw [Array.mapM_eq_mapM_toList]
    simp only [map_eq_pure_bind, Sem.run_bind, Sem.run_pure]
    rw [h1]
    rfl
  have hrs : results fn a.tmps = (do let vs ← fn.results.mapM (rvSem a.tmps); pure (if h : vs.size = 1 then vs[0] else .tuple vs)) := by
    unfold results
    rfl
  rw [hrs, Sem.run_bind, hm, Result.andThen_ok]
  match l with
  | [] => rfl
  | [x] => rfl
  | x :: y :: r => simp [tup]

theorem leaves_of {P : Program} {fn : Func} {tmps : Array Value} {R : Ending → World → Prop} : ∀ {ds : List Df} {w : World} {k : World → Prop}, Lvs P ds w k → (∀ w', k w' → ∃ v, (results fn tmps).run P w' = .ok v w' ∧ R (.returned v) w') →
    LeavesInM (FW none) 0 P fn tmps R (ds.map Df.d) .returning w
  | [], w, k, h, hk => hk w h
  | .mark D :: r, w, k, h, hk => ⟨by simp, .inl ⟨D, _, rfl, run_takeDeferred h.1, leaves_of h.2 hk⟩⟩
  | .call f cap args :: r, w, k, h, hk => by
    refine ⟨by simp, .inr ⟨fun hh => by simp [FW, Fence.wide] at hh, .func f, cap, f, args ++ cap, rfl, ?_, fun _ _ => trivial, h.2.mono fun e u' w' hh => ?_⟩⟩
    · simp [Df.d, invoke, run_callFunc h.1]
    · obtain ⟨rfl, ⟨v, rfl⟩, hk'⟩ := hh
      exact leaves_of hk' hk
theorem rel0 {fn : Func} {args : Array Value} (hn : args.size ≤ fn.ntmps) : Rel fn.ntmps [] { tmps := args ++ Array.replicate (fn.ntmps - args.size) undef, defers := [] } (env0 args.toList) := by
  refine ⟨by simp; omega, fun t => ?_, rfl⟩
  simp only [env0, Array.getD_eq_getD_getElem?, List.getD_eq_getElem?_getD, Array.getElem?_append, Array.getElem?_replicate]
  by_cases ht : t < args.size
  · simp [ht]
  · have : args.toList[t]? = none := by simp; omega
    rw [if_neg ht, this]
    split <;> rfl
theorem fnC_calls {P : Program} (hm : P.follows .mixedOrders = true) {f : FuncId} {fn : Func} {c : Code} {an : Ann} {args : Array Value} {w : World} {R : Value → World → Prop}
    (hf : P.funcs[f]? = some fn) (hb : fn.body = some c) (hn : args.size ≤ fn.ntmps) (h : fnC P fn.ntmps c an fn.results.toList args.toList w R) : Ca P f args w R := by
  refine callsIn_wide (n := 0).1 (callsIn_of_wp_marks (F := FW none) hf hb trivial ?_)
  refine wpC_sound hm (ds := []) (rel0 hn) ?_ ?_ ?_ h
  · intro ds' e' a' w' hr' hh
    show LeavesInM _ _ _ _ _ _ a'.defers _ _
    rw [hr'.defers]
    exact leaves_of hh fun w'' hk => by obtain ⟨l, h1, h2⟩ := results_run hr' hk; exact ⟨_, h1, _, rfl, h2⟩
  · intro i ds' e' a' w' _ hh; exact hh.elim
  · intro ds' e' a' w' hr' hh
    show LeavesInM _ _ _ _ _ _ a'.defers _ _
    rw [hr'.defers]
    exact leaves_of hh fun w'' hk => by obtain ⟨l, h1, h2⟩ := results_run hr' hk; exact ⟨_, h1, _, rfl, h2⟩
/-- The slots that a code writes. -/
def slots : Code → List Nat
  | .region _ ops _ => ops.toList.filterMap (·.dst)
  | .seq a b | .cond _ a b => slots a ++ slots b
  | .block _ a | .loop a | .scope a => slots a
  | _ => []
theorem memN_mono {S T : List Nat} (h : ∀ t, t ∈ S → t ∈ T) {t : Nat} (ht : memN S t = true) : memN T t = true := memN_iff.2 (h t (memN_iff.1 ht))
theorem coverL_mono {S T : List Nat} (h : ∀ t, t ∈ S → t ∈ T) : ∀ {l : List Oper}, coverL S l = true → coverL T l = true
  | [], _ => rfl
  | o :: r, hc => by
    simp only [coverL, Bool.and_eq_true] at hc ⊢
    refine ⟨?_, coverL_mono h hc.2⟩
    cases ho : o.dst with
    | none => rfl
    | some d => have := hc.1; rw [ho] at this; exact memN_mono h this
theorem cover_mono {S T : List Nat} (h : ∀ t, t ∈ S → t ∈ T) : ∀ {c : Code}, cover S c = true → cover T c = true := by
  intro c
  induction c with
  | region id ops d => exact coverL_mono h
  | seq x y ihx ihy => intro hc; simp only [cover, Bool.and_eq_true] at hc ⊢; exact ⟨ihx hc.1, ihy hc.2⟩
  | cond _ x y ihx ihy => intro hc; simp only [cover, Bool.and_eq_true] at hc ⊢; exact ⟨ihx hc.1, ihy hc.2⟩
  | block id x ih => exact ih
  | loop x ih => exact ih
  | scope x ih => exact ih
  | _ => intro _; rfl
theorem coverL_slots : ∀ (l : List Oper), coverL (l.filterMap (·.dst)) l = true
  | [] => rfl
  | o :: r => by
    simp only [coverL, Bool.and_eq_true]
    cases ho : o.dst with
    | none => exact ⟨rfl, by simp only [List.filterMap_cons, ho]; exact coverL_slots r⟩
    | some d =>
      simp only [List.filterMap_cons, ho]
      exact ⟨memN_iff.2 List.mem_cons_self, coverL_mono (fun t ht => List.mem_cons_of_mem _ ht) (coverL_slots r)⟩
theorem cover_slots : ∀ (c : Code), cover (slots c) c = true := by
  intro c
  induction c with
  | region id ops d => exact coverL_slots _
  | seq x y ihx ihy => simp only [cover, slots, Bool.and_eq_true]; exact ⟨cover_mono (fun t ht => List.mem_append_left _ ht) ihx, cover_mono (fun t ht => List.mem_append_right _ ht) ihy⟩
  | cond _ x y ihx ihy => simp only [cover, slots, Bool.and_eq_true]; exact ⟨cover_mono (fun t ht => List.mem_append_left _ ht) ihx, cover_mono (fun t ht => List.mem_append_right _ ht) ihy⟩
  | block id x ih => exact ih
  | loop x ih => exact ih
  | scope x ih => exact ih
  | _ => rfl
/-- The same function, called by a 'defer'. -/
theorem fnC_callsD {P : Program} (hm : P.follows .mixedOrders = true) {f : FuncId} {fn : Func} {c : Code} {an : Ann} {args : Array Value} {w : World} {R : Value → World → Prop}
    (hf : P.funcs[f]? = some fn) (hb : fn.body = some c) (hn : args.size ≤ fn.ntmps) (hno : noRF c = true) (h : fnC P fn.ntmps c an fn.results.toList args.toList w R) : CaD P f args w fun w' => ∃ v, R v w' := by
  have h' : c.wpIn (FW none) 0 P (bodyPost P fn fun e w' => ∃ v, e = .returned v ∧ R v w') { tmps := args ++ Array.replicate (fn.ntmps - args.size) undef, defers := [] } w := by
    refine wpC_sound hm (ds := []) (rel0 hn) ?_ ?_ ?_ (wpC_mono (S := slots c) (cover_slots c) (kn' := fun ds e w' => ds = [] ∧ retK P fn.results.toList e w' fun l => R (tup l) w') (ke' := fun _ _ _ _ => False)
      (kr' := fun ds e w' => ds = [] ∧ retK P fn.results.toList e w' fun l => R (tup l) w') (fun ds' e' w' _ hd hh => ?_) (fun _ _ _ _ _ _ hh => hh) (fun ds' e' w' _ hd hh => ?_) h)
    · rintro ds' e' a' w' hr' ⟨rfl, hh⟩
      obtain ⟨l, h1, h2⟩ := results_run hr' hh
      exact ⟨hr'.defers, _, h1, _, rfl, h2⟩
    · intro i ds' e' a' w' _ hh; exact hh.elim
    · rintro ds' e' a' w' hr' ⟨rfl, hh⟩
      obtain ⟨l, h1, h2⟩ := results_run hr' hh
      exact ⟨hr'.defers, _, h1, _, rfl, h2⟩
    · obtain rfl := hd hno; exact ⟨rfl, hh⟩
    · obtain rfl := hd hno; exact ⟨rfl, hh⟩
  exact (callsDIn_of_wp (F := FW none) (u := .returning) hf hb trivial h').mono fun e u' w' ⟨hu, v, he, hR⟩ => ⟨hu, ⟨v, he⟩, v, hR⟩

end Go.Sh
