/-
  The shallow layer, part 3: regions. In the text's order; and where the model draws the order: one canonical order, its reads checked again behind each effect that they are not ordered with, stands for all.
-/
import Derived.Test.YtnnhmahemklnkaaDoorSh2
namespace Go.Sh
open Go

/-- The operation leaves the world alone. -/
def calm (P : Program) (o : Oper) : Bool :=
  match o.op with
  | .move _ | .assign _ | .pick .. | .load .. | .nilCheck _ | .fieldAddr .. | .extract .. | .unOp .. | .binOp .. | .makeFunc .. | .makeInterface ..
  | .slice .. | .field .. | .indexAddr .. | .index .. | .lookup .. | .build .. | .entry _ => true
  | .convert s d _ => match P.underlying s, P.underlying d with
    | some (.int _), some (.int _) => true
    | some .string, some .string => true
    | some (.slice _), some .string => true
    | _, _ => false
  | .call c => match c.callee with
    | .builtin .len | .builtin .cap | .builtin .min | .builtin .max => true
    | _ => false
  | _ => false
/-- .. and does not look at it. -/
def wless (P : Program) (o : Oper) : Bool :=
  match o.op with
  | .move _ | .assign _ | .pick .. | .nilCheck _ | .fieldAddr .. | .extract .. | .unOp .. | .makeFunc .. | .makeInterface ..
  | .field .. | .indexAddr .. | .build .. => true
  | .binOp _ t _ _ _ => match kd P t with
    | .int | .str | .bool => true
    | _ => false
  | .slice t _ _ _ mx => match mx with
    | some _ => false
    | none => match kd P t with
      | .str | .slice _ => true
      | _ => false
  | .index t _ _ => match kd P t with
    | .str => true
    | _ => false
  | .convert s d _ => match P.underlying s, P.underlying d with
    | some (.int _), some (.int _) => true
    | some .string, some .string => true
    | _, _ => false
  | .call c => match c.callee with
    | .builtin .len => match c.argTypes.toList with
      | [t] => match kd P t with
        | .str | .slice _ => true
        | _ => false
      | _ => false
    | .builtin .cap | .builtin .min | .builtin .max => true
    | _ => false
  | _ => false

theorem calm_spec {P : Program} {o : Oper} {ρ : Operand → Value} {w : World} {k : Value → World → Prop} (hc : calm P o = true) (h : opC P o ρ w k) :
    ∃ v, k v w ∧ ∀ k' : Value → World → Prop, k' v w → opC P o ρ w k' := by
  obtain ⟨dst, op, type, pos, after, guard⟩ := o
  have rd : ∀ s : Sem Value, (Rd P s w fun v => k v w) → ∃ v, k v w ∧ ∀ k' : Value → World → Prop, k' v w → (Rd P s w fun v' => k' v' w) := fun s ⟨v, hv, h⟩ => ⟨v, h, fun _ hk => ⟨v, hv, hk⟩⟩
  have cn : ∀ (b : Bool) (A : Prop) (B : (Value → World → Prop) → Prop), (A → ∃ v, k v w ∧ ∀ k' : Value → World → Prop, k' v w → B k') → (bif b then A else False) →
      ∃ v, k v w ∧ ∀ k' : Value → World → Prop, k' v w → (bif b then B k' else False) := by
    intro b A B hh h; cases b with
    | false => exact h.elim
    | true => exact hh h
  have ifc : ∀ d : Option TypeDesc, ∀ u : Value, (match d with | some (.interface _) | none => False | _ => k u w) →
      ∃ v, k v w ∧ ∀ k' : Value → World → Prop, k' v w → (match d with | some (.interface _) | none => False | _ => k' u w) := by
    intro d u h
    cases d with
    | none => exact h.elim
    | some d => cases d <;> first | exact h.elim | exact ⟨u, h, fun _ hk => hk⟩
  unfold calm at hc
  cases op
  all_goals (try exact absurd hc Bool.false_ne_true)
  all_goals simp only [opC] at h ⊢
  case slice t x lo hi mx =>
    cases mx with
    | some m => exact rd _ h
    | none =>
      (try simp only at h ⊢)
      split at h
      · obtain ⟨s, l, hh, h1, h2, h3, h4, h5, h6⟩ := h; exact ⟨_, h6, fun _ hk => ⟨s, l, hh, h1, h2, h3, h4, h5, hk⟩⟩
      · obtain ⟨a, len, cap, l, hh, h1, h2, h3, h4, h5, h6⟩ := h; exact ⟨_, h6, fun _ hk => ⟨a, len, cap, l, hh, h1, h2, h3, h4, h5, hk⟩⟩
      · exact rd _ h
  case convert s d x =>
    (try simp only at hc)
    split at hc
    · rename_i h1 h2; simp only [h1, h2] at h ⊢; obtain ⟨kk, n, he, hk⟩ := h; exact ⟨_, hk, fun _ hk => ⟨kk, n, he, hk⟩⟩
    · rename_i h1 h2; simp only [h1, h2] at h ⊢; obtain ⟨st, he, hk⟩ := h; exact ⟨_, hk, fun _ hk => ⟨st, he, hk⟩⟩
    · rename_i h1 h2; simp only [h1, h2] at h ⊢; exact rd _ h
    · cases hc
  case call c =>
    obtain ⟨callee, args, tys⟩ := c
    cases callee with
    | value f => exact absurd hc Bool.false_ne_true
    | invoke r m => exact absurd hc Bool.false_ne_true
    | builtin b =>
      cases b
      all_goals (try exact absurd hc Bool.false_ne_true)
      all_goals (try simp only at h ⊢)
      all_goals repeat' split at h
      all_goals first
        | exact h.elim
        | exact rd _ h
        | (obtain ⟨a, h1, h2⟩ := h; exact ⟨_, h2, fun _ hk => ⟨a, h1, hk⟩⟩)
        | (obtain ⟨a, b, c, h1, h2⟩ := h; exact ⟨_, h2, fun _ hk => ⟨a, b, c, h1, hk⟩⟩)
        | (obtain ⟨a, b, c, h1, h2, h3⟩ := h; exact ⟨_, h3, fun _ hk => ⟨a, b, c, h1, h2, hk⟩⟩)
  all_goals repeat' split at h
  all_goals first
    | exact h.elim
    | exact rd _ h
    | exact ⟨_, h, fun _ hk => hk⟩
    | exact ifc _ _ h
    | exact cn _ _ _ (fun ⟨a, v, h1, h2, h3⟩ => ⟨v, h3, fun _ hk => ⟨a, v, h1, h2, hk⟩⟩) h
    | exact cn _ _ _ (fun ⟨a, v, h1, h2, h3⟩ => ⟨_, h3, fun _ hk => ⟨a, v, h1, h2, hk⟩⟩) h
    | (obtain ⟨a, h1⟩ := h; exact ⟨_, h1, fun _ hk => ⟨a, hk⟩⟩)
    | (obtain ⟨a, h1, h2⟩ := h; exact ⟨_, h2, fun _ hk => ⟨a, h1, hk⟩⟩)
    | (obtain ⟨a, b, h1, h2⟩ := h; exact ⟨_, h2, fun _ hk => ⟨a, b, h1, hk⟩⟩)
    | (obtain ⟨a, b, h1, h2, h3⟩ := h; exact ⟨_, h3, fun _ hk => ⟨a, b, h1, h2, hk⟩⟩)
    | (obtain ⟨s, l, hh, h1, h2, h3, h4, h5, h6⟩ := h; exact ⟨_, h6, fun _ hk => ⟨s, l, hh, h1, h2, h3, h4, h5, hk⟩⟩)
    | (obtain ⟨a, len, cap, l, hh, h1, h2, h3, h4, h5, h6⟩ := h; exact ⟨_, h6, fun _ hk => ⟨a, len, cap, l, hh, h1, h2, h3, h4, h5, hk⟩⟩)
    | (obtain ⟨a, len, cap, kk, n, h1, h2, h3, h4, h5⟩ := h; exact ⟨_, h5, fun _ hk => ⟨a, len, cap, kk, n, h1, h2, h3, h4, hk⟩⟩)
    | (obtain ⟨a, kk, n, h1, h2, h3, h4, h5⟩ := h; exact ⟨_, h5, fun _ hk => ⟨a, kk, n, h1, h2, h3, h4, hk⟩⟩)
    | (obtain ⟨s, kk, n, b, h1, h2, h3, h4, h5⟩ := h; exact ⟨_, h5, fun _ hk => ⟨s, kk, n, b, h1, h2, h3, h4, hk⟩⟩)

theorem wless_spec {P : Program} {o : Oper} {ρ : Operand → Value} {w : World} {v : Value} (hc : wless P o = true) (h : opC P o ρ w (fun v' _ => v' = v)) (w2 : World)
    {k' : Value → World → Prop} (hk : k' v w2) : opC P o ρ w2 k' := by
  obtain ⟨dst, op, type, pos, after, guard⟩ := o
  have tr : ∀ {u}, u = v → k' u w2 := fun h => h ▸ hk
  have cn : ∀ (b : Bool) (A B : Prop), (A → B) → (bif b then A else False) → (bif b then B else False) := by
    intro b A B hh h; cases b with
    | false => exact h.elim
    | true => exact hh h
  have ifc : ∀ d : Option TypeDesc, ∀ A B : Prop, (A → B) → (match d with | some (.interface _) | none => False | _ => A) → (match d with | some (.interface _) | none => False | _ => B) := by
    intro d A B hh h
    cases d with
    | none => exact h.elim
    | some d => cases d <;> first | exact h.elim | exact hh h
  unfold wless at hc
  cases op
  all_goals (try exact absurd hc Bool.false_ne_true)
  all_goals simp only [opC] at h ⊢
  case binOp op t x y z =>
    (try simp only at hc)
    split at hc
    · rename_i h1; simp only [h1] at h ⊢; exact (fun ⟨u, h2, h3⟩ => ⟨u, h2, tr h3⟩) h
    · rename_i h1; simp only [h1] at h ⊢; exact (fun ⟨u, h2, h3⟩ => ⟨u, h2, tr h3⟩) h
    · rename_i h1; simp only [h1] at h ⊢
      split at h
      · exact (fun ⟨p, q, h2, h3, h4⟩ => ⟨p, q, h2, h3, tr h4⟩) h
      · exact (fun ⟨p, q, h2, h3, h4⟩ => ⟨p, q, h2, h3, tr h4⟩) h
      · exact h.elim
    · cases hc
  case slice t x lo hi mx =>
    cases mx with
    | some m => exact absurd hc Bool.false_ne_true
    | none =>
      simp only at hc h ⊢
      split at hc
      · rename_i h0; simp only [h0] at h ⊢; exact (fun ⟨s, l, hh, h1, h2, h3, h4, h5, h6⟩ => ⟨s, l, hh, h1, h2, h3, h4, h5, tr h6⟩) h
      · rename_i h0; simp only [h0] at h ⊢; exact (fun ⟨a, len, cap, l, hh, h1, h2, h3, h4, h5, h6⟩ => ⟨a, len, cap, l, hh, h1, h2, h3, h4, h5, tr h6⟩) h
      · cases hc
  case index t x ix =>
    (try simp only at hc)
    split at hc
    · rename_i h0; simp only [h0] at h ⊢; exact (fun ⟨s, kk, n, b, h1, h2, h3, h4, h5⟩ => ⟨s, kk, n, b, h1, h2, h3, h4, tr h5⟩) h
    · cases hc
  case convert s d x =>
    (try simp only at hc)
    split at hc
    · rename_i h1 h2; simp only [h1, h2] at h ⊢; exact (fun ⟨kk, n, he, hk⟩ => ⟨kk, n, he, tr hk⟩) h
    · rename_i h1 h2; simp only [h1, h2] at h ⊢; exact (fun ⟨st, he, hk⟩ => ⟨st, he, tr hk⟩) h
    · cases hc
  case call c =>
    obtain ⟨callee, args, tys⟩ := c
    cases callee with
    | value f => exact absurd hc Bool.false_ne_true
    | invoke r m => exact absurd hc Bool.false_ne_true
    | builtin b =>
      cases b
      all_goals (try exact absurd hc Bool.false_ne_true)
      case len =>
        (try simp only at hc)
        cases ht : tys.toList with
        | nil => simp only [ht] at hc; exact absurd hc Bool.false_ne_true
        | cons t r =>
          cases r with
          | cons t2 r => simp only [ht] at hc; exact absurd hc Bool.false_ne_true
          | nil =>
            simp only [ht] at hc h ⊢
            cases hl : args.toList with
            | nil => simp only [hl] at h
            | cons x r =>
              cases r with
              | cons y r => simp only [hl] at h
              | nil =>
                simp only [hl] at h ⊢
                split at hc
                · rename_i h0
                  simp only [h0] at h ⊢
                  exact (fun ⟨a, h1, h2⟩ => ⟨a, h1, tr h2⟩) h
                · rename_i n h0
                  simp only [h0] at h ⊢
                  exact (fun ⟨a, b, c, h1, h2⟩ => ⟨a, b, c, h1, tr h2⟩) h
                · cases hc
      all_goals (try simp only at h ⊢)
      all_goals repeat' split at h
      all_goals first
        | exact h.elim
        | (obtain ⟨a, b, c, h1, h2⟩ := h; exact ⟨a, b, c, h1, tr h2⟩)
        | (obtain ⟨a, b, c, h1, h2, h3⟩ := h; exact ⟨a, b, c, h1, h2, tr h3⟩)
  all_goals repeat' split at h
  all_goals first
    | exact h.elim
    | exact tr h
    | exact ifc _ _ _ tr h
    | exact cn _ _ _ (fun ⟨a, v, h1, h2, h3⟩ => ⟨a, v, h1, h2, tr h3⟩) h
    | (obtain ⟨a, h1⟩ := h; exact ⟨a, tr h1⟩)
    | (obtain ⟨a, h1, h2⟩ := h; exact ⟨a, h1, tr h2⟩)
    | (obtain ⟨a, b, h1, h2⟩ := h; exact ⟨a, b, h1, tr h2⟩)
    | (obtain ⟨a, b, h1, h2, h3⟩ := h; exact ⟨a, b, h1, h2, tr h3⟩)
    | (obtain ⟨a, len, cap, kk, n, h1, h2, h3, h4, h5⟩ := h; exact ⟨a, len, cap, kk, n, h1, h2, h3, h4, tr h5⟩)
    | (obtain ⟨a, kk, n, h1, h2, h3, h4, h5⟩ := h; exact ⟨a, kk, n, h1, h2, h3, h4, tr h5⟩)

end Go.Sh
