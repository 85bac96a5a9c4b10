/-
  The shallow layer, part 2: an operation's monotonicity; that it depends on its operands alone; operations that leave the world alone.
-/
import Derived.Test.YtnnhmahemklnkaaDoorSh1
namespace Go.Sh
open Go

theorem opC_mono {P : Program} {o : Oper} {ρ : Operand → Value} {w : World} {k k' : Value → World → Prop} (hk : ∀ v w', k v w' → k' v w') (h : opC P o ρ w k) : opC P o ρ w k' := by
  have rd : ∀ s : Sem Value, (Rd P s w fun v => k v w) → (Rd P s w fun v => k' v w) := fun s ⟨v, hv, h⟩ => ⟨v, hv, hk _ _ h⟩
  have ef : ∀ s : Sem Value, Ef P s w k → Ef P s w k' := fun s ⟨v, w', hv, h⟩ => ⟨v, w', hv, hk _ _ h⟩
  have ca : ∀ f as, Ca P f as w k → Ca P f as w k' := fun f as h => h.mono fun e w' ⟨v, he, hv⟩ => ⟨v, he, hk _ _ hv⟩
  have cn : ∀ (b : Bool) (A A' : Prop), (A → A') → (bif b then A else False) → (bif b then A' else False) := by
    intro b A A' hh h; cases b with
    | false => exact h.elim
    | true => exact hh h
  have iff : ∀ d : Option TypeDesc, ∀ A A' : Prop, (A → A') → (match d with | some (.interface _) | none => False | _ => A) → (match d with | some (.interface _) | none => False | _ => A') := by
    intro d A A' hh h
    cases d with
    | none => exact h.elim
    | some d => cases d <;> first | exact h.elim | exact hh h
  unfold opC at h ⊢
  repeat' split at h
  all_goals first
    | exact h.elim
    | exact hk _ _ h
    | exact rd _ h
    | exact ef _ h
    | exact ca _ _ h
    | exact cn _ _ _ (ca _ _) h
    | exact cn _ _ _ (fun ⟨a, v, h1, h2, h3⟩ => ⟨a, v, h1, h2, hk _ _ h3⟩) h
    | exact cn _ _ _ (fun ⟨a, h1, h2⟩ => ⟨a, h1, hk _ _ h2⟩) h
    | exact iff _ _ _ (hk _ _) h
    | (obtain ⟨v, w', h1, h2⟩ := h; exact ⟨v, w', h1, hk _ _ h2⟩)
    | (rcases h with ⟨f, first, cap, h1, h2, h3⟩ | ⟨L, h1, r, h2, h3, h4⟩
       · exact .inl ⟨f, first, cap, h1, h2, ca _ _ h3⟩
       · exact .inr ⟨L, h1, r, h2, h3, h4.mono fun e w' ⟨v, he, hv⟩ => ⟨v, he, hk _ _ hv⟩⟩)
    | (obtain ⟨t, v, f, rv, h1, h2, h3, h4⟩ := h; exact ⟨t, v, f, rv, h1, h2, h3, ca _ _ h4⟩)
    | (repeat' (first | exact hk _ _ h | (obtain ⟨x, h⟩ := h; refine ⟨x, ?_⟩)))

theorem opC_congr {P : Program} {o : Oper} {ρ ρ' : Operand → Value} {w : World} {k : Value → World → Prop} (hρ : ∀ x ∈ o.op.operands, ρ x = ρ' x)
    (hf : ∀ f, ρ (.func f) = ρ' (.func f)) (h : opC P o ρ w k) : opC P o ρ' w k := by
  have : opC P o ρ w k = opC P o ρ' w k := by
    obtain ⟨dst, op, type, pos, after, guard⟩ := o
    have pairs : ∀ ps : Array (Nat × Operand), (∀ x ∈ ps.map (·.2), ρ x = ρ' x) → (ps.map fun (i, x) => (i, ρ x)) = (ps.map fun (i, x) => (i, ρ' x)) := fun ps hp =>
      Array.map_congr_left fun p hm => by
        obtain ⟨i, x⟩ := p
        simp only [hp x (Array.mem_map.2 ⟨(i, x), hm, rfl⟩)]
    have pairl : ∀ ps : Array (Nat × Operand), (∀ x ∈ ps.map (·.2), ρ x = ρ' x) → (ps.toList.map fun (i, x) => (i, ρ x)) = (ps.toList.map fun (i, x) => (i, ρ' x)) := fun ps hp =>
      List.map_congr_left fun p hm => by
        obtain ⟨i, x⟩ := p
        simp only [hp x (Array.mem_map.2 ⟨(i, x), by simpa using hm, rfl⟩)]
    cases op <;> simp only [Op.operands] at hρ <;> simp only [opC]
    case build t ps => rw [pairl ps fun x hx => hρ x (by simpa using hx)]
    case buildSlice t n ps => rw [pairs ps fun x hx => hρ x (by simpa using hx)]
    case makeFunc fn first captured =>
      rw [Array.map_congr_left (xs := first) fun x hx => hρ x (by simp [hx]), Array.map_congr_left (xs := captured) fun x hx => hρ x (by simp [hx])]
    case call c =>
      have hargs : c.args.map ρ = c.args.map ρ' := Array.map_congr_left fun x hx => hρ x (by simp [Call.operands, hx])
      have hmem : ∀ x ∈ c.args.toList, ρ x = ρ' x := fun x hx => hρ x (by simp [Call.operands]; right; simpa using hx)
      simp only [hargs]
      cases hc : c.callee with
      | value f =>
        have hf' : ρ f = ρ' f := hρ f (by simp [Call.operands, hc])
        cases f <;> simp only [hf']
      | invoke r m =>
        have hr' : ρ r = ρ' r := hρ r (by simp [Call.operands, hc])
        simp only [hr']
      | builtin b =>
        cases b <;> simp only
        case len =>
          split <;> first | rfl | (rename_i h1 _; simp only [h1, List.mem_cons, List.mem_nil_iff, or_false, forall_eq] at hmem; simp only [hmem])
        case cap =>
          split <;> first | rfl | (rename_i h1 _; simp only [h1, List.mem_cons, List.mem_nil_iff, or_false, forall_eq] at hmem; simp only [hmem])
        case min =>
          split <;> first | rfl | (rename_i h1; simp only [h1, List.mem_cons, List.mem_nil_iff, or_false, forall_eq_or_imp, forall_eq] at hmem; simp only [hmem])
        case max =>
          split <;> first | rfl | (rename_i h1; simp only [h1, List.mem_cons, List.mem_nil_iff, or_false, forall_eq_or_imp, forall_eq] at hmem; simp only [hmem])
    case makeMap t r => cases r <;> simp_all
    case slice t x lo hi mx => cases lo <;> cases hi <;> cases mx <;> simp_all
    all_goals (first | rfl | (simp_all; done))
  exact this ▸ h

end Go.Sh
