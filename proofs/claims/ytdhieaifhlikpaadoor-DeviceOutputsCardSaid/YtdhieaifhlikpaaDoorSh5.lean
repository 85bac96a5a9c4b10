/-
  The shallow layer, part 5: code. The weakest precondition that the kernel computes, along a note of which slots live across a join and a loop; its soundness; functions.
-/
import Derived.Test.YtdhieaifhlikpaaDoorSh4
import Derived.Scope
namespace Go.Sh
open Go

def memN : List Nat → Nat → Bool
  | [], _ => false
  | x :: r, t => Nat.beq x t || memN r t
theorem memN_iff {l : List Nat} {t : Nat} : memN l t = true ↔ t ∈ l := by
  induction l with
  | nil => simp [memN]
  | cons x r ih =>
    simp only [memN, Bool.or_eq_true, ih, List.mem_cons]
    constructor
    · rintro (h | h)
      · exact .inl (Nat.eq_of_beq_eq_true h).symm
      · exact .inr h
    · rintro (rfl | h)
      · exact .inl (Nat.beq_refl t)
      · exact .inr h

/-- Which slots live across a join ('live'), which are written and dead there ('dead'); the plan of a drawn region. -/
inductive Ann where
  | leaf
  | seq (x y : Ann)
  | join (x : Ann) (live dead : List Nat) (y : Ann)
  | cond (x y : Ann)
  | block (x : Ann)
  | loop (x : Ann) (live dead : List Nat)
  | draw (A : List (List Nat)) (T : DT)

def setL (e : Env) : List Nat → List Value → Env
  | d :: r, v :: vs => put (setL e r vs) d v
  | _, _ => e
def setD (e : Env) (dead : List Nat) (u : Env) : Env := fun t => bif memN dead t then u t else e t
def hav (e : Env) (live : List Nat) (l : List Value) (dead : List Nat) (u : Env) : Env := setL (setD e dead u) live l
def All : List Nat → (List Value → Prop) → Prop
  | [], f => f []
  | _ :: r, f => ∀ v : Value, All r fun l => f (v :: l)
theorem All.spec : ∀ {live : List Nat} {f : List Value → Prop}, All live f → ∀ l, l.length = live.length → f l
  | [], _, h, [], _ => h
  | _ :: _, _, h, v :: l, hl => All.spec (h v) l (by simpa using hl)
  | [], _, _, _ :: _, hl => by simp at hl
  | _ :: _, _, _, [], hl => by simp at hl
theorem All.intro : ∀ {live : List Nat} {f : List Value → Prop}, (∀ l, f l) → All live f
  | [], _, h => h []
  | _ :: _, _, h => fun v => All.intro fun l => h (v :: l)
theorem All.mono : ∀ {live : List Nat} {f g : List Value → Prop}, (∀ l, f l → g l) → All live f → All live g
  | [], _, _, h, hf => h _ hf
  | _ :: _, _, _, h, hf => fun v => All.mono (fun l => h (v :: l)) (hf v)

theorem setL_map (e e' : Env) (live : List Nat) (t : Nat) : setL e live (live.map e') t = if t ∈ live then e' t else e t := by
  induction live with
  | nil => simp [setL]
  | cons d r ih =>
    simp only [List.map_cons, setL, put_apply, ih, List.mem_cons]
    by_cases h : t = d
    · subst h; simp
    · simp [h]
def Off (S : List Nat) (e e' : Env) : Prop := ∀ t, t ∉ S → e' t = e t
theorem Off.refl (S : List Nat) (e : Env) : Off S e e := fun _ _ => rfl
theorem Off.trans {S : List Nat} {a b c : Env} (h : Off S a b) (k : Off S b c) : Off S a c := fun t ht => (k t ht).trans (h t ht)
theorem hav_self {e e' : Env} {live dead : List Nat} (h : Off (live ++ dead) e e') : hav e live (live.map e') dead e' = e' := by
  funext t
  unfold hav
  rw [setL_map]
  by_cases hl : t ∈ live
  · rw [if_pos hl]
  · rw [if_neg hl]
    unfold setD
    cases hd : memN dead t with
    | true => rfl
    | false =>
      have : t ∉ dead := fun hh => by rw [memN_iff.2 hh] at hd; cases hd
      exact (h t (by simp [hl, this])).symm
theorem hav_off (e u : Env) (live dead : List Nat) (l : List Value) : Off (live ++ dead) e (hav e live l dead u) := by
  intro t ht
  simp only [List.mem_append, not_or] at ht
  unfold hav
  have key : ∀ (e1 : Env) (live : List Nat) (l : List Value), t ∉ live → setL e1 live l t = e1 t := by
    intro e1 live
    induction live with
    | nil => intro l _; cases l <;> rfl
    | cons d r ih =>
      intro l hm
      simp only [List.mem_cons, not_or] at hm
      cases l with
      | nil => rfl
      | cons v vs => simp only [setL, put_apply, if_neg hm.1]; exact ih vs hm.2
  rw [key _ _ _ ht.1]
  unfold setD
  cases hd : memN dead t with
  | true => exact absurd (memN_iff.1 hd) ht.2
  | false => rfl

/-- The slots that a code writes are among S. -/
def coverL (S : List Nat) : List Oper → Bool
  | [] => true
  | o :: r => (match o.dst with | some d => memN S d | none => true) && coverL S r
def cover (S : List Nat) : Code → Bool
  | .region _ ops _ => coverL S ops.toList
  | .seq a b | .cond _ a b => cover S a && cover S b
  | .block _ a | .loop a | .scope a => cover S a
  | _ => true

/-- The code writes slot t. -/
def wroteL (t : Nat) : List Oper → Bool
  | [] => false
  | o :: r => (match o.dst with | some d => Nat.beq d t | none => false) || wroteL t r
def wrote (t : Nat) : Code → Bool
  | .region _ ops _ => wroteL t ops.toList
  | .seq a b | .cond _ a b => wrote t a || wrote t b
  | .block _ a | .loop a | .scope a => wrote t a
  | _ => false
def allW : List Nat → Code → Bool
  | [], _ => true
  | t :: r, c => wrote t c && allW r c
/-- 'S' is just what the code writes. -/
def just (S : List Nat) (c : Code) : Bool := cover S c && allW S c
theorem wrote_mem {S : List Nat} {t : Nat} : ∀ {c : Code}, cover S c = true → wrote t c = true → t ∈ S := by
  have key : ∀ l : List Oper, coverL S l = true → wroteL t l = true → t ∈ S := by
    intro l
    induction l with
    | nil => intro _ h; cases h
    | cons o r ih =>
      intro hc h
      simp only [coverL, Bool.and_eq_true] at hc
      simp only [wroteL, Bool.or_eq_true] at h
      rcases h with h | h
      · have h1 := hc.1
        cases hd : o.dst with
        | none => rw [hd] at h; cases h
        | some d =>
          rw [hd] at h h1
          rw [← Nat.eq_of_beq_eq_true h]
          exact memN_iff.1 h1
      · exact ih hc.2 h
  intro c
  induction c with
  | region id ops d => intro hc h; exact key _ hc h
  | seq x y ihx ihy =>
    intro hc h
    simp only [cover, Bool.and_eq_true] at hc
    simp only [wrote, Bool.or_eq_true] at h
    exact h.elim (ihx hc.1) (ihy hc.2)
  | cond _ x y ihx ihy =>
    intro hc h
    simp only [cover, Bool.and_eq_true] at hc
    simp only [wrote, Bool.or_eq_true] at h
    exact h.elim (ihx hc.1) (ihy hc.2)
  | block _ x ih => intro hc h; exact ih hc h
  | loop x ih => intro hc h; exact ih hc h
  | scope x ih => intro hc h; exact ih hc h
  | _ => intro _ h; cases h
theorem just_sub {S L : List Nat} {c : Code} (hj : just L c = true) (hc : cover S c = true) : ∀ t, t ∈ L → t ∈ S := by
  unfold just at hj
  simp only [Bool.and_eq_true] at hj
  have h := hj.2
  intro t ht
  have key : ∀ L : List Nat, allW L c = true → t ∈ L → t ∈ S := by
    intro L
    induction L with
    | nil => intro _ h; cases h
    | cons x r ih =>
      intro h hm
      simp only [allW, Bool.and_eq_true] at h
      rcases List.mem_cons.1 hm with rfl | hm
      · exact wrote_mem hc h.1
      · exact ih h.2 hm
  exact key L h ht
theorem just_cover {L : List Nat} {c : Code} (hj : just L c = true) : cover L c = true := by
  unfold just at hj; simp only [Bool.and_eq_true] at hj; exact hj.1
theorem Off.sub {S L : List Nat} {a b : Env} (h : Off L a b) (hs : ∀ t, t ∈ L → t ∈ S) : Off S a b := fun t ht => h t fun hh => ht (hs t hh)

def wpC (P : Program) (N : Nat) : Code → Ann → (Env → World → Prop) → (Nat → Env → World → Prop) → (Env → World → Prop) → Env → World → Prop
  | .skip, _, kn, _, _, e, w => kn e w
  | .label _, _, kn, _, _, e, w => kn e w
  | .scope x, .block ax, kn, ke, kr, e, w => wpC P N x ax kn ke kr e w
  | .ret, _, _, _, kr, e, w => kr e w
  | .exit id, _, _, ke, _, e, w => ke id e w
  | .seq x y, .seq ax ay, kn, ke, kr, e, w => wpC P N x ax (wpC P N y ay kn ke kr) ke kr e w
  | .seq x y, .join ax live dead ay, kn, ke, kr, e, w =>
    bif just (live ++ dead) x then
      ∀ J : List Value → World → Prop, (All live fun l => ∀ w' : World, (∀ u : Env, wpC P N y ay kn ke kr (hav e live l dead u) w') → J l w') →
        wpC P N x ax (fun e' w' => J (live.map e') w') ke kr e w
    else False
  | .cond c x y, .cond ax ay, kn, ke, kr, e, w => Cnd (ev e c) (wpC P N x ax kn ke kr e w) (wpC P N y ay kn ke kr e w)
  | .block id x, .block ax, kn, ke, kr, e, w => wpC P N x ax kn (fun i => bif Nat.beq i id then kn else ke i) kr e w
  | .loop x, .loop ax live dead, _, ke, kr, e, w =>
    bif just (live ++ dead) x then
      ∃ (I : List Value → World → Prop) (μ : List Value → World → Nat), I (live.map e) w ∧
        All live fun l => ∀ (u : Env) (w' : World), I l w' → wpC P N x ax (fun e' w'' => I (live.map e') w'' ∧ μ (live.map e') w'' < μ l w') ke kr (hav e live l dead u) w'
    else False
  | .region _ ops false, .leaf, kn, _, _, e, w => bif dstsOk N ops.toList then opsC P N ops ops.toList kn e w else False
  | .region _ ops true, .draw A T, kn, _, _, e, w => bif planOk P N ops A T then drawC P ops T e (fun _ => e) (fun _ => undef) kn w.drew else False
  | _, _, _, _, _, _, _ => False

theorem putO_off {S : List Nat} {d : Option Nat} (h : (match d with | some d => memN S d | none => true) = true) (e : Env) (v : Value) : Off S e (putO e d v) := by
  intro t ht
  cases d with
  | none => rfl
  | some d =>
    simp only [putO, put_apply]
    have : t ≠ d := fun hh => ht (hh ▸ memN_iff.1 h)
    rw [if_neg this]

theorem Gd_mono {g : Value} {want : Bool} {op op' : (Value → World → Prop) → Prop} {w : World} {k k' : Value → World → Prop} (hop : op k → op' k') (hk : ∀ v w', k v w' → k' v w')
    (h : Gd g want op w k) : Gd g want op' w k' := by
  rcases h with ⟨h1, h2⟩ | ⟨h1, h2⟩
  · exact .inl ⟨h1, hop h2⟩
  · exact .inr ⟨h1, hk _ _ h2⟩

theorem opsC_mono {P : Program} {N : Nat} {ops : Array Oper} {S : List Nat} : ∀ {l : List Oper} {k k' : Env → World → Prop} {e : Env} {w : World}, coverL S l = true →
    (∀ e' w', Off S e e' → k e' w' → k' e' w') → opsC P N ops l k e w → opsC P N ops l k' e w
  | [], _, _, e, _, _, hk, h => hk _ _ (Off.refl _ e) h
  | o :: r, k, k', e, w, hc, hk, h => by
    simp only [coverL, Bool.and_eq_true] at hc
    have step : ∀ v w', opsC P N ops r k (putO e o.dst v) w' → opsC P N ops r k' (putO e o.dst v) w' := fun v w' h =>
      opsC_mono hc.2 (fun e' w'' ho hh => hk _ _ ((putO_off hc.1 e v).trans ho) hh) h
    simp only [opsC] at h ⊢
    split at h
    · exact opC_mono step h
    · exact Gd_mono (opC_mono step) step h

theorem drawC_mono {P : Program} {ops : Array Oper} {S : List Nat} (hc : coverL S ops.toList = true) : ∀ {T : DT} {e : Env} {sn : Nat → Env} {vl : Nat → Value} {k k' : Env → World → Prop} {w : World},
    (∀ e' w', Off S e e' → k e' w' → k' e' w') → drawC P ops T e sn vl k w → drawC P ops T e sn vl k' w := by
  have hd : ∀ (i : Nat) (o : Oper), ops[i]? = some o → ∀ (e : Env) (v : Value), Off S e (putO e o.dst v) := by
    intro i o hi e v
    have hmem : o ∈ ops.toList := by simpa using Array.mem_of_getElem? hi
    have key : ∀ l : List Oper, coverL S l = true → o ∈ l → Off S e (putO e o.dst v) := by
      intro l
      induction l with
      | nil => intro _ h; cases h
      | cons x r ih =>
        intro hl hm
        simp only [coverL, Bool.and_eq_true] at hl
        rcases List.mem_cons.1 hm with rfl | hm
        · exact putO_off hl.1 e v
        · exact ih hl.2 hm
    exact key _ hc hmem
  have chk : ∀ {chks : List Nat} {sn : Nat → Env} {vl : Nat → Value} {w : World} {K K' : Prop}, (K → K') → chkAll P ops sn vl chks w K → chkAll P ops sn vl chks w K' := by
    intro chks
    induction chks with
    | nil => intro _ _ _ _ _ h hk; exact h hk
    | cons r rs ih => intro _ _ _ _ _ h hk; exact ⟨hk.1, ih h hk.2⟩
  intro T
  induction T with
  | done => intro e sn vl k k' w hk h; exact hk _ _ (Off.refl _ e) h
  | none => intro e sn vl k k' w hk h; trivial
  | calm i t ih =>
    intro e sn vl k k' w hk h
    simp only [drawC] at h ⊢
    cases ho : ops[i]? with
    | none => rw [ho] at h; exact h.elim
    | some o =>
      rw [ho] at h
      exact gOp_mono (fun v w' hh => ih (fun e' w'' hoff hk1 => hk _ _ ((hd i o ho e v).trans hoff) hk1) hh) h
  | eff1 i c t ih =>
    intro e sn vl k k' w hk h
    simp only [drawC] at h ⊢
    cases ho : ops[i]? with
    | none => rw [ho] at h; exact h.elim
    | some o =>
      rw [ho] at h
      exact gOp_mono (fun v w' hh => chk (fun hh => ih (fun e' w'' hoff hk1 => hk _ _ ((hd i o ho e v).trans hoff) hk1) hh) hh) h
  | effs i c t alt ih1 ih2 =>
    intro e sn vl k k' w hk h
    simp only [drawC] at h ⊢
    refine ⟨?_, ih2 hk h.2⟩
    have h := h.1
    cases ho : ops[i]? with
    | none => rw [ho] at h; exact h.elim
    | some o =>
      rw [ho] at h
      exact gOp_mono (fun v w' hh => chk (fun hh => ih1 (fun e' w'' hoff hk1 => hk _ _ ((hd i o ho e v).trans hoff) hk1) hh) hh) h

theorem wpC_mono {P : Program} {N : Nat} {S : List Nat} : ∀ {c : Code} {an : Ann} {kn kn' : Env → World → Prop} {ke ke' : Nat → Env → World → Prop} {kr kr' : Env → World → Prop} {e : Env} {w : World},
    cover S c = true → (∀ e' w', Off S e e' → kn e' w' → kn' e' w') → (∀ i e' w', Off S e e' → ke i e' w' → ke' i e' w') → (∀ e' w', Off S e e' → kr e' w' → kr' e' w') →
      wpC P N c an kn ke kr e w → wpC P N c an kn' ke' kr' e w := by
  intro c
  induction c with
  | skip => intro an kn kn' ke ke' kr kr' e w _ hn _ _ h; simp only [wpC] at h ⊢; exact hn _ _ (Off.refl _ e) h
  | ret => intro an kn kn' ke ke' kr kr' e w _ _ _ hr h; simp only [wpC] at h ⊢; exact hr _ _ (Off.refl _ e) h
  | exit id => intro an kn kn' ke ke' kr kr' e w _ _ he _ h; simp only [wpC] at h ⊢; exact he _ _ _ (Off.refl _ e) h
  | seq x y ihx ihy =>
    intro an kn kn' ke ke' kr kr' e w hc hn he hr h
    simp only [cover, Bool.and_eq_true] at hc
    cases an with
    | seq ax ay =>
      simp only [wpC] at h ⊢
      exact ihx hc.1 (fun e1 w1 ho hh => ihy hc.2 (fun e' w' o' => hn e' w' (ho.trans o')) (fun i e' w' o' => he i e' w' (ho.trans o')) (fun e' w' o' => hr e' w' (ho.trans o')) hh) he hr h
    | join ax live dead ay =>
      simp only [wpC] at h ⊢
      cases hcv : just (live ++ dead) x with
      | false => rw [hcv] at h; exact h.elim
      | true =>
        rw [hcv] at h
        simp only [cond_true] at h ⊢
        intro J hJ
        have hoff : ∀ l u, Off S e (hav e live l dead u) := fun l u => (hav_off e u live dead l).sub (just_sub hcv hc.1)
        have h1 := h J (All.mono (fun l hl w' hwp => hl w' fun u => ihy hc.2 (fun e' w' o' => hn e' w' ((hoff l u).trans o')) (fun i e' w' o' => he i e' w' ((hoff l u).trans o'))
          (fun e' w' o' => hr e' w' ((hoff l u).trans o')) (hwp u)) hJ)
        exact ihx hc.1 (fun _ _ _ hh => hh) he hr h1
    | _ => simp only [wpC] at h
  | cond c x y ihx ihy =>
    intro an kn kn' ke ke' kr kr' e w hc hn he hr h
    simp only [cover, Bool.and_eq_true] at hc
    cases an with
    | cond ax ay =>
      simp only [wpC] at h ⊢
      rcases h with ⟨h1, h2⟩ | ⟨h1, h2⟩
      · exact .inl ⟨h1, ihx hc.1 hn he hr h2⟩
      · exact .inr ⟨h1, ihy hc.2 hn he hr h2⟩
    | _ => simp only [wpC] at h
  | label l => intro an kn kn' ke ke' kr kr' e w _ hn _ _ h; simp only [wpC] at h ⊢; exact hn _ _ (Off.refl _ e) h
  | scope x ih =>
    intro an kn kn' ke ke' kr kr' e w hc hn he hr h
    cases an with
    | block ax => simp only [wpC] at h ⊢; exact ih hc hn he hr h
    | _ => simp only [wpC] at h
  | block id x ih =>
    intro an kn kn' ke ke' kr kr' e w hc hn he hr h
    cases an with
    | block ax =>
      simp only [wpC] at h ⊢
      refine ih hc hn (fun i e' w' ho hh => ?_) hr h
      cases hb : Nat.beq i id with
      | true => rw [hb] at hh; exact hn e' w' ho hh
      | false => rw [hb] at hh; exact he i e' w' ho hh
    | _ => simp only [wpC] at h
  | loop x ih =>
    intro an kn kn' ke ke' kr kr' e w hc hn he hr h
    cases an with
    | loop ax live dead =>
      simp only [wpC] at h ⊢
      cases hcv : just (live ++ dead) x with
      | false => rw [hcv] at h; exact h.elim
      | true =>
        rw [hcv] at h
        simp only [cond_true] at h ⊢
        obtain ⟨I, μ, h0, hround⟩ := h
        have hoff : ∀ l u, Off S e (hav e live l dead u) := fun l u => (hav_off e u live dead l).sub (just_sub hcv hc)
        exact ⟨I, μ, h0, All.mono (fun l hl u w' hI => ih hc (fun _ _ _ hh => hh) (fun i e' w' o' => he i e' w' ((hoff l u).trans o')) (fun e' w' o' => hr e' w' ((hoff l u).trans o')) (hl u w' hI)) hround⟩
    | _ => simp only [wpC] at h
  | region id ops d =>
    intro an kn kn' ke ke' kr kr' e w hc hn he hr h
    cases d with
    | false =>
      cases an with
      | leaf =>
        simp only [wpC] at h ⊢
        cases hd : dstsOk N ops.toList with
        | false => rw [hd] at h; exact h.elim
        | true => rw [hd] at h; simp only [cond_true] at h ⊢; exact opsC_mono hc hn h
      | _ => simp only [wpC] at h
    | true =>
      cases an with
      | draw A T =>
        simp only [wpC] at h ⊢
        cases hd : planOk P N ops A T with
        | false => rw [hd] at h; exact h.elim
        | true => rw [hd] at h; simp only [cond_true] at h ⊢; exact drawC_mono hc hn h
      | _ => simp only [wpC] at h
  | _ => intro an kn kn' ke ke' kr kr' e w _ _ _ _ h; cases an <;> simp only [wpC] at h

theorem opsC_sound {P : Program} {N : Nat} {ops : Array Oper} {Q : Exit → Act → World → Prop} : ∀ {l : List Oper} {k : Env → World → Prop} {e : Env} {a : Act} {w : World}, dstsOk N l = true → Rel N a e →
    (∀ e' a' w', Rel N a' e' → k e' w' → Q .normal a' w') → opsC P N ops l k e w → wpList P ops Q l a w
  | [], k, e, a, w, _, hr, hk, h => hk _ _ _ hr h
  | o :: r, k, e, a, w, hd, hr, hk, h => by
    simp only [dstsOk, Bool.and_eq_true] at hd
    have step : ∀ v w', opsC P N ops r k (putO e o.dst v) w' → wpList P ops Q r (a.put o.dst v) w' := fun v w' hh => opsC_sound hd.2 (hr.putO hd.1 v) hk hh
    have hop : opC P o (ev e) w (fun v w' => opsC P N ops r k (putO e o.dst v) w') → o.wp P a w (wpList P ops Q r) Q := fun hh => opC_sound hh hr.eval step
    simp only [opsC] at h
    unfold wpList
    cases hg : o.guard with
    | none =>
      simp only [hg] at h
      rw [if_pos (by simp [Region.wanted, hg])]
      exact .inl (hop h)
    | some g =>
      obtain ⟨j, want⟩ := g
      simp only [hg] at h
      rcases h with ⟨h1, h2⟩ | ⟨h1, h2⟩
      · rw [if_pos (by simp [Region.wanted, hg, hr.yielded, h1])]
        exact .inl (hop h2)
      · rw [if_neg (by simp [Region.wanted, hg, hr.yielded, h1])]
        exact step _ _ h2

theorem wpC_sound {P : Program} {N : Nat} (hm : P.follows .mixedOrders = true) : ∀ {c : Code} {an : Ann} {kn : Env → World → Prop} {ke : Nat → Env → World → Prop} {kr : Env → World → Prop}
    {Q : Exit → Act → World → Prop} {e : Env} {a : Act} {w : World}, Rel N a e → (∀ e' a' w', Rel N a' e' → kn e' w' → Q .normal a' w') →
    (∀ i e' a' w', Rel N a' e' → ke i e' w' → Q (.exit i) a' w') → (∀ e' a' w', Rel N a' e' → kr e' w' → Q .ret a' w') → wpC P N c an kn ke kr e w → c.wp P Q a w := by
  intro c
  induction c with
  | skip => intro an kn ke kr Q e a w hr hn he hret h; simp only [wpC] at h; exact wp_skip (hn _ _ _ hr h)
  | ret => intro an kn ke kr Q e a w hr hn he hret h; simp only [wpC] at h; exact wp_ret (hret _ _ _ hr h)
  | exit id => intro an kn ke kr Q e a w hr hn he hret h; simp only [wpC] at h; exact wp_exit (he _ _ _ _ hr h)
  | seq x y ihx ihy =>
    intro an kn ke kr Q e a w hr hn he hret h
    cases an with
    | seq ax ay =>
      simp only [wpC] at h
      exact wp_seq (ihx hr (fun e1 a1 w1 h1 hh => ihy h1 hn he hret hh) he hret h)
    | join ax live dead ay =>
      simp only [wpC] at h
      cases hcv : just (live ++ dead) x with
      | false => rw [hcv] at h; exact h.elim
      | true =>
        rw [hcv] at h
        simp only [cond_true] at h
        have h1 := h (fun l w' => ∀ e' a', Off (live ++ dead) e e' → live.map e' = l → Rel N a' e' → y.wp P Q a' w') (All.intro fun l w' hwp e' a' ho hl hr' => by
          have := hwp e'
          rw [← hl, hav_self ho] at this
          exact ihy hr' hn he hret this)
        have h2 := wpC_mono (S := live ++ dead) (kn' := fun e' w' => ∀ a', Rel N a' e' → y.wp P Q a' w') (ke' := ke) (kr' := kr) (just_cover hcv)
          (fun e' w' ho hh a' hr' => hh e' a' ho rfl hr') (fun _ _ _ _ hh => hh) (fun _ _ _ hh => hh) h1
        exact wp_seq (ihx hr (fun e1 a1 w1 hr1 hh => hh a1 hr1) he hret h2)
    | _ => simp only [wpC] at h
  | cond c x y ihx ihy =>
    intro an kn ke kr Q e a w hr hn he hret h
    cases an with
    | cond ax ay =>
      simp only [wpC] at h
      rcases h with ⟨h1, h2⟩ | ⟨h1, h2⟩
      · exact wp_cond (t := true) (by rw [hr.eval]; exact h1) (ihx hr hn he hret h2)
      · exact wp_cond (t := false) (by rw [hr.eval]; exact h1) (ihy hr hn he hret h2)
    | _ => simp only [wpC] at h
  | label l => intro an kn ke kr Q e a w hr hn he hret h; simp only [wpC] at h; exact wp_label (hn _ _ _ hr h)
  | scope x ih =>
    intro an kn ke kr Q e a w hr hn he hret h
    cases an with
    | block ax =>
      simp only [wpC] at h
      exact wp_scope_straight (ih (Q := Exit.noGoto Q) hr hn he hret h)
    | _ => simp only [wpC] at h
  | block id x ih =>
    intro an kn ke kr Q e a w hr hn he hret h
    cases an with
    | block ax =>
      simp only [wpC] at h
      refine wp_block (ih hr hn (fun i e' a' w' hr' hh => ?_) hret h)
      simp only [Exit.inBlock]
      by_cases hi : i = id
      · subst hi
        rw [if_pos rfl]
        simp only [Nat.beq_refl, cond_true] at hh
        exact hn _ _ _ hr' hh
      · rw [if_neg hi]
        have : Nat.beq i id = false := by
          cases hb : Nat.beq i id
          · rfl
          · exact absurd (Nat.eq_of_beq_eq_true hb) hi
        rw [this] at hh
        exact he _ _ _ _ hr' hh
    | _ => simp only [wpC] at h
  | loop x ih =>
    intro an kn ke kr Q e a w hr hn he hret h
    cases an with
    | loop ax live dead =>
      simp only [wpC] at h
      cases hcv : just (live ++ dead) x with
      | false => rw [hcv] at h; exact h.elim
      | true =>
        rw [hcv] at h
        simp only [cond_true] at h
        obtain ⟨I, μ, h0, hround⟩ := h
        refine wp_loop (fun a' w' => ∃ e', Rel N a' e' ∧ Off (live ++ dead) e e' ∧ I (live.map e') w') (fun a' w' => μ (live.map fun t => a'.tmps.getD t undef) w') ⟨e, hr, Off.refl _ e, h0⟩ ?_
        rintro a1 w1 ⟨e1, hr1, ho1, hI1⟩
        have hsp := All.spec hround (live.map e1) (by simp) e1 w1 hI1
        rw [hav_self ho1] at hsp
        have h2 := wpC_mono (S := live ++ dead) (kn' := fun e' w'' => (I (live.map e') w'' ∧ μ (live.map e') w'' < μ (live.map e1) w1) ∧ Off (live ++ dead) e1 e') (ke' := ke) (kr' := kr) (just_cover hcv)
          (fun e' w' ho hh => ⟨hh, ho⟩) (fun _ _ _ _ hh => hh) (fun _ _ _ hh => hh) hsp
        refine ih hr1 (fun e' a' w' hr' hh => ?_) he hret h2
        obtain ⟨⟨hI, hlt⟩, ho⟩ := hh
        refine ⟨⟨e', hr', ho1.trans ho, hI⟩, ?_⟩
        have e1' : (fun t => a1.tmps.getD t undef) = e1 := funext hr1.at_
        have e2' : (fun t => a'.tmps.getD t undef) = e' := funext hr'.at_
        show μ (live.map fun t => a'.tmps.getD t undef) w' < μ (live.map fun t => a1.tmps.getD t undef) w1
        rw [e1', e2']
        exact hlt
    | _ => simp only [wpC] at h
  | region id ops d =>
    intro an kn ke kr Q e a w hr hn he hret h
    cases d with
    | false =>
      cases an with
      | leaf =>
        simp only [wpC] at h
        cases hd : dstsOk N ops.toList with
        | false => rw [hd] at h; exact h.elim
        | true => rw [hd] at h; simp only [cond_true] at h; exact wp_region_list (opsC_sound hd hr hn h)
      | _ => simp only [wpC] at h
    | true =>
      cases an with
      | draw A T =>
        simp only [wpC] at h
        cases hd : planOk P N ops A T with
        | false => rw [hd] at h; exact h.elim
        | true => rw [hd] at h; simp only [cond_true] at h; exact draw_wp hd hm hr h hn
      | _ => simp only [wpC] at h
  | _ => intro an kn ke kr Q e a w _ _ _ _ h; cases an <;> simp only [wpC] at h

/-- A function's slots at its start. -/
def env0 (args : List Value) : Env := fun t => args.getD t undef
/-- A function's results, read behind its body. -/
def retK (P : Program) : List ResultVar → Env → World → (List Value → Prop) → Prop
  | [], _, _, k => k []
  | .tmp t :: r, e, w, k => retK P r e w fun l => k (e t :: l)
  | .cell a t :: r, e, w, k => match aggSize P t with
    | some n => LdA P n (e a) w fun v => retK P r e w fun l => k (v :: l)
    | none => bif scal P t then Ld (e a) w fun v => retK P r e w fun l => k (v :: l) else False
def tup : List Value → Value
  | [x] => x
  | l => .tuple l.toArray
def fnC (P : Program) (N : Nat) (c : Code) (an : Ann) (rs : List ResultVar) (args : List Value) (w : World) (R : Value → World → Prop) : Prop :=
  wpC P N c an (fun e w' => retK P rs e w' fun l => R (tup l) w') (fun _ _ _ => False) (fun e w' => retK P rs e w' fun l => R (tup l) w') (env0 args) w

theorem Ld.loadVar {P : Program} {t : TypeId} {p : Value} {w : World} {k : Value → Prop} (hs : scal P t = true) (h : Ld p w k) :
    ∃ a v, p = .pointer (some a) ∧ (Go.loadVar t a).run P w = .ok v w ∧ k v := by
  obtain ⟨a, v, rfl, hc, hk⟩ := h
  refine ⟨a, v, rfl, ?_, hk⟩
  unfold Go.loadVar
  simp only [Sem.run_bind, Result.andThen_ok, run_isAgg_scal hs]
  exact run_load_cell hc
theorem LdA.loadVar {P : Program} {t : TypeId} {n : Nat} {p : Value} {w : World} {k : Value → Prop} (hs : aggSize P t = some n) (h : LdA P n p w k) :
    ∃ a v, p = .pointer (some a) ∧ (Go.loadVar t a).run P w = .ok v w ∧ k v := by
  obtain ⟨a, cs, rfl, hc, hk⟩ := h
  refine ⟨a, _, rfl, ?_, hk⟩
  unfold Go.loadVar
  simp [Sem.run_bind, (aggSize_spec hs w).1, (aggSize_spec hs w).2, hc]

def rvSem (tmps : Array Value) : ResultVar → Sem Value
  | .tmp t => pure (tmps.getD t undef)
  | .cell b t => do Go.loadVar t (← asAddr (tmps.getD b undef))

theorem retK_run {P : Program} {N : Nat} {a : Act} {e : Env} {w : World} (hr : Rel N a e) : ∀ {rs : List ResultVar} {k : List Value → Prop}, retK P rs e w k →
    ∃ l, (rs.mapM (m := Sem) (rvSem a.tmps)).run P w = .ok l w ∧ k l
  | [], k, h => ⟨[], rfl, h⟩
  | .tmp t :: r, k, h => by
    obtain ⟨l, h1, h2⟩ := retK_run hr (rs := r) h
    refine ⟨e t :: l, ?_, h2⟩
    rw [List.mapM_cons]
    simp only [rvSem, Sem.run_bind, Sem.run_pure, Result.andThen_ok, h1]
    rw [hr.at_]
  | .cell b t :: r, k, h => by
    simp only [retK] at h
    have go : (∃ ad v, e b = .pointer (some ad) ∧ (Go.loadVar t ad).run P w = .ok v w ∧ retK P r e w fun l => k (v :: l)) →
        ∃ l, ((ResultVar.cell b t :: r).mapM (m := Sem) (rvSem a.tmps)).run P w = .ok l w ∧ k l := by
      rintro ⟨ad, v, he, hl, hk⟩
      obtain ⟨l, h1, h2⟩ := retK_run hr (rs := r) hk
      refine ⟨v :: l, ?_, h2⟩
      have hb : a.tmps.getD b undef = .pointer (some ad) := by rw [hr.at_]; exact he
      have h3 : (asAddr (a.tmps.getD b undef)).run P w = .ok ad w := by rw [hb]; rfl
      rw [List.mapM_cons]
      simp only [rvSem, Sem.run_bind, Sem.run_pure, Result.andThen_ok, h3, hl, h1]
    split at h
    · rename_i n hn; exact go (LdA.loadVar hn h)
    · cases hs : scal P t with
      | false => rw [hs] at h; exact h.elim
      | true => rw [hs] at h; exact go (Ld.loadVar hs h)

theorem results_run {P : Program} {fn : Func} {N : Nat} {a : Act} {e : Env} {w : World} (hr : Rel N a e) {k : List Value → Prop} (h : retK P fn.results.toList e w k) :
    ∃ l, (results fn a.tmps).run P w = .ok (tup l) w ∧ k l := by
  obtain ⟨l, h1, h2⟩ := retK_run hr h
  refine ⟨l, ?_, h2⟩
  have hm : (fn.results.mapM (m := Sem) (rvSem a.tmps)).run P w = .ok l.toArray w := by
    rw [Array.mapM_eq_mapM_toList]
    simp only [map_eq_pure_bind, Sem.run_bind, Sem.run_pure]
    rw [h1]
    rfl
  have hrs : results fn a.tmps = (do let vs ← fn.results.mapM (rvSem a.tmps); pure (if h : vs.size = 1 then vs[0] else .tuple vs)) := by
    unfold results
    rfl
  rw [hrs, Sem.run_bind, hm, Result.andThen_ok]
  match l with
  | [] => rfl
  | [x] => rfl
  | x :: y :: r => simp [tup]

theorem fnC_calls {P : Program} (hm : P.follows .mixedOrders = true) {f : FuncId} {fn : Func} {c : Code} {an : Ann} {args : Array Value} {w : World} {R : Value → World → Prop}
    (hf : P.funcs[f]? = some fn) (hb : fn.body = some c) (hn : args.size ≤ fn.ntmps) (h : fnC P fn.ntmps c an fn.results.toList args.toList w R) : Ca P f args w R := by
  refine calls_of_wp hf hb ?_
  have hr : Rel fn.ntmps { tmps := args ++ Array.replicate (fn.ntmps - args.size) undef, defers := [] } (env0 args.toList) := by
    refine ⟨by simp; omega, fun t => ?_, rfl⟩
    simp only [env0, Array.getD_eq_getD_getElem?, List.getD_eq_getElem?_getD, Array.getElem?_append, Array.getElem?_replicate]
    by_cases ht : t < args.size
    · simp [ht]
    · have : args.toList[t]? = none := by simp; omega
      rw [if_neg ht, this]
      split <;> rfl
  refine wpC_sound hm hr ?_ ?_ ?_ h
  · intro e' a' w' hr' hh
    obtain ⟨l, h1, h2⟩ := results_run hr' hh
    exact ⟨hr'.defers, _, h1, _, rfl, h2⟩
  · intro i e' a' w' _ hh; exact hh.elim
  · intro e' a' w' hr' hh
    obtain ⟨l, h1, h2⟩ := results_run hr' hh
    exact ⟨hr'.defers, _, h1, _, rfl, h2⟩

end Go.Sh
