/-
  The shallow layer, part 13: iterators; ranges over them; a return with marks.
-/
import Derived.Test.YtnnhmahemklnkaaDoorSh12
namespace Go.Sh
open Go

section
variable {P : Program} {w0 : World} {F : Nat → Prop} {w : World} {l r : List As}

/-- A function that is ranged over. It calls yield with 'enc x', as 'Pf' says, and hands it what is 'vis'; it holds 'own' when it is called, 'own'' when it has returned; 'Whole' says what came if yield never said no. -/
def Iter (P : Program) (w0 : World) (F : Nat → Prop) {α : Type} (g : Value) (enc : α → Value) (Pf : List α → α → Prop) (Whole : List α → Prop) (own vis own' : List As) : Prop :=
  ∀ (K S : List α → List As → Prop) (y : Value) (w : World) (ks rest : List As),
    (∀ pre x w ks rest, Pf pre x → K pre ks → Hs w0 F w (ks ++ (vis ++ rest)) → CaV P y #[enc x] w fun v w' =>
      (v = .bool true ∧ ∃ ks', K (pre ++ [x]) ks' ∧ Hs w0 F w' (ks' ++ (vis ++ rest))) ∨ (v = .bool false ∧ ∃ ks', S (pre ++ [x]) ks' ∧ Hs w0 F w' (ks' ++ (vis ++ rest)))) →
    K [] ks → Hs w0 F w (ks ++ (own ++ rest)) →
    CaV P g #[y] w fun _ w' => (∃ xs ks', Whole xs ∧ K xs ks' ∧ Hs w0 F w' (ks' ++ (own' ++ rest))) ∨ (∃ xs ks', S xs ks' ∧ Hs w0 F w' (ks' ++ (own' ++ rest)))

abbrev dfO : Obj := .deferred (some [])
theorem Hs.swap2 {A B : As} (E : Hs w0 F w (A :: B :: l)) : Hs w0 F w (B :: A :: l) := E.perm (List.Perm.swap _ _ _)
theorem CaV.func {g : Value} {gf : FuncId} {first cap args : Array Value} {k : Value → World → Prop} (hg : g = .func (.func gf) first cap) (h : CaV P g args w k) : hasBody P gf = true ∧ Ca P gf (first ++ args ++ cap) w k := by
  subst hg
  rcases h with ⟨f, x, y, h1, h2, h3⟩ | ⟨L, h1, _⟩
  · cases h1; exact ⟨h2, h3⟩
  · cases h1

/-- The heart of both ranges: the record lies at L; D's list is what lies beside it. -/
theorem RFc.hs {α : Type} {g : Value} {gf : FuncId} {first cap : Array Value} {enc : α → Value} {Pf : List α → α → Prop} {Whole : List α → Prop} {own vis own' ds : List As} {L : Nat} {w1 : Loop → World} (hg : g = .func (.func gf) first cap) (hb : hasBody P gf = true)
    (hit : Iter P w0 F g enc Pf Whole own vis own') (K : List α → List As → Prop) (Sn : Nat → List α → List As → Prop) (Sr : List α → List As → Prop) {ks rest : List As}
    (E : ∀ r, Hs w0 F (w1 r) (pt L (lpO r .ready none) :: (ds ++ (ks ++ (own ++ rest))))) (h0 : K [] ks) {B : RB} {kn : World → Prop} {ke : List (Nat × (World → Prop))} {kr : World → Prop}
    (body : ∀ (r : Loop) pre x w ks rest Rn Re Rr, Pf pre x → K pre ks → Hs w0 F w (pt L (lpO r .ready none) :: (ds ++ (ks ++ (vis ++ rest)))) →
      (∀ w' ks', K (pre ++ [x]) ks' → Hs w0 F w' (pt L (lpO r .busy none) :: (ds ++ (ks' ++ (vis ++ rest)))) → Rn w') →
      (∀ i w' ks', Sn i (pre ++ [x]) ks' → Hs w0 F w' (pt L (lpO r .busy none) :: (ds ++ (ks' ++ (vis ++ rest)))) → Re i w') →
      (∀ w' ks', Sr (pre ++ [x]) ks' → Hs w0 F w' (pt L (lpO r .busy none) :: (ds ++ (ks' ++ (vis ++ rest)))) → Rr w') → B r L [enc x] w Rn Re Rr)
    (done : ∀ w xs ks, Whole xs → K xs ks → Hs w0 F w (ds ++ (ks ++ (own' ++ rest))) → kn w)
    (exit : ∀ i w xs ks, Sn i xs ks → Hs w0 F w (ds ++ (ks ++ (own' ++ rest))) → ∃ q, q ∈ ke ∧ q.1 = i ∧ q.2 w)
    (ret : ∀ w xs ks, Sr xs ks → Hs w0 F w (ds ++ (ks ++ (own' ++ rest))) → kr w) : RFc P g L w1 B kn ke kr := by
  refine ⟨gf, first, cap, hg, hb, fun r hY => ?_⟩
  have hc := hit (fun pre ls => ∃ ks, K pre ks ∧ ls = pt L (lpO r .ready none) :: (ds ++ ks))
    (fun pre ls => ∃ ks, (∃ i, Sn i pre ks ∧ ls = pt L (lpO r .done (some (.exit i))) :: (ds ++ ks)) ∨ (Sr pre ks ∧ ls = pt L (lpO r .done (some .ret)) :: (ds ++ ks)))
    (.func (.yield L) #[] #[]) (w1 r) (pt L (lpO r .ready none) :: (ds ++ ks)) rest ?_ ⟨ks, h0, rfl⟩ (by simpa [List.append_assoc] using E r)
  · refine ((CaV.func hg hc).2).mono ?_
    rintro v w' h
    rcases h with ⟨xs, ls, hw, ⟨ks', hk, hls⟩, E'⟩ | ⟨xs, ls, ⟨ks', ⟨i, hs, hls⟩ | ⟨hs, hls⟩⟩, E'⟩ <;> rw [hls] at E' <;> simp only [List.cons_append, List.append_assoc] at E'
    · refine .inl ⟨E'.sat _ List.mem_cons_self, done _ xs ks' hw hk ?_⟩
      exact (E'.wOb (b := L) (lpO r .exhausted none)).tl
    · have E2 := (E'.wOb (b := L) (lpO r .exhausted (some (.exit i)))).tl
      obtain ⟨q, hq, hqi, hq2⟩ := exit i _ xs ks' hs E2
      obtain ⟨i', K'⟩ := q
      simp only at hqi hq2
      subst hqi
      exact .inr (.inl ⟨(i', K'), hq, E'.sat _ List.mem_cons_self, hq2⟩)
    · refine .inr (.inr ⟨E'.sat _ List.mem_cons_self, ret _ xs ks' hs ?_⟩)
      exact (E'.wOb (b := L) (lpO r .exhausted (some .ret))).tl
  · rintro pre x w' ls rest' hp ⟨ks', hk, hls⟩ E'
    rw [hls] at E'
    simp only [List.cons_append, List.append_assoc] at E'
    refine hY [enc x] w' _ (body r pre x w' ks' rest' _ _ _ hp hk E' ?_ ?_ ?_) (E'.sat _ List.mem_cons_self)
    · intro w2 ks2 hk2 E2
      refine ⟨E2.sat _ List.mem_cons_self, .inl ⟨rfl, _, ⟨ks2, hk2, rfl⟩, ?_⟩⟩
      have := E2.wOb (b := L) (lpO r .ready none)
      simpa [List.append_assoc] using this
    · intro i w2 ks2 hk2 E2
      refine ⟨E2.sat _ List.mem_cons_self, .inr ⟨rfl, _, ⟨ks2, .inl ⟨i, hk2, rfl⟩⟩, ?_⟩⟩
      have := E2.wOb (b := L) (lpO r .done (some (.exit i)))
      simpa [List.append_assoc] using this
    · intro w2 ks2 hk2 E2
      refine ⟨E2.sat _ List.mem_cons_self, .inr ⟨rfl, _, ⟨ks2, .inr ⟨hk2, rfl⟩⟩, ?_⟩⟩
      have := E2.wOb (b := L) (lpO r .done (some .ret))
      simpa [List.append_assoc] using this

/-- A range over a function, the outermost one. -/
theorem RFo.hs {α : Type} {g : Value} {gf : FuncId} {first cap : Array Value} {enc : α → Value} {Pf : List α → α → Prop} {Whole : List α → Prop} {own vis own' : List As} (hg : g = .func (.func gf) first cap) (hb : hasBody P gf = true)
    (hit : Iter P w0 F g enc Pf Whole own vis own') (K : List α → List As → Prop) (Sn : Nat → List α → List As → Prop) (Sr : List α → List As → Prop) {ks rest : List As}
    (E : Hs w0 F w (ks ++ (own ++ rest))) (h0 : K [] ks) {B : RB} {kn : Nat → World → Prop} {ke : List (Nat × (Nat → World → Prop))} {kr : Nat → World → Prop}
    (body : ∀ (r : Loop) L D pre x w ks rest Rn Re Rr, w0.heap.size ≤ L → w0.heap.size ≤ D → Pf pre x → K pre ks → Hs w0 F w (pt L (lpO r .ready none) :: pt D dfO :: (ks ++ (vis ++ rest))) →
      (∀ w' ks', K (pre ++ [x]) ks' → Hs w0 F w' (pt L (lpO r .busy none) :: pt D dfO :: (ks' ++ (vis ++ rest))) → Rn w') →
      (∀ i w' ks', Sn i (pre ++ [x]) ks' → Hs w0 F w' (pt L (lpO r .busy none) :: pt D dfO :: (ks' ++ (vis ++ rest))) → Re i w') →
      (∀ w' ks', Sr (pre ++ [x]) ks' → Hs w0 F w' (pt L (lpO r .busy none) :: pt D dfO :: (ks' ++ (vis ++ rest))) → Rr w') → B r L [enc x] w Rn Re Rr)
    (done : ∀ D w xs ks, w0.heap.size ≤ D → Whole xs → K xs ks → Hs w0 F w (pt D dfO :: (ks ++ (own' ++ rest))) → kn D w)
    (exit : ∀ i D w xs ks, w0.heap.size ≤ D → Sn i xs ks → Hs w0 F w (pt D dfO :: (ks ++ (own' ++ rest))) → ∃ q, q ∈ ke ∧ q.1 = i ∧ q.2 D w)
    (ret : ∀ D w xs ks, w0.heap.size ≤ D → Sr xs ks → Hs w0 F w (pt D dfO :: (ks ++ (own' ++ rest))) → kr D w) : RFo P g w B kn ke kr := by
  have hD : w0.heap.size ≤ w.heap.size := E.upd.size
  have hL : w0.heap.size ≤ w.heap.size + 1 := by omega
  refine RFc.hs (ds := [pt w.heap.size dfO]) hg hb hit K Sn Sr (ks := ks) (rest := rest) (fun r => ?_) h0 (fun r pre x w ks rest Rn Re Rr h1 h2 h3 => body r _ _ pre x w ks rest Rn Re Rr hL hD h1 h2 h3)
    (fun w xs ks h1 h2 h3 => done _ w xs ks hD h1 h2 h3) (fun i w' xs ks h1 h2 => ?_) (fun w xs ks h1 h2 => ret _ w xs ks hD h1 h2)
  · have E1 : Hs w0 F (w.alloc dfO) (pt w.heap.size dfO :: (ks ++ (own ++ rest))) := E.add (Upd.alloc w _) (heap_alloc_new w _) fun x hx => by cases hx; exact Nat.le_refl _
    have hs : (w.alloc dfO).heap.size = w.heap.size + 1 := by show (w.heap.push _).size = _; simp
    have := E1.add (A := pt (w.heap.size + 1) (lpO r .ready none)) (Upd.alloc (w.alloc dfO) (lpO r .ready none)) (by rw [← hs]; exact heap_alloc_new _ _) fun x hx => by cases hx; omega
    exact this
  · obtain ⟨q, hq, h3, h4⟩ := exit i _ w' xs ks hD h1 h2
    exact ⟨_, List.mem_map.2 ⟨q, hq, rfl⟩, h3, h4⟩
/-- .. within a round. -/
theorem RFi.hs {α : Type} {g : Value} {gf : FuncId} {first cap : Array Value} {enc : α → Value} {Pf : List α → α → Prop} {Whole : List α → Prop} {own vis own' : List As} {l0 : Nat} (hg : g = .func (.func gf) first cap) (hb : hasBody P gf = true)
    (hit : Iter P w0 F g enc Pf Whole own vis own') (K : List α → List As → Prop) (Sn : Nat → List α → List As → Prop) (Sr : List α → List As → Prop) {ks rest : List As}
    (E : Hs w0 F w (ks ++ (own ++ rest))) (hl : ∃ r', w.heap[l0]? = some (.loop r')) (h0 : K [] ks) {B : RB} {kn : World → Prop} {ke : List (Nat × (World → Prop))} {kr : World → Prop}
    (body : ∀ (r : Loop) L pre x w ks rest Rn Re Rr, w0.heap.size ≤ L → Pf pre x → K pre ks → Hs w0 F w (pt L (lpO r .ready none) :: (ks ++ (vis ++ rest))) →
      (∀ w' ks', K (pre ++ [x]) ks' → Hs w0 F w' (pt L (lpO r .busy none) :: (ks' ++ (vis ++ rest))) → Rn w') →
      (∀ i w' ks', Sn i (pre ++ [x]) ks' → Hs w0 F w' (pt L (lpO r .busy none) :: (ks' ++ (vis ++ rest))) → Re i w') →
      (∀ w' ks', Sr (pre ++ [x]) ks' → Hs w0 F w' (pt L (lpO r .busy none) :: (ks' ++ (vis ++ rest))) → Rr w') → B r L [enc x] w Rn Re Rr)
    (done : ∀ w xs ks, Whole xs → K xs ks → Hs w0 F w (ks ++ (own' ++ rest)) → kn w)
    (exit : ∀ i w xs ks, Sn i xs ks → Hs w0 F w (ks ++ (own' ++ rest)) → ∃ q, q ∈ ke ∧ q.1 = i ∧ q.2 w)
    (ret : ∀ w xs ks, Sr xs ks → Hs w0 F w (ks ++ (own' ++ rest)) → kr w) : RFi P l0 g w B kn ke kr := by
  have hL : w0.heap.size ≤ w.heap.size := E.upd.size
  refine ⟨hl, RFc.hs (ds := []) hg hb hit K Sn Sr (ks := ks) (rest := rest) (fun r => ?_) h0 (fun r pre x w ks rest Rn Re Rr h1 h2 h3 => body r _ pre x w ks rest Rn Re Rr hL h1 h2 h3) done exit ret⟩
  exact E.add (Upd.alloc w _) (heap_alloc_new w _) fun x hx => by cases hx; exact Nat.le_refl _

instance {E : Hs w0 F w l} {D : Nat} {ds : List Df} {k : World → Prop} {f : Obj → List As} [h : FPt l D dfO r] [h2 : WOb l D dfO f] : StpW E (Lvs P (.mark D :: ds) w k) (∀ w', Hs w0 F w' r → Lvs P ds w' k) := ⟨fun hk =>
  ⟨E.atOb, hk _ (by
    have E1 := E.perm h.perm
    exact (E1.wOb (b := D) (.deferred none)).tl)⟩⟩
instance {E : Hs w0 F w l} {lp : Loop} {L : Nat} {k : World → Prop} {f : Obj → List As} [h : WOb l L (lpO lp .ready none) f] : StpW E (Bgn lp L w k) (∀ w', Hs w0 F w' (f (lpO lp .busy none)) → k w') := ⟨fun hk => by
  obtain ⟨i, h1, -⟩ := h.at_
  exact ⟨E.sat _ (List.mem_of_getElem? h1), hk _ (E.wOb (b := L) (lpO lp .busy none))⟩⟩
instance {b : Loop → Nat → Value → World → (World → Prop) → (Nat → World → Prop) → (World → Prop) → Prop} {lp : Loop} {L : Nat} {v : Value} {Rn : World → Prop} {Re : Nat → World → Prop} {Rr : World → Prop} : Stp (RB.one b lp L [v] w Rn Re Rr) (b lp L v w Rn Re Rr) := ⟨id⟩
instance {b : Loop → Nat → Value → Value → World → (World → Prop) → (Nat → World → Prop) → (World → Prop) → Prop} {lp : Loop} {L : Nat} {u v : Value} {Rn : World → Prop} {Re : Nat → World → Prop} {Rr : World → Prop} : Stp (RB.two b lp L [u, v] w Rn Re Rr) (b lp L u v w Rn Re Rr) := ⟨id⟩
end
end Go.Sh
