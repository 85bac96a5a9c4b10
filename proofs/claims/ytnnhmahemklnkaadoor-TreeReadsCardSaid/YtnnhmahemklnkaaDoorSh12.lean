/-
  The shallow layer, part 12: ranges over a map; ranges over a function; fixed indices.
-/
import Derived.Test.YtnnhmahemklnkaaDoorSh11
import Derived.Maps.RangeRun
import Derived.LaidEqlPtr
namespace Go.Sh
open Go

theorem CaD.mono {P : Program} {f : FuncId} {args : Array Value} {w : World} {k k' : World → Prop} (h : CaD P f args w k) (hk : ∀ w', k w' → k' w') : CaD P f args w k' :=
  CallsDIn.mono h fun e u' w' ⟨h1, h2, h3⟩ => ⟨h1, h2, hk _ h3⟩
section
variable {P : Program} {w0 : World} {F : Nat → Prop} {w : World} {l r l' : List As}

/-! ### Objects -/
 class WOb (l : List As) (b : Nat) (o : outParam Obj) (f : outParam (Obj → List As)) : Prop where
  at_ : ∃ i : Nat, l[i]? = some (pt b o) ∧ ∀ o', f o' = l.set i (pt b o')
instance (priority := 2000) {b : Nat} {o : Obj} {r : List As} : WOb (pt b o :: r) b o (fun o' => pt b o' :: r) := ⟨0, rfl, fun _ => rfl⟩
instance {A : As} {b : Nat} {o : Obj} {l : List As} {f : Obj → List As} [h : WOb l b o f] : WOb (A :: l) b o (fun o' => A :: f o') := ⟨by
  obtain ⟨i, h1, h2⟩ := h.at_
  exact ⟨i + 1, by simpa using h1, fun o' => by simp [h2]⟩⟩
theorem putObj_at {w : World} {b : Nat} {o o' : Obj} (h : w.heap[b]? = some o) : (w.putObj b o').heap[b]? = some o' := World.putObj_heap_same (Array.getElem?_eq_some_iff.1 h).1
theorem Upd.putObj {w : World} {b : Nat} (o : Obj) : Upd (· = b) w (w.putObj b o) :=
  ⟨by simp, fun x _ hn => World.putObj_heap_other hn, rfl, rfl, rfl⟩
/-- A block's object is another one. -/
theorem Hs.wOb {b : Nat} {o : Obj} {f : Obj → List As} (E : Hs w0 F w l) [h : WOb l b o f] (o' : Obj) : Hs w0 F (w.putObj b o') (f o') := by
  obtain ⟨i, h1, h2⟩ := h.at_
  rw [h2]
  exact E.set i h1 (Upd.putObj o') (putObj_at (E.sat _ (List.mem_of_getElem? h1))) fun x hx => .inl hx
theorem Hs.atOb {b : Nat} {o : Obj} (E : Hs w0 F w l) [h : FPt l b o r] : w.heap[b]? = some o := E.sat _ h.mem

/-! ### Ranges over a map -/
/-- The entries that a walk has handed out are ms. -/
structure Wlk (es : Array MapEntry) (clock : Nat) (ms : List MapEntry) : Prop where
  nodup : (es.toList.map (·.born)).Nodup
  lt : ∀ e ∈ es.toList, e.born < clock
  sub : ∀ e ∈ ms, e ∈ es.toList
  nd : (ms.map (·.born)).Nodup
def itO (m clock : Nat) (ms : List MapEntry) : Obj := .mapIter (some m) clock (ms.map (·.born)).toArray clock
def mapO (es : Array MapEntry) (clock : Nat) : Obj := .map es clock

theorem Rg.mp {m : Nat} {kt : KT} {M : AL} {T K El : TypeId} {k : Value → World → Prop} (E : Hs w0 F w l) [h : FMp l m kt M r] (hT : P.underlying T = some (.map K El))
    (hk : ∀ b es clock w', w0.heap.size ≤ b → prs es.toList = M → Wlk es clock [] → (∀ p ∈ M, kt.ok p.1 = true) → Hs w0 F w' (pt b (itO m clock []) :: pt m (mapO es clock) :: r) → k (.pointer (some ⟨b, 0, none⟩)) w') :
    Ef P (Instr.range T (.map (some m))) w k := by
  have hs : MapAt m kt M w := E.sat _ h.mem
  obtain ⟨es, clock, h1, h2, h3, h4⟩ := hs.ex
  have E1 : Hs w0 F w (pt m (mapO es clock) :: r) := by
    have := (E.perm h.perm).turn 0 (A' := pt m (mapO es clock)) rfl (fun _ => h1) (fun b hb => hb)
    simpa using this
  refine ⟨_, w.alloc (itO m clock []), ?_, hk w.heap.size es clock _ E1.upd.size h2 ⟨h3, h4, (fun _ h => by cases h), by simp⟩ hs.ok (E1.add (Upd.alloc w _) (heap_alloc_new w _) fun x hx => by cases hx; exact Nat.le_refl _)⟩
  unfold Instr.range
  simp only [Sem.run_bind, run_underlying hT, Result.andThen_ok, run_getObj_map h1, Sem.run_pure, run_newObj']
  rfl
theorem Rg.nil {T K El : TypeId} {k : Value → World → Prop} (E : Hs w0 F w l) (hT : P.underlying T = some (.map K El))
    (hk : ∀ b w', w0.heap.size ≤ b → Hs w0 F w' (pt b (.mapIter none 0 #[] 0) :: l) → k (.pointer (some ⟨b, 0, none⟩)) w') : Ef P (Instr.range T (.map none)) w k := by
  refine ⟨_, w.alloc (.mapIter none 0 #[] 0), ?_, hk w.heap.size _ E.upd.size (E.add (Upd.alloc w _) (heap_alloc_new w _) fun x hx => by cases hx; exact Nat.le_refl _)⟩
  unfold Instr.range
  simp only [Sem.run_bind, run_underlying hT, Result.andThen_ok, Sem.run_pure, run_newObj']
theorem Nx.nil {b : Nat} {ty : TypeId} {k : Value → World → Prop} (E : Hs w0 F w l) [h : FPt l b (.mapIter none 0 #[] 0) r] (hk : k (.tuple #[.bool false]) w) : Ef P (Instr.next (.pointer (some ⟨b, 0, none⟩)) false ty) w k := by
  have hb : w.heap[b]? = some (.mapIter none 0 #[] 0) := E.atOb
  refine ⟨_, w, ?_, hk⟩
  simp [Instr.next, getObj, Sem.run_bind, Sem.run, hb, Result.andThen]
theorem Wlk.left {es : Array MapEntry} {clock : Nat} {ms : List MapEntry} (e : MapEntry) : e ∈ (leftOf es (ms.map (·.born)).toArray).toList ↔ e ∈ es.toList ∧ e.born ∉ ms.map (·.born) := by
  unfold leftOf; simp
theorem Wlk.push {es : Array MapEntry} {clock : Nat} {ms : List MapEntry} (h : Wlk es clock ms) {e : MapEntry} (he : e ∈ es.toList) (hn : e.born ∉ ms.map (·.born)) : Wlk es clock (ms ++ [e]) :=
  ⟨h.nodup, h.lt, fun x hx => by rcases List.mem_append.1 hx with hx | hx; exact h.sub x hx; rw [List.mem_singleton] at hx; exact hx ▸ he, by
    rw [List.map_append, List.nodup_append]
    refine ⟨h.nd, by simp, ?_⟩
    intro a ha b hb hab
    simp only [List.map_cons, List.map_nil, List.mem_singleton] at hb
    subst hab; exact hn (hb ▸ ha)⟩
theorem Wlk.perm {es : Array MapEntry} {clock : Nat} {ms : List MapEntry} (h : Wlk es clock ms) (hall : ∀ e ∈ es.toList, e.born ∈ ms.map (·.born)) : es.toList.Perm ms := by
  have inj : ∀ a ∈ es.toList, ∀ b ∈ es.toList, a.born = b.born → a = b := by
    have hn := h.nodup
    generalize es.toList = L at hn
    intro a ha b hb hab
    induction L with
    | nil => cases ha
    | cons x r ih =>
      simp only [List.map_cons, List.nodup_cons, List.mem_map, not_exists, not_and] at hn
      rcases List.mem_cons.1 ha with rfl | ha' <;> rcases List.mem_cons.1 hb with rfl | hb'
      · rfl
      · exact absurd hab.symm (hn.1 b hb')
      · exact absurd hab (hn.1 a ha')
      · exact ih hn.2 ha' hb'
  have nd1 : es.toList.Nodup := by
    have := h.nodup
    exact List.Pairwise.of_map (S := (· ≠ ·)) _ (fun a b h e => h (by rw [e])) this
  have nd2 : ms.Nodup := List.Pairwise.of_map (S := (· ≠ ·)) _ (fun a b h e => h (by rw [e])) h.nd
  refine (List.perm_ext_iff_of_nodup nd1 nd2).2 fun a => ⟨fun ha => ?_, h.sub a⟩
  obtain ⟨b, hb, hab⟩ := List.mem_map.1 (hall a ha)
  rw [← inj b (h.sub b hb) a ha hab]; exact hb
theorem setBlock_put {w : World} {b : Nat} {o : Obj} : ChangeMaps.setBlock w b o = w.putObj b o := rfl
theorem Nx.mp {b m clock : Nat} {es : Array MapEntry} {ms : List MapEntry} {ty : TypeId} {f : Obj → List As} {k : Value → World → Prop} (E : Hs w0 F w l) (hw : Wlk es clock ms) [h1 : WOb l b (itO m clock ms) f] [h2 : FPt l m (mapO es clock) r]
    (more : ∀ e w', e ∈ es.toList → e.born ∉ ms.map (·.born) → Wlk es clock (ms ++ [e]) → Hs w0 F w' (f (itO m clock (ms ++ [e]))) → k (.tuple #[.bool true, e.key, e.val]) w')
    (done : es.toList.Perm ms → k (.tuple #[.bool false]) w) : Ef P (Instr.next (.pointer (some ⟨b, 0, none⟩)) false ty) w k := by
  obtain ⟨i, hi, hf⟩ := h1.at_
  have hb : w.heap[b]? = some (itO m clock ms) := E.sat _ (List.mem_of_getElem? hi)
  have hm : w.heap[m]? = some (mapO es clock) := E.atOb
  rcases run_next_at (P := P) w ty b m clock clock _ es clock hb hm hw.lt (Nat.le_refl _) with ⟨h0, hr⟩ | ⟨e, he, w1, hw1, hr⟩
  · refine ⟨_, w, hr, done (hw.perm fun e he => ?_)⟩
    by_cases hn : e.born ∈ ms.map (·.born)
    · exact hn
    · have hmem := (Wlk.left (clock := clock) e).2 ⟨he, hn⟩
      have : (leftOf es (ms.map (·.born)).toArray).toList = [] := by rw [← List.length_eq_zero_iff]; simpa using h0
      rw [this] at hmem; cases hmem
  · obtain ⟨he1, he2⟩ := (Wlk.left (clock := clock) e).1 he
    refine ⟨_, _, hr, more e _ he1 he2 (hw.push he1 he2) ?_⟩
    have E1 : Hs w0 F w1 l := by rcases hw1 with rfl | rfl; exact E; exact E.grow (Upd.drew _)
    rw [hf, setBlock_put]
    refine E1.set i hi (Upd.putObj _) ?_ fun x hx => .inl hx
    have hb1 : w1.heap[b]? = some (itO m clock ms) := E1.sat _ (List.mem_of_getElem? hi)
    show (w1.putObj b _).heap[b]? = _
    rw [putObj_at hb1]
    simp [itO]
theorem Ent.mp {b m clock : Nat} {es : Array MapEntry} {ms : List MapEntry} {e : MapEntry} {r2 : List As} {k : Value → Prop} (E : Hs w0 F w l) (hw : Wlk es clock (ms ++ [e])) [h1 : FPt l b (itO m clock (ms ++ [e])) r] [h2 : FPt l m (mapO es clock) r2]
    (hk : k (.tuple #[e.key, e.val])) : Rd P (Instr.entry (.pointer (some ⟨b, 0, none⟩))) w k := by
  have hb : w.heap[b]? = some (itO m clock (ms ++ [e])) := E.atOb
  have hm : w.heap[m]? = some (mapO es clock) := E.atOb
  refine ⟨_, run_entry_at w b m clock (ms.map (·.born)).toArray es clock e ?_ hm (hw.sub e (by simp)) hw.nodup, hk⟩
  rw [hb]; simp [itO]
/-- The map is a map again. -/
theorem Hs.mapBack {m clock : Nat} {kt : KT} {M : AL} {es : Array MapEntry} {ms : List MapEntry} (E : Hs w0 F w l) [h : FPt l m (mapO es clock) r] (hp : prs es.toList = M) (hw : Wlk es clock ms) (hok : ∀ p ∈ M, kt.ok p.1 = true) : Hs w0 F w (mp m kt M :: r) := by
  have := (E.perm h.perm).turn 0 (A' := mp m kt M) rfl (fun hs => ⟨⟨es, clock, hs, hp, hw.nodup, hw.lt⟩, hok⟩) (fun b hb => hb)
  simpa using this

/-- How many rounds are left at most. -/
def itM (b N : Nat) (w : World) : Nat := match w.heap[b]? with
  | some (.mapIter _ _ seen _) => N - seen.size
  | _ => 0
theorem itM_eq {b m clock N : Nat} {ms : List MapEntry} (E : Hs w0 F w l) [h : FPt l b (itO m clock ms) r] : itM b N w = N - ms.length := by
  unfold itM
  rw [show w.heap[b]? = _ from E.atOb]
  simp [itO]
theorem Wlk.le {es : Array MapEntry} {clock : Nat} {ms : List MapEntry} (h : Wlk es clock ms) : ms.length ≤ es.size := by
  have key : ∀ (a b : List Nat), a.Nodup → (∀ e ∈ a, e ∈ b) → a.length ≤ b.length := by
    intro a
    induction a with
    | nil => intro b _ _; exact Nat.zero_le _
    | cons x r ih =>
      intro b hn hs
      rw [List.nodup_cons] at hn
      have hx := hs x List.mem_cons_self
      have := ih (b.erase x) hn.2 (fun e he => by
        have hne : e ≠ x := fun hh => hn.1 (hh ▸ he)
        exact (List.mem_erase_of_ne hne).2 (hs e (List.mem_cons_of_mem _ he)))
      rw [List.length_erase_of_mem hx] at this
      have := List.length_pos_of_mem hx
      simp; omega
  have := key (ms.map (·.born)) (es.toList.map (·.born)) h.nd fun e he => by
    obtain ⟨x, hx, rfl⟩ := List.mem_map.1 he
    exact List.mem_map.2 ⟨x, h.sub x hx, rfl⟩
  simpa using this

/-! ### Pointers held against each other -/
theorem ptr_eql {t el : TypeId} {i : TypeInfo} {a b : Addr} {ca cb : List Value} {ta tb : TypeId} (hu : P.underlying t = some (.pointer el)) (hi : P.info? el = some i) (hz : i.size ≠ 0) (ha : w.heap[a.block]? = some (oc ca ta)) (hb : w.heap[b.block]? = some (oc cb tb)) :
    (binOp .eql t (.pointer (some a)) (.pointer (some b))).run P w = .ok (.bool (decide (a = b))) w := by
  by_cases h : a = b
  · subst h; rw [decide_eq_true rfl]; exact run_eql_ptr_same w a hu hi
  · rw [decide_eq_false h]; exact run_eql_ptr_other w hu hi hz h ha hb
theorem Eq.pp {t el : TypeId} {n : Nat} {a b : Addr} {ca cb : List Value} {ta tb : TypeId} {x y : Operand} {k : Value → Prop} (hu : P.underlying t = some (.pointer el)) (hs : sizeK P el = some (n + 1))
    (ha : w.heap[a.block]? = some (oc ca ta)) (hb : w.heap[b.block]? = some (oc cb tb)) (hk : k (.bool (decide (a = b)))) : Rd P (eqS .eql t x y (.pointer (some a)) (.pointer (some b))) w k := by
  refine ⟨_, ?_, hk⟩
  have hg : (eqGuard .eql t x y (.pointer (some a)) (.pointer (some b))).run P w = .ok () w := by unfold eqGuard; rfl
  unfold eqS
  rw [Sem.run_bind, hg, Result.andThen_ok]
  unfold sizeK at hs
  cases hi : P.info? el with
  | none => rw [hi] at hs; cases hs
  | some i =>
    rw [hi] at hs
    simp only [Option.map_some, Option.some.injEq] at hs
    exact ptr_eql hu hi (by omega) ha hb

/-! ### Fixed indices -/
instance {b : Bool} {op : (Value → World → Prop) → Prop} {w : World} {k : Value → World → Prop} : Stp (Gd undef b op w k) (k undef w) := ⟨fun h => .inr ⟨by simp [isB, undef], h⟩⟩
theorem LnL.nil {c : Nat} {k : Value → Prop} (h : k (.int .i64 0)) : LnL (.slice none 0 c) k := ⟨none, 0, c, rfl, h⟩
instance (priority := 1500) {n sz b o : Nat} {kk : IntKind} {k : Value → Prop} : Stp (IxP (n + 1) sz (.pointer (some ⟨b, o, none⟩)) (.int kk 0) k) (k (.pointer (some ⟨b, o, none⟩))) :=
  ⟨fun h => ⟨_, _, _, rfl, rfl, by omega, by omega, by rw [add_mk]; simpa using h⟩⟩
instance (priority := 1500) {n sz b : Nat} {kk : IntKind} {k : Value → Prop} : Stp (IxP (n + 2) sz (.pointer (some ⟨b, 0, none⟩)) (.int kk 1) k) (k (.pointer (some ⟨b, sz, none⟩))) :=
  ⟨fun h => ⟨_, _, _, rfl, rfl, by omega, by omega, by rw [add_mk]; simpa using h⟩⟩
end
end Go.Sh
