/-
  The shallow layer, part 7: maps as lists of pairs; slices that own their row.
-/
import Derived.Test.YtnnhmahemklnkaaDoorSh6
namespace Go.Sh
open Go

/-- The kinds of keys that are compared at once. -/
inductive KT where
  | int (k : IntKind)
  | str
def KT.ok : KT → Value → Bool
  | .int k, .int k' _ => k == k'
  | .str, .string _ => true
  | _, _ => false
def KT.fits (P : Program) (K : TypeId) : KT → Bool
  | .int k => match P.underlying K with | some (.int k') => k == k' | _ => false
  | .str => match P.underlying K with | some .string => true | _ => false
def keyEq : Value → Value → Bool
  | .int _ a, .int _ b => a == b
  | .string a, .string b => a == b
  | _, _ => false
theorem ba_beq (a b : ByteArray) : (a == b) = decide (a = b) := by
  cases a with | mk x => cases b with | mk y =>
  have : (ByteArray.mk x == ByteArray.mk y) = (x == y) := rfl
  rw [this]
  by_cases h : x = y
  · subst h; simp
  · simp [h]
/-- A map's pairs, in the order in which they came. -/
abbrev AL := List (Value × Value)
def aget (M : AL) (key : Value) : Option Value := (M.find? fun p => keyEq key p.1).map (·.2)
def aput : AL → Value → Value → AL
  | [], key, v => [(key, v)]
  | p :: r, key, v => if keyEq key p.1 then (key, v) :: r else p :: aput r key v
def adel : AL → Value → AL
  | [], _ => []
  | p :: r, key => if keyEq key p.1 then r else p :: adel r key
def prs (es : List MapEntry) : AL := es.map fun e => (e.key, e.val)

/-- Block b holds a map with these pairs. -/
structure MapAt (b : Nat) (kt : KT) (M : AL) (w : World) : Prop where
  ex : ∃ es clock, w.heap[b]? = some (.map es clock) ∧ prs es.toList = M ∧ (es.toList.map (·.born)).Nodup ∧ ∀ e ∈ es.toList, e.born < clock
  ok : ∀ p ∈ M, kt.ok p.1 = true
def mp (b : Nat) (kt : KT) (M : AL) : As where
  foot := (· = b)
  sat := MapAt b kt M
  lt w h x hx := by
    subst hx; obtain ⟨es, clock, h1, _⟩ := h.ex
    exact (Array.getElem?_eq_some_iff.1 h1).1
  loc w w' h hs := by
    obtain ⟨es, clock, h1, h2⟩ := hs.ex
    exact ⟨⟨es, clock, by rw [h b rfl]; exact h1, h2⟩, hs.ok⟩

theorem sameNow_ok {kt : KT} {P : Program} {K : TypeId} (hf : kt.fits P K = true) : ∃ d, P.underlying K = some d ∧ ∀ a b, kt.ok a = true → kt.ok b = true → Instr.sameNow d a b = some (keyEq a b) := by
  cases kt with
  | int k =>
    simp only [KT.fits] at hf
    split at hf
    · rename_i k' hu
      refine ⟨_, hu, fun a b ha hb => ?_⟩
      cases a <;> simp only [KT.ok] at ha <;> try cases ha
      cases b <;> simp only [KT.ok] at hb <;> try cases hb
      rename_i k1 n1 k2 n2
      have e1 : k = k1 := by simpa using ha
      have e2 : k = k2 := by simpa using hb
      subst e1; subst e2
      simp [Instr.sameNow, keyEq]
    · cases hf
  | str =>
    simp only [KT.fits] at hf
    split at hf
    · rename_i hu
      refine ⟨_, hu, fun a b ha hb => ?_⟩
      cases a <;> simp only [KT.ok] at ha <;> try cases ha
      cases b <;> simp only [KT.ok] at hb <;> try cases hb
      rfl
    · cases hf

/-- The place at which a key stands, and what it holds. -/
def ixOf (key : Value) : List MapEntry → Nat → Option (Nat × Value)
  | [], _ => none
  | e :: r, i => if keyEq key e.key then some (i, e.val) else ixOf key r (i + 1)
theorem findNow_ok {kt : KT} {d : TypeDesc} (hs : ∀ a b, kt.ok a = true → kt.ok b = true → Instr.sameNow d a b = some (keyEq a b)) {key : Value} (hk : kt.ok key = true) :
    ∀ (es : List MapEntry) (i : Nat), (∀ e ∈ es, kt.ok e.key = true) → Instr.findNow d key es i = some (ixOf key es i)
  | [], _, _ => rfl
  | e :: r, i, h => by
    simp only [Instr.findNow, hs key e.key hk (h e List.mem_cons_self), ixOf]
    cases hb : keyEq key e.key with
    | true => rfl
    | false => simpa using findNow_ok hs hk r (i + 1) fun x hx => h x (List.mem_cons_of_mem _ hx)
theorem ixOf_get (key : Value) : ∀ (es : List MapEntry) (i : Nat), (ixOf key es i).map (·.2) = aget (prs es) key
  | [], _ => rfl
  | e :: r, i => by
    simp only [ixOf, prs, aget, List.map_cons, List.find?_cons]
    cases hb : keyEq key e.key with
    | true => simp
    | false => simpa [prs, aget] using ixOf_get key r (i + 1)
theorem findKey_run {P : Program} {kt : KT} {K : TypeId} (hf : kt.fits P K = true) {key : Value} (hk : kt.ok key = true) {es : List MapEntry} (h : ∀ e ∈ es, kt.ok e.key = true) (w : World) :
    (Instr.findKey K key es).run P w = .ok (ixOf key es 0) w := by
  obtain ⟨d, hu, hs⟩ := sameNow_ok hf
  unfold Instr.findKey
  simp only [Sem.run_bind, run_underlying hu, Result.andThen_ok, findNow_ok hs hk es 0 h]
  rfl
theorem checkKey_run {P : Program} {kt : KT} {K : TypeId} (hf : kt.fits P K = true) {key : Value} (hk : kt.ok key = true) (b : Bool) (w : World) :
    (Instr.checkKey b 10000 K key).run P w = .ok () w := by
  show (Instr.checkKey b (9999 + 1) K key).run P w = .ok () w
  rw [Instr.checkKey]
  cases kt with
  | int k =>
    simp only [KT.fits] at hf
    split at hf
    · rename_i k' hu
      cases key <;> simp only [KT.ok] at hk <;> try cases hk
      simp only [Sem.run_bind, run_underlying hu, Result.andThen_ok]
      rfl
    · cases hf
  | str =>
    simp only [KT.fits] at hf
    split at hf
    · rename_i hu
      cases key <;> simp only [KT.ok] at hk <;> try cases hk
      simp only [Sem.run_bind, run_underlying hu, Result.andThen_ok]
      rfl
    · cases hf

theorem keysOk {kt : KT} {M : AL} {es : List MapEntry} (h : prs es = M) (hok : ∀ p ∈ M, kt.ok p.1 = true) : ∀ e ∈ es, kt.ok e.key = true := by
  intro e he
  exact hok (e.key, e.val) (by rw [← h]; exact List.mem_map.2 ⟨e, he, rfl⟩)

theorem run_getObj_map {P : Program} {w : World} {b : Nat} {es : Array MapEntry} {clock : Nat} (h : w.heap[b]? = some (.map es clock)) : (getObj b).run P w = .ok (.map es clock) w := by
  unfold getObj; simp [Sem.run, h]
theorem run_setObj_map {P : Program} {w : World} {b : Nat} {es : Array MapEntry} {clock : Nat} (o : Obj) (h : w.heap[b]? = some (.map es clock)) : (setObj b o).run P w = .ok () (World.putOb w b o) := by
  unfold setObj; simp [Sem.run, h, World.putOb]

/-- The zero of a type. -/
def zeroK (P : Program) (t : TypeId) : Option Value := (P.info? t).bind (·.zero)
theorem run_zero {P : Program} {t : TypeId} {z : Value} (h : zeroK P t = some z) (w : World) : (zeroValue t).run P w = .ok z w := by
  unfold zeroK at h
  unfold zeroValue typeInfo
  cases hi : P.info? t with
  | none => rw [hi] at h; cases h
  | some i => rw [hi] at h; simp only [Option.bind_some] at h; simp [program, Sem.run, hi, h]

section
variable {P : Program} {w0 : World} {F : Nat → Prop} {w : World} {l : List As}

theorem lookup_run {b : Nat} {kt : KT} {M : AL} (h : MapAt b kt M w) {T K El : TypeId} {z key : Value} (hT : P.underlying T = some (.map K El)) (hf : kt.fits P K = true) (hz : zeroK P El = some z)
    (hk : kt.ok key = true) (ok : Bool) : (Instr.lookup T (.map (some b)) key ok).run P w = .ok (if ok then .tuple #[(aget M key).getD z, .bool (aget M key).isSome] else (aget M key).getD z) w := by
  obtain ⟨es, clock, h1, h2, _, _⟩ := h.ex
  unfold Instr.lookup
  simp only [Sem.run_bind, run_underlying hT, Result.andThen_ok, run_getObj_map h1, Sem.run_pure, checkKey_run hf hk, findKey_run hf hk (keysOk h2 h.ok)]
  have hg := ixOf_get key es.toList 0
  rw [h2] at hg
  cases hi : ixOf key es.toList 0 with
  | none =>
    rw [hi] at hg
    simp only [Option.map_none] at hg
    simp only [Sem.run_bind, run_zero hz, Result.andThen_ok, Sem.run_pure, ← hg]
    cases ok <;> rfl
  | some p =>
    obtain ⟨i, v⟩ := p
    rw [hi] at hg
    simp only [Option.map_some] at hg
    simp only [Sem.run_pure, Result.andThen_ok, ← hg]
    cases ok <;> rfl
/-- 'v, ok := m[k]' -/
theorem Lk.ok {b : Nat} {kt : KT} {M : AL} {T K El : TypeId} {z key : Value} {k : Value → Prop} (E : Hs w0 F w l) (hm : mp b kt M ∈ l) (hT : P.underlying T = some (.map K El)) (hf : kt.fits P K = true)
    (hz : zeroK P El = some z) (hk : kt.ok key = true) (h : k (.tuple #[(aget M key).getD z, .bool (aget M key).isSome])) : Rd P (Instr.lookup T (.map (some b)) key true) w k :=
  ⟨_, lookup_run (E.sat _ hm) hT hf hz hk true, h⟩
/-- 'v := m[k]' -/
theorem Lk.one {b : Nat} {kt : KT} {M : AL} {T K El : TypeId} {z key : Value} {k : Value → Prop} (E : Hs w0 F w l) (hm : mp b kt M ∈ l) (hT : P.underlying T = some (.map K El)) (hf : kt.fits P K = true)
    (hz : zeroK P El = some z) (hk : kt.ok key = true) (h : k ((aget M key).getD z)) : Rd P (Instr.lookup T (.map (some b)) key false) w k :=
  ⟨_, lookup_run (E.sat _ hm) hT hf hz hk false, h⟩
theorem Lk.nil {T K El : TypeId} {kt : KT} {z key : Value} {k : Value → Prop} (hT : P.underlying T = some (.map K El)) (hf : kt.fits P K = true) (hz : zeroK P El = some z) (hk : kt.ok key = true) {ok : Bool}
    (h : k (if ok then .tuple #[z, .bool false] else z)) : Rd P (Instr.lookup T (.map none) key ok) w k := by
  refine ⟨_, ?_, h⟩
  have hc := findKey_run (es := []) hf hk (fun _ h => by cases h) w
  unfold Instr.lookup
  simp only [Sem.run_bind, run_underlying hT, Result.andThen_ok, Sem.run_pure, checkKey_run hf hk]
  rw [hc]
  simp only [ixOf, Result.andThen_ok, Sem.run_bind, run_zero hz, Sem.run_pure]
theorem len_map_run {b : Nat} {kt : KT} {M : AL} (h : MapAt b kt M w) {T K El ty : TypeId} (hT : P.underlying T = some (.map K El)) : (Builtin.len_ #[T] ty #[.map (some b)]).run P w = .ok (.int .i64 M.length) w := by
  obtain ⟨es, clock, h1, h2, _, _⟩ := h.ex
  have : M.length = es.size := by rw [← h2]; simp [prs]
  unfold Builtin.len_
  simp [run_underlying hT, run_getObj_map h1, goInt, this]
theorem Len.map {b : Nat} {kt : KT} {M : AL} {T K El ty : TypeId} {k : Value → Prop} (E : Hs w0 F w l) (hm : mp b kt M ∈ l) (hT : P.underlying T = some (.map K El)) (h : k (.int .i64 M.length)) :
    Rd P (Builtin.len_ #[T] ty #[.map (some b)]) w k := ⟨_, len_map_run (E.sat _ hm) hT, h⟩
theorem Len.nilmap {T K El ty : TypeId} {k : Value → Prop} (hT : P.underlying T = some (.map K El)) (h : k (.int .i64 0)) : Rd P (Builtin.len_ #[T] ty #[.map none]) w k := by
  refine ⟨_, ?_, h⟩
  unfold Builtin.len_
  simp [run_underlying hT, goInt]

theorem MkM.pt {kt : KT} {k : Value → World → Prop} (E : Hs w0 F w l) (hk : ∀ b w', w0.heap.size ≤ b → Hs w0 F w' (mp b kt [] :: l) → k (.map (some b)) w') : MkM w k := by
  refine hk _ _ E.upd.size (E.add (Upd.alloc w _) ?_ fun x hx => by cases hx; exact Nat.le_refl _)
  exact ⟨⟨#[], 0, heap_alloc_new _ _, rfl, List.nodup_nil, fun _ h => by cases h⟩, fun _ h => by cases h⟩

theorem aput_ok {kt : KT} {key v : Value} (hk : kt.ok key = true) : ∀ {M : AL}, (∀ p ∈ M, kt.ok p.1 = true) → ∀ p ∈ aput M key v, kt.ok p.1 = true
  | [], _, p, hp => by simp only [aput, List.mem_singleton] at hp; subst hp; exact hk
  | q :: r, h, p, hp => by
    simp only [aput] at hp
    split at hp
    · rcases List.mem_cons.1 hp with rfl | hp
      · exact hk
      · exact h p (List.mem_cons_of_mem _ hp)
    · rcases List.mem_cons.1 hp with rfl | hp
      · exact h _ List.mem_cons_self
      · exact aput_ok hk (fun p hp => h p (List.mem_cons_of_mem _ hp)) p hp
theorem adel_ok {kt : KT} {key : Value} : ∀ {M : AL}, (∀ p ∈ M, kt.ok p.1 = true) → ∀ p ∈ adel M key, kt.ok p.1 = true
  | [], _, p, hp => by cases hp
  | q :: r, h, p, hp => by
    simp only [adel] at hp
    split at hp
    · exact h p (List.mem_cons_of_mem _ hp)
    · rcases List.mem_cons.1 hp with rfl | hp
      · exact h _ List.mem_cons_self
      · exact adel_ok (fun p hp => h p (List.mem_cons_of_mem _ hp)) p hp
theorem ixOf_none {key : Value} {v : Value} : ∀ {es : List MapEntry} {i : Nat}, ixOf key es i = none → aput (prs es) key v = prs es ++ [(key, v)] ∧ adel (prs es) key = prs es
  | [], _, _ => ⟨rfl, rfl⟩
  | e :: r, i, h => by
    simp only [ixOf] at h
    split at h
    · cases h
    · rename_i hb
      obtain ⟨h1, h2⟩ := ixOf_none (v := v) h
      constructor
      · simp only [prs, List.map_cons, aput, hb]
        simpa [prs] using h1
      · simp only [prs, List.map_cons, adel, hb]
        simpa [prs] using h2
theorem ixOf_some {key v : Value} : ∀ {es : List MapEntry} {i j : Nat} {u : Value}, ixOf key es i = some (j, u) → i ≤ j ∧ j - i < es.length ∧
    prs (es.modify (j - i) fun e => { e with key, val := v }) = aput (prs es) key v ∧ prs (es.eraseIdx (j - i)) = adel (prs es) key
  | [], _, _, _, h => by cases h
  | e :: r, i, j, u, h => by
    simp only [ixOf] at h
    split at h
    · rename_i hb
      simp only [Option.some.injEq, Prod.mk.injEq] at h
      obtain ⟨rfl, rfl⟩ := h
      refine ⟨Nat.le_refl _, by simp, ?_, ?_⟩
      · simp [prs, aput, hb]
      · simp [prs, adel, hb]
    · rename_i hb
      obtain ⟨h1, h2, h3, h4⟩ := ixOf_some (v := v) h
      have e1 : j - i = (j - (i + 1)) + 1 := by omega
      refine ⟨by omega, by simp; omega, ?_, ?_⟩
      · rw [e1]
        simp only [List.modify_succ_cons, prs, List.map_cons, aput, hb]
        simpa [prs] using h3
      · rw [e1]
        simp only [List.eraseIdx_cons_succ, prs, List.map_cons, adel, hb]
        simpa [prs] using h4

theorem keyThat_run {kt : KT} {old new : Value} (h1 : kt.ok old = true) (h2 : kt.ok new = true) (he : keyEq new old = true) (w : World) : (Instr.keyThatStays old new).run P w = .ok new w := by
  have hb : Instr.sameBits 10000 old new = true := by
    cases kt with
    | int k =>
      cases old <;> simp only [KT.ok] at h1 <;> try cases h1
      cases new <;> simp only [KT.ok] at h2 <;> try cases h2
      simp only [keyEq] at he
      simp only [Instr.sameBits, Bool.and_eq_true]
      refine ⟨?_, ?_⟩
      · have e1 := eq_of_beq h1; have e2 := eq_of_beq h2; rw [← e1, ← e2]; simp
      · rw [eq_of_beq he]; simp
    | str =>
      cases old <;> simp only [KT.ok] at h1 <;> try cases h1
      cases new <;> simp only [KT.ok] at h2 <;> try cases h2
      simp only [keyEq] at he
      simp only [Instr.sameBits]
      rw [ba_beq] at he ⊢
      simp only [decide_eq_true_eq] at he ⊢
      exact he.symm
  unfold Instr.keyThatStays
  rw [hb]
  rfl
theorem ixOf_at {key : Value} : ∀ {es : List MapEntry} {i j : Nat} {u : Value}, ixOf key es i = some (j, u) → ∃ e, es[j - i]? = some e ∧ keyEq key e.key = true
  | [], _, _, _, h => by cases h
  | e :: r, i, j, u, h => by
    simp only [ixOf] at h
    split at h
    · rename_i hb
      simp only [Option.some.injEq, Prod.mk.injEq] at h
      obtain ⟨rfl, rfl⟩ := h
      exact ⟨e, by simp, hb⟩
    · obtain ⟨e', h1, h2⟩ := ixOf_at h
      have := (ixOf_some (v := u) h).1
      refine ⟨e', ?_, h2⟩
      have e1 : j - i = (j - (i + 1)) + 1 := by omega
      rw [e1]; simpa using h1

theorem Mu.mp {i b : Nat} {kt : KT} {M : AL} {T K El : TypeId} {key v : Value} {k : Unit → World → Prop} (E : Hs w0 F w l) (hm : l[i]? = some (mp b kt M)) (hT : P.underlying T = some (.map K El)) (hf : kt.fits P K = true)
    (hk : kt.ok key = true) (h : ∀ w', Hs w0 F w' (l.set i (Sh.mp b kt (aput M key v))) → k () w') : Ef P (Instr.mapUpdate T (.map (some b)) key v) w k := by
  have hs : MapAt b kt M w := E.sat _ (List.mem_of_getElem? hm)
  obtain ⟨es, clock, h1, h2, h3, h4⟩ := hs.ex
  have run0 : ∀ o w', (do
      match ← Instr.findKey K key es.toList with
      | some (i, _) => do
        let key ← Instr.keyThatStays (((es[i]?).map (·.key)).getD key) key
        setObj b (.map (es.modify i fun e => { e with key, val := v }) clock)
      | none => setObj b (.map (es.push { key, val := v, born := clock }) (clock + 1)) : Sem Unit).run P w = .ok o w' → (Instr.mapUpdate T (.map (some b)) key v).run P w = .ok o w' := by
    intro o w' hh
    unfold Instr.mapUpdate
    simp only [Sem.run_bind, run_underlying hT, Result.andThen_ok, run_getObj_map h1, checkKey_run hf hk]
    rw [Sem.run_bind] at hh
    exact hh
  have hfk := findKey_run hf hk (keysOk h2 hs.ok) w
  cases hi : ixOf key es.toList 0 with
  | none =>
    have e1 := (ixOf_none (v := v) hi).1
    rw [h2] at e1
    refine ⟨(), World.putOb w b (.map (es.push { key, val := v, born := clock }) (clock + 1)), run0 _ _ ?_, h _ (E.set i hm (Upd.putOb _) ?_ fun x hx => .inl hx)⟩
    · simp only [Sem.run_bind, hfk, hi, Result.andThen_ok]
      exact run_setObj_map _ h1
    · refine ⟨⟨_, _, putOb_at h1, ?_, ?_, ?_⟩, aput_ok hk hs.ok⟩
      · rw [e1, ← h2]; simp [prs]
      · simp only [Array.toList_push, List.map_append, List.map_cons, List.map_nil]
        rw [List.nodup_append]
        refine ⟨h3, by simp, ?_⟩
        intro a ha c hc
        simp only [List.mem_singleton] at hc
        subst hc
        obtain ⟨e, he, rfl⟩ := List.mem_map.1 ha
        have := h4 e he; omega
      · intro e he
        simp only [Array.toList_push, List.mem_append, List.mem_singleton] at he
        rcases he with he | rfl
        · have := h4 e he; omega
        · simp
  | some p =>
    obtain ⟨j, u⟩ := p
    obtain ⟨_, g2, g3, _⟩ := ixOf_some (v := v) hi
    obtain ⟨e, g4, g5⟩ := ixOf_at hi
    simp only [Nat.sub_zero] at g2 g3 g4
    rw [h2] at g3
    have hej : es[j]? = some e := by rw [← Array.getElem?_toList]; exact g4
    have hme : e ∈ es.toList := List.mem_of_getElem? g4
    have hmod : (es.modify j fun e => { e with key, val := v }).toList = es.toList.modify j fun e => { e with key, val := v } := by
      rw [Array.toList_modify]
    refine ⟨(), World.putOb w b (.map (es.modify j fun e => { e with key, val := v }) clock), run0 _ _ ?_, h _ (E.set i hm (Upd.putOb _) ?_ fun x hx => .inl hx)⟩
    · simp only [Sem.run_bind, hfk, hi, Result.andThen_ok, hej, Option.map_some, Option.getD_some]
      rw [keyThat_run (keysOk h2 hs.ok e hme) hk g5, Result.andThen_ok]
      exact run_setObj_map _ h1
    · have hborn : (es.toList.modify j fun e => { e with key, val := v }).map (·.born) = es.toList.map (·.born) := by
        apply List.ext_getElem?
        intro n
        rw [List.getElem?_map, List.getElem?_map, List.getElem?_modify]
        cases es.toList[n]? with
        | none => simp
        | some x => by_cases hjn : j = n <;> simp [hjn]
      refine ⟨⟨_, _, putOb_at h1, ?_, ?_, ?_⟩, aput_ok hk hs.ok⟩
      · rw [hmod]; exact g3
      · rw [hmod, hborn]; exact h3
      · intro x hx
        rw [hmod] at hx
        have : x.born ∈ (es.toList.modify j fun e => { e with key, val := v }).map (·.born) := List.mem_map.2 ⟨x, hx, rfl⟩
        rw [hborn] at this
        obtain ⟨y, hy, hyb⟩ := List.mem_map.1 this
        have := h4 y hy; omega

theorem Dl.mp {i b : Nat} {kt : KT} {M : AL} {T K El K' ty : TypeId} {key : Value} {k : Value → World → Prop} (E : Hs w0 F w l) (hm : l[i]? = some (Sh.mp b kt M)) (hT : P.underlying T = some (.map K El)) (hf : kt.fits P K = true)
    (hk : kt.ok key = true) (h : ∀ w', Hs w0 F w' (l.set i (Sh.mp b kt (adel M key))) → k (.tuple #[]) w') : Ef P (Builtin.delete_ #[T, K'] ty #[.map (some b), key]) w k := by
  have hs : MapAt b kt M w := E.sat _ (List.mem_of_getElem? hm)
  obtain ⟨es, clock, h1, h2, h3, h4⟩ := hs.ex
  have hfk := findKey_run hf hk (keysOk h2 hs.ok) w
  have run0 : ∀ w', (do
      match ← Instr.findKey K key es.toList with
      | some (i, _) => setObj b (.map (es.eraseIdxIfInBounds i) clock)
      | none => setObj b (.map es clock) : Sem Unit).run P w = .ok () w' → (Builtin.delete_ #[T, K'] ty #[.map (some b), key]).run P w = .ok (.tuple #[]) w' := by
    intro w' hh
    unfold Builtin.delete_
    show (do
      let .map keyType _ ← underlying T | stuck "delete: map type expected"
      let .map es clock ← getObj b | stuck "delete: map expected"
      Instr.checkKey es.isEmpty 10000 keyType key
      match ← Instr.findKey keyType key es.toList with
      | some (i, _) => setObj b (.map (es.eraseIdxIfInBounds i) clock)
      | none => setObj b (.map es clock)
      pure (.tuple #[]) : Sem Value).run P w = _
    simp only [Sem.run_bind, run_underlying hT, Result.andThen_ok, run_getObj_map h1, checkKey_run hf hk]
    rw [Sem.run_bind] at hh
    cases hr : (Instr.findKey K key es.toList).run P w with
    | halt x y => rw [hr] at hh; cases hh
    | ok x y =>
      rw [hr] at hh
      simp only [Result.andThen_ok] at hh ⊢
      cases x with
      | none => simp only at hh ⊢; simp only [Sem.run_bind, hh, Result.andThen_ok, Sem.run_pure]
      | some p => simp only at hh ⊢; simp only [Sem.run_bind, hh, Result.andThen_ok, Sem.run_pure]
  cases hi : ixOf key es.toList 0 with
  | none =>
    have e1 := (ixOf_none (v := .nilFunc) hi).2
    rw [h2] at e1
    refine ⟨_, World.putOb w b (.map es clock), run0 _ ?_, h _ (E.set i hm (Upd.putOb _) ?_ fun x hx => .inl hx)⟩
    · simp only [Sem.run_bind, hfk, hi, Result.andThen_ok]
      exact run_setObj_map _ h1
    · exact ⟨⟨es, clock, putOb_at h1, by rw [h2, e1], h3, h4⟩, adel_ok hs.ok⟩
  | some p =>
    obtain ⟨j, u⟩ := p
    obtain ⟨_, g2, _, g3⟩ := ixOf_some (v := .nilFunc) hi
    simp only [Nat.sub_zero] at g2 g3
    rw [h2] at g3
    have hlt : j < es.size := by simpa using g2
    have htl : (es.eraseIdxIfInBounds j).toList = es.toList.eraseIdx j := by
      rw [Array.eraseIdxIfInBounds, dif_pos hlt, Array.toList_eraseIdx]
    refine ⟨_, World.putOb w b (.map (es.eraseIdxIfInBounds j) clock), run0 _ ?_, h _ (E.set i hm (Upd.putOb _) ?_ fun x hx => .inl hx)⟩
    · simp only [Sem.run_bind, hfk, hi, Result.andThen_ok]
      exact run_setObj_map _ h1
    · refine ⟨⟨_, _, putOb_at h1, by rw [htl]; exact g3, ?_, ?_⟩, adel_ok hs.ok⟩
      · rw [htl]; exact h3.sublist ((List.eraseIdx_sublist _ _).map _)
      · intro e he; rw [htl] at he; exact h4 e ((List.eraseIdx_sublist _ _).subset he)
end

end Go.Sh
