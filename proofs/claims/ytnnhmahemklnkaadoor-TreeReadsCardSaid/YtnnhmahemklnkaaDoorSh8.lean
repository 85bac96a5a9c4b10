/-
  The shallow layer, part 8: slices that own their row; append; bytes and strings.
-/
import Derived.Test.YtnnhmahemklnkaaDoorSh7
import Derived.Lib.AppendStr
namespace Go.Sh
open Go

def zeroLen : Value → Prop := fun v => v = .slice none 0 0
/-- The slice value v owns the cells xs (sz cells an element, of type T). -/
structure SliceAt (v : Value) (T : TypeId) (sz : Nat) (xs : List Value) (w : World) : Prop where
  ex : (v = .slice none 0 0 ∧ xs = []) ∨ ∃ b off len cap pre sp fr, v = .slice (some ⟨b, off, none⟩) len cap ∧ w.heap[b]? = some (ocf (pre ++ xs ++ sp) T fr) ∧ pre.length = off ∧
    xs.length = len * sz ∧ cap * sz ≤ (xs ++ sp).length ∧ len ≤ cap ∧ Free fr (pre ++ xs ++ sp).length
def blkOf : Value → Option Nat
  | .slice (some a) _ _ => some a.block
  | _ => none
def slA (v : Value) (T : TypeId) (sz : Nat) (xs : List Value) : As where
  foot b := blkOf v = some b
  sat := SliceAt v T sz xs
  lt w h b hb := by
    rcases h.ex with ⟨rfl, _⟩ | ⟨b', off, len, cap, pre, sp, fr, rfl, h1, _⟩
    · cases hb
    · simp only [blkOf, Option.some.injEq] at hb; subst hb; exact (Array.getElem?_eq_some_iff.1 h1).1
  loc w w' h hs := by
    refine ⟨?_⟩
    rcases hs.ex with h0 | ⟨b', off, len, cap, pre, sp, fr, rfl, h1, h2⟩
    · exact .inl h0
    · exact .inr ⟨b', off, len, cap, pre, sp, fr, rfl, by rw [h b' rfl]; exact h1, h2⟩

/-- What x gives to an append: n elements, the cells ys; wherever the heap is as here. -/
structure Src (P : Program) (sz : Nat) (w : World) (x : Value) (n : Nat) (ys : List Value) : Prop where
  len : ∀ w' : World, (Builtin.lenOf x).run P w' = .ok n w'
  cells : ∀ w' : World, w'.heap = w.heap → (Builtin.firstCells sz n x).run P w' = .ok ys.toArray w'
  size : ys.length = n * sz
  scal : ys.all scalV = true

section
variable {P : Program} {w0 : World} {F : Nat → Prop} {w : World} {l : List As}

theorem cell_add {w : World} {b off j : Nat} {cs : List Value} {T : TypeId} {fr : Nat × Nat} {v : Value} (h : w.heap[b]? = some (ocf cs T fr)) (hv : cs[off + j]? = some v) : w.cell? ((⟨b, off, none⟩ : Addr).add j) = some v := by
  have : (⟨b, off, none⟩ : Addr).add j = ⟨b, off + j, none⟩ := by
    unfold Addr.add; split
    · rename_i h0; subst h0; rfl
    · rfl
  rw [this]; exact cell_of h (by simpa using hv)

theorem firstCells_slice {sz n b off len cap : Nat} {cs ys : List Value} {T : TypeId} {fr : Nat × Nat} {w : World} (h : w.heap[b]? = some (ocf cs T fr)) (hy : ys.length = n * sz) (hs : ∀ j v, ys[j]? = some v → cs[off + j]? = some v) :
    (Builtin.firstCells sz n (.slice (some ⟨b, off, none⟩) len cap)).run P w = .ok ys.toArray w :=
  run_firstCells_some w sz n ⟨b, off, none⟩ len cap ys hy fun j v hv => cell_add h (hs j v hv)

theorem Src.slice {v : Value} {T : TypeId} {sz n : Nat} {xs : List Value} (h : SliceAt v T sz xs w) (hn : xs.length = n * sz) (hz : 0 < sz) (hs : xs.all scalV = true) : Src P sz w v n xs := by
  rcases h.ex with ⟨rfl, rfl⟩ | ⟨b, off, len, cap, pre, sp, fr, rfl, h1, h2, h3, h4, h5, h6⟩
  · have : n = 0 := by
      simp only [List.length_nil] at hn
      rcases Nat.eq_zero_or_pos n with h | h
      · exact h
      · have := Nat.mul_pos h hz; omega
    subst this
    exact ⟨fun _ => rfl, fun _ _ => rfl, by simp, rfl⟩
  · have hlen : len = n := by
      have : len * sz = n * sz := h3.symm.trans hn
      exact Nat.eq_of_mul_eq_mul_right hz this
    subst hlen
    refine ⟨fun _ => rfl, fun w' hw => firstCells_slice (by rw [hw]; exact h1) h3 ?_, h3, hs⟩
    intro j u hj
    have hjl : j < xs.length := (List.getElem?_eq_some_iff.1 hj).1
    rw [List.append_assoc, List.getElem?_append_right (by omega), List.getElem?_append_left (by omega)]
    have : off + j - pre.length = j := by omega
    rw [this]; exact hj

def bts (s : ByteArray) : List Value := s.data.toList.map fun b => Value.int .u8 b.toNat
theorem Src.str {s : ByteArray} : Src P 1 w (.string s) s.size (bts s) := by
  refine ⟨fun _ => rfl, fun w' _ => ?_, by simp [bts], List.all_eq_true.2 fun v hv => by obtain ⟨b, _, rfl⟩ := List.mem_map.1 hv; rfl⟩
  have := Lib.run_firstCells_string (P := P) (w := w') 1 s
  rw [this]
  congr 1
/-- append onto a slice that owns its row. -/
theorem Ap.run {t t2 ty T : TypeId} {i : TypeInfo} {z : Value} {s x : Value} {n : Nat} {sz : Nat} {xs ys : List Value} (hT : P.underlying t = some (.slice T)) (hT2 : ∃ d, P.underlying t2 = some d ∧ ∀ q, d ≠ .int q)
    (hi : P.info? T = some i) (hz : i.zero = some z) (hsz : i.size = sz) (hpos : 0 < sz) (hs : SliceAt s T sz xs w) (hx : Src P sz w x n ys) (hzc : z.cells.size = sz)
    (hb : (xs.length / sz + n) * i.bytes ≤ 140737488355328) (hb2 : xs.length / sz + n ≤ 140737488355328) :
    ∃ s' w', (Builtin.append_ #[t, t2] ty #[s, x]).run P w = .ok s' w' ∧ SliceAt s' T sz (xs ++ ys) w' ∧ Upd (fun b => blkOf s = some b) w w' ∧ (∀ b, blkOf s' = some b → blkOf s = some b ∨ w.heap.size ≤ b) := by
  subst hsz
  obtain ⟨d2, hd2, hni⟩ := hT2
  have hnotint : (d2 matches .int _) = false := by cases d2 <;> first | rfl | exact absurd rfl (hni _)
  have hsof : ∀ w', (sizeOf T).run P w' = .ok i.size w' := fun w' => run_sizeOf' hi w'
  have hti : ∀ w', (typeInfo T).run P w' = .ok i w' := fun w' => by unfold typeInfo; simp [program, Sem.run, hi]
  have hzv : ∀ w', (zeroValue T).run P w' = .ok z w' := fun w' => by unfold zeroValue; simp [hti, hz]
  -- a new row
  have grow : ∀ (base : Option Addr) (len cap : Nat), s = .slice base len cap → cap < len + n → xs.length = len * i.size → (∀ w', w'.heap = w.heap → (Builtin.firstCells i.size len s).run P w' = .ok xs.toArray w') →
      (len + n) * i.bytes ≤ 140737488355328 → len + n ≤ 140737488355328 →
      (Builtin.append_ #[t, t2] ty #[s, x]).run P w = .ok (.slice (some ⟨w.heap.size, 0, none⟩) (len + n) (grownCap w (len + n) cap T))
        (w.drew.alloc (.cells (xs.toArray ++ ys.toArray ++ Builtin.zeroCells z.cells (grownCap w (len + n) cap T - (len + n))) T)) := by
    intro base len cap hse hcap hxl hfc hb hb2
    subst hse
    have hfit := growslice_fits hcap hb
    have hn : ¬ (len + n ≤ cap) := by omega
    have h63 : ¬ (9223372036854775807 < ((len : Int) + (n : Int))) := by omega
    have h48 : ¬ (281474976710656 < Builtin.nextslicecap (len + n) cap * i.bytes) := by omega
    have hfx := hx.cells w.drew rfl
    have hfo := hfc w.drew rfl
    simp [Builtin.append_, run_underlying hT, run_underlying hd2, hsof, hti, hzv, hx.len, hnotint, hn, h63, h48, Question.forced, hfx, hfo, newRow, grownCap]
    congr 2
    apply Array.ext'
    simp [List.append_assoc]
  have made : ∀ (len cap : Nat), xs.length = len * i.size → SliceAt (.slice (some ⟨w.heap.size, 0, none⟩) (len + n) (grownCap w (len + n) cap T)) T i.size (xs ++ ys)
      (w.drew.alloc (.cells (xs.toArray ++ ys.toArray ++ Builtin.zeroCells z.cells (grownCap w (len + n) cap T - (len + n))) T)) := by
    intro len cap hxl
    have hge := grownCap_ge w (len + n) cap T
    refine ⟨.inr ⟨w.heap.size, 0, len + n, grownCap w (len + n) cap T, [], (Builtin.zeroCells z.cells (grownCap w (len + n) cap T - (len + n))).toList, (0, 0), rfl, ?_, rfl, ?_, ?_, hge, Free.zero _⟩⟩
    · have := heap_alloc_new w.drew (.cells (xs.toArray ++ ys.toArray ++ Builtin.zeroCells z.cells (grownCap w (len + n) cap T - (len + n))) T)
      have hsz : w.drew.heap.size = w.heap.size := rfl
      rw [hsz] at this
      rw [this]
      simp only [ocf, List.nil_append]
      congr 2
      apply Array.ext'
      simp
    · rw [List.length_append, hxl, hx.size, Nat.add_mul]
    · rw [List.length_append, List.length_append, hxl, hx.size, Array.length_toList, size_zeroCells, hzc, ← Nat.add_mul, ← Nat.add_mul]
      exact Nat.mul_le_mul_right _ (by omega)
  have hupd : ∀ (G : Nat → Prop) o, Upd G w (w.drew.alloc o) := fun G o => ((Upd.drew w).trans (Upd.alloc w.drew o)).mono fun _ _ h => h.elim
  rcases hs.ex with ⟨rfl, rfl⟩ | ⟨b, off, len, cap, pre, sp, fr, rfl, h1, h2, h3, h4, h5, h6⟩
  · simp only [List.length_nil, Nat.zero_div, Nat.zero_add] at hb hb2
    by_cases hn0 : n = 0
    · subst hn0
      have hys : ys = [] := List.length_eq_zero_iff.1 (by simpa using hx.size)
      subst hys
      refine ⟨.slice none 0 0, w, ?_, ⟨.inl ⟨rfl, rfl⟩⟩, Upd.refl _ _, fun b h => by cases h⟩
      have hfx := hx.cells w rfl
      simp [Builtin.append_, run_underlying hT, run_underlying hd2, hsof, hx.len, hnotint, hfx]
    · have hr := grow none 0 0 rfl (by omega) (by simp) (fun w' _ => run_firstCells_none w' i.size 0 0 0) (by simpa using hb) (by omega)
      exact ⟨_, _, hr, made 0 0 (by simp), hupd _ _, fun b h => by simp only [blkOf, Option.some.injEq] at h; right; omega⟩
  · have hdiv : xs.length / i.size = len := by rw [h3]; exact Nat.mul_div_cancel _ hpos
    rw [hdiv] at hb hb2
    by_cases hroom : len + n ≤ cap
    · have hfit : off + len * i.size + ys.length ≤ (pre ++ xs ++ sp).length := by
        have : (len + n) * i.size ≤ cap * i.size := Nat.mul_le_mul_right _ hroom
        rw [Nat.add_mul] at this
        have e4 := h4
        rw [List.length_append] at e4
        rw [List.append_assoc, List.length_append, List.length_append, hx.size]
        omega
      obtain ⟨w', hst, hat, hu⟩ := storeCells_run (P := P) (b := b) (T := T) (fr := fr) (off + len * i.size) ys (pre ++ xs ++ sp) 0 w h1 h6 (by omega) hx.scal
      have hadd : (⟨b, off, none⟩ : Addr).add (len * i.size) = ⟨b, off + len * i.size, none⟩ := by
        unfold Addr.add; split
        · rename_i h0; rw [h0]; rfl
        · rfl
      refine ⟨.slice (some ⟨b, off, none⟩) (len + n) cap, w', ?_, ⟨.inr ⟨b, off, len + n, cap, pre, sp.drop ys.length, fr, rfl, ?_, h2, ?_, ?_, hroom, ?_⟩⟩, hu.mono fun x _ hx => by rw [hx]; rfl, fun x hx => .inl hx⟩
      · have hfx := hx.cells w rfl
        simp [Builtin.append_, run_underlying hT, run_underlying hd2, hsof, hx.len, hnotint, hroom, hfx, hadd, hst]
      · rw [hat]
        have hset : ∀ (vs cs : List Value) (o : Nat), o + vs.length ≤ cs.length → setCs cs o vs = cs.take o ++ vs ++ cs.drop (o + vs.length) := by
          intro vs
          induction vs with
          | nil => intro cs o _; simp [setCs]
          | cons v vs ih =>
            intro cs o ho
            simp only [List.length_cons] at ho
            rw [setCs, ih _ _ (by simp; omega)]
            have e1 : (cs.set o v).take (o + 1) = cs.take o ++ [v] := by
              rw [List.take_add_one, List.take_set_of_le (Nat.le_refl o)]
              rw [List.getElem?_set_self (by omega)]
              rfl
            have e2 : (cs.set o v).drop (o + 1 + vs.length) = cs.drop (o + (vs.length + 1)) := by
              rw [List.drop_set_of_lt (by omega)]
              congr 1; omega
            rw [e1, e2]
            simp
        rw [hset _ _ _ (by omega)]
        congr 2
        have e0 : off + len * i.size + 0 = (pre ++ xs).length := by rw [List.length_append, h2, h3]; rfl
        rw [e0, List.take_left, List.drop_append]
        have e1 : (pre ++ xs).length + ys.length - (pre ++ xs).length = ys.length := by omega
        rw [e1]
        have e2 : (pre ++ xs).drop ((pre ++ xs).length + ys.length) = [] := List.drop_eq_nil_of_le (by omega)
        rw [e2]
        simp
      · rw [List.length_append, h3, hx.size, Nat.add_mul]
      · rw [List.length_append] at h4
        rw [List.length_append, List.length_append, List.length_drop]
        rw [List.length_append, List.length_append] at hfit
        omega
      · have : (pre ++ (xs ++ ys) ++ List.drop ys.length sp).length = (pre ++ xs ++ sp).length := by
          simp only [List.length_append, List.length_drop] at hfit ⊢
          omega
        rw [this]; exact h6
    · have hr := grow (some ⟨b, off, none⟩) len cap rfl (by omega) h3 (fun w' hw => firstCells_slice (by rw [hw]; exact h1) h3 fun j u hj => by
        have hjl : j < xs.length := (List.getElem?_eq_some_iff.1 hj).1
        rw [List.append_assoc, List.getElem?_append_right (by omega), List.getElem?_append_left (by omega)]
        have : off + j - pre.length = j := by omega
        rw [this]; exact hj) hb hb2
      exact ⟨_, _, hr, made len cap h3, hupd _ _, fun b h => by simp only [blkOf, Option.some.injEq] at h; right; omega⟩

theorem Ap.sl {i : Nat} {t t2 ty T : TypeId} {ti : TypeInfo} {z : Value} {s x : Value} {n : Nat} {sz : Nat} {xs ys : List Value} {k : Value → World → Prop} (E : Hs w0 F w l) (hm : l[i]? = some (slA s T sz xs))
    (hT : P.underlying t = some (.slice T)) (hT2 : ∃ d, P.underlying t2 = some d ∧ ∀ q, d ≠ .int q)
    (hi : P.info? T = some ti) (hz : ti.zero = some z) (hsz : ti.size = sz) (hpos : 0 < sz) (hx : Src P sz w x n ys) (hzc : z.cells.size = sz)
    (hb : (xs.length / sz + n) * ti.bytes ≤ 140737488355328) (hb2 : xs.length / sz + n ≤ 140737488355328)
    (hk : ∀ s' w', Hs w0 F w' (l.set i (slA s' T sz (xs ++ ys))) → k s' w') : Ef P (Builtin.append_ #[t, t2] ty #[s, x]) w k := by
  obtain ⟨s', w', h1, h2, h3, h4⟩ := Ap.run (P := P) (ty := ty) hT hT2 hi hz hsz hpos (E.sat _ (List.mem_of_getElem? hm)) hx hzc hb hb2
  exact ⟨s', w', h1, hk _ _ (E.set i hm h3 h2 h4)⟩
/-- A nil slice owns nothing. -/
theorem Hs.nilSl (E : Hs w0 F w l) (T : TypeId) (sz : Nat) : Hs w0 F w (slA (.slice none 0 0) T sz [] :: l) :=
  E.take (A := slA (.slice none 0 0) T sz []) ⟨.inl ⟨rfl, rfl⟩⟩ (fun b hb => by cases hb) (fun B _ b hb => by cases hb)
theorem SliceAt.len {v : Value} {T : TypeId} {sz : Nat} {xs : List Value} {w : World} (h : SliceAt v T sz xs w) (hz : 0 < sz) : ∃ a c, v = .slice a (xs.length / sz) c := by
  rcases h.ex with ⟨rfl, rfl⟩ | ⟨b, off, len, cap, pre, sp, fr, rfl, h1, h2, h3, h4, h5, h6⟩
  · exact ⟨none, 0, by simp⟩
  · exact ⟨_, cap, by rw [h3, Nat.mul_div_cancel _ hz]⟩
theorem LnL.sl {v : Value} {T : TypeId} {sz : Nat} {xs : List Value} {k : Value → Prop} (E : Hs w0 F w l) (hm : slA v T sz xs ∈ l) (hz : 0 < sz) (h : k (.int .i64 ((xs.length / sz : Nat) : Int))) : LnL v k := by
  obtain ⟨a, c, rfl⟩ := (show SliceAt v T sz xs w from E.sat _ hm).len hz
  exact ⟨_, _, _, rfl, h⟩

/-- The bytes of a slice as a string. -/
theorem bytes_run {v : Value} {T : TypeId} {s : ByteArray} (h : SliceAt v T 1 (bts s) w) : (Conv.bytesToString v).run P w = .ok (.string s) w := by
  rcases h.ex with ⟨rfl, hx⟩ | ⟨b, off, len, cap, pre, sp, fr, rfl, h1, h2, h3, h4, h5, h6⟩
  · have : s = ByteArray.empty := by
      cases s with | mk d =>
      have : d.toList = [] := by simpa [bts] using hx
      have : d = #[] := by rw [← Array.toList_eq_nil_iff]; exact this
      subst this; rfl
    subst this; rfl
  · have hlen : len = s.size := by
      rw [Nat.mul_one] at h3
      rw [← h3]; simp [bts]
    have hcs : bts s = (s.data.toList.map fun b => (b.toNat : Int)).map (Value.int .u8) := by simp [bts]
    have hl : (loadCells ⟨b, off, none⟩ len).run P w = .ok ((s.data.toList.map fun b => (b.toNat : Int)).map (Value.int .u8)).toArray w := by
      have := firstCells_slice (P := P) (sz := 1) (n := len) (b := b) (off := off) (len := len) (cap := cap) (ys := bts s) h1 h3 (fun j u hj => by
        have hjl : j < (bts s).length := (List.getElem?_eq_some_iff.1 hj).1
        rw [List.append_assoc, List.getElem?_append_right (by omega), List.getElem?_append_left (by omega)]
        have : off + j - pre.length = j := by omega
        rw [this]; exact hj)
      rw [← hcs]
      simpa [Builtin.firstCells] using this
    rw [run_bytesToString w _ len cap _ hl]
    congr 1
    congr 1
    have key : ∀ (l : List UInt8) (r : ByteArray), (l.map fun b => (b.toNat : Int)).foldl (fun r n => r.push (UInt8.ofNat n.toNat)) r = ⟨(r.data.toList ++ l).toArray⟩ := by
      intro l
      induction l with
      | nil => intro r; simp
      | cons x l ih =>
        intro r
        simp only [List.map_cons, List.foldl_cons]
        rw [ih]
        congr 1
        simp [ByteArray.push]
    rw [key]
    cases s with | mk d => simp
theorem CvB.sl {v : Value} {T tS tT : TypeId} {s : ByteArray} {k : Value → Prop} (E : Hs w0 F w l) (hm : slA v T 1 (bts s) ∈ l) (h1 : P.underlying tS = some (.slice T)) (h2 : P.underlying tT = some .string)
    (h3 : P.underlying T = some (.int .u8)) (h : k (.string s)) : Rd P (convert tS tT v) w k := by
  refine ⟨.string s, ?_, h⟩
  have hr := bytes_run (P := P) (show SliceAt v T 1 (bts s) w from E.sat _ hm)
  obtain ⟨a, c, rfl⟩ := (show SliceAt v T 1 (bts s) w from E.sat _ hm).len (by omega)
  unfold convert
  simp only [Sem.run_bind, run_underlying h1, run_underlying h2, Result.andThen_ok]
  cases a with
  | none => simp only [Sem.run_bind, run_underlying h3, Result.andThen_ok]; exact hr
  | some a => simp only [Sem.run_bind, run_underlying h3, Result.andThen_ok]; exact hr
end

/-- A struct's cells out of its parts, as lists. -/
def fillL (pl : List (Nat × Nat)) : List Value → List (Nat × Value) → Option (List Value)
  | cs, [] => some cs
  | cs, (i, v) :: r => match pl[i]? with
    | none => none
    | some (off, size) => if v.cells.toList.length = size ∧ off + size ≤ cs.length then fillL pl (setCs cs off v.cells.toList) r else none
theorem foldl_setCs (off : Nat) : ∀ (vs : List Value) (k : Nat) (cells : Array Value),
    (vs.zipIdx k).foldl (fun cs (p : Value × Nat) => cs.setIfInBounds (off + p.2) p.1) cells = (setCs cells.toList (off + k) vs).toArray
  | [], _, cells => by simp [setCs]
  | v :: vs, k, cells => by
    simp only [List.zipIdx_cons, List.foldl_cons]
    rw [foldl_setCs off vs (k + 1)]
    simp [setCs, Nat.add_assoc]
theorem fillL_fill {pl : List (Nat × Nat)} : ∀ {parts : List (Nat × Value)} {cs out : List Value}, fillL pl cs parts = some out → Instr.fill (pl[·]?) cs.toArray parts = some out.toArray
  | [], cs, out, h => by simp only [fillL, Option.some.injEq] at h; subst h; rfl
  | (i, v) :: r, cs, out, h => by
    simp only [fillL] at h
    unfold Instr.fill
    cases hp : pl[i]? with
    | none => rw [hp] at h; cases h
    | some p =>
      obtain ⟨off, size⟩ := p
      rw [hp] at h
      simp only at h ⊢
      split at h
      · rename_i hc
        obtain ⟨h1, h2⟩ := hc
        have h1' : v.cells.size = size := by simpa using h1
        have hn : (v.cells.size ≠ size || decide (off + v.cells.size > cs.toArray.size)) = false := by
          have h3 : ¬ (off + v.cells.size > cs.toArray.size) := by rw [h1']; simp; omega
          simp [h1', h3]; omega
        have hf : v.cells.zipIdx.foldl (fun cs (p : Value × Nat) => cs.setIfInBounds (off + p.2) p.1) cs.toArray = (setCs cs off v.cells.toList).toArray := by
          have := foldl_setCs off v.cells.toList 0 cs.toArray
          simp only [Nat.add_zero] at this
          rw [← Array.foldl_toList, Array.toList_zipIdx]
          exact this
        rw [if_neg (by rw [hn]; simp)]
        show Instr.fill _ (v.cells.zipIdx.foldl (fun cs (p : Value × Nat) => cs.setIfInBounds (off + p.2) p.1) cs.toArray) r = _
        rw [hf]
        exact fillL_fill h
      · cases h
theorem Bd.mk3 {z : List Value} {pl : List (Nat × Nat)} {parts : List (Nat × Value)} {cs : List Value} {k : Value → Prop} (hf : fillL pl z parts = some cs) (h : k (.agg cs.toArray)) : Bd z.toArray pl parts k :=
  ⟨_, fillL_fill hf, h⟩

end Go.Sh
