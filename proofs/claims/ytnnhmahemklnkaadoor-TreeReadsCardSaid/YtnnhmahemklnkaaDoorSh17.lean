/-
  The shallow layer, part 17: slices that are read, cut, turned to strings; rows made and copied into.
-/
import Derived.Test.YtnnhmahemklnkaaDoorSh16
import Derived.Laws.MakeOwn
namespace Go.Sh
open Go
section
variable {P : Program} {w0 : World} {F : Nat → Prop} {w : World} {l r : List As} {n : Nat} {v : Value} {xs : List Value}

/-- 'v[lo:hi]' -/
theorem RdS.slice (h : RdS w0 F l 1 n v xs) {lo hi : Option Value} {a b : Nat} {k : Value → Prop} (hlo : bnd lo 0 = some a) (hhi : bnd hi n = some b) (h1 : a ≤ b) (h2 : b ≤ n)
    (hk : ∀ v', RdS w0 F l 1 (b - a) v' ((xs.take b).drop a) → k v') : Sl 1 v lo hi k := by
  obtain ⟨p, c, rfl, hc, hl, hx⟩ := h
  refine ⟨p, n, c, a, b, rfl, hlo, hhi, h1, by omega, hk _ ?_⟩
  refine ⟨_, _, rfl, by omega, by simp; omega, ?_⟩
  by_cases he : a = b
  · left; subst he; simp
  right
  have hne : ¬ c = a := by omega
  rw [if_neg hne]
  rcases hx with rfl | ⟨q, rfl, hq⟩
  · simp at hl; omega
  refine ⟨_, rfl, ?_⟩
  rcases hq with rfl | ⟨g, o, rfl, hq⟩
  · simp at hl; omega
  right
  refine ⟨g, o + a, by show Addr.add _ _ = _; rw [add_mk, Nat.mul_one], fun w E j x hj => ?_⟩
  rw [List.getElem?_drop, List.getElem?_take] at hj
  split at hj
  · have := hq w E _ x hj
    rwa [Nat.add_assoc]
  · cases hj
theorem RdS.first (h : RdS w0 F l 1 n v xs) (E : Hs w0 F w l) {m : Nat} (hm : m ≤ n) : (Builtin.firstCells 1 m v).run P w = .ok (xs.take m).toArray w := by
  obtain ⟨p, c, rfl, hc, hl, hx⟩ := h
  rcases hx with rfl | ⟨q, rfl, hq⟩
  · have : m = 0 := by simp at hl; omega
    subst this
    cases p with
    | none => rfl
    | some a => simp [Builtin.firstCells, loadCells, loadCellsFrom]
  · by_cases h0 : m = 0
    · subst h0; simp [Builtin.firstCells, loadCells, loadCellsFrom]
    have := RdP.lda (P := P) hq E (m := m) (ds := xs.take m) (k := fun v => v = .agg (xs.take m).toArray) rfl (by simp; omega) (by omega) rfl
    obtain ⟨a, vs, h1, h2, h3⟩ := this
    cases h1
    simp only [Value.agg.injEq] at h3
    subst h3
    simpa [Builtin.firstCells] using h2
/-- 'string(v)' of bytes -/
theorem RdS.cvb {T tS tT : TypeId} {s : ByteArray} {k : Value → Prop} (h : RdS w0 F l 1 n v (bts s)) (E : Hs w0 F w l) (h1 : P.underlying tS = some (.slice T)) (h2 : P.underlying tT = some .string)
    (h3 : P.underlying T = some (.int .u8)) (hk : k (.string s)) : Rd P (convert tS tT v) w k := by
  refine ⟨.string s, ?_, hk⟩
  have hf := h.first (P := P) E (Nat.le_refl n)
  obtain ⟨p, c, rfl, hc, hl, hx⟩ := h
  rw [Nat.mul_one] at hl
  have hcs : bts s = (s.data.toList.map fun b => (b.toNat : Int)).map (Value.int .u8) := by simp [bts]
  have key : ∀ (l : List UInt8) (r : ByteArray), (l.map fun b => (b.toNat : Int)).foldl (fun r n => r.push (UInt8.ofNat n.toNat)) r = ⟨(r.data.toList ++ l).toArray⟩ := by
    intro l
    induction l with
    | nil => intro r; simp
    | cons x l ih =>
      intro r
      simp only [List.map_cons, List.foldl_cons]
      rw [ih]
      congr 1
      simp [ByteArray.push]
  have hr : (Conv.bytesToString (.slice p n c)).run P w = .ok (.string s) w := by
    cases p with
    | none =>
      have hs : bts s = [] := by
        rcases hx with h | ⟨q, hq, _⟩
        · exact h
        · cases hq
      have : s = ByteArray.empty := by
        cases s with | mk d =>
        have : d.toList = [] := by simpa [bts] using hs
        have : d = #[] := by rw [← Array.toList_eq_nil_iff]; exact this
        subst this; rfl
      subst this; rfl
    | some a =>
      have hl2 : (loadCells a n).run P w = .ok ((s.data.toList.map fun b => (b.toNat : Int)).map (Value.int .u8)).toArray w := by
        rw [← hcs]
        have e : (bts s).take n = bts s := List.take_of_length_le (by omega)
        rw [e] at hf
        simpa [Builtin.firstCells] using hf
      rw [run_bytesToString w _ n c _ hl2]
      congr 1
      congr 1
      rw [key]
      cases s with | mk d => simp
  unfold convert
  simp only [Sem.run_bind, run_underlying h1, run_underlying h2, Result.andThen_ok]
  cases p with
  | none => simp only [run_underlying h3, Result.andThen_ok]; exact hr
  | some a => simp only [run_underlying h3, Result.andThen_ok]; exact hr

/-- 'make([]T, n)' -/
theorem MkS.pt {t e : TypeId} {z : Value} {by_ : Nat} {n : Nat} {k : Value → World → Prop} (E : Hs w0 F w l) (h1 : P.underlying t = some (.slice e)) (hi : el3 P e = some (some z, 1, by_)) (hz : scalV z = true)
    (hb : by_ * n ≤ 281474976710656) (hn : n ≤ 9223372036854775807) (hk : ∀ b w', w0.heap.size ≤ b → Hs w0 F w' (pt b (oc (List.replicate n z) e) :: l) → k (.slice (some ⟨b, 0, none⟩) n n) w') :
    Ef P (Instr.makeSlice t (.int .i64 (n : Int)) (.int .i64 (n : Int))) w k := by
  unfold el3 at hi
  cases hi' : P.info? e with
  | none => rw [hi'] at hi; cases hi
  | some i =>
    rw [hi'] at hi
    simp only [Option.map_some, Option.some.injEq, Prod.mk.injEq] at hi
    obtain ⟨hz1, hs1, hb1⟩ := hi
    have hbb : (i.bytes : Int) * (n : Int) ≤ 281474976710656 := by
      rw [hb1]
      have : ((by_ * n : Nat) : Int) ≤ 281474976710656 := by omega
      rwa [Int.natCast_mul] at this
    have hr := run_make (P := P) w t e i z h1 hi' hz1 .i64 .i64 n n (by omega) (Int.le_refl _) hbb (by omega)
    refine ⟨_, _, hr, ?_⟩
    simp only [Int.toNat_natCast]
    refine hk _ _ E.upd.size (E.add (Upd.alloc w _) ?_ fun x hx => by cases hx; exact Nat.le_refl _)
    show (w.alloc _).heap[w.heap.size]? = _
    rw [heap_alloc_new]
    have hc : madeCells z.cells (n * i.size) = (List.replicate n z).toArray := by
      rw [hs1, cells_scal hz]
      apply Array.ext
      · simp [madeCells]
      · intro j h1 h2
        simp [madeCells, Nat.mod_one]
    rw [hc]
    rfl
theorem setCs_eq : ∀ (vs cs : List Value) (o : Nat), o + vs.length ≤ cs.length → setCs cs o vs = cs.take o ++ vs ++ cs.drop (o + vs.length)
  | [], cs, o, _ => by simp [setCs]
  | v :: vs, cs, o, h => by
    simp only [List.length_cons] at h
    rw [setCs, setCs_eq vs _ _ (by simp; omega)]
    have e1 : (cs.set o v).take (o + 1) = cs.take o ++ [v] := by
      rw [List.take_add_one, List.take_set_of_le (Nat.le_refl _)]
      simp [show o < cs.length by omega]
    have e2 : (cs.set o v).drop (o + 1 + vs.length) = cs.drop (o + (vs.length + 1)) := by
      rw [List.drop_set_of_lt (by omega)]
      congr 1; omega
    rw [e1, e2]
    simp
/-- 'copy(dst, src)' into a piece. -/
theorem Cpy.pt {dT sT ty e T : TypeId} {b o dLen dCap n m : Nat} {cs ys : List Value} {x : Value} {k : Value → World → Prop} (E : Hs w0 F w (pt b (oc cs T) :: l)) (h1 : P.underlying dT = some (.slice e)) (hs : sizeK P e = some 1)
    (hlen : (Builtin.lenOf x).run P w = .ok n w) (hm : m = min n dLen) (hf : (Builtin.firstCells 1 m x).run P w = .ok ys.toArray w) (hy : ys.length = m) (hfit : o + m ≤ cs.length) (hv : ys.all scalV = true)
    (hk : ∀ w', Hs w0 F w' (pt b (oc (cs.take o ++ ys ++ cs.drop (o + m)) T) :: l) → k (.int .i64 m) w') : Ef P (Builtin.copy_ #[dT, sT] ty #[.slice (some ⟨b, o, none⟩) dLen dCap, x]) w k := by
  have hsat : w.heap[b]? = some (ocf cs T (0, 0)) := E.sat _ List.mem_cons_self
  obtain ⟨w', g1, g2, g3⟩ := storeCells_run (P := P) (b := b) (T := T) (fr := (0, 0)) o ys cs 0 w hsat (Free.zero _) (by omega) hv
  refine ⟨.int .i64 m, w', ?_, hk _ ?_⟩
  · unfold sizeK at hs
    cases hq : P.info? e with
    | none => rw [hq] at hs; cases hs
    | some i =>
      rw [hq] at hs
      simp only [Option.map_some, Option.some.injEq] at hs
      have hm' : Nat.min n dLen = m := hm.symm
      simp [Builtin.copy_, run_underlying h1, hlen, sizeOf, typeInfo, hq, hs, hm', hf, g1, goInt]
  · have := E.set 0 (A := Sh.pt b (oc cs T)) (A' := Sh.pt b (oc (cs.take o ++ ys ++ cs.drop (o + m)) T)) rfl g3 (by
      show w'.heap[b]? = _
      rw [g2, Nat.add_zero, setCs_eq _ _ _ (by omega), hy]; rfl) fun x hx => .inl hx
    simpa using this
theorem Hs.ptSl {b n : Nat} {cs : List Value} {T : TypeId} (hn : cs.length = n) (E : Hs w0 F w (pt b (oc cs T) :: l)) : Hs w0 F w (slA (.slice (some ⟨b, 0, none⟩) n n) T 1 cs :: l) := by
  have := E.turn 0 (A := Sh.pt b (oc cs T)) (A' := slA (.slice (some ⟨b, 0, none⟩) n n) T 1 cs) rfl (fun h => ⟨.inr ⟨b, 0, n, n, [], [], (0, 0), rfl, by rw [List.nil_append, List.append_nil]; exact h, rfl, by omega, by simp; omega, Nat.le_refl _, Free.zero _⟩⟩) fun x hx => by
    have : some b = some x := hx
    cases this; rfl
  simpa using this
theorem RdS.by1 (v : Value) {T : TypeId} {xs : List Value} [h : FSl l v T 1 xs r] (E : Hs w0 F w l) : RdS w0 F l 1 xs.length v xs := by
  have := RdS.sl (T := T) h.mem (by omega) E
  simpa using this
theorem RdS.lenOf (h : RdS w0 F l 1 n v xs) (w : World) : (Builtin.lenOf v).run P w = .ok n w := by
  obtain ⟨a, c, rfl, -, -, -⟩ := h; rfl
end
end Go.Sh
