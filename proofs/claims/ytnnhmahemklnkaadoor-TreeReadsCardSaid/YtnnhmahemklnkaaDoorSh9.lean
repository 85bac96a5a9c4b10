/-
  The shallow layer, part 9: laws of slices' elements, of equations, of tests and sums; conversions and literals of slices.
-/
import Derived.Test.YtnnhmahemklnkaaDoorSh8
import Derived.Lib.ConvBytes
import Derived.IntWalk
namespace Go.Sh
open Go
set_option linter.unusedSimpArgs false

/-- Address a is that of cell c of what v owns. -/
def Elp (v : Value) (c : Nat) (a : Addr) : Prop := ∃ b o n m, v = .slice (some ⟨b, o, none⟩) n m ∧ a = ⟨b, o + c, none⟩
theorem add_mk (b o c : Nat) : (⟨b, o, none⟩ : Addr).add c = ⟨b, o + c, none⟩ := by
  unfold Addr.add; split
  · rename_i h0; subst h0; rfl
  · rfl
section
variable {P : Program} {w0 : World} {F : Nat → Prop} {w : World} {l : List As}

theorem Fa.el {off c : Nat} {v : Value} {a : Addr} {k : Value → Prop} (hp : Elp v c a) (hk : ∀ a', Elp v (c + off) a' → k (.pointer (some a'))) : Fa off (.pointer (some a)) k := by
  obtain ⟨b, o, n, m, rfl, rfl⟩ := hp
  exact ⟨_, rfl, hk _ ⟨b, o, n, m, rfl, by rw [add_mk]; simp [Nat.add_assoc]⟩⟩
theorem IxA.sl {v : Value} {T : TypeId} {sz : Nat} {xs : List Value} {kk : IntKind} {n : Int} {k : Value → Prop} (E : Hs w0 F w l) (hm : slA v T sz xs ∈ l) (hz : 0 < sz) (h0 : 0 ≤ n) (hn : n.toNat < xs.length / sz)
    (hk : ∀ a, Elp v (n.toNat * sz) a → k (.pointer (some a))) : IxA sz v (.int kk n) k := by
  rcases (show SliceAt v T sz xs w from E.sat _ hm).ex with ⟨rfl, rfl⟩ | ⟨b, off, len, cap, pre, sp, fr, rfl, h1, h2, h3, h4, h5, h6⟩
  · simp at hn
  · rw [h3, Nat.mul_div_cancel _ hz] at hn
    exact ⟨_, len, cap, kk, n, rfl, rfl, h0, by omega, hk _ ⟨b, off, len, cap, rfl, add_mk _ _ _⟩⟩
theorem SliceAt.row {v : Value} {T : TypeId} {sz c : Nat} {xs : List Value} {a : Addr} (h : SliceAt v T sz xs w) (hp : Elp v c a) : ∃ b off pre sp fr, v = v ∧ a = ⟨b, pre.length + c, none⟩ ∧ blkOf v = some b ∧ w.heap[b]? = some (ocf (pre ++ xs ++ sp) T fr) ∧ off = pre.length ∧
    Free fr (pre ++ xs ++ sp).length ∧ ∃ len cap, v = .slice (some ⟨b, off, none⟩) len cap ∧ xs.length = len * sz ∧ cap * sz ≤ (xs ++ sp).length ∧ len ≤ cap := by
  obtain ⟨b', o', n', m', hv, rfl⟩ := hp
  rcases h.ex with ⟨rfl, rfl⟩ | ⟨b, off, len, cap, pre, sp, fr, rfl, h1, h2, h3, h4, h5, h6⟩
  · cases hv
  · simp only [Value.slice.injEq, Option.some.injEq, Addr.mk.injEq] at hv
    obtain ⟨⟨rfl, rfl, -⟩, rfl, rfl⟩ := hv
    exact ⟨b, off, pre, sp, fr, rfl, by rw [h2], rfl, h1, h2.symm, h6, len, cap, rfl, h3, h4, h5⟩
theorem Ld.sl {v x : Value} {T : TypeId} {sz c : Nat} {xs : List Value} {a : Addr} {k : Value → Prop} (E : Hs w0 F w l) (hm : slA v T sz xs ∈ l) (hp : Elp v c a) (hx : xs[c]? = some x) (hk : k x) : Ld (.pointer (some a)) w k := by
  obtain ⟨b, off, pre, sp, fr, -, rfl, -, h1, -, -, -⟩ := (show SliceAt v T sz xs w from E.sat _ hm).row hp
  refine Ld.ob h1 ?_ hk
  have hc := (List.getElem?_eq_some_iff.1 hx).1
  simp only [List.getElem?_toArray]
  rw [List.append_assoc, List.getElem?_append_right (by omega), List.getElem?_append_left (by omega)]
  have : pre.length + c - pre.length = c := by omega
  rw [this]; exact hx
theorem LdA.sl {v : Value} {T : TypeId} {sz c n : Nat} {xs ds : List Value} {a : Addr} {k : Value → Prop} (E : Hs w0 F w l) (hm : slA v T sz xs ∈ l) (hp : Elp v c a) (hds : (xs.drop c).take n = ds) (hn : ds.length = n) (hc : c + n ≤ xs.length)
    (hk : k (.agg ds.toArray)) : LdA P n (.pointer (some a)) w k := by
  obtain ⟨b, off, pre, sp, fr, -, rfl, -, h1, -, -, -⟩ := (show SliceAt v T sz xs w from E.sat _ hm).row hp
  refine LdA.ob h1 (by simp; omega) ?_
  have : (pre ++ xs ++ sp).toArray.extract (pre.length + c) (pre.length + c + n) = ds.toArray := by
    apply Array.ext'
    simp only [Array.toList_extract, List.extract_eq_take_drop]
    have e1 : pre.length + c + n - (pre.length + c) = n := by omega
    rw [e1, List.append_assoc, List.drop_append]
    have e2 : pre.length + c - pre.length = c := by omega
    have e3 : pre.drop (pre.length + c) = [] := List.drop_eq_nil_of_le (by omega)
    rw [e2, e3, List.nil_append, List.drop_append, List.take_append_of_le_length (by simp; omega)]
    exact hds
  rw [this]; exact hk
theorem set_mid (pre xs sp : List Value) (c : Nat) (x : Value) (hc : c < xs.length) : (pre ++ xs ++ sp).set (pre.length + c) x = pre ++ xs.set c x ++ sp := by
  rw [List.append_assoc, List.set_append_right _ _ (by omega), List.set_append_left _ _ (by omega), List.append_assoc]
  have : pre.length + c - pre.length = c := by omega
  rw [this]
theorem setCs_mid (pre sp : List Value) : ∀ (vs xs : List Value) (c : Nat), c + vs.length ≤ xs.length → setCs (pre ++ xs ++ sp) (pre.length + c) vs = pre ++ setCs xs c vs ++ sp
  | [], _, _, _ => rfl
  | v :: vs, xs, c, h => by
    simp only [List.length_cons] at h
    rw [setCs, setCs, set_mid _ _ _ _ _ (by omega)]
    have := setCs_mid pre sp vs (xs.set c v) (c + 1) (by simp; omega)
    rw [← this]; rfl
theorem St.sl {i : Nat} {v x : Value} {T : TypeId} {sz c : Nat} {xs : List Value} {a : Addr} {k : World → Prop} (E : Hs w0 F w l) (hm : l[i]? = some (slA v T sz xs)) (hp : Elp v c a) (hc : c < xs.length) (hv : scalV x = true)
    (hk : ∀ w', Hs w0 F w' (l.set i (slA v T sz (xs.set c x))) → k w') : St P 1 (.pointer (some a)) x w k := by
  obtain ⟨b, off, pre, sp, fr, -, rfl, hb, h1, rfl, h6, len, cap, rfl, h3, h4, h5⟩ := (show SliceAt v T sz xs w from E.sat _ (List.mem_of_getElem? hm)).row hp
  have hr := run_store_cell (P := P) (v := x) (o := pre.length + c) (fr := fr) h1 (by simp; omega) (h6 _ (by simp; omega)) hv
  refine ⟨_, _, rfl, by rw [cells_scal hv]; rfl, ?_, hk _ (E.set i hm ((Upd.putOb (.cells ((pre ++ xs ++ sp).toArray.setIfInBounds (pre.length + c) x) T fr)).mono fun y _ hy => by rw [hy]; exact hb) ?_ fun y hy => .inl hy)⟩
  · rw [cells_scal hv]
    show (storeCells _ [x]).run P w = _
    simp only [storeCells, Sem.run_bind]
    have : (⟨b, pre.length + c, none⟩ : Addr).add 0 = ⟨b, pre.length + c, none⟩ := rfl
    rw [this, hr]; rfl
  · refine ⟨.inr ⟨b, pre.length, len, cap, pre, sp, fr, rfl, ?_, rfl, by simpa using h3, by simpa using h4, h5, by simpa using h6⟩⟩
    rw [putOb_at h1]
    congr 1
    simp only [ocf]
    congr 1
    apply Array.ext'
    simp only [Array.toList_setIfInBounds]
    exact set_mid _ _ _ _ _ hc
theorem StA.sl {i n : Nat} {v : Value} {T : TypeId} {sz c : Nat} {xs vs : List Value} {a : Addr} {k : World → Prop} (E : Hs w0 F w l) (hm : l[i]? = some (slA v T sz xs)) (hp : Elp v c a) (hn : vs.length = n) (hc : c + n ≤ xs.length) (hv : vs.all scalV = true)
    (hk : ∀ w', Hs w0 F w' (l.set i (slA v T sz (setCs xs c vs))) → k w') : St P n (.pointer (some a)) (.agg vs.toArray) w k := by
  obtain ⟨b, off, pre, sp, fr, -, rfl, hb, h1, rfl, h6, len, cap, rfl, h3, h4, h5⟩ := (show SliceAt v T sz xs w from E.sat _ (List.mem_of_getElem? hm)).row hp
  obtain ⟨w', hr, hat, hu⟩ := storeCells_run (P := P) (b := b) (T := T) (fr := fr) (pre.length + c) vs (pre ++ xs ++ sp) 0 w h1 h6 (by simp; omega) hv
  refine ⟨_, w', rfl, by simpa [Value.cells] using hn, by simpa [Value.cells] using hr, hk _ (E.set i hm (hu.mono fun y _ hy => by rw [hy]; exact hb) ?_ fun y hy => .inl hy)⟩
  refine ⟨.inr ⟨b, pre.length, len, cap, pre, sp, fr, rfl, ?_, rfl, by rw [setCs_length]; exact h3, by rw [List.length_append, setCs_length, ← List.length_append]; exact h4, h5, ?_⟩⟩
  · rw [hat, Nat.add_zero, setCs_mid _ _ _ _ _ (by omega)]
  · have : (pre ++ setCs xs c vs ++ sp).length = (pre ++ xs ++ sp).length := by simp [setCs_length]
    rw [this]; exact h6
/-- A slice of a slice, within its length. -/
theorem Sl.sl {i : Nat} {v : Value} {T : TypeId} {sz : Nat} {xs : List Value} {lo hi : Option Value} {a b : Nat} {k : Value → Prop} (E : Hs w0 F w l) (hm : l[i]? = some (slA v T sz xs)) (hz : 0 < sz) (hlo : bnd lo 0 = some a)
    (hhi : bnd hi (xs.length / sz) = some b) (hab : a ≤ b) (hb : b ≤ xs.length / sz) (hk : ∀ v', Hs w0 F w (l.set i (slA v' T sz ((xs.take (b * sz)).drop (a * sz)))) → k v') : Sl sz v lo hi k := by
  rcases (show SliceAt v T sz xs w from E.sat _ (List.mem_of_getElem? hm)).ex with ⟨rfl, rfl⟩ | ⟨bl, off, len, cap, pre, sp, fr, rfl, h1, h2, h3, h4, h5, h6⟩
  · simp only [List.length_nil, Nat.zero_div] at hhi hb
    have hb0 : b = 0 := by omega
    subst hb0
    have ha0 : a = 0 := by omega
    subst ha0
    refine ⟨none, 0, 0, 0, 0, rfl, hlo, hhi, Nat.le_refl _, Nat.le_refl _, hk _ (E.turn i hm ?_ fun y hy => hy)⟩
    intro _; exact ⟨.inl ⟨rfl, by simp⟩⟩
  · rw [h3, Nat.mul_div_cancel _ hz] at hhi hb
    refine ⟨_, len, cap, a, b, rfl, hlo, hhi, hab, by omega, hk _ (E.turn i hm ?_ fun y hy => ?_)⟩
    · intro _
      have hle : b * sz ≤ xs.length := by rw [h3]; exact Nat.mul_le_mul_right _ hb
      have hal : a * sz ≤ b * sz := Nat.mul_le_mul_right _ hab
      have hlen : ((xs.take (b * sz)).drop (a * sz)).length = (b - a) * sz := by
        rw [List.length_drop, List.length_take, Nat.min_eq_left hle, Nat.sub_mul]
      have hsplit : xs = xs.take (a * sz) ++ (xs.take (b * sz)).drop (a * sz) ++ xs.drop (b * sz) := by
        have e1 : xs.take (a * sz) = (xs.take (b * sz)).take (a * sz) := by rw [List.take_take, Nat.min_eq_left hal]
        rw [e1, List.take_append_drop, List.take_append_drop]
      have hall : (pre ++ xs.take (a * sz) ++ (xs.take (b * sz)).drop (a * sz) ++ (xs.drop (b * sz) ++ sp)) = pre ++ xs ++ sp := by
        have : pre ++ (xs.take (a * sz) ++ (xs.take (b * sz)).drop (a * sz) ++ xs.drop (b * sz)) ++ sp = pre ++ xs ++ sp := by rw [← hsplit]
        rw [← this]
        simp only [List.append_assoc]
      by_cases hc : cap = a
      · rw [if_pos hc]
        have hbe : b = a := by omega
        have hle2 : len = a := by omega
        refine ⟨.inr ⟨bl, off, b - a, cap - a, pre, xs ++ sp, fr, rfl, ?_, h2, hlen, ?_, by omega, ?_⟩⟩
        · have hnil : (xs.take (b * sz)).drop (a * sz) = [] := List.length_eq_zero_iff.1 (by rw [hlen, hbe]; simp)
          rw [hnil, h1]; simp
        · rw [hc]; simp
        · have hnil : (xs.take (b * sz)).drop (a * sz) = [] := List.length_eq_zero_iff.1 (by rw [hlen, hbe]; simp)
          rw [hnil]; simpa using h6
      · rw [if_neg hc]
        simp only [Option.map_some, add_mk]
        refine ⟨.inr ⟨bl, off + a * sz, b - a, cap - a, pre ++ xs.take (a * sz), xs.drop (b * sz) ++ sp, fr, rfl, ?_, ?_, hlen, ?_, by omega, ?_⟩⟩
        · rw [h1]
          congr 2
          exact hall.symm
        · rw [List.length_append, List.length_take, h2, Nat.min_eq_left (by omega)]
        · rw [List.length_append] at h4
          rw [List.length_append, List.length_append, hlen, List.length_drop, Nat.sub_mul, Nat.sub_mul]
          omega
        · rw [hall]; exact h6
    · by_cases hc : cap = a
      · rw [if_pos hc] at hy; exact hy
      · rw [if_neg hc] at hy
        simp only [Option.map_some, add_mk] at hy; exact hy
/-- A string's bytes as a new slice. -/
theorem CvS.sl {tS tD e : TypeId} {s : ByteArray} {k : Value → World → Prop} (E : Hs w0 F w l) (h1 : P.underlying tS = some .string) (h2 : P.underlying tD = some (.slice e)) (h3 : P.underlying e = some (.int .u8))
    (hk : ∀ v w', Hs w0 F w' (slA v e 1 (bts s) :: l) → k v w') : Ef P (convert tS tD (.string s)) w k := by
  refine ⟨_, _, Lib.run_convert_string_bytes w tS tD e s h1 h2 h3, hk _ _ (E.add ⟨?_, fun j hj _ => Lib.bytesWorld_at_old w e s j hj, ?_, ?_, ?_⟩ ⟨.inr ⟨w.heap.size, 0, s.size, grownCap w s.size 0 e, [],
    (Array.replicate (grownCap w s.size 0 e - s.size) (.int .u8 0)).toList, ((Lib.bytesCells w e s).size, (Lib.bytesCells w e s).size + 1), rfl, ?_, rfl, ?_, ?_, ?_, ?_⟩⟩ fun b hb => ?_)⟩
  · rw [Lib.bytesWorld_size]; omega
  · rfl
  · rfl
  · rfl
  · rw [Lib.bytesWorld_at_new]
    congr 1
    simp only [ocf]
    congr 1
    apply Array.ext'
    simp [Lib.bytesCells, bts]
  · simp [bts]
  · have := grownCap_ge w s.size 0 e
    simp [bts]; omega
  · exact grownCap_ge w s.size 0 e
  · intro o ho h
    have : (Lib.bytesCells w e s).size = ([] ++ bts s ++ (Array.replicate (grownCap w s.size 0 e - s.size) (Value.int .u8 0)).toList).length := by simp [Lib.bytesCells, bts]
    simp only [this] at h
    omega
  · have hb : some w.heap.size = some b := hb
    cases hb; exact Nat.le_refl _
theorem BdS.sl {t e : TypeId} {n sz : Nat} {z : Value} {xs : List Value} {parts : Array (Nat × Value)} {k : Value → World → Prop} (E : Hs w0 F w l) (h1 : P.underlying t = some (.slice e)) (h2 : sizeK P e = some sz) (h3 : zeroK P e = some z)
    (hs : n * sz ≤ 16777216) (h0 : n * sz ≠ 0) (hf : Instr.fill (fun i => some (i * sz, sz)) ((Array.range (n * sz)).map (z.cells[· % z.cells.size]!)) parts.toList = some xs.toArray) (hl : xs.length = n * sz)
    (hk : ∀ v w', Hs w0 F w' (slA v e sz xs :: l) → k v w') : Ef P (Instr.buildSlice t n parts) w k := by
  refine ⟨.slice (some ⟨w.heap.size, 0, none⟩) n n, w.alloc (.cells xs.toArray e), ?_, hk _ _ (E.add (Upd.alloc w _) ⟨.inr ⟨w.heap.size, 0, n, n, [], [], (0, 0), rfl, ?_, rfl, hl, by simp [hl], Nat.le_refl _, Free.zero _⟩⟩ fun b hb => ?_)⟩
  · have hn : ¬ (n * sz > 2 ^ 24) := by omega
    simp [Instr.buildSlice, run_underlying h1, run_sizeK h2, hn, h0, run_zero h3, hf, newRow, run_newObj']
  · rw [heap_alloc_new]; simp [ocf]
  · have hb : some w.heap.size = some b := hb
    cases hb; exact Nat.le_refl _
/-- An element of an array. -/
theorem Ix.arr {t e : TypeId} {n : Nat} {cs : List Value} {kk : IntKind} {i : Int} {v : Value} {k : Value → Prop} (h1 : P.underlying t = some (.array n e)) (hs : scal P e = true) (h2 : sizeK P e = some 1) (h0 : 0 ≤ i) (hi : i < n) (hv : cs[i.toNat]? = some v)
    (hk : k v) : Rd P (Instr.index t (.agg cs.toArray) (.int kk i)) w k := by
  refine ⟨v, ?_, hk⟩
  have hv' : i.toNat < cs.length := (List.getElem?_eq_some_iff.1 hv).1
  simp [Instr.index, asIntOf, run_underlying h1, h0, hi, run_sizeK h2, part, run_isAgg_scal hs, hv]

/-- Equations whose answer is in the values' forms. -/
def eqV : TypeDesc → Value → Value → Option Bool
  | .pointer _, .pointer none, .pointer b => some b.isNone
  | .pointer _, .pointer (some _), .pointer none => some false
  | .interface _, .nilIface, .iface _ _ => some false
  | .interface _, .iface _ _, .nilIface => some false
  | .slice _, .slice none _ _, .slice b _ _ => some b.isNone
  | .slice _, .slice (some _) _ _, .slice none _ _ => some false
  | .map _ _, .map none, .map b => some b.isNone
  | .map _ _, .map (some _), .map none => some false
  | .func _ _ _, .nilFunc, .nilFunc => some true
  | .func _ _ _, .nilFunc, .func _ _ _ => some false
  | .func _ _ _, .func _ _ _, .nilFunc => some false
  | _, _, _ => none
theorem eqV_run {t : TypeId} {d : TypeDesc} {a b : Value} {r : Bool} (hu : P.underlying t = some d) (h : eqV d a b = some r) (w : World) (op : BinOp) (x y : Operand) :
    (eqGuard op t x y a b).run P w = .ok () w ∧ (Op.equal t a b).run P w = .ok r w ∧ (∀ n, binOp .eql t a b = (do pure (.bool (← Op.equal t a b)) : Sem Value) ∧ binOp .neq t a b = (do pure (.bool (!(← Op.equal t a b))) : Sem Value) ∨ n = 0) := by
  unfold eqV at h
  split at h <;> first
    | (simp only [reduceCtorEq] at h; done)
    | (simp only [Option.some.injEq] at h; subst h
       refine ⟨?_, ?_, fun _ => .inl ⟨rfl, rfl⟩⟩
       · unfold eqGuard; cases op <;> rfl
       · unfold Op.equal Op.maxDepth Op.equalIn
         simp only [Sem.run_bind, run_underlying hu, Result.andThen_ok]
         first | rfl | (rename_i b; cases b <;> rfl))
theorem Eq.e {t : TypeId} {d : TypeDesc} {a b : Value} {x y : Operand} {r : Bool} {k : Value → Prop} (hu : P.underlying t = some d) (h : eqV d a b = some r) (hk : k (.bool r)) : Rd P (eqS .eql t x y a b) w k := by
  obtain ⟨h1, h2, h3⟩ := eqV_run hu h w .eql x y
  refine ⟨_, ?_, hk⟩
  unfold eqS
  rcases h3 1 with ⟨h4, -⟩ | h4
  · simp only [Sem.run_bind, h1, Result.andThen_ok, h4, h2, Sem.run_pure]
  · cases h4
theorem Eq.n {t : TypeId} {d : TypeDesc} {a b : Value} {x y : Operand} {r : Bool} {k : Value → Prop} (hu : P.underlying t = some d) (h : eqV d a b = some r) (hk : k (.bool !r)) : Rd P (eqS .neq t x y a b) w k := by
  obtain ⟨h1, h2, h3⟩ := eqV_run hu h w .neq x y
  refine ⟨_, ?_, hk⟩
  unfold eqS
  rcases h3 1 with ⟨-, h4⟩ | h4
  · simp only [Sem.run_bind, h1, Result.andThen_ok, h4, h2, Sem.run_pure]
  · cases h4
end

section
variable {P : Program} {w0 : World} {F : Nat → Prop} {w : World} {l : List As}
variable {b : Nat} {kt : KT} {M : AL} {T K El : TypeId} {z key : Value} {k : Value → Prop}
/-- 'v, ok := m[k]', told by cases. -/
theorem Lk.by (E : Hs w0 F w l) (hm : mp b kt M ∈ l) (hT : P.underlying T = some (.map K El)) (hf : kt.fits P K = true) (hz : zeroK P El = some z) (hk : kt.ok key = true)
    (hs : ∀ v, aget M key = some v → k (.tuple #[v, .bool true])) (hn : aget M key = none → k (.tuple #[z, .bool false])) : Rd P (Instr.lookup T (.map (some b)) key true) w k := by
  refine Lk.ok E hm hT hf hz hk ?_
  cases h : aget M key with
  | none => exact hn h
  | some v => exact hs v h
theorem Lk.hit {v : Value} (E : Hs w0 F w l) (hm : mp b kt M ∈ l) (hT : P.underlying T = some (.map K El)) (hf : kt.fits P K = true) (hz : zeroK P El = some z) (hk : kt.ok key = true)
    (h : aget M key = some v) (hs : k (.tuple #[v, .bool true])) : Rd P (Instr.lookup T (.map (some b)) key true) w k := by
  refine Lk.ok E hm hT hf hz hk ?_
  rw [h]; exact hs
theorem Lk.miss (E : Hs w0 F w l) (hm : mp b kt M ∈ l) (hT : P.underlying T = some (.map K El)) (hf : kt.fits P K = true) (hz : zeroK P El = some z) (hk : kt.ok key = true)
    (h : aget M key = none) (hs : k (.tuple #[z, .bool false])) : Rd P (Instr.lookup T (.map (some b)) key true) w k := by
  refine Lk.ok E hm hT hf hz hk ?_
  rw [h]; exact hs
theorem Lk.by1 (E : Hs w0 F w l) (hm : mp b kt M ∈ l) (hT : P.underlying T = some (.map K El)) (hf : kt.fits P K = true) (hz : zeroK P El = some z) (hk : kt.ok key = true)
    (hs : ∀ v, aget M key = some v → k v) (hn : aget M key = none → k z) : Rd P (Instr.lookup T (.map (some b)) key false) w k := by
  refine Lk.one E hm hT hf hz hk ?_
  cases h : aget M key with
  | none => exact hn h
  | some v => exact hs v h
end
/-- What the type table says of an element. -/
def el3 (P : Program) (T : TypeId) : Option (Option Value × Nat × Nat) := (P.info? T).map fun i => (i.zero, i.size, i.bytes)
section
variable {P : Program} {w0 : World} {F : Nat → Prop} {w : World} {l : List As}
theorem LnL.sl1 {v : Value} {T : TypeId} {xs : List Value} {k : Value → Prop} (E : Hs w0 F w l) (hm : slA v T 1 xs ∈ l) (h : k (.int .i64 (xs.length : Int))) : LnL v k :=
  LnL.sl E hm (by omega) (by rw [Nat.div_one]; exact h)
theorem Dr.st {k : World → Prop} (E : Hs w0 F w l) (hk : ∀ w', Hs w0 F w' l → k w') : Dr w k := hk _ (E.grow (Upd.drew _))
theorem Hs.slScal {v : Value} {T : TypeId} {sz : Nat} {xs : List Value} (E : Hs w0 F w l) (hm : slA v T sz xs ∈ l) : scalV v = true := by
  rcases (show SliceAt v T sz xs w from E.sat _ hm).ex with ⟨rfl, _⟩ | ⟨b, off, len, cap, pre, sp, fr, rfl, _⟩ <;> rfl
theorem bts_scal (s : ByteArray) : (bts s).all scalV = true := by
  rw [List.all_eq_true]; intro x hx
  simp only [bts, List.mem_map] at hx
  obtain ⟨b, _, rfl⟩ := hx; rfl
theorem bts_len (s : ByteArray) : (bts s).length = s.size := by simp [bts]
theorem bts_app (s t : ByteArray) : bts s ++ bts t = bts (s ++ t) := by simp [bts]
theorem Ap.el {i : Nat} {t t2 ty T : TypeId} {z : Value} {s x : Value} {n sz by_ : Nat} {xs ys : List Value} {k : Value → World → Prop} (E : Hs w0 F w l) (hm : l[i]? = some (slA s T sz xs))
    (hT : P.underlying t = some (.slice T)) (hT2 : ∃ d, P.underlying t2 = some d ∧ ∀ q, d ≠ .int q) (hi : el3 P T = some (some z, sz, by_)) (hpos : 0 < sz) (hx : Src P sz w x n ys) (hzc : z.cells.size = sz)
    (hb : (xs.length / sz + n) * by_ ≤ 140737488355328) (hb2 : xs.length / sz + n ≤ 140737488355328)
    (hk : ∀ s' w', Hs w0 F w' (l.set i (slA s' T sz (xs ++ ys))) → k s' w') : Ef P (Builtin.append_ #[t, t2] ty #[s, x]) w k := by
  unfold el3 at hi
  cases h : P.info? T with
  | none => rw [h] at hi; cases hi
  | some ti =>
    rw [h] at hi
    simp only [Option.map_some, Option.some.injEq, Prod.mk.injEq] at hi
    obtain ⟨h1, h2, h3⟩ := hi
    exact Ap.sl E hm hT hT2 h h1 h2 hpos hx hzc (by rw [h3]; exact hb) hb2 hk
/-- Elements of one cell. -/
theorem Ap.one {i : Nat} {t t2 ty T : TypeId} {z : Value} {s x : Value} {n by_ : Nat} {xs ys : List Value} {k : Value → World → Prop} (E : Hs w0 F w l) (hm : l[i]? = some (slA s T 1 xs))
    (hT : P.underlying t = some (.slice T)) (hT2 : ∃ d, P.underlying t2 = some d ∧ ∀ q, d ≠ .int q) (hi : el3 P T = some (some z, 1, by_)) (hx : Src P 1 w x n ys) (hzc : z.cells.size = 1)
    (hb : (xs.length + n) * by_ ≤ 140737488355328) (hb2 : xs.length + n ≤ 140737488355328)
    (hk : ∀ s' w', Hs w0 F w' (l.set i (slA s' T 1 (xs ++ ys))) → k s' w') : Ef P (Builtin.append_ #[t, t2] ty #[s, x]) w k :=
  Ap.el E hm hT hT2 hi (by omega) hx hzc (by rw [Nat.div_one]; exact hb) (by rw [Nat.div_one]; exact hb2) hk
theorem Src.one {v : Value} {T : TypeId} {xs : List Value} (E : Hs w0 F w l) (hm : slA v T 1 xs ∈ l) (hs : xs.all scalV = true) : Src P 1 w v xs.length xs :=
  Src.slice (show SliceAt v T 1 xs w from E.sat _ hm) (by rw [Nat.mul_one]) (by omega) hs
/-- A new slice of one element of one cell. -/
theorem BdS.one {t e : TypeId} {z x : Value} {by_ : Nat} {k : Value → World → Prop} (E : Hs w0 F w l) (h1 : P.underlying t = some (.slice e)) (hi : el3 P e = some (some z, 1, by_)) (hx : scalV x = true)
    (hk : ∀ v w', Hs w0 F w' (slA v e 1 [x] :: l) → k v w') : Ef P (Instr.buildSlice t 1 #[(0, x)]) w k := by
  unfold el3 at hi
  cases h : P.info? e with
  | none => rw [h] at hi; cases hi
  | some ti =>
    rw [h] at hi
    simp only [Option.map_some, Option.some.injEq, Prod.mk.injEq] at hi
    obtain ⟨h2, h3, h4⟩ := hi
    refine BdS.sl (sz := 1) (z := z) (xs := [x]) E h1 (by unfold sizeK; rw [h]; simp [h3]) (by unfold zeroK; rw [h]; exact h2) (by omega) (by omega) ?_ rfl hk
    have hc := cells_scal hx
    simp [Instr.fill, hc]
    have : Array.range 1 = #[0] := rfl
    rw [this]; simp
end

section
variable {P : Program} {w : World} {t : TypeId} {d : TypeDesc} {a b : Value} {x y : Operand} {k : Value → Prop}
theorem Eq.et (hu : P.underlying t = some d) (h : eqV d a b = some true) (hk : k (.bool true)) : Rd P (eqS .eql t x y a b) w k := Eq.e hu h hk
theorem Eq.ef (hu : P.underlying t = some d) (h : eqV d a b = some false) (hk : k (.bool false)) : Rd P (eqS .eql t x y a b) w k := Eq.e hu h hk
theorem Eq.nt (hu : P.underlying t = some d) (h : eqV d a b = some false) (hk : k (.bool true)) : Rd P (eqS .neq t x y a b) w k := Eq.n hu h hk
theorem Eq.nf (hu : P.underlying t = some d) (h : eqV d a b = some true) (hk : k (.bool false)) : Rd P (eqS .neq t x y a b) w k := Eq.n hu h hk
theorem Un.nt (hk : k (.bool true)) : Un .not (.bool false) k := Un.not hk
theorem Un.nf (hk : k (.bool false)) : Un .not (.bool true) k := Un.not hk
end
/- Tests part; sums stay in range. -/
section
variable {kk : IntKind} {a b : Int} {k : Value → Prop}
theorem Bi.lss (ht : a < b → k (.bool true)) (hf : b ≤ a → k (.bool false)) : Bi .lss (.int kk a) (.int kk b) k := by
  by_cases h : a < b
  · exact ⟨_, by simp [binV, intOp, h], ht h⟩
  · exact ⟨_, by simp [binV, intOp, h], hf (by omega)⟩
theorem Bi.leq (ht : a ≤ b → k (.bool true)) (hf : b < a → k (.bool false)) : Bi .leq (.int kk a) (.int kk b) k := by
  by_cases h : a ≤ b
  · exact ⟨_, by simp [binV, intOp, h], ht h⟩
  · exact ⟨_, by simp [binV, intOp, h], hf (by omega)⟩
theorem Bi.gtr (ht : b < a → k (.bool true)) (hf : a ≤ b → k (.bool false)) : Bi .gtr (.int kk a) (.int kk b) k := by
  by_cases h : b < a
  · exact ⟨_, by simp [binV, intOp, h], ht h⟩
  · exact ⟨_, by simp [binV, intOp, h], hf (by omega)⟩
theorem Bi.geq (ht : b ≤ a → k (.bool true)) (hf : a < b → k (.bool false)) : Bi .geq (.int kk a) (.int kk b) k := by
  by_cases h : b ≤ a
  · exact ⟨_, by simp [binV, intOp, h], ht h⟩
  · exact ⟨_, by simp [binV, intOp, h], hf (by omega)⟩
theorem Bi.eql (ht : a = b → k (.bool true)) (hf : a ≠ b → k (.bool false)) : Bi .eql (.int kk a) (.int kk b) k := by
  by_cases h : a = b
  · exact ⟨.bool true, by simp [binV, intOp, h], ht h⟩
  · exact ⟨.bool false, by simp [binV, intOp, h], hf h⟩
theorem Bi.neq (ht : a ≠ b → k (.bool true)) (hf : a = b → k (.bool false)) : Bi .neq (.int kk a) (.int kk b) k := by
  by_cases h : a = b
  · exact ⟨.bool false, by simp [binV, intOp, h], hf h⟩
  · exact ⟨.bool true, by simp [binV, intOp, h], ht h⟩
theorem toList_data (s : ByteArray) : s.toList = s.data.toList := ByteArray.toList_eq s
theorem toList_beq (s t : ByteArray) : (s.toList == t.toList) = decide (s = t) := by
  rw [toList_data, toList_data]
  by_cases h : s = t
  · subst h; simp
  · have : s.data.toList ≠ t.data.toList := fun hh => h (by cases s; cases t; congr 1; exact Array.ext' hh)
    rw [decide_eq_false h]; simpa using this
theorem Bi.seql {s t : ByteArray} (ht : s = t → k (.bool true)) (hf : s ≠ t → k (.bool false)) : Bi .eql (.string s) (.string t) k := by
  by_cases h : s = t
  · exact ⟨_, by simp only [binV, strOp, toList_beq, h, decide_true], ht h⟩
  · exact ⟨_, by simp only [binV, strOp, toList_beq, h, decide_false], hf h⟩
theorem Bi.sneq {s t : ByteArray} (ht : s ≠ t → k (.bool true)) (hf : s = t → k (.bool false)) : Bi .neq (.string s) (.string t) k := by
  by_cases h : s = t
  · exact ⟨_, by simp only [binV, strOp, toList_beq, h, decide_true, Bool.not_true], hf h⟩
  · exact ⟨_, by simp only [binV, strOp, toList_beq, h, decide_false, Bool.not_false], ht h⟩
theorem Bi.seqT {s t : ByteArray} (h : s = t) (hk : k (.bool true)) : Bi .eql (.string s) (.string t) k := Bi.seql (fun _ => hk) fun h' => absurd h h'
theorem Bi.seqF {s t : ByteArray} (h : s ≠ t) (hk : k (.bool false)) : Bi .eql (.string s) (.string t) k := Bi.seql (fun h' => absurd h' h) fun _ => hk
theorem Bi.snT {s t : ByteArray} (h : s ≠ t) (hk : k (.bool true)) : Bi .neq (.string s) (.string t) k := Bi.sneq (fun _ => hk) fun h' => absurd h' h
theorem Bi.snF {s t : ByteArray} (h : s = t) (hk : k (.bool false)) : Bi .neq (.string s) (.string t) k := Bi.sneq (fun h' => absurd h h') fun _ => hk
theorem Bi.sadd {s t : ByteArray} (h : s.size + t.size ≤ 9223372036854775807) (hk : k (.string (s ++ t))) : Bi .add (.string s) (.string t) k := by
  refine ⟨_, ?_, hk⟩
  have : ¬ ((s.size + t.size : Nat) : Int) > IntKind.i64.max := by
    have : IntKind.i64.max = 9223372036854775807 := by decide
    omega
  simp only [binV, strOp, if_neg this]
theorem Bi.add (h : -9223372036854775808 ≤ a + b ∧ a + b ≤ 9223372036854775807) (hk : k (.int .i64 (a + b))) : Bi .add (.int .i64 a) (.int .i64 b) k :=
  ⟨_, rfl, by rw [IntWalk.i64_in _ h]; exact hk⟩
theorem Bi.sub (h : -9223372036854775808 ≤ a - b ∧ a - b ≤ 9223372036854775807) (hk : k (.int .i64 (a - b))) : Bi .sub (.int .i64 a) (.int .i64 b) k :=
  ⟨_, rfl, by rw [IntWalk.i64_in _ h]; exact hk⟩
theorem Bi.mul (h : -9223372036854775808 ≤ a * b ∧ a * b ≤ 9223372036854775807) (hk : k (.int .i64 (a * b))) : Bi .mul (.int .i64 a) (.int .i64 b) k :=
  ⟨_, rfl, by rw [IntWalk.i64_in _ h]; exact hk⟩
theorem Cv.i64 {kd : IntKind} (h : -9223372036854775808 ≤ a ∧ a ≤ 9223372036854775807) (hk : k (.int .i64 a)) : Cv .i64 (.int kd a) k :=
  ⟨_, _, rfl, by rw [IntWalk.i64_in _ h]; exact hk⟩
end
theorem BdA.mk {z cs : Array Value} {sz : Nat} {parts : List (Nat × Value)} {k : Value → Prop} (hf : Instr.fill (fun i => some (i * sz, sz)) z parts = some cs) (h : k (.agg cs)) : BdA z sz parts k := ⟨cs, hf, h⟩
theorem Ex.ls {vs : List Value} {i : Nat} {v : Value} {k : Value → Prop} (hv : vs[i]? = some v) (h : k v) : Ex (.tuple vs.toArray) i k := Ex.mk (by simpa using hv) h
theorem Fi.ls {off : Nat} {cs : List Value} {v : Value} {k : Value → Prop} (hv : cs[off]? = some v) (h : k v) : Fi off (.agg cs.toArray) k := Fi.mk (by simpa using hv) h
theorem FiA.ls {off n : Nat} {cs ds : List Value} {k : Value → Prop} (hds : (cs.drop off).take n = ds) (h : k (.agg ds.toArray)) : FiA off n (.agg cs.toArray) k := by
  refine ⟨_, rfl, ?_⟩
  have : cs.toArray.extract off (off + n) = ds.toArray := by
    apply Array.ext'
    simp only [Array.toList_extract, List.extract_eq_take_drop]
    have : off + n - off = n := by omega
    rw [this, ← hds]
  rw [this]; exact h
theorem CaV.mono {P : Program} {fv : Value} {args : Array Value} {w : World} {k k' : Value → World → Prop} (h : CaV P fv args w k) (hk : ∀ v w', k v w' → k' v w') : CaV P fv args w k' := by
  rcases h with ⟨f, first, cap, h1, h2, h3⟩ | ⟨L, h1, r, h2, h3, h4⟩
  · exact .inl ⟨f, first, cap, h1, h2, h3.mono hk⟩
  · exact .inr ⟨L, h1, r, h2, h3, h4.mono fun e w' ⟨v, he, hv⟩ => ⟨v, he, hk _ _ hv⟩⟩
theorem Pk.t {x y : Value} {k : Value → Prop} (h : k x) : Pk (.bool true) x y k := ⟨true, rfl, h⟩
theorem Pk.f {x y : Value} {k : Value → Prop} (h : k y) : Pk (.bool false) x y k := ⟨false, rfl, h⟩
theorem Gd.tf {op : (Value → World → Prop) → Prop} {w : World} {k : Value → World → Prop} (h : k undef w) : Gd (.bool false) true op w k := .inr ⟨by simp [isB], h⟩
theorem Gd.ft {op : (Value → World → Prop) → Prop} {w : World} {k : Value → World → Prop} (h : k undef w) : Gd (.bool true) false op w k := .inr ⟨by simp [isB], h⟩
theorem IxS.mk {s : ByteArray} {kk : IntKind} {n : Int} {b : UInt8} {k : Value → Prop} (h0 : 0 ≤ n) (hb : s[n.toNat]? = some b) (hk : k (.int .u8 b.toNat)) : IxS (.string s) (.int kk n) k := ⟨s, kk, n, b, rfl, rfl, h0, hb, hk⟩
theorem SlS.pre {s : ByteArray} {kk : IntKind} {n : Int} {k : Value → Prop} (h0 : 0 ≤ n) (h1 : n.toNat ≤ s.size) (hk : k (.string (s.extract 0 n.toNat))) : SlS (.string s) none (some (.int kk n)) k :=
  ⟨s, 0, n.toNat, rfl, rfl, by simp [bnd, h0], Nat.zero_le _, h1, hk⟩
theorem SlS.suf {s : ByteArray} {kk : IntKind} {n : Int} {k : Value → Prop} (h0 : 0 ≤ n) (h1 : n.toNat ≤ s.size) (hk : k (.string (s.extract n.toNat s.size))) : SlS (.string s) (some (.int kk n)) none k :=
  ⟨s, n.toNat, s.size, rfl, by simp [bnd, h0], rfl, h1, Nat.le_refl _, hk⟩
theorem SlS.mid {s : ByteArray} {kk kk' : IntKind} {n m : Int} {k : Value → Prop} (h0 : 0 ≤ n) (h1 : n ≤ m) (h2 : m.toNat ≤ s.size) (hk : k (.string (s.extract n.toNat m.toNat))) : SlS (.string s) (some (.int kk n)) (some (.int kk' m)) k :=
  ⟨s, n.toNat, m.toNat, rfl, by simp [bnd, h0], by simp [bnd]; omega, by omega, h2, hk⟩
theorem ba_get {s : ByteArray} {i : Nat} (h : i < s.size) : ∃ b : UInt8, s[i]? = some b ∧ s.data.toList[i]? = some b := by
  refine ⟨s[i], ?_, ?_⟩
  · simp [h]
  · have : i < s.data.toList.length := h
    rw [List.getElem?_eq_getElem this]; rfl
/-- What lies outside F's blocks reads as it did. -/
theorem Ld.was {w0 w : World} {F : Nat → Prop} {l : List As} {a : Addr} {v : Value} {k : Value → Prop} (E : Hs w0 F w l) (h : w0.cell? a = some v) (hF : ¬ F a.block) (hk : k v) : Ld (.pointer (some a)) w k := by
  refine ⟨a, v, rfl, ?_, hk⟩
  unfold World.cell? at h ⊢
  have hlt : a.block < w0.heap.size := by
    rcases Nat.lt_or_ge a.block w0.heap.size with h' | h'
    · exact h'
    · simp [Array.getElem?_eq_none h'] at h
  rw [E.upd.same _ hlt hF]
  exact h
theorem Ln.eq {v : Value} {a : Option Addr} {n c : Nat} {k : Value → Prop} (hv : v = .slice a n c) (h : k (.int .i64 n)) : LnL v k := ⟨a, n, c, hv, h⟩
end Go.Sh
