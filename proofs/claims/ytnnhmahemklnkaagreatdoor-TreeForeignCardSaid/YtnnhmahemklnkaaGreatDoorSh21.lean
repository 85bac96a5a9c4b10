/-
  The shallow layer, part 19: arguments that are structs of numbers, strings and bools.
-/
import Derived.Test.YtnnhmahemklnkaaGreatDoorSh18
import Derived.ChangeArms
import Derived.WideShapes
import Derived.ChangeShapes
namespace Go.Sh
set_option linter.unusedVariables false
set_option linter.unusedSimpArgs false
open Go Go.ChangeShapes Go.WideShapes

/-- A cell of a kind, within its kind's range. -/
def LK.fitW : LK → Value → Prop
  | .int k, .int q n => k = q ∧ (Lit.int k n).wf = true
  | .str, .string s => s.size ≤ maxLen
  | .bool, .bool _ => True
  | _, _ => False
def fitWL : List LK → List Value → Prop
  | [], [] => True
  | k :: ks, v :: vs => k.fitW v ∧ fitWL ks vs
  | _, _ => False
theorem fitWL_app : ∀ {ks ms : List LK} {xs ys : List Value}, fitWL ks xs → fitWL ms ys → fitWL (ks ++ ms) (xs ++ ys)
  | [], _, [], _, _, h => h
  | _ :: _, _, _ :: _, _, h, h2 => ⟨h.1, fitWL_app h.2 h2⟩
  | [], _, _ :: _, _, h, _ => h.elim
  | _ :: _, _, [], _, h, _ => h.elim
/-- The sizes of a type's parts are those of its cells. -/
def lvC (P : Program) : Nat → TypeId → Bool
  | 0, _ => false
  | d + 1, t => (match lv P (d + 1) t with
    | some l => decide (P.cellsOf t = l.length)
    | none => false) && (match P.underlying t with
    | some (.struct fs) => fs.toList.all fun f => lvC P d f.type
    | _ => true)
theorem lvC_cells {P : Program} : ∀ {d : Nat} {t : TypeId} {ks : List LK}, lvC P d t = true → lv P d t = some ks → P.cellsOf t = ks.length
  | 0, _, _, _, h => by cases h
  | d + 1, t, ks, hc, h => by
    unfold lvC at hc
    rw [h] at hc
    simp only [Bool.and_eq_true, decide_eq_true_eq] at hc
    exact hc.1
variable {P : Program} {H : Type} {enc : TypeId × Value → H} {w : World} {base : Nat} {sp : Nat → Bool} {held : Bool}
theorem trod_lv : ∀ (d : Nat) {t : TypeId} {ks : List LK}, lv P d t = some ks → lvC P d t = true → ∀ (fuel : Nat) (cs : List Value) (x : DataW H × List MemPlace), DataW.trod enc P w base sp held fuel t cs = some x → fitWL ks cs := by
  intro d
  induction d with
  | zero => intro t ks h; cases h
  | succ d ih =>
    intro t ks h hc fuel cs x hx
    have h0 := h
    unfold lv at h
    cases hu : P.underlying t with
    | none => rw [hu] at h; cases h
    | some q =>
      rw [hu] at h
      cases q with
      | int k =>
        cases h
        obtain ⟨n, rfl, -, hw⟩ := DataW.trod_int hu hx
        exact ⟨⟨rfl, hw⟩, trivial⟩
      | string =>
        cases h
        obtain ⟨s, rfl, -, hw⟩ := DataW.trod_string hu hx
        exact ⟨hw, trivial⟩
      | bool =>
        cases h
        obtain ⟨b, rfl, -⟩ := DataW.trod_bool hu hx
        exact ⟨trivial, trivial⟩
      | struct fs =>
        simp only [] at h
        split at h
        · cases h
        split at h
        · rename_i l n hl hn
          split at h
          · cases h
            obtain ⟨xs, n, -, -, hlen, hxs, hf⟩ := DataW.trod_struct hu hx
            have hcells := lvC_cells hc h0
            rw [hcells] at hlen
            unfold lvC at hc
            rw [hu] at hc
            simp only [Bool.and_eq_true, List.all_eq_true] at hc
            have key : ∀ (gs : List Field) (o : Nat) (ms : List LK), (∀ f ∈ gs, f ∈ fs.toList) → lvF (lv P d) gs o = some ms → cs.length = o + ms.length → fitWL ms (cs.drop o) := by
              intro gs
              induction gs with
              | nil =>
                intro o ms _ h1 h2
                cases h1
                rw [List.drop_eq_nil_of_le (by simp at h2; omega)]
                trivial
              | cons f r ihf =>
                intro o ms hm h1 h2
                unfold lvF at h1
                split at h1
                · rename_i hfo
                  split at h1
                  · rename_i l1 hl1
                    split at h1
                    · rename_i m1 hm1
                      cases h1
                      rw [List.length_append] at h2
                      have hfm := hm f List.mem_cons_self
                      obtain ⟨i, hi⟩ := List.getElem?_of_mem hfm
                      have hfi : fs[i]? = some f := by simpa using hi
                      have h3 := hf i f hfi
                      have hci := lvC_cells (hc.2 f hfm) hl1
                      rw [hfo.2, hci] at h3
                      have hlt : i < xs.length := by rw [hxs]; exact (Array.getElem?_eq_some_iff.1 hfi).1
                      rw [List.getElem?_eq_getElem hlt] at h3
                      have h4 := ih hl1 (hc.2 f hfm) _ _ _ h3
                      have h5 := ihf (o + l1.length) m1 (fun g hg => hm g (List.mem_cons_of_mem _ hg)) hm1 (by omega)
                      have e : cs.drop o = (cs.drop o).take l1.length ++ cs.drop (o + l1.length) := by
                        rw [← List.drop_drop, List.take_append_drop]
                      rw [e]
                      exact fitWL_app h4 h5
                    · cases h1
                  · cases h1
                · cases h1
            have := key fs.toList 0 _ (fun f hf => hf) hl (by omega)
            simpa using this
          · cases h
        · cases h
      | _ => cases h
/-- An argument that is a struct. -/
theorem open_struct {d : Nat} {t : TypeId} {ks : List LK} {r : Reach} {b0 : Nat} {v : Value} {dt : DataW H} {ps : List MemPlace} (hs : isSt P t = true) (hl : lv P d t = some ks) (hc : lvC P d t = true) (hval : Value.okWide P w r b0 t v)
    (h : DataW.Trod enc P w base sp held t v dt ps) : ∃ xs : List Value, v = .agg xs.toArray ∧ fitWL ks xs := by
  unfold isSt at hs
  split at hs
  · rename_i fs hu
    obtain ⟨cs, rfl, _⟩ := okWide_struct hu hval
    obtain ⟨fuel, hf⟩ := h
    exact ⟨cs.toList, by simp, trod_lv d hl hc _ _ _ hf⟩
  · cases hs
theorem LK.int_of {k : IntKind} {v : Value} (h : LK.fitW (.int k) v) : ∃ n, v = .int k n ∧ (Lit.int k n).wf = true := by
  cases v with
  | int q n => obtain ⟨rfl, hw⟩ := h; exact ⟨n, rfl, hw⟩
  | _ => exact h.elim
theorem LK.str_of {v : Value} (h : LK.fitW .str v) : ∃ s, v = .string s ∧ s.size ≤ maxLen := by
  cases v with
  | string s => exact ⟨s, rfl, h⟩
  | _ => exact h.elim
theorem LK.bool_of {v : Value} (h : LK.fitW .bool v) : ∃ b, v = .bool b := by
  cases v with
  | bool b => exact ⟨b, rfl⟩
  | _ => exact h.elim
theorem fitWL_cons {k : LK} {ks : List LK} {xs : List Value} (h : fitWL (k :: ks) xs) : ∃ x r, xs = x :: r ∧ k.fitW x ∧ fitWL ks r := by
  cases xs with
  | nil => exact h.elim
  | cons x r => exact ⟨x, r, rfl, h.1, h.2⟩
theorem fitWL_nil {xs : List Value} (h : fitWL [] xs) : xs = [] := by
  cases xs with
  | nil => rfl
  | cons x r => exact h.elim
end Go.Sh

/-
  The shallow layer, part 20: a view of a slice that is a piece; copies into it.
-/
namespace Go.Sh
set_option linter.unusedVariables false
set_option linter.unusedSimpArgs false
open Go

/-- v' is what is left of v behind its first a elements (of one cell). -/
def Vw (v : Value) (a : Nat) (v' : Value) : Prop := ∃ b o n c, v = .slice (some ⟨b, o, none⟩) n c ∧ v' = .slice (some ⟨b, o + a, none⟩) (n - a) (c - a)
section
variable {P : Program} {w0 : World} {F : Nat → Prop} {w : World} {l : List As} {v x : Value} {T : TypeId} {xs : List Value}
theorem Sl.view {a : Nat} {kk : IntKind} {k : Value → Prop} (E : Hs w0 F w l) (hm : slA v T 1 xs ∈ l) (ha : a < xs.length) (hk : ∀ v', Vw v a v' → k v') : Sl 1 v (some (.int kk (a : Int))) none k := by
  rcases (show SliceAt v T 1 xs w from E.sat _ hm).ex with ⟨rfl, rfl⟩ | ⟨bl, off, len, cap, pre, sp, fr, rfl, h1, h2, h3, h4, h5, h6⟩
  · simp at ha
  · rw [Nat.mul_one] at h3
    refine ⟨some ⟨bl, off, none⟩, len, cap, a, len, rfl, ?_, ?_, by omega, by omega, ?_⟩
    · simp [bnd]
    · simp [bnd]
    · refine hk _ ⟨bl, off, len, cap, rfl, ?_⟩
      rw [if_neg (by omega)]
      simp only [Option.map_some, add_mk, Nat.mul_one]
theorem Cpy.sl {dT sT ty e T : TypeId} {n m a : Nat} {v' : Value} {ys : List Value} {k : Value → World → Prop} (E : Hs w0 F w (slA v T 1 xs :: l)) (hv' : Vw v a v') (h1 : P.underlying dT = some (.slice e)) (hs : sizeK P e = some 1)
    (hlen : (Builtin.lenOf x).run P w = .ok n w) (hm : m = min n (xs.length - a)) (hf : (Builtin.firstCells 1 m x).run P w = .ok ys.toArray w) (hy : ys.length = m) (hfit : a + m ≤ xs.length) (hvs : ys.all scalV = true)
    (hk : ∀ w', Hs w0 F w' (slA v T 1 (xs.take a ++ ys ++ xs.drop (a + m)) :: l) → k (.int .i64 m) w') : Ef P (Builtin.copy_ #[dT, sT] ty #[v', x]) w k := by
  obtain ⟨b0, o0, n0, c0, rfl, rfl⟩ := hv'
  rcases (show SliceAt _ T 1 xs w from E.sat _ List.mem_cons_self).ex with ⟨h, _⟩ | ⟨b, off, len, cap, pre, sp, fr, hv, g1, g2, g3, g4, g5, g6⟩
  · cases h
  simp only [Value.slice.injEq, Option.some.injEq, Addr.mk.injEq, and_true] at hv
  obtain ⟨⟨rfl, rfl⟩, rfl, rfl⟩ := hv
  rw [Nat.mul_one] at g3
  obtain ⟨w', r1, r2, r3⟩ := storeCells_run (P := P) (b := b0) (T := T) (fr := fr) (o0 + a) ys (pre ++ xs ++ sp) 0 w g1 g6 (by simp; omega) hvs
  refine ⟨.int .i64 m, w', ?_, hk _ ?_⟩
  · unfold sizeK at hs
    cases hq : P.info? e with
    | none => rw [hq] at hs; cases hs
    | some i =>
      rw [hq] at hs
      simp only [Option.map_some, Option.some.injEq] at hs
      have hm' : Nat.min n (n0 - a) = m := by rw [hm, g3]
      simp [Builtin.copy_, run_underlying h1, hlen, sizeOf, typeInfo, hq, hs, hm', hf, r1, goInt]
  · have e : setCs (pre ++ xs ++ sp) (o0 + a + 0) ys = pre ++ (xs.take a ++ ys ++ xs.drop (a + m)) ++ sp := by
      rw [Nat.add_zero, ← g2, setCs_mid _ _ _ _ _ (by omega), setCs_eq _ _ _ (by omega), hy]
    rw [e] at r2
    have hl : (xs.take a ++ ys ++ xs.drop (a + m)).length = xs.length := by simp; omega
    have := E.set 0 (A := slA (.slice (some ⟨b0, o0, none⟩) n0 c0) T 1 xs) (A' := slA (.slice (some ⟨b0, o0, none⟩) n0 c0) T 1 (xs.take a ++ ys ++ xs.drop (a + m))) rfl (r3.mono fun y _ hy => by rw [hy]; rfl)
      ⟨.inr ⟨b0, o0, n0, c0, pre, sp, fr, rfl, r2, g2, by rw [hl, Nat.mul_one]; exact g3, by rw [List.length_append, hl, ← List.length_append]; exact g4, g5, by
        have : (pre ++ (xs.take a ++ ys ++ xs.drop (a + m)) ++ sp).length = (pre ++ xs ++ sp).length := by simp only [List.length_append] at hl ⊢; omega
        rw [this]; exact g6⟩⟩ fun y hy => .inl hy
    simpa using this
end
end Go.Sh
namespace Go.Sh
set_option linter.unusedVariables false
set_option linter.unusedSimpArgs false
open Go
theorem setCs_all (vs cs : List Value) (h : vs.length = cs.length) : setCs cs 0 vs = vs := by
  rw [setCs_eq _ _ _ (by omega), List.take_zero, List.nil_append, Nat.zero_add, List.drop_eq_nil_of_le (by omega), List.append_nil]
/-- A store of all cells of a piece. -/
theorem StA.all {P : Program} {w0 : World} {F : Nat → Prop} {w : World} {l : List As} {b n : Nat} {cs vs : List Value} {T : TypeId} {f : Obj → List As} {k : World → Prop} (E : Hs w0 F w l) [h : WOb l b (oc cs T) f] (hn : vs.length = n) (hc : cs.length = n) (hv : vs.all scalV = true)
    (hk : ∀ w', Hs w0 F w' (f (oc vs T)) → k w') : St P n (.pointer (some ⟨b, 0, none⟩)) (.agg vs.toArray) w k := by
  obtain ⟨i, h1, h2⟩ := h.at_
  refine StA.pt E i h1 hn (by omega) hv fun w' E' => hk w' ?_
  rw [h2]
  have : setCs cs 0 vs = vs := setCs_all vs cs (by omega)
  rw [this] at E'
  exact E'
/-- A store of ten cells behind three others. -/
theorem St.ten {P : Program} {w0 : World} {F : Nat → Prop} {w : World} {l : List As} {b : Nat} {x0 x1 x2 y0 y1 y2 y3 y4 y5 y6 y7 y8 y9 v0 v1 v2 v3 v4 v5 v6 v7 v8 v9 : Value} {r : List Value} {T : TypeId} {f : Obj → List As} {k : World → Prop} (E : Hs w0 F w l)
    [h : WOb l b (oc (x0 :: x1 :: x2 :: y0 :: y1 :: y2 :: y3 :: y4 :: y5 :: y6 :: y7 :: y8 :: y9 :: r) T) f] (hv : [v0, v1, v2, v3, v4, v5, v6, v7, v8, v9].all scalV = true)
    (hk : ∀ w', Hs w0 F w' (f (oc (x0 :: x1 :: x2 :: v0 :: v1 :: v2 :: v3 :: v4 :: v5 :: v6 :: v7 :: v8 :: v9 :: r) T)) → k w') : St P 10 (.pointer (some ⟨b, 3, none⟩)) (.agg #[v0, v1, v2, v3, v4, v5, v6, v7, v8, v9]) w k := by
  obtain ⟨i, h1, h2⟩ := h.at_
  refine StA.pt E (vs := [v0, v1, v2, v3, v4, v5, v6, v7, v8, v9]) i h1 rfl (by simp) hv fun w' E' => hk w' ?_
  rw [h2]
  exact E'
end Go.Sh

/-
  The shallow layer, part 21: slices of structs that are handed in; sums that may wrap.
-/
namespace Go.Sh
set_option linter.unusedVariables false
set_option linter.unusedSimpArgs false
open Go Go.ChangeShapes Go.WideShapes

/-- A slice of rows that lies in old memory. -/
def RdlA (w : World) (v : Value) (sz n : Nat) (xs : List Value) : Prop := ∃ a c, v = .slice a n c ∧ n ≤ c ∧ n ≤ maxLen ∧ xs.length = n * sz ∧ (xs = [] ∨ ∃ b o, a = some ⟨b, o, none⟩ ∧ b < w.heap.size ∧ ∀ (j : Nat) x, xs[j]? = some x → w.cell? ⟨b, o + j, none⟩ = some x)
theorem fitWL_len : ∀ {ks : List LK} {xs : List Value}, fitWL ks xs → xs.length = ks.length
  | [], [], _ => rfl
  | _ :: _, _ :: _, h => by simp [fitWL_len h.2]
  | [], _ :: _, h => h.elim
  | _ :: _, [], h => h.elim
section
variable {w0 : World} {F : Nat → Prop} {l : List As} {sz n : Nat} {v : Value} {xs : List Value}
theorem RdS.oldA (h : RdlA w0 v sz n xs) (hF : ∀ b, ¬ F b) : RdS w0 F l sz n v xs := by
  obtain ⟨a, c, h1, h2, -, h3, h4⟩ := h
  refine ⟨a, c, h1, h2, h3, h4.imp id ?_⟩
  rintro ⟨b, o, rfl, hlt, hc⟩
  refine ⟨_, rfl, .inr ⟨b, o, rfl, fun w E j x hx => ?_⟩⟩
  have hb := E.upd.same b hlt (hF b)
  have := hc j x hx
  unfold World.cell? at this ⊢
  rw [hb]; exact this
end
theorem flat_get {sz : Nat} : ∀ {rows : List (List Value)} {j : Nat} {x : Value}, (∀ r ∈ rows, r.length = sz) → rows.flatten[j]? = some x → ∃ i k r, rows[i]? = some r ∧ k < sz ∧ j = i * sz + k ∧ r[k]? = some x
  | [], j, x, _, h => by simp at h
  | r :: rs, j, x, hr, h => by
    rw [List.flatten_cons] at h
    have hl := hr r List.mem_cons_self
    by_cases hj : j < sz
    · rw [List.getElem?_append_left (by omega)] at h
      exact ⟨0, j, r, rfl, hj, by omega, h⟩
    · rw [List.getElem?_append_right (by omega)] at h
      obtain ⟨i, k, r', h1, h2, h3, h4⟩ := flat_get (sz := sz) (fun y hy => hr y (List.mem_cons_of_mem _ hy)) h
      exact ⟨i + 1, k, r', by simpa using h1, h2, by rw [Nat.succ_mul]; omega, h4⟩
theorem flat_len {sz : Nat} : ∀ {rows : List (List Value)}, (∀ r ∈ rows, r.length = sz) → rows.flatten.length = rows.length * sz
  | [], _ => by simp
  | r :: rs, h => by
    rw [List.flatten_cons, List.length_append, flat_len (fun y hy => h y (List.mem_cons_of_mem _ hy)), h r List.mem_cons_self, List.length_cons, Nat.succ_mul]
    omega
section
variable {P : Program} {H : Type} {enc : TypeId × Value → H} {W : World}
/-- A slice of structs that is handed in. -/
theorem rdl_structs {d base : Nat} {t e : TypeId} {ks : List LK} {v : Value} {dt : DataW H} {ps : List MemPlace} (ht : P.underlying t = some (.slice e)) (hl : lv P d e = some ks) (hc : lvC P d e = true) (hpos : 0 < ks.length)
    (hv : Value.okWide P W .any base t v) (h : DataW.Trod enc P W 0 (fun _ => true) true t v dt ps) : ∃ rows : List (List Value), RdlA W v ks.length rows.length rows.flatten ∧ ∀ r ∈ rows, fitWL ks r := by
  obtain ⟨a0, n0, c0, rfl⟩ := okWide_slice ht hv
  obtain ⟨fuel, hf⟩ := h
  have hsz := lvC_cells hc hl
  rcases DataW.trod_slice ht hf with ⟨hcs, -⟩ | ⟨a, len, cap, elems, rest, n, -, hcs, -, -, hle, hmx, hlen, hel, -, -⟩
  · have : Value.slice a0 n0 c0 = .slice none 0 0 := by simpa [Value.cells] using hcs
    rw [this]
    exact ⟨[], ⟨none, 0, rfl, Nat.le_refl _, Nat.zero_le _, by simp, .inl rfl⟩, fun _ h => by cases h⟩
  · have : Value.slice a0 n0 c0 = .slice (some a) len cap := by simpa [Value.cells] using hcs
    rw [this]
    rw [hsz] at hel
    have each : ∀ i, ∃ r : List Value, i < len → fitWL ks r ∧ r.length = ks.length ∧ ∀ k, k < ks.length → W.cell? (a.add (i * ks.length + k)) = r[k]? := by
      intro i
      by_cases hi : i < len
      · have h1 := hel i hi
        rw [List.getElem?_eq_getElem (show i < elems.length by omega), Option.bind_eq_some_iff] at h1
        obtain ⟨r, hr, hx⟩ := h1
        obtain ⟨-, h2, h3⟩ := World.cells?_some hr
        refine ⟨r, fun _ => ⟨trod_lv d hl hc _ _ _ hx, h2, fun k hk => ?_⟩⟩
        have := h3 k hk
        have e : (a.add (i * ks.length)).add k = a.add (i * ks.length + k) := by
          generalize i * ks.length = m
          unfold Addr.add
          by_cases h1 : m = 0 <;> by_cases h2 : k = 0 <;> simp [h1, h2, Nat.add_assoc]
        rwa [e] at this
      · exact ⟨[], fun h => absurd h hi⟩
    obtain ⟨f, hfm⟩ : ∃ f : Nat → List Value, ∀ i, i < len → fitWL ks (f i) ∧ (f i).length = ks.length ∧ ∀ k, k < ks.length → W.cell? (a.add (i * ks.length + k)) = (f i)[k]? := ⟨fun i => (each i).choose, fun i hi => (each i).choose_spec hi⟩
    have hrl : ∀ r ∈ (List.range len).map f, r.length = ks.length := by
      intro r hr
      obtain ⟨i, hi, rfl⟩ := List.mem_map.1 hr
      exact (hfm i (List.mem_range.1 hi)).2.1
    refine ⟨(List.range len).map f, ⟨some a, cap, by simp, by simpa using hle, by simpa using Nat.le_trans hle hmx, flat_len hrl, ?_⟩, fun r hr => ?_⟩
    · by_cases h0 : len = 0
      · left; subst h0; rfl
      right
      have hc0 := (hfm 0 (by omega)).2.2 0 hpos
      have hl0 := (hfm 0 (by omega)).2.1
      rw [List.getElem?_eq_getElem (show 0 < (f 0).length by omega)] at hc0
      obtain ⟨ea, hb⟩ := spot_none hc0
      have e0 : a.add (0 * ks.length + 0) = a := by cases a; simp [Addr.add]
      rw [e0] at ea hb
      refine ⟨a.block, a.off, by rw [← ea], hb, fun j x hx => ?_⟩
      obtain ⟨i, k, r, h1, h2, h3, h4⟩ := flat_get hrl hx
      rw [List.getElem?_map] at h1
      obtain ⟨i', hi', rfl⟩ := Option.map_eq_some_iff.1 h1
      have hi2 := (List.getElem?_eq_some_iff.1 hi').1
      rw [List.length_range] at hi2
      have h5 : i' = i := by
        rw [List.getElem?_range (by omega)] at hi'
        exact (Option.some.inj hi').symm
      subst h5
      have := (hfm i' hi2).2.2 k h2
      rw [h4, ← h3, ea, add_mk] at this
      exact this
    · obtain ⟨i, hi, rfl⟩ := List.mem_map.1 hr
      exact (hfm i (List.mem_range.1 hi)).1
end
/-- A sum, wrapped or not. -/
theorem Bi.addW {a b : Int} {k : Value → Prop} (hk : ∀ n : Int, k (.int .i64 n)) : Bi .add (.int .i64 a) (.int .i64 b) k := ⟨_, rfl, hk _⟩
end Go.Sh
