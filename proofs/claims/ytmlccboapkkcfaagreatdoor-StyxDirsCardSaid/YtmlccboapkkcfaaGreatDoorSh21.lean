/-
  The shallow layer, part 18: structs held against each other.
-/
import Derived.Test.YtmlccboapkkcfaaGreatDoorSh17
import Derived.Laws.StructEq
import Derived.ChangeArms
import Derived.WideShapes
import Derived.ChangeShapes
namespace Go.Sh
set_option linter.unusedVariables false
set_option linter.unusedSimpArgs false
open Go

/-- The kinds of the cells of numbers, strings and bools. -/
inductive LK where
  | int (k : IntKind)
  | str
  | bool
def LK.fit : LK → Value → Bool
  | .int k, .int q _ => decide (k = q)
  | .str, .string _ => true
  | .bool, .bool _ => true
  | _, _ => false
def fitL : List LK → List Value → Bool
  | [], [] => true
  | k :: ks, v :: vs => k.fit v && fitL ks vs
  | _, _ => false
def ceq : Value → Value → Bool
  | .int _ a, .int _ b => decide (a = b)
  | .string a, .string b => decide (a = b)
  | .bool a, .bool b => decide (a = b)
  | _, _ => false
def ceqL : List Value → List Value → Bool
  | [], [] => true
  | x :: xs, y :: ys => ceq x y && ceqL xs ys
  | _, _ => false
def isSt (P : Program) (t : TypeId) : Bool := match P.underlying t with
  | some (.struct _) => true
  | _ => false
def lvF (g : TypeId → Option (List LK)) : List Field → Nat → Option (List LK)
  | [], _ => some []
  | f :: r, o => if f.name ≠ "_" ∧ f.offset = o then
      match g f.type with
      | some l => match lvF g r (o + l.length) with
        | some m => some (l ++ m)
        | none => none
      | none => none
    else none
/-- A type's cells, in order. -/
def lv (P : Program) : Nat → TypeId → Option (List LK)
  | 0, _ => none
  | d + 1, t => match P.underlying t with
    | some (.int k) => some [.int k]
    | some .string => some [.str]
    | some .bool => some [.bool]
    | some (.struct fs) => if P.stoodInHeld t = true then none else match lvF (lv P d) fs.toList 0, sizeK P t with
      | some l, some n => if n = l.length then some l else none
      | _, _ => none
    | _ => none
/-- A value of a type, of its cells. -/
def asV (P : Program) (t : TypeId) (xs : List Value) : Value := if isSt P t then .agg xs.toArray else xs.headD undef

theorem fitL_len : ∀ {ks : List LK} {xs : List Value}, fitL ks xs = true → xs.length = ks.length
  | [], [], _ => rfl
  | k :: ks, x :: xs, h => by
    simp only [fitL, Bool.and_eq_true] at h
    simp [fitL_len h.2]
  | [], _ :: _, h => by simp [fitL] at h
  | _ :: _, [], h => by simp [fitL] at h
theorem fitL_app : ∀ {ks ms : List LK} {xs : List Value}, fitL (ks ++ ms) xs = true → fitL ks (xs.take ks.length) = true ∧ fitL ms (xs.drop ks.length) = true
  | [], ms, xs, h => by simpa [fitL] using h
  | k :: ks, ms, [], h => by simp [fitL] at h
  | k :: ks, ms, x :: xs, h => by
    simp only [List.cons_append, fitL, Bool.and_eq_true] at h
    have := fitL_app h.2
    simp [fitL, h.1, this.1, this.2]
theorem ceqL_app : ∀ (n : Nat) (xs ys : List Value), xs.length = ys.length → ceqL xs ys = (ceqL (xs.take n) (ys.take n) && ceqL (xs.drop n) (ys.drop n))
  | 0, xs, ys, _ => by simp [ceqL]
  | n + 1, [], [], _ => by simp [ceqL]
  | n + 1, x :: xs, y :: ys, h => by
    have := ceqL_app n xs ys (by simpa using h)
    simp only [List.take_succ_cons, List.drop_succ_cons, ceqL]
    rw [this, Bool.and_assoc]
  | n + 1, [], _ :: _, h => by simp at h
  | n + 1, _ :: _, [], h => by simp at h

variable {P : Program}
theorem lv_part {d : Nat} {t : TypeId} {ks : List LK} (h : lv P d t = some ks) {xs : List Value} {off : Nat} (hx : fitL ks ((xs.drop off).take ks.length) = true) (w : World) : (part t xs.toArray off).run P w = .ok (asV P t ((xs.drop off).take ks.length)) w := by
  have hlen := fitL_len hx
  cases d with
  | zero => cases h
  | succ d =>
    have scalc : scal P t = true → ks.length = 1 → isSt P t = false → (part t xs.toArray off).run P w = .ok (asV P t ((xs.drop off).take ks.length)) w := by
      intro h1 h2 h3
      rw [h2] at hlen ⊢
      have hlt : off < xs.length := by
        rw [List.length_take, List.length_drop] at hlen; omega
      have hxo : xs.toArray[off]? = some xs[off] := by simp [hlt]
      unfold part asV
      rw [if_neg (by rw [h3]; simp)]
      simp only [Sem.run_bind, run_isAgg_scal h1, Result.andThen_ok, Bool.false_eq_true, if_false, hxo, Sem.run_pure]
      congr 1
      rw [List.drop_eq_getElem_cons hlt]; rfl
    unfold lv at h
    unfold scal isSt at scalc
    cases hu : P.underlying t with
    | none => rw [hu] at h; cases h
    | some q =>
      rw [hu] at h scalc
      cases q with
      | int k => cases h; exact scalc rfl rfl rfl
      | string => cases h; exact scalc rfl rfl rfl
      | bool => cases h; exact scalc rfl rfl rfl
      | struct fs =>
        simp only [] at h
        split at h
        · cases h
        split at h
        · rename_i l n hl hn
          split at h
          · rename_i hnl
            cases h
            have hs : aggSize P t = some n := by unfold aggSize; rw [hu]; exact hn
            obtain ⟨h1, h2⟩ := aggSize_spec hs w
            have h3 : isSt P t = true := by unfold isSt; rw [hu]
            unfold part asV
            rw [if_pos h3]
            simp only [Sem.run_bind, h1, Result.andThen_ok, if_true, h2, Sem.run_pure]
            congr 2
            apply Array.ext'
            simp only [Array.toList_extract, List.extract_eq_take_drop]
            rw [show off + n - off = n by omega, hnl]
          · cases h
        · cases h
      | _ => cases h

theorem equalIn_lv : ∀ (d : Nat) {t : TypeId} {ks : List LK}, lv P d t = some ks → ∀ (e : Nat) (xs ys : List Value) (w : World), d ≤ e → fitL ks xs = true → fitL ks ys = true → (Op.equalIn e t (asV P t xs) (asV P t ys)).run P w = .ok (ceqL xs ys) w := by
  intro d
  induction d with
  | zero => intro t ks h; cases h
  | succ d ih =>
    intro t ks h e xs ys w hde hx hy
    obtain ⟨e, rfl⟩ : ∃ e', e = e' + 1 := ⟨e - 1, by omega⟩
    have h0 := h
    unfold lv at h
    cases hu : P.underlying t with
    | none => rw [hu] at h; cases h
    | some q =>
      rw [hu] at h
      have one : ∀ k : LK, ks = [k] → isSt P t = false → ∃ x y, xs = [x] ∧ ys = [y] ∧ k.fit x = true ∧ k.fit y = true ∧ asV P t xs = x ∧ asV P t ys = y := by
        intro k hk hs
        subst hk
        have lx := fitL_len hx
        have ly := fitL_len hy
        match xs, ys, lx, ly with
        | [x], [y], _, _ =>
          refine ⟨x, y, rfl, rfl, ?_, ?_, ?_, ?_⟩
          · simpa [fitL] using hx
          · simpa [fitL] using hy
          · unfold asV; rw [if_neg (by rw [hs]; simp)]; rfl
          · unfold asV; rw [if_neg (by rw [hs]; simp)]; rfl
      cases q with
      | int k =>
        cases h
        obtain ⟨x, y, rfl, rfl, fx, fy, ex, ey⟩ := one _ rfl (by unfold isSt; rw [hu])
        rw [ex, ey]
        cases x with
        | int q a =>
          cases y with
          | int r b =>
            simp only [LK.fit, decide_eq_true_eq] at fx fy
            subst fx fy
            rw [run_equalIn_int w e t k k a b hu]
            congr 1
            simp only [ceqL, ceq, Bool.and_true]
            by_cases hab : a = b <;> simp [hab]
          | _ => simp [LK.fit] at fy
        | _ => simp [LK.fit] at fx
      | string =>
        cases h
        obtain ⟨x, y, rfl, rfl, fx, fy, ex, ey⟩ := one _ rfl (by unfold isSt; rw [hu])
        rw [ex, ey]
        cases x with
        | string a =>
          cases y with
          | string b =>
            rw [run_equalIn_string w e t a b hu]
            congr 1
            simp only [ceqL, ceq, Bool.and_true]
            exact toList_beq a b
          | _ => simp [LK.fit] at fy
        | _ => simp [LK.fit] at fx
      | bool =>
        cases h
        obtain ⟨x, y, rfl, rfl, fx, fy, ex, ey⟩ := one _ rfl (by unfold isSt; rw [hu])
        rw [ex, ey]
        cases x with
        | bool a =>
          cases y with
          | bool b =>
            rw [run_equalIn_bool' w e t a b hu]
            congr 1
            simp only [ceqL, ceq, Bool.and_true]
            cases a <;> cases b <;> rfl
          | _ => simp [LK.fit] at fy
        | _ => simp [LK.fit] at fx
      | struct fs =>
        have hs : isSt P t = true := by unfold isSt; rw [hu]
        simp only [] at h
        split at h
        · cases h
        rename_i hst
        split at h
        · rename_i l n hl hn
          split at h
          · cases h
            have hfs : P.fieldsOf t = fs := by simp [Program.fieldsOf, hu]
            unfold asV
            rw [if_pos hs, if_pos hs, run_equalIn_struct w e t _ _ (by rw [hfs]; exact hu) (by simpa using hst), hfs]
            have key : ∀ (fs : List Field) (o : Nat) (ms : List LK), lvF (lv P d) fs o = some ms → fitL ms (xs.drop o) = true → fitL ms (ys.drop o) = true →
                (Op.eqFields e xs.toArray ys.toArray fs).run P w = .ok (ceqL (xs.drop o) (ys.drop o)) w := by
              intro fs
              induction fs with
              | nil =>
                intro o ms h1 h2 h3
                cases h1
                have e1 := List.eq_nil_of_length_eq_zero (fitL_len h2)
                have e2 := List.eq_nil_of_length_eq_zero (fitL_len h3)
                rw [e1, e2]
                rfl
              | cons f r ihf =>
                intro o ms h1 h2 h3
                unfold lvF at h1
                split at h1
                · rename_i hf
                  split at h1
                  · rename_i l1 hl1
                    split at h1
                    · rename_i m1 hm1
                      cases h1
                      obtain ⟨a1, a2⟩ := fitL_app h2
                      obtain ⟨b1, b2⟩ := fitL_app h3
                      unfold Op.eqFields
                      rw [if_pos hf.1]
                      rw [hf.2]
                      simp only [Sem.run_bind, lv_part hl1 a1 w, lv_part hl1 b1 w, Result.andThen_ok, ih hl1 e _ _ w (by omega) a1 b1]
                      rw [List.drop_drop] at a2 b2
                      have hrest := ihf (o + l1.length) m1 hm1 a2 b2
                      have hsp := ceqL_app l1.length (xs.drop o) (ys.drop o) (by rw [fitL_len h2, fitL_len h3])
                      rw [List.drop_drop, List.drop_drop] at hsp
                      rw [hsp]
                      cases ceqL ((xs.drop o).take l1.length) ((ys.drop o).take l1.length) with
                      | false => simp
                      | true => simpa using hrest
                    · cases h1
                  · cases h1
                · cases h1
            have := key fs.toList 0 _ hl (by simpa using hx) (by simpa using hy)
            simpa using this
          · cases h
        · cases h
      | _ => cases h

variable {w : World}
/-- '==' of two structs. -/
theorem EqS.e {t : TypeId} {ks : List LK} {xs ys : List Value} {x y : Operand} {k : Value → Prop} (h : lv P 20 t = some ks) (hs : isSt P t = true) (hg : P.eqGuardType P.depth t = false) (hx : fitL ks xs = true) (hy : fitL ks ys = true)
    (hk : k (.bool (ceqL xs ys))) : Rd P (eqS .eql t x y (.agg xs.toArray) (.agg ys.toArray)) w k := by
  refine ⟨_, ?_, hk⟩
  have := equalIn_lv 20 h 10000 xs ys w (by omega) hx hy
  unfold asV at this
  rw [if_pos hs, if_pos hs] at this
  unfold eqS
  simp only [Sem.run_bind, run_eqGuard_agg w .eql t x y _ _ hg, Result.andThen_ok]
  rw [run_eql_struct, this]
  rfl
theorem EqS.n {t : TypeId} {ks : List LK} {xs ys : List Value} {x y : Operand} {k : Value → Prop} (h : lv P 20 t = some ks) (hs : isSt P t = true) (hg : P.eqGuardType P.depth t = false) (hx : fitL ks xs = true) (hy : fitL ks ys = true)
    (hk : k (.bool !(ceqL xs ys))) : Rd P (eqS .neq t x y (.agg xs.toArray) (.agg ys.toArray)) w k := by
  refine ⟨_, ?_, hk⟩
  have := equalIn_lv 20 h 10000 xs ys w (by omega) hx hy
  unfold asV at this
  rw [if_pos hs, if_pos hs] at this
  unfold eqS
  simp only [Sem.run_bind, run_eqGuard_agg w .neq t x y _ _ hg, Result.andThen_ok]
  rw [run_neq_struct, this]
  rfl
end Go.Sh

/-
  The shallow layer, part 19: arguments that are structs of numbers, strings and bools.
-/
namespace Go.Sh
set_option linter.unusedVariables false
set_option linter.unusedSimpArgs false
open Go Go.ChangeShapes Go.WideShapes

/-- A cell of a kind, within its kind's range. -/
def LK.fitW : LK → Value → Prop
  | .int k, .int q n => k = q ∧ (Lit.int k n).wf = true
  | .str, .string s => s.size ≤ maxLen
  | .bool, .bool _ => True
  | _, _ => False
def fitWL : List LK → List Value → Prop
  | [], [] => True
  | k :: ks, v :: vs => k.fitW v ∧ fitWL ks vs
  | _, _ => False
theorem fitWL_app : ∀ {ks ms : List LK} {xs ys : List Value}, fitWL ks xs → fitWL ms ys → fitWL (ks ++ ms) (xs ++ ys)
  | [], _, [], _, _, h => h
  | _ :: _, _, _ :: _, _, h, h2 => ⟨h.1, fitWL_app h.2 h2⟩
  | [], _, _ :: _, _, h, _ => h.elim
  | _ :: _, _, [], _, h, _ => h.elim
/-- The sizes of a type's parts are those of its cells. -/
def lvC (P : Program) : Nat → TypeId → Bool
  | 0, _ => false
  | d + 1, t => (match lv P (d + 1) t with
    | some l => decide (P.cellsOf t = l.length)
    | none => false) && (match P.underlying t with
    | some (.struct fs) => fs.toList.all fun f => lvC P d f.type
    | _ => true)
theorem lvC_cells {P : Program} : ∀ {d : Nat} {t : TypeId} {ks : List LK}, lvC P d t = true → lv P d t = some ks → P.cellsOf t = ks.length
  | 0, _, _, _, h => by cases h
  | d + 1, t, ks, hc, h => by
    unfold lvC at hc
    rw [h] at hc
    simp only [Bool.and_eq_true, decide_eq_true_eq] at hc
    exact hc.1
variable {P : Program} {H : Type} {enc : TypeId × Value → H} {w : World} {base : Nat} {sp : Nat → Bool} {held : Bool}
theorem trod_lv : ∀ (d : Nat) {t : TypeId} {ks : List LK}, lv P d t = some ks → lvC P d t = true → ∀ (fuel : Nat) (cs : List Value) (x : DataW H × List MemPlace), DataW.trod enc P w base sp held fuel t cs = some x → fitWL ks cs := by
  intro d
  induction d with
  | zero => intro t ks h; cases h
  | succ d ih =>
    intro t ks h hc fuel cs x hx
    have h0 := h
    unfold lv at h
    cases hu : P.underlying t with
    | none => rw [hu] at h; cases h
    | some q =>
      rw [hu] at h
      cases q with
      | int k =>
        cases h
        obtain ⟨n, rfl, -, hw⟩ := DataW.trod_int hu hx
        exact ⟨⟨rfl, hw⟩, trivial⟩
      | string =>
        cases h
        obtain ⟨s, rfl, -, hw⟩ := DataW.trod_string hu hx
        exact ⟨hw, trivial⟩
      | bool =>
        cases h
        obtain ⟨b, rfl, -⟩ := DataW.trod_bool hu hx
        exact ⟨trivial, trivial⟩
      | struct fs =>
        simp only [] at h
        split at h
        · cases h
        split at h
        · rename_i l n hl hn
          split at h
          · cases h
            obtain ⟨xs, n, -, -, hlen, hxs, hf⟩ := DataW.trod_struct hu hx
            have hcells := lvC_cells hc h0
            rw [hcells] at hlen
            unfold lvC at hc
            rw [hu] at hc
            simp only [Bool.and_eq_true, List.all_eq_true] at hc
            have key : ∀ (gs : List Field) (o : Nat) (ms : List LK), (∀ f ∈ gs, f ∈ fs.toList) → lvF (lv P d) gs o = some ms → cs.length = o + ms.length → fitWL ms (cs.drop o) := by
              intro gs
              induction gs with
              | nil =>
                intro o ms _ h1 h2
                cases h1
                rw [List.drop_eq_nil_of_le (by simp at h2; omega)]
                trivial
              | cons f r ihf =>
                intro o ms hm h1 h2
                unfold lvF at h1
                split at h1
                · rename_i hfo
                  split at h1
                  · rename_i l1 hl1
                    split at h1
                    · rename_i m1 hm1
                      cases h1
                      rw [List.length_append] at h2
                      have hfm := hm f List.mem_cons_self
                      obtain ⟨i, hi⟩ := List.getElem?_of_mem hfm
                      have hfi : fs[i]? = some f := by simpa using hi
                      have h3 := hf i f hfi
                      have hci := lvC_cells (hc.2 f hfm) hl1
                      rw [hfo.2, hci] at h3
                      have hlt : i < xs.length := by rw [hxs]; exact (Array.getElem?_eq_some_iff.1 hfi).1
                      rw [List.getElem?_eq_getElem hlt] at h3
                      have h4 := ih hl1 (hc.2 f hfm) _ _ _ h3
                      have h5 := ihf (o + l1.length) m1 (fun g hg => hm g (List.mem_cons_of_mem _ hg)) hm1 (by omega)
                      have e : cs.drop o = (cs.drop o).take l1.length ++ cs.drop (o + l1.length) := by
                        rw [← List.drop_drop, List.take_append_drop]
                      rw [e]
                      exact fitWL_app h4 h5
                    · cases h1
                  · cases h1
                · cases h1
            have := key fs.toList 0 _ (fun f hf => hf) hl (by omega)
            simpa using this
          · cases h
        · cases h
      | _ => cases h
theorem LK.int_of {k : IntKind} {v : Value} (h : LK.fitW (.int k) v) : ∃ n, v = .int k n ∧ (Lit.int k n).wf = true := by
  cases v with
  | int q n => obtain ⟨rfl, hw⟩ := h; exact ⟨n, rfl, hw⟩
  | _ => exact h.elim
theorem fitWL_cons {k : LK} {ks : List LK} {xs : List Value} (h : fitWL (k :: ks) xs) : ∃ x r, xs = x :: r ∧ k.fitW x ∧ fitWL ks r := by
  cases xs with
  | nil => exact h.elim
  | cons x r => exact ⟨x, r, rfl, h.1, h.2⟩
theorem fitWL_nil {xs : List Value} (h : fitWL [] xs) : xs = [] := by
  cases xs with
  | nil => rfl
  | cons x r => exact h.elim
end Go.Sh

/-
  The shallow layer, part 20: a view of a slice that is a piece; copies into it.
-/
namespace Go.Sh
set_option linter.unusedVariables false
set_option linter.unusedSimpArgs false
open Go

/-- v' is what is left of v behind its first a elements (of one cell). -/
def Vw (v : Value) (a : Nat) (v' : Value) : Prop := ∃ b o n c, v = .slice (some ⟨b, o, none⟩) n c ∧ v' = .slice (some ⟨b, o + a, none⟩) (n - a) (c - a)
section
variable {P : Program} {w0 : World} {F : Nat → Prop} {w : World} {l : List As} {v x : Value} {T : TypeId} {xs : List Value}
theorem Cpy.sl {dT sT ty e T : TypeId} {n m a : Nat} {v' : Value} {ys : List Value} {k : Value → World → Prop} (E : Hs w0 F w (slA v T 1 xs :: l)) (hv' : Vw v a v') (h1 : P.underlying dT = some (.slice e)) (hs : sizeK P e = some 1)
    (hlen : (Builtin.lenOf x).run P w = .ok n w) (hm : m = min n (xs.length - a)) (hf : (Builtin.firstCells 1 m x).run P w = .ok ys.toArray w) (hy : ys.length = m) (hfit : a + m ≤ xs.length) (hvs : ys.all scalV = true)
    (hk : ∀ w', Hs w0 F w' (slA v T 1 (xs.take a ++ ys ++ xs.drop (a + m)) :: l) → k (.int .i64 m) w') : Ef P (Builtin.copy_ #[dT, sT] ty #[v', x]) w k := by
  obtain ⟨b0, o0, n0, c0, rfl, rfl⟩ := hv'
  rcases (show SliceAt _ T 1 xs w from E.sat _ List.mem_cons_self).ex with ⟨h, _⟩ | ⟨b, off, len, cap, pre, sp, fr, hv, g1, g2, g3, g4, g5, g6⟩
  · cases h
  simp only [Value.slice.injEq, Option.some.injEq, Addr.mk.injEq, and_true] at hv
  obtain ⟨⟨rfl, rfl⟩, rfl, rfl⟩ := hv
  rw [Nat.mul_one] at g3
  obtain ⟨w', r1, r2, r3⟩ := storeCells_run (P := P) (b := b0) (T := T) (fr := fr) (o0 + a) ys (pre ++ xs ++ sp) 0 w g1 g6 (by simp; omega) hvs
  refine ⟨.int .i64 m, w', ?_, hk _ ?_⟩
  · unfold sizeK at hs
    cases hq : P.info? e with
    | none => rw [hq] at hs; cases hs
    | some i =>
      rw [hq] at hs
      simp only [Option.map_some, Option.some.injEq] at hs
      have hm' : Nat.min n (n0 - a) = m := by rw [hm, g3]
      simp [Builtin.copy_, run_underlying h1, hlen, sizeOf, typeInfo, hq, hs, hm', hf, r1, goInt]
  · have e : setCs (pre ++ xs ++ sp) (o0 + a + 0) ys = pre ++ (xs.take a ++ ys ++ xs.drop (a + m)) ++ sp := by
      rw [Nat.add_zero, ← g2, setCs_mid _ _ _ _ _ (by omega), setCs_eq _ _ _ (by omega), hy]
    rw [e] at r2
    have hl : (xs.take a ++ ys ++ xs.drop (a + m)).length = xs.length := by simp; omega
    have := E.set 0 (A := slA (.slice (some ⟨b0, o0, none⟩) n0 c0) T 1 xs) (A' := slA (.slice (some ⟨b0, o0, none⟩) n0 c0) T 1 (xs.take a ++ ys ++ xs.drop (a + m))) rfl (r3.mono fun y _ hy => by rw [hy]; rfl)
      ⟨.inr ⟨b0, o0, n0, c0, pre, sp, fr, rfl, r2, g2, by rw [hl, Nat.mul_one]; exact g3, by rw [List.length_append, hl, ← List.length_append]; exact g4, g5, by
        have : (pre ++ (xs.take a ++ ys ++ xs.drop (a + m)) ++ sp).length = (pre ++ xs ++ sp).length := by simp only [List.length_append] at hl ⊢; omega
        rw [this]; exact g6⟩⟩ fun y hy => .inl hy
    simpa using this
end
end Go.Sh
namespace Go.Sh
set_option linter.unusedVariables false
set_option linter.unusedSimpArgs false
open Go
theorem setCs_all (vs cs : List Value) (h : vs.length = cs.length) : setCs cs 0 vs = vs := by
  rw [setCs_eq _ _ _ (by omega), List.take_zero, List.nil_append, Nat.zero_add, List.drop_eq_nil_of_le (by omega), List.append_nil]
/-- A store of all cells of a piece. -/
theorem StA.all {P : Program} {w0 : World} {F : Nat → Prop} {w : World} {l : List As} {b n : Nat} {cs vs : List Value} {T : TypeId} {f : Obj → List As} {k : World → Prop} (E : Hs w0 F w l) [h : WOb l b (oc cs T) f] (hn : vs.length = n) (hc : cs.length = n) (hv : vs.all scalV = true)
    (hk : ∀ w', Hs w0 F w' (f (oc vs T)) → k w') : St P n (.pointer (some ⟨b, 0, none⟩)) (.agg vs.toArray) w k := by
  obtain ⟨i, h1, h2⟩ := h.at_
  refine StA.pt E i h1 hn (by omega) hv fun w' E' => hk w' ?_
  rw [h2]
  have : setCs cs 0 vs = vs := setCs_all vs cs (by omega)
  rw [this] at E'
  exact E'
end Go.Sh

/-
  The shallow layer, part 21: slices of structs that are handed in; sums that may wrap.
-/
namespace Go.Sh
set_option linter.unusedVariables false
set_option linter.unusedSimpArgs false
open Go Go.ChangeShapes Go.WideShapes

/-- A slice of rows that lies in old memory. -/
def RdlA (w : World) (v : Value) (sz n : Nat) (xs : List Value) : Prop := ∃ a c, v = .slice a n c ∧ n ≤ c ∧ n ≤ maxLen ∧ xs.length = n * sz ∧ (xs = [] ∨ ∃ b o, a = some ⟨b, o, none⟩ ∧ b < w.heap.size ∧ ∀ (j : Nat) x, xs[j]? = some x → w.cell? ⟨b, o + j, none⟩ = some x)
section
variable {w0 : World} {F : Nat → Prop} {l : List As} {sz n : Nat} {v : Value} {xs : List Value}
end
section
variable {P : Program} {H : Type} {enc : TypeId × Value → H} {W : World}
end
end Go.Sh
