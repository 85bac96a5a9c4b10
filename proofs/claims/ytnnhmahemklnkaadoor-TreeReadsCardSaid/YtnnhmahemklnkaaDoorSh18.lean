/-
  The shallow layer, part 18: structs held against each other.
-/
import Derived.Test.YtnnhmahemklnkaaDoorSh17
import Derived.Laws.StructEq
namespace Go.Sh
open Go

/-- The kinds of the cells of numbers, strings and bools. -/
inductive LK where
  | int (k : IntKind)
  | str
  | bool
def LK.fit : LK → Value → Bool
  | .int k, .int q _ => decide (k = q)
  | .str, .string _ => true
  | .bool, .bool _ => true
  | _, _ => false
def fitL : List LK → List Value → Bool
  | [], [] => true
  | k :: ks, v :: vs => k.fit v && fitL ks vs
  | _, _ => false
def ceq : Value → Value → Bool
  | .int _ a, .int _ b => decide (a = b)
  | .string a, .string b => decide (a = b)
  | .bool a, .bool b => decide (a = b)
  | _, _ => false
def ceqL : List Value → List Value → Bool
  | [], [] => true
  | x :: xs, y :: ys => ceq x y && ceqL xs ys
  | _, _ => false
def isSt (P : Program) (t : TypeId) : Bool := match P.underlying t with
  | some (.struct _) => true
  | _ => false
def lvF (g : TypeId → Option (List LK)) : List Field → Nat → Option (List LK)
  | [], _ => some []
  | f :: r, o => if f.name ≠ "_" ∧ f.offset = o then
      match g f.type with
      | some l => match lvF g r (o + l.length) with
        | some m => some (l ++ m)
        | none => none
      | none => none
    else none
/-- A type's cells, in order. -/
def lv (P : Program) : Nat → TypeId → Option (List LK)
  | 0, _ => none
  | d + 1, t => match P.underlying t with
    | some (.int k) => some [.int k]
    | some .string => some [.str]
    | some .bool => some [.bool]
    | some (.struct fs) => if P.stoodInHeld t = true then none else match lvF (lv P d) fs.toList 0, sizeK P t with
      | some l, some n => if n = l.length then some l else none
      | _, _ => none
    | _ => none
/-- A value of a type, of its cells. -/
def asV (P : Program) (t : TypeId) (xs : List Value) : Value := if isSt P t then .agg xs.toArray else xs.headD undef

theorem fitL_len : ∀ {ks : List LK} {xs : List Value}, fitL ks xs = true → xs.length = ks.length
  | [], [], _ => rfl
  | k :: ks, x :: xs, h => by
    simp only [fitL, Bool.and_eq_true] at h
    simp [fitL_len h.2]
  | [], _ :: _, h => by simp [fitL] at h
  | _ :: _, [], h => by simp [fitL] at h
theorem fitL_app : ∀ {ks ms : List LK} {xs : List Value}, fitL (ks ++ ms) xs = true → fitL ks (xs.take ks.length) = true ∧ fitL ms (xs.drop ks.length) = true
  | [], ms, xs, h => by simpa [fitL] using h
  | k :: ks, ms, [], h => by simp [fitL] at h
  | k :: ks, ms, x :: xs, h => by
    simp only [List.cons_append, fitL, Bool.and_eq_true] at h
    have := fitL_app h.2
    simp [fitL, h.1, this.1, this.2]
theorem ceqL_app : ∀ (n : Nat) (xs ys : List Value), xs.length = ys.length → ceqL xs ys = (ceqL (xs.take n) (ys.take n) && ceqL (xs.drop n) (ys.drop n))
  | 0, xs, ys, _ => by simp [ceqL]
  | n + 1, [], [], _ => by simp [ceqL]
  | n + 1, x :: xs, y :: ys, h => by
    have := ceqL_app n xs ys (by simpa using h)
    simp only [List.take_succ_cons, List.drop_succ_cons, ceqL]
    rw [this, Bool.and_assoc]
  | n + 1, [], _ :: _, h => by simp at h
  | n + 1, _ :: _, [], h => by simp at h

variable {P : Program}
theorem lv_part {d : Nat} {t : TypeId} {ks : List LK} (h : lv P d t = some ks) {xs : List Value} {off : Nat} (hx : fitL ks ((xs.drop off).take ks.length) = true) (w : World) : (part t xs.toArray off).run P w = .ok (asV P t ((xs.drop off).take ks.length)) w := by
  have hlen := fitL_len hx
  cases d with
  | zero => cases h
  | succ d =>
    have scalc : scal P t = true → ks.length = 1 → isSt P t = false → (part t xs.toArray off).run P w = .ok (asV P t ((xs.drop off).take ks.length)) w := by
      intro h1 h2 h3
      rw [h2] at hlen ⊢
      have hlt : off < xs.length := by
        rw [List.length_take, List.length_drop] at hlen; omega
      have hxo : xs.toArray[off]? = some xs[off] := by simp [hlt]
      unfold part asV
      rw [if_neg (by rw [h3]; simp)]
      simp only [Sem.run_bind, run_isAgg_scal h1, Result.andThen_ok, Bool.false_eq_true, if_false, hxo, Sem.run_pure]
      congr 1
      rw [List.drop_eq_getElem_cons hlt]; rfl
    unfold lv at h
    unfold scal isSt at scalc
    cases hu : P.underlying t with
    | none => rw [hu] at h; cases h
    | some q =>
      rw [hu] at h scalc
      cases q with
      | int k => cases h; exact scalc rfl rfl rfl
      | string => cases h; exact scalc rfl rfl rfl
      | bool => cases h; exact scalc rfl rfl rfl
      | struct fs =>
        simp only [] at h
        split at h
        · cases h
        split at h
        · rename_i l n hl hn
          split at h
          · rename_i hnl
            cases h
            have hs : aggSize P t = some n := by unfold aggSize; rw [hu]; exact hn
            obtain ⟨h1, h2⟩ := aggSize_spec hs w
            have h3 : isSt P t = true := by unfold isSt; rw [hu]
            unfold part asV
            rw [if_pos h3]
            simp only [Sem.run_bind, h1, Result.andThen_ok, if_true, h2, Sem.run_pure]
            congr 2
            apply Array.ext'
            simp only [Array.toList_extract, List.extract_eq_take_drop]
            rw [show off + n - off = n by omega, hnl]
          · cases h
        · cases h
      | _ => cases h

theorem equalIn_lv : ∀ (d : Nat) {t : TypeId} {ks : List LK}, lv P d t = some ks → ∀ (e : Nat) (xs ys : List Value) (w : World), d ≤ e → fitL ks xs = true → fitL ks ys = true → (Op.equalIn e t (asV P t xs) (asV P t ys)).run P w = .ok (ceqL xs ys) w := by
  intro d
  induction d with
  | zero => intro t ks h; cases h
  | succ d ih =>
    intro t ks h e xs ys w hde hx hy
    obtain ⟨e, rfl⟩ : ∃ e', e = e' + 1 := ⟨e - 1, by omega⟩
    have h0 := h
    unfold lv at h
    cases hu : P.underlying t with
    | none => rw [hu] at h; cases h
    | some q =>
      rw [hu] at h
      have one : ∀ k : LK, ks = [k] → isSt P t = false → ∃ x y, xs = [x] ∧ ys = [y] ∧ k.fit x = true ∧ k.fit y = true ∧ asV P t xs = x ∧ asV P t ys = y := by
        intro k hk hs
        subst hk
        have lx := fitL_len hx
        have ly := fitL_len hy
        match xs, ys, lx, ly with
        | [x], [y], _, _ =>
          refine ⟨x, y, rfl, rfl, ?_, ?_, ?_, ?_⟩
          · simpa [fitL] using hx
          · simpa [fitL] using hy
          · unfold asV; rw [if_neg (by rw [hs]; simp)]; rfl
          · unfold asV; rw [if_neg (by rw [hs]; simp)]; rfl
      cases q with
      | int k =>
        cases h
        obtain ⟨x, y, rfl, rfl, fx, fy, ex, ey⟩ := one _ rfl (by unfold isSt; rw [hu])
        rw [ex, ey]
        cases x with
        | int q a =>
          cases y with
          | int r b =>
            simp only [LK.fit, decide_eq_true_eq] at fx fy
            subst fx fy
            rw [run_equalIn_int w e t k k a b hu]
            congr 1
            simp only [ceqL, ceq, Bool.and_true]
            by_cases hab : a = b <;> simp [hab]
          | _ => simp [LK.fit] at fy
        | _ => simp [LK.fit] at fx
      | string =>
        cases h
        obtain ⟨x, y, rfl, rfl, fx, fy, ex, ey⟩ := one _ rfl (by unfold isSt; rw [hu])
        rw [ex, ey]
        cases x with
        | string a =>
          cases y with
          | string b =>
            rw [run_equalIn_string w e t a b hu]
            congr 1
            simp only [ceqL, ceq, Bool.and_true]
            exact toList_beq a b
          | _ => simp [LK.fit] at fy
        | _ => simp [LK.fit] at fx
      | bool =>
        cases h
        obtain ⟨x, y, rfl, rfl, fx, fy, ex, ey⟩ := one _ rfl (by unfold isSt; rw [hu])
        rw [ex, ey]
        cases x with
        | bool a =>
          cases y with
          | bool b =>
            rw [run_equalIn_bool' w e t a b hu]
            congr 1
            simp only [ceqL, ceq, Bool.and_true]
            cases a <;> cases b <;> rfl
          | _ => simp [LK.fit] at fy
        | _ => simp [LK.fit] at fx
      | struct fs =>
        have hs : isSt P t = true := by unfold isSt; rw [hu]
        simp only [] at h
        split at h
        · cases h
        rename_i hst
        split at h
        · rename_i l n hl hn
          split at h
          · cases h
            have hfs : P.fieldsOf t = fs := by simp [Program.fieldsOf, hu]
            unfold asV
            rw [if_pos hs, if_pos hs, run_equalIn_struct w e t _ _ (by rw [hfs]; exact hu) (by simpa using hst), hfs]
            have key : ∀ (fs : List Field) (o : Nat) (ms : List LK), lvF (lv P d) fs o = some ms → fitL ms (xs.drop o) = true → fitL ms (ys.drop o) = true →
                (Op.eqFields e xs.toArray ys.toArray fs).run P w = .ok (ceqL (xs.drop o) (ys.drop o)) w := by
              intro fs
              induction fs with
              | nil =>
                intro o ms h1 h2 h3
                cases h1
                have e1 := List.eq_nil_of_length_eq_zero (fitL_len h2)
                have e2 := List.eq_nil_of_length_eq_zero (fitL_len h3)
                rw [e1, e2]
                rfl
              | cons f r ihf =>
                intro o ms h1 h2 h3
                unfold lvF at h1
                split at h1
                · rename_i hf
                  split at h1
                  · rename_i l1 hl1
                    split at h1
                    · rename_i m1 hm1
                      cases h1
                      obtain ⟨a1, a2⟩ := fitL_app h2
                      obtain ⟨b1, b2⟩ := fitL_app h3
                      unfold Op.eqFields
                      rw [if_pos hf.1]
                      rw [hf.2]
                      simp only [Sem.run_bind, lv_part hl1 a1 w, lv_part hl1 b1 w, Result.andThen_ok, ih hl1 e _ _ w (by omega) a1 b1]
                      rw [List.drop_drop] at a2 b2
                      have hrest := ihf (o + l1.length) m1 hm1 a2 b2
                      have hsp := ceqL_app l1.length (xs.drop o) (ys.drop o) (by rw [fitL_len h2, fitL_len h3])
                      rw [List.drop_drop, List.drop_drop] at hsp
                      rw [hsp]
                      cases ceqL ((xs.drop o).take l1.length) ((ys.drop o).take l1.length) with
                      | false => simp
                      | true => simpa using hrest
                    · cases h1
                  · cases h1
                · cases h1
            have := key fs.toList 0 _ hl (by simpa using hx) (by simpa using hy)
            simpa using this
          · cases h
        · cases h
      | _ => cases h

variable {w : World}
/-- '==' of two structs. -/
theorem EqS.e {t : TypeId} {ks : List LK} {xs ys : List Value} {x y : Operand} {k : Value → Prop} (h : lv P 20 t = some ks) (hs : isSt P t = true) (hg : P.eqGuardType P.depth t = false) (hx : fitL ks xs = true) (hy : fitL ks ys = true)
    (hk : k (.bool (ceqL xs ys))) : Rd P (eqS .eql t x y (.agg xs.toArray) (.agg ys.toArray)) w k := by
  refine ⟨_, ?_, hk⟩
  have := equalIn_lv 20 h 10000 xs ys w (by omega) hx hy
  unfold asV at this
  rw [if_pos hs, if_pos hs] at this
  unfold eqS
  simp only [Sem.run_bind, run_eqGuard_agg w .eql t x y _ _ hg, Result.andThen_ok]
  rw [run_eql_struct, this]
  rfl
theorem EqS.n {t : TypeId} {ks : List LK} {xs ys : List Value} {x y : Operand} {k : Value → Prop} (h : lv P 20 t = some ks) (hs : isSt P t = true) (hg : P.eqGuardType P.depth t = false) (hx : fitL ks xs = true) (hy : fitL ks ys = true)
    (hk : k (.bool !(ceqL xs ys))) : Rd P (eqS .neq t x y (.agg xs.toArray) (.agg ys.toArray)) w k := by
  refine ⟨_, ?_, hk⟩
  have := equalIn_lv 20 h 10000 xs ys w (by omega) hx hy
  unfold asV at this
  rw [if_pos hs, if_pos hs] at this
  unfold eqS
  simp only [Sem.run_bind, run_eqGuard_agg w .neq t x y _ _ hg, Result.andThen_ok]
  rw [run_neq_struct, this]
  rfl
end Go.Sh
