/-
  The shallow layer, part 14: slices that are read: whether they lie in a piece or in memory that nobody turns.
-/
import Derived.Test.YtnnhmahemklnkaaDoorSh13
namespace Go.Sh
open Go

/-- As long as the pieces l lie there, the cells from a on are xs. -/
def RdP (w0 : World) (F : Nat → Prop) (l : List As) (a : Addr) (xs : List Value) : Prop :=
  xs = [] ∨ ∃ b o, a = ⟨b, o, none⟩ ∧ ∀ w, Hs w0 F w l → ∀ (j : Nat) x, xs[j]? = some x → w.cell? ⟨b, o + j, none⟩ = some x
/-- .. v is a slice of n elements of sz cells each, whose cells are xs. -/
def RdS (w0 : World) (F : Nat → Prop) (l : List As) (sz n : Nat) (v : Value) (xs : List Value) : Prop :=
  ∃ a c, v = .slice a n c ∧ n ≤ c ∧ xs.length = n * sz ∧ (xs = [] ∨ ∃ p, a = some p ∧ RdP w0 F l p xs)

section
variable {P : Program} {w0 : World} {F : Nat → Prop} {w : World} {l l' r : List As} {sz n : Nat} {v : Value} {xs : List Value} {a : Addr}

theorem RdP.weaken (h : RdP w0 F l a xs) (hl : ∀ w, Hs w0 F w l' → Hs w0 F w l) : RdP w0 F l' a xs :=
  h.imp id fun ⟨b, o, h1, h2⟩ => ⟨b, o, h1, fun w E => h2 w (hl w E)⟩
theorem RdS.weaken (h : RdS w0 F l sz n v xs) (hl : ∀ w, Hs w0 F w l' → Hs w0 F w l) : RdS w0 F l' sz n v xs := by
  obtain ⟨a, c, h1, h2, h3, h4⟩ := h
  exact ⟨a, c, h1, h2, h3, h4.imp id fun ⟨p, hp, h⟩ => ⟨p, hp, h.weaken hl⟩⟩
theorem RdS.cons (h : RdS w0 F l sz n v xs) (A : As) : RdS w0 F (A :: l) sz n v xs := h.weaken fun _ E => E.tl
theorem RdS.app (h : RdS w0 F l sz n v xs) (k : List As) : RdS w0 F (k ++ l) sz n v xs := h.weaken fun _ E => E.drop (List.sublist_append_right _ _)
/-- Memory that was there at the start, and that nobody may turn. -/
theorem RdS.old (h : Rdl w0 v xs) (hF : ∀ b, ¬ F b) : RdS w0 F l 1 xs.length v xs := by
  obtain ⟨a, c, h1, h2, h3⟩ := h
  refine ⟨a, c, h1, h2, by simp, h3.imp id ?_⟩
  rintro ⟨b, o, rfl, hlt, hc⟩
  refine ⟨_, rfl, .inr ⟨b, o, rfl, fun w E j x hx => ?_⟩⟩
  have hb := E.upd.same b hlt (hF b)
  have := hc j x hx
  unfold World.cell? at this ⊢
  rw [hb]; exact this
/-- A slice that is a piece. -/
theorem RdS.sl {T : TypeId} (h : slA v T sz xs ∈ l) (hz : 0 < sz) (hw : Hs w0 F w l) : RdS w0 F l sz (xs.length / sz) v xs := by
  have hs := hw.sat _ h
  rcases hs.ex with ⟨h1, h2⟩ | ⟨b, off, m, cap, pre, sp, fr, h1, h2, h3, h4, h5, h6, h7⟩
  · subst h2; exact ⟨none, 0, by simpa using h1, by simp, by simp, .inl rfl⟩
  · have hdiv : xs.length / sz = m := by rw [h4, Nat.mul_div_cancel _ hz]
    rw [hdiv]
    refine ⟨_, _, h1, h6, h4, .inr ⟨_, rfl, .inr ⟨b, off, rfl, fun w2 E j x hx => ?_⟩⟩⟩
    rcases (E.sat _ h).ex with ⟨h1', h2'⟩ | ⟨b', off', m', cap', pre', sp', fr', h1', h2', h3', h4', h5', h6', h7'⟩
    · rw [h2'] at hx; simp at hx
    · rw [h1] at h1'
      simp only [Value.slice.injEq, Option.some.injEq, Addr.mk.injEq, and_true] at h1'
      obtain ⟨⟨rfl, rfl⟩, -, -⟩ := h1'
      refine cell_of h2' ?_
      have hlt := (List.getElem?_eq_some_iff.1 hx).1
      simp only [List.getElem?_toArray]
      rw [List.append_assoc, List.getElem?_append_right (by omega), List.getElem?_append_left (by omega)]
      rw [show off + j - pre'.length = j by omega]; exact hx
theorem RdS.len (h : RdS w0 F l sz n v xs) {k : Value → Prop} (hk : k (.int .i64 (n : Int))) : LnL v k := by
  obtain ⟨a, c, rfl, -, -, -⟩ := h
  exact ⟨a, n, c, rfl, hk⟩
theorem RdS.ix (h : RdS w0 F l sz n v xs) {i : Int} {kk : IntKind} {k : Value → Prop} (h0 : 0 ≤ i) (hi : i.toNat < n) (hz : 0 < sz) (hk : ∀ a, RdP w0 F l a (xs.drop (i.toNat * sz)) → k (.pointer (some a))) : IxA sz v (.int kk i) k := by
  obtain ⟨a, c, rfl, h1, h2, h3⟩ := h
  have hpos : 0 < xs.length := by rw [h2]; exact Nat.mul_pos (by omega) hz
  rcases h3 with rfl | ⟨p, rfl, h3⟩
  · simp at hpos
  rcases h3 with rfl | ⟨b, o, rfl, h4⟩
  · simp at hpos
  refine ⟨_, n, c, kk, i, rfl, rfl, h0, by omega, ?_⟩
  rw [add_mk]
  exact hk _ (.inr ⟨b, _, rfl, fun w E j x hx => by
    rw [List.getElem?_drop] at hx
    have := h4 w E _ x hx
    rwa [Nat.add_assoc]⟩)
theorem RdP.fa (h : RdP w0 F l a xs) {off : Nat} {k : Value → Prop} (hne : xs ≠ []) (hk : ∀ a', RdP w0 F l a' (xs.drop off) → k (.pointer (some a'))) : Fa off (.pointer (some a)) k := by
  rcases h with rfl | ⟨b, o, rfl, h4⟩
  · exact absurd rfl hne
  refine ⟨_, rfl, ?_⟩
  rw [add_mk]
  exact hk _ (.inr ⟨b, _, rfl, fun w E j x hx => by
    rw [List.getElem?_drop] at hx
    have := h4 w E _ x hx
    rwa [Nat.add_assoc]⟩)
theorem RdP.ld (h : RdP w0 F l a xs) (E : Hs w0 F w l) {x : Value} (hx : xs[0]? = some x) {k : Value → Prop} (hk : k x) : Ld (.pointer (some a)) w k := by
  rcases h with rfl | ⟨b, o, rfl, h4⟩
  · cases hx
  exact ⟨_, x, rfl, h4 w E 0 x hx, hk⟩
theorem RdP.lda (h : RdP w0 F l a xs) (E : Hs w0 F w l) {m : Nat} {ds : List Value} (hd : xs.take m = ds) (hm : ds.length = m) (hpos : 0 < m) {k : Value → Prop} (hk : k (.agg ds.toArray)) : LdA P m (.pointer (some a)) w k := by
  have hle : m ≤ xs.length := by rw [← hm, ← hd]; simp; omega
  rcases h with rfl | ⟨b, o, rfl, h4⟩
  · simp at hle; omega
  refine ⟨_, ds.toArray, rfl, ?_, hk⟩
  have key : ∀ (n i : Nat) (acc : Array Value), i + n ≤ xs.length → (loadCellsFrom ⟨b, o, none⟩ i n acc).run P w = .ok (acc ++ ((xs.drop i).take n).toArray) w := by
    intro n
    induction n with
    | zero => intro i acc _; simp [loadCellsFrom]
    | succ n ih =>
      intro i acc hn
      have hlt : i < xs.length := by omega
      have hc : w.cell? ((⟨b, o, none⟩ : Addr).add i) = some xs[i] := by rw [add_mk]; exact h4 w E i _ (List.getElem?_eq_getElem hlt)
      simp only [loadCellsFrom, Sem.run_bind, run_load_cell hc, Result.andThen_ok]
      rw [ih (i + 1) _ (by omega)]
      congr 1
      apply Array.ext'
      simp only [Array.toList_append, Array.toList_push, List.append_assoc]
      congr 1
      have e := List.drop_eq_getElem_cons hlt
      simp only [e, List.take_succ_cons, List.singleton_append]
  unfold loadCells
  have := key m 0 #[] (by omega)
  rw [this, List.drop_zero, hd]
  simp
end
end Go.Sh
