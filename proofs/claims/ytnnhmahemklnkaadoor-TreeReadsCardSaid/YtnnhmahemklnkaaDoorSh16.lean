/-
  The shallow layer, part 16: several pieces as one; pools of rows that nothing turns; maps as lists of keys with what they hold.
-/
import Derived.Test.YtnnhmahemklnkaaDoorSh15
namespace Go.Sh
open Go

/-! ### Several pieces as one -/
def Apart (A B : As) : Prop := ∀ b, A.foot b → ¬ B.foot b
def star (ls : List As) : As where
  foot b := ∃ A, A ∈ ls ∧ A.foot b
  sat w := (∀ A, A ∈ ls → A.sat w) ∧ ls.Pairwise Apart
  lt w h b := fun ⟨A, hA, hb⟩ => A.lt w (h.1 A hA) b hb
  loc w w' h hs := ⟨fun A hA => A.loc w w' (fun b hb => h b ⟨A, hA, hb⟩) (hs.1 A hA), hs.2⟩
section
variable {P : Program} {w0 : World} {F : Nat → Prop} {w : World} {l r : List As}
theorem Hs.unstar {ls : List As} (E : Hs w0 F w (star ls :: l)) : Hs w0 F w (ls ++ l) := by
  have hs := E.sat _ List.mem_cons_self
  have ha := E.apart
  rw [List.pairwise_cons] at ha
  refine ⟨E.upd, fun A hA => ?_, fun A hA b hb hlt => ?_, ?_⟩
  · rcases List.mem_append.1 hA with h | h
    · exact hs.1 A h
    · exact E.sat A (List.mem_cons_of_mem _ h)
  · rcases List.mem_append.1 hA with h | h
    · exact E.own _ List.mem_cons_self b ⟨A, h, hb⟩ hlt
    · exact E.own A (List.mem_cons_of_mem _ h) b hb hlt
  · rw [List.pairwise_append]
    exact ⟨hs.2, ha.2, fun A hA B hB b hb => ha.1 B hB b ⟨A, hA, hb⟩⟩
theorem Hs.star {ls : List As} (E : Hs w0 F w (ls ++ l)) : Hs w0 F w (star ls :: l) := by
  have ha := E.apart
  rw [List.pairwise_append] at ha
  refine ⟨E.upd, fun A hA => ?_, fun A hA b hb hlt => ?_, ?_⟩
  · rcases List.mem_cons.1 hA with rfl | h
    · exact ⟨fun B hB => E.sat B (List.mem_append_left _ hB), ha.1⟩
    · exact E.sat A (List.mem_append_right _ h)
  · rcases List.mem_cons.1 hA with rfl | h
    · obtain ⟨B, hB, hb⟩ := hb
      exact E.own B (List.mem_append_left _ hB) b hb hlt
    · exact E.own A (List.mem_append_right _ h) b hb hlt
  · rw [List.pairwise_cons]
    exact ⟨fun B hB b ⟨A, hA, hb⟩ => ha.2.2 A hA B hB b hb, ha.2.1⟩
theorem Hs.starPerm {a b : List As} (hp : a.Perm b) (E : Hs w0 F w (Sh.star a :: l)) : Hs w0 F w (Sh.star b :: l) := (E.unstar.perm (hp.append_right l)).star
theorem Hs.starApp {a b : List As} (E : Hs w0 F w (Sh.star (a ++ b) :: l)) : Hs w0 F w (Sh.star a :: Sh.star b :: l) := by
  have E1 := E.unstar
  rw [List.append_assoc] at E1
  have E2 := (E1.perm (l' := b ++ (a ++ l)) (by
    rw [← List.append_assoc, ← List.append_assoc]; exact List.perm_append_comm.append_right l)).star
  have E3 : Hs w0 F w (a ++ Sh.star b :: l) := E2.perm (List.perm_middle.symm)
  exact E3.star
theorem Hs.starJoin {a b : List As} (E : Hs w0 F w (Sh.star a :: Sh.star b :: l)) : Hs w0 F w (Sh.star (a ++ b) :: l) := by
  have E1 : Hs w0 F w (a ++ Sh.star b :: l) := E.unstar
  have E2 : Hs w0 F w (b ++ (a ++ l)) := (E1.perm List.perm_middle).unstar
  have E3 : Hs w0 F w ((a ++ b) ++ l) := E2.perm (by rw [← List.append_assoc]; exact List.perm_append_comm.append_right l)
  exact E3.star
theorem Hs.starNil (E : Hs w0 F w l) : Hs w0 F w (Sh.star [] :: l) := Hs.star (ls := []) E
theorem Hs.disj {A B : As} {b : Nat} (E : Hs w0 F w (A :: B :: l)) (h1 : A.foot b) (h2 : B.foot b) : False := by
  have := E.apart
  rw [List.pairwise_cons] at this
  exact this.1 B List.mem_cons_self b h1 h2

/-! ### Rows that nothing turns -/
/-- A row: the slice, its type, its cells (one an element); a slice of no elements may lie anywhere. -/
structure Row where
  v : Value
  T : TypeId
  xs : List Value
def Row.as (r : Row) : As := slA r.v r.T 1 r.xs
def Pool (D : List Row) : As := star (D.map Row.as)
theorem split_perm {α : Type} {a : α} {l : List α} (h : a ∈ l) : ∃ r, l.Perm (a :: r) := by
  obtain ⟨s, t, rfl⟩ := List.append_of_mem h
  exact ⟨s ++ t, List.perm_middle⟩
/-- What a slice holds: a pool's row, or nothing. -/
def Rdy (D : List Row) (T : TypeId) (v : Value) (xs : List Value) : Prop := (xs = [] ∧ ∃ a c, v = .slice a 0 c) ∨ (⟨v, T, xs⟩ : Row) ∈ D
theorem Rdy.mono {D D' : List Row} {T : TypeId} {v : Value} {xs : List Value} (h : Rdy D T v xs) (hs : ∀ x, x ∈ D → x ∈ D') : Rdy D' T v xs := h.imp id (hs _)
theorem Rdy.read {D : List Row} {T : TypeId} {v : Value} {xs : List Value} (h : Rdy D T v xs) (E : Hs w0 F w l) (hp : Pool D ∈ l) : RdS w0 F l 1 xs.length v xs := by
  rcases h with ⟨rfl, a, c, rfl⟩ | hx
  · exact ⟨a, c, rfl, Nat.zero_le _, rfl, .inl rfl⟩
  obtain ⟨r1, h1⟩ := split_perm hp
  obtain ⟨r2, h2⟩ := split_perm (List.mem_map.2 ⟨_, hx, rfl⟩ : Row.as ⟨v, T, xs⟩ ∈ D.map Row.as)
  have key : ∀ w, Hs w0 F w l → Hs w0 F w (slA v T 1 xs :: (r2 ++ r1)) := fun w E => (E.perm h1).unstar.perm (h2.append_right r1)
  have := RdS.weaken (RdS.sl (w := w) (l := slA v T 1 xs :: (r2 ++ r1)) (sz := 1) (T := T) List.mem_cons_self (by omega) (key w E)) key
  simpa using this
theorem Hs.pool (T : TypeId) {D : List Row} {v : Value} {xs : List Value} (E : Hs w0 F w (slA v T 1 xs :: Pool D :: l)) : Hs w0 F w (Pool (⟨v, T, xs⟩ :: D) :: l) := by
  have E1 : Hs w0 F w (D.map Row.as ++ slA v T 1 xs :: l) := (E.perm (List.Perm.swap _ _ _)).unstar
  exact Hs.star (ls := Row.as ⟨v, T, xs⟩ :: D.map Row.as) (E1.perm List.perm_middle)

/-! ### Maps as lists of keys with what they hold -/
section
variable {κ β : Type} [DecidableEq κ] {ek : κ → Value} {ev : β → Value}
def encM (ek : κ → Value) (ev : β → Value) (L : List (κ × β)) : AL := L.map fun p => (ek p.1, ev p.2)
def putL : List (κ × β) → κ → β → List (κ × β)
  | [], k, v => [(k, v)]
  | p :: r, k, v => if k = p.1 then (k, v) :: r else p :: putL r k v
def delL : List (κ × β) → κ → List (κ × β)
  | [], _ => []
  | p :: r, k => if k = p.1 then r else p :: delL r k
def getL (L : List (κ × β)) (k : κ) : Option β := (L.find? fun p => decide (k = p.1)).map (·.2)
def KeyInj (ek : κ → Value) : Prop := ∀ a b, keyEq (ek a) (ek b) = decide (a = b)
theorem aget_enc (h : KeyInj ek) (L : List (κ × β)) (k : κ) : aget (encM ek ev L) (ek k) = (getL L k).map ev := by
  unfold aget encM getL
  induction L with
  | nil => rfl
  | cons p r ih =>
    simp only [List.map_cons, List.find?_cons, h k p.1]
    by_cases hk : k = p.1
    · simp [hk]
    · simp only [hk, decide_false]; exact ih
theorem aput_enc (h : KeyInj ek) (L : List (κ × β)) (k : κ) (v : β) : aput (encM ek ev L) (ek k) (ev v) = encM ek ev (putL L k v) := by
  unfold encM
  induction L with
  | nil => rfl
  | cons p r ih =>
    simp only [List.map_cons, aput, putL, h k p.1]
    by_cases hk : k = p.1
    · simp [hk]
    · simp only [hk, decide_false, Bool.false_eq_true, if_false, List.map_cons]; rw [ih]
theorem adel_enc (h : KeyInj ek) (L : List (κ × β)) (k : κ) : adel (encM ek ev L) (ek k) = encM ek ev (delL L k) := by
  unfold encM
  induction L with
  | nil => rfl
  | cons p r ih =>
    simp only [List.map_cons, adel, delL, h k p.1]
    by_cases hk : k = p.1
    · simp [hk]
    · simp only [hk, decide_false, Bool.false_eq_true, if_false, List.map_cons]; rw [ih]
theorem getL_none {L : List (κ × β)} {k : κ} : getL L k = none ↔ k ∉ L.map (·.1) := by
  unfold getL
  simp only [Option.map_eq_none_iff, List.find?_eq_none, decide_eq_true_eq, List.mem_map, not_exists, not_and]
  exact ⟨fun h p hp he => h p hp he.symm, fun h p hp he => h p hp he.symm⟩
theorem getL_some {L : List (κ × β)} (hn : (L.map (·.1)).Nodup) {k : κ} {v : β} : getL L k = some v ↔ (k, v) ∈ L := by
  unfold getL
  induction L with
  | nil => simp
  | cons p r ih =>
    simp only [List.map_cons, List.nodup_cons] at hn
    simp only [List.find?_cons, List.mem_cons]
    by_cases hk : k = p.1
    · subst hk
      simp only [decide_true, Option.map_some, Option.some.injEq]
      constructor
      · rintro rfl; exact .inl rfl
      · rintro (h | h)
        · rw [← h]
        · exact absurd (List.mem_map.2 ⟨_, h, rfl⟩) hn.1
    · simp only [hk, decide_false]
      rw [ih hn.2]
      constructor
      · exact .inr
      · rintro (h | h)
        · exact absurd (by rw [← h]) hk
        · exact h
theorem getL_perm {L M : List (κ × β)} (hp : L.Perm M) (hn : (M.map (·.1)).Nodup) (k : κ) : getL L k = getL M k := by
  have hl : (L.map (·.1)).Nodup := (hp.map _).nodup_iff.2 hn
  cases h : getL M k with
  | none => rw [getL_none] at h ⊢; exact fun hc => h ((hp.map _).mem_iff.1 hc)
  | some v => rw [getL_some hn] at h; rw [getL_some hl]; exact hp.mem_iff.2 h
theorem putL_new {L : List (κ × β)} {k : κ} {v : β} (h : k ∉ L.map (·.1)) : putL L k v = L ++ [(k, v)] := by
  induction L with
  | nil => rfl
  | cons p r ih =>
    simp only [List.map_cons, List.mem_cons, not_or] at h
    simp only [putL, h.1, if_false, List.cons_append, ih h.2]
theorem delL_perm {L : List (κ × β)} {k : κ} {v : β} (hn : (L.map (·.1)).Nodup) (h : (k, v) ∈ L) : L.Perm ((k, v) :: delL L k) := by
  induction L with
  | nil => cases h
  | cons p r ih =>
    simp only [List.map_cons, List.nodup_cons] at hn
    simp only [delL]
    by_cases hk : k = p.1
    · simp only [hk, if_true]
      rcases List.mem_cons.1 h with h | h
      · rw [← hk, h]
      · exact absurd (List.mem_map.2 ⟨_, h, hk⟩) hn.1
    · simp only [hk, if_false]
      rcases List.mem_cons.1 h with h | h
      · exact absurd (by rw [← h]) hk
      · exact ((ih hn.2 h).cons p).trans (List.Perm.swap _ _ _)
theorem delL_none {L : List (κ × β)} {k : κ} (h : k ∉ L.map (·.1)) : delL L k = L := by
  induction L with
  | nil => rfl
  | cons p r ih =>
    simp only [List.map_cons, List.mem_cons, not_or] at h
    simp only [delL, h.1, if_false, ih h.2]
 omit [DecidableEq κ] in
theorem encM_length (L : List (κ × β)) : (encM ek ev L).length = L.length := by simp [encM]
end
theorem keyI (kk : IntKind) : KeyInj (Value.int kk) := fun a b => by simp [keyEq]; rfl
theorem keyS : KeyInj Value.string := fun a b => ba_beq a b
end
end Go.Sh
