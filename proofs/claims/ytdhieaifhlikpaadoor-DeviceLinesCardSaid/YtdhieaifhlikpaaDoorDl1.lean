/-
  DeviceLines: the plain law: lines of bytes; what typing them makes of a console.
-/
import Derived.Test.YtdhieaifhlikpaaDoorDv8
import Derived.Lib.SplitLaws
namespace Go.Proofs.YtdhieaifhlikpaaDoor
open Go Go.Sh
set_option maxRecDepth 100000
set_option linter.unusedVariables false
set_option linter.unusedSimpArgs false

/-- The complete lines of bytes, behind a line that has begun; and what is left. -/
def lines : List UInt8 → List UInt8 → List (List UInt8) × List UInt8
  | cur, [] => ([], cur)
  | cur, b :: r => if b = 10 then ((cur ++ [b]) :: (lines [] r).1, (lines [] r).2) else lines (cur ++ [b]) r
theorem lines_none : ∀ (s cur : List UInt8), (10 : UInt8) ∉ s → lines cur s = ([], cur ++ s)
  | [], cur, _ => by simp [lines]
  | b :: r, cur, h => by
    have h1 : b ≠ 10 := fun e => h (by rw [e]; exact List.mem_cons_self)
    have h2 : (10 : UInt8) ∉ r := fun e => h (List.mem_cons_of_mem _ e)
    rw [lines, if_neg h1, lines_none r _ h2]; simp
theorem lines_hit : ∀ (a t cur : List UInt8), (10 : UInt8) ∉ a → lines cur (a ++ 10 :: t) = ((cur ++ a ++ [10]) :: (lines [] t).1, (lines [] t).2)
  | [], t, cur, _ => by simp [lines]
  | b :: r, t, cur, h => by
    have h1 : b ≠ 10 := fun e => h (by rw [e]; exact List.mem_cons_self)
    have h2 : (10 : UInt8) ∉ r := fun e => h (List.mem_cons_of_mem _ e)
    rw [List.cons_append, lines, if_neg h1, lines_hit r t _ h2]; simp
/-- They are the bytes. -/
theorem lines_flat : ∀ (s cur : List UInt8), (lines cur s).1.flatten ++ (lines cur s).2 = cur ++ s
  | [], cur => by simp [lines]
  | b :: r, cur => by
    unfold lines
    split
    · simp only [List.flatten_cons, List.append_assoc]
      rw [lines_flat r []]; simp
    · rw [lines_flat r]; simp
/-- Each line ends with its only line end. -/
theorem lines_form : ∀ (s cur : List UInt8), (10 : UInt8) ∉ cur → (∀ x ∈ (lines cur s).1, ∃ y, x = y ++ [10] ∧ (10 : UInt8) ∉ y) ∧ (10 : UInt8) ∉ (lines cur s).2
  | [], cur, h => ⟨fun x hx => absurd hx (by simp [lines]), h⟩
  | b :: r, cur, h => by
    unfold lines
    split
    · rename_i hb
      subst hb
      have ih := lines_form r [] (by simp)
      exact ⟨fun x hx => (List.mem_cons.1 hx).elim (fun e => ⟨cur, e, h⟩) (ih.1 x), ih.2⟩
    · rename_i hb
      exact lines_form r _ (by simp [h, Ne.symm hb])
theorem lines_first : ∀ (s cur : List UInt8) (x : List UInt8), (lines cur s).1.head? = some x → cur.length ≤ x.length
  | [], cur, x, h => by simp [lines] at h
  | b :: r, cur, x, h => by
    unfold lines at h
    split at h
    · simp only [List.head?_cons, Option.some.injEq] at h
      rw [← h]; simp
    · have := lines_first r _ x h
      simp at this; omega
theorem lines_app : ∀ (s t cur : List UInt8), lines cur (s ++ t) = ((lines cur s).1 ++ (lines (lines cur s).2 t).1, (lines (lines cur s).2 t).2)
  | [], t, cur => by simp [lines]
  | b :: r, t, cur => by
    rw [List.cons_append]
    simp only [lines]
    split
    · rw [lines_app r t []]; simp
    · rw [lines_app r t]
/-- The library's split is these lines and the rest. -/
theorem splitK_lines : ∀ (k : Nat) (s : List UInt8), Lib.count s [10] = k → Lib.splitK [10] 1 k s = (lines [] s).1 ++ [(lines [] s).2] := by
  intro k
  induction k with
  | zero =>
    intro s h
    have : (10 : UInt8) ∉ s := by
      rw [Lib.count_one] at h
      exact List.count_eq_zero.1 h
    rw [lines_none s [] this]
    rfl
  | succ k ih =>
    intro s h
    have hm : (10 : UInt8) ∈ s := by
      rw [Lib.count_one] at h
      exact List.count_pos_iff.1 (by omega)
    obtain ⟨a, t, rfl, ha⟩ : ∃ a t, s = a ++ 10 :: t ∧ (10 : UInt8) ∉ a := by
      have := List.append_of_mem hm
      clear h ih
      induction s with
      | nil => cases hm
      | cons x r ih2 =>
        by_cases hx : x = 10
        · exact ⟨[], r, by rw [hx]; rfl, by simp⟩
        · have hr : (10 : UInt8) ∈ r := by
            rcases List.mem_cons.1 hm with e | e
            · exact absurd e.symm hx
            · exact e
          obtain ⟨a, t, e, ha⟩ := ih2 hr (List.append_of_mem hr)
          exact ⟨x :: a, t, by rw [e]; rfl, by simp [ha, Ne.symm hx]⟩
    have hi : Lib.index (a ++ 10 :: t) [10] = (a.length : Int) := by
      refine Lib.index_hit (i := a.length) ?_ (by simp) ?_
      · intro j hj
        unfold Lib.occAt
        rw [List.drop_append_of_le_length (by omega), List.drop_eq_getElem_cons hj]
        simp only [List.cons_append, List.isPrefixOf]
        have : (10 : UInt8) ≠ a[j] := fun e => ha (by rw [e]; exact List.getElem_mem _)
        simp [this]
      · unfold Lib.occAt
        rw [List.drop_left]; simp [List.isPrefixOf]
    have hd : (a ++ 10 :: t).drop (a.length + 1) = t := by
      rw [List.drop_append, List.drop_eq_nil_of_le (by omega)]
      have : a.length + 1 - a.length = 1 := by omega
      rw [this]; rfl
    have hc : Lib.count t [10] = k := by
      have := Lib.count_hit (s := a ++ 10 :: t) (sub := [10]) (by simp) hi
      rw [h] at this
      simp only [List.length_cons, List.length_nil, Nat.zero_add] at this
      rw [hd] at this
      omega
    unfold Lib.splitK
    rw [if_neg (by rw [hi]; simp), hi, lines_hit a t [] ha]
    simp only [Int.toNat_natCast, List.length_cons, List.length_nil, Nat.zero_add]
    rw [hd, ih t hc]
    have ht : (a ++ 10 :: t).take (a.length + 1) = a ++ [10] := by
      rw [List.take_append, List.take_of_length_le (by omega)]
      have : a.length + 1 - a.length = 1 := by omega
      rw [this]; rfl
    rw [ht]
    simp

/-- Bytes as a string. -/
def mkB (l : List UInt8) : ByteArray := ⟨l.toArray⟩
theorem mkB_size (l : List UInt8) : (mkB l).size = l.length := rfl
theorem mkB_app (a b : List UInt8) : mkB a ++ mkB b = mkB (a ++ b) := ba_ext (by simp [mkB])
theorem mkB_data (s : ByteArray) : mkB s.data.toList = s := ba_ext (by simp [mkB])
/-- What typing makes of bytes that do not edit. -/
theorem typed : ∀ (l cur : List UInt8) (bl : List ByteArray), (∀ b ∈ l, b ≠ 4 ∧ b ≠ 8 ∧ b ≠ 21) → (∀ x ∈ (lines cur l).1, x.length ≤ 1024) → (lines cur l).2.length ≤ 1024 → bl.length + (lines cur l).1.length ≤ 64 →
    l.foldl typeB (mkB cur, bl) = (mkB (lines cur l).2, bl ++ (lines cur l).1.map mkB)
  | [], cur, bl, _, _, _, _ => by simp [lines]
  | b :: r, cur, bl, hb, hx, hr, hn => by
    rw [List.foldl_cons]
    have h0 := hb b List.mem_cons_self
    have hb' : ∀ c ∈ r, c ≠ 4 ∧ c ≠ 8 ∧ c ≠ 21 := fun c hc => hb c (List.mem_cons_of_mem _ hc)
    have nat : ∀ c : UInt8, b ≠ c → b.toNat ≠ c.toNat := fun c h e => h (UInt8.toNat_inj.1 e)
    by_cases h10 : b = 10
    · subst h10
      rw [lines, if_pos rfl] at hx hr hn ⊢
      simp only [List.length_cons] at hn
      have e : typeB (mkB cur, bl) 10 = (mkB [], bl ++ [mkB (cur ++ [10])]) := by
        unfold typeB addB
        rw [if_pos (by decide), if_pos (by simp only []; omega)]
        simp only [Prod.mk.injEq]
        exact ⟨rfl, by rw [← mkB_app]; rfl⟩
      rw [e, typed r [] _ hb' (fun x h => hx x (List.mem_cons_of_mem _ h)) hr (by simp; omega)]
      simp
    · rw [lines, if_neg h10] at hx hr hn ⊢
      have hlen : cur.length + 1 ≤ 1024 := by
        have hf := lines_flat r (cur ++ [b])
        cases hL : (lines (cur ++ [b]) r).1 with
        | nil =>
          rw [hL] at hf
          have := congrArg List.length hf
          simp at this
          omega
        | cons x xs =>
          have h1 := hx x (by rw [hL]; exact List.mem_cons_self)
          have h2 := lines_first r (cur ++ [b])
          rw [hL] at h2
          have := h2 x rfl
          simp at this
          omega
      have e : typeB (mkB cur, bl) b = (mkB (cur ++ [b]), bl) := by
        unfold typeB
        have n10 : b.toNat ≠ 10 := nat 10 h10
        have n4 : b.toNat ≠ 4 := nat 4 h0.1
        have n8 : b.toNat ≠ 8 := nat 8 h0.2.1
        have n21 : b.toNat ≠ 21 := nat 21 h0.2.2
        rw [if_neg n10, if_neg n4, if_neg n8, if_neg n21, if_pos (by show cur.length < 1024; omega)]
        simp only [Prod.mk.injEq, and_true]
        rw [← mkB_app]; rfl
      rw [e, typed r _ _ hb' hx hr hn]
end Go.Proofs.YtdhieaifhlikpaaDoor
