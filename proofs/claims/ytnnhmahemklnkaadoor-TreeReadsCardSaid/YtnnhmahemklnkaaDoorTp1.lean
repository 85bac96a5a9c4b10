/-
  Trees, plain: clean paths and their elements.
-/
import Derived.Test.YtnnhmahemklnkaaDoorTn5
namespace Go.Proofs.YtnnhmahemklnkaaDoor
open Go Go.Sh
set_option maxRecDepth 100000
set_option linter.unusedVariables false
set_option linter.unusedSimpArgs false

def noS (s : BA) : Prop := (47 : UInt8) ∉ s.data.toList
theorem splitB_noS : ∀ {l p : List UInt8}, p ∈ splitB l → (47 : UInt8) ∉ p
  | [], p, h => by
    rw [List.mem_singleton.1 h]; simp
  | x :: r, p, h => by
    unfold splitB at h
    split at h
    · rcases List.mem_cons.1 h with rfl | h
      · simp
      · exact splitB_noS h
    · rename_i hx
      cases hq : splitB r with
      | nil => exact absurd hq (splitB_ne r)
      | cons q qs =>
        rw [hq] at h
        rcases List.mem_cons.1 h with rfl | h
        · have := splitB_noS (l := r) (p := q) (by rw [hq]; exact List.mem_cons_self)
          intro hc
          rcases List.mem_cons.1 hc with h1 | h1
          · exact hx h1.symm
          · exact this h1
        · exact splitB_noS (l := r) (by rw [hq]; exact List.mem_cons_of_mem _ h)
theorem splitS_noS {s p : BA} (h : p ∈ splitS s) : noS p := by
  obtain ⟨q, hq, rfl⟩ := List.mem_map.1 h
  exact splitB_noS hq
theorem splitB_app : ∀ {p r : List UInt8}, (47 : UInt8) ∉ p → splitB (p ++ 47 :: r) = p :: splitB r
  | [], r, _ => by simp [splitB]
  | x :: p, r, h => by
    have h1 : x ≠ 47 := fun e => h (by rw [e]; exact List.mem_cons_self)
    have h2 := splitB_app (p := p) (r := r) fun e => h (List.mem_cons_of_mem _ e)
    rw [List.cons_append, splitB, if_neg h1, h2]
theorem splitB_one : ∀ {p : List UInt8}, (47 : UInt8) ∉ p → splitB p = [p]
  | [], _ => rfl
  | x :: p, h => by
    have h1 : x ≠ 47 := fun e => h (by rw [e]; exact List.mem_cons_self)
    rw [splitB, if_neg h1, splitB_one fun e => h (List.mem_cons_of_mem _ e)]
theorem splitB_join : ∀ {ps : List (List UInt8)}, ps ≠ [] → (∀ p ∈ ps, (47 : UInt8) ∉ p) → splitB (Lib.join ps [47]) = ps
  | [], h, _ => absurd rfl h
  | [p], _, h => by
    have : Lib.join [p] [47] = p := by simp [Lib.join, List.intercalate]
    rw [this]; exact splitB_one (h p (by simp))
  | p :: q :: r, _, h => by
    have : Lib.join (p :: q :: r) [47] = p ++ 47 :: Lib.join (q :: r) [47] := by simp [Lib.join, List.intercalate]
    rw [this, splitB_app (h p (by simp)), splitB_join (by simp) fun x hx => h x (List.mem_cons_of_mem _ hx)]
theorem bmk_data (s : BA) : bmk s.data.toList = s := ba_ext (by simp)
theorem splitS_join {l : List BA} (h0 : l ≠ []) (h : ∀ x ∈ l, noS x) : splitS (joinS l) = l := by
  unfold splitS joinS
  show (splitB (Lib.join (l.map (·.data.toList)) [47])).map bmk = l
  rw [splitB_join (by simpa using h0) (by
    intro p hp
    obtain ⟨x, hx, rfl⟩ := List.mem_map.1 hp
    exact h x hx), List.map_map]
  conv => rhs; rw [← List.map_id l]
  exact List.map_congr_left fun x _ => bmk_data x
theorem joinS_nil : joinS [] = emp := rfl
theorem splitS_emp : splitS emp = [emp] := rfl

/-- The elements of a clean path. -/
structure Okl (a : Bool) (l : List BA) : Prop where
  one : ∀ x ∈ l, x ≠ emp ∧ x ≠ dot1 ∧ noS x
  dots : ∀ i : Nat, l[i]? = some dot2 → a = false ∧ ∀ j, j < i → l[j]? = some dot2
theorem Okl.nil (a : Bool) : Okl a [] := ⟨(fun _ h => by cases h), fun i h => by simp at h⟩
theorem stepC_okl {a : Bool} {l : List BA} {s : BA} (h : Okl a l) (hs : noS s) : Okl a (stepC a l s) := by
  unfold stepC
  by_cases c1 : s = emp ∨ s = dot1
  · rw [if_pos c1]; exact h
  rw [if_neg c1]
  have c1' : s ≠ emp ∧ s ≠ dot1 := ⟨fun e => c1 (.inl e), fun e => c1 (.inr e)⟩
  have one : ∀ x ∈ l ++ [s], x ≠ emp ∧ x ≠ dot1 ∧ noS x := fun x hx => by
    rcases List.mem_append.1 hx with hx | hx
    · exact h.one x hx
    · rw [List.mem_singleton.1 hx]; exact ⟨c1'.1, c1'.2, hs⟩
  have look : ∀ (i : Nat) x, (l ++ [s])[i]? = some x → (i < l.length ∧ l[i]? = some x) ∨ (i = l.length ∧ s = x) := by
    intro i x hx
    rw [List.getElem?_append] at hx
    split at hx
    · rename_i hi; exact .inl ⟨hi, hx⟩
    · rename_i hi
      right
      have hlt := (List.getElem?_eq_some_iff.1 hx).1
      simp only [List.length_singleton] at hlt
      have e : i - l.length = 0 := by omega
      rw [e] at hx
      exact ⟨by omega, by simpa using hx⟩
  have left : ∀ j : Nat, l[j]? = some dot2 → (l ++ [s])[j]? = some dot2 := fun j hj => by
    rw [List.getElem?_append_left (List.getElem?_eq_some_iff.1 hj).1]; exact hj
  by_cases c2 : s ≠ dot2
  · rw [if_pos c2]
    refine ⟨one, fun i hi => ?_⟩
    rcases look i dot2 hi with ⟨_, h1⟩ | ⟨_, h1⟩
    · exact ⟨(h.dots i h1).1, fun j hj => left j ((h.dots i h1).2 j hj)⟩
    · exact absurd h1 c2
  rw [if_neg c2]
  by_cases c3 : 0 < l.length ∧ l[l.length - 1]? ≠ some dot2
  · rw [if_pos c3]
    refine ⟨fun x hx => h.one x (List.mem_of_mem_take hx), fun i hi => ?_⟩
    have hlt := (List.getElem?_eq_some_iff.1 hi).1
    rw [List.length_take] at hlt
    rw [List.getElem?_take_of_lt (by omega)] at hi
    refine ⟨(h.dots i hi).1, fun j hj => ?_⟩
    rw [List.getElem?_take_of_lt (by omega)]
    exact (h.dots i hi).2 j hj
  rw [if_neg c3]
  by_cases c4 : a = false
  · rw [if_pos c4]
    refine ⟨one, fun i hi => ⟨c4, fun j hj => ?_⟩⟩
    rcases look i dot2 hi with ⟨_, h1⟩ | ⟨h1, _⟩
    · exact left j ((h.dots i h1).2 j hj)
    · have h2 : l[l.length - 1]? = some dot2 := Classical.byContradiction fun hn => c3 ⟨by omega, hn⟩
      by_cases h3 : j = l.length - 1
      · rw [h3]; exact left _ h2
      · exact left j ((h.dots _ h2).2 j (by omega))
  · rw [if_neg c4]; exact h
theorem fold_okl {a : Bool} : ∀ {xs l : List BA}, Okl a l → (∀ x ∈ xs, noS x) → Okl a (xs.foldl (stepC a) l)
  | [], _, h, _ => h
  | x :: xs, l, h, hx => fold_okl (xs := xs) (stepC_okl h (hx x List.mem_cons_self)) fun y hy => hx y (List.mem_cons_of_mem _ hy)
theorem elems_okl (s : BA) : Okl (absP s) (elemsC s) := fold_okl (Okl.nil _) fun _ h => splitS_noS h
theorem fold_self {a : Bool} {l : List BA} (h : Okl a l) : l.foldl (stepC a) [] = l := by
  have key : ∀ k, k ≤ l.length → (l.take k).foldl (stepC a) [] = l.take k := by
    intro k
    induction k with
    | zero => intro _; rfl
    | succ k ih =>
      intro hk
      have hx : l[k]? = some l[k] := List.getElem?_eq_getElem (by omega)
      have ht : l.take (k + 1) = l.take k ++ [l[k]] := by rw [List.take_add_one, hx]; rfl
      have hl : (l.take k).length = k := by rw [List.length_take]; omega
      rw [ht, List.foldl_append, ih (by omega)]
      show stepC a (l.take k) l[k] = _
      obtain ⟨o1, o2, _⟩ := h.one l[k] (List.getElem_mem _)
      unfold stepC
      rw [if_neg (by rintro (e | e); exact o1 e; exact o2 e)]
      by_cases c2 : l[k] ≠ dot2
      · rw [if_pos c2]
      rw [if_neg c2]
      have c2 : l[k] = dot2 := Classical.not_not.1 c2
      obtain ⟨d1, d2⟩ := h.dots k (by rw [hx, c2])
      rw [if_neg, if_pos d1]
      rintro ⟨h1, h2⟩
      rw [hl] at h1 h2
      rw [List.getElem?_take_of_lt (by omega)] at h2
      exact h2 (d2 _ (by omega))
  have := key l.length (Nat.le_refl _)
  rwa [List.take_length] at this
theorem elems_join {a : Bool} {l : List BA} (h : Okl a l) : (splitS (joinS l)).foldl (stepC a) [] = l := by
  by_cases h0 : l = []
  · subst h0; rfl
  rw [splitS_join h0 fun x hx => (h.one x hx).2.2]
  exact fold_self h
theorem joinS_emp {a : Bool} {l : List BA} (h : Okl a l) : joinS l = emp ↔ l = [] := by
  constructor
  · intro he
    refine Classical.byContradiction fun h0 => ?_
    have := splitS_join h0 fun x hx => (h.one x hx).2.2
    rw [he, splitS_emp] at this
    exact (h.one emp (by rw [← this]; simp)).1 rfl
  · rintro rfl; rfl
theorem absP_sep (s : BA) : absP (sep ++ s) = true := by
  have : (sep ++ s).data.toList = 47 :: s.data.toList := by simp
  unfold absP Lib.hasPrefix
  rw [this]
  simp [List.isPrefixOf]
theorem splitS_sep (s : BA) : splitS (sep ++ s) = emp :: splitS s := by
  have : (sep ++ s).data.toList = 47 :: s.data.toList := by simp
  unfold splitS
  rw [this, splitB, if_pos rfl]
  rfl
theorem absP_eq (s : BA) : absP s = decide (s.data.toList[0]? = some 47) := by
  unfold absP Lib.hasPrefix
  show ([47] : List UInt8).isPrefixOf s.data.toList = _
  cases s.data.toList with
  | nil => rfl
  | cons x r =>
    by_cases h : x = 47
    · simp [List.isPrefixOf, h]
    · have h' : ¬ (47 : UInt8) = x := fun e => h e.symm
      simp [List.isPrefixOf, h, h']
theorem absP_join {a : Bool} {l : List BA} (h : Okl a l) : absP (joinS l) = false := by
  rw [absP_eq]
  cases l with
  | nil => rfl
  | cons x r =>
    obtain ⟨h1, _, h3⟩ := h.one x List.mem_cons_self
    cases hd : x.data.toList with
    | nil => exact absurd (ba_ext (by rw [hd]; rfl)) h1
    | cons y t =>
      have hy : y ≠ 47 := fun e => h3 (by rw [hd, e]; exact List.mem_cons_self)
      have : (joinS (x :: r)).data.toList[0]? = some y := by
        unfold joinS Lib.join
        cases r with
        | nil => simp [List.intercalate, hd]
        | cons z r => simp [List.intercalate, hd]
      rw [this]
      simpa using hy
theorem clean_elems (s : BA) : absP (cleanS s) = absP s ∧ elemsC (cleanS s) = elemsC s := by
  have h := elems_okl s
  generalize hl : elemsC s = l at h
  have hc : cleanS s = if absP s = true then sep ++ joinS l else if joinS l = emp then dot1 else joinS l := by unfold cleanS; rw [hl]
  by_cases ha : absP s = true
  · rw [hc, if_pos ha]
    rw [ha] at h ⊢
    refine ⟨absP_sep _, ?_⟩
    unfold elemsC
    rw [absP_sep, splitS_sep, List.foldl_cons]
    exact elems_join h
  · have ha : absP s = false := by simpa using ha
    rw [hc, if_neg (by rw [ha]; simp)]
    rw [ha] at h ⊢
    by_cases h0 : joinS l = emp
    · rw [if_pos h0, (joinS_emp h).1 h0]
      exact ⟨rfl, rfl⟩
    · rw [if_neg h0]
      have hj := absP_join h
      refine ⟨hj, ?_⟩
      unfold elemsC
      rw [hj]
      exact elems_join h
theorem clean_idem (s : BA) : cleanS (cleanS s) = cleanS s := by
  obtain ⟨h1, h2⟩ := clean_elems s
  rw [cleanS, h1, h2]
  rfl
end Go.Proofs.YtnnhmahemklnkaaDoor
