/-
  Trees, plain: a path that is read byte by byte has the elements of its parts; what is split is valid.
-/
import Derived.Test.YtnnhmahemklnkaaDoorTp1
namespace Go.Proofs.YtnnhmahemklnkaaDoor
open Go Go.Sh
set_option maxRecDepth 100000
set_option linter.unusedVariables false
set_option linter.unusedSimpArgs false

/-- The parts of what is left, behind a word that has begun. -/
def preB (w r : List UInt8) : List (List UInt8) := match splitB r with
  | [] => [w]
  | p :: ps => (w ++ p) :: ps
theorem preB_end (w : List UInt8) : preB w [] = [w] := by simp [preB, splitB]
theorem preB_ne {w r : List UInt8} {x : UInt8} (h : x ≠ 47) : preB w (x :: r) = preB (w ++ [x]) r := by
  unfold preB
  rw [splitB, if_neg h]
  cases hq : splitB r with
  | nil => exact absurd hq (splitB_ne r)
  | cons p ps => simp
theorem preB_eq (w r : List UInt8) : preB w (47 :: r) = w :: preB [] r := by
  unfold preB
  rw [splitB, if_pos rfl]
  cases hq : splitB r with
  | nil => exact absurd hq (splitB_ne r)
  | cons p ps => simp
theorem preB_start (r : List UInt8) : preB [] r = splitB r := by
  unfold preB
  cases hq : splitB r with
  | nil => exact absurd hq (splitB_ne r)
  | cons p ps => simp

/-- An element that no file can have. -/
def badE (x : BA) : Bool := decide (x ≠ dot2) && !goodName x
def splitP (s : BA) : List BA × Int :=
  if 1024 < s.size then ([], 3) else if (elemsC s).any badE then ([], 8) else (elemsC s, 0)
/-- The elements one by one, as 'Split' takes them. -/
def walkE : List BA → List BA → Option (List BA)
  | out, [] => some out
  | out, p :: ps => if p = emp ∨ p = dot1 then walkE out ps else if badE p = true then none else walkE (out ++ [p]) ps
theorem walkE_okl : ∀ {ps out : List BA}, (∀ x ∈ ps, x ≠ emp ∧ x ≠ dot1) → walkE out ps = if ps.any badE then none else some (out ++ ps)
  | [], out, _ => by simp [walkE]
  | p :: ps, out, h => by
    obtain ⟨h1, h2⟩ := h p List.mem_cons_self
    rw [walkE, if_neg (by rintro (e | e); exact h1 e; exact h2 e), walkE_okl (ps := ps) fun x hx => h x (List.mem_cons_of_mem _ hx)]
    cases hb : badE p <;> simp [hb]
def trimS (s : BA) : BA := ⟨(Lib.trimPrefix s.data.toList sep.data.toList).toArray⟩
theorem trim_clean (s : BA) : trimS (cleanS s) = if absP s = true then joinS (elemsC s) else if joinS (elemsC s) = emp then dot1 else joinS (elemsC s) := by
  have h := elems_okl s
  unfold cleanS
  by_cases ha : absP s = true
  · rw [if_pos ha, if_pos ha]
    unfold trimS Lib.trimPrefix
    rw [if_pos (show Lib.hasPrefix (sep ++ joinS (elemsC s)).data.toList sep.data.toList = true from absP_sep _)]
    refine ba_ext ?_
    have : (sep ++ joinS (elemsC s)).data.toList = 47 :: (joinS (elemsC s)).data.toList := by simp
    rw [this]
    simp
  · rw [if_neg ha, if_neg ha]
    by_cases h0 : joinS (elemsC s) = emp
    · rw [if_pos h0]; rfl
    · rw [if_neg h0]
      have hj := absP_join h
      unfold absP at hj
      unfold trimS Lib.trimPrefix
      rw [if_neg (by rw [hj]; simp)]
theorem walkE_clean (s : BA) : walkE [] (splitS (trimS (cleanS s))) = if (elemsC s).any badE then none else some (elemsC s) := by
  have h := elems_okl s
  rw [trim_clean]
  have key : walkE [] (splitS (joinS (elemsC s))) = if (elemsC s).any badE then none else some (elemsC s) := by
    by_cases h0 : elemsC s = []
    · rw [h0]; rfl
    · rw [splitS_join h0 fun x hx => (h.one x hx).2.2]
      rw [walkE_okl fun x hx => ⟨(h.one x hx).1, (h.one x hx).2.1⟩, List.nil_append]
  by_cases ha : absP s = true
  · rw [if_pos ha]; exact key
  · rw [if_neg ha]
    by_cases h0 : joinS (elemsC s) = emp
    · rw [if_pos h0, (joinS_emp h).1 h0]; rfl
    · rw [if_neg h0]; exact key
/-- How far 'Split' is. -/
theorem walkE_step {out ps : List BA} {p : BA} : walkE out (p :: ps) = if p = emp ∨ p = dot1 then walkE out ps else if badE p = true then none else walkE (out ++ [p]) ps := rfl
theorem walkE_len : ∀ {ps out r : List BA}, walkE out ps = some r → r.length ≤ out.length + ps.length
  | [], out, r, h => by
    cases h; simp
  | p :: ps, out, r, h => by
    rw [walkE] at h
    split at h
    · have := walkE_len h; simp only [List.length_cons]; omega
    split at h
    · cases h
    · have := walkE_len h; simp only [List.length_cons, List.length_append, List.length_nil] at this ⊢; omega
end Go.Proofs.YtnnhmahemklnkaaDoor
