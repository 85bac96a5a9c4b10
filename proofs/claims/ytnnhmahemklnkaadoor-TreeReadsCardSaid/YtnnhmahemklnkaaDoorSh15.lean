/-
  The shallow layer, part 15: the kit's contracts of sorts, over slices that are pieces.
-/
import Derived.Test.YtnnhmahemklnkaaDoorSh14
import Derived.Sort.Row
import Derived.Sort.Grow
import Derived.Sort.EncStr
namespace Go.Sh
open Go Go.Sort

section
variable {w0 : World} {F : Nat → Prop} {w : World} {l : List As} {α : Type} [Inhabited α] {enc : α → Value}

theorem mid_get (pre xs sp : List Value) (k : Nat) : (pre ++ xs ++ sp)[k]? = if k < pre.length then pre[k]? else if k < pre.length + xs.length then xs[k - pre.length]? else sp[k - pre.length - xs.length]? := by
  rw [List.append_assoc, List.getElem?_append, List.getElem?_append]
  by_cases h1 : k < pre.length
  · simp [h1]
  · rw [if_neg h1, if_neg h1]
    by_cases h2 : k < pre.length + xs.length
    · rw [if_pos h2, if_pos (by omega)]
    · rw [if_neg h2, if_neg (by omega)]
theorem putCells_mid (pre xs sp : List Value) (d : Array α) (hd : d.size = xs.length) : putCells enc pre.length d (pre ++ xs ++ sp).toArray = (pre ++ d.toList.map enc ++ sp).toArray := by
  apply Array.ext_getElem?
  intro k
  unfold putCells
  rw [Array.getElem?_mapIdx]
  simp only [List.getElem?_toArray]
  rw [mid_get, mid_get]
  simp only [List.length_map, Array.length_toList]
  by_cases h1 : k < pre.length
  · rw [if_pos h1, if_pos h1, List.getElem?_eq_getElem h1]
    simp only [Option.map_some]
    rw [if_neg (by omega)]
  · rw [if_neg h1, if_neg h1]
    by_cases h2 : k < pre.length + d.size
    · rw [if_pos (by omega), if_pos h2, List.getElem?_eq_getElem (by omega : k - pre.length < xs.length)]
      simp only [Option.map_some]
      rw [if_pos (by omega), List.getElem?_map, Array.getElem?_toList, Array.getElem?_eq_getElem (by omega), Option.map_some, getElem!_pos d _ (by omega)]
    · rw [if_neg (by omega), if_neg h2, hd]
      cases sp[k - pre.length - xs.length]? with
      | none => rfl
      | some x => simp only [Option.map_some]; rw [if_neg (by omega)]
theorem putRow_at {b off : Nat} {cs : Array Value} {T : TypeId} {fr : Nat × Nat} {d : Array α} {n : Nat} {os : Array Obj} (h : w.heap[b]? = some (.cells cs T fr)) :
    (grow (putRow enc (Sort.ahead w n) b off d) os).heap[b]? = some (.cells (putCells enc off d cs) T fr) := by
  have hlt := (Array.getElem?_eq_some_iff.1 h).1
  unfold grow putRow mapBlock Sort.ahead
  show (w.heap.modify b (onCells (putCells enc off d)) ++ os)[b]? = _
  rw [Array.getElem?_append_left (by simpa using hlt), Array.getElem?_modify, if_pos rfl, h]
  rfl
theorem putRow_upd {b off : Nat} {d : Array α} {n : Nat} {os : Array Obj} : Upd (· = b) w (grow (putRow enc (Sort.ahead w n) b off d) os) := by
  refine ⟨?_, fun x hx hn => ?_, rfl, rfl, rfl⟩
  · show w.heap.size ≤ (w.heap.modify b (onCells (putCells enc off d)) ++ os).size
    simp
  · show (w.heap.modify b (onCells (putCells enc off d)) ++ os)[x]? = w.heap[x]?
    rw [Array.getElem?_append_left (by simpa using hx), Array.getElem?_modify, if_neg (fun h => hn h.symm)]
theorem putRow_upd0 {b off : Nat} {d : Array α} {n : Nat} : Upd (· = b) w (putRow enc (Sort.ahead w n) b off d) := by
  refine ⟨?_, fun x hx hn => ?_, rfl, rfl, rfl⟩
  · show w.heap.size ≤ (w.heap.modify b (onCells (putCells enc off d))).size
    simp
  · show (w.heap.modify b (onCells (putCells enc off d)))[x]? = w.heap[x]?
    rw [Array.getElem?_modify, if_neg (fun h => hn h.symm)]
theorem putRow_at0 {b off : Nat} {cs : Array Value} {T : TypeId} {fr : Nat × Nat} {d : Array α} {n : Nat} (h : w.heap[b]? = some (.cells cs T fr)) :
    (putRow enc (Sort.ahead w n) b off d).heap[b]? = some (.cells (putCells enc off d cs) T fr) := by
  show (w.heap.modify b (onCells (putCells enc off d)))[b]? = _
  rw [Array.getElem?_modify, if_pos rfl, h]
  rfl
/-- A slice's row, as the kit's contracts ask of it. -/
theorem SliceAt.holds {v : Value} {T : TypeId} {xs : List α} (h : SliceAt v T 1 (xs.map enc) w) : (v = .slice none 0 0 ∧ xs = []) ∨ ∃ b off cap, v = .slice (some ⟨b, off, none⟩) xs.length cap ∧ Holds enc w b off xs.toArray ∧ b < w.heap.size ∧ xs.length ≤ cap := by
  rcases h.ex with ⟨h1, h2⟩ | ⟨b, off, m, cap, pre, sp, fr, h1, h2, h3, h4, h5, h6, h7⟩
  · exact .inl ⟨h1, by simpa using h2⟩
  · simp only [List.length_map, Nat.mul_one] at h4
    subst h4
    refine .inr ⟨b, off, cap, h1, fun j hj => ?_, (Array.getElem?_eq_some_iff.1 h2).1, h6⟩
    simp only [List.size_toArray] at hj
    refine ⟨cell_of h2 ?_, ?_⟩
    · simp only [List.getElem?_toArray]
      rw [mid_get, if_neg (by omega), if_pos (by simp; omega), show off + j - pre.length = j by omega, List.getElem?_map, List.getElem?_eq_getElem hj, Option.map_some, getElem!_pos _ j (by simpa using hj)]
      simp
    · unfold World.frozen?
      simp only [h2, ocf]
      have := h7 (off + j) (by simp; omega)
      rw [Bool.and_eq_false_iff]
      by_cases h8 : fr.1 ≤ off + j
      · right; simp; omega
      · left; simp; omega
/-- The row holds other things: as long. -/
theorem hs_sortRow {v : Value} {T : TypeId} {b off n' cap k : Nat} {ys : List Value} {d : Array α} {os : Array Obj} (E : Hs w0 F w (slA v T 1 ys :: l)) (hv : v = .slice (some ⟨b, off, none⟩) n' cap) (hd : d.size = ys.length) :
    Hs w0 F (grow (putRow enc (Sort.ahead w k) b off d) os) (slA v T 1 (d.toList.map enc) :: l) := by
  subst hv
  have hs := E.sat _ List.mem_cons_self
  rcases hs.ex with ⟨h1, _⟩ | ⟨b', off', m, cap', pre, sp, fr, h1, h2, h3, h4, h5, h6, h7⟩
  · cases h1
  · cases h1
    refine E.set 0 rfl (putRow_upd.mono fun x hx hxb => ?_) ⟨.inr ⟨_, _, _, _, pre, sp, fr, rfl, ?_, h3, by simp; omega, by simp at h5 ⊢; omega, h6, by simpa [hd] using h7⟩⟩ fun x hx => .inl hx
    · subst hxb; rfl
    · rw [putRow_at h2, ← h3, putCells_mid _ _ _ _ hd]; rfl
/-- .. shorter: what is behind it is nobody's. -/
theorem hs_cutRow {v : Value} {T : TypeId} {b off n' cap k : Nat} {ys : List Value} {d tail : List α} (E : Hs w0 F w (slA v T 1 ys :: l)) (hv : v = .slice (some ⟨b, off, none⟩) n' cap) (hd : d.length + tail.length = ys.length) :
    Hs w0 F (putRow enc (Sort.ahead w k) b off (d ++ tail).toArray) (slA (.slice (some ⟨b, off, none⟩) d.length cap) T 1 (d.map enc) :: l) := by
  subst hv
  have hs := E.sat _ List.mem_cons_self
  rcases hs.ex with ⟨h1, _⟩ | ⟨b', off', m, cap', pre, sp, fr, h1, h2, h3, h4, h5, h6, h7⟩
  · cases h1
  · cases h1
    refine E.set 0 rfl (putRow_upd0.mono fun x hx hxb => ?_) ⟨.inr ⟨_, _, _, _, pre, tail.map enc ++ sp, fr, rfl, ?_, h3, by simp, by simp at h5 ⊢; omega, by simp at h4; omega, ?_⟩⟩ fun x hx => .inl hx
    · subst hxb; rfl
    · rw [putRow_at0 h2, ← h3, putCells_mid _ _ _ _ (by simpa using hd)]
      simp [ocf]
    · have : (pre ++ d.map enc ++ (tail.map enc ++ sp)).length = (pre ++ ys ++ sp).length := by simp; omega
      rw [this]; exact h7
end
end Go.Sh
