/-
  DeviceLines: the plain law of reading.
-/
import Derived.Test.YtdhieaifhlikpaaDoorDl2
namespace Go.Proofs.YtdhieaifhlikpaaDoor
open Go Go.Sh
set_option maxRecDepth 100000
set_option linter.unusedVariables false
set_option linter.unusedSimpArgs false

/-- A block that ends with its only line end. -/
def GB (b : ByteArray) : Prop := ∃ y, b.data.toList = y ++ [10] ∧ (10 : UInt8) ∉ y
theorem GB.pos {b : ByteArray} (h : GB b) : 1 ≤ b.size := by
  obtain ⟨y, h, -⟩ := h
  have : b.data.toList.length = b.size := rfl
  rw [h] at this; simp at this; omega
theorem ext_data (s : ByteArray) (a b : Nat) : (s.extract a b).data.toList = (s.data.toList.take b).drop a := by
  rw [Lib.extract_data]
  simp [List.drop_take]
theorem size_len (s : ByteArray) : s.data.toList.length = s.size := rfl
/-- What a read of good blocks gives. -/
theorem take_good {s : ByteArray} {r : List ByteArray} {count : Int} (h1 : 1 ≤ count) (hs : GB s) (hr : ∀ b ∈ r, GB b) :
    ∃ t bl, takeF count (s :: r) = (t, 0, bl) ∧ 1 ≤ t.size ∧ (t.size : Int) ≤ count ∧ (10 : UInt8) ∉ (t.extract 0 (t.size - 1)).data.toList ∧ t ++ cat bl = cat (s :: r) ∧ ∀ b ∈ bl, GB b := by
  have hp := hs.pos
  obtain ⟨y, hy, hn⟩ := hs
  have hsz := size_len s
  rw [hy] at hsz
  simp only [List.length_append, List.length_cons, List.length_nil] at hsz
  have h0 : count ≠ 0 := by omega
  simp only [takeF, if_neg h0]
  by_cases hle : (s.size : Int) ≤ count
  · rw [if_pos hle]
    refine ⟨s, r, rfl, hp, hle, ?_, rfl, hr⟩
    rw [ext_data, hy, List.drop_zero, ← hsz]
    simpa using hn
  · rw [if_neg hle]
    have hc : count.toNat ≤ y.length := by omega
    have e1 : (s.extract 0 count.toNat).data.toList = y.take count.toNat := by
      rw [ext_data, hy, List.drop_zero, List.take_append_of_le_length hc]
    have e2 : (s.extract count.toNat s.size).data.toList = y.drop count.toNat ++ [10] := by
      rw [ext_data, ← size_len s, List.take_length, hy, List.drop_append_of_le_length hc]
    have e3 : (s.extract 0 count.toNat).size = count.toNat := by
      rw [← size_len, e1, List.length_take]; omega
    refine ⟨_, _, rfl, by omega, by omega, ?_, ?_, ?_⟩
    · rw [ext_data, e1, List.drop_zero]
      exact fun h => hn (List.mem_of_mem_take (List.mem_of_mem_take h))
    · refine ba_ext ?_
      simp only [cat, ByteArray.data_append, Array.toList_append]
      rw [e1, e2, hy]
      simp only [← List.append_assoc, List.take_append_drop]
    · intro b hb
      rcases List.mem_cons.1 hb with rfl | hb
      · exact ⟨_, e2, fun h => hn (List.mem_of_mem_drop h)⟩
      · exact hr b hb
/-- The last line end of a text. -/
theorem last_end {s p rest : ByteArray} (hs : s = p ++ rest) (hr : (10 : UInt8) ∉ rest.data.toList) (hp : p.data.toList = [] ∨ ∃ y, p.data.toList = y ++ [10]) : Lib.lastIndexByte s 10 + 1 = p.size := by
  subst hs
  have hd : (p ++ rest).data.toList = p.data.toList ++ rest.data.toList := by simp
  generalize p ++ rest = s at hd
  have key : ∀ j, j < s.size → ((((s.data[j]!).toNat : Nat) : Int) = 10 ↔ s.data.toList[j]? = some 10) := by
    intro j hj
    have hj' : j < s.data.size := hj
    have e : s.data[j]! = s.data[j] := getElem!_pos s.data j hj'
    have e2 : s.data.toList[j]? = some s.data[j] := by rw [List.getElem?_eq_getElem (show j < s.data.toList.length from hj')]; rfl
    rw [e, e2]
    constructor
    · intro h
      congr 1
      exact UInt8.toNat_inj.1 (by show s.data[j].toNat = 10; omega)
    · intro h
      have : s.data[j] = 10 := Option.some.inj h
      rw [this]; rfl
  have hsz : s.size = p.size + rest.size := by rw [← size_len, hd, List.length_append, size_len, size_len]
  have hrest : ∀ j, p.size ≤ j → s.data.toList[j]? ≠ some 10 := by
    intro j hj he
    rw [hd, List.getElem?_append_right (by rw [size_len]; exact hj)] at he
    exact hr (List.mem_of_getElem? he)
  rcases Lib.lastIndexByte_spec s 10 with ⟨h1, h2⟩ | ⟨i, hi, h1, h2, h3⟩
  · rw [h1]
    rcases hp with hp | ⟨y, hp⟩
    · have : p.size = 0 := by rw [← size_len, hp]; rfl
      omega
    · have hps : p.size = y.length + 1 := by rw [← size_len, hp]; simp
      exfalso
      refine h2 y.length (by omega) ((key _ (by omega)).2 ?_)
      rw [hd, hp]; simp
  · rw [h1]
    have hi10 := (key i hi).1 h2
    rcases hp with hp | ⟨y, hp⟩
    · have : p.size = 0 := by rw [← size_len, hp]; rfl
      exact absurd hi10 (hrest i (by omega))
    · have hps : p.size = y.length + 1 := by rw [← size_len, hp]; simp
      have hlt : i < p.size := by
        rcases Nat.lt_or_ge i p.size with h | h
        · exact h
        · exact absurd hi10 (hrest i h)
      have hge : ¬ i < y.length := by
        intro h
        refine h3 y.length h (by omega) ((key _ (by omega)).2 ?_)
        rw [hd, hp]; simp
      omega
end Go.Proofs.YtdhieaifhlikpaaDoor
