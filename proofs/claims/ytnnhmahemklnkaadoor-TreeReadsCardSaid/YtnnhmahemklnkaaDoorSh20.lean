/-
  The shallow layer, part 20: a view of a slice that is a piece; copies into it.
-/
import Derived.Test.YtnnhmahemklnkaaDoorSh19
namespace Go.Sh
open Go

/-- v' is what is left of v behind its first a elements (of one cell). -/
def Vw (v : Value) (a : Nat) (v' : Value) : Prop := ∃ b o n c, v = .slice (some ⟨b, o, none⟩) n c ∧ v' = .slice (some ⟨b, o + a, none⟩) (n - a) (c - a)
section
variable {P : Program} {w0 : World} {F : Nat → Prop} {w : World} {l : List As} {v x : Value} {T : TypeId} {xs : List Value}
theorem Sl.view {a : Nat} {kk : IntKind} {k : Value → Prop} (E : Hs w0 F w l) (hm : slA v T 1 xs ∈ l) (ha : a < xs.length) (hk : ∀ v', Vw v a v' → k v') : Sl 1 v (some (.int kk (a : Int))) none k := by
  rcases (show SliceAt v T 1 xs w from E.sat _ hm).ex with ⟨rfl, rfl⟩ | ⟨bl, off, len, cap, pre, sp, fr, rfl, h1, h2, h3, h4, h5, h6⟩
  · simp at ha
  · rw [Nat.mul_one] at h3
    refine ⟨some ⟨bl, off, none⟩, len, cap, a, len, rfl, ?_, ?_, by omega, by omega, ?_⟩
    · simp [bnd]
    · simp [bnd]
    · refine hk _ ⟨bl, off, len, cap, rfl, ?_⟩
      rw [if_neg (by omega)]
      simp only [Option.map_some, add_mk, Nat.mul_one]
theorem Cpy.sl {dT sT ty e T : TypeId} {n m a : Nat} {v' : Value} {ys : List Value} {k : Value → World → Prop} (E : Hs w0 F w (slA v T 1 xs :: l)) (hv' : Vw v a v') (h1 : P.underlying dT = some (.slice e)) (hs : sizeK P e = some 1)
    (hlen : (Builtin.lenOf x).run P w = .ok n w) (hm : m = min n (xs.length - a)) (hf : (Builtin.firstCells 1 m x).run P w = .ok ys.toArray w) (hy : ys.length = m) (hfit : a + m ≤ xs.length) (hvs : ys.all scalV = true)
    (hk : ∀ w', Hs w0 F w' (slA v T 1 (xs.take a ++ ys ++ xs.drop (a + m)) :: l) → k (.int .i64 m) w') : Ef P (Builtin.copy_ #[dT, sT] ty #[v', x]) w k := by
  obtain ⟨b0, o0, n0, c0, rfl, rfl⟩ := hv'
  rcases (show SliceAt _ T 1 xs w from E.sat _ List.mem_cons_self).ex with ⟨h, _⟩ | ⟨b, off, len, cap, pre, sp, fr, hv, g1, g2, g3, g4, g5, g6⟩
  · cases h
  simp only [Value.slice.injEq, Option.some.injEq, Addr.mk.injEq, and_true] at hv
  obtain ⟨⟨rfl, rfl⟩, rfl, rfl⟩ := hv
  rw [Nat.mul_one] at g3
  obtain ⟨w', r1, r2, r3⟩ := storeCells_run (P := P) (b := b0) (T := T) (fr := fr) (o0 + a) ys (pre ++ xs ++ sp) 0 w g1 g6 (by simp; omega) hvs
  refine ⟨.int .i64 m, w', ?_, hk _ ?_⟩
  · unfold sizeK at hs
    cases hq : P.info? e with
    | none => rw [hq] at hs; cases hs
    | some i =>
      rw [hq] at hs
      simp only [Option.map_some, Option.some.injEq] at hs
      have hm' : Nat.min n (n0 - a) = m := by rw [hm, g3]
      simp [Builtin.copy_, run_underlying h1, hlen, sizeOf, typeInfo, hq, hs, hm', hf, r1, goInt]
  · have e : setCs (pre ++ xs ++ sp) (o0 + a + 0) ys = pre ++ (xs.take a ++ ys ++ xs.drop (a + m)) ++ sp := by
      rw [Nat.add_zero, ← g2, setCs_mid _ _ _ _ _ (by omega), setCs_eq _ _ _ (by omega), hy]
    rw [e] at r2
    have hl : (xs.take a ++ ys ++ xs.drop (a + m)).length = xs.length := by simp; omega
    have := E.set 0 (A := slA (.slice (some ⟨b0, o0, none⟩) n0 c0) T 1 xs) (A' := slA (.slice (some ⟨b0, o0, none⟩) n0 c0) T 1 (xs.take a ++ ys ++ xs.drop (a + m))) rfl (r3.mono fun y _ hy => by rw [hy]; rfl)
      ⟨.inr ⟨b0, o0, n0, c0, pre, sp, fr, rfl, r2, g2, by rw [hl, Nat.mul_one]; exact g3, by rw [List.length_append, hl, ← List.length_append]; exact g4, g5, by
        have : (pre ++ (xs.take a ++ ys ++ xs.drop (a + m)) ++ sp).length = (pre ++ xs ++ sp).length := by simp only [List.length_append] at hl ⊢; omega
        rw [this]; exact g6⟩⟩ fun y hy => .inl hy
    simpa using this
end
end Go.Sh
