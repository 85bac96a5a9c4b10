/-
  Trees, plain: how far the numbers of a tree grow in one operation.
-/
import Derived.Test.YtnnhmahemklnkaaDoorTi1
namespace Go.Proofs.YtnnhmahemklnkaaDoor
open Go Go.Sh
set_option maxRecDepth 100000
set_option linter.unusedVariables false
set_option linter.unusedSimpArgs false
variable {T : Tr} {N : Int}

theorem Lim.mono {M : Int} (h : Lim N T) (hm : N ≤ M) : Lim M T := ⟨by have := h.clock; omega, by have := h.next; omega, fun n hn => by have := h.vers n hn; omega⟩
theorem Lim.tick (h : Lim N T) : Lim (N + 1) T.tick := ⟨by have := h.clock; show T.clock + 1 ≤ N + 1; omega, by have := h.next; show T.next ≤ N + 1; omega, fun n hn => by have := h.vers n hn; omega⟩
theorem Lim.updV (h : Lim N T) {p : Int} {f : Nd → Nd} (hf : ∀ n, (f n).vers ≤ n.vers + 1) : Lim (N + 1) (T.upd p f) := ⟨by have := h.clock; show T.clock ≤ N + 1; omega, by have := h.next; show T.next ≤ N + 1; omega, fun n hn => by
  obtain ⟨m, hm, rfl⟩ := updN_mem hn
  have := h.vers m hm
  have := hf m
  split <;> omega⟩
theorem Lim.upd0 (h : Lim N T) {p : Int} {f : Nd → Nd} (hf : ∀ n, (f n).vers = n.vers) : Lim N (T.upd p f) := ⟨h.clock, h.next, fun n hn => by
  obtain ⟨m, hm, rfl⟩ := updN_mem hn
  have := h.vers m hm
  have := hf m
  split <;> omega⟩
theorem Lim.change1 (h : Lim N T) (user : BA) (p : Int) : Lim (N + 2) (T.change user [p]) := by
  have := (h.tick).updV (p := p) (f := touchN T.tick.clock user) (fun n => by show n.vers + 1 ≤ n.vers + 1; omega)
  exact this.mono (by omega)
theorem Lim.change2 (h : Lim N T) (user : BA) (p q : Int) : Lim (N + 3) (T.change user [p, q]) := by
  have := ((h.tick).updV (p := p) (f := touchN T.tick.clock user) (fun n => by show n.vers + 1 ≤ n.vers + 1; omega)).updV (p := q) (f := touchN T.tick.clock user) (fun n => by show n.vers + 1 ≤ n.vers + 1; omega)
  exact this.mono (by omega)
theorem Lim.hold (h : Lim N T) (x : Hd) : Lim N (T.hold x).1 := ⟨h.clock, h.next, h.vers⟩
theorem write_lim (h : Lim N T) (hd off : Int) (d : BA) : Lim (N + 3) (T.write hd off d).1 := by
  have h3 := h.mono (M := N + 3) (by omega)
  unfold Tr.write
  split
  · exact h3
  split
  · exact h3
  split
  · exact h3
  split
  · exact h3
  split
  · exact h3
  simp only []
  generalize (if andI _ 1073741824 ≠ 0 then _ else off) = at_
  split
  · exact h3
  · exact ((h.change1 _ _).upd0 (by intro n; rfl)).mono (by omega)
theorem open_lim (h : Lim N T) (user : BA) (file mode : Int) : Lim (N + 3) (T.openF user file mode).1 := by
  have h3 := h.mono (M := N + 3) (by omega)
  unfold Tr.openF
  split
  · exact h3
  split
  · exact h3
  split
  · exact h3
  split
  · exact h3
  split
  · exact h3
  split
  · exact h3
  simp only []
  refine Lim.hold ?_ _
  split
  · exact ((h.change1 _ _).upd0 (by intro n; rfl)).mono (by omega)
  · exact h3
theorem create_lim (h : Lim N T) (h0 : 0 ≤ N) (user : BA) (dir : Int) (name : BA) (perm mode : Int) : Lim (N + 3) (T.create user dir name perm mode).1 := by
  have h3 := h.mono (M := N + 3) (by omega)
  unfold Tr.create
  split
  · exact h3
  split
  · exact h3
  split
  · exact h3
  split
  · exact h3
  split
  · exact h3
  split
  · exact h3
  split
  · exact h3
  simp only []
  refine Lim.hold ?_ _
  have h2 := h.change1 user dir
  refine ⟨by have := h2.clock; show (T.change user [dir]).clock ≤ N + 3; omega, by have := h.next; show T.next + 1 ≤ N + 3; omega, fun n hn => ?_⟩
  have hn : n ∈ (T.change user [dir]).ns ++ [_] := hn
  rcases List.mem_append.1 hn with hn | hn
  · have := h2.vers n hn; omega
  · rw [List.mem_singleton.1 hn]; show (0 : Int) ≤ N + 3; omega
theorem drop_lim (h : Lim N T) (user : BA) (n : Nd) : Lim (N + 2) (T.drop user n) :=
  Lim.change1 (T := { T with ns := T.ns.filter fun x => decide (x.path ≠ n.path) }) ⟨h.clock, h.next, fun m hm => h.vers m (List.mem_filter.1 hm).1⟩ user n.up
theorem close_lim (h : Lim N T) (hd : Int) : Lim (N + 3) (T.close hd).1 := by
  have h3 := h.mono (M := N + 3) (by omega)
  have hh : Lim N { T with hs := delL T.hs hd } := ⟨h.clock, h.next, h.vers⟩
  unfold Tr.close
  split
  · exact h3
  simp only []
  split
  · split
    · exact (drop_lim hh _ _).mono (by omega)
    · exact hh.mono (by omega)
  · exact hh.mono (by omega)
theorem remove_lim (h : Lim N T) (user : BA) (file : Int) : Lim (N + 3) (T.remove user file).1 := by
  have h3 := h.mono (M := N + 3) (by omega)
  unfold Tr.remove
  split
  · exact h3
  split
  · exact h3
  split
  · exact h3
  split
  · exact h3
  · exact (drop_lim h _ _).mono (by omega)
theorem wstat_lim (h : Lim N T) (user : BA) (file : Int) (d : Dr) : Lim (N + 3) (T.wstat user file d).1 := by
  have h3 := h.mono (M := N + 3) (by omega)
  unfold Tr.wstat
  split
  · exact h3
  simp only []
  split
  · exact h3
  split
  · exact h3
  split
  · exact h3
  split
  · exact h3
  split
  · exact h3
  split
  · exact h3
  split
  · exact h3
  split
  · exact h3
  refine Lim.upd0 ?_ fun n => rfl
  split
  · exact h.change2 _ _ _
  · exact (h.change1 _ _).mono (by omega)
theorem newT_lim (owner : BA) (gs : Gs) : Lim 1 (newT owner gs) := ⟨by show (0 : Int) ≤ 1; omega, Int.le_refl _, fun n hn => by
  rw [List.mem_singleton.1 hn]; show (0 : Int) ≤ 1; omega⟩
end Go.Proofs.YtnnhmahemklnkaaDoor
