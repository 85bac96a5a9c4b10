/-
  The protocol: slices of Dirs, of messages and of small numbers that are handed in, opened.
-/
import Derived.Test.YtmlccboapkkcfaaDoorSx32
namespace Go.Sh
open Go Go.ChangeShapes Go.WideShapes
section
variable {P : Program} {H : Type} {enc : TypeId × Value → H} {W : World}
theorem weights_slice {t e : TypeId} (ht : P.underlying t = some (.slice e)) {es rs : List (DataW H)} {d : DataW H} {n : Nat} (hd : d ∈ es) (hn : n ∈ d.weights P e) : n ∈ (DataW.slice es rs).weights P t := by
  unfold DataW.weights
  rw [ht]
  exact List.mem_cons_of_mem _ (List.mem_append_left _ (weightsAll_mem hd hn))
theorem rows_open {α : Type} {t e : TypeId} {sz : Nat} {f : α → List Value} {Q : α → DataW H → Prop} {v : Value} {fuel : Nat} {x : DataW H × List MemPlace} (ht : P.underlying t = some (.slice e)) (hsz : P.cellsOf e = sz) (hpos : 0 < sz) (hfl : ∀ d, (f d).length = sz)
    (step : ∀ (fuel : Nat) (cs : List Value) (x : DataW H × List MemPlace), DataW.trod enc P W 0 (fun _ => true) true fuel e cs = some x → ∃ d, cs = f d ∧ Q d x.1)
    (hf : DataW.trod enc P W 0 (fun _ => true) true fuel t [v] = some x) : ∃ ds : List α, RdlA W v sz ds.length (ds.flatMap f) ∧ ∀ d ∈ ds, ∃ y, Q d y ∧ ∀ n ∈ y.weights P e, n ∈ x.1.weights P t := by
  rcases DataW.trod_slice ht hf with ⟨hcs, -⟩ | ⟨a, len, cap, elems, rest, n, -, hcs, hx1, -, hle, hmx, hlen, hel, -, -⟩
  · have : v = .slice none 0 0 := by simpa using hcs
    rw [this]
    exact ⟨[], ⟨none, 0, rfl, Nat.le_refl _, Nat.zero_le _, by simp, .inl rfl⟩, fun _ h => by cases h⟩
  · have : v = .slice (some a) len cap := by simpa using hcs
    rw [this]
    rw [hsz] at hel
    have each : ∀ i : Fin len, ∃ d : α, ∃ y, y ∈ elems.map (·.1) ∧ Q d y ∧ ∀ k, k < sz → W.cell? (a.add (i.1 * sz + k)) = (f d)[k]? := by
      rintro ⟨i, hi⟩
      have h1 := hel i hi
      rw [List.getElem?_eq_getElem (show i < elems.length by omega), Option.bind_eq_some_iff] at h1
      obtain ⟨r, hr, hx⟩ := h1
      obtain ⟨-, h2, h3⟩ := World.cells?_some hr
      obtain ⟨d, rfl, hq⟩ := step _ _ _ hx
      refine ⟨d, _, List.mem_map_of_mem (List.getElem_mem _), hq, fun k hk => ?_⟩
      have := h3 k hk
      have e : (a.add (i * sz)).add k = a.add (i * sz + k) := by
        generalize i * sz = m
        unfold Addr.add
        by_cases h1 : m = 0 <;> by_cases h2 : k = 0 <;> simp [h1, h2, Nat.add_assoc]
      rwa [e] at this
    obtain ⟨g, hg⟩ : ∃ g : Fin len → α, ∀ i, ∃ y, y ∈ elems.map (·.1) ∧ Q (g i) y ∧ ∀ k, k < sz → W.cell? (a.add (i.1 * sz + k)) = (f (g i))[k]? := ⟨fun i => (each i).choose, fun i => (each i).choose_spec⟩
    refine ⟨List.ofFn g, ?_, ?_⟩
    · rw [List.length_ofFn]
      have hrl : ∀ r ∈ (List.ofFn g).map f, r.length = sz := by
        intro r hr
        obtain ⟨i, _, rfl⟩ := List.mem_map.1 hr
        exact hfl _
      rw [List.flatMap_def]
      refine ⟨some a, cap, rfl, hle, Nat.le_trans hle hmx, by rw [flat_len hrl, List.length_map, List.length_ofFn], ?_⟩
      by_cases h0 : len = 0
      · left; subst h0; simp
      right
      obtain ⟨y0, -, -, hc0⟩ := hg ⟨0, by omega⟩
      have hc0 := hc0 0 hpos
      have hl0 := hfl (g ⟨0, by omega⟩)
      rw [List.getElem?_eq_getElem (show 0 < (f (g ⟨0, by omega⟩)).length by omega)] at hc0
      obtain ⟨ea, hb⟩ := spot_none hc0
      have e0 : a.add (0 * sz + 0) = a := by cases a; simp [Addr.add]
      rw [show a.add ((⟨0, by omega⟩ : Fin len).1 * sz + 0) = a from e0] at ea hb
      refine ⟨a.block, a.off, by rw [← ea], hb, fun j x hx => ?_⟩
      obtain ⟨i, k, r, h1, h2, h3, h4⟩ := flat_get hrl hx
      rw [List.getElem?_map] at h1
      obtain ⟨i', hi', rfl⟩ := Option.map_eq_some_iff.1 h1
      obtain ⟨hi2, hi3⟩ := List.getElem?_eq_some_iff.1 hi'
      rw [List.length_ofFn] at hi2
      rw [List.getElem_ofFn] at hi3
      obtain ⟨-, -, -, h6⟩ := hg ⟨i, hi2⟩
      have := h6 k h2
      rw [hi3, h4, ← h3, ea, add_mk] at this
      exact this
    · intro d hd
      obtain ⟨i, rfl⟩ := List.mem_ofFn.1 hd
      obtain ⟨y, hy, hq, -⟩ := hg i
      refine ⟨y, hq, fun n hn => ?_⟩
      rw [hx1]
      exact weights_slice ht hy hn
end
end Go.Sh
namespace Go.Proofs.YtmlccboapkkcfaaDoor
open Go Go.Sh
set_option maxRecDepth 100000
set_option linter.unusedVariables false
set_option linter.unusedSimpArgs false
variable {H : Type} {enc : TypeId × Value → H} {W : World}
theorem u_dirs : PP.underlying Ty.sl_api_Dir = some (.slice Ty.api_Dir) := by kernel_rfl
theorem open_dirs {v : Value} {d : DataW H} {ps : List MemPlace} (hs : ∃ a n c, v = .slice a n c) (h : DataW.Trod enc PP W 0 (fun _ => true) true Ty.sl_api_Dir v d ps) (hw : ∀ n ∈ d.weights PP Ty.sl_api_Dir, n ≤ reachBytes) :
    ∃ ds : List Di, (∀ d ∈ ds, d.Ok ∧ DB d) ∧ ∀ l, RdS W Emp l 10 ds.length v (dqs ds) := by
  obtain ⟨a0, n0, c0, rfl⟩ := hs
  obtain ⟨fuel, hf⟩ := h
  obtain ⟨ds, h1, h2⟩ := rows_open (v := .slice a0 n0 c0) (sz := 10) (f := dcs) (Q := fun (d : Di) (y : DataW H) => d.Ok ∧ ∀ s, s = d.name ∨ s = d.owner ∨ s = d.group ∨ s = d.last → s.length ∈ y.weights PP Ty.api_Dir) u_dirs c_Dir (by decide) (fun _ => rfl) (fun _ _ _ h => by
    obtain ⟨d, e1, e2, e3⟩ := open_dir h
    exact ⟨d, e1, e2, e3⟩) hf
  refine ⟨ds, fun d hd => ?_, fun l => RdS.oldA h1 fun b h => h⟩
  obtain ⟨y, ⟨ok, hy⟩, hn⟩ := h2 d hd
  have wt : ∀ s, s = d.name ∨ s = d.owner ∨ s = d.group ∨ s = d.last → s.length ≤ 140737488355328 := by
    intro s hs
    have := hw _ (hn _ (hy s hs))
    unfold reachBytes at this
    omega
  exact ⟨ok, ⟨wt _ (.inl rfl), wt _ (.inr (.inl rfl)), wt _ (.inr (.inr (.inl rfl))), wt _ (.inr (.inr (.inr rfl)))⟩⟩
end Go.Proofs.YtmlccboapkkcfaaDoor
