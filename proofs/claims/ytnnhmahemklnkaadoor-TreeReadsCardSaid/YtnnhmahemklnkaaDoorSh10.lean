/-
  The shallow layer, part 10: from a contract 'true, and no block that was there has turned' to a law's row; arguments that are slices, opened.
-/
import Derived.Test.YtnnhmahemklnkaaDoorSh9
import Derived.ProofKit
import Derived.OpenShut
import Derived.Carry
import Derived.SliceStrings
import Derived.Deep.Grids
namespace Go.Sh
open Go Go.ChangeShapes Go.WideShapes Go.RowKit

section
variable {w0 w : World} {l : List As}
/-- What is handed in: cells that are read alone. -/
def Rdl (w : World) (v : Value) (xs : List Value) : Prop := ∃ a c, v = .slice a xs.length c ∧ xs.length ≤ c ∧ (xs = [] ∨ ∃ b o, a = some ⟨b, o, none⟩ ∧ b < w.heap.size ∧ ∀ (j : Nat) x, xs[j]? = some x → w.cell? ⟨b, o + j, none⟩ = some x)
theorem LnL.rdl {w : World} {v : Value} {xs : List Value} {k : Value → Prop} (h : Rdl w v xs) (hk : k (.int .i64 xs.length)) : LnL v k := by
  obtain ⟨a, c, rfl, _⟩ := h; exact LnL.mk hk
theorem IxA.rdl {w : World} {v x : Value} {xs : List Value} {n : Int} {k : Value → Prop} (E : Hs w0 Emp w l) (h : Rdl w0 v xs) (h0 : 0 ≤ n) (hx : xs[n.toNat]? = some x)
    (hk : ∀ a : Addr, (∀ k : Value → Prop, k x → Ld (.pointer (some a)) w k) → k (.pointer (some a))) : IxA 1 v (.int .i64 n) k := by
  obtain ⟨a, c, rfl, hlc, h⟩ := h
  have hlt := (List.getElem?_eq_some_iff.1 hx).1
  rcases h with rfl | ⟨b, o, rfl, hb, hc⟩
  · simp at hlt
  refine ⟨⟨b, o, none⟩, xs.length, c, .i64, n, rfl, rfl, h0, by omega, hk _ ?_⟩
  intro k hk
  rw [Nat.mul_one, add_mk]
  exact Ld.was E (hc _ _ hx) (fun h => h) hk

end
section
variable {H : Type} {enc : TypeId × Value → H} {P : Program}
theorem Upd.below {w w' : World} (u : Upd Emp w w') : Below w.heap.size w w' := ⟨u.os, u.tape, u.out, u.size, fun k hk => u.same k hk fun h => h⟩
theorem Upd.ofBelow {w w' : World} (h : Below w.heap.size w w') : Upd Emp w w' := ⟨h.size, fun b hb _ => h.block b hb, h.tape, h.os, h.output⟩
theorem keptBut_of {w w' : World} (u : Upd Emp w w') (may : MemPlace → Prop) : w.keptBut w' may := by
  refine ⟨u.os, u.out, fun i hi => ?_⟩
  rw [u.same i hi fun h => h]
  cases w.heap[i]? with
  | none => rfl
  | some o => cases o <;> first | exact ⟨rfl, rfl, rfl, fun _ _ => rfl⟩ | exact .inr ⟨rfl, rfl⟩ | rfl
theorem frozen_of {w w' : World} (u : Upd Emp w w') {b off : Nat} (hb : b < w.heap.size) : w'.frozen? ⟨b, off, none⟩ = w.frozen? ⟨b, off, none⟩ := by
  unfold World.frozen?
  rw [u.same b hb fun h => h]
/-- The types that an argument's reading needs. -/
def readsB (P : Program) (ts : List TypeId) : Bool := laidOutB P && ts.all fun t => P.readableRec t && decide (t < P.types.size)
theorem trodAll_kept {W W' : World} (u : Upd Emp W W') (hl : laidOutB P = true) : ∀ {ts : List TypeId} {vs : List Value} {ds : List (DataW H)} {ps : List MemPlace}, (ts.all fun t => P.readableRec t && decide (t < P.types.size)) = true →
    DataW.TrodAll enc P W 0 (fun _ => true) true ts vs ds ps → (∀ p ∈ ps, p.block < W.heap.size) → ∀ sp : Nat → Bool, (∀ p ∈ ps, sp p.block = true) → DataW.TrodAll enc P W' 0 sp true ts vs ds ps
  | [], [], [], _, _, h, _, _, _ => h
  | t :: ts, v :: vs, d :: ds, _, ht, ⟨p, q, h1, h2, e⟩, hlt, sp, hs => by
    subst e
    simp only [List.all_cons, Bool.and_eq_true, decide_eq_true_eq] at ht
    refine ⟨p, q, WideElems.Trod_stays hl ht.1.1 ht.1.2 h1 (fun x hx => u.below.same (hlt x (List.mem_append_left _ hx))) (fun x hx => hs x (List.mem_append_left _ hx)), ?_, rfl⟩
    exact trodAll_kept u hl ht.2 h2 (fun x hx => hlt x (List.mem_append_right _ hx)) sp fun x hx => hs x (List.mem_append_right _ hx)
  | [], [], _ :: _, _, _, h, _, _, _ => h.elim
  | [], _ :: _, _, _, _, h, _, _, _ => h.elim
  | _ :: _, [], _, _, _, h, _, _, _ => h.elim
  | _ :: _, _ :: _, [], _, _, h, _, _, _ => h.elim
/-- What a law's row asks behind the call. -/
theorem lawPost {fn : Func} {s : ChangeSpec} {apart fresh handsOn again : Bool} {W W' : World} {args : Array Value} {ds gs : List (DataW H)} {before : List MemPlace} {tb : TypeId}
    (hW : DataW.Whole enc P fn.params.toList s.vars apart W args.toList ds gs before) (u : Upd Emp W W') (hr : readsB P fn.params.toList = true) (hvars : s.vars = []) (hres : fn.resultTypes = #[tb]) (hb : P.underlying tb = some .bool)
    (hspec : s.fn H (ds ++ gs) = { results := [.lit (.bool true)], args := ds }) : s.post enc P fn apart fresh handsOn again W args (.bool true) W' := by
  unfold readsB at hr
  simp only [Bool.and_eq_true] at hr
  have hlt := hW.lt
  have hW0 := hW
  obtain ⟨p, q, h1, h2, rfl, hz, hn⟩ := hW
  rw [hvars] at h2
  have hq : q = [] := by
    cases gs with
    | nil => exact h2
    | cons g gs => exact h2.elim
  subst hq
  rw [List.append_nil] at hlt hz hn
  have ha := trodAll_kept u hr.1 hr.2 h1 hlt
  have hR : ∀ (b : Nat) (sp : Nat → Bool) (hd : Bool), DataW.TrodAll enc P W' b sp hd fn.resultTypes.toList ((Value.bool true).resultList fn.resultTypes.size) (s.fn H (ds ++ gs)).results [] := by
    intro b sp hd
    rw [hres, hspec]
    exact trodAll_cons_mk (shut_bool hb _) trodAll_mk0
  have hV : ∀ sp : Nat → Bool, DataW.TrodVars enc P W' sp s.vars (s.fn H (ds ++ gs)).vars [] := by
    intro sp
    rw [hvars, hspec]
    exact rfl
  refine ⟨ds, gs, _, [], p, [], hW0, hR _ _ _, ?_, hV _, keptBut_of u _, fun _ => ⟨?_, ?_⟩⟩
  · rw [hspec]; exact ha _ fun x hx => by simpa using hlt x hx
  · exact ok_one hres rfl (okWide_bool_mk hb _)
  · refine ⟨_, _, ([] ++ p) ++ [], ⟨[] ++ p, [], trodAll_append (ha _ fun _ _ => rfl) (hR _ _ _), hV _, rfl, ?_, ?_⟩, ?_⟩
    · intro b off hp
      simp only [List.nil_append, List.append_nil] at hp
      rw [frozen_of u (b := b) (show b < _ from hlt _ hp)]
      exact hz b off hp
    · intro h
      simpa using hn h
    · intro x hx _
      simpa using hx

theorem spot_none {w : World} {a : Addr} {v : Value} (h : w.cell? a = some v) : a = ⟨a.block, a.off, none⟩ ∧ a.block < w.heap.size := by
  unfold World.cell? at h
  cases hb : w.heap[a.block]? with
  | none => rw [hb] at h; cases h
  | some o =>
    rw [hb] at h
    have hlt := (Array.getElem?_eq_some_iff.1 hb).1
    cases o with
    | cells c t fr =>
      simp only at h
      cases hs : a.spot with
      | none => exact ⟨by cases a; simp_all, hlt⟩
      | some n => rw [hs] at h; simp at h
    | _ => cases h
theorem rdl_of {W : World} {xs : List Value} {a : Addr} {len cap : Nat} (hl : len ≤ cap) (hlen : xs.length = len) (h : ∀ j, j < len → W.cell? (a.add j) = xs[j]?) : Rdl W (.slice (some a) len cap) xs := by
  refine ⟨some a, cap, by rw [hlen], by omega, ?_⟩
  by_cases h0 : xs = []
  · exact .inl h0
  · right
    have hpos : 0 < len := by
      rw [← hlen]; exact List.length_pos_iff.2 h0
    have hc := h 0 hpos
    have h00 : xs[0]? = some xs[0] := List.getElem?_eq_getElem (by omega)
    rw [h00] at hc
    obtain ⟨e, hb⟩ := spot_none (a := a) hc
    refine ⟨a.block, a.off, by rw [← e], hb, fun j x hx => ?_⟩
    have hj := (List.getElem?_eq_some_iff.1 hx).1
    have := h j (by omega)
    rw [hx, e, add_mk] at this
    exact this
theorem rdl_nil {W : World} : Rdl W (.slice none 0 0) [] := ⟨none, 0, rfl, Nat.le_refl _, .inl rfl⟩
/-- A []string that is handed in. -/
theorem rdl_strings {W : World} {base : Nat} {t e : TypeId} {v : Value} {d : DataW H} {ps : List MemPlace} (ht : P.underlying t = some (.slice e)) (he : P.underlying e = some .string) (hc : P.cellsOf e = 1)
    (hv : Value.okWide P W .any base t v) (h : DataW.Trod enc P W 0 (fun _ => true) true t v d ps) : ∃ texts : List ByteArray, Rdl W v (texts.map Value.string) ∧ ∀ x ∈ texts, x.size ≤ 9223372036854775807 := by
  obtain ⟨a0, n0, c0, rfl⟩ := okWide_slice ht hv
  obtain ⟨fuel, hf⟩ := h
  rcases open_strings ht he hc hf with ⟨hcs, -⟩ | ⟨a, len, cap, ss, hcs, -, hl, -, hz, -, hcell, hsz⟩
  · have : Value.slice a0 n0 c0 = .slice none 0 0 := by simpa [Value.cells] using hcs
    rw [this]
    exact ⟨[], rdl_nil, fun _ h => by cases h⟩
  · have : Value.slice a0 n0 c0 = .slice (some a) len cap := by simpa [Value.cells] using hcs
    rw [this]
    simp only [if_true] at hz
    refine ⟨ss.take len, rdl_of hl (by simp; omega) fun j hj => ?_, fun x hx => hsz x (List.mem_of_mem_take hx)⟩
    rw [hcell j (by omega), List.getElem?_map, List.getElem?_take, if_pos hj]
    have hjs : j < ss.length := by omega
    rw [List.getElem?_eq_getElem hjs]
    simp [List.getD, List.getElem?_eq_getElem hjs]
theorem rdl_bools {W : World} {base : Nat} {t e : TypeId} {v : Value} {d : DataW H} {ps : List MemPlace} (ht : P.underlying t = some (.slice e)) (he : P.underlying e = some .bool) (hc : P.cellsOf e = 1)
    (hv : Value.okWide P W .any base t v) (h : DataW.Trod enc P W 0 (fun _ => true) true t v d ps) : ∃ bs : List Bool, Rdl W v (bs.map Value.bool) := by
  obtain ⟨a0, n0, c0, rfl⟩ := okWide_slice ht hv
  obtain ⟨fuel, hf⟩ := h
  rcases Go.Deep.open_bools ht he hc hf with ⟨hcs, -⟩ | ⟨a, len, cap, B, hcs, -, hl, -, -, hcell⟩
  · have : Value.slice a0 n0 c0 = .slice none 0 0 := by simpa [Value.cells] using hcs
    rw [this]
    exact ⟨[], rdl_nil⟩
  · have : Value.slice a0 n0 c0 = .slice (some a) len cap := by simpa [Value.cells] using hcs
    rw [this]
    refine ⟨(List.range len).map B, rdl_of hl (by simp) fun j hj => ?_⟩
    rw [hcell j (by omega)]
    simp [hj]
end
end Go.Sh
