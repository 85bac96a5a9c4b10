/-
  Trees: a new tree.
-/
import Derived.Test.YtnnhmahemklnkaaDoorTn1
namespace Go.Proofs.YtnnhmahemklnkaaDoor
open Go Go.Sh
set_option maxRecDepth 100000
set_option linter.unusedVariables false
set_option linter.unusedSimpArgs false
variable {w0 w : World} {F : Nat → Prop} {l : List As}

theorem BdS.zero {P : Program} {t e : TypeId} {k : Value → World → Prop} (E : Hs w0 F w l) (h1 : P.underlying t = some (.slice e)) (h2 : sizeK P e = some 1)
    (hk : ∀ v w', Hs w0 F w' (slA v e 1 [] :: l) → k v w') : Ef P (Instr.buildSlice t 0 #[]) w k := by
  refine ⟨.slice (some ⟨w.heap.size, 0, none⟩) 0 0, w.alloc (.cells #[] e), ?_, hk _ _ (E.add (Upd.alloc w _) ⟨.inr ⟨w.heap.size, 0, 0, 0, [], [], (0, 0), rfl, ?_, rfl, rfl, by simp, Nat.le_refl _, Free.zero _⟩⟩ fun b hb => ?_)⟩
  · have hr : Array.range 0 = #[] := rfl
    simp [Instr.buildSlice, run_underlying h1, run_sizeK h2, Instr.fill, newRow, run_newObj', hr]
  · rw [heap_alloc_new]; simp [ocf]
  · have hb : some w.heap.size = some b := hb
    cases hb; exact Nat.le_refl _
theorem s_string : sizeK PP Ty.string = some 1 := by kernel_rfl

theorem Clone_ok {v : Value} {us : List BA} (h : RdS w0 F l 1 us.length v (us.map str)) (hl : us.length ≤ 100000) (E : Hs w0 F w l) :
    Ca PP Fn.slices_Clone_sl_string_string #[v] w fun r w' => Hs w0 F w' (slA r Ty.string 1 (us.map str) :: l) := by
  refine S.slices_Clone_sl_string_string.calls ?_
  unfold S.slices_Clone_sl_string_string
  have h' := h
  obtain ⟨a, c, rfl, hc, -, hx⟩ := h'
  cases a with
  | none =>
    have h0 : us = [] := by
      rcases hx with h1 | ⟨p, h1, _⟩
      · simpa using h1
      · cases h1
    subst h0
    refine Eq.et u_sl_string rfl ?_
    (repeat first | (with_reducible first | refine Stp.go ?_ | refine StpE.go E ?_ | (refine StpW.go E ?_; clear E; intro w_ E) | (refine StpA.go E ?_; clear E; intro b_ w_ hb_ E) | refine LnL.nil ?_) | ((with_reducible refine Bi.dec true ?_ ?_); focus exact rfl) | ((with_reducible refine Bi.dec false ?_ ?_); focus exact rfl) | ((with_reducible refine Bi.sdec true ?_ ?_); focus decide) | ((with_reducible refine Bi.sdec false ?_ ?_); focus decide))
    exact Hs.nilSl E _ _
  | some a =>
    refine Eq.ef u_sl_string rfl ?_
    (repeat first | (with_reducible first | refine Stp.go ?_ | refine StpE.go E ?_ | (refine StpW.go E ?_; clear E; intro w_ E) | (refine StpA.go E ?_; clear E; intro b_ w_ hb_ E) | refine LnL.nil ?_) | ((with_reducible refine Bi.dec true ?_ ?_); focus exact rfl) | ((with_reducible refine Bi.dec false ?_ ?_); focus exact rfl) | ((with_reducible refine Bi.sdec true ?_ ?_); focus decide) | ((with_reducible refine Bi.sdec false ?_ ?_); focus decide))
    refine BdS.zero E u_sl_string s_string ?_
    clear E
    intro v1 w_ E
    refine Ap.one E (i := 0) rfl u_sl_string ⟨_, u_sl_string, fun _ h => by cases h⟩ e_string (RdS.src (h.cons _) E (strs_scal us)) rfl (by simp; omega) (by simp; omega) ?_
    clear E
    intro v2 w_ E
    (try simp only [List.set_cons_zero, List.set_cons_succ, List.cons_append, List.nil_append, Nat.zero_add, Nat.add_zero] at E)
    exact E

theorem getL_app {κ β : Type} [DecidableEq κ] (L M : List (κ × β)) (k : κ) : getL (L ++ M) k = (getL L k).or (getL M k) := by
  unfold getL
  rw [List.find?_append]
  cases L.find? fun p => decide (k = p.1) <;> rfl
abbrev t0V (gm fm om : Nat) : List Value := [.pointer none, .map (some fm), .map (some gm), i64 1, i64 0, .map (some om)]
theorem empty_ok {D : List Row} {v : Value} {gv : List (BA × Value)} {gs : Gs} (hg : GIn w0 F l v gv gs) (hn : (gs.map (·.1)).Nodup) (hgl : gs.length ≤ 16) (hul : ∀ g ∈ gs, g.2.length ≤ 16)
    (E : Hs w0 F w (Pool D :: l)) : Ca PP Fn.tree_empty #[v] w fun r w' => ∃ t fm gm om D' gr, r = ptr t ∧ (∀ x ∈ D, x ∈ D') ∧ GTie D' gr gs ∧
      Hs w0 F w' (pt t (oc (t0V gm fm om) Ty.tree_Tree) :: mp fm (.int .i64) [] :: mp gm .str (encM Value.string id gr) :: mp om (.int .i64) [] :: Pool D' :: l) := by
  refine S.tree_empty.calls ?_
  unfold S.tree_empty
  refine MkM.pt (kt := .int .i64) E ?_
  clear E
  intro fm w_ hfm E
  refine MkM.pt (kt := .str) E ?_
  clear E
  intro gm w_ hgm E
  refine MkM.pt (kt := .int .i64) E ?_
  clear E
  intro om w_ hom E
  (repeat first | (with_reducible first | refine Stp.go ?_ | refine StpE.go E ?_ | (refine StpW.go E ?_; clear E; intro w_ E) | (refine StpA.go E ?_; clear E; intro b_ w_ hb_ E) | refine LnL.nil ?_) | ((with_reducible refine Bi.dec true ?_ ?_); focus exact rfl) | ((with_reducible refine Bi.dec false ?_ ?_); focus exact rfl) | ((with_reducible refine Bi.sdec true ?_ ?_); focus decide) | ((with_reducible refine Bi.sdec false ?_ ?_); focus decide))
  (revert b_; intro t hbt E)
  refine hg.rd.len ?_
  refine ⟨fun l1 w1 => ∃ (i : Nat) (D' : List Row) (gr : List (BA × Value)), i ≤ gs.length ∧ l1 = [i64 i] ∧ (∀ x ∈ D, x ∈ D') ∧ GTie D' gr (gs.take i) ∧ gr.map (·.1) = (gs.take i).map (·.1) ∧
    Hs w0 F w1 (pt t (oc (t0V gm fm om) Ty.tree_Tree) :: mp fm (.int .i64) [] :: mp gm .str (encM Value.string id gr) :: mp om (.int .i64) [] :: Pool D' :: l), fun l1 _ => match l1 with | [.int _ i] => gs.length - i.toNat | _ => 0,
    ⟨0, D, [], Nat.zero_le _, rfl, fun _ h => h, fun _ => rfl, rfl, by (replace E := ((((E.bIx 1).bIx 2).bIx 3).bIx 3)); exact E⟩, ?_⟩
  clear E
  rintro t15 u w1 ⟨i, D', gr, hi, h1, hD, hgt, hkeys, E⟩
  cases h1
  refine Bi.lss ?_ ?_ <;> intro hlt <;> (repeat first | (with_reducible first | refine Stp.go ?_ | refine StpE.go E ?_ | (refine StpW.go E ?_; clear E; intro w_ E) | (refine StpA.go E ?_; clear E; intro b_ w_ hb_ E) | refine LnL.nil ?_) | ((with_reducible refine Bi.dec true ?_ ?_); focus exact rfl) | ((with_reducible refine Bi.dec false ?_ ?_); focus exact rfl) | ((with_reducible refine Bi.sdec true ?_ ?_); focus decide) | ((with_reducible refine Bi.sdec false ?_ ?_); focus decide))
  · have hx : gs[i]? = some gs[i] := List.getElem?_eq_getElem (by omega)
    have hy : gv[i]? = some (gv[i]'(by rw [hg.len]; omega)) := List.getElem?_eq_getElem (by rw [hg.len]; omega)
    obtain ⟨nm, uv, hgi⟩ : ∃ nm uv, gv[i]'(by rw [hg.len]; omega) = (nm, uv) := ⟨_, _, rfl⟩
    obtain ⟨us, hus⟩ : ∃ us, gs[i] = (nm, us) := ⟨gs[i].2, by have := (hg.one i _ _ hy hx).1; rw [hgi] at this; exact Prod.ext this.symm rfl⟩
    have hu := (hg.one i _ _ hy hx).2
    rw [hgi, hus] at hu
    rw [hus] at hx
    have hul1 : us.length ≤ 16 := hul (nm, us) (List.mem_of_getElem? hx)
    simp only [] at hu
    have tk : gs.take (i + 1) = gs.take i ++ [(nm, us)] := by rw [List.take_add_one, hx]; rfl
    refine (((((hg.rd.cons (Pool D')).cons (mp om (.int .i64) [])).cons (mp gm .str (encM Value.string id gr))).cons (mp fm (.int .i64) [])).cons (pt t (oc (t0V gm fm om) Ty.tree_Tree))).ix (by omega) (by omega) (by omega) ?_
    intro a ha
    rw [Int.toNat_natCast, flat_drop, List.drop_eq_getElem_cons (by rw [hg.len]; omega), hgi, List.flatMap_cons] at ha
    have hus2 := hu
    obtain ⟨p, c, huv, -⟩ := hus2
    refine ha.lda E (m := 2) (ds := [str nm, uv]) rfl rfl (by omega) ?_
    clear ha
    subst huv
    (repeat first | (with_reducible first | refine Stp.go ?_ | refine StpE.go E ?_ | (refine StpW.go E ?_; clear E; intro w_ E) | (refine StpA.go E ?_; clear E; intro b_ w_ hb_ E) | refine LnL.nil ?_) | ((with_reducible refine Bi.dec true ?_ ?_); focus exact rfl) | ((with_reducible refine Bi.dec false ?_ ?_); focus exact rfl) | ((with_reducible refine Bi.sdec true ?_ ?_); focus decide) | ((with_reducible refine Bi.sdec false ?_ ?_); focus decide))
    (revert b_; intro g hbg E)
    refine (Clone_ok (((((((hu.cons _).cons _).cons _).cons _).cons _).cons _)) (by omega) E).mono ?_
    clear E
    rintro r w_ E
    refine ⟨by (repeat first | (with_reducible first | refine Stp.go ?_ | refine StpE.go E ?_ | (refine StpW.go E ?_; clear E; intro w_ E) | (refine StpA.go E ?_; clear E; intro b_ w_ hb_ E) | refine LnL.nil ?_) | ((with_reducible refine Bi.dec true ?_ ?_); focus exact rfl) | ((with_reducible refine Bi.dec false ?_ ?_); focus exact rfl) | ((with_reducible refine Bi.sdec true ?_ ?_); focus decide) | ((with_reducible refine Bi.sdec false ?_ ?_); focus decide)); rfl, by (repeat first | (with_reducible first | refine Stp.go ?_ | refine StpE.go E ?_ | (refine StpW.go E ?_; clear E; intro w_ E) | (refine StpA.go E ?_; clear E; intro b_ w_ hb_ E) | refine LnL.nil ?_) | ((with_reducible refine Bi.dec true ?_ ?_); focus exact rfl) | ((with_reducible refine Bi.dec false ?_ ?_); focus exact rfl) | ((with_reducible refine Bi.sdec true ?_ ?_); focus decide) | ((with_reducible refine Bi.sdec false ?_ ?_); focus decide)); rfl, ?_⟩
    refine Mu.by E u_mgroups k_str rfl ?_
    clear E
    intro w_ E
    have hout : nm ∉ gr.map (·.1) := by
      rw [hkeys]
      intro hc
      have h1 : (gs.map (·.1)) = ((gs.take i).map (·.1)) ++ ((gs.drop i).map (·.1)) := by rw [← List.map_append, List.take_append_drop]
      rw [h1, List.nodup_append] at hn
      refine hn.2.2 nm hc nm ?_ rfl
      rw [List.drop_eq_getElem_cons (by omega), hus]
      exact List.mem_cons_self
    have he : aput (encM Value.string id gr) (str nm) r = encM Value.string id (gr ++ [(nm, r)]) := by rw [← putL_new hout]; exact aput_enc (ev := id) keyS _ _ _
    rw [he] at E
    refine Bi.add (by omega) ?_
    refine ⟨⟨i + 1, ⟨r, Ty.string, us.map str⟩ :: D', gr ++ [(nm, r)], by omega, by simp, fun x hx => List.mem_cons_of_mem _ (hD x hx), ?_, by rw [tk, List.map_append, List.map_append, hkeys]; rfl, ?_⟩, by simp only []; omega⟩
    · intro y
      have h2 := hgt y
      rw [tk, getL_app, getL_app]
      revert h2
      cases hq : getL (gs.take i) y with
      | some us2 =>
        simp only [Option.some_or]
        rintro ⟨h3, v2, h4, h5⟩
        exact ⟨h3, v2, by rw [h4]; rfl, h5.mono fun x hx => List.mem_cons_of_mem _ hx⟩
      | none =>
        simp only [Option.none_or]
        intro h2
        rw [h2]
        by_cases hy : y = nm
        · subst hy
          have e1 : getL [(y, us)] y = some us := by simp [getL]
          have e2 : getL [(y, r)] y = some r := by simp [getL]
          rw [e1, e2]
          exact ⟨hul1, r, rfl, .inr List.mem_cons_self⟩
        · have e1 : getL [(nm, us)] y = none := by simp [getL, hy]
          have e2 : getL [(nm, r)] y = none := by simp [getL, hy]
          rw [e1, e2]
          rfl
    · replace E := (E.bIx 1).tl
      (replace E := ((E.bIx 5).bIx 1))
      replace E := Hs.pool Ty.string E
      (replace E := (((((E.bIx 0).bIx 4).bIx 4).bIx 4).bIx 4))
      exact E
  · obtain rfl : i = gs.length := by omega
    rw [List.take_length] at hgt
    exact ⟨t, fm, gm, om, D', gr, rfl, hD, hgt, E⟩
end Go.Proofs.YtnnhmahemklnkaaDoor
