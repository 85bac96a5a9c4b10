/-
  Trees: a new tree.
-/
import Derived.Test.YtnnhmahemklnkaaDoorTn2
namespace Go.Proofs.YtnnhmahemklnkaaDoor
open Go Go.Sh
set_option maxRecDepth 100000
set_option linter.unusedVariables false
set_option linter.unusedSimpArgs false
variable {w0 w : World} {F : Nat → Prop} {l : List As}

abbrev rootN (owner : BA) : Nd := ⟨0, 0, 2147484157, 0, 0, emp, owner, owner, owner, emp⟩
def newT (owner : BA) (gs : Gs) : Tr := ⟨[rootN owner], 0, 1, gs, []⟩
theorem checkG_zero {gs : Gs} {names : List BA} (h : checkG gs names = 0) : gs.length ≤ 16 ∧ (∀ g ∈ gs, g.2.length ≤ 16) ∧ (∀ s ∈ names ++ gwords gs, goodName s = true) ∧ (gs.map (·.1)).Nodup := by
  unfold checkG at h
  split at h
  · cases h
  rename_i h1
  split at h
  · cases h
  rename_i h2
  split at h
  · cases h
  rename_i h3
  unfold glimit at h1
  simp only [Bool.or_eq_true, decide_eq_true_eq, List.any_eq_true, not_or, not_exists, not_and] at h1 h2 h3
  refine ⟨by omega, fun g hg => by have := h1.2 g hg; omega, fun s hs => by have := h2 s hs; simpa using this, ?_⟩
  have := h3.2
  unfold twice at this
  simpa using this
theorem root_dir : isD 2147484157 = true := by decide
theorem root_right : rightM 2147484157 = true := by decide
theorem newT_inv {owner : BA} {gs : Gs} (ho : goodName owner = true) : Inv (newT owner gs) := by
  have mm : ∀ {P : Nd → Prop}, P (rootN owner) → ∀ n ∈ (newT owner gs).ns, P n := by
    intro P h n hn
    rw [List.mem_singleton.1 hn]; exact h
  refine ⟨List.pairwise_singleton _ _, ⟨_, List.mem_singleton.2 rfl, rfl⟩, mm ⟨Int.le_refl _, by show (0 : Int) < 1; omega⟩, mm fun _ => ⟨root_dir, rfl⟩, mm fun h => absurd rfl h, mm fun _ _ h => absurd rfl h, mm fun h => absurd rfl h, ⟨fun _ => 0, mm fun h => absurd rfl h⟩,
    mm ⟨fun _ => rfl, Nat.zero_le _⟩, mm ⟨ho, ho, root_right, Int.le_refl _, Int.le_refl _⟩, List.Pairwise.nil, (fun _ h => by cases h), (fun _ h => by cases h), (fun _ h => by cases h), ⟨by show 1 ≤ 1024; omega, Nat.zero_le _⟩, Int.le_refl _, mm fun _ => rfl⟩
theorem New_ok {D : List Row} {v : Value} {gv : List (BA × Value)} {gs : Gs} {owner : BA} (hg : GIn w0 F l v gv gs) (hgl : gs.length ≤ 100000) (hul : ∀ g ∈ gs, g.2.length ≤ 100000) (hsz : ∀ s ∈ [owner] ++ gwords gs, s.size ≤ 9223372036854775807)
    (E : Hs w0 F w (Pool D :: l)) : Ca PP Fn.tree_New #[str owner, v] w fun r w' =>
      (checkG gs [owner] ≠ 0 ∧ r = .tuple #[.pointer none, i64 (checkG gs [owner])] ∧ Hs w0 F w' (Pool D :: l)) ∨
      (checkG gs [owner] = 0 ∧ ∃ D' X β, r = .tuple #[ptr X.t, i64 0] ∧ (∀ x ∈ D, x ∈ D') ∧ Tie D' X (newT owner gs) β ∧ Inv (newT owner gs) ∧ Hs w0 F w' (trA X :: Pool D' :: l)) := by
  refine S.tree_New.calls ?_
  unfold S.tree_New
  refine BdS.one E u_sl_string e_string rfl ?_
  clear E
  intro nv w_ E
  refine (check_ok (names := [owner]) (hg.weaken fun w E => E.tl) (by simp) hgl hul hsz E).mono ?_
  clear E
  rintro r w_ ⟨rfl, E⟩
  refine Bi.neq ?_ ?_ <;> intro hc <;> (repeat first | (with_reducible first | refine Stp.go ?_ | refine StpE.go E ?_ | (refine StpW.go E ?_; clear E; intro w_ E) | (refine StpA.go E ?_; clear E; intro b_ w_ hb_ E) | refine LnL.nil ?_) | ((with_reducible refine Bi.dec true ?_ ?_); focus exact rfl) | ((with_reducible refine Bi.dec false ?_ ?_); focus exact rfl) | ((with_reducible refine Bi.sdec true ?_ ?_); focus decide) | ((with_reducible refine Bi.sdec false ?_ ?_); focus decide))
  · exact .inl ⟨hc, rfl, E⟩
  obtain ⟨c1, c2, c3, c4⟩ := checkG_zero hc
  refine (empty_ok hg c4 c1 c2 E).mono ?_
  clear E
  rintro r w_ ⟨t, fm, gm, om, D', gr, rfl, hD, hgt, E⟩
  refine MkM.pt (kt := .str) E ?_
  clear E
  intro kb w_ hkb E
  (repeat first | (with_reducible first | refine Stp.go ?_ | refine StpE.go E ?_ | (refine StpW.go E ?_; clear E; intro w_ E) | (refine StpA.go E ?_; clear E; intro b_ w_ hb_ E) | refine LnL.nil ?_) | ((with_reducible refine Bi.dec true ?_ ?_); focus exact rfl) | ((with_reducible refine Bi.dec false ?_ ?_); focus exact rfl) | ((with_reducible refine Bi.sdec true ?_ ?_); focus decide) | ((with_reducible refine Bi.sdec false ?_ ?_); focus decide))
  (revert b_; intro nb hbnb E)
  have E2 : Hs w0 F w_ (nd nb ⟨0, 0, 0, 0, 0, 0, emp, owner, owner, owner, .slice none 0 0, some kb, none, false⟩ :: mp kb .str [] :: pt t (oc [ptr nb, .map (some fm), .map (some gm), i64 1, i64 0, .map (some om)] Ty.tree_Tree) :: mp fm (.int .i64) [] :: mp gm .str (encM Value.string id gr) :: mp om (.int .i64) [] :: Pool D' :: l) := E
  clear E
  refine (is_ok E2).mono ?_
  clear E2
  rintro r w_ E
  (repeat first | (with_reducible first | refine Stp.go ?_ | refine StpE.go E ?_ | (refine StpW.go E ?_; clear E; intro w_ E) | (refine StpA.go E ?_; clear E; intro b_ w_ hb_ E) | refine LnL.nil ?_) | ((with_reducible refine Bi.dec true ?_ ?_); focus exact rfl) | ((with_reducible refine Bi.dec false ?_ ?_); focus exact rfl) | ((with_reducible refine Bi.sdec true ?_ ?_); focus decide) | ((with_reducible refine Bi.sdec false ?_ ?_); focus decide))
  refine Mu.by E u_mfiles k_i64 rfl ?_
  clear E
  intro w_ E
  obtain ⟨X, hX⟩ : ∃ X : PT, X = ⟨t, nb, fm, gm, om, 1, 0, [⟨rootN owner, nb, 0, .slice none 0 0, kb, [], none⟩], [], [(0, nb)], gr, []⟩ := ⟨_, rfl⟩
  refine .inr ⟨hc, D', X, fun _ => nb, by rw [hX], hD, ?_, newT_inv (c3 owner (by simp)), ?_⟩
  · rw [hX]
    refine ⟨List.Perm.refl _, rfl, rfl, ?_, ?_, ?_, List.Perm.refl _, ⟨_, List.mem_singleton.2 rfl, rfl, rfl⟩, hgt, ?_, List.Perm.refl _, fun x h => by cases h⟩
    · intro n hn
      rw [List.mem_singleton.1 hn]
      exact .inl ⟨rfl, _, _, rfl⟩
    · intro n hn
      rw [List.mem_singleton.1 hn]
      exact ⟨fun _ => rfl, fun h => absurd rfl h⟩
    · intro n hn
      rw [List.mem_singleton.1 hn]
      exact List.Perm.refl _
    · intro n hn
      rw [List.mem_singleton.1 hn]
  · obtain ⟨qn, hqn⟩ : ∃ qn : PN, qn = ⟨rootN owner, nb, 0, .slice none 0 0, kb, [], none⟩ := ⟨_, rfl⟩
    have hmn : qn.mn = ⟨kindOf 2147484157, 0, 0, 2147484157, 0, 0, emp, owner, owner, owner, .slice none 0 0, some kb, none, false⟩ := by
      rw [hqn]
      show MN.mk _ _ _ _ _ _ _ _ _ _ _ (if isD 2147484157 = true then some kb else none) _ _ = _
      rw [if_pos root_dir]
    have hdir : qn.f.dir = true := by rw [hqn]; exact root_dir
    have E2 : Hs w0 F w_ (nd qn.blk qn.mn :: mp qn.kb .str qn.kM :: tb X :: mp X.fm (.int .i64) X.fM :: mp X.gm .str X.gM :: mp X.om (.int .i64) X.oM :: Pool D' :: l) := by
      rw [hmn, hX, hqn]; exact E
    replace E2 := Hs.closeK hdir (E2.bIx 1)
    have E := Hs.starNil (Hs.starNil E2)
    (replace E := ((((((((E.bIx 1).bIx 1).bIx 2).bIx 3).bIx 7).bIx 7).bIx 7).bIx 7))
    exact Hs.closeTN X qn (rs := []) (by rw [hX, hqn]) (by rw [hX] at E ⊢; exact E)
end Go.Proofs.YtnnhmahemklnkaaDoor
