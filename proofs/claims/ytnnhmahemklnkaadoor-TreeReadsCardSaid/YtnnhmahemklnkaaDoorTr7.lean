/-
  Trees: directories found; files in them; modes of new files.
-/
import Derived.Test.YtnnhmahemklnkaaDoorTs4
namespace Go.Proofs.YtnnhmahemklnkaaDoor
open Go Go.Sh
set_option maxRecDepth 100000
set_option linter.unusedVariables false
set_option linter.unusedSimpArgs false
variable {w0 w : World} {F : Nat → Prop} {l : List As}
variable {D : List Row} {X : PT} {T : Tr} {β : Int → Nat}

theorem folder_ok (h : Tie D X T β) (hi : Inv T) {p : Int} (E : Hs w0 F w (trA X :: l)) : Ca PP Fn.tree_Tree_folder #[ptr X.t, i64 p] w fun r w' => Hs w0 F w' (trA X :: l) ∧
    ((T.get p = none ∧ r = .tuple #[.pointer none, i64 4]) ∨ ∃ n rs, X.ps.Perm (n :: rs) ∧ n ∈ X.ps ∧ n.f.path = p ∧ T.get p = some n.f ∧
      ((n.f.dir = false ∧ r = .tuple #[.pointer none, i64 18]) ∨ (n.f.dir = true ∧ r = .tuple #[ptr n.blk, i64 0]))) := by
  refine S.tree_Tree_folder.calls ?_
  unfold S.tree_Tree_folder
  rcases h.find hi p with ⟨h1, h2⟩ | ⟨n, rs, hpm, hn, hpath, h1, h2⟩
  · replace E := Hs.openT E
    refine (find_ok E).mono ?_
    clear E
    rintro r w_ ⟨rfl, E⟩
    rw [h2]
    unfold findV
    (repeat first | (with_reducible first | refine Stp.go ?_ | refine StpE.go E ?_ | (refine StpW.go E ?_; clear E; intro w_ E) | (refine StpA.go E ?_; clear E; intro b_ w_ hb_ E) | (apply hJ5; intro u_) | refine LnL.nil ?_) | ((with_reducible refine Bi.dec true ?_ ?_); focus exact rfl) | ((with_reducible refine Bi.dec false ?_ ?_); focus exact rfl) | ((with_reducible refine Bi.sdec true ?_ ?_); focus decide) | ((with_reducible refine Bi.sdec false ?_ ?_); focus decide))
    (intro J5 hJ5)
    (repeat first | (with_reducible first | refine Stp.go ?_ | refine StpE.go E ?_ | (refine StpW.go E ?_; clear E; intro w_ E) | (refine StpA.go E ?_; clear E; intro b_ w_ hb_ E) | (apply hJ5; intro u_) | refine LnL.nil ?_) | ((with_reducible refine Bi.dec true ?_ ?_); focus exact rfl) | ((with_reducible refine Bi.dec false ?_ ?_); focus exact rfl) | ((with_reducible refine Bi.sdec true ?_ ?_); focus decide) | ((with_reducible refine Bi.sdec false ?_ ?_); focus decide))
    exact ⟨Hs.closeT X E, .inl ⟨h1, rfl⟩⟩
  · replace E := Hs.openTN hpm E
    refine (find_ok E).mono ?_
    clear E
    rintro r w_ ⟨rfl, E⟩
    rw [h2]
    unfold findV
    (repeat first | (with_reducible first | refine Stp.go ?_ | refine StpE.go E ?_ | (refine StpW.go E ?_; clear E; intro w_ E) | (refine StpA.go E ?_; clear E; intro b_ w_ hb_ E) | (apply hJ5; intro u_) | refine LnL.nil ?_) | ((with_reducible refine Bi.dec true ?_ ?_); focus exact rfl) | ((with_reducible refine Bi.dec false ?_ ?_); focus exact rfl) | ((with_reducible refine Bi.sdec true ?_ ?_); focus decide) | ((with_reducible refine Bi.sdec false ?_ ?_); focus decide))
    (intro J5 hJ5)
    (repeat first | (with_reducible first | refine Stp.go ?_ | refine StpE.go E ?_ | (refine StpW.go E ?_; clear E; intro w_ E) | (refine StpA.go E ?_; clear E; intro b_ w_ hb_ E) | (apply hJ5; intro u_) | refine LnL.nil ?_) | ((with_reducible refine Bi.dec true ?_ ?_); focus exact rfl) | ((with_reducible refine Bi.dec false ?_ ?_); focus exact rfl) | ((with_reducible refine Bi.sdec true ?_ ?_); focus decide) | ((with_reducible refine Bi.sdec false ?_ ?_); focus decide))
    refine (isDir_ok (m := n.mn) E).mono ?_
    clear E
    rintro r w_ ⟨rfl, E⟩
    cases hd : isD n.mn.mode with
    | true =>
      (repeat first | (with_reducible first | refine Stp.go ?_ | refine StpE.go E ?_ | (refine StpW.go E ?_; clear E; intro w_ E) | (refine StpA.go E ?_; clear E; intro b_ w_ hb_ E) | (apply hJ5; intro u_) | refine LnL.nil ?_) | ((with_reducible refine Bi.dec true ?_ ?_); focus exact rfl) | ((with_reducible refine Bi.dec false ?_ ?_); focus exact rfl) | ((with_reducible refine Bi.sdec true ?_ ?_); focus decide) | ((with_reducible refine Bi.sdec false ?_ ?_); focus decide))
      exact ⟨Hs.closeTN X n hpm E, .inr ⟨n, rs, hpm, hn, hpath, h1, .inr ⟨hd, rfl⟩⟩⟩
    | false =>
      (repeat first | (with_reducible first | refine Stp.go ?_ | refine StpE.go E ?_ | (refine StpW.go E ?_; clear E; intro w_ E) | (refine StpA.go E ?_; clear E; intro b_ w_ hb_ E) | (apply hJ5; intro u_) | refine LnL.nil ?_) | ((with_reducible refine Bi.dec true ?_ ?_); focus exact rfl) | ((with_reducible refine Bi.dec false ?_ ?_); focus exact rfl) | ((with_reducible refine Bi.sdec true ?_ ?_); focus decide) | ((with_reducible refine Bi.sdec false ?_ ?_); focus decide))
      exact ⟨Hs.closeTN X n hpm E, .inr ⟨n, rs, hpm, hn, hpath, h1, .inl ⟨hd, rfl⟩⟩⟩

theorem Tie.klN (h : Tie D X T β) (hi : Inv T) (p : Int) : (((X.ps.filter fun k => Tr.isKid p k.f).map fun k => (k.f.name, k.blk)).map (·.1)).Nodup := by
  rw [List.map_map, List.Nodup, List.pairwise_map]
  have hn : X.ps.Pairwise fun a b => a.f.path ≠ b.f.path := by
    have := (h.ns.map (·.path)).nodup_iff.2 hi.nodup
    rw [List.map_map, List.Nodup, List.pairwise_map] at this
    exact this
  refine (hn.filter _).imp_of_mem fun {a b} ha hb hab => ?_
  have h1 := List.mem_filter.1 ha
  have h2 := List.mem_filter.1 hb
  have k1 : a.f.path ≠ 0 ∧ a.f.up = p := by simpa [Tr.isKid] using h1.2
  have k2 : b.f.path ≠ 0 ∧ b.f.up = p := by simpa [Tr.isKid] using h2.2
  exact fun he => hab (hi.names _ (h.mem.2 ⟨a, h1.1, rfl⟩) _ (h.mem.2 ⟨b, h2.1, rfl⟩) k1.1 k2.1 (by rw [k1.2, k2.2]) he)
theorem kid_some (hi : Inv T) {p : Int} {s : BA} {n : Nd} : T.kid p s = some n ↔ n ∈ T.ns ∧ n.path ≠ 0 ∧ n.up = p ∧ n.name = s := by
  unfold Tr.kid Tr.kids
  constructor
  · intro h
    have h1 := List.mem_filter.1 (List.mem_of_find?_eq_some h)
    have h2 := List.find?_some h
    have h3 : n.path ≠ 0 ∧ n.up = p := by simpa [Tr.isKid] using h1.2
    exact ⟨h1.1, h3.1, h3.2, by simpa using h2⟩
  · rintro ⟨h1, h2, h3, h4⟩
    cases hg : (T.ns.filter (Tr.isKid p)).find? fun n => decide (n.name = s) with
    | none =>
      have := List.find?_eq_none.1 hg n (List.mem_filter.2 ⟨h1, by simp [Tr.isKid, h2, h3]⟩)
      simp [h4] at this
    | some m =>
      have g1 := List.mem_filter.1 (List.mem_of_find?_eq_some hg)
      have g2 : m.name = s := by simpa using List.find?_some hg
      have g3 : m.path ≠ 0 ∧ m.up = p := by simpa [Tr.isKid] using g1.2
      rw [hi.inj g1.1 h1 (hi.names m g1.1 n h1 g3.1 h2 (by rw [g3.2, h3]) (by rw [g2, h4]))]
/-- A directory's file of a name. -/
theorem Tie.kid (h : Tie D X T β) (hi : Inv T) {n : PN} (hn : n ∈ X.ps) (s : BA) :
    (T.kid n.f.path s = none ∧ getL n.kl s = none) ∨ ∃ k ∈ X.ps, T.kid n.f.path s = some k.f ∧ getL n.kl s = some k.blk := by
  have hk := h.klN hi n.f.path
  rw [getL_perm (h.kl n hn) hk]
  cases hg : T.kid n.f.path s with
  | none =>
    left
    refine ⟨rfl, ?_⟩
    rw [getL_none, List.map_map]
    intro hm
    obtain ⟨k, hk, he⟩ := List.mem_map.1 hm
    have h1 := List.mem_filter.1 hk
    have h2 : k.f.path ≠ 0 ∧ k.f.up = n.f.path := by simpa [Tr.isKid] using h1.2
    have := (kid_some hi).2 ⟨h.mem.2 ⟨k, h1.1, rfl⟩, h2.1, h2.2, he⟩
    rw [hg] at this; cases this
  | some m =>
    right
    obtain ⟨h1, h2, h3, h4⟩ := (kid_some hi).1 hg
    obtain ⟨k, hk', rfl⟩ := h.mem.1 h1
    refine ⟨k, hk', rfl, ?_⟩
    rw [getL_some hk]
    exact List.mem_map.2 ⟨k, List.mem_filter.2 ⟨hk', by simp [Tr.isKid, h2, h3]⟩, by rw [h4]⟩

/-! ### Bits -/
theorem andI_zero (a b : Int) : andI a b = 0 ↔ BitVec.ofInt 64 a &&& BitVec.ofInt 64 b = 0#64 := by
  constructor
  · intro h
    rw [← andI_ofInt, h]; rfl
  · intro h
    unfold andI; rw [h]; rfl
theorem clrI_zero (a b : Int) : clrI a b = 0 ↔ BitVec.ofInt 64 a &&& ~~~ BitVec.ofInt 64 b = 0#64 := by
  constructor
  · intro h
    rw [← clrI_ofInt, h]; rfl
  · intro h
    unfold clrI; rw [h]; rfl
def xorI (a : Int) : Int := IntKind.i64.wrap (BitVec.ofInt 64 (-1) ^^^ BitVec.ofInt 64 a).toNat
theorem Un.xor' {a : Int} {k : Value → Prop} (h : k (i64 (xorI a))) : Un .xor (i64 a) k := ⟨_, rfl, h⟩
theorem xor511 : xorI 511 = -512 := by decide
theorem xor438 : xorI 438 = -439 := by decide
theorem and_sub {x z c : BitVec 64} (h : x &&& c = 0#64) : (x &&& z) &&& c = 0#64 := by
  rw [BitVec.and_assoc, BitVec.and_comm z c, ← BitVec.and_assoc, h, BitVec.zero_and]
theorem high_bit (x a y c : BitVec 64) (h : ∀ i, i < 64 → c.getLsbD i = true → a.getLsbD i = true) : (x &&& (a ||| y)) &&& c = x &&& c := by
  apply BitVec.eq_of_getLsbD_eq
  intro i hi
  simp only [BitVec.getLsbD_and, BitVec.getLsbD_or]
  cases hc : c.getLsbD i with
  | false => simp
  | true => rw [h i hi hc]; simp
theorem andI_dir (x a y : Int) (h : ∀ i, i < 64 → (BitVec.ofInt 64 2147483648).getLsbD i = true → (BitVec.ofInt 64 a).getLsbD i = true) : andI (andI x (orI a y)) 2147483648 = andI x 2147483648 := by
  show IntKind.i64.wrap _ = IntKind.i64.wrap _
  rw [andI_ofInt, orI_ofInt, high_bit _ _ _ _ h]
theorem modeN_dir (perm um : Int) : andI (Tr.modeN perm um) 2147483648 = andI perm 2147483648 := by
  unfold Tr.modeN
  split
  · exact andI_dir _ _ _ (by decide)
  · exact andI_dir _ _ _ (by decide)
theorem modeN_isD (perm um : Int) : isD (Tr.modeN perm um) = isD perm := by unfold isD; rw [modeN_dir]
theorem rightM_and {p z : Int} (h : rightM p = true) (hd : andI (andI p z) 2147483648 = andI p 2147483648) : rightM (andI p z) = true := by
  unfold rightM at h ⊢
  simp only [Bool.and_eq_true, Bool.or_eq_true, decide_eq_true_eq] at h ⊢
  refine ⟨?_, ?_⟩
  · rw [clrI_zero] at h ⊢
    rw [andI_ofInt]
    exact and_sub h.1
  · rw [hd]
    refine h.2.imp id fun h2 => ?_
    rw [andI_zero] at h2 ⊢
    rw [andI_ofInt]
    exact and_sub h2
theorem modeN_right {perm : Int} (um : Int) (h : rightM perm = true) : rightM (Tr.modeN perm um) = true := by
  have hd := modeN_dir perm um
  unfold Tr.modeN at hd ⊢
  split at hd <;> rename_i h0
  · rw [if_pos h0]; exact rightM_and h hd
  · rw [if_neg h0]; exact rightM_and h hd
end Go.Proofs.YtnnhmahemklnkaaDoor
