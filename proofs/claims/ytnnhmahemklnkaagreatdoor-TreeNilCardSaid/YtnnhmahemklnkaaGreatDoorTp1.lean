/-
  Trees: directories found; files in them; modes of new files.
-/
import Derived.Test.YtnnhmahemklnkaaGreatDoorTs4
namespace Go.Proofs.YtnnhmahemklnkaaGreatDoor
open Go Go.Sh
set_option maxRecDepth 100000
set_option linter.unusedVariables false
set_option linter.unusedSimpArgs false
variable {w0 w : World} {F : Nat → Prop} {l : List As}
variable {D : List Row} {X : PT} {T : Tr} {β : Int → Nat}

theorem folder_ok (h : Tie D X T β) (hi : Inv T) {p : Int} (E : Hs w0 F w (trA X :: l)) : Ca PP Fn.tree_Tree_folder #[ptr X.t, i64 p] w fun r w' => Hs w0 F w' (trA X :: l) ∧
    ((T.get p = none ∧ r = .tuple #[.pointer none, i64 4]) ∨ ∃ n rs, X.ps.Perm (n :: rs) ∧ n ∈ X.ps ∧ n.f.path = p ∧ T.get p = some n.f ∧
      ((n.f.dir = false ∧ r = .tuple #[.pointer none, i64 18]) ∨ (n.f.dir = true ∧ r = .tuple #[ptr n.blk, i64 0]))) := by
  refine S.tree_Tree_folder.calls ?_
  unfold S.tree_Tree_folder
  rcases h.find hi p with ⟨h1, h2⟩ | ⟨n, rs, hpm, hn, hpath, h1, h2⟩
  · replace E := Hs.openT E
    refine (find_ok E).mono ?_
    clear E
    rintro r w_ ⟨rfl, E⟩
    rw [h2]
    unfold findV
    (repeat first | (with_reducible first | refine Stp.go ?_ | refine StpE.go E ?_ | (refine StpW.go E ?_; clear E; intro w_ E) | (refine StpA.go E ?_; clear E; intro b_ w_ hb_ E) | (apply hJ5; intro u_) | refine LnL.nil ?_) | ((with_reducible refine Bi.dec true ?_ ?_); focus exact rfl) | ((with_reducible refine Bi.dec false ?_ ?_); focus exact rfl) | ((with_reducible refine Bi.sdec true ?_ ?_); focus decide) | ((with_reducible refine Bi.sdec false ?_ ?_); focus decide))
    (intro J5 hJ5)
    (repeat first | (with_reducible first | refine Stp.go ?_ | refine StpE.go E ?_ | (refine StpW.go E ?_; clear E; intro w_ E) | (refine StpA.go E ?_; clear E; intro b_ w_ hb_ E) | (apply hJ5; intro u_) | refine LnL.nil ?_) | ((with_reducible refine Bi.dec true ?_ ?_); focus exact rfl) | ((with_reducible refine Bi.dec false ?_ ?_); focus exact rfl) | ((with_reducible refine Bi.sdec true ?_ ?_); focus decide) | ((with_reducible refine Bi.sdec false ?_ ?_); focus decide))
    exact ⟨Hs.closeT X E, .inl ⟨h1, rfl⟩⟩
  · replace E := Hs.openTN hpm E
    refine (find_ok E).mono ?_
    clear E
    rintro r w_ ⟨rfl, E⟩
    rw [h2]
    unfold findV
    (repeat first | (with_reducible first | refine Stp.go ?_ | refine StpE.go E ?_ | (refine StpW.go E ?_; clear E; intro w_ E) | (refine StpA.go E ?_; clear E; intro b_ w_ hb_ E) | (apply hJ5; intro u_) | refine LnL.nil ?_) | ((with_reducible refine Bi.dec true ?_ ?_); focus exact rfl) | ((with_reducible refine Bi.dec false ?_ ?_); focus exact rfl) | ((with_reducible refine Bi.sdec true ?_ ?_); focus decide) | ((with_reducible refine Bi.sdec false ?_ ?_); focus decide))
    (intro J5 hJ5)
    (repeat first | (with_reducible first | refine Stp.go ?_ | refine StpE.go E ?_ | (refine StpW.go E ?_; clear E; intro w_ E) | (refine StpA.go E ?_; clear E; intro b_ w_ hb_ E) | (apply hJ5; intro u_) | refine LnL.nil ?_) | ((with_reducible refine Bi.dec true ?_ ?_); focus exact rfl) | ((with_reducible refine Bi.dec false ?_ ?_); focus exact rfl) | ((with_reducible refine Bi.sdec true ?_ ?_); focus decide) | ((with_reducible refine Bi.sdec false ?_ ?_); focus decide))
    refine (isDir_ok (m := n.mn) E).mono ?_
    clear E
    rintro r w_ ⟨rfl, E⟩
    cases hd : isD n.mn.mode with
    | true =>
      (repeat first | (with_reducible first | refine Stp.go ?_ | refine StpE.go E ?_ | (refine StpW.go E ?_; clear E; intro w_ E) | (refine StpA.go E ?_; clear E; intro b_ w_ hb_ E) | (apply hJ5; intro u_) | refine LnL.nil ?_) | ((with_reducible refine Bi.dec true ?_ ?_); focus exact rfl) | ((with_reducible refine Bi.dec false ?_ ?_); focus exact rfl) | ((with_reducible refine Bi.sdec true ?_ ?_); focus decide) | ((with_reducible refine Bi.sdec false ?_ ?_); focus decide))
      exact ⟨Hs.closeTN X n hpm E, .inr ⟨n, rs, hpm, hn, hpath, h1, .inr ⟨hd, rfl⟩⟩⟩
    | false =>
      (repeat first | (with_reducible first | refine Stp.go ?_ | refine StpE.go E ?_ | (refine StpW.go E ?_; clear E; intro w_ E) | (refine StpA.go E ?_; clear E; intro b_ w_ hb_ E) | (apply hJ5; intro u_) | refine LnL.nil ?_) | ((with_reducible refine Bi.dec true ?_ ?_); focus exact rfl) | ((with_reducible refine Bi.dec false ?_ ?_); focus exact rfl) | ((with_reducible refine Bi.sdec true ?_ ?_); focus decide) | ((with_reducible refine Bi.sdec false ?_ ?_); focus decide))
      exact ⟨Hs.closeTN X n hpm E, .inr ⟨n, rs, hpm, hn, hpath, h1, .inl ⟨hd, rfl⟩⟩⟩

theorem Tie.klN (h : Tie D X T β) (hi : Inv T) (p : Int) : (((X.ps.filter fun k => Tr.isKid p k.f).map fun k => (k.f.name, k.blk)).map (·.1)).Nodup := by
  rw [List.map_map, List.Nodup, List.pairwise_map]
  have hn : X.ps.Pairwise fun a b => a.f.path ≠ b.f.path := by
    have := (h.ns.map (·.path)).nodup_iff.2 hi.nodup
    rw [List.map_map, List.Nodup, List.pairwise_map] at this
    exact this
  refine (hn.filter _).imp_of_mem fun {a b} ha hb hab => ?_
  have h1 := List.mem_filter.1 ha
  have h2 := List.mem_filter.1 hb
  have k1 : a.f.path ≠ 0 ∧ a.f.up = p := by simpa [Tr.isKid] using h1.2
  have k2 : b.f.path ≠ 0 ∧ b.f.up = p := by simpa [Tr.isKid] using h2.2
  exact fun he => hab (hi.names _ (h.mem.2 ⟨a, h1.1, rfl⟩) _ (h.mem.2 ⟨b, h2.1, rfl⟩) k1.1 k2.1 (by rw [k1.2, k2.2]) he)
theorem kid_some (hi : Inv T) {p : Int} {s : BA} {n : Nd} : T.kid p s = some n ↔ n ∈ T.ns ∧ n.path ≠ 0 ∧ n.up = p ∧ n.name = s := by
  unfold Tr.kid Tr.kids
  constructor
  · intro h
    have h1 := List.mem_filter.1 (List.mem_of_find?_eq_some h)
    have h2 := List.find?_some h
    have h3 : n.path ≠ 0 ∧ n.up = p := by simpa [Tr.isKid] using h1.2
    exact ⟨h1.1, h3.1, h3.2, by simpa using h2⟩
  · rintro ⟨h1, h2, h3, h4⟩
    cases hg : (T.ns.filter (Tr.isKid p)).find? fun n => decide (n.name = s) with
    | none =>
      have := List.find?_eq_none.1 hg n (List.mem_filter.2 ⟨h1, by simp [Tr.isKid, h2, h3]⟩)
      simp [h4] at this
    | some m =>
      have g1 := List.mem_filter.1 (List.mem_of_find?_eq_some hg)
      have g2 : m.name = s := by simpa using List.find?_some hg
      have g3 : m.path ≠ 0 ∧ m.up = p := by simpa [Tr.isKid] using g1.2
      rw [hi.inj g1.1 h1 (hi.names m g1.1 n h1 g3.1 h2 (by rw [g3.2, h3]) (by rw [g2, h4]))]
/-- A directory's file of a name. -/
theorem Tie.kid (h : Tie D X T β) (hi : Inv T) {n : PN} (hn : n ∈ X.ps) (s : BA) :
    (T.kid n.f.path s = none ∧ getL n.kl s = none) ∨ ∃ k ∈ X.ps, T.kid n.f.path s = some k.f ∧ getL n.kl s = some k.blk := by
  have hk := h.klN hi n.f.path
  rw [getL_perm (h.kl n hn) hk]
  cases hg : T.kid n.f.path s with
  | none =>
    left
    refine ⟨rfl, ?_⟩
    rw [getL_none, List.map_map]
    intro hm
    obtain ⟨k, hk, he⟩ := List.mem_map.1 hm
    have h1 := List.mem_filter.1 hk
    have h2 : k.f.path ≠ 0 ∧ k.f.up = n.f.path := by simpa [Tr.isKid] using h1.2
    have := (kid_some hi).2 ⟨h.mem.2 ⟨k, h1.1, rfl⟩, h2.1, h2.2, he⟩
    rw [hg] at this; cases this
  | some m =>
    right
    obtain ⟨h1, h2, h3, h4⟩ := (kid_some hi).1 hg
    obtain ⟨k, hk', rfl⟩ := h.mem.1 h1
    refine ⟨k, hk', rfl, ?_⟩
    rw [getL_some hk]
    exact List.mem_map.2 ⟨k, List.mem_filter.2 ⟨hk', by simp [Tr.isKid, h2, h3]⟩, by rw [h4]⟩

/-! ### Bits -/
theorem andI_zero (a b : Int) : andI a b = 0 ↔ BitVec.ofInt 64 a &&& BitVec.ofInt 64 b = 0#64 := by
  constructor
  · intro h
    rw [← andI_ofInt, h]; rfl
  · intro h
    unfold andI; rw [h]; rfl
theorem clrI_zero (a b : Int) : clrI a b = 0 ↔ BitVec.ofInt 64 a &&& ~~~ BitVec.ofInt 64 b = 0#64 := by
  constructor
  · intro h
    rw [← clrI_ofInt, h]; rfl
  · intro h
    unfold clrI; rw [h]; rfl
def xorI (a : Int) : Int := IntKind.i64.wrap (BitVec.ofInt 64 (-1) ^^^ BitVec.ofInt 64 a).toNat
theorem Un.xor' {a : Int} {k : Value → Prop} (h : k (i64 (xorI a))) : Un .xor (i64 a) k := ⟨_, rfl, h⟩
theorem xor511 : xorI 511 = -512 := by decide
theorem xor438 : xorI 438 = -439 := by decide
theorem and_sub {x z c : BitVec 64} (h : x &&& c = 0#64) : (x &&& z) &&& c = 0#64 := by
  rw [BitVec.and_assoc, BitVec.and_comm z c, ← BitVec.and_assoc, h, BitVec.zero_and]
theorem high_bit (x a y c : BitVec 64) (h : ∀ i, i < 64 → c.getLsbD i = true → a.getLsbD i = true) : (x &&& (a ||| y)) &&& c = x &&& c := by
  apply BitVec.eq_of_getLsbD_eq
  intro i hi
  simp only [BitVec.getLsbD_and, BitVec.getLsbD_or]
  cases hc : c.getLsbD i with
  | false => simp
  | true => rw [h i hi hc]; simp
theorem andI_dir (x a y : Int) (h : ∀ i, i < 64 → (BitVec.ofInt 64 2147483648).getLsbD i = true → (BitVec.ofInt 64 a).getLsbD i = true) : andI (andI x (orI a y)) 2147483648 = andI x 2147483648 := by
  show IntKind.i64.wrap _ = IntKind.i64.wrap _
  rw [andI_ofInt, orI_ofInt, high_bit _ _ _ _ h]
theorem modeN_dir (perm um : Int) : andI (Tr.modeN perm um) 2147483648 = andI perm 2147483648 := by
  unfold Tr.modeN
  split
  · exact andI_dir _ _ _ (by decide)
  · exact andI_dir _ _ _ (by decide)
theorem modeN_isD (perm um : Int) : isD (Tr.modeN perm um) = isD perm := by unfold isD; rw [modeN_dir]
theorem rightM_and {p z : Int} (h : rightM p = true) (hd : andI (andI p z) 2147483648 = andI p 2147483648) : rightM (andI p z) = true := by
  unfold rightM at h ⊢
  simp only [Bool.and_eq_true, Bool.or_eq_true, decide_eq_true_eq] at h ⊢
  refine ⟨?_, ?_⟩
  · rw [clrI_zero] at h ⊢
    rw [andI_ofInt]
    exact and_sub h.1
  · rw [hd]
    refine h.2.imp id fun h2 => ?_
    rw [andI_zero] at h2 ⊢
    rw [andI_ofInt]
    exact and_sub h2
theorem modeN_right {perm : Int} (um : Int) (h : rightM perm = true) : rightM (Tr.modeN perm um) = true := by
  have hd := modeN_dir perm um
  unfold Tr.modeN at hd ⊢
  split at hd <;> rename_i h0
  · rw [if_pos h0]; exact rightM_and h hd
  · rw [if_neg h0]; exact rightM_and h hd
end Go.Proofs.YtnnhmahemklnkaaGreatDoor

/-
  Trees: a new file.
-/
namespace Go.Proofs.YtnnhmahemklnkaaGreatDoor
open Go Go.Sh
set_option maxRecDepth 100000
set_option linter.unusedVariables false
set_option linter.unusedSimpArgs false
variable {w0 w : World} {F : Nat → Prop} {l : List As}
variable {D : List Row} {X : PT} {T : Tr} {β : Int → Nat}

abbrev qd0 (q : Nat) : As := pt q (oc [i64 0, i64 0, i64 0] Ty.api_Qid)
theorem Tie.len (h : Tie D X T β) : X.fl.length = T.ns.length ∧ X.ol.length = T.hs.length := by
  refine ⟨?_, by rw [h.ol.length_eq, List.length_map]⟩
  rw [h.fl.length_eq, List.length_map, ← h.ns.length_eq, List.length_map]
theorem lim_fit {T : Tr} {N : Int} (hi : Inv T) (hN : N < 4611686018427387904) (hl : Lim N T) {X : PT} (h : Tie D X T β) : ∀ n ∈ X.ps, 0 ≤ n.f.vers ∧ n.f.vers < 4611686018427387904 := fun n hn => by
  have h1 := (hi.form n.f (h.mem.2 ⟨n, hn, rfl⟩)).2.2.2.1
  have h2 := hl.vers n.f (h.mem.2 ⟨n, hn, rfl⟩)
  omega
/-- One file is changed: in memory, the tree, what always holds. -/
theorem touch_tie (h : Tie D X T β) (hi : Inv T) (hnd : (X.ps.map PN.blk).Nodup) {u : PN} (hu : u ∈ X.ps) (user : BA) :
    Tie D { X with ps := updB X.ps u.blk (PN.touch (X.clock + 1) user), clock := X.clock + 1 } (T.change user [u.f.path]) β ∧ Inv (T.change user [u.f.path]) := by
  rw [change_one, ← h.clock]
  refine ⟨h.upd hi hnd hu (X.clock + 1) (fun _ => ⟨rfl, rfl, rfl⟩) (fun _ => rfl) (fun _ => ⟨rfl, rfl, rfl⟩) (fun _ hx => hx) (h.data u hu), ?_⟩
  have hc := hi.clock
  rw [← h.clock] at hc
  refine hi.upd (X.clock + 1) (by omega) (fun _ _ _ => ⟨rfl, rfl, rfl, rfl⟩) (fun n hn _ => hi.data n hn) fun n hn _ => ?_
  have := hi.form n hn
  exact ⟨this.1, this.2.1, this.2.2.1, by show 0 ≤ n.vers + 1; omega, by show 0 ≤ X.clock + 1; omega⟩

theorem Create_ok (h : Tie D X T β) (hi : Inv T) {N : Int} (hN : N < 4611686018427387904) (hlim : Lim N T) {dir perm mode : Int} {user name : BA} (hus : user.size ≤ 9223372036854775807) (hns : name.size ≤ 9223372036854775807) (E : Hs w0 F w (trA X :: Pool D :: l)) :
    Ca PP Fn.tree_Tree_Create #[ptr X.t, str user, i64 dir, str name, i64 perm, i64 mode] w fun r w' =>
      r = .tuple #[i64 (T.create user dir name perm mode).2.1, (T.create user dir name perm mode).2.2.1.V, i64 (T.create user dir name perm mode).2.2.2] ∧ Goes w0 F l D X (T.create user dir name perm mode).1 w' := by
  refine S.tree_Tree_Create.calls ?_
  unfold S.tree_Tree_Create
  have hnd := Hs.nodupT E
  (repeat first | (with_reducible first | refine Stp.go ?_ | refine StpE.go E ?_ | (refine StpW.go E ?_; clear E; intro w_ E) | (refine StpA.go E ?_; clear E; intro b_ w_ hb_ E) | (apply hJ7; intro u_) | (apply hJ22; intro u_) | (apply hJ43; intro u_) | (apply hJ73; intro u_) | refine LnL.nil ?_) | ((with_reducible refine Bi.dec true ?_ ?_); focus exact rfl) | ((with_reducible refine Bi.dec false ?_ ?_); focus exact rfl) | ((with_reducible refine Bi.sdec true ?_ ?_); focus decide) | ((with_reducible refine Bi.sdec false ?_ ?_); focus decide))
  (revert b_; intro q hbq E)
  refine Eq.ef u_p_tree rfl ?_
  (repeat first | (with_reducible first | refine Stp.go ?_ | refine StpE.go E ?_ | (refine StpW.go E ?_; clear E; intro w_ E) | (refine StpA.go E ?_; clear E; intro b_ w_ hb_ E) | (apply hJ7; intro u_) | (apply hJ22; intro u_) | (apply hJ43; intro u_) | (apply hJ73; intro u_) | refine LnL.nil ?_) | ((with_reducible refine Bi.dec true ?_ ?_); focus exact rfl) | ((with_reducible refine Bi.dec false ?_ ?_); focus exact rfl) | ((with_reducible refine Bi.sdec true ?_ ?_); focus decide) | ((with_reducible refine Bi.sdec false ?_ ?_); focus decide))
  (replace E := (((E.bIx 0).bIx 2).bIx 2))
  (intro J7 hJ7)
  have fin7 : ∀ b w_, b = decide (clrI mode 83 ≠ 0 ∨ rightM perm = false ∨ (andI perm 2147483648 ≠ 0 ∧ mode ≠ 0)) → Hs w0 F w_ (trA X :: Pool D :: qd0 q :: l) → J7 [.bool b] w_ := by
    intro b w_ hb E
    (repeat first | (with_reducible first | refine Stp.go ?_ | refine StpE.go E ?_ | (refine StpW.go E ?_; clear E; intro w_ E) | (refine StpA.go E ?_; clear E; intro b_ w_ hb_ E) | (apply hJ7; intro u_) | (apply hJ22; intro u_) | (apply hJ43; intro u_) | (apply hJ73; intro u_) | refine LnL.nil ?_) | ((with_reducible refine Bi.dec true ?_ ?_); focus exact rfl) | ((with_reducible refine Bi.dec false ?_ ?_); focus exact rfl) | ((with_reducible refine Bi.sdec true ?_ ?_); focus decide) | ((with_reducible refine Bi.sdec false ?_ ?_); focus decide))
    by_cases c7 : clrI mode 83 ≠ 0 ∨ rightM perm = false ∨ (andI perm 2147483648 ≠ 0 ∧ mode ≠ 0)
    · rw [decide_eq_true c7] at hb
      subst hb
      (repeat first | (with_reducible first | refine Stp.go ?_ | refine StpE.go E ?_ | (refine StpW.go E ?_; clear E; intro w_ E) | (refine StpA.go E ?_; clear E; intro b_ w_ hb_ E) | (apply hJ7; intro u_) | (apply hJ22; intro u_) | (apply hJ43; intro u_) | (apply hJ73; intro u_) | refine LnL.nil ?_) | ((with_reducible refine Bi.dec true ?_ ?_); focus exact rfl) | ((with_reducible refine Bi.dec false ?_ ?_); focus exact rfl) | ((with_reducible refine Bi.sdec true ?_ ?_); focus decide) | ((with_reducible refine Bi.sdec false ?_ ?_); focus decide))
      have e : T.create user dir name perm mode = (T, 0, q0, 20) := by unfold Tr.create; rw [if_pos c7]
      rw [e]
      exact ⟨rfl, .same h (E.bIx 2).tl⟩
    rw [decide_eq_false c7] at hb
    subst hb
    (repeat first | (with_reducible first | refine Stp.go ?_ | refine StpE.go E ?_ | (refine StpW.go E ?_; clear E; intro w_ E) | (refine StpA.go E ?_; clear E; intro b_ w_ hb_ E) | (apply hJ7; intro u_) | (apply hJ22; intro u_) | (apply hJ43; intro u_) | (apply hJ73; intro u_) | refine LnL.nil ?_) | ((with_reducible refine Bi.dec true ?_ ?_); focus exact rfl) | ((with_reducible refine Bi.dec false ?_ ?_); focus exact rfl) | ((with_reducible refine Bi.sdec true ?_ ?_); focus decide) | ((with_reducible refine Bi.sdec false ?_ ?_); focus decide))
    refine (folder_ok h hi E).mono ?_
    clear E
    rintro r w_ ⟨E, ⟨hg, rfl⟩ | ⟨u, rs, hpm, hu, hpath, hg, ⟨hdir, rfl⟩ | ⟨hdir, rfl⟩⟩⟩
    · (repeat first | (with_reducible first | refine Stp.go ?_ | refine StpE.go E ?_ | (refine StpW.go E ?_; clear E; intro w_ E) | (refine StpA.go E ?_; clear E; intro b_ w_ hb_ E) | (apply hJ7; intro u_) | (apply hJ22; intro u_) | (apply hJ43; intro u_) | (apply hJ73; intro u_) | refine LnL.nil ?_) | ((with_reducible refine Bi.dec true ?_ ?_); focus exact rfl) | ((with_reducible refine Bi.dec false ?_ ?_); focus exact rfl) | ((with_reducible refine Bi.sdec true ?_ ?_); focus decide) | ((with_reducible refine Bi.sdec false ?_ ?_); focus decide))
      have e : T.create user dir name perm mode = (T, 0, q0, 4) := by unfold Tr.create; rw [if_neg c7]; simp only [hg]
      rw [e]
      exact ⟨rfl, .same h (E.bIx 2).tl⟩
    · (repeat first | (with_reducible first | refine Stp.go ?_ | refine StpE.go E ?_ | (refine StpW.go E ?_; clear E; intro w_ E) | (refine StpA.go E ?_; clear E; intro b_ w_ hb_ E) | (apply hJ7; intro u_) | (apply hJ22; intro u_) | (apply hJ43; intro u_) | (apply hJ73; intro u_) | refine LnL.nil ?_) | ((with_reducible refine Bi.dec true ?_ ?_); focus exact rfl) | ((with_reducible refine Bi.dec false ?_ ?_); focus exact rfl) | ((with_reducible refine Bi.sdec true ?_ ?_); focus decide) | ((with_reducible refine Bi.sdec false ?_ ?_); focus decide))
      have e : T.create user dir name perm mode = (T, 0, q0, 18) := by unfold Tr.create; rw [if_neg c7]; simp only [hg, if_pos hdir]
      rw [e]
      exact ⟨rfl, .same h (E.bIx 2).tl⟩
    have hdn : ¬ u.f.dir = false := by rw [hdir]; simp
    subst hpath
    (repeat first | (with_reducible first | refine Stp.go ?_ | refine StpE.go E ?_ | (refine StpW.go E ?_; clear E; intro w_ E) | (refine StpA.go E ?_; clear E; intro b_ w_ hb_ E) | (apply hJ7; intro u_) | (apply hJ22; intro u_) | (apply hJ43; intro u_) | (apply hJ73; intro u_) | refine LnL.nil ?_) | ((with_reducible refine Bi.dec true ?_ ?_); focus exact rfl) | ((with_reducible refine Bi.dec false ?_ ?_); focus exact rfl) | ((with_reducible refine Bi.sdec true ?_ ?_); focus decide) | ((with_reducible refine Bi.sdec false ?_ ?_); focus decide))
    (intro J22 hJ22)
    have fin22 : ∀ b w_, b = decide (goodName name = false ∨ goodName user = false) → Hs w0 F w_ (trA X :: Pool D :: qd0 q :: l) → J22 [.bool b] w_ := by
      intro b w_ hb E
      (repeat first | (with_reducible first | refine Stp.go ?_ | refine StpE.go E ?_ | (refine StpW.go E ?_; clear E; intro w_ E) | (refine StpA.go E ?_; clear E; intro b_ w_ hb_ E) | (apply hJ7; intro u_) | (apply hJ22; intro u_) | (apply hJ43; intro u_) | (apply hJ73; intro u_) | refine LnL.nil ?_) | ((with_reducible refine Bi.dec true ?_ ?_); focus exact rfl) | ((with_reducible refine Bi.dec false ?_ ?_); focus exact rfl) | ((with_reducible refine Bi.sdec true ?_ ?_); focus decide) | ((with_reducible refine Bi.sdec false ?_ ?_); focus decide))
      by_cases c22 : goodName name = false ∨ goodName user = false
      · rw [decide_eq_true c22] at hb
        subst hb
        (repeat first | (with_reducible first | refine Stp.go ?_ | refine StpE.go E ?_ | (refine StpW.go E ?_; clear E; intro w_ E) | (refine StpA.go E ?_; clear E; intro b_ w_ hb_ E) | (apply hJ7; intro u_) | (apply hJ22; intro u_) | (apply hJ43; intro u_) | (apply hJ73; intro u_) | refine LnL.nil ?_) | ((with_reducible refine Bi.dec true ?_ ?_); focus exact rfl) | ((with_reducible refine Bi.dec false ?_ ?_); focus exact rfl) | ((with_reducible refine Bi.sdec true ?_ ?_); focus decide) | ((with_reducible refine Bi.sdec false ?_ ?_); focus decide))
        have e : T.create user u.f.path name perm mode = (T, 0, q0, 8) := by unfold Tr.create; rw [if_neg c7]; simp only [hg, if_neg hdn, if_pos c22]
        rw [e]
        exact ⟨rfl, .same h (E.bIx 2).tl⟩
      rw [decide_eq_false c22] at hb
      subst hb
      (repeat first | (with_reducible first | refine Stp.go ?_ | refine StpE.go E ?_ | (refine StpW.go E ?_; clear E; intro w_ E) | (refine StpA.go E ?_; clear E; intro b_ w_ hb_ E) | (apply hJ7; intro u_) | (apply hJ22; intro u_) | (apply hJ43; intro u_) | (apply hJ73; intro u_) | refine LnL.nil ?_) | ((with_reducible refine Bi.dec true ?_ ?_); focus exact rfl) | ((with_reducible refine Bi.dec false ?_ ?_); focus exact rfl) | ((with_reducible refine Bi.sdec true ?_ ?_); focus decide) | ((with_reducible refine Bi.sdec false ?_ ?_); focus decide))
      clear hJ22
      replace E := Hs.openTN hpm E
      refine (may_ok (m := u.mn) (D := D) (by simp) h.gs E).mono ?_
      clear E
      rintro r w_ ⟨rfl, E⟩
      have hmay : permF u.mn.mode (decide (user = u.mn.owner)) (memberG T.gs user u.mn.group) 2 = T.may user u.f 2 := rfl
      rw [hmay]
      cases hm : T.may user u.f 2 with
      | false =>
        (repeat first | (with_reducible first | refine Stp.go ?_ | refine StpE.go E ?_ | (refine StpW.go E ?_; clear E; intro w_ E) | (refine StpA.go E ?_; clear E; intro b_ w_ hb_ E) | (apply hJ7; intro u_) | (apply hJ22; intro u_) | (apply hJ43; intro u_) | (apply hJ73; intro u_) | refine LnL.nil ?_) | ((with_reducible refine Bi.dec true ?_ ?_); focus exact rfl) | ((with_reducible refine Bi.dec false ?_ ?_); focus exact rfl) | ((with_reducible refine Bi.sdec true ?_ ?_); focus decide) | ((with_reducible refine Bi.sdec false ?_ ?_); focus decide))
        have e : T.create user u.f.path name perm mode = (T, 0, q0, 17) := by unfold Tr.create; rw [if_neg c7]; simp only [hg, if_neg hdn, if_neg c22, hm, if_true]
        rw [e]
        exact ⟨rfl, .same h ((Hs.closeTN X u hpm E).bIx 2).tl⟩
      | true =>
        have hmn : ¬ T.may user u.f 2 = false := by rw [hm]; simp
        (repeat first | (with_reducible first | refine Stp.go ?_ | refine StpE.go E ?_ | (refine StpW.go E ?_; clear E; intro w_ E) | (refine StpA.go E ?_; clear E; intro b_ w_ hb_ E) | (apply hJ7; intro u_) | (apply hJ22; intro u_) | (apply hJ43; intro u_) | (apply hJ73; intro u_) | refine LnL.nil ?_) | ((with_reducible refine Bi.dec true ?_ ?_); focus exact rfl) | ((with_reducible refine Bi.dec false ?_ ?_); focus exact rfl) | ((with_reducible refine Bi.sdec true ?_ ?_); focus decide) | ((with_reducible refine Bi.sdec false ?_ ?_); focus decide))
        have hkb : u.mn.kids = some u.kb := if_pos hdir
        rw [hkb]
        replace E := Hs.openK hdir (E.bIx 5)
        refine Lk.one E FMp.mem u_mkids k_str z_p_node rfl ?_
        rw [aget_enc keyS]
        rcases h.kid hi hu name with ⟨k1, k2⟩ | ⟨k, hk, k1, k2⟩
        rotate_left
        · rw [k2]
          simp only [Option.map_some, Option.getD_some]
          refine Eq.nt u_p_node rfl ?_
          (repeat first | (with_reducible first | refine Stp.go ?_ | refine StpE.go E ?_ | (refine StpW.go E ?_; clear E; intro w_ E) | (refine StpA.go E ?_; clear E; intro b_ w_ hb_ E) | (apply hJ7; intro u_) | (apply hJ22; intro u_) | (apply hJ43; intro u_) | (apply hJ73; intro u_) | refine LnL.nil ?_) | ((with_reducible refine Bi.dec true ?_ ?_); focus exact rfl) | ((with_reducible refine Bi.dec false ?_ ?_); focus exact rfl) | ((with_reducible refine Bi.sdec true ?_ ?_); focus decide) | ((with_reducible refine Bi.sdec false ?_ ?_); focus decide))
          replace E := Hs.closeK hdir E
          (replace E := ((((((E.bIx 0).bIx 5).bIx 5).bIx 5).bIx 5).bIx 5))
          have e : T.create user u.f.path name perm mode = (T, 0, q0, 5) := by unfold Tr.create; rw [if_neg c7]; simp only [hg, if_neg hdn, if_neg c22, if_neg hmn, k1, Option.isSome_some, if_true]
          rw [e]
          exact ⟨rfl, .same h ((Hs.closeTN X u hpm E).bIx 2).tl⟩
        rw [k2]
        simp only [Option.map_none, Option.getD_none]
        refine Eq.nf u_p_node rfl ?_
        (repeat first | (with_reducible first | refine Stp.go ?_ | refine StpE.go E ?_ | (refine StpW.go E ?_; clear E; intro w_ E) | (refine StpA.go E ?_; clear E; intro b_ w_ hb_ E) | (apply hJ7; intro u_) | (apply hJ22; intro u_) | (apply hJ43; intro u_) | (apply hJ73; intro u_) | refine LnL.nil ?_) | ((with_reducible refine Bi.dec true ?_ ?_); focus exact rfl) | ((with_reducible refine Bi.dec false ?_ ?_); focus exact rfl) | ((with_reducible refine Bi.sdec true ?_ ?_); focus decide) | ((with_reducible refine Bi.sdec false ?_ ?_); focus decide))
        replace E := Hs.closeK hdir E
        (replace E := ((((((E.bIx 0).bIx 5).bIx 5).bIx 5).bIx 5).bIx 5))
        replace E := Hs.closeTN X u hpm E
        have kn : ¬ (T.kid u.f.path name).isSome = true := by rw [k1]; simp
        (intro J43 hJ43)
        have fin43 : ∀ b w_, b = decide (1024 ≤ T.ns.length ∨ ¬ T.hs.length < 64) → Hs w0 F w_ (trA X :: Pool D :: qd0 q :: l) → J43 [.bool b] w_ := by
          intro b w_ hb E
          (repeat first | (with_reducible first | refine Stp.go ?_ | refine StpE.go E ?_ | (refine StpW.go E ?_; clear E; intro w_ E) | (refine StpA.go E ?_; clear E; intro b_ w_ hb_ E) | (apply hJ7; intro u_) | (apply hJ22; intro u_) | (apply hJ43; intro u_) | (apply hJ73; intro u_) | refine LnL.nil ?_) | ((with_reducible refine Bi.dec true ?_ ?_); focus exact rfl) | ((with_reducible refine Bi.dec false ?_ ?_); focus exact rfl) | ((with_reducible refine Bi.sdec true ?_ ?_); focus decide) | ((with_reducible refine Bi.sdec false ?_ ?_); focus decide))
          by_cases c43 : 1024 ≤ T.ns.length ∨ ¬ T.hs.length < 64
          · rw [decide_eq_true c43] at hb
            subst hb
            (repeat first | (with_reducible first | refine Stp.go ?_ | refine StpE.go E ?_ | (refine StpW.go E ?_; clear E; intro w_ E) | (refine StpA.go E ?_; clear E; intro b_ w_ hb_ E) | (apply hJ7; intro u_) | (apply hJ22; intro u_) | (apply hJ43; intro u_) | (apply hJ73; intro u_) | refine LnL.nil ?_) | ((with_reducible refine Bi.dec true ?_ ?_); focus exact rfl) | ((with_reducible refine Bi.dec false ?_ ?_); focus exact rfl) | ((with_reducible refine Bi.sdec true ?_ ?_); focus decide) | ((with_reducible refine Bi.sdec false ?_ ?_); focus decide))
            have e : T.create user u.f.path name perm mode = (T, 0, q0, 3) := by unfold Tr.create; rw [if_neg c7]; simp only [hg, if_neg hdn, if_neg c22, if_neg hmn, if_neg kn, if_pos c43]
            rw [e]
            exact ⟨rfl, .same h (E.bIx 2).tl⟩
          rw [decide_eq_false c43] at hb
          subst hb
          clear hJ43
          (repeat first | (with_reducible first | refine Stp.go ?_ | refine StpE.go E ?_ | (refine StpW.go E ?_; clear E; intro w_ E) | (refine StpA.go E ?_; clear E; intro b_ w_ hb_ E) | (apply hJ7; intro u_) | (apply hJ22; intro u_) | (apply hJ43; intro u_) | (apply hJ73; intro u_) | refine LnL.nil ?_) | ((with_reducible refine Bi.dec true ?_ ?_); focus exact rfl) | ((with_reducible refine Bi.dec false ?_ ?_); focus exact rfl) | ((with_reducible refine Bi.sdec true ?_ ?_); focus decide) | ((with_reducible refine Bi.sdec false ?_ ?_); focus decide))
          refine BdS.one E u_sl_p_node e_p_node rfl ?_
          clear E
          intro sv w_ E
          replace E := Hs.openT (E.bIx 1)
          (replace E := ((E.bIx 4).bIx 1))
          have hv0 := h.clock
          have hcl := hlim.clock
          have hc0 := hi.clock
          refine (change_ok (X := X) (bs := [u.blk]) (RdS.by1 sv E.tl.tl) (fun b hb => by rw [List.mem_singleton.1 hb]; exact List.mem_map.2 ⟨u, hu, rfl⟩) (by omega) (lim_fit hi hN hlim h) (by simp) E).mono ?_
          clear E
          rintro r w_ E
          obtain ⟨h1, i1⟩ := touch_tie h hi hnd hu user
          (replace E := ((((((E.bIx 5).bIx 2).bIx 5).bIx 5).bIx 5).bIx 5))
          replace E := ((Hs.closeT { X with ps := updB X.ps u.blk (PN.touch (X.clock + 1) user), clock := X.clock + 1 } E).bIx 1).tl
          have nd1 := Hs.nodupT E
          have hpm1 : (updB X.ps u.blk (PN.touch (X.clock + 1) user)).Perm (PN.touch (X.clock + 1) user u :: rs) := updB_perm hnd hpm
          have hu1 : PN.touch (X.clock + 1) user u ∈ updB X.ps u.blk (PN.touch (X.clock + 1) user) := hpm1.mem_iff.2 List.mem_cons_self
          replace E := Hs.openTN (X := { X with ps := updB X.ps u.blk (PN.touch (X.clock + 1) user), clock := X.clock + 1 }) hpm1 E
          have E2 : Hs w0 F w_ (tb { X with ps := updB X.ps u.blk (PN.touch (X.clock + 1) user), clock := X.clock + 1 } :: mp X.fm (.int .i64) X.fM :: mp X.gm .str X.gM :: mp X.om (.int .i64) X.oM :: nd u.blk (PN.touch (X.clock + 1) user u).mn :: KM (PN.touch (X.clock + 1) user u) :: NT rs :: DT X.ds :: Pool D :: qd0 q :: l) := E
          clear E
          have E := E2
          clear E2
          (repeat first | (with_reducible first | refine Stp.go ?_ | refine StpE.go E ?_ | (refine StpW.go E ?_; clear E; intro w_ E) | (refine StpA.go E ?_; clear E; intro b_ w_ hb_ E) | (apply hJ7; intro u_) | (apply hJ22; intro u_) | (apply hJ43; intro u_) | (apply hJ73; intro u_) | refine LnL.nil ?_) | ((with_reducible refine Bi.dec true ?_ ?_); focus exact rfl) | ((with_reducible refine Bi.dec false ?_ ?_); focus exact rfl) | ((with_reducible refine Bi.sdec true ?_ ?_); focus decide) | ((with_reducible refine Bi.sdec false ?_ ?_); focus decide))
          (revert b_; intro nb hbnb E)
          (intro J73 hJ73)
          have fin73 : ∀ (own : Int) (kb : Nat) w_, andI perm (orI (xorI own) (andI u.f.mode own)) = Tr.modeN perm u.f.mode →
              Hs w0 F w_ (nd nb ⟨0, 0, X.next, 0, X.clock + 1, 0, name, user, u.f.group, user, .slice none 0 0, if isD perm then some kb else none, some u.blk, false⟩ :: star (if isD perm then [mp kb .str (encM Value.string ptr [])] else []) :: tb { X with ps := updB X.ps u.blk (PN.touch (X.clock + 1) user), clock := X.clock + 1 } :: mp X.fm (.int .i64) X.fM :: mp X.gm .str X.gM :: mp X.om (.int .i64) X.oM ::
                nd u.blk (PN.touch (X.clock + 1) user u).mn :: KM (PN.touch (X.clock + 1) user u) :: NT rs :: DT X.ds :: Pool D :: qd0 q :: l) → J73 [i64 own] w_ := by
            intro own kb w_ hmode E
            (repeat first | (with_reducible first | refine Stp.go ?_ | refine StpE.go E ?_ | (refine StpW.go E ?_; clear E; intro w_ E) | (refine StpA.go E ?_; clear E; intro b_ w_ hb_ E) | (apply hJ7; intro u_) | (apply hJ22; intro u_) | (apply hJ43; intro u_) | (apply hJ73; intro u_) | refine LnL.nil ?_) | ((with_reducible refine Bi.dec true ?_ ?_); focus exact rfl) | ((with_reducible refine Bi.dec false ?_ ?_); focus exact rfl) | ((with_reducible refine Bi.sdec true ?_ ?_); focus decide) | ((with_reducible refine Bi.sdec false ?_ ?_); focus decide))
            refine Un.xor' ?_
            (repeat first | (with_reducible first | refine Stp.go ?_ | refine StpE.go E ?_ | (refine StpW.go E ?_; clear E; intro w_ E) | (refine StpA.go E ?_; clear E; intro b_ w_ hb_ E) | (apply hJ7; intro u_) | (apply hJ22; intro u_) | (apply hJ43; intro u_) | (apply hJ73; intro u_) | refine LnL.nil ?_) | ((with_reducible refine Bi.dec true ?_ ?_); focus exact rfl) | ((with_reducible refine Bi.dec false ?_ ?_); focus exact rfl) | ((with_reducible refine Bi.sdec true ?_ ?_); focus decide) | ((with_reducible refine Bi.sdec false ?_ ?_); focus decide))
            have hm2 : (PN.touch (X.clock + 1) user u).mn.mode = u.f.mode := rfl
            rw [hm2, hmode]
            clear hJ73
            refine (is_ok E).mono ?_
            clear E
            rintro r w_ E
            obtain ⟨qn, hqn⟩ : ∃ qn : PN, qn = ⟨⟨X.next, 0, Tr.modeN perm u.f.mode, X.clock + 1, u.f.path, name, user, u.f.group, user, emp⟩, nb, 0, .slice none 0 0, kb, [], some u.blk⟩ := ⟨_, rfl⟩
            rw [← modeN_isD perm u.f.mode] at E
            have E2 : Hs w0 F w_ (nd nb qn.mn :: KM qn :: tb { X with ps := updB X.ps u.blk (PN.touch (X.clock + 1) user), clock := X.clock + 1 } :: mp X.fm (.int .i64) (encM i64 ptr X.fl) :: mp X.gm .str X.gM :: mp X.om (.int .i64) X.oM ::
                nd u.blk (PN.touch (X.clock + 1) user u).mn :: KM (PN.touch (X.clock + 1) user u) :: NT rs :: DT X.ds :: Pool D :: qd0 q :: l) := by rw [hqn]; exact E
            clear E
            have E := E2
            clear E2
            (repeat first | (with_reducible first | refine Stp.go ?_ | refine StpE.go E ?_ | (refine StpW.go E ?_; clear E; intro w_ E) | (refine StpA.go E ?_; clear E; intro b_ w_ hb_ E) | (apply hJ7; intro u_) | (apply hJ22; intro u_) | (apply hJ43; intro u_) | (apply hJ73; intro u_) | refine LnL.nil ?_) | ((with_reducible refine Bi.dec true ?_ ?_); focus exact rfl) | ((with_reducible refine Bi.dec false ?_ ?_); focus exact rfl) | ((with_reducible refine Bi.sdec true ?_ ?_); focus decide) | ((with_reducible refine Bi.sdec false ?_ ?_); focus decide))
            refine Mu.by E u_mfiles k_i64 rfl ?_
            clear E
            intro w_ E
            have he : aput (encM i64 ptr X.fl) (i64 X.next) (ptr nb) = encM i64 ptr (putL X.fl X.next nb) := aput_enc (keyI .i64) _ _ _
            rw [he] at E
            (repeat first | (with_reducible first | refine Stp.go ?_ | refine StpE.go E ?_ | (refine StpW.go E ?_; clear E; intro w_ E) | (refine StpA.go E ?_; clear E; intro b_ w_ hb_ E) | (apply hJ7; intro u_) | (apply hJ22; intro u_) | (apply hJ43; intro u_) | (apply hJ73; intro u_) | refine LnL.nil ?_) | ((with_reducible refine Bi.dec true ?_ ?_); focus exact rfl) | ((with_reducible refine Bi.dec false ?_ ?_); focus exact rfl) | ((with_reducible refine Bi.sdec true ?_ ?_); focus decide) | ((with_reducible refine Bi.sdec false ?_ ?_); focus decide))
            have hkb1 : (PN.touch (X.clock + 1) user u).mn.kids = some u.kb := if_pos hdir
            rw [hkb1]
            replace E := Hs.openK (n := PN.touch (X.clock + 1) user u) hdir (E.bIx 7)
            have E2 : Hs w0 F w_ (mp u.kb .str (encM Value.string ptr u.kl) :: nd nb qn.mn :: KM qn :: tb { X with ps := updB X.ps u.blk (PN.touch (X.clock + 1) user), clock := X.clock + 1 } :: mp X.fm (.int .i64) (encM i64 ptr (putL X.fl X.next nb)) :: mp X.gm .str X.gM :: mp X.om (.int .i64) X.oM ::
                nd u.blk (PN.touch (X.clock + 1) user u).mn :: NT rs :: DT X.ds :: Pool D :: qd0 q :: l) := E
            clear E
            refine Mu.by E2 u_mkids k_str rfl ?_
            clear E2
            intro w_ E
            have he2 : aput (encM Value.string ptr u.kl) (str name) (ptr nb) = encM Value.string ptr (putL u.kl name nb) := aput_enc keyS _ _ _
            rw [he2] at E
            obtain ⟨u2, hu2⟩ : ∃ u2 : PN, u2 = { PN.touch (X.clock + 1) user u with kl := putL u.kl name nb } := ⟨_, rfl⟩
            have E2 : Hs w0 F w_ (mp u2.kb .str u2.kM :: nd nb qn.mn :: KM qn :: tb { X with ps := updB X.ps u.blk (PN.touch (X.clock + 1) user), clock := X.clock + 1 } :: mp X.fm (.int .i64) (encM i64 ptr (putL X.fl X.next nb)) :: mp X.gm .str X.gM :: mp X.om (.int .i64) X.oM ::
                nd u2.blk u2.mn :: NT rs :: DT X.ds :: Pool D :: qd0 q :: l) := by rw [hu2]; exact E
            clear E
            have E := Hs.closeK (n := u2) (by rw [hu2]; exact hdir) E2
            clear E2
            have hnx := h.next
            have hln := hlim.next
            have hn0 : 0 ≤ T.next := by obtain ⟨r0, hr0, _⟩ := hi.root; have := hi.bound r0 hr0; omega
            (repeat first | (with_reducible first | refine Stp.go ?_ | refine StpE.go E ?_ | (refine StpW.go E ?_; clear E; intro w_ E) | (refine StpA.go E ?_; clear E; intro b_ w_ hb_ E) | (apply hJ7; intro u_) | (apply hJ22; intro u_) | (apply hJ43; intro u_) | (apply hJ73; intro u_) | refine LnL.nil ?_) | ((with_reducible refine Bi.dec true ?_ ?_); focus exact rfl) | ((with_reducible refine Bi.dec false ?_ ?_); focus exact rfl) | ((with_reducible refine Bi.sdec true ?_ ?_); focus decide) | ((with_reducible refine Bi.sdec false ?_ ?_); focus decide))
            refine Bi.add (by simp only []; omega) ?_
            (repeat first | (with_reducible first | refine Stp.go ?_ | refine StpE.go E ?_ | (refine StpW.go E ?_; clear E; intro w_ E) | (refine StpA.go E ?_; clear E; intro b_ w_ hb_ E) | (apply hJ7; intro u_) | (apply hJ22; intro u_) | (apply hJ43; intro u_) | (apply hJ73; intro u_) | refine LnL.nil ?_) | ((with_reducible refine Bi.dec true ?_ ?_); focus exact rfl) | ((with_reducible refine Bi.dec false ?_ ?_); focus exact rfl) | ((with_reducible refine Bi.sdec true ?_ ?_); focus decide) | ((with_reducible refine Bi.sdec false ?_ ?_); focus decide))
            (replace E := (((E.bIx 1).bIx 6).bIx 4))
            have hlen := h.len
            have hfew := hi.few
            refine (handle_ok (X := { X with ps := updB X.ps u.blk (PN.touch (X.clock + 1) user), clock := X.clock + 1, next := X.next + 1 }) (m := qn.mn) (by show X.ol.length < 1000; omega) E).mono ?_
            clear E
            rintro r w_ ⟨hh, hfree, rfl, E⟩
            (repeat first | (with_reducible first | refine Stp.go ?_ | refine StpE.go E ?_ | (refine StpW.go E ?_; clear E; intro w_ E) | (refine StpA.go E ?_; clear E; intro b_ w_ hb_ E) | (apply hJ7; intro u_) | (apply hJ22; intro u_) | (apply hJ43; intro u_) | (apply hJ73; intro u_) | refine LnL.nil ?_) | ((with_reducible refine Bi.dec true ?_ ?_); focus exact rfl) | ((with_reducible refine Bi.dec false ?_ ?_); focus exact rfl) | ((with_reducible refine Bi.sdec true ?_ ?_); focus decide) | ((with_reducible refine Bi.sdec false ?_ ?_); focus decide))
            (replace E := ((((((((((((E.bIx 11).bIx 11).bIx 11).bIx 11).bIx 7).bIx 11).bIx 9).bIx 9).bIx 9).bIx 11).bIx 11).bIx 11))
            obtain ⟨X3, hX3⟩ : ∃ X3 : PT, X3 = { X with ps := qn :: updB (updB X.ps u.blk (PN.touch (X.clock + 1) user)) u.blk (fun m => { m with kl := putL m.kl name nb }), clock := X.clock + 1, next := X.next + 1, fl := putL X.fl X.next nb, ol := putL X.ol hh ⟨nb, mode, user⟩ } := ⟨_, rfl⟩
            have hqf : qn.f = ⟨T.next, 0, Tr.modeN perm u.f.mode, T.clock + 1, u.f.path, name, user, u.f.group, user, emp⟩ := by rw [hqn, ← h.next, ← h.clock]
            have k0 := h1.kid i1 hu1 name
            have hkn : (T.change user [u.f.path]).kid u.f.path name = none := by
              rcases k0 with ⟨k3, _⟩ | ⟨k, _, _, k4⟩
              · exact k3
              · have : getL u.kl name = some k.blk := k4
                rw [k2] at this; cases this
            have i2 := i1.newN (n := qn.f) (by rw [hqf]; rfl) ⟨_, h1.mem.2 ⟨_, hu1, rfl⟩, by rw [hqf]; rfl, hdir⟩ (by
                rw [hqf]
                intro m hm h0 h3 h4
                have := (kid_some i1).2 ⟨hm, h0, h3, h4⟩
                rw [hkn] at this; cases this) (by
                rw [hqf]
                cases hgn : goodName name with
                | true => rfl
                | false => exact absurd (.inl hgn) c22) (by rw [hqf]) (by
                rw [hqf]
                have hf := hi.form u.f (h.mem.2 ⟨u, hu, rfl⟩)
                have hr : rightM perm = true := by
                  cases hrp : rightM perm with
                  | true => rfl
                  | false => exact absurd (.inr (.inl hrp)) c7
                refine ⟨?_, hf.2.1, modeN_right _ hr, Int.le_refl _, by simp only []; omega⟩
                cases hgn : goodName user with
                | true => rfl
                | false => exact absurd (.inr hgn) c22) (by
                have : (T.change user [u.f.path]).ns.length = T.ns.length := by rw [change_one]; unfold updN; simp
                omega)
            have h2 := h1.newN (q := qn) i1 nd1 hu1 (by rw [hqf]; rfl) (by rw [hqf]; rfl) (by rw [hqf]; exact getL_none.1 k2) (by rw [hqf]) (by rw [hqn]) (by rw [hqn]) (by rw [hqn]; rfl)
            have hqb : qn.blk = nb := by rw [hqn]
            have hqname : qn.f.name = name := by rw [hqn]
            rw [hqb, hqname] at h2
            obtain ⟨h4, h5⟩ := h2.hold i2 (k := hh) hfree (n := qn) List.mem_cons_self (mode := mode) (user := user)
            rw [hqb] at h5
            have e : T.create user u.f.path name perm mode = (({ T.change user [u.f.path] with ns := (T.change user [u.f.path]).ns ++ [qn.f], next := (T.change user [u.f.path]).next + 1 } : Tr).hold ⟨qn.f.path, mode, user⟩ |>.1, ({ T.change user [u.f.path] with ns := (T.change user [u.f.path]).ns ++ [qn.f], next := (T.change user [u.f.path]).next + 1 } : Tr).hold ⟨qn.f.path, mode, user⟩ |>.2, qn.f.qid, 0) := by
              rw [hqf]
              unfold Tr.create
              rw [if_neg c7]
              simp only [hg, if_neg hdn, if_neg c22, if_neg hmn, if_neg kn, if_neg c43]
              rfl
            rw [e]
            refine ⟨?_, D, X3, _, fun _ hx => hx, by rw [hX3], by rw [hX3]; exact h5, ?_⟩
            · rw [← h4, hqn]; rfl
            · have hpm3 : X3.ps.Perm (qn :: u2 :: rs) := by
                rw [hX3, hu2]
                exact List.Perm.cons _ (updB_perm (g := fun m : PN => { m with kl := putL m.kl name nb }) nd1 hpm1)
              have E2 : Hs w0 F w_ (tb X3 :: mp X3.fm (.int .i64) X3.fM :: mp X3.gm .str X3.gM :: mp X3.om (.int .i64) X3.oM :: nd qn.blk qn.mn :: KM qn :: nd u2.blk u2.mn :: KM u2 :: NT rs :: DT X3.ds :: Pool D :: pt q (oc qn.f.qid.cs Ty.api_Qid) :: l) := by
                rw [hX3, hqb]
                rw [hqn] at E ⊢
                exact E
              exact ((Hs.closeTN2 X3 qn u2 hpm3 E2).bIx 2).tl
          clear hJ73
          (repeat first | (with_reducible first | refine Stp.go ?_ | refine StpE.go E ?_ | (refine StpW.go E ?_; clear E; intro w_ E) | (refine StpA.go E ?_; clear E; intro b_ w_ hb_ E) | (apply hJ7; intro u_) | (apply hJ22; intro u_) | (apply hJ43; intro u_) | (apply hJ73; intro u_) | refine LnL.nil ?_) | ((with_reducible refine Bi.dec true ?_ ?_); focus exact rfl) | ((with_reducible refine Bi.dec false ?_ ?_); focus exact rfl) | ((with_reducible refine Bi.sdec true ?_ ?_); focus decide) | ((with_reducible refine Bi.sdec false ?_ ?_); focus decide))
          refine Bi.neq ?_ ?_ <;> intro h0 <;> (repeat first | (with_reducible first | refine Stp.go ?_ | refine StpE.go E ?_ | (refine StpW.go E ?_; clear E; intro w_ E) | (refine StpA.go E ?_; clear E; intro b_ w_ hb_ E) | (apply hJ7; intro u_) | (apply hJ22; intro u_) | (apply hJ43; intro u_) | (apply hJ73; intro u_) | refine LnL.nil ?_) | ((with_reducible refine Bi.dec true ?_ ?_); focus exact rfl) | ((with_reducible refine Bi.dec false ?_ ?_); focus exact rfl) | ((with_reducible refine Bi.sdec true ?_ ?_); focus decide) | ((with_reducible refine Bi.sdec false ?_ ?_); focus decide))
          · refine MkM.pt (kt := .str) E ?_
            clear E
            intro kb w_ hkb E
            (repeat first | (with_reducible first | refine Stp.go ?_ | refine StpE.go E ?_ | (refine StpW.go E ?_; clear E; intro w_ E) | (refine StpA.go E ?_; clear E; intro b_ w_ hb_ E) | (apply hJ7; intro u_) | (apply hJ22; intro u_) | (apply hJ43; intro u_) | (apply hJ73; intro u_) | refine LnL.nil ?_) | ((with_reducible refine Bi.dec true ?_ ?_); focus exact rfl) | ((with_reducible refine Bi.dec false ?_ ?_); focus exact rfl) | ((with_reducible refine Bi.sdec true ?_ ?_); focus decide) | ((with_reducible refine Bi.sdec false ?_ ?_); focus decide))
            replace E := Hs.star (ls := [mp kb .str []]) E
            (replace E := ((E.bIx 0).bIx 1))
            have hD : isD perm = true := by simp [isD, h0]
            exact fin73 511 kb _ (by unfold Tr.modeN; rw [if_neg h0, xor511]) (by rw [hD]; exact E)
          · replace E := Hs.starNil E
            (replace E := ((E.bIx 0).bIx 1))
            have hD : isD perm = false := by simp [isD, h0]
            exact fin73 438 0 _ (by unfold Tr.modeN; rw [if_pos h0, xor438]) (by rw [hD]; exact E)
        clear hJ43
        have hlen := h.len
        replace E := Hs.openT E
        (repeat first | (with_reducible first | refine Stp.go ?_ | refine StpE.go E ?_ | (refine StpW.go E ?_; clear E; intro w_ E) | (refine StpA.go E ?_; clear E; intro b_ w_ hb_ E) | (apply hJ7; intro u_) | (apply hJ22; intro u_) | (apply hJ43; intro u_) | (apply hJ73; intro u_) | refine LnL.nil ?_) | ((with_reducible refine Bi.dec true ?_ ?_); focus exact rfl) | ((with_reducible refine Bi.dec false ?_ ?_); focus exact rfl) | ((with_reducible refine Bi.sdec true ?_ ?_); focus decide) | ((with_reducible refine Bi.sdec false ?_ ?_); focus decide))
        refine Len.map E FMp.mem u_mfiles ?_
        rw [encM_length]
        refine Bi.geq ?_ ?_ <;> intro h1 <;> (repeat first | (with_reducible first | refine Stp.go ?_ | refine StpE.go E ?_ | (refine StpW.go E ?_; clear E; intro w_ E) | (refine StpA.go E ?_; clear E; intro b_ w_ hb_ E) | (apply hJ7; intro u_) | (apply hJ22; intro u_) | (apply hJ43; intro u_) | (apply hJ73; intro u_) | refine LnL.nil ?_) | ((with_reducible refine Bi.dec true ?_ ?_); focus exact rfl) | ((with_reducible refine Bi.dec false ?_ ?_); focus exact rfl) | ((with_reducible refine Bi.sdec true ?_ ?_); focus decide) | ((with_reducible refine Bi.sdec false ?_ ?_); focus decide))
        · exact fin43 _ _ (by rw [decide_eq_true (.inl (by omega))]) (Hs.closeT X E)
        · refine (room_ok E).mono ?_
          clear E
          rintro r w_ ⟨rfl, E⟩
          by_cases h2 : X.ol.length < 64
          · rw [decide_eq_true h2]
            (repeat first | (with_reducible first | refine Stp.go ?_ | refine StpE.go E ?_ | (refine StpW.go E ?_; clear E; intro w_ E) | (refine StpA.go E ?_; clear E; intro b_ w_ hb_ E) | (apply hJ7; intro u_) | (apply hJ22; intro u_) | (apply hJ43; intro u_) | (apply hJ73; intro u_) | refine LnL.nil ?_) | ((with_reducible refine Bi.dec true ?_ ?_); focus exact rfl) | ((with_reducible refine Bi.dec false ?_ ?_); focus exact rfl) | ((with_reducible refine Bi.sdec true ?_ ?_); focus decide) | ((with_reducible refine Bi.sdec false ?_ ?_); focus decide))
            exact fin43 _ _ (by rw [decide_eq_false (by omega)]) (Hs.closeT X E)
          · rw [decide_eq_false h2]
            (repeat first | (with_reducible first | refine Stp.go ?_ | refine StpE.go E ?_ | (refine StpW.go E ?_; clear E; intro w_ E) | (refine StpA.go E ?_; clear E; intro b_ w_ hb_ E) | (apply hJ7; intro u_) | (apply hJ22; intro u_) | (apply hJ43; intro u_) | (apply hJ73; intro u_) | refine LnL.nil ?_) | ((with_reducible refine Bi.dec true ?_ ?_); focus exact rfl) | ((with_reducible refine Bi.dec false ?_ ?_); focus exact rfl) | ((with_reducible refine Bi.sdec true ?_ ?_); focus decide) | ((with_reducible refine Bi.sdec false ?_ ?_); focus decide))
            exact fin43 _ _ (by rw [decide_eq_true (.inr (by omega))]) (Hs.closeT X E)
    clear hJ22
    refine (Valid_ok hns).mono ?_
    rintro r w' ⟨rfl, rfl⟩
    cases h1 : goodName name with
    | false => (repeat first | (with_reducible first | refine Stp.go ?_ | refine StpE.go E ?_ | (refine StpW.go E ?_; clear E; intro w_ E) | (refine StpA.go E ?_; clear E; intro b_ w_ hb_ E) | (apply hJ7; intro u_) | (apply hJ22; intro u_) | (apply hJ43; intro u_) | (apply hJ73; intro u_) | refine LnL.nil ?_) | ((with_reducible refine Bi.dec true ?_ ?_); focus exact rfl) | ((with_reducible refine Bi.dec false ?_ ?_); focus exact rfl) | ((with_reducible refine Bi.sdec true ?_ ?_); focus decide) | ((with_reducible refine Bi.sdec false ?_ ?_); focus decide)); exact fin22 _ _ (by rw [decide_eq_true (.inl h1)]) E
    | true =>
      (repeat first | (with_reducible first | refine Stp.go ?_ | refine StpE.go E ?_ | (refine StpW.go E ?_; clear E; intro w_ E) | (refine StpA.go E ?_; clear E; intro b_ w_ hb_ E) | (apply hJ7; intro u_) | (apply hJ22; intro u_) | (apply hJ43; intro u_) | (apply hJ73; intro u_) | refine LnL.nil ?_) | ((with_reducible refine Bi.dec true ?_ ?_); focus exact rfl) | ((with_reducible refine Bi.dec false ?_ ?_); focus exact rfl) | ((with_reducible refine Bi.sdec true ?_ ?_); focus decide) | ((with_reducible refine Bi.sdec false ?_ ?_); focus decide))
      refine (Valid_ok hus).mono ?_
      rintro r w' ⟨rfl, rfl⟩
      cases h2 : goodName user with
      | false => (repeat first | (with_reducible first | refine Stp.go ?_ | refine StpE.go E ?_ | (refine StpW.go E ?_; clear E; intro w_ E) | (refine StpA.go E ?_; clear E; intro b_ w_ hb_ E) | (apply hJ7; intro u_) | (apply hJ22; intro u_) | (apply hJ43; intro u_) | (apply hJ73; intro u_) | refine LnL.nil ?_) | ((with_reducible refine Bi.dec true ?_ ?_); focus exact rfl) | ((with_reducible refine Bi.dec false ?_ ?_); focus exact rfl) | ((with_reducible refine Bi.sdec true ?_ ?_); focus decide) | ((with_reducible refine Bi.sdec false ?_ ?_); focus decide)); exact fin22 _ _ (by rw [decide_eq_true (.inr h2)]) E
      | true => (repeat first | (with_reducible first | refine Stp.go ?_ | refine StpE.go E ?_ | (refine StpW.go E ?_; clear E; intro w_ E) | (refine StpA.go E ?_; clear E; intro b_ w_ hb_ E) | (apply hJ7; intro u_) | (apply hJ22; intro u_) | (apply hJ43; intro u_) | (apply hJ73; intro u_) | refine LnL.nil ?_) | ((with_reducible refine Bi.dec true ?_ ?_); focus exact rfl) | ((with_reducible refine Bi.dec false ?_ ?_); focus exact rfl) | ((with_reducible refine Bi.sdec true ?_ ?_); focus decide) | ((with_reducible refine Bi.sdec false ?_ ?_); focus decide)); exact fin22 _ _ (by rw [decide_eq_false (by rw [h1, h2]; simp)]) E
  clear hJ7
  (repeat first | (with_reducible first | refine Stp.go ?_ | refine StpE.go E ?_ | (refine StpW.go E ?_; clear E; intro w_ E) | (refine StpA.go E ?_; clear E; intro b_ w_ hb_ E) | (apply hJ7; intro u_) | (apply hJ22; intro u_) | (apply hJ43; intro u_) | (apply hJ73; intro u_) | refine LnL.nil ?_) | ((with_reducible refine Bi.dec true ?_ ?_); focus exact rfl) | ((with_reducible refine Bi.dec false ?_ ?_); focus exact rfl) | ((with_reducible refine Bi.sdec true ?_ ?_); focus decide) | ((with_reducible refine Bi.sdec false ?_ ?_); focus decide))
  refine Bi.neq ?_ ?_ <;> intro h1 <;> (repeat first | (with_reducible first | refine Stp.go ?_ | refine StpE.go E ?_ | (refine StpW.go E ?_; clear E; intro w_ E) | (refine StpA.go E ?_; clear E; intro b_ w_ hb_ E) | (apply hJ7; intro u_) | (apply hJ22; intro u_) | (apply hJ43; intro u_) | (apply hJ73; intro u_) | refine LnL.nil ?_) | ((with_reducible refine Bi.dec true ?_ ?_); focus exact rfl) | ((with_reducible refine Bi.dec false ?_ ?_); focus exact rfl) | ((with_reducible refine Bi.sdec true ?_ ?_); focus decide) | ((with_reducible refine Bi.sdec false ?_ ?_); focus decide))
  · exact fin7 _ _ (by rw [decide_eq_true (.inl h1)]) E
  refine (right_ok E).mono ?_
  clear E
  rintro r w_ ⟨rfl, E⟩
  cases h2 : rightM perm with
  | false => (repeat first | (with_reducible first | refine Stp.go ?_ | refine StpE.go E ?_ | (refine StpW.go E ?_; clear E; intro w_ E) | (refine StpA.go E ?_; clear E; intro b_ w_ hb_ E) | (apply hJ7; intro u_) | (apply hJ22; intro u_) | (apply hJ43; intro u_) | (apply hJ73; intro u_) | refine LnL.nil ?_) | ((with_reducible refine Bi.dec true ?_ ?_); focus exact rfl) | ((with_reducible refine Bi.dec false ?_ ?_); focus exact rfl) | ((with_reducible refine Bi.sdec true ?_ ?_); focus decide) | ((with_reducible refine Bi.sdec false ?_ ?_); focus decide)); exact fin7 _ _ (by rw [decide_eq_true (.inr (.inl h2))]) E
  | true =>
    (repeat first | (with_reducible first | refine Stp.go ?_ | refine StpE.go E ?_ | (refine StpW.go E ?_; clear E; intro w_ E) | (refine StpA.go E ?_; clear E; intro b_ w_ hb_ E) | (apply hJ7; intro u_) | (apply hJ22; intro u_) | (apply hJ43; intro u_) | (apply hJ73; intro u_) | refine LnL.nil ?_) | ((with_reducible refine Bi.dec true ?_ ?_); focus exact rfl) | ((with_reducible refine Bi.dec false ?_ ?_); focus exact rfl) | ((with_reducible refine Bi.sdec true ?_ ?_); focus decide) | ((with_reducible refine Bi.sdec false ?_ ?_); focus decide))
    refine Bi.neq ?_ ?_ <;> intro h3 <;> (repeat first | (with_reducible first | refine Stp.go ?_ | refine StpE.go E ?_ | (refine StpW.go E ?_; clear E; intro w_ E) | (refine StpA.go E ?_; clear E; intro b_ w_ hb_ E) | (apply hJ7; intro u_) | (apply hJ22; intro u_) | (apply hJ43; intro u_) | (apply hJ73; intro u_) | refine LnL.nil ?_) | ((with_reducible refine Bi.dec true ?_ ?_); focus exact rfl) | ((with_reducible refine Bi.dec false ?_ ?_); focus exact rfl) | ((with_reducible refine Bi.sdec true ?_ ?_); focus decide) | ((with_reducible refine Bi.sdec false ?_ ?_); focus decide))
    · refine Bi.neq ?_ ?_ <;> intro h4 <;> (repeat first | (with_reducible first | refine Stp.go ?_ | refine StpE.go E ?_ | (refine StpW.go E ?_; clear E; intro w_ E) | (refine StpA.go E ?_; clear E; intro b_ w_ hb_ E) | (apply hJ7; intro u_) | (apply hJ22; intro u_) | (apply hJ43; intro u_) | (apply hJ73; intro u_) | refine LnL.nil ?_) | ((with_reducible refine Bi.dec true ?_ ?_); focus exact rfl) | ((with_reducible refine Bi.dec false ?_ ?_); focus exact rfl) | ((with_reducible refine Bi.sdec true ?_ ?_); focus decide) | ((with_reducible refine Bi.sdec false ?_ ?_); focus decide))
      · exact fin7 _ _ (by rw [decide_eq_true (.inr (.inr ⟨h3, h4⟩))]) E
      · exact fin7 _ _ (by rw [decide_eq_false fun hc => hc.elim (fun h => h h1) fun h => h.elim (fun h => by rw [h2] at h; cases h) fun h => h.2 h4]) E
    · exact fin7 _ _ (by rw [decide_eq_false fun hc => hc.elim (fun h => h h1) fun h => h.elim (fun h => by rw [h2] at h; cases h) fun h => h.1 h3]) E
end Go.Proofs.YtnnhmahemklnkaaGreatDoor

/-
  Trees: groups; what is wrong with them.
-/
namespace Go.Proofs.YtnnhmahemklnkaaGreatDoor
open Go Go.Sh
set_option maxRecDepth 100000
set_option linter.unusedVariables false
set_option linter.unusedSimpArgs false
variable {w0 w : World} {F : Nat → Prop} {l : List As}

theorem RdS.src {P : Program} {n : Nat} {v : Value} {xs : List Value} (h : RdS w0 F l 1 n v xs) (E : Hs w0 F w l) (hs : xs.all scalV = true) : Src P 1 w v n xs := by
  obtain ⟨a, c, rfl, hc, hl, hx⟩ := h
  refine ⟨fun _ => rfl, fun w' hw => ?_, hl, hs⟩
  rcases hx with rfl | ⟨q, rfl, hq⟩
  · have : n = 0 := by simp at hl; omega
    subst this
    cases a with
    | none => rfl
    | some a => simp [Builtin.firstCells, loadCells, loadCellsFrom]
  · refine run_firstCells_some w' 1 n q n c xs hl fun j v hj => ?_
    rcases hq with rfl | ⟨b, o, rfl, hq⟩
    · cases hj
    · rw [add_mk]
      have := hq w E j v hj
      unfold World.cell? at this ⊢
      rw [hw]; exact this

/-- Groups that are handed in. -/
abbrev Gs := List (BA × List BA)
abbrev gcell (g : BA × Value) : List Value := [str g.1, g.2]
structure GIn (w0 : World) (F : Nat → Prop) (l : List As) (v : Value) (gv : List (BA × Value)) (gs : Gs) : Prop where
  rd : RdS w0 F l 2 gs.length v (gv.flatMap gcell)
  len : gv.length = gs.length
  one : ∀ (i : Nat) a b, gv[i]? = some a → gs[i]? = some b → a.1 = b.1 ∧ RdS w0 F l 1 b.2.length a.2 (b.2.map str)
theorem GIn.weaken {l' : List As} {v : Value} {gv : List (BA × Value)} {gs : Gs} (h : GIn w0 F l v gv gs) (hl : ∀ w, Hs w0 F w l' → Hs w0 F w l) : GIn w0 F l' v gv gs :=
  ⟨h.rd.weaken hl, h.len, fun i a b ha hb => ⟨(h.one i a b ha hb).1, (h.one i a b ha hb).2.weaken hl⟩⟩
theorem flat_drop (gv : List (BA × Value)) : ∀ i : Nat, (gv.flatMap gcell).drop (i * 2) = (gv.drop i).flatMap gcell := by
  induction gv with
  | nil => intro i; simp
  | cons g r ih =>
    intro i
    cases i with
    | zero => simp
    | succ i =>
      rw [List.flatMap_cons, show (i + 1) * 2 = i * 2 + 1 + 1 by omega]
      simp only [gcell, List.cons_append, List.nil_append, List.drop_succ_cons]
      exact ih i
/-- The groups' words, the first some of them. -/
def gwords (gs : Gs) : List BA := gs.flatMap fun g => g.1 :: g.2
def glimit (gs : Gs) : Bool := decide (16 < gs.length) || gs.any fun g => decide (16 < g.2.length)
/-- What is wrong with groups and further names. -/
def checkG (gs : Gs) (names : List BA) : Int :=
  if glimit gs = true then 3 else if (names ++ gwords gs).any (fun s => !goodName s) = true then 8 else if (gs.any fun g => twice g.2) || twice (gs.map (·.1)) then 5 else 0

theorem check1_ok {s : BA} (hs : s.size ≤ 9223372036854775807) (E : Hs w0 F w l) : CaV PP (.func (.func Fn.tree_check_1) #[] #[]) #[str s] w fun r w' => r = .bool (!goodName s) ∧ Hs w0 F w' l := by
  refine CaV.mk (by kernel_rfl) ?_
  refine S.tree_check_1.calls ?_
  unfold S.tree_check_1
  refine (Valid_ok hs).mono ?_
  rintro r w' ⟨rfl, rfl⟩
  cases goodName s with
  | true => (repeat first | (with_reducible first | refine Stp.go ?_ | refine StpE.go E ?_ | (refine StpW.go E ?_; clear E; intro w_ E) | (refine StpA.go E ?_; clear E; intro b_ w_ hb_ E) | refine LnL.nil ?_) | ((with_reducible refine Bi.dec true ?_ ?_); focus exact rfl) | ((with_reducible refine Bi.dec false ?_ ?_); focus exact rfl) | ((with_reducible refine Bi.sdec true ?_ ?_); focus decide) | ((with_reducible refine Bi.sdec false ?_ ?_); focus decide)); exact ⟨rfl, E⟩
  | false => (repeat first | (with_reducible first | refine Stp.go ?_ | refine StpE.go E ?_ | (refine StpW.go E ?_; clear E; intro w_ E) | (refine StpA.go E ?_; clear E; intro b_ w_ hb_ E) | refine LnL.nil ?_) | ((with_reducible refine Bi.dec true ?_ ?_); focus exact rfl) | ((with_reducible refine Bi.dec false ?_ ?_); focus exact rfl) | ((with_reducible refine Bi.sdec true ?_ ?_); focus decide) | ((with_reducible refine Bi.sdec false ?_ ?_); focus decide)); exact ⟨rfl, E⟩

theorem check_ok {v nv : Value} {gv : List (BA × Value)} {gs : Gs} {names : List BA} (hg : GIn w0 F l v gv gs) (hn : names.length ≤ 1000) (hgl : gs.length ≤ 100000) (hul : ∀ g ∈ gs, g.2.length ≤ 100000) (hsz : ∀ s ∈ names ++ gwords gs, s.size ≤ 9223372036854775807)
    (E : Hs w0 F w (slA nv Ty.string 1 (names.map str) :: l)) : Ca PP Fn.tree_check #[v, nv] w fun r w' => r = i64 (checkG gs names) ∧ Hs w0 F w' l := by
  refine S.tree_check.calls ?_
  unfold S.tree_check
  refine hg.rd.len ?_
  refine Bi.mk rfl ?_
  refine hg.rd.len ?_
  have E0 : Hs w0 F w (slA nv Ty.string 1 (names.map str) :: slA (.slice none 0 0) Ty.string 1 [] :: l) := (Hs.nilSl E Ty.string 1).perm (List.Perm.swap _ _ _)
  refine ⟨fun l1 w1 => ∃ (i : Nat) (nv tv : Value), i ≤ gs.length ∧ l1 = [nv, tv, .bool (decide ((gs.length : Int) > 16) || (gs.take i).any fun g => decide (16 < g.2.length)), .bool ((gs.take i).any fun g => twice g.2), i64 i] ∧
    Hs w0 F w1 (slA nv Ty.string 1 ((names ++ gwords (gs.take i)).map str) :: slA tv Ty.string 1 (((gs.take i).map (·.1)).map str) :: l), fun l1 _ => match l1 with | [_, _, _, _, .int _ i] => gs.length - i.toNat | _ => 0,
    ⟨0, nv, .slice none 0 0, Nat.zero_le _, by simp, by simpa [gwords] using E0⟩, ?_⟩
  clear E E0
  rintro t1 t5 t6 t7 t15 u w1 ⟨i, nv, tv, hi, h1, E⟩
  cases h1
  have hwl : ∀ g : Gs, g.length ≤ 100000 → (∀ x ∈ g, x.2.length ≤ 100000) → (gwords g).length ≤ g.length * 100001 := by
    intro g
    induction g with
    | nil => intro _ _; simp [gwords]
    | cons x r ih =>
      intro h1 h2
      have := ih (by simp at h1; omega) fun y hy => h2 y (List.mem_cons_of_mem _ hy)
      have h3 := h2 x List.mem_cons_self
      unfold gwords at this ⊢
      rw [List.flatMap_cons, List.length_append, List.length_cons, List.length_cons]
      omega
  have hgw : (gwords (gs.take i)).length ≤ i * 100001 := by
    have := hwl (gs.take i) (by simp; omega) fun x hx => hul x (List.mem_of_mem_take hx)
    rw [List.length_take, Nat.min_eq_left hi] at this
    exact this
  refine Bi.lss ?_ ?_ <;> intro hlt <;> (repeat first | (with_reducible first | refine Stp.go ?_ | refine StpE.go E ?_ | (refine StpW.go E ?_; clear E; intro w_ E) | (refine StpA.go E ?_; clear E; intro b_ w_ hb_ E) | (apply hJ14; intro u_) | (apply hJ27; intro u_) | (apply hJ83; intro u_) | refine LnL.nil ?_) | ((with_reducible refine Bi.dec true ?_ ?_); focus exact rfl) | ((with_reducible refine Bi.dec false ?_ ?_); focus exact rfl) | ((with_reducible refine Bi.sdec true ?_ ?_); focus decide) | ((with_reducible refine Bi.sdec false ?_ ?_); focus decide))
  · have hx : gs[i]? = some gs[i] := List.getElem?_eq_getElem (by omega)
    have hy : gv[i]? = some (gv[i]'(by rw [hg.len]; omega)) := List.getElem?_eq_getElem (by rw [hg.len]; omega)
    obtain ⟨nm, uv, hgi⟩ : ∃ nm uv, gv[i]'(by rw [hg.len]; omega) = (nm, uv) := ⟨_, _, rfl⟩
    obtain ⟨us, hus⟩ : ∃ us, gs[i] = (nm, us) := ⟨gs[i].2, by have := (hg.one i _ _ hy hx).1; rw [hgi] at this; exact Prod.ext this.symm rfl⟩
    have hu := (hg.one i _ _ hy hx).2
    rw [hgi, hus] at hu
    rw [hus] at hx
    rw [hgi] at hy
    have hul1 : us.length ≤ 100000 := hul (nm, us) (List.mem_of_getElem? hx)
    simp only [] at hu
    (intro J14 hJ14)
    refine ((hg.rd.cons (slA t5 Ty.string 1 (((gs.take i).map (·.1)).map str))).cons (slA t1 Ty.string 1 ((names ++ gwords (gs.take i)).map str))).ix (by omega) (by omega) (by omega) ?_
    intro a ha
    rw [Int.toNat_natCast, flat_drop, List.drop_eq_getElem_cons (by rw [hg.len]; omega), hgi, List.flatMap_cons] at ha
    have hus2 := hu
    obtain ⟨p, c, huv, -⟩ := hus2
    refine ha.lda E (m := 2) (ds := [str nm, uv]) rfl rfl (by omega) ?_
    clear ha
    subst huv
    (repeat first | (with_reducible first | refine Stp.go ?_ | refine StpE.go E ?_ | (refine StpW.go E ?_; clear E; intro w_ E) | (refine StpA.go E ?_; clear E; intro b_ w_ hb_ E) | (apply hJ14; intro u_) | (apply hJ27; intro u_) | (apply hJ83; intro u_) | refine LnL.nil ?_) | ((with_reducible refine Bi.dec true ?_ ?_); focus exact rfl) | ((with_reducible refine Bi.dec false ?_ ?_); focus exact rfl) | ((with_reducible refine Bi.sdec true ?_ ?_); focus decide) | ((with_reducible refine Bi.sdec false ?_ ?_); focus decide))
    (revert b_; intro g hbg E)
    have tk : gs.take (i + 1) = gs.take i ++ [(nm, us)] := by rw [List.take_add_one, hx]; rfl
    have hgw2 : gwords (gs.take (i + 1)) = gwords (gs.take i) ++ [nm] ++ us := by rw [tk]; simp [gwords]
    (intro J27 hJ27)
    have fin : ∀ b w_, b = (decide ((gs.length : Int) > 16) || (gs.take (i + 1)).any fun g => decide (16 < g.2.length)) → Hs w0 F w_ (pt g (oc [str nm, .slice p us.length c] Ty.tree_Group) :: slA t1 Ty.string 1 ((names ++ gwords (gs.take i)).map str) :: slA t5 Ty.string 1 (((gs.take i).map (·.1)).map str) :: l) → J27 [.bool b] w_ := by
      intro b w_ hb E
      (repeat first | (with_reducible first | refine Stp.go ?_ | refine StpE.go E ?_ | (refine StpW.go E ?_; clear E; intro w_ E) | (refine StpA.go E ?_; clear E; intro b_ w_ hb_ E) | (apply hJ14; intro u_) | (apply hJ27; intro u_) | (apply hJ83; intro u_) | refine LnL.nil ?_) | ((with_reducible refine Bi.dec true ?_ ?_); focus exact rfl) | ((with_reducible refine Bi.dec false ?_ ?_); focus exact rfl) | ((with_reducible refine Bi.sdec true ?_ ?_); focus decide) | ((with_reducible refine Bi.sdec false ?_ ?_); focus decide))
      clear hJ27
      refine BdS.one E u_sl_string e_string rfl ?_
      clear E
      intro v1 w_ E
      refine ⟨by (repeat first | (with_reducible first | refine Stp.go ?_ | refine StpE.go E ?_ | (refine StpW.go E ?_; clear E; intro w_ E) | (refine StpA.go E ?_; clear E; intro b_ w_ hb_ E) | (apply hJ14; intro u_) | (apply hJ27; intro u_) | (apply hJ83; intro u_) | refine LnL.nil ?_) | ((with_reducible refine Bi.dec true ?_ ?_); focus exact rfl) | ((with_reducible refine Bi.dec false ?_ ?_); focus exact rfl) | ((with_reducible refine Bi.sdec true ?_ ?_); focus decide) | ((with_reducible refine Bi.sdec false ?_ ?_); focus decide)); rfl, ?_⟩
      refine Ap.one E (i := 2) rfl u_sl_string ⟨_, u_sl_string, fun _ h => by cases h⟩ e_string (Src.one E (by (first | assumption | exact FPt.mem | exact FMp.mem | exact FSl.mem | (repeat (first | assumption | with_reducible exact List.mem_cons_self | refine List.mem_cons_of_mem _ ?_)))) rfl) rfl (by simp; omega) (by simp; omega) ?_
      clear E
      intro v2 w_ E
      (try simp only [List.set_cons_zero, List.set_cons_succ, List.cons_append, List.nil_append, Nat.zero_add, Nat.add_zero] at E)
      refine ⟨by (repeat first | (with_reducible first | refine Stp.go ?_ | refine StpE.go E ?_ | (refine StpW.go E ?_; clear E; intro w_ E) | (refine StpA.go E ?_; clear E; intro b_ w_ hb_ E) | (apply hJ14; intro u_) | (apply hJ27; intro u_) | (apply hJ83; intro u_) | refine LnL.nil ?_) | ((with_reducible refine Bi.dec true ?_ ?_); focus exact rfl) | ((with_reducible refine Bi.dec false ?_ ?_); focus exact rfl) | ((with_reducible refine Bi.sdec true ?_ ?_); focus decide) | ((with_reducible refine Bi.sdec false ?_ ?_); focus decide)); rfl, ?_⟩
      refine Ap.one E (i := 2) rfl u_sl_string ⟨_, u_sl_string, fun _ h => by cases h⟩ e_string (RdS.src ((((hu.cons _).cons _).cons _).cons _) E (strs_scal us)) rfl (by simp; omega) (by simp; omega) ?_
      clear E
      intro v3 w_ E
      (try simp only [List.set_cons_zero, List.set_cons_succ, List.cons_append, List.nil_append, Nat.zero_add, Nat.add_zero] at E)
      (repeat first | (with_reducible first | refine Stp.go ?_ | refine StpE.go E ?_ | (refine StpW.go E ?_; clear E; intro w_ E) | (refine StpA.go E ?_; clear E; intro b_ w_ hb_ E) | (apply hJ14; intro u_) | (apply hJ27; intro u_) | (apply hJ83; intro u_) | refine LnL.nil ?_) | ((with_reducible refine Bi.dec true ?_ ?_); focus exact rfl) | ((with_reducible refine Bi.dec false ?_ ?_); focus exact rfl) | ((with_reducible refine Bi.sdec true ?_ ?_); focus decide) | ((with_reducible refine Bi.sdec false ?_ ?_); focus decide))
      refine BdS.one E u_sl_string e_string rfl ?_
      clear E
      intro v4 w_ E
      refine Ap.one E (i := 4) rfl u_sl_string ⟨_, u_sl_string, fun _ h => by cases h⟩ e_string (Src.one E (by (first | assumption | exact FPt.mem | exact FMp.mem | exact FSl.mem | (repeat (first | assumption | with_reducible exact List.mem_cons_self | refine List.mem_cons_of_mem _ ?_)))) rfl) rfl (by simp; omega) (by simp; omega) ?_
      clear E
      intro v5 w_ E
      (try simp only [List.set_cons_zero, List.set_cons_succ, List.cons_append, List.nil_append, Nat.zero_add, Nat.add_zero] at E)
      have fin2 : ∀ b2 w_, b2 = ((gs.take (i + 1)).any fun g => twice g.2) → Hs w0 F w_ (slA v3 Ty.string 1 ((names ++ gwords (gs.take (i + 1))).map str) :: slA v5 Ty.string 1 (((gs.take (i + 1)).map (·.1)).map str) :: l) → J14 [v3, v5, .bool b, .bool b2] w_ := by
        intro b2 w_ hb2 E
        (repeat first | (with_reducible first | refine Stp.go ?_ | refine StpE.go E ?_ | (refine StpW.go E ?_; clear E; intro w_ E) | (refine StpA.go E ?_; clear E; intro b_ w_ hb_ E) | (apply hJ14; intro u_) | (apply hJ27; intro u_) | (apply hJ83; intro u_) | refine LnL.nil ?_) | ((with_reducible refine Bi.dec true ?_ ?_); focus exact rfl) | ((with_reducible refine Bi.dec false ?_ ?_); focus exact rfl) | ((with_reducible refine Bi.sdec true ?_ ?_); focus decide) | ((with_reducible refine Bi.sdec false ?_ ?_); focus decide))
        refine Bi.add (by omega) ?_
        exact ⟨⟨i + 1, v3, v5, by omega, by rw [hb, hb2]; simp, E⟩, by simp only []; omega⟩
      clear hJ14
      have e1 : List.map str (names ++ gwords (List.take i gs)) ++ [str nm] ++ List.map str us = (names ++ gwords (gs.take (i + 1))).map str := by rw [hgw2]; simp
      have e2 : List.map str (List.map (fun x => x.1) (List.take i gs)) ++ [str nm] = ((gs.take (i + 1)).map (·.1)).map str := by rw [tk]; simp
      rw [e1, e2] at E
      have eq2 : ((gs.take (i + 1)).any fun g => twice g.2) = (((gs.take i).any fun g => twice g.2) || twice us) := by rw [tk]; simp
      cases hb2 : (gs.take i).any fun g => twice g.2 with
      | true => (repeat first | (with_reducible first | refine Stp.go ?_ | refine StpE.go E ?_ | (refine StpW.go E ?_; clear E; intro w_ E) | (refine StpA.go E ?_; clear E; intro b_ w_ hb_ E) | (apply hJ14; intro u_) | (apply hJ27; intro u_) | (apply hJ83; intro u_) | refine LnL.nil ?_) | ((with_reducible refine Bi.dec true ?_ ?_); focus exact rfl) | ((with_reducible refine Bi.dec false ?_ ?_); focus exact rfl) | ((with_reducible refine Bi.sdec true ?_ ?_); focus decide) | ((with_reducible refine Bi.sdec false ?_ ?_); focus decide)); exact fin2 _ _ (by rw [eq2, hb2]; rfl) E.tl.tl.tl
      | false =>
        (repeat first | (with_reducible first | refine Stp.go ?_ | refine StpE.go E ?_ | (refine StpW.go E ?_; clear E; intro w_ E) | (refine StpA.go E ?_; clear E; intro b_ w_ hb_ E) | (apply hJ14; intro u_) | (apply hJ27; intro u_) | (apply hJ83; intro u_) | refine LnL.nil ?_) | ((with_reducible refine Bi.dec true ?_ ?_); focus exact rfl) | ((with_reducible refine Bi.dec false ?_ ?_); focus exact rfl) | ((with_reducible refine Bi.sdec true ?_ ?_); focus decide) | ((with_reducible refine Bi.sdec false ?_ ?_); focus decide))
        refine (repeated_ok (by omega) E (((((hu.cons _).cons _).cons _).cons _).cons _)).mono ?_
        clear E
        rintro r w_ ⟨rfl, E⟩
        (repeat first | (with_reducible first | refine Stp.go ?_ | refine StpE.go E ?_ | (refine StpW.go E ?_; clear E; intro w_ E) | (refine StpA.go E ?_; clear E; intro b_ w_ hb_ E) | (apply hJ14; intro u_) | (apply hJ27; intro u_) | (apply hJ83; intro u_) | refine LnL.nil ?_) | ((with_reducible refine Bi.dec true ?_ ?_); focus exact rfl) | ((with_reducible refine Bi.dec false ?_ ?_); focus exact rfl) | ((with_reducible refine Bi.sdec true ?_ ?_); focus decide) | ((with_reducible refine Bi.sdec false ?_ ?_); focus decide))
        exact fin2 _ _ (by rw [eq2, hb2]; rfl) E.tl.tl.tl
    clear hJ27
    have eq1 : (decide ((gs.length : Int) > 16) || (gs.take (i + 1)).any fun g => decide (16 < g.2.length)) = ((decide ((gs.length : Int) > 16) || (gs.take i).any fun g => decide (16 < g.2.length)) || decide (16 < us.length)) := by rw [tk]; simp [Bool.or_assoc]
    cases hb : (decide ((gs.length : Int) > 16) || (gs.take i).any fun g => decide (16 < g.2.length)) with
    | true => (repeat first | (with_reducible first | refine Stp.go ?_ | refine StpE.go E ?_ | (refine StpW.go E ?_; clear E; intro w_ E) | (refine StpA.go E ?_; clear E; intro b_ w_ hb_ E) | (apply hJ14; intro u_) | (apply hJ27; intro u_) | (apply hJ83; intro u_) | refine LnL.nil ?_) | ((with_reducible refine Bi.dec true ?_ ?_); focus exact rfl) | ((with_reducible refine Bi.dec false ?_ ?_); focus exact rfl) | ((with_reducible refine Bi.sdec true ?_ ?_); focus decide) | ((with_reducible refine Bi.sdec false ?_ ?_); focus decide)); exact fin _ _ (by rw [eq1, hb]; rfl) E
    | false =>
      (repeat first | (with_reducible first | refine Stp.go ?_ | refine StpE.go E ?_ | (refine StpW.go E ?_; clear E; intro w_ E) | (refine StpA.go E ?_; clear E; intro b_ w_ hb_ E) | (apply hJ14; intro u_) | (apply hJ27; intro u_) | (apply hJ83; intro u_) | refine LnL.nil ?_) | ((with_reducible refine Bi.dec true ?_ ?_); focus exact rfl) | ((with_reducible refine Bi.dec false ?_ ?_); focus exact rfl) | ((with_reducible refine Bi.sdec true ?_ ?_); focus decide) | ((with_reducible refine Bi.sdec false ?_ ?_); focus decide))
      refine hu.len ?_
      (repeat first | (with_reducible first | refine Stp.go ?_ | refine StpE.go E ?_ | (refine StpW.go E ?_; clear E; intro w_ E) | (refine StpA.go E ?_; clear E; intro b_ w_ hb_ E) | (apply hJ14; intro u_) | (apply hJ27; intro u_) | (apply hJ83; intro u_) | refine LnL.nil ?_) | ((with_reducible refine Bi.dec true ?_ ?_); focus exact rfl) | ((with_reducible refine Bi.dec false ?_ ?_); focus exact rfl) | ((with_reducible refine Bi.sdec true ?_ ?_); focus decide) | ((with_reducible refine Bi.sdec false ?_ ?_); focus decide))
      refine Bi.gtr ?_ ?_ <;> intro h16 <;> (repeat first | (with_reducible first | refine Stp.go ?_ | refine StpE.go E ?_ | (refine StpW.go E ?_; clear E; intro w_ E) | (refine StpA.go E ?_; clear E; intro b_ w_ hb_ E) | (apply hJ14; intro u_) | (apply hJ27; intro u_) | (apply hJ83; intro u_) | refine LnL.nil ?_) | ((with_reducible refine Bi.dec true ?_ ?_); focus exact rfl) | ((with_reducible refine Bi.dec false ?_ ?_); focus exact rfl) | ((with_reducible refine Bi.sdec true ?_ ?_); focus decide) | ((with_reducible refine Bi.sdec false ?_ ?_); focus decide))
      · exact fin _ _ (by rw [eq1, hb, decide_eq_true (by omega)]; rfl) E
      · exact fin _ _ (by rw [eq1, hb, decide_eq_false (by omega)]; rfl) E
  · obtain rfl : i = gs.length := by omega
    rw [List.take_length] at E ⊢
    have hgl2 : (decide ((gs.length : Int) > 16) || gs.any fun g => decide (16 < g.2.length)) = glimit gs := by
      unfold glimit
      congr 1
      exact decide_eq_decide.2 (by omega)
    rw [hgl2]
    cases hl : glimit gs with
    | true => (repeat first | (with_reducible first | refine Stp.go ?_ | refine StpE.go E ?_ | (refine StpW.go E ?_; clear E; intro w_ E) | (refine StpA.go E ?_; clear E; intro b_ w_ hb_ E) | (apply hJ14; intro u_) | (apply hJ27; intro u_) | (apply hJ83; intro u_) | refine LnL.nil ?_) | ((with_reducible refine Bi.dec true ?_ ?_); focus exact rfl) | ((with_reducible refine Bi.dec false ?_ ?_); focus exact rfl) | ((with_reducible refine Bi.sdec true ?_ ?_); focus decide) | ((with_reducible refine Bi.sdec false ?_ ?_); focus decide)); exact ⟨by unfold checkG; rw [if_pos hl], E.tl.tl⟩
    | false =>
      have hln : ¬ glimit gs = true := by rw [hl]; simp
      (repeat first | (with_reducible first | refine Stp.go ?_ | refine StpE.go E ?_ | (refine StpW.go E ?_; clear E; intro w_ E) | (refine StpA.go E ?_; clear E; intro b_ w_ hb_ E) | (apply hJ14; intro u_) | (apply hJ27; intro u_) | (apply hJ83; intro u_) | refine LnL.nil ?_) | ((with_reducible refine Bi.dec true ?_ ?_); focus exact rfl) | ((with_reducible refine Bi.dec false ?_ ?_); focus exact rfl) | ((with_reducible refine Bi.sdec true ?_ ?_); focus decide) | ((with_reducible refine Bi.sdec false ?_ ?_); focus decide))
      have hgw3 := hgw
      rw [List.take_length] at hgw3
      have hr := RdS.by1 t1 E
      rw [List.length_map] at hr
      refine (ContainsFunc_ok (p := fun s => !goodName s) (by simp only [List.length_append]; omega) E hr fun x hx w1 E => check1_ok (hsz x hx) E).mono ?_
      clear E
      rintro r w_ ⟨rfl, E⟩
      cases hc : (names ++ gwords gs).any fun s => !goodName s with
      | true => (repeat first | (with_reducible first | refine Stp.go ?_ | refine StpE.go E ?_ | (refine StpW.go E ?_; clear E; intro w_ E) | (refine StpA.go E ?_; clear E; intro b_ w_ hb_ E) | (apply hJ14; intro u_) | (apply hJ27; intro u_) | (apply hJ83; intro u_) | refine LnL.nil ?_) | ((with_reducible refine Bi.dec true ?_ ?_); focus exact rfl) | ((with_reducible refine Bi.dec false ?_ ?_); focus exact rfl) | ((with_reducible refine Bi.sdec true ?_ ?_); focus decide) | ((with_reducible refine Bi.sdec false ?_ ?_); focus decide)); exact ⟨by unfold checkG; rw [if_neg hln, if_pos hc], E.tl.tl⟩
      | false =>
        have hcn : ¬ ((names ++ gwords gs).any fun s => !goodName s) = true := by rw [hc]; simp
        (repeat first | (with_reducible first | refine Stp.go ?_ | refine StpE.go E ?_ | (refine StpW.go E ?_; clear E; intro w_ E) | (refine StpA.go E ?_; clear E; intro b_ w_ hb_ E) | (apply hJ14; intro u_) | (apply hJ27; intro u_) | (apply hJ83; intro u_) | refine LnL.nil ?_) | ((with_reducible refine Bi.dec true ?_ ?_); focus exact rfl) | ((with_reducible refine Bi.dec false ?_ ?_); focus exact rfl) | ((with_reducible refine Bi.sdec true ?_ ?_); focus decide) | ((with_reducible refine Bi.sdec false ?_ ?_); focus decide))
        (intro J83 hJ83)
        have fin : ∀ b w_, b = ((gs.any fun g => twice g.2) || twice (gs.map (·.1))) → Hs w0 F w_ (slA t1 Ty.string 1 ((names ++ gwords gs).map str) :: slA t5 Ty.string 1 ((gs.map (·.1)).map str) :: l) → J83 [.bool b] w_ := by
          intro b w_ hb E
          (repeat first | (with_reducible first | refine Stp.go ?_ | refine StpE.go E ?_ | (refine StpW.go E ?_; clear E; intro w_ E) | (refine StpA.go E ?_; clear E; intro b_ w_ hb_ E) | (apply hJ14; intro u_) | (apply hJ27; intro u_) | (apply hJ83; intro u_) | refine LnL.nil ?_) | ((with_reducible refine Bi.dec true ?_ ?_); focus exact rfl) | ((with_reducible refine Bi.dec false ?_ ?_); focus exact rfl) | ((with_reducible refine Bi.sdec true ?_ ?_); focus decide) | ((with_reducible refine Bi.sdec false ?_ ?_); focus decide))
          cases b with
          | true => (repeat first | (with_reducible first | refine Stp.go ?_ | refine StpE.go E ?_ | (refine StpW.go E ?_; clear E; intro w_ E) | (refine StpA.go E ?_; clear E; intro b_ w_ hb_ E) | (apply hJ14; intro u_) | (apply hJ27; intro u_) | (apply hJ83; intro u_) | refine LnL.nil ?_) | ((with_reducible refine Bi.dec true ?_ ?_); focus exact rfl) | ((with_reducible refine Bi.dec false ?_ ?_); focus exact rfl) | ((with_reducible refine Bi.sdec true ?_ ?_); focus decide) | ((with_reducible refine Bi.sdec false ?_ ?_); focus decide)); exact ⟨by unfold checkG; rw [if_neg hln, if_neg hcn, ← hb]; rfl, E.tl.tl⟩
          | false => (repeat first | (with_reducible first | refine Stp.go ?_ | refine StpE.go E ?_ | (refine StpW.go E ?_; clear E; intro w_ E) | (refine StpA.go E ?_; clear E; intro b_ w_ hb_ E) | (apply hJ14; intro u_) | (apply hJ27; intro u_) | (apply hJ83; intro u_) | refine LnL.nil ?_) | ((with_reducible refine Bi.dec true ?_ ?_); focus exact rfl) | ((with_reducible refine Bi.dec false ?_ ?_); focus exact rfl) | ((with_reducible refine Bi.sdec true ?_ ?_); focus decide) | ((with_reducible refine Bi.sdec false ?_ ?_); focus decide)); exact ⟨by unfold checkG; rw [if_neg hln, if_neg hcn, ← hb]; rfl, E.tl.tl⟩
        clear hJ83
        cases h2 : gs.any fun g => twice g.2 with
        | true => (repeat first | (with_reducible first | refine Stp.go ?_ | refine StpE.go E ?_ | (refine StpW.go E ?_; clear E; intro w_ E) | (refine StpA.go E ?_; clear E; intro b_ w_ hb_ E) | (apply hJ14; intro u_) | (apply hJ27; intro u_) | (apply hJ83; intro u_) | refine LnL.nil ?_) | ((with_reducible refine Bi.dec true ?_ ?_); focus exact rfl) | ((with_reducible refine Bi.dec false ?_ ?_); focus exact rfl) | ((with_reducible refine Bi.sdec true ?_ ?_); focus decide) | ((with_reducible refine Bi.sdec false ?_ ?_); focus decide)); exact fin _ _ (by rw [h2]; rfl) E
        | false =>
          (repeat first | (with_reducible first | refine Stp.go ?_ | refine StpE.go E ?_ | (refine StpW.go E ?_; clear E; intro w_ E) | (refine StpA.go E ?_; clear E; intro b_ w_ hb_ E) | (apply hJ14; intro u_) | (apply hJ27; intro u_) | (apply hJ83; intro u_) | refine LnL.nil ?_) | ((with_reducible refine Bi.dec true ?_ ?_); focus exact rfl) | ((with_reducible refine Bi.dec false ?_ ?_); focus exact rfl) | ((with_reducible refine Bi.sdec true ?_ ?_); focus decide) | ((with_reducible refine Bi.sdec false ?_ ?_); focus decide))
          have hr2 := RdS.by1 t5 E
          rw [List.length_map] at hr2
          refine (repeated_ok (by simp; omega) E hr2).mono ?_
          clear E
          rintro r w_ ⟨rfl, E⟩
          (repeat first | (with_reducible first | refine Stp.go ?_ | refine StpE.go E ?_ | (refine StpW.go E ?_; clear E; intro w_ E) | (refine StpA.go E ?_; clear E; intro b_ w_ hb_ E) | (apply hJ14; intro u_) | (apply hJ27; intro u_) | (apply hJ83; intro u_) | refine LnL.nil ?_) | ((with_reducible refine Bi.dec true ?_ ?_); focus exact rfl) | ((with_reducible refine Bi.dec false ?_ ?_); focus exact rfl) | ((with_reducible refine Bi.sdec true ?_ ?_); focus decide) | ((with_reducible refine Bi.sdec false ?_ ?_); focus decide))
          exact fin _ _ (by rw [h2]; rfl) E
end Go.Proofs.YtnnhmahemklnkaaGreatDoor

/-
  Trees: a new tree.
-/
namespace Go.Proofs.YtnnhmahemklnkaaGreatDoor
open Go Go.Sh
set_option maxRecDepth 100000
set_option linter.unusedVariables false
set_option linter.unusedSimpArgs false
variable {w0 w : World} {F : Nat → Prop} {l : List As}

theorem BdS.zero {P : Program} {t e : TypeId} {k : Value → World → Prop} (E : Hs w0 F w l) (h1 : P.underlying t = some (.slice e)) (h2 : sizeK P e = some 1)
    (hk : ∀ v w', Hs w0 F w' (slA v e 1 [] :: l) → k v w') : Ef P (Instr.buildSlice t 0 #[]) w k := by
  refine ⟨.slice (some ⟨w.heap.size, 0, none⟩) 0 0, w.alloc (.cells #[] e), ?_, hk _ _ (E.add (Upd.alloc w _) ⟨.inr ⟨w.heap.size, 0, 0, 0, [], [], (0, 0), rfl, ?_, rfl, rfl, by simp, Nat.le_refl _, Free.zero _⟩⟩ fun b hb => ?_)⟩
  · have hr : Array.range 0 = #[] := rfl
    simp [Instr.buildSlice, run_underlying h1, run_sizeK h2, Instr.fill, newRow, run_newObj', hr]
  · rw [heap_alloc_new]; simp [ocf]
  · have hb : some w.heap.size = some b := hb
    cases hb; exact Nat.le_refl _
theorem s_string : sizeK PP Ty.string = some 1 := by kernel_rfl

theorem Clone_ok {v : Value} {us : List BA} (h : RdS w0 F l 1 us.length v (us.map str)) (hl : us.length ≤ 100000) (E : Hs w0 F w l) :
    Ca PP Fn.slices_Clone_sl_string_string #[v] w fun r w' => Hs w0 F w' (slA r Ty.string 1 (us.map str) :: l) := by
  refine S.slices_Clone_sl_string_string.calls ?_
  unfold S.slices_Clone_sl_string_string
  have h' := h
  obtain ⟨a, c, rfl, hc, -, hx⟩ := h'
  cases a with
  | none =>
    have h0 : us = [] := by
      rcases hx with h1 | ⟨p, h1, _⟩
      · simpa using h1
      · cases h1
    subst h0
    refine Eq.et u_sl_string rfl ?_
    (repeat first | (with_reducible first | refine Stp.go ?_ | refine StpE.go E ?_ | (refine StpW.go E ?_; clear E; intro w_ E) | (refine StpA.go E ?_; clear E; intro b_ w_ hb_ E) | refine LnL.nil ?_) | ((with_reducible refine Bi.dec true ?_ ?_); focus exact rfl) | ((with_reducible refine Bi.dec false ?_ ?_); focus exact rfl) | ((with_reducible refine Bi.sdec true ?_ ?_); focus decide) | ((with_reducible refine Bi.sdec false ?_ ?_); focus decide))
    exact Hs.nilSl E _ _
  | some a =>
    refine Eq.ef u_sl_string rfl ?_
    (repeat first | (with_reducible first | refine Stp.go ?_ | refine StpE.go E ?_ | (refine StpW.go E ?_; clear E; intro w_ E) | (refine StpA.go E ?_; clear E; intro b_ w_ hb_ E) | refine LnL.nil ?_) | ((with_reducible refine Bi.dec true ?_ ?_); focus exact rfl) | ((with_reducible refine Bi.dec false ?_ ?_); focus exact rfl) | ((with_reducible refine Bi.sdec true ?_ ?_); focus decide) | ((with_reducible refine Bi.sdec false ?_ ?_); focus decide))
    refine BdS.zero E u_sl_string s_string ?_
    clear E
    intro v1 w_ E
    refine Ap.one E (i := 0) rfl u_sl_string ⟨_, u_sl_string, fun _ h => by cases h⟩ e_string (RdS.src (h.cons _) E (strs_scal us)) rfl (by simp; omega) (by simp; omega) ?_
    clear E
    intro v2 w_ E
    (try simp only [List.set_cons_zero, List.set_cons_succ, List.cons_append, List.nil_append, Nat.zero_add, Nat.add_zero] at E)
    exact E

theorem getL_app {κ β : Type} [DecidableEq κ] (L M : List (κ × β)) (k : κ) : getL (L ++ M) k = (getL L k).or (getL M k) := by
  unfold getL
  rw [List.find?_append]
  cases L.find? fun p => decide (k = p.1) <;> rfl
abbrev t0V (gm fm om : Nat) : List Value := [.pointer none, .map (some fm), .map (some gm), i64 1, i64 0, .map (some om)]
theorem empty_ok {D : List Row} {v : Value} {gv : List (BA × Value)} {gs : Gs} (hg : GIn w0 F l v gv gs) (hn : (gs.map (·.1)).Nodup) (hgl : gs.length ≤ 16) (hul : ∀ g ∈ gs, g.2.length ≤ 16)
    (E : Hs w0 F w (Pool D :: l)) : Ca PP Fn.tree_empty #[v] w fun r w' => ∃ t fm gm om D' gr, r = ptr t ∧ (∀ x ∈ D, x ∈ D') ∧ GTie D' gr gs ∧
      Hs w0 F w' (pt t (oc (t0V gm fm om) Ty.tree_Tree) :: mp fm (.int .i64) [] :: mp gm .str (encM Value.string id gr) :: mp om (.int .i64) [] :: Pool D' :: l) := by
  refine S.tree_empty.calls ?_
  unfold S.tree_empty
  refine MkM.pt (kt := .int .i64) E ?_
  clear E
  intro fm w_ hfm E
  refine MkM.pt (kt := .str) E ?_
  clear E
  intro gm w_ hgm E
  refine MkM.pt (kt := .int .i64) E ?_
  clear E
  intro om w_ hom E
  (repeat first | (with_reducible first | refine Stp.go ?_ | refine StpE.go E ?_ | (refine StpW.go E ?_; clear E; intro w_ E) | (refine StpA.go E ?_; clear E; intro b_ w_ hb_ E) | refine LnL.nil ?_) | ((with_reducible refine Bi.dec true ?_ ?_); focus exact rfl) | ((with_reducible refine Bi.dec false ?_ ?_); focus exact rfl) | ((with_reducible refine Bi.sdec true ?_ ?_); focus decide) | ((with_reducible refine Bi.sdec false ?_ ?_); focus decide))
  (revert b_; intro t hbt E)
  refine hg.rd.len ?_
  refine ⟨fun l1 w1 => ∃ (i : Nat) (D' : List Row) (gr : List (BA × Value)), i ≤ gs.length ∧ l1 = [i64 i] ∧ (∀ x ∈ D, x ∈ D') ∧ GTie D' gr (gs.take i) ∧ gr.map (·.1) = (gs.take i).map (·.1) ∧
    Hs w0 F w1 (pt t (oc (t0V gm fm om) Ty.tree_Tree) :: mp fm (.int .i64) [] :: mp gm .str (encM Value.string id gr) :: mp om (.int .i64) [] :: Pool D' :: l), fun l1 _ => match l1 with | [.int _ i] => gs.length - i.toNat | _ => 0,
    ⟨0, D, [], Nat.zero_le _, rfl, fun _ h => h, fun _ => rfl, rfl, by (replace E := ((((E.bIx 1).bIx 2).bIx 3).bIx 3)); exact E⟩, ?_⟩
  clear E
  rintro t15 u w1 ⟨i, D', gr, hi, h1, hD, hgt, hkeys, E⟩
  cases h1
  refine Bi.lss ?_ ?_ <;> intro hlt <;> (repeat first | (with_reducible first | refine Stp.go ?_ | refine StpE.go E ?_ | (refine StpW.go E ?_; clear E; intro w_ E) | (refine StpA.go E ?_; clear E; intro b_ w_ hb_ E) | refine LnL.nil ?_) | ((with_reducible refine Bi.dec true ?_ ?_); focus exact rfl) | ((with_reducible refine Bi.dec false ?_ ?_); focus exact rfl) | ((with_reducible refine Bi.sdec true ?_ ?_); focus decide) | ((with_reducible refine Bi.sdec false ?_ ?_); focus decide))
  · have hx : gs[i]? = some gs[i] := List.getElem?_eq_getElem (by omega)
    have hy : gv[i]? = some (gv[i]'(by rw [hg.len]; omega)) := List.getElem?_eq_getElem (by rw [hg.len]; omega)
    obtain ⟨nm, uv, hgi⟩ : ∃ nm uv, gv[i]'(by rw [hg.len]; omega) = (nm, uv) := ⟨_, _, rfl⟩
    obtain ⟨us, hus⟩ : ∃ us, gs[i] = (nm, us) := ⟨gs[i].2, by have := (hg.one i _ _ hy hx).1; rw [hgi] at this; exact Prod.ext this.symm rfl⟩
    have hu := (hg.one i _ _ hy hx).2
    rw [hgi, hus] at hu
    rw [hus] at hx
    have hul1 : us.length ≤ 16 := hul (nm, us) (List.mem_of_getElem? hx)
    simp only [] at hu
    have tk : gs.take (i + 1) = gs.take i ++ [(nm, us)] := by rw [List.take_add_one, hx]; rfl
    refine (((((hg.rd.cons (Pool D')).cons (mp om (.int .i64) [])).cons (mp gm .str (encM Value.string id gr))).cons (mp fm (.int .i64) [])).cons (pt t (oc (t0V gm fm om) Ty.tree_Tree))).ix (by omega) (by omega) (by omega) ?_
    intro a ha
    rw [Int.toNat_natCast, flat_drop, List.drop_eq_getElem_cons (by rw [hg.len]; omega), hgi, List.flatMap_cons] at ha
    have hus2 := hu
    obtain ⟨p, c, huv, -⟩ := hus2
    refine ha.lda E (m := 2) (ds := [str nm, uv]) rfl rfl (by omega) ?_
    clear ha
    subst huv
    (repeat first | (with_reducible first | refine Stp.go ?_ | refine StpE.go E ?_ | (refine StpW.go E ?_; clear E; intro w_ E) | (refine StpA.go E ?_; clear E; intro b_ w_ hb_ E) | refine LnL.nil ?_) | ((with_reducible refine Bi.dec true ?_ ?_); focus exact rfl) | ((with_reducible refine Bi.dec false ?_ ?_); focus exact rfl) | ((with_reducible refine Bi.sdec true ?_ ?_); focus decide) | ((with_reducible refine Bi.sdec false ?_ ?_); focus decide))
    (revert b_; intro g hbg E)
    refine (Clone_ok (((((((hu.cons _).cons _).cons _).cons _).cons _).cons _)) (by omega) E).mono ?_
    clear E
    rintro r w_ E
    refine ⟨by (repeat first | (with_reducible first | refine Stp.go ?_ | refine StpE.go E ?_ | (refine StpW.go E ?_; clear E; intro w_ E) | (refine StpA.go E ?_; clear E; intro b_ w_ hb_ E) | refine LnL.nil ?_) | ((with_reducible refine Bi.dec true ?_ ?_); focus exact rfl) | ((with_reducible refine Bi.dec false ?_ ?_); focus exact rfl) | ((with_reducible refine Bi.sdec true ?_ ?_); focus decide) | ((with_reducible refine Bi.sdec false ?_ ?_); focus decide)); rfl, by (repeat first | (with_reducible first | refine Stp.go ?_ | refine StpE.go E ?_ | (refine StpW.go E ?_; clear E; intro w_ E) | (refine StpA.go E ?_; clear E; intro b_ w_ hb_ E) | refine LnL.nil ?_) | ((with_reducible refine Bi.dec true ?_ ?_); focus exact rfl) | ((with_reducible refine Bi.dec false ?_ ?_); focus exact rfl) | ((with_reducible refine Bi.sdec true ?_ ?_); focus decide) | ((with_reducible refine Bi.sdec false ?_ ?_); focus decide)); rfl, ?_⟩
    refine Mu.by E u_mgroups k_str rfl ?_
    clear E
    intro w_ E
    have hout : nm ∉ gr.map (·.1) := by
      rw [hkeys]
      intro hc
      have h1 : (gs.map (·.1)) = ((gs.take i).map (·.1)) ++ ((gs.drop i).map (·.1)) := by rw [← List.map_append, List.take_append_drop]
      rw [h1, List.nodup_append] at hn
      refine hn.2.2 nm hc nm ?_ rfl
      rw [List.drop_eq_getElem_cons (by omega), hus]
      exact List.mem_cons_self
    have he : aput (encM Value.string id gr) (str nm) r = encM Value.string id (gr ++ [(nm, r)]) := by rw [← putL_new hout]; exact aput_enc (ev := id) keyS _ _ _
    rw [he] at E
    refine Bi.add (by omega) ?_
    refine ⟨⟨i + 1, ⟨r, Ty.string, us.map str⟩ :: D', gr ++ [(nm, r)], by omega, by simp, fun x hx => List.mem_cons_of_mem _ (hD x hx), ?_, by rw [tk, List.map_append, List.map_append, hkeys]; rfl, ?_⟩, by simp only []; omega⟩
    · intro y
      have h2 := hgt y
      rw [tk, getL_app, getL_app]
      revert h2
      cases hq : getL (gs.take i) y with
      | some us2 =>
        simp only [Option.some_or]
        rintro ⟨h3, v2, h4, h5⟩
        exact ⟨h3, v2, by rw [h4]; rfl, h5.mono fun x hx => List.mem_cons_of_mem _ hx⟩
      | none =>
        simp only [Option.none_or]
        intro h2
        rw [h2]
        by_cases hy : y = nm
        · subst hy
          have e1 : getL [(y, us)] y = some us := by simp [getL]
          have e2 : getL [(y, r)] y = some r := by simp [getL]
          rw [e1, e2]
          exact ⟨hul1, r, rfl, .inr List.mem_cons_self⟩
        · have e1 : getL [(nm, us)] y = none := by simp [getL, hy]
          have e2 : getL [(nm, r)] y = none := by simp [getL, hy]
          rw [e1, e2]
          rfl
    · replace E := (E.bIx 1).tl
      (replace E := ((E.bIx 5).bIx 1))
      replace E := Hs.pool Ty.string E
      (replace E := (((((E.bIx 0).bIx 4).bIx 4).bIx 4).bIx 4))
      exact E
  · obtain rfl : i = gs.length := by omega
    rw [List.take_length] at hgt
    exact ⟨t, fm, gm, om, D', gr, rfl, hD, hgt, E⟩
end Go.Proofs.YtnnhmahemklnkaaGreatDoor

/-
  Trees: a new tree.
-/
namespace Go.Proofs.YtnnhmahemklnkaaGreatDoor
open Go Go.Sh
set_option maxRecDepth 100000
set_option linter.unusedVariables false
set_option linter.unusedSimpArgs false
variable {w0 w : World} {F : Nat → Prop} {l : List As}

abbrev rootN (owner : BA) : Nd := ⟨0, 0, 2147484157, 0, 0, emp, owner, owner, owner, emp⟩
def newT (owner : BA) (gs : Gs) : Tr := ⟨[rootN owner], 0, 1, gs, []⟩
theorem checkG_zero {gs : Gs} {names : List BA} (h : checkG gs names = 0) : gs.length ≤ 16 ∧ (∀ g ∈ gs, g.2.length ≤ 16) ∧ (∀ s ∈ names ++ gwords gs, goodName s = true) ∧ (gs.map (·.1)).Nodup := by
  unfold checkG at h
  split at h
  · cases h
  rename_i h1
  split at h
  · cases h
  rename_i h2
  split at h
  · cases h
  rename_i h3
  unfold glimit at h1
  simp only [Bool.or_eq_true, decide_eq_true_eq, List.any_eq_true, not_or, not_exists, not_and] at h1 h2 h3
  refine ⟨by omega, fun g hg => by have := h1.2 g hg; omega, fun s hs => by have := h2 s hs; simpa using this, ?_⟩
  have := h3.2
  unfold twice at this
  simpa using this
theorem root_dir : isD 2147484157 = true := by decide
theorem root_right : rightM 2147484157 = true := by decide
theorem newT_inv {owner : BA} {gs : Gs} (ho : goodName owner = true) : Inv (newT owner gs) := by
  have mm : ∀ {P : Nd → Prop}, P (rootN owner) → ∀ n ∈ (newT owner gs).ns, P n := by
    intro P h n hn
    rw [List.mem_singleton.1 hn]; exact h
  refine ⟨List.pairwise_singleton _ _, ⟨_, List.mem_singleton.2 rfl, rfl⟩, mm ⟨Int.le_refl _, by show (0 : Int) < 1; omega⟩, mm fun _ => ⟨root_dir, rfl⟩, mm fun h => absurd rfl h, mm fun _ _ h => absurd rfl h, mm fun h => absurd rfl h, ⟨fun _ => 0, mm fun h => absurd rfl h⟩,
    mm ⟨fun _ => rfl, Nat.zero_le _⟩, mm ⟨ho, ho, root_right, Int.le_refl _, Int.le_refl _⟩, List.Pairwise.nil, (fun _ h => by cases h), (fun _ h => by cases h), (fun _ h => by cases h), ⟨by show 1 ≤ 1024; omega, Nat.zero_le _⟩, Int.le_refl _, mm fun _ => rfl⟩
theorem New_ok {D : List Row} {v : Value} {gv : List (BA × Value)} {gs : Gs} {owner : BA} (hg : GIn w0 F l v gv gs) (hgl : gs.length ≤ 100000) (hul : ∀ g ∈ gs, g.2.length ≤ 100000) (hsz : ∀ s ∈ [owner] ++ gwords gs, s.size ≤ 9223372036854775807)
    (E : Hs w0 F w (Pool D :: l)) : Ca PP Fn.tree_New #[str owner, v] w fun r w' =>
      (checkG gs [owner] ≠ 0 ∧ r = .tuple #[.pointer none, i64 (checkG gs [owner])] ∧ Hs w0 F w' (Pool D :: l)) ∨
      (checkG gs [owner] = 0 ∧ ∃ D' X β, r = .tuple #[ptr X.t, i64 0] ∧ (∀ x ∈ D, x ∈ D') ∧ Tie D' X (newT owner gs) β ∧ Inv (newT owner gs) ∧ Hs w0 F w' (trA X :: Pool D' :: l)) := by
  refine S.tree_New.calls ?_
  unfold S.tree_New
  refine BdS.one E u_sl_string e_string rfl ?_
  clear E
  intro nv w_ E
  refine (check_ok (names := [owner]) (hg.weaken fun w E => E.tl) (by simp) hgl hul hsz E).mono ?_
  clear E
  rintro r w_ ⟨rfl, E⟩
  refine Bi.neq ?_ ?_ <;> intro hc <;> (repeat first | (with_reducible first | refine Stp.go ?_ | refine StpE.go E ?_ | (refine StpW.go E ?_; clear E; intro w_ E) | (refine StpA.go E ?_; clear E; intro b_ w_ hb_ E) | refine LnL.nil ?_) | ((with_reducible refine Bi.dec true ?_ ?_); focus exact rfl) | ((with_reducible refine Bi.dec false ?_ ?_); focus exact rfl) | ((with_reducible refine Bi.sdec true ?_ ?_); focus decide) | ((with_reducible refine Bi.sdec false ?_ ?_); focus decide))
  · exact .inl ⟨hc, rfl, E⟩
  obtain ⟨c1, c2, c3, c4⟩ := checkG_zero hc
  refine (empty_ok hg c4 c1 c2 E).mono ?_
  clear E
  rintro r w_ ⟨t, fm, gm, om, D', gr, rfl, hD, hgt, E⟩
  refine MkM.pt (kt := .str) E ?_
  clear E
  intro kb w_ hkb E
  (repeat first | (with_reducible first | refine Stp.go ?_ | refine StpE.go E ?_ | (refine StpW.go E ?_; clear E; intro w_ E) | (refine StpA.go E ?_; clear E; intro b_ w_ hb_ E) | refine LnL.nil ?_) | ((with_reducible refine Bi.dec true ?_ ?_); focus exact rfl) | ((with_reducible refine Bi.dec false ?_ ?_); focus exact rfl) | ((with_reducible refine Bi.sdec true ?_ ?_); focus decide) | ((with_reducible refine Bi.sdec false ?_ ?_); focus decide))
  (revert b_; intro nb hbnb E)
  have E2 : Hs w0 F w_ (nd nb ⟨0, 0, 0, 0, 0, 0, emp, owner, owner, owner, .slice none 0 0, some kb, none, false⟩ :: mp kb .str [] :: pt t (oc [ptr nb, .map (some fm), .map (some gm), i64 1, i64 0, .map (some om)] Ty.tree_Tree) :: mp fm (.int .i64) [] :: mp gm .str (encM Value.string id gr) :: mp om (.int .i64) [] :: Pool D' :: l) := E
  clear E
  refine (is_ok E2).mono ?_
  clear E2
  rintro r w_ E
  (repeat first | (with_reducible first | refine Stp.go ?_ | refine StpE.go E ?_ | (refine StpW.go E ?_; clear E; intro w_ E) | (refine StpA.go E ?_; clear E; intro b_ w_ hb_ E) | refine LnL.nil ?_) | ((with_reducible refine Bi.dec true ?_ ?_); focus exact rfl) | ((with_reducible refine Bi.dec false ?_ ?_); focus exact rfl) | ((with_reducible refine Bi.sdec true ?_ ?_); focus decide) | ((with_reducible refine Bi.sdec false ?_ ?_); focus decide))
  refine Mu.by E u_mfiles k_i64 rfl ?_
  clear E
  intro w_ E
  obtain ⟨X, hX⟩ : ∃ X : PT, X = ⟨t, nb, fm, gm, om, 1, 0, [⟨rootN owner, nb, 0, .slice none 0 0, kb, [], none⟩], [], [(0, nb)], gr, []⟩ := ⟨_, rfl⟩
  refine .inr ⟨hc, D', X, fun _ => nb, by rw [hX], hD, ?_, newT_inv (c3 owner (by simp)), ?_⟩
  · rw [hX]
    refine ⟨List.Perm.refl _, rfl, rfl, ?_, ?_, ?_, List.Perm.refl _, ⟨_, List.mem_singleton.2 rfl, rfl, rfl⟩, hgt, ?_, List.Perm.refl _, fun x h => by cases h⟩
    · intro n hn
      rw [List.mem_singleton.1 hn]
      exact .inl ⟨rfl, _, _, rfl⟩
    · intro n hn
      rw [List.mem_singleton.1 hn]
      exact ⟨fun _ => rfl, fun h => absurd rfl h⟩
    · intro n hn
      rw [List.mem_singleton.1 hn]
      exact List.Perm.refl _
    · intro n hn
      rw [List.mem_singleton.1 hn]
  · obtain ⟨qn, hqn⟩ : ∃ qn : PN, qn = ⟨rootN owner, nb, 0, .slice none 0 0, kb, [], none⟩ := ⟨_, rfl⟩
    have hmn : qn.mn = ⟨kindOf 2147484157, 0, 0, 2147484157, 0, 0, emp, owner, owner, owner, .slice none 0 0, some kb, none, false⟩ := by
      rw [hqn]
      show MN.mk _ _ _ _ _ _ _ _ _ _ _ (if isD 2147484157 = true then some kb else none) _ _ = _
      rw [if_pos root_dir]
    have hdir : qn.f.dir = true := by rw [hqn]; exact root_dir
    have E2 : Hs w0 F w_ (nd qn.blk qn.mn :: mp qn.kb .str qn.kM :: tb X :: mp X.fm (.int .i64) X.fM :: mp X.gm .str X.gM :: mp X.om (.int .i64) X.oM :: Pool D' :: l) := by
      rw [hmn, hX, hqn]; exact E
    replace E2 := Hs.closeK hdir (E2.bIx 1)
    have E := Hs.starNil (Hs.starNil E2)
    (replace E := ((((((((E.bIx 1).bIx 1).bIx 2).bIx 3).bIx 7).bIx 7).bIx 7).bIx 7))
    exact Hs.closeTN X qn (rs := []) (by rw [hX, hqn]) (by rw [hX] at E ⊢; exact E)
end Go.Proofs.YtnnhmahemklnkaaGreatDoor

/-
  Trees: opening.
-/
namespace Go.Proofs.YtnnhmahemklnkaaGreatDoor
open Go Go.Sh
set_option maxRecDepth 100000
set_option linter.unusedVariables false
set_option linter.unusedSimpArgs false
variable {w0 w : World} {F : Nat → Prop} {l : List As}
variable {D : List Row} {X : PT} {T : Tr} {β : Int → Nat}

theorem u_arr4 : PP.underlying Ty.f_4_int = some (.array 4 Ty.int) := by kernel_rfl
theorem sc_int : scal PP Ty.int = true := by kernel_rfl
theorem si_int : sizeK PP Ty.int = some 1 := by kernel_rfl
theorem and3 (x : Int) : andI x 3 = 0 ∨ andI x 3 = 1 ∨ andI x 3 = 2 ∨ andI x 3 = 3 := by
  unfold andI
  have h : (BitVec.ofInt 64 x &&& BitVec.ofInt 64 3).toNat ≤ 3 := by
    rw [BitVec.toNat_and]
    exact Nat.and_le_right
  generalize (BitVec.ofInt 64 x &&& BitVec.ofInt 64 3).toNat = n at h
  rcases n with _ | _ | _ | _ | n
  · exact .inl (by decide)
  · exact .inr (.inl (by decide))
  · exact .inr (.inr (.inl (by decide)))
  · exact .inr (.inr (.inr (by decide)))
  · omega
theorem Hs.blkN {ps : List PN} (E : Hs w0 F w l) (hm : NT ps ∈ l) {n : PN} (hn : n ∈ ps) : ∃ cs, w.heap[n.blk]? = some (oc cs Ty.tree_node) := by
  have h1 := (E.sat _ hm).1 (PN.as n) (List.mem_map.2 ⟨n, hn, rfl⟩)
  exact ⟨_, h1.1 (nd n.blk n.mn) List.mem_cons_self⟩
theorem Hs.blkD {ds : List (Nat × MN)} (E : Hs w0 F w l) (hm : DT ds ∈ l) {d : Nat × MN} (hd : d ∈ ds) : ∃ cs, w.heap[d.1]? = some (oc cs Ty.tree_node) :=
  ⟨_, (E.sat _ hm).1 (nd d.1 d.2) (List.mem_map.2 ⟨d, hd, rfl⟩)⟩
/-- The block of a handle's file. -/
theorem hob (h : Tie D X T β) (hi : Inv T) {x : Int × Hd} (hx : x ∈ T.hs) {n : PN} {rs : List PN} (hpm : X.ps.Perm (n :: rs)) (E : Hs w0 F w l) (m1 : nd n.blk n.mn ∈ l) (m2 : NT rs ∈ l) (m3 : DT X.ds ∈ l) : ∃ cs, w.heap[β x.2.file]? = some (oc cs Ty.tree_node) := by
  cases hg : T.get x.2.file with
  | none =>
    obtain ⟨m, hm, _⟩ := h.dead x hx (get_none.1 hg)
    exact Hs.blkD E m3 hm
  | some y =>
    obtain ⟨h1, h2⟩ := hi.get.1 hg
    obtain ⟨k, hk, rfl⟩ := h.mem.1 h1
    rw [← h2, h.bl k hk]
    rcases List.mem_cons.1 (hpm.mem_iff.1 hk) with rfl | hr
    · exact ⟨_, E.sat _ m1⟩
    · exact Hs.blkN E m2 hr
/-- A handle points to a file that is there just where it is that file's. -/
theorem hptr (h : Tie D X T β) (hi : Inv T) (E : Hs w0 F w (trA X :: l)) {n : PN} (hn : n ∈ X.ps) {x : Int × Hd} (hx : x ∈ T.hs) : β x.2.file = n.blk ↔ x.2.file = n.f.path := by
  constructor
  · intro he
    cases hg : T.get x.2.file with
    | none =>
      obtain ⟨m, hm, _⟩ := h.dead x hx (get_none.1 hg)
      have E1 := Hs.openT E
      refine absurd ((E1.bIx 5).bIx 5) fun E2 => ?_
      exact Hs.disj E2 (b := n.blk) ⟨PN.as n, List.mem_map.2 ⟨n, hn, rfl⟩, nd n.blk n.mn, List.mem_cons_self, rfl⟩ ⟨_, List.mem_map.2 ⟨_, hm, rfl⟩, he.symm⟩
    | some y =>
      obtain ⟨h1, h2⟩ := hi.get.1 hg
      obtain ⟨k, hk, rfl⟩ := h.mem.1 h1
      rw [← h2, h.bl k hk] at he
      have hnd := Hs.nodupT E
      have : k = n := by
        have key : ∀ (ps : List PN), (ps.map PN.blk).Nodup → k ∈ ps → n ∈ ps → k = n := by
          intro ps
          induction ps with
          | nil => intro _ h; cases h
          | cons x r ih =>
            intro hp ha hb
            rw [List.map_cons, List.nodup_cons] at hp
            rcases List.mem_cons.1 ha with h1 | ha <;> rcases List.mem_cons.1 hb with h2 | hb
            · rw [h1, h2]
            · exact absurd (List.mem_map.2 ⟨n, hb, by rw [← h1, he]⟩) hp.1
            · exact absurd (List.mem_map.2 ⟨k, ha, by rw [← h2, he]⟩) hp.1
            · exact ih hp.2 ha hb
        exact key _ hnd hk hn
      rw [← h2, this]
  · intro he
    rw [he]; exact h.bl n hn

theorem Open_ok (h : Tie D X T β) (hi : Inv T) {N : Int} (hN : N < 4611686018427387904) (hlim : Lim N T) {file mode : Int} {user : BA} (E : Hs w0 F w (trA X :: Pool D :: l)) :
    Ca PP Fn.tree_Tree_Open #[ptr X.t, str user, i64 file, i64 mode] w fun r w' =>
      r = .tuple #[i64 (T.openF user file mode).2.1, (T.openF user file mode).2.2.1.V, i64 (T.openF user file mode).2.2.2] ∧ Goes w0 F l D X (T.openF user file mode).1 w' := by
  refine S.tree_Tree_Open.calls ?_
  unfold S.tree_Tree_Open
  have hnd := Hs.nodupT E
  (repeat first | (with_reducible first | refine Stp.go ?_ | refine StpE.go E ?_ | (refine StpW.go E ?_; clear E; intro w_ E) | (refine StpA.go E ?_; clear E; intro b_ w_ hb_ E) | (apply hJ20; intro u_) | (apply hJ30; intro u_) | (apply hJ34; intro u_) | (apply hJ58; intro u_) | (apply hJ102; intro u_) | (apply hJ112; intro u_) | refine LnL.nil ?_) | ((with_reducible refine Bi.dec true ?_ ?_); focus exact rfl) | ((with_reducible refine Bi.dec false ?_ ?_); focus exact rfl) | ((with_reducible refine Bi.sdec true ?_ ?_); focus decide) | ((with_reducible refine Bi.sdec false ?_ ?_); focus decide))
  (revert b_; intro q hbq E)
  refine Eq.ef u_p_tree rfl ?_
  (repeat first | (with_reducible first | refine Stp.go ?_ | refine StpE.go E ?_ | (refine StpW.go E ?_; clear E; intro w_ E) | (refine StpA.go E ?_; clear E; intro b_ w_ hb_ E) | (apply hJ20; intro u_) | (apply hJ30; intro u_) | (apply hJ34; intro u_) | (apply hJ58; intro u_) | (apply hJ102; intro u_) | (apply hJ112; intro u_) | refine LnL.nil ?_) | ((with_reducible refine Bi.dec true ?_ ?_); focus exact rfl) | ((with_reducible refine Bi.dec false ?_ ?_); focus exact rfl) | ((with_reducible refine Bi.sdec true ?_ ?_); focus decide) | ((with_reducible refine Bi.sdec false ?_ ?_); focus decide))
  (replace E := (((E.bIx 0).bIx 2).bIx 2))
  refine Bi.neq ?_ ?_ <;> intro c1 <;> (repeat first | (with_reducible first | refine Stp.go ?_ | refine StpE.go E ?_ | (refine StpW.go E ?_; clear E; intro w_ E) | (refine StpA.go E ?_; clear E; intro b_ w_ hb_ E) | (apply hJ20; intro u_) | (apply hJ30; intro u_) | (apply hJ34; intro u_) | (apply hJ58; intro u_) | (apply hJ102; intro u_) | (apply hJ112; intro u_) | refine LnL.nil ?_) | ((with_reducible refine Bi.dec true ?_ ?_); focus exact rfl) | ((with_reducible refine Bi.dec false ?_ ?_); focus exact rfl) | ((with_reducible refine Bi.sdec true ?_ ?_); focus decide) | ((with_reducible refine Bi.sdec false ?_ ?_); focus decide))
  · have e : T.openF user file mode = (T, 0, q0, 20) := by unfold Tr.openF; rw [if_pos c1]
    rw [e]
    exact ⟨rfl, .same h (E.bIx 2).tl⟩
  have c1 : ¬ clrI mode 83 ≠ 0 := fun hc => hc c1
  rcases h.find hi file with ⟨h1, h2⟩ | ⟨n, rs, hpm, hn, hpath, h1, h2⟩
  · replace E := Hs.openT E
    refine (find_ok E).mono ?_
    clear E
    rintro r w_ ⟨rfl, E⟩
    rw [h2]
    unfold findV
    (repeat first | (with_reducible first | refine Stp.go ?_ | refine StpE.go E ?_ | (refine StpW.go E ?_; clear E; intro w_ E) | (refine StpA.go E ?_; clear E; intro b_ w_ hb_ E) | (apply hJ20; intro u_) | (apply hJ30; intro u_) | (apply hJ34; intro u_) | (apply hJ58; intro u_) | (apply hJ102; intro u_) | (apply hJ112; intro u_) | refine LnL.nil ?_) | ((with_reducible refine Bi.dec true ?_ ?_); focus exact rfl) | ((with_reducible refine Bi.dec false ?_ ?_); focus exact rfl) | ((with_reducible refine Bi.sdec true ?_ ?_); focus decide) | ((with_reducible refine Bi.sdec false ?_ ?_); focus decide))
    have e : T.openF user file mode = (T, 0, q0, 4) := by unfold Tr.openF; rw [if_neg c1]; simp only [h1]
    rw [e]
    exact ⟨rfl, .same h ((Hs.closeT X E).bIx 2).tl⟩
  have hptr1 := fun (x : Int × Hd) (hx : x ∈ T.hs) => hptr h hi E hn hx
  replace E := Hs.openTN hpm E
  have keep : ∀ w, Hs w0 F w (tb X :: mp X.fm (.int .i64) X.fM :: mp X.gm .str X.gM :: mp X.om (.int .i64) X.oM :: nd n.blk n.mn :: KM n :: NT rs :: DT X.ds :: Pool D :: qd0 q :: l) → Goes w0 F l D X T w :=
    fun w E => .same h ((Hs.closeTN X n hpm E).bIx 2).tl
  refine (find_ok E).mono ?_
  clear E
  rintro r w_ ⟨rfl, E⟩
  rw [h2]
  unfold findV
  subst hpath
  (repeat first | (with_reducible first | refine Stp.go ?_ | refine StpE.go E ?_ | (refine StpW.go E ?_; clear E; intro w_ E) | (refine StpA.go E ?_; clear E; intro b_ w_ hb_ E) | (apply hJ20; intro u_) | (apply hJ30; intro u_) | (apply hJ34; intro u_) | (apply hJ58; intro u_) | (apply hJ102; intro u_) | (apply hJ112; intro u_) | refine LnL.nil ?_) | ((with_reducible refine Bi.dec true ?_ ?_); focus exact rfl) | ((with_reducible refine Bi.dec false ?_ ?_); focus exact rfl) | ((with_reducible refine Bi.sdec true ?_ ?_); focus decide) | ((with_reducible refine Bi.sdec false ?_ ?_); focus decide))
  (intro J20 hJ20)
  have fin20 : ∀ b w_, b = decide (n.f.dir = true ∧ mode ≠ 0) → Hs w0 F w_ (tb X :: mp X.fm (.int .i64) X.fM :: mp X.gm .str X.gM :: mp X.om (.int .i64) X.oM :: nd n.blk n.mn :: KM n :: NT rs :: DT X.ds :: Pool D :: qd0 q :: l) → J20 [.bool b] w_ := by
    intro b w_ hb E
    (repeat first | (with_reducible first | refine Stp.go ?_ | refine StpE.go E ?_ | (refine StpW.go E ?_; clear E; intro w_ E) | (refine StpA.go E ?_; clear E; intro b_ w_ hb_ E) | (apply hJ20; intro u_) | (apply hJ30; intro u_) | (apply hJ34; intro u_) | (apply hJ58; intro u_) | (apply hJ102; intro u_) | (apply hJ112; intro u_) | refine LnL.nil ?_) | ((with_reducible refine Bi.dec true ?_ ?_); focus exact rfl) | ((with_reducible refine Bi.dec false ?_ ?_); focus exact rfl) | ((with_reducible refine Bi.sdec true ?_ ?_); focus decide) | ((with_reducible refine Bi.sdec false ?_ ?_); focus decide))
    by_cases c2 : n.f.dir = true ∧ mode ≠ 0
    · rw [decide_eq_true c2] at hb
      subst hb
      (repeat first | (with_reducible first | refine Stp.go ?_ | refine StpE.go E ?_ | (refine StpW.go E ?_; clear E; intro w_ E) | (refine StpA.go E ?_; clear E; intro b_ w_ hb_ E) | (apply hJ20; intro u_) | (apply hJ30; intro u_) | (apply hJ34; intro u_) | (apply hJ58; intro u_) | (apply hJ102; intro u_) | (apply hJ112; intro u_) | refine LnL.nil ?_) | ((with_reducible refine Bi.dec true ?_ ?_); focus exact rfl) | ((with_reducible refine Bi.dec false ?_ ?_); focus exact rfl) | ((with_reducible refine Bi.sdec true ?_ ?_); focus decide) | ((with_reducible refine Bi.sdec false ?_ ?_); focus decide))
      have e : T.openF user n.f.path mode = (T, 0, q0, 18) := by unfold Tr.openF; rw [if_neg c1]; simp only [h1, if_pos c2]
      rw [e]
      exact ⟨rfl, keep _ E⟩
    rw [decide_eq_false c2] at hb
    subst hb
    (repeat first | (with_reducible first | refine Stp.go ?_ | refine StpE.go E ?_ | (refine StpW.go E ?_; clear E; intro w_ E) | (refine StpA.go E ?_; clear E; intro b_ w_ hb_ E) | (apply hJ20; intro u_) | (apply hJ30; intro u_) | (apply hJ34; intro u_) | (apply hJ58; intro u_) | (apply hJ102; intro u_) | (apply hJ112; intro u_) | refine LnL.nil ?_) | ((with_reducible refine Bi.dec true ?_ ?_); focus exact rfl) | ((with_reducible refine Bi.dec false ?_ ?_); focus exact rfl) | ((with_reducible refine Bi.sdec true ?_ ?_); focus decide) | ((with_reducible refine Bi.sdec false ?_ ?_); focus decide))
    clear hJ20
    refine BdA.mk (cs := #[.int .i64 4, .int .i64 2, .int .i64 6, .int .i64 1]) rfl ?_
    (repeat first | (with_reducible first | refine Stp.go ?_ | refine StpE.go E ?_ | (refine StpW.go E ?_; clear E; intro w_ E) | (refine StpA.go E ?_; clear E; intro b_ w_ hb_ E) | (apply hJ20; intro u_) | (apply hJ30; intro u_) | (apply hJ34; intro u_) | (apply hJ58; intro u_) | (apply hJ102; intro u_) | (apply hJ112; intro u_) | refine LnL.nil ?_) | ((with_reducible refine Bi.dec true ?_ ?_); focus exact rfl) | ((with_reducible refine Bi.dec false ?_ ?_); focus exact rfl) | ((with_reducible refine Bi.sdec true ?_ ?_); focus decide) | ((with_reducible refine Bi.sdec false ?_ ?_); focus decide))
    have hm3 := and3 mode
    refine Ix.arr (cs := [.int .i64 4, .int .i64 2, .int .i64 6, .int .i64 1]) u_arr4 sc_int si_int (by omega) (by omega) (v := i64 (if andI mode 3 = 0 then 4 else if andI mode 3 = 1 then 2 else if andI mode 3 = 2 then 6 else 1)) (by rcases hm3 with h | h | h | h <;> rw [h] <;> rfl) ?_
    (intro J30 hJ30)
    have fin30 : ∀ w_, Hs w0 F w_ (tb X :: mp X.fm (.int .i64) X.fM :: mp X.gm .str X.gM :: mp X.om (.int .i64) X.oM :: nd n.blk n.mn :: KM n :: NT rs :: DT X.ds :: Pool D :: qd0 q :: l) → J30 [i64 (needs mode)] w_ := by
      intro w_ E
      (repeat first | (with_reducible first | refine Stp.go ?_ | refine StpE.go E ?_ | (refine StpW.go E ?_; clear E; intro w_ E) | (refine StpA.go E ?_; clear E; intro b_ w_ hb_ E) | (apply hJ20; intro u_) | (apply hJ30; intro u_) | (apply hJ34; intro u_) | (apply hJ58; intro u_) | (apply hJ102; intro u_) | (apply hJ112; intro u_) | refine LnL.nil ?_) | ((with_reducible refine Bi.dec true ?_ ?_); focus exact rfl) | ((with_reducible refine Bi.dec false ?_ ?_); focus exact rfl) | ((with_reducible refine Bi.sdec true ?_ ?_); focus decide) | ((with_reducible refine Bi.sdec false ?_ ?_); focus decide))
      clear hJ30
      (intro J34 hJ34)
      have fin34 : ∀ b w_, b = decide (T.may user n.f (needs mode) = false ∨ (andI mode 64 ≠ 0 ∧ T.may user (T.parent n.f) 2 = false)) → Hs w0 F w_ (tb X :: mp X.fm (.int .i64) X.fM :: mp X.gm .str X.gM :: mp X.om (.int .i64) X.oM :: nd n.blk n.mn :: KM n :: NT rs :: DT X.ds :: Pool D :: qd0 q :: l) → J34 [.bool b] w_ := by
        intro b w_ hb E
        (repeat first | (with_reducible first | refine Stp.go ?_ | refine StpE.go E ?_ | (refine StpW.go E ?_; clear E; intro w_ E) | (refine StpA.go E ?_; clear E; intro b_ w_ hb_ E) | (apply hJ20; intro u_) | (apply hJ30; intro u_) | (apply hJ34; intro u_) | (apply hJ58; intro u_) | (apply hJ102; intro u_) | (apply hJ112; intro u_) | refine LnL.nil ?_) | ((with_reducible refine Bi.dec true ?_ ?_); focus exact rfl) | ((with_reducible refine Bi.dec false ?_ ?_); focus exact rfl) | ((with_reducible refine Bi.sdec true ?_ ?_); focus decide) | ((with_reducible refine Bi.sdec false ?_ ?_); focus decide))
        by_cases c3 : T.may user n.f (needs mode) = false ∨ (andI mode 64 ≠ 0 ∧ T.may user (T.parent n.f) 2 = false)
        · rw [decide_eq_true c3] at hb
          subst hb
          (repeat first | (with_reducible first | refine Stp.go ?_ | refine StpE.go E ?_ | (refine StpW.go E ?_; clear E; intro w_ E) | (refine StpA.go E ?_; clear E; intro b_ w_ hb_ E) | (apply hJ20; intro u_) | (apply hJ30; intro u_) | (apply hJ34; intro u_) | (apply hJ58; intro u_) | (apply hJ102; intro u_) | (apply hJ112; intro u_) | refine LnL.nil ?_) | ((with_reducible refine Bi.dec true ?_ ?_); focus exact rfl) | ((with_reducible refine Bi.dec false ?_ ?_); focus exact rfl) | ((with_reducible refine Bi.sdec true ?_ ?_); focus decide) | ((with_reducible refine Bi.sdec false ?_ ?_); focus decide))
          have e : T.openF user n.f.path mode = (T, 0, q0, 17) := by unfold Tr.openF; rw [if_neg c1]; simp only [h1, if_neg c2, if_pos c3]
          rw [e]
          exact ⟨rfl, keep _ E⟩
        rw [decide_eq_false c3] at hb
        subst hb
        (repeat first | (with_reducible first | refine Stp.go ?_ | refine StpE.go E ?_ | (refine StpW.go E ?_; clear E; intro w_ E) | (refine StpA.go E ?_; clear E; intro b_ w_ hb_ E) | (apply hJ20; intro u_) | (apply hJ30; intro u_) | (apply hJ34; intro u_) | (apply hJ58; intro u_) | (apply hJ102; intro u_) | (apply hJ112; intro u_) | refine LnL.nil ?_) | ((with_reducible refine Bi.dec true ?_ ?_); focus exact rfl) | ((with_reducible refine Bi.dec false ?_ ?_); focus exact rfl) | ((with_reducible refine Bi.sdec true ?_ ?_); focus decide) | ((with_reducible refine Bi.sdec false ?_ ?_); focus decide))
        clear hJ34
        refine Rg.mp (m := X.om) E u_mopen ?_
        clear E
        intro it es clock w_ hit hes hw hok E
        refine ⟨fun l1 w1 => l1 = [] ∧ ∃ ms, Wlk es clock ms ∧ (∀ e ∈ ms, andI n.f.mode 536870912 ≠ 0 → ∀ hv, e.val = HV.V hv → hv.blk ≠ n.blk) ∧
          Hs w0 F w1 (pt it (itO X.om clock ms) :: pt X.om (mapO es clock) :: tb X :: mp X.fm (.int .i64) X.fM :: mp X.gm .str X.gM :: nd n.blk n.mn :: KM n :: NT rs :: DT X.ds :: Pool D :: qd0 q :: l), fun _ w1 => itM it (es.size + 1) w1, ⟨rfl, [], hw, (fun _ h => by cases h), E⟩, ?_⟩
        clear E hw
        rintro u w1 ⟨-, ms, hw, hno, E⟩
        refine Nx.mp E hw ?_ ?_
        · intro e w_ he hn2 hw2 E2
          have hm : itM it (es.size + 1) w1 = es.size + 1 - ms.length := itM_eq E
          have hle := hw2.le
          simp only [List.length_append, List.length_cons, List.length_nil] at hle
          clear E
          have E := E2
          clear E2
          (repeat first | (with_reducible first | refine Stp.go ?_ | refine StpE.go E ?_ | (refine StpW.go E ?_; clear E; intro w_ E) | (refine StpA.go E ?_; clear E; intro b_ w_ hb_ E) | (apply hJ20; intro u_) | (apply hJ30; intro u_) | (apply hJ34; intro u_) | (apply hJ58; intro u_) | (apply hJ102; intro u_) | (apply hJ112; intro u_) | refine LnL.nil ?_) | ((with_reducible refine Bi.dec true ?_ ?_); focus exact rfl) | ((with_reducible refine Bi.dec false ?_ ?_); focus exact rfl) | ((with_reducible refine Bi.sdec true ?_ ?_); focus decide) | ((with_reducible refine Bi.sdec false ?_ ?_); focus decide))
          refine Ent.mp E hw2 ?_
          have hmem : (e.key, e.val) ∈ X.oM := by rw [← hes]; exact List.mem_map.2 ⟨e, he, rfl⟩
          obtain ⟨y, hy, hye⟩ := List.mem_map.1 hmem
          obtain ⟨x, hx, hxe⟩ := List.mem_map.1 (h.ol.mem_iff.1 hy)
          have hval : e.val = HV.V ⟨β x.2.file, x.2.mode, x.2.user⟩ := by
            have := congrArg Prod.snd hye
            rw [← hxe] at this
            exact this.symm
          rw [hval]
          (repeat first | (with_reducible first | refine Stp.go ?_ | refine StpE.go E ?_ | (refine StpW.go E ?_; clear E; intro w_ E) | (refine StpA.go E ?_; clear E; intro b_ w_ hb_ E) | (apply hJ20; intro u_) | (apply hJ30; intro u_) | (apply hJ34; intro u_) | (apply hJ58; intro u_) | (apply hJ102; intro u_) | (apply hJ112; intro u_) | refine LnL.nil ?_) | ((with_reducible refine Bi.dec true ?_ ?_); focus exact rfl) | ((with_reducible refine Bi.dec false ?_ ?_); focus exact rfl) | ((with_reducible refine Bi.sdec true ?_ ?_); focus decide) | ((with_reducible refine Bi.sdec false ?_ ?_); focus decide))
          (revert b_; intro t hbt E)
          (intro J58 hJ58)
          have fin58 : ∀ b w_, b = decide (x.2.file = n.f.path ∧ andI n.f.mode 536870912 ≠ 0) → Hs w0 F w_ (pt t (oc [ptr (β x.2.file), i64 x.2.mode, str x.2.user] Ty.tree_handle) :: pt it (itO X.om clock (ms ++ [e])) :: pt X.om (mapO es clock) :: tb X :: mp X.fm (.int .i64) X.fM :: mp X.gm .str X.gM :: nd n.blk n.mn :: KM n :: NT rs :: DT X.ds :: Pool D :: qd0 q :: l) → J58 [.bool b] w_ := by
            intro b w_ hb E
            (repeat first | (with_reducible first | refine Stp.go ?_ | refine StpE.go E ?_ | (refine StpW.go E ?_; clear E; intro w_ E) | (refine StpA.go E ?_; clear E; intro b_ w_ hb_ E) | (apply hJ20; intro u_) | (apply hJ30; intro u_) | (apply hJ34; intro u_) | (apply hJ58; intro u_) | (apply hJ102; intro u_) | (apply hJ112; intro u_) | refine LnL.nil ?_) | ((with_reducible refine Bi.dec true ?_ ?_); focus exact rfl) | ((with_reducible refine Bi.dec false ?_ ?_); focus exact rfl) | ((with_reducible refine Bi.sdec true ?_ ?_); focus decide) | ((with_reducible refine Bi.sdec false ?_ ?_); focus decide))
            by_cases c4 : x.2.file = n.f.path ∧ andI n.f.mode 536870912 ≠ 0
            · rw [decide_eq_true c4] at hb
              subst hb
              (repeat first | (with_reducible first | refine Stp.go ?_ | refine StpE.go E ?_ | (refine StpW.go E ?_; clear E; intro w_ E) | (refine StpA.go E ?_; clear E; intro b_ w_ hb_ E) | (apply hJ20; intro u_) | (apply hJ30; intro u_) | (apply hJ34; intro u_) | (apply hJ58; intro u_) | (apply hJ102; intro u_) | (apply hJ112; intro u_) | refine LnL.nil ?_) | ((with_reducible refine Bi.dec true ?_ ?_); focus exact rfl) | ((with_reducible refine Bi.dec false ?_ ?_); focus exact rfl) | ((with_reducible refine Bi.sdec true ?_ ?_); focus decide) | ((with_reducible refine Bi.sdec false ?_ ?_); focus decide))
              have e : T.openF user n.f.path mode = (T, 0, q0, 19) := by unfold Tr.openF; rw [if_neg c1]; simp only [h1, if_neg c2, if_neg c3]; rw [if_pos ⟨c4.2, x, hx, c4.1⟩]
              rw [e]
              replace E := Hs.mapBack (m := X.om) E.tl hes hw2 hok
              replace E := (E.bIx 1).tl
              (replace E := ((((E.bIx 0).bIx 3).bIx 3).bIx 3))
              exact ⟨rfl, keep _ E⟩
            · rw [decide_eq_false c4] at hb
              subst hb
              (repeat first | (with_reducible first | refine Stp.go ?_ | refine StpE.go E ?_ | (refine StpW.go E ?_; clear E; intro w_ E) | (refine StpA.go E ?_; clear E; intro b_ w_ hb_ E) | (apply hJ20; intro u_) | (apply hJ30; intro u_) | (apply hJ34; intro u_) | (apply hJ58; intro u_) | (apply hJ102; intro u_) | (apply hJ112; intro u_) | refine LnL.nil ?_) | ((with_reducible refine Bi.dec true ?_ ?_); focus exact rfl) | ((with_reducible refine Bi.dec false ?_ ?_); focus exact rfl) | ((with_reducible refine Bi.sdec true ?_ ?_); focus decide) | ((with_reducible refine Bi.sdec false ?_ ?_); focus decide))
              refine ⟨⟨rfl, _, hw2, ?_, E.tl⟩, ?_⟩
              · intro e' he' hex hv hev
                rcases List.mem_append.1 he' with h' | h'
                · exact hno e' h' hex hv hev
                · rw [List.mem_singleton.1 h', hval] at hev
                  have : hv.blk = β x.2.file := by
                    simp only [HV.V, Value.agg.injEq, Array.mk.injEq, List.cons.injEq, Value.pointer.injEq, Option.some.injEq, Addr.mk.injEq] at hev
                    exact hev.1.1.symm
                  rw [this]
                  exact fun hc => c4 ⟨(hptr1 x hx).1 hc, hex⟩
              · show itM it (es.size + 1) w_ < itM it (es.size + 1) w1
                rw [hm, itM_eq E.tl]
                simp; omega
          clear hJ58
          obtain ⟨cs1, ho1⟩ := hob h hi hx hpm E (by simp) (by simp) (by simp)
          have ho2 : w_.heap[n.blk]? = some (oc n.mn.C Ty.tree_node) := E.sat (nd n.blk n.mn) (by simp)
          (repeat first | (with_reducible first | refine Stp.go ?_ | refine StpE.go E ?_ | (refine StpW.go E ?_; clear E; intro w_ E) | (refine StpA.go E ?_; clear E; intro b_ w_ hb_ E) | (apply hJ20; intro u_) | (apply hJ30; intro u_) | (apply hJ34; intro u_) | (apply hJ58; intro u_) | (apply hJ102; intro u_) | (apply hJ112; intro u_) | refine LnL.nil ?_) | ((with_reducible refine Bi.dec true ?_ ?_); focus exact rfl) | ((with_reducible refine Bi.dec false ?_ ?_); focus exact rfl) | ((with_reducible refine Bi.sdec true ?_ ?_); focus decide) | ((with_reducible refine Bi.sdec false ?_ ?_); focus decide))
          refine Eq.pp u_p_node n_node ho1 ho2 ?_
          by_cases c5 : β x.2.file = n.blk
          · rw [decide_eq_true (by rw [c5])]
            (repeat first | (with_reducible first | refine Stp.go ?_ | refine StpE.go E ?_ | (refine StpW.go E ?_; clear E; intro w_ E) | (refine StpA.go E ?_; clear E; intro b_ w_ hb_ E) | (apply hJ20; intro u_) | (apply hJ30; intro u_) | (apply hJ34; intro u_) | (apply hJ58; intro u_) | (apply hJ102; intro u_) | (apply hJ112; intro u_) | refine LnL.nil ?_) | ((with_reducible refine Bi.dec true ?_ ?_); focus exact rfl) | ((with_reducible refine Bi.dec false ?_ ?_); focus exact rfl) | ((with_reducible refine Bi.sdec true ?_ ?_); focus decide) | ((with_reducible refine Bi.sdec false ?_ ?_); focus decide))
            refine Bi.neq ?_ ?_ <;> intro c6 <;> (repeat first | (with_reducible first | refine Stp.go ?_ | refine StpE.go E ?_ | (refine StpW.go E ?_; clear E; intro w_ E) | (refine StpA.go E ?_; clear E; intro b_ w_ hb_ E) | (apply hJ20; intro u_) | (apply hJ30; intro u_) | (apply hJ34; intro u_) | (apply hJ58; intro u_) | (apply hJ102; intro u_) | (apply hJ112; intro u_) | refine LnL.nil ?_) | ((with_reducible refine Bi.dec true ?_ ?_); focus exact rfl) | ((with_reducible refine Bi.dec false ?_ ?_); focus exact rfl) | ((with_reducible refine Bi.sdec true ?_ ?_); focus decide) | ((with_reducible refine Bi.sdec false ?_ ?_); focus decide))
            · exact fin58 _ _ (by rw [decide_eq_true ⟨(hptr1 x hx).1 c5, c6⟩]) E
            · exact fin58 _ _ (by rw [decide_eq_false fun hc => hc.2 c6]) E
          · rw [decide_eq_false fun hc => c5 (by simpa using hc)]
            (repeat first | (with_reducible first | refine Stp.go ?_ | refine StpE.go E ?_ | (refine StpW.go E ?_; clear E; intro w_ E) | (refine StpA.go E ?_; clear E; intro b_ w_ hb_ E) | (apply hJ20; intro u_) | (apply hJ30; intro u_) | (apply hJ34; intro u_) | (apply hJ58; intro u_) | (apply hJ102; intro u_) | (apply hJ112; intro u_) | refine LnL.nil ?_) | ((with_reducible refine Bi.dec true ?_ ?_); focus exact rfl) | ((with_reducible refine Bi.dec false ?_ ?_); focus exact rfl) | ((with_reducible refine Bi.sdec true ?_ ?_); focus decide) | ((with_reducible refine Bi.sdec false ?_ ?_); focus decide))
            exact fin58 _ _ (by rw [decide_eq_false fun hc => c5 ((hptr1 x hx).2 hc.1)]) E
        · intro hp
          (repeat first | (with_reducible first | refine Stp.go ?_ | refine StpE.go E ?_ | (refine StpW.go E ?_; clear E; intro w_ E) | (refine StpA.go E ?_; clear E; intro b_ w_ hb_ E) | (apply hJ20; intro u_) | (apply hJ30; intro u_) | (apply hJ34; intro u_) | (apply hJ58; intro u_) | (apply hJ102; intro u_) | (apply hJ112; intro u_) | refine LnL.nil ?_) | ((with_reducible refine Bi.dec true ?_ ?_); focus exact rfl) | ((with_reducible refine Bi.dec false ?_ ?_); focus exact rfl) | ((with_reducible refine Bi.sdec true ?_ ?_); focus decide) | ((with_reducible refine Bi.sdec false ?_ ?_); focus decide))
          have c4 : ¬ (andI n.f.mode 536870912 ≠ 0 ∧ ∃ x ∈ T.hs, x.2.file = n.f.path) := by
            rintro ⟨hex, x, hx, hxf⟩
            have h2 : (x.1, (⟨β x.2.file, x.2.mode, x.2.user⟩ : HV)) ∈ X.ol := h.ol.mem_iff.2 (List.mem_map.2 ⟨x, hx, rfl⟩)
            have h3 : (i64 x.1, HV.V ⟨β x.2.file, x.2.mode, x.2.user⟩) ∈ X.oM := List.mem_map.2 ⟨_, h2, rfl⟩
            rw [← hes] at h3
            obtain ⟨e, he, hee⟩ := List.mem_map.1 h3
            exact hno e (hp.mem_iff.1 he) hex _ (congrArg Prod.snd hee) ((hptr1 x hx).2 hxf)
          replace E := Hs.mapBack (m := X.om) E hes hw hok
          replace E := (E.bIx 1).tl
          (replace E := ((((E.bIx 0).bIx 3).bIx 3).bIx 3))
          refine (room_ok E).mono ?_
          clear E
          rintro r w_ ⟨rfl, E⟩
          have hlen := h.len
          by_cases c5 : X.ol.length < 64
          rotate_left
          · rw [decide_eq_false c5]
            (repeat first | (with_reducible first | refine Stp.go ?_ | refine StpE.go E ?_ | (refine StpW.go E ?_; clear E; intro w_ E) | (refine StpA.go E ?_; clear E; intro b_ w_ hb_ E) | (apply hJ20; intro u_) | (apply hJ30; intro u_) | (apply hJ34; intro u_) | (apply hJ58; intro u_) | (apply hJ102; intro u_) | (apply hJ112; intro u_) | refine LnL.nil ?_) | ((with_reducible refine Bi.dec true ?_ ?_); focus exact rfl) | ((with_reducible refine Bi.dec false ?_ ?_); focus exact rfl) | ((with_reducible refine Bi.sdec true ?_ ?_); focus decide) | ((with_reducible refine Bi.sdec false ?_ ?_); focus decide))
            have e : T.openF user n.f.path mode = (T, 0, q0, 3) := by unfold Tr.openF; rw [if_neg c1]; simp only [h1, if_neg c2, if_neg c3, if_neg c4]; rw [if_pos (by omega)]
            rw [e]
            exact ⟨rfl, keep _ E⟩
          rw [decide_eq_true c5]
          (repeat first | (with_reducible first | refine Stp.go ?_ | refine StpE.go E ?_ | (refine StpW.go E ?_; clear E; intro w_ E) | (refine StpA.go E ?_; clear E; intro b_ w_ hb_ E) | (apply hJ20; intro u_) | (apply hJ30; intro u_) | (apply hJ34; intro u_) | (apply hJ58; intro u_) | (apply hJ102; intro u_) | (apply hJ112; intro u_) | refine LnL.nil ?_) | ((with_reducible refine Bi.dec true ?_ ?_); focus exact rfl) | ((with_reducible refine Bi.dec false ?_ ?_); focus exact rfl) | ((with_reducible refine Bi.sdec true ?_ ?_); focus decide) | ((with_reducible refine Bi.sdec false ?_ ?_); focus decide))
          have c5' : ¬ ¬ T.hs.length < 64 := by omega
          (intro J102 hJ102)
          have fin102 : ∀ (X1 : PT) (T1 : Tr) (n1 : PN) w_, X1.t = X.t → X1.om = X.om → X1.ol = X.ol → Tie D X1 T1 β → Inv T1 → X1.ps.Perm (n1 :: rs) → n1.blk = n.blk → n1.f.path = n.f.path →
              T.openF user n.f.path mode = ((T1.hold ⟨n.f.path, mode, user⟩).1, (T1.hold ⟨n.f.path, mode, user⟩).2, n1.f.qid, 0) →
              Hs w0 F w_ (tb X1 :: mp X1.fm (.int .i64) X1.fM :: mp X1.gm .str X1.gM :: mp X1.om (.int .i64) X1.oM :: nd n1.blk n1.mn :: KM n1 :: NT rs :: DT X1.ds :: Pool D :: qd0 q :: l) → J102 [] w_ := by
            intro X1 T1 n1 w_ e1 e2 e3 ht1 hi1 hpm1 e4 e5 e6 E
            (repeat first | (with_reducible first | refine Stp.go ?_ | refine StpE.go E ?_ | (refine StpW.go E ?_; clear E; intro w_ E) | (refine StpA.go E ?_; clear E; intro b_ w_ hb_ E) | (apply hJ20; intro u_) | (apply hJ30; intro u_) | (apply hJ34; intro u_) | (apply hJ58; intro u_) | (apply hJ102; intro u_) | (apply hJ112; intro u_) | refine LnL.nil ?_) | ((with_reducible refine Bi.dec true ?_ ?_); focus exact rfl) | ((with_reducible refine Bi.dec false ?_ ?_); focus exact rfl) | ((with_reducible refine Bi.sdec true ?_ ?_); focus decide) | ((with_reducible refine Bi.sdec false ?_ ?_); focus decide))
            clear hJ102
            (replace E := (((E.bIx 4).bIx 4).bIx 2))
            rw [← e1, ← e4]
            refine (handle_ok (m := n1.mn) (by rw [e3]; omega) E).mono ?_
            clear E
            rintro r w_ ⟨hh, hfree, rfl, E⟩
            (repeat first | (with_reducible first | refine Stp.go ?_ | refine StpE.go E ?_ | (refine StpW.go E ?_; clear E; intro w_ E) | (refine StpA.go E ?_; clear E; intro b_ w_ hb_ E) | (apply hJ20; intro u_) | (apply hJ30; intro u_) | (apply hJ34; intro u_) | (apply hJ58; intro u_) | (apply hJ102; intro u_) | (apply hJ112; intro u_) | refine LnL.nil ?_) | ((with_reducible refine Bi.dec true ?_ ?_); focus exact rfl) | ((with_reducible refine Bi.dec false ?_ ?_); focus exact rfl) | ((with_reducible refine Bi.sdec true ?_ ?_); focus decide) | ((with_reducible refine Bi.sdec false ?_ ?_); focus decide))
            obtain ⟨g1, g2⟩ := ht1.hold hi1 hfree (n := n1) (hpm1.mem_iff.2 List.mem_cons_self) (mode := mode) (user := user)
            rw [e5] at g1 g2
            rw [e6]
            refine ⟨by rw [← g1]; rfl, D, { X1 with ol := putL X1.ol hh ⟨n1.blk, mode, user⟩ }, β, fun _ h => h, e1.symm ▸ rfl, g2, ?_⟩
            (replace E := (((((((((E.bIx 8).bIx 8).bIx 8).bIx 8).bIx 6).bIx 6).bIx 8).bIx 8).bIx 8))
            exact ((Hs.closeTN { X1 with ol := putL X1.ol hh ⟨n1.blk, mode, user⟩ } n1 hpm1 E).bIx 2).tl
          clear hJ102
          (intro J112 hJ112)
          have fin112 : ∀ b w_, b = decide (andI mode 16 ≠ 0 ∧ andI n.f.mode 1073741824 = 0) → Hs w0 F w_ (tb X :: mp X.fm (.int .i64) X.fM :: mp X.gm .str X.gM :: mp X.om (.int .i64) X.oM :: nd n.blk n.mn :: KM n :: NT rs :: DT X.ds :: Pool D :: qd0 q :: l) → J112 [.bool b] w_ := by
            intro b w_ hb E
            (repeat first | (with_reducible first | refine Stp.go ?_ | refine StpE.go E ?_ | (refine StpW.go E ?_; clear E; intro w_ E) | (refine StpA.go E ?_; clear E; intro b_ w_ hb_ E) | (apply hJ20; intro u_) | (apply hJ30; intro u_) | (apply hJ34; intro u_) | (apply hJ58; intro u_) | (apply hJ102; intro u_) | (apply hJ112; intro u_) | refine LnL.nil ?_) | ((with_reducible refine Bi.dec true ?_ ?_); focus exact rfl) | ((with_reducible refine Bi.dec false ?_ ?_); focus exact rfl) | ((with_reducible refine Bi.sdec true ?_ ?_); focus decide) | ((with_reducible refine Bi.sdec false ?_ ?_); focus decide))
            clear hJ112
            by_cases c6 : andI mode 16 ≠ 0 ∧ andI n.f.mode 1073741824 = 0
            rotate_left
            · rw [decide_eq_false c6] at hb
              subst hb
              (repeat first | (with_reducible first | refine Stp.go ?_ | refine StpE.go E ?_ | (refine StpW.go E ?_; clear E; intro w_ E) | (refine StpA.go E ?_; clear E; intro b_ w_ hb_ E) | (apply hJ20; intro u_) | (apply hJ30; intro u_) | (apply hJ34; intro u_) | (apply hJ58; intro u_) | (apply hJ102; intro u_) | (apply hJ112; intro u_) | refine LnL.nil ?_) | ((with_reducible refine Bi.dec true ?_ ?_); focus exact rfl) | ((with_reducible refine Bi.dec false ?_ ?_); focus exact rfl) | ((with_reducible refine Bi.sdec true ?_ ?_); focus decide) | ((with_reducible refine Bi.sdec false ?_ ?_); focus decide))
              exact fin102 X T n _ rfl rfl rfl h hi hpm rfl rfl (by unfold Tr.openF; rw [if_neg c1]; simp only [h1, if_neg c2, if_neg c3, if_neg c4, if_neg c5', if_neg c6]) E
            rw [decide_eq_true c6] at hb
            subst hb
            (repeat first | (with_reducible first | refine Stp.go ?_ | refine StpE.go E ?_ | (refine StpW.go E ?_; clear E; intro w_ E) | (refine StpA.go E ?_; clear E; intro b_ w_ hb_ E) | (apply hJ20; intro u_) | (apply hJ30; intro u_) | (apply hJ34; intro u_) | (apply hJ58; intro u_) | (apply hJ102; intro u_) | (apply hJ112; intro u_) | refine LnL.nil ?_) | ((with_reducible refine Bi.dec true ?_ ?_); focus exact rfl) | ((with_reducible refine Bi.dec false ?_ ?_); focus exact rfl) | ((with_reducible refine Bi.sdec true ?_ ?_); focus decide) | ((with_reducible refine Bi.sdec false ?_ ?_); focus decide))
            refine BdS.one E u_sl_p_node e_p_node rfl ?_
            clear E
            intro sv w_ E
            (replace E := (((E.bIx 7).bIx 7).bIx 7))
            replace E := wr_lemma (S := fun m : PN => { m with dv := .slice none 0 0, f := { m.f with data := emp } }) (n := n) E hnd hpm
            (replace E := ((E.bIx 0).bIx 2))
            have hv0 := h.clock
            have hcl := hlim.clock
            have hc0 := hi.clock
            refine (change_ok (X := X) (bs := [n.blk]) (RdS.by1 sv E.tl.tl) ?_ (by omega) ?_ (by simp) E).mono ?_
            · intro b hb
              rw [List.mem_singleton.1 hb, updB_blk]
              · exact List.mem_map.2 ⟨n, hn, rfl⟩
              · intro m; rfl
            · intro m hm
              obtain ⟨m', hm', rfl⟩ := List.mem_map.1 hm
              have h1 := lim_fit hi hN hlim h m' hm'
              split <;> exact h1
            clear E
            rintro r w_ E
            have e3 : chgB (X.clock + 1) user [n.blk] (updB X.ps n.blk fun m => { m with dv := .slice none 0 0, f := { m.f with data := emp } }) = updB X.ps n.blk fun m => PN.touch (X.clock + 1) user { m with dv := .slice none 0 0, f := { m.f with data := emp } } := updB_updB fun _ => rfl
            rw [e3] at E
            replace E := (E.bIx 2).tl
            (replace E := (((((E.bIx 1).bIx 4).bIx 4).bIx 4).bIx 4))
            have hpm1 : (updB X.ps n.blk fun m => PN.touch (X.clock + 1) user { m with dv := .slice none 0 0, f := { m.f with data := emp } }).Perm (PN.touch (X.clock + 1) user { n with dv := .slice none 0 0, f := { n.f with data := emp } } :: rs) := updB_perm (g := fun m : PN => PN.touch (X.clock + 1) user { m with dv := .slice none 0 0, f := { m.f with data := emp } }) hnd hpm
            replace E := Hs.openTN (X := { X with ps := updB X.ps n.blk fun m => PN.touch (X.clock + 1) user { m with dv := .slice none 0 0, f := { m.f with data := emp } }, clock := X.clock + 1 }) hpm1 (Hs.closeT { X with ps := updB X.ps n.blk fun m => PN.touch (X.clock + 1) user { m with dv := .slice none 0 0, f := { m.f with data := emp } }, clock := X.clock + 1 } E)
            have e2 : (T.change user [n.f.path]).upd n.f.path (fun n => { n with data := emp }) = { T with ns := updN T.ns n.f.path (fun m => { touchN (X.clock + 1) user m with data := emp }), clock := X.clock + 1 } := by
              rw [change_one, h.clock]
              unfold Tr.upd
              simp only []
              rw [updN_updN (f1 := touchN (T.clock + 1) user) (fun n => rfl)]
            refine fin102 { X with ps := updB X.ps n.blk fun m => PN.touch (X.clock + 1) user { m with dv := .slice none 0 0, f := { m.f with data := emp } }, clock := X.clock + 1 } ((T.change user [n.f.path]).upd n.f.path fun n => { n with data := emp }) (PN.touch (X.clock + 1) user { n with dv := .slice none 0 0, f := { n.f with data := emp } }) _ rfl rfl rfl ?_ ?_ hpm1 rfl rfl ?_ E
            · rw [e2]
              exact h.upd hi hnd hn (X.clock + 1) (G := fun m => PN.touch (X.clock + 1) user { m with dv := .slice none 0 0, f := { m.f with data := emp } }) (g := fun m => { touchN (X.clock + 1) user m with data := emp })
                (fun _ => ⟨rfl, rfl, rfl⟩) (fun _ => rfl) (fun _ => ⟨rfl, rfl, rfl⟩) (fun x hx => hx) (.inl ⟨rfl, _, _, rfl⟩)
            · rw [e2]
              refine hi.upd (X.clock + 1) (by omega) (fun _ _ _ => ⟨rfl, rfl, rfl, rfl⟩) (fun n hn _ => ⟨fun _ => rfl, Nat.zero_le _⟩) fun n hn _ => ?_
              have := hi.form n hn
              exact ⟨this.1, this.2.1, this.2.2.1, by show 0 ≤ n.vers + 1; omega, by show 0 ≤ X.clock + 1; omega⟩
            · unfold Tr.openF; rw [if_neg c1]; simp only [h1, if_neg c2, if_neg c3, if_neg c4, if_neg c5', if_pos c6]
              rfl
          clear hJ112
          (repeat first | (with_reducible first | refine Stp.go ?_ | refine StpE.go E ?_ | (refine StpW.go E ?_; clear E; intro w_ E) | (refine StpA.go E ?_; clear E; intro b_ w_ hb_ E) | (apply hJ20; intro u_) | (apply hJ30; intro u_) | (apply hJ34; intro u_) | (apply hJ58; intro u_) | (apply hJ102; intro u_) | (apply hJ112; intro u_) | refine LnL.nil ?_) | ((with_reducible refine Bi.dec true ?_ ?_); focus exact rfl) | ((with_reducible refine Bi.dec false ?_ ?_); focus exact rfl) | ((with_reducible refine Bi.sdec true ?_ ?_); focus decide) | ((with_reducible refine Bi.sdec false ?_ ?_); focus decide))
          refine Bi.neq ?_ ?_ <;> intro c6 <;> (repeat first | (with_reducible first | refine Stp.go ?_ | refine StpE.go E ?_ | (refine StpW.go E ?_; clear E; intro w_ E) | (refine StpA.go E ?_; clear E; intro b_ w_ hb_ E) | (apply hJ20; intro u_) | (apply hJ30; intro u_) | (apply hJ34; intro u_) | (apply hJ58; intro u_) | (apply hJ102; intro u_) | (apply hJ112; intro u_) | refine LnL.nil ?_) | ((with_reducible refine Bi.dec true ?_ ?_); focus exact rfl) | ((with_reducible refine Bi.dec false ?_ ?_); focus exact rfl) | ((with_reducible refine Bi.sdec true ?_ ?_); focus decide) | ((with_reducible refine Bi.sdec false ?_ ?_); focus decide))
          · refine Bi.eql ?_ ?_ <;> intro c7 <;> (repeat first | (with_reducible first | refine Stp.go ?_ | refine StpE.go E ?_ | (refine StpW.go E ?_; clear E; intro w_ E) | (refine StpA.go E ?_; clear E; intro b_ w_ hb_ E) | (apply hJ20; intro u_) | (apply hJ30; intro u_) | (apply hJ34; intro u_) | (apply hJ58; intro u_) | (apply hJ102; intro u_) | (apply hJ112; intro u_) | refine LnL.nil ?_) | ((with_reducible refine Bi.dec true ?_ ?_); focus exact rfl) | ((with_reducible refine Bi.dec false ?_ ?_); focus exact rfl) | ((with_reducible refine Bi.sdec true ?_ ?_); focus decide) | ((with_reducible refine Bi.sdec false ?_ ?_); focus decide))
            · exact fin112 _ _ (by rw [decide_eq_true ⟨c6, c7⟩]) E
            · exact fin112 _ _ (by rw [decide_eq_false fun hc => c7 hc.2]) E
          · exact fin112 _ _ (by rw [decide_eq_false fun hc => hc.1 c6]) E
      clear hJ34
      refine (may_ok (m := n.mn) (D := D) (by simp) h.gs E).mono ?_
      clear E
      rintro r w_ ⟨rfl, E⟩
      have hmay : permF n.mn.mode (decide (user = n.mn.owner)) (memberG T.gs user n.mn.group) (needs mode) = T.may user n.f (needs mode) := rfl
      rw [hmay]
      cases hm : T.may user n.f (needs mode) with
      | false => (repeat first | (with_reducible first | refine Stp.go ?_ | refine StpE.go E ?_ | (refine StpW.go E ?_; clear E; intro w_ E) | (refine StpA.go E ?_; clear E; intro b_ w_ hb_ E) | (apply hJ20; intro u_) | (apply hJ30; intro u_) | (apply hJ34; intro u_) | (apply hJ58; intro u_) | (apply hJ102; intro u_) | (apply hJ112; intro u_) | refine LnL.nil ?_) | ((with_reducible refine Bi.dec true ?_ ?_); focus exact rfl) | ((with_reducible refine Bi.dec false ?_ ?_); focus exact rfl) | ((with_reducible refine Bi.sdec true ?_ ?_); focus decide) | ((with_reducible refine Bi.sdec false ?_ ?_); focus decide)); exact fin34 _ _ (by rw [decide_eq_true (.inl hm)]) E
      | true =>
        have hmn : ¬ T.may user n.f (needs mode) = false := by rw [hm]; simp
        (repeat first | (with_reducible first | refine Stp.go ?_ | refine StpE.go E ?_ | (refine StpW.go E ?_; clear E; intro w_ E) | (refine StpA.go E ?_; clear E; intro b_ w_ hb_ E) | (apply hJ20; intro u_) | (apply hJ30; intro u_) | (apply hJ34; intro u_) | (apply hJ58; intro u_) | (apply hJ102; intro u_) | (apply hJ112; intro u_) | refine LnL.nil ?_) | ((with_reducible refine Bi.dec true ?_ ?_); focus exact rfl) | ((with_reducible refine Bi.dec false ?_ ?_); focus exact rfl) | ((with_reducible refine Bi.sdec true ?_ ?_); focus decide) | ((with_reducible refine Bi.sdec false ?_ ?_); focus decide))
        refine Bi.neq ?_ ?_ <;> intro c6 <;> (repeat first | (with_reducible first | refine Stp.go ?_ | refine StpE.go E ?_ | (refine StpW.go E ?_; clear E; intro w_ E) | (refine StpA.go E ?_; clear E; intro b_ w_ hb_ E) | (apply hJ20; intro u_) | (apply hJ30; intro u_) | (apply hJ34; intro u_) | (apply hJ58; intro u_) | (apply hJ102; intro u_) | (apply hJ112; intro u_) | refine LnL.nil ?_) | ((with_reducible refine Bi.dec true ?_ ?_); focus exact rfl) | ((with_reducible refine Bi.dec false ?_ ?_); focus exact rfl) | ((with_reducible refine Bi.sdec true ?_ ?_); focus decide) | ((with_reducible refine Bi.sdec false ?_ ?_); focus decide))
        rotate_left
        · exact fin34 _ _ (by rw [decide_eq_false fun hc => hc.elim hmn fun h => h.1 c6]) E
        have hp0 : n.f.path ≠ 0 := fun h0 => by
          have hd := (hi.rootD n.f (h.mem.2 ⟨n, hn, rfl⟩) h0).1
          refine c2 ⟨hd, fun hm0 => ?_⟩
          rw [hm0] at c6
          exact c6 (by decide)
        obtain ⟨u, rs', hpr, hu, hub, hup, hne, hud, hgu, hpar⟩ := h.parent hi hpm hp0
        replace E := Hs.openN (E.bIx 6) hpr
        (repeat first | (with_reducible first | refine Stp.go ?_ | refine StpE.go E ?_ | (refine StpW.go E ?_; clear E; intro w_ E) | (refine StpA.go E ?_; clear E; intro b_ w_ hb_ E) | (apply hJ20; intro u_) | (apply hJ30; intro u_) | (apply hJ34; intro u_) | (apply hJ58; intro u_) | (apply hJ102; intro u_) | (apply hJ112; intro u_) | refine LnL.nil ?_) | ((with_reducible refine Bi.dec true ?_ ?_); focus exact rfl) | ((with_reducible refine Bi.dec false ?_ ?_); focus exact rfl) | ((with_reducible refine Bi.sdec true ?_ ?_); focus decide) | ((with_reducible refine Bi.sdec false ?_ ?_); focus decide))
        have hub2 : n.mn.up = some u.blk := hub
        rw [hub2]
        refine (may_ok (m := u.mn) (D := D) (by simp) h.gs E).mono ?_
        clear E
        rintro r w_ ⟨rfl, E⟩
        have hmay2 : permF u.mn.mode (decide (user = u.mn.owner)) (memberG T.gs user u.mn.group) 2 = T.may user (T.parent n.f) 2 := by rw [hpar]; rfl
        rw [hmay2]
        replace E := Hs.permN (Hs.closeN u E) hpr.symm
        (replace E := (((((((E.bIx 0).bIx 6).bIx 6).bIx 6).bIx 6).bIx 6).bIx 6))
        cases hm2 : T.may user (T.parent n.f) 2 with
        | false => (repeat first | (with_reducible first | refine Stp.go ?_ | refine StpE.go E ?_ | (refine StpW.go E ?_; clear E; intro w_ E) | (refine StpA.go E ?_; clear E; intro b_ w_ hb_ E) | (apply hJ20; intro u_) | (apply hJ30; intro u_) | (apply hJ34; intro u_) | (apply hJ58; intro u_) | (apply hJ102; intro u_) | (apply hJ112; intro u_) | refine LnL.nil ?_) | ((with_reducible refine Bi.dec true ?_ ?_); focus exact rfl) | ((with_reducible refine Bi.dec false ?_ ?_); focus exact rfl) | ((with_reducible refine Bi.sdec true ?_ ?_); focus decide) | ((with_reducible refine Bi.sdec false ?_ ?_); focus decide)); exact fin34 _ _ (by rw [decide_eq_true (.inr ⟨c6, hm2⟩)]) E
        | true => (repeat first | (with_reducible first | refine Stp.go ?_ | refine StpE.go E ?_ | (refine StpW.go E ?_; clear E; intro w_ E) | (refine StpA.go E ?_; clear E; intro b_ w_ hb_ E) | (apply hJ20; intro u_) | (apply hJ30; intro u_) | (apply hJ34; intro u_) | (apply hJ58; intro u_) | (apply hJ102; intro u_) | (apply hJ112; intro u_) | refine LnL.nil ?_) | ((with_reducible refine Bi.dec true ?_ ?_); focus exact rfl) | ((with_reducible refine Bi.dec false ?_ ?_); focus exact rfl) | ((with_reducible refine Bi.sdec true ?_ ?_); focus decide) | ((with_reducible refine Bi.sdec false ?_ ?_); focus decide)); exact fin34 _ _ (by rw [decide_eq_false fun hc => hc.elim hmn fun h => by rw [hm2] at h; cases h.2]) E
    clear hJ30
    (repeat first | (with_reducible first | refine Stp.go ?_ | refine StpE.go E ?_ | (refine StpW.go E ?_; clear E; intro w_ E) | (refine StpA.go E ?_; clear E; intro b_ w_ hb_ E) | (apply hJ20; intro u_) | (apply hJ30; intro u_) | (apply hJ34; intro u_) | (apply hJ58; intro u_) | (apply hJ102; intro u_) | (apply hJ112; intro u_) | refine LnL.nil ?_) | ((with_reducible refine Bi.dec true ?_ ?_); focus exact rfl) | ((with_reducible refine Bi.dec false ?_ ?_); focus exact rfl) | ((with_reducible refine Bi.sdec true ?_ ?_); focus decide) | ((with_reducible refine Bi.sdec false ?_ ?_); focus decide))
    refine Bi.neq ?_ ?_ <;> intro c6 <;> (repeat first | (with_reducible first | refine Stp.go ?_ | refine StpE.go E ?_ | (refine StpW.go E ?_; clear E; intro w_ E) | (refine StpA.go E ?_; clear E; intro b_ w_ hb_ E) | (apply hJ20; intro u_) | (apply hJ30; intro u_) | (apply hJ34; intro u_) | (apply hJ58; intro u_) | (apply hJ102; intro u_) | (apply hJ112; intro u_) | refine LnL.nil ?_) | ((with_reducible refine Bi.dec true ?_ ?_); focus exact rfl) | ((with_reducible refine Bi.dec false ?_ ?_); focus exact rfl) | ((with_reducible refine Bi.sdec true ?_ ?_); focus decide) | ((with_reducible refine Bi.sdec false ?_ ?_); focus decide))
    · have := fin30 _ E
      unfold needs at this
      rw [if_neg c6] at this
      exact this
    · have := fin30 _ E
      unfold needs at this
      rw [if_pos c6] at this
      exact this
  clear hJ20
  refine (isDir_ok (m := n.mn) E).mono ?_
  clear E
  rintro r w_ ⟨rfl, E⟩
  cases hd : isD n.mn.mode with
  | true =>
    (repeat first | (with_reducible first | refine Stp.go ?_ | refine StpE.go E ?_ | (refine StpW.go E ?_; clear E; intro w_ E) | (refine StpA.go E ?_; clear E; intro b_ w_ hb_ E) | (apply hJ20; intro u_) | (apply hJ30; intro u_) | (apply hJ34; intro u_) | (apply hJ58; intro u_) | (apply hJ102; intro u_) | (apply hJ112; intro u_) | refine LnL.nil ?_) | ((with_reducible refine Bi.dec true ?_ ?_); focus exact rfl) | ((with_reducible refine Bi.dec false ?_ ?_); focus exact rfl) | ((with_reducible refine Bi.sdec true ?_ ?_); focus decide) | ((with_reducible refine Bi.sdec false ?_ ?_); focus decide))
    refine Bi.neq ?_ ?_ <;> intro c6 <;> (repeat first | (with_reducible first | refine Stp.go ?_ | refine StpE.go E ?_ | (refine StpW.go E ?_; clear E; intro w_ E) | (refine StpA.go E ?_; clear E; intro b_ w_ hb_ E) | (apply hJ20; intro u_) | (apply hJ30; intro u_) | (apply hJ34; intro u_) | (apply hJ58; intro u_) | (apply hJ102; intro u_) | (apply hJ112; intro u_) | refine LnL.nil ?_) | ((with_reducible refine Bi.dec true ?_ ?_); focus exact rfl) | ((with_reducible refine Bi.dec false ?_ ?_); focus exact rfl) | ((with_reducible refine Bi.sdec true ?_ ?_); focus decide) | ((with_reducible refine Bi.sdec false ?_ ?_); focus decide))
    · exact fin20 _ _ (by rw [decide_eq_true ⟨hd, c6⟩]) E
    · exact fin20 _ _ (by rw [decide_eq_false fun hc => hc.2 c6]) E
  | false =>
    (repeat first | (with_reducible first | refine Stp.go ?_ | refine StpE.go E ?_ | (refine StpW.go E ?_; clear E; intro w_ E) | (refine StpA.go E ?_; clear E; intro b_ w_ hb_ E) | (apply hJ20; intro u_) | (apply hJ30; intro u_) | (apply hJ34; intro u_) | (apply hJ58; intro u_) | (apply hJ102; intro u_) | (apply hJ112; intro u_) | refine LnL.nil ?_) | ((with_reducible refine Bi.dec true ?_ ?_); focus exact rfl) | ((with_reducible refine Bi.dec false ?_ ?_); focus exact rfl) | ((with_reducible refine Bi.sdec true ?_ ?_); focus decide) | ((with_reducible refine Bi.sdec false ?_ ?_); focus decide))
    exact fin20 _ _ (by rw [decide_eq_false fun hc => by rw [show n.f.dir = false from hd] at hc; cases hc.1]) E
end Go.Proofs.YtnnhmahemklnkaaGreatDoor

/-
  Trees: strings that are split at '/'.
-/
namespace Go.Proofs.YtnnhmahemklnkaaGreatDoor
open Go Go.Sh
set_option maxRecDepth 100000
set_option linter.unusedVariables false
set_option linter.unusedSimpArgs false
variable {w0 w : World} {F : Nat → Prop} {l : List As}

/-- The parts between the slashes. -/
def splitB : List UInt8 → List (List UInt8)
  | [] => [[]]
  | x :: r => if x = 47 then [] :: splitB r else match splitB r with | [] => [[x]] | p :: ps => (x :: p) :: ps
theorem splitB_none : ∀ {l : List UInt8}, Lib.indexByte l 47 = -1 → splitB l = [l]
  | [], _ => rfl
  | x :: r, h => by
    unfold Lib.indexByte at h
    by_cases hx : x = 47
    · rw [if_pos (by simp [hx])] at h; cases h
    · rw [if_neg (by simp [hx])] at h
      have hr : Lib.indexByte r 47 = -1 := by
        split at h
        · rename_i h2; simpa using h2
        · rename_i h2
          have := Lib.indexByte_ge r 47
          omega
      unfold splitB
      rw [if_neg hx, splitB_none hr]
theorem splitB_some : ∀ {l : List UInt8} {i : Nat}, Lib.indexByte l 47 = i → i < l.length ∧ splitB l = l.take i :: splitB (l.drop (i + 1))
  | [], i, h => by unfold Lib.indexByte at h; omega
  | x :: r, i, h => by
    unfold Lib.indexByte at h
    by_cases hx : x = 47
    · rw [if_pos (by simp [hx])] at h
      obtain rfl : i = 0 := by omega
      refine ⟨by simp, ?_⟩
      rw [splitB, if_pos hx]
      rfl
    · rw [if_neg (by simp [hx])] at h
      split at h
      · omega
      · rename_i h2
        have h2 : Lib.indexByte r 47 ≠ -1 := by simpa using h2
        have := Lib.indexByte_ge r 47
        obtain ⟨j, rfl⟩ : ∃ j, i = j + 1 := ⟨i - 1, by omega⟩
        obtain ⟨h3, h4⟩ := splitB_some (l := r) (i := j) (by omega)
        refine ⟨by simp; omega, ?_⟩
        rw [splitB, if_neg hx, h4]
        rfl
theorem splitB_ne (l : List UInt8) : splitB l ≠ [] := by
  cases l with
  | nil => simp [splitB]
  | cons x r =>
    unfold splitB
    split
    · simp
    · cases splitB r <;> simp
abbrev bmk (l : List UInt8) : BA := ⟨l.toArray⟩
def splitS (s : BA) : List BA := (splitB s.data.toList).map bmk
abbrev sep : BA := ⟨#[47]⟩
def boxM (a : Nat) (w : World) : Nat := match w.heap[a]? with
  | some (Obj.cells cs _ _) => match cs[0]? with
    | some (Value.string s) => s.size
    | _ => 0
  | _ => 0
theorem boxM_eq {a : Nat} {s : BA} {r : List As} [h : FPt l a (oc [str s] Ty.string) r] (E : Hs w0 F w l) : boxM a w = s.size := by
  unfold boxM
  rw [show w.heap[a]? = some (oc [str s] Ty.string) from E.sat _ h.mem]
  rfl
abbrev splitF (a1 a2 a3 : Nat) : Value := .func (.func Fn.strings_splitSeq_1) #[] #[ptr a1, ptr a2, ptr a3]
theorem b_split1 : hasBody PP Fn.strings_splitSeq_1 = true := by kernel_rfl
theorem Index_ok {s : BA} (E : Hs w0 F w l) : Ca PP Fn.strings_Index #[str s, str sep] w fun r w' => r = i64 (Lib.indexByte s.data.toList 47) ∧ Hs w0 F w' l := by
  refine Calls.mono (Tryz.strings_Index_one s 47 w) ?_
  rintro e w' ⟨rfl, rfl⟩
  exact ⟨_, rfl, rfl, E⟩
theorem permB (B ks rest : List As) : (B ++ (ks ++ rest)).Perm (ks ++ ([] ++ (B ++ rest))) := by
  rw [List.nil_append, ← List.append_assoc, ← List.append_assoc]
  exact List.perm_append_comm.append_right rest
theorem split_iter {a1 a2 a3 : Nat} {s : BA} (hs : s.size ≤ 1000000000) :
    Iter PP w0 F (splitF a1 a2 a3) str (InOrder (splitS s)) (· = splitS s) [pt a1 (oc [str sep] Ty.string), pt a2 (oc [str s] Ty.string), pt a3 (oc [i64 0] Ty.int)] [] [] := by
  intro K S_ y w ks rest hy h0 E
  refine CaV.mk b_split1 ?_
  refine S.strings_splitSeq_1.calls (a0 := y) (a1 := ptr a1) (a2 := ptr a2) (a3 := ptr a3) ?_
  unfold S.strings_splitSeq_1
  have E1 : Hs w0 F w (pt a1 (oc [str sep] Ty.string) :: pt a2 (oc [str s] Ty.string) :: pt a3 (oc [i64 0] Ty.int) :: (ks ++ rest)) := E.perm (by
    rw [← List.append_assoc]
    exact (List.perm_append_comm (l₁ := ks)).append_right rest)
  clear E
  have E := E1
  clear E1
  (repeat first | (with_reducible first | refine Stp.go ?_ | refine StpE.go E ?_ | (refine StpW.go E ?_; clear E; intro w_ E) | (refine StpA.go E ?_; clear E; intro b_ w_ hb_ E) | refine LnL.nil ?_) | ((with_reducible refine Bi.dec true ?_ ?_); focus exact rfl) | ((with_reducible refine Bi.dec false ?_ ?_); focus exact rfl) | ((with_reducible refine Bi.sdec true ?_ ?_); focus decide) | ((with_reducible refine Bi.sdec false ?_ ?_); focus decide))
  refine ⟨fun l1 w1 => l1 = [] ∧ ∃ (k : Nat) (rem : BA) (ks : List As), (splitS s).drop k = splitS rem ∧ rem.size ≤ 1000000000 ∧ K ((splitS s).take k) ks ∧ Hs w0 F w1 (pt a1 (oc [str sep] Ty.string) :: pt a2 (oc [str rem] Ty.string) :: pt a3 (oc [i64 0] Ty.int) :: (ks ++ rest)), fun _ w1 => boxM a2 w1,
    ⟨rfl, 0, s, ks, rfl, hs, h0, E⟩, ?_⟩
  clear E h0 ks
  rintro u w1 ⟨-, k, rem, ks, hk, hrem, hK, E⟩
  (repeat first | (with_reducible first | refine Stp.go ?_ | refine StpE.go E ?_ | (refine StpW.go E ?_; clear E; intro w_ E) | (refine StpA.go E ?_; clear E; intro b_ w_ hb_ E) | refine LnL.nil ?_) | ((with_reducible refine Bi.dec true ?_ ?_); focus exact rfl) | ((with_reducible refine Bi.dec false ?_ ?_); focus exact rfl) | ((with_reducible refine Bi.sdec true ?_ ?_); focus decide) | ((with_reducible refine Bi.sdec false ?_ ?_); focus decide))
  refine (Index_ok E).mono ?_
  have hbm : boxM a2 w1 = rem.size := boxM_eq E
  clear E
  rintro r w_ ⟨rfl, E⟩
  have hlen : ((splitS s).take k).length = k := by
    rw [List.length_take]
    have h1 : (splitS rem).length ≠ 0 := by unfold splitS; rw [List.length_map]; exact fun h => splitB_ne _ (List.length_eq_zero_iff.1 h)
    rw [← hk, List.length_drop] at h1
    omega
  refine Bi.lss ?_ ?_ <;> intro hlt <;> (repeat first | (with_reducible first | refine Stp.go ?_ | refine StpE.go E ?_ | (refine StpW.go E ?_; clear E; intro w_ E) | (refine StpA.go E ?_; clear E; intro b_ w_ hb_ E) | refine LnL.nil ?_) | ((with_reducible refine Bi.dec true ?_ ?_); focus exact rfl) | ((with_reducible refine Bi.dec false ?_ ?_); focus exact rfl) | ((with_reducible refine Bi.sdec true ?_ ?_); focus decide) | ((with_reducible refine Bi.sdec false ?_ ?_); focus decide))
  · have hi : Lib.indexByte rem.data.toList 47 = -1 := by have := Lib.indexByte_ge rem.data.toList 47; omega
    have hsp : splitS rem = [rem] := by unfold splitS; rw [splitB_none hi]; rfl
    have hx : (splitS s)[k]? = some rem := by
      have := congrArg (·[0]?) hk
      simpa [hsp] using this
    have E1 : Hs w0 F w_ (ks ++ ([] ++ ([pt a1 (oc [str sep] Ty.string), pt a2 (oc [str rem] Ty.string), pt a3 (oc [i64 0] Ty.int)] ++ rest))) := E.perm (permB [_, _, _] ks rest)
    refine (hy ((splitS s).take k) rem w_ ks _ ⟨by rw [hlen], by rw [hlen]; exact hx⟩ hK E1).mono ?_
    have hw : (splitS s).take k ++ [rem] = splitS s := by
      conv => rhs; rw [← List.take_append_drop k (splitS s), hk, hsp]
    have hdrop : ∀ (ks' : List As) w, Hs w0 F w (ks' ++ ([] ++ ([pt a1 (oc [str sep] Ty.string), pt a2 (oc [str rem] Ty.string), pt a3 (oc [i64 0] Ty.int)] ++ rest))) → Hs w0 F w (ks' ++ ([] ++ rest)) :=
      fun ks' w E => E.drop (List.Sublist.append_left (List.sublist_append_right _ _) _)
    clear E E1
    rintro r w_ (⟨rfl, ks', hk', E'⟩ | ⟨rfl, ks', hs', E'⟩)
    · rw [hw] at hk'
      exact .inl ⟨_, ks', rfl, hk', hdrop _ _ E'⟩
    · exact .inr ⟨_, ks', hs', hdrop _ _ E'⟩
  · obtain ⟨i, hi⟩ : ∃ i : Nat, Lib.indexByte rem.data.toList 47 = i := ⟨(Lib.indexByte rem.data.toList 47).toNat, by omega⟩
    obtain ⟨h1, h2⟩ := splitB_some hi
    have h1 : i < rem.size := h1
    rw [hi]
    have hsp : splitS rem = bmk (rem.data.toList.take i) :: splitS (bmk (rem.data.toList.drop (i + 1))) := by unfold splitS; rw [h2]; rfl
    have hx : (splitS s)[k]? = some (bmk (rem.data.toList.take i)) := by
      have := congrArg (·[0]?) hk
      simpa [hsp] using this
    refine Bi.add (by omega) ?_
    refine SlS.pre (by omega) (by omega) ?_
    have e1 : rem.extract 0 ((i : Int) + 0).toNat = bmk (rem.data.toList.take i) := ba_ext (by simp)
    rw [e1]
    have E1 : Hs w0 F w_ (ks ++ ([] ++ ([pt a1 (oc [str sep] Ty.string), pt a2 (oc [str rem] Ty.string), pt a3 (oc [i64 0] Ty.int)] ++ rest))) := E.perm (permB [_, _, _] ks rest)
    refine (hy ((splitS s).take k) (bmk (rem.data.toList.take i)) w_ ks _ ⟨by rw [hlen], by rw [hlen]; exact hx⟩ hK E1).mono ?_
    clear E E1
    have htk : (splitS s).take k ++ [bmk (rem.data.toList.take i)] = (splitS s).take (k + 1) := by rw [List.take_add_one, hx]; rfl
    rw [htk]
    rintro r w_ (⟨rfl, ks', hk', E'⟩ | ⟨rfl, ks', hs', E'⟩)
    · have E : Hs w0 F w_ (pt a1 (oc [str sep] Ty.string) :: pt a2 (oc [str rem] Ty.string) :: pt a3 (oc [i64 0] Ty.int) :: (ks' ++ rest)) := E'.perm (by
        rw [List.nil_append, ← List.append_assoc]
        exact (List.perm_append_comm (l₁ := ks')).append_right rest)
      clear E'
      (repeat first | (with_reducible first | refine Stp.go ?_ | refine StpE.go E ?_ | (refine StpW.go E ?_; clear E; intro w_ E) | (refine StpA.go E ?_; clear E; intro b_ w_ hb_ E) | refine LnL.nil ?_) | ((with_reducible refine Bi.dec true ?_ ?_); focus exact rfl) | ((with_reducible refine Bi.dec false ?_ ?_); focus exact rfl) | ((with_reducible refine Bi.sdec true ?_ ?_); focus decide) | ((with_reducible refine Bi.sdec false ?_ ?_); focus decide))
      refine Bi.add (by have : ByteArray.size sep = 1 := rfl; omega) ?_
      refine SlS.suf (by omega) (by have : ByteArray.size sep = 1 := rfl; omega) ?_
      have e2 : rem.extract ((i : Int) + (ByteArray.size sep : Nat)).toNat rem.size = bmk (rem.data.toList.drop (i + 1)) := ba_ext (by
        have : ((i : Int) + (ByteArray.size sep : Nat)).toNat = i + 1 := by have : ByteArray.size sep = 1 := rfl; omega
        rw [this]
        simp
        refine List.take_of_length_le ?_
        rw [List.length_drop, Array.length_toList]
        exact Nat.le_refl _)
      rw [e2]
      (repeat first | (with_reducible first | refine Stp.go ?_ | refine StpE.go E ?_ | (refine StpW.go E ?_; clear E; intro w_ E) | (refine StpA.go E ?_; clear E; intro b_ w_ hb_ E) | refine LnL.nil ?_) | ((with_reducible refine Bi.dec true ?_ ?_); focus exact rfl) | ((with_reducible refine Bi.dec false ?_ ?_); focus exact rfl) | ((with_reducible refine Bi.sdec true ?_ ?_); focus decide) | ((with_reducible refine Bi.sdec false ?_ ?_); focus decide))
      have hsz : (bmk (rem.data.toList.drop (i + 1))).size = rem.size - (i + 1) := by
        show (rem.data.toList.drop (i + 1)).toArray.size = _
        rw [List.size_toArray, List.length_drop, Array.length_toList]; rfl
      refine ⟨⟨rfl, k + 1, _, ks', ?_, by omega, hk', E⟩, ?_⟩
      · have := congrArg (List.drop 1) hk
        rw [List.drop_drop, hsp] at this
        rw [Nat.add_comm]
        simpa [Nat.add_comm] using this
      · show boxM a2 w_ < boxM a2 w1
        rw [hbm, boxM_eq E, hsz]
        omega
    · (repeat first | (with_reducible first | refine Stp.go ?_ | refine StpE.go E ?_ | (refine StpW.go E ?_; clear E; intro w_ E) | (refine StpA.go E ?_; clear E; intro b_ w_ hb_ E) | refine LnL.nil ?_) | ((with_reducible refine Bi.dec true ?_ ?_); focus exact rfl) | ((with_reducible refine Bi.dec false ?_ ?_); focus exact rfl) | ((with_reducible refine Bi.sdec true ?_ ?_); focus decide) | ((with_reducible refine Bi.sdec false ?_ ?_); focus decide))
      exact .inr ⟨_, ks', hs', E'.drop (List.Sublist.append_left (List.sublist_append_right _ _) _)⟩
end Go.Proofs.YtnnhmahemklnkaaGreatDoor

/-
  Trees: clean paths.
-/
namespace Go.Proofs.YtnnhmahemklnkaaGreatDoor
open Go Go.Sh
set_option maxRecDepth 100000
set_option linter.unusedVariables false
set_option linter.unusedSimpArgs false
variable {w0 w : World} {F : Nat → Prop} {l : List As}

abbrev dot1 : BA := ⟨#[46]⟩
abbrev dot2 : BA := ⟨#[46, 46]⟩
def absP (s : BA) : Bool := Lib.hasPrefix s.data.toList sep.data.toList
/-- One more part of a path. -/
def stepC (a : Bool) (l : List BA) (s : BA) : List BA :=
  if s = emp ∨ s = dot1 then l else
  if s ≠ dot2 then l ++ [s] else
  if 0 < l.length ∧ l[l.length - 1]? ≠ some dot2 then l.take (l.length - 1) else
  if a = false then l ++ [s] else l
def elemsC (s : BA) : List BA := (splitS s).foldl (stepC (absP s)) []
def joinS (l : List BA) : BA := ⟨(Lib.join (l.map (·.data.toList)) sep.data.toList).toArray⟩
def cleanS (s : BA) : BA := if absP s = true then sep ++ joinS (elemsC s) else if joinS (elemsC s) = emp then dot1 else joinS (elemsC s)
theorem splitB_len : ∀ l : List UInt8, (splitB l).length ≤ l.length + 1
  | [] => by simp [splitB]
  | x :: r => by
    have ih := splitB_len r
    unfold splitB
    split
    · simp only [List.length_cons]; omega
    · cases h : splitB r with
      | nil => simp
      | cons p ps => rw [h] at ih; simp only [List.length_cons] at ih ⊢; omega
theorem stepC_len (a : Bool) (l : List BA) (s : BA) : (stepC a l s).length ≤ l.length + 1 := by
  unfold stepC
  split
  · omega
  split
  · simp
  split
  · simp; omega
  split
  · simp
  · omega
theorem foldC_len (a : Bool) : ∀ (xs l : List BA), (xs.foldl (stepC a) l).length ≤ l.length + xs.length
  | [], _ => Nat.le_refl _
  | x :: xs, l => by
    have := foldC_len a xs (stepC a l x)
    have := stepC_len a l x
    simp only [List.foldl_cons, List.length_cons]
    omega
theorem HasPrefix_ok {s p : BA} (E : Hs w0 F w l) : Ca PP Fn.strings_HasPrefix #[str s, str p] w fun r w' => r = .bool (Lib.hasPrefix s.data.toList p.data.toList) ∧ Hs w0 F w' l := by
  refine Calls.mono (Tryz.strings_HasPrefix s p w) ?_
  rintro e w' ⟨rfl, rfl⟩
  exact ⟨_, rfl, rfl, E⟩
theorem SplitSeq_ok {s : BA} (E : Hs w0 F w l) : Ca PP Fn.strings_SplitSeq #[str s, str sep] w fun r w' => ∃ a1 a2 a3, r = splitF a1 a2 a3 ∧ Hs w0 F w' ([pt a1 (oc [str sep] Ty.string), pt a2 (oc [str s] Ty.string), pt a3 (oc [i64 0] Ty.int)] ++ l) := by
  refine S.strings_SplitSeq.calls ?_
  unfold S.strings_SplitSeq
  refine Ca.mono (k := fun r w' => ∃ a1 a2 a3, r = splitF a1 a2 a3 ∧ Hs w0 F w' ([pt a1 (oc [str sep] Ty.string), pt a2 (oc [str s] Ty.string), pt a3 (oc [i64 0] Ty.int)] ++ l)) ?_ fun r w' h => h
  refine S.strings_splitSeq.calls ?_
  unfold S.strings_splitSeq
  refine StpA.go E ?_
  intro a2 w_ h2 E
  refine StpA.go E ?_
  intro a1 w_ h1 E
  refine StpA.go E ?_
  intro a3 w_ h3 E
  exact ⟨a1, a2, a3, rfl, by (replace E := (((E.bIx 0).bIx 2).bIx 2)); exact E⟩
theorem Join_ok {v : Value} {xs : List BA} (hn : xs.length ≤ 140737488355328) (hj : (Lib.join (xs.map (·.data.toList)) sep.data.toList).length ≤ 140737488355328) (E : Hs w0 F w l) (h : RdS w0 F l 1 xs.length v (xs.map str)) :
    Ca PP Fn.strings_Join #[v, str sep] w fun r w' => r = str (joinS xs) ∧ Hs w0 F w' l := by
  obtain ⟨a, c, rfl, hc, -, hx⟩ := h
  rcases hx with h0 | ⟨q, rfl, h0 | ⟨b, o, rfl, hq⟩⟩
  · have : xs = [] := by simpa using h0
    subst this
    refine Calls.mono (Tryz.strings_Join_none a c sep w) ?_
    rintro e w' ⟨rfl, rfl⟩
    exact ⟨_, rfl, rfl, E⟩
  · have : xs = [] := by simpa using h0
    subst this
    refine Calls.mono (Tryz.strings_Join_none _ c sep w) ?_
    rintro e w' ⟨rfl, rfl⟩
    exact ⟨_, rfl, rfl, E⟩
  · by_cases hxs : xs = []
    · subst hxs
      refine Calls.mono (Tryz.strings_Join_none _ c sep w) ?_
      rintro e w' ⟨rfl, rfl⟩
      exact ⟨_, rfl, rfl, E⟩
    have hcell : ∀ (j : Nat) x, xs[j]? = some x → w.cell? ⟨b, o + j, none⟩ = some (.string x) := fun j x hj => hq w E j (str x) (by simp [hj])
    have hb : b < w.heap.size := by
      have h0 : 0 < xs.length := List.length_pos_iff.2 hxs
      have := hcell 0 xs[0] (List.getElem?_eq_getElem h0)
      unfold World.cell? at this
      cases hh : w.heap[b]? with
      | none => simp [hh] at this
      | some ob => exact (Array.getElem?_eq_some_iff.1 hh).1
    refine Calls.mono (Tryz.strings_Join b o c xs sep w hcell hb hn hc hj) ?_
    rintro e w' ⟨rfl, hw⟩
    exact ⟨_, rfl, rfl, E.grow (Upd.ofBelow hw)⟩

/-! ### Clean -/
def tot (l : List BA) : Nat := (l.map fun x => x.size + 1).sum
theorem tot_app (l m : List BA) : tot (l ++ m) = tot l + tot m := by simp [tot]
theorem splitB_tot : ∀ l : List UInt8, ((splitB l).map fun p => p.length + 1).sum = l.length + 1
  | [] => by simp [splitB]
  | x :: r => by
    have ih := splitB_tot r
    unfold splitB
    split
    · simp only [List.map_cons, List.sum_cons, List.length_nil, List.length_cons, ih]; omega
    · cases h : splitB r with
      | nil => exact absurd h (splitB_ne r)
      | cons p ps => rw [h] at ih; simp only [List.map_cons, List.sum_cons, List.length_cons] at ih ⊢; omega
theorem bmk_size (p : List UInt8) : (bmk p).size = p.length := by
  show p.toArray.size = _
  simp
theorem splitS_tot (s : BA) : tot (splitS s) = s.size + 1 := by
  have := splitB_tot s.data.toList
  unfold tot splitS
  rw [List.map_map]
  have e : ((fun x : BA => x.size + 1) ∘ bmk) = fun p => p.length + 1 := by funext p; simp only [Function.comp, bmk_size]
  rw [e, this]
  simp
theorem tot_take : ∀ (l : List BA) (n : Nat), tot (l.take n) ≤ tot l
  | [], n => by simp
  | x :: l, 0 => by simp [tot]
  | x :: l, n + 1 => by
    have := tot_take l n
    simp only [tot, List.take_succ_cons, List.map_cons, List.sum_cons] at this ⊢
    omega
theorem stepC_tot (a : Bool) (l : List BA) (s : BA) : tot (stepC a l s) ≤ tot l + (s.size + 1) := by
  have h1 : tot [s] = s.size + 1 := by simp [tot]
  unfold stepC
  split
  · omega
  split
  · rw [tot_app, h1]; exact Nat.le_refl _
  split
  · have := tot_take l (l.length - 1); omega
  split
  · rw [tot_app, h1]; exact Nat.le_refl _
  · omega
theorem foldC_tot (a : Bool) : ∀ (xs l : List BA), tot (xs.foldl (stepC a) l) ≤ tot l + tot xs
  | [], _ => by simp [tot]
  | x :: xs, l => by
    have h1 := foldC_tot a xs (stepC a l x)
    have h2 := stepC_tot a l x
    have h3 : tot (x :: xs) = x.size + 1 + tot xs := by simp [tot]
    rw [List.foldl_cons]
    omega
theorem elems_tot (s : BA) : tot (elemsC s) ≤ s.size + 1 := by
  have := foldC_tot (absP s) (splitS s) []
  rw [splitS_tot] at this
  have h0 : tot [] = 0 := rfl
  rw [h0, Nat.zero_add] at this
  exact this
theorem join_len : ∀ (l : List BA), (Lib.join (l.map (·.data.toList)) sep.data.toList).length ≤ tot l
  | [] => by simp [Lib.join, List.intercalate]
  | [x] => by simp [Lib.join, List.intercalate, tot]
  | x :: y :: r => by
    have := join_len (y :: r)
    have e : Lib.join ((x :: y :: r).map (·.data.toList)) sep.data.toList = x.data.toList ++ 47 :: Lib.join ((y :: r).map (·.data.toList)) sep.data.toList := by simp [Lib.join, List.intercalate]
    rw [e, List.length_append, List.length_cons]
    have h3 : tot (x :: y :: r) = x.size + 1 + tot (y :: r) := by simp [tot]
    have h4 : x.data.toList.length = x.size := by simp
    omega
theorem tot_len (l : List BA) : l.length ≤ tot l := by
  induction l with
  | nil => simp
  | cons x r ih => simp only [tot, List.map_cons, List.sum_cons, List.length_cons] at ih ⊢; omega

theorem Clean_ok {s : BA} (hs : s.size ≤ 1000000000) (E : Hs w0 F w l) : Ca PP Fn.tree_Clean #[str s] w fun r w' => r = str (cleanS s) ∧ Hs w0 F w' l := by
  refine S.tree_Clean.calls ?_
  unfold S.tree_Clean
  refine (HasPrefix_ok E).mono ?_
  clear E
  rintro r w_ ⟨rfl, E⟩
  refine StpA.go E ?_
  clear E
  intro a3 w_ h3 E
  refine StpW.go E ?_
  clear E
  intro w_ E
  refine StpA.go E ?_
  clear E
  intro a4 w_ h4 E
  refine (SplitSeq_ok E).mono ?_
  clear E
  rintro r w_ ⟨a1, a2, a5, rfl, E⟩
  simp only [List.cons_append, List.nil_append] at E
  replace E := E.nilSl Ty.string 1
  (replace E := ((((((E.bIx 3).bIx 3).bIx 3).bIx 5).bIx 5).bIx 5))
  have hspl := splitS_tot s
  have hlenS := tot_len (splitS s)
  refine RFo.hs rfl b_split1 (split_iter hs) (fun pre ks => ∃ v, ks = [slA v Ty.string 1 ((pre.foldl (stepC (absP s)) []).map str), pt a4 (oc [v] Ty.sl_string), pt a3 (oc [.bool (absP s)] Ty.bool)]) (fun _ _ _ => False) (fun _ _ => False)
    (ks := [slA (.slice none 0 0) Ty.string 1 [], pt a4 (oc [.slice none 0 0] Ty.sl_string), pt a3 (oc [.bool (absP s)] Ty.bool)]) E ⟨_, rfl⟩ ?_ ?_ (fun _ _ _ _ _ _ h _ => h.elim) (fun _ _ _ _ _ h _ => h.elim)
  · clear E
    rintro r L D pre x w_ _ rest' Rn Re Rr hL hD hp ⟨v, rfl⟩ E hn - -
    simp only [List.cons_append, List.nil_append] at E
    have hpl : pre.length < (splitS s).length := (List.getElem?_eq_some_iff.1 hp.2).1
    have hcl := foldC_len (absP s) pre []
    have hst : (pre ++ [x]).foldl (stepC (absP s)) [] = stepC (absP s) (pre.foldl (stepC (absP s)) []) x := by rw [List.foldl_append]; rfl
    simp only [hst] at hn
    generalize hcur : pre.foldl (stepC (absP s)) [] = cur at *
    simp only [List.length_nil, Nat.zero_add] at hcl
    (repeat first | (with_reducible first | refine Stp.go ?_ | refine StpE.go E ?_ | (refine StpW.go E ?_; clear E; intro w_ E) | (refine StpA.go E ?_; clear E; intro b_ w_ hb_ E) | (apply hJ18; intro u_) | (apply hJ29; intro u_) | refine LnL.nil ?_) | ((with_reducible refine Bi.dec true ?_ ?_); focus exact rfl) | ((with_reducible refine Bi.dec false ?_ ?_); focus exact rfl) | ((with_reducible refine Bi.sdec true ?_ ?_); focus decide) | ((with_reducible refine Bi.sdec false ?_ ?_); focus decide))
    (intro J18 hJ18)
    have fin18 : ∀ b w_, b = decide (x = emp ∨ x = dot1) → Hs w0 F w_ (pt L (lpO r .busy none) :: pt D dfO :: slA v Ty.string 1 (cur.map str) :: pt a4 (oc [v] Ty.sl_string) :: pt a3 (oc [.bool (absP s)] Ty.bool) :: rest') → J18 [.bool b] w_ := by
      intro b w_ hb E
      (repeat first | (with_reducible first | refine Stp.go ?_ | refine StpE.go E ?_ | (refine StpW.go E ?_; clear E; intro w_ E) | (refine StpA.go E ?_; clear E; intro b_ w_ hb_ E) | (apply hJ18; intro u_) | (apply hJ29; intro u_) | refine LnL.nil ?_) | ((with_reducible refine Bi.dec true ?_ ?_); focus exact rfl) | ((with_reducible refine Bi.dec false ?_ ?_); focus exact rfl) | ((with_reducible refine Bi.sdec true ?_ ?_); focus decide) | ((with_reducible refine Bi.sdec false ?_ ?_); focus decide))
      have app : ∀ (w_ : World) (k : World → Prop), Hs w0 F w_ (pt L (lpO r .busy none) :: pt D dfO :: slA v Ty.string 1 (cur.map str) :: pt a4 (oc [v] Ty.sl_string) :: pt a3 (oc [.bool (absP s)] Ty.bool) :: rest') → stepC (absP s) cur x = cur ++ [x] →
          Ef PP (Instr.buildSlice Ty.sl_string 1 #[(0, str x)]) w_ fun t24 w1 => Ef PP (Builtin.append_ #[Ty.sl_string, Ty.sl_string] Ty.sl_string #[v, t24]) w1 fun t25 w2 => St PP 1 (ptr a4) t25 w2 fun w3 => Rn w3 := by
        intro w_ k E he
        refine BdS.one E u_sl_string e_string rfl ?_
        clear E
        intro v2 w_ E
        refine Ap.one E (i := 3) rfl u_sl_string ⟨_, u_sl_string, fun _ h => by cases h⟩ e_string (Src.one E (by (first | assumption | exact FPt.mem | exact FMp.mem | exact FSl.mem | (repeat (first | assumption | with_reducible exact List.mem_cons_self | refine List.mem_cons_of_mem _ ?_)))) rfl) rfl (by simp; omega) (by simp; omega) ?_
        clear E
        intro s' w_ E
        (try simp only [List.set_cons_zero, List.set_cons_succ, List.cons_append, List.nil_append, Nat.zero_add, Nat.add_zero] at E)
        (repeat first | (with_reducible first | refine Stp.go ?_ | refine StpE.go E ?_ | (refine StpW.go E ?_; clear E; intro w_ E) | (refine StpA.go E ?_; clear E; intro b_ w_ hb_ E) | (apply hJ18; intro u_) | (apply hJ29; intro u_) | refine LnL.nil ?_) | ((with_reducible refine Bi.dec true ?_ ?_); focus exact rfl) | ((with_reducible refine Bi.dec false ?_ ?_); focus exact rfl) | ((with_reducible refine Bi.sdec true ?_ ?_); focus decide) | ((with_reducible refine Bi.sdec false ?_ ?_); focus decide))
        refine hn _ _ ⟨s', rfl⟩ ?_
        simp only [List.cons_append, List.nil_append]
        (replace E := (E.bSl v2))
        (replace E := (E.bIx 0).tl)
        have e1 : (stepC (absP s) cur x).map str = cur.map str ++ [str x] := by rw [he]; simp
        rw [e1]
        exact E
      by_cases c1 : x = emp ∨ x = dot1
      · rw [decide_eq_true c1] at hb
        subst hb
        (repeat first | (with_reducible first | refine Stp.go ?_ | refine StpE.go E ?_ | (refine StpW.go E ?_; clear E; intro w_ E) | (refine StpA.go E ?_; clear E; intro b_ w_ hb_ E) | (apply hJ18; intro u_) | (apply hJ29; intro u_) | refine LnL.nil ?_) | ((with_reducible refine Bi.dec true ?_ ?_); focus exact rfl) | ((with_reducible refine Bi.dec false ?_ ?_); focus exact rfl) | ((with_reducible refine Bi.sdec true ?_ ?_); focus decide) | ((with_reducible refine Bi.sdec false ?_ ?_); focus decide))
        have he : stepC (absP s) cur x = cur := by unfold stepC; rw [if_pos c1]
        refine hn _ _ ⟨v, rfl⟩ ?_
        rw [he]
        exact E
      rw [decide_eq_false c1] at hb
      subst hb
      (repeat first | (with_reducible first | refine Stp.go ?_ | refine StpE.go E ?_ | (refine StpW.go E ?_; clear E; intro w_ E) | (refine StpA.go E ?_; clear E; intro b_ w_ hb_ E) | (apply hJ18; intro u_) | (apply hJ29; intro u_) | refine LnL.nil ?_) | ((with_reducible refine Bi.dec true ?_ ?_); focus exact rfl) | ((with_reducible refine Bi.dec false ?_ ?_); focus exact rfl) | ((with_reducible refine Bi.sdec true ?_ ?_); focus decide) | ((with_reducible refine Bi.sdec false ?_ ?_); focus decide))
      refine Bi.sneq ?_ ?_ <;> intro c2 <;> (repeat first | (with_reducible first | refine Stp.go ?_ | refine StpE.go E ?_ | (refine StpW.go E ?_; clear E; intro w_ E) | (refine StpA.go E ?_; clear E; intro b_ w_ hb_ E) | (apply hJ18; intro u_) | (apply hJ29; intro u_) | refine LnL.nil ?_) | ((with_reducible refine Bi.dec true ?_ ?_); focus exact rfl) | ((with_reducible refine Bi.dec false ?_ ?_); focus exact rfl) | ((with_reducible refine Bi.sdec true ?_ ?_); focus decide) | ((with_reducible refine Bi.sdec false ?_ ?_); focus decide))
      · exact app _ (fun _ => True) E (by unfold stepC; rw [if_neg c1, if_pos c2])
      have c2' : ¬ x ≠ dot2 := fun h => h c2
      (intro J29 hJ29)
      have fin29 : ∀ b w_, b = decide (0 < cur.length ∧ cur[cur.length - 1]? ≠ some dot2) → Hs w0 F w_ (pt L (lpO r .busy none) :: pt D dfO :: slA v Ty.string 1 (cur.map str) :: pt a4 (oc [v] Ty.sl_string) :: pt a3 (oc [.bool (absP s)] Ty.bool) :: rest') → J29 [.bool b] w_ := by
        intro b w_ hb E
        (repeat first | (with_reducible first | refine Stp.go ?_ | refine StpE.go E ?_ | (refine StpW.go E ?_; clear E; intro w_ E) | (refine StpA.go E ?_; clear E; intro b_ w_ hb_ E) | (apply hJ18; intro u_) | (apply hJ29; intro u_) | refine LnL.nil ?_) | ((with_reducible refine Bi.dec true ?_ ?_); focus exact rfl) | ((with_reducible refine Bi.dec false ?_ ?_); focus exact rfl) | ((with_reducible refine Bi.sdec true ?_ ?_); focus decide) | ((with_reducible refine Bi.sdec false ?_ ?_); focus decide))
        by_cases c3 : 0 < cur.length ∧ cur[cur.length - 1]? ≠ some dot2
        · rw [decide_eq_true c3] at hb
          subst hb
          (repeat first | (with_reducible first | refine Stp.go ?_ | refine StpE.go E ?_ | (refine StpW.go E ?_; clear E; intro w_ E) | (refine StpA.go E ?_; clear E; intro b_ w_ hb_ E) | (apply hJ18; intro u_) | (apply hJ29; intro u_) | refine LnL.nil ?_) | ((with_reducible refine Bi.dec true ?_ ?_); focus exact rfl) | ((with_reducible refine Bi.dec false ?_ ?_); focus exact rfl) | ((with_reducible refine Bi.sdec true ?_ ?_); focus decide) | ((with_reducible refine Bi.sdec false ?_ ?_); focus decide))
          refine Bi.sub (by simp; omega) ?_
          refine Sl.sl E (i := 2) rfl (by omega) (a := 0) (b := cur.length - 1) rfl (by simp [bnd]; omega) (by omega) (by simp) ?_
          clear E
          intro v' E
          (try simp only [List.set_cons_zero, List.set_cons_succ, List.cons_append, List.nil_append, Nat.zero_add, Nat.add_zero] at E)
          (repeat first | (with_reducible first | refine Stp.go ?_ | refine StpE.go E ?_ | (refine StpW.go E ?_; clear E; intro w_ E) | (refine StpA.go E ?_; clear E; intro b_ w_ hb_ E) | (apply hJ18; intro u_) | (apply hJ29; intro u_) | refine LnL.nil ?_) | ((with_reducible refine Bi.dec true ?_ ?_); focus exact rfl) | ((with_reducible refine Bi.dec false ?_ ?_); focus exact rfl) | ((with_reducible refine Bi.sdec true ?_ ?_); focus decide) | ((with_reducible refine Bi.sdec false ?_ ?_); focus decide))
          have he : stepC (absP s) cur x = cur.take (cur.length - 1) := by unfold stepC; rw [if_neg c1, if_neg c2', if_pos c3]
          refine hn _ _ ⟨v', rfl⟩ ?_
          simp only [List.cons_append, List.nil_append]
          rw [he]
          have e1 : (cur.take (cur.length - 1)).map str = List.drop (0 * 1) (List.take ((cur.length - 1) * 1) (cur.map str)) := by rw [Nat.zero_mul, List.drop_zero, Nat.mul_one, List.map_take]
          rw [e1]
          exact E
        · rw [decide_eq_false c3] at hb
          subst hb
          (repeat first | (with_reducible first | refine Stp.go ?_ | refine StpE.go E ?_ | (refine StpW.go E ?_; clear E; intro w_ E) | (refine StpA.go E ?_; clear E; intro b_ w_ hb_ E) | (apply hJ18; intro u_) | (apply hJ29; intro u_) | refine LnL.nil ?_) | ((with_reducible refine Bi.dec true ?_ ?_); focus exact rfl) | ((with_reducible refine Bi.dec false ?_ ?_); focus exact rfl) | ((with_reducible refine Bi.sdec true ?_ ?_); focus decide) | ((with_reducible refine Bi.sdec false ?_ ?_); focus decide))
          cases ha : absP s with
          | true =>
            (repeat first | (with_reducible first | refine Stp.go ?_ | refine StpE.go E ?_ | (refine StpW.go E ?_; clear E; intro w_ E) | (refine StpA.go E ?_; clear E; intro b_ w_ hb_ E) | (apply hJ18; intro u_) | (apply hJ29; intro u_) | refine LnL.nil ?_) | ((with_reducible refine Bi.dec true ?_ ?_); focus exact rfl) | ((with_reducible refine Bi.dec false ?_ ?_); focus exact rfl) | ((with_reducible refine Bi.sdec true ?_ ?_); focus decide) | ((with_reducible refine Bi.sdec false ?_ ?_); focus decide))
            have he : stepC (absP s) cur x = cur := by unfold stepC; rw [if_neg c1, if_neg c2', if_neg c3, if_neg (by rw [ha]; simp)]
            refine hn _ _ ⟨v, rfl⟩ ?_
            rw [he, ha]
            rw [ha] at E
            exact E
          | false =>
            (repeat first | (with_reducible first | refine Stp.go ?_ | refine StpE.go E ?_ | (refine StpW.go E ?_; clear E; intro w_ E) | (refine StpA.go E ?_; clear E; intro b_ w_ hb_ E) | (apply hJ18; intro u_) | (apply hJ29; intro u_) | refine LnL.nil ?_) | ((with_reducible refine Bi.dec true ?_ ?_); focus exact rfl) | ((with_reducible refine Bi.dec false ?_ ?_); focus exact rfl) | ((with_reducible refine Bi.sdec true ?_ ?_); focus decide) | ((with_reducible refine Bi.sdec false ?_ ?_); focus decide))
            exact app _ (fun _ => True) E (by unfold stepC; rw [if_neg c1, if_neg c2', if_neg c3, if_pos ha])
      clear hJ29
      (repeat first | (with_reducible first | refine Stp.go ?_ | refine StpE.go E ?_ | (refine StpW.go E ?_; clear E; intro w_ E) | (refine StpA.go E ?_; clear E; intro b_ w_ hb_ E) | (apply hJ18; intro u_) | (apply hJ29; intro u_) | refine LnL.nil ?_) | ((with_reducible refine Bi.dec true ?_ ?_); focus exact rfl) | ((with_reducible refine Bi.dec false ?_ ?_); focus exact rfl) | ((with_reducible refine Bi.sdec true ?_ ?_); focus decide) | ((with_reducible refine Bi.sdec false ?_ ?_); focus decide))
      refine Bi.gtr ?_ ?_ <;> intro c4 <;> simp only [List.length_map] at c4 <;> (repeat first | (with_reducible first | refine Stp.go ?_ | refine StpE.go E ?_ | (refine StpW.go E ?_; clear E; intro w_ E) | (refine StpA.go E ?_; clear E; intro b_ w_ hb_ E) | (apply hJ18; intro u_) | (apply hJ29; intro u_) | refine LnL.nil ?_) | ((with_reducible refine Bi.dec true ?_ ?_); focus exact rfl) | ((with_reducible refine Bi.dec false ?_ ?_); focus exact rfl) | ((with_reducible refine Bi.sdec true ?_ ?_); focus decide) | ((with_reducible refine Bi.sdec false ?_ ?_); focus decide))
      · refine Bi.sub (by simp; omega) ?_
        (repeat first | (with_reducible first | refine Stp.go ?_ | refine StpE.go E ?_ | (refine StpW.go E ?_; clear E; intro w_ E) | (refine StpA.go E ?_; clear E; intro b_ w_ hb_ E) | (apply hJ18; intro u_) | (apply hJ29; intro u_) | refine LnL.nil ?_) | ((with_reducible refine Bi.dec true ?_ ?_); focus exact rfl) | ((with_reducible refine Bi.dec false ?_ ?_); focus exact rfl) | ((with_reducible refine Bi.sdec true ?_ ?_); focus decide) | ((with_reducible refine Bi.sdec false ?_ ?_); focus decide))
        have hx : cur[cur.length - 1]? = some cur[cur.length - 1] := List.getElem?_eq_getElem (by omega)
        refine IxA.sl E (by (first | assumption | exact FPt.mem | exact FMp.mem | exact FSl.mem | (repeat (first | assumption | with_reducible exact List.mem_cons_self | refine List.mem_cons_of_mem _ ?_)))) (by omega) (by simp; omega) (by simp; omega) ?_
        intro a ha
        (repeat first | (with_reducible first | refine Stp.go ?_ | refine StpE.go E ?_ | (refine StpW.go E ?_; clear E; intro w_ E) | (refine StpA.go E ?_; clear E; intro b_ w_ hb_ E) | (apply hJ18; intro u_) | (apply hJ29; intro u_) | refine LnL.nil ?_) | ((with_reducible refine Bi.dec true ?_ ?_); focus exact rfl) | ((with_reducible refine Bi.dec false ?_ ?_); focus exact rfl) | ((with_reducible refine Bi.sdec true ?_ ?_); focus decide) | ((with_reducible refine Bi.sdec false ?_ ?_); focus decide))
        refine Ld.sl E (by (first | assumption | exact FPt.mem | exact FMp.mem | exact FSl.mem | (repeat (first | assumption | with_reducible exact List.mem_cons_self | refine List.mem_cons_of_mem _ ?_)))) ha (x := str cur[cur.length - 1]) (by
          have : ((((cur.map str).length : Nat) : Int) - 1).toNat * 1 = cur.length - 1 := by simp
          rw [this]; simp [hx]) ?_
        (repeat first | (with_reducible first | refine Stp.go ?_ | refine StpE.go E ?_ | (refine StpW.go E ?_; clear E; intro w_ E) | (refine StpA.go E ?_; clear E; intro b_ w_ hb_ E) | (apply hJ18; intro u_) | (apply hJ29; intro u_) | refine LnL.nil ?_) | ((with_reducible refine Bi.dec true ?_ ?_); focus exact rfl) | ((with_reducible refine Bi.dec false ?_ ?_); focus exact rfl) | ((with_reducible refine Bi.sdec true ?_ ?_); focus decide) | ((with_reducible refine Bi.sdec false ?_ ?_); focus decide))
        refine Bi.sneq ?_ ?_ <;> intro c5 <;> (repeat first | (with_reducible first | refine Stp.go ?_ | refine StpE.go E ?_ | (refine StpW.go E ?_; clear E; intro w_ E) | (refine StpA.go E ?_; clear E; intro b_ w_ hb_ E) | (apply hJ18; intro u_) | (apply hJ29; intro u_) | refine LnL.nil ?_) | ((with_reducible refine Bi.dec true ?_ ?_); focus exact rfl) | ((with_reducible refine Bi.dec false ?_ ?_); focus exact rfl) | ((with_reducible refine Bi.sdec true ?_ ?_); focus decide) | ((with_reducible refine Bi.sdec false ?_ ?_); focus decide))
        · exact fin29 _ _ (by rw [decide_eq_true ⟨by omega, by rw [hx]; simpa using c5⟩]) E
        · exact fin29 _ _ (by rw [decide_eq_false (fun h => h.2 (by rw [hx, c5]))]) E
      · exact fin29 _ _ (by rw [decide_eq_false (fun h => by omega)]) E
    clear hJ18
    (repeat first | (with_reducible first | refine Stp.go ?_ | refine StpE.go E ?_ | (refine StpW.go E ?_; clear E; intro w_ E) | (refine StpA.go E ?_; clear E; intro b_ w_ hb_ E) | (apply hJ18; intro u_) | (apply hJ29; intro u_) | refine LnL.nil ?_) | ((with_reducible refine Bi.dec true ?_ ?_); focus exact rfl) | ((with_reducible refine Bi.dec false ?_ ?_); focus exact rfl) | ((with_reducible refine Bi.sdec true ?_ ?_); focus decide) | ((with_reducible refine Bi.sdec false ?_ ?_); focus decide))
    refine Bi.seql ?_ ?_ <;> intro c1 <;> (repeat first | (with_reducible first | refine Stp.go ?_ | refine StpE.go E ?_ | (refine StpW.go E ?_; clear E; intro w_ E) | (refine StpA.go E ?_; clear E; intro b_ w_ hb_ E) | (apply hJ18; intro u_) | (apply hJ29; intro u_) | refine LnL.nil ?_) | ((with_reducible refine Bi.dec true ?_ ?_); focus exact rfl) | ((with_reducible refine Bi.dec false ?_ ?_); focus exact rfl) | ((with_reducible refine Bi.sdec true ?_ ?_); focus decide) | ((with_reducible refine Bi.sdec false ?_ ?_); focus decide))
    · exact fin18 _ _ (by rw [decide_eq_true (.inl c1)]) E
    · refine Bi.seql ?_ ?_ <;> intro c2 <;> (repeat first | (with_reducible first | refine Stp.go ?_ | refine StpE.go E ?_ | (refine StpW.go E ?_; clear E; intro w_ E) | (refine StpA.go E ?_; clear E; intro b_ w_ hb_ E) | (apply hJ18; intro u_) | (apply hJ29; intro u_) | refine LnL.nil ?_) | ((with_reducible refine Bi.dec true ?_ ?_); focus exact rfl) | ((with_reducible refine Bi.dec false ?_ ?_); focus exact rfl) | ((with_reducible refine Bi.sdec true ?_ ?_); focus decide) | ((with_reducible refine Bi.sdec false ?_ ?_); focus decide))
      · exact fin18 _ _ (by rw [decide_eq_true (.inr c2)]) E
      · exact fin18 _ _ (by rw [decide_eq_false (fun h => h.elim c1 c2)]) E
  · clear E
    rintro D w_ xs _ hD rfl ⟨v, rfl⟩ E
    simp only [List.cons_append, List.nil_append] at E
    have he : (splitS s).foldl (stepC (absP s)) [] = elemsC s := rfl
    rw [he] at E
    have h1 := elems_tot s
    have h2 := tot_len (elemsC s)
    have h3 := join_len (elemsC s)
    (repeat first | (with_reducible first | refine Stp.go ?_ | refine StpE.go E ?_ | (refine StpW.go E ?_; clear E; intro w_ E) | (refine StpA.go E ?_; clear E; intro b_ w_ hb_ E) | (apply hJ18; intro u_) | (apply hJ29; intro u_) | refine LnL.nil ?_) | ((with_reducible refine Bi.dec true ?_ ?_); focus exact rfl) | ((with_reducible refine Bi.dec false ?_ ?_); focus exact rfl) | ((with_reducible refine Bi.sdec true ?_ ?_); focus decide) | ((with_reducible refine Bi.sdec false ?_ ?_); focus decide))
    have hr := RdS.by1 v E
    rw [List.length_map] at hr
    refine (Join_ok (by omega) (by omega) E hr).mono ?_
    clear E
    rintro r w_ ⟨rfl, E⟩
    have hjs : (joinS (elemsC s)).size ≤ s.size + 1 := by
      unfold joinS
      show (Lib.join _ _).toArray.size ≤ _
      rw [List.size_toArray]; omega
    (repeat first | (with_reducible first | refine Stp.go ?_ | refine StpE.go E ?_ | (refine StpW.go E ?_; clear E; intro w_ E) | (refine StpA.go E ?_; clear E; intro b_ w_ hb_ E) | (apply hJ18; intro u_) | (apply hJ29; intro u_) | refine LnL.nil ?_) | ((with_reducible refine Bi.dec true ?_ ?_); focus exact rfl) | ((with_reducible refine Bi.dec false ?_ ?_); focus exact rfl) | ((with_reducible refine Bi.sdec true ?_ ?_); focus decide) | ((with_reducible refine Bi.sdec false ?_ ?_); focus decide))
    cases ha : absP s with
    | true =>
      (repeat first | (with_reducible first | refine Stp.go ?_ | refine StpE.go E ?_ | (refine StpW.go E ?_; clear E; intro w_ E) | (refine StpA.go E ?_; clear E; intro b_ w_ hb_ E) | (apply hJ18; intro u_) | (apply hJ29; intro u_) | refine LnL.nil ?_) | ((with_reducible refine Bi.dec true ?_ ?_); focus exact rfl) | ((with_reducible refine Bi.dec false ?_ ?_); focus exact rfl) | ((with_reducible refine Bi.sdec true ?_ ?_); focus decide) | ((with_reducible refine Bi.sdec false ?_ ?_); focus decide))
      refine Bi.sadd (by have : ByteArray.size ⟨#[47]⟩ = 1 := rfl; omega) ?_
      (repeat first | (with_reducible first | refine Stp.go ?_ | refine StpE.go E ?_ | (refine StpW.go E ?_; clear E; intro w_ E) | (refine StpA.go E ?_; clear E; intro b_ w_ hb_ E) | (apply hJ18; intro u_) | (apply hJ29; intro u_) | refine LnL.nil ?_) | ((with_reducible refine Bi.dec true ?_ ?_); focus exact rfl) | ((with_reducible refine Bi.dec false ?_ ?_); focus exact rfl) | ((with_reducible refine Bi.sdec true ?_ ?_); focus decide) | ((with_reducible refine Bi.sdec false ?_ ?_); focus decide))
      exact ⟨by unfold cleanS; rw [if_pos ha], E.tl.tl.tl⟩
    | false =>
      (repeat first | (with_reducible first | refine Stp.go ?_ | refine StpE.go E ?_ | (refine StpW.go E ?_; clear E; intro w_ E) | (refine StpA.go E ?_; clear E; intro b_ w_ hb_ E) | (apply hJ18; intro u_) | (apply hJ29; intro u_) | refine LnL.nil ?_) | ((with_reducible refine Bi.dec true ?_ ?_); focus exact rfl) | ((with_reducible refine Bi.dec false ?_ ?_); focus exact rfl) | ((with_reducible refine Bi.sdec true ?_ ?_); focus decide) | ((with_reducible refine Bi.sdec false ?_ ?_); focus decide))
      refine Bi.seql ?_ ?_ <;> intro c1 <;> (repeat first | (with_reducible first | refine Stp.go ?_ | refine StpE.go E ?_ | (refine StpW.go E ?_; clear E; intro w_ E) | (refine StpA.go E ?_; clear E; intro b_ w_ hb_ E) | (apply hJ18; intro u_) | (apply hJ29; intro u_) | refine LnL.nil ?_) | ((with_reducible refine Bi.dec true ?_ ?_); focus exact rfl) | ((with_reducible refine Bi.dec false ?_ ?_); focus exact rfl) | ((with_reducible refine Bi.sdec true ?_ ?_); focus decide) | ((with_reducible refine Bi.sdec false ?_ ?_); focus decide))
      · exact ⟨by unfold cleanS; rw [if_neg (by rw [ha]; simp), if_pos (show joinS (elemsC s) = emp from c1)], E.tl.tl.tl⟩
      · exact ⟨by unfold cleanS; rw [if_neg (by rw [ha]; simp), if_neg (show ¬ joinS (elemsC s) = emp from c1)], E.tl.tl.tl⟩
end Go.Proofs.YtnnhmahemklnkaaGreatDoor

/-
  Trees, plain: clean paths and their elements.
-/
namespace Go.Proofs.YtnnhmahemklnkaaGreatDoor
open Go Go.Sh
set_option maxRecDepth 100000
set_option linter.unusedVariables false
set_option linter.unusedSimpArgs false

def noS (s : BA) : Prop := (47 : UInt8) ∉ s.data.toList
theorem splitB_noS : ∀ {l p : List UInt8}, p ∈ splitB l → (47 : UInt8) ∉ p
  | [], p, h => by
    rw [List.mem_singleton.1 h]; simp
  | x :: r, p, h => by
    unfold splitB at h
    split at h
    · rcases List.mem_cons.1 h with rfl | h
      · simp
      · exact splitB_noS h
    · rename_i hx
      cases hq : splitB r with
      | nil => exact absurd hq (splitB_ne r)
      | cons q qs =>
        rw [hq] at h
        rcases List.mem_cons.1 h with rfl | h
        · have := splitB_noS (l := r) (p := q) (by rw [hq]; exact List.mem_cons_self)
          intro hc
          rcases List.mem_cons.1 hc with h1 | h1
          · exact hx h1.symm
          · exact this h1
        · exact splitB_noS (l := r) (by rw [hq]; exact List.mem_cons_of_mem _ h)
theorem splitS_noS {s p : BA} (h : p ∈ splitS s) : noS p := by
  obtain ⟨q, hq, rfl⟩ := List.mem_map.1 h
  exact splitB_noS hq
theorem splitB_app : ∀ {p r : List UInt8}, (47 : UInt8) ∉ p → splitB (p ++ 47 :: r) = p :: splitB r
  | [], r, _ => by simp [splitB]
  | x :: p, r, h => by
    have h1 : x ≠ 47 := fun e => h (by rw [e]; exact List.mem_cons_self)
    have h2 := splitB_app (p := p) (r := r) fun e => h (List.mem_cons_of_mem _ e)
    rw [List.cons_append, splitB, if_neg h1, h2]
theorem splitB_one : ∀ {p : List UInt8}, (47 : UInt8) ∉ p → splitB p = [p]
  | [], _ => rfl
  | x :: p, h => by
    have h1 : x ≠ 47 := fun e => h (by rw [e]; exact List.mem_cons_self)
    rw [splitB, if_neg h1, splitB_one fun e => h (List.mem_cons_of_mem _ e)]
theorem splitB_join : ∀ {ps : List (List UInt8)}, ps ≠ [] → (∀ p ∈ ps, (47 : UInt8) ∉ p) → splitB (Lib.join ps [47]) = ps
  | [], h, _ => absurd rfl h
  | [p], _, h => by
    have : Lib.join [p] [47] = p := by simp [Lib.join, List.intercalate]
    rw [this]; exact splitB_one (h p (by simp))
  | p :: q :: r, _, h => by
    have : Lib.join (p :: q :: r) [47] = p ++ 47 :: Lib.join (q :: r) [47] := by simp [Lib.join, List.intercalate]
    rw [this, splitB_app (h p (by simp)), splitB_join (by simp) fun x hx => h x (List.mem_cons_of_mem _ hx)]
theorem bmk_data (s : BA) : bmk s.data.toList = s := ba_ext (by simp)
theorem splitS_join {l : List BA} (h0 : l ≠ []) (h : ∀ x ∈ l, noS x) : splitS (joinS l) = l := by
  unfold splitS joinS
  show (splitB (Lib.join (l.map (·.data.toList)) [47])).map bmk = l
  rw [splitB_join (by simpa using h0) (by
    intro p hp
    obtain ⟨x, hx, rfl⟩ := List.mem_map.1 hp
    exact h x hx), List.map_map]
  conv => rhs; rw [← List.map_id l]
  exact List.map_congr_left fun x _ => bmk_data x
theorem joinS_nil : joinS [] = emp := rfl
theorem splitS_emp : splitS emp = [emp] := rfl

/-- The elements of a clean path. -/
structure Okl (a : Bool) (l : List BA) : Prop where
  one : ∀ x ∈ l, x ≠ emp ∧ x ≠ dot1 ∧ noS x
  dots : ∀ i : Nat, l[i]? = some dot2 → a = false ∧ ∀ j, j < i → l[j]? = some dot2
theorem Okl.nil (a : Bool) : Okl a [] := ⟨(fun _ h => by cases h), fun i h => by simp at h⟩
theorem stepC_okl {a : Bool} {l : List BA} {s : BA} (h : Okl a l) (hs : noS s) : Okl a (stepC a l s) := by
  unfold stepC
  by_cases c1 : s = emp ∨ s = dot1
  · rw [if_pos c1]; exact h
  rw [if_neg c1]
  have c1' : s ≠ emp ∧ s ≠ dot1 := ⟨fun e => c1 (.inl e), fun e => c1 (.inr e)⟩
  have one : ∀ x ∈ l ++ [s], x ≠ emp ∧ x ≠ dot1 ∧ noS x := fun x hx => by
    rcases List.mem_append.1 hx with hx | hx
    · exact h.one x hx
    · rw [List.mem_singleton.1 hx]; exact ⟨c1'.1, c1'.2, hs⟩
  have look : ∀ (i : Nat) x, (l ++ [s])[i]? = some x → (i < l.length ∧ l[i]? = some x) ∨ (i = l.length ∧ s = x) := by
    intro i x hx
    rw [List.getElem?_append] at hx
    split at hx
    · rename_i hi; exact .inl ⟨hi, hx⟩
    · rename_i hi
      right
      have hlt := (List.getElem?_eq_some_iff.1 hx).1
      simp only [List.length_singleton] at hlt
      have e : i - l.length = 0 := by omega
      rw [e] at hx
      exact ⟨by omega, by simpa using hx⟩
  have left : ∀ j : Nat, l[j]? = some dot2 → (l ++ [s])[j]? = some dot2 := fun j hj => by
    rw [List.getElem?_append_left (List.getElem?_eq_some_iff.1 hj).1]; exact hj
  by_cases c2 : s ≠ dot2
  · rw [if_pos c2]
    refine ⟨one, fun i hi => ?_⟩
    rcases look i dot2 hi with ⟨_, h1⟩ | ⟨_, h1⟩
    · exact ⟨(h.dots i h1).1, fun j hj => left j ((h.dots i h1).2 j hj)⟩
    · exact absurd h1 c2
  rw [if_neg c2]
  by_cases c3 : 0 < l.length ∧ l[l.length - 1]? ≠ some dot2
  · rw [if_pos c3]
    refine ⟨fun x hx => h.one x (List.mem_of_mem_take hx), fun i hi => ?_⟩
    have hlt := (List.getElem?_eq_some_iff.1 hi).1
    rw [List.length_take] at hlt
    rw [List.getElem?_take_of_lt (by omega)] at hi
    refine ⟨(h.dots i hi).1, fun j hj => ?_⟩
    rw [List.getElem?_take_of_lt (by omega)]
    exact (h.dots i hi).2 j hj
  rw [if_neg c3]
  by_cases c4 : a = false
  · rw [if_pos c4]
    refine ⟨one, fun i hi => ⟨c4, fun j hj => ?_⟩⟩
    rcases look i dot2 hi with ⟨_, h1⟩ | ⟨h1, _⟩
    · exact left j ((h.dots i h1).2 j hj)
    · have h2 : l[l.length - 1]? = some dot2 := Classical.byContradiction fun hn => c3 ⟨by omega, hn⟩
      by_cases h3 : j = l.length - 1
      · rw [h3]; exact left _ h2
      · exact left j ((h.dots _ h2).2 j (by omega))
  · rw [if_neg c4]; exact h
theorem fold_okl {a : Bool} : ∀ {xs l : List BA}, Okl a l → (∀ x ∈ xs, noS x) → Okl a (xs.foldl (stepC a) l)
  | [], _, h, _ => h
  | x :: xs, l, h, hx => fold_okl (xs := xs) (stepC_okl h (hx x List.mem_cons_self)) fun y hy => hx y (List.mem_cons_of_mem _ hy)
theorem elems_okl (s : BA) : Okl (absP s) (elemsC s) := fold_okl (Okl.nil _) fun _ h => splitS_noS h
theorem fold_self {a : Bool} {l : List BA} (h : Okl a l) : l.foldl (stepC a) [] = l := by
  have key : ∀ k, k ≤ l.length → (l.take k).foldl (stepC a) [] = l.take k := by
    intro k
    induction k with
    | zero => intro _; rfl
    | succ k ih =>
      intro hk
      have hx : l[k]? = some l[k] := List.getElem?_eq_getElem (by omega)
      have ht : l.take (k + 1) = l.take k ++ [l[k]] := by rw [List.take_add_one, hx]; rfl
      have hl : (l.take k).length = k := by rw [List.length_take]; omega
      rw [ht, List.foldl_append, ih (by omega)]
      show stepC a (l.take k) l[k] = _
      obtain ⟨o1, o2, _⟩ := h.one l[k] (List.getElem_mem _)
      unfold stepC
      rw [if_neg (by rintro (e | e); exact o1 e; exact o2 e)]
      by_cases c2 : l[k] ≠ dot2
      · rw [if_pos c2]
      rw [if_neg c2]
      have c2 : l[k] = dot2 := Classical.not_not.1 c2
      obtain ⟨d1, d2⟩ := h.dots k (by rw [hx, c2])
      rw [if_neg, if_pos d1]
      rintro ⟨h1, h2⟩
      rw [hl] at h1 h2
      rw [List.getElem?_take_of_lt (by omega)] at h2
      exact h2 (d2 _ (by omega))
  have := key l.length (Nat.le_refl _)
  rwa [List.take_length] at this
theorem elems_join {a : Bool} {l : List BA} (h : Okl a l) : (splitS (joinS l)).foldl (stepC a) [] = l := by
  by_cases h0 : l = []
  · subst h0; rfl
  rw [splitS_join h0 fun x hx => (h.one x hx).2.2]
  exact fold_self h
theorem joinS_emp {a : Bool} {l : List BA} (h : Okl a l) : joinS l = emp ↔ l = [] := by
  constructor
  · intro he
    refine Classical.byContradiction fun h0 => ?_
    have := splitS_join h0 fun x hx => (h.one x hx).2.2
    rw [he, splitS_emp] at this
    exact (h.one emp (by rw [← this]; simp)).1 rfl
  · rintro rfl; rfl
theorem absP_sep (s : BA) : absP (sep ++ s) = true := by
  have : (sep ++ s).data.toList = 47 :: s.data.toList := by simp
  unfold absP Lib.hasPrefix
  rw [this]
  simp [List.isPrefixOf]
theorem splitS_sep (s : BA) : splitS (sep ++ s) = emp :: splitS s := by
  have : (sep ++ s).data.toList = 47 :: s.data.toList := by simp
  unfold splitS
  rw [this, splitB, if_pos rfl]
  rfl
theorem absP_eq (s : BA) : absP s = decide (s.data.toList[0]? = some 47) := by
  unfold absP Lib.hasPrefix
  show ([47] : List UInt8).isPrefixOf s.data.toList = _
  cases s.data.toList with
  | nil => rfl
  | cons x r =>
    by_cases h : x = 47
    · simp [List.isPrefixOf, h]
    · have h' : ¬ (47 : UInt8) = x := fun e => h e.symm
      simp [List.isPrefixOf, h, h']
theorem absP_join {a : Bool} {l : List BA} (h : Okl a l) : absP (joinS l) = false := by
  rw [absP_eq]
  cases l with
  | nil => rfl
  | cons x r =>
    obtain ⟨h1, _, h3⟩ := h.one x List.mem_cons_self
    cases hd : x.data.toList with
    | nil => exact absurd (ba_ext (by rw [hd]; rfl)) h1
    | cons y t =>
      have hy : y ≠ 47 := fun e => h3 (by rw [hd, e]; exact List.mem_cons_self)
      have : (joinS (x :: r)).data.toList[0]? = some y := by
        unfold joinS Lib.join
        cases r with
        | nil => simp [List.intercalate, hd]
        | cons z r => simp [List.intercalate, hd]
      rw [this]
      simpa using hy
theorem clean_elems (s : BA) : absP (cleanS s) = absP s ∧ elemsC (cleanS s) = elemsC s := by
  have h := elems_okl s
  generalize hl : elemsC s = l at h
  have hc : cleanS s = if absP s = true then sep ++ joinS l else if joinS l = emp then dot1 else joinS l := by unfold cleanS; rw [hl]
  by_cases ha : absP s = true
  · rw [hc, if_pos ha]
    rw [ha] at h ⊢
    refine ⟨absP_sep _, ?_⟩
    unfold elemsC
    rw [absP_sep, splitS_sep, List.foldl_cons]
    exact elems_join h
  · have ha : absP s = false := by simpa using ha
    rw [hc, if_neg (by rw [ha]; simp)]
    rw [ha] at h ⊢
    by_cases h0 : joinS l = emp
    · rw [if_pos h0, (joinS_emp h).1 h0]
      exact ⟨rfl, rfl⟩
    · rw [if_neg h0]
      have hj := absP_join h
      refine ⟨hj, ?_⟩
      unfold elemsC
      rw [hj]
      exact elems_join h
theorem clean_idem (s : BA) : cleanS (cleanS s) = cleanS s := by
  obtain ⟨h1, h2⟩ := clean_elems s
  rw [cleanS, h1, h2]
  rfl
end Go.Proofs.YtnnhmahemklnkaaGreatDoor
