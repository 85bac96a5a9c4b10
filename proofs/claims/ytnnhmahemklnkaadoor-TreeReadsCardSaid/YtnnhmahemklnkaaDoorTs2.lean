/-
  Trees: what always holds of a tree; a tree in memory and the tree that it is.
-/
import Derived.Test.YtnnhmahemklnkaaDoorTr4
namespace Go.Proofs.YtnnhmahemklnkaaDoor
open Go Go.Sh
set_option maxRecDepth 100000
set_option linter.unusedVariables false
set_option linter.unusedSimpArgs false
variable {w0 w : World} {F : Nat → Prop} {l : List As}

/-- What always holds of a tree. -/
structure Inv (T : Tr) : Prop where
  sorted : T.ns.Pairwise fun a b => a.path < b.path
  root : ∃ n ∈ T.ns, n.path = 0
  bound : ∀ n ∈ T.ns, 0 ≤ n.path ∧ n.path < T.next
  rootD : ∀ n ∈ T.ns, n.path = 0 → n.dir = true ∧ n.up = 0
  up : ∀ n ∈ T.ns, n.path ≠ 0 → ∃ u ∈ T.ns, u.path = n.up ∧ u.dir = true
  names : ∀ a ∈ T.ns, ∀ b ∈ T.ns, a.path ≠ 0 → b.path ≠ 0 → a.up = b.up → a.name = b.name → a.path = b.path
  good : ∀ n ∈ T.ns, n.path ≠ 0 → goodName n.name = true
  rank : ∃ rk : Int → Nat, ∀ n ∈ T.ns, n.path ≠ 0 → rk n.up < rk n.path
  data : ∀ n ∈ T.ns, (n.dir = true → n.data = emp) ∧ n.data.size ≤ 1048576
  form : ∀ n ∈ T.ns, goodName n.owner = true ∧ goodName n.group = true ∧ rightM n.mode = true ∧ 0 ≤ n.vers ∧ 0 ≤ n.time
  hsorted : T.hs.Pairwise fun a b => a.1 < b.1
  hpos : ∀ x ∈ T.hs, 1 ≤ x.1
  hfile : ∀ x ∈ T.hs, 0 ≤ x.2.file ∧ x.2.file < T.next
  hclose : ∀ x ∈ T.hs, x.2.mode ≠ 0 → ∀ n ∈ T.ns, n.path = x.2.file → n.dir = false
  few : T.ns.length ≤ 1024 ∧ T.hs.length ≤ 64
  clock : 0 ≤ T.clock
  rootN : ∀ n ∈ T.ns, n.path = 0 → n.name = emp
/-- No number of a tree is greater than this. -/
structure Lim (N : Int) (T : Tr) : Prop where
  clock : T.clock ≤ N
  next : T.next ≤ N
  vers : ∀ n ∈ T.ns, n.vers ≤ N

theorem Inv.nodup {T : Tr} (h : Inv T) : (T.ns.map (·.path)).Nodup := by
  rw [List.Nodup, List.pairwise_map]
  exact h.sorted.imp fun {a b} hab => by omega
theorem Inv.inj {T : Tr} (h : Inv T) {a b : Nd} (ha : a ∈ T.ns) (hb : b ∈ T.ns) (he : a.path = b.path) : a = b := by
  have := h.sorted
  have key : ∀ (ns : List Nd), ns.Pairwise (fun a b => a.path < b.path) → a ∈ ns → b ∈ ns → a = b := by
    intro ns
    induction ns with
    | nil => intro _ h; cases h
    | cons x r ih =>
      intro hp ha hb
      rw [List.pairwise_cons] at hp
      rcases List.mem_cons.1 ha with h1 | ha <;> rcases List.mem_cons.1 hb with h2 | hb
      · rw [h1, h2]
      · have := hp.1 b hb; rw [← h1] at this; omega
      · have := hp.1 a ha; rw [← h2] at this; omega
      · exact ih hp.2 ha hb
  exact key _ this ha hb
theorem Inv.get {T : Tr} (h : Inv T) {p : Int} {n : Nd} : T.get p = some n ↔ n ∈ T.ns ∧ n.path = p := by
  unfold Tr.get
  constructor
  · intro hg
    exact ⟨List.mem_of_find?_eq_some hg, by simpa using List.find?_some hg⟩
  · rintro ⟨hn, rfl⟩
    cases hg : T.ns.find? fun x => decide (x.path = n.path) with
    | none =>
      have := List.find?_eq_none.1 hg n hn
      simp at this
    | some x =>
      have h1 := List.mem_of_find?_eq_some hg
      have h2 : x.path = n.path := by simpa using List.find?_some hg
      rw [h.inj h1 hn h2]
theorem get_none {T : Tr} {p : Int} : T.get p = none ↔ ∀ n ∈ T.ns, n.path ≠ p := by
  unfold Tr.get
  rw [List.find?_eq_none]
  simp

/-- A tree in memory is this tree. -/
structure Tie (D : List Row) (X : PT) (T : Tr) (β : Int → Nat) : Prop where
  ns : (X.ps.map PN.f).Perm T.ns
  clock : X.clock = T.clock
  next : X.next = T.next
  data : ∀ n ∈ X.ps, Rdy D Ty.uint8 n.dv (bts n.f.data)
  ub : ∀ n ∈ X.ps, (n.f.path = 0 → n.ub = none) ∧ (n.f.path ≠ 0 → ∃ u ∈ X.ps, u.f.path = n.f.up ∧ n.ub = some u.blk)
  kl : ∀ n ∈ X.ps, n.kl.Perm ((X.ps.filter fun k => Tr.isKid n.f.path k.f).map fun k => (k.f.name, k.blk))
  fl : X.fl.Perm (X.ps.map fun n => (n.f.path, n.blk))
  root : ∃ r ∈ X.ps, r.f.path = 0 ∧ r.blk = X.root
  gs : GTie D X.gv T.gs
  bl : ∀ n ∈ X.ps, β n.f.path = n.blk
  ol : X.ol.Perm (T.hs.map fun x => (x.1, (⟨β x.2.file, x.2.mode, x.2.user⟩ : HV)))
  dead : ∀ x ∈ T.hs, (∀ n ∈ T.ns, n.path ≠ x.2.file) → ∃ m, (β x.2.file, m) ∈ X.ds ∧ m.gone = true

section
variable {D : List Row} {X : PT} {T : Tr} {β : Int → Nat}
theorem Tie.mem (h : Tie D X T β) {n : Nd} : n ∈ T.ns ↔ ∃ q ∈ X.ps, q.f = n := by
  rw [← h.ns.mem_iff, List.mem_map]
theorem Tie.inj (h : Tie D X T β) (hi : Inv T) {a b : PN} (ha : a ∈ X.ps) (hb : b ∈ X.ps) (he : a.f.path = b.f.path) : a = b := by
  have hn : (X.ps.map fun n => n.f.path).Nodup := by
    have := (h.ns.map (·.path)).nodup_iff.2 hi.nodup
    rwa [List.map_map] at this
  have key : ∀ (ps : List PN), (ps.map fun n => n.f.path).Nodup → a ∈ ps → b ∈ ps → a = b := by
    intro ps
    induction ps with
    | nil => intro _ h; cases h
    | cons x r ih =>
      intro hp ha hb
      rw [List.map_cons, List.nodup_cons] at hp
      rcases List.mem_cons.1 ha with h1 | ha <;> rcases List.mem_cons.1 hb with h2 | hb
      · rw [h1, h2]
      · exact absurd (List.mem_map.2 ⟨b, hb, by rw [← h1, he]⟩) hp.1
      · exact absurd (List.mem_map.2 ⟨a, ha, by rw [← h2, he]⟩) hp.1
      · exact ih hp.2 ha hb
  exact key _ hn ha hb
theorem Tie.flN (h : Tie D X T β) (hi : Inv T) : ((X.ps.map fun n => (n.f.path, n.blk)).map (·.1)).Nodup := by
  rw [List.map_map]
  have := (h.ns.map (·.path)).nodup_iff.2 hi.nodup
  rwa [List.map_map] at this
/-- A file is there, in both, or in none. -/
theorem Tie.find (h : Tie D X T β) (hi : Inv T) (p : Int) :
    (T.get p = none ∧ getL X.fl p = none) ∨ ∃ n rs, X.ps.Perm (n :: rs) ∧ n ∈ X.ps ∧ n.f.path = p ∧ T.get p = some n.f ∧ getL X.fl p = some n.blk := by
  cases hg : T.get p with
  | none =>
    left
    refine ⟨rfl, ?_⟩
    rw [getL_perm h.fl (h.flN hi), getL_none, List.map_map]
    intro hm
    obtain ⟨n, hn, he⟩ := List.mem_map.1 hm
    exact get_none.1 hg n.f (h.mem.2 ⟨n, hn, rfl⟩) he
  | some n =>
    right
    obtain ⟨hn, he⟩ := hi.get.1 hg
    obtain ⟨q, hq, rfl⟩ := h.mem.1 hn
    obtain ⟨rs, hp⟩ := split_perm hq
    refine ⟨q, rs, hp, hq, he, rfl, ?_⟩
    rw [getL_perm h.fl (h.flN hi), getL_some (h.flN hi)]
    exact List.mem_map.2 ⟨q, hq, by rw [he]⟩
/-- The parent. -/
theorem Tie.parent (h : Tie D X T β) (hi : Inv T) {n : PN} {rs : List PN} (hp : X.ps.Perm (n :: rs)) (h0 : n.f.path ≠ 0) :
    ∃ u rs', rs.Perm (u :: rs') ∧ u ∈ X.ps ∧ n.ub = some u.blk ∧ u.f.path = n.f.up ∧ u.f.path ≠ n.f.path ∧ u.f.dir = true ∧ T.get n.f.up = some u.f ∧ T.parent n.f = u.f := by
  have hn : n ∈ X.ps := hp.mem_iff.2 List.mem_cons_self
  obtain ⟨u, hu, h1, h2⟩ := (h.ub n hn).2 h0
  have hnT := h.mem.2 ⟨n, hn, rfl⟩
  obtain ⟨rk, hrk⟩ := hi.rank
  have h3 : u.f.path ≠ n.f.path := fun he => by
    have := hrk _ hnT h0
    rw [← h1, he] at this; omega
  have hur : u ∈ rs := by
    rcases List.mem_cons.1 (hp.mem_iff.1 hu) with rfl | h
    · exact absurd rfl h3
    · exact h
  obtain ⟨rs', hp'⟩ := split_perm hur
  have huT := h.mem.2 ⟨u, hu, rfl⟩
  obtain ⟨v, hv, hv1, hv2⟩ := hi.up _ hnT h0
  have : v = u.f := hi.inj hv huT (by rw [hv1, h1])
  have hg : T.get n.f.up = some u.f := hi.get.2 ⟨huT, h1⟩
  exact ⟨u, rs', hp', hu, h2, h1, h3, by rw [← this]; exact hv2, hg, by unfold Tr.parent; rw [hg]; rfl⟩
theorem Hs.openTN {n : PN} {rs : List PN} (hp : X.ps.Perm (n :: rs)) (E : Hs w0 F w (trA X :: l)) : Hs w0 F w (tb X :: mp X.fm (.int .i64) X.fM :: mp X.gm .str X.gM :: mp X.om (.int .i64) X.oM :: nd n.blk n.mn :: KM n :: NT rs :: DT X.ds :: l) := by
  replace E := Hs.openN ((Hs.openT E).bIx 4) hp
  (replace E := (((((((E.bIx 2).bIx 2).bIx 2).bIx 6).bIx 6).bIx 6).bIx 6))
  exact E
theorem Hs.closeTN (X : PT) (n : PN) {rs : List PN} (hp : X.ps.Perm (n :: rs)) (E : Hs w0 F w (tb X :: mp X.fm (.int .i64) X.fM :: mp X.gm .str X.gM :: mp X.om (.int .i64) X.oM :: nd n.blk n.mn :: KM n :: NT rs :: DT X.ds :: l)) : Hs w0 F w (trA X :: l) := by
  (replace E := (((((((E.bIx 3).bIx 3).bIx 3).bIx 3).bIx 6).bIx 6).bIx 6))
  replace E := Hs.permN (Hs.closeN n E) hp.symm
  (replace E := (((((E.bIx 0).bIx 4).bIx 4).bIx 4).bIx 4))
  exact Hs.closeT X E
theorem Hs.openTN2 {n u : PN} {rs : List PN} (hp : X.ps.Perm (n :: u :: rs)) (E : Hs w0 F w (trA X :: l)) : Hs w0 F w (tb X :: mp X.fm (.int .i64) X.fM :: mp X.gm .str X.gM :: mp X.om (.int .i64) X.oM :: nd n.blk n.mn :: KM n :: nd u.blk u.mn :: KM u :: NT rs :: DT X.ds :: l) := by
  replace E := Hs.openN ((Hs.openTN hp E).bIx 6) (List.Perm.refl _)
  (replace E := (((((((((E.bIx 2).bIx 2).bIx 2).bIx 8).bIx 8).bIx 8).bIx 8).bIx 8).bIx 8))
  exact E
theorem Hs.closeTN2 (X : PT) (n u : PN) {rs : List PN} (hp : X.ps.Perm (n :: u :: rs)) (E : Hs w0 F w (tb X :: mp X.fm (.int .i64) X.fM :: mp X.gm .str X.gM :: mp X.om (.int .i64) X.oM :: nd n.blk n.mn :: KM n :: nd u.blk u.mn :: KM u :: NT rs :: DT X.ds :: l)) : Hs w0 F w (trA X :: l) := by
  (replace E := (((((((((E.bIx 5).bIx 5).bIx 5).bIx 5).bIx 5).bIx 5).bIx 8).bIx 8).bIx 8))
  replace E := Hs.closeN u E
  (replace E := (((((((E.bIx 0).bIx 6).bIx 6).bIx 6).bIx 6).bIx 6).bIx 6))
  exact Hs.closeTN X n hp E

theorem memberG_eq (T : Tr) (user g : BA) : memberG T.gs user g = T.member user g := rfl

theorem Stat_ok (h : Tie D X T β) (hi : Inv T) {user : BA} {file : Int} (hp : Pool D ∈ l) (E : Hs w0 F w (trA X :: l)) :
    Ca PP Fn.tree_Tree_Stat #[ptr X.t, str user, i64 file] w fun r w' => r = .tuple #[(T.stat file).1.V, i64 (T.stat file).2] ∧ Hs w0 F w' (trA X :: l) := by
  refine S.tree_Tree_Stat.calls ?_
  unfold S.tree_Tree_Stat
  (repeat first | (with_reducible first | refine Stp.go ?_ | refine StpE.go E ?_ | (refine StpW.go E ?_; clear E; intro w_ E) | (refine StpA.go E ?_; clear E; intro b_ w_ hb_ E) | refine Ld.pt E (by (repeat (first | assumption | with_reducible exact List.mem_cons_self | refine List.mem_cons_of_mem _ ?_))) rfl ?_ | (apply LdA.pt E; (focus ((repeat (first | assumption | with_reducible exact List.mem_cons_self | refine List.mem_cons_of_mem _ ?_)); done)); (focus (simp only [Nat.reduceAdd, Nat.zero_add, List.drop_succ_cons, List.drop_zero, List.take_succ_cons, List.take_zero, List.take_nil, List.drop_nil]; exact rfl)); (focus exact rfl)) | refine LnL.nil ?_) | ((with_reducible refine Bi.dec true ?_ ?_); focus exact rfl) | ((with_reducible refine Bi.dec false ?_ ?_); focus exact rfl) | ((with_reducible refine Bi.sdec true ?_ ?_); focus decide) | ((with_reducible refine Bi.sdec false ?_ ?_); focus decide))
  (revert b_; intro q hbq E)
  rcases h.find hi file with ⟨h1, h2⟩ | ⟨n, rs, hpm, hn, hpath, h1, h2⟩
  · replace E := Hs.openT (E.bIx 1)
    refine (find_ok E).mono ?_
    clear E
    rintro r w_ ⟨rfl, E⟩
    rw [h2]
    unfold findV
    (repeat first | (with_reducible first | refine Stp.go ?_ | refine StpE.go E ?_ | (refine StpW.go E ?_; clear E; intro w_ E) | (refine StpA.go E ?_; clear E; intro b_ w_ hb_ E) | refine Ld.pt E (by (repeat (first | assumption | with_reducible exact List.mem_cons_self | refine List.mem_cons_of_mem _ ?_))) rfl ?_ | (apply LdA.pt E; (focus ((repeat (first | assumption | with_reducible exact List.mem_cons_self | refine List.mem_cons_of_mem _ ?_)); done)); (focus (simp only [Nat.reduceAdd, Nat.zero_add, List.drop_succ_cons, List.drop_zero, List.take_succ_cons, List.take_zero, List.take_nil, List.drop_nil]; exact rfl)); (focus exact rfl)) | refine LnL.nil ?_) | ((with_reducible refine Bi.dec true ?_ ?_); focus exact rfl) | ((with_reducible refine Bi.dec false ?_ ?_); focus exact rfl) | ((with_reducible refine Bi.sdec true ?_ ?_); focus decide) | ((with_reducible refine Bi.sdec false ?_ ?_); focus decide))
    replace E := E.bIx 6
    unfold Tr.stat
    rw [h1]
    exact ⟨rfl, Hs.closeT X E.tl⟩
  · replace E := Hs.openTN hpm (E.bIx 1)
    refine (find_ok E).mono ?_
    clear E
    rintro r w_ ⟨rfl, E⟩
    rw [h2]
    unfold findV
    (repeat first | (with_reducible first | refine Stp.go ?_ | refine StpE.go E ?_ | (refine StpW.go E ?_; clear E; intro w_ E) | (refine StpA.go E ?_; clear E; intro b_ w_ hb_ E) | refine Ld.pt E (by (repeat (first | assumption | with_reducible exact List.mem_cons_self | refine List.mem_cons_of_mem _ ?_))) rfl ?_ | (apply LdA.pt E; (focus ((repeat (first | assumption | with_reducible exact List.mem_cons_self | refine List.mem_cons_of_mem _ ?_)); done)); (focus (simp only [Nat.reduceAdd, Nat.zero_add, List.drop_succ_cons, List.drop_zero, List.take_succ_cons, List.take_zero, List.take_nil, List.drop_nil]; exact rfl)); (focus exact rfl)) | refine LnL.nil ?_) | ((with_reducible refine Bi.dec true ?_ ?_); focus exact rfl) | ((with_reducible refine Bi.dec false ?_ ?_); focus exact rfl) | ((with_reducible refine Bi.sdec true ?_ ?_); focus decide) | ((with_reducible refine Bi.sdec false ?_ ?_); focus decide))
    replace E := E.bIx 4
    have hrd := (h.data n hn).read E.tl (by simp [hp])
    have hsz : (bts n.f.data).length = n.f.data.size := by simp [bts]
    rw [hsz] at hrd
    refine (stat_ok E hrd).mono ?_
    clear E
    rintro r w_ ⟨rfl, E⟩
    (repeat first | (with_reducible first | refine Stp.go ?_ | refine StpE.go E ?_ | (refine StpW.go E ?_; clear E; intro w_ E) | (refine StpA.go E ?_; clear E; intro b_ w_ hb_ E) | refine Ld.pt E (by (repeat (first | assumption | with_reducible exact List.mem_cons_self | refine List.mem_cons_of_mem _ ?_))) rfl ?_ | (apply LdA.pt E; (focus ((repeat (first | assumption | with_reducible exact List.mem_cons_self | refine List.mem_cons_of_mem _ ?_)); done)); (focus (simp only [Nat.reduceAdd, Nat.zero_add, List.drop_succ_cons, List.drop_zero, List.take_succ_cons, List.take_zero, List.take_nil, List.drop_nil]; exact rfl)); (focus exact rfl)) | refine LnL.nil ?_) | ((with_reducible refine Bi.dec true ?_ ?_); focus exact rfl) | ((with_reducible refine Bi.dec false ?_ ?_); focus exact rfl) | ((with_reducible refine Bi.sdec true ?_ ?_); focus decide) | ((with_reducible refine Bi.sdec false ?_ ?_); focus decide))
    unfold Tr.stat
    rw [h1]
    replace E := (E.bIx 8).tl
    (replace E := (((((E.bIx 0).bIx 4).bIx 4).bIx 4).bIx 4))
    exact ⟨rfl, Hs.closeTN X n hpm E⟩
end
end Go.Proofs.YtnnhmahemklnkaaDoor
