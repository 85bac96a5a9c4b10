/-
  Trees: permissions, changes, finding; handles; data.
-/
import Derived.Test.YtnnhmahemklnkaaDoorTr2
namespace Go.Proofs.YtnnhmahemklnkaaDoor
open Go Go.Sh
set_option maxRecDepth 100000
set_option linter.unusedVariables false
set_option linter.unusedSimpArgs false
variable {w0 w : World} {F : Nat → Prop} {l : List As}

theorem may_ok {t f : Nat} {m : MN} {X : PT} {D : List Row} {gs : List (BA × List BA)} {user : BA} {need : Int} {r1 r2 r3 : List As} [h1 : FPt l t (oc X.cs Ty.tree_Tree) r1] [h2 : FMp l X.gm .str X.gM r2] [h3 : FPt l f (oc m.C Ty.tree_node) r3]
    (hp : Pool D ∈ l) (hg : GTie D X.gv gs) (E : Hs w0 F w l) :
    Ca PP Fn.tree_Tree_may #[ptr t, str user, ptr f, i64 need] w fun r w' => r = .bool (permF m.mode (decide (user = m.owner)) (memberG gs user m.group) need) ∧ Hs w0 F w' l := by
  refine S.tree_Tree_may.calls ?_
  unfold S.tree_Tree_may
  (repeat first | (with_reducible first | refine Stp.go ?_ | refine StpE.go E ?_ | (refine StpW.go E ?_; clear E; intro w_ E) | (refine StpA.go E ?_; clear E; intro b_ w_ hb_ E) | refine Ld.pt E (by (repeat (first | assumption | with_reducible exact List.mem_cons_self | refine List.mem_cons_of_mem _ ?_))) rfl ?_ | (apply LdA.pt E; (focus ((repeat (first | assumption | with_reducible exact List.mem_cons_self | refine List.mem_cons_of_mem _ ?_)); done)); (focus (simp only [Nat.reduceAdd, Nat.zero_add, List.drop_succ_cons, List.drop_zero, List.take_succ_cons, List.take_zero, List.take_nil, List.drop_nil]; exact rfl)); (focus exact rfl)) | refine LnL.nil ?_) | ((with_reducible refine Bi.dec true ?_ ?_); focus exact rfl) | ((with_reducible refine Bi.dec false ?_ ?_); focus exact rfl) | ((with_reducible refine Bi.sdec true ?_ ?_); focus decide) | ((with_reducible refine Bi.sdec false ?_ ?_); focus decide))
  have key : ∀ b : Bool, b = decide (user = m.owner) → Ca PP Fn.tree_Tree_member #[ptr t, str user, str m.group] w_ fun t28 w_16 =>
      (Ld (.pointer (some ⟨f, 3, none⟩)) w_16 fun t13 => t13 = i64 m.mode) ∧ (Ld (.pointer (some ⟨f, 7, none⟩)) w_16 fun t19 => t19 = str m.owner) ∧
      Ca PP Fn.tree_Permits #[i64 m.mode, .bool b, t28, i64 need] w_16 fun r w' => r = .bool (permF m.mode (decide (user = m.owner)) (memberG gs user m.group) need) ∧ Hs w0 F w' l := by
    intro b hb
    refine (member_ok hp hg E).mono ?_
    clear E
    rintro r w_ ⟨rfl, E⟩
    refine ⟨?_, ?_, ?_⟩
    · (repeat first | (with_reducible first | refine Stp.go ?_ | refine StpE.go E ?_ | (refine StpW.go E ?_; clear E; intro w_ E) | (refine StpA.go E ?_; clear E; intro b_ w_ hb_ E) | refine Ld.pt E (by (repeat (first | assumption | with_reducible exact List.mem_cons_self | refine List.mem_cons_of_mem _ ?_))) rfl ?_ | (apply LdA.pt E; (focus ((repeat (first | assumption | with_reducible exact List.mem_cons_self | refine List.mem_cons_of_mem _ ?_)); done)); (focus (simp only [Nat.reduceAdd, Nat.zero_add, List.drop_succ_cons, List.drop_zero, List.take_succ_cons, List.take_zero, List.take_nil, List.drop_nil]; exact rfl)); (focus exact rfl)) | refine LnL.nil ?_) | ((with_reducible refine Bi.dec true ?_ ?_); focus exact rfl) | ((with_reducible refine Bi.dec false ?_ ?_); focus exact rfl) | ((with_reducible refine Bi.sdec true ?_ ?_); focus decide) | ((with_reducible refine Bi.sdec false ?_ ?_); focus decide)); rfl
    · (repeat first | (with_reducible first | refine Stp.go ?_ | refine StpE.go E ?_ | (refine StpW.go E ?_; clear E; intro w_ E) | (refine StpA.go E ?_; clear E; intro b_ w_ hb_ E) | refine Ld.pt E (by (repeat (first | assumption | with_reducible exact List.mem_cons_self | refine List.mem_cons_of_mem _ ?_))) rfl ?_ | (apply LdA.pt E; (focus ((repeat (first | assumption | with_reducible exact List.mem_cons_self | refine List.mem_cons_of_mem _ ?_)); done)); (focus (simp only [Nat.reduceAdd, Nat.zero_add, List.drop_succ_cons, List.drop_zero, List.take_succ_cons, List.take_zero, List.take_nil, List.drop_nil]; exact rfl)); (focus exact rfl)) | refine LnL.nil ?_) | ((with_reducible refine Bi.dec true ?_ ?_); focus exact rfl) | ((with_reducible refine Bi.dec false ?_ ?_); focus exact rfl) | ((with_reducible refine Bi.sdec true ?_ ?_); focus decide) | ((with_reducible refine Bi.sdec false ?_ ?_); focus decide)); rfl
    · refine Permits_ok.mono ?_
      rintro r w' ⟨rfl, rfl⟩
      exact ⟨by rw [hb], E⟩
  refine Bi.seql ?_ ?_ <;> intro he
  · (repeat first | (with_reducible first | refine Stp.go ?_ | refine StpE.go E ?_ | (refine StpW.go E ?_; clear E; intro w_ E) | (refine StpA.go E ?_; clear E; intro b_ w_ hb_ E) | refine Ld.pt E (by (repeat (first | assumption | with_reducible exact List.mem_cons_self | refine List.mem_cons_of_mem _ ?_))) rfl ?_ | (apply LdA.pt E; (focus ((repeat (first | assumption | with_reducible exact List.mem_cons_self | refine List.mem_cons_of_mem _ ?_)); done)); (focus (simp only [Nat.reduceAdd, Nat.zero_add, List.drop_succ_cons, List.drop_zero, List.take_succ_cons, List.take_zero, List.take_nil, List.drop_nil]; exact rfl)); (focus exact rfl)) | refine LnL.nil ?_) | ((with_reducible refine Bi.dec true ?_ ?_); focus exact rfl) | ((with_reducible refine Bi.dec false ?_ ?_); focus exact rfl) | ((with_reducible refine Bi.sdec true ?_ ?_); focus decide) | ((with_reducible refine Bi.sdec false ?_ ?_); focus decide))
    exact key true (by simp [he])
  · (repeat first | (with_reducible first | refine Stp.go ?_ | refine StpE.go E ?_ | (refine StpW.go E ?_; clear E; intro w_ E) | (refine StpA.go E ?_; clear E; intro b_ w_ hb_ E) | refine Ld.pt E (by (repeat (first | assumption | with_reducible exact List.mem_cons_self | refine List.mem_cons_of_mem _ ?_))) rfl ?_ | (apply LdA.pt E; (focus ((repeat (first | assumption | with_reducible exact List.mem_cons_self | refine List.mem_cons_of_mem _ ?_)); done)); (focus (simp only [Nat.reduceAdd, Nat.zero_add, List.drop_succ_cons, List.drop_zero, List.take_succ_cons, List.take_zero, List.take_nil, List.drop_nil]; exact rfl)); (focus exact rfl)) | refine LnL.nil ?_) | ((with_reducible refine Bi.dec true ?_ ?_); focus exact rfl) | ((with_reducible refine Bi.dec false ?_ ?_); focus exact rfl) | ((with_reducible refine Bi.sdec true ?_ ?_); focus decide) | ((with_reducible refine Bi.sdec false ?_ ?_); focus decide))
    exact key false (by simp [he])

theorem Hs.nodupN {ps : List PN} (E : Hs w0 F w (NT ps :: l)) : (ps.map PN.blk).Nodup := by
  have h := (E.sat _ List.mem_cons_self).2
  rw [List.pairwise_map] at h
  rw [List.Nodup, List.pairwise_map]
  refine h.imp fun {a b} hab he => ?_
  refine hab a.blk ⟨_, List.mem_cons_self, rfl⟩ ⟨_, List.mem_cons_self, ?_⟩
  exact he
def updB (ps : List PN) (b : Nat) (g : PN → PN) : List PN := ps.map fun n => if n.blk = b then g n else n
theorem updB_perm {ps rs : List PN} {n : PN} {g : PN → PN} (hn : (ps.map PN.blk).Nodup) (hp : ps.Perm (n :: rs)) : (updB ps n.blk g).Perm (g n :: rs) := by
  have h1 : (updB ps n.blk g).Perm (updB (n :: rs) n.blk g) := hp.map _
  have h2 : ((n :: rs).map PN.blk).Nodup := (hp.map _).nodup_iff.1 hn
  simp only [List.map_cons, List.nodup_cons] at h2
  have h3 : updB (n :: rs) n.blk g = g n :: rs := by
    unfold updB
    simp only [List.map_cons, if_true]
    congr 1
    conv => rhs; rw [← List.map_id rs]
    refine List.map_congr_left fun x hx => ?_
    rw [if_neg fun he => h2.1 (by rw [← he]; exact List.mem_map.2 ⟨x, hx, rfl⟩)]; rfl
  rw [h3] at h1
  exact h1
theorem updB_blk {ps : List PN} {b : Nat} {g : PN → PN} (hg : ∀ n, (g n).blk = n.blk) : (updB ps b g).map PN.blk = ps.map PN.blk := by
  unfold updB
  rw [List.map_map]
  refine List.map_congr_left fun x _ => ?_
  simp only [Function.comp]
  split
  · exact hg x
  · rfl
def PN.touch (c : Int) (user : BA) (n : PN) : PN := { n with f := touchN c user n.f }
def chgB (c : Int) (user : BA) (bs : List Nat) (ps : List PN) : List PN := bs.foldl (fun ps b => updB ps b (PN.touch c user)) ps
theorem chgB_app {c : Int} {user : BA} {bs cs : List Nat} {ps : List PN} : chgB c user (bs ++ cs) ps = chgB c user cs (chgB c user bs ps) := List.foldl_append ..
theorem chgB_blk {c : Int} {user : BA} : ∀ {bs : List Nat} {ps : List PN}, (chgB c user bs ps).map PN.blk = ps.map PN.blk
  | [], _ => rfl
  | b :: bs, ps => (chgB_blk (bs := bs) (ps := updB ps b (PN.touch c user))).trans (updB_blk fun _ => rfl)
theorem chgB_vers {c : Int} {user : BA} : ∀ {bs : List Nat} {ps : List PN} {n : PN}, n ∈ chgB c user bs ps → ∃ m ∈ ps, n.f.vers ≤ m.f.vers + bs.length ∧ m.f.vers ≤ n.f.vers
  | [], ps, n, h => ⟨n, h, by simp, Int.le_refl _⟩
  | b :: bs, ps, n, h => by
    obtain ⟨m, hm, h1, h2⟩ := chgB_vers (bs := bs) (ps := updB ps b (PN.touch c user)) h
    obtain ⟨q, hq, rfl⟩ := List.mem_map.1 hm
    refine ⟨q, hq, ?_⟩
    split at h1 <;> rename_i hb
    · rw [if_pos hb] at h2
      simp only [PN.touch, touchN, List.length_cons] at h1 h2 ⊢
      omega
    · rw [if_neg hb] at h2
      simp only [List.length_cons] at h1 h2 ⊢
      omega

/-- Files are changed. -/
theorem change_ok {X : PT} {user : BA} {bs : List Nat} {v : Value} {ps : List PN} (h : RdS w0 F l 1 bs.length v (bs.map ptr)) (hb : ∀ b ∈ bs, b ∈ ps.map PN.blk) (hc : 0 ≤ X.clock ∧ X.clock < 4611686018427387904)
    (hv : ∀ n ∈ ps, 0 ≤ n.f.vers ∧ n.f.vers < 4611686018427387904) (hl : bs.length < 1000) (E : Hs w0 F w (tb X :: NT ps :: l)) :
    Ca PP Fn.tree_Tree_change #[ptr X.t, str user, v] w fun r w' => Hs w0 F w' (tb { X with clock := X.clock + 1 } :: NT (chgB (X.clock + 1) user bs ps) :: l) := by
  refine S.tree_Tree_change.calls ?_
  unfold S.tree_Tree_change
  (repeat first | (with_reducible first | refine Stp.go ?_ | refine StpE.go E ?_ | (refine StpW.go E ?_; clear E; intro w_ E) | (refine StpA.go E ?_; clear E; intro b_ w_ hb_ E) | refine LnL.nil ?_) | ((with_reducible refine Bi.dec true ?_ ?_); focus exact rfl) | ((with_reducible refine Bi.dec false ?_ ?_); focus exact rfl) | ((with_reducible refine Bi.sdec true ?_ ?_); focus decide) | ((with_reducible refine Bi.sdec false ?_ ?_); focus decide))
  refine Bi.add (by omega) ?_
  (repeat first | (with_reducible first | refine Stp.go ?_ | refine StpE.go E ?_ | (refine StpW.go E ?_; clear E; intro w_ E) | (refine StpA.go E ?_; clear E; intro b_ w_ hb_ E) | refine LnL.nil ?_) | ((with_reducible refine Bi.dec true ?_ ?_); focus exact rfl) | ((with_reducible refine Bi.dec false ?_ ?_); focus exact rfl) | ((with_reducible refine Bi.sdec true ?_ ?_); focus decide) | ((with_reducible refine Bi.sdec false ?_ ?_); focus decide))
  refine ((h.cons (NT ps)).cons (tb X)).len ?_
  refine ⟨fun l1 w1 => ∃ i : Nat, l1 = [i64 i] ∧ i ≤ bs.length ∧ Hs w0 F w1 (tb { X with clock := X.clock + 1 } :: NT (chgB (X.clock + 1) user (bs.take i) ps) :: l), fun l1 _ => match l1 with | [.int _ i] => bs.length - i.toNat | _ => 0,
    ⟨0, rfl, Nat.zero_le _, E⟩, ?_⟩
  clear E
  rintro t u w1 ⟨i, h1, hi, E⟩
  cases h1
  refine Bi.lss ?_ ?_ <;> intro hlt <;> (repeat first | (with_reducible first | refine Stp.go ?_ | refine StpE.go E ?_ | (refine StpW.go E ?_; clear E; intro w_ E) | (refine StpA.go E ?_; clear E; intro b_ w_ hb_ E) | refine LnL.nil ?_) | ((with_reducible refine Bi.dec true ?_ ?_); focus exact rfl) | ((with_reducible refine Bi.dec false ?_ ?_); focus exact rfl) | ((with_reducible refine Bi.sdec true ?_ ?_); focus decide) | ((with_reducible refine Bi.sdec false ?_ ?_); focus decide))
  · have hx : bs[i]? = some bs[i] := List.getElem?_eq_getElem (by omega)
    refine ((h.cons (NT (chgB (X.clock + 1) user (bs.take i) ps))).cons (tb { X with clock := X.clock + 1 })).ix (by omega) (by omega) (by omega) ?_
    intro a ha
    refine ha.ld E (x := ptr bs[i]) (by simp [hx]) ?_
    have hmem : bs[i] ∈ (chgB (X.clock + 1) user (bs.take i) ps).map PN.blk := by rw [chgB_blk]; exact hb _ (List.getElem_mem _)
    obtain ⟨n, hn, hnb⟩ := List.mem_map.1 hmem
    obtain ⟨rs, hp⟩ := split_perm hn
    have hnd := Hs.nodupN (E.bIx 1)
    replace E := Hs.openN (E.bIx 1) hp
    obtain ⟨m, hm, hm1, hm2⟩ := chgB_vers hn
    have hmv := hv m hm
    have hlen : (bs.take i).length ≤ bs.length := by simp; omega
    have hvq : n.mn.vers = n.f.vers := rfl
    rw [hnb] at E
    (repeat first | (with_reducible first | refine Stp.go ?_ | refine StpE.go E ?_ | (refine StpW.go E ?_; clear E; intro w_ E) | (refine StpA.go E ?_; clear E; intro b_ w_ hb_ E) | refine LnL.nil ?_) | ((with_reducible refine Bi.dec true ?_ ?_); focus exact rfl) | ((with_reducible refine Bi.dec false ?_ ?_); focus exact rfl) | ((with_reducible refine Bi.sdec true ?_ ?_); focus decide) | ((with_reducible refine Bi.sdec false ?_ ?_); focus decide))
    refine Bi.add (by omega) ?_
    (repeat first | (with_reducible first | refine Stp.go ?_ | refine StpE.go E ?_ | (refine StpW.go E ?_; clear E; intro w_ E) | (refine StpA.go E ?_; clear E; intro b_ w_ hb_ E) | refine LnL.nil ?_) | ((with_reducible refine Bi.dec true ?_ ?_); focus exact rfl) | ((with_reducible refine Bi.dec false ?_ ?_); focus exact rfl) | ((with_reducible refine Bi.sdec true ?_ ?_); focus decide) | ((with_reducible refine Bi.sdec false ?_ ?_); focus decide))
    refine Bi.add (by omega) ?_
    rw [← hnb] at E
    refine ⟨⟨i + 1, by simp, by omega, ?_⟩, by simp only []; omega⟩
    replace E := Hs.closeN (PN.touch (X.clock + 1) user n) (rs := rs) (l := tb { X with clock := X.clock + 1 } :: l) E
    replace E := Hs.permN E (updB_perm (g := PN.touch (X.clock + 1) user) hnd hp).symm
    rw [List.take_add_one, hx, chgB_app]
    rw [hnb] at E
    exact E.bIx 1
  · have : bs.take i = bs := List.take_of_length_le (by omega)
    rw [this] at E
    exact E

/-- A file is found. -/
def findV : Option Nat → Value
  | some b => .tuple #[ptr b, i64 0]
  | none => .tuple #[.pointer none, i64 4]
theorem find_ok {t : Nat} {X : PT} {p : Int} {r1 r2 : List As} [h1 : FPt l t (oc X.cs Ty.tree_Tree) r1] [h2 : FMp l X.fm (.int .i64) X.fM r2] (E : Hs w0 F w l) :
    Ca PP Fn.tree_Tree_find #[ptr t, i64 p] w fun r w' => r = findV (getL X.fl p) ∧ Hs w0 F w' l := by
  refine S.tree_Tree_find.calls ?_
  unfold S.tree_Tree_find
  refine Eq.ef u_p_tree rfl ?_
  (repeat first | (with_reducible first | refine Stp.go ?_ | refine StpE.go E ?_ | (refine StpW.go E ?_; clear E; intro w_ E) | (refine StpA.go E ?_; clear E; intro b_ w_ hb_ E) | refine LnL.nil ?_) | ((with_reducible refine Bi.dec true ?_ ?_); focus exact rfl) | ((with_reducible refine Bi.dec false ?_ ?_); focus exact rfl) | ((with_reducible refine Bi.sdec true ?_ ?_); focus decide) | ((with_reducible refine Bi.sdec false ?_ ?_); focus decide))
  refine Lk.ok E FMp.mem u_mfiles k_i64 z_p_node rfl ?_
  rw [aget_enc (keyI .i64)]
  cases getL X.fl p with
  | none => simp only [Option.map_some, Option.map_none, Option.getD_some, Option.getD_none, Option.isSome_some, Option.isSome_none]; (repeat first | (with_reducible first | refine Stp.go ?_ | refine StpE.go E ?_ | (refine StpW.go E ?_; clear E; intro w_ E) | (refine StpA.go E ?_; clear E; intro b_ w_ hb_ E) | refine LnL.nil ?_) | ((with_reducible refine Bi.dec true ?_ ?_); focus exact rfl) | ((with_reducible refine Bi.dec false ?_ ?_); focus exact rfl) | ((with_reducible refine Bi.sdec true ?_ ?_); focus decide) | ((with_reducible refine Bi.sdec false ?_ ?_); focus decide)); exact ⟨rfl, E⟩
  | some b => simp only [Option.map_some, Option.map_none, Option.getD_some, Option.getD_none, Option.isSome_some, Option.isSome_none]; (repeat first | (with_reducible first | refine Stp.go ?_ | refine StpE.go E ?_ | (refine StpW.go E ?_; clear E; intro w_ E) | (refine StpA.go E ?_; clear E; intro b_ w_ hb_ E) | refine LnL.nil ?_) | ((with_reducible refine Bi.dec true ?_ ?_); focus exact rfl) | ((with_reducible refine Bi.dec false ?_ ?_); focus exact rfl) | ((with_reducible refine Bi.sdec true ?_ ?_); focus decide) | ((with_reducible refine Bi.sdec false ?_ ?_); focus decide)); exact ⟨rfl, E⟩
theorem find_nil {p : Int} (E : Hs w0 F w l) : Ca PP Fn.tree_Tree_find #[.pointer none, i64 p] w fun r w' => r = .tuple #[.pointer none, i64 6] ∧ Hs w0 F w' l := by
  refine S.tree_Tree_find.calls ?_
  unfold S.tree_Tree_find
  refine Eq.et u_p_tree rfl ?_
  (repeat first | (with_reducible first | refine Stp.go ?_ | refine StpE.go E ?_ | (refine StpW.go E ?_; clear E; intro w_ E) | (refine StpA.go E ?_; clear E; intro b_ w_ hb_ E) | refine LnL.nil ?_) | ((with_reducible refine Bi.dec true ?_ ?_); focus exact rfl) | ((with_reducible refine Bi.dec false ?_ ?_); focus exact rfl) | ((with_reducible refine Bi.sdec true ?_ ?_); focus decide) | ((with_reducible refine Bi.sdec false ?_ ?_); focus decide))
  exact ⟨rfl, E⟩
end Go.Proofs.YtnnhmahemklnkaaDoor
