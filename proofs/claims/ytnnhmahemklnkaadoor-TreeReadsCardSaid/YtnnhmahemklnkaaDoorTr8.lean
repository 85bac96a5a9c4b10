/-
  Trees: a new file.
-/
import Derived.Test.YtnnhmahemklnkaaDoorTr7
namespace Go.Proofs.YtnnhmahemklnkaaDoor
open Go Go.Sh
set_option maxRecDepth 100000
set_option linter.unusedVariables false
set_option linter.unusedSimpArgs false
variable {w0 w : World} {F : Nat → Prop} {l : List As}
variable {D : List Row} {X : PT} {T : Tr} {β : Int → Nat}

abbrev qd0 (q : Nat) : As := pt q (oc [i64 0, i64 0, i64 0] Ty.api_Qid)
theorem Tie.len (h : Tie D X T β) : X.fl.length = T.ns.length ∧ X.ol.length = T.hs.length := by
  refine ⟨?_, by rw [h.ol.length_eq, List.length_map]⟩
  rw [h.fl.length_eq, List.length_map, ← h.ns.length_eq, List.length_map]
theorem lim_fit {T : Tr} {N : Int} (hi : Inv T) (hN : N < 4611686018427387904) (hl : Lim N T) {X : PT} (h : Tie D X T β) : ∀ n ∈ X.ps, 0 ≤ n.f.vers ∧ n.f.vers < 4611686018427387904 := fun n hn => by
  have h1 := (hi.form n.f (h.mem.2 ⟨n, hn, rfl⟩)).2.2.2.1
  have h2 := hl.vers n.f (h.mem.2 ⟨n, hn, rfl⟩)
  omega
/-- One file is changed: in memory, the tree, what always holds. -/
theorem touch_tie (h : Tie D X T β) (hi : Inv T) (hnd : (X.ps.map PN.blk).Nodup) {u : PN} (hu : u ∈ X.ps) (user : BA) :
    Tie D { X with ps := updB X.ps u.blk (PN.touch (X.clock + 1) user), clock := X.clock + 1 } (T.change user [u.f.path]) β ∧ Inv (T.change user [u.f.path]) := by
  rw [change_one, ← h.clock]
  refine ⟨h.upd hi hnd hu (X.clock + 1) (fun _ => ⟨rfl, rfl, rfl⟩) (fun _ => rfl) (fun _ => ⟨rfl, rfl, rfl⟩) (fun _ hx => hx) (h.data u hu), ?_⟩
  have hc := hi.clock
  rw [← h.clock] at hc
  refine hi.upd (X.clock + 1) (by omega) (fun _ _ _ => ⟨rfl, rfl, rfl, rfl⟩) (fun n hn _ => hi.data n hn) fun n hn _ => ?_
  have := hi.form n hn
  exact ⟨this.1, this.2.1, this.2.2.1, by show 0 ≤ n.vers + 1; omega, by show 0 ≤ X.clock + 1; omega⟩

theorem Create_ok (h : Tie D X T β) (hi : Inv T) {N : Int} (hN : N < 4611686018427387904) (hlim : Lim N T) {dir perm mode : Int} {user name : BA} (hus : user.size ≤ 9223372036854775807) (hns : name.size ≤ 9223372036854775807) (E : Hs w0 F w (trA X :: Pool D :: l)) :
    Ca PP Fn.tree_Tree_Create #[ptr X.t, str user, i64 dir, str name, i64 perm, i64 mode] w fun r w' =>
      r = .tuple #[i64 (T.create user dir name perm mode).2.1, (T.create user dir name perm mode).2.2.1.V, i64 (T.create user dir name perm mode).2.2.2] ∧ Goes w0 F l D X (T.create user dir name perm mode).1 w' := by
  refine S.tree_Tree_Create.calls ?_
  unfold S.tree_Tree_Create
  have hnd := Hs.nodupT E
  (repeat first | (with_reducible first | refine Stp.go ?_ | refine StpE.go E ?_ | (refine StpW.go E ?_; clear E; intro w_ E) | (refine StpA.go E ?_; clear E; intro b_ w_ hb_ E) | (apply hJ7; intro u_) | (apply hJ22; intro u_) | (apply hJ43; intro u_) | (apply hJ73; intro u_) | refine LnL.nil ?_) | ((with_reducible refine Bi.dec true ?_ ?_); focus exact rfl) | ((with_reducible refine Bi.dec false ?_ ?_); focus exact rfl) | ((with_reducible refine Bi.sdec true ?_ ?_); focus decide) | ((with_reducible refine Bi.sdec false ?_ ?_); focus decide))
  (revert b_; intro q hbq E)
  refine Eq.ef u_p_tree rfl ?_
  (repeat first | (with_reducible first | refine Stp.go ?_ | refine StpE.go E ?_ | (refine StpW.go E ?_; clear E; intro w_ E) | (refine StpA.go E ?_; clear E; intro b_ w_ hb_ E) | (apply hJ7; intro u_) | (apply hJ22; intro u_) | (apply hJ43; intro u_) | (apply hJ73; intro u_) | refine LnL.nil ?_) | ((with_reducible refine Bi.dec true ?_ ?_); focus exact rfl) | ((with_reducible refine Bi.dec false ?_ ?_); focus exact rfl) | ((with_reducible refine Bi.sdec true ?_ ?_); focus decide) | ((with_reducible refine Bi.sdec false ?_ ?_); focus decide))
  (replace E := (((E.bIx 0).bIx 2).bIx 2))
  (intro J7 hJ7)
  have fin7 : ∀ b w_, b = decide (clrI mode 83 ≠ 0 ∨ rightM perm = false ∨ (andI perm 2147483648 ≠ 0 ∧ mode ≠ 0)) → Hs w0 F w_ (trA X :: Pool D :: qd0 q :: l) → J7 [.bool b] w_ := by
    intro b w_ hb E
    (repeat first | (with_reducible first | refine Stp.go ?_ | refine StpE.go E ?_ | (refine StpW.go E ?_; clear E; intro w_ E) | (refine StpA.go E ?_; clear E; intro b_ w_ hb_ E) | (apply hJ7; intro u_) | (apply hJ22; intro u_) | (apply hJ43; intro u_) | (apply hJ73; intro u_) | refine LnL.nil ?_) | ((with_reducible refine Bi.dec true ?_ ?_); focus exact rfl) | ((with_reducible refine Bi.dec false ?_ ?_); focus exact rfl) | ((with_reducible refine Bi.sdec true ?_ ?_); focus decide) | ((with_reducible refine Bi.sdec false ?_ ?_); focus decide))
    by_cases c7 : clrI mode 83 ≠ 0 ∨ rightM perm = false ∨ (andI perm 2147483648 ≠ 0 ∧ mode ≠ 0)
    · rw [decide_eq_true c7] at hb
      subst hb
      (repeat first | (with_reducible first | refine Stp.go ?_ | refine StpE.go E ?_ | (refine StpW.go E ?_; clear E; intro w_ E) | (refine StpA.go E ?_; clear E; intro b_ w_ hb_ E) | (apply hJ7; intro u_) | (apply hJ22; intro u_) | (apply hJ43; intro u_) | (apply hJ73; intro u_) | refine LnL.nil ?_) | ((with_reducible refine Bi.dec true ?_ ?_); focus exact rfl) | ((with_reducible refine Bi.dec false ?_ ?_); focus exact rfl) | ((with_reducible refine Bi.sdec true ?_ ?_); focus decide) | ((with_reducible refine Bi.sdec false ?_ ?_); focus decide))
      have e : T.create user dir name perm mode = (T, 0, q0, 20) := by unfold Tr.create; rw [if_pos c7]
      rw [e]
      exact ⟨rfl, .same h (E.bIx 2).tl⟩
    rw [decide_eq_false c7] at hb
    subst hb
    (repeat first | (with_reducible first | refine Stp.go ?_ | refine StpE.go E ?_ | (refine StpW.go E ?_; clear E; intro w_ E) | (refine StpA.go E ?_; clear E; intro b_ w_ hb_ E) | (apply hJ7; intro u_) | (apply hJ22; intro u_) | (apply hJ43; intro u_) | (apply hJ73; intro u_) | refine LnL.nil ?_) | ((with_reducible refine Bi.dec true ?_ ?_); focus exact rfl) | ((with_reducible refine Bi.dec false ?_ ?_); focus exact rfl) | ((with_reducible refine Bi.sdec true ?_ ?_); focus decide) | ((with_reducible refine Bi.sdec false ?_ ?_); focus decide))
    refine (folder_ok h hi E).mono ?_
    clear E
    rintro r w_ ⟨E, ⟨hg, rfl⟩ | ⟨u, rs, hpm, hu, hpath, hg, ⟨hdir, rfl⟩ | ⟨hdir, rfl⟩⟩⟩
    · (repeat first | (with_reducible first | refine Stp.go ?_ | refine StpE.go E ?_ | (refine StpW.go E ?_; clear E; intro w_ E) | (refine StpA.go E ?_; clear E; intro b_ w_ hb_ E) | (apply hJ7; intro u_) | (apply hJ22; intro u_) | (apply hJ43; intro u_) | (apply hJ73; intro u_) | refine LnL.nil ?_) | ((with_reducible refine Bi.dec true ?_ ?_); focus exact rfl) | ((with_reducible refine Bi.dec false ?_ ?_); focus exact rfl) | ((with_reducible refine Bi.sdec true ?_ ?_); focus decide) | ((with_reducible refine Bi.sdec false ?_ ?_); focus decide))
      have e : T.create user dir name perm mode = (T, 0, q0, 4) := by unfold Tr.create; rw [if_neg c7]; simp only [hg]
      rw [e]
      exact ⟨rfl, .same h (E.bIx 2).tl⟩
    · (repeat first | (with_reducible first | refine Stp.go ?_ | refine StpE.go E ?_ | (refine StpW.go E ?_; clear E; intro w_ E) | (refine StpA.go E ?_; clear E; intro b_ w_ hb_ E) | (apply hJ7; intro u_) | (apply hJ22; intro u_) | (apply hJ43; intro u_) | (apply hJ73; intro u_) | refine LnL.nil ?_) | ((with_reducible refine Bi.dec true ?_ ?_); focus exact rfl) | ((with_reducible refine Bi.dec false ?_ ?_); focus exact rfl) | ((with_reducible refine Bi.sdec true ?_ ?_); focus decide) | ((with_reducible refine Bi.sdec false ?_ ?_); focus decide))
      have e : T.create user dir name perm mode = (T, 0, q0, 18) := by unfold Tr.create; rw [if_neg c7]; simp only [hg, if_pos hdir]
      rw [e]
      exact ⟨rfl, .same h (E.bIx 2).tl⟩
    have hdn : ¬ u.f.dir = false := by rw [hdir]; simp
    subst hpath
    (repeat first | (with_reducible first | refine Stp.go ?_ | refine StpE.go E ?_ | (refine StpW.go E ?_; clear E; intro w_ E) | (refine StpA.go E ?_; clear E; intro b_ w_ hb_ E) | (apply hJ7; intro u_) | (apply hJ22; intro u_) | (apply hJ43; intro u_) | (apply hJ73; intro u_) | refine LnL.nil ?_) | ((with_reducible refine Bi.dec true ?_ ?_); focus exact rfl) | ((with_reducible refine Bi.dec false ?_ ?_); focus exact rfl) | ((with_reducible refine Bi.sdec true ?_ ?_); focus decide) | ((with_reducible refine Bi.sdec false ?_ ?_); focus decide))
    (intro J22 hJ22)
    have fin22 : ∀ b w_, b = decide (goodName name = false ∨ goodName user = false) → Hs w0 F w_ (trA X :: Pool D :: qd0 q :: l) → J22 [.bool b] w_ := by
      intro b w_ hb E
      (repeat first | (with_reducible first | refine Stp.go ?_ | refine StpE.go E ?_ | (refine StpW.go E ?_; clear E; intro w_ E) | (refine StpA.go E ?_; clear E; intro b_ w_ hb_ E) | (apply hJ7; intro u_) | (apply hJ22; intro u_) | (apply hJ43; intro u_) | (apply hJ73; intro u_) | refine LnL.nil ?_) | ((with_reducible refine Bi.dec true ?_ ?_); focus exact rfl) | ((with_reducible refine Bi.dec false ?_ ?_); focus exact rfl) | ((with_reducible refine Bi.sdec true ?_ ?_); focus decide) | ((with_reducible refine Bi.sdec false ?_ ?_); focus decide))
      by_cases c22 : goodName name = false ∨ goodName user = false
      · rw [decide_eq_true c22] at hb
        subst hb
        (repeat first | (with_reducible first | refine Stp.go ?_ | refine StpE.go E ?_ | (refine StpW.go E ?_; clear E; intro w_ E) | (refine StpA.go E ?_; clear E; intro b_ w_ hb_ E) | (apply hJ7; intro u_) | (apply hJ22; intro u_) | (apply hJ43; intro u_) | (apply hJ73; intro u_) | refine LnL.nil ?_) | ((with_reducible refine Bi.dec true ?_ ?_); focus exact rfl) | ((with_reducible refine Bi.dec false ?_ ?_); focus exact rfl) | ((with_reducible refine Bi.sdec true ?_ ?_); focus decide) | ((with_reducible refine Bi.sdec false ?_ ?_); focus decide))
        have e : T.create user u.f.path name perm mode = (T, 0, q0, 8) := by unfold Tr.create; rw [if_neg c7]; simp only [hg, if_neg hdn, if_pos c22]
        rw [e]
        exact ⟨rfl, .same h (E.bIx 2).tl⟩
      rw [decide_eq_false c22] at hb
      subst hb
      (repeat first | (with_reducible first | refine Stp.go ?_ | refine StpE.go E ?_ | (refine StpW.go E ?_; clear E; intro w_ E) | (refine StpA.go E ?_; clear E; intro b_ w_ hb_ E) | (apply hJ7; intro u_) | (apply hJ22; intro u_) | (apply hJ43; intro u_) | (apply hJ73; intro u_) | refine LnL.nil ?_) | ((with_reducible refine Bi.dec true ?_ ?_); focus exact rfl) | ((with_reducible refine Bi.dec false ?_ ?_); focus exact rfl) | ((with_reducible refine Bi.sdec true ?_ ?_); focus decide) | ((with_reducible refine Bi.sdec false ?_ ?_); focus decide))
      clear hJ22
      replace E := Hs.openTN hpm E
      refine (may_ok (m := u.mn) (D := D) (by simp) h.gs E).mono ?_
      clear E
      rintro r w_ ⟨rfl, E⟩
      have hmay : permF u.mn.mode (decide (user = u.mn.owner)) (memberG T.gs user u.mn.group) 2 = T.may user u.f 2 := rfl
      rw [hmay]
      cases hm : T.may user u.f 2 with
      | false =>
        (repeat first | (with_reducible first | refine Stp.go ?_ | refine StpE.go E ?_ | (refine StpW.go E ?_; clear E; intro w_ E) | (refine StpA.go E ?_; clear E; intro b_ w_ hb_ E) | (apply hJ7; intro u_) | (apply hJ22; intro u_) | (apply hJ43; intro u_) | (apply hJ73; intro u_) | refine LnL.nil ?_) | ((with_reducible refine Bi.dec true ?_ ?_); focus exact rfl) | ((with_reducible refine Bi.dec false ?_ ?_); focus exact rfl) | ((with_reducible refine Bi.sdec true ?_ ?_); focus decide) | ((with_reducible refine Bi.sdec false ?_ ?_); focus decide))
        have e : T.create user u.f.path name perm mode = (T, 0, q0, 17) := by unfold Tr.create; rw [if_neg c7]; simp only [hg, if_neg hdn, if_neg c22, hm, if_true]
        rw [e]
        exact ⟨rfl, .same h ((Hs.closeTN X u hpm E).bIx 2).tl⟩
      | true =>
        have hmn : ¬ T.may user u.f 2 = false := by rw [hm]; simp
        (repeat first | (with_reducible first | refine Stp.go ?_ | refine StpE.go E ?_ | (refine StpW.go E ?_; clear E; intro w_ E) | (refine StpA.go E ?_; clear E; intro b_ w_ hb_ E) | (apply hJ7; intro u_) | (apply hJ22; intro u_) | (apply hJ43; intro u_) | (apply hJ73; intro u_) | refine LnL.nil ?_) | ((with_reducible refine Bi.dec true ?_ ?_); focus exact rfl) | ((with_reducible refine Bi.dec false ?_ ?_); focus exact rfl) | ((with_reducible refine Bi.sdec true ?_ ?_); focus decide) | ((with_reducible refine Bi.sdec false ?_ ?_); focus decide))
        have hkb : u.mn.kids = some u.kb := if_pos hdir
        rw [hkb]
        replace E := Hs.openK hdir (E.bIx 5)
        refine Lk.one E FMp.mem u_mkids k_str z_p_node rfl ?_
        rw [aget_enc keyS]
        rcases h.kid hi hu name with ⟨k1, k2⟩ | ⟨k, hk, k1, k2⟩
        rotate_left
        · rw [k2]
          simp only [Option.map_some, Option.getD_some]
          refine Eq.nt u_p_node rfl ?_
          (repeat first | (with_reducible first | refine Stp.go ?_ | refine StpE.go E ?_ | (refine StpW.go E ?_; clear E; intro w_ E) | (refine StpA.go E ?_; clear E; intro b_ w_ hb_ E) | (apply hJ7; intro u_) | (apply hJ22; intro u_) | (apply hJ43; intro u_) | (apply hJ73; intro u_) | refine LnL.nil ?_) | ((with_reducible refine Bi.dec true ?_ ?_); focus exact rfl) | ((with_reducible refine Bi.dec false ?_ ?_); focus exact rfl) | ((with_reducible refine Bi.sdec true ?_ ?_); focus decide) | ((with_reducible refine Bi.sdec false ?_ ?_); focus decide))
          replace E := Hs.closeK hdir E
          (replace E := ((((((E.bIx 0).bIx 5).bIx 5).bIx 5).bIx 5).bIx 5))
          have e : T.create user u.f.path name perm mode = (T, 0, q0, 5) := by unfold Tr.create; rw [if_neg c7]; simp only [hg, if_neg hdn, if_neg c22, if_neg hmn, k1, Option.isSome_some, if_true]
          rw [e]
          exact ⟨rfl, .same h ((Hs.closeTN X u hpm E).bIx 2).tl⟩
        rw [k2]
        simp only [Option.map_none, Option.getD_none]
        refine Eq.nf u_p_node rfl ?_
        (repeat first | (with_reducible first | refine Stp.go ?_ | refine StpE.go E ?_ | (refine StpW.go E ?_; clear E; intro w_ E) | (refine StpA.go E ?_; clear E; intro b_ w_ hb_ E) | (apply hJ7; intro u_) | (apply hJ22; intro u_) | (apply hJ43; intro u_) | (apply hJ73; intro u_) | refine LnL.nil ?_) | ((with_reducible refine Bi.dec true ?_ ?_); focus exact rfl) | ((with_reducible refine Bi.dec false ?_ ?_); focus exact rfl) | ((with_reducible refine Bi.sdec true ?_ ?_); focus decide) | ((with_reducible refine Bi.sdec false ?_ ?_); focus decide))
        replace E := Hs.closeK hdir E
        (replace E := ((((((E.bIx 0).bIx 5).bIx 5).bIx 5).bIx 5).bIx 5))
        replace E := Hs.closeTN X u hpm E
        have kn : ¬ (T.kid u.f.path name).isSome = true := by rw [k1]; simp
        (intro J43 hJ43)
        have fin43 : ∀ b w_, b = decide (1024 ≤ T.ns.length ∨ ¬ T.hs.length < 64) → Hs w0 F w_ (trA X :: Pool D :: qd0 q :: l) → J43 [.bool b] w_ := by
          intro b w_ hb E
          (repeat first | (with_reducible first | refine Stp.go ?_ | refine StpE.go E ?_ | (refine StpW.go E ?_; clear E; intro w_ E) | (refine StpA.go E ?_; clear E; intro b_ w_ hb_ E) | (apply hJ7; intro u_) | (apply hJ22; intro u_) | (apply hJ43; intro u_) | (apply hJ73; intro u_) | refine LnL.nil ?_) | ((with_reducible refine Bi.dec true ?_ ?_); focus exact rfl) | ((with_reducible refine Bi.dec false ?_ ?_); focus exact rfl) | ((with_reducible refine Bi.sdec true ?_ ?_); focus decide) | ((with_reducible refine Bi.sdec false ?_ ?_); focus decide))
          by_cases c43 : 1024 ≤ T.ns.length ∨ ¬ T.hs.length < 64
          · rw [decide_eq_true c43] at hb
            subst hb
            (repeat first | (with_reducible first | refine Stp.go ?_ | refine StpE.go E ?_ | (refine StpW.go E ?_; clear E; intro w_ E) | (refine StpA.go E ?_; clear E; intro b_ w_ hb_ E) | (apply hJ7; intro u_) | (apply hJ22; intro u_) | (apply hJ43; intro u_) | (apply hJ73; intro u_) | refine LnL.nil ?_) | ((with_reducible refine Bi.dec true ?_ ?_); focus exact rfl) | ((with_reducible refine Bi.dec false ?_ ?_); focus exact rfl) | ((with_reducible refine Bi.sdec true ?_ ?_); focus decide) | ((with_reducible refine Bi.sdec false ?_ ?_); focus decide))
            have e : T.create user u.f.path name perm mode = (T, 0, q0, 3) := by unfold Tr.create; rw [if_neg c7]; simp only [hg, if_neg hdn, if_neg c22, if_neg hmn, if_neg kn, if_pos c43]
            rw [e]
            exact ⟨rfl, .same h (E.bIx 2).tl⟩
          rw [decide_eq_false c43] at hb
          subst hb
          clear hJ43
          (repeat first | (with_reducible first | refine Stp.go ?_ | refine StpE.go E ?_ | (refine StpW.go E ?_; clear E; intro w_ E) | (refine StpA.go E ?_; clear E; intro b_ w_ hb_ E) | (apply hJ7; intro u_) | (apply hJ22; intro u_) | (apply hJ43; intro u_) | (apply hJ73; intro u_) | refine LnL.nil ?_) | ((with_reducible refine Bi.dec true ?_ ?_); focus exact rfl) | ((with_reducible refine Bi.dec false ?_ ?_); focus exact rfl) | ((with_reducible refine Bi.sdec true ?_ ?_); focus decide) | ((with_reducible refine Bi.sdec false ?_ ?_); focus decide))
          refine BdS.one E u_sl_p_node e_p_node rfl ?_
          clear E
          intro sv w_ E
          replace E := Hs.openT (E.bIx 1)
          (replace E := ((E.bIx 4).bIx 1))
          have hv0 := h.clock
          have hcl := hlim.clock
          have hc0 := hi.clock
          refine (change_ok (X := X) (bs := [u.blk]) (RdS.by1 sv E.tl.tl) (fun b hb => by rw [List.mem_singleton.1 hb]; exact List.mem_map.2 ⟨u, hu, rfl⟩) (by omega) (lim_fit hi hN hlim h) (by simp) E).mono ?_
          clear E
          rintro r w_ E
          obtain ⟨h1, i1⟩ := touch_tie h hi hnd hu user
          (replace E := ((((((E.bIx 5).bIx 2).bIx 5).bIx 5).bIx 5).bIx 5))
          replace E := ((Hs.closeT { X with ps := updB X.ps u.blk (PN.touch (X.clock + 1) user), clock := X.clock + 1 } E).bIx 1).tl
          have nd1 := Hs.nodupT E
          have hpm1 : (updB X.ps u.blk (PN.touch (X.clock + 1) user)).Perm (PN.touch (X.clock + 1) user u :: rs) := updB_perm hnd hpm
          have hu1 : PN.touch (X.clock + 1) user u ∈ updB X.ps u.blk (PN.touch (X.clock + 1) user) := hpm1.mem_iff.2 List.mem_cons_self
          replace E := Hs.openTN (X := { X with ps := updB X.ps u.blk (PN.touch (X.clock + 1) user), clock := X.clock + 1 }) hpm1 E
          have E2 : Hs w0 F w_ (tb { X with ps := updB X.ps u.blk (PN.touch (X.clock + 1) user), clock := X.clock + 1 } :: mp X.fm (.int .i64) X.fM :: mp X.gm .str X.gM :: mp X.om (.int .i64) X.oM :: nd u.blk (PN.touch (X.clock + 1) user u).mn :: KM (PN.touch (X.clock + 1) user u) :: NT rs :: DT X.ds :: Pool D :: qd0 q :: l) := E
          clear E
          have E := E2
          clear E2
          (repeat first | (with_reducible first | refine Stp.go ?_ | refine StpE.go E ?_ | (refine StpW.go E ?_; clear E; intro w_ E) | (refine StpA.go E ?_; clear E; intro b_ w_ hb_ E) | (apply hJ7; intro u_) | (apply hJ22; intro u_) | (apply hJ43; intro u_) | (apply hJ73; intro u_) | refine LnL.nil ?_) | ((with_reducible refine Bi.dec true ?_ ?_); focus exact rfl) | ((with_reducible refine Bi.dec false ?_ ?_); focus exact rfl) | ((with_reducible refine Bi.sdec true ?_ ?_); focus decide) | ((with_reducible refine Bi.sdec false ?_ ?_); focus decide))
          (revert b_; intro nb hbnb E)
          (intro J73 hJ73)
          have fin73 : ∀ (own : Int) (kb : Nat) w_, andI perm (orI (xorI own) (andI u.f.mode own)) = Tr.modeN perm u.f.mode →
              Hs w0 F w_ (nd nb ⟨0, 0, X.next, 0, X.clock + 1, 0, name, user, u.f.group, user, .slice none 0 0, if isD perm then some kb else none, some u.blk, false⟩ :: star (if isD perm then [mp kb .str (encM Value.string ptr [])] else []) :: tb { X with ps := updB X.ps u.blk (PN.touch (X.clock + 1) user), clock := X.clock + 1 } :: mp X.fm (.int .i64) X.fM :: mp X.gm .str X.gM :: mp X.om (.int .i64) X.oM ::
                nd u.blk (PN.touch (X.clock + 1) user u).mn :: KM (PN.touch (X.clock + 1) user u) :: NT rs :: DT X.ds :: Pool D :: qd0 q :: l) → J73 [i64 own] w_ := by
            intro own kb w_ hmode E
            (repeat first | (with_reducible first | refine Stp.go ?_ | refine StpE.go E ?_ | (refine StpW.go E ?_; clear E; intro w_ E) | (refine StpA.go E ?_; clear E; intro b_ w_ hb_ E) | (apply hJ7; intro u_) | (apply hJ22; intro u_) | (apply hJ43; intro u_) | (apply hJ73; intro u_) | refine LnL.nil ?_) | ((with_reducible refine Bi.dec true ?_ ?_); focus exact rfl) | ((with_reducible refine Bi.dec false ?_ ?_); focus exact rfl) | ((with_reducible refine Bi.sdec true ?_ ?_); focus decide) | ((with_reducible refine Bi.sdec false ?_ ?_); focus decide))
            refine Un.xor' ?_
            (repeat first | (with_reducible first | refine Stp.go ?_ | refine StpE.go E ?_ | (refine StpW.go E ?_; clear E; intro w_ E) | (refine StpA.go E ?_; clear E; intro b_ w_ hb_ E) | (apply hJ7; intro u_) | (apply hJ22; intro u_) | (apply hJ43; intro u_) | (apply hJ73; intro u_) | refine LnL.nil ?_) | ((with_reducible refine Bi.dec true ?_ ?_); focus exact rfl) | ((with_reducible refine Bi.dec false ?_ ?_); focus exact rfl) | ((with_reducible refine Bi.sdec true ?_ ?_); focus decide) | ((with_reducible refine Bi.sdec false ?_ ?_); focus decide))
            have hm2 : (PN.touch (X.clock + 1) user u).mn.mode = u.f.mode := rfl
            rw [hm2, hmode]
            clear hJ73
            refine (is_ok E).mono ?_
            clear E
            rintro r w_ E
            obtain ⟨qn, hqn⟩ : ∃ qn : PN, qn = ⟨⟨X.next, 0, Tr.modeN perm u.f.mode, X.clock + 1, u.f.path, name, user, u.f.group, user, emp⟩, nb, 0, .slice none 0 0, kb, [], some u.blk⟩ := ⟨_, rfl⟩
            rw [← modeN_isD perm u.f.mode] at E
            have E2 : Hs w0 F w_ (nd nb qn.mn :: KM qn :: tb { X with ps := updB X.ps u.blk (PN.touch (X.clock + 1) user), clock := X.clock + 1 } :: mp X.fm (.int .i64) (encM i64 ptr X.fl) :: mp X.gm .str X.gM :: mp X.om (.int .i64) X.oM ::
                nd u.blk (PN.touch (X.clock + 1) user u).mn :: KM (PN.touch (X.clock + 1) user u) :: NT rs :: DT X.ds :: Pool D :: qd0 q :: l) := by rw [hqn]; exact E
            clear E
            have E := E2
            clear E2
            (repeat first | (with_reducible first | refine Stp.go ?_ | refine StpE.go E ?_ | (refine StpW.go E ?_; clear E; intro w_ E) | (refine StpA.go E ?_; clear E; intro b_ w_ hb_ E) | (apply hJ7; intro u_) | (apply hJ22; intro u_) | (apply hJ43; intro u_) | (apply hJ73; intro u_) | refine LnL.nil ?_) | ((with_reducible refine Bi.dec true ?_ ?_); focus exact rfl) | ((with_reducible refine Bi.dec false ?_ ?_); focus exact rfl) | ((with_reducible refine Bi.sdec true ?_ ?_); focus decide) | ((with_reducible refine Bi.sdec false ?_ ?_); focus decide))
            refine Mu.by E u_mfiles k_i64 rfl ?_
            clear E
            intro w_ E
            have he : aput (encM i64 ptr X.fl) (i64 X.next) (ptr nb) = encM i64 ptr (putL X.fl X.next nb) := aput_enc (keyI .i64) _ _ _
            rw [he] at E
            (repeat first | (with_reducible first | refine Stp.go ?_ | refine StpE.go E ?_ | (refine StpW.go E ?_; clear E; intro w_ E) | (refine StpA.go E ?_; clear E; intro b_ w_ hb_ E) | (apply hJ7; intro u_) | (apply hJ22; intro u_) | (apply hJ43; intro u_) | (apply hJ73; intro u_) | refine LnL.nil ?_) | ((with_reducible refine Bi.dec true ?_ ?_); focus exact rfl) | ((with_reducible refine Bi.dec false ?_ ?_); focus exact rfl) | ((with_reducible refine Bi.sdec true ?_ ?_); focus decide) | ((with_reducible refine Bi.sdec false ?_ ?_); focus decide))
            have hkb1 : (PN.touch (X.clock + 1) user u).mn.kids = some u.kb := if_pos hdir
            rw [hkb1]
            replace E := Hs.openK (n := PN.touch (X.clock + 1) user u) hdir (E.bIx 7)
            have E2 : Hs w0 F w_ (mp u.kb .str (encM Value.string ptr u.kl) :: nd nb qn.mn :: KM qn :: tb { X with ps := updB X.ps u.blk (PN.touch (X.clock + 1) user), clock := X.clock + 1 } :: mp X.fm (.int .i64) (encM i64 ptr (putL X.fl X.next nb)) :: mp X.gm .str X.gM :: mp X.om (.int .i64) X.oM ::
                nd u.blk (PN.touch (X.clock + 1) user u).mn :: NT rs :: DT X.ds :: Pool D :: qd0 q :: l) := E
            clear E
            refine Mu.by E2 u_mkids k_str rfl ?_
            clear E2
            intro w_ E
            have he2 : aput (encM Value.string ptr u.kl) (str name) (ptr nb) = encM Value.string ptr (putL u.kl name nb) := aput_enc keyS _ _ _
            rw [he2] at E
            obtain ⟨u2, hu2⟩ : ∃ u2 : PN, u2 = { PN.touch (X.clock + 1) user u with kl := putL u.kl name nb } := ⟨_, rfl⟩
            have E2 : Hs w0 F w_ (mp u2.kb .str u2.kM :: nd nb qn.mn :: KM qn :: tb { X with ps := updB X.ps u.blk (PN.touch (X.clock + 1) user), clock := X.clock + 1 } :: mp X.fm (.int .i64) (encM i64 ptr (putL X.fl X.next nb)) :: mp X.gm .str X.gM :: mp X.om (.int .i64) X.oM ::
                nd u2.blk u2.mn :: NT rs :: DT X.ds :: Pool D :: qd0 q :: l) := by rw [hu2]; exact E
            clear E
            have E := Hs.closeK (n := u2) (by rw [hu2]; exact hdir) E2
            clear E2
            have hnx := h.next
            have hln := hlim.next
            have hn0 : 0 ≤ T.next := by obtain ⟨r0, hr0, _⟩ := hi.root; have := hi.bound r0 hr0; omega
            (repeat first | (with_reducible first | refine Stp.go ?_ | refine StpE.go E ?_ | (refine StpW.go E ?_; clear E; intro w_ E) | (refine StpA.go E ?_; clear E; intro b_ w_ hb_ E) | (apply hJ7; intro u_) | (apply hJ22; intro u_) | (apply hJ43; intro u_) | (apply hJ73; intro u_) | refine LnL.nil ?_) | ((with_reducible refine Bi.dec true ?_ ?_); focus exact rfl) | ((with_reducible refine Bi.dec false ?_ ?_); focus exact rfl) | ((with_reducible refine Bi.sdec true ?_ ?_); focus decide) | ((with_reducible refine Bi.sdec false ?_ ?_); focus decide))
            refine Bi.add (by simp only []; omega) ?_
            (repeat first | (with_reducible first | refine Stp.go ?_ | refine StpE.go E ?_ | (refine StpW.go E ?_; clear E; intro w_ E) | (refine StpA.go E ?_; clear E; intro b_ w_ hb_ E) | (apply hJ7; intro u_) | (apply hJ22; intro u_) | (apply hJ43; intro u_) | (apply hJ73; intro u_) | refine LnL.nil ?_) | ((with_reducible refine Bi.dec true ?_ ?_); focus exact rfl) | ((with_reducible refine Bi.dec false ?_ ?_); focus exact rfl) | ((with_reducible refine Bi.sdec true ?_ ?_); focus decide) | ((with_reducible refine Bi.sdec false ?_ ?_); focus decide))
            (replace E := (((E.bIx 1).bIx 6).bIx 4))
            have hlen := h.len
            have hfew := hi.few
            refine (handle_ok (X := { X with ps := updB X.ps u.blk (PN.touch (X.clock + 1) user), clock := X.clock + 1, next := X.next + 1 }) (m := qn.mn) (by show X.ol.length < 1000; omega) E).mono ?_
            clear E
            rintro r w_ ⟨hh, hfree, rfl, E⟩
            (repeat first | (with_reducible first | refine Stp.go ?_ | refine StpE.go E ?_ | (refine StpW.go E ?_; clear E; intro w_ E) | (refine StpA.go E ?_; clear E; intro b_ w_ hb_ E) | (apply hJ7; intro u_) | (apply hJ22; intro u_) | (apply hJ43; intro u_) | (apply hJ73; intro u_) | refine LnL.nil ?_) | ((with_reducible refine Bi.dec true ?_ ?_); focus exact rfl) | ((with_reducible refine Bi.dec false ?_ ?_); focus exact rfl) | ((with_reducible refine Bi.sdec true ?_ ?_); focus decide) | ((with_reducible refine Bi.sdec false ?_ ?_); focus decide))
            (replace E := ((((((((((((E.bIx 11).bIx 11).bIx 11).bIx 11).bIx 7).bIx 11).bIx 9).bIx 9).bIx 9).bIx 11).bIx 11).bIx 11))
            obtain ⟨X3, hX3⟩ : ∃ X3 : PT, X3 = { X with ps := qn :: updB (updB X.ps u.blk (PN.touch (X.clock + 1) user)) u.blk (fun m => { m with kl := putL m.kl name nb }), clock := X.clock + 1, next := X.next + 1, fl := putL X.fl X.next nb, ol := putL X.ol hh ⟨nb, mode, user⟩ } := ⟨_, rfl⟩
            have hqf : qn.f = ⟨T.next, 0, Tr.modeN perm u.f.mode, T.clock + 1, u.f.path, name, user, u.f.group, user, emp⟩ := by rw [hqn, ← h.next, ← h.clock]
            have k0 := h1.kid i1 hu1 name
            have hkn : (T.change user [u.f.path]).kid u.f.path name = none := by
              rcases k0 with ⟨k3, _⟩ | ⟨k, _, _, k4⟩
              · exact k3
              · have : getL u.kl name = some k.blk := k4
                rw [k2] at this; cases this
            have i2 := i1.newN (n := qn.f) (by rw [hqf]; rfl) ⟨_, h1.mem.2 ⟨_, hu1, rfl⟩, by rw [hqf]; rfl, hdir⟩ (by
                rw [hqf]
                intro m hm h0 h3 h4
                have := (kid_some i1).2 ⟨hm, h0, h3, h4⟩
                rw [hkn] at this; cases this) (by
                rw [hqf]
                cases hgn : goodName name with
                | true => rfl
                | false => exact absurd (.inl hgn) c22) (by rw [hqf]) (by
                rw [hqf]
                have hf := hi.form u.f (h.mem.2 ⟨u, hu, rfl⟩)
                have hr : rightM perm = true := by
                  cases hrp : rightM perm with
                  | true => rfl
                  | false => exact absurd (.inr (.inl hrp)) c7
                refine ⟨?_, hf.2.1, modeN_right _ hr, Int.le_refl _, by simp only []; omega⟩
                cases hgn : goodName user with
                | true => rfl
                | false => exact absurd (.inr hgn) c22) (by
                have : (T.change user [u.f.path]).ns.length = T.ns.length := by rw [change_one]; unfold updN; simp
                omega)
            have h2 := h1.newN (q := qn) i1 nd1 hu1 (by rw [hqf]; rfl) (by rw [hqf]; rfl) (by rw [hqf]; exact getL_none.1 k2) (by rw [hqf]) (by rw [hqn]) (by rw [hqn]) (by rw [hqn]; rfl)
            have hqb : qn.blk = nb := by rw [hqn]
            have hqname : qn.f.name = name := by rw [hqn]
            rw [hqb, hqname] at h2
            obtain ⟨h4, h5⟩ := h2.hold i2 (k := hh) hfree (n := qn) List.mem_cons_self (mode := mode) (user := user)
            rw [hqb] at h5
            have e : T.create user u.f.path name perm mode = (({ T.change user [u.f.path] with ns := (T.change user [u.f.path]).ns ++ [qn.f], next := (T.change user [u.f.path]).next + 1 } : Tr).hold ⟨qn.f.path, mode, user⟩ |>.1, ({ T.change user [u.f.path] with ns := (T.change user [u.f.path]).ns ++ [qn.f], next := (T.change user [u.f.path]).next + 1 } : Tr).hold ⟨qn.f.path, mode, user⟩ |>.2, qn.f.qid, 0) := by
              rw [hqf]
              unfold Tr.create
              rw [if_neg c7]
              simp only [hg, if_neg hdn, if_neg c22, if_neg hmn, if_neg kn, if_neg c43]
              rfl
            rw [e]
            refine ⟨?_, D, X3, _, fun _ hx => hx, by rw [hX3], by rw [hX3]; exact h5, ?_⟩
            · rw [← h4, hqn]; rfl
            · have hpm3 : X3.ps.Perm (qn :: u2 :: rs) := by
                rw [hX3, hu2]
                exact List.Perm.cons _ (updB_perm (g := fun m : PN => { m with kl := putL m.kl name nb }) nd1 hpm1)
              have E2 : Hs w0 F w_ (tb X3 :: mp X3.fm (.int .i64) X3.fM :: mp X3.gm .str X3.gM :: mp X3.om (.int .i64) X3.oM :: nd qn.blk qn.mn :: KM qn :: nd u2.blk u2.mn :: KM u2 :: NT rs :: DT X3.ds :: Pool D :: pt q (oc qn.f.qid.cs Ty.api_Qid) :: l) := by
                rw [hX3, hqb]
                rw [hqn] at E ⊢
                exact E
              exact ((Hs.closeTN2 X3 qn u2 hpm3 E2).bIx 2).tl
          clear hJ73
          (repeat first | (with_reducible first | refine Stp.go ?_ | refine StpE.go E ?_ | (refine StpW.go E ?_; clear E; intro w_ E) | (refine StpA.go E ?_; clear E; intro b_ w_ hb_ E) | (apply hJ7; intro u_) | (apply hJ22; intro u_) | (apply hJ43; intro u_) | (apply hJ73; intro u_) | refine LnL.nil ?_) | ((with_reducible refine Bi.dec true ?_ ?_); focus exact rfl) | ((with_reducible refine Bi.dec false ?_ ?_); focus exact rfl) | ((with_reducible refine Bi.sdec true ?_ ?_); focus decide) | ((with_reducible refine Bi.sdec false ?_ ?_); focus decide))
          refine Bi.neq ?_ ?_ <;> intro h0 <;> (repeat first | (with_reducible first | refine Stp.go ?_ | refine StpE.go E ?_ | (refine StpW.go E ?_; clear E; intro w_ E) | (refine StpA.go E ?_; clear E; intro b_ w_ hb_ E) | (apply hJ7; intro u_) | (apply hJ22; intro u_) | (apply hJ43; intro u_) | (apply hJ73; intro u_) | refine LnL.nil ?_) | ((with_reducible refine Bi.dec true ?_ ?_); focus exact rfl) | ((with_reducible refine Bi.dec false ?_ ?_); focus exact rfl) | ((with_reducible refine Bi.sdec true ?_ ?_); focus decide) | ((with_reducible refine Bi.sdec false ?_ ?_); focus decide))
          · refine MkM.pt (kt := .str) E ?_
            clear E
            intro kb w_ hkb E
            (repeat first | (with_reducible first | refine Stp.go ?_ | refine StpE.go E ?_ | (refine StpW.go E ?_; clear E; intro w_ E) | (refine StpA.go E ?_; clear E; intro b_ w_ hb_ E) | (apply hJ7; intro u_) | (apply hJ22; intro u_) | (apply hJ43; intro u_) | (apply hJ73; intro u_) | refine LnL.nil ?_) | ((with_reducible refine Bi.dec true ?_ ?_); focus exact rfl) | ((with_reducible refine Bi.dec false ?_ ?_); focus exact rfl) | ((with_reducible refine Bi.sdec true ?_ ?_); focus decide) | ((with_reducible refine Bi.sdec false ?_ ?_); focus decide))
            replace E := Hs.star (ls := [mp kb .str []]) E
            (replace E := ((E.bIx 0).bIx 1))
            have hD : isD perm = true := by simp [isD, h0]
            exact fin73 511 kb _ (by unfold Tr.modeN; rw [if_neg h0, xor511]) (by rw [hD]; exact E)
          · replace E := Hs.starNil E
            (replace E := ((E.bIx 0).bIx 1))
            have hD : isD perm = false := by simp [isD, h0]
            exact fin73 438 0 _ (by unfold Tr.modeN; rw [if_pos h0, xor438]) (by rw [hD]; exact E)
        clear hJ43
        have hlen := h.len
        replace E := Hs.openT E
        (repeat first | (with_reducible first | refine Stp.go ?_ | refine StpE.go E ?_ | (refine StpW.go E ?_; clear E; intro w_ E) | (refine StpA.go E ?_; clear E; intro b_ w_ hb_ E) | (apply hJ7; intro u_) | (apply hJ22; intro u_) | (apply hJ43; intro u_) | (apply hJ73; intro u_) | refine LnL.nil ?_) | ((with_reducible refine Bi.dec true ?_ ?_); focus exact rfl) | ((with_reducible refine Bi.dec false ?_ ?_); focus exact rfl) | ((with_reducible refine Bi.sdec true ?_ ?_); focus decide) | ((with_reducible refine Bi.sdec false ?_ ?_); focus decide))
        refine Len.map E FMp.mem u_mfiles ?_
        rw [encM_length]
        refine Bi.geq ?_ ?_ <;> intro h1 <;> (repeat first | (with_reducible first | refine Stp.go ?_ | refine StpE.go E ?_ | (refine StpW.go E ?_; clear E; intro w_ E) | (refine StpA.go E ?_; clear E; intro b_ w_ hb_ E) | (apply hJ7; intro u_) | (apply hJ22; intro u_) | (apply hJ43; intro u_) | (apply hJ73; intro u_) | refine LnL.nil ?_) | ((with_reducible refine Bi.dec true ?_ ?_); focus exact rfl) | ((with_reducible refine Bi.dec false ?_ ?_); focus exact rfl) | ((with_reducible refine Bi.sdec true ?_ ?_); focus decide) | ((with_reducible refine Bi.sdec false ?_ ?_); focus decide))
        · exact fin43 _ _ (by rw [decide_eq_true (.inl (by omega))]) (Hs.closeT X E)
        · refine (room_ok E).mono ?_
          clear E
          rintro r w_ ⟨rfl, E⟩
          by_cases h2 : X.ol.length < 64
          · rw [decide_eq_true h2]
            (repeat first | (with_reducible first | refine Stp.go ?_ | refine StpE.go E ?_ | (refine StpW.go E ?_; clear E; intro w_ E) | (refine StpA.go E ?_; clear E; intro b_ w_ hb_ E) | (apply hJ7; intro u_) | (apply hJ22; intro u_) | (apply hJ43; intro u_) | (apply hJ73; intro u_) | refine LnL.nil ?_) | ((with_reducible refine Bi.dec true ?_ ?_); focus exact rfl) | ((with_reducible refine Bi.dec false ?_ ?_); focus exact rfl) | ((with_reducible refine Bi.sdec true ?_ ?_); focus decide) | ((with_reducible refine Bi.sdec false ?_ ?_); focus decide))
            exact fin43 _ _ (by rw [decide_eq_false (by omega)]) (Hs.closeT X E)
          · rw [decide_eq_false h2]
            (repeat first | (with_reducible first | refine Stp.go ?_ | refine StpE.go E ?_ | (refine StpW.go E ?_; clear E; intro w_ E) | (refine StpA.go E ?_; clear E; intro b_ w_ hb_ E) | (apply hJ7; intro u_) | (apply hJ22; intro u_) | (apply hJ43; intro u_) | (apply hJ73; intro u_) | refine LnL.nil ?_) | ((with_reducible refine Bi.dec true ?_ ?_); focus exact rfl) | ((with_reducible refine Bi.dec false ?_ ?_); focus exact rfl) | ((with_reducible refine Bi.sdec true ?_ ?_); focus decide) | ((with_reducible refine Bi.sdec false ?_ ?_); focus decide))
            exact fin43 _ _ (by rw [decide_eq_true (.inr (by omega))]) (Hs.closeT X E)
    clear hJ22
    refine (Valid_ok hns).mono ?_
    rintro r w' ⟨rfl, rfl⟩
    cases h1 : goodName name with
    | false => (repeat first | (with_reducible first | refine Stp.go ?_ | refine StpE.go E ?_ | (refine StpW.go E ?_; clear E; intro w_ E) | (refine StpA.go E ?_; clear E; intro b_ w_ hb_ E) | (apply hJ7; intro u_) | (apply hJ22; intro u_) | (apply hJ43; intro u_) | (apply hJ73; intro u_) | refine LnL.nil ?_) | ((with_reducible refine Bi.dec true ?_ ?_); focus exact rfl) | ((with_reducible refine Bi.dec false ?_ ?_); focus exact rfl) | ((with_reducible refine Bi.sdec true ?_ ?_); focus decide) | ((with_reducible refine Bi.sdec false ?_ ?_); focus decide)); exact fin22 _ _ (by rw [decide_eq_true (.inl h1)]) E
    | true =>
      (repeat first | (with_reducible first | refine Stp.go ?_ | refine StpE.go E ?_ | (refine StpW.go E ?_; clear E; intro w_ E) | (refine StpA.go E ?_; clear E; intro b_ w_ hb_ E) | (apply hJ7; intro u_) | (apply hJ22; intro u_) | (apply hJ43; intro u_) | (apply hJ73; intro u_) | refine LnL.nil ?_) | ((with_reducible refine Bi.dec true ?_ ?_); focus exact rfl) | ((with_reducible refine Bi.dec false ?_ ?_); focus exact rfl) | ((with_reducible refine Bi.sdec true ?_ ?_); focus decide) | ((with_reducible refine Bi.sdec false ?_ ?_); focus decide))
      refine (Valid_ok hus).mono ?_
      rintro r w' ⟨rfl, rfl⟩
      cases h2 : goodName user with
      | false => (repeat first | (with_reducible first | refine Stp.go ?_ | refine StpE.go E ?_ | (refine StpW.go E ?_; clear E; intro w_ E) | (refine StpA.go E ?_; clear E; intro b_ w_ hb_ E) | (apply hJ7; intro u_) | (apply hJ22; intro u_) | (apply hJ43; intro u_) | (apply hJ73; intro u_) | refine LnL.nil ?_) | ((with_reducible refine Bi.dec true ?_ ?_); focus exact rfl) | ((with_reducible refine Bi.dec false ?_ ?_); focus exact rfl) | ((with_reducible refine Bi.sdec true ?_ ?_); focus decide) | ((with_reducible refine Bi.sdec false ?_ ?_); focus decide)); exact fin22 _ _ (by rw [decide_eq_true (.inr h2)]) E
      | true => (repeat first | (with_reducible first | refine Stp.go ?_ | refine StpE.go E ?_ | (refine StpW.go E ?_; clear E; intro w_ E) | (refine StpA.go E ?_; clear E; intro b_ w_ hb_ E) | (apply hJ7; intro u_) | (apply hJ22; intro u_) | (apply hJ43; intro u_) | (apply hJ73; intro u_) | refine LnL.nil ?_) | ((with_reducible refine Bi.dec true ?_ ?_); focus exact rfl) | ((with_reducible refine Bi.dec false ?_ ?_); focus exact rfl) | ((with_reducible refine Bi.sdec true ?_ ?_); focus decide) | ((with_reducible refine Bi.sdec false ?_ ?_); focus decide)); exact fin22 _ _ (by rw [decide_eq_false (by rw [h1, h2]; simp)]) E
  clear hJ7
  (repeat first | (with_reducible first | refine Stp.go ?_ | refine StpE.go E ?_ | (refine StpW.go E ?_; clear E; intro w_ E) | (refine StpA.go E ?_; clear E; intro b_ w_ hb_ E) | (apply hJ7; intro u_) | (apply hJ22; intro u_) | (apply hJ43; intro u_) | (apply hJ73; intro u_) | refine LnL.nil ?_) | ((with_reducible refine Bi.dec true ?_ ?_); focus exact rfl) | ((with_reducible refine Bi.dec false ?_ ?_); focus exact rfl) | ((with_reducible refine Bi.sdec true ?_ ?_); focus decide) | ((with_reducible refine Bi.sdec false ?_ ?_); focus decide))
  refine Bi.neq ?_ ?_ <;> intro h1 <;> (repeat first | (with_reducible first | refine Stp.go ?_ | refine StpE.go E ?_ | (refine StpW.go E ?_; clear E; intro w_ E) | (refine StpA.go E ?_; clear E; intro b_ w_ hb_ E) | (apply hJ7; intro u_) | (apply hJ22; intro u_) | (apply hJ43; intro u_) | (apply hJ73; intro u_) | refine LnL.nil ?_) | ((with_reducible refine Bi.dec true ?_ ?_); focus exact rfl) | ((with_reducible refine Bi.dec false ?_ ?_); focus exact rfl) | ((with_reducible refine Bi.sdec true ?_ ?_); focus decide) | ((with_reducible refine Bi.sdec false ?_ ?_); focus decide))
  · exact fin7 _ _ (by rw [decide_eq_true (.inl h1)]) E
  refine (right_ok E).mono ?_
  clear E
  rintro r w_ ⟨rfl, E⟩
  cases h2 : rightM perm with
  | false => (repeat first | (with_reducible first | refine Stp.go ?_ | refine StpE.go E ?_ | (refine StpW.go E ?_; clear E; intro w_ E) | (refine StpA.go E ?_; clear E; intro b_ w_ hb_ E) | (apply hJ7; intro u_) | (apply hJ22; intro u_) | (apply hJ43; intro u_) | (apply hJ73; intro u_) | refine LnL.nil ?_) | ((with_reducible refine Bi.dec true ?_ ?_); focus exact rfl) | ((with_reducible refine Bi.dec false ?_ ?_); focus exact rfl) | ((with_reducible refine Bi.sdec true ?_ ?_); focus decide) | ((with_reducible refine Bi.sdec false ?_ ?_); focus decide)); exact fin7 _ _ (by rw [decide_eq_true (.inr (.inl h2))]) E
  | true =>
    (repeat first | (with_reducible first | refine Stp.go ?_ | refine StpE.go E ?_ | (refine StpW.go E ?_; clear E; intro w_ E) | (refine StpA.go E ?_; clear E; intro b_ w_ hb_ E) | (apply hJ7; intro u_) | (apply hJ22; intro u_) | (apply hJ43; intro u_) | (apply hJ73; intro u_) | refine LnL.nil ?_) | ((with_reducible refine Bi.dec true ?_ ?_); focus exact rfl) | ((with_reducible refine Bi.dec false ?_ ?_); focus exact rfl) | ((with_reducible refine Bi.sdec true ?_ ?_); focus decide) | ((with_reducible refine Bi.sdec false ?_ ?_); focus decide))
    refine Bi.neq ?_ ?_ <;> intro h3 <;> (repeat first | (with_reducible first | refine Stp.go ?_ | refine StpE.go E ?_ | (refine StpW.go E ?_; clear E; intro w_ E) | (refine StpA.go E ?_; clear E; intro b_ w_ hb_ E) | (apply hJ7; intro u_) | (apply hJ22; intro u_) | (apply hJ43; intro u_) | (apply hJ73; intro u_) | refine LnL.nil ?_) | ((with_reducible refine Bi.dec true ?_ ?_); focus exact rfl) | ((with_reducible refine Bi.dec false ?_ ?_); focus exact rfl) | ((with_reducible refine Bi.sdec true ?_ ?_); focus decide) | ((with_reducible refine Bi.sdec false ?_ ?_); focus decide))
    · refine Bi.neq ?_ ?_ <;> intro h4 <;> (repeat first | (with_reducible first | refine Stp.go ?_ | refine StpE.go E ?_ | (refine StpW.go E ?_; clear E; intro w_ E) | (refine StpA.go E ?_; clear E; intro b_ w_ hb_ E) | (apply hJ7; intro u_) | (apply hJ22; intro u_) | (apply hJ43; intro u_) | (apply hJ73; intro u_) | refine LnL.nil ?_) | ((with_reducible refine Bi.dec true ?_ ?_); focus exact rfl) | ((with_reducible refine Bi.dec false ?_ ?_); focus exact rfl) | ((with_reducible refine Bi.sdec true ?_ ?_); focus decide) | ((with_reducible refine Bi.sdec false ?_ ?_); focus decide))
      · exact fin7 _ _ (by rw [decide_eq_true (.inr (.inr ⟨h3, h4⟩))]) E
      · exact fin7 _ _ (by rw [decide_eq_false fun hc => hc.elim (fun h => h h1) fun h => h.elim (fun h => by rw [h2] at h; cases h) fun h => h.2 h4]) E
    · exact fin7 _ _ (by rw [decide_eq_false fun hc => hc.elim (fun h => h h1) fun h => h.elim (fun h => by rw [h2] at h; cases h) fun h => h.1 h3]) E
end Go.Proofs.YtnnhmahemklnkaaDoor
