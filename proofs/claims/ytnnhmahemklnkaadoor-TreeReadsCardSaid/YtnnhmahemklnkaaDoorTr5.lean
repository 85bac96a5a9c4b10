/-
  Trees: reading and writing.
-/
import Derived.Test.YtnnhmahemklnkaaDoorTs3
namespace Go.Proofs.YtnnhmahemklnkaaDoor
open Go Go.Sh
set_option maxRecDepth 100000
set_option linter.unusedVariables false
set_option linter.unusedSimpArgs false
variable {w0 w : World} {F : Nat → Prop} {l : List As}

theorem getL_map {κ β γ : Type} [DecidableEq κ] (f : β → γ) (L : List (κ × β)) (k : κ) : getL (L.map fun x => (x.1, f x.2)) k = (getL L k).map f := by
  unfold getL
  induction L with
  | nil => rfl
  | cons p r ih =>
    simp only [List.map_cons, List.find?_cons]
    by_cases h : k = p.1
    · simp [h]
    · simp only [h, decide_false]; exact ih
theorem Hs.openD {ds rs : List (Nat × MN)} {d : Nat × MN} (E : Hs w0 F w (DT ds :: l)) (hp : ds.Perm (d :: rs)) : Hs w0 F w (nd d.1 d.2 :: DT rs :: l) := by
  have E1 : Hs w0 F w (nd d.1 d.2 :: ((rs.map fun d => nd d.1 d.2) ++ l)) := (Hs.starPerm (hp.map fun d => nd d.1 d.2) E).unstar
  have E4 : Hs w0 F w ((rs.map fun d => nd d.1 d.2) ++ (nd d.1 d.2 :: l)) := E1.perm List.perm_middle.symm
  exact E4.star.perm (List.Perm.swap _ _ _)
theorem Hs.closeD {ds rs : List (Nat × MN)} {d : Nat × MN} (E : Hs w0 F w (nd d.1 d.2 :: DT rs :: l)) (hp : ds.Perm (d :: rs)) : Hs w0 F w (DT ds :: l) := by
  have E1 : Hs w0 F w ((rs.map fun d => nd d.1 d.2) ++ (nd d.1 d.2 :: l)) := (E.perm (List.Perm.swap _ _ _)).unstar
  have E2 : Hs w0 F w (((d :: rs).map fun d => nd d.1 d.2) ++ l) := E1.perm List.perm_middle
  exact Hs.starPerm (hp.symm.map fun d => nd d.1 d.2) E2.star
/-- Bytes. -/
theorem bts_len (s : BA) : (bts s).length = s.size := by simp [bts]
theorem bts_scal (s : BA) : (bts s).all scalV = true := by
  rw [List.all_eq_true]; intro v hv; obtain ⟨b, _, rfl⟩ := List.mem_map.1 hv; rfl
theorem bts_cut (s : BA) (i j : Nat) : bts (cutS s i j) = ((bts s).take j).drop i := by simp [bts, cutS]
theorem bts_sized (s : BA) (n : Nat) : bts (sized s n) = (bts s).take n ++ List.replicate (n - s.size) (.int .u8 0) := by simp [bts, sized]
theorem bts_over (s d : BA) (i : Nat) : bts (overW s i d) = (bts (sized s (max s.size (i + d.size)))).take i ++ bts d ++ (bts (sized s (max s.size (i + d.size)))).drop (i + d.size) := by simp [bts, overW]
theorem sized_size (s : BA) (n : Nat) : (sized s n).size = n := by
  have := congrArg List.length (bts_sized s n)
  rw [bts_len, List.length_append, List.length_take, bts_len, List.length_replicate] at this
  omega
theorem over_size (s d : BA) (i : Nat) : (overW s i d).size = max s.size (i + d.size) := by
  have := congrArg List.length (bts_over s d i)
  rw [bts_len, List.length_append, List.length_append, List.length_take, bts_len, bts_len, List.length_drop, bts_len, sized_size] at this
  omega

section
variable {D : List Row} {X : PT} {T : Tr} {β : Int → Nat}
theorem Tie.opened (h : Tie D X T β) (hi : Inv T) (k : Int) : getL X.ol k = (T.opened k).map fun x => (⟨β x.file, x.mode, x.user⟩ : HV) := by
  have e := getL_map (fun x : Hd => (⟨β x.file, x.mode, x.user⟩ : HV)) T.hs k
  rw [getL_perm h.ol]
  · exact e
  · rw [List.map_map, List.Nodup, List.pairwise_map]
    exact hi.hsorted.imp fun {a b} hab => by simp only [Function.comp]; omega
theorem hs_nodup (hi : Inv T) : (T.hs.map (·.1)).Nodup := by
  rw [List.Nodup, List.pairwise_map]
  exact hi.hsorted.imp fun {a b} hab => by omega
/-- The file of a handle. -/
theorem Tie.file (h : Tie D X T β) (hi : Inv T) {k : Int} {x : Hd} (hx : T.opened k = some x) :
    (∃ n rs, X.ps.Perm (n :: rs) ∧ n ∈ X.ps ∧ n.f.path = x.file ∧ T.get x.file = some n.f ∧ β x.file = n.blk) ∨ (T.get x.file = none ∧ ∃ m ds, X.ds.Perm ((β x.file, m) :: ds) ∧ m.gone = true) := by
  have hm : (k, x) ∈ T.hs := (getL_some (hs_nodup hi)).1 hx
  rcases h.find hi x.file with ⟨h1, h2⟩ | ⟨n, rs, h1, h2, h3, h4, h5⟩
  · right
    obtain ⟨m, h3, h4⟩ := h.dead _ hm (get_none.1 h1)
    obtain ⟨ds, hds⟩ := split_perm h3
    exact ⟨h1, m, ds, hds, h4⟩
  · left
    exact ⟨n, rs, h1, h2, h3, h4, by rw [← h3]; exact h.bl n h2⟩

theorem Read_ok (h : Tie D X T β) (hi : Inv T) {hd off count : Int} (hp : Pool D ∈ l) (E : Hs w0 F w (trA X :: l)) :
    Ca PP Fn.tree_Tree_Read #[ptr X.t, i64 hd, i64 off, i64 count] w fun r w' => r = .tuple #[str (T.read hd off count).1, i64 (T.read hd off count).2] ∧ Hs w0 F w' (trA X :: l) := by
  refine S.tree_Tree_Read.calls ?_
  unfold S.tree_Tree_Read
  replace E := Hs.openT E
  refine (opened_ok E).mono ?_
  clear E
  rintro r w_ ⟨rfl, E⟩
  rw [h.opened hi]
  cases hx : T.opened hd with
  | none =>
    simp only [Option.map_none, openedV]
    (repeat first | (with_reducible first | refine Stp.go ?_ | refine StpE.go E ?_ | (refine StpW.go E ?_; clear E; intro w_ E) | (refine StpA.go E ?_; clear E; intro b_ w_ hb_ E) | refine Ld.pt E (by (repeat (first | assumption | with_reducible exact List.mem_cons_self | refine List.mem_cons_of_mem _ ?_))) rfl ?_ | (apply LdA.pt E; (focus ((repeat (first | assumption | with_reducible exact List.mem_cons_self | refine List.mem_cons_of_mem _ ?_)); done)); (focus (simp only [Nat.reduceAdd, Nat.zero_add, List.drop_succ_cons, List.drop_zero, List.take_succ_cons, List.take_zero, List.take_nil, List.drop_nil]; exact rfl)); (focus exact rfl)) | (apply hJ22; intro u_) | refine LnL.nil ?_) | ((with_reducible refine Bi.dec true ?_ ?_); focus exact rfl) | ((with_reducible refine Bi.dec false ?_ ?_); focus exact rfl) | ((with_reducible refine Bi.sdec true ?_ ?_); focus decide) | ((with_reducible refine Bi.sdec false ?_ ?_); focus decide))
    exact ⟨by unfold Tr.read; rw [hx]; rfl, Hs.closeT X E.tl⟩
  | some x =>
    simp only [Option.map_some, openedV]
    (repeat first | (with_reducible first | refine Stp.go ?_ | refine StpE.go E ?_ | (refine StpW.go E ?_; clear E; intro w_ E) | (refine StpA.go E ?_; clear E; intro b_ w_ hb_ E) | refine Ld.pt E (by (repeat (first | assumption | with_reducible exact List.mem_cons_self | refine List.mem_cons_of_mem _ ?_))) rfl ?_ | (apply LdA.pt E; (focus ((repeat (first | assumption | with_reducible exact List.mem_cons_self | refine List.mem_cons_of_mem _ ?_)); done)); (focus (simp only [Nat.reduceAdd, Nat.zero_add, List.drop_succ_cons, List.drop_zero, List.take_succ_cons, List.take_zero, List.take_nil, List.drop_nil]; exact rfl)); (focus exact rfl)) | (apply hJ22; intro u_) | refine LnL.nil ?_) | ((with_reducible refine Bi.dec true ?_ ?_); focus exact rfl) | ((with_reducible refine Bi.dec false ?_ ?_); focus exact rfl) | ((with_reducible refine Bi.sdec true ?_ ?_); focus decide) | ((with_reducible refine Bi.sdec false ?_ ?_); focus decide))
    (revert b_; intro q hbq E)
    refine Bi.eql ?_ ?_ <;> intro hm <;> (repeat first | (with_reducible first | refine Stp.go ?_ | refine StpE.go E ?_ | (refine StpW.go E ?_; clear E; intro w_ E) | (refine StpA.go E ?_; clear E; intro b_ w_ hb_ E) | refine Ld.pt E (by (repeat (first | assumption | with_reducible exact List.mem_cons_self | refine List.mem_cons_of_mem _ ?_))) rfl ?_ | (apply LdA.pt E; (focus ((repeat (first | assumption | with_reducible exact List.mem_cons_self | refine List.mem_cons_of_mem _ ?_)); done)); (focus (simp only [Nat.reduceAdd, Nat.zero_add, List.drop_succ_cons, List.drop_zero, List.take_succ_cons, List.take_zero, List.take_nil, List.drop_nil]; exact rfl)); (focus exact rfl)) | (apply hJ22; intro u_) | refine LnL.nil ?_) | ((with_reducible refine Bi.dec true ?_ ?_); focus exact rfl) | ((with_reducible refine Bi.dec false ?_ ?_); focus exact rfl) | ((with_reducible refine Bi.sdec true ?_ ?_); focus decide) | ((with_reducible refine Bi.sdec false ?_ ?_); focus decide))
    · exact ⟨by unfold Tr.read; simp only [hx, hm, if_true]; rfl, Hs.closeT X E.tl⟩
    (replace E := (((((((E.bIx 0).bIx 6).bIx 6).bIx 6).bIx 6).bIx 6).bIx 6))
    rcases h.file hi hx with ⟨n, rs, hpm, hn, hpath, hg, hb⟩ | ⟨hg, m, ds, hds, hgone⟩
    · replace E := Hs.openTN hpm (Hs.closeT X E)
      rw [hb] at E
      (repeat first | (with_reducible first | refine Stp.go ?_ | refine StpE.go E ?_ | (refine StpW.go E ?_; clear E; intro w_ E) | (refine StpA.go E ?_; clear E; intro b_ w_ hb_ E) | refine Ld.pt E (by (repeat (first | assumption | with_reducible exact List.mem_cons_self | refine List.mem_cons_of_mem _ ?_))) rfl ?_ | (apply LdA.pt E; (focus ((repeat (first | assumption | with_reducible exact List.mem_cons_self | refine List.mem_cons_of_mem _ ?_)); done)); (focus (simp only [Nat.reduceAdd, Nat.zero_add, List.drop_succ_cons, List.drop_zero, List.take_succ_cons, List.take_zero, List.take_nil, List.drop_nil]; exact rfl)); (focus exact rfl)) | (apply hJ22; intro u_) | refine LnL.nil ?_) | ((with_reducible refine Bi.dec true ?_ ?_); focus exact rfl) | ((with_reducible refine Bi.dec false ?_ ?_); focus exact rfl) | ((with_reducible refine Bi.sdec true ?_ ?_); focus decide) | ((with_reducible refine Bi.sdec false ?_ ?_); focus decide))
      rw [hb]
      (repeat first | (with_reducible first | refine Stp.go ?_ | refine StpE.go E ?_ | (refine StpW.go E ?_; clear E; intro w_ E) | (refine StpA.go E ?_; clear E; intro b_ w_ hb_ E) | refine Ld.pt E (by (repeat (first | assumption | with_reducible exact List.mem_cons_self | refine List.mem_cons_of_mem _ ?_))) rfl ?_ | (apply LdA.pt E; (focus ((repeat (first | assumption | with_reducible exact List.mem_cons_self | refine List.mem_cons_of_mem _ ?_)); done)); (focus (simp only [Nat.reduceAdd, Nat.zero_add, List.drop_succ_cons, List.drop_zero, List.take_succ_cons, List.take_zero, List.take_nil, List.drop_nil]; exact rfl)); (focus exact rfl)) | (apply hJ22; intro u_) | refine LnL.nil ?_) | ((with_reducible refine Bi.dec true ?_ ?_); focus exact rfl) | ((with_reducible refine Bi.dec false ?_ ?_); focus exact rfl) | ((with_reducible refine Bi.sdec true ?_ ?_); focus decide) | ((with_reducible refine Bi.sdec false ?_ ?_); focus decide))
      (replace E := (E.bIx 4))
      refine (isDir_ok (m := n.mn) E).mono ?_
      clear E
      rintro r w_ ⟨rfl, E⟩
      cases hdir : isD n.mn.mode with
      | true =>
        have hd2 : n.f.dir = true := hdir
        (repeat first | (with_reducible first | refine Stp.go ?_ | refine StpE.go E ?_ | (refine StpW.go E ?_; clear E; intro w_ E) | (refine StpA.go E ?_; clear E; intro b_ w_ hb_ E) | refine Ld.pt E (by (repeat (first | assumption | with_reducible exact List.mem_cons_self | refine List.mem_cons_of_mem _ ?_))) rfl ?_ | (apply LdA.pt E; (focus ((repeat (first | assumption | with_reducible exact List.mem_cons_self | refine List.mem_cons_of_mem _ ?_)); done)); (focus (simp only [Nat.reduceAdd, Nat.zero_add, List.drop_succ_cons, List.drop_zero, List.take_succ_cons, List.take_zero, List.take_nil, List.drop_nil]; exact rfl)); (focus exact rfl)) | (apply hJ22; intro u_) | refine LnL.nil ?_) | ((with_reducible refine Bi.dec true ?_ ?_); focus exact rfl) | ((with_reducible refine Bi.dec false ?_ ?_); focus exact rfl) | ((with_reducible refine Bi.sdec true ?_ ?_); focus decide) | ((with_reducible refine Bi.sdec false ?_ ?_); focus decide))
        (replace E := ((((((((E.bIx 7).bIx 7).bIx 7).bIx 3).bIx 7).bIx 7).bIx 7).bIx 7))
        replace E := Hs.closeTN X n hpm E
        exact ⟨by unfold Tr.read; simp only [hx, if_neg hm, hg, hd2, if_true]; rfl, (E.bIx 1).tl⟩
      | false =>
        have hd2 : n.f.dir = false := hdir
        (repeat first | (with_reducible first | refine Stp.go ?_ | refine StpE.go E ?_ | (refine StpW.go E ?_; clear E; intro w_ E) | (refine StpA.go E ?_; clear E; intro b_ w_ hb_ E) | refine Ld.pt E (by (repeat (first | assumption | with_reducible exact List.mem_cons_self | refine List.mem_cons_of_mem _ ?_))) rfl ?_ | (apply LdA.pt E; (focus ((repeat (first | assumption | with_reducible exact List.mem_cons_self | refine List.mem_cons_of_mem _ ?_)); done)); (focus (simp only [Nat.reduceAdd, Nat.zero_add, List.drop_succ_cons, List.drop_zero, List.take_succ_cons, List.take_zero, List.take_nil, List.drop_nil]; exact rfl)); (focus exact rfl)) | (apply hJ22; intro u_) | refine LnL.nil ?_) | ((with_reducible refine Bi.dec true ?_ ?_); focus exact rfl) | ((with_reducible refine Bi.dec false ?_ ?_); focus exact rfl) | ((with_reducible refine Bi.sdec true ?_ ?_); focus decide) | ((with_reducible refine Bi.sdec false ?_ ?_); focus decide))
        (intro J22 hJ22)
        have fin : ∀ b w_, b = decide (off < 0 ∨ count < 0) → Hs w0 F w_ (nd n.blk n.mn :: tb X :: mp X.fm (.int .i64) X.fM :: mp X.gm .str X.gM :: mp X.om (.int .i64) X.oM :: KM n :: NT rs :: DT X.ds :: pt q (oc [ptr n.blk, i64 x.mode, str x.user] Ty.tree_handle) :: l) → J22 [.bool b] w_ := by
          intro b w_ hb E
          (repeat first | (with_reducible first | refine Stp.go ?_ | refine StpE.go E ?_ | (refine StpW.go E ?_; clear E; intro w_ E) | (refine StpA.go E ?_; clear E; intro b_ w_ hb_ E) | refine Ld.pt E (by (repeat (first | assumption | with_reducible exact List.mem_cons_self | refine List.mem_cons_of_mem _ ?_))) rfl ?_ | (apply LdA.pt E; (focus ((repeat (first | assumption | with_reducible exact List.mem_cons_self | refine List.mem_cons_of_mem _ ?_)); done)); (focus (simp only [Nat.reduceAdd, Nat.zero_add, List.drop_succ_cons, List.drop_zero, List.take_succ_cons, List.take_zero, List.take_nil, List.drop_nil]; exact rfl)); (focus exact rfl)) | (apply hJ22; intro u_) | refine LnL.nil ?_) | ((with_reducible refine Bi.dec true ?_ ?_); focus exact rfl) | ((with_reducible refine Bi.dec false ?_ ?_); focus exact rfl) | ((with_reducible refine Bi.sdec true ?_ ?_); focus decide) | ((with_reducible refine Bi.sdec false ?_ ?_); focus decide))
          by_cases hr : off < 0 ∨ count < 0
          · rw [decide_eq_true hr] at hb
            subst hb
            (repeat first | (with_reducible first | refine Stp.go ?_ | refine StpE.go E ?_ | (refine StpW.go E ?_; clear E; intro w_ E) | (refine StpA.go E ?_; clear E; intro b_ w_ hb_ E) | refine Ld.pt E (by (repeat (first | assumption | with_reducible exact List.mem_cons_self | refine List.mem_cons_of_mem _ ?_))) rfl ?_ | (apply LdA.pt E; (focus ((repeat (first | assumption | with_reducible exact List.mem_cons_self | refine List.mem_cons_of_mem _ ?_)); done)); (focus (simp only [Nat.reduceAdd, Nat.zero_add, List.drop_succ_cons, List.drop_zero, List.take_succ_cons, List.take_zero, List.take_nil, List.drop_nil]; exact rfl)); (focus exact rfl)) | (apply hJ22; intro u_) | refine LnL.nil ?_) | ((with_reducible refine Bi.dec true ?_ ?_); focus exact rfl) | ((with_reducible refine Bi.dec false ?_ ?_); focus exact rfl) | ((with_reducible refine Bi.sdec true ?_ ?_); focus decide) | ((with_reducible refine Bi.sdec false ?_ ?_); focus decide))
            (replace E := ((((((((E.bIx 7).bIx 7).bIx 7).bIx 3).bIx 7).bIx 7).bIx 7).bIx 7))
            replace E := Hs.closeTN X n hpm E
            exact ⟨by unfold Tr.read; simp only [hx, if_neg hm, hg, hd2, if_pos hr]; rfl, (E.bIx 1).tl⟩
          · rw [decide_eq_false hr] at hb
            subst hb
            (repeat first | (with_reducible first | refine Stp.go ?_ | refine StpE.go E ?_ | (refine StpW.go E ?_; clear E; intro w_ E) | (refine StpA.go E ?_; clear E; intro b_ w_ hb_ E) | refine Ld.pt E (by (repeat (first | assumption | with_reducible exact List.mem_cons_self | refine List.mem_cons_of_mem _ ?_))) rfl ?_ | (apply LdA.pt E; (focus ((repeat (first | assumption | with_reducible exact List.mem_cons_self | refine List.mem_cons_of_mem _ ?_)); done)); (focus (simp only [Nat.reduceAdd, Nat.zero_add, List.drop_succ_cons, List.drop_zero, List.take_succ_cons, List.take_zero, List.take_nil, List.drop_nil]; exact rfl)); (focus exact rfl)) | (apply hJ22; intro u_) | refine LnL.nil ?_) | ((with_reducible refine Bi.dec true ?_ ?_); focus exact rfl) | ((with_reducible refine Bi.dec false ?_ ?_); focus exact rfl) | ((with_reducible refine Bi.sdec true ?_ ?_); focus decide) | ((with_reducible refine Bi.sdec false ?_ ?_); focus decide))
            have hrd := (h.data n hn).read E (by simp [hp])
            rw [bts_len] at hrd
            refine hrd.len ?_
            refine Bi.geq ?_ ?_ <;> intro hge <;> (repeat first | (with_reducible first | refine Stp.go ?_ | refine StpE.go E ?_ | (refine StpW.go E ?_; clear E; intro w_ E) | (refine StpA.go E ?_; clear E; intro b_ w_ hb_ E) | refine Ld.pt E (by (repeat (first | assumption | with_reducible exact List.mem_cons_self | refine List.mem_cons_of_mem _ ?_))) rfl ?_ | (apply LdA.pt E; (focus ((repeat (first | assumption | with_reducible exact List.mem_cons_self | refine List.mem_cons_of_mem _ ?_)); done)); (focus (simp only [Nat.reduceAdd, Nat.zero_add, List.drop_succ_cons, List.drop_zero, List.take_succ_cons, List.take_zero, List.take_nil, List.drop_nil]; exact rfl)); (focus exact rfl)) | (apply hJ22; intro u_) | refine LnL.nil ?_) | ((with_reducible refine Bi.dec true ?_ ?_); focus exact rfl) | ((with_reducible refine Bi.dec false ?_ ?_); focus exact rfl) | ((with_reducible refine Bi.sdec true ?_ ?_); focus decide) | ((with_reducible refine Bi.sdec false ?_ ?_); focus decide))
            · (replace E := ((((((((E.bIx 7).bIx 7).bIx 7).bIx 3).bIx 7).bIx 7).bIx 7).bIx 7))
              replace E := Hs.closeTN X n hpm E
              exact ⟨by unfold Tr.read; simp only [hx, if_neg hm, hg, hd2, if_neg hr, if_pos hge]; rfl, (E.bIx 1).tl⟩
            · refine hrd.slice (a := off.toNat) (b := n.f.data.size) (by simp [bnd]; omega) rfl (by omega) (Nat.le_refl _) ?_
              intro v1 h1
              refine h1.len ?_
              refine Mn.mk ?_
              refine h1.slice (a := 0) (b := min count.toNat (n.f.data.size - off.toNat)) rfl (by
                split <;> simp only [bnd] <;> (try rw [if_pos (by omega)]) <;> congr 1 <;> omega) (Nat.zero_le _) (Nat.min_le_right _ _) ?_
              intro v2 h2
              have e : ((((bts n.f.data).take n.f.data.size).drop off.toNat).take (min count.toNat (n.f.data.size - off.toNat))).drop 0 = bts (cutS n.f.data off.toNat (off.toNat + min count.toNat (n.f.data.size - off.toNat))) := by
                have e0 : (bts n.f.data).take n.f.data.size = bts n.f.data := List.take_of_length_le (by rw [bts_len]; exact Nat.le_refl _)
                rw [bts_cut, List.drop_zero, e0, List.drop_take, Nat.add_sub_cancel_left]
              rw [e] at h2
              refine h2.cvb E u_sl_uint8 u_string u_uint8 ?_
              (replace E := ((((((((E.bIx 7).bIx 7).bIx 7).bIx 3).bIx 7).bIx 7).bIx 7).bIx 7))
              replace E := Hs.closeTN X n hpm E
              exact ⟨by unfold Tr.read; simp only [hx, if_neg hm, hg, hd2, if_neg hr, if_neg (show ¬ (n.f.data.size : Int) ≤ off by omega)]; rfl, (E.bIx 1).tl⟩
        clear hJ22
        refine Bi.lss ?_ ?_ <;> intro h1 <;> (repeat first | (with_reducible first | refine Stp.go ?_ | refine StpE.go E ?_ | (refine StpW.go E ?_; clear E; intro w_ E) | (refine StpA.go E ?_; clear E; intro b_ w_ hb_ E) | refine Ld.pt E (by (repeat (first | assumption | with_reducible exact List.mem_cons_self | refine List.mem_cons_of_mem _ ?_))) rfl ?_ | (apply LdA.pt E; (focus ((repeat (first | assumption | with_reducible exact List.mem_cons_self | refine List.mem_cons_of_mem _ ?_)); done)); (focus (simp only [Nat.reduceAdd, Nat.zero_add, List.drop_succ_cons, List.drop_zero, List.take_succ_cons, List.take_zero, List.take_nil, List.drop_nil]; exact rfl)); (focus exact rfl)) | (apply hJ22; intro u_) | refine LnL.nil ?_) | ((with_reducible refine Bi.dec true ?_ ?_); focus exact rfl) | ((with_reducible refine Bi.dec false ?_ ?_); focus exact rfl) | ((with_reducible refine Bi.sdec true ?_ ?_); focus decide) | ((with_reducible refine Bi.sdec false ?_ ?_); focus decide))
        · exact fin _ _ (by simp [h1]) E
        · refine Bi.lss ?_ ?_ <;> intro h2 <;> (repeat first | (with_reducible first | refine Stp.go ?_ | refine StpE.go E ?_ | (refine StpW.go E ?_; clear E; intro w_ E) | (refine StpA.go E ?_; clear E; intro b_ w_ hb_ E) | refine Ld.pt E (by (repeat (first | assumption | with_reducible exact List.mem_cons_self | refine List.mem_cons_of_mem _ ?_))) rfl ?_ | (apply LdA.pt E; (focus ((repeat (first | assumption | with_reducible exact List.mem_cons_self | refine List.mem_cons_of_mem _ ?_)); done)); (focus (simp only [Nat.reduceAdd, Nat.zero_add, List.drop_succ_cons, List.drop_zero, List.take_succ_cons, List.take_zero, List.take_nil, List.drop_nil]; exact rfl)); (focus exact rfl)) | (apply hJ22; intro u_) | refine LnL.nil ?_) | ((with_reducible refine Bi.dec true ?_ ?_); focus exact rfl) | ((with_reducible refine Bi.dec false ?_ ?_); focus exact rfl) | ((with_reducible refine Bi.sdec true ?_ ?_); focus decide) | ((with_reducible refine Bi.sdec false ?_ ?_); focus decide))
          · exact fin _ _ (by simp [h2]) E
          · exact fin _ _ (by simp; omega) E
    · replace E := Hs.openD (E.bIx 5) hds
      (repeat first | (with_reducible first | refine Stp.go ?_ | refine StpE.go E ?_ | (refine StpW.go E ?_; clear E; intro w_ E) | (refine StpA.go E ?_; clear E; intro b_ w_ hb_ E) | refine Ld.pt E (by (repeat (first | assumption | with_reducible exact List.mem_cons_self | refine List.mem_cons_of_mem _ ?_))) rfl ?_ | (apply LdA.pt E; (focus ((repeat (first | assumption | with_reducible exact List.mem_cons_self | refine List.mem_cons_of_mem _ ?_)); done)); (focus (simp only [Nat.reduceAdd, Nat.zero_add, List.drop_succ_cons, List.drop_zero, List.take_succ_cons, List.take_zero, List.take_nil, List.drop_nil]; exact rfl)); (focus exact rfl)) | (apply hJ22; intro u_) | refine LnL.nil ?_) | ((with_reducible refine Bi.dec true ?_ ?_); focus exact rfl) | ((with_reducible refine Bi.dec false ?_ ?_); focus exact rfl) | ((with_reducible refine Bi.sdec true ?_ ?_); focus decide) | ((with_reducible refine Bi.sdec false ?_ ?_); focus decide))
      rw [hgone]
      (repeat first | (with_reducible first | refine Stp.go ?_ | refine StpE.go E ?_ | (refine StpW.go E ?_; clear E; intro w_ E) | (refine StpA.go E ?_; clear E; intro b_ w_ hb_ E) | refine Ld.pt E (by (repeat (first | assumption | with_reducible exact List.mem_cons_self | refine List.mem_cons_of_mem _ ?_))) rfl ?_ | (apply LdA.pt E; (focus ((repeat (first | assumption | with_reducible exact List.mem_cons_self | refine List.mem_cons_of_mem _ ?_)); done)); (focus (simp only [Nat.reduceAdd, Nat.zero_add, List.drop_succ_cons, List.drop_zero, List.take_succ_cons, List.take_zero, List.take_nil, List.drop_nil]; exact rfl)); (focus exact rfl)) | (apply hJ22; intro u_) | refine LnL.nil ?_) | ((with_reducible refine Bi.dec true ?_ ?_); focus exact rfl) | ((with_reducible refine Bi.dec false ?_ ?_); focus exact rfl) | ((with_reducible refine Bi.sdec true ?_ ?_); focus decide) | ((with_reducible refine Bi.sdec false ?_ ?_); focus decide))
      replace E := Hs.closeD E hds
      (replace E := ((((((E.bIx 0).bIx 5).bIx 5).bIx 5).bIx 5).bIx 5))
      exact ⟨by unfold Tr.read; simp only [hx, if_neg hm, hg]; rfl, ((Hs.closeT X E).bIx 1).tl⟩
end
end Go.Proofs.YtnnhmahemklnkaaDoor
