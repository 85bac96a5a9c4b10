/-
  Trees: writing.
-/
import Derived.Test.YtnnhmahemklnkaaDoorTr5
namespace Go.Proofs.YtnnhmahemklnkaaDoor
open Go Go.Sh
set_option maxRecDepth 100000
set_option linter.unusedVariables false
set_option linter.unusedSimpArgs false
variable {w0 w : World} {F : Nat → Prop} {l : List As}
variable {D : List Row} {X : PT} {T : Tr} {β : Int → Nat}

theorem change_one (T : Tr) (user : BA) (p : Int) : T.change user [p] = { T with ns := updN T.ns p (touchN (T.clock + 1) user), clock := T.clock + 1 } := rfl
theorem wr_lemma {S : PN → PN} {ps rs : List PN} {n : PN} (E : Hs w0 F w (nd (S n).blk (S n).mn :: KM (S n) :: NT rs :: l)) (hnd : (ps.map PN.blk).Nodup) (hp : ps.Perm (n :: rs)) : Hs w0 F w (NT (updB ps n.blk S) :: l) :=
  Hs.permN (Hs.closeN (S n) E) (updB_perm hnd hp).symm

/-- What an operation leaves behind: a tree in memory that is the tree that it should be. -/
def Goes (w0 : World) (F : Nat → Prop) (l : List As) (D : List Row) (X : PT) (T' : Tr) (w : World) : Prop :=
  ∃ D' X' β', (∀ x ∈ D, x ∈ D') ∧ X'.t = X.t ∧ Tie D' X' T' β' ∧ Hs w0 F w (trA X' :: Pool D' :: l)
theorem Goes.same (h : Tie D X T β) (E : Hs w0 F w (trA X :: Pool D :: l)) : Goes w0 F l D X T w := ⟨D, X, β, fun _ h => h, rfl, h, E⟩

theorem Write_ok (h : Tie D X T β) (hi : Inv T) {N : Int} (hN : N < 4611686018427387904) (hlim : Lim N T) {hd off : Int} {d : BA} (E : Hs w0 F w (trA X :: Pool D :: l)) :
    Ca PP Fn.tree_Tree_Write #[ptr X.t, i64 hd, i64 off, str d] w fun r w' => r = .tuple #[i64 (T.write hd off d).2.1, i64 (T.write hd off d).2.2] ∧ Goes w0 F l D X (T.write hd off d).1 w' := by
  refine S.tree_Tree_Write.calls ?_
  unfold S.tree_Tree_Write
  have hnd := Hs.nodupT E
  replace E := Hs.openT E
  refine (opened_ok E).mono ?_
  clear E
  rintro r w_ ⟨rfl, E⟩
  rw [h.opened hi]
  cases hx : T.opened hd with
  | none =>
    simp only [Option.map_none, openedV]
    (repeat first | (with_reducible first | refine Stp.go ?_ | refine StpE.go E ?_ | (refine StpW.go E ?_; clear E; intro w_ E) | (refine StpA.go E ?_; clear E; intro b_ w_ hb_ E) | (apply hJ9; intro u_) | (apply hJ20; intro u_) | (apply hJ24; intro u_) | refine LnL.nil ?_) | ((with_reducible refine Bi.dec true ?_ ?_); focus exact rfl) | ((with_reducible refine Bi.dec false ?_ ?_); focus exact rfl) | ((with_reducible refine Bi.sdec true ?_ ?_); focus decide) | ((with_reducible refine Bi.sdec false ?_ ?_); focus decide))
    have e : T.write hd off d = (T, 0, 19) := by unfold Tr.write; rw [hx]
    rw [e]
    exact ⟨rfl, .same h (Hs.closeT X E.tl)⟩
  | some x =>
    simp only [Option.map_some, openedV]
    (repeat first | (with_reducible first | refine Stp.go ?_ | refine StpE.go E ?_ | (refine StpW.go E ?_; clear E; intro w_ E) | (refine StpA.go E ?_; clear E; intro b_ w_ hb_ E) | (apply hJ9; intro u_) | (apply hJ20; intro u_) | (apply hJ24; intro u_) | refine LnL.nil ?_) | ((with_reducible refine Bi.dec true ?_ ?_); focus exact rfl) | ((with_reducible refine Bi.dec false ?_ ?_); focus exact rfl) | ((with_reducible refine Bi.sdec true ?_ ?_); focus decide) | ((with_reducible refine Bi.sdec false ?_ ?_); focus decide))
    (revert b_; intro q hbq E)
    (replace E := (((((((E.bIx 0).bIx 6).bIx 6).bIx 6).bIx 6).bIx 6).bIx 6))
    (intro J9 hJ9)
    have fin : ∀ b w_, b = decide (andI x.mode 3 ≠ 1 ∧ andI x.mode 3 ≠ 2) → Hs w0 F w_ (tb X :: mp X.fm (.int .i64) X.fM :: mp X.gm .str X.gM :: mp X.om (.int .i64) X.oM :: NT X.ps :: DT X.ds :: pt q (oc [ptr (β x.file), i64 x.mode, str x.user] Ty.tree_handle) :: Pool D :: l) → J9 [.bool b] w_ := by
      intro b w_ hb E
      (repeat first | (with_reducible first | refine Stp.go ?_ | refine StpE.go E ?_ | (refine StpW.go E ?_; clear E; intro w_ E) | (refine StpA.go E ?_; clear E; intro b_ w_ hb_ E) | (apply hJ9; intro u_) | (apply hJ20; intro u_) | (apply hJ24; intro u_) | refine LnL.nil ?_) | ((with_reducible refine Bi.dec true ?_ ?_); focus exact rfl) | ((with_reducible refine Bi.dec false ?_ ?_); focus exact rfl) | ((with_reducible refine Bi.sdec true ?_ ?_); focus decide) | ((with_reducible refine Bi.sdec false ?_ ?_); focus decide))
      by_cases hm : andI x.mode 3 ≠ 1 ∧ andI x.mode 3 ≠ 2
      · rw [decide_eq_true hm] at hb
        subst hb
        (repeat first | (with_reducible first | refine Stp.go ?_ | refine StpE.go E ?_ | (refine StpW.go E ?_; clear E; intro w_ E) | (refine StpA.go E ?_; clear E; intro b_ w_ hb_ E) | (apply hJ9; intro u_) | (apply hJ20; intro u_) | (apply hJ24; intro u_) | refine LnL.nil ?_) | ((with_reducible refine Bi.dec true ?_ ?_); focus exact rfl) | ((with_reducible refine Bi.dec false ?_ ?_); focus exact rfl) | ((with_reducible refine Bi.sdec true ?_ ?_); focus decide) | ((with_reducible refine Bi.sdec false ?_ ?_); focus decide))
        have e : T.write hd off d = (T, 0, 20) := by unfold Tr.write; simp only [hx, if_pos hm]
        rw [e]
        exact ⟨rfl, .same h ((Hs.closeT X E).bIx 1).tl⟩
      rw [decide_eq_false hm] at hb
      subst hb
      (repeat first | (with_reducible first | refine Stp.go ?_ | refine StpE.go E ?_ | (refine StpW.go E ?_; clear E; intro w_ E) | (refine StpA.go E ?_; clear E; intro b_ w_ hb_ E) | (apply hJ9; intro u_) | (apply hJ20; intro u_) | (apply hJ24; intro u_) | refine LnL.nil ?_) | ((with_reducible refine Bi.dec true ?_ ?_); focus exact rfl) | ((with_reducible refine Bi.dec false ?_ ?_); focus exact rfl) | ((with_reducible refine Bi.sdec true ?_ ?_); focus decide) | ((with_reducible refine Bi.sdec false ?_ ?_); focus decide))
      rcases h.file hi hx with ⟨n, rs, hpm, hn, hpath, hg, hb⟩ | ⟨hg, m, ds, hds, hgone⟩
      · replace E := Hs.openTN hpm (Hs.closeT X E)
        have keep : ∀ w, Hs w0 F w (tb X :: mp X.fm (.int .i64) X.fM :: mp X.gm .str X.gM :: mp X.om (.int .i64) X.oM :: nd n.blk n.mn :: KM n :: NT rs :: DT X.ds :: pt q (oc [ptr (β x.file), i64 x.mode, str x.user] Ty.tree_handle) :: Pool D :: l) → Goes w0 F l D X T w :=
          fun w E => .same h ((Hs.closeTN X n hpm E).bIx 1).tl
        rw [hb] at E keep
        (repeat first | (with_reducible first | refine Stp.go ?_ | refine StpE.go E ?_ | (refine StpW.go E ?_; clear E; intro w_ E) | (refine StpA.go E ?_; clear E; intro b_ w_ hb_ E) | (apply hJ9; intro u_) | (apply hJ20; intro u_) | (apply hJ24; intro u_) | refine LnL.nil ?_) | ((with_reducible refine Bi.dec true ?_ ?_); focus exact rfl) | ((with_reducible refine Bi.dec false ?_ ?_); focus exact rfl) | ((with_reducible refine Bi.sdec true ?_ ?_); focus decide) | ((with_reducible refine Bi.sdec false ?_ ?_); focus decide))
        rw [hb]
        (repeat first | (with_reducible first | refine Stp.go ?_ | refine StpE.go E ?_ | (refine StpW.go E ?_; clear E; intro w_ E) | (refine StpA.go E ?_; clear E; intro b_ w_ hb_ E) | (apply hJ9; intro u_) | (apply hJ20; intro u_) | (apply hJ24; intro u_) | refine LnL.nil ?_) | ((with_reducible refine Bi.dec true ?_ ?_); focus exact rfl) | ((with_reducible refine Bi.dec false ?_ ?_); focus exact rfl) | ((with_reducible refine Bi.sdec true ?_ ?_); focus decide) | ((with_reducible refine Bi.sdec false ?_ ?_); focus decide))
        refine Bi.lss ?_ ?_ <;> intro h0 <;> (repeat first | (with_reducible first | refine Stp.go ?_ | refine StpE.go E ?_ | (refine StpW.go E ?_; clear E; intro w_ E) | (refine StpA.go E ?_; clear E; intro b_ w_ hb_ E) | (apply hJ9; intro u_) | (apply hJ20; intro u_) | (apply hJ24; intro u_) | refine LnL.nil ?_) | ((with_reducible refine Bi.dec true ?_ ?_); focus exact rfl) | ((with_reducible refine Bi.dec false ?_ ?_); focus exact rfl) | ((with_reducible refine Bi.sdec true ?_ ?_); focus decide) | ((with_reducible refine Bi.sdec false ?_ ?_); focus decide))
        · have e : T.write hd off d = (T, 0, 11) := by unfold Tr.write; simp only [hx, if_neg hm, hg, if_pos h0]
          rw [e]
          exact ⟨rfl, keep _ E⟩
        refine Bi.seql ?_ ?_ <;> intro hd0 <;> (repeat first | (with_reducible first | refine Stp.go ?_ | refine StpE.go E ?_ | (refine StpW.go E ?_; clear E; intro w_ E) | (refine StpA.go E ?_; clear E; intro b_ w_ hb_ E) | (apply hJ9; intro u_) | (apply hJ20; intro u_) | (apply hJ24; intro u_) | refine LnL.nil ?_) | ((with_reducible refine Bi.dec true ?_ ?_); focus exact rfl) | ((with_reducible refine Bi.dec false ?_ ?_); focus exact rfl) | ((with_reducible refine Bi.sdec true ?_ ?_); focus decide) | ((with_reducible refine Bi.sdec false ?_ ?_); focus decide))
        · have e : T.write hd off d = (T, 0, 0) := by unfold Tr.write; simp only [hx, if_neg hm, hg, if_neg (show ¬ off < 0 by omega), if_pos (show d = emp from hd0)]
          rw [e]
          exact ⟨rfl, keep _ E⟩
        have hdpos : 0 < d.size := by
          rcases Nat.eq_zero_or_pos d.size with h1 | h1
          · exact absurd (ba_ext (by
              have : d.data.size = 0 := h1
              rw [Array.size_eq_zero_iff] at this
              rw [this])) hd0
          · exact h1
        (intro J20 hJ20)
        have fin2 : ∀ (a : Int) w_, a = (if andI n.f.mode 1073741824 ≠ 0 then (n.f.data.size : Int) else off) → Hs w0 F w_ (tb X :: mp X.fm (.int .i64) X.fM :: mp X.gm .str X.gM :: mp X.om (.int .i64) X.oM :: nd n.blk n.mn :: KM n :: NT rs :: DT X.ds :: pt q (oc [ptr n.blk, i64 x.mode, str x.user] Ty.tree_handle) :: Pool D :: l) → J20 [i64 a] w_ := by
          intro a w_ ha E
          (repeat first | (with_reducible first | refine Stp.go ?_ | refine StpE.go E ?_ | (refine StpW.go E ?_; clear E; intro w_ E) | (refine StpA.go E ?_; clear E; intro b_ w_ hb_ E) | (apply hJ9; intro u_) | (apply hJ20; intro u_) | (apply hJ24; intro u_) | refine LnL.nil ?_) | ((with_reducible refine Bi.dec true ?_ ?_); focus exact rfl) | ((with_reducible refine Bi.dec false ?_ ?_); focus exact rfl) | ((with_reducible refine Bi.sdec true ?_ ?_); focus decide) | ((with_reducible refine Bi.sdec false ?_ ?_); focus decide))
          clear hJ20
          have ha0 : 0 ≤ a := by rw [ha]; split <;> omega
          (intro J24 hJ24)
          have fin3 : ∀ b w_, b = decide (1048576 < (d.size : Int) ∨ 1048576 - (d.size : Int) < a) → Hs w0 F w_ (tb X :: mp X.fm (.int .i64) X.fM :: mp X.gm .str X.gM :: mp X.om (.int .i64) X.oM :: nd n.blk n.mn :: KM n :: NT rs :: DT X.ds :: pt q (oc [ptr n.blk, i64 x.mode, str x.user] Ty.tree_handle) :: Pool D :: l) → J24 [.bool b] w_ := by
            intro b w_ hb2 E
            (repeat first | (with_reducible first | refine Stp.go ?_ | refine StpE.go E ?_ | (refine StpW.go E ?_; clear E; intro w_ E) | (refine StpA.go E ?_; clear E; intro b_ w_ hb_ E) | (apply hJ9; intro u_) | (apply hJ20; intro u_) | (apply hJ24; intro u_) | refine LnL.nil ?_) | ((with_reducible refine Bi.dec true ?_ ?_); focus exact rfl) | ((with_reducible refine Bi.dec false ?_ ?_); focus exact rfl) | ((with_reducible refine Bi.sdec true ?_ ?_); focus decide) | ((with_reducible refine Bi.sdec false ?_ ?_); focus decide))
            by_cases hlm : 1048576 < (d.size : Int) ∨ 1048576 - (d.size : Int) < a
            · rw [decide_eq_true hlm] at hb2
              subst hb2
              (repeat first | (with_reducible first | refine Stp.go ?_ | refine StpE.go E ?_ | (refine StpW.go E ?_; clear E; intro w_ E) | (refine StpA.go E ?_; clear E; intro b_ w_ hb_ E) | (apply hJ9; intro u_) | (apply hJ20; intro u_) | (apply hJ24; intro u_) | refine LnL.nil ?_) | ((with_reducible refine Bi.dec true ?_ ?_); focus exact rfl) | ((with_reducible refine Bi.dec false ?_ ?_); focus exact rfl) | ((with_reducible refine Bi.sdec true ?_ ?_); focus decide) | ((with_reducible refine Bi.sdec false ?_ ?_); focus decide))
              have e : T.write hd off d = (T, 0, 3) := by unfold Tr.write; simp only [hx, if_neg hm, hg, if_neg (show ¬ off < 0 by omega), if_neg (show ¬ d = emp from hd0)]; rw [← ha, if_pos hlm]
              rw [e]
              exact ⟨rfl, keep _ E⟩
            rw [decide_eq_false hlm] at hb2
            subst hb2
            have e : T.write hd off d = ((T.change x.user [x.file]).upd x.file fun n => { n with data := overW n.data a.toNat d }, (d.size : Int), 0) := by
              unfold Tr.write; simp only [hx, if_neg hm, hg, if_neg (show ¬ off < 0 by omega), if_neg (show ¬ d = emp from hd0)]; rw [← ha, if_neg hlm]
            rw [e]
            (repeat first | (with_reducible first | refine Stp.go ?_ | refine StpE.go E ?_ | (refine StpW.go E ?_; clear E; intro w_ E) | (refine StpA.go E ?_; clear E; intro b_ w_ hb_ E) | (apply hJ9; intro u_) | (apply hJ20; intro u_) | (apply hJ24; intro u_) | refine LnL.nil ?_) | ((with_reducible refine Bi.dec true ?_ ?_); focus exact rfl) | ((with_reducible refine Bi.dec false ?_ ?_); focus exact rfl) | ((with_reducible refine Bi.sdec true ?_ ?_); focus decide) | ((with_reducible refine Bi.sdec false ?_ ?_); focus decide))
            have hrd := (h.data n hn).read E (by simp)
            rw [bts_len] at hrd
            have hsz := (hi.data n.f (h.mem.2 ⟨n, hn, rfl⟩)).2
            refine hrd.len ?_
            (repeat first | (with_reducible first | refine Stp.go ?_ | refine StpE.go E ?_ | (refine StpW.go E ?_; clear E; intro w_ E) | (refine StpA.go E ?_; clear E; intro b_ w_ hb_ E) | (apply hJ9; intro u_) | (apply hJ20; intro u_) | (apply hJ24; intro u_) | refine LnL.nil ?_) | ((with_reducible refine Bi.dec true ?_ ?_); focus exact rfl) | ((with_reducible refine Bi.dec false ?_ ?_); focus exact rfl) | ((with_reducible refine Bi.sdec true ?_ ?_); focus decide) | ((with_reducible refine Bi.sdec false ?_ ?_); focus decide))
            refine Bi.add (by omega) ?_
            refine Mx.mk ?_
            obtain ⟨k, hk⟩ : ∃ k : Nat, k = max n.f.data.size (a.toNat + d.size) := ⟨_, rfl⟩
            have hk2 : (if a + (d.size : Int) > (n.f.data.size : Int) then a + (d.size : Int) else (n.f.data.size : Int)) = (k : Int) := by rw [hk]; split <;> omega
            rw [hk2]
            (replace E := (E.bIx 4))
            have hrd := (h.data n hn).read E.tl (by simp)
            rw [bts_len] at hrd
            refine (resize_ok (m := n.mn) (k := k) (by omega) (bts_scal _) E hrd).mono ?_
            clear E
            rintro r w_ ⟨p, E⟩
            (repeat first | (with_reducible first | refine Stp.go ?_ | refine StpE.go E ?_ | (refine StpW.go E ?_; clear E; intro w_ E) | (refine StpA.go E ?_; clear E; intro b_ w_ hb_ E) | (apply hJ9; intro u_) | (apply hJ20; intro u_) | (apply hJ24; intro u_) | refine LnL.nil ?_) | ((with_reducible refine Bi.dec true ?_ ?_); focus exact rfl) | ((with_reducible refine Bi.dec false ?_ ?_); focus exact rfl) | ((with_reducible refine Bi.sdec true ?_ ?_); focus decide) | ((with_reducible refine Bi.sdec false ?_ ?_); focus decide))
            rw [← bts_sized] at E
            refine ⟨_, _, _, a.toNat, k, rfl, by simp [bnd]; omega, rfl, by omega, Nat.le_refl _, ?_⟩
            rw [if_neg (by omega)]
            simp only [Option.map_some, add_mk, Nat.mul_one, Nat.zero_add]
            replace E := E.bIx 1
            refine Cpy.pt (n := d.size) (m := d.size) (ys := bts d) E u_sl_uint8 s_uint8 (by rfl) (by omega) ((Src.str (P := PP) (w := w_)).cells w_ rfl) (bts_len d) (by rw [bts_len, sized_size]; omega) (bts_scal d) ?_
            clear E
            intro w_ E
            rw [hk, ← bts_over] at E
            rw [← hk] at E
            (repeat first | (with_reducible first | refine Stp.go ?_ | refine StpE.go E ?_ | (refine StpW.go E ?_; clear E; intro w_ E) | (refine StpA.go E ?_; clear E; intro b_ w_ hb_ E) | (apply hJ9; intro u_) | (apply hJ20; intro u_) | (apply hJ24; intro u_) | refine LnL.nil ?_) | ((with_reducible refine Bi.dec true ?_ ?_); focus exact rfl) | ((with_reducible refine Bi.dec false ?_ ?_); focus exact rfl) | ((with_reducible refine Bi.sdec true ?_ ?_); focus decide) | ((with_reducible refine Bi.sdec false ?_ ?_); focus decide))
            replace E := Hs.ptSl (n := k) (by rw [bts_len, over_size, ← hk]) E
            obtain ⟨v, hv⟩ : ∃ v, v = Value.slice (some ⟨p, 0, none⟩) k k := ⟨_, rfl⟩
            rw [← hv] at E
            refine BdS.one E u_sl_p_node e_p_node rfl ?_
            clear E
            intro sv w_ E
            -- the node stands among the others again
            (replace E := (((E.bIx 8).bIx 8).bIx 4))
            replace E := wr_lemma (S := fun m : PN => { m with dv := v, f := { m.f with data := overW m.f.data a.toNat d } }) (n := n) E hnd hpm
            (replace E := ((E.bIx 9).bIx 3))
            replace E := Hs.pool Ty.uint8 E
            (replace E := ((E.bIx 1).bIx 3))
            have hv0 := h.clock
            have hcl := hlim.clock
            have hc0 := hi.clock
            refine (change_ok (X := X) (bs := [n.blk]) (RdS.by1 sv E.tl.tl) ?_ (by omega) ?_ (by simp) E).mono ?_
            · intro b hb
              rw [List.mem_singleton.1 hb, updB_blk]
              · exact List.mem_map.2 ⟨n, hn, rfl⟩
              · intro m; rfl
            · intro m hm
              obtain ⟨m', hm', rfl⟩ := List.mem_map.1 hm
              have h1 := (hi.form m'.f (h.mem.2 ⟨m', hm', rfl⟩)).2.2.2.1
              have h2 := hlim.vers m'.f (h.mem.2 ⟨m', hm', rfl⟩)
              split <;> exact ⟨h1, Int.lt_of_le_of_lt h2 hN⟩
            clear E
            rintro r w_ E
            (repeat first | (with_reducible first | refine Stp.go ?_ | refine StpE.go E ?_ | (refine StpW.go E ?_; clear E; intro w_ E) | (refine StpA.go E ?_; clear E; intro b_ w_ hb_ E) | (apply hJ9; intro u_) | (apply hJ20; intro u_) | (apply hJ24; intro u_) | refine LnL.nil ?_) | ((with_reducible refine Bi.dec true ?_ ?_); focus exact rfl) | ((with_reducible refine Bi.dec false ?_ ?_); focus exact rfl) | ((with_reducible refine Bi.sdec true ?_ ?_); focus decide) | ((with_reducible refine Bi.sdec false ?_ ?_); focus decide))
            refine ⟨rfl, ⟨v, Ty.uint8, bts (overW n.f.data a.toNat d)⟩ :: D, { X with ps := updB X.ps n.blk fun m => PN.touch (X.clock + 1) x.user { m with dv := v, f := { m.f with data := overW m.f.data a.toNat d } }, clock := X.clock + 1 }, β, fun x hx => List.mem_cons_of_mem _ hx, rfl, ?_, ?_⟩
            · have ht := h.upd (D' := ⟨v, Ty.uint8, bts (overW n.f.data a.toNat d)⟩ :: D) hi hnd hn (X.clock + 1) (G := fun m => PN.touch (X.clock + 1) x.user { m with dv := v, f := { m.f with data := overW m.f.data a.toNat d } })
                (g := fun m => { touchN (X.clock + 1) x.user m with data := overW m.data a.toNat d }) (fun _ => ⟨rfl, rfl, rfl⟩) (fun _ => rfl) (fun _ => ⟨rfl, rfl, rfl⟩) (fun x hx => List.mem_cons_of_mem _ hx) (.inr List.mem_cons_self)
              rw [hpath] at ht
              have e2 : (T.change x.user [x.file]).upd x.file (fun n => { n with data := overW n.data a.toNat d }) = { T with ns := updN T.ns x.file (fun m => { touchN (X.clock + 1) x.user m with data := overW m.data a.toNat d }), clock := X.clock + 1 } := by
                rw [change_one, h.clock]
                unfold Tr.upd
                simp only []
                rw [updN_updN (f1 := touchN (T.clock + 1) x.user) (fun n => rfl)]
                rfl
              rw [e2]
              exact ht
            · have e3 : chgB (X.clock + 1) x.user [n.blk] (updB X.ps n.blk fun m => { m with dv := v, f := { m.f with data := overW m.f.data a.toNat d } }) = updB X.ps n.blk fun m => PN.touch (X.clock + 1) x.user { m with dv := v, f := { m.f with data := overW m.f.data a.toNat d } } := updB_updB fun _ => rfl
              rw [e3] at E
              (replace E := (((((((E.bIx 2).bIx 7).bIx 3).bIx 7).bIx 7).bIx 7).bIx 6))
              replace E := Hs.closeT { X with ps := updB X.ps n.blk fun m => PN.touch (X.clock + 1) x.user { m with dv := v, f := { m.f with data := overW m.f.data a.toNat d } }, clock := X.clock + 1 } E
              exact (((E.bIx 2).tl).bIx 2).tl
          clear hJ24
          (repeat first | (with_reducible first | refine Stp.go ?_ | refine StpE.go E ?_ | (refine StpW.go E ?_; clear E; intro w_ E) | (refine StpA.go E ?_; clear E; intro b_ w_ hb_ E) | (apply hJ9; intro u_) | (apply hJ20; intro u_) | (apply hJ24; intro u_) | refine LnL.nil ?_) | ((with_reducible refine Bi.dec true ?_ ?_); focus exact rfl) | ((with_reducible refine Bi.dec false ?_ ?_); focus exact rfl) | ((with_reducible refine Bi.sdec true ?_ ?_); focus decide) | ((with_reducible refine Bi.sdec false ?_ ?_); focus decide))
          refine Bi.gtr ?_ ?_ <;> intro h1 <;> (repeat first | (with_reducible first | refine Stp.go ?_ | refine StpE.go E ?_ | (refine StpW.go E ?_; clear E; intro w_ E) | (refine StpA.go E ?_; clear E; intro b_ w_ hb_ E) | (apply hJ9; intro u_) | (apply hJ20; intro u_) | (apply hJ24; intro u_) | refine LnL.nil ?_) | ((with_reducible refine Bi.dec true ?_ ?_); focus exact rfl) | ((with_reducible refine Bi.dec false ?_ ?_); focus exact rfl) | ((with_reducible refine Bi.sdec true ?_ ?_); focus decide) | ((with_reducible refine Bi.sdec false ?_ ?_); focus decide))
          · exact fin3 _ _ (by simp; omega) E
          · refine Bi.sub (by omega) ?_
            (repeat first | (with_reducible first | refine Stp.go ?_ | refine StpE.go E ?_ | (refine StpW.go E ?_; clear E; intro w_ E) | (refine StpA.go E ?_; clear E; intro b_ w_ hb_ E) | (apply hJ9; intro u_) | (apply hJ20; intro u_) | (apply hJ24; intro u_) | refine LnL.nil ?_) | ((with_reducible refine Bi.dec true ?_ ?_); focus exact rfl) | ((with_reducible refine Bi.dec false ?_ ?_); focus exact rfl) | ((with_reducible refine Bi.sdec true ?_ ?_); focus decide) | ((with_reducible refine Bi.sdec false ?_ ?_); focus decide))
            refine Bi.gtr ?_ ?_ <;> intro h2 <;> (repeat first | (with_reducible first | refine Stp.go ?_ | refine StpE.go E ?_ | (refine StpW.go E ?_; clear E; intro w_ E) | (refine StpA.go E ?_; clear E; intro b_ w_ hb_ E) | (apply hJ9; intro u_) | (apply hJ20; intro u_) | (apply hJ24; intro u_) | refine LnL.nil ?_) | ((with_reducible refine Bi.dec true ?_ ?_); focus exact rfl) | ((with_reducible refine Bi.dec false ?_ ?_); focus exact rfl) | ((with_reducible refine Bi.sdec true ?_ ?_); focus decide) | ((with_reducible refine Bi.sdec false ?_ ?_); focus decide))
            · exact fin3 _ _ (by simp; omega) E
            · exact fin3 _ _ (by simp; omega) E
        clear hJ20
        (repeat first | (with_reducible first | refine Stp.go ?_ | refine StpE.go E ?_ | (refine StpW.go E ?_; clear E; intro w_ E) | (refine StpA.go E ?_; clear E; intro b_ w_ hb_ E) | (apply hJ9; intro u_) | (apply hJ20; intro u_) | (apply hJ24; intro u_) | refine LnL.nil ?_) | ((with_reducible refine Bi.dec true ?_ ?_); focus exact rfl) | ((with_reducible refine Bi.dec false ?_ ?_); focus exact rfl) | ((with_reducible refine Bi.sdec true ?_ ?_); focus decide) | ((with_reducible refine Bi.sdec false ?_ ?_); focus decide))
        refine Bi.neq ?_ ?_ <;> intro h1 <;> (repeat first | (with_reducible first | refine Stp.go ?_ | refine StpE.go E ?_ | (refine StpW.go E ?_; clear E; intro w_ E) | (refine StpA.go E ?_; clear E; intro b_ w_ hb_ E) | (apply hJ9; intro u_) | (apply hJ20; intro u_) | (apply hJ24; intro u_) | refine LnL.nil ?_) | ((with_reducible refine Bi.dec true ?_ ?_); focus exact rfl) | ((with_reducible refine Bi.dec false ?_ ?_); focus exact rfl) | ((with_reducible refine Bi.sdec true ?_ ?_); focus decide) | ((with_reducible refine Bi.sdec false ?_ ?_); focus decide))
        · have hrd := (h.data n hn).read E (by simp)
          rw [bts_len] at hrd
          refine hrd.len ?_
          exact fin2 _ _ (by rw [if_pos h1]) E
        · exact fin2 _ _ (by rw [if_neg (by simpa using h1)]) E
      · replace E := Hs.openD (E.bIx 5) hds
        (repeat first | (with_reducible first | refine Stp.go ?_ | refine StpE.go E ?_ | (refine StpW.go E ?_; clear E; intro w_ E) | (refine StpA.go E ?_; clear E; intro b_ w_ hb_ E) | (apply hJ9; intro u_) | (apply hJ20; intro u_) | (apply hJ24; intro u_) | refine LnL.nil ?_) | ((with_reducible refine Bi.dec true ?_ ?_); focus exact rfl) | ((with_reducible refine Bi.dec false ?_ ?_); focus exact rfl) | ((with_reducible refine Bi.sdec true ?_ ?_); focus decide) | ((with_reducible refine Bi.sdec false ?_ ?_); focus decide))
        rw [hgone]
        (repeat first | (with_reducible first | refine Stp.go ?_ | refine StpE.go E ?_ | (refine StpW.go E ?_; clear E; intro w_ E) | (refine StpA.go E ?_; clear E; intro b_ w_ hb_ E) | (apply hJ9; intro u_) | (apply hJ20; intro u_) | (apply hJ24; intro u_) | refine LnL.nil ?_) | ((with_reducible refine Bi.dec true ?_ ?_); focus exact rfl) | ((with_reducible refine Bi.dec false ?_ ?_); focus exact rfl) | ((with_reducible refine Bi.sdec true ?_ ?_); focus decide) | ((with_reducible refine Bi.sdec false ?_ ?_); focus decide))
        have e : T.write hd off d = (T, 0, 4) := by unfold Tr.write; simp only [hx, if_neg hm, hg]
        rw [e]
        replace E := Hs.closeD E hds
        (replace E := ((((((E.bIx 0).bIx 5).bIx 5).bIx 5).bIx 5).bIx 5))
        exact ⟨rfl, .same h ((Hs.closeT X E).bIx 1).tl⟩
    clear hJ9
    (repeat first | (with_reducible first | refine Stp.go ?_ | refine StpE.go E ?_ | (refine StpW.go E ?_; clear E; intro w_ E) | (refine StpA.go E ?_; clear E; intro b_ w_ hb_ E) | (apply hJ9; intro u_) | (apply hJ20; intro u_) | (apply hJ24; intro u_) | refine LnL.nil ?_) | ((with_reducible refine Bi.dec true ?_ ?_); focus exact rfl) | ((with_reducible refine Bi.dec false ?_ ?_); focus exact rfl) | ((with_reducible refine Bi.sdec true ?_ ?_); focus decide) | ((with_reducible refine Bi.sdec false ?_ ?_); focus decide))
    refine Bi.neq ?_ ?_ <;> intro h1 <;> (repeat first | (with_reducible first | refine Stp.go ?_ | refine StpE.go E ?_ | (refine StpW.go E ?_; clear E; intro w_ E) | (refine StpA.go E ?_; clear E; intro b_ w_ hb_ E) | (apply hJ9; intro u_) | (apply hJ20; intro u_) | (apply hJ24; intro u_) | refine LnL.nil ?_) | ((with_reducible refine Bi.dec true ?_ ?_); focus exact rfl) | ((with_reducible refine Bi.dec false ?_ ?_); focus exact rfl) | ((with_reducible refine Bi.sdec true ?_ ?_); focus decide) | ((with_reducible refine Bi.sdec false ?_ ?_); focus decide))
    · refine Bi.neq ?_ ?_ <;> intro h2 <;> (repeat first | (with_reducible first | refine Stp.go ?_ | refine StpE.go E ?_ | (refine StpW.go E ?_; clear E; intro w_ E) | (refine StpA.go E ?_; clear E; intro b_ w_ hb_ E) | (apply hJ9; intro u_) | (apply hJ20; intro u_) | (apply hJ24; intro u_) | refine LnL.nil ?_) | ((with_reducible refine Bi.dec true ?_ ?_); focus exact rfl) | ((with_reducible refine Bi.dec false ?_ ?_); focus exact rfl) | ((with_reducible refine Bi.sdec true ?_ ?_); focus decide) | ((with_reducible refine Bi.sdec false ?_ ?_); focus decide))
      · exact fin _ _ (by rw [decide_eq_true ⟨h1, h2⟩]) E
      · exact fin _ _ (by rw [decide_eq_false fun hc => hc.2 h2]) E
    · exact fin _ _ (by rw [decide_eq_false fun hc => hc.1 h1]) E
end Go.Proofs.YtnnhmahemklnkaaDoor
