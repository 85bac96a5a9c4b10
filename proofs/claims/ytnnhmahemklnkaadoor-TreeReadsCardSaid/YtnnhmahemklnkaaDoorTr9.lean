/-
  Trees: opening.
-/
import Derived.Test.YtnnhmahemklnkaaDoorTn3
namespace Go.Proofs.YtnnhmahemklnkaaDoor
open Go Go.Sh
set_option maxRecDepth 100000
set_option linter.unusedVariables false
set_option linter.unusedSimpArgs false
variable {w0 w : World} {F : Nat → Prop} {l : List As}
variable {D : List Row} {X : PT} {T : Tr} {β : Int → Nat}

theorem u_arr4 : PP.underlying Ty.f_4_int = some (.array 4 Ty.int) := by kernel_rfl
theorem sc_int : scal PP Ty.int = true := by kernel_rfl
theorem si_int : sizeK PP Ty.int = some 1 := by kernel_rfl
theorem and3 (x : Int) : andI x 3 = 0 ∨ andI x 3 = 1 ∨ andI x 3 = 2 ∨ andI x 3 = 3 := by
  unfold andI
  have h : (BitVec.ofInt 64 x &&& BitVec.ofInt 64 3).toNat ≤ 3 := by
    rw [BitVec.toNat_and]
    exact Nat.and_le_right
  generalize (BitVec.ofInt 64 x &&& BitVec.ofInt 64 3).toNat = n at h
  rcases n with _ | _ | _ | _ | n
  · exact .inl (by decide)
  · exact .inr (.inl (by decide))
  · exact .inr (.inr (.inl (by decide)))
  · exact .inr (.inr (.inr (by decide)))
  · omega
theorem Hs.blkN {ps : List PN} (E : Hs w0 F w l) (hm : NT ps ∈ l) {n : PN} (hn : n ∈ ps) : ∃ cs, w.heap[n.blk]? = some (oc cs Ty.tree_node) := by
  have h1 := (E.sat _ hm).1 (PN.as n) (List.mem_map.2 ⟨n, hn, rfl⟩)
  exact ⟨_, h1.1 (nd n.blk n.mn) List.mem_cons_self⟩
theorem Hs.blkD {ds : List (Nat × MN)} (E : Hs w0 F w l) (hm : DT ds ∈ l) {d : Nat × MN} (hd : d ∈ ds) : ∃ cs, w.heap[d.1]? = some (oc cs Ty.tree_node) :=
  ⟨_, (E.sat _ hm).1 (nd d.1 d.2) (List.mem_map.2 ⟨d, hd, rfl⟩)⟩
/-- The block of a handle's file. -/
theorem hob (h : Tie D X T β) (hi : Inv T) {x : Int × Hd} (hx : x ∈ T.hs) {n : PN} {rs : List PN} (hpm : X.ps.Perm (n :: rs)) (E : Hs w0 F w l) (m1 : nd n.blk n.mn ∈ l) (m2 : NT rs ∈ l) (m3 : DT X.ds ∈ l) : ∃ cs, w.heap[β x.2.file]? = some (oc cs Ty.tree_node) := by
  cases hg : T.get x.2.file with
  | none =>
    obtain ⟨m, hm, _⟩ := h.dead x hx (get_none.1 hg)
    exact Hs.blkD E m3 hm
  | some y =>
    obtain ⟨h1, h2⟩ := hi.get.1 hg
    obtain ⟨k, hk, rfl⟩ := h.mem.1 h1
    rw [← h2, h.bl k hk]
    rcases List.mem_cons.1 (hpm.mem_iff.1 hk) with rfl | hr
    · exact ⟨_, E.sat _ m1⟩
    · exact Hs.blkN E m2 hr
/-- A handle points to a file that is there just where it is that file's. -/
theorem hptr (h : Tie D X T β) (hi : Inv T) (E : Hs w0 F w (trA X :: l)) {n : PN} (hn : n ∈ X.ps) {x : Int × Hd} (hx : x ∈ T.hs) : β x.2.file = n.blk ↔ x.2.file = n.f.path := by
  constructor
  · intro he
    cases hg : T.get x.2.file with
    | none =>
      obtain ⟨m, hm, _⟩ := h.dead x hx (get_none.1 hg)
      have E1 := Hs.openT E
      refine absurd ((E1.bIx 5).bIx 5) fun E2 => ?_
      exact Hs.disj E2 (b := n.blk) ⟨PN.as n, List.mem_map.2 ⟨n, hn, rfl⟩, nd n.blk n.mn, List.mem_cons_self, rfl⟩ ⟨_, List.mem_map.2 ⟨_, hm, rfl⟩, he.symm⟩
    | some y =>
      obtain ⟨h1, h2⟩ := hi.get.1 hg
      obtain ⟨k, hk, rfl⟩ := h.mem.1 h1
      rw [← h2, h.bl k hk] at he
      have hnd := Hs.nodupT E
      have : k = n := by
        have key : ∀ (ps : List PN), (ps.map PN.blk).Nodup → k ∈ ps → n ∈ ps → k = n := by
          intro ps
          induction ps with
          | nil => intro _ h; cases h
          | cons x r ih =>
            intro hp ha hb
            rw [List.map_cons, List.nodup_cons] at hp
            rcases List.mem_cons.1 ha with h1 | ha <;> rcases List.mem_cons.1 hb with h2 | hb
            · rw [h1, h2]
            · exact absurd (List.mem_map.2 ⟨n, hb, by rw [← h1, he]⟩) hp.1
            · exact absurd (List.mem_map.2 ⟨k, ha, by rw [← h2, he]⟩) hp.1
            · exact ih hp.2 ha hb
        exact key _ hnd hk hn
      rw [← h2, this]
  · intro he
    rw [he]; exact h.bl n hn

theorem Open_ok (h : Tie D X T β) (hi : Inv T) {N : Int} (hN : N < 4611686018427387904) (hlim : Lim N T) {file mode : Int} {user : BA} (E : Hs w0 F w (trA X :: Pool D :: l)) :
    Ca PP Fn.tree_Tree_Open #[ptr X.t, str user, i64 file, i64 mode] w fun r w' =>
      r = .tuple #[i64 (T.openF user file mode).2.1, (T.openF user file mode).2.2.1.V, i64 (T.openF user file mode).2.2.2] ∧ Goes w0 F l D X (T.openF user file mode).1 w' := by
  refine S.tree_Tree_Open.calls ?_
  unfold S.tree_Tree_Open
  have hnd := Hs.nodupT E
  (repeat first | (with_reducible first | refine Stp.go ?_ | refine StpE.go E ?_ | (refine StpW.go E ?_; clear E; intro w_ E) | (refine StpA.go E ?_; clear E; intro b_ w_ hb_ E) | (apply hJ20; intro u_) | (apply hJ30; intro u_) | (apply hJ34; intro u_) | (apply hJ58; intro u_) | (apply hJ102; intro u_) | (apply hJ112; intro u_) | refine LnL.nil ?_) | ((with_reducible refine Bi.dec true ?_ ?_); focus exact rfl) | ((with_reducible refine Bi.dec false ?_ ?_); focus exact rfl) | ((with_reducible refine Bi.sdec true ?_ ?_); focus decide) | ((with_reducible refine Bi.sdec false ?_ ?_); focus decide))
  (revert b_; intro q hbq E)
  refine Eq.ef u_p_tree rfl ?_
  (repeat first | (with_reducible first | refine Stp.go ?_ | refine StpE.go E ?_ | (refine StpW.go E ?_; clear E; intro w_ E) | (refine StpA.go E ?_; clear E; intro b_ w_ hb_ E) | (apply hJ20; intro u_) | (apply hJ30; intro u_) | (apply hJ34; intro u_) | (apply hJ58; intro u_) | (apply hJ102; intro u_) | (apply hJ112; intro u_) | refine LnL.nil ?_) | ((with_reducible refine Bi.dec true ?_ ?_); focus exact rfl) | ((with_reducible refine Bi.dec false ?_ ?_); focus exact rfl) | ((with_reducible refine Bi.sdec true ?_ ?_); focus decide) | ((with_reducible refine Bi.sdec false ?_ ?_); focus decide))
  (replace E := (((E.bIx 0).bIx 2).bIx 2))
  refine Bi.neq ?_ ?_ <;> intro c1 <;> (repeat first | (with_reducible first | refine Stp.go ?_ | refine StpE.go E ?_ | (refine StpW.go E ?_; clear E; intro w_ E) | (refine StpA.go E ?_; clear E; intro b_ w_ hb_ E) | (apply hJ20; intro u_) | (apply hJ30; intro u_) | (apply hJ34; intro u_) | (apply hJ58; intro u_) | (apply hJ102; intro u_) | (apply hJ112; intro u_) | refine LnL.nil ?_) | ((with_reducible refine Bi.dec true ?_ ?_); focus exact rfl) | ((with_reducible refine Bi.dec false ?_ ?_); focus exact rfl) | ((with_reducible refine Bi.sdec true ?_ ?_); focus decide) | ((with_reducible refine Bi.sdec false ?_ ?_); focus decide))
  · have e : T.openF user file mode = (T, 0, q0, 20) := by unfold Tr.openF; rw [if_pos c1]
    rw [e]
    exact ⟨rfl, .same h (E.bIx 2).tl⟩
  have c1 : ¬ clrI mode 83 ≠ 0 := fun hc => hc c1
  rcases h.find hi file with ⟨h1, h2⟩ | ⟨n, rs, hpm, hn, hpath, h1, h2⟩
  · replace E := Hs.openT E
    refine (find_ok E).mono ?_
    clear E
    rintro r w_ ⟨rfl, E⟩
    rw [h2]
    unfold findV
    (repeat first | (with_reducible first | refine Stp.go ?_ | refine StpE.go E ?_ | (refine StpW.go E ?_; clear E; intro w_ E) | (refine StpA.go E ?_; clear E; intro b_ w_ hb_ E) | (apply hJ20; intro u_) | (apply hJ30; intro u_) | (apply hJ34; intro u_) | (apply hJ58; intro u_) | (apply hJ102; intro u_) | (apply hJ112; intro u_) | refine LnL.nil ?_) | ((with_reducible refine Bi.dec true ?_ ?_); focus exact rfl) | ((with_reducible refine Bi.dec false ?_ ?_); focus exact rfl) | ((with_reducible refine Bi.sdec true ?_ ?_); focus decide) | ((with_reducible refine Bi.sdec false ?_ ?_); focus decide))
    have e : T.openF user file mode = (T, 0, q0, 4) := by unfold Tr.openF; rw [if_neg c1]; simp only [h1]
    rw [e]
    exact ⟨rfl, .same h ((Hs.closeT X E).bIx 2).tl⟩
  have hptr1 := fun (x : Int × Hd) (hx : x ∈ T.hs) => hptr h hi E hn hx
  replace E := Hs.openTN hpm E
  have keep : ∀ w, Hs w0 F w (tb X :: mp X.fm (.int .i64) X.fM :: mp X.gm .str X.gM :: mp X.om (.int .i64) X.oM :: nd n.blk n.mn :: KM n :: NT rs :: DT X.ds :: Pool D :: qd0 q :: l) → Goes w0 F l D X T w :=
    fun w E => .same h ((Hs.closeTN X n hpm E).bIx 2).tl
  refine (find_ok E).mono ?_
  clear E
  rintro r w_ ⟨rfl, E⟩
  rw [h2]
  unfold findV
  subst hpath
  (repeat first | (with_reducible first | refine Stp.go ?_ | refine StpE.go E ?_ | (refine StpW.go E ?_; clear E; intro w_ E) | (refine StpA.go E ?_; clear E; intro b_ w_ hb_ E) | (apply hJ20; intro u_) | (apply hJ30; intro u_) | (apply hJ34; intro u_) | (apply hJ58; intro u_) | (apply hJ102; intro u_) | (apply hJ112; intro u_) | refine LnL.nil ?_) | ((with_reducible refine Bi.dec true ?_ ?_); focus exact rfl) | ((with_reducible refine Bi.dec false ?_ ?_); focus exact rfl) | ((with_reducible refine Bi.sdec true ?_ ?_); focus decide) | ((with_reducible refine Bi.sdec false ?_ ?_); focus decide))
  (intro J20 hJ20)
  have fin20 : ∀ b w_, b = decide (n.f.dir = true ∧ mode ≠ 0) → Hs w0 F w_ (tb X :: mp X.fm (.int .i64) X.fM :: mp X.gm .str X.gM :: mp X.om (.int .i64) X.oM :: nd n.blk n.mn :: KM n :: NT rs :: DT X.ds :: Pool D :: qd0 q :: l) → J20 [.bool b] w_ := by
    intro b w_ hb E
    (repeat first | (with_reducible first | refine Stp.go ?_ | refine StpE.go E ?_ | (refine StpW.go E ?_; clear E; intro w_ E) | (refine StpA.go E ?_; clear E; intro b_ w_ hb_ E) | (apply hJ20; intro u_) | (apply hJ30; intro u_) | (apply hJ34; intro u_) | (apply hJ58; intro u_) | (apply hJ102; intro u_) | (apply hJ112; intro u_) | refine LnL.nil ?_) | ((with_reducible refine Bi.dec true ?_ ?_); focus exact rfl) | ((with_reducible refine Bi.dec false ?_ ?_); focus exact rfl) | ((with_reducible refine Bi.sdec true ?_ ?_); focus decide) | ((with_reducible refine Bi.sdec false ?_ ?_); focus decide))
    by_cases c2 : n.f.dir = true ∧ mode ≠ 0
    · rw [decide_eq_true c2] at hb
      subst hb
      (repeat first | (with_reducible first | refine Stp.go ?_ | refine StpE.go E ?_ | (refine StpW.go E ?_; clear E; intro w_ E) | (refine StpA.go E ?_; clear E; intro b_ w_ hb_ E) | (apply hJ20; intro u_) | (apply hJ30; intro u_) | (apply hJ34; intro u_) | (apply hJ58; intro u_) | (apply hJ102; intro u_) | (apply hJ112; intro u_) | refine LnL.nil ?_) | ((with_reducible refine Bi.dec true ?_ ?_); focus exact rfl) | ((with_reducible refine Bi.dec false ?_ ?_); focus exact rfl) | ((with_reducible refine Bi.sdec true ?_ ?_); focus decide) | ((with_reducible refine Bi.sdec false ?_ ?_); focus decide))
      have e : T.openF user n.f.path mode = (T, 0, q0, 18) := by unfold Tr.openF; rw [if_neg c1]; simp only [h1, if_pos c2]
      rw [e]
      exact ⟨rfl, keep _ E⟩
    rw [decide_eq_false c2] at hb
    subst hb
    (repeat first | (with_reducible first | refine Stp.go ?_ | refine StpE.go E ?_ | (refine StpW.go E ?_; clear E; intro w_ E) | (refine StpA.go E ?_; clear E; intro b_ w_ hb_ E) | (apply hJ20; intro u_) | (apply hJ30; intro u_) | (apply hJ34; intro u_) | (apply hJ58; intro u_) | (apply hJ102; intro u_) | (apply hJ112; intro u_) | refine LnL.nil ?_) | ((with_reducible refine Bi.dec true ?_ ?_); focus exact rfl) | ((with_reducible refine Bi.dec false ?_ ?_); focus exact rfl) | ((with_reducible refine Bi.sdec true ?_ ?_); focus decide) | ((with_reducible refine Bi.sdec false ?_ ?_); focus decide))
    clear hJ20
    refine BdA.mk (cs := #[.int .i64 4, .int .i64 2, .int .i64 6, .int .i64 1]) rfl ?_
    (repeat first | (with_reducible first | refine Stp.go ?_ | refine StpE.go E ?_ | (refine StpW.go E ?_; clear E; intro w_ E) | (refine StpA.go E ?_; clear E; intro b_ w_ hb_ E) | (apply hJ20; intro u_) | (apply hJ30; intro u_) | (apply hJ34; intro u_) | (apply hJ58; intro u_) | (apply hJ102; intro u_) | (apply hJ112; intro u_) | refine LnL.nil ?_) | ((with_reducible refine Bi.dec true ?_ ?_); focus exact rfl) | ((with_reducible refine Bi.dec false ?_ ?_); focus exact rfl) | ((with_reducible refine Bi.sdec true ?_ ?_); focus decide) | ((with_reducible refine Bi.sdec false ?_ ?_); focus decide))
    have hm3 := and3 mode
    refine Ix.arr (cs := [.int .i64 4, .int .i64 2, .int .i64 6, .int .i64 1]) u_arr4 sc_int si_int (by omega) (by omega) (v := i64 (if andI mode 3 = 0 then 4 else if andI mode 3 = 1 then 2 else if andI mode 3 = 2 then 6 else 1)) (by rcases hm3 with h | h | h | h <;> rw [h] <;> rfl) ?_
    (intro J30 hJ30)
    have fin30 : ∀ w_, Hs w0 F w_ (tb X :: mp X.fm (.int .i64) X.fM :: mp X.gm .str X.gM :: mp X.om (.int .i64) X.oM :: nd n.blk n.mn :: KM n :: NT rs :: DT X.ds :: Pool D :: qd0 q :: l) → J30 [i64 (needs mode)] w_ := by
      intro w_ E
      (repeat first | (with_reducible first | refine Stp.go ?_ | refine StpE.go E ?_ | (refine StpW.go E ?_; clear E; intro w_ E) | (refine StpA.go E ?_; clear E; intro b_ w_ hb_ E) | (apply hJ20; intro u_) | (apply hJ30; intro u_) | (apply hJ34; intro u_) | (apply hJ58; intro u_) | (apply hJ102; intro u_) | (apply hJ112; intro u_) | refine LnL.nil ?_) | ((with_reducible refine Bi.dec true ?_ ?_); focus exact rfl) | ((with_reducible refine Bi.dec false ?_ ?_); focus exact rfl) | ((with_reducible refine Bi.sdec true ?_ ?_); focus decide) | ((with_reducible refine Bi.sdec false ?_ ?_); focus decide))
      clear hJ30
      (intro J34 hJ34)
      have fin34 : ∀ b w_, b = decide (T.may user n.f (needs mode) = false ∨ (andI mode 64 ≠ 0 ∧ T.may user (T.parent n.f) 2 = false)) → Hs w0 F w_ (tb X :: mp X.fm (.int .i64) X.fM :: mp X.gm .str X.gM :: mp X.om (.int .i64) X.oM :: nd n.blk n.mn :: KM n :: NT rs :: DT X.ds :: Pool D :: qd0 q :: l) → J34 [.bool b] w_ := by
        intro b w_ hb E
        (repeat first | (with_reducible first | refine Stp.go ?_ | refine StpE.go E ?_ | (refine StpW.go E ?_; clear E; intro w_ E) | (refine StpA.go E ?_; clear E; intro b_ w_ hb_ E) | (apply hJ20; intro u_) | (apply hJ30; intro u_) | (apply hJ34; intro u_) | (apply hJ58; intro u_) | (apply hJ102; intro u_) | (apply hJ112; intro u_) | refine LnL.nil ?_) | ((with_reducible refine Bi.dec true ?_ ?_); focus exact rfl) | ((with_reducible refine Bi.dec false ?_ ?_); focus exact rfl) | ((with_reducible refine Bi.sdec true ?_ ?_); focus decide) | ((with_reducible refine Bi.sdec false ?_ ?_); focus decide))
        by_cases c3 : T.may user n.f (needs mode) = false ∨ (andI mode 64 ≠ 0 ∧ T.may user (T.parent n.f) 2 = false)
        · rw [decide_eq_true c3] at hb
          subst hb
          (repeat first | (with_reducible first | refine Stp.go ?_ | refine StpE.go E ?_ | (refine StpW.go E ?_; clear E; intro w_ E) | (refine StpA.go E ?_; clear E; intro b_ w_ hb_ E) | (apply hJ20; intro u_) | (apply hJ30; intro u_) | (apply hJ34; intro u_) | (apply hJ58; intro u_) | (apply hJ102; intro u_) | (apply hJ112; intro u_) | refine LnL.nil ?_) | ((with_reducible refine Bi.dec true ?_ ?_); focus exact rfl) | ((with_reducible refine Bi.dec false ?_ ?_); focus exact rfl) | ((with_reducible refine Bi.sdec true ?_ ?_); focus decide) | ((with_reducible refine Bi.sdec false ?_ ?_); focus decide))
          have e : T.openF user n.f.path mode = (T, 0, q0, 17) := by unfold Tr.openF; rw [if_neg c1]; simp only [h1, if_neg c2, if_pos c3]
          rw [e]
          exact ⟨rfl, keep _ E⟩
        rw [decide_eq_false c3] at hb
        subst hb
        (repeat first | (with_reducible first | refine Stp.go ?_ | refine StpE.go E ?_ | (refine StpW.go E ?_; clear E; intro w_ E) | (refine StpA.go E ?_; clear E; intro b_ w_ hb_ E) | (apply hJ20; intro u_) | (apply hJ30; intro u_) | (apply hJ34; intro u_) | (apply hJ58; intro u_) | (apply hJ102; intro u_) | (apply hJ112; intro u_) | refine LnL.nil ?_) | ((with_reducible refine Bi.dec true ?_ ?_); focus exact rfl) | ((with_reducible refine Bi.dec false ?_ ?_); focus exact rfl) | ((with_reducible refine Bi.sdec true ?_ ?_); focus decide) | ((with_reducible refine Bi.sdec false ?_ ?_); focus decide))
        clear hJ34
        refine Rg.mp (m := X.om) E u_mopen ?_
        clear E
        intro it es clock w_ hit hes hw hok E
        refine ⟨fun l1 w1 => l1 = [] ∧ ∃ ms, Wlk es clock ms ∧ (∀ e ∈ ms, andI n.f.mode 536870912 ≠ 0 → ∀ hv, e.val = HV.V hv → hv.blk ≠ n.blk) ∧
          Hs w0 F w1 (pt it (itO X.om clock ms) :: pt X.om (mapO es clock) :: tb X :: mp X.fm (.int .i64) X.fM :: mp X.gm .str X.gM :: nd n.blk n.mn :: KM n :: NT rs :: DT X.ds :: Pool D :: qd0 q :: l), fun _ w1 => itM it (es.size + 1) w1, ⟨rfl, [], hw, (fun _ h => by cases h), E⟩, ?_⟩
        clear E hw
        rintro u w1 ⟨-, ms, hw, hno, E⟩
        refine Nx.mp E hw ?_ ?_
        · intro e w_ he hn2 hw2 E2
          have hm : itM it (es.size + 1) w1 = es.size + 1 - ms.length := itM_eq E
          have hle := hw2.le
          simp only [List.length_append, List.length_cons, List.length_nil] at hle
          clear E
          have E := E2
          clear E2
          (repeat first | (with_reducible first | refine Stp.go ?_ | refine StpE.go E ?_ | (refine StpW.go E ?_; clear E; intro w_ E) | (refine StpA.go E ?_; clear E; intro b_ w_ hb_ E) | (apply hJ20; intro u_) | (apply hJ30; intro u_) | (apply hJ34; intro u_) | (apply hJ58; intro u_) | (apply hJ102; intro u_) | (apply hJ112; intro u_) | refine LnL.nil ?_) | ((with_reducible refine Bi.dec true ?_ ?_); focus exact rfl) | ((with_reducible refine Bi.dec false ?_ ?_); focus exact rfl) | ((with_reducible refine Bi.sdec true ?_ ?_); focus decide) | ((with_reducible refine Bi.sdec false ?_ ?_); focus decide))
          refine Ent.mp E hw2 ?_
          have hmem : (e.key, e.val) ∈ X.oM := by rw [← hes]; exact List.mem_map.2 ⟨e, he, rfl⟩
          obtain ⟨y, hy, hye⟩ := List.mem_map.1 hmem
          obtain ⟨x, hx, hxe⟩ := List.mem_map.1 (h.ol.mem_iff.1 hy)
          have hval : e.val = HV.V ⟨β x.2.file, x.2.mode, x.2.user⟩ := by
            have := congrArg Prod.snd hye
            rw [← hxe] at this
            exact this.symm
          rw [hval]
          (repeat first | (with_reducible first | refine Stp.go ?_ | refine StpE.go E ?_ | (refine StpW.go E ?_; clear E; intro w_ E) | (refine StpA.go E ?_; clear E; intro b_ w_ hb_ E) | (apply hJ20; intro u_) | (apply hJ30; intro u_) | (apply hJ34; intro u_) | (apply hJ58; intro u_) | (apply hJ102; intro u_) | (apply hJ112; intro u_) | refine LnL.nil ?_) | ((with_reducible refine Bi.dec true ?_ ?_); focus exact rfl) | ((with_reducible refine Bi.dec false ?_ ?_); focus exact rfl) | ((with_reducible refine Bi.sdec true ?_ ?_); focus decide) | ((with_reducible refine Bi.sdec false ?_ ?_); focus decide))
          (revert b_; intro t hbt E)
          (intro J58 hJ58)
          have fin58 : ∀ b w_, b = decide (x.2.file = n.f.path ∧ andI n.f.mode 536870912 ≠ 0) → Hs w0 F w_ (pt t (oc [ptr (β x.2.file), i64 x.2.mode, str x.2.user] Ty.tree_handle) :: pt it (itO X.om clock (ms ++ [e])) :: pt X.om (mapO es clock) :: tb X :: mp X.fm (.int .i64) X.fM :: mp X.gm .str X.gM :: nd n.blk n.mn :: KM n :: NT rs :: DT X.ds :: Pool D :: qd0 q :: l) → J58 [.bool b] w_ := by
            intro b w_ hb E
            (repeat first | (with_reducible first | refine Stp.go ?_ | refine StpE.go E ?_ | (refine StpW.go E ?_; clear E; intro w_ E) | (refine StpA.go E ?_; clear E; intro b_ w_ hb_ E) | (apply hJ20; intro u_) | (apply hJ30; intro u_) | (apply hJ34; intro u_) | (apply hJ58; intro u_) | (apply hJ102; intro u_) | (apply hJ112; intro u_) | refine LnL.nil ?_) | ((with_reducible refine Bi.dec true ?_ ?_); focus exact rfl) | ((with_reducible refine Bi.dec false ?_ ?_); focus exact rfl) | ((with_reducible refine Bi.sdec true ?_ ?_); focus decide) | ((with_reducible refine Bi.sdec false ?_ ?_); focus decide))
            by_cases c4 : x.2.file = n.f.path ∧ andI n.f.mode 536870912 ≠ 0
            · rw [decide_eq_true c4] at hb
              subst hb
              (repeat first | (with_reducible first | refine Stp.go ?_ | refine StpE.go E ?_ | (refine StpW.go E ?_; clear E; intro w_ E) | (refine StpA.go E ?_; clear E; intro b_ w_ hb_ E) | (apply hJ20; intro u_) | (apply hJ30; intro u_) | (apply hJ34; intro u_) | (apply hJ58; intro u_) | (apply hJ102; intro u_) | (apply hJ112; intro u_) | refine LnL.nil ?_) | ((with_reducible refine Bi.dec true ?_ ?_); focus exact rfl) | ((with_reducible refine Bi.dec false ?_ ?_); focus exact rfl) | ((with_reducible refine Bi.sdec true ?_ ?_); focus decide) | ((with_reducible refine Bi.sdec false ?_ ?_); focus decide))
              have e : T.openF user n.f.path mode = (T, 0, q0, 19) := by unfold Tr.openF; rw [if_neg c1]; simp only [h1, if_neg c2, if_neg c3]; rw [if_pos ⟨c4.2, x, hx, c4.1⟩]
              rw [e]
              replace E := Hs.mapBack (m := X.om) E.tl hes hw2 hok
              replace E := (E.bIx 1).tl
              (replace E := ((((E.bIx 0).bIx 3).bIx 3).bIx 3))
              exact ⟨rfl, keep _ E⟩
            · rw [decide_eq_false c4] at hb
              subst hb
              (repeat first | (with_reducible first | refine Stp.go ?_ | refine StpE.go E ?_ | (refine StpW.go E ?_; clear E; intro w_ E) | (refine StpA.go E ?_; clear E; intro b_ w_ hb_ E) | (apply hJ20; intro u_) | (apply hJ30; intro u_) | (apply hJ34; intro u_) | (apply hJ58; intro u_) | (apply hJ102; intro u_) | (apply hJ112; intro u_) | refine LnL.nil ?_) | ((with_reducible refine Bi.dec true ?_ ?_); focus exact rfl) | ((with_reducible refine Bi.dec false ?_ ?_); focus exact rfl) | ((with_reducible refine Bi.sdec true ?_ ?_); focus decide) | ((with_reducible refine Bi.sdec false ?_ ?_); focus decide))
              refine ⟨⟨rfl, _, hw2, ?_, E.tl⟩, ?_⟩
              · intro e' he' hex hv hev
                rcases List.mem_append.1 he' with h' | h'
                · exact hno e' h' hex hv hev
                · rw [List.mem_singleton.1 h', hval] at hev
                  have : hv.blk = β x.2.file := by
                    simp only [HV.V, Value.agg.injEq, Array.mk.injEq, List.cons.injEq, Value.pointer.injEq, Option.some.injEq, Addr.mk.injEq] at hev
                    exact hev.1.1.symm
                  rw [this]
                  exact fun hc => c4 ⟨(hptr1 x hx).1 hc, hex⟩
              · show itM it (es.size + 1) w_ < itM it (es.size + 1) w1
                rw [hm, itM_eq E.tl]
                simp; omega
          clear hJ58
          obtain ⟨cs1, ho1⟩ := hob h hi hx hpm E (by simp) (by simp) (by simp)
          have ho2 : w_.heap[n.blk]? = some (oc n.mn.C Ty.tree_node) := E.sat (nd n.blk n.mn) (by simp)
          (repeat first | (with_reducible first | refine Stp.go ?_ | refine StpE.go E ?_ | (refine StpW.go E ?_; clear E; intro w_ E) | (refine StpA.go E ?_; clear E; intro b_ w_ hb_ E) | (apply hJ20; intro u_) | (apply hJ30; intro u_) | (apply hJ34; intro u_) | (apply hJ58; intro u_) | (apply hJ102; intro u_) | (apply hJ112; intro u_) | refine LnL.nil ?_) | ((with_reducible refine Bi.dec true ?_ ?_); focus exact rfl) | ((with_reducible refine Bi.dec false ?_ ?_); focus exact rfl) | ((with_reducible refine Bi.sdec true ?_ ?_); focus decide) | ((with_reducible refine Bi.sdec false ?_ ?_); focus decide))
          refine Eq.pp u_p_node n_node ho1 ho2 ?_
          by_cases c5 : β x.2.file = n.blk
          · rw [decide_eq_true (by rw [c5])]
            (repeat first | (with_reducible first | refine Stp.go ?_ | refine StpE.go E ?_ | (refine StpW.go E ?_; clear E; intro w_ E) | (refine StpA.go E ?_; clear E; intro b_ w_ hb_ E) | (apply hJ20; intro u_) | (apply hJ30; intro u_) | (apply hJ34; intro u_) | (apply hJ58; intro u_) | (apply hJ102; intro u_) | (apply hJ112; intro u_) | refine LnL.nil ?_) | ((with_reducible refine Bi.dec true ?_ ?_); focus exact rfl) | ((with_reducible refine Bi.dec false ?_ ?_); focus exact rfl) | ((with_reducible refine Bi.sdec true ?_ ?_); focus decide) | ((with_reducible refine Bi.sdec false ?_ ?_); focus decide))
            refine Bi.neq ?_ ?_ <;> intro c6 <;> (repeat first | (with_reducible first | refine Stp.go ?_ | refine StpE.go E ?_ | (refine StpW.go E ?_; clear E; intro w_ E) | (refine StpA.go E ?_; clear E; intro b_ w_ hb_ E) | (apply hJ20; intro u_) | (apply hJ30; intro u_) | (apply hJ34; intro u_) | (apply hJ58; intro u_) | (apply hJ102; intro u_) | (apply hJ112; intro u_) | refine LnL.nil ?_) | ((with_reducible refine Bi.dec true ?_ ?_); focus exact rfl) | ((with_reducible refine Bi.dec false ?_ ?_); focus exact rfl) | ((with_reducible refine Bi.sdec true ?_ ?_); focus decide) | ((with_reducible refine Bi.sdec false ?_ ?_); focus decide))
            · exact fin58 _ _ (by rw [decide_eq_true ⟨(hptr1 x hx).1 c5, c6⟩]) E
            · exact fin58 _ _ (by rw [decide_eq_false fun hc => hc.2 c6]) E
          · rw [decide_eq_false fun hc => c5 (by simpa using hc)]
            (repeat first | (with_reducible first | refine Stp.go ?_ | refine StpE.go E ?_ | (refine StpW.go E ?_; clear E; intro w_ E) | (refine StpA.go E ?_; clear E; intro b_ w_ hb_ E) | (apply hJ20; intro u_) | (apply hJ30; intro u_) | (apply hJ34; intro u_) | (apply hJ58; intro u_) | (apply hJ102; intro u_) | (apply hJ112; intro u_) | refine LnL.nil ?_) | ((with_reducible refine Bi.dec true ?_ ?_); focus exact rfl) | ((with_reducible refine Bi.dec false ?_ ?_); focus exact rfl) | ((with_reducible refine Bi.sdec true ?_ ?_); focus decide) | ((with_reducible refine Bi.sdec false ?_ ?_); focus decide))
            exact fin58 _ _ (by rw [decide_eq_false fun hc => c5 ((hptr1 x hx).2 hc.1)]) E
        · intro hp
          (repeat first | (with_reducible first | refine Stp.go ?_ | refine StpE.go E ?_ | (refine StpW.go E ?_; clear E; intro w_ E) | (refine StpA.go E ?_; clear E; intro b_ w_ hb_ E) | (apply hJ20; intro u_) | (apply hJ30; intro u_) | (apply hJ34; intro u_) | (apply hJ58; intro u_) | (apply hJ102; intro u_) | (apply hJ112; intro u_) | refine LnL.nil ?_) | ((with_reducible refine Bi.dec true ?_ ?_); focus exact rfl) | ((with_reducible refine Bi.dec false ?_ ?_); focus exact rfl) | ((with_reducible refine Bi.sdec true ?_ ?_); focus decide) | ((with_reducible refine Bi.sdec false ?_ ?_); focus decide))
          have c4 : ¬ (andI n.f.mode 536870912 ≠ 0 ∧ ∃ x ∈ T.hs, x.2.file = n.f.path) := by
            rintro ⟨hex, x, hx, hxf⟩
            have h2 : (x.1, (⟨β x.2.file, x.2.mode, x.2.user⟩ : HV)) ∈ X.ol := h.ol.mem_iff.2 (List.mem_map.2 ⟨x, hx, rfl⟩)
            have h3 : (i64 x.1, HV.V ⟨β x.2.file, x.2.mode, x.2.user⟩) ∈ X.oM := List.mem_map.2 ⟨_, h2, rfl⟩
            rw [← hes] at h3
            obtain ⟨e, he, hee⟩ := List.mem_map.1 h3
            exact hno e (hp.mem_iff.1 he) hex _ (congrArg Prod.snd hee) ((hptr1 x hx).2 hxf)
          replace E := Hs.mapBack (m := X.om) E hes hw hok
          replace E := (E.bIx 1).tl
          (replace E := ((((E.bIx 0).bIx 3).bIx 3).bIx 3))
          refine (room_ok E).mono ?_
          clear E
          rintro r w_ ⟨rfl, E⟩
          have hlen := h.len
          by_cases c5 : X.ol.length < 64
          rotate_left
          · rw [decide_eq_false c5]
            (repeat first | (with_reducible first | refine Stp.go ?_ | refine StpE.go E ?_ | (refine StpW.go E ?_; clear E; intro w_ E) | (refine StpA.go E ?_; clear E; intro b_ w_ hb_ E) | (apply hJ20; intro u_) | (apply hJ30; intro u_) | (apply hJ34; intro u_) | (apply hJ58; intro u_) | (apply hJ102; intro u_) | (apply hJ112; intro u_) | refine LnL.nil ?_) | ((with_reducible refine Bi.dec true ?_ ?_); focus exact rfl) | ((with_reducible refine Bi.dec false ?_ ?_); focus exact rfl) | ((with_reducible refine Bi.sdec true ?_ ?_); focus decide) | ((with_reducible refine Bi.sdec false ?_ ?_); focus decide))
            have e : T.openF user n.f.path mode = (T, 0, q0, 3) := by unfold Tr.openF; rw [if_neg c1]; simp only [h1, if_neg c2, if_neg c3, if_neg c4]; rw [if_pos (by omega)]
            rw [e]
            exact ⟨rfl, keep _ E⟩
          rw [decide_eq_true c5]
          (repeat first | (with_reducible first | refine Stp.go ?_ | refine StpE.go E ?_ | (refine StpW.go E ?_; clear E; intro w_ E) | (refine StpA.go E ?_; clear E; intro b_ w_ hb_ E) | (apply hJ20; intro u_) | (apply hJ30; intro u_) | (apply hJ34; intro u_) | (apply hJ58; intro u_) | (apply hJ102; intro u_) | (apply hJ112; intro u_) | refine LnL.nil ?_) | ((with_reducible refine Bi.dec true ?_ ?_); focus exact rfl) | ((with_reducible refine Bi.dec false ?_ ?_); focus exact rfl) | ((with_reducible refine Bi.sdec true ?_ ?_); focus decide) | ((with_reducible refine Bi.sdec false ?_ ?_); focus decide))
          have c5' : ¬ ¬ T.hs.length < 64 := by omega
          (intro J102 hJ102)
          have fin102 : ∀ (X1 : PT) (T1 : Tr) (n1 : PN) w_, X1.t = X.t → X1.om = X.om → X1.ol = X.ol → Tie D X1 T1 β → Inv T1 → X1.ps.Perm (n1 :: rs) → n1.blk = n.blk → n1.f.path = n.f.path →
              T.openF user n.f.path mode = ((T1.hold ⟨n.f.path, mode, user⟩).1, (T1.hold ⟨n.f.path, mode, user⟩).2, n1.f.qid, 0) →
              Hs w0 F w_ (tb X1 :: mp X1.fm (.int .i64) X1.fM :: mp X1.gm .str X1.gM :: mp X1.om (.int .i64) X1.oM :: nd n1.blk n1.mn :: KM n1 :: NT rs :: DT X1.ds :: Pool D :: qd0 q :: l) → J102 [] w_ := by
            intro X1 T1 n1 w_ e1 e2 e3 ht1 hi1 hpm1 e4 e5 e6 E
            (repeat first | (with_reducible first | refine Stp.go ?_ | refine StpE.go E ?_ | (refine StpW.go E ?_; clear E; intro w_ E) | (refine StpA.go E ?_; clear E; intro b_ w_ hb_ E) | (apply hJ20; intro u_) | (apply hJ30; intro u_) | (apply hJ34; intro u_) | (apply hJ58; intro u_) | (apply hJ102; intro u_) | (apply hJ112; intro u_) | refine LnL.nil ?_) | ((with_reducible refine Bi.dec true ?_ ?_); focus exact rfl) | ((with_reducible refine Bi.dec false ?_ ?_); focus exact rfl) | ((with_reducible refine Bi.sdec true ?_ ?_); focus decide) | ((with_reducible refine Bi.sdec false ?_ ?_); focus decide))
            clear hJ102
            (replace E := (((E.bIx 4).bIx 4).bIx 2))
            rw [← e1, ← e4]
            refine (handle_ok (m := n1.mn) (by rw [e3]; omega) E).mono ?_
            clear E
            rintro r w_ ⟨hh, hfree, rfl, E⟩
            (repeat first | (with_reducible first | refine Stp.go ?_ | refine StpE.go E ?_ | (refine StpW.go E ?_; clear E; intro w_ E) | (refine StpA.go E ?_; clear E; intro b_ w_ hb_ E) | (apply hJ20; intro u_) | (apply hJ30; intro u_) | (apply hJ34; intro u_) | (apply hJ58; intro u_) | (apply hJ102; intro u_) | (apply hJ112; intro u_) | refine LnL.nil ?_) | ((with_reducible refine Bi.dec true ?_ ?_); focus exact rfl) | ((with_reducible refine Bi.dec false ?_ ?_); focus exact rfl) | ((with_reducible refine Bi.sdec true ?_ ?_); focus decide) | ((with_reducible refine Bi.sdec false ?_ ?_); focus decide))
            obtain ⟨g1, g2⟩ := ht1.hold hi1 hfree (n := n1) (hpm1.mem_iff.2 List.mem_cons_self) (mode := mode) (user := user)
            rw [e5] at g1 g2
            rw [e6]
            refine ⟨by rw [← g1]; rfl, D, { X1 with ol := putL X1.ol hh ⟨n1.blk, mode, user⟩ }, β, fun _ h => h, e1.symm ▸ rfl, g2, ?_⟩
            (replace E := (((((((((E.bIx 8).bIx 8).bIx 8).bIx 8).bIx 6).bIx 6).bIx 8).bIx 8).bIx 8))
            exact ((Hs.closeTN { X1 with ol := putL X1.ol hh ⟨n1.blk, mode, user⟩ } n1 hpm1 E).bIx 2).tl
          clear hJ102
          (intro J112 hJ112)
          have fin112 : ∀ b w_, b = decide (andI mode 16 ≠ 0 ∧ andI n.f.mode 1073741824 = 0) → Hs w0 F w_ (tb X :: mp X.fm (.int .i64) X.fM :: mp X.gm .str X.gM :: mp X.om (.int .i64) X.oM :: nd n.blk n.mn :: KM n :: NT rs :: DT X.ds :: Pool D :: qd0 q :: l) → J112 [.bool b] w_ := by
            intro b w_ hb E
            (repeat first | (with_reducible first | refine Stp.go ?_ | refine StpE.go E ?_ | (refine StpW.go E ?_; clear E; intro w_ E) | (refine StpA.go E ?_; clear E; intro b_ w_ hb_ E) | (apply hJ20; intro u_) | (apply hJ30; intro u_) | (apply hJ34; intro u_) | (apply hJ58; intro u_) | (apply hJ102; intro u_) | (apply hJ112; intro u_) | refine LnL.nil ?_) | ((with_reducible refine Bi.dec true ?_ ?_); focus exact rfl) | ((with_reducible refine Bi.dec false ?_ ?_); focus exact rfl) | ((with_reducible refine Bi.sdec true ?_ ?_); focus decide) | ((with_reducible refine Bi.sdec false ?_ ?_); focus decide))
            clear hJ112
            by_cases c6 : andI mode 16 ≠ 0 ∧ andI n.f.mode 1073741824 = 0
            rotate_left
            · rw [decide_eq_false c6] at hb
              subst hb
              (repeat first | (with_reducible first | refine Stp.go ?_ | refine StpE.go E ?_ | (refine StpW.go E ?_; clear E; intro w_ E) | (refine StpA.go E ?_; clear E; intro b_ w_ hb_ E) | (apply hJ20; intro u_) | (apply hJ30; intro u_) | (apply hJ34; intro u_) | (apply hJ58; intro u_) | (apply hJ102; intro u_) | (apply hJ112; intro u_) | refine LnL.nil ?_) | ((with_reducible refine Bi.dec true ?_ ?_); focus exact rfl) | ((with_reducible refine Bi.dec false ?_ ?_); focus exact rfl) | ((with_reducible refine Bi.sdec true ?_ ?_); focus decide) | ((with_reducible refine Bi.sdec false ?_ ?_); focus decide))
              exact fin102 X T n _ rfl rfl rfl h hi hpm rfl rfl (by unfold Tr.openF; rw [if_neg c1]; simp only [h1, if_neg c2, if_neg c3, if_neg c4, if_neg c5', if_neg c6]) E
            rw [decide_eq_true c6] at hb
            subst hb
            (repeat first | (with_reducible first | refine Stp.go ?_ | refine StpE.go E ?_ | (refine StpW.go E ?_; clear E; intro w_ E) | (refine StpA.go E ?_; clear E; intro b_ w_ hb_ E) | (apply hJ20; intro u_) | (apply hJ30; intro u_) | (apply hJ34; intro u_) | (apply hJ58; intro u_) | (apply hJ102; intro u_) | (apply hJ112; intro u_) | refine LnL.nil ?_) | ((with_reducible refine Bi.dec true ?_ ?_); focus exact rfl) | ((with_reducible refine Bi.dec false ?_ ?_); focus exact rfl) | ((with_reducible refine Bi.sdec true ?_ ?_); focus decide) | ((with_reducible refine Bi.sdec false ?_ ?_); focus decide))
            refine BdS.one E u_sl_p_node e_p_node rfl ?_
            clear E
            intro sv w_ E
            (replace E := (((E.bIx 7).bIx 7).bIx 7))
            replace E := wr_lemma (S := fun m : PN => { m with dv := .slice none 0 0, f := { m.f with data := emp } }) (n := n) E hnd hpm
            (replace E := ((E.bIx 0).bIx 2))
            have hv0 := h.clock
            have hcl := hlim.clock
            have hc0 := hi.clock
            refine (change_ok (X := X) (bs := [n.blk]) (RdS.by1 sv E.tl.tl) ?_ (by omega) ?_ (by simp) E).mono ?_
            · intro b hb
              rw [List.mem_singleton.1 hb, updB_blk]
              · exact List.mem_map.2 ⟨n, hn, rfl⟩
              · intro m; rfl
            · intro m hm
              obtain ⟨m', hm', rfl⟩ := List.mem_map.1 hm
              have h1 := lim_fit hi hN hlim h m' hm'
              split <;> exact h1
            clear E
            rintro r w_ E
            have e3 : chgB (X.clock + 1) user [n.blk] (updB X.ps n.blk fun m => { m with dv := .slice none 0 0, f := { m.f with data := emp } }) = updB X.ps n.blk fun m => PN.touch (X.clock + 1) user { m with dv := .slice none 0 0, f := { m.f with data := emp } } := updB_updB fun _ => rfl
            rw [e3] at E
            replace E := (E.bIx 2).tl
            (replace E := (((((E.bIx 1).bIx 4).bIx 4).bIx 4).bIx 4))
            have hpm1 : (updB X.ps n.blk fun m => PN.touch (X.clock + 1) user { m with dv := .slice none 0 0, f := { m.f with data := emp } }).Perm (PN.touch (X.clock + 1) user { n with dv := .slice none 0 0, f := { n.f with data := emp } } :: rs) := updB_perm (g := fun m : PN => PN.touch (X.clock + 1) user { m with dv := .slice none 0 0, f := { m.f with data := emp } }) hnd hpm
            replace E := Hs.openTN (X := { X with ps := updB X.ps n.blk fun m => PN.touch (X.clock + 1) user { m with dv := .slice none 0 0, f := { m.f with data := emp } }, clock := X.clock + 1 }) hpm1 (Hs.closeT { X with ps := updB X.ps n.blk fun m => PN.touch (X.clock + 1) user { m with dv := .slice none 0 0, f := { m.f with data := emp } }, clock := X.clock + 1 } E)
            have e2 : (T.change user [n.f.path]).upd n.f.path (fun n => { n with data := emp }) = { T with ns := updN T.ns n.f.path (fun m => { touchN (X.clock + 1) user m with data := emp }), clock := X.clock + 1 } := by
              rw [change_one, h.clock]
              unfold Tr.upd
              simp only []
              rw [updN_updN (f1 := touchN (T.clock + 1) user) (fun n => rfl)]
            refine fin102 { X with ps := updB X.ps n.blk fun m => PN.touch (X.clock + 1) user { m with dv := .slice none 0 0, f := { m.f with data := emp } }, clock := X.clock + 1 } ((T.change user [n.f.path]).upd n.f.path fun n => { n with data := emp }) (PN.touch (X.clock + 1) user { n with dv := .slice none 0 0, f := { n.f with data := emp } }) _ rfl rfl rfl ?_ ?_ hpm1 rfl rfl ?_ E
            · rw [e2]
              exact h.upd hi hnd hn (X.clock + 1) (G := fun m => PN.touch (X.clock + 1) user { m with dv := .slice none 0 0, f := { m.f with data := emp } }) (g := fun m => { touchN (X.clock + 1) user m with data := emp })
                (fun _ => ⟨rfl, rfl, rfl⟩) (fun _ => rfl) (fun _ => ⟨rfl, rfl, rfl⟩) (fun x hx => hx) (.inl ⟨rfl, _, _, rfl⟩)
            · rw [e2]
              refine hi.upd (X.clock + 1) (by omega) (fun _ _ _ => ⟨rfl, rfl, rfl, rfl⟩) (fun n hn _ => ⟨fun _ => rfl, Nat.zero_le _⟩) fun n hn _ => ?_
              have := hi.form n hn
              exact ⟨this.1, this.2.1, this.2.2.1, by show 0 ≤ n.vers + 1; omega, by show 0 ≤ X.clock + 1; omega⟩
            · unfold Tr.openF; rw [if_neg c1]; simp only [h1, if_neg c2, if_neg c3, if_neg c4, if_neg c5', if_pos c6]
              rfl
          clear hJ112
          (repeat first | (with_reducible first | refine Stp.go ?_ | refine StpE.go E ?_ | (refine StpW.go E ?_; clear E; intro w_ E) | (refine StpA.go E ?_; clear E; intro b_ w_ hb_ E) | (apply hJ20; intro u_) | (apply hJ30; intro u_) | (apply hJ34; intro u_) | (apply hJ58; intro u_) | (apply hJ102; intro u_) | (apply hJ112; intro u_) | refine LnL.nil ?_) | ((with_reducible refine Bi.dec true ?_ ?_); focus exact rfl) | ((with_reducible refine Bi.dec false ?_ ?_); focus exact rfl) | ((with_reducible refine Bi.sdec true ?_ ?_); focus decide) | ((with_reducible refine Bi.sdec false ?_ ?_); focus decide))
          refine Bi.neq ?_ ?_ <;> intro c6 <;> (repeat first | (with_reducible first | refine Stp.go ?_ | refine StpE.go E ?_ | (refine StpW.go E ?_; clear E; intro w_ E) | (refine StpA.go E ?_; clear E; intro b_ w_ hb_ E) | (apply hJ20; intro u_) | (apply hJ30; intro u_) | (apply hJ34; intro u_) | (apply hJ58; intro u_) | (apply hJ102; intro u_) | (apply hJ112; intro u_) | refine LnL.nil ?_) | ((with_reducible refine Bi.dec true ?_ ?_); focus exact rfl) | ((with_reducible refine Bi.dec false ?_ ?_); focus exact rfl) | ((with_reducible refine Bi.sdec true ?_ ?_); focus decide) | ((with_reducible refine Bi.sdec false ?_ ?_); focus decide))
          · refine Bi.eql ?_ ?_ <;> intro c7 <;> (repeat first | (with_reducible first | refine Stp.go ?_ | refine StpE.go E ?_ | (refine StpW.go E ?_; clear E; intro w_ E) | (refine StpA.go E ?_; clear E; intro b_ w_ hb_ E) | (apply hJ20; intro u_) | (apply hJ30; intro u_) | (apply hJ34; intro u_) | (apply hJ58; intro u_) | (apply hJ102; intro u_) | (apply hJ112; intro u_) | refine LnL.nil ?_) | ((with_reducible refine Bi.dec true ?_ ?_); focus exact rfl) | ((with_reducible refine Bi.dec false ?_ ?_); focus exact rfl) | ((with_reducible refine Bi.sdec true ?_ ?_); focus decide) | ((with_reducible refine Bi.sdec false ?_ ?_); focus decide))
            · exact fin112 _ _ (by rw [decide_eq_true ⟨c6, c7⟩]) E
            · exact fin112 _ _ (by rw [decide_eq_false fun hc => c7 hc.2]) E
          · exact fin112 _ _ (by rw [decide_eq_false fun hc => hc.1 c6]) E
      clear hJ34
      refine (may_ok (m := n.mn) (D := D) (by simp) h.gs E).mono ?_
      clear E
      rintro r w_ ⟨rfl, E⟩
      have hmay : permF n.mn.mode (decide (user = n.mn.owner)) (memberG T.gs user n.mn.group) (needs mode) = T.may user n.f (needs mode) := rfl
      rw [hmay]
      cases hm : T.may user n.f (needs mode) with
      | false => (repeat first | (with_reducible first | refine Stp.go ?_ | refine StpE.go E ?_ | (refine StpW.go E ?_; clear E; intro w_ E) | (refine StpA.go E ?_; clear E; intro b_ w_ hb_ E) | (apply hJ20; intro u_) | (apply hJ30; intro u_) | (apply hJ34; intro u_) | (apply hJ58; intro u_) | (apply hJ102; intro u_) | (apply hJ112; intro u_) | refine LnL.nil ?_) | ((with_reducible refine Bi.dec true ?_ ?_); focus exact rfl) | ((with_reducible refine Bi.dec false ?_ ?_); focus exact rfl) | ((with_reducible refine Bi.sdec true ?_ ?_); focus decide) | ((with_reducible refine Bi.sdec false ?_ ?_); focus decide)); exact fin34 _ _ (by rw [decide_eq_true (.inl hm)]) E
      | true =>
        have hmn : ¬ T.may user n.f (needs mode) = false := by rw [hm]; simp
        (repeat first | (with_reducible first | refine Stp.go ?_ | refine StpE.go E ?_ | (refine StpW.go E ?_; clear E; intro w_ E) | (refine StpA.go E ?_; clear E; intro b_ w_ hb_ E) | (apply hJ20; intro u_) | (apply hJ30; intro u_) | (apply hJ34; intro u_) | (apply hJ58; intro u_) | (apply hJ102; intro u_) | (apply hJ112; intro u_) | refine LnL.nil ?_) | ((with_reducible refine Bi.dec true ?_ ?_); focus exact rfl) | ((with_reducible refine Bi.dec false ?_ ?_); focus exact rfl) | ((with_reducible refine Bi.sdec true ?_ ?_); focus decide) | ((with_reducible refine Bi.sdec false ?_ ?_); focus decide))
        refine Bi.neq ?_ ?_ <;> intro c6 <;> (repeat first | (with_reducible first | refine Stp.go ?_ | refine StpE.go E ?_ | (refine StpW.go E ?_; clear E; intro w_ E) | (refine StpA.go E ?_; clear E; intro b_ w_ hb_ E) | (apply hJ20; intro u_) | (apply hJ30; intro u_) | (apply hJ34; intro u_) | (apply hJ58; intro u_) | (apply hJ102; intro u_) | (apply hJ112; intro u_) | refine LnL.nil ?_) | ((with_reducible refine Bi.dec true ?_ ?_); focus exact rfl) | ((with_reducible refine Bi.dec false ?_ ?_); focus exact rfl) | ((with_reducible refine Bi.sdec true ?_ ?_); focus decide) | ((with_reducible refine Bi.sdec false ?_ ?_); focus decide))
        rotate_left
        · exact fin34 _ _ (by rw [decide_eq_false fun hc => hc.elim hmn fun h => h.1 c6]) E
        have hp0 : n.f.path ≠ 0 := fun h0 => by
          have hd := (hi.rootD n.f (h.mem.2 ⟨n, hn, rfl⟩) h0).1
          refine c2 ⟨hd, fun hm0 => ?_⟩
          rw [hm0] at c6
          exact c6 (by decide)
        obtain ⟨u, rs', hpr, hu, hub, hup, hne, hud, hgu, hpar⟩ := h.parent hi hpm hp0
        replace E := Hs.openN (E.bIx 6) hpr
        (repeat first | (with_reducible first | refine Stp.go ?_ | refine StpE.go E ?_ | (refine StpW.go E ?_; clear E; intro w_ E) | (refine StpA.go E ?_; clear E; intro b_ w_ hb_ E) | (apply hJ20; intro u_) | (apply hJ30; intro u_) | (apply hJ34; intro u_) | (apply hJ58; intro u_) | (apply hJ102; intro u_) | (apply hJ112; intro u_) | refine LnL.nil ?_) | ((with_reducible refine Bi.dec true ?_ ?_); focus exact rfl) | ((with_reducible refine Bi.dec false ?_ ?_); focus exact rfl) | ((with_reducible refine Bi.sdec true ?_ ?_); focus decide) | ((with_reducible refine Bi.sdec false ?_ ?_); focus decide))
        have hub2 : n.mn.up = some u.blk := hub
        rw [hub2]
        refine (may_ok (m := u.mn) (D := D) (by simp) h.gs E).mono ?_
        clear E
        rintro r w_ ⟨rfl, E⟩
        have hmay2 : permF u.mn.mode (decide (user = u.mn.owner)) (memberG T.gs user u.mn.group) 2 = T.may user (T.parent n.f) 2 := by rw [hpar]; rfl
        rw [hmay2]
        replace E := Hs.permN (Hs.closeN u E) hpr.symm
        (replace E := (((((((E.bIx 0).bIx 6).bIx 6).bIx 6).bIx 6).bIx 6).bIx 6))
        cases hm2 : T.may user (T.parent n.f) 2 with
        | false => (repeat first | (with_reducible first | refine Stp.go ?_ | refine StpE.go E ?_ | (refine StpW.go E ?_; clear E; intro w_ E) | (refine StpA.go E ?_; clear E; intro b_ w_ hb_ E) | (apply hJ20; intro u_) | (apply hJ30; intro u_) | (apply hJ34; intro u_) | (apply hJ58; intro u_) | (apply hJ102; intro u_) | (apply hJ112; intro u_) | refine LnL.nil ?_) | ((with_reducible refine Bi.dec true ?_ ?_); focus exact rfl) | ((with_reducible refine Bi.dec false ?_ ?_); focus exact rfl) | ((with_reducible refine Bi.sdec true ?_ ?_); focus decide) | ((with_reducible refine Bi.sdec false ?_ ?_); focus decide)); exact fin34 _ _ (by rw [decide_eq_true (.inr ⟨c6, hm2⟩)]) E
        | true => (repeat first | (with_reducible first | refine Stp.go ?_ | refine StpE.go E ?_ | (refine StpW.go E ?_; clear E; intro w_ E) | (refine StpA.go E ?_; clear E; intro b_ w_ hb_ E) | (apply hJ20; intro u_) | (apply hJ30; intro u_) | (apply hJ34; intro u_) | (apply hJ58; intro u_) | (apply hJ102; intro u_) | (apply hJ112; intro u_) | refine LnL.nil ?_) | ((with_reducible refine Bi.dec true ?_ ?_); focus exact rfl) | ((with_reducible refine Bi.dec false ?_ ?_); focus exact rfl) | ((with_reducible refine Bi.sdec true ?_ ?_); focus decide) | ((with_reducible refine Bi.sdec false ?_ ?_); focus decide)); exact fin34 _ _ (by rw [decide_eq_false fun hc => hc.elim hmn fun h => by rw [hm2] at h; cases h.2]) E
    clear hJ30
    (repeat first | (with_reducible first | refine Stp.go ?_ | refine StpE.go E ?_ | (refine StpW.go E ?_; clear E; intro w_ E) | (refine StpA.go E ?_; clear E; intro b_ w_ hb_ E) | (apply hJ20; intro u_) | (apply hJ30; intro u_) | (apply hJ34; intro u_) | (apply hJ58; intro u_) | (apply hJ102; intro u_) | (apply hJ112; intro u_) | refine LnL.nil ?_) | ((with_reducible refine Bi.dec true ?_ ?_); focus exact rfl) | ((with_reducible refine Bi.dec false ?_ ?_); focus exact rfl) | ((with_reducible refine Bi.sdec true ?_ ?_); focus decide) | ((with_reducible refine Bi.sdec false ?_ ?_); focus decide))
    refine Bi.neq ?_ ?_ <;> intro c6 <;> (repeat first | (with_reducible first | refine Stp.go ?_ | refine StpE.go E ?_ | (refine StpW.go E ?_; clear E; intro w_ E) | (refine StpA.go E ?_; clear E; intro b_ w_ hb_ E) | (apply hJ20; intro u_) | (apply hJ30; intro u_) | (apply hJ34; intro u_) | (apply hJ58; intro u_) | (apply hJ102; intro u_) | (apply hJ112; intro u_) | refine LnL.nil ?_) | ((with_reducible refine Bi.dec true ?_ ?_); focus exact rfl) | ((with_reducible refine Bi.dec false ?_ ?_); focus exact rfl) | ((with_reducible refine Bi.sdec true ?_ ?_); focus decide) | ((with_reducible refine Bi.sdec false ?_ ?_); focus decide))
    · have := fin30 _ E
      unfold needs at this
      rw [if_neg c6] at this
      exact this
    · have := fin30 _ E
      unfold needs at this
      rw [if_pos c6] at this
      exact this
  clear hJ20
  refine (isDir_ok (m := n.mn) E).mono ?_
  clear E
  rintro r w_ ⟨rfl, E⟩
  cases hd : isD n.mn.mode with
  | true =>
    (repeat first | (with_reducible first | refine Stp.go ?_ | refine StpE.go E ?_ | (refine StpW.go E ?_; clear E; intro w_ E) | (refine StpA.go E ?_; clear E; intro b_ w_ hb_ E) | (apply hJ20; intro u_) | (apply hJ30; intro u_) | (apply hJ34; intro u_) | (apply hJ58; intro u_) | (apply hJ102; intro u_) | (apply hJ112; intro u_) | refine LnL.nil ?_) | ((with_reducible refine Bi.dec true ?_ ?_); focus exact rfl) | ((with_reducible refine Bi.dec false ?_ ?_); focus exact rfl) | ((with_reducible refine Bi.sdec true ?_ ?_); focus decide) | ((with_reducible refine Bi.sdec false ?_ ?_); focus decide))
    refine Bi.neq ?_ ?_ <;> intro c6 <;> (repeat first | (with_reducible first | refine Stp.go ?_ | refine StpE.go E ?_ | (refine StpW.go E ?_; clear E; intro w_ E) | (refine StpA.go E ?_; clear E; intro b_ w_ hb_ E) | (apply hJ20; intro u_) | (apply hJ30; intro u_) | (apply hJ34; intro u_) | (apply hJ58; intro u_) | (apply hJ102; intro u_) | (apply hJ112; intro u_) | refine LnL.nil ?_) | ((with_reducible refine Bi.dec true ?_ ?_); focus exact rfl) | ((with_reducible refine Bi.dec false ?_ ?_); focus exact rfl) | ((with_reducible refine Bi.sdec true ?_ ?_); focus decide) | ((with_reducible refine Bi.sdec false ?_ ?_); focus decide))
    · exact fin20 _ _ (by rw [decide_eq_true ⟨hd, c6⟩]) E
    · exact fin20 _ _ (by rw [decide_eq_false fun hc => hc.2 c6]) E
  | false =>
    (repeat first | (with_reducible first | refine Stp.go ?_ | refine StpE.go E ?_ | (refine StpW.go E ?_; clear E; intro w_ E) | (refine StpA.go E ?_; clear E; intro b_ w_ hb_ E) | (apply hJ20; intro u_) | (apply hJ30; intro u_) | (apply hJ34; intro u_) | (apply hJ58; intro u_) | (apply hJ102; intro u_) | (apply hJ112; intro u_) | refine LnL.nil ?_) | ((with_reducible refine Bi.dec true ?_ ?_); focus exact rfl) | ((with_reducible refine Bi.dec false ?_ ?_); focus exact rfl) | ((with_reducible refine Bi.sdec true ?_ ?_); focus decide) | ((with_reducible refine Bi.sdec false ?_ ?_); focus decide))
    exact fin20 _ _ (by rw [decide_eq_false fun hc => by rw [show n.f.dir = false from hd] at hc; cases hc.1]) E
end Go.Proofs.YtnnhmahemklnkaaDoor
