/-
  Clones: the whole tree (printed by genclone.py).
-/
import Derived.Test.YtnnhmahemklnkaaGreatDoorCl2
import Derived.Test.YtnnhmahemklnkaaGreatDoorTo5
import Derived.Test.YtnnhmahemklnkaaGreatDoorSh22
import Derived.Test.YtnnhmahemklnkaaGreatDoorTn3
import Derived.Test.YtnnhmahemklnkaaGreatDoorRows
namespace Go.Proofs.YtnnhmahemklnkaaGreatDoor
open Go Go.Sh
set_option maxRecDepth 100000
set_option linter.unusedVariables false
set_option linter.unusedSimpArgs false
variable {w0 w : World} {F : Nat → Prop} {l : List As}
variable {D : List Row} {X : PT} {T : Tr} {β : Int → Nat}

theorem Tie.monoD {D' : List Row} (h : Tie D X T β) (hD : ∀ x ∈ D, x ∈ D') : Tie D' X T β :=
  ⟨h.ns, h.clock, h.next, fun n hn => (h.data n hn).mono hD, h.ub, h.kl, h.fl, h.root, ⟨fun g => by
    have := h.gs.at_ g
    revert this
    cases getL T.gs g with
    | none => exact id
    | some us => rintro ⟨h1, v, h2, h3⟩; exact ⟨h1, v, h2, h3.mono hD⟩, h.gs.nd⟩, h.bl, h.ol, h.dead⟩
theorem below_whole (hi : Inv T) {r : Nd} (hr : T.get 0 = some r) : (belowN T 2000 r).Perm T.ns := by
  have h1 : T.ns.Nodup := List.Pairwise.of_map (S := (· ≠ ·)) Nd.path (fun a b h e => h (by rw [e])) hi.nodup
  exact (List.perm_ext_iff_of_nodup (below_nodup hi _ (hi.get.1 hr).1) h1).2 fun a => ⟨fun h => below_mem hi _ (hi.get.1 hr).1 h, fun h => below_all hi hr h⟩
/-- What is behind the allocations. -/
def CloneT (a0 t3 g : Value) (w : World) (R : Value → World → Prop) : Prop :=
 Ef PP (Instr.range Ty.map_string_sl_string g) w fun x32 w33 =>
 ∃ (I34 : List Value → World → Prop) (m35 : List Value → World → Nat), I34 [] w33 ∧ ∀ (u36 : Env) (w37 : World), I34 [] w37 →
 Ef PP (Instr.next x32 false Ty.t) w37 fun x38 w39 =>
 Ex x38 0 fun x40 =>
 Cnd x40 (
 Rd PP (Instr.entry x32) w39 fun x41 =>
 Ex x41 0 fun x42 =>
 Ex x41 1 fun x43 =>
 Sh.Dr w39 fun w44 =>
 Ld t3 w44 fun x45 =>
 Nc x45 fun x46 =>
 Fa 2 x46 fun x47 =>
 Ld x47 w44 fun x48 =>
 Ca PP Fn.slices_Clone_sl_string_string #[x43] w44 fun x49 w50 =>
 (Ld t3 w50 fun x51 =>
 x51 = x45) ∧
 (Ld x47 w50 fun x52 =>
 x52 = x48) ∧
 Ef PP (Instr.mapUpdate Ty.map_string_sl_string x48 x42 x49) w50 fun _ w53 =>
 I34 [] w53 ∧ m35 [] w53 < m35 [] w37) (
 Al Ty.functree_node_p_tree_node_p_tree_node #[.nilFunc] w39 fun x54 w55 =>
 St PP 1 x54 (.func (.func Fn.tree_Tree_Clone_1) #[] #[x54, t3]) w55 fun w56 =>
 Sh.Dr w56 fun w57 =>
 Ld t3 w57 fun x58 =>
 Ld x54 w57 fun x59 =>
 Nc a0 fun x60 =>
 Fa 0 x60 fun x61 =>
 Ld x61 w57 fun x62 =>
 CaV PP x59 #[x62, (.pointer none)] w57 fun x63 w64 =>
 (Ld t3 w64 fun x65 =>
 x65 = x58) ∧
 Nc x58 fun x66 =>
 Fa 0 x66 fun x67 =>
 St PP 1 x67 x63 w64 fun w68 =>
 Ld t3 w68 fun x69 =>
 R x69 w68)
abbrev cl0 (fm gm om : Nat) (X : PT) (v0 : Value) : List Value := [v0, .map (some fm), .map (some gm), i64 X.next, i64 X.clock, .map (some om)]
theorem cloneT_ok (h : Tie D X T β) (hi : Inv T) {tp tt fm gm om : Nat}
    (E : Hs w0 F w (pt tp (oc [ptr tt] Ty.p_tree_Tree) :: pt tt (oc (cl0 fm gm om X np) Ty.tree_Tree) :: mp fm (.int .i64) [] :: mp gm .str [] :: mp om (.int .i64) [] :: tb X :: mp X.fm (.int .i64) X.fM :: mp X.gm .str X.gM :: mp X.om (.int .i64) X.oM :: NT X.ps :: DT X.ds :: Pool D :: l)) :
    CloneT (ptr X.t) (ptr tp) (.map (some X.gm)) w fun r w' => ∃ D' Y β', r = ptr Y.t ∧ (∀ x ∈ D, x ∈ D') ∧ Tie D' Y { T with hs := [] } β' ∧ Hs w0 F w' (trA Y :: trA X :: Pool D' :: l) := by
  unfold CloneT
  have hkey : ∀ es : Array MapEntry, prs es.toList = X.gM → (es.toList.map fun e => e.key).Nodup := by
    intro es hes
    have h1 : (prs es.toList).map (·.1) = X.gM.map (·.1) := by rw [hes]
    unfold prs PT.gM encM at h1
    rw [List.map_map, List.map_map] at h1
    have h2 : es.toList.map (fun e => e.key) = (X.gv.map (·.1)).map str := by rw [List.map_map]; exact h1
    rw [h2, List.Nodup, List.pairwise_map]
    exact h.gs.nd.imp fun h e => h (by injection e)
  refine Rg.mp (m := X.gm) E u_mgroups ?_
  clear E
  intro it es clock w_ hit hes hw hok E
  have hnames : ∀ ms : List MapEntry, Wlk es clock ms → ∀ V : List (BA × Value), ms.map (fun e => (e.key, e.val)) = V.map (fun k => (str k.1, k.2)) → (V.map (·.1)).Nodup := by
    intro ms hw V hmV
    have hk := hkey es hes
    have h1 : (ms.map fun e => e.key).Nodup := by
      rw [List.Nodup, List.pairwise_map]
      have hnd := hw.nd
      rw [List.Nodup, List.pairwise_map] at hnd
      exact hnd.imp_of_mem fun {a b} ha hb hab e => hab (by rw [inj_map hk a (hw.sub a ha) b (hw.sub b hb) e])
    have h2 : ms.map (fun e => e.key) = (V.map (·.1)).map str := by
      have := congrArg (List.map Prod.fst) hmV
      rw [List.map_map, List.map_map] at this
      rw [List.map_map]; exact this
    rw [h2] at h1
    exact List.Pairwise.of_map (S := (· ≠ ·)) str (fun a b h e => h (by rw [e])) h1
  refine ⟨fun l1 w1 => l1 = [] ∧ ∃ (ms : List MapEntry) (V gr : List (BA × Value)) (D' : List Row), Wlk es clock ms ∧ ms.map (fun e => (e.key, e.val)) = V.map (fun k => (str k.1, k.2)) ∧ (∀ p ∈ V, p ∈ X.gv) ∧ gr.map (·.1) = V.map (·.1) ∧ (∀ x ∈ D, x ∈ D') ∧
      (∀ p ∈ gr, ∃ us, getL T.gs p.1 = some us ∧ us.length ≤ 16 ∧ Rdy D' Ty.string p.2 (us.map str)) ∧
      Hs w0 F w1 (pt it (itO X.gm clock ms) :: pt X.gm (mapO es clock) :: mp gm .str (encM Value.string id gr) :: pt tp (oc [ptr tt] Ty.p_tree_Tree) :: pt tt (oc (cl0 fm gm om X np) Ty.tree_Tree) :: mp fm (.int .i64) [] :: mp om (.int .i64) [] :: tb X :: mp X.fm (.int .i64) X.fM :: mp X.om (.int .i64) X.oM :: NT X.ps :: DT X.ds :: Pool D' :: l),
    fun _ w1 => itM it (es.size + 1) w1, ⟨rfl, [], [], [], D, hw, rfl, (fun _ h => by cases h), rfl, fun _ h => h, (fun _ h => by cases h), by (replace E := ((((((E.bIx 4).bIx 4).bIx 4).bIx 5).bIx 5).bIx 5)); exact E⟩, ?_⟩
  clear E hw
  rintro u w1 ⟨-, ms, V, gr, D', hw, hmsV, hV, hgr, hD, hdone, E⟩
  refine Nx.mp E hw ?_ ?_
  · intro e w_ he hn2 hw2 E2
    have hmm : itM it (es.size + 1) w1 = es.size + 1 - ms.length := itM_eq E
    have hle := hw2.le
    simp only [List.length_append, List.length_cons, List.length_nil] at hle
    clear E
    have E := E2
    clear E2
    (repeat first | (with_reducible first | refine Stp.go ?_ | refine StpE.go E ?_ | (refine StpW.go E ?_; clear E; intro w_ E) | (refine StpA.go E ?_; clear E; intro b_ w_ hb_ E) | refine LnL.nil ?_) | ((with_reducible refine Bi.dec true ?_ ?_); focus exact rfl) | ((with_reducible refine Bi.dec false ?_ ?_); focus exact rfl) | ((with_reducible refine Bi.sdec true ?_ ?_); focus decide) | ((with_reducible refine Bi.sdec false ?_ ?_); focus decide))
    refine Ent.mp E hw2 ?_
    obtain ⟨p, hp1, hke, hkv⟩ : ∃ p, p ∈ X.gv ∧ e.key = str p.1 ∧ e.val = p.2 := by
      have hm : (e.key, e.val) ∈ X.gM := by rw [← hes]; exact List.mem_map.2 ⟨e, he, rfl⟩
      obtain ⟨p, hp1, hpe⟩ := List.mem_map.1 hm
      exact ⟨p, hp1, (congrArg Prod.fst hpe).symm, (congrArg Prod.snd hpe).symm⟩
    obtain ⟨us, hus, hul, hur⟩ : ∃ us, getL T.gs p.1 = some us ∧ us.length ≤ 16 ∧ Rdy D' Ty.string p.2 (us.map str) := by
      have h1 := h.gs.at_ p.1
      have h2 : getL X.gv p.1 = some p.2 := (getL_some h.gs.nd).2 hp1
      cases hg : getL T.gs p.1 with
      | none => rw [hg] at h1; rw [h1] at h2; cases h2
      | some us =>
        rw [hg] at h1
        obtain ⟨h3, v, h4, h5⟩ := h1
        rw [h2] at h4
        cases h4
        exact ⟨us, rfl, h3, h5.mono hD⟩
    rw [hke, hkv]
    (repeat first | (with_reducible first | refine Stp.go ?_ | refine StpE.go E ?_ | (refine StpW.go E ?_; clear E; intro w_ E) | (refine StpA.go E ?_; clear E; intro b_ w_ hb_ E) | refine LnL.nil ?_) | ((with_reducible refine Bi.dec true ?_ ?_); focus exact rfl) | ((with_reducible refine Bi.dec false ?_ ?_); focus exact rfl) | ((with_reducible refine Bi.sdec true ?_ ?_); focus decide) | ((with_reducible refine Bi.sdec false ?_ ?_); focus decide))
    have hrd := hur.read E (by simp)
    rw [List.length_map] at hrd
    have hrd' := hrd
    obtain ⟨pa, pc, hpv, -⟩ := hrd'
    refine (Clone_ok hrd (by omega) E).mono ?_
    clear E
    intro r w_ E
    refine ⟨by (repeat first | (with_reducible first | refine Stp.go ?_ | refine StpE.go E ?_ | (refine StpW.go E ?_; clear E; intro w_ E) | (refine StpA.go E ?_; clear E; intro b_ w_ hb_ E) | refine LnL.nil ?_) | ((with_reducible refine Bi.dec true ?_ ?_); focus exact rfl) | ((with_reducible refine Bi.dec false ?_ ?_); focus exact rfl) | ((with_reducible refine Bi.sdec true ?_ ?_); focus decide) | ((with_reducible refine Bi.sdec false ?_ ?_); focus decide)); rfl, by (repeat first | (with_reducible first | refine Stp.go ?_ | refine StpE.go E ?_ | (refine StpW.go E ?_; clear E; intro w_ E) | (refine StpA.go E ?_; clear E; intro b_ w_ hb_ E) | refine LnL.nil ?_) | ((with_reducible refine Bi.dec true ?_ ?_); focus exact rfl) | ((with_reducible refine Bi.dec false ?_ ?_); focus exact rfl) | ((with_reducible refine Bi.sdec true ?_ ?_); focus decide) | ((with_reducible refine Bi.sdec false ?_ ?_); focus decide)); rfl, ?_⟩
    refine Mu.by E u_mgroups k_str rfl ?_
    clear E
    intro w_ E
    have hnm : ((V ++ [p]).map (·.1)).Nodup := hnames (ms ++ [e]) hw2 (V ++ [p]) (by rw [List.map_append, List.map_append, hmsV]; simp [hke, hkv])
    have hfresh : p.1 ∉ gr.map (·.1) := by
      rw [hgr]
      rw [List.map_append, List.nodup_append] at hnm
      exact fun hc => hnm.2.2 p.1 hc p.1 (by simp) rfl
    have he2 : aput (encM Value.string id gr) (str p.1) r = encM Value.string id (gr ++ [(p.1, r)]) := by rw [← putL_new hfresh]; exact aput_enc (ev := id) keyS _ _ _
    rw [he2] at E
    (replace E := ((E.bIx 13).bIx 1))
    replace E := Hs.pool Ty.string E
    (replace E := (((((((((((((E.bIx 0).bIx 12).bIx 12).bIx 12).bIx 12).bIx 12).bIx 12).bIx 12).bIx 12).bIx 12).bIx 12).bIx 12).bIx 12))
    refine ⟨⟨rfl, ms ++ [e], V ++ [p], gr ++ [(p.1, r)], _, hw2, by rw [List.map_append, List.map_append, hmsV]; simp [hke, hkv], ?_, by rw [List.map_append, List.map_append, hgr]; rfl, fun x hx => List.mem_cons_of_mem _ (hD x hx), ?_, E⟩, ?_⟩
    · intro x hx
      rcases List.mem_append.1 hx with hx | hx
      · exact hV x hx
      · rw [List.mem_singleton.1 hx]; exact hp1
    · intro x hx
      rcases List.mem_append.1 hx with hx | hx
      · obtain ⟨us2, g1, g2, g3⟩ := hdone x hx
        exact ⟨us2, g1, g2, g3.mono fun y hy => List.mem_cons_of_mem _ hy⟩
      · rw [List.mem_singleton.1 hx]
        exact ⟨us, hus, hul, .inr List.mem_cons_self⟩
    · show itM it (es.size + 1) w_ < itM it (es.size + 1) w1
      rw [hmm, itM_eq E]
      simp; omega
  · intro hp2
    have hkeys : (V.map (·.1)).Perm (X.gv.map (·.1)) := by
      have h1 : (prs es.toList).Perm (ms.map fun e => (e.key, e.val)) := hp2.map _
      rw [hes, hmsV] at h1
      have h2 := h1.map fun p : Value × Value => match p with | (.string s, _) => s | _ => emp
      unfold PT.gM encM at h2
      rw [List.map_map, List.map_map] at h2
      exact h2.symm
    have hgn : (gr.map (·.1)).Nodup := by rw [hgr]; exact hkeys.nodup_iff.2 h.gs.nd
    have hgt : GTie D' gr T.gs := by
      refine ⟨fun y => ?_, hgn⟩
      have h1 := h.gs.at_ y
      cases hg : getL T.gs y with
      | none =>
        rw [hg] at h1
        simp only [] at h1 ⊢
        rw [getL_none] at h1 ⊢
        rw [hgr]
        exact fun hc => h1 (hkeys.mem_iff.1 hc)
      | some us =>
        rw [hg] at h1
        obtain ⟨h2, v, h3, h4⟩ := h1
        simp only []
        have h5 : y ∈ gr.map (·.1) := by
          rw [hgr, hkeys.mem_iff]
          exact List.mem_map.2 ⟨_, (getL_some h.gs.nd).1 h3, rfl⟩
        obtain ⟨p, hp1, hpy⟩ := List.mem_map.1 h5
        obtain ⟨us2, g1, g2, g3⟩ := hdone p hp1
        have hpy : p.1 = y := hpy
        rw [hpy, hg] at g1
        cases g1
        exact ⟨h2, p.2, (getL_some hgn).2 (by rw [← hpy]; exact hp1), g3⟩
    have h' := h.monoD hD
    replace E := Hs.mapBack (m := X.gm) (kt := .str) (M := X.gM) E hes hw hok
    replace E := (E.bIx 1).tl
    (repeat first | (with_reducible first | refine Stp.go ?_ | refine StpE.go E ?_ | (refine StpW.go E ?_; clear E; intro w_ E) | (refine StpA.go E ?_; clear E; intro b_ w_ hb_ E) | refine LnL.nil ?_) | ((with_reducible refine Bi.dec true ?_ ?_); focus exact rfl) | ((with_reducible refine Bi.dec false ?_ ?_); focus exact rfl) | ((with_reducible refine Bi.sdec true ?_ ?_); focus decide) | ((with_reducible refine Bi.sdec false ?_ ?_); focus decide))
    (revert b_; intro tw hbtw E)
    obtain ⟨r0, hr0, hr1, hr2⟩ := h.root
    obtain ⟨rk, hrk, hrb⟩ := hi.rankB
    have hg0 : T.get 0 = some r0.f := hi.get.2 ⟨h.mem.2 ⟨r0, hr0, rfl⟩, hr1⟩
    have E2 : Hs w0 F w_ (NT [] :: _) := Hs.starNil E
    clear E
    have E := E2
    clear E2
    (replace E := ((((((((((((((E.bIx 12).bIx 11).bIx 11).bIx 11).bIx 11).bIx 8).bIx 8).bIx 13).bIx 8).bIx 12).bIx 12).bIx 12).bIx 12).bIx 13))
    rw [← hr2]
    refine (twin_ok h' hi hrk hrb 2000 (n := r0) (R := X.ps) (Q := []) (ub := none) hr0 (fun _ h => h) (fun m hm _ => hm) (by omega) (fun _ h => by cases h) E).mono ?_
    clear E
    rintro r w_ ⟨Q2, q0, rfl, hq0, hq0f, hq0u, hQ2, hd2, E⟩
    rw [List.nil_append] at E hd2
    refine ⟨by (repeat first | (with_reducible first | refine Stp.go ?_ | refine StpE.go E ?_ | (refine StpW.go E ?_; clear E; intro w_ E) | (refine StpA.go E ?_; clear E; intro b_ w_ hb_ E) | refine LnL.nil ?_) | ((with_reducible refine Bi.dec true ?_ ?_); focus exact rfl) | ((with_reducible refine Bi.dec false ?_ ?_); focus exact rfl) | ((with_reducible refine Bi.sdec true ?_ ?_); focus decide) | ((with_reducible refine Bi.sdec false ?_ ?_); focus decide)); rfl, ?_⟩
    (repeat first | (with_reducible first | refine Stp.go ?_ | refine StpE.go E ?_ | (refine StpW.go E ?_; clear E; intro w_ E) | (refine StpA.go E ?_; clear E; intro b_ w_ hb_ E) | refine LnL.nil ?_) | ((with_reducible refine Bi.dec true ?_ ?_); focus exact rfl) | ((with_reducible refine Bi.dec false ?_ ?_); focus exact rfl) | ((with_reducible refine Bi.sdec true ?_ ?_); focus decide) | ((with_reducible refine Bi.sdec false ?_ ?_); focus decide))
    obtain ⟨Y, hY⟩ : ∃ Y : PT, Y = ⟨tt, q0.blk, fm, gm, om, X.next, X.clock, Q2, [], flQ Q2, gr, []⟩ := ⟨_, rfl⟩
    obtain ⟨β', hT⟩ := tie_of_done (Y := Y) hi (hQ2.trans (below_whole hi hg0)) hd2 hq0 (by rw [hq0f, hr1]) hq0u (by rw [hY]) (by rw [hY]) (by rw [hY]) (by rw [hY]; exact hgt) (by rw [hY]) (by rw [hY]; exact h.clock) (by rw [hY]; exact h.next)
    refine ⟨D', Y, β', by rw [hY], hD, hT, ?_⟩
    have E2 : Hs w0 F w_ (DT [] :: _) := Hs.starNil E
    clear E
    have E := E2
    clear E2
    (replace E := (((((((((((((((E.bIx 3).bIx 3).bIx 7).bIx 3).bIx 7).bIx 10).bIx 10).bIx 9).bIx 9).bIx 14).bIx 10).bIx 14).bIx 12).bIx 14).bIx 14))
    replace E := Hs.closeT X E
    (replace E := ((((((((((E.bIx 9).bIx 9).bIx 9).bIx 3).bIx 9).bIx 9).bIx 9).bIx 9).bIx 9).bIx 9))
    have E2 : Hs w0 F w_ (tb Y :: mp Y.fm (.int .i64) Y.fM :: mp Y.gm .str Y.gM :: mp Y.om (.int .i64) Y.oM :: NT Y.ps :: DT Y.ds :: trA X :: Pool D' :: twA tw tp :: twB tp tt :: l) := by rw [hY]; exact E
    replace E2 := Hs.closeT Y E2
    exact E2.drop (List.Sublist.cons_cons _ (List.Sublist.cons_cons _ (List.Sublist.cons_cons _ (List.sublist_append_right [_, _] l))))
theorem TClone_ok (h : Tie D X T β) (hi : Inv T) (E : Hs w0 F w (trA X :: Pool D :: l)) :
    Ca PP Fn.tree_Tree_Clone #[ptr X.t] w fun r w' => ∃ D' Y β', r = ptr Y.t ∧ (∀ x ∈ D, x ∈ D') ∧ Tie D' Y { T with hs := [] } β' ∧ Hs w0 F w' (trA Y :: trA X :: Pool D' :: l) := by
  refine S.tree_Tree_Clone.calls ?_
  unfold S.tree_Tree_Clone
  have fin : ∀ {R : Value → World → Prop} (hR : R = fun r w' => ∃ D' Y β', r = ptr Y.t ∧ (∀ x ∈ D, x ∈ D') ∧ Tie D' Y { T with hs := [] } β' ∧ Hs w0 F w' (trA Y :: trA X :: Pool D' :: l)) (w : World) (tp tt fm gm om : Nat), Hs w0 F w (pt tp (oc [ptr tt] Ty.p_tree_Tree) :: pt tt (oc (cl0 fm gm om X np) Ty.tree_Tree) :: mp fm (.int .i64) [] :: mp gm .str [] :: mp om (.int .i64) [] :: tb X :: mp X.fm (.int .i64) X.fM :: mp X.gm .str X.gM :: mp X.om (.int .i64) X.oM :: NT X.ps :: DT X.ds :: Pool D :: l) → CloneT (ptr X.t) (ptr tp) (.map (some X.gm)) w R := by
    rintro R rfl w tp tt fm gm om E
    exact cloneT_ok h hi E
  unfold CloneT at fin
  refine Eq.ef u_p_tree rfl ?_
  replace E := Hs.openT E
  (repeat first | (with_reducible first | refine Stp.go ?_ | refine StpE.go E ?_ | (refine StpW.go E ?_; clear E; intro w_ E) | (refine StpA.go E ?_; clear E; intro b_ w_ hb_ E) | refine LnL.nil ?_) | ((with_reducible refine Bi.dec true ?_ ?_); focus exact rfl) | ((with_reducible refine Bi.dec false ?_ ?_); focus exact rfl) | ((with_reducible refine Bi.sdec true ?_ ?_); focus decide) | ((with_reducible refine Bi.sdec false ?_ ?_); focus decide))
  refine ⟨?_, ?_, ?_, ?_, trivial⟩
  · refine MkM.pt (kt := .int .i64) E ?_
    clear E
    intro fm w_ _ E
    refine ⟨by (repeat with_reducible first | refine Stp.go ?_ | refine StpE.go E ?_); rfl, ?_⟩
    refine ⟨by (repeat with_reducible first | refine Stp.go ?_ | refine StpE.go E ?_); rfl, ?_⟩
    refine ⟨?_, ?_, ?_, trivial⟩
    · refine MkM.pt (kt := .str) E ?_
      clear E
      intro gm w_ _ E
      refine ⟨by (repeat with_reducible first | refine Stp.go ?_ | refine StpE.go E ?_); rfl, ?_⟩
      refine ⟨by (repeat with_reducible first | refine Stp.go ?_ | refine StpE.go E ?_); rfl, ?_⟩
      refine ⟨?_, ?_, trivial⟩
      · refine MkM.pt (kt := .int .i64) E ?_
        clear E
        intro om w_ _ E
        refine ⟨by (repeat with_reducible first | refine Stp.go ?_ | refine StpE.go E ?_); rfl, ?_⟩
        refine ⟨by (repeat with_reducible first | refine Stp.go ?_ | refine StpE.go E ?_); rfl, ?_⟩
        (repeat with_reducible first | refine Stp.go ?_ | refine StpE.go E ?_)
        refine ⟨?_, ?_, trivial⟩
        · (repeat with_reducible first | refine Stp.go ?_ | refine StpE.go E ?_)
          refine StpA.go E ?_
          clear E
          intro tt w_ _ E
          (repeat with_reducible first | refine Stp.go ?_ | refine StpE.go E ?_)
          refine StpA.go E ?_
          clear E
          intro tp w_ _ E
          refine ⟨by (repeat with_reducible first | refine Stp.go ?_ | refine StpE.go E ?_); rfl, ?_⟩
          refine ⟨by (repeat with_reducible first | refine Stp.go ?_ | refine StpE.go E ?_); rfl, ?_⟩
          (repeat first | (with_reducible first | refine Stp.go ?_ | refine StpE.go E ?_ | (refine StpW.go E ?_; clear E; intro w_ E) | (refine StpA.go E ?_; clear E; intro b_ w_ hb_ E) | refine LnL.nil ?_) | ((with_reducible refine Bi.dec true ?_ ?_); focus exact rfl) | ((with_reducible refine Bi.dec false ?_ ?_); focus exact rfl) | ((with_reducible refine Bi.sdec true ?_ ?_); focus decide) | ((with_reducible refine Bi.sdec false ?_ ?_); focus decide))
          (replace E := (((((E.bMp om).bMp gm).bMp fm).bPt tt).bPt tp))
          exact fin rfl _ _ _ _ _ _ E
        · (repeat with_reducible first | refine Stp.go ?_ | refine StpE.go E ?_)
          refine StpA.go E ?_
          clear E
          intro tp w_ _ E
          refine ⟨by (repeat with_reducible first | refine Stp.go ?_ | refine StpE.go E ?_); rfl, ?_⟩
          refine ⟨by (repeat with_reducible first | refine Stp.go ?_ | refine StpE.go E ?_); rfl, ?_⟩
          (repeat with_reducible first | refine Stp.go ?_ | refine StpE.go E ?_)
          refine StpA.go E ?_
          clear E
          intro tt w_ _ E
          (repeat first | (with_reducible first | refine Stp.go ?_ | refine StpE.go E ?_ | (refine StpW.go E ?_; clear E; intro w_ E) | (refine StpA.go E ?_; clear E; intro b_ w_ hb_ E) | refine LnL.nil ?_) | ((with_reducible refine Bi.dec true ?_ ?_); focus exact rfl) | ((with_reducible refine Bi.dec false ?_ ?_); focus exact rfl) | ((with_reducible refine Bi.sdec true ?_ ?_); focus decide) | ((with_reducible refine Bi.sdec false ?_ ?_); focus decide))
          (replace E := (((((E.bMp om).bMp gm).bMp fm).bPt tt).bPt tp))
          exact fin rfl _ _ _ _ _ _ E
      · (repeat with_reducible first | refine Stp.go ?_ | refine StpE.go E ?_)
        refine StpA.go E ?_
        clear E
        intro tp w_ _ E
        refine ⟨by (repeat with_reducible first | refine Stp.go ?_ | refine StpE.go E ?_); rfl, ?_⟩
        refine ⟨by (repeat with_reducible first | refine Stp.go ?_ | refine StpE.go E ?_); rfl, ?_⟩
        refine MkM.pt (kt := .int .i64) E ?_
        clear E
        intro om w_ _ E
        refine ⟨by (repeat with_reducible first | refine Stp.go ?_ | refine StpE.go E ?_); rfl, ?_⟩
        refine ⟨by (repeat with_reducible first | refine Stp.go ?_ | refine StpE.go E ?_); rfl, ?_⟩
        (repeat with_reducible first | refine Stp.go ?_ | refine StpE.go E ?_)
        refine StpA.go E ?_
        clear E
        intro tt w_ _ E
        (repeat first | (with_reducible first | refine Stp.go ?_ | refine StpE.go E ?_ | (refine StpW.go E ?_; clear E; intro w_ E) | (refine StpA.go E ?_; clear E; intro b_ w_ hb_ E) | refine LnL.nil ?_) | ((with_reducible refine Bi.dec true ?_ ?_); focus exact rfl) | ((with_reducible refine Bi.dec false ?_ ?_); focus exact rfl) | ((with_reducible refine Bi.sdec true ?_ ?_); focus decide) | ((with_reducible refine Bi.sdec false ?_ ?_); focus decide))
        (replace E := (((((E.bMp om).bMp gm).bMp fm).bPt tt).bPt tp))
        exact fin rfl _ _ _ _ _ _ E
    · refine MkM.pt (kt := .int .i64) E ?_
      clear E
      intro om w_ _ E
      refine ⟨by (repeat with_reducible first | refine Stp.go ?_ | refine StpE.go E ?_); rfl, ?_⟩
      refine ⟨by (repeat with_reducible first | refine Stp.go ?_ | refine StpE.go E ?_); rfl, ?_⟩
      refine ⟨?_, ?_, trivial⟩
      · refine MkM.pt (kt := .str) E ?_
        clear E
        intro gm w_ _ E
        refine ⟨by (repeat with_reducible first | refine Stp.go ?_ | refine StpE.go E ?_); rfl, ?_⟩
        refine ⟨by (repeat with_reducible first | refine Stp.go ?_ | refine StpE.go E ?_); rfl, ?_⟩
        (repeat with_reducible first | refine Stp.go ?_ | refine StpE.go E ?_)
        refine ⟨?_, ?_, trivial⟩
        · (repeat with_reducible first | refine Stp.go ?_ | refine StpE.go E ?_)
          refine StpA.go E ?_
          clear E
          intro tt w_ _ E
          (repeat with_reducible first | refine Stp.go ?_ | refine StpE.go E ?_)
          refine StpA.go E ?_
          clear E
          intro tp w_ _ E
          refine ⟨by (repeat with_reducible first | refine Stp.go ?_ | refine StpE.go E ?_); rfl, ?_⟩
          refine ⟨by (repeat with_reducible first | refine Stp.go ?_ | refine StpE.go E ?_); rfl, ?_⟩
          (repeat first | (with_reducible first | refine Stp.go ?_ | refine StpE.go E ?_ | (refine StpW.go E ?_; clear E; intro w_ E) | (refine StpA.go E ?_; clear E; intro b_ w_ hb_ E) | refine LnL.nil ?_) | ((with_reducible refine Bi.dec true ?_ ?_); focus exact rfl) | ((with_reducible refine Bi.dec false ?_ ?_); focus exact rfl) | ((with_reducible refine Bi.sdec true ?_ ?_); focus decide) | ((with_reducible refine Bi.sdec false ?_ ?_); focus decide))
          (replace E := (((((E.bMp om).bMp gm).bMp fm).bPt tt).bPt tp))
          exact fin rfl _ _ _ _ _ _ E
        · (repeat with_reducible first | refine Stp.go ?_ | refine StpE.go E ?_)
          refine StpA.go E ?_
          clear E
          intro tp w_ _ E
          refine ⟨by (repeat with_reducible first | refine Stp.go ?_ | refine StpE.go E ?_); rfl, ?_⟩
          refine ⟨by (repeat with_reducible first | refine Stp.go ?_ | refine StpE.go E ?_); rfl, ?_⟩
          (repeat with_reducible first | refine Stp.go ?_ | refine StpE.go E ?_)
          refine StpA.go E ?_
          clear E
          intro tt w_ _ E
          (repeat first | (with_reducible first | refine Stp.go ?_ | refine StpE.go E ?_ | (refine StpW.go E ?_; clear E; intro w_ E) | (refine StpA.go E ?_; clear E; intro b_ w_ hb_ E) | refine LnL.nil ?_) | ((with_reducible refine Bi.dec true ?_ ?_); focus exact rfl) | ((with_reducible refine Bi.dec false ?_ ?_); focus exact rfl) | ((with_reducible refine Bi.sdec true ?_ ?_); focus decide) | ((with_reducible refine Bi.sdec false ?_ ?_); focus decide))
          (replace E := (((((E.bMp om).bMp gm).bMp fm).bPt tt).bPt tp))
          exact fin rfl _ _ _ _ _ _ E
      · (repeat with_reducible first | refine Stp.go ?_ | refine StpE.go E ?_)
        refine StpA.go E ?_
        clear E
        intro tp w_ _ E
        refine ⟨by (repeat with_reducible first | refine Stp.go ?_ | refine StpE.go E ?_); rfl, ?_⟩
        refine ⟨by (repeat with_reducible first | refine Stp.go ?_ | refine StpE.go E ?_); rfl, ?_⟩
        refine MkM.pt (kt := .str) E ?_
        clear E
        intro gm w_ _ E
        refine ⟨by (repeat with_reducible first | refine Stp.go ?_ | refine StpE.go E ?_); rfl, ?_⟩
        refine ⟨by (repeat with_reducible first | refine Stp.go ?_ | refine StpE.go E ?_); rfl, ?_⟩
        (repeat with_reducible first | refine Stp.go ?_ | refine StpE.go E ?_)
        refine StpA.go E ?_
        clear E
        intro tt w_ _ E
        (repeat first | (with_reducible first | refine Stp.go ?_ | refine StpE.go E ?_ | (refine StpW.go E ?_; clear E; intro w_ E) | (refine StpA.go E ?_; clear E; intro b_ w_ hb_ E) | refine LnL.nil ?_) | ((with_reducible refine Bi.dec true ?_ ?_); focus exact rfl) | ((with_reducible refine Bi.dec false ?_ ?_); focus exact rfl) | ((with_reducible refine Bi.sdec true ?_ ?_); focus decide) | ((with_reducible refine Bi.sdec false ?_ ?_); focus decide))
        (replace E := (((((E.bMp om).bMp gm).bMp fm).bPt tt).bPt tp))
        exact fin rfl _ _ _ _ _ _ E
    · (repeat with_reducible first | refine Stp.go ?_ | refine StpE.go E ?_)
      refine StpA.go E ?_
      clear E
      intro tp w_ _ E
      refine ⟨by (repeat with_reducible first | refine Stp.go ?_ | refine StpE.go E ?_); rfl, ?_⟩
      refine ⟨by (repeat with_reducible first | refine Stp.go ?_ | refine StpE.go E ?_); rfl, ?_⟩
      refine ⟨?_, ?_, trivial⟩
      · refine MkM.pt (kt := .str) E ?_
        clear E
        intro gm w_ _ E
        refine ⟨by (repeat with_reducible first | refine Stp.go ?_ | refine StpE.go E ?_); rfl, ?_⟩
        refine ⟨by (repeat with_reducible first | refine Stp.go ?_ | refine StpE.go E ?_); rfl, ?_⟩
        refine MkM.pt (kt := .int .i64) E ?_
        clear E
        intro om w_ _ E
        refine ⟨by (repeat with_reducible first | refine Stp.go ?_ | refine StpE.go E ?_); rfl, ?_⟩
        refine ⟨by (repeat with_reducible first | refine Stp.go ?_ | refine StpE.go E ?_); rfl, ?_⟩
        (repeat with_reducible first | refine Stp.go ?_ | refine StpE.go E ?_)
        refine StpA.go E ?_
        clear E
        intro tt w_ _ E
        (repeat first | (with_reducible first | refine Stp.go ?_ | refine StpE.go E ?_ | (refine StpW.go E ?_; clear E; intro w_ E) | (refine StpA.go E ?_; clear E; intro b_ w_ hb_ E) | refine LnL.nil ?_) | ((with_reducible refine Bi.dec true ?_ ?_); focus exact rfl) | ((with_reducible refine Bi.dec false ?_ ?_); focus exact rfl) | ((with_reducible refine Bi.sdec true ?_ ?_); focus decide) | ((with_reducible refine Bi.sdec false ?_ ?_); focus decide))
        (replace E := (((((E.bMp om).bMp gm).bMp fm).bPt tt).bPt tp))
        exact fin rfl _ _ _ _ _ _ E
      · refine MkM.pt (kt := .int .i64) E ?_
        clear E
        intro om w_ _ E
        refine ⟨by (repeat with_reducible first | refine Stp.go ?_ | refine StpE.go E ?_); rfl, ?_⟩
        refine ⟨by (repeat with_reducible first | refine Stp.go ?_ | refine StpE.go E ?_); rfl, ?_⟩
        refine MkM.pt (kt := .str) E ?_
        clear E
        intro gm w_ _ E
        refine ⟨by (repeat with_reducible first | refine Stp.go ?_ | refine StpE.go E ?_); rfl, ?_⟩
        refine ⟨by (repeat with_reducible first | refine Stp.go ?_ | refine StpE.go E ?_); rfl, ?_⟩
        (repeat with_reducible first | refine Stp.go ?_ | refine StpE.go E ?_)
        refine StpA.go E ?_
        clear E
        intro tt w_ _ E
        (repeat first | (with_reducible first | refine Stp.go ?_ | refine StpE.go E ?_ | (refine StpW.go E ?_; clear E; intro w_ E) | (refine StpA.go E ?_; clear E; intro b_ w_ hb_ E) | refine LnL.nil ?_) | ((with_reducible refine Bi.dec true ?_ ?_); focus exact rfl) | ((with_reducible refine Bi.dec false ?_ ?_); focus exact rfl) | ((with_reducible refine Bi.sdec true ?_ ?_); focus decide) | ((with_reducible refine Bi.sdec false ?_ ?_); focus decide))
        (replace E := (((((E.bMp om).bMp gm).bMp fm).bPt tt).bPt tp))
        exact fin rfl _ _ _ _ _ _ E
  · refine MkM.pt (kt := .str) E ?_
    clear E
    intro gm w_ _ E
    refine ⟨by (repeat with_reducible first | refine Stp.go ?_ | refine StpE.go E ?_); rfl, ?_⟩
    refine ⟨by (repeat with_reducible first | refine Stp.go ?_ | refine StpE.go E ?_); rfl, ?_⟩
    refine ⟨?_, ?_, ?_, trivial⟩
    · refine MkM.pt (kt := .int .i64) E ?_
      clear E
      intro fm w_ _ E
      refine ⟨by (repeat with_reducible first | refine Stp.go ?_ | refine StpE.go E ?_); rfl, ?_⟩
      refine ⟨by (repeat with_reducible first | refine Stp.go ?_ | refine StpE.go E ?_); rfl, ?_⟩
      refine ⟨?_, ?_, trivial⟩
      · refine MkM.pt (kt := .int .i64) E ?_
        clear E
        intro om w_ _ E
        refine ⟨by (repeat with_reducible first | refine Stp.go ?_ | refine StpE.go E ?_); rfl, ?_⟩
        refine ⟨by (repeat with_reducible first | refine Stp.go ?_ | refine StpE.go E ?_); rfl, ?_⟩
        (repeat with_reducible first | refine Stp.go ?_ | refine StpE.go E ?_)
        refine ⟨?_, ?_, trivial⟩
        · (repeat with_reducible first | refine Stp.go ?_ | refine StpE.go E ?_)
          refine StpA.go E ?_
          clear E
          intro tt w_ _ E
          (repeat with_reducible first | refine Stp.go ?_ | refine StpE.go E ?_)
          refine StpA.go E ?_
          clear E
          intro tp w_ _ E
          refine ⟨by (repeat with_reducible first | refine Stp.go ?_ | refine StpE.go E ?_); rfl, ?_⟩
          refine ⟨by (repeat with_reducible first | refine Stp.go ?_ | refine StpE.go E ?_); rfl, ?_⟩
          (repeat first | (with_reducible first | refine Stp.go ?_ | refine StpE.go E ?_ | (refine StpW.go E ?_; clear E; intro w_ E) | (refine StpA.go E ?_; clear E; intro b_ w_ hb_ E) | refine LnL.nil ?_) | ((with_reducible refine Bi.dec true ?_ ?_); focus exact rfl) | ((with_reducible refine Bi.dec false ?_ ?_); focus exact rfl) | ((with_reducible refine Bi.sdec true ?_ ?_); focus decide) | ((with_reducible refine Bi.sdec false ?_ ?_); focus decide))
          (replace E := (((((E.bMp om).bMp gm).bMp fm).bPt tt).bPt tp))
          exact fin rfl _ _ _ _ _ _ E
        · (repeat with_reducible first | refine Stp.go ?_ | refine StpE.go E ?_)
          refine StpA.go E ?_
          clear E
          intro tp w_ _ E
          refine ⟨by (repeat with_reducible first | refine Stp.go ?_ | refine StpE.go E ?_); rfl, ?_⟩
          refine ⟨by (repeat with_reducible first | refine Stp.go ?_ | refine StpE.go E ?_); rfl, ?_⟩
          (repeat with_reducible first | refine Stp.go ?_ | refine StpE.go E ?_)
          refine StpA.go E ?_
          clear E
          intro tt w_ _ E
          (repeat first | (with_reducible first | refine Stp.go ?_ | refine StpE.go E ?_ | (refine StpW.go E ?_; clear E; intro w_ E) | (refine StpA.go E ?_; clear E; intro b_ w_ hb_ E) | refine LnL.nil ?_) | ((with_reducible refine Bi.dec true ?_ ?_); focus exact rfl) | ((with_reducible refine Bi.dec false ?_ ?_); focus exact rfl) | ((with_reducible refine Bi.sdec true ?_ ?_); focus decide) | ((with_reducible refine Bi.sdec false ?_ ?_); focus decide))
          (replace E := (((((E.bMp om).bMp gm).bMp fm).bPt tt).bPt tp))
          exact fin rfl _ _ _ _ _ _ E
      · (repeat with_reducible first | refine Stp.go ?_ | refine StpE.go E ?_)
        refine StpA.go E ?_
        clear E
        intro tp w_ _ E
        refine ⟨by (repeat with_reducible first | refine Stp.go ?_ | refine StpE.go E ?_); rfl, ?_⟩
        refine ⟨by (repeat with_reducible first | refine Stp.go ?_ | refine StpE.go E ?_); rfl, ?_⟩
        refine MkM.pt (kt := .int .i64) E ?_
        clear E
        intro om w_ _ E
        refine ⟨by (repeat with_reducible first | refine Stp.go ?_ | refine StpE.go E ?_); rfl, ?_⟩
        refine ⟨by (repeat with_reducible first | refine Stp.go ?_ | refine StpE.go E ?_); rfl, ?_⟩
        (repeat with_reducible first | refine Stp.go ?_ | refine StpE.go E ?_)
        refine StpA.go E ?_
        clear E
        intro tt w_ _ E
        (repeat first | (with_reducible first | refine Stp.go ?_ | refine StpE.go E ?_ | (refine StpW.go E ?_; clear E; intro w_ E) | (refine StpA.go E ?_; clear E; intro b_ w_ hb_ E) | refine LnL.nil ?_) | ((with_reducible refine Bi.dec true ?_ ?_); focus exact rfl) | ((with_reducible refine Bi.dec false ?_ ?_); focus exact rfl) | ((with_reducible refine Bi.sdec true ?_ ?_); focus decide) | ((with_reducible refine Bi.sdec false ?_ ?_); focus decide))
        (replace E := (((((E.bMp om).bMp gm).bMp fm).bPt tt).bPt tp))
        exact fin rfl _ _ _ _ _ _ E
    · refine MkM.pt (kt := .int .i64) E ?_
      clear E
      intro om w_ _ E
      refine ⟨by (repeat with_reducible first | refine Stp.go ?_ | refine StpE.go E ?_); rfl, ?_⟩
      refine ⟨by (repeat with_reducible first | refine Stp.go ?_ | refine StpE.go E ?_); rfl, ?_⟩
      refine ⟨?_, ?_, trivial⟩
      · refine MkM.pt (kt := .int .i64) E ?_
        clear E
        intro fm w_ _ E
        refine ⟨by (repeat with_reducible first | refine Stp.go ?_ | refine StpE.go E ?_); rfl, ?_⟩
        refine ⟨by (repeat with_reducible first | refine Stp.go ?_ | refine StpE.go E ?_); rfl, ?_⟩
        (repeat with_reducible first | refine Stp.go ?_ | refine StpE.go E ?_)
        refine ⟨?_, ?_, trivial⟩
        · (repeat with_reducible first | refine Stp.go ?_ | refine StpE.go E ?_)
          refine StpA.go E ?_
          clear E
          intro tt w_ _ E
          (repeat with_reducible first | refine Stp.go ?_ | refine StpE.go E ?_)
          refine StpA.go E ?_
          clear E
          intro tp w_ _ E
          refine ⟨by (repeat with_reducible first | refine Stp.go ?_ | refine StpE.go E ?_); rfl, ?_⟩
          refine ⟨by (repeat with_reducible first | refine Stp.go ?_ | refine StpE.go E ?_); rfl, ?_⟩
          (repeat first | (with_reducible first | refine Stp.go ?_ | refine StpE.go E ?_ | (refine StpW.go E ?_; clear E; intro w_ E) | (refine StpA.go E ?_; clear E; intro b_ w_ hb_ E) | refine LnL.nil ?_) | ((with_reducible refine Bi.dec true ?_ ?_); focus exact rfl) | ((with_reducible refine Bi.dec false ?_ ?_); focus exact rfl) | ((with_reducible refine Bi.sdec true ?_ ?_); focus decide) | ((with_reducible refine Bi.sdec false ?_ ?_); focus decide))
          (replace E := (((((E.bMp om).bMp gm).bMp fm).bPt tt).bPt tp))
          exact fin rfl _ _ _ _ _ _ E
        · (repeat with_reducible first | refine Stp.go ?_ | refine StpE.go E ?_)
          refine StpA.go E ?_
          clear E
          intro tp w_ _ E
          refine ⟨by (repeat with_reducible first | refine Stp.go ?_ | refine StpE.go E ?_); rfl, ?_⟩
          refine ⟨by (repeat with_reducible first | refine Stp.go ?_ | refine StpE.go E ?_); rfl, ?_⟩
          (repeat with_reducible first | refine Stp.go ?_ | refine StpE.go E ?_)
          refine StpA.go E ?_
          clear E
          intro tt w_ _ E
          (repeat first | (with_reducible first | refine Stp.go ?_ | refine StpE.go E ?_ | (refine StpW.go E ?_; clear E; intro w_ E) | (refine StpA.go E ?_; clear E; intro b_ w_ hb_ E) | refine LnL.nil ?_) | ((with_reducible refine Bi.dec true ?_ ?_); focus exact rfl) | ((with_reducible refine Bi.dec false ?_ ?_); focus exact rfl) | ((with_reducible refine Bi.sdec true ?_ ?_); focus decide) | ((with_reducible refine Bi.sdec false ?_ ?_); focus decide))
          (replace E := (((((E.bMp om).bMp gm).bMp fm).bPt tt).bPt tp))
          exact fin rfl _ _ _ _ _ _ E
      · (repeat with_reducible first | refine Stp.go ?_ | refine StpE.go E ?_)
        refine StpA.go E ?_
        clear E
        intro tp w_ _ E
        refine ⟨by (repeat with_reducible first | refine Stp.go ?_ | refine StpE.go E ?_); rfl, ?_⟩
        refine ⟨by (repeat with_reducible first | refine Stp.go ?_ | refine StpE.go E ?_); rfl, ?_⟩
        refine MkM.pt (kt := .int .i64) E ?_
        clear E
        intro fm w_ _ E
        refine ⟨by (repeat with_reducible first | refine Stp.go ?_ | refine StpE.go E ?_); rfl, ?_⟩
        refine ⟨by (repeat with_reducible first | refine Stp.go ?_ | refine StpE.go E ?_); rfl, ?_⟩
        (repeat with_reducible first | refine Stp.go ?_ | refine StpE.go E ?_)
        refine StpA.go E ?_
        clear E
        intro tt w_ _ E
        (repeat first | (with_reducible first | refine Stp.go ?_ | refine StpE.go E ?_ | (refine StpW.go E ?_; clear E; intro w_ E) | (refine StpA.go E ?_; clear E; intro b_ w_ hb_ E) | refine LnL.nil ?_) | ((with_reducible refine Bi.dec true ?_ ?_); focus exact rfl) | ((with_reducible refine Bi.dec false ?_ ?_); focus exact rfl) | ((with_reducible refine Bi.sdec true ?_ ?_); focus decide) | ((with_reducible refine Bi.sdec false ?_ ?_); focus decide))
        (replace E := (((((E.bMp om).bMp gm).bMp fm).bPt tt).bPt tp))
        exact fin rfl _ _ _ _ _ _ E
    · (repeat with_reducible first | refine Stp.go ?_ | refine StpE.go E ?_)
      refine StpA.go E ?_
      clear E
      intro tp w_ _ E
      refine ⟨by (repeat with_reducible first | refine Stp.go ?_ | refine StpE.go E ?_); rfl, ?_⟩
      refine ⟨by (repeat with_reducible first | refine Stp.go ?_ | refine StpE.go E ?_); rfl, ?_⟩
      refine ⟨?_, ?_, trivial⟩
      · refine MkM.pt (kt := .int .i64) E ?_
        clear E
        intro fm w_ _ E
        refine ⟨by (repeat with_reducible first | refine Stp.go ?_ | refine StpE.go E ?_); rfl, ?_⟩
        refine ⟨by (repeat with_reducible first | refine Stp.go ?_ | refine StpE.go E ?_); rfl, ?_⟩
        refine MkM.pt (kt := .int .i64) E ?_
        clear E
        intro om w_ _ E
        refine ⟨by (repeat with_reducible first | refine Stp.go ?_ | refine StpE.go E ?_); rfl, ?_⟩
        refine ⟨by (repeat with_reducible first | refine Stp.go ?_ | refine StpE.go E ?_); rfl, ?_⟩
        (repeat with_reducible first | refine Stp.go ?_ | refine StpE.go E ?_)
        refine StpA.go E ?_
        clear E
        intro tt w_ _ E
        (repeat first | (with_reducible first | refine Stp.go ?_ | refine StpE.go E ?_ | (refine StpW.go E ?_; clear E; intro w_ E) | (refine StpA.go E ?_; clear E; intro b_ w_ hb_ E) | refine LnL.nil ?_) | ((with_reducible refine Bi.dec true ?_ ?_); focus exact rfl) | ((with_reducible refine Bi.dec false ?_ ?_); focus exact rfl) | ((with_reducible refine Bi.sdec true ?_ ?_); focus decide) | ((with_reducible refine Bi.sdec false ?_ ?_); focus decide))
        (replace E := (((((E.bMp om).bMp gm).bMp fm).bPt tt).bPt tp))
        exact fin rfl _ _ _ _ _ _ E
      · refine MkM.pt (kt := .int .i64) E ?_
        clear E
        intro om w_ _ E
        refine ⟨by (repeat with_reducible first | refine Stp.go ?_ | refine StpE.go E ?_); rfl, ?_⟩
        refine ⟨by (repeat with_reducible first | refine Stp.go ?_ | refine StpE.go E ?_); rfl, ?_⟩
        refine MkM.pt (kt := .int .i64) E ?_
        clear E
        intro fm w_ _ E
        refine ⟨by (repeat with_reducible first | refine Stp.go ?_ | refine StpE.go E ?_); rfl, ?_⟩
        refine ⟨by (repeat with_reducible first | refine Stp.go ?_ | refine StpE.go E ?_); rfl, ?_⟩
        (repeat with_reducible first | refine Stp.go ?_ | refine StpE.go E ?_)
        refine StpA.go E ?_
        clear E
        intro tt w_ _ E
        (repeat first | (with_reducible first | refine Stp.go ?_ | refine StpE.go E ?_ | (refine StpW.go E ?_; clear E; intro w_ E) | (refine StpA.go E ?_; clear E; intro b_ w_ hb_ E) | refine LnL.nil ?_) | ((with_reducible refine Bi.dec true ?_ ?_); focus exact rfl) | ((with_reducible refine Bi.dec false ?_ ?_); focus exact rfl) | ((with_reducible refine Bi.sdec true ?_ ?_); focus decide) | ((with_reducible refine Bi.sdec false ?_ ?_); focus decide))
        (replace E := (((((E.bMp om).bMp gm).bMp fm).bPt tt).bPt tp))
        exact fin rfl _ _ _ _ _ _ E
  · refine MkM.pt (kt := .int .i64) E ?_
    clear E
    intro om w_ _ E
    refine ⟨by (repeat with_reducible first | refine Stp.go ?_ | refine StpE.go E ?_); rfl, ?_⟩
    refine ⟨by (repeat with_reducible first | refine Stp.go ?_ | refine StpE.go E ?_); rfl, ?_⟩
    refine ⟨?_, ?_, ?_, trivial⟩
    · refine MkM.pt (kt := .int .i64) E ?_
      clear E
      intro fm w_ _ E
      refine ⟨by (repeat with_reducible first | refine Stp.go ?_ | refine StpE.go E ?_); rfl, ?_⟩
      refine ⟨by (repeat with_reducible first | refine Stp.go ?_ | refine StpE.go E ?_); rfl, ?_⟩
      refine ⟨?_, ?_, trivial⟩
      · refine MkM.pt (kt := .str) E ?_
        clear E
        intro gm w_ _ E
        refine ⟨by (repeat with_reducible first | refine Stp.go ?_ | refine StpE.go E ?_); rfl, ?_⟩
        refine ⟨by (repeat with_reducible first | refine Stp.go ?_ | refine StpE.go E ?_); rfl, ?_⟩
        (repeat with_reducible first | refine Stp.go ?_ | refine StpE.go E ?_)
        refine ⟨?_, ?_, trivial⟩
        · (repeat with_reducible first | refine Stp.go ?_ | refine StpE.go E ?_)
          refine StpA.go E ?_
          clear E
          intro tt w_ _ E
          (repeat with_reducible first | refine Stp.go ?_ | refine StpE.go E ?_)
          refine StpA.go E ?_
          clear E
          intro tp w_ _ E
          refine ⟨by (repeat with_reducible first | refine Stp.go ?_ | refine StpE.go E ?_); rfl, ?_⟩
          refine ⟨by (repeat with_reducible first | refine Stp.go ?_ | refine StpE.go E ?_); rfl, ?_⟩
          (repeat first | (with_reducible first | refine Stp.go ?_ | refine StpE.go E ?_ | (refine StpW.go E ?_; clear E; intro w_ E) | (refine StpA.go E ?_; clear E; intro b_ w_ hb_ E) | refine LnL.nil ?_) | ((with_reducible refine Bi.dec true ?_ ?_); focus exact rfl) | ((with_reducible refine Bi.dec false ?_ ?_); focus exact rfl) | ((with_reducible refine Bi.sdec true ?_ ?_); focus decide) | ((with_reducible refine Bi.sdec false ?_ ?_); focus decide))
          (replace E := (((((E.bMp om).bMp gm).bMp fm).bPt tt).bPt tp))
          exact fin rfl _ _ _ _ _ _ E
        · (repeat with_reducible first | refine Stp.go ?_ | refine StpE.go E ?_)
          refine StpA.go E ?_
          clear E
          intro tp w_ _ E
          refine ⟨by (repeat with_reducible first | refine Stp.go ?_ | refine StpE.go E ?_); rfl, ?_⟩
          refine ⟨by (repeat with_reducible first | refine Stp.go ?_ | refine StpE.go E ?_); rfl, ?_⟩
          (repeat with_reducible first | refine Stp.go ?_ | refine StpE.go E ?_)
          refine StpA.go E ?_
          clear E
          intro tt w_ _ E
          (repeat first | (with_reducible first | refine Stp.go ?_ | refine StpE.go E ?_ | (refine StpW.go E ?_; clear E; intro w_ E) | (refine StpA.go E ?_; clear E; intro b_ w_ hb_ E) | refine LnL.nil ?_) | ((with_reducible refine Bi.dec true ?_ ?_); focus exact rfl) | ((with_reducible refine Bi.dec false ?_ ?_); focus exact rfl) | ((with_reducible refine Bi.sdec true ?_ ?_); focus decide) | ((with_reducible refine Bi.sdec false ?_ ?_); focus decide))
          (replace E := (((((E.bMp om).bMp gm).bMp fm).bPt tt).bPt tp))
          exact fin rfl _ _ _ _ _ _ E
      · (repeat with_reducible first | refine Stp.go ?_ | refine StpE.go E ?_)
        refine StpA.go E ?_
        clear E
        intro tp w_ _ E
        refine ⟨by (repeat with_reducible first | refine Stp.go ?_ | refine StpE.go E ?_); rfl, ?_⟩
        refine ⟨by (repeat with_reducible first | refine Stp.go ?_ | refine StpE.go E ?_); rfl, ?_⟩
        refine MkM.pt (kt := .str) E ?_
        clear E
        intro gm w_ _ E
        refine ⟨by (repeat with_reducible first | refine Stp.go ?_ | refine StpE.go E ?_); rfl, ?_⟩
        refine ⟨by (repeat with_reducible first | refine Stp.go ?_ | refine StpE.go E ?_); rfl, ?_⟩
        (repeat with_reducible first | refine Stp.go ?_ | refine StpE.go E ?_)
        refine StpA.go E ?_
        clear E
        intro tt w_ _ E
        (repeat first | (with_reducible first | refine Stp.go ?_ | refine StpE.go E ?_ | (refine StpW.go E ?_; clear E; intro w_ E) | (refine StpA.go E ?_; clear E; intro b_ w_ hb_ E) | refine LnL.nil ?_) | ((with_reducible refine Bi.dec true ?_ ?_); focus exact rfl) | ((with_reducible refine Bi.dec false ?_ ?_); focus exact rfl) | ((with_reducible refine Bi.sdec true ?_ ?_); focus decide) | ((with_reducible refine Bi.sdec false ?_ ?_); focus decide))
        (replace E := (((((E.bMp om).bMp gm).bMp fm).bPt tt).bPt tp))
        exact fin rfl _ _ _ _ _ _ E
    · refine MkM.pt (kt := .str) E ?_
      clear E
      intro gm w_ _ E
      refine ⟨by (repeat with_reducible first | refine Stp.go ?_ | refine StpE.go E ?_); rfl, ?_⟩
      refine ⟨by (repeat with_reducible first | refine Stp.go ?_ | refine StpE.go E ?_); rfl, ?_⟩
      refine ⟨?_, ?_, trivial⟩
      · refine MkM.pt (kt := .int .i64) E ?_
        clear E
        intro fm w_ _ E
        refine ⟨by (repeat with_reducible first | refine Stp.go ?_ | refine StpE.go E ?_); rfl, ?_⟩
        refine ⟨by (repeat with_reducible first | refine Stp.go ?_ | refine StpE.go E ?_); rfl, ?_⟩
        (repeat with_reducible first | refine Stp.go ?_ | refine StpE.go E ?_)
        refine ⟨?_, ?_, trivial⟩
        · (repeat with_reducible first | refine Stp.go ?_ | refine StpE.go E ?_)
          refine StpA.go E ?_
          clear E
          intro tt w_ _ E
          (repeat with_reducible first | refine Stp.go ?_ | refine StpE.go E ?_)
          refine StpA.go E ?_
          clear E
          intro tp w_ _ E
          refine ⟨by (repeat with_reducible first | refine Stp.go ?_ | refine StpE.go E ?_); rfl, ?_⟩
          refine ⟨by (repeat with_reducible first | refine Stp.go ?_ | refine StpE.go E ?_); rfl, ?_⟩
          (repeat first | (with_reducible first | refine Stp.go ?_ | refine StpE.go E ?_ | (refine StpW.go E ?_; clear E; intro w_ E) | (refine StpA.go E ?_; clear E; intro b_ w_ hb_ E) | refine LnL.nil ?_) | ((with_reducible refine Bi.dec true ?_ ?_); focus exact rfl) | ((with_reducible refine Bi.dec false ?_ ?_); focus exact rfl) | ((with_reducible refine Bi.sdec true ?_ ?_); focus decide) | ((with_reducible refine Bi.sdec false ?_ ?_); focus decide))
          (replace E := (((((E.bMp om).bMp gm).bMp fm).bPt tt).bPt tp))
          exact fin rfl _ _ _ _ _ _ E
        · (repeat with_reducible first | refine Stp.go ?_ | refine StpE.go E ?_)
          refine StpA.go E ?_
          clear E
          intro tp w_ _ E
          refine ⟨by (repeat with_reducible first | refine Stp.go ?_ | refine StpE.go E ?_); rfl, ?_⟩
          refine ⟨by (repeat with_reducible first | refine Stp.go ?_ | refine StpE.go E ?_); rfl, ?_⟩
          (repeat with_reducible first | refine Stp.go ?_ | refine StpE.go E ?_)
          refine StpA.go E ?_
          clear E
          intro tt w_ _ E
          (repeat first | (with_reducible first | refine Stp.go ?_ | refine StpE.go E ?_ | (refine StpW.go E ?_; clear E; intro w_ E) | (refine StpA.go E ?_; clear E; intro b_ w_ hb_ E) | refine LnL.nil ?_) | ((with_reducible refine Bi.dec true ?_ ?_); focus exact rfl) | ((with_reducible refine Bi.dec false ?_ ?_); focus exact rfl) | ((with_reducible refine Bi.sdec true ?_ ?_); focus decide) | ((with_reducible refine Bi.sdec false ?_ ?_); focus decide))
          (replace E := (((((E.bMp om).bMp gm).bMp fm).bPt tt).bPt tp))
          exact fin rfl _ _ _ _ _ _ E
      · (repeat with_reducible first | refine Stp.go ?_ | refine StpE.go E ?_)
        refine StpA.go E ?_
        clear E
        intro tp w_ _ E
        refine ⟨by (repeat with_reducible first | refine Stp.go ?_ | refine StpE.go E ?_); rfl, ?_⟩
        refine ⟨by (repeat with_reducible first | refine Stp.go ?_ | refine StpE.go E ?_); rfl, ?_⟩
        refine MkM.pt (kt := .int .i64) E ?_
        clear E
        intro fm w_ _ E
        refine ⟨by (repeat with_reducible first | refine Stp.go ?_ | refine StpE.go E ?_); rfl, ?_⟩
        refine ⟨by (repeat with_reducible first | refine Stp.go ?_ | refine StpE.go E ?_); rfl, ?_⟩
        (repeat with_reducible first | refine Stp.go ?_ | refine StpE.go E ?_)
        refine StpA.go E ?_
        clear E
        intro tt w_ _ E
        (repeat first | (with_reducible first | refine Stp.go ?_ | refine StpE.go E ?_ | (refine StpW.go E ?_; clear E; intro w_ E) | (refine StpA.go E ?_; clear E; intro b_ w_ hb_ E) | refine LnL.nil ?_) | ((with_reducible refine Bi.dec true ?_ ?_); focus exact rfl) | ((with_reducible refine Bi.dec false ?_ ?_); focus exact rfl) | ((with_reducible refine Bi.sdec true ?_ ?_); focus decide) | ((with_reducible refine Bi.sdec false ?_ ?_); focus decide))
        (replace E := (((((E.bMp om).bMp gm).bMp fm).bPt tt).bPt tp))
        exact fin rfl _ _ _ _ _ _ E
    · (repeat with_reducible first | refine Stp.go ?_ | refine StpE.go E ?_)
      refine StpA.go E ?_
      clear E
      intro tp w_ _ E
      refine ⟨by (repeat with_reducible first | refine Stp.go ?_ | refine StpE.go E ?_); rfl, ?_⟩
      refine ⟨by (repeat with_reducible first | refine Stp.go ?_ | refine StpE.go E ?_); rfl, ?_⟩
      refine ⟨?_, ?_, trivial⟩
      · refine MkM.pt (kt := .int .i64) E ?_
        clear E
        intro fm w_ _ E
        refine ⟨by (repeat with_reducible first | refine Stp.go ?_ | refine StpE.go E ?_); rfl, ?_⟩
        refine ⟨by (repeat with_reducible first | refine Stp.go ?_ | refine StpE.go E ?_); rfl, ?_⟩
        refine MkM.pt (kt := .str) E ?_
        clear E
        intro gm w_ _ E
        refine ⟨by (repeat with_reducible first | refine Stp.go ?_ | refine StpE.go E ?_); rfl, ?_⟩
        refine ⟨by (repeat with_reducible first | refine Stp.go ?_ | refine StpE.go E ?_); rfl, ?_⟩
        (repeat with_reducible first | refine Stp.go ?_ | refine StpE.go E ?_)
        refine StpA.go E ?_
        clear E
        intro tt w_ _ E
        (repeat first | (with_reducible first | refine Stp.go ?_ | refine StpE.go E ?_ | (refine StpW.go E ?_; clear E; intro w_ E) | (refine StpA.go E ?_; clear E; intro b_ w_ hb_ E) | refine LnL.nil ?_) | ((with_reducible refine Bi.dec true ?_ ?_); focus exact rfl) | ((with_reducible refine Bi.dec false ?_ ?_); focus exact rfl) | ((with_reducible refine Bi.sdec true ?_ ?_); focus decide) | ((with_reducible refine Bi.sdec false ?_ ?_); focus decide))
        (replace E := (((((E.bMp om).bMp gm).bMp fm).bPt tt).bPt tp))
        exact fin rfl _ _ _ _ _ _ E
      · refine MkM.pt (kt := .str) E ?_
        clear E
        intro gm w_ _ E
        refine ⟨by (repeat with_reducible first | refine Stp.go ?_ | refine StpE.go E ?_); rfl, ?_⟩
        refine ⟨by (repeat with_reducible first | refine Stp.go ?_ | refine StpE.go E ?_); rfl, ?_⟩
        refine MkM.pt (kt := .int .i64) E ?_
        clear E
        intro fm w_ _ E
        refine ⟨by (repeat with_reducible first | refine Stp.go ?_ | refine StpE.go E ?_); rfl, ?_⟩
        refine ⟨by (repeat with_reducible first | refine Stp.go ?_ | refine StpE.go E ?_); rfl, ?_⟩
        (repeat with_reducible first | refine Stp.go ?_ | refine StpE.go E ?_)
        refine StpA.go E ?_
        clear E
        intro tt w_ _ E
        (repeat first | (with_reducible first | refine Stp.go ?_ | refine StpE.go E ?_ | (refine StpW.go E ?_; clear E; intro w_ E) | (refine StpA.go E ?_; clear E; intro b_ w_ hb_ E) | refine LnL.nil ?_) | ((with_reducible refine Bi.dec true ?_ ?_); focus exact rfl) | ((with_reducible refine Bi.dec false ?_ ?_); focus exact rfl) | ((with_reducible refine Bi.sdec true ?_ ?_); focus decide) | ((with_reducible refine Bi.sdec false ?_ ?_); focus decide))
        (replace E := (((((E.bMp om).bMp gm).bMp fm).bPt tt).bPt tp))
        exact fin rfl _ _ _ _ _ _ E
  · (repeat with_reducible first | refine Stp.go ?_ | refine StpE.go E ?_)
    refine StpA.go E ?_
    clear E
    intro tp w_ _ E
    refine ⟨by (repeat with_reducible first | refine Stp.go ?_ | refine StpE.go E ?_); rfl, ?_⟩
    refine ⟨by (repeat with_reducible first | refine Stp.go ?_ | refine StpE.go E ?_); rfl, ?_⟩
    refine ⟨?_, ?_, ?_, trivial⟩
    · refine MkM.pt (kt := .int .i64) E ?_
      clear E
      intro fm w_ _ E
      refine ⟨by (repeat with_reducible first | refine Stp.go ?_ | refine StpE.go E ?_); rfl, ?_⟩
      refine ⟨by (repeat with_reducible first | refine Stp.go ?_ | refine StpE.go E ?_); rfl, ?_⟩
      refine ⟨?_, ?_, trivial⟩
      · refine MkM.pt (kt := .str) E ?_
        clear E
        intro gm w_ _ E
        refine ⟨by (repeat with_reducible first | refine Stp.go ?_ | refine StpE.go E ?_); rfl, ?_⟩
        refine ⟨by (repeat with_reducible first | refine Stp.go ?_ | refine StpE.go E ?_); rfl, ?_⟩
        refine MkM.pt (kt := .int .i64) E ?_
        clear E
        intro om w_ _ E
        refine ⟨by (repeat with_reducible first | refine Stp.go ?_ | refine StpE.go E ?_); rfl, ?_⟩
        refine ⟨by (repeat with_reducible first | refine Stp.go ?_ | refine StpE.go E ?_); rfl, ?_⟩
        (repeat with_reducible first | refine Stp.go ?_ | refine StpE.go E ?_)
        refine StpA.go E ?_
        clear E
        intro tt w_ _ E
        (repeat first | (with_reducible first | refine Stp.go ?_ | refine StpE.go E ?_ | (refine StpW.go E ?_; clear E; intro w_ E) | (refine StpA.go E ?_; clear E; intro b_ w_ hb_ E) | refine LnL.nil ?_) | ((with_reducible refine Bi.dec true ?_ ?_); focus exact rfl) | ((with_reducible refine Bi.dec false ?_ ?_); focus exact rfl) | ((with_reducible refine Bi.sdec true ?_ ?_); focus decide) | ((with_reducible refine Bi.sdec false ?_ ?_); focus decide))
        (replace E := (((((E.bMp om).bMp gm).bMp fm).bPt tt).bPt tp))
        exact fin rfl _ _ _ _ _ _ E
      · refine MkM.pt (kt := .int .i64) E ?_
        clear E
        intro om w_ _ E
        refine ⟨by (repeat with_reducible first | refine Stp.go ?_ | refine StpE.go E ?_); rfl, ?_⟩
        refine ⟨by (repeat with_reducible first | refine Stp.go ?_ | refine StpE.go E ?_); rfl, ?_⟩
        refine MkM.pt (kt := .str) E ?_
        clear E
        intro gm w_ _ E
        refine ⟨by (repeat with_reducible first | refine Stp.go ?_ | refine StpE.go E ?_); rfl, ?_⟩
        refine ⟨by (repeat with_reducible first | refine Stp.go ?_ | refine StpE.go E ?_); rfl, ?_⟩
        (repeat with_reducible first | refine Stp.go ?_ | refine StpE.go E ?_)
        refine StpA.go E ?_
        clear E
        intro tt w_ _ E
        (repeat first | (with_reducible first | refine Stp.go ?_ | refine StpE.go E ?_ | (refine StpW.go E ?_; clear E; intro w_ E) | (refine StpA.go E ?_; clear E; intro b_ w_ hb_ E) | refine LnL.nil ?_) | ((with_reducible refine Bi.dec true ?_ ?_); focus exact rfl) | ((with_reducible refine Bi.dec false ?_ ?_); focus exact rfl) | ((with_reducible refine Bi.sdec true ?_ ?_); focus decide) | ((with_reducible refine Bi.sdec false ?_ ?_); focus decide))
        (replace E := (((((E.bMp om).bMp gm).bMp fm).bPt tt).bPt tp))
        exact fin rfl _ _ _ _ _ _ E
    · refine MkM.pt (kt := .str) E ?_
      clear E
      intro gm w_ _ E
      refine ⟨by (repeat with_reducible first | refine Stp.go ?_ | refine StpE.go E ?_); rfl, ?_⟩
      refine ⟨by (repeat with_reducible first | refine Stp.go ?_ | refine StpE.go E ?_); rfl, ?_⟩
      refine ⟨?_, ?_, trivial⟩
      · refine MkM.pt (kt := .int .i64) E ?_
        clear E
        intro fm w_ _ E
        refine ⟨by (repeat with_reducible first | refine Stp.go ?_ | refine StpE.go E ?_); rfl, ?_⟩
        refine ⟨by (repeat with_reducible first | refine Stp.go ?_ | refine StpE.go E ?_); rfl, ?_⟩
        refine MkM.pt (kt := .int .i64) E ?_
        clear E
        intro om w_ _ E
        refine ⟨by (repeat with_reducible first | refine Stp.go ?_ | refine StpE.go E ?_); rfl, ?_⟩
        refine ⟨by (repeat with_reducible first | refine Stp.go ?_ | refine StpE.go E ?_); rfl, ?_⟩
        (repeat with_reducible first | refine Stp.go ?_ | refine StpE.go E ?_)
        refine StpA.go E ?_
        clear E
        intro tt w_ _ E
        (repeat first | (with_reducible first | refine Stp.go ?_ | refine StpE.go E ?_ | (refine StpW.go E ?_; clear E; intro w_ E) | (refine StpA.go E ?_; clear E; intro b_ w_ hb_ E) | refine LnL.nil ?_) | ((with_reducible refine Bi.dec true ?_ ?_); focus exact rfl) | ((with_reducible refine Bi.dec false ?_ ?_); focus exact rfl) | ((with_reducible refine Bi.sdec true ?_ ?_); focus decide) | ((with_reducible refine Bi.sdec false ?_ ?_); focus decide))
        (replace E := (((((E.bMp om).bMp gm).bMp fm).bPt tt).bPt tp))
        exact fin rfl _ _ _ _ _ _ E
      · refine MkM.pt (kt := .int .i64) E ?_
        clear E
        intro om w_ _ E
        refine ⟨by (repeat with_reducible first | refine Stp.go ?_ | refine StpE.go E ?_); rfl, ?_⟩
        refine ⟨by (repeat with_reducible first | refine Stp.go ?_ | refine StpE.go E ?_); rfl, ?_⟩
        refine MkM.pt (kt := .int .i64) E ?_
        clear E
        intro fm w_ _ E
        refine ⟨by (repeat with_reducible first | refine Stp.go ?_ | refine StpE.go E ?_); rfl, ?_⟩
        refine ⟨by (repeat with_reducible first | refine Stp.go ?_ | refine StpE.go E ?_); rfl, ?_⟩
        (repeat with_reducible first | refine Stp.go ?_ | refine StpE.go E ?_)
        refine StpA.go E ?_
        clear E
        intro tt w_ _ E
        (repeat first | (with_reducible first | refine Stp.go ?_ | refine StpE.go E ?_ | (refine StpW.go E ?_; clear E; intro w_ E) | (refine StpA.go E ?_; clear E; intro b_ w_ hb_ E) | refine LnL.nil ?_) | ((with_reducible refine Bi.dec true ?_ ?_); focus exact rfl) | ((with_reducible refine Bi.dec false ?_ ?_); focus exact rfl) | ((with_reducible refine Bi.sdec true ?_ ?_); focus decide) | ((with_reducible refine Bi.sdec false ?_ ?_); focus decide))
        (replace E := (((((E.bMp om).bMp gm).bMp fm).bPt tt).bPt tp))
        exact fin rfl _ _ _ _ _ _ E
    · refine MkM.pt (kt := .int .i64) E ?_
      clear E
      intro om w_ _ E
      refine ⟨by (repeat with_reducible first | refine Stp.go ?_ | refine StpE.go E ?_); rfl, ?_⟩
      refine ⟨by (repeat with_reducible first | refine Stp.go ?_ | refine StpE.go E ?_); rfl, ?_⟩
      refine ⟨?_, ?_, trivial⟩
      · refine MkM.pt (kt := .int .i64) E ?_
        clear E
        intro fm w_ _ E
        refine ⟨by (repeat with_reducible first | refine Stp.go ?_ | refine StpE.go E ?_); rfl, ?_⟩
        refine ⟨by (repeat with_reducible first | refine Stp.go ?_ | refine StpE.go E ?_); rfl, ?_⟩
        refine MkM.pt (kt := .str) E ?_
        clear E
        intro gm w_ _ E
        refine ⟨by (repeat with_reducible first | refine Stp.go ?_ | refine StpE.go E ?_); rfl, ?_⟩
        refine ⟨by (repeat with_reducible first | refine Stp.go ?_ | refine StpE.go E ?_); rfl, ?_⟩
        (repeat with_reducible first | refine Stp.go ?_ | refine StpE.go E ?_)
        refine StpA.go E ?_
        clear E
        intro tt w_ _ E
        (repeat first | (with_reducible first | refine Stp.go ?_ | refine StpE.go E ?_ | (refine StpW.go E ?_; clear E; intro w_ E) | (refine StpA.go E ?_; clear E; intro b_ w_ hb_ E) | refine LnL.nil ?_) | ((with_reducible refine Bi.dec true ?_ ?_); focus exact rfl) | ((with_reducible refine Bi.dec false ?_ ?_); focus exact rfl) | ((with_reducible refine Bi.sdec true ?_ ?_); focus decide) | ((with_reducible refine Bi.sdec false ?_ ?_); focus decide))
        (replace E := (((((E.bMp om).bMp gm).bMp fm).bPt tt).bPt tp))
        exact fin rfl _ _ _ _ _ _ E
      · refine MkM.pt (kt := .str) E ?_
        clear E
        intro gm w_ _ E
        refine ⟨by (repeat with_reducible first | refine Stp.go ?_ | refine StpE.go E ?_); rfl, ?_⟩
        refine ⟨by (repeat with_reducible first | refine Stp.go ?_ | refine StpE.go E ?_); rfl, ?_⟩
        refine MkM.pt (kt := .int .i64) E ?_
        clear E
        intro fm w_ _ E
        refine ⟨by (repeat with_reducible first | refine Stp.go ?_ | refine StpE.go E ?_); rfl, ?_⟩
        refine ⟨by (repeat with_reducible first | refine Stp.go ?_ | refine StpE.go E ?_); rfl, ?_⟩
        (repeat with_reducible first | refine Stp.go ?_ | refine StpE.go E ?_)
        refine StpA.go E ?_
        clear E
        intro tt w_ _ E
        (repeat first | (with_reducible first | refine Stp.go ?_ | refine StpE.go E ?_ | (refine StpW.go E ?_; clear E; intro w_ E) | (refine StpA.go E ?_; clear E; intro b_ w_ hb_ E) | refine LnL.nil ?_) | ((with_reducible refine Bi.dec true ?_ ?_); focus exact rfl) | ((with_reducible refine Bi.dec false ?_ ?_); focus exact rfl) | ((with_reducible refine Bi.sdec true ?_ ?_); focus decide) | ((with_reducible refine Bi.sdec false ?_ ?_); focus decide))
        (replace E := (((((E.bMp om).bMp gm).bMp fm).bPt tt).bPt tp))
        exact fin rfl _ _ _ _ _ _ E
end Go.Proofs.YtnnhmahemklnkaaGreatDoor

/-
  Trees: all files.
-/
namespace Go.Proofs.YtnnhmahemklnkaaGreatDoor
open Go Go.Sh
set_option maxRecDepth 100000
set_option linter.unusedVariables false
set_option linter.unusedSimpArgs false
variable {w0 w : World} {F : Nat → Prop} {l : List As}
variable {D : List Row} {X : PT} {T : Tr} {β : Int → Nat}

theorem u_sl_File : PP.underlying Ty.sl_tree_File = some (.slice Ty.tree_File) := by kernel_rfl
theorem n_File : sizeK PP Ty.tree_File = some 12 := by kernel_rfl
abbrev f0F : Fl := ⟨emp, d0, emp⟩
theorem z_File : zeroK PP Ty.tree_File = some f0F.V := by kernel_rfl
theorem e_File : el3 PP Ty.tree_File = some (some f0F.V, 12, 144) := by kernel_rfl
theorem fl_scal (x : Fl) : x.cs.all scalV = true := rfl
theorem fcs_app (xs : List Fl) (x : Fl) : fcs (xs ++ [x]) = fcs xs ++ x.cs := by simp [fcs]
theorem fcs_len (xs : List Fl) : (fcs xs).length = xs.length * 12 := by
  induction xs with
  | nil => rfl
  | cons d r ih =>
    rw [fcs, List.flatMap_cons, List.length_append, List.length_cons]
    have : (List.flatMap Fl.cs r).length = r.length * 12 := ih
    rw [this]
    show 12 + r.length * 12 = (r.length + 1) * 12
    omega
theorem BdS.file {x : Fl} {k : Value → World → Prop} (E : Hs w0 F w l) (hk : ∀ v w', Hs w0 F w' (slA v Ty.tree_File 12 x.cs :: l) → k v w') : Ef PP (Instr.buildSlice Ty.sl_tree_File 1 #[(0, x.V)]) w k :=
  BdS.sl E u_sl_File n_File z_File (by omega) (by omega) (xs := x.cs) (by kernel_rfl) rfl hk
theorem Files_ok (h : Tie D X T β) (hi : Inv T) (E : Hs w0 F w (trA X :: Pool D :: l)) :
    Ca PP Fn.tree_Tree_Files #[ptr X.t] w fun r w' => Hs w0 F w' (slA r Ty.tree_File 12 (fcs T.files) :: trA X :: Pool D :: l) := by
  refine S.tree_Tree_Files.calls ?_
  unfold S.tree_Tree_Files
  (repeat with_reducible (refine StpA.go E ?_; clear E; intro b_ w_ hb_ E))
  (revert b_; intro t3 hbt3 E)
  (intro J3 hJ3)
  refine Eq.nt u_p_tree rfl ?_
  replace E := Hs.openT (E.bIx 1)
  (repeat with_reducible first | refine Stp.go ?_ | refine StpE.go E ?_)
  obtain ⟨r0, hr0, hr1, hr2⟩ := h.root
  have hg0 : T.get 0 = some r0.f := hi.get.2 ⟨h.mem.2 ⟨r0, hr0, rfl⟩, hr1⟩
  have hr0T := h.mem.2 ⟨r0, hr0, rfl⟩
  rw [← hr2]
  refine (all_ok E).mono ?_
  clear E
  rintro r w_ ⟨a, rfl, E⟩
  obtain ⟨rk, hrk, hrb⟩ := hi.rankB
  have hmap := allP_map h hi 2000 hr0
  have hlen := below_len hi 2000 hr0T
  rw [← hmap, List.length_map] at hlen
  have hfiles : T.files = (allP X T 2000 r0).map fun k => T.fl k.f := by
    unfold Tr.files
    rw [hg0]
    simp only []
    rw [← hmap, List.map_map]
    rfl
  rw [hfiles]
  have hmemB : ∀ m ∈ allP X T 2000 r0, m ∈ X.ps := fun m hm => allP_mem h hi 2000 hr0 hm
  have hit := all_iter (w0 := w0) (F := F) h hi hrk hrb 2000 hr0 (by omega) a
  generalize allP X T 2000 r0 = B at hlen hmemB hit hfiles ⊢
  replace E := E.nilSl Ty.tree_File 12
  -- slA, pt a, tb, fm, gm, om, NT, DT, pt t3, Pool, l   (some order)
  (replace E := ((E.bPt t3).bSl (.slice none 0 0)))
  (replace E := (((((E.bIx 7).bIx 3).bIx 9).bIx 4).bIx 4))
  refine RFo.hs (rest := tb X :: mp X.fm (.int .i64) X.fM :: mp X.gm .str X.gM :: mp X.om (.int .i64) X.oM :: DT X.ds :: l) rfl b_all1 hit (fun pre ks => ∃ v, ks = [slA v Ty.tree_File 12 (fcs (pre.map fun k => T.fl k.f)), pt t3 (oc [v] Ty.sl_tree_File), Pool D]) (fun _ _ _ => False) (fun _ _ => False)
    (ks := [slA (.slice none 0 0) Ty.tree_File 12 [], pt t3 (oc [.slice none 0 0] Ty.sl_tree_File), Pool D]) E ⟨_, rfl⟩ ?_ ?_ (fun _ _ _ _ _ _ h _ => h.elim) (fun _ _ _ _ _ h _ => h.elim)
  · clear E
    rintro r L0 D0 pre k w_ _ rest' Rn Re Rr hL0 hD0 hp ⟨v, rfl⟩ E hn2 - -
    simp only [List.cons_append, List.nil_append] at E
    have hkX := hmemB k (List.mem_of_getElem? hp.2)
    have hpl : pre.length < B.length := (List.getElem?_eq_some_iff.1 hp.2).1
    (repeat with_reducible first | refine Stp.go ?_ | refine StpE.go E ?_ | (refine StpW.go E ?_; clear E; intro w_ E))
    refine Ld.nt E (by simp) hkX (v := k.dv) rfl ?_
    skip
    have hdv : ∀ {w l}, Hs w0 F w l → Pool D ∈ l → RdS w0 F l 1 k.f.data.size k.dv (bts k.f.data) := by
      intro w l E hm
      have := (h.data k hkX).read E hm
      have hsz : (bts k.f.data).length = k.f.data.size := by simp [bts]
      rwa [hsz] at this
    refine (hdv E (by simp)).cvb E u_sl_uint8 u_string u_uint8 ?_
    refine (path_ok h hi hkX (by simp) E).mono ?_
    clear E
    rintro r0' w_ ⟨rfl, E⟩
    refine ⟨by (repeat with_reducible refine StpE.go E ?_); rfl, Ld.nt E (by simp) hkX (v := k.dv) rfl rfl, (hdv E (by simp)).cvb E u_sl_uint8 u_string u_uint8 rfl, ?_⟩
    replace E := E.bIx 5
    refine (stat_nt h hkX (by simp) E).mono ?_
    clear E
    rintro r0' w_ ⟨rfl, E⟩
    refine ⟨by (repeat with_reducible refine StpE.go E ?_); rfl, Ld.nt E (by simp) hkX (v := k.dv) rfl rfl, (hdv E (by simp)).cvb E u_sl_uint8 u_string u_uint8 rfl, ?_⟩
    (repeat with_reducible refine StpE.go E ?_)
    refine BdS.file (x := T.fl k.f) E ?_
    clear E
    intro v2 w_ E
    skip
    refine ⟨by (repeat with_reducible refine StpE.go E ?_); rfl, ?_⟩
    have hsl := Src.slice (P := PP) (E.sat (slA v2 Ty.tree_File 12 (T.fl k.f).cs) (by simp)) (n := 1) rfl (by omega) (fl_scal _)
    have hdl := fcs_len (pre.map fun k => T.fl k.f)
    rw [List.length_map] at hdl
    refine Ap.el E (i := 4) rfl u_sl_File ⟨_, u_sl_File, fun _ h => by cases h⟩ e_File (by omega) hsl rfl (by rw [hdl]; omega) (by rw [hdl]; omega) ?_
    clear E
    intro s' w_ E
    (try simp only [List.set_cons_zero, List.set_cons_succ, List.cons_append, List.nil_append, Nat.zero_add, Nat.add_zero] at E)
    (repeat with_reducible (refine StpW.go E ?_; clear E; intro w_ E))
    refine hn2 _ _ ⟨s', rfl⟩ ?_
    simp only [List.cons_append, List.nil_append]
    replace E := E.tl
    rw [List.map_append, List.map_singleton, fcs_app]
    (replace E := ((((((E.bIx 0).bIx 5).bIx 5).bIx 5).bIx 5).bIx 5))
    exact E
  · clear E
    rintro D0 w_ xs _ hD0 hxs ⟨v, rfl⟩ E
    rw [hxs] at E
    simp only [List.cons_append, List.nil_append] at E
    (repeat with_reducible first | refine Stp.go ?_ | refine StpE.go E ?_ | (refine StpW.go E ?_; clear E; intro w_ E) | (apply hJ3; intro u_))
    show Hs w0 F w_ (slA v Ty.tree_File 12 (fcs T.files) :: trA X :: Pool D :: l)
    rw [hfiles]
    (replace E := ((((((((E.bIx 2).bIx 1).bIx 9).bIx 5).bIx 9).bIx 9).bIx 9).bIx 9))
    replace E := Hs.closeT X E
    (replace E := (((E.bIx 2).bIx 1).bIx 2))
    exact E.drop (List.Sublist.cons_cons _ (List.Sublist.cons_cons _ (List.Sublist.cons_cons _ (List.sublist_append_right [_, _] l))))
end Go.Proofs.YtnnhmahemklnkaaGreatDoor

/-
  Laws: whether two lists of files, or of handles, are the same.
-/
namespace Go.Proofs.YtnnhmahemklnkaaGreatDoor
open Go Go.Sh
set_option maxRecDepth 100000
set_option linter.unusedVariables false
set_option linter.unusedSimpArgs false
variable {w0 w : World} {F : Nat → Prop} {l : List As}

theorem fl_ceq {x y : Fl} : ceqL x.cs y.cs = true ↔ x = y := by
  obtain ⟨p, d, s⟩ := x
  obtain ⟨q, e, t⟩ := y
  cases d; cases e
  simp only [Fl.cs, ceqL, ceq, Bool.and_eq_true, decide_eq_true_eq, Fl.mk.injEq, Dr.mk.injEq, and_true, and_assoc]
abbrev lkFile : List LK := [.str, .int .i64, .int .i64, .int .i64, .int .i64, .int .i64, .int .i64, .str, .str, .str, .str, .str]
theorem lv_File : lv PP 20 Ty.tree_File = some lkFile := by kernel_rfl
theorem st_File : isSt PP Ty.tree_File = true := by kernel_rfl
theorem g_File : PP.eqGuardType PP.depth Ty.tree_File = false := by kernel_rfl
theorem fcs_drop (ds : List Fl) : ∀ i : Nat, (fcs ds).drop (i * 12) = fcs (ds.drop i) := by
  induction ds with
  | nil => intro i; simp
  | cons d r ih =>
    intro i
    cases i with
    | zero => simp
    | succ i =>
      rw [fcs, List.flatMap_cons, show (i + 1) * 12 = i * 12 + 12 by omega]
      simp only [Fl.cs, List.cons_append, List.nil_append, List.drop_succ_cons]
      exact ih i
theorem eqFiles_ok {u v : Value} {xs ys : List Fl} (hn : xs.length ≤ 1000000000) (E : Hs w0 F w l) (h1 : RdS w0 F l 12 xs.length u (fcs xs)) (h2 : RdS w0 F l 12 ys.length v (fcs ys)) :
    Ca PP Fn.slices_Equal_sl_tree_File_tree_File #[u, v] w fun r w' => ∃ b, r = .bool b ∧ (b = true ↔ xs = ys) ∧ Hs w0 F w' l := by
  refine S.slices_Equal_sl_tree_File_tree_File.calls ?_
  unfold S.slices_Equal_sl_tree_File_tree_File
  refine h1.len ?_
  refine h2.len ?_
  refine Bi.neq (fun h => ?_) fun hlen => ?_
  · (repeat with_reducible refine Stp.go ?_)
    exact ⟨false, rfl, ⟨(fun h => by cases h), fun e => absurd (by rw [e]) h⟩, E⟩
  have hlen : xs.length = ys.length := by omega
  (repeat with_reducible refine Stp.go ?_)
  refine h1.len ?_
  refine ⟨fun l1 w1 => ∃ i : Nat, l1 = [i64 i] ∧ i ≤ xs.length ∧ xs.take i = ys.take i ∧ Hs w0 F w1 l, fun l1 _ => match l1 with | [.int _ i] => xs.length - i.toNat | _ => 0, ⟨0, rfl, Nat.zero_le _, rfl, E⟩, ?_⟩
  clear E
  rintro t u1 w1 ⟨i, e, hi, htk, E⟩
  cases e
  refine Bi.lss ?_ ?_ <;> intro hlt <;> (repeat with_reducible first | refine Stp.go ?_ | (refine StpW.go E ?_; clear E; intro w_ E))
  · have hd : (fcs xs).drop (((i : Int)).toNat * 12) = (xs[i]'(by omega)).cs ++ fcs (xs.drop (i + 1)) := by
      rw [Int.toNat_natCast, fcs_drop, List.drop_eq_getElem_cons (by omega)]; rfl
    have hd2 : (fcs ys).drop (((i : Int)).toNat * 12) = (ys[i]'(by omega)).cs ++ fcs (ys.drop (i + 1)) := by
      rw [Int.toNat_natCast, fcs_drop, List.drop_eq_getElem_cons (by omega)]; rfl
    refine h1.ix (by omega) (by omega) (by omega) ?_
    intro a ha
    rw [hd] at ha
    refine ha.lda E (m := 12) (ds := (xs[i]'(by omega)).cs) rfl rfl (by omega) ?_
    refine h2.ix (by omega) (by omega) (by omega) ?_
    intro a2 ha2
    rw [hd2] at ha2
    refine ha2.lda E (m := 12) (ds := (ys[i]'(by omega)).cs) rfl rfl (by omega) ?_
    refine EqS.n lv_File st_File g_File rfl rfl ?_
    have ex : xs[i]? = some (xs[i]'(by omega)) := List.getElem?_eq_getElem (by omega)
    have ey : ys[i]? = some (ys[i]'(by omega)) := List.getElem?_eq_getElem (by omega)
    cases hc : ceqL (xs[i]'(by omega)).cs (ys[i]'(by omega)).cs with
    | false =>
      simp only [Bool.not_false]
      (repeat with_reducible refine Stp.go ?_)
      refine ⟨false, rfl, ⟨(fun h => by cases h), fun e => ?_⟩, E⟩
      subst e
      rw [fl_ceq.2 rfl] at hc
      cases hc
    | true =>
      simp only [Bool.not_true]
      (repeat with_reducible refine Stp.go ?_)
      refine Bi.add (by omega) ?_
      exact ⟨⟨i + 1, by simp, by omega, by rw [List.take_add_one, List.take_add_one, htk, ex, ey, fl_ceq.1 hc], E⟩, by simp only []; omega⟩
  · refine ⟨true, rfl, ⟨fun _ => ?_, fun _ => rfl⟩, E⟩
    rwa [List.take_of_length_le (by omega), List.take_of_length_le (by omega)] at htk
theorem eqInts_ok {u v : Value} {xs ys : List Int} (hn : xs.length ≤ 1000000000) (E : Hs w0 F w l) (h1 : RdS w0 F l 1 xs.length u (xs.map i64)) (h2 : RdS w0 F l 1 ys.length v (ys.map i64)) :
    Ca PP Fn.slices_Equal_sl_int_int #[u, v] w fun r w' => ∃ b, r = .bool b ∧ (b = true ↔ xs = ys) ∧ Hs w0 F w' l := by
  refine S.slices_Equal_sl_int_int.calls ?_
  unfold S.slices_Equal_sl_int_int
  refine h1.len ?_
  refine h2.len ?_
  refine Bi.neq (fun h => ?_) fun hlen => ?_
  · (repeat with_reducible refine Stp.go ?_)
    exact ⟨false, rfl, ⟨(fun h => by cases h), fun e => absurd (by rw [e]) h⟩, E⟩
  have hlen : xs.length = ys.length := by omega
  (repeat with_reducible refine Stp.go ?_)
  refine h1.len ?_
  refine ⟨fun l1 w1 => ∃ i : Nat, l1 = [i64 i] ∧ i ≤ xs.length ∧ xs.take i = ys.take i ∧ Hs w0 F w1 l, fun l1 _ => match l1 with | [.int _ i] => xs.length - i.toNat | _ => 0, ⟨0, rfl, Nat.zero_le _, rfl, E⟩, ?_⟩
  clear E
  rintro t u1 w1 ⟨i, e, hi, htk, E⟩
  cases e
  refine Bi.lss ?_ ?_ <;> intro hlt <;> (repeat with_reducible first | refine Stp.go ?_ | (refine StpW.go E ?_; clear E; intro w_ E))
  · have ex : xs[i]? = some (xs[i]'(by omega)) := List.getElem?_eq_getElem (by omega)
    have ey : ys[i]? = some (ys[i]'(by omega)) := List.getElem?_eq_getElem (by omega)
    have hd : ((xs.map i64).drop (((i : Int)).toNat * 1))[0]? = some (i64 (xs[i]'(by omega))) := by
      rw [Int.toNat_natCast, Nat.mul_one, List.getElem?_drop, Nat.add_zero, List.getElem?_map, ex]; rfl
    have hd2 : ((ys.map i64).drop (((i : Int)).toNat * 1))[0]? = some (i64 (ys[i]'(by omega))) := by
      rw [Int.toNat_natCast, Nat.mul_one, List.getElem?_drop, Nat.add_zero, List.getElem?_map, ey]; rfl
    refine h1.ix (by omega) (by omega) (by omega) ?_
    intro a ha
    refine ha.ld E hd ?_
    refine h2.ix (by omega) (by omega) (by omega) ?_
    intro a2 ha2
    refine ha2.ld E hd2 ?_
    refine Bi.neq (fun h => ?_) fun h => ?_
    · (repeat with_reducible refine Stp.go ?_)
      refine ⟨false, rfl, ⟨(fun h => by cases h), fun e => ?_⟩, E⟩
      subst e
      exact absurd rfl h
    · have h : xs[i]'(by omega) = ys[i]'(by omega) := Classical.not_not.1 (by simpa using h)
      (repeat with_reducible refine Stp.go ?_)
      refine Bi.add (by omega) ?_
      exact ⟨⟨i + 1, by simp, by omega, by rw [List.take_add_one, List.take_add_one, htk, ex, ey, h], E⟩, by simp only []; omega⟩
  · refine ⟨true, rfl, ⟨fun _ => ?_, fun _ => rfl⟩, E⟩
    rwa [List.take_of_length_le (by omega), List.take_of_length_le (by omega)] at htk
end Go.Proofs.YtnnhmahemklnkaaGreatDoor

/-
  Laws: lists of operations; Few; a tree behind operations.
-/
namespace Go.Proofs.YtnnhmahemklnkaaGreatDoor
open Go Go.Sh
set_option maxRecDepth 100000
set_option linter.unusedVariables false
set_option linter.unusedSimpArgs false
variable {w0 w : World} {F : Nat → Prop} {l : List As}
variable {D : List Row} {X : PT} {T : Tr} {β : Int → Nat}

abbrev acs (xs : List Ac) : List Value := (xs.map Ac.C).flatten
theorem acs_of : ∀ {rows : List (List Value)}, (∀ r ∈ rows, fitWL lkAct r) → ∃ xs : List Ac, rows = xs.map Ac.C ∧ ∀ x ∈ xs, x.Ok
  | [], _ => ⟨[], rfl, fun _ h => by cases h⟩
  | r :: rs, h => by
    obtain ⟨x, rfl, hx⟩ := act_of (h r List.mem_cons_self)
    obtain ⟨xs, rfl, hxs⟩ := acs_of (fun y hy => h y (List.mem_cons_of_mem _ hy))
    exact ⟨x :: xs, rfl, fun y hy => by
      rcases List.mem_cons.1 hy with rfl | hy
      · exact hx
      · exact hxs y hy⟩
theorem acs_at {xs : List Ac} : ∀ {i : Nat} {x : Ac}, xs[i]? = some x → ((acs xs).drop (i * 20)).take 20 = x.C := by
  induction xs with
  | nil => intro i x h; simp at h
  | cons y r ih =>
    intro i x h
    have e : acs (y :: r) = y.C ++ acs r := by simp [acs]
    cases i with
    | zero =>
      obtain rfl : y = x := by simpa using h
      rw [e, Nat.zero_mul, List.drop_zero]
      exact List.take_left (l₁ := y.C) (l₂ := acs r)
    | succ i =>
      rw [e, show (i + 1) * 20 = y.C.length + i * 20 by show _ = 20 + i * 20; omega, ← List.drop_drop, List.drop_left]
      exact ih (by simpa using h)
theorem ac_scal (x : Ac) : x.C.all scalV = true := rfl
/-- A tree behind operations. -/
def Tr.acts (T : Tr) (xs : List Ac) : Tr := xs.foldl (fun T x => (T.act x).1) T
theorem acts_snoc (T : Tr) (xs : List Ac) (x : Ac) : T.acts (xs ++ [x]) = ((T.acts xs).act x).1 := by simp [Tr.acts]
theorem acts_inv : ∀ (xs : List Ac) {T : Tr}, Inv T → Inv (T.acts xs)
  | [], _, h => h
  | x :: r, T, h => acts_inv r (act_inv h x)
theorem acts_lim : ∀ (xs : List Ac) {T : Tr} {N : Int}, 0 ≤ N → Lim N T → Lim (N + 3 * xs.length) (T.acts xs)
  | [], T, N, _, h => h.mono (by simp)
  | x :: r, T, N, h0, h => by
    have := acts_lim r (N := N + 3) (by omega) (act_lim h0 h x)
    rw [List.length_cons]
    have e : N + 3 * ((r.length + 1 : Nat) : Int) = N + 3 + 3 * (r.length : Int) := by omega
    rw [e]
    exact this
theorem Few_ok {v : Value} {xs : List Ac} (hxl : xs.length ≤ 9223372036854775807) (hr : RdS w0 F l 20 xs.length v (acs xs)) (E : Hs w0 F w l) : Ca PP Fn.law28_Few #[v] w fun r w' => ∃ b, r = .bool b ∧ (b = true → xs.length ≤ 40) ∧ Hs w0 F w' l := by
  refine S.law28_Few.calls ?_
  unfold S.law28_Few
  refine hr.len ?_
  refine ⟨fun l1 w1 => ∃ i : Nat, l1 = [i64 i] ∧ i ≤ xs.length ∧ Hs w0 F w1 l, fun l1 _ => match l1 with | [.int _ i] => xs.length - i.toNat | _ => 0, ⟨0, rfl, Nat.zero_le _, E⟩, ?_⟩
  clear E
  rintro t u w_ ⟨i, h4, hi, E⟩
  cases h4
  refine Bi.lss ?_ ?_ <;> intro hlt <;> (repeat with_reducible refine Stp.go ?_)
  · have hx : xs[i]? = some xs[i] := List.getElem?_eq_getElem (by omega)
    generalize xs[i] = x at hx
    have hat := acs_at hx
    refine hr.ix (by omega) (by omega) (by omega) ?_
    intro a ha
    rw [Int.toNat_natCast] at ha
    refine ha.lda E hat rfl (by omega) ?_
    (repeat with_reducible (refine StpA.go E ?_; clear E; intro b_ w_ hb_ E))
    (revert b_; intro q hbq E)
    refine StA.all (vs := x.C) E rfl rfl (ac_scal x) ?_
    clear E
    intro w_ E
    (intro J13 hJ13)
    have fin : ∀ b w_, Hs w0 F w_ (pt q (oc x.C Ty.law28_Act) :: l) → J13 [.bool b] w_ := by
      intro b w_ E
      (repeat with_reducible (apply hJ13; intro u_))
      cases b
      · (repeat with_reducible refine Stp.go ?_)
        refine Bi.add (by omega) ?_
        refine ⟨⟨i + 1, by simp, by omega, E.tl⟩, ?_⟩
        simp only []; omega
      · (repeat with_reducible refine Stp.go ?_)
        exact ⟨_, rfl, fun h => (by cases h), E.tl⟩
    clear hJ13
    (repeat with_reducible first | refine Stp.go ?_ | refine StpE.go E ?_)
    refine Bi.addW ?_; intro s1; (repeat with_reducible first | refine Stp.go ?_ | refine StpE.go E ?_)
    refine Bi.addW ?_; intro s2; (repeat with_reducible first | refine Stp.go ?_ | refine StpE.go E ?_)
    refine Bi.addW ?_; intro s3; (repeat with_reducible first | refine Stp.go ?_ | refine StpE.go E ?_)
    refine Bi.addW ?_; intro s4; (repeat with_reducible first | refine Stp.go ?_ | refine StpE.go E ?_)
    refine Bi.addW ?_; intro s5; (repeat with_reducible first | refine Stp.go ?_ | refine StpE.go E ?_)
    refine Bi.addW ?_; intro s6; skip
    refine Bi.gtr ?_ ?_ <;> intro g1 <;> (repeat with_reducible first | refine Stp.go ?_ | refine StpE.go E ?_)
    · exact fin _ _ E
    refine Bi.gtr ?_ ?_ <;> intro g2 <;> (repeat with_reducible first | refine Stp.go ?_ | refine StpE.go E ?_)
    · refine Bi.leq ?_ ?_ <;> intro g3 <;> (repeat with_reducible first | refine Stp.go ?_ | refine StpE.go E ?_)
      · exact fin _ _ E
      · refine Bi.gtr ?_ ?_ <;> intro g4 <;> (repeat with_reducible first | refine Stp.go ?_ | refine StpE.go E ?_)
        · refine Bi.leq ?_ ?_ <;> intro g5 <;> (repeat with_reducible refine Stp.go ?_)
          · exact fin _ _ E
          · exact fin _ _ E
        · exact fin _ _ E
    · refine Bi.gtr ?_ ?_ <;> intro g4 <;> (repeat with_reducible first | refine Stp.go ?_ | refine StpE.go E ?_)
      · refine Bi.leq ?_ ?_ <;> intro g5 <;> (repeat with_reducible refine Stp.go ?_)
        · exact fin _ _ E
        · exact fin _ _ E
      · exact fin _ _ E
  · refine hr.len ?_
    refine Bi.leq ?_ ?_ <;> intro h1
    · exact ⟨_, rfl, fun _ => by omega, E⟩
    · exact ⟨_, rfl, fun h => (by cases h), E⟩
/-- A tree behind operations. -/
theorem played_ok {v gV : Value} {gv : List (BA × Value)} {gs : Gs} {owner : BA} {xs : List Ac} (hg : GIn w0 F l gV gv gs) (hgl : gs.length ≤ 100000) (hul : ∀ g ∈ gs, g.2.length ≤ 100000) (hsz : ∀ s ∈ [owner] ++ gwords gs, s.size ≤ 9223372036854775807)
    (hok : ∀ x ∈ xs, x.Ok) (hxl : xs.length ≤ 40) (hr : RdS w0 F l 20 xs.length v (acs xs)) (E : Hs w0 F w (Pool D :: l)) :
    Ca PP Fn.law28_played #[.agg #[str owner, gV], v] w fun r w' =>
      (checkG gs [owner] ≠ 0 ∧ r = np ∧ Hs w0 F w' (Pool D :: l)) ∨
      (checkG gs [owner] = 0 ∧ ∃ D' X β, r = ptr X.t ∧ (∀ x ∈ D, x ∈ D') ∧ Tie D' X ((newT owner gs).acts xs) β ∧ Inv ((newT owner gs).acts xs) ∧ Lim 121 ((newT owner gs).acts xs) ∧ Hs w0 F w' (trA X :: Pool D' :: l)) := by
  refine S.law28_played.calls ?_
  unfold S.law28_played
  refine StpA.go E ?_
  clear E
  intro q w_ hq E
  (repeat with_reducible first | refine Stp.go ?_ | refine StpE.go E ?_)
  (replace E := ((E.bIx 0).bIx 1))
  refine (New_ok (owner := owner) (hg.weaken (l' := pt q (oc [str owner, gV] Ty.law28_Setting) :: l) fun _ E => E.tl) hgl hul hsz E).mono ?_
  clear E
  rintro r w_ (⟨hc, rfl, E⟩ | ⟨hc, D1, X, β, rfl, hD1, h, hi, E⟩)
  · (repeat with_reducible refine Stp.go ?_)
    refine Bi.neq ?_ ?_ <;> intro h1 <;> (repeat with_reducible refine Stp.go ?_)
    · exact .inl ⟨hc, rfl, (E.bIx 1).tl⟩
    · exact absurd h1 hc
  (repeat first | (with_reducible first | refine Stp.go ?_) | ((with_reducible refine Bi.dec false ?_ ?_); focus exact rfl))
  refine hr.len ?_
  have hl0 := newT_lim owner gs
  refine ⟨fun l1 w1 => ∃ (i : Nat) (D' : List Row) (X' : PT) (β' : Int → Nat), l1 = [i64 i] ∧ i ≤ xs.length ∧ (∀ x ∈ D, x ∈ D') ∧ X'.t = X.t ∧ Tie D' X' ((newT owner gs).acts (xs.take i)) β' ∧ Hs w0 F w1 (trA X' :: Pool D' :: l),
    fun l1 _ => match l1 with | [.int _ i] => xs.length - i.toNat | _ => 0, ⟨0, D1, X, β, rfl, Nat.zero_le _, hD1, rfl, h, ?_⟩, ?_⟩
  · exact (E.bIx 2).tl
  clear E
  rintro t u w_ ⟨i, D', X', β', h4, hle, hD, ht, hT, E⟩
  cases h4
  have hi' := acts_inv (xs.take i) hi
  have hl' := acts_lim (xs.take i) (by omega) hl0
  have htl : (xs.take i).length ≤ 40 := by rw [List.length_take]; omega
  have hl2 : Lim 121 ((newT owner gs).acts (xs.take i)) := hl'.mono (by omega)
  refine Bi.lss ?_ ?_ <;> intro hlt <;> (repeat with_reducible refine Stp.go ?_)
  · have hx : xs[i]? = some xs[i] := List.getElem?_eq_getElem (by omega)
    have hxo : xs[i].Ok := hok _ (List.getElem_mem _)
    generalize xs[i] = x at hx hxo
    have hat := acs_at hx
    refine hr.ix (by omega) (by omega) (by omega) ?_
    intro a ha
    rw [Int.toNat_natCast] at ha
    refine ha.lda E.tl.tl hat rfl (by omega) ?_
    (repeat with_reducible (refine StpA.go E ?_; clear E; intro b_ w_ hb_ E))
    (revert b_; intro b hbb E)
    refine StA.all (vs := x.C) E rfl rfl (ac_scal x) ?_
    clear E
    intro w_ E
    (repeat with_reducible refine StpE.go E ?_)
    (replace E := ((E.bIx 2).bIx 2))
    rw [← ht]
    refine (Do_ok (x := x) hT hi' (by omega) hl2 hxo E).mono ?_
    clear E
    rintro r w_ ⟨dv, rfl, D2, X2, β2, hD2, ht2, hT2, E⟩
    skip
    refine Bi.add (by omega) ?_
    have e : (newT owner gs).acts (xs.take (i + 1)) = (((newT owner gs).acts (xs.take i)).act x).1 := by
      rw [List.take_add_one, hx]
      exact acts_snoc _ _ _
    refine ⟨⟨i + 1, D2, X2, β2, by simp, by omega, fun y hy => hD2 y (hD y hy), by rw [ht2, ht], by rw [e]; exact hT2, ?_⟩, ?_⟩
    · exact ((((E.bIx 2).tl).bIx 2).tl)
    · simp only []; omega
  · have e : xs.take i = xs := List.take_of_length_le (by omega)
    rw [e] at hT hi' hl2
    exact .inr ⟨hc, D', X', β', by rw [ht], hD, hT, hi', hl2, E⟩
end Go.Proofs.YtnnhmahemklnkaaGreatDoor

/-
  Trees: handles in order; the clock; the next Path; the root.
-/
namespace Go.Proofs.YtnnhmahemklnkaaGreatDoor
open Go Go.Sh Go.Sort
set_option maxRecDepth 100000
set_option linter.unusedVariables false
set_option linter.unusedSimpArgs false
variable {w0 : World} {F : Nat → Prop} {l : List As}

/-- What an iterator brings is collected. -/
theorem AppendSeqI_ok {w : World} {g : Value} {gf : FuncId} {first cap : Array Value} {Pf : List Int → Int → Prop} {Whole : List Int → Prop} {own vis own' rest : List As} (hg : g = .func (.func gf) first cap) (hb : hasBody PP gf = true)
    (hit : Iter PP w0 F g i64 Pf Whole own vis own') (hsz : ∀ pre x, Pf pre x → pre.length < 1000000000) (E : Hs w0 F w (own ++ rest)) :
    Ca PP Fn.slices_AppendSeq_sl_int_int #[.slice none 0 0, g] w fun v w' => ∃ xs, Whole xs ∧ Hs w0 F w' (slA v Ty.int 1 (xs.map i64) :: (own' ++ rest)) := by
  refine S.slices_AppendSeq_sl_int_int.calls ?_
  unfold S.slices_AppendSeq_sl_int_int
  (repeat with_reducible (refine StpA.go E ?_; clear E; intro b_ w_ hb_ E))
  (revert b_; intro b hbb E)
  replace E := (E.nilSl Ty.int 1)
  refine RFo.hs hg hb hit (fun pre ks => ∃ v, ks = [slA v Ty.int 1 (pre.map i64), pt b (oc [v] Ty.sl_int)]) (fun _ _ _ => False) (fun _ _ => False) (ks := [slA (.slice none 0 0) Ty.int 1 [], pt b (oc [.slice none 0 0] Ty.sl_int)]) E ⟨_, rfl⟩ ?_ ?_ (fun _ _ _ _ _ _ h _ => h.elim) (fun _ _ _ _ _ h _ => h.elim)
  · clear E
    rintro r L D pre x w_ _ rest' Rn Re Rr hL hD hp ⟨v, rfl⟩ E hn - -
    simp only [List.cons_append, List.nil_append] at E
    (repeat with_reducible first | refine Stp.go ?_ | refine StpE.go E ?_ | (refine StpW.go E ?_; clear E; intro w_ E))
    refine BdS.one E u_sl_int e_int rfl ?_
    intro v2 w_ E
    have := hsz _ _ hp
    refine Ap.one E (i := 3) rfl u_sl_int ⟨_, u_sl_int, fun _ h => by cases h⟩ e_int (Src.one E (by (first | assumption | exact FPt.mem | exact FMp.mem | exact FSl.mem | (repeat (first | assumption | with_reducible exact List.mem_cons_self | refine List.mem_cons_of_mem _ ?_)))) rfl) rfl (by simp; omega) (by simp; omega) ?_
    intro s' w_ E
    (try simp only [List.set_cons_zero, List.set_cons_succ, List.cons_append, List.nil_append, Nat.zero_add, Nat.add_zero] at E)
    (repeat with_reducible (refine StpW.go E ?_; clear E; intro w_ E))
    refine hn _ _ ⟨s', rfl⟩ ?_
    simp only [List.cons_append, List.nil_append]
    (replace E := (E.bSl v2))
    (replace E := (E.bIx 0).tl)
    (replace E := ((((E.bPt b).bSl s').bPt D).bPt L))
    have e1 : (pre ++ [x]).map i64 = pre.map i64 ++ [i64 x] := by simp
    rw [e1]
    exact E
  · clear E
    rintro D w_ xs _ hD hw ⟨v, rfl⟩ E
    simp only [List.cons_append, List.nil_append] at E
    (repeat with_reducible first | refine Stp.go ?_ | refine StpE.go E ?_ | (refine StpW.go E ?_; clear E; intro w_ E))
    refine ⟨xs, hw, ?_⟩
    (replace E := (E.bPt b))
    (replace E := (E.bIx 0).tl)
    exact E
theorem CollectI_ok {w : World} {g : Value} {gf : FuncId} {first cap : Array Value} {Pf : List Int → Int → Prop} {Whole : List Int → Prop} {own vis own' rest : List As} (hg : g = .func (.func gf) first cap) (hb : hasBody PP gf = true)
    (hit : Iter PP w0 F g i64 Pf Whole own vis own') (hsz : ∀ pre x, Pf pre x → pre.length < 1000000000) (E : Hs w0 F w (own ++ rest)) :
    Ca PP Fn.slices_Collect_int #[g] w fun v w' => ∃ xs, Whole xs ∧ Hs w0 F w' (slA v Ty.int 1 (xs.map i64) :: (own' ++ rest)) := by
  refine S.slices_Collect_int.calls ?_
  unfold S.slices_Collect_int
  exact AppendSeqI_ok hg hb hit hsz E


def sortI (xs : List Int) : List Int := xs.mergeSort fun x y => decide (x ≤ y)
theorem SortI_ok {w : World} {v : Value} {xs : List Int} (hn : xs.length < 4611686018427387904) (E : Hs w0 F w (slA v Ty.int 1 (xs.map i64) :: l)) :
    Ca PP Fn.slices_Sort_sl_int_int #[v] w fun r w' => Hs w0 F w' (slA v Ty.int 1 ((sortI xs).map i64) :: l) := by
  have hs := E.sat _ List.mem_cons_self
  rcases SliceAt.holds (enc := Value.int .i64) hs with ⟨rfl, h0⟩ | ⟨b, off, cap, rfl, hH, hlt, hcap⟩
  · subst h0
    refine Calls.mono (Tryz.slices_Sort_int_none none 0 w) ?_
    rintro e w' ⟨rfl, rfl⟩
    exact ⟨_, rfl, by simpa [sortI] using E⟩
  · refine Calls.mono (Tryz.slices_Sort_int b off cap xs w hH hlt hn) ?_
    rintro e w' ⟨rfl, n, os, rfl⟩
    refine ⟨_, rfl, ?_⟩
    have := hs_sortRow E (enc := Value.int .i64) (k := n) (os := os) (d := (xs.mergeSort fun x y => decide (x ≤ y)).toArray) rfl (by simp)
    exact this
theorem SortedI_ok {w : World} {g : Value} {gf : FuncId} {first cap : Array Value} {Pf : List Int → Int → Prop} {Whole : List Int → Prop} {own vis own' rest : List As} (hg : g = .func (.func gf) first cap) (hb : hasBody PP gf = true)
    (hit : Iter PP w0 F g i64 Pf Whole own vis own') (hsz : ∀ pre x, Pf pre x → pre.length < 1000000000) (hw : ∀ xs, Whole xs → xs.length < 4611686018427387904) (E : Hs w0 F w (own ++ rest)) :
    Ca PP Fn.slices_Sorted_int #[g] w fun v w' => ∃ xs, Whole xs ∧ Hs w0 F w' (slA v Ty.int 1 ((sortI xs).map i64) :: (own' ++ rest)) := by
  refine S.slices_Sorted_int.calls ?_
  unfold S.slices_Sorted_int
  refine (CollectI_ok hg hb hit hsz E).mono ?_
  clear E
  rintro v w_ ⟨xs, hx, E⟩
  refine (SortI_ok (hw _ hx) E).mono ?_
  clear E
  intro r w_ E
  exact ⟨xs, hx, E⟩

theorem sortI_of {xs ys : List Int} (h : xs.Perm ys) (hs : ys.Pairwise fun a b => a < b) : sortI xs = ys := by
  have so : (sortI xs).Pairwise (fun a b => a ≤ b) := by
    have := List.pairwise_mergeSort (le := fun x y : Int => decide (x ≤ y)) (fun a b c h1 h2 => by simp at h1 h2 ⊢; omega) (fun a b => by simp; omega) xs
    exact this.imp fun h => by simpa using h
  exact List.Perm.eq_of_pairwise (le := fun a b => a ≤ b) (fun a b _ _ h1 h2 => by omega) so (hs.imp fun h => by omega) ((List.mergeSort_perm _ _).trans h)
variable {w : World} {D : List Row} {X : PT} {T : Tr} {β : Int → Nat}
def Tr.handles (T : Tr) : List Int := T.hs.map (·.1)
theorem KeysI_ok {m : Nat} (E : Hs w0 F w l) : Ca PP Fn.maps_Keys_map_int_tree_handle_int_tree_handle #[.map (some m)] w fun r w' => ∃ a, r = keysIF a ∧ Hs w0 F w' (pt a (oc [.map (some m)] Ty.map_int_tree_handle) :: l) := by
  refine S.maps_Keys_map_int_tree_handle_int_tree_handle.calls ?_
  unfold S.maps_Keys_map_int_tree_handle_int_tree_handle
  (repeat with_reducible (refine StpA.go E ?_; clear E; intro b_ w_ hb_ E))
  exact ⟨b_, rfl, E⟩
theorem Handles_ok (h : Tie D X T β) (hi : Inv T) (E : Hs w0 F w (trA X :: l)) : Ca PP Fn.tree_Tree_Handles #[ptr X.t] w fun r w' => Hs w0 F w' (slA r Ty.int 1 (T.handles.map i64) :: trA X :: l) := by
  refine S.tree_Tree_Handles.calls ?_
  unfold S.tree_Tree_Handles
  refine Eq.ef u_p_tree rfl ?_
  replace E := Hs.openT E
  (repeat with_reducible first | refine Stp.go ?_ | refine StpE.go E ?_)
  refine (KeysI_ok E).mono ?_
  clear E
  rintro r w_ ⟨a, rfl, E⟩
  have hlen := h.len.2
  have hfew := hi.few.2
  (replace E := ((E.bIx 4).bIx 1))
  refine (SortedI_ok (rest := tb X :: mp X.fm (.int .i64) X.fM :: mp X.gm .str X.gM :: NT X.ps :: DT X.ds :: l) rfl b_keysI1 (keysI_iter (M := X.ol)) (fun pre x hp => by have := hp.1; omega) (fun xs hx => by have := hx.length_eq; rw [List.length_map] at this; omega) E).mono ?_
  clear E
  rintro v w_ ⟨xs, hxs, E⟩
  simp only [List.cons_append, List.nil_append] at E
  have hs : T.handles.Pairwise fun a b => a < b := by
    unfold Tr.handles
    rw [List.pairwise_map]
    exact hi.hsorted
  have e : sortI xs = T.handles := sortI_of (hxs.trans h.keys) hs
  rw [e] at E
  skip
  (replace E := (((((((E.bIx 0).bIx 7).bIx 7).bIx 4).bIx 7).bIx 7).bIx 7))
  replace E := Hs.closeT X E
  replace E := (E.bIx 1)
  exact E.drop (List.Sublist.cons_cons _ (List.Sublist.cons_cons _ (List.sublist_cons_self _ _)))
theorem Clock_ok (h : Tie D X T β) (E : Hs w0 F w (trA X :: l)) : Ca PP Fn.tree_Tree_Clock #[ptr X.t] w fun r w' => r = i64 T.clock ∧ Hs w0 F w' (trA X :: l) := by
  refine S.tree_Tree_Clock.calls ?_
  unfold S.tree_Tree_Clock
  refine Eq.ef u_p_tree rfl ?_
  replace E := Hs.openT E
  (repeat with_reducible first | refine Stp.go ?_ | refine StpE.go E ?_)
  exact ⟨by rw [h.clock], Hs.closeT X E⟩
end Go.Proofs.YtnnhmahemklnkaaGreatDoor

/-
  TreeClones: a tree without its handles; closing all of them; whether two trees have the same files.
-/
namespace Go.Proofs.YtnnhmahemklnkaaGreatDoor
open Go Go.Sh
set_option maxRecDepth 100000
set_option linter.unusedVariables false
set_option linter.unusedSimpArgs false
variable {w0 w : World} {F : Nat → Prop} {l : List As}
variable {D : List Row} {X : PT} {T : Tr} {β : Int → Nat}

abbrev Tr.bare (T : Tr) : Tr := { T with hs := [] }
theorem bare_inv (hi : Inv T) : Inv T.bare :=
  ⟨hi.sorted, hi.root, hi.bound, hi.rootD, hi.up, hi.names, hi.good, hi.rank, hi.data, hi.form, List.Pairwise.nil, (fun _ h => by cases h), (fun _ h => by cases h), (fun _ h => by cases h), ⟨hi.few.1, Nat.zero_le _⟩, hi.clock, hi.rootN⟩
theorem bare_lim {N : Int} (h : Lim N T) : Lim N T.bare := ⟨h.clock, h.next, h.vers⟩
theorem below_bare : ∀ (f : Nat) (n : Nd), belowN T.bare f n = belowN T f n
  | 0, _ => rfl
  | f + 1, n => by
    unfold belowN
    rw [show T.bare.kidsS n.path = T.kidsS n.path from rfl]
    congr 1
    exact congrArg (fun g => (T.kidsS n.path).flatMap g) (funext fun k => below_bare f k)
theorem chain_bare : ∀ (f : Nat) (n : Nd), chainN T.bare f n = chainN T f n
  | 0, _ => rfl
  | f + 1, n => by
    unfold chainN
    rw [show T.bare.parent n = T.parent n from rfl, chain_bare f (T.parent n)]
theorem files_bare : T.bare.files = T.files := by
  unfold Tr.files
  rw [show T.bare.get 0 = T.get 0 from rfl]
  cases T.get 0 with
  | none => rfl
  | some r =>
    simp only []
    rw [below_bare]
    refine List.map_congr_left fun n _ => ?_
    unfold Tr.fl Tr.pathS Tr.chain
    rw [chain_bare]
/-- What a close does to the handles and to the clock. -/
theorem close_hs (T : Tr) (h : Int) : (T.close h).1.hs = delL T.hs h ∨ T.opened h = none := by
  unfold Tr.close
  cases T.opened h with
  | none => exact .inr rfl
  | some x =>
    left
    simp only []
    split
    · split
      · unfold Tr.drop
        exact (change_keeps _ _ _).2.1
      · rfl
    · rfl
theorem close_ok0 (T : Tr) (h : Int) (ho : T.opened h ≠ none) : (T.close h).2 = 0 := by
  unfold Tr.close
  cases hx : T.opened h with
  | none => exact absurd hx ho
  | some x =>
    simp only []
    split
    · split <;> rfl
    · rfl
theorem drop_clock (T : Tr) (user : BA) (n : Nd) : (T.drop user n).clock = T.clock + 1 := (change_keeps { T with ns := T.ns.filter fun x => decide (x.path ≠ n.path) } user [n.up]).2.2.2.1
theorem close_clock (T : Tr) (h : Int) : T.clock ≤ (T.close h).1.clock ∧ ((T.close h).1.clock = T.clock → (T.close h).1.bare = T.bare) := by
  unfold Tr.close
  cases T.opened h with
  | none => exact ⟨Int.le_refl _, fun _ => rfl⟩
  | some x =>
    simp only []
    split
    · rename_i n hn
      split
      · have h1 : (Tr.drop { T with hs := delL T.hs h } x.user n).clock = T.clock + 1 := drop_clock _ _ _
        refine ⟨by show T.clock ≤ (Tr.drop _ _ _).clock; omega, fun h2 => ?_⟩
        have h2 : (Tr.drop { T with hs := delL T.hs h } x.user n).clock = T.clock := h2
        omega
      · exact ⟨Int.le_refl _, fun _ => rfl⟩
    · exact ⟨Int.le_refl _, fun _ => rfl⟩
/-- All handles closed, one after the other. -/
def Tr.closes (T : Tr) (ks : List Int) : Tr := ks.foldl (fun T k => (T.close k).1) T
theorem closes_snoc (T : Tr) (ks : List Int) (k : Int) : T.closes (ks ++ [k]) = ((T.closes ks).close k).1 := by simp [Tr.closes]
theorem closes_inv : ∀ (ks : List Int) {T : Tr}, Inv T → Inv (T.closes ks)
  | [], _, h => h
  | k :: r, T, h => closes_inv r (close_inv h k)
theorem closes_lim : ∀ (ks : List Int) {T : Tr} {N : Int}, Lim N T → Lim (N + 3 * ks.length) (T.closes ks)
  | [], T, N, h => h.mono (by simp)
  | k :: r, T, N, h => by
    have := closes_lim r (N := N + 3) (close_lim h k)
    rw [List.length_cons]
    have e : N + 3 * ((r.length + 1 : Nat) : Int) = N + 3 + 3 * (r.length : Int) := by omega
    rw [e]
    exact this
theorem opened_head {p : Int × Hd} {r : List (Int × Hd)} (h : T.hs = p :: r) : T.opened p.1 = some p.2 := by
  unfold Tr.opened getL
  rw [h, List.find?_cons_of_pos (by simp)]
  rfl
/-- Behind i closes the first i handles are gone. -/
theorem closes_hs : ∀ (i : Nat) {T : Tr}, i ≤ T.handles.length → (T.closes (T.handles.take i)).hs = T.hs.drop i ∧ T.clock ≤ (T.closes (T.handles.take i)).clock ∧ ((T.closes (T.handles.take i)).clock = T.clock → (T.closes (T.handles.take i)).bare = T.bare)
  | 0, T, _ => by
    rw [List.take_zero]
    exact ⟨rfl, Int.le_refl _, fun _ => rfl⟩
  | i + 1, T, hl => by
    cases hh : T.hs with
    | nil => unfold Tr.handles at hl; rw [hh] at hl; simp at hl
    | cons p r =>
      have ho := opened_head hh
      have h1 : (T.close p.1).1.hs = r := by
        rcases close_hs T p.1 with h | h
        · rw [h, hh]; simp [delL]
        · rw [h] at ho; cases ho
      have e : T.handles = p.1 :: r.map (·.1) := by unfold Tr.handles; rw [hh]; rfl
      have e2 : (T.close p.1).1.handles = r.map (·.1) := by unfold Tr.handles; rw [h1]
      have e3 : T.closes (T.handles.take (i + 1)) = (T.close p.1).1.closes ((T.close p.1).1.handles.take i) := by
        rw [e, e2, List.take_succ_cons]; rfl
      obtain ⟨g1, g2, g3⟩ := closes_hs i (T := (T.close p.1).1) (by rw [e2]; rw [e] at hl; simpa using hl)
      obtain ⟨c1, c2⟩ := close_clock T p.1
      rw [e3]
      refine ⟨by rw [g1, h1]; rfl, by omega, fun hc => ?_⟩
      have hc1 : (T.close p.1).1.clock = T.clock := by omega
      rw [g3 (by omega), c2 hc1]
theorem closes_at {i : Nat} {k : Int} (h : T.handles[i]? = some k) : (T.closes (T.handles.take i)).opened k ≠ none := by
  have hl := (List.getElem?_eq_some_iff.1 h).1
  obtain ⟨g1, -, -⟩ := closes_hs i (T := T) (by omega)
  unfold Tr.handles at h hl
  rw [List.length_map] at hl
  rw [List.drop_eq_getElem_cons hl] at g1
  have := opened_head g1
  rw [List.getElem?_map, List.getElem?_eq_getElem hl] at h
  have hk : T.hs[i].1 = k := by simpa using h
  rw [hk] at this
  rw [this]
  simp
theorem closes_all (hc : (T.closes T.handles).clock = T.clock) : T.closes T.handles = T.bare := by
  have e : T.handles.take T.handles.length = T.handles := List.take_length
  obtain ⟨g1, -, g3⟩ := closes_hs T.handles.length (T := T) (Nat.le_refl _)
  rw [e] at g1 g3
  have h1 := g3 hc
  have h2 : (T.closes T.handles).hs = [] := by
    rw [g1]; unfold Tr.handles; rw [List.length_map, List.drop_length]
  have h3 : T.closes T.handles = (T.closes T.handles).bare := by
    unfold Tr.bare
    rw [← h2]
  rw [h3, h1]
/-- Whether two trees have the same files and clocks. -/
theorem equal_ok {X2 : PT} {T2 : Tr} {β2 : Int → Nat} (h : Tie D X T β) (hi : Inv T) (h2 : Tie D X2 T2 β2) (hi2 : Inv T2) (E : Hs w0 F w (trA X :: trA X2 :: Pool D :: l)) :
    Ca PP Fn.law28_equal #[ptr X.t, ptr X2.t] w fun r w' => ∃ b, r = .bool b ∧ (b = true ↔ T.files = T2.files ∧ T.clock = T2.clock) ∧ ∃ k : List As, Hs w0 F w' (trA X :: trA X2 :: Pool D :: (k ++ l)) := by
  refine S.law28_equal.calls ?_
  unfold S.law28_equal
  have hl1 := files_len hi
  have hl2 := files_len hi2
  (intro J1 hJ1)
  (repeat first | (with_reducible first | refine Stp.go ?_ | refine StpE.go E ?_ | (refine StpW.go E ?_; clear E; intro w_ E) | (refine StpA.go E ?_; clear E; intro b_ w_ hb_ E) | (apply hJ1; intro u_) | refine LnL.nil ?_) | ((with_reducible refine Bi.dec true ?_ ?_); focus exact rfl) | ((with_reducible refine Bi.dec false ?_ ?_); focus exact rfl) | ((with_reducible refine Bi.sdec true ?_ ?_); focus decide) | ((with_reducible refine Bi.sdec false ?_ ?_); focus decide))
  (replace E := ((E.bIx 2).bIx 1))
  refine (Files_ok h hi E).mono ?_
  clear E
  intro fv w_ E
  (replace E := ((((E.bIx 1).bIx 1).bIx 2).bIx 3))
  refine (Files_ok h2 hi2 E).mono ?_
  clear E
  intro fv2 w_ E
  have r1 := RdS.sl (T := Ty.tree_File) (sz := 12) (v := fv) (xs := fcs T.files) (by simp) (by omega) E
  have r2 := RdS.sl (T := Ty.tree_File) (sz := 12) (v := fv2) (xs := fcs T2.files) (by simp) (by omega) E
  rw [fcs_len, Nat.mul_div_cancel _ (by omega)] at r1 r2
  refine (eqFiles_ok (by omega) E r1 r2).mono ?_
  clear E
  rintro r w_ ⟨b, rfl, hb, E⟩
  cases b with
  | false =>
    (repeat first | (with_reducible first | refine Stp.go ?_ | refine StpE.go E ?_ | (refine StpW.go E ?_; clear E; intro w_ E) | (refine StpA.go E ?_; clear E; intro b_ w_ hb_ E) | (apply hJ1; intro u_) | refine LnL.nil ?_) | ((with_reducible refine Bi.dec true ?_ ?_); focus exact rfl) | ((with_reducible refine Bi.dec false ?_ ?_); focus exact rfl) | ((with_reducible refine Bi.sdec true ?_ ?_); focus decide) | ((with_reducible refine Bi.sdec false ?_ ?_); focus decide))
    refine ⟨false, rfl, ⟨(fun h => by cases h), fun h => absurd (hb.2 h.1) (by simp)⟩, [slA fv2 Ty.tree_File 12 (fcs T2.files), slA fv Ty.tree_File 12 (fcs T.files)], ?_⟩
    (replace E := (((((E.bIx 3).bIx 1).bIx 3).bIx 3).bIx 4))
    exact E
  | true =>
    (repeat first | (with_reducible first | refine Stp.go ?_ | refine StpE.go E ?_ | (refine StpW.go E ?_; clear E; intro w_ E) | (refine StpA.go E ?_; clear E; intro b_ w_ hb_ E) | (apply hJ1; intro u_) | refine LnL.nil ?_) | ((with_reducible refine Bi.dec true ?_ ?_); focus exact rfl) | ((with_reducible refine Bi.dec false ?_ ?_); focus exact rfl) | ((with_reducible refine Bi.sdec true ?_ ?_); focus decide) | ((with_reducible refine Bi.sdec false ?_ ?_); focus decide))
    (replace E := (E.bIx 4))
    refine (Clock_ok h E).mono ?_
    clear E
    rintro r w_ ⟨rfl, E⟩
    (repeat first | (with_reducible first | refine Stp.go ?_ | refine StpE.go E ?_ | (refine StpW.go E ?_; clear E; intro w_ E) | (refine StpA.go E ?_; clear E; intro b_ w_ hb_ E) | (apply hJ1; intro u_) | refine LnL.nil ?_) | ((with_reducible refine Bi.dec true ?_ ?_); focus exact rfl) | ((with_reducible refine Bi.dec false ?_ ?_); focus exact rfl) | ((with_reducible refine Bi.sdec true ?_ ?_); focus decide) | ((with_reducible refine Bi.sdec false ?_ ?_); focus decide))
    (replace E := (E.bIx 2))
    refine (Clock_ok h2 E).mono ?_
    clear E
    rintro r w_ ⟨rfl, E⟩
    (repeat first | (with_reducible first | refine Stp.go ?_ | refine StpE.go E ?_ | (refine StpW.go E ?_; clear E; intro w_ E) | (refine StpA.go E ?_; clear E; intro b_ w_ hb_ E) | (apply hJ1; intro u_) | refine LnL.nil ?_) | ((with_reducible refine Bi.dec true ?_ ?_); focus exact rfl) | ((with_reducible refine Bi.dec false ?_ ?_); focus exact rfl) | ((with_reducible refine Bi.sdec true ?_ ?_); focus decide) | ((with_reducible refine Bi.sdec false ?_ ?_); focus decide))
    (replace E := (((((E.bIx 4).bIx 3).bIx 4).bIx 3).bIx 4))
    refine Bi.eql ?_ ?_ <;> intro hc <;> (repeat first | (with_reducible first | refine Stp.go ?_ | refine StpE.go E ?_ | (refine StpW.go E ?_; clear E; intro w_ E) | (refine StpA.go E ?_; clear E; intro b_ w_ hb_ E) | (apply hJ1; intro u_) | refine LnL.nil ?_) | ((with_reducible refine Bi.dec true ?_ ?_); focus exact rfl) | ((with_reducible refine Bi.dec false ?_ ?_); focus exact rfl) | ((with_reducible refine Bi.sdec true ?_ ?_); focus decide) | ((with_reducible refine Bi.sdec false ?_ ?_); focus decide))
    · exact ⟨true, rfl, ⟨fun _ => ⟨hb.1 rfl, hc⟩, fun _ => rfl⟩, [slA fv2 Ty.tree_File 12 (fcs T2.files), slA fv Ty.tree_File 12 (fcs T.files)], E⟩
    · exact ⟨false, rfl, ⟨(fun h => by cases h), fun h => absurd h.2 hc⟩, [slA fv2 Ty.tree_File 12 (fcs T2.files), slA fv Ty.tree_File 12 (fcs T.files)], E⟩
end Go.Proofs.YtnnhmahemklnkaaGreatDoor

/-
  Settings: how much they weigh; what the bound of the second form gives.
-/
namespace Go.Proofs.YtnnhmahemklnkaaGreatDoor
open Go Go.Sh Go.Proofs.YtnnhmahemklnkaaGreatDoor
set_option maxRecDepth 100000
set_option linter.unusedVariables false
set_option linter.unusedSimpArgs false

/-- What 'small' adds up of a group, and of a setting. -/
def gsz (g : ByteArray × List ByteArray) : Nat := g.1.size + g.2.length + (g.2.map fun (s : ByteArray) => s.size).sum
def ssz (owner : BA) (gs : Gs) : Nat := owner.size + gs.length + (gs.map gsz).sum
theorem usr_bulk {H : Type} {g : BA × List BA} {d : DataW H} (h : UsrD g d) : gsz g + 1 ≤ Rows.uptoBulk d := by
  obtain ⟨du, rfl, h⟩ := h
  have e : g.1.data.toList.length = g.1.size := by rw [Array.length_toList]; rfl
  rcases h with ⟨rfl, h2⟩ | ⟨sp, rfl⟩
  · simp only [Rows.uptoBulk, Rows.uptoBulkAll, gsz, h2, List.map_nil, List.sum_nil, List.length_nil]; omega
  · have key : ∀ us : List ByteArray, us.length + (us.map fun (s : ByteArray) => s.size).sum ≤ Rows.uptoBulkAll (us.map fun (s : ByteArray) => DataW.lit (H := H) (.string s.data.toList)) := by
      intro us
      induction us with
      | nil => simp
      | cons u r ih =>
        have eu : u.data.toList.length = u.size := by rw [Array.length_toList]; rfl
        simp only [List.map_cons, Rows.uptoBulkAll, Rows.uptoBulk, List.sum_cons, List.length_cons]
        omega
    have := key g.2
    simp only [Rows.uptoBulk, Rows.uptoBulkAll, gsz]; omega
theorem grp_bulk {H : Type} {gs : Gs} {d : DataW H} (h : GrpD gs d) : gs.length + (gs.map gsz).sum ≤ Rows.uptoBulk d := by
  rcases h with ⟨rfl, rfl⟩ | ⟨elems, spare, rfl, hl, hu⟩
  · simp
  · have key : ∀ (gs : Gs) (elems : List (DataW H)), elems.length = gs.length → (∀ (i : Nat) d g, elems[i]? = some d → gs[i]? = some g → UsrD g d) → gs.length + (gs.map gsz).sum ≤ Rows.uptoBulkAll elems := by
      intro gs
      induction gs with
      | nil => intro elems _ _; simp
      | cons g r ih =>
        intro elems hl hu
        cases elems with
        | nil => simp at hl
        | cons x es =>
          have h1 := usr_bulk (hu 0 x g rfl rfl)
          have h2 := ih es (by simpa using hl) fun i d g hd hg => hu (i + 1) d g (by simpa using hd) (by simpa using hg)
          simp only [Rows.uptoBulkAll, List.length_cons, List.map_cons, List.sum_cons]
          omega
    have := key gs elems hl hu
    simp only [Rows.uptoBulk]; omega
theorem set_bulk {H : Type} {owner : BA} {gs : Gs} {dg : DataW H} (h : GrpD gs dg) {rest : List (DataW H)} (hk : Rows.uptoSmall H (.agg [.lit (.string owner.data.toList), dg] :: rest) = true) : ssz owner gs ≤ 1048576 := by
  have h1 : Rows.uptoBulkAll (DataW.agg [.lit (.string owner.data.toList), dg] :: rest) ≤ 1048576 := of_decide_eq_true hk
  have h2 := grp_bulk h
  have e : owner.data.toList.length = owner.size := by rw [Array.length_toList]; rfl
  simp only [Rows.uptoBulk, Rows.uptoBulkAll] at h1
  unfold ssz
  omega
theorem gin_of {W : World} {v : Value} {gv : List (BA × Value)} {gs : Gs} {l : List As} (h1 : RdlA W v 2 gs.length (gv.flatMap fun g => [.string g.1, g.2])) (h2 : gv.length = gs.length)
    (h3 : ∀ (i : Nat) a b, gv[i]? = some a → gs[i]? = some b → a.1 = b.1 ∧ Rdl W a.2 (b.2.map Value.string)) : GIn W Emp l v gv gs :=
  ⟨RdS.oldA h1 fun b h => h, h2, fun i a b ha hb => by
    obtain ⟨e, h⟩ := h3 i a b ha hb
    refine ⟨e, ?_⟩
    have := RdS.old (l := l) h fun b (h : Emp b) => h
    rwa [List.length_map] at this⟩
theorem sum_le {α : Type} {f : α → Nat} : ∀ {L : List α} {x : α}, x ∈ L → f x ≤ (L.map f).sum
  | y :: r, x, h => by
    rw [List.map_cons, List.sum_cons]
    rcases List.mem_cons.1 h with rfl | h
    · omega
    · have := sum_le (f := f) h; omega
theorem sum_take {α : Type} {f : α → Nat} (L : List α) (i : Nat) : ((L.take i).map f).sum ≤ (L.map f).sum := by
  have : ((L.take i).map f).sum + ((L.drop i).map f).sum = (L.map f).sum := by rw [← List.sum_append, ← List.map_append, List.take_append_drop]
  omega
theorem ssz_parts {owner : BA} {gs : Gs} {n : Nat} (h : ssz owner gs ≤ n) : owner.size ≤ n ∧ gs.length ≤ n ∧ ∀ g ∈ gs, g.1.size ≤ n ∧ g.2.length ≤ n ∧ ∀ u ∈ g.2, u.size ≤ n := by
  unfold ssz at h
  refine ⟨by omega, by omega, fun g hg => ?_⟩
  have := sum_le (f := gsz) hg
  have e : gsz g = g.1.size + g.2.length + (g.2.map fun (s : ByteArray) => s.size).sum := rfl
  refine ⟨by omega, by omega, fun u hu => ?_⟩
  have := sum_le (f := fun s : ByteArray => s.size) hu
  omega
theorem gwords_mem {gs : Gs} {s : BA} (h : s ∈ gwords gs) : ∃ g ∈ gs, s = g.1 ∨ s ∈ g.2 := by
  unfold gwords at h
  obtain ⟨g, hg, h⟩ := List.mem_flatMap.1 h
  exact ⟨g, hg, List.mem_cons.1 h⟩
theorem ssz_words {owner : BA} {gs : Gs} {n : Nat} (h : ssz owner gs ≤ n) : ∀ s ∈ [owner] ++ gwords gs, s.size ≤ n := by
  obtain ⟨h1, h2, h3⟩ := ssz_parts h
  intro s hs
  rcases List.mem_append.1 hs with hs | hs
  · rw [List.mem_singleton.1 hs]; exact h1
  · obtain ⟨g, hg, hs⟩ := gwords_mem hs
    rcases hs with rfl | hs
    · exact (h3 g hg).1
    · exact (h3 g hg).2.2 s hs
end Go.Proofs.YtnnhmahemklnkaaGreatDoor

/-
  Laws: whether a setting is small.
-/
namespace Go.Proofs.YtnnhmahemklnkaaGreatDoor
open Go Go.Sh
set_option maxRecDepth 100000
set_option linter.unusedVariables false
set_option linter.unusedSimpArgs false
variable {w0 w : World} {F : Nat → Prop} {l : List As}

theorem small_ok {gV : Value} {gv : List (BA × Value)} {gs : Gs} {owner : BA} (hg : GIn w0 F l gV gv gs) (hb : ssz owner gs ≤ 1048576) (E : Hs w0 F w l) :
    Ca PP Fn.law28_small #[.agg #[str owner, gV]] w fun r w' => r = .bool (decide (ssz owner gs ≤ 2000)) ∧ Hs w0 F w' l := by
  refine S.law28_small.calls ?_
  unfold S.law28_small
  have hb' := hb
  unfold ssz at hb'
  refine StpA.go E ?_
  clear E
  intro q w_ hq E
  (repeat with_reducible first | refine Stp.go ?_ | refine StpE.go E ?_)
  refine hg.rd.len ?_
  refine Bi.add (by omega) ?_
  (repeat with_reducible first | refine Stp.go ?_ | refine StpE.go E ?_)
  refine hg.rd.len ?_
  refine ⟨fun l1 w1 => ∃ (i : Nat) (n : Int), l1 = [i64 n, i64 i] ∧ i ≤ gs.length ∧ n = ((owner.size + gs.length + ((gs.take i).map gsz).sum : Nat) : Int) ∧ Hs w0 F w1 (pt q (oc [str owner, gV] Ty.law28_Setting) :: l), fun l1 _ => match l1 with | [_, .int _ i] => gs.length - i.toNat | _ => 0,
    ⟨0, _, rfl, Nat.zero_le _, by simp, E⟩, ?_⟩
  clear E
  rintro t3 t18 u w1 ⟨i, n, h1, hi, hn, E⟩
  cases h1
  have htk := sum_take (f := gsz) gs i
  refine Bi.lss ?_ ?_ <;> intro hlt <;> (repeat with_reducible refine Stp.go ?_)
  · have hx : gs[i]? = some gs[i] := List.getElem?_eq_getElem (by omega)
    have hy : gv[i]? = some (gv[i]'(by rw [hg.len]; omega)) := List.getElem?_eq_getElem (by rw [hg.len]; omega)
    obtain ⟨nm, uv, hgi⟩ : ∃ nm uv, gv[i]'(by rw [hg.len]; omega) = (nm, uv) := ⟨_, _, rfl⟩
    obtain ⟨us, hus⟩ : ∃ us, gs[i] = (nm, us) := ⟨gs[i].2, by have := (hg.one i _ _ hy hx).1; rw [hgi] at this; exact Prod.ext this.symm rfl⟩
    have hu := (hg.one i _ _ hy hx).2
    rw [hgi, hus] at hu
    rw [hus] at hx
    simp only [] at hu
    have tk : gs.take (i + 1) = gs.take i ++ [(nm, us)] := by rw [List.take_add_one, hx]; rfl
    have hs1 : ((gs.take (i + 1)).map gsz).sum = ((gs.take i).map gsz).sum + (nm.size + us.length + (us.map fun (s : ByteArray) => s.size).sum) := by rw [tk]; simp [gsz]
    have htk2 := sum_take (f := gsz) gs (i + 1)
    refine (hg.rd.cons (pt q (oc [str owner, gV] Ty.law28_Setting))).ix (by omega) (by omega) (by omega) ?_
    intro a ha
    rw [Int.toNat_natCast, flat_drop, List.drop_eq_getElem_cons (by rw [hg.len]; omega), hgi, List.flatMap_cons] at ha
    have hus2 := hu
    obtain ⟨p, c, huv, -⟩ := hus2
    refine ha.lda E (m := 2) (ds := [str nm, uv]) rfl rfl (by omega) ?_
    clear ha
    subst huv
    (repeat with_reducible first | refine Stp.go ?_ | refine StpE.go E ?_ | (refine StpW.go E ?_; clear E; intro w_ E) | (refine StpA.go E ?_; clear E; intro b_ w_ hb_ E))
    (revert b_; intro g hbg E)
    skip
    refine hu.len ?_
    refine Bi.add (by omega) ?_
    refine Bi.add (by omega) ?_
    (repeat with_reducible first | refine Stp.go ?_ | refine StpE.go E ?_)
    refine hu.len ?_
    refine ⟨fun l1 w1 => ∃ (j : Nat) (m : Int), l1 = [i64 m, i64 j] ∧ j ≤ us.length ∧ m = ((owner.size + gs.length + ((gs.take i).map gsz).sum + nm.size + us.length + ((us.take j).map fun (s : ByteArray) => s.size).sum : Nat) : Int) ∧ Hs w0 F w1 (pt g (oc [str nm, .slice p us.length c] Ty.tree_Group) :: pt q (oc [str owner, gV] Ty.law28_Setting) :: l), fun l1 _ => match l1 with | [_, .int _ i] => us.length - i.toNat | _ => 0,
      ⟨0, _, rfl, Nat.zero_le _, by rw [hn, List.take_zero, List.map_nil, List.sum_nil]; omega, E⟩, ?_⟩
    clear E
    rintro t3' t34 u' w2 ⟨j, m, h1, hj, hm, E⟩
    cases h1
    have htj := sum_take (f := fun s : ByteArray => s.size) us j
    refine Bi.lss ?_ ?_ <;> intro hlt2 <;> (repeat with_reducible refine Stp.go ?_)
    · have hxu : us[j]? = some us[j] := List.getElem?_eq_getElem (by omega)
      have hs2 : ((us.take (j + 1)).map fun (s : ByteArray) => s.size).sum = ((us.take j).map fun (s : ByteArray) => s.size).sum + us[j].size := by
        rw [List.take_add_one, hxu, List.map_append, List.sum_append]
        simp
      have htj2 := sum_take (f := fun s : ByteArray => s.size) us (j + 1)
      refine ((hu.cons (pt q (oc [str owner, gV] Ty.law28_Setting))).cons (pt g (oc [str nm, .slice p us.length c] Ty.tree_Group))).ix (by omega) (by omega) (by omega) ?_
      intro a ha
      refine ha.ld E (x := str us[j]) (by rw [Int.toNat_natCast, Nat.mul_one, List.getElem?_drop, Nat.add_zero, List.getElem?_map, hxu]; rfl) ?_
      (repeat with_reducible refine Stp.go ?_)
      refine Bi.add (by omega) ?_
      refine Bi.add (by omega) ?_
      exact ⟨⟨j + 1, m + us[j].size, by simp, by omega, by omega, E⟩, by simp only []; omega⟩
    · rw [show us.take j = us from List.take_of_length_le (by omega)] at hm
      refine Bi.add (by omega) ?_
      exact ⟨⟨i + 1, m, by simp, by omega, by omega, E.tl⟩, by simp only []; omega⟩
  · rw [show gs.take i = gs from List.take_of_length_le (by omega)] at hn
    have e : n = (ssz owner gs : Int) := hn
    refine Bi.leq ?_ ?_ <;> intro h2
    · exact ⟨by rw [decide_eq_true (by omega)], E.tl⟩
    · exact ⟨by rw [decide_eq_false (by omega)], E.tl⟩
end Go.Proofs.YtnnhmahemklnkaaGreatDoor

/-
  TreeClones: the law.
-/
namespace Go.Proofs.YtnnhmahemklnkaaGreatDoor
open Go Go.Sh
set_option maxRecDepth 100000
set_option linter.unusedVariables false
set_option linter.unusedSimpArgs false
variable {w0 w : World} {F : Nat → Prop} {l : List As}

set_option maxHeartbeats 2000000 in
theorem Clones_law {D : List Row} {gV v v2 : Value} {gv : List (BA × Value)} {gs : Gs} {owner : BA} {xs ys : List Ac} (hg : ∀ l, GIn w0 F l gV gv gs) (hb : ssz owner gs ≤ 1048576) (hok : ∀ x ∈ xs, x.Ok) (hxl : xs.length ≤ 9223372036854775807) (hr : ∀ l, RdS w0 F l 20 xs.length v (acs xs)) (hok2 : ∀ x ∈ ys, x.Ok) (hyl : ys.length ≤ 9223372036854775807) (hr2 : ∀ l, RdS w0 F l 20 ys.length v2 (acs ys)) (E : Hs w0 F w (Pool D :: l)) :
    Ca PP Fn.law28_TreeClones #[.agg #[str owner, gV], v, v2] w fun r w' => r = .bool true ∧ ∃ l', Hs w0 F w' l' := by
  refine S.law28_TreeClones.calls ?_
  unfold S.law28_TreeClones
  refine StpA.go E ?_
  clear E
  intro q w_ hq E
  (replace E := ((E.bIx 0).bIx 1))
  refine (awake_ok E).mono ?_
  clear E
  rintro r w_ ⟨rfl, D', -, E⟩
  (repeat first | (with_reducible first | refine Stp.go ?_ | refine StpE.go E ?_ | (refine StpW.go E ?_; clear E; intro w_ E) | (refine StpA.go E ?_; clear E; intro b_ w_ hb_ E) | (apply hJ6; intro u_) | (apply hJ18; intro u_) | (apply hJ44; intro u_) | (apply hJ82; intro u_) | refine LnL.nil ?_) | ((with_reducible refine Bi.dec true ?_ ?_); focus exact rfl) | ((with_reducible refine Bi.dec false ?_ ?_); focus exact rfl) | ((with_reducible refine Bi.sdec true ?_ ?_); focus decide) | ((with_reducible refine Bi.sdec false ?_ ?_); focus decide))
  (intro J6 hJ6)
  have fin6 : ∀ b w_, (b = false → ssz owner gs ≤ 2000 ∧ xs.length ≤ 40 ∧ ys.length ≤ 40) → Hs w0 F w_ (Pool D' :: pt q (oc [str owner, gV] Ty.law28_Setting) :: l) → J6 [.bool b] w_ := by
    intro b w_ hb E
    (repeat first | (with_reducible first | refine Stp.go ?_ | refine StpE.go E ?_ | (refine StpW.go E ?_; clear E; intro w_ E) | (refine StpA.go E ?_; clear E; intro b_ w_ hb_ E) | (apply hJ6; intro u_) | (apply hJ18; intro u_) | (apply hJ44; intro u_) | (apply hJ82; intro u_) | refine LnL.nil ?_) | ((with_reducible refine Bi.dec true ?_ ?_); focus exact rfl) | ((with_reducible refine Bi.dec false ?_ ?_); focus exact rfl) | ((with_reducible refine Bi.sdec true ?_ ?_); focus decide) | ((with_reducible refine Bi.sdec false ?_ ?_); focus decide))
    cases b with
    | true => (repeat first | (with_reducible first | refine Stp.go ?_ | refine StpE.go E ?_ | (refine StpW.go E ?_; clear E; intro w_ E) | (refine StpA.go E ?_; clear E; intro b_ w_ hb_ E) | (apply hJ6; intro u_) | (apply hJ18; intro u_) | (apply hJ44; intro u_) | (apply hJ82; intro u_) | refine LnL.nil ?_) | ((with_reducible refine Bi.dec true ?_ ?_); focus exact rfl) | ((with_reducible refine Bi.dec false ?_ ?_); focus exact rfl) | ((with_reducible refine Bi.sdec true ?_ ?_); focus decide) | ((with_reducible refine Bi.sdec false ?_ ?_); focus decide)); exact ⟨rfl, _, E⟩
    | false =>
      obtain ⟨hs1, hx1, hy1⟩ := hb rfl
      obtain ⟨-, hgl, hgu⟩ := ssz_parts hs1
      (repeat first | (with_reducible first | refine Stp.go ?_ | refine StpE.go E ?_ | (refine StpW.go E ?_; clear E; intro w_ E) | (refine StpA.go E ?_; clear E; intro b_ w_ hb_ E) | (apply hJ6; intro u_) | (apply hJ18; intro u_) | (apply hJ44; intro u_) | (apply hJ82; intro u_) | refine LnL.nil ?_) | ((with_reducible refine Bi.dec true ?_ ?_); focus exact rfl) | ((with_reducible refine Bi.dec false ?_ ?_); focus exact rfl) | ((with_reducible refine Bi.sdec true ?_ ?_); focus decide) | ((with_reducible refine Bi.sdec false ?_ ?_); focus decide))
      refine (played_ok (owner := owner) (hg _) (by omega) (fun g h => by have := (hgu g h).2.1; omega) (fun s h => by have := ssz_words hs1 s h; omega) hok hx1 (hr _) E).mono ?_
      clear E
      rintro r w_ (⟨hc, rfl, E⟩ | ⟨hc, D1, X, β, rfl, hD1, h, hi, hlim, E⟩)
      · (repeat first | (with_reducible first | refine Stp.go ?_ | refine StpE.go E ?_ | (refine StpW.go E ?_; clear E; intro w_ E) | (refine StpA.go E ?_; clear E; intro b_ w_ hb_ E) | (apply hJ6; intro u_) | (apply hJ18; intro u_) | (apply hJ44; intro u_) | (apply hJ82; intro u_) | refine LnL.nil ?_) | ((with_reducible refine Bi.dec true ?_ ?_); focus exact rfl) | ((with_reducible refine Bi.dec false ?_ ?_); focus exact rfl) | ((with_reducible refine Bi.sdec true ?_ ?_); focus decide) | ((with_reducible refine Bi.sdec false ?_ ?_); focus decide))
        refine Eq.et u_p_tree rfl ?_
        (repeat first | (with_reducible first | refine Stp.go ?_ | refine StpE.go E ?_ | (refine StpW.go E ?_; clear E; intro w_ E) | (refine StpA.go E ?_; clear E; intro b_ w_ hb_ E) | (apply hJ6; intro u_) | (apply hJ18; intro u_) | (apply hJ44; intro u_) | (apply hJ82; intro u_) | refine LnL.nil ?_) | ((with_reducible refine Bi.dec true ?_ ?_); focus exact rfl) | ((with_reducible refine Bi.dec false ?_ ?_); focus exact rfl) | ((with_reducible refine Bi.sdec true ?_ ?_); focus decide) | ((with_reducible refine Bi.sdec false ?_ ?_); focus decide))
        exact ⟨rfl, _, E⟩
      refine Eq.ef u_p_tree rfl ?_
      (repeat first | (with_reducible first | refine Stp.go ?_ | refine StpE.go E ?_ | (refine StpW.go E ?_; clear E; intro w_ E) | (refine StpA.go E ?_; clear E; intro b_ w_ hb_ E) | (apply hJ6; intro u_) | (apply hJ18; intro u_) | (apply hJ44; intro u_) | (apply hJ82; intro u_) | refine LnL.nil ?_) | ((with_reducible refine Bi.dec true ?_ ?_); focus exact rfl) | ((with_reducible refine Bi.dec false ?_ ?_); focus exact rfl) | ((with_reducible refine Bi.sdec true ?_ ?_); focus decide) | ((with_reducible refine Bi.sdec false ?_ ?_); focus decide))
      generalize (newT owner gs).acts xs = T at h hi hlim
      replace E := (E.bIx 2).tl
      refine (TClone_ok h hi E).mono ?_
      clear E
      rintro r w_ ⟨Da, Xa, βa, rfl, hDa, ha, E⟩
      (replace E := (((E.bIx 0).bIx 2).bIx 2))
      refine (TClone_ok (h.monoD hDa) hi E).mono ?_
      clear E
      rintro r w_ ⟨Db, Xb, βb, rfl, hDb, hb', E⟩
      replace ha := ha.monoD hDb
      replace h := h.monoD fun x hx => hDb x (hDa x hx)
      have hbi := bare_inv hi
      have hbl := bare_lim hlim
      have hfl := files_len hi
      (intro J18 hJ18)
      have fin18 : ∀ w_, Hs w0 F w_ (trA Xa :: Pool Db :: trA X :: trA Xb :: l) → J18 [.bool false] w_ := by
        intro w_ E
        (repeat first | (with_reducible first | refine Stp.go ?_ | refine StpE.go E ?_ | (refine StpW.go E ?_; clear E; intro w_ E) | (refine StpA.go E ?_; clear E; intro b_ w_ hb_ E) | (apply hJ6; intro u_) | (apply hJ18; intro u_) | (apply hJ44; intro u_) | (apply hJ82; intro u_) | refine LnL.nil ?_) | ((with_reducible refine Bi.dec true ?_ ?_); focus exact rfl) | ((with_reducible refine Bi.dec false ?_ ?_); focus exact rfl) | ((with_reducible refine Bi.sdec true ?_ ?_); focus decide) | ((with_reducible refine Bi.sdec false ?_ ?_); focus decide))
        (replace E := ((((E.bIx 3).bIx 1).bIx 2).bIx 3))
        refine (Files_ok h hi E).mono ?_
        clear E
        intro fv w_ E
        (replace E := ((E.bIx 0).bIx 1))
        refine (Handles_ok h hi E).mono ?_
        clear E
        intro hv w_ E
        (replace E := ((E.bIx 0).bIx 1))
        refine (Clock_ok h E).mono ?_
        clear E
        rintro r w_ ⟨rfl, E⟩
        refine (hr2 l).len ?_
        (replace E := ((((((E.bIx 1).bIx 2).bIx 5).bIx 3).bIx 4).bIx 5))
        refine ⟨fun l1 w1 => ∃ (i : Nat) (D' : List Row) (X' : PT) (β' : Int → Nat), l1 = [i64 i] ∧ i ≤ ys.length ∧ (∀ x ∈ Db, x ∈ D') ∧ X'.t = Xa.t ∧ Tie D' X' (T.bare.acts (ys.take i)) β' ∧ Hs w0 F w1 (trA X' :: Pool D' :: trA X :: trA Xb :: slA fv Ty.tree_File 12 (fcs T.files) :: slA hv Ty.int 1 (T.handles.map i64) :: l),
          fun l1 _ => match l1 with | [.int _ i] => ys.length - i.toNat | _ => 0, ⟨0, Db, Xa, βa, rfl, Nat.zero_le _, fun _ h => h, rfl, ha, E⟩, ?_⟩
        clear E
        rintro t70 u w_ ⟨i, D', X', β', h4', hle, hD', ht, hT, E⟩
        cases h4'
        have hi' := acts_inv (ys.take i) hbi
        have hl' := acts_lim (ys.take i) (by omega) hbl
        have htl : (ys.take i).length ≤ 40 := by rw [List.length_take]; omega
        have hl2 : Lim 300 (T.bare.acts (ys.take i)) := hl'.mono (by omega)
        refine Bi.lss ?_ ?_ <;> intro hlt <;> (repeat first | (with_reducible first | refine Stp.go ?_ | refine StpE.go E ?_ | (refine StpW.go E ?_; clear E; intro w_ E) | (refine StpA.go E ?_; clear E; intro b_ w_ hb_ E) | (apply hJ6; intro u_) | (apply hJ18; intro u_) | (apply hJ44; intro u_) | (apply hJ82; intro u_) | refine LnL.nil ?_) | ((with_reducible refine Bi.dec true ?_ ?_); focus exact rfl) | ((with_reducible refine Bi.dec false ?_ ?_); focus exact rfl) | ((with_reducible refine Bi.sdec true ?_ ?_); focus decide) | ((with_reducible refine Bi.sdec false ?_ ?_); focus decide))
        · have hx : ys[i]? = some ys[i] := List.getElem?_eq_getElem (by omega)
          have hxo : ys[i].Ok := hok2 _ (List.getElem_mem _)
          generalize ys[i] = x at hx hxo
          have hat := acs_at hx
          refine (hr2 l).ix (by omega) (by omega) (by omega) ?_
          intro a ha
          rw [Int.toNat_natCast] at ha
          refine ha.lda (E.drop (List.sublist_append_right [_, _, _, _, _, _] l)) hat rfl (by omega) ?_
          (repeat first | (with_reducible first | refine Stp.go ?_ | refine StpE.go E ?_ | (refine StpW.go E ?_; clear E; intro w_ E) | (refine StpA.go E ?_; clear E; intro b_ w_ hb_ E) | (apply hJ6; intro u_) | (apply hJ18; intro u_) | (apply hJ44; intro u_) | (apply hJ82; intro u_) | refine LnL.nil ?_) | ((with_reducible refine Bi.dec true ?_ ?_); focus exact rfl) | ((with_reducible refine Bi.dec false ?_ ?_); focus exact rfl) | ((with_reducible refine Bi.sdec true ?_ ?_); focus decide) | ((with_reducible refine Bi.sdec false ?_ ?_); focus decide))
          (revert b_; intro b hbb E)
          refine StA.all (vs := x.C) E rfl rfl (ac_scal x) ?_
          clear E
          intro w_ E
          (repeat first | (with_reducible first | refine Stp.go ?_ | refine StpE.go E ?_ | (refine StpW.go E ?_; clear E; intro w_ E) | (refine StpA.go E ?_; clear E; intro b_ w_ hb_ E) | (apply hJ6; intro u_) | (apply hJ18; intro u_) | (apply hJ44; intro u_) | (apply hJ82; intro u_) | refine LnL.nil ?_) | ((with_reducible refine Bi.dec true ?_ ?_); focus exact rfl) | ((with_reducible refine Bi.dec false ?_ ?_); focus exact rfl) | ((with_reducible refine Bi.sdec true ?_ ?_); focus decide) | ((with_reducible refine Bi.sdec false ?_ ?_); focus decide))
          (replace E := ((E.bIx 2).bIx 2))
          rw [← ht]
          refine (Do_ok (x := x) hT hi' (by omega) hl2 hxo E).mono ?_
          clear E
          rintro r w_ ⟨dv, rfl, D3, X3, β3, hD3, ht3, hT3, E⟩
          (repeat first | (with_reducible first | refine Stp.go ?_ | refine StpE.go E ?_ | (refine StpW.go E ?_; clear E; intro w_ E) | (refine StpA.go E ?_; clear E; intro b_ w_ hb_ E) | (apply hJ6; intro u_) | (apply hJ18; intro u_) | (apply hJ44; intro u_) | (apply hJ82; intro u_) | refine LnL.nil ?_) | ((with_reducible refine Bi.dec true ?_ ?_); focus exact rfl) | ((with_reducible refine Bi.dec false ?_ ?_); focus exact rfl) | ((with_reducible refine Bi.sdec true ?_ ?_); focus decide) | ((with_reducible refine Bi.sdec false ?_ ?_); focus decide))
          refine Bi.add (by omega) ?_
          have e : T.bare.acts (ys.take (i + 1)) = ((T.bare.acts (ys.take i)).act x).1 := by
            rw [List.take_add_one, hx]
            exact acts_snoc _ _ _
          refine ⟨⟨i + 1, D3, X3, β3, by simp, by omega, fun y hy => hD3 y (hD' y hy), by rw [ht3, ht], by rw [e]; exact hT3, ?_⟩, ?_⟩
          · exact ((((E.bIx 2).tl).bIx 2).tl)
          · simp only []; omega
        have e : ys.take i = ys := List.take_of_length_le (by omega)
        rw [e] at hT hi'
        replace h := h.monoD hD'
        replace hb' := hb'.monoD hD'
        obtain ⟨Xc, hXc, βc, hTc⟩ : ∃ Xc : PT, Xc = X' ∧ ∃ β, Tie D' Xc (T.bare.acts ys) β := ⟨X', rfl, _, hT⟩
        rw [← hXc] at E ht
        clear hT hXc
        (intro J44 hJ44)
        have fin44 : ∀ w_, Hs w0 F w_ (trA Xc :: Pool D' :: trA X :: trA Xb :: l) → J44 [.bool false] w_ := by
          intro w_ E
          (repeat first | (with_reducible first | refine Stp.go ?_ | refine StpE.go E ?_ | (refine StpW.go E ?_; clear E; intro w_ E) | (refine StpA.go E ?_; clear E; intro b_ w_ hb_ E) | (apply hJ6; intro u_) | (apply hJ18; intro u_) | (apply hJ44; intro u_) | (apply hJ82; intro u_) | refine LnL.nil ?_) | ((with_reducible refine Bi.dec true ?_ ?_); focus exact rfl) | ((with_reducible refine Bi.dec false ?_ ?_); focus exact rfl) | ((with_reducible refine Bi.sdec true ?_ ?_); focus decide) | ((with_reducible refine Bi.sdec false ?_ ?_); focus decide))
          (replace E := ((((E.bIx 3).bIx 1).bIx 2).bIx 3))
          refine (Handles_ok h hi E).mono ?_
          clear E
          intro hv3 w_ E
          have r5 := RdS.sl (T := Ty.int) (sz := 1) (v := hv3) (xs := T.handles.map i64) (by simp) (by omega) E
          rw [Nat.div_one, List.length_map] at r5
          have hhn : T.handles.length ≤ 64 := by unfold Tr.handles; rw [List.length_map]; exact hi.few.2
          (repeat first | (with_reducible first | refine Stp.go ?_ | refine StpE.go E ?_ | (refine StpW.go E ?_; clear E; intro w_ E) | (refine StpA.go E ?_; clear E; intro b_ w_ hb_ E) | (apply hJ6; intro u_) | (apply hJ18; intro u_) | (apply hJ44; intro u_) | (apply hJ82; intro u_) | refine LnL.nil ?_) | ((with_reducible refine Bi.dec true ?_ ?_); focus exact rfl) | ((with_reducible refine Bi.dec false ?_ ?_); focus exact rfl) | ((with_reducible refine Bi.sdec true ?_ ?_); focus decide) | ((with_reducible refine Bi.sdec false ?_ ?_); focus decide))
          refine ⟨fun l1 w1 => ∃ (j : Nat) (D3 : List Row) (X3 : PT) (β3 : Int → Nat), l1 = [i64 j] ∧ j ≤ T.handles.length ∧ (∀ x ∈ D', x ∈ D3) ∧ X3.t = X.t ∧ Tie D3 X3 (T.closes (T.handles.take j)) β3 ∧ Hs w0 F w1 (trA X3 :: Pool D3 :: slA hv3 Ty.int 1 (T.handles.map i64) :: trA Xc :: trA Xb :: l),
            fun l1 _ => match l1 with | [.int _ j] => T.handles.length - j.toNat | _ => 0, ⟨0, D', X, β, rfl, Nat.zero_le _, fun _ h => h, rfl, h, by (replace E := (((E.bIx 0).bIx 2).bIx 2)); exact E⟩, ?_⟩
          clear E
          rintro t105 u2 w_ ⟨j, D3, X3, β3, h4b, hjle, hD3, ht3, hT3, E⟩
          cases h4b
          have hi3 := closes_inv (T.handles.take j) hi
          have hl3 := closes_lim (T.handles.take j) hlim
          have htl3 : (T.handles.take j).length ≤ 64 := by rw [List.length_take]; omega
          have hl4 : Lim 400 (T.closes (T.handles.take j)) := hl3.mono (by omega)
          refine Bi.lss ?_ ?_ <;> intro hlj <;> (try simp only [List.length_map] at hlj) <;> (repeat first | (with_reducible first | refine Stp.go ?_ | refine StpE.go E ?_ | (refine StpW.go E ?_; clear E; intro w_ E) | (refine StpA.go E ?_; clear E; intro b_ w_ hb_ E) | (apply hJ6; intro u_) | (apply hJ18; intro u_) | (apply hJ44; intro u_) | (apply hJ82; intro u_) | refine LnL.nil ?_) | ((with_reducible refine Bi.dec true ?_ ?_); focus exact rfl) | ((with_reducible refine Bi.dec false ?_ ?_); focus exact rfl) | ((with_reducible refine Bi.sdec true ?_ ?_); focus decide) | ((with_reducible refine Bi.sdec false ?_ ?_); focus decide))
          · have hk : T.handles[j]? = some (T.handles[j]'(by omega)) := List.getElem?_eq_getElem (by omega)
            generalize T.handles[j]'(by omega) = hk1 at hk
            refine IxA.sl E (by (first | assumption | exact FPt.mem | exact FMp.mem | exact FSl.mem | (repeat (first | assumption | with_reducible exact List.mem_cons_self | refine List.mem_cons_of_mem _ ?_)))) (by omega) (by first | omega | (simp; done) | (simp; omega)) (by first | omega | (simp; done) | (simp; omega)) ?_
            intro a ha
            (repeat first | (with_reducible first | refine Stp.go ?_ | refine StpE.go E ?_ | (refine StpW.go E ?_; clear E; intro w_ E) | (refine StpA.go E ?_; clear E; intro b_ w_ hb_ E) | (apply hJ6; intro u_) | (apply hJ18; intro u_) | (apply hJ44; intro u_) | (apply hJ82; intro u_) | refine LnL.nil ?_) | ((with_reducible refine Bi.dec true ?_ ?_); focus exact rfl) | ((with_reducible refine Bi.dec false ?_ ?_); focus exact rfl) | ((with_reducible refine Bi.sdec true ?_ ?_); focus decide) | ((with_reducible refine Bi.sdec false ?_ ?_); focus decide))
            refine Ld.sl E (by (first | assumption | exact FPt.mem | exact FMp.mem | exact FSl.mem | (repeat (first | assumption | with_reducible exact List.mem_cons_self | refine List.mem_cons_of_mem _ ?_)))) ha (x := i64 hk1) (by rw [Int.toNat_natCast, Nat.mul_one, List.getElem?_map, hk]; rfl) ?_
            rw [← ht3]
            refine (Close_ok (hd := hk1) hT3 hi3 (by omega) hl4 E).mono ?_
            clear E
            rintro r w_ ⟨rfl, D4, X4, β4, hD4, ht4, hT4, E⟩
            rw [close_ok0 _ _ (closes_at hk)]
            (repeat first | (with_reducible first | refine Stp.go ?_ | refine StpE.go E ?_ | (refine StpW.go E ?_; clear E; intro w_ E) | (refine StpA.go E ?_; clear E; intro b_ w_ hb_ E) | (apply hJ6; intro u_) | (apply hJ18; intro u_) | (apply hJ44; intro u_) | (apply hJ82; intro u_) | refine LnL.nil ?_) | ((with_reducible refine Bi.dec true ?_ ?_); focus exact rfl) | ((with_reducible refine Bi.dec false ?_ ?_); focus exact rfl) | ((with_reducible refine Bi.sdec true ?_ ?_); focus decide) | ((with_reducible refine Bi.sdec false ?_ ?_); focus decide))
            refine Bi.add (by omega) ?_
            refine ⟨⟨j + 1, D4, X4, β4, by simp, by omega, fun y hy => hD4 y (hD3 y hy), by rw [ht4, ht3], ?_, E⟩, by simp only []; omega⟩
            have e : T.closes (T.handles.take (j + 1)) = ((T.closes (T.handles.take j)).close hk1).1 := by
              rw [List.take_add_one, hk]
              exact closes_snoc _ _ _
            rw [e]; exact hT4
          have e : T.handles.take j = T.handles := List.take_of_length_le (by omega)
          rw [e] at hT3 hi3
          replace hb' := hb'.monoD hD3
          replace hTc := hTc.monoD hD3
          rw [← ht3]
          (replace E := (((E.bIx 1).bIx 4).bIx 2))
          refine (equal_ok hT3 hi3 hb' hbi E).mono ?_
          clear E
          rintro r w_ ⟨b4, rfl, hb4, k, E⟩
          replace E := E.drop (List.Sublist.cons_cons _ (List.Sublist.cons_cons _ (List.Sublist.cons_cons _ (List.sublist_append_right k _))))
          cases b4 with
          | false => (repeat first | (with_reducible first | refine Stp.go ?_ | refine StpE.go E ?_ | (refine StpW.go E ?_; clear E; intro w_ E) | (refine StpA.go E ?_; clear E; intro b_ w_ hb_ E) | (apply hJ6; intro u_) | (apply hJ18; intro u_) | (apply hJ44; intro u_) | (apply hJ82; intro u_) | refine LnL.nil ?_) | ((with_reducible refine Bi.dec true ?_ ?_); focus exact rfl) | ((with_reducible refine Bi.dec false ?_ ?_); focus exact rfl) | ((with_reducible refine Bi.sdec true ?_ ?_); focus decide) | ((with_reducible refine Bi.sdec false ?_ ?_); focus decide)); exact ⟨rfl, _, E⟩
          | true =>
            (repeat first | (with_reducible first | refine Stp.go ?_ | refine StpE.go E ?_ | (refine StpW.go E ?_; clear E; intro w_ E) | (refine StpA.go E ?_; clear E; intro b_ w_ hb_ E) | (apply hJ6; intro u_) | (apply hJ18; intro u_) | (apply hJ44; intro u_) | (apply hJ82; intro u_) | refine LnL.nil ?_) | ((with_reducible refine Bi.dec true ?_ ?_); focus exact rfl) | ((with_reducible refine Bi.dec false ?_ ?_); focus exact rfl) | ((with_reducible refine Bi.sdec true ?_ ?_); focus decide) | ((with_reducible refine Bi.sdec false ?_ ?_); focus decide))
            have hTn : T.closes T.handles = T.bare := closes_all (hb4.1 rfl).2
            rw [hTn] at hT3 hi3
            refine (hr2 l).len ?_
            (replace E := (((((E.bIx 3).bIx 2).bIx 4).bIx 4).bIx 4))
            refine ⟨fun l1 w1 => ∃ (i : Nat) (D4 : List Row) (X4 : PT) (β4 : Int → Nat), l1 = [i64 i] ∧ i ≤ ys.length ∧ (∀ x ∈ D3, x ∈ D4) ∧ X4.t = X3.t ∧ Tie D4 X4 (T.bare.acts (ys.take i)) β4 ∧ Hs w0 F w1 (trA X4 :: Pool D4 :: trA Xc :: trA Xb :: slA hv3 Ty.int 1 (T.handles.map i64) :: l),
              fun l1 _ => match l1 with | [.int _ i] => ys.length - i.toNat | _ => 0, ⟨0, D3, X3, β3, rfl, Nat.zero_le _, fun _ h => h, rfl, hT3, E⟩, ?_⟩
            clear E
            rintro t121 u3 w_ ⟨i2, D4, X4, β4, h4c, hle2, hD4, ht4, hT4, E⟩
            cases h4c
            have hi4 := acts_inv (ys.take i2) hbi
            have hl5 := acts_lim (ys.take i2) (by omega) hbl
            have htl4 : (ys.take i2).length ≤ 40 := by rw [List.length_take]; omega
            have hl6 : Lim 300 (T.bare.acts (ys.take i2)) := hl5.mono (by omega)
            refine Bi.lss ?_ ?_ <;> intro hlt2 <;> (repeat first | (with_reducible first | refine Stp.go ?_ | refine StpE.go E ?_ | (refine StpW.go E ?_; clear E; intro w_ E) | (refine StpA.go E ?_; clear E; intro b_ w_ hb_ E) | (apply hJ6; intro u_) | (apply hJ18; intro u_) | (apply hJ44; intro u_) | (apply hJ82; intro u_) | refine LnL.nil ?_) | ((with_reducible refine Bi.dec true ?_ ?_); focus exact rfl) | ((with_reducible refine Bi.dec false ?_ ?_); focus exact rfl) | ((with_reducible refine Bi.sdec true ?_ ?_); focus decide) | ((with_reducible refine Bi.sdec false ?_ ?_); focus decide))
            · have hx : ys[i2]? = some ys[i2] := List.getElem?_eq_getElem (by omega)
              have hxo : ys[i2].Ok := hok2 _ (List.getElem_mem _)
              generalize ys[i2] = x at hx hxo
              have hat := acs_at hx
              refine (hr2 l).ix (by omega) (by omega) (by omega) ?_
              intro a ha
              rw [Int.toNat_natCast] at ha
              refine ha.lda (E.drop (List.sublist_append_right [_, _, _, _, _] l)) hat rfl (by omega) ?_
              (repeat first | (with_reducible first | refine Stp.go ?_ | refine StpE.go E ?_ | (refine StpW.go E ?_; clear E; intro w_ E) | (refine StpA.go E ?_; clear E; intro b_ w_ hb_ E) | (apply hJ6; intro u_) | (apply hJ18; intro u_) | (apply hJ44; intro u_) | (apply hJ82; intro u_) | refine LnL.nil ?_) | ((with_reducible refine Bi.dec true ?_ ?_); focus exact rfl) | ((with_reducible refine Bi.dec false ?_ ?_); focus exact rfl) | ((with_reducible refine Bi.sdec true ?_ ?_); focus decide) | ((with_reducible refine Bi.sdec false ?_ ?_); focus decide))
              (revert b_; intro b hbb E)
              refine StA.all (vs := x.C) E rfl rfl (ac_scal x) ?_
              clear E
              intro w_ E
              (repeat first | (with_reducible first | refine Stp.go ?_ | refine StpE.go E ?_ | (refine StpW.go E ?_; clear E; intro w_ E) | (refine StpA.go E ?_; clear E; intro b_ w_ hb_ E) | (apply hJ6; intro u_) | (apply hJ18; intro u_) | (apply hJ44; intro u_) | (apply hJ82; intro u_) | refine LnL.nil ?_) | ((with_reducible refine Bi.dec true ?_ ?_); focus exact rfl) | ((with_reducible refine Bi.dec false ?_ ?_); focus exact rfl) | ((with_reducible refine Bi.sdec true ?_ ?_); focus decide) | ((with_reducible refine Bi.sdec false ?_ ?_); focus decide))
              (replace E := ((E.bIx 2).bIx 2))
              rw [← ht4]
              refine (Do_ok (x := x) hT4 hi4 (by omega) hl6 hxo E).mono ?_
              clear E
              rintro r w_ ⟨dv, rfl, D5, X5, β5, hD5, ht5, hT5, E⟩
              (repeat first | (with_reducible first | refine Stp.go ?_ | refine StpE.go E ?_ | (refine StpW.go E ?_; clear E; intro w_ E) | (refine StpA.go E ?_; clear E; intro b_ w_ hb_ E) | (apply hJ6; intro u_) | (apply hJ18; intro u_) | (apply hJ44; intro u_) | (apply hJ82; intro u_) | refine LnL.nil ?_) | ((with_reducible refine Bi.dec true ?_ ?_); focus exact rfl) | ((with_reducible refine Bi.dec false ?_ ?_); focus exact rfl) | ((with_reducible refine Bi.sdec true ?_ ?_); focus decide) | ((with_reducible refine Bi.sdec false ?_ ?_); focus decide))
              refine Bi.add (by omega) ?_
              have e : T.bare.acts (ys.take (i2 + 1)) = ((T.bare.acts (ys.take i2)).act x).1 := by
                rw [List.take_add_one, hx]
                exact acts_snoc _ _ _
              refine ⟨⟨i2 + 1, D5, X5, β5, by simp, by omega, fun y hy => hD5 y (hD4 y hy), by rw [ht5, ht4], by rw [e]; exact hT5, ?_⟩, ?_⟩
              · exact ((((E.bIx 2).tl).bIx 2).tl)
              · simp only []; omega
            have e : ys.take i2 = ys := List.take_of_length_le (by omega)
            rw [e] at hT4 hi4
            replace hTc := hTc.monoD hD4
            (intro J82 hJ82)
            have fin82 : ∀ w_, (∃ l', Hs w0 F w_ l') → J82 [.bool true] w_ := by
              intro w_ E
              (repeat first | (with_reducible first | refine Stp.go ?_ | refine StpE.go E ?_ | (refine StpW.go E ?_; clear E; intro w_ E) | (refine StpA.go E ?_; clear E; intro b_ w_ hb_ E) | (apply hJ6; intro u_) | (apply hJ18; intro u_) | (apply hJ44; intro u_) | (apply hJ82; intro u_) | refine LnL.nil ?_) | ((with_reducible refine Bi.dec true ?_ ?_); focus exact rfl) | ((with_reducible refine Bi.dec false ?_ ?_); focus exact rfl) | ((with_reducible refine Bi.sdec true ?_ ?_); focus decide) | ((with_reducible refine Bi.sdec false ?_ ?_); focus decide))
              exact ⟨rfl, E⟩
            clear hJ82
            rw [← ht4, ← ht]
            (replace E := (((E.bIx 1).bIx 2).bIx 2))
            refine (equal_ok hT4 hi4 hTc hi' E).mono ?_
            clear E
            rintro r w_ ⟨b5, rfl, hb5, k2, E⟩
            obtain rfl : b5 = true := hb5.2 ⟨rfl, rfl⟩
            replace E := E.drop (List.Sublist.cons_cons _ (List.Sublist.cons_cons _ (List.Sublist.cons_cons _ (List.sublist_append_right k2 _))))
            (repeat first | (with_reducible first | refine Stp.go ?_ | refine StpE.go E ?_ | (refine StpW.go E ?_; clear E; intro w_ E) | (refine StpA.go E ?_; clear E; intro b_ w_ hb_ E) | (apply hJ6; intro u_) | (apply hJ18; intro u_) | (apply hJ44; intro u_) | (apply hJ82; intro u_) | refine LnL.nil ?_) | ((with_reducible refine Bi.dec true ?_ ?_); focus exact rfl) | ((with_reducible refine Bi.dec false ?_ ?_); focus exact rfl) | ((with_reducible refine Bi.sdec true ?_ ?_); focus decide) | ((with_reducible refine Bi.sdec false ?_ ?_); focus decide))
            refine (Handles_ok hT4 hi4 E).mono ?_
            clear E
            intro hv4 w_ E
            (repeat first | (with_reducible first | refine Stp.go ?_ | refine StpE.go E ?_ | (refine StpW.go E ?_; clear E; intro w_ E) | (refine StpA.go E ?_; clear E; intro b_ w_ hb_ E) | (apply hJ6; intro u_) | (apply hJ18; intro u_) | (apply hJ44; intro u_) | (apply hJ82; intro u_) | refine LnL.nil ?_) | ((with_reducible refine Bi.dec true ?_ ?_); focus exact rfl) | ((with_reducible refine Bi.dec false ?_ ?_); focus exact rfl) | ((with_reducible refine Bi.sdec true ?_ ?_); focus decide) | ((with_reducible refine Bi.sdec false ?_ ?_); focus decide))
            (replace E := (((E.bIx 0).bIx 1).bIx 2))
            refine (Handles_ok hTc hi' E).mono ?_
            clear E
            intro hv5 w_ E
            have r6 := RdS.sl (T := Ty.int) (sz := 1) (v := hv4) (xs := (T.bare.acts ys).handles.map i64) (by simp) (by omega) E
            have r7 := RdS.sl (T := Ty.int) (sz := 1) (v := hv5) (xs := (T.bare.acts ys).handles.map i64) (by simp) (by omega) E
            rw [Nat.div_one, List.length_map] at r6 r7
            have hhn2 : (T.bare.acts ys).handles.length ≤ 64 := by unfold Tr.handles; rw [List.length_map]; exact hi4.few.2
            (repeat first | (with_reducible first | refine Stp.go ?_ | refine StpE.go E ?_ | (refine StpW.go E ?_; clear E; intro w_ E) | (refine StpA.go E ?_; clear E; intro b_ w_ hb_ E) | (apply hJ6; intro u_) | (apply hJ18; intro u_) | (apply hJ44; intro u_) | (apply hJ82; intro u_) | refine LnL.nil ?_) | ((with_reducible refine Bi.dec true ?_ ?_); focus exact rfl) | ((with_reducible refine Bi.dec false ?_ ?_); focus exact rfl) | ((with_reducible refine Bi.sdec true ?_ ?_); focus decide) | ((with_reducible refine Bi.sdec false ?_ ?_); focus decide))
            refine (eqInts_ok (by omega) E r6 r7).mono ?_
            clear E
            rintro r w_ ⟨b6, rfl, hb6, E⟩
            obtain rfl : b6 = true := hb6.2 rfl
            (repeat first | (with_reducible first | refine Stp.go ?_ | refine StpE.go E ?_ | (refine StpW.go E ?_; clear E; intro w_ E) | (refine StpA.go E ?_; clear E; intro b_ w_ hb_ E) | (apply hJ6; intro u_) | (apply hJ18; intro u_) | (apply hJ44; intro u_) | (apply hJ82; intro u_) | refine LnL.nil ?_) | ((with_reducible refine Bi.dec true ?_ ?_); focus exact rfl) | ((with_reducible refine Bi.dec false ?_ ?_); focus exact rfl) | ((with_reducible refine Bi.sdec true ?_ ?_); focus decide) | ((with_reducible refine Bi.sdec false ?_ ?_); focus decide))
            exact fin82 _ ⟨_, E⟩
        clear hJ44
        (replace E := ((E.bIx 1).bIx 2))
        refine (Files_ok h hi E).mono ?_
        clear E
        intro fv2 w_ E
        have r1 := RdS.sl (T := Ty.tree_File) (sz := 12) (v := fv) (xs := fcs T.files) (by simp) (by omega) E
        have r2 := RdS.sl (T := Ty.tree_File) (sz := 12) (v := fv2) (xs := fcs T.files) (by simp) (by omega) E
        rw [fcs_len, Nat.mul_div_cancel _ (by omega)] at r1 r2
        refine (eqFiles_ok (by omega) E r1 r2).mono ?_
        clear E
        rintro r w_ ⟨b1, rfl, hb1, E⟩
        obtain rfl : b1 = true := hb1.2 rfl
        (repeat first | (with_reducible first | refine Stp.go ?_ | refine StpE.go E ?_ | (refine StpW.go E ?_; clear E; intro w_ E) | (refine StpA.go E ?_; clear E; intro b_ w_ hb_ E) | (apply hJ6; intro u_) | (apply hJ18; intro u_) | (apply hJ44; intro u_) | (apply hJ82; intro u_) | refine LnL.nil ?_) | ((with_reducible refine Bi.dec true ?_ ?_); focus exact rfl) | ((with_reducible refine Bi.dec false ?_ ?_); focus exact rfl) | ((with_reducible refine Bi.sdec true ?_ ?_); focus decide) | ((with_reducible refine Bi.sdec false ?_ ?_); focus decide))
        (replace E := ((E.bIx 0).bIx 1))
        refine (Handles_ok h hi E).mono ?_
        clear E
        intro hv2 w_ E
        have r3 := RdS.sl (T := Ty.int) (sz := 1) (v := hv) (xs := T.handles.map i64) (by simp) (by omega) E
        have r4 := RdS.sl (T := Ty.int) (sz := 1) (v := hv2) (xs := T.handles.map i64) (by simp) (by omega) E
        rw [Nat.div_one, List.length_map] at r3 r4
        have hhn : T.handles.length ≤ 64 := by unfold Tr.handles; rw [List.length_map]; exact hi.few.2
        (repeat first | (with_reducible first | refine Stp.go ?_ | refine StpE.go E ?_ | (refine StpW.go E ?_; clear E; intro w_ E) | (refine StpA.go E ?_; clear E; intro b_ w_ hb_ E) | (apply hJ6; intro u_) | (apply hJ18; intro u_) | (apply hJ44; intro u_) | (apply hJ82; intro u_) | refine LnL.nil ?_) | ((with_reducible refine Bi.dec true ?_ ?_); focus exact rfl) | ((with_reducible refine Bi.dec false ?_ ?_); focus exact rfl) | ((with_reducible refine Bi.sdec true ?_ ?_); focus decide) | ((with_reducible refine Bi.sdec false ?_ ?_); focus decide))
        refine (eqInts_ok (by omega) E r3 r4).mono ?_
        clear E
        rintro r w_ ⟨b2, rfl, hb2', E⟩
        obtain rfl : b2 = true := hb2'.2 rfl
        (repeat first | (with_reducible first | refine Stp.go ?_ | refine StpE.go E ?_ | (refine StpW.go E ?_; clear E; intro w_ E) | (refine StpA.go E ?_; clear E; intro b_ w_ hb_ E) | (apply hJ6; intro u_) | (apply hJ18; intro u_) | (apply hJ44; intro u_) | (apply hJ82; intro u_) | refine LnL.nil ?_) | ((with_reducible refine Bi.dec true ?_ ?_); focus exact rfl) | ((with_reducible refine Bi.dec false ?_ ?_); focus exact rfl) | ((with_reducible refine Bi.sdec true ?_ ?_); focus decide) | ((with_reducible refine Bi.sdec false ?_ ?_); focus decide))
        (replace E := ((E.bIx 0).bIx 1))
        refine (Clock_ok h E).mono ?_
        clear E
        rintro r w_ ⟨rfl, E⟩
        (repeat first | (with_reducible first | refine Stp.go ?_ | refine StpE.go E ?_ | (refine StpW.go E ?_; clear E; intro w_ E) | (refine StpA.go E ?_; clear E; intro b_ w_ hb_ E) | (apply hJ6; intro u_) | (apply hJ18; intro u_) | (apply hJ44; intro u_) | (apply hJ82; intro u_) | refine LnL.nil ?_) | ((with_reducible refine Bi.dec true ?_ ?_); focus exact rfl) | ((with_reducible refine Bi.dec false ?_ ?_); focus exact rfl) | ((with_reducible refine Bi.sdec true ?_ ?_); focus decide) | ((with_reducible refine Bi.sdec false ?_ ?_); focus decide))
        refine Bi.neq (fun h => absurd rfl h) fun _ => ?_
        (repeat first | (with_reducible first | refine Stp.go ?_ | refine StpE.go E ?_ | (refine StpW.go E ?_; clear E; intro w_ E) | (refine StpA.go E ?_; clear E; intro b_ w_ hb_ E) | (apply hJ6; intro u_) | (apply hJ18; intro u_) | (apply hJ44; intro u_) | (apply hJ82; intro u_) | refine LnL.nil ?_) | ((with_reducible refine Bi.dec true ?_ ?_); focus exact rfl) | ((with_reducible refine Bi.dec false ?_ ?_); focus exact rfl) | ((with_reducible refine Bi.sdec true ?_ ?_); focus decide) | ((with_reducible refine Bi.sdec false ?_ ?_); focus decide))
        (replace E := ((((((((E.bIx 7).bIx 7).bIx 4).bIx 4).bIx 6).bIx 6).bIx 6).bIx 7))
        refine (equal_ok hb' hbi h hi E).mono ?_
        clear E
        rintro r w_ ⟨b3, rfl, hb3', k, E⟩
        obtain rfl : b3 = true := hb3'.2 ⟨files_bare, rfl⟩
        replace E := E.drop (List.Sublist.cons_cons _ (List.Sublist.cons_cons _ (List.Sublist.cons_cons _ (List.sublist_append_right k _))))
        (repeat first | (with_reducible first | refine Stp.go ?_ | refine StpE.go E ?_ | (refine StpW.go E ?_; clear E; intro w_ E) | (refine StpA.go E ?_; clear E; intro b_ w_ hb_ E) | (apply hJ6; intro u_) | (apply hJ18; intro u_) | (apply hJ44; intro u_) | (apply hJ82; intro u_) | refine LnL.nil ?_) | ((with_reducible refine Bi.dec true ?_ ?_); focus exact rfl) | ((with_reducible refine Bi.dec false ?_ ?_); focus exact rfl) | ((with_reducible refine Bi.sdec true ?_ ?_); focus decide) | ((with_reducible refine Bi.sdec false ?_ ?_); focus decide))
        (replace E := ((((E.bIx 0).bIx 1).bIx 2).bIx 3))
        exact fin44 _ (E.drop (List.Sublist.cons_cons _ (List.Sublist.cons_cons _ (List.Sublist.cons_cons _ (List.Sublist.cons_cons _ (List.sublist_append_right [_, _, _, _] l))))))
      clear hJ18
      refine Eq.ef u_p_tree rfl ?_
      (repeat first | (with_reducible first | refine Stp.go ?_ | refine StpE.go E ?_ | (refine StpW.go E ?_; clear E; intro w_ E) | (refine StpA.go E ?_; clear E; intro b_ w_ hb_ E) | (apply hJ6; intro u_) | (apply hJ18; intro u_) | (apply hJ44; intro u_) | (apply hJ82; intro u_) | refine LnL.nil ?_) | ((with_reducible refine Bi.dec true ?_ ?_); focus exact rfl) | ((with_reducible refine Bi.dec false ?_ ?_); focus exact rfl) | ((with_reducible refine Bi.sdec true ?_ ?_); focus decide) | ((with_reducible refine Bi.sdec false ?_ ?_); focus decide))
      refine Eq.ef u_p_tree rfl ?_
      (repeat first | (with_reducible first | refine Stp.go ?_ | refine StpE.go E ?_ | (refine StpW.go E ?_; clear E; intro w_ E) | (refine StpA.go E ?_; clear E; intro b_ w_ hb_ E) | (apply hJ6; intro u_) | (apply hJ18; intro u_) | (apply hJ44; intro u_) | (apply hJ82; intro u_) | refine LnL.nil ?_) | ((with_reducible refine Bi.dec true ?_ ?_); focus exact rfl) | ((with_reducible refine Bi.dec false ?_ ?_); focus exact rfl) | ((with_reducible refine Bi.sdec true ?_ ?_); focus decide) | ((with_reducible refine Bi.sdec false ?_ ?_); focus decide))
      (replace E := ((((E.bIx 0).bIx 2).bIx 2).bIx 3))
      refine (equal_ok ha hbi h hi E).mono ?_
      clear E
      rintro r w_ ⟨b, rfl, hb2, k, E⟩
      obtain rfl : b = true := hb2.2 ⟨files_bare, rfl⟩
      replace E := E.drop (List.Sublist.cons_cons _ (List.Sublist.cons_cons _ (List.Sublist.cons_cons _ (List.sublist_append_right k _))))
      (repeat first | (with_reducible first | refine Stp.go ?_ | refine StpE.go E ?_ | (refine StpW.go E ?_; clear E; intro w_ E) | (refine StpA.go E ?_; clear E; intro b_ w_ hb_ E) | (apply hJ6; intro u_) | (apply hJ18; intro u_) | (apply hJ44; intro u_) | (apply hJ82; intro u_) | refine LnL.nil ?_) | ((with_reducible refine Bi.dec true ?_ ?_); focus exact rfl) | ((with_reducible refine Bi.dec false ?_ ?_); focus exact rfl) | ((with_reducible refine Bi.sdec true ?_ ?_); focus decide) | ((with_reducible refine Bi.sdec false ?_ ?_); focus decide))
      refine (Handles_ok ha hbi E).mono ?_
      clear E
      intro hv w_ E
      (repeat first | (with_reducible first | refine Stp.go ?_ | refine StpE.go E ?_ | (refine StpW.go E ?_; clear E; intro w_ E) | (refine StpA.go E ?_; clear E; intro b_ w_ hb_ E) | (apply hJ6; intro u_) | (apply hJ18; intro u_) | (apply hJ44; intro u_) | (apply hJ82; intro u_) | refine LnL.nil ?_) | ((with_reducible refine Bi.dec true ?_ ?_); focus exact rfl) | ((with_reducible refine Bi.dec false ?_ ?_); focus exact rfl) | ((with_reducible refine Bi.sdec true ?_ ?_); focus decide) | ((with_reducible refine Bi.sdec false ?_ ?_); focus decide))
      replace E := E.tl
      (replace E := ((((E.bIx 3).bIx 2).bIx 3).bIx 3))
      exact fin18 _ E
  clear hJ6
  (repeat first | (with_reducible first | refine Stp.go ?_ | refine StpE.go E ?_ | (refine StpW.go E ?_; clear E; intro w_ E) | (refine StpA.go E ?_; clear E; intro b_ w_ hb_ E) | (apply hJ6; intro u_) | (apply hJ18; intro u_) | (apply hJ44; intro u_) | (apply hJ82; intro u_) | refine LnL.nil ?_) | ((with_reducible refine Bi.dec true ?_ ?_); focus exact rfl) | ((with_reducible refine Bi.dec false ?_ ?_); focus exact rfl) | ((with_reducible refine Bi.sdec true ?_ ?_); focus decide) | ((with_reducible refine Bi.sdec false ?_ ?_); focus decide))
  refine (small_ok (hg _) hb E).mono ?_
  clear E
  rintro r w_ ⟨rfl, E⟩
  refine Un.not ?_
  cases hs : decide (ssz owner gs ≤ 2000) with
  | false =>
    simp only [Bool.not_false]
    (repeat first | (with_reducible first | refine Stp.go ?_ | refine StpE.go E ?_ | (refine StpW.go E ?_; clear E; intro w_ E) | (refine StpA.go E ?_; clear E; intro b_ w_ hb_ E) | (apply hJ6; intro u_) | (apply hJ18; intro u_) | (apply hJ44; intro u_) | (apply hJ82; intro u_) | refine LnL.nil ?_) | ((with_reducible refine Bi.dec true ?_ ?_); focus exact rfl) | ((with_reducible refine Bi.dec false ?_ ?_); focus exact rfl) | ((with_reducible refine Bi.sdec true ?_ ?_); focus decide) | ((with_reducible refine Bi.sdec false ?_ ?_); focus decide))
    exact fin6 true _ (fun h => by cases h) E
  | true =>
    simp only [Bool.not_true]
    (repeat first | (with_reducible first | refine Stp.go ?_ | refine StpE.go E ?_ | (refine StpW.go E ?_; clear E; intro w_ E) | (refine StpA.go E ?_; clear E; intro b_ w_ hb_ E) | (apply hJ6; intro u_) | (apply hJ18; intro u_) | (apply hJ44; intro u_) | (apply hJ82; intro u_) | refine LnL.nil ?_) | ((with_reducible refine Bi.dec true ?_ ?_); focus exact rfl) | ((with_reducible refine Bi.dec false ?_ ?_); focus exact rfl) | ((with_reducible refine Bi.sdec true ?_ ?_); focus decide) | ((with_reducible refine Bi.sdec false ?_ ?_); focus decide))
    refine (Few_ok hxl (hr _) E).mono ?_
    clear E
    rintro r w_ ⟨b, rfl, hb2, E⟩
    (repeat first | (with_reducible first | refine Stp.go ?_ | refine StpE.go E ?_ | (refine StpW.go E ?_; clear E; intro w_ E) | (refine StpA.go E ?_; clear E; intro b_ w_ hb_ E) | (apply hJ6; intro u_) | (apply hJ18; intro u_) | (apply hJ44; intro u_) | (apply hJ82; intro u_) | refine LnL.nil ?_) | ((with_reducible refine Bi.dec true ?_ ?_); focus exact rfl) | ((with_reducible refine Bi.dec false ?_ ?_); focus exact rfl) | ((with_reducible refine Bi.sdec true ?_ ?_); focus decide) | ((with_reducible refine Bi.sdec false ?_ ?_); focus decide))
    refine Un.not ?_
    (repeat first | (with_reducible first | refine Stp.go ?_ | refine StpE.go E ?_ | (refine StpW.go E ?_; clear E; intro w_ E) | (refine StpA.go E ?_; clear E; intro b_ w_ hb_ E) | (apply hJ6; intro u_) | (apply hJ18; intro u_) | (apply hJ44; intro u_) | (apply hJ82; intro u_) | refine LnL.nil ?_) | ((with_reducible refine Bi.dec true ?_ ?_); focus exact rfl) | ((with_reducible refine Bi.dec false ?_ ?_); focus exact rfl) | ((with_reducible refine Bi.sdec true ?_ ?_); focus decide) | ((with_reducible refine Bi.sdec false ?_ ?_); focus decide))
    cases b with
    | false =>
      simp only [Bool.not_false]
      (repeat first | (with_reducible first | refine Stp.go ?_ | refine StpE.go E ?_ | (refine StpW.go E ?_; clear E; intro w_ E) | (refine StpA.go E ?_; clear E; intro b_ w_ hb_ E) | (apply hJ6; intro u_) | (apply hJ18; intro u_) | (apply hJ44; intro u_) | (apply hJ82; intro u_) | refine LnL.nil ?_) | ((with_reducible refine Bi.dec true ?_ ?_); focus exact rfl) | ((with_reducible refine Bi.dec false ?_ ?_); focus exact rfl) | ((with_reducible refine Bi.sdec true ?_ ?_); focus decide) | ((with_reducible refine Bi.sdec false ?_ ?_); focus decide))
      exact fin6 true _ (fun h => by cases h) E
    | true =>
      simp only [Bool.not_true]
      (repeat first | (with_reducible first | refine Stp.go ?_ | refine StpE.go E ?_ | (refine StpW.go E ?_; clear E; intro w_ E) | (refine StpA.go E ?_; clear E; intro b_ w_ hb_ E) | (apply hJ6; intro u_) | (apply hJ18; intro u_) | (apply hJ44; intro u_) | (apply hJ82; intro u_) | refine LnL.nil ?_) | ((with_reducible refine Bi.dec true ?_ ?_); focus exact rfl) | ((with_reducible refine Bi.dec false ?_ ?_); focus exact rfl) | ((with_reducible refine Bi.sdec true ?_ ?_); focus decide) | ((with_reducible refine Bi.sdec false ?_ ?_); focus decide))
      refine (Few_ok hyl (hr2 _) E).mono ?_
      clear E
      rintro r w_ ⟨b, rfl, hb3, E⟩
      (repeat first | (with_reducible first | refine Stp.go ?_ | refine StpE.go E ?_ | (refine StpW.go E ?_; clear E; intro w_ E) | (refine StpA.go E ?_; clear E; intro b_ w_ hb_ E) | (apply hJ6; intro u_) | (apply hJ18; intro u_) | (apply hJ44; intro u_) | (apply hJ82; intro u_) | refine LnL.nil ?_) | ((with_reducible refine Bi.dec true ?_ ?_); focus exact rfl) | ((with_reducible refine Bi.dec false ?_ ?_); focus exact rfl) | ((with_reducible refine Bi.sdec true ?_ ?_); focus decide) | ((with_reducible refine Bi.sdec false ?_ ?_); focus decide))
      refine Un.not ?_
      (repeat first | (with_reducible first | refine Stp.go ?_ | refine StpE.go E ?_ | (refine StpW.go E ?_; clear E; intro w_ E) | (refine StpA.go E ?_; clear E; intro b_ w_ hb_ E) | (apply hJ6; intro u_) | (apply hJ18; intro u_) | (apply hJ44; intro u_) | (apply hJ82; intro u_) | refine LnL.nil ?_) | ((with_reducible refine Bi.dec true ?_ ?_); focus exact rfl) | ((with_reducible refine Bi.dec false ?_ ?_); focus exact rfl) | ((with_reducible refine Bi.sdec true ?_ ?_); focus decide) | ((with_reducible refine Bi.sdec false ?_ ?_); focus decide))
      exact fin6 _ _ (fun hq => ⟨of_decide_eq_true hs, hb2 rfl, hb3 (by simpa using hq)⟩) E
end Go.Proofs.YtnnhmahemklnkaaGreatDoor
