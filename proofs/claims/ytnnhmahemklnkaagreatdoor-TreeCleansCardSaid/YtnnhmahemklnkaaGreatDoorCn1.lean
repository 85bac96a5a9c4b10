/-
  Trees: the files of a directory in the order of their names.
-/
import Derived.Test.YtnnhmahemklnkaaGreatDoorTo8
import Derived.Test.YtnnhmahemklnkaaGreatDoorTo1
import Derived.Test.YtnnhmahemklnkaaGreatDoorSh21
namespace Go.Proofs.YtnnhmahemklnkaaGreatDoor
open Go Go.Sh
set_option maxRecDepth 100000
set_option linter.unusedVariables false
set_option linter.unusedSimpArgs false
variable {w0 w : World} {F : Nat → Prop} {l : List As}
variable {D : List Row} {X : PT} {T : Tr} {β : Int → Nat}

theorem sortS_perm {xs ys : List BA} (h : xs.Perm ys) : sortS xs = sortS ys := by
  unfold sortS
  congr 1
  have so : ∀ zs : List (List UInt8), (zs.mergeSort fun x y => decide (x ≤ y)).Pairwise (fun a b => a ≤ b) := fun zs => by
    have := List.pairwise_mergeSort (le := fun x y : List UInt8 => decide (x ≤ y)) (fun a b c h1 h2 => by simp at h1 h2 ⊢; exact List.le_trans h1 h2) (fun a b => by simp; exact List.le_total a b) zs
    exact this.imp fun h => by simpa using h
  refine List.Perm.eq_of_pairwise (le := fun a b => a ≤ b) (fun a b _ _ h1 h2 => List.le_antisymm h1 h2) (so _) (so _) ?_
  exact (List.mergeSort_perm _ _).trans ((h.map byt).trans (List.mergeSort_perm _ _).symm)
theorem sortS_mem (xs : List BA) : (sortS xs).Perm xs := by
  unfold sortS
  have h1 := (List.mergeSort_perm (xs.map byt) fun x y => decide (x ≤ y)).map fun l : List UInt8 => (⟨l.toArray⟩ : ByteArray)
  refine h1.trans ?_
  rw [List.map_map]
  have e : ((fun l : List UInt8 => (⟨l.toArray⟩ : ByteArray)) ∘ byt) = id := by funext x; exact byt_mk x
  rw [e, List.map_id]
/-- The files of a directory, by their names. -/
def Tr.kidsS (T : Tr) (p : Int) : List Nd := (sortS ((T.kids p).map (·.name))).filterMap (T.kid p)
theorem kid_of (hi : Inv T) {p : Int} {s : BA} (h : s ∈ (T.kids p).map (·.name)) : ∃ k, T.kid p s = some k ∧ k.name = s := by
  obtain ⟨k, hk, rfl⟩ := List.mem_map.1 h
  unfold Tr.kids at hk
  obtain ⟨h1, h2⟩ := List.mem_filter.1 hk
  unfold Tr.isKid at h2
  have h2 := of_decide_eq_true h2
  exact ⟨k, (kid_some hi).2 ⟨h1, h2.1, h2.2, rfl⟩, rfl⟩
theorem kidsS_names (hi : Inv T) (p : Int) : (T.kidsS p).map (·.name) = sortS ((T.kids p).map (·.name)) := by
  unfold Tr.kidsS
  have hm : ∀ s ∈ sortS ((T.kids p).map (·.name)), s ∈ (T.kids p).map (·.name) := fun s hs => (sortS_mem _).mem_iff.1 hs
  generalize sortS ((T.kids p).map (·.name)) = S at hm
  induction S with
  | nil => rfl
  | cons s r ih =>
    obtain ⟨k, hk, hn⟩ := kid_of hi (hm s List.mem_cons_self)
    rw [List.filterMap_cons, hk]
    simp only [List.map_cons, hn]
    rw [ih fun x hx => hm x (List.mem_cons_of_mem _ hx)]
theorem kidsS_mem (hi : Inv T) {p : Int} {k : Nd} (h : k ∈ T.kidsS p) : k ∈ T.ns ∧ k.path ≠ 0 ∧ k.up = p := by
  unfold Tr.kidsS at h
  obtain ⟨s, _, hk⟩ := List.mem_filterMap.1 h
  obtain ⟨h1, h2, h3, _⟩ := (kid_some hi).1 hk
  exact ⟨h1, h2, h3⟩
theorem kidsS_get (hi : Inv T) {p : Int} {i : Nat} {s : BA} (h : (sortS ((T.kids p).map (·.name)))[i]? = some s) : ∃ k, (T.kidsS p)[i]? = some k ∧ T.kid p s = some k := by
  have hn := kidsS_names hi p
  have h1 : ((T.kidsS p).map (·.name))[i]? = some s := by rw [hn]; exact h
  rw [List.getElem?_map] at h1
  cases hk : (T.kidsS p)[i]? with
  | none => rw [hk] at h1; cases h1
  | some k =>
    rw [hk] at h1
    have hks : k.name = s := by simpa using h1
    refine ⟨k, rfl, ?_⟩
    obtain ⟨m1, m2, m3⟩ := kidsS_mem hi (List.mem_of_getElem? hk)
    exact (kid_some hi).2 ⟨m1, m2, m3, hks⟩
theorem kids_perm (h : Tie D X T β) {n : PN} (hn : n ∈ X.ps) : (n.kl.map (·.1)).Perm ((T.kids n.f.path).map (·.name)) := by
  have h1 := (h.kl n hn).map (·.1)
  rw [List.map_map] at h1
  refine h1.trans ?_
  have h2 := ((h.ns.filter (Tr.isKid n.f.path)).map fun k : Nd => k.name)
  unfold Tr.kids
  refine List.Perm.trans ?_ h2
  rw [List.filter_map, List.map_map]
  exact List.Perm.refl _

theorem perm4 {A B C D : As} (ks rest : List As) : (C :: D :: B :: A :: (ks ++ rest)).Perm (ks ++ ([A, B] ++ (C :: D :: rest))) := by
  have h1 : (C :: D :: B :: A :: (ks ++ rest)).Perm (A :: B :: C :: D :: (ks ++ rest)) := by
    refine ((List.Perm.swap _ _ _).cons C).trans ?_
    refine (List.Perm.swap _ _ _).trans ?_
    refine ((List.perm_middle (l₁ := [C, D]) (a := A) (l₂ := ks ++ rest)).cons B).trans ?_
    exact List.Perm.swap _ _ _
  exact h1.trans (permBack [A, B, C, D] ks rest)
theorem Keys_ok {m : Nat} (E : Hs w0 F w l) : Ca PP Fn.maps_Keys_map_string_p_tree_node_string_p_tree_node #[.map (some m)] w fun r w' => ∃ a, r = keysSF a ∧ Hs w0 F w' (pt a (oc [.map (some m)] Ty.map_string_p_tree_node) :: l) := by
  refine S.maps_Keys_map_string_p_tree_node_string_p_tree_node.calls ?_
  unfold S.maps_Keys_map_string_p_tree_node_string_p_tree_node
  (repeat first | (with_reducible first | refine Stp.go ?_ | refine StpE.go E ?_ | (refine StpW.go E ?_; clear E; intro w_ E) | (refine StpA.go E ?_; clear E; intro b_ w_ hb_ E) | refine LnL.nil ?_) | ((with_reducible refine Bi.dec true ?_ ?_); focus exact rfl) | ((with_reducible refine Bi.dec false ?_ ?_); focus exact rfl) | ((with_reducible refine Bi.sdec true ?_ ?_); focus decide) | ((with_reducible refine Bi.sdec false ?_ ?_); focus decide))
  exact ⟨b_, rfl, E⟩
abbrev sortedF (a : Nat) : Value := .func (.func Fn.tree_node_sorted_1) #[] #[ptr a]
theorem b_sorted1 : hasBody PP Fn.tree_node_sorted_1 = true := by kernel_rfl
theorem sorted_ok {n : PN} (E : Hs w0 F w l) : Ca PP Fn.tree_node_sorted #[ptr n.blk] w fun r w' => ∃ a, r = sortedF a ∧ Hs w0 F w' (pt a (oc [ptr n.blk] Ty.p_tree_node) :: l) := by
  refine S.tree_node_sorted.calls ?_
  unfold S.tree_node_sorted
  (repeat first | (with_reducible first | refine Stp.go ?_ | refine StpE.go E ?_ | (refine StpW.go E ?_; clear E; intro w_ E) | (refine StpA.go E ?_; clear E; intro b_ w_ hb_ E) | refine LnL.nil ?_) | ((with_reducible refine Bi.dec true ?_ ?_); focus exact rfl) | ((with_reducible refine Bi.dec false ?_ ?_); focus exact rfl) | ((with_reducible refine Bi.sdec true ?_ ?_); focus decide) | ((with_reducible refine Bi.sdec false ?_ ?_); focus decide))
  exact ⟨b_, rfl, E⟩
/-- A directory's files in memory, in order. -/
structure KidsL (X : PT) (T : Tr) (p : Int) (L : List PN) : Prop where
  mem : ∀ k ∈ L, k ∈ X.ps
  eq : L.map PN.f = T.kidsS p
theorem kidsL (h : Tie D X T β) (hi : Inv T) (p : Int) : ∃ L, KidsL X T p L := by
  have : ∀ S : List Nd, (∀ k ∈ S, k ∈ T.ns) → ∃ L : List PN, (∀ k ∈ L, k ∈ X.ps) ∧ L.map PN.f = S := by
    intro S
    induction S with
    | nil => intro _; exact ⟨[], (fun _ h => by cases h), rfl⟩
    | cons s r ih =>
      intro hs
      obtain ⟨L, h1, h2⟩ := ih fun k hk => hs k (List.mem_cons_of_mem _ hk)
      obtain ⟨q, hq, rfl⟩ := h.mem.1 (hs s List.mem_cons_self)
      refine ⟨q :: L, fun k hk => ?_, by rw [List.map_cons, h2]⟩
      rcases List.mem_cons.1 hk with rfl | hk
      · exact hq
      · exact h1 k hk
  obtain ⟨L, h1, h2⟩ := this (T.kidsS p) fun k hk => (kidsS_mem hi hk).1
  exact ⟨L, h1, h2⟩
theorem sorted_iter (h : Tie D X T β) (hi : Inv T) {n : PN} (hn : n ∈ X.ps) (hd : n.f.dir = true) {a : Nat} {L : List PN} (hL : KidsL X T n.f.path L) :
    Iter PP w0 F (sortedF a) (fun k : PN => ptr k.blk) (InOrder L) (· = L) [pt a (oc [ptr n.blk] Ty.p_tree_node), NT X.ps] [pt a (oc [ptr n.blk] Ty.p_tree_node), NT X.ps] [pt a (oc [ptr n.blk] Ty.p_tree_node), NT X.ps] := by
  intro K S_ y w ks rest hy h0 E
  refine CaV.mk b_sorted1 ?_
  refine S.tree_node_sorted_1.calls (a0 := y) (a1 := ptr a) ?_
  unfold S.tree_node_sorted_1
  have E1 : Hs w0 F w (pt a (oc [ptr n.blk] Ty.p_tree_node) :: NT X.ps :: (ks ++ rest)) := E.perm (perm2 ks rest)
  clear E
  have E := E1
  clear E1
  (repeat with_reducible first | refine Stp.go ?_ | refine StpE.go E ?_)
  refine Ld.nt E (by simp) hn kids_val ?_
  rw [if_pos hd]
  refine (Keys_ok E).mono ?_
  clear E
  rintro r w_ ⟨b, rfl, E⟩
  -- the directory's map
  obtain ⟨rs, hp⟩ := split_perm hn
  replace E := Hs.openN (E.bIx 2) hp
  replace E := Hs.openK hd (E.bIx 1)
  (replace E := ((E.bIx 0).bIx 3))
  have hkp := kids_perm h hn
  have hlen : n.kl.length ≤ 1024 := by
    have h1 : n.kl.length = (T.kids n.f.path).length := by
      have := hkp.length_eq
      rw [List.length_map, List.length_map] at this; exact this
    have h2 : (T.kids n.f.path).length ≤ T.ns.length := List.length_filter_le _ _
    have := hi.few.1
    omega
  refine (Sorted_ok (rest := nd n.blk n.mn :: NT rs :: pt a (oc [ptr n.blk] Ty.p_tree_node) :: (ks ++ rest)) rfl b_keysS1 (keysS_iter (M := n.kl)) (fun pre x hp => by have := hp.1; omega) (fun xs hx => by have := hx.length_eq; rw [List.length_map] at this; omega) E).mono ?_
  clear E
  rintro v w_ ⟨xs, hxs, E⟩
  have hS : sortS xs = sortS ((T.kids n.f.path).map (·.name)) := sortS_perm (hxs.trans hkp)
  rw [hS] at E
  have hSn := kidsS_names hi n.f.path
  generalize hSS : sortS ((T.kids n.f.path).map (·.name)) = SS at *
  have hLlen : L.length = SS.length := by
    have := congrArg List.length hL.eq
    rw [List.length_map] at this
    have h2 := congrArg List.length hSn
    rw [List.length_map] at h2
    omega
  have hSlen : SS.length ≤ 1024 := by
    have h1 := (sortS_perm hxs).symm
    have h2 := congrArg List.length hS
    rw [sortS_len] at h2
    have := hxs.length_eq
    rw [List.length_map] at this
    omega
  replace E : Hs w0 F w_ (slA v Ty.string 1 (SS.map str) :: pt b (oc [.map (some n.kb)] Ty.map_string_p_tree_node) :: NT X.ps :: pt a (oc [ptr n.blk] Ty.p_tree_node) :: (ks ++ rest)) := by
    simp only [List.cons_append, List.nil_append] at E
    replace E := Hs.closeK hd (E.bIx 2)
    (replace E := (((E.bIx 4).bIx 1).bIx 4))
    replace E := Hs.permN (Hs.closeN n E) hp.symm
    (replace E := ((((E.bIx 3).bIx 1).bIx 3).bIx 3))
    exact E
  (repeat with_reducible first | refine Stp.go ?_ | refine StpE.go E ?_)
  rw [List.length_map]
  refine ⟨fun l1 w1 => ∃ (i : Nat) (ks : List As), l1 = [i64 i] ∧ i ≤ SS.length ∧ K (L.take i) ks ∧ Hs w0 F w1 (slA v Ty.string 1 (SS.map str) :: pt b (oc [.map (some n.kb)] Ty.map_string_p_tree_node) :: NT X.ps :: pt a (oc [ptr n.blk] Ty.p_tree_node) :: (ks ++ rest)),
    fun l1 _ => match l1 with | [.int _ i] => SS.length - i.toNat | _ => 0, ⟨0, ks, rfl, Nat.zero_le _, h0, E⟩, ?_⟩
  clear E h0 ks
  rintro t u w1 ⟨i, ks, h1, hi1, hK, E⟩
  cases h1
  refine Bi.lss ?_ ?_ <;> intro hlt <;> (repeat with_reducible first | refine Stp.go ?_ | refine StpE.go E ?_)
  · have hx : SS[i]? = some SS[i] := List.getElem?_eq_getElem (by omega)
    refine IxA.sl E (by (first | assumption | exact FPt.mem | exact FMp.mem | exact FSl.mem | (repeat (first | assumption | with_reducible exact List.mem_cons_self | refine List.mem_cons_of_mem _ ?_)))) (by omega) (by omega) (by simp; omega) ?_
    intro ad had
    refine Ld.sl E (by (first | assumption | exact FPt.mem | exact FMp.mem | exact FSl.mem | (repeat (first | assumption | with_reducible exact List.mem_cons_self | refine List.mem_cons_of_mem _ ?_)))) had (x := str SS[i]) (by simp [hx]) ?_
    (repeat with_reducible first | refine Stp.go ?_ | refine StpE.go E ?_)
    refine Ld.nt E (by simp) hn kids_val ?_
    rw [if_pos hd]
    obtain ⟨l', hml, El⟩ := mapAtN (w0 := w0) (F := F) hn hd (by simp) E
    refine Lk.one El hml u_mkids k_str z_p_node rfl ?_
    rw [aget_enc keyS]
    obtain ⟨kf, k1, k2⟩ := kidsS_get hi (p := n.f.path) (i := i) (s := SS[i]) (by rw [hSS]; exact hx)
    have hLi : (L.map PN.f)[i]? = some kf := by rw [hL.eq]; exact k1
    rw [List.getElem?_map] at hLi
    obtain ⟨k, hk, hkf⟩ : ∃ k, L[i]? = some k ∧ k.f = kf := by
      cases hq : L[i]? with
      | none => rw [hq] at hLi; cases hLi
      | some k => rw [hq] at hLi; exact ⟨k, rfl, by simpa using hLi⟩
    have hkX := hL.mem k (List.mem_of_getElem? hk)
    have hget : getL n.kl SS[i] = some k.blk := by
      rcases h.kid hi hn SS[i] with ⟨c1, _⟩ | ⟨k', hk', c1, c2⟩
      · rw [k2] at c1; cases c1
      · rw [k2] at c1
        have : k'.f = k.f := by rw [hkf]; exact (Option.some.inj c1).symm
        have : k' = k := h.inj hi hk' hkX (by rw [this])
        rw [c2, this]
    rw [hget]
    simp only [Option.map_some, Option.getD_some]
    have htl : (L.take i).length = i := by rw [List.length_take]; omega
    refine (hy (L.take i) k w1 ks (slA v Ty.string 1 (SS.map str) :: pt b (oc [.map (some n.kb)] Ty.map_string_p_tree_node) :: rest) ⟨by rw [htl], by rw [htl]; exact hk⟩ hK (E.perm (by
      have h1 := perm4 (A := pt a (oc [ptr n.blk] Ty.p_tree_node)) (B := NT X.ps) (C := slA v Ty.string 1 (SS.map str)) (D := pt b (oc [.map (some n.kb)] Ty.map_string_p_tree_node)) ks rest
      exact h1))).mono ?_
    have htk : L.take i ++ [k] = L.take (i + 1) := by rw [List.take_add_one, hk]; rfl
    rw [htk]
    clear E El
    rintro r w_ (⟨rfl, ks', hk', E'⟩ | ⟨rfl, ks', hs', E'⟩)
    · have E := E'.perm (perm4 (A := pt a (oc [ptr n.blk] Ty.p_tree_node)) (B := NT X.ps) (C := slA v Ty.string 1 (SS.map str)) (D := pt b (oc [.map (some n.kb)] Ty.map_string_p_tree_node)) ks' rest).symm
      clear E'
      (repeat with_reducible first | refine Stp.go ?_ | refine StpE.go E ?_)
      refine Bi.add (by omega) ?_
      exact ⟨⟨i + 1, ks', by simp, by omega, hk', E⟩, by simp only []; omega⟩
    · have E := E'.perm (perm4 (A := pt a (oc [ptr n.blk] Ty.p_tree_node)) (B := NT X.ps) (C := slA v Ty.string 1 (SS.map str)) (D := pt b (oc [.map (some n.kb)] Ty.map_string_p_tree_node)) ks' rest).symm
      clear E'
      (repeat with_reducible first | refine Stp.go ?_ | refine StpE.go E ?_)
      refine .inr ⟨_, ks', hs', ?_⟩
      replace E := E.tl.tl
      (replace E := ((E.bIx 0).bIx 1))
      exact E.perm (perm2 ks' rest).symm
  · have : L.take i = L := List.take_of_length_le (by omega)
    rw [this] at hK
    refine .inl ⟨L, ks, rfl, hK, ?_⟩
    replace E := E.tl.tl
    (replace E := ((E.bIx 0).bIx 1))
    exact E.perm (perm2 ks rest).symm
end Go.Proofs.YtnnhmahemklnkaaGreatDoor

/-
  Trees: what is told of the files of a directory.
-/
namespace Go.Proofs.YtnnhmahemklnkaaGreatDoor
open Go Go.Sh
set_option maxRecDepth 100000
set_option linter.unusedVariables false
set_option linter.unusedSimpArgs false
variable {w0 w : World} {F : Nat → Prop} {l : List As}
variable {D : List Row} {X : PT} {T : Tr} {β : Int → Nat}

theorem stat_nt (h : Tie D X T β) {k : PN} (hk : k ∈ X.ps) (hp : Pool D ∈ l) (E : Hs w0 F w (NT X.ps :: l)) :
    Ca PP Fn.tree_node_stat #[ptr k.blk] w fun r w' => r = k.f.stat.V ∧ Hs w0 F w' (NT X.ps :: l) := by
  obtain ⟨rs, hps⟩ := split_perm hk
  replace E := Hs.openN E hps
  have hrd := (h.data k hk).read E.tl (by simp [hp])
  have hsz : (bts k.f.data).length = k.f.data.size := by simp [bts]
  rw [hsz] at hrd
  refine (stat_ok E hrd).mono ?_
  clear E
  rintro r w_ ⟨rfl, E⟩
  exact ⟨rfl, Hs.permN (Hs.closeN k E) hps.symm⟩
theorem u_sl_Dir : PP.underlying Ty.sl_api_Dir = some (.slice Ty.api_Dir) := by kernel_rfl
theorem n_Dir : sizeK PP Ty.api_Dir = some 10 := by kernel_rfl
theorem z_Dir : zeroK PP Ty.api_Dir = some d0.V := by kernel_rfl
theorem e_Dir : el3 PP Ty.api_Dir = some (some d0.V, 10, 112) := by kernel_rfl
theorem dr_scal (d : Dr) : d.cs.all scalV = true := rfl
theorem dcs_app (ds : List Dr) (d : Dr) : dcs (ds ++ [d]) = dcs ds ++ d.cs := by simp [dcs]
theorem BdS.dir {d : Dr} {k : Value → World → Prop} (E : Hs w0 F w l) (hk : ∀ v w', Hs w0 F w' (slA v Ty.api_Dir 10 d.cs :: l) → k v w') : Ef PP (Instr.buildSlice Ty.sl_api_Dir 1 #[(0, d.V)]) w k :=
  BdS.sl E u_sl_Dir n_Dir z_Dir (by omega) (by omega) (xs := d.cs) (by kernel_rfl) rfl hk
/-- What a directory's list tells. -/
def Tr.list (T : Tr) (hd : Int) : List Dr × Int := match T.opened hd with
  | none => ([], 19)
  | some x => match T.get x.file with
    | none => ([], 4)
    | some n => if n.dir = false then ([], 18) else ((T.kidsS n.path).map Nd.stat, 0)
theorem kidsS_len (hi : Inv T) (p : Int) : (T.kidsS p).length ≤ 1024 := by
  have h1 := congrArg List.length (kidsS_names hi p)
  rw [List.length_map, sortS_len, List.length_map] at h1
  have h2 : (T.kids p).length ≤ T.ns.length := List.length_filter_le _ _
  have := hi.few.1
  omega
theorem List_ok (h : Tie D X T β) (hi : Inv T) {hd : Int} (E : Hs w0 F w (trA X :: Pool D :: l)) :
    Ca PP Fn.tree_Tree_List #[ptr X.t, i64 hd] w fun r w' => ∃ v, r = .tuple #[v, i64 (T.list hd).2] ∧ Hs w0 F w' (slA v Ty.api_Dir 10 (dcs (T.list hd).1) :: trA X :: Pool D :: l) := by
  refine S.tree_Tree_List.calls ?_
  unfold S.tree_Tree_List
  replace E := Hs.openT E
  refine (opened_ok E).mono ?_
  clear E
  rintro r w_ ⟨rfl, E⟩
  rw [h.opened hi]
  cases hx : T.opened hd with
  | none =>
    simp only [Option.map_none, openedV]
    (repeat first | (with_reducible first | refine Stp.go ?_ | refine StpE.go E ?_ | (refine StpW.go E ?_; clear E; intro w_ E) | (refine StpA.go E ?_; clear E; intro b_ w_ hb_ E) | refine LnL.nil ?_) | ((with_reducible refine Bi.dec true ?_ ?_); focus exact rfl) | ((with_reducible refine Bi.dec false ?_ ?_); focus exact rfl) | ((with_reducible refine Bi.sdec true ?_ ?_); focus decide) | ((with_reducible refine Bi.sdec false ?_ ?_); focus decide))
    have e : T.list hd = ([], 19) := by unfold Tr.list; rw [hx]
    rw [e]
    exact ⟨_, rfl, Hs.nilSl (Hs.closeT X E.tl) _ _⟩
  | some x =>
    simp only [Option.map_some, openedV]
    (repeat first | (with_reducible first | refine Stp.go ?_ | refine StpE.go E ?_ | (refine StpW.go E ?_; clear E; intro w_ E) | (refine StpA.go E ?_; clear E; intro b_ w_ hb_ E) | refine LnL.nil ?_) | ((with_reducible refine Bi.dec true ?_ ?_); focus exact rfl) | ((with_reducible refine Bi.dec false ?_ ?_); focus exact rfl) | ((with_reducible refine Bi.sdec true ?_ ?_); focus decide) | ((with_reducible refine Bi.sdec false ?_ ?_); focus decide))
    (revert b_; intro q hbq E)
    have hm := hi.openedM hx
    cases hg : T.get x.file with
    | none =>
      obtain ⟨m, hmd, hgone⟩ := h.dead _ hm (get_none.1 hg)
      have hdt : w_.heap[β x.file]? = some (oc m.C Ty.tree_node) := (E.sat (DT X.ds) (by simp)).1 (nd (β x.file) m) (List.mem_map.2 ⟨(β x.file, m), hmd, rfl⟩)
      refine Ld.ob hdt (v := .bool m.gone) (by simp) ?_
      rw [hgone]
      (repeat with_reducible first | refine Stp.go ?_ | refine StpE.go E ?_)
      have e : T.list hd = ([], 4) := by unfold Tr.list; simp only [hx, hg]
      rw [e]
      exact ⟨_, rfl, Hs.nilSl (Hs.closeT X E.tl) _ _⟩
    | some nf =>
      obtain ⟨hn1, hn2⟩ := hi.get.1 hg
      obtain ⟨n, hn, rfl⟩ := h.mem.1 hn1
      have hb := h.bl n hn
      rw [hn2] at hb
      rw [hb]
      refine Ld.nt E (ps := X.ps) (by simp) hn (v := .bool false) rfl ?_
      rw [hb] at E
      (repeat with_reducible first | refine Stp.go ?_ | refine StpE.go E ?_)
      refine (isDirN hn (by simp) E).mono ?_
      clear E
      rintro r w_ ⟨rfl, E⟩
      cases hdir : n.f.dir with
      | false =>
        (repeat with_reducible first | refine Stp.go ?_ | refine StpE.go E ?_)
        have e : T.list hd = ([], 18) := by unfold Tr.list; simp only [hx, hg, if_pos hdir]
        rw [e]
        exact ⟨_, rfl, Hs.nilSl (Hs.closeT X E.tl) _ _⟩
      | true =>
        have e : T.list hd = ((T.kidsS n.f.path).map Nd.stat, 0) := by unfold Tr.list; simp only [hx, hg, if_neg (show ¬ n.f.dir = false by rw [hdir]; simp)]
        rw [e]
        (repeat first | (with_reducible first | refine Stp.go ?_ | refine StpE.go E ?_ | (refine StpW.go E ?_; clear E; intro w_ E) | (refine StpA.go E ?_; clear E; intro b_ w_ hb_ E) | refine LnL.nil ?_) | ((with_reducible refine Bi.dec true ?_ ?_); focus exact rfl) | ((with_reducible refine Bi.dec false ?_ ?_); focus exact rfl) | ((with_reducible refine Bi.sdec true ?_ ?_); focus decide) | ((with_reducible refine Bi.sdec false ?_ ?_); focus decide))
        (revert b_; intro t8 hbt8 E)
        refine (sorted_ok E).mono ?_
        clear E
        rintro r w_ ⟨a, rfl, E⟩
        obtain ⟨L, hL⟩ := kidsL h hi n.f.path
        have hLl : L.length ≤ 1024 := by
          have h1 := congrArg List.length hL.eq
          rw [List.length_map] at h1
          have := kidsS_len hi n.f.path
          omega
        replace E := E.nilSl Ty.api_Dir 10
        -- slA, pt a, pt t8, pt q, tb, fm, gm, om, NT, DT, Pool, l
        (replace E := (((((E.bIx 8).bIx 2).bIx 10).bIx 4).bIx 4))
        refine RFo.hs (rest := pt q (oc [ptr n.blk, i64 x.mode, str x.user] Ty.tree_handle) :: tb X :: mp X.fm (.int .i64) X.fM :: mp X.gm .str X.gM :: mp X.om (.int .i64) X.oM :: DT X.ds :: l) rfl b_sorted1 (sorted_iter h hi hn hdir hL) (fun pre ks => ∃ v, ks = [slA v Ty.api_Dir 10 (dcs (pre.map fun k => k.f.stat)), pt t8 (oc [v] Ty.sl_api_Dir), Pool D]) (fun _ _ _ => False) (fun _ _ => False)
          (ks := [slA (.slice none 0 0) Ty.api_Dir 10 [], pt t8 (oc [.slice none 0 0] Ty.sl_api_Dir), Pool D]) E ⟨_, rfl⟩ ?_ ?_ (fun _ _ _ _ _ _ h _ => h.elim) (fun _ _ _ _ _ h _ => h.elim)
        · clear E
          rintro r L0 D0 pre k w_ _ rest' Rn Re Rr hL0 hD0 hp ⟨v, rfl⟩ E hn2 - -
          simp only [List.cons_append, List.nil_append] at E
          have hkL := List.mem_of_getElem? hp.2
          have hpl : pre.length < L.length := (List.getElem?_eq_some_iff.1 hp.2).1
          (repeat first | (with_reducible first | refine Stp.go ?_ | refine StpE.go E ?_ | (refine StpW.go E ?_; clear E; intro w_ E) | (refine StpA.go E ?_; clear E; intro b_ w_ hb_ E) | refine LnL.nil ?_) | ((with_reducible refine Bi.dec true ?_ ?_); focus exact rfl) | ((with_reducible refine Bi.dec false ?_ ?_); focus exact rfl) | ((with_reducible refine Bi.sdec true ?_ ?_); focus decide) | ((with_reducible refine Bi.sdec false ?_ ?_); focus decide))
          replace E := E.bIx 6
          refine (stat_nt h (hL.mem k hkL) (by simp) E).mono ?_
          clear E
          rintro r w_ ⟨rfl, E⟩
          (repeat with_reducible first | refine Stp.go ?_ | refine StpE.go E ?_)
          refine ⟨by (repeat with_reducible first | refine Stp.go ?_ | refine StpE.go E ?_); rfl, ?_⟩
          refine BdS.dir E ?_
          clear E
          intro v2 w_ E
          (repeat first | (with_reducible first | refine Stp.go ?_ | refine StpE.go E ?_ | (refine StpW.go E ?_; clear E; intro w_ E) | (refine StpA.go E ?_; clear E; intro b_ w_ hb_ E) | refine LnL.nil ?_) | ((with_reducible refine Bi.dec true ?_ ?_); focus exact rfl) | ((with_reducible refine Bi.dec false ?_ ?_); focus exact rfl) | ((with_reducible refine Bi.sdec true ?_ ?_); focus decide) | ((with_reducible refine Bi.sdec false ?_ ?_); focus decide))
          refine ⟨by (repeat first | (with_reducible first | refine Stp.go ?_ | refine StpE.go E ?_ | (refine StpW.go E ?_; clear E; intro w_ E) | (refine StpA.go E ?_; clear E; intro b_ w_ hb_ E) | refine LnL.nil ?_) | ((with_reducible refine Bi.dec true ?_ ?_); focus exact rfl) | ((with_reducible refine Bi.dec false ?_ ?_); focus exact rfl) | ((with_reducible refine Bi.sdec true ?_ ?_); focus decide) | ((with_reducible refine Bi.sdec false ?_ ?_); focus decide)); rfl, ?_⟩
          have hsl := Src.slice (P := PP) (E.sat (slA v2 Ty.api_Dir 10 k.f.stat.cs) (by simp)) (n := 1) rfl (by omega) (dr_scal _)
          have hdl := dcs_len (pre.map fun k => k.f.stat)
          rw [List.length_map] at hdl
          refine Ap.el E (i := 4) rfl u_sl_Dir ⟨_, u_sl_Dir, fun _ h => by cases h⟩ e_Dir (by omega) hsl rfl (by rw [hdl]; omega) (by rw [hdl]; omega) ?_
          clear E
          intro s' w_ E
          (try simp only [List.set_cons_zero, List.set_cons_succ, List.cons_append, List.nil_append, Nat.zero_add, Nat.add_zero] at E)
          (repeat first | (with_reducible first | refine Stp.go ?_ | refine StpE.go E ?_ | (refine StpW.go E ?_; clear E; intro w_ E) | (refine StpA.go E ?_; clear E; intro b_ w_ hb_ E) | refine LnL.nil ?_) | ((with_reducible refine Bi.dec true ?_ ?_); focus exact rfl) | ((with_reducible refine Bi.dec false ?_ ?_); focus exact rfl) | ((with_reducible refine Bi.sdec true ?_ ?_); focus decide) | ((with_reducible refine Bi.sdec false ?_ ?_); focus decide))
          refine hn2 _ _ ⟨s', rfl⟩ ?_
          simp only [List.cons_append, List.nil_append]
          replace E := E.tl
          (replace E := (((((((E.bIx 0).bIx 6).bIx 6).bIx 6).bIx 6).bIx 6).bIx 6))
          rw [List.map_append, List.map_singleton, dcs_app]
          exact E
        · clear E
          rintro D0 w_ xs _ hD0 hxs ⟨v, rfl⟩ E
          rw [hxs] at E
          simp only [List.cons_append, List.nil_append] at E
          (repeat first | (with_reducible first | refine Stp.go ?_ | refine StpE.go E ?_ | (refine StpW.go E ?_; clear E; intro w_ E) | (refine StpA.go E ?_; clear E; intro b_ w_ hb_ E) | refine LnL.nil ?_) | ((with_reducible refine Bi.dec true ?_ ?_); focus exact rfl) | ((with_reducible refine Bi.dec false ?_ ?_); focus exact rfl) | ((with_reducible refine Bi.sdec true ?_ ?_); focus decide) | ((with_reducible refine Bi.sdec false ?_ ?_); focus decide))
          have e1 : L.map (fun k => k.f.stat) = (T.kidsS n.f.path).map Nd.stat := by rw [← hL.eq, List.map_map]; rfl
          rw [e1] at E
          refine ⟨_, rfl, ?_⟩
          -- slA, pt t8, Pool, pt a, NT, pt q, tb, fm, gm, om, DT, l
          (replace E := ((((((((E.bIx 2).bIx 1).bIx 10).bIx 5).bIx 10).bIx 10).bIx 10).bIx 10))
          replace E := Hs.closeT X E
          (replace E := (((E.bIx 2).bIx 1).bIx 2))
          exact E.drop (List.Sublist.cons_cons _ (List.Sublist.cons_cons _ (List.Sublist.cons_cons _ (List.sublist_append_right [_, _, _] l))))
end Go.Proofs.YtnnhmahemklnkaaGreatDoor

/-
  Laws: the operations of a tree, as the laws do them (printed by gendo.py).
-/
namespace Go.Proofs.YtnnhmahemklnkaaGreatDoor
open Go Go.Sh
set_option maxRecDepth 100000
set_option linter.unusedVariables false
set_option linter.unusedSimpArgs false
variable {w0 w : World} {F : Nat → Prop} {l : List As}
variable {D : List Row} {X : PT} {T : Tr} {β : Int → Nat}

/-- What an operation does to a tree, and what it answers. -/
def Tr.act (T : Tr) (x : Ac) : Tr × An :=
  if x.kind = 0 then (T, { qid := (T.walk x.user x.file x.name).1, errno := (T.walk x.user x.file x.name).2 }) else
  if x.kind = 1 then (T, { dir := (T.stat x.file).1, errno := (T.stat x.file).2 }) else
  if x.kind = 2 then ((T.wstat x.user x.file x.dir).1, { errno := (T.wstat x.user x.file x.dir).2 }) else
  if x.kind = 3 then ((T.openF x.user x.file x.mode).1, { handle := (T.openF x.user x.file x.mode).2.1, qid := (T.openF x.user x.file x.mode).2.2.1, errno := (T.openF x.user x.file x.mode).2.2.2 }) else
  if x.kind = 4 then ((T.create x.user x.file x.name x.perm x.mode).1, { handle := (T.create x.user x.file x.name x.perm x.mode).2.1, qid := (T.create x.user x.file x.name x.perm x.mode).2.2.1, errno := (T.create x.user x.file x.name x.perm x.mode).2.2.2 }) else
  if x.kind = 5 then (T, { text := (T.read x.handle x.offset x.count).1, errno := (T.read x.handle x.offset x.count).2 }) else
  if x.kind = 6 then (T, { dirs := (T.list x.handle).1, errno := (T.list x.handle).2 }) else
  if x.kind = 7 then ((T.write x.handle x.offset x.data).1, { handle := (T.write x.handle x.offset x.data).2.1, errno := (T.write x.handle x.offset x.data).2.2 }) else
  if x.kind = 8 then ((T.close x.handle).1, { errno := (T.close x.handle).2 }) else
  if x.kind = 9 then ((T.remove x.user x.file).1, { errno := (T.remove x.user x.file).2 }) else
  if x.kind = 10 then (T, { qid := (T.find x.name).1, errno := (T.find x.name).2 }) else
  if x.kind = 11 then (T, { text := (T.pathOf x.file).1, errno := (T.pathOf x.file).2 }) else
  (T, {})
theorem act_inv (hi : Inv T) (x : Ac) : Inv (T.act x).1 := by
  unfold Tr.act
  by_cases c0 : x.kind = 0
  · rw [if_pos c0]; exact hi
  rw [if_neg c0]
  by_cases c1 : x.kind = 1
  · rw [if_pos c1]; exact hi
  rw [if_neg c1]
  by_cases c2 : x.kind = 2
  · rw [if_pos c2]; exact wstat_inv hi _ _ _
  rw [if_neg c2]
  by_cases c3 : x.kind = 3
  · rw [if_pos c3]; exact open_inv hi _ _ _
  rw [if_neg c3]
  by_cases c4 : x.kind = 4
  · rw [if_pos c4]; exact create_inv hi _ _ _ _ _
  rw [if_neg c4]
  by_cases c5 : x.kind = 5
  · rw [if_pos c5]; exact hi
  rw [if_neg c5]
  by_cases c6 : x.kind = 6
  · rw [if_pos c6]; exact hi
  rw [if_neg c6]
  by_cases c7 : x.kind = 7
  · rw [if_pos c7]; exact write_inv hi _ _ _
  rw [if_neg c7]
  by_cases c8 : x.kind = 8
  · rw [if_pos c8]; exact close_inv hi _
  rw [if_neg c8]
  by_cases c9 : x.kind = 9
  · rw [if_pos c9]; exact remove_inv hi _ _
  rw [if_neg c9]
  by_cases c10 : x.kind = 10
  · rw [if_pos c10]; exact hi
  rw [if_neg c10]
  by_cases c11 : x.kind = 11
  · rw [if_pos c11]; exact hi
  rw [if_neg c11]
  exact hi
theorem act_lim {N : Int} (h0 : 0 ≤ N) (hl : Lim N T) (x : Ac) : Lim (N + 3) (T.act x).1 := by
  have h3 := hl.mono (M := N + 3) (by omega)
  unfold Tr.act
  by_cases c0 : x.kind = 0
  · rw [if_pos c0]; exact h3
  rw [if_neg c0]
  by_cases c1 : x.kind = 1
  · rw [if_pos c1]; exact h3
  rw [if_neg c1]
  by_cases c2 : x.kind = 2
  · rw [if_pos c2]; exact wstat_lim hl _ _ _
  rw [if_neg c2]
  by_cases c3 : x.kind = 3
  · rw [if_pos c3]; exact open_lim hl _ _ _
  rw [if_neg c3]
  by_cases c4 : x.kind = 4
  · rw [if_pos c4]; exact create_lim hl h0 _ _ _ _ _
  rw [if_neg c4]
  by_cases c5 : x.kind = 5
  · rw [if_pos c5]; exact h3
  rw [if_neg c5]
  by_cases c6 : x.kind = 6
  · rw [if_pos c6]; exact h3
  rw [if_neg c6]
  by_cases c7 : x.kind = 7
  · rw [if_pos c7]; exact write_lim hl _ _ _
  rw [if_neg c7]
  by_cases c8 : x.kind = 8
  · rw [if_pos c8]; exact close_lim hl _
  rw [if_neg c8]
  by_cases c9 : x.kind = 9
  · rw [if_pos c9]; exact remove_lim hl _ _
  rw [if_neg c9]
  by_cases c10 : x.kind = 10
  · rw [if_pos c10]; exact h3
  rw [if_neg c10]
  by_cases c11 : x.kind = 11
  · rw [if_pos c11]; exact h3
  rw [if_neg c11]
  exact h3
abbrev aEV : An := {}
theorem Do_ok (h : Tie D X T β) (hi : Inv T) {N : Int} (hN : N < 4611686018427387904) (hlim : Lim N T) {x : Ac} (hx : x.Ok) (E : Hs w0 F w (trA X :: Pool D :: l)) :
    Ca PP Fn.law28_Do #[ptr X.t, x.V] w fun r w' => ∃ dv, r = (T.act x).2.V dv ∧ Goes w0 F (slA dv Ty.api_Dir 10 (dcs (T.act x).2.dirs) :: l) D X (T.act x).1 w' := by
  refine S.law28_Do.calls ?_
  unfold S.law28_Do
  refine StpA.go E ?_
  clear E
  intro q w_ h1 E
  refine StpA.go E ?_
  clear E
  intro b w_ h2 E
  (repeat first | (with_reducible first | refine Stp.go ?_ | refine StpE.go E ?_ | (refine StpW.go E ?_; clear E; intro w_ E) | (refine StpA.go E ?_; clear E; intro b_ w_ hb_ E) | (apply hJ9; intro u_) | refine LnL.nil ?_) | ((with_reducible refine Bi.dec true ?_ ?_); focus exact rfl) | ((with_reducible refine Bi.dec false ?_ ?_); focus exact rfl) | ((with_reducible refine Bi.sdec true ?_ ?_); focus decide) | ((with_reducible refine Bi.sdec false ?_ ?_); focus decide))
  (revert b_; intro c hbc E)
  (first | (refine StA.all E rfl rfl (by first | exact rfl | assumption) ?_; clear E; intro w_ E) | try (refine StA.by E rfl (by first | exact rfl | assumption) ?_; clear E; intro w_ E))
  (intro J9 hJ9)
  have fin : ∀ a dv w_ D' X' β', a = (T.act x).2 → (∀ x ∈ D, x ∈ D') → X'.t = X.t → Tie D' X' (T.act x).1 β' → Hs w0 F w_ (slA dv Ty.api_Dir 10 (dcs a.dirs) :: trA X' :: Pool D' :: pt c (oc (a.C dv) Ty.law28_Answer) :: pt b (oc (aEV.C (.slice none 0 0)) Ty.law28_Answer) :: pt q (oc x.C Ty.law28_Act) :: l) → J9 [] w_ := by
    intro a dv w_ D' X' β' ha hD ht hT E
    (repeat first | (with_reducible first | refine Stp.go ?_ | refine StpE.go E ?_ | (refine StpW.go E ?_; clear E; intro w_ E) | (refine StpA.go E ?_; clear E; intro b_ w_ hb_ E) | (apply hJ9; intro u_) | refine LnL.nil ?_) | ((with_reducible refine Bi.dec true ?_ ?_); focus exact rfl) | ((with_reducible refine Bi.dec false ?_ ?_); focus exact rfl) | ((with_reducible refine Bi.sdec true ?_ ?_); focus decide) | ((with_reducible refine Bi.sdec false ?_ ?_); focus decide))
    (replace E := (((E.bIx 5).bIx 5).bIx 5))
    have hsv : scalV dv = true := Hs.slScal E (T := Ty.api_Dir) (sz := 10) (xs := dcs a.dirs) (by simp)
    have hsv2 : (a.C dv).all scalV = true := by
      show (true && (true && (true && (true && (true && (true && (true && (true && (true && (true && (true && (true && (true && (true && (true && (scalV dv && (true && true))))))))))))))))) = true
      rw [hsv]; rfl
    refine StA.all (vs := a.C dv) E rfl rfl hsv2 ?_
    clear E
    intro w_ E
    (repeat first | (with_reducible first | refine Stp.go ?_ | refine StpE.go E ?_ | (refine StpW.go E ?_; clear E; intro w_ E) | (refine StpA.go E ?_; clear E; intro b_ w_ hb_ E) | (apply hJ9; intro u_) | refine LnL.nil ?_) | ((with_reducible refine Bi.dec true ?_ ?_); focus exact rfl) | ((with_reducible refine Bi.dec false ?_ ?_); focus exact rfl) | ((with_reducible refine Bi.sdec true ?_ ?_); focus decide) | ((with_reducible refine Bi.sdec false ?_ ?_); focus decide))
    rw [← ha]
    refine ⟨_, rfl, D', X', β', hD, ht, hT, ?_⟩
    (replace E := ((((E.bSl dv).bPt q).bPt c).bPt b))
    replace E := E.drop (List.sublist_append_right [_, _, _] (_ :: _ :: _ :: l))
    (replace E := (((E.bIx 0).bIx 2).bIx 2))
    exact E
  clear hJ9
  (repeat first | (with_reducible first | refine Stp.go ?_ | refine StpE.go E ?_ | (refine StpW.go E ?_; clear E; intro w_ E) | (refine StpA.go E ?_; clear E; intro b_ w_ hb_ E) | (apply hJ9; intro u_) | refine LnL.nil ?_) | ((with_reducible refine Bi.dec true ?_ ?_); focus exact rfl) | ((with_reducible refine Bi.dec false ?_ ?_); focus exact rfl) | ((with_reducible refine Bi.sdec true ?_ ?_); focus decide) | ((with_reducible refine Bi.sdec false ?_ ?_); focus decide))
  (replace E := ((E.bIx 4).bIx 4))
  refine Bi.eql ?_ ?_ <;> intro c0 <;> (repeat first | (with_reducible first | refine Stp.go ?_ | refine StpE.go E ?_ | (refine StpW.go E ?_; clear E; intro w_ E) | (refine StpA.go E ?_; clear E; intro b_ w_ hb_ E) | (apply hJ9; intro u_) | refine LnL.nil ?_) | ((with_reducible refine Bi.dec true ?_ ?_); focus exact rfl) | ((with_reducible refine Bi.dec false ?_ ?_); focus exact rfl) | ((with_reducible refine Bi.sdec true ?_ ?_); focus decide) | ((with_reducible refine Bi.sdec false ?_ ?_); focus decide))
  · have e : T.act x = (T, { qid := (T.walk x.user x.file x.name).1, errno := (T.walk x.user x.file x.name).2 }) := by unfold Tr.act; rw [ if_pos c0]
    rw [e] at fin
    refine (Walk_ok (user := x.user) (file := x.file) (name := x.name) h hi hx.name (by simp) E).mono ?_
    clear E
    rintro r w_ ⟨rfl, E⟩
    (repeat first | (with_reducible first | refine Stp.go ?_ | refine StpE.go E ?_ | (refine StpW.go E ?_; clear E; intro w_ E) | (refine StpA.go E ?_; clear E; intro b_ w_ hb_ E) | (apply hJ9; intro u_) | refine LnL.nil ?_) | ((with_reducible refine Bi.dec true ?_ ?_); focus exact rfl) | ((with_reducible refine Bi.dec false ?_ ?_); focus exact rfl) | ((with_reducible refine Bi.sdec true ?_ ?_); focus decide) | ((with_reducible refine Bi.sdec false ?_ ?_); focus decide))
    exact fin _ _ _ D X β rfl (fun _ h => h) rfl h (E.nilSl Ty.api_Dir 10)
  refine Bi.eql ?_ ?_ <;> intro c1 <;> (repeat first | (with_reducible first | refine Stp.go ?_ | refine StpE.go E ?_ | (refine StpW.go E ?_; clear E; intro w_ E) | (refine StpA.go E ?_; clear E; intro b_ w_ hb_ E) | (apply hJ9; intro u_) | refine LnL.nil ?_) | ((with_reducible refine Bi.dec true ?_ ?_); focus exact rfl) | ((with_reducible refine Bi.dec false ?_ ?_); focus exact rfl) | ((with_reducible refine Bi.sdec true ?_ ?_); focus decide) | ((with_reducible refine Bi.sdec false ?_ ?_); focus decide))
  · have e : T.act x = (T, { dir := (T.stat x.file).1, errno := (T.stat x.file).2 }) := by unfold Tr.act; rw [if_neg c0, if_pos c1]
    rw [e] at fin
    refine (Stat_ok (user := x.user) (file := x.file) h hi (by simp) E).mono ?_
    clear E
    rintro r w_ ⟨rfl, E⟩
    (repeat first | (with_reducible first | refine Stp.go ?_ | refine StpE.go E ?_ | (refine StpW.go E ?_; clear E; intro w_ E) | (refine StpA.go E ?_; clear E; intro b_ w_ hb_ E) | (apply hJ9; intro u_) | refine LnL.nil ?_) | ((with_reducible refine Bi.dec true ?_ ?_); focus exact rfl) | ((with_reducible refine Bi.dec false ?_ ?_); focus exact rfl) | ((with_reducible refine Bi.sdec true ?_ ?_); focus decide) | ((with_reducible refine Bi.sdec false ?_ ?_); focus decide))
    refine St.ten E rfl ?_
    clear E
    intro w_ E
    (repeat first | (with_reducible first | refine Stp.go ?_ | refine StpE.go E ?_ | (refine StpW.go E ?_; clear E; intro w_ E) | (refine StpA.go E ?_; clear E; intro b_ w_ hb_ E) | (apply hJ9; intro u_) | refine LnL.nil ?_) | ((with_reducible refine Bi.dec true ?_ ?_); focus exact rfl) | ((with_reducible refine Bi.dec false ?_ ?_); focus exact rfl) | ((with_reducible refine Bi.sdec true ?_ ?_); focus decide) | ((with_reducible refine Bi.sdec false ?_ ?_); focus decide))
    exact fin _ _ _ D X β rfl (fun _ h => h) rfl h (E.nilSl Ty.api_Dir 10)
  refine Bi.eql ?_ ?_ <;> intro c2 <;> (repeat first | (with_reducible first | refine Stp.go ?_ | refine StpE.go E ?_ | (refine StpW.go E ?_; clear E; intro w_ E) | (refine StpA.go E ?_; clear E; intro b_ w_ hb_ E) | (apply hJ9; intro u_) | refine LnL.nil ?_) | ((with_reducible refine Bi.dec true ?_ ?_); focus exact rfl) | ((with_reducible refine Bi.dec false ?_ ?_); focus exact rfl) | ((with_reducible refine Bi.sdec true ?_ ?_); focus decide) | ((with_reducible refine Bi.sdec false ?_ ?_); focus decide))
  · have e : T.act x = ((T.wstat x.user x.file x.dir).1, { errno := (T.wstat x.user x.file x.dir).2 }) := by unfold Tr.act; rw [if_neg c0, if_neg c1, if_pos c2]
    rw [e] at fin
    refine (Wstat_ok (user := x.user) (file := x.file) (d := x.dir) h hi hN hlim hx.dname hx.dgroup E).mono ?_
    clear E
    rintro r w_ ⟨rfl, D', X', β', hD, ht, hT, E⟩
    (repeat first | (with_reducible first | refine Stp.go ?_ | refine StpE.go E ?_ | (refine StpW.go E ?_; clear E; intro w_ E) | (refine StpA.go E ?_; clear E; intro b_ w_ hb_ E) | (apply hJ9; intro u_) | refine LnL.nil ?_) | ((with_reducible refine Bi.dec true ?_ ?_); focus exact rfl) | ((with_reducible refine Bi.dec false ?_ ?_); focus exact rfl) | ((with_reducible refine Bi.sdec true ?_ ?_); focus decide) | ((with_reducible refine Bi.sdec false ?_ ?_); focus decide))
    exact fin _ _ _ D' X' β' rfl hD ht hT (E.nilSl Ty.api_Dir 10)
  refine Bi.eql ?_ ?_ <;> intro c3 <;> (repeat first | (with_reducible first | refine Stp.go ?_ | refine StpE.go E ?_ | (refine StpW.go E ?_; clear E; intro w_ E) | (refine StpA.go E ?_; clear E; intro b_ w_ hb_ E) | (apply hJ9; intro u_) | refine LnL.nil ?_) | ((with_reducible refine Bi.dec true ?_ ?_); focus exact rfl) | ((with_reducible refine Bi.dec false ?_ ?_); focus exact rfl) | ((with_reducible refine Bi.sdec true ?_ ?_); focus decide) | ((with_reducible refine Bi.sdec false ?_ ?_); focus decide))
  · have e : T.act x = ((T.openF x.user x.file x.mode).1, { handle := (T.openF x.user x.file x.mode).2.1, qid := (T.openF x.user x.file x.mode).2.2.1, errno := (T.openF x.user x.file x.mode).2.2.2 }) := by unfold Tr.act; rw [if_neg c0, if_neg c1, if_neg c2, if_pos c3]
    rw [e] at fin
    refine (Open_ok (user := x.user) (file := x.file) (mode := x.mode) h hi hN hlim E).mono ?_
    clear E
    rintro r w_ ⟨rfl, D', X', β', hD, ht, hT, E⟩
    (repeat first | (with_reducible first | refine Stp.go ?_ | refine StpE.go E ?_ | (refine StpW.go E ?_; clear E; intro w_ E) | (refine StpA.go E ?_; clear E; intro b_ w_ hb_ E) | (apply hJ9; intro u_) | refine LnL.nil ?_) | ((with_reducible refine Bi.dec true ?_ ?_); focus exact rfl) | ((with_reducible refine Bi.dec false ?_ ?_); focus exact rfl) | ((with_reducible refine Bi.sdec true ?_ ?_); focus decide) | ((with_reducible refine Bi.sdec false ?_ ?_); focus decide))
    exact fin _ _ _ D' X' β' rfl hD ht hT (E.nilSl Ty.api_Dir 10)
  refine Bi.eql ?_ ?_ <;> intro c4 <;> (repeat first | (with_reducible first | refine Stp.go ?_ | refine StpE.go E ?_ | (refine StpW.go E ?_; clear E; intro w_ E) | (refine StpA.go E ?_; clear E; intro b_ w_ hb_ E) | (apply hJ9; intro u_) | refine LnL.nil ?_) | ((with_reducible refine Bi.dec true ?_ ?_); focus exact rfl) | ((with_reducible refine Bi.dec false ?_ ?_); focus exact rfl) | ((with_reducible refine Bi.sdec true ?_ ?_); focus decide) | ((with_reducible refine Bi.sdec false ?_ ?_); focus decide))
  · have e : T.act x = ((T.create x.user x.file x.name x.perm x.mode).1, { handle := (T.create x.user x.file x.name x.perm x.mode).2.1, qid := (T.create x.user x.file x.name x.perm x.mode).2.2.1, errno := (T.create x.user x.file x.name x.perm x.mode).2.2.2 }) := by unfold Tr.act; rw [if_neg c0, if_neg c1, if_neg c2, if_neg c3, if_pos c4]
    rw [e] at fin
    refine (Create_ok (user := x.user) (dir := x.file) (name := x.name) (perm := x.perm) (mode := x.mode) h hi hN hlim hx.user hx.name E).mono ?_
    clear E
    rintro r w_ ⟨rfl, D', X', β', hD, ht, hT, E⟩
    (repeat first | (with_reducible first | refine Stp.go ?_ | refine StpE.go E ?_ | (refine StpW.go E ?_; clear E; intro w_ E) | (refine StpA.go E ?_; clear E; intro b_ w_ hb_ E) | (apply hJ9; intro u_) | refine LnL.nil ?_) | ((with_reducible refine Bi.dec true ?_ ?_); focus exact rfl) | ((with_reducible refine Bi.dec false ?_ ?_); focus exact rfl) | ((with_reducible refine Bi.sdec true ?_ ?_); focus decide) | ((with_reducible refine Bi.sdec false ?_ ?_); focus decide))
    exact fin _ _ _ D' X' β' rfl hD ht hT (E.nilSl Ty.api_Dir 10)
  refine Bi.eql ?_ ?_ <;> intro c5 <;> (repeat first | (with_reducible first | refine Stp.go ?_ | refine StpE.go E ?_ | (refine StpW.go E ?_; clear E; intro w_ E) | (refine StpA.go E ?_; clear E; intro b_ w_ hb_ E) | (apply hJ9; intro u_) | refine LnL.nil ?_) | ((with_reducible refine Bi.dec true ?_ ?_); focus exact rfl) | ((with_reducible refine Bi.dec false ?_ ?_); focus exact rfl) | ((with_reducible refine Bi.sdec true ?_ ?_); focus decide) | ((with_reducible refine Bi.sdec false ?_ ?_); focus decide))
  · have e : T.act x = (T, { text := (T.read x.handle x.offset x.count).1, errno := (T.read x.handle x.offset x.count).2 }) := by unfold Tr.act; rw [if_neg c0, if_neg c1, if_neg c2, if_neg c3, if_neg c4, if_pos c5]
    rw [e] at fin
    refine (Read_ok (hd := x.handle) (off := x.offset) (count := x.count) h hi (by simp) E).mono ?_
    clear E
    rintro r w_ ⟨rfl, E⟩
    (repeat first | (with_reducible first | refine Stp.go ?_ | refine StpE.go E ?_ | (refine StpW.go E ?_; clear E; intro w_ E) | (refine StpA.go E ?_; clear E; intro b_ w_ hb_ E) | (apply hJ9; intro u_) | refine LnL.nil ?_) | ((with_reducible refine Bi.dec true ?_ ?_); focus exact rfl) | ((with_reducible refine Bi.dec false ?_ ?_); focus exact rfl) | ((with_reducible refine Bi.sdec true ?_ ?_); focus decide) | ((with_reducible refine Bi.sdec false ?_ ?_); focus decide))
    exact fin _ _ _ D X β rfl (fun _ h => h) rfl h (E.nilSl Ty.api_Dir 10)
  refine Bi.eql ?_ ?_ <;> intro c6 <;> (repeat first | (with_reducible first | refine Stp.go ?_ | refine StpE.go E ?_ | (refine StpW.go E ?_; clear E; intro w_ E) | (refine StpA.go E ?_; clear E; intro b_ w_ hb_ E) | (apply hJ9; intro u_) | refine LnL.nil ?_) | ((with_reducible refine Bi.dec true ?_ ?_); focus exact rfl) | ((with_reducible refine Bi.dec false ?_ ?_); focus exact rfl) | ((with_reducible refine Bi.sdec true ?_ ?_); focus decide) | ((with_reducible refine Bi.sdec false ?_ ?_); focus decide))
  · have e : T.act x = (T, { dirs := (T.list x.handle).1, errno := (T.list x.handle).2 }) := by unfold Tr.act; rw [if_neg c0, if_neg c1, if_neg c2, if_neg c3, if_neg c4, if_neg c5, if_pos c6]
    rw [e] at fin
    refine (List_ok (hd := x.handle) h hi E).mono ?_
    clear E
    rintro r w_ ⟨v, rfl, E⟩
    (repeat first | (with_reducible first | refine Stp.go ?_ | refine StpE.go E ?_ | (refine StpW.go E ?_; clear E; intro w_ E) | (refine StpA.go E ?_; clear E; intro b_ w_ hb_ E) | (apply hJ9; intro u_) | refine LnL.nil ?_) | ((with_reducible refine Bi.dec true ?_ ?_); focus exact rfl) | ((with_reducible refine Bi.dec false ?_ ?_); focus exact rfl) | ((with_reducible refine Bi.sdec true ?_ ?_); focus decide) | ((with_reducible refine Bi.sdec false ?_ ?_); focus decide))
    exact fin _ _ _ D X β rfl (fun _ h => h) rfl h E
  refine Bi.eql ?_ ?_ <;> intro c7 <;> (repeat first | (with_reducible first | refine Stp.go ?_ | refine StpE.go E ?_ | (refine StpW.go E ?_; clear E; intro w_ E) | (refine StpA.go E ?_; clear E; intro b_ w_ hb_ E) | (apply hJ9; intro u_) | refine LnL.nil ?_) | ((with_reducible refine Bi.dec true ?_ ?_); focus exact rfl) | ((with_reducible refine Bi.dec false ?_ ?_); focus exact rfl) | ((with_reducible refine Bi.sdec true ?_ ?_); focus decide) | ((with_reducible refine Bi.sdec false ?_ ?_); focus decide))
  · have e : T.act x = ((T.write x.handle x.offset x.data).1, { handle := (T.write x.handle x.offset x.data).2.1, errno := (T.write x.handle x.offset x.data).2.2 }) := by unfold Tr.act; rw [if_neg c0, if_neg c1, if_neg c2, if_neg c3, if_neg c4, if_neg c5, if_neg c6, if_pos c7]
    rw [e] at fin
    refine (Write_ok (hd := x.handle) (off := x.offset) (d := x.data) h hi hN hlim E).mono ?_
    clear E
    rintro r w_ ⟨rfl, D', X', β', hD, ht, hT, E⟩
    (repeat first | (with_reducible first | refine Stp.go ?_ | refine StpE.go E ?_ | (refine StpW.go E ?_; clear E; intro w_ E) | (refine StpA.go E ?_; clear E; intro b_ w_ hb_ E) | (apply hJ9; intro u_) | refine LnL.nil ?_) | ((with_reducible refine Bi.dec true ?_ ?_); focus exact rfl) | ((with_reducible refine Bi.dec false ?_ ?_); focus exact rfl) | ((with_reducible refine Bi.sdec true ?_ ?_); focus decide) | ((with_reducible refine Bi.sdec false ?_ ?_); focus decide))
    exact fin _ _ _ D' X' β' rfl hD ht hT (E.nilSl Ty.api_Dir 10)
  refine Bi.eql ?_ ?_ <;> intro c8 <;> (repeat first | (with_reducible first | refine Stp.go ?_ | refine StpE.go E ?_ | (refine StpW.go E ?_; clear E; intro w_ E) | (refine StpA.go E ?_; clear E; intro b_ w_ hb_ E) | (apply hJ9; intro u_) | refine LnL.nil ?_) | ((with_reducible refine Bi.dec true ?_ ?_); focus exact rfl) | ((with_reducible refine Bi.dec false ?_ ?_); focus exact rfl) | ((with_reducible refine Bi.sdec true ?_ ?_); focus decide) | ((with_reducible refine Bi.sdec false ?_ ?_); focus decide))
  · have e : T.act x = ((T.close x.handle).1, { errno := (T.close x.handle).2 }) := by unfold Tr.act; rw [if_neg c0, if_neg c1, if_neg c2, if_neg c3, if_neg c4, if_neg c5, if_neg c6, if_neg c7, if_pos c8]
    rw [e] at fin
    refine (Close_ok (hd := x.handle) h hi hN hlim E).mono ?_
    clear E
    rintro r w_ ⟨rfl, D', X', β', hD, ht, hT, E⟩
    (repeat first | (with_reducible first | refine Stp.go ?_ | refine StpE.go E ?_ | (refine StpW.go E ?_; clear E; intro w_ E) | (refine StpA.go E ?_; clear E; intro b_ w_ hb_ E) | (apply hJ9; intro u_) | refine LnL.nil ?_) | ((with_reducible refine Bi.dec true ?_ ?_); focus exact rfl) | ((with_reducible refine Bi.dec false ?_ ?_); focus exact rfl) | ((with_reducible refine Bi.sdec true ?_ ?_); focus decide) | ((with_reducible refine Bi.sdec false ?_ ?_); focus decide))
    exact fin _ _ _ D' X' β' rfl hD ht hT (E.nilSl Ty.api_Dir 10)
  refine Bi.eql ?_ ?_ <;> intro c9 <;> (repeat first | (with_reducible first | refine Stp.go ?_ | refine StpE.go E ?_ | (refine StpW.go E ?_; clear E; intro w_ E) | (refine StpA.go E ?_; clear E; intro b_ w_ hb_ E) | (apply hJ9; intro u_) | refine LnL.nil ?_) | ((with_reducible refine Bi.dec true ?_ ?_); focus exact rfl) | ((with_reducible refine Bi.dec false ?_ ?_); focus exact rfl) | ((with_reducible refine Bi.sdec true ?_ ?_); focus decide) | ((with_reducible refine Bi.sdec false ?_ ?_); focus decide))
  · have e : T.act x = ((T.remove x.user x.file).1, { errno := (T.remove x.user x.file).2 }) := by unfold Tr.act; rw [if_neg c0, if_neg c1, if_neg c2, if_neg c3, if_neg c4, if_neg c5, if_neg c6, if_neg c7, if_neg c8, if_pos c9]
    rw [e] at fin
    refine (Remove_ok (user := x.user) (file := x.file) h hi hN hlim E).mono ?_
    clear E
    rintro r w_ ⟨rfl, D', X', β', hD, ht, hT, E⟩
    (repeat first | (with_reducible first | refine Stp.go ?_ | refine StpE.go E ?_ | (refine StpW.go E ?_; clear E; intro w_ E) | (refine StpA.go E ?_; clear E; intro b_ w_ hb_ E) | (apply hJ9; intro u_) | refine LnL.nil ?_) | ((with_reducible refine Bi.dec true ?_ ?_); focus exact rfl) | ((with_reducible refine Bi.dec false ?_ ?_); focus exact rfl) | ((with_reducible refine Bi.sdec true ?_ ?_); focus decide) | ((with_reducible refine Bi.sdec false ?_ ?_); focus decide))
    exact fin _ _ _ D' X' β' rfl hD ht hT (E.nilSl Ty.api_Dir 10)
  refine Bi.eql ?_ ?_ <;> intro c10 <;> (repeat first | (with_reducible first | refine Stp.go ?_ | refine StpE.go E ?_ | (refine StpW.go E ?_; clear E; intro w_ E) | (refine StpA.go E ?_; clear E; intro b_ w_ hb_ E) | (apply hJ9; intro u_) | refine LnL.nil ?_) | ((with_reducible refine Bi.dec true ?_ ?_); focus exact rfl) | ((with_reducible refine Bi.dec false ?_ ?_); focus exact rfl) | ((with_reducible refine Bi.sdec true ?_ ?_); focus decide) | ((with_reducible refine Bi.sdec false ?_ ?_); focus decide))
  · have e : T.act x = (T, { qid := (T.find x.name).1, errno := (T.find x.name).2 }) := by unfold Tr.act; rw [if_neg c0, if_neg c1, if_neg c2, if_neg c3, if_neg c4, if_neg c5, if_neg c6, if_neg c7, if_neg c8, if_neg c9, if_pos c10]
    rw [e] at fin
    refine (Find_ok (p := x.name) h hi E).mono ?_
    clear E
    rintro r w_ ⟨rfl, E⟩
    (repeat first | (with_reducible first | refine Stp.go ?_ | refine StpE.go E ?_ | (refine StpW.go E ?_; clear E; intro w_ E) | (refine StpA.go E ?_; clear E; intro b_ w_ hb_ E) | (apply hJ9; intro u_) | refine LnL.nil ?_) | ((with_reducible refine Bi.dec true ?_ ?_); focus exact rfl) | ((with_reducible refine Bi.dec false ?_ ?_); focus exact rfl) | ((with_reducible refine Bi.sdec true ?_ ?_); focus decide) | ((with_reducible refine Bi.sdec false ?_ ?_); focus decide))
    exact fin _ _ _ D X β rfl (fun _ h => h) rfl h (E.nilSl Ty.api_Dir 10)
  refine Bi.eql ?_ ?_ <;> intro c11 <;> (repeat first | (with_reducible first | refine Stp.go ?_ | refine StpE.go E ?_ | (refine StpW.go E ?_; clear E; intro w_ E) | (refine StpA.go E ?_; clear E; intro b_ w_ hb_ E) | (apply hJ9; intro u_) | refine LnL.nil ?_) | ((with_reducible refine Bi.dec true ?_ ?_); focus exact rfl) | ((with_reducible refine Bi.dec false ?_ ?_); focus exact rfl) | ((with_reducible refine Bi.sdec true ?_ ?_); focus decide) | ((with_reducible refine Bi.sdec false ?_ ?_); focus decide))
  · have e : T.act x = (T, { text := (T.pathOf x.file).1, errno := (T.pathOf x.file).2 }) := by unfold Tr.act; rw [if_neg c0, if_neg c1, if_neg c2, if_neg c3, if_neg c4, if_neg c5, if_neg c6, if_neg c7, if_neg c8, if_neg c9, if_neg c10, if_pos c11]
    rw [e] at fin
    refine (Path_ok (file := x.file) h hi E).mono ?_
    clear E
    rintro r w_ ⟨rfl, E⟩
    (repeat first | (with_reducible first | refine Stp.go ?_ | refine StpE.go E ?_ | (refine StpW.go E ?_; clear E; intro w_ E) | (refine StpA.go E ?_; clear E; intro b_ w_ hb_ E) | (apply hJ9; intro u_) | refine LnL.nil ?_) | ((with_reducible refine Bi.dec true ?_ ?_); focus exact rfl) | ((with_reducible refine Bi.dec false ?_ ?_); focus exact rfl) | ((with_reducible refine Bi.sdec true ?_ ?_); focus decide) | ((with_reducible refine Bi.sdec false ?_ ?_); focus decide))
    exact fin _ _ _ D X β rfl (fun _ h => h) rfl h (E.nilSl Ty.api_Dir 10)
  have e : T.act x = (T, {}) := by unfold Tr.act; rw [if_neg c0, if_neg c1, if_neg c2, if_neg c3, if_neg c4, if_neg c5, if_neg c6, if_neg c7, if_neg c8, if_neg c9, if_neg c10, if_neg c11]
  rw [e] at fin
  exact fin {} _ _ D X β rfl (fun _ h => h) rfl h (E.nilSl Ty.api_Dir 10)
end Go.Proofs.YtnnhmahemklnkaaGreatDoor

/-
  Laws: lists of operations; Few; a tree behind operations.
-/
namespace Go.Proofs.YtnnhmahemklnkaaGreatDoor
open Go Go.Sh
set_option maxRecDepth 100000
set_option linter.unusedVariables false
set_option linter.unusedSimpArgs false
variable {w0 w : World} {F : Nat → Prop} {l : List As}
variable {D : List Row} {X : PT} {T : Tr} {β : Int → Nat}

abbrev acs (xs : List Ac) : List Value := (xs.map Ac.C).flatten
theorem acs_of : ∀ {rows : List (List Value)}, (∀ r ∈ rows, fitWL lkAct r) → ∃ xs : List Ac, rows = xs.map Ac.C ∧ ∀ x ∈ xs, x.Ok
  | [], _ => ⟨[], rfl, fun _ h => by cases h⟩
  | r :: rs, h => by
    obtain ⟨x, rfl, hx⟩ := act_of (h r List.mem_cons_self)
    obtain ⟨xs, rfl, hxs⟩ := acs_of (fun y hy => h y (List.mem_cons_of_mem _ hy))
    exact ⟨x :: xs, rfl, fun y hy => by
      rcases List.mem_cons.1 hy with rfl | hy
      · exact hx
      · exact hxs y hy⟩
theorem acs_len (xs : List Ac) : (acs xs).length = xs.length * 20 := by
  induction xs with
  | nil => rfl
  | cons x r ih =>
    have e : acs (x :: r) = x.C ++ acs r := by simp [acs]
    rw [e, List.length_append, ih, List.length_cons]
    show 20 + r.length * 20 = (r.length + 1) * 20
    omega
theorem acs_at {xs : List Ac} : ∀ {i : Nat} {x : Ac}, xs[i]? = some x → ((acs xs).drop (i * 20)).take 20 = x.C := by
  induction xs with
  | nil => intro i x h; simp at h
  | cons y r ih =>
    intro i x h
    have e : acs (y :: r) = y.C ++ acs r := by simp [acs]
    cases i with
    | zero =>
      obtain rfl : y = x := by simpa using h
      rw [e, Nat.zero_mul, List.drop_zero]
      exact List.take_left (l₁ := y.C) (l₂ := acs r)
    | succ i =>
      rw [e, show (i + 1) * 20 = y.C.length + i * 20 by show _ = 20 + i * 20; omega, ← List.drop_drop, List.drop_left]
      exact ih (by simpa using h)
theorem ac_scal (x : Ac) : x.C.all scalV = true := rfl
/-- A tree behind operations. -/
def Tr.acts (T : Tr) (xs : List Ac) : Tr := xs.foldl (fun T x => (T.act x).1) T
theorem acts_snoc (T : Tr) (xs : List Ac) (x : Ac) : T.acts (xs ++ [x]) = ((T.acts xs).act x).1 := by simp [Tr.acts]
theorem acts_inv : ∀ (xs : List Ac) {T : Tr}, Inv T → Inv (T.acts xs)
  | [], _, h => h
  | x :: r, T, h => acts_inv r (act_inv h x)
theorem acts_lim : ∀ (xs : List Ac) {T : Tr} {N : Int}, 0 ≤ N → Lim N T → Lim (N + 3 * xs.length) (T.acts xs)
  | [], T, N, _, h => h.mono (by simp)
  | x :: r, T, N, h0, h => by
    have := acts_lim r (N := N + 3) (by omega) (act_lim h0 h x)
    rw [List.length_cons]
    have e : N + 3 * ((r.length + 1 : Nat) : Int) = N + 3 + 3 * (r.length : Int) := by omega
    rw [e]
    exact this
theorem Few_ok {v : Value} {xs : List Ac} (hxl : xs.length ≤ 9223372036854775807) (hr : RdS w0 F l 20 xs.length v (acs xs)) (E : Hs w0 F w l) : Ca PP Fn.law28_Few #[v] w fun r w' => ∃ b, r = .bool b ∧ (b = true → xs.length ≤ 40) ∧ Hs w0 F w' l := by
  refine S.law28_Few.calls ?_
  unfold S.law28_Few
  refine hr.len ?_
  refine ⟨fun l1 w1 => ∃ i : Nat, l1 = [i64 i] ∧ i ≤ xs.length ∧ Hs w0 F w1 l, fun l1 _ => match l1 with | [.int _ i] => xs.length - i.toNat | _ => 0, ⟨0, rfl, Nat.zero_le _, E⟩, ?_⟩
  clear E
  rintro t u w_ ⟨i, h4, hi, E⟩
  cases h4
  refine Bi.lss ?_ ?_ <;> intro hlt <;> (repeat with_reducible first | refine Stp.go ?_ | refine StpE.go E ?_)
  · have hx : xs[i]? = some xs[i] := List.getElem?_eq_getElem (by omega)
    generalize xs[i] = x at hx
    have hat := acs_at hx
    refine hr.ix (by omega) (by omega) (by omega) ?_
    intro a ha
    rw [Int.toNat_natCast] at ha
    refine ha.lda E hat rfl (by omega) ?_
    (repeat first | (with_reducible first | refine Stp.go ?_ | refine StpE.go E ?_ | (refine StpW.go E ?_; clear E; intro w_ E) | (refine StpA.go E ?_; clear E; intro b_ w_ hb_ E) | (apply hJ13; intro u_) | refine LnL.nil ?_) | ((with_reducible refine Bi.dec true ?_ ?_); focus exact rfl) | ((with_reducible refine Bi.dec false ?_ ?_); focus exact rfl) | ((with_reducible refine Bi.sdec true ?_ ?_); focus decide) | ((with_reducible refine Bi.sdec false ?_ ?_); focus decide))
    (revert b_; intro q hbq E)
    refine StA.all (vs := x.C) E rfl rfl (ac_scal x) ?_
    clear E
    intro w_ E
    (intro J13 hJ13)
    have fin : ∀ b w_, Hs w0 F w_ (pt q (oc x.C Ty.law28_Act) :: l) → J13 [.bool b] w_ := by
      intro b w_ E
      (repeat with_reducible first | refine Stp.go ?_ | refine StpE.go E ?_)
      cases b
      · (repeat with_reducible first | refine Stp.go ?_ | refine StpE.go E ?_ | (apply hJ13; intro u_))
        refine Bi.add (by omega) ?_
        refine ⟨⟨i + 1, by simp, by omega, E.tl⟩, ?_⟩
        simp only []; omega
      · (repeat with_reducible first | refine Stp.go ?_ | refine StpE.go E ?_ | (apply hJ13; intro u_))
        exact ⟨_, rfl, fun h => (by cases h), E.tl⟩
    clear hJ13
    (repeat with_reducible first | refine Stp.go ?_ | refine StpE.go E ?_)
    refine Bi.addW ?_; intro s1; (repeat with_reducible first | refine Stp.go ?_ | refine StpE.go E ?_)
    refine Bi.addW ?_; intro s2; (repeat with_reducible first | refine Stp.go ?_ | refine StpE.go E ?_)
    refine Bi.addW ?_; intro s3; (repeat with_reducible first | refine Stp.go ?_ | refine StpE.go E ?_)
    refine Bi.addW ?_; intro s4; (repeat with_reducible first | refine Stp.go ?_ | refine StpE.go E ?_)
    refine Bi.addW ?_; intro s5; (repeat with_reducible first | refine Stp.go ?_ | refine StpE.go E ?_)
    refine Bi.addW ?_; intro s6; (repeat with_reducible first | refine Stp.go ?_ | refine StpE.go E ?_)
    refine Bi.gtr ?_ ?_ <;> intro g1 <;> (repeat with_reducible first | refine Stp.go ?_ | refine StpE.go E ?_)
    · exact fin _ _ E
    refine Bi.gtr ?_ ?_ <;> intro g2 <;> (repeat with_reducible first | refine Stp.go ?_ | refine StpE.go E ?_)
    · refine Bi.leq ?_ ?_ <;> intro g3 <;> (repeat with_reducible first | refine Stp.go ?_ | refine StpE.go E ?_)
      · exact fin _ _ E
      · refine Bi.gtr ?_ ?_ <;> intro g4 <;> (repeat with_reducible first | refine Stp.go ?_ | refine StpE.go E ?_)
        · refine Bi.leq ?_ ?_ <;> intro g5 <;> (repeat with_reducible first | refine Stp.go ?_ | refine StpE.go E ?_)
          · exact fin _ _ E
          · exact fin _ _ E
        · exact fin _ _ E
    · refine Bi.gtr ?_ ?_ <;> intro g4 <;> (repeat with_reducible first | refine Stp.go ?_ | refine StpE.go E ?_)
      · refine Bi.leq ?_ ?_ <;> intro g5 <;> (repeat with_reducible first | refine Stp.go ?_ | refine StpE.go E ?_)
        · exact fin _ _ E
        · exact fin _ _ E
      · exact fin _ _ E
  · refine hr.len ?_
    refine Bi.leq ?_ ?_ <;> intro h1
    · exact ⟨_, rfl, fun _ => by omega, E⟩
    · exact ⟨_, rfl, fun h => (by cases h), E⟩
/-- A tree behind operations. -/
theorem played_ok {v gV : Value} {gv : List (BA × Value)} {gs : Gs} {owner : BA} {xs : List Ac} (hg : GIn w0 F l gV gv gs) (hgl : gs.length ≤ 100000) (hul : ∀ g ∈ gs, g.2.length ≤ 100000) (hsz : ∀ s ∈ [owner] ++ gwords gs, s.size ≤ 9223372036854775807)
    (hok : ∀ x ∈ xs, x.Ok) (hxl : xs.length ≤ 40) (hr : RdS w0 F l 20 xs.length v (acs xs)) (E : Hs w0 F w (Pool D :: l)) :
    Ca PP Fn.law28_played #[.agg #[str owner, gV], v] w fun r w' =>
      (checkG gs [owner] ≠ 0 ∧ r = np ∧ Hs w0 F w' (Pool D :: l)) ∨
      (checkG gs [owner] = 0 ∧ ∃ D' X β, r = ptr X.t ∧ (∀ x ∈ D, x ∈ D') ∧ Tie D' X ((newT owner gs).acts xs) β ∧ Inv ((newT owner gs).acts xs) ∧ Lim 121 ((newT owner gs).acts xs) ∧ Hs w0 F w' (trA X :: Pool D' :: l)) := by
  refine S.law28_played.calls ?_
  unfold S.law28_played
  refine StpA.go E ?_
  clear E
  intro q w_ hq E
  (repeat with_reducible first | refine Stp.go ?_ | refine StpE.go E ?_)
  (replace E := ((E.bIx 0).bIx 1))
  refine (New_ok (owner := owner) (hg.weaken (l' := pt q (oc [str owner, gV] Ty.law28_Setting) :: l) fun _ E => E.tl) hgl hul hsz E).mono ?_
  clear E
  rintro r w_ (⟨hc, rfl, E⟩ | ⟨hc, D1, X, β, rfl, hD1, h, hi, E⟩)
  · (repeat with_reducible first | refine Stp.go ?_ | refine StpE.go E ?_)
    refine Bi.neq ?_ ?_ <;> intro h1 <;> (repeat with_reducible first | refine Stp.go ?_ | refine StpE.go E ?_)
    · exact .inl ⟨hc, rfl, (E.bIx 1).tl⟩
    · exact absurd h1 hc
  (repeat first | (with_reducible first | refine Stp.go ?_ | refine StpE.go E ?_ | (refine StpW.go E ?_; clear E; intro w_ E) | (refine StpA.go E ?_; clear E; intro b_ w_ hb_ E) | refine LnL.nil ?_) | ((with_reducible refine Bi.dec true ?_ ?_); focus exact rfl) | ((with_reducible refine Bi.dec false ?_ ?_); focus exact rfl) | ((with_reducible refine Bi.sdec true ?_ ?_); focus decide) | ((with_reducible refine Bi.sdec false ?_ ?_); focus decide))
  refine hr.len ?_
  have hl0 := newT_lim owner gs
  refine ⟨fun l1 w1 => ∃ (i : Nat) (D' : List Row) (X' : PT) (β' : Int → Nat), l1 = [i64 i] ∧ i ≤ xs.length ∧ (∀ x ∈ D, x ∈ D') ∧ X'.t = X.t ∧ Tie D' X' ((newT owner gs).acts (xs.take i)) β' ∧ Hs w0 F w1 (trA X' :: Pool D' :: l),
    fun l1 _ => match l1 with | [.int _ i] => xs.length - i.toNat | _ => 0, ⟨0, D1, X, β, rfl, Nat.zero_le _, hD1, rfl, h, ?_⟩, ?_⟩
  · exact (E.bIx 2).tl
  clear E
  rintro t u w_ ⟨i, D', X', β', h4, hle, hD, ht, hT, E⟩
  cases h4
  have hi' := acts_inv (xs.take i) hi
  have hl' := acts_lim (xs.take i) (by omega) hl0
  have htl : (xs.take i).length ≤ 40 := by rw [List.length_take]; omega
  have hl2 : Lim 121 ((newT owner gs).acts (xs.take i)) := hl'.mono (by omega)
  refine Bi.lss ?_ ?_ <;> intro hlt <;> (repeat with_reducible first | refine Stp.go ?_ | refine StpE.go E ?_)
  · have hx : xs[i]? = some xs[i] := List.getElem?_eq_getElem (by omega)
    have hxo : xs[i].Ok := hok _ (List.getElem_mem _)
    generalize xs[i] = x at hx hxo
    have hat := acs_at hx
    refine hr.ix (by omega) (by omega) (by omega) ?_
    intro a ha
    rw [Int.toNat_natCast] at ha
    refine ha.lda E.tl.tl hat rfl (by omega) ?_
    (repeat first | (with_reducible first | refine Stp.go ?_ | refine StpE.go E ?_ | (refine StpW.go E ?_; clear E; intro w_ E) | (refine StpA.go E ?_; clear E; intro b_ w_ hb_ E) | refine LnL.nil ?_) | ((with_reducible refine Bi.dec true ?_ ?_); focus exact rfl) | ((with_reducible refine Bi.dec false ?_ ?_); focus exact rfl) | ((with_reducible refine Bi.sdec true ?_ ?_); focus decide) | ((with_reducible refine Bi.sdec false ?_ ?_); focus decide))
    (revert b_; intro b hbb E)
    refine StA.all (vs := x.C) E rfl rfl (ac_scal x) ?_
    clear E
    intro w_ E
    (repeat with_reducible first | refine Stp.go ?_ | refine StpE.go E ?_)
    (replace E := ((E.bIx 2).bIx 2))
    rw [← ht]
    refine (Do_ok (x := x) hT hi' (by omega) hl2 hxo E).mono ?_
    clear E
    rintro r w_ ⟨dv, rfl, D2, X2, β2, hD2, ht2, hT2, E⟩
    (repeat with_reducible first | refine Stp.go ?_ | refine StpE.go E ?_)
    refine Bi.add (by omega) ?_
    have e : (newT owner gs).acts (xs.take (i + 1)) = (((newT owner gs).acts (xs.take i)).act x).1 := by
      rw [List.take_add_one, hx]
      exact acts_snoc _ _ _
    refine ⟨⟨i + 1, D2, X2, β2, by simp, by omega, fun y hy => hD2 y (hD y hy), by rw [ht2, ht], by rw [e]; exact hT2, ?_⟩, ?_⟩
    · exact ((((E.bIx 2).tl).bIx 2).tl)
    · simp only []; omega
  · have e : xs.take i = xs := List.take_of_length_le (by omega)
    rw [e] at hT hi' hl2
    exact .inr ⟨hc, D', X', β', by rw [ht], hD, hT, hi', hl2, E⟩
end Go.Proofs.YtnnhmahemklnkaaGreatDoor

/-
  The reference: elements of a path.
-/
namespace Go.Proofs.YtnnhmahemklnkaaGreatDoor
open Go Go.Sh
set_option maxRecDepth 100000
set_option linter.unusedVariables false
set_option linter.unusedSimpArgs false
variable {w0 w : World} {F : Nat → Prop} {l : List As}

/-- What is left of a path to be done: words so far, a word begun, and the bytes behind. -/
def restE (a : Bool) (out : List BA) (word : BA) (r : List UInt8) : List BA := ((preB word.data.toList r).map bmk).foldl (stepC a) out
theorem restE_end (a : Bool) (out : List BA) (word : BA) : restE a out word [] = stepC a out word := by
  unfold restE
  rw [preB_end]
  simp only [List.map_cons, List.map_nil, List.foldl_cons, List.foldl_nil, bmk_data]
theorem restE_eq (a : Bool) (out : List BA) (word : BA) (r : List UInt8) : restE a out word (47 :: r) = restE a (stepC a out word) emp r := by
  unfold restE
  rw [preB_eq]
  simp only [List.map_cons, List.foldl_cons, bmk_data]
  rfl
theorem restE_ne (a : Bool) (out : List BA) (word : BA) {x : UInt8} (h : x ≠ 47) (r : List UInt8) : restE a out word (x :: r) = restE a out (word ++ ⟨#[x]⟩) r := by
  unfold restE
  rw [preB_ne h]
  have e : (word ++ (⟨#[x]⟩ : BA)).data.toList = word.data.toList ++ [x] := by simp [ByteArray.toList_data_append]
  rw [e]
theorem restE_start (s : BA) : restE (absP s) [] emp s.data.toList = elemsC s := by
  unfold restE elemsC splitS
  rw [show emp.data.toList = [] from rfl, preB_start]
theorem Elements_ok {s : BA} (hs : s.size ≤ 1000000) (E : Hs w0 F w l) : Ca PP Fn.r28_Elements #[str s] w fun r w' => ∃ v, r = .tuple #[v, .bool (absP s)] ∧ Hs w0 F w' (slA v Ty.string 1 ((elemsC s).map str) :: l) := by
  refine S.r28_Elements.calls ?_
  unfold S.r28_Elements
  (intro J1 hJ1)
  have fin1 : ∀ w_, Hs w0 F w_ l → J1 [.bool (absP s)] w_ := by
    intro w_ E
    (repeat with_reducible first | refine Stp.go ?_ | refine StpE.go E ?_ | (apply hJ1; intro u_) | (apply hJ16; intro u_) | (apply hJ22; intro u_) | (apply hJ29; intro u_) | (apply hJ33; intro u_) | (apply hJ40; intro u_))
    refine BdS.zero E u_sl_string (by kernel_rfl) ?_
    clear E
    intro v0 w_ E
    refine ⟨fun l1 w1 => ∃ (i : Nat) (out : List BA) (word : BA) (v : Value), l1 = [v, str word, i64 i] ∧ i ≤ s.size + 1 ∧ out.length ≤ i ∧ word.size ≤ i ∧ (if i ≤ s.size then restE (absP s) out word (s.data.toList.drop i) else out) = elemsC s ∧ Hs w0 F w1 (slA v Ty.string 1 (out.map str) :: l),
      fun l1 _ => match l1 with | [_, _, .int _ i] => s.size + 1 - i.toNat | _ => 0, ⟨0, [], emp, v0, rfl, by omega, Nat.le_refl _, Nat.zero_le _, ?_, E⟩, ?_⟩
    · rw [if_pos (Nat.zero_le _), List.drop_zero]
      exact restE_start s
    clear E
    rintro v t2 t3 u w_ ⟨i, out, word, v_, h4, hi, hol, hws, hC, E⟩
    cases h4
    refine LnS.mk ?_
    refine Bi.leq ?_ ?_ <;> intro hlt <;> (repeat with_reducible first | refine Stp.go ?_ | refine StpE.go E ?_)
    · rw [if_pos (by omega)] at hC
      (intro J16 hJ16)
      have fin16 : ∀ (v' : Value) (word' : BA) (out' : List BA) w_, out'.length ≤ i + 1 → word'.size ≤ i + 1 → (if i + 1 ≤ s.size then restE (absP s) out' word' (s.data.toList.drop (i + 1)) else out') = elemsC s → Hs w0 F w_ (slA v' Ty.string 1 (out'.map str) :: l) → J16 [v', str word'] w_ := by
        intro v' word' out' w_ h1 h2 h3 E
        (repeat with_reducible first | refine Stp.go ?_ | refine StpE.go E ?_ | (apply hJ1; intro u_) | (apply hJ16; intro u_) | (apply hJ22; intro u_) | (apply hJ29; intro u_) | (apply hJ33; intro u_) | (apply hJ40; intro u_))
        refine Bi.add (by omega) ?_
        refine ⟨⟨i + 1, out', word', v', by simp, by omega, h1, h2, h3, E⟩, ?_⟩
        simp only []; omega
      clear hJ16
      (intro J22 hJ22)
      have fin22t : ∀ (x : UInt8) w_, s.data.toList[i]? = some x → x ≠ 47 → Hs w0 F w_ (slA v Ty.string 1 (out.map str) :: l) → J22 [.bool true] w_ := by
        intro x w_ hx hx47 E
        have hil : i < s.data.toList.length := (List.getElem?_eq_some_iff.1 hx).1
        have hil2 : i < s.size := hil
        (repeat with_reducible first | refine Stp.go ?_ | refine StpE.go E ?_ | (apply hJ1; intro u_) | (apply hJ16; intro u_) | (apply hJ22; intro u_) | (apply hJ29; intro u_) | (apply hJ33; intro u_) | (apply hJ40; intro u_))
        refine Bi.add (by omega) ?_
        refine SlS.mid (by omega) (by omega) (by omega) ?_
        have he : s.extract (i : Int).toNat ((i : Int) + 1).toNat = ⟨#[x]⟩ := by
          rw [Int.toNat_natCast, show ((i : Int) + 1).toNat = i + 1 by omega]
          refine ba_ext ?_
          rw [ByteArray.data_extract, Array.toList_extract, List.extract_eq_take_drop]
          rw [List.getElem?_eq_getElem hil] at hx
          rw [List.drop_eq_getElem_cons hil, Option.some.inj hx, show i + 1 - i = 1 by omega]
          rfl
        rw [he]
        refine Bi.sadd (by show word.size + 1 ≤ _; omega) ?_
        refine fin16 _ _ out _ (by omega) (by rw [ByteArray.size_append]; show word.size + 1 ≤ _; omega) ?_ E
        have hd : s.data.toList.drop i = x :: s.data.toList.drop (i + 1) := by
          rw [List.drop_eq_getElem_cons hil]
          rw [List.getElem?_eq_getElem hil] at hx
          rw [Option.some.inj hx]
        rw [hd, restE_ne _ _ _ hx47] at hC
        rw [← hC]
        by_cases h1 : i + 1 ≤ s.size
        · rw [if_pos h1]
        · omega
      have fin22f : ∀ w_, (i = s.size ∨ s.data.toList[i]? = some 47) → Hs w0 F w_ (slA v Ty.string 1 (out.map str) :: l) → J22 [.bool false] w_ := by
        intro w_ hx E
        (repeat with_reducible first | refine Stp.go ?_ | refine StpE.go E ?_ | (apply hJ1; intro u_) | (apply hJ16; intro u_) | (apply hJ22; intro u_) | (apply hJ29; intro u_) | (apply hJ33; intro u_) | (apply hJ40; intro u_))
        (intro J29 hJ29)
        have hsl := stepC_len (absP s) out word
        have fin29 : ∀ (v' : Value) w_, Hs w0 F w_ (slA v' Ty.string 1 ((stepC (absP s) out word).map str) :: l) → J29 [v'] w_ := by
          intro v' w_ E
          (repeat with_reducible first | refine Stp.go ?_ | refine StpE.go E ?_ | (apply hJ1; intro u_) | (apply hJ16; intro u_) | (apply hJ22; intro u_) | (apply hJ29; intro u_) | (apply hJ33; intro u_) | (apply hJ40; intro u_))
          refine fin16 _ emp _ _ (by omega) (Nat.zero_le _) ?_ E
          rcases hx with hx | hx
          · rw [if_neg (by omega)]
            rw [List.drop_eq_nil_of_le (by show s.data.toList.length ≤ i; have : s.data.toList.length = s.size := rfl; omega), restE_end] at hC
            exact hC
          · have hil : i < s.data.toList.length := (List.getElem?_eq_some_iff.1 hx).1
            have hil2 : i < s.size := hil
            rw [if_pos (by omega)]
            have hd : s.data.toList.drop i = 47 :: s.data.toList.drop (i + 1) := by
              rw [List.drop_eq_getElem_cons hil]
              rw [List.getElem?_eq_getElem hil] at hx
              rw [Option.some.inj hx]
            rw [hd, restE_eq] at hC
            exact hC
        clear hJ29
        (intro J33 hJ33)
        have fin33 : ∀ b w_, b = decide (word = dot2 ∧ 0 < out.length ∧ out[out.length - 1]? ≠ some dot2) → Hs w0 F w_ (slA v Ty.string 1 (out.map str) :: l) → J33 [.bool b] w_ := by
          intro b w_ hb E
          (repeat first | (with_reducible first | refine Stp.go ?_ | refine StpE.go E ?_ | (refine StpW.go E ?_; clear E; intro w_ E) | (refine StpA.go E ?_; clear E; intro b_ w_ hb_ E) | (apply hJ1; intro u_) | (apply hJ16; intro u_) | (apply hJ22; intro u_) | (apply hJ29; intro u_) | (apply hJ33; intro u_) | (apply hJ40; intro u_) | refine LnL.nil ?_) | ((with_reducible refine Bi.dec true ?_ ?_); focus exact rfl) | ((with_reducible refine Bi.dec false ?_ ?_); focus exact rfl) | ((with_reducible refine Bi.sdec true ?_ ?_); focus decide) | ((with_reducible refine Bi.sdec false ?_ ?_); focus decide))
          by_cases c3 : word = dot2 ∧ 0 < out.length ∧ out[out.length - 1]? ≠ some dot2
          · rw [decide_eq_true c3] at hb
            subst hb
            (repeat first | (with_reducible first | refine Stp.go ?_ | refine StpE.go E ?_ | (refine StpW.go E ?_; clear E; intro w_ E) | (refine StpA.go E ?_; clear E; intro b_ w_ hb_ E) | (apply hJ1; intro u_) | (apply hJ16; intro u_) | (apply hJ22; intro u_) | (apply hJ29; intro u_) | (apply hJ33; intro u_) | (apply hJ40; intro u_) | refine LnL.nil ?_) | ((with_reducible refine Bi.dec true ?_ ?_); focus exact rfl) | ((with_reducible refine Bi.dec false ?_ ?_); focus exact rfl) | ((with_reducible refine Bi.sdec true ?_ ?_); focus decide) | ((with_reducible refine Bi.sdec false ?_ ?_); focus decide))
            refine Bi.sub (by first | omega | (simp; omega)) ?_
            refine Sl.sl E (i := 0) rfl (by omega) (a := 0) (b := out.length - 1) rfl (by simp [bnd]; omega) (by omega) (by simp) ?_
            clear E
            intro v' E
            (try simp only [List.set_cons_zero, List.set_cons_succ, List.cons_append, List.nil_append, Nat.zero_add, Nat.add_zero] at E)
            have he : stepC (absP s) out word = out.take (out.length - 1) := by
              unfold stepC
              rw [if_neg (by rw [c3.1]; decide), if_neg (fun h => h c3.1), if_pos c3.2]
            refine fin29 _ _ ?_
            rw [he]
            have e1 : (out.take (out.length - 1)).map str = List.drop (0 * 1) (List.take ((out.length - 1) * 1) (out.map str)) := by rw [Nat.zero_mul, List.drop_zero, Nat.mul_one, List.map_take]
            rw [e1]
            exact E
          rw [decide_eq_false c3] at hb
          subst hb
          (repeat first | (with_reducible first | refine Stp.go ?_ | refine StpE.go E ?_ | (refine StpW.go E ?_; clear E; intro w_ E) | (refine StpA.go E ?_; clear E; intro b_ w_ hb_ E) | (apply hJ1; intro u_) | (apply hJ16; intro u_) | (apply hJ22; intro u_) | (apply hJ29; intro u_) | (apply hJ33; intro u_) | (apply hJ40; intro u_) | refine LnL.nil ?_) | ((with_reducible refine Bi.dec true ?_ ?_); focus exact rfl) | ((with_reducible refine Bi.dec false ?_ ?_); focus exact rfl) | ((with_reducible refine Bi.sdec true ?_ ?_); focus decide) | ((with_reducible refine Bi.sdec false ?_ ?_); focus decide))
          (intro J40 hJ40)
          have fin40 : ∀ b w_, b = decide ((word = dot2 ∧ absP s = false) ∨ (word ≠ emp ∧ word ≠ dot1 ∧ word ≠ dot2)) → Hs w0 F w_ (slA v Ty.string 1 (out.map str) :: l) → J40 [.bool b] w_ := by
            intro b w_ hb E
            (repeat with_reducible first | refine Stp.go ?_ | refine StpE.go E ?_ | (apply hJ1; intro u_) | (apply hJ16; intro u_) | (apply hJ22; intro u_) | (apply hJ29; intro u_) | (apply hJ33; intro u_) | (apply hJ40; intro u_))
            by_cases c4 : (word = dot2 ∧ absP s = false) ∨ (word ≠ emp ∧ word ≠ dot1 ∧ word ≠ dot2)
            · rw [decide_eq_true c4] at hb
              subst hb
              have he : stepC (absP s) out word = out ++ [word] := by
                unfold stepC
                rcases c4 with ⟨h1, h2⟩ | ⟨h1, h2, h3⟩
                · rw [if_neg (by rw [h1]; decide), if_neg (fun h => h h1), if_neg (fun h => c3 ⟨h1, h⟩), if_pos h2]
                · rw [if_neg (fun h => h.elim h1 h2), if_pos h3]
              (repeat first | (with_reducible first | refine Stp.go ?_ | refine StpE.go E ?_ | (refine StpW.go E ?_; clear E; intro w_ E) | (refine StpA.go E ?_; clear E; intro b_ w_ hb_ E) | (apply hJ1; intro u_) | (apply hJ16; intro u_) | (apply hJ22; intro u_) | (apply hJ29; intro u_) | (apply hJ33; intro u_) | (apply hJ40; intro u_) | refine LnL.nil ?_) | ((with_reducible refine Bi.dec true ?_ ?_); focus exact rfl) | ((with_reducible refine Bi.dec false ?_ ?_); focus exact rfl) | ((with_reducible refine Bi.sdec true ?_ ?_); focus decide) | ((with_reducible refine Bi.sdec false ?_ ?_); focus decide))
              refine BdS.zero E u_sl_string s_string ?_
              clear E
              intro v1 w_ E
              refine Ap.one E (i := 0) rfl u_sl_string ⟨_, u_sl_string, fun _ h => by cases h⟩ e_string (Src.one E (by (first | assumption | exact FPt.mem | exact FMp.mem | exact FSl.mem | (repeat (first | assumption | with_reducible exact List.mem_cons_self | refine List.mem_cons_of_mem _ ?_)))) (by simp [scalV])) rfl (by first | omega | (simp; omega)) (by first | omega | (simp; omega)) ?_
              clear E
              intro v2 w_ E
              (try simp only [List.set_cons_zero, List.set_cons_succ, List.cons_append, List.nil_append, Nat.zero_add, Nat.add_zero] at E)
              refine BdS.one E u_sl_string e_string rfl ?_
              clear E
              intro v3 w_ E
              refine Ap.one E (i := 1) rfl u_sl_string ⟨_, u_sl_string, fun _ h => by cases h⟩ e_string (Src.one E (by (first | assumption | exact FPt.mem | exact FMp.mem | exact FSl.mem | (repeat (first | assumption | with_reducible exact List.mem_cons_self | refine List.mem_cons_of_mem _ ?_)))) rfl) rfl (by first | omega | (simp; omega)) (by first | omega | (simp; omega)) ?_
              clear E
              intro v4 w_ E
              (try simp only [List.set_cons_zero, List.set_cons_succ, List.cons_append, List.nil_append, Nat.zero_add, Nat.add_zero] at E)
              refine fin29 _ _ ?_
              rw [he]
              have e1 : (out ++ [word]).map str = [] ++ out.map str ++ [str word] := by simp
              rw [e1]
              exact (E.tl.bIx 1).tl
            · rw [decide_eq_false c4] at hb
              subst hb
              have he : stepC (absP s) out word = out := by
                unfold stepC
                by_cases h1 : word = emp ∨ word = dot1
                · rw [if_pos h1]
                by_cases h2 : word = dot2
                · rw [if_neg h1, if_neg (fun h => h h2), if_neg (fun h => c3 ⟨h2, h⟩), if_neg (fun h => c4 (.inl ⟨h2, h⟩))]
                · exact absurd (.inr ⟨fun h => h1 (.inl h), fun h => h1 (.inr h), h2⟩) c4
              (repeat with_reducible first | refine Stp.go ?_ | refine StpE.go E ?_)
              refine fin29 _ _ ?_
              rw [he]
              exact E
          clear hJ40
          (repeat with_reducible first | refine Stp.go ?_ | refine StpE.go E ?_)
          refine Bi.seql ?_ ?_ <;> intro c5 <;> (repeat with_reducible first | refine Stp.go ?_ | refine StpE.go E ?_)
          · cases ha : absP s with
            | true =>
              (repeat with_reducible first | refine Stp.go ?_ | refine StpE.go E ?_)
              refine Bi.sneq ?_ ?_ <;> intro c6 <;> (repeat with_reducible first | refine Stp.go ?_ | refine StpE.go E ?_)
              · refine Bi.sneq ?_ ?_ <;> intro c7 <;> (repeat with_reducible first | refine Stp.go ?_ | refine StpE.go E ?_)
                · refine Bi.snF c5 ?_
                  (repeat with_reducible first | refine Stp.go ?_ | refine StpE.go E ?_)
                  exact fin40 _ _ (by rw [decide_eq_false]; rintro (⟨-, h⟩ | ⟨-, -, h⟩); rw [ha] at h; cases h; exact h c5) E
                · rw [c5] at c7; exact absurd c7 (by decide)
              · rw [c5] at c6; exact absurd c6 (by decide)
            | false =>
              (repeat with_reducible first | refine Stp.go ?_ | refine StpE.go E ?_)
              exact fin40 _ _ (by rw [decide_eq_true (.inl ⟨c5, ha⟩)]) E
          · refine Bi.sneq ?_ ?_ <;> intro c6 <;> (repeat with_reducible first | refine Stp.go ?_ | refine StpE.go E ?_)
            · refine Bi.sneq ?_ ?_ <;> intro c7 <;> (repeat with_reducible first | refine Stp.go ?_ | refine StpE.go E ?_)
              · refine Bi.snT c5 ?_
                (repeat with_reducible first | refine Stp.go ?_ | refine StpE.go E ?_)
                exact fin40 _ _ (by rw [decide_eq_true (.inr ⟨c6, c7, c5⟩)]) E
              · exact fin40 _ _ (by rw [decide_eq_false]; rintro (⟨h, -⟩ | ⟨-, h, -⟩); exact c5 h; exact h c7) E
            · exact fin40 _ _ (by rw [decide_eq_false]; rintro (⟨h, -⟩ | ⟨h, -, -⟩); exact c5 h; exact h c6) E
        clear hJ33
        (repeat with_reducible first | refine Stp.go ?_ | refine StpE.go E ?_)
        refine Bi.seql ?_ ?_ <;> intro c5 <;> (repeat with_reducible first | refine Stp.go ?_ | refine StpE.go E ?_)
        · refine Bi.gtr ?_ ?_ <;> intro c4 <;> (repeat with_reducible first | refine Stp.go ?_ | refine StpE.go E ?_)
          · refine Bi.sub (by first | omega | (simp; omega)) ?_
            (repeat with_reducible first | refine Stp.go ?_ | refine StpE.go E ?_)
            simp only [List.length_map] at c4
            have hx2 : out[out.length - 1]? = some out[out.length - 1] := List.getElem?_eq_getElem (by omega)
            refine IxA.sl E (by (first | assumption | exact FPt.mem | exact FMp.mem | exact FSl.mem | (repeat (first | assumption | with_reducible exact List.mem_cons_self | refine List.mem_cons_of_mem _ ?_)))) (by omega) (by simp; omega) (by simp; omega) ?_
            intro a ha
            (repeat with_reducible first | refine Stp.go ?_ | refine StpE.go E ?_)
            refine Ld.sl E (by (first | assumption | exact FPt.mem | exact FMp.mem | exact FSl.mem | (repeat (first | assumption | with_reducible exact List.mem_cons_self | refine List.mem_cons_of_mem _ ?_)))) ha (x := str out[out.length - 1]) (by
              have : ((((out.map str).length : Nat) : Int) - 1).toNat * 1 = out.length - 1 := by simp
              rw [this]; simp [hx2]) ?_
            (repeat with_reducible first | refine Stp.go ?_ | refine StpE.go E ?_)
            refine Bi.sneq ?_ ?_ <;> intro c6 <;> (repeat with_reducible first | refine Stp.go ?_ | refine StpE.go E ?_)
            · exact fin33 _ _ (by rw [decide_eq_true ⟨c5, by omega, by rw [hx2]; simpa using c6⟩]) E
            · exact fin33 _ _ (by rw [decide_eq_false (fun h => h.2.2 (by rw [hx2, c6]))]) E
          · simp only [List.length_map] at c4
            exact fin33 _ _ (by rw [decide_eq_false (fun h => by omega)]) E
        · exact fin33 _ _ (by rw [decide_eq_false (fun h => c5 h.1)]) E
      clear hJ22
      (repeat with_reducible first | refine Stp.go ?_ | refine StpE.go E ?_)
      refine Bi.lss ?_ ?_ <;> intro c1 <;> (repeat with_reducible first | refine Stp.go ?_ | refine StpE.go E ?_)
      · obtain ⟨b, hb, hb'⟩ := ba_get (s := s) (i := i) (by omega)
        refine IxS.mk (by omega) (by simpa using hb) ?_
        (repeat with_reducible first | refine Stp.go ?_ | refine StpE.go E ?_)
        refine Bi.neq ?_ ?_ <;> intro c2 <;> (repeat with_reducible first | refine Stp.go ?_ | refine StpE.go E ?_)
        · exact fin22t b _ hb' (fun h => c2 (by rw [h]; rfl)) E
        · refine fin22f _ (.inr ?_) E
          rw [hb']
          have : b = 47 := by
            have h2 : (b.toNat : Int) = 47 := c2
            apply UInt8.toNat_inj.1
            show b.toNat = 47
            omega
          rw [this]
      · exact fin22f _ (.inl (by omega)) E
    · rw [if_neg (by omega)] at hC
      subst hC
      exact ⟨_, rfl, E⟩
  clear hJ1
  (repeat with_reducible first | refine Stp.go ?_ | refine StpE.go E ?_)
  refine Bi.gtr ?_ ?_ <;> intro c1 <;> (repeat with_reducible first | refine Stp.go ?_ | refine StpE.go E ?_)
  · obtain ⟨b, hb, hb'⟩ := ba_get (s := s) (i := 0) (by omega)
    refine IxS.mk (by omega) hb ?_
    (repeat with_reducible first | refine Stp.go ?_ | refine StpE.go E ?_)
    refine Bi.eql ?_ ?_ <;> intro c2 <;> (repeat with_reducible first | refine Stp.go ?_ | refine StpE.go E ?_)
    · have : b = 47 := by
        have h2 : (b.toNat : Int) = 47 := c2
        apply UInt8.toNat_inj.1
        show b.toNat = 47
        omega
      have ha : absP s = true := by rw [absP_eq, hb', this]; rfl
      rw [ha] at fin1
      exact fin1 _ E
    · have ha : absP s = false := by
        rw [absP_eq, hb']
        refine decide_eq_false fun h => c2 ?_
        rw [Option.some.inj h]; rfl
      rw [ha] at fin1
      exact fin1 _ E
  · have ha : absP s = false := by
      rw [absP_eq]
      refine decide_eq_false fun h => ?_
      have h1 := (List.getElem?_eq_some_iff.1 h).1
      have h2 : s.data.toList.length = s.size := rfl
      omega
    rw [ha] at fin1
    exact fin1 _ E
end Go.Proofs.YtnnhmahemklnkaaGreatDoor

/-
  The reference: clean paths, and their parts (rValid_ok as in Pm1).
-/
namespace Go.Proofs.YtnnhmahemklnkaaGreatDoor
open Go Go.Sh
set_option maxRecDepth 100000
set_option linter.unusedVariables false
set_option linter.unusedSimpArgs false
variable {w0 w : World} {F : Nat → Prop} {l : List As}

theorem rValid_ok {s : ByteArray} (hs : s.size ≤ 9223372036854775807) : Ca PP Fn.r28_Valid #[.string s] w fun r w' => r = .bool (goodName s) ∧ w' = w := by
  refine S.r28_Valid.calls ?_
  unfold S.r28_Valid
  refine ⟨fun l w' => ∃ i : Nat, l = [i64 i] ∧ i ≤ s.size ∧ ((s.data.toList.take i).all goodB = true) ∧ w' = w, fun l _ => match l with | [.int _ i] => s.size - i.toNat | _ => 0, ⟨0, rfl, Nat.zero_le _, rfl, rfl⟩, ?_⟩
  rintro t7 u w1 ⟨i, hl, hi, hg, rfl⟩
  cases hl
  refine LnS.mk ?_
  refine Bi.lss ?_ ?_ <;> intro h
  · (repeat with_reducible first | refine Stp.go ?_ | refine StpE.go E ?_)
    obtain ⟨b, hb, hb'⟩ := ba_get (s := s) (i := i) (by omega)
    (intro J8 hJ8)
    have hbm : b ∈ s.data.toList := List.mem_of_getElem? hb'
    have bad : goodB b = false → goodName s = false := by
      intro h0
      have : s.data.toList.all goodB = false := by
        rw [Bool.eq_false_iff]; intro ha; rw [List.all_eq_true] at ha; have := ha b hbm; rw [h0] at this; cases this
      simp [goodName, this]
    have good : goodB b = true → (s.data.toList.take (i + 1)).all goodB = true := by
      intro h0
      rw [List.take_add_one, hb', List.all_append, hg]
      simp [h0]
    have fin8 : ∀ c, c = !goodB b → J8 [.bool c] w1 := by
      intro c hc
      (repeat with_reducible first | refine Stp.go ?_ | refine StpE.go E ?_)
      cases hgb : goodB b with
      | false =>
        obtain rfl : c = true := by rw [hc, hgb]; rfl
        (repeat with_reducible first | refine Stp.go ?_ | refine StpE.go E ?_ | (apply hJ8; intro u_) | (apply hJ45; intro u_))
        exact ⟨by rw [bad hgb], rfl⟩
      | true =>
        obtain rfl : c = false := by rw [hc, hgb]; rfl
        (repeat with_reducible first | refine Stp.go ?_ | refine StpE.go E ?_ | (apply hJ8; intro u_) | (apply hJ45; intro u_))
        refine Bi.add (by omega) ?_
        refine ⟨⟨i + 1, by simp, by omega, good hgb, rfl⟩, ?_⟩
        simp only []; omega
    clear hJ8
    refine IxS.mk (by omega) (by simpa using hb) ?_
    refine Bi.lss ?_ ?_ <;> intro h1 <;> (repeat with_reducible first | refine Stp.go ?_ | refine StpE.go E ?_)
    · exact fin8 _ (by simp [goodB]; omega)
    · refine IxS.mk (by omega) (by simpa using hb) ?_
      refine Gd.t false ?_
      (repeat with_reducible first | refine Stp.go ?_ | refine StpE.go E ?_)
      refine Bi.gtr ?_ ?_ <;> intro h2 <;> (repeat with_reducible first | refine Stp.go ?_ | refine StpE.go E ?_)
      · exact fin8 _ (by simp [goodB]; omega)
      · refine IxS.mk (by omega) (by simpa using hb) ?_
        refine Gd.t false ?_
        (repeat with_reducible first | refine Stp.go ?_ | refine StpE.go E ?_)
        refine Bi.eql ?_ ?_ <;> intro h3 <;> (repeat with_reducible first | refine Stp.go ?_ | refine StpE.go E ?_)
        · exact fin8 _ (by simp [goodB]; omega)
        · exact fin8 _ (by simp [goodB]; omega)
  · (repeat with_reducible first | refine Stp.go ?_ | refine StpE.go E ?_ | (apply hJ8; intro u_) | (apply hJ45; intro u_))
    (intro J45 hJ45)
    have hall : s.data.toList.all goodB = true := by
      have : s.data.toList.take i = s.data.toList := List.take_of_length_le (by have : s.data.toList.length = s.size := rfl; omega)
      rw [this] at hg; exact hg
    have tail : goodName s = (decide (s.size ≥ 1) && decide (s.size ≤ 40) && decide (s ≠ ⟨#[46]⟩) && decide (s ≠ ⟨#[46, 46]⟩)) := by
      unfold goodName
      rw [hall]
      have : (s.size != 0) = decide (s.size ≥ 1) := by
        by_cases h0 : s.size = 0
        · simp [h0]
        · rw [decide_eq_true (show s.size ≥ 1 by omega)]
          simpa using h0
      rw [this]
      simp [bne, ba_beq]
    refine LnS.mk ?_
    refine Bi.geq ?_ ?_ <;> intro h1 <;> (repeat with_reducible first | refine Stp.go ?_ | refine StpE.go E ?_ | (apply hJ8; intro u_) | (apply hJ45; intro u_))
    · refine Bi.leq ?_ ?_ <;> intro h2 <;> (repeat first | (with_reducible first | refine Stp.go ?_ | refine StpE.go E ?_ | (refine StpW.go E ?_; clear E; intro w_ E) | (refine StpA.go E ?_; clear E; intro b_ w_ hb_ E) | (apply hJ8; intro u_) | (apply hJ45; intro u_) | refine LnL.nil ?_) | ((with_reducible refine Bi.dec true ?_ ?_); focus exact rfl) | ((with_reducible refine Bi.dec false ?_ ?_); focus exact rfl) | ((with_reducible refine Bi.sdec true ?_ ?_); focus decide) | ((with_reducible refine Bi.sdec false ?_ ?_); focus decide))
      · refine Bi.sneq ?_ ?_ <;> intro h3 <;> (repeat first | (with_reducible first | refine Stp.go ?_ | refine StpE.go E ?_ | (refine StpW.go E ?_; clear E; intro w_ E) | (refine StpA.go E ?_; clear E; intro b_ w_ hb_ E) | (apply hJ8; intro u_) | (apply hJ45; intro u_) | refine LnL.nil ?_) | ((with_reducible refine Bi.dec true ?_ ?_); focus exact rfl) | ((with_reducible refine Bi.dec false ?_ ?_); focus exact rfl) | ((with_reducible refine Bi.sdec true ?_ ?_); focus decide) | ((with_reducible refine Bi.sdec false ?_ ?_); focus decide))
        · refine Bi.sneq ?_ ?_ <;> intro h4 <;> (repeat first | (with_reducible first | refine Stp.go ?_ | refine StpE.go E ?_ | (refine StpW.go E ?_; clear E; intro w_ E) | (refine StpA.go E ?_; clear E; intro b_ w_ hb_ E) | (apply hJ8; intro u_) | (apply hJ45; intro u_) | refine LnL.nil ?_) | ((with_reducible refine Bi.dec true ?_ ?_); focus exact rfl) | ((with_reducible refine Bi.dec false ?_ ?_); focus exact rfl) | ((with_reducible refine Bi.sdec true ?_ ?_); focus decide) | ((with_reducible refine Bi.sdec false ?_ ?_); focus decide))
          · exact ⟨by rw [tail]; simp [h3, h4]; omega, rfl⟩
          · exact ⟨by rw [tail]; simp [h4], rfl⟩
        · exact ⟨by rw [tail]; simp [h3], rfl⟩
      · exact ⟨by rw [tail]; simp; omega, rfl⟩
    · exact ⟨by rw [tail, decide_eq_false (show ¬ s.size ≥ 1 by omega)]; rfl, rfl⟩


theorem join_snoc : ∀ (xs : List BA) (x : BA), xs ≠ [] → joinS (xs ++ [x]) = joinS xs ++ sep ++ x := by
  have key : ∀ (xs : List BA) (x : BA), xs ≠ [] → Lib.join ((xs ++ [x]).map (·.data.toList)) sep.data.toList = Lib.join (xs.map (·.data.toList)) sep.data.toList ++ 47 :: x.data.toList := by
    intro xs
    induction xs with
    | nil => intro x h; exact absurd rfl h
    | cons y r ih =>
      intro x _
      cases r with
      | nil => simp [Lib.join, List.intercalate]
      | cons z r =>
        have := ih x (by simp)
        have e1 : ∀ (q : List BA), Lib.join ((y :: z :: q).map (·.data.toList)) sep.data.toList = y.data.toList ++ 47 :: Lib.join ((z :: q).map (·.data.toList)) sep.data.toList := by intro q; simp [Lib.join, List.intercalate]
        rw [show (y :: z :: r) ++ [x] = y :: z :: (r ++ [x]) by simp, e1, e1, show z :: (r ++ [x]) = (z :: r) ++ [x] by simp, this]
        simp
  intro xs x h
  refine ba_ext ?_
  have := key xs x h
  show (Lib.join ((xs ++ [x]).map (·.data.toList)) sep.data.toList).toArray.toList = _
  rw [this]
  simp [joinS, ByteArray.toList_data_append]
theorem join_le (xs : List BA) : (joinS xs).size ≤ tot xs := by
  have := join_len xs
  unfold joinS
  show (Lib.join _ _).toArray.size ≤ _
  rw [List.size_toArray]; omega
theorem rClean_ok {s : BA} (hs : s.size ≤ 1000000) (E : Hs w0 F w l) : Ca PP Fn.r28_Clean #[str s] w fun r w' => r = str (cleanS s) ∧ Hs w0 F w' l := by
  refine S.r28_Clean.calls ?_
  unfold S.r28_Clean
  refine (Elements_ok hs E).mono ?_
  clear E
  rintro r w_ ⟨v, rfl, E⟩
  (repeat with_reducible first | refine Stp.go ?_ | refine StpE.go E ?_)
  have ht := elems_tot s
  have hl := tot_len (elemsC s)
  refine ⟨fun l1 w1 => ∃ i : Nat, l1 = [str (joinS ((elemsC s).take i)), i64 i] ∧ i ≤ (elemsC s).length ∧ Hs w0 F w1 (slA v Ty.string 1 ((elemsC s).map str) :: l), fun l1 _ => match l1 with | [_, .int _ i] => (elemsC s).length - i.toNat | _ => 0, ⟨0, rfl, Nat.zero_le _, E⟩, ?_⟩
  clear E
  rintro t1 t2 u w_ ⟨i, h4, hi, E⟩
  cases h4
  (repeat with_reducible first | refine Stp.go ?_ | refine StpE.go E ?_)
  refine Bi.lss ?_ ?_ <;> intro hlt <;> (try simp only [List.length_map] at hlt) <;> (repeat with_reducible first | refine Stp.go ?_ | refine StpE.go E ?_)
  · have hx : (elemsC s)[i]? = some (elemsC s)[i] := List.getElem?_eq_getElem (by omega)
    have hjl := join_le ((elemsC s).take i)
    have htk := tot_take (elemsC s) i
    have hxt : (elemsC s)[i].size ≤ tot (elemsC s) := by
      have : ∀ (L : List BA) (x : BA), x ∈ L → x.size ≤ tot L := by
        intro L x
        induction L with
        | nil => intro h; cases h
        | cons y r ih =>
          intro h
          have e : tot (y :: r) = y.size + 1 + tot r := by simp [tot]
          rcases List.mem_cons.1 h with rfl | h
          · omega
          · have := ih h; omega
      exact this _ _ (List.getElem_mem _)
    have hsn : joinS ((elemsC s).take (i + 1)) = (if 0 < i then joinS ((elemsC s).take i) ++ sep else joinS ((elemsC s).take i)) ++ (elemsC s)[i] := by
      rw [List.take_add_one, hx]
      by_cases h0 : 0 < i
      · rw [if_pos h0]
        exact join_snoc _ _ (fun h => by
          have := congrArg List.length h
          rw [List.length_take, List.length_nil] at this
          omega)
      · obtain rfl : i = 0 := by omega
        rw [if_neg h0]
        refine ba_ext ?_
        simp [joinS, Lib.join, List.intercalate, ByteArray.toList_data_append]
    (intro J13 hJ13)
    have fin13 : ∀ w_ (q : BA), q = (if 0 < i then joinS ((elemsC s).take i) ++ sep else joinS ((elemsC s).take i)) → q.size ≤ tot (elemsC s) + 1 → Hs w0 F w_ (slA v Ty.string 1 ((elemsC s).map str) :: l) → J13 [str q] w_ := by
      intro w_ q hq hql E
      (repeat with_reducible first | refine Stp.go ?_ | refine StpE.go E ?_ | (apply hJ13; intro u_))
      refine IxA.sl E (by (first | assumption | exact FPt.mem | exact FMp.mem | exact FSl.mem | (repeat (first | assumption | with_reducible exact List.mem_cons_self | refine List.mem_cons_of_mem _ ?_)))) (by omega) (by first | omega | (simp; done) | (simp; omega)) (by first | omega | (simp; done) | (simp; omega)) ?_
      intro a ha
      (repeat with_reducible first | refine Stp.go ?_ | refine StpE.go E ?_)
      refine Ld.sl E (by (first | assumption | exact FPt.mem | exact FMp.mem | exact FSl.mem | (repeat (first | assumption | with_reducible exact List.mem_cons_self | refine List.mem_cons_of_mem _ ?_)))) ha (x := str (elemsC s)[i]) (by rw [Int.toNat_natCast, Nat.mul_one]; simp [hx]) ?_
      refine Bi.sadd (by omega) ?_
      refine Bi.add (by omega) ?_
      refine ⟨⟨i + 1, by rw [hsn, hq]; simp, by omega, E⟩, ?_⟩
      simp only []; omega
    clear hJ13
    refine Bi.gtr ?_ ?_ <;> intro c1 <;> (repeat with_reducible first | refine Stp.go ?_ | refine StpE.go E ?_)
    · refine Bi.sadd (by have : ByteArray.size ⟨#[47]⟩ = 1 := rfl; omega) ?_
      refine fin13 _ _ (by rw [if_pos (by omega)]) (by rw [ByteArray.size_append]; have : ByteArray.size ⟨#[47]⟩ = 1 := rfl; omega) E
    · refine fin13 _ _ (by rw [if_neg (by omega)]) (by omega) E
  · have e : (elemsC s).take i = elemsC s := List.take_of_length_le (by omega)
    rw [e]
    have hjl := join_le (elemsC s)
    cases ha : absP s with
    | true =>
      (repeat with_reducible first | refine Stp.go ?_ | refine StpE.go E ?_)
      refine Bi.sadd (by have : ByteArray.size ⟨#[47]⟩ = 1 := rfl; omega) ?_
      (repeat with_reducible first | refine Stp.go ?_ | refine StpE.go E ?_)
      exact ⟨by unfold cleanS; rw [if_pos ha], E.tl⟩
    | false =>
      (repeat with_reducible first | refine Stp.go ?_ | refine StpE.go E ?_)
      refine Bi.seql ?_ ?_ <;> intro c1 <;> (repeat with_reducible first | refine Stp.go ?_ | refine StpE.go E ?_)
      · exact ⟨by unfold cleanS; rw [if_neg (by rw [ha]; simp), if_pos (show joinS (elemsC s) = emp from c1)], E.tl⟩
      · exact ⟨by unfold cleanS; rw [if_neg (by rw [ha]; simp), if_neg (show ¬ joinS (elemsC s) = emp from c1)], E.tl⟩
theorem any_snoc {xs : List BA} {x : BA} {p : BA → Bool} : (xs ++ [x]).any p = (xs.any p || p x) := by simp
theorem rSplit_ok {s : BA} (hs : s.size ≤ 1000000) (E : Hs w0 F w l) : Ca PP Fn.r28_Split #[str s] w fun r w' => ∃ v, r = .tuple #[v, i64 (splitP s).2] ∧ Hs w0 F w' (slA v Ty.string 1 ((splitP s).1.map str) :: l) := by
  refine S.r28_Split.calls ?_
  unfold S.r28_Split
  (repeat with_reducible first | refine Stp.go ?_ | refine StpE.go E ?_)
  refine Bi.gtr ?_ ?_ <;> intro c1 <;> (repeat with_reducible first | refine Stp.go ?_ | refine StpE.go E ?_)
  · have e : splitP s = ([], 3) := by unfold splitP; rw [if_pos (by omega)]
    rw [e]
    exact ⟨_, rfl, Hs.nilSl E _ _⟩
  refine (Elements_ok hs E).mono ?_
  clear E
  rintro r w_ ⟨v, rfl, E⟩
  (repeat with_reducible first | refine Stp.go ?_ | refine StpE.go E ?_)
  have ht := elems_tot s
  have hl := tot_len (elemsC s)
  refine ⟨fun l1 w1 => ∃ i : Nat, l1 = [i64 i] ∧ i ≤ (elemsC s).length ∧ ((elemsC s).take i).any badE = false ∧ Hs w0 F w1 (slA v Ty.string 1 ((elemsC s).map str) :: l), fun l1 _ => match l1 with | [.int _ i] => (elemsC s).length - i.toNat | _ => 0, ⟨0, rfl, Nat.zero_le _, rfl, E⟩, ?_⟩
  clear E
  rintro t1 u w_ ⟨i, h4, hi, hb, E⟩
  cases h4
  (repeat with_reducible first | refine Stp.go ?_ | refine StpE.go E ?_)
  refine Bi.lss ?_ ?_ <;> intro hlt <;> (try simp only [List.length_map] at hlt) <;> (repeat with_reducible first | refine Stp.go ?_ | refine StpE.go E ?_)
  · have hx : (elemsC s)[i]? = some (elemsC s)[i] := List.getElem?_eq_getElem (by omega)
    have hxs : (elemsC s)[i].size ≤ 9223372036854775807 := by
      have : ∀ (L : List BA) (x : BA), x ∈ L → x.size ≤ tot L := by
        intro L x
        induction L with
        | nil => intro h; cases h
        | cons y r ih =>
          intro h
          have e : tot (y :: r) = y.size + 1 + tot r := by simp [tot]
          rcases List.mem_cons.1 h with rfl | h
          · omega
          · have := ih h; omega
      have := this _ _ (List.getElem_mem (l := elemsC s) (n := i) (by omega))
      omega
    (intro J14 hJ14)
    have fin14 : ∀ b w_, b = badE (elemsC s)[i] → Hs w0 F w_ (slA v Ty.string 1 ((elemsC s).map str) :: l) → J14 [.bool b] w_ := by
      intro b w_ hb2 E
      (repeat with_reducible first | refine Stp.go ?_ | refine StpE.go E ?_)
      cases b with
      | true =>
        (repeat with_reducible first | refine Stp.go ?_ | refine StpE.go E ?_ | (apply hJ14; intro u_))
        have e : splitP s = ([], 8) := by
          unfold splitP
          have : (elemsC s).any badE = true := List.any_eq_true.2 ⟨_, List.getElem_mem (by omega), hb2.symm⟩
          rw [if_neg (by omega), this]
          rfl
        rw [e]
        exact ⟨_, rfl, Hs.nilSl E.tl _ _⟩
      | false =>
        (repeat with_reducible first | refine Stp.go ?_ | refine StpE.go E ?_ | (apply hJ14; intro u_))
        refine Bi.add (by omega) ?_
        refine ⟨⟨i + 1, by simp, by omega, ?_, E⟩, ?_⟩
        · rw [List.take_add_one, hx]
          show (List.take i (elemsC s) ++ [(elemsC s)[i]]).any badE = false
          rw [any_snoc, hb, ← hb2]
          rfl
        · simp only []; omega
    clear hJ14
    refine IxA.sl E (by (first | assumption | exact FPt.mem | exact FMp.mem | exact FSl.mem | (repeat (first | assumption | with_reducible exact List.mem_cons_self | refine List.mem_cons_of_mem _ ?_)))) (by omega) (by first | omega | (simp; done) | (simp; omega)) (by first | omega | (simp; done) | (simp; omega)) ?_
    intro a ha
    (repeat with_reducible first | refine Stp.go ?_ | refine StpE.go E ?_)
    refine Ld.sl E (by (first | assumption | exact FPt.mem | exact FMp.mem | exact FSl.mem | (repeat (first | assumption | with_reducible exact List.mem_cons_self | refine List.mem_cons_of_mem _ ?_)))) ha (x := str (elemsC s)[i]) (by rw [Int.toNat_natCast, Nat.mul_one]; simp [hx]) ?_
    refine Bi.sneq ?_ ?_ <;> intro c2 <;> (repeat with_reducible first | refine Stp.go ?_ | refine StpE.go E ?_)
    · refine IxA.sl E (by (first | assumption | exact FPt.mem | exact FMp.mem | exact FSl.mem | (repeat (first | assumption | with_reducible exact List.mem_cons_self | refine List.mem_cons_of_mem _ ?_)))) (by omega) (by first | omega | (simp; done) | (simp; omega)) (by first | omega | (simp; done) | (simp; omega)) ?_
      intro a ha
      (repeat with_reducible first | refine Stp.go ?_ | refine StpE.go E ?_)
      refine Ld.sl E (by (first | assumption | exact FPt.mem | exact FMp.mem | exact FSl.mem | (repeat (first | assumption | with_reducible exact List.mem_cons_self | refine List.mem_cons_of_mem _ ?_)))) ha (x := str (elemsC s)[i]) (by rw [Int.toNat_natCast, Nat.mul_one]; simp [hx]) ?_
      (repeat with_reducible first | refine Stp.go ?_ | refine StpE.go E ?_)
      refine (rValid_ok hxs).mono ?_
      rintro r w_ ⟨rfl, rfl⟩
      refine Gd.t true ?_
      refine Un.not ?_
      (repeat with_reducible first | refine Stp.go ?_ | refine StpE.go E ?_)
      exact fin14 _ _ (by unfold badE; rw [decide_eq_true (show (elemsC s)[i] ≠ dot2 from c2)]; first | done | rfl) E
    · exact fin14 _ _ (by unfold badE; rw [decide_eq_false (fun h => h c2)]; rfl) E
  · have e : (elemsC s).take i = elemsC s := List.take_of_length_le (by omega)
    rw [e] at hb
    have e : splitP s = (elemsC s, 0) := by
      unfold splitP
      rw [if_neg (by omega), hb]
      rfl
    rw [e]
    exact ⟨_, rfl, E⟩
theorem eqStrs_ok {u v : Value} {xs : List BA} (hn : xs.length ≤ 1000000000) (E : Hs w0 F w l) (h1 : RdS w0 F l 1 xs.length u (xs.map str)) (h2 : RdS w0 F l 1 xs.length v (xs.map str)) :
    Ca PP Fn.slices_Equal_sl_string_string #[u, v] w fun r w' => r = .bool true ∧ Hs w0 F w' l := by
  refine S.slices_Equal_sl_string_string.calls ?_
  unfold S.slices_Equal_sl_string_string
  refine h1.len ?_
  refine h2.len ?_
  refine Bi.neq (fun h => absurd rfl h) fun _ => ?_
  (repeat with_reducible first | refine Stp.go ?_ | refine StpE.go E ?_)
  refine h1.len ?_
  refine ⟨fun l1 w1 => ∃ i : Nat, l1 = [i64 i] ∧ i ≤ xs.length ∧ Hs w0 F w1 l, fun l1 _ => match l1 with | [.int _ i] => xs.length - i.toNat | _ => 0, ⟨0, rfl, Nat.zero_le _, E⟩, ?_⟩
  clear E
  rintro t u1 w1 ⟨i, e, hi, E⟩
  cases e
  refine Bi.lss ?_ ?_ <;> intro hlt <;> (repeat first | (with_reducible first | refine Stp.go ?_ | refine StpE.go E ?_ | (refine StpW.go E ?_; clear E; intro w_ E) | (refine StpA.go E ?_; clear E; intro b_ w_ hb_ E) | refine LnL.nil ?_) | ((with_reducible refine Bi.dec true ?_ ?_); focus exact rfl) | ((with_reducible refine Bi.dec false ?_ ?_); focus exact rfl) | ((with_reducible refine Bi.sdec true ?_ ?_); focus decide) | ((with_reducible refine Bi.sdec false ?_ ?_); focus decide))
  · have hx : xs[i]? = some xs[i] := List.getElem?_eq_getElem (by omega)
    have hd : ((xs.map str).drop (((i : Int)).toNat * 1))[0]? = some (str xs[i]) := by
      rw [Int.toNat_natCast, Nat.mul_one, List.getElem?_drop, Nat.add_zero, List.getElem?_map, hx]; rfl
    refine h1.ix (by omega) (by omega) (by omega) ?_
    intro a ha
    refine ha.ld E hd ?_
    refine h2.ix (by omega) (by omega) (by omega) ?_
    intro a2 ha2
    refine ha2.ld E hd ?_
    refine Bi.snF rfl ?_
    (repeat with_reducible first | refine Stp.go ?_ | refine StpE.go E ?_)
    refine Bi.add (by omega) ?_
    exact ⟨⟨i + 1, by simp, by omega, E⟩, by simp only []; omega⟩
  · exact ⟨rfl, E⟩
end Go.Proofs.YtnnhmahemklnkaaGreatDoor

/-
  TreeCleans: the law.
-/
namespace Go.Proofs.YtnnhmahemklnkaaGreatDoor
open Go Go.Sh
set_option maxRecDepth 100000
set_option linter.unusedVariables false
set_option linter.unusedSimpArgs false
variable {w0 w : World} {F : Nat → Prop} {l : List As}

theorem join_len2 : ∀ (l : List BA), (Lib.join (l.map (·.data.toList)) sep.data.toList).length ≤ tot l - 1
  | [] => by simp [Lib.join, List.intercalate]
  | [x] => by simp [Lib.join, List.intercalate, tot]
  | x :: y :: r => by
    have := join_len2 (y :: r)
    have e : Lib.join ((x :: y :: r).map (·.data.toList)) sep.data.toList = x.data.toList ++ 47 :: Lib.join ((y :: r).map (·.data.toList)) sep.data.toList := by simp [Lib.join, List.intercalate]
    rw [e, List.length_append, List.length_cons]
    have h3 : tot (x :: y :: r) = x.size + 1 + tot (y :: r) := by simp [tot]
    have h5 : tot (y :: r) = y.size + 1 + tot r := by simp [tot]
    have h4 : x.data.toList.length = x.size := by simp
    omega
theorem join_le2 (xs : List BA) : (joinS xs).size ≤ tot xs - 1 := by
  have := join_len2 xs
  unfold joinS
  show (Lib.join _ _).toArray.size ≤ _
  rw [List.size_toArray]; omega
theorem clean_le (s : BA) : (cleanS s).size ≤ s.size ∨ (cleanS s).size ≤ 1 := by
  have h1 := join_le2 (elemsC s)
  have h2 := elems_tot s
  unfold cleanS
  cases ha : absP s with
  | true =>
    rw [if_pos rfl, ByteArray.size_append]
    have hs1 : sep.size = 1 := rfl
    rw [absP_eq] at ha
    have h0 : s.data.toList[0]? = some 47 := by simpa using ha
    have hne : s.data.toList = 47 :: s.data.toList.tail := by
      cases hq : s.data.toList with
      | nil => rw [hq] at h0; cases h0
      | cons x r => rw [hq] at h0; cases h0; rfl
    have hse : s = sep ++ bmk s.data.toList.tail := by
      refine ba_ext ?_
      rw [ByteArray.toList_data_append]
      show _ = [47] ++ (bmk _).data.toList
      conv => lhs; rw [hne]
      simp [bmk]
    have hsz : s.size = 1 + (bmk s.data.toList.tail).size := by
      conv => lhs; rw [hse, ByteArray.size_append, hs1]
    have he : tot (elemsC s) ≤ s.size := by
      have h3 : elemsC s = (splitS (bmk s.data.toList.tail)).foldl (stepC (absP s)) [] := by
        unfold elemsC
        conv => lhs; rw [show splitS s = emp :: splitS (bmk s.data.toList.tail) by rw [← splitS_sep, ← hse]]
        rw [List.foldl_cons]
        rfl
      have h4 := foldC_tot (absP s) (splitS (bmk s.data.toList.tail)) []
      rw [← h3, splitS_tot] at h4
      have h00 : tot [] = 0 := rfl
      omega
    left
    omega
  | false =>
    rw [if_neg (by simp)]
    split
    · right; exact Nat.le_refl 1
    · left; omega
theorem find_clean (T : Tr) {s : BA} (hs : s.size ≤ 1024) : T.find (cleanS s) = T.find s := by
  have h1 := clean_elems s
  have h2 := clean_le s
  have h3 : splitP (cleanS s) = splitP s := by
    unfold splitP
    rw [if_neg (show ¬ 1024 < (cleanS s).size by omega), if_neg (show ¬ 1024 < s.size by omega), h1.2]
  unfold Tr.find
  rw [h1.1, h3]
theorem Cleans_law {D : List Row} {path : BA} {v : Value} {xs : List Ac} (hp : path.size ≤ 9223372036854775807) (hok : ∀ x ∈ xs, x.Ok) (hxl : xs.length ≤ 9223372036854775807) (hr : ∀ l, RdS w0 F l 20 xs.length v (acs xs)) (E : Hs w0 F w (Pool D :: l)) :
    Ca PP Fn.law28_TreeCleans #[str path, v] w fun r w' => r = .bool true ∧ ∃ l', Hs w0 F w' l' := by
  refine S.law28_TreeCleans.calls ?_
  unfold S.law28_TreeCleans
  refine (awake_ok E).mono ?_
  clear E
  rintro r w_ ⟨rfl, D', -, E⟩
  (repeat with_reducible first | refine Stp.go ?_ | refine StpE.go E ?_)
  (intro J4 hJ4)
  have fin4 : ∀ b w_, (b = false → path.size ≤ 1200 ∧ xs.length ≤ 20) → Hs w0 F w_ (Pool D' :: l) → J4 [.bool b] w_ := by
    intro b w_ hb E
    (repeat with_reducible first | refine Stp.go ?_ | refine StpE.go E ?_)
    cases b with
    | true => (repeat with_reducible first | refine Stp.go ?_ | refine StpE.go E ?_ | (apply hJ4; intro u_) | (apply hJ18; intro u_) | (apply hJ40; intro u_)); exact ⟨rfl, _, E⟩
    | false =>
      obtain ⟨hp1, hx1⟩ := hb rfl
      (repeat with_reducible first | refine Stp.go ?_ | refine StpE.go E ?_ | (apply hJ4; intro u_) | (apply hJ18; intro u_) | (apply hJ40; intro u_))
      refine (Clean_ok (by omega) E).mono ?_
      clear E
      rintro r w_ ⟨rfl, E⟩
      refine (Split_ok E).mono ?_
      clear E
      rintro r w_ ⟨v1, rfl, E⟩
      (repeat with_reducible first | refine Stp.go ?_ | refine StpE.go E ?_)
      refine (rSplit_ok (by omega) E).mono ?_
      clear E
      rintro r w_ ⟨v2, rfl, E⟩
      (repeat with_reducible first | refine Stp.go ?_ | refine StpE.go E ?_)
      (intro J18 hJ18)
      have fin18 : ∀ w_, Hs w0 F w_ (Pool D' :: l) → J18 [.bool false] w_ := by
        intro w_ E
        (repeat with_reducible first | refine Stp.go ?_ | refine StpE.go E ?_ | (apply hJ4; intro u_) | (apply hJ18; intro u_) | (apply hJ40; intro u_))
        refine (played_ok (owner := ann) (gin_nil _ rfl) (by simp) (fun g h => by cases h) (by
          intro s hs
          have : s = ann := by simpa [gwords] using hs
          rw [this]; decide) hok (by omega) (hr _) E).mono ?_
        clear E
        rintro r w_ (⟨hc, -, -⟩ | ⟨-, D2, X, β, rfl, hD2, h, hi, hl, E⟩)
        · exact absurd checkG_ann hc
        (repeat with_reducible first | refine Stp.go ?_ | refine StpE.go E ?_)
        refine Eq.ef u_p_tree rfl ?_
        (repeat with_reducible first | refine Stp.go ?_ | refine StpE.go E ?_ | (apply hJ4; intro u_) | (apply hJ18; intro u_) | (apply hJ40; intro u_))
        refine (Find_ok h hi E).mono ?_
        clear E
        rintro r w_ ⟨rfl, E⟩
        (repeat first | (with_reducible first | refine Stp.go ?_ | refine StpE.go E ?_ | (refine StpW.go E ?_; clear E; intro w_ E) | (refine StpA.go E ?_; clear E; intro b_ w_ hb_ E) | (apply hJ4; intro u_) | (apply hJ18; intro u_) | (apply hJ40; intro u_) | refine LnL.nil ?_) | ((with_reducible refine Bi.dec true ?_ ?_); focus exact rfl) | ((with_reducible refine Bi.dec false ?_ ?_); focus exact rfl) | ((with_reducible refine Bi.sdec true ?_ ?_); focus decide) | ((with_reducible refine Bi.sdec false ?_ ?_); focus decide))
        (revert b_; intro qa hbqa E)
        (repeat first | (with_reducible first | refine Stp.go ?_ | refine StpE.go E ?_ | (refine StpW.go E ?_; clear E; intro w_ E) | (refine StpA.go E ?_; clear E; intro b_ w_ hb_ E) | (apply hJ4; intro u_) | (apply hJ18; intro u_) | (apply hJ40; intro u_) | refine LnL.nil ?_) | ((with_reducible refine Bi.dec true ?_ ?_); focus exact rfl) | ((with_reducible refine Bi.dec false ?_ ?_); focus exact rfl) | ((with_reducible refine Bi.sdec true ?_ ?_); focus decide) | ((with_reducible refine Bi.sdec false ?_ ?_); focus decide))
        (replace E := E.bIx 1)
        refine (Find_ok h hi E).mono ?_
        clear E
        rintro r w_ ⟨rfl, E⟩
        (repeat first | (with_reducible first | refine Stp.go ?_ | refine StpE.go E ?_ | (refine StpW.go E ?_; clear E; intro w_ E) | (refine StpA.go E ?_; clear E; intro b_ w_ hb_ E) | (apply hJ4; intro u_) | (apply hJ18; intro u_) | (apply hJ40; intro u_) | refine LnL.nil ?_) | ((with_reducible refine Bi.dec true ?_ ?_); focus exact rfl) | ((with_reducible refine Bi.dec false ?_ ?_); focus exact rfl) | ((with_reducible refine Bi.sdec true ?_ ?_); focus decide) | ((with_reducible refine Bi.sdec false ?_ ?_); focus decide))
        (revert b_; intro qb hbqb E)
        (repeat with_reducible first | refine Stp.go ?_ | refine StpE.go E ?_ | (apply hJ4; intro u_) | (apply hJ18; intro u_) | (apply hJ40; intro u_))
        (intro J40 hJ40)
        have fin40 : ∀ w_, (∃ l', Hs w0 F w_ l') → J40 [.bool true] w_ := by
          intro w_ E
          (repeat first | (with_reducible first | refine Stp.go ?_ | refine StpE.go E ?_ | (refine StpW.go E ?_; clear E; intro w_ E) | (refine StpA.go E ?_; clear E; intro b_ w_ hb_ E) | (apply hJ4; intro u_) | (apply hJ18; intro u_) | (apply hJ40; intro u_) | refine LnL.nil ?_) | ((with_reducible refine Bi.dec true ?_ ?_); focus exact rfl) | ((with_reducible refine Bi.dec false ?_ ?_); focus exact rfl) | ((with_reducible refine Bi.sdec true ?_ ?_); focus decide) | ((with_reducible refine Bi.sdec false ?_ ?_); focus decide))
          exact ⟨rfl, E⟩
        clear hJ40
        (repeat with_reducible first | refine Stp.go ?_ | refine StpE.go E ?_)
        refine Bi.gtr ?_ ?_ <;> intro c1 <;> (repeat with_reducible first | refine Stp.go ?_ | refine StpE.go E ?_)
        · exact fin40 _ ⟨_, E⟩
        rw [find_clean _ (by omega)] at E ⊢
        (repeat with_reducible first | refine Stp.go ?_ | refine StpE.go E ?_)
        refine EqS.eS lv_Qid st_Qid g_Qid rfl ?_
        (repeat with_reducible first | refine Stp.go ?_ | refine StpE.go E ?_)
        refine Bi.eql ?_ ?_ <;> intro c2
        · (repeat with_reducible first | refine Stp.go ?_ | refine StpE.go E ?_)
          exact fin40 _ ⟨_, E⟩
        · exact absurd rfl c2
      clear hJ18
      refine (rClean_ok (by omega) E).mono ?_
      clear E
      rintro r w_ ⟨rfl, E⟩
      refine Bi.snF rfl ?_
      (repeat with_reducible first | refine Stp.go ?_ | refine StpE.go E ?_)
      have hcl := clean_le path
      refine (Clean_ok (by omega) E).mono ?_
      clear E
      rintro r w_ ⟨rfl, E⟩
      rw [clean_idem]
      (repeat with_reducible first | refine Stp.go ?_ | refine StpE.go E ?_)
      refine Bi.snF rfl ?_
      (repeat with_reducible first | refine Stp.go ?_ | refine StpE.go E ?_)
      refine Bi.neq (fun h => absurd rfl h) fun _ => ?_
      (repeat with_reducible first | refine Stp.go ?_ | refine StpE.go E ?_)
      have hlen : (splitP path).1.length ≤ 1000000 := by
        have h1 := elems_tot path
        have h2 := tot_len (elemsC path)
        unfold splitP
        split
        · simp
        split
        · simp
        · show (elemsC path).length ≤ _; omega
      have hr1 := RdS.by1 v1 E
      have hr2 := RdS.by1 v2 E
      rw [List.length_map] at hr1 hr2
      refine (eqStrs_ok (by omega) E hr1 hr2).mono ?_
      clear E
      rintro r w_ ⟨rfl, E⟩
      (repeat with_reducible first | refine Stp.go ?_ | refine StpE.go E ?_)
      exact fin18 _ E.tl.tl
  clear hJ4
  (repeat with_reducible first | refine Stp.go ?_ | refine StpE.go E ?_)
  refine Bi.gtr ?_ ?_ <;> intro c1 <;> (repeat with_reducible first | refine Stp.go ?_ | refine StpE.go E ?_)
  · exact fin4 _ _ (fun h => by cases h) E
  refine (hr l).len ?_
  (repeat with_reducible first | refine Stp.go ?_ | refine StpE.go E ?_)
  refine Bi.gtr ?_ ?_ <;> intro c2 <;> (repeat with_reducible first | refine Stp.go ?_ | refine StpE.go E ?_)
  · exact fin4 _ _ (fun h => by cases h) E
  refine (Few_ok hxl ((hr l).cons _) E).mono ?_
  clear E
  rintro r w_ ⟨b, rfl, hb, E⟩
  (repeat with_reducible first | refine Stp.go ?_ | refine StpE.go E ?_)
  refine Un.not ?_
  (repeat with_reducible first | refine Stp.go ?_ | refine StpE.go E ?_)
  exact fin4 _ _ (fun _ => ⟨by omega, by omega⟩) E
end Go.Proofs.YtnnhmahemklnkaaGreatDoor
