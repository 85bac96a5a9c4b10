/-
  Trees: the whole of a tree in memory; members, permissions, changes, finding.
-/
import Derived.Test.YtnnhmahemklnkaaDoorTs1
namespace Go.Proofs.YtnnhmahemklnkaaDoor
open Go Go.Sh
set_option maxRecDepth 100000
set_option linter.unusedVariables false
set_option linter.unusedSimpArgs false
variable {w0 w : World} {F : Nat → Prop} {l : List As}

theorem u_p_tree : PP.underlying Ty.p_tree_Tree = some (.pointer Ty.tree_Tree) := by kernel_rfl
theorem u_p_node : PP.underlying Ty.p_tree_node = some (.pointer Ty.tree_node) := by kernel_rfl
theorem n_node : sizeK PP Ty.tree_node = some 14 := by kernel_rfl
theorem u_mfiles : PP.underlying Ty.map_int64_p_tree_node = some (.map Ty.int64 Ty.p_tree_node) := by kernel_rfl
theorem u_mopen : PP.underlying Ty.map_int_tree_handle = some (.map Ty.int Ty.tree_handle) := by kernel_rfl
theorem u_mgroups : PP.underlying Ty.map_string_sl_string = some (.map Ty.string Ty.sl_string) := by kernel_rfl
theorem u_mkids : PP.underlying Ty.map_string_p_tree_node = some (.map Ty.string Ty.p_tree_node) := by kernel_rfl
theorem z_p_node : zeroK PP Ty.p_tree_node = some (.pointer none) := by kernel_rfl
theorem z_sl_string : zeroK PP Ty.sl_string = some (.slice none 0 0) := by kernel_rfl
abbrev h0V : Value := .agg #[.pointer none, i64 0, str ⟨#[]⟩]
theorem z_handle : zeroK PP Ty.tree_handle = some h0V := by kernel_rfl

/-- A file in memory. -/
structure PN where
  f : Nd
  blk : Nat
  ln : Int
  dv : Value
  kb : Nat
  kl : List (BA × Nat)
  ub : Option Nat
abbrev PN.mn (n : PN) : MN := ⟨kindOf n.f.mode, n.f.vers, n.f.path, n.f.mode, n.f.time, n.ln, n.f.name, n.f.owner, n.f.group, n.f.last, n.dv, if n.f.dir then some n.kb else none, n.ub, false⟩
abbrev PN.kM (n : PN) : AL := encM Value.string ptr n.kl
/-- The map of a directory. -/
def KM (n : PN) : As := star (if n.f.dir then [mp n.kb .str n.kM] else [])
def PN.as (n : PN) : As := star [nd n.blk n.mn, KM n]
def NT (ps : List PN) : As := star (ps.map PN.as)
theorem Hs.openN {ps rs : List PN} {n : PN} (E : Hs w0 F w (NT ps :: l)) (hp : ps.Perm (n :: rs)) : Hs w0 F w (nd n.blk n.mn :: KM n :: NT rs :: l) := by
  have E1 := Hs.starPerm (hp.map PN.as) E
  have E2 : Hs w0 F w (PN.as n :: NT rs :: l) := by
    have E3 : Hs w0 F w (PN.as n :: (rs.map PN.as ++ l)) := E1.unstar
    have E4 : Hs w0 F w (rs.map PN.as ++ (PN.as n :: l)) := E3.perm List.perm_middle.symm
    exact E4.star.perm (List.Perm.swap _ _ _)
  exact E2.unstar
theorem Hs.closeN {rs : List PN} (n : PN) (E : Hs w0 F w (nd n.blk n.mn :: KM n :: NT rs :: l)) : Hs w0 F w (NT (n :: rs) :: l) := by
  have E2 : Hs w0 F w (PN.as n :: NT rs :: l) := Hs.star (ls := [nd n.blk n.mn, KM n]) E
  have E3 : Hs w0 F w (rs.map PN.as ++ (PN.as n :: l)) := (E2.perm (List.Perm.swap _ _ _)).unstar
  have E4 : Hs w0 F w ((n :: rs).map PN.as ++ l) := E3.perm List.perm_middle
  exact E4.star
theorem Hs.permN {ps rs : List PN} (E : Hs w0 F w (NT ps :: l)) (hp : ps.Perm rs) : Hs w0 F w (NT rs :: l) := Hs.starPerm (hp.map PN.as) E
theorem Hs.openK {n : PN} (hd : n.f.dir = true) (E : Hs w0 F w (KM n :: l)) : Hs w0 F w (mp n.kb .str n.kM :: l) := by
  unfold KM at E
  rw [if_pos hd] at E
  exact E.unstar
theorem Hs.closeK {n : PN} (hd : n.f.dir = true) (E : Hs w0 F w (mp n.kb .str n.kM :: l)) : Hs w0 F w (KM n :: l) := by
  unfold KM
  rw [if_pos hd]
  exact Hs.star (ls := [_]) E

/-- An open file in memory. -/
structure HV where
  blk : Nat
  mode : Int
  user : BA
abbrev HV.V (h : HV) : Value := .agg #[ptr h.blk, i64 h.mode, str h.user]
/-- A tree in memory; gone files that something still points to. -/
structure PT where
  t : Nat
  root : Nat
  fm : Nat
  gm : Nat
  om : Nat
  next : Int
  clock : Int
  ps : List PN
  ds : List (Nat × MN)
  fl : List (Int × Nat)
  gv : List (BA × Value)
  ol : List (Int × HV)
abbrev PT.cs (X : PT) : List Value := [ptr X.root, .map (some X.fm), .map (some X.gm), i64 X.next, i64 X.clock, .map (some X.om)]
abbrev tb (X : PT) : As := pt X.t (oc X.cs Ty.tree_Tree)
abbrev PT.fM (X : PT) : AL := encM i64 ptr X.fl
abbrev PT.gM (X : PT) : AL := encM Value.string id X.gv
abbrev PT.oM (X : PT) : AL := encM i64 HV.V X.ol
def DT (ds : List (Nat × MN)) : As := star (ds.map fun d => nd d.1 d.2)
def trA (X : PT) : As := star [tb X, mp X.fm (.int .i64) X.fM, mp X.gm .str X.gM, mp X.om (.int .i64) X.oM, NT X.ps, DT X.ds]
theorem Hs.openT {X : PT} (E : Hs w0 F w (trA X :: l)) : Hs w0 F w (tb X :: mp X.fm (.int .i64) X.fM :: mp X.gm .str X.gM :: mp X.om (.int .i64) X.oM :: NT X.ps :: DT X.ds :: l) := E.unstar
theorem Hs.closeT (X : PT) (E : Hs w0 F w (tb X :: mp X.fm (.int .i64) X.fM :: mp X.gm .str X.gM :: mp X.om (.int .i64) X.oM :: NT X.ps :: DT X.ds :: l)) : Hs w0 F w (trA X :: l) := Hs.star (ls := [_, _, _, _, _, _]) E

/-! ### Groups -/
/-- The groups of a tree, in memory. -/
def GTie (D : List Row) (gv : List (BA × Value)) (gs : List (BA × List BA)) : Prop :=
  ∀ g, match getL gs g with
    | some us => us.length ≤ 16 ∧ ∃ v, getL gv g = some v ∧ Rdy D Ty.string v (us.map str)
    | none => getL gv g = none
def memberG (gs : List (BA × List BA)) (user group : BA) : Bool := decide (user = group) || (match getL gs group with | some l => l.any fun x => decide (x = user) | none => false)
theorem Contains_ok {w : World} {v : Value} {xs : List ByteArray} {s : BA} (hn : xs.length ≤ 9223372036854775806) (E : Hs w0 F w l) (h : RdS w0 F l 1 xs.length v (xs.map str)) :
    Ca PP Fn.slices_Contains_sl_string_string #[v, str s] w fun r w' => r = .bool (xs.any fun x => decide (x = s)) ∧ Hs w0 F w' l := by
  refine S.slices_Contains_sl_string_string.calls ?_
  unfold S.slices_Contains_sl_string_string
  have key : Ca PP Fn.slices_Index_sl_string_string #[v, str s] w fun r w' => (∃ n : Int, r = i64 n ∧ (0 ≤ n ↔ (xs.any fun x => decide (x = s)) = true)) ∧ Hs w0 F w' l := by
    refine S.slices_Index_sl_string_string.calls ?_
    unfold S.slices_Index_sl_string_string
    refine h.len ?_
    refine ⟨fun l1 w1 => ∃ i : Nat, l1 = [i64 i] ∧ i ≤ xs.length ∧ ((xs.take i).any fun x => decide (x = s)) = false ∧ Hs w0 F w1 l, fun l1 _ => match l1 with | [.int _ i] => xs.length - i.toNat | _ => 0, ⟨0, rfl, Nat.zero_le _, rfl, E⟩, ?_⟩
    clear E
    rintro t u w1 ⟨i, h1, hi, hp, E⟩
    cases h1
    refine Bi.lss ?_ ?_ <;> intro hlt <;> (repeat first | (with_reducible first | refine Stp.go ?_ | refine StpE.go E ?_ | (refine StpW.go E ?_; clear E; intro w_ E) | (refine StpA.go E ?_; clear E; intro b_ w_ hb_ E) | refine LnL.nil ?_) | ((with_reducible refine Bi.dec true ?_ ?_); focus exact rfl) | ((with_reducible refine Bi.dec false ?_ ?_); focus exact rfl) | ((with_reducible refine Bi.sdec true ?_ ?_); focus decide) | ((with_reducible refine Bi.sdec false ?_ ?_); focus decide))
    · have hx : xs[i]? = some xs[i] := List.getElem?_eq_getElem (by omega)
      refine h.ix (by omega) (by omega) (by omega) ?_
      intro a ha
      refine ha.ld E (x := str xs[i]) (by simp [hx]) ?_
      have hany : ((xs.take (i + 1)).any fun x => decide (x = s)) = decide (xs[i] = s) := by rw [List.take_add_one, hx, List.any_append, hp]; simp
      refine Bi.seql ?_ ?_ <;> intro he
      · (repeat first | (with_reducible first | refine Stp.go ?_ | refine StpE.go E ?_ | (refine StpW.go E ?_; clear E; intro w_ E) | (refine StpA.go E ?_; clear E; intro b_ w_ hb_ E) | refine LnL.nil ?_) | ((with_reducible refine Bi.dec true ?_ ?_); focus exact rfl) | ((with_reducible refine Bi.dec false ?_ ?_); focus exact rfl) | ((with_reducible refine Bi.sdec true ?_ ?_); focus decide) | ((with_reducible refine Bi.sdec false ?_ ?_); focus decide))
        refine ⟨⟨i, rfl, ⟨fun _ => ?_, fun _ => by omega⟩⟩, E⟩
        rw [List.any_eq_true]; exact ⟨xs[i], List.getElem_mem _, by simp [he]⟩
      · (repeat first | (with_reducible first | refine Stp.go ?_ | refine StpE.go E ?_ | (refine StpW.go E ?_; clear E; intro w_ E) | (refine StpA.go E ?_; clear E; intro b_ w_ hb_ E) | refine LnL.nil ?_) | ((with_reducible refine Bi.dec true ?_ ?_); focus exact rfl) | ((with_reducible refine Bi.dec false ?_ ?_); focus exact rfl) | ((with_reducible refine Bi.sdec true ?_ ?_); focus decide) | ((with_reducible refine Bi.sdec false ?_ ?_); focus decide))
        refine Bi.add (by omega) ?_
        exact ⟨⟨i + 1, by simp, by omega, by rw [hany]; simpa using fun hc => he hc.symm, E⟩, by simp only []; omega⟩
    · have : xs.take i = xs := List.take_of_length_le (by omega)
      rw [this] at hp
      exact ⟨⟨-1, rfl, ⟨fun h => by omega, fun h => by rw [hp] at h; cases h⟩⟩, E⟩
  refine key.mono ?_
  clear E
  rintro r w_ ⟨⟨n, rfl, hn⟩, E⟩
  refine Bi.geq ?_ ?_ <;> intro h1
  · exact ⟨by rw [hn.1 h1], E⟩
  · have : (xs.any fun x => decide (x = s)) = false := by
      cases h2 : xs.any fun x => decide (x = s) with
      | false => rfl
      | true => have := hn.2 h2; omega
    exact ⟨by rw [this], E⟩
theorem member_ok {t : Nat} {X : PT} {D : List Row} {gs : List (BA × List BA)} {user group : BA} {r1 r2 : List As} [h1 : FPt l t (oc X.cs Ty.tree_Tree) r1] [h2 : FMp l X.gm .str X.gM r2] (hp : Pool D ∈ l) (hg : GTie D X.gv gs) (E : Hs w0 F w l) :
    Ca PP Fn.tree_Tree_member #[ptr t, str user, str group] w fun r w' => r = .bool (memberG gs user group) ∧ Hs w0 F w' l := by
  refine S.tree_Tree_member.calls ?_
  unfold S.tree_Tree_member
  (intro J1 hJ1)
  have fin : ∀ b w_, b = memberG gs user group → Hs w0 F w_ l → J1 [.bool b] w_ := by
    intro b w_ hb E
    (repeat first | (with_reducible first | refine Stp.go ?_ | refine StpE.go E ?_ | (refine StpW.go E ?_; clear E; intro w_ E) | (refine StpA.go E ?_; clear E; intro b_ w_ hb_ E) | refine Ld.pt E (by (repeat (first | assumption | with_reducible exact List.mem_cons_self | refine List.mem_cons_of_mem _ ?_))) rfl ?_ | (apply LdA.pt E; (focus ((repeat (first | assumption | with_reducible exact List.mem_cons_self | refine List.mem_cons_of_mem _ ?_)); done)); (focus (simp only [Nat.reduceAdd, Nat.zero_add, List.drop_succ_cons, List.drop_zero, List.take_succ_cons, List.take_zero, List.take_nil, List.drop_nil]; exact rfl)); (focus exact rfl)) | (apply hJ1; intro u_) | refine LnL.nil ?_) | ((with_reducible refine Bi.dec true ?_ ?_); focus exact rfl) | ((with_reducible refine Bi.dec false ?_ ?_); focus exact rfl) | ((with_reducible refine Bi.sdec true ?_ ?_); focus decide) | ((with_reducible refine Bi.sdec false ?_ ?_); focus decide))
    exact ⟨by rw [hb], E⟩
  clear hJ1
  refine Bi.seql ?_ ?_ <;> intro he <;> (repeat first | (with_reducible first | refine Stp.go ?_ | refine StpE.go E ?_ | (refine StpW.go E ?_; clear E; intro w_ E) | (refine StpA.go E ?_; clear E; intro b_ w_ hb_ E) | refine Ld.pt E (by (repeat (first | assumption | with_reducible exact List.mem_cons_self | refine List.mem_cons_of_mem _ ?_))) rfl ?_ | (apply LdA.pt E; (focus ((repeat (first | assumption | with_reducible exact List.mem_cons_self | refine List.mem_cons_of_mem _ ?_)); done)); (focus (simp only [Nat.reduceAdd, Nat.zero_add, List.drop_succ_cons, List.drop_zero, List.take_succ_cons, List.take_zero, List.take_nil, List.drop_nil]; exact rfl)); (focus exact rfl)) | (apply hJ1; intro u_) | refine LnL.nil ?_) | ((with_reducible refine Bi.dec true ?_ ?_); focus exact rfl) | ((with_reducible refine Bi.dec false ?_ ?_); focus exact rfl) | ((with_reducible refine Bi.sdec true ?_ ?_); focus decide) | ((with_reducible refine Bi.sdec false ?_ ?_); focus decide))
  · exact fin _ _ (by simp [memberG, he]) E
  · have hgg := hg group
    have hm := FMp.mem (h := h2)
    refine Lk.one E hm u_mgroups k_str z_sl_string rfl ?_
    rw [aget_enc keyS]
    have hmem : memberG gs user group = (match getL gs group with | some l => l.any fun x => decide (x = user) | none => false) := by simp [memberG, he]
    cases hq : getL gs group with
    | none =>
      rw [hq] at hgg hmem
      simp only [] at hgg
      rw [hgg]
      (repeat first | (with_reducible first | refine Stp.go ?_ | refine StpE.go E ?_ | (refine StpW.go E ?_; clear E; intro w_ E) | (refine StpA.go E ?_; clear E; intro b_ w_ hb_ E) | refine Ld.pt E (by (repeat (first | assumption | with_reducible exact List.mem_cons_self | refine List.mem_cons_of_mem _ ?_))) rfl ?_ | (apply LdA.pt E; (focus ((repeat (first | assumption | with_reducible exact List.mem_cons_self | refine List.mem_cons_of_mem _ ?_)); done)); (focus (simp only [Nat.reduceAdd, Nat.zero_add, List.drop_succ_cons, List.drop_zero, List.take_succ_cons, List.take_zero, List.take_nil, List.drop_nil]; exact rfl)); (focus exact rfl)) | (apply hJ1; intro u_) | refine LnL.nil ?_) | ((with_reducible refine Bi.dec true ?_ ?_); focus exact rfl) | ((with_reducible refine Bi.dec false ?_ ?_); focus exact rfl) | ((with_reducible refine Bi.sdec true ?_ ?_); focus decide) | ((with_reducible refine Bi.sdec false ?_ ?_); focus decide))
      refine (Contains_ok (xs := []) (by simp) E ⟨none, 0, rfl, Nat.le_refl _, rfl, .inl rfl⟩).mono ?_
      clear E
      rintro r w_ ⟨rfl, E⟩
      (repeat first | (with_reducible first | refine Stp.go ?_ | refine StpE.go E ?_ | (refine StpW.go E ?_; clear E; intro w_ E) | (refine StpA.go E ?_; clear E; intro b_ w_ hb_ E) | refine Ld.pt E (by (repeat (first | assumption | with_reducible exact List.mem_cons_self | refine List.mem_cons_of_mem _ ?_))) rfl ?_ | (apply LdA.pt E; (focus ((repeat (first | assumption | with_reducible exact List.mem_cons_self | refine List.mem_cons_of_mem _ ?_)); done)); (focus (simp only [Nat.reduceAdd, Nat.zero_add, List.drop_succ_cons, List.drop_zero, List.take_succ_cons, List.take_zero, List.take_nil, List.drop_nil]; exact rfl)); (focus exact rfl)) | (apply hJ1; intro u_) | refine LnL.nil ?_) | ((with_reducible refine Bi.dec true ?_ ?_); focus exact rfl) | ((with_reducible refine Bi.dec false ?_ ?_); focus exact rfl) | ((with_reducible refine Bi.sdec true ?_ ?_); focus decide) | ((with_reducible refine Bi.sdec false ?_ ?_); focus decide))
      exact fin _ _ (by rw [hmem]; rfl) E
    | some us =>
      rw [hq] at hgg hmem
      obtain ⟨h16, v, hv, hr⟩ := hgg
      rw [hv]
      (repeat first | (with_reducible first | refine Stp.go ?_ | refine StpE.go E ?_ | (refine StpW.go E ?_; clear E; intro w_ E) | (refine StpA.go E ?_; clear E; intro b_ w_ hb_ E) | refine Ld.pt E (by (repeat (first | assumption | with_reducible exact List.mem_cons_self | refine List.mem_cons_of_mem _ ?_))) rfl ?_ | (apply LdA.pt E; (focus ((repeat (first | assumption | with_reducible exact List.mem_cons_self | refine List.mem_cons_of_mem _ ?_)); done)); (focus (simp only [Nat.reduceAdd, Nat.zero_add, List.drop_succ_cons, List.drop_zero, List.take_succ_cons, List.take_zero, List.take_nil, List.drop_nil]; exact rfl)); (focus exact rfl)) | (apply hJ1; intro u_) | refine LnL.nil ?_) | ((with_reducible refine Bi.dec true ?_ ?_); focus exact rfl) | ((with_reducible refine Bi.dec false ?_ ?_); focus exact rfl) | ((with_reducible refine Bi.sdec true ?_ ?_); focus decide) | ((with_reducible refine Bi.sdec false ?_ ?_); focus decide))
      have hrd := hr.read E hp
      rw [List.length_map] at hrd
      refine (Contains_ok (by omega) E hrd).mono ?_
      clear E
      rintro r w_ ⟨rfl, E⟩
      (repeat first | (with_reducible first | refine Stp.go ?_ | refine StpE.go E ?_ | (refine StpW.go E ?_; clear E; intro w_ E) | (refine StpA.go E ?_; clear E; intro b_ w_ hb_ E) | refine Ld.pt E (by (repeat (first | assumption | with_reducible exact List.mem_cons_self | refine List.mem_cons_of_mem _ ?_))) rfl ?_ | (apply LdA.pt E; (focus ((repeat (first | assumption | with_reducible exact List.mem_cons_self | refine List.mem_cons_of_mem _ ?_)); done)); (focus (simp only [Nat.reduceAdd, Nat.zero_add, List.drop_succ_cons, List.drop_zero, List.take_succ_cons, List.take_zero, List.take_nil, List.drop_nil]; exact rfl)); (focus exact rfl)) | (apply hJ1; intro u_) | refine LnL.nil ?_) | ((with_reducible refine Bi.dec true ?_ ?_); focus exact rfl) | ((with_reducible refine Bi.dec false ?_ ?_); focus exact rfl) | ((with_reducible refine Bi.sdec true ?_ ?_); focus decide) | ((with_reducible refine Bi.sdec false ?_ ?_); focus decide))
      exact fin _ _ (by rw [hmem]) E
end Go.Proofs.YtnnhmahemklnkaaDoor
