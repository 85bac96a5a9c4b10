/-
  Trees: modes; handles; what is told of a file; data.
-/
import Derived.Test.YtnnhmahemklnkaaDoorTr3
import Derived.Test.YtnnhmahemklnkaaDoorSh17
namespace Go.Proofs.YtnnhmahemklnkaaDoor
open Go Go.Sh
set_option maxRecDepth 100000
set_option linter.unusedVariables false
set_option linter.unusedSimpArgs false
variable {w0 w : World} {F : Nat → Prop} {l : List As}

theorem u_sl_uint8 : PP.underlying Ty.sl_uint8 = some (.slice Ty.uint8) := by kernel_rfl
theorem u_uint8 : PP.underlying Ty.uint8 = some (.int .u8) := by kernel_rfl
theorem e_uint8 : el3 PP Ty.uint8 = some (some (.int .u8 0), 1, 1) := by kernel_rfl
theorem s_uint8 : sizeK PP Ty.uint8 = some 1 := by kernel_rfl
theorem u_sl_p_node : PP.underlying Ty.sl_p_tree_node = some (.slice Ty.p_tree_node) := by kernel_rfl
theorem e_p_node : el3 PP Ty.p_tree_node = some (some (.pointer none), 1, 8) := by kernel_rfl

theorem right_ok {m : Int} (E : Hs w0 F w l) : Ca PP Fn.tree_right #[i64 m] w fun r w' => r = .bool (rightM m) ∧ Hs w0 F w' l := by
  refine S.tree_right.calls ?_
  unfold S.tree_right
  (intro J1 hJ1)
  have fin : ∀ b w_, b = rightM m → Hs w0 F w_ l → J1 [.bool b] w_ := by
    intro b w_ hb E
    (repeat first | (with_reducible first | refine Stp.go ?_ | refine StpE.go E ?_ | (refine StpW.go E ?_; clear E; intro w_ E) | (refine StpA.go E ?_; clear E; intro b_ w_ hb_ E) | (apply hJ1; intro u_) | refine LnL.nil ?_) | ((with_reducible refine Bi.dec true ?_ ?_); focus exact rfl) | ((with_reducible refine Bi.dec false ?_ ?_); focus exact rfl) | ((with_reducible refine Bi.sdec true ?_ ?_); focus decide) | ((with_reducible refine Bi.sdec false ?_ ?_); focus decide))
    exact ⟨by rw [hb], E⟩
  clear hJ1
  (repeat first | (with_reducible first | refine Stp.go ?_ | refine StpE.go E ?_ | (refine StpW.go E ?_; clear E; intro w_ E) | (refine StpA.go E ?_; clear E; intro b_ w_ hb_ E) | (apply hJ1; intro u_) | refine LnL.nil ?_) | ((with_reducible refine Bi.dec true ?_ ?_); focus exact rfl) | ((with_reducible refine Bi.dec false ?_ ?_); focus exact rfl) | ((with_reducible refine Bi.sdec true ?_ ?_); focus decide) | ((with_reducible refine Bi.sdec false ?_ ?_); focus decide))
  refine Bi.eql ?_ ?_ <;> intro h1 <;> (repeat first | (with_reducible first | refine Stp.go ?_ | refine StpE.go E ?_ | (refine StpW.go E ?_; clear E; intro w_ E) | (refine StpA.go E ?_; clear E; intro b_ w_ hb_ E) | (apply hJ1; intro u_) | refine LnL.nil ?_) | ((with_reducible refine Bi.dec true ?_ ?_); focus exact rfl) | ((with_reducible refine Bi.dec false ?_ ?_); focus exact rfl) | ((with_reducible refine Bi.sdec true ?_ ?_); focus decide) | ((with_reducible refine Bi.sdec false ?_ ?_); focus decide))
  · refine Bi.eql ?_ ?_ <;> intro h2 <;> (repeat first | (with_reducible first | refine Stp.go ?_ | refine StpE.go E ?_ | (refine StpW.go E ?_; clear E; intro w_ E) | (refine StpA.go E ?_; clear E; intro b_ w_ hb_ E) | (apply hJ1; intro u_) | refine LnL.nil ?_) | ((with_reducible refine Bi.dec true ?_ ?_); focus exact rfl) | ((with_reducible refine Bi.dec false ?_ ?_); focus exact rfl) | ((with_reducible refine Bi.sdec true ?_ ?_); focus decide) | ((with_reducible refine Bi.sdec false ?_ ?_); focus decide))
    · exact fin _ _ (by simp [rightM, h1, h2]) E
    · refine Bi.eql ?_ ?_ <;> intro h3 <;> (repeat first | (with_reducible first | refine Stp.go ?_ | refine StpE.go E ?_ | (refine StpW.go E ?_; clear E; intro w_ E) | (refine StpA.go E ?_; clear E; intro b_ w_ hb_ E) | (apply hJ1; intro u_) | refine LnL.nil ?_) | ((with_reducible refine Bi.dec true ?_ ?_); focus exact rfl) | ((with_reducible refine Bi.dec false ?_ ?_); focus exact rfl) | ((with_reducible refine Bi.sdec true ?_ ?_); focus decide) | ((with_reducible refine Bi.sdec false ?_ ?_); focus decide))
      · exact fin _ _ (by simp [rightM, h1, h2, h3]) E
      · exact fin _ _ (by simp [rightM, h1, h2, h3]) E
  · exact fin _ _ (by simp [rightM, h1]) E

theorem room_ok {t : Nat} {X : PT} {r1 r2 : List As} [h1 : FPt l t (oc X.cs Ty.tree_Tree) r1] [h2 : FMp l X.om (.int .i64) X.oM r2] (E : Hs w0 F w l) :
    Ca PP Fn.tree_Tree_room #[ptr t] w fun r w' => r = .bool (decide (X.ol.length < 64)) ∧ Hs w0 F w' l := by
  refine S.tree_Tree_room.calls ?_
  unfold S.tree_Tree_room
  (repeat first | (with_reducible first | refine Stp.go ?_ | refine StpE.go E ?_ | (refine StpW.go E ?_; clear E; intro w_ E) | (refine StpA.go E ?_; clear E; intro b_ w_ hb_ E) | refine LnL.nil ?_) | ((with_reducible refine Bi.dec true ?_ ?_); focus exact rfl) | ((with_reducible refine Bi.dec false ?_ ?_); focus exact rfl) | ((with_reducible refine Bi.sdec true ?_ ?_); focus decide) | ((with_reducible refine Bi.sdec false ?_ ?_); focus decide))
  refine Len.map E FMp.mem u_mopen ?_
  rw [encM_length]
  refine Bi.lss ?_ ?_ <;> intro h
  · exact ⟨by rw [decide_eq_true (by omega)], E⟩
  · exact ⟨by rw [decide_eq_false (by omega)], E⟩

/-- An open file is found. -/
def openedV : Option HV → Value
  | some x => .tuple #[x.V, i64 0]
  | none => .tuple #[h0V, i64 19]
theorem opened_ok {t : Nat} {X : PT} {h : Int} {r1 r2 : List As} [h1 : FPt l t (oc X.cs Ty.tree_Tree) r1] [h2 : FMp l X.om (.int .i64) X.oM r2] (E : Hs w0 F w l) :
    Ca PP Fn.tree_Tree_opened #[ptr t, i64 h] w fun r w' => r = openedV (getL X.ol h) ∧ Hs w0 F w' l := by
  refine S.tree_Tree_opened.calls ?_
  unfold S.tree_Tree_opened
  (repeat first | (with_reducible first | refine Stp.go ?_ | refine StpE.go E ?_ | (refine StpW.go E ?_; clear E; intro w_ E) | (refine StpA.go E ?_; clear E; intro b_ w_ hb_ E) | refine LnL.nil ?_) | ((with_reducible refine Bi.dec true ?_ ?_); focus exact rfl) | ((with_reducible refine Bi.dec false ?_ ?_); focus exact rfl) | ((with_reducible refine Bi.sdec true ?_ ?_); focus decide) | ((with_reducible refine Bi.sdec false ?_ ?_); focus decide))
  refine Eq.ef u_p_tree rfl ?_
  (repeat first | (with_reducible first | refine Stp.go ?_ | refine StpE.go E ?_ | (refine StpW.go E ?_; clear E; intro w_ E) | (refine StpA.go E ?_; clear E; intro b_ w_ hb_ E) | refine LnL.nil ?_) | ((with_reducible refine Bi.dec true ?_ ?_); focus exact rfl) | ((with_reducible refine Bi.dec false ?_ ?_); focus exact rfl) | ((with_reducible refine Bi.sdec true ?_ ?_); focus decide) | ((with_reducible refine Bi.sdec false ?_ ?_); focus decide))
  refine Lk.ok E FMp.mem u_mopen k_int z_handle rfl ?_
  rw [aget_enc (keyI .i64)]
  cases getL X.ol h with
  | none =>
    simp only [Option.map_none, Option.getD_none, Option.isSome_none]
    (repeat first | (with_reducible first | refine Stp.go ?_ | refine StpE.go E ?_ | (refine StpW.go E ?_; clear E; intro w_ E) | (refine StpA.go E ?_; clear E; intro b_ w_ hb_ E) | refine LnL.nil ?_) | ((with_reducible refine Bi.dec true ?_ ?_); focus exact rfl) | ((with_reducible refine Bi.dec false ?_ ?_); focus exact rfl) | ((with_reducible refine Bi.sdec true ?_ ?_); focus decide) | ((with_reducible refine Bi.sdec false ?_ ?_); focus decide))
    exact ⟨rfl, (E.tl).tl⟩
  | some x =>
    simp only [Option.map_some, Option.getD_some, Option.isSome_some]
    (repeat first | (with_reducible first | refine Stp.go ?_ | refine StpE.go E ?_ | (refine StpW.go E ?_; clear E; intro w_ E) | (refine StpA.go E ?_; clear E; intro b_ w_ hb_ E) | refine LnL.nil ?_) | ((with_reducible refine Bi.dec true ?_ ?_); focus exact rfl) | ((with_reducible refine Bi.dec false ?_ ?_); focus exact rfl) | ((with_reducible refine Bi.sdec true ?_ ?_); focus decide) | ((with_reducible refine Bi.sdec false ?_ ?_); focus decide))
    exact ⟨rfl, (E.tl).tl⟩
theorem opened_nil {h : Int} (E : Hs w0 F w l) : Ca PP Fn.tree_Tree_opened #[.pointer none, i64 h] w fun r w' => r = .tuple #[h0V, i64 6] ∧ Hs w0 F w' l := by
  refine S.tree_Tree_opened.calls ?_
  unfold S.tree_Tree_opened
  (repeat first | (with_reducible first | refine Stp.go ?_ | refine StpE.go E ?_ | (refine StpW.go E ?_; clear E; intro w_ E) | (refine StpA.go E ?_; clear E; intro b_ w_ hb_ E) | refine LnL.nil ?_) | ((with_reducible refine Bi.dec true ?_ ?_); focus exact rfl) | ((with_reducible refine Bi.dec false ?_ ?_); focus exact rfl) | ((with_reducible refine Bi.sdec true ?_ ?_); focus decide) | ((with_reducible refine Bi.sdec false ?_ ?_); focus decide))
  refine Eq.et u_p_tree rfl ?_
  (repeat first | (with_reducible first | refine Stp.go ?_ | refine StpE.go E ?_ | (refine StpW.go E ?_; clear E; intro w_ E) | (refine StpA.go E ?_; clear E; intro b_ w_ hb_ E) | refine LnL.nil ?_) | ((with_reducible refine Bi.dec true ?_ ?_); focus exact rfl) | ((with_reducible refine Bi.dec false ?_ ?_); focus exact rfl) | ((with_reducible refine Bi.sdec true ?_ ?_); focus decide) | ((with_reducible refine Bi.sdec false ?_ ?_); focus decide))
  exact ⟨rfl, E.tl⟩

/-- The first number from 1 on that is none of some keys. -/
structure Free1 (ks : List Int) (h : Int) : Prop where
  pos : 1 ≤ h
  le : h ≤ ks.length + 1
  out : h ∉ ks
  all : ∀ k, 1 ≤ k → k < h → k ∈ ks
theorem all_le {ks : List Int} {h : Nat} (H : ∀ k : Int, 1 ≤ k → k < h + 1 → k ∈ ks) : h ≤ ks.length := by
  have key : ∀ (h : Nat) (ks : List Int), (∀ k : Int, 1 ≤ k → k < h + 1 → k ∈ ks) → h ≤ ks.length := by
    intro h
    induction h with
    | zero => intro ks _; exact Nat.zero_le _
    | succ h ih =>
      intro ks H
      have hm : ((h + 1 : Nat) : Int) ∈ ks := H _ (by omega) (by omega)
      have := ih (ks.erase ((h + 1 : Nat) : Int)) fun k h1 h2 => (List.mem_erase_of_ne (by omega)).2 (H k h1 (by omega))
      rw [List.length_erase_of_mem hm] at this
      have := List.length_pos_of_mem hm
      omega
  exact key h ks H

theorem handle_ok {X : PT} {b : Nat} {m : MN} {mode : Int} {user : BA} (hl : X.ol.length < 1000) (E : Hs w0 F w (tb X :: mp X.om (.int .i64) X.oM :: nd b m :: l)) :
    Ca PP Fn.tree_Tree_handle #[ptr X.t, ptr b, i64 mode, str user] w fun r w' => ∃ h : Int, Free1 (X.ol.map (·.1)) h ∧ r = .tuple #[i64 h, (⟨m.kind, m.vers, m.path⟩ : Qd).V, i64 0] ∧
      Hs w0 F w' (tb X :: mp X.om (.int .i64) (encM i64 HV.V (putL X.ol h ⟨b, mode, user⟩)) :: nd b m :: l) := by
  refine S.tree_Tree_handle.calls ?_
  unfold S.tree_Tree_handle
  (repeat first | (with_reducible first | refine Stp.go ?_ | refine StpE.go E ?_ | (refine StpW.go E ?_; clear E; intro w_ E) | (refine StpA.go E ?_; clear E; intro b_ w_ hb_ E) | refine LnL.nil ?_) | ((with_reducible refine Bi.dec true ?_ ?_); focus exact rfl) | ((with_reducible refine Bi.dec false ?_ ?_); focus exact rfl) | ((with_reducible refine Bi.sdec true ?_ ?_); focus decide) | ((with_reducible refine Bi.sdec false ?_ ?_); focus decide))
  (revert b_; intro q hbq E)
  refine ⟨fun l1 w1 => ∃ i : Nat, l1 = [i64 (i + 1)] ∧ (∀ k : Int, 1 ≤ k → k < i + 1 → k ∈ X.ol.map (·.1)) ∧ Hs w0 F w1 (pt q (oc [i64 0, i64 0, i64 0] Ty.api_Qid) :: tb X :: mp X.om (.int .i64) X.oM :: nd b m :: l), fun l1 _ => match l1 with | [.int _ i] => X.ol.length + 2 - i.toNat | _ => 0,
    ⟨0, rfl, fun k h1 h2 => by omega, E⟩, ?_⟩
  clear E
  rintro t u w1 ⟨i, h1, hi, E⟩
  cases h1
  have hle := all_le hi
  rw [List.length_map] at hle
  (repeat first | (with_reducible first | refine Stp.go ?_ | refine StpE.go E ?_ | (refine StpW.go E ?_; clear E; intro w_ E) | (refine StpA.go E ?_; clear E; intro b_ w_ hb_ E) | refine LnL.nil ?_) | ((with_reducible refine Bi.dec true ?_ ?_); focus exact rfl) | ((with_reducible refine Bi.dec false ?_ ?_); focus exact rfl) | ((with_reducible refine Bi.sdec true ?_ ?_); focus decide) | ((with_reducible refine Bi.sdec false ?_ ?_); focus decide))
  refine Lk.one E FMp.mem u_mopen k_int z_handle rfl ?_
  rw [aget_enc (keyI .i64)]
  cases hg : getL X.ol (i + 1) with
  | some x =>
    simp only [Option.map_some, Option.getD_some]
    (repeat first | (with_reducible first | refine Stp.go ?_ | refine StpE.go E ?_ | (refine StpW.go E ?_; clear E; intro w_ E) | (refine StpA.go E ?_; clear E; intro b_ w_ hb_ E) | refine LnL.nil ?_) | ((with_reducible refine Bi.dec true ?_ ?_); focus exact rfl) | ((with_reducible refine Bi.dec false ?_ ?_); focus exact rfl) | ((with_reducible refine Bi.sdec true ?_ ?_); focus decide) | ((with_reducible refine Bi.sdec false ?_ ?_); focus decide))
    refine Eq.nt u_p_node rfl ?_
    (repeat first | (with_reducible first | refine Stp.go ?_ | refine StpE.go E ?_ | (refine StpW.go E ?_; clear E; intro w_ E) | (refine StpA.go E ?_; clear E; intro b_ w_ hb_ E) | refine LnL.nil ?_) | ((with_reducible refine Bi.dec true ?_ ?_); focus exact rfl) | ((with_reducible refine Bi.dec false ?_ ?_); focus exact rfl) | ((with_reducible refine Bi.sdec true ?_ ?_); focus decide) | ((with_reducible refine Bi.sdec false ?_ ?_); focus decide))
    refine Bi.add (by omega) ?_
    have hm : ((i : Int) + 1) ∈ X.ol.map (·.1) := Classical.byContradiction fun hn => by rw [getL_none.2 hn] at hg; cases hg
    have hi' : ∀ k : Int, 1 ≤ k → k < i + 1 + 1 → k ∈ X.ol.map (·.1) := fun k h1 h2 => by
      by_cases hk : k = i + 1
      · rw [hk]; exact hm
      · exact hi k h1 (by omega)
    have hle' := all_le (ks := X.ol.map (·.1)) (h := i + 1) (fun k h1 h2 => hi' k h1 (by omega))
    rw [List.length_map] at hle'
    exact ⟨⟨i + 1, by simp, fun k h1 h2 => hi' k h1 (by omega), E⟩, by simp only []; omega⟩
  | none =>
    simp only [Option.map_none, Option.getD_none]
    (repeat first | (with_reducible first | refine Stp.go ?_ | refine StpE.go E ?_ | (refine StpW.go E ?_; clear E; intro w_ E) | (refine StpA.go E ?_; clear E; intro b_ w_ hb_ E) | refine LnL.nil ?_) | ((with_reducible refine Bi.dec true ?_ ?_); focus exact rfl) | ((with_reducible refine Bi.dec false ?_ ?_); focus exact rfl) | ((with_reducible refine Bi.sdec true ?_ ?_); focus decide) | ((with_reducible refine Bi.sdec false ?_ ?_); focus decide))
    refine Eq.nf u_p_node rfl ?_
    (repeat first | (with_reducible first | refine Stp.go ?_ | refine StpE.go E ?_ | (refine StpW.go E ?_; clear E; intro w_ E) | (refine StpA.go E ?_; clear E; intro b_ w_ hb_ E) | refine LnL.nil ?_) | ((with_reducible refine Bi.dec true ?_ ?_); focus exact rfl) | ((with_reducible refine Bi.dec false ?_ ?_); focus exact rfl) | ((with_reducible refine Bi.sdec true ?_ ?_); focus decide) | ((with_reducible refine Bi.sdec false ?_ ?_); focus decide))
    refine Mu.by E u_mopen k_int rfl ?_
    clear E
    intro w_ E
    have he : aput X.oM (i64 (i + 1)) (HV.V ⟨b, mode, user⟩) = encM i64 HV.V (putL X.ol (i + 1) ⟨b, mode, user⟩) := aput_enc (keyI .i64) _ _ _
    replace E : Hs w0 F w_ (pt q (oc [i64 0, i64 0, i64 0] Ty.api_Qid) :: tb X :: mp X.om (.int .i64) (encM i64 HV.V (putL X.ol (i + 1) ⟨b, mode, user⟩)) :: nd b m :: l) := by rw [← he]; exact E
    (repeat first | (with_reducible first | refine Stp.go ?_ | refine StpE.go E ?_ | (refine StpW.go E ?_; clear E; intro w_ E) | (refine StpA.go E ?_; clear E; intro b_ w_ hb_ E) | refine LnL.nil ?_) | ((with_reducible refine Bi.dec true ?_ ?_); focus exact rfl) | ((with_reducible refine Bi.dec false ?_ ?_); focus exact rfl) | ((with_reducible refine Bi.sdec true ?_ ?_); focus decide) | ((with_reducible refine Bi.sdec false ?_ ?_); focus decide))
    exact ⟨i + 1, ⟨by omega, by rw [List.length_map]; omega, getL_none.1 hg, hi⟩, rfl, E.tl⟩

theorem stat_ok {b : Nat} {m : MN} {n : Nat} {xs : List Value} (E : Hs w0 F w (nd b m :: l)) (hd : RdS w0 F l 1 n m.dv xs) :
    Ca PP Fn.tree_node_stat #[ptr b] w fun r w' => r = (⟨m.kind, m.vers, m.path, m.mode, m.time, n, m.name, m.owner, m.group, m.last⟩ : Dr).V ∧ Hs w0 F w' (nd b m :: l) := by
  refine S.tree_node_stat.calls ?_
  unfold S.tree_node_stat
  (repeat first | (with_reducible first | refine Stp.go ?_ | refine StpE.go E ?_ | (refine StpW.go E ?_; clear E; intro w_ E) | (refine StpA.go E ?_; clear E; intro b_ w_ hb_ E) | refine LnL.nil ?_) | ((with_reducible refine Bi.dec true ?_ ?_); focus exact rfl) | ((with_reducible refine Bi.dec false ?_ ?_); focus exact rfl) | ((with_reducible refine Bi.sdec true ?_ ?_); focus decide) | ((with_reducible refine Bi.sdec false ?_ ?_); focus decide))
  refine hd.len ?_
  (repeat first | (with_reducible first | refine Stp.go ?_ | refine StpE.go E ?_ | (refine StpW.go E ?_; clear E; intro w_ E) | (refine StpA.go E ?_; clear E; intro b_ w_ hb_ E) | refine LnL.nil ?_) | ((with_reducible refine Bi.dec true ?_ ?_); focus exact rfl) | ((with_reducible refine Bi.dec false ?_ ?_); focus exact rfl) | ((with_reducible refine Bi.sdec true ?_ ?_); focus decide) | ((with_reducible refine Bi.sdec false ?_ ?_); focus decide))
  exact ⟨rfl, E.tl.tl⟩

theorem resize_ok {b : Nat} {m : MN} {n : Nat} {xs : List Value} {k : Nat} (hk : k ≤ 4000000) (hxs : xs.all scalV = true) (E : Hs w0 F w (nd b m :: l)) (hd : RdS w0 F l 1 n m.dv xs) :
    Ca PP Fn.tree_node_resize #[ptr b, i64 k] w fun r w' => ∃ q, Hs w0 F w' (nd b { m with dv := .slice (some ⟨q, 0, none⟩) k k } :: pt q (oc (xs.take k ++ List.replicate (k - n) (.int .u8 0)) Ty.uint8) :: l) := by
  refine S.tree_node_resize.calls ?_
  unfold S.tree_node_resize
  refine MkS.pt E u_sl_uint8 e_uint8 rfl (by omega) (by omega) ?_
  clear E
  intro q w_ hq E
  (repeat first | (with_reducible first | refine Stp.go ?_ | refine StpE.go E ?_ | (refine StpW.go E ?_; clear E; intro w_ E) | (refine StpA.go E ?_; clear E; intro b_ w_ hb_ E) | refine LnL.nil ?_) | ((with_reducible refine Bi.dec true ?_ ?_); focus exact rfl) | ((with_reducible refine Bi.dec false ?_ ?_); focus exact rfl) | ((with_reducible refine Bi.sdec true ?_ ?_); focus decide) | ((with_reducible refine Bi.sdec false ?_ ?_); focus decide))
  have hx : xs.length = n := by obtain ⟨_, _, _, _, h, _⟩ := hd; simpa using h
  have hd2 := (hd.cons (nd b m)).cons (pt q (oc (List.replicate k (.int .u8 0)) Ty.uint8))
  refine Cpy.pt E u_sl_uint8 s_uint8 (hd2.lenOf _) rfl (hd2.first E (Nat.min_le_left _ _)) (by simp; omega) (by simp; omega) (by
    rw [List.all_eq_true] at hxs ⊢; exact fun x hx => hxs x (List.mem_of_mem_take hx)) ?_
  clear E
  intro w_ E
  (repeat first | (with_reducible first | refine Stp.go ?_ | refine StpE.go E ?_ | (refine StpW.go E ?_; clear E; intro w_ E) | (refine StpA.go E ?_; clear E; intro b_ w_ hb_ E) | refine LnL.nil ?_) | ((with_reducible refine Bi.dec true ?_ ?_); focus exact rfl) | ((with_reducible refine Bi.dec false ?_ ?_); focus exact rfl) | ((with_reducible refine Bi.sdec true ?_ ?_); focus decide) | ((with_reducible refine Bi.sdec false ?_ ?_); focus decide))
  refine ⟨q, ?_⟩
  have e : List.take 0 (List.replicate k (Value.int .u8 0)) ++ List.take (min n k) xs ++ List.drop (0 + min n k) (List.replicate k (Value.int .u8 0)) = xs.take k ++ List.replicate (k - n) (.int .u8 0) := by
    rw [List.take_zero, List.nil_append, Nat.zero_add, List.drop_replicate]
    congr 1
    · by_cases h : n ≤ k
      · rw [Nat.min_eq_left h, List.take_of_length_le (by omega), List.take_of_length_le (by omega)]
      · rw [Nat.min_eq_right (by omega)]
    · congr 1; omega
  rw [e] at E
  exact E.bIx 1
end Go.Proofs.YtnnhmahemklnkaaDoor
