/-
  Laws: whether a setting is small.
-/
import Derived.Test.YtnnhmahemklnkaaGreatDoorUd2
namespace Go.Proofs.YtnnhmahemklnkaaGreatDoor
open Go Go.Sh
set_option maxRecDepth 100000
set_option linter.unusedVariables false
set_option linter.unusedSimpArgs false
variable {w0 w : World} {F : Nat → Prop} {l : List As}

theorem small_ok {gV : Value} {gv : List (BA × Value)} {gs : Gs} {owner : BA} (hg : GIn w0 F l gV gv gs) (hb : ssz owner gs ≤ 1048576) (E : Hs w0 F w l) :
    Ca PP Fn.law28_small #[.agg #[str owner, gV]] w fun r w' => r = .bool (decide (ssz owner gs ≤ 2000)) ∧ Hs w0 F w' l := by
  refine S.law28_small.calls ?_
  unfold S.law28_small
  have hb' := hb
  unfold ssz at hb'
  refine StpA.go E ?_
  clear E
  intro q w_ hq E
  (repeat with_reducible first | refine Stp.go ?_ | refine StpE.go E ?_)
  refine hg.rd.len ?_
  refine Bi.add (by omega) ?_
  (repeat with_reducible first | refine Stp.go ?_ | refine StpE.go E ?_)
  refine hg.rd.len ?_
  refine ⟨fun l1 w1 => ∃ (i : Nat) (n : Int), l1 = [i64 n, i64 i] ∧ i ≤ gs.length ∧ n = ((owner.size + gs.length + ((gs.take i).map gsz).sum : Nat) : Int) ∧ Hs w0 F w1 (pt q (oc [str owner, gV] Ty.law28_Setting) :: l), fun l1 _ => match l1 with | [_, .int _ i] => gs.length - i.toNat | _ => 0,
    ⟨0, _, rfl, Nat.zero_le _, by simp, E⟩, ?_⟩
  clear E
  rintro t3 t18 u w1 ⟨i, n, h1, hi, hn, E⟩
  cases h1
  have htk := sum_take (f := gsz) gs i
  refine Bi.lss ?_ ?_ <;> intro hlt <;> (repeat with_reducible refine Stp.go ?_)
  · have hx : gs[i]? = some gs[i] := List.getElem?_eq_getElem (by omega)
    have hy : gv[i]? = some (gv[i]'(by rw [hg.len]; omega)) := List.getElem?_eq_getElem (by rw [hg.len]; omega)
    obtain ⟨nm, uv, hgi⟩ : ∃ nm uv, gv[i]'(by rw [hg.len]; omega) = (nm, uv) := ⟨_, _, rfl⟩
    obtain ⟨us, hus⟩ : ∃ us, gs[i] = (nm, us) := ⟨gs[i].2, by have := (hg.one i _ _ hy hx).1; rw [hgi] at this; exact Prod.ext this.symm rfl⟩
    have hu := (hg.one i _ _ hy hx).2
    rw [hgi, hus] at hu
    rw [hus] at hx
    simp only [] at hu
    have tk : gs.take (i + 1) = gs.take i ++ [(nm, us)] := by rw [List.take_add_one, hx]; rfl
    have hs1 : ((gs.take (i + 1)).map gsz).sum = ((gs.take i).map gsz).sum + (nm.size + us.length + (us.map fun (s : ByteArray) => s.size).sum) := by rw [tk]; simp [gsz]
    have htk2 := sum_take (f := gsz) gs (i + 1)
    refine (hg.rd.cons (pt q (oc [str owner, gV] Ty.law28_Setting))).ix (by omega) (by omega) (by omega) ?_
    intro a ha
    rw [Int.toNat_natCast, flat_drop, List.drop_eq_getElem_cons (by rw [hg.len]; omega), hgi, List.flatMap_cons] at ha
    have hus2 := hu
    obtain ⟨p, c, huv, -⟩ := hus2
    refine ha.lda E (m := 2) (ds := [str nm, uv]) rfl rfl (by omega) ?_
    clear ha
    subst huv
    (repeat with_reducible first | refine Stp.go ?_ | refine StpE.go E ?_ | (refine StpW.go E ?_; clear E; intro w_ E) | (refine StpA.go E ?_; clear E; intro b_ w_ hb_ E))
    (revert b_; intro g hbg E)
    skip
    refine hu.len ?_
    refine Bi.add (by omega) ?_
    refine Bi.add (by omega) ?_
    (repeat with_reducible first | refine Stp.go ?_ | refine StpE.go E ?_)
    refine hu.len ?_
    refine ⟨fun l1 w1 => ∃ (j : Nat) (m : Int), l1 = [i64 m, i64 j] ∧ j ≤ us.length ∧ m = ((owner.size + gs.length + ((gs.take i).map gsz).sum + nm.size + us.length + ((us.take j).map fun (s : ByteArray) => s.size).sum : Nat) : Int) ∧ Hs w0 F w1 (pt g (oc [str nm, .slice p us.length c] Ty.tree_Group) :: pt q (oc [str owner, gV] Ty.law28_Setting) :: l), fun l1 _ => match l1 with | [_, .int _ i] => us.length - i.toNat | _ => 0,
      ⟨0, _, rfl, Nat.zero_le _, by rw [hn, List.take_zero, List.map_nil, List.sum_nil]; omega, E⟩, ?_⟩
    clear E
    rintro t3' t34 u' w2 ⟨j, m, h1, hj, hm, E⟩
    cases h1
    have htj := sum_take (f := fun s : ByteArray => s.size) us j
    refine Bi.lss ?_ ?_ <;> intro hlt2 <;> (repeat with_reducible refine Stp.go ?_)
    · have hxu : us[j]? = some us[j] := List.getElem?_eq_getElem (by omega)
      have hs2 : ((us.take (j + 1)).map fun (s : ByteArray) => s.size).sum = ((us.take j).map fun (s : ByteArray) => s.size).sum + us[j].size := by
        rw [List.take_add_one, hxu, List.map_append, List.sum_append]
        simp
      have htj2 := sum_take (f := fun s : ByteArray => s.size) us (j + 1)
      refine ((hu.cons (pt q (oc [str owner, gV] Ty.law28_Setting))).cons (pt g (oc [str nm, .slice p us.length c] Ty.tree_Group))).ix (by omega) (by omega) (by omega) ?_
      intro a ha
      refine ha.ld E (x := str us[j]) (by rw [Int.toNat_natCast, Nat.mul_one, List.getElem?_drop, Nat.add_zero, List.getElem?_map, hxu]; rfl) ?_
      (repeat with_reducible refine Stp.go ?_)
      refine Bi.add (by omega) ?_
      refine Bi.add (by omega) ?_
      exact ⟨⟨j + 1, m + us[j].size, by simp, by omega, by omega, E⟩, by simp only []; omega⟩
    · rw [show us.take j = us from List.take_of_length_le (by omega)] at hm
      refine Bi.add (by omega) ?_
      exact ⟨⟨i + 1, m, by simp, by omega, by omega, E.tl⟩, by simp only []; omega⟩
  · rw [show gs.take i = gs from List.take_of_length_le (by omega)] at hn
    have e : n = (ssz owner gs : Int) := hn
    refine Bi.leq ?_ ?_ <;> intro h2
    · exact ⟨by rw [decide_eq_true (by omega)], E.tl⟩
    · exact ⟨by rw [decide_eq_false (by omega)], E.tl⟩
end Go.Proofs.YtnnhmahemklnkaaGreatDoor

/-
  TreeNames: the law.
-/
namespace Go.Proofs.YtnnhmahemklnkaaGreatDoor
open Go Go.Sh
set_option maxRecDepth 100000
set_option linter.unusedVariables false
set_option linter.unusedSimpArgs false
variable {w0 w : World} {F : Nat → Prop} {l : List As}

theorem RdS.pre {sz n m : Nat} {kk : IntKind} {v : Value} {xs : List Value} (h : RdS w0 F l sz n v xs) (h2 : m ≤ n) {k : Value → Prop} (hk : ∀ v', RdS w0 F l sz m v' (xs.take (m * sz)) → k v') : Sl sz v none (some (.int kk (m : Int))) k := by
  obtain ⟨p, c, rfl, hc, hl, hx⟩ := h
  refine ⟨p, n, c, 0, m, rfl, rfl, by simp [bnd], Nat.zero_le _, by omega, hk _ ?_⟩
  have hle : m * sz ≤ n * sz := Nat.mul_le_mul_right _ h2
  have e : (if c = 0 then p else p.map (·.add (0 * sz))) = p := by
    split
    · rfl
    · cases p with
      | none => rfl
      | some a => simp [Addr.add]
  refine ⟨_, _, by rw [e]; rfl, by omega, by rw [List.length_take]; omega, ?_⟩
  rcases hx with rfl | ⟨q, rfl, hq⟩
  · left; simp
  · right
    refine ⟨_, rfl, ?_⟩
    rcases hq with rfl | ⟨g, o, rfl, hq⟩
    · left; simp
    · right
      refine ⟨g, o, rfl, fun w E j x hj => ?_⟩
      rw [List.getElem?_take] at hj
      split at hj
      · exact hq w E j x hj
      · cases hj
theorem RdS.cast {sz n m : Nat} {v : Value} {xs : List Value} (h : RdS w0 F l sz n v xs) (e : n = m) : RdS w0 F l sz m v xs := e ▸ h
theorem LastIndexByte_ok {s : BA} {c : Int} (hs : s.size < 4611686018427387904) (E : Hs w0 F w l) : Ca PP Fn.strings_LastIndexByte #[str s, .int .u8 c] w fun r w' => r = i64 (Lib.lastIndexByte s c) ∧ Hs w0 F w' l := by
  refine Calls.mono (Tryz.strings_LastIndexByte s c hs w) ?_
  rintro e w' ⟨rfl, rfl⟩
  exact ⟨_, rfl, rfl, E⟩
theorem fcs_take (ds : List Fl) (i : Nat) : (fcs ds).take (i * 12) = fcs (ds.take i) := by
  induction ds generalizing i with
  | nil => simp
  | cons d r ih =>
    cases i with
    | zero => simp
    | succ i =>
      rw [fcs, List.flatMap_cons, show (i + 1) * 12 = i * 12 + 12 by omega, List.take_succ_cons]
      simp only [Fl.cs, List.cons_append, List.nil_append, List.take_succ_cons, List.flatMap_cons]
      rw [show List.flatMap Fl.cs (List.take i r) = fcs (r.take i) from rfl, ← ih i]
theorem path_size {T : Tr} (hi : Inv T) {n : Nd} (hn : n ∈ T.ns) : (T.pathS n).size ≤ 100000 := by
  have h1 := join_size (T.chain n)
  have h2 := tot_good (chain_good hi hn)
  have h3 := chain_len hi hn
  unfold Tr.pathS
  rw [ByteArray.size_append]
  have : ByteArray.size sep = 1 := rfl
  omega
theorem names1_ok {f g : Nat} {y x : Fl} {c : Int} {p : BA} (hm : pt f (oc x.cs Ty.tree_File) ∈ l) (hg : pt g (oc [i64 c] Ty.int) ∈ l) (hc : 0 ≤ if (1 : Int) > c then (1 : Int) else c) (hcs : (if (1 : Int) > c then (1 : Int) else c).toNat ≤ x.path.size)
    (hp : x.path.extract 0 (if (1 : Int) > c then (1 : Int) else c).toNat = p) (E : Hs w0 F w l) : CaV PP (.func (.func Fn.law28_TreeNames_1) #[] #[ptr f, ptr g]) #[y.V] w fun r w' => r = .bool (decide (y.path = p)) ∧ Hs w0 F w' l := by
  refine CaV.mk (by kernel_rfl) ?_
  refine S.law28_TreeNames_1.calls (a0 := y.V) (a1 := ptr f) (a2 := ptr g) ?_
  unfold S.law28_TreeNames_1
  refine StpA.go E ?_
  clear E
  intro q w_ hq E
  (repeat with_reducible first | refine Stp.go ?_ | refine StpE.go E ?_ | (refine StpW.go E ?_; clear E; intro w_ E) | refine Ld.pt E (by (repeat (first | assumption | with_reducible exact List.mem_cons_self | refine List.mem_cons_of_mem _ ?_))) rfl ?_)
  refine Mx.mk ?_
  refine SlS.pre hc hcs ?_
  rw [hp]
  refine Bi.seql ?_ ?_ <;> intro h1
  · exact ⟨by rw [decide_eq_true h1], E.tl⟩
  · exact ⟨by rw [decide_eq_false h1], E.tl⟩
theorem names2_ok {f : Nat} {y x : Fl} (hm : pt f (oc x.cs Ty.tree_File) ∈ l) (E : Hs w0 F w l) : CaV PP (.func (.func Fn.law28_TreeNames_2) #[] #[ptr f]) #[y.V] w fun r w' => r = .bool (decide (y.path = x.path) || decide (y.dir.path = x.dir.path)) ∧ Hs w0 F w' l := by
  refine CaV.mk (by kernel_rfl) ?_
  refine S.law28_TreeNames_2.calls (a0 := y.V) (a1 := ptr f) ?_
  unfold S.law28_TreeNames_2
  refine StpA.go E ?_
  clear E
  intro q w_ hq E
  skip
  (intro J3 hJ3)
  (repeat with_reducible first | refine Stp.go ?_ | refine StpE.go E ?_ | refine Ld.pt E (by (repeat (first | assumption | with_reducible exact List.mem_cons_self | refine List.mem_cons_of_mem _ ?_))) rfl ?_)
  refine Bi.seql ?_ ?_ <;> intro h1 <;> (repeat with_reducible first | refine Stp.go ?_ | refine StpE.go E ?_ | refine Ld.pt E (by (repeat (first | assumption | with_reducible exact List.mem_cons_self | refine List.mem_cons_of_mem _ ?_))) rfl ?_ | (apply hJ3; intro u_))
  · exact ⟨by rw [decide_eq_true h1]; rfl, E.tl⟩
  · refine Bi.eql ?_ ?_ <;> intro h2 <;> (repeat with_reducible first | refine Stp.go ?_ | (apply hJ3; intro u_))
    · exact ⟨by rw [decide_eq_false h1, decide_eq_true h2]; rfl, E.tl⟩
    · exact ⟨by rw [decide_eq_false h1, decide_eq_false h2]; rfl, E.tl⟩
set_option maxHeartbeats 2000000 in
theorem Names_law {D : List Row} {gV v : Value} {gv : List (BA × Value)} {gs : Gs} {owner : BA} {xs : List Ac} (hg : ∀ l, GIn w0 F l gV gv gs) (hb : ssz owner gs ≤ 1048576) (hok : ∀ x ∈ xs, x.Ok) (hxl : xs.length ≤ 9223372036854775807) (hr : ∀ l, RdS w0 F l 20 xs.length v (acs xs)) (E : Hs w0 F w (Pool D :: l)) :
    Ca PP Fn.law28_TreeNames #[.agg #[str owner, gV], v] w fun r w' => r = .bool true ∧ ∃ l', Hs w0 F w' l' := by
  refine S.law28_TreeNames.calls ?_
  unfold S.law28_TreeNames
  refine StpA.go E ?_
  clear E
  intro q w_ hq E
  (replace E := ((E.bIx 0).bIx 1))
  refine (awake_ok E).mono ?_
  clear E
  rintro r w_ ⟨rfl, D', -, E⟩
  (repeat with_reducible refine Stp.go ?_)
  (intro J6 hJ6)
  have fin6 : ∀ b w_, (b = false → ssz owner gs ≤ 2000 ∧ xs.length ≤ 40) → Hs w0 F w_ (Pool D' :: pt q (oc [str owner, gV] Ty.law28_Setting) :: l) → J6 [.bool b] w_ := by
    intro b w_ hb E
    (repeat with_reducible (apply hJ6; intro u_))
    cases b with
    | true => (repeat with_reducible refine Stp.go ?_); exact ⟨rfl, _, E⟩
    | false =>
      obtain ⟨hs1, hx1⟩ := hb rfl
      obtain ⟨-, hgl, hgu⟩ := ssz_parts hs1
      (repeat with_reducible first | refine Stp.go ?_ | refine StpE.go E ?_)
      refine (played_ok (owner := owner) (hg _) (by omega) (fun g h => by have := (hgu g h).2.1; omega) (fun s h => by have := ssz_words hs1 s h; omega) hok hx1 (hr _) E).mono ?_
      clear E
      rintro r w_ (⟨hc, rfl, E⟩ | ⟨hc, D1, X, β, rfl, hD1, h, hi, hlim, E⟩)
      · skip
        refine Eq.et u_p_tree rfl ?_
        (repeat with_reducible refine Stp.go ?_)
        exact ⟨rfl, _, E⟩
      refine Eq.ef u_p_tree rfl ?_
      (repeat with_reducible refine Stp.go ?_)
      generalize (newT owner gs).acts xs = T at h hi hlim
      replace E := (E.bIx 2).tl
      refine (Files_ok h hi E).mono ?_
      clear E
      intro fv w_ E
      skip
      have hfl := files_len hi
      obtain ⟨r0, L0, ho, hr0, hr1⟩ := order_first hi
      have r1 := RdS.sl (T := Ty.tree_File) (sz := 12) (v := fv) (xs := fcs T.files) (by simp) (by omega) E
      rw [fcs_len, Nat.mul_div_cancel _ (by omega)] at r1
      have hfo : T.files = T.fl r0 :: L0.map T.fl := by rw [files_order, ho]; rfl
      have hlp : 0 < T.files.length := by rw [hfo, List.length_cons]; omega
      (intro J16 hJ16)
      have fin16 : ∀ w_, Hs w0 F w_ (slA fv Ty.tree_File 12 (fcs T.files) :: trA X :: Pool D1 :: l) → J16 [.bool false] w_ := by
        intro w_ E
        (repeat with_reducible first | refine Stp.go ?_ | (apply hJ16; intro u_))
        refine r1.len ?_
        refine ⟨fun l1 w1 => ∃ i : Nat, l1 = [i64 i] ∧ i ≤ T.files.length ∧ Hs w0 F w1 (slA fv Ty.tree_File 12 (fcs T.files) :: trA X :: Pool D1 :: l),
          fun l1 _ => match l1 with | [.int _ i] => T.files.length - i.toNat | _ => 0, ⟨0, rfl, Nat.zero_le _, E⟩, ?_⟩
        clear E
        rintro t55 u w_ ⟨i, h4', hle, E⟩
        cases h4'
        refine Bi.lss ?_ ?_ <;> intro hlt <;> (repeat with_reducible refine Stp.go ?_)
        · have hol : T.files.length = T.order.length := by rw [files_order, List.length_map]
          have hn : T.order[i]? = some (T.order[i]'(by omega)) := List.getElem?_eq_getElem (by omega)
          generalize T.order[i]'(by omega) = n at hn
          have hf : T.files[i]? = some (T.fl n) := by rw [files_order, List.getElem?_map, hn]; rfl
          have hnT := order_mem hi (List.mem_of_getElem? hn)
          obtain ⟨hat1, hat2, hat3⟩ := order_at hi hn
          have hget : T.get n.path = some n := hi.get.2 ⟨hnT, rfl⟩
          have hst : T.stat n.path = (n.stat, 0) := by unfold Tr.stat; rw [hget]
          have hpo : T.pathOf n.path = (T.pathS n, 0) := by unfold Tr.pathOf; rw [hget]
          (intro J27 hJ27)
          have fin27 : ∀ w_, (∃ k : List As, Hs w0 F w_ (k ++ slA fv Ty.tree_File 12 (fcs T.files) :: trA X :: Pool D1 :: l)) → J27 [] w_ := by
            rintro w_ ⟨k, E⟩
            (repeat with_reducible (apply hJ27; intro u_))
            refine Bi.add (by omega) ?_
            exact ⟨⟨i + 1, by simp, by omega, E.drop (List.sublist_append_right k _)⟩, by simp only []; omega⟩
          clear hJ27
          refine r1.ix (by omega) (by omega) (by omega) ?_
          intro a ha
          rw [Int.toNat_natCast] at ha
          refine ha.lda E (fl_at hf) rfl (by omega) ?_
          (repeat with_reducible (refine StpA.go E ?_; clear E; intro b_ w_ hb_ E))
          (revert b_; intro b hbb E)
          refine StA.all (vs := (T.fl n).cs) E rfl rfl (fl_scal _) ?_
          clear E
          intro w_ E
          (repeat with_reducible first | refine Stp.go ?_ | refine StpE.go E ?_)
          (replace E := ((E.bIx 3).bIx 3))
          have S1 := Stat_ok (user := ⟨#[]⟩) (file := n.path) h hi (by simp) E
          simp only [hst] at S1
          refine S1.mono ?_
          clear E S1
          rintro r w_ ⟨rfl, E⟩
          (repeat with_reducible first | refine Stp.go ?_ | refine StpE.go E ?_ | (refine StpW.go E ?_; clear E; intro w_ E) | (refine StpA.go E ?_; clear E; intro b_ w_ hb_ E))
          (revert b_; intro c hbc E)
          skip
          (replace E := ((E.bIx 2).bIx 2))
          have S1 := Path_ok (file := n.path) h hi E
          simp only [hpo] at S1
          refine S1.mono ?_
          clear E S1
          rintro r w_ ⟨rfl, E⟩
          (repeat with_reducible first | refine Stp.go ?_ | refine StpE.go E ?_)
          have hfq := fun hs => find_path hi hnT hs
          have S1 := Find_ok (p := T.pathS n) h hi E
          generalize T.find (T.pathS n) = fq at S1 hfq
          refine S1.mono ?_
          clear E S1
          rintro r w_ ⟨rfl, E⟩
          (repeat with_reducible first | refine Stp.go ?_ | (refine StpW.go E ?_; clear E; intro w_ E) | (refine StpA.go E ?_; clear E; intro b_ w_ hb_ E))
          (revert b_; intro d hbd E)
          skip
          (intro J64 hJ64)
          have fin64 : ∀ w_, Hs w0 F w_ (pt d (oc fq.1.cs Ty.api_Qid) :: trA X :: Pool D1 :: pt c (oc n.stat.cs Ty.api_Dir) :: pt b (oc (T.fl n).cs Ty.tree_File) :: slA fv Ty.tree_File 12 (fcs T.files) :: l) → J64 [.bool false] w_ := by
            intro w_ E
            (repeat with_reducible first | refine Stp.go ?_ | (apply hJ64; intro u_))
            (intro J68 hJ68)
            have fin68 : ∀ w_, Hs w0 F w_ (pt b (oc (T.fl n).cs Ty.tree_File) :: slA fv Ty.tree_File 12 (fcs T.files) :: trA X :: Pool D1 :: l) → J68 [.bool false] w_ := by
              intro w_ E
              (repeat with_reducible first | refine Stp.go ?_ | (apply hJ68; intro u_))
              refine Bi.eql ?_ ?_ <;> intro hi0 <;> (repeat with_reducible first | refine Stp.go ?_ | refine StpE.go E ?_)
              · exact fin27 _ ⟨[_], E⟩
              obtain ⟨hp0, hpm⟩ := hat2 (by omega)
              obtain ⟨c, e1, e2, e3, e4⟩ := path_cut hi hnT hp0
              have hps : (T.pathS n).size ≤ 100000 := path_size hi hnT
              have hgn := hi.good n hnT hp0
              obtain ⟨pm1, pm2, pm3⟩ := parent_mem hi hnT hp0
              have hc0 : 0 ≤ if (1 : Int) > (c : Int) then (1 : Int) else (c : Int) := by split <;> omega
              have hc1 : (if (1 : Int) > (c : Int) then (1 : Int) else (c : Int)).toNat ≤ (T.pathS n).size := by split <;> omega
              refine (LastIndexByte_ok (s := T.pathS n) (c := 47) (by omega) E).mono ?_
              clear E
              rintro r w_ ⟨rfl, E⟩
              rw [e1]
              (repeat with_reducible first | (refine StpW.go E ?_; clear E; intro w_ E) | (refine StpA.go E ?_; clear E; intro b_ w_ hb_ E))
              (revert b_; intro g hbg E)
              skip
              (intro J80 hJ80)
              have fin80 : ∀ w_, Hs w0 F w_ (pt g (oc [i64 c] Ty.int) :: pt b (oc (T.fl n).cs Ty.tree_File) :: slA fv Ty.tree_File 12 (fcs T.files) :: trA X :: Pool D1 :: l) → J80 [.bool false] w_ := by
                intro w_ E
                (repeat with_reducible first | refine Stp.go ?_ | (apply hJ80; intro u_))
                have r2 : RdS w0 F (pt g (oc [i64 c] Ty.int) :: pt b (oc (T.fl n).cs Ty.tree_File) :: slA fv Ty.tree_File 12 (fcs T.files) :: trA X :: Pool D1 :: l) 12 T.files.length fv (fcs T.files) := (r1.cons _).cons _
                refine RdS.pre r2 (m := i) (by omega) ?_
                intro v1 hv1
                rw [fcs_take] at hv1
                have htl : (T.files.take i).length = i := by rw [List.length_take]; omega
                replace hv1 := RdS.cast hv1 htl.symm
                have hup : ∀ y ∈ T.files.take i, ∃ m ∈ T.order.take i, y = T.fl m := by
                  intro y hy
                  rw [files_order, ← List.map_take] at hy
                  obtain ⟨m, hm, rfl⟩ := List.mem_map.1 hy
                  exact ⟨m, hm, rfl⟩
                refine (IndexFiles_ok (p := fun y => decide (y.path = T.pathS (T.parent n))) (by omega) E hv1 fun y _ w1 E => names1_ok (x := T.fl n) (c := c) (by simp) (by simp) hc0 hc1 e4 E).mono ?_
                clear E
                rintro r w_ ⟨⟨rfl, hno⟩ | ⟨k, x, rfl, hk, hkx⟩, E⟩
                · have : T.fl (T.parent n) ∈ T.files.take i := by
                    rw [files_order, ← List.map_take]
                    exact List.mem_map.2 ⟨_, hpm, rfl⟩
                  have := of_decide_eq_false (hno _ this)
                  exact absurd rfl this
                obtain ⟨m, hm, rfl⟩ := hup x (List.mem_of_getElem? hk)
                have hmp : m = T.parent n := pathS_inj hi (order_mem hi (List.mem_of_mem_take hm)) pm1 (of_decide_eq_true hkx)
                have hkl := (List.getElem?_eq_some_iff.1 hk).1
                have hk2 : T.files[k]? = some (T.fl m) := by
                  rw [List.getElem?_take] at hk
                  split at hk
                  · exact hk
                  · cases hk
                (intro J87 hJ87)
                have fin87 : ∀ w_, Hs w0 F w_ (pt g (oc [i64 c] Ty.int) :: pt b (oc (T.fl n).cs Ty.tree_File) :: slA fv Ty.tree_File 12 (fcs T.files) :: trA X :: Pool D1 :: l) → J87 [.bool false] w_ := by
                  intro w_ E
                  (repeat with_reducible first | refine Stp.go ?_ | (apply hJ87; intro u_))
                  exact fin27 _ ⟨[_, _], E⟩
                clear hJ87
                refine Bi.lss (fun h => absurd h (by omega)) fun _ => ?_
                (repeat with_reducible refine Stp.go ?_)
                refine r2.ix (by omega) (by omega) (by omega) ?_
                rw [Int.toNat_natCast, show (fcs T.files).drop (k * 12) = (T.fl m).cs ++ fcs (T.files.drop (k + 1)) by rw [fcs_drop, List.drop_eq_getElem_cons (by omega)]; have := (List.getElem?_eq_some_iff.1 hk2).2; rw [this]; rfl]
                intro a1 ha1
                (repeat with_reducible refine Stp.go ?_)
                refine ha1.fa (by simp) ?_
                intro a2 ha2
                (repeat with_reducible refine Stp.go ?_)
                refine ha2.fa (by simp) ?_
                intro a3 ha3
                (repeat with_reducible refine Stp.go ?_)
                refine ha3.ld E (x := i64 m.mode) rfl ?_
                (repeat with_reducible refine Stp.go ?_)
                have hmd : andI m.mode 2147483648 ≠ 0 := by
                  have : isD m.mode = true := by rw [hmp]; exact pm3
                  unfold isD at this
                  exact bne_iff_ne.1 this
                refine Bi.eql (fun h => absurd h hmd) fun _ => ?_
                (repeat with_reducible refine Stp.go ?_)
                refine RdS.pre r2 (m := i) (by omega) ?_
                intro v2 hv2
                rw [fcs_take] at hv2
                replace hv2 := RdS.cast hv2 htl.symm
                (repeat with_reducible refine Stp.go ?_)
                refine (ContainsFiles_ok (p := fun y => decide (y.path = (T.fl n).path) || decide (y.dir.path = (T.fl n).dir.path)) (by omega) E hv2 fun y _ w1 E => names2_ok (by simp) E).mono ?_
                clear E
                rintro r w_ ⟨rfl, E⟩
                have hany : (T.files.take i).any (fun y => decide (y.path = (T.fl n).path) || decide (y.dir.path = (T.fl n).dir.path)) = false := by
                  rw [List.any_eq_false]
                  intro y hy
                  obtain ⟨m2, hm2, rfl⟩ := hup y hy
                  obtain ⟨g1, g2⟩ := hat1 m2 hm2
                  rw [decide_eq_false (show (T.fl m2).path ≠ (T.fl n).path from g1), decide_eq_false (show (T.fl m2).dir.path ≠ (T.fl n).dir.path from g2)]
                  simp
                rw [hany]
                (repeat with_reducible refine Stp.go ?_)
                exact fin87 _ E
              clear hJ80
              (repeat with_reducible first | refine Stp.go ?_ | refine StpE.go E ?_ | (refine StpW.go E ?_; clear E; intro w_ E))
              refine (Valid_ok (s := n.name) (by have := good_size hgn; omega)).mono ?_
              rintro r w' ⟨rfl, rfl⟩
              rw [hgn]
              (repeat with_reducible first | refine Stp.go ?_ | refine StpE.go E ?_)
              refine Bi.add (by omega) ?_
              (repeat with_reducible refine Stp.go ?_)
              refine SlS.suf (by omega) (by show _ ≤ (T.pathS n).size; omega) ?_
              (repeat with_reducible first | refine Stp.go ?_ | refine StpE.go E ?_)
              refine Bi.snF (by rw [show ((c : Int) + 1).toNat = c + 1 by omega]; exact e3) ?_
              (repeat with_reducible refine Stp.go ?_)
              exact fin80 _ E
            clear hJ68
            replace E := E.tl.bIx 2
            replace E := E.tl
            (replace E := ((((E.bIx 1).bIx 1).bIx 3).bIx 3))
            (repeat with_reducible first | refine Stp.go ?_ | refine StpE.go E ?_)
            have hdat := (hi.data n hnT).1
            refine Bi.neq ?_ ?_ <;> intro hmd <;> (repeat with_reducible first | refine Stp.go ?_ | refine StpE.go E ?_)
            · have hde : n.data = emp := hdat (show isD n.mode = true by unfold isD; exact bne_iff_ne.2 hmd)
              refine Bi.snF (show (T.fl n).data = emp from hde) ?_
              (repeat with_reducible first | refine Stp.go ?_ | refine StpE.go E ?_)
              refine Bi.neq (fun h => absurd (show (n.data.size : Int) = 0 by rw [hde]; rfl) h) fun _ => ?_
              (repeat with_reducible first | refine Stp.go ?_ | refine StpE.go E ?_)
              refine Bi.neq (fun h => absurd rfl h) fun _ => ?_
              (repeat with_reducible refine Stp.go ?_)
              exact fin68 _ E
            · refine Bi.neq (fun h => absurd rfl h) fun _ => ?_
              (repeat with_reducible refine Stp.go ?_)
              exact fin68 _ E
          clear hJ64
          (repeat first | (with_reducible first | refine Stp.go ?_ | refine StpE.go E ?_) | ((with_reducible refine Bi.dec false ?_ ?_); focus exact rfl))
          refine EqS.nS (xs := n.stat.cs) lv_Dir st_Dir g_Dir rfl ?_
          (repeat first | (with_reducible first | refine Stp.go ?_ | refine StpE.go E ?_) | ((with_reducible refine Bi.dec false ?_ ?_); focus exact rfl))
          refine Bi.snF rfl ?_
          (repeat with_reducible refine Stp.go ?_)
          refine Bi.leq ?_ ?_ <;> intro hsz <;> (repeat with_reducible refine Stp.go ?_)
          · obtain rfl := hfq (by omega)
            (repeat first | (with_reducible first | refine Stp.go ?_ | refine StpE.go E ?_) | ((with_reducible refine Bi.dec false ?_ ?_); focus exact rfl))
            refine EqS.nS (xs := n.qid.cs) lv_Qid st_Qid g_Qid rfl ?_
            (repeat with_reducible refine Stp.go ?_)
            exact fin64 _ E
          · exact fin64 _ E
        · exact ⟨rfl, _, E⟩
      clear hJ16
      skip
      refine r1.len ?_
      refine Bi.eql (fun h => absurd h (by omega)) fun _ => ?_
      (repeat with_reducible refine Stp.go ?_)
      refine r1.ix (by omega) (by omega) (by omega) ?_
      have hd0 : (fcs T.files).drop ((0 : Int).toNat * 12) = (T.fl r0).cs ++ fcs (L0.map T.fl) := by rw [hfo]; rfl
      rw [hd0]
      intro a ha
      (repeat with_reducible refine Stp.go ?_)
      refine ha.fa (by simp) ?_
      intro a1 ha1
      (repeat with_reducible refine Stp.go ?_)
      refine ha1.ld E (x := str sep) (by rw [← pathS_root (T := T) hr1]; rfl) ?_
      (repeat first | (with_reducible first | refine Stp.go ?_) | ((with_reducible refine Bi.sdec false ?_ ?_); focus decide))
      refine r1.ix (by omega) (by omega) (by omega) ?_
      rw [hd0]
      intro a2 ha2
      (repeat with_reducible refine Stp.go ?_)
      refine ha2.fa (by simp) ?_
      intro a3 ha3
      (repeat with_reducible refine Stp.go ?_)
      refine ha3.fa (by simp) ?_
      intro a4 ha4
      (repeat with_reducible refine Stp.go ?_)
      refine ha4.fa (by simp) ?_
      intro a5 ha5
      (repeat with_reducible refine Stp.go ?_)
      refine ha5.ld E (x := i64 0) (by rw [← hr1]; rfl) ?_
      (repeat first | (with_reducible first | refine Stp.go ?_) | ((with_reducible refine Bi.dec false ?_ ?_); focus exact rfl))
      exact fin16 _ E
  clear hJ6
  (repeat with_reducible refine StpE.go E ?_)
  refine (small_ok (hg _) hb E).mono ?_
  clear E
  rintro r w_ ⟨rfl, E⟩
  refine Un.not ?_
  cases hs : decide (ssz owner gs ≤ 2000) with
  | false =>
    simp only [Bool.not_false]
    (repeat with_reducible refine Stp.go ?_)
    exact fin6 true _ (fun h => by cases h) E
  | true =>
    simp only [Bool.not_true]
    (repeat with_reducible refine Stp.go ?_)
    refine (Few_ok hxl (hr _) E).mono ?_
    clear E
    rintro r w_ ⟨b, rfl, hb2, E⟩
    (repeat with_reducible refine Stp.go ?_)
    refine Un.not ?_
    (repeat with_reducible refine Stp.go ?_)
    exact fin6 _ _ (fun hq => ⟨of_decide_eq_true hs, hb2 (by simpa using hq)⟩) E
end Go.Proofs.YtnnhmahemklnkaaGreatDoor
