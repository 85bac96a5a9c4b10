/-
  TreeVersions: the law.
-/
import Derived.Test.YtnnhmahemklnkaaGreatDoorTq2
namespace Go.Proofs.YtnnhmahemklnkaaGreatDoor
open Go Go.Sh
set_option maxRecDepth 100000
set_option linter.unusedVariables false
set_option linter.unusedSimpArgs false
variable {w0 w : World} {F : Nat → Prop} {l : List As}

theorem vers1_ok {f : Nat} {y x : Fl} (hm : pt f (oc x.cs Ty.tree_File) ∈ l) (E : Hs w0 F w l) : CaV PP (.func (.func Fn.law28_TreeVersions_1) #[] #[ptr f]) #[y.V] w fun r w' => r = .bool (decide (y.dir.path = x.dir.path)) ∧ Hs w0 F w' l := by
  refine CaV.mk (by kernel_rfl) ?_
  refine S.law28_TreeVersions_1.calls (a0 := y.V) (a1 := ptr f) ?_
  unfold S.law28_TreeVersions_1
  refine StpA.go E ?_
  clear E
  intro c w_ hc E
  (repeat with_reducible first | refine Stp.go ?_ | refine StpE.go E ?_ | refine Ld.pt E (by (repeat (first | assumption | with_reducible exact List.mem_cons_self | refine List.mem_cons_of_mem _ ?_))) rfl ?_)
  refine Bi.eql ?_ ?_ <;> intro h1
  · exact ⟨by rw [decide_eq_true h1], E.tl⟩
  · exact ⟨by rw [decide_eq_false h1], E.tl⟩
theorem Versions_law {D : List Row} {gV v : Value} {gv : List (BA × Value)} {gs : Gs} {owner : BA} {xs : List Ac} (hg : ∀ l, GIn w0 F l gV gv gs) (hb : ssz owner gs ≤ 1048576) (hok : ∀ x ∈ xs, x.Ok) (hxl : xs.length ≤ 9223372036854775807) (hr : ∀ l, RdS w0 F l 20 xs.length v (acs xs)) (E : Hs w0 F w (Pool D :: l)) :
    Ca PP Fn.law28_TreeVersions #[.agg #[str owner, gV], v] w fun r w' => r = .bool true ∧ ∃ l', Hs w0 F w' l' := by
  refine S.law28_TreeVersions.calls ?_
  unfold S.law28_TreeVersions
  refine StpA.go E ?_
  clear E
  intro q w_ hq E
  (replace E := ((E.bIx 0).bIx 1))
  refine (awake_ok E).mono ?_
  clear E
  rintro r w_ ⟨rfl, D', -, E⟩
  (repeat with_reducible refine Stp.go ?_)
  (intro J6 hJ6)
  have fin6 : ∀ b w_, (b = false → ssz owner gs ≤ 2000 ∧ xs.length ≤ 40) → Hs w0 F w_ (Pool D' :: pt q (oc [str owner, gV] Ty.law28_Setting) :: l) → J6 [.bool b] w_ := by
    intro b w_ hb E
    (repeat with_reducible (apply hJ6; intro u_))
    cases b with
    | true => (repeat with_reducible refine Stp.go ?_); exact ⟨rfl, _, E⟩
    | false =>
      obtain ⟨hs1, hx1⟩ := hb rfl
      obtain ⟨-, hgl, hgu⟩ := ssz_parts hs1
      (repeat with_reducible first | refine Stp.go ?_ | refine StpE.go E ?_)
      refine (New_ok (owner := owner) (hg _) (by omega) (fun g h => by have := (hgu g h).2.1; omega) (fun s h => by have := ssz_words hs1 s h; omega) E).mono ?_
      clear E
      rintro r w_ (⟨hc, rfl, E⟩ | ⟨hc, D1, X, β, rfl, hD1, h, hi, E⟩)
      · (repeat with_reducible refine Stp.go ?_)
        (intro J18 hJ18)
        have fin18 : ∀ w_, (∃ l', Hs w0 F w_ l') → J18 [.bool true] w_ := by
          intro w_ E
          (repeat with_reducible first | refine Stp.go ?_ | (apply hJ18; intro u_))
          refine Eq.et u_p_tree rfl ?_
          skip
          exact ⟨rfl, E⟩
        clear hJ18
        skip
        refine Bi.neq (fun _ => ?_) fun h => absurd h hc
        (repeat with_reducible refine Stp.go ?_)
        exact fin18 _ ⟨_, E⟩
      (repeat with_reducible refine Stp.go ?_)
      (intro J18 hJ18)
      have fin18 : ∀ w_, Hs w0 F w_ (trA X :: Pool D1 :: pt q (oc [str owner, gV] Ty.law28_Setting) :: l) → J18 [.bool false] w_ := by
        intro w_ E
        (repeat with_reducible first | refine Stp.go ?_ | (apply hJ18; intro u_))
        have l0 : Lim 1 (newT owner gs) := newT_lim _ _
        refine (hr l).len ?_
        refine ⟨fun l1 w1 => ∃ (i : Nat) (g : Int) (D' : List Row) (X' : PT) (β' : Int → Nat), l1 = [i64 g, i64 i] ∧ i ≤ xs.length ∧ X'.t = X.t ∧ Tie D' X' ((newT owner gs).acts (xs.take i)) β' ∧ g < ((newT owner gs).acts (xs.take i)).next ∧ Hs w0 F w1 (trA X' :: Pool D' :: l),
          fun l1 _ => match l1 with | [_, .int _ i] => xs.length - i.toNat | _ => 0, ⟨0, 0, D1, X, β, rfl, Nat.zero_le _, rfl, h, by show (0 : Int) < 1; omega, (E.bIx 2).tl⟩, ?_⟩
        clear E
        rintro t7 t u w_ ⟨i, g, D', X', β', h4', hle, ht, hT, hgn, E⟩
        cases h4'
        have hi' := acts_inv (xs.take i) hi
        have hl' := acts_lim (xs.take i) (by omega) l0
        have htl : (xs.take i).length ≤ 40 := by rw [List.length_take]; omega
        have hl2 : Lim 136 ((newT owner gs).acts (xs.take i)) := hl'.mono (by omega)
        have hfl := files_len hi'
        refine Bi.lss ?_ ?_ <;> intro hlt <;> (repeat with_reducible refine Stp.go ?_)
        · have hx : xs[i]? = some xs[i] := List.getElem?_eq_getElem (by omega)
          have hxo : xs[i].Ok := hok _ (List.getElem_mem _)
          generalize xs[i] = x at hx hxo
          have hat := acs_at hx
          have e : (newT owner gs).acts (xs.take (i + 1)) = (((newT owner gs).acts (xs.take i)).act x).1 := by
            rw [List.take_add_one, hx]
            exact acts_snoc _ _ _
          generalize (newT owner gs).acts (xs.take i) = T at hT hi' hl2 e hfl hgn
          refine (hr l).ix (by omega) (by omega) (by omega) ?_
          intro a ha
          rw [Int.toNat_natCast] at ha
          refine ha.lda E.tl.tl hat rfl (by omega) ?_
          (repeat with_reducible (refine StpA.go E ?_; clear E; intro b_ w_ hb_ E))
          (revert b_; intro b hbb E)
          refine StA.all (vs := x.C) E rfl rfl (ac_scal x) ?_
          clear E
          intro w_ E
          skip
          (replace E := (((E.bIx 0).bIx 2).bIx 2))
          rw [← ht]
          refine (Files_ok hT hi' E).mono ?_
          clear E
          intro fv w_ E
          (replace E := ((((E.bIx 3).bIx 1).bIx 3).bIx 3))
          refine (Clock_ok hT E).mono ?_
          clear E
          rintro r w_ ⟨rfl, E⟩
          (repeat with_reducible refine StpE.go E ?_)
          refine (Do_ok hT hi' (by omega) hl2 hxo E).mono ?_
          clear E
          rintro r w_ ⟨dv, rfl, D2, X2, β2, hD2, ht2, hT2, E⟩
          have hnw := act_newer (T := T) x
          have hcl := hnw.clock
          have hnx := hnw.next
          have hi2 := act_inv hi' x
          have hfl2 := files_len hi2
          have fnew : ∀ f ∈ (T.act x).1.files, (∀ o ∈ T.files, o.dir.path ≠ f.dir.path) → T.next ≤ f.dir.path := fun f hf ho => file_new hi' x hf ho
          have fold : ∀ f ∈ (T.act x).1.files, ∀ o ∈ T.files, o.dir.path = f.dir.path → (f.dir = o.dir ∧ f.data = o.data) ∨ (o.dir.vers < f.dir.vers ∧ (x.kind ≠ 2 → f.dir.time = (T.act x).1.clock)) := fun f hf o ho hp => file_old hi' x hf ho hp
          have fbound : ∀ f ∈ (T.act x).1.files, f.dir.path < (T.act x).1.next := fun f hf => (file_bound hi2 hf).2
          generalize (T.act x).1 = T2 at hT2 e hcl hnx hi2 hfl2 fnew fold fbound
          generalize (T.act x).2 = a at E
          skip
          rw [← ht2]
          refine (Clock_ok hT2 E).mono ?_
          clear E
          rintro r w_ ⟨rfl, E⟩
          refine Bi.lss (fun h => absurd h (by omega)) fun _ => ?_
          (repeat with_reducible refine Stp.go ?_)
          refine (Files_ok hT2 hi2 E).mono ?_
          clear E
          intro fv2 w_ E
          have r2 := RdS.sl (T := Ty.tree_File) (sz := 12) (v := fv2) (xs := fcs T2.files) (by simp) (by omega) E
          have r1 := RdS.sl (T := Ty.tree_File) (sz := 12) (v := fv) (xs := fcs T.files) (by simp) (by omega) E
          rw [fcs_len, Nat.mul_div_cancel _ (by omega)] at r1 r2
          refine r2.len ?_
          refine ⟨fun l1 w1 => ∃ j : Nat, l1 = [i64 j] ∧ j ≤ T2.files.length ∧ Hs w0 F w1 (slA fv2 Ty.tree_File 12 (fcs T2.files) :: trA X2 :: Pool D2 :: slA dv Ty.api_Dir 10 (dcs a.dirs) :: slA fv Ty.tree_File 12 (fcs T.files) :: pt b (oc x.C Ty.law28_Act) :: l),
            fun l1 _ => match l1 with | [.int _ j] => T2.files.length - j.toNat | _ => 0, ⟨0, rfl, Nat.zero_le _, E⟩, ?_⟩
          clear E
          rintro t64 u2 w_ ⟨j, h4', hjle, E⟩
          cases h4'
          refine Bi.lss ?_ ?_ <;> intro hlj <;> (repeat with_reducible refine Stp.go ?_)
          · have hj : T2.files[j]? = some (T2.files[j]'(by omega)) := List.getElem?_eq_getElem (by omega)
            have hfm : T2.files[j]'(by omega) ∈ T2.files := List.getElem_mem _
            generalize T2.files[j]'(by omega) = f at hj hfm
            (intro J55 hJ55)
            have fin55 : ∀ w_, (∃ k : List As, Hs w0 F w_ (k ++ slA fv2 Ty.tree_File 12 (fcs T2.files) :: trA X2 :: Pool D2 :: slA dv Ty.api_Dir 10 (dcs a.dirs) :: slA fv Ty.tree_File 12 (fcs T.files) :: pt b (oc x.C Ty.law28_Act) :: l)) → J55 [] w_ := by
              rintro w_ ⟨k, E⟩
              (repeat with_reducible (apply hJ55; intro u_))
              refine Bi.add (by omega) ?_
              exact ⟨⟨j + 1, by simp, by omega, E.drop (List.sublist_append_right k _)⟩, by simp only []; omega⟩
            clear hJ55
            refine r2.ix (by omega) (by omega) (by omega) ?_
            intro a2 ha2
            rw [Int.toNat_natCast] at ha2
            refine ha2.lda E (fl_at hj) rfl (by omega) ?_
            (repeat with_reducible (refine StpA.go E ?_; clear E; intro b_ w_ hb_ E))
            (revert b_; intro c hbc E)
            refine StA.all (vs := f.cs) E rfl rfl (fl_scal _) ?_
            clear E
            intro w_ E
            skip
            have r1' := RdS.sl (T := Ty.tree_File) (sz := 12) (v := fv) (xs := fcs T.files) (by simp) (by omega) E
            rw [fcs_len, Nat.mul_div_cancel _ (by omega)] at r1'
            refine (IndexFiles_ok (p := fun y => decide (y.dir.path = f.dir.path)) (by omega) E r1' fun y _ w1 E => vers1_ok (by simp) E).mono ?_
            clear E
            rintro r w_ ⟨⟨rfl, hno⟩ | ⟨k, o, rfl, hk, hko⟩, E⟩
            · have hbig := fnew f hfm fun o ho => of_decide_eq_false (hno o ho)
              (repeat first | (with_reducible first | refine Stp.go ?_ | refine StpE.go E ?_) | ((with_reducible refine Bi.dec true ?_ ?_); focus exact rfl))
              refine Bi.leq (fun h => absurd h (by omega)) fun _ => ?_
              (repeat with_reducible refine Stp.go ?_)
              exact fin55 _ ⟨[_], E⟩
            · have hfo := fold f hfm o (List.mem_of_getElem? hk) (of_decide_eq_true hko)
              refine Bi.lss (fun h => absurd h (by omega)) fun _ => ?_
              (repeat with_reducible refine Stp.go ?_)
              have hkl := (List.getElem?_eq_some_iff.1 hk).1
              have r1'' := RdS.sl (T := Ty.tree_File) (sz := 12) (v := fv) (xs := fcs T.files) (by simp) (by omega) E
              rw [fcs_len, Nat.mul_div_cancel _ (by omega)] at r1''
              refine r1''.ix (by omega) (by omega) (by omega) ?_
              intro a3 ha3
              rw [Int.toNat_natCast] at ha3
              refine ha3.lda E (fl_at hk) rfl (by omega) ?_
              (repeat with_reducible (refine StpA.go E ?_; clear E; intro b_ w_ hb_ E))
              (revert b_; intro d hbd E)
              refine StA.all (vs := o.cs) E rfl rfl (fl_scal _) ?_
              clear E
              intro w_ E
              skip
              have hvle : o.dir.vers ≤ f.dir.vers := by
                rcases hfo with ⟨h, _⟩ | ⟨h, _⟩
                · rw [h]; exact Int.le_refl _
                · omega
              (intro J77 hJ77)
              have fin77 : ∀ w_, Hs w0 F w_ (pt d (oc o.cs Ty.tree_File) :: pt c (oc f.cs Ty.tree_File) :: slA fv2 Ty.tree_File 12 (fcs T2.files) :: trA X2 :: Pool D2 :: slA dv Ty.api_Dir 10 (dcs a.dirs) :: slA fv Ty.tree_File 12 (fcs T.files) :: pt b (oc x.C Ty.law28_Act) :: l) → J77 [.bool false] w_ := by
                intro w_ E
                (repeat with_reducible first | refine Stp.go ?_ | (apply hJ77; intro u_))
                (intro J81 hJ81)
                have fin81 : ∀ w_, (∃ k : List As, Hs w0 F w_ (k ++ slA fv2 Ty.tree_File 12 (fcs T2.files) :: trA X2 :: Pool D2 :: slA dv Ty.api_Dir 10 (dcs a.dirs) :: slA fv Ty.tree_File 12 (fcs T.files) :: pt b (oc x.C Ty.law28_Act) :: l)) → J81 [.bool false] w_ := by
                  intro w_ E
                  (repeat with_reducible first | refine Stp.go ?_ | (apply hJ81; intro u_))
                  exact fin55 _ E
                clear hJ81
                (repeat with_reducible first | refine Stp.go ?_ | refine StpE.go E ?_ | (refine StpW.go E ?_; clear E; intro w_ E))
                refine Bi.neq ?_ ?_ <;> intro hk2 <;> (repeat with_reducible first | refine Stp.go ?_ | refine StpE.go E ?_)
                · refine Bi.gtr ?_ ?_ <;> intro hgt <;> (repeat with_reducible first | refine Stp.go ?_ | refine StpE.go E ?_)
                  · have htm : f.dir.time = T2.clock := by
                      rcases hfo with ⟨h, _⟩ | ⟨_, h⟩
                      · rw [h] at hgt; omega
                      · exact h hk2
                    (replace E := (E.bIx 3))
                    refine (Clock_ok hT2 E).mono ?_
                    clear E
                    rintro r w_ ⟨rfl, E⟩
                    refine ⟨by (repeat with_reducible first | refine Stp.go ?_ | refine StpE.go E ?_); rfl, ?_⟩
                    (repeat with_reducible refine Stp.go ?_)
                    refine Bi.neq (fun h => absurd htm h) fun _ => ?_
                    (repeat with_reducible refine Stp.go ?_)
                    (replace E := ((((E.bIx 0).bIx 3).bIx 3).bIx 3))
                    exact fin81 _ ⟨[_, _], E⟩
                  · refine ⟨by (repeat with_reducible refine Stp.go ?_); rfl, ?_⟩
                    (repeat with_reducible refine Stp.go ?_)
                    exact fin81 _ ⟨[_, _], E⟩
                · refine ⟨by (repeat with_reducible refine Stp.go ?_); rfl, ?_⟩
                  (repeat with_reducible refine Stp.go ?_)
                  exact fin81 _ ⟨[_, _], E⟩
              clear hJ77
              (repeat with_reducible first | refine Stp.go ?_ | refine StpE.go E ?_)
              refine Bi.lss (fun h => absurd h (by omega)) fun _ => ?_
              (repeat with_reducible first | refine Stp.go ?_ | refine StpE.go E ?_)
              have hdir : f.dir ≠ o.dir ∨ f.data ≠ o.data → o.dir.vers < f.dir.vers := by
                rcases hfo with ⟨h1, h2⟩ | ⟨h, _⟩
                · rintro (h | h)
                  · exact absurd h1 h
                  · exact absurd h2 h
                · exact fun _ => h
              refine Bi.sneq ?_ ?_ <;> intro hd <;> (repeat with_reducible first | refine Stp.go ?_ | refine StpE.go E ?_)
              · have := hdir (.inr hd)
                refine Bi.eql (fun h => absurd h (by omega)) fun _ => ?_
                (repeat with_reducible first | refine Stp.go ?_ | refine StpE.go E ?_)
                refine EqS.n (xs := f.dir.cs) (ys := o.dir.cs) lv_Dir st_Dir g_Dir rfl rfl ?_
                cases hc : ceqL f.dir.cs o.dir.cs with
                | true =>
                  simp only [Bool.not_true]
                  (repeat with_reducible refine Stp.go ?_)
                  exact fin77 _ E
                | false =>
                  simp only [Bool.not_false]
                  (repeat with_reducible first | refine Stp.go ?_ | refine StpE.go E ?_)
                  refine Bi.eql (fun h => absurd h (by omega)) fun _ => ?_
                  (repeat with_reducible refine Stp.go ?_)
                  exact fin77 _ E
              · refine EqS.n (xs := f.dir.cs) (ys := o.dir.cs) lv_Dir st_Dir g_Dir rfl rfl ?_
                cases hc : ceqL f.dir.cs o.dir.cs with
                | true =>
                  simp only [Bool.not_true]
                  (repeat with_reducible refine Stp.go ?_)
                  exact fin77 _ E
                | false =>
                  have := hdir (.inl fun h => by rw [dr_ceq.2 h] at hc; cases hc)
                  simp only [Bool.not_false]
                  (repeat with_reducible first | refine Stp.go ?_ | refine StpE.go E ?_)
                  refine Bi.eql (fun h => absurd h (by omega)) fun _ => ?_
                  (repeat with_reducible refine Stp.go ?_)
                  exact fin77 _ E
          · (replace E := ((((((E.bIx 0).bIx 5).bIx 5).bIx 5).bIx 5).bIx 5))
            refine (Files_ok hT2 hi2 E).mono ?_
            clear E
            intro fv3 w_ E
            have r3 := RdS.sl (T := Ty.tree_File) (sz := 12) (v := fv3) (xs := fcs T2.files) (by simp) (by omega) E
            rw [fcs_len, Nat.mul_div_cancel _ (by omega)] at r3
            skip
            refine r3.len ?_
            refine ⟨fun l1 w1 => ∃ (j : Nat) (g' : Int), l1 = [i64 g', i64 j] ∧ j ≤ T2.files.length ∧ g' < T2.next ∧ Hs w0 F w1 (slA fv3 Ty.tree_File 12 (fcs T2.files) :: trA X2 :: Pool D2 :: slA dv Ty.api_Dir 10 (dcs a.dirs) :: slA fv Ty.tree_File 12 (fcs T.files) :: pt b (oc x.C Ty.law28_Act) :: slA fv2 Ty.tree_File 12 (fcs T2.files) :: l),
              fun l1 _ => match l1 with | [_, .int _ j] => T2.files.length - j.toNat | _ => 0, ⟨0, g, rfl, Nat.zero_le _, by omega, E⟩, ?_⟩
            clear E
            rintro t7' t154 u3 w_ ⟨j, g', h4', hjle, hg', E⟩
            cases h4'
            refine Bi.lss ?_ ?_ <;> intro hlj <;> (repeat with_reducible refine Stp.go ?_)
            · have hj : T2.files[j]? = some (T2.files[j]'(by omega)) := List.getElem?_eq_getElem (by omega)
              have hfm : T2.files[j]'(by omega) ∈ T2.files := List.getElem_mem _
              generalize T2.files[j]'(by omega) = f at hj hfm
              have hfb := fbound f hfm
              refine r3.ix (by omega) (by omega) (by omega) ?_
              intro a2 ha2
              rw [Int.toNat_natCast] at ha2
              refine ha2.lda E (fl_at hj) rfl (by omega) ?_
              (repeat with_reducible (refine StpA.go E ?_; clear E; intro b_ w_ hb_ E))
              (revert b_; intro c hbc E)
              refine StA.all (vs := f.cs) E rfl rfl (fl_scal _) ?_
              clear E
              intro w_ E
              (repeat with_reducible first | refine Stp.go ?_ | refine StpE.go E ?_)
              refine Mx.mk ?_
              refine Bi.add (by omega) ?_
              refine ⟨⟨j + 1, if f.dir.path > g' then f.dir.path else g', by simp, by omega, ?_, E.tl⟩, by simp only []; omega⟩
              split <;> omega
            · refine Bi.add (by omega) ?_
              refine ⟨⟨i + 1, g', D2, X2, β2, by simp, by omega, by rw [ht2, ht], by rw [e]; exact hT2, by rw [e]; exact hg', ?_⟩, by simp only []; omega⟩
              exact E.drop (List.Sublist.cons _ (List.Sublist.cons_cons _ (List.Sublist.cons_cons _ (List.sublist_append_right [_, _, _, _] l))))
        · exact ⟨rfl, _, E⟩
      clear hJ18
      (repeat first | (with_reducible first | refine Stp.go ?_) | ((with_reducible refine Bi.dec false ?_ ?_); focus exact rfl))
      refine Eq.ef u_p_tree rfl ?_
      (repeat with_reducible refine Stp.go ?_)
      exact fin18 _ E
  clear hJ6
  (repeat with_reducible refine StpE.go E ?_)
  refine (small_ok (hg _) hb E).mono ?_
  clear E
  rintro r w_ ⟨rfl, E⟩
  refine Un.not ?_
  cases hs : decide (ssz owner gs ≤ 2000) with
  | false =>
    simp only [Bool.not_false]
    (repeat with_reducible refine Stp.go ?_)
    exact fin6 true _ (fun h => by cases h) E
  | true =>
    simp only [Bool.not_true]
    (repeat with_reducible refine Stp.go ?_)
    refine (Few_ok hxl (hr _) E).mono ?_
    clear E
    rintro r w_ ⟨b, rfl, hb2, E⟩
    (repeat with_reducible refine Stp.go ?_)
    refine Un.not ?_
    (repeat with_reducible refine Stp.go ?_)
    exact fin6 _ _ (fun hq => ⟨of_decide_eq_true hs, hb2 (by simpa using hq)⟩) E
end Go.Proofs.YtnnhmahemklnkaaGreatDoor
