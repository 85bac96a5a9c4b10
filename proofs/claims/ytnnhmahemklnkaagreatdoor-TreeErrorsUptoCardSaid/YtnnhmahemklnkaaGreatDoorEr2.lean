/-
  TreeErrors: the law.
-/
import Derived.Test.YtnnhmahemklnkaaGreatDoorTq2
namespace Go.Proofs.YtnnhmahemklnkaaGreatDoor
open Go Go.Sh
set_option maxRecDepth 100000
set_option linter.unusedVariables false
set_option linter.unusedSimpArgs false
variable {w0 w : World} {F : Nat → Prop} {l : List As}

theorem files_few {T : Tr} (hi : Inv T) : T.files.length ≤ 1024 := by
  unfold Tr.files
  split
  · exact Nat.zero_le _
  · rename_i r hr
    rw [List.length_map]
    exact below_len hi _ (hi.get.1 hr).1
theorem Errors_law {D : List Row} {gV v : Value} {gv : List (BA × Value)} {gs : Gs} {owner : BA} {xs : List Ac} (hg : ∀ l, GIn w0 F l gV gv gs) (hb : ssz owner gs ≤ 1048576) (hok : ∀ x ∈ xs, x.Ok) (hxl : xs.length ≤ 9223372036854775807) (hr : ∀ l, RdS w0 F l 20 xs.length v (acs xs)) (E : Hs w0 F w (Pool D :: l)) :
    Ca PP Fn.law28_TreeErrors #[.agg #[str owner, gV], v] w fun r w' => r = .bool true ∧ ∃ l', Hs w0 F w' l' := by
  refine S.law28_TreeErrors.calls ?_
  unfold S.law28_TreeErrors
  refine StpA.go E ?_
  clear E
  intro q w_ hq E
  (replace E := ((E.bIx 0).bIx 1))
  refine (awake_ok E).mono ?_
  clear E
  rintro r w_ ⟨rfl, D', -, E⟩
  (repeat with_reducible refine Stp.go ?_)
  (intro J6 hJ6)
  have fin6 : ∀ b w_, (b = false → ssz owner gs ≤ 2000 ∧ xs.length ≤ 40) → Hs w0 F w_ (Pool D' :: pt q (oc [str owner, gV] Ty.law28_Setting) :: l) → J6 [.bool b] w_ := by
    intro b w_ hb E
    (repeat with_reducible (apply hJ6; intro u_))
    cases b with
    | true => (repeat with_reducible refine Stp.go ?_); exact ⟨rfl, _, E⟩
    | false =>
      obtain ⟨hs1, hx1⟩ := hb rfl
      obtain ⟨-, hgl, hgu⟩ := ssz_parts hs1
      (repeat with_reducible first | refine Stp.go ?_ | refine StpE.go E ?_)
      refine (New_ok (owner := owner) (hg _) (by omega) (fun g h => by have := (hgu g h).2.1; omega) (fun s h => by have := ssz_words hs1 s h; omega) E).mono ?_
      clear E
      rintro r w_ (⟨hc, rfl, E⟩ | ⟨hc, D1, X, β, rfl, hD1, h, hi, E⟩)
      · (repeat with_reducible refine Stp.go ?_)
        (intro J18 hJ18)
        have fin18 : ∀ w_, (∃ l', Hs w0 F w_ l') → J18 [.bool true] w_ := by
          intro w_ E
          (repeat with_reducible first | refine Stp.go ?_ | (apply hJ18; intro u_))
          refine Eq.et u_p_tree rfl ?_
          skip
          exact ⟨rfl, E⟩
        clear hJ18
        skip
        refine Bi.neq (fun _ => ?_) fun h => absurd h hc
        (repeat with_reducible refine Stp.go ?_)
        exact fin18 _ ⟨_, E⟩
      (repeat with_reducible refine Stp.go ?_)
      (intro J18 hJ18)
      have fin18 : ∀ w_, Hs w0 F w_ (trA X :: Pool D1 :: pt q (oc [str owner, gV] Ty.law28_Setting) :: l) → J18 [.bool false] w_ := by
        intro w_ E
        (repeat with_reducible first | refine Stp.go ?_ | (apply hJ18; intro u_))
        have l0 : Lim 1 (newT owner gs) := newT_lim _ _
        refine (hr l).len ?_
        refine ⟨fun l1 w1 => ∃ (i : Nat) (D' : List Row) (X' : PT) (β' : Int → Nat), l1 = [i64 i] ∧ i ≤ xs.length ∧ X'.t = X.t ∧ Tie D' X' ((newT owner gs).acts (xs.take i)) β' ∧ Hs w0 F w1 (trA X' :: Pool D' :: l),
          fun l1 _ => match l1 with | [.int _ i] => xs.length - i.toNat | _ => 0, ⟨0, D1, X, β, rfl, Nat.zero_le _, rfl, h, (E.bIx 2).tl⟩, ?_⟩
        clear E
        rintro t u w_ ⟨i, D', X', β', h4', hle, ht, hT, E⟩
        cases h4'
        have hi' := acts_inv (xs.take i) hi
        have hl' := acts_lim (xs.take i) (by omega) l0
        have htl : (xs.take i).length ≤ 40 := by rw [List.length_take]; omega
        have hl2 : Lim 136 ((newT owner gs).acts (xs.take i)) := hl'.mono (by omega)
        have hfl := files_few hi'
        have hhl := hi'.few.2
        refine Bi.lss ?_ ?_ <;> intro hlt <;> (repeat with_reducible refine Stp.go ?_)
        · have hx : xs[i]? = some xs[i] := List.getElem?_eq_getElem (by omega)
          have hxo : xs[i].Ok := hok _ (List.getElem_mem _)
          generalize xs[i] = x at hx hxo
          have hat := acs_at hx
          have e : (newT owner gs).acts (xs.take (i + 1)) = (((newT owner gs).acts (xs.take i)).act x).1 := by
            rw [List.take_add_one, hx]
            exact acts_snoc _ _ _
          generalize (newT owner gs).acts (xs.take i) = T at hT hi' hl2 e hfl hhl
          refine (hr l).ix (by omega) (by omega) (by omega) ?_
          intro a ha
          rw [Int.toNat_natCast] at ha
          refine ha.lda E.tl.tl hat rfl (by omega) ?_
          (repeat with_reducible (refine StpA.go E ?_; clear E; intro b_ w_ hb_ E))
          (revert b_; intro b hbb E)
          refine StA.all (vs := x.C) E rfl rfl (ac_scal x) ?_
          clear E
          intro w_ E
          skip
          (replace E := (((E.bIx 0).bIx 2).bIx 2))
          rw [← ht]
          refine (Files_ok hT hi' E).mono ?_
          clear E
          intro fv w_ E
          (replace E := ((((E.bIx 3).bIx 1).bIx 3).bIx 3))
          refine (Handles_ok hT hi' E).mono ?_
          clear E
          intro hv w_ E
          (replace E := (((((E.bIx 4).bIx 4).bIx 2).bIx 4).bIx 4))
          refine (Clock_ok hT E).mono ?_
          clear E
          rintro r w_ ⟨rfl, E⟩
          (repeat with_reducible refine StpE.go E ?_)
          refine (Do_ok hT hi' (by omega) hl2 hxo E).mono ?_
          clear E
          rintro r w_ ⟨dv, rfl, D2, X2, β2, hD2, ht2, hT2, E⟩
          have hsv : scalV dv = true := Hs.slScal E (T := Ty.api_Dir) (sz := 10) (xs := dcs (T.act x).2.dirs) (by simp)
          have hav : ((T.act x).2.C dv).all scalV = true := by
            show (true && (true && (true && (true && (true && (true && (true && (true && (true && (true && (true && (true && (true && (true && (true && (scalV dv && (true && true))))))))))))))))) = true
            rw [hsv]; rfl
          have herr := act_err (T := T) (x := x)
          have hask := act_asks (T := T) (x := x)
          generalize T.act x = r at *
          obtain ⟨T2, a⟩ := r
          simp only [] at *
          (repeat with_reducible (refine StpA.go E ?_; clear E; intro b_ w_ hb_ E))
          (revert b_; intro c hbc E)
          refine StA.all (vs := a.C dv) E rfl rfl hav ?_
          clear E
          intro w_ E
          skip
          (intro J47 hJ47)
          have fin47 : ∀ (cb : Bool) w_, (cb = true → x.asks) → Hs w0 F w_ (pt c (oc (a.C dv) Ty.law28_Answer) :: trA X2 :: Pool D2 :: slA dv Ty.api_Dir 10 (dcs a.dirs) :: slA hv Ty.int 1 (T.handles.map i64) :: slA fv Ty.tree_File 12 (fcs T.files) :: pt b (oc x.C Ty.law28_Act) :: l) → J47 [.bool cb] w_ := by
            intro cb w_ hcb E
            (repeat with_reducible (apply hJ47; intro u_))
            (intro J51 hJ51)
            have fin51 : ∀ w_, Hs w0 F w_ (pt c (oc (a.C dv) Ty.law28_Answer) :: trA X2 :: Pool D2 :: slA dv Ty.api_Dir 10 (dcs a.dirs) :: slA hv Ty.int 1 (T.handles.map i64) :: slA fv Ty.tree_File 12 (fcs T.files) :: pt b (oc x.C Ty.law28_Act) :: l) → J51 [.bool false] w_ := by
              intro w_ E
              (repeat with_reducible first | refine Stp.go ?_ | (apply hJ51; intro u_))
              (intro J55 hJ55)
              have fin55 : ∀ w_, (∃ k : List As, Hs w0 F w_ (trA X2 :: Pool D2 :: (k ++ l))) → J55 [.bool false] w_ := by
                rintro w_ ⟨k, E⟩
                (repeat with_reducible first | refine Stp.go ?_ | (apply hJ55; intro u_))
                refine Bi.add (by omega) ?_
                refine ⟨⟨i + 1, D2, X2, β2, by simp, by omega, by rw [ht2, ht], by rw [e]; exact hT2, ?_⟩, ?_⟩
                · exact E.drop (List.Sublist.cons_cons _ (List.Sublist.cons_cons _ (List.sublist_append_right k l)))
                · simp only []; omega
              clear hJ55
              (repeat with_reducible first | refine Stp.go ?_ | refine StpE.go E ?_)
              refine Bi.neq ?_ ?_ <;> intro hne <;> (repeat with_reducible refine Stp.go ?_)
              rotate_left
              cases cb
              · (repeat with_reducible refine Stp.go ?_); exact fin55 _ ⟨[_, _, _, _, _], (E.bIx 2).bIx 2⟩
              all_goals first | have hTq := hask (hcb rfl) | have hTq := (herr hne).1
              all_goals (repeat with_reducible refine Stp.go ?_)
              all_goals (replace E := ((E.bIx 2).bIx 2))
              all_goals rw [← ht2]
              all_goals obtain rfl := hTq
              all_goals refine (Files_ok hT2 hi' E).mono ?_
              all_goals clear E
              all_goals intro fv2 w_ E
              all_goals have r1 := RdS.sl (T := Ty.tree_File) (sz := 12) (v := fv) (xs := fcs T2.files) (by simp) (by omega) E
              all_goals have r2 := RdS.sl (T := Ty.tree_File) (sz := 12) (v := fv2) (xs := fcs T2.files) (by simp) (by omega) E
              all_goals rw [fcs_len, Nat.mul_div_cancel _ (by omega)] at r1 r2
              all_goals (repeat with_reducible refine Stp.go ?_)
              all_goals refine (eqFiles_ok (by omega) E r1 r2).mono ?_
              all_goals clear E
              all_goals rintro r w_ ⟨b1, rfl, hb1, E⟩
              all_goals obtain rfl : b1 = true := hb1.2 rfl
              all_goals (repeat with_reducible refine Stp.go ?_)
              all_goals (replace E := ((((E.bIx 3).bIx 1).bIx 3).bIx 3))
              all_goals refine (Handles_ok hT2 hi' E).mono ?_
              all_goals clear E
              all_goals intro hv2 w_ E
              all_goals have r3 := RdS.sl (T := Ty.int) (sz := 1) (v := hv) (xs := T2.handles.map i64) (by simp) (by omega) E
              all_goals have r4 := RdS.sl (T := Ty.int) (sz := 1) (v := hv2) (xs := T2.handles.map i64) (by simp) (by omega) E
              all_goals rw [Nat.div_one, List.length_map] at r3 r4
              all_goals have hhn : T2.handles.length ≤ 1000000000 := by unfold Tr.handles; rw [List.length_map]; omega
              all_goals (repeat with_reducible refine Stp.go ?_)
              all_goals refine (eqInts_ok hhn E r3 r4).mono ?_
              all_goals clear E
              all_goals rintro r w_ ⟨b2, rfl, hb2, E⟩
              all_goals obtain rfl : b2 = true := hb2.2 rfl
              all_goals (repeat with_reducible refine Stp.go ?_)
              all_goals (replace E := ((((E.bIx 3).bIx 1).bIx 3).bIx 3))
              all_goals refine (Clock_ok hT2 E).mono ?_
              all_goals clear E
              all_goals rintro r w_ ⟨rfl, E⟩
              all_goals (repeat with_reducible refine Stp.go ?_)
              all_goals refine Bi.neq (fun h => absurd rfl h) fun _ => ?_
              all_goals (repeat with_reducible refine Stp.go ?_)
              all_goals exact fin55 _ ⟨[_, _, _, _, _, _, _], E⟩
            clear hJ51
            (repeat with_reducible first | refine Stp.go ?_ | refine StpE.go E ?_)
            refine Bi.neq ?_ ?_ <;> intro hne <;> (repeat with_reducible first | refine Stp.go ?_ | refine StpE.go E ?_)
            · obtain ⟨en, rfl⟩ : ∃ en, a = { errno := en } := ⟨_, (herr hne).2⟩
              have r1 := RdS.sl (T := Ty.api_Dir) (sz := 10) (v := dv) (xs := dcs []) (by simp) (by omega) E
              refine (Same_ok (a := { errno := en }) (u := dv) (v := .slice none 0 0) (by simp) E r1 ⟨none, 0, rfl, Nat.le_refl _, rfl, .inl rfl⟩).mono ?_
              clear E
              rintro r w_ ⟨rfl, E⟩
              (repeat with_reducible refine Stp.go ?_)
              exact fin51 _ E
            · exact fin51 _ E
          clear hJ47
          (repeat with_reducible first | refine Stp.go ?_ | refine StpE.go E ?_)
          refine Bi.eql ?_ ?_ <;> intro k0 <;> (repeat with_reducible first | refine Stp.go ?_ | refine StpE.go E ?_)
          · exact fin47 true _ (fun _ => .inl k0) E
          refine Bi.eql ?_ ?_ <;> intro k1 <;> (repeat with_reducible first | refine Stp.go ?_ | refine StpE.go E ?_)
          · exact fin47 true _ (fun _ => .inr (.inl k1)) E
          refine Bi.eql ?_ ?_ <;> intro k5 <;> (repeat with_reducible first | refine Stp.go ?_ | refine StpE.go E ?_)
          · exact fin47 true _ (fun _ => .inr (.inr (.inl k5))) E
          refine Bi.eql ?_ ?_ <;> intro k6 <;> (repeat with_reducible first | refine Stp.go ?_ | refine StpE.go E ?_)
          · exact fin47 true _ (fun _ => .inr (.inr (.inr (.inl k6)))) E
          refine Bi.eql ?_ ?_ <;> intro k10 <;> (repeat with_reducible first | refine Stp.go ?_ | refine StpE.go E ?_)
          · exact fin47 true _ (fun _ => .inr (.inr (.inr (.inr (.inl k10))))) E
          refine Bi.eql ?_ ?_ <;> intro k11 <;> (repeat with_reducible refine Stp.go ?_)
          · exact fin47 true _ (fun _ => .inr (.inr (.inr (.inr (.inr k11))))) E
          exact fin47 false _ (fun h => by cases h) E
        · exact ⟨rfl, _, E⟩
      clear hJ18
      (repeat first | (with_reducible first | refine Stp.go ?_) | ((with_reducible refine Bi.dec false ?_ ?_); focus exact rfl))
      refine Eq.ef u_p_tree rfl ?_
      (repeat with_reducible refine Stp.go ?_)
      exact fin18 _ E
  clear hJ6
  (repeat with_reducible refine StpE.go E ?_)
  refine (small_ok (hg _) hb E).mono ?_
  clear E
  rintro r w_ ⟨rfl, E⟩
  refine Un.not ?_
  cases hs : decide (ssz owner gs ≤ 2000) with
  | false =>
    simp only [Bool.not_false]
    (repeat with_reducible refine Stp.go ?_)
    exact fin6 true _ (fun h => by cases h) E
  | true =>
    simp only [Bool.not_true]
    (repeat with_reducible refine Stp.go ?_)
    refine (Few_ok hxl (hr _) E).mono ?_
    clear E
    rintro r w_ ⟨b, rfl, hb2, E⟩
    (repeat with_reducible refine Stp.go ?_)
    refine Un.not ?_
    (repeat with_reducible refine Stp.go ?_)
    exact fin6 _ _ (fun hq => ⟨of_decide_eq_true hs, hb2 (by simpa using hq)⟩) E
end Go.Proofs.YtnnhmahemklnkaaGreatDoor
