/-
  The protocol: the reader of fields visits a message.
-/
import Derived.Test.YtmlccboapkkcfaaGreatDoorSx20
import Derived.Test.YtmlccboapkkcfaaGreatDoorSx8
namespace Go.Proofs.YtmlccboapkkcfaaGreatDoor
open Go Go.Sh
set_option maxRecDepth 100000
set_option linter.unusedVariables false
set_option linter.unusedSimpArgs false
variable {w0 w : World} {F : Nat → Prop} {l : List As}
variable {i mb : Nat} {I : Ip} {m : Ms} {nv qv : Value}
theorem ifl0 (m : Ms) (I : Ip) : Ip.flds [] m I = (m, I) := rfl
theorem ifl1 (m : Ms) (I : Ip) (a : Fl) : Ip.flds [a] m I = Ip.fld m I a := rfl
theorem ifl2 (m : Ms) (I : Ip) (a b : Fl) : Ip.flds [a, b] m I = Ip.fld (Ip.fld m I a).1 (Ip.fld m I a).2 b := rfl
theorem ifl3 (m : Ms) (I : Ip) (a b c : Fl) : Ip.flds [a, b, c] m I = Ip.fld (Ip.fld (Ip.fld m I a).1 (Ip.fld m I a).2 b).1 (Ip.fld (Ip.fld m I a).1 (Ip.fld m I a).2 b).2 c := rfl
theorem ifl4 (m : Ms) (I : Ip) (a b c d : Fl) : Ip.flds [a, b, c, d] m I = Ip.fld (Ip.fld (Ip.fld (Ip.fld m I a).1 (Ip.fld m I a).2 b).1 (Ip.fld (Ip.fld m I a).1 (Ip.fld m I a).2 b).2 c).1 (Ip.fld (Ip.fld (Ip.fld m I a).1 (Ip.fld m I a).2 b).1 (Ip.fld (Ip.fld m I a).1 (Ip.fld m I a).2 b).2 c).2 d := rfl
/-- What a visit leaves. -/
def IPo (w0 : World) (F : Nat → Prop) (i mb : Nat) (l : List As) (x : Ms × Ip) (w : World) : Prop :=
  ∃ nv qv X, RdS w0 F X 1 x.1.names.length nv (x.1.names.map sb) ∧ RdS w0 F X 3 x.1.qids.length qv (qqs x.1.qids) ∧ IT w0 F i x.2 (mA mb x.1 nv qv :: (X ++ l)) w
theorem rds_nil {sz : Nat} : RdS w0 F l sz 0 nilV [] := ⟨none, 0, rfl, Nat.le_refl _, by simp, .inl rfl⟩
theorem ipo_nil {x : Ms × Ip} (h1 : x.1.names = []) (h2 : x.1.qids = []) (E : IT w0 F i x.2 (mA mb x.1 nilV nilV :: l) w) : IPo w0 F i mb l x w := by
  refine ⟨nilV, nilV, [], ?_, ?_, E⟩
  · rw [h1]; exact rds_nil
  · rw [h2]; exact rds_nil
theorem ipo_n {x : Ms × Ip} {v : Value} (h2 : x.1.qids = []) (E : IT w0 F i x.2 (mA mb x.1 v nilV :: slA v Ty.string 1 (x.1.names.map sb) :: l) w) : IPo w0 F i mb l x w := by
  refine ⟨v, nilV, [slA v Ty.string 1 (x.1.names.map sb)], ?_, ?_, E⟩
  · have := RdS.sl (T := Ty.string) (v := v) (sz := 1) (xs := x.1.names.map sb) (l := [slA v Ty.string 1 (x.1.names.map sb)]) List.mem_cons_self (by omega) (E.rest.tl.drop (.cons_cons _ (List.nil_sublist _)))
    rwa [List.length_map, Nat.div_one] at this
  · rw [h2]; exact rds_nil
theorem ipo_Q {x : Ms × Ip} {v : Value} (h1 : x.1.names = []) (E : IT w0 F i x.2 (mA mb x.1 nilV v :: slA v Ty.api_Qid 3 (qqs x.1.qids) :: l) w) : IPo w0 F i mb l x w := by
  refine ⟨nilV, v, [slA v Ty.api_Qid 3 (qqs x.1.qids)], ?_, ?_, E⟩
  · rw [h1]; exact rds_nil
  · have := RdS.sl (T := Ty.api_Qid) (v := v) (sz := 3) (xs := qqs x.1.qids) (l := [slA v Ty.api_Qid 3 (qqs x.1.qids)]) List.mem_cons_self (by omega) (E.rest.tl.drop (.cons_cons _ (List.nil_sublist _)))
    rwa [qqs_len, Nat.mul_div_cancel _ (by omega)] at this
theorem ipo_q {x : Ms × Ip} {qb : Nat} {q : Qi} (h1 : x.1.names = []) (h2 : x.1.qids = [q]) (E : IT w0 F i x.2 (mA mb x.1 nilV (oneV qb) :: pt qb (oc (qcs q) Ty.api_Qid) :: l) w) : IPo w0 F i mb l x w := by
  refine ⟨nilV, oneV qb, [pt qb (oc (qcs q) Ty.api_Qid)], ?_, ?_, E⟩
  · rw [h1]; exact rds_nil
  · rw [h2]
    exact ⟨_, 1, rfl, Nat.le_refl _, rfl, .inr ⟨_, rfl, RdP.pt (off := 0) (cs := qcs q) (T := Ty.api_Qid) List.mem_cons_self⟩⟩
theorem il_S (E : IT w0 F i I (mA mb m nv qv :: l) w) : Ca PP Fn.styx_input_num #[ptr i, .pointer (some ⟨mb, 5, none⟩), i64 4] w fun q w' => q = .tuple #[] ∧ IT w0 F i (Ip.fld m I .xS).2 (mA mb (Ip.fld m I .xS).1 nv qv :: l) w' :=
  (inum_ok (k := 4) (by omega) (by simp) E).mono fun r w' h => h
theorem il_f (E : IT w0 F i I (mA mb m nv qv :: l) w) : Ca PP Fn.styx_input_num #[ptr i, .pointer (some ⟨mb, 2, none⟩), i64 4] w fun q w' => q = .tuple #[] ∧ IT w0 F i (Ip.fld m I .xf).2 (mA mb (Ip.fld m I .xf).1 nv qv :: l) w' :=
  (inum_ok (k := 4) (by omega) (by simp) E).mono fun r w' h => h
theorem il_o (E : IT w0 F i I (mA mb m nv qv :: l) w) : Ca PP Fn.styx_input_num #[ptr i, .pointer (some ⟨mb, 3, none⟩), i64 4] w fun q w' => q = .tuple #[] ∧ IT w0 F i (Ip.fld m I .xo).2 (mA mb (Ip.fld m I .xo).1 nv qv :: l) w' :=
  (inum_ok (k := 4) (by omega) (by simp) E).mono fun r w' h => h
theorem il_d (E : IT w0 F i I (mA mb m nv qv :: l) w) : Ca PP Fn.styx_input_num #[ptr i, .pointer (some ⟨mb, 4, none⟩), i64 2] w fun q w' => q = .tuple #[] ∧ IT w0 F i (Ip.fld m I .xd).2 (mA mb (Ip.fld m I .xd).1 nv qv :: l) w' :=
  (inum_ok (k := 2) (by omega) (by simp) E).mono fun r w' h => h
theorem il_m (E : IT w0 F i I (mA mb m nv qv :: l) w) : Ca PP Fn.styx_input_num #[ptr i, .pointer (some ⟨mb, 7, none⟩), i64 1] w fun q w' => q = .tuple #[] ∧ IT w0 F i (Ip.fld m I .xm).2 (mA mb (Ip.fld m I .xm).1 nv qv :: l) w' :=
  (inum_ok (k := 1) (by omega) (by simp) E).mono fun r w' h => h
theorem il_p (E : IT w0 F i I (mA mb m nv qv :: l) w) : Ca PP Fn.styx_input_num #[ptr i, .pointer (some ⟨mb, 8, none⟩), i64 4] w fun q w' => q = .tuple #[] ∧ IT w0 F i (Ip.fld m I .xp).2 (mA mb (Ip.fld m I .xp).1 nv qv :: l) w' :=
  (inum_ok (k := 4) (by omega) (by simp) E).mono fun r w' h => h
theorem il_v (E : IT w0 F i I (mA mb m nv qv :: l) w) : Ca PP Fn.styx_input_text #[ptr i, .pointer (some ⟨mb, 9, none⟩)] w fun q w' => q = .tuple #[] ∧ IT w0 F i (Ip.fld m I .xv).2 (mA mb (Ip.fld m I .xv).1 nv qv :: l) w' :=
  (itext_ok (by simp) E).mono fun r w' h => h
theorem il_u (E : IT w0 F i I (mA mb m nv qv :: l) w) : Ca PP Fn.styx_input_text #[ptr i, .pointer (some ⟨mb, 10, none⟩)] w fun q w' => q = .tuple #[] ∧ IT w0 F i (Ip.fld m I .xu).2 (mA mb (Ip.fld m I .xu).1 nv qv :: l) w' :=
  (itext_ok (by simp) E).mono fun r w' h => h
theorem il_t (E : IT w0 F i I (mA mb m nv qv :: l) w) : Ca PP Fn.styx_input_text #[ptr i, .pointer (some ⟨mb, 11, none⟩)] w fun q w' => q = .tuple #[] ∧ IT w0 F i (Ip.fld m I .xt).2 (mA mb (Ip.fld m I .xt).1 nv qv :: l) w' :=
  (itext_ok (by simp) E).mono fun r w' h => h
theorem il_N (E : IT w0 F i I (mA mb m nv qv :: l) w) : Ca PP Fn.styx_input_text #[ptr i, .pointer (some ⟨mb, 12, none⟩)] w fun q w' => q = .tuple #[] ∧ IT w0 F i (Ip.fld m I .xN).2 (mA mb (Ip.fld m I .xN).1 nv qv :: l) w' :=
  (itext_ok (by simp) E).mono fun r w' h => h
theorem il_D (E : IT w0 F i I (mA mb m nv qv :: l) w) : Ca PP Fn.styx_input_data #[ptr i, .pointer (some ⟨mb, 15, none⟩)] w fun q w' => q = .tuple #[] ∧ IT w0 F i (Ip.fld m I .xD).2 (mA mb (Ip.fld m I .xD).1 nv qv :: l) w' :=
  (idata_ok (by simp) E).mono fun r w' h => h
theorem il_O (E : IT w0 F i I (mA mb m nv qv :: l) w) : Ca PP Fn.styx_input_long #[ptr i, .pointer (some ⟨mb, 6, none⟩)] w fun q w' => q = .tuple #[] ∧ IT w0 F i (Ip.fld m I .xO).2 (mA mb (Ip.fld m I .xO).1 nv qv :: l) w' :=
  (ilong_ok (by simp) E).mono fun r w' h => h
theorem il_n (E : IT w0 F i I (mA mb m nilV nilV :: l) w) : Ca PP Fn.styx_input_names #[ptr i, .pointer (some ⟨mb, 13, none⟩)] w fun q w' => q = .tuple #[] ∧ ∃ v, IT w0 F i (Ip.fld m I .xn).2 (mA mb (Ip.fld m I .xn).1 v nilV :: slA v Ty.string 1 ((Ip.fld m I .xn).1.names.map sb) :: l) w' :=
  (inames_ok (by simp) rfl E).mono fun r w' h => h
theorem il_Q (E : IT w0 F i I (mA mb m nilV nilV :: l) w) : Ca PP Fn.styx_input_qids #[ptr i, .pointer (some ⟨mb, 14, none⟩)] w fun q w' => q = .tuple #[] ∧ ∃ v, IT w0 F i (Ip.fld m I .xQ).2 (mA mb (Ip.fld m I .xQ).1 nilV v :: slA v Ty.api_Qid 3 (qqs (Ip.fld m I .xQ).1.qids) :: l) w' :=
  (iqids_ok (by simp) rfl E).mono fun r w' h => h
theorem il_i (E : IT w0 F i I (mA mb m nv qv :: l) w) : Ca PP Fn.styx_input_dir #[ptr i, .pointer (some ⟨mb, 16, none⟩)] w fun q w' => q = .tuple #[] ∧ IT w0 F i (Ip.fld m I .xi).2 (mA mb (Ip.fld m I .xi).1 nv qv :: l) w' :=
  (idir_ok (pre := (MC m nv qv).take 16) (post := [i64 m.code]) rfl E).mono fun r w' h => h
theorem il_q (hm : m.qids = []) (E : IT w0 F i I (mA mb m nv nilV :: l) w) :
    Ca PP Fn.styx_one #[.iface Ty.p_styx_input (ptr i), ptr mb] w fun q w' => q = .tuple #[] ∧ ∃ qb, IT w0 F i (Ip.fld m I .xq).2 (mA mb (Ip.fld m I .xq).1 nv (oneV qb) :: pt qb (oc (qcs I.qid.1) Ty.api_Qid) :: l) w' := by
  refine S.styx_one.calls ?_
  unfold S.styx_one
  obtain ⟨r, t, n, e, E, h⟩ := E
  (intro J1 hJ1)
  have fin1 : ∀ qb w_, Hs w0 F w_ (pt i (oc [ptr r, .bool I.bad, .bool I.ov, .bool I.cut] Ty.styx_input) :: rA r t n e :: pt qb (oc [i64 0, i64 0, i64 0] Ty.api_Qid) :: mA mb m nv (oneV qb) :: l) → J1 [] w_ := by
    intro qb w_ E
    (repeat with_reducible first | refine Stp.go ?_ | refine StpE.go E ?_ | (apply hJ1; intro u_))
    refine ⟨_, 1, 1, .i64, 0, rfl, rfl, by omega, by decide, ?_⟩
    show Ca PP Fn.styx_qid #[.iface Ty.p_styx_input (ptr i), ptr qb] w_ _
    refine (iqid_ok (pre := []) (post := []) rfl rfl ⟨r, t, n, e, E, h⟩).mono ?_
    clear E h
    rintro q w_ ⟨rfl, E⟩
    exact ⟨rfl, qb, E.sw⟩
  clear hJ1
  (repeat first | (with_reducible first | refine Stp.go ?_ | refine StpE.go E ?_ | refine LnL.nil ?_) | ((with_reducible refine Bi.dec true ?_ ?_); focus exact rfl))
  refine MkQ E ?_
  clear E
  intro qb w_ hqb E
  (repeat with_reducible first | refine Stp.go ?_ | (refine StpW.go E ?_; clear E; intro w_ E))
  (replace E := (((E.bIx 0).bIx 2).bIx 2))
  exact fin1 qb _ E
theorem ik_100 (hk : m.kind = 100) (hn : m.names = []) (hq : m.qids = []) (E : IT w0 F i I (mA mb m nilV nilV :: l) w) :
    Ca PP Fn.styx_fields #[.iface Ty.p_styx_input (ptr i), ptr mb] w fun q w' => q = .tuple #[] ∧ IPo w0 F i mb l (Ip.flds [.xS, .xv] m I) w' := by
  refine S.styx_fields.calls ?_
  unfold S.styx_fields
  obtain ⟨r, t, n, e, E, h⟩ := E
  (repeat with_reducible first | refine Stp.go ?_ | refine StpE.go E ?_)
  rw [hk, ifl2]
  (repeat first | (with_reducible first | refine Stp.go ?_ | (refine StpW.go E ?_; clear E; intro w_ E) | (apply hJ_; intro u_)) | ((with_reducible refine Bi.dec true ?_ ?_); focus exact rfl) | (intro J_ hJ_))
  refine (il_S ⟨r, t, n, e, E, h⟩).mono ?_
  clear E h
  rintro q w_ ⟨rfl, r, t, n, e, E, h⟩
  (repeat with_reducible first | refine Stp.go ?_ | (refine StpW.go E ?_; clear E; intro w_ E))
  refine (il_v ⟨r, t, n, e, E, h⟩).mono ?_
  clear E h
  rintro q w_ ⟨rfl, r, t, n, e, E, h⟩
  skip
  exact ⟨rfl, ipo_nil hn hq ⟨r, t, n, e, E, h⟩⟩
theorem ik_101 (hk : m.kind = 101) (hn : m.names = []) (hq : m.qids = []) (E : IT w0 F i I (mA mb m nilV nilV :: l) w) :
    Ca PP Fn.styx_fields #[.iface Ty.p_styx_input (ptr i), ptr mb] w fun q w' => q = .tuple #[] ∧ IPo w0 F i mb l (Ip.flds [.xS, .xv] m I) w' := by
  refine S.styx_fields.calls ?_
  unfold S.styx_fields
  obtain ⟨r, t, n, e, E, h⟩ := E
  (repeat with_reducible first | refine Stp.go ?_ | refine StpE.go E ?_)
  rw [hk, ifl2]
  (repeat first | (with_reducible first | refine Stp.go ?_ | (refine StpW.go E ?_; clear E; intro w_ E) | (apply hJ_; intro u_)) | ((with_reducible refine Bi.dec true ?_ ?_); focus exact rfl) | ((with_reducible refine Bi.dec false ?_ ?_); focus exact rfl) | (intro J_ hJ_))
  refine (il_S ⟨r, t, n, e, E, h⟩).mono ?_
  clear E h
  rintro q w_ ⟨rfl, r, t, n, e, E, h⟩
  (repeat with_reducible first | refine Stp.go ?_ | (refine StpW.go E ?_; clear E; intro w_ E))
  refine (il_v ⟨r, t, n, e, E, h⟩).mono ?_
  clear E h
  rintro q w_ ⟨rfl, r, t, n, e, E, h⟩
  skip
  exact ⟨rfl, ipo_nil hn hq ⟨r, t, n, e, E, h⟩⟩
theorem ik_102 (hk : m.kind = 102) (hn : m.names = []) (hq : m.qids = []) (E : IT w0 F i I (mA mb m nilV nilV :: l) w) :
    Ca PP Fn.styx_fields #[.iface Ty.p_styx_input (ptr i), ptr mb] w fun q w' => q = .tuple #[] ∧ IPo w0 F i mb l (Ip.flds [.xf, .xu, .xt] m I) w' := by
  refine S.styx_fields.calls ?_
  unfold S.styx_fields
  obtain ⟨r, t, n, e, E, h⟩ := E
  (repeat with_reducible first | refine Stp.go ?_ | refine StpE.go E ?_)
  rw [hk, ifl3]
  (repeat first | (with_reducible first | refine Stp.go ?_ | (refine StpW.go E ?_; clear E; intro w_ E) | (apply hJ_; intro u_)) | ((with_reducible refine Bi.dec true ?_ ?_); focus exact rfl) | ((with_reducible refine Bi.dec false ?_ ?_); focus exact rfl) | (intro J_ hJ_))
  refine (il_f ⟨r, t, n, e, E, h⟩).mono ?_
  clear E h
  rintro q w_ ⟨rfl, r, t, n, e, E, h⟩
  (repeat with_reducible first | refine Stp.go ?_ | (refine StpW.go E ?_; clear E; intro w_ E))
  refine (il_u ⟨r, t, n, e, E, h⟩).mono ?_
  clear E h
  rintro q w_ ⟨rfl, r, t, n, e, E, h⟩
  (repeat with_reducible first | refine Stp.go ?_ | (refine StpW.go E ?_; clear E; intro w_ E))
  refine (il_t ⟨r, t, n, e, E, h⟩).mono ?_
  clear E h
  rintro q w_ ⟨rfl, r, t, n, e, E, h⟩
  skip
  exact ⟨rfl, ipo_nil hn hq ⟨r, t, n, e, E, h⟩⟩
theorem ik_103 (hk : m.kind = 103) (hn : m.names = []) (hq : m.qids = []) (E : IT w0 F i I (mA mb m nilV nilV :: l) w) :
    Ca PP Fn.styx_fields #[.iface Ty.p_styx_input (ptr i), ptr mb] w fun q w' => q = .tuple #[] ∧ IPo w0 F i mb l (Ip.flds [.xq] m I) w' := by
  refine S.styx_fields.calls ?_
  unfold S.styx_fields
  obtain ⟨r, t, n, e, E, h⟩ := E
  (repeat with_reducible first | refine Stp.go ?_ | refine StpE.go E ?_)
  rw [hk, ifl1]
  (repeat first | (with_reducible first | refine Stp.go ?_ | (apply hJ_; intro u_)) | ((with_reducible refine Bi.dec true ?_ ?_); focus exact rfl) | ((with_reducible refine Bi.dec false ?_ ?_); focus exact rfl) | (intro J_ hJ_))
  refine (il_q hq ⟨r, t, n, e, E, h⟩).mono ?_
  clear E h
  rintro q w_ ⟨rfl, qb, r, t, n, e, E, h⟩
  skip
  exact ⟨rfl, ipo_q hn rfl ⟨r, t, n, e, E, h⟩⟩
theorem ik_105 (hk : m.kind = 105) (hn : m.names = []) (hq : m.qids = []) (E : IT w0 F i I (mA mb m nilV nilV :: l) w) :
    Ca PP Fn.styx_fields #[.iface Ty.p_styx_input (ptr i), ptr mb] w fun q w' => q = .tuple #[] ∧ IPo w0 F i mb l (Ip.flds [.xq] m I) w' := by
  refine S.styx_fields.calls ?_
  unfold S.styx_fields
  obtain ⟨r, t, n, e, E, h⟩ := E
  (repeat with_reducible first | refine Stp.go ?_ | refine StpE.go E ?_)
  rw [hk, ifl1]
  (repeat first | (with_reducible first | refine Stp.go ?_ | (apply hJ_; intro u_)) | ((with_reducible refine Bi.dec true ?_ ?_); focus exact rfl) | ((with_reducible refine Bi.dec false ?_ ?_); focus exact rfl) | (intro J_ hJ_))
  refine (il_q hq ⟨r, t, n, e, E, h⟩).mono ?_
  clear E h
  rintro q w_ ⟨rfl, qb, r, t, n, e, E, h⟩
  skip
  exact ⟨rfl, ipo_q hn rfl ⟨r, t, n, e, E, h⟩⟩
theorem ik_104 (hk : m.kind = 104) (hn : m.names = []) (hq : m.qids = []) (E : IT w0 F i I (mA mb m nilV nilV :: l) w) :
    Ca PP Fn.styx_fields #[.iface Ty.p_styx_input (ptr i), ptr mb] w fun q w' => q = .tuple #[] ∧ IPo w0 F i mb l (Ip.flds [.xf, .xo, .xu, .xt] m I) w' := by
  refine S.styx_fields.calls ?_
  unfold S.styx_fields
  obtain ⟨r, t, n, e, E, h⟩ := E
  (repeat with_reducible first | refine Stp.go ?_ | refine StpE.go E ?_)
  rw [hk, ifl4]
  (repeat first | (with_reducible first | refine Stp.go ?_ | (refine StpW.go E ?_; clear E; intro w_ E) | (apply hJ_; intro u_)) | ((with_reducible refine Bi.dec true ?_ ?_); focus exact rfl) | ((with_reducible refine Bi.dec false ?_ ?_); focus exact rfl) | (intro J_ hJ_))
  refine (il_f ⟨r, t, n, e, E, h⟩).mono ?_
  clear E h
  rintro q w_ ⟨rfl, r, t, n, e, E, h⟩
  (repeat with_reducible first | refine Stp.go ?_ | (refine StpW.go E ?_; clear E; intro w_ E))
  refine (il_o ⟨r, t, n, e, E, h⟩).mono ?_
  clear E h
  rintro q w_ ⟨rfl, r, t, n, e, E, h⟩
  (repeat with_reducible first | refine Stp.go ?_ | (refine StpW.go E ?_; clear E; intro w_ E))
  refine (il_u ⟨r, t, n, e, E, h⟩).mono ?_
  clear E h
  rintro q w_ ⟨rfl, r, t, n, e, E, h⟩
  (repeat with_reducible first | refine Stp.go ?_ | (refine StpW.go E ?_; clear E; intro w_ E))
  refine (il_t ⟨r, t, n, e, E, h⟩).mono ?_
  clear E h
  rintro q w_ ⟨rfl, r, t, n, e, E, h⟩
  skip
  exact ⟨rfl, ipo_nil hn hq ⟨r, t, n, e, E, h⟩⟩
theorem ik_107 (hk : m.kind = 107) (hn : m.names = []) (hq : m.qids = []) (E : IT w0 F i I (mA mb m nilV nilV :: l) w) :
    Ca PP Fn.styx_fields #[.iface Ty.p_styx_input (ptr i), ptr mb] w fun q w' => q = .tuple #[] ∧ IPo w0 F i mb l (Ip.flds [.xc] m I) w' := by
  refine S.styx_fields.calls ?_
  unfold S.styx_fields
  obtain ⟨r, t, n, e, E, h⟩ := E
  (repeat with_reducible first | refine Stp.go ?_ | refine StpE.go E ?_)
  rw [hk, ifl1]
  (repeat first | (with_reducible first | refine Stp.go ?_ | refine StpE.go E ?_ | (refine StpW.go E ?_; clear E; intro w_ E) | (refine StpA.go E ?_; clear E; intro b_ w_ hb_ E) | (apply hJ_; intro u_)) | ((with_reducible refine Bi.dec true ?_ ?_); focus exact rfl) | ((with_reducible refine Bi.dec false ?_ ?_); focus exact rfl) | (intro J_ hJ_))
  (revert b_; intro c hbc E)
  (replace E := (((E.bIx 0).bIx 2).bIx 2))
  refine (inum_ok (k := 2) (off := 0) (by omega) (by simp) ⟨r, t, n, e, E, h⟩).mono ?_
  clear E h
  rintro q w_ ⟨rfl, r, t, n, e, E, h⟩
  (try simp only [List.set_cons_zero, List.set_cons_succ, List.cons_append, List.nil_append, Nat.zero_add, Nat.add_zero] at E)
  (repeat with_reducible first | refine Stp.go ?_ | refine StpE.go E ?_ | (refine StpW.go E ?_; clear E; intro w_ E))
  (replace E := ((((E.bIx 2).bIx 3).bIx 3).bIx 3))
  exact ⟨rfl, ipo_nil (x := Ip.fld m I .xc) hn hq ⟨r, t, n, e, E.drop (.cons_cons _ (.cons_cons _ (.cons_cons _ (.cons _ (List.Sublist.refl _))))), h⟩⟩
theorem ik_108 (hk : m.kind = 108) (hn : m.names = []) (hq : m.qids = []) (E : IT w0 F i I (mA mb m nilV nilV :: l) w) :
    Ca PP Fn.styx_fields #[.iface Ty.p_styx_input (ptr i), ptr mb] w fun q w' => q = .tuple #[] ∧ IPo w0 F i mb l (Ip.flds [.xd] m I) w' := by
  refine S.styx_fields.calls ?_
  unfold S.styx_fields
  obtain ⟨r, t, n, e, E, h⟩ := E
  (repeat with_reducible first | refine Stp.go ?_ | refine StpE.go E ?_)
  rw [hk, ifl1]
  (repeat first | (with_reducible first | refine Stp.go ?_ | (refine StpW.go E ?_; clear E; intro w_ E) | (apply hJ_; intro u_)) | ((with_reducible refine Bi.dec true ?_ ?_); focus exact rfl) | ((with_reducible refine Bi.dec false ?_ ?_); focus exact rfl) | (intro J_ hJ_))
  refine (il_d ⟨r, t, n, e, E, h⟩).mono ?_
  clear E h
  rintro q w_ ⟨rfl, r, t, n, e, E, h⟩
  skip
  exact ⟨rfl, ipo_nil hn hq ⟨r, t, n, e, E, h⟩⟩
theorem ik_110 (hk : m.kind = 110) (hn : m.names = []) (hq : m.qids = []) (E : IT w0 F i I (mA mb m nilV nilV :: l) w) :
    Ca PP Fn.styx_fields #[.iface Ty.p_styx_input (ptr i), ptr mb] w fun q w' => q = .tuple #[] ∧ IPo w0 F i mb l (Ip.flds [.xf, .xo, .xn] m I) w' := by
  refine S.styx_fields.calls ?_
  unfold S.styx_fields
  obtain ⟨r, t, n, e, E, h⟩ := E
  (repeat with_reducible first | refine Stp.go ?_ | refine StpE.go E ?_)
  rw [hk, ifl3]
  (repeat first | (with_reducible first | refine Stp.go ?_ | (refine StpW.go E ?_; clear E; intro w_ E) | (apply hJ_; intro u_)) | ((with_reducible refine Bi.dec true ?_ ?_); focus exact rfl) | ((with_reducible refine Bi.dec false ?_ ?_); focus exact rfl) | (intro J_ hJ_))
  refine (il_f ⟨r, t, n, e, E, h⟩).mono ?_
  clear E h
  rintro q w_ ⟨rfl, r, t, n, e, E, h⟩
  (repeat with_reducible first | refine Stp.go ?_ | (refine StpW.go E ?_; clear E; intro w_ E))
  refine (il_o ⟨r, t, n, e, E, h⟩).mono ?_
  clear E h
  rintro q w_ ⟨rfl, r, t, n, e, E, h⟩
  (repeat with_reducible first | refine Stp.go ?_ | (refine StpW.go E ?_; clear E; intro w_ E))
  refine (il_n ⟨r, t, n, e, E, h⟩).mono ?_
  clear E h
  rintro q w_ ⟨rfl, v, E⟩
  exact ⟨rfl, ipo_n hq E⟩
theorem ik_111 (hk : m.kind = 111) (hn : m.names = []) (hq : m.qids = []) (E : IT w0 F i I (mA mb m nilV nilV :: l) w) :
    Ca PP Fn.styx_fields #[.iface Ty.p_styx_input (ptr i), ptr mb] w fun q w' => q = .tuple #[] ∧ IPo w0 F i mb l (Ip.flds [.xQ] m I) w' := by
  refine S.styx_fields.calls ?_
  unfold S.styx_fields
  obtain ⟨r, t, n, e, E, h⟩ := E
  (repeat with_reducible first | refine Stp.go ?_ | refine StpE.go E ?_)
  rw [hk, ifl1]
  (repeat first | (with_reducible first | refine Stp.go ?_ | (refine StpW.go E ?_; clear E; intro w_ E) | (apply hJ_; intro u_)) | ((with_reducible refine Bi.dec true ?_ ?_); focus exact rfl) | ((with_reducible refine Bi.dec false ?_ ?_); focus exact rfl) | (intro J_ hJ_))
  refine (il_Q ⟨r, t, n, e, E, h⟩).mono ?_
  clear E h
  rintro q w_ ⟨rfl, v, E⟩
  exact ⟨rfl, ipo_Q hn E⟩
theorem ik_112 (hk : m.kind = 112) (hn : m.names = []) (hq : m.qids = []) (E : IT w0 F i I (mA mb m nilV nilV :: l) w) :
    Ca PP Fn.styx_fields #[.iface Ty.p_styx_input (ptr i), ptr mb] w fun q w' => q = .tuple #[] ∧ IPo w0 F i mb l (Ip.flds [.xf, .xm] m I) w' := by
  refine S.styx_fields.calls ?_
  unfold S.styx_fields
  obtain ⟨r, t, n, e, E, h⟩ := E
  (repeat with_reducible first | refine Stp.go ?_ | refine StpE.go E ?_)
  rw [hk, ifl2]
  (repeat first | (with_reducible first | refine Stp.go ?_ | (refine StpW.go E ?_; clear E; intro w_ E) | (apply hJ_; intro u_)) | ((with_reducible refine Bi.dec true ?_ ?_); focus exact rfl) | ((with_reducible refine Bi.dec false ?_ ?_); focus exact rfl) | (intro J_ hJ_))
  refine (il_f ⟨r, t, n, e, E, h⟩).mono ?_
  clear E h
  rintro q w_ ⟨rfl, r, t, n, e, E, h⟩
  (repeat with_reducible first | refine Stp.go ?_ | (refine StpW.go E ?_; clear E; intro w_ E))
  refine (il_m ⟨r, t, n, e, E, h⟩).mono ?_
  clear E h
  rintro q w_ ⟨rfl, r, t, n, e, E, h⟩
  skip
  exact ⟨rfl, ipo_nil hn hq ⟨r, t, n, e, E, h⟩⟩
theorem ik_113 (hk : m.kind = 113) (hn : m.names = []) (hq : m.qids = []) (E : IT w0 F i I (mA mb m nilV nilV :: l) w) :
    Ca PP Fn.styx_fields #[.iface Ty.p_styx_input (ptr i), ptr mb] w fun q w' => q = .tuple #[] ∧ IPo w0 F i mb l (Ip.flds [.xq, .xS] m I) w' := by
  refine S.styx_fields.calls ?_
  unfold S.styx_fields
  obtain ⟨r, t, n, e, E, h⟩ := E
  (repeat with_reducible first | refine Stp.go ?_ | refine StpE.go E ?_)
  rw [hk, ifl2]
  (repeat first | (with_reducible first | refine Stp.go ?_ | (apply hJ_; intro u_)) | ((with_reducible refine Bi.dec true ?_ ?_); focus exact rfl) | ((with_reducible refine Bi.dec false ?_ ?_); focus exact rfl) | (intro J_ hJ_))
  refine (il_q hq ⟨r, t, n, e, E, h⟩).mono ?_
  clear E h
  rintro q w_ ⟨rfl, qb, r, t, n, e, E, h⟩
  (repeat with_reducible first | refine Stp.go ?_ | (refine StpW.go E ?_; clear E; intro w_ E))
  refine (il_S ⟨r, t, n, e, E, h⟩).mono ?_
  clear E h
  rintro q w_ ⟨rfl, r, t, n, e, E, h⟩
  skip
  exact ⟨rfl, ipo_q hn rfl ⟨r, t, n, e, E, h⟩⟩
theorem ik_115 (hk : m.kind = 115) (hn : m.names = []) (hq : m.qids = []) (E : IT w0 F i I (mA mb m nilV nilV :: l) w) :
    Ca PP Fn.styx_fields #[.iface Ty.p_styx_input (ptr i), ptr mb] w fun q w' => q = .tuple #[] ∧ IPo w0 F i mb l (Ip.flds [.xq, .xS] m I) w' := by
  refine S.styx_fields.calls ?_
  unfold S.styx_fields
  obtain ⟨r, t, n, e, E, h⟩ := E
  (repeat with_reducible first | refine Stp.go ?_ | refine StpE.go E ?_)
  rw [hk, ifl2]
  (repeat first | (with_reducible first | refine Stp.go ?_ | (apply hJ_; intro u_)) | ((with_reducible refine Bi.dec true ?_ ?_); focus exact rfl) | ((with_reducible refine Bi.dec false ?_ ?_); focus exact rfl) | (intro J_ hJ_))
  refine (il_q hq ⟨r, t, n, e, E, h⟩).mono ?_
  clear E h
  rintro q w_ ⟨rfl, qb, r, t, n, e, E, h⟩
  (repeat with_reducible first | refine Stp.go ?_ | (refine StpW.go E ?_; clear E; intro w_ E))
  refine (il_S ⟨r, t, n, e, E, h⟩).mono ?_
  clear E h
  rintro q w_ ⟨rfl, r, t, n, e, E, h⟩
  skip
  exact ⟨rfl, ipo_q hn rfl ⟨r, t, n, e, E, h⟩⟩
theorem ik_114 (hk : m.kind = 114) (hn : m.names = []) (hq : m.qids = []) (E : IT w0 F i I (mA mb m nilV nilV :: l) w) :
    Ca PP Fn.styx_fields #[.iface Ty.p_styx_input (ptr i), ptr mb] w fun q w' => q = .tuple #[] ∧ IPo w0 F i mb l (Ip.flds [.xf, .xN, .xp, .xm] m I) w' := by
  refine S.styx_fields.calls ?_
  unfold S.styx_fields
  obtain ⟨r, t, n, e, E, h⟩ := E
  (repeat with_reducible first | refine Stp.go ?_ | refine StpE.go E ?_)
  rw [hk, ifl4]
  (repeat first | (with_reducible first | refine Stp.go ?_ | (refine StpW.go E ?_; clear E; intro w_ E) | (apply hJ_; intro u_)) | ((with_reducible refine Bi.dec true ?_ ?_); focus exact rfl) | ((with_reducible refine Bi.dec false ?_ ?_); focus exact rfl) | (intro J_ hJ_))
  refine (il_f ⟨r, t, n, e, E, h⟩).mono ?_
  clear E h
  rintro q w_ ⟨rfl, r, t, n, e, E, h⟩
  (repeat with_reducible first | refine Stp.go ?_ | (refine StpW.go E ?_; clear E; intro w_ E))
  refine (il_N ⟨r, t, n, e, E, h⟩).mono ?_
  clear E h
  rintro q w_ ⟨rfl, r, t, n, e, E, h⟩
  (repeat with_reducible first | refine Stp.go ?_ | (refine StpW.go E ?_; clear E; intro w_ E))
  refine (il_p ⟨r, t, n, e, E, h⟩).mono ?_
  clear E h
  rintro q w_ ⟨rfl, r, t, n, e, E, h⟩
  (repeat with_reducible first | refine Stp.go ?_ | (refine StpW.go E ?_; clear E; intro w_ E))
  refine (il_m ⟨r, t, n, e, E, h⟩).mono ?_
  clear E h
  rintro q w_ ⟨rfl, r, t, n, e, E, h⟩
  skip
  exact ⟨rfl, ipo_nil hn hq ⟨r, t, n, e, E, h⟩⟩
theorem ik_116 (hk : m.kind = 116) (hn : m.names = []) (hq : m.qids = []) (E : IT w0 F i I (mA mb m nilV nilV :: l) w) :
    Ca PP Fn.styx_fields #[.iface Ty.p_styx_input (ptr i), ptr mb] w fun q w' => q = .tuple #[] ∧ IPo w0 F i mb l (Ip.flds [.xf, .xO, .xS] m I) w' := by
  refine S.styx_fields.calls ?_
  unfold S.styx_fields
  obtain ⟨r, t, n, e, E, h⟩ := E
  (repeat with_reducible first | refine Stp.go ?_ | refine StpE.go E ?_)
  rw [hk, ifl3]
  (repeat first | (with_reducible first | refine Stp.go ?_ | (refine StpW.go E ?_; clear E; intro w_ E) | (apply hJ_; intro u_)) | ((with_reducible refine Bi.dec true ?_ ?_); focus exact rfl) | ((with_reducible refine Bi.dec false ?_ ?_); focus exact rfl) | (intro J_ hJ_))
  refine (il_f ⟨r, t, n, e, E, h⟩).mono ?_
  clear E h
  rintro q w_ ⟨rfl, r, t, n, e, E, h⟩
  (repeat with_reducible first | refine Stp.go ?_ | (refine StpW.go E ?_; clear E; intro w_ E))
  refine (il_O ⟨r, t, n, e, E, h⟩).mono ?_
  clear E h
  rintro q w_ ⟨rfl, r, t, n, e, E, h⟩
  (repeat with_reducible first | refine Stp.go ?_ | (refine StpW.go E ?_; clear E; intro w_ E))
  refine (il_S ⟨r, t, n, e, E, h⟩).mono ?_
  clear E h
  rintro q w_ ⟨rfl, r, t, n, e, E, h⟩
  skip
  exact ⟨rfl, ipo_nil hn hq ⟨r, t, n, e, E, h⟩⟩
theorem ik_117 (hk : m.kind = 117) (hn : m.names = []) (hq : m.qids = []) (E : IT w0 F i I (mA mb m nilV nilV :: l) w) :
    Ca PP Fn.styx_fields #[.iface Ty.p_styx_input (ptr i), ptr mb] w fun q w' => q = .tuple #[] ∧ IPo w0 F i mb l (Ip.flds [.xD] m I) w' := by
  refine S.styx_fields.calls ?_
  unfold S.styx_fields
  obtain ⟨r, t, n, e, E, h⟩ := E
  (repeat with_reducible first | refine Stp.go ?_ | refine StpE.go E ?_)
  rw [hk, ifl1]
  (repeat first | (with_reducible first | refine Stp.go ?_ | (refine StpW.go E ?_; clear E; intro w_ E) | (apply hJ_; intro u_)) | ((with_reducible refine Bi.dec true ?_ ?_); focus exact rfl) | ((with_reducible refine Bi.dec false ?_ ?_); focus exact rfl) | (intro J_ hJ_))
  refine (il_D ⟨r, t, n, e, E, h⟩).mono ?_
  clear E h
  rintro q w_ ⟨rfl, r, t, n, e, E, h⟩
  skip
  exact ⟨rfl, ipo_nil hn hq ⟨r, t, n, e, E, h⟩⟩
theorem ik_118 (hk : m.kind = 118) (hn : m.names = []) (hq : m.qids = []) (E : IT w0 F i I (mA mb m nilV nilV :: l) w) :
    Ca PP Fn.styx_fields #[.iface Ty.p_styx_input (ptr i), ptr mb] w fun q w' => q = .tuple #[] ∧ IPo w0 F i mb l (Ip.flds [.xf, .xO, .xD] m I) w' := by
  refine S.styx_fields.calls ?_
  unfold S.styx_fields
  obtain ⟨r, t, n, e, E, h⟩ := E
  (repeat with_reducible first | refine Stp.go ?_ | refine StpE.go E ?_)
  rw [hk, ifl3]
  (repeat first | (with_reducible first | refine Stp.go ?_ | (refine StpW.go E ?_; clear E; intro w_ E) | (apply hJ_; intro u_)) | ((with_reducible refine Bi.dec true ?_ ?_); focus exact rfl) | ((with_reducible refine Bi.dec false ?_ ?_); focus exact rfl) | (intro J_ hJ_))
  refine (il_f ⟨r, t, n, e, E, h⟩).mono ?_
  clear E h
  rintro q w_ ⟨rfl, r, t, n, e, E, h⟩
  (repeat with_reducible first | refine Stp.go ?_ | (refine StpW.go E ?_; clear E; intro w_ E))
  refine (il_O ⟨r, t, n, e, E, h⟩).mono ?_
  clear E h
  rintro q w_ ⟨rfl, r, t, n, e, E, h⟩
  (repeat with_reducible first | refine Stp.go ?_ | (refine StpW.go E ?_; clear E; intro w_ E))
  refine (il_D ⟨r, t, n, e, E, h⟩).mono ?_
  clear E h
  rintro q w_ ⟨rfl, r, t, n, e, E, h⟩
  skip
  exact ⟨rfl, ipo_nil hn hq ⟨r, t, n, e, E, h⟩⟩
theorem ik_119 (hk : m.kind = 119) (hn : m.names = []) (hq : m.qids = []) (E : IT w0 F i I (mA mb m nilV nilV :: l) w) :
    Ca PP Fn.styx_fields #[.iface Ty.p_styx_input (ptr i), ptr mb] w fun q w' => q = .tuple #[] ∧ IPo w0 F i mb l (Ip.flds [.xS] m I) w' := by
  refine S.styx_fields.calls ?_
  unfold S.styx_fields
  obtain ⟨r, t, n, e, E, h⟩ := E
  (repeat with_reducible first | refine Stp.go ?_ | refine StpE.go E ?_)
  rw [hk, ifl1]
  (repeat first | (with_reducible first | refine Stp.go ?_ | (refine StpW.go E ?_; clear E; intro w_ E) | (apply hJ_; intro u_)) | ((with_reducible refine Bi.dec true ?_ ?_); focus exact rfl) | ((with_reducible refine Bi.dec false ?_ ?_); focus exact rfl) | (intro J_ hJ_))
  refine (il_S ⟨r, t, n, e, E, h⟩).mono ?_
  clear E h
  rintro q w_ ⟨rfl, r, t, n, e, E, h⟩
  skip
  exact ⟨rfl, ipo_nil hn hq ⟨r, t, n, e, E, h⟩⟩
theorem ik_120 (hk : m.kind = 120) (hn : m.names = []) (hq : m.qids = []) (E : IT w0 F i I (mA mb m nilV nilV :: l) w) :
    Ca PP Fn.styx_fields #[.iface Ty.p_styx_input (ptr i), ptr mb] w fun q w' => q = .tuple #[] ∧ IPo w0 F i mb l (Ip.flds [.xf] m I) w' := by
  refine S.styx_fields.calls ?_
  unfold S.styx_fields
  obtain ⟨r, t, n, e, E, h⟩ := E
  (repeat with_reducible first | refine Stp.go ?_ | refine StpE.go E ?_)
  rw [hk, ifl1]
  (repeat first | (with_reducible first | refine Stp.go ?_ | (refine StpW.go E ?_; clear E; intro w_ E) | (apply hJ_; intro u_)) | ((with_reducible refine Bi.dec true ?_ ?_); focus exact rfl) | ((with_reducible refine Bi.dec false ?_ ?_); focus exact rfl) | (intro J_ hJ_))
  refine (il_f ⟨r, t, n, e, E, h⟩).mono ?_
  clear E h
  rintro q w_ ⟨rfl, r, t, n, e, E, h⟩
  skip
  exact ⟨rfl, ipo_nil hn hq ⟨r, t, n, e, E, h⟩⟩
theorem ik_122 (hk : m.kind = 122) (hn : m.names = []) (hq : m.qids = []) (E : IT w0 F i I (mA mb m nilV nilV :: l) w) :
    Ca PP Fn.styx_fields #[.iface Ty.p_styx_input (ptr i), ptr mb] w fun q w' => q = .tuple #[] ∧ IPo w0 F i mb l (Ip.flds [.xf] m I) w' := by
  refine S.styx_fields.calls ?_
  unfold S.styx_fields
  obtain ⟨r, t, n, e, E, h⟩ := E
  (repeat with_reducible first | refine Stp.go ?_ | refine StpE.go E ?_)
  rw [hk, ifl1]
  (repeat first | (with_reducible first | refine Stp.go ?_ | (refine StpW.go E ?_; clear E; intro w_ E) | (apply hJ_; intro u_)) | ((with_reducible refine Bi.dec true ?_ ?_); focus exact rfl) | ((with_reducible refine Bi.dec false ?_ ?_); focus exact rfl) | (intro J_ hJ_))
  refine (il_f ⟨r, t, n, e, E, h⟩).mono ?_
  clear E h
  rintro q w_ ⟨rfl, r, t, n, e, E, h⟩
  skip
  exact ⟨rfl, ipo_nil hn hq ⟨r, t, n, e, E, h⟩⟩
theorem ik_124 (hk : m.kind = 124) (hn : m.names = []) (hq : m.qids = []) (E : IT w0 F i I (mA mb m nilV nilV :: l) w) :
    Ca PP Fn.styx_fields #[.iface Ty.p_styx_input (ptr i), ptr mb] w fun q w' => q = .tuple #[] ∧ IPo w0 F i mb l (Ip.flds [.xf] m I) w' := by
  refine S.styx_fields.calls ?_
  unfold S.styx_fields
  obtain ⟨r, t, n, e, E, h⟩ := E
  (repeat with_reducible first | refine Stp.go ?_ | refine StpE.go E ?_)
  rw [hk, ifl1]
  (repeat first | (with_reducible first | refine Stp.go ?_ | (refine StpW.go E ?_; clear E; intro w_ E) | (apply hJ_; intro u_)) | ((with_reducible refine Bi.dec true ?_ ?_); focus exact rfl) | ((with_reducible refine Bi.dec false ?_ ?_); focus exact rfl) | (intro J_ hJ_))
  refine (il_f ⟨r, t, n, e, E, h⟩).mono ?_
  clear E h
  rintro q w_ ⟨rfl, r, t, n, e, E, h⟩
  skip
  exact ⟨rfl, ipo_nil hn hq ⟨r, t, n, e, E, h⟩⟩
theorem ik_125 (hk : m.kind = 125) (hn : m.names = []) (hq : m.qids = []) (E : IT w0 F i I (mA mb m nilV nilV :: l) w) :
    Ca PP Fn.styx_fields #[.iface Ty.p_styx_input (ptr i), ptr mb] w fun q w' => q = .tuple #[] ∧ IPo w0 F i mb l (Ip.flds [.xi] m I) w' := by
  refine S.styx_fields.calls ?_
  unfold S.styx_fields
  obtain ⟨r, t, n, e, E, h⟩ := E
  (repeat with_reducible first | refine Stp.go ?_ | refine StpE.go E ?_)
  rw [hk, ifl1]
  (repeat first | (with_reducible first | refine Stp.go ?_ | (refine StpW.go E ?_; clear E; intro w_ E) | (apply hJ_; intro u_)) | ((with_reducible refine Bi.dec true ?_ ?_); focus exact rfl) | ((with_reducible refine Bi.dec false ?_ ?_); focus exact rfl) | (intro J_ hJ_))
  refine (il_i ⟨r, t, n, e, E, h⟩).mono ?_
  clear E h
  rintro q w_ ⟨rfl, r, t, n, e, E, h⟩
  skip
  exact ⟨rfl, ipo_nil hn hq ⟨r, t, n, e, E, h⟩⟩
theorem ik_126 (hk : m.kind = 126) (hn : m.names = []) (hq : m.qids = []) (E : IT w0 F i I (mA mb m nilV nilV :: l) w) :
    Ca PP Fn.styx_fields #[.iface Ty.p_styx_input (ptr i), ptr mb] w fun q w' => q = .tuple #[] ∧ IPo w0 F i mb l (Ip.flds [.xf, .xi] m I) w' := by
  refine S.styx_fields.calls ?_
  unfold S.styx_fields
  obtain ⟨r, t, n, e, E, h⟩ := E
  (repeat with_reducible first | refine Stp.go ?_ | refine StpE.go E ?_)
  rw [hk, ifl2]
  (repeat first | (with_reducible first | refine Stp.go ?_ | (refine StpW.go E ?_; clear E; intro w_ E) | (apply hJ_; intro u_)) | ((with_reducible refine Bi.dec true ?_ ?_); focus exact rfl) | ((with_reducible refine Bi.dec false ?_ ?_); focus exact rfl) | (intro J_ hJ_))
  refine (il_f ⟨r, t, n, e, E, h⟩).mono ?_
  clear E h
  rintro q w_ ⟨rfl, r, t, n, e, E, h⟩
  (repeat with_reducible first | refine Stp.go ?_ | (refine StpW.go E ?_; clear E; intro w_ E))
  refine (il_i ⟨r, t, n, e, E, h⟩).mono ?_
  clear E h
  rintro q w_ ⟨rfl, r, t, n, e, E, h⟩
  skip
  exact ⟨rfl, ipo_nil hn hq ⟨r, t, n, e, E, h⟩⟩
theorem ik_109 (hk : m.kind = 109) (hn : m.names = []) (hq : m.qids = []) (E : IT w0 F i I (mA mb m nilV nilV :: l) w) :
    Ca PP Fn.styx_fields #[.iface Ty.p_styx_input (ptr i), ptr mb] w fun q w' => q = .tuple #[] ∧ IPo w0 F i mb l (Ip.flds [] m I) w' := by
  refine S.styx_fields.calls ?_
  unfold S.styx_fields
  obtain ⟨r, t, n, e, E, h⟩ := E
  (repeat with_reducible first | refine Stp.go ?_ | refine StpE.go E ?_)
  rw [hk, ifl0]
  (repeat first | (with_reducible first | refine Stp.go ?_ | (apply hJ_; intro u_)) | ((with_reducible refine Bi.dec false ?_ ?_); focus exact rfl) | (intro J_ hJ_))
  exact ⟨rfl, ipo_nil hn hq ⟨r, t, n, e, E, h⟩⟩
theorem ik_121 (hk : m.kind = 121) (hn : m.names = []) (hq : m.qids = []) (E : IT w0 F i I (mA mb m nilV nilV :: l) w) :
    Ca PP Fn.styx_fields #[.iface Ty.p_styx_input (ptr i), ptr mb] w fun q w' => q = .tuple #[] ∧ IPo w0 F i mb l (Ip.flds [] m I) w' := by
  refine S.styx_fields.calls ?_
  unfold S.styx_fields
  obtain ⟨r, t, n, e, E, h⟩ := E
  (repeat with_reducible first | refine Stp.go ?_ | refine StpE.go E ?_)
  rw [hk, ifl0]
  (repeat first | (with_reducible first | refine Stp.go ?_ | (apply hJ_; intro u_)) | ((with_reducible refine Bi.dec false ?_ ?_); focus exact rfl) | (intro J_ hJ_))
  exact ⟨rfl, ipo_nil hn hq ⟨r, t, n, e, E, h⟩⟩
theorem ik_123 (hk : m.kind = 123) (hn : m.names = []) (hq : m.qids = []) (E : IT w0 F i I (mA mb m nilV nilV :: l) w) :
    Ca PP Fn.styx_fields #[.iface Ty.p_styx_input (ptr i), ptr mb] w fun q w' => q = .tuple #[] ∧ IPo w0 F i mb l (Ip.flds [] m I) w' := by
  refine S.styx_fields.calls ?_
  unfold S.styx_fields
  obtain ⟨r, t, n, e, E, h⟩ := E
  (repeat with_reducible first | refine Stp.go ?_ | refine StpE.go E ?_)
  rw [hk, ifl0]
  (repeat first | (with_reducible first | refine Stp.go ?_ | (apply hJ_; intro u_)) | ((with_reducible refine Bi.dec false ?_ ?_); focus exact rfl) | (intro J_ hJ_))
  exact ⟨rfl, ipo_nil hn hq ⟨r, t, n, e, E, h⟩⟩
theorem ik_127 (hk : m.kind = 127) (hn : m.names = []) (hq : m.qids = []) (E : IT w0 F i I (mA mb m nilV nilV :: l) w) :
    Ca PP Fn.styx_fields #[.iface Ty.p_styx_input (ptr i), ptr mb] w fun q w' => q = .tuple #[] ∧ IPo w0 F i mb l (Ip.flds [] m I) w' := by
  refine S.styx_fields.calls ?_
  unfold S.styx_fields
  obtain ⟨r, t, n, e, E, h⟩ := E
  (repeat with_reducible first | refine Stp.go ?_ | refine StpE.go E ?_)
  rw [hk, ifl0]
  (repeat first | (with_reducible first | refine Stp.go ?_ | (apply hJ_; intro u_)) | ((with_reducible refine Bi.dec false ?_ ?_); focus exact rfl) | (intro J_ hJ_))
  exact ⟨rfl, ipo_nil hn hq ⟨r, t, n, e, E, h⟩⟩
theorem ifields_ok {fl : List Fl} (hfl : fls m.kind = some fl) (hn : m.names = []) (hq : m.qids = []) (E : IT w0 F i I (mA mb m nilV nilV :: l) w) :
    Ca PP Fn.styx_fields #[.iface Ty.p_styx_input (ptr i), ptr mb] w fun q w' => q = .tuple #[] ∧ IPo w0 F i mb l (Ip.flds fl m I) w' := by
  rcases fls_cases hfl with ⟨(hk | hk), rfl⟩ | ⟨hk, rfl⟩ | ⟨(hk | hk), rfl⟩ | ⟨hk, rfl⟩ | ⟨hk, rfl⟩ | ⟨hk, rfl⟩ | ⟨hk, rfl⟩ | ⟨hk, rfl⟩ | ⟨hk, rfl⟩ | ⟨(hk | hk), rfl⟩ | ⟨hk, rfl⟩ | ⟨hk, rfl⟩ | ⟨hk, rfl⟩ | ⟨hk, rfl⟩ | ⟨hk, rfl⟩ | ⟨(hk | hk | hk), rfl⟩ | ⟨hk, rfl⟩ | ⟨hk, rfl⟩ | ⟨(hk | hk | hk | hk), rfl⟩
  · exact ik_100 hk hn hq E
  · exact ik_101 hk hn hq E
  · exact ik_102 hk hn hq E
  · exact ik_103 hk hn hq E
  · exact ik_105 hk hn hq E
  · exact ik_104 hk hn hq E
  · exact ik_107 hk hn hq E
  · exact ik_108 hk hn hq E
  · exact ik_110 hk hn hq E
  · exact ik_111 hk hn hq E
  · exact ik_112 hk hn hq E
  · exact ik_113 hk hn hq E
  · exact ik_115 hk hn hq E
  · exact ik_114 hk hn hq E
  · exact ik_116 hk hn hq E
  · exact ik_117 hk hn hq E
  · exact ik_118 hk hn hq E
  · exact ik_119 hk hn hq E
  · exact ik_120 hk hn hq E
  · exact ik_122 hk hn hq E
  · exact ik_124 hk hn hq E
  · exact ik_125 hk hn hq E
  · exact ik_126 hk hn hq E
  · exact ik_109 hk hn hq E
  · exact ik_121 hk hn hq E
  · exact ik_123 hk hn hq E
  · exact ik_127 hk hn hq E
end Go.Proofs.YtmlccboapkkcfaaGreatDoor

/-
  The protocol: Decode.
-/
namespace Go.Proofs.YtmlccboapkkcfaaGreatDoor
open Go Go.Sh
set_option maxRecDepth 100000
set_option linter.unusedVariables false
set_option linter.unusedSimpArgs false
variable {w0 w : World} {F : Nat → Prop} {l : List As}
variable {s : List UInt8}
theorem length_ok (hs : s.length ≤ 1000000000000) (E : Hs w0 F w l) : Ca PP Fn.styx_length #[sb s] w fun q w' => q = i64 ((if 4 ≤ s.length then un (s.take 4) else 0 : Nat) : Int) ∧ Hs w0 F w' l := by
  refine S.styx_length.calls ?_
  unfold S.styx_length
  refine (NewReader_ok E).mono ?_
  clear E
  rintro q w_ ⟨r, rfl, E⟩
  refine (RLittle_ok (n := 4) (by omega) hs (Nat.zero_le _) E).mono ?_
  clear E
  rintro q w_ (⟨he, _⟩ | ⟨he, x, n', rfl, hn, hp, E⟩ | ⟨he, hp, e', he', rfl, E⟩)
  · exact absurd rfl he
  · (repeat with_reducible refine Stp.go ?_)
    unfold rd at hp
    rw [List.drop_zero] at hp
    by_cases h4 : 4 ≤ s.length
    · rw [if_pos h4] at hp ⊢
      have := congrArg (fun o => o.map Prod.fst) hp
      simp only [Option.map_some] at this
      exact ⟨(Option.some.inj this).symm, E.tl⟩
    · rw [if_neg h4] at hp; cases hp
  · (repeat with_reducible refine Stp.go ?_)
    unfold rd at hp
    rw [List.drop_zero] at hp
    by_cases h4 : 4 ≤ s.length
    · rw [if_pos h4] at hp; cases hp
    · rw [if_neg h4]
      exact ⟨rfl, E.tl⟩
/-- A message that was read, and where its lists lie. -/
def DMs (w0 : World) (F : Nat → Prop) (l : List As) (m : Ms) (e : Int) (q : Value) (w : World) : Prop :=
  ∃ nv qv X, q = .tuple #[.agg (MC m nv qv).toArray, i64 e] ∧ RdS w0 F X 1 m.names.length nv (m.names.map sb) ∧ RdS w0 F X 3 m.qids.length qv (qqs m.qids) ∧ Hs w0 F w (X ++ l)
theorem DMs.zero {e : Int} (E : Hs w0 F w l) : DMs w0 F l m0 e (.tuple #[.agg (MC m0 nilV nilV).toArray, i64 e]) w := ⟨nilV, nilV, [], rfl, rds_nil, rds_nil, E⟩
theorem Decode_ok (hW : Wds w0 F) (hs : s.length ≤ 1000000000000) (E : Hs w0 F w l) :
    Ca PP Fn.styx_Decode #[sb s] w fun q w' => DMs w0 F l (dec s).1 (dec s).2 q w' := by
  rw [← decP_dec]
  refine S.styx_Decode.calls ?_
  unfold S.styx_Decode
  (repeat with_reducible (refine StpA.go E ?_; clear E; intro b_ w_ hb_ E))
  (revert b_; intro rb hbrb E)
  refine (length_ok hs E).mono ?_
  clear E
  rintro q w_ ⟨rfl, E⟩
  (repeat with_reducible refine Stp.go ?_)
  rw [mkB_size]
  refine Bi.lss ?_ ?_ <;> intro c1 <;> (repeat with_reducible first | refine Stp.go ?_ | refine StpE.go E ?_)
  · have hP : decP s = (m0, 16) := by unfold decP; rw [if_pos (by omega)]
    rw [hP]
    refine StA.all (vs := MC m0 nilV nilV) E rfl rfl rfl ?_
    clear E
    intro w_ E
    (repeat with_reducible refine StpE.go E ?_)
    exact .zero E.tl
  rw [if_pos (show 4 ≤ s.length by omega)]
  refine Bi.gtr ?_ ?_ <;> intro c2 <;> (repeat with_reducible first | refine Stp.go ?_ | refine StpE.go E ?_)
  · have hP : decP s = (m0, 3) := by unfold decP; rw [if_neg (by omega), if_pos (by omega)]
    rw [hP]
    refine StA.all (vs := MC m0 nilV nilV) E rfl rfl rfl ?_
    clear E
    intro w_ E
    (repeat with_reducible refine StpE.go E ?_)
    exact .zero E.tl
  rw [mkB_size]
  refine Bi.neq ?_ ?_ <;> intro c3 <;> (repeat with_reducible first | refine Stp.go ?_ | refine StpE.go E ?_)
  · have hP : decP s = (m0, 14) := by unfold decP; rw [if_neg (by omega), if_neg (by omega), if_pos (by omega)]
    rw [hP]
    refine StA.all (vs := MC m0 nilV nilV) E rfl rfl rfl ?_
    clear E
    intro w_ E
    (repeat with_reducible refine StpE.go E ?_)
    exact .zero E.tl
  refine SlS.suf (by omega) (by rw [mkB_size]; omega) ?_
  have hsub : (mkB s).extract (4 : Int).toNat (mkB s).size = mkB (s.drop 4) := by
    rw [mkB_ext, mkB_size, List.take_length]; rfl
  rw [hsub]
  refine (NewReader_ok E).mono ?_
  clear E
  rintro q w_ ⟨r, rfl, E⟩
  (repeat with_reducible first | refine Stp.go ?_ | refine StpE.go E ?_ | (refine StpA.go E ?_; clear E; intro b_ w_ hb_ E))
  (revert b_; intro mb hbmb E)
  (revert b_; intro i hbi E)
  (replace E := (((E.bIx 0).bIx 2).bIx 2))
  have hP : decP s = (let k := (i0 (s.drop 4)).num 1
    let t := k.2.num 2
    match fls k.1 with
    | none => (m0, 13)
    | some l =>
      let x := Ip.flds l { m0 with kind := k.1, tag := t.1 } t.2
      if x.2.fin.cut then (m0, 2) else if x.2.bad then (m0, 11) else if x.2.ov then (m0, 3) else (x.1, 0)) := by
    unfold decP; rw [if_neg (by omega), if_neg (by omega), if_neg (by omega)]; rfl
  rw [hP]
  clear hP
  have hlt := num_lt (i0 (s.drop 4)) (k := 1) (by omega)
  refine (inum_ok (I := i0 (s.drop 4)) (k := 1) (off := 0) (by omega) (by simp) ⟨r, s.drop 4, 0, 0, E, Nat.zero_le _, by rw [List.length_drop]; omega, rfl, by simp [i0]⟩).mono ?_
  clear E
  rintro q w_ ⟨rfl, E⟩
  generalize (i0 (s.drop 4)).num 1 = k at E hlt ⊢
  obtain ⟨kd, I1⟩ := k
  simp only [] at E hlt ⊢
  (repeat with_reducible refine Stp.go ?_)
  refine (inum_ok (k := 2) (off := 1) (by omega) (by simp) E).mono ?_
  clear E
  rintro q w_ ⟨rfl, E⟩
  generalize I1.num 2 = tg at E ⊢
  obtain ⟨tg, I2⟩ := tg
  simp only [] at E ⊢
  replace E : IT w0 F i I2 (mA mb { m0 with kind := kd, tag := tg } nilV nilV :: pt rb (oc (MC m0 nilV nilV) Ty.api_Msg) :: l) w_ := E
  obtain ⟨r, t, n, e, E, h⟩ := E
  (repeat with_reducible first | refine Stp.go ?_ | refine StpE.go E ?_)
  refine (known_ok hW (k := (kd : Int)) (by omega) E).mono ?_
  clear E
  rintro q w_ ⟨rfl, E⟩
  cases hfl : fls (kd : Int) with
  | none =>
    refine Un.nt ?_
    (repeat with_reducible first | refine Stp.go ?_ | refine StpE.go E ?_)
    refine StA.all (vs := MC m0 nilV nilV) E rfl rfl rfl ?_
    clear E
    intro w_ E
    (repeat with_reducible refine StpE.go E ?_)
    exact .zero E.tl.tl.tl.tl
  | some fl =>
    refine Un.nf ?_
    (repeat with_reducible refine Stp.go ?_)
    refine (ifields_ok (m := { m0 with kind := kd, tag := tg }) hfl rfl rfl ⟨r, t, n, e, E, h⟩).mono ?_
    clear E h
    rintro q w_ ⟨rfl, nv, qv, X, hN, hQ, E⟩
    simp only []
    generalize Ip.flds fl { m0 with kind := kd, tag := tg } I2 = x at E hN hQ ⊢
    obtain ⟨M, J⟩ := x
    simp only [] at E hN hQ ⊢
    refine (ifinish_ok E).mono ?_
    clear E
    rintro q w_ ⟨rfl, E⟩
    have hf : J.fin.bad = J.bad ∧ J.fin.ov = J.ov := ⟨rfl, rfl⟩
    rw [← hf.1, ← hf.2]
    generalize J.fin = J at E ⊢
    refine (ierr_ok E).mono ?_
    clear E
    rintro q w_ ⟨rfl, r, t, n, e, E, -⟩
    have E2 : Hs w0 F w_ (pt rb (oc (MC m0 nilV nilV) Ty.api_Msg) :: mA mb M nv qv :: (X ++ l)) := by
      refine (E.tl.tl).perm ?_
      exact (List.Perm.cons _ List.perm_middle).trans (List.Perm.swap _ _ _)
    clear E
    have E := E2
    clear E2
    have bad : ∀ e : Int, e ≠ 0 → Bi .neq (i64 e) (.int .i64 0) fun t49 => Cnd t49
        (Bd #[.int .i64 0, .int .i64 0, .int .i64 0, .int .i64 0, .int .i64 0, .int .i64 0, .int .i64 0, .int .i64 0, .int .i64 0, .string ⟨#[]⟩, .string ⟨#[]⟩, .string ⟨#[]⟩, .string ⟨#[]⟩, .slice none 0 0, .slice none 0 0, .string ⟨#[]⟩, .int .i64 0, .int .i64 0, .int .i64 0, .int .i64 0, .int .i64 0, .int .i64 0, .string ⟨#[]⟩, .string ⟨#[]⟩, .string ⟨#[]⟩, .string ⟨#[]⟩, .int .i64 0] [(0, 1), (1, 1), (2, 1), (3, 1), (4, 1), (5, 1), (6, 1), (7, 1), (8, 1), (9, 1), (10, 1), (11, 1), (12, 1), (13, 1), (14, 1), (15, 1), (16, 10), (26, 1)] [] fun t50 =>
          St PP 27 (ptr rb) t50 w_ fun w49 => LdA PP 27 (ptr rb) w49 fun t2 => DMs w0 F l m0 e (.tuple #[t2, i64 e]) w49)
        (LdA PP 27 (ptr mb) w_ fun t52 => St PP 27 (ptr rb) t52 w_ fun w52 => LdA PP 27 (ptr rb) w52 fun t2 => DMs w0 F l m0 e (.tuple #[t2, i64 0]) w52) := by
      intro e he
      refine Bi.neq ?_ (fun h => absurd h he)
      intro _
      (repeat with_reducible first | refine Stp.go ?_ | refine StpE.go E ?_)
      refine StA.all (vs := MC m0 nilV nilV) E rfl rfl rfl ?_
      clear E
      intro w_ E
      (repeat with_reducible refine StpE.go E ?_)
      refine .zero (E.tl.tl.drop (List.sublist_append_right _ _))
    cases hc : J.cut with
    | true =>
      simp only [if_true]
      exact bad 2 (by decide)
    | false =>
      cases hb : J.bad with
      | true =>
        simp only [Bool.false_eq_true, if_false, if_true]
        exact bad 11 (by decide)
      | false =>
        cases hv : J.ov with
        | true =>
          simp only [Bool.false_eq_true, if_false, if_true]
          exact bad 3 (by decide)
        | false =>
          simp only [Bool.false_eq_true, if_false]
          clear bad
          (repeat first | (with_reducible first | refine Stp.go ?_ | refine StpE.go E ?_) | ((with_reducible refine Bi.dec false ?_ ?_); focus exact rfl))
          refine StA.all (vs := MC M nv qv) E rfl rfl ?_ ?_
          · have i1 : scalV nv = true := by obtain ⟨a, c, rfl, _⟩ := hN; rfl
            have i2 : scalV qv = true := by obtain ⟨a, c, rfl, _⟩ := hQ; rfl
            simp only [List.all_cons, List.all_nil, i1, i2, Bool.and_true]
            rfl
          clear E
          intro w_ E
          (repeat with_reducible refine StpE.go E ?_)
          exact ⟨nv, qv, X, rfl, hN, hQ, E.tl.tl⟩
end Go.Proofs.YtmlccboapkkcfaaGreatDoor

/-
  The protocol: messages are compared (chapter 31's Same), lists of names, of Qids and of Dirs too.
-/
namespace Go.Proofs.YtmlccboapkkcfaaGreatDoor
open Go Go.Sh
set_option maxRecDepth 100000
set_option linter.unusedVariables false
set_option linter.unusedSimpArgs false
variable {w0 w : World} {F : Nat → Prop} {l : List As}
theorem take_step {α} {xs ys : List α} {i : Nat} (h : xs.take i = ys.take i) (h1 : i < xs.length) (h2 : i < ys.length) (e : xs[i] = ys[i]) : xs.take (i + 1) = ys.take (i + 1) := by
  rw [List.take_add_one, List.take_add_one, h, List.getElem?_eq_getElem h1, List.getElem?_eq_getElem h2, e]
theorem take_all {α} {xs ys : List α} {i : Nat} (h : xs.take i = ys.take i) (hn : xs.length = ys.length) (hi : xs.length ≤ i) : xs = ys := by
  rw [List.take_of_length_le hi, List.take_of_length_le (by omega)] at h
  exact h
theorem eqStr_ok {u v : Value} {xs ys : List (List UInt8)} (hn : xs.length ≤ 1000000000) (E : Hs w0 F w l) (h1 : RdS w0 F l 1 xs.length u (xs.map sb)) (h2 : RdS w0 F l 1 ys.length v (ys.map sb)) :
    Ca PP Fn.slices_Equal_sl_string_string #[u, v] w fun r w' => r = .bool (decide (xs = ys)) ∧ Hs w0 F w' l := by
  refine S.slices_Equal_sl_string_string.calls ?_
  unfold S.slices_Equal_sl_string_string
  refine h1.len ?_
  refine h2.len ?_
  refine Bi.neq ?_ ?_ <;> intro hne
  · (repeat with_reducible refine Stp.go ?_)
    refine ⟨?_, E⟩
    rw [decide_eq_false]
    rintro rfl
    exact hne rfl
  have hne : xs.length = ys.length := by omega
  (repeat with_reducible refine Stp.go ?_)
  refine h1.len ?_
  refine ⟨fun l1 w1 => ∃ i : Nat, l1 = [i64 i] ∧ i ≤ xs.length ∧ xs.take i = ys.take i ∧ Hs w0 F w1 l, fun l1 _ => match l1 with | [.int _ i] => xs.length - i.toNat | _ => 0, ⟨0, rfl, Nat.zero_le _, rfl, E⟩, ?_⟩
  clear E
  rintro t u1 w1 ⟨i, e, hi, ht, E⟩
  cases e
  refine Bi.lss ?_ ?_ <;> intro hlt <;> (repeat with_reducible first | refine Stp.go ?_ | (refine StpW.go E ?_; clear E; intro w_ E))
  · have g1 : i < xs.length := by omega
    have g2 : i < ys.length := by omega
    have hd : ((xs.map sb).drop (((i : Int)).toNat * 1))[0]? = some (sb xs[i]) := by
      rw [Int.toNat_natCast, Nat.mul_one, List.getElem?_drop, Nat.add_zero, List.getElem?_map, List.getElem?_eq_getElem g1]; rfl
    have hd2 : ((ys.map sb).drop (((i : Int)).toNat * 1))[0]? = some (sb ys[i]) := by
      rw [Int.toNat_natCast, Nat.mul_one, List.getElem?_drop, Nat.add_zero, List.getElem?_map, List.getElem?_eq_getElem g2]; rfl
    refine h1.ix (by omega) (by omega) (by omega) ?_
    intro a ha
    refine ha.ld E hd ?_
    refine h2.ix (by omega) (by omega) (by omega) ?_
    intro a2 ha2
    refine ha2.ld E hd2 ?_
    refine Bi.sneq ?_ ?_ <;> intro hc <;> (repeat with_reducible refine Stp.go ?_)
    · refine ⟨?_, E⟩
      rw [decide_eq_false]
      rintro rfl
      exact hc rfl
    refine Bi.add (by omega) ?_
    exact ⟨⟨i + 1, by simp, by omega, take_step ht g1 g2 (mkB_inj hc), E⟩, by simp only []; omega⟩
  · refine ⟨?_, E⟩
    rw [decide_eq_true (take_all ht hne (by omega))]
abbrev lkQid : List LK := [.int .i64, .int .i64, .int .i64]
theorem lv_Qid : lv PP 20 Ty.api_Qid = some lkQid := by kernel_rfl
theorem st_Qid : isSt PP Ty.api_Qid = true := by kernel_rfl
theorem g_Qid : PP.eqGuardType PP.depth Ty.api_Qid = false := by kernel_rfl
theorem ceq_qid (d e : Qi) : ceqL (qcs d) (qcs e) = decide (d = e) := by
  obtain ⟨a1, a2, a3⟩ := d
  obtain ⟨b1, b2, b3⟩ := e
  simp only [ceqL, ceq_int, Bool.and_true]
  rw [Bool.eq_iff_iff]
  simp only [Bool.and_eq_true, decide_eq_true_eq, Qi.mk.injEq]
theorem eqQid_ok {u v : Value} {xs ys : List Qi} (hn : xs.length ≤ 1000000000) (E : Hs w0 F w l) (h1 : RdS w0 F l 3 xs.length u (qqs xs)) (h2 : RdS w0 F l 3 ys.length v (qqs ys)) :
    Ca PP Fn.slices_Equal_sl_api_Qid_api_Qid #[u, v] w fun r w' => r = .bool (decide (xs = ys)) ∧ Hs w0 F w' l := by
  refine S.slices_Equal_sl_api_Qid_api_Qid.calls ?_
  unfold S.slices_Equal_sl_api_Qid_api_Qid
  refine h1.len ?_
  refine h2.len ?_
  refine Bi.neq ?_ ?_ <;> intro hne
  · (repeat with_reducible refine Stp.go ?_)
    refine ⟨?_, E⟩
    rw [decide_eq_false]
    rintro rfl
    exact hne rfl
  have hne : xs.length = ys.length := by omega
  (repeat with_reducible refine Stp.go ?_)
  refine h1.len ?_
  refine ⟨fun l1 w1 => ∃ i : Nat, l1 = [i64 i] ∧ i ≤ xs.length ∧ xs.take i = ys.take i ∧ Hs w0 F w1 l, fun l1 _ => match l1 with | [.int _ i] => xs.length - i.toNat | _ => 0, ⟨0, rfl, Nat.zero_le _, rfl, E⟩, ?_⟩
  clear E
  rintro t u1 w1 ⟨i, e, hi, ht, E⟩
  cases e
  refine Bi.lss ?_ ?_ <;> intro hlt <;> (repeat with_reducible first | refine Stp.go ?_ | (refine StpW.go E ?_; clear E; intro w_ E))
  · have g1 : i < xs.length := by omega
    have g2 : i < ys.length := by omega
    refine h1.ix (by omega) (by omega) (by omega) ?_
    intro a ha
    rw [Int.toNat_natCast, qqs_at g1] at ha
    refine ha.lda E (m := 3) (ds := qcs xs[i]) rfl rfl (by omega) ?_
    refine h2.ix (by omega) (by omega) (by omega) ?_
    intro a2 ha2
    rw [Int.toNat_natCast, qqs_at g2] at ha2
    refine ha2.lda E (m := 3) (ds := qcs ys[i]) rfl rfl (by omega) ?_
    refine EqS.n lv_Qid st_Qid g_Qid rfl rfl ?_
    rw [ceq_qid]
    by_cases hc : xs[i] = ys[i]
    · rw [decide_eq_true hc, Bool.not_true]
      (repeat with_reducible refine Stp.go ?_)
      refine Bi.add (by omega) ?_
      exact ⟨⟨i + 1, by simp, by omega, take_step ht g1 g2 hc, E⟩, by simp only []; omega⟩
    · rw [decide_eq_false hc, Bool.not_false]
      (repeat with_reducible refine Stp.go ?_)
      refine ⟨?_, E⟩
      rw [decide_eq_false]
      rintro rfl
      exact hc rfl
  · refine ⟨?_, E⟩
    rw [decide_eq_true (take_all ht hne (by omega))]
abbrev dqs (ds : List Di) : List Value := ds.flatMap dcs
theorem dqs_len (ds : List Di) : (dqs ds).length = ds.length * 10 := by
  induction ds with
  | nil => rfl
  | cons d r ih =>
    have e : dqs (d :: r) = dcs d ++ dqs r := by rw [dqs, List.flatMap_cons]
    rw [e, List.length_append, ih]
    show 10 + r.length * 10 = (r.length + 1) * 10
    omega
theorem dqs_drop (ds : List Di) : ∀ i : Nat, (dqs ds).drop (i * 10) = dqs (ds.drop i) := by
  induction ds with
  | nil => intro i; simp
  | cons d r ih =>
    intro i
    cases i with
    | zero => simp
    | succ i =>
      rw [dqs, List.flatMap_cons, show (i + 1) * 10 = i * 10 + 10 by omega]
      simp only [dcs, List.cons_append, List.nil_append, List.drop_succ_cons]
      exact ih i
theorem dqs_at {ds : List Di} {i : Nat} (h : i < ds.length) : (dqs ds).drop (i * 10) = dcs ds[i] ++ dqs (ds.drop (i + 1)) := by
  rw [dqs_drop, List.drop_eq_getElem_cons h]; rfl
theorem eqDir_ok {u v : Value} {xs ys : List Di} (hn : xs.length ≤ 1000000000) (E : Hs w0 F w l) (h1 : RdS w0 F l 10 xs.length u (dqs xs)) (h2 : RdS w0 F l 10 ys.length v (dqs ys)) :
    Ca PP Fn.slices_Equal_sl_api_Dir_api_Dir #[u, v] w fun r w' => r = .bool (decide (xs = ys)) ∧ Hs w0 F w' l := by
  refine S.slices_Equal_sl_api_Dir_api_Dir.calls ?_
  unfold S.slices_Equal_sl_api_Dir_api_Dir
  refine h1.len ?_
  refine h2.len ?_
  refine Bi.neq ?_ ?_ <;> intro hne
  · (repeat with_reducible refine Stp.go ?_)
    refine ⟨?_, E⟩
    rw [decide_eq_false]
    rintro rfl
    exact hne rfl
  have hne : xs.length = ys.length := by omega
  (repeat with_reducible refine Stp.go ?_)
  refine h1.len ?_
  refine ⟨fun l1 w1 => ∃ i : Nat, l1 = [i64 i] ∧ i ≤ xs.length ∧ xs.take i = ys.take i ∧ Hs w0 F w1 l, fun l1 _ => match l1 with | [.int _ i] => xs.length - i.toNat | _ => 0, ⟨0, rfl, Nat.zero_le _, rfl, E⟩, ?_⟩
  clear E
  rintro t u1 w1 ⟨i, e, hi, ht, E⟩
  cases e
  refine Bi.lss ?_ ?_ <;> intro hlt <;> (repeat with_reducible first | refine Stp.go ?_ | (refine StpW.go E ?_; clear E; intro w_ E))
  · have g1 : i < xs.length := by omega
    have g2 : i < ys.length := by omega
    refine h1.ix (by omega) (by omega) (by omega) ?_
    intro a ha
    rw [Int.toNat_natCast, dqs_at g1] at ha
    refine ha.lda E (m := 10) (ds := dcs xs[i]) rfl rfl (by omega) ?_
    refine h2.ix (by omega) (by omega) (by omega) ?_
    intro a2 ha2
    rw [Int.toNat_natCast, dqs_at g2] at ha2
    refine ha2.lda E (m := 10) (ds := dcs ys[i]) rfl rfl (by omega) ?_
    refine EqS.n lv_Dir st_Dir g_Dir rfl rfl ?_
    rw [ceq_dir]
    by_cases hc : xs[i] = ys[i]
    · rw [decide_eq_true hc, Bool.not_true]
      (repeat with_reducible refine Stp.go ?_)
      refine Bi.add (by omega) ?_
      exact ⟨⟨i + 1, by simp, by omega, take_step ht g1 g2 hc, E⟩, by simp only []; omega⟩
    · rw [decide_eq_false hc, Bool.not_false]
      (repeat with_reducible refine Stp.go ?_)
      refine ⟨?_, E⟩
      rw [decide_eq_false]
      rintro rfl
      exact hc rfl
  · refine ⟨?_, E⟩
    rw [decide_eq_true (take_all ht hne (by omega))]
end Go.Proofs.YtmlccboapkkcfaaGreatDoor

/-
  The protocol: messages are compared (chapter 31's Same).
-/
namespace Go.Proofs.YtmlccboapkkcfaaGreatDoor
open Go Go.Sh
set_option maxRecDepth 100000
set_option linter.unusedVariables false
set_option linter.unusedSimpArgs false
variable {w0 w : World} {F : Nat → Prop} {l : List As}
theorem Ms.ext' {a b : Ms} (h1 : a.kind = b.kind) (h2 : a.tag = b.tag) (h3 : a.fid = b.fid) (h4 : a.other = b.other) (h5 : a.old = b.old) (h6 : a.size = b.size) (h7 : a.off = b.off) (h8 : a.mode = b.mode) (h9 : a.perm = b.perm)
    (h10 : a.ver = b.ver) (h11 : a.user = b.user) (h12 : a.tree = b.tree) (h13 : a.name = b.name) (h14 : a.names = b.names) (h15 : a.qids = b.qids) (h16 : a.data = b.data) (h17 : a.dir = b.dir) (h18 : a.code = b.code) : a = b := by
  cases a; cases b
  simp only at *
  subst h1 h2 h3 h4 h5 h6 h7 h8 h9 h10 h11 h12 h13 h14 h15 h16 h17 h18
  rfl
theorem Same_ok {a b : Ms} {n1 q1 n2 q2 : Value} (hn : a.names.length ≤ 1000000000) (hq : a.qids.length ≤ 1000000000) (E : Hs w0 F w l)
    (h1 : RdS w0 F l 1 a.names.length n1 (a.names.map sb)) (h2 : RdS w0 F l 3 a.qids.length q1 (qqs a.qids)) (h3 : RdS w0 F l 1 b.names.length n2 (b.names.map sb)) (h4 : RdS w0 F l 3 b.qids.length q2 (qqs b.qids)) :
    Ca PP Fn.law31_Same #[.agg (MC a n1 q1).toArray, .agg (MC b n2 q2).toArray] w fun r w' => r = .bool (decide (a = b)) ∧ Hs w0 F w' l := by
  refine S.law31_Same.calls ?_
  unfold S.law31_Same
  have i1 : Scal n1 := ⟨by obtain ⟨a, c, rfl, _⟩ := h1; rfl⟩
  have i2 : Scal q1 := ⟨by obtain ⟨a, c, rfl, _⟩ := h2; rfl⟩
  have i3 : Scal n2 := ⟨by obtain ⟨a, c, rfl, _⟩ := h3; rfl⟩
  have i4 : Scal q2 := ⟨by obtain ⟨a, c, rfl, _⟩ := h4; rfl⟩
  (repeat with_reducible (refine StpA.go E ?_; clear E; intro b_ w_ hb_ E))
  (intro J5 hJ5)
  (repeat with_reducible first | refine Stp.go ?_ | refine StpE.go E ?_)
  refine (eqStr_ok hn E ((h1.cons _).cons _) ((h3.cons _).cons _)).mono ?_
  clear E
  rintro r w_ ⟨rfl, E⟩
  by_cases c0 : a.names = b.names
  rotate_left
  · rw [decide_eq_false c0]
    (repeat with_reducible first | refine Stp.go ?_ | (apply hJ5; intro u_))
    refine ⟨?_, E.tl.tl⟩
    rw [decide_eq_false (fun h => c0 (by rw [h]))]
  rw [decide_eq_true c0]
  (repeat with_reducible first | refine Stp.go ?_ | refine StpE.go E ?_)
  refine (eqQid_ok hq E ((h2.cons _).cons _) ((h4.cons _).cons _)).mono ?_
  clear E
  rintro r w_ ⟨rfl, E⟩
  by_cases c1 : a.qids = b.qids
  rotate_left
  · rw [decide_eq_false c1]
    (repeat with_reducible first | refine Stp.go ?_ | (apply hJ5; intro u_))
    refine ⟨?_, E.tl.tl⟩
    rw [decide_eq_false (fun h => c1 (by rw [h]))]
  rw [decide_eq_true c1]
  (repeat with_reducible first | refine Stp.go ?_ | (apply hJ5; intro u_))
  (intro J9 hJ9)
  (repeat with_reducible first | refine Stp.go ?_ | refine StpE.go E ?_)
  refine Bi.eql (fun ckind => ?_) (fun ckind => ?_)
  rotate_left
  · (repeat with_reducible first | refine Stp.go ?_ | (apply hJ9; intro u_))
    refine ⟨?_, E.tl.tl⟩
    rw [decide_eq_false (fun h => ckind (by rw [h]))]
  (repeat with_reducible first | refine Stp.go ?_ | refine StpE.go E ?_)
  refine Bi.eql (fun ctag => ?_) (fun ctag => ?_)
  rotate_left
  · (repeat with_reducible first | refine Stp.go ?_ | (apply hJ9; intro u_))
    refine ⟨?_, E.tl.tl⟩
    rw [decide_eq_false (fun h => ctag (by rw [h]))]
  (repeat with_reducible first | refine Stp.go ?_ | refine StpE.go E ?_)
  refine Bi.eql (fun cfid => ?_) (fun cfid => ?_)
  rotate_left
  · (repeat with_reducible first | refine Stp.go ?_ | (apply hJ9; intro u_))
    refine ⟨?_, E.tl.tl⟩
    rw [decide_eq_false (fun h => cfid (by rw [h]))]
  (repeat with_reducible first | refine Stp.go ?_ | refine StpE.go E ?_)
  refine Bi.eql (fun cother => ?_) (fun cother => ?_)
  rotate_left
  · (repeat with_reducible first | refine Stp.go ?_ | (apply hJ9; intro u_))
    refine ⟨?_, E.tl.tl⟩
    rw [decide_eq_false (fun h => cother (by rw [h]))]
  (repeat with_reducible first | refine Stp.go ?_ | refine StpE.go E ?_)
  refine Bi.eql (fun cold => ?_) (fun cold => ?_)
  rotate_left
  · (repeat with_reducible first | refine Stp.go ?_ | (apply hJ9; intro u_))
    refine ⟨?_, E.tl.tl⟩
    rw [decide_eq_false (fun h => cold (by rw [h]))]
  (repeat with_reducible first | refine Stp.go ?_ | refine StpE.go E ?_)
  refine Bi.eql (fun csize => ?_) (fun csize => ?_)
  rotate_left
  · (repeat with_reducible first | refine Stp.go ?_ | (apply hJ9; intro u_))
    refine ⟨?_, E.tl.tl⟩
    rw [decide_eq_false (fun h => csize (by rw [h]))]
  (repeat with_reducible first | refine Stp.go ?_ | refine StpE.go E ?_)
  refine Bi.eql (fun coff => ?_) (fun coff => ?_)
  rotate_left
  · (repeat with_reducible first | refine Stp.go ?_ | (apply hJ9; intro u_))
    refine ⟨?_, E.tl.tl⟩
    rw [decide_eq_false (fun h => coff (by rw [h]))]
  (repeat with_reducible first | refine Stp.go ?_ | refine StpE.go E ?_)
  refine Bi.eql (fun cmode => ?_) (fun cmode => ?_)
  rotate_left
  · (repeat with_reducible first | refine Stp.go ?_ | (apply hJ9; intro u_))
    refine ⟨?_, E.tl.tl⟩
    rw [decide_eq_false (fun h => cmode (by rw [h]))]
  (repeat with_reducible first | refine Stp.go ?_ | refine StpE.go E ?_)
  refine Bi.eql (fun cperm => ?_) (fun cperm => ?_)
  rotate_left
  · (repeat with_reducible first | refine Stp.go ?_ | (apply hJ9; intro u_))
    refine ⟨?_, E.tl.tl⟩
    rw [decide_eq_false (fun h => cperm (by rw [h]))]
  (repeat with_reducible first | refine Stp.go ?_ | refine StpE.go E ?_)
  refine Bi.seql (fun cver => ?_) (fun cver => ?_)
  rotate_left
  · (repeat with_reducible first | refine Stp.go ?_ | (apply hJ9; intro u_))
    refine ⟨?_, E.tl.tl⟩
    rw [decide_eq_false (fun h => cver (by rw [h]))]
  (repeat with_reducible first | refine Stp.go ?_ | refine StpE.go E ?_)
  refine Bi.seql (fun cuser => ?_) (fun cuser => ?_)
  rotate_left
  · (repeat with_reducible first | refine Stp.go ?_ | (apply hJ9; intro u_))
    refine ⟨?_, E.tl.tl⟩
    rw [decide_eq_false (fun h => cuser (by rw [h]))]
  (repeat with_reducible first | refine Stp.go ?_ | refine StpE.go E ?_)
  refine Bi.seql (fun ctree => ?_) (fun ctree => ?_)
  rotate_left
  · (repeat with_reducible first | refine Stp.go ?_ | (apply hJ9; intro u_))
    refine ⟨?_, E.tl.tl⟩
    rw [decide_eq_false (fun h => ctree (by rw [h]))]
  (repeat with_reducible first | refine Stp.go ?_ | refine StpE.go E ?_)
  refine Bi.seql (fun cname => ?_) (fun cname => ?_)
  rotate_left
  · (repeat with_reducible first | refine Stp.go ?_ | (apply hJ9; intro u_))
    refine ⟨?_, E.tl.tl⟩
    rw [decide_eq_false (fun h => cname (by rw [h]))]
  (repeat with_reducible first | refine Stp.go ?_ | refine StpE.go E ?_)
  refine Bi.seql (fun cdata => ?_) (fun cdata => ?_)
  rotate_left
  · (repeat with_reducible first | refine Stp.go ?_ | (apply hJ9; intro u_))
    refine ⟨?_, E.tl.tl⟩
    rw [decide_eq_false (fun h => cdata (by rw [h]))]
  (repeat with_reducible first | refine Stp.go ?_ | refine StpE.go E ?_)
  refine EqS.e (xs := dcs a.dir) (ys := dcs b.dir) lv_Dir st_Dir g_Dir rfl rfl ?_
  rw [ceq_dir]
  by_cases cdir : a.dir = b.dir
  rotate_left
  · rw [decide_eq_false cdir]
    (repeat with_reducible first | refine Stp.go ?_ | (apply hJ9; intro u_))
    refine ⟨?_, E.tl.tl⟩
    rw [decide_eq_false (fun h => cdir (by rw [h]))]
  rw [decide_eq_true cdir]
  (repeat with_reducible first | refine Stp.go ?_ | refine StpE.go E ?_)
  refine Bi.eql (fun ccode => ?_) (fun ccode => ?_)
  rotate_left
  · (repeat with_reducible first | refine Stp.go ?_ | (apply hJ9; intro u_))
    refine ⟨?_, E.tl.tl⟩
    rw [decide_eq_false (fun h => ccode (by rw [h]))]
  (repeat with_reducible first | refine Stp.go ?_ | (apply hJ9; intro u_))
  refine ⟨?_, E.tl.tl⟩
  rw [decide_eq_true]
  exact Ms.ext' ckind ctag cfid cother cold csize coff cmode cperm (mkB_inj cver) (mkB_inj cuser) (mkB_inj ctree) (mkB_inj cname) c0 c1 (mkB_inj cdata) cdir ccode
end Go.Proofs.YtmlccboapkkcfaaGreatDoor

/-
  The protocol: the examples of the chapter (chapter 31's awake).
-/
namespace Go.Proofs.YtmlccboapkkcfaaGreatDoor
open Go Go.Sh
set_option maxRecDepth 100000
set_option linter.unusedVariables false
set_option linter.unusedSimpArgs false
variable {w0 w : World} {F : Nat → Prop} {l : List As}
abbrev aM1 : Ms := { m0 with kind := 120, tag := 1, fid := 2 }
abbrev aM2 : Ms := { m0 with kind := 107, tag := 65535, code := 4 }
abbrev aM3 : Ms := { m0 with kind := 110, tag := 258, fid := 1, other := 2, names := [[97]] }
abbrev aS3 : List UInt8 := [20, 0, 0, 0, 110, 2, 1, 1, 0, 0, 0, 2, 0, 0, 0, 1, 0, 1, 0, 97]
theorem aw1 : enc aM1 = ([11, 0, 0, 0, 120, 1, 0, 2, 0, 0, 0], 0) := by kernel_rfl
theorem aw2 : enc aM2 = ([9, 0, 0, 0, 107, 255, 255, 4, 0], 0) := by kernel_rfl
theorem aw3 : dec aS3 = (aM3, 0) := by kernel_rfl
theorem nm_string : el3 PP Ty.string = some (some (.string ⟨#[]⟩), 1, 16) := by kernel_rfl
theorem u_names : PP.underlying Ty.sl_string = some (.slice Ty.string) := by kernel_rfl
theorem ok_lit {m : Ms} (h1 : m.qids = []) (h2 : m.dir = d0) (h3 : -9223372036854775808 ≤ m.off ∧ m.off ≤ 9223372036854775807 := by decide) : m.Ok := by
  refine ⟨h3, ?_, ?_⟩
  · rw [h1]; intro q h; cases h
  · rw [h2]; unfold Di.Ok Qi.Ok; decide
theorem mi1 : MI w0 F l aM1 nilV nilV := { ok := ok_lit (by decide) (by decide), rg := by unfold rngI; decide, kd := by decide, n1 := by decide, q1 := by decide, zn := by decide, zs := by decide, zd := by decide, rn := rds_nil, rq := rds_nil }
theorem mi2 : MI w0 F l aM2 nilV nilV := { ok := ok_lit (by decide) (by decide), rg := by unfold rngI; decide, kd := by decide, n1 := by decide, q1 := by decide, zn := by decide, zs := by decide, zd := by decide, rn := rds_nil, rq := rds_nil }
theorem awake_ok (hW : Wds w0 F) (E : Hs w0 F w l) : Ca PP Fn.law31_awake #[] w fun r w' => r = .bool true ∧ Hs w0 F w' l := by
  refine S.law31_awake.calls ?_
  unfold S.law31_awake
  (repeat with_reducible refine StpE.go E ?_)
  refine (Encode_ok hW (m := aM1) mi1 E).mono ?_
  clear E
  rintro r w_ ⟨rfl, E⟩
  rw [aw1]
  (repeat with_reducible first | refine Stp.go ?_ | refine StpE.go E ?_)
  refine (Encode_ok hW (m := aM2) mi2 E).mono ?_
  clear E
  rintro r w_ ⟨rfl, E⟩
  rw [aw2]
  (repeat with_reducible refine Stp.go ?_)
  refine (Decode_ok hW (s := aS3) (by decide) E).mono ?_
  clear E
  rintro r w_ ⟨nv, qv, X, rfl, h1, h2, E⟩
  rw [aw3] at h1 h2 ⊢
  dsimp only at h1 h2 ⊢
  have i1 : scalV nv = true := by obtain ⟨a, c, rfl, _⟩ := h1; rfl
  have i2 : scalV qv = true := by obtain ⟨a, c, rfl, _⟩ := h2; rfl
  (repeat with_reducible first | refine Stp.go ?_ | (refine StpA.go E ?_; clear E; intro b_ w_ hb_ E))
  refine StA.all (vs := MC aM3 nv qv) E rfl rfl ?_ ?_
  · simp only [List.all_cons, List.all_nil, i1, i2, Bool.and_true]
    rfl
  clear E
  intro w_ E
  skip
  (intro J18 hJ18)
  have fin : ∀ b w_, b = true → Hs w0 F w_ l → J18 [.bool b] w_ := by
    rintro b w_ rfl h
    (repeat with_reducible (apply hJ18; intro u_))
    exact ⟨rfl, h⟩
  clear hJ18
  (repeat first | (with_reducible first | refine Stp.go ?_ | refine StpE.go E ?_) | ((with_reducible refine Bi.dec true ?_ ?_); focus exact rfl) | ((with_reducible refine Bi.sdec true ?_ ?_); focus decide))
  refine BdS.one E u_names nm_string rfl ?_
  clear E
  intro v w_ E
  (repeat with_reducible first | refine Stp.go ?_ | refine StpE.go E ?_)
  have hv := RdS.sl (T := Ty.string) (v := v) (sz := 1) (xs := [sb [97]]) List.mem_cons_self (by omega) E
  refine (Same_ok (a := aM3) (b := aM3) (n1 := nv) (q1 := qv) (n2 := v) (q2 := nilV) (by decide) (by decide) E (h1.weaken fun _ E => E.tl.tl.drop (List.sublist_append_left _ _)) (h2.weaken fun _ E => E.tl.tl.drop (List.sublist_append_left _ _)) hv rds_nil).mono ?_
  clear E
  rintro r w_ ⟨rfl, E⟩
  (repeat with_reducible refine Stp.go ?_)
  refine fin _ _ (decide_eq_true rfl) (E.tl.tl.drop (List.sublist_append_right _ _))
end Go.Proofs.YtmlccboapkkcfaaGreatDoor

/-
  The protocol: how great a Dir may be; what is written of it.
-/
namespace Go.Proofs.YtmlccboapkkcfaaGreatDoor
open Go Go.Sh
set_option maxRecDepth 100000
set_option linter.unusedVariables false
set_option linter.unusedSimpArgs false
variable {w0 w : World} {F : Nat → Prop} {l : List As}
def droom (d : Di) : Nat := d.name.length + d.owner.length + d.group.length + d.last.length
theorem room_ok {d : Di} (h : d.name.length ≤ 140737488355328 ∧ d.owner.length ≤ 140737488355328 ∧ d.group.length ≤ 140737488355328 ∧ d.last.length ≤ 140737488355328) (E : Hs w0 F w l) :
    Ca PP Fn.law31_room #[.agg (dcs d).toArray] w fun r w' => r = i64 (droom d : Nat) ∧ Hs w0 F w' l := by
  refine S.law31_room.calls ?_
  unfold S.law31_room
  (repeat with_reducible first | refine Stp.go ?_ | refine StpE.go E ?_ | (refine StpA.go E ?_; clear E; intro b_ w_ hb_ E))
  refine Bi.add (by simp only [mkB_size]; omega) ?_
  (repeat with_reducible first | refine Stp.go ?_ | refine StpE.go E ?_)
  refine Bi.add (by simp only [mkB_size]; omega) ?_
  (repeat with_reducible first | refine Stp.go ?_ | refine StpE.go E ?_)
  refine Bi.add (by simp only [mkB_size]; omega) ?_
  skip
  refine ⟨?_, E.tl⟩
  unfold droom
  simp only [mkB_size]
  congr 1
/-- No text of a Dir is greater than this. -/
def DB (d : Di) : Prop := d.name.length ≤ 140737488355328 ∧ d.owner.length ≤ 140737488355328 ∧ d.group.length ≤ 140737488355328 ∧ d.last.length ≤ 140737488355328
theorem encD_two (d : Di) : (encD d).2 = chkD d := by
  unfold encD
  split
  · rename_i h; rw [h]
  · rfl
theorem encD_one {d : Di} (h : chkD d = 0) : (encD d).1 = eD d := by
  unfold encD
  rw [if_pos h]
end Go.Proofs.YtmlccboapkkcfaaGreatDoor

/-
  The protocol's reference: the number that bytes are.
-/
namespace Go.Proofs.YtmlccboapkkcfaaGreatDoor
open Go Go.Sh
set_option maxRecDepth 100000
set_option linter.unusedVariables false
set_option linter.unusedSimpArgs false
variable {w0 w : World} {F : Nat → Prop} {l : List As}
theorem mkB_take (s : List UInt8) (n : Nat) : (mkB s).extract 0 n = mkB (s.take n) := by
  rw [mkB_ext, List.drop_zero]
theorem BdS.nul {P : Program} {t e : TypeId} {sz : Nat} {k : Value → World → Prop} (E : Hs w0 F w l) (h1 : P.underlying t = some (.slice e)) (h2 : sizeK P e = some sz)
    (hk : ∀ v w', Hs w0 F w' (slA v e sz [] :: l) → k v w') : Ef P (Instr.buildSlice t 0 #[]) w k := by
  refine ⟨.slice (some ⟨w.heap.size, 0, none⟩) 0 0, w.alloc (.cells #[] e), ?_, hk _ _ (E.add (Upd.alloc w _) ⟨.inr ⟨w.heap.size, 0, 0, 0, [], [], (0, 0), rfl, ?_, rfl, by simp, by simp, Nat.le_refl _, Free.zero _⟩⟩ fun b hb => ?_)⟩
  · have hr : Array.range 0 = #[] := rfl
    simp [Instr.buildSlice, run_underlying h1, run_sizeK h2, Instr.fill, newRow, run_newObj', hr]
  · rw [heap_alloc_new]; simp [ocf]
  · have hb : some w.heap.size = some b := hb
    cases hb; exact Nat.le_refl _
theorem shl8 {v : Nat} {k : Value → Prop} (hv : v * 256 < 18446744073709551616) (hk : k (.int .u64 ((v * 256 : Nat) : Int))) : Bi .shl (.int .u64 (v : Int)) (.int .u64 8) k := by
  refine Bi.mk (v := .int .u64 ((v * 256 : Nat) : Int)) ?_ hk
  have h1 : min (8 : Int).toNat (IntKind.bits .u64) = 8 := by decide
  simp only [binV]
  rw [if_neg (by omega), h1]
  have h2 : (v : Int) * (2 : Int) ^ 8 = ((v * 256 : Nat) : Int) := by
    rw [show (2 : Int) ^ 8 = 256 by decide]
    omega
  rw [h2]
  have : IntKind.u64.wrap ((v * 256 : Nat) : Int) = ((v * 256 : Nat) : Int) := by
    show (((v * 256 : Nat) : Int) % 18446744073709551616) = _
    omega
  rw [this]
theorem or8 {v b : Nat} {k : Value → Prop} (hv : v * 256 + b < 18446744073709551616) (hb : b < 256) (hk : k (.int .u64 ((b + 256 * v : Nat) : Int))) : Bi .or (.int .u64 ((v * 256 : Nat) : Int)) (.int .u64 (b : Int)) k := by
  refine Bi.mk (v := .int .u64 ((b + 256 * v : Nat) : Int)) ?_ hk
  show some (Value.int .u64 (IntKind.u64.wrap (BitVec.ofInt 64 ((v * 256 : Nat) : Int) ||| BitVec.ofInt 64 (b : Int)).toNat)) = _
  have e1 : (BitVec.ofInt 64 ((v * 256 : Nat) : Int) ||| BitVec.ofInt 64 (b : Int)).toNat = b + 256 * v := by
    rw [BitVec.toNat_or, BitVec.ofInt_natCast, BitVec.ofInt_natCast, BitVec.toNat_ofNat, BitVec.toNat_ofNat, Nat.mod_eq_of_lt (by omega), Nat.mod_eq_of_lt (by omega)]
    have := Nat.two_pow_add_eq_or_of_lt (i := 8) (b := b) (by omega) v
    rw [show (2 : Nat) ^ 8 = 256 by decide, Nat.mul_comm 256 v] at this
    rw [← this]
    omega
  rw [e1]
  have : IntKind.u64.wrap ((b + 256 * v : Nat) : Int) = ((b + 256 * v : Nat) : Int) := by
    show (((b + 256 * v : Nat) : Int) % 18446744073709551616) = _
    omega
  rw [this]
theorem rvalue_ok {s : List UInt8} (hs : s.length ≤ 8) (E : Hs w0 F w l) : Ca PP Fn.r31_value #[sb s] w fun q w' => q = .int .u64 ((un s : Nat) : Int) ∧ Hs w0 F w' l := by
  refine S.r31_value.calls ?_
  unfold S.r31_value
  (repeat with_reducible refine Stp.go ?_)
  refine Bi.sub (by rw [mkB_size]; omega) ?_
  refine ⟨fun l1 w1 => ∃ k : Nat, k ≤ s.length ∧ l1 = [.int .u64 ((un (s.drop k) : Nat) : Int), i64 ((k : Int) - 1)] ∧ Hs w0 F w1 l, fun l1 _ => match l1 with | [_, .int _ i] => (i + 1).toNat | _ => 0, ⟨s.length, Nat.le_refl _, ?_, E⟩, ?_⟩
  · rw [List.drop_length, mkB_size]; rfl
  clear E
  rintro t3 t4 u1 w1 ⟨k, hk, e, E⟩
  cases e
  refine Bi.geq ?_ ?_ <;> intro c1 <;> (repeat with_reducible refine Stp.go ?_)
  · obtain ⟨k, rfl⟩ : ∃ j, k = j + 1 := ⟨k - 1, by omega⟩
    have hx : s[k]? = some s[k] := List.getElem?_eq_getElem (by omega)
    have hd : s.drop k = s[k] :: s.drop (k + 1) := List.drop_eq_getElem_cons (by omega)
    have hu : un (s.drop k) = s[k].toNat + 256 * un (s.drop (k + 1)) := by rw [hd]; rfl
    have h1 := un_lt (s.drop k)
    have h3 : (256 : Nat) ^ (s.drop k).length ≤ 256 ^ 8 := Nat.pow_le_pow_right (by omega) (by rw [List.length_drop]; omega)
    have h4 : (256 : Nat) ^ 8 = 18446744073709551616 := by decide
    have hb := s[k].toNat_lt
    refine shl8 (v := un (s.drop (k + 1))) (by omega) ?_
    refine IxS.mk (b := s[k]) (by omega) (by rw [show ((((k + 1 : Nat) : Int) - 1).toNat) = k by omega]; show s.toArray[k]? = _; rw [List.getElem?_toArray]; exact hx) ?_
    refine Cv.mk ?_
    have hw : IntKind.u64.wrap (s[k].toNat : Int) = (s[k].toNat : Int) := by
      show ((s[k].toNat : Int) % 18446744073709551616) = _
      omega
    rw [hw]
    refine or8 (by omega) hb ?_
    refine Bi.sub (by omega) ?_
    refine ⟨⟨k, by omega, ?_, E⟩, by simp only []; omega⟩
    rw [hu, show (((k + 1 : Nat) : Int) - 1 - 1) = (k : Int) - 1 by omega]
  · have : k = 0 := by omega
    subst this
    exact ⟨rfl, E⟩
end Go.Proofs.YtmlccboapkkcfaaGreatDoor

/-
  The protocol's reference: numbers, words, qids, Dirs; whether a letter is in a text; ranges.
-/
namespace Go.Proofs.YtmlccboapkkcfaaGreatDoor
open Go Go.Sh
set_option maxRecDepth 100000
set_option linter.unusedVariables false
set_option linter.unusedSimpArgs false
variable {w0 w : World} {F : Nat → Prop} {l : List As}
theorem byte_at (n : Int) {i : Nat} (hi : i < 8) : (n % 18446744073709551616) / (256 ^ i : Nat) % 256 = n / (256 ^ i : Nat) % 256 := by
  have : i = 0 ∨ i = 1 ∨ i = 2 ∨ i = 3 ∨ i = 4 ∨ i = 5 ∨ i = 6 ∨ i = 7 := by omega
  rcases this with rfl | rfl | rfl | rfl | rfl | rfl | rfl | rfl <;> simp only [Nat.reducePow, Int.cast_ofNat_Int] <;> omega
theorem shr8 {n : Int} {k : Value → Prop} (hn : 0 ≤ n ∧ n < 18446744073709551616) (hk : k (.int .u64 (n / 256))) : Bi .shr (.int .u64 n) (.int .u64 8) k := by
  refine Bi.mk (v := .int .u64 (n / 256)) ?_ hk
  have h1 : min (8 : Int).toNat (IntKind.bits .u64) = 8 := by decide
  simp only [binV]
  rw [if_neg (by omega), h1]
  have h2 : (2 : Int) ^ 8 = 256 := by decide
  rw [h2, Int.fdiv_eq_ediv_of_nonneg _ (by omega)]
theorem div_step (m : Int) (i : Nat) : m / (256 ^ i : Nat) / 256 = m / (256 ^ (i + 1) : Nat) := by
  rw [Int.ediv_ediv_of_nonneg (Int.natCast_nonneg _), Nat.pow_succ]
  congr 1
theorem rnumber_ok {n : Int} {k : Nat} (hk : k ≤ 8) (E : Hs w0 F w l) : Ca PP Fn.r31_number #[i64 n, i64 k] w fun r w' => r = sb (le n k) ∧ Hs w0 F w' l := by
  refine S.r31_number.calls ?_
  unfold S.r31_number
  refine BdS.nul (sz := 1) E u_sl_uint8 (by kernel_rfl) ?_
  clear E
  intro v0 w_ E
  refine Cv.mk ?_
  rw [show IntKind.u64.wrap n = n % 18446744073709551616 from rfl]
  refine ⟨fun l1 w1 => ∃ (i : Nat) (v : Value), l1 = [v, .int .u64 ((n % 18446744073709551616) / (256 ^ i : Nat)), i64 i] ∧ i ≤ k ∧ Hs w0 F w1 (bsA v (le n i) :: l), fun l1 _ => match l1 with | [_, _, .int _ i] => k - i.toNat | _ => 0, ⟨0, v0, ?_, Nat.zero_le _, E⟩, ?_⟩
  · simp
  clear E
  rintro t5 t6 t7 u1 w1 ⟨i, v, e, hi, E⟩
  cases e
  have h0 : 0 ≤ (n % 18446744073709551616) / (256 ^ i : Nat) := Int.ediv_nonneg (by omega) (Int.natCast_nonneg _)
  have h1 : (n % 18446744073709551616) / (256 ^ i : Nat) < 18446744073709551616 := Int.lt_of_le_of_lt (Int.ediv_le_self _ (by omega)) (by omega)
  refine Bi.lss ?_ ?_ <;> intro hlt <;> (repeat with_reducible refine Stp.go ?_)
  · refine Cv.mk ?_
    rw [u8_wrap, byte_at n (by omega)]
    refine BdS.one E u_sl_uint8 e_uint8 rfl ?_
    clear E
    intro v2 w_ E
    have hb1 : ([Value.int .u8 (UInt8.ofNat (n / (256 ^ i : Nat) % 256).toNat).toNat] : List Value) = bts (mkB [UInt8.ofNat (n / (256 ^ i : Nat) % 256).toNat]) := rfl
    rw [hb1] at E
    refine Ap.one E (i := 1) rfl u_sl_uint8 ⟨_, u_sl_uint8, fun _ h => by cases h⟩ e_uint8 (Src.one E (by (first | assumption | exact FPt.mem | exact FMp.mem | exact FSl.mem | (repeat (first | assumption | with_reducible exact List.mem_cons_self | refine List.mem_cons_of_mem _ ?_)))) (bts_scal _)) rfl (by rw [bts_sz, bts_sz, le_length]; show (_ + 1) * _ ≤ _; omega) (by rw [bts_sz, bts_sz, le_length]; show _ + 1 ≤ _; omega) ?_
    clear E
    intro s' w_ E
    (try simp only [List.set_cons_zero, List.set_cons_succ, List.cons_append, List.nil_append, Nat.zero_add, Nat.add_zero] at E)
    rw [bts_ap, ← le_snoc] at E
    refine shr8 ⟨h0, h1⟩ ?_
    rw [div_step]
    refine Bi.add (by omega) ?_
    exact ⟨⟨i + 1, s', rfl, by omega, E.tl⟩, by simp only []; omega⟩
  · have : i = k := by omega
    subst this
    refine CvB.sl E (s := mkB (le n i)) (by (first | assumption | exact FPt.mem | exact FMp.mem | exact FSl.mem | (repeat (first | assumption | with_reducible exact List.mem_cons_self | refine List.mem_cons_of_mem _ ?_)))) u_sl_uint8 u_string u_uint8 ?_
    exact ⟨rfl, E.tl⟩
theorem rword_ok {s : List UInt8} (hs : s.length ≤ 1000000000000000) (E : Hs w0 F w l) : Ca PP Fn.r31_word #[sb s] w fun r w' => r = sb (eW s) ∧ Hs w0 F w' l := by
  refine S.r31_word.calls ?_
  unfold S.r31_word
  (repeat with_reducible refine Stp.go ?_)
  rw [mkB_size]
  refine (rnumber_ok (k := 2) (by omega) E).mono ?_
  clear E
  rintro r w_ ⟨rfl, E⟩
  refine Bi.sadd (by rw [mkB_size, mkB_size, le_length]; omega) ?_
  rw [mkB_app]
  exact ⟨rfl, E⟩
theorem rqid_ok {q : Qi} (E : Hs w0 F w l) : Ca PP Fn.r31_qid #[.agg (qcs q).toArray] w fun r w' => r = sb (eQ q) ∧ Hs w0 F w' l := by
  refine S.r31_qid.calls ?_
  unfold S.r31_qid
  (repeat with_reducible first | refine Stp.go ?_ | refine StpE.go E ?_ | (refine StpW.go E ?_; clear E; intro w_ E) | (refine StpA.go E ?_; clear E; intro b_ w_ hb_ E))
  refine (rnumber_ok (k := 1) (by omega) E).mono ?_
  clear E
  rintro r w_ ⟨rfl, E⟩
  (repeat (with_reducible refine And.intro ?_ ?_; focus ((repeat with_reducible refine StpE.go E ?_); exact rfl)))
  refine (rnumber_ok (k := 4) (by omega) E).mono ?_
  clear E
  rintro r w_ ⟨rfl, E⟩
  (repeat (with_reducible refine And.intro ?_ ?_; focus ((repeat with_reducible refine StpE.go E ?_); exact rfl)))
  refine Bi.sadd (by rw [mkB_size, mkB_size, le_length, le_length]; omega) ?_
  rw [mkB_app]
  refine (rnumber_ok (k := 8) (by omega) E).mono ?_
  clear E
  rintro r w_ ⟨rfl, E⟩
  refine Bi.sadd (by rw [mkB_size, mkB_size, List.length_append, le_length, le_length, le_length]; omega) ?_
  rw [mkB_app]
  exact ⟨rfl, E.tl⟩
theorem rdir_ok {d : Di} (hd : DB d) (E : Hs w0 F w l) : Ca PP Fn.r31_dir #[.agg (dcs d).toArray] w fun r w' => r = sb (eD d) ∧ Hs w0 F w' l := by
  obtain ⟨d1, d2, d3, d4⟩ := hd
  refine S.r31_dir.calls ?_
  unfold S.r31_dir
  (repeat with_reducible first | refine Stp.go ?_ | refine StpE.go E ?_ | (refine StpW.go E ?_; clear E; intro w_ E) | (refine StpA.go E ?_; clear E; intro b_ w_ hb_ E))
  refine (rqid_ok (q := d.q) E).mono ?_
  clear E
  rintro r w_ ⟨rfl, E⟩
  (repeat (with_reducible refine And.intro ?_ ?_; focus ((repeat with_reducible refine StpE.go E ?_); exact rfl)))
  refine (rnumber_ok (k := 4) (by omega) E).mono ?_
  clear E
  rintro r w_ ⟨rfl, E⟩
  (repeat (with_reducible refine And.intro ?_ ?_; focus ((repeat with_reducible refine StpE.go E ?_); exact rfl)))
  refine Bi.sadd (by simp only [mkB_size, le_length, eQ_length]; omega) ?_
  rw [mkB_app]
  refine (rnumber_ok (k := 8) (by omega) E).mono ?_
  clear E
  rintro r w_ ⟨rfl, E⟩
  (repeat (with_reducible refine And.intro ?_ ?_; focus ((repeat with_reducible refine StpE.go E ?_); exact rfl)))
  refine Bi.sadd (by simp only [mkB_size, List.length_append, le_length, eQ_length]; omega) ?_
  rw [mkB_app]
  refine (rnumber_ok (k := 8) (by omega) E).mono ?_
  clear E
  rintro r w_ ⟨rfl, E⟩
  (repeat (with_reducible refine And.intro ?_ ?_; focus ((repeat with_reducible refine StpE.go E ?_); exact rfl)))
  refine Bi.sadd (by simp only [mkB_size, List.length_append, le_length, eQ_length]; omega) ?_
  rw [mkB_app]
  refine (rword_ok (by omega) E).mono ?_
  clear E
  rintro r w_ ⟨rfl, E⟩
  (repeat (with_reducible refine And.intro ?_ ?_; focus ((repeat with_reducible refine StpE.go E ?_); exact rfl)))
  refine Bi.sadd (by simp only [mkB_size, List.length_append, le_length, eQ_length, eW_length]; omega) ?_
  rw [mkB_app]
  refine (rword_ok (by omega) E).mono ?_
  clear E
  rintro r w_ ⟨rfl, E⟩
  (repeat (with_reducible refine And.intro ?_ ?_; focus ((repeat with_reducible refine StpE.go E ?_); exact rfl)))
  refine Bi.sadd (by simp only [mkB_size, List.length_append, le_length, eQ_length, eW_length]; omega) ?_
  rw [mkB_app]
  refine (rword_ok (by omega) E).mono ?_
  clear E
  rintro r w_ ⟨rfl, E⟩
  (repeat (with_reducible refine And.intro ?_ ?_; focus ((repeat with_reducible refine StpE.go E ?_); exact rfl)))
  refine Bi.sadd (by simp only [mkB_size, List.length_append, le_length, eQ_length, eW_length]; omega) ?_
  rw [mkB_app]
  refine (rword_ok (by omega) E).mono ?_
  clear E
  rintro r w_ ⟨rfl, E⟩
  refine Bi.sadd (by simp only [mkB_size, List.length_append, le_length, eQ_length, eW_length]; omega) ?_
  rw [mkB_app]
  (repeat with_reducible refine Stp.go ?_)
  rw [mkB_size]
  refine (rnumber_ok (k := 2) (by omega) E).mono ?_
  clear E
  rintro r w_ ⟨rfl, E⟩
  refine Bi.sadd (by simp only [mkB_size, List.length_append, le_length, eQ_length, eW_length]; omega) ?_
  rw [mkB_app]
  exact ⟨rfl, E.tl⟩
theorem shl1 {k : Nat} (hk : k = 1 ∨ k = 2 ∨ k = 4) {c : Value → Prop} (h : c (i64 (256 ^ k : Nat))) : Bi .shl (i64 1) (i64 (8 * k)) c := by
  rcases hk with rfl | rfl | rfl
  · exact Bi.mk (v := i64 256) (by kernel_rfl) h
  · exact Bi.mk (v := i64 65536) (by kernel_rfl) h
  · exact Bi.mk (v := i64 4294967296) (by kernel_rfl) h
theorem rin_ok {n : Int} {k : Nat} (hk : k = 1 ∨ k = 2 ∨ k = 4) (E : Hs w0 F w l) : Ca PP Fn.r31_in #[i64 n, i64 k] w fun r w' => r = .bool (inR n k) ∧ Hs w0 F w' l := by
  refine S.r31_in.calls ?_
  unfold S.r31_in
  (intro J1 hJ1)
  refine Bi.geq ?_ ?_ <;> intro c
  rotate_left
  · (repeat with_reducible first | refine Stp.go ?_ | (apply hJ1; intro u_))
    refine ⟨?_, E⟩
    unfold inR
    rw [decide_eq_false (by omega)]
    rfl
  have key : ∀ m : Int, m = (256 ^ k : Nat) → (k1 : Value → Prop) → k1 (.bool (inR n k)) → Bi .lss (i64 n) (i64 m) k1 := by
    intro m hm k1 h
    unfold inR at h
    rw [decide_eq_true (by omega), Bool.true_and] at h
    refine Bi.lss (fun c2 => ?_) (fun c2 => ?_)
    · rw [decide_eq_true (by omega)] at h; exact h
    · rw [decide_eq_false (by omega)] at h; exact h
  (repeat with_reducible refine Stp.go ?_)
  refine Bi.mul (by omega) ?_
  (repeat with_reducible refine Stp.go ?_)
  refine shl1 hk ?_
  (repeat with_reducible refine Stp.go ?_)
  refine key _ rfl _ ?_
  (repeat with_reducible first | refine Stp.go ?_ | (apply hJ1; intro u_))
  exact ⟨rfl, E⟩
theorem rrightQid_ok {q : Qi} (E : Hs w0 F w l) : Ca PP Fn.r31_rightQid #[.agg (qcs q).toArray] w fun r w' => r = .bool (rQ q) ∧ Hs w0 F w' l := by
  refine S.r31_rightQid.calls ?_
  unfold S.r31_rightQid
  generalize hb : rQ q = b
  unfold rQ at hb
  (repeat with_reducible (refine StpA.go E ?_; clear E; intro b_ w_ hb_ E))
  (intro J3 hJ3)
  (repeat with_reducible first | refine Stp.go ?_ | refine StpE.go E ?_)
  refine (rin_ok (k := 1) (.inl rfl) E).mono ?_
  clear E
  rintro r w_ ⟨rfl, E⟩
  cases h1 : inR q.kind 1 with
  | false =>
    rw [h1] at hb
    (repeat with_reducible first | refine Stp.go ?_ | (apply hJ3; intro u_))
    exact ⟨by rw [← hb]; rfl, E.tl⟩
  | true =>
  (repeat with_reducible first | refine Stp.go ?_ | refine StpE.go E ?_)
  refine (rin_ok (k := 4) (.inr (.inr rfl)) E).mono ?_
  clear E
  rintro r w_ ⟨rfl, E⟩
  cases h2 : inR q.vers 4 with
  | false =>
    rw [h1, h2] at hb
    (repeat with_reducible first | refine Stp.go ?_ | (apply hJ3; intro u_))
    exact ⟨by rw [← hb]; rfl, E.tl⟩
  | true =>
  rw [h1, h2] at hb
  (repeat with_reducible first | refine Stp.go ?_ | refine StpE.go E ?_)
  refine Bi.geq ?_ ?_ <;> intro c <;> (repeat with_reducible first | refine Stp.go ?_ | (apply hJ3; intro u_))
  · exact ⟨by rw [← hb, decide_eq_true (by omega)]; rfl, E.tl⟩
  · exact ⟨by rw [← hb, decide_eq_false (by omega)]; rfl, E.tl⟩
theorem rrightDir_ok {d : Di} (E : Hs w0 F w l) : Ca PP Fn.r31_rightDir #[.agg (dcs d).toArray] w fun r w' => r = .bool (rD d) ∧ Hs w0 F w' l := by
  refine S.r31_rightDir.calls ?_
  unfold S.r31_rightDir
  generalize hb : rD d = b
  unfold rD at hb
  (repeat with_reducible (refine StpA.go E ?_; clear E; intro b_ w_ hb_ E))
  (intro J3 hJ3)
  (repeat with_reducible first | refine Stp.go ?_ | refine StpE.go E ?_)
  refine (rrightQid_ok (q := d.q) E).mono ?_
  clear E
  rintro r w_ ⟨rfl, E⟩
  cases h1 : rQ d.q with
  | false =>
    rw [h1] at hb
    (repeat with_reducible first | refine Stp.go ?_ | (apply hJ3; intro u_))
    exact ⟨by rw [← hb]; rfl, E.tl⟩
  | true =>
  rw [h1] at hb
  (repeat with_reducible first | refine Stp.go ?_ | refine StpE.go E ?_)
  refine Bi.geq ?_ ?_ <;> intro c1 <;> (repeat with_reducible first | refine Stp.go ?_ | refine StpE.go E ?_ | (apply hJ3; intro u_))
  rotate_left
  · exact ⟨by rw [← hb, decide_eq_false (by omega : ¬ -1 ≤ d.mode)]; rfl, E.tl⟩
  rw [decide_eq_true (by omega : -1 ≤ d.mode)] at hb
  refine Bi.lss ?_ ?_ <;> intro c2 <;> (repeat with_reducible first | refine Stp.go ?_ | refine StpE.go E ?_ | (apply hJ3; intro u_))
  rotate_left
  · exact ⟨by rw [← hb, decide_eq_false (by omega : ¬ d.mode < 4294967295)]; rfl, E.tl⟩
  rw [decide_eq_true (by omega : d.mode < 4294967295)] at hb
  refine Bi.geq ?_ ?_ <;> intro c3 <;> (repeat with_reducible first | refine Stp.go ?_ | refine StpE.go E ?_ | (apply hJ3; intro u_))
  rotate_left
  · exact ⟨by rw [← hb, decide_eq_false (by omega : ¬ -1 ≤ d.time)]; rfl, E.tl⟩
  rw [decide_eq_true (by omega : -1 ≤ d.time)] at hb
  refine Bi.geq ?_ ?_ <;> intro c4 <;> (repeat with_reducible first | refine Stp.go ?_ | (apply hJ3; intro u_))
  rotate_left
  · exact ⟨by rw [← hb, decide_eq_false (by omega : ¬ -1 ≤ d.len)]; rfl, E.tl⟩
  exact ⟨by rw [← hb, decide_eq_true (by omega : -1 ≤ d.len)]; rfl, E.tl⟩
theorem rdirBytes_ok {d : Di} (hd : DB d) (E : Hs w0 F w l) : Ca PP Fn.r31_dirBytes #[.agg (dcs d).toArray] w fun r w' => r = i64 (dB d : Nat) ∧ Hs w0 F w' l := by
  obtain ⟨d1, d2, d3, d4⟩ := hd
  refine S.r31_dirBytes.calls ?_
  unfold S.r31_dirBytes
  (repeat with_reducible first | refine Stp.go ?_ | refine StpE.go E ?_ | (refine StpA.go E ?_; clear E; intro b_ w_ hb_ E))
  refine Bi.add (by simp only [mkB_size]; omega) ?_
  (repeat with_reducible first | refine Stp.go ?_ | refine StpE.go E ?_)
  refine Bi.add (by simp only [mkB_size]; omega) ?_
  (repeat with_reducible first | refine Stp.go ?_ | refine StpE.go E ?_)
  refine Bi.add (by simp only [mkB_size]; omega) ?_
  (repeat with_reducible first | refine Stp.go ?_ | refine StpE.go E ?_)
  refine Bi.add (by simp only [mkB_size]; omega) ?_
  skip
  refine ⟨?_, E.tl⟩
  unfold dB
  simp only [mkB_size]
  congr 1
theorem rCheckDir_ok {d : Di} (hd : DB d) (E : Hs w0 F w l) : Ca PP Fn.r31_CheckDir #[.agg (dcs d).toArray] w fun r w' => r = i64 (chkD d) ∧ Hs w0 F w' l := by
  refine S.r31_CheckDir.calls ?_
  unfold S.r31_CheckDir
  (repeat with_reducible first | refine StpE.go E ?_ | (refine StpA.go E ?_; clear E; intro b_ w_ hb_ E))
  refine (rrightDir_ok (d := d) E).mono ?_
  clear E
  rintro r w_ ⟨rfl, E⟩
  unfold chkD
  cases rD d with
  | false =>
    (repeat with_reducible refine Stp.go ?_)
    exact ⟨rfl, E.tl⟩
  | true =>
  (repeat with_reducible first | refine Stp.go ?_ | refine StpE.go E ?_)
  refine (rdirBytes_ok hd E).mono ?_
  clear E
  rintro r w_ ⟨rfl, E⟩
  refine Bi.gtr ?_ ?_ <;> intro c <;> (repeat with_reducible refine Stp.go ?_)
  · refine ⟨?_, E.tl⟩
    rw [if_neg (by decide), if_pos (by omega)]
  · refine ⟨?_, E.tl⟩
    rw [if_neg (by decide), if_neg (by omega)]
end Go.Proofs.YtmlccboapkkcfaaGreatDoor

/-
  The protocol, plain: what the reference's reader computes is what is read.
-/
namespace Go.Proofs.YtmlccboapkkcfaaGreatDoor
open Go Go.Sh
set_option maxRecDepth 100000
set_option linter.unusedVariables false
set_option linter.unusedSimpArgs false
/-- The reference's reader: a text, a place in it, whether something was not there. -/
structure RR where
  s : List UInt8
  at_ : Nat
  sh : Bool
def RR.rest (R : RR) : List UInt8 := R.s.drop R.at_
def RR.Ok (R : RR) : Prop := R.at_ ≤ R.s.length
def RR.tk (R : RR) (n : Nat) : List UInt8 × RR := if R.sh = true ∨ n > R.s.length - R.at_ then ([], { R with sh := true }) else (R.rest.take n, { R with at_ := R.at_ + n })
def RR.num (R : RR) (k : Nat) : Nat × RR := (un (R.tk k).1, (R.tk k).2)
def RR.long (R : RR) : Int × RR := (sg (un (R.tk 8).1), (R.tk 8).2)
def RR.wrd (R : RR) : List UInt8 × RR := (R.num 2).2.tk (R.num 2).1
def RR.qid (R : RR) : Qi × RR :=
  let a := R.num 1; let b := a.2.num 4; let c := b.2.long; (⟨a.1, b.1, c.1⟩, c.2)
def RR.body0 (R : RR) : Di × RR :=
  let q := R.qid; let m := q.2.num 4; let t := m.2.long; let n := t.2.long; let a := n.2.wrd; let b := a.2.wrd; let c := b.2.wrd; let d := c.2.wrd
  (⟨q.1, m.1, t.1, n.1, a.1, b.1, c.1, d.1⟩, d.2)
def mdD (d : Di) : Di := { d with mode := mdI d.mode }
def RR.body (R : RR) : Di × RR := (mdD R.body0.1, R.body0.2)
def RR.part (R : RR) : List UInt8 × RR := (R.num 2).2.tk (R.num 2).1
def rr0 (s : List UInt8) : RR := ⟨s, 0, false⟩
def RR.dir (R : RR) : Di × RR :=
  let p := R.part; let d := (rr0 p.1).body0
  (mdD d.1, { p.2 with sh := p.2.sh || d.2.sh || d.2.at_ != p.1.length })
def RR.loop {α : Type} (f : RR → α × RR) : Nat → RR → List α × RR
  | 0, R => ([], R)
  | n + 1, R => if R.sh then ([], R) else let x := f R; let y := RR.loop f n x.2; (x.1 :: y.1, y.2)
def RR.fld (m : Ms) (R : RR) : Fl → Ms × RR
  | .xS => let x := R.num 4; ({ m with size := x.1 }, x.2)
  | .xv => let x := R.wrd; ({ m with ver := x.1 }, x.2)
  | .xf => let x := R.num 4; ({ m with fid := x.1 }, x.2)
  | .xu => let x := R.wrd; ({ m with user := x.1 }, x.2)
  | .xt => let x := R.wrd; ({ m with tree := x.1 }, x.2)
  | .xq => let x := R.qid; ({ m with qids := [x.1] }, x.2)
  | .xo => let x := R.num 4; ({ m with other := x.1 }, x.2)
  | .xc => let x := R.num 2; ({ m with code := x.1 }, x.2)
  | .xd => let x := R.num 2; ({ m with old := x.1 }, x.2)
  | .xn => let c := R.num 2; let x := RR.loop RR.wrd c.1 c.2; ({ m with names := x.1 }, x.2)
  | .xQ => let c := R.num 2; let x := RR.loop RR.qid c.1 c.2; ({ m with qids := x.1 }, x.2)
  | .xm => let x := R.num 1; ({ m with mode := x.1 }, x.2)
  | .xN => let x := R.wrd; ({ m with name := x.1 }, x.2)
  | .xp => let x := R.num 4; ({ m with perm := x.1 }, x.2)
  | .xO => let x := R.long; ({ m with off := x.1 }, x.2)
  | .xD => let c := R.num 4; let x := c.2.tk c.1; ({ m with data := x.1 }, x.2)
  | .xi => let x := R.dir; ({ m with dir := x.1 }, x.2)
def RR.flds : List Fl → Ms → RR → Ms × RR
  | [], m, R => (m, R)
  | f :: l, m, R => let x := RR.fld m R f; RR.flds l x.1 x.2
/-- An operation o of a reader against what is to be read: p. -/
structure RH {α : Type} (R : RR) (o : α × RR) (p : Option (α × List UInt8)) : Prop where
  s : o.2.s = R.s
  ok : o.2.Ok
  sh : R.sh = true → o.2.sh = true
  yes : R.sh = false → ∀ x, p = some x → o.1 = x.1 ∧ o.2.sh = false ∧ o.2.rest = x.2
  no : R.sh = false → p = none → o.2.sh = true
theorem tk_rh (R : RR) (h : R.Ok) (n : Nat) : RH R (R.tk n) (rdN n R.rest) := by
  unfold RR.Ok at h
  have hl : R.rest.length = R.s.length - R.at_ := by unfold RR.rest; rw [List.length_drop]
  unfold RR.tk
  split
  · rename_i c
    refine ⟨rfl, h, fun _ => rfl, fun hs x hx => ?_, fun _ _ => rfl⟩
    unfold rdN at hx
    rw [if_neg (by rcases c with c | c; rw [hs] at c; cases c; omega)] at hx
    cases hx
  · rename_i c
    rw [not_or] at c
    refine ⟨rfl, by show R.at_ + n ≤ R.s.length; omega, fun hs => absurd hs c.1, fun hs x hx => ?_, fun hs hx => ?_⟩
    · unfold rdN at hx
      rw [if_pos (by omega)] at hx
      cases hx
      refine ⟨rfl, hs, ?_⟩
      show R.s.drop (R.at_ + n) = (R.s.drop R.at_).drop n
      rw [List.drop_drop]
    · unfold rdN at hx
      rw [if_pos (by omega)] at hx
      cases hx
theorem num_rh (R : RR) (h : R.Ok) (k : Nat) : RH R (R.num k) (rd k R.rest) := by
  have ht := tk_rh R h k
  refine ⟨ht.s, ht.ok, ht.sh, fun hs x hx => ?_, fun hs hx => ?_⟩
  · unfold rd at hx
    split at hx
    · rename_i hk
      cases hx
      obtain ⟨e1, e2, e3⟩ := ht.yes hs (R.rest.take k, R.rest.drop k) (by unfold rdN; rw [if_pos hk])
      exact ⟨congrArg un e1, e2, e3⟩
    · cases hx
  · unfold rd at hx
    split at hx
    · cases hx
    · rename_i hk
      exact ht.no hs (by unfold rdN; rw [if_neg hk])
theorem RH.seq {α β : Type} {R : RR} {o : α × RR} {p : Option (α × List UInt8)} (h : RH R o p) {o2 : β × RR} {q : α × List UInt8 → Option (β × List UInt8)} (k : RH o.2 o2 (q (o.1, o.2.rest))) : RH R o2 (p.bind q) := by
  refine ⟨k.s.trans h.s, k.ok, fun hs => k.sh (h.sh hs), fun hs y hy => ?_, fun hs hn => ?_⟩
  · obtain ⟨x, hx, hy⟩ := Option.bind_eq_some_iff.1 hy
    obtain ⟨e1, e2, e3⟩ := h.yes hs x hx
    exact k.yes e2 y (by rw [e1, e3]; exact hy)
  · cases hp : p with
    | none => exact k.sh (h.no hs hp)
    | some x =>
      obtain ⟨e1, e2, e3⟩ := h.yes hs x hp
      rw [hp, Option.bind_some] at hn
      exact k.no e2 (by rw [e1, e3]; exact hn)
theorem RH.map {α β : Type} {R : RR} {o : α × RR} {p : Option (α × List UInt8)} (h : RH R o p) (g : α → β) : RH R (g o.1, o.2) (p.bind fun x => some (g x.1, x.2)) := by
  refine ⟨h.s, h.ok, h.sh, fun hs y hy => ?_, fun hs hn => ?_⟩
  · obtain ⟨x, hx, hy⟩ := Option.bind_eq_some_iff.1 hy
    cases hy
    obtain ⟨e1, e2, e3⟩ := h.yes hs x hx
    exact ⟨by rw [e1], e2, e3⟩
  · cases hp : p with
    | none => exact h.no hs hp
    | some x => rw [hp] at hn; cases hn
theorem RH.refl {α : Type} (R : RR) (h : R.Ok) (x : α) : RH R (x, R) (some (x, R.rest)) := ⟨rfl, h, id, fun hs y hy => by cases hy; exact ⟨rfl, hs, rfl⟩, fun _ hn => by cases hn⟩
theorem long_rh (R : RR) (h : R.Ok) : RH R R.long (rd8 R.rest) := (num_rh R h 8).map (fun n : Nat => sg n)
theorem wrd_rh (R : RR) (h : R.Ok) : RH R R.wrd (rdW R.rest) := (num_rh R h 2).seq (tk_rh _ (num_rh R h 2).ok _)
theorem qid_rh (R : RR) (h : R.Ok) : RH R R.qid (rdQ R.rest) :=
  (num_rh R h 1).seq ((num_rh _ (num_rh R h 1).ok 4).seq ((long_rh _ (num_rh _ (num_rh R h 1).ok 4).ok).map (fun c : Int => (⟨_, _, c⟩ : Qi))))
theorem body_rh (R : RR) (h : R.Ok) : RH R R.body (rdB R.rest) := by
  unfold rdB
  have h1 := qid_rh R h
  refine h1.seq ?_
  have h2 := num_rh _ h1.ok 4
  refine (h2.map (fun n : Nat => mdI n)).seq ?_
  have h3 := long_rh _ h2.ok
  refine h3.seq ?_
  have h4 := long_rh _ h3.ok
  refine h4.seq ?_
  have h5 := wrd_rh _ h4.ok
  refine h5.seq ?_
  have h6 := wrd_rh _ h5.ok
  refine h6.seq ?_
  have h7 := wrd_rh _ h6.ok
  refine h7.seq ?_
  have h8 := wrd_rh _ h7.ok
  exact h8.map (fun c => (⟨_, _, _, _, _, _, _, c⟩ : Di))
theorem rr0_ok (s : List UInt8) : (rr0 s).Ok := Nat.zero_le _
theorem rest_nil {R : RR} (h : R.Ok) : R.rest = [] ↔ R.at_ = R.s.length := by
  unfold RR.Ok at h
  unfold RR.rest
  rw [List.drop_eq_nil_iff]
  omega
theorem dir_rh (R : RR) (h : R.Ok) : RH R R.dir (rdD R.rest) := by
  have h1 : RH R R.part (rdW R.rest) := wrd_rh R h
  have hb := body_rh (rr0 R.part.1) (rr0_ok _)
  have er : (rr0 R.part.1).rest = R.part.1 := rfl
  rw [er] at hb
  have hs0 : (rr0 R.part.1).body0.2.s = R.part.1 := hb.s
  refine ⟨h1.s, h1.ok, fun hs => ?_, fun hs x hx => ?_, fun hs hn => ?_⟩
  · show (R.part.2.sh || _ || _) = true
    rw [h1.sh hs]; rfl
  · unfold rdD at hx
    obtain ⟨p, hp, hx⟩ := Option.bind_eq_some_iff.1 hx
    obtain ⟨d, hd, hx⟩ := Option.bind_eq_some_iff.1 hx
    split at hx
    · rename_i hnil
      cases hx
      obtain ⟨e1, e2, e3⟩ := h1.yes hs p hp
      rw [← e1] at hd
      obtain ⟨f1, f2, f3⟩ := hb.yes rfl d hd
      rw [hnil, rest_nil hb.ok] at f3
      refine ⟨f1, ?_, e3⟩
      show (R.part.2.sh || (rr0 R.part.1).body0.2.sh || (rr0 R.part.1).body0.2.at_ != R.part.1.length) = false
      have f3 : (rr0 R.part.1).body0.2.at_ = (rr0 R.part.1).body0.2.s.length := f3
      rw [hs0] at f3
      rw [e2, f3, show (rr0 R.part.1).body0.2.sh = false from f2]
      simp
    · cases hx
  · show (R.part.2.sh || (rr0 R.part.1).body0.2.sh || (rr0 R.part.1).body0.2.at_ != R.part.1.length) = true
    unfold rdD at hn
    cases hp : rdW R.rest with
    | none => rw [h1.no hs hp]; rfl
    | some p =>
      obtain ⟨e1, e2, e3⟩ := h1.yes hs p hp
      rw [hp, Option.bind_some, ← e1] at hn
      cases hd : rdB R.part.1 with
      | none =>
        have : (rr0 R.part.1).body0.2.sh = true := hb.no rfl hd
        rw [this]; simp
      | some d =>
        rw [hd, Option.bind_some] at hn
        split at hn
        · cases hn
        · rename_i hnil
          obtain ⟨f1, f2, f3⟩ := hb.yes rfl d hd
          have : ¬ (rr0 R.part.1).body0.2.at_ = R.part.1.length := by
            intro e
            have e : (rr0 R.part.1).body0.2.at_ = (rr0 R.part.1).body0.2.s.length := e.trans (congrArg List.length hs0).symm
            exact hnil (f3.symm.trans ((rest_nil hb.ok).2 (show (rr0 R.part.1).body0.2.at_ = (rr0 R.part.1).body0.2.s.length from e)))
          have : ((rr0 R.part.1).body0.2.at_ != R.part.1.length) = true := by simpa using this
          rw [this]; simp
/-- The reference's Decode. -/
def decR (s : List UInt8) : Ms × Int :=
  if s.length < 7 then (m0, 16) else
  if un (s.take 4) > 8192 then (m0, 3) else
  if un (s.take 4) ≠ s.length then (m0, 14) else
  let m : Ms := { m0 with kind := un ((s.drop 4).take 1), tag := un ((s.drop 5).take 2) }
  match fls m.kind with
  | none => (m0, 13)
  | some l =>
    let x := RR.flds l m ⟨s, 7, false⟩
    if x.2.sh = true ∨ x.2.at_ ≠ s.length then (m0, 2) else if chk x.1 = 0 then (x.1, 0) else (m0, chk x.1)
/-- The reference's DecodeDir. -/
def decRD (s : List UInt8) : Di × Nat × Int :=
  if s.length < 2 then (d0, 0, 16) else
  if 2 + un (s.take 2) > s.length then (d0, 0, 16) else
  if 2 + un (s.take 2) > 1024 then (d0, 0, 3) else
  let x := (rr0 (s.take (2 + un (s.take 2)))).dir
  if x.2.sh = true then (d0, 0, 2) else if rD x.1 then (x.1, 2 + un (s.take 2), 0) else (d0, 0, 11)
theorem decRD_decD (s : List UInt8) : decRD s = decD s := by
  unfold decRD decD
  by_cases h2 : 2 ≤ s.length
  rotate_left
  · have hr : rd 2 s = none := by unfold rd; rw [if_neg h2]
    rw [if_pos (by omega), hr]
  rw [if_neg (by omega)]
  have hrd : rd 2 s = some (un (s.take 2), s.drop 2) := by unfold rd; rw [if_pos h2]
  rw [hrd]
  simp only []
  generalize hn : un (s.take 2) = n
  rw [Nat.add_comm 2 n]
  by_cases h3 : n + 2 > s.length
  · rw [if_pos h3, if_pos h3]
  rw [if_neg h3, if_neg h3]
  by_cases h4 : n + 2 > 1024
  · rw [if_pos h4, if_pos h4]
  rw [if_neg h4, if_neg h4]
  have h := dir_rh (rr0 (s.take (n + 2))) (rr0_ok _)
  have er : (rr0 (s.take (n + 2))).rest = s.take (n + 2) := rfl
  rw [er] at h
  have hw : rdW (s.take (n + 2)) = some ((s.drop 2).take n, []) := by
    have e1 : rd 2 (s.take (n + 2)) = some (n, (s.drop 2).take n) := by
      unfold rd
      rw [if_pos (by rw [List.length_take]; omega), List.take_take, Nat.min_eq_left (by omega), hn, List.drop_take, Nat.add_sub_cancel]
    unfold rdW
    rw [e1, Option.bind_some]
    unfold rdN
    rw [if_pos (by rw [List.length_take, List.length_drop]; omega)]
    simp only []
    have hz : ((s.drop 2).take n).drop n = [] := by rw [List.drop_eq_nil_iff, List.length_take]; omega
    rw [List.take_take, Nat.min_self, hz]
  generalize (rr0 (s.take (n + 2))).dir = x at h ⊢
  unfold rdD at h
  rw [hw, Option.bind_some] at h
  cases hb : rdB ((s.drop 2).take n) with
  | none =>
    rw [hb] at h
    rw [if_pos (h.no rfl rfl)]
  | some y =>
    obtain ⟨d, t⟩ := y
    rw [hb, Option.bind_some] at h
    cases t with
    | nil =>
      rw [if_pos rfl] at h
      obtain ⟨e1, e2, -⟩ := h.yes rfl _ rfl
      rw [if_neg (by rw [e2]; decide), e1]
    | cons a t =>
      rw [if_neg (by simp)] at h
      rw [if_pos (h.no rfl rfl)]
end Go.Proofs.YtmlccboapkkcfaaGreatDoor

/-
  The protocol's reference: its reader.
-/
namespace Go.Proofs.YtmlccboapkkcfaaGreatDoor
open Go Go.Sh
set_option maxRecDepth 100000
set_option linter.unusedVariables false
set_option linter.unusedSimpArgs false
variable {w0 w : World} {F : Nat → Prop} {l : List As}
abbrev rcs (R : RR) : List Value := [sb R.s, i64 R.at_, .bool R.sh]
/-- A reader of a text that is not too great. -/
structure RB (R : RR) : Prop where
  ok : R.Ok
  z : R.s.length ≤ 1000000000000
theorem RH.rb {α : Type} {R : RR} {o : α × RR} {p : Option (α × List UInt8)} (h : RH R o p) (B : RB R) : RB o.2 := ⟨h.ok, by rw [h.s]; exact B.z⟩
theorem tk_len (R : RR) (n : Nat) : (R.tk n).1.length ≤ n := by
  unfold RR.tk
  split
  · exact Nat.zero_le _
  · show (R.rest.take n).length ≤ n
    rw [List.length_take]; omega
theorem rnum_lt (R : RR) (k : Nat) : (R.num k).1 < 256 ^ k := by
  have h1 := un_lt (R.tk k).1
  exact Nat.lt_of_lt_of_le h1 (Nat.pow_le_pow_right (by omega) (tk_len R k))
theorem rtake_ok {R : RR} {n : Nat} (B : RB R) (hn : n ≤ 100000000000) (E : Hs w0 F w l) :
    Ca PP Fn.r31_take #[.agg (rcs R).toArray, i64 n] w fun q w' => q = .tuple #[sb (R.tk n).1, .agg (rcs (R.tk n).2).toArray] ∧ Hs w0 F w' l := by
  obtain ⟨s, a, sh⟩ := R
  have hok : a ≤ s.length := B.ok
  have hz : s.length ≤ 1000000000000 := B.z
  show Ca PP Fn.r31_take #[.agg [sb s, i64 a, .bool sh].toArray, i64 n] w _
  refine S.r31_take.calls ?_
  unfold S.r31_take
  (repeat with_reducible (refine StpA.go E ?_; clear E; intro b_ w_ hb_ E))
  (intro J5 hJ5)
  have no : (sh = true ∨ n > s.length - a) → J5 [.bool true] w_ := by
    intro h
    (repeat with_reducible first | refine Stp.go ?_ | refine StpE.go E ?_ | (refine StpW.go E ?_; clear E; intro w_ E) | (apply hJ5; intro u_))
    refine ⟨?_, E.tl.tl⟩
    unfold RR.tk
    rw [if_pos h]
  have yes : ¬ (sh = true ∨ n > s.length - a) → J5 [.bool false] w_ := by
    intro h
    have h0 := h
    rw [not_or] at h
    apply hJ5
    intro u_
    clear hJ5
    (repeat with_reducible first | refine Stp.go ?_ | refine StpE.go E ?_)
    refine Bi.add (by omega) ?_
    refine SlS.mid (by omega) (by omega) (by rw [mkB_size]; omega) ?_
    rw [show ((a : Int)).toNat = a from Int.toNat_natCast _, show ((a : Int) + n).toNat = a + n by omega, mkB_ext, List.drop_take, Nat.add_sub_cancel_left]
    (repeat with_reducible first | refine Stp.go ?_ | refine StpE.go E ?_)
    refine Bi.add (by omega) ?_
    (repeat with_reducible first | refine Stp.go ?_ | refine StpE.go E ?_ | (refine StpW.go E ?_; clear E; intro w_ E))
    refine ⟨?_, E.tl.tl⟩
    unfold RR.tk
    rw [if_neg h0]
    rfl
  clear hJ5
  cases sh with
  | true =>
    (repeat with_reducible first | refine Stp.go ?_ | refine StpE.go E ?_)
    exact no (.inl rfl)
  | false =>
    (repeat with_reducible first | refine Stp.go ?_ | refine StpE.go E ?_)
    refine Bi.sub (by rw [mkB_size]; omega) ?_
    (repeat with_reducible refine Stp.go ?_)
    rw [mkB_size]
    refine Bi.gtr ?_ ?_ <;> intro c <;> (repeat with_reducible refine Stp.go ?_)
    · exact no (.inr (by omega))
    · exact yes (by rintro (h | h); cases h; omega)
theorem rreadNumber_ok {R : RR} (k : Nat) (hk : k ≤ 4) (B : RB R) (E : Hs w0 F w l) :
    Ca PP Fn.r31_readNumber #[.agg (rcs R).toArray, i64 k] w fun q w' => q = .tuple #[i64 ((R.num k).1 : Nat), .agg (rcs (R.num k).2).toArray] ∧ Hs w0 F w' l := by
  refine S.r31_readNumber.calls ?_
  unfold S.r31_readNumber
  have hl := tk_len R k
  have hlt := rnum_lt R k
  have h4 : (256 : Nat) ^ k ≤ 256 ^ 4 := Nat.pow_le_pow_right (by omega) hk
  have h5 : (256 : Nat) ^ 4 = 4294967296 := by decide
  (repeat with_reducible first | refine StpE.go E ?_ | (refine StpA.go E ?_; clear E; intro b_ w_ hb_ E))
  refine (rtake_ok B (by omega) E).mono ?_
  clear E
  rintro q w_ ⟨rfl, E⟩
  (repeat with_reducible first | refine Stp.go ?_ | refine StpE.go E ?_ | (refine StpW.go E ?_; clear E; intro w_ E) | (refine StpA.go E ?_; clear E; intro b_ w_ hb_ E))
  refine (rvalue_ok (by omega) E).mono ?_
  clear E
  rintro q w_ ⟨rfl, E⟩
  (repeat (with_reducible refine And.intro ?_ ?_; focus ((repeat with_reducible refine StpE.go E ?_); exact rfl)))
  refine Cv.i64 (by show _ ≤ ((R.num k).1 : Int) ∧ ((R.num k).1 : Int) ≤ _; omega) ?_
  (repeat with_reducible first | refine StpE.go E ?_ | (refine StpW.go E ?_; clear E; intro w_ E))
  exact ⟨rfl, E.tl.tl.tl⟩
theorem rreadLong_ok {R : RR} (B : RB R) (E : Hs w0 F w l) :
    Ca PP Fn.r31_readLong #[.agg (rcs R).toArray] w fun q w' => q = .tuple #[i64 R.long.1, .agg (rcs R.long.2).toArray] ∧ Hs w0 F w' l := by
  refine S.r31_readLong.calls ?_
  unfold S.r31_readLong
  have hl := tk_len R 8
  have hlt := rnum_lt R 8
  have h5 : (256 : Nat) ^ 8 = 18446744073709551616 := by decide
  (repeat with_reducible first | refine StpE.go E ?_ | (refine StpA.go E ?_; clear E; intro b_ w_ hb_ E))
  refine (rtake_ok (n := 8) B (by omega) E).mono ?_
  clear E
  rintro q w_ ⟨rfl, E⟩
  (repeat with_reducible first | refine Stp.go ?_ | refine StpE.go E ?_ | (refine StpW.go E ?_; clear E; intro w_ E) | (refine StpA.go E ?_; clear E; intro b_ w_ hb_ E))
  refine (rvalue_ok (by omega) E).mono ?_
  clear E
  rintro q w_ ⟨rfl, E⟩
  (repeat (with_reducible refine And.intro ?_ ?_; focus ((repeat with_reducible refine StpE.go E ?_); exact rfl)))
  refine Cv.mk ?_
  rw [i64_sg (show un (R.tk 8).1 < _ from by have : (R.num 8).1 = un (R.tk 8).1 := rfl; omega)]
  (repeat with_reducible first | refine StpE.go E ?_ | (refine StpW.go E ?_; clear E; intro w_ E))
  exact ⟨rfl, E.tl.tl.tl⟩
theorem rreadWord_ok {R : RR} (B : RB R) (E : Hs w0 F w l) :
    Ca PP Fn.r31_readWord #[.agg (rcs R).toArray] w fun q w' => q = .tuple #[sb R.wrd.1, .agg (rcs R.wrd.2).toArray] ∧ Hs w0 F w' l := by
  refine S.r31_readWord.calls ?_
  unfold S.r31_readWord
  have hlt : (R.num 2).1 < 65536 := rnum_lt R 2
  (repeat with_reducible first | refine StpE.go E ?_ | (refine StpA.go E ?_; clear E; intro b_ w_ hb_ E))
  refine (rreadNumber_ok 2 (by omega) B E).mono ?_
  clear E
  rintro q w_ ⟨rfl, E⟩
  (repeat with_reducible first | refine Stp.go ?_ | refine StpE.go E ?_ | (refine StpW.go E ?_; clear E; intro w_ E) | (refine StpA.go E ?_; clear E; intro b_ w_ hb_ E))
  refine (rtake_ok ((num_rh R B.ok 2).rb B) (by omega) E).mono ?_
  clear E
  rintro q w_ ⟨rfl, E⟩
  (repeat with_reducible first | refine Stp.go ?_ | refine StpE.go E ?_ | (refine StpW.go E ?_; clear E; intro w_ E))
  exact ⟨rfl, E.tl.tl.tl⟩
theorem rreadQid_ok {R : RR} (B : RB R) (E : Hs w0 F w l) :
    Ca PP Fn.r31_readQid #[.agg (rcs R).toArray] w fun q w' => q = .tuple #[.agg (qcs R.qid.1).toArray, .agg (rcs R.qid.2).toArray] ∧ Hs w0 F w' l := by
  refine S.r31_readQid.calls ?_
  unfold S.r31_readQid
  have h1 := num_rh R B.ok 1
  have B1 := h1.rb B
  have h2 := num_rh _ B1.ok 4
  have B2 := h2.rb B1
  (repeat with_reducible first | refine StpE.go E ?_ | (refine StpW.go E ?_; clear E; intro w_ E) | (refine StpA.go E ?_; clear E; intro b_ w_ hb_ E))
  refine (rreadNumber_ok 1 (by omega) B E).mono ?_
  clear E
  rintro q w_ ⟨rfl, E⟩
  (repeat with_reducible first | refine Stp.go ?_ | refine StpE.go E ?_ | (refine StpW.go E ?_; clear E; intro w_ E))
  refine (rreadNumber_ok 4 (by omega) B1 E).mono ?_
  clear E
  rintro q w_ ⟨rfl, E⟩
  (repeat with_reducible first | refine Stp.go ?_ | refine StpE.go E ?_ | (refine StpW.go E ?_; clear E; intro w_ E))
  refine (rreadLong_ok B2 E).mono ?_
  clear E
  rintro q w_ ⟨rfl, E⟩
  (repeat with_reducible first | refine Stp.go ?_ | refine StpE.go E ?_ | (refine StpW.go E ?_; clear E; intro w_ E))
  (repeat (with_reducible refine And.intro ?_ ?_; focus ((repeat with_reducible refine StpE.go E ?_); exact rfl)))
  (repeat with_reducible first | refine StpE.go E ?_ | (refine StpW.go E ?_; clear E; intro w_ E))
  exact ⟨rfl, E.tl.tl.tl.tl⟩
theorem rreadDir_ok {R : RR} (B : RB R) (E : Hs w0 F w l) :
    Ca PP Fn.r31_readDir #[.agg (rcs R).toArray] w fun q w' => q = .tuple #[.agg (dcs R.dir.1).toArray, .agg (rcs R.dir.2).toArray] ∧ Hs w0 F w' l := by
  refine S.r31_readDir.calls ?_
  unfold S.r31_readDir
  have hlt : (R.num 2).1 < 65536 := rnum_lt R 2
  have h1 := num_rh R B.ok 2
  have B1 := h1.rb B
  have h2 : RH R R.part _ := wrd_rh R B.ok
  have hpl : R.part.1.length ≤ 65536 := by have := tk_len (R.num 2).2 (R.num 2).1; show ((R.num 2).2.tk (R.num 2).1).1.length ≤ _; omega
  have hdir : R.dir = (mdD (rr0 R.part.1).body0.1, { R.part.2 with sh := R.part.2.sh || (rr0 R.part.1).body0.2.sh || (rr0 R.part.1).body0.2.at_ != R.part.1.length }) := rfl
  have I0 : RB (rr0 R.part.1) := ⟨rr0_ok _, by show R.part.1.length ≤ _; omega⟩
  rw [hdir]
  (repeat with_reducible first | refine StpE.go E ?_ | (refine StpA.go E ?_; clear E; intro b_ w_ hb_ E))
  refine (rreadNumber_ok 2 (by omega) B E).mono ?_
  clear E
  rintro q w_ ⟨rfl, E⟩
  (repeat with_reducible first | refine Stp.go ?_ | refine StpE.go E ?_ | (refine StpW.go E ?_; clear E; intro w_ E))
  refine (rtake_ok B1 (by omega) E).mono ?_
  clear E
  rintro q w_ ⟨rfl, E⟩
  rw [show (R.num 2).2.tk (R.num 2).1 = R.part from rfl] at *
  generalize R.part = p at hpl I0 ⊢
  obtain ⟨ps, R'⟩ := p
  dsimp only at hpl I0 ⊢
  have g1 := qid_rh _ I0.ok
  have I1 := g1.rb I0
  have g2 := num_rh _ I1.ok 4
  have I2 := g2.rb I1
  have g3 := long_rh _ I2.ok
  have I3 := g3.rb I2
  have g4 := long_rh _ I3.ok
  have I4 := g4.rb I3
  have g5 := wrd_rh _ I4.ok
  have I5 := g5.rb I4
  have g6 := wrd_rh _ I5.ok
  have I6 := g6.rb I5
  have g7 := wrd_rh _ I6.ok
  have I7 := g7.rb I6
  (repeat with_reducible first | refine Stp.go ?_ | refine StpE.go E ?_ | (refine StpW.go E ?_; clear E; intro w_ E) | (refine StpA.go E ?_; clear E; intro b_ w_ hb_ E))
  refine (rreadQid_ok (R := rr0 ps) I0 E).mono ?_
  clear E
  rintro q w_ ⟨rfl, E⟩
  (repeat with_reducible first | refine Stp.go ?_ | refine StpE.go E ?_ | (refine StpW.go E ?_; clear E; intro w_ E))
  refine (rreadNumber_ok 4 (by omega) I1 E).mono ?_
  clear E
  rintro q w_ ⟨rfl, E⟩
  (repeat with_reducible first | refine Stp.go ?_ | refine StpE.go E ?_ | (refine StpW.go E ?_; clear E; intro w_ E))
  refine (rreadLong_ok I2 E).mono ?_
  clear E
  rintro q w_ ⟨rfl, E⟩
  (repeat with_reducible first | refine Stp.go ?_ | refine StpE.go E ?_ | (refine StpW.go E ?_; clear E; intro w_ E))
  refine (rreadLong_ok I3 E).mono ?_
  clear E
  rintro q w_ ⟨rfl, E⟩
  (repeat with_reducible first | refine Stp.go ?_ | refine StpE.go E ?_ | (refine StpW.go E ?_; clear E; intro w_ E))
  refine (rreadWord_ok I4 E).mono ?_
  clear E
  rintro q w_ ⟨rfl, E⟩
  (repeat with_reducible first | refine Stp.go ?_ | refine StpE.go E ?_ | (refine StpW.go E ?_; clear E; intro w_ E))
  refine (rreadWord_ok I5 E).mono ?_
  clear E
  rintro q w_ ⟨rfl, E⟩
  (repeat with_reducible first | refine Stp.go ?_ | refine StpE.go E ?_ | (refine StpW.go E ?_; clear E; intro w_ E))
  refine (rreadWord_ok I6 E).mono ?_
  clear E
  rintro q w_ ⟨rfl, E⟩
  (repeat with_reducible first | refine Stp.go ?_ | refine StpE.go E ?_ | (refine StpW.go E ?_; clear E; intro w_ E))
  refine (rreadWord_ok I7 E).mono ?_
  clear E
  rintro q w_ ⟨rfl, E⟩
  (repeat with_reducible first | refine Stp.go ?_ | (refine StpW.go E ?_; clear E; intro w_ E))
  replace E : Hs w0 F w_ (pt b_ (oc (dcs (rr0 ps).body0.1) Ty.api_Dir) :: pt _ (oc (rcs (rr0 ps).body0.2) Ty.r31_reader) :: _) := E
  clear g1 I1 g2 I2 g3 I3 g4 I4 g5 I5 g6 I6 g7 I7
  generalize (rr0 ps).body0 = X at E ⊢
  obtain ⟨⟨dq, dm, dt, dl, d1, d2, d3, d4⟩, Is, Ia, Ih⟩ := X
  obtain ⟨rs, ra, rh⟩ := R'
  dsimp only at E ⊢
  have hmd : ∀ b : Bool, b = (rh || Ih || Ia != ps.length) → ∀ m' : Int, m' = mdI dm → (Value.tuple #[.agg (dcs ⟨dq, m', dt, dl, d1, d2, d3, d4⟩).toArray, .agg [sb rs, i64 ra, .bool b].toArray] : Value) =
      .tuple #[.agg (dcs (mdD ⟨dq, dm, dt, dl, d1, d2, d3, d4⟩)).toArray, .agg [sb rs, i64 ra, .bool (rh || Ih || Ia != ps.length)].toArray] := by
    rintro _ rfl _ rfl; rfl
  (intro J91 hJ91)
  (intro J110 hJ110)
  (repeat with_reducible first | refine Stp.go ?_ | refine StpE.go E ?_)
  cases Ih with
  | true =>
    (repeat with_reducible first | refine Stp.go ?_ | (refine StpW.go E ?_; clear E; intro w_ E) | (apply hJ91; intro u_) | (apply hJ110; intro u_))
    (intro J94 hJ94)
    (repeat with_reducible first | refine Stp.go ?_ | refine StpE.go E ?_)
    refine Bi.eql ?_ ?_ <;> intro c <;> (repeat with_reducible first | refine Stp.go ?_ | refine StpE.go E ?_ | (refine StpW.go E ?_; clear E; intro w_ E) | (apply hJ94; intro u_)) <;> (repeat (with_reducible refine And.intro ?_ ?_; focus ((repeat with_reducible refine StpE.go E ?_); exact rfl))) <;> (repeat with_reducible first | refine StpE.go E ?_ | (refine StpW.go E ?_; clear E; intro w_ E))
    · exact ⟨hmd true (by simp) (-1) (by rw [show dm = 4294967295 from c]; rfl), E.tl.tl.tl.tl.tl⟩
    · exact ⟨hmd true (by simp) dm (by unfold mdI; rw [if_neg (show ¬ dm = 4294967295 from c)]), E.tl.tl.tl.tl.tl⟩
  | false =>
    (repeat with_reducible first | refine Stp.go ?_ | refine StpE.go E ?_)
    rw [mkB_size]
    refine Bi.neq ?_ ?_ <;> intro c2 <;> (repeat with_reducible first | refine Stp.go ?_ | (refine StpW.go E ?_; clear E; intro w_ E) | (apply hJ91; intro u_) | (apply hJ110; intro u_))
    · have c3 : (Ia != ps.length) = true := by simpa using (by have c2 : ((Ia : Nat) : Int) ≠ ps.length := c2; omega : ¬ Ia = ps.length)
      (intro J94 hJ94)
      (repeat with_reducible first | refine Stp.go ?_ | refine StpE.go E ?_)
      refine Bi.eql ?_ ?_ <;> intro c <;> (repeat with_reducible first | refine Stp.go ?_ | refine StpE.go E ?_ | (refine StpW.go E ?_; clear E; intro w_ E) | (apply hJ94; intro u_)) <;> (repeat (with_reducible refine And.intro ?_ ?_; focus ((repeat with_reducible refine StpE.go E ?_); exact rfl))) <;> (repeat with_reducible first | refine StpE.go E ?_ | (refine StpW.go E ?_; clear E; intro w_ E))
      · exact ⟨hmd true (by rw [c3]; simp) (-1) (by rw [show dm = 4294967295 from c]; rfl), E.tl.tl.tl.tl.tl⟩
      · exact ⟨hmd true (by rw [c3]; simp) dm (by unfold mdI; rw [if_neg (show ¬ dm = 4294967295 from c)]), E.tl.tl.tl.tl.tl⟩
    · have c3 : (Ia != ps.length) = false := by simpa using (by have c2 : ((Ia : Nat) : Int) = ps.length := c2; omega : Ia = ps.length)
      (intro J94 hJ94)
      (repeat with_reducible first | refine Stp.go ?_ | refine StpE.go E ?_)
      refine Bi.eql ?_ ?_ <;> intro c <;> (repeat with_reducible first | refine Stp.go ?_ | refine StpE.go E ?_ | (refine StpW.go E ?_; clear E; intro w_ E) | (apply hJ94; intro u_)) <;> (repeat (with_reducible refine And.intro ?_ ?_; focus ((repeat with_reducible refine StpE.go E ?_); exact rfl))) <;> (repeat with_reducible first | refine StpE.go E ?_ | (refine StpW.go E ?_; clear E; intro w_ E))
      · exact ⟨hmd rh (by rw [c3]; simp) (-1) (by rw [show dm = 4294967295 from c]; rfl), E.tl.tl.tl.tl.tl⟩
      · exact ⟨hmd rh (by rw [c3]; simp) dm (by unfold mdI; rw [if_neg (show ¬ dm = 4294967295 from c)]), E.tl.tl.tl.tl.tl⟩
end Go.Proofs.YtmlccboapkkcfaaGreatDoor

/-
  The protocol: the Dir at the beginning of a text.
-/
namespace Go.Proofs.YtmlccboapkkcfaaGreatDoor
open Go Go.Sh
set_option maxRecDepth 100000
set_option linter.unusedVariables false
set_option linter.unusedSimpArgs false
variable {w0 w : World} {F : Nat → Prop} {l : List As}
theorem DecodeDir_ok {s : List UInt8} (hs : s.length ≤ 1000000000000) (E : Hs w0 F w l) :
    Ca PP Fn.styx_DecodeDir #[sb s] w fun q w' => q = .tuple #[.agg (dcs (decD s).1).toArray, i64 ((decD s).2.1 : Nat), i64 (decD s).2.2] ∧ Hs w0 F w' l := by
  rw [← decDP_decD]
  refine S.styx_DecodeDir.calls ?_
  unfold S.styx_DecodeDir
  (repeat with_reducible (refine StpA.go E ?_; clear E; intro b_ w_ hb_ E))
  (revert b_; intro rb hbrb E)
  refine (NewReader_ok E).mono ?_
  clear E
  rintro q w_ ⟨r, rfl, E⟩
  refine (RLittle_ok (n := 2) (by omega) hs (Nat.zero_le _) E).mono ?_
  clear E
  rintro q w_ (⟨he, _⟩ | ⟨he, x, n', rfl, hn, hp, E⟩ | ⟨he, hp, e', he', rfl, E⟩)
  · exact absurd rfl he
  · rw [List.drop_zero] at hp
    by_cases h2 : 2 ≤ s.length
    rotate_left
    · unfold rd at hp
      rw [if_neg h2] at hp
      cases hp
    have hrd : rd 2 s = some (un (s.take 2), s.drop 2) := by unfold rd; rw [if_pos h2]
    rw [hrd] at hp
    have hx : i64 (un (s.take 2) : Nat) = x := congrArg Prod.fst (Option.some.inj hp)
    subst hx
    have hlt := un_lt (s.take 2)
    rw [List.length_take, Nat.min_eq_left h2] at hlt
    have hlt : un (s.take 2) < 65536 := hlt
    clear hp
    unfold decDP
    rw [hrd]
    simp only []
    generalize un (s.take 2) = k at hlt ⊢
    (repeat with_reducible refine Stp.go ?_)
    refine Bi.add (by omega) ?_
    (intro J10 hJ10)
    (repeat first | (with_reducible first | refine Stp.go ?_) | ((with_reducible refine Bi.dec false ?_ ?_); focus exact rfl))
    refine Bi.gtr ?_ ?_ <;> intro c1 <;> (repeat with_reducible first | refine Stp.go ?_ | refine StpE.go E ?_ | (refine StpW.go E ?_; clear E; intro w_ E) | (apply hJ10; intro u_))
    · rw [mkB_size] at c1
      rw [if_pos (by omega)]
      exact ⟨rfl, E.tl.tl⟩
    rw [mkB_size] at c1
    rw [if_neg (by omega)]
    refine Bi.gtr ?_ ?_ <;> intro c2 <;> (repeat with_reducible first | refine Stp.go ?_ | refine StpE.go E ?_ | (refine StpW.go E ?_; clear E; intro w_ E))
    · rw [if_pos (by omega)]
      exact ⟨rfl, E.tl.tl⟩
    rw [if_neg (by omega)]
    refine SlS.mid (by omega) (by omega) (by rw [mkB_size]; omega) ?_
    rw [show ((2 : Int)).toNat = 2 from rfl, show ((k : Int) + 2).toNat = k + 2 by omega, mkB_ext, List.drop_take, Nat.add_sub_cancel]
    have hyl : ((s.drop 2).take k).length ≤ k := by rw [List.length_take]; omega
    generalize (s.drop 2).take k = y at hyl ⊢
    refine (NewReader_ok E).mono ?_
    clear E
    rintro q w_ ⟨r2, rfl, E⟩
    (repeat with_reducible first | refine StpE.go E ?_ | (refine StpA.go E ?_; clear E; intro b_ w_ hb_ E))
    (revert b_; intro db hbdb E)
    (revert b_; intro i2 hbi2 E)
    (replace E := (((E.bIx 0).bIx 2).bIx 2))
    refine (ibody_ok (I := i0 y) (off := 0) (pre := []) (post := []) rfl ⟨r2, y, 0, 0, E, Nat.zero_le _, by omega, rfl, by simp [i0]⟩).mono ?_
    clear E
    rintro q w_ ⟨rfl, E⟩
    refine (ifinish_ok E).mono ?_
    clear E
    rintro q w_ ⟨rfl, E⟩
    refine (ierr_ok E).mono ?_
    clear E
    rintro q w_ ⟨rfl, E⟩
    generalize (i0 y).body = B at E ⊢
    obtain ⟨d, K⟩ := B
    simp only [] at E ⊢
    obtain ⟨r3, t3, n3, e3, E, -⟩ := E
    rw [List.nil_append, List.append_nil] at E
    have kb : K.fin.bad = K.bad := by first | rfl | (unfold Ip.fin; rfl)
    have ko : K.fin.ov = K.ov := by first | rfl | (unfold Ip.fin; rfl)
    rw [kb, ko] at E ⊢
    generalize K.fin.cut = kc at E ⊢
    generalize K.bad = kb at E ⊢
    generalize K.ov = ko at E ⊢
    cases kc with
    | true =>
      simp only [if_true]
      (repeat first | (with_reducible first | refine Stp.go ?_ | refine StpE.go E ?_ | (refine StpW.go E ?_; clear E; intro w_ E)) | ((with_reducible refine Bi.dec true ?_ ?_); focus exact rfl))
      exact ⟨rfl, E.tl.tl.tl.tl.tl⟩
    | false =>
      cases kb with
      | true =>
        simp only [Bool.false_eq_true, if_false, if_true]
        (repeat first | (with_reducible first | refine Stp.go ?_ | refine StpE.go E ?_ | (refine StpW.go E ?_; clear E; intro w_ E)) | ((with_reducible refine Bi.dec true ?_ ?_); focus exact rfl))
        exact ⟨rfl, E.tl.tl.tl.tl.tl⟩
      | false =>
        cases ko with
        | true =>
          simp only [Bool.false_eq_true, if_false, if_true]
          (repeat first | (with_reducible first | refine Stp.go ?_ | refine StpE.go E ?_ | (refine StpW.go E ?_; clear E; intro w_ E)) | ((with_reducible refine Bi.dec true ?_ ?_); focus exact rfl))
          exact ⟨rfl, E.tl.tl.tl.tl.tl⟩
        | false =>
          simp only [Bool.false_eq_true, if_false]
          (repeat first | (with_reducible first | refine Stp.go ?_ | refine StpE.go E ?_ | (refine StpW.go E ?_; clear E; intro w_ E)) | ((with_reducible refine Bi.dec false ?_ ?_); focus exact rfl))
          exact ⟨rfl, E.tl.tl.tl.tl.tl⟩
  · rw [List.drop_zero] at hp
    have hrd : rd 2 s = none := by
      cases h : rd 2 s with
      | none => rfl
      | some y => rw [h] at hp; cases hp
    unfold decDP
    rw [hrd]
    simp only []
    (repeat with_reducible refine Stp.go ?_)
    refine Bi.add (by omega) ?_
    (intro J10 hJ10)
    refine Bi.neq (fun _ => ?_) (fun h => absurd h he')
    (repeat with_reducible first | refine Stp.go ?_ | refine StpE.go E ?_ | (refine StpW.go E ?_; clear E; intro w_ E) | (apply hJ10; intro u_))
    exact ⟨rfl, E.tl.tl⟩
end Go.Proofs.YtmlccboapkkcfaaGreatDoor

/-
  The protocol: the Dirs of a text.
-/
namespace Go.Proofs.YtmlccboapkkcfaaGreatDoor
open Go Go.Sh
set_option maxRecDepth 100000
set_option linter.unusedVariables false
set_option linter.unusedSimpArgs false
variable {w0 w : World} {F : Nat → Prop} {l : List As}
def drW (done : List Di) (x : List Di × Int) : List Di × Int := if x.2 = 0 then (done ++ x.1, 0) else ([], x.2)
theorem u_sl_Dir : PP.underlying Ty.sl_api_Dir = some (.slice Ty.api_Dir) := by kernel_rfl
theorem e_Dir : el3 PP Ty.api_Dir = some (some (.agg z10.toArray), 10, 112) := by kernel_rfl
theorem n_Dir : sizeK PP Ty.api_Dir = some 10 := by kernel_rfl
theorem z_Dir : zeroK PP Ty.api_Dir = some (.agg z10.toArray) := by kernel_rfl
theorem dr_err {s : List UInt8} (h : (dr s).2 ≠ 0) : dr s = ([], (dr s).2) := by
  have hq := dr_eq s
  rw [hq] at h ⊢
  split at h
  · exact absurd rfl h
  rename_i h1
  rw [if_neg h1]
  simp only [] at h ⊢
  split at h
  · rename_i h2; rw [if_pos h2]
  rename_i h2
  rw [if_neg h2]
  split at h
  · exact absurd rfl h
  · rename_i h3; rw [if_neg h3]
theorem Dirs_ok {s : List UInt8} (hs : s.length ≤ 1000000000) (E : Hs w0 F w l) :
    Ca PP Fn.styx_Dirs #[sb s] w fun q w' => ∃ v X, q = .tuple #[v, i64 (dr s).2] ∧ RdS w0 F X 10 (dr s).1.length v (dqs (dr s).1) ∧ Hs w0 F w' (X ++ l) := by
  refine S.styx_Dirs.calls ?_
  unfold S.styx_Dirs
  refine ⟨fun l1 w1 => ∃ (t : List UInt8) (v : Value) (done : List Di), l1 = [sb t, v] ∧ dr s = drW done (dr t) ∧ done.length + t.length ≤ s.length ∧ Hs w0 F w1 (slA v Ty.api_Dir 10 (dqs done) :: l),
    fun l1 _ => match l1 with | [.string t, _] => t.size | _ => 0, ⟨s, nilV, [], rfl, ?_, by simp, E.nilSl Ty.api_Dir 10⟩, ?_⟩
  · unfold drW
    split
    · rename_i h; rw [← h]; rfl
    · rename_i h
      have := dr_err h
      rw [← this]
  clear E
  rintro t0 t5 u1 w1 ⟨t, v, done, e, hf, hl, E⟩
  cases e
  have hq := dr_eq t
  have ht : t.length ≤ 1000000000 := by omega
  refine Bi.sneq ?_ ?_ <;> intro c1 <;> (repeat with_reducible refine Stp.go ?_)
  · have hne : t ≠ [] := fun h => c1 (by rw [h])
    rw [if_neg hne] at hq
    refine (DecodeDir_ok (s := t) (by omega) E).mono ?_
    clear E
    rintro q w_ ⟨rfl, E⟩
    have hlen : (decD t).2.2 = 0 → 2 ≤ (decD t).2.1 ∧ (decD t).2.1 ≤ t.length := fun h => decD_len (d := (decD t).1) (n := (decD t).2.1) (by rw [← h])
    generalize decD t = x at hq hlen ⊢
    obtain ⟨d, n, e⟩ := x
    dsimp only at hq hlen ⊢
    (repeat with_reducible first | refine Stp.go ?_ | (refine StpW.go E ?_; clear E; intro w_ E) | (refine StpA.go E ?_; clear E; intro b_ w_ hb_ E))
    refine Bi.neq ?_ ?_ <;> intro c2 <;> (repeat with_reducible first | refine Stp.go ?_ | refine StpE.go E ?_ | (refine StpW.go E ?_; clear E; intro w_ E))
    · rw [if_pos c2] at hq
      rw [hf, hq]
      unfold drW
      simp only [c2, if_false]
      exact ⟨nilV, [], rfl, rds_nil, E.tl.tl⟩
    rw [if_neg (by omega)] at hq
    obtain ⟨k1, k2⟩ := hlen c2
    refine SlS.suf (by omega) (by rw [mkB_size]; omega) ?_
    rw [Int.toNat_natCast, mkB_ext, mkB_size, List.take_length]
    refine BdS.sl (sz := 10) (n := 1) (z := .agg z10.toArray) (xs := dcs d) E u_sl_Dir n_Dir z_Dir (by omega) (by omega) (by kernel_rfl) rfl ?_
    clear E
    intro v2 w_ E
    have hql : (dqs done).length / 10 = done.length := by rw [dqs_len]; omega
    refine Ap.el E (i := 2) (n := 1) (ys := dcs d) rfl u_sl_Dir ⟨_, u_sl_Dir, fun _ h => by cases h⟩ e_Dir (by omega) (Src.slice (show SliceAt v2 Ty.api_Dir 10 (dcs d) _ from E.sat _ List.mem_cons_self) rfl (by omega) rfl) rfl (by rw [hql]; omega) (by rw [hql]; omega) ?_
    clear E
    intro v3 w_ E
    (try simp only [List.set_cons_zero, List.set_cons_succ, List.cons_append, List.nil_append, Nat.zero_add, Nat.add_zero] at E)
    refine ⟨⟨t.drop n, v3, done ++ [d], rfl, ?_, ?_, ?_⟩, ?_⟩
    · rw [hf, hq]
      unfold drW
      split
      · rename_i h
        rw [if_pos rfl, List.append_assoc]; rfl
      · rfl
    · rw [List.length_append, List.length_drop]; simp only [List.length_cons, List.length_nil]; omega
    · have : dqs (done ++ [d]) = dqs done ++ dcs d := by simp [dqs]
      rw [this]
      exact E.tl.tl
    · simp only [mkB_size, List.length_drop]; omega
  · have hne : t = [] := mkB_inj c1
    rw [if_pos hne] at hq
    rw [hf, hq]
    unfold drW
    simp only [if_true, List.append_nil]
    refine ⟨t5, [slA t5 Ty.api_Dir 10 (dqs done)], rfl, ?_, E⟩
    have := RdS.sl (T := Ty.api_Dir) (v := t5) (sz := 10) (xs := dqs done) (l := [slA t5 Ty.api_Dir 10 (dqs done)]) List.mem_cons_self (by omega) (E.drop (.cons_cons _ (List.nil_sublist _)))
    rw [dqs_len, Nat.mul_div_cancel _ (by omega)] at this
    exact this
end Go.Proofs.YtmlccboapkkcfaaGreatDoor

/-
  The protocol's reference: EncodeDir, DecodeDir and Dirs.
-/
namespace Go.Proofs.YtmlccboapkkcfaaGreatDoor
open Go Go.Sh
set_option maxRecDepth 100000
set_option linter.unusedVariables false
set_option linter.unusedSimpArgs false
variable {w0 w : World} {F : Nat → Prop} {l : List As}
theorem rEncodeDir_ok {d : Di} (hd : DB d) (E : Hs w0 F w l) : Ca PP Fn.r31_EncodeDir #[.agg (dcs d).toArray] w fun r w' => r = .tuple #[sb (encD d).1, i64 (encD d).2] ∧ Hs w0 F w' l := by
  refine S.r31_EncodeDir.calls ?_
  unfold S.r31_EncodeDir
  (repeat with_reducible first | refine StpE.go E ?_ | (refine StpA.go E ?_; clear E; intro b_ w_ hb_ E))
  refine (rCheckDir_ok hd E).mono ?_
  clear E
  rintro r w_ ⟨rfl, E⟩
  unfold encD
  refine Bi.neq ?_ ?_ <;> intro c <;> (repeat with_reducible first | refine Stp.go ?_ | refine StpE.go E ?_)
  · rw [if_neg c]
    exact ⟨rfl, E.tl⟩
  · rw [if_pos c]
    refine (rdir_ok hd E).mono ?_
    clear E
    rintro r w_ ⟨rfl, E⟩
    exact ⟨rfl, E.tl⟩
theorem rDecodeDir_ok {s : List UInt8} (hs : s.length ≤ 1000000000000) (E : Hs w0 F w l) :
    Ca PP Fn.r31_DecodeDir #[sb s] w fun q w' => q = .tuple #[.agg (dcs (decD s).1).toArray, i64 ((decD s).2.1 : Nat), i64 (decD s).2.2] ∧ Hs w0 F w' l := by
  rw [← decRD_decD]
  refine S.r31_DecodeDir.calls ?_
  unfold S.r31_DecodeDir
  (repeat with_reducible first | refine Stp.go ?_ | (refine StpA.go E ?_; clear E; intro b_ w_ hb_ E))
  rw [mkB_size]
  refine Bi.lss ?_ ?_ <;> intro c1 <;> (repeat with_reducible first | refine Stp.go ?_ | refine StpE.go E ?_ | (refine StpW.go E ?_; clear E; intro w_ E))
  · refine ⟨?_, E.tl⟩
    unfold decRD
    rw [if_pos (by omega)]
    rfl
  have h2 : ¬ s.length < 2 := by omega
  have hq : decRD s = if 2 + un (s.take 2) > s.length then (d0, 0, 16) else if 2 + un (s.take 2) > 1024 then (d0, 0, 3) else if (rr0 (s.take (2 + un (s.take 2)))).dir.2.sh = true then (d0, 0, 2) else if rD (rr0 (s.take (2 + un (s.take 2)))).dir.1 then ((rr0 (s.take (2 + un (s.take 2)))).dir.1, 2 + un (s.take 2), 0) else (d0, 0, 11) := by
    unfold decRD
    rw [if_neg h2]
  rw [hq]
  clear hq
  refine SlS.pre (by omega) (by rw [mkB_size]; omega) ?_
  rw [mkB_take, show (2 : Int).toNat = 2 from rfl]
  refine (rvalue_ok (by rw [List.length_take]; omega) E).mono ?_
  clear E
  rintro q w_ ⟨rfl, E⟩
  have hlt := un_lt (s.take 2)
  rw [List.length_take, Nat.min_eq_left (by omega)] at hlt
  have hlt : un (s.take 2) < 65536 := hlt
  generalize un (s.take 2) = n at hlt ⊢
  refine Cv.i64 (by omega) ?_
  refine Bi.add (by omega) ?_
  (repeat with_reducible refine Stp.go ?_)
  rw [mkB_size]
  have e2 : (2 : Int) + (n : Nat) = ((2 + n : Nat) : Int) := by omega
  rw [e2]
  generalize 2 + n = k at hlt e2 ⊢
  refine Bi.gtr ?_ ?_ <;> intro c2 <;> (repeat with_reducible first | refine Stp.go ?_ | refine StpE.go E ?_ | (refine StpW.go E ?_; clear E; intro w_ E))
  · rw [if_pos (by omega)]
    exact ⟨rfl, E.tl⟩
  rw [if_neg (by omega)]
  refine Bi.gtr ?_ ?_ <;> intro c3 <;> (repeat with_reducible first | refine Stp.go ?_ | refine StpE.go E ?_ | (refine StpW.go E ?_; clear E; intro w_ E))
  · rw [if_pos (by omega)]
    exact ⟨rfl, E.tl⟩
  rw [if_neg (by omega)]
  refine SlS.pre (by omega) (by rw [mkB_size]; omega) ?_
  rw [mkB_take, Int.toNat_natCast]
  (repeat with_reducible refine StpE.go E ?_)
  refine (rreadDir_ok (R := rr0 (s.take k)) ⟨rr0_ok _, by show (s.take k).length ≤ _; rw [List.length_take]; omega⟩ E).mono ?_
  clear E
  rintro q w_ ⟨rfl, E⟩
  generalize (rr0 (s.take k)).dir = x at E ⊢
  obtain ⟨d, rs, ra, rh⟩ := x
  dsimp only at E ⊢
  (repeat with_reducible first | refine Stp.go ?_ | refine StpE.go E ?_ | (refine StpW.go E ?_; clear E; intro w_ E) | (refine StpA.go E ?_; clear E; intro b_ w_ hb_ E))
  cases rh with
  | true =>
    (repeat with_reducible first | refine Stp.go ?_ | refine StpE.go E ?_ | (refine StpW.go E ?_; clear E; intro w_ E))
    exact ⟨rfl, E.tl.tl.tl⟩
  | false =>
    (repeat with_reducible first | refine Stp.go ?_ | refine StpE.go E ?_)
    refine (rrightDir_ok (d := d) E).mono ?_
    clear E
    rintro r w_ ⟨rfl, E⟩
    cases hr : rD d with
    | false =>
      (repeat with_reducible first | refine Stp.go ?_ | refine StpE.go E ?_ | (refine StpW.go E ?_; clear E; intro w_ E))
      exact ⟨rfl, E.tl.tl.tl⟩
    | true =>
      (repeat with_reducible first | refine Stp.go ?_ | refine StpE.go E ?_ | (refine StpW.go E ?_; clear E; intro w_ E))
      exact ⟨rfl, E.tl.tl.tl⟩
theorem rDirs_ok {s : List UInt8} (hs : s.length ≤ 1000000000) (E : Hs w0 F w l) :
    Ca PP Fn.r31_Dirs #[sb s] w fun q w' => ∃ v X, q = .tuple #[v, i64 (dr s).2] ∧ RdS w0 F X 10 (dr s).1.length v (dqs (dr s).1) ∧ Hs w0 F w' (X ++ l) := by
  refine S.r31_Dirs.calls ?_
  unfold S.r31_Dirs
  refine BdS.nul (sz := 10) E u_sl_Dir (by kernel_rfl) ?_
  clear E
  intro v0 w_ E
  refine ⟨fun l1 w1 => ∃ (t : List UInt8) (v : Value) (done : List Di), l1 = [sb t, v] ∧ dr s = drW done (dr t) ∧ done.length + t.length ≤ s.length ∧ Hs w0 F w1 (slA v Ty.api_Dir 10 (dqs done) :: l),
    fun l1 _ => match l1 with | [.string t, _] => t.size | _ => 0, ⟨s, v0, [], rfl, ?_, by simp, E⟩, ?_⟩
  · unfold drW
    split
    · rename_i h; rw [← h]; rfl
    · rename_i h
      have := dr_err h
      rw [← this]
  clear E
  rintro t0 t5 u1 w1 ⟨t, v, done, e, hf, hl, E⟩
  cases e
  have hq := dr_eq t
  (repeat with_reducible refine Stp.go ?_)
  rw [mkB_size]
  refine Bi.gtr ?_ ?_ <;> intro c1 <;> (repeat with_reducible refine Stp.go ?_)
  · have hne : t ≠ [] := fun h => by rw [h] at c1; simp at c1
    rw [if_neg hne] at hq
    simp only [] at hq
    refine (rDecodeDir_ok (s := t) (by omega) E).mono ?_
    clear E
    rintro q w_ ⟨rfl, E⟩
    have hlen : (decD t).2.2 = 0 → 2 ≤ (decD t).2.1 ∧ (decD t).2.1 ≤ t.length := fun h => decD_len (d := (decD t).1) (n := (decD t).2.1) (by rw [← h])
    generalize decD t = x at hq hlen ⊢
    obtain ⟨d, n, e⟩ := x
    dsimp only at hq hlen ⊢
    (repeat with_reducible first | refine Stp.go ?_ | (refine StpW.go E ?_; clear E; intro w_ E) | (refine StpA.go E ?_; clear E; intro b_ w_ hb_ E))
    refine Bi.neq ?_ ?_ <;> intro c2 <;> (repeat with_reducible first | refine Stp.go ?_ | refine StpE.go E ?_)
    · rw [if_pos c2] at hq
      rw [hf, hq]
      unfold drW
      simp only [c2, if_false]
      exact ⟨nilV, [], rfl, rds_nil, E.tl.tl⟩
    rw [if_neg (by omega)] at hq
    obtain ⟨k1, k2⟩ := hlen c2
    refine BdS.sl (sz := 10) (n := 1) (z := .agg z10.toArray) (xs := dcs d) E u_sl_Dir n_Dir z_Dir (by omega) (by omega) (by kernel_rfl) rfl ?_
    clear E
    intro v2 w_ E
    have hql : (dqs done).length / 10 = done.length := by rw [dqs_len]; omega
    refine Ap.el E (i := 2) (n := 1) (ys := dcs d) rfl u_sl_Dir ⟨_, u_sl_Dir, fun _ h => by cases h⟩ e_Dir (by omega) (Src.slice (show SliceAt v2 Ty.api_Dir 10 (dcs d) _ from E.sat _ List.mem_cons_self) rfl (by omega) rfl) rfl (by rw [hql]; omega) (by rw [hql]; omega) ?_
    clear E
    intro v3 w_ E
    (try simp only [List.set_cons_zero, List.set_cons_succ, List.cons_append, List.nil_append, Nat.zero_add, Nat.add_zero] at E)
    refine SlS.suf (by omega) (by rw [mkB_size]; omega) ?_
    rw [Int.toNat_natCast, mkB_ext, mkB_size, List.take_length]
    refine ⟨⟨t.drop n, v3, done ++ [d], rfl, ?_, ?_, ?_⟩, ?_⟩
    · rw [hf, hq]
      unfold drW
      split
      · rename_i h
        rw [if_pos rfl, List.append_assoc]; rfl
      · rfl
    · rw [List.length_append, List.length_drop]; simp only [List.length_cons, List.length_nil]; omega
    · have : dqs (done ++ [d]) = dqs done ++ dcs d := by simp [dqs]
      rw [this]
      exact E.tl.tl
    · simp only [mkB_size, List.length_drop]; omega
  · have hne : t = [] := List.length_eq_zero_iff.1 (by omega)
    rw [if_pos hne] at hq
    rw [hf, hq]
    unfold drW
    simp only [if_true, List.append_nil]
    refine ⟨t5, [slA t5 Ty.api_Dir 10 (dqs done)], rfl, ?_, E⟩
    have := RdS.sl (T := Ty.api_Dir) (v := t5) (sz := 10) (xs := dqs done) (l := [slA t5 Ty.api_Dir 10 (dqs done)]) List.mem_cons_self (by omega) (E.drop (.cons_cons _ (List.nil_sublist _)))
    rw [dqs_len, Nat.mul_div_cancel _ (by omega)] at this
    exact this
end Go.Proofs.YtmlccboapkkcfaaGreatDoor

/-
  The protocol: CheckDir, EncodeDir, DecodeDir and Dirs return what the reference returns, and a valid Dir is read back from its encoding, whatever follows (the law StyxDirs).
-/
namespace Go.Proofs.YtmlccboapkkcfaaGreatDoor
open Go Go.Sh
set_option maxRecDepth 100000
set_option linter.unusedVariables false
set_option linter.unusedSimpArgs false
variable {w0 w : World} {F : Nat → Prop} {l : List As}
theorem perm3 {α : Type} {a b c : α} {X l : List α} : (X ++ a :: b :: c :: l).Perm (a :: b :: c :: (X ++ l)) :=
  List.perm_middle.trans ((List.perm_middle.trans (List.perm_middle.cons _)).cons _)
theorem Dirs_law (hW : Wds w0 F) {d : Di} {s : List UInt8} (hd : d.Ok) (hb : DB d) (E : Hs w0 F w l) :
    Ca PP Fn.law31_StyxDirs #[.agg (dcs d).toArray, sb s] w fun r w' => r = .bool true ∧ ∃ X, Hs w0 F w' (X ++ l) := by
  have hb0 := hb
  obtain ⟨b1, b2, b3, b4⟩ := hb
  have hz : d.name.length ≤ 9223372036854775807 ∧ d.owner.length ≤ 9223372036854775807 ∧ d.group.length ≤ 9223372036854775807 ∧ d.last.length ≤ 9223372036854775807 := by omega
  refine S.law31_StyxDirs.calls ?_
  unfold S.law31_StyxDirs
  (repeat with_reducible (refine StpA.go E ?_; clear E; intro b_ w_ hb_ E))
  refine (awake_ok hW E).mono ?_
  clear E
  rintro r w_ ⟨rfl, E⟩
  (repeat with_reducible refine Stp.go ?_)
  (intro J6 hJ6)
  have fin6 : droom d ≤ 3000 → s.length ≤ 3000 → ∀ w_, Hs w0 F w_ (pt b_ (oc (dcs d) Ty.api_Dir) :: l) → J6 [.bool false] w_ := by
    intro hr hs w_ E
    apply hJ6
    intro u_
    clear hJ6
    (repeat with_reducible first | refine Stp.go ?_ | refine StpE.go E ?_)
    refine (EncodeDir_ok hd hz E).mono ?_
    clear E
    rintro r w_ ⟨rfl, E⟩
    (repeat with_reducible first | refine Stp.go ?_ | refine StpE.go E ?_)
    refine (rEncodeDir_ok hb0 E).mono ?_
    clear E
    rintro r w_ ⟨rfl, E⟩
    (repeat with_reducible refine Stp.go ?_)
    (intro J20 hJ20)
    skip
    refine Bi.sneq (fun h => absurd rfl h) fun _ => ?_
    (repeat with_reducible refine Stp.go ?_)
    refine Bi.neq (fun h => absurd rfl h) fun _ => ?_
    (repeat with_reducible first | refine Stp.go ?_ | refine StpE.go E ?_)
    refine (CheckDir_ok hd hz E).mono ?_
    clear E
    rintro r w_ ⟨rfl, E⟩
    (repeat with_reducible refine Stp.go ?_)
    refine Bi.neq (fun h => absurd rfl h) fun _ => ?_
    (repeat with_reducible first | refine Stp.go ?_ | (apply hJ20; intro u_))
    refine (DecodeDir_ok (s := s) (by omega) E).mono ?_
    clear E
    rintro r w_ ⟨rfl, E⟩
    (repeat with_reducible first | refine Stp.go ?_ | (refine StpW.go E ?_; clear E; intro w_ E) | (refine StpA.go E ?_; clear E; intro b_ w_ hb_ E))
    refine (rDecodeDir_ok (s := s) (by omega) E).mono ?_
    clear E
    rintro r w_ ⟨rfl, E⟩
    (repeat with_reducible first | refine Stp.go ?_ | (refine StpW.go E ?_; clear E; intro w_ E) | (refine StpA.go E ?_; clear E; intro b_ w_ hb_ E))
    refine (Dirs_ok (s := s) (by omega) E).mono ?_
    clear E
    rintro r w_ ⟨v1, X, rfl, r1, E⟩
    have E := E.perm perm3
    (repeat with_reducible refine Stp.go ?_)
    refine (rDirs_ok (s := s) (by omega) E).mono ?_
    clear E
    rintro r w_ ⟨v2, Y, rfl, r2, E⟩
    have E := E.perm perm3
    have hXY : ∀ (a b c : As) w, Hs w0 F w (a :: b :: c :: (Y ++ (X ++ l))) → Hs w0 F w X := fun _ _ _ _ E => (E.tl.tl.tl.drop (List.sublist_append_right _ _)).drop (List.sublist_append_left _ _)
    have hY : ∀ (a b c : As) w, Hs w0 F w (a :: b :: c :: (Y ++ (X ++ l))) → Hs w0 F w Y := fun _ _ _ _ E => E.tl.tl.tl.drop (List.sublist_append_left _ _)
    have hX : ∀ (a b c : As) w, Hs w0 F w (a :: b :: c :: (Y ++ (X ++ l))) → Hs w0 F w ((Y ++ X) ++ l) := fun _ _ _ _ E => by rw [List.append_assoc]; exact E.tl.tl.tl
    have hdl : (dr s).1.length ≤ 1000000000 := by
      have key : ∀ (n : Nat) (s : List UInt8), s.length ≤ n → (dr s).1.length ≤ s.length := by
        intro n
        induction n with
        | zero =>
          intro s h
          have : s = [] := List.length_eq_zero_iff.1 (by omega)
          subst this
          rw [dr_eq]
          simp
        | succ n ih =>
          intro s h
          rw [dr_eq]
          split
          · simp
          · dsimp only
            split
            · simp
            · rename_i h0 h1
              have hx : decD s = ((decD s).1, (decD s).2.1, 0) := by
                have : (decD s).2.2 = 0 := by omega
                rw [← this]
              have hl := decD_len hx
              have hi := ih (s.drop (decD s).2.1) (by rw [List.length_drop]; omega)
              rw [List.length_drop] at hi
              split
              · simp only [List.length_cons]; omega
              · simp
      have := key s.length s (Nat.le_refl _)
      omega
    (repeat with_reducible refine Stp.go ?_)
    (intro J48 hJ48)
    (repeat with_reducible refine StpE.go E ?_)
    refine EqS.n (xs := dcs (decD s).1) (ys := dcs (decD s).1) lv_Dir st_Dir g_Dir rfl rfl ?_
    rw [ceq_dir, decide_eq_true rfl, Bool.not_true]
    (repeat with_reducible refine Stp.go ?_)
    refine Bi.neq (fun h => absurd rfl h) fun _ => ?_
    (repeat with_reducible refine Stp.go ?_)
    refine Bi.neq (fun h => absurd rfl h) fun _ => ?_
    (repeat with_reducible refine Stp.go ?_)
    refine Bi.neq (fun h => absurd rfl h) fun _ => ?_
    (repeat with_reducible refine Stp.go ?_)
    refine (eqDir_ok hdl E (r1.weaken (hXY _ _ _)) (r2.weaken (hY _ _ _))).mono ?_
    clear E
    rintro r w_ ⟨rfl, E⟩
    rw [decide_eq_true rfl]
    (repeat with_reducible first | refine Stp.go ?_ | refine StpE.go E ?_ | (apply hJ48; intro u_))
    refine (CheckDir_ok hd hz E).mono ?_
    clear E
    rintro r w_ ⟨rfl, E⟩
    have e2 := encD_two d
    skip
    refine Bi.neq ?_ ?_ <;> intro c <;> (repeat with_reducible refine Stp.go ?_)
    · exact ⟨rfl, _, hX _ _ _ _ E⟩
    have hc : chkD d = 0 := by rw [← e2]; exact c
    have e1 := encD_one hc
    rw [e1]
    have hl := eD_length d
    have hk := (chkD_le hc).2
    refine Bi.sadd (by rw [mkB_size, mkB_size]; omega) ?_
    rw [mkB_app]
    refine (DecodeDir_ok (s := eD d ++ s) (by rw [List.length_append]; omega) E).mono ?_
    clear E
    rintro r w_ ⟨rfl, E⟩
    rw [decD_eD hc hd]
    clear e1 hl
    generalize eD d = x at E ⊢
    (repeat with_reducible first | refine Stp.go ?_ | (refine StpW.go E ?_; clear E; intro w_ E) | (refine StpA.go E ?_; clear E; intro b_ w_ hb_ E))
    (intro J65 hJ65)
    (repeat first | (with_reducible first | refine Stp.go ?_) | ((with_reducible refine Bi.dec true ?_ ?_); focus exact rfl))
    refine Bi.eql (fun _ => ?_) (fun h => absurd (by rw [mkB_size]) h)
    (repeat with_reducible first | refine Stp.go ?_ | refine StpE.go E ?_)
    refine EqS.e (xs := dcs d) (ys := dcs d) lv_Dir st_Dir g_Dir rfl rfl ?_
    rw [ceq_dir, decide_eq_true rfl]
    (repeat with_reducible first | refine Stp.go ?_ | (apply hJ65; intro u_))
    exact ⟨rfl, _, hX _ _ _ _ E.tl⟩
  have finT : ∀ w_, Hs w0 F w_ (pt b_ (oc (dcs d) Ty.api_Dir) :: l) → J6 [.bool true] w_ := by
    intro w_ E
    (repeat with_reducible first | refine Stp.go ?_ | (apply hJ6; intro u_))
    exact ⟨rfl, [], E.tl⟩
  clear hJ6
  (repeat with_reducible refine StpE.go E ?_)
  refine (room_ok (d := d) ⟨b1, b2, b3, b4⟩ E).mono ?_
  clear E
  rintro r w_ ⟨rfl, E⟩
  refine Bi.gtr ?_ ?_ <;> intro c1 <;> (repeat with_reducible refine Stp.go ?_)
  · exact finT _ E
  rw [mkB_size]
  refine Bi.gtr ?_ ?_ <;> intro c2 <;> (repeat with_reducible refine Stp.go ?_)
  · exact finT _ E
  · exact fin6 (by omega) (by omega) _ E
end Go.Proofs.YtmlccboapkkcfaaGreatDoor

/-
  The protocol: a message that is handed in.
-/
namespace Go.Sh
open Go Go.ChangeShapes Go.WideShapes
section
variable {P : Program} {H : Type} {enc : TypeId × Value → H} {W : World}
/-- A struct's parts: type, offset, cells. -/
def ftab (P : Program) (t : TypeId) : List (TypeId × Nat × Nat) := match P.underlying t with
  | some (.struct fs) => fs.toList.map fun f => (f.type, f.offset, P.cellsOf f.type)
  | _ => []
theorem ftab_struct {t : TypeId} {L : List (TypeId × Nat × Nat)} (hL : ftab P t = L) (hne : L ≠ []) : ∃ fs, P.underlying t = some (.struct fs) ∧ L = fs.toList.map fun f => (f.type, f.offset, P.cellsOf f.type) := by
  unfold ftab at hL
  split at hL
  · rename_i fs h; exact ⟨fs, h, hL.symm⟩
  · exact absurd hL.symm hne
theorem struct_parts {t : TypeId} {L : List (TypeId × Nat × Nat)} (hL : ftab P t = L) (hne : L ≠ []) {fuel : Nat} {cs : List Value} {x : DataW H × List MemPlace} (h : DataW.trod enc P W 0 (fun _ => true) true fuel t cs = some x) :
    ∃ xs : List (DataW H × List MemPlace), ∃ n, x.1 = .agg (xs.map (·.1)) ∧ cs.length = P.cellsOf t ∧ xs.length = L.length ∧ ∀ (i : Nat) T o m, L[i]? = some (T, o, m) → DataW.trod enc P W 0 (fun _ => true) true n T ((cs.drop o).take m) = xs[i]? := by
  obtain ⟨fs, hu, rfl⟩ := ftab_struct hL hne
  obtain ⟨xs, n, -, rfl, hlen, hxs, hf⟩ := DataW.trod_struct hu h
  refine ⟨xs, n, rfl, hlen, by simpa using hxs, fun i T o m hi => ?_⟩
  rw [List.getElem?_map] at hi
  obtain ⟨f, hf1, hf2⟩ := Option.map_eq_some_iff.1 hi
  cases hf2
  exact hf i f (by simpa using hf1)
theorem weightsEach_mem : ∀ {ts : List TypeId} {ds : List (DataW H)} {i : Nat} {T : TypeId} {d : DataW H} {n : Nat}, ts[i]? = some T → ds[i]? = some d → n ∈ d.weights P T → n ∈ DataW.weightsEach P ts ds
  | [], _, i, _, _, _, h, _, _ => by simp at h
  | _ :: _, [], i, _, _, _, _, h, _ => by simp at h
  | t :: ts, d :: ds, 0, T, d', n, h1, h2, h3 => by
    cases h1; cases h2
    unfold DataW.weightsEach
    exact List.mem_append_left _ h3
  | t :: ts, d :: ds, i + 1, T, d', n, h1, h2, h3 => by
    unfold DataW.weightsEach
    exact List.mem_append_right _ (weightsEach_mem (i := i) (by simpa using h1) (by simpa using h2) h3)
theorem weights_struct {t : TypeId} {L : List (TypeId × Nat × Nat)} (hL : ftab P t = L) (hne : L ≠ []) {ds : List (DataW H)} {i : Nat} {T : TypeId} {o m : Nat} {d : DataW H} {n : Nat} (hi : L[i]? = some (T, o, m)) (hd : ds[i]? = some d) (hn : n ∈ d.weights P T) :
    n ∈ (DataW.agg ds).weights P t := by
  obtain ⟨fs, hu, rfl⟩ := ftab_struct hL hne
  unfold DataW.weights
  rw [hu]
  refine weightsEach_mem (i := i) (T := T) (d := d) ?_ hd hn
  rw [List.getElem?_map] at hi ⊢
  obtain ⟨f, hf1, hf2⟩ := Option.map_eq_some_iff.1 hi
  cases hf2
  rw [hf1]; rfl
theorem weight_str {T : TypeId} {s : ByteArray} {x : DataW H × List MemPlace} (h : x = (.lit (.string s.data.toList), [])) : s.data.toList.length ∈ x.1.weights P T := by
  subst h
  unfold DataW.weights
  exact List.mem_singleton.2 rfl
end
end Go.Sh

/-
  The protocol: parts of messages that are handed in, opened.
-/
namespace Go.Proofs.YtmlccboapkkcfaaGreatDoor
open Go Go.Sh
set_option maxRecDepth 100000
set_option linter.unusedVariables false
set_option linter.unusedSimpArgs false
variable {H : Type} {enc : TypeId × Value → H} {W : World}
abbrev mtab : List (TypeId × Nat × Nat) := [(Ty.int, 0, 1), (Ty.int, 1, 1), (Ty.int, 2, 1), (Ty.int, 3, 1), (Ty.int, 4, 1), (Ty.int, 5, 1), (Ty.int64, 6, 1), (Ty.int, 7, 1), (Ty.int, 8, 1), (Ty.string, 9, 1), (Ty.string, 10, 1), (Ty.string, 11, 1), (Ty.string, 12, 1), (Ty.sl_string, 13, 1), (Ty.sl_api_Qid, 14, 1), (Ty.string, 15, 1), (Ty.api_Dir, 16, 10), (Ty.api_Errno, 26, 1)]
abbrev dtab : List (TypeId × Nat × Nat) := [(Ty.api_Qid, 0, 3), (Ty.int, 3, 1), (Ty.int64, 4, 1), (Ty.int64, 5, 1), (Ty.string, 6, 1), (Ty.string, 7, 1), (Ty.string, 8, 1), (Ty.string, 9, 1)]
theorem dtab_is : ftab PP Ty.api_Dir = dtab := by kernel_rfl
theorem c_Dir : PP.cellsOf Ty.api_Dir = 10 := by kernel_rfl
theorem uu_int : PP.underlying Ty.int = some (.int .i64) := by kernel_rfl
theorem uu_int64 : PP.underlying Ty.int64 = some (.int .i64) := by kernel_rfl
theorem uu_str : PP.underlying Ty.string = some .string := by kernel_rfl
theorem lvC_Qid : lvC PP 20 Ty.api_Qid = true := by kernel_rfl
theorem wf_rng {n : Int} (h : (Lit.int .i64 n).wf = true) : rngI n := by
  unfold Lit.wf at h
  rw [Bool.and_eq_true, decide_eq_true_eq, decide_eq_true_eq] at h
  exact h
theorem qid_of {r : List Value} (h : fitWL lkQid r) : ∃ q : Qi, r = qcs q ∧ q.Ok := by
  obtain ⟨x0, r, rfl, h0, h⟩ := fitWL_cons h
  obtain ⟨x1, r, rfl, h1, h⟩ := fitWL_cons h
  obtain ⟨x2, r, rfl, h2, h⟩ := fitWL_cons h
  obtain rfl := fitWL_nil h
  obtain ⟨a, rfl, -⟩ := LK.int_of h0
  obtain ⟨b, rfl, -⟩ := LK.int_of h1
  obtain ⟨c, rfl, g2⟩ := LK.int_of h2
  exact ⟨⟨a, b, c⟩, rfl, wf_rng g2⟩
theorem sv (s : BA) : Value.string s = sb (bl s) := str_sb s
theorem open_dir {fuel : Nat} {cs : List Value} {x : DataW H × List MemPlace} (h : DataW.trod enc PP W 0 (fun _ => true) true fuel Ty.api_Dir cs = some x) :
    ∃ d : Di, cs = dcs d ∧ d.Ok ∧ ∀ s, s = d.name ∨ s = d.owner ∨ s = d.group ∨ s = d.last → s.length ∈ x.1.weights PP Ty.api_Dir := by
  obtain ⟨xs, n, hx, hlen, hxs, hf⟩ := struct_parts dtab_is (by decide) h
  rw [c_Dir] at hlen
  obtain ⟨c0, c1, c2, c3, c4, c5, c6, c7, c8, c9, rfl⟩ : ∃ c0 c1 c2 c3 c4 c5 c6 c7 c8 c9, cs = [c0, c1, c2, c3, c4, c5, c6, c7, c8, c9] := by
    match cs, hlen with
    | [c0, c1, c2, c3, c4, c5, c6, c7, c8, c9], _ => exact ⟨c0, c1, c2, c3, c4, c5, c6, c7, c8, c9, rfl⟩
  obtain ⟨x0, x1, x2, x3, x4, x5, x6, x7, rfl⟩ : ∃ x0 x1 x2 x3 x4 x5 x6 x7, xs = [x0, x1, x2, x3, x4, x5, x6, x7] := by
    match xs, hxs with
    | [x0, x1, x2, x3, x4, x5, x6, x7], _ => exact ⟨x0, x1, x2, x3, x4, x5, x6, x7, rfl⟩
  have h0 : DataW.trod enc PP W 0 (fun _ => true) true n Ty.api_Qid [c0, c1, c2] = some x0 := hf 0 _ _ _ rfl
  obtain ⟨q, eq, hq⟩ := qid_of (trod_lv 20 lv_Qid lvC_Qid _ _ _ h0)
  cases eq
  have h1 : DataW.trod enc PP W 0 (fun _ => true) true n Ty.int [c3] = some x1 := hf 1 _ _ _ rfl
  obtain ⟨n1, e1, -, w1⟩ := DataW.trod_int uu_int h1
  cases e1
  have h2 : DataW.trod enc PP W 0 (fun _ => true) true n Ty.int64 [c4] = some x2 := hf 2 _ _ _ rfl
  obtain ⟨n2, e2, -, w2⟩ := DataW.trod_int uu_int64 h2
  cases e2
  have h3 : DataW.trod enc PP W 0 (fun _ => true) true n Ty.int64 [c5] = some x3 := hf 3 _ _ _ rfl
  obtain ⟨n3, e3, -, w3⟩ := DataW.trod_int uu_int64 h3
  cases e3
  have h4 : DataW.trod enc PP W 0 (fun _ => true) true n Ty.string [c6] = some x4 := hf 4 _ _ _ rfl
  obtain ⟨s4, e4, y4, -⟩ := DataW.trod_string uu_str h4
  cases e4
  have h5 : DataW.trod enc PP W 0 (fun _ => true) true n Ty.string [c7] = some x5 := hf 5 _ _ _ rfl
  obtain ⟨s5, e5, y5, -⟩ := DataW.trod_string uu_str h5
  cases e5
  have h6 : DataW.trod enc PP W 0 (fun _ => true) true n Ty.string [c8] = some x6 := hf 6 _ _ _ rfl
  obtain ⟨s6, e6, y6, -⟩ := DataW.trod_string uu_str h6
  cases e6
  have h7 : DataW.trod enc PP W 0 (fun _ => true) true n Ty.string [c9] = some x7 := hf 7 _ _ _ rfl
  obtain ⟨s7, e7, y7, -⟩ := DataW.trod_string uu_str h7
  cases e7
  refine ⟨⟨q, n1, n2, n3, bl s4, bl s5, bl s6, bl s7⟩, ?_, ⟨hq, wf_rng w2, wf_rng w3⟩, ?_⟩
  · rw [sv s4, sv s5, sv s6, sv s7]
  · rw [hx]
    rintro s (rfl | rfl | rfl | rfl)
    · exact weights_struct dtab_is (by decide) (i := 4) rfl rfl (weight_str y4)
    · exact weights_struct dtab_is (by decide) (i := 5) rfl rfl (weight_str y5)
    · exact weights_struct dtab_is (by decide) (i := 6) rfl rfl (weight_str y6)
    · exact weights_struct dtab_is (by decide) (i := 7) rfl rfl (weight_str y7)
end Go.Proofs.YtmlccboapkkcfaaGreatDoor
