/-
  The protocol: the reader of fields visits a message.
-/
import Derived.Test.YtmlccboapkkcfaaDoorSx20
namespace Go.Proofs.YtmlccboapkkcfaaDoor
open Go Go.Sh
set_option maxRecDepth 100000
set_option linter.unusedVariables false
set_option linter.unusedSimpArgs false
variable {w0 w : World} {F : Nat → Prop} {l : List As}
variable {i mb : Nat} {I : Ip} {m : Ms} {nv qv : Value}
theorem ifl0 (m : Ms) (I : Ip) : Ip.flds [] m I = (m, I) := rfl
theorem ifl1 (m : Ms) (I : Ip) (a : Fl) : Ip.flds [a] m I = Ip.fld m I a := rfl
theorem ifl2 (m : Ms) (I : Ip) (a b : Fl) : Ip.flds [a, b] m I = Ip.fld (Ip.fld m I a).1 (Ip.fld m I a).2 b := rfl
theorem ifl3 (m : Ms) (I : Ip) (a b c : Fl) : Ip.flds [a, b, c] m I = Ip.fld (Ip.fld (Ip.fld m I a).1 (Ip.fld m I a).2 b).1 (Ip.fld (Ip.fld m I a).1 (Ip.fld m I a).2 b).2 c := rfl
theorem ifl4 (m : Ms) (I : Ip) (a b c d : Fl) : Ip.flds [a, b, c, d] m I = Ip.fld (Ip.fld (Ip.fld (Ip.fld m I a).1 (Ip.fld m I a).2 b).1 (Ip.fld (Ip.fld m I a).1 (Ip.fld m I a).2 b).2 c).1 (Ip.fld (Ip.fld (Ip.fld m I a).1 (Ip.fld m I a).2 b).1 (Ip.fld (Ip.fld m I a).1 (Ip.fld m I a).2 b).2 c).2 d := rfl
/-- What a visit leaves. -/
def IPo (w0 : World) (F : Nat → Prop) (i mb : Nat) (l : List As) (x : Ms × Ip) (w : World) : Prop :=
  ∃ nv qv X, RdS w0 F X 1 x.1.names.length nv (x.1.names.map sb) ∧ RdS w0 F X 3 x.1.qids.length qv (qqs x.1.qids) ∧ IT w0 F i x.2 (mA mb x.1 nv qv :: (X ++ l)) w
theorem rds_nil {sz : Nat} : RdS w0 F l sz 0 nilV [] := ⟨none, 0, rfl, Nat.le_refl _, by simp, .inl rfl⟩
theorem ipo_nil {x : Ms × Ip} (h1 : x.1.names = []) (h2 : x.1.qids = []) (E : IT w0 F i x.2 (mA mb x.1 nilV nilV :: l) w) : IPo w0 F i mb l x w := by
  refine ⟨nilV, nilV, [], ?_, ?_, E⟩
  · rw [h1]; exact rds_nil
  · rw [h2]; exact rds_nil
theorem ipo_n {x : Ms × Ip} {v : Value} (h2 : x.1.qids = []) (E : IT w0 F i x.2 (mA mb x.1 v nilV :: slA v Ty.string 1 (x.1.names.map sb) :: l) w) : IPo w0 F i mb l x w := by
  refine ⟨v, nilV, [slA v Ty.string 1 (x.1.names.map sb)], ?_, ?_, E⟩
  · have := RdS.sl (T := Ty.string) (v := v) (sz := 1) (xs := x.1.names.map sb) (l := [slA v Ty.string 1 (x.1.names.map sb)]) List.mem_cons_self (by omega) (E.rest.tl.drop (.cons_cons _ (List.nil_sublist _)))
    rwa [List.length_map, Nat.div_one] at this
  · rw [h2]; exact rds_nil
theorem ipo_Q {x : Ms × Ip} {v : Value} (h1 : x.1.names = []) (E : IT w0 F i x.2 (mA mb x.1 nilV v :: slA v Ty.api_Qid 3 (qqs x.1.qids) :: l) w) : IPo w0 F i mb l x w := by
  refine ⟨nilV, v, [slA v Ty.api_Qid 3 (qqs x.1.qids)], ?_, ?_, E⟩
  · rw [h1]; exact rds_nil
  · have := RdS.sl (T := Ty.api_Qid) (v := v) (sz := 3) (xs := qqs x.1.qids) (l := [slA v Ty.api_Qid 3 (qqs x.1.qids)]) List.mem_cons_self (by omega) (E.rest.tl.drop (.cons_cons _ (List.nil_sublist _)))
    rwa [qqs_len, Nat.mul_div_cancel _ (by omega)] at this
theorem ipo_q {x : Ms × Ip} {qb : Nat} {q : Qi} (h1 : x.1.names = []) (h2 : x.1.qids = [q]) (E : IT w0 F i x.2 (mA mb x.1 nilV (oneV qb) :: pt qb (oc (qcs q) Ty.api_Qid) :: l) w) : IPo w0 F i mb l x w := by
  refine ⟨nilV, oneV qb, [pt qb (oc (qcs q) Ty.api_Qid)], ?_, ?_, E⟩
  · rw [h1]; exact rds_nil
  · rw [h2]
    exact ⟨_, 1, rfl, Nat.le_refl _, rfl, .inr ⟨_, rfl, RdP.pt (off := 0) (cs := qcs q) (T := Ty.api_Qid) List.mem_cons_self⟩⟩
theorem il_S (E : IT w0 F i I (mA mb m nv qv :: l) w) : Ca PP Fn.styx_input_num #[ptr i, .pointer (some ⟨mb, 5, none⟩), i64 4] w fun q w' => q = .tuple #[] ∧ IT w0 F i (Ip.fld m I .xS).2 (mA mb (Ip.fld m I .xS).1 nv qv :: l) w' :=
  (inum_ok (k := 4) (by omega) (by simp) E).mono fun r w' h => h
theorem il_f (E : IT w0 F i I (mA mb m nv qv :: l) w) : Ca PP Fn.styx_input_num #[ptr i, .pointer (some ⟨mb, 2, none⟩), i64 4] w fun q w' => q = .tuple #[] ∧ IT w0 F i (Ip.fld m I .xf).2 (mA mb (Ip.fld m I .xf).1 nv qv :: l) w' :=
  (inum_ok (k := 4) (by omega) (by simp) E).mono fun r w' h => h
theorem il_o (E : IT w0 F i I (mA mb m nv qv :: l) w) : Ca PP Fn.styx_input_num #[ptr i, .pointer (some ⟨mb, 3, none⟩), i64 4] w fun q w' => q = .tuple #[] ∧ IT w0 F i (Ip.fld m I .xo).2 (mA mb (Ip.fld m I .xo).1 nv qv :: l) w' :=
  (inum_ok (k := 4) (by omega) (by simp) E).mono fun r w' h => h
theorem il_d (E : IT w0 F i I (mA mb m nv qv :: l) w) : Ca PP Fn.styx_input_num #[ptr i, .pointer (some ⟨mb, 4, none⟩), i64 2] w fun q w' => q = .tuple #[] ∧ IT w0 F i (Ip.fld m I .xd).2 (mA mb (Ip.fld m I .xd).1 nv qv :: l) w' :=
  (inum_ok (k := 2) (by omega) (by simp) E).mono fun r w' h => h
theorem il_m (E : IT w0 F i I (mA mb m nv qv :: l) w) : Ca PP Fn.styx_input_num #[ptr i, .pointer (some ⟨mb, 7, none⟩), i64 1] w fun q w' => q = .tuple #[] ∧ IT w0 F i (Ip.fld m I .xm).2 (mA mb (Ip.fld m I .xm).1 nv qv :: l) w' :=
  (inum_ok (k := 1) (by omega) (by simp) E).mono fun r w' h => h
theorem il_p (E : IT w0 F i I (mA mb m nv qv :: l) w) : Ca PP Fn.styx_input_num #[ptr i, .pointer (some ⟨mb, 8, none⟩), i64 4] w fun q w' => q = .tuple #[] ∧ IT w0 F i (Ip.fld m I .xp).2 (mA mb (Ip.fld m I .xp).1 nv qv :: l) w' :=
  (inum_ok (k := 4) (by omega) (by simp) E).mono fun r w' h => h
theorem il_v (E : IT w0 F i I (mA mb m nv qv :: l) w) : Ca PP Fn.styx_input_text #[ptr i, .pointer (some ⟨mb, 9, none⟩)] w fun q w' => q = .tuple #[] ∧ IT w0 F i (Ip.fld m I .xv).2 (mA mb (Ip.fld m I .xv).1 nv qv :: l) w' :=
  (itext_ok (by simp) E).mono fun r w' h => h
theorem il_u (E : IT w0 F i I (mA mb m nv qv :: l) w) : Ca PP Fn.styx_input_text #[ptr i, .pointer (some ⟨mb, 10, none⟩)] w fun q w' => q = .tuple #[] ∧ IT w0 F i (Ip.fld m I .xu).2 (mA mb (Ip.fld m I .xu).1 nv qv :: l) w' :=
  (itext_ok (by simp) E).mono fun r w' h => h
theorem il_t (E : IT w0 F i I (mA mb m nv qv :: l) w) : Ca PP Fn.styx_input_text #[ptr i, .pointer (some ⟨mb, 11, none⟩)] w fun q w' => q = .tuple #[] ∧ IT w0 F i (Ip.fld m I .xt).2 (mA mb (Ip.fld m I .xt).1 nv qv :: l) w' :=
  (itext_ok (by simp) E).mono fun r w' h => h
theorem il_N (E : IT w0 F i I (mA mb m nv qv :: l) w) : Ca PP Fn.styx_input_text #[ptr i, .pointer (some ⟨mb, 12, none⟩)] w fun q w' => q = .tuple #[] ∧ IT w0 F i (Ip.fld m I .xN).2 (mA mb (Ip.fld m I .xN).1 nv qv :: l) w' :=
  (itext_ok (by simp) E).mono fun r w' h => h
theorem il_D (E : IT w0 F i I (mA mb m nv qv :: l) w) : Ca PP Fn.styx_input_data #[ptr i, .pointer (some ⟨mb, 15, none⟩)] w fun q w' => q = .tuple #[] ∧ IT w0 F i (Ip.fld m I .xD).2 (mA mb (Ip.fld m I .xD).1 nv qv :: l) w' :=
  (idata_ok (by simp) E).mono fun r w' h => h
theorem il_O (E : IT w0 F i I (mA mb m nv qv :: l) w) : Ca PP Fn.styx_input_long #[ptr i, .pointer (some ⟨mb, 6, none⟩)] w fun q w' => q = .tuple #[] ∧ IT w0 F i (Ip.fld m I .xO).2 (mA mb (Ip.fld m I .xO).1 nv qv :: l) w' :=
  (ilong_ok (by simp) E).mono fun r w' h => h
theorem il_n (E : IT w0 F i I (mA mb m nilV nilV :: l) w) : Ca PP Fn.styx_input_names #[ptr i, .pointer (some ⟨mb, 13, none⟩)] w fun q w' => q = .tuple #[] ∧ ∃ v, IT w0 F i (Ip.fld m I .xn).2 (mA mb (Ip.fld m I .xn).1 v nilV :: slA v Ty.string 1 ((Ip.fld m I .xn).1.names.map sb) :: l) w' :=
  (inames_ok (by simp) rfl E).mono fun r w' h => h
theorem il_Q (E : IT w0 F i I (mA mb m nilV nilV :: l) w) : Ca PP Fn.styx_input_qids #[ptr i, .pointer (some ⟨mb, 14, none⟩)] w fun q w' => q = .tuple #[] ∧ ∃ v, IT w0 F i (Ip.fld m I .xQ).2 (mA mb (Ip.fld m I .xQ).1 nilV v :: slA v Ty.api_Qid 3 (qqs (Ip.fld m I .xQ).1.qids) :: l) w' :=
  (iqids_ok (by simp) rfl E).mono fun r w' h => h
theorem il_i (E : IT w0 F i I (mA mb m nv qv :: l) w) : Ca PP Fn.styx_input_dir #[ptr i, .pointer (some ⟨mb, 16, none⟩)] w fun q w' => q = .tuple #[] ∧ IT w0 F i (Ip.fld m I .xi).2 (mA mb (Ip.fld m I .xi).1 nv qv :: l) w' :=
  (idir_ok (pre := (MC m nv qv).take 16) (post := [i64 m.code]) rfl E).mono fun r w' h => h
theorem il_q (hm : m.qids = []) (E : IT w0 F i I (mA mb m nv nilV :: l) w) :
    Ca PP Fn.styx_one #[.iface Ty.p_styx_input (ptr i), ptr mb] w fun q w' => q = .tuple #[] ∧ ∃ qb, IT w0 F i (Ip.fld m I .xq).2 (mA mb (Ip.fld m I .xq).1 nv (oneV qb) :: pt qb (oc (qcs I.qid.1) Ty.api_Qid) :: l) w' := by
  refine S.styx_one.calls ?_
  unfold S.styx_one
  obtain ⟨r, t, n, e, E, h⟩ := E
  (intro J1 hJ1)
  have fin1 : ∀ qb w_, Hs w0 F w_ (pt i (oc [ptr r, .bool I.bad, .bool I.ov, .bool I.cut] Ty.styx_input) :: rA r t n e :: pt qb (oc [i64 0, i64 0, i64 0] Ty.api_Qid) :: mA mb m nv (oneV qb) :: l) → J1 [] w_ := by
    intro qb w_ E
    (repeat with_reducible first | refine Stp.go ?_ | refine StpE.go E ?_ | (apply hJ1; intro u_))
    refine ⟨_, 1, 1, .i64, 0, rfl, rfl, by omega, by decide, ?_⟩
    show Ca PP Fn.styx_qid #[.iface Ty.p_styx_input (ptr i), ptr qb] w_ _
    refine (iqid_ok (pre := []) (post := []) rfl rfl ⟨r, t, n, e, E, h⟩).mono ?_
    clear E h
    rintro q w_ ⟨rfl, E⟩
    exact ⟨rfl, qb, E.sw⟩
  clear hJ1
  (repeat first | (with_reducible first | refine Stp.go ?_ | refine StpE.go E ?_ | refine LnL.nil ?_) | ((with_reducible refine Bi.dec true ?_ ?_); focus exact rfl))
  refine MkQ E ?_
  clear E
  intro qb w_ hqb E
  (repeat with_reducible first | refine Stp.go ?_ | (refine StpW.go E ?_; clear E; intro w_ E))
  (replace E := (((E.bIx 0).bIx 2).bIx 2))
  exact fin1 qb _ E
theorem ik_100 (hk : m.kind = 100) (hn : m.names = []) (hq : m.qids = []) (E : IT w0 F i I (mA mb m nilV nilV :: l) w) :
    Ca PP Fn.styx_fields #[.iface Ty.p_styx_input (ptr i), ptr mb] w fun q w' => q = .tuple #[] ∧ IPo w0 F i mb l (Ip.flds [.xS, .xv] m I) w' := by
  refine S.styx_fields.calls ?_
  unfold S.styx_fields
  obtain ⟨r, t, n, e, E, h⟩ := E
  (repeat with_reducible first | refine Stp.go ?_ | refine StpE.go E ?_)
  rw [hk, ifl2]
  (repeat first | (with_reducible first | refine Stp.go ?_ | (refine StpW.go E ?_; clear E; intro w_ E) | (apply hJ_; intro u_)) | ((with_reducible refine Bi.dec true ?_ ?_); focus exact rfl) | (intro J_ hJ_))
  refine (il_S ⟨r, t, n, e, E, h⟩).mono ?_
  clear E h
  rintro q w_ ⟨rfl, r, t, n, e, E, h⟩
  (repeat with_reducible first | refine Stp.go ?_ | (refine StpW.go E ?_; clear E; intro w_ E))
  refine (il_v ⟨r, t, n, e, E, h⟩).mono ?_
  clear E h
  rintro q w_ ⟨rfl, r, t, n, e, E, h⟩
  skip
  exact ⟨rfl, ipo_nil hn hq ⟨r, t, n, e, E, h⟩⟩
theorem ik_101 (hk : m.kind = 101) (hn : m.names = []) (hq : m.qids = []) (E : IT w0 F i I (mA mb m nilV nilV :: l) w) :
    Ca PP Fn.styx_fields #[.iface Ty.p_styx_input (ptr i), ptr mb] w fun q w' => q = .tuple #[] ∧ IPo w0 F i mb l (Ip.flds [.xS, .xv] m I) w' := by
  refine S.styx_fields.calls ?_
  unfold S.styx_fields
  obtain ⟨r, t, n, e, E, h⟩ := E
  (repeat with_reducible first | refine Stp.go ?_ | refine StpE.go E ?_)
  rw [hk, ifl2]
  (repeat first | (with_reducible first | refine Stp.go ?_ | (refine StpW.go E ?_; clear E; intro w_ E) | (apply hJ_; intro u_)) | ((with_reducible refine Bi.dec true ?_ ?_); focus exact rfl) | ((with_reducible refine Bi.dec false ?_ ?_); focus exact rfl) | (intro J_ hJ_))
  refine (il_S ⟨r, t, n, e, E, h⟩).mono ?_
  clear E h
  rintro q w_ ⟨rfl, r, t, n, e, E, h⟩
  (repeat with_reducible first | refine Stp.go ?_ | (refine StpW.go E ?_; clear E; intro w_ E))
  refine (il_v ⟨r, t, n, e, E, h⟩).mono ?_
  clear E h
  rintro q w_ ⟨rfl, r, t, n, e, E, h⟩
  skip
  exact ⟨rfl, ipo_nil hn hq ⟨r, t, n, e, E, h⟩⟩
theorem ik_102 (hk : m.kind = 102) (hn : m.names = []) (hq : m.qids = []) (E : IT w0 F i I (mA mb m nilV nilV :: l) w) :
    Ca PP Fn.styx_fields #[.iface Ty.p_styx_input (ptr i), ptr mb] w fun q w' => q = .tuple #[] ∧ IPo w0 F i mb l (Ip.flds [.xf, .xu, .xt] m I) w' := by
  refine S.styx_fields.calls ?_
  unfold S.styx_fields
  obtain ⟨r, t, n, e, E, h⟩ := E
  (repeat with_reducible first | refine Stp.go ?_ | refine StpE.go E ?_)
  rw [hk, ifl3]
  (repeat first | (with_reducible first | refine Stp.go ?_ | (refine StpW.go E ?_; clear E; intro w_ E) | (apply hJ_; intro u_)) | ((with_reducible refine Bi.dec true ?_ ?_); focus exact rfl) | ((with_reducible refine Bi.dec false ?_ ?_); focus exact rfl) | (intro J_ hJ_))
  refine (il_f ⟨r, t, n, e, E, h⟩).mono ?_
  clear E h
  rintro q w_ ⟨rfl, r, t, n, e, E, h⟩
  (repeat with_reducible first | refine Stp.go ?_ | (refine StpW.go E ?_; clear E; intro w_ E))
  refine (il_u ⟨r, t, n, e, E, h⟩).mono ?_
  clear E h
  rintro q w_ ⟨rfl, r, t, n, e, E, h⟩
  (repeat with_reducible first | refine Stp.go ?_ | (refine StpW.go E ?_; clear E; intro w_ E))
  refine (il_t ⟨r, t, n, e, E, h⟩).mono ?_
  clear E h
  rintro q w_ ⟨rfl, r, t, n, e, E, h⟩
  skip
  exact ⟨rfl, ipo_nil hn hq ⟨r, t, n, e, E, h⟩⟩
theorem ik_103 (hk : m.kind = 103) (hn : m.names = []) (hq : m.qids = []) (E : IT w0 F i I (mA mb m nilV nilV :: l) w) :
    Ca PP Fn.styx_fields #[.iface Ty.p_styx_input (ptr i), ptr mb] w fun q w' => q = .tuple #[] ∧ IPo w0 F i mb l (Ip.flds [.xq] m I) w' := by
  refine S.styx_fields.calls ?_
  unfold S.styx_fields
  obtain ⟨r, t, n, e, E, h⟩ := E
  (repeat with_reducible first | refine Stp.go ?_ | refine StpE.go E ?_)
  rw [hk, ifl1]
  (repeat first | (with_reducible first | refine Stp.go ?_ | (apply hJ_; intro u_)) | ((with_reducible refine Bi.dec true ?_ ?_); focus exact rfl) | ((with_reducible refine Bi.dec false ?_ ?_); focus exact rfl) | (intro J_ hJ_))
  refine (il_q hq ⟨r, t, n, e, E, h⟩).mono ?_
  clear E h
  rintro q w_ ⟨rfl, qb, r, t, n, e, E, h⟩
  skip
  exact ⟨rfl, ipo_q hn rfl ⟨r, t, n, e, E, h⟩⟩
theorem ik_105 (hk : m.kind = 105) (hn : m.names = []) (hq : m.qids = []) (E : IT w0 F i I (mA mb m nilV nilV :: l) w) :
    Ca PP Fn.styx_fields #[.iface Ty.p_styx_input (ptr i), ptr mb] w fun q w' => q = .tuple #[] ∧ IPo w0 F i mb l (Ip.flds [.xq] m I) w' := by
  refine S.styx_fields.calls ?_
  unfold S.styx_fields
  obtain ⟨r, t, n, e, E, h⟩ := E
  (repeat with_reducible first | refine Stp.go ?_ | refine StpE.go E ?_)
  rw [hk, ifl1]
  (repeat first | (with_reducible first | refine Stp.go ?_ | (apply hJ_; intro u_)) | ((with_reducible refine Bi.dec true ?_ ?_); focus exact rfl) | ((with_reducible refine Bi.dec false ?_ ?_); focus exact rfl) | (intro J_ hJ_))
  refine (il_q hq ⟨r, t, n, e, E, h⟩).mono ?_
  clear E h
  rintro q w_ ⟨rfl, qb, r, t, n, e, E, h⟩
  skip
  exact ⟨rfl, ipo_q hn rfl ⟨r, t, n, e, E, h⟩⟩
theorem ik_104 (hk : m.kind = 104) (hn : m.names = []) (hq : m.qids = []) (E : IT w0 F i I (mA mb m nilV nilV :: l) w) :
    Ca PP Fn.styx_fields #[.iface Ty.p_styx_input (ptr i), ptr mb] w fun q w' => q = .tuple #[] ∧ IPo w0 F i mb l (Ip.flds [.xf, .xo, .xu, .xt] m I) w' := by
  refine S.styx_fields.calls ?_
  unfold S.styx_fields
  obtain ⟨r, t, n, e, E, h⟩ := E
  (repeat with_reducible first | refine Stp.go ?_ | refine StpE.go E ?_)
  rw [hk, ifl4]
  (repeat first | (with_reducible first | refine Stp.go ?_ | (refine StpW.go E ?_; clear E; intro w_ E) | (apply hJ_; intro u_)) | ((with_reducible refine Bi.dec true ?_ ?_); focus exact rfl) | ((with_reducible refine Bi.dec false ?_ ?_); focus exact rfl) | (intro J_ hJ_))
  refine (il_f ⟨r, t, n, e, E, h⟩).mono ?_
  clear E h
  rintro q w_ ⟨rfl, r, t, n, e, E, h⟩
  (repeat with_reducible first | refine Stp.go ?_ | (refine StpW.go E ?_; clear E; intro w_ E))
  refine (il_o ⟨r, t, n, e, E, h⟩).mono ?_
  clear E h
  rintro q w_ ⟨rfl, r, t, n, e, E, h⟩
  (repeat with_reducible first | refine Stp.go ?_ | (refine StpW.go E ?_; clear E; intro w_ E))
  refine (il_u ⟨r, t, n, e, E, h⟩).mono ?_
  clear E h
  rintro q w_ ⟨rfl, r, t, n, e, E, h⟩
  (repeat with_reducible first | refine Stp.go ?_ | (refine StpW.go E ?_; clear E; intro w_ E))
  refine (il_t ⟨r, t, n, e, E, h⟩).mono ?_
  clear E h
  rintro q w_ ⟨rfl, r, t, n, e, E, h⟩
  skip
  exact ⟨rfl, ipo_nil hn hq ⟨r, t, n, e, E, h⟩⟩
theorem ik_107 (hk : m.kind = 107) (hn : m.names = []) (hq : m.qids = []) (E : IT w0 F i I (mA mb m nilV nilV :: l) w) :
    Ca PP Fn.styx_fields #[.iface Ty.p_styx_input (ptr i), ptr mb] w fun q w' => q = .tuple #[] ∧ IPo w0 F i mb l (Ip.flds [.xc] m I) w' := by
  refine S.styx_fields.calls ?_
  unfold S.styx_fields
  obtain ⟨r, t, n, e, E, h⟩ := E
  (repeat with_reducible first | refine Stp.go ?_ | refine StpE.go E ?_)
  rw [hk, ifl1]
  (repeat first | (with_reducible first | refine Stp.go ?_ | refine StpE.go E ?_ | (refine StpW.go E ?_; clear E; intro w_ E) | (refine StpA.go E ?_; clear E; intro b_ w_ hb_ E) | (apply hJ_; intro u_)) | ((with_reducible refine Bi.dec true ?_ ?_); focus exact rfl) | ((with_reducible refine Bi.dec false ?_ ?_); focus exact rfl) | (intro J_ hJ_))
  (revert b_; intro c hbc E)
  (replace E := (((E.bIx 0).bIx 2).bIx 2))
  refine (inum_ok (k := 2) (off := 0) (by omega) (by simp) ⟨r, t, n, e, E, h⟩).mono ?_
  clear E h
  rintro q w_ ⟨rfl, r, t, n, e, E, h⟩
  (try simp only [List.set_cons_zero, List.set_cons_succ, List.cons_append, List.nil_append, Nat.zero_add, Nat.add_zero] at E)
  (repeat with_reducible first | refine Stp.go ?_ | refine StpE.go E ?_ | (refine StpW.go E ?_; clear E; intro w_ E))
  (replace E := ((((E.bIx 2).bIx 3).bIx 3).bIx 3))
  exact ⟨rfl, ipo_nil (x := Ip.fld m I .xc) hn hq ⟨r, t, n, e, E.drop (.cons_cons _ (.cons_cons _ (.cons_cons _ (.cons _ (List.Sublist.refl _))))), h⟩⟩
theorem ik_108 (hk : m.kind = 108) (hn : m.names = []) (hq : m.qids = []) (E : IT w0 F i I (mA mb m nilV nilV :: l) w) :
    Ca PP Fn.styx_fields #[.iface Ty.p_styx_input (ptr i), ptr mb] w fun q w' => q = .tuple #[] ∧ IPo w0 F i mb l (Ip.flds [.xd] m I) w' := by
  refine S.styx_fields.calls ?_
  unfold S.styx_fields
  obtain ⟨r, t, n, e, E, h⟩ := E
  (repeat with_reducible first | refine Stp.go ?_ | refine StpE.go E ?_)
  rw [hk, ifl1]
  (repeat first | (with_reducible first | refine Stp.go ?_ | (refine StpW.go E ?_; clear E; intro w_ E) | (apply hJ_; intro u_)) | ((with_reducible refine Bi.dec true ?_ ?_); focus exact rfl) | ((with_reducible refine Bi.dec false ?_ ?_); focus exact rfl) | (intro J_ hJ_))
  refine (il_d ⟨r, t, n, e, E, h⟩).mono ?_
  clear E h
  rintro q w_ ⟨rfl, r, t, n, e, E, h⟩
  skip
  exact ⟨rfl, ipo_nil hn hq ⟨r, t, n, e, E, h⟩⟩
theorem ik_110 (hk : m.kind = 110) (hn : m.names = []) (hq : m.qids = []) (E : IT w0 F i I (mA mb m nilV nilV :: l) w) :
    Ca PP Fn.styx_fields #[.iface Ty.p_styx_input (ptr i), ptr mb] w fun q w' => q = .tuple #[] ∧ IPo w0 F i mb l (Ip.flds [.xf, .xo, .xn] m I) w' := by
  refine S.styx_fields.calls ?_
  unfold S.styx_fields
  obtain ⟨r, t, n, e, E, h⟩ := E
  (repeat with_reducible first | refine Stp.go ?_ | refine StpE.go E ?_)
  rw [hk, ifl3]
  (repeat first | (with_reducible first | refine Stp.go ?_ | (refine StpW.go E ?_; clear E; intro w_ E) | (apply hJ_; intro u_)) | ((with_reducible refine Bi.dec true ?_ ?_); focus exact rfl) | ((with_reducible refine Bi.dec false ?_ ?_); focus exact rfl) | (intro J_ hJ_))
  refine (il_f ⟨r, t, n, e, E, h⟩).mono ?_
  clear E h
  rintro q w_ ⟨rfl, r, t, n, e, E, h⟩
  (repeat with_reducible first | refine Stp.go ?_ | (refine StpW.go E ?_; clear E; intro w_ E))
  refine (il_o ⟨r, t, n, e, E, h⟩).mono ?_
  clear E h
  rintro q w_ ⟨rfl, r, t, n, e, E, h⟩
  (repeat with_reducible first | refine Stp.go ?_ | (refine StpW.go E ?_; clear E; intro w_ E))
  refine (il_n ⟨r, t, n, e, E, h⟩).mono ?_
  clear E h
  rintro q w_ ⟨rfl, v, E⟩
  exact ⟨rfl, ipo_n hq E⟩
theorem ik_111 (hk : m.kind = 111) (hn : m.names = []) (hq : m.qids = []) (E : IT w0 F i I (mA mb m nilV nilV :: l) w) :
    Ca PP Fn.styx_fields #[.iface Ty.p_styx_input (ptr i), ptr mb] w fun q w' => q = .tuple #[] ∧ IPo w0 F i mb l (Ip.flds [.xQ] m I) w' := by
  refine S.styx_fields.calls ?_
  unfold S.styx_fields
  obtain ⟨r, t, n, e, E, h⟩ := E
  (repeat with_reducible first | refine Stp.go ?_ | refine StpE.go E ?_)
  rw [hk, ifl1]
  (repeat first | (with_reducible first | refine Stp.go ?_ | (refine StpW.go E ?_; clear E; intro w_ E) | (apply hJ_; intro u_)) | ((with_reducible refine Bi.dec true ?_ ?_); focus exact rfl) | ((with_reducible refine Bi.dec false ?_ ?_); focus exact rfl) | (intro J_ hJ_))
  refine (il_Q ⟨r, t, n, e, E, h⟩).mono ?_
  clear E h
  rintro q w_ ⟨rfl, v, E⟩
  exact ⟨rfl, ipo_Q hn E⟩
theorem ik_112 (hk : m.kind = 112) (hn : m.names = []) (hq : m.qids = []) (E : IT w0 F i I (mA mb m nilV nilV :: l) w) :
    Ca PP Fn.styx_fields #[.iface Ty.p_styx_input (ptr i), ptr mb] w fun q w' => q = .tuple #[] ∧ IPo w0 F i mb l (Ip.flds [.xf, .xm] m I) w' := by
  refine S.styx_fields.calls ?_
  unfold S.styx_fields
  obtain ⟨r, t, n, e, E, h⟩ := E
  (repeat with_reducible first | refine Stp.go ?_ | refine StpE.go E ?_)
  rw [hk, ifl2]
  (repeat first | (with_reducible first | refine Stp.go ?_ | (refine StpW.go E ?_; clear E; intro w_ E) | (apply hJ_; intro u_)) | ((with_reducible refine Bi.dec true ?_ ?_); focus exact rfl) | ((with_reducible refine Bi.dec false ?_ ?_); focus exact rfl) | (intro J_ hJ_))
  refine (il_f ⟨r, t, n, e, E, h⟩).mono ?_
  clear E h
  rintro q w_ ⟨rfl, r, t, n, e, E, h⟩
  (repeat with_reducible first | refine Stp.go ?_ | (refine StpW.go E ?_; clear E; intro w_ E))
  refine (il_m ⟨r, t, n, e, E, h⟩).mono ?_
  clear E h
  rintro q w_ ⟨rfl, r, t, n, e, E, h⟩
  skip
  exact ⟨rfl, ipo_nil hn hq ⟨r, t, n, e, E, h⟩⟩
theorem ik_113 (hk : m.kind = 113) (hn : m.names = []) (hq : m.qids = []) (E : IT w0 F i I (mA mb m nilV nilV :: l) w) :
    Ca PP Fn.styx_fields #[.iface Ty.p_styx_input (ptr i), ptr mb] w fun q w' => q = .tuple #[] ∧ IPo w0 F i mb l (Ip.flds [.xq, .xS] m I) w' := by
  refine S.styx_fields.calls ?_
  unfold S.styx_fields
  obtain ⟨r, t, n, e, E, h⟩ := E
  (repeat with_reducible first | refine Stp.go ?_ | refine StpE.go E ?_)
  rw [hk, ifl2]
  (repeat first | (with_reducible first | refine Stp.go ?_ | (apply hJ_; intro u_)) | ((with_reducible refine Bi.dec true ?_ ?_); focus exact rfl) | ((with_reducible refine Bi.dec false ?_ ?_); focus exact rfl) | (intro J_ hJ_))
  refine (il_q hq ⟨r, t, n, e, E, h⟩).mono ?_
  clear E h
  rintro q w_ ⟨rfl, qb, r, t, n, e, E, h⟩
  (repeat with_reducible first | refine Stp.go ?_ | (refine StpW.go E ?_; clear E; intro w_ E))
  refine (il_S ⟨r, t, n, e, E, h⟩).mono ?_
  clear E h
  rintro q w_ ⟨rfl, r, t, n, e, E, h⟩
  skip
  exact ⟨rfl, ipo_q hn rfl ⟨r, t, n, e, E, h⟩⟩
theorem ik_115 (hk : m.kind = 115) (hn : m.names = []) (hq : m.qids = []) (E : IT w0 F i I (mA mb m nilV nilV :: l) w) :
    Ca PP Fn.styx_fields #[.iface Ty.p_styx_input (ptr i), ptr mb] w fun q w' => q = .tuple #[] ∧ IPo w0 F i mb l (Ip.flds [.xq, .xS] m I) w' := by
  refine S.styx_fields.calls ?_
  unfold S.styx_fields
  obtain ⟨r, t, n, e, E, h⟩ := E
  (repeat with_reducible first | refine Stp.go ?_ | refine StpE.go E ?_)
  rw [hk, ifl2]
  (repeat first | (with_reducible first | refine Stp.go ?_ | (apply hJ_; intro u_)) | ((with_reducible refine Bi.dec true ?_ ?_); focus exact rfl) | ((with_reducible refine Bi.dec false ?_ ?_); focus exact rfl) | (intro J_ hJ_))
  refine (il_q hq ⟨r, t, n, e, E, h⟩).mono ?_
  clear E h
  rintro q w_ ⟨rfl, qb, r, t, n, e, E, h⟩
  (repeat with_reducible first | refine Stp.go ?_ | (refine StpW.go E ?_; clear E; intro w_ E))
  refine (il_S ⟨r, t, n, e, E, h⟩).mono ?_
  clear E h
  rintro q w_ ⟨rfl, r, t, n, e, E, h⟩
  skip
  exact ⟨rfl, ipo_q hn rfl ⟨r, t, n, e, E, h⟩⟩
theorem ik_114 (hk : m.kind = 114) (hn : m.names = []) (hq : m.qids = []) (E : IT w0 F i I (mA mb m nilV nilV :: l) w) :
    Ca PP Fn.styx_fields #[.iface Ty.p_styx_input (ptr i), ptr mb] w fun q w' => q = .tuple #[] ∧ IPo w0 F i mb l (Ip.flds [.xf, .xN, .xp, .xm] m I) w' := by
  refine S.styx_fields.calls ?_
  unfold S.styx_fields
  obtain ⟨r, t, n, e, E, h⟩ := E
  (repeat with_reducible first | refine Stp.go ?_ | refine StpE.go E ?_)
  rw [hk, ifl4]
  (repeat first | (with_reducible first | refine Stp.go ?_ | (refine StpW.go E ?_; clear E; intro w_ E) | (apply hJ_; intro u_)) | ((with_reducible refine Bi.dec true ?_ ?_); focus exact rfl) | ((with_reducible refine Bi.dec false ?_ ?_); focus exact rfl) | (intro J_ hJ_))
  refine (il_f ⟨r, t, n, e, E, h⟩).mono ?_
  clear E h
  rintro q w_ ⟨rfl, r, t, n, e, E, h⟩
  (repeat with_reducible first | refine Stp.go ?_ | (refine StpW.go E ?_; clear E; intro w_ E))
  refine (il_N ⟨r, t, n, e, E, h⟩).mono ?_
  clear E h
  rintro q w_ ⟨rfl, r, t, n, e, E, h⟩
  (repeat with_reducible first | refine Stp.go ?_ | (refine StpW.go E ?_; clear E; intro w_ E))
  refine (il_p ⟨r, t, n, e, E, h⟩).mono ?_
  clear E h
  rintro q w_ ⟨rfl, r, t, n, e, E, h⟩
  (repeat with_reducible first | refine Stp.go ?_ | (refine StpW.go E ?_; clear E; intro w_ E))
  refine (il_m ⟨r, t, n, e, E, h⟩).mono ?_
  clear E h
  rintro q w_ ⟨rfl, r, t, n, e, E, h⟩
  skip
  exact ⟨rfl, ipo_nil hn hq ⟨r, t, n, e, E, h⟩⟩
theorem ik_116 (hk : m.kind = 116) (hn : m.names = []) (hq : m.qids = []) (E : IT w0 F i I (mA mb m nilV nilV :: l) w) :
    Ca PP Fn.styx_fields #[.iface Ty.p_styx_input (ptr i), ptr mb] w fun q w' => q = .tuple #[] ∧ IPo w0 F i mb l (Ip.flds [.xf, .xO, .xS] m I) w' := by
  refine S.styx_fields.calls ?_
  unfold S.styx_fields
  obtain ⟨r, t, n, e, E, h⟩ := E
  (repeat with_reducible first | refine Stp.go ?_ | refine StpE.go E ?_)
  rw [hk, ifl3]
  (repeat first | (with_reducible first | refine Stp.go ?_ | (refine StpW.go E ?_; clear E; intro w_ E) | (apply hJ_; intro u_)) | ((with_reducible refine Bi.dec true ?_ ?_); focus exact rfl) | ((with_reducible refine Bi.dec false ?_ ?_); focus exact rfl) | (intro J_ hJ_))
  refine (il_f ⟨r, t, n, e, E, h⟩).mono ?_
  clear E h
  rintro q w_ ⟨rfl, r, t, n, e, E, h⟩
  (repeat with_reducible first | refine Stp.go ?_ | (refine StpW.go E ?_; clear E; intro w_ E))
  refine (il_O ⟨r, t, n, e, E, h⟩).mono ?_
  clear E h
  rintro q w_ ⟨rfl, r, t, n, e, E, h⟩
  (repeat with_reducible first | refine Stp.go ?_ | (refine StpW.go E ?_; clear E; intro w_ E))
  refine (il_S ⟨r, t, n, e, E, h⟩).mono ?_
  clear E h
  rintro q w_ ⟨rfl, r, t, n, e, E, h⟩
  skip
  exact ⟨rfl, ipo_nil hn hq ⟨r, t, n, e, E, h⟩⟩
theorem ik_117 (hk : m.kind = 117) (hn : m.names = []) (hq : m.qids = []) (E : IT w0 F i I (mA mb m nilV nilV :: l) w) :
    Ca PP Fn.styx_fields #[.iface Ty.p_styx_input (ptr i), ptr mb] w fun q w' => q = .tuple #[] ∧ IPo w0 F i mb l (Ip.flds [.xD] m I) w' := by
  refine S.styx_fields.calls ?_
  unfold S.styx_fields
  obtain ⟨r, t, n, e, E, h⟩ := E
  (repeat with_reducible first | refine Stp.go ?_ | refine StpE.go E ?_)
  rw [hk, ifl1]
  (repeat first | (with_reducible first | refine Stp.go ?_ | (refine StpW.go E ?_; clear E; intro w_ E) | (apply hJ_; intro u_)) | ((with_reducible refine Bi.dec true ?_ ?_); focus exact rfl) | ((with_reducible refine Bi.dec false ?_ ?_); focus exact rfl) | (intro J_ hJ_))
  refine (il_D ⟨r, t, n, e, E, h⟩).mono ?_
  clear E h
  rintro q w_ ⟨rfl, r, t, n, e, E, h⟩
  skip
  exact ⟨rfl, ipo_nil hn hq ⟨r, t, n, e, E, h⟩⟩
theorem ik_118 (hk : m.kind = 118) (hn : m.names = []) (hq : m.qids = []) (E : IT w0 F i I (mA mb m nilV nilV :: l) w) :
    Ca PP Fn.styx_fields #[.iface Ty.p_styx_input (ptr i), ptr mb] w fun q w' => q = .tuple #[] ∧ IPo w0 F i mb l (Ip.flds [.xf, .xO, .xD] m I) w' := by
  refine S.styx_fields.calls ?_
  unfold S.styx_fields
  obtain ⟨r, t, n, e, E, h⟩ := E
  (repeat with_reducible first | refine Stp.go ?_ | refine StpE.go E ?_)
  rw [hk, ifl3]
  (repeat first | (with_reducible first | refine Stp.go ?_ | (refine StpW.go E ?_; clear E; intro w_ E) | (apply hJ_; intro u_)) | ((with_reducible refine Bi.dec true ?_ ?_); focus exact rfl) | ((with_reducible refine Bi.dec false ?_ ?_); focus exact rfl) | (intro J_ hJ_))
  refine (il_f ⟨r, t, n, e, E, h⟩).mono ?_
  clear E h
  rintro q w_ ⟨rfl, r, t, n, e, E, h⟩
  (repeat with_reducible first | refine Stp.go ?_ | (refine StpW.go E ?_; clear E; intro w_ E))
  refine (il_O ⟨r, t, n, e, E, h⟩).mono ?_
  clear E h
  rintro q w_ ⟨rfl, r, t, n, e, E, h⟩
  (repeat with_reducible first | refine Stp.go ?_ | (refine StpW.go E ?_; clear E; intro w_ E))
  refine (il_D ⟨r, t, n, e, E, h⟩).mono ?_
  clear E h
  rintro q w_ ⟨rfl, r, t, n, e, E, h⟩
  skip
  exact ⟨rfl, ipo_nil hn hq ⟨r, t, n, e, E, h⟩⟩
theorem ik_119 (hk : m.kind = 119) (hn : m.names = []) (hq : m.qids = []) (E : IT w0 F i I (mA mb m nilV nilV :: l) w) :
    Ca PP Fn.styx_fields #[.iface Ty.p_styx_input (ptr i), ptr mb] w fun q w' => q = .tuple #[] ∧ IPo w0 F i mb l (Ip.flds [.xS] m I) w' := by
  refine S.styx_fields.calls ?_
  unfold S.styx_fields
  obtain ⟨r, t, n, e, E, h⟩ := E
  (repeat with_reducible first | refine Stp.go ?_ | refine StpE.go E ?_)
  rw [hk, ifl1]
  (repeat first | (with_reducible first | refine Stp.go ?_ | (refine StpW.go E ?_; clear E; intro w_ E) | (apply hJ_; intro u_)) | ((with_reducible refine Bi.dec true ?_ ?_); focus exact rfl) | ((with_reducible refine Bi.dec false ?_ ?_); focus exact rfl) | (intro J_ hJ_))
  refine (il_S ⟨r, t, n, e, E, h⟩).mono ?_
  clear E h
  rintro q w_ ⟨rfl, r, t, n, e, E, h⟩
  skip
  exact ⟨rfl, ipo_nil hn hq ⟨r, t, n, e, E, h⟩⟩
theorem ik_120 (hk : m.kind = 120) (hn : m.names = []) (hq : m.qids = []) (E : IT w0 F i I (mA mb m nilV nilV :: l) w) :
    Ca PP Fn.styx_fields #[.iface Ty.p_styx_input (ptr i), ptr mb] w fun q w' => q = .tuple #[] ∧ IPo w0 F i mb l (Ip.flds [.xf] m I) w' := by
  refine S.styx_fields.calls ?_
  unfold S.styx_fields
  obtain ⟨r, t, n, e, E, h⟩ := E
  (repeat with_reducible first | refine Stp.go ?_ | refine StpE.go E ?_)
  rw [hk, ifl1]
  (repeat first | (with_reducible first | refine Stp.go ?_ | (refine StpW.go E ?_; clear E; intro w_ E) | (apply hJ_; intro u_)) | ((with_reducible refine Bi.dec true ?_ ?_); focus exact rfl) | ((with_reducible refine Bi.dec false ?_ ?_); focus exact rfl) | (intro J_ hJ_))
  refine (il_f ⟨r, t, n, e, E, h⟩).mono ?_
  clear E h
  rintro q w_ ⟨rfl, r, t, n, e, E, h⟩
  skip
  exact ⟨rfl, ipo_nil hn hq ⟨r, t, n, e, E, h⟩⟩
theorem ik_122 (hk : m.kind = 122) (hn : m.names = []) (hq : m.qids = []) (E : IT w0 F i I (mA mb m nilV nilV :: l) w) :
    Ca PP Fn.styx_fields #[.iface Ty.p_styx_input (ptr i), ptr mb] w fun q w' => q = .tuple #[] ∧ IPo w0 F i mb l (Ip.flds [.xf] m I) w' := by
  refine S.styx_fields.calls ?_
  unfold S.styx_fields
  obtain ⟨r, t, n, e, E, h⟩ := E
  (repeat with_reducible first | refine Stp.go ?_ | refine StpE.go E ?_)
  rw [hk, ifl1]
  (repeat first | (with_reducible first | refine Stp.go ?_ | (refine StpW.go E ?_; clear E; intro w_ E) | (apply hJ_; intro u_)) | ((with_reducible refine Bi.dec true ?_ ?_); focus exact rfl) | ((with_reducible refine Bi.dec false ?_ ?_); focus exact rfl) | (intro J_ hJ_))
  refine (il_f ⟨r, t, n, e, E, h⟩).mono ?_
  clear E h
  rintro q w_ ⟨rfl, r, t, n, e, E, h⟩
  skip
  exact ⟨rfl, ipo_nil hn hq ⟨r, t, n, e, E, h⟩⟩
theorem ik_124 (hk : m.kind = 124) (hn : m.names = []) (hq : m.qids = []) (E : IT w0 F i I (mA mb m nilV nilV :: l) w) :
    Ca PP Fn.styx_fields #[.iface Ty.p_styx_input (ptr i), ptr mb] w fun q w' => q = .tuple #[] ∧ IPo w0 F i mb l (Ip.flds [.xf] m I) w' := by
  refine S.styx_fields.calls ?_
  unfold S.styx_fields
  obtain ⟨r, t, n, e, E, h⟩ := E
  (repeat with_reducible first | refine Stp.go ?_ | refine StpE.go E ?_)
  rw [hk, ifl1]
  (repeat first | (with_reducible first | refine Stp.go ?_ | (refine StpW.go E ?_; clear E; intro w_ E) | (apply hJ_; intro u_)) | ((with_reducible refine Bi.dec true ?_ ?_); focus exact rfl) | ((with_reducible refine Bi.dec false ?_ ?_); focus exact rfl) | (intro J_ hJ_))
  refine (il_f ⟨r, t, n, e, E, h⟩).mono ?_
  clear E h
  rintro q w_ ⟨rfl, r, t, n, e, E, h⟩
  skip
  exact ⟨rfl, ipo_nil hn hq ⟨r, t, n, e, E, h⟩⟩
theorem ik_125 (hk : m.kind = 125) (hn : m.names = []) (hq : m.qids = []) (E : IT w0 F i I (mA mb m nilV nilV :: l) w) :
    Ca PP Fn.styx_fields #[.iface Ty.p_styx_input (ptr i), ptr mb] w fun q w' => q = .tuple #[] ∧ IPo w0 F i mb l (Ip.flds [.xi] m I) w' := by
  refine S.styx_fields.calls ?_
  unfold S.styx_fields
  obtain ⟨r, t, n, e, E, h⟩ := E
  (repeat with_reducible first | refine Stp.go ?_ | refine StpE.go E ?_)
  rw [hk, ifl1]
  (repeat first | (with_reducible first | refine Stp.go ?_ | (refine StpW.go E ?_; clear E; intro w_ E) | (apply hJ_; intro u_)) | ((with_reducible refine Bi.dec true ?_ ?_); focus exact rfl) | ((with_reducible refine Bi.dec false ?_ ?_); focus exact rfl) | (intro J_ hJ_))
  refine (il_i ⟨r, t, n, e, E, h⟩).mono ?_
  clear E h
  rintro q w_ ⟨rfl, r, t, n, e, E, h⟩
  skip
  exact ⟨rfl, ipo_nil hn hq ⟨r, t, n, e, E, h⟩⟩
theorem ik_126 (hk : m.kind = 126) (hn : m.names = []) (hq : m.qids = []) (E : IT w0 F i I (mA mb m nilV nilV :: l) w) :
    Ca PP Fn.styx_fields #[.iface Ty.p_styx_input (ptr i), ptr mb] w fun q w' => q = .tuple #[] ∧ IPo w0 F i mb l (Ip.flds [.xf, .xi] m I) w' := by
  refine S.styx_fields.calls ?_
  unfold S.styx_fields
  obtain ⟨r, t, n, e, E, h⟩ := E
  (repeat with_reducible first | refine Stp.go ?_ | refine StpE.go E ?_)
  rw [hk, ifl2]
  (repeat first | (with_reducible first | refine Stp.go ?_ | (refine StpW.go E ?_; clear E; intro w_ E) | (apply hJ_; intro u_)) | ((with_reducible refine Bi.dec true ?_ ?_); focus exact rfl) | ((with_reducible refine Bi.dec false ?_ ?_); focus exact rfl) | (intro J_ hJ_))
  refine (il_f ⟨r, t, n, e, E, h⟩).mono ?_
  clear E h
  rintro q w_ ⟨rfl, r, t, n, e, E, h⟩
  (repeat with_reducible first | refine Stp.go ?_ | (refine StpW.go E ?_; clear E; intro w_ E))
  refine (il_i ⟨r, t, n, e, E, h⟩).mono ?_
  clear E h
  rintro q w_ ⟨rfl, r, t, n, e, E, h⟩
  skip
  exact ⟨rfl, ipo_nil hn hq ⟨r, t, n, e, E, h⟩⟩
theorem ik_109 (hk : m.kind = 109) (hn : m.names = []) (hq : m.qids = []) (E : IT w0 F i I (mA mb m nilV nilV :: l) w) :
    Ca PP Fn.styx_fields #[.iface Ty.p_styx_input (ptr i), ptr mb] w fun q w' => q = .tuple #[] ∧ IPo w0 F i mb l (Ip.flds [] m I) w' := by
  refine S.styx_fields.calls ?_
  unfold S.styx_fields
  obtain ⟨r, t, n, e, E, h⟩ := E
  (repeat with_reducible first | refine Stp.go ?_ | refine StpE.go E ?_)
  rw [hk, ifl0]
  (repeat first | (with_reducible first | refine Stp.go ?_ | (apply hJ_; intro u_)) | ((with_reducible refine Bi.dec false ?_ ?_); focus exact rfl) | (intro J_ hJ_))
  exact ⟨rfl, ipo_nil hn hq ⟨r, t, n, e, E, h⟩⟩
theorem ik_121 (hk : m.kind = 121) (hn : m.names = []) (hq : m.qids = []) (E : IT w0 F i I (mA mb m nilV nilV :: l) w) :
    Ca PP Fn.styx_fields #[.iface Ty.p_styx_input (ptr i), ptr mb] w fun q w' => q = .tuple #[] ∧ IPo w0 F i mb l (Ip.flds [] m I) w' := by
  refine S.styx_fields.calls ?_
  unfold S.styx_fields
  obtain ⟨r, t, n, e, E, h⟩ := E
  (repeat with_reducible first | refine Stp.go ?_ | refine StpE.go E ?_)
  rw [hk, ifl0]
  (repeat first | (with_reducible first | refine Stp.go ?_ | (apply hJ_; intro u_)) | ((with_reducible refine Bi.dec false ?_ ?_); focus exact rfl) | (intro J_ hJ_))
  exact ⟨rfl, ipo_nil hn hq ⟨r, t, n, e, E, h⟩⟩
theorem ik_123 (hk : m.kind = 123) (hn : m.names = []) (hq : m.qids = []) (E : IT w0 F i I (mA mb m nilV nilV :: l) w) :
    Ca PP Fn.styx_fields #[.iface Ty.p_styx_input (ptr i), ptr mb] w fun q w' => q = .tuple #[] ∧ IPo w0 F i mb l (Ip.flds [] m I) w' := by
  refine S.styx_fields.calls ?_
  unfold S.styx_fields
  obtain ⟨r, t, n, e, E, h⟩ := E
  (repeat with_reducible first | refine Stp.go ?_ | refine StpE.go E ?_)
  rw [hk, ifl0]
  (repeat first | (with_reducible first | refine Stp.go ?_ | (apply hJ_; intro u_)) | ((with_reducible refine Bi.dec false ?_ ?_); focus exact rfl) | (intro J_ hJ_))
  exact ⟨rfl, ipo_nil hn hq ⟨r, t, n, e, E, h⟩⟩
theorem ik_127 (hk : m.kind = 127) (hn : m.names = []) (hq : m.qids = []) (E : IT w0 F i I (mA mb m nilV nilV :: l) w) :
    Ca PP Fn.styx_fields #[.iface Ty.p_styx_input (ptr i), ptr mb] w fun q w' => q = .tuple #[] ∧ IPo w0 F i mb l (Ip.flds [] m I) w' := by
  refine S.styx_fields.calls ?_
  unfold S.styx_fields
  obtain ⟨r, t, n, e, E, h⟩ := E
  (repeat with_reducible first | refine Stp.go ?_ | refine StpE.go E ?_)
  rw [hk, ifl0]
  (repeat first | (with_reducible first | refine Stp.go ?_ | (apply hJ_; intro u_)) | ((with_reducible refine Bi.dec false ?_ ?_); focus exact rfl) | (intro J_ hJ_))
  exact ⟨rfl, ipo_nil hn hq ⟨r, t, n, e, E, h⟩⟩
theorem ifields_ok {fl : List Fl} (hfl : fls m.kind = some fl) (hn : m.names = []) (hq : m.qids = []) (E : IT w0 F i I (mA mb m nilV nilV :: l) w) :
    Ca PP Fn.styx_fields #[.iface Ty.p_styx_input (ptr i), ptr mb] w fun q w' => q = .tuple #[] ∧ IPo w0 F i mb l (Ip.flds fl m I) w' := by
  rcases fls_cases hfl with ⟨(hk | hk), rfl⟩ | ⟨hk, rfl⟩ | ⟨(hk | hk), rfl⟩ | ⟨hk, rfl⟩ | ⟨hk, rfl⟩ | ⟨hk, rfl⟩ | ⟨hk, rfl⟩ | ⟨hk, rfl⟩ | ⟨hk, rfl⟩ | ⟨(hk | hk), rfl⟩ | ⟨hk, rfl⟩ | ⟨hk, rfl⟩ | ⟨hk, rfl⟩ | ⟨hk, rfl⟩ | ⟨hk, rfl⟩ | ⟨(hk | hk | hk), rfl⟩ | ⟨hk, rfl⟩ | ⟨hk, rfl⟩ | ⟨(hk | hk | hk | hk), rfl⟩
  · exact ik_100 hk hn hq E
  · exact ik_101 hk hn hq E
  · exact ik_102 hk hn hq E
  · exact ik_103 hk hn hq E
  · exact ik_105 hk hn hq E
  · exact ik_104 hk hn hq E
  · exact ik_107 hk hn hq E
  · exact ik_108 hk hn hq E
  · exact ik_110 hk hn hq E
  · exact ik_111 hk hn hq E
  · exact ik_112 hk hn hq E
  · exact ik_113 hk hn hq E
  · exact ik_115 hk hn hq E
  · exact ik_114 hk hn hq E
  · exact ik_116 hk hn hq E
  · exact ik_117 hk hn hq E
  · exact ik_118 hk hn hq E
  · exact ik_119 hk hn hq E
  · exact ik_120 hk hn hq E
  · exact ik_122 hk hn hq E
  · exact ik_124 hk hn hq E
  · exact ik_125 hk hn hq E
  · exact ik_126 hk hn hq E
  · exact ik_109 hk hn hq E
  · exact ik_121 hk hn hq E
  · exact ik_123 hk hn hq E
  · exact ik_127 hk hn hq E
end Go.Proofs.YtmlccboapkkcfaaDoor

/-
  The protocol: Decode.
-/
namespace Go.Proofs.YtmlccboapkkcfaaDoor
open Go Go.Sh
set_option maxRecDepth 100000
set_option linter.unusedVariables false
set_option linter.unusedSimpArgs false
variable {w0 w : World} {F : Nat → Prop} {l : List As}
variable {s : List UInt8}
theorem length_ok (hs : s.length ≤ 1000000000000) (E : Hs w0 F w l) : Ca PP Fn.styx_length #[sb s] w fun q w' => q = i64 ((if 4 ≤ s.length then un (s.take 4) else 0 : Nat) : Int) ∧ Hs w0 F w' l := by
  refine S.styx_length.calls ?_
  unfold S.styx_length
  refine (NewReader_ok E).mono ?_
  clear E
  rintro q w_ ⟨r, rfl, E⟩
  refine (RLittle_ok (n := 4) (by omega) hs (Nat.zero_le _) E).mono ?_
  clear E
  rintro q w_ (⟨he, _⟩ | ⟨he, x, n', rfl, hn, hp, E⟩ | ⟨he, hp, e', he', rfl, E⟩)
  · exact absurd rfl he
  · (repeat with_reducible refine Stp.go ?_)
    unfold rd at hp
    rw [List.drop_zero] at hp
    by_cases h4 : 4 ≤ s.length
    · rw [if_pos h4] at hp ⊢
      have := congrArg (fun o => o.map Prod.fst) hp
      simp only [Option.map_some] at this
      exact ⟨(Option.some.inj this).symm, E.tl⟩
    · rw [if_neg h4] at hp; cases hp
  · (repeat with_reducible refine Stp.go ?_)
    unfold rd at hp
    rw [List.drop_zero] at hp
    by_cases h4 : 4 ≤ s.length
    · rw [if_pos h4] at hp; cases hp
    · rw [if_neg h4]
      exact ⟨rfl, E.tl⟩
/-- A message that was read, and where its lists lie. -/
def DMs (w0 : World) (F : Nat → Prop) (l : List As) (m : Ms) (e : Int) (q : Value) (w : World) : Prop :=
  ∃ nv qv X, q = .tuple #[.agg (MC m nv qv).toArray, i64 e] ∧ RdS w0 F X 1 m.names.length nv (m.names.map sb) ∧ RdS w0 F X 3 m.qids.length qv (qqs m.qids) ∧ Hs w0 F w (X ++ l)
theorem DMs.zero {e : Int} (E : Hs w0 F w l) : DMs w0 F l m0 e (.tuple #[.agg (MC m0 nilV nilV).toArray, i64 e]) w := ⟨nilV, nilV, [], rfl, rds_nil, rds_nil, E⟩
theorem Decode_ok (hW : Wds w0 F) (hs : s.length ≤ 1000000000000) (E : Hs w0 F w l) :
    Ca PP Fn.styx_Decode #[sb s] w fun q w' => DMs w0 F l (dec s).1 (dec s).2 q w' := by
  rw [← decP_dec]
  refine S.styx_Decode.calls ?_
  unfold S.styx_Decode
  (repeat with_reducible (refine StpA.go E ?_; clear E; intro b_ w_ hb_ E))
  (revert b_; intro rb hbrb E)
  refine (length_ok hs E).mono ?_
  clear E
  rintro q w_ ⟨rfl, E⟩
  (repeat with_reducible refine Stp.go ?_)
  rw [mkB_size]
  refine Bi.lss ?_ ?_ <;> intro c1 <;> (repeat with_reducible first | refine Stp.go ?_ | refine StpE.go E ?_)
  · have hP : decP s = (m0, 16) := by unfold decP; rw [if_pos (by omega)]
    rw [hP]
    refine StA.all (vs := MC m0 nilV nilV) E rfl rfl rfl ?_
    clear E
    intro w_ E
    (repeat with_reducible refine StpE.go E ?_)
    exact .zero E.tl
  rw [if_pos (show 4 ≤ s.length by omega)]
  refine Bi.gtr ?_ ?_ <;> intro c2 <;> (repeat with_reducible first | refine Stp.go ?_ | refine StpE.go E ?_)
  · have hP : decP s = (m0, 3) := by unfold decP; rw [if_neg (by omega), if_pos (by omega)]
    rw [hP]
    refine StA.all (vs := MC m0 nilV nilV) E rfl rfl rfl ?_
    clear E
    intro w_ E
    (repeat with_reducible refine StpE.go E ?_)
    exact .zero E.tl
  rw [mkB_size]
  refine Bi.neq ?_ ?_ <;> intro c3 <;> (repeat with_reducible first | refine Stp.go ?_ | refine StpE.go E ?_)
  · have hP : decP s = (m0, 14) := by unfold decP; rw [if_neg (by omega), if_neg (by omega), if_pos (by omega)]
    rw [hP]
    refine StA.all (vs := MC m0 nilV nilV) E rfl rfl rfl ?_
    clear E
    intro w_ E
    (repeat with_reducible refine StpE.go E ?_)
    exact .zero E.tl
  refine SlS.suf (by omega) (by rw [mkB_size]; omega) ?_
  have hsub : (mkB s).extract (4 : Int).toNat (mkB s).size = mkB (s.drop 4) := by
    rw [mkB_ext, mkB_size, List.take_length]; rfl
  rw [hsub]
  refine (NewReader_ok E).mono ?_
  clear E
  rintro q w_ ⟨r, rfl, E⟩
  (repeat with_reducible first | refine Stp.go ?_ | refine StpE.go E ?_ | (refine StpA.go E ?_; clear E; intro b_ w_ hb_ E))
  (revert b_; intro mb hbmb E)
  (revert b_; intro i hbi E)
  (replace E := (((E.bIx 0).bIx 2).bIx 2))
  have hP : decP s = (let k := (i0 (s.drop 4)).num 1
    let t := k.2.num 2
    match fls k.1 with
    | none => (m0, 13)
    | some l =>
      let x := Ip.flds l { m0 with kind := k.1, tag := t.1 } t.2
      if x.2.fin.cut then (m0, 2) else if x.2.bad then (m0, 11) else if x.2.ov then (m0, 3) else (x.1, 0)) := by
    unfold decP; rw [if_neg (by omega), if_neg (by omega), if_neg (by omega)]; rfl
  rw [hP]
  clear hP
  have hlt := num_lt (i0 (s.drop 4)) (k := 1) (by omega)
  refine (inum_ok (I := i0 (s.drop 4)) (k := 1) (off := 0) (by omega) (by simp) ⟨r, s.drop 4, 0, 0, E, Nat.zero_le _, by rw [List.length_drop]; omega, rfl, by simp [i0]⟩).mono ?_
  clear E
  rintro q w_ ⟨rfl, E⟩
  generalize (i0 (s.drop 4)).num 1 = k at E hlt ⊢
  obtain ⟨kd, I1⟩ := k
  simp only [] at E hlt ⊢
  (repeat with_reducible refine Stp.go ?_)
  refine (inum_ok (k := 2) (off := 1) (by omega) (by simp) E).mono ?_
  clear E
  rintro q w_ ⟨rfl, E⟩
  generalize I1.num 2 = tg at E ⊢
  obtain ⟨tg, I2⟩ := tg
  simp only [] at E ⊢
  replace E : IT w0 F i I2 (mA mb { m0 with kind := kd, tag := tg } nilV nilV :: pt rb (oc (MC m0 nilV nilV) Ty.api_Msg) :: l) w_ := E
  obtain ⟨r, t, n, e, E, h⟩ := E
  (repeat with_reducible first | refine Stp.go ?_ | refine StpE.go E ?_)
  refine (known_ok hW (k := (kd : Int)) (by omega) E).mono ?_
  clear E
  rintro q w_ ⟨rfl, E⟩
  cases hfl : fls (kd : Int) with
  | none =>
    refine Un.nt ?_
    (repeat with_reducible first | refine Stp.go ?_ | refine StpE.go E ?_)
    refine StA.all (vs := MC m0 nilV nilV) E rfl rfl rfl ?_
    clear E
    intro w_ E
    (repeat with_reducible refine StpE.go E ?_)
    exact .zero E.tl.tl.tl.tl
  | some fl =>
    refine Un.nf ?_
    (repeat with_reducible refine Stp.go ?_)
    refine (ifields_ok (m := { m0 with kind := kd, tag := tg }) hfl rfl rfl ⟨r, t, n, e, E, h⟩).mono ?_
    clear E h
    rintro q w_ ⟨rfl, nv, qv, X, hN, hQ, E⟩
    simp only []
    generalize Ip.flds fl { m0 with kind := kd, tag := tg } I2 = x at E hN hQ ⊢
    obtain ⟨M, J⟩ := x
    simp only [] at E hN hQ ⊢
    refine (ifinish_ok E).mono ?_
    clear E
    rintro q w_ ⟨rfl, E⟩
    have hf : J.fin.bad = J.bad ∧ J.fin.ov = J.ov := ⟨rfl, rfl⟩
    rw [← hf.1, ← hf.2]
    generalize J.fin = J at E ⊢
    refine (ierr_ok E).mono ?_
    clear E
    rintro q w_ ⟨rfl, r, t, n, e, E, -⟩
    have E2 : Hs w0 F w_ (pt rb (oc (MC m0 nilV nilV) Ty.api_Msg) :: mA mb M nv qv :: (X ++ l)) := by
      refine (E.tl.tl).perm ?_
      exact (List.Perm.cons _ List.perm_middle).trans (List.Perm.swap _ _ _)
    clear E
    have E := E2
    clear E2
    have bad : ∀ e : Int, e ≠ 0 → Bi .neq (i64 e) (.int .i64 0) fun t49 => Cnd t49
        (Bd #[.int .i64 0, .int .i64 0, .int .i64 0, .int .i64 0, .int .i64 0, .int .i64 0, .int .i64 0, .int .i64 0, .int .i64 0, .string ⟨#[]⟩, .string ⟨#[]⟩, .string ⟨#[]⟩, .string ⟨#[]⟩, .slice none 0 0, .slice none 0 0, .string ⟨#[]⟩, .int .i64 0, .int .i64 0, .int .i64 0, .int .i64 0, .int .i64 0, .int .i64 0, .string ⟨#[]⟩, .string ⟨#[]⟩, .string ⟨#[]⟩, .string ⟨#[]⟩, .int .i64 0] [(0, 1), (1, 1), (2, 1), (3, 1), (4, 1), (5, 1), (6, 1), (7, 1), (8, 1), (9, 1), (10, 1), (11, 1), (12, 1), (13, 1), (14, 1), (15, 1), (16, 10), (26, 1)] [] fun t50 =>
          St PP 27 (ptr rb) t50 w_ fun w49 => LdA PP 27 (ptr rb) w49 fun t2 => DMs w0 F l m0 e (.tuple #[t2, i64 e]) w49)
        (LdA PP 27 (ptr mb) w_ fun t52 => St PP 27 (ptr rb) t52 w_ fun w52 => LdA PP 27 (ptr rb) w52 fun t2 => DMs w0 F l m0 e (.tuple #[t2, i64 0]) w52) := by
      intro e he
      refine Bi.neq ?_ (fun h => absurd h he)
      intro _
      (repeat with_reducible first | refine Stp.go ?_ | refine StpE.go E ?_)
      refine StA.all (vs := MC m0 nilV nilV) E rfl rfl rfl ?_
      clear E
      intro w_ E
      (repeat with_reducible refine StpE.go E ?_)
      refine .zero (E.tl.tl.drop (List.sublist_append_right _ _))
    cases hc : J.cut with
    | true =>
      simp only [if_true]
      exact bad 2 (by decide)
    | false =>
      cases hb : J.bad with
      | true =>
        simp only [Bool.false_eq_true, if_false, if_true]
        exact bad 11 (by decide)
      | false =>
        cases hv : J.ov with
        | true =>
          simp only [Bool.false_eq_true, if_false, if_true]
          exact bad 3 (by decide)
        | false =>
          simp only [Bool.false_eq_true, if_false]
          clear bad
          (repeat first | (with_reducible first | refine Stp.go ?_ | refine StpE.go E ?_) | ((with_reducible refine Bi.dec false ?_ ?_); focus exact rfl))
          refine StA.all (vs := MC M nv qv) E rfl rfl ?_ ?_
          · have i1 : scalV nv = true := by obtain ⟨a, c, rfl, _⟩ := hN; rfl
            have i2 : scalV qv = true := by obtain ⟨a, c, rfl, _⟩ := hQ; rfl
            simp only [List.all_cons, List.all_nil, i1, i2, Bool.and_true]
            rfl
          clear E
          intro w_ E
          (repeat with_reducible refine StpE.go E ?_)
          exact ⟨nv, qv, X, rfl, hN, hQ, E.tl.tl⟩
end Go.Proofs.YtmlccboapkkcfaaDoor

/-
  The protocol: messages are compared (chapter 31's Same), lists of names, of Qids and of Dirs too.
-/
namespace Go.Proofs.YtmlccboapkkcfaaDoor
open Go Go.Sh
set_option maxRecDepth 100000
set_option linter.unusedVariables false
set_option linter.unusedSimpArgs false
variable {w0 w : World} {F : Nat → Prop} {l : List As}
theorem take_step {α} {xs ys : List α} {i : Nat} (h : xs.take i = ys.take i) (h1 : i < xs.length) (h2 : i < ys.length) (e : xs[i] = ys[i]) : xs.take (i + 1) = ys.take (i + 1) := by
  rw [List.take_add_one, List.take_add_one, h, List.getElem?_eq_getElem h1, List.getElem?_eq_getElem h2, e]
theorem take_all {α} {xs ys : List α} {i : Nat} (h : xs.take i = ys.take i) (hn : xs.length = ys.length) (hi : xs.length ≤ i) : xs = ys := by
  rw [List.take_of_length_le hi, List.take_of_length_le (by omega)] at h
  exact h
theorem eqStr_ok {u v : Value} {xs ys : List (List UInt8)} (hn : xs.length ≤ 1000000000) (E : Hs w0 F w l) (h1 : RdS w0 F l 1 xs.length u (xs.map sb)) (h2 : RdS w0 F l 1 ys.length v (ys.map sb)) :
    Ca PP Fn.slices_Equal_sl_string_string #[u, v] w fun r w' => r = .bool (decide (xs = ys)) ∧ Hs w0 F w' l := by
  refine S.slices_Equal_sl_string_string.calls ?_
  unfold S.slices_Equal_sl_string_string
  refine h1.len ?_
  refine h2.len ?_
  refine Bi.neq ?_ ?_ <;> intro hne
  · (repeat with_reducible refine Stp.go ?_)
    refine ⟨?_, E⟩
    rw [decide_eq_false]
    rintro rfl
    exact hne rfl
  have hne : xs.length = ys.length := by omega
  (repeat with_reducible refine Stp.go ?_)
  refine h1.len ?_
  refine ⟨fun l1 w1 => ∃ i : Nat, l1 = [i64 i] ∧ i ≤ xs.length ∧ xs.take i = ys.take i ∧ Hs w0 F w1 l, fun l1 _ => match l1 with | [.int _ i] => xs.length - i.toNat | _ => 0, ⟨0, rfl, Nat.zero_le _, rfl, E⟩, ?_⟩
  clear E
  rintro t u1 w1 ⟨i, e, hi, ht, E⟩
  cases e
  refine Bi.lss ?_ ?_ <;> intro hlt <;> (repeat with_reducible first | refine Stp.go ?_ | (refine StpW.go E ?_; clear E; intro w_ E))
  · have g1 : i < xs.length := by omega
    have g2 : i < ys.length := by omega
    have hd : ((xs.map sb).drop (((i : Int)).toNat * 1))[0]? = some (sb xs[i]) := by
      rw [Int.toNat_natCast, Nat.mul_one, List.getElem?_drop, Nat.add_zero, List.getElem?_map, List.getElem?_eq_getElem g1]; rfl
    have hd2 : ((ys.map sb).drop (((i : Int)).toNat * 1))[0]? = some (sb ys[i]) := by
      rw [Int.toNat_natCast, Nat.mul_one, List.getElem?_drop, Nat.add_zero, List.getElem?_map, List.getElem?_eq_getElem g2]; rfl
    refine h1.ix (by omega) (by omega) (by omega) ?_
    intro a ha
    refine ha.ld E hd ?_
    refine h2.ix (by omega) (by omega) (by omega) ?_
    intro a2 ha2
    refine ha2.ld E hd2 ?_
    refine Bi.sneq ?_ ?_ <;> intro hc <;> (repeat with_reducible refine Stp.go ?_)
    · refine ⟨?_, E⟩
      rw [decide_eq_false]
      rintro rfl
      exact hc rfl
    refine Bi.add (by omega) ?_
    exact ⟨⟨i + 1, by simp, by omega, take_step ht g1 g2 (mkB_inj hc), E⟩, by simp only []; omega⟩
  · refine ⟨?_, E⟩
    rw [decide_eq_true (take_all ht hne (by omega))]
abbrev lkQid : List LK := [.int .i64, .int .i64, .int .i64]
theorem lv_Qid : lv PP 20 Ty.api_Qid = some lkQid := by kernel_rfl
theorem st_Qid : isSt PP Ty.api_Qid = true := by kernel_rfl
theorem g_Qid : PP.eqGuardType PP.depth Ty.api_Qid = false := by kernel_rfl
theorem ceq_qid (d e : Qi) : ceqL (qcs d) (qcs e) = decide (d = e) := by
  obtain ⟨a1, a2, a3⟩ := d
  obtain ⟨b1, b2, b3⟩ := e
  simp only [ceqL, ceq_int, Bool.and_true]
  rw [Bool.eq_iff_iff]
  simp only [Bool.and_eq_true, decide_eq_true_eq, Qi.mk.injEq]
theorem eqQid_ok {u v : Value} {xs ys : List Qi} (hn : xs.length ≤ 1000000000) (E : Hs w0 F w l) (h1 : RdS w0 F l 3 xs.length u (qqs xs)) (h2 : RdS w0 F l 3 ys.length v (qqs ys)) :
    Ca PP Fn.slices_Equal_sl_api_Qid_api_Qid #[u, v] w fun r w' => r = .bool (decide (xs = ys)) ∧ Hs w0 F w' l := by
  refine S.slices_Equal_sl_api_Qid_api_Qid.calls ?_
  unfold S.slices_Equal_sl_api_Qid_api_Qid
  refine h1.len ?_
  refine h2.len ?_
  refine Bi.neq ?_ ?_ <;> intro hne
  · (repeat with_reducible refine Stp.go ?_)
    refine ⟨?_, E⟩
    rw [decide_eq_false]
    rintro rfl
    exact hne rfl
  have hne : xs.length = ys.length := by omega
  (repeat with_reducible refine Stp.go ?_)
  refine h1.len ?_
  refine ⟨fun l1 w1 => ∃ i : Nat, l1 = [i64 i] ∧ i ≤ xs.length ∧ xs.take i = ys.take i ∧ Hs w0 F w1 l, fun l1 _ => match l1 with | [.int _ i] => xs.length - i.toNat | _ => 0, ⟨0, rfl, Nat.zero_le _, rfl, E⟩, ?_⟩
  clear E
  rintro t u1 w1 ⟨i, e, hi, ht, E⟩
  cases e
  refine Bi.lss ?_ ?_ <;> intro hlt <;> (repeat with_reducible first | refine Stp.go ?_ | (refine StpW.go E ?_; clear E; intro w_ E))
  · have g1 : i < xs.length := by omega
    have g2 : i < ys.length := by omega
    refine h1.ix (by omega) (by omega) (by omega) ?_
    intro a ha
    rw [Int.toNat_natCast, qqs_at g1] at ha
    refine ha.lda E (m := 3) (ds := qcs xs[i]) rfl rfl (by omega) ?_
    refine h2.ix (by omega) (by omega) (by omega) ?_
    intro a2 ha2
    rw [Int.toNat_natCast, qqs_at g2] at ha2
    refine ha2.lda E (m := 3) (ds := qcs ys[i]) rfl rfl (by omega) ?_
    refine EqS.n lv_Qid st_Qid g_Qid rfl rfl ?_
    rw [ceq_qid]
    by_cases hc : xs[i] = ys[i]
    · rw [decide_eq_true hc, Bool.not_true]
      (repeat with_reducible refine Stp.go ?_)
      refine Bi.add (by omega) ?_
      exact ⟨⟨i + 1, by simp, by omega, take_step ht g1 g2 hc, E⟩, by simp only []; omega⟩
    · rw [decide_eq_false hc, Bool.not_false]
      (repeat with_reducible refine Stp.go ?_)
      refine ⟨?_, E⟩
      rw [decide_eq_false]
      rintro rfl
      exact hc rfl
  · refine ⟨?_, E⟩
    rw [decide_eq_true (take_all ht hne (by omega))]
abbrev dqs (ds : List Di) : List Value := ds.flatMap dcs
end Go.Proofs.YtmlccboapkkcfaaDoor

/-
  The protocol: messages are compared (chapter 31's Same).
-/
namespace Go.Proofs.YtmlccboapkkcfaaDoor
open Go Go.Sh
set_option maxRecDepth 100000
set_option linter.unusedVariables false
set_option linter.unusedSimpArgs false
variable {w0 w : World} {F : Nat → Prop} {l : List As}
theorem Ms.ext' {a b : Ms} (h1 : a.kind = b.kind) (h2 : a.tag = b.tag) (h3 : a.fid = b.fid) (h4 : a.other = b.other) (h5 : a.old = b.old) (h6 : a.size = b.size) (h7 : a.off = b.off) (h8 : a.mode = b.mode) (h9 : a.perm = b.perm)
    (h10 : a.ver = b.ver) (h11 : a.user = b.user) (h12 : a.tree = b.tree) (h13 : a.name = b.name) (h14 : a.names = b.names) (h15 : a.qids = b.qids) (h16 : a.data = b.data) (h17 : a.dir = b.dir) (h18 : a.code = b.code) : a = b := by
  cases a; cases b
  simp only at *
  subst h1 h2 h3 h4 h5 h6 h7 h8 h9 h10 h11 h12 h13 h14 h15 h16 h17 h18
  rfl
theorem Same_ok {a b : Ms} {n1 q1 n2 q2 : Value} (hn : a.names.length ≤ 1000000000) (hq : a.qids.length ≤ 1000000000) (E : Hs w0 F w l)
    (h1 : RdS w0 F l 1 a.names.length n1 (a.names.map sb)) (h2 : RdS w0 F l 3 a.qids.length q1 (qqs a.qids)) (h3 : RdS w0 F l 1 b.names.length n2 (b.names.map sb)) (h4 : RdS w0 F l 3 b.qids.length q2 (qqs b.qids)) :
    Ca PP Fn.law31_Same #[.agg (MC a n1 q1).toArray, .agg (MC b n2 q2).toArray] w fun r w' => r = .bool (decide (a = b)) ∧ Hs w0 F w' l := by
  refine S.law31_Same.calls ?_
  unfold S.law31_Same
  have i1 : Scal n1 := ⟨by obtain ⟨a, c, rfl, _⟩ := h1; rfl⟩
  have i2 : Scal q1 := ⟨by obtain ⟨a, c, rfl, _⟩ := h2; rfl⟩
  have i3 : Scal n2 := ⟨by obtain ⟨a, c, rfl, _⟩ := h3; rfl⟩
  have i4 : Scal q2 := ⟨by obtain ⟨a, c, rfl, _⟩ := h4; rfl⟩
  (repeat with_reducible (refine StpA.go E ?_; clear E; intro b_ w_ hb_ E))
  (intro J5 hJ5)
  (repeat with_reducible first | refine Stp.go ?_ | refine StpE.go E ?_)
  refine (eqStr_ok hn E ((h1.cons _).cons _) ((h3.cons _).cons _)).mono ?_
  clear E
  rintro r w_ ⟨rfl, E⟩
  by_cases c0 : a.names = b.names
  rotate_left
  · rw [decide_eq_false c0]
    (repeat with_reducible first | refine Stp.go ?_ | (apply hJ5; intro u_))
    refine ⟨?_, E.tl.tl⟩
    rw [decide_eq_false (fun h => c0 (by rw [h]))]
  rw [decide_eq_true c0]
  (repeat with_reducible first | refine Stp.go ?_ | refine StpE.go E ?_)
  refine (eqQid_ok hq E ((h2.cons _).cons _) ((h4.cons _).cons _)).mono ?_
  clear E
  rintro r w_ ⟨rfl, E⟩
  by_cases c1 : a.qids = b.qids
  rotate_left
  · rw [decide_eq_false c1]
    (repeat with_reducible first | refine Stp.go ?_ | (apply hJ5; intro u_))
    refine ⟨?_, E.tl.tl⟩
    rw [decide_eq_false (fun h => c1 (by rw [h]))]
  rw [decide_eq_true c1]
  (repeat with_reducible first | refine Stp.go ?_ | (apply hJ5; intro u_))
  (intro J9 hJ9)
  (repeat with_reducible first | refine Stp.go ?_ | refine StpE.go E ?_)
  refine Bi.eql (fun ckind => ?_) (fun ckind => ?_)
  rotate_left
  · (repeat with_reducible first | refine Stp.go ?_ | (apply hJ9; intro u_))
    refine ⟨?_, E.tl.tl⟩
    rw [decide_eq_false (fun h => ckind (by rw [h]))]
  (repeat with_reducible first | refine Stp.go ?_ | refine StpE.go E ?_)
  refine Bi.eql (fun ctag => ?_) (fun ctag => ?_)
  rotate_left
  · (repeat with_reducible first | refine Stp.go ?_ | (apply hJ9; intro u_))
    refine ⟨?_, E.tl.tl⟩
    rw [decide_eq_false (fun h => ctag (by rw [h]))]
  (repeat with_reducible first | refine Stp.go ?_ | refine StpE.go E ?_)
  refine Bi.eql (fun cfid => ?_) (fun cfid => ?_)
  rotate_left
  · (repeat with_reducible first | refine Stp.go ?_ | (apply hJ9; intro u_))
    refine ⟨?_, E.tl.tl⟩
    rw [decide_eq_false (fun h => cfid (by rw [h]))]
  (repeat with_reducible first | refine Stp.go ?_ | refine StpE.go E ?_)
  refine Bi.eql (fun cother => ?_) (fun cother => ?_)
  rotate_left
  · (repeat with_reducible first | refine Stp.go ?_ | (apply hJ9; intro u_))
    refine ⟨?_, E.tl.tl⟩
    rw [decide_eq_false (fun h => cother (by rw [h]))]
  (repeat with_reducible first | refine Stp.go ?_ | refine StpE.go E ?_)
  refine Bi.eql (fun cold => ?_) (fun cold => ?_)
  rotate_left
  · (repeat with_reducible first | refine Stp.go ?_ | (apply hJ9; intro u_))
    refine ⟨?_, E.tl.tl⟩
    rw [decide_eq_false (fun h => cold (by rw [h]))]
  (repeat with_reducible first | refine Stp.go ?_ | refine StpE.go E ?_)
  refine Bi.eql (fun csize => ?_) (fun csize => ?_)
  rotate_left
  · (repeat with_reducible first | refine Stp.go ?_ | (apply hJ9; intro u_))
    refine ⟨?_, E.tl.tl⟩
    rw [decide_eq_false (fun h => csize (by rw [h]))]
  (repeat with_reducible first | refine Stp.go ?_ | refine StpE.go E ?_)
  refine Bi.eql (fun coff => ?_) (fun coff => ?_)
  rotate_left
  · (repeat with_reducible first | refine Stp.go ?_ | (apply hJ9; intro u_))
    refine ⟨?_, E.tl.tl⟩
    rw [decide_eq_false (fun h => coff (by rw [h]))]
  (repeat with_reducible first | refine Stp.go ?_ | refine StpE.go E ?_)
  refine Bi.eql (fun cmode => ?_) (fun cmode => ?_)
  rotate_left
  · (repeat with_reducible first | refine Stp.go ?_ | (apply hJ9; intro u_))
    refine ⟨?_, E.tl.tl⟩
    rw [decide_eq_false (fun h => cmode (by rw [h]))]
  (repeat with_reducible first | refine Stp.go ?_ | refine StpE.go E ?_)
  refine Bi.eql (fun cperm => ?_) (fun cperm => ?_)
  rotate_left
  · (repeat with_reducible first | refine Stp.go ?_ | (apply hJ9; intro u_))
    refine ⟨?_, E.tl.tl⟩
    rw [decide_eq_false (fun h => cperm (by rw [h]))]
  (repeat with_reducible first | refine Stp.go ?_ | refine StpE.go E ?_)
  refine Bi.seql (fun cver => ?_) (fun cver => ?_)
  rotate_left
  · (repeat with_reducible first | refine Stp.go ?_ | (apply hJ9; intro u_))
    refine ⟨?_, E.tl.tl⟩
    rw [decide_eq_false (fun h => cver (by rw [h]))]
  (repeat with_reducible first | refine Stp.go ?_ | refine StpE.go E ?_)
  refine Bi.seql (fun cuser => ?_) (fun cuser => ?_)
  rotate_left
  · (repeat with_reducible first | refine Stp.go ?_ | (apply hJ9; intro u_))
    refine ⟨?_, E.tl.tl⟩
    rw [decide_eq_false (fun h => cuser (by rw [h]))]
  (repeat with_reducible first | refine Stp.go ?_ | refine StpE.go E ?_)
  refine Bi.seql (fun ctree => ?_) (fun ctree => ?_)
  rotate_left
  · (repeat with_reducible first | refine Stp.go ?_ | (apply hJ9; intro u_))
    refine ⟨?_, E.tl.tl⟩
    rw [decide_eq_false (fun h => ctree (by rw [h]))]
  (repeat with_reducible first | refine Stp.go ?_ | refine StpE.go E ?_)
  refine Bi.seql (fun cname => ?_) (fun cname => ?_)
  rotate_left
  · (repeat with_reducible first | refine Stp.go ?_ | (apply hJ9; intro u_))
    refine ⟨?_, E.tl.tl⟩
    rw [decide_eq_false (fun h => cname (by rw [h]))]
  (repeat with_reducible first | refine Stp.go ?_ | refine StpE.go E ?_)
  refine Bi.seql (fun cdata => ?_) (fun cdata => ?_)
  rotate_left
  · (repeat with_reducible first | refine Stp.go ?_ | (apply hJ9; intro u_))
    refine ⟨?_, E.tl.tl⟩
    rw [decide_eq_false (fun h => cdata (by rw [h]))]
  (repeat with_reducible first | refine Stp.go ?_ | refine StpE.go E ?_)
  refine EqS.e (xs := dcs a.dir) (ys := dcs b.dir) lv_Dir st_Dir g_Dir rfl rfl ?_
  rw [ceq_dir]
  by_cases cdir : a.dir = b.dir
  rotate_left
  · rw [decide_eq_false cdir]
    (repeat with_reducible first | refine Stp.go ?_ | (apply hJ9; intro u_))
    refine ⟨?_, E.tl.tl⟩
    rw [decide_eq_false (fun h => cdir (by rw [h]))]
  rw [decide_eq_true cdir]
  (repeat with_reducible first | refine Stp.go ?_ | refine StpE.go E ?_)
  refine Bi.eql (fun ccode => ?_) (fun ccode => ?_)
  rotate_left
  · (repeat with_reducible first | refine Stp.go ?_ | (apply hJ9; intro u_))
    refine ⟨?_, E.tl.tl⟩
    rw [decide_eq_false (fun h => ccode (by rw [h]))]
  (repeat with_reducible first | refine Stp.go ?_ | (apply hJ9; intro u_))
  refine ⟨?_, E.tl.tl⟩
  rw [decide_eq_true]
  exact Ms.ext' ckind ctag cfid cother cold csize coff cmode cperm (mkB_inj cver) (mkB_inj cuser) (mkB_inj ctree) (mkB_inj cname) c0 c1 (mkB_inj cdata) cdir ccode
end Go.Proofs.YtmlccboapkkcfaaDoor

/-
  The protocol: the examples of the chapter (chapter 31's awake).
-/
namespace Go.Proofs.YtmlccboapkkcfaaDoor
open Go Go.Sh
set_option maxRecDepth 100000
set_option linter.unusedVariables false
set_option linter.unusedSimpArgs false
variable {w0 w : World} {F : Nat → Prop} {l : List As}
abbrev aM1 : Ms := { m0 with kind := 120, tag := 1, fid := 2 }
abbrev aM2 : Ms := { m0 with kind := 107, tag := 65535, code := 4 }
abbrev aM3 : Ms := { m0 with kind := 110, tag := 258, fid := 1, other := 2, names := [[97]] }
abbrev aS3 : List UInt8 := [20, 0, 0, 0, 110, 2, 1, 1, 0, 0, 0, 2, 0, 0, 0, 1, 0, 1, 0, 97]
theorem aw1 : enc aM1 = ([11, 0, 0, 0, 120, 1, 0, 2, 0, 0, 0], 0) := by kernel_rfl
theorem aw2 : enc aM2 = ([9, 0, 0, 0, 107, 255, 255, 4, 0], 0) := by kernel_rfl
theorem aw3 : dec aS3 = (aM3, 0) := by kernel_rfl
theorem nm_string : el3 PP Ty.string = some (some (.string ⟨#[]⟩), 1, 16) := by kernel_rfl
theorem u_names : PP.underlying Ty.sl_string = some (.slice Ty.string) := by kernel_rfl
theorem ok_lit {m : Ms} (h1 : m.qids = []) (h2 : m.dir = d0) (h3 : -9223372036854775808 ≤ m.off ∧ m.off ≤ 9223372036854775807 := by decide) : m.Ok := by
  refine ⟨h3, ?_, ?_⟩
  · rw [h1]; intro q h; cases h
  · rw [h2]; unfold Di.Ok Qi.Ok; decide
theorem mi1 : MI w0 F l aM1 nilV nilV := { ok := ok_lit (by decide) (by decide), rg := by unfold rngI; decide, kd := by decide, n1 := by decide, q1 := by decide, zn := by decide, zs := by decide, zd := by decide, rn := rds_nil, rq := rds_nil }
theorem mi2 : MI w0 F l aM2 nilV nilV := { ok := ok_lit (by decide) (by decide), rg := by unfold rngI; decide, kd := by decide, n1 := by decide, q1 := by decide, zn := by decide, zs := by decide, zd := by decide, rn := rds_nil, rq := rds_nil }
theorem awake_ok (hW : Wds w0 F) (E : Hs w0 F w l) : Ca PP Fn.law31_awake #[] w fun r w' => r = .bool true ∧ Hs w0 F w' l := by
  refine S.law31_awake.calls ?_
  unfold S.law31_awake
  (repeat with_reducible refine StpE.go E ?_)
  refine (Encode_ok hW (m := aM1) mi1 E).mono ?_
  clear E
  rintro r w_ ⟨rfl, E⟩
  rw [aw1]
  (repeat with_reducible first | refine Stp.go ?_ | refine StpE.go E ?_)
  refine (Encode_ok hW (m := aM2) mi2 E).mono ?_
  clear E
  rintro r w_ ⟨rfl, E⟩
  rw [aw2]
  (repeat with_reducible refine Stp.go ?_)
  refine (Decode_ok hW (s := aS3) (by decide) E).mono ?_
  clear E
  rintro r w_ ⟨nv, qv, X, rfl, h1, h2, E⟩
  rw [aw3] at h1 h2 ⊢
  dsimp only at h1 h2 ⊢
  have i1 : scalV nv = true := by obtain ⟨a, c, rfl, _⟩ := h1; rfl
  have i2 : scalV qv = true := by obtain ⟨a, c, rfl, _⟩ := h2; rfl
  (repeat with_reducible first | refine Stp.go ?_ | (refine StpA.go E ?_; clear E; intro b_ w_ hb_ E))
  refine StA.all (vs := MC aM3 nv qv) E rfl rfl ?_ ?_
  · simp only [List.all_cons, List.all_nil, i1, i2, Bool.and_true]
    rfl
  clear E
  intro w_ E
  skip
  (intro J18 hJ18)
  have fin : ∀ b w_, b = true → Hs w0 F w_ l → J18 [.bool b] w_ := by
    rintro b w_ rfl h
    (repeat with_reducible (apply hJ18; intro u_))
    exact ⟨rfl, h⟩
  clear hJ18
  (repeat first | (with_reducible first | refine Stp.go ?_ | refine StpE.go E ?_) | ((with_reducible refine Bi.dec true ?_ ?_); focus exact rfl) | ((with_reducible refine Bi.sdec true ?_ ?_); focus decide))
  refine BdS.one E u_names nm_string rfl ?_
  clear E
  intro v w_ E
  (repeat with_reducible first | refine Stp.go ?_ | refine StpE.go E ?_)
  have hv := RdS.sl (T := Ty.string) (v := v) (sz := 1) (xs := [sb [97]]) List.mem_cons_self (by omega) E
  refine (Same_ok (a := aM3) (b := aM3) (n1 := nv) (q1 := qv) (n2 := v) (q2 := nilV) (by decide) (by decide) E (h1.weaken fun _ E => E.tl.tl.drop (List.sublist_append_left _ _)) (h2.weaken fun _ E => E.tl.tl.drop (List.sublist_append_left _ _)) hv rds_nil).mono ?_
  clear E
  rintro r w_ ⟨rfl, E⟩
  (repeat with_reducible refine Stp.go ?_)
  refine fin _ _ (decide_eq_true rfl) (E.tl.tl.drop (List.sublist_append_right _ _))
end Go.Proofs.YtmlccboapkkcfaaDoor

/-
  The protocol: how great a message may be (chapter 31's Few).
-/
namespace Go.Proofs.YtmlccboapkkcfaaDoor
open Go Go.Sh
set_option maxRecDepth 100000
set_option linter.unusedVariables false
set_option linter.unusedSimpArgs false
variable {w0 w : World} {F : Nat → Prop} {l : List As}
def droom (d : Di) : Nat := d.name.length + d.owner.length + d.group.length + d.last.length
def msz (m : Ms) : Nat := m.ver.length + m.user.length + m.tree.length + m.name.length + m.data.length + droom m.dir
def few (m : Ms) : Bool := decide (m.names.length ≤ 40) && decide (m.qids.length ≤ 40) && decide (msz m + (m.names.map List.length).sum ≤ 20000)
/-- No text of a message is greater than this. -/
structure MB (m : Ms) : Prop where
  t : m.ver.length ≤ 140737488355328 ∧ m.user.length ≤ 140737488355328 ∧ m.tree.length ≤ 140737488355328 ∧ m.name.length ≤ 140737488355328 ∧ m.data.length ≤ 140737488355328
  d : m.dir.name.length ≤ 140737488355328 ∧ m.dir.owner.length ≤ 140737488355328 ∧ m.dir.group.length ≤ 140737488355328 ∧ m.dir.last.length ≤ 140737488355328
  n : ∀ s ∈ m.names, s.length ≤ 140737488355328
theorem room_ok {d : Di} (h : d.name.length ≤ 140737488355328 ∧ d.owner.length ≤ 140737488355328 ∧ d.group.length ≤ 140737488355328 ∧ d.last.length ≤ 140737488355328) (E : Hs w0 F w l) :
    Ca PP Fn.law31_room #[.agg (dcs d).toArray] w fun r w' => r = i64 (droom d : Nat) ∧ Hs w0 F w' l := by
  refine S.law31_room.calls ?_
  unfold S.law31_room
  (repeat with_reducible first | refine Stp.go ?_ | refine StpE.go E ?_ | (refine StpA.go E ?_; clear E; intro b_ w_ hb_ E))
  refine Bi.add (by simp only [mkB_size]; omega) ?_
  (repeat with_reducible first | refine Stp.go ?_ | refine StpE.go E ?_)
  refine Bi.add (by simp only [mkB_size]; omega) ?_
  (repeat with_reducible first | refine Stp.go ?_ | refine StpE.go E ?_)
  refine Bi.add (by simp only [mkB_size]; omega) ?_
  skip
  refine ⟨?_, E.tl⟩
  unfold droom
  simp only [mkB_size]
  congr 1
theorem take_sum {xs : List (List UInt8)} {i : Nat} (h : i < xs.length) : ((xs.take (i + 1)).map List.length).sum = ((xs.take i).map List.length).sum + xs[i].length := by
  rw [List.take_add_one, List.getElem?_eq_getElem h, List.map_append, List.sum_append]
  simp only [Option.toList, List.map_cons, List.map_nil, List.sum_cons, List.sum_nil, Nat.add_zero]
theorem take_bound {xs : List (List UInt8)} (h : ∀ s ∈ xs, s.length ≤ 140737488355328) (i : Nat) : ((xs.take i).map List.length).sum ≤ i * 140737488355328 := by
  induction xs generalizing i with
  | nil => simp
  | cons x r ih =>
    cases i with
    | zero => simp
    | succ i =>
      have h1 := ih (fun s hs => h s (List.mem_cons_of_mem _ hs)) i
      have h2 := h x List.mem_cons_self
      rw [List.take_succ_cons, List.map_cons, List.sum_cons]
      omega
theorem Few_ok {m : Ms} {nv qv : Value} (hb : MB m) (h1 : RdS w0 F l 1 m.names.length nv (m.names.map sb)) (h2 : RdS w0 F l 3 m.qids.length qv (qqs m.qids)) (E : Hs w0 F w l) :
    Ca PP Fn.law31_Few #[.agg (MC m nv qv).toArray] w fun r w' => r = .bool (few m) ∧ Hs w0 F w' l := by
  refine S.law31_Few.calls ?_
  unfold S.law31_Few
  obtain ⟨b1, b2, b3, b4, b5⟩ := hb.t
  obtain ⟨b6, b7, b8, b9⟩ := hb.d
  have i1 : Scal nv := ⟨by obtain ⟨a, c, rfl, _⟩ := h1; rfl⟩
  have i2 : Scal qv := ⟨by obtain ⟨a, c, rfl, _⟩ := h2; rfl⟩
  (repeat with_reducible first | refine Stp.go ?_ | refine StpE.go E ?_ | (refine StpW.go E ?_; clear E; intro w_ E) | (refine StpA.go E ?_; clear E; intro b_ w_ hb_ E))
  refine Bi.add (by simp only [mkB_size]; omega) ?_
  (repeat with_reducible first | refine Stp.go ?_ | refine StpE.go E ?_)
  refine Bi.add (by simp only [mkB_size]; omega) ?_
  (repeat with_reducible first | refine Stp.go ?_ | refine StpE.go E ?_)
  refine Bi.add (by simp only [mkB_size]; omega) ?_
  (repeat with_reducible first | refine Stp.go ?_ | refine StpE.go E ?_)
  refine Bi.add (by simp only [mkB_size]; omega) ?_
  (repeat with_reducible first | refine Stp.go ?_ | refine StpE.go E ?_)
  refine (room_ok (d := m.dir) ⟨b6, b7, b8, b9⟩ E).mono ?_
  clear E
  rintro r w_ ⟨rfl, E⟩
  refine ⟨?_, ?_, ?_, ?_, ?_, ?_⟩
  · (repeat with_reducible refine StpE.go E ?_)
    rfl
  · (repeat with_reducible refine StpE.go E ?_)
    rfl
  · (repeat with_reducible refine StpE.go E ?_)
    rfl
  · (repeat with_reducible refine StpE.go E ?_)
    rfl
  · (repeat with_reducible refine StpE.go E ?_)
    rfl
  have hr : droom m.dir ≤ 4 * 140737488355328 := by unfold droom; omega
  refine Bi.add (by simp only [mkB_size]; omega) ?_
  rw [show ((mkB m.ver).size : Int) + (mkB m.user).size + (mkB m.tree).size + (mkB m.name).size + (mkB m.data).size + (droom m.dir : Nat) = (msz m : Nat) by unfold msz; simp only [mkB_size]; omega]
  have hz : msz m ≤ 9 * 140737488355328 := by unfold msz; omega
  (intro J33 hJ33)
  (repeat with_reducible first | refine Stp.go ?_ | refine StpE.go E ?_)
  refine h1.len ?_
  refine Bi.gtr ?_ ?_ <;> intro c1 <;> (repeat with_reducible first | refine Stp.go ?_ | refine StpE.go E ?_ | (apply hJ33; intro u_))
  · refine ⟨?_, E.tl⟩
    unfold few
    rw [decide_eq_false (by omega : ¬ m.names.length ≤ 40)]; rfl
  refine h2.len ?_
  (repeat with_reducible refine Stp.go ?_)
  refine Bi.gtr ?_ ?_ <;> intro c2 <;> (repeat with_reducible first | refine Stp.go ?_ | refine StpE.go E ?_ | (apply hJ33; intro u_))
  · refine ⟨?_, E.tl⟩
    unfold few
    rw [decide_eq_false (by omega : ¬ m.qids.length ≤ 40), Bool.and_false]; rfl
  refine h1.len ?_
  refine ⟨fun l1 w1 => ∃ i : Nat, l1 = [i64 ((msz m + ((m.names.take i).map List.length).sum : Nat) : Int), i64 i] ∧ i ≤ m.names.length ∧ Hs w0 F w1 (pt b_ (oc (MC m nv qv) Ty.api_Msg) :: l), fun l1 _ => match l1 with | [_, .int _ i] => m.names.length - i.toNat | _ => 0, ⟨0, rfl, Nat.zero_le _, E⟩, ?_⟩
  clear E
  rintro t3 t42 u1 w1 ⟨i, e, hi, E⟩
  cases e
  refine Bi.lss ?_ ?_ <;> intro hlt <;> (repeat with_reducible refine Stp.go ?_)
  · have g1 : i < m.names.length := by omega
    have hd : ((m.names.map sb).drop (((i : Int)).toNat * 1))[0]? = some (sb m.names[i]) := by
      rw [Int.toNat_natCast, Nat.mul_one, List.getElem?_drop, Nat.add_zero, List.getElem?_map, List.getElem?_eq_getElem g1]; rfl
    refine (h1.cons (pt b_ (oc (MC m nv qv) Ty.api_Msg))).ix (by omega) (by omega) (by omega) ?_
    intro a ha
    refine ha.ld E hd ?_
    (repeat with_reducible refine Stp.go ?_)
    have hs := take_bound hb.n i
    have hx := hb.n m.names[i] (List.getElem_mem g1)
    have ht := take_sum g1
    have hi2 : i * 140737488355328 ≤ 40 * 140737488355328 := Nat.mul_le_mul_right _ (by omega)
    refine Bi.add (by simp only [mkB_size]; omega) ?_
    refine Bi.add (by omega) ?_
    refine ⟨⟨i + 1, ?_, by omega, E⟩, by simp only []; omega⟩
    rw [ht, mkB_size]
    have e1 : ((msz m + ((m.names.take i).map List.length).sum : Nat) : Int) + (m.names[i].length : Nat) = ((msz m + (((m.names.take i).map List.length).sum + m.names[i].length) : Nat) : Int) := by omega
    rw [e1]
    rfl
  · have : m.names.take i = m.names := List.take_of_length_le (by omega)
    rw [this]
    refine Bi.leq ?_ ?_ <;> intro c3
    · refine ⟨?_, E.tl⟩
      unfold few
      rw [decide_eq_true (by omega : m.names.length ≤ 40), decide_eq_true (by omega : m.qids.length ≤ 40), decide_eq_true (by omega)]; rfl
    · refine ⟨?_, E.tl⟩
      unfold few
      rw [decide_eq_true (by omega : m.names.length ≤ 40), decide_eq_true (by omega : m.qids.length ≤ 40), decide_eq_false (by omega)]; rfl
end Go.Proofs.YtmlccboapkkcfaaDoor

/-
  The protocol: what Encode returns for a valid message, Decode decodes to this message; different messages have different encodings (the laws StyxReturns and StyxApart).
-/
namespace Go.Proofs.YtmlccboapkkcfaaDoor
open Go Go.Sh
set_option maxRecDepth 100000
set_option linter.unusedVariables false
set_option linter.unusedSimpArgs false
variable {w0 w : World} {F : Nat → Prop} {l : List As}
/-- A message that is handed in. -/
structure MA (w0 : World) (F : Nat → Prop) (m : Ms) (nv qv : Value) : Prop where
  ok : m.Ok
  rg : rngI m.fid ∧ rngI m.other ∧ rngI m.old ∧ rngI m.size ∧ rngI m.mode ∧ rngI m.perm ∧ rngI m.code
  kd : -9223372036854775808 ≤ m.kind ∧ m.kind ≤ 9223372036854775807
  b : MB m
  rn : ∀ l, RdS w0 F l 1 m.names.length nv (m.names.map sb)
  rq : ∀ l, RdS w0 F l 3 m.qids.length qv (qqs m.qids)
theorem few_all {m : Ms} (h : few m = true) : m.names.length ≤ 40 ∧ m.qids.length ≤ 40 ∧ msz m ≤ 20000 := by
  unfold few at h
  simp only [Bool.and_eq_true, decide_eq_true_eq] at h
  omega
theorem MA.mi {m : Ms} {nv qv : Value} (M : MA w0 F m nv qv) (h : few m = true) (l : List As) : MI w0 F l m nv qv := by
  obtain ⟨f1, f2, f3⟩ := few_all h
  obtain ⟨d1, d2, d3, d4⟩ := M.b.d
  unfold msz droom at f3
  exact { ok := M.ok, rg := M.rg, kd := M.kd, n1 := by omega, q1 := by omega, zn := fun s hs => by have := M.b.n s hs; omega, zs := by omega, zd := by omega, rn := M.rn l, rq := M.rq l }
theorem enc_two (m : Ms) : (enc m).2 = chk m := by
  unfold enc
  split
  · rename_i h; rw [h]
  · rfl
end Go.Proofs.YtmlccboapkkcfaaDoor

/-
  The protocol: a message that is handed in.
-/
namespace Go.Sh
open Go Go.ChangeShapes Go.WideShapes
section
variable {P : Program} {H : Type} {enc : TypeId × Value → H} {W : World}
/-- A struct's parts: type, offset, cells. -/
def ftab (P : Program) (t : TypeId) : List (TypeId × Nat × Nat) := match P.underlying t with
  | some (.struct fs) => fs.toList.map fun f => (f.type, f.offset, P.cellsOf f.type)
  | _ => []
theorem ftab_struct {t : TypeId} {L : List (TypeId × Nat × Nat)} (hL : ftab P t = L) (hne : L ≠ []) : ∃ fs, P.underlying t = some (.struct fs) ∧ L = fs.toList.map fun f => (f.type, f.offset, P.cellsOf f.type) := by
  unfold ftab at hL
  split at hL
  · rename_i fs h; exact ⟨fs, h, hL.symm⟩
  · exact absurd hL.symm hne
theorem struct_parts {t : TypeId} {L : List (TypeId × Nat × Nat)} (hL : ftab P t = L) (hne : L ≠ []) {fuel : Nat} {cs : List Value} {x : DataW H × List MemPlace} (h : DataW.trod enc P W 0 (fun _ => true) true fuel t cs = some x) :
    ∃ xs : List (DataW H × List MemPlace), ∃ n, x.1 = .agg (xs.map (·.1)) ∧ cs.length = P.cellsOf t ∧ xs.length = L.length ∧ ∀ (i : Nat) T o m, L[i]? = some (T, o, m) → DataW.trod enc P W 0 (fun _ => true) true n T ((cs.drop o).take m) = xs[i]? := by
  obtain ⟨fs, hu, rfl⟩ := ftab_struct hL hne
  obtain ⟨xs, n, -, rfl, hlen, hxs, hf⟩ := DataW.trod_struct hu h
  refine ⟨xs, n, rfl, hlen, by simpa using hxs, fun i T o m hi => ?_⟩
  rw [List.getElem?_map] at hi
  obtain ⟨f, hf1, hf2⟩ := Option.map_eq_some_iff.1 hi
  cases hf2
  exact hf i f (by simpa using hf1)
theorem weightsEach_mem : ∀ {ts : List TypeId} {ds : List (DataW H)} {i : Nat} {T : TypeId} {d : DataW H} {n : Nat}, ts[i]? = some T → ds[i]? = some d → n ∈ d.weights P T → n ∈ DataW.weightsEach P ts ds
  | [], _, i, _, _, _, h, _, _ => by simp at h
  | _ :: _, [], i, _, _, _, _, h, _ => by simp at h
  | t :: ts, d :: ds, 0, T, d', n, h1, h2, h3 => by
    cases h1; cases h2
    unfold DataW.weightsEach
    exact List.mem_append_left _ h3
  | t :: ts, d :: ds, i + 1, T, d', n, h1, h2, h3 => by
    unfold DataW.weightsEach
    exact List.mem_append_right _ (weightsEach_mem (i := i) (by simpa using h1) (by simpa using h2) h3)
theorem weightsAll_mem {e : TypeId} : ∀ {ds : List (DataW H)} {d : DataW H} {n : Nat}, d ∈ ds → n ∈ d.weights P e → n ∈ DataW.weightsAll P e ds
  | d :: ds, d', n, h, h2 => by
    unfold DataW.weightsAll
    rcases List.mem_cons.1 h with rfl | h
    · exact List.mem_append_left _ h2
    · exact List.mem_append_right _ (weightsAll_mem h h2)
theorem weights_struct {t : TypeId} {L : List (TypeId × Nat × Nat)} (hL : ftab P t = L) (hne : L ≠ []) {ds : List (DataW H)} {i : Nat} {T : TypeId} {o m : Nat} {d : DataW H} {n : Nat} (hi : L[i]? = some (T, o, m)) (hd : ds[i]? = some d) (hn : n ∈ d.weights P T) :
    n ∈ (DataW.agg ds).weights P t := by
  obtain ⟨fs, hu, rfl⟩ := ftab_struct hL hne
  unfold DataW.weights
  rw [hu]
  refine weightsEach_mem (i := i) (T := T) (d := d) ?_ hd hn
  rw [List.getElem?_map] at hi ⊢
  obtain ⟨f, hf1, hf2⟩ := Option.map_eq_some_iff.1 hi
  cases hf2
  rw [hf1]; rfl
theorem weight_str {T : TypeId} {s : ByteArray} {x : DataW H × List MemPlace} (h : x = (.lit (.string s.data.toList), [])) : s.data.toList.length ∈ x.1.weights P T := by
  subst h
  unfold DataW.weights
  exact List.mem_singleton.2 rfl
theorem rdl_structs0 {d : Nat} {t e : TypeId} {ks : List LK} {v : Value} {fuel : Nat} {x : DataW H × List MemPlace} (ht : P.underlying t = some (.slice e)) (hl : lv P d e = some ks) (hc : lvC P d e = true) (hpos : 0 < ks.length)
    (hf : DataW.trod enc P W 0 (fun _ => true) true fuel t [v] = some x) : ∃ rows : List (List Value), RdlA W v ks.length rows.length rows.flatten ∧ ∀ r ∈ rows, fitWL ks r := by
  have hsz := lvC_cells hc hl
  rcases DataW.trod_slice ht hf with ⟨hcs, -⟩ | ⟨a, len, cap, elems, rest, n, -, hcs, -, -, hle, hmx, hlen, hel, -, -⟩
  · have : v = .slice none 0 0 := by simpa using hcs
    rw [this]
    exact ⟨[], ⟨none, 0, rfl, Nat.le_refl _, Nat.zero_le _, by simp, .inl rfl⟩, fun _ h => by cases h⟩
  · have : v = .slice (some a) len cap := by simpa using hcs
    rw [this]
    rw [hsz] at hel
    have each : ∀ i, ∃ r : List Value, i < len → fitWL ks r ∧ r.length = ks.length ∧ ∀ k, k < ks.length → W.cell? (a.add (i * ks.length + k)) = r[k]? := by
      intro i
      by_cases hi : i < len
      · have h1 := hel i hi
        rw [List.getElem?_eq_getElem (show i < elems.length by omega), Option.bind_eq_some_iff] at h1
        obtain ⟨r, hr, hx⟩ := h1
        obtain ⟨-, h2, h3⟩ := World.cells?_some hr
        refine ⟨r, fun _ => ⟨trod_lv d hl hc _ _ _ hx, h2, fun k hk => ?_⟩⟩
        have := h3 k hk
        have e : (a.add (i * ks.length)).add k = a.add (i * ks.length + k) := by
          generalize i * ks.length = m
          unfold Addr.add
          by_cases h1 : m = 0 <;> by_cases h2 : k = 0 <;> simp [h1, h2, Nat.add_assoc]
        rwa [e] at this
      · exact ⟨[], fun h => absurd h hi⟩
    obtain ⟨f, hfm⟩ : ∃ f : Nat → List Value, ∀ i, i < len → fitWL ks (f i) ∧ (f i).length = ks.length ∧ ∀ k, k < ks.length → W.cell? (a.add (i * ks.length + k)) = (f i)[k]? := ⟨fun i => (each i).choose, fun i hi => (each i).choose_spec hi⟩
    have hrl : ∀ r ∈ (List.range len).map f, r.length = ks.length := by
      intro r hr
      obtain ⟨i, hi, rfl⟩ := List.mem_map.1 hr
      exact (hfm i (List.mem_range.1 hi)).2.1
    refine ⟨(List.range len).map f, ⟨some a, cap, by simp, by simpa using hle, by simpa using Nat.le_trans hle hmx, flat_len hrl, ?_⟩, fun r hr => ?_⟩
    · by_cases h0 : len = 0
      · left; subst h0; rfl
      right
      have hc0 := (hfm 0 (by omega)).2.2 0 hpos
      have hl0 := (hfm 0 (by omega)).2.1
      rw [List.getElem?_eq_getElem (show 0 < (f 0).length by omega)] at hc0
      obtain ⟨ea, hb⟩ := spot_none hc0
      have e0 : a.add (0 * ks.length + 0) = a := by cases a; simp [Addr.add]
      rw [e0] at ea hb
      refine ⟨a.block, a.off, by rw [← ea], hb, fun j x hx => ?_⟩
      obtain ⟨i, k, r, h1, h2, h3, h4⟩ := flat_get hrl hx
      rw [List.getElem?_map] at h1
      obtain ⟨i', hi', rfl⟩ := Option.map_eq_some_iff.1 h1
      have hi2 := (List.getElem?_eq_some_iff.1 hi').1
      rw [List.length_range] at hi2
      have h5 : i' = i := by
        rw [List.getElem?_range (by omega)] at hi'
        exact (Option.some.inj hi').symm
      subst h5
      have := (hfm i' hi2).2.2 k h2
      rw [h4, ← h3, ea, add_mk] at this
      exact this
    · obtain ⟨i, hi, rfl⟩ := List.mem_map.1 hr
      exact (hfm i (List.mem_range.1 hi)).1

theorem strs_open {t e : TypeId} {fuel : Nat} {c : Value} {x : DataW H × List MemPlace} (ht : P.underlying t = some (.slice e)) (he : P.underlying e = some .string) (hc : P.cellsOf e = 1)
    (h : DataW.trod enc P W 0 (fun _ => true) true fuel t [c] = some x) : ∃ texts : List ByteArray, Rdl W c (texts.map Value.string) ∧ ∀ s ∈ texts, s.data.toList.length ∈ x.1.weights P t := by
  rcases open_strings ht he hc h with ⟨hcs, hx1⟩ | ⟨p, len, cap, ss, hcs, -, hl, hmx, hz, hx1, hcell, hsz⟩
  · cases hcs
    exact ⟨[], rdl_nil, fun _ h => by cases h⟩
  · cases hcs
    simp only [if_true] at hz
    subst hx1
    refine ⟨ss.take len, rdl_of hl (by simp; omega) fun j hj => ?_, fun u hu => ?_⟩
    · rw [hcell j (by omega), List.getElem?_map, List.getElem?_take, if_pos hj]
      have hjs : j < ss.length := by omega
      rw [List.getElem?_eq_getElem hjs]
      simp [List.getD, List.getElem?_eq_getElem hjs]
    · unfold DataW.weights
      rw [ht]
      refine List.mem_cons_of_mem _ (List.mem_append_left _ (weightsAll_mem (d := .lit (.string u.data.toList)) ?_ ?_))
      · exact List.mem_map_of_mem hu
      · unfold DataW.weights
        exact List.mem_singleton.2 rfl
end
end Go.Sh

/-
  The protocol: a message that is handed in, opened.
-/
namespace Go.Proofs.YtmlccboapkkcfaaDoor
open Go Go.Sh
set_option maxRecDepth 100000
set_option linter.unusedVariables false
set_option linter.unusedSimpArgs false
variable {H : Type} {enc : TypeId × Value → H} {W : World}
abbrev mtab : List (TypeId × Nat × Nat) := [(Ty.int, 0, 1), (Ty.int, 1, 1), (Ty.int, 2, 1), (Ty.int, 3, 1), (Ty.int, 4, 1), (Ty.int, 5, 1), (Ty.int64, 6, 1), (Ty.int, 7, 1), (Ty.int, 8, 1), (Ty.string, 9, 1), (Ty.string, 10, 1), (Ty.string, 11, 1), (Ty.string, 12, 1), (Ty.sl_string, 13, 1), (Ty.sl_api_Qid, 14, 1), (Ty.string, 15, 1), (Ty.api_Dir, 16, 10), (Ty.api_Errno, 26, 1)]
abbrev dtab : List (TypeId × Nat × Nat) := [(Ty.api_Qid, 0, 3), (Ty.int, 3, 1), (Ty.int64, 4, 1), (Ty.int64, 5, 1), (Ty.string, 6, 1), (Ty.string, 7, 1), (Ty.string, 8, 1), (Ty.string, 9, 1)]
theorem mtab_is : ftab PP Ty.api_Msg = mtab := by kernel_rfl
theorem dtab_is : ftab PP Ty.api_Dir = dtab := by kernel_rfl
theorem c_Msg : PP.cellsOf Ty.api_Msg = 27 := by kernel_rfl
theorem c_Dir : PP.cellsOf Ty.api_Dir = 10 := by kernel_rfl
theorem c_str : PP.cellsOf Ty.string = 1 := by kernel_rfl
theorem uu_int : PP.underlying Ty.int = some (.int .i64) := by kernel_rfl
theorem uu_int64 : PP.underlying Ty.int64 = some (.int .i64) := by kernel_rfl
theorem uu_errno : PP.underlying Ty.api_Errno = some (.int .i64) := by kernel_rfl
theorem uu_str : PP.underlying Ty.string = some .string := by kernel_rfl
theorem uu_qids : PP.underlying Ty.sl_api_Qid = some (.slice Ty.api_Qid) := by kernel_rfl
theorem lvC_Qid : lvC PP 20 Ty.api_Qid = true := by kernel_rfl
theorem wf_rng {n : Int} (h : (Lit.int .i64 n).wf = true) : rngI n := by
  unfold Lit.wf at h
  rw [Bool.and_eq_true, decide_eq_true_eq, decide_eq_true_eq] at h
  exact h
theorem qid_of {r : List Value} (h : fitWL lkQid r) : ∃ q : Qi, r = qcs q ∧ q.Ok := by
  obtain ⟨x0, r, rfl, h0, h⟩ := fitWL_cons h
  obtain ⟨x1, r, rfl, h1, h⟩ := fitWL_cons h
  obtain ⟨x2, r, rfl, h2, h⟩ := fitWL_cons h
  obtain rfl := fitWL_nil h
  obtain ⟨a, rfl, -⟩ := LK.int_of h0
  obtain ⟨b, rfl, -⟩ := LK.int_of h1
  obtain ⟨c, rfl, g2⟩ := LK.int_of h2
  exact ⟨⟨a, b, c⟩, rfl, wf_rng g2⟩
theorem qids_of {rows : List (List Value)} (h : ∀ r ∈ rows, fitWL lkQid r) : ∃ qs : List Qi, rows.flatten = qqs qs ∧ rows.length = qs.length ∧ ∀ q ∈ qs, q.Ok := by
  induction rows with
  | nil => exact ⟨[], rfl, rfl, fun _ h => by cases h⟩
  | cons r rs ih =>
    obtain ⟨q, rfl, hq⟩ := qid_of (h r List.mem_cons_self)
    obtain ⟨qs, e1, e2, e3⟩ := ih fun r hr => h r (List.mem_cons_of_mem _ hr)
    refine ⟨q :: qs, ?_, by simp [e2], ?_⟩
    · show qcs q ++ rs.flatten = qcs q ++ qqs qs
      rw [e1]
    · intro q' hq'
      rcases List.mem_cons.1 hq' with rfl | hq'
      · exact hq
      · exact e3 _ hq'
theorem sv (s : BA) : Value.string s = sb (bl s) := str_sb s
theorem open_dir {fuel : Nat} {cs : List Value} {x : DataW H × List MemPlace} (h : DataW.trod enc PP W 0 (fun _ => true) true fuel Ty.api_Dir cs = some x) :
    ∃ d : Di, cs = dcs d ∧ d.Ok ∧ ∀ s, s = d.name ∨ s = d.owner ∨ s = d.group ∨ s = d.last → s.length ∈ x.1.weights PP Ty.api_Dir := by
  obtain ⟨xs, n, hx, hlen, hxs, hf⟩ := struct_parts dtab_is (by decide) h
  rw [c_Dir] at hlen
  obtain ⟨c0, c1, c2, c3, c4, c5, c6, c7, c8, c9, rfl⟩ : ∃ c0 c1 c2 c3 c4 c5 c6 c7 c8 c9, cs = [c0, c1, c2, c3, c4, c5, c6, c7, c8, c9] := by
    match cs, hlen with
    | [c0, c1, c2, c3, c4, c5, c6, c7, c8, c9], _ => exact ⟨c0, c1, c2, c3, c4, c5, c6, c7, c8, c9, rfl⟩
  obtain ⟨x0, x1, x2, x3, x4, x5, x6, x7, rfl⟩ : ∃ x0 x1 x2 x3 x4 x5 x6 x7, xs = [x0, x1, x2, x3, x4, x5, x6, x7] := by
    match xs, hxs with
    | [x0, x1, x2, x3, x4, x5, x6, x7], _ => exact ⟨x0, x1, x2, x3, x4, x5, x6, x7, rfl⟩
  have h0 : DataW.trod enc PP W 0 (fun _ => true) true n Ty.api_Qid [c0, c1, c2] = some x0 := hf 0 _ _ _ rfl
  obtain ⟨q, eq, hq⟩ := qid_of (trod_lv 20 lv_Qid lvC_Qid _ _ _ h0)
  cases eq
  have h1 : DataW.trod enc PP W 0 (fun _ => true) true n Ty.int [c3] = some x1 := hf 1 _ _ _ rfl
  obtain ⟨n1, e1, -, w1⟩ := DataW.trod_int uu_int h1
  cases e1
  have h2 : DataW.trod enc PP W 0 (fun _ => true) true n Ty.int64 [c4] = some x2 := hf 2 _ _ _ rfl
  obtain ⟨n2, e2, -, w2⟩ := DataW.trod_int uu_int64 h2
  cases e2
  have h3 : DataW.trod enc PP W 0 (fun _ => true) true n Ty.int64 [c5] = some x3 := hf 3 _ _ _ rfl
  obtain ⟨n3, e3, -, w3⟩ := DataW.trod_int uu_int64 h3
  cases e3
  have h4 : DataW.trod enc PP W 0 (fun _ => true) true n Ty.string [c6] = some x4 := hf 4 _ _ _ rfl
  obtain ⟨s4, e4, y4, -⟩ := DataW.trod_string uu_str h4
  cases e4
  have h5 : DataW.trod enc PP W 0 (fun _ => true) true n Ty.string [c7] = some x5 := hf 5 _ _ _ rfl
  obtain ⟨s5, e5, y5, -⟩ := DataW.trod_string uu_str h5
  cases e5
  have h6 : DataW.trod enc PP W 0 (fun _ => true) true n Ty.string [c8] = some x6 := hf 6 _ _ _ rfl
  obtain ⟨s6, e6, y6, -⟩ := DataW.trod_string uu_str h6
  cases e6
  have h7 : DataW.trod enc PP W 0 (fun _ => true) true n Ty.string [c9] = some x7 := hf 7 _ _ _ rfl
  obtain ⟨s7, e7, y7, -⟩ := DataW.trod_string uu_str h7
  cases e7
  refine ⟨⟨q, n1, n2, n3, bl s4, bl s5, bl s6, bl s7⟩, ?_, ⟨hq, wf_rng w2, wf_rng w3⟩, ?_⟩
  · rw [sv s4, sv s5, sv s6, sv s7]
  · rw [hx]
    rintro s (rfl | rfl | rfl | rfl)
    · exact weights_struct dtab_is (by decide) (i := 4) rfl rfl (weight_str y4)
    · exact weights_struct dtab_is (by decide) (i := 5) rfl rfl (weight_str y5)
    · exact weights_struct dtab_is (by decide) (i := 6) rfl rfl (weight_str y6)
    · exact weights_struct dtab_is (by decide) (i := 7) rfl rfl (weight_str y7)
theorem open_msg {v : Value} {d : DataW H} {ps : List MemPlace} (hs : ∃ cs : Array Value, v = .agg cs) (h : DataW.Trod enc PP W 0 (fun _ => true) true Ty.api_Msg v d ps) (hw : ∀ n ∈ d.weights PP Ty.api_Msg, n ≤ reachBytes) :
    ∃ m nv qv, v = .agg (MC m nv qv).toArray ∧ MA W Emp m nv qv := by
  obtain ⟨cs0, rfl⟩ := hs
  obtain ⟨fuel, h⟩ := h
  have h : DataW.trod enc PP W 0 (fun _ => true) true fuel Ty.api_Msg cs0.toList = some (d, ps) := h
  obtain ⟨xs, n, hx, hlen, hxs, hf⟩ := struct_parts mtab_is (by decide) h
  rw [c_Msg] at hlen
  obtain ⟨cs, hcs⟩ : ∃ cs, cs0.toList = cs := ⟨_, rfl⟩
  rw [hcs] at hlen hf
  obtain ⟨c0, c1, c2, c3, c4, c5, c6, c7, c8, c9, c10, c11, c12, c13, c14, c15, c16, c17, c18, c19, c20, c21, c22, c23, c24, c25, c26, rfl⟩ : ∃ c0 c1 c2 c3 c4 c5 c6 c7 c8 c9 c10 c11 c12 c13 c14 c15 c16 c17 c18 c19 c20 c21 c22 c23 c24 c25 c26, cs = [c0, c1, c2, c3, c4, c5, c6, c7, c8, c9, c10, c11, c12, c13, c14, c15, c16, c17, c18, c19, c20, c21, c22, c23, c24, c25, c26] := by
    match cs, hlen with
    | [c0, c1, c2, c3, c4, c5, c6, c7, c8, c9, c10, c11, c12, c13, c14, c15, c16, c17, c18, c19, c20, c21, c22, c23, c24, c25, c26], _ => exact ⟨c0, c1, c2, c3, c4, c5, c6, c7, c8, c9, c10, c11, c12, c13, c14, c15, c16, c17, c18, c19, c20, c21, c22, c23, c24, c25, c26, rfl⟩
  obtain ⟨x0, x1, x2, x3, x4, x5, x6, x7, x8, x9, x10, x11, x12, x13, x14, x15, x16, x17, rfl⟩ : ∃ x0 x1 x2 x3 x4 x5 x6 x7 x8 x9 x10 x11 x12 x13 x14 x15 x16 x17, xs = [x0, x1, x2, x3, x4, x5, x6, x7, x8, x9, x10, x11, x12, x13, x14, x15, x16, x17] := by
    match xs, hxs with
    | [x0, x1, x2, x3, x4, x5, x6, x7, x8, x9, x10, x11, x12, x13, x14, x15, x16, x17], _ => exact ⟨x0, x1, x2, x3, x4, x5, x6, x7, x8, x9, x10, x11, x12, x13, x14, x15, x16, x17, rfl⟩
  have hd : d = .agg [x0.1, x1.1, x2.1, x3.1, x4.1, x5.1, x6.1, x7.1, x8.1, x9.1, x10.1, x11.1, x12.1, x13.1, x14.1, x15.1, x16.1, x17.1] := hx
  subst hd
  have wt : ∀ {i : Nat} {T : TypeId} {o m : Nat} {e : DataW H} {n : Nat}, mtab[i]? = some (T, o, m) → [x0.1, x1.1, x2.1, x3.1, x4.1, x5.1, x6.1, x7.1, x8.1, x9.1, x10.1, x11.1, x12.1, x13.1, x14.1, x15.1, x16.1, x17.1][i]? = some e → n ∈ e.weights PP T → n ≤ 140737488355328 := by
    intro i T o m e n h1 h2 h3
    have := hw n (weights_struct mtab_is (by decide) h1 h2 h3)
    unfold reachBytes at this
    omega
  have h0 : DataW.trod enc PP W 0 (fun _ => true) true n Ty.int [c0] = some x0 := hf 0 _ _ _ rfl
  obtain ⟨n0, e0, -, w0⟩ := DataW.trod_int uu_int h0
  cases e0
  have h1 : DataW.trod enc PP W 0 (fun _ => true) true n Ty.int [c1] = some x1 := hf 1 _ _ _ rfl
  obtain ⟨n1, e1, -, w1⟩ := DataW.trod_int uu_int h1
  cases e1
  have h2 : DataW.trod enc PP W 0 (fun _ => true) true n Ty.int [c2] = some x2 := hf 2 _ _ _ rfl
  obtain ⟨n2, e2, -, w2⟩ := DataW.trod_int uu_int h2
  cases e2
  have h3 : DataW.trod enc PP W 0 (fun _ => true) true n Ty.int [c3] = some x3 := hf 3 _ _ _ rfl
  obtain ⟨n3, e3, -, w3⟩ := DataW.trod_int uu_int h3
  cases e3
  have h4 : DataW.trod enc PP W 0 (fun _ => true) true n Ty.int [c4] = some x4 := hf 4 _ _ _ rfl
  obtain ⟨n4, e4, -, w4⟩ := DataW.trod_int uu_int h4
  cases e4
  have h5 : DataW.trod enc PP W 0 (fun _ => true) true n Ty.int [c5] = some x5 := hf 5 _ _ _ rfl
  obtain ⟨n5, e5, -, w5⟩ := DataW.trod_int uu_int h5
  cases e5
  have h6 : DataW.trod enc PP W 0 (fun _ => true) true n Ty.int64 [c6] = some x6 := hf 6 _ _ _ rfl
  obtain ⟨n6, e6, -, w6⟩ := DataW.trod_int uu_int64 h6
  cases e6
  have h7 : DataW.trod enc PP W 0 (fun _ => true) true n Ty.int [c7] = some x7 := hf 7 _ _ _ rfl
  obtain ⟨n7, e7, -, w7⟩ := DataW.trod_int uu_int h7
  cases e7
  have h8 : DataW.trod enc PP W 0 (fun _ => true) true n Ty.int [c8] = some x8 := hf 8 _ _ _ rfl
  obtain ⟨n8, e8, -, w8⟩ := DataW.trod_int uu_int h8
  cases e8
  have h9 : DataW.trod enc PP W 0 (fun _ => true) true n Ty.string [c9] = some x9 := hf 9 _ _ _ rfl
  obtain ⟨s9, e9, y9, -⟩ := DataW.trod_string uu_str h9
  cases e9
  have h10 : DataW.trod enc PP W 0 (fun _ => true) true n Ty.string [c10] = some x10 := hf 10 _ _ _ rfl
  obtain ⟨s10, e10, y10, -⟩ := DataW.trod_string uu_str h10
  cases e10
  have h11 : DataW.trod enc PP W 0 (fun _ => true) true n Ty.string [c11] = some x11 := hf 11 _ _ _ rfl
  obtain ⟨s11, e11, y11, -⟩ := DataW.trod_string uu_str h11
  cases e11
  have h12 : DataW.trod enc PP W 0 (fun _ => true) true n Ty.string [c12] = some x12 := hf 12 _ _ _ rfl
  obtain ⟨s12, e12, y12, -⟩ := DataW.trod_string uu_str h12
  cases e12
  have h15 : DataW.trod enc PP W 0 (fun _ => true) true n Ty.string [c15] = some x15 := hf 15 _ _ _ rfl
  obtain ⟨s15, e15, y15, -⟩ := DataW.trod_string uu_str h15
  cases e15
  have h17 : DataW.trod enc PP W 0 (fun _ => true) true n Ty.api_Errno [c26] = some x17 := hf 17 _ _ _ rfl
  obtain ⟨n17, e17, -, w17⟩ := DataW.trod_int uu_errno h17
  cases e17
  have h13 : DataW.trod enc PP W 0 (fun _ => true) true n Ty.sl_string [c13] = some x13 := hf 13 _ _ _ rfl
  obtain ⟨tx, hR, hT⟩ := strs_open u_names uu_str c_str h13
  have h14 : DataW.trod enc PP W 0 (fun _ => true) true n Ty.sl_api_Qid [c14] = some x14 := hf 14 _ _ _ rfl
  obtain ⟨rows, hQ, hfit⟩ := rdl_structs0 uu_qids lv_Qid lvC_Qid (by decide) h14
  obtain ⟨qs, e1, e2, e3⟩ := qids_of hfit
  rw [e1, e2] at hQ
  have h16 : DataW.trod enc PP W 0 (fun _ => true) true n Ty.api_Dir [c16, c17, c18, c19, c20, c21, c22, c23, c24, c25] = some x16 := hf 16 _ _ _ rfl
  obtain ⟨di, ed, hdo, hdw⟩ := open_dir h16
  cases ed
  refine ⟨⟨n0, n1, n2, n3, n4, n5, n6, n7, n8, bl s9, bl s10, bl s11, bl s12, tx.map bl, qs, bl s15, di, n17⟩, c13, c14, ?_, ?_⟩
  · have e : cs0.toList = MC ⟨n0, n1, n2, n3, n4, n5, n6, n7, n8, bl s9, bl s10, bl s11, bl s12, tx.map bl, qs, bl s15, di, n17⟩ c13 c14 := by
      rw [hcs, sv s9, sv s10, sv s11, sv s12, sv s15]
    rw [← e]
  · have hnm : (tx.map bl).map sb = tx.map Value.string := by
      rw [List.map_map]
      apply List.map_congr_left
      intro s _
      exact (str_sb s).symm
    exact {
      ok := ⟨wf_rng w6, e3, hdo⟩
      rg := ⟨wf_rng w2, wf_rng w3, wf_rng w4, wf_rng w5, wf_rng w7, wf_rng w8, wf_rng w17⟩
      kd := wf_rng w0
      b := { t := ⟨wt (i := 9) rfl rfl (weight_str y9), wt (i := 10) rfl rfl (weight_str y10), wt (i := 11) rfl rfl (weight_str y11), wt (i := 12) rfl rfl (weight_str y12), wt (i := 15) rfl rfl (weight_str y15)⟩
             d := ⟨wt (i := 16) rfl rfl (hdw _ (.inl rfl)), wt (i := 16) rfl rfl (hdw _ (.inr (.inl rfl))), wt (i := 16) rfl rfl (hdw _ (.inr (.inr (.inl rfl)))), wt (i := 16) rfl rfl (hdw _ (.inr (.inr (.inr rfl))))⟩
             n := fun s hs => by
               obtain ⟨t, ht, rfl⟩ := List.mem_map.1 hs
               exact wt (i := 13) rfl rfl (hT t ht) }
      rn := fun l => by
        have := RdS.old (l := l) hR fun b (h : Emp b) => h
        rw [List.length_map] at this
        show RdS W Emp l 1 (tx.map bl).length c13 ((tx.map bl).map sb)
        rw [hnm, List.length_map]
        exact this
      rq := fun l => RdS.oldA hQ fun b h => h }
end Go.Proofs.YtmlccboapkkcfaaDoor

/-
  The protocol's reference: the fields of a kind, requests, answers and words.
-/
namespace Go.Proofs.YtmlccboapkkcfaaDoor
open Go Go.Sh
set_option maxRecDepth 100000
set_option linter.unusedVariables false
set_option linter.unusedSimpArgs false
variable {w0 w : World} {F : Nat → Prop} {l : List As}
/-- The letter of a field. -/
def ltr : Fl → UInt8
  | .xS => 83 | .xv => 118 | .xf => 102 | .xu => 117 | .xt => 116 | .xq => 113 | .xo => 111 | .xc => 99 | .xd => 100 | .xn => 110 | .xQ => 81 | .xm => 109 | .xN => 78 | .xp => 112 | .xO => 79 | .xD => 68 | .xi => 105
def rf (k : Int) : List UInt8 × Bool := match fls k with
  | some l => (l.map ltr, true)
  | none => ([], false)
theorem rFields_ok {k : Int} (E : Hs w0 F w l) : Ca PP Fn.r31_Fields #[i64 k] w fun r w' => r = .tuple #[sb (rf k).1, .bool (rf k).2] ∧ Hs w0 F w' l := by
  refine S.r31_Fields.calls ?_
  unfold S.r31_Fields
  (intro J1 hJ1)
  refine Bi.eql (fun c => ?_) (fun c100 => ?_)
  · subst c
    (repeat with_reducible first | refine Stp.go ?_ | (apply hJ1; intro u_))
    exact ⟨rfl, E⟩
  (repeat with_reducible refine Stp.go ?_)
  refine Bi.eql (fun c => ?_) (fun c101 => ?_)
  · subst c
    (repeat with_reducible first | refine Stp.go ?_ | (apply hJ1; intro u_))
    exact ⟨rfl, E⟩
  (repeat with_reducible first | refine Stp.go ?_ | (apply hJ1; intro u_))
  refine Bi.eql (fun c => ?_) (fun c102 => ?_)
  · subst c
    (repeat with_reducible refine Stp.go ?_)
    exact ⟨rfl, E⟩
  (repeat with_reducible refine Stp.go ?_)
  (intro J6 hJ6)
  refine Bi.eql (fun c => ?_) (fun c103 => ?_)
  · subst c
    (repeat with_reducible first | refine Stp.go ?_ | (apply hJ6; intro u_))
    exact ⟨rfl, E⟩
  (repeat with_reducible refine Stp.go ?_)
  refine Bi.eql (fun c => ?_) (fun c105 => ?_)
  · subst c
    (repeat with_reducible first | refine Stp.go ?_ | (apply hJ6; intro u_))
    exact ⟨rfl, E⟩
  (repeat with_reducible first | refine Stp.go ?_ | (apply hJ6; intro u_))
  refine Bi.eql (fun c => ?_) (fun c104 => ?_)
  · subst c
    (repeat with_reducible refine Stp.go ?_)
    exact ⟨rfl, E⟩
  (repeat with_reducible refine Stp.go ?_)
  refine Bi.eql (fun c => ?_) (fun c107 => ?_)
  · subst c
    (repeat with_reducible refine Stp.go ?_)
    exact ⟨rfl, E⟩
  (repeat with_reducible refine Stp.go ?_)
  refine Bi.eql (fun c => ?_) (fun c108 => ?_)
  · subst c
    (repeat with_reducible refine Stp.go ?_)
    exact ⟨rfl, E⟩
  (repeat with_reducible refine Stp.go ?_)
  refine Bi.eql (fun c => ?_) (fun c110 => ?_)
  · subst c
    (repeat with_reducible refine Stp.go ?_)
    exact ⟨rfl, E⟩
  (repeat with_reducible refine Stp.go ?_)
  refine Bi.eql (fun c => ?_) (fun c111 => ?_)
  · subst c
    (repeat with_reducible refine Stp.go ?_)
    exact ⟨rfl, E⟩
  (repeat with_reducible refine Stp.go ?_)
  refine Bi.eql (fun c => ?_) (fun c112 => ?_)
  · subst c
    (repeat with_reducible refine Stp.go ?_)
    exact ⟨rfl, E⟩
  (repeat with_reducible refine Stp.go ?_)
  (intro J16 hJ16)
  refine Bi.eql (fun c => ?_) (fun c113 => ?_)
  · subst c
    (repeat with_reducible first | refine Stp.go ?_ | (apply hJ16; intro u_))
    exact ⟨rfl, E⟩
  (repeat with_reducible refine Stp.go ?_)
  refine Bi.eql (fun c => ?_) (fun c115 => ?_)
  · subst c
    (repeat with_reducible first | refine Stp.go ?_ | (apply hJ16; intro u_))
    exact ⟨rfl, E⟩
  (repeat with_reducible first | refine Stp.go ?_ | (apply hJ16; intro u_))
  refine Bi.eql (fun c => ?_) (fun c114 => ?_)
  · subst c
    (repeat with_reducible refine Stp.go ?_)
    exact ⟨rfl, E⟩
  (repeat with_reducible refine Stp.go ?_)
  refine Bi.eql (fun c => ?_) (fun c116 => ?_)
  · subst c
    (repeat with_reducible refine Stp.go ?_)
    exact ⟨rfl, E⟩
  (repeat with_reducible refine Stp.go ?_)
  refine Bi.eql (fun c => ?_) (fun c117 => ?_)
  · subst c
    (repeat with_reducible refine Stp.go ?_)
    exact ⟨rfl, E⟩
  (repeat with_reducible refine Stp.go ?_)
  refine Bi.eql (fun c => ?_) (fun c118 => ?_)
  · subst c
    (repeat with_reducible refine Stp.go ?_)
    exact ⟨rfl, E⟩
  (repeat with_reducible refine Stp.go ?_)
  refine Bi.eql (fun c => ?_) (fun c119 => ?_)
  · subst c
    (repeat with_reducible refine Stp.go ?_)
    exact ⟨rfl, E⟩
  (repeat with_reducible refine Stp.go ?_)
  (intro J25 hJ25)
  refine Bi.eql (fun c => ?_) (fun c120 => ?_)
  · subst c
    (repeat with_reducible first | refine Stp.go ?_ | (apply hJ25; intro u_))
    exact ⟨rfl, E⟩
  (repeat with_reducible refine Stp.go ?_)
  refine Bi.eql (fun c => ?_) (fun c122 => ?_)
  · subst c
    (repeat with_reducible first | refine Stp.go ?_ | (apply hJ25; intro u_))
    exact ⟨rfl, E⟩
  (repeat with_reducible refine Stp.go ?_)
  refine Bi.eql (fun c => ?_) (fun c124 => ?_)
  · subst c
    (repeat with_reducible first | refine Stp.go ?_ | (apply hJ25; intro u_))
    exact ⟨rfl, E⟩
  (repeat with_reducible first | refine Stp.go ?_ | (apply hJ25; intro u_))
  refine Bi.eql (fun c => ?_) (fun c125 => ?_)
  · subst c
    (repeat with_reducible refine Stp.go ?_)
    exact ⟨rfl, E⟩
  (repeat with_reducible refine Stp.go ?_)
  refine Bi.eql (fun c => ?_) (fun c126 => ?_)
  · subst c
    (repeat with_reducible refine Stp.go ?_)
    exact ⟨rfl, E⟩
  (repeat with_reducible refine Stp.go ?_)
  (intro J31 hJ31)
  refine Bi.eql (fun c => ?_) (fun c109 => ?_)
  · subst c
    (repeat with_reducible first | refine Stp.go ?_ | (apply hJ31; intro u_))
    exact ⟨rfl, E⟩
  (repeat with_reducible refine Stp.go ?_)
  refine Bi.eql (fun c => ?_) (fun c121 => ?_)
  · subst c
    (repeat with_reducible first | refine Stp.go ?_ | (apply hJ31; intro u_))
    exact ⟨rfl, E⟩
  (repeat with_reducible refine Stp.go ?_)
  refine Bi.eql (fun c => ?_) (fun c123 => ?_)
  · subst c
    (repeat with_reducible first | refine Stp.go ?_ | (apply hJ31; intro u_))
    exact ⟨rfl, E⟩
  (repeat with_reducible refine Stp.go ?_)
  refine Bi.eql (fun c => ?_) (fun c127 => ?_)
  · subst c
    (repeat with_reducible first | refine Stp.go ?_ | (apply hJ31; intro u_))
    exact ⟨rfl, E⟩
  (repeat with_reducible first | refine Stp.go ?_ | (apply hJ31; intro u_))
  have : fls k = none := by
    cases h : fls k with
    | none => rfl
    | some l => 
      exfalso
      have := fls_cases h
      omega
  unfold rf
  rw [this]
  exact ⟨rfl, E⟩
def rwl : List (List UInt8) := [[118, 101, 114, 115, 105, 111, 110], [97, 117, 116, 104], [97, 116, 116, 97, 99, 104], [], [102, 108, 117, 115, 104], [119, 97, 108, 107], [111, 112, 101, 110], [99, 114, 101, 97, 116, 101], [114, 101, 97, 100], [119, 114, 105, 116, 101], [99, 108, 117, 110, 107], [114, 101, 109, 111, 118, 101], [115, 116, 97, 116], [119, 115, 116, 97, 116]]
end Go.Proofs.YtmlccboapkkcfaaDoor

/-
  The protocol: Frames.
-/
namespace Go.Proofs.YtmlccboapkkcfaaDoor
open Go Go.Sh
set_option maxRecDepth 100000
set_option linter.unusedVariables false
set_option linter.unusedSimpArgs false
variable {w0 w : World} {F : Nat → Prop} {l : List As}
/-- What frames of a rest are behind these. -/
def frW (done : List (List UInt8)) (x : List (List UInt8) × List UInt8 × Int) : List (List UInt8) × List UInt8 × Int := if x.2.2 = 0 then (done ++ x.1, x.2.1, 0) else ([], [], x.2.2)
end Go.Proofs.YtmlccboapkkcfaaDoor

/-
  The protocol's reference: the number that bytes are; Frames.
-/
namespace Go.Proofs.YtmlccboapkkcfaaDoor
open Go Go.Sh
set_option maxRecDepth 100000
set_option linter.unusedVariables false
set_option linter.unusedSimpArgs false
variable {w0 w : World} {F : Nat → Prop} {l : List As}
theorem BdS.nul {P : Program} {t e : TypeId} {sz : Nat} {k : Value → World → Prop} (E : Hs w0 F w l) (h1 : P.underlying t = some (.slice e)) (h2 : sizeK P e = some sz)
    (hk : ∀ v w', Hs w0 F w' (slA v e sz [] :: l) → k v w') : Ef P (Instr.buildSlice t 0 #[]) w k := by
  refine ⟨.slice (some ⟨w.heap.size, 0, none⟩) 0 0, w.alloc (.cells #[] e), ?_, hk _ _ (E.add (Upd.alloc w _) ⟨.inr ⟨w.heap.size, 0, 0, 0, [], [], (0, 0), rfl, ?_, rfl, by simp, by simp, Nat.le_refl _, Free.zero _⟩⟩ fun b hb => ?_)⟩
  · have hr : Array.range 0 = #[] := rfl
    simp [Instr.buildSlice, run_underlying h1, run_sizeK h2, Instr.fill, newRow, run_newObj', hr]
  · rw [heap_alloc_new]; simp [ocf]
  · have hb : some w.heap.size = some b := hb
    cases hb; exact Nat.le_refl _
end Go.Proofs.YtmlccboapkkcfaaDoor

/-
  The protocol: the Dir at the beginning of a text.
-/
namespace Go.Proofs.YtmlccboapkkcfaaDoor
open Go Go.Sh
set_option maxRecDepth 100000
set_option linter.unusedVariables false
set_option linter.unusedSimpArgs false
variable {w0 w : World} {F : Nat → Prop} {l : List As}
end Go.Proofs.YtmlccboapkkcfaaDoor

/-
  The protocol: the Dirs of a text.
-/
namespace Go.Proofs.YtmlccboapkkcfaaDoor
open Go Go.Sh
set_option maxRecDepth 100000
set_option linter.unusedVariables false
set_option linter.unusedSimpArgs false
variable {w0 w : World} {F : Nat → Prop} {l : List As}
def drW (done : List Di) (x : List Di × Int) : List Di × Int := if x.2 = 0 then (done ++ x.1, 0) else ([], x.2)
end Go.Proofs.YtmlccboapkkcfaaDoor

/-
  The protocol: Entries.
-/
namespace Go.Proofs.YtmlccboapkkcfaaDoor
open Go Go.Sh
set_option maxRecDepth 100000
set_option linter.unusedVariables false
set_option linter.unusedSimpArgs false
variable {w0 w : World} {F : Nat → Prop} {l : List As}
def bigQ (count : Int) : List (List UInt8) → Bool
  | [] => false
  | y :: _ => decide ((y.length : Int) > count)
def entR (count : Int) (Q : List (List UInt8)) : List UInt8 × Int := if bigQ count Q then ([], 3) else (tkn count [] Q, 0)
def entW (count : Int) (x : Int × List (List UInt8)) : List UInt8 × Int := if count < 0 ∨ x.1 ≠ 0 then ([], 11) else entR count x.2
end Go.Proofs.YtmlccboapkkcfaaDoor

/-
  The protocol: whether one of some Dirs is as a function says; how great they may be (chapter 31's fewDirs).
-/
namespace Go.Proofs.YtmlccboapkkcfaaDoor
open Go Go.Sh
set_option maxRecDepth 100000
set_option linter.unusedVariables false
set_option linter.unusedSimpArgs false
variable {w0 w : World} {F : Nat → Prop} {l : List As}
/-- No text of a Dir is greater than this. -/
def DB (d : Di) : Prop := d.name.length ≤ 140737488355328 ∧ d.owner.length ≤ 140737488355328 ∧ d.group.length ≤ 140737488355328 ∧ d.last.length ≤ 140737488355328
def fewD (xs : List Di) : Bool := decide (xs.length ≤ 20) && !xs.any fun d => decide (droom d > 3000)
end Go.Proofs.YtmlccboapkkcfaaDoor

/-
  The protocol's reference: numbers, words, qids, Dirs; whether a letter is in a text; ranges.
-/
namespace Go.Proofs.YtmlccboapkkcfaaDoor
open Go Go.Sh
set_option maxRecDepth 100000
set_option linter.unusedVariables false
set_option linter.unusedSimpArgs false
variable {w0 w : World} {F : Nat → Prop} {l : List As}
theorem ltr_inj {a b : Fl} (h : ltr a = ltr b) : a = b := by cases a <;> cases b <;> first | rfl | (exact absurd h (by decide))
theorem has_ok {fl : List Fl} (f : Fl) {n : Int} (hn : n = (ltr f).toNat) (hl : fl.length ≤ 1000) (E : Hs w0 F w l) : Ca PP Fn.r31_has #[sb (fl.map ltr), .int .u8 n] w fun r w' => r = .bool (fl.contains f) ∧ Hs w0 F w' l := by
  subst hn
  refine S.r31_has.calls ?_
  unfold S.r31_has
  refine ⟨fun l1 w1 => ∃ i : Nat, l1 = [i64 i] ∧ i ≤ fl.length ∧ f ∉ fl.take i ∧ Hs w0 F w1 l, fun l1 _ => match l1 with | [.int _ i] => fl.length - i.toNat | _ => 0, ⟨0, rfl, Nat.zero_le _, by simp, E⟩, ?_⟩
  clear E
  rintro t u1 w1 ⟨i, e, hi, hf, E⟩
  cases e
  (repeat with_reducible refine Stp.go ?_)
  rw [mkB_size, List.length_map]
  refine Bi.lss ?_ ?_ <;> intro hlt <;> (repeat with_reducible refine Stp.go ?_)
  · have g1 : i < fl.length := by omega
    refine IxS.mk (b := ltr fl[i]) (by omega) (by rw [Int.toNat_natCast]; show (fl.map ltr).toArray[i]? = _; rw [List.getElem?_toArray, List.getElem?_map, List.getElem?_eq_getElem g1]; rfl) ?_
    refine Bi.eql ?_ ?_ <;> intro c <;> (repeat with_reducible refine Stp.go ?_)
    · have h2 : fl[i] = f := ltr_inj (UInt8.toNat_inj.1 (by omega))
      refine ⟨?_, E⟩
      rw [List.contains_iff_mem.2 (h2 ▸ List.getElem_mem g1)]
    · refine Bi.add (by omega) ?_
      refine ⟨⟨i + 1, rfl, by omega, ?_, E⟩, by simp only []; omega⟩
      rw [List.take_add_one, List.getElem?_eq_getElem g1, List.mem_append]
      rintro (h | h)
      · exact hf h
      · have : f = fl[i] := by simpa using h
        exact c (by rw [this])
  · refine ⟨?_, E⟩
    rw [List.take_of_length_le (by omega)] at hf
    have : fl.contains f = false := by
      cases h : fl.contains f with
      | false => rfl
      | true => exact absurd (List.contains_iff_mem.1 h) hf
    rw [this]
theorem byte_at (n : Int) {i : Nat} (hi : i < 8) : (n % 18446744073709551616) / (256 ^ i : Nat) % 256 = n / (256 ^ i : Nat) % 256 := by
  have : i = 0 ∨ i = 1 ∨ i = 2 ∨ i = 3 ∨ i = 4 ∨ i = 5 ∨ i = 6 ∨ i = 7 := by omega
  rcases this with rfl | rfl | rfl | rfl | rfl | rfl | rfl | rfl <;> simp only [Nat.reducePow, Int.cast_ofNat_Int] <;> omega
theorem shr8 {n : Int} {k : Value → Prop} (hn : 0 ≤ n ∧ n < 18446744073709551616) (hk : k (.int .u64 (n / 256))) : Bi .shr (.int .u64 n) (.int .u64 8) k := by
  refine Bi.mk (v := .int .u64 (n / 256)) ?_ hk
  have h1 : min (8 : Int).toNat (IntKind.bits .u64) = 8 := by decide
  simp only [binV]
  rw [if_neg (by omega), h1]
  have h2 : (2 : Int) ^ 8 = 256 := by decide
  rw [h2, Int.fdiv_eq_ediv_of_nonneg _ (by omega)]
theorem div_step (m : Int) (i : Nat) : m / (256 ^ i : Nat) / 256 = m / (256 ^ (i + 1) : Nat) := by
  rw [Int.ediv_ediv_of_nonneg (Int.natCast_nonneg _), Nat.pow_succ]
  congr 1
theorem rnumber_ok {n : Int} {k : Nat} (hk : k ≤ 8) (E : Hs w0 F w l) : Ca PP Fn.r31_number #[i64 n, i64 k] w fun r w' => r = sb (le n k) ∧ Hs w0 F w' l := by
  refine S.r31_number.calls ?_
  unfold S.r31_number
  refine BdS.nul (sz := 1) E u_sl_uint8 (by kernel_rfl) ?_
  clear E
  intro v0 w_ E
  refine Cv.mk ?_
  rw [show IntKind.u64.wrap n = n % 18446744073709551616 from rfl]
  refine ⟨fun l1 w1 => ∃ (i : Nat) (v : Value), l1 = [v, .int .u64 ((n % 18446744073709551616) / (256 ^ i : Nat)), i64 i] ∧ i ≤ k ∧ Hs w0 F w1 (bsA v (le n i) :: l), fun l1 _ => match l1 with | [_, _, .int _ i] => k - i.toNat | _ => 0, ⟨0, v0, ?_, Nat.zero_le _, E⟩, ?_⟩
  · simp
  clear E
  rintro t5 t6 t7 u1 w1 ⟨i, v, e, hi, E⟩
  cases e
  have h0 : 0 ≤ (n % 18446744073709551616) / (256 ^ i : Nat) := Int.ediv_nonneg (by omega) (Int.natCast_nonneg _)
  have h1 : (n % 18446744073709551616) / (256 ^ i : Nat) < 18446744073709551616 := Int.lt_of_le_of_lt (Int.ediv_le_self _ (by omega)) (by omega)
  refine Bi.lss ?_ ?_ <;> intro hlt <;> (repeat with_reducible refine Stp.go ?_)
  · refine Cv.mk ?_
    rw [u8_wrap, byte_at n (by omega)]
    refine BdS.one E u_sl_uint8 e_uint8 rfl ?_
    clear E
    intro v2 w_ E
    have hb1 : ([Value.int .u8 (UInt8.ofNat (n / (256 ^ i : Nat) % 256).toNat).toNat] : List Value) = bts (mkB [UInt8.ofNat (n / (256 ^ i : Nat) % 256).toNat]) := rfl
    rw [hb1] at E
    refine Ap.one E (i := 1) rfl u_sl_uint8 ⟨_, u_sl_uint8, fun _ h => by cases h⟩ e_uint8 (Src.one E (by (first | assumption | exact FPt.mem | exact FMp.mem | exact FSl.mem | (repeat (first | assumption | with_reducible exact List.mem_cons_self | refine List.mem_cons_of_mem _ ?_)))) (bts_scal _)) rfl (by rw [bts_sz, bts_sz, le_length]; show (_ + 1) * _ ≤ _; omega) (by rw [bts_sz, bts_sz, le_length]; show _ + 1 ≤ _; omega) ?_
    clear E
    intro s' w_ E
    (try simp only [List.set_cons_zero, List.set_cons_succ, List.cons_append, List.nil_append, Nat.zero_add, Nat.add_zero] at E)
    rw [bts_ap, ← le_snoc] at E
    refine shr8 ⟨h0, h1⟩ ?_
    rw [div_step]
    refine Bi.add (by omega) ?_
    exact ⟨⟨i + 1, s', rfl, by omega, E.tl⟩, by simp only []; omega⟩
  · have : i = k := by omega
    subst this
    refine CvB.sl E (s := mkB (le n i)) (by (first | assumption | exact FPt.mem | exact FMp.mem | exact FSl.mem | (repeat (first | assumption | with_reducible exact List.mem_cons_self | refine List.mem_cons_of_mem _ ?_)))) u_sl_uint8 u_string u_uint8 ?_
    exact ⟨rfl, E.tl⟩
theorem rword_ok {s : List UInt8} (hs : s.length ≤ 1000000000000000) (E : Hs w0 F w l) : Ca PP Fn.r31_word #[sb s] w fun r w' => r = sb (eW s) ∧ Hs w0 F w' l := by
  refine S.r31_word.calls ?_
  unfold S.r31_word
  (repeat with_reducible refine Stp.go ?_)
  rw [mkB_size]
  refine (rnumber_ok (k := 2) (by omega) E).mono ?_
  clear E
  rintro r w_ ⟨rfl, E⟩
  refine Bi.sadd (by rw [mkB_size, mkB_size, le_length]; omega) ?_
  rw [mkB_app]
  exact ⟨rfl, E⟩
theorem rqid_ok {q : Qi} (E : Hs w0 F w l) : Ca PP Fn.r31_qid #[.agg (qcs q).toArray] w fun r w' => r = sb (eQ q) ∧ Hs w0 F w' l := by
  refine S.r31_qid.calls ?_
  unfold S.r31_qid
  (repeat with_reducible first | refine Stp.go ?_ | refine StpE.go E ?_ | (refine StpW.go E ?_; clear E; intro w_ E) | (refine StpA.go E ?_; clear E; intro b_ w_ hb_ E))
  refine (rnumber_ok (k := 1) (by omega) E).mono ?_
  clear E
  rintro r w_ ⟨rfl, E⟩
  (repeat (with_reducible refine And.intro ?_ ?_; focus ((repeat with_reducible refine StpE.go E ?_); exact rfl)))
  refine (rnumber_ok (k := 4) (by omega) E).mono ?_
  clear E
  rintro r w_ ⟨rfl, E⟩
  (repeat (with_reducible refine And.intro ?_ ?_; focus ((repeat with_reducible refine StpE.go E ?_); exact rfl)))
  refine Bi.sadd (by rw [mkB_size, mkB_size, le_length, le_length]; omega) ?_
  rw [mkB_app]
  refine (rnumber_ok (k := 8) (by omega) E).mono ?_
  clear E
  rintro r w_ ⟨rfl, E⟩
  refine Bi.sadd (by rw [mkB_size, mkB_size, List.length_append, le_length, le_length, le_length]; omega) ?_
  rw [mkB_app]
  exact ⟨rfl, E.tl⟩
theorem rdir_ok {d : Di} (hd : DB d) (E : Hs w0 F w l) : Ca PP Fn.r31_dir #[.agg (dcs d).toArray] w fun r w' => r = sb (eD d) ∧ Hs w0 F w' l := by
  obtain ⟨d1, d2, d3, d4⟩ := hd
  refine S.r31_dir.calls ?_
  unfold S.r31_dir
  (repeat with_reducible first | refine Stp.go ?_ | refine StpE.go E ?_ | (refine StpW.go E ?_; clear E; intro w_ E) | (refine StpA.go E ?_; clear E; intro b_ w_ hb_ E))
  refine (rqid_ok (q := d.q) E).mono ?_
  clear E
  rintro r w_ ⟨rfl, E⟩
  (repeat (with_reducible refine And.intro ?_ ?_; focus ((repeat with_reducible refine StpE.go E ?_); exact rfl)))
  refine (rnumber_ok (k := 4) (by omega) E).mono ?_
  clear E
  rintro r w_ ⟨rfl, E⟩
  (repeat (with_reducible refine And.intro ?_ ?_; focus ((repeat with_reducible refine StpE.go E ?_); exact rfl)))
  refine Bi.sadd (by simp only [mkB_size, le_length, eQ_length]; omega) ?_
  rw [mkB_app]
  refine (rnumber_ok (k := 8) (by omega) E).mono ?_
  clear E
  rintro r w_ ⟨rfl, E⟩
  (repeat (with_reducible refine And.intro ?_ ?_; focus ((repeat with_reducible refine StpE.go E ?_); exact rfl)))
  refine Bi.sadd (by simp only [mkB_size, List.length_append, le_length, eQ_length]; omega) ?_
  rw [mkB_app]
  refine (rnumber_ok (k := 8) (by omega) E).mono ?_
  clear E
  rintro r w_ ⟨rfl, E⟩
  (repeat (with_reducible refine And.intro ?_ ?_; focus ((repeat with_reducible refine StpE.go E ?_); exact rfl)))
  refine Bi.sadd (by simp only [mkB_size, List.length_append, le_length, eQ_length]; omega) ?_
  rw [mkB_app]
  refine (rword_ok (by omega) E).mono ?_
  clear E
  rintro r w_ ⟨rfl, E⟩
  (repeat (with_reducible refine And.intro ?_ ?_; focus ((repeat with_reducible refine StpE.go E ?_); exact rfl)))
  refine Bi.sadd (by simp only [mkB_size, List.length_append, le_length, eQ_length, eW_length]; omega) ?_
  rw [mkB_app]
  refine (rword_ok (by omega) E).mono ?_
  clear E
  rintro r w_ ⟨rfl, E⟩
  (repeat (with_reducible refine And.intro ?_ ?_; focus ((repeat with_reducible refine StpE.go E ?_); exact rfl)))
  refine Bi.sadd (by simp only [mkB_size, List.length_append, le_length, eQ_length, eW_length]; omega) ?_
  rw [mkB_app]
  refine (rword_ok (by omega) E).mono ?_
  clear E
  rintro r w_ ⟨rfl, E⟩
  (repeat (with_reducible refine And.intro ?_ ?_; focus ((repeat with_reducible refine StpE.go E ?_); exact rfl)))
  refine Bi.sadd (by simp only [mkB_size, List.length_append, le_length, eQ_length, eW_length]; omega) ?_
  rw [mkB_app]
  refine (rword_ok (by omega) E).mono ?_
  clear E
  rintro r w_ ⟨rfl, E⟩
  refine Bi.sadd (by simp only [mkB_size, List.length_append, le_length, eQ_length, eW_length]; omega) ?_
  rw [mkB_app]
  (repeat with_reducible refine Stp.go ?_)
  rw [mkB_size]
  refine (rnumber_ok (k := 2) (by omega) E).mono ?_
  clear E
  rintro r w_ ⟨rfl, E⟩
  refine Bi.sadd (by simp only [mkB_size, List.length_append, le_length, eQ_length, eW_length]; omega) ?_
  rw [mkB_app]
  exact ⟨rfl, E.tl⟩
theorem shl1 {k : Nat} (hk : k = 1 ∨ k = 2 ∨ k = 4) {c : Value → Prop} (h : c (i64 (256 ^ k : Nat))) : Bi .shl (i64 1) (i64 (8 * k)) c := by
  rcases hk with rfl | rfl | rfl
  · exact Bi.mk (v := i64 256) (by kernel_rfl) h
  · exact Bi.mk (v := i64 65536) (by kernel_rfl) h
  · exact Bi.mk (v := i64 4294967296) (by kernel_rfl) h
theorem rin_ok {n : Int} {k : Nat} (hk : k = 1 ∨ k = 2 ∨ k = 4) (E : Hs w0 F w l) : Ca PP Fn.r31_in #[i64 n, i64 k] w fun r w' => r = .bool (inR n k) ∧ Hs w0 F w' l := by
  refine S.r31_in.calls ?_
  unfold S.r31_in
  (intro J1 hJ1)
  refine Bi.geq ?_ ?_ <;> intro c
  rotate_left
  · (repeat with_reducible first | refine Stp.go ?_ | (apply hJ1; intro u_))
    refine ⟨?_, E⟩
    unfold inR
    rw [decide_eq_false (by omega)]
    rfl
  have key : ∀ m : Int, m = (256 ^ k : Nat) → (k1 : Value → Prop) → k1 (.bool (inR n k)) → Bi .lss (i64 n) (i64 m) k1 := by
    intro m hm k1 h
    unfold inR at h
    rw [decide_eq_true (by omega), Bool.true_and] at h
    refine Bi.lss (fun c2 => ?_) (fun c2 => ?_)
    · rw [decide_eq_true (by omega)] at h; exact h
    · rw [decide_eq_false (by omega)] at h; exact h
  (repeat with_reducible refine Stp.go ?_)
  refine Bi.mul (by omega) ?_
  (repeat with_reducible refine Stp.go ?_)
  refine shl1 hk ?_
  (repeat with_reducible refine Stp.go ?_)
  refine key _ rfl _ ?_
  (repeat with_reducible first | refine Stp.go ?_ | (apply hJ1; intro u_))
  exact ⟨rfl, E⟩
theorem rrightQid_ok {q : Qi} (E : Hs w0 F w l) : Ca PP Fn.r31_rightQid #[.agg (qcs q).toArray] w fun r w' => r = .bool (rQ q) ∧ Hs w0 F w' l := by
  refine S.r31_rightQid.calls ?_
  unfold S.r31_rightQid
  generalize hb : rQ q = b
  unfold rQ at hb
  (repeat with_reducible (refine StpA.go E ?_; clear E; intro b_ w_ hb_ E))
  (intro J3 hJ3)
  (repeat with_reducible first | refine Stp.go ?_ | refine StpE.go E ?_)
  refine (rin_ok (k := 1) (.inl rfl) E).mono ?_
  clear E
  rintro r w_ ⟨rfl, E⟩
  cases h1 : inR q.kind 1 with
  | false =>
    rw [h1] at hb
    (repeat with_reducible first | refine Stp.go ?_ | (apply hJ3; intro u_))
    exact ⟨by rw [← hb]; rfl, E.tl⟩
  | true =>
  (repeat with_reducible first | refine Stp.go ?_ | refine StpE.go E ?_)
  refine (rin_ok (k := 4) (.inr (.inr rfl)) E).mono ?_
  clear E
  rintro r w_ ⟨rfl, E⟩
  cases h2 : inR q.vers 4 with
  | false =>
    rw [h1, h2] at hb
    (repeat with_reducible first | refine Stp.go ?_ | (apply hJ3; intro u_))
    exact ⟨by rw [← hb]; rfl, E.tl⟩
  | true =>
  rw [h1, h2] at hb
  (repeat with_reducible first | refine Stp.go ?_ | refine StpE.go E ?_)
  refine Bi.geq ?_ ?_ <;> intro c <;> (repeat with_reducible first | refine Stp.go ?_ | (apply hJ3; intro u_))
  · exact ⟨by rw [← hb, decide_eq_true (by omega)]; rfl, E.tl⟩
  · exact ⟨by rw [← hb, decide_eq_false (by omega)]; rfl, E.tl⟩
theorem rrightDir_ok {d : Di} (E : Hs w0 F w l) : Ca PP Fn.r31_rightDir #[.agg (dcs d).toArray] w fun r w' => r = .bool (rD d) ∧ Hs w0 F w' l := by
  refine S.r31_rightDir.calls ?_
  unfold S.r31_rightDir
  generalize hb : rD d = b
  unfold rD at hb
  (repeat with_reducible (refine StpA.go E ?_; clear E; intro b_ w_ hb_ E))
  (intro J3 hJ3)
  (repeat with_reducible first | refine Stp.go ?_ | refine StpE.go E ?_)
  refine (rrightQid_ok (q := d.q) E).mono ?_
  clear E
  rintro r w_ ⟨rfl, E⟩
  cases h1 : rQ d.q with
  | false =>
    rw [h1] at hb
    (repeat with_reducible first | refine Stp.go ?_ | (apply hJ3; intro u_))
    exact ⟨by rw [← hb]; rfl, E.tl⟩
  | true =>
  rw [h1] at hb
  (repeat with_reducible first | refine Stp.go ?_ | refine StpE.go E ?_)
  refine Bi.geq ?_ ?_ <;> intro c1 <;> (repeat with_reducible first | refine Stp.go ?_ | refine StpE.go E ?_ | (apply hJ3; intro u_))
  rotate_left
  · exact ⟨by rw [← hb, decide_eq_false (by omega : ¬ -1 ≤ d.mode)]; rfl, E.tl⟩
  rw [decide_eq_true (by omega : -1 ≤ d.mode)] at hb
  refine Bi.lss ?_ ?_ <;> intro c2 <;> (repeat with_reducible first | refine Stp.go ?_ | refine StpE.go E ?_ | (apply hJ3; intro u_))
  rotate_left
  · exact ⟨by rw [← hb, decide_eq_false (by omega : ¬ d.mode < 4294967295)]; rfl, E.tl⟩
  rw [decide_eq_true (by omega : d.mode < 4294967295)] at hb
  refine Bi.geq ?_ ?_ <;> intro c3 <;> (repeat with_reducible first | refine Stp.go ?_ | refine StpE.go E ?_ | (apply hJ3; intro u_))
  rotate_left
  · exact ⟨by rw [← hb, decide_eq_false (by omega : ¬ -1 ≤ d.time)]; rfl, E.tl⟩
  rw [decide_eq_true (by omega : -1 ≤ d.time)] at hb
  refine Bi.geq ?_ ?_ <;> intro c4 <;> (repeat with_reducible first | refine Stp.go ?_ | (apply hJ3; intro u_))
  rotate_left
  · exact ⟨by rw [← hb, decide_eq_false (by omega : ¬ -1 ≤ d.len)]; rfl, E.tl⟩
  exact ⟨by rw [← hb, decide_eq_true (by omega : -1 ≤ d.len)]; rfl, E.tl⟩
theorem rdirBytes_ok {d : Di} (hd : DB d) (E : Hs w0 F w l) : Ca PP Fn.r31_dirBytes #[.agg (dcs d).toArray] w fun r w' => r = i64 (dB d : Nat) ∧ Hs w0 F w' l := by
  obtain ⟨d1, d2, d3, d4⟩ := hd
  refine S.r31_dirBytes.calls ?_
  unfold S.r31_dirBytes
  (repeat with_reducible first | refine Stp.go ?_ | refine StpE.go E ?_ | (refine StpA.go E ?_; clear E; intro b_ w_ hb_ E))
  refine Bi.add (by simp only [mkB_size]; omega) ?_
  (repeat with_reducible first | refine Stp.go ?_ | refine StpE.go E ?_)
  refine Bi.add (by simp only [mkB_size]; omega) ?_
  (repeat with_reducible first | refine Stp.go ?_ | refine StpE.go E ?_)
  refine Bi.add (by simp only [mkB_size]; omega) ?_
  (repeat with_reducible first | refine Stp.go ?_ | refine StpE.go E ?_)
  refine Bi.add (by simp only [mkB_size]; omega) ?_
  skip
  refine ⟨?_, E.tl⟩
  unfold dB
  simp only [mkB_size]
  congr 1
end Go.Proofs.YtmlccboapkkcfaaDoor

/-
  The protocol's reference: whether a message has no fields that its kind does not have.
-/
namespace Go.Proofs.YtmlccboapkkcfaaDoor
open Go Go.Sh
set_option maxRecDepth 100000
set_option linter.unusedVariables false
set_option linter.unusedSimpArgs false
variable {w0 w : World} {F : Nat → Prop} {l : List As}
section
variable {fl : List Fl} {n : Int} {off b : Nat} {cs : List Value} {T : TypeId} {v z : Value} {nz : Bool} {K : Value → World → Prop}
/-- A field that a kind does not have is not zero: the first one of some. -/
theorem hz1 (f : Fl) (hn : n = (ltr f).toNat) (hl : fl.length ≤ 1000) (hc : ∀ k : Value → Prop, k (.bool nz) → Bi .neq v z k) (E : Hs w0 F w (pt b (oc cs T) :: l)) [hx : Nth cs off v]
    (hk : ∀ w', Hs w0 F w' (pt b (oc cs T) :: l) → K (.bool (!fl.contains f && nz)) w') :
    Ca PP Fn.r31_has #[sb (fl.map ltr), .int .u8 n] w fun t w1 => Un .not t fun t' => Gd t' true (fun k => Fa off (ptr b) fun p => k p w1) w1 fun p w2 => Gd t' true (fun k => Ld p w2 fun v => k v w2) w2 fun v w3 =>
      Gd t' true (fun k => Bi .neq v z fun b => k b w3) w3 fun r w4 => Pk t' r (.bool false) fun r => K r w4 := by
  refine (has_ok f hn hl E).mono ?_
  clear E
  rintro r w_ ⟨rfl, E⟩
  have := hk _ E
  cases hf : fl.contains f with
  | true =>
    rw [hf] at this
    (repeat with_reducible refine Stp.go ?_)
    exact this
  | false =>
    rw [hf] at this
    (repeat with_reducible first | refine Stp.go ?_ | refine StpE.go E ?_)
    refine hc _ ?_
    (repeat with_reducible refine Stp.go ?_)
    exact this
/-- .. a further one. -/
theorem hz2 (f : Fl) (hn : n = (ltr f).toNat) (hl : fl.length ≤ 1000) {p : Bool} (hc : ∀ k : Value → Prop, k (.bool nz) → Bi .neq v z k) (E : Hs w0 F w (pt b (oc cs T) :: l)) [hx : Nth cs off v]
    (hk : ∀ w', Hs w0 F w' (pt b (oc cs T) :: l) → K (.bool (p || (!fl.contains f && nz))) w') :
    Gd (.bool p) false (fun k => k (sb (fl.map ltr)) w) w fun a w1 => Gd (.bool p) false (fun k => Ca PP Fn.r31_has #[a, .int .u8 n] w1 fun t w2 => k t w2) w1 fun t w3 => Gd (.bool p) false (fun k => Un .not t fun r => k r w3) w3 fun t w4 =>
      Gd (.bool p) false (fun k => k t w4) w4 fun t' w5 => Gd t' true (fun k => Fa off (ptr b) fun p => k p w5) w5 fun q w6 => Gd t' true (fun k => Ld q w6 fun v => k v w6) w6 fun v w7 =>
      Gd t' true (fun k => Bi .neq v z fun b => k b w7) w7 fun r w8 => Gd (.bool p) false (fun k => Pk t' r (.bool false) fun r => k r w8) w8 fun r w9 => Pk (.bool p) (.bool true) r fun r => K r w9 := by
  cases p with
  | true =>
    have := hk _ E
    (repeat with_reducible refine Stp.go ?_)
    exact this
  | false =>
    (repeat with_reducible refine Stp.go ?_)
    refine (has_ok f hn hl E).mono ?_
    clear E
    rintro r w_ ⟨rfl, E⟩
    have := hk _ E
    cases hf : fl.contains f with
    | true =>
      rw [hf] at this
      (repeat with_reducible refine Stp.go ?_)
      exact this
    | false =>
      rw [hf] at this
      (repeat with_reducible first | refine Stp.go ?_ | refine StpE.go E ?_)
      refine hc _ ?_
      (repeat with_reducible refine Stp.go ?_)
      exact this
theorem neqN {n : Nat} {k : Value → Prop} (hk : k (.bool (n != 1))) : Bi .neq (i64 (n : Nat)) (i64 1) k := by
  refine Bi.neq (fun h => ?_) fun h => ?_
  · rwa [show (n != 1) = true by simpa using (by omega : n ≠ 1)] at hk
  · rwa [show (n != 1) = false by simpa using (by omega : n = 1)] at hk
theorem gtrN {n : Nat} {k : Value → Prop} (hk : k (.bool (n != 0))) : Bi .gtr (i64 (n : Nat)) (i64 0) k := by
  refine Bi.gtr (fun h => ?_) fun h => ?_
  · rwa [show (n != 0) = true by simpa using (by omega : n ≠ 0)] at hk
  · rwa [show (n != 0) = false by simpa using (by omega : n = 0)] at hk
theorem hz3 (f : Fl) (hn : n = (ltr f).toNat) (hl : fl.length ≤ 1000) {p : Bool} {sz m : Nat} {ys : List Value} (hr : RdS w0 F (pt b (oc cs T) :: l) sz m v ys) (E : Hs w0 F w (pt b (oc cs T) :: l)) [hx : Nth cs off v]
    (hk : ∀ w', Hs w0 F w' (pt b (oc cs T) :: l) → K (.bool (p || (!fl.contains f && m != 0))) w') :
    Gd (.bool p) false (fun k => k (sb (fl.map ltr)) w) w fun a w1 => Gd (.bool p) false (fun k => Ca PP Fn.r31_has #[a, .int .u8 n] w1 fun t w2 => k t w2) w1 fun t w3 => Gd (.bool p) false (fun k => Un .not t fun r => k r w3) w3 fun t w4 =>
      Gd (.bool p) false (fun k => k t w4) w4 fun t' w5 => Gd t' true (fun k => Fa off (ptr b) fun p => k p w5) w5 fun q w6 => Gd t' true (fun k => Ld q w6 fun v => k v w6) w6 fun v w7 =>
      Gd t' true (fun k => LnL v fun b => k b w7) w7 fun v w8 => Gd t' true (fun k => Bi .gtr v (i64 0) fun b => k b w8) w8 fun r w9 => Gd (.bool p) false (fun k => Pk t' r (.bool false) fun r => k r w9) w9 fun r w9 => Pk (.bool p) (.bool true) r fun r => K r w9 := by
  cases p with
  | true =>
    have := hk _ E
    (repeat with_reducible refine Stp.go ?_)
    exact this
  | false =>
    (repeat with_reducible refine Stp.go ?_)
    refine (has_ok f hn hl E).mono ?_
    clear E
    rintro r w_ ⟨rfl, E⟩
    have := hk _ E
    cases hf : fl.contains f with
    | true =>
      rw [hf] at this
      (repeat with_reducible refine Stp.go ?_)
      exact this
    | false =>
      rw [hf] at this
      (repeat with_reducible first | refine Stp.go ?_ | refine StpE.go E ?_)
      refine hr.len ?_
      (repeat with_reducible refine Stp.go ?_)
      refine gtrN ?_
      (repeat with_reducible refine Stp.go ?_)
      exact this
end
theorem neqI {x : Int} (k : Value → Prop) (hk : k (.bool (x != 0))) : Bi .neq (i64 x) (i64 0) k := by
  refine Bi.neq (fun h => ?_) fun h => ?_
  · rwa [show (x != 0) = true by simpa using h] at hk
  · rwa [show (x != 0) = false by simpa using h] at hk
theorem neqS {s : List UInt8} (k : Value → Prop) (hk : k (.bool (s != []))) : Bi .neq (sb s) (.string ⟨#[]⟩) k := by
  refine Bi.sneq (fun h => ?_) fun h => ?_
  · rwa [show (s != []) = true by simpa using fun e => h (by rw [e])] at hk
  · rwa [show (s != []) = false by simpa using mkB_inj h] at hk
def shp1 (m : Ms) (l : List Fl) : Bool := (l.contains .xq && m.qids.length != 1) || (!l.contains .xq && !l.contains .xQ && m.qids.length != 0) || (!l.contains .xn && m.names.length != 0)
def shp2 (m : Ms) (l : List Fl) : Bool := !l.contains .xf && m.fid != 0 || !l.contains .xo && m.other != 0 || !l.contains .xd && m.old != 0 || !l.contains .xS && m.size != 0
def shp3 (m : Ms) (l : List Fl) : Bool := !l.contains .xO && m.off != 0 || !l.contains .xm && m.mode != 0 || !l.contains .xp && m.perm != 0 || !l.contains .xc && m.code != 0
def shp4 (m : Ms) (l : List Fl) : Bool := !l.contains .xv && m.ver != [] || !l.contains .xu && m.user != [] || !l.contains .xt && m.tree != [] || !l.contains .xN && m.name != []
theorem shp_parts (m : Ms) (l : List Fl) : shp m l = (!shp1 m l && !shp2 m l && !shp3 m l && !shp4 m l && ((l.contains .xD || m.data == []) && (l.contains .xi || m.dir == d0))) := by
  simp only [shp, shp1, shp2, shp3, shp4, Bool.not_or, Bool.not_and, Bool.not_not, Bool.and_assoc, bne]
theorem rshaped_ok {m : Ms} {nv qv : Value} {fl : List Fl} (hl : fl.length ≤ 1000) (M : MI w0 F l m nv qv) (E : Hs w0 F w l) :
    Ca PP Fn.r31_shaped #[.agg (MC m nv qv).toArray, sb (fl.map ltr)] w fun r w' => r = .bool (shp m fl) ∧ Hs w0 F w' l := by
  have i1 : Scal nv := ⟨by obtain ⟨a, c, e, _⟩ := M.rn; rw [e]; rfl⟩
  have i2 : Scal qv := ⟨by obtain ⟨a, c, e, _⟩ := M.rq; rw [e]; rfl⟩
  have hM := M
  refine S.r31_shaped.calls ?_
  unfold S.r31_shaped
  generalize hb : shp m fl = r0
  rw [shp_parts] at hb
  (repeat with_reducible (refine StpA.go E ?_; clear E; intro b_ w_ hb_ E))
  (intro J3 hJ3)
  have fin3 : ∀ b w_, b = shp1 m fl → Hs w0 F w_ (pt b_ (oc (MC m nv qv) Ty.api_Msg) :: l) → J3 [.bool b] w_ := by
    intro b w_ h E
    apply hJ3
    intro u_
    clear hJ3
    cases b with
    | true =>
      rw [← h] at hb
      (repeat with_reducible refine Stp.go ?_)
      exact ⟨by rw [← hb]; rfl, E.tl⟩
    | false =>
    rw [← h] at hb
    (repeat with_reducible refine Stp.go ?_)
    (intro J7 hJ7)
    refine hz1 .xf rfl hl neqI E ?_
    clear E
    intro w_ E
    refine hz2 .xo rfl hl neqI E ?_
    clear E
    intro w_ E
    refine hz2 .xd rfl hl neqI E ?_
    clear E
    intro w_ E
    refine hz2 .xS rfl hl neqI E ?_
    clear E
    intro w_ E
    rw [show (!fl.contains Fl.xf && m.fid != 0 || !fl.contains Fl.xo && m.other != 0 || !fl.contains Fl.xd && m.old != 0 || !fl.contains Fl.xS && m.size != 0) = shp2 m fl from rfl]
    cases h2 : shp2 m fl with
    | true =>
      rw [h2] at hb
      (repeat with_reducible first | refine Stp.go ?_ | (apply hJ7; intro u_))
      exact ⟨by rw [← hb]; rfl, E.tl⟩
    | false =>
    rw [h2] at hb
    (repeat with_reducible first | refine Stp.go ?_ | (apply hJ7; intro u_))
    clear hJ7
    (intro J11 hJ11)
    refine hz1 .xO rfl hl neqI E ?_
    clear E
    intro w_ E
    refine hz2 .xm rfl hl neqI E ?_
    clear E
    intro w_ E
    refine hz2 .xp rfl hl neqI E ?_
    clear E
    intro w_ E
    refine hz2 .xc rfl hl neqI E ?_
    clear E
    intro w_ E
    rw [show (!fl.contains Fl.xO && m.off != 0 || !fl.contains Fl.xm && m.mode != 0 || !fl.contains Fl.xp && m.perm != 0 || !fl.contains Fl.xc && m.code != 0) = shp3 m fl from rfl]
    cases h3 : shp3 m fl with
    | true =>
      rw [h3] at hb
      (repeat with_reducible first | refine Stp.go ?_ | (apply hJ11; intro u_))
      exact ⟨by rw [← hb]; rfl, E.tl⟩
    | false =>
    rw [h3] at hb
    (repeat with_reducible first | refine Stp.go ?_ | (apply hJ11; intro u_))
    clear hJ11
    (intro J15 hJ15)
    refine hz1 .xv rfl hl neqS E ?_
    clear E
    intro w_ E
    refine hz2 .xu rfl hl neqS E ?_
    clear E
    intro w_ E
    refine hz2 .xt rfl hl neqS E ?_
    clear E
    intro w_ E
    refine hz2 .xN rfl hl neqS E ?_
    clear E
    intro w_ E
    rw [show (!fl.contains Fl.xv && m.ver != [] || !fl.contains Fl.xu && m.user != [] || !fl.contains Fl.xt && m.tree != [] || !fl.contains Fl.xN && m.name != []) = shp4 m fl from rfl]
    cases h4 : shp4 m fl with
    | true =>
      rw [h4] at hb
      (repeat with_reducible first | refine Stp.go ?_ | (apply hJ15; intro u_))
      exact ⟨by rw [← hb]; rfl, E.tl⟩
    | false =>
    rw [h4] at hb
    (repeat with_reducible first | refine Stp.go ?_ | (apply hJ15; intro u_))
    clear hJ15
    (intro J19 hJ19)
    have finD : ∀ b w_, b = (fl.contains .xD || m.data == []) → Hs w0 F w_ (pt b_ (oc (MC m nv qv) Ty.api_Msg) :: l) → b = false → J19 [.bool false] w_ := by
      intro b w_ h5 E h6
      rw [← h5, h6] at hb
      (repeat with_reducible (apply hJ19; intro u_))
      exact ⟨by rw [← hb]; rfl, E.tl⟩
    have finI : ∀ w_, (fl.contains .xD || m.data == []) = true → Hs w0 F w_ (pt b_ (oc (MC m nv qv) Ty.api_Msg) :: l) → ∀ b, b = (fl.contains .xi || m.dir == d0) → J19 [.bool b] w_ := by
      intro w_ h5 E b h6
      rw [h5, ← h6] at hb
      apply hJ19
      intro u_
      exact ⟨by rw [← hb]; cases b <;> rfl, E.tl⟩
    clear hJ19
    refine (has_ok .xD rfl hl E).mono ?_
    clear E
    rintro r w_ ⟨rfl, E⟩
    cases hD : fl.contains .xD with
    | true =>
      (repeat with_reducible refine Stp.go ?_)
      refine (has_ok .xi rfl hl E).mono ?_
      clear E
      rintro r w_ ⟨rfl, E⟩
      cases hi : fl.contains .xi with
      | true =>
        (repeat with_reducible refine Stp.go ?_)
        exact finI _ (by rw [hD]; rfl) E _ (by rw [hi]; rfl)
      | false =>
        (repeat with_reducible first | refine Stp.go ?_ | refine StpE.go E ?_)
        refine EqS.e (xs := dcs m.dir) (ys := dcs d0) lv_Dir st_Dir g_Dir rfl rfl ?_
        rw [ceq_dir]
        (repeat with_reducible refine Stp.go ?_)
        exact finI _ (by rw [hD]; rfl) E _ (by rw [hi]; rfl)
    | false =>
      (repeat with_reducible first | refine Stp.go ?_ | refine StpE.go E ?_)
      refine Bi.seql (fun c => ?_) (fun c => ?_)
      · (repeat with_reducible refine Stp.go ?_)
        refine (has_ok .xi rfl hl E).mono ?_
        clear E
        rintro r w_ ⟨rfl, E⟩
        cases hi : fl.contains .xi with
        | true =>
          (repeat with_reducible refine Stp.go ?_)
          exact finI _ (by rw [mkB_inj c]; simp) E _ (by rw [hi]; rfl)
        | false =>
          (repeat with_reducible first | refine Stp.go ?_ | refine StpE.go E ?_)
          refine EqS.e (xs := dcs m.dir) (ys := dcs d0) lv_Dir st_Dir g_Dir rfl rfl ?_
          rw [ceq_dir]
          (repeat with_reducible refine Stp.go ?_)
          exact finI _ (by rw [mkB_inj c]; simp) E _ (by rw [hi]; rfl)
      · (repeat with_reducible refine Stp.go ?_)
        exact finD _ _ rfl E (by rw [hD]; simpa using fun e => c (by rw [e]))
  clear hJ3
  refine (has_ok .xq rfl hl E).mono ?_
  clear E
  rintro r w_ ⟨rfl, E⟩
  cases hq : fl.contains .xq with
  | true =>
    (repeat with_reducible first | refine Stp.go ?_ | refine StpE.go E ?_)
    refine hM.rq.len ?_
    (repeat with_reducible refine Stp.go ?_)
    refine neqN ?_
    (repeat with_reducible refine Stp.go ?_)
    cases hz : m.qids.length != 1 with
    | true =>
      (repeat with_reducible refine Stp.go ?_)
      exact fin3 _ _ (by unfold shp1; rw [hq, hz]; rfl) E
    | false =>
      (repeat with_reducible refine Stp.go ?_)
      refine (has_ok .xq rfl hl E).mono ?_
      clear E
      rintro r w_ ⟨rfl, E⟩
      rw [hq]
      (repeat with_reducible refine Stp.go ?_)
      refine (has_ok .xn rfl hl E).mono ?_
      clear E
      rintro r w_ ⟨rfl, E⟩
      cases hn : fl.contains .xn with
      | true =>
        (repeat with_reducible refine Stp.go ?_)
        exact fin3 _ _ (by unfold shp1; rw [hq, hz, hn]; rfl) E
      | false =>
        (repeat with_reducible first | refine Stp.go ?_ | refine StpE.go E ?_)
        refine hM.rn.len ?_
        (repeat with_reducible refine Stp.go ?_)
        refine gtrN ?_
        (repeat with_reducible refine Stp.go ?_)
        exact fin3 _ _ (by unfold shp1; rw [hq, hz, hn]; rfl) E
  | false =>
    (repeat with_reducible refine Stp.go ?_)
    refine (has_ok .xq rfl hl E).mono ?_
    clear E
    rintro r w_ ⟨rfl, E⟩
    rw [hq]
    (repeat with_reducible refine Stp.go ?_)
    refine (has_ok .xQ rfl hl E).mono ?_
    clear E
    rintro r w_ ⟨rfl, E⟩
    cases hQ : fl.contains .xQ with
    | true =>
      (repeat with_reducible refine Stp.go ?_)
      refine (has_ok .xn rfl hl E).mono ?_
      clear E
      rintro r w_ ⟨rfl, E⟩
      cases hn : fl.contains .xn with
      | true =>
        (repeat with_reducible refine Stp.go ?_)
        exact fin3 _ _ (by unfold shp1; rw [hq, hQ, hn]; rfl) E
      | false =>
        (repeat with_reducible first | refine Stp.go ?_ | refine StpE.go E ?_)
        refine hM.rn.len ?_
        (repeat with_reducible refine Stp.go ?_)
        refine gtrN ?_
        (repeat with_reducible refine Stp.go ?_)
        exact fin3 _ _ (by unfold shp1; rw [hq, hQ, hn]; rfl) E
    | false =>
      (repeat with_reducible first | refine Stp.go ?_ | refine StpE.go E ?_)
      refine hM.rq.len ?_
      (repeat with_reducible refine Stp.go ?_)
      refine gtrN ?_
      (repeat with_reducible refine Stp.go ?_)
      refine hz3 (p := m.qids.length != 0) .xn rfl hl (hM.rn.cons _) E ?_
      clear E
      intro w_ E
      exact fin3 _ _ (by unfold shp1; rw [hq, hQ]; rfl) E
end Go.Proofs.YtmlccboapkkcfaaDoor
