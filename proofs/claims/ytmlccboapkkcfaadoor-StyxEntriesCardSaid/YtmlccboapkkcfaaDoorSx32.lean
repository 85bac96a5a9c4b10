/-
  The protocol: the reader of fields visits a message.
-/
import Derived.Test.YtmlccboapkkcfaaDoorSx20
namespace Go.Proofs.YtmlccboapkkcfaaDoor
open Go Go.Sh
set_option maxRecDepth 100000
set_option linter.unusedVariables false
set_option linter.unusedSimpArgs false
variable {w0 w : World} {F : Nat → Prop} {l : List As}
variable {i mb : Nat} {I : Ip} {m : Ms} {nv qv : Value}
theorem ifl0 (m : Ms) (I : Ip) : Ip.flds [] m I = (m, I) := rfl
theorem ifl1 (m : Ms) (I : Ip) (a : Fl) : Ip.flds [a] m I = Ip.fld m I a := rfl
theorem ifl2 (m : Ms) (I : Ip) (a b : Fl) : Ip.flds [a, b] m I = Ip.fld (Ip.fld m I a).1 (Ip.fld m I a).2 b := rfl
theorem ifl3 (m : Ms) (I : Ip) (a b c : Fl) : Ip.flds [a, b, c] m I = Ip.fld (Ip.fld (Ip.fld m I a).1 (Ip.fld m I a).2 b).1 (Ip.fld (Ip.fld m I a).1 (Ip.fld m I a).2 b).2 c := rfl
theorem ifl4 (m : Ms) (I : Ip) (a b c d : Fl) : Ip.flds [a, b, c, d] m I = Ip.fld (Ip.fld (Ip.fld (Ip.fld m I a).1 (Ip.fld m I a).2 b).1 (Ip.fld (Ip.fld m I a).1 (Ip.fld m I a).2 b).2 c).1 (Ip.fld (Ip.fld (Ip.fld m I a).1 (Ip.fld m I a).2 b).1 (Ip.fld (Ip.fld m I a).1 (Ip.fld m I a).2 b).2 c).2 d := rfl
/-- What a visit leaves. -/
def IPo (w0 : World) (F : Nat → Prop) (i mb : Nat) (l : List As) (x : Ms × Ip) (w : World) : Prop :=
  ∃ nv qv X, RdS w0 F X 1 x.1.names.length nv (x.1.names.map sb) ∧ RdS w0 F X 3 x.1.qids.length qv (qqs x.1.qids) ∧ IT w0 F i x.2 (mA mb x.1 nv qv :: (X ++ l)) w
theorem rds_nil {sz : Nat} : RdS w0 F l sz 0 nilV [] := ⟨none, 0, rfl, Nat.le_refl _, by simp, .inl rfl⟩
theorem ipo_nil {x : Ms × Ip} (h1 : x.1.names = []) (h2 : x.1.qids = []) (E : IT w0 F i x.2 (mA mb x.1 nilV nilV :: l) w) : IPo w0 F i mb l x w := by
  refine ⟨nilV, nilV, [], ?_, ?_, E⟩
  · rw [h1]; exact rds_nil
  · rw [h2]; exact rds_nil
theorem ipo_n {x : Ms × Ip} {v : Value} (h2 : x.1.qids = []) (E : IT w0 F i x.2 (mA mb x.1 v nilV :: slA v Ty.string 1 (x.1.names.map sb) :: l) w) : IPo w0 F i mb l x w := by
  refine ⟨v, nilV, [slA v Ty.string 1 (x.1.names.map sb)], ?_, ?_, E⟩
  · have := RdS.sl (T := Ty.string) (v := v) (sz := 1) (xs := x.1.names.map sb) (l := [slA v Ty.string 1 (x.1.names.map sb)]) List.mem_cons_self (by omega) (E.rest.tl.drop (.cons_cons _ (List.nil_sublist _)))
    rwa [List.length_map, Nat.div_one] at this
  · rw [h2]; exact rds_nil
theorem ipo_Q {x : Ms × Ip} {v : Value} (h1 : x.1.names = []) (E : IT w0 F i x.2 (mA mb x.1 nilV v :: slA v Ty.api_Qid 3 (qqs x.1.qids) :: l) w) : IPo w0 F i mb l x w := by
  refine ⟨nilV, v, [slA v Ty.api_Qid 3 (qqs x.1.qids)], ?_, ?_, E⟩
  · rw [h1]; exact rds_nil
  · have := RdS.sl (T := Ty.api_Qid) (v := v) (sz := 3) (xs := qqs x.1.qids) (l := [slA v Ty.api_Qid 3 (qqs x.1.qids)]) List.mem_cons_self (by omega) (E.rest.tl.drop (.cons_cons _ (List.nil_sublist _)))
    rwa [qqs_len, Nat.mul_div_cancel _ (by omega)] at this
theorem ipo_q {x : Ms × Ip} {qb : Nat} {q : Qi} (h1 : x.1.names = []) (h2 : x.1.qids = [q]) (E : IT w0 F i x.2 (mA mb x.1 nilV (oneV qb) :: pt qb (oc (qcs q) Ty.api_Qid) :: l) w) : IPo w0 F i mb l x w := by
  refine ⟨nilV, oneV qb, [pt qb (oc (qcs q) Ty.api_Qid)], ?_, ?_, E⟩
  · rw [h1]; exact rds_nil
  · rw [h2]
    exact ⟨_, 1, rfl, Nat.le_refl _, rfl, .inr ⟨_, rfl, RdP.pt (off := 0) (cs := qcs q) (T := Ty.api_Qid) List.mem_cons_self⟩⟩
theorem il_S (E : IT w0 F i I (mA mb m nv qv :: l) w) : Ca PP Fn.styx_input_num #[ptr i, .pointer (some ⟨mb, 5, none⟩), i64 4] w fun q w' => q = .tuple #[] ∧ IT w0 F i (Ip.fld m I .xS).2 (mA mb (Ip.fld m I .xS).1 nv qv :: l) w' :=
  (inum_ok (k := 4) (by omega) (by simp) E).mono fun r w' h => h
theorem il_f (E : IT w0 F i I (mA mb m nv qv :: l) w) : Ca PP Fn.styx_input_num #[ptr i, .pointer (some ⟨mb, 2, none⟩), i64 4] w fun q w' => q = .tuple #[] ∧ IT w0 F i (Ip.fld m I .xf).2 (mA mb (Ip.fld m I .xf).1 nv qv :: l) w' :=
  (inum_ok (k := 4) (by omega) (by simp) E).mono fun r w' h => h
theorem il_o (E : IT w0 F i I (mA mb m nv qv :: l) w) : Ca PP Fn.styx_input_num #[ptr i, .pointer (some ⟨mb, 3, none⟩), i64 4] w fun q w' => q = .tuple #[] ∧ IT w0 F i (Ip.fld m I .xo).2 (mA mb (Ip.fld m I .xo).1 nv qv :: l) w' :=
  (inum_ok (k := 4) (by omega) (by simp) E).mono fun r w' h => h
theorem il_d (E : IT w0 F i I (mA mb m nv qv :: l) w) : Ca PP Fn.styx_input_num #[ptr i, .pointer (some ⟨mb, 4, none⟩), i64 2] w fun q w' => q = .tuple #[] ∧ IT w0 F i (Ip.fld m I .xd).2 (mA mb (Ip.fld m I .xd).1 nv qv :: l) w' :=
  (inum_ok (k := 2) (by omega) (by simp) E).mono fun r w' h => h
theorem il_m (E : IT w0 F i I (mA mb m nv qv :: l) w) : Ca PP Fn.styx_input_num #[ptr i, .pointer (some ⟨mb, 7, none⟩), i64 1] w fun q w' => q = .tuple #[] ∧ IT w0 F i (Ip.fld m I .xm).2 (mA mb (Ip.fld m I .xm).1 nv qv :: l) w' :=
  (inum_ok (k := 1) (by omega) (by simp) E).mono fun r w' h => h
theorem il_p (E : IT w0 F i I (mA mb m nv qv :: l) w) : Ca PP Fn.styx_input_num #[ptr i, .pointer (some ⟨mb, 8, none⟩), i64 4] w fun q w' => q = .tuple #[] ∧ IT w0 F i (Ip.fld m I .xp).2 (mA mb (Ip.fld m I .xp).1 nv qv :: l) w' :=
  (inum_ok (k := 4) (by omega) (by simp) E).mono fun r w' h => h
theorem il_v (E : IT w0 F i I (mA mb m nv qv :: l) w) : Ca PP Fn.styx_input_text #[ptr i, .pointer (some ⟨mb, 9, none⟩)] w fun q w' => q = .tuple #[] ∧ IT w0 F i (Ip.fld m I .xv).2 (mA mb (Ip.fld m I .xv).1 nv qv :: l) w' :=
  (itext_ok (by simp) E).mono fun r w' h => h
theorem il_u (E : IT w0 F i I (mA mb m nv qv :: l) w) : Ca PP Fn.styx_input_text #[ptr i, .pointer (some ⟨mb, 10, none⟩)] w fun q w' => q = .tuple #[] ∧ IT w0 F i (Ip.fld m I .xu).2 (mA mb (Ip.fld m I .xu).1 nv qv :: l) w' :=
  (itext_ok (by simp) E).mono fun r w' h => h
theorem il_t (E : IT w0 F i I (mA mb m nv qv :: l) w) : Ca PP Fn.styx_input_text #[ptr i, .pointer (some ⟨mb, 11, none⟩)] w fun q w' => q = .tuple #[] ∧ IT w0 F i (Ip.fld m I .xt).2 (mA mb (Ip.fld m I .xt).1 nv qv :: l) w' :=
  (itext_ok (by simp) E).mono fun r w' h => h
theorem il_N (E : IT w0 F i I (mA mb m nv qv :: l) w) : Ca PP Fn.styx_input_text #[ptr i, .pointer (some ⟨mb, 12, none⟩)] w fun q w' => q = .tuple #[] ∧ IT w0 F i (Ip.fld m I .xN).2 (mA mb (Ip.fld m I .xN).1 nv qv :: l) w' :=
  (itext_ok (by simp) E).mono fun r w' h => h
theorem il_D (E : IT w0 F i I (mA mb m nv qv :: l) w) : Ca PP Fn.styx_input_data #[ptr i, .pointer (some ⟨mb, 15, none⟩)] w fun q w' => q = .tuple #[] ∧ IT w0 F i (Ip.fld m I .xD).2 (mA mb (Ip.fld m I .xD).1 nv qv :: l) w' :=
  (idata_ok (by simp) E).mono fun r w' h => h
theorem il_O (E : IT w0 F i I (mA mb m nv qv :: l) w) : Ca PP Fn.styx_input_long #[ptr i, .pointer (some ⟨mb, 6, none⟩)] w fun q w' => q = .tuple #[] ∧ IT w0 F i (Ip.fld m I .xO).2 (mA mb (Ip.fld m I .xO).1 nv qv :: l) w' :=
  (ilong_ok (by simp) E).mono fun r w' h => h
theorem il_n (E : IT w0 F i I (mA mb m nilV nilV :: l) w) : Ca PP Fn.styx_input_names #[ptr i, .pointer (some ⟨mb, 13, none⟩)] w fun q w' => q = .tuple #[] ∧ ∃ v, IT w0 F i (Ip.fld m I .xn).2 (mA mb (Ip.fld m I .xn).1 v nilV :: slA v Ty.string 1 ((Ip.fld m I .xn).1.names.map sb) :: l) w' :=
  (inames_ok (by simp) rfl E).mono fun r w' h => h
theorem il_Q (E : IT w0 F i I (mA mb m nilV nilV :: l) w) : Ca PP Fn.styx_input_qids #[ptr i, .pointer (some ⟨mb, 14, none⟩)] w fun q w' => q = .tuple #[] ∧ ∃ v, IT w0 F i (Ip.fld m I .xQ).2 (mA mb (Ip.fld m I .xQ).1 nilV v :: slA v Ty.api_Qid 3 (qqs (Ip.fld m I .xQ).1.qids) :: l) w' :=
  (iqids_ok (by simp) rfl E).mono fun r w' h => h
theorem il_i (E : IT w0 F i I (mA mb m nv qv :: l) w) : Ca PP Fn.styx_input_dir #[ptr i, .pointer (some ⟨mb, 16, none⟩)] w fun q w' => q = .tuple #[] ∧ IT w0 F i (Ip.fld m I .xi).2 (mA mb (Ip.fld m I .xi).1 nv qv :: l) w' :=
  (idir_ok (pre := (MC m nv qv).take 16) (post := [i64 m.code]) rfl E).mono fun r w' h => h
theorem il_q (hm : m.qids = []) (E : IT w0 F i I (mA mb m nv nilV :: l) w) :
    Ca PP Fn.styx_one #[.iface Ty.p_styx_input (ptr i), ptr mb] w fun q w' => q = .tuple #[] ∧ ∃ qb, IT w0 F i (Ip.fld m I .xq).2 (mA mb (Ip.fld m I .xq).1 nv (oneV qb) :: pt qb (oc (qcs I.qid.1) Ty.api_Qid) :: l) w' := by
  refine S.styx_one.calls ?_
  unfold S.styx_one
  obtain ⟨r, t, n, e, E, h⟩ := E
  (intro J1 hJ1)
  have fin1 : ∀ qb w_, Hs w0 F w_ (pt i (oc [ptr r, .bool I.bad, .bool I.ov, .bool I.cut] Ty.styx_input) :: rA r t n e :: pt qb (oc [i64 0, i64 0, i64 0] Ty.api_Qid) :: mA mb m nv (oneV qb) :: l) → J1 [] w_ := by
    intro qb w_ E
    (repeat with_reducible first | refine Stp.go ?_ | refine StpE.go E ?_ | (apply hJ1; intro u_))
    refine ⟨_, 1, 1, .i64, 0, rfl, rfl, by omega, by decide, ?_⟩
    show Ca PP Fn.styx_qid #[.iface Ty.p_styx_input (ptr i), ptr qb] w_ _
    refine (iqid_ok (pre := []) (post := []) rfl rfl ⟨r, t, n, e, E, h⟩).mono ?_
    clear E h
    rintro q w_ ⟨rfl, E⟩
    exact ⟨rfl, qb, E.sw⟩
  clear hJ1
  (repeat first | (with_reducible first | refine Stp.go ?_ | refine StpE.go E ?_ | refine LnL.nil ?_) | ((with_reducible refine Bi.dec true ?_ ?_); focus exact rfl))
  refine MkQ E ?_
  clear E
  intro qb w_ hqb E
  (repeat with_reducible first | refine Stp.go ?_ | (refine StpW.go E ?_; clear E; intro w_ E))
  (replace E := (((E.bIx 0).bIx 2).bIx 2))
  exact fin1 qb _ E
theorem ik_100 (hk : m.kind = 100) (hn : m.names = []) (hq : m.qids = []) (E : IT w0 F i I (mA mb m nilV nilV :: l) w) :
    Ca PP Fn.styx_fields #[.iface Ty.p_styx_input (ptr i), ptr mb] w fun q w' => q = .tuple #[] ∧ IPo w0 F i mb l (Ip.flds [.xS, .xv] m I) w' := by
  refine S.styx_fields.calls ?_
  unfold S.styx_fields
  obtain ⟨r, t, n, e, E, h⟩ := E
  (repeat with_reducible first | refine Stp.go ?_ | refine StpE.go E ?_)
  rw [hk, ifl2]
  (repeat first | (with_reducible first | refine Stp.go ?_ | (refine StpW.go E ?_; clear E; intro w_ E) | (apply hJ_; intro u_)) | ((with_reducible refine Bi.dec true ?_ ?_); focus exact rfl) | (intro J_ hJ_))
  refine (il_S ⟨r, t, n, e, E, h⟩).mono ?_
  clear E h
  rintro q w_ ⟨rfl, r, t, n, e, E, h⟩
  (repeat with_reducible first | refine Stp.go ?_ | (refine StpW.go E ?_; clear E; intro w_ E))
  refine (il_v ⟨r, t, n, e, E, h⟩).mono ?_
  clear E h
  rintro q w_ ⟨rfl, r, t, n, e, E, h⟩
  skip
  exact ⟨rfl, ipo_nil hn hq ⟨r, t, n, e, E, h⟩⟩
theorem ik_101 (hk : m.kind = 101) (hn : m.names = []) (hq : m.qids = []) (E : IT w0 F i I (mA mb m nilV nilV :: l) w) :
    Ca PP Fn.styx_fields #[.iface Ty.p_styx_input (ptr i), ptr mb] w fun q w' => q = .tuple #[] ∧ IPo w0 F i mb l (Ip.flds [.xS, .xv] m I) w' := by
  refine S.styx_fields.calls ?_
  unfold S.styx_fields
  obtain ⟨r, t, n, e, E, h⟩ := E
  (repeat with_reducible first | refine Stp.go ?_ | refine StpE.go E ?_)
  rw [hk, ifl2]
  (repeat first | (with_reducible first | refine Stp.go ?_ | (refine StpW.go E ?_; clear E; intro w_ E) | (apply hJ_; intro u_)) | ((with_reducible refine Bi.dec true ?_ ?_); focus exact rfl) | ((with_reducible refine Bi.dec false ?_ ?_); focus exact rfl) | (intro J_ hJ_))
  refine (il_S ⟨r, t, n, e, E, h⟩).mono ?_
  clear E h
  rintro q w_ ⟨rfl, r, t, n, e, E, h⟩
  (repeat with_reducible first | refine Stp.go ?_ | (refine StpW.go E ?_; clear E; intro w_ E))
  refine (il_v ⟨r, t, n, e, E, h⟩).mono ?_
  clear E h
  rintro q w_ ⟨rfl, r, t, n, e, E, h⟩
  skip
  exact ⟨rfl, ipo_nil hn hq ⟨r, t, n, e, E, h⟩⟩
theorem ik_102 (hk : m.kind = 102) (hn : m.names = []) (hq : m.qids = []) (E : IT w0 F i I (mA mb m nilV nilV :: l) w) :
    Ca PP Fn.styx_fields #[.iface Ty.p_styx_input (ptr i), ptr mb] w fun q w' => q = .tuple #[] ∧ IPo w0 F i mb l (Ip.flds [.xf, .xu, .xt] m I) w' := by
  refine S.styx_fields.calls ?_
  unfold S.styx_fields
  obtain ⟨r, t, n, e, E, h⟩ := E
  (repeat with_reducible first | refine Stp.go ?_ | refine StpE.go E ?_)
  rw [hk, ifl3]
  (repeat first | (with_reducible first | refine Stp.go ?_ | (refine StpW.go E ?_; clear E; intro w_ E) | (apply hJ_; intro u_)) | ((with_reducible refine Bi.dec true ?_ ?_); focus exact rfl) | ((with_reducible refine Bi.dec false ?_ ?_); focus exact rfl) | (intro J_ hJ_))
  refine (il_f ⟨r, t, n, e, E, h⟩).mono ?_
  clear E h
  rintro q w_ ⟨rfl, r, t, n, e, E, h⟩
  (repeat with_reducible first | refine Stp.go ?_ | (refine StpW.go E ?_; clear E; intro w_ E))
  refine (il_u ⟨r, t, n, e, E, h⟩).mono ?_
  clear E h
  rintro q w_ ⟨rfl, r, t, n, e, E, h⟩
  (repeat with_reducible first | refine Stp.go ?_ | (refine StpW.go E ?_; clear E; intro w_ E))
  refine (il_t ⟨r, t, n, e, E, h⟩).mono ?_
  clear E h
  rintro q w_ ⟨rfl, r, t, n, e, E, h⟩
  skip
  exact ⟨rfl, ipo_nil hn hq ⟨r, t, n, e, E, h⟩⟩
theorem ik_103 (hk : m.kind = 103) (hn : m.names = []) (hq : m.qids = []) (E : IT w0 F i I (mA mb m nilV nilV :: l) w) :
    Ca PP Fn.styx_fields #[.iface Ty.p_styx_input (ptr i), ptr mb] w fun q w' => q = .tuple #[] ∧ IPo w0 F i mb l (Ip.flds [.xq] m I) w' := by
  refine S.styx_fields.calls ?_
  unfold S.styx_fields
  obtain ⟨r, t, n, e, E, h⟩ := E
  (repeat with_reducible first | refine Stp.go ?_ | refine StpE.go E ?_)
  rw [hk, ifl1]
  (repeat first | (with_reducible first | refine Stp.go ?_ | (apply hJ_; intro u_)) | ((with_reducible refine Bi.dec true ?_ ?_); focus exact rfl) | ((with_reducible refine Bi.dec false ?_ ?_); focus exact rfl) | (intro J_ hJ_))
  refine (il_q hq ⟨r, t, n, e, E, h⟩).mono ?_
  clear E h
  rintro q w_ ⟨rfl, qb, r, t, n, e, E, h⟩
  skip
  exact ⟨rfl, ipo_q hn rfl ⟨r, t, n, e, E, h⟩⟩
theorem ik_105 (hk : m.kind = 105) (hn : m.names = []) (hq : m.qids = []) (E : IT w0 F i I (mA mb m nilV nilV :: l) w) :
    Ca PP Fn.styx_fields #[.iface Ty.p_styx_input (ptr i), ptr mb] w fun q w' => q = .tuple #[] ∧ IPo w0 F i mb l (Ip.flds [.xq] m I) w' := by
  refine S.styx_fields.calls ?_
  unfold S.styx_fields
  obtain ⟨r, t, n, e, E, h⟩ := E
  (repeat with_reducible first | refine Stp.go ?_ | refine StpE.go E ?_)
  rw [hk, ifl1]
  (repeat first | (with_reducible first | refine Stp.go ?_ | (apply hJ_; intro u_)) | ((with_reducible refine Bi.dec true ?_ ?_); focus exact rfl) | ((with_reducible refine Bi.dec false ?_ ?_); focus exact rfl) | (intro J_ hJ_))
  refine (il_q hq ⟨r, t, n, e, E, h⟩).mono ?_
  clear E h
  rintro q w_ ⟨rfl, qb, r, t, n, e, E, h⟩
  skip
  exact ⟨rfl, ipo_q hn rfl ⟨r, t, n, e, E, h⟩⟩
theorem ik_104 (hk : m.kind = 104) (hn : m.names = []) (hq : m.qids = []) (E : IT w0 F i I (mA mb m nilV nilV :: l) w) :
    Ca PP Fn.styx_fields #[.iface Ty.p_styx_input (ptr i), ptr mb] w fun q w' => q = .tuple #[] ∧ IPo w0 F i mb l (Ip.flds [.xf, .xo, .xu, .xt] m I) w' := by
  refine S.styx_fields.calls ?_
  unfold S.styx_fields
  obtain ⟨r, t, n, e, E, h⟩ := E
  (repeat with_reducible first | refine Stp.go ?_ | refine StpE.go E ?_)
  rw [hk, ifl4]
  (repeat first | (with_reducible first | refine Stp.go ?_ | (refine StpW.go E ?_; clear E; intro w_ E) | (apply hJ_; intro u_)) | ((with_reducible refine Bi.dec true ?_ ?_); focus exact rfl) | ((with_reducible refine Bi.dec false ?_ ?_); focus exact rfl) | (intro J_ hJ_))
  refine (il_f ⟨r, t, n, e, E, h⟩).mono ?_
  clear E h
  rintro q w_ ⟨rfl, r, t, n, e, E, h⟩
  (repeat with_reducible first | refine Stp.go ?_ | (refine StpW.go E ?_; clear E; intro w_ E))
  refine (il_o ⟨r, t, n, e, E, h⟩).mono ?_
  clear E h
  rintro q w_ ⟨rfl, r, t, n, e, E, h⟩
  (repeat with_reducible first | refine Stp.go ?_ | (refine StpW.go E ?_; clear E; intro w_ E))
  refine (il_u ⟨r, t, n, e, E, h⟩).mono ?_
  clear E h
  rintro q w_ ⟨rfl, r, t, n, e, E, h⟩
  (repeat with_reducible first | refine Stp.go ?_ | (refine StpW.go E ?_; clear E; intro w_ E))
  refine (il_t ⟨r, t, n, e, E, h⟩).mono ?_
  clear E h
  rintro q w_ ⟨rfl, r, t, n, e, E, h⟩
  skip
  exact ⟨rfl, ipo_nil hn hq ⟨r, t, n, e, E, h⟩⟩
theorem ik_107 (hk : m.kind = 107) (hn : m.names = []) (hq : m.qids = []) (E : IT w0 F i I (mA mb m nilV nilV :: l) w) :
    Ca PP Fn.styx_fields #[.iface Ty.p_styx_input (ptr i), ptr mb] w fun q w' => q = .tuple #[] ∧ IPo w0 F i mb l (Ip.flds [.xc] m I) w' := by
  refine S.styx_fields.calls ?_
  unfold S.styx_fields
  obtain ⟨r, t, n, e, E, h⟩ := E
  (repeat with_reducible first | refine Stp.go ?_ | refine StpE.go E ?_)
  rw [hk, ifl1]
  (repeat first | (with_reducible first | refine Stp.go ?_ | refine StpE.go E ?_ | (refine StpW.go E ?_; clear E; intro w_ E) | (refine StpA.go E ?_; clear E; intro b_ w_ hb_ E) | (apply hJ_; intro u_)) | ((with_reducible refine Bi.dec true ?_ ?_); focus exact rfl) | ((with_reducible refine Bi.dec false ?_ ?_); focus exact rfl) | (intro J_ hJ_))
  (revert b_; intro c hbc E)
  (replace E := (((E.bIx 0).bIx 2).bIx 2))
  refine (inum_ok (k := 2) (off := 0) (by omega) (by simp) ⟨r, t, n, e, E, h⟩).mono ?_
  clear E h
  rintro q w_ ⟨rfl, r, t, n, e, E, h⟩
  (try simp only [List.set_cons_zero, List.set_cons_succ, List.cons_append, List.nil_append, Nat.zero_add, Nat.add_zero] at E)
  (repeat with_reducible first | refine Stp.go ?_ | refine StpE.go E ?_ | (refine StpW.go E ?_; clear E; intro w_ E))
  (replace E := ((((E.bIx 2).bIx 3).bIx 3).bIx 3))
  exact ⟨rfl, ipo_nil (x := Ip.fld m I .xc) hn hq ⟨r, t, n, e, E.drop (.cons_cons _ (.cons_cons _ (.cons_cons _ (.cons _ (List.Sublist.refl _))))), h⟩⟩
theorem ik_108 (hk : m.kind = 108) (hn : m.names = []) (hq : m.qids = []) (E : IT w0 F i I (mA mb m nilV nilV :: l) w) :
    Ca PP Fn.styx_fields #[.iface Ty.p_styx_input (ptr i), ptr mb] w fun q w' => q = .tuple #[] ∧ IPo w0 F i mb l (Ip.flds [.xd] m I) w' := by
  refine S.styx_fields.calls ?_
  unfold S.styx_fields
  obtain ⟨r, t, n, e, E, h⟩ := E
  (repeat with_reducible first | refine Stp.go ?_ | refine StpE.go E ?_)
  rw [hk, ifl1]
  (repeat first | (with_reducible first | refine Stp.go ?_ | (refine StpW.go E ?_; clear E; intro w_ E) | (apply hJ_; intro u_)) | ((with_reducible refine Bi.dec true ?_ ?_); focus exact rfl) | ((with_reducible refine Bi.dec false ?_ ?_); focus exact rfl) | (intro J_ hJ_))
  refine (il_d ⟨r, t, n, e, E, h⟩).mono ?_
  clear E h
  rintro q w_ ⟨rfl, r, t, n, e, E, h⟩
  skip
  exact ⟨rfl, ipo_nil hn hq ⟨r, t, n, e, E, h⟩⟩
theorem ik_110 (hk : m.kind = 110) (hn : m.names = []) (hq : m.qids = []) (E : IT w0 F i I (mA mb m nilV nilV :: l) w) :
    Ca PP Fn.styx_fields #[.iface Ty.p_styx_input (ptr i), ptr mb] w fun q w' => q = .tuple #[] ∧ IPo w0 F i mb l (Ip.flds [.xf, .xo, .xn] m I) w' := by
  refine S.styx_fields.calls ?_
  unfold S.styx_fields
  obtain ⟨r, t, n, e, E, h⟩ := E
  (repeat with_reducible first | refine Stp.go ?_ | refine StpE.go E ?_)
  rw [hk, ifl3]
  (repeat first | (with_reducible first | refine Stp.go ?_ | (refine StpW.go E ?_; clear E; intro w_ E) | (apply hJ_; intro u_)) | ((with_reducible refine Bi.dec true ?_ ?_); focus exact rfl) | ((with_reducible refine Bi.dec false ?_ ?_); focus exact rfl) | (intro J_ hJ_))
  refine (il_f ⟨r, t, n, e, E, h⟩).mono ?_
  clear E h
  rintro q w_ ⟨rfl, r, t, n, e, E, h⟩
  (repeat with_reducible first | refine Stp.go ?_ | (refine StpW.go E ?_; clear E; intro w_ E))
  refine (il_o ⟨r, t, n, e, E, h⟩).mono ?_
  clear E h
  rintro q w_ ⟨rfl, r, t, n, e, E, h⟩
  (repeat with_reducible first | refine Stp.go ?_ | (refine StpW.go E ?_; clear E; intro w_ E))
  refine (il_n ⟨r, t, n, e, E, h⟩).mono ?_
  clear E h
  rintro q w_ ⟨rfl, v, E⟩
  exact ⟨rfl, ipo_n hq E⟩
theorem ik_111 (hk : m.kind = 111) (hn : m.names = []) (hq : m.qids = []) (E : IT w0 F i I (mA mb m nilV nilV :: l) w) :
    Ca PP Fn.styx_fields #[.iface Ty.p_styx_input (ptr i), ptr mb] w fun q w' => q = .tuple #[] ∧ IPo w0 F i mb l (Ip.flds [.xQ] m I) w' := by
  refine S.styx_fields.calls ?_
  unfold S.styx_fields
  obtain ⟨r, t, n, e, E, h⟩ := E
  (repeat with_reducible first | refine Stp.go ?_ | refine StpE.go E ?_)
  rw [hk, ifl1]
  (repeat first | (with_reducible first | refine Stp.go ?_ | (refine StpW.go E ?_; clear E; intro w_ E) | (apply hJ_; intro u_)) | ((with_reducible refine Bi.dec true ?_ ?_); focus exact rfl) | ((with_reducible refine Bi.dec false ?_ ?_); focus exact rfl) | (intro J_ hJ_))
  refine (il_Q ⟨r, t, n, e, E, h⟩).mono ?_
  clear E h
  rintro q w_ ⟨rfl, v, E⟩
  exact ⟨rfl, ipo_Q hn E⟩
theorem ik_112 (hk : m.kind = 112) (hn : m.names = []) (hq : m.qids = []) (E : IT w0 F i I (mA mb m nilV nilV :: l) w) :
    Ca PP Fn.styx_fields #[.iface Ty.p_styx_input (ptr i), ptr mb] w fun q w' => q = .tuple #[] ∧ IPo w0 F i mb l (Ip.flds [.xf, .xm] m I) w' := by
  refine S.styx_fields.calls ?_
  unfold S.styx_fields
  obtain ⟨r, t, n, e, E, h⟩ := E
  (repeat with_reducible first | refine Stp.go ?_ | refine StpE.go E ?_)
  rw [hk, ifl2]
  (repeat first | (with_reducible first | refine Stp.go ?_ | (refine StpW.go E ?_; clear E; intro w_ E) | (apply hJ_; intro u_)) | ((with_reducible refine Bi.dec true ?_ ?_); focus exact rfl) | ((with_reducible refine Bi.dec false ?_ ?_); focus exact rfl) | (intro J_ hJ_))
  refine (il_f ⟨r, t, n, e, E, h⟩).mono ?_
  clear E h
  rintro q w_ ⟨rfl, r, t, n, e, E, h⟩
  (repeat with_reducible first | refine Stp.go ?_ | (refine StpW.go E ?_; clear E; intro w_ E))
  refine (il_m ⟨r, t, n, e, E, h⟩).mono ?_
  clear E h
  rintro q w_ ⟨rfl, r, t, n, e, E, h⟩
  skip
  exact ⟨rfl, ipo_nil hn hq ⟨r, t, n, e, E, h⟩⟩
theorem ik_113 (hk : m.kind = 113) (hn : m.names = []) (hq : m.qids = []) (E : IT w0 F i I (mA mb m nilV nilV :: l) w) :
    Ca PP Fn.styx_fields #[.iface Ty.p_styx_input (ptr i), ptr mb] w fun q w' => q = .tuple #[] ∧ IPo w0 F i mb l (Ip.flds [.xq, .xS] m I) w' := by
  refine S.styx_fields.calls ?_
  unfold S.styx_fields
  obtain ⟨r, t, n, e, E, h⟩ := E
  (repeat with_reducible first | refine Stp.go ?_ | refine StpE.go E ?_)
  rw [hk, ifl2]
  (repeat first | (with_reducible first | refine Stp.go ?_ | (apply hJ_; intro u_)) | ((with_reducible refine Bi.dec true ?_ ?_); focus exact rfl) | ((with_reducible refine Bi.dec false ?_ ?_); focus exact rfl) | (intro J_ hJ_))
  refine (il_q hq ⟨r, t, n, e, E, h⟩).mono ?_
  clear E h
  rintro q w_ ⟨rfl, qb, r, t, n, e, E, h⟩
  (repeat with_reducible first | refine Stp.go ?_ | (refine StpW.go E ?_; clear E; intro w_ E))
  refine (il_S ⟨r, t, n, e, E, h⟩).mono ?_
  clear E h
  rintro q w_ ⟨rfl, r, t, n, e, E, h⟩
  skip
  exact ⟨rfl, ipo_q hn rfl ⟨r, t, n, e, E, h⟩⟩
theorem ik_115 (hk : m.kind = 115) (hn : m.names = []) (hq : m.qids = []) (E : IT w0 F i I (mA mb m nilV nilV :: l) w) :
    Ca PP Fn.styx_fields #[.iface Ty.p_styx_input (ptr i), ptr mb] w fun q w' => q = .tuple #[] ∧ IPo w0 F i mb l (Ip.flds [.xq, .xS] m I) w' := by
  refine S.styx_fields.calls ?_
  unfold S.styx_fields
  obtain ⟨r, t, n, e, E, h⟩ := E
  (repeat with_reducible first | refine Stp.go ?_ | refine StpE.go E ?_)
  rw [hk, ifl2]
  (repeat first | (with_reducible first | refine Stp.go ?_ | (apply hJ_; intro u_)) | ((with_reducible refine Bi.dec true ?_ ?_); focus exact rfl) | ((with_reducible refine Bi.dec false ?_ ?_); focus exact rfl) | (intro J_ hJ_))
  refine (il_q hq ⟨r, t, n, e, E, h⟩).mono ?_
  clear E h
  rintro q w_ ⟨rfl, qb, r, t, n, e, E, h⟩
  (repeat with_reducible first | refine Stp.go ?_ | (refine StpW.go E ?_; clear E; intro w_ E))
  refine (il_S ⟨r, t, n, e, E, h⟩).mono ?_
  clear E h
  rintro q w_ ⟨rfl, r, t, n, e, E, h⟩
  skip
  exact ⟨rfl, ipo_q hn rfl ⟨r, t, n, e, E, h⟩⟩
theorem ik_114 (hk : m.kind = 114) (hn : m.names = []) (hq : m.qids = []) (E : IT w0 F i I (mA mb m nilV nilV :: l) w) :
    Ca PP Fn.styx_fields #[.iface Ty.p_styx_input (ptr i), ptr mb] w fun q w' => q = .tuple #[] ∧ IPo w0 F i mb l (Ip.flds [.xf, .xN, .xp, .xm] m I) w' := by
  refine S.styx_fields.calls ?_
  unfold S.styx_fields
  obtain ⟨r, t, n, e, E, h⟩ := E
  (repeat with_reducible first | refine Stp.go ?_ | refine StpE.go E ?_)
  rw [hk, ifl4]
  (repeat first | (with_reducible first | refine Stp.go ?_ | (refine StpW.go E ?_; clear E; intro w_ E) | (apply hJ_; intro u_)) | ((with_reducible refine Bi.dec true ?_ ?_); focus exact rfl) | ((with_reducible refine Bi.dec false ?_ ?_); focus exact rfl) | (intro J_ hJ_))
  refine (il_f ⟨r, t, n, e, E, h⟩).mono ?_
  clear E h
  rintro q w_ ⟨rfl, r, t, n, e, E, h⟩
  (repeat with_reducible first | refine Stp.go ?_ | (refine StpW.go E ?_; clear E; intro w_ E))
  refine (il_N ⟨r, t, n, e, E, h⟩).mono ?_
  clear E h
  rintro q w_ ⟨rfl, r, t, n, e, E, h⟩
  (repeat with_reducible first | refine Stp.go ?_ | (refine StpW.go E ?_; clear E; intro w_ E))
  refine (il_p ⟨r, t, n, e, E, h⟩).mono ?_
  clear E h
  rintro q w_ ⟨rfl, r, t, n, e, E, h⟩
  (repeat with_reducible first | refine Stp.go ?_ | (refine StpW.go E ?_; clear E; intro w_ E))
  refine (il_m ⟨r, t, n, e, E, h⟩).mono ?_
  clear E h
  rintro q w_ ⟨rfl, r, t, n, e, E, h⟩
  skip
  exact ⟨rfl, ipo_nil hn hq ⟨r, t, n, e, E, h⟩⟩
theorem ik_116 (hk : m.kind = 116) (hn : m.names = []) (hq : m.qids = []) (E : IT w0 F i I (mA mb m nilV nilV :: l) w) :
    Ca PP Fn.styx_fields #[.iface Ty.p_styx_input (ptr i), ptr mb] w fun q w' => q = .tuple #[] ∧ IPo w0 F i mb l (Ip.flds [.xf, .xO, .xS] m I) w' := by
  refine S.styx_fields.calls ?_
  unfold S.styx_fields
  obtain ⟨r, t, n, e, E, h⟩ := E
  (repeat with_reducible first | refine Stp.go ?_ | refine StpE.go E ?_)
  rw [hk, ifl3]
  (repeat first | (with_reducible first | refine Stp.go ?_ | (refine StpW.go E ?_; clear E; intro w_ E) | (apply hJ_; intro u_)) | ((with_reducible refine Bi.dec true ?_ ?_); focus exact rfl) | ((with_reducible refine Bi.dec false ?_ ?_); focus exact rfl) | (intro J_ hJ_))
  refine (il_f ⟨r, t, n, e, E, h⟩).mono ?_
  clear E h
  rintro q w_ ⟨rfl, r, t, n, e, E, h⟩
  (repeat with_reducible first | refine Stp.go ?_ | (refine StpW.go E ?_; clear E; intro w_ E))
  refine (il_O ⟨r, t, n, e, E, h⟩).mono ?_
  clear E h
  rintro q w_ ⟨rfl, r, t, n, e, E, h⟩
  (repeat with_reducible first | refine Stp.go ?_ | (refine StpW.go E ?_; clear E; intro w_ E))
  refine (il_S ⟨r, t, n, e, E, h⟩).mono ?_
  clear E h
  rintro q w_ ⟨rfl, r, t, n, e, E, h⟩
  skip
  exact ⟨rfl, ipo_nil hn hq ⟨r, t, n, e, E, h⟩⟩
theorem ik_117 (hk : m.kind = 117) (hn : m.names = []) (hq : m.qids = []) (E : IT w0 F i I (mA mb m nilV nilV :: l) w) :
    Ca PP Fn.styx_fields #[.iface Ty.p_styx_input (ptr i), ptr mb] w fun q w' => q = .tuple #[] ∧ IPo w0 F i mb l (Ip.flds [.xD] m I) w' := by
  refine S.styx_fields.calls ?_
  unfold S.styx_fields
  obtain ⟨r, t, n, e, E, h⟩ := E
  (repeat with_reducible first | refine Stp.go ?_ | refine StpE.go E ?_)
  rw [hk, ifl1]
  (repeat first | (with_reducible first | refine Stp.go ?_ | (refine StpW.go E ?_; clear E; intro w_ E) | (apply hJ_; intro u_)) | ((with_reducible refine Bi.dec true ?_ ?_); focus exact rfl) | ((with_reducible refine Bi.dec false ?_ ?_); focus exact rfl) | (intro J_ hJ_))
  refine (il_D ⟨r, t, n, e, E, h⟩).mono ?_
  clear E h
  rintro q w_ ⟨rfl, r, t, n, e, E, h⟩
  skip
  exact ⟨rfl, ipo_nil hn hq ⟨r, t, n, e, E, h⟩⟩
theorem ik_118 (hk : m.kind = 118) (hn : m.names = []) (hq : m.qids = []) (E : IT w0 F i I (mA mb m nilV nilV :: l) w) :
    Ca PP Fn.styx_fields #[.iface Ty.p_styx_input (ptr i), ptr mb] w fun q w' => q = .tuple #[] ∧ IPo w0 F i mb l (Ip.flds [.xf, .xO, .xD] m I) w' := by
  refine S.styx_fields.calls ?_
  unfold S.styx_fields
  obtain ⟨r, t, n, e, E, h⟩ := E
  (repeat with_reducible first | refine Stp.go ?_ | refine StpE.go E ?_)
  rw [hk, ifl3]
  (repeat first | (with_reducible first | refine Stp.go ?_ | (refine StpW.go E ?_; clear E; intro w_ E) | (apply hJ_; intro u_)) | ((with_reducible refine Bi.dec true ?_ ?_); focus exact rfl) | ((with_reducible refine Bi.dec false ?_ ?_); focus exact rfl) | (intro J_ hJ_))
  refine (il_f ⟨r, t, n, e, E, h⟩).mono ?_
  clear E h
  rintro q w_ ⟨rfl, r, t, n, e, E, h⟩
  (repeat with_reducible first | refine Stp.go ?_ | (refine StpW.go E ?_; clear E; intro w_ E))
  refine (il_O ⟨r, t, n, e, E, h⟩).mono ?_
  clear E h
  rintro q w_ ⟨rfl, r, t, n, e, E, h⟩
  (repeat with_reducible first | refine Stp.go ?_ | (refine StpW.go E ?_; clear E; intro w_ E))
  refine (il_D ⟨r, t, n, e, E, h⟩).mono ?_
  clear E h
  rintro q w_ ⟨rfl, r, t, n, e, E, h⟩
  skip
  exact ⟨rfl, ipo_nil hn hq ⟨r, t, n, e, E, h⟩⟩
theorem ik_119 (hk : m.kind = 119) (hn : m.names = []) (hq : m.qids = []) (E : IT w0 F i I (mA mb m nilV nilV :: l) w) :
    Ca PP Fn.styx_fields #[.iface Ty.p_styx_input (ptr i), ptr mb] w fun q w' => q = .tuple #[] ∧ IPo w0 F i mb l (Ip.flds [.xS] m I) w' := by
  refine S.styx_fields.calls ?_
  unfold S.styx_fields
  obtain ⟨r, t, n, e, E, h⟩ := E
  (repeat with_reducible first | refine Stp.go ?_ | refine StpE.go E ?_)
  rw [hk, ifl1]
  (repeat first | (with_reducible first | refine Stp.go ?_ | (refine StpW.go E ?_; clear E; intro w_ E) | (apply hJ_; intro u_)) | ((with_reducible refine Bi.dec true ?_ ?_); focus exact rfl) | ((with_reducible refine Bi.dec false ?_ ?_); focus exact rfl) | (intro J_ hJ_))
  refine (il_S ⟨r, t, n, e, E, h⟩).mono ?_
  clear E h
  rintro q w_ ⟨rfl, r, t, n, e, E, h⟩
  skip
  exact ⟨rfl, ipo_nil hn hq ⟨r, t, n, e, E, h⟩⟩
theorem ik_120 (hk : m.kind = 120) (hn : m.names = []) (hq : m.qids = []) (E : IT w0 F i I (mA mb m nilV nilV :: l) w) :
    Ca PP Fn.styx_fields #[.iface Ty.p_styx_input (ptr i), ptr mb] w fun q w' => q = .tuple #[] ∧ IPo w0 F i mb l (Ip.flds [.xf] m I) w' := by
  refine S.styx_fields.calls ?_
  unfold S.styx_fields
  obtain ⟨r, t, n, e, E, h⟩ := E
  (repeat with_reducible first | refine Stp.go ?_ | refine StpE.go E ?_)
  rw [hk, ifl1]
  (repeat first | (with_reducible first | refine Stp.go ?_ | (refine StpW.go E ?_; clear E; intro w_ E) | (apply hJ_; intro u_)) | ((with_reducible refine Bi.dec true ?_ ?_); focus exact rfl) | ((with_reducible refine Bi.dec false ?_ ?_); focus exact rfl) | (intro J_ hJ_))
  refine (il_f ⟨r, t, n, e, E, h⟩).mono ?_
  clear E h
  rintro q w_ ⟨rfl, r, t, n, e, E, h⟩
  skip
  exact ⟨rfl, ipo_nil hn hq ⟨r, t, n, e, E, h⟩⟩
theorem ik_122 (hk : m.kind = 122) (hn : m.names = []) (hq : m.qids = []) (E : IT w0 F i I (mA mb m nilV nilV :: l) w) :
    Ca PP Fn.styx_fields #[.iface Ty.p_styx_input (ptr i), ptr mb] w fun q w' => q = .tuple #[] ∧ IPo w0 F i mb l (Ip.flds [.xf] m I) w' := by
  refine S.styx_fields.calls ?_
  unfold S.styx_fields
  obtain ⟨r, t, n, e, E, h⟩ := E
  (repeat with_reducible first | refine Stp.go ?_ | refine StpE.go E ?_)
  rw [hk, ifl1]
  (repeat first | (with_reducible first | refine Stp.go ?_ | (refine StpW.go E ?_; clear E; intro w_ E) | (apply hJ_; intro u_)) | ((with_reducible refine Bi.dec true ?_ ?_); focus exact rfl) | ((with_reducible refine Bi.dec false ?_ ?_); focus exact rfl) | (intro J_ hJ_))
  refine (il_f ⟨r, t, n, e, E, h⟩).mono ?_
  clear E h
  rintro q w_ ⟨rfl, r, t, n, e, E, h⟩
  skip
  exact ⟨rfl, ipo_nil hn hq ⟨r, t, n, e, E, h⟩⟩
theorem ik_124 (hk : m.kind = 124) (hn : m.names = []) (hq : m.qids = []) (E : IT w0 F i I (mA mb m nilV nilV :: l) w) :
    Ca PP Fn.styx_fields #[.iface Ty.p_styx_input (ptr i), ptr mb] w fun q w' => q = .tuple #[] ∧ IPo w0 F i mb l (Ip.flds [.xf] m I) w' := by
  refine S.styx_fields.calls ?_
  unfold S.styx_fields
  obtain ⟨r, t, n, e, E, h⟩ := E
  (repeat with_reducible first | refine Stp.go ?_ | refine StpE.go E ?_)
  rw [hk, ifl1]
  (repeat first | (with_reducible first | refine Stp.go ?_ | (refine StpW.go E ?_; clear E; intro w_ E) | (apply hJ_; intro u_)) | ((with_reducible refine Bi.dec true ?_ ?_); focus exact rfl) | ((with_reducible refine Bi.dec false ?_ ?_); focus exact rfl) | (intro J_ hJ_))
  refine (il_f ⟨r, t, n, e, E, h⟩).mono ?_
  clear E h
  rintro q w_ ⟨rfl, r, t, n, e, E, h⟩
  skip
  exact ⟨rfl, ipo_nil hn hq ⟨r, t, n, e, E, h⟩⟩
theorem ik_125 (hk : m.kind = 125) (hn : m.names = []) (hq : m.qids = []) (E : IT w0 F i I (mA mb m nilV nilV :: l) w) :
    Ca PP Fn.styx_fields #[.iface Ty.p_styx_input (ptr i), ptr mb] w fun q w' => q = .tuple #[] ∧ IPo w0 F i mb l (Ip.flds [.xi] m I) w' := by
  refine S.styx_fields.calls ?_
  unfold S.styx_fields
  obtain ⟨r, t, n, e, E, h⟩ := E
  (repeat with_reducible first | refine Stp.go ?_ | refine StpE.go E ?_)
  rw [hk, ifl1]
  (repeat first | (with_reducible first | refine Stp.go ?_ | (refine StpW.go E ?_; clear E; intro w_ E) | (apply hJ_; intro u_)) | ((with_reducible refine Bi.dec true ?_ ?_); focus exact rfl) | ((with_reducible refine Bi.dec false ?_ ?_); focus exact rfl) | (intro J_ hJ_))
  refine (il_i ⟨r, t, n, e, E, h⟩).mono ?_
  clear E h
  rintro q w_ ⟨rfl, r, t, n, e, E, h⟩
  skip
  exact ⟨rfl, ipo_nil hn hq ⟨r, t, n, e, E, h⟩⟩
theorem ik_126 (hk : m.kind = 126) (hn : m.names = []) (hq : m.qids = []) (E : IT w0 F i I (mA mb m nilV nilV :: l) w) :
    Ca PP Fn.styx_fields #[.iface Ty.p_styx_input (ptr i), ptr mb] w fun q w' => q = .tuple #[] ∧ IPo w0 F i mb l (Ip.flds [.xf, .xi] m I) w' := by
  refine S.styx_fields.calls ?_
  unfold S.styx_fields
  obtain ⟨r, t, n, e, E, h⟩ := E
  (repeat with_reducible first | refine Stp.go ?_ | refine StpE.go E ?_)
  rw [hk, ifl2]
  (repeat first | (with_reducible first | refine Stp.go ?_ | (refine StpW.go E ?_; clear E; intro w_ E) | (apply hJ_; intro u_)) | ((with_reducible refine Bi.dec true ?_ ?_); focus exact rfl) | ((with_reducible refine Bi.dec false ?_ ?_); focus exact rfl) | (intro J_ hJ_))
  refine (il_f ⟨r, t, n, e, E, h⟩).mono ?_
  clear E h
  rintro q w_ ⟨rfl, r, t, n, e, E, h⟩
  (repeat with_reducible first | refine Stp.go ?_ | (refine StpW.go E ?_; clear E; intro w_ E))
  refine (il_i ⟨r, t, n, e, E, h⟩).mono ?_
  clear E h
  rintro q w_ ⟨rfl, r, t, n, e, E, h⟩
  skip
  exact ⟨rfl, ipo_nil hn hq ⟨r, t, n, e, E, h⟩⟩
theorem ik_109 (hk : m.kind = 109) (hn : m.names = []) (hq : m.qids = []) (E : IT w0 F i I (mA mb m nilV nilV :: l) w) :
    Ca PP Fn.styx_fields #[.iface Ty.p_styx_input (ptr i), ptr mb] w fun q w' => q = .tuple #[] ∧ IPo w0 F i mb l (Ip.flds [] m I) w' := by
  refine S.styx_fields.calls ?_
  unfold S.styx_fields
  obtain ⟨r, t, n, e, E, h⟩ := E
  (repeat with_reducible first | refine Stp.go ?_ | refine StpE.go E ?_)
  rw [hk, ifl0]
  (repeat first | (with_reducible first | refine Stp.go ?_ | (apply hJ_; intro u_)) | ((with_reducible refine Bi.dec false ?_ ?_); focus exact rfl) | (intro J_ hJ_))
  exact ⟨rfl, ipo_nil hn hq ⟨r, t, n, e, E, h⟩⟩
theorem ik_121 (hk : m.kind = 121) (hn : m.names = []) (hq : m.qids = []) (E : IT w0 F i I (mA mb m nilV nilV :: l) w) :
    Ca PP Fn.styx_fields #[.iface Ty.p_styx_input (ptr i), ptr mb] w fun q w' => q = .tuple #[] ∧ IPo w0 F i mb l (Ip.flds [] m I) w' := by
  refine S.styx_fields.calls ?_
  unfold S.styx_fields
  obtain ⟨r, t, n, e, E, h⟩ := E
  (repeat with_reducible first | refine Stp.go ?_ | refine StpE.go E ?_)
  rw [hk, ifl0]
  (repeat first | (with_reducible first | refine Stp.go ?_ | (apply hJ_; intro u_)) | ((with_reducible refine Bi.dec false ?_ ?_); focus exact rfl) | (intro J_ hJ_))
  exact ⟨rfl, ipo_nil hn hq ⟨r, t, n, e, E, h⟩⟩
theorem ik_123 (hk : m.kind = 123) (hn : m.names = []) (hq : m.qids = []) (E : IT w0 F i I (mA mb m nilV nilV :: l) w) :
    Ca PP Fn.styx_fields #[.iface Ty.p_styx_input (ptr i), ptr mb] w fun q w' => q = .tuple #[] ∧ IPo w0 F i mb l (Ip.flds [] m I) w' := by
  refine S.styx_fields.calls ?_
  unfold S.styx_fields
  obtain ⟨r, t, n, e, E, h⟩ := E
  (repeat with_reducible first | refine Stp.go ?_ | refine StpE.go E ?_)
  rw [hk, ifl0]
  (repeat first | (with_reducible first | refine Stp.go ?_ | (apply hJ_; intro u_)) | ((with_reducible refine Bi.dec false ?_ ?_); focus exact rfl) | (intro J_ hJ_))
  exact ⟨rfl, ipo_nil hn hq ⟨r, t, n, e, E, h⟩⟩
theorem ik_127 (hk : m.kind = 127) (hn : m.names = []) (hq : m.qids = []) (E : IT w0 F i I (mA mb m nilV nilV :: l) w) :
    Ca PP Fn.styx_fields #[.iface Ty.p_styx_input (ptr i), ptr mb] w fun q w' => q = .tuple #[] ∧ IPo w0 F i mb l (Ip.flds [] m I) w' := by
  refine S.styx_fields.calls ?_
  unfold S.styx_fields
  obtain ⟨r, t, n, e, E, h⟩ := E
  (repeat with_reducible first | refine Stp.go ?_ | refine StpE.go E ?_)
  rw [hk, ifl0]
  (repeat first | (with_reducible first | refine Stp.go ?_ | (apply hJ_; intro u_)) | ((with_reducible refine Bi.dec false ?_ ?_); focus exact rfl) | (intro J_ hJ_))
  exact ⟨rfl, ipo_nil hn hq ⟨r, t, n, e, E, h⟩⟩
theorem ifields_ok {fl : List Fl} (hfl : fls m.kind = some fl) (hn : m.names = []) (hq : m.qids = []) (E : IT w0 F i I (mA mb m nilV nilV :: l) w) :
    Ca PP Fn.styx_fields #[.iface Ty.p_styx_input (ptr i), ptr mb] w fun q w' => q = .tuple #[] ∧ IPo w0 F i mb l (Ip.flds fl m I) w' := by
  rcases fls_cases hfl with ⟨(hk | hk), rfl⟩ | ⟨hk, rfl⟩ | ⟨(hk | hk), rfl⟩ | ⟨hk, rfl⟩ | ⟨hk, rfl⟩ | ⟨hk, rfl⟩ | ⟨hk, rfl⟩ | ⟨hk, rfl⟩ | ⟨hk, rfl⟩ | ⟨(hk | hk), rfl⟩ | ⟨hk, rfl⟩ | ⟨hk, rfl⟩ | ⟨hk, rfl⟩ | ⟨hk, rfl⟩ | ⟨hk, rfl⟩ | ⟨(hk | hk | hk), rfl⟩ | ⟨hk, rfl⟩ | ⟨hk, rfl⟩ | ⟨(hk | hk | hk | hk), rfl⟩
  · exact ik_100 hk hn hq E
  · exact ik_101 hk hn hq E
  · exact ik_102 hk hn hq E
  · exact ik_103 hk hn hq E
  · exact ik_105 hk hn hq E
  · exact ik_104 hk hn hq E
  · exact ik_107 hk hn hq E
  · exact ik_108 hk hn hq E
  · exact ik_110 hk hn hq E
  · exact ik_111 hk hn hq E
  · exact ik_112 hk hn hq E
  · exact ik_113 hk hn hq E
  · exact ik_115 hk hn hq E
  · exact ik_114 hk hn hq E
  · exact ik_116 hk hn hq E
  · exact ik_117 hk hn hq E
  · exact ik_118 hk hn hq E
  · exact ik_119 hk hn hq E
  · exact ik_120 hk hn hq E
  · exact ik_122 hk hn hq E
  · exact ik_124 hk hn hq E
  · exact ik_125 hk hn hq E
  · exact ik_126 hk hn hq E
  · exact ik_109 hk hn hq E
  · exact ik_121 hk hn hq E
  · exact ik_123 hk hn hq E
  · exact ik_127 hk hn hq E
end Go.Proofs.YtmlccboapkkcfaaDoor

/-
  The protocol: Decode.
-/
namespace Go.Proofs.YtmlccboapkkcfaaDoor
open Go Go.Sh
set_option maxRecDepth 100000
set_option linter.unusedVariables false
set_option linter.unusedSimpArgs false
variable {w0 w : World} {F : Nat → Prop} {l : List As}
variable {s : List UInt8}
theorem length_ok (hs : s.length ≤ 1000000000000) (E : Hs w0 F w l) : Ca PP Fn.styx_length #[sb s] w fun q w' => q = i64 ((if 4 ≤ s.length then un (s.take 4) else 0 : Nat) : Int) ∧ Hs w0 F w' l := by
  refine S.styx_length.calls ?_
  unfold S.styx_length
  refine (NewReader_ok E).mono ?_
  clear E
  rintro q w_ ⟨r, rfl, E⟩
  refine (RLittle_ok (n := 4) (by omega) hs (Nat.zero_le _) E).mono ?_
  clear E
  rintro q w_ (⟨he, _⟩ | ⟨he, x, n', rfl, hn, hp, E⟩ | ⟨he, hp, e', he', rfl, E⟩)
  · exact absurd rfl he
  · (repeat with_reducible refine Stp.go ?_)
    unfold rd at hp
    rw [List.drop_zero] at hp
    by_cases h4 : 4 ≤ s.length
    · rw [if_pos h4] at hp ⊢
      have := congrArg (fun o => o.map Prod.fst) hp
      simp only [Option.map_some] at this
      exact ⟨(Option.some.inj this).symm, E.tl⟩
    · rw [if_neg h4] at hp; cases hp
  · (repeat with_reducible refine Stp.go ?_)
    unfold rd at hp
    rw [List.drop_zero] at hp
    by_cases h4 : 4 ≤ s.length
    · rw [if_pos h4] at hp; cases hp
    · rw [if_neg h4]
      exact ⟨rfl, E.tl⟩
/-- A message that was read, and where its lists lie. -/
def DMs (w0 : World) (F : Nat → Prop) (l : List As) (m : Ms) (e : Int) (q : Value) (w : World) : Prop :=
  ∃ nv qv X, q = .tuple #[.agg (MC m nv qv).toArray, i64 e] ∧ RdS w0 F X 1 m.names.length nv (m.names.map sb) ∧ RdS w0 F X 3 m.qids.length qv (qqs m.qids) ∧ Hs w0 F w (X ++ l)
theorem DMs.zero {e : Int} (E : Hs w0 F w l) : DMs w0 F l m0 e (.tuple #[.agg (MC m0 nilV nilV).toArray, i64 e]) w := ⟨nilV, nilV, [], rfl, rds_nil, rds_nil, E⟩
theorem Decode_ok (hW : Wds w0 F) (hs : s.length ≤ 1000000000000) (E : Hs w0 F w l) :
    Ca PP Fn.styx_Decode #[sb s] w fun q w' => DMs w0 F l (dec s).1 (dec s).2 q w' := by
  rw [← decP_dec]
  refine S.styx_Decode.calls ?_
  unfold S.styx_Decode
  (repeat with_reducible (refine StpA.go E ?_; clear E; intro b_ w_ hb_ E))
  (revert b_; intro rb hbrb E)
  refine (length_ok hs E).mono ?_
  clear E
  rintro q w_ ⟨rfl, E⟩
  (repeat with_reducible refine Stp.go ?_)
  rw [mkB_size]
  refine Bi.lss ?_ ?_ <;> intro c1 <;> (repeat with_reducible first | refine Stp.go ?_ | refine StpE.go E ?_)
  · have hP : decP s = (m0, 16) := by unfold decP; rw [if_pos (by omega)]
    rw [hP]
    refine StA.all (vs := MC m0 nilV nilV) E rfl rfl rfl ?_
    clear E
    intro w_ E
    (repeat with_reducible refine StpE.go E ?_)
    exact .zero E.tl
  rw [if_pos (show 4 ≤ s.length by omega)]
  refine Bi.gtr ?_ ?_ <;> intro c2 <;> (repeat with_reducible first | refine Stp.go ?_ | refine StpE.go E ?_)
  · have hP : decP s = (m0, 3) := by unfold decP; rw [if_neg (by omega), if_pos (by omega)]
    rw [hP]
    refine StA.all (vs := MC m0 nilV nilV) E rfl rfl rfl ?_
    clear E
    intro w_ E
    (repeat with_reducible refine StpE.go E ?_)
    exact .zero E.tl
  rw [mkB_size]
  refine Bi.neq ?_ ?_ <;> intro c3 <;> (repeat with_reducible first | refine Stp.go ?_ | refine StpE.go E ?_)
  · have hP : decP s = (m0, 14) := by unfold decP; rw [if_neg (by omega), if_neg (by omega), if_pos (by omega)]
    rw [hP]
    refine StA.all (vs := MC m0 nilV nilV) E rfl rfl rfl ?_
    clear E
    intro w_ E
    (repeat with_reducible refine StpE.go E ?_)
    exact .zero E.tl
  refine SlS.suf (by omega) (by rw [mkB_size]; omega) ?_
  have hsub : (mkB s).extract (4 : Int).toNat (mkB s).size = mkB (s.drop 4) := by
    rw [mkB_ext, mkB_size, List.take_length]; rfl
  rw [hsub]
  refine (NewReader_ok E).mono ?_
  clear E
  rintro q w_ ⟨r, rfl, E⟩
  (repeat with_reducible first | refine Stp.go ?_ | refine StpE.go E ?_ | (refine StpA.go E ?_; clear E; intro b_ w_ hb_ E))
  (revert b_; intro mb hbmb E)
  (revert b_; intro i hbi E)
  (replace E := (((E.bIx 0).bIx 2).bIx 2))
  have hP : decP s = (let k := (i0 (s.drop 4)).num 1
    let t := k.2.num 2
    match fls k.1 with
    | none => (m0, 13)
    | some l =>
      let x := Ip.flds l { m0 with kind := k.1, tag := t.1 } t.2
      if x.2.fin.cut then (m0, 2) else if x.2.bad then (m0, 11) else if x.2.ov then (m0, 3) else (x.1, 0)) := by
    unfold decP; rw [if_neg (by omega), if_neg (by omega), if_neg (by omega)]; rfl
  rw [hP]
  clear hP
  have hlt := num_lt (i0 (s.drop 4)) (k := 1) (by omega)
  refine (inum_ok (I := i0 (s.drop 4)) (k := 1) (off := 0) (by omega) (by simp) ⟨r, s.drop 4, 0, 0, E, Nat.zero_le _, by rw [List.length_drop]; omega, rfl, by simp [i0]⟩).mono ?_
  clear E
  rintro q w_ ⟨rfl, E⟩
  generalize (i0 (s.drop 4)).num 1 = k at E hlt ⊢
  obtain ⟨kd, I1⟩ := k
  simp only [] at E hlt ⊢
  (repeat with_reducible refine Stp.go ?_)
  refine (inum_ok (k := 2) (off := 1) (by omega) (by simp) E).mono ?_
  clear E
  rintro q w_ ⟨rfl, E⟩
  generalize I1.num 2 = tg at E ⊢
  obtain ⟨tg, I2⟩ := tg
  simp only [] at E ⊢
  replace E : IT w0 F i I2 (mA mb { m0 with kind := kd, tag := tg } nilV nilV :: pt rb (oc (MC m0 nilV nilV) Ty.api_Msg) :: l) w_ := E
  obtain ⟨r, t, n, e, E, h⟩ := E
  (repeat with_reducible first | refine Stp.go ?_ | refine StpE.go E ?_)
  refine (known_ok hW (k := (kd : Int)) (by omega) E).mono ?_
  clear E
  rintro q w_ ⟨rfl, E⟩
  cases hfl : fls (kd : Int) with
  | none =>
    refine Un.nt ?_
    (repeat with_reducible first | refine Stp.go ?_ | refine StpE.go E ?_)
    refine StA.all (vs := MC m0 nilV nilV) E rfl rfl rfl ?_
    clear E
    intro w_ E
    (repeat with_reducible refine StpE.go E ?_)
    exact .zero E.tl.tl.tl.tl
  | some fl =>
    refine Un.nf ?_
    (repeat with_reducible refine Stp.go ?_)
    refine (ifields_ok (m := { m0 with kind := kd, tag := tg }) hfl rfl rfl ⟨r, t, n, e, E, h⟩).mono ?_
    clear E h
    rintro q w_ ⟨rfl, nv, qv, X, hN, hQ, E⟩
    simp only []
    generalize Ip.flds fl { m0 with kind := kd, tag := tg } I2 = x at E hN hQ ⊢
    obtain ⟨M, J⟩ := x
    simp only [] at E hN hQ ⊢
    refine (ifinish_ok E).mono ?_
    clear E
    rintro q w_ ⟨rfl, E⟩
    have hf : J.fin.bad = J.bad ∧ J.fin.ov = J.ov := ⟨rfl, rfl⟩
    rw [← hf.1, ← hf.2]
    generalize J.fin = J at E ⊢
    refine (ierr_ok E).mono ?_
    clear E
    rintro q w_ ⟨rfl, r, t, n, e, E, -⟩
    have E2 : Hs w0 F w_ (pt rb (oc (MC m0 nilV nilV) Ty.api_Msg) :: mA mb M nv qv :: (X ++ l)) := by
      refine (E.tl.tl).perm ?_
      exact (List.Perm.cons _ List.perm_middle).trans (List.Perm.swap _ _ _)
    clear E
    have E := E2
    clear E2
    have bad : ∀ e : Int, e ≠ 0 → Bi .neq (i64 e) (.int .i64 0) fun t49 => Cnd t49
        (Bd #[.int .i64 0, .int .i64 0, .int .i64 0, .int .i64 0, .int .i64 0, .int .i64 0, .int .i64 0, .int .i64 0, .int .i64 0, .string ⟨#[]⟩, .string ⟨#[]⟩, .string ⟨#[]⟩, .string ⟨#[]⟩, .slice none 0 0, .slice none 0 0, .string ⟨#[]⟩, .int .i64 0, .int .i64 0, .int .i64 0, .int .i64 0, .int .i64 0, .int .i64 0, .string ⟨#[]⟩, .string ⟨#[]⟩, .string ⟨#[]⟩, .string ⟨#[]⟩, .int .i64 0] [(0, 1), (1, 1), (2, 1), (3, 1), (4, 1), (5, 1), (6, 1), (7, 1), (8, 1), (9, 1), (10, 1), (11, 1), (12, 1), (13, 1), (14, 1), (15, 1), (16, 10), (26, 1)] [] fun t50 =>
          St PP 27 (ptr rb) t50 w_ fun w49 => LdA PP 27 (ptr rb) w49 fun t2 => DMs w0 F l m0 e (.tuple #[t2, i64 e]) w49)
        (LdA PP 27 (ptr mb) w_ fun t52 => St PP 27 (ptr rb) t52 w_ fun w52 => LdA PP 27 (ptr rb) w52 fun t2 => DMs w0 F l m0 e (.tuple #[t2, i64 0]) w52) := by
      intro e he
      refine Bi.neq ?_ (fun h => absurd h he)
      intro _
      (repeat with_reducible first | refine Stp.go ?_ | refine StpE.go E ?_)
      refine StA.all (vs := MC m0 nilV nilV) E rfl rfl rfl ?_
      clear E
      intro w_ E
      (repeat with_reducible refine StpE.go E ?_)
      refine .zero (E.tl.tl.drop (List.sublist_append_right _ _))
    cases hc : J.cut with
    | true =>
      simp only [if_true]
      exact bad 2 (by decide)
    | false =>
      cases hb : J.bad with
      | true =>
        simp only [Bool.false_eq_true, if_false, if_true]
        exact bad 11 (by decide)
      | false =>
        cases hv : J.ov with
        | true =>
          simp only [Bool.false_eq_true, if_false, if_true]
          exact bad 3 (by decide)
        | false =>
          simp only [Bool.false_eq_true, if_false]
          clear bad
          (repeat first | (with_reducible first | refine Stp.go ?_ | refine StpE.go E ?_) | ((with_reducible refine Bi.dec false ?_ ?_); focus exact rfl))
          refine StA.all (vs := MC M nv qv) E rfl rfl ?_ ?_
          · have i1 : scalV nv = true := by obtain ⟨a, c, rfl, _⟩ := hN; rfl
            have i2 : scalV qv = true := by obtain ⟨a, c, rfl, _⟩ := hQ; rfl
            simp only [List.all_cons, List.all_nil, i1, i2, Bool.and_true]
            rfl
          clear E
          intro w_ E
          (repeat with_reducible refine StpE.go E ?_)
          exact ⟨nv, qv, X, rfl, hN, hQ, E.tl.tl⟩
end Go.Proofs.YtmlccboapkkcfaaDoor

/-
  The protocol: messages are compared (chapter 31's Same), lists of names, of Qids and of Dirs too.
-/
namespace Go.Proofs.YtmlccboapkkcfaaDoor
open Go Go.Sh
set_option maxRecDepth 100000
set_option linter.unusedVariables false
set_option linter.unusedSimpArgs false
variable {w0 w : World} {F : Nat → Prop} {l : List As}
theorem take_step {α} {xs ys : List α} {i : Nat} (h : xs.take i = ys.take i) (h1 : i < xs.length) (h2 : i < ys.length) (e : xs[i] = ys[i]) : xs.take (i + 1) = ys.take (i + 1) := by
  rw [List.take_add_one, List.take_add_one, h, List.getElem?_eq_getElem h1, List.getElem?_eq_getElem h2, e]
theorem take_all {α} {xs ys : List α} {i : Nat} (h : xs.take i = ys.take i) (hn : xs.length = ys.length) (hi : xs.length ≤ i) : xs = ys := by
  rw [List.take_of_length_le hi, List.take_of_length_le (by omega)] at h
  exact h
theorem eqStr_ok {u v : Value} {xs ys : List (List UInt8)} (hn : xs.length ≤ 1000000000) (E : Hs w0 F w l) (h1 : RdS w0 F l 1 xs.length u (xs.map sb)) (h2 : RdS w0 F l 1 ys.length v (ys.map sb)) :
    Ca PP Fn.slices_Equal_sl_string_string #[u, v] w fun r w' => r = .bool (decide (xs = ys)) ∧ Hs w0 F w' l := by
  refine S.slices_Equal_sl_string_string.calls ?_
  unfold S.slices_Equal_sl_string_string
  refine h1.len ?_
  refine h2.len ?_
  refine Bi.neq ?_ ?_ <;> intro hne
  · (repeat with_reducible refine Stp.go ?_)
    refine ⟨?_, E⟩
    rw [decide_eq_false]
    rintro rfl
    exact hne rfl
  have hne : xs.length = ys.length := by omega
  (repeat with_reducible refine Stp.go ?_)
  refine h1.len ?_
  refine ⟨fun l1 w1 => ∃ i : Nat, l1 = [i64 i] ∧ i ≤ xs.length ∧ xs.take i = ys.take i ∧ Hs w0 F w1 l, fun l1 _ => match l1 with | [.int _ i] => xs.length - i.toNat | _ => 0, ⟨0, rfl, Nat.zero_le _, rfl, E⟩, ?_⟩
  clear E
  rintro t u1 w1 ⟨i, e, hi, ht, E⟩
  cases e
  refine Bi.lss ?_ ?_ <;> intro hlt <;> (repeat with_reducible first | refine Stp.go ?_ | (refine StpW.go E ?_; clear E; intro w_ E))
  · have g1 : i < xs.length := by omega
    have g2 : i < ys.length := by omega
    have hd : ((xs.map sb).drop (((i : Int)).toNat * 1))[0]? = some (sb xs[i]) := by
      rw [Int.toNat_natCast, Nat.mul_one, List.getElem?_drop, Nat.add_zero, List.getElem?_map, List.getElem?_eq_getElem g1]; rfl
    have hd2 : ((ys.map sb).drop (((i : Int)).toNat * 1))[0]? = some (sb ys[i]) := by
      rw [Int.toNat_natCast, Nat.mul_one, List.getElem?_drop, Nat.add_zero, List.getElem?_map, List.getElem?_eq_getElem g2]; rfl
    refine h1.ix (by omega) (by omega) (by omega) ?_
    intro a ha
    refine ha.ld E hd ?_
    refine h2.ix (by omega) (by omega) (by omega) ?_
    intro a2 ha2
    refine ha2.ld E hd2 ?_
    refine Bi.sneq ?_ ?_ <;> intro hc <;> (repeat with_reducible refine Stp.go ?_)
    · refine ⟨?_, E⟩
      rw [decide_eq_false]
      rintro rfl
      exact hc rfl
    refine Bi.add (by omega) ?_
    exact ⟨⟨i + 1, by simp, by omega, take_step ht g1 g2 (mkB_inj hc), E⟩, by simp only []; omega⟩
  · refine ⟨?_, E⟩
    rw [decide_eq_true (take_all ht hne (by omega))]
abbrev lkQid : List LK := [.int .i64, .int .i64, .int .i64]
theorem lv_Qid : lv PP 20 Ty.api_Qid = some lkQid := by kernel_rfl
theorem st_Qid : isSt PP Ty.api_Qid = true := by kernel_rfl
theorem g_Qid : PP.eqGuardType PP.depth Ty.api_Qid = false := by kernel_rfl
theorem ceq_qid (d e : Qi) : ceqL (qcs d) (qcs e) = decide (d = e) := by
  obtain ⟨a1, a2, a3⟩ := d
  obtain ⟨b1, b2, b3⟩ := e
  simp only [ceqL, ceq_int, Bool.and_true]
  rw [Bool.eq_iff_iff]
  simp only [Bool.and_eq_true, decide_eq_true_eq, Qi.mk.injEq]
theorem eqQid_ok {u v : Value} {xs ys : List Qi} (hn : xs.length ≤ 1000000000) (E : Hs w0 F w l) (h1 : RdS w0 F l 3 xs.length u (qqs xs)) (h2 : RdS w0 F l 3 ys.length v (qqs ys)) :
    Ca PP Fn.slices_Equal_sl_api_Qid_api_Qid #[u, v] w fun r w' => r = .bool (decide (xs = ys)) ∧ Hs w0 F w' l := by
  refine S.slices_Equal_sl_api_Qid_api_Qid.calls ?_
  unfold S.slices_Equal_sl_api_Qid_api_Qid
  refine h1.len ?_
  refine h2.len ?_
  refine Bi.neq ?_ ?_ <;> intro hne
  · (repeat with_reducible refine Stp.go ?_)
    refine ⟨?_, E⟩
    rw [decide_eq_false]
    rintro rfl
    exact hne rfl
  have hne : xs.length = ys.length := by omega
  (repeat with_reducible refine Stp.go ?_)
  refine h1.len ?_
  refine ⟨fun l1 w1 => ∃ i : Nat, l1 = [i64 i] ∧ i ≤ xs.length ∧ xs.take i = ys.take i ∧ Hs w0 F w1 l, fun l1 _ => match l1 with | [.int _ i] => xs.length - i.toNat | _ => 0, ⟨0, rfl, Nat.zero_le _, rfl, E⟩, ?_⟩
  clear E
  rintro t u1 w1 ⟨i, e, hi, ht, E⟩
  cases e
  refine Bi.lss ?_ ?_ <;> intro hlt <;> (repeat with_reducible first | refine Stp.go ?_ | (refine StpW.go E ?_; clear E; intro w_ E))
  · have g1 : i < xs.length := by omega
    have g2 : i < ys.length := by omega
    refine h1.ix (by omega) (by omega) (by omega) ?_
    intro a ha
    rw [Int.toNat_natCast, qqs_at g1] at ha
    refine ha.lda E (m := 3) (ds := qcs xs[i]) rfl rfl (by omega) ?_
    refine h2.ix (by omega) (by omega) (by omega) ?_
    intro a2 ha2
    rw [Int.toNat_natCast, qqs_at g2] at ha2
    refine ha2.lda E (m := 3) (ds := qcs ys[i]) rfl rfl (by omega) ?_
    refine EqS.n lv_Qid st_Qid g_Qid rfl rfl ?_
    rw [ceq_qid]
    by_cases hc : xs[i] = ys[i]
    · rw [decide_eq_true hc, Bool.not_true]
      (repeat with_reducible refine Stp.go ?_)
      refine Bi.add (by omega) ?_
      exact ⟨⟨i + 1, by simp, by omega, take_step ht g1 g2 hc, E⟩, by simp only []; omega⟩
    · rw [decide_eq_false hc, Bool.not_false]
      (repeat with_reducible refine Stp.go ?_)
      refine ⟨?_, E⟩
      rw [decide_eq_false]
      rintro rfl
      exact hc rfl
  · refine ⟨?_, E⟩
    rw [decide_eq_true (take_all ht hne (by omega))]
abbrev dqs (ds : List Di) : List Value := ds.flatMap dcs
theorem dqs_drop (ds : List Di) : ∀ i : Nat, (dqs ds).drop (i * 10) = dqs (ds.drop i) := by
  induction ds with
  | nil => intro i; simp
  | cons d r ih =>
    intro i
    cases i with
    | zero => simp
    | succ i =>
      rw [dqs, List.flatMap_cons, show (i + 1) * 10 = i * 10 + 10 by omega]
      simp only [dcs, List.cons_append, List.nil_append, List.drop_succ_cons]
      exact ih i
theorem dqs_at {ds : List Di} {i : Nat} (h : i < ds.length) : (dqs ds).drop (i * 10) = dcs ds[i] ++ dqs (ds.drop (i + 1)) := by
  rw [dqs_drop, List.drop_eq_getElem_cons h]; rfl
end Go.Proofs.YtmlccboapkkcfaaDoor

/-
  The protocol: messages are compared (chapter 31's Same).
-/
namespace Go.Proofs.YtmlccboapkkcfaaDoor
open Go Go.Sh
set_option maxRecDepth 100000
set_option linter.unusedVariables false
set_option linter.unusedSimpArgs false
variable {w0 w : World} {F : Nat → Prop} {l : List As}
theorem Ms.ext' {a b : Ms} (h1 : a.kind = b.kind) (h2 : a.tag = b.tag) (h3 : a.fid = b.fid) (h4 : a.other = b.other) (h5 : a.old = b.old) (h6 : a.size = b.size) (h7 : a.off = b.off) (h8 : a.mode = b.mode) (h9 : a.perm = b.perm)
    (h10 : a.ver = b.ver) (h11 : a.user = b.user) (h12 : a.tree = b.tree) (h13 : a.name = b.name) (h14 : a.names = b.names) (h15 : a.qids = b.qids) (h16 : a.data = b.data) (h17 : a.dir = b.dir) (h18 : a.code = b.code) : a = b := by
  cases a; cases b
  simp only at *
  subst h1 h2 h3 h4 h5 h6 h7 h8 h9 h10 h11 h12 h13 h14 h15 h16 h17 h18
  rfl
theorem Same_ok {a b : Ms} {n1 q1 n2 q2 : Value} (hn : a.names.length ≤ 1000000000) (hq : a.qids.length ≤ 1000000000) (E : Hs w0 F w l)
    (h1 : RdS w0 F l 1 a.names.length n1 (a.names.map sb)) (h2 : RdS w0 F l 3 a.qids.length q1 (qqs a.qids)) (h3 : RdS w0 F l 1 b.names.length n2 (b.names.map sb)) (h4 : RdS w0 F l 3 b.qids.length q2 (qqs b.qids)) :
    Ca PP Fn.law31_Same #[.agg (MC a n1 q1).toArray, .agg (MC b n2 q2).toArray] w fun r w' => r = .bool (decide (a = b)) ∧ Hs w0 F w' l := by
  refine S.law31_Same.calls ?_
  unfold S.law31_Same
  have i1 : Scal n1 := ⟨by obtain ⟨a, c, rfl, _⟩ := h1; rfl⟩
  have i2 : Scal q1 := ⟨by obtain ⟨a, c, rfl, _⟩ := h2; rfl⟩
  have i3 : Scal n2 := ⟨by obtain ⟨a, c, rfl, _⟩ := h3; rfl⟩
  have i4 : Scal q2 := ⟨by obtain ⟨a, c, rfl, _⟩ := h4; rfl⟩
  (repeat with_reducible (refine StpA.go E ?_; clear E; intro b_ w_ hb_ E))
  (intro J5 hJ5)
  (repeat with_reducible first | refine Stp.go ?_ | refine StpE.go E ?_)
  refine (eqStr_ok hn E ((h1.cons _).cons _) ((h3.cons _).cons _)).mono ?_
  clear E
  rintro r w_ ⟨rfl, E⟩
  by_cases c0 : a.names = b.names
  rotate_left
  · rw [decide_eq_false c0]
    (repeat with_reducible first | refine Stp.go ?_ | (apply hJ5; intro u_))
    refine ⟨?_, E.tl.tl⟩
    rw [decide_eq_false (fun h => c0 (by rw [h]))]
  rw [decide_eq_true c0]
  (repeat with_reducible first | refine Stp.go ?_ | refine StpE.go E ?_)
  refine (eqQid_ok hq E ((h2.cons _).cons _) ((h4.cons _).cons _)).mono ?_
  clear E
  rintro r w_ ⟨rfl, E⟩
  by_cases c1 : a.qids = b.qids
  rotate_left
  · rw [decide_eq_false c1]
    (repeat with_reducible first | refine Stp.go ?_ | (apply hJ5; intro u_))
    refine ⟨?_, E.tl.tl⟩
    rw [decide_eq_false (fun h => c1 (by rw [h]))]
  rw [decide_eq_true c1]
  (repeat with_reducible first | refine Stp.go ?_ | (apply hJ5; intro u_))
  (intro J9 hJ9)
  (repeat with_reducible first | refine Stp.go ?_ | refine StpE.go E ?_)
  refine Bi.eql (fun ckind => ?_) (fun ckind => ?_)
  rotate_left
  · (repeat with_reducible first | refine Stp.go ?_ | (apply hJ9; intro u_))
    refine ⟨?_, E.tl.tl⟩
    rw [decide_eq_false (fun h => ckind (by rw [h]))]
  (repeat with_reducible first | refine Stp.go ?_ | refine StpE.go E ?_)
  refine Bi.eql (fun ctag => ?_) (fun ctag => ?_)
  rotate_left
  · (repeat with_reducible first | refine Stp.go ?_ | (apply hJ9; intro u_))
    refine ⟨?_, E.tl.tl⟩
    rw [decide_eq_false (fun h => ctag (by rw [h]))]
  (repeat with_reducible first | refine Stp.go ?_ | refine StpE.go E ?_)
  refine Bi.eql (fun cfid => ?_) (fun cfid => ?_)
  rotate_left
  · (repeat with_reducible first | refine Stp.go ?_ | (apply hJ9; intro u_))
    refine ⟨?_, E.tl.tl⟩
    rw [decide_eq_false (fun h => cfid (by rw [h]))]
  (repeat with_reducible first | refine Stp.go ?_ | refine StpE.go E ?_)
  refine Bi.eql (fun cother => ?_) (fun cother => ?_)
  rotate_left
  · (repeat with_reducible first | refine Stp.go ?_ | (apply hJ9; intro u_))
    refine ⟨?_, E.tl.tl⟩
    rw [decide_eq_false (fun h => cother (by rw [h]))]
  (repeat with_reducible first | refine Stp.go ?_ | refine StpE.go E ?_)
  refine Bi.eql (fun cold => ?_) (fun cold => ?_)
  rotate_left
  · (repeat with_reducible first | refine Stp.go ?_ | (apply hJ9; intro u_))
    refine ⟨?_, E.tl.tl⟩
    rw [decide_eq_false (fun h => cold (by rw [h]))]
  (repeat with_reducible first | refine Stp.go ?_ | refine StpE.go E ?_)
  refine Bi.eql (fun csize => ?_) (fun csize => ?_)
  rotate_left
  · (repeat with_reducible first | refine Stp.go ?_ | (apply hJ9; intro u_))
    refine ⟨?_, E.tl.tl⟩
    rw [decide_eq_false (fun h => csize (by rw [h]))]
  (repeat with_reducible first | refine Stp.go ?_ | refine StpE.go E ?_)
  refine Bi.eql (fun coff => ?_) (fun coff => ?_)
  rotate_left
  · (repeat with_reducible first | refine Stp.go ?_ | (apply hJ9; intro u_))
    refine ⟨?_, E.tl.tl⟩
    rw [decide_eq_false (fun h => coff (by rw [h]))]
  (repeat with_reducible first | refine Stp.go ?_ | refine StpE.go E ?_)
  refine Bi.eql (fun cmode => ?_) (fun cmode => ?_)
  rotate_left
  · (repeat with_reducible first | refine Stp.go ?_ | (apply hJ9; intro u_))
    refine ⟨?_, E.tl.tl⟩
    rw [decide_eq_false (fun h => cmode (by rw [h]))]
  (repeat with_reducible first | refine Stp.go ?_ | refine StpE.go E ?_)
  refine Bi.eql (fun cperm => ?_) (fun cperm => ?_)
  rotate_left
  · (repeat with_reducible first | refine Stp.go ?_ | (apply hJ9; intro u_))
    refine ⟨?_, E.tl.tl⟩
    rw [decide_eq_false (fun h => cperm (by rw [h]))]
  (repeat with_reducible first | refine Stp.go ?_ | refine StpE.go E ?_)
  refine Bi.seql (fun cver => ?_) (fun cver => ?_)
  rotate_left
  · (repeat with_reducible first | refine Stp.go ?_ | (apply hJ9; intro u_))
    refine ⟨?_, E.tl.tl⟩
    rw [decide_eq_false (fun h => cver (by rw [h]))]
  (repeat with_reducible first | refine Stp.go ?_ | refine StpE.go E ?_)
  refine Bi.seql (fun cuser => ?_) (fun cuser => ?_)
  rotate_left
  · (repeat with_reducible first | refine Stp.go ?_ | (apply hJ9; intro u_))
    refine ⟨?_, E.tl.tl⟩
    rw [decide_eq_false (fun h => cuser (by rw [h]))]
  (repeat with_reducible first | refine Stp.go ?_ | refine StpE.go E ?_)
  refine Bi.seql (fun ctree => ?_) (fun ctree => ?_)
  rotate_left
  · (repeat with_reducible first | refine Stp.go ?_ | (apply hJ9; intro u_))
    refine ⟨?_, E.tl.tl⟩
    rw [decide_eq_false (fun h => ctree (by rw [h]))]
  (repeat with_reducible first | refine Stp.go ?_ | refine StpE.go E ?_)
  refine Bi.seql (fun cname => ?_) (fun cname => ?_)
  rotate_left
  · (repeat with_reducible first | refine Stp.go ?_ | (apply hJ9; intro u_))
    refine ⟨?_, E.tl.tl⟩
    rw [decide_eq_false (fun h => cname (by rw [h]))]
  (repeat with_reducible first | refine Stp.go ?_ | refine StpE.go E ?_)
  refine Bi.seql (fun cdata => ?_) (fun cdata => ?_)
  rotate_left
  · (repeat with_reducible first | refine Stp.go ?_ | (apply hJ9; intro u_))
    refine ⟨?_, E.tl.tl⟩
    rw [decide_eq_false (fun h => cdata (by rw [h]))]
  (repeat with_reducible first | refine Stp.go ?_ | refine StpE.go E ?_)
  refine EqS.e (xs := dcs a.dir) (ys := dcs b.dir) lv_Dir st_Dir g_Dir rfl rfl ?_
  rw [ceq_dir]
  by_cases cdir : a.dir = b.dir
  rotate_left
  · rw [decide_eq_false cdir]
    (repeat with_reducible first | refine Stp.go ?_ | (apply hJ9; intro u_))
    refine ⟨?_, E.tl.tl⟩
    rw [decide_eq_false (fun h => cdir (by rw [h]))]
  rw [decide_eq_true cdir]
  (repeat with_reducible first | refine Stp.go ?_ | refine StpE.go E ?_)
  refine Bi.eql (fun ccode => ?_) (fun ccode => ?_)
  rotate_left
  · (repeat with_reducible first | refine Stp.go ?_ | (apply hJ9; intro u_))
    refine ⟨?_, E.tl.tl⟩
    rw [decide_eq_false (fun h => ccode (by rw [h]))]
  (repeat with_reducible first | refine Stp.go ?_ | (apply hJ9; intro u_))
  refine ⟨?_, E.tl.tl⟩
  rw [decide_eq_true]
  exact Ms.ext' ckind ctag cfid cother cold csize coff cmode cperm (mkB_inj cver) (mkB_inj cuser) (mkB_inj ctree) (mkB_inj cname) c0 c1 (mkB_inj cdata) cdir ccode
end Go.Proofs.YtmlccboapkkcfaaDoor

/-
  The protocol: the examples of the chapter (chapter 31's awake).
-/
namespace Go.Proofs.YtmlccboapkkcfaaDoor
open Go Go.Sh
set_option maxRecDepth 100000
set_option linter.unusedVariables false
set_option linter.unusedSimpArgs false
variable {w0 w : World} {F : Nat → Prop} {l : List As}
abbrev aM1 : Ms := { m0 with kind := 120, tag := 1, fid := 2 }
abbrev aM2 : Ms := { m0 with kind := 107, tag := 65535, code := 4 }
abbrev aM3 : Ms := { m0 with kind := 110, tag := 258, fid := 1, other := 2, names := [[97]] }
abbrev aS3 : List UInt8 := [20, 0, 0, 0, 110, 2, 1, 1, 0, 0, 0, 2, 0, 0, 0, 1, 0, 1, 0, 97]
theorem aw1 : enc aM1 = ([11, 0, 0, 0, 120, 1, 0, 2, 0, 0, 0], 0) := by kernel_rfl
theorem aw2 : enc aM2 = ([9, 0, 0, 0, 107, 255, 255, 4, 0], 0) := by kernel_rfl
theorem aw3 : dec aS3 = (aM3, 0) := by kernel_rfl
theorem nm_string : el3 PP Ty.string = some (some (.string ⟨#[]⟩), 1, 16) := by kernel_rfl
theorem u_names : PP.underlying Ty.sl_string = some (.slice Ty.string) := by kernel_rfl
theorem ok_lit {m : Ms} (h1 : m.qids = []) (h2 : m.dir = d0) (h3 : -9223372036854775808 ≤ m.off ∧ m.off ≤ 9223372036854775807 := by decide) : m.Ok := by
  refine ⟨h3, ?_, ?_⟩
  · rw [h1]; intro q h; cases h
  · rw [h2]; unfold Di.Ok Qi.Ok; decide
theorem mi1 : MI w0 F l aM1 nilV nilV := { ok := ok_lit (by decide) (by decide), rg := by unfold rngI; decide, kd := by decide, n1 := by decide, q1 := by decide, zn := by decide, zs := by decide, zd := by decide, rn := rds_nil, rq := rds_nil }
theorem mi2 : MI w0 F l aM2 nilV nilV := { ok := ok_lit (by decide) (by decide), rg := by unfold rngI; decide, kd := by decide, n1 := by decide, q1 := by decide, zn := by decide, zs := by decide, zd := by decide, rn := rds_nil, rq := rds_nil }
theorem awake_ok (hW : Wds w0 F) (E : Hs w0 F w l) : Ca PP Fn.law31_awake #[] w fun r w' => r = .bool true ∧ Hs w0 F w' l := by
  refine S.law31_awake.calls ?_
  unfold S.law31_awake
  (repeat with_reducible refine StpE.go E ?_)
  refine (Encode_ok hW (m := aM1) mi1 E).mono ?_
  clear E
  rintro r w_ ⟨rfl, E⟩
  rw [aw1]
  (repeat with_reducible first | refine Stp.go ?_ | refine StpE.go E ?_)
  refine (Encode_ok hW (m := aM2) mi2 E).mono ?_
  clear E
  rintro r w_ ⟨rfl, E⟩
  rw [aw2]
  (repeat with_reducible refine Stp.go ?_)
  refine (Decode_ok hW (s := aS3) (by decide) E).mono ?_
  clear E
  rintro r w_ ⟨nv, qv, X, rfl, h1, h2, E⟩
  rw [aw3] at h1 h2 ⊢
  dsimp only at h1 h2 ⊢
  have i1 : scalV nv = true := by obtain ⟨a, c, rfl, _⟩ := h1; rfl
  have i2 : scalV qv = true := by obtain ⟨a, c, rfl, _⟩ := h2; rfl
  (repeat with_reducible first | refine Stp.go ?_ | (refine StpA.go E ?_; clear E; intro b_ w_ hb_ E))
  refine StA.all (vs := MC aM3 nv qv) E rfl rfl ?_ ?_
  · simp only [List.all_cons, List.all_nil, i1, i2, Bool.and_true]
    rfl
  clear E
  intro w_ E
  skip
  (intro J18 hJ18)
  have fin : ∀ b w_, b = true → Hs w0 F w_ l → J18 [.bool b] w_ := by
    rintro b w_ rfl h
    (repeat with_reducible (apply hJ18; intro u_))
    exact ⟨rfl, h⟩
  clear hJ18
  (repeat first | (with_reducible first | refine Stp.go ?_ | refine StpE.go E ?_) | ((with_reducible refine Bi.dec true ?_ ?_); focus exact rfl) | ((with_reducible refine Bi.sdec true ?_ ?_); focus decide))
  refine BdS.one E u_names nm_string rfl ?_
  clear E
  intro v w_ E
  (repeat with_reducible first | refine Stp.go ?_ | refine StpE.go E ?_)
  have hv := RdS.sl (T := Ty.string) (v := v) (sz := 1) (xs := [sb [97]]) List.mem_cons_self (by omega) E
  refine (Same_ok (a := aM3) (b := aM3) (n1 := nv) (q1 := qv) (n2 := v) (q2 := nilV) (by decide) (by decide) E (h1.weaken fun _ E => E.tl.tl.drop (List.sublist_append_left _ _)) (h2.weaken fun _ E => E.tl.tl.drop (List.sublist_append_left _ _)) hv rds_nil).mono ?_
  clear E
  rintro r w_ ⟨rfl, E⟩
  (repeat with_reducible refine Stp.go ?_)
  refine fin _ _ (decide_eq_true rfl) (E.tl.tl.drop (List.sublist_append_right _ _))
end Go.Proofs.YtmlccboapkkcfaaDoor

/-
  The protocol's reference: the fields of a kind, requests, answers and words.
-/
namespace Go.Proofs.YtmlccboapkkcfaaDoor
open Go Go.Sh
set_option maxRecDepth 100000
set_option linter.unusedVariables false
set_option linter.unusedSimpArgs false
variable {w0 w : World} {F : Nat → Prop} {l : List As}
/-- The letter of a field. -/
def ltr : Fl → UInt8
  | .xS => 83 | .xv => 118 | .xf => 102 | .xu => 117 | .xt => 116 | .xq => 113 | .xo => 111 | .xc => 99 | .xd => 100 | .xn => 110 | .xQ => 81 | .xm => 109 | .xN => 78 | .xp => 112 | .xO => 79 | .xD => 68 | .xi => 105
def rf (k : Int) : List UInt8 × Bool := match fls k with
  | some l => (l.map ltr, true)
  | none => ([], false)
def rwl : List (List UInt8) := [[118, 101, 114, 115, 105, 111, 110], [97, 117, 116, 104], [97, 116, 116, 97, 99, 104], [], [102, 108, 117, 115, 104], [119, 97, 108, 107], [111, 112, 101, 110], [99, 114, 101, 97, 116, 101], [114, 101, 97, 100], [119, 114, 105, 116, 101], [99, 108, 117, 110, 107], [114, 101, 109, 111, 118, 101], [115, 116, 97, 116], [119, 115, 116, 97, 116]]
end Go.Proofs.YtmlccboapkkcfaaDoor

/-
  The protocol: Frames.
-/
namespace Go.Proofs.YtmlccboapkkcfaaDoor
open Go Go.Sh
set_option maxRecDepth 100000
set_option linter.unusedVariables false
set_option linter.unusedSimpArgs false
variable {w0 w : World} {F : Nat → Prop} {l : List As}
/-- What frames of a rest are behind these. -/
def frW (done : List (List UInt8)) (x : List (List UInt8) × List UInt8 × Int) : List (List UInt8) × List UInt8 × Int := if x.2.2 = 0 then (done ++ x.1, x.2.1, 0) else ([], [], x.2.2)
end Go.Proofs.YtmlccboapkkcfaaDoor

/-
  The protocol's reference: the number that bytes are; Frames.
-/
namespace Go.Proofs.YtmlccboapkkcfaaDoor
open Go Go.Sh
set_option maxRecDepth 100000
set_option linter.unusedVariables false
set_option linter.unusedSimpArgs false
variable {w0 w : World} {F : Nat → Prop} {l : List As}
theorem BdS.nul {P : Program} {t e : TypeId} {sz : Nat} {k : Value → World → Prop} (E : Hs w0 F w l) (h1 : P.underlying t = some (.slice e)) (h2 : sizeK P e = some sz)
    (hk : ∀ v w', Hs w0 F w' (slA v e sz [] :: l) → k v w') : Ef P (Instr.buildSlice t 0 #[]) w k := by
  refine ⟨.slice (some ⟨w.heap.size, 0, none⟩) 0 0, w.alloc (.cells #[] e), ?_, hk _ _ (E.add (Upd.alloc w _) ⟨.inr ⟨w.heap.size, 0, 0, 0, [], [], (0, 0), rfl, ?_, rfl, by simp, by simp, Nat.le_refl _, Free.zero _⟩⟩ fun b hb => ?_)⟩
  · have hr : Array.range 0 = #[] := rfl
    simp [Instr.buildSlice, run_underlying h1, run_sizeK h2, Instr.fill, newRow, run_newObj', hr]
  · rw [heap_alloc_new]; simp [ocf]
  · have hb : some w.heap.size = some b := hb
    cases hb; exact Nat.le_refl _
end Go.Proofs.YtmlccboapkkcfaaDoor

/-
  The protocol: the Dir at the beginning of a text.
-/
namespace Go.Proofs.YtmlccboapkkcfaaDoor
open Go Go.Sh
set_option maxRecDepth 100000
set_option linter.unusedVariables false
set_option linter.unusedSimpArgs false
variable {w0 w : World} {F : Nat → Prop} {l : List As}
end Go.Proofs.YtmlccboapkkcfaaDoor

/-
  The protocol: the Dirs of a text.
-/
namespace Go.Proofs.YtmlccboapkkcfaaDoor
open Go Go.Sh
set_option maxRecDepth 100000
set_option linter.unusedVariables false
set_option linter.unusedSimpArgs false
variable {w0 w : World} {F : Nat → Prop} {l : List As}
def drW (done : List Di) (x : List Di × Int) : List Di × Int := if x.2 = 0 then (done ++ x.1, 0) else ([], x.2)
end Go.Proofs.YtmlccboapkkcfaaDoor

/-
  The protocol: Entries.
-/
namespace Go.Proofs.YtmlccboapkkcfaaDoor
open Go Go.Sh
set_option maxRecDepth 100000
set_option linter.unusedVariables false
set_option linter.unusedSimpArgs false
variable {w0 w : World} {F : Nat → Prop} {l : List As}
theorem encD_two (d : Di) : (encD d).2 = chkD d := by
  unfold encD
  split
  · rename_i h; rw [h]
  · rfl
theorem encD_one {d : Di} (h : chkD d = 0) : (encD d).1 = eD d := by
  unfold encD
  rw [if_pos h]
def bigQ (count : Int) : List (List UInt8) → Bool
  | [] => false
  | y :: _ => decide ((y.length : Int) > count)
def entR (count : Int) (Q : List (List UInt8)) : List UInt8 × Int := if bigQ count Q then ([], 3) else (tkn count [] Q, 0)
def entW (count : Int) (x : Int × List (List UInt8)) : List UInt8 × Int := if count < 0 ∨ x.1 ≠ 0 then ([], 11) else entR count x.2
theorem entR_is (count : Int) (Q : List (List UInt8)) : (match Q with | [] => ([], 0) | y :: r => if (y.length : Int) > count then ([], 3) else (tkn count [] (y :: r), 0) : List UInt8 × Int) = entR count Q := by
  cases Q with
  | nil => rfl
  | cons y r =>
    unfold entR bigQ
    by_cases h : (y.length : Int) > count
    · simp only [h, if_true, decide_true]
    · simp only [h, if_false, decide_false, Bool.false_eq_true]
theorem find_at {l : List Di} {i : Nat} (hi : i < l.length) (h : ∀ d ∈ l.take i, chkD d = 0) (hc : chkD l[i] ≠ 0) : (l.find? fun d => chkD d != 0) = some l[i] := by
  have e : l = l.take i ++ l[i] :: l.drop (i + 1) := by
    rw [← List.drop_eq_getElem_cons hi, List.take_append_drop]
  generalize l[i] = d at e hc ⊢
  rw [e, List.find?_append, find_none h, List.find?_cons, show (chkD d != 0) = true by simpa using hc]
  rfl
theorem Entries_ok {ds : List Di} {v : Value} {off count : Int} (hn : ds.length ≤ 1000000) (hd : ∀ d ∈ ds, d.Ok ∧ (d.name.length ≤ 9223372036854775807 ∧ d.owner.length ≤ 9223372036854775807 ∧ d.group.length ≤ 9223372036854775807 ∧ d.last.length ≤ 9223372036854775807))
    (ho : rngI off) (hc : rngI count) (h1 : RdS w0 F l 10 ds.length v (dqs ds)) (E : Hs w0 F w l) :
    Ca PP Fn.styx_Entries #[v, i64 off, i64 count] w fun q w' => q = .tuple #[sb (ent ds off count).1, i64 (ent ds off count).2] ∧ ∃ X, Hs w0 F w' (X ++ l) := by
  refine S.styx_Entries.calls ?_
  unfold S.styx_Entries
  refine h1.len ?_
  refine ⟨fun l1 w1 => ∃ (i : Nat) (v8 : Value), l1 = [v8, i64 i] ∧ i ≤ ds.length ∧ (∀ d ∈ ds.take i, chkD d = 0) ∧ Hs w0 F w1 (slA v8 Ty.string 1 (((ds.take i).map eD).map sb) :: l),
    fun l1 _ => match l1 with | [_, .int _ i] => ds.length - i.toNat | _ => 0, ⟨0, nilV, rfl, Nat.zero_le _, (fun _ h => by cases h), E.nilSl Ty.string 1⟩, ?_⟩
  clear E
  rintro t8 t18 u1 w1 ⟨i, v8, e, hi, hz, E⟩
  cases e
  refine Bi.lss ?_ ?_ <;> intro hlt <;> (repeat with_reducible refine Stp.go ?_)
  · have g1 : i < ds.length := by omega
    refine h1.ix (by omega) (by omega) (by omega) ?_
    intro a ha
    rw [Int.toNat_natCast, dqs_at g1] at ha
    refine (ha.weaken fun _ E => E.tl).lda E (m := 10) (ds := dcs ds[i]) rfl rfl (by omega) ?_
    (repeat with_reducible first | refine StpE.go E ?_ | (refine StpW.go E ?_; clear E; intro w_ E) | (refine StpA.go E ?_; clear E; intro b_ w_ hb_ E))
    obtain ⟨hdo, hdz⟩ := hd ds[i] (List.getElem_mem g1)
    refine (EncodeDir_ok hdo hdz E).mono ?_
    clear E
    rintro q w_ ⟨rfl, E⟩
    have e2 := encD_two ds[i]
    (repeat with_reducible refine Stp.go ?_)
    refine Bi.neq ?_ ?_ <;> intro c2 <;> (repeat with_reducible refine Stp.go ?_)
    · rw [e2] at c2
      have he : ent ds off count = ([], chkD ds[i]) := by
        unfold ent
        rw [find_at g1 hz c2]
      rw [he, e2]
      exact ⟨rfl, _ :: _ :: [], E⟩
    · rw [e2] at c2
      rw [encD_one c2]
      have hlen : (((ds.take i).map eD).map sb).length = i := by rw [List.length_map, List.length_map, List.length_take, Nat.min_eq_left hi]
      refine BdS.one E u_names nm_string rfl ?_
      clear E
      intro v2 w_ E
      refine Ap.one E (i := 2) rfl u_names ⟨_, u_names, fun _ h => by cases h⟩ nm_string (Src.one E (by (first | assumption | exact FPt.mem | exact FMp.mem | exact FSl.mem | (repeat (first | assumption | with_reducible exact List.mem_cons_self | refine List.mem_cons_of_mem _ ?_)))) rfl) rfl (by rw [hlen]; simp only [List.length_cons, List.length_nil]; omega) (by rw [hlen]; simp only [List.length_cons, List.length_nil]; omega) ?_
      clear E
      intro v3 w_ E
      (try simp only [List.set_cons_zero, List.set_cons_succ, List.cons_append, List.nil_append, Nat.zero_add, Nat.add_zero] at E)
      refine Bi.add (by omega) ?_
      have hts : ds.take (i + 1) = ds.take i ++ [ds[i]] := by rw [List.take_add_one, List.getElem?_eq_getElem g1]; rfl
      refine ⟨⟨i + 1, v3, rfl, by omega, ?_, ?_⟩, by simp only []; omega⟩
      · rw [hts]
        intro d hd
        rcases List.mem_append.1 hd with hd | hd
        · exact hz d hd
        · rw [List.mem_singleton.1 hd]; exact c2
      · rw [hts, List.map_append, List.map_append]
        exact E.tl.tl
  · have hi2 : i = ds.length := by omega
    subst hi2
    rw [List.take_length] at hz E
    have hP : ∀ x ∈ ds.map eD, x.length ≤ 1024 := by
      intro x hx
      obtain ⟨d, hd, rfl⟩ := List.mem_map.1 hx
      have := (chkD_le (hz d hd)).2
      have := eD_length d
      omega
    have hPl : (ds.map eD).length ≤ 1000000 := by rw [List.length_map]; exact hn
    have he : ent ds off count = entW count (skp off (ds.map eD)) := by
      unfold ent entW
      rw [find_none hz, ← entR_is]
      rfl
    have hR := RdS.sl (T := Ty.string) (v := t8) (sz := 1) (xs := (ds.map eD).map sb) List.mem_cons_self (by omega) E
    rw [List.length_map, Nat.div_one] at hR
    generalize ds.map eD = P at hP hPl he hR E
    rw [he]
    clear he
    generalize slA t8 Ty.string 1 (P.map sb) = A at hR E
    refine ⟨fun l1 w1 => ∃ (o : Int) (v9 : Value) (Q : List (List UInt8)), l1 = [i64 o, v9] ∧ rngI o ∧ skp off P = skp o Q ∧ (∀ x ∈ Q, x.length ≤ 1024) ∧ Q.length ≤ 1000000 ∧ RdS w0 F (A :: l) 1 Q.length v9 (Q.map sb) ∧ Hs w0 F w1 (A :: l),
      fun l1 _ => match l1 with | [_, .slice _ n _] => n | _ => 0, ⟨off, t8, P, rfl, ho, rfl, hP, hPl, hR, E⟩, ?_⟩
    clear E hR
    rintro t1 t8' u2 w2 ⟨o, v9, Q, e, hor, hs, hQ, hQl, hR, E⟩
    cases e
    rw [hs]
    (intro J31 hJ31)
    have fin31 : ∀ bb, bb = (decide (0 < o) && decide (0 < Q.length)) → J31 [.bool bb] w2 := by
      intro bb hb
      apply hJ31
      intro u_
      clear hJ31
      cases bb with
      | true =>
        have hb' := hb.symm
        rw [Bool.and_eq_true, decide_eq_true_eq, decide_eq_true_eq] at hb'
        obtain ⟨ho2, hq0⟩ := hb'
        obtain ⟨x, r, rfl⟩ : ∃ x r, Q = x :: r := by
          cases Q with
          | nil => simp at hq0
          | cons x r => exact ⟨x, r, rfl⟩
        have hx := hQ x List.mem_cons_self
        (repeat with_reducible refine Stp.go ?_)
        refine hR.ix (by omega) (by simp) (by omega) ?_
        intro a ha
        refine ha.ld E (x := sb x) rfl ?_
        (repeat with_reducible refine Stp.go ?_)
        refine Bi.sub (by rw [mkB_size]; unfold rngI at hor; omega) ?_
        have hR0 := hR
        obtain ⟨a9, c9, rfl, -, -, -⟩ := hR0
        refine hR.slice (lo := some (i64 1)) (hi := none) (a := 1) (b := (x :: r).length) rfl rfl (by simp) (Nat.le_refl _) ?_
        intro v' hv
        have hv0 := hv
        obtain ⟨a8, c8, rfl, -, -, -⟩ := hv0
        refine ⟨⟨o - x.length, .slice a8 ((x :: r).length - 1) c8, r, ?_, ?_, ?_, (fun y hy => hQ y (List.mem_cons_of_mem _ hy)), ?_, ?_, E⟩, ?_⟩
        · rw [mkB_size]
        · unfold rngI at hor ⊢; omega
        · show (if o > 0 then skp (o - x.length) r else (o, x :: r)) = _
          rw [if_pos ho2]
        · simp only [List.length_cons] at hQl; omega
        · have e1 : (((x :: r).map sb).take ((x :: r).length)).drop 1 = r.map sb := by
            rw [List.take_of_length_le (by simp)]
            rfl
          rw [e1] at hv
          exact hv
        · simp only [List.length_cons]; omega
      | false =>
        have hsk : skp o Q = (o, Q) := by
          cases Q with
          | nil => rfl
          | cons x r =>
            show (if o > 0 then skp (o - x.length) r else (o, x :: r)) = _
            rw [if_neg]
            intro h
            have := hb.symm
            rw [decide_eq_true h] at this
            simp at this
        rw [hsk]
        (repeat with_reducible refine Stp.go ?_)
        (intro J40 hJ40)
        have fin40 : ∀ bb, bb = decide (count < 0 ∨ o ≠ 0) → J40 [.bool bb] w2 := by
          intro bb hb
          apply hJ40
          intro u_
          clear hJ40
          cases bb with
          | true =>
            have h := of_decide_eq_true hb.symm
            unfold entW
            rw [if_pos h]
            (repeat with_reducible refine Stp.go ?_)
            exact ⟨rfl, [A], E⟩
          | false =>
            have h := of_decide_eq_false hb.symm
            unfold entW
            rw [if_neg h]
            (repeat with_reducible refine Stp.go ?_)
            (intro J44 hJ44)
            have fin44 : ∀ bb, bb = bigQ count Q → J44 [.bool bb] w2 := by
              intro bb hb2
              apply hJ44
              intro u_
              clear hJ44
              cases bb with
              | true =>
                unfold entR
                rw [← hb2]
                simp only [if_true]
                (repeat with_reducible refine Stp.go ?_)
                exact ⟨trivial, [A], E⟩
              | false =>
                unfold entR
                rw [← hb2]
                simp only [Bool.false_eq_true, if_false]
                (repeat with_reducible refine Stp.go ?_)
                (intro J48 hJ48)
                have fin48 : ∀ out w_, tkn count [] Q = out → Hs w0 F w_ (A :: l) → J48 [sb out] w_ := by
                  intro out w_ h E
                  apply hJ48
                  intro u_
                  rw [h]
                  exact ⟨rfl, [A], E⟩
                clear hJ48
                refine hR.len ?_
                refine ⟨fun l1 w1 => ∃ (j : Nat) (out : List UInt8), l1 = [sb out, i64 j] ∧ j ≤ Q.length ∧ out.length ≤ j * 1024 ∧ tkn count [] Q = tkn count out (Q.drop j) ∧ Hs w0 F w1 (A :: l),
                  fun l1 _ => match l1 with | [_, .int _ j] => Q.length - j.toNat | _ => 0, ⟨0, [], rfl, Nat.zero_le _, Nat.zero_le _, rfl, E⟩, ?_⟩
                clear E
                rintro t13 t71 u3 w3 ⟨j, out, e, hj, hol, ht, E⟩
                cases e
                refine Bi.lss ?_ ?_ <;> intro c3 <;> (repeat with_reducible refine Stp.go ?_)
                · have g1 : j < Q.length := by omega
                  have hx := hQ Q[j] (List.getElem_mem g1)
                  have hd2 : ((Q.map sb).drop (((j : Int)).toNat * 1))[0]? = some (sb Q[j]) := by
                    rw [Int.toNat_natCast, Nat.mul_one, List.getElem?_drop, Nat.add_zero, List.getElem?_map, List.getElem?_eq_getElem g1]; rfl
                  rw [List.drop_eq_getElem_cons g1] at ht
                  refine hR.ix (by omega) (by omega) (by omega) ?_
                  intro a ha
                  refine ha.ld E hd2 ?_
                  (repeat with_reducible refine Stp.go ?_)
                  refine Bi.add (by rw [mkB_size, mkB_size]; omega) ?_
                  refine Bi.gtr ?_ ?_ <;> intro c4 <;> (repeat with_reducible refine Stp.go ?_)
                  · rw [mkB_size, mkB_size] at c4
                    refine fin48 _ _ ?_ E
                    rw [ht]
                    unfold tkn
                    rw [if_pos (by omega)]
                  · rw [mkB_size, mkB_size] at c4
                    refine Bi.sadd (by rw [mkB_size, mkB_size]; omega) ?_
                    rw [mkB_app]
                    refine Bi.add (by omega) ?_
                    refine ⟨⟨j + 1, _, rfl, by omega, by rw [List.length_append]; omega, ?_, E⟩, by simp only []; omega⟩
                    rw [ht]
                    conv => lhs; unfold tkn
                    rw [if_neg (by omega)]
                · refine fin48 _ _ ?_ E
                  rw [ht, List.drop_eq_nil_of_le (by omega)]
                  rfl
            clear hJ44
            refine hR.len ?_
            skip
            refine Bi.gtr ?_ ?_ <;> intro c3 <;> (repeat with_reducible refine Stp.go ?_)
            · cases Q with
              | nil => simp at c3
              | cons y r =>
                refine hR.ix (by omega) (by simp) (by omega) ?_
                intro a ha
                (repeat with_reducible refine Stp.go ?_)
                refine ha.ld E (x := sb y) rfl ?_
                (repeat with_reducible refine Stp.go ?_)
                refine Bi.gtr ?_ ?_ <;> intro c4 <;> (repeat with_reducible refine Stp.go ?_)
                · rw [mkB_size] at c4
                  exact fin44 _ (by show true = decide ((y.length : Int) > count); rw [decide_eq_true (by omega)])
                · rw [mkB_size] at c4
                  exact fin44 _ (by show false = decide ((y.length : Int) > count); rw [decide_eq_false (by omega)])
            · cases Q with
              | nil => exact fin44 _ rfl
              | cons y r => simp only [List.length_cons] at c3; omega
        clear hJ40
        refine Bi.lss ?_ ?_ <;> intro c1 <;> (repeat with_reducible refine Stp.go ?_)
        · exact fin40 _ (by rw [decide_eq_true (Or.inl c1)])
        refine Bi.neq ?_ ?_ <;> intro c2 <;> (repeat with_reducible refine Stp.go ?_)
        · exact fin40 _ (by rw [decide_eq_true (Or.inr c2)])
        · exact fin40 _ (by rw [decide_eq_false]; rintro (h | h); omega; exact h c2)
    clear hJ31
    skip
    refine Bi.gtr ?_ ?_ <;> intro c1 <;> (repeat with_reducible refine Stp.go ?_)
    · refine hR.len ?_
      (repeat with_reducible refine Stp.go ?_)
      refine Bi.gtr ?_ ?_ <;> intro c2 <;> (repeat with_reducible refine Stp.go ?_)
      · exact fin31 _ (by rw [decide_eq_true (by omega : 0 < o), decide_eq_true (by omega : 0 < Q.length)]; rfl)
      · exact fin31 _ (by rw [decide_eq_true (by omega : 0 < o), decide_eq_false (by omega : ¬ 0 < Q.length)]; rfl)
    · exact fin31 _ (by rw [decide_eq_false (by omega : ¬ 0 < o)]; rfl)
end Go.Proofs.YtmlccboapkkcfaaDoor

/-
  The protocol: how great a message may be (chapter 31's Few).
-/
namespace Go.Proofs.YtmlccboapkkcfaaDoor
open Go Go.Sh
set_option maxRecDepth 100000
set_option linter.unusedVariables false
set_option linter.unusedSimpArgs false
variable {w0 w : World} {F : Nat → Prop} {l : List As}
def droom (d : Di) : Nat := d.name.length + d.owner.length + d.group.length + d.last.length
def msz (m : Ms) : Nat := m.ver.length + m.user.length + m.tree.length + m.name.length + m.data.length + droom m.dir
def few (m : Ms) : Bool := decide (m.names.length ≤ 40) && decide (m.qids.length ≤ 40) && decide (msz m + (m.names.map List.length).sum ≤ 20000)
/-- No text of a message is greater than this. -/
structure MB (m : Ms) : Prop where
  t : m.ver.length ≤ 140737488355328 ∧ m.user.length ≤ 140737488355328 ∧ m.tree.length ≤ 140737488355328 ∧ m.name.length ≤ 140737488355328 ∧ m.data.length ≤ 140737488355328
  d : m.dir.name.length ≤ 140737488355328 ∧ m.dir.owner.length ≤ 140737488355328 ∧ m.dir.group.length ≤ 140737488355328 ∧ m.dir.last.length ≤ 140737488355328
  n : ∀ s ∈ m.names, s.length ≤ 140737488355328
theorem room_ok {d : Di} (h : d.name.length ≤ 140737488355328 ∧ d.owner.length ≤ 140737488355328 ∧ d.group.length ≤ 140737488355328 ∧ d.last.length ≤ 140737488355328) (E : Hs w0 F w l) :
    Ca PP Fn.law31_room #[.agg (dcs d).toArray] w fun r w' => r = i64 (droom d : Nat) ∧ Hs w0 F w' l := by
  refine S.law31_room.calls ?_
  unfold S.law31_room
  (repeat with_reducible first | refine Stp.go ?_ | refine StpE.go E ?_ | (refine StpA.go E ?_; clear E; intro b_ w_ hb_ E))
  refine Bi.add (by simp only [mkB_size]; omega) ?_
  (repeat with_reducible first | refine Stp.go ?_ | refine StpE.go E ?_)
  refine Bi.add (by simp only [mkB_size]; omega) ?_
  (repeat with_reducible first | refine Stp.go ?_ | refine StpE.go E ?_)
  refine Bi.add (by simp only [mkB_size]; omega) ?_
  skip
  refine ⟨?_, E.tl⟩
  unfold droom
  simp only [mkB_size]
  congr 1
end Go.Proofs.YtmlccboapkkcfaaDoor

/-
  The protocol: whether one of some Dirs is as a function says; how great they may be (chapter 31's fewDirs).
-/
namespace Go.Proofs.YtmlccboapkkcfaaDoor
open Go Go.Sh
set_option maxRecDepth 100000
set_option linter.unusedVariables false
set_option linter.unusedSimpArgs false
variable {w0 w : World} {F : Nat → Prop} {l : List As}
theorem IndexDir_ok {v fv : Value} {xs : List Di} {p : Di → Bool} (hn : xs.length ≤ 9223372036854775806) (E : Hs w0 F w l) (h : RdS w0 F l 10 xs.length v (dqs xs))
    (call : ∀ x ∈ xs, ∀ w1, Hs w0 F w1 l → CaV PP fv #[.agg (dcs x).toArray] w1 fun r w' => r = .bool (p x) ∧ Hs w0 F w' l) :
    Ca PP Fn.slices_IndexFunc_sl_api_Dir_api_Dir #[v, fv] w fun r w' => (∃ n : Int, r = i64 n ∧ (0 ≤ n ↔ xs.any p = true)) ∧ Hs w0 F w' l := by
  refine S.slices_IndexFunc_sl_api_Dir_api_Dir.calls ?_
  unfold S.slices_IndexFunc_sl_api_Dir_api_Dir
  refine h.len ?_
  refine ⟨fun l1 w1 => ∃ i : Nat, l1 = [i64 i] ∧ i ≤ xs.length ∧ (xs.take i).any p = false ∧ Hs w0 F w1 l, fun l1 _ => match l1 with | [.int _ i] => xs.length - i.toNat | _ => 0, ⟨0, rfl, Nat.zero_le _, rfl, E⟩, ?_⟩
  clear E
  rintro t u w1 ⟨i, h1, hi, hp, E⟩
  cases h1
  refine Bi.lss ?_ ?_ <;> intro hlt <;> (repeat with_reducible refine Stp.go ?_)
  · have hx : xs[i]? = some xs[i] := List.getElem?_eq_getElem (by omega)
    refine h.ix (by omega) (by omega) (by omega) ?_
    intro a ha
    rw [Int.toNat_natCast, dqs_at (by omega)] at ha
    refine ha.lda E (m := 10) (ds := dcs xs[i]) rfl rfl (by omega) ?_
    refine (call _ (List.getElem_mem _) _ E).mono ?_
    clear E
    rintro r w_ ⟨rfl, E⟩
    have hany : (xs.take (i + 1)).any p = p xs[i] := by rw [List.take_add_one, hx, List.any_append, hp]; simp
    cases hb : p xs[i] with
    | true =>
      (repeat with_reducible refine Stp.go ?_)
      refine ⟨⟨i, rfl, ⟨fun _ => ?_, fun _ => by omega⟩⟩, E⟩
      rw [List.any_eq_true]; exact ⟨_, List.getElem_mem _, hb⟩
    | false =>
      (repeat with_reducible refine Stp.go ?_)
      refine Bi.add (by omega) ?_
      exact ⟨⟨i + 1, by simp, by omega, by rw [hany, hb], E⟩, by simp only []; omega⟩
  · have : xs.take i = xs := List.take_of_length_le (by omega)
    rw [this] at hp
    exact ⟨⟨-1, rfl, ⟨fun h => by omega, fun h => by rw [hp] at h; cases h⟩⟩, E⟩
theorem ContainsDir_ok {v fv : Value} {xs : List Di} {p : Di → Bool} (hn : xs.length ≤ 9223372036854775806) (E : Hs w0 F w l) (h : RdS w0 F l 10 xs.length v (dqs xs))
    (call : ∀ x ∈ xs, ∀ w1, Hs w0 F w1 l → CaV PP fv #[.agg (dcs x).toArray] w1 fun r w' => r = .bool (p x) ∧ Hs w0 F w' l) :
    Ca PP Fn.slices_ContainsFunc_sl_api_Dir_api_Dir #[v, fv] w fun r w' => r = .bool (xs.any p) ∧ Hs w0 F w' l := by
  refine S.slices_ContainsFunc_sl_api_Dir_api_Dir.calls ?_
  unfold S.slices_ContainsFunc_sl_api_Dir_api_Dir
  refine (IndexDir_ok hn E h call).mono ?_
  rintro r w_ ⟨⟨n, rfl, hn⟩, E⟩
  refine Bi.geq ?_ ?_ <;> intro h1
  · exact ⟨by rw [hn.1 h1], E⟩
  · have : xs.any p = false := by
      cases h2 : xs.any p with
      | false => rfl
      | true => have := hn.2 h2; omega
    exact ⟨by rw [this], E⟩
/-- No text of a Dir is greater than this. -/
def DB (d : Di) : Prop := d.name.length ≤ 140737488355328 ∧ d.owner.length ≤ 140737488355328 ∧ d.group.length ≤ 140737488355328 ∧ d.last.length ≤ 140737488355328
def fewD (xs : List Di) : Bool := decide (xs.length ≤ 20) && !xs.any fun d => decide (droom d > 3000)
theorem fewDirs_ok {v : Value} {xs : List Di} (hb : ∀ d ∈ xs, DB d) (E : Hs w0 F w l) (h : RdS w0 F l 10 xs.length v (dqs xs)) :
    Ca PP Fn.law31_fewDirs #[v] w fun r w' => r = .bool (fewD xs) ∧ Hs w0 F w' l := by
  refine S.law31_fewDirs.calls ?_
  unfold S.law31_fewDirs fewD
  (intro J1 hJ1)
  refine h.len ?_
  refine Bi.leq ?_ ?_ <;> intro c1 <;> (repeat with_reducible first | refine Stp.go ?_ | (apply hJ1; intro u_))
  · refine (ContainsDir_ok (p := fun d => decide (droom d > 3000)) (by omega) E h ?_).mono ?_
    · intro d hd w1 E
      refine CaV.mk (by kernel_rfl) ?_
      show Ca PP Fn.law31_fewDirs_1 #[.agg (dcs d).toArray] w1 _
      refine S.law31_fewDirs_1.calls ?_
      unfold S.law31_fewDirs_1
      (repeat with_reducible first | refine StpE.go E ?_ | (refine StpA.go E ?_; clear E; intro b_ w_ hb_ E))
      refine (room_ok (hb d hd) E).mono ?_
      clear E
      rintro r w_ ⟨rfl, E⟩
      refine Bi.gtr ?_ ?_ <;> intro c2
      · exact ⟨by rw [decide_eq_true (by omega)], E.tl⟩
      · exact ⟨by rw [decide_eq_false (by omega)], E.tl⟩
    clear E
    rintro r w_ ⟨rfl, E⟩
    (repeat with_reducible refine Stp.go ?_)
    refine Un.not ?_
    (repeat with_reducible first | refine Stp.go ?_ | (apply hJ1; intro u_))
    exact ⟨by rw [decide_eq_true (by omega : xs.length ≤ 20)]; rfl, E⟩
  · exact ⟨by rw [decide_eq_false (by omega : ¬ xs.length ≤ 20)]; rfl, E⟩
end Go.Proofs.YtmlccboapkkcfaaDoor

/-
  The protocol's reference: numbers, words, qids, Dirs; whether a letter is in a text; ranges.
-/
namespace Go.Proofs.YtmlccboapkkcfaaDoor
open Go Go.Sh
set_option maxRecDepth 100000
set_option linter.unusedVariables false
set_option linter.unusedSimpArgs false
variable {w0 w : World} {F : Nat → Prop} {l : List As}
theorem byte_at (n : Int) {i : Nat} (hi : i < 8) : (n % 18446744073709551616) / (256 ^ i : Nat) % 256 = n / (256 ^ i : Nat) % 256 := by
  have : i = 0 ∨ i = 1 ∨ i = 2 ∨ i = 3 ∨ i = 4 ∨ i = 5 ∨ i = 6 ∨ i = 7 := by omega
  rcases this with rfl | rfl | rfl | rfl | rfl | rfl | rfl | rfl <;> simp only [Nat.reducePow, Int.cast_ofNat_Int] <;> omega
theorem shr8 {n : Int} {k : Value → Prop} (hn : 0 ≤ n ∧ n < 18446744073709551616) (hk : k (.int .u64 (n / 256))) : Bi .shr (.int .u64 n) (.int .u64 8) k := by
  refine Bi.mk (v := .int .u64 (n / 256)) ?_ hk
  have h1 : min (8 : Int).toNat (IntKind.bits .u64) = 8 := by decide
  simp only [binV]
  rw [if_neg (by omega), h1]
  have h2 : (2 : Int) ^ 8 = 256 := by decide
  rw [h2, Int.fdiv_eq_ediv_of_nonneg _ (by omega)]
theorem div_step (m : Int) (i : Nat) : m / (256 ^ i : Nat) / 256 = m / (256 ^ (i + 1) : Nat) := by
  rw [Int.ediv_ediv_of_nonneg (Int.natCast_nonneg _), Nat.pow_succ]
  congr 1
theorem rnumber_ok {n : Int} {k : Nat} (hk : k ≤ 8) (E : Hs w0 F w l) : Ca PP Fn.r31_number #[i64 n, i64 k] w fun r w' => r = sb (le n k) ∧ Hs w0 F w' l := by
  refine S.r31_number.calls ?_
  unfold S.r31_number
  refine BdS.nul (sz := 1) E u_sl_uint8 (by kernel_rfl) ?_
  clear E
  intro v0 w_ E
  refine Cv.mk ?_
  rw [show IntKind.u64.wrap n = n % 18446744073709551616 from rfl]
  refine ⟨fun l1 w1 => ∃ (i : Nat) (v : Value), l1 = [v, .int .u64 ((n % 18446744073709551616) / (256 ^ i : Nat)), i64 i] ∧ i ≤ k ∧ Hs w0 F w1 (bsA v (le n i) :: l), fun l1 _ => match l1 with | [_, _, .int _ i] => k - i.toNat | _ => 0, ⟨0, v0, ?_, Nat.zero_le _, E⟩, ?_⟩
  · simp
  clear E
  rintro t5 t6 t7 u1 w1 ⟨i, v, e, hi, E⟩
  cases e
  have h0 : 0 ≤ (n % 18446744073709551616) / (256 ^ i : Nat) := Int.ediv_nonneg (by omega) (Int.natCast_nonneg _)
  have h1 : (n % 18446744073709551616) / (256 ^ i : Nat) < 18446744073709551616 := Int.lt_of_le_of_lt (Int.ediv_le_self _ (by omega)) (by omega)
  refine Bi.lss ?_ ?_ <;> intro hlt <;> (repeat with_reducible refine Stp.go ?_)
  · refine Cv.mk ?_
    rw [u8_wrap, byte_at n (by omega)]
    refine BdS.one E u_sl_uint8 e_uint8 rfl ?_
    clear E
    intro v2 w_ E
    have hb1 : ([Value.int .u8 (UInt8.ofNat (n / (256 ^ i : Nat) % 256).toNat).toNat] : List Value) = bts (mkB [UInt8.ofNat (n / (256 ^ i : Nat) % 256).toNat]) := rfl
    rw [hb1] at E
    refine Ap.one E (i := 1) rfl u_sl_uint8 ⟨_, u_sl_uint8, fun _ h => by cases h⟩ e_uint8 (Src.one E (by (first | assumption | exact FPt.mem | exact FMp.mem | exact FSl.mem | (repeat (first | assumption | with_reducible exact List.mem_cons_self | refine List.mem_cons_of_mem _ ?_)))) (bts_scal _)) rfl (by rw [bts_sz, bts_sz, le_length]; show (_ + 1) * _ ≤ _; omega) (by rw [bts_sz, bts_sz, le_length]; show _ + 1 ≤ _; omega) ?_
    clear E
    intro s' w_ E
    (try simp only [List.set_cons_zero, List.set_cons_succ, List.cons_append, List.nil_append, Nat.zero_add, Nat.add_zero] at E)
    rw [bts_ap, ← le_snoc] at E
    refine shr8 ⟨h0, h1⟩ ?_
    rw [div_step]
    refine Bi.add (by omega) ?_
    exact ⟨⟨i + 1, s', rfl, by omega, E.tl⟩, by simp only []; omega⟩
  · have : i = k := by omega
    subst this
    refine CvB.sl E (s := mkB (le n i)) (by (first | assumption | exact FPt.mem | exact FMp.mem | exact FSl.mem | (repeat (first | assumption | with_reducible exact List.mem_cons_self | refine List.mem_cons_of_mem _ ?_)))) u_sl_uint8 u_string u_uint8 ?_
    exact ⟨rfl, E.tl⟩
theorem rword_ok {s : List UInt8} (hs : s.length ≤ 1000000000000000) (E : Hs w0 F w l) : Ca PP Fn.r31_word #[sb s] w fun r w' => r = sb (eW s) ∧ Hs w0 F w' l := by
  refine S.r31_word.calls ?_
  unfold S.r31_word
  (repeat with_reducible refine Stp.go ?_)
  rw [mkB_size]
  refine (rnumber_ok (k := 2) (by omega) E).mono ?_
  clear E
  rintro r w_ ⟨rfl, E⟩
  refine Bi.sadd (by rw [mkB_size, mkB_size, le_length]; omega) ?_
  rw [mkB_app]
  exact ⟨rfl, E⟩
theorem rqid_ok {q : Qi} (E : Hs w0 F w l) : Ca PP Fn.r31_qid #[.agg (qcs q).toArray] w fun r w' => r = sb (eQ q) ∧ Hs w0 F w' l := by
  refine S.r31_qid.calls ?_
  unfold S.r31_qid
  (repeat with_reducible first | refine Stp.go ?_ | refine StpE.go E ?_ | (refine StpW.go E ?_; clear E; intro w_ E) | (refine StpA.go E ?_; clear E; intro b_ w_ hb_ E))
  refine (rnumber_ok (k := 1) (by omega) E).mono ?_
  clear E
  rintro r w_ ⟨rfl, E⟩
  (repeat (with_reducible refine And.intro ?_ ?_; focus ((repeat with_reducible refine StpE.go E ?_); exact rfl)))
  refine (rnumber_ok (k := 4) (by omega) E).mono ?_
  clear E
  rintro r w_ ⟨rfl, E⟩
  (repeat (with_reducible refine And.intro ?_ ?_; focus ((repeat with_reducible refine StpE.go E ?_); exact rfl)))
  refine Bi.sadd (by rw [mkB_size, mkB_size, le_length, le_length]; omega) ?_
  rw [mkB_app]
  refine (rnumber_ok (k := 8) (by omega) E).mono ?_
  clear E
  rintro r w_ ⟨rfl, E⟩
  refine Bi.sadd (by rw [mkB_size, mkB_size, List.length_append, le_length, le_length, le_length]; omega) ?_
  rw [mkB_app]
  exact ⟨rfl, E.tl⟩
theorem rdir_ok {d : Di} (hd : DB d) (E : Hs w0 F w l) : Ca PP Fn.r31_dir #[.agg (dcs d).toArray] w fun r w' => r = sb (eD d) ∧ Hs w0 F w' l := by
  obtain ⟨d1, d2, d3, d4⟩ := hd
  refine S.r31_dir.calls ?_
  unfold S.r31_dir
  (repeat with_reducible first | refine Stp.go ?_ | refine StpE.go E ?_ | (refine StpW.go E ?_; clear E; intro w_ E) | (refine StpA.go E ?_; clear E; intro b_ w_ hb_ E))
  refine (rqid_ok (q := d.q) E).mono ?_
  clear E
  rintro r w_ ⟨rfl, E⟩
  (repeat (with_reducible refine And.intro ?_ ?_; focus ((repeat with_reducible refine StpE.go E ?_); exact rfl)))
  refine (rnumber_ok (k := 4) (by omega) E).mono ?_
  clear E
  rintro r w_ ⟨rfl, E⟩
  (repeat (with_reducible refine And.intro ?_ ?_; focus ((repeat with_reducible refine StpE.go E ?_); exact rfl)))
  refine Bi.sadd (by simp only [mkB_size, le_length, eQ_length]; omega) ?_
  rw [mkB_app]
  refine (rnumber_ok (k := 8) (by omega) E).mono ?_
  clear E
  rintro r w_ ⟨rfl, E⟩
  (repeat (with_reducible refine And.intro ?_ ?_; focus ((repeat with_reducible refine StpE.go E ?_); exact rfl)))
  refine Bi.sadd (by simp only [mkB_size, List.length_append, le_length, eQ_length]; omega) ?_
  rw [mkB_app]
  refine (rnumber_ok (k := 8) (by omega) E).mono ?_
  clear E
  rintro r w_ ⟨rfl, E⟩
  (repeat (with_reducible refine And.intro ?_ ?_; focus ((repeat with_reducible refine StpE.go E ?_); exact rfl)))
  refine Bi.sadd (by simp only [mkB_size, List.length_append, le_length, eQ_length]; omega) ?_
  rw [mkB_app]
  refine (rword_ok (by omega) E).mono ?_
  clear E
  rintro r w_ ⟨rfl, E⟩
  (repeat (with_reducible refine And.intro ?_ ?_; focus ((repeat with_reducible refine StpE.go E ?_); exact rfl)))
  refine Bi.sadd (by simp only [mkB_size, List.length_append, le_length, eQ_length, eW_length]; omega) ?_
  rw [mkB_app]
  refine (rword_ok (by omega) E).mono ?_
  clear E
  rintro r w_ ⟨rfl, E⟩
  (repeat (with_reducible refine And.intro ?_ ?_; focus ((repeat with_reducible refine StpE.go E ?_); exact rfl)))
  refine Bi.sadd (by simp only [mkB_size, List.length_append, le_length, eQ_length, eW_length]; omega) ?_
  rw [mkB_app]
  refine (rword_ok (by omega) E).mono ?_
  clear E
  rintro r w_ ⟨rfl, E⟩
  (repeat (with_reducible refine And.intro ?_ ?_; focus ((repeat with_reducible refine StpE.go E ?_); exact rfl)))
  refine Bi.sadd (by simp only [mkB_size, List.length_append, le_length, eQ_length, eW_length]; omega) ?_
  rw [mkB_app]
  refine (rword_ok (by omega) E).mono ?_
  clear E
  rintro r w_ ⟨rfl, E⟩
  refine Bi.sadd (by simp only [mkB_size, List.length_append, le_length, eQ_length, eW_length]; omega) ?_
  rw [mkB_app]
  (repeat with_reducible refine Stp.go ?_)
  rw [mkB_size]
  refine (rnumber_ok (k := 2) (by omega) E).mono ?_
  clear E
  rintro r w_ ⟨rfl, E⟩
  refine Bi.sadd (by simp only [mkB_size, List.length_append, le_length, eQ_length, eW_length]; omega) ?_
  rw [mkB_app]
  exact ⟨rfl, E.tl⟩
theorem shl1 {k : Nat} (hk : k = 1 ∨ k = 2 ∨ k = 4) {c : Value → Prop} (h : c (i64 (256 ^ k : Nat))) : Bi .shl (i64 1) (i64 (8 * k)) c := by
  rcases hk with rfl | rfl | rfl
  · exact Bi.mk (v := i64 256) (by kernel_rfl) h
  · exact Bi.mk (v := i64 65536) (by kernel_rfl) h
  · exact Bi.mk (v := i64 4294967296) (by kernel_rfl) h
theorem rin_ok {n : Int} {k : Nat} (hk : k = 1 ∨ k = 2 ∨ k = 4) (E : Hs w0 F w l) : Ca PP Fn.r31_in #[i64 n, i64 k] w fun r w' => r = .bool (inR n k) ∧ Hs w0 F w' l := by
  refine S.r31_in.calls ?_
  unfold S.r31_in
  (intro J1 hJ1)
  refine Bi.geq ?_ ?_ <;> intro c
  rotate_left
  · (repeat with_reducible first | refine Stp.go ?_ | (apply hJ1; intro u_))
    refine ⟨?_, E⟩
    unfold inR
    rw [decide_eq_false (by omega)]
    rfl
  have key : ∀ m : Int, m = (256 ^ k : Nat) → (k1 : Value → Prop) → k1 (.bool (inR n k)) → Bi .lss (i64 n) (i64 m) k1 := by
    intro m hm k1 h
    unfold inR at h
    rw [decide_eq_true (by omega), Bool.true_and] at h
    refine Bi.lss (fun c2 => ?_) (fun c2 => ?_)
    · rw [decide_eq_true (by omega)] at h; exact h
    · rw [decide_eq_false (by omega)] at h; exact h
  (repeat with_reducible refine Stp.go ?_)
  refine Bi.mul (by omega) ?_
  (repeat with_reducible refine Stp.go ?_)
  refine shl1 hk ?_
  (repeat with_reducible refine Stp.go ?_)
  refine key _ rfl _ ?_
  (repeat with_reducible first | refine Stp.go ?_ | (apply hJ1; intro u_))
  exact ⟨rfl, E⟩
theorem rrightQid_ok {q : Qi} (E : Hs w0 F w l) : Ca PP Fn.r31_rightQid #[.agg (qcs q).toArray] w fun r w' => r = .bool (rQ q) ∧ Hs w0 F w' l := by
  refine S.r31_rightQid.calls ?_
  unfold S.r31_rightQid
  generalize hb : rQ q = b
  unfold rQ at hb
  (repeat with_reducible (refine StpA.go E ?_; clear E; intro b_ w_ hb_ E))
  (intro J3 hJ3)
  (repeat with_reducible first | refine Stp.go ?_ | refine StpE.go E ?_)
  refine (rin_ok (k := 1) (.inl rfl) E).mono ?_
  clear E
  rintro r w_ ⟨rfl, E⟩
  cases h1 : inR q.kind 1 with
  | false =>
    rw [h1] at hb
    (repeat with_reducible first | refine Stp.go ?_ | (apply hJ3; intro u_))
    exact ⟨by rw [← hb]; rfl, E.tl⟩
  | true =>
  (repeat with_reducible first | refine Stp.go ?_ | refine StpE.go E ?_)
  refine (rin_ok (k := 4) (.inr (.inr rfl)) E).mono ?_
  clear E
  rintro r w_ ⟨rfl, E⟩
  cases h2 : inR q.vers 4 with
  | false =>
    rw [h1, h2] at hb
    (repeat with_reducible first | refine Stp.go ?_ | (apply hJ3; intro u_))
    exact ⟨by rw [← hb]; rfl, E.tl⟩
  | true =>
  rw [h1, h2] at hb
  (repeat with_reducible first | refine Stp.go ?_ | refine StpE.go E ?_)
  refine Bi.geq ?_ ?_ <;> intro c <;> (repeat with_reducible first | refine Stp.go ?_ | (apply hJ3; intro u_))
  · exact ⟨by rw [← hb, decide_eq_true (by omega)]; rfl, E.tl⟩
  · exact ⟨by rw [← hb, decide_eq_false (by omega)]; rfl, E.tl⟩
theorem rrightDir_ok {d : Di} (E : Hs w0 F w l) : Ca PP Fn.r31_rightDir #[.agg (dcs d).toArray] w fun r w' => r = .bool (rD d) ∧ Hs w0 F w' l := by
  refine S.r31_rightDir.calls ?_
  unfold S.r31_rightDir
  generalize hb : rD d = b
  unfold rD at hb
  (repeat with_reducible (refine StpA.go E ?_; clear E; intro b_ w_ hb_ E))
  (intro J3 hJ3)
  (repeat with_reducible first | refine Stp.go ?_ | refine StpE.go E ?_)
  refine (rrightQid_ok (q := d.q) E).mono ?_
  clear E
  rintro r w_ ⟨rfl, E⟩
  cases h1 : rQ d.q with
  | false =>
    rw [h1] at hb
    (repeat with_reducible first | refine Stp.go ?_ | (apply hJ3; intro u_))
    exact ⟨by rw [← hb]; rfl, E.tl⟩
  | true =>
  rw [h1] at hb
  (repeat with_reducible first | refine Stp.go ?_ | refine StpE.go E ?_)
  refine Bi.geq ?_ ?_ <;> intro c1 <;> (repeat with_reducible first | refine Stp.go ?_ | refine StpE.go E ?_ | (apply hJ3; intro u_))
  rotate_left
  · exact ⟨by rw [← hb, decide_eq_false (by omega : ¬ -1 ≤ d.mode)]; rfl, E.tl⟩
  rw [decide_eq_true (by omega : -1 ≤ d.mode)] at hb
  refine Bi.lss ?_ ?_ <;> intro c2 <;> (repeat with_reducible first | refine Stp.go ?_ | refine StpE.go E ?_ | (apply hJ3; intro u_))
  rotate_left
  · exact ⟨by rw [← hb, decide_eq_false (by omega : ¬ d.mode < 4294967295)]; rfl, E.tl⟩
  rw [decide_eq_true (by omega : d.mode < 4294967295)] at hb
  refine Bi.geq ?_ ?_ <;> intro c3 <;> (repeat with_reducible first | refine Stp.go ?_ | refine StpE.go E ?_ | (apply hJ3; intro u_))
  rotate_left
  · exact ⟨by rw [← hb, decide_eq_false (by omega : ¬ -1 ≤ d.time)]; rfl, E.tl⟩
  rw [decide_eq_true (by omega : -1 ≤ d.time)] at hb
  refine Bi.geq ?_ ?_ <;> intro c4 <;> (repeat with_reducible first | refine Stp.go ?_ | (apply hJ3; intro u_))
  rotate_left
  · exact ⟨by rw [← hb, decide_eq_false (by omega : ¬ -1 ≤ d.len)]; rfl, E.tl⟩
  exact ⟨by rw [← hb, decide_eq_true (by omega : -1 ≤ d.len)]; rfl, E.tl⟩
theorem rdirBytes_ok {d : Di} (hd : DB d) (E : Hs w0 F w l) : Ca PP Fn.r31_dirBytes #[.agg (dcs d).toArray] w fun r w' => r = i64 (dB d : Nat) ∧ Hs w0 F w' l := by
  obtain ⟨d1, d2, d3, d4⟩ := hd
  refine S.r31_dirBytes.calls ?_
  unfold S.r31_dirBytes
  (repeat with_reducible first | refine Stp.go ?_ | refine StpE.go E ?_ | (refine StpA.go E ?_; clear E; intro b_ w_ hb_ E))
  refine Bi.add (by simp only [mkB_size]; omega) ?_
  (repeat with_reducible first | refine Stp.go ?_ | refine StpE.go E ?_)
  refine Bi.add (by simp only [mkB_size]; omega) ?_
  (repeat with_reducible first | refine Stp.go ?_ | refine StpE.go E ?_)
  refine Bi.add (by simp only [mkB_size]; omega) ?_
  (repeat with_reducible first | refine Stp.go ?_ | refine StpE.go E ?_)
  refine Bi.add (by simp only [mkB_size]; omega) ?_
  skip
  refine ⟨?_, E.tl⟩
  unfold dB
  simp only [mkB_size]
  congr 1
theorem rCheckDir_ok {d : Di} (hd : DB d) (E : Hs w0 F w l) : Ca PP Fn.r31_CheckDir #[.agg (dcs d).toArray] w fun r w' => r = i64 (chkD d) ∧ Hs w0 F w' l := by
  refine S.r31_CheckDir.calls ?_
  unfold S.r31_CheckDir
  (repeat with_reducible first | refine StpE.go E ?_ | (refine StpA.go E ?_; clear E; intro b_ w_ hb_ E))
  refine (rrightDir_ok (d := d) E).mono ?_
  clear E
  rintro r w_ ⟨rfl, E⟩
  unfold chkD
  cases rD d with
  | false =>
    (repeat with_reducible refine Stp.go ?_)
    exact ⟨rfl, E.tl⟩
  | true =>
  (repeat with_reducible first | refine Stp.go ?_ | refine StpE.go E ?_)
  refine (rdirBytes_ok hd E).mono ?_
  clear E
  rintro r w_ ⟨rfl, E⟩
  refine Bi.gtr ?_ ?_ <;> intro c <;> (repeat with_reducible refine Stp.go ?_)
  · refine ⟨?_, E.tl⟩
    rw [if_neg (by decide), if_pos (by omega)]
  · refine ⟨?_, E.tl⟩
    rw [if_neg (by decide), if_neg (by omega)]
end Go.Proofs.YtmlccboapkkcfaaDoor

/-
  The protocol's reference: Entries (the law StyxEntries).
-/
namespace Go.Proofs.YtmlccboapkkcfaaDoor
open Go Go.Sh
set_option maxRecDepth 100000
set_option linter.unusedVariables false
set_option linter.unusedSimpArgs false
variable {w0 w : World} {F : Nat → Prop} {l : List As}
/-- The offset is not found yet: what is left of it, or it is passed. -/
def NF (off : Int) (P : List (List UInt8)) (at_ i : Nat) : Prop := ((at_ : Int) ≤ off ∧ skp off P = skp (off - at_) (P.drop i)) ∨ (off < at_ ∧ (skp off P).1 ≠ 0)
theorem skp_neg {o : Int} (h : o ≤ 0) (Q : List (List UInt8)) : skp o Q = (o, Q) := by
  cases Q with
  | nil => rfl
  | cons x r => show (if o > 0 then skp (o - x.length) r else (o, x :: r)) = _; rw [if_neg (by omega)]
theorem NF.zero (off : Int) (P : List (List UInt8)) : NF off P 0 0 := by
  by_cases h : 0 ≤ off
  · exact .inl ⟨by omega, by simp⟩
  · refine .inr ⟨by omega, ?_⟩
    rw [skp_neg (by omega)]
    show off ≠ 0
    omega
theorem NF.step {off : Int} {P : List (List UInt8)} {at_ i : Nat} (h : NF off P at_ i) (hi : i < P.length) (hne : (at_ : Int) ≠ off) : NF off P (at_ + P[i].length) (i + 1) := by
  rcases h with ⟨h1, h2⟩ | ⟨h1, h2⟩
  · rw [List.drop_eq_getElem_cons hi] at h2
    have h3 : skp (off - at_) (P[i] :: P.drop (i + 1)) = skp (off - at_ - P[i].length) (P.drop (i + 1)) := by
      show (if off - at_ > 0 then skp (off - at_ - P[i].length) (P.drop (i + 1)) else _) = _
      rw [if_pos (by omega)]
    rw [h3] at h2
    have e : off - ((at_ + P[i].length : Nat) : Int) = off - at_ - P[i].length := by omega
    by_cases h4 : ((at_ + P[i].length : Nat) : Int) ≤ off
    · exact .inl ⟨h4, by rw [e]; exact h2⟩
    · refine .inr ⟨by omega, ?_⟩
      rw [h2, skp_neg (by omega)]
      show off - at_ - P[i].length ≠ 0
      omega
  · exact .inr ⟨by omega, h2⟩
theorem entW_found {count : Int} {x : List UInt8} {r : List (List UInt8)} (h : 0 ≤ count) : entW count (0, x :: r) = if (x.length : Int) > count then ([], 3) else (tkn count [] (x :: r), 0) := by
  unfold entW
  rw [if_neg (by rintro (h | h); omega; exact h rfl)]
  unfold entR bigQ
  by_cases c : (x.length : Int) > count <;> simp [c]
theorem rEntries_ok {ds : List Di} {v : Value} {off count : Int} (hn : ds.length ≤ 1000000) (hd : ∀ d ∈ ds, DB d) (ho : rngI off) (hc : rngI count) (h1 : RdS w0 F l 10 ds.length v (dqs ds)) (E : Hs w0 F w l) :
    Ca PP Fn.r31_Entries #[v, i64 off, i64 count] w fun q w' => q = .tuple #[sb (ent ds off count).1, i64 (ent ds off count).2] ∧ Hs w0 F w' l := by
  refine S.r31_Entries.calls ?_
  unfold S.r31_Entries
  refine ⟨fun l1 w1 => ∃ i : Nat, l1 = [i64 i] ∧ i ≤ ds.length ∧ (∀ d ∈ ds.take i, chkD d = 0) ∧ Hs w0 F w1 l,
    fun l1 _ => match l1 with | [.int _ i] => ds.length - i.toNat | _ => 0, ⟨0, rfl, Nat.zero_le _, (fun _ h => by cases h), E⟩, ?_⟩
  clear E
  rintro t8 u1 w1 ⟨i, e, hi, hz, E⟩
  cases e
  refine h1.len ?_
  refine Bi.lss ?_ ?_ <;> intro hlt <;> (repeat with_reducible refine Stp.go ?_)
  · have g1 : i < ds.length := by omega
    refine h1.ix (by omega) (by omega) (by omega) ?_
    intro a ha
    rw [Int.toNat_natCast, dqs_at g1] at ha
    refine ha.lda E (m := 10) (ds := dcs ds[i]) rfl rfl (by omega) ?_
    refine (rCheckDir_ok (hd _ (List.getElem_mem g1)) E).mono ?_
    clear E
    rintro q w_ ⟨rfl, E⟩
    refine Bi.neq ?_ ?_ <;> intro c2 <;> (repeat with_reducible refine Stp.go ?_)
    · have he : ent ds off count = ([], chkD ds[i]) := by
        unfold ent
        rw [find_at g1 hz c2]
      rw [he]
      exact ⟨rfl, E⟩
    · refine Bi.add (by omega) ?_
      refine ⟨⟨i + 1, rfl, by omega, ?_, E⟩, by simp only []; omega⟩
      rw [List.take_add_one, List.getElem?_eq_getElem g1]
      intro d hd
      rcases List.mem_append.1 hd with hd | hd
      · exact hz d hd
      · rw [List.mem_singleton.1 hd]; exact c2
  · have hi2 : i = ds.length := by omega
    subst hi2
    rw [List.take_length] at hz
    have hP : ∀ x ∈ ds.map eD, x.length ≤ 1024 := by
      intro x hx
      obtain ⟨d, hd, rfl⟩ := List.mem_map.1 hx
      have := (chkD_le (hz d hd)).2
      have := eD_length d
      omega
    have hP0 : ∀ x ∈ ds.map eD, 0 < x.length := by
      intro x hx
      obtain ⟨d, hd, rfl⟩ := List.mem_map.1 hx
      exact List.length_pos_iff.2 (eD_pos d)
    have hPl : (ds.map eD).length = ds.length := List.length_map _
    have hPi : ∀ (i : Nat) (h : i < ds.length), (ds.map eD)[i]? = some (eD ds[i]) := fun i h => by rw [List.getElem?_map, List.getElem?_eq_getElem h]; rfl
    have he : ent ds off count = entW count (skp off (ds.map eD)) := by
      unfold ent entW
      rw [find_none hz, ← entR_is]
      rfl
    rw [he]
    clear he
    generalize ds.map eD = P at hP hP0 hPl hPi ⊢
    (intro J14 hJ14)
    have fin14 : ∀ (at_ : Nat) (out : List UInt8) (found : Bool) w_, Hs w0 F w_ l → (found = true → (count < 0 ∨ entW count (skp off P) = (out, 0))) → (found = false → out = [] ∧ ((at_ : Int) = off → skp off P = (0, [])) ∧ ((at_ : Int) ≠ off → (skp off P).1 ≠ 0)) → J14 [i64 at_, sb out, .bool found] w_ := by
      intro at_ out found w_ E hf hg
      apply hJ14
      intro u_
      clear hJ14
      (intro J20 hJ20)
      have bad : ∀ b, b = true → (count < 0 ∨ (skp off P).1 ≠ 0) → J20 [.bool b] w_ := by
        rintro _ rfl h
        (repeat with_reducible first | refine Stp.go ?_ | (apply hJ20; intro u_))
        refine ⟨?_, E⟩
        unfold entW
        rw [if_pos h]
      have good : ∀ b, b = false → entW count (skp off P) = (out, 0) → J20 [.bool b] w_ := by
        rintro _ rfl h
        (repeat with_reducible first | refine Stp.go ?_ | (apply hJ20; intro u_))
        exact ⟨by rw [h], E⟩
      clear hJ20
      refine Bi.lss ?_ ?_ <;> intro c1 <;> (repeat with_reducible refine Stp.go ?_)
      · exact bad _ rfl (.inl c1)
      cases found with
      | true =>
        (repeat with_reducible refine Stp.go ?_)
        exact good _ rfl ((hf rfl).resolve_left (by omega))
      | false =>
        (repeat with_reducible refine Stp.go ?_)
        obtain ⟨rfl, g2, g3⟩ := hg rfl
        refine Bi.neq ?_ ?_ <;> intro c2 <;> (repeat with_reducible refine Stp.go ?_)
        · exact bad _ rfl (.inr (g3 c2))
        · refine good _ rfl ?_
          rw [g2 c2]
          unfold entW
          rw [if_neg (by rintro (h | h); omega; exact h rfl)]
          rfl
    clear hJ14
    refine ⟨fun l1 w1 => ∃ (at_ i : Nat) (out : List UInt8) (found : Bool), l1 = [i64 at_, sb out, .bool found, i64 i] ∧ i ≤ P.length ∧ at_ ≤ i * 1024 ∧ out.length ≤ i * 1024 ∧ (found = false → out = [] ∧ NF off P at_ i) ∧ (found = true → off < at_ ∧ 0 ≤ count ∧ entW count (skp off P) = (tkn count out (P.drop i), 0)) ∧ Hs w0 F w1 l,
      fun l1 _ => match l1 with | [_, _, _, .int _ i] => P.length - i.toNat | _ => 0, ⟨0, 0, [], false, rfl, Nat.zero_le _, Nat.zero_le _, Nat.zero_le _, fun _ => ⟨rfl, NF.zero off P⟩, (fun h => by cases h), E⟩, ?_⟩
    clear E
    rintro t10 t11 t12 t13 u2 w2 ⟨at_, i, out, found, e, hi, hat, hout, hf, hg, E⟩
    cases e
    refine h1.len ?_
    refine Bi.lss ?_ ?_ <;> intro c3 <;> (repeat with_reducible refine Stp.go ?_)
    · have g1 : i < ds.length := by omega
      have g2 : i < P.length := by omega
      have hx := hP P[i] (List.getElem_mem g2)
      have hx0 := hP0 P[i] (List.getElem_mem g2)
      have hxe : P[i] = eD ds[i] := by
        have := hPi i g1
        rw [List.getElem?_eq_getElem g2] at this
        exact Option.some.inj this
      refine h1.ix (by omega) (by omega) (by omega) ?_
      intro a ha
      rw [Int.toNat_natCast, dqs_at g1] at ha
      refine ha.lda E (m := 10) (ds := dcs ds[i]) rfl rfl (by omega) ?_
      refine (rdir_ok (hd _ (List.getElem_mem g1)) E).mono ?_
      clear E
      rintro q w_ ⟨rfl, E⟩
      rw [← hxe]
      have hdr := List.drop_eq_getElem_cons g2
      have hstep := fun (h : NF off P at_ i) => h.step g2
      generalize P[i] = x at hx hx0 hdr hstep ⊢
      (intro J64 hJ64)
      have fin68 : ∀ (out' : List UInt8) (found' : Bool), out'.length ≤ (i + 1) * 1024 → (found' = false → out' = [] ∧ NF off P (at_ + x.length) (i + 1)) → (found' = true → off < ((at_ + x.length : Nat) : Int) ∧ 0 ≤ count ∧ entW count (skp off P) = (tkn count out' (P.drop (i + 1)), 0)) →
          LnS (sb x) fun t => Bi .add (i64 at_) t fun t65 => Bi .add (i64 i) (i64 1) fun t34 => (∃ (at_ i : Nat) (out : List UInt8) (found : Bool), [t65, sb out', .bool found', t34] = [i64 at_, sb out, .bool found, i64 i] ∧ i ≤ P.length ∧ at_ ≤ i * 1024 ∧ out.length ≤ i * 1024 ∧ (found = false → out = [] ∧ NF off P at_ i) ∧ (found = true → off < at_ ∧ 0 ≤ count ∧ entW count (skp off P) = (tkn count out (P.drop i), 0)) ∧ Hs w0 F w_ l) ∧ (match [t65, sb out', .bool found', t34] with | [_, _, _, .int _ i] => P.length - i.toNat | _ => 0) < P.length - i := by
        intro out' found' a1 a2 a3
        (repeat with_reducible refine Stp.go ?_)
        rw [mkB_size]
        refine Bi.add (by omega) ?_
        refine Bi.add (by omega) ?_
        refine ⟨⟨at_ + x.length, i + 1, out', found', rfl, by omega, by omega, a1, a2, a3, E⟩, by simp only []; omega⟩
      have yes : ∀ b, b = true → (entW count (skp off P) = (tkn count out (x :: P.drop (i + 1)), 0) ∨ (count < 0 ∧ out = [])) → off < ((at_ + x.length : Nat) : Int) → J64 [.bool b] w_ := by
        rintro _ rfl h h2
        apply hJ64
        intro u_
        clear hJ64
        intro J68 hJ68
        (repeat with_reducible refine Stp.go ?_)
        rw [mkB_size, mkB_size]
        refine Bi.add (by omega) ?_
        refine Bi.gtr ?_ ?_ <;> intro c4 <;> (repeat with_reducible refine Stp.go ?_)
        · refine fin14 at_ out true _ E (fun _ => ?_) (fun h => by cases h)
          rcases h with h | ⟨h, -⟩
          · right
            rw [h]
            show (tkn count out (x :: _), (0 : Int)) = _
            unfold tkn
            rw [if_pos (by omega)]
          · exact .inl h
        · refine Bi.sadd (by rw [mkB_size, mkB_size]; omega) ?_
          rw [mkB_app]
          apply hJ68
          intro u_
          refine fin68 _ _ (by rw [List.length_append]; omega) (fun h => by cases h) fun _ => ⟨h2, ?_, ?_⟩
          · rcases h with h | ⟨h, h3⟩
            · omega
            · omega
          · rcases h with h | ⟨h, h3⟩
            · rw [h]
              conv => lhs; unfold tkn
              rw [if_neg (by omega)]
            · omega
      have no : ∀ b, b = false → out = [] → NF off P (at_ + x.length) (i + 1) → J64 [.bool b] w_ := by
        rintro _ rfl h h2
        apply hJ64
        intro u_
        clear hJ64
        intro J68 hJ68
        (repeat with_reducible refine Stp.go ?_)
        apply hJ68
        intro u_
        exact fin68 _ _ (by omega) (fun _ => ⟨h, h2⟩) (fun h => by cases h)
      clear hJ64 fin68
      refine Bi.eql ?_ ?_ <;> intro c4 <;> (repeat with_reducible refine Stp.go ?_)
      · cases found with
        | true => have := (hg rfl).1; omega
        | false =>
          obtain ⟨rfl, hnf⟩ := hf rfl
          have hsk : skp off P = (0, x :: P.drop (i + 1)) := by
            rcases hnf with ⟨h3, h4⟩ | ⟨h3, _⟩
            · rw [h4, hdr, skp_neg (by omega), show off - at_ = 0 by omega]
            · omega
          (intro J81 hJ81)
          have fin81 : ∀ b, b = (decide (0 ≤ count) && decide ((x.length : Int) > count)) → J81 [.bool b] w_ := by
            intro b hb
            apply hJ81
            intro u_
            clear hJ81
            cases b with
            | true =>
              have hb' := hb.symm
              rw [Bool.and_eq_true, decide_eq_true_eq, decide_eq_true_eq] at hb'
              (repeat with_reducible refine Stp.go ?_)
              refine ⟨?_, E⟩
              rw [hsk, entW_found hb'.1, if_pos hb'.2]
            | false =>
              (repeat with_reducible refine Stp.go ?_)
              refine yes _ rfl ?_ (by omega)
              by_cases h5 : 0 ≤ count
              · left
                rw [decide_eq_true h5, Bool.true_and] at hb
                rw [hsk, entW_found h5, if_neg (of_decide_eq_false hb.symm)]
              · exact .inr ⟨by omega, rfl⟩
          clear hJ81
          refine Bi.geq ?_ ?_ <;> intro c5 <;> (repeat with_reducible refine Stp.go ?_)
          · rw [mkB_size]
            refine Bi.gtr ?_ ?_ <;> intro c6 <;> (repeat with_reducible refine Stp.go ?_)
            · exact fin81 _ (by rw [decide_eq_true (by omega), decide_eq_true (by omega)]; rfl)
            · exact fin81 _ (by rw [decide_eq_true (by omega : 0 ≤ count), decide_eq_false (by omega)]; rfl)
          · exact fin81 _ (by rw [decide_eq_false (by omega)]; rfl)
      · cases found with
        | true =>
          obtain ⟨g3, g4, g5⟩ := hg rfl
          rw [hdr] at g5
          exact yes _ rfl (.inl g5) (by omega)
        | false =>
          obtain ⟨h3, h4⟩ := hf rfl
          exact no _ rfl h3 (hstep h4 c4)
    · have hi3 : i = P.length := by omega
      subst hi3
      refine fin14 at_ out found _ E (fun h => ?_) (fun h => ?_)
      · right
        obtain ⟨g3, g4, g5⟩ := hg h
        rw [g5, List.drop_length]
        rfl
      · obtain ⟨h3, h4⟩ := hf h
        rw [List.drop_length] at *
        refine ⟨h3, fun e => ?_, fun e => ?_⟩
        · rcases h4 with ⟨h5, h6⟩ | ⟨h5, h6⟩
          · rw [h6, List.drop_length, show off - at_ = 0 by omega]; rfl
          · omega
        · rcases h4 with ⟨h5, h6⟩ | ⟨h5, h6⟩
          · rw [h6, List.drop_length]
            show off - at_ ≠ 0
            omega
          · exact h6
theorem Entries_law (hW : Wds w0 F) {ds : List Di} {v : Value} {off count : Int} (hd : ∀ d ∈ ds, d.Ok ∧ DB d) (h1 : ∀ l, RdS w0 F l 10 ds.length v (dqs ds)) (ho : rngI off) (hc : rngI count) (E : Hs w0 F w l) :
    Ca PP Fn.law31_StyxEntries #[v, i64 off, i64 count] w fun r w' => r = .bool true ∧ ∃ X, Hs w0 F w' (X ++ l) := by
  refine S.law31_StyxEntries.calls ?_
  unfold S.law31_StyxEntries
  refine (awake_ok hW E).mono ?_
  clear E
  rintro r w_ ⟨rfl, E⟩
  (repeat with_reducible refine Stp.go ?_)
  refine (fewDirs_ok (fun d h => (hd d h).2) E (h1 _)).mono ?_
  clear E
  rintro r w_ ⟨rfl, E⟩
  cases hf : fewD ds with
  | false =>
    (repeat with_reducible refine Stp.go ?_)
    exact ⟨rfl, [], E⟩
  | true =>
  have hn : ds.length ≤ 20 := by
    unfold fewD at hf
    rw [Bool.and_eq_true, decide_eq_true_eq] at hf
    exact hf.1
  have hz : ∀ d ∈ ds, d.Ok ∧ (d.name.length ≤ 9223372036854775807 ∧ d.owner.length ≤ 9223372036854775807 ∧ d.group.length ≤ 9223372036854775807 ∧ d.last.length ≤ 9223372036854775807) := by
    intro d h
    obtain ⟨k1, k2⟩ := hd d h
    unfold DB at k2
    exact ⟨k1, by omega, by omega, by omega, by omega⟩
  (repeat with_reducible refine Stp.go ?_)
  refine (Entries_ok (by omega) hz ho hc (h1 _) E).mono ?_
  clear E
  rintro q w_ ⟨rfl, X, E⟩
  (repeat with_reducible refine Stp.go ?_)
  refine (rEntries_ok (by omega) (fun d h => (hd d h).2) ho hc (h1 _) E).mono ?_
  clear E
  rintro q w_ ⟨rfl, E⟩
  (repeat with_reducible refine Stp.go ?_)
  (intro J15 hJ15)
  refine Bi.seqT rfl ?_
  (repeat with_reducible refine Stp.go ?_)
  refine Bi.eql (fun _ => ?_) (fun h => absurd rfl h)
  (repeat with_reducible first | refine Stp.go ?_ | (apply hJ15; intro u_))
  exact ⟨rfl, X, E⟩
end Go.Proofs.YtmlccboapkkcfaaDoor

/-
  The protocol: what Encode returns for a valid message, Decode decodes to this message; different messages have different encodings (the laws StyxReturns and StyxApart).
-/
namespace Go.Proofs.YtmlccboapkkcfaaDoor
open Go Go.Sh
set_option maxRecDepth 100000
set_option linter.unusedVariables false
set_option linter.unusedSimpArgs false
variable {w0 w : World} {F : Nat → Prop} {l : List As}
/-- A message that is handed in. -/
structure MA (w0 : World) (F : Nat → Prop) (m : Ms) (nv qv : Value) : Prop where
  ok : m.Ok
  rg : rngI m.fid ∧ rngI m.other ∧ rngI m.old ∧ rngI m.size ∧ rngI m.mode ∧ rngI m.perm ∧ rngI m.code
  kd : -9223372036854775808 ≤ m.kind ∧ m.kind ≤ 9223372036854775807
  b : MB m
  rn : ∀ l, RdS w0 F l 1 m.names.length nv (m.names.map sb)
  rq : ∀ l, RdS w0 F l 3 m.qids.length qv (qqs m.qids)
end Go.Proofs.YtmlccboapkkcfaaDoor

/-
  The protocol: a message that is handed in.
-/
namespace Go.Sh
open Go Go.ChangeShapes Go.WideShapes
section
variable {P : Program} {H : Type} {enc : TypeId × Value → H} {W : World}
/-- A struct's parts: type, offset, cells. -/
def ftab (P : Program) (t : TypeId) : List (TypeId × Nat × Nat) := match P.underlying t with
  | some (.struct fs) => fs.toList.map fun f => (f.type, f.offset, P.cellsOf f.type)
  | _ => []
theorem ftab_struct {t : TypeId} {L : List (TypeId × Nat × Nat)} (hL : ftab P t = L) (hne : L ≠ []) : ∃ fs, P.underlying t = some (.struct fs) ∧ L = fs.toList.map fun f => (f.type, f.offset, P.cellsOf f.type) := by
  unfold ftab at hL
  split at hL
  · rename_i fs h; exact ⟨fs, h, hL.symm⟩
  · exact absurd hL.symm hne
theorem struct_parts {t : TypeId} {L : List (TypeId × Nat × Nat)} (hL : ftab P t = L) (hne : L ≠ []) {fuel : Nat} {cs : List Value} {x : DataW H × List MemPlace} (h : DataW.trod enc P W 0 (fun _ => true) true fuel t cs = some x) :
    ∃ xs : List (DataW H × List MemPlace), ∃ n, x.1 = .agg (xs.map (·.1)) ∧ cs.length = P.cellsOf t ∧ xs.length = L.length ∧ ∀ (i : Nat) T o m, L[i]? = some (T, o, m) → DataW.trod enc P W 0 (fun _ => true) true n T ((cs.drop o).take m) = xs[i]? := by
  obtain ⟨fs, hu, rfl⟩ := ftab_struct hL hne
  obtain ⟨xs, n, -, rfl, hlen, hxs, hf⟩ := DataW.trod_struct hu h
  refine ⟨xs, n, rfl, hlen, by simpa using hxs, fun i T o m hi => ?_⟩
  rw [List.getElem?_map] at hi
  obtain ⟨f, hf1, hf2⟩ := Option.map_eq_some_iff.1 hi
  cases hf2
  exact hf i f (by simpa using hf1)
theorem weightsEach_mem : ∀ {ts : List TypeId} {ds : List (DataW H)} {i : Nat} {T : TypeId} {d : DataW H} {n : Nat}, ts[i]? = some T → ds[i]? = some d → n ∈ d.weights P T → n ∈ DataW.weightsEach P ts ds
  | [], _, i, _, _, _, h, _, _ => by simp at h
  | _ :: _, [], i, _, _, _, _, h, _ => by simp at h
  | t :: ts, d :: ds, 0, T, d', n, h1, h2, h3 => by
    cases h1; cases h2
    unfold DataW.weightsEach
    exact List.mem_append_left _ h3
  | t :: ts, d :: ds, i + 1, T, d', n, h1, h2, h3 => by
    unfold DataW.weightsEach
    exact List.mem_append_right _ (weightsEach_mem (i := i) (by simpa using h1) (by simpa using h2) h3)
theorem weightsAll_mem {e : TypeId} : ∀ {ds : List (DataW H)} {d : DataW H} {n : Nat}, d ∈ ds → n ∈ d.weights P e → n ∈ DataW.weightsAll P e ds
  | d :: ds, d', n, h, h2 => by
    unfold DataW.weightsAll
    rcases List.mem_cons.1 h with rfl | h
    · exact List.mem_append_left _ h2
    · exact List.mem_append_right _ (weightsAll_mem h h2)
theorem weights_struct {t : TypeId} {L : List (TypeId × Nat × Nat)} (hL : ftab P t = L) (hne : L ≠ []) {ds : List (DataW H)} {i : Nat} {T : TypeId} {o m : Nat} {d : DataW H} {n : Nat} (hi : L[i]? = some (T, o, m)) (hd : ds[i]? = some d) (hn : n ∈ d.weights P T) :
    n ∈ (DataW.agg ds).weights P t := by
  obtain ⟨fs, hu, rfl⟩ := ftab_struct hL hne
  unfold DataW.weights
  rw [hu]
  refine weightsEach_mem (i := i) (T := T) (d := d) ?_ hd hn
  rw [List.getElem?_map] at hi ⊢
  obtain ⟨f, hf1, hf2⟩ := Option.map_eq_some_iff.1 hi
  cases hf2
  rw [hf1]; rfl
theorem weight_str {T : TypeId} {s : ByteArray} {x : DataW H × List MemPlace} (h : x = (.lit (.string s.data.toList), [])) : s.data.toList.length ∈ x.1.weights P T := by
  subst h
  unfold DataW.weights
  exact List.mem_singleton.2 rfl
end
end Go.Sh

/-
  The protocol: a message that is handed in, opened.
-/
namespace Go.Proofs.YtmlccboapkkcfaaDoor
open Go Go.Sh
set_option maxRecDepth 100000
set_option linter.unusedVariables false
set_option linter.unusedSimpArgs false
variable {H : Type} {enc : TypeId × Value → H} {W : World}
abbrev mtab : List (TypeId × Nat × Nat) := [(Ty.int, 0, 1), (Ty.int, 1, 1), (Ty.int, 2, 1), (Ty.int, 3, 1), (Ty.int, 4, 1), (Ty.int, 5, 1), (Ty.int64, 6, 1), (Ty.int, 7, 1), (Ty.int, 8, 1), (Ty.string, 9, 1), (Ty.string, 10, 1), (Ty.string, 11, 1), (Ty.string, 12, 1), (Ty.sl_string, 13, 1), (Ty.sl_api_Qid, 14, 1), (Ty.string, 15, 1), (Ty.api_Dir, 16, 10), (Ty.api_Errno, 26, 1)]
abbrev dtab : List (TypeId × Nat × Nat) := [(Ty.api_Qid, 0, 3), (Ty.int, 3, 1), (Ty.int64, 4, 1), (Ty.int64, 5, 1), (Ty.string, 6, 1), (Ty.string, 7, 1), (Ty.string, 8, 1), (Ty.string, 9, 1)]
theorem dtab_is : ftab PP Ty.api_Dir = dtab := by kernel_rfl
theorem c_Dir : PP.cellsOf Ty.api_Dir = 10 := by kernel_rfl
theorem uu_int : PP.underlying Ty.int = some (.int .i64) := by kernel_rfl
theorem uu_int64 : PP.underlying Ty.int64 = some (.int .i64) := by kernel_rfl
theorem uu_str : PP.underlying Ty.string = some .string := by kernel_rfl
theorem lvC_Qid : lvC PP 20 Ty.api_Qid = true := by kernel_rfl
theorem wf_rng {n : Int} (h : (Lit.int .i64 n).wf = true) : rngI n := by
  unfold Lit.wf at h
  rw [Bool.and_eq_true, decide_eq_true_eq, decide_eq_true_eq] at h
  exact h
theorem qid_of {r : List Value} (h : fitWL lkQid r) : ∃ q : Qi, r = qcs q ∧ q.Ok := by
  obtain ⟨x0, r, rfl, h0, h⟩ := fitWL_cons h
  obtain ⟨x1, r, rfl, h1, h⟩ := fitWL_cons h
  obtain ⟨x2, r, rfl, h2, h⟩ := fitWL_cons h
  obtain rfl := fitWL_nil h
  obtain ⟨a, rfl, -⟩ := LK.int_of h0
  obtain ⟨b, rfl, -⟩ := LK.int_of h1
  obtain ⟨c, rfl, g2⟩ := LK.int_of h2
  exact ⟨⟨a, b, c⟩, rfl, wf_rng g2⟩
theorem sv (s : BA) : Value.string s = sb (bl s) := str_sb s
theorem open_dir {fuel : Nat} {cs : List Value} {x : DataW H × List MemPlace} (h : DataW.trod enc PP W 0 (fun _ => true) true fuel Ty.api_Dir cs = some x) :
    ∃ d : Di, cs = dcs d ∧ d.Ok ∧ ∀ s, s = d.name ∨ s = d.owner ∨ s = d.group ∨ s = d.last → s.length ∈ x.1.weights PP Ty.api_Dir := by
  obtain ⟨xs, n, hx, hlen, hxs, hf⟩ := struct_parts dtab_is (by decide) h
  rw [c_Dir] at hlen
  obtain ⟨c0, c1, c2, c3, c4, c5, c6, c7, c8, c9, rfl⟩ : ∃ c0 c1 c2 c3 c4 c5 c6 c7 c8 c9, cs = [c0, c1, c2, c3, c4, c5, c6, c7, c8, c9] := by
    match cs, hlen with
    | [c0, c1, c2, c3, c4, c5, c6, c7, c8, c9], _ => exact ⟨c0, c1, c2, c3, c4, c5, c6, c7, c8, c9, rfl⟩
  obtain ⟨x0, x1, x2, x3, x4, x5, x6, x7, rfl⟩ : ∃ x0 x1 x2 x3 x4 x5 x6 x7, xs = [x0, x1, x2, x3, x4, x5, x6, x7] := by
    match xs, hxs with
    | [x0, x1, x2, x3, x4, x5, x6, x7], _ => exact ⟨x0, x1, x2, x3, x4, x5, x6, x7, rfl⟩
  have h0 : DataW.trod enc PP W 0 (fun _ => true) true n Ty.api_Qid [c0, c1, c2] = some x0 := hf 0 _ _ _ rfl
  obtain ⟨q, eq, hq⟩ := qid_of (trod_lv 20 lv_Qid lvC_Qid _ _ _ h0)
  cases eq
  have h1 : DataW.trod enc PP W 0 (fun _ => true) true n Ty.int [c3] = some x1 := hf 1 _ _ _ rfl
  obtain ⟨n1, e1, -, w1⟩ := DataW.trod_int uu_int h1
  cases e1
  have h2 : DataW.trod enc PP W 0 (fun _ => true) true n Ty.int64 [c4] = some x2 := hf 2 _ _ _ rfl
  obtain ⟨n2, e2, -, w2⟩ := DataW.trod_int uu_int64 h2
  cases e2
  have h3 : DataW.trod enc PP W 0 (fun _ => true) true n Ty.int64 [c5] = some x3 := hf 3 _ _ _ rfl
  obtain ⟨n3, e3, -, w3⟩ := DataW.trod_int uu_int64 h3
  cases e3
  have h4 : DataW.trod enc PP W 0 (fun _ => true) true n Ty.string [c6] = some x4 := hf 4 _ _ _ rfl
  obtain ⟨s4, e4, y4, -⟩ := DataW.trod_string uu_str h4
  cases e4
  have h5 : DataW.trod enc PP W 0 (fun _ => true) true n Ty.string [c7] = some x5 := hf 5 _ _ _ rfl
  obtain ⟨s5, e5, y5, -⟩ := DataW.trod_string uu_str h5
  cases e5
  have h6 : DataW.trod enc PP W 0 (fun _ => true) true n Ty.string [c8] = some x6 := hf 6 _ _ _ rfl
  obtain ⟨s6, e6, y6, -⟩ := DataW.trod_string uu_str h6
  cases e6
  have h7 : DataW.trod enc PP W 0 (fun _ => true) true n Ty.string [c9] = some x7 := hf 7 _ _ _ rfl
  obtain ⟨s7, e7, y7, -⟩ := DataW.trod_string uu_str h7
  cases e7
  refine ⟨⟨q, n1, n2, n3, bl s4, bl s5, bl s6, bl s7⟩, ?_, ⟨hq, wf_rng w2, wf_rng w3⟩, ?_⟩
  · rw [sv s4, sv s5, sv s6, sv s7]
  · rw [hx]
    rintro s (rfl | rfl | rfl | rfl)
    · exact weights_struct dtab_is (by decide) (i := 4) rfl rfl (weight_str y4)
    · exact weights_struct dtab_is (by decide) (i := 5) rfl rfl (weight_str y5)
    · exact weights_struct dtab_is (by decide) (i := 6) rfl rfl (weight_str y6)
    · exact weights_struct dtab_is (by decide) (i := 7) rfl rfl (weight_str y7)
end Go.Proofs.YtmlccboapkkcfaaDoor
