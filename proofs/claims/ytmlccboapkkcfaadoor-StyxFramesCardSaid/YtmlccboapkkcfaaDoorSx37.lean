/-
  The protocol: the reader of fields visits a message.
-/
import Derived.Test.YtmlccboapkkcfaaDoorSx20
namespace Go.Proofs.YtmlccboapkkcfaaDoor
open Go Go.Sh
set_option maxRecDepth 100000
set_option linter.unusedVariables false
set_option linter.unusedSimpArgs false
variable {w0 w : World} {F : Nat → Prop} {l : List As}
variable {i mb : Nat} {I : Ip} {m : Ms} {nv qv : Value}
theorem ifl0 (m : Ms) (I : Ip) : Ip.flds [] m I = (m, I) := rfl
theorem ifl1 (m : Ms) (I : Ip) (a : Fl) : Ip.flds [a] m I = Ip.fld m I a := rfl
theorem ifl2 (m : Ms) (I : Ip) (a b : Fl) : Ip.flds [a, b] m I = Ip.fld (Ip.fld m I a).1 (Ip.fld m I a).2 b := rfl
theorem ifl3 (m : Ms) (I : Ip) (a b c : Fl) : Ip.flds [a, b, c] m I = Ip.fld (Ip.fld (Ip.fld m I a).1 (Ip.fld m I a).2 b).1 (Ip.fld (Ip.fld m I a).1 (Ip.fld m I a).2 b).2 c := rfl
theorem ifl4 (m : Ms) (I : Ip) (a b c d : Fl) : Ip.flds [a, b, c, d] m I = Ip.fld (Ip.fld (Ip.fld (Ip.fld m I a).1 (Ip.fld m I a).2 b).1 (Ip.fld (Ip.fld m I a).1 (Ip.fld m I a).2 b).2 c).1 (Ip.fld (Ip.fld (Ip.fld m I a).1 (Ip.fld m I a).2 b).1 (Ip.fld (Ip.fld m I a).1 (Ip.fld m I a).2 b).2 c).2 d := rfl
/-- What a visit leaves. -/
def IPo (w0 : World) (F : Nat → Prop) (i mb : Nat) (l : List As) (x : Ms × Ip) (w : World) : Prop :=
  ∃ nv qv X, RdS w0 F X 1 x.1.names.length nv (x.1.names.map sb) ∧ RdS w0 F X 3 x.1.qids.length qv (qqs x.1.qids) ∧ IT w0 F i x.2 (mA mb x.1 nv qv :: (X ++ l)) w
theorem rds_nil {sz : Nat} : RdS w0 F l sz 0 nilV [] := ⟨none, 0, rfl, Nat.le_refl _, by simp, .inl rfl⟩
theorem ipo_nil {x : Ms × Ip} (h1 : x.1.names = []) (h2 : x.1.qids = []) (E : IT w0 F i x.2 (mA mb x.1 nilV nilV :: l) w) : IPo w0 F i mb l x w := by
  refine ⟨nilV, nilV, [], ?_, ?_, E⟩
  · rw [h1]; exact rds_nil
  · rw [h2]; exact rds_nil
theorem ipo_n {x : Ms × Ip} {v : Value} (h2 : x.1.qids = []) (E : IT w0 F i x.2 (mA mb x.1 v nilV :: slA v Ty.string 1 (x.1.names.map sb) :: l) w) : IPo w0 F i mb l x w := by
  refine ⟨v, nilV, [slA v Ty.string 1 (x.1.names.map sb)], ?_, ?_, E⟩
  · have := RdS.sl (T := Ty.string) (v := v) (sz := 1) (xs := x.1.names.map sb) (l := [slA v Ty.string 1 (x.1.names.map sb)]) List.mem_cons_self (by omega) (E.rest.tl.drop (.cons_cons _ (List.nil_sublist _)))
    rwa [List.length_map, Nat.div_one] at this
  · rw [h2]; exact rds_nil
theorem ipo_Q {x : Ms × Ip} {v : Value} (h1 : x.1.names = []) (E : IT w0 F i x.2 (mA mb x.1 nilV v :: slA v Ty.api_Qid 3 (qqs x.1.qids) :: l) w) : IPo w0 F i mb l x w := by
  refine ⟨nilV, v, [slA v Ty.api_Qid 3 (qqs x.1.qids)], ?_, ?_, E⟩
  · rw [h1]; exact rds_nil
  · have := RdS.sl (T := Ty.api_Qid) (v := v) (sz := 3) (xs := qqs x.1.qids) (l := [slA v Ty.api_Qid 3 (qqs x.1.qids)]) List.mem_cons_self (by omega) (E.rest.tl.drop (.cons_cons _ (List.nil_sublist _)))
    rwa [qqs_len, Nat.mul_div_cancel _ (by omega)] at this
theorem ipo_q {x : Ms × Ip} {qb : Nat} {q : Qi} (h1 : x.1.names = []) (h2 : x.1.qids = [q]) (E : IT w0 F i x.2 (mA mb x.1 nilV (oneV qb) :: pt qb (oc (qcs q) Ty.api_Qid) :: l) w) : IPo w0 F i mb l x w := by
  refine ⟨nilV, oneV qb, [pt qb (oc (qcs q) Ty.api_Qid)], ?_, ?_, E⟩
  · rw [h1]; exact rds_nil
  · rw [h2]
    exact ⟨_, 1, rfl, Nat.le_refl _, rfl, .inr ⟨_, rfl, RdP.pt (off := 0) (cs := qcs q) (T := Ty.api_Qid) List.mem_cons_self⟩⟩
theorem il_S (E : IT w0 F i I (mA mb m nv qv :: l) w) : Ca PP Fn.styx_input_num #[ptr i, .pointer (some ⟨mb, 5, none⟩), i64 4] w fun q w' => q = .tuple #[] ∧ IT w0 F i (Ip.fld m I .xS).2 (mA mb (Ip.fld m I .xS).1 nv qv :: l) w' :=
  (inum_ok (k := 4) (by omega) (by simp) E).mono fun r w' h => h
theorem il_f (E : IT w0 F i I (mA mb m nv qv :: l) w) : Ca PP Fn.styx_input_num #[ptr i, .pointer (some ⟨mb, 2, none⟩), i64 4] w fun q w' => q = .tuple #[] ∧ IT w0 F i (Ip.fld m I .xf).2 (mA mb (Ip.fld m I .xf).1 nv qv :: l) w' :=
  (inum_ok (k := 4) (by omega) (by simp) E).mono fun r w' h => h
theorem il_o (E : IT w0 F i I (mA mb m nv qv :: l) w) : Ca PP Fn.styx_input_num #[ptr i, .pointer (some ⟨mb, 3, none⟩), i64 4] w fun q w' => q = .tuple #[] ∧ IT w0 F i (Ip.fld m I .xo).2 (mA mb (Ip.fld m I .xo).1 nv qv :: l) w' :=
  (inum_ok (k := 4) (by omega) (by simp) E).mono fun r w' h => h
theorem il_d (E : IT w0 F i I (mA mb m nv qv :: l) w) : Ca PP Fn.styx_input_num #[ptr i, .pointer (some ⟨mb, 4, none⟩), i64 2] w fun q w' => q = .tuple #[] ∧ IT w0 F i (Ip.fld m I .xd).2 (mA mb (Ip.fld m I .xd).1 nv qv :: l) w' :=
  (inum_ok (k := 2) (by omega) (by simp) E).mono fun r w' h => h
theorem il_m (E : IT w0 F i I (mA mb m nv qv :: l) w) : Ca PP Fn.styx_input_num #[ptr i, .pointer (some ⟨mb, 7, none⟩), i64 1] w fun q w' => q = .tuple #[] ∧ IT w0 F i (Ip.fld m I .xm).2 (mA mb (Ip.fld m I .xm).1 nv qv :: l) w' :=
  (inum_ok (k := 1) (by omega) (by simp) E).mono fun r w' h => h
theorem il_p (E : IT w0 F i I (mA mb m nv qv :: l) w) : Ca PP Fn.styx_input_num #[ptr i, .pointer (some ⟨mb, 8, none⟩), i64 4] w fun q w' => q = .tuple #[] ∧ IT w0 F i (Ip.fld m I .xp).2 (mA mb (Ip.fld m I .xp).1 nv qv :: l) w' :=
  (inum_ok (k := 4) (by omega) (by simp) E).mono fun r w' h => h
theorem il_v (E : IT w0 F i I (mA mb m nv qv :: l) w) : Ca PP Fn.styx_input_text #[ptr i, .pointer (some ⟨mb, 9, none⟩)] w fun q w' => q = .tuple #[] ∧ IT w0 F i (Ip.fld m I .xv).2 (mA mb (Ip.fld m I .xv).1 nv qv :: l) w' :=
  (itext_ok (by simp) E).mono fun r w' h => h
theorem il_u (E : IT w0 F i I (mA mb m nv qv :: l) w) : Ca PP Fn.styx_input_text #[ptr i, .pointer (some ⟨mb, 10, none⟩)] w fun q w' => q = .tuple #[] ∧ IT w0 F i (Ip.fld m I .xu).2 (mA mb (Ip.fld m I .xu).1 nv qv :: l) w' :=
  (itext_ok (by simp) E).mono fun r w' h => h
theorem il_t (E : IT w0 F i I (mA mb m nv qv :: l) w) : Ca PP Fn.styx_input_text #[ptr i, .pointer (some ⟨mb, 11, none⟩)] w fun q w' => q = .tuple #[] ∧ IT w0 F i (Ip.fld m I .xt).2 (mA mb (Ip.fld m I .xt).1 nv qv :: l) w' :=
  (itext_ok (by simp) E).mono fun r w' h => h
theorem il_N (E : IT w0 F i I (mA mb m nv qv :: l) w) : Ca PP Fn.styx_input_text #[ptr i, .pointer (some ⟨mb, 12, none⟩)] w fun q w' => q = .tuple #[] ∧ IT w0 F i (Ip.fld m I .xN).2 (mA mb (Ip.fld m I .xN).1 nv qv :: l) w' :=
  (itext_ok (by simp) E).mono fun r w' h => h
theorem il_D (E : IT w0 F i I (mA mb m nv qv :: l) w) : Ca PP Fn.styx_input_data #[ptr i, .pointer (some ⟨mb, 15, none⟩)] w fun q w' => q = .tuple #[] ∧ IT w0 F i (Ip.fld m I .xD).2 (mA mb (Ip.fld m I .xD).1 nv qv :: l) w' :=
  (idata_ok (by simp) E).mono fun r w' h => h
theorem il_O (E : IT w0 F i I (mA mb m nv qv :: l) w) : Ca PP Fn.styx_input_long #[ptr i, .pointer (some ⟨mb, 6, none⟩)] w fun q w' => q = .tuple #[] ∧ IT w0 F i (Ip.fld m I .xO).2 (mA mb (Ip.fld m I .xO).1 nv qv :: l) w' :=
  (ilong_ok (by simp) E).mono fun r w' h => h
theorem il_n (E : IT w0 F i I (mA mb m nilV nilV :: l) w) : Ca PP Fn.styx_input_names #[ptr i, .pointer (some ⟨mb, 13, none⟩)] w fun q w' => q = .tuple #[] ∧ ∃ v, IT w0 F i (Ip.fld m I .xn).2 (mA mb (Ip.fld m I .xn).1 v nilV :: slA v Ty.string 1 ((Ip.fld m I .xn).1.names.map sb) :: l) w' :=
  (inames_ok (by simp) rfl E).mono fun r w' h => h
theorem il_Q (E : IT w0 F i I (mA mb m nilV nilV :: l) w) : Ca PP Fn.styx_input_qids #[ptr i, .pointer (some ⟨mb, 14, none⟩)] w fun q w' => q = .tuple #[] ∧ ∃ v, IT w0 F i (Ip.fld m I .xQ).2 (mA mb (Ip.fld m I .xQ).1 nilV v :: slA v Ty.api_Qid 3 (qqs (Ip.fld m I .xQ).1.qids) :: l) w' :=
  (iqids_ok (by simp) rfl E).mono fun r w' h => h
theorem il_i (E : IT w0 F i I (mA mb m nv qv :: l) w) : Ca PP Fn.styx_input_dir #[ptr i, .pointer (some ⟨mb, 16, none⟩)] w fun q w' => q = .tuple #[] ∧ IT w0 F i (Ip.fld m I .xi).2 (mA mb (Ip.fld m I .xi).1 nv qv :: l) w' :=
  (idir_ok (pre := (MC m nv qv).take 16) (post := [i64 m.code]) rfl E).mono fun r w' h => h
theorem il_q (hm : m.qids = []) (E : IT w0 F i I (mA mb m nv nilV :: l) w) :
    Ca PP Fn.styx_one #[.iface Ty.p_styx_input (ptr i), ptr mb] w fun q w' => q = .tuple #[] ∧ ∃ qb, IT w0 F i (Ip.fld m I .xq).2 (mA mb (Ip.fld m I .xq).1 nv (oneV qb) :: pt qb (oc (qcs I.qid.1) Ty.api_Qid) :: l) w' := by
  refine S.styx_one.calls ?_
  unfold S.styx_one
  obtain ⟨r, t, n, e, E, h⟩ := E
  (intro J1 hJ1)
  have fin1 : ∀ qb w_, Hs w0 F w_ (pt i (oc [ptr r, .bool I.bad, .bool I.ov, .bool I.cut] Ty.styx_input) :: rA r t n e :: pt qb (oc [i64 0, i64 0, i64 0] Ty.api_Qid) :: mA mb m nv (oneV qb) :: l) → J1 [] w_ := by
    intro qb w_ E
    (repeat with_reducible first | refine Stp.go ?_ | refine StpE.go E ?_ | (apply hJ1; intro u_))
    refine ⟨_, 1, 1, .i64, 0, rfl, rfl, by omega, by decide, ?_⟩
    show Ca PP Fn.styx_qid #[.iface Ty.p_styx_input (ptr i), ptr qb] w_ _
    refine (iqid_ok (pre := []) (post := []) rfl rfl ⟨r, t, n, e, E, h⟩).mono ?_
    clear E h
    rintro q w_ ⟨rfl, E⟩
    exact ⟨rfl, qb, E.sw⟩
  clear hJ1
  (repeat first | (with_reducible first | refine Stp.go ?_ | refine StpE.go E ?_ | refine LnL.nil ?_) | ((with_reducible refine Bi.dec true ?_ ?_); focus exact rfl))
  refine MkQ E ?_
  clear E
  intro qb w_ hqb E
  (repeat with_reducible first | refine Stp.go ?_ | (refine StpW.go E ?_; clear E; intro w_ E))
  (replace E := (((E.bIx 0).bIx 2).bIx 2))
  exact fin1 qb _ E
theorem ik_100 (hk : m.kind = 100) (hn : m.names = []) (hq : m.qids = []) (E : IT w0 F i I (mA mb m nilV nilV :: l) w) :
    Ca PP Fn.styx_fields #[.iface Ty.p_styx_input (ptr i), ptr mb] w fun q w' => q = .tuple #[] ∧ IPo w0 F i mb l (Ip.flds [.xS, .xv] m I) w' := by
  refine S.styx_fields.calls ?_
  unfold S.styx_fields
  obtain ⟨r, t, n, e, E, h⟩ := E
  (repeat with_reducible first | refine Stp.go ?_ | refine StpE.go E ?_)
  rw [hk, ifl2]
  (repeat first | (with_reducible first | refine Stp.go ?_ | (refine StpW.go E ?_; clear E; intro w_ E) | (apply hJ_; intro u_)) | ((with_reducible refine Bi.dec true ?_ ?_); focus exact rfl) | (intro J_ hJ_))
  refine (il_S ⟨r, t, n, e, E, h⟩).mono ?_
  clear E h
  rintro q w_ ⟨rfl, r, t, n, e, E, h⟩
  (repeat with_reducible first | refine Stp.go ?_ | (refine StpW.go E ?_; clear E; intro w_ E))
  refine (il_v ⟨r, t, n, e, E, h⟩).mono ?_
  clear E h
  rintro q w_ ⟨rfl, r, t, n, e, E, h⟩
  skip
  exact ⟨rfl, ipo_nil hn hq ⟨r, t, n, e, E, h⟩⟩
theorem ik_101 (hk : m.kind = 101) (hn : m.names = []) (hq : m.qids = []) (E : IT w0 F i I (mA mb m nilV nilV :: l) w) :
    Ca PP Fn.styx_fields #[.iface Ty.p_styx_input (ptr i), ptr mb] w fun q w' => q = .tuple #[] ∧ IPo w0 F i mb l (Ip.flds [.xS, .xv] m I) w' := by
  refine S.styx_fields.calls ?_
  unfold S.styx_fields
  obtain ⟨r, t, n, e, E, h⟩ := E
  (repeat with_reducible first | refine Stp.go ?_ | refine StpE.go E ?_)
  rw [hk, ifl2]
  (repeat first | (with_reducible first | refine Stp.go ?_ | (refine StpW.go E ?_; clear E; intro w_ E) | (apply hJ_; intro u_)) | ((with_reducible refine Bi.dec true ?_ ?_); focus exact rfl) | ((with_reducible refine Bi.dec false ?_ ?_); focus exact rfl) | (intro J_ hJ_))
  refine (il_S ⟨r, t, n, e, E, h⟩).mono ?_
  clear E h
  rintro q w_ ⟨rfl, r, t, n, e, E, h⟩
  (repeat with_reducible first | refine Stp.go ?_ | (refine StpW.go E ?_; clear E; intro w_ E))
  refine (il_v ⟨r, t, n, e, E, h⟩).mono ?_
  clear E h
  rintro q w_ ⟨rfl, r, t, n, e, E, h⟩
  skip
  exact ⟨rfl, ipo_nil hn hq ⟨r, t, n, e, E, h⟩⟩
theorem ik_102 (hk : m.kind = 102) (hn : m.names = []) (hq : m.qids = []) (E : IT w0 F i I (mA mb m nilV nilV :: l) w) :
    Ca PP Fn.styx_fields #[.iface Ty.p_styx_input (ptr i), ptr mb] w fun q w' => q = .tuple #[] ∧ IPo w0 F i mb l (Ip.flds [.xf, .xu, .xt] m I) w' := by
  refine S.styx_fields.calls ?_
  unfold S.styx_fields
  obtain ⟨r, t, n, e, E, h⟩ := E
  (repeat with_reducible first | refine Stp.go ?_ | refine StpE.go E ?_)
  rw [hk, ifl3]
  (repeat first | (with_reducible first | refine Stp.go ?_ | (refine StpW.go E ?_; clear E; intro w_ E) | (apply hJ_; intro u_)) | ((with_reducible refine Bi.dec true ?_ ?_); focus exact rfl) | ((with_reducible refine Bi.dec false ?_ ?_); focus exact rfl) | (intro J_ hJ_))
  refine (il_f ⟨r, t, n, e, E, h⟩).mono ?_
  clear E h
  rintro q w_ ⟨rfl, r, t, n, e, E, h⟩
  (repeat with_reducible first | refine Stp.go ?_ | (refine StpW.go E ?_; clear E; intro w_ E))
  refine (il_u ⟨r, t, n, e, E, h⟩).mono ?_
  clear E h
  rintro q w_ ⟨rfl, r, t, n, e, E, h⟩
  (repeat with_reducible first | refine Stp.go ?_ | (refine StpW.go E ?_; clear E; intro w_ E))
  refine (il_t ⟨r, t, n, e, E, h⟩).mono ?_
  clear E h
  rintro q w_ ⟨rfl, r, t, n, e, E, h⟩
  skip
  exact ⟨rfl, ipo_nil hn hq ⟨r, t, n, e, E, h⟩⟩
theorem ik_103 (hk : m.kind = 103) (hn : m.names = []) (hq : m.qids = []) (E : IT w0 F i I (mA mb m nilV nilV :: l) w) :
    Ca PP Fn.styx_fields #[.iface Ty.p_styx_input (ptr i), ptr mb] w fun q w' => q = .tuple #[] ∧ IPo w0 F i mb l (Ip.flds [.xq] m I) w' := by
  refine S.styx_fields.calls ?_
  unfold S.styx_fields
  obtain ⟨r, t, n, e, E, h⟩ := E
  (repeat with_reducible first | refine Stp.go ?_ | refine StpE.go E ?_)
  rw [hk, ifl1]
  (repeat first | (with_reducible first | refine Stp.go ?_ | (apply hJ_; intro u_)) | ((with_reducible refine Bi.dec true ?_ ?_); focus exact rfl) | ((with_reducible refine Bi.dec false ?_ ?_); focus exact rfl) | (intro J_ hJ_))
  refine (il_q hq ⟨r, t, n, e, E, h⟩).mono ?_
  clear E h
  rintro q w_ ⟨rfl, qb, r, t, n, e, E, h⟩
  skip
  exact ⟨rfl, ipo_q hn rfl ⟨r, t, n, e, E, h⟩⟩
theorem ik_105 (hk : m.kind = 105) (hn : m.names = []) (hq : m.qids = []) (E : IT w0 F i I (mA mb m nilV nilV :: l) w) :
    Ca PP Fn.styx_fields #[.iface Ty.p_styx_input (ptr i), ptr mb] w fun q w' => q = .tuple #[] ∧ IPo w0 F i mb l (Ip.flds [.xq] m I) w' := by
  refine S.styx_fields.calls ?_
  unfold S.styx_fields
  obtain ⟨r, t, n, e, E, h⟩ := E
  (repeat with_reducible first | refine Stp.go ?_ | refine StpE.go E ?_)
  rw [hk, ifl1]
  (repeat first | (with_reducible first | refine Stp.go ?_ | (apply hJ_; intro u_)) | ((with_reducible refine Bi.dec true ?_ ?_); focus exact rfl) | ((with_reducible refine Bi.dec false ?_ ?_); focus exact rfl) | (intro J_ hJ_))
  refine (il_q hq ⟨r, t, n, e, E, h⟩).mono ?_
  clear E h
  rintro q w_ ⟨rfl, qb, r, t, n, e, E, h⟩
  skip
  exact ⟨rfl, ipo_q hn rfl ⟨r, t, n, e, E, h⟩⟩
theorem ik_104 (hk : m.kind = 104) (hn : m.names = []) (hq : m.qids = []) (E : IT w0 F i I (mA mb m nilV nilV :: l) w) :
    Ca PP Fn.styx_fields #[.iface Ty.p_styx_input (ptr i), ptr mb] w fun q w' => q = .tuple #[] ∧ IPo w0 F i mb l (Ip.flds [.xf, .xo, .xu, .xt] m I) w' := by
  refine S.styx_fields.calls ?_
  unfold S.styx_fields
  obtain ⟨r, t, n, e, E, h⟩ := E
  (repeat with_reducible first | refine Stp.go ?_ | refine StpE.go E ?_)
  rw [hk, ifl4]
  (repeat first | (with_reducible first | refine Stp.go ?_ | (refine StpW.go E ?_; clear E; intro w_ E) | (apply hJ_; intro u_)) | ((with_reducible refine Bi.dec true ?_ ?_); focus exact rfl) | ((with_reducible refine Bi.dec false ?_ ?_); focus exact rfl) | (intro J_ hJ_))
  refine (il_f ⟨r, t, n, e, E, h⟩).mono ?_
  clear E h
  rintro q w_ ⟨rfl, r, t, n, e, E, h⟩
  (repeat with_reducible first | refine Stp.go ?_ | (refine StpW.go E ?_; clear E; intro w_ E))
  refine (il_o ⟨r, t, n, e, E, h⟩).mono ?_
  clear E h
  rintro q w_ ⟨rfl, r, t, n, e, E, h⟩
  (repeat with_reducible first | refine Stp.go ?_ | (refine StpW.go E ?_; clear E; intro w_ E))
  refine (il_u ⟨r, t, n, e, E, h⟩).mono ?_
  clear E h
  rintro q w_ ⟨rfl, r, t, n, e, E, h⟩
  (repeat with_reducible first | refine Stp.go ?_ | (refine StpW.go E ?_; clear E; intro w_ E))
  refine (il_t ⟨r, t, n, e, E, h⟩).mono ?_
  clear E h
  rintro q w_ ⟨rfl, r, t, n, e, E, h⟩
  skip
  exact ⟨rfl, ipo_nil hn hq ⟨r, t, n, e, E, h⟩⟩
theorem ik_107 (hk : m.kind = 107) (hn : m.names = []) (hq : m.qids = []) (E : IT w0 F i I (mA mb m nilV nilV :: l) w) :
    Ca PP Fn.styx_fields #[.iface Ty.p_styx_input (ptr i), ptr mb] w fun q w' => q = .tuple #[] ∧ IPo w0 F i mb l (Ip.flds [.xc] m I) w' := by
  refine S.styx_fields.calls ?_
  unfold S.styx_fields
  obtain ⟨r, t, n, e, E, h⟩ := E
  (repeat with_reducible first | refine Stp.go ?_ | refine StpE.go E ?_)
  rw [hk, ifl1]
  (repeat first | (with_reducible first | refine Stp.go ?_ | refine StpE.go E ?_ | (refine StpW.go E ?_; clear E; intro w_ E) | (refine StpA.go E ?_; clear E; intro b_ w_ hb_ E) | (apply hJ_; intro u_)) | ((with_reducible refine Bi.dec true ?_ ?_); focus exact rfl) | ((with_reducible refine Bi.dec false ?_ ?_); focus exact rfl) | (intro J_ hJ_))
  (revert b_; intro c hbc E)
  (replace E := (((E.bIx 0).bIx 2).bIx 2))
  refine (inum_ok (k := 2) (off := 0) (by omega) (by simp) ⟨r, t, n, e, E, h⟩).mono ?_
  clear E h
  rintro q w_ ⟨rfl, r, t, n, e, E, h⟩
  (try simp only [List.set_cons_zero, List.set_cons_succ, List.cons_append, List.nil_append, Nat.zero_add, Nat.add_zero] at E)
  (repeat with_reducible first | refine Stp.go ?_ | refine StpE.go E ?_ | (refine StpW.go E ?_; clear E; intro w_ E))
  (replace E := ((((E.bIx 2).bIx 3).bIx 3).bIx 3))
  exact ⟨rfl, ipo_nil (x := Ip.fld m I .xc) hn hq ⟨r, t, n, e, E.drop (.cons_cons _ (.cons_cons _ (.cons_cons _ (.cons _ (List.Sublist.refl _))))), h⟩⟩
theorem ik_108 (hk : m.kind = 108) (hn : m.names = []) (hq : m.qids = []) (E : IT w0 F i I (mA mb m nilV nilV :: l) w) :
    Ca PP Fn.styx_fields #[.iface Ty.p_styx_input (ptr i), ptr mb] w fun q w' => q = .tuple #[] ∧ IPo w0 F i mb l (Ip.flds [.xd] m I) w' := by
  refine S.styx_fields.calls ?_
  unfold S.styx_fields
  obtain ⟨r, t, n, e, E, h⟩ := E
  (repeat with_reducible first | refine Stp.go ?_ | refine StpE.go E ?_)
  rw [hk, ifl1]
  (repeat first | (with_reducible first | refine Stp.go ?_ | (refine StpW.go E ?_; clear E; intro w_ E) | (apply hJ_; intro u_)) | ((with_reducible refine Bi.dec true ?_ ?_); focus exact rfl) | ((with_reducible refine Bi.dec false ?_ ?_); focus exact rfl) | (intro J_ hJ_))
  refine (il_d ⟨r, t, n, e, E, h⟩).mono ?_
  clear E h
  rintro q w_ ⟨rfl, r, t, n, e, E, h⟩
  skip
  exact ⟨rfl, ipo_nil hn hq ⟨r, t, n, e, E, h⟩⟩
theorem ik_110 (hk : m.kind = 110) (hn : m.names = []) (hq : m.qids = []) (E : IT w0 F i I (mA mb m nilV nilV :: l) w) :
    Ca PP Fn.styx_fields #[.iface Ty.p_styx_input (ptr i), ptr mb] w fun q w' => q = .tuple #[] ∧ IPo w0 F i mb l (Ip.flds [.xf, .xo, .xn] m I) w' := by
  refine S.styx_fields.calls ?_
  unfold S.styx_fields
  obtain ⟨r, t, n, e, E, h⟩ := E
  (repeat with_reducible first | refine Stp.go ?_ | refine StpE.go E ?_)
  rw [hk, ifl3]
  (repeat first | (with_reducible first | refine Stp.go ?_ | (refine StpW.go E ?_; clear E; intro w_ E) | (apply hJ_; intro u_)) | ((with_reducible refine Bi.dec true ?_ ?_); focus exact rfl) | ((with_reducible refine Bi.dec false ?_ ?_); focus exact rfl) | (intro J_ hJ_))
  refine (il_f ⟨r, t, n, e, E, h⟩).mono ?_
  clear E h
  rintro q w_ ⟨rfl, r, t, n, e, E, h⟩
  (repeat with_reducible first | refine Stp.go ?_ | (refine StpW.go E ?_; clear E; intro w_ E))
  refine (il_o ⟨r, t, n, e, E, h⟩).mono ?_
  clear E h
  rintro q w_ ⟨rfl, r, t, n, e, E, h⟩
  (repeat with_reducible first | refine Stp.go ?_ | (refine StpW.go E ?_; clear E; intro w_ E))
  refine (il_n ⟨r, t, n, e, E, h⟩).mono ?_
  clear E h
  rintro q w_ ⟨rfl, v, E⟩
  exact ⟨rfl, ipo_n hq E⟩
theorem ik_111 (hk : m.kind = 111) (hn : m.names = []) (hq : m.qids = []) (E : IT w0 F i I (mA mb m nilV nilV :: l) w) :
    Ca PP Fn.styx_fields #[.iface Ty.p_styx_input (ptr i), ptr mb] w fun q w' => q = .tuple #[] ∧ IPo w0 F i mb l (Ip.flds [.xQ] m I) w' := by
  refine S.styx_fields.calls ?_
  unfold S.styx_fields
  obtain ⟨r, t, n, e, E, h⟩ := E
  (repeat with_reducible first | refine Stp.go ?_ | refine StpE.go E ?_)
  rw [hk, ifl1]
  (repeat first | (with_reducible first | refine Stp.go ?_ | (refine StpW.go E ?_; clear E; intro w_ E) | (apply hJ_; intro u_)) | ((with_reducible refine Bi.dec true ?_ ?_); focus exact rfl) | ((with_reducible refine Bi.dec false ?_ ?_); focus exact rfl) | (intro J_ hJ_))
  refine (il_Q ⟨r, t, n, e, E, h⟩).mono ?_
  clear E h
  rintro q w_ ⟨rfl, v, E⟩
  exact ⟨rfl, ipo_Q hn E⟩
theorem ik_112 (hk : m.kind = 112) (hn : m.names = []) (hq : m.qids = []) (E : IT w0 F i I (mA mb m nilV nilV :: l) w) :
    Ca PP Fn.styx_fields #[.iface Ty.p_styx_input (ptr i), ptr mb] w fun q w' => q = .tuple #[] ∧ IPo w0 F i mb l (Ip.flds [.xf, .xm] m I) w' := by
  refine S.styx_fields.calls ?_
  unfold S.styx_fields
  obtain ⟨r, t, n, e, E, h⟩ := E
  (repeat with_reducible first | refine Stp.go ?_ | refine StpE.go E ?_)
  rw [hk, ifl2]
  (repeat first | (with_reducible first | refine Stp.go ?_ | (refine StpW.go E ?_; clear E; intro w_ E) | (apply hJ_; intro u_)) | ((with_reducible refine Bi.dec true ?_ ?_); focus exact rfl) | ((with_reducible refine Bi.dec false ?_ ?_); focus exact rfl) | (intro J_ hJ_))
  refine (il_f ⟨r, t, n, e, E, h⟩).mono ?_
  clear E h
  rintro q w_ ⟨rfl, r, t, n, e, E, h⟩
  (repeat with_reducible first | refine Stp.go ?_ | (refine StpW.go E ?_; clear E; intro w_ E))
  refine (il_m ⟨r, t, n, e, E, h⟩).mono ?_
  clear E h
  rintro q w_ ⟨rfl, r, t, n, e, E, h⟩
  skip
  exact ⟨rfl, ipo_nil hn hq ⟨r, t, n, e, E, h⟩⟩
theorem ik_113 (hk : m.kind = 113) (hn : m.names = []) (hq : m.qids = []) (E : IT w0 F i I (mA mb m nilV nilV :: l) w) :
    Ca PP Fn.styx_fields #[.iface Ty.p_styx_input (ptr i), ptr mb] w fun q w' => q = .tuple #[] ∧ IPo w0 F i mb l (Ip.flds [.xq, .xS] m I) w' := by
  refine S.styx_fields.calls ?_
  unfold S.styx_fields
  obtain ⟨r, t, n, e, E, h⟩ := E
  (repeat with_reducible first | refine Stp.go ?_ | refine StpE.go E ?_)
  rw [hk, ifl2]
  (repeat first | (with_reducible first | refine Stp.go ?_ | (apply hJ_; intro u_)) | ((with_reducible refine Bi.dec true ?_ ?_); focus exact rfl) | ((with_reducible refine Bi.dec false ?_ ?_); focus exact rfl) | (intro J_ hJ_))
  refine (il_q hq ⟨r, t, n, e, E, h⟩).mono ?_
  clear E h
  rintro q w_ ⟨rfl, qb, r, t, n, e, E, h⟩
  (repeat with_reducible first | refine Stp.go ?_ | (refine StpW.go E ?_; clear E; intro w_ E))
  refine (il_S ⟨r, t, n, e, E, h⟩).mono ?_
  clear E h
  rintro q w_ ⟨rfl, r, t, n, e, E, h⟩
  skip
  exact ⟨rfl, ipo_q hn rfl ⟨r, t, n, e, E, h⟩⟩
theorem ik_115 (hk : m.kind = 115) (hn : m.names = []) (hq : m.qids = []) (E : IT w0 F i I (mA mb m nilV nilV :: l) w) :
    Ca PP Fn.styx_fields #[.iface Ty.p_styx_input (ptr i), ptr mb] w fun q w' => q = .tuple #[] ∧ IPo w0 F i mb l (Ip.flds [.xq, .xS] m I) w' := by
  refine S.styx_fields.calls ?_
  unfold S.styx_fields
  obtain ⟨r, t, n, e, E, h⟩ := E
  (repeat with_reducible first | refine Stp.go ?_ | refine StpE.go E ?_)
  rw [hk, ifl2]
  (repeat first | (with_reducible first | refine Stp.go ?_ | (apply hJ_; intro u_)) | ((with_reducible refine Bi.dec true ?_ ?_); focus exact rfl) | ((with_reducible refine Bi.dec false ?_ ?_); focus exact rfl) | (intro J_ hJ_))
  refine (il_q hq ⟨r, t, n, e, E, h⟩).mono ?_
  clear E h
  rintro q w_ ⟨rfl, qb, r, t, n, e, E, h⟩
  (repeat with_reducible first | refine Stp.go ?_ | (refine StpW.go E ?_; clear E; intro w_ E))
  refine (il_S ⟨r, t, n, e, E, h⟩).mono ?_
  clear E h
  rintro q w_ ⟨rfl, r, t, n, e, E, h⟩
  skip
  exact ⟨rfl, ipo_q hn rfl ⟨r, t, n, e, E, h⟩⟩
theorem ik_114 (hk : m.kind = 114) (hn : m.names = []) (hq : m.qids = []) (E : IT w0 F i I (mA mb m nilV nilV :: l) w) :
    Ca PP Fn.styx_fields #[.iface Ty.p_styx_input (ptr i), ptr mb] w fun q w' => q = .tuple #[] ∧ IPo w0 F i mb l (Ip.flds [.xf, .xN, .xp, .xm] m I) w' := by
  refine S.styx_fields.calls ?_
  unfold S.styx_fields
  obtain ⟨r, t, n, e, E, h⟩ := E
  (repeat with_reducible first | refine Stp.go ?_ | refine StpE.go E ?_)
  rw [hk, ifl4]
  (repeat first | (with_reducible first | refine Stp.go ?_ | (refine StpW.go E ?_; clear E; intro w_ E) | (apply hJ_; intro u_)) | ((with_reducible refine Bi.dec true ?_ ?_); focus exact rfl) | ((with_reducible refine Bi.dec false ?_ ?_); focus exact rfl) | (intro J_ hJ_))
  refine (il_f ⟨r, t, n, e, E, h⟩).mono ?_
  clear E h
  rintro q w_ ⟨rfl, r, t, n, e, E, h⟩
  (repeat with_reducible first | refine Stp.go ?_ | (refine StpW.go E ?_; clear E; intro w_ E))
  refine (il_N ⟨r, t, n, e, E, h⟩).mono ?_
  clear E h
  rintro q w_ ⟨rfl, r, t, n, e, E, h⟩
  (repeat with_reducible first | refine Stp.go ?_ | (refine StpW.go E ?_; clear E; intro w_ E))
  refine (il_p ⟨r, t, n, e, E, h⟩).mono ?_
  clear E h
  rintro q w_ ⟨rfl, r, t, n, e, E, h⟩
  (repeat with_reducible first | refine Stp.go ?_ | (refine StpW.go E ?_; clear E; intro w_ E))
  refine (il_m ⟨r, t, n, e, E, h⟩).mono ?_
  clear E h
  rintro q w_ ⟨rfl, r, t, n, e, E, h⟩
  skip
  exact ⟨rfl, ipo_nil hn hq ⟨r, t, n, e, E, h⟩⟩
theorem ik_116 (hk : m.kind = 116) (hn : m.names = []) (hq : m.qids = []) (E : IT w0 F i I (mA mb m nilV nilV :: l) w) :
    Ca PP Fn.styx_fields #[.iface Ty.p_styx_input (ptr i), ptr mb] w fun q w' => q = .tuple #[] ∧ IPo w0 F i mb l (Ip.flds [.xf, .xO, .xS] m I) w' := by
  refine S.styx_fields.calls ?_
  unfold S.styx_fields
  obtain ⟨r, t, n, e, E, h⟩ := E
  (repeat with_reducible first | refine Stp.go ?_ | refine StpE.go E ?_)
  rw [hk, ifl3]
  (repeat first | (with_reducible first | refine Stp.go ?_ | (refine StpW.go E ?_; clear E; intro w_ E) | (apply hJ_; intro u_)) | ((with_reducible refine Bi.dec true ?_ ?_); focus exact rfl) | ((with_reducible refine Bi.dec false ?_ ?_); focus exact rfl) | (intro J_ hJ_))
  refine (il_f ⟨r, t, n, e, E, h⟩).mono ?_
  clear E h
  rintro q w_ ⟨rfl, r, t, n, e, E, h⟩
  (repeat with_reducible first | refine Stp.go ?_ | (refine StpW.go E ?_; clear E; intro w_ E))
  refine (il_O ⟨r, t, n, e, E, h⟩).mono ?_
  clear E h
  rintro q w_ ⟨rfl, r, t, n, e, E, h⟩
  (repeat with_reducible first | refine Stp.go ?_ | (refine StpW.go E ?_; clear E; intro w_ E))
  refine (il_S ⟨r, t, n, e, E, h⟩).mono ?_
  clear E h
  rintro q w_ ⟨rfl, r, t, n, e, E, h⟩
  skip
  exact ⟨rfl, ipo_nil hn hq ⟨r, t, n, e, E, h⟩⟩
theorem ik_117 (hk : m.kind = 117) (hn : m.names = []) (hq : m.qids = []) (E : IT w0 F i I (mA mb m nilV nilV :: l) w) :
    Ca PP Fn.styx_fields #[.iface Ty.p_styx_input (ptr i), ptr mb] w fun q w' => q = .tuple #[] ∧ IPo w0 F i mb l (Ip.flds [.xD] m I) w' := by
  refine S.styx_fields.calls ?_
  unfold S.styx_fields
  obtain ⟨r, t, n, e, E, h⟩ := E
  (repeat with_reducible first | refine Stp.go ?_ | refine StpE.go E ?_)
  rw [hk, ifl1]
  (repeat first | (with_reducible first | refine Stp.go ?_ | (refine StpW.go E ?_; clear E; intro w_ E) | (apply hJ_; intro u_)) | ((with_reducible refine Bi.dec true ?_ ?_); focus exact rfl) | ((with_reducible refine Bi.dec false ?_ ?_); focus exact rfl) | (intro J_ hJ_))
  refine (il_D ⟨r, t, n, e, E, h⟩).mono ?_
  clear E h
  rintro q w_ ⟨rfl, r, t, n, e, E, h⟩
  skip
  exact ⟨rfl, ipo_nil hn hq ⟨r, t, n, e, E, h⟩⟩
theorem ik_118 (hk : m.kind = 118) (hn : m.names = []) (hq : m.qids = []) (E : IT w0 F i I (mA mb m nilV nilV :: l) w) :
    Ca PP Fn.styx_fields #[.iface Ty.p_styx_input (ptr i), ptr mb] w fun q w' => q = .tuple #[] ∧ IPo w0 F i mb l (Ip.flds [.xf, .xO, .xD] m I) w' := by
  refine S.styx_fields.calls ?_
  unfold S.styx_fields
  obtain ⟨r, t, n, e, E, h⟩ := E
  (repeat with_reducible first | refine Stp.go ?_ | refine StpE.go E ?_)
  rw [hk, ifl3]
  (repeat first | (with_reducible first | refine Stp.go ?_ | (refine StpW.go E ?_; clear E; intro w_ E) | (apply hJ_; intro u_)) | ((with_reducible refine Bi.dec true ?_ ?_); focus exact rfl) | ((with_reducible refine Bi.dec false ?_ ?_); focus exact rfl) | (intro J_ hJ_))
  refine (il_f ⟨r, t, n, e, E, h⟩).mono ?_
  clear E h
  rintro q w_ ⟨rfl, r, t, n, e, E, h⟩
  (repeat with_reducible first | refine Stp.go ?_ | (refine StpW.go E ?_; clear E; intro w_ E))
  refine (il_O ⟨r, t, n, e, E, h⟩).mono ?_
  clear E h
  rintro q w_ ⟨rfl, r, t, n, e, E, h⟩
  (repeat with_reducible first | refine Stp.go ?_ | (refine StpW.go E ?_; clear E; intro w_ E))
  refine (il_D ⟨r, t, n, e, E, h⟩).mono ?_
  clear E h
  rintro q w_ ⟨rfl, r, t, n, e, E, h⟩
  skip
  exact ⟨rfl, ipo_nil hn hq ⟨r, t, n, e, E, h⟩⟩
theorem ik_119 (hk : m.kind = 119) (hn : m.names = []) (hq : m.qids = []) (E : IT w0 F i I (mA mb m nilV nilV :: l) w) :
    Ca PP Fn.styx_fields #[.iface Ty.p_styx_input (ptr i), ptr mb] w fun q w' => q = .tuple #[] ∧ IPo w0 F i mb l (Ip.flds [.xS] m I) w' := by
  refine S.styx_fields.calls ?_
  unfold S.styx_fields
  obtain ⟨r, t, n, e, E, h⟩ := E
  (repeat with_reducible first | refine Stp.go ?_ | refine StpE.go E ?_)
  rw [hk, ifl1]
  (repeat first | (with_reducible first | refine Stp.go ?_ | (refine StpW.go E ?_; clear E; intro w_ E) | (apply hJ_; intro u_)) | ((with_reducible refine Bi.dec true ?_ ?_); focus exact rfl) | ((with_reducible refine Bi.dec false ?_ ?_); focus exact rfl) | (intro J_ hJ_))
  refine (il_S ⟨r, t, n, e, E, h⟩).mono ?_
  clear E h
  rintro q w_ ⟨rfl, r, t, n, e, E, h⟩
  skip
  exact ⟨rfl, ipo_nil hn hq ⟨r, t, n, e, E, h⟩⟩
theorem ik_120 (hk : m.kind = 120) (hn : m.names = []) (hq : m.qids = []) (E : IT w0 F i I (mA mb m nilV nilV :: l) w) :
    Ca PP Fn.styx_fields #[.iface Ty.p_styx_input (ptr i), ptr mb] w fun q w' => q = .tuple #[] ∧ IPo w0 F i mb l (Ip.flds [.xf] m I) w' := by
  refine S.styx_fields.calls ?_
  unfold S.styx_fields
  obtain ⟨r, t, n, e, E, h⟩ := E
  (repeat with_reducible first | refine Stp.go ?_ | refine StpE.go E ?_)
  rw [hk, ifl1]
  (repeat first | (with_reducible first | refine Stp.go ?_ | (refine StpW.go E ?_; clear E; intro w_ E) | (apply hJ_; intro u_)) | ((with_reducible refine Bi.dec true ?_ ?_); focus exact rfl) | ((with_reducible refine Bi.dec false ?_ ?_); focus exact rfl) | (intro J_ hJ_))
  refine (il_f ⟨r, t, n, e, E, h⟩).mono ?_
  clear E h
  rintro q w_ ⟨rfl, r, t, n, e, E, h⟩
  skip
  exact ⟨rfl, ipo_nil hn hq ⟨r, t, n, e, E, h⟩⟩
theorem ik_122 (hk : m.kind = 122) (hn : m.names = []) (hq : m.qids = []) (E : IT w0 F i I (mA mb m nilV nilV :: l) w) :
    Ca PP Fn.styx_fields #[.iface Ty.p_styx_input (ptr i), ptr mb] w fun q w' => q = .tuple #[] ∧ IPo w0 F i mb l (Ip.flds [.xf] m I) w' := by
  refine S.styx_fields.calls ?_
  unfold S.styx_fields
  obtain ⟨r, t, n, e, E, h⟩ := E
  (repeat with_reducible first | refine Stp.go ?_ | refine StpE.go E ?_)
  rw [hk, ifl1]
  (repeat first | (with_reducible first | refine Stp.go ?_ | (refine StpW.go E ?_; clear E; intro w_ E) | (apply hJ_; intro u_)) | ((with_reducible refine Bi.dec true ?_ ?_); focus exact rfl) | ((with_reducible refine Bi.dec false ?_ ?_); focus exact rfl) | (intro J_ hJ_))
  refine (il_f ⟨r, t, n, e, E, h⟩).mono ?_
  clear E h
  rintro q w_ ⟨rfl, r, t, n, e, E, h⟩
  skip
  exact ⟨rfl, ipo_nil hn hq ⟨r, t, n, e, E, h⟩⟩
theorem ik_124 (hk : m.kind = 124) (hn : m.names = []) (hq : m.qids = []) (E : IT w0 F i I (mA mb m nilV nilV :: l) w) :
    Ca PP Fn.styx_fields #[.iface Ty.p_styx_input (ptr i), ptr mb] w fun q w' => q = .tuple #[] ∧ IPo w0 F i mb l (Ip.flds [.xf] m I) w' := by
  refine S.styx_fields.calls ?_
  unfold S.styx_fields
  obtain ⟨r, t, n, e, E, h⟩ := E
  (repeat with_reducible first | refine Stp.go ?_ | refine StpE.go E ?_)
  rw [hk, ifl1]
  (repeat first | (with_reducible first | refine Stp.go ?_ | (refine StpW.go E ?_; clear E; intro w_ E) | (apply hJ_; intro u_)) | ((with_reducible refine Bi.dec true ?_ ?_); focus exact rfl) | ((with_reducible refine Bi.dec false ?_ ?_); focus exact rfl) | (intro J_ hJ_))
  refine (il_f ⟨r, t, n, e, E, h⟩).mono ?_
  clear E h
  rintro q w_ ⟨rfl, r, t, n, e, E, h⟩
  skip
  exact ⟨rfl, ipo_nil hn hq ⟨r, t, n, e, E, h⟩⟩
theorem ik_125 (hk : m.kind = 125) (hn : m.names = []) (hq : m.qids = []) (E : IT w0 F i I (mA mb m nilV nilV :: l) w) :
    Ca PP Fn.styx_fields #[.iface Ty.p_styx_input (ptr i), ptr mb] w fun q w' => q = .tuple #[] ∧ IPo w0 F i mb l (Ip.flds [.xi] m I) w' := by
  refine S.styx_fields.calls ?_
  unfold S.styx_fields
  obtain ⟨r, t, n, e, E, h⟩ := E
  (repeat with_reducible first | refine Stp.go ?_ | refine StpE.go E ?_)
  rw [hk, ifl1]
  (repeat first | (with_reducible first | refine Stp.go ?_ | (refine StpW.go E ?_; clear E; intro w_ E) | (apply hJ_; intro u_)) | ((with_reducible refine Bi.dec true ?_ ?_); focus exact rfl) | ((with_reducible refine Bi.dec false ?_ ?_); focus exact rfl) | (intro J_ hJ_))
  refine (il_i ⟨r, t, n, e, E, h⟩).mono ?_
  clear E h
  rintro q w_ ⟨rfl, r, t, n, e, E, h⟩
  skip
  exact ⟨rfl, ipo_nil hn hq ⟨r, t, n, e, E, h⟩⟩
theorem ik_126 (hk : m.kind = 126) (hn : m.names = []) (hq : m.qids = []) (E : IT w0 F i I (mA mb m nilV nilV :: l) w) :
    Ca PP Fn.styx_fields #[.iface Ty.p_styx_input (ptr i), ptr mb] w fun q w' => q = .tuple #[] ∧ IPo w0 F i mb l (Ip.flds [.xf, .xi] m I) w' := by
  refine S.styx_fields.calls ?_
  unfold S.styx_fields
  obtain ⟨r, t, n, e, E, h⟩ := E
  (repeat with_reducible first | refine Stp.go ?_ | refine StpE.go E ?_)
  rw [hk, ifl2]
  (repeat first | (with_reducible first | refine Stp.go ?_ | (refine StpW.go E ?_; clear E; intro w_ E) | (apply hJ_; intro u_)) | ((with_reducible refine Bi.dec true ?_ ?_); focus exact rfl) | ((with_reducible refine Bi.dec false ?_ ?_); focus exact rfl) | (intro J_ hJ_))
  refine (il_f ⟨r, t, n, e, E, h⟩).mono ?_
  clear E h
  rintro q w_ ⟨rfl, r, t, n, e, E, h⟩
  (repeat with_reducible first | refine Stp.go ?_ | (refine StpW.go E ?_; clear E; intro w_ E))
  refine (il_i ⟨r, t, n, e, E, h⟩).mono ?_
  clear E h
  rintro q w_ ⟨rfl, r, t, n, e, E, h⟩
  skip
  exact ⟨rfl, ipo_nil hn hq ⟨r, t, n, e, E, h⟩⟩
theorem ik_109 (hk : m.kind = 109) (hn : m.names = []) (hq : m.qids = []) (E : IT w0 F i I (mA mb m nilV nilV :: l) w) :
    Ca PP Fn.styx_fields #[.iface Ty.p_styx_input (ptr i), ptr mb] w fun q w' => q = .tuple #[] ∧ IPo w0 F i mb l (Ip.flds [] m I) w' := by
  refine S.styx_fields.calls ?_
  unfold S.styx_fields
  obtain ⟨r, t, n, e, E, h⟩ := E
  (repeat with_reducible first | refine Stp.go ?_ | refine StpE.go E ?_)
  rw [hk, ifl0]
  (repeat first | (with_reducible first | refine Stp.go ?_ | (apply hJ_; intro u_)) | ((with_reducible refine Bi.dec false ?_ ?_); focus exact rfl) | (intro J_ hJ_))
  exact ⟨rfl, ipo_nil hn hq ⟨r, t, n, e, E, h⟩⟩
theorem ik_121 (hk : m.kind = 121) (hn : m.names = []) (hq : m.qids = []) (E : IT w0 F i I (mA mb m nilV nilV :: l) w) :
    Ca PP Fn.styx_fields #[.iface Ty.p_styx_input (ptr i), ptr mb] w fun q w' => q = .tuple #[] ∧ IPo w0 F i mb l (Ip.flds [] m I) w' := by
  refine S.styx_fields.calls ?_
  unfold S.styx_fields
  obtain ⟨r, t, n, e, E, h⟩ := E
  (repeat with_reducible first | refine Stp.go ?_ | refine StpE.go E ?_)
  rw [hk, ifl0]
  (repeat first | (with_reducible first | refine Stp.go ?_ | (apply hJ_; intro u_)) | ((with_reducible refine Bi.dec false ?_ ?_); focus exact rfl) | (intro J_ hJ_))
  exact ⟨rfl, ipo_nil hn hq ⟨r, t, n, e, E, h⟩⟩
theorem ik_123 (hk : m.kind = 123) (hn : m.names = []) (hq : m.qids = []) (E : IT w0 F i I (mA mb m nilV nilV :: l) w) :
    Ca PP Fn.styx_fields #[.iface Ty.p_styx_input (ptr i), ptr mb] w fun q w' => q = .tuple #[] ∧ IPo w0 F i mb l (Ip.flds [] m I) w' := by
  refine S.styx_fields.calls ?_
  unfold S.styx_fields
  obtain ⟨r, t, n, e, E, h⟩ := E
  (repeat with_reducible first | refine Stp.go ?_ | refine StpE.go E ?_)
  rw [hk, ifl0]
  (repeat first | (with_reducible first | refine Stp.go ?_ | (apply hJ_; intro u_)) | ((with_reducible refine Bi.dec false ?_ ?_); focus exact rfl) | (intro J_ hJ_))
  exact ⟨rfl, ipo_nil hn hq ⟨r, t, n, e, E, h⟩⟩
theorem ik_127 (hk : m.kind = 127) (hn : m.names = []) (hq : m.qids = []) (E : IT w0 F i I (mA mb m nilV nilV :: l) w) :
    Ca PP Fn.styx_fields #[.iface Ty.p_styx_input (ptr i), ptr mb] w fun q w' => q = .tuple #[] ∧ IPo w0 F i mb l (Ip.flds [] m I) w' := by
  refine S.styx_fields.calls ?_
  unfold S.styx_fields
  obtain ⟨r, t, n, e, E, h⟩ := E
  (repeat with_reducible first | refine Stp.go ?_ | refine StpE.go E ?_)
  rw [hk, ifl0]
  (repeat first | (with_reducible first | refine Stp.go ?_ | (apply hJ_; intro u_)) | ((with_reducible refine Bi.dec false ?_ ?_); focus exact rfl) | (intro J_ hJ_))
  exact ⟨rfl, ipo_nil hn hq ⟨r, t, n, e, E, h⟩⟩
theorem ifields_ok {fl : List Fl} (hfl : fls m.kind = some fl) (hn : m.names = []) (hq : m.qids = []) (E : IT w0 F i I (mA mb m nilV nilV :: l) w) :
    Ca PP Fn.styx_fields #[.iface Ty.p_styx_input (ptr i), ptr mb] w fun q w' => q = .tuple #[] ∧ IPo w0 F i mb l (Ip.flds fl m I) w' := by
  rcases fls_cases hfl with ⟨(hk | hk), rfl⟩ | ⟨hk, rfl⟩ | ⟨(hk | hk), rfl⟩ | ⟨hk, rfl⟩ | ⟨hk, rfl⟩ | ⟨hk, rfl⟩ | ⟨hk, rfl⟩ | ⟨hk, rfl⟩ | ⟨hk, rfl⟩ | ⟨(hk | hk), rfl⟩ | ⟨hk, rfl⟩ | ⟨hk, rfl⟩ | ⟨hk, rfl⟩ | ⟨hk, rfl⟩ | ⟨hk, rfl⟩ | ⟨(hk | hk | hk), rfl⟩ | ⟨hk, rfl⟩ | ⟨hk, rfl⟩ | ⟨(hk | hk | hk | hk), rfl⟩
  · exact ik_100 hk hn hq E
  · exact ik_101 hk hn hq E
  · exact ik_102 hk hn hq E
  · exact ik_103 hk hn hq E
  · exact ik_105 hk hn hq E
  · exact ik_104 hk hn hq E
  · exact ik_107 hk hn hq E
  · exact ik_108 hk hn hq E
  · exact ik_110 hk hn hq E
  · exact ik_111 hk hn hq E
  · exact ik_112 hk hn hq E
  · exact ik_113 hk hn hq E
  · exact ik_115 hk hn hq E
  · exact ik_114 hk hn hq E
  · exact ik_116 hk hn hq E
  · exact ik_117 hk hn hq E
  · exact ik_118 hk hn hq E
  · exact ik_119 hk hn hq E
  · exact ik_120 hk hn hq E
  · exact ik_122 hk hn hq E
  · exact ik_124 hk hn hq E
  · exact ik_125 hk hn hq E
  · exact ik_126 hk hn hq E
  · exact ik_109 hk hn hq E
  · exact ik_121 hk hn hq E
  · exact ik_123 hk hn hq E
  · exact ik_127 hk hn hq E
end Go.Proofs.YtmlccboapkkcfaaDoor

/-
  The protocol: Decode.
-/
namespace Go.Proofs.YtmlccboapkkcfaaDoor
open Go Go.Sh
set_option maxRecDepth 100000
set_option linter.unusedVariables false
set_option linter.unusedSimpArgs false
variable {w0 w : World} {F : Nat → Prop} {l : List As}
variable {s : List UInt8}
theorem length_ok (hs : s.length ≤ 1000000000000) (E : Hs w0 F w l) : Ca PP Fn.styx_length #[sb s] w fun q w' => q = i64 ((if 4 ≤ s.length then un (s.take 4) else 0 : Nat) : Int) ∧ Hs w0 F w' l := by
  refine S.styx_length.calls ?_
  unfold S.styx_length
  refine (NewReader_ok E).mono ?_
  clear E
  rintro q w_ ⟨r, rfl, E⟩
  refine (RLittle_ok (n := 4) (by omega) hs (Nat.zero_le _) E).mono ?_
  clear E
  rintro q w_ (⟨he, _⟩ | ⟨he, x, n', rfl, hn, hp, E⟩ | ⟨he, hp, e', he', rfl, E⟩)
  · exact absurd rfl he
  · (repeat with_reducible refine Stp.go ?_)
    unfold rd at hp
    rw [List.drop_zero] at hp
    by_cases h4 : 4 ≤ s.length
    · rw [if_pos h4] at hp ⊢
      have := congrArg (fun o => o.map Prod.fst) hp
      simp only [Option.map_some] at this
      exact ⟨(Option.some.inj this).symm, E.tl⟩
    · rw [if_neg h4] at hp; cases hp
  · (repeat with_reducible refine Stp.go ?_)
    unfold rd at hp
    rw [List.drop_zero] at hp
    by_cases h4 : 4 ≤ s.length
    · rw [if_pos h4] at hp; cases hp
    · rw [if_neg h4]
      exact ⟨rfl, E.tl⟩
/-- A message that was read, and where its lists lie. -/
def DMs (w0 : World) (F : Nat → Prop) (l : List As) (m : Ms) (e : Int) (q : Value) (w : World) : Prop :=
  ∃ nv qv X, q = .tuple #[.agg (MC m nv qv).toArray, i64 e] ∧ RdS w0 F X 1 m.names.length nv (m.names.map sb) ∧ RdS w0 F X 3 m.qids.length qv (qqs m.qids) ∧ Hs w0 F w (X ++ l)
theorem DMs.zero {e : Int} (E : Hs w0 F w l) : DMs w0 F l m0 e (.tuple #[.agg (MC m0 nilV nilV).toArray, i64 e]) w := ⟨nilV, nilV, [], rfl, rds_nil, rds_nil, E⟩
theorem Decode_ok (hW : Wds w0 F) (hs : s.length ≤ 1000000000000) (E : Hs w0 F w l) :
    Ca PP Fn.styx_Decode #[sb s] w fun q w' => DMs w0 F l (dec s).1 (dec s).2 q w' := by
  rw [← decP_dec]
  refine S.styx_Decode.calls ?_
  unfold S.styx_Decode
  (repeat with_reducible (refine StpA.go E ?_; clear E; intro b_ w_ hb_ E))
  (revert b_; intro rb hbrb E)
  refine (length_ok hs E).mono ?_
  clear E
  rintro q w_ ⟨rfl, E⟩
  (repeat with_reducible refine Stp.go ?_)
  rw [mkB_size]
  refine Bi.lss ?_ ?_ <;> intro c1 <;> (repeat with_reducible first | refine Stp.go ?_ | refine StpE.go E ?_)
  · have hP : decP s = (m0, 16) := by unfold decP; rw [if_pos (by omega)]
    rw [hP]
    refine StA.all (vs := MC m0 nilV nilV) E rfl rfl rfl ?_
    clear E
    intro w_ E
    (repeat with_reducible refine StpE.go E ?_)
    exact .zero E.tl
  rw [if_pos (show 4 ≤ s.length by omega)]
  refine Bi.gtr ?_ ?_ <;> intro c2 <;> (repeat with_reducible first | refine Stp.go ?_ | refine StpE.go E ?_)
  · have hP : decP s = (m0, 3) := by unfold decP; rw [if_neg (by omega), if_pos (by omega)]
    rw [hP]
    refine StA.all (vs := MC m0 nilV nilV) E rfl rfl rfl ?_
    clear E
    intro w_ E
    (repeat with_reducible refine StpE.go E ?_)
    exact .zero E.tl
  rw [mkB_size]
  refine Bi.neq ?_ ?_ <;> intro c3 <;> (repeat with_reducible first | refine Stp.go ?_ | refine StpE.go E ?_)
  · have hP : decP s = (m0, 14) := by unfold decP; rw [if_neg (by omega), if_neg (by omega), if_pos (by omega)]
    rw [hP]
    refine StA.all (vs := MC m0 nilV nilV) E rfl rfl rfl ?_
    clear E
    intro w_ E
    (repeat with_reducible refine StpE.go E ?_)
    exact .zero E.tl
  refine SlS.suf (by omega) (by rw [mkB_size]; omega) ?_
  have hsub : (mkB s).extract (4 : Int).toNat (mkB s).size = mkB (s.drop 4) := by
    rw [mkB_ext, mkB_size, List.take_length]; rfl
  rw [hsub]
  refine (NewReader_ok E).mono ?_
  clear E
  rintro q w_ ⟨r, rfl, E⟩
  (repeat with_reducible first | refine Stp.go ?_ | refine StpE.go E ?_ | (refine StpA.go E ?_; clear E; intro b_ w_ hb_ E))
  (revert b_; intro mb hbmb E)
  (revert b_; intro i hbi E)
  (replace E := (((E.bIx 0).bIx 2).bIx 2))
  have hP : decP s = (let k := (i0 (s.drop 4)).num 1
    let t := k.2.num 2
    match fls k.1 with
    | none => (m0, 13)
    | some l =>
      let x := Ip.flds l { m0 with kind := k.1, tag := t.1 } t.2
      if x.2.fin.cut then (m0, 2) else if x.2.bad then (m0, 11) else if x.2.ov then (m0, 3) else (x.1, 0)) := by
    unfold decP; rw [if_neg (by omega), if_neg (by omega), if_neg (by omega)]; rfl
  rw [hP]
  clear hP
  have hlt := num_lt (i0 (s.drop 4)) (k := 1) (by omega)
  refine (inum_ok (I := i0 (s.drop 4)) (k := 1) (off := 0) (by omega) (by simp) ⟨r, s.drop 4, 0, 0, E, Nat.zero_le _, by rw [List.length_drop]; omega, rfl, by simp [i0]⟩).mono ?_
  clear E
  rintro q w_ ⟨rfl, E⟩
  generalize (i0 (s.drop 4)).num 1 = k at E hlt ⊢
  obtain ⟨kd, I1⟩ := k
  simp only [] at E hlt ⊢
  (repeat with_reducible refine Stp.go ?_)
  refine (inum_ok (k := 2) (off := 1) (by omega) (by simp) E).mono ?_
  clear E
  rintro q w_ ⟨rfl, E⟩
  generalize I1.num 2 = tg at E ⊢
  obtain ⟨tg, I2⟩ := tg
  simp only [] at E ⊢
  replace E : IT w0 F i I2 (mA mb { m0 with kind := kd, tag := tg } nilV nilV :: pt rb (oc (MC m0 nilV nilV) Ty.api_Msg) :: l) w_ := E
  obtain ⟨r, t, n, e, E, h⟩ := E
  (repeat with_reducible first | refine Stp.go ?_ | refine StpE.go E ?_)
  refine (known_ok hW (k := (kd : Int)) (by omega) E).mono ?_
  clear E
  rintro q w_ ⟨rfl, E⟩
  cases hfl : fls (kd : Int) with
  | none =>
    refine Un.nt ?_
    (repeat with_reducible first | refine Stp.go ?_ | refine StpE.go E ?_)
    refine StA.all (vs := MC m0 nilV nilV) E rfl rfl rfl ?_
    clear E
    intro w_ E
    (repeat with_reducible refine StpE.go E ?_)
    exact .zero E.tl.tl.tl.tl
  | some fl =>
    refine Un.nf ?_
    (repeat with_reducible refine Stp.go ?_)
    refine (ifields_ok (m := { m0 with kind := kd, tag := tg }) hfl rfl rfl ⟨r, t, n, e, E, h⟩).mono ?_
    clear E h
    rintro q w_ ⟨rfl, nv, qv, X, hN, hQ, E⟩
    simp only []
    generalize Ip.flds fl { m0 with kind := kd, tag := tg } I2 = x at E hN hQ ⊢
    obtain ⟨M, J⟩ := x
    simp only [] at E hN hQ ⊢
    refine (ifinish_ok E).mono ?_
    clear E
    rintro q w_ ⟨rfl, E⟩
    have hf : J.fin.bad = J.bad ∧ J.fin.ov = J.ov := ⟨rfl, rfl⟩
    rw [← hf.1, ← hf.2]
    generalize J.fin = J at E ⊢
    refine (ierr_ok E).mono ?_
    clear E
    rintro q w_ ⟨rfl, r, t, n, e, E, -⟩
    have E2 : Hs w0 F w_ (pt rb (oc (MC m0 nilV nilV) Ty.api_Msg) :: mA mb M nv qv :: (X ++ l)) := by
      refine (E.tl.tl).perm ?_
      exact (List.Perm.cons _ List.perm_middle).trans (List.Perm.swap _ _ _)
    clear E
    have E := E2
    clear E2
    have bad : ∀ e : Int, e ≠ 0 → Bi .neq (i64 e) (.int .i64 0) fun t49 => Cnd t49
        (Bd #[.int .i64 0, .int .i64 0, .int .i64 0, .int .i64 0, .int .i64 0, .int .i64 0, .int .i64 0, .int .i64 0, .int .i64 0, .string ⟨#[]⟩, .string ⟨#[]⟩, .string ⟨#[]⟩, .string ⟨#[]⟩, .slice none 0 0, .slice none 0 0, .string ⟨#[]⟩, .int .i64 0, .int .i64 0, .int .i64 0, .int .i64 0, .int .i64 0, .int .i64 0, .string ⟨#[]⟩, .string ⟨#[]⟩, .string ⟨#[]⟩, .string ⟨#[]⟩, .int .i64 0] [(0, 1), (1, 1), (2, 1), (3, 1), (4, 1), (5, 1), (6, 1), (7, 1), (8, 1), (9, 1), (10, 1), (11, 1), (12, 1), (13, 1), (14, 1), (15, 1), (16, 10), (26, 1)] [] fun t50 =>
          St PP 27 (ptr rb) t50 w_ fun w49 => LdA PP 27 (ptr rb) w49 fun t2 => DMs w0 F l m0 e (.tuple #[t2, i64 e]) w49)
        (LdA PP 27 (ptr mb) w_ fun t52 => St PP 27 (ptr rb) t52 w_ fun w52 => LdA PP 27 (ptr rb) w52 fun t2 => DMs w0 F l m0 e (.tuple #[t2, i64 0]) w52) := by
      intro e he
      refine Bi.neq ?_ (fun h => absurd h he)
      intro _
      (repeat with_reducible first | refine Stp.go ?_ | refine StpE.go E ?_)
      refine StA.all (vs := MC m0 nilV nilV) E rfl rfl rfl ?_
      clear E
      intro w_ E
      (repeat with_reducible refine StpE.go E ?_)
      refine .zero (E.tl.tl.drop (List.sublist_append_right _ _))
    cases hc : J.cut with
    | true =>
      simp only [if_true]
      exact bad 2 (by decide)
    | false =>
      cases hb : J.bad with
      | true =>
        simp only [Bool.false_eq_true, if_false, if_true]
        exact bad 11 (by decide)
      | false =>
        cases hv : J.ov with
        | true =>
          simp only [Bool.false_eq_true, if_false, if_true]
          exact bad 3 (by decide)
        | false =>
          simp only [Bool.false_eq_true, if_false]
          clear bad
          (repeat first | (with_reducible first | refine Stp.go ?_ | refine StpE.go E ?_) | ((with_reducible refine Bi.dec false ?_ ?_); focus exact rfl))
          refine StA.all (vs := MC M nv qv) E rfl rfl ?_ ?_
          · have i1 : scalV nv = true := by obtain ⟨a, c, rfl, _⟩ := hN; rfl
            have i2 : scalV qv = true := by obtain ⟨a, c, rfl, _⟩ := hQ; rfl
            simp only [List.all_cons, List.all_nil, i1, i2, Bool.and_true]
            rfl
          clear E
          intro w_ E
          (repeat with_reducible refine StpE.go E ?_)
          exact ⟨nv, qv, X, rfl, hN, hQ, E.tl.tl⟩
end Go.Proofs.YtmlccboapkkcfaaDoor

/-
  The protocol: messages are compared (chapter 31's Same), lists of names, of Qids and of Dirs too.
-/
namespace Go.Proofs.YtmlccboapkkcfaaDoor
open Go Go.Sh
set_option maxRecDepth 100000
set_option linter.unusedVariables false
set_option linter.unusedSimpArgs false
variable {w0 w : World} {F : Nat → Prop} {l : List As}
theorem take_step {α} {xs ys : List α} {i : Nat} (h : xs.take i = ys.take i) (h1 : i < xs.length) (h2 : i < ys.length) (e : xs[i] = ys[i]) : xs.take (i + 1) = ys.take (i + 1) := by
  rw [List.take_add_one, List.take_add_one, h, List.getElem?_eq_getElem h1, List.getElem?_eq_getElem h2, e]
theorem take_all {α} {xs ys : List α} {i : Nat} (h : xs.take i = ys.take i) (hn : xs.length = ys.length) (hi : xs.length ≤ i) : xs = ys := by
  rw [List.take_of_length_le hi, List.take_of_length_le (by omega)] at h
  exact h
theorem eqStr_ok {u v : Value} {xs ys : List (List UInt8)} (hn : xs.length ≤ 1000000000) (E : Hs w0 F w l) (h1 : RdS w0 F l 1 xs.length u (xs.map sb)) (h2 : RdS w0 F l 1 ys.length v (ys.map sb)) :
    Ca PP Fn.slices_Equal_sl_string_string #[u, v] w fun r w' => r = .bool (decide (xs = ys)) ∧ Hs w0 F w' l := by
  refine S.slices_Equal_sl_string_string.calls ?_
  unfold S.slices_Equal_sl_string_string
  refine h1.len ?_
  refine h2.len ?_
  refine Bi.neq ?_ ?_ <;> intro hne
  · (repeat with_reducible refine Stp.go ?_)
    refine ⟨?_, E⟩
    rw [decide_eq_false]
    rintro rfl
    exact hne rfl
  have hne : xs.length = ys.length := by omega
  (repeat with_reducible refine Stp.go ?_)
  refine h1.len ?_
  refine ⟨fun l1 w1 => ∃ i : Nat, l1 = [i64 i] ∧ i ≤ xs.length ∧ xs.take i = ys.take i ∧ Hs w0 F w1 l, fun l1 _ => match l1 with | [.int _ i] => xs.length - i.toNat | _ => 0, ⟨0, rfl, Nat.zero_le _, rfl, E⟩, ?_⟩
  clear E
  rintro t u1 w1 ⟨i, e, hi, ht, E⟩
  cases e
  refine Bi.lss ?_ ?_ <;> intro hlt <;> (repeat with_reducible first | refine Stp.go ?_ | (refine StpW.go E ?_; clear E; intro w_ E))
  · have g1 : i < xs.length := by omega
    have g2 : i < ys.length := by omega
    have hd : ((xs.map sb).drop (((i : Int)).toNat * 1))[0]? = some (sb xs[i]) := by
      rw [Int.toNat_natCast, Nat.mul_one, List.getElem?_drop, Nat.add_zero, List.getElem?_map, List.getElem?_eq_getElem g1]; rfl
    have hd2 : ((ys.map sb).drop (((i : Int)).toNat * 1))[0]? = some (sb ys[i]) := by
      rw [Int.toNat_natCast, Nat.mul_one, List.getElem?_drop, Nat.add_zero, List.getElem?_map, List.getElem?_eq_getElem g2]; rfl
    refine h1.ix (by omega) (by omega) (by omega) ?_
    intro a ha
    refine ha.ld E hd ?_
    refine h2.ix (by omega) (by omega) (by omega) ?_
    intro a2 ha2
    refine ha2.ld E hd2 ?_
    refine Bi.sneq ?_ ?_ <;> intro hc <;> (repeat with_reducible refine Stp.go ?_)
    · refine ⟨?_, E⟩
      rw [decide_eq_false]
      rintro rfl
      exact hc rfl
    refine Bi.add (by omega) ?_
    exact ⟨⟨i + 1, by simp, by omega, take_step ht g1 g2 (mkB_inj hc), E⟩, by simp only []; omega⟩
  · refine ⟨?_, E⟩
    rw [decide_eq_true (take_all ht hne (by omega))]
abbrev lkQid : List LK := [.int .i64, .int .i64, .int .i64]
theorem lv_Qid : lv PP 20 Ty.api_Qid = some lkQid := by kernel_rfl
theorem st_Qid : isSt PP Ty.api_Qid = true := by kernel_rfl
theorem g_Qid : PP.eqGuardType PP.depth Ty.api_Qid = false := by kernel_rfl
theorem ceq_qid (d e : Qi) : ceqL (qcs d) (qcs e) = decide (d = e) := by
  obtain ⟨a1, a2, a3⟩ := d
  obtain ⟨b1, b2, b3⟩ := e
  simp only [ceqL, ceq_int, Bool.and_true]
  rw [Bool.eq_iff_iff]
  simp only [Bool.and_eq_true, decide_eq_true_eq, Qi.mk.injEq]
theorem eqQid_ok {u v : Value} {xs ys : List Qi} (hn : xs.length ≤ 1000000000) (E : Hs w0 F w l) (h1 : RdS w0 F l 3 xs.length u (qqs xs)) (h2 : RdS w0 F l 3 ys.length v (qqs ys)) :
    Ca PP Fn.slices_Equal_sl_api_Qid_api_Qid #[u, v] w fun r w' => r = .bool (decide (xs = ys)) ∧ Hs w0 F w' l := by
  refine S.slices_Equal_sl_api_Qid_api_Qid.calls ?_
  unfold S.slices_Equal_sl_api_Qid_api_Qid
  refine h1.len ?_
  refine h2.len ?_
  refine Bi.neq ?_ ?_ <;> intro hne
  · (repeat with_reducible refine Stp.go ?_)
    refine ⟨?_, E⟩
    rw [decide_eq_false]
    rintro rfl
    exact hne rfl
  have hne : xs.length = ys.length := by omega
  (repeat with_reducible refine Stp.go ?_)
  refine h1.len ?_
  refine ⟨fun l1 w1 => ∃ i : Nat, l1 = [i64 i] ∧ i ≤ xs.length ∧ xs.take i = ys.take i ∧ Hs w0 F w1 l, fun l1 _ => match l1 with | [.int _ i] => xs.length - i.toNat | _ => 0, ⟨0, rfl, Nat.zero_le _, rfl, E⟩, ?_⟩
  clear E
  rintro t u1 w1 ⟨i, e, hi, ht, E⟩
  cases e
  refine Bi.lss ?_ ?_ <;> intro hlt <;> (repeat with_reducible first | refine Stp.go ?_ | (refine StpW.go E ?_; clear E; intro w_ E))
  · have g1 : i < xs.length := by omega
    have g2 : i < ys.length := by omega
    refine h1.ix (by omega) (by omega) (by omega) ?_
    intro a ha
    rw [Int.toNat_natCast, qqs_at g1] at ha
    refine ha.lda E (m := 3) (ds := qcs xs[i]) rfl rfl (by omega) ?_
    refine h2.ix (by omega) (by omega) (by omega) ?_
    intro a2 ha2
    rw [Int.toNat_natCast, qqs_at g2] at ha2
    refine ha2.lda E (m := 3) (ds := qcs ys[i]) rfl rfl (by omega) ?_
    refine EqS.n lv_Qid st_Qid g_Qid rfl rfl ?_
    rw [ceq_qid]
    by_cases hc : xs[i] = ys[i]
    · rw [decide_eq_true hc, Bool.not_true]
      (repeat with_reducible refine Stp.go ?_)
      refine Bi.add (by omega) ?_
      exact ⟨⟨i + 1, by simp, by omega, take_step ht g1 g2 hc, E⟩, by simp only []; omega⟩
    · rw [decide_eq_false hc, Bool.not_false]
      (repeat with_reducible refine Stp.go ?_)
      refine ⟨?_, E⟩
      rw [decide_eq_false]
      rintro rfl
      exact hc rfl
  · refine ⟨?_, E⟩
    rw [decide_eq_true (take_all ht hne (by omega))]
abbrev dqs (ds : List Di) : List Value := ds.flatMap dcs
end Go.Proofs.YtmlccboapkkcfaaDoor

/-
  The protocol: messages are compared (chapter 31's Same).
-/
namespace Go.Proofs.YtmlccboapkkcfaaDoor
open Go Go.Sh
set_option maxRecDepth 100000
set_option linter.unusedVariables false
set_option linter.unusedSimpArgs false
variable {w0 w : World} {F : Nat → Prop} {l : List As}
theorem Ms.ext' {a b : Ms} (h1 : a.kind = b.kind) (h2 : a.tag = b.tag) (h3 : a.fid = b.fid) (h4 : a.other = b.other) (h5 : a.old = b.old) (h6 : a.size = b.size) (h7 : a.off = b.off) (h8 : a.mode = b.mode) (h9 : a.perm = b.perm)
    (h10 : a.ver = b.ver) (h11 : a.user = b.user) (h12 : a.tree = b.tree) (h13 : a.name = b.name) (h14 : a.names = b.names) (h15 : a.qids = b.qids) (h16 : a.data = b.data) (h17 : a.dir = b.dir) (h18 : a.code = b.code) : a = b := by
  cases a; cases b
  simp only at *
  subst h1 h2 h3 h4 h5 h6 h7 h8 h9 h10 h11 h12 h13 h14 h15 h16 h17 h18
  rfl
theorem Same_ok {a b : Ms} {n1 q1 n2 q2 : Value} (hn : a.names.length ≤ 1000000000) (hq : a.qids.length ≤ 1000000000) (E : Hs w0 F w l)
    (h1 : RdS w0 F l 1 a.names.length n1 (a.names.map sb)) (h2 : RdS w0 F l 3 a.qids.length q1 (qqs a.qids)) (h3 : RdS w0 F l 1 b.names.length n2 (b.names.map sb)) (h4 : RdS w0 F l 3 b.qids.length q2 (qqs b.qids)) :
    Ca PP Fn.law31_Same #[.agg (MC a n1 q1).toArray, .agg (MC b n2 q2).toArray] w fun r w' => r = .bool (decide (a = b)) ∧ Hs w0 F w' l := by
  refine S.law31_Same.calls ?_
  unfold S.law31_Same
  have i1 : Scal n1 := ⟨by obtain ⟨a, c, rfl, _⟩ := h1; rfl⟩
  have i2 : Scal q1 := ⟨by obtain ⟨a, c, rfl, _⟩ := h2; rfl⟩
  have i3 : Scal n2 := ⟨by obtain ⟨a, c, rfl, _⟩ := h3; rfl⟩
  have i4 : Scal q2 := ⟨by obtain ⟨a, c, rfl, _⟩ := h4; rfl⟩
  (repeat with_reducible (refine StpA.go E ?_; clear E; intro b_ w_ hb_ E))
  (intro J5 hJ5)
  (repeat with_reducible first | refine Stp.go ?_ | refine StpE.go E ?_)
  refine (eqStr_ok hn E ((h1.cons _).cons _) ((h3.cons _).cons _)).mono ?_
  clear E
  rintro r w_ ⟨rfl, E⟩
  by_cases c0 : a.names = b.names
  rotate_left
  · rw [decide_eq_false c0]
    (repeat with_reducible first | refine Stp.go ?_ | (apply hJ5; intro u_))
    refine ⟨?_, E.tl.tl⟩
    rw [decide_eq_false (fun h => c0 (by rw [h]))]
  rw [decide_eq_true c0]
  (repeat with_reducible first | refine Stp.go ?_ | refine StpE.go E ?_)
  refine (eqQid_ok hq E ((h2.cons _).cons _) ((h4.cons _).cons _)).mono ?_
  clear E
  rintro r w_ ⟨rfl, E⟩
  by_cases c1 : a.qids = b.qids
  rotate_left
  · rw [decide_eq_false c1]
    (repeat with_reducible first | refine Stp.go ?_ | (apply hJ5; intro u_))
    refine ⟨?_, E.tl.tl⟩
    rw [decide_eq_false (fun h => c1 (by rw [h]))]
  rw [decide_eq_true c1]
  (repeat with_reducible first | refine Stp.go ?_ | (apply hJ5; intro u_))
  (intro J9 hJ9)
  (repeat with_reducible first | refine Stp.go ?_ | refine StpE.go E ?_)
  refine Bi.eql (fun ckind => ?_) (fun ckind => ?_)
  rotate_left
  · (repeat with_reducible first | refine Stp.go ?_ | (apply hJ9; intro u_))
    refine ⟨?_, E.tl.tl⟩
    rw [decide_eq_false (fun h => ckind (by rw [h]))]
  (repeat with_reducible first | refine Stp.go ?_ | refine StpE.go E ?_)
  refine Bi.eql (fun ctag => ?_) (fun ctag => ?_)
  rotate_left
  · (repeat with_reducible first | refine Stp.go ?_ | (apply hJ9; intro u_))
    refine ⟨?_, E.tl.tl⟩
    rw [decide_eq_false (fun h => ctag (by rw [h]))]
  (repeat with_reducible first | refine Stp.go ?_ | refine StpE.go E ?_)
  refine Bi.eql (fun cfid => ?_) (fun cfid => ?_)
  rotate_left
  · (repeat with_reducible first | refine Stp.go ?_ | (apply hJ9; intro u_))
    refine ⟨?_, E.tl.tl⟩
    rw [decide_eq_false (fun h => cfid (by rw [h]))]
  (repeat with_reducible first | refine Stp.go ?_ | refine StpE.go E ?_)
  refine Bi.eql (fun cother => ?_) (fun cother => ?_)
  rotate_left
  · (repeat with_reducible first | refine Stp.go ?_ | (apply hJ9; intro u_))
    refine ⟨?_, E.tl.tl⟩
    rw [decide_eq_false (fun h => cother (by rw [h]))]
  (repeat with_reducible first | refine Stp.go ?_ | refine StpE.go E ?_)
  refine Bi.eql (fun cold => ?_) (fun cold => ?_)
  rotate_left
  · (repeat with_reducible first | refine Stp.go ?_ | (apply hJ9; intro u_))
    refine ⟨?_, E.tl.tl⟩
    rw [decide_eq_false (fun h => cold (by rw [h]))]
  (repeat with_reducible first | refine Stp.go ?_ | refine StpE.go E ?_)
  refine Bi.eql (fun csize => ?_) (fun csize => ?_)
  rotate_left
  · (repeat with_reducible first | refine Stp.go ?_ | (apply hJ9; intro u_))
    refine ⟨?_, E.tl.tl⟩
    rw [decide_eq_false (fun h => csize (by rw [h]))]
  (repeat with_reducible first | refine Stp.go ?_ | refine StpE.go E ?_)
  refine Bi.eql (fun coff => ?_) (fun coff => ?_)
  rotate_left
  · (repeat with_reducible first | refine Stp.go ?_ | (apply hJ9; intro u_))
    refine ⟨?_, E.tl.tl⟩
    rw [decide_eq_false (fun h => coff (by rw [h]))]
  (repeat with_reducible first | refine Stp.go ?_ | refine StpE.go E ?_)
  refine Bi.eql (fun cmode => ?_) (fun cmode => ?_)
  rotate_left
  · (repeat with_reducible first | refine Stp.go ?_ | (apply hJ9; intro u_))
    refine ⟨?_, E.tl.tl⟩
    rw [decide_eq_false (fun h => cmode (by rw [h]))]
  (repeat with_reducible first | refine Stp.go ?_ | refine StpE.go E ?_)
  refine Bi.eql (fun cperm => ?_) (fun cperm => ?_)
  rotate_left
  · (repeat with_reducible first | refine Stp.go ?_ | (apply hJ9; intro u_))
    refine ⟨?_, E.tl.tl⟩
    rw [decide_eq_false (fun h => cperm (by rw [h]))]
  (repeat with_reducible first | refine Stp.go ?_ | refine StpE.go E ?_)
  refine Bi.seql (fun cver => ?_) (fun cver => ?_)
  rotate_left
  · (repeat with_reducible first | refine Stp.go ?_ | (apply hJ9; intro u_))
    refine ⟨?_, E.tl.tl⟩
    rw [decide_eq_false (fun h => cver (by rw [h]))]
  (repeat with_reducible first | refine Stp.go ?_ | refine StpE.go E ?_)
  refine Bi.seql (fun cuser => ?_) (fun cuser => ?_)
  rotate_left
  · (repeat with_reducible first | refine Stp.go ?_ | (apply hJ9; intro u_))
    refine ⟨?_, E.tl.tl⟩
    rw [decide_eq_false (fun h => cuser (by rw [h]))]
  (repeat with_reducible first | refine Stp.go ?_ | refine StpE.go E ?_)
  refine Bi.seql (fun ctree => ?_) (fun ctree => ?_)
  rotate_left
  · (repeat with_reducible first | refine Stp.go ?_ | (apply hJ9; intro u_))
    refine ⟨?_, E.tl.tl⟩
    rw [decide_eq_false (fun h => ctree (by rw [h]))]
  (repeat with_reducible first | refine Stp.go ?_ | refine StpE.go E ?_)
  refine Bi.seql (fun cname => ?_) (fun cname => ?_)
  rotate_left
  · (repeat with_reducible first | refine Stp.go ?_ | (apply hJ9; intro u_))
    refine ⟨?_, E.tl.tl⟩
    rw [decide_eq_false (fun h => cname (by rw [h]))]
  (repeat with_reducible first | refine Stp.go ?_ | refine StpE.go E ?_)
  refine Bi.seql (fun cdata => ?_) (fun cdata => ?_)
  rotate_left
  · (repeat with_reducible first | refine Stp.go ?_ | (apply hJ9; intro u_))
    refine ⟨?_, E.tl.tl⟩
    rw [decide_eq_false (fun h => cdata (by rw [h]))]
  (repeat with_reducible first | refine Stp.go ?_ | refine StpE.go E ?_)
  refine EqS.e (xs := dcs a.dir) (ys := dcs b.dir) lv_Dir st_Dir g_Dir rfl rfl ?_
  rw [ceq_dir]
  by_cases cdir : a.dir = b.dir
  rotate_left
  · rw [decide_eq_false cdir]
    (repeat with_reducible first | refine Stp.go ?_ | (apply hJ9; intro u_))
    refine ⟨?_, E.tl.tl⟩
    rw [decide_eq_false (fun h => cdir (by rw [h]))]
  rw [decide_eq_true cdir]
  (repeat with_reducible first | refine Stp.go ?_ | refine StpE.go E ?_)
  refine Bi.eql (fun ccode => ?_) (fun ccode => ?_)
  rotate_left
  · (repeat with_reducible first | refine Stp.go ?_ | (apply hJ9; intro u_))
    refine ⟨?_, E.tl.tl⟩
    rw [decide_eq_false (fun h => ccode (by rw [h]))]
  (repeat with_reducible first | refine Stp.go ?_ | (apply hJ9; intro u_))
  refine ⟨?_, E.tl.tl⟩
  rw [decide_eq_true]
  exact Ms.ext' ckind ctag cfid cother cold csize coff cmode cperm (mkB_inj cver) (mkB_inj cuser) (mkB_inj ctree) (mkB_inj cname) c0 c1 (mkB_inj cdata) cdir ccode
end Go.Proofs.YtmlccboapkkcfaaDoor

/-
  The protocol: the examples of the chapter (chapter 31's awake).
-/
namespace Go.Proofs.YtmlccboapkkcfaaDoor
open Go Go.Sh
set_option maxRecDepth 100000
set_option linter.unusedVariables false
set_option linter.unusedSimpArgs false
variable {w0 w : World} {F : Nat → Prop} {l : List As}
abbrev aM1 : Ms := { m0 with kind := 120, tag := 1, fid := 2 }
abbrev aM2 : Ms := { m0 with kind := 107, tag := 65535, code := 4 }
abbrev aM3 : Ms := { m0 with kind := 110, tag := 258, fid := 1, other := 2, names := [[97]] }
abbrev aS3 : List UInt8 := [20, 0, 0, 0, 110, 2, 1, 1, 0, 0, 0, 2, 0, 0, 0, 1, 0, 1, 0, 97]
theorem aw1 : enc aM1 = ([11, 0, 0, 0, 120, 1, 0, 2, 0, 0, 0], 0) := by kernel_rfl
theorem aw2 : enc aM2 = ([9, 0, 0, 0, 107, 255, 255, 4, 0], 0) := by kernel_rfl
theorem aw3 : dec aS3 = (aM3, 0) := by kernel_rfl
theorem nm_string : el3 PP Ty.string = some (some (.string ⟨#[]⟩), 1, 16) := by kernel_rfl
theorem u_names : PP.underlying Ty.sl_string = some (.slice Ty.string) := by kernel_rfl
theorem ok_lit {m : Ms} (h1 : m.qids = []) (h2 : m.dir = d0) (h3 : -9223372036854775808 ≤ m.off ∧ m.off ≤ 9223372036854775807 := by decide) : m.Ok := by
  refine ⟨h3, ?_, ?_⟩
  · rw [h1]; intro q h; cases h
  · rw [h2]; unfold Di.Ok Qi.Ok; decide
theorem mi1 : MI w0 F l aM1 nilV nilV := { ok := ok_lit (by decide) (by decide), rg := by unfold rngI; decide, kd := by decide, n1 := by decide, q1 := by decide, zn := by decide, zs := by decide, zd := by decide, rn := rds_nil, rq := rds_nil }
theorem mi2 : MI w0 F l aM2 nilV nilV := { ok := ok_lit (by decide) (by decide), rg := by unfold rngI; decide, kd := by decide, n1 := by decide, q1 := by decide, zn := by decide, zs := by decide, zd := by decide, rn := rds_nil, rq := rds_nil }
theorem awake_ok (hW : Wds w0 F) (E : Hs w0 F w l) : Ca PP Fn.law31_awake #[] w fun r w' => r = .bool true ∧ Hs w0 F w' l := by
  refine S.law31_awake.calls ?_
  unfold S.law31_awake
  (repeat with_reducible refine StpE.go E ?_)
  refine (Encode_ok hW (m := aM1) mi1 E).mono ?_
  clear E
  rintro r w_ ⟨rfl, E⟩
  rw [aw1]
  (repeat with_reducible first | refine Stp.go ?_ | refine StpE.go E ?_)
  refine (Encode_ok hW (m := aM2) mi2 E).mono ?_
  clear E
  rintro r w_ ⟨rfl, E⟩
  rw [aw2]
  (repeat with_reducible refine Stp.go ?_)
  refine (Decode_ok hW (s := aS3) (by decide) E).mono ?_
  clear E
  rintro r w_ ⟨nv, qv, X, rfl, h1, h2, E⟩
  rw [aw3] at h1 h2 ⊢
  dsimp only at h1 h2 ⊢
  have i1 : scalV nv = true := by obtain ⟨a, c, rfl, _⟩ := h1; rfl
  have i2 : scalV qv = true := by obtain ⟨a, c, rfl, _⟩ := h2; rfl
  (repeat with_reducible first | refine Stp.go ?_ | (refine StpA.go E ?_; clear E; intro b_ w_ hb_ E))
  refine StA.all (vs := MC aM3 nv qv) E rfl rfl ?_ ?_
  · simp only [List.all_cons, List.all_nil, i1, i2, Bool.and_true]
    rfl
  clear E
  intro w_ E
  skip
  (intro J18 hJ18)
  have fin : ∀ b w_, b = true → Hs w0 F w_ l → J18 [.bool b] w_ := by
    rintro b w_ rfl h
    (repeat with_reducible (apply hJ18; intro u_))
    exact ⟨rfl, h⟩
  clear hJ18
  (repeat first | (with_reducible first | refine Stp.go ?_ | refine StpE.go E ?_) | ((with_reducible refine Bi.dec true ?_ ?_); focus exact rfl) | ((with_reducible refine Bi.sdec true ?_ ?_); focus decide))
  refine BdS.one E u_names nm_string rfl ?_
  clear E
  intro v w_ E
  (repeat with_reducible first | refine Stp.go ?_ | refine StpE.go E ?_)
  have hv := RdS.sl (T := Ty.string) (v := v) (sz := 1) (xs := [sb [97]]) List.mem_cons_self (by omega) E
  refine (Same_ok (a := aM3) (b := aM3) (n1 := nv) (q1 := qv) (n2 := v) (q2 := nilV) (by decide) (by decide) E (h1.weaken fun _ E => E.tl.tl.drop (List.sublist_append_left _ _)) (h2.weaken fun _ E => E.tl.tl.drop (List.sublist_append_left _ _)) hv rds_nil).mono ?_
  clear E
  rintro r w_ ⟨rfl, E⟩
  (repeat with_reducible refine Stp.go ?_)
  refine fin _ _ (decide_eq_true rfl) (E.tl.tl.drop (List.sublist_append_right _ _))
end Go.Proofs.YtmlccboapkkcfaaDoor

/-
  The protocol: Frames.
-/
namespace Go.Proofs.YtmlccboapkkcfaaDoor
open Go Go.Sh
set_option maxRecDepth 100000
set_option linter.unusedVariables false
set_option linter.unusedSimpArgs false
variable {w0 w : World} {F : Nat → Prop} {l : List As}
/-- What frames of a rest are behind these. -/
def frW (done : List (List UInt8)) (x : List (List UInt8) × List UInt8 × Int) : List (List UInt8) × List UInt8 × Int := if x.2.2 = 0 then (done ++ x.1, x.2.1, 0) else ([], [], x.2.2)
theorem fr_err {s : List UInt8} (h : (fr s).2.2 ≠ 0) : fr s = ([], [], (fr s).2.2) := by
  have hq := fr_eq s
  rw [hq] at h ⊢
  split at h
  · exact absurd rfl h
  rename_i h1
  rw [if_neg h1]
  split at h
  · rename_i h2; rw [if_pos h2]
  rename_i h2
  rw [if_neg h2]
  split at h
  · rename_i h3; rw [if_pos h3]
  rename_i h3
  rw [if_neg h3]
  split at h
  · exact absurd rfl h
  rename_i h4
  rw [if_neg h4]
  simp only [] at h ⊢
  split at h
  · exact absurd rfl h
  · rename_i h5; rw [if_neg h5]
theorem mkB_take (s : List UInt8) (n : Nat) : (mkB s).extract 0 n = mkB (s.take n) := by
  rw [mkB_ext, List.drop_zero]
theorem mkB_drop (s : List UInt8) (n : Nat) : (mkB s).extract n (mkB s).size = mkB (s.drop n) := by
  rw [mkB_ext, mkB_size, List.take_length]
theorem Frames_ok {s : List UInt8} (hs : s.length ≤ 1000000000000) (E : Hs w0 F w l) :
    Ca PP Fn.styx_Frames #[sb s] w fun q w' => ∃ v X, q = .tuple #[v, sb (fr s).2.1, i64 (fr s).2.2] ∧ RdS w0 F X 1 (fr s).1.length v ((fr s).1.map sb) ∧ Hs w0 F w' (X ++ l) := by
  refine S.styx_Frames.calls ?_
  unfold S.styx_Frames
  refine ⟨fun l1 w1 => ∃ (t : List UInt8) (v : Value) (done : List (List UInt8)), l1 = [sb t, v] ∧ fr s = frW done (fr t) ∧ done.length + t.length ≤ s.length ∧ Hs w0 F w1 (slA v Ty.string 1 (done.map sb) :: l),
    fun l1 _ => match l1 with | [.string t, _] => t.size | _ => 0, ⟨s, nilV, [], rfl, ?_, by simp, E.nilSl Ty.string 1⟩, ?_⟩
  · unfold frW
    split
    · rename_i h; rw [← h]; rfl
    · rename_i h
      have := fr_err h
      rw [← this]
  clear E
  rintro t0 t5 u1 w1 ⟨t, v, done, e, hf, hl, E⟩
  cases e
  have out : ∀ w_, fr t = ([], t, 0) → Hs w0 F w_ (slA t5 Ty.string 1 (done.map sb) :: l) → ∃ v' X, (Value.tuple #[t5, sb t, i64 0]) = .tuple #[v', sb (fr s).2.1, i64 (fr s).2.2] ∧ RdS w0 F X 1 (fr s).1.length v' ((fr s).1.map sb) ∧ Hs w0 F w_ (X ++ l) := by
    intro w_ h E
    rw [hf, h]
    unfold frW
    simp only [if_true, List.append_nil]
    refine ⟨t5, [slA t5 Ty.string 1 (done.map sb)], rfl, ?_, E⟩
    have := RdS.sl (T := Ty.string) (v := t5) (sz := 1) (xs := done.map sb) (l := [slA t5 Ty.string 1 (done.map sb)]) List.mem_cons_self (by omega) (E.drop (.cons_cons _ (List.nil_sublist _)))
    rw [List.length_map, Nat.div_one] at this
    exact this
  have bad : ∀ w_ e, e ≠ 0 → fr t = ([], [], e) → Hs w0 F w_ (slA t5 Ty.string 1 (done.map sb) :: l) → ∃ v' X, (Value.tuple #[nilV, sb [], i64 e]) = .tuple #[v', sb (fr s).2.1, i64 (fr s).2.2] ∧ RdS w0 F X 1 (fr s).1.length v' ((fr s).1.map sb) ∧ Hs w0 F w_ (X ++ l) := by
    intro w_ e he h E
    rw [hf, h]
    unfold frW
    simp only [he, if_false]
    exact ⟨nilV, [], rfl, rds_nil, E.tl⟩
  have hq := fr_eq t
  have ht : t.length ≤ 1000000000000 := by omega
  (repeat with_reducible refine Stp.go ?_)
  refine Bi.geq ?_ ?_ <;> intro c1 <;> (repeat with_reducible refine Stp.go ?_)
  · rw [mkB_size] at c1
    have h4 : ¬ t.length < 4 := by omega
    rw [if_neg h4] at hq
    refine (length_ok ht E).mono ?_
    clear E
    rintro q w_ ⟨rfl, E⟩
    rw [if_pos (by omega : 4 ≤ t.length)]
    generalize hn : un (t.take 4) = n at hq ⊢
    refine Bi.gtr ?_ ?_ <;> intro c2 <;> (repeat with_reducible refine Stp.go ?_)
    · rw [if_pos (by omega)] at hq
      exact bad _ 3 (by decide) hq E
    rw [if_neg (by omega)] at hq
    refine Bi.lss ?_ ?_ <;> intro c3 <;> (repeat with_reducible refine Stp.go ?_)
    · rw [if_pos (by omega)] at hq
      exact bad _ 14 (by decide) hq E
    rw [if_neg (by omega)] at hq
    refine Bi.gtr ?_ ?_ <;> intro c4 <;> (repeat with_reducible first | refine Stp.go ?_ | (refine StpW.go E ?_; clear E; intro w_ E))
    · rw [mkB_size] at c4
      rw [if_pos (by omega)] at hq
      exact out _ hq E
    rw [mkB_size] at c4
    rw [if_neg (by omega)] at hq
    refine SlS.pre (by omega) (by rw [mkB_size]; omega) ?_
    refine SlS.suf (by omega) (by rw [mkB_size]; omega) ?_
    rw [Int.toNat_natCast, mkB_take, mkB_drop]
    refine BdS.one E u_names nm_string rfl ?_
    clear E
    intro v2 w_ E
    refine Ap.one E (i := 1) rfl u_names ⟨_, u_names, fun _ h => by cases h⟩ nm_string (Src.one E (by (first | assumption | exact FPt.mem | exact FMp.mem | exact FSl.mem | (repeat (first | assumption | with_reducible exact List.mem_cons_self | refine List.mem_cons_of_mem _ ?_)))) rfl) rfl (by rw [List.length_map]; simp only [List.length_cons, List.length_nil]; omega) (by rw [List.length_map]; simp only [List.length_cons, List.length_nil]; omega) ?_
    clear E
    intro v3 w_ E
    (try simp only [List.set_cons_zero, List.set_cons_succ, List.cons_append, List.nil_append, Nat.zero_add, Nat.add_zero] at E)
    refine ⟨⟨t.drop n, v3, done ++ [t.take n], rfl, ?_, ?_, ?_⟩, ?_⟩
    · rw [hf, hq]
      unfold frW
      simp only []
      split
      · rename_i h
        rw [if_pos rfl, List.append_assoc]; rfl
      · rfl
    · rw [List.length_append, List.length_drop]; simp only [List.length_cons, List.length_nil]; omega
    · rw [List.map_append]
      exact E.tl
    · simp only [mkB_size, List.length_drop]; omega
  · rw [mkB_size] at c1
    rw [if_pos (by omega)] at hq
    exact out _ hq E
end Go.Proofs.YtmlccboapkkcfaaDoor

/-
  The protocol's reference: the number that bytes are; Frames.
-/
namespace Go.Proofs.YtmlccboapkkcfaaDoor
open Go Go.Sh
set_option maxRecDepth 100000
set_option linter.unusedVariables false
set_option linter.unusedSimpArgs false
variable {w0 w : World} {F : Nat → Prop} {l : List As}
theorem BdS.nul {P : Program} {t e : TypeId} {sz : Nat} {k : Value → World → Prop} (E : Hs w0 F w l) (h1 : P.underlying t = some (.slice e)) (h2 : sizeK P e = some sz)
    (hk : ∀ v w', Hs w0 F w' (slA v e sz [] :: l) → k v w') : Ef P (Instr.buildSlice t 0 #[]) w k := by
  refine ⟨.slice (some ⟨w.heap.size, 0, none⟩) 0 0, w.alloc (.cells #[] e), ?_, hk _ _ (E.add (Upd.alloc w _) ⟨.inr ⟨w.heap.size, 0, 0, 0, [], [], (0, 0), rfl, ?_, rfl, by simp, by simp, Nat.le_refl _, Free.zero _⟩⟩ fun b hb => ?_)⟩
  · have hr : Array.range 0 = #[] := rfl
    simp [Instr.buildSlice, run_underlying h1, run_sizeK h2, Instr.fill, newRow, run_newObj', hr]
  · rw [heap_alloc_new]; simp [ocf]
  · have hb : some w.heap.size = some b := hb
    cases hb; exact Nat.le_refl _
theorem shl8 {v : Nat} {k : Value → Prop} (hv : v * 256 < 18446744073709551616) (hk : k (.int .u64 ((v * 256 : Nat) : Int))) : Bi .shl (.int .u64 (v : Int)) (.int .u64 8) k := by
  refine Bi.mk (v := .int .u64 ((v * 256 : Nat) : Int)) ?_ hk
  have h1 : min (8 : Int).toNat (IntKind.bits .u64) = 8 := by decide
  simp only [binV]
  rw [if_neg (by omega), h1]
  have h2 : (v : Int) * (2 : Int) ^ 8 = ((v * 256 : Nat) : Int) := by
    rw [show (2 : Int) ^ 8 = 256 by decide]
    omega
  rw [h2]
  have : IntKind.u64.wrap ((v * 256 : Nat) : Int) = ((v * 256 : Nat) : Int) := by
    show (((v * 256 : Nat) : Int) % 18446744073709551616) = _
    omega
  rw [this]
theorem or8 {v b : Nat} {k : Value → Prop} (hv : v * 256 + b < 18446744073709551616) (hb : b < 256) (hk : k (.int .u64 ((b + 256 * v : Nat) : Int))) : Bi .or (.int .u64 ((v * 256 : Nat) : Int)) (.int .u64 (b : Int)) k := by
  refine Bi.mk (v := .int .u64 ((b + 256 * v : Nat) : Int)) ?_ hk
  show some (Value.int .u64 (IntKind.u64.wrap (BitVec.ofInt 64 ((v * 256 : Nat) : Int) ||| BitVec.ofInt 64 (b : Int)).toNat)) = _
  have e1 : (BitVec.ofInt 64 ((v * 256 : Nat) : Int) ||| BitVec.ofInt 64 (b : Int)).toNat = b + 256 * v := by
    rw [BitVec.toNat_or, BitVec.ofInt_natCast, BitVec.ofInt_natCast, BitVec.toNat_ofNat, BitVec.toNat_ofNat, Nat.mod_eq_of_lt (by omega), Nat.mod_eq_of_lt (by omega)]
    have := Nat.two_pow_add_eq_or_of_lt (i := 8) (b := b) (by omega) v
    rw [show (2 : Nat) ^ 8 = 256 by decide, Nat.mul_comm 256 v] at this
    rw [← this]
    omega
  rw [e1]
  have : IntKind.u64.wrap ((b + 256 * v : Nat) : Int) = ((b + 256 * v : Nat) : Int) := by
    show (((b + 256 * v : Nat) : Int) % 18446744073709551616) = _
    omega
  rw [this]
theorem rvalue_ok {s : List UInt8} (hs : s.length ≤ 8) (E : Hs w0 F w l) : Ca PP Fn.r31_value #[sb s] w fun q w' => q = .int .u64 ((un s : Nat) : Int) ∧ Hs w0 F w' l := by
  refine S.r31_value.calls ?_
  unfold S.r31_value
  (repeat with_reducible refine Stp.go ?_)
  refine Bi.sub (by rw [mkB_size]; omega) ?_
  refine ⟨fun l1 w1 => ∃ k : Nat, k ≤ s.length ∧ l1 = [.int .u64 ((un (s.drop k) : Nat) : Int), i64 ((k : Int) - 1)] ∧ Hs w0 F w1 l, fun l1 _ => match l1 with | [_, .int _ i] => (i + 1).toNat | _ => 0, ⟨s.length, Nat.le_refl _, ?_, E⟩, ?_⟩
  · rw [List.drop_length, mkB_size]; rfl
  clear E
  rintro t3 t4 u1 w1 ⟨k, hk, e, E⟩
  cases e
  refine Bi.geq ?_ ?_ <;> intro c1 <;> (repeat with_reducible refine Stp.go ?_)
  · obtain ⟨k, rfl⟩ : ∃ j, k = j + 1 := ⟨k - 1, by omega⟩
    have hx : s[k]? = some s[k] := List.getElem?_eq_getElem (by omega)
    have hd : s.drop k = s[k] :: s.drop (k + 1) := List.drop_eq_getElem_cons (by omega)
    have hu : un (s.drop k) = s[k].toNat + 256 * un (s.drop (k + 1)) := by rw [hd]; rfl
    have h1 := un_lt (s.drop k)
    have h3 : (256 : Nat) ^ (s.drop k).length ≤ 256 ^ 8 := Nat.pow_le_pow_right (by omega) (by rw [List.length_drop]; omega)
    have h4 : (256 : Nat) ^ 8 = 18446744073709551616 := by decide
    have hb := s[k].toNat_lt
    refine shl8 (v := un (s.drop (k + 1))) (by omega) ?_
    refine IxS.mk (b := s[k]) (by omega) (by rw [show ((((k + 1 : Nat) : Int) - 1).toNat) = k by omega]; show s.toArray[k]? = _; rw [List.getElem?_toArray]; exact hx) ?_
    refine Cv.mk ?_
    have hw : IntKind.u64.wrap (s[k].toNat : Int) = (s[k].toNat : Int) := by
      show ((s[k].toNat : Int) % 18446744073709551616) = _
      omega
    rw [hw]
    refine or8 (by omega) hb ?_
    refine Bi.sub (by omega) ?_
    refine ⟨⟨k, by omega, ?_, E⟩, by simp only []; omega⟩
    rw [hu, show (((k + 1 : Nat) : Int) - 1 - 1) = (k : Int) - 1 by omega]
  · have : k = 0 := by omega
    subst this
    exact ⟨rfl, E⟩
theorem rFrames_ok {s : List UInt8} (hs : s.length ≤ 1000000000000) (E : Hs w0 F w l) :
    Ca PP Fn.r31_Frames #[sb s] w fun q w' => ∃ v X, q = .tuple #[v, sb (fr s).2.1, i64 (fr s).2.2] ∧ RdS w0 F X 1 (fr s).1.length v ((fr s).1.map sb) ∧ Hs w0 F w' (X ++ l) := by
  refine S.r31_Frames.calls ?_
  unfold S.r31_Frames
  refine BdS.nul (sz := 1) E u_names (by kernel_rfl) ?_
  clear E
  intro v0 w_ E
  refine ⟨fun l1 w1 => ∃ (t : List UInt8) (v : Value) (done : List (List UInt8)), l1 = [sb t, v] ∧ fr s = frW done (fr t) ∧ done.length + t.length ≤ s.length ∧ Hs w0 F w1 (slA v Ty.string 1 (done.map sb) :: l),
    fun l1 _ => match l1 with | [.string t, _] => t.size | _ => 0, ⟨s, v0, [], rfl, ?_, by simp, E⟩, ?_⟩
  · unfold frW
    split
    · rename_i h; rw [← h]; rfl
    · rename_i h
      have := fr_err h
      rw [← this]
  clear E
  rintro t0 t5 u1 w1 ⟨t, v, done, e, hf, hl, E⟩
  cases e
  have out : ∀ w_, fr t = ([], t, 0) → Hs w0 F w_ (slA t5 Ty.string 1 (done.map sb) :: l) → ∃ v' X, (Value.tuple #[t5, sb t, i64 0]) = .tuple #[v', sb (fr s).2.1, i64 (fr s).2.2] ∧ RdS w0 F X 1 (fr s).1.length v' ((fr s).1.map sb) ∧ Hs w0 F w_ (X ++ l) := by
    intro w_ h E
    rw [hf, h]
    unfold frW
    simp only [if_true, List.append_nil]
    refine ⟨t5, [slA t5 Ty.string 1 (done.map sb)], rfl, ?_, E⟩
    have := RdS.sl (T := Ty.string) (v := t5) (sz := 1) (xs := done.map sb) (l := [slA t5 Ty.string 1 (done.map sb)]) List.mem_cons_self (by omega) (E.drop (.cons_cons _ (List.nil_sublist _)))
    rw [List.length_map, Nat.div_one] at this
    exact this
  have bad : ∀ w_ e, e ≠ 0 → fr t = ([], [], e) → Hs w0 F w_ (slA t5 Ty.string 1 (done.map sb) :: l) → ∃ v' X, (Value.tuple #[nilV, sb [], i64 e]) = .tuple #[v', sb (fr s).2.1, i64 (fr s).2.2] ∧ RdS w0 F X 1 (fr s).1.length v' ((fr s).1.map sb) ∧ Hs w0 F w_ (X ++ l) := by
    intro w_ e he h E
    rw [hf, h]
    unfold frW
    simp only [he, if_false]
    exact ⟨nilV, [], rfl, rds_nil, E.tl⟩
  have hq := fr_eq t
  have ht : t.length ≤ 1000000000000 := by omega
  (repeat with_reducible refine Stp.go ?_)
  refine Bi.geq ?_ ?_ <;> intro c1 <;> (repeat with_reducible refine Stp.go ?_)
  · rw [mkB_size] at c1
    have h4 : ¬ t.length < 4 := by omega
    rw [if_neg h4] at hq
    refine SlS.pre (by omega) (by rw [mkB_size]; omega) ?_
    rw [mkB_take]
    refine (rvalue_ok (by rw [List.length_take]; omega) E).mono ?_
    clear E
    rintro q w_ ⟨rfl, E⟩
    have hlt := un_lt (t.take 4)
    rw [List.length_take, Nat.min_eq_left (by omega)] at hlt
    have hlt : un (t.take 4) < 4294967296 := hlt
    rw [show ((4 : Int)).toNat = 4 from rfl]
    generalize hn : un (t.take 4) = n at hq hlt ⊢
    refine Cv.i64 (by omega) ?_
    refine Bi.gtr ?_ ?_ <;> intro c2 <;> (repeat with_reducible refine Stp.go ?_)
    · rw [if_pos (by omega)] at hq
      exact bad _ 3 (by decide) hq E
    rw [if_neg (by omega)] at hq
    refine Bi.lss ?_ ?_ <;> intro c3 <;> (repeat with_reducible refine Stp.go ?_)
    · rw [if_pos (by omega)] at hq
      exact bad _ 14 (by decide) hq E
    rw [if_neg (by omega)] at hq
    refine Bi.gtr ?_ ?_ <;> intro c4 <;> (repeat with_reducible refine Stp.go ?_)
    · rw [mkB_size] at c4
      rw [if_pos (by omega)] at hq
      exact out _ hq E
    rw [mkB_size] at c4
    rw [if_neg (by omega)] at hq
    refine SlS.pre (by omega) (by rw [mkB_size]; omega) ?_
    rw [Int.toNat_natCast, mkB_take]
    refine BdS.one E u_names nm_string rfl ?_
    clear E
    intro v2 w_ E
    refine Ap.one E (i := 1) rfl u_names ⟨_, u_names, fun _ h => by cases h⟩ nm_string (Src.one E (by (first | assumption | exact FPt.mem | exact FMp.mem | exact FSl.mem | (repeat (first | assumption | with_reducible exact List.mem_cons_self | refine List.mem_cons_of_mem _ ?_)))) rfl) rfl (by rw [List.length_map]; simp only [List.length_cons, List.length_nil]; omega) (by rw [List.length_map]; simp only [List.length_cons, List.length_nil]; omega) ?_
    clear E
    intro v3 w_ E
    (try simp only [List.set_cons_zero, List.set_cons_succ, List.cons_append, List.nil_append, Nat.zero_add, Nat.add_zero] at E)
    refine SlS.suf (by omega) (by rw [mkB_size]; omega) ?_
    rw [Int.toNat_natCast, mkB_drop]
    refine ⟨⟨t.drop n, v3, done ++ [t.take n], rfl, ?_, ?_, ?_⟩, ?_⟩
    · rw [hf, hq]
      unfold frW
      simp only []
      split
      · rename_i h
        rw [if_pos rfl, List.append_assoc]; rfl
      · rfl
    · rw [List.length_append, List.length_drop]; simp only [List.length_cons, List.length_nil]; omega
    · rw [List.map_append]
      exact E.tl
    · simp only [mkB_size, List.length_drop]; omega
  · rw [mkB_size] at c1
    rw [if_pos (by omega)] at hq
    exact out _ hq E
end Go.Proofs.YtmlccboapkkcfaaDoor

/-
  The protocol: Frames returns what the reference returns; its messages and the rest are the bytes, one behind the other (the law StyxFrames).
-/
namespace Go.Proofs.YtmlccboapkkcfaaDoor
open Go Go.Sh
set_option maxRecDepth 100000
set_option linter.unusedVariables false
set_option linter.unusedSimpArgs false
variable {w0 w : World} {F : Nat → Prop} {l : List As}
theorem fr_size {s : List UInt8} : (fr s).1.flatten.length ≤ s.length ∧ (fr s).2.1.length ≤ s.length ∧ ((fr s).2.2 = 0 → (fr s).1.flatten ++ (fr s).2.1 = s) := by
  by_cases h : (fr s).2.2 = 0
  · have := fr_all s.length s rfl h
    have h2 := congrArg List.length this
    rw [List.length_append] at h2
    exact ⟨by omega, by omega, fun _ => this⟩
  · have e := fr_err h
    refine ⟨?_, ?_, fun h2 => absurd h2 h⟩
    · rw [e]; simp
    · rw [e]; simp
theorem fr_count : ∀ (n : Nat) (s : List UInt8), s.length ≤ n → (fr s).1.length ≤ s.length
  | 0, s, h => by
    have : s = [] := List.length_eq_zero_iff.1 (by omega)
    subst this
    exact Nat.le_refl _
  | n + 1, s, h => by
    rw [fr_eq s]
    split
    · exact Nat.zero_le _
    split
    · exact Nat.zero_le _
    split
    · exact Nat.zero_le _
    split
    · exact Nat.zero_le _
    rename_i h1 h2 h3 h4
    have ih := fr_count n (s.drop (un (s.take 4))) (by rw [List.length_drop]; omega)
    rw [List.length_drop] at ih
    simp only []
    split
    · simp only [List.length_cons]; omega
    · exact Nat.zero_le _
theorem Frames_law (hW : Wds w0 F) {s : List UInt8} (hs : s.length ≤ 9223372036854775807) (E : Hs w0 F w l) :
    Ca PP Fn.law31_StyxFrames #[sb s] w fun r w' => r = .bool true ∧ ∃ X, Hs w0 F w' (X ++ l) := by
  refine S.law31_StyxFrames.calls ?_
  unfold S.law31_StyxFrames
  refine (awake_ok hW E).mono ?_
  clear E
  rintro r w_ ⟨rfl, E⟩
  (repeat with_reducible refine Stp.go ?_)
  refine Bi.gtr ?_ ?_ <;> intro c1 <;> (repeat with_reducible refine Stp.go ?_)
  · exact ⟨rfl, [], E⟩
  rw [mkB_size] at c1
  refine (Frames_ok (s := s) (by omega) E).mono ?_
  clear E
  rintro q w_ ⟨v1, X1, rfl, r1, E⟩
  (repeat with_reducible refine Stp.go ?_)
  refine (rFrames_ok (s := s) (by omega) E).mono ?_
  clear E
  rintro q w_ ⟨v2, X2, rfl, r2, E⟩
  obtain ⟨z1, z2, z3⟩ := fr_size (s := s)
  have z4 := fr_count s.length s (Nat.le_refl _)
  have hsl : s.length ≤ 20000 := by omega
  generalize hg : fr s = g at r1 r2 E z1 z2 z3 z4 ⊢
  obtain ⟨L, t, e⟩ := g
  dsimp only at r1 r2 z1 z2 z3 z4 ⊢
  have hL : ∀ i, (L.take i).flatten.length ≤ 20000 := by
    intro i
    have h1 : (L.take i).flatten.length + (L.drop i).flatten.length = L.flatten.length := by
      rw [← List.length_append, ← List.flatten_append, List.take_append_drop]
    omega
  have i1 : Scal v1 := ⟨by obtain ⟨a, c, rfl, _⟩ := r1; rfl⟩
  have i2 : Scal v2 := ⟨by obtain ⟨a, c, rfl, _⟩ := r2; rfl⟩
  (repeat with_reducible refine Stp.go ?_)
  (intro J16 hJ16)
  refine Bi.neq (fun h => absurd rfl h) fun _ => ?_
  (repeat with_reducible refine Stp.go ?_)
  refine Bi.snF rfl ?_
  (repeat with_reducible refine Stp.go ?_)
  have g1 : RdS w0 F (X2 ++ (X1 ++ l)) 1 L.length v1 (L.map sb) := r1.weaken fun _ E => E.drop ((List.sublist_append_left _ _).trans (List.sublist_append_right _ _))
  have g2 : RdS w0 F (X2 ++ (X1 ++ l)) 1 L.length v2 (L.map sb) := r2.weaken fun _ E => E.drop (List.sublist_append_left _ _)
  have hn : L.length ≤ 1000000000 := by omega
  refine (eqStr_ok hn E g1 g2).mono ?_
  clear E
  rintro r w_ ⟨rfl, E⟩
  rw [decide_eq_true rfl]
  (repeat with_reducible first | refine Stp.go ?_ | (apply hJ16; intro u_))
  refine g1.len ?_
  refine ⟨fun l1 w1 => ∃ i : Nat, l1 = [sb ((L.take i).flatten), i64 i] ∧ i ≤ L.length ∧ Hs w0 F w1 (X2 ++ (X1 ++ l)), fun l1 _ => match l1 with | [_, .int _ i] => L.length - i.toNat | _ => 0, ⟨0, rfl, Nat.zero_le _, E⟩, ?_⟩
  clear E
  rintro t3 t42 u1 w1 ⟨i, e1, hi, E⟩
  cases e1
  refine Bi.lss ?_ ?_ <;> intro hlt <;> (repeat with_reducible refine Stp.go ?_)
  · have k1 : i < L.length := by omega
    have hd : ((L.map sb).drop (((i : Int)).toNat * 1))[0]? = some (sb L[i]) := by
      rw [Int.toNat_natCast, Nat.mul_one, List.getElem?_drop, Nat.add_zero, List.getElem?_map, List.getElem?_eq_getElem k1]; rfl
    have hsn : (L.take (i + 1)).flatten = (L.take i).flatten ++ L[i] := by
      rw [List.take_add_one, List.getElem?_eq_getElem k1, List.flatten_append]
      simp
    have hb := hL (i + 1)
    rw [hsn, List.length_append] at hb
    refine g1.ix (by omega) (by omega) (by omega) ?_
    intro a ha
    refine ha.ld E hd ?_
    refine Bi.sadd (by rw [mkB_size, mkB_size]; omega) ?_
    rw [mkB_app]
    refine Bi.add (by omega) ?_
    refine ⟨⟨i + 1, ?_, by omega, E⟩, by simp only []; omega⟩
    rw [hsn]
    rfl
  · have hi2 : L.take i = L := List.take_of_length_le (by omega)
    rw [hi2]
    (intro J32 hJ32)
    refine Bi.neq (fun _ => ?_) (fun h => ?_)
    · (repeat with_reducible first | refine Stp.go ?_ | (apply hJ32; intro u_))
      exact ⟨rfl, X2 ++ X1, by rw [List.append_assoc]; exact E⟩
    · (repeat with_reducible refine Stp.go ?_)
      refine Bi.sadd (by rw [mkB_size, mkB_size]; omega) ?_
      rw [mkB_app, z3 h]
      (repeat with_reducible refine Stp.go ?_)
      refine Bi.seqT rfl ?_
      (repeat with_reducible first | refine Stp.go ?_ | (apply hJ32; intro u_))
      exact ⟨rfl, X2 ++ X1, by rw [List.append_assoc]; exact E⟩
end Go.Proofs.YtmlccboapkkcfaaDoor
