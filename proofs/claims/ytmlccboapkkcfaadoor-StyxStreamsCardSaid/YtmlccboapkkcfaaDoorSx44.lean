/-
  The protocol: the reader of fields visits a message.
-/
import Derived.Test.YtmlccboapkkcfaaDoorSx20
namespace Go.Proofs.YtmlccboapkkcfaaDoor
open Go Go.Sh
set_option maxRecDepth 100000
set_option linter.unusedVariables false
set_option linter.unusedSimpArgs false
variable {w0 w : World} {F : Nat → Prop} {l : List As}
variable {i mb : Nat} {I : Ip} {m : Ms} {nv qv : Value}
theorem ifl0 (m : Ms) (I : Ip) : Ip.flds [] m I = (m, I) := rfl
theorem ifl1 (m : Ms) (I : Ip) (a : Fl) : Ip.flds [a] m I = Ip.fld m I a := rfl
theorem ifl2 (m : Ms) (I : Ip) (a b : Fl) : Ip.flds [a, b] m I = Ip.fld (Ip.fld m I a).1 (Ip.fld m I a).2 b := rfl
theorem ifl3 (m : Ms) (I : Ip) (a b c : Fl) : Ip.flds [a, b, c] m I = Ip.fld (Ip.fld (Ip.fld m I a).1 (Ip.fld m I a).2 b).1 (Ip.fld (Ip.fld m I a).1 (Ip.fld m I a).2 b).2 c := rfl
theorem ifl4 (m : Ms) (I : Ip) (a b c d : Fl) : Ip.flds [a, b, c, d] m I = Ip.fld (Ip.fld (Ip.fld (Ip.fld m I a).1 (Ip.fld m I a).2 b).1 (Ip.fld (Ip.fld m I a).1 (Ip.fld m I a).2 b).2 c).1 (Ip.fld (Ip.fld (Ip.fld m I a).1 (Ip.fld m I a).2 b).1 (Ip.fld (Ip.fld m I a).1 (Ip.fld m I a).2 b).2 c).2 d := rfl
/-- What a visit leaves. -/
def IPo (w0 : World) (F : Nat → Prop) (i mb : Nat) (l : List As) (x : Ms × Ip) (w : World) : Prop :=
  ∃ nv qv X, RdS w0 F X 1 x.1.names.length nv (x.1.names.map sb) ∧ RdS w0 F X 3 x.1.qids.length qv (qqs x.1.qids) ∧ IT w0 F i x.2 (mA mb x.1 nv qv :: (X ++ l)) w
theorem rds_nil {sz : Nat} : RdS w0 F l sz 0 nilV [] := ⟨none, 0, rfl, Nat.le_refl _, by simp, .inl rfl⟩
theorem ipo_nil {x : Ms × Ip} (h1 : x.1.names = []) (h2 : x.1.qids = []) (E : IT w0 F i x.2 (mA mb x.1 nilV nilV :: l) w) : IPo w0 F i mb l x w := by
  refine ⟨nilV, nilV, [], ?_, ?_, E⟩
  · rw [h1]; exact rds_nil
  · rw [h2]; exact rds_nil
theorem ipo_n {x : Ms × Ip} {v : Value} (h2 : x.1.qids = []) (E : IT w0 F i x.2 (mA mb x.1 v nilV :: slA v Ty.string 1 (x.1.names.map sb) :: l) w) : IPo w0 F i mb l x w := by
  refine ⟨v, nilV, [slA v Ty.string 1 (x.1.names.map sb)], ?_, ?_, E⟩
  · have := RdS.sl (T := Ty.string) (v := v) (sz := 1) (xs := x.1.names.map sb) (l := [slA v Ty.string 1 (x.1.names.map sb)]) List.mem_cons_self (by omega) (E.rest.tl.drop (.cons_cons _ (List.nil_sublist _)))
    rwa [List.length_map, Nat.div_one] at this
  · rw [h2]; exact rds_nil
theorem ipo_Q {x : Ms × Ip} {v : Value} (h1 : x.1.names = []) (E : IT w0 F i x.2 (mA mb x.1 nilV v :: slA v Ty.api_Qid 3 (qqs x.1.qids) :: l) w) : IPo w0 F i mb l x w := by
  refine ⟨nilV, v, [slA v Ty.api_Qid 3 (qqs x.1.qids)], ?_, ?_, E⟩
  · rw [h1]; exact rds_nil
  · have := RdS.sl (T := Ty.api_Qid) (v := v) (sz := 3) (xs := qqs x.1.qids) (l := [slA v Ty.api_Qid 3 (qqs x.1.qids)]) List.mem_cons_self (by omega) (E.rest.tl.drop (.cons_cons _ (List.nil_sublist _)))
    rwa [qqs_len, Nat.mul_div_cancel _ (by omega)] at this
theorem ipo_q {x : Ms × Ip} {qb : Nat} {q : Qi} (h1 : x.1.names = []) (h2 : x.1.qids = [q]) (E : IT w0 F i x.2 (mA mb x.1 nilV (oneV qb) :: pt qb (oc (qcs q) Ty.api_Qid) :: l) w) : IPo w0 F i mb l x w := by
  refine ⟨nilV, oneV qb, [pt qb (oc (qcs q) Ty.api_Qid)], ?_, ?_, E⟩
  · rw [h1]; exact rds_nil
  · rw [h2]
    exact ⟨_, 1, rfl, Nat.le_refl _, rfl, .inr ⟨_, rfl, RdP.pt (off := 0) (cs := qcs q) (T := Ty.api_Qid) List.mem_cons_self⟩⟩
theorem il_S (E : IT w0 F i I (mA mb m nv qv :: l) w) : Ca PP Fn.styx_input_num #[ptr i, .pointer (some ⟨mb, 5, none⟩), i64 4] w fun q w' => q = .tuple #[] ∧ IT w0 F i (Ip.fld m I .xS).2 (mA mb (Ip.fld m I .xS).1 nv qv :: l) w' :=
  (inum_ok (k := 4) (by omega) (by simp) E).mono fun r w' h => h
theorem il_f (E : IT w0 F i I (mA mb m nv qv :: l) w) : Ca PP Fn.styx_input_num #[ptr i, .pointer (some ⟨mb, 2, none⟩), i64 4] w fun q w' => q = .tuple #[] ∧ IT w0 F i (Ip.fld m I .xf).2 (mA mb (Ip.fld m I .xf).1 nv qv :: l) w' :=
  (inum_ok (k := 4) (by omega) (by simp) E).mono fun r w' h => h
theorem il_o (E : IT w0 F i I (mA mb m nv qv :: l) w) : Ca PP Fn.styx_input_num #[ptr i, .pointer (some ⟨mb, 3, none⟩), i64 4] w fun q w' => q = .tuple #[] ∧ IT w0 F i (Ip.fld m I .xo).2 (mA mb (Ip.fld m I .xo).1 nv qv :: l) w' :=
  (inum_ok (k := 4) (by omega) (by simp) E).mono fun r w' h => h
theorem il_d (E : IT w0 F i I (mA mb m nv qv :: l) w) : Ca PP Fn.styx_input_num #[ptr i, .pointer (some ⟨mb, 4, none⟩), i64 2] w fun q w' => q = .tuple #[] ∧ IT w0 F i (Ip.fld m I .xd).2 (mA mb (Ip.fld m I .xd).1 nv qv :: l) w' :=
  (inum_ok (k := 2) (by omega) (by simp) E).mono fun r w' h => h
theorem il_m (E : IT w0 F i I (mA mb m nv qv :: l) w) : Ca PP Fn.styx_input_num #[ptr i, .pointer (some ⟨mb, 7, none⟩), i64 1] w fun q w' => q = .tuple #[] ∧ IT w0 F i (Ip.fld m I .xm).2 (mA mb (Ip.fld m I .xm).1 nv qv :: l) w' :=
  (inum_ok (k := 1) (by omega) (by simp) E).mono fun r w' h => h
theorem il_p (E : IT w0 F i I (mA mb m nv qv :: l) w) : Ca PP Fn.styx_input_num #[ptr i, .pointer (some ⟨mb, 8, none⟩), i64 4] w fun q w' => q = .tuple #[] ∧ IT w0 F i (Ip.fld m I .xp).2 (mA mb (Ip.fld m I .xp).1 nv qv :: l) w' :=
  (inum_ok (k := 4) (by omega) (by simp) E).mono fun r w' h => h
theorem il_v (E : IT w0 F i I (mA mb m nv qv :: l) w) : Ca PP Fn.styx_input_text #[ptr i, .pointer (some ⟨mb, 9, none⟩)] w fun q w' => q = .tuple #[] ∧ IT w0 F i (Ip.fld m I .xv).2 (mA mb (Ip.fld m I .xv).1 nv qv :: l) w' :=
  (itext_ok (by simp) E).mono fun r w' h => h
theorem il_u (E : IT w0 F i I (mA mb m nv qv :: l) w) : Ca PP Fn.styx_input_text #[ptr i, .pointer (some ⟨mb, 10, none⟩)] w fun q w' => q = .tuple #[] ∧ IT w0 F i (Ip.fld m I .xu).2 (mA mb (Ip.fld m I .xu).1 nv qv :: l) w' :=
  (itext_ok (by simp) E).mono fun r w' h => h
theorem il_t (E : IT w0 F i I (mA mb m nv qv :: l) w) : Ca PP Fn.styx_input_text #[ptr i, .pointer (some ⟨mb, 11, none⟩)] w fun q w' => q = .tuple #[] ∧ IT w0 F i (Ip.fld m I .xt).2 (mA mb (Ip.fld m I .xt).1 nv qv :: l) w' :=
  (itext_ok (by simp) E).mono fun r w' h => h
theorem il_N (E : IT w0 F i I (mA mb m nv qv :: l) w) : Ca PP Fn.styx_input_text #[ptr i, .pointer (some ⟨mb, 12, none⟩)] w fun q w' => q = .tuple #[] ∧ IT w0 F i (Ip.fld m I .xN).2 (mA mb (Ip.fld m I .xN).1 nv qv :: l) w' :=
  (itext_ok (by simp) E).mono fun r w' h => h
theorem il_D (E : IT w0 F i I (mA mb m nv qv :: l) w) : Ca PP Fn.styx_input_data #[ptr i, .pointer (some ⟨mb, 15, none⟩)] w fun q w' => q = .tuple #[] ∧ IT w0 F i (Ip.fld m I .xD).2 (mA mb (Ip.fld m I .xD).1 nv qv :: l) w' :=
  (idata_ok (by simp) E).mono fun r w' h => h
theorem il_O (E : IT w0 F i I (mA mb m nv qv :: l) w) : Ca PP Fn.styx_input_long #[ptr i, .pointer (some ⟨mb, 6, none⟩)] w fun q w' => q = .tuple #[] ∧ IT w0 F i (Ip.fld m I .xO).2 (mA mb (Ip.fld m I .xO).1 nv qv :: l) w' :=
  (ilong_ok (by simp) E).mono fun r w' h => h
theorem il_n (E : IT w0 F i I (mA mb m nilV nilV :: l) w) : Ca PP Fn.styx_input_names #[ptr i, .pointer (some ⟨mb, 13, none⟩)] w fun q w' => q = .tuple #[] ∧ ∃ v, IT w0 F i (Ip.fld m I .xn).2 (mA mb (Ip.fld m I .xn).1 v nilV :: slA v Ty.string 1 ((Ip.fld m I .xn).1.names.map sb) :: l) w' :=
  (inames_ok (by simp) rfl E).mono fun r w' h => h
theorem il_Q (E : IT w0 F i I (mA mb m nilV nilV :: l) w) : Ca PP Fn.styx_input_qids #[ptr i, .pointer (some ⟨mb, 14, none⟩)] w fun q w' => q = .tuple #[] ∧ ∃ v, IT w0 F i (Ip.fld m I .xQ).2 (mA mb (Ip.fld m I .xQ).1 nilV v :: slA v Ty.api_Qid 3 (qqs (Ip.fld m I .xQ).1.qids) :: l) w' :=
  (iqids_ok (by simp) rfl E).mono fun r w' h => h
theorem il_i (E : IT w0 F i I (mA mb m nv qv :: l) w) : Ca PP Fn.styx_input_dir #[ptr i, .pointer (some ⟨mb, 16, none⟩)] w fun q w' => q = .tuple #[] ∧ IT w0 F i (Ip.fld m I .xi).2 (mA mb (Ip.fld m I .xi).1 nv qv :: l) w' :=
  (idir_ok (pre := (MC m nv qv).take 16) (post := [i64 m.code]) rfl E).mono fun r w' h => h
theorem il_q (hm : m.qids = []) (E : IT w0 F i I (mA mb m nv nilV :: l) w) :
    Ca PP Fn.styx_one #[.iface Ty.p_styx_input (ptr i), ptr mb] w fun q w' => q = .tuple #[] ∧ ∃ qb, IT w0 F i (Ip.fld m I .xq).2 (mA mb (Ip.fld m I .xq).1 nv (oneV qb) :: pt qb (oc (qcs I.qid.1) Ty.api_Qid) :: l) w' := by
  refine S.styx_one.calls ?_
  unfold S.styx_one
  obtain ⟨r, t, n, e, E, h⟩ := E
  (intro J1 hJ1)
  have fin1 : ∀ qb w_, Hs w0 F w_ (pt i (oc [ptr r, .bool I.bad, .bool I.ov, .bool I.cut] Ty.styx_input) :: rA r t n e :: pt qb (oc [i64 0, i64 0, i64 0] Ty.api_Qid) :: mA mb m nv (oneV qb) :: l) → J1 [] w_ := by
    intro qb w_ E
    (repeat with_reducible first | refine Stp.go ?_ | refine StpE.go E ?_ | (apply hJ1; intro u_))
    refine ⟨_, 1, 1, .i64, 0, rfl, rfl, by omega, by decide, ?_⟩
    show Ca PP Fn.styx_qid #[.iface Ty.p_styx_input (ptr i), ptr qb] w_ _
    refine (iqid_ok (pre := []) (post := []) rfl rfl ⟨r, t, n, e, E, h⟩).mono ?_
    clear E h
    rintro q w_ ⟨rfl, E⟩
    exact ⟨rfl, qb, E.sw⟩
  clear hJ1
  (repeat first | (with_reducible first | refine Stp.go ?_ | refine StpE.go E ?_ | refine LnL.nil ?_) | ((with_reducible refine Bi.dec true ?_ ?_); focus exact rfl))
  refine MkQ E ?_
  clear E
  intro qb w_ hqb E
  (repeat with_reducible first | refine Stp.go ?_ | (refine StpW.go E ?_; clear E; intro w_ E))
  (replace E := (((E.bIx 0).bIx 2).bIx 2))
  exact fin1 qb _ E
theorem ik_100 (hk : m.kind = 100) (hn : m.names = []) (hq : m.qids = []) (E : IT w0 F i I (mA mb m nilV nilV :: l) w) :
    Ca PP Fn.styx_fields #[.iface Ty.p_styx_input (ptr i), ptr mb] w fun q w' => q = .tuple #[] ∧ IPo w0 F i mb l (Ip.flds [.xS, .xv] m I) w' := by
  refine S.styx_fields.calls ?_
  unfold S.styx_fields
  obtain ⟨r, t, n, e, E, h⟩ := E
  (repeat with_reducible first | refine Stp.go ?_ | refine StpE.go E ?_)
  rw [hk, ifl2]
  (repeat first | (with_reducible first | refine Stp.go ?_ | (refine StpW.go E ?_; clear E; intro w_ E) | (apply hJ_; intro u_)) | ((with_reducible refine Bi.dec true ?_ ?_); focus exact rfl) | (intro J_ hJ_))
  refine (il_S ⟨r, t, n, e, E, h⟩).mono ?_
  clear E h
  rintro q w_ ⟨rfl, r, t, n, e, E, h⟩
  (repeat with_reducible first | refine Stp.go ?_ | (refine StpW.go E ?_; clear E; intro w_ E))
  refine (il_v ⟨r, t, n, e, E, h⟩).mono ?_
  clear E h
  rintro q w_ ⟨rfl, r, t, n, e, E, h⟩
  skip
  exact ⟨rfl, ipo_nil hn hq ⟨r, t, n, e, E, h⟩⟩
theorem ik_101 (hk : m.kind = 101) (hn : m.names = []) (hq : m.qids = []) (E : IT w0 F i I (mA mb m nilV nilV :: l) w) :
    Ca PP Fn.styx_fields #[.iface Ty.p_styx_input (ptr i), ptr mb] w fun q w' => q = .tuple #[] ∧ IPo w0 F i mb l (Ip.flds [.xS, .xv] m I) w' := by
  refine S.styx_fields.calls ?_
  unfold S.styx_fields
  obtain ⟨r, t, n, e, E, h⟩ := E
  (repeat with_reducible first | refine Stp.go ?_ | refine StpE.go E ?_)
  rw [hk, ifl2]
  (repeat first | (with_reducible first | refine Stp.go ?_ | (refine StpW.go E ?_; clear E; intro w_ E) | (apply hJ_; intro u_)) | ((with_reducible refine Bi.dec true ?_ ?_); focus exact rfl) | ((with_reducible refine Bi.dec false ?_ ?_); focus exact rfl) | (intro J_ hJ_))
  refine (il_S ⟨r, t, n, e, E, h⟩).mono ?_
  clear E h
  rintro q w_ ⟨rfl, r, t, n, e, E, h⟩
  (repeat with_reducible first | refine Stp.go ?_ | (refine StpW.go E ?_; clear E; intro w_ E))
  refine (il_v ⟨r, t, n, e, E, h⟩).mono ?_
  clear E h
  rintro q w_ ⟨rfl, r, t, n, e, E, h⟩
  skip
  exact ⟨rfl, ipo_nil hn hq ⟨r, t, n, e, E, h⟩⟩
theorem ik_102 (hk : m.kind = 102) (hn : m.names = []) (hq : m.qids = []) (E : IT w0 F i I (mA mb m nilV nilV :: l) w) :
    Ca PP Fn.styx_fields #[.iface Ty.p_styx_input (ptr i), ptr mb] w fun q w' => q = .tuple #[] ∧ IPo w0 F i mb l (Ip.flds [.xf, .xu, .xt] m I) w' := by
  refine S.styx_fields.calls ?_
  unfold S.styx_fields
  obtain ⟨r, t, n, e, E, h⟩ := E
  (repeat with_reducible first | refine Stp.go ?_ | refine StpE.go E ?_)
  rw [hk, ifl3]
  (repeat first | (with_reducible first | refine Stp.go ?_ | (refine StpW.go E ?_; clear E; intro w_ E) | (apply hJ_; intro u_)) | ((with_reducible refine Bi.dec true ?_ ?_); focus exact rfl) | ((with_reducible refine Bi.dec false ?_ ?_); focus exact rfl) | (intro J_ hJ_))
  refine (il_f ⟨r, t, n, e, E, h⟩).mono ?_
  clear E h
  rintro q w_ ⟨rfl, r, t, n, e, E, h⟩
  (repeat with_reducible first | refine Stp.go ?_ | (refine StpW.go E ?_; clear E; intro w_ E))
  refine (il_u ⟨r, t, n, e, E, h⟩).mono ?_
  clear E h
  rintro q w_ ⟨rfl, r, t, n, e, E, h⟩
  (repeat with_reducible first | refine Stp.go ?_ | (refine StpW.go E ?_; clear E; intro w_ E))
  refine (il_t ⟨r, t, n, e, E, h⟩).mono ?_
  clear E h
  rintro q w_ ⟨rfl, r, t, n, e, E, h⟩
  skip
  exact ⟨rfl, ipo_nil hn hq ⟨r, t, n, e, E, h⟩⟩
theorem ik_103 (hk : m.kind = 103) (hn : m.names = []) (hq : m.qids = []) (E : IT w0 F i I (mA mb m nilV nilV :: l) w) :
    Ca PP Fn.styx_fields #[.iface Ty.p_styx_input (ptr i), ptr mb] w fun q w' => q = .tuple #[] ∧ IPo w0 F i mb l (Ip.flds [.xq] m I) w' := by
  refine S.styx_fields.calls ?_
  unfold S.styx_fields
  obtain ⟨r, t, n, e, E, h⟩ := E
  (repeat with_reducible first | refine Stp.go ?_ | refine StpE.go E ?_)
  rw [hk, ifl1]
  (repeat first | (with_reducible first | refine Stp.go ?_ | (apply hJ_; intro u_)) | ((with_reducible refine Bi.dec true ?_ ?_); focus exact rfl) | ((with_reducible refine Bi.dec false ?_ ?_); focus exact rfl) | (intro J_ hJ_))
  refine (il_q hq ⟨r, t, n, e, E, h⟩).mono ?_
  clear E h
  rintro q w_ ⟨rfl, qb, r, t, n, e, E, h⟩
  skip
  exact ⟨rfl, ipo_q hn rfl ⟨r, t, n, e, E, h⟩⟩
theorem ik_105 (hk : m.kind = 105) (hn : m.names = []) (hq : m.qids = []) (E : IT w0 F i I (mA mb m nilV nilV :: l) w) :
    Ca PP Fn.styx_fields #[.iface Ty.p_styx_input (ptr i), ptr mb] w fun q w' => q = .tuple #[] ∧ IPo w0 F i mb l (Ip.flds [.xq] m I) w' := by
  refine S.styx_fields.calls ?_
  unfold S.styx_fields
  obtain ⟨r, t, n, e, E, h⟩ := E
  (repeat with_reducible first | refine Stp.go ?_ | refine StpE.go E ?_)
  rw [hk, ifl1]
  (repeat first | (with_reducible first | refine Stp.go ?_ | (apply hJ_; intro u_)) | ((with_reducible refine Bi.dec true ?_ ?_); focus exact rfl) | ((with_reducible refine Bi.dec false ?_ ?_); focus exact rfl) | (intro J_ hJ_))
  refine (il_q hq ⟨r, t, n, e, E, h⟩).mono ?_
  clear E h
  rintro q w_ ⟨rfl, qb, r, t, n, e, E, h⟩
  skip
  exact ⟨rfl, ipo_q hn rfl ⟨r, t, n, e, E, h⟩⟩
theorem ik_104 (hk : m.kind = 104) (hn : m.names = []) (hq : m.qids = []) (E : IT w0 F i I (mA mb m nilV nilV :: l) w) :
    Ca PP Fn.styx_fields #[.iface Ty.p_styx_input (ptr i), ptr mb] w fun q w' => q = .tuple #[] ∧ IPo w0 F i mb l (Ip.flds [.xf, .xo, .xu, .xt] m I) w' := by
  refine S.styx_fields.calls ?_
  unfold S.styx_fields
  obtain ⟨r, t, n, e, E, h⟩ := E
  (repeat with_reducible first | refine Stp.go ?_ | refine StpE.go E ?_)
  rw [hk, ifl4]
  (repeat first | (with_reducible first | refine Stp.go ?_ | (refine StpW.go E ?_; clear E; intro w_ E) | (apply hJ_; intro u_)) | ((with_reducible refine Bi.dec true ?_ ?_); focus exact rfl) | ((with_reducible refine Bi.dec false ?_ ?_); focus exact rfl) | (intro J_ hJ_))
  refine (il_f ⟨r, t, n, e, E, h⟩).mono ?_
  clear E h
  rintro q w_ ⟨rfl, r, t, n, e, E, h⟩
  (repeat with_reducible first | refine Stp.go ?_ | (refine StpW.go E ?_; clear E; intro w_ E))
  refine (il_o ⟨r, t, n, e, E, h⟩).mono ?_
  clear E h
  rintro q w_ ⟨rfl, r, t, n, e, E, h⟩
  (repeat with_reducible first | refine Stp.go ?_ | (refine StpW.go E ?_; clear E; intro w_ E))
  refine (il_u ⟨r, t, n, e, E, h⟩).mono ?_
  clear E h
  rintro q w_ ⟨rfl, r, t, n, e, E, h⟩
  (repeat with_reducible first | refine Stp.go ?_ | (refine StpW.go E ?_; clear E; intro w_ E))
  refine (il_t ⟨r, t, n, e, E, h⟩).mono ?_
  clear E h
  rintro q w_ ⟨rfl, r, t, n, e, E, h⟩
  skip
  exact ⟨rfl, ipo_nil hn hq ⟨r, t, n, e, E, h⟩⟩
theorem ik_107 (hk : m.kind = 107) (hn : m.names = []) (hq : m.qids = []) (E : IT w0 F i I (mA mb m nilV nilV :: l) w) :
    Ca PP Fn.styx_fields #[.iface Ty.p_styx_input (ptr i), ptr mb] w fun q w' => q = .tuple #[] ∧ IPo w0 F i mb l (Ip.flds [.xc] m I) w' := by
  refine S.styx_fields.calls ?_
  unfold S.styx_fields
  obtain ⟨r, t, n, e, E, h⟩ := E
  (repeat with_reducible first | refine Stp.go ?_ | refine StpE.go E ?_)
  rw [hk, ifl1]
  (repeat first | (with_reducible first | refine Stp.go ?_ | refine StpE.go E ?_ | (refine StpW.go E ?_; clear E; intro w_ E) | (refine StpA.go E ?_; clear E; intro b_ w_ hb_ E) | (apply hJ_; intro u_)) | ((with_reducible refine Bi.dec true ?_ ?_); focus exact rfl) | ((with_reducible refine Bi.dec false ?_ ?_); focus exact rfl) | (intro J_ hJ_))
  (revert b_; intro c hbc E)
  (replace E := (((E.bIx 0).bIx 2).bIx 2))
  refine (inum_ok (k := 2) (off := 0) (by omega) (by simp) ⟨r, t, n, e, E, h⟩).mono ?_
  clear E h
  rintro q w_ ⟨rfl, r, t, n, e, E, h⟩
  (try simp only [List.set_cons_zero, List.set_cons_succ, List.cons_append, List.nil_append, Nat.zero_add, Nat.add_zero] at E)
  (repeat with_reducible first | refine Stp.go ?_ | refine StpE.go E ?_ | (refine StpW.go E ?_; clear E; intro w_ E))
  (replace E := ((((E.bIx 2).bIx 3).bIx 3).bIx 3))
  exact ⟨rfl, ipo_nil (x := Ip.fld m I .xc) hn hq ⟨r, t, n, e, E.drop (.cons_cons _ (.cons_cons _ (.cons_cons _ (.cons _ (List.Sublist.refl _))))), h⟩⟩
theorem ik_108 (hk : m.kind = 108) (hn : m.names = []) (hq : m.qids = []) (E : IT w0 F i I (mA mb m nilV nilV :: l) w) :
    Ca PP Fn.styx_fields #[.iface Ty.p_styx_input (ptr i), ptr mb] w fun q w' => q = .tuple #[] ∧ IPo w0 F i mb l (Ip.flds [.xd] m I) w' := by
  refine S.styx_fields.calls ?_
  unfold S.styx_fields
  obtain ⟨r, t, n, e, E, h⟩ := E
  (repeat with_reducible first | refine Stp.go ?_ | refine StpE.go E ?_)
  rw [hk, ifl1]
  (repeat first | (with_reducible first | refine Stp.go ?_ | (refine StpW.go E ?_; clear E; intro w_ E) | (apply hJ_; intro u_)) | ((with_reducible refine Bi.dec true ?_ ?_); focus exact rfl) | ((with_reducible refine Bi.dec false ?_ ?_); focus exact rfl) | (intro J_ hJ_))
  refine (il_d ⟨r, t, n, e, E, h⟩).mono ?_
  clear E h
  rintro q w_ ⟨rfl, r, t, n, e, E, h⟩
  skip
  exact ⟨rfl, ipo_nil hn hq ⟨r, t, n, e, E, h⟩⟩
theorem ik_110 (hk : m.kind = 110) (hn : m.names = []) (hq : m.qids = []) (E : IT w0 F i I (mA mb m nilV nilV :: l) w) :
    Ca PP Fn.styx_fields #[.iface Ty.p_styx_input (ptr i), ptr mb] w fun q w' => q = .tuple #[] ∧ IPo w0 F i mb l (Ip.flds [.xf, .xo, .xn] m I) w' := by
  refine S.styx_fields.calls ?_
  unfold S.styx_fields
  obtain ⟨r, t, n, e, E, h⟩ := E
  (repeat with_reducible first | refine Stp.go ?_ | refine StpE.go E ?_)
  rw [hk, ifl3]
  (repeat first | (with_reducible first | refine Stp.go ?_ | (refine StpW.go E ?_; clear E; intro w_ E) | (apply hJ_; intro u_)) | ((with_reducible refine Bi.dec true ?_ ?_); focus exact rfl) | ((with_reducible refine Bi.dec false ?_ ?_); focus exact rfl) | (intro J_ hJ_))
  refine (il_f ⟨r, t, n, e, E, h⟩).mono ?_
  clear E h
  rintro q w_ ⟨rfl, r, t, n, e, E, h⟩
  (repeat with_reducible first | refine Stp.go ?_ | (refine StpW.go E ?_; clear E; intro w_ E))
  refine (il_o ⟨r, t, n, e, E, h⟩).mono ?_
  clear E h
  rintro q w_ ⟨rfl, r, t, n, e, E, h⟩
  (repeat with_reducible first | refine Stp.go ?_ | (refine StpW.go E ?_; clear E; intro w_ E))
  refine (il_n ⟨r, t, n, e, E, h⟩).mono ?_
  clear E h
  rintro q w_ ⟨rfl, v, E⟩
  exact ⟨rfl, ipo_n hq E⟩
theorem ik_111 (hk : m.kind = 111) (hn : m.names = []) (hq : m.qids = []) (E : IT w0 F i I (mA mb m nilV nilV :: l) w) :
    Ca PP Fn.styx_fields #[.iface Ty.p_styx_input (ptr i), ptr mb] w fun q w' => q = .tuple #[] ∧ IPo w0 F i mb l (Ip.flds [.xQ] m I) w' := by
  refine S.styx_fields.calls ?_
  unfold S.styx_fields
  obtain ⟨r, t, n, e, E, h⟩ := E
  (repeat with_reducible first | refine Stp.go ?_ | refine StpE.go E ?_)
  rw [hk, ifl1]
  (repeat first | (with_reducible first | refine Stp.go ?_ | (refine StpW.go E ?_; clear E; intro w_ E) | (apply hJ_; intro u_)) | ((with_reducible refine Bi.dec true ?_ ?_); focus exact rfl) | ((with_reducible refine Bi.dec false ?_ ?_); focus exact rfl) | (intro J_ hJ_))
  refine (il_Q ⟨r, t, n, e, E, h⟩).mono ?_
  clear E h
  rintro q w_ ⟨rfl, v, E⟩
  exact ⟨rfl, ipo_Q hn E⟩
theorem ik_112 (hk : m.kind = 112) (hn : m.names = []) (hq : m.qids = []) (E : IT w0 F i I (mA mb m nilV nilV :: l) w) :
    Ca PP Fn.styx_fields #[.iface Ty.p_styx_input (ptr i), ptr mb] w fun q w' => q = .tuple #[] ∧ IPo w0 F i mb l (Ip.flds [.xf, .xm] m I) w' := by
  refine S.styx_fields.calls ?_
  unfold S.styx_fields
  obtain ⟨r, t, n, e, E, h⟩ := E
  (repeat with_reducible first | refine Stp.go ?_ | refine StpE.go E ?_)
  rw [hk, ifl2]
  (repeat first | (with_reducible first | refine Stp.go ?_ | (refine StpW.go E ?_; clear E; intro w_ E) | (apply hJ_; intro u_)) | ((with_reducible refine Bi.dec true ?_ ?_); focus exact rfl) | ((with_reducible refine Bi.dec false ?_ ?_); focus exact rfl) | (intro J_ hJ_))
  refine (il_f ⟨r, t, n, e, E, h⟩).mono ?_
  clear E h
  rintro q w_ ⟨rfl, r, t, n, e, E, h⟩
  (repeat with_reducible first | refine Stp.go ?_ | (refine StpW.go E ?_; clear E; intro w_ E))
  refine (il_m ⟨r, t, n, e, E, h⟩).mono ?_
  clear E h
  rintro q w_ ⟨rfl, r, t, n, e, E, h⟩
  skip
  exact ⟨rfl, ipo_nil hn hq ⟨r, t, n, e, E, h⟩⟩
theorem ik_113 (hk : m.kind = 113) (hn : m.names = []) (hq : m.qids = []) (E : IT w0 F i I (mA mb m nilV nilV :: l) w) :
    Ca PP Fn.styx_fields #[.iface Ty.p_styx_input (ptr i), ptr mb] w fun q w' => q = .tuple #[] ∧ IPo w0 F i mb l (Ip.flds [.xq, .xS] m I) w' := by
  refine S.styx_fields.calls ?_
  unfold S.styx_fields
  obtain ⟨r, t, n, e, E, h⟩ := E
  (repeat with_reducible first | refine Stp.go ?_ | refine StpE.go E ?_)
  rw [hk, ifl2]
  (repeat first | (with_reducible first | refine Stp.go ?_ | (apply hJ_; intro u_)) | ((with_reducible refine Bi.dec true ?_ ?_); focus exact rfl) | ((with_reducible refine Bi.dec false ?_ ?_); focus exact rfl) | (intro J_ hJ_))
  refine (il_q hq ⟨r, t, n, e, E, h⟩).mono ?_
  clear E h
  rintro q w_ ⟨rfl, qb, r, t, n, e, E, h⟩
  (repeat with_reducible first | refine Stp.go ?_ | (refine StpW.go E ?_; clear E; intro w_ E))
  refine (il_S ⟨r, t, n, e, E, h⟩).mono ?_
  clear E h
  rintro q w_ ⟨rfl, r, t, n, e, E, h⟩
  skip
  exact ⟨rfl, ipo_q hn rfl ⟨r, t, n, e, E, h⟩⟩
theorem ik_115 (hk : m.kind = 115) (hn : m.names = []) (hq : m.qids = []) (E : IT w0 F i I (mA mb m nilV nilV :: l) w) :
    Ca PP Fn.styx_fields #[.iface Ty.p_styx_input (ptr i), ptr mb] w fun q w' => q = .tuple #[] ∧ IPo w0 F i mb l (Ip.flds [.xq, .xS] m I) w' := by
  refine S.styx_fields.calls ?_
  unfold S.styx_fields
  obtain ⟨r, t, n, e, E, h⟩ := E
  (repeat with_reducible first | refine Stp.go ?_ | refine StpE.go E ?_)
  rw [hk, ifl2]
  (repeat first | (with_reducible first | refine Stp.go ?_ | (apply hJ_; intro u_)) | ((with_reducible refine Bi.dec true ?_ ?_); focus exact rfl) | ((with_reducible refine Bi.dec false ?_ ?_); focus exact rfl) | (intro J_ hJ_))
  refine (il_q hq ⟨r, t, n, e, E, h⟩).mono ?_
  clear E h
  rintro q w_ ⟨rfl, qb, r, t, n, e, E, h⟩
  (repeat with_reducible first | refine Stp.go ?_ | (refine StpW.go E ?_; clear E; intro w_ E))
  refine (il_S ⟨r, t, n, e, E, h⟩).mono ?_
  clear E h
  rintro q w_ ⟨rfl, r, t, n, e, E, h⟩
  skip
  exact ⟨rfl, ipo_q hn rfl ⟨r, t, n, e, E, h⟩⟩
theorem ik_114 (hk : m.kind = 114) (hn : m.names = []) (hq : m.qids = []) (E : IT w0 F i I (mA mb m nilV nilV :: l) w) :
    Ca PP Fn.styx_fields #[.iface Ty.p_styx_input (ptr i), ptr mb] w fun q w' => q = .tuple #[] ∧ IPo w0 F i mb l (Ip.flds [.xf, .xN, .xp, .xm] m I) w' := by
  refine S.styx_fields.calls ?_
  unfold S.styx_fields
  obtain ⟨r, t, n, e, E, h⟩ := E
  (repeat with_reducible first | refine Stp.go ?_ | refine StpE.go E ?_)
  rw [hk, ifl4]
  (repeat first | (with_reducible first | refine Stp.go ?_ | (refine StpW.go E ?_; clear E; intro w_ E) | (apply hJ_; intro u_)) | ((with_reducible refine Bi.dec true ?_ ?_); focus exact rfl) | ((with_reducible refine Bi.dec false ?_ ?_); focus exact rfl) | (intro J_ hJ_))
  refine (il_f ⟨r, t, n, e, E, h⟩).mono ?_
  clear E h
  rintro q w_ ⟨rfl, r, t, n, e, E, h⟩
  (repeat with_reducible first | refine Stp.go ?_ | (refine StpW.go E ?_; clear E; intro w_ E))
  refine (il_N ⟨r, t, n, e, E, h⟩).mono ?_
  clear E h
  rintro q w_ ⟨rfl, r, t, n, e, E, h⟩
  (repeat with_reducible first | refine Stp.go ?_ | (refine StpW.go E ?_; clear E; intro w_ E))
  refine (il_p ⟨r, t, n, e, E, h⟩).mono ?_
  clear E h
  rintro q w_ ⟨rfl, r, t, n, e, E, h⟩
  (repeat with_reducible first | refine Stp.go ?_ | (refine StpW.go E ?_; clear E; intro w_ E))
  refine (il_m ⟨r, t, n, e, E, h⟩).mono ?_
  clear E h
  rintro q w_ ⟨rfl, r, t, n, e, E, h⟩
  skip
  exact ⟨rfl, ipo_nil hn hq ⟨r, t, n, e, E, h⟩⟩
theorem ik_116 (hk : m.kind = 116) (hn : m.names = []) (hq : m.qids = []) (E : IT w0 F i I (mA mb m nilV nilV :: l) w) :
    Ca PP Fn.styx_fields #[.iface Ty.p_styx_input (ptr i), ptr mb] w fun q w' => q = .tuple #[] ∧ IPo w0 F i mb l (Ip.flds [.xf, .xO, .xS] m I) w' := by
  refine S.styx_fields.calls ?_
  unfold S.styx_fields
  obtain ⟨r, t, n, e, E, h⟩ := E
  (repeat with_reducible first | refine Stp.go ?_ | refine StpE.go E ?_)
  rw [hk, ifl3]
  (repeat first | (with_reducible first | refine Stp.go ?_ | (refine StpW.go E ?_; clear E; intro w_ E) | (apply hJ_; intro u_)) | ((with_reducible refine Bi.dec true ?_ ?_); focus exact rfl) | ((with_reducible refine Bi.dec false ?_ ?_); focus exact rfl) | (intro J_ hJ_))
  refine (il_f ⟨r, t, n, e, E, h⟩).mono ?_
  clear E h
  rintro q w_ ⟨rfl, r, t, n, e, E, h⟩
  (repeat with_reducible first | refine Stp.go ?_ | (refine StpW.go E ?_; clear E; intro w_ E))
  refine (il_O ⟨r, t, n, e, E, h⟩).mono ?_
  clear E h
  rintro q w_ ⟨rfl, r, t, n, e, E, h⟩
  (repeat with_reducible first | refine Stp.go ?_ | (refine StpW.go E ?_; clear E; intro w_ E))
  refine (il_S ⟨r, t, n, e, E, h⟩).mono ?_
  clear E h
  rintro q w_ ⟨rfl, r, t, n, e, E, h⟩
  skip
  exact ⟨rfl, ipo_nil hn hq ⟨r, t, n, e, E, h⟩⟩
theorem ik_117 (hk : m.kind = 117) (hn : m.names = []) (hq : m.qids = []) (E : IT w0 F i I (mA mb m nilV nilV :: l) w) :
    Ca PP Fn.styx_fields #[.iface Ty.p_styx_input (ptr i), ptr mb] w fun q w' => q = .tuple #[] ∧ IPo w0 F i mb l (Ip.flds [.xD] m I) w' := by
  refine S.styx_fields.calls ?_
  unfold S.styx_fields
  obtain ⟨r, t, n, e, E, h⟩ := E
  (repeat with_reducible first | refine Stp.go ?_ | refine StpE.go E ?_)
  rw [hk, ifl1]
  (repeat first | (with_reducible first | refine Stp.go ?_ | (refine StpW.go E ?_; clear E; intro w_ E) | (apply hJ_; intro u_)) | ((with_reducible refine Bi.dec true ?_ ?_); focus exact rfl) | ((with_reducible refine Bi.dec false ?_ ?_); focus exact rfl) | (intro J_ hJ_))
  refine (il_D ⟨r, t, n, e, E, h⟩).mono ?_
  clear E h
  rintro q w_ ⟨rfl, r, t, n, e, E, h⟩
  skip
  exact ⟨rfl, ipo_nil hn hq ⟨r, t, n, e, E, h⟩⟩
theorem ik_118 (hk : m.kind = 118) (hn : m.names = []) (hq : m.qids = []) (E : IT w0 F i I (mA mb m nilV nilV :: l) w) :
    Ca PP Fn.styx_fields #[.iface Ty.p_styx_input (ptr i), ptr mb] w fun q w' => q = .tuple #[] ∧ IPo w0 F i mb l (Ip.flds [.xf, .xO, .xD] m I) w' := by
  refine S.styx_fields.calls ?_
  unfold S.styx_fields
  obtain ⟨r, t, n, e, E, h⟩ := E
  (repeat with_reducible first | refine Stp.go ?_ | refine StpE.go E ?_)
  rw [hk, ifl3]
  (repeat first | (with_reducible first | refine Stp.go ?_ | (refine StpW.go E ?_; clear E; intro w_ E) | (apply hJ_; intro u_)) | ((with_reducible refine Bi.dec true ?_ ?_); focus exact rfl) | ((with_reducible refine Bi.dec false ?_ ?_); focus exact rfl) | (intro J_ hJ_))
  refine (il_f ⟨r, t, n, e, E, h⟩).mono ?_
  clear E h
  rintro q w_ ⟨rfl, r, t, n, e, E, h⟩
  (repeat with_reducible first | refine Stp.go ?_ | (refine StpW.go E ?_; clear E; intro w_ E))
  refine (il_O ⟨r, t, n, e, E, h⟩).mono ?_
  clear E h
  rintro q w_ ⟨rfl, r, t, n, e, E, h⟩
  (repeat with_reducible first | refine Stp.go ?_ | (refine StpW.go E ?_; clear E; intro w_ E))
  refine (il_D ⟨r, t, n, e, E, h⟩).mono ?_
  clear E h
  rintro q w_ ⟨rfl, r, t, n, e, E, h⟩
  skip
  exact ⟨rfl, ipo_nil hn hq ⟨r, t, n, e, E, h⟩⟩
theorem ik_119 (hk : m.kind = 119) (hn : m.names = []) (hq : m.qids = []) (E : IT w0 F i I (mA mb m nilV nilV :: l) w) :
    Ca PP Fn.styx_fields #[.iface Ty.p_styx_input (ptr i), ptr mb] w fun q w' => q = .tuple #[] ∧ IPo w0 F i mb l (Ip.flds [.xS] m I) w' := by
  refine S.styx_fields.calls ?_
  unfold S.styx_fields
  obtain ⟨r, t, n, e, E, h⟩ := E
  (repeat with_reducible first | refine Stp.go ?_ | refine StpE.go E ?_)
  rw [hk, ifl1]
  (repeat first | (with_reducible first | refine Stp.go ?_ | (refine StpW.go E ?_; clear E; intro w_ E) | (apply hJ_; intro u_)) | ((with_reducible refine Bi.dec true ?_ ?_); focus exact rfl) | ((with_reducible refine Bi.dec false ?_ ?_); focus exact rfl) | (intro J_ hJ_))
  refine (il_S ⟨r, t, n, e, E, h⟩).mono ?_
  clear E h
  rintro q w_ ⟨rfl, r, t, n, e, E, h⟩
  skip
  exact ⟨rfl, ipo_nil hn hq ⟨r, t, n, e, E, h⟩⟩
theorem ik_120 (hk : m.kind = 120) (hn : m.names = []) (hq : m.qids = []) (E : IT w0 F i I (mA mb m nilV nilV :: l) w) :
    Ca PP Fn.styx_fields #[.iface Ty.p_styx_input (ptr i), ptr mb] w fun q w' => q = .tuple #[] ∧ IPo w0 F i mb l (Ip.flds [.xf] m I) w' := by
  refine S.styx_fields.calls ?_
  unfold S.styx_fields
  obtain ⟨r, t, n, e, E, h⟩ := E
  (repeat with_reducible first | refine Stp.go ?_ | refine StpE.go E ?_)
  rw [hk, ifl1]
  (repeat first | (with_reducible first | refine Stp.go ?_ | (refine StpW.go E ?_; clear E; intro w_ E) | (apply hJ_; intro u_)) | ((with_reducible refine Bi.dec true ?_ ?_); focus exact rfl) | ((with_reducible refine Bi.dec false ?_ ?_); focus exact rfl) | (intro J_ hJ_))
  refine (il_f ⟨r, t, n, e, E, h⟩).mono ?_
  clear E h
  rintro q w_ ⟨rfl, r, t, n, e, E, h⟩
  skip
  exact ⟨rfl, ipo_nil hn hq ⟨r, t, n, e, E, h⟩⟩
theorem ik_122 (hk : m.kind = 122) (hn : m.names = []) (hq : m.qids = []) (E : IT w0 F i I (mA mb m nilV nilV :: l) w) :
    Ca PP Fn.styx_fields #[.iface Ty.p_styx_input (ptr i), ptr mb] w fun q w' => q = .tuple #[] ∧ IPo w0 F i mb l (Ip.flds [.xf] m I) w' := by
  refine S.styx_fields.calls ?_
  unfold S.styx_fields
  obtain ⟨r, t, n, e, E, h⟩ := E
  (repeat with_reducible first | refine Stp.go ?_ | refine StpE.go E ?_)
  rw [hk, ifl1]
  (repeat first | (with_reducible first | refine Stp.go ?_ | (refine StpW.go E ?_; clear E; intro w_ E) | (apply hJ_; intro u_)) | ((with_reducible refine Bi.dec true ?_ ?_); focus exact rfl) | ((with_reducible refine Bi.dec false ?_ ?_); focus exact rfl) | (intro J_ hJ_))
  refine (il_f ⟨r, t, n, e, E, h⟩).mono ?_
  clear E h
  rintro q w_ ⟨rfl, r, t, n, e, E, h⟩
  skip
  exact ⟨rfl, ipo_nil hn hq ⟨r, t, n, e, E, h⟩⟩
theorem ik_124 (hk : m.kind = 124) (hn : m.names = []) (hq : m.qids = []) (E : IT w0 F i I (mA mb m nilV nilV :: l) w) :
    Ca PP Fn.styx_fields #[.iface Ty.p_styx_input (ptr i), ptr mb] w fun q w' => q = .tuple #[] ∧ IPo w0 F i mb l (Ip.flds [.xf] m I) w' := by
  refine S.styx_fields.calls ?_
  unfold S.styx_fields
  obtain ⟨r, t, n, e, E, h⟩ := E
  (repeat with_reducible first | refine Stp.go ?_ | refine StpE.go E ?_)
  rw [hk, ifl1]
  (repeat first | (with_reducible first | refine Stp.go ?_ | (refine StpW.go E ?_; clear E; intro w_ E) | (apply hJ_; intro u_)) | ((with_reducible refine Bi.dec true ?_ ?_); focus exact rfl) | ((with_reducible refine Bi.dec false ?_ ?_); focus exact rfl) | (intro J_ hJ_))
  refine (il_f ⟨r, t, n, e, E, h⟩).mono ?_
  clear E h
  rintro q w_ ⟨rfl, r, t, n, e, E, h⟩
  skip
  exact ⟨rfl, ipo_nil hn hq ⟨r, t, n, e, E, h⟩⟩
theorem ik_125 (hk : m.kind = 125) (hn : m.names = []) (hq : m.qids = []) (E : IT w0 F i I (mA mb m nilV nilV :: l) w) :
    Ca PP Fn.styx_fields #[.iface Ty.p_styx_input (ptr i), ptr mb] w fun q w' => q = .tuple #[] ∧ IPo w0 F i mb l (Ip.flds [.xi] m I) w' := by
  refine S.styx_fields.calls ?_
  unfold S.styx_fields
  obtain ⟨r, t, n, e, E, h⟩ := E
  (repeat with_reducible first | refine Stp.go ?_ | refine StpE.go E ?_)
  rw [hk, ifl1]
  (repeat first | (with_reducible first | refine Stp.go ?_ | (refine StpW.go E ?_; clear E; intro w_ E) | (apply hJ_; intro u_)) | ((with_reducible refine Bi.dec true ?_ ?_); focus exact rfl) | ((with_reducible refine Bi.dec false ?_ ?_); focus exact rfl) | (intro J_ hJ_))
  refine (il_i ⟨r, t, n, e, E, h⟩).mono ?_
  clear E h
  rintro q w_ ⟨rfl, r, t, n, e, E, h⟩
  skip
  exact ⟨rfl, ipo_nil hn hq ⟨r, t, n, e, E, h⟩⟩
theorem ik_126 (hk : m.kind = 126) (hn : m.names = []) (hq : m.qids = []) (E : IT w0 F i I (mA mb m nilV nilV :: l) w) :
    Ca PP Fn.styx_fields #[.iface Ty.p_styx_input (ptr i), ptr mb] w fun q w' => q = .tuple #[] ∧ IPo w0 F i mb l (Ip.flds [.xf, .xi] m I) w' := by
  refine S.styx_fields.calls ?_
  unfold S.styx_fields
  obtain ⟨r, t, n, e, E, h⟩ := E
  (repeat with_reducible first | refine Stp.go ?_ | refine StpE.go E ?_)
  rw [hk, ifl2]
  (repeat first | (with_reducible first | refine Stp.go ?_ | (refine StpW.go E ?_; clear E; intro w_ E) | (apply hJ_; intro u_)) | ((with_reducible refine Bi.dec true ?_ ?_); focus exact rfl) | ((with_reducible refine Bi.dec false ?_ ?_); focus exact rfl) | (intro J_ hJ_))
  refine (il_f ⟨r, t, n, e, E, h⟩).mono ?_
  clear E h
  rintro q w_ ⟨rfl, r, t, n, e, E, h⟩
  (repeat with_reducible first | refine Stp.go ?_ | (refine StpW.go E ?_; clear E; intro w_ E))
  refine (il_i ⟨r, t, n, e, E, h⟩).mono ?_
  clear E h
  rintro q w_ ⟨rfl, r, t, n, e, E, h⟩
  skip
  exact ⟨rfl, ipo_nil hn hq ⟨r, t, n, e, E, h⟩⟩
theorem ik_109 (hk : m.kind = 109) (hn : m.names = []) (hq : m.qids = []) (E : IT w0 F i I (mA mb m nilV nilV :: l) w) :
    Ca PP Fn.styx_fields #[.iface Ty.p_styx_input (ptr i), ptr mb] w fun q w' => q = .tuple #[] ∧ IPo w0 F i mb l (Ip.flds [] m I) w' := by
  refine S.styx_fields.calls ?_
  unfold S.styx_fields
  obtain ⟨r, t, n, e, E, h⟩ := E
  (repeat with_reducible first | refine Stp.go ?_ | refine StpE.go E ?_)
  rw [hk, ifl0]
  (repeat first | (with_reducible first | refine Stp.go ?_ | (apply hJ_; intro u_)) | ((with_reducible refine Bi.dec false ?_ ?_); focus exact rfl) | (intro J_ hJ_))
  exact ⟨rfl, ipo_nil hn hq ⟨r, t, n, e, E, h⟩⟩
theorem ik_121 (hk : m.kind = 121) (hn : m.names = []) (hq : m.qids = []) (E : IT w0 F i I (mA mb m nilV nilV :: l) w) :
    Ca PP Fn.styx_fields #[.iface Ty.p_styx_input (ptr i), ptr mb] w fun q w' => q = .tuple #[] ∧ IPo w0 F i mb l (Ip.flds [] m I) w' := by
  refine S.styx_fields.calls ?_
  unfold S.styx_fields
  obtain ⟨r, t, n, e, E, h⟩ := E
  (repeat with_reducible first | refine Stp.go ?_ | refine StpE.go E ?_)
  rw [hk, ifl0]
  (repeat first | (with_reducible first | refine Stp.go ?_ | (apply hJ_; intro u_)) | ((with_reducible refine Bi.dec false ?_ ?_); focus exact rfl) | (intro J_ hJ_))
  exact ⟨rfl, ipo_nil hn hq ⟨r, t, n, e, E, h⟩⟩
theorem ik_123 (hk : m.kind = 123) (hn : m.names = []) (hq : m.qids = []) (E : IT w0 F i I (mA mb m nilV nilV :: l) w) :
    Ca PP Fn.styx_fields #[.iface Ty.p_styx_input (ptr i), ptr mb] w fun q w' => q = .tuple #[] ∧ IPo w0 F i mb l (Ip.flds [] m I) w' := by
  refine S.styx_fields.calls ?_
  unfold S.styx_fields
  obtain ⟨r, t, n, e, E, h⟩ := E
  (repeat with_reducible first | refine Stp.go ?_ | refine StpE.go E ?_)
  rw [hk, ifl0]
  (repeat first | (with_reducible first | refine Stp.go ?_ | (apply hJ_; intro u_)) | ((with_reducible refine Bi.dec false ?_ ?_); focus exact rfl) | (intro J_ hJ_))
  exact ⟨rfl, ipo_nil hn hq ⟨r, t, n, e, E, h⟩⟩
theorem ik_127 (hk : m.kind = 127) (hn : m.names = []) (hq : m.qids = []) (E : IT w0 F i I (mA mb m nilV nilV :: l) w) :
    Ca PP Fn.styx_fields #[.iface Ty.p_styx_input (ptr i), ptr mb] w fun q w' => q = .tuple #[] ∧ IPo w0 F i mb l (Ip.flds [] m I) w' := by
  refine S.styx_fields.calls ?_
  unfold S.styx_fields
  obtain ⟨r, t, n, e, E, h⟩ := E
  (repeat with_reducible first | refine Stp.go ?_ | refine StpE.go E ?_)
  rw [hk, ifl0]
  (repeat first | (with_reducible first | refine Stp.go ?_ | (apply hJ_; intro u_)) | ((with_reducible refine Bi.dec false ?_ ?_); focus exact rfl) | (intro J_ hJ_))
  exact ⟨rfl, ipo_nil hn hq ⟨r, t, n, e, E, h⟩⟩
theorem ifields_ok {fl : List Fl} (hfl : fls m.kind = some fl) (hn : m.names = []) (hq : m.qids = []) (E : IT w0 F i I (mA mb m nilV nilV :: l) w) :
    Ca PP Fn.styx_fields #[.iface Ty.p_styx_input (ptr i), ptr mb] w fun q w' => q = .tuple #[] ∧ IPo w0 F i mb l (Ip.flds fl m I) w' := by
  rcases fls_cases hfl with ⟨(hk | hk), rfl⟩ | ⟨hk, rfl⟩ | ⟨(hk | hk), rfl⟩ | ⟨hk, rfl⟩ | ⟨hk, rfl⟩ | ⟨hk, rfl⟩ | ⟨hk, rfl⟩ | ⟨hk, rfl⟩ | ⟨hk, rfl⟩ | ⟨(hk | hk), rfl⟩ | ⟨hk, rfl⟩ | ⟨hk, rfl⟩ | ⟨hk, rfl⟩ | ⟨hk, rfl⟩ | ⟨hk, rfl⟩ | ⟨(hk | hk | hk), rfl⟩ | ⟨hk, rfl⟩ | ⟨hk, rfl⟩ | ⟨(hk | hk | hk | hk), rfl⟩
  · exact ik_100 hk hn hq E
  · exact ik_101 hk hn hq E
  · exact ik_102 hk hn hq E
  · exact ik_103 hk hn hq E
  · exact ik_105 hk hn hq E
  · exact ik_104 hk hn hq E
  · exact ik_107 hk hn hq E
  · exact ik_108 hk hn hq E
  · exact ik_110 hk hn hq E
  · exact ik_111 hk hn hq E
  · exact ik_112 hk hn hq E
  · exact ik_113 hk hn hq E
  · exact ik_115 hk hn hq E
  · exact ik_114 hk hn hq E
  · exact ik_116 hk hn hq E
  · exact ik_117 hk hn hq E
  · exact ik_118 hk hn hq E
  · exact ik_119 hk hn hq E
  · exact ik_120 hk hn hq E
  · exact ik_122 hk hn hq E
  · exact ik_124 hk hn hq E
  · exact ik_125 hk hn hq E
  · exact ik_126 hk hn hq E
  · exact ik_109 hk hn hq E
  · exact ik_121 hk hn hq E
  · exact ik_123 hk hn hq E
  · exact ik_127 hk hn hq E
end Go.Proofs.YtmlccboapkkcfaaDoor

/-
  The protocol: Decode.
-/
namespace Go.Proofs.YtmlccboapkkcfaaDoor
open Go Go.Sh
set_option maxRecDepth 100000
set_option linter.unusedVariables false
set_option linter.unusedSimpArgs false
variable {w0 w : World} {F : Nat → Prop} {l : List As}
variable {s : List UInt8}
theorem length_ok (hs : s.length ≤ 1000000000000) (E : Hs w0 F w l) : Ca PP Fn.styx_length #[sb s] w fun q w' => q = i64 ((if 4 ≤ s.length then un (s.take 4) else 0 : Nat) : Int) ∧ Hs w0 F w' l := by
  refine S.styx_length.calls ?_
  unfold S.styx_length
  refine (NewReader_ok E).mono ?_
  clear E
  rintro q w_ ⟨r, rfl, E⟩
  refine (RLittle_ok (n := 4) (by omega) hs (Nat.zero_le _) E).mono ?_
  clear E
  rintro q w_ (⟨he, _⟩ | ⟨he, x, n', rfl, hn, hp, E⟩ | ⟨he, hp, e', he', rfl, E⟩)
  · exact absurd rfl he
  · (repeat with_reducible refine Stp.go ?_)
    unfold rd at hp
    rw [List.drop_zero] at hp
    by_cases h4 : 4 ≤ s.length
    · rw [if_pos h4] at hp ⊢
      have := congrArg (fun o => o.map Prod.fst) hp
      simp only [Option.map_some] at this
      exact ⟨(Option.some.inj this).symm, E.tl⟩
    · rw [if_neg h4] at hp; cases hp
  · (repeat with_reducible refine Stp.go ?_)
    unfold rd at hp
    rw [List.drop_zero] at hp
    by_cases h4 : 4 ≤ s.length
    · rw [if_pos h4] at hp; cases hp
    · rw [if_neg h4]
      exact ⟨rfl, E.tl⟩
/-- A message that was read, and where its lists lie. -/
def DMs (w0 : World) (F : Nat → Prop) (l : List As) (m : Ms) (e : Int) (q : Value) (w : World) : Prop :=
  ∃ nv qv X, q = .tuple #[.agg (MC m nv qv).toArray, i64 e] ∧ RdS w0 F X 1 m.names.length nv (m.names.map sb) ∧ RdS w0 F X 3 m.qids.length qv (qqs m.qids) ∧ Hs w0 F w (X ++ l)
theorem DMs.zero {e : Int} (E : Hs w0 F w l) : DMs w0 F l m0 e (.tuple #[.agg (MC m0 nilV nilV).toArray, i64 e]) w := ⟨nilV, nilV, [], rfl, rds_nil, rds_nil, E⟩
theorem Decode_ok (hW : Wds w0 F) (hs : s.length ≤ 1000000000000) (E : Hs w0 F w l) :
    Ca PP Fn.styx_Decode #[sb s] w fun q w' => DMs w0 F l (dec s).1 (dec s).2 q w' := by
  rw [← decP_dec]
  refine S.styx_Decode.calls ?_
  unfold S.styx_Decode
  (repeat with_reducible (refine StpA.go E ?_; clear E; intro b_ w_ hb_ E))
  (revert b_; intro rb hbrb E)
  refine (length_ok hs E).mono ?_
  clear E
  rintro q w_ ⟨rfl, E⟩
  (repeat with_reducible refine Stp.go ?_)
  rw [mkB_size]
  refine Bi.lss ?_ ?_ <;> intro c1 <;> (repeat with_reducible first | refine Stp.go ?_ | refine StpE.go E ?_)
  · have hP : decP s = (m0, 16) := by unfold decP; rw [if_pos (by omega)]
    rw [hP]
    refine StA.all (vs := MC m0 nilV nilV) E rfl rfl rfl ?_
    clear E
    intro w_ E
    (repeat with_reducible refine StpE.go E ?_)
    exact .zero E.tl
  rw [if_pos (show 4 ≤ s.length by omega)]
  refine Bi.gtr ?_ ?_ <;> intro c2 <;> (repeat with_reducible first | refine Stp.go ?_ | refine StpE.go E ?_)
  · have hP : decP s = (m0, 3) := by unfold decP; rw [if_neg (by omega), if_pos (by omega)]
    rw [hP]
    refine StA.all (vs := MC m0 nilV nilV) E rfl rfl rfl ?_
    clear E
    intro w_ E
    (repeat with_reducible refine StpE.go E ?_)
    exact .zero E.tl
  rw [mkB_size]
  refine Bi.neq ?_ ?_ <;> intro c3 <;> (repeat with_reducible first | refine Stp.go ?_ | refine StpE.go E ?_)
  · have hP : decP s = (m0, 14) := by unfold decP; rw [if_neg (by omega), if_neg (by omega), if_pos (by omega)]
    rw [hP]
    refine StA.all (vs := MC m0 nilV nilV) E rfl rfl rfl ?_
    clear E
    intro w_ E
    (repeat with_reducible refine StpE.go E ?_)
    exact .zero E.tl
  refine SlS.suf (by omega) (by rw [mkB_size]; omega) ?_
  have hsub : (mkB s).extract (4 : Int).toNat (mkB s).size = mkB (s.drop 4) := by
    rw [mkB_ext, mkB_size, List.take_length]; rfl
  rw [hsub]
  refine (NewReader_ok E).mono ?_
  clear E
  rintro q w_ ⟨r, rfl, E⟩
  (repeat with_reducible first | refine Stp.go ?_ | refine StpE.go E ?_ | (refine StpA.go E ?_; clear E; intro b_ w_ hb_ E))
  (revert b_; intro mb hbmb E)
  (revert b_; intro i hbi E)
  (replace E := (((E.bIx 0).bIx 2).bIx 2))
  have hP : decP s = (let k := (i0 (s.drop 4)).num 1
    let t := k.2.num 2
    match fls k.1 with
    | none => (m0, 13)
    | some l =>
      let x := Ip.flds l { m0 with kind := k.1, tag := t.1 } t.2
      if x.2.fin.cut then (m0, 2) else if x.2.bad then (m0, 11) else if x.2.ov then (m0, 3) else (x.1, 0)) := by
    unfold decP; rw [if_neg (by omega), if_neg (by omega), if_neg (by omega)]; rfl
  rw [hP]
  clear hP
  have hlt := num_lt (i0 (s.drop 4)) (k := 1) (by omega)
  refine (inum_ok (I := i0 (s.drop 4)) (k := 1) (off := 0) (by omega) (by simp) ⟨r, s.drop 4, 0, 0, E, Nat.zero_le _, by rw [List.length_drop]; omega, rfl, by simp [i0]⟩).mono ?_
  clear E
  rintro q w_ ⟨rfl, E⟩
  generalize (i0 (s.drop 4)).num 1 = k at E hlt ⊢
  obtain ⟨kd, I1⟩ := k
  simp only [] at E hlt ⊢
  (repeat with_reducible refine Stp.go ?_)
  refine (inum_ok (k := 2) (off := 1) (by omega) (by simp) E).mono ?_
  clear E
  rintro q w_ ⟨rfl, E⟩
  generalize I1.num 2 = tg at E ⊢
  obtain ⟨tg, I2⟩ := tg
  simp only [] at E ⊢
  replace E : IT w0 F i I2 (mA mb { m0 with kind := kd, tag := tg } nilV nilV :: pt rb (oc (MC m0 nilV nilV) Ty.api_Msg) :: l) w_ := E
  obtain ⟨r, t, n, e, E, h⟩ := E
  (repeat with_reducible first | refine Stp.go ?_ | refine StpE.go E ?_)
  refine (known_ok hW (k := (kd : Int)) (by omega) E).mono ?_
  clear E
  rintro q w_ ⟨rfl, E⟩
  cases hfl : fls (kd : Int) with
  | none =>
    refine Un.nt ?_
    (repeat with_reducible first | refine Stp.go ?_ | refine StpE.go E ?_)
    refine StA.all (vs := MC m0 nilV nilV) E rfl rfl rfl ?_
    clear E
    intro w_ E
    (repeat with_reducible refine StpE.go E ?_)
    exact .zero E.tl.tl.tl.tl
  | some fl =>
    refine Un.nf ?_
    (repeat with_reducible refine Stp.go ?_)
    refine (ifields_ok (m := { m0 with kind := kd, tag := tg }) hfl rfl rfl ⟨r, t, n, e, E, h⟩).mono ?_
    clear E h
    rintro q w_ ⟨rfl, nv, qv, X, hN, hQ, E⟩
    simp only []
    generalize Ip.flds fl { m0 with kind := kd, tag := tg } I2 = x at E hN hQ ⊢
    obtain ⟨M, J⟩ := x
    simp only [] at E hN hQ ⊢
    refine (ifinish_ok E).mono ?_
    clear E
    rintro q w_ ⟨rfl, E⟩
    have hf : J.fin.bad = J.bad ∧ J.fin.ov = J.ov := ⟨rfl, rfl⟩
    rw [← hf.1, ← hf.2]
    generalize J.fin = J at E ⊢
    refine (ierr_ok E).mono ?_
    clear E
    rintro q w_ ⟨rfl, r, t, n, e, E, -⟩
    have E2 : Hs w0 F w_ (pt rb (oc (MC m0 nilV nilV) Ty.api_Msg) :: mA mb M nv qv :: (X ++ l)) := by
      refine (E.tl.tl).perm ?_
      exact (List.Perm.cons _ List.perm_middle).trans (List.Perm.swap _ _ _)
    clear E
    have E := E2
    clear E2
    have bad : ∀ e : Int, e ≠ 0 → Bi .neq (i64 e) (.int .i64 0) fun t49 => Cnd t49
        (Bd #[.int .i64 0, .int .i64 0, .int .i64 0, .int .i64 0, .int .i64 0, .int .i64 0, .int .i64 0, .int .i64 0, .int .i64 0, .string ⟨#[]⟩, .string ⟨#[]⟩, .string ⟨#[]⟩, .string ⟨#[]⟩, .slice none 0 0, .slice none 0 0, .string ⟨#[]⟩, .int .i64 0, .int .i64 0, .int .i64 0, .int .i64 0, .int .i64 0, .int .i64 0, .string ⟨#[]⟩, .string ⟨#[]⟩, .string ⟨#[]⟩, .string ⟨#[]⟩, .int .i64 0] [(0, 1), (1, 1), (2, 1), (3, 1), (4, 1), (5, 1), (6, 1), (7, 1), (8, 1), (9, 1), (10, 1), (11, 1), (12, 1), (13, 1), (14, 1), (15, 1), (16, 10), (26, 1)] [] fun t50 =>
          St PP 27 (ptr rb) t50 w_ fun w49 => LdA PP 27 (ptr rb) w49 fun t2 => DMs w0 F l m0 e (.tuple #[t2, i64 e]) w49)
        (LdA PP 27 (ptr mb) w_ fun t52 => St PP 27 (ptr rb) t52 w_ fun w52 => LdA PP 27 (ptr rb) w52 fun t2 => DMs w0 F l m0 e (.tuple #[t2, i64 0]) w52) := by
      intro e he
      refine Bi.neq ?_ (fun h => absurd h he)
      intro _
      (repeat with_reducible first | refine Stp.go ?_ | refine StpE.go E ?_)
      refine StA.all (vs := MC m0 nilV nilV) E rfl rfl rfl ?_
      clear E
      intro w_ E
      (repeat with_reducible refine StpE.go E ?_)
      refine .zero (E.tl.tl.drop (List.sublist_append_right _ _))
    cases hc : J.cut with
    | true =>
      simp only [if_true]
      exact bad 2 (by decide)
    | false =>
      cases hb : J.bad with
      | true =>
        simp only [Bool.false_eq_true, if_false, if_true]
        exact bad 11 (by decide)
      | false =>
        cases hv : J.ov with
        | true =>
          simp only [Bool.false_eq_true, if_false, if_true]
          exact bad 3 (by decide)
        | false =>
          simp only [Bool.false_eq_true, if_false]
          clear bad
          (repeat first | (with_reducible first | refine Stp.go ?_ | refine StpE.go E ?_) | ((with_reducible refine Bi.dec false ?_ ?_); focus exact rfl))
          refine StA.all (vs := MC M nv qv) E rfl rfl ?_ ?_
          · have i1 : scalV nv = true := by obtain ⟨a, c, rfl, _⟩ := hN; rfl
            have i2 : scalV qv = true := by obtain ⟨a, c, rfl, _⟩ := hQ; rfl
            simp only [List.all_cons, List.all_nil, i1, i2, Bool.and_true]
            rfl
          clear E
          intro w_ E
          (repeat with_reducible refine StpE.go E ?_)
          exact ⟨nv, qv, X, rfl, hN, hQ, E.tl.tl⟩
end Go.Proofs.YtmlccboapkkcfaaDoor

/-
  The protocol: messages are compared (chapter 31's Same), lists of names, of Qids and of Dirs too.
-/
namespace Go.Proofs.YtmlccboapkkcfaaDoor
open Go Go.Sh
set_option maxRecDepth 100000
set_option linter.unusedVariables false
set_option linter.unusedSimpArgs false
variable {w0 w : World} {F : Nat → Prop} {l : List As}
theorem take_step {α} {xs ys : List α} {i : Nat} (h : xs.take i = ys.take i) (h1 : i < xs.length) (h2 : i < ys.length) (e : xs[i] = ys[i]) : xs.take (i + 1) = ys.take (i + 1) := by
  rw [List.take_add_one, List.take_add_one, h, List.getElem?_eq_getElem h1, List.getElem?_eq_getElem h2, e]
theorem take_all {α} {xs ys : List α} {i : Nat} (h : xs.take i = ys.take i) (hn : xs.length = ys.length) (hi : xs.length ≤ i) : xs = ys := by
  rw [List.take_of_length_le hi, List.take_of_length_le (by omega)] at h
  exact h
theorem eqStr_ok {u v : Value} {xs ys : List (List UInt8)} (hn : xs.length ≤ 1000000000) (E : Hs w0 F w l) (h1 : RdS w0 F l 1 xs.length u (xs.map sb)) (h2 : RdS w0 F l 1 ys.length v (ys.map sb)) :
    Ca PP Fn.slices_Equal_sl_string_string #[u, v] w fun r w' => r = .bool (decide (xs = ys)) ∧ Hs w0 F w' l := by
  refine S.slices_Equal_sl_string_string.calls ?_
  unfold S.slices_Equal_sl_string_string
  refine h1.len ?_
  refine h2.len ?_
  refine Bi.neq ?_ ?_ <;> intro hne
  · (repeat with_reducible refine Stp.go ?_)
    refine ⟨?_, E⟩
    rw [decide_eq_false]
    rintro rfl
    exact hne rfl
  have hne : xs.length = ys.length := by omega
  (repeat with_reducible refine Stp.go ?_)
  refine h1.len ?_
  refine ⟨fun l1 w1 => ∃ i : Nat, l1 = [i64 i] ∧ i ≤ xs.length ∧ xs.take i = ys.take i ∧ Hs w0 F w1 l, fun l1 _ => match l1 with | [.int _ i] => xs.length - i.toNat | _ => 0, ⟨0, rfl, Nat.zero_le _, rfl, E⟩, ?_⟩
  clear E
  rintro t u1 w1 ⟨i, e, hi, ht, E⟩
  cases e
  refine Bi.lss ?_ ?_ <;> intro hlt <;> (repeat with_reducible first | refine Stp.go ?_ | (refine StpW.go E ?_; clear E; intro w_ E))
  · have g1 : i < xs.length := by omega
    have g2 : i < ys.length := by omega
    have hd : ((xs.map sb).drop (((i : Int)).toNat * 1))[0]? = some (sb xs[i]) := by
      rw [Int.toNat_natCast, Nat.mul_one, List.getElem?_drop, Nat.add_zero, List.getElem?_map, List.getElem?_eq_getElem g1]; rfl
    have hd2 : ((ys.map sb).drop (((i : Int)).toNat * 1))[0]? = some (sb ys[i]) := by
      rw [Int.toNat_natCast, Nat.mul_one, List.getElem?_drop, Nat.add_zero, List.getElem?_map, List.getElem?_eq_getElem g2]; rfl
    refine h1.ix (by omega) (by omega) (by omega) ?_
    intro a ha
    refine ha.ld E hd ?_
    refine h2.ix (by omega) (by omega) (by omega) ?_
    intro a2 ha2
    refine ha2.ld E hd2 ?_
    refine Bi.sneq ?_ ?_ <;> intro hc <;> (repeat with_reducible refine Stp.go ?_)
    · refine ⟨?_, E⟩
      rw [decide_eq_false]
      rintro rfl
      exact hc rfl
    refine Bi.add (by omega) ?_
    exact ⟨⟨i + 1, by simp, by omega, take_step ht g1 g2 (mkB_inj hc), E⟩, by simp only []; omega⟩
  · refine ⟨?_, E⟩
    rw [decide_eq_true (take_all ht hne (by omega))]
abbrev lkQid : List LK := [.int .i64, .int .i64, .int .i64]
theorem lv_Qid : lv PP 20 Ty.api_Qid = some lkQid := by kernel_rfl
theorem st_Qid : isSt PP Ty.api_Qid = true := by kernel_rfl
theorem g_Qid : PP.eqGuardType PP.depth Ty.api_Qid = false := by kernel_rfl
theorem ceq_qid (d e : Qi) : ceqL (qcs d) (qcs e) = decide (d = e) := by
  obtain ⟨a1, a2, a3⟩ := d
  obtain ⟨b1, b2, b3⟩ := e
  simp only [ceqL, ceq_int, Bool.and_true]
  rw [Bool.eq_iff_iff]
  simp only [Bool.and_eq_true, decide_eq_true_eq, Qi.mk.injEq]
theorem eqQid_ok {u v : Value} {xs ys : List Qi} (hn : xs.length ≤ 1000000000) (E : Hs w0 F w l) (h1 : RdS w0 F l 3 xs.length u (qqs xs)) (h2 : RdS w0 F l 3 ys.length v (qqs ys)) :
    Ca PP Fn.slices_Equal_sl_api_Qid_api_Qid #[u, v] w fun r w' => r = .bool (decide (xs = ys)) ∧ Hs w0 F w' l := by
  refine S.slices_Equal_sl_api_Qid_api_Qid.calls ?_
  unfold S.slices_Equal_sl_api_Qid_api_Qid
  refine h1.len ?_
  refine h2.len ?_
  refine Bi.neq ?_ ?_ <;> intro hne
  · (repeat with_reducible refine Stp.go ?_)
    refine ⟨?_, E⟩
    rw [decide_eq_false]
    rintro rfl
    exact hne rfl
  have hne : xs.length = ys.length := by omega
  (repeat with_reducible refine Stp.go ?_)
  refine h1.len ?_
  refine ⟨fun l1 w1 => ∃ i : Nat, l1 = [i64 i] ∧ i ≤ xs.length ∧ xs.take i = ys.take i ∧ Hs w0 F w1 l, fun l1 _ => match l1 with | [.int _ i] => xs.length - i.toNat | _ => 0, ⟨0, rfl, Nat.zero_le _, rfl, E⟩, ?_⟩
  clear E
  rintro t u1 w1 ⟨i, e, hi, ht, E⟩
  cases e
  refine Bi.lss ?_ ?_ <;> intro hlt <;> (repeat with_reducible first | refine Stp.go ?_ | (refine StpW.go E ?_; clear E; intro w_ E))
  · have g1 : i < xs.length := by omega
    have g2 : i < ys.length := by omega
    refine h1.ix (by omega) (by omega) (by omega) ?_
    intro a ha
    rw [Int.toNat_natCast, qqs_at g1] at ha
    refine ha.lda E (m := 3) (ds := qcs xs[i]) rfl rfl (by omega) ?_
    refine h2.ix (by omega) (by omega) (by omega) ?_
    intro a2 ha2
    rw [Int.toNat_natCast, qqs_at g2] at ha2
    refine ha2.lda E (m := 3) (ds := qcs ys[i]) rfl rfl (by omega) ?_
    refine EqS.n lv_Qid st_Qid g_Qid rfl rfl ?_
    rw [ceq_qid]
    by_cases hc : xs[i] = ys[i]
    · rw [decide_eq_true hc, Bool.not_true]
      (repeat with_reducible refine Stp.go ?_)
      refine Bi.add (by omega) ?_
      exact ⟨⟨i + 1, by simp, by omega, take_step ht g1 g2 hc, E⟩, by simp only []; omega⟩
    · rw [decide_eq_false hc, Bool.not_false]
      (repeat with_reducible refine Stp.go ?_)
      refine ⟨?_, E⟩
      rw [decide_eq_false]
      rintro rfl
      exact hc rfl
  · refine ⟨?_, E⟩
    rw [decide_eq_true (take_all ht hne (by omega))]
abbrev dqs (ds : List Di) : List Value := ds.flatMap dcs
end Go.Proofs.YtmlccboapkkcfaaDoor

/-
  The protocol: messages are compared (chapter 31's Same).
-/
namespace Go.Proofs.YtmlccboapkkcfaaDoor
open Go Go.Sh
set_option maxRecDepth 100000
set_option linter.unusedVariables false
set_option linter.unusedSimpArgs false
variable {w0 w : World} {F : Nat → Prop} {l : List As}
theorem Ms.ext' {a b : Ms} (h1 : a.kind = b.kind) (h2 : a.tag = b.tag) (h3 : a.fid = b.fid) (h4 : a.other = b.other) (h5 : a.old = b.old) (h6 : a.size = b.size) (h7 : a.off = b.off) (h8 : a.mode = b.mode) (h9 : a.perm = b.perm)
    (h10 : a.ver = b.ver) (h11 : a.user = b.user) (h12 : a.tree = b.tree) (h13 : a.name = b.name) (h14 : a.names = b.names) (h15 : a.qids = b.qids) (h16 : a.data = b.data) (h17 : a.dir = b.dir) (h18 : a.code = b.code) : a = b := by
  cases a; cases b
  simp only at *
  subst h1 h2 h3 h4 h5 h6 h7 h8 h9 h10 h11 h12 h13 h14 h15 h16 h17 h18
  rfl
theorem Same_ok {a b : Ms} {n1 q1 n2 q2 : Value} (hn : a.names.length ≤ 1000000000) (hq : a.qids.length ≤ 1000000000) (E : Hs w0 F w l)
    (h1 : RdS w0 F l 1 a.names.length n1 (a.names.map sb)) (h2 : RdS w0 F l 3 a.qids.length q1 (qqs a.qids)) (h3 : RdS w0 F l 1 b.names.length n2 (b.names.map sb)) (h4 : RdS w0 F l 3 b.qids.length q2 (qqs b.qids)) :
    Ca PP Fn.law31_Same #[.agg (MC a n1 q1).toArray, .agg (MC b n2 q2).toArray] w fun r w' => r = .bool (decide (a = b)) ∧ Hs w0 F w' l := by
  refine S.law31_Same.calls ?_
  unfold S.law31_Same
  have i1 : Scal n1 := ⟨by obtain ⟨a, c, rfl, _⟩ := h1; rfl⟩
  have i2 : Scal q1 := ⟨by obtain ⟨a, c, rfl, _⟩ := h2; rfl⟩
  have i3 : Scal n2 := ⟨by obtain ⟨a, c, rfl, _⟩ := h3; rfl⟩
  have i4 : Scal q2 := ⟨by obtain ⟨a, c, rfl, _⟩ := h4; rfl⟩
  (repeat with_reducible (refine StpA.go E ?_; clear E; intro b_ w_ hb_ E))
  (intro J5 hJ5)
  (repeat with_reducible first | refine Stp.go ?_ | refine StpE.go E ?_)
  refine (eqStr_ok hn E ((h1.cons _).cons _) ((h3.cons _).cons _)).mono ?_
  clear E
  rintro r w_ ⟨rfl, E⟩
  by_cases c0 : a.names = b.names
  rotate_left
  · rw [decide_eq_false c0]
    (repeat with_reducible first | refine Stp.go ?_ | (apply hJ5; intro u_))
    refine ⟨?_, E.tl.tl⟩
    rw [decide_eq_false (fun h => c0 (by rw [h]))]
  rw [decide_eq_true c0]
  (repeat with_reducible first | refine Stp.go ?_ | refine StpE.go E ?_)
  refine (eqQid_ok hq E ((h2.cons _).cons _) ((h4.cons _).cons _)).mono ?_
  clear E
  rintro r w_ ⟨rfl, E⟩
  by_cases c1 : a.qids = b.qids
  rotate_left
  · rw [decide_eq_false c1]
    (repeat with_reducible first | refine Stp.go ?_ | (apply hJ5; intro u_))
    refine ⟨?_, E.tl.tl⟩
    rw [decide_eq_false (fun h => c1 (by rw [h]))]
  rw [decide_eq_true c1]
  (repeat with_reducible first | refine Stp.go ?_ | (apply hJ5; intro u_))
  (intro J9 hJ9)
  (repeat with_reducible first | refine Stp.go ?_ | refine StpE.go E ?_)
  refine Bi.eql (fun ckind => ?_) (fun ckind => ?_)
  rotate_left
  · (repeat with_reducible first | refine Stp.go ?_ | (apply hJ9; intro u_))
    refine ⟨?_, E.tl.tl⟩
    rw [decide_eq_false (fun h => ckind (by rw [h]))]
  (repeat with_reducible first | refine Stp.go ?_ | refine StpE.go E ?_)
  refine Bi.eql (fun ctag => ?_) (fun ctag => ?_)
  rotate_left
  · (repeat with_reducible first | refine Stp.go ?_ | (apply hJ9; intro u_))
    refine ⟨?_, E.tl.tl⟩
    rw [decide_eq_false (fun h => ctag (by rw [h]))]
  (repeat with_reducible first | refine Stp.go ?_ | refine StpE.go E ?_)
  refine Bi.eql (fun cfid => ?_) (fun cfid => ?_)
  rotate_left
  · (repeat with_reducible first | refine Stp.go ?_ | (apply hJ9; intro u_))
    refine ⟨?_, E.tl.tl⟩
    rw [decide_eq_false (fun h => cfid (by rw [h]))]
  (repeat with_reducible first | refine Stp.go ?_ | refine StpE.go E ?_)
  refine Bi.eql (fun cother => ?_) (fun cother => ?_)
  rotate_left
  · (repeat with_reducible first | refine Stp.go ?_ | (apply hJ9; intro u_))
    refine ⟨?_, E.tl.tl⟩
    rw [decide_eq_false (fun h => cother (by rw [h]))]
  (repeat with_reducible first | refine Stp.go ?_ | refine StpE.go E ?_)
  refine Bi.eql (fun cold => ?_) (fun cold => ?_)
  rotate_left
  · (repeat with_reducible first | refine Stp.go ?_ | (apply hJ9; intro u_))
    refine ⟨?_, E.tl.tl⟩
    rw [decide_eq_false (fun h => cold (by rw [h]))]
  (repeat with_reducible first | refine Stp.go ?_ | refine StpE.go E ?_)
  refine Bi.eql (fun csize => ?_) (fun csize => ?_)
  rotate_left
  · (repeat with_reducible first | refine Stp.go ?_ | (apply hJ9; intro u_))
    refine ⟨?_, E.tl.tl⟩
    rw [decide_eq_false (fun h => csize (by rw [h]))]
  (repeat with_reducible first | refine Stp.go ?_ | refine StpE.go E ?_)
  refine Bi.eql (fun coff => ?_) (fun coff => ?_)
  rotate_left
  · (repeat with_reducible first | refine Stp.go ?_ | (apply hJ9; intro u_))
    refine ⟨?_, E.tl.tl⟩
    rw [decide_eq_false (fun h => coff (by rw [h]))]
  (repeat with_reducible first | refine Stp.go ?_ | refine StpE.go E ?_)
  refine Bi.eql (fun cmode => ?_) (fun cmode => ?_)
  rotate_left
  · (repeat with_reducible first | refine Stp.go ?_ | (apply hJ9; intro u_))
    refine ⟨?_, E.tl.tl⟩
    rw [decide_eq_false (fun h => cmode (by rw [h]))]
  (repeat with_reducible first | refine Stp.go ?_ | refine StpE.go E ?_)
  refine Bi.eql (fun cperm => ?_) (fun cperm => ?_)
  rotate_left
  · (repeat with_reducible first | refine Stp.go ?_ | (apply hJ9; intro u_))
    refine ⟨?_, E.tl.tl⟩
    rw [decide_eq_false (fun h => cperm (by rw [h]))]
  (repeat with_reducible first | refine Stp.go ?_ | refine StpE.go E ?_)
  refine Bi.seql (fun cver => ?_) (fun cver => ?_)
  rotate_left
  · (repeat with_reducible first | refine Stp.go ?_ | (apply hJ9; intro u_))
    refine ⟨?_, E.tl.tl⟩
    rw [decide_eq_false (fun h => cver (by rw [h]))]
  (repeat with_reducible first | refine Stp.go ?_ | refine StpE.go E ?_)
  refine Bi.seql (fun cuser => ?_) (fun cuser => ?_)
  rotate_left
  · (repeat with_reducible first | refine Stp.go ?_ | (apply hJ9; intro u_))
    refine ⟨?_, E.tl.tl⟩
    rw [decide_eq_false (fun h => cuser (by rw [h]))]
  (repeat with_reducible first | refine Stp.go ?_ | refine StpE.go E ?_)
  refine Bi.seql (fun ctree => ?_) (fun ctree => ?_)
  rotate_left
  · (repeat with_reducible first | refine Stp.go ?_ | (apply hJ9; intro u_))
    refine ⟨?_, E.tl.tl⟩
    rw [decide_eq_false (fun h => ctree (by rw [h]))]
  (repeat with_reducible first | refine Stp.go ?_ | refine StpE.go E ?_)
  refine Bi.seql (fun cname => ?_) (fun cname => ?_)
  rotate_left
  · (repeat with_reducible first | refine Stp.go ?_ | (apply hJ9; intro u_))
    refine ⟨?_, E.tl.tl⟩
    rw [decide_eq_false (fun h => cname (by rw [h]))]
  (repeat with_reducible first | refine Stp.go ?_ | refine StpE.go E ?_)
  refine Bi.seql (fun cdata => ?_) (fun cdata => ?_)
  rotate_left
  · (repeat with_reducible first | refine Stp.go ?_ | (apply hJ9; intro u_))
    refine ⟨?_, E.tl.tl⟩
    rw [decide_eq_false (fun h => cdata (by rw [h]))]
  (repeat with_reducible first | refine Stp.go ?_ | refine StpE.go E ?_)
  refine EqS.e (xs := dcs a.dir) (ys := dcs b.dir) lv_Dir st_Dir g_Dir rfl rfl ?_
  rw [ceq_dir]
  by_cases cdir : a.dir = b.dir
  rotate_left
  · rw [decide_eq_false cdir]
    (repeat with_reducible first | refine Stp.go ?_ | (apply hJ9; intro u_))
    refine ⟨?_, E.tl.tl⟩
    rw [decide_eq_false (fun h => cdir (by rw [h]))]
  rw [decide_eq_true cdir]
  (repeat with_reducible first | refine Stp.go ?_ | refine StpE.go E ?_)
  refine Bi.eql (fun ccode => ?_) (fun ccode => ?_)
  rotate_left
  · (repeat with_reducible first | refine Stp.go ?_ | (apply hJ9; intro u_))
    refine ⟨?_, E.tl.tl⟩
    rw [decide_eq_false (fun h => ccode (by rw [h]))]
  (repeat with_reducible first | refine Stp.go ?_ | (apply hJ9; intro u_))
  refine ⟨?_, E.tl.tl⟩
  rw [decide_eq_true]
  exact Ms.ext' ckind ctag cfid cother cold csize coff cmode cperm (mkB_inj cver) (mkB_inj cuser) (mkB_inj ctree) (mkB_inj cname) c0 c1 (mkB_inj cdata) cdir ccode
end Go.Proofs.YtmlccboapkkcfaaDoor

/-
  The protocol: the examples of the chapter (chapter 31's awake).
-/
namespace Go.Proofs.YtmlccboapkkcfaaDoor
open Go Go.Sh
set_option maxRecDepth 100000
set_option linter.unusedVariables false
set_option linter.unusedSimpArgs false
variable {w0 w : World} {F : Nat → Prop} {l : List As}
abbrev aM1 : Ms := { m0 with kind := 120, tag := 1, fid := 2 }
abbrev aM2 : Ms := { m0 with kind := 107, tag := 65535, code := 4 }
abbrev aM3 : Ms := { m0 with kind := 110, tag := 258, fid := 1, other := 2, names := [[97]] }
abbrev aS3 : List UInt8 := [20, 0, 0, 0, 110, 2, 1, 1, 0, 0, 0, 2, 0, 0, 0, 1, 0, 1, 0, 97]
theorem aw1 : enc aM1 = ([11, 0, 0, 0, 120, 1, 0, 2, 0, 0, 0], 0) := by kernel_rfl
theorem aw2 : enc aM2 = ([9, 0, 0, 0, 107, 255, 255, 4, 0], 0) := by kernel_rfl
theorem aw3 : dec aS3 = (aM3, 0) := by kernel_rfl
theorem nm_string : el3 PP Ty.string = some (some (.string ⟨#[]⟩), 1, 16) := by kernel_rfl
theorem u_names : PP.underlying Ty.sl_string = some (.slice Ty.string) := by kernel_rfl
theorem ok_lit {m : Ms} (h1 : m.qids = []) (h2 : m.dir = d0) (h3 : -9223372036854775808 ≤ m.off ∧ m.off ≤ 9223372036854775807 := by decide) : m.Ok := by
  refine ⟨h3, ?_, ?_⟩
  · rw [h1]; intro q h; cases h
  · rw [h2]; unfold Di.Ok Qi.Ok; decide
theorem mi1 : MI w0 F l aM1 nilV nilV := { ok := ok_lit (by decide) (by decide), rg := by unfold rngI; decide, kd := by decide, n1 := by decide, q1 := by decide, zn := by decide, zs := by decide, zd := by decide, rn := rds_nil, rq := rds_nil }
theorem mi2 : MI w0 F l aM2 nilV nilV := { ok := ok_lit (by decide) (by decide), rg := by unfold rngI; decide, kd := by decide, n1 := by decide, q1 := by decide, zn := by decide, zs := by decide, zd := by decide, rn := rds_nil, rq := rds_nil }
theorem awake_ok (hW : Wds w0 F) (E : Hs w0 F w l) : Ca PP Fn.law31_awake #[] w fun r w' => r = .bool true ∧ Hs w0 F w' l := by
  refine S.law31_awake.calls ?_
  unfold S.law31_awake
  (repeat with_reducible refine StpE.go E ?_)
  refine (Encode_ok hW (m := aM1) mi1 E).mono ?_
  clear E
  rintro r w_ ⟨rfl, E⟩
  rw [aw1]
  (repeat with_reducible first | refine Stp.go ?_ | refine StpE.go E ?_)
  refine (Encode_ok hW (m := aM2) mi2 E).mono ?_
  clear E
  rintro r w_ ⟨rfl, E⟩
  rw [aw2]
  (repeat with_reducible refine Stp.go ?_)
  refine (Decode_ok hW (s := aS3) (by decide) E).mono ?_
  clear E
  rintro r w_ ⟨nv, qv, X, rfl, h1, h2, E⟩
  rw [aw3] at h1 h2 ⊢
  dsimp only at h1 h2 ⊢
  have i1 : scalV nv = true := by obtain ⟨a, c, rfl, _⟩ := h1; rfl
  have i2 : scalV qv = true := by obtain ⟨a, c, rfl, _⟩ := h2; rfl
  (repeat with_reducible first | refine Stp.go ?_ | (refine StpA.go E ?_; clear E; intro b_ w_ hb_ E))
  refine StA.all (vs := MC aM3 nv qv) E rfl rfl ?_ ?_
  · simp only [List.all_cons, List.all_nil, i1, i2, Bool.and_true]
    rfl
  clear E
  intro w_ E
  skip
  (intro J18 hJ18)
  have fin : ∀ b w_, b = true → Hs w0 F w_ l → J18 [.bool b] w_ := by
    rintro b w_ rfl h
    (repeat with_reducible (apply hJ18; intro u_))
    exact ⟨rfl, h⟩
  clear hJ18
  (repeat first | (with_reducible first | refine Stp.go ?_ | refine StpE.go E ?_) | ((with_reducible refine Bi.dec true ?_ ?_); focus exact rfl) | ((with_reducible refine Bi.sdec true ?_ ?_); focus decide))
  refine BdS.one E u_names nm_string rfl ?_
  clear E
  intro v w_ E
  (repeat with_reducible first | refine Stp.go ?_ | refine StpE.go E ?_)
  have hv := RdS.sl (T := Ty.string) (v := v) (sz := 1) (xs := [sb [97]]) List.mem_cons_self (by omega) E
  refine (Same_ok (a := aM3) (b := aM3) (n1 := nv) (q1 := qv) (n2 := v) (q2 := nilV) (by decide) (by decide) E (h1.weaken fun _ E => E.tl.tl.drop (List.sublist_append_left _ _)) (h2.weaken fun _ E => E.tl.tl.drop (List.sublist_append_left _ _)) hv rds_nil).mono ?_
  clear E
  rintro r w_ ⟨rfl, E⟩
  (repeat with_reducible refine Stp.go ?_)
  refine fin _ _ (decide_eq_true rfl) (E.tl.tl.drop (List.sublist_append_right _ _))
end Go.Proofs.YtmlccboapkkcfaaDoor

/-
  The protocol: Frames.
-/
namespace Go.Proofs.YtmlccboapkkcfaaDoor
open Go Go.Sh
set_option maxRecDepth 100000
set_option linter.unusedVariables false
set_option linter.unusedSimpArgs false
variable {w0 w : World} {F : Nat → Prop} {l : List As}
/-- What frames of a rest are behind these. -/
def frW (done : List (List UInt8)) (x : List (List UInt8) × List UInt8 × Int) : List (List UInt8) × List UInt8 × Int := if x.2.2 = 0 then (done ++ x.1, x.2.1, 0) else ([], [], x.2.2)
theorem fr_err {s : List UInt8} (h : (fr s).2.2 ≠ 0) : fr s = ([], [], (fr s).2.2) := by
  have hq := fr_eq s
  rw [hq] at h ⊢
  split at h
  · exact absurd rfl h
  rename_i h1
  rw [if_neg h1]
  split at h
  · rename_i h2; rw [if_pos h2]
  rename_i h2
  rw [if_neg h2]
  split at h
  · rename_i h3; rw [if_pos h3]
  rename_i h3
  rw [if_neg h3]
  split at h
  · exact absurd rfl h
  rename_i h4
  rw [if_neg h4]
  simp only [] at h ⊢
  split at h
  · exact absurd rfl h
  · rename_i h5; rw [if_neg h5]
theorem mkB_take (s : List UInt8) (n : Nat) : (mkB s).extract 0 n = mkB (s.take n) := by
  rw [mkB_ext, List.drop_zero]
theorem mkB_drop (s : List UInt8) (n : Nat) : (mkB s).extract n (mkB s).size = mkB (s.drop n) := by
  rw [mkB_ext, mkB_size, List.take_length]
theorem Frames_ok {s : List UInt8} (hs : s.length ≤ 1000000000000) (E : Hs w0 F w l) :
    Ca PP Fn.styx_Frames #[sb s] w fun q w' => ∃ v X, q = .tuple #[v, sb (fr s).2.1, i64 (fr s).2.2] ∧ RdS w0 F X 1 (fr s).1.length v ((fr s).1.map sb) ∧ Hs w0 F w' (X ++ l) := by
  refine S.styx_Frames.calls ?_
  unfold S.styx_Frames
  refine ⟨fun l1 w1 => ∃ (t : List UInt8) (v : Value) (done : List (List UInt8)), l1 = [sb t, v] ∧ fr s = frW done (fr t) ∧ done.length + t.length ≤ s.length ∧ Hs w0 F w1 (slA v Ty.string 1 (done.map sb) :: l),
    fun l1 _ => match l1 with | [.string t, _] => t.size | _ => 0, ⟨s, nilV, [], rfl, ?_, by simp, E.nilSl Ty.string 1⟩, ?_⟩
  · unfold frW
    split
    · rename_i h; rw [← h]; rfl
    · rename_i h
      have := fr_err h
      rw [← this]
  clear E
  rintro t0 t5 u1 w1 ⟨t, v, done, e, hf, hl, E⟩
  cases e
  have out : ∀ w_, fr t = ([], t, 0) → Hs w0 F w_ (slA t5 Ty.string 1 (done.map sb) :: l) → ∃ v' X, (Value.tuple #[t5, sb t, i64 0]) = .tuple #[v', sb (fr s).2.1, i64 (fr s).2.2] ∧ RdS w0 F X 1 (fr s).1.length v' ((fr s).1.map sb) ∧ Hs w0 F w_ (X ++ l) := by
    intro w_ h E
    rw [hf, h]
    unfold frW
    simp only [if_true, List.append_nil]
    refine ⟨t5, [slA t5 Ty.string 1 (done.map sb)], rfl, ?_, E⟩
    have := RdS.sl (T := Ty.string) (v := t5) (sz := 1) (xs := done.map sb) (l := [slA t5 Ty.string 1 (done.map sb)]) List.mem_cons_self (by omega) (E.drop (.cons_cons _ (List.nil_sublist _)))
    rw [List.length_map, Nat.div_one] at this
    exact this
  have bad : ∀ w_ e, e ≠ 0 → fr t = ([], [], e) → Hs w0 F w_ (slA t5 Ty.string 1 (done.map sb) :: l) → ∃ v' X, (Value.tuple #[nilV, sb [], i64 e]) = .tuple #[v', sb (fr s).2.1, i64 (fr s).2.2] ∧ RdS w0 F X 1 (fr s).1.length v' ((fr s).1.map sb) ∧ Hs w0 F w_ (X ++ l) := by
    intro w_ e he h E
    rw [hf, h]
    unfold frW
    simp only [he, if_false]
    exact ⟨nilV, [], rfl, rds_nil, E.tl⟩
  have hq := fr_eq t
  have ht : t.length ≤ 1000000000000 := by omega
  (repeat with_reducible refine Stp.go ?_)
  refine Bi.geq ?_ ?_ <;> intro c1 <;> (repeat with_reducible refine Stp.go ?_)
  · rw [mkB_size] at c1
    have h4 : ¬ t.length < 4 := by omega
    rw [if_neg h4] at hq
    refine (length_ok ht E).mono ?_
    clear E
    rintro q w_ ⟨rfl, E⟩
    rw [if_pos (by omega : 4 ≤ t.length)]
    generalize hn : un (t.take 4) = n at hq ⊢
    refine Bi.gtr ?_ ?_ <;> intro c2 <;> (repeat with_reducible refine Stp.go ?_)
    · rw [if_pos (by omega)] at hq
      exact bad _ 3 (by decide) hq E
    rw [if_neg (by omega)] at hq
    refine Bi.lss ?_ ?_ <;> intro c3 <;> (repeat with_reducible refine Stp.go ?_)
    · rw [if_pos (by omega)] at hq
      exact bad _ 14 (by decide) hq E
    rw [if_neg (by omega)] at hq
    refine Bi.gtr ?_ ?_ <;> intro c4 <;> (repeat with_reducible first | refine Stp.go ?_ | (refine StpW.go E ?_; clear E; intro w_ E))
    · rw [mkB_size] at c4
      rw [if_pos (by omega)] at hq
      exact out _ hq E
    rw [mkB_size] at c4
    rw [if_neg (by omega)] at hq
    refine SlS.pre (by omega) (by rw [mkB_size]; omega) ?_
    refine SlS.suf (by omega) (by rw [mkB_size]; omega) ?_
    rw [Int.toNat_natCast, mkB_take, mkB_drop]
    refine BdS.one E u_names nm_string rfl ?_
    clear E
    intro v2 w_ E
    refine Ap.one E (i := 1) rfl u_names ⟨_, u_names, fun _ h => by cases h⟩ nm_string (Src.one E (by (first | assumption | exact FPt.mem | exact FMp.mem | exact FSl.mem | (repeat (first | assumption | with_reducible exact List.mem_cons_self | refine List.mem_cons_of_mem _ ?_)))) rfl) rfl (by rw [List.length_map]; simp only [List.length_cons, List.length_nil]; omega) (by rw [List.length_map]; simp only [List.length_cons, List.length_nil]; omega) ?_
    clear E
    intro v3 w_ E
    (try simp only [List.set_cons_zero, List.set_cons_succ, List.cons_append, List.nil_append, Nat.zero_add, Nat.add_zero] at E)
    refine ⟨⟨t.drop n, v3, done ++ [t.take n], rfl, ?_, ?_, ?_⟩, ?_⟩
    · rw [hf, hq]
      unfold frW
      simp only []
      split
      · rename_i h
        rw [if_pos rfl, List.append_assoc]; rfl
      · rfl
    · rw [List.length_append, List.length_drop]; simp only [List.length_cons, List.length_nil]; omega
    · rw [List.map_append]
      exact E.tl
    · simp only [mkB_size, List.length_drop]; omega
  · rw [mkB_size] at c1
    rw [if_pos (by omega)] at hq
    exact out _ hq E
end Go.Proofs.YtmlccboapkkcfaaDoor

/-
  The protocol: how great a message may be (chapter 31's Few).
-/
namespace Go.Proofs.YtmlccboapkkcfaaDoor
open Go Go.Sh
set_option maxRecDepth 100000
set_option linter.unusedVariables false
set_option linter.unusedSimpArgs false
variable {w0 w : World} {F : Nat → Prop} {l : List As}
def droom (d : Di) : Nat := d.name.length + d.owner.length + d.group.length + d.last.length
def msz (m : Ms) : Nat := m.ver.length + m.user.length + m.tree.length + m.name.length + m.data.length + droom m.dir
def few (m : Ms) : Bool := decide (m.names.length ≤ 40) && decide (m.qids.length ≤ 40) && decide (msz m + (m.names.map List.length).sum ≤ 20000)
/-- No text of a message is greater than this. -/
structure MB (m : Ms) : Prop where
  t : m.ver.length ≤ 140737488355328 ∧ m.user.length ≤ 140737488355328 ∧ m.tree.length ≤ 140737488355328 ∧ m.name.length ≤ 140737488355328 ∧ m.data.length ≤ 140737488355328
  d : m.dir.name.length ≤ 140737488355328 ∧ m.dir.owner.length ≤ 140737488355328 ∧ m.dir.group.length ≤ 140737488355328 ∧ m.dir.last.length ≤ 140737488355328
  n : ∀ s ∈ m.names, s.length ≤ 140737488355328
theorem room_ok {d : Di} (h : d.name.length ≤ 140737488355328 ∧ d.owner.length ≤ 140737488355328 ∧ d.group.length ≤ 140737488355328 ∧ d.last.length ≤ 140737488355328) (E : Hs w0 F w l) :
    Ca PP Fn.law31_room #[.agg (dcs d).toArray] w fun r w' => r = i64 (droom d : Nat) ∧ Hs w0 F w' l := by
  refine S.law31_room.calls ?_
  unfold S.law31_room
  (repeat with_reducible first | refine Stp.go ?_ | refine StpE.go E ?_ | (refine StpA.go E ?_; clear E; intro b_ w_ hb_ E))
  refine Bi.add (by simp only [mkB_size]; omega) ?_
  (repeat with_reducible first | refine Stp.go ?_ | refine StpE.go E ?_)
  refine Bi.add (by simp only [mkB_size]; omega) ?_
  (repeat with_reducible first | refine Stp.go ?_ | refine StpE.go E ?_)
  refine Bi.add (by simp only [mkB_size]; omega) ?_
  skip
  refine ⟨?_, E.tl⟩
  unfold droom
  simp only [mkB_size]
  congr 1
theorem take_sum {xs : List (List UInt8)} {i : Nat} (h : i < xs.length) : ((xs.take (i + 1)).map List.length).sum = ((xs.take i).map List.length).sum + xs[i].length := by
  rw [List.take_add_one, List.getElem?_eq_getElem h, List.map_append, List.sum_append]
  simp only [Option.toList, List.map_cons, List.map_nil, List.sum_cons, List.sum_nil, Nat.add_zero]
theorem take_bound {xs : List (List UInt8)} (h : ∀ s ∈ xs, s.length ≤ 140737488355328) (i : Nat) : ((xs.take i).map List.length).sum ≤ i * 140737488355328 := by
  induction xs generalizing i with
  | nil => simp
  | cons x r ih =>
    cases i with
    | zero => simp
    | succ i =>
      have h1 := ih (fun s hs => h s (List.mem_cons_of_mem _ hs)) i
      have h2 := h x List.mem_cons_self
      rw [List.take_succ_cons, List.map_cons, List.sum_cons]
      omega
theorem Few_ok {m : Ms} {nv qv : Value} (hb : MB m) (h1 : RdS w0 F l 1 m.names.length nv (m.names.map sb)) (h2 : RdS w0 F l 3 m.qids.length qv (qqs m.qids)) (E : Hs w0 F w l) :
    Ca PP Fn.law31_Few #[.agg (MC m nv qv).toArray] w fun r w' => r = .bool (few m) ∧ Hs w0 F w' l := by
  refine S.law31_Few.calls ?_
  unfold S.law31_Few
  obtain ⟨b1, b2, b3, b4, b5⟩ := hb.t
  obtain ⟨b6, b7, b8, b9⟩ := hb.d
  have i1 : Scal nv := ⟨by obtain ⟨a, c, rfl, _⟩ := h1; rfl⟩
  have i2 : Scal qv := ⟨by obtain ⟨a, c, rfl, _⟩ := h2; rfl⟩
  (repeat with_reducible first | refine Stp.go ?_ | refine StpE.go E ?_ | (refine StpW.go E ?_; clear E; intro w_ E) | (refine StpA.go E ?_; clear E; intro b_ w_ hb_ E))
  refine Bi.add (by simp only [mkB_size]; omega) ?_
  (repeat with_reducible first | refine Stp.go ?_ | refine StpE.go E ?_)
  refine Bi.add (by simp only [mkB_size]; omega) ?_
  (repeat with_reducible first | refine Stp.go ?_ | refine StpE.go E ?_)
  refine Bi.add (by simp only [mkB_size]; omega) ?_
  (repeat with_reducible first | refine Stp.go ?_ | refine StpE.go E ?_)
  refine Bi.add (by simp only [mkB_size]; omega) ?_
  (repeat with_reducible first | refine Stp.go ?_ | refine StpE.go E ?_)
  refine (room_ok (d := m.dir) ⟨b6, b7, b8, b9⟩ E).mono ?_
  clear E
  rintro r w_ ⟨rfl, E⟩
  refine ⟨?_, ?_, ?_, ?_, ?_, ?_⟩
  · (repeat with_reducible refine StpE.go E ?_)
    rfl
  · (repeat with_reducible refine StpE.go E ?_)
    rfl
  · (repeat with_reducible refine StpE.go E ?_)
    rfl
  · (repeat with_reducible refine StpE.go E ?_)
    rfl
  · (repeat with_reducible refine StpE.go E ?_)
    rfl
  have hr : droom m.dir ≤ 4 * 140737488355328 := by unfold droom; omega
  refine Bi.add (by simp only [mkB_size]; omega) ?_
  rw [show ((mkB m.ver).size : Int) + (mkB m.user).size + (mkB m.tree).size + (mkB m.name).size + (mkB m.data).size + (droom m.dir : Nat) = (msz m : Nat) by unfold msz; simp only [mkB_size]; omega]
  have hz : msz m ≤ 9 * 140737488355328 := by unfold msz; omega
  (intro J33 hJ33)
  (repeat with_reducible first | refine Stp.go ?_ | refine StpE.go E ?_)
  refine h1.len ?_
  refine Bi.gtr ?_ ?_ <;> intro c1 <;> (repeat with_reducible first | refine Stp.go ?_ | refine StpE.go E ?_ | (apply hJ33; intro u_))
  · refine ⟨?_, E.tl⟩
    unfold few
    rw [decide_eq_false (by omega : ¬ m.names.length ≤ 40)]; rfl
  refine h2.len ?_
  (repeat with_reducible refine Stp.go ?_)
  refine Bi.gtr ?_ ?_ <;> intro c2 <;> (repeat with_reducible first | refine Stp.go ?_ | refine StpE.go E ?_ | (apply hJ33; intro u_))
  · refine ⟨?_, E.tl⟩
    unfold few
    rw [decide_eq_false (by omega : ¬ m.qids.length ≤ 40), Bool.and_false]; rfl
  refine h1.len ?_
  refine ⟨fun l1 w1 => ∃ i : Nat, l1 = [i64 ((msz m + ((m.names.take i).map List.length).sum : Nat) : Int), i64 i] ∧ i ≤ m.names.length ∧ Hs w0 F w1 (pt b_ (oc (MC m nv qv) Ty.api_Msg) :: l), fun l1 _ => match l1 with | [_, .int _ i] => m.names.length - i.toNat | _ => 0, ⟨0, rfl, Nat.zero_le _, E⟩, ?_⟩
  clear E
  rintro t3 t42 u1 w1 ⟨i, e, hi, E⟩
  cases e
  refine Bi.lss ?_ ?_ <;> intro hlt <;> (repeat with_reducible refine Stp.go ?_)
  · have g1 : i < m.names.length := by omega
    have hd : ((m.names.map sb).drop (((i : Int)).toNat * 1))[0]? = some (sb m.names[i]) := by
      rw [Int.toNat_natCast, Nat.mul_one, List.getElem?_drop, Nat.add_zero, List.getElem?_map, List.getElem?_eq_getElem g1]; rfl
    refine (h1.cons (pt b_ (oc (MC m nv qv) Ty.api_Msg))).ix (by omega) (by omega) (by omega) ?_
    intro a ha
    refine ha.ld E hd ?_
    (repeat with_reducible refine Stp.go ?_)
    have hs := take_bound hb.n i
    have hx := hb.n m.names[i] (List.getElem_mem g1)
    have ht := take_sum g1
    have hi2 : i * 140737488355328 ≤ 40 * 140737488355328 := Nat.mul_le_mul_right _ (by omega)
    refine Bi.add (by simp only [mkB_size]; omega) ?_
    refine Bi.add (by omega) ?_
    refine ⟨⟨i + 1, ?_, by omega, E⟩, by simp only []; omega⟩
    rw [ht, mkB_size]
    have e1 : ((msz m + ((m.names.take i).map List.length).sum : Nat) : Int) + (m.names[i].length : Nat) = ((msz m + (((m.names.take i).map List.length).sum + m.names[i].length) : Nat) : Int) := by omega
    rw [e1]
    rfl
  · have : m.names.take i = m.names := List.take_of_length_le (by omega)
    rw [this]
    refine Bi.leq ?_ ?_ <;> intro c3
    · refine ⟨?_, E.tl⟩
      unfold few
      rw [decide_eq_true (by omega : m.names.length ≤ 40), decide_eq_true (by omega : m.qids.length ≤ 40), decide_eq_true (by omega)]; rfl
    · refine ⟨?_, E.tl⟩
      unfold few
      rw [decide_eq_true (by omega : m.names.length ≤ 40), decide_eq_true (by omega : m.qids.length ≤ 40), decide_eq_false (by omega)]; rfl
end Go.Proofs.YtmlccboapkkcfaaDoor

/-
  The protocol: what Encode returns for a valid message, Decode decodes to this message; different messages have different encodings (the laws StyxReturns and StyxApart).
-/
namespace Go.Proofs.YtmlccboapkkcfaaDoor
open Go Go.Sh
set_option maxRecDepth 100000
set_option linter.unusedVariables false
set_option linter.unusedSimpArgs false
variable {w0 w : World} {F : Nat → Prop} {l : List As}
/-- A message that is handed in. -/
structure MA (w0 : World) (F : Nat → Prop) (m : Ms) (nv qv : Value) : Prop where
  ok : m.Ok
  rg : rngI m.fid ∧ rngI m.other ∧ rngI m.old ∧ rngI m.size ∧ rngI m.mode ∧ rngI m.perm ∧ rngI m.code
  kd : -9223372036854775808 ≤ m.kind ∧ m.kind ≤ 9223372036854775807
  b : MB m
  rn : ∀ l, RdS w0 F l 1 m.names.length nv (m.names.map sb)
  rq : ∀ l, RdS w0 F l 3 m.qids.length qv (qqs m.qids)
theorem few_all {m : Ms} (h : few m = true) : m.names.length ≤ 40 ∧ m.qids.length ≤ 40 ∧ msz m ≤ 20000 := by
  unfold few at h
  simp only [Bool.and_eq_true, decide_eq_true_eq] at h
  omega
theorem MA.mi {m : Ms} {nv qv : Value} (M : MA w0 F m nv qv) (h : few m = true) (l : List As) : MI w0 F l m nv qv := by
  obtain ⟨f1, f2, f3⟩ := few_all h
  obtain ⟨d1, d2, d3, d4⟩ := M.b.d
  unfold msz droom at f3
  exact { ok := M.ok, rg := M.rg, kd := M.kd, n1 := by omega, q1 := by omega, zn := fun s hs => by have := M.b.n s hs; omega, zs := by omega, zd := by omega, rn := M.rn l, rq := M.rq l }
theorem enc_two (m : Ms) : (enc m).2 = chk m := by
  unfold enc
  split
  · rename_i h; rw [h]
  · rfl
end Go.Proofs.YtmlccboapkkcfaaDoor

/-
  The protocol: lists of messages are compared; a stream that is cut anywhere.
-/
namespace Go.Proofs.YtmlccboapkkcfaaDoor
open Go Go.Sh
set_option maxRecDepth 100000
set_option linter.unusedVariables false
set_option linter.unusedSimpArgs false
variable {w0 w : World} {F : Nat → Prop} {l : List As}
/-- A message in memory: with the values of its two lists. -/
abbrev M3 := Ms × Value × Value
abbrev mcs (x : M3) : List Value := MC x.1 x.2.1 x.2.2
abbrev mms (xs : List M3) : List Value := xs.flatMap mcs
/-- Its lists can be read. -/
def MR (w0 : World) (F : Nat → Prop) (l : List As) (x : M3) : Prop := RdS w0 F l 1 x.1.names.length x.2.1 (x.1.names.map sb) ∧ RdS w0 F l 3 x.1.qids.length x.2.2 (qqs x.1.qids)
theorem MR.weaken {x : M3} {l' : List As} (h : MR w0 F l x) (hl : ∀ w, Hs w0 F w l' → Hs w0 F w l) : MR w0 F l' x := ⟨h.1.weaken hl, h.2.weaken hl⟩
theorem MR.s1 {x : M3} (h : MR w0 F l x) : scalV x.2.1 = true := by obtain ⟨⟨a, c, e, _⟩, _⟩ := h; rw [e]; rfl
theorem MR.s2 {x : M3} (h : MR w0 F l x) : scalV x.2.2 = true := by obtain ⟨_, ⟨a, c, e, _⟩⟩ := h; rw [e]; rfl
theorem MR.all {x : M3} (h : MR w0 F l x) : (mcs x).all scalV = true := by
  simp only [mcs, MC, List.all_cons, List.all_nil, List.all_append, h.s1, h.s2, Bool.and_true, Bool.true_and]
  rfl
theorem mms_len (xs : List M3) : (mms xs).length = xs.length * 27 := by
  induction xs with
  | nil => rfl
  | cons d r ih =>
    have e : mms (d :: r) = mcs d ++ mms r := by rw [mms, List.flatMap_cons]
    rw [e, List.length_append, ih]
    show 27 + r.length * 27 = (r.length + 1) * 27
    omega
theorem mms_drop (xs : List M3) : ∀ i : Nat, (mms xs).drop (i * 27) = mms (xs.drop i) := by
  induction xs with
  | nil => intro i; simp
  | cons d r ih =>
    intro i
    cases i with
    | zero => simp
    | succ i =>
      have e : mms (d :: r) = mcs d ++ mms r := by rw [mms, List.flatMap_cons]
      rw [e, show (i + 1) * 27 = 27 + i * 27 by omega, ← List.drop_drop, List.drop_left' (show (mcs d).length = 27 from rfl)]
      exact ih i
theorem mms_at {xs : List M3} {i : Nat} (h : i < xs.length) : (mms xs).drop (i * 27) = mcs xs[i] ++ mms (xs.drop (i + 1)) := by
  rw [mms_drop, List.drop_eq_getElem_cons h]; rfl
theorem take_map_step {xs ys : List M3} {i : Nat} (ht : (xs.take i).map (·.1) = (ys.take i).map (·.1)) (g1 : i < xs.length) (g2 : i < ys.length) (h : xs[i].1 = ys[i].1) : (xs.take (i + 1)).map (·.1) = (ys.take (i + 1)).map (·.1) := by
  rw [List.take_add_one, List.take_add_one, List.getElem?_eq_getElem g1, List.getElem?_eq_getElem g2, List.map_append, List.map_append, ht]
  simp [h]
theorem eqMsg_ok {u v : Value} {xs ys : List M3} (hn : xs.length ≤ 1000000000) (E : Hs w0 F w l) (h1 : RdS w0 F l 27 xs.length u (mms xs)) (h2 : RdS w0 F l 27 ys.length v (mms ys))
    (hx : ∀ x ∈ xs, MR w0 F l x ∧ x.1.names.length ≤ 1000 ∧ x.1.qids.length ≤ 1000) (hy : ∀ y ∈ ys, MR w0 F l y) :
    Ca PP Fn.slices_EqualFunc_sl_api_Msg_sl_api_Msg_api_Msg_api_Msg #[u, v, .func (.func Fn.law31_Same) #[] #[]] w fun r w' => r = .bool (decide (xs.map (·.1) = ys.map (·.1))) ∧ Hs w0 F w' l := by
  refine S.slices_EqualFunc_sl_api_Msg_sl_api_Msg_api_Msg_api_Msg.calls ?_
  unfold S.slices_EqualFunc_sl_api_Msg_sl_api_Msg_api_Msg_api_Msg
  refine h1.len ?_
  refine h2.len ?_
  refine Bi.neq ?_ ?_ <;> intro hne
  · (repeat with_reducible refine Stp.go ?_)
    refine ⟨?_, E⟩
    rw [decide_eq_false]
    intro e
    have := congrArg List.length e
    rw [List.length_map, List.length_map] at this
    exact hne (by rw [this])
  have hne : xs.length = ys.length := by omega
  (repeat with_reducible refine Stp.go ?_)
  refine h1.len ?_
  refine ⟨fun l1 w1 => ∃ i : Nat, l1 = [i64 i] ∧ i ≤ xs.length ∧ (xs.take i).map (·.1) = (ys.take i).map (·.1) ∧ Hs w0 F w1 l, fun l1 _ => match l1 with | [.int _ i] => xs.length - i.toNat | _ => 0, ⟨0, rfl, Nat.zero_le _, rfl, E⟩, ?_⟩
  clear E
  rintro t u1 w1 ⟨i, e, hi, ht, E⟩
  cases e
  refine Bi.lss ?_ ?_ <;> intro hlt <;> (repeat with_reducible refine Stp.go ?_)
  · have g1 : i < xs.length := by omega
    have g2 : i < ys.length := by omega
    obtain ⟨m1, m2, m3⟩ := hx xs[i] (List.getElem_mem g1)
    have m4 := hy ys[i] (List.getElem_mem g2)
    have hne2 : xs[i].1 ≠ ys[i].1 → xs.map (·.1) ≠ ys.map (·.1) := by
      intro hc e
      apply hc
      have := congrArg (fun L => L[i]?) e
      simpa [g1, g2] using this
    have hst := take_map_step ht g1 g2
    refine h1.ix (by omega) (by omega) (by omega) ?_
    intro a ha
    rw [Int.toNat_natCast, mms_at g1] at ha
    refine ha.lda E (m := 27) (ds := mcs xs[i]) rfl rfl (by omega) ?_
    (repeat with_reducible (refine StpA.go E ?_; clear E; intro b_ w_ hb_ E))
    refine StA.all (vs := mcs xs[i]) E rfl rfl m1.all ?_
    clear E
    intro w_ E
    refine h2.ix (by omega) (by omega) (by omega) ?_
    intro a2 ha2
    rw [Int.toNat_natCast, mms_at g2] at ha2
    refine (ha2.weaken fun _ E => E.tl).lda E (m := 27) (ds := mcs ys[i]) rfl rfl (by omega) ?_
    (repeat with_reducible (refine StpA.go E ?_; clear E; intro b_ w_ hb_ E))
    refine StA.all (vs := mcs ys[i]) E rfl rfl m4.all ?_
    clear E
    intro w_ E
    (repeat with_reducible refine StpE.go E ?_)
    refine CaV.mk (by kernel_rfl) ?_
    refine (Same_ok (by omega) (by omega) E ((m1.1.cons _).cons _) ((m1.2.cons _).cons _) ((m4.1.cons _).cons _) ((m4.2.cons _).cons _)).mono ?_
    clear E
    rintro r w_ ⟨rfl, E⟩
    by_cases hc : xs[i].1 = ys[i].1
    · rw [decide_eq_true hc]
      (repeat with_reducible refine Stp.go ?_)
      refine Bi.add (by omega) ?_
      exact ⟨⟨i + 1, by simp, by omega, hst hc, E.tl.tl⟩, by simp only []; omega⟩
    · rw [decide_eq_false hc]
      (repeat with_reducible refine Stp.go ?_)
      refine ⟨?_, E.tl.tl⟩
      rw [decide_eq_false (hne2 hc)]
  · refine ⟨?_, E⟩
    rw [List.take_of_length_le (by omega), List.take_of_length_le (by omega)] at ht
    rw [decide_eq_true ht]
/-- More bytes of a stream: the messages that are complete now are the next ones. -/
theorem fr_cut {T p a b : List UInt8} {L G : List (List UInt8)} {r : List UInt8} (hT : fr T = (L, [], 0)) (e : T = p ++ a ++ b) (hp : fr p = (G, r, 0)) :
    ∃ G2 r2 G3, fr (r ++ a) = (G2, r2, 0) ∧ fr (p ++ a) = (G ++ G2, r2, 0) ∧ L = G ++ G2 ++ G3 := by
  subst e
  obtain ⟨h1, h2⟩ := fr_app _ (p ++ a) b rfl (by rw [hT])
  obtain ⟨h3, h4⟩ := fr_app _ p a rfl h1
  rw [hp] at h4
  dsimp only at h4
  have h5 : (fr (r ++ a)).2.2 = 0 := by
    by_cases h : (fr (r ++ a)).2.2 = 0
    · exact h
    exfalso
    have h6 := fr_err h
    rw [h6] at h4
    have h7 := fr_all _ (p ++ a) rfl h1
    have h8 := fr_all _ p rfl (by rw [hp])
    rw [hp] at h8
    rw [h4] at h7
    dsimp only at h7 h8
    rw [List.append_nil, List.append_nil] at h7
    have h9 := congrArg List.length h7
    have h10 := congrArg List.length h8
    rw [List.length_append] at h9 h10
    have hr : r = [] := List.length_eq_zero_iff.1 (by omega)
    have ha : a = [] := List.length_eq_zero_iff.1 (by omega)
    rw [hr, ha] at h
    exact h (by rw [List.append_nil, fr_eq]; rfl)
  have h6 : fr (r ++ a) = ((fr (r ++ a)).1, (fr (r ++ a)).2.1, 0) := by rw [← h5]
  rw [h2] at hT
  refine ⟨_, _, (fr ((fr (p ++ a)).2.1 ++ b)).1, h6, h4, ?_⟩
  have := congrArg Prod.fst hT
  dsimp only at this
  rw [← this, h4]
end Go.Proofs.YtmlccboapkkcfaaDoor

/-
  The protocol: a stream of encodings that arrives in pieces, cut anywhere, yields the messages in order, and nothing else (the law StyxStreams).
-/
namespace Go.Proofs.YtmlccboapkkcfaaDoor
open Go Go.Sh
set_option maxRecDepth 100000
set_option linter.unusedVariables false
set_option linter.unusedSimpArgs false
variable {w0 w : World} {F : Nat → Prop} {l : List As}
def okS (x : M3) : Bool := decide (chk x.1 = 0) && decide ((enc x.1).1.length ≤ 2000)
def kp (xs : List M3) : List M3 := xs.filter okS
abbrev es (xs : List M3) : List (List UInt8) := xs.map fun x => (enc x.1).1
theorem kp_step {xs : List M3} {i : Nat} (h : i < xs.length) : kp (xs.take (i + 1)) = kp (xs.take i) ++ if okS xs[i] then [xs[i]] else [] := by
  unfold kp
  rw [List.take_add_one, List.getElem?_eq_getElem h, List.filter_append]
  by_cases h2 : okS xs[i] = true <;> simp [h2]
theorem kp_len (xs : List M3) : (kp xs).length ≤ xs.length := List.length_filter_le _ _
theorem es_len : ∀ xs : List M3, (es (kp xs)).flatten.length ≤ xs.length * 2000
  | [] => by simp [kp, es]
  | x :: r => by
    have ih := es_len r
    unfold kp at ih ⊢
    rw [List.filter_cons]
    cases h : okS x with
    | false => simp only [Bool.false_eq_true, if_false, List.length_cons]; omega
    | true =>
      unfold okS at h
      rw [Bool.and_eq_true, decide_eq_true_eq, decide_eq_true_eq] at h
      simp only [if_true, es, List.map_cons, List.flatten_cons, List.length_append, List.length_cons] at ih ⊢
      have := h.2
      omega
theorem kp_ok {xs : List M3} {x : M3} (h : x ∈ kp xs) : x ∈ xs ∧ chk x.1 = 0 ∧ (enc x.1).1.length ≤ 2000 := by
  obtain ⟨h1, h2⟩ := List.mem_filter.1 h
  unfold okS at h2
  rw [Bool.and_eq_true, decide_eq_true_eq, decide_eq_true_eq] at h2
  exact ⟨h1, h2⟩
theorem fr_kept {xs : List M3} : fr (es (kp xs)).flatten = (es (kp xs), [], 0) := fr_concat fun y hy => by
  obtain ⟨x, hx, rfl⟩ := List.mem_map.1 hy
  exact enc_isE (kp_ok hx).2.1
theorem u_msgs : PP.underlying Ty.sl_api_Msg = some (.slice Ty.api_Msg) := by kernel_rfl
theorem n_Msg : sizeK PP Ty.api_Msg = some 27 := by kernel_rfl
theorem z_Msg : zeroK PP Ty.api_Msg = some (.agg (MC m0 nilV nilV).toArray) := by kernel_rfl
theorem e_Msg : el3 PP Ty.api_Msg = some (some (.agg (MC m0 nilV nilV).toArray), 27, 320) := by kernel_rfl
theorem addM {i : Nat} {v y : Value} {xs : List M3} {x : M3} {l' : List As} {k : Value → World → Prop} (hx : (mcs x).all scalV = true) (hn : xs.length ≤ 1000) (hl : l'[i]? = some (slA v Ty.api_Msg 27 (mms xs))) (E : Hs w0 F w (slA y Ty.api_Msg 27 (mcs x) :: l'))
    (hk : ∀ v' w', Hs w0 F w' (l'.set i (slA v' Ty.api_Msg 27 (mms (xs ++ [x])))) → k v' w') : Ef PP (Builtin.append_ #[Ty.sl_api_Msg, Ty.sl_api_Msg] Ty.sl_api_Msg #[v, y]) w k := by
  have hql : (mms xs).length / 27 = xs.length := by rw [mms_len]; omega
  refine Ap.el E (i := i + 1) (n := 1) (ys := mcs x) (by simpa using hl) u_msgs ⟨_, u_msgs, fun _ h => by cases h⟩ e_Msg (by omega) (Src.slice (show SliceAt y Ty.api_Msg 27 (mcs x) _ from E.sat _ List.mem_cons_self) rfl (by omega) hx) rfl (by rw [hql]; omega) (by rw [hql]; omega) ?_
  clear E
  intro v' w' E
  refine hk v' w' ?_
  have : mms (xs ++ [x]) = mms xs ++ mcs x := by simp [mms]
  rw [this]
  exact E.tl
end Go.Proofs.YtmlccboapkkcfaaDoor

/-
  The protocol: a stream of encodings that arrives in pieces, cut anywhere, yields the messages in order, and nothing else (the law StyxStreams).
-/
namespace Go.Proofs.YtmlccboapkkcfaaDoor
open Go Go.Sh
set_option maxRecDepth 100000
set_option linter.unusedVariables false
set_option linter.unusedSimpArgs false
variable {w0 w : World} {F : Nat → Prop} {l : List As}
theorem Streams_law (hW : Wds w0 F) {ms : List M3} {cs : List Int} {v u : Value} (hm : ∀ x ∈ ms, MA w0 F x.1 x.2.1 x.2.2) (h1 : ∀ l, RdS w0 F l 27 ms.length v (mms ms)) (hc : ∀ c ∈ cs, 0 ≤ c ∧ c < 65536) (h2 : ∀ l, RdS w0 F l 1 cs.length u (cs.map (Value.int .u16))) (E : Hs w0 F w l) :
    Ca PP Fn.law31_StyxStreams #[v, u] w fun r w' => r = .bool true ∧ ∃ X, Hs w0 F w' (X ++ l) := by
  refine S.law31_StyxStreams.calls ?_
  unfold S.law31_StyxStreams
  refine (awake_ok hW E).mono ?_
  clear E
  rintro r w_ ⟨rfl, E⟩
  (repeat with_reducible refine Stp.go ?_)
  (intro J4 hJ4)
  have fin4 : ms.length ≤ 12 → cs.length ≤ 20 → ∀ w_, Hs w0 F w_ l → J4 [.bool false] w_ := by
    intro n1 n2 w_ E
    apply hJ4
    intro u_
    clear hJ4
    (repeat with_reducible refine Stp.go ?_)
    refine (h1 l).len ?_
    refine ⟨fun l1 w1 => ∃ (i : Nat) (wv : Value), l1 = [sb (es (kp (ms.take i))).flatten, wv, i64 i] ∧ i ≤ ms.length ∧ (∀ x ∈ ms.take i, few x.1 = true) ∧ Hs w0 F w1 (slA wv Ty.api_Msg 27 (mms (kp (ms.take i))) :: l), fun l1 _ => match l1 with | [_, _, .int _ i] => ms.length - i.toNat | _ => 0, ⟨0, nilV, rfl, Nat.zero_le _, fun _ h => by simp at h, E.nilSl Ty.api_Msg 27⟩, ?_⟩
    clear E
    rintro t5 t6 t34 u1 w1 ⟨i, wv, e, hi, hfw, E⟩
    cases e
    have hsl := es_len (ms.take i)
    rw [List.length_take, Nat.min_eq_left hi] at hsl
    refine Bi.lss ?_ ?_ <;> intro hlt <;> (repeat with_reducible refine Stp.go ?_)
    · have g1 : i < ms.length := by omega
      have hM := hm ms[i] (List.getElem_mem g1)
      have hR : MR w0 F [] ms[i] := ⟨hM.rn _, hM.rq _⟩
      have i1 : Scal ms[i].2.1 := ⟨hR.s1⟩
      have i2 : Scal ms[i].2.2 := ⟨hR.s2⟩
      have hks := kp_step g1
      (intro J17 hJ17)
      have fin17 : ∀ (v' : Value) w_, few ms[i].1 = true → Hs w0 F w_ (slA v' Ty.api_Msg 27 (mms (kp (ms.take (i + 1)))) :: l) → J17 [sb (es (kp (ms.take (i + 1)))).flatten, v'] w_ := by
        intro v' w_ hf E
        apply hJ17
        intro u_
        refine Bi.add (by omega) ?_
        refine ⟨⟨i + 1, v', rfl, by omega, ?_, E⟩, by simp only []; omega⟩
        intro x hx
        rw [List.take_add_one, List.getElem?_eq_getElem g1] at hx
        rcases List.mem_append.1 hx with hx | hx
        · exact hfw x hx
        · have : x = ms[i] := by simpa using hx
          rw [this]; exact hf
      clear hJ17
      refine (h1 (slA t6 Ty.api_Msg 27 (mms (kp (ms.take i))) :: l)).ix (by omega) (by omega) (by omega) ?_
      intro a ha
      rw [Int.toNat_natCast, mms_at g1] at ha
      refine ha.lda E (m := 27) (ds := mcs ms[i]) rfl rfl (by omega) ?_
      (repeat with_reducible (refine StpA.go E ?_; clear E; intro b_ w_ hb_ E))
      refine StA.all (vs := mcs ms[i]) E rfl rfl hR.all ?_
      clear E
      intro w_ E
      (repeat with_reducible refine StpE.go E ?_)
      refine (Few_ok hM.b (hM.rn _) (hM.rq _) E).mono ?_
      clear E
      rintro r w_ ⟨rfl, E⟩
      cases hf : few ms[i].1 with
      | false =>
        (repeat with_reducible refine Stp.go ?_)
        exact ⟨rfl, [pt b_ (oc (mcs ms[i]) Ty.api_Msg), slA t6 Ty.api_Msg 27 (mms (kp (ms.take i)))], E⟩
      | true =>
      (repeat with_reducible first | refine Stp.go ?_ | refine StpE.go E ?_)
      refine (Encode_ok hW (hM.mi hf _) E).mono ?_
      clear E
      rintro r w_ ⟨rfl, E⟩
      (repeat with_reducible refine Stp.go ?_)
      (intro J37 hJ37)
      have fin37 : ∀ bb, bb = okS ms[i] → J37 [.bool bb] w_ := by
        intro bb hb
        apply hJ37
        intro u_
        clear hJ37
        cases bb with
        | true =>
          rw [← hb] at hks
          simp only [if_true] at hks
          have hb2 := hb.symm
          unfold okS at hb2
          rw [Bool.and_eq_true, decide_eq_true_eq, decide_eq_true_eq] at hb2
          (repeat with_reducible refine Stp.go ?_)
          refine Bi.sadd (by rw [mkB_size, mkB_size]; omega) ?_
          rw [mkB_app]
          (repeat with_reducible refine StpE.go E ?_)
          refine BdS.sl (sz := 27) (n := 1) (z := .agg (MC m0 nilV nilV).toArray) (xs := mcs ms[i]) E u_msgs n_Msg z_Msg (by omega) (by omega) (by kernel_rfl) rfl ?_
          clear E
          intro v2 w_ E
          refine addM (i := 1) hR.all (by have := kp_len (ms.take i); rw [List.length_take] at this; omega) rfl E ?_
          clear E
          intro v3 w_ E
          (try simp only [List.set_cons_zero, List.set_cons_succ, List.cons_append, List.nil_append, Nat.zero_add, Nat.add_zero] at E)
          have e1 : (es (kp (ms.take i))).flatten ++ (enc ms[i].1).1 = (es (kp (ms.take (i + 1)))).flatten := by rw [hks]; simp [es]
          rw [e1]
          rw [← hks] at E
          exact fin17 _ _ hf E.tl
        | false =>
          rw [← hb] at hks
          simp only [Bool.false_eq_true, if_false, List.append_nil] at hks
          (repeat with_reducible refine Stp.go ?_)
          rw [← hks] at E ⊢
          exact fin17 _ _ hf E.tl
      clear hJ37
      have h2 := enc_two ms[i].1
      refine Bi.eql ?_ ?_ <;> intro c1 <;> (repeat with_reducible refine Stp.go ?_)
      · rw [mkB_size]
        refine Bi.leq ?_ ?_ <;> intro c2 <;> (repeat with_reducible refine Stp.go ?_)
        · exact fin37 _ (by unfold okS; rw [decide_eq_true (by omega), decide_eq_true (by omega)]; rfl)
        · exact fin37 _ (by unfold okS; rw [decide_eq_false (by omega : ¬ (enc ms[i].1).1.length ≤ 2000), Bool.and_false])
      · exact fin37 _ (by unfold okS; rw [decide_eq_false (by omega : ¬ chk ms[i].1 = 0)]; rfl)
    · have hi2 : i = ms.length := by omega
      subst hi2
      rw [List.take_length] at hfw E hsl ⊢
      have hT := @fr_kept ms
      have hwn := kp_len ms
      have hW2 : ∀ x ∈ kp ms, chk x.1 = 0 ∧ x.1.Ok ∧ few x.1 = true ∧ (enc x.1).1.length ≤ 2000 := fun x hx => ⟨(kp_ok hx).2.1, (hm x (kp_ok hx).1).ok, hfw x (kp_ok hx).1, (kp_ok hx).2.2⟩
      have hMR : ∀ l, ∀ x ∈ kp ms, MR w0 F l x := fun l x hx => ⟨(hm x (kp_ok hx).1).rn l, (hm x (kp_ok hx).1).rq l⟩
      generalize kp ms = K at hT hwn hW2 hMR E hsl ⊢
      generalize hTe : (es K).flatten = T at hT hsl ⊢
      clear hm h1 hfw hi hlt
      refine ⟨fun l1 w1 => ∃ (p s r : List UInt8) (g i : Nat) (gv : Value) (got : List M3) (X : List As), l1 = [sb s, gv, sb r, i64 i] ∧ i ≤ cs.length + 1 ∧ (i = cs.length + 1 → s = []) ∧ T = p ++ s ∧ fr p = ((es K).take g, r, 0) ∧ g ≤ K.length ∧ got.map (·.1) = (K.take g).map (·.1) ∧ (∀ x ∈ got, MR w0 F X x) ∧
          Hs w0 F w1 (slA gv Ty.api_Msg 27 (mms got) :: (X ++ (slA t6 Ty.api_Msg 27 (mms K) :: l))), fun l1 _ => match l1 with | [_, _, _, .int _ i] => cs.length + 1 - i.toNat | _ => 0,
        ⟨[], T, [], 0, 0, nilV, [], [], rfl, by omega, by omega, rfl, by rw [fr_eq]; rfl, by omega, by simp, (fun _ h => by cases h), E.nilSl Ty.api_Msg 27⟩, ?_⟩
      clear E
      rintro t5 t11 t12 t13 u1 w1 ⟨p, s, r, g, i, gv, got, X, e, hi, hie, hT2, hp, hg, hgot, hgr, E⟩
      cases e
      refine (h2 l).len ?_
      have hrl : r.length ≤ p.length := by
        have := congrArg List.length (fr_all _ p rfl (by rw [hp]))
        rw [hp, List.length_append] at this
        dsimp only at this
        omega
      have hpl : p.length + s.length ≤ 24000 := by
        have := congrArg List.length hT2
        rw [List.length_append] at this
        omega
      refine Bi.leq ?_ ?_ <;> intro hlt <;> (repeat with_reducible refine Stp.go ?_)
      · (intro J71 hJ71)
        have fin71 : ∀ n : Nat, n ≤ s.length → (i = cs.length → n = s.length) → J71 [i64 n] w1 := by
          intro n hn hin
          apply hJ71
          intro u_
          clear hJ71
          refine SlS.pre (by omega) (by rw [mkB_size]; omega) ?_
          rw [Int.toNat_natCast, mkB_take]
          refine Bi.sadd (by rw [mkB_size, mkB_size, List.length_take]; omega) ?_
          rw [mkB_app]
          obtain ⟨G2, r2, G3, k1, k2, k3⟩ := fr_cut (p := p) (a := s.take n) (b := s.drop n) hT (by rw [List.append_assoc, List.take_append_drop]; exact hT2) hp
          have hGl : g + G2.length ≤ K.length := by
            have := congrArg List.length k3
            simp only [List.length_append, List.length_take, List.length_map] at this
            omega
          have hG2 : ∀ j (hj : j < G2.length), G2[j] = (enc (K[g + j]'(by omega)).1).1 := by
            intro j hj
            have h5 : (es K)[g + j]? = G2[j]? := by
              rw [k3, List.append_assoc, List.getElem?_append_right (by rw [List.length_take, List.length_map]; omega), List.getElem?_append_left (by rw [List.length_take, List.length_map]; omega)]
              congr 1
              rw [List.length_take, List.length_map]; omega
            rw [List.getElem?_map, List.getElem?_eq_getElem (by omega), List.getElem?_eq_getElem hj] at h5
            exact (Option.some.inj h5).symm
          refine (Frames_ok (s := r ++ s.take n) (by rw [List.length_append, List.length_take]; omega) E).mono ?_
          clear E
          rintro q w_ ⟨fv, Xf, rfl, hF, E⟩
          rw [k1] at hF ⊢
          dsimp only at hF ⊢
          (repeat first | (with_reducible first | refine Stp.go ?_) | ((with_reducible refine Bi.dec false ?_ ?_); focus exact rfl))
          have hF2 := hF.weaken (l' := Xf ++ (slA t6 Ty.api_Msg 27 (mms K) :: l)) fun _ E => E.drop (List.sublist_append_left _ _)
          have E : Hs w0 F w_ (slA t11 Ty.api_Msg 27 (mms got) :: (X ++ (Xf ++ (slA t6 Ty.api_Msg 27 (mms K) :: l)))) := E.perm (by
            refine List.perm_middle.trans (.cons _ ?_)
            rw [← List.append_assoc, ← List.append_assoc]
            exact List.perm_append_comm.append_right _)
          generalize hB : Xf ++ (slA t6 Ty.api_Msg 27 (mms K) :: l) = B at hF2 E
          refine hF2.len ?_
          refine ⟨fun l1 w1 => ∃ (j : Nat) (t11' : Value) (got' : List M3) (X' : List As), l1 = [t11', i64 j] ∧ j ≤ G2.length ∧ got'.map (·.1) = (K.take (g + j)).map (·.1) ∧ (∀ x ∈ got', MR w0 F X' x) ∧
              Hs w0 F w1 (slA t11' Ty.api_Msg 27 (mms got') :: (X' ++ B)), fun l1 _ => match l1 with | [_, .int _ j] => G2.length - j.toNat | _ => 0, ⟨0, t11, got, X, rfl, by omega, hgot, hgr, E⟩, ?_⟩
          clear E
          rintro t11' t94 u2 w2 ⟨j, gv', got', X', e, hj, hgot', hgr', E⟩
          cases e
          have hgl : got'.length = g + j := by
            have := congrArg List.length hgot'
            rw [List.length_map, List.length_map, List.length_take] at this
            omega
          refine Bi.lss ?_ ?_ <;> intro hlt2 <;> (repeat with_reducible first | refine Stp.go ?_ | (refine StpW.go E ?_; clear E; intro w_ E))
          · have g1 : j < G2.length := by omega
            have g2 : g + j < K.length := by omega
            have hx := hG2 j g1
            obtain ⟨x1, x2, x3, x4⟩ := hW2 K[g + j] (List.getElem_mem g2)
            have hd : ((G2.map sb).drop (((j : Int)).toNat * 1))[0]? = some (sb (enc K[g + j].1).1) := by
              rw [Int.toNat_natCast, Nat.mul_one, List.getElem?_drop, Nat.add_zero, List.getElem?_map, List.getElem?_eq_getElem g1, hx]; rfl
            refine (hF2.weaken (l' := slA t11' Ty.api_Msg 27 (mms got') :: (X' ++ B)) fun _ E => E.tl.drop (List.sublist_append_right _ _)).ix (by omega) (by omega) (by omega) ?_
            intro a ha
            refine ha.ld E hd ?_
            refine (Decode_ok hW (s := (enc K[g + j].1).1) (by omega) E).mono ?_
            clear E
            rintro q w_ ⟨nv, qv, Y, rfl, y1, y2, E⟩
            rw [dec_enc x2 x1] at y1 y2 ⊢
            dsimp only at y1 y2 ⊢
            have hy : MR w0 F Y (K[g + j].1, nv, qv) := ⟨y1, y2⟩
            have i1 : Scal nv := ⟨hy.s1⟩
            have i2 : Scal qv := ⟨hy.s2⟩
            have E := E.perm List.perm_middle
            (repeat with_reducible first | refine Stp.go ?_ | (refine StpA.go E ?_; clear E; intro b_ w_ hb_ E))
            refine StA.all (vs := mcs (K[g + j].1, nv, qv)) E rfl rfl hy.all ?_
            clear E
            intro w_ E
            (repeat first | (with_reducible first | refine Stp.go ?_ | refine StpE.go E ?_) | ((with_reducible refine Bi.dec false ?_ ?_); focus exact rfl))
            refine BdS.sl (sz := 27) (n := 1) (z := .agg (MC m0 nilV nilV).toArray) (xs := mcs (K[g + j].1, nv, qv)) E u_msgs n_Msg z_Msg (by omega) (by omega) (by kernel_rfl) rfl ?_
            clear E
            intro v2 w_ E
            refine addM (i := 1) (xs := got') (x := (K[g + j].1, nv, qv)) hy.all (by omega) rfl E ?_
            clear E
            intro v3 w_ E
            (try simp only [List.set_cons_zero, List.set_cons_succ, List.cons_append, List.nil_append, Nat.zero_add, Nat.add_zero] at E)
            have E := E.tl
            refine Bi.add (by omega) ?_
            refine ⟨⟨j + 1, v3, got' ++ [(K[g + j].1, nv, qv)], Y ++ X', rfl, by omega, ?_, ?_, ?_⟩, by simp only []; omega⟩
            · rw [List.map_append, hgot', ← Nat.add_assoc, List.take_add_one, List.getElem?_eq_getElem g2, List.map_append]
              rfl
            · intro x hx
              rcases List.mem_append.1 hx with hx | hx
              · exact (hgr' x hx).weaken fun _ E => E.drop (List.sublist_append_right _ _)
              · rw [List.mem_singleton.1 hx]
                exact hy.weaken fun _ E => E.drop (List.sublist_append_left _ _)
            · rw [List.append_assoc]
              exact E
          · have hj2 : j = G2.length := by omega
            subst hj2
            refine SlS.suf (by omega) (by rw [mkB_size]; omega) ?_
            rw [Int.toNat_natCast, mkB_drop]
            refine Bi.add (by omega) ?_
            refine ⟨⟨p ++ s.take n, s.drop n, r2, g + G2.length, i + 1, t11', got', X' ++ Xf, rfl, by omega, ?_, ?_, ?_, hGl, hgot', ?_, ?_⟩, by simp only []; omega⟩
            · intro h
              rw [hin (by omega), List.drop_length]
            · rw [List.append_assoc, List.take_append_drop]; exact hT2
            · rw [k2]
              have hAl : ((es K).take g ++ G2).length = g + G2.length := by rw [List.length_append, List.length_take, List.length_map]; omega
              have h5 := congrArg (List.take (g + G2.length)) k3
              rw [← hAl, List.take_left, hAl] at h5
              rw [h5]
            · intro x hx
              exact (hgr' x hx).weaken fun _ E => E.drop (List.sublist_append_left _ _)
            · rw [List.append_assoc, hB]
              exact E
        clear hJ71
        refine (h2 l).len ?_
        skip
        refine Bi.lss ?_ ?_ <;> intro hlt3 <;> (repeat with_reducible refine Stp.go ?_)
        · have g1 : i < cs.length := by omega
          have hx := hc cs[i] (List.getElem_mem g1)
          have hd2 : ((cs.map (Value.int .u16)).drop (((i : Int)).toNat * 1))[0]? = some (.int .u16 cs[i]) := by
            rw [Int.toNat_natCast, Nat.mul_one, List.getElem?_drop, Nat.add_zero, List.getElem?_map, List.getElem?_eq_getElem g1]; rfl
          refine (h2 (slA t11 Ty.api_Msg 27 (mms got) :: (X ++ slA t6 Ty.api_Msg 27 (mms K) :: l))).ix (by omega) (by omega) (by omega) ?_
          intro a ha2
          refine ha2.ld E hd2 ?_
          refine Cv.i64 (by omega) ?_
          refine Mn.mk ?_
          rw [mkB_size]
          split
          · obtain ⟨n, hn⟩ : ∃ n : Nat, cs[i] = n := ⟨cs[i].toNat, by omega⟩
            rw [hn]
            exact fin71 n (by omega) (by omega)
          · exact fin71 s.length (by omega) (by omega)
        · rw [mkB_size]
          exact fin71 s.length (by omega) (by omega)
      · have hs := hie (by omega)
        subst hs
        rw [List.append_nil] at hT2
        subst hT2
        rw [hT] at hp
        have hr : r = [] := (congrArg (fun x => x.2.1) hp).symm
        have hge : g = K.length := by
          have := congrArg (fun x => x.1.length) hp
          simp only [List.length_map, List.length_take] at this
          omega
        subst hr hge
        rw [List.take_length] at hgot
        have hgl : got.length = K.length := by
          have := congrArg List.length hgot
          rwa [List.length_map, List.length_map] at this
        skip
        (intro J116 hJ116)
        (repeat first | (with_reducible first | refine Stp.go ?_) | ((with_reducible refine Bi.sdec true ?_ ?_); focus decide))
        have r1 := RdS.sl (T := Ty.api_Msg) (v := t11) (sz := 27) (xs := mms got) List.mem_cons_self (by omega) E
        have r2 := RdS.sl (T := Ty.api_Msg) (v := t6) (sz := 27) (xs := mms K) (List.mem_cons_of_mem _ (List.mem_append_right _ List.mem_cons_self)) (by omega) E
        rw [mms_len, Nat.mul_div_cancel _ (by omega)] at r1 r2
        refine (eqMsg_ok (by omega) E r1 r2 (fun x hx => ⟨(hgr x hx).weaken fun _ E => E.tl.drop (List.sublist_append_left _ _), ?_⟩) (fun y hy => hMR _ y hy)).mono ?_
        · have : x.1 ∈ got.map (·.1) := List.mem_map_of_mem hx
          rw [hgot] at this
          obtain ⟨z, hz, hze⟩ := List.mem_map.1 this
          have := few_all (hW2 z hz).2.2.1
          rw [← hze]
          omega
        clear E
        rintro r w_ ⟨rfl, E⟩
        rw [decide_eq_true hgot]
        (repeat with_reducible first | refine Stp.go ?_ | (apply hJ116; intro u_))
        exact ⟨rfl, slA t11 Ty.api_Msg 27 (mms got) :: (X ++ [slA t6 Ty.api_Msg 27 (mms K)]), by simpa using E⟩
  have finT : ∀ w_, Hs w0 F w_ l → J4 [.bool true] w_ := by
    intro w_ E
    (repeat with_reducible first | refine Stp.go ?_ | (apply hJ4; intro u_))
    exact ⟨rfl, [], E⟩
  clear hJ4
  refine (h1 l).len ?_
  skip
  refine Bi.gtr ?_ ?_ <;> intro c1 <;> (repeat with_reducible refine Stp.go ?_)
  · exact finT _ E
  refine (h2 l).len ?_
  (repeat with_reducible refine Stp.go ?_)
  refine Bi.gtr ?_ ?_ <;> intro c2 <;> (repeat with_reducible refine Stp.go ?_)
  · exact finT _ E
  · exact fin4 (by omega) (by omega) _ E
end Go.Proofs.YtmlccboapkkcfaaDoor

/-
  The protocol: a message that is handed in.
-/
namespace Go.Sh
open Go Go.ChangeShapes Go.WideShapes
section
variable {P : Program} {H : Type} {enc : TypeId × Value → H} {W : World}
/-- A struct's parts: type, offset, cells. -/
def ftab (P : Program) (t : TypeId) : List (TypeId × Nat × Nat) := match P.underlying t with
  | some (.struct fs) => fs.toList.map fun f => (f.type, f.offset, P.cellsOf f.type)
  | _ => []
theorem ftab_struct {t : TypeId} {L : List (TypeId × Nat × Nat)} (hL : ftab P t = L) (hne : L ≠ []) : ∃ fs, P.underlying t = some (.struct fs) ∧ L = fs.toList.map fun f => (f.type, f.offset, P.cellsOf f.type) := by
  unfold ftab at hL
  split at hL
  · rename_i fs h; exact ⟨fs, h, hL.symm⟩
  · exact absurd hL.symm hne
theorem struct_parts {t : TypeId} {L : List (TypeId × Nat × Nat)} (hL : ftab P t = L) (hne : L ≠ []) {fuel : Nat} {cs : List Value} {x : DataW H × List MemPlace} (h : DataW.trod enc P W 0 (fun _ => true) true fuel t cs = some x) :
    ∃ xs : List (DataW H × List MemPlace), ∃ n, x.1 = .agg (xs.map (·.1)) ∧ cs.length = P.cellsOf t ∧ xs.length = L.length ∧ ∀ (i : Nat) T o m, L[i]? = some (T, o, m) → DataW.trod enc P W 0 (fun _ => true) true n T ((cs.drop o).take m) = xs[i]? := by
  obtain ⟨fs, hu, rfl⟩ := ftab_struct hL hne
  obtain ⟨xs, n, -, rfl, hlen, hxs, hf⟩ := DataW.trod_struct hu h
  refine ⟨xs, n, rfl, hlen, by simpa using hxs, fun i T o m hi => ?_⟩
  rw [List.getElem?_map] at hi
  obtain ⟨f, hf1, hf2⟩ := Option.map_eq_some_iff.1 hi
  cases hf2
  exact hf i f (by simpa using hf1)
theorem weightsEach_mem : ∀ {ts : List TypeId} {ds : List (DataW H)} {i : Nat} {T : TypeId} {d : DataW H} {n : Nat}, ts[i]? = some T → ds[i]? = some d → n ∈ d.weights P T → n ∈ DataW.weightsEach P ts ds
  | [], _, i, _, _, _, h, _, _ => by simp at h
  | _ :: _, [], i, _, _, _, _, h, _ => by simp at h
  | t :: ts, d :: ds, 0, T, d', n, h1, h2, h3 => by
    cases h1; cases h2
    unfold DataW.weightsEach
    exact List.mem_append_left _ h3
  | t :: ts, d :: ds, i + 1, T, d', n, h1, h2, h3 => by
    unfold DataW.weightsEach
    exact List.mem_append_right _ (weightsEach_mem (i := i) (by simpa using h1) (by simpa using h2) h3)
theorem weightsAll_mem {e : TypeId} : ∀ {ds : List (DataW H)} {d : DataW H} {n : Nat}, d ∈ ds → n ∈ d.weights P e → n ∈ DataW.weightsAll P e ds
  | d :: ds, d', n, h, h2 => by
    unfold DataW.weightsAll
    rcases List.mem_cons.1 h with rfl | h
    · exact List.mem_append_left _ h2
    · exact List.mem_append_right _ (weightsAll_mem h h2)
theorem weights_struct {t : TypeId} {L : List (TypeId × Nat × Nat)} (hL : ftab P t = L) (hne : L ≠ []) {ds : List (DataW H)} {i : Nat} {T : TypeId} {o m : Nat} {d : DataW H} {n : Nat} (hi : L[i]? = some (T, o, m)) (hd : ds[i]? = some d) (hn : n ∈ d.weights P T) :
    n ∈ (DataW.agg ds).weights P t := by
  obtain ⟨fs, hu, rfl⟩ := ftab_struct hL hne
  unfold DataW.weights
  rw [hu]
  refine weightsEach_mem (i := i) (T := T) (d := d) ?_ hd hn
  rw [List.getElem?_map] at hi ⊢
  obtain ⟨f, hf1, hf2⟩ := Option.map_eq_some_iff.1 hi
  cases hf2
  rw [hf1]; rfl
theorem weight_str {T : TypeId} {s : ByteArray} {x : DataW H × List MemPlace} (h : x = (.lit (.string s.data.toList), [])) : s.data.toList.length ∈ x.1.weights P T := by
  subst h
  unfold DataW.weights
  exact List.mem_singleton.2 rfl
theorem rdl_structs0 {d : Nat} {t e : TypeId} {ks : List LK} {v : Value} {fuel : Nat} {x : DataW H × List MemPlace} (ht : P.underlying t = some (.slice e)) (hl : lv P d e = some ks) (hc : lvC P d e = true) (hpos : 0 < ks.length)
    (hf : DataW.trod enc P W 0 (fun _ => true) true fuel t [v] = some x) : ∃ rows : List (List Value), RdlA W v ks.length rows.length rows.flatten ∧ ∀ r ∈ rows, fitWL ks r := by
  have hsz := lvC_cells hc hl
  rcases DataW.trod_slice ht hf with ⟨hcs, -⟩ | ⟨a, len, cap, elems, rest, n, -, hcs, -, -, hle, hmx, hlen, hel, -, -⟩
  · have : v = .slice none 0 0 := by simpa using hcs
    rw [this]
    exact ⟨[], ⟨none, 0, rfl, Nat.le_refl _, Nat.zero_le _, by simp, .inl rfl⟩, fun _ h => by cases h⟩
  · have : v = .slice (some a) len cap := by simpa using hcs
    rw [this]
    rw [hsz] at hel
    have each : ∀ i, ∃ r : List Value, i < len → fitWL ks r ∧ r.length = ks.length ∧ ∀ k, k < ks.length → W.cell? (a.add (i * ks.length + k)) = r[k]? := by
      intro i
      by_cases hi : i < len
      · have h1 := hel i hi
        rw [List.getElem?_eq_getElem (show i < elems.length by omega), Option.bind_eq_some_iff] at h1
        obtain ⟨r, hr, hx⟩ := h1
        obtain ⟨-, h2, h3⟩ := World.cells?_some hr
        refine ⟨r, fun _ => ⟨trod_lv d hl hc _ _ _ hx, h2, fun k hk => ?_⟩⟩
        have := h3 k hk
        have e : (a.add (i * ks.length)).add k = a.add (i * ks.length + k) := by
          generalize i * ks.length = m
          unfold Addr.add
          by_cases h1 : m = 0 <;> by_cases h2 : k = 0 <;> simp [h1, h2, Nat.add_assoc]
        rwa [e] at this
      · exact ⟨[], fun h => absurd h hi⟩
    obtain ⟨f, hfm⟩ : ∃ f : Nat → List Value, ∀ i, i < len → fitWL ks (f i) ∧ (f i).length = ks.length ∧ ∀ k, k < ks.length → W.cell? (a.add (i * ks.length + k)) = (f i)[k]? := ⟨fun i => (each i).choose, fun i hi => (each i).choose_spec hi⟩
    have hrl : ∀ r ∈ (List.range len).map f, r.length = ks.length := by
      intro r hr
      obtain ⟨i, hi, rfl⟩ := List.mem_map.1 hr
      exact (hfm i (List.mem_range.1 hi)).2.1
    refine ⟨(List.range len).map f, ⟨some a, cap, by simp, by simpa using hle, by simpa using Nat.le_trans hle hmx, flat_len hrl, ?_⟩, fun r hr => ?_⟩
    · by_cases h0 : len = 0
      · left; subst h0; rfl
      right
      have hc0 := (hfm 0 (by omega)).2.2 0 hpos
      have hl0 := (hfm 0 (by omega)).2.1
      rw [List.getElem?_eq_getElem (show 0 < (f 0).length by omega)] at hc0
      obtain ⟨ea, hb⟩ := spot_none hc0
      have e0 : a.add (0 * ks.length + 0) = a := by cases a; simp [Addr.add]
      rw [e0] at ea hb
      refine ⟨a.block, a.off, by rw [← ea], hb, fun j x hx => ?_⟩
      obtain ⟨i, k, r, h1, h2, h3, h4⟩ := flat_get hrl hx
      rw [List.getElem?_map] at h1
      obtain ⟨i', hi', rfl⟩ := Option.map_eq_some_iff.1 h1
      have hi2 := (List.getElem?_eq_some_iff.1 hi').1
      rw [List.length_range] at hi2
      have h5 : i' = i := by
        rw [List.getElem?_range (by omega)] at hi'
        exact (Option.some.inj hi').symm
      subst h5
      have := (hfm i' hi2).2.2 k h2
      rw [h4, ← h3, ea, add_mk] at this
      exact this
    · obtain ⟨i, hi, rfl⟩ := List.mem_map.1 hr
      exact (hfm i (List.mem_range.1 hi)).1

theorem strs_open {t e : TypeId} {fuel : Nat} {c : Value} {x : DataW H × List MemPlace} (ht : P.underlying t = some (.slice e)) (he : P.underlying e = some .string) (hc : P.cellsOf e = 1)
    (h : DataW.trod enc P W 0 (fun _ => true) true fuel t [c] = some x) : ∃ texts : List ByteArray, Rdl W c (texts.map Value.string) ∧ ∀ s ∈ texts, s.data.toList.length ∈ x.1.weights P t := by
  rcases open_strings ht he hc h with ⟨hcs, hx1⟩ | ⟨p, len, cap, ss, hcs, -, hl, hmx, hz, hx1, hcell, hsz⟩
  · cases hcs
    exact ⟨[], rdl_nil, fun _ h => by cases h⟩
  · cases hcs
    simp only [if_true] at hz
    subst hx1
    refine ⟨ss.take len, rdl_of hl (by simp; omega) fun j hj => ?_, fun u hu => ?_⟩
    · rw [hcell j (by omega), List.getElem?_map, List.getElem?_take, if_pos hj]
      have hjs : j < ss.length := by omega
      rw [List.getElem?_eq_getElem hjs]
      simp [List.getD, List.getElem?_eq_getElem hjs]
    · unfold DataW.weights
      rw [ht]
      refine List.mem_cons_of_mem _ (List.mem_append_left _ (weightsAll_mem (d := .lit (.string u.data.toList)) ?_ ?_))
      · exact List.mem_map_of_mem hu
      · unfold DataW.weights
        exact List.mem_singleton.2 rfl
end
end Go.Sh

/-
  The protocol: a message that is handed in, opened.
-/
namespace Go.Proofs.YtmlccboapkkcfaaDoor
open Go Go.Sh
set_option maxRecDepth 100000
set_option linter.unusedVariables false
set_option linter.unusedSimpArgs false
variable {H : Type} {enc : TypeId × Value → H} {W : World}
abbrev mtab : List (TypeId × Nat × Nat) := [(Ty.int, 0, 1), (Ty.int, 1, 1), (Ty.int, 2, 1), (Ty.int, 3, 1), (Ty.int, 4, 1), (Ty.int, 5, 1), (Ty.int64, 6, 1), (Ty.int, 7, 1), (Ty.int, 8, 1), (Ty.string, 9, 1), (Ty.string, 10, 1), (Ty.string, 11, 1), (Ty.string, 12, 1), (Ty.sl_string, 13, 1), (Ty.sl_api_Qid, 14, 1), (Ty.string, 15, 1), (Ty.api_Dir, 16, 10), (Ty.api_Errno, 26, 1)]
abbrev dtab : List (TypeId × Nat × Nat) := [(Ty.api_Qid, 0, 3), (Ty.int, 3, 1), (Ty.int64, 4, 1), (Ty.int64, 5, 1), (Ty.string, 6, 1), (Ty.string, 7, 1), (Ty.string, 8, 1), (Ty.string, 9, 1)]
theorem mtab_is : ftab PP Ty.api_Msg = mtab := by kernel_rfl
theorem dtab_is : ftab PP Ty.api_Dir = dtab := by kernel_rfl
theorem c_Msg : PP.cellsOf Ty.api_Msg = 27 := by kernel_rfl
theorem c_Dir : PP.cellsOf Ty.api_Dir = 10 := by kernel_rfl
theorem c_str : PP.cellsOf Ty.string = 1 := by kernel_rfl
theorem uu_int : PP.underlying Ty.int = some (.int .i64) := by kernel_rfl
theorem uu_int64 : PP.underlying Ty.int64 = some (.int .i64) := by kernel_rfl
theorem uu_errno : PP.underlying Ty.api_Errno = some (.int .i64) := by kernel_rfl
theorem uu_str : PP.underlying Ty.string = some .string := by kernel_rfl
theorem uu_qids : PP.underlying Ty.sl_api_Qid = some (.slice Ty.api_Qid) := by kernel_rfl
theorem lvC_Qid : lvC PP 20 Ty.api_Qid = true := by kernel_rfl
theorem wf_rng {n : Int} (h : (Lit.int .i64 n).wf = true) : rngI n := by
  unfold Lit.wf at h
  rw [Bool.and_eq_true, decide_eq_true_eq, decide_eq_true_eq] at h
  exact h
theorem qid_of {r : List Value} (h : fitWL lkQid r) : ∃ q : Qi, r = qcs q ∧ q.Ok := by
  obtain ⟨x0, r, rfl, h0, h⟩ := fitWL_cons h
  obtain ⟨x1, r, rfl, h1, h⟩ := fitWL_cons h
  obtain ⟨x2, r, rfl, h2, h⟩ := fitWL_cons h
  obtain rfl := fitWL_nil h
  obtain ⟨a, rfl, -⟩ := LK.int_of h0
  obtain ⟨b, rfl, -⟩ := LK.int_of h1
  obtain ⟨c, rfl, g2⟩ := LK.int_of h2
  exact ⟨⟨a, b, c⟩, rfl, wf_rng g2⟩
theorem qids_of {rows : List (List Value)} (h : ∀ r ∈ rows, fitWL lkQid r) : ∃ qs : List Qi, rows.flatten = qqs qs ∧ rows.length = qs.length ∧ ∀ q ∈ qs, q.Ok := by
  induction rows with
  | nil => exact ⟨[], rfl, rfl, fun _ h => by cases h⟩
  | cons r rs ih =>
    obtain ⟨q, rfl, hq⟩ := qid_of (h r List.mem_cons_self)
    obtain ⟨qs, e1, e2, e3⟩ := ih fun r hr => h r (List.mem_cons_of_mem _ hr)
    refine ⟨q :: qs, ?_, by simp [e2], ?_⟩
    · show qcs q ++ rs.flatten = qcs q ++ qqs qs
      rw [e1]
    · intro q' hq'
      rcases List.mem_cons.1 hq' with rfl | hq'
      · exact hq
      · exact e3 _ hq'
theorem sv (s : BA) : Value.string s = sb (bl s) := str_sb s
theorem open_dir {fuel : Nat} {cs : List Value} {x : DataW H × List MemPlace} (h : DataW.trod enc PP W 0 (fun _ => true) true fuel Ty.api_Dir cs = some x) :
    ∃ d : Di, cs = dcs d ∧ d.Ok ∧ ∀ s, s = d.name ∨ s = d.owner ∨ s = d.group ∨ s = d.last → s.length ∈ x.1.weights PP Ty.api_Dir := by
  obtain ⟨xs, n, hx, hlen, hxs, hf⟩ := struct_parts dtab_is (by decide) h
  rw [c_Dir] at hlen
  obtain ⟨c0, c1, c2, c3, c4, c5, c6, c7, c8, c9, rfl⟩ : ∃ c0 c1 c2 c3 c4 c5 c6 c7 c8 c9, cs = [c0, c1, c2, c3, c4, c5, c6, c7, c8, c9] := by
    match cs, hlen with
    | [c0, c1, c2, c3, c4, c5, c6, c7, c8, c9], _ => exact ⟨c0, c1, c2, c3, c4, c5, c6, c7, c8, c9, rfl⟩
  obtain ⟨x0, x1, x2, x3, x4, x5, x6, x7, rfl⟩ : ∃ x0 x1 x2 x3 x4 x5 x6 x7, xs = [x0, x1, x2, x3, x4, x5, x6, x7] := by
    match xs, hxs with
    | [x0, x1, x2, x3, x4, x5, x6, x7], _ => exact ⟨x0, x1, x2, x3, x4, x5, x6, x7, rfl⟩
  have h0 : DataW.trod enc PP W 0 (fun _ => true) true n Ty.api_Qid [c0, c1, c2] = some x0 := hf 0 _ _ _ rfl
  obtain ⟨q, eq, hq⟩ := qid_of (trod_lv 20 lv_Qid lvC_Qid _ _ _ h0)
  cases eq
  have h1 : DataW.trod enc PP W 0 (fun _ => true) true n Ty.int [c3] = some x1 := hf 1 _ _ _ rfl
  obtain ⟨n1, e1, -, w1⟩ := DataW.trod_int uu_int h1
  cases e1
  have h2 : DataW.trod enc PP W 0 (fun _ => true) true n Ty.int64 [c4] = some x2 := hf 2 _ _ _ rfl
  obtain ⟨n2, e2, -, w2⟩ := DataW.trod_int uu_int64 h2
  cases e2
  have h3 : DataW.trod enc PP W 0 (fun _ => true) true n Ty.int64 [c5] = some x3 := hf 3 _ _ _ rfl
  obtain ⟨n3, e3, -, w3⟩ := DataW.trod_int uu_int64 h3
  cases e3
  have h4 : DataW.trod enc PP W 0 (fun _ => true) true n Ty.string [c6] = some x4 := hf 4 _ _ _ rfl
  obtain ⟨s4, e4, y4, -⟩ := DataW.trod_string uu_str h4
  cases e4
  have h5 : DataW.trod enc PP W 0 (fun _ => true) true n Ty.string [c7] = some x5 := hf 5 _ _ _ rfl
  obtain ⟨s5, e5, y5, -⟩ := DataW.trod_string uu_str h5
  cases e5
  have h6 : DataW.trod enc PP W 0 (fun _ => true) true n Ty.string [c8] = some x6 := hf 6 _ _ _ rfl
  obtain ⟨s6, e6, y6, -⟩ := DataW.trod_string uu_str h6
  cases e6
  have h7 : DataW.trod enc PP W 0 (fun _ => true) true n Ty.string [c9] = some x7 := hf 7 _ _ _ rfl
  obtain ⟨s7, e7, y7, -⟩ := DataW.trod_string uu_str h7
  cases e7
  refine ⟨⟨q, n1, n2, n3, bl s4, bl s5, bl s6, bl s7⟩, ?_, ⟨hq, wf_rng w2, wf_rng w3⟩, ?_⟩
  · rw [sv s4, sv s5, sv s6, sv s7]
  · rw [hx]
    rintro s (rfl | rfl | rfl | rfl)
    · exact weights_struct dtab_is (by decide) (i := 4) rfl rfl (weight_str y4)
    · exact weights_struct dtab_is (by decide) (i := 5) rfl rfl (weight_str y5)
    · exact weights_struct dtab_is (by decide) (i := 6) rfl rfl (weight_str y6)
    · exact weights_struct dtab_is (by decide) (i := 7) rfl rfl (weight_str y7)
theorem open_msg {v : Value} {d : DataW H} {ps : List MemPlace} (hs : ∃ cs : Array Value, v = .agg cs) (h : DataW.Trod enc PP W 0 (fun _ => true) true Ty.api_Msg v d ps) (hw : ∀ n ∈ d.weights PP Ty.api_Msg, n ≤ reachBytes) :
    ∃ m nv qv, v = .agg (MC m nv qv).toArray ∧ MA W Emp m nv qv := by
  obtain ⟨cs0, rfl⟩ := hs
  obtain ⟨fuel, h⟩ := h
  have h : DataW.trod enc PP W 0 (fun _ => true) true fuel Ty.api_Msg cs0.toList = some (d, ps) := h
  obtain ⟨xs, n, hx, hlen, hxs, hf⟩ := struct_parts mtab_is (by decide) h
  rw [c_Msg] at hlen
  obtain ⟨cs, hcs⟩ : ∃ cs, cs0.toList = cs := ⟨_, rfl⟩
  rw [hcs] at hlen hf
  obtain ⟨c0, c1, c2, c3, c4, c5, c6, c7, c8, c9, c10, c11, c12, c13, c14, c15, c16, c17, c18, c19, c20, c21, c22, c23, c24, c25, c26, rfl⟩ : ∃ c0 c1 c2 c3 c4 c5 c6 c7 c8 c9 c10 c11 c12 c13 c14 c15 c16 c17 c18 c19 c20 c21 c22 c23 c24 c25 c26, cs = [c0, c1, c2, c3, c4, c5, c6, c7, c8, c9, c10, c11, c12, c13, c14, c15, c16, c17, c18, c19, c20, c21, c22, c23, c24, c25, c26] := by
    match cs, hlen with
    | [c0, c1, c2, c3, c4, c5, c6, c7, c8, c9, c10, c11, c12, c13, c14, c15, c16, c17, c18, c19, c20, c21, c22, c23, c24, c25, c26], _ => exact ⟨c0, c1, c2, c3, c4, c5, c6, c7, c8, c9, c10, c11, c12, c13, c14, c15, c16, c17, c18, c19, c20, c21, c22, c23, c24, c25, c26, rfl⟩
  obtain ⟨x0, x1, x2, x3, x4, x5, x6, x7, x8, x9, x10, x11, x12, x13, x14, x15, x16, x17, rfl⟩ : ∃ x0 x1 x2 x3 x4 x5 x6 x7 x8 x9 x10 x11 x12 x13 x14 x15 x16 x17, xs = [x0, x1, x2, x3, x4, x5, x6, x7, x8, x9, x10, x11, x12, x13, x14, x15, x16, x17] := by
    match xs, hxs with
    | [x0, x1, x2, x3, x4, x5, x6, x7, x8, x9, x10, x11, x12, x13, x14, x15, x16, x17], _ => exact ⟨x0, x1, x2, x3, x4, x5, x6, x7, x8, x9, x10, x11, x12, x13, x14, x15, x16, x17, rfl⟩
  have hd : d = .agg [x0.1, x1.1, x2.1, x3.1, x4.1, x5.1, x6.1, x7.1, x8.1, x9.1, x10.1, x11.1, x12.1, x13.1, x14.1, x15.1, x16.1, x17.1] := hx
  subst hd
  have wt : ∀ {i : Nat} {T : TypeId} {o m : Nat} {e : DataW H} {n : Nat}, mtab[i]? = some (T, o, m) → [x0.1, x1.1, x2.1, x3.1, x4.1, x5.1, x6.1, x7.1, x8.1, x9.1, x10.1, x11.1, x12.1, x13.1, x14.1, x15.1, x16.1, x17.1][i]? = some e → n ∈ e.weights PP T → n ≤ 140737488355328 := by
    intro i T o m e n h1 h2 h3
    have := hw n (weights_struct mtab_is (by decide) h1 h2 h3)
    unfold reachBytes at this
    omega
  have h0 : DataW.trod enc PP W 0 (fun _ => true) true n Ty.int [c0] = some x0 := hf 0 _ _ _ rfl
  obtain ⟨n0, e0, -, w0⟩ := DataW.trod_int uu_int h0
  cases e0
  have h1 : DataW.trod enc PP W 0 (fun _ => true) true n Ty.int [c1] = some x1 := hf 1 _ _ _ rfl
  obtain ⟨n1, e1, -, w1⟩ := DataW.trod_int uu_int h1
  cases e1
  have h2 : DataW.trod enc PP W 0 (fun _ => true) true n Ty.int [c2] = some x2 := hf 2 _ _ _ rfl
  obtain ⟨n2, e2, -, w2⟩ := DataW.trod_int uu_int h2
  cases e2
  have h3 : DataW.trod enc PP W 0 (fun _ => true) true n Ty.int [c3] = some x3 := hf 3 _ _ _ rfl
  obtain ⟨n3, e3, -, w3⟩ := DataW.trod_int uu_int h3
  cases e3
  have h4 : DataW.trod enc PP W 0 (fun _ => true) true n Ty.int [c4] = some x4 := hf 4 _ _ _ rfl
  obtain ⟨n4, e4, -, w4⟩ := DataW.trod_int uu_int h4
  cases e4
  have h5 : DataW.trod enc PP W 0 (fun _ => true) true n Ty.int [c5] = some x5 := hf 5 _ _ _ rfl
  obtain ⟨n5, e5, -, w5⟩ := DataW.trod_int uu_int h5
  cases e5
  have h6 : DataW.trod enc PP W 0 (fun _ => true) true n Ty.int64 [c6] = some x6 := hf 6 _ _ _ rfl
  obtain ⟨n6, e6, -, w6⟩ := DataW.trod_int uu_int64 h6
  cases e6
  have h7 : DataW.trod enc PP W 0 (fun _ => true) true n Ty.int [c7] = some x7 := hf 7 _ _ _ rfl
  obtain ⟨n7, e7, -, w7⟩ := DataW.trod_int uu_int h7
  cases e7
  have h8 : DataW.trod enc PP W 0 (fun _ => true) true n Ty.int [c8] = some x8 := hf 8 _ _ _ rfl
  obtain ⟨n8, e8, -, w8⟩ := DataW.trod_int uu_int h8
  cases e8
  have h9 : DataW.trod enc PP W 0 (fun _ => true) true n Ty.string [c9] = some x9 := hf 9 _ _ _ rfl
  obtain ⟨s9, e9, y9, -⟩ := DataW.trod_string uu_str h9
  cases e9
  have h10 : DataW.trod enc PP W 0 (fun _ => true) true n Ty.string [c10] = some x10 := hf 10 _ _ _ rfl
  obtain ⟨s10, e10, y10, -⟩ := DataW.trod_string uu_str h10
  cases e10
  have h11 : DataW.trod enc PP W 0 (fun _ => true) true n Ty.string [c11] = some x11 := hf 11 _ _ _ rfl
  obtain ⟨s11, e11, y11, -⟩ := DataW.trod_string uu_str h11
  cases e11
  have h12 : DataW.trod enc PP W 0 (fun _ => true) true n Ty.string [c12] = some x12 := hf 12 _ _ _ rfl
  obtain ⟨s12, e12, y12, -⟩ := DataW.trod_string uu_str h12
  cases e12
  have h15 : DataW.trod enc PP W 0 (fun _ => true) true n Ty.string [c15] = some x15 := hf 15 _ _ _ rfl
  obtain ⟨s15, e15, y15, -⟩ := DataW.trod_string uu_str h15
  cases e15
  have h17 : DataW.trod enc PP W 0 (fun _ => true) true n Ty.api_Errno [c26] = some x17 := hf 17 _ _ _ rfl
  obtain ⟨n17, e17, -, w17⟩ := DataW.trod_int uu_errno h17
  cases e17
  have h13 : DataW.trod enc PP W 0 (fun _ => true) true n Ty.sl_string [c13] = some x13 := hf 13 _ _ _ rfl
  obtain ⟨tx, hR, hT⟩ := strs_open u_names uu_str c_str h13
  have h14 : DataW.trod enc PP W 0 (fun _ => true) true n Ty.sl_api_Qid [c14] = some x14 := hf 14 _ _ _ rfl
  obtain ⟨rows, hQ, hfit⟩ := rdl_structs0 uu_qids lv_Qid lvC_Qid (by decide) h14
  obtain ⟨qs, e1, e2, e3⟩ := qids_of hfit
  rw [e1, e2] at hQ
  have h16 : DataW.trod enc PP W 0 (fun _ => true) true n Ty.api_Dir [c16, c17, c18, c19, c20, c21, c22, c23, c24, c25] = some x16 := hf 16 _ _ _ rfl
  obtain ⟨di, ed, hdo, hdw⟩ := open_dir h16
  cases ed
  refine ⟨⟨n0, n1, n2, n3, n4, n5, n6, n7, n8, bl s9, bl s10, bl s11, bl s12, tx.map bl, qs, bl s15, di, n17⟩, c13, c14, ?_, ?_⟩
  · have e : cs0.toList = MC ⟨n0, n1, n2, n3, n4, n5, n6, n7, n8, bl s9, bl s10, bl s11, bl s12, tx.map bl, qs, bl s15, di, n17⟩ c13 c14 := by
      rw [hcs, sv s9, sv s10, sv s11, sv s12, sv s15]
    rw [← e]
  · have hnm : (tx.map bl).map sb = tx.map Value.string := by
      rw [List.map_map]
      apply List.map_congr_left
      intro s _
      exact (str_sb s).symm
    exact {
      ok := ⟨wf_rng w6, e3, hdo⟩
      rg := ⟨wf_rng w2, wf_rng w3, wf_rng w4, wf_rng w5, wf_rng w7, wf_rng w8, wf_rng w17⟩
      kd := wf_rng w0
      b := { t := ⟨wt (i := 9) rfl rfl (weight_str y9), wt (i := 10) rfl rfl (weight_str y10), wt (i := 11) rfl rfl (weight_str y11), wt (i := 12) rfl rfl (weight_str y12), wt (i := 15) rfl rfl (weight_str y15)⟩
             d := ⟨wt (i := 16) rfl rfl (hdw _ (.inl rfl)), wt (i := 16) rfl rfl (hdw _ (.inr (.inl rfl))), wt (i := 16) rfl rfl (hdw _ (.inr (.inr (.inl rfl)))), wt (i := 16) rfl rfl (hdw _ (.inr (.inr (.inr rfl))))⟩
             n := fun s hs => by
               obtain ⟨t, ht, rfl⟩ := List.mem_map.1 hs
               exact wt (i := 13) rfl rfl (hT t ht) }
      rn := fun l => by
        have := RdS.old (l := l) hR fun b (h : Emp b) => h
        rw [List.length_map] at this
        show RdS W Emp l 1 (tx.map bl).length c13 ((tx.map bl).map sb)
        rw [hnm, List.length_map]
        exact this
      rq := fun l => RdS.oldA hQ fun b h => h }
end Go.Proofs.YtmlccboapkkcfaaDoor

/-
  The protocol: the Dir at the beginning of a text.
-/
namespace Go.Proofs.YtmlccboapkkcfaaDoor
open Go Go.Sh
set_option maxRecDepth 100000
set_option linter.unusedVariables false
set_option linter.unusedSimpArgs false
variable {w0 w : World} {F : Nat → Prop} {l : List As}
end Go.Proofs.YtmlccboapkkcfaaDoor

/-
  The protocol: the Dirs of a text.
-/
namespace Go.Proofs.YtmlccboapkkcfaaDoor
open Go Go.Sh
set_option maxRecDepth 100000
set_option linter.unusedVariables false
set_option linter.unusedSimpArgs false
variable {w0 w : World} {F : Nat → Prop} {l : List As}
def drW (done : List Di) (x : List Di × Int) : List Di × Int := if x.2 = 0 then (done ++ x.1, 0) else ([], x.2)
end Go.Proofs.YtmlccboapkkcfaaDoor

/-
  The protocol: Entries.
-/
namespace Go.Proofs.YtmlccboapkkcfaaDoor
open Go Go.Sh
set_option maxRecDepth 100000
set_option linter.unusedVariables false
set_option linter.unusedSimpArgs false
variable {w0 w : World} {F : Nat → Prop} {l : List As}
def bigQ (count : Int) : List (List UInt8) → Bool
  | [] => false
  | y :: _ => decide ((y.length : Int) > count)
def entR (count : Int) (Q : List (List UInt8)) : List UInt8 × Int := if bigQ count Q then ([], 3) else (tkn count [] Q, 0)
def entW (count : Int) (x : Int × List (List UInt8)) : List UInt8 × Int := if count < 0 ∨ x.1 ≠ 0 then ([], 11) else entR count x.2
end Go.Proofs.YtmlccboapkkcfaaDoor

/-
  The protocol: whether one of some Dirs is as a function says; how great they may be (chapter 31's fewDirs).
-/
namespace Go.Proofs.YtmlccboapkkcfaaDoor
open Go Go.Sh
set_option maxRecDepth 100000
set_option linter.unusedVariables false
set_option linter.unusedSimpArgs false
variable {w0 w : World} {F : Nat → Prop} {l : List As}
/-- No text of a Dir is greater than this. -/
def DB (d : Di) : Prop := d.name.length ≤ 140737488355328 ∧ d.owner.length ≤ 140737488355328 ∧ d.group.length ≤ 140737488355328 ∧ d.last.length ≤ 140737488355328
def fewD (xs : List Di) : Bool := decide (xs.length ≤ 20) && !xs.any fun d => decide (droom d > 3000)
end Go.Proofs.YtmlccboapkkcfaaDoor

/-
  The protocol: slices of Dirs, of messages and of small numbers that are handed in, opened.
-/
namespace Go.Sh
open Go Go.ChangeShapes Go.WideShapes
section
variable {P : Program} {H : Type} {enc : TypeId × Value → H} {W : World}
theorem weights_slice {t e : TypeId} (ht : P.underlying t = some (.slice e)) {es rs : List (DataW H)} {d : DataW H} {n : Nat} (hd : d ∈ es) (hn : n ∈ d.weights P e) : n ∈ (DataW.slice es rs).weights P t := by
  unfold DataW.weights
  rw [ht]
  exact List.mem_cons_of_mem _ (List.mem_append_left _ (weightsAll_mem hd hn))
theorem rows_open {α : Type} {t e : TypeId} {sz : Nat} {f : α → List Value} {Q : α → DataW H → Prop} {v : Value} {fuel : Nat} {x : DataW H × List MemPlace} (ht : P.underlying t = some (.slice e)) (hsz : P.cellsOf e = sz) (hpos : 0 < sz) (hfl : ∀ d, (f d).length = sz)
    (step : ∀ (fuel : Nat) (cs : List Value) (x : DataW H × List MemPlace), DataW.trod enc P W 0 (fun _ => true) true fuel e cs = some x → ∃ d, cs = f d ∧ Q d x.1)
    (hf : DataW.trod enc P W 0 (fun _ => true) true fuel t [v] = some x) : ∃ ds : List α, RdlA W v sz ds.length (ds.flatMap f) ∧ ∀ d ∈ ds, ∃ y, Q d y ∧ ∀ n ∈ y.weights P e, n ∈ x.1.weights P t := by
  rcases DataW.trod_slice ht hf with ⟨hcs, -⟩ | ⟨a, len, cap, elems, rest, n, -, hcs, hx1, -, hle, hmx, hlen, hel, -, -⟩
  · have : v = .slice none 0 0 := by simpa using hcs
    rw [this]
    exact ⟨[], ⟨none, 0, rfl, Nat.le_refl _, Nat.zero_le _, by simp, .inl rfl⟩, fun _ h => by cases h⟩
  · have : v = .slice (some a) len cap := by simpa using hcs
    rw [this]
    rw [hsz] at hel
    have each : ∀ i : Fin len, ∃ d : α, ∃ y, y ∈ elems.map (·.1) ∧ Q d y ∧ ∀ k, k < sz → W.cell? (a.add (i.1 * sz + k)) = (f d)[k]? := by
      rintro ⟨i, hi⟩
      have h1 := hel i hi
      rw [List.getElem?_eq_getElem (show i < elems.length by omega), Option.bind_eq_some_iff] at h1
      obtain ⟨r, hr, hx⟩ := h1
      obtain ⟨-, h2, h3⟩ := World.cells?_some hr
      obtain ⟨d, rfl, hq⟩ := step _ _ _ hx
      refine ⟨d, _, List.mem_map_of_mem (List.getElem_mem _), hq, fun k hk => ?_⟩
      have := h3 k hk
      have e : (a.add (i * sz)).add k = a.add (i * sz + k) := by
        generalize i * sz = m
        unfold Addr.add
        by_cases h1 : m = 0 <;> by_cases h2 : k = 0 <;> simp [h1, h2, Nat.add_assoc]
      rwa [e] at this
    obtain ⟨g, hg⟩ : ∃ g : Fin len → α, ∀ i, ∃ y, y ∈ elems.map (·.1) ∧ Q (g i) y ∧ ∀ k, k < sz → W.cell? (a.add (i.1 * sz + k)) = (f (g i))[k]? := ⟨fun i => (each i).choose, fun i => (each i).choose_spec⟩
    refine ⟨List.ofFn g, ?_, ?_⟩
    · rw [List.length_ofFn]
      have hrl : ∀ r ∈ (List.ofFn g).map f, r.length = sz := by
        intro r hr
        obtain ⟨i, _, rfl⟩ := List.mem_map.1 hr
        exact hfl _
      rw [List.flatMap_def]
      refine ⟨some a, cap, rfl, hle, Nat.le_trans hle hmx, by rw [flat_len hrl, List.length_map, List.length_ofFn], ?_⟩
      by_cases h0 : len = 0
      · left; subst h0; simp
      right
      obtain ⟨y0, -, -, hc0⟩ := hg ⟨0, by omega⟩
      have hc0 := hc0 0 hpos
      have hl0 := hfl (g ⟨0, by omega⟩)
      rw [List.getElem?_eq_getElem (show 0 < (f (g ⟨0, by omega⟩)).length by omega)] at hc0
      obtain ⟨ea, hb⟩ := spot_none hc0
      have e0 : a.add (0 * sz + 0) = a := by cases a; simp [Addr.add]
      rw [show a.add ((⟨0, by omega⟩ : Fin len).1 * sz + 0) = a from e0] at ea hb
      refine ⟨a.block, a.off, by rw [← ea], hb, fun j x hx => ?_⟩
      obtain ⟨i, k, r, h1, h2, h3, h4⟩ := flat_get hrl hx
      rw [List.getElem?_map] at h1
      obtain ⟨i', hi', rfl⟩ := Option.map_eq_some_iff.1 h1
      obtain ⟨hi2, hi3⟩ := List.getElem?_eq_some_iff.1 hi'
      rw [List.length_ofFn] at hi2
      rw [List.getElem_ofFn] at hi3
      obtain ⟨-, -, -, h6⟩ := hg ⟨i, hi2⟩
      have := h6 k h2
      rw [hi3, h4, ← h3, ea, add_mk] at this
      exact this
    · intro d hd
      obtain ⟨i, rfl⟩ := List.mem_ofFn.1 hd
      obtain ⟨y, hy, hq, -⟩ := hg i
      refine ⟨y, hq, fun n hn => ?_⟩
      rw [hx1]
      exact weights_slice ht hy hn
end
end Go.Sh
namespace Go.Proofs.YtmlccboapkkcfaaDoor
open Go Go.Sh
set_option maxRecDepth 100000
set_option linter.unusedVariables false
set_option linter.unusedSimpArgs false
variable {H : Type} {enc : TypeId × Value → H} {W : World}
theorem u_u16s : PP.underlying Ty.sl_uint16 = some (.slice Ty.uint16) := by kernel_rfl
theorem u_u16 : PP.underlying Ty.uint16 = some (.int .u16) := by kernel_rfl
theorem c_u16 : PP.cellsOf Ty.uint16 = 1 := by kernel_rfl
theorem open_u16s {v : Value} {d : DataW H} {ps : List MemPlace} (hs : ∃ a n c, v = .slice a n c) (h : DataW.Trod enc PP W 0 (fun _ => true) true Ty.sl_uint16 v d ps) :
    ∃ cs : List Int, (∀ c ∈ cs, 0 ≤ c ∧ c < 65536) ∧ ∀ l, RdS W Emp l 1 cs.length v (cs.map (Value.int .u16)) := by
  obtain ⟨a0, n0, c0, rfl⟩ := hs
  obtain ⟨fuel, hf⟩ := h
  obtain ⟨cs, h1, h2⟩ := rows_open (v := .slice a0 n0 c0) (sz := 1) (f := fun n => [Value.int .u16 n]) (Q := fun (n : Int) (_ : DataW H) => 0 ≤ n ∧ n < 65536) u_u16s c_u16 (by decide) (fun _ => rfl) (fun _ _ _ h => by
    obtain ⟨n, e1, -, e3⟩ := DataW.trod_int u_u16 h
    refine ⟨n, e1, ?_⟩
    unfold Lit.wf at e3
    rw [Bool.and_eq_true, decide_eq_true_eq, decide_eq_true_eq] at e3
    have h4 : (0 : Int) ≤ n := e3.1
    have h5 : n ≤ 65535 := e3.2
    omega) hf
  refine ⟨cs, fun c hc => (h2 c hc).elim fun _ h => h.1, fun l => ?_⟩
  rw [show cs.map (Value.int .u16) = cs.flatMap fun n => [Value.int .u16 n] from List.map_eq_flatMap]
  exact RdS.oldA h1 fun b h => h
theorem open_msgs {v : Value} {d : DataW H} {ps : List MemPlace} (hs : ∃ a n c, v = .slice a n c) (h : DataW.Trod enc PP W 0 (fun _ => true) true Ty.sl_api_Msg v d ps) (hw : ∀ n ∈ d.weights PP Ty.sl_api_Msg, n ≤ reachBytes) (u_msgs : PP.underlying Ty.sl_api_Msg = some (.slice Ty.api_Msg)) :
    ∃ ms : List (Ms × Value × Value), (∀ m ∈ ms, MA W Emp m.1 m.2.1 m.2.2) ∧ ∀ l, RdS W Emp l 27 ms.length v (ms.flatMap fun m => MC m.1 m.2.1 m.2.2) := by
  obtain ⟨a0, n0, c0, rfl⟩ := hs
  obtain ⟨fuel, hf⟩ := h
  have hw' : ∀ x : Ms × Value × Value, (MC x.1 x.2.1 x.2.2).length = 27 := fun _ => rfl
  obtain ⟨ms, h1, h2⟩ := rows_open (v := .slice a0 n0 c0) (sz := 27) (f := fun m : Option (Ms × Value × Value) × List Value => if m.2.length = 27 then m.2 else List.replicate 27 nilV) (Q := fun (m : Option (Ms × Value × Value) × List Value) (y : DataW H) => m.2.length = 27 ∧ ((∀ n ∈ y.weights PP Ty.api_Msg, n ≤ reachBytes) → ∃ m' : Ms × Value × Value, m.2 = MC m'.1 m'.2.1 m'.2.2 ∧ MA W Emp m'.1 m'.2.1 m'.2.2)) u_msgs c_Msg (by decide) (fun m => by split <;> simp_all) (fun fuel cs x h => by
    obtain ⟨-, -, -, hlen, -⟩ := struct_parts mtab_is (by decide) h
    rw [c_Msg] at hlen
    refine ⟨(none, cs), by rw [if_pos hlen], hlen, fun hwt => ?_⟩
    obtain ⟨m, nv, qv, e1, e2⟩ := open_msg (v := .agg cs.toArray) (d := x.1) (ps := x.2) ⟨_, rfl⟩ ⟨fuel, by simpa [Value.cells] using h⟩ hwt
    refine ⟨(m, nv, qv), ?_, e2⟩
    have := congrArg (fun v => match v with | .agg a => a.toList | _ => []) e1
    simpa using this) hf
  have h3 : ∀ m ∈ ms, ∃ m' : Ms × Value × Value, m.2 = MC m'.1 m'.2.1 m'.2.2 ∧ MA W Emp m'.1 m'.2.1 m'.2.2 := by
    intro m hm
    obtain ⟨y, ⟨-, hq⟩, hn⟩ := h2 m hm
    exact hq fun n h => hw _ (hn n h)
  clear h2 hf
  have key : ∀ L : List (Option (Ms × Value × Value) × List Value), (∀ m ∈ L, ∃ m' : Ms × Value × Value, m.2 = MC m'.1 m'.2.1 m'.2.2 ∧ MA W Emp m'.1 m'.2.1 m'.2.2) → ∃ L' : List (Ms × Value × Value), L'.length = L.length ∧ (L'.flatMap fun m => MC m.1 m.2.1 m.2.2) = (L.flatMap fun m => if m.2.length = 27 then m.2 else List.replicate 27 nilV) ∧ ∀ m ∈ L', MA W Emp m.1 m.2.1 m.2.2 := by
    intro L
    induction L with
    | nil => intro _; exact ⟨[], rfl, rfl, fun _ h => by cases h⟩
    | cons m r ih =>
      intro h
      obtain ⟨m', e1, e2⟩ := h m List.mem_cons_self
      obtain ⟨r', e3, e4, e5⟩ := ih fun x hx => h x (List.mem_cons_of_mem _ hx)
      refine ⟨m' :: r', by simp [e3], ?_, ?_⟩
      · rw [List.flatMap_cons, List.flatMap_cons, e4, e1, if_pos (hw' m')]
      · intro x hx
        rcases List.mem_cons.1 hx with rfl | hx
        · exact e2
        · exact e5 x hx
  obtain ⟨L', e1, e2, e3⟩ := key ms h3
  refine ⟨L', e3, fun l => ?_⟩
  rw [e1, e2]
  exact RdS.oldA h1 fun b h => h
end Go.Proofs.YtmlccboapkkcfaaDoor
