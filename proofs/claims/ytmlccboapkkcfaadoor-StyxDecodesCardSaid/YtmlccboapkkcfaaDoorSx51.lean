/-
  The protocol: the reader of fields visits a message.
-/
import Derived.Test.YtmlccboapkkcfaaDoorSx20
import Derived.Test.YtmlccboapkkcfaaDoorSx8
namespace Go.Proofs.YtmlccboapkkcfaaDoor
open Go Go.Sh
set_option maxRecDepth 100000
set_option linter.unusedVariables false
set_option linter.unusedSimpArgs false
variable {w0 w : World} {F : Nat → Prop} {l : List As}
variable {i mb : Nat} {I : Ip} {m : Ms} {nv qv : Value}
theorem ifl0 (m : Ms) (I : Ip) : Ip.flds [] m I = (m, I) := rfl
theorem ifl1 (m : Ms) (I : Ip) (a : Fl) : Ip.flds [a] m I = Ip.fld m I a := rfl
theorem ifl2 (m : Ms) (I : Ip) (a b : Fl) : Ip.flds [a, b] m I = Ip.fld (Ip.fld m I a).1 (Ip.fld m I a).2 b := rfl
theorem ifl3 (m : Ms) (I : Ip) (a b c : Fl) : Ip.flds [a, b, c] m I = Ip.fld (Ip.fld (Ip.fld m I a).1 (Ip.fld m I a).2 b).1 (Ip.fld (Ip.fld m I a).1 (Ip.fld m I a).2 b).2 c := rfl
theorem ifl4 (m : Ms) (I : Ip) (a b c d : Fl) : Ip.flds [a, b, c, d] m I = Ip.fld (Ip.fld (Ip.fld (Ip.fld m I a).1 (Ip.fld m I a).2 b).1 (Ip.fld (Ip.fld m I a).1 (Ip.fld m I a).2 b).2 c).1 (Ip.fld (Ip.fld (Ip.fld m I a).1 (Ip.fld m I a).2 b).1 (Ip.fld (Ip.fld m I a).1 (Ip.fld m I a).2 b).2 c).2 d := rfl
/-- What a visit leaves. -/
def IPo (w0 : World) (F : Nat → Prop) (i mb : Nat) (l : List As) (x : Ms × Ip) (w : World) : Prop :=
  ∃ nv qv X, RdS w0 F X 1 x.1.names.length nv (x.1.names.map sb) ∧ RdS w0 F X 3 x.1.qids.length qv (qqs x.1.qids) ∧ IT w0 F i x.2 (mA mb x.1 nv qv :: (X ++ l)) w
theorem rds_nil {sz : Nat} : RdS w0 F l sz 0 nilV [] := ⟨none, 0, rfl, Nat.le_refl _, by simp, .inl rfl⟩
theorem ipo_nil {x : Ms × Ip} (h1 : x.1.names = []) (h2 : x.1.qids = []) (E : IT w0 F i x.2 (mA mb x.1 nilV nilV :: l) w) : IPo w0 F i mb l x w := by
  refine ⟨nilV, nilV, [], ?_, ?_, E⟩
  · rw [h1]; exact rds_nil
  · rw [h2]; exact rds_nil
theorem ipo_n {x : Ms × Ip} {v : Value} (h2 : x.1.qids = []) (E : IT w0 F i x.2 (mA mb x.1 v nilV :: slA v Ty.string 1 (x.1.names.map sb) :: l) w) : IPo w0 F i mb l x w := by
  refine ⟨v, nilV, [slA v Ty.string 1 (x.1.names.map sb)], ?_, ?_, E⟩
  · have := RdS.sl (T := Ty.string) (v := v) (sz := 1) (xs := x.1.names.map sb) (l := [slA v Ty.string 1 (x.1.names.map sb)]) List.mem_cons_self (by omega) (E.rest.tl.drop (.cons_cons _ (List.nil_sublist _)))
    rwa [List.length_map, Nat.div_one] at this
  · rw [h2]; exact rds_nil
theorem ipo_Q {x : Ms × Ip} {v : Value} (h1 : x.1.names = []) (E : IT w0 F i x.2 (mA mb x.1 nilV v :: slA v Ty.api_Qid 3 (qqs x.1.qids) :: l) w) : IPo w0 F i mb l x w := by
  refine ⟨nilV, v, [slA v Ty.api_Qid 3 (qqs x.1.qids)], ?_, ?_, E⟩
  · rw [h1]; exact rds_nil
  · have := RdS.sl (T := Ty.api_Qid) (v := v) (sz := 3) (xs := qqs x.1.qids) (l := [slA v Ty.api_Qid 3 (qqs x.1.qids)]) List.mem_cons_self (by omega) (E.rest.tl.drop (.cons_cons _ (List.nil_sublist _)))
    rwa [qqs_len, Nat.mul_div_cancel _ (by omega)] at this
theorem ipo_q {x : Ms × Ip} {qb : Nat} {q : Qi} (h1 : x.1.names = []) (h2 : x.1.qids = [q]) (E : IT w0 F i x.2 (mA mb x.1 nilV (oneV qb) :: pt qb (oc (qcs q) Ty.api_Qid) :: l) w) : IPo w0 F i mb l x w := by
  refine ⟨nilV, oneV qb, [pt qb (oc (qcs q) Ty.api_Qid)], ?_, ?_, E⟩
  · rw [h1]; exact rds_nil
  · rw [h2]
    exact ⟨_, 1, rfl, Nat.le_refl _, rfl, .inr ⟨_, rfl, RdP.pt (off := 0) (cs := qcs q) (T := Ty.api_Qid) List.mem_cons_self⟩⟩
theorem il_S (E : IT w0 F i I (mA mb m nv qv :: l) w) : Ca PP Fn.styx_input_num #[ptr i, .pointer (some ⟨mb, 5, none⟩), i64 4] w fun q w' => q = .tuple #[] ∧ IT w0 F i (Ip.fld m I .xS).2 (mA mb (Ip.fld m I .xS).1 nv qv :: l) w' :=
  (inum_ok (k := 4) (by omega) (by simp) E).mono fun r w' h => h
theorem il_f (E : IT w0 F i I (mA mb m nv qv :: l) w) : Ca PP Fn.styx_input_num #[ptr i, .pointer (some ⟨mb, 2, none⟩), i64 4] w fun q w' => q = .tuple #[] ∧ IT w0 F i (Ip.fld m I .xf).2 (mA mb (Ip.fld m I .xf).1 nv qv :: l) w' :=
  (inum_ok (k := 4) (by omega) (by simp) E).mono fun r w' h => h
theorem il_o (E : IT w0 F i I (mA mb m nv qv :: l) w) : Ca PP Fn.styx_input_num #[ptr i, .pointer (some ⟨mb, 3, none⟩), i64 4] w fun q w' => q = .tuple #[] ∧ IT w0 F i (Ip.fld m I .xo).2 (mA mb (Ip.fld m I .xo).1 nv qv :: l) w' :=
  (inum_ok (k := 4) (by omega) (by simp) E).mono fun r w' h => h
theorem il_d (E : IT w0 F i I (mA mb m nv qv :: l) w) : Ca PP Fn.styx_input_num #[ptr i, .pointer (some ⟨mb, 4, none⟩), i64 2] w fun q w' => q = .tuple #[] ∧ IT w0 F i (Ip.fld m I .xd).2 (mA mb (Ip.fld m I .xd).1 nv qv :: l) w' :=
  (inum_ok (k := 2) (by omega) (by simp) E).mono fun r w' h => h
theorem il_m (E : IT w0 F i I (mA mb m nv qv :: l) w) : Ca PP Fn.styx_input_num #[ptr i, .pointer (some ⟨mb, 7, none⟩), i64 1] w fun q w' => q = .tuple #[] ∧ IT w0 F i (Ip.fld m I .xm).2 (mA mb (Ip.fld m I .xm).1 nv qv :: l) w' :=
  (inum_ok (k := 1) (by omega) (by simp) E).mono fun r w' h => h
theorem il_p (E : IT w0 F i I (mA mb m nv qv :: l) w) : Ca PP Fn.styx_input_num #[ptr i, .pointer (some ⟨mb, 8, none⟩), i64 4] w fun q w' => q = .tuple #[] ∧ IT w0 F i (Ip.fld m I .xp).2 (mA mb (Ip.fld m I .xp).1 nv qv :: l) w' :=
  (inum_ok (k := 4) (by omega) (by simp) E).mono fun r w' h => h
theorem il_v (E : IT w0 F i I (mA mb m nv qv :: l) w) : Ca PP Fn.styx_input_text #[ptr i, .pointer (some ⟨mb, 9, none⟩)] w fun q w' => q = .tuple #[] ∧ IT w0 F i (Ip.fld m I .xv).2 (mA mb (Ip.fld m I .xv).1 nv qv :: l) w' :=
  (itext_ok (by simp) E).mono fun r w' h => h
theorem il_u (E : IT w0 F i I (mA mb m nv qv :: l) w) : Ca PP Fn.styx_input_text #[ptr i, .pointer (some ⟨mb, 10, none⟩)] w fun q w' => q = .tuple #[] ∧ IT w0 F i (Ip.fld m I .xu).2 (mA mb (Ip.fld m I .xu).1 nv qv :: l) w' :=
  (itext_ok (by simp) E).mono fun r w' h => h
theorem il_t (E : IT w0 F i I (mA mb m nv qv :: l) w) : Ca PP Fn.styx_input_text #[ptr i, .pointer (some ⟨mb, 11, none⟩)] w fun q w' => q = .tuple #[] ∧ IT w0 F i (Ip.fld m I .xt).2 (mA mb (Ip.fld m I .xt).1 nv qv :: l) w' :=
  (itext_ok (by simp) E).mono fun r w' h => h
theorem il_N (E : IT w0 F i I (mA mb m nv qv :: l) w) : Ca PP Fn.styx_input_text #[ptr i, .pointer (some ⟨mb, 12, none⟩)] w fun q w' => q = .tuple #[] ∧ IT w0 F i (Ip.fld m I .xN).2 (mA mb (Ip.fld m I .xN).1 nv qv :: l) w' :=
  (itext_ok (by simp) E).mono fun r w' h => h
theorem il_D (E : IT w0 F i I (mA mb m nv qv :: l) w) : Ca PP Fn.styx_input_data #[ptr i, .pointer (some ⟨mb, 15, none⟩)] w fun q w' => q = .tuple #[] ∧ IT w0 F i (Ip.fld m I .xD).2 (mA mb (Ip.fld m I .xD).1 nv qv :: l) w' :=
  (idata_ok (by simp) E).mono fun r w' h => h
theorem il_O (E : IT w0 F i I (mA mb m nv qv :: l) w) : Ca PP Fn.styx_input_long #[ptr i, .pointer (some ⟨mb, 6, none⟩)] w fun q w' => q = .tuple #[] ∧ IT w0 F i (Ip.fld m I .xO).2 (mA mb (Ip.fld m I .xO).1 nv qv :: l) w' :=
  (ilong_ok (by simp) E).mono fun r w' h => h
theorem il_n (E : IT w0 F i I (mA mb m nilV nilV :: l) w) : Ca PP Fn.styx_input_names #[ptr i, .pointer (some ⟨mb, 13, none⟩)] w fun q w' => q = .tuple #[] ∧ ∃ v, IT w0 F i (Ip.fld m I .xn).2 (mA mb (Ip.fld m I .xn).1 v nilV :: slA v Ty.string 1 ((Ip.fld m I .xn).1.names.map sb) :: l) w' :=
  (inames_ok (by simp) rfl E).mono fun r w' h => h
theorem il_Q (E : IT w0 F i I (mA mb m nilV nilV :: l) w) : Ca PP Fn.styx_input_qids #[ptr i, .pointer (some ⟨mb, 14, none⟩)] w fun q w' => q = .tuple #[] ∧ ∃ v, IT w0 F i (Ip.fld m I .xQ).2 (mA mb (Ip.fld m I .xQ).1 nilV v :: slA v Ty.api_Qid 3 (qqs (Ip.fld m I .xQ).1.qids) :: l) w' :=
  (iqids_ok (by simp) rfl E).mono fun r w' h => h
theorem il_i (E : IT w0 F i I (mA mb m nv qv :: l) w) : Ca PP Fn.styx_input_dir #[ptr i, .pointer (some ⟨mb, 16, none⟩)] w fun q w' => q = .tuple #[] ∧ IT w0 F i (Ip.fld m I .xi).2 (mA mb (Ip.fld m I .xi).1 nv qv :: l) w' :=
  (idir_ok (pre := (MC m nv qv).take 16) (post := [i64 m.code]) rfl E).mono fun r w' h => h
theorem il_q (hm : m.qids = []) (E : IT w0 F i I (mA mb m nv nilV :: l) w) :
    Ca PP Fn.styx_one #[.iface Ty.p_styx_input (ptr i), ptr mb] w fun q w' => q = .tuple #[] ∧ ∃ qb, IT w0 F i (Ip.fld m I .xq).2 (mA mb (Ip.fld m I .xq).1 nv (oneV qb) :: pt qb (oc (qcs I.qid.1) Ty.api_Qid) :: l) w' := by
  refine S.styx_one.calls ?_
  unfold S.styx_one
  obtain ⟨r, t, n, e, E, h⟩ := E
  (intro J1 hJ1)
  have fin1 : ∀ qb w_, Hs w0 F w_ (pt i (oc [ptr r, .bool I.bad, .bool I.ov, .bool I.cut] Ty.styx_input) :: rA r t n e :: pt qb (oc [i64 0, i64 0, i64 0] Ty.api_Qid) :: mA mb m nv (oneV qb) :: l) → J1 [] w_ := by
    intro qb w_ E
    (repeat with_reducible first | refine Stp.go ?_ | refine StpE.go E ?_ | (apply hJ1; intro u_))
    refine ⟨_, 1, 1, .i64, 0, rfl, rfl, by omega, by decide, ?_⟩
    show Ca PP Fn.styx_qid #[.iface Ty.p_styx_input (ptr i), ptr qb] w_ _
    refine (iqid_ok (pre := []) (post := []) rfl rfl ⟨r, t, n, e, E, h⟩).mono ?_
    clear E h
    rintro q w_ ⟨rfl, E⟩
    exact ⟨rfl, qb, E.sw⟩
  clear hJ1
  (repeat first | (with_reducible first | refine Stp.go ?_ | refine StpE.go E ?_ | refine LnL.nil ?_) | ((with_reducible refine Bi.dec true ?_ ?_); focus exact rfl))
  refine MkQ E ?_
  clear E
  intro qb w_ hqb E
  (repeat with_reducible first | refine Stp.go ?_ | (refine StpW.go E ?_; clear E; intro w_ E))
  (replace E := (((E.bIx 0).bIx 2).bIx 2))
  exact fin1 qb _ E
theorem ik_100 (hk : m.kind = 100) (hn : m.names = []) (hq : m.qids = []) (E : IT w0 F i I (mA mb m nilV nilV :: l) w) :
    Ca PP Fn.styx_fields #[.iface Ty.p_styx_input (ptr i), ptr mb] w fun q w' => q = .tuple #[] ∧ IPo w0 F i mb l (Ip.flds [.xS, .xv] m I) w' := by
  refine S.styx_fields.calls ?_
  unfold S.styx_fields
  obtain ⟨r, t, n, e, E, h⟩ := E
  (repeat with_reducible first | refine Stp.go ?_ | refine StpE.go E ?_)
  rw [hk, ifl2]
  (repeat first | (with_reducible first | refine Stp.go ?_ | (refine StpW.go E ?_; clear E; intro w_ E) | (apply hJ_; intro u_)) | ((with_reducible refine Bi.dec true ?_ ?_); focus exact rfl) | (intro J_ hJ_))
  refine (il_S ⟨r, t, n, e, E, h⟩).mono ?_
  clear E h
  rintro q w_ ⟨rfl, r, t, n, e, E, h⟩
  (repeat with_reducible first | refine Stp.go ?_ | (refine StpW.go E ?_; clear E; intro w_ E))
  refine (il_v ⟨r, t, n, e, E, h⟩).mono ?_
  clear E h
  rintro q w_ ⟨rfl, r, t, n, e, E, h⟩
  skip
  exact ⟨rfl, ipo_nil hn hq ⟨r, t, n, e, E, h⟩⟩
theorem ik_101 (hk : m.kind = 101) (hn : m.names = []) (hq : m.qids = []) (E : IT w0 F i I (mA mb m nilV nilV :: l) w) :
    Ca PP Fn.styx_fields #[.iface Ty.p_styx_input (ptr i), ptr mb] w fun q w' => q = .tuple #[] ∧ IPo w0 F i mb l (Ip.flds [.xS, .xv] m I) w' := by
  refine S.styx_fields.calls ?_
  unfold S.styx_fields
  obtain ⟨r, t, n, e, E, h⟩ := E
  (repeat with_reducible first | refine Stp.go ?_ | refine StpE.go E ?_)
  rw [hk, ifl2]
  (repeat first | (with_reducible first | refine Stp.go ?_ | (refine StpW.go E ?_; clear E; intro w_ E) | (apply hJ_; intro u_)) | ((with_reducible refine Bi.dec true ?_ ?_); focus exact rfl) | ((with_reducible refine Bi.dec false ?_ ?_); focus exact rfl) | (intro J_ hJ_))
  refine (il_S ⟨r, t, n, e, E, h⟩).mono ?_
  clear E h
  rintro q w_ ⟨rfl, r, t, n, e, E, h⟩
  (repeat with_reducible first | refine Stp.go ?_ | (refine StpW.go E ?_; clear E; intro w_ E))
  refine (il_v ⟨r, t, n, e, E, h⟩).mono ?_
  clear E h
  rintro q w_ ⟨rfl, r, t, n, e, E, h⟩
  skip
  exact ⟨rfl, ipo_nil hn hq ⟨r, t, n, e, E, h⟩⟩
theorem ik_102 (hk : m.kind = 102) (hn : m.names = []) (hq : m.qids = []) (E : IT w0 F i I (mA mb m nilV nilV :: l) w) :
    Ca PP Fn.styx_fields #[.iface Ty.p_styx_input (ptr i), ptr mb] w fun q w' => q = .tuple #[] ∧ IPo w0 F i mb l (Ip.flds [.xf, .xu, .xt] m I) w' := by
  refine S.styx_fields.calls ?_
  unfold S.styx_fields
  obtain ⟨r, t, n, e, E, h⟩ := E
  (repeat with_reducible first | refine Stp.go ?_ | refine StpE.go E ?_)
  rw [hk, ifl3]
  (repeat first | (with_reducible first | refine Stp.go ?_ | (refine StpW.go E ?_; clear E; intro w_ E) | (apply hJ_; intro u_)) | ((with_reducible refine Bi.dec true ?_ ?_); focus exact rfl) | ((with_reducible refine Bi.dec false ?_ ?_); focus exact rfl) | (intro J_ hJ_))
  refine (il_f ⟨r, t, n, e, E, h⟩).mono ?_
  clear E h
  rintro q w_ ⟨rfl, r, t, n, e, E, h⟩
  (repeat with_reducible first | refine Stp.go ?_ | (refine StpW.go E ?_; clear E; intro w_ E))
  refine (il_u ⟨r, t, n, e, E, h⟩).mono ?_
  clear E h
  rintro q w_ ⟨rfl, r, t, n, e, E, h⟩
  (repeat with_reducible first | refine Stp.go ?_ | (refine StpW.go E ?_; clear E; intro w_ E))
  refine (il_t ⟨r, t, n, e, E, h⟩).mono ?_
  clear E h
  rintro q w_ ⟨rfl, r, t, n, e, E, h⟩
  skip
  exact ⟨rfl, ipo_nil hn hq ⟨r, t, n, e, E, h⟩⟩
theorem ik_103 (hk : m.kind = 103) (hn : m.names = []) (hq : m.qids = []) (E : IT w0 F i I (mA mb m nilV nilV :: l) w) :
    Ca PP Fn.styx_fields #[.iface Ty.p_styx_input (ptr i), ptr mb] w fun q w' => q = .tuple #[] ∧ IPo w0 F i mb l (Ip.flds [.xq] m I) w' := by
  refine S.styx_fields.calls ?_
  unfold S.styx_fields
  obtain ⟨r, t, n, e, E, h⟩ := E
  (repeat with_reducible first | refine Stp.go ?_ | refine StpE.go E ?_)
  rw [hk, ifl1]
  (repeat first | (with_reducible first | refine Stp.go ?_ | (apply hJ_; intro u_)) | ((with_reducible refine Bi.dec true ?_ ?_); focus exact rfl) | ((with_reducible refine Bi.dec false ?_ ?_); focus exact rfl) | (intro J_ hJ_))
  refine (il_q hq ⟨r, t, n, e, E, h⟩).mono ?_
  clear E h
  rintro q w_ ⟨rfl, qb, r, t, n, e, E, h⟩
  skip
  exact ⟨rfl, ipo_q hn rfl ⟨r, t, n, e, E, h⟩⟩
theorem ik_105 (hk : m.kind = 105) (hn : m.names = []) (hq : m.qids = []) (E : IT w0 F i I (mA mb m nilV nilV :: l) w) :
    Ca PP Fn.styx_fields #[.iface Ty.p_styx_input (ptr i), ptr mb] w fun q w' => q = .tuple #[] ∧ IPo w0 F i mb l (Ip.flds [.xq] m I) w' := by
  refine S.styx_fields.calls ?_
  unfold S.styx_fields
  obtain ⟨r, t, n, e, E, h⟩ := E
  (repeat with_reducible first | refine Stp.go ?_ | refine StpE.go E ?_)
  rw [hk, ifl1]
  (repeat first | (with_reducible first | refine Stp.go ?_ | (apply hJ_; intro u_)) | ((with_reducible refine Bi.dec true ?_ ?_); focus exact rfl) | ((with_reducible refine Bi.dec false ?_ ?_); focus exact rfl) | (intro J_ hJ_))
  refine (il_q hq ⟨r, t, n, e, E, h⟩).mono ?_
  clear E h
  rintro q w_ ⟨rfl, qb, r, t, n, e, E, h⟩
  skip
  exact ⟨rfl, ipo_q hn rfl ⟨r, t, n, e, E, h⟩⟩
theorem ik_104 (hk : m.kind = 104) (hn : m.names = []) (hq : m.qids = []) (E : IT w0 F i I (mA mb m nilV nilV :: l) w) :
    Ca PP Fn.styx_fields #[.iface Ty.p_styx_input (ptr i), ptr mb] w fun q w' => q = .tuple #[] ∧ IPo w0 F i mb l (Ip.flds [.xf, .xo, .xu, .xt] m I) w' := by
  refine S.styx_fields.calls ?_
  unfold S.styx_fields
  obtain ⟨r, t, n, e, E, h⟩ := E
  (repeat with_reducible first | refine Stp.go ?_ | refine StpE.go E ?_)
  rw [hk, ifl4]
  (repeat first | (with_reducible first | refine Stp.go ?_ | (refine StpW.go E ?_; clear E; intro w_ E) | (apply hJ_; intro u_)) | ((with_reducible refine Bi.dec true ?_ ?_); focus exact rfl) | ((with_reducible refine Bi.dec false ?_ ?_); focus exact rfl) | (intro J_ hJ_))
  refine (il_f ⟨r, t, n, e, E, h⟩).mono ?_
  clear E h
  rintro q w_ ⟨rfl, r, t, n, e, E, h⟩
  (repeat with_reducible first | refine Stp.go ?_ | (refine StpW.go E ?_; clear E; intro w_ E))
  refine (il_o ⟨r, t, n, e, E, h⟩).mono ?_
  clear E h
  rintro q w_ ⟨rfl, r, t, n, e, E, h⟩
  (repeat with_reducible first | refine Stp.go ?_ | (refine StpW.go E ?_; clear E; intro w_ E))
  refine (il_u ⟨r, t, n, e, E, h⟩).mono ?_
  clear E h
  rintro q w_ ⟨rfl, r, t, n, e, E, h⟩
  (repeat with_reducible first | refine Stp.go ?_ | (refine StpW.go E ?_; clear E; intro w_ E))
  refine (il_t ⟨r, t, n, e, E, h⟩).mono ?_
  clear E h
  rintro q w_ ⟨rfl, r, t, n, e, E, h⟩
  skip
  exact ⟨rfl, ipo_nil hn hq ⟨r, t, n, e, E, h⟩⟩
theorem ik_107 (hk : m.kind = 107) (hn : m.names = []) (hq : m.qids = []) (E : IT w0 F i I (mA mb m nilV nilV :: l) w) :
    Ca PP Fn.styx_fields #[.iface Ty.p_styx_input (ptr i), ptr mb] w fun q w' => q = .tuple #[] ∧ IPo w0 F i mb l (Ip.flds [.xc] m I) w' := by
  refine S.styx_fields.calls ?_
  unfold S.styx_fields
  obtain ⟨r, t, n, e, E, h⟩ := E
  (repeat with_reducible first | refine Stp.go ?_ | refine StpE.go E ?_)
  rw [hk, ifl1]
  (repeat first | (with_reducible first | refine Stp.go ?_ | refine StpE.go E ?_ | (refine StpW.go E ?_; clear E; intro w_ E) | (refine StpA.go E ?_; clear E; intro b_ w_ hb_ E) | (apply hJ_; intro u_)) | ((with_reducible refine Bi.dec true ?_ ?_); focus exact rfl) | ((with_reducible refine Bi.dec false ?_ ?_); focus exact rfl) | (intro J_ hJ_))
  (revert b_; intro c hbc E)
  (replace E := (((E.bIx 0).bIx 2).bIx 2))
  refine (inum_ok (k := 2) (off := 0) (by omega) (by simp) ⟨r, t, n, e, E, h⟩).mono ?_
  clear E h
  rintro q w_ ⟨rfl, r, t, n, e, E, h⟩
  (try simp only [List.set_cons_zero, List.set_cons_succ, List.cons_append, List.nil_append, Nat.zero_add, Nat.add_zero] at E)
  (repeat with_reducible first | refine Stp.go ?_ | refine StpE.go E ?_ | (refine StpW.go E ?_; clear E; intro w_ E))
  (replace E := ((((E.bIx 2).bIx 3).bIx 3).bIx 3))
  exact ⟨rfl, ipo_nil (x := Ip.fld m I .xc) hn hq ⟨r, t, n, e, E.drop (.cons_cons _ (.cons_cons _ (.cons_cons _ (.cons _ (List.Sublist.refl _))))), h⟩⟩
theorem ik_108 (hk : m.kind = 108) (hn : m.names = []) (hq : m.qids = []) (E : IT w0 F i I (mA mb m nilV nilV :: l) w) :
    Ca PP Fn.styx_fields #[.iface Ty.p_styx_input (ptr i), ptr mb] w fun q w' => q = .tuple #[] ∧ IPo w0 F i mb l (Ip.flds [.xd] m I) w' := by
  refine S.styx_fields.calls ?_
  unfold S.styx_fields
  obtain ⟨r, t, n, e, E, h⟩ := E
  (repeat with_reducible first | refine Stp.go ?_ | refine StpE.go E ?_)
  rw [hk, ifl1]
  (repeat first | (with_reducible first | refine Stp.go ?_ | (refine StpW.go E ?_; clear E; intro w_ E) | (apply hJ_; intro u_)) | ((with_reducible refine Bi.dec true ?_ ?_); focus exact rfl) | ((with_reducible refine Bi.dec false ?_ ?_); focus exact rfl) | (intro J_ hJ_))
  refine (il_d ⟨r, t, n, e, E, h⟩).mono ?_
  clear E h
  rintro q w_ ⟨rfl, r, t, n, e, E, h⟩
  skip
  exact ⟨rfl, ipo_nil hn hq ⟨r, t, n, e, E, h⟩⟩
theorem ik_110 (hk : m.kind = 110) (hn : m.names = []) (hq : m.qids = []) (E : IT w0 F i I (mA mb m nilV nilV :: l) w) :
    Ca PP Fn.styx_fields #[.iface Ty.p_styx_input (ptr i), ptr mb] w fun q w' => q = .tuple #[] ∧ IPo w0 F i mb l (Ip.flds [.xf, .xo, .xn] m I) w' := by
  refine S.styx_fields.calls ?_
  unfold S.styx_fields
  obtain ⟨r, t, n, e, E, h⟩ := E
  (repeat with_reducible first | refine Stp.go ?_ | refine StpE.go E ?_)
  rw [hk, ifl3]
  (repeat first | (with_reducible first | refine Stp.go ?_ | (refine StpW.go E ?_; clear E; intro w_ E) | (apply hJ_; intro u_)) | ((with_reducible refine Bi.dec true ?_ ?_); focus exact rfl) | ((with_reducible refine Bi.dec false ?_ ?_); focus exact rfl) | (intro J_ hJ_))
  refine (il_f ⟨r, t, n, e, E, h⟩).mono ?_
  clear E h
  rintro q w_ ⟨rfl, r, t, n, e, E, h⟩
  (repeat with_reducible first | refine Stp.go ?_ | (refine StpW.go E ?_; clear E; intro w_ E))
  refine (il_o ⟨r, t, n, e, E, h⟩).mono ?_
  clear E h
  rintro q w_ ⟨rfl, r, t, n, e, E, h⟩
  (repeat with_reducible first | refine Stp.go ?_ | (refine StpW.go E ?_; clear E; intro w_ E))
  refine (il_n ⟨r, t, n, e, E, h⟩).mono ?_
  clear E h
  rintro q w_ ⟨rfl, v, E⟩
  exact ⟨rfl, ipo_n hq E⟩
theorem ik_111 (hk : m.kind = 111) (hn : m.names = []) (hq : m.qids = []) (E : IT w0 F i I (mA mb m nilV nilV :: l) w) :
    Ca PP Fn.styx_fields #[.iface Ty.p_styx_input (ptr i), ptr mb] w fun q w' => q = .tuple #[] ∧ IPo w0 F i mb l (Ip.flds [.xQ] m I) w' := by
  refine S.styx_fields.calls ?_
  unfold S.styx_fields
  obtain ⟨r, t, n, e, E, h⟩ := E
  (repeat with_reducible first | refine Stp.go ?_ | refine StpE.go E ?_)
  rw [hk, ifl1]
  (repeat first | (with_reducible first | refine Stp.go ?_ | (refine StpW.go E ?_; clear E; intro w_ E) | (apply hJ_; intro u_)) | ((with_reducible refine Bi.dec true ?_ ?_); focus exact rfl) | ((with_reducible refine Bi.dec false ?_ ?_); focus exact rfl) | (intro J_ hJ_))
  refine (il_Q ⟨r, t, n, e, E, h⟩).mono ?_
  clear E h
  rintro q w_ ⟨rfl, v, E⟩
  exact ⟨rfl, ipo_Q hn E⟩
theorem ik_112 (hk : m.kind = 112) (hn : m.names = []) (hq : m.qids = []) (E : IT w0 F i I (mA mb m nilV nilV :: l) w) :
    Ca PP Fn.styx_fields #[.iface Ty.p_styx_input (ptr i), ptr mb] w fun q w' => q = .tuple #[] ∧ IPo w0 F i mb l (Ip.flds [.xf, .xm] m I) w' := by
  refine S.styx_fields.calls ?_
  unfold S.styx_fields
  obtain ⟨r, t, n, e, E, h⟩ := E
  (repeat with_reducible first | refine Stp.go ?_ | refine StpE.go E ?_)
  rw [hk, ifl2]
  (repeat first | (with_reducible first | refine Stp.go ?_ | (refine StpW.go E ?_; clear E; intro w_ E) | (apply hJ_; intro u_)) | ((with_reducible refine Bi.dec true ?_ ?_); focus exact rfl) | ((with_reducible refine Bi.dec false ?_ ?_); focus exact rfl) | (intro J_ hJ_))
  refine (il_f ⟨r, t, n, e, E, h⟩).mono ?_
  clear E h
  rintro q w_ ⟨rfl, r, t, n, e, E, h⟩
  (repeat with_reducible first | refine Stp.go ?_ | (refine StpW.go E ?_; clear E; intro w_ E))
  refine (il_m ⟨r, t, n, e, E, h⟩).mono ?_
  clear E h
  rintro q w_ ⟨rfl, r, t, n, e, E, h⟩
  skip
  exact ⟨rfl, ipo_nil hn hq ⟨r, t, n, e, E, h⟩⟩
theorem ik_113 (hk : m.kind = 113) (hn : m.names = []) (hq : m.qids = []) (E : IT w0 F i I (mA mb m nilV nilV :: l) w) :
    Ca PP Fn.styx_fields #[.iface Ty.p_styx_input (ptr i), ptr mb] w fun q w' => q = .tuple #[] ∧ IPo w0 F i mb l (Ip.flds [.xq, .xS] m I) w' := by
  refine S.styx_fields.calls ?_
  unfold S.styx_fields
  obtain ⟨r, t, n, e, E, h⟩ := E
  (repeat with_reducible first | refine Stp.go ?_ | refine StpE.go E ?_)
  rw [hk, ifl2]
  (repeat first | (with_reducible first | refine Stp.go ?_ | (apply hJ_; intro u_)) | ((with_reducible refine Bi.dec true ?_ ?_); focus exact rfl) | ((with_reducible refine Bi.dec false ?_ ?_); focus exact rfl) | (intro J_ hJ_))
  refine (il_q hq ⟨r, t, n, e, E, h⟩).mono ?_
  clear E h
  rintro q w_ ⟨rfl, qb, r, t, n, e, E, h⟩
  (repeat with_reducible first | refine Stp.go ?_ | (refine StpW.go E ?_; clear E; intro w_ E))
  refine (il_S ⟨r, t, n, e, E, h⟩).mono ?_
  clear E h
  rintro q w_ ⟨rfl, r, t, n, e, E, h⟩
  skip
  exact ⟨rfl, ipo_q hn rfl ⟨r, t, n, e, E, h⟩⟩
theorem ik_115 (hk : m.kind = 115) (hn : m.names = []) (hq : m.qids = []) (E : IT w0 F i I (mA mb m nilV nilV :: l) w) :
    Ca PP Fn.styx_fields #[.iface Ty.p_styx_input (ptr i), ptr mb] w fun q w' => q = .tuple #[] ∧ IPo w0 F i mb l (Ip.flds [.xq, .xS] m I) w' := by
  refine S.styx_fields.calls ?_
  unfold S.styx_fields
  obtain ⟨r, t, n, e, E, h⟩ := E
  (repeat with_reducible first | refine Stp.go ?_ | refine StpE.go E ?_)
  rw [hk, ifl2]
  (repeat first | (with_reducible first | refine Stp.go ?_ | (apply hJ_; intro u_)) | ((with_reducible refine Bi.dec true ?_ ?_); focus exact rfl) | ((with_reducible refine Bi.dec false ?_ ?_); focus exact rfl) | (intro J_ hJ_))
  refine (il_q hq ⟨r, t, n, e, E, h⟩).mono ?_
  clear E h
  rintro q w_ ⟨rfl, qb, r, t, n, e, E, h⟩
  (repeat with_reducible first | refine Stp.go ?_ | (refine StpW.go E ?_; clear E; intro w_ E))
  refine (il_S ⟨r, t, n, e, E, h⟩).mono ?_
  clear E h
  rintro q w_ ⟨rfl, r, t, n, e, E, h⟩
  skip
  exact ⟨rfl, ipo_q hn rfl ⟨r, t, n, e, E, h⟩⟩
theorem ik_114 (hk : m.kind = 114) (hn : m.names = []) (hq : m.qids = []) (E : IT w0 F i I (mA mb m nilV nilV :: l) w) :
    Ca PP Fn.styx_fields #[.iface Ty.p_styx_input (ptr i), ptr mb] w fun q w' => q = .tuple #[] ∧ IPo w0 F i mb l (Ip.flds [.xf, .xN, .xp, .xm] m I) w' := by
  refine S.styx_fields.calls ?_
  unfold S.styx_fields
  obtain ⟨r, t, n, e, E, h⟩ := E
  (repeat with_reducible first | refine Stp.go ?_ | refine StpE.go E ?_)
  rw [hk, ifl4]
  (repeat first | (with_reducible first | refine Stp.go ?_ | (refine StpW.go E ?_; clear E; intro w_ E) | (apply hJ_; intro u_)) | ((with_reducible refine Bi.dec true ?_ ?_); focus exact rfl) | ((with_reducible refine Bi.dec false ?_ ?_); focus exact rfl) | (intro J_ hJ_))
  refine (il_f ⟨r, t, n, e, E, h⟩).mono ?_
  clear E h
  rintro q w_ ⟨rfl, r, t, n, e, E, h⟩
  (repeat with_reducible first | refine Stp.go ?_ | (refine StpW.go E ?_; clear E; intro w_ E))
  refine (il_N ⟨r, t, n, e, E, h⟩).mono ?_
  clear E h
  rintro q w_ ⟨rfl, r, t, n, e, E, h⟩
  (repeat with_reducible first | refine Stp.go ?_ | (refine StpW.go E ?_; clear E; intro w_ E))
  refine (il_p ⟨r, t, n, e, E, h⟩).mono ?_
  clear E h
  rintro q w_ ⟨rfl, r, t, n, e, E, h⟩
  (repeat with_reducible first | refine Stp.go ?_ | (refine StpW.go E ?_; clear E; intro w_ E))
  refine (il_m ⟨r, t, n, e, E, h⟩).mono ?_
  clear E h
  rintro q w_ ⟨rfl, r, t, n, e, E, h⟩
  skip
  exact ⟨rfl, ipo_nil hn hq ⟨r, t, n, e, E, h⟩⟩
theorem ik_116 (hk : m.kind = 116) (hn : m.names = []) (hq : m.qids = []) (E : IT w0 F i I (mA mb m nilV nilV :: l) w) :
    Ca PP Fn.styx_fields #[.iface Ty.p_styx_input (ptr i), ptr mb] w fun q w' => q = .tuple #[] ∧ IPo w0 F i mb l (Ip.flds [.xf, .xO, .xS] m I) w' := by
  refine S.styx_fields.calls ?_
  unfold S.styx_fields
  obtain ⟨r, t, n, e, E, h⟩ := E
  (repeat with_reducible first | refine Stp.go ?_ | refine StpE.go E ?_)
  rw [hk, ifl3]
  (repeat first | (with_reducible first | refine Stp.go ?_ | (refine StpW.go E ?_; clear E; intro w_ E) | (apply hJ_; intro u_)) | ((with_reducible refine Bi.dec true ?_ ?_); focus exact rfl) | ((with_reducible refine Bi.dec false ?_ ?_); focus exact rfl) | (intro J_ hJ_))
  refine (il_f ⟨r, t, n, e, E, h⟩).mono ?_
  clear E h
  rintro q w_ ⟨rfl, r, t, n, e, E, h⟩
  (repeat with_reducible first | refine Stp.go ?_ | (refine StpW.go E ?_; clear E; intro w_ E))
  refine (il_O ⟨r, t, n, e, E, h⟩).mono ?_
  clear E h
  rintro q w_ ⟨rfl, r, t, n, e, E, h⟩
  (repeat with_reducible first | refine Stp.go ?_ | (refine StpW.go E ?_; clear E; intro w_ E))
  refine (il_S ⟨r, t, n, e, E, h⟩).mono ?_
  clear E h
  rintro q w_ ⟨rfl, r, t, n, e, E, h⟩
  skip
  exact ⟨rfl, ipo_nil hn hq ⟨r, t, n, e, E, h⟩⟩
theorem ik_117 (hk : m.kind = 117) (hn : m.names = []) (hq : m.qids = []) (E : IT w0 F i I (mA mb m nilV nilV :: l) w) :
    Ca PP Fn.styx_fields #[.iface Ty.p_styx_input (ptr i), ptr mb] w fun q w' => q = .tuple #[] ∧ IPo w0 F i mb l (Ip.flds [.xD] m I) w' := by
  refine S.styx_fields.calls ?_
  unfold S.styx_fields
  obtain ⟨r, t, n, e, E, h⟩ := E
  (repeat with_reducible first | refine Stp.go ?_ | refine StpE.go E ?_)
  rw [hk, ifl1]
  (repeat first | (with_reducible first | refine Stp.go ?_ | (refine StpW.go E ?_; clear E; intro w_ E) | (apply hJ_; intro u_)) | ((with_reducible refine Bi.dec true ?_ ?_); focus exact rfl) | ((with_reducible refine Bi.dec false ?_ ?_); focus exact rfl) | (intro J_ hJ_))
  refine (il_D ⟨r, t, n, e, E, h⟩).mono ?_
  clear E h
  rintro q w_ ⟨rfl, r, t, n, e, E, h⟩
  skip
  exact ⟨rfl, ipo_nil hn hq ⟨r, t, n, e, E, h⟩⟩
theorem ik_118 (hk : m.kind = 118) (hn : m.names = []) (hq : m.qids = []) (E : IT w0 F i I (mA mb m nilV nilV :: l) w) :
    Ca PP Fn.styx_fields #[.iface Ty.p_styx_input (ptr i), ptr mb] w fun q w' => q = .tuple #[] ∧ IPo w0 F i mb l (Ip.flds [.xf, .xO, .xD] m I) w' := by
  refine S.styx_fields.calls ?_
  unfold S.styx_fields
  obtain ⟨r, t, n, e, E, h⟩ := E
  (repeat with_reducible first | refine Stp.go ?_ | refine StpE.go E ?_)
  rw [hk, ifl3]
  (repeat first | (with_reducible first | refine Stp.go ?_ | (refine StpW.go E ?_; clear E; intro w_ E) | (apply hJ_; intro u_)) | ((with_reducible refine Bi.dec true ?_ ?_); focus exact rfl) | ((with_reducible refine Bi.dec false ?_ ?_); focus exact rfl) | (intro J_ hJ_))
  refine (il_f ⟨r, t, n, e, E, h⟩).mono ?_
  clear E h
  rintro q w_ ⟨rfl, r, t, n, e, E, h⟩
  (repeat with_reducible first | refine Stp.go ?_ | (refine StpW.go E ?_; clear E; intro w_ E))
  refine (il_O ⟨r, t, n, e, E, h⟩).mono ?_
  clear E h
  rintro q w_ ⟨rfl, r, t, n, e, E, h⟩
  (repeat with_reducible first | refine Stp.go ?_ | (refine StpW.go E ?_; clear E; intro w_ E))
  refine (il_D ⟨r, t, n, e, E, h⟩).mono ?_
  clear E h
  rintro q w_ ⟨rfl, r, t, n, e, E, h⟩
  skip
  exact ⟨rfl, ipo_nil hn hq ⟨r, t, n, e, E, h⟩⟩
theorem ik_119 (hk : m.kind = 119) (hn : m.names = []) (hq : m.qids = []) (E : IT w0 F i I (mA mb m nilV nilV :: l) w) :
    Ca PP Fn.styx_fields #[.iface Ty.p_styx_input (ptr i), ptr mb] w fun q w' => q = .tuple #[] ∧ IPo w0 F i mb l (Ip.flds [.xS] m I) w' := by
  refine S.styx_fields.calls ?_
  unfold S.styx_fields
  obtain ⟨r, t, n, e, E, h⟩ := E
  (repeat with_reducible first | refine Stp.go ?_ | refine StpE.go E ?_)
  rw [hk, ifl1]
  (repeat first | (with_reducible first | refine Stp.go ?_ | (refine StpW.go E ?_; clear E; intro w_ E) | (apply hJ_; intro u_)) | ((with_reducible refine Bi.dec true ?_ ?_); focus exact rfl) | ((with_reducible refine Bi.dec false ?_ ?_); focus exact rfl) | (intro J_ hJ_))
  refine (il_S ⟨r, t, n, e, E, h⟩).mono ?_
  clear E h
  rintro q w_ ⟨rfl, r, t, n, e, E, h⟩
  skip
  exact ⟨rfl, ipo_nil hn hq ⟨r, t, n, e, E, h⟩⟩
theorem ik_120 (hk : m.kind = 120) (hn : m.names = []) (hq : m.qids = []) (E : IT w0 F i I (mA mb m nilV nilV :: l) w) :
    Ca PP Fn.styx_fields #[.iface Ty.p_styx_input (ptr i), ptr mb] w fun q w' => q = .tuple #[] ∧ IPo w0 F i mb l (Ip.flds [.xf] m I) w' := by
  refine S.styx_fields.calls ?_
  unfold S.styx_fields
  obtain ⟨r, t, n, e, E, h⟩ := E
  (repeat with_reducible first | refine Stp.go ?_ | refine StpE.go E ?_)
  rw [hk, ifl1]
  (repeat first | (with_reducible first | refine Stp.go ?_ | (refine StpW.go E ?_; clear E; intro w_ E) | (apply hJ_; intro u_)) | ((with_reducible refine Bi.dec true ?_ ?_); focus exact rfl) | ((with_reducible refine Bi.dec false ?_ ?_); focus exact rfl) | (intro J_ hJ_))
  refine (il_f ⟨r, t, n, e, E, h⟩).mono ?_
  clear E h
  rintro q w_ ⟨rfl, r, t, n, e, E, h⟩
  skip
  exact ⟨rfl, ipo_nil hn hq ⟨r, t, n, e, E, h⟩⟩
theorem ik_122 (hk : m.kind = 122) (hn : m.names = []) (hq : m.qids = []) (E : IT w0 F i I (mA mb m nilV nilV :: l) w) :
    Ca PP Fn.styx_fields #[.iface Ty.p_styx_input (ptr i), ptr mb] w fun q w' => q = .tuple #[] ∧ IPo w0 F i mb l (Ip.flds [.xf] m I) w' := by
  refine S.styx_fields.calls ?_
  unfold S.styx_fields
  obtain ⟨r, t, n, e, E, h⟩ := E
  (repeat with_reducible first | refine Stp.go ?_ | refine StpE.go E ?_)
  rw [hk, ifl1]
  (repeat first | (with_reducible first | refine Stp.go ?_ | (refine StpW.go E ?_; clear E; intro w_ E) | (apply hJ_; intro u_)) | ((with_reducible refine Bi.dec true ?_ ?_); focus exact rfl) | ((with_reducible refine Bi.dec false ?_ ?_); focus exact rfl) | (intro J_ hJ_))
  refine (il_f ⟨r, t, n, e, E, h⟩).mono ?_
  clear E h
  rintro q w_ ⟨rfl, r, t, n, e, E, h⟩
  skip
  exact ⟨rfl, ipo_nil hn hq ⟨r, t, n, e, E, h⟩⟩
theorem ik_124 (hk : m.kind = 124) (hn : m.names = []) (hq : m.qids = []) (E : IT w0 F i I (mA mb m nilV nilV :: l) w) :
    Ca PP Fn.styx_fields #[.iface Ty.p_styx_input (ptr i), ptr mb] w fun q w' => q = .tuple #[] ∧ IPo w0 F i mb l (Ip.flds [.xf] m I) w' := by
  refine S.styx_fields.calls ?_
  unfold S.styx_fields
  obtain ⟨r, t, n, e, E, h⟩ := E
  (repeat with_reducible first | refine Stp.go ?_ | refine StpE.go E ?_)
  rw [hk, ifl1]
  (repeat first | (with_reducible first | refine Stp.go ?_ | (refine StpW.go E ?_; clear E; intro w_ E) | (apply hJ_; intro u_)) | ((with_reducible refine Bi.dec true ?_ ?_); focus exact rfl) | ((with_reducible refine Bi.dec false ?_ ?_); focus exact rfl) | (intro J_ hJ_))
  refine (il_f ⟨r, t, n, e, E, h⟩).mono ?_
  clear E h
  rintro q w_ ⟨rfl, r, t, n, e, E, h⟩
  skip
  exact ⟨rfl, ipo_nil hn hq ⟨r, t, n, e, E, h⟩⟩
theorem ik_125 (hk : m.kind = 125) (hn : m.names = []) (hq : m.qids = []) (E : IT w0 F i I (mA mb m nilV nilV :: l) w) :
    Ca PP Fn.styx_fields #[.iface Ty.p_styx_input (ptr i), ptr mb] w fun q w' => q = .tuple #[] ∧ IPo w0 F i mb l (Ip.flds [.xi] m I) w' := by
  refine S.styx_fields.calls ?_
  unfold S.styx_fields
  obtain ⟨r, t, n, e, E, h⟩ := E
  (repeat with_reducible first | refine Stp.go ?_ | refine StpE.go E ?_)
  rw [hk, ifl1]
  (repeat first | (with_reducible first | refine Stp.go ?_ | (refine StpW.go E ?_; clear E; intro w_ E) | (apply hJ_; intro u_)) | ((with_reducible refine Bi.dec true ?_ ?_); focus exact rfl) | ((with_reducible refine Bi.dec false ?_ ?_); focus exact rfl) | (intro J_ hJ_))
  refine (il_i ⟨r, t, n, e, E, h⟩).mono ?_
  clear E h
  rintro q w_ ⟨rfl, r, t, n, e, E, h⟩
  skip
  exact ⟨rfl, ipo_nil hn hq ⟨r, t, n, e, E, h⟩⟩
theorem ik_126 (hk : m.kind = 126) (hn : m.names = []) (hq : m.qids = []) (E : IT w0 F i I (mA mb m nilV nilV :: l) w) :
    Ca PP Fn.styx_fields #[.iface Ty.p_styx_input (ptr i), ptr mb] w fun q w' => q = .tuple #[] ∧ IPo w0 F i mb l (Ip.flds [.xf, .xi] m I) w' := by
  refine S.styx_fields.calls ?_
  unfold S.styx_fields
  obtain ⟨r, t, n, e, E, h⟩ := E
  (repeat with_reducible first | refine Stp.go ?_ | refine StpE.go E ?_)
  rw [hk, ifl2]
  (repeat first | (with_reducible first | refine Stp.go ?_ | (refine StpW.go E ?_; clear E; intro w_ E) | (apply hJ_; intro u_)) | ((with_reducible refine Bi.dec true ?_ ?_); focus exact rfl) | ((with_reducible refine Bi.dec false ?_ ?_); focus exact rfl) | (intro J_ hJ_))
  refine (il_f ⟨r, t, n, e, E, h⟩).mono ?_
  clear E h
  rintro q w_ ⟨rfl, r, t, n, e, E, h⟩
  (repeat with_reducible first | refine Stp.go ?_ | (refine StpW.go E ?_; clear E; intro w_ E))
  refine (il_i ⟨r, t, n, e, E, h⟩).mono ?_
  clear E h
  rintro q w_ ⟨rfl, r, t, n, e, E, h⟩
  skip
  exact ⟨rfl, ipo_nil hn hq ⟨r, t, n, e, E, h⟩⟩
theorem ik_109 (hk : m.kind = 109) (hn : m.names = []) (hq : m.qids = []) (E : IT w0 F i I (mA mb m nilV nilV :: l) w) :
    Ca PP Fn.styx_fields #[.iface Ty.p_styx_input (ptr i), ptr mb] w fun q w' => q = .tuple #[] ∧ IPo w0 F i mb l (Ip.flds [] m I) w' := by
  refine S.styx_fields.calls ?_
  unfold S.styx_fields
  obtain ⟨r, t, n, e, E, h⟩ := E
  (repeat with_reducible first | refine Stp.go ?_ | refine StpE.go E ?_)
  rw [hk, ifl0]
  (repeat first | (with_reducible first | refine Stp.go ?_ | (apply hJ_; intro u_)) | ((with_reducible refine Bi.dec false ?_ ?_); focus exact rfl) | (intro J_ hJ_))
  exact ⟨rfl, ipo_nil hn hq ⟨r, t, n, e, E, h⟩⟩
theorem ik_121 (hk : m.kind = 121) (hn : m.names = []) (hq : m.qids = []) (E : IT w0 F i I (mA mb m nilV nilV :: l) w) :
    Ca PP Fn.styx_fields #[.iface Ty.p_styx_input (ptr i), ptr mb] w fun q w' => q = .tuple #[] ∧ IPo w0 F i mb l (Ip.flds [] m I) w' := by
  refine S.styx_fields.calls ?_
  unfold S.styx_fields
  obtain ⟨r, t, n, e, E, h⟩ := E
  (repeat with_reducible first | refine Stp.go ?_ | refine StpE.go E ?_)
  rw [hk, ifl0]
  (repeat first | (with_reducible first | refine Stp.go ?_ | (apply hJ_; intro u_)) | ((with_reducible refine Bi.dec false ?_ ?_); focus exact rfl) | (intro J_ hJ_))
  exact ⟨rfl, ipo_nil hn hq ⟨r, t, n, e, E, h⟩⟩
theorem ik_123 (hk : m.kind = 123) (hn : m.names = []) (hq : m.qids = []) (E : IT w0 F i I (mA mb m nilV nilV :: l) w) :
    Ca PP Fn.styx_fields #[.iface Ty.p_styx_input (ptr i), ptr mb] w fun q w' => q = .tuple #[] ∧ IPo w0 F i mb l (Ip.flds [] m I) w' := by
  refine S.styx_fields.calls ?_
  unfold S.styx_fields
  obtain ⟨r, t, n, e, E, h⟩ := E
  (repeat with_reducible first | refine Stp.go ?_ | refine StpE.go E ?_)
  rw [hk, ifl0]
  (repeat first | (with_reducible first | refine Stp.go ?_ | (apply hJ_; intro u_)) | ((with_reducible refine Bi.dec false ?_ ?_); focus exact rfl) | (intro J_ hJ_))
  exact ⟨rfl, ipo_nil hn hq ⟨r, t, n, e, E, h⟩⟩
theorem ik_127 (hk : m.kind = 127) (hn : m.names = []) (hq : m.qids = []) (E : IT w0 F i I (mA mb m nilV nilV :: l) w) :
    Ca PP Fn.styx_fields #[.iface Ty.p_styx_input (ptr i), ptr mb] w fun q w' => q = .tuple #[] ∧ IPo w0 F i mb l (Ip.flds [] m I) w' := by
  refine S.styx_fields.calls ?_
  unfold S.styx_fields
  obtain ⟨r, t, n, e, E, h⟩ := E
  (repeat with_reducible first | refine Stp.go ?_ | refine StpE.go E ?_)
  rw [hk, ifl0]
  (repeat first | (with_reducible first | refine Stp.go ?_ | (apply hJ_; intro u_)) | ((with_reducible refine Bi.dec false ?_ ?_); focus exact rfl) | (intro J_ hJ_))
  exact ⟨rfl, ipo_nil hn hq ⟨r, t, n, e, E, h⟩⟩
theorem ifields_ok {fl : List Fl} (hfl : fls m.kind = some fl) (hn : m.names = []) (hq : m.qids = []) (E : IT w0 F i I (mA mb m nilV nilV :: l) w) :
    Ca PP Fn.styx_fields #[.iface Ty.p_styx_input (ptr i), ptr mb] w fun q w' => q = .tuple #[] ∧ IPo w0 F i mb l (Ip.flds fl m I) w' := by
  rcases fls_cases hfl with ⟨(hk | hk), rfl⟩ | ⟨hk, rfl⟩ | ⟨(hk | hk), rfl⟩ | ⟨hk, rfl⟩ | ⟨hk, rfl⟩ | ⟨hk, rfl⟩ | ⟨hk, rfl⟩ | ⟨hk, rfl⟩ | ⟨hk, rfl⟩ | ⟨(hk | hk), rfl⟩ | ⟨hk, rfl⟩ | ⟨hk, rfl⟩ | ⟨hk, rfl⟩ | ⟨hk, rfl⟩ | ⟨hk, rfl⟩ | ⟨(hk | hk | hk), rfl⟩ | ⟨hk, rfl⟩ | ⟨hk, rfl⟩ | ⟨(hk | hk | hk | hk), rfl⟩
  · exact ik_100 hk hn hq E
  · exact ik_101 hk hn hq E
  · exact ik_102 hk hn hq E
  · exact ik_103 hk hn hq E
  · exact ik_105 hk hn hq E
  · exact ik_104 hk hn hq E
  · exact ik_107 hk hn hq E
  · exact ik_108 hk hn hq E
  · exact ik_110 hk hn hq E
  · exact ik_111 hk hn hq E
  · exact ik_112 hk hn hq E
  · exact ik_113 hk hn hq E
  · exact ik_115 hk hn hq E
  · exact ik_114 hk hn hq E
  · exact ik_116 hk hn hq E
  · exact ik_117 hk hn hq E
  · exact ik_118 hk hn hq E
  · exact ik_119 hk hn hq E
  · exact ik_120 hk hn hq E
  · exact ik_122 hk hn hq E
  · exact ik_124 hk hn hq E
  · exact ik_125 hk hn hq E
  · exact ik_126 hk hn hq E
  · exact ik_109 hk hn hq E
  · exact ik_121 hk hn hq E
  · exact ik_123 hk hn hq E
  · exact ik_127 hk hn hq E
end Go.Proofs.YtmlccboapkkcfaaDoor

/-
  The protocol: Decode.
-/
namespace Go.Proofs.YtmlccboapkkcfaaDoor
open Go Go.Sh
set_option maxRecDepth 100000
set_option linter.unusedVariables false
set_option linter.unusedSimpArgs false
variable {w0 w : World} {F : Nat → Prop} {l : List As}
variable {s : List UInt8}
theorem length_ok (hs : s.length ≤ 1000000000000) (E : Hs w0 F w l) : Ca PP Fn.styx_length #[sb s] w fun q w' => q = i64 ((if 4 ≤ s.length then un (s.take 4) else 0 : Nat) : Int) ∧ Hs w0 F w' l := by
  refine S.styx_length.calls ?_
  unfold S.styx_length
  refine (NewReader_ok E).mono ?_
  clear E
  rintro q w_ ⟨r, rfl, E⟩
  refine (RLittle_ok (n := 4) (by omega) hs (Nat.zero_le _) E).mono ?_
  clear E
  rintro q w_ (⟨he, _⟩ | ⟨he, x, n', rfl, hn, hp, E⟩ | ⟨he, hp, e', he', rfl, E⟩)
  · exact absurd rfl he
  · (repeat with_reducible refine Stp.go ?_)
    unfold rd at hp
    rw [List.drop_zero] at hp
    by_cases h4 : 4 ≤ s.length
    · rw [if_pos h4] at hp ⊢
      have := congrArg (fun o => o.map Prod.fst) hp
      simp only [Option.map_some] at this
      exact ⟨(Option.some.inj this).symm, E.tl⟩
    · rw [if_neg h4] at hp; cases hp
  · (repeat with_reducible refine Stp.go ?_)
    unfold rd at hp
    rw [List.drop_zero] at hp
    by_cases h4 : 4 ≤ s.length
    · rw [if_pos h4] at hp; cases hp
    · rw [if_neg h4]
      exact ⟨rfl, E.tl⟩
/-- A message that was read, and where its lists lie. -/
def DMs (w0 : World) (F : Nat → Prop) (l : List As) (m : Ms) (e : Int) (q : Value) (w : World) : Prop :=
  ∃ nv qv X, q = .tuple #[.agg (MC m nv qv).toArray, i64 e] ∧ RdS w0 F X 1 m.names.length nv (m.names.map sb) ∧ RdS w0 F X 3 m.qids.length qv (qqs m.qids) ∧ Hs w0 F w (X ++ l)
theorem DMs.zero {e : Int} (E : Hs w0 F w l) : DMs w0 F l m0 e (.tuple #[.agg (MC m0 nilV nilV).toArray, i64 e]) w := ⟨nilV, nilV, [], rfl, rds_nil, rds_nil, E⟩
theorem Decode_ok (hW : Wds w0 F) (hs : s.length ≤ 1000000000000) (E : Hs w0 F w l) :
    Ca PP Fn.styx_Decode #[sb s] w fun q w' => DMs w0 F l (dec s).1 (dec s).2 q w' := by
  rw [← decP_dec]
  refine S.styx_Decode.calls ?_
  unfold S.styx_Decode
  (repeat with_reducible (refine StpA.go E ?_; clear E; intro b_ w_ hb_ E))
  (revert b_; intro rb hbrb E)
  refine (length_ok hs E).mono ?_
  clear E
  rintro q w_ ⟨rfl, E⟩
  (repeat with_reducible refine Stp.go ?_)
  rw [mkB_size]
  refine Bi.lss ?_ ?_ <;> intro c1 <;> (repeat with_reducible first | refine Stp.go ?_ | refine StpE.go E ?_)
  · have hP : decP s = (m0, 16) := by unfold decP; rw [if_pos (by omega)]
    rw [hP]
    refine StA.all (vs := MC m0 nilV nilV) E rfl rfl rfl ?_
    clear E
    intro w_ E
    (repeat with_reducible refine StpE.go E ?_)
    exact .zero E.tl
  rw [if_pos (show 4 ≤ s.length by omega)]
  refine Bi.gtr ?_ ?_ <;> intro c2 <;> (repeat with_reducible first | refine Stp.go ?_ | refine StpE.go E ?_)
  · have hP : decP s = (m0, 3) := by unfold decP; rw [if_neg (by omega), if_pos (by omega)]
    rw [hP]
    refine StA.all (vs := MC m0 nilV nilV) E rfl rfl rfl ?_
    clear E
    intro w_ E
    (repeat with_reducible refine StpE.go E ?_)
    exact .zero E.tl
  rw [mkB_size]
  refine Bi.neq ?_ ?_ <;> intro c3 <;> (repeat with_reducible first | refine Stp.go ?_ | refine StpE.go E ?_)
  · have hP : decP s = (m0, 14) := by unfold decP; rw [if_neg (by omega), if_neg (by omega), if_pos (by omega)]
    rw [hP]
    refine StA.all (vs := MC m0 nilV nilV) E rfl rfl rfl ?_
    clear E
    intro w_ E
    (repeat with_reducible refine StpE.go E ?_)
    exact .zero E.tl
  refine SlS.suf (by omega) (by rw [mkB_size]; omega) ?_
  have hsub : (mkB s).extract (4 : Int).toNat (mkB s).size = mkB (s.drop 4) := by
    rw [mkB_ext, mkB_size, List.take_length]; rfl
  rw [hsub]
  refine (NewReader_ok E).mono ?_
  clear E
  rintro q w_ ⟨r, rfl, E⟩
  (repeat with_reducible first | refine Stp.go ?_ | refine StpE.go E ?_ | (refine StpA.go E ?_; clear E; intro b_ w_ hb_ E))
  (revert b_; intro mb hbmb E)
  (revert b_; intro i hbi E)
  (replace E := (((E.bIx 0).bIx 2).bIx 2))
  have hP : decP s = (let k := (i0 (s.drop 4)).num 1
    let t := k.2.num 2
    match fls k.1 with
    | none => (m0, 13)
    | some l =>
      let x := Ip.flds l { m0 with kind := k.1, tag := t.1 } t.2
      if x.2.fin.cut then (m0, 2) else if x.2.bad then (m0, 11) else if x.2.ov then (m0, 3) else (x.1, 0)) := by
    unfold decP; rw [if_neg (by omega), if_neg (by omega), if_neg (by omega)]; rfl
  rw [hP]
  clear hP
  have hlt := num_lt (i0 (s.drop 4)) (k := 1) (by omega)
  refine (inum_ok (I := i0 (s.drop 4)) (k := 1) (off := 0) (by omega) (by simp) ⟨r, s.drop 4, 0, 0, E, Nat.zero_le _, by rw [List.length_drop]; omega, rfl, by simp [i0]⟩).mono ?_
  clear E
  rintro q w_ ⟨rfl, E⟩
  generalize (i0 (s.drop 4)).num 1 = k at E hlt ⊢
  obtain ⟨kd, I1⟩ := k
  simp only [] at E hlt ⊢
  (repeat with_reducible refine Stp.go ?_)
  refine (inum_ok (k := 2) (off := 1) (by omega) (by simp) E).mono ?_
  clear E
  rintro q w_ ⟨rfl, E⟩
  generalize I1.num 2 = tg at E ⊢
  obtain ⟨tg, I2⟩ := tg
  simp only [] at E ⊢
  replace E : IT w0 F i I2 (mA mb { m0 with kind := kd, tag := tg } nilV nilV :: pt rb (oc (MC m0 nilV nilV) Ty.api_Msg) :: l) w_ := E
  obtain ⟨r, t, n, e, E, h⟩ := E
  (repeat with_reducible first | refine Stp.go ?_ | refine StpE.go E ?_)
  refine (known_ok hW (k := (kd : Int)) (by omega) E).mono ?_
  clear E
  rintro q w_ ⟨rfl, E⟩
  cases hfl : fls (kd : Int) with
  | none =>
    refine Un.nt ?_
    (repeat with_reducible first | refine Stp.go ?_ | refine StpE.go E ?_)
    refine StA.all (vs := MC m0 nilV nilV) E rfl rfl rfl ?_
    clear E
    intro w_ E
    (repeat with_reducible refine StpE.go E ?_)
    exact .zero E.tl.tl.tl.tl
  | some fl =>
    refine Un.nf ?_
    (repeat with_reducible refine Stp.go ?_)
    refine (ifields_ok (m := { m0 with kind := kd, tag := tg }) hfl rfl rfl ⟨r, t, n, e, E, h⟩).mono ?_
    clear E h
    rintro q w_ ⟨rfl, nv, qv, X, hN, hQ, E⟩
    simp only []
    generalize Ip.flds fl { m0 with kind := kd, tag := tg } I2 = x at E hN hQ ⊢
    obtain ⟨M, J⟩ := x
    simp only [] at E hN hQ ⊢
    refine (ifinish_ok E).mono ?_
    clear E
    rintro q w_ ⟨rfl, E⟩
    have hf : J.fin.bad = J.bad ∧ J.fin.ov = J.ov := ⟨rfl, rfl⟩
    rw [← hf.1, ← hf.2]
    generalize J.fin = J at E ⊢
    refine (ierr_ok E).mono ?_
    clear E
    rintro q w_ ⟨rfl, r, t, n, e, E, -⟩
    have E2 : Hs w0 F w_ (pt rb (oc (MC m0 nilV nilV) Ty.api_Msg) :: mA mb M nv qv :: (X ++ l)) := by
      refine (E.tl.tl).perm ?_
      exact (List.Perm.cons _ List.perm_middle).trans (List.Perm.swap _ _ _)
    clear E
    have E := E2
    clear E2
    have bad : ∀ e : Int, e ≠ 0 → Bi .neq (i64 e) (.int .i64 0) fun t49 => Cnd t49
        (Bd #[.int .i64 0, .int .i64 0, .int .i64 0, .int .i64 0, .int .i64 0, .int .i64 0, .int .i64 0, .int .i64 0, .int .i64 0, .string ⟨#[]⟩, .string ⟨#[]⟩, .string ⟨#[]⟩, .string ⟨#[]⟩, .slice none 0 0, .slice none 0 0, .string ⟨#[]⟩, .int .i64 0, .int .i64 0, .int .i64 0, .int .i64 0, .int .i64 0, .int .i64 0, .string ⟨#[]⟩, .string ⟨#[]⟩, .string ⟨#[]⟩, .string ⟨#[]⟩, .int .i64 0] [(0, 1), (1, 1), (2, 1), (3, 1), (4, 1), (5, 1), (6, 1), (7, 1), (8, 1), (9, 1), (10, 1), (11, 1), (12, 1), (13, 1), (14, 1), (15, 1), (16, 10), (26, 1)] [] fun t50 =>
          St PP 27 (ptr rb) t50 w_ fun w49 => LdA PP 27 (ptr rb) w49 fun t2 => DMs w0 F l m0 e (.tuple #[t2, i64 e]) w49)
        (LdA PP 27 (ptr mb) w_ fun t52 => St PP 27 (ptr rb) t52 w_ fun w52 => LdA PP 27 (ptr rb) w52 fun t2 => DMs w0 F l m0 e (.tuple #[t2, i64 0]) w52) := by
      intro e he
      refine Bi.neq ?_ (fun h => absurd h he)
      intro _
      (repeat with_reducible first | refine Stp.go ?_ | refine StpE.go E ?_)
      refine StA.all (vs := MC m0 nilV nilV) E rfl rfl rfl ?_
      clear E
      intro w_ E
      (repeat with_reducible refine StpE.go E ?_)
      refine .zero (E.tl.tl.drop (List.sublist_append_right _ _))
    cases hc : J.cut with
    | true =>
      simp only [if_true]
      exact bad 2 (by decide)
    | false =>
      cases hb : J.bad with
      | true =>
        simp only [Bool.false_eq_true, if_false, if_true]
        exact bad 11 (by decide)
      | false =>
        cases hv : J.ov with
        | true =>
          simp only [Bool.false_eq_true, if_false, if_true]
          exact bad 3 (by decide)
        | false =>
          simp only [Bool.false_eq_true, if_false]
          clear bad
          (repeat first | (with_reducible first | refine Stp.go ?_ | refine StpE.go E ?_) | ((with_reducible refine Bi.dec false ?_ ?_); focus exact rfl))
          refine StA.all (vs := MC M nv qv) E rfl rfl ?_ ?_
          · have i1 : scalV nv = true := by obtain ⟨a, c, rfl, _⟩ := hN; rfl
            have i2 : scalV qv = true := by obtain ⟨a, c, rfl, _⟩ := hQ; rfl
            simp only [List.all_cons, List.all_nil, i1, i2, Bool.and_true]
            rfl
          clear E
          intro w_ E
          (repeat with_reducible refine StpE.go E ?_)
          exact ⟨nv, qv, X, rfl, hN, hQ, E.tl.tl⟩
end Go.Proofs.YtmlccboapkkcfaaDoor

/-
  The protocol: messages are compared (chapter 31's Same), lists of names, of Qids and of Dirs too.
-/
namespace Go.Proofs.YtmlccboapkkcfaaDoor
open Go Go.Sh
set_option maxRecDepth 100000
set_option linter.unusedVariables false
set_option linter.unusedSimpArgs false
variable {w0 w : World} {F : Nat → Prop} {l : List As}
theorem take_step {α} {xs ys : List α} {i : Nat} (h : xs.take i = ys.take i) (h1 : i < xs.length) (h2 : i < ys.length) (e : xs[i] = ys[i]) : xs.take (i + 1) = ys.take (i + 1) := by
  rw [List.take_add_one, List.take_add_one, h, List.getElem?_eq_getElem h1, List.getElem?_eq_getElem h2, e]
theorem take_all {α} {xs ys : List α} {i : Nat} (h : xs.take i = ys.take i) (hn : xs.length = ys.length) (hi : xs.length ≤ i) : xs = ys := by
  rw [List.take_of_length_le hi, List.take_of_length_le (by omega)] at h
  exact h
theorem eqStr_ok {u v : Value} {xs ys : List (List UInt8)} (hn : xs.length ≤ 1000000000) (E : Hs w0 F w l) (h1 : RdS w0 F l 1 xs.length u (xs.map sb)) (h2 : RdS w0 F l 1 ys.length v (ys.map sb)) :
    Ca PP Fn.slices_Equal_sl_string_string #[u, v] w fun r w' => r = .bool (decide (xs = ys)) ∧ Hs w0 F w' l := by
  refine S.slices_Equal_sl_string_string.calls ?_
  unfold S.slices_Equal_sl_string_string
  refine h1.len ?_
  refine h2.len ?_
  refine Bi.neq ?_ ?_ <;> intro hne
  · (repeat with_reducible refine Stp.go ?_)
    refine ⟨?_, E⟩
    rw [decide_eq_false]
    rintro rfl
    exact hne rfl
  have hne : xs.length = ys.length := by omega
  (repeat with_reducible refine Stp.go ?_)
  refine h1.len ?_
  refine ⟨fun l1 w1 => ∃ i : Nat, l1 = [i64 i] ∧ i ≤ xs.length ∧ xs.take i = ys.take i ∧ Hs w0 F w1 l, fun l1 _ => match l1 with | [.int _ i] => xs.length - i.toNat | _ => 0, ⟨0, rfl, Nat.zero_le _, rfl, E⟩, ?_⟩
  clear E
  rintro t u1 w1 ⟨i, e, hi, ht, E⟩
  cases e
  refine Bi.lss ?_ ?_ <;> intro hlt <;> (repeat with_reducible first | refine Stp.go ?_ | (refine StpW.go E ?_; clear E; intro w_ E))
  · have g1 : i < xs.length := by omega
    have g2 : i < ys.length := by omega
    have hd : ((xs.map sb).drop (((i : Int)).toNat * 1))[0]? = some (sb xs[i]) := by
      rw [Int.toNat_natCast, Nat.mul_one, List.getElem?_drop, Nat.add_zero, List.getElem?_map, List.getElem?_eq_getElem g1]; rfl
    have hd2 : ((ys.map sb).drop (((i : Int)).toNat * 1))[0]? = some (sb ys[i]) := by
      rw [Int.toNat_natCast, Nat.mul_one, List.getElem?_drop, Nat.add_zero, List.getElem?_map, List.getElem?_eq_getElem g2]; rfl
    refine h1.ix (by omega) (by omega) (by omega) ?_
    intro a ha
    refine ha.ld E hd ?_
    refine h2.ix (by omega) (by omega) (by omega) ?_
    intro a2 ha2
    refine ha2.ld E hd2 ?_
    refine Bi.sneq ?_ ?_ <;> intro hc <;> (repeat with_reducible refine Stp.go ?_)
    · refine ⟨?_, E⟩
      rw [decide_eq_false]
      rintro rfl
      exact hc rfl
    refine Bi.add (by omega) ?_
    exact ⟨⟨i + 1, by simp, by omega, take_step ht g1 g2 (mkB_inj hc), E⟩, by simp only []; omega⟩
  · refine ⟨?_, E⟩
    rw [decide_eq_true (take_all ht hne (by omega))]
abbrev lkQid : List LK := [.int .i64, .int .i64, .int .i64]
theorem lv_Qid : lv PP 20 Ty.api_Qid = some lkQid := by kernel_rfl
theorem st_Qid : isSt PP Ty.api_Qid = true := by kernel_rfl
theorem g_Qid : PP.eqGuardType PP.depth Ty.api_Qid = false := by kernel_rfl
theorem ceq_qid (d e : Qi) : ceqL (qcs d) (qcs e) = decide (d = e) := by
  obtain ⟨a1, a2, a3⟩ := d
  obtain ⟨b1, b2, b3⟩ := e
  simp only [ceqL, ceq_int, Bool.and_true]
  rw [Bool.eq_iff_iff]
  simp only [Bool.and_eq_true, decide_eq_true_eq, Qi.mk.injEq]
theorem eqQid_ok {u v : Value} {xs ys : List Qi} (hn : xs.length ≤ 1000000000) (E : Hs w0 F w l) (h1 : RdS w0 F l 3 xs.length u (qqs xs)) (h2 : RdS w0 F l 3 ys.length v (qqs ys)) :
    Ca PP Fn.slices_Equal_sl_api_Qid_api_Qid #[u, v] w fun r w' => r = .bool (decide (xs = ys)) ∧ Hs w0 F w' l := by
  refine S.slices_Equal_sl_api_Qid_api_Qid.calls ?_
  unfold S.slices_Equal_sl_api_Qid_api_Qid
  refine h1.len ?_
  refine h2.len ?_
  refine Bi.neq ?_ ?_ <;> intro hne
  · (repeat with_reducible refine Stp.go ?_)
    refine ⟨?_, E⟩
    rw [decide_eq_false]
    rintro rfl
    exact hne rfl
  have hne : xs.length = ys.length := by omega
  (repeat with_reducible refine Stp.go ?_)
  refine h1.len ?_
  refine ⟨fun l1 w1 => ∃ i : Nat, l1 = [i64 i] ∧ i ≤ xs.length ∧ xs.take i = ys.take i ∧ Hs w0 F w1 l, fun l1 _ => match l1 with | [.int _ i] => xs.length - i.toNat | _ => 0, ⟨0, rfl, Nat.zero_le _, rfl, E⟩, ?_⟩
  clear E
  rintro t u1 w1 ⟨i, e, hi, ht, E⟩
  cases e
  refine Bi.lss ?_ ?_ <;> intro hlt <;> (repeat with_reducible first | refine Stp.go ?_ | (refine StpW.go E ?_; clear E; intro w_ E))
  · have g1 : i < xs.length := by omega
    have g2 : i < ys.length := by omega
    refine h1.ix (by omega) (by omega) (by omega) ?_
    intro a ha
    rw [Int.toNat_natCast, qqs_at g1] at ha
    refine ha.lda E (m := 3) (ds := qcs xs[i]) rfl rfl (by omega) ?_
    refine h2.ix (by omega) (by omega) (by omega) ?_
    intro a2 ha2
    rw [Int.toNat_natCast, qqs_at g2] at ha2
    refine ha2.lda E (m := 3) (ds := qcs ys[i]) rfl rfl (by omega) ?_
    refine EqS.n lv_Qid st_Qid g_Qid rfl rfl ?_
    rw [ceq_qid]
    by_cases hc : xs[i] = ys[i]
    · rw [decide_eq_true hc, Bool.not_true]
      (repeat with_reducible refine Stp.go ?_)
      refine Bi.add (by omega) ?_
      exact ⟨⟨i + 1, by simp, by omega, take_step ht g1 g2 hc, E⟩, by simp only []; omega⟩
    · rw [decide_eq_false hc, Bool.not_false]
      (repeat with_reducible refine Stp.go ?_)
      refine ⟨?_, E⟩
      rw [decide_eq_false]
      rintro rfl
      exact hc rfl
  · refine ⟨?_, E⟩
    rw [decide_eq_true (take_all ht hne (by omega))]
abbrev dqs (ds : List Di) : List Value := ds.flatMap dcs
end Go.Proofs.YtmlccboapkkcfaaDoor

/-
  The protocol: messages are compared (chapter 31's Same).
-/
namespace Go.Proofs.YtmlccboapkkcfaaDoor
open Go Go.Sh
set_option maxRecDepth 100000
set_option linter.unusedVariables false
set_option linter.unusedSimpArgs false
variable {w0 w : World} {F : Nat → Prop} {l : List As}
theorem Ms.ext' {a b : Ms} (h1 : a.kind = b.kind) (h2 : a.tag = b.tag) (h3 : a.fid = b.fid) (h4 : a.other = b.other) (h5 : a.old = b.old) (h6 : a.size = b.size) (h7 : a.off = b.off) (h8 : a.mode = b.mode) (h9 : a.perm = b.perm)
    (h10 : a.ver = b.ver) (h11 : a.user = b.user) (h12 : a.tree = b.tree) (h13 : a.name = b.name) (h14 : a.names = b.names) (h15 : a.qids = b.qids) (h16 : a.data = b.data) (h17 : a.dir = b.dir) (h18 : a.code = b.code) : a = b := by
  cases a; cases b
  simp only at *
  subst h1 h2 h3 h4 h5 h6 h7 h8 h9 h10 h11 h12 h13 h14 h15 h16 h17 h18
  rfl
theorem Same_ok {a b : Ms} {n1 q1 n2 q2 : Value} (hn : a.names.length ≤ 1000000000) (hq : a.qids.length ≤ 1000000000) (E : Hs w0 F w l)
    (h1 : RdS w0 F l 1 a.names.length n1 (a.names.map sb)) (h2 : RdS w0 F l 3 a.qids.length q1 (qqs a.qids)) (h3 : RdS w0 F l 1 b.names.length n2 (b.names.map sb)) (h4 : RdS w0 F l 3 b.qids.length q2 (qqs b.qids)) :
    Ca PP Fn.law31_Same #[.agg (MC a n1 q1).toArray, .agg (MC b n2 q2).toArray] w fun r w' => r = .bool (decide (a = b)) ∧ Hs w0 F w' l := by
  refine S.law31_Same.calls ?_
  unfold S.law31_Same
  have i1 : Scal n1 := ⟨by obtain ⟨a, c, rfl, _⟩ := h1; rfl⟩
  have i2 : Scal q1 := ⟨by obtain ⟨a, c, rfl, _⟩ := h2; rfl⟩
  have i3 : Scal n2 := ⟨by obtain ⟨a, c, rfl, _⟩ := h3; rfl⟩
  have i4 : Scal q2 := ⟨by obtain ⟨a, c, rfl, _⟩ := h4; rfl⟩
  (repeat with_reducible (refine StpA.go E ?_; clear E; intro b_ w_ hb_ E))
  (intro J5 hJ5)
  (repeat with_reducible first | refine Stp.go ?_ | refine StpE.go E ?_)
  refine (eqStr_ok hn E ((h1.cons _).cons _) ((h3.cons _).cons _)).mono ?_
  clear E
  rintro r w_ ⟨rfl, E⟩
  by_cases c0 : a.names = b.names
  rotate_left
  · rw [decide_eq_false c0]
    (repeat with_reducible first | refine Stp.go ?_ | (apply hJ5; intro u_))
    refine ⟨?_, E.tl.tl⟩
    rw [decide_eq_false (fun h => c0 (by rw [h]))]
  rw [decide_eq_true c0]
  (repeat with_reducible first | refine Stp.go ?_ | refine StpE.go E ?_)
  refine (eqQid_ok hq E ((h2.cons _).cons _) ((h4.cons _).cons _)).mono ?_
  clear E
  rintro r w_ ⟨rfl, E⟩
  by_cases c1 : a.qids = b.qids
  rotate_left
  · rw [decide_eq_false c1]
    (repeat with_reducible first | refine Stp.go ?_ | (apply hJ5; intro u_))
    refine ⟨?_, E.tl.tl⟩
    rw [decide_eq_false (fun h => c1 (by rw [h]))]
  rw [decide_eq_true c1]
  (repeat with_reducible first | refine Stp.go ?_ | (apply hJ5; intro u_))
  (intro J9 hJ9)
  (repeat with_reducible first | refine Stp.go ?_ | refine StpE.go E ?_)
  refine Bi.eql (fun ckind => ?_) (fun ckind => ?_)
  rotate_left
  · (repeat with_reducible first | refine Stp.go ?_ | (apply hJ9; intro u_))
    refine ⟨?_, E.tl.tl⟩
    rw [decide_eq_false (fun h => ckind (by rw [h]))]
  (repeat with_reducible first | refine Stp.go ?_ | refine StpE.go E ?_)
  refine Bi.eql (fun ctag => ?_) (fun ctag => ?_)
  rotate_left
  · (repeat with_reducible first | refine Stp.go ?_ | (apply hJ9; intro u_))
    refine ⟨?_, E.tl.tl⟩
    rw [decide_eq_false (fun h => ctag (by rw [h]))]
  (repeat with_reducible first | refine Stp.go ?_ | refine StpE.go E ?_)
  refine Bi.eql (fun cfid => ?_) (fun cfid => ?_)
  rotate_left
  · (repeat with_reducible first | refine Stp.go ?_ | (apply hJ9; intro u_))
    refine ⟨?_, E.tl.tl⟩
    rw [decide_eq_false (fun h => cfid (by rw [h]))]
  (repeat with_reducible first | refine Stp.go ?_ | refine StpE.go E ?_)
  refine Bi.eql (fun cother => ?_) (fun cother => ?_)
  rotate_left
  · (repeat with_reducible first | refine Stp.go ?_ | (apply hJ9; intro u_))
    refine ⟨?_, E.tl.tl⟩
    rw [decide_eq_false (fun h => cother (by rw [h]))]
  (repeat with_reducible first | refine Stp.go ?_ | refine StpE.go E ?_)
  refine Bi.eql (fun cold => ?_) (fun cold => ?_)
  rotate_left
  · (repeat with_reducible first | refine Stp.go ?_ | (apply hJ9; intro u_))
    refine ⟨?_, E.tl.tl⟩
    rw [decide_eq_false (fun h => cold (by rw [h]))]
  (repeat with_reducible first | refine Stp.go ?_ | refine StpE.go E ?_)
  refine Bi.eql (fun csize => ?_) (fun csize => ?_)
  rotate_left
  · (repeat with_reducible first | refine Stp.go ?_ | (apply hJ9; intro u_))
    refine ⟨?_, E.tl.tl⟩
    rw [decide_eq_false (fun h => csize (by rw [h]))]
  (repeat with_reducible first | refine Stp.go ?_ | refine StpE.go E ?_)
  refine Bi.eql (fun coff => ?_) (fun coff => ?_)
  rotate_left
  · (repeat with_reducible first | refine Stp.go ?_ | (apply hJ9; intro u_))
    refine ⟨?_, E.tl.tl⟩
    rw [decide_eq_false (fun h => coff (by rw [h]))]
  (repeat with_reducible first | refine Stp.go ?_ | refine StpE.go E ?_)
  refine Bi.eql (fun cmode => ?_) (fun cmode => ?_)
  rotate_left
  · (repeat with_reducible first | refine Stp.go ?_ | (apply hJ9; intro u_))
    refine ⟨?_, E.tl.tl⟩
    rw [decide_eq_false (fun h => cmode (by rw [h]))]
  (repeat with_reducible first | refine Stp.go ?_ | refine StpE.go E ?_)
  refine Bi.eql (fun cperm => ?_) (fun cperm => ?_)
  rotate_left
  · (repeat with_reducible first | refine Stp.go ?_ | (apply hJ9; intro u_))
    refine ⟨?_, E.tl.tl⟩
    rw [decide_eq_false (fun h => cperm (by rw [h]))]
  (repeat with_reducible first | refine Stp.go ?_ | refine StpE.go E ?_)
  refine Bi.seql (fun cver => ?_) (fun cver => ?_)
  rotate_left
  · (repeat with_reducible first | refine Stp.go ?_ | (apply hJ9; intro u_))
    refine ⟨?_, E.tl.tl⟩
    rw [decide_eq_false (fun h => cver (by rw [h]))]
  (repeat with_reducible first | refine Stp.go ?_ | refine StpE.go E ?_)
  refine Bi.seql (fun cuser => ?_) (fun cuser => ?_)
  rotate_left
  · (repeat with_reducible first | refine Stp.go ?_ | (apply hJ9; intro u_))
    refine ⟨?_, E.tl.tl⟩
    rw [decide_eq_false (fun h => cuser (by rw [h]))]
  (repeat with_reducible first | refine Stp.go ?_ | refine StpE.go E ?_)
  refine Bi.seql (fun ctree => ?_) (fun ctree => ?_)
  rotate_left
  · (repeat with_reducible first | refine Stp.go ?_ | (apply hJ9; intro u_))
    refine ⟨?_, E.tl.tl⟩
    rw [decide_eq_false (fun h => ctree (by rw [h]))]
  (repeat with_reducible first | refine Stp.go ?_ | refine StpE.go E ?_)
  refine Bi.seql (fun cname => ?_) (fun cname => ?_)
  rotate_left
  · (repeat with_reducible first | refine Stp.go ?_ | (apply hJ9; intro u_))
    refine ⟨?_, E.tl.tl⟩
    rw [decide_eq_false (fun h => cname (by rw [h]))]
  (repeat with_reducible first | refine Stp.go ?_ | refine StpE.go E ?_)
  refine Bi.seql (fun cdata => ?_) (fun cdata => ?_)
  rotate_left
  · (repeat with_reducible first | refine Stp.go ?_ | (apply hJ9; intro u_))
    refine ⟨?_, E.tl.tl⟩
    rw [decide_eq_false (fun h => cdata (by rw [h]))]
  (repeat with_reducible first | refine Stp.go ?_ | refine StpE.go E ?_)
  refine EqS.e (xs := dcs a.dir) (ys := dcs b.dir) lv_Dir st_Dir g_Dir rfl rfl ?_
  rw [ceq_dir]
  by_cases cdir : a.dir = b.dir
  rotate_left
  · rw [decide_eq_false cdir]
    (repeat with_reducible first | refine Stp.go ?_ | (apply hJ9; intro u_))
    refine ⟨?_, E.tl.tl⟩
    rw [decide_eq_false (fun h => cdir (by rw [h]))]
  rw [decide_eq_true cdir]
  (repeat with_reducible first | refine Stp.go ?_ | refine StpE.go E ?_)
  refine Bi.eql (fun ccode => ?_) (fun ccode => ?_)
  rotate_left
  · (repeat with_reducible first | refine Stp.go ?_ | (apply hJ9; intro u_))
    refine ⟨?_, E.tl.tl⟩
    rw [decide_eq_false (fun h => ccode (by rw [h]))]
  (repeat with_reducible first | refine Stp.go ?_ | (apply hJ9; intro u_))
  refine ⟨?_, E.tl.tl⟩
  rw [decide_eq_true]
  exact Ms.ext' ckind ctag cfid cother cold csize coff cmode cperm (mkB_inj cver) (mkB_inj cuser) (mkB_inj ctree) (mkB_inj cname) c0 c1 (mkB_inj cdata) cdir ccode
end Go.Proofs.YtmlccboapkkcfaaDoor

/-
  The protocol: the examples of the chapter (chapter 31's awake).
-/
namespace Go.Proofs.YtmlccboapkkcfaaDoor
open Go Go.Sh
set_option maxRecDepth 100000
set_option linter.unusedVariables false
set_option linter.unusedSimpArgs false
variable {w0 w : World} {F : Nat → Prop} {l : List As}
abbrev aM1 : Ms := { m0 with kind := 120, tag := 1, fid := 2 }
abbrev aM2 : Ms := { m0 with kind := 107, tag := 65535, code := 4 }
abbrev aM3 : Ms := { m0 with kind := 110, tag := 258, fid := 1, other := 2, names := [[97]] }
abbrev aS3 : List UInt8 := [20, 0, 0, 0, 110, 2, 1, 1, 0, 0, 0, 2, 0, 0, 0, 1, 0, 1, 0, 97]
theorem aw1 : enc aM1 = ([11, 0, 0, 0, 120, 1, 0, 2, 0, 0, 0], 0) := by kernel_rfl
theorem aw2 : enc aM2 = ([9, 0, 0, 0, 107, 255, 255, 4, 0], 0) := by kernel_rfl
theorem aw3 : dec aS3 = (aM3, 0) := by kernel_rfl
theorem nm_string : el3 PP Ty.string = some (some (.string ⟨#[]⟩), 1, 16) := by kernel_rfl
theorem u_names : PP.underlying Ty.sl_string = some (.slice Ty.string) := by kernel_rfl
theorem ok_lit {m : Ms} (h1 : m.qids = []) (h2 : m.dir = d0) (h3 : -9223372036854775808 ≤ m.off ∧ m.off ≤ 9223372036854775807 := by decide) : m.Ok := by
  refine ⟨h3, ?_, ?_⟩
  · rw [h1]; intro q h; cases h
  · rw [h2]; unfold Di.Ok Qi.Ok; decide
theorem mi1 : MI w0 F l aM1 nilV nilV := { ok := ok_lit (by decide) (by decide), rg := by unfold rngI; decide, kd := by decide, n1 := by decide, q1 := by decide, zn := by decide, zs := by decide, zd := by decide, rn := rds_nil, rq := rds_nil }
theorem mi2 : MI w0 F l aM2 nilV nilV := { ok := ok_lit (by decide) (by decide), rg := by unfold rngI; decide, kd := by decide, n1 := by decide, q1 := by decide, zn := by decide, zs := by decide, zd := by decide, rn := rds_nil, rq := rds_nil }
theorem awake_ok (hW : Wds w0 F) (E : Hs w0 F w l) : Ca PP Fn.law31_awake #[] w fun r w' => r = .bool true ∧ Hs w0 F w' l := by
  refine S.law31_awake.calls ?_
  unfold S.law31_awake
  (repeat with_reducible refine StpE.go E ?_)
  refine (Encode_ok hW (m := aM1) mi1 E).mono ?_
  clear E
  rintro r w_ ⟨rfl, E⟩
  rw [aw1]
  (repeat with_reducible first | refine Stp.go ?_ | refine StpE.go E ?_)
  refine (Encode_ok hW (m := aM2) mi2 E).mono ?_
  clear E
  rintro r w_ ⟨rfl, E⟩
  rw [aw2]
  (repeat with_reducible refine Stp.go ?_)
  refine (Decode_ok hW (s := aS3) (by decide) E).mono ?_
  clear E
  rintro r w_ ⟨nv, qv, X, rfl, h1, h2, E⟩
  rw [aw3] at h1 h2 ⊢
  dsimp only at h1 h2 ⊢
  have i1 : scalV nv = true := by obtain ⟨a, c, rfl, _⟩ := h1; rfl
  have i2 : scalV qv = true := by obtain ⟨a, c, rfl, _⟩ := h2; rfl
  (repeat with_reducible first | refine Stp.go ?_ | (refine StpA.go E ?_; clear E; intro b_ w_ hb_ E))
  refine StA.all (vs := MC aM3 nv qv) E rfl rfl ?_ ?_
  · simp only [List.all_cons, List.all_nil, i1, i2, Bool.and_true]
    rfl
  clear E
  intro w_ E
  skip
  (intro J18 hJ18)
  have fin : ∀ b w_, b = true → Hs w0 F w_ l → J18 [.bool b] w_ := by
    rintro b w_ rfl h
    (repeat with_reducible (apply hJ18; intro u_))
    exact ⟨rfl, h⟩
  clear hJ18
  (repeat first | (with_reducible first | refine Stp.go ?_ | refine StpE.go E ?_) | ((with_reducible refine Bi.dec true ?_ ?_); focus exact rfl) | ((with_reducible refine Bi.sdec true ?_ ?_); focus decide))
  refine BdS.one E u_names nm_string rfl ?_
  clear E
  intro v w_ E
  (repeat with_reducible first | refine Stp.go ?_ | refine StpE.go E ?_)
  have hv := RdS.sl (T := Ty.string) (v := v) (sz := 1) (xs := [sb [97]]) List.mem_cons_self (by omega) E
  refine (Same_ok (a := aM3) (b := aM3) (n1 := nv) (q1 := qv) (n2 := v) (q2 := nilV) (by decide) (by decide) E (h1.weaken fun _ E => E.tl.tl.drop (List.sublist_append_left _ _)) (h2.weaken fun _ E => E.tl.tl.drop (List.sublist_append_left _ _)) hv rds_nil).mono ?_
  clear E
  rintro r w_ ⟨rfl, E⟩
  (repeat with_reducible refine Stp.go ?_)
  refine fin _ _ (decide_eq_true rfl) (E.tl.tl.drop (List.sublist_append_right _ _))
end Go.Proofs.YtmlccboapkkcfaaDoor

/-
  The protocol's reference: the fields of a kind, requests, answers and words.
-/
namespace Go.Proofs.YtmlccboapkkcfaaDoor
open Go Go.Sh
set_option maxRecDepth 100000
set_option linter.unusedVariables false
set_option linter.unusedSimpArgs false
variable {w0 w : World} {F : Nat → Prop} {l : List As}
/-- The letter of a field. -/
def ltr : Fl → UInt8
  | .xS => 83 | .xv => 118 | .xf => 102 | .xu => 117 | .xt => 116 | .xq => 113 | .xo => 111 | .xc => 99 | .xd => 100 | .xn => 110 | .xQ => 81 | .xm => 109 | .xN => 78 | .xp => 112 | .xO => 79 | .xD => 68 | .xi => 105
def rf (k : Int) : List UInt8 × Bool := match fls k with
  | some l => (l.map ltr, true)
  | none => ([], false)
theorem rFields_ok {k : Int} (E : Hs w0 F w l) : Ca PP Fn.r31_Fields #[i64 k] w fun r w' => r = .tuple #[sb (rf k).1, .bool (rf k).2] ∧ Hs w0 F w' l := by
  refine S.r31_Fields.calls ?_
  unfold S.r31_Fields
  (intro J1 hJ1)
  refine Bi.eql (fun c => ?_) (fun c100 => ?_)
  · subst c
    (repeat with_reducible first | refine Stp.go ?_ | (apply hJ1; intro u_))
    exact ⟨rfl, E⟩
  (repeat with_reducible refine Stp.go ?_)
  refine Bi.eql (fun c => ?_) (fun c101 => ?_)
  · subst c
    (repeat with_reducible first | refine Stp.go ?_ | (apply hJ1; intro u_))
    exact ⟨rfl, E⟩
  (repeat with_reducible first | refine Stp.go ?_ | (apply hJ1; intro u_))
  refine Bi.eql (fun c => ?_) (fun c102 => ?_)
  · subst c
    (repeat with_reducible refine Stp.go ?_)
    exact ⟨rfl, E⟩
  (repeat with_reducible refine Stp.go ?_)
  (intro J6 hJ6)
  refine Bi.eql (fun c => ?_) (fun c103 => ?_)
  · subst c
    (repeat with_reducible first | refine Stp.go ?_ | (apply hJ6; intro u_))
    exact ⟨rfl, E⟩
  (repeat with_reducible refine Stp.go ?_)
  refine Bi.eql (fun c => ?_) (fun c105 => ?_)
  · subst c
    (repeat with_reducible first | refine Stp.go ?_ | (apply hJ6; intro u_))
    exact ⟨rfl, E⟩
  (repeat with_reducible first | refine Stp.go ?_ | (apply hJ6; intro u_))
  refine Bi.eql (fun c => ?_) (fun c104 => ?_)
  · subst c
    (repeat with_reducible refine Stp.go ?_)
    exact ⟨rfl, E⟩
  (repeat with_reducible refine Stp.go ?_)
  refine Bi.eql (fun c => ?_) (fun c107 => ?_)
  · subst c
    (repeat with_reducible refine Stp.go ?_)
    exact ⟨rfl, E⟩
  (repeat with_reducible refine Stp.go ?_)
  refine Bi.eql (fun c => ?_) (fun c108 => ?_)
  · subst c
    (repeat with_reducible refine Stp.go ?_)
    exact ⟨rfl, E⟩
  (repeat with_reducible refine Stp.go ?_)
  refine Bi.eql (fun c => ?_) (fun c110 => ?_)
  · subst c
    (repeat with_reducible refine Stp.go ?_)
    exact ⟨rfl, E⟩
  (repeat with_reducible refine Stp.go ?_)
  refine Bi.eql (fun c => ?_) (fun c111 => ?_)
  · subst c
    (repeat with_reducible refine Stp.go ?_)
    exact ⟨rfl, E⟩
  (repeat with_reducible refine Stp.go ?_)
  refine Bi.eql (fun c => ?_) (fun c112 => ?_)
  · subst c
    (repeat with_reducible refine Stp.go ?_)
    exact ⟨rfl, E⟩
  (repeat with_reducible refine Stp.go ?_)
  (intro J16 hJ16)
  refine Bi.eql (fun c => ?_) (fun c113 => ?_)
  · subst c
    (repeat with_reducible first | refine Stp.go ?_ | (apply hJ16; intro u_))
    exact ⟨rfl, E⟩
  (repeat with_reducible refine Stp.go ?_)
  refine Bi.eql (fun c => ?_) (fun c115 => ?_)
  · subst c
    (repeat with_reducible first | refine Stp.go ?_ | (apply hJ16; intro u_))
    exact ⟨rfl, E⟩
  (repeat with_reducible first | refine Stp.go ?_ | (apply hJ16; intro u_))
  refine Bi.eql (fun c => ?_) (fun c114 => ?_)
  · subst c
    (repeat with_reducible refine Stp.go ?_)
    exact ⟨rfl, E⟩
  (repeat with_reducible refine Stp.go ?_)
  refine Bi.eql (fun c => ?_) (fun c116 => ?_)
  · subst c
    (repeat with_reducible refine Stp.go ?_)
    exact ⟨rfl, E⟩
  (repeat with_reducible refine Stp.go ?_)
  refine Bi.eql (fun c => ?_) (fun c117 => ?_)
  · subst c
    (repeat with_reducible refine Stp.go ?_)
    exact ⟨rfl, E⟩
  (repeat with_reducible refine Stp.go ?_)
  refine Bi.eql (fun c => ?_) (fun c118 => ?_)
  · subst c
    (repeat with_reducible refine Stp.go ?_)
    exact ⟨rfl, E⟩
  (repeat with_reducible refine Stp.go ?_)
  refine Bi.eql (fun c => ?_) (fun c119 => ?_)
  · subst c
    (repeat with_reducible refine Stp.go ?_)
    exact ⟨rfl, E⟩
  (repeat with_reducible refine Stp.go ?_)
  (intro J25 hJ25)
  refine Bi.eql (fun c => ?_) (fun c120 => ?_)
  · subst c
    (repeat with_reducible first | refine Stp.go ?_ | (apply hJ25; intro u_))
    exact ⟨rfl, E⟩
  (repeat with_reducible refine Stp.go ?_)
  refine Bi.eql (fun c => ?_) (fun c122 => ?_)
  · subst c
    (repeat with_reducible first | refine Stp.go ?_ | (apply hJ25; intro u_))
    exact ⟨rfl, E⟩
  (repeat with_reducible refine Stp.go ?_)
  refine Bi.eql (fun c => ?_) (fun c124 => ?_)
  · subst c
    (repeat with_reducible first | refine Stp.go ?_ | (apply hJ25; intro u_))
    exact ⟨rfl, E⟩
  (repeat with_reducible first | refine Stp.go ?_ | (apply hJ25; intro u_))
  refine Bi.eql (fun c => ?_) (fun c125 => ?_)
  · subst c
    (repeat with_reducible refine Stp.go ?_)
    exact ⟨rfl, E⟩
  (repeat with_reducible refine Stp.go ?_)
  refine Bi.eql (fun c => ?_) (fun c126 => ?_)
  · subst c
    (repeat with_reducible refine Stp.go ?_)
    exact ⟨rfl, E⟩
  (repeat with_reducible refine Stp.go ?_)
  (intro J31 hJ31)
  refine Bi.eql (fun c => ?_) (fun c109 => ?_)
  · subst c
    (repeat with_reducible first | refine Stp.go ?_ | (apply hJ31; intro u_))
    exact ⟨rfl, E⟩
  (repeat with_reducible refine Stp.go ?_)
  refine Bi.eql (fun c => ?_) (fun c121 => ?_)
  · subst c
    (repeat with_reducible first | refine Stp.go ?_ | (apply hJ31; intro u_))
    exact ⟨rfl, E⟩
  (repeat with_reducible refine Stp.go ?_)
  refine Bi.eql (fun c => ?_) (fun c123 => ?_)
  · subst c
    (repeat with_reducible first | refine Stp.go ?_ | (apply hJ31; intro u_))
    exact ⟨rfl, E⟩
  (repeat with_reducible refine Stp.go ?_)
  refine Bi.eql (fun c => ?_) (fun c127 => ?_)
  · subst c
    (repeat with_reducible first | refine Stp.go ?_ | (apply hJ31; intro u_))
    exact ⟨rfl, E⟩
  (repeat with_reducible first | refine Stp.go ?_ | (apply hJ31; intro u_))
  have : fls k = none := by
    cases h : fls k with
    | none => rfl
    | some l => 
      exfalso
      have := fls_cases h
      omega
  unfold rf
  rw [this]
  exact ⟨rfl, E⟩
def rwl : List (List UInt8) := [[118, 101, 114, 115, 105, 111, 110], [97, 117, 116, 104], [97, 116, 116, 97, 99, 104], [], [102, 108, 117, 115, 104], [119, 97, 108, 107], [111, 112, 101, 110], [99, 114, 101, 97, 116, 101], [114, 101, 97, 100], [119, 114, 105, 116, 101], [99, 108, 117, 110, 107], [114, 101, 109, 111, 118, 101], [115, 116, 97, 116], [119, 115, 116, 97, 116]]
end Go.Proofs.YtmlccboapkkcfaaDoor

/-
  The protocol: Frames.
-/
namespace Go.Proofs.YtmlccboapkkcfaaDoor
open Go Go.Sh
set_option maxRecDepth 100000
set_option linter.unusedVariables false
set_option linter.unusedSimpArgs false
variable {w0 w : World} {F : Nat → Prop} {l : List As}
/-- What frames of a rest are behind these. -/
def frW (done : List (List UInt8)) (x : List (List UInt8) × List UInt8 × Int) : List (List UInt8) × List UInt8 × Int := if x.2.2 = 0 then (done ++ x.1, x.2.1, 0) else ([], [], x.2.2)
theorem mkB_take (s : List UInt8) (n : Nat) : (mkB s).extract 0 n = mkB (s.take n) := by
  rw [mkB_ext, List.drop_zero]
end Go.Proofs.YtmlccboapkkcfaaDoor

/-
  The protocol's reference: the number that bytes are; Frames.
-/
namespace Go.Proofs.YtmlccboapkkcfaaDoor
open Go Go.Sh
set_option maxRecDepth 100000
set_option linter.unusedVariables false
set_option linter.unusedSimpArgs false
variable {w0 w : World} {F : Nat → Prop} {l : List As}
theorem shl8 {v : Nat} {k : Value → Prop} (hv : v * 256 < 18446744073709551616) (hk : k (.int .u64 ((v * 256 : Nat) : Int))) : Bi .shl (.int .u64 (v : Int)) (.int .u64 8) k := by
  refine Bi.mk (v := .int .u64 ((v * 256 : Nat) : Int)) ?_ hk
  have h1 : min (8 : Int).toNat (IntKind.bits .u64) = 8 := by decide
  simp only [binV]
  rw [if_neg (by omega), h1]
  have h2 : (v : Int) * (2 : Int) ^ 8 = ((v * 256 : Nat) : Int) := by
    rw [show (2 : Int) ^ 8 = 256 by decide]
    omega
  rw [h2]
  have : IntKind.u64.wrap ((v * 256 : Nat) : Int) = ((v * 256 : Nat) : Int) := by
    show (((v * 256 : Nat) : Int) % 18446744073709551616) = _
    omega
  rw [this]
theorem or8 {v b : Nat} {k : Value → Prop} (hv : v * 256 + b < 18446744073709551616) (hb : b < 256) (hk : k (.int .u64 ((b + 256 * v : Nat) : Int))) : Bi .or (.int .u64 ((v * 256 : Nat) : Int)) (.int .u64 (b : Int)) k := by
  refine Bi.mk (v := .int .u64 ((b + 256 * v : Nat) : Int)) ?_ hk
  show some (Value.int .u64 (IntKind.u64.wrap (BitVec.ofInt 64 ((v * 256 : Nat) : Int) ||| BitVec.ofInt 64 (b : Int)).toNat)) = _
  have e1 : (BitVec.ofInt 64 ((v * 256 : Nat) : Int) ||| BitVec.ofInt 64 (b : Int)).toNat = b + 256 * v := by
    rw [BitVec.toNat_or, BitVec.ofInt_natCast, BitVec.ofInt_natCast, BitVec.toNat_ofNat, BitVec.toNat_ofNat, Nat.mod_eq_of_lt (by omega), Nat.mod_eq_of_lt (by omega)]
    have := Nat.two_pow_add_eq_or_of_lt (i := 8) (b := b) (by omega) v
    rw [show (2 : Nat) ^ 8 = 256 by decide, Nat.mul_comm 256 v] at this
    rw [← this]
    omega
  rw [e1]
  have : IntKind.u64.wrap ((b + 256 * v : Nat) : Int) = ((b + 256 * v : Nat) : Int) := by
    show (((b + 256 * v : Nat) : Int) % 18446744073709551616) = _
    omega
  rw [this]
theorem rvalue_ok {s : List UInt8} (hs : s.length ≤ 8) (E : Hs w0 F w l) : Ca PP Fn.r31_value #[sb s] w fun q w' => q = .int .u64 ((un s : Nat) : Int) ∧ Hs w0 F w' l := by
  refine S.r31_value.calls ?_
  unfold S.r31_value
  (repeat with_reducible refine Stp.go ?_)
  refine Bi.sub (by rw [mkB_size]; omega) ?_
  refine ⟨fun l1 w1 => ∃ k : Nat, k ≤ s.length ∧ l1 = [.int .u64 ((un (s.drop k) : Nat) : Int), i64 ((k : Int) - 1)] ∧ Hs w0 F w1 l, fun l1 _ => match l1 with | [_, .int _ i] => (i + 1).toNat | _ => 0, ⟨s.length, Nat.le_refl _, ?_, E⟩, ?_⟩
  · rw [List.drop_length, mkB_size]; rfl
  clear E
  rintro t3 t4 u1 w1 ⟨k, hk, e, E⟩
  cases e
  refine Bi.geq ?_ ?_ <;> intro c1 <;> (repeat with_reducible refine Stp.go ?_)
  · obtain ⟨k, rfl⟩ : ∃ j, k = j + 1 := ⟨k - 1, by omega⟩
    have hx : s[k]? = some s[k] := List.getElem?_eq_getElem (by omega)
    have hd : s.drop k = s[k] :: s.drop (k + 1) := List.drop_eq_getElem_cons (by omega)
    have hu : un (s.drop k) = s[k].toNat + 256 * un (s.drop (k + 1)) := by rw [hd]; rfl
    have h1 := un_lt (s.drop k)
    have h3 : (256 : Nat) ^ (s.drop k).length ≤ 256 ^ 8 := Nat.pow_le_pow_right (by omega) (by rw [List.length_drop]; omega)
    have h4 : (256 : Nat) ^ 8 = 18446744073709551616 := by decide
    have hb := s[k].toNat_lt
    refine shl8 (v := un (s.drop (k + 1))) (by omega) ?_
    refine IxS.mk (b := s[k]) (by omega) (by rw [show ((((k + 1 : Nat) : Int) - 1).toNat) = k by omega]; show s.toArray[k]? = _; rw [List.getElem?_toArray]; exact hx) ?_
    refine Cv.mk ?_
    have hw : IntKind.u64.wrap (s[k].toNat : Int) = (s[k].toNat : Int) := by
      show ((s[k].toNat : Int) % 18446744073709551616) = _
      omega
    rw [hw]
    refine or8 (by omega) hb ?_
    refine Bi.sub (by omega) ?_
    refine ⟨⟨k, by omega, ?_, E⟩, by simp only []; omega⟩
    rw [hu, show (((k + 1 : Nat) : Int) - 1 - 1) = (k : Int) - 1 by omega]
  · have : k = 0 := by omega
    subst this
    exact ⟨rfl, E⟩
end Go.Proofs.YtmlccboapkkcfaaDoor

/-
  The protocol: the Dir at the beginning of a text.
-/
namespace Go.Proofs.YtmlccboapkkcfaaDoor
open Go Go.Sh
set_option maxRecDepth 100000
set_option linter.unusedVariables false
set_option linter.unusedSimpArgs false
variable {w0 w : World} {F : Nat → Prop} {l : List As}
end Go.Proofs.YtmlccboapkkcfaaDoor

/-
  The protocol: the Dirs of a text.
-/
namespace Go.Proofs.YtmlccboapkkcfaaDoor
open Go Go.Sh
set_option maxRecDepth 100000
set_option linter.unusedVariables false
set_option linter.unusedSimpArgs false
variable {w0 w : World} {F : Nat → Prop} {l : List As}
def drW (done : List Di) (x : List Di × Int) : List Di × Int := if x.2 = 0 then (done ++ x.1, 0) else ([], x.2)
end Go.Proofs.YtmlccboapkkcfaaDoor

/-
  The protocol: Entries.
-/
namespace Go.Proofs.YtmlccboapkkcfaaDoor
open Go Go.Sh
set_option maxRecDepth 100000
set_option linter.unusedVariables false
set_option linter.unusedSimpArgs false
variable {w0 w : World} {F : Nat → Prop} {l : List As}
def bigQ (count : Int) : List (List UInt8) → Bool
  | [] => false
  | y :: _ => decide ((y.length : Int) > count)
def entR (count : Int) (Q : List (List UInt8)) : List UInt8 × Int := if bigQ count Q then ([], 3) else (tkn count [] Q, 0)
def entW (count : Int) (x : Int × List (List UInt8)) : List UInt8 × Int := if count < 0 ∨ x.1 ≠ 0 then ([], 11) else entR count x.2
end Go.Proofs.YtmlccboapkkcfaaDoor

/-
  The protocol: how great a message may be (chapter 31's Few).
-/
namespace Go.Proofs.YtmlccboapkkcfaaDoor
open Go Go.Sh
set_option maxRecDepth 100000
set_option linter.unusedVariables false
set_option linter.unusedSimpArgs false
variable {w0 w : World} {F : Nat → Prop} {l : List As}
def droom (d : Di) : Nat := d.name.length + d.owner.length + d.group.length + d.last.length
def msz (m : Ms) : Nat := m.ver.length + m.user.length + m.tree.length + m.name.length + m.data.length + droom m.dir
def few (m : Ms) : Bool := decide (m.names.length ≤ 40) && decide (m.qids.length ≤ 40) && decide (msz m + (m.names.map List.length).sum ≤ 20000)
/-- No text of a message is greater than this. -/
structure MB (m : Ms) : Prop where
  t : m.ver.length ≤ 140737488355328 ∧ m.user.length ≤ 140737488355328 ∧ m.tree.length ≤ 140737488355328 ∧ m.name.length ≤ 140737488355328 ∧ m.data.length ≤ 140737488355328
  d : m.dir.name.length ≤ 140737488355328 ∧ m.dir.owner.length ≤ 140737488355328 ∧ m.dir.group.length ≤ 140737488355328 ∧ m.dir.last.length ≤ 140737488355328
  n : ∀ s ∈ m.names, s.length ≤ 140737488355328
end Go.Proofs.YtmlccboapkkcfaaDoor

/-
  The protocol: whether one of some Dirs is as a function says; how great they may be (chapter 31's fewDirs).
-/
namespace Go.Proofs.YtmlccboapkkcfaaDoor
open Go Go.Sh
set_option maxRecDepth 100000
set_option linter.unusedVariables false
set_option linter.unusedSimpArgs false
variable {w0 w : World} {F : Nat → Prop} {l : List As}
/-- No text of a Dir is greater than this. -/
def DB (d : Di) : Prop := d.name.length ≤ 140737488355328 ∧ d.owner.length ≤ 140737488355328 ∧ d.group.length ≤ 140737488355328 ∧ d.last.length ≤ 140737488355328
def fewD (xs : List Di) : Bool := decide (xs.length ≤ 20) && !xs.any fun d => decide (droom d > 3000)
end Go.Proofs.YtmlccboapkkcfaaDoor

/-
  The protocol's reference: numbers, words, qids, Dirs; whether a letter is in a text; ranges.
-/
namespace Go.Proofs.YtmlccboapkkcfaaDoor
open Go Go.Sh
set_option maxRecDepth 100000
set_option linter.unusedVariables false
set_option linter.unusedSimpArgs false
variable {w0 w : World} {F : Nat → Prop} {l : List As}
theorem ltr_inj {a b : Fl} (h : ltr a = ltr b) : a = b := by cases a <;> cases b <;> first | rfl | (exact absurd h (by decide))
theorem has_ok {fl : List Fl} (f : Fl) {n : Int} (hn : n = (ltr f).toNat) (hl : fl.length ≤ 1000) (E : Hs w0 F w l) : Ca PP Fn.r31_has #[sb (fl.map ltr), .int .u8 n] w fun r w' => r = .bool (fl.contains f) ∧ Hs w0 F w' l := by
  subst hn
  refine S.r31_has.calls ?_
  unfold S.r31_has
  refine ⟨fun l1 w1 => ∃ i : Nat, l1 = [i64 i] ∧ i ≤ fl.length ∧ f ∉ fl.take i ∧ Hs w0 F w1 l, fun l1 _ => match l1 with | [.int _ i] => fl.length - i.toNat | _ => 0, ⟨0, rfl, Nat.zero_le _, by simp, E⟩, ?_⟩
  clear E
  rintro t u1 w1 ⟨i, e, hi, hf, E⟩
  cases e
  (repeat with_reducible refine Stp.go ?_)
  rw [mkB_size, List.length_map]
  refine Bi.lss ?_ ?_ <;> intro hlt <;> (repeat with_reducible refine Stp.go ?_)
  · have g1 : i < fl.length := by omega
    refine IxS.mk (b := ltr fl[i]) (by omega) (by rw [Int.toNat_natCast]; show (fl.map ltr).toArray[i]? = _; rw [List.getElem?_toArray, List.getElem?_map, List.getElem?_eq_getElem g1]; rfl) ?_
    refine Bi.eql ?_ ?_ <;> intro c <;> (repeat with_reducible refine Stp.go ?_)
    · have h2 : fl[i] = f := ltr_inj (UInt8.toNat_inj.1 (by omega))
      refine ⟨?_, E⟩
      rw [List.contains_iff_mem.2 (h2 ▸ List.getElem_mem g1)]
    · refine Bi.add (by omega) ?_
      refine ⟨⟨i + 1, rfl, by omega, ?_, E⟩, by simp only []; omega⟩
      rw [List.take_add_one, List.getElem?_eq_getElem g1, List.mem_append]
      rintro (h | h)
      · exact hf h
      · have : f = fl[i] := by simpa using h
        exact c (by rw [this])
  · refine ⟨?_, E⟩
    rw [List.take_of_length_le (by omega)] at hf
    have : fl.contains f = false := by
      cases h : fl.contains f with
      | false => rfl
      | true => exact absurd (List.contains_iff_mem.1 h) hf
    rw [this]
theorem shl1 {k : Nat} (hk : k = 1 ∨ k = 2 ∨ k = 4) {c : Value → Prop} (h : c (i64 (256 ^ k : Nat))) : Bi .shl (i64 1) (i64 (8 * k)) c := by
  rcases hk with rfl | rfl | rfl
  · exact Bi.mk (v := i64 256) (by kernel_rfl) h
  · exact Bi.mk (v := i64 65536) (by kernel_rfl) h
  · exact Bi.mk (v := i64 4294967296) (by kernel_rfl) h
theorem rin_ok {n : Int} {k : Nat} (hk : k = 1 ∨ k = 2 ∨ k = 4) (E : Hs w0 F w l) : Ca PP Fn.r31_in #[i64 n, i64 k] w fun r w' => r = .bool (inR n k) ∧ Hs w0 F w' l := by
  refine S.r31_in.calls ?_
  unfold S.r31_in
  (intro J1 hJ1)
  refine Bi.geq ?_ ?_ <;> intro c
  rotate_left
  · (repeat with_reducible first | refine Stp.go ?_ | (apply hJ1; intro u_))
    refine ⟨?_, E⟩
    unfold inR
    rw [decide_eq_false (by omega)]
    rfl
  have key : ∀ m : Int, m = (256 ^ k : Nat) → (k1 : Value → Prop) → k1 (.bool (inR n k)) → Bi .lss (i64 n) (i64 m) k1 := by
    intro m hm k1 h
    unfold inR at h
    rw [decide_eq_true (by omega), Bool.true_and] at h
    refine Bi.lss (fun c2 => ?_) (fun c2 => ?_)
    · rw [decide_eq_true (by omega)] at h; exact h
    · rw [decide_eq_false (by omega)] at h; exact h
  (repeat with_reducible refine Stp.go ?_)
  refine Bi.mul (by omega) ?_
  (repeat with_reducible refine Stp.go ?_)
  refine shl1 hk ?_
  (repeat with_reducible refine Stp.go ?_)
  refine key _ rfl _ ?_
  (repeat with_reducible first | refine Stp.go ?_ | (apply hJ1; intro u_))
  exact ⟨rfl, E⟩
theorem rrightQid_ok {q : Qi} (E : Hs w0 F w l) : Ca PP Fn.r31_rightQid #[.agg (qcs q).toArray] w fun r w' => r = .bool (rQ q) ∧ Hs w0 F w' l := by
  refine S.r31_rightQid.calls ?_
  unfold S.r31_rightQid
  generalize hb : rQ q = b
  unfold rQ at hb
  (repeat with_reducible (refine StpA.go E ?_; clear E; intro b_ w_ hb_ E))
  (intro J3 hJ3)
  (repeat with_reducible first | refine Stp.go ?_ | refine StpE.go E ?_)
  refine (rin_ok (k := 1) (.inl rfl) E).mono ?_
  clear E
  rintro r w_ ⟨rfl, E⟩
  cases h1 : inR q.kind 1 with
  | false =>
    rw [h1] at hb
    (repeat with_reducible first | refine Stp.go ?_ | (apply hJ3; intro u_))
    exact ⟨by rw [← hb]; rfl, E.tl⟩
  | true =>
  (repeat with_reducible first | refine Stp.go ?_ | refine StpE.go E ?_)
  refine (rin_ok (k := 4) (.inr (.inr rfl)) E).mono ?_
  clear E
  rintro r w_ ⟨rfl, E⟩
  cases h2 : inR q.vers 4 with
  | false =>
    rw [h1, h2] at hb
    (repeat with_reducible first | refine Stp.go ?_ | (apply hJ3; intro u_))
    exact ⟨by rw [← hb]; rfl, E.tl⟩
  | true =>
  rw [h1, h2] at hb
  (repeat with_reducible first | refine Stp.go ?_ | refine StpE.go E ?_)
  refine Bi.geq ?_ ?_ <;> intro c <;> (repeat with_reducible first | refine Stp.go ?_ | (apply hJ3; intro u_))
  · exact ⟨by rw [← hb, decide_eq_true (by omega)]; rfl, E.tl⟩
  · exact ⟨by rw [← hb, decide_eq_false (by omega)]; rfl, E.tl⟩
theorem rrightDir_ok {d : Di} (E : Hs w0 F w l) : Ca PP Fn.r31_rightDir #[.agg (dcs d).toArray] w fun r w' => r = .bool (rD d) ∧ Hs w0 F w' l := by
  refine S.r31_rightDir.calls ?_
  unfold S.r31_rightDir
  generalize hb : rD d = b
  unfold rD at hb
  (repeat with_reducible (refine StpA.go E ?_; clear E; intro b_ w_ hb_ E))
  (intro J3 hJ3)
  (repeat with_reducible first | refine Stp.go ?_ | refine StpE.go E ?_)
  refine (rrightQid_ok (q := d.q) E).mono ?_
  clear E
  rintro r w_ ⟨rfl, E⟩
  cases h1 : rQ d.q with
  | false =>
    rw [h1] at hb
    (repeat with_reducible first | refine Stp.go ?_ | (apply hJ3; intro u_))
    exact ⟨by rw [← hb]; rfl, E.tl⟩
  | true =>
  rw [h1] at hb
  (repeat with_reducible first | refine Stp.go ?_ | refine StpE.go E ?_)
  refine Bi.geq ?_ ?_ <;> intro c1 <;> (repeat with_reducible first | refine Stp.go ?_ | refine StpE.go E ?_ | (apply hJ3; intro u_))
  rotate_left
  · exact ⟨by rw [← hb, decide_eq_false (by omega : ¬ -1 ≤ d.mode)]; rfl, E.tl⟩
  rw [decide_eq_true (by omega : -1 ≤ d.mode)] at hb
  refine Bi.lss ?_ ?_ <;> intro c2 <;> (repeat with_reducible first | refine Stp.go ?_ | refine StpE.go E ?_ | (apply hJ3; intro u_))
  rotate_left
  · exact ⟨by rw [← hb, decide_eq_false (by omega : ¬ d.mode < 4294967295)]; rfl, E.tl⟩
  rw [decide_eq_true (by omega : d.mode < 4294967295)] at hb
  refine Bi.geq ?_ ?_ <;> intro c3 <;> (repeat with_reducible first | refine Stp.go ?_ | refine StpE.go E ?_ | (apply hJ3; intro u_))
  rotate_left
  · exact ⟨by rw [← hb, decide_eq_false (by omega : ¬ -1 ≤ d.time)]; rfl, E.tl⟩
  rw [decide_eq_true (by omega : -1 ≤ d.time)] at hb
  refine Bi.geq ?_ ?_ <;> intro c4 <;> (repeat with_reducible first | refine Stp.go ?_ | (apply hJ3; intro u_))
  rotate_left
  · exact ⟨by rw [← hb, decide_eq_false (by omega : ¬ -1 ≤ d.len)]; rfl, E.tl⟩
  exact ⟨by rw [← hb, decide_eq_true (by omega : -1 ≤ d.len)]; rfl, E.tl⟩
theorem rdirBytes_ok {d : Di} (hd : DB d) (E : Hs w0 F w l) : Ca PP Fn.r31_dirBytes #[.agg (dcs d).toArray] w fun r w' => r = i64 (dB d : Nat) ∧ Hs w0 F w' l := by
  obtain ⟨d1, d2, d3, d4⟩ := hd
  refine S.r31_dirBytes.calls ?_
  unfold S.r31_dirBytes
  (repeat with_reducible first | refine Stp.go ?_ | refine StpE.go E ?_ | (refine StpA.go E ?_; clear E; intro b_ w_ hb_ E))
  refine Bi.add (by simp only [mkB_size]; omega) ?_
  (repeat with_reducible first | refine Stp.go ?_ | refine StpE.go E ?_)
  refine Bi.add (by simp only [mkB_size]; omega) ?_
  (repeat with_reducible first | refine Stp.go ?_ | refine StpE.go E ?_)
  refine Bi.add (by simp only [mkB_size]; omega) ?_
  (repeat with_reducible first | refine Stp.go ?_ | refine StpE.go E ?_)
  refine Bi.add (by simp only [mkB_size]; omega) ?_
  skip
  refine ⟨?_, E.tl⟩
  unfold dB
  simp only [mkB_size]
  congr 1
end Go.Proofs.YtmlccboapkkcfaaDoor

/-
  The protocol, plain: what the reference's reader computes is what is read.
-/
namespace Go.Proofs.YtmlccboapkkcfaaDoor
open Go Go.Sh
set_option maxRecDepth 100000
set_option linter.unusedVariables false
set_option linter.unusedSimpArgs false
/-- The reference's reader: a text, a place in it, whether something was not there. -/
structure RR where
  s : List UInt8
  at_ : Nat
  sh : Bool
def RR.rest (R : RR) : List UInt8 := R.s.drop R.at_
def RR.Ok (R : RR) : Prop := R.at_ ≤ R.s.length
def RR.tk (R : RR) (n : Nat) : List UInt8 × RR := if R.sh = true ∨ n > R.s.length - R.at_ then ([], { R with sh := true }) else (R.rest.take n, { R with at_ := R.at_ + n })
def RR.num (R : RR) (k : Nat) : Nat × RR := (un (R.tk k).1, (R.tk k).2)
def RR.long (R : RR) : Int × RR := (sg (un (R.tk 8).1), (R.tk 8).2)
def RR.wrd (R : RR) : List UInt8 × RR := (R.num 2).2.tk (R.num 2).1
def RR.qid (R : RR) : Qi × RR :=
  let a := R.num 1; let b := a.2.num 4; let c := b.2.long; (⟨a.1, b.1, c.1⟩, c.2)
def RR.body0 (R : RR) : Di × RR :=
  let q := R.qid; let m := q.2.num 4; let t := m.2.long; let n := t.2.long; let a := n.2.wrd; let b := a.2.wrd; let c := b.2.wrd; let d := c.2.wrd
  (⟨q.1, m.1, t.1, n.1, a.1, b.1, c.1, d.1⟩, d.2)
def mdD (d : Di) : Di := { d with mode := mdI d.mode }
def RR.body (R : RR) : Di × RR := (mdD R.body0.1, R.body0.2)
def RR.part (R : RR) : List UInt8 × RR := (R.num 2).2.tk (R.num 2).1
def rr0 (s : List UInt8) : RR := ⟨s, 0, false⟩
def RR.dir (R : RR) : Di × RR :=
  let p := R.part; let d := (rr0 p.1).body0
  (mdD d.1, { p.2 with sh := p.2.sh || d.2.sh || d.2.at_ != p.1.length })
def RR.loop {α : Type} (f : RR → α × RR) : Nat → RR → List α × RR
  | 0, R => ([], R)
  | n + 1, R => if R.sh then ([], R) else let x := f R; let y := RR.loop f n x.2; (x.1 :: y.1, y.2)
def RR.fld (m : Ms) (R : RR) : Fl → Ms × RR
  | .xS => let x := R.num 4; ({ m with size := x.1 }, x.2)
  | .xv => let x := R.wrd; ({ m with ver := x.1 }, x.2)
  | .xf => let x := R.num 4; ({ m with fid := x.1 }, x.2)
  | .xu => let x := R.wrd; ({ m with user := x.1 }, x.2)
  | .xt => let x := R.wrd; ({ m with tree := x.1 }, x.2)
  | .xq => let x := R.qid; ({ m with qids := [x.1] }, x.2)
  | .xo => let x := R.num 4; ({ m with other := x.1 }, x.2)
  | .xc => let x := R.num 2; ({ m with code := x.1 }, x.2)
  | .xd => let x := R.num 2; ({ m with old := x.1 }, x.2)
  | .xn => let c := R.num 2; let x := RR.loop RR.wrd c.1 c.2; ({ m with names := x.1 }, x.2)
  | .xQ => let c := R.num 2; let x := RR.loop RR.qid c.1 c.2; ({ m with qids := x.1 }, x.2)
  | .xm => let x := R.num 1; ({ m with mode := x.1 }, x.2)
  | .xN => let x := R.wrd; ({ m with name := x.1 }, x.2)
  | .xp => let x := R.num 4; ({ m with perm := x.1 }, x.2)
  | .xO => let x := R.long; ({ m with off := x.1 }, x.2)
  | .xD => let c := R.num 4; let x := c.2.tk c.1; ({ m with data := x.1 }, x.2)
  | .xi => let x := R.dir; ({ m with dir := x.1 }, x.2)
def RR.flds : List Fl → Ms → RR → Ms × RR
  | [], m, R => (m, R)
  | f :: l, m, R => let x := RR.fld m R f; RR.flds l x.1 x.2
/-- An operation o of a reader against what is to be read: p. -/
structure RH {α : Type} (R : RR) (o : α × RR) (p : Option (α × List UInt8)) : Prop where
  s : o.2.s = R.s
  ok : o.2.Ok
  sh : R.sh = true → o.2.sh = true
  yes : R.sh = false → ∀ x, p = some x → o.1 = x.1 ∧ o.2.sh = false ∧ o.2.rest = x.2
  no : R.sh = false → p = none → o.2.sh = true
theorem tk_rh (R : RR) (h : R.Ok) (n : Nat) : RH R (R.tk n) (rdN n R.rest) := by
  unfold RR.Ok at h
  have hl : R.rest.length = R.s.length - R.at_ := by unfold RR.rest; rw [List.length_drop]
  unfold RR.tk
  split
  · rename_i c
    refine ⟨rfl, h, fun _ => rfl, fun hs x hx => ?_, fun _ _ => rfl⟩
    unfold rdN at hx
    rw [if_neg (by rcases c with c | c; rw [hs] at c; cases c; omega)] at hx
    cases hx
  · rename_i c
    rw [not_or] at c
    refine ⟨rfl, by show R.at_ + n ≤ R.s.length; omega, fun hs => absurd hs c.1, fun hs x hx => ?_, fun hs hx => ?_⟩
    · unfold rdN at hx
      rw [if_pos (by omega)] at hx
      cases hx
      refine ⟨rfl, hs, ?_⟩
      show R.s.drop (R.at_ + n) = (R.s.drop R.at_).drop n
      rw [List.drop_drop]
    · unfold rdN at hx
      rw [if_pos (by omega)] at hx
      cases hx
theorem num_rh (R : RR) (h : R.Ok) (k : Nat) : RH R (R.num k) (rd k R.rest) := by
  have ht := tk_rh R h k
  refine ⟨ht.s, ht.ok, ht.sh, fun hs x hx => ?_, fun hs hx => ?_⟩
  · unfold rd at hx
    split at hx
    · rename_i hk
      cases hx
      obtain ⟨e1, e2, e3⟩ := ht.yes hs (R.rest.take k, R.rest.drop k) (by unfold rdN; rw [if_pos hk])
      exact ⟨congrArg un e1, e2, e3⟩
    · cases hx
  · unfold rd at hx
    split at hx
    · cases hx
    · rename_i hk
      exact ht.no hs (by unfold rdN; rw [if_neg hk])
theorem RH.seq {α β : Type} {R : RR} {o : α × RR} {p : Option (α × List UInt8)} (h : RH R o p) {o2 : β × RR} {q : α × List UInt8 → Option (β × List UInt8)} (k : RH o.2 o2 (q (o.1, o.2.rest))) : RH R o2 (p.bind q) := by
  refine ⟨k.s.trans h.s, k.ok, fun hs => k.sh (h.sh hs), fun hs y hy => ?_, fun hs hn => ?_⟩
  · obtain ⟨x, hx, hy⟩ := Option.bind_eq_some_iff.1 hy
    obtain ⟨e1, e2, e3⟩ := h.yes hs x hx
    exact k.yes e2 y (by rw [e1, e3]; exact hy)
  · cases hp : p with
    | none => exact k.sh (h.no hs hp)
    | some x =>
      obtain ⟨e1, e2, e3⟩ := h.yes hs x hp
      rw [hp, Option.bind_some] at hn
      exact k.no e2 (by rw [e1, e3]; exact hn)
theorem RH.map {α β : Type} {R : RR} {o : α × RR} {p : Option (α × List UInt8)} (h : RH R o p) (g : α → β) : RH R (g o.1, o.2) (p.bind fun x => some (g x.1, x.2)) := by
  refine ⟨h.s, h.ok, h.sh, fun hs y hy => ?_, fun hs hn => ?_⟩
  · obtain ⟨x, hx, hy⟩ := Option.bind_eq_some_iff.1 hy
    cases hy
    obtain ⟨e1, e2, e3⟩ := h.yes hs x hx
    exact ⟨by rw [e1], e2, e3⟩
  · cases hp : p with
    | none => exact h.no hs hp
    | some x => rw [hp] at hn; cases hn
theorem RH.refl {α : Type} (R : RR) (h : R.Ok) (x : α) : RH R (x, R) (some (x, R.rest)) := ⟨rfl, h, id, fun hs y hy => by cases hy; exact ⟨rfl, hs, rfl⟩, fun _ hn => by cases hn⟩
theorem long_rh (R : RR) (h : R.Ok) : RH R R.long (rd8 R.rest) := (num_rh R h 8).map (fun n : Nat => sg n)
theorem wrd_rh (R : RR) (h : R.Ok) : RH R R.wrd (rdW R.rest) := (num_rh R h 2).seq (tk_rh _ (num_rh R h 2).ok _)
theorem qid_rh (R : RR) (h : R.Ok) : RH R R.qid (rdQ R.rest) :=
  (num_rh R h 1).seq ((num_rh _ (num_rh R h 1).ok 4).seq ((long_rh _ (num_rh _ (num_rh R h 1).ok 4).ok).map (fun c : Int => (⟨_, _, c⟩ : Qi))))
theorem body_rh (R : RR) (h : R.Ok) : RH R R.body (rdB R.rest) := by
  unfold rdB
  have h1 := qid_rh R h
  refine h1.seq ?_
  have h2 := num_rh _ h1.ok 4
  refine (h2.map (fun n : Nat => mdI n)).seq ?_
  have h3 := long_rh _ h2.ok
  refine h3.seq ?_
  have h4 := long_rh _ h3.ok
  refine h4.seq ?_
  have h5 := wrd_rh _ h4.ok
  refine h5.seq ?_
  have h6 := wrd_rh _ h5.ok
  refine h6.seq ?_
  have h7 := wrd_rh _ h6.ok
  refine h7.seq ?_
  have h8 := wrd_rh _ h7.ok
  exact h8.map (fun c => (⟨_, _, _, _, _, _, _, c⟩ : Di))
theorem rr0_ok (s : List UInt8) : (rr0 s).Ok := Nat.zero_le _
theorem rest_nil {R : RR} (h : R.Ok) : R.rest = [] ↔ R.at_ = R.s.length := by
  unfold RR.Ok at h
  unfold RR.rest
  rw [List.drop_eq_nil_iff]
  omega
theorem dir_rh (R : RR) (h : R.Ok) : RH R R.dir (rdD R.rest) := by
  have h1 : RH R R.part (rdW R.rest) := wrd_rh R h
  have hb := body_rh (rr0 R.part.1) (rr0_ok _)
  have er : (rr0 R.part.1).rest = R.part.1 := rfl
  rw [er] at hb
  have hs0 : (rr0 R.part.1).body0.2.s = R.part.1 := hb.s
  refine ⟨h1.s, h1.ok, fun hs => ?_, fun hs x hx => ?_, fun hs hn => ?_⟩
  · show (R.part.2.sh || _ || _) = true
    rw [h1.sh hs]; rfl
  · unfold rdD at hx
    obtain ⟨p, hp, hx⟩ := Option.bind_eq_some_iff.1 hx
    obtain ⟨d, hd, hx⟩ := Option.bind_eq_some_iff.1 hx
    split at hx
    · rename_i hnil
      cases hx
      obtain ⟨e1, e2, e3⟩ := h1.yes hs p hp
      rw [← e1] at hd
      obtain ⟨f1, f2, f3⟩ := hb.yes rfl d hd
      rw [hnil, rest_nil hb.ok] at f3
      refine ⟨f1, ?_, e3⟩
      show (R.part.2.sh || (rr0 R.part.1).body0.2.sh || (rr0 R.part.1).body0.2.at_ != R.part.1.length) = false
      have f3 : (rr0 R.part.1).body0.2.at_ = (rr0 R.part.1).body0.2.s.length := f3
      rw [hs0] at f3
      rw [e2, f3, show (rr0 R.part.1).body0.2.sh = false from f2]
      simp
    · cases hx
  · show (R.part.2.sh || (rr0 R.part.1).body0.2.sh || (rr0 R.part.1).body0.2.at_ != R.part.1.length) = true
    unfold rdD at hn
    cases hp : rdW R.rest with
    | none => rw [h1.no hs hp]; rfl
    | some p =>
      obtain ⟨e1, e2, e3⟩ := h1.yes hs p hp
      rw [hp, Option.bind_some, ← e1] at hn
      cases hd : rdB R.part.1 with
      | none =>
        have : (rr0 R.part.1).body0.2.sh = true := hb.no rfl hd
        rw [this]; simp
      | some d =>
        rw [hd, Option.bind_some] at hn
        split at hn
        · cases hn
        · rename_i hnil
          obtain ⟨f1, f2, f3⟩ := hb.yes rfl d hd
          have : ¬ (rr0 R.part.1).body0.2.at_ = R.part.1.length := by
            intro e
            have e : (rr0 R.part.1).body0.2.at_ = (rr0 R.part.1).body0.2.s.length := e.trans (congrArg List.length hs0).symm
            exact hnil (f3.symm.trans ((rest_nil hb.ok).2 (show (rr0 R.part.1).body0.2.at_ = (rr0 R.part.1).body0.2.s.length from e)))
          have : ((rr0 R.part.1).body0.2.at_ != R.part.1.length) = true := by simpa using this
          rw [this]; simp
theorem loop_rh {α : Type} {f : RR → α × RR} {p : List UInt8 → Option (α × List UInt8)} (h : ∀ R : RR, R.Ok → RH R (f R) (p R.rest)) : ∀ (n : Nat) (R : RR), R.Ok → RH R (RR.loop f n R) (rdL p n R.rest)
  | 0, R, hR => RH.refl R hR []
  | n + 1, R, hR => by
    cases hs : R.sh with
    | true =>
      rw [RR.loop, if_pos hs]
      exact ⟨rfl, hR, fun h => h, fun h => absurd (hs.symm.trans h) (by decide), fun h => absurd (hs.symm.trans h) (by decide)⟩
    | false =>
      rw [RR.loop, if_neg (by rw [hs]; decide)]
      exact (h R hR).seq ((loop_rh h n _ (h R hR).ok).map fun l => _ :: l)
theorem fld_rh (m : Ms) (R : RR) (h : R.Ok) (g : Fl) : RH R (RR.fld m R g) (rdF m R.rest g) := by
  cases g <;> simp only [RR.fld, rdF]
  case xS => exact (num_rh R h 4).map fun n : Nat => { m with size := n }
  case xf => exact (num_rh R h 4).map fun n : Nat => { m with fid := n }
  case xo => exact (num_rh R h 4).map fun n : Nat => { m with other := n }
  case xp => exact (num_rh R h 4).map fun n : Nat => { m with perm := n }
  case xc => exact (num_rh R h 2).map fun n : Nat => { m with code := n }
  case xd => exact (num_rh R h 2).map fun n : Nat => { m with old := n }
  case xm => exact (num_rh R h 1).map fun n : Nat => { m with mode := n }
  case xv => exact (wrd_rh R h).map fun n => { m with ver := n }
  case xu => exact (wrd_rh R h).map fun n => { m with user := n }
  case xt => exact (wrd_rh R h).map fun n => { m with tree := n }
  case xN => exact (wrd_rh R h).map fun n => { m with name := n }
  case xq => exact (qid_rh R h).map fun n => { m with qids := [n] }
  case xO => exact (long_rh R h).map fun n => { m with off := n }
  case xi => exact (dir_rh R h).map fun n => { m with dir := n }
  case xD => exact (num_rh R h 4).seq ((tk_rh _ (num_rh R h 4).ok _).map fun n => { m with data := n })
  case xn => exact (num_rh R h 2).seq ((loop_rh (p := rdW) wrd_rh _ _ (num_rh R h 2).ok).map fun n => { m with names := n })
  case xQ => exact (num_rh R h 2).seq ((loop_rh (p := rdQ) qid_rh _ _ (num_rh R h 2).ok).map fun n => { m with qids := n })
theorem flds_rh : ∀ (l : List Fl) (m : Ms) (R : RR), R.Ok → RH R (RR.flds l m R) (rdFs l m R.rest)
  | [], m, R, h => RH.refl R h m
  | g :: l, m, R, h => (fld_rh m R h g).seq (flds_rh l _ _ (fld_rh m R h g).ok)
/-- The reference's Decode. -/
def decR (s : List UInt8) : Ms × Int :=
  if s.length < 7 then (m0, 16) else
  if un (s.take 4) > 8192 then (m0, 3) else
  if un (s.take 4) ≠ s.length then (m0, 14) else
  let m : Ms := { m0 with kind := un ((s.drop 4).take 1), tag := un ((s.drop 5).take 2) }
  match fls m.kind with
  | none => (m0, 13)
  | some l =>
    let x := RR.flds l m ⟨s, 7, false⟩
    if x.2.sh = true ∨ x.2.at_ ≠ s.length then (m0, 2) else if chk x.1 = 0 then (x.1, 0) else (m0, chk x.1)
theorem decR_dec (s : List UInt8) : decR s = dec s := by
  unfold decR dec
  split
  · rfl
  rename_i h7
  split
  · rfl
  split
  · rfl
  cases hl : fls ((un ((s.drop 4).take 1) : Nat) : Int) with
  | none => simp only [hl]
  | some l =>
    have hR : (⟨s, 7, false⟩ : RR).Ok := by show 7 ≤ s.length; omega
    have h := flds_rh l { m0 with kind := (un ((s.drop 4).take 1) : Nat), tag := (un ((s.drop 5).take 2) : Nat) } ⟨s, 7, false⟩ hR
    have er : (⟨s, 7, false⟩ : RR).rest = s.drop 7 := rfl
    rw [er] at h
    simp only [hl]
    generalize RR.flds l { m0 with kind := (un ((s.drop 4).take 1) : Nat), tag := (un ((s.drop 5).take 2) : Nat) } ⟨s, 7, false⟩ = x at h ⊢
    have hs : x.2.s = s := h.s
    cases hp : rdFs l { m0 with kind := (un ((s.drop 4).take 1) : Nat), tag := (un ((s.drop 5).take 2) : Nat) } (s.drop 7) with
    | none =>
      simp only []
      rw [if_pos (.inl (h.no rfl hp))]
    | some y =>
      obtain ⟨M, t⟩ := y
      obtain ⟨e1, e2, e3⟩ := h.yes rfl _ hp
      dsimp only at e1 e3
      cases t with
      | nil =>
        rw [rest_nil h.ok, hs] at e3
        simp only []
        rw [if_neg (by rintro (h1 | h1); rw [e2] at h1; cases h1; exact h1 e3), e1]
      | cons a t =>
        have hne : x.2.at_ ≠ s.length := by
          intro e
          rw [(rest_nil h.ok).2 (e.trans (congrArg List.length hs).symm)] at e3
          cases e3
        simp only []
        rw [if_pos (.inr hne)]
/-- The reference's DecodeDir. -/
def decRD (s : List UInt8) : Di × Nat × Int :=
  if s.length < 2 then (d0, 0, 16) else
  if 2 + un (s.take 2) > s.length then (d0, 0, 16) else
  if 2 + un (s.take 2) > 1024 then (d0, 0, 3) else
  let x := (rr0 (s.take (2 + un (s.take 2)))).dir
  if x.2.sh = true then (d0, 0, 2) else if rD x.1 then (x.1, 2 + un (s.take 2), 0) else (d0, 0, 11)
end Go.Proofs.YtmlccboapkkcfaaDoor

/-
  The protocol's reference: its reader.
-/
namespace Go.Proofs.YtmlccboapkkcfaaDoor
open Go Go.Sh
set_option maxRecDepth 100000
set_option linter.unusedVariables false
set_option linter.unusedSimpArgs false
variable {w0 w : World} {F : Nat → Prop} {l : List As}
abbrev rcs (R : RR) : List Value := [sb R.s, i64 R.at_, .bool R.sh]
/-- A reader of a text that is not too great. -/
structure RB (R : RR) : Prop where
  ok : R.Ok
  z : R.s.length ≤ 1000000000000
theorem RH.rb {α : Type} {R : RR} {o : α × RR} {p : Option (α × List UInt8)} (h : RH R o p) (B : RB R) : RB o.2 := ⟨h.ok, by rw [h.s]; exact B.z⟩
theorem tk_len (R : RR) (n : Nat) : (R.tk n).1.length ≤ n := by
  unfold RR.tk
  split
  · exact Nat.zero_le _
  · show (R.rest.take n).length ≤ n
    rw [List.length_take]; omega
theorem rnum_lt (R : RR) (k : Nat) : (R.num k).1 < 256 ^ k := by
  have h1 := un_lt (R.tk k).1
  exact Nat.lt_of_lt_of_le h1 (Nat.pow_le_pow_right (by omega) (tk_len R k))
theorem rtake_ok {R : RR} {n : Nat} (B : RB R) (hn : n ≤ 100000000000) (E : Hs w0 F w l) :
    Ca PP Fn.r31_take #[.agg (rcs R).toArray, i64 n] w fun q w' => q = .tuple #[sb (R.tk n).1, .agg (rcs (R.tk n).2).toArray] ∧ Hs w0 F w' l := by
  obtain ⟨s, a, sh⟩ := R
  have hok : a ≤ s.length := B.ok
  have hz : s.length ≤ 1000000000000 := B.z
  show Ca PP Fn.r31_take #[.agg [sb s, i64 a, .bool sh].toArray, i64 n] w _
  refine S.r31_take.calls ?_
  unfold S.r31_take
  (repeat with_reducible (refine StpA.go E ?_; clear E; intro b_ w_ hb_ E))
  (intro J5 hJ5)
  have no : (sh = true ∨ n > s.length - a) → J5 [.bool true] w_ := by
    intro h
    (repeat with_reducible first | refine Stp.go ?_ | refine StpE.go E ?_ | (refine StpW.go E ?_; clear E; intro w_ E) | (apply hJ5; intro u_))
    refine ⟨?_, E.tl.tl⟩
    unfold RR.tk
    rw [if_pos h]
  have yes : ¬ (sh = true ∨ n > s.length - a) → J5 [.bool false] w_ := by
    intro h
    have h0 := h
    rw [not_or] at h
    apply hJ5
    intro u_
    clear hJ5
    (repeat with_reducible first | refine Stp.go ?_ | refine StpE.go E ?_)
    refine Bi.add (by omega) ?_
    refine SlS.mid (by omega) (by omega) (by rw [mkB_size]; omega) ?_
    rw [show ((a : Int)).toNat = a from Int.toNat_natCast _, show ((a : Int) + n).toNat = a + n by omega, mkB_ext, List.drop_take, Nat.add_sub_cancel_left]
    (repeat with_reducible first | refine Stp.go ?_ | refine StpE.go E ?_)
    refine Bi.add (by omega) ?_
    (repeat with_reducible first | refine Stp.go ?_ | refine StpE.go E ?_ | (refine StpW.go E ?_; clear E; intro w_ E))
    refine ⟨?_, E.tl.tl⟩
    unfold RR.tk
    rw [if_neg h0]
    rfl
  clear hJ5
  cases sh with
  | true =>
    (repeat with_reducible first | refine Stp.go ?_ | refine StpE.go E ?_)
    exact no (.inl rfl)
  | false =>
    (repeat with_reducible first | refine Stp.go ?_ | refine StpE.go E ?_)
    refine Bi.sub (by rw [mkB_size]; omega) ?_
    (repeat with_reducible refine Stp.go ?_)
    rw [mkB_size]
    refine Bi.gtr ?_ ?_ <;> intro c <;> (repeat with_reducible refine Stp.go ?_)
    · exact no (.inr (by omega))
    · exact yes (by rintro (h | h); cases h; omega)
theorem rreadNumber_ok {R : RR} (k : Nat) (hk : k ≤ 4) (B : RB R) (E : Hs w0 F w l) :
    Ca PP Fn.r31_readNumber #[.agg (rcs R).toArray, i64 k] w fun q w' => q = .tuple #[i64 ((R.num k).1 : Nat), .agg (rcs (R.num k).2).toArray] ∧ Hs w0 F w' l := by
  refine S.r31_readNumber.calls ?_
  unfold S.r31_readNumber
  have hl := tk_len R k
  have hlt := rnum_lt R k
  have h4 : (256 : Nat) ^ k ≤ 256 ^ 4 := Nat.pow_le_pow_right (by omega) hk
  have h5 : (256 : Nat) ^ 4 = 4294967296 := by decide
  (repeat with_reducible first | refine StpE.go E ?_ | (refine StpA.go E ?_; clear E; intro b_ w_ hb_ E))
  refine (rtake_ok B (by omega) E).mono ?_
  clear E
  rintro q w_ ⟨rfl, E⟩
  (repeat with_reducible first | refine Stp.go ?_ | refine StpE.go E ?_ | (refine StpW.go E ?_; clear E; intro w_ E) | (refine StpA.go E ?_; clear E; intro b_ w_ hb_ E))
  refine (rvalue_ok (by omega) E).mono ?_
  clear E
  rintro q w_ ⟨rfl, E⟩
  (repeat (with_reducible refine And.intro ?_ ?_; focus ((repeat with_reducible refine StpE.go E ?_); exact rfl)))
  refine Cv.i64 (by show _ ≤ ((R.num k).1 : Int) ∧ ((R.num k).1 : Int) ≤ _; omega) ?_
  (repeat with_reducible first | refine StpE.go E ?_ | (refine StpW.go E ?_; clear E; intro w_ E))
  exact ⟨rfl, E.tl.tl.tl⟩
theorem rreadLong_ok {R : RR} (B : RB R) (E : Hs w0 F w l) :
    Ca PP Fn.r31_readLong #[.agg (rcs R).toArray] w fun q w' => q = .tuple #[i64 R.long.1, .agg (rcs R.long.2).toArray] ∧ Hs w0 F w' l := by
  refine S.r31_readLong.calls ?_
  unfold S.r31_readLong
  have hl := tk_len R 8
  have hlt := rnum_lt R 8
  have h5 : (256 : Nat) ^ 8 = 18446744073709551616 := by decide
  (repeat with_reducible first | refine StpE.go E ?_ | (refine StpA.go E ?_; clear E; intro b_ w_ hb_ E))
  refine (rtake_ok (n := 8) B (by omega) E).mono ?_
  clear E
  rintro q w_ ⟨rfl, E⟩
  (repeat with_reducible first | refine Stp.go ?_ | refine StpE.go E ?_ | (refine StpW.go E ?_; clear E; intro w_ E) | (refine StpA.go E ?_; clear E; intro b_ w_ hb_ E))
  refine (rvalue_ok (by omega) E).mono ?_
  clear E
  rintro q w_ ⟨rfl, E⟩
  (repeat (with_reducible refine And.intro ?_ ?_; focus ((repeat with_reducible refine StpE.go E ?_); exact rfl)))
  refine Cv.mk ?_
  rw [i64_sg (show un (R.tk 8).1 < _ from by have : (R.num 8).1 = un (R.tk 8).1 := rfl; omega)]
  (repeat with_reducible first | refine StpE.go E ?_ | (refine StpW.go E ?_; clear E; intro w_ E))
  exact ⟨rfl, E.tl.tl.tl⟩
theorem rreadWord_ok {R : RR} (B : RB R) (E : Hs w0 F w l) :
    Ca PP Fn.r31_readWord #[.agg (rcs R).toArray] w fun q w' => q = .tuple #[sb R.wrd.1, .agg (rcs R.wrd.2).toArray] ∧ Hs w0 F w' l := by
  refine S.r31_readWord.calls ?_
  unfold S.r31_readWord
  have hlt : (R.num 2).1 < 65536 := rnum_lt R 2
  (repeat with_reducible first | refine StpE.go E ?_ | (refine StpA.go E ?_; clear E; intro b_ w_ hb_ E))
  refine (rreadNumber_ok 2 (by omega) B E).mono ?_
  clear E
  rintro q w_ ⟨rfl, E⟩
  (repeat with_reducible first | refine Stp.go ?_ | refine StpE.go E ?_ | (refine StpW.go E ?_; clear E; intro w_ E) | (refine StpA.go E ?_; clear E; intro b_ w_ hb_ E))
  refine (rtake_ok ((num_rh R B.ok 2).rb B) (by omega) E).mono ?_
  clear E
  rintro q w_ ⟨rfl, E⟩
  (repeat with_reducible first | refine Stp.go ?_ | refine StpE.go E ?_ | (refine StpW.go E ?_; clear E; intro w_ E))
  exact ⟨rfl, E.tl.tl.tl⟩
theorem rreadQid_ok {R : RR} (B : RB R) (E : Hs w0 F w l) :
    Ca PP Fn.r31_readQid #[.agg (rcs R).toArray] w fun q w' => q = .tuple #[.agg (qcs R.qid.1).toArray, .agg (rcs R.qid.2).toArray] ∧ Hs w0 F w' l := by
  refine S.r31_readQid.calls ?_
  unfold S.r31_readQid
  have h1 := num_rh R B.ok 1
  have B1 := h1.rb B
  have h2 := num_rh _ B1.ok 4
  have B2 := h2.rb B1
  (repeat with_reducible first | refine StpE.go E ?_ | (refine StpW.go E ?_; clear E; intro w_ E) | (refine StpA.go E ?_; clear E; intro b_ w_ hb_ E))
  refine (rreadNumber_ok 1 (by omega) B E).mono ?_
  clear E
  rintro q w_ ⟨rfl, E⟩
  (repeat with_reducible first | refine Stp.go ?_ | refine StpE.go E ?_ | (refine StpW.go E ?_; clear E; intro w_ E))
  refine (rreadNumber_ok 4 (by omega) B1 E).mono ?_
  clear E
  rintro q w_ ⟨rfl, E⟩
  (repeat with_reducible first | refine Stp.go ?_ | refine StpE.go E ?_ | (refine StpW.go E ?_; clear E; intro w_ E))
  refine (rreadLong_ok B2 E).mono ?_
  clear E
  rintro q w_ ⟨rfl, E⟩
  (repeat with_reducible first | refine Stp.go ?_ | refine StpE.go E ?_ | (refine StpW.go E ?_; clear E; intro w_ E))
  (repeat (with_reducible refine And.intro ?_ ?_; focus ((repeat with_reducible refine StpE.go E ?_); exact rfl)))
  (repeat with_reducible first | refine StpE.go E ?_ | (refine StpW.go E ?_; clear E; intro w_ E))
  exact ⟨rfl, E.tl.tl.tl.tl⟩
theorem rreadDir_ok {R : RR} (B : RB R) (E : Hs w0 F w l) :
    Ca PP Fn.r31_readDir #[.agg (rcs R).toArray] w fun q w' => q = .tuple #[.agg (dcs R.dir.1).toArray, .agg (rcs R.dir.2).toArray] ∧ Hs w0 F w' l := by
  refine S.r31_readDir.calls ?_
  unfold S.r31_readDir
  have hlt : (R.num 2).1 < 65536 := rnum_lt R 2
  have h1 := num_rh R B.ok 2
  have B1 := h1.rb B
  have h2 : RH R R.part _ := wrd_rh R B.ok
  have hpl : R.part.1.length ≤ 65536 := by have := tk_len (R.num 2).2 (R.num 2).1; show ((R.num 2).2.tk (R.num 2).1).1.length ≤ _; omega
  have hdir : R.dir = (mdD (rr0 R.part.1).body0.1, { R.part.2 with sh := R.part.2.sh || (rr0 R.part.1).body0.2.sh || (rr0 R.part.1).body0.2.at_ != R.part.1.length }) := rfl
  have I0 : RB (rr0 R.part.1) := ⟨rr0_ok _, by show R.part.1.length ≤ _; omega⟩
  rw [hdir]
  (repeat with_reducible first | refine StpE.go E ?_ | (refine StpA.go E ?_; clear E; intro b_ w_ hb_ E))
  refine (rreadNumber_ok 2 (by omega) B E).mono ?_
  clear E
  rintro q w_ ⟨rfl, E⟩
  (repeat with_reducible first | refine Stp.go ?_ | refine StpE.go E ?_ | (refine StpW.go E ?_; clear E; intro w_ E))
  refine (rtake_ok B1 (by omega) E).mono ?_
  clear E
  rintro q w_ ⟨rfl, E⟩
  rw [show (R.num 2).2.tk (R.num 2).1 = R.part from rfl] at *
  generalize R.part = p at hpl I0 ⊢
  obtain ⟨ps, R'⟩ := p
  dsimp only at hpl I0 ⊢
  have g1 := qid_rh _ I0.ok
  have I1 := g1.rb I0
  have g2 := num_rh _ I1.ok 4
  have I2 := g2.rb I1
  have g3 := long_rh _ I2.ok
  have I3 := g3.rb I2
  have g4 := long_rh _ I3.ok
  have I4 := g4.rb I3
  have g5 := wrd_rh _ I4.ok
  have I5 := g5.rb I4
  have g6 := wrd_rh _ I5.ok
  have I6 := g6.rb I5
  have g7 := wrd_rh _ I6.ok
  have I7 := g7.rb I6
  (repeat with_reducible first | refine Stp.go ?_ | refine StpE.go E ?_ | (refine StpW.go E ?_; clear E; intro w_ E) | (refine StpA.go E ?_; clear E; intro b_ w_ hb_ E))
  refine (rreadQid_ok (R := rr0 ps) I0 E).mono ?_
  clear E
  rintro q w_ ⟨rfl, E⟩
  (repeat with_reducible first | refine Stp.go ?_ | refine StpE.go E ?_ | (refine StpW.go E ?_; clear E; intro w_ E))
  refine (rreadNumber_ok 4 (by omega) I1 E).mono ?_
  clear E
  rintro q w_ ⟨rfl, E⟩
  (repeat with_reducible first | refine Stp.go ?_ | refine StpE.go E ?_ | (refine StpW.go E ?_; clear E; intro w_ E))
  refine (rreadLong_ok I2 E).mono ?_
  clear E
  rintro q w_ ⟨rfl, E⟩
  (repeat with_reducible first | refine Stp.go ?_ | refine StpE.go E ?_ | (refine StpW.go E ?_; clear E; intro w_ E))
  refine (rreadLong_ok I3 E).mono ?_
  clear E
  rintro q w_ ⟨rfl, E⟩
  (repeat with_reducible first | refine Stp.go ?_ | refine StpE.go E ?_ | (refine StpW.go E ?_; clear E; intro w_ E))
  refine (rreadWord_ok I4 E).mono ?_
  clear E
  rintro q w_ ⟨rfl, E⟩
  (repeat with_reducible first | refine Stp.go ?_ | refine StpE.go E ?_ | (refine StpW.go E ?_; clear E; intro w_ E))
  refine (rreadWord_ok I5 E).mono ?_
  clear E
  rintro q w_ ⟨rfl, E⟩
  (repeat with_reducible first | refine Stp.go ?_ | refine StpE.go E ?_ | (refine StpW.go E ?_; clear E; intro w_ E))
  refine (rreadWord_ok I6 E).mono ?_
  clear E
  rintro q w_ ⟨rfl, E⟩
  (repeat with_reducible first | refine Stp.go ?_ | refine StpE.go E ?_ | (refine StpW.go E ?_; clear E; intro w_ E))
  refine (rreadWord_ok I7 E).mono ?_
  clear E
  rintro q w_ ⟨rfl, E⟩
  (repeat with_reducible first | refine Stp.go ?_ | (refine StpW.go E ?_; clear E; intro w_ E))
  replace E : Hs w0 F w_ (pt b_ (oc (dcs (rr0 ps).body0.1) Ty.api_Dir) :: pt _ (oc (rcs (rr0 ps).body0.2) Ty.r31_reader) :: _) := E
  clear g1 I1 g2 I2 g3 I3 g4 I4 g5 I5 g6 I6 g7 I7
  generalize (rr0 ps).body0 = X at E ⊢
  obtain ⟨⟨dq, dm, dt, dl, d1, d2, d3, d4⟩, Is, Ia, Ih⟩ := X
  obtain ⟨rs, ra, rh⟩ := R'
  dsimp only at E ⊢
  have hmd : ∀ b : Bool, b = (rh || Ih || Ia != ps.length) → ∀ m' : Int, m' = mdI dm → (Value.tuple #[.agg (dcs ⟨dq, m', dt, dl, d1, d2, d3, d4⟩).toArray, .agg [sb rs, i64 ra, .bool b].toArray] : Value) =
      .tuple #[.agg (dcs (mdD ⟨dq, dm, dt, dl, d1, d2, d3, d4⟩)).toArray, .agg [sb rs, i64 ra, .bool (rh || Ih || Ia != ps.length)].toArray] := by
    rintro _ rfl _ rfl; rfl
  (intro J91 hJ91)
  (intro J110 hJ110)
  (repeat with_reducible first | refine Stp.go ?_ | refine StpE.go E ?_)
  cases Ih with
  | true =>
    (repeat with_reducible first | refine Stp.go ?_ | (refine StpW.go E ?_; clear E; intro w_ E) | (apply hJ91; intro u_) | (apply hJ110; intro u_))
    (intro J94 hJ94)
    (repeat with_reducible first | refine Stp.go ?_ | refine StpE.go E ?_)
    refine Bi.eql ?_ ?_ <;> intro c <;> (repeat with_reducible first | refine Stp.go ?_ | refine StpE.go E ?_ | (refine StpW.go E ?_; clear E; intro w_ E) | (apply hJ94; intro u_)) <;> (repeat (with_reducible refine And.intro ?_ ?_; focus ((repeat with_reducible refine StpE.go E ?_); exact rfl))) <;> (repeat with_reducible first | refine StpE.go E ?_ | (refine StpW.go E ?_; clear E; intro w_ E))
    · exact ⟨hmd true (by simp) (-1) (by rw [show dm = 4294967295 from c]; rfl), E.tl.tl.tl.tl.tl⟩
    · exact ⟨hmd true (by simp) dm (by unfold mdI; rw [if_neg (show ¬ dm = 4294967295 from c)]), E.tl.tl.tl.tl.tl⟩
  | false =>
    (repeat with_reducible first | refine Stp.go ?_ | refine StpE.go E ?_)
    rw [mkB_size]
    refine Bi.neq ?_ ?_ <;> intro c2 <;> (repeat with_reducible first | refine Stp.go ?_ | (refine StpW.go E ?_; clear E; intro w_ E) | (apply hJ91; intro u_) | (apply hJ110; intro u_))
    · have c3 : (Ia != ps.length) = true := by simpa using (by have c2 : ((Ia : Nat) : Int) ≠ ps.length := c2; omega : ¬ Ia = ps.length)
      (intro J94 hJ94)
      (repeat with_reducible first | refine Stp.go ?_ | refine StpE.go E ?_)
      refine Bi.eql ?_ ?_ <;> intro c <;> (repeat with_reducible first | refine Stp.go ?_ | refine StpE.go E ?_ | (refine StpW.go E ?_; clear E; intro w_ E) | (apply hJ94; intro u_)) <;> (repeat (with_reducible refine And.intro ?_ ?_; focus ((repeat with_reducible refine StpE.go E ?_); exact rfl))) <;> (repeat with_reducible first | refine StpE.go E ?_ | (refine StpW.go E ?_; clear E; intro w_ E))
      · exact ⟨hmd true (by rw [c3]; simp) (-1) (by rw [show dm = 4294967295 from c]; rfl), E.tl.tl.tl.tl.tl⟩
      · exact ⟨hmd true (by rw [c3]; simp) dm (by unfold mdI; rw [if_neg (show ¬ dm = 4294967295 from c)]), E.tl.tl.tl.tl.tl⟩
    · have c3 : (Ia != ps.length) = false := by simpa using (by have c2 : ((Ia : Nat) : Int) = ps.length := c2; omega : Ia = ps.length)
      (intro J94 hJ94)
      (repeat with_reducible first | refine Stp.go ?_ | refine StpE.go E ?_)
      refine Bi.eql ?_ ?_ <;> intro c <;> (repeat with_reducible first | refine Stp.go ?_ | refine StpE.go E ?_ | (refine StpW.go E ?_; clear E; intro w_ E) | (apply hJ94; intro u_)) <;> (repeat (with_reducible refine And.intro ?_ ?_; focus ((repeat with_reducible refine StpE.go E ?_); exact rfl))) <;> (repeat with_reducible first | refine StpE.go E ?_ | (refine StpW.go E ?_; clear E; intro w_ E))
      · exact ⟨hmd rh (by rw [c3]; simp) (-1) (by rw [show dm = 4294967295 from c]; rfl), E.tl.tl.tl.tl.tl⟩
      · exact ⟨hmd rh (by rw [c3]; simp) dm (by unfold mdI; rw [if_neg (show ¬ dm = 4294967295 from c)]), E.tl.tl.tl.tl.tl⟩
end Go.Proofs.YtmlccboapkkcfaaDoor

/-
  The protocol's reference: whether a message has no fields that its kind does not have.
-/
namespace Go.Proofs.YtmlccboapkkcfaaDoor
open Go Go.Sh
set_option maxRecDepth 100000
set_option linter.unusedVariables false
set_option linter.unusedSimpArgs false
variable {w0 w : World} {F : Nat → Prop} {l : List As}
section
variable {fl : List Fl} {n : Int} {off b : Nat} {cs : List Value} {T : TypeId} {v z : Value} {nz : Bool} {K : Value → World → Prop}
/-- A field that a kind does not have is not zero: the first one of some. -/
theorem hz1 (f : Fl) (hn : n = (ltr f).toNat) (hl : fl.length ≤ 1000) (hc : ∀ k : Value → Prop, k (.bool nz) → Bi .neq v z k) (E : Hs w0 F w (pt b (oc cs T) :: l)) [hx : Nth cs off v]
    (hk : ∀ w', Hs w0 F w' (pt b (oc cs T) :: l) → K (.bool (!fl.contains f && nz)) w') :
    Ca PP Fn.r31_has #[sb (fl.map ltr), .int .u8 n] w fun t w1 => Un .not t fun t' => Gd t' true (fun k => Fa off (ptr b) fun p => k p w1) w1 fun p w2 => Gd t' true (fun k => Ld p w2 fun v => k v w2) w2 fun v w3 =>
      Gd t' true (fun k => Bi .neq v z fun b => k b w3) w3 fun r w4 => Pk t' r (.bool false) fun r => K r w4 := by
  refine (has_ok f hn hl E).mono ?_
  clear E
  rintro r w_ ⟨rfl, E⟩
  have := hk _ E
  cases hf : fl.contains f with
  | true =>
    rw [hf] at this
    (repeat with_reducible refine Stp.go ?_)
    exact this
  | false =>
    rw [hf] at this
    (repeat with_reducible first | refine Stp.go ?_ | refine StpE.go E ?_)
    refine hc _ ?_
    (repeat with_reducible refine Stp.go ?_)
    exact this
/-- .. a further one. -/
theorem hz2 (f : Fl) (hn : n = (ltr f).toNat) (hl : fl.length ≤ 1000) {p : Bool} (hc : ∀ k : Value → Prop, k (.bool nz) → Bi .neq v z k) (E : Hs w0 F w (pt b (oc cs T) :: l)) [hx : Nth cs off v]
    (hk : ∀ w', Hs w0 F w' (pt b (oc cs T) :: l) → K (.bool (p || (!fl.contains f && nz))) w') :
    Gd (.bool p) false (fun k => k (sb (fl.map ltr)) w) w fun a w1 => Gd (.bool p) false (fun k => Ca PP Fn.r31_has #[a, .int .u8 n] w1 fun t w2 => k t w2) w1 fun t w3 => Gd (.bool p) false (fun k => Un .not t fun r => k r w3) w3 fun t w4 =>
      Gd (.bool p) false (fun k => k t w4) w4 fun t' w5 => Gd t' true (fun k => Fa off (ptr b) fun p => k p w5) w5 fun q w6 => Gd t' true (fun k => Ld q w6 fun v => k v w6) w6 fun v w7 =>
      Gd t' true (fun k => Bi .neq v z fun b => k b w7) w7 fun r w8 => Gd (.bool p) false (fun k => Pk t' r (.bool false) fun r => k r w8) w8 fun r w9 => Pk (.bool p) (.bool true) r fun r => K r w9 := by
  cases p with
  | true =>
    have := hk _ E
    (repeat with_reducible refine Stp.go ?_)
    exact this
  | false =>
    (repeat with_reducible refine Stp.go ?_)
    refine (has_ok f hn hl E).mono ?_
    clear E
    rintro r w_ ⟨rfl, E⟩
    have := hk _ E
    cases hf : fl.contains f with
    | true =>
      rw [hf] at this
      (repeat with_reducible refine Stp.go ?_)
      exact this
    | false =>
      rw [hf] at this
      (repeat with_reducible first | refine Stp.go ?_ | refine StpE.go E ?_)
      refine hc _ ?_
      (repeat with_reducible refine Stp.go ?_)
      exact this
theorem neqN {n : Nat} {k : Value → Prop} (hk : k (.bool (n != 1))) : Bi .neq (i64 (n : Nat)) (i64 1) k := by
  refine Bi.neq (fun h => ?_) fun h => ?_
  · rwa [show (n != 1) = true by simpa using (by omega : n ≠ 1)] at hk
  · rwa [show (n != 1) = false by simpa using (by omega : n = 1)] at hk
theorem gtrN {n : Nat} {k : Value → Prop} (hk : k (.bool (n != 0))) : Bi .gtr (i64 (n : Nat)) (i64 0) k := by
  refine Bi.gtr (fun h => ?_) fun h => ?_
  · rwa [show (n != 0) = true by simpa using (by omega : n ≠ 0)] at hk
  · rwa [show (n != 0) = false by simpa using (by omega : n = 0)] at hk
theorem hz3 (f : Fl) (hn : n = (ltr f).toNat) (hl : fl.length ≤ 1000) {p : Bool} {sz m : Nat} {ys : List Value} (hr : RdS w0 F (pt b (oc cs T) :: l) sz m v ys) (E : Hs w0 F w (pt b (oc cs T) :: l)) [hx : Nth cs off v]
    (hk : ∀ w', Hs w0 F w' (pt b (oc cs T) :: l) → K (.bool (p || (!fl.contains f && m != 0))) w') :
    Gd (.bool p) false (fun k => k (sb (fl.map ltr)) w) w fun a w1 => Gd (.bool p) false (fun k => Ca PP Fn.r31_has #[a, .int .u8 n] w1 fun t w2 => k t w2) w1 fun t w3 => Gd (.bool p) false (fun k => Un .not t fun r => k r w3) w3 fun t w4 =>
      Gd (.bool p) false (fun k => k t w4) w4 fun t' w5 => Gd t' true (fun k => Fa off (ptr b) fun p => k p w5) w5 fun q w6 => Gd t' true (fun k => Ld q w6 fun v => k v w6) w6 fun v w7 =>
      Gd t' true (fun k => LnL v fun b => k b w7) w7 fun v w8 => Gd t' true (fun k => Bi .gtr v (i64 0) fun b => k b w8) w8 fun r w9 => Gd (.bool p) false (fun k => Pk t' r (.bool false) fun r => k r w9) w9 fun r w9 => Pk (.bool p) (.bool true) r fun r => K r w9 := by
  cases p with
  | true =>
    have := hk _ E
    (repeat with_reducible refine Stp.go ?_)
    exact this
  | false =>
    (repeat with_reducible refine Stp.go ?_)
    refine (has_ok f hn hl E).mono ?_
    clear E
    rintro r w_ ⟨rfl, E⟩
    have := hk _ E
    cases hf : fl.contains f with
    | true =>
      rw [hf] at this
      (repeat with_reducible refine Stp.go ?_)
      exact this
    | false =>
      rw [hf] at this
      (repeat with_reducible first | refine Stp.go ?_ | refine StpE.go E ?_)
      refine hr.len ?_
      (repeat with_reducible refine Stp.go ?_)
      refine gtrN ?_
      (repeat with_reducible refine Stp.go ?_)
      exact this
end
theorem neqI {x : Int} (k : Value → Prop) (hk : k (.bool (x != 0))) : Bi .neq (i64 x) (i64 0) k := by
  refine Bi.neq (fun h => ?_) fun h => ?_
  · rwa [show (x != 0) = true by simpa using h] at hk
  · rwa [show (x != 0) = false by simpa using h] at hk
theorem neqS {s : List UInt8} (k : Value → Prop) (hk : k (.bool (s != []))) : Bi .neq (sb s) (.string ⟨#[]⟩) k := by
  refine Bi.sneq (fun h => ?_) fun h => ?_
  · rwa [show (s != []) = true by simpa using fun e => h (by rw [e])] at hk
  · rwa [show (s != []) = false by simpa using mkB_inj h] at hk
def shp1 (m : Ms) (l : List Fl) : Bool := (l.contains .xq && m.qids.length != 1) || (!l.contains .xq && !l.contains .xQ && m.qids.length != 0) || (!l.contains .xn && m.names.length != 0)
def shp2 (m : Ms) (l : List Fl) : Bool := !l.contains .xf && m.fid != 0 || !l.contains .xo && m.other != 0 || !l.contains .xd && m.old != 0 || !l.contains .xS && m.size != 0
def shp3 (m : Ms) (l : List Fl) : Bool := !l.contains .xO && m.off != 0 || !l.contains .xm && m.mode != 0 || !l.contains .xp && m.perm != 0 || !l.contains .xc && m.code != 0
def shp4 (m : Ms) (l : List Fl) : Bool := !l.contains .xv && m.ver != [] || !l.contains .xu && m.user != [] || !l.contains .xt && m.tree != [] || !l.contains .xN && m.name != []
theorem shp_parts (m : Ms) (l : List Fl) : shp m l = (!shp1 m l && !shp2 m l && !shp3 m l && !shp4 m l && ((l.contains .xD || m.data == []) && (l.contains .xi || m.dir == d0))) := by
  simp only [shp, shp1, shp2, shp3, shp4, Bool.not_or, Bool.not_and, Bool.not_not, Bool.and_assoc, bne]
/-- A message whose texts are small. -/
structure MS (w0 : World) (F : Nat → Prop) (l : List As) (m : Ms) (nv qv : Value) : Prop where
  n1 : m.names.length ≤ 5000
  q1 : m.qids.length ≤ 1000
  zs : m.ver.length ≤ 1048576 ∧ m.user.length ≤ 1048576 ∧ m.tree.length ≤ 1048576 ∧ m.name.length ≤ 1048576 ∧ m.data.length ≤ 1048576
  nb : ∀ t ∈ m.names, t.length ≤ 1048576
  db : m.dir.name.length ≤ 1048576 ∧ m.dir.owner.length ≤ 1048576 ∧ m.dir.group.length ≤ 1048576 ∧ m.dir.last.length ≤ 1048576
  rn : RdS w0 F l 1 m.names.length nv (m.names.map sb)
  rq : RdS w0 F l 3 m.qids.length qv (qqs m.qids)
theorem MS.dB {m : Ms} {nv qv : Value} (M : MS w0 F l m nv qv) : DB m.dir := by
  obtain ⟨h1, h2, h3, h4⟩ := M.db
  exact ⟨by omega, by omega, by omega, by omega⟩
theorem MS.cons {m : Ms} {nv qv : Value} (M : MS w0 F l m nv qv) (A : As) : MS w0 F (A :: l) m nv qv := { M with rn := M.rn.cons A, rq := M.rq.cons A }
theorem rshaped_ok {m : Ms} {nv qv : Value} {fl : List Fl} (hl : fl.length ≤ 1000) (M : MS w0 F l m nv qv) (E : Hs w0 F w l) :
    Ca PP Fn.r31_shaped #[.agg (MC m nv qv).toArray, sb (fl.map ltr)] w fun r w' => r = .bool (shp m fl) ∧ Hs w0 F w' l := by
  have i1 : Scal nv := ⟨by obtain ⟨a, c, e, _⟩ := M.rn; rw [e]; rfl⟩
  have i2 : Scal qv := ⟨by obtain ⟨a, c, e, _⟩ := M.rq; rw [e]; rfl⟩
  have hM := M
  refine S.r31_shaped.calls ?_
  unfold S.r31_shaped
  generalize hb : shp m fl = r0
  rw [shp_parts] at hb
  (repeat with_reducible (refine StpA.go E ?_; clear E; intro b_ w_ hb_ E))
  (intro J3 hJ3)
  have fin3 : ∀ b w_, b = shp1 m fl → Hs w0 F w_ (pt b_ (oc (MC m nv qv) Ty.api_Msg) :: l) → J3 [.bool b] w_ := by
    intro b w_ h E
    apply hJ3
    intro u_
    clear hJ3
    cases b with
    | true =>
      rw [← h] at hb
      (repeat with_reducible refine Stp.go ?_)
      exact ⟨by rw [← hb]; rfl, E.tl⟩
    | false =>
    rw [← h] at hb
    (repeat with_reducible refine Stp.go ?_)
    (intro J7 hJ7)
    refine hz1 .xf rfl hl neqI E ?_
    clear E
    intro w_ E
    refine hz2 .xo rfl hl neqI E ?_
    clear E
    intro w_ E
    refine hz2 .xd rfl hl neqI E ?_
    clear E
    intro w_ E
    refine hz2 .xS rfl hl neqI E ?_
    clear E
    intro w_ E
    rw [show (!fl.contains Fl.xf && m.fid != 0 || !fl.contains Fl.xo && m.other != 0 || !fl.contains Fl.xd && m.old != 0 || !fl.contains Fl.xS && m.size != 0) = shp2 m fl from rfl]
    cases h2 : shp2 m fl with
    | true =>
      rw [h2] at hb
      (repeat with_reducible first | refine Stp.go ?_ | (apply hJ7; intro u_))
      exact ⟨by rw [← hb]; rfl, E.tl⟩
    | false =>
    rw [h2] at hb
    (repeat with_reducible first | refine Stp.go ?_ | (apply hJ7; intro u_))
    clear hJ7
    (intro J11 hJ11)
    refine hz1 .xO rfl hl neqI E ?_
    clear E
    intro w_ E
    refine hz2 .xm rfl hl neqI E ?_
    clear E
    intro w_ E
    refine hz2 .xp rfl hl neqI E ?_
    clear E
    intro w_ E
    refine hz2 .xc rfl hl neqI E ?_
    clear E
    intro w_ E
    rw [show (!fl.contains Fl.xO && m.off != 0 || !fl.contains Fl.xm && m.mode != 0 || !fl.contains Fl.xp && m.perm != 0 || !fl.contains Fl.xc && m.code != 0) = shp3 m fl from rfl]
    cases h3 : shp3 m fl with
    | true =>
      rw [h3] at hb
      (repeat with_reducible first | refine Stp.go ?_ | (apply hJ11; intro u_))
      exact ⟨by rw [← hb]; rfl, E.tl⟩
    | false =>
    rw [h3] at hb
    (repeat with_reducible first | refine Stp.go ?_ | (apply hJ11; intro u_))
    clear hJ11
    (intro J15 hJ15)
    refine hz1 .xv rfl hl neqS E ?_
    clear E
    intro w_ E
    refine hz2 .xu rfl hl neqS E ?_
    clear E
    intro w_ E
    refine hz2 .xt rfl hl neqS E ?_
    clear E
    intro w_ E
    refine hz2 .xN rfl hl neqS E ?_
    clear E
    intro w_ E
    rw [show (!fl.contains Fl.xv && m.ver != [] || !fl.contains Fl.xu && m.user != [] || !fl.contains Fl.xt && m.tree != [] || !fl.contains Fl.xN && m.name != []) = shp4 m fl from rfl]
    cases h4 : shp4 m fl with
    | true =>
      rw [h4] at hb
      (repeat with_reducible first | refine Stp.go ?_ | (apply hJ15; intro u_))
      exact ⟨by rw [← hb]; rfl, E.tl⟩
    | false =>
    rw [h4] at hb
    (repeat with_reducible first | refine Stp.go ?_ | (apply hJ15; intro u_))
    clear hJ15
    (intro J19 hJ19)
    have finD : ∀ b w_, b = (fl.contains .xD || m.data == []) → Hs w0 F w_ (pt b_ (oc (MC m nv qv) Ty.api_Msg) :: l) → b = false → J19 [.bool false] w_ := by
      intro b w_ h5 E h6
      rw [← h5, h6] at hb
      (repeat with_reducible (apply hJ19; intro u_))
      exact ⟨by rw [← hb]; rfl, E.tl⟩
    have finI : ∀ w_, (fl.contains .xD || m.data == []) = true → Hs w0 F w_ (pt b_ (oc (MC m nv qv) Ty.api_Msg) :: l) → ∀ b, b = (fl.contains .xi || m.dir == d0) → J19 [.bool b] w_ := by
      intro w_ h5 E b h6
      rw [h5, ← h6] at hb
      apply hJ19
      intro u_
      exact ⟨by rw [← hb]; cases b <;> rfl, E.tl⟩
    clear hJ19
    refine (has_ok .xD rfl hl E).mono ?_
    clear E
    rintro r w_ ⟨rfl, E⟩
    cases hD : fl.contains .xD with
    | true =>
      (repeat with_reducible refine Stp.go ?_)
      refine (has_ok .xi rfl hl E).mono ?_
      clear E
      rintro r w_ ⟨rfl, E⟩
      cases hi : fl.contains .xi with
      | true =>
        (repeat with_reducible refine Stp.go ?_)
        exact finI _ (by rw [hD]; rfl) E _ (by rw [hi]; rfl)
      | false =>
        (repeat with_reducible first | refine Stp.go ?_ | refine StpE.go E ?_)
        refine EqS.e (xs := dcs m.dir) (ys := dcs d0) lv_Dir st_Dir g_Dir rfl rfl ?_
        rw [ceq_dir]
        (repeat with_reducible refine Stp.go ?_)
        exact finI _ (by rw [hD]; rfl) E _ (by rw [hi]; rfl)
    | false =>
      (repeat with_reducible first | refine Stp.go ?_ | refine StpE.go E ?_)
      refine Bi.seql (fun c => ?_) (fun c => ?_)
      · (repeat with_reducible refine Stp.go ?_)
        refine (has_ok .xi rfl hl E).mono ?_
        clear E
        rintro r w_ ⟨rfl, E⟩
        cases hi : fl.contains .xi with
        | true =>
          (repeat with_reducible refine Stp.go ?_)
          exact finI _ (by rw [mkB_inj c]; simp) E _ (by rw [hi]; rfl)
        | false =>
          (repeat with_reducible first | refine Stp.go ?_ | refine StpE.go E ?_)
          refine EqS.e (xs := dcs m.dir) (ys := dcs d0) lv_Dir st_Dir g_Dir rfl rfl ?_
          rw [ceq_dir]
          (repeat with_reducible refine Stp.go ?_)
          exact finI _ (by rw [mkB_inj c]; simp) E _ (by rw [hi]; rfl)
      · (repeat with_reducible refine Stp.go ?_)
        exact finD _ _ rfl E (by rw [hD]; simpa using fun e => c (by rw [e]))
  clear hJ3
  refine (has_ok .xq rfl hl E).mono ?_
  clear E
  rintro r w_ ⟨rfl, E⟩
  cases hq : fl.contains .xq with
  | true =>
    (repeat with_reducible first | refine Stp.go ?_ | refine StpE.go E ?_)
    refine hM.rq.len ?_
    (repeat with_reducible refine Stp.go ?_)
    refine neqN ?_
    (repeat with_reducible refine Stp.go ?_)
    cases hz : m.qids.length != 1 with
    | true =>
      (repeat with_reducible refine Stp.go ?_)
      exact fin3 _ _ (by unfold shp1; rw [hq, hz]; rfl) E
    | false =>
      (repeat with_reducible refine Stp.go ?_)
      refine (has_ok .xq rfl hl E).mono ?_
      clear E
      rintro r w_ ⟨rfl, E⟩
      rw [hq]
      (repeat with_reducible refine Stp.go ?_)
      refine (has_ok .xn rfl hl E).mono ?_
      clear E
      rintro r w_ ⟨rfl, E⟩
      cases hn : fl.contains .xn with
      | true =>
        (repeat with_reducible refine Stp.go ?_)
        exact fin3 _ _ (by unfold shp1; rw [hq, hz, hn]; rfl) E
      | false =>
        (repeat with_reducible first | refine Stp.go ?_ | refine StpE.go E ?_)
        refine hM.rn.len ?_
        (repeat with_reducible refine Stp.go ?_)
        refine gtrN ?_
        (repeat with_reducible refine Stp.go ?_)
        exact fin3 _ _ (by unfold shp1; rw [hq, hz, hn]; rfl) E
  | false =>
    (repeat with_reducible refine Stp.go ?_)
    refine (has_ok .xq rfl hl E).mono ?_
    clear E
    rintro r w_ ⟨rfl, E⟩
    rw [hq]
    (repeat with_reducible refine Stp.go ?_)
    refine (has_ok .xQ rfl hl E).mono ?_
    clear E
    rintro r w_ ⟨rfl, E⟩
    cases hQ : fl.contains .xQ with
    | true =>
      (repeat with_reducible refine Stp.go ?_)
      refine (has_ok .xn rfl hl E).mono ?_
      clear E
      rintro r w_ ⟨rfl, E⟩
      cases hn : fl.contains .xn with
      | true =>
        (repeat with_reducible refine Stp.go ?_)
        exact fin3 _ _ (by unfold shp1; rw [hq, hQ, hn]; rfl) E
      | false =>
        (repeat with_reducible first | refine Stp.go ?_ | refine StpE.go E ?_)
        refine hM.rn.len ?_
        (repeat with_reducible refine Stp.go ?_)
        refine gtrN ?_
        (repeat with_reducible refine Stp.go ?_)
        exact fin3 _ _ (by unfold shp1; rw [hq, hQ, hn]; rfl) E
    | false =>
      (repeat with_reducible first | refine Stp.go ?_ | refine StpE.go E ?_)
      refine hM.rq.len ?_
      (repeat with_reducible refine Stp.go ?_)
      refine gtrN ?_
      (repeat with_reducible refine Stp.go ?_)
      refine hz3 (p := m.qids.length != 0) .xn rfl hl (hM.rn.cons _) E ?_
      clear E
      intro w_ E
      exact fin3 _ _ (by unfold shp1; rw [hq, hQ]; rfl) E
end Go.Proofs.YtmlccboapkkcfaaDoor
