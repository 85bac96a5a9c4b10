/-
  Device: a console's file; the examples of the chapter.
-/
import Derived.Test.YtdhieaifhlikpaaDoorDv6
namespace Go.Proofs.YtdhieaifhlikpaaDoor
open Go Go.Sh
set_option maxRecDepth 100000
set_option linter.unusedVariables false
set_option linter.unusedSimpArgs false
variable {w0 : World} {F : Nat → Prop} {l : List As}
variable {c d rt fm om f : Nat} {lv bv ov : Value} {M O : AL} {user : ByteArray}

theorem b_take : hasBody PP Fn.device_Console_take = true := by kernel_rfl
theorem b_print : hasBody PP Fn.device_Console_print = true := by kernel_rfl
theorem con_read {w : World} {line out : ByteArray} {bl : List ByteArray} {h off count : Int} (h0 : 0 ≤ off) (hc : 0 ≤ count) (hh : aget O (i64 h) = some (.agg #[ptr f, i64 0]))
    (E : Hs w0 F w (pt c (conC (ptr d) lv bv ov (.bool false) (i64 0)) :: slA lv Ty.uint8 1 (bts line) :: slA bv Ty.string 1 (bl.map str) :: slA ov Ty.uint8 1 (bts out) ::
      pt d (oc [ptr rt, .map (some fm), .map (some om)] Ty.device_Device) :: mp fm (.int .i64) M :: mp om (.int .i64) O :: pt f (oc (consF c rt user) Ty.device_file) :: l)) :
    Ca PP Fn.device_Device_Read #[ptr d, i64 h, i64 off, i64 count] w fun r w' => r = .tuple #[str (takeF count bl).1, i64 (takeF count bl).2.1] ∧ ∃ bv',
      Hs w0 F w' (pt c (conC (ptr d) lv bv' ov (.bool false) (i64 0)) :: slA lv Ty.uint8 1 (bts line) :: slA bv' Ty.string 1 ((takeF count bl).2.2.map str) :: slA ov Ty.uint8 1 (bts out) ::
        pt d (oc [ptr rt, .map (some fm), .map (some om)] Ty.device_Device) :: mp fm (.int .i64) M :: mp om (.int .i64) O :: pt f (oc (consF c rt user) Ty.device_file) :: l) := by
  refine (Read_ok (Q := fun s e w' => s = (takeF count bl).1 ∧ e = (takeF count bl).2.1 ∧ ∃ bv', Hs w0 F w' (pt c (conC (ptr d) lv bv' ov (.bool false) (i64 0)) :: slA lv Ty.uint8 1 (bts line) :: slA bv' Ty.string 1 ((takeF count bl).2.2.map str) :: slA ov Ty.uint8 1 (bts out) ::
        pt d (oc [ptr rt, .map (some fm), .map (some om)] Ty.device_Device) :: mp fm (.int .i64) M :: mp om (.int .i64) O :: pt f (oc (consF c rt user) Ty.device_file) :: l)) (m := 0) (fm_ := 384) (.inl rfl) h0 hc (by decide) E (by (first | assumption | exact FPt.mem | exact FMp.mem | exact FSl.mem | (repeat (first | assumption | with_reducible exact List.mem_cons_self | refine List.mem_cons_of_mem _ ?_)))) (by (first | assumption | exact FPt.mem | exact FMp.mem | exact FSl.mem | (repeat (first | assumption | with_reducible exact List.mem_cons_self | refine List.mem_cons_of_mem _ ?_)))) hh (by (first | assumption | exact FPt.mem | exact FMp.mem | exact FSl.mem | (repeat (first | assumption | with_reducible exact List.mem_cons_self | refine List.mem_cons_of_mem _ ?_)))) ?_).mono ?_
  · clear E
    intro w1 E
    refine CaV.mk b_take ?_
    (replace E := ((E.bSl bv).bPt c))
    refine (take_ok (off := off) hc E).mono ?_
    clear E
    rintro r w_ ⟨rfl, bv', E⟩
    refine ⟨_, _, rfl, rfl, rfl, bv', ?_⟩
    (replace E := (((E.bIx 1).bIx 2).bIx 2))
    exact E
  · rintro r w' ⟨s, e, rfl, rfl, rfl, bv', E⟩
    exact ⟨rfl, bv', E⟩
theorem con_write {w : World} {line out data : ByteArray} {bl : List ByteArray} {h off : Int} (h0 : 0 ≤ off) (hd : data.size ≤ 8192) (ho : out.size + data.size ≤ 1048576) (hh : aget O (i64 h) = some (.agg #[ptr f, i64 1]))
    (E : Hs w0 F w (pt c (conC (ptr d) lv bv ov (.bool false) (i64 0)) :: slA lv Ty.uint8 1 (bts line) :: slA bv Ty.string 1 (bl.map str) :: slA ov Ty.uint8 1 (bts out) ::
      pt d (oc [ptr rt, .map (some fm), .map (some om)] Ty.device_Device) :: mp fm (.int .i64) M :: mp om (.int .i64) O :: pt f (oc (consF c rt user) Ty.device_file) :: l)) :
    Ca PP Fn.device_Device_Write #[ptr d, i64 h, i64 off, str data] w fun r w' => r = .tuple #[i64 data.size, i64 0] ∧ ∃ ov',
      Hs w0 F w' (pt c (conC (ptr d) lv bv ov' (.bool false) (i64 0)) :: slA lv Ty.uint8 1 (bts line) :: slA bv Ty.string 1 (bl.map str) :: slA ov' Ty.uint8 1 (bts (out ++ data)) ::
        pt d (oc [ptr rt, .map (some fm), .map (some om)] Ty.device_Device) :: mp fm (.int .i64) M :: mp om (.int .i64) O :: pt f (oc (consF c rt user) Ty.device_file) :: l) := by
  refine (Write_ok (Q := fun e w' => e = 0 ∧ ∃ ov', Hs w0 F w' (pt c (conC (ptr d) lv bv ov' (.bool false) (i64 0)) :: slA lv Ty.uint8 1 (bts line) :: slA bv Ty.string 1 (bl.map str) :: slA ov' Ty.uint8 1 (bts (out ++ data)) ::
        pt d (oc [ptr rt, .map (some fm), .map (some om)] Ty.device_Device) :: mp fm (.int .i64) M :: mp om (.int .i64) O :: pt f (oc (consF c rt user) Ty.device_file) :: l)) (m := 1) (.inl rfl) h0 hd E (by (first | assumption | exact FPt.mem | exact FMp.mem | exact FSl.mem | (repeat (first | assumption | with_reducible exact List.mem_cons_self | refine List.mem_cons_of_mem _ ?_)))) (by (first | assumption | exact FPt.mem | exact FMp.mem | exact FSl.mem | (repeat (first | assumption | with_reducible exact List.mem_cons_self | refine List.mem_cons_of_mem _ ?_)))) hh (by (first | assumption | exact FPt.mem | exact FMp.mem | exact FSl.mem | (repeat (first | assumption | with_reducible exact List.mem_cons_self | refine List.mem_cons_of_mem _ ?_)))) ?_).mono ?_
  · clear E
    intro w1 E
    refine CaV.mk b_print ?_
    (replace E := ((E.bSl ov).bPt c))
    refine (print_ok (s := data) (by omega) (by omega) E).mono ?_
    clear E
    rintro r w_ ⟨h1, -⟩
    obtain ⟨rfl, ov', E⟩ := h1 ho
    refine ⟨_, rfl, rfl, ov', ?_⟩
    (replace E := ((((E.bIx 1).bIx 3).bIx 3).bIx 3))
    exact E
  · rintro r w' ⟨e, rfl, rfl, ov', E⟩
    exact ⟨rfl, ov', E⟩

theorem first_handle {h : Nat} (h1 : 1 ≤ h) (hall : ∀ j : Nat, 1 ≤ j → j < h → aget ([] : AL) (i64 j) ≠ none) : h = 1 := by
  by_cases hh : h = 1
  · exact hh
  · exact absurd rfl (hall 1 (by omega) (by omega))
/-- "ann" -/
abbrev ann : ByteArray := ⟨#[97, 110, 110]⟩
theorem awake_ok {w : World} (E : Hs w0 F w l) : Ca PP Fn.law30_awake #[] w fun r w' => r = .bool true ∧ Hs w0 F w' l := by
  refine S.law30_awake.calls ?_
  unfold S.law30_awake
  refine (NewConsole_ok (user := ann) (by decide) (by decide) E).mono ?_
  clear E
  rintro r w_ ⟨c, d, rt, fm, om, f, M, hM, rfl, E⟩
  (repeat (first | (with_reducible refine Stp.go ?_) | (with_reducible refine StpE.go E ?_) | (with_reducible refine StpW.go E ?_; clear E; intro w_ E) | (with_reducible refine StpA.go E ?_; clear E; intro b_ w_ hb_ E) | (apply hJ1; intro u_) | (apply hJ2; intro u_) | ((with_reducible refine Bi.seqT ?_ ?_); focus exact rfl) | ((with_reducible refine Bi.seqF ?_ ?_); focus decide) | ((with_reducible refine Bi.snF ?_ ?_); focus exact rfl) | ((with_reducible refine Bi.snT ?_ ?_); focus decide) | ((with_reducible refine Bi.cmp true ?_ ?_); focus (simp only [cmpB, List.length_cons, List.length_nil, Nat.reduceAdd, Int.natCast_one, Int.natCast_zero, Int.cast_ofNat_Int, Int.reduceLT, Int.reduceLE, Int.reduceEq, Int.reduceNe, ne_eq, not_true_eq_false, not_false_eq_true, decide_true, decide_false]; done)) | ((with_reducible refine Bi.cmp false ?_ ?_); focus (simp only [cmpB, List.length_cons, List.length_nil, Nat.reduceAdd, Int.natCast_one, Int.natCast_zero, Int.cast_ofNat_Int, Int.reduceLT, Int.reduceLE, Int.reduceEq, Int.reduceNe, ne_eq, not_true_eq_false, not_false_eq_true, decide_true, decide_false]; done)) | (with_reducible refine LnL.nil ?_)))
  (intro J1 hJ1)
  (repeat (first | (with_reducible refine Stp.go ?_) | (with_reducible refine StpE.go E ?_) | (with_reducible refine StpW.go E ?_; clear E; intro w_ E) | (with_reducible refine StpA.go E ?_; clear E; intro b_ w_ hb_ E) | (apply hJ1; intro u_) | (apply hJ2; intro u_) | ((with_reducible refine Bi.seqT ?_ ?_); focus exact rfl) | ((with_reducible refine Bi.seqF ?_ ?_); focus decide) | ((with_reducible refine Bi.snF ?_ ?_); focus exact rfl) | ((with_reducible refine Bi.snT ?_ ?_); focus decide) | ((with_reducible refine Bi.cmp true ?_ ?_); focus (simp only [cmpB, List.length_cons, List.length_nil, Nat.reduceAdd, Int.natCast_one, Int.natCast_zero, Int.cast_ofNat_Int, Int.reduceLT, Int.reduceLE, Int.reduceEq, Int.reduceNe, ne_eq, not_true_eq_false, not_false_eq_true, decide_true, decide_false]; done)) | ((with_reducible refine Bi.cmp false ?_ ?_); focus (simp only [cmpB, List.length_cons, List.length_nil, Nat.reduceAdd, Int.natCast_one, Int.natCast_zero, Int.cast_ofNat_Int, Int.reduceLT, Int.reduceLE, Int.reduceEq, Int.reduceNe, ne_eq, not_true_eq_false, not_false_eq_true, decide_true, decide_false]; done)) | (with_reducible refine LnL.nil ?_)))
  refine Eq.ef u_console rfl ?_
  (repeat (first | (with_reducible refine Stp.go ?_) | (with_reducible refine StpE.go E ?_) | (with_reducible refine StpW.go E ?_; clear E; intro w_ E) | (with_reducible refine StpA.go E ?_; clear E; intro b_ w_ hb_ E) | (apply hJ1; intro u_) | (apply hJ2; intro u_) | ((with_reducible refine Bi.seqT ?_ ?_); focus exact rfl) | ((with_reducible refine Bi.seqF ?_ ?_); focus decide) | ((with_reducible refine Bi.snF ?_ ?_); focus exact rfl) | ((with_reducible refine Bi.snT ?_ ?_); focus decide) | ((with_reducible refine Bi.cmp true ?_ ?_); focus (simp only [cmpB, List.length_cons, List.length_nil, Nat.reduceAdd, Int.natCast_one, Int.natCast_zero, Int.cast_ofNat_Int, Int.reduceLT, Int.reduceLE, Int.reduceEq, Int.reduceNe, ne_eq, not_true_eq_false, not_false_eq_true, decide_true, decide_false]; done)) | ((with_reducible refine Bi.cmp false ?_ ?_); focus (simp only [cmpB, List.length_cons, List.length_nil, Nat.reduceAdd, Int.natCast_one, Int.natCast_zero, Int.cast_ofNat_Int, Int.reduceLT, Int.reduceLE, Int.reduceEq, Int.reduceNe, ne_eq, not_true_eq_false, not_false_eq_true, decide_true, decide_false]; done)) | (with_reducible refine LnL.nil ?_)))
  (replace E := (((E.bSlT Ty.string).bSlT Ty.uint8).bPt c))
  refine (Type_ok (by decide) (by decide) E).mono ?_
  clear E
  rintro r w_ ⟨rfl, lv, bv, E⟩
  (repeat (first | (with_reducible refine Stp.go ?_) | (with_reducible refine StpE.go E ?_) | (with_reducible refine StpW.go E ?_; clear E; intro w_ E) | (with_reducible refine StpA.go E ?_; clear E; intro b_ w_ hb_ E) | (apply hJ1; intro u_) | (apply hJ2; intro u_) | ((with_reducible refine Bi.seqT ?_ ?_); focus exact rfl) | ((with_reducible refine Bi.seqF ?_ ?_); focus decide) | ((with_reducible refine Bi.snF ?_ ?_); focus exact rfl) | ((with_reducible refine Bi.snT ?_ ?_); focus decide) | ((with_reducible refine Bi.cmp true ?_ ?_); focus (simp only [cmpB, List.length_cons, List.length_nil, Nat.reduceAdd, Int.natCast_one, Int.natCast_zero, Int.cast_ofNat_Int, Int.reduceLT, Int.reduceLE, Int.reduceEq, Int.reduceNe, ne_eq, not_true_eq_false, not_false_eq_true, decide_true, decide_false]; done)) | ((with_reducible refine Bi.cmp false ?_ ?_); focus (simp only [cmpB, List.length_cons, List.length_nil, Nat.reduceAdd, Int.natCast_one, Int.natCast_zero, Int.cast_ofNat_Int, Int.reduceLT, Int.reduceLE, Int.reduceEq, Int.reduceNe, ne_eq, not_true_eq_false, not_false_eq_true, decide_true, decide_false]; done)) | (with_reducible refine LnL.nil ?_)))
  (replace E := (E.bMp om))
  refine (Open_ok (user := ann) (m := 0) (.inl rfl) E (by (first | assumption | exact FPt.mem | exact FMp.mem | exact FSl.mem | (repeat (first | assumption | with_reducible exact List.mem_cons_self | refine List.mem_cons_of_mem _ ?_)))) (by (first | assumption | exact FPt.mem | exact FMp.mem | exact FSl.mem | (repeat (first | assumption | with_reducible exact List.mem_cons_self | refine List.mem_cons_of_mem _ ?_)))) hM (by (first | assumption | exact FPt.mem | exact FMp.mem | exact FSl.mem | (repeat (first | assumption | with_reducible exact List.mem_cons_self | refine List.mem_cons_of_mem _ ?_)))) rfl (by decide) (by decide) (fun _ h => by cases h) (by decide)).mono ?_
  clear E
  rintro r w_ ⟨h, h1, -, -, hall, rfl, E⟩
  obtain rfl := first_handle h1 hall
  (repeat (first | (with_reducible refine Stp.go ?_) | (with_reducible refine StpE.go E ?_) | (with_reducible refine StpW.go E ?_; clear E; intro w_ E) | (with_reducible refine StpA.go E ?_; clear E; intro b_ w_ hb_ E) | (apply hJ1; intro u_) | (apply hJ2; intro u_) | ((with_reducible refine Bi.seqT ?_ ?_); focus exact rfl) | ((with_reducible refine Bi.seqF ?_ ?_); focus decide) | ((with_reducible refine Bi.snF ?_ ?_); focus exact rfl) | ((with_reducible refine Bi.snT ?_ ?_); focus decide) | ((with_reducible refine Bi.cmp true ?_ ?_); focus (simp only [cmpB, List.length_cons, List.length_nil, Nat.reduceAdd, Int.natCast_one, Int.natCast_zero, Int.cast_ofNat_Int, Int.reduceLT, Int.reduceLE, Int.reduceEq, Int.reduceNe, ne_eq, not_true_eq_false, not_false_eq_true, decide_true, decide_false]; done)) | ((with_reducible refine Bi.cmp false ?_ ?_); focus (simp only [cmpB, List.length_cons, List.length_nil, Nat.reduceAdd, Int.natCast_one, Int.natCast_zero, Int.cast_ofNat_Int, Int.reduceLT, Int.reduceLE, Int.reduceEq, Int.reduceNe, ne_eq, not_true_eq_false, not_false_eq_true, decide_true, decide_false]; done)) | (with_reducible refine LnL.nil ?_)))
  (try (refine StA.by E rfl (by first | exact rfl | assumption) ?_; clear E; intro w_ E))
  (replace E := (E.bIx 0).tl)
  (repeat (first | (with_reducible refine Stp.go ?_) | (with_reducible refine StpE.go E ?_) | (with_reducible refine StpW.go E ?_; clear E; intro w_ E) | (with_reducible refine StpA.go E ?_; clear E; intro b_ w_ hb_ E) | (apply hJ1; intro u_) | (apply hJ2; intro u_) | ((with_reducible refine Bi.seqT ?_ ?_); focus exact rfl) | ((with_reducible refine Bi.seqF ?_ ?_); focus decide) | ((with_reducible refine Bi.snF ?_ ?_); focus exact rfl) | ((with_reducible refine Bi.snT ?_ ?_); focus decide) | ((with_reducible refine Bi.cmp true ?_ ?_); focus (simp only [cmpB, List.length_cons, List.length_nil, Nat.reduceAdd, Int.natCast_one, Int.natCast_zero, Int.cast_ofNat_Int, Int.reduceLT, Int.reduceLE, Int.reduceEq, Int.reduceNe, ne_eq, not_true_eq_false, not_false_eq_true, decide_true, decide_false]; done)) | ((with_reducible refine Bi.cmp false ?_ ?_); focus (simp only [cmpB, List.length_cons, List.length_nil, Nat.reduceAdd, Int.natCast_one, Int.natCast_zero, Int.cast_ofNat_Int, Int.reduceLT, Int.reduceLE, Int.reduceEq, Int.reduceNe, ne_eq, not_true_eq_false, not_false_eq_true, decide_true, decide_false]; done)) | (with_reducible refine LnL.nil ?_)))
  have e1 : ([97, 98, 8, 99, 10, 100] : List UInt8).foldl typeB (⟨#[]⟩, []) = (⟨#[100]⟩, [⟨#[97, 99, 10]⟩]) := by decide
  rw [e1] at E
  (replace E := (((((((E.bMp om).bMp fm).bPt d).bSlV (.slice none 0 0) Ty.uint8).bSl bv).bSl lv).bPt c))
  refine (con_read (O := aput [] (i64 ((1 : Nat) : Int)) (.agg #[ptr f, i64 0])) (by omega) (by omega) rfl E).mono ?_
  clear E
  rintro r w_ ⟨rfl, bv1, E⟩
  (repeat (first | (with_reducible refine Stp.go ?_) | (with_reducible refine StpE.go E ?_) | (with_reducible refine StpW.go E ?_; clear E; intro w_ E) | (with_reducible refine StpA.go E ?_; clear E; intro b_ w_ hb_ E) | (apply hJ1; intro u_) | (apply hJ2; intro u_) | ((with_reducible refine Bi.seqT ?_ ?_); focus exact rfl) | ((with_reducible refine Bi.seqF ?_ ?_); focus decide) | ((with_reducible refine Bi.snF ?_ ?_); focus exact rfl) | ((with_reducible refine Bi.snT ?_ ?_); focus decide) | ((with_reducible refine Bi.cmp true ?_ ?_); focus (simp only [cmpB, List.length_cons, List.length_nil, Nat.reduceAdd, Int.natCast_one, Int.natCast_zero, Int.cast_ofNat_Int, Int.reduceLT, Int.reduceLE, Int.reduceEq, Int.reduceNe, ne_eq, not_true_eq_false, not_false_eq_true, decide_true, decide_false]; done)) | ((with_reducible refine Bi.cmp false ?_ ?_); focus (simp only [cmpB, List.length_cons, List.length_nil, Nat.reduceAdd, Int.natCast_one, Int.natCast_zero, Int.cast_ofNat_Int, Int.reduceLT, Int.reduceLE, Int.reduceEq, Int.reduceNe, ne_eq, not_true_eq_false, not_false_eq_true, decide_true, decide_false]; done)) | (with_reducible refine LnL.nil ?_)))
  refine (con_read (O := aput [] (i64 ((1 : Nat) : Int)) (.agg #[ptr f, i64 0])) (by omega) (by omega) rfl E).mono ?_
  clear E
  rintro r w_ ⟨rfl, bv2, E⟩
  (repeat (first | (with_reducible refine Stp.go ?_) | (with_reducible refine StpE.go E ?_) | (with_reducible refine StpW.go E ?_; clear E; intro w_ E) | (with_reducible refine StpA.go E ?_; clear E; intro b_ w_ hb_ E) | (apply hJ1; intro u_) | (apply hJ2; intro u_) | ((with_reducible refine Bi.seqT ?_ ?_); focus exact rfl) | ((with_reducible refine Bi.seqF ?_ ?_); focus decide) | ((with_reducible refine Bi.snF ?_ ?_); focus exact rfl) | ((with_reducible refine Bi.snT ?_ ?_); focus decide) | ((with_reducible refine Bi.cmp true ?_ ?_); focus (simp only [cmpB, List.length_cons, List.length_nil, Nat.reduceAdd, Int.natCast_one, Int.natCast_zero, Int.cast_ofNat_Int, Int.reduceLT, Int.reduceLE, Int.reduceEq, Int.reduceNe, ne_eq, not_true_eq_false, not_false_eq_true, decide_true, decide_false]; done)) | ((with_reducible refine Bi.cmp false ?_ ?_); focus (simp only [cmpB, List.length_cons, List.length_nil, Nat.reduceAdd, Int.natCast_one, Int.natCast_zero, Int.cast_ofNat_Int, Int.reduceLT, Int.reduceLE, Int.reduceEq, Int.reduceNe, ne_eq, not_true_eq_false, not_false_eq_true, decide_true, decide_false]; done)) | (with_reducible refine LnL.nil ?_)))
  refine (con_read (O := aput [] (i64 ((1 : Nat) : Int)) (.agg #[ptr f, i64 0])) (by omega) (by omega) rfl E).mono ?_
  clear E
  rintro r w_ ⟨rfl, bv3, E⟩
  (repeat (first | (with_reducible refine Stp.go ?_) | (with_reducible refine StpE.go E ?_) | (with_reducible refine StpW.go E ?_; clear E; intro w_ E) | (with_reducible refine StpA.go E ?_; clear E; intro b_ w_ hb_ E) | (apply hJ1; intro u_) | (apply hJ2; intro u_) | ((with_reducible refine Bi.seqT ?_ ?_); focus exact rfl) | ((with_reducible refine Bi.seqF ?_ ?_); focus decide) | ((with_reducible refine Bi.snF ?_ ?_); focus exact rfl) | ((with_reducible refine Bi.snT ?_ ?_); focus decide) | ((with_reducible refine Bi.cmp true ?_ ?_); focus (simp only [cmpB, List.length_cons, List.length_nil, Nat.reduceAdd, Int.natCast_one, Int.natCast_zero, Int.cast_ofNat_Int, Int.reduceLT, Int.reduceLE, Int.reduceEq, Int.reduceNe, ne_eq, not_true_eq_false, not_false_eq_true, decide_true, decide_false]; done)) | ((with_reducible refine Bi.cmp false ?_ ?_); focus (simp only [cmpB, List.length_cons, List.length_nil, Nat.reduceAdd, Int.natCast_one, Int.natCast_zero, Int.cast_ofNat_Int, Int.reduceLT, Int.reduceLE, Int.reduceEq, Int.reduceNe, ne_eq, not_true_eq_false, not_false_eq_true, decide_true, decide_false]; done)) | (with_reducible refine LnL.nil ?_)))
  (intro J2 hJ2)
  have e2 : takeF 2 [⟨#[97, 99, 10]⟩] = (⟨#[97, 99]⟩, 0, [⟨#[10]⟩]) := by decide
  have e3 : takeF 9 [⟨#[10]⟩] = (⟨#[10]⟩, 0, []) := by decide
  have e4 : takeF 9 [] = (⟨#[]⟩, 36, []) := by decide
  simp only [e2, e3, e4] at E ⊢
  (repeat (first | (with_reducible refine Stp.go ?_) | (with_reducible refine StpE.go E ?_) | (with_reducible refine StpW.go E ?_; clear E; intro w_ E) | (with_reducible refine StpA.go E ?_; clear E; intro b_ w_ hb_ E) | (apply hJ1; intro u_) | (apply hJ2; intro u_) | ((with_reducible refine Bi.seqT ?_ ?_); focus exact rfl) | ((with_reducible refine Bi.seqF ?_ ?_); focus decide) | ((with_reducible refine Bi.snF ?_ ?_); focus exact rfl) | ((with_reducible refine Bi.snT ?_ ?_); focus decide) | ((with_reducible refine Bi.cmp true ?_ ?_); focus (simp only [cmpB, List.length_cons, List.length_nil, Nat.reduceAdd, Int.natCast_one, Int.natCast_zero, Int.cast_ofNat_Int, Int.reduceLT, Int.reduceLE, Int.reduceEq, Int.reduceNe, ne_eq, not_true_eq_false, not_false_eq_true, decide_true, decide_false]; done)) | ((with_reducible refine Bi.cmp false ?_ ?_); focus (simp only [cmpB, List.length_cons, List.length_nil, Nat.reduceAdd, Int.natCast_one, Int.natCast_zero, Int.cast_ofNat_Int, Int.reduceLT, Int.reduceLE, Int.reduceEq, Int.reduceNe, ne_eq, not_true_eq_false, not_false_eq_true, decide_true, decide_false]; done)) | (with_reducible refine LnL.nil ?_)))
  (replace E := ((((((((E.bIx 0).tl.bIx 0).tl.bIx 0).tl.bIx 0).tl.bIx 0).tl.bIx 0).tl.bIx 0).tl.bIx 0).tl)
  exact ⟨rfl, E⟩
end Go.Proofs.YtdhieaifhlikpaaDoor
