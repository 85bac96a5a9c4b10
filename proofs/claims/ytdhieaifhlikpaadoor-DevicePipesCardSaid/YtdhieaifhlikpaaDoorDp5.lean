/-
  DevicePipes: the contract.
-/
import Derived.Test.YtdhieaifhlikpaaDoorDp4
import Derived.Test.YtdhieaifhlikpaaDoorDv8
namespace Go.Proofs.YtdhieaifhlikpaaDoor
open Go Go.Sh
set_option maxRecDepth 100000
set_option linter.unusedVariables false
set_option linter.unusedSimpArgs false
variable {w0 w : World} {F : Nat → Prop} {l : List As} {pb pp xF xT d rt fm om fF fT : Nat} {M O : AL} {pF pT : Int} {nF nT o : ByteArray} {qv : Value} {cl j : Bool} {ql : List ByteArray} {n : Int} {s : ByteArray}

theorem b_p1 : hasBody PP Fn.device_Pipe_1 = true := by kernel_rfl
theorem b_p2 : hasBody PP Fn.device_Pipe_2 = true := by kernel_rfl
theorem b_p3 : hasBody PP Fn.device_Pipe_3 = true := by kernel_rfl
theorem u_pdevice : PP.underlying Ty.p_device_Device = some (.pointer Ty.device_Device) := by kernel_rfl
abbrev PS (j : Bool) (pb pp xF xT d rt fm om fF fT : Nat) (M O : AL) (pF pT : Int) (nF nT o : ByteArray) (qv : Value) (cl : Bool) (ql : List ByteArray) (l : List As) : List As :=
  pt pb (pip j qv cl) :: slA qv Ty.string 1 (ql.map str) :: pt pp (oc [ptr pb] Ty.p_stream_Pipe) :: pt xF (oc [i64 (ei (!j))] Ty.int) :: pt xT (oc [i64 (ei j)] Ty.int) ::
    pt d (oc [ptr rt, .map (some fm), .map (some om)] Ty.device_Device) :: mp fm (.int .i64) M :: mp om (.int .i64) O :: pt fF (oc (pipF pF nF o rt pp xF) Ty.device_file) :: pt fT (oc (pipF pT nT o rt pp xT) Ty.device_file) :: l

theorem pw_ok {h : Int} (hh : aget O (i64 h) = some (.agg #[ptr fF, i64 1])) (hs : s.size ≤ 8192) (ht : tot ql < 1048576) (hl : ql.length < 1000000000) (E : Hs w0 F w (PS j pb pp xF xT d rt fm om fF fT M O pF pT nF nT o qv false ql l)) :
    Ca PP Fn.device_Device_Write #[ptr d, i64 h, i64 0, str s] w fun r w' => r = .tuple #[i64 s.size, i64 0] ∧ ∃ qv', Hs w0 F w' (PS j pb pp xF xT d rt fm om fF fT M O pF pT nF nT o qv' false (if s = ⟨#[]⟩ then ql else ql ++ [s]) l) := by
  refine (Write_ok (Q := fun e w' => e = 0 ∧ ∃ qv', Hs w0 F w' (PS j pb pp xF xT d rt fm om fF fT M O pF pT nF nT o qv' false (if s = ⟨#[]⟩ then ql else ql ++ [s]) l)) (m := 1) (.inl rfl) (by omega) hs E (by (first | assumption | exact FPt.mem | exact FMp.mem | exact FSl.mem | (repeat (first | assumption | with_reducible exact List.mem_cons_self | refine List.mem_cons_of_mem _ ?_)))) (by (first | assumption | exact FPt.mem | exact FMp.mem | exact FSl.mem | (repeat (first | assumption | with_reducible exact List.mem_cons_self | refine List.mem_cons_of_mem _ ?_)))) hh (by (first | assumption | exact FPt.mem | exact FMp.mem | exact FSl.mem | (repeat (first | assumption | with_reducible exact List.mem_cons_self | refine List.mem_cons_of_mem _ ?_)))) ?_).mono ?_
  · clear E
    intro w_ E
    refine CaV.mk b_p2 ?_
    refine S.device_Pipe_2.calls (a0 := str s) (a1 := ptr pp) (a2 := ptr xF) ?_
    unfold S.device_Pipe_2
    (repeat (first | (with_reducible refine Stp.go ?_) | (with_reducible refine StpE.go E ?_) | (with_reducible refine StpW.go E ?_; clear E; intro w_ E) | (with_reducible refine StpA.go E ?_; clear E; intro b_ w_ hb_ E) | ((with_reducible refine Bi.seqT ?_ ?_); focus exact rfl) | ((with_reducible refine Bi.seqF ?_ ?_); focus decide) | ((with_reducible refine Bi.snF ?_ ?_); focus exact rfl) | ((with_reducible refine Bi.snT ?_ ?_); focus decide) | ((with_reducible refine Bi.cmp true ?_ ?_); focus (simp only [cmpB, List.length_cons, List.length_nil, Nat.reduceAdd, Int.natCast_one, Int.natCast_zero, Int.cast_ofNat_Int, Int.reduceLT, Int.reduceLE, Int.reduceEq, Int.reduceNe, ne_eq, not_true_eq_false, not_false_eq_true, decide_true, decide_false]; done)) | ((with_reducible refine Bi.cmp false ?_ ?_); focus (simp only [cmpB, List.length_cons, List.length_nil, Nat.reduceAdd, Int.natCast_one, Int.natCast_zero, Int.cast_ofNat_Int, Int.reduceLT, Int.reduceLE, Int.reduceEq, Int.reduceNe, ne_eq, not_true_eq_false, not_false_eq_true, decide_true, decide_false]; done)) | (with_reducible refine LnL.nil ?_)))
    refine (Write_p hs ht hl E).mono ?_
    clear E
    rintro r w_ ⟨⟨k, rfl⟩, qv', E⟩
    (repeat (first | (with_reducible refine Stp.go ?_) | (with_reducible refine StpE.go E ?_) | (with_reducible refine StpW.go E ?_; clear E; intro w_ E) | (with_reducible refine StpA.go E ?_; clear E; intro b_ w_ hb_ E) | ((with_reducible refine Bi.seqT ?_ ?_); focus exact rfl) | ((with_reducible refine Bi.seqF ?_ ?_); focus decide) | ((with_reducible refine Bi.snF ?_ ?_); focus exact rfl) | ((with_reducible refine Bi.snT ?_ ?_); focus decide) | ((with_reducible refine Bi.cmp true ?_ ?_); focus (simp only [cmpB, List.length_cons, List.length_nil, Nat.reduceAdd, Int.natCast_one, Int.natCast_zero, Int.cast_ofNat_Int, Int.reduceLT, Int.reduceLE, Int.reduceEq, Int.reduceNe, ne_eq, not_true_eq_false, not_false_eq_true, decide_true, decide_false]; done)) | ((with_reducible refine Bi.cmp false ?_ ?_); focus (simp only [cmpB, List.length_cons, List.length_nil, Nat.reduceAdd, Int.natCast_one, Int.natCast_zero, Int.cast_ofNat_Int, Int.reduceLT, Int.reduceLE, Int.reduceEq, Int.reduceNe, ne_eq, not_true_eq_false, not_false_eq_true, decide_true, decide_false]; done)) | (with_reducible refine LnL.nil ?_)))
    exact ⟨0, rfl, rfl, qv', E⟩
  · rintro r w' ⟨e, rfl, rfl, h⟩
    exact ⟨rfl, h⟩
theorem pr_ok {h : Int} (hn : 0 < n) (hh : aget O (i64 h) = some (.agg #[ptr fT, i64 0])) (ht : tot ql < 1048576) (hl : ql.length < 1000000000) (hr : ql = [] ∧ cl = true ∨ ∃ x r, ql = x :: r ∧ (x.size : Int) ≤ n)
    (E : Hs w0 F w (PS j pb pp xF xT d rt fm om fF fT M O pF pT nF nT o qv cl ql l)) :
    Ca PP Fn.device_Device_Read #[ptr d, i64 h, i64 0, i64 n] w fun r w' => r = .tuple #[str (ql.headD ⟨#[]⟩), i64 0] ∧ ∃ qv', Hs w0 F w' (PS j pb pp xF xT d rt fm om fF fT M O pF pT nF nT o qv' cl ql.tail l) := by
  refine (Read_ok (Q := fun t e w' => t = ql.headD ⟨#[]⟩ ∧ e = 0 ∧ ∃ qv', Hs w0 F w' (PS j pb pp xF xT d rt fm om fF fT M O pF pT nF nT o qv' cl ql.tail l)) (m := 0) (fm_ := 384) (.inl rfl) (by omega) (by omega) (by decide) E (by (first | assumption | exact FPt.mem | exact FMp.mem | exact FSl.mem | (repeat (first | assumption | with_reducible exact List.mem_cons_self | refine List.mem_cons_of_mem _ ?_)))) (by (first | assumption | exact FPt.mem | exact FMp.mem | exact FSl.mem | (repeat (first | assumption | with_reducible exact List.mem_cons_self | refine List.mem_cons_of_mem _ ?_)))) hh (by (first | assumption | exact FPt.mem | exact FMp.mem | exact FSl.mem | (repeat (first | assumption | with_reducible exact List.mem_cons_self | refine List.mem_cons_of_mem _ ?_)))) ?_).mono ?_
  · clear E
    intro w_ E
    refine CaV.mk b_p1 ?_
    refine S.device_Pipe_1.calls (a0 := i64 0) (a1 := i64 n) (a2 := ptr pp) (a3 := ptr xT) ?_
    unfold S.device_Pipe_1
    (repeat (first | (with_reducible refine Stp.go ?_) | (with_reducible refine StpE.go E ?_) | (with_reducible refine StpW.go E ?_; clear E; intro w_ E) | (with_reducible refine StpA.go E ?_; clear E; intro b_ w_ hb_ E) | (apply hJ1; intro u_) | ((with_reducible refine Bi.seqT ?_ ?_); focus exact rfl) | ((with_reducible refine Bi.seqF ?_ ?_); focus decide) | ((with_reducible refine Bi.snF ?_ ?_); focus exact rfl) | ((with_reducible refine Bi.snT ?_ ?_); focus decide) | ((with_reducible refine Bi.cmp true ?_ ?_); focus (simp only [cmpB, List.length_cons, List.length_nil, Nat.reduceAdd, Int.natCast_one, Int.natCast_zero, Int.cast_ofNat_Int, Int.reduceLT, Int.reduceLE, Int.reduceEq, Int.reduceNe, ne_eq, not_true_eq_false, not_false_eq_true, decide_true, decide_false]; done)) | ((with_reducible refine Bi.cmp false ?_ ?_); focus (simp only [cmpB, List.length_cons, List.length_nil, Nat.reduceAdd, Int.natCast_one, Int.natCast_zero, Int.cast_ofNat_Int, Int.reduceLT, Int.reduceLE, Int.reduceEq, Int.reduceNe, ne_eq, not_true_eq_false, not_false_eq_true, decide_true, decide_false]; done)) | (with_reducible refine LnL.nil ?_)))
    refine (Read_p hn ht hl hr E).mono ?_
    clear E
    rintro r w_ ⟨rfl, qv', E⟩
    (repeat (first | (with_reducible refine Stp.go ?_) | (with_reducible refine StpE.go E ?_) | (with_reducible refine StpW.go E ?_; clear E; intro w_ E) | (with_reducible refine StpA.go E ?_; clear E; intro b_ w_ hb_ E) | (apply hJ1; intro u_) | ((with_reducible refine Bi.seqT ?_ ?_); focus exact rfl) | ((with_reducible refine Bi.seqF ?_ ?_); focus decide) | ((with_reducible refine Bi.snF ?_ ?_); focus exact rfl) | ((with_reducible refine Bi.snT ?_ ?_); focus decide) | ((with_reducible refine Bi.cmp true ?_ ?_); focus (simp only [cmpB, List.length_cons, List.length_nil, Nat.reduceAdd, Int.natCast_one, Int.natCast_zero, Int.cast_ofNat_Int, Int.reduceLT, Int.reduceLE, Int.reduceEq, Int.reduceNe, ne_eq, not_true_eq_false, not_false_eq_true, decide_true, decide_false]; done)) | ((with_reducible refine Bi.cmp false ?_ ?_); focus (simp only [cmpB, List.length_cons, List.length_nil, Nat.reduceAdd, Int.natCast_one, Int.natCast_zero, Int.cast_ofNat_Int, Int.reduceLT, Int.reduceLE, Int.reduceEq, Int.reduceNe, ne_eq, not_true_eq_false, not_false_eq_true, decide_true, decide_false]; done)) | (with_reducible refine LnL.nil ?_)))
    (intro J1 hJ1)
    by_cases h0 : ql = []
    · rw [if_pos h0]
      (repeat (first | (with_reducible refine Stp.go ?_) | (with_reducible refine StpE.go E ?_) | (with_reducible refine StpW.go E ?_; clear E; intro w_ E) | (with_reducible refine StpA.go E ?_; clear E; intro b_ w_ hb_ E) | (apply hJ1; intro u_) | ((with_reducible refine Bi.seqT ?_ ?_); focus exact rfl) | ((with_reducible refine Bi.seqF ?_ ?_); focus decide) | ((with_reducible refine Bi.snF ?_ ?_); focus exact rfl) | ((with_reducible refine Bi.snT ?_ ?_); focus decide) | ((with_reducible refine Bi.cmp true ?_ ?_); focus (simp only [cmpB, List.length_cons, List.length_nil, Nat.reduceAdd, Int.natCast_one, Int.natCast_zero, Int.cast_ofNat_Int, Int.reduceLT, Int.reduceLE, Int.reduceEq, Int.reduceNe, ne_eq, not_true_eq_false, not_false_eq_true, decide_true, decide_false]; done)) | ((with_reducible refine Bi.cmp false ?_ ?_); focus (simp only [cmpB, List.length_cons, List.length_nil, Nat.reduceAdd, Int.natCast_one, Int.natCast_zero, Int.cast_ofNat_Int, Int.reduceLT, Int.reduceLE, Int.reduceEq, Int.reduceNe, ne_eq, not_true_eq_false, not_false_eq_true, decide_true, decide_false]; done)) | (with_reducible refine LnL.nil ?_)))
      exact ⟨_, _, rfl, rfl, rfl, qv', E⟩
    · rw [if_neg h0]
      (repeat (first | (with_reducible refine Stp.go ?_) | (with_reducible refine StpE.go E ?_) | (with_reducible refine StpW.go E ?_; clear E; intro w_ E) | (with_reducible refine StpA.go E ?_; clear E; intro b_ w_ hb_ E) | (apply hJ1; intro u_) | ((with_reducible refine Bi.seqT ?_ ?_); focus exact rfl) | ((with_reducible refine Bi.seqF ?_ ?_); focus decide) | ((with_reducible refine Bi.snF ?_ ?_); focus exact rfl) | ((with_reducible refine Bi.snT ?_ ?_); focus decide) | ((with_reducible refine Bi.cmp true ?_ ?_); focus (simp only [cmpB, List.length_cons, List.length_nil, Nat.reduceAdd, Int.natCast_one, Int.natCast_zero, Int.cast_ofNat_Int, Int.reduceLT, Int.reduceLE, Int.reduceEq, Int.reduceNe, ne_eq, not_true_eq_false, not_false_eq_true, decide_true, decide_false]; done)) | ((with_reducible refine Bi.cmp false ?_ ?_); focus (simp only [cmpB, List.length_cons, List.length_nil, Nat.reduceAdd, Int.natCast_one, Int.natCast_zero, Int.cast_ofNat_Int, Int.reduceLT, Int.reduceLE, Int.reduceEq, Int.reduceNe, ne_eq, not_true_eq_false, not_false_eq_true, decide_true, decide_false]; done)) | (with_reducible refine LnL.nil ?_)))
      exact ⟨_, _, rfl, rfl, rfl, qv', E⟩
  · rintro r w' ⟨t, e, rfl, rfl, rfl, h⟩
    exact ⟨rfl, h⟩
theorem pc_ok {h : Int} {m : Int} (hne : fT ≠ fF) (hh : aget O (i64 h) = some (.agg #[ptr fF, i64 m])) (ho : ∀ p ∈ adel O (i64 h), ∃ m, p.2 = .agg #[ptr fT, i64 m])
    (E : Hs w0 F w (PS j pb pp xF xT d rt fm om fF fT M O pF pT nF nT o qv false ql l)) :
    Ca PP Fn.device_Device_Close #[ptr d, i64 h] w fun r w' => r = i64 0 ∧ Hs w0 F w' (PS j pb pp xF xT d rt fm om fF fT M (adel O (i64 h)) pF pT nF nT o qv true ql l) := by
  (replace E := (E.bMp om))
  refine (DClose_ok (Q := fun w' => Hs w0 F w' (PS j pb pp xF xT d rt fm om fF fT M (adel O (i64 h)) pF pT nF nT o qv true ql l)) E (by (first | assumption | exact FPt.mem | exact FMp.mem | exact FSl.mem | (repeat (first | assumption | with_reducible exact List.mem_cons_self | refine List.mem_cons_of_mem _ ?_)))) hh (by (first | assumption | exact FPt.mem | exact FMp.mem | exact FSl.mem | (repeat (first | assumption | with_reducible exact List.mem_cons_self | refine List.mem_cons_of_mem _ ?_)))) rfl ⟨_, _, _, rfl⟩ ?_ ?_).mono fun r w' h => h
  · intro p hp
    obtain ⟨m, hm⟩ := ho p hp
    exact ⟨fT, _, m, hm, hne, by (first | assumption | exact FPt.mem | exact FMp.mem | exact FSl.mem | (repeat (first | assumption | with_reducible exact List.mem_cons_self | refine List.mem_cons_of_mem _ ?_)))⟩
  · clear E
    intro w_ E
    refine CaV.mk b_p3 ?_
    refine S.device_Pipe_3.calls (a0 := ptr pp) (a1 := ptr xF) ?_
    unfold S.device_Pipe_3
    (repeat (first | (with_reducible refine Stp.go ?_) | (with_reducible refine StpE.go E ?_) | (with_reducible refine StpW.go E ?_; clear E; intro w_ E) | (with_reducible refine StpA.go E ?_; clear E; intro b_ w_ hb_ E) | ((with_reducible refine Bi.seqT ?_ ?_); focus exact rfl) | ((with_reducible refine Bi.seqF ?_ ?_); focus decide) | ((with_reducible refine Bi.snF ?_ ?_); focus exact rfl) | ((with_reducible refine Bi.snT ?_ ?_); focus decide) | ((with_reducible refine Bi.cmp true ?_ ?_); focus (simp only [cmpB, List.length_cons, List.length_nil, Nat.reduceAdd, Int.natCast_one, Int.natCast_zero, Int.cast_ofNat_Int, Int.reduceLT, Int.reduceLE, Int.reduceEq, Int.reduceNe, ne_eq, not_true_eq_false, not_false_eq_true, decide_true, decide_false]; done)) | ((with_reducible refine Bi.cmp false ?_ ?_); focus (simp only [cmpB, List.length_cons, List.length_nil, Nat.reduceAdd, Int.natCast_one, Int.natCast_zero, Int.cast_ofNat_Int, Int.reduceLT, Int.reduceLE, Int.reduceEq, Int.reduceNe, ne_eq, not_true_eq_false, not_false_eq_true, decide_true, decide_false]; done)) | (with_reducible refine LnL.nil ?_)))
    (replace E := (E.bPt pb))
    refine (Close_p E).mono ?_
    clear E
    rintro r w_ ⟨rfl, E⟩
    (replace E := ((((((((E.bIx 1).bIx 7).bIx 7).bIx 7).bIx 7).bIx 7).bIx 7).bIx 7))
    exact E
end Go.Proofs.YtdhieaifhlikpaaDoor
