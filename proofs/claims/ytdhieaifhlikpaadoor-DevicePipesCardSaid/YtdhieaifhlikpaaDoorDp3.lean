/-
  DevicePipes: the device over a pipe: its making, what its files do, the close of a file.
-/
import Derived.Test.YtdhieaifhlikpaaDoorDp2
import Derived.Test.YtdhieaifhlikpaaDoorDv7
namespace Go.Proofs.YtdhieaifhlikpaaDoor
open Go Go.Sh
set_option maxRecDepth 100000
set_option linter.unusedVariables false
set_option linter.unusedSimpArgs false
variable {w0 w : World} {F : Nat → Prop} {l : List As} {pb : Nat} {qv : Value} {cl rd j : Bool} {ql : List ByteArray} {n : Int} {s : ByteArray}

theorem b_settle : hasBody PP Fn.stream_Pipe_settle = true := by kernel_rfl
/-- An operation at once. -/
theorem once_ok (hn : 0 ≤ n) (hs : s.size ≤ 8192) (ht : tot ql < 1048576) (hl : ql.length < 1000000000) (hc : cl = true → rd = true) (hn0 : rd = true → n ≠ 0) (hr : rd = true → ql = [] ∧ cl = true ∨ ∃ x r, ql = x :: r ∧ (x.size : Int) ≤ n)
    (E : Hs w0 F w (pt pb (pip j qv cl) :: slA qv Ty.string 1 (ql.map str) :: l)) :
    Ca PP Fn.stream_Pipe_once #[ptr pb, opV (kd rd) (ei (en rd j)) n s] w fun r w' =>
      r = .tuple (if rd = true ∧ ql = [] then #[i64 0, str ⟨#[]⟩, i64 28] else #[i64 (doF rd n s ql).1, str (doF rd n s ql).2.1, i64 0]) ∧
      ∃ qv', Hs w0 F w' (pt pb (pip j qv' cl) :: slA qv' Ty.string 1 ((doF rd n s ql).2.2.map str) :: l) := by
  refine S.stream_Pipe_once.calls ?_
  unfold S.stream_Pipe_once
  (repeat (first | (with_reducible refine Stp.go ?_) | (with_reducible refine StpE.go E ?_) | (with_reducible refine StpW.go E ?_; clear E; intro w_ E) | (with_reducible refine StpA.go E ?_; clear E; intro b_ w_ hb_ E) | ((with_reducible refine Bi.seqT ?_ ?_); focus exact rfl) | ((with_reducible refine Bi.seqF ?_ ?_); focus decide) | ((with_reducible refine Bi.snF ?_ ?_); focus exact rfl) | ((with_reducible refine Bi.snT ?_ ?_); focus decide) | ((with_reducible refine Bi.cmp true ?_ ?_); focus (simp only [cmpB, List.length_cons, List.length_nil, Nat.reduceAdd, Int.natCast_one, Int.natCast_zero, Int.cast_ofNat_Int, Int.reduceLT, Int.reduceLE, Int.reduceEq, Int.reduceNe, ne_eq, not_true_eq_false, not_false_eq_true, decide_true, decide_false]; done)) | ((with_reducible refine Bi.cmp false ?_ ?_); focus (simp only [cmpB, List.length_cons, List.length_nil, Nat.reduceAdd, Int.natCast_one, Int.natCast_zero, Int.cast_ofNat_Int, Int.reduceLT, Int.reduceLE, Int.reduceEq, Int.reduceNe, ne_eq, not_true_eq_false, not_false_eq_true, decide_true, decide_false]; done)) | (with_reducible refine LnL.nil ?_)))
  replace E := (E.bIx 2).bIx 2
  refine (check_ok hn hs (by omega) hl E).mono ?_
  clear E
  rintro r w_ ⟨rfl, E⟩
  by_cases he : rd = true ∧ ql = []
  · obtain ⟨rfl, rfl⟩ := he
    obtain rfl : cl = true := by
      rcases hr rfl with ⟨_, h⟩ | ⟨x, r, h, _⟩
      · exact h
      · cases h
    rw [show chkF true true [] = 28 from rfl]
    (repeat (first | (with_reducible refine Stp.go ?_) | (with_reducible refine StpE.go E ?_) | (with_reducible refine StpW.go E ?_; clear E; intro w_ E) | (with_reducible refine StpA.go E ?_; clear E; intro b_ w_ hb_ E) | ((with_reducible refine Bi.seqT ?_ ?_); focus exact rfl) | ((with_reducible refine Bi.seqF ?_ ?_); focus decide) | ((with_reducible refine Bi.snF ?_ ?_); focus exact rfl) | ((with_reducible refine Bi.snT ?_ ?_); focus decide) | ((with_reducible refine Bi.cmp true ?_ ?_); focus (simp only [cmpB, List.length_cons, List.length_nil, Nat.reduceAdd, Int.natCast_one, Int.natCast_zero, Int.cast_ofNat_Int, Int.reduceLT, Int.reduceLE, Int.reduceEq, Int.reduceNe, ne_eq, not_true_eq_false, not_false_eq_true, decide_true, decide_false]; done)) | ((with_reducible refine Bi.cmp false ?_ ?_); focus (simp only [cmpB, List.length_cons, List.length_nil, Nat.reduceAdd, Int.natCast_one, Int.natCast_zero, Int.cast_ofNat_Int, Int.reduceLT, Int.reduceLE, Int.reduceEq, Int.reduceNe, ne_eq, not_true_eq_false, not_false_eq_true, decide_true, decide_false]; done)) | (with_reducible refine LnL.nil ?_)))
    exact ⟨by simp, qv, by simpa [doF] using E.bIx 2 |>.tl⟩
  · rw [if_neg he]
    have h0 : chkF rd cl ql = 0 := by
      unfold chkF
      rw [if_neg]
      intro h
      simp only [Bool.and_eq_true, Bool.or_eq_true, Bool.not_eq_true'] at h
      rcases h.2 with h2 | h2
      · rw [hc h.1] at h2; cases h2
      · exact he ⟨hc h.1, by simpa using h2⟩
    rw [h0]
    (repeat (first | (with_reducible refine Stp.go ?_) | (with_reducible refine StpE.go E ?_) | (with_reducible refine StpW.go E ?_; clear E; intro w_ E) | (with_reducible refine StpA.go E ?_; clear E; intro b_ w_ hb_ E) | ((with_reducible refine Bi.seqT ?_ ?_); focus exact rfl) | ((with_reducible refine Bi.seqF ?_ ?_); focus decide) | ((with_reducible refine Bi.snF ?_ ?_); focus exact rfl) | ((with_reducible refine Bi.snT ?_ ?_); focus decide) | ((with_reducible refine Bi.cmp true ?_ ?_); focus (simp only [cmpB, List.length_cons, List.length_nil, Nat.reduceAdd, Int.natCast_one, Int.natCast_zero, Int.cast_ofNat_Int, Int.reduceLT, Int.reduceLE, Int.reduceEq, Int.reduceNe, ne_eq, not_true_eq_false, not_false_eq_true, decide_true, decide_false]; done)) | ((with_reducible refine Bi.cmp false ?_ ?_); focus (simp only [cmpB, List.length_cons, List.length_nil, Nat.reduceAdd, Int.natCast_one, Int.natCast_zero, Int.cast_ofNat_Int, Int.reduceLT, Int.reduceLE, Int.reduceEq, Int.reduceNe, ne_eq, not_true_eq_false, not_false_eq_true, decide_true, decide_false]; done)) | (with_reducible refine LnL.nil ?_)))
    refine (waits_ok (fun h h2 => he ⟨h, h2⟩) ht hl E).mono ?_
    clear E
    rintro r w_ ⟨rfl, E⟩
    (repeat (first | (with_reducible refine Stp.go ?_) | (with_reducible refine StpE.go E ?_) | (with_reducible refine StpW.go E ?_; clear E; intro w_ E) | (with_reducible refine StpA.go E ?_; clear E; intro b_ w_ hb_ E) | ((with_reducible refine Bi.seqT ?_ ?_); focus exact rfl) | ((with_reducible refine Bi.seqF ?_ ?_); focus decide) | ((with_reducible refine Bi.snF ?_ ?_); focus exact rfl) | ((with_reducible refine Bi.snT ?_ ?_); focus decide) | ((with_reducible refine Bi.cmp true ?_ ?_); focus (simp only [cmpB, List.length_cons, List.length_nil, Nat.reduceAdd, Int.natCast_one, Int.natCast_zero, Int.cast_ofNat_Int, Int.reduceLT, Int.reduceLE, Int.reduceEq, Int.reduceNe, ne_eq, not_true_eq_false, not_false_eq_true, decide_true, decide_false]; done)) | ((with_reducible refine Bi.cmp false ?_ ?_); focus (simp only [cmpB, List.length_cons, List.length_nil, Nat.reduceAdd, Int.natCast_one, Int.natCast_zero, Int.cast_ofNat_Int, Int.reduceLT, Int.reduceLE, Int.reduceEq, Int.reduceNe, ne_eq, not_true_eq_false, not_false_eq_true, decide_true, decide_false]; done)) | (with_reducible refine LnL.nil ?_)))
    refine (do_ok hn0 (fun h => (hr h).resolve_left fun hh => he ⟨h, hh.1⟩) hl E).mono ?_
    clear E
    rintro r w_ ⟨rfl, qv', E⟩
    (repeat (first | (with_reducible refine Stp.go ?_) | (with_reducible refine StpE.go E ?_) | (with_reducible refine StpW.go E ?_; clear E; intro w_ E) | (with_reducible refine StpA.go E ?_; clear E; intro b_ w_ hb_ E) | ((with_reducible refine Bi.seqT ?_ ?_); focus exact rfl) | ((with_reducible refine Bi.seqF ?_ ?_); focus decide) | ((with_reducible refine Bi.snF ?_ ?_); focus exact rfl) | ((with_reducible refine Bi.snT ?_ ?_); focus decide) | ((with_reducible refine Bi.cmp true ?_ ?_); focus (simp only [cmpB, List.length_cons, List.length_nil, Nat.reduceAdd, Int.natCast_one, Int.natCast_zero, Int.cast_ofNat_Int, Int.reduceLT, Int.reduceLE, Int.reduceEq, Int.reduceNe, ne_eq, not_true_eq_false, not_false_eq_true, decide_true, decide_false]; done)) | ((with_reducible refine Bi.cmp false ?_ ?_); focus (simp only [cmpB, List.length_cons, List.length_nil, Nat.reduceAdd, Int.natCast_one, Int.natCast_zero, Int.cast_ofNat_Int, Int.reduceLT, Int.reduceLE, Int.reduceEq, Int.reduceNe, ne_eq, not_true_eq_false, not_false_eq_true, decide_true, decide_false]; done)) | (with_reducible refine LnL.nil ?_)))
    refine ⟨b_settle, ?_⟩
    refine CaD.mono (S.stream_Pipe_settle.callsD (settle_S E)) ?_
    clear E
    rintro w_ ⟨v, -, E⟩
    (repeat (first | (with_reducible refine Stp.go ?_) | (with_reducible refine StpE.go E ?_) | (with_reducible refine StpW.go E ?_; clear E; intro w_ E) | (with_reducible refine StpA.go E ?_; clear E; intro b_ w_ hb_ E) | ((with_reducible refine Bi.seqT ?_ ?_); focus exact rfl) | ((with_reducible refine Bi.seqF ?_ ?_); focus decide) | ((with_reducible refine Bi.snF ?_ ?_); focus exact rfl) | ((with_reducible refine Bi.snT ?_ ?_); focus decide) | ((with_reducible refine Bi.cmp true ?_ ?_); focus (simp only [cmpB, List.length_cons, List.length_nil, Nat.reduceAdd, Int.natCast_one, Int.natCast_zero, Int.cast_ofNat_Int, Int.reduceLT, Int.reduceLE, Int.reduceEq, Int.reduceNe, ne_eq, not_true_eq_false, not_false_eq_true, decide_true, decide_false]; done)) | ((with_reducible refine Bi.cmp false ?_ ?_); focus (simp only [cmpB, List.length_cons, List.length_nil, Nat.reduceAdd, Int.natCast_one, Int.natCast_zero, Int.cast_ofNat_Int, Int.reduceLT, Int.reduceLE, Int.reduceEq, Int.reduceNe, ne_eq, not_true_eq_false, not_false_eq_true, decide_true, decide_false]; done)) | (with_reducible refine LnL.nil ?_)))
    exact ⟨rfl, qv', E.bIx 2 |>.tl⟩

theorem Write_p (hs : s.size ≤ 8192) (ht : tot ql < 1048576) (hl : ql.length < 1000000000) (E : Hs w0 F w (pt pb (pip j qv false) :: slA qv Ty.string 1 (ql.map str) :: l)) :
    Ca PP Fn.stream_Pipe_Write #[ptr pb, i64 (ei (!j)), str s] w fun r w' => (∃ k, r = .tuple #[i64 k, i64 0]) ∧ ∃ qv', Hs w0 F w' (pt pb (pip j qv' false) :: slA qv' Ty.string 1 ((if s = ⟨#[]⟩ then ql else ql ++ [s]).map str) :: l) := by
  refine S.stream_Pipe_Write.calls ?_
  unfold S.stream_Pipe_Write
  (repeat (first | (with_reducible refine Stp.go ?_) | (with_reducible refine StpE.go E ?_) | (with_reducible refine StpW.go E ?_; clear E; intro w_ E) | (with_reducible refine StpA.go E ?_; clear E; intro b_ w_ hb_ E) | ((with_reducible refine Bi.seqT ?_ ?_); focus exact rfl) | ((with_reducible refine Bi.seqF ?_ ?_); focus decide) | ((with_reducible refine Bi.snF ?_ ?_); focus exact rfl) | ((with_reducible refine Bi.snT ?_ ?_); focus decide) | ((with_reducible refine Bi.cmp true ?_ ?_); focus (simp only [cmpB, List.length_cons, List.length_nil, Nat.reduceAdd, Int.natCast_one, Int.natCast_zero, Int.cast_ofNat_Int, Int.reduceLT, Int.reduceLE, Int.reduceEq, Int.reduceNe, ne_eq, not_true_eq_false, not_false_eq_true, decide_true, decide_false]; done)) | ((with_reducible refine Bi.cmp false ?_ ?_); focus (simp only [cmpB, List.length_cons, List.length_nil, Nat.reduceAdd, Int.natCast_one, Int.natCast_zero, Int.cast_ofNat_Int, Int.reduceLT, Int.reduceLE, Int.reduceEq, Int.reduceNe, ne_eq, not_true_eq_false, not_false_eq_true, decide_true, decide_false]; done)) | (with_reducible refine LnL.nil ?_)))
  refine (once_ok (rd := false) (j := j) (n := 0) (by omega) hs ht hl (fun h => by cases h) (fun h => by cases h) (fun h => by cases h) E).mono ?_
  clear E
  rintro r w_ ⟨rfl, qv', E⟩
  rw [if_neg (by simp)]
  (repeat (first | (with_reducible refine Stp.go ?_) | (with_reducible refine StpE.go E ?_) | (with_reducible refine StpW.go E ?_; clear E; intro w_ E) | (with_reducible refine StpA.go E ?_; clear E; intro b_ w_ hb_ E) | ((with_reducible refine Bi.seqT ?_ ?_); focus exact rfl) | ((with_reducible refine Bi.seqF ?_ ?_); focus decide) | ((with_reducible refine Bi.snF ?_ ?_); focus exact rfl) | ((with_reducible refine Bi.snT ?_ ?_); focus decide) | ((with_reducible refine Bi.cmp true ?_ ?_); focus (simp only [cmpB, List.length_cons, List.length_nil, Nat.reduceAdd, Int.natCast_one, Int.natCast_zero, Int.cast_ofNat_Int, Int.reduceLT, Int.reduceLE, Int.reduceEq, Int.reduceNe, ne_eq, not_true_eq_false, not_false_eq_true, decide_true, decide_false]; done)) | ((with_reducible refine Bi.cmp false ?_ ?_); focus (simp only [cmpB, List.length_cons, List.length_nil, Nat.reduceAdd, Int.natCast_one, Int.natCast_zero, Int.cast_ofNat_Int, Int.reduceLT, Int.reduceLE, Int.reduceEq, Int.reduceNe, ne_eq, not_true_eq_false, not_false_eq_true, decide_true, decide_false]; done)) | (with_reducible refine LnL.nil ?_)))
  refine ⟨⟨_, rfl⟩, qv', ?_⟩
  have : (doF false 0 s ql).2.2 = if s = ⟨#[]⟩ then ql else ql ++ [s] := by simp only [doF, Bool.false_eq_true, if_false]; split <;> rfl
  rw [this] at E; exact E
theorem Read_p (hn : 0 < n) (ht : tot ql < 1048576) (hl : ql.length < 1000000000) (hr : ql = [] ∧ cl = true ∨ ∃ x r, ql = x :: r ∧ (x.size : Int) ≤ n) (E : Hs w0 F w (pt pb (pip j qv cl) :: slA qv Ty.string 1 (ql.map str) :: l)) :
    Ca PP Fn.stream_Pipe_Read #[ptr pb, i64 (ei j), i64 n] w fun r w' => r = .tuple #[str (ql.headD ⟨#[]⟩), i64 (if ql = [] then 28 else 0)] ∧ ∃ qv', Hs w0 F w' (pt pb (pip j qv' cl) :: slA qv' Ty.string 1 (ql.tail.map str) :: l) := by
  refine S.stream_Pipe_Read.calls ?_
  unfold S.stream_Pipe_Read
  (repeat (first | (with_reducible refine Stp.go ?_) | (with_reducible refine StpE.go E ?_) | (with_reducible refine StpW.go E ?_; clear E; intro w_ E) | (with_reducible refine StpA.go E ?_; clear E; intro b_ w_ hb_ E) | ((with_reducible refine Bi.seqT ?_ ?_); focus exact rfl) | ((with_reducible refine Bi.seqF ?_ ?_); focus decide) | ((with_reducible refine Bi.snF ?_ ?_); focus exact rfl) | ((with_reducible refine Bi.snT ?_ ?_); focus decide) | ((with_reducible refine Bi.cmp true ?_ ?_); focus (simp only [cmpB, List.length_cons, List.length_nil, Nat.reduceAdd, Int.natCast_one, Int.natCast_zero, Int.cast_ofNat_Int, Int.reduceLT, Int.reduceLE, Int.reduceEq, Int.reduceNe, ne_eq, not_true_eq_false, not_false_eq_true, decide_true, decide_false]; done)) | ((with_reducible refine Bi.cmp false ?_ ?_); focus (simp only [cmpB, List.length_cons, List.length_nil, Nat.reduceAdd, Int.natCast_one, Int.natCast_zero, Int.cast_ofNat_Int, Int.reduceLT, Int.reduceLE, Int.reduceEq, Int.reduceNe, ne_eq, not_true_eq_false, not_false_eq_true, decide_true, decide_false]; done)) | (with_reducible refine LnL.nil ?_)))
  refine (once_ok (rd := true) (j := j) (n := n) (s := ⟨#[]⟩) (by omega) (Nat.zero_le _) ht hl (fun _ => rfl) (fun _ => by omega) (fun _ => hr) E).mono ?_
  clear E
  rintro r w_ ⟨rfl, qv', E⟩
  by_cases h : ql = []
  · subst h
    rw [if_pos ⟨rfl, rfl⟩]
    (repeat (first | (with_reducible refine Stp.go ?_) | (with_reducible refine StpE.go E ?_) | (with_reducible refine StpW.go E ?_; clear E; intro w_ E) | (with_reducible refine StpA.go E ?_; clear E; intro b_ w_ hb_ E) | ((with_reducible refine Bi.seqT ?_ ?_); focus exact rfl) | ((with_reducible refine Bi.seqF ?_ ?_); focus decide) | ((with_reducible refine Bi.snF ?_ ?_); focus exact rfl) | ((with_reducible refine Bi.snT ?_ ?_); focus decide) | ((with_reducible refine Bi.cmp true ?_ ?_); focus (simp only [cmpB, List.length_cons, List.length_nil, Nat.reduceAdd, Int.natCast_one, Int.natCast_zero, Int.cast_ofNat_Int, Int.reduceLT, Int.reduceLE, Int.reduceEq, Int.reduceNe, ne_eq, not_true_eq_false, not_false_eq_true, decide_true, decide_false]; done)) | ((with_reducible refine Bi.cmp false ?_ ?_); focus (simp only [cmpB, List.length_cons, List.length_nil, Nat.reduceAdd, Int.natCast_one, Int.natCast_zero, Int.cast_ofNat_Int, Int.reduceLT, Int.reduceLE, Int.reduceEq, Int.reduceNe, ne_eq, not_true_eq_false, not_false_eq_true, decide_true, decide_false]; done)) | (with_reducible refine LnL.nil ?_)))
    exact ⟨rfl, qv', E⟩
  · rw [if_neg (fun hh => h hh.2), if_neg h]
    (repeat (first | (with_reducible refine Stp.go ?_) | (with_reducible refine StpE.go E ?_) | (with_reducible refine StpW.go E ?_; clear E; intro w_ E) | (with_reducible refine StpA.go E ?_; clear E; intro b_ w_ hb_ E) | ((with_reducible refine Bi.seqT ?_ ?_); focus exact rfl) | ((with_reducible refine Bi.seqF ?_ ?_); focus decide) | ((with_reducible refine Bi.snF ?_ ?_); focus exact rfl) | ((with_reducible refine Bi.snT ?_ ?_); focus decide) | ((with_reducible refine Bi.cmp true ?_ ?_); focus (simp only [cmpB, List.length_cons, List.length_nil, Nat.reduceAdd, Int.natCast_one, Int.natCast_zero, Int.cast_ofNat_Int, Int.reduceLT, Int.reduceLE, Int.reduceEq, Int.reduceNe, ne_eq, not_true_eq_false, not_false_eq_true, decide_true, decide_false]; done)) | ((with_reducible refine Bi.cmp false ?_ ?_); focus (simp only [cmpB, List.length_cons, List.length_nil, Nat.reduceAdd, Int.natCast_one, Int.natCast_zero, Int.cast_ofNat_Int, Int.reduceLT, Int.reduceLE, Int.reduceEq, Int.reduceNe, ne_eq, not_true_eq_false, not_false_eq_true, decide_true, decide_false]; done)) | (with_reducible refine LnL.nil ?_)))
    exact ⟨rfl, qv', E⟩
theorem Close_p (E : Hs w0 F w (pt pb (pip j qv false) :: l)) : Ca PP Fn.stream_Pipe_Close #[ptr pb, i64 (ei (!j))] w fun r w' => r = i64 0 ∧ Hs w0 F w' (pt pb (pip j qv true) :: l) := by
  refine S.stream_Pipe_Close.calls ?_
  unfold S.stream_Pipe_Close
  refine Ca.mono (show Ca _ _ _ _ (fun r w' => r = i64 0 ∧ w' = w) from ?_) ?_
  · refine S.stream_Pipe_opened.calls ?_
    unfold S.stream_Pipe_opened
    refine Eq.e u_p_pipe rfl ?_
    (repeat (first | (with_reducible refine Stp.go ?_) | (with_reducible refine StpE.go E ?_) | (with_reducible refine StpW.go E ?_; clear E; intro w_ E) | (with_reducible refine StpA.go E ?_; clear E; intro b_ w_ hb_ E) | ((with_reducible refine Bi.seqT ?_ ?_); focus exact rfl) | ((with_reducible refine Bi.seqF ?_ ?_); focus decide) | ((with_reducible refine Bi.snF ?_ ?_); focus exact rfl) | ((with_reducible refine Bi.snT ?_ ?_); focus decide) | ((with_reducible refine Bi.cmp true ?_ ?_); focus (simp only [cmpB, List.length_cons, List.length_nil, Nat.reduceAdd, Int.natCast_one, Int.natCast_zero, Int.cast_ofNat_Int, Int.reduceLT, Int.reduceLE, Int.reduceEq, Int.reduceNe, ne_eq, not_true_eq_false, not_false_eq_true, decide_true, decide_false]; done)) | ((with_reducible refine Bi.cmp false ?_ ?_); focus (simp only [cmpB, List.length_cons, List.length_nil, Nat.reduceAdd, Int.natCast_one, Int.natCast_zero, Int.cast_ofNat_Int, Int.reduceLT, Int.reduceLE, Int.reduceEq, Int.reduceNe, ne_eq, not_true_eq_false, not_false_eq_true, decide_true, decide_false]; done)) | (with_reducible refine LnL.nil ?_)))
    refine isEnd_ok.mono ?_
    rintro r w_ ⟨rfl, rfl⟩
    (repeat (first | (with_reducible refine Stp.go ?_) | (with_reducible refine StpE.go E ?_) | (with_reducible refine StpW.go E ?_; clear E; intro w_ E) | (with_reducible refine StpA.go E ?_; clear E; intro b_ w_ hb_ E) | ((with_reducible refine Bi.seqT ?_ ?_); focus exact rfl) | ((with_reducible refine Bi.seqF ?_ ?_); focus decide) | ((with_reducible refine Bi.snF ?_ ?_); focus exact rfl) | ((with_reducible refine Bi.snT ?_ ?_); focus decide) | ((with_reducible refine Bi.cmp true ?_ ?_); focus (simp only [cmpB, List.length_cons, List.length_nil, Nat.reduceAdd, Int.natCast_one, Int.natCast_zero, Int.cast_ofNat_Int, Int.reduceLT, Int.reduceLE, Int.reduceEq, Int.reduceNe, ne_eq, not_true_eq_false, not_false_eq_true, decide_true, decide_false]; done)) | ((with_reducible refine Bi.cmp false ?_ ?_); focus (simp only [cmpB, List.length_cons, List.length_nil, Nat.reduceAdd, Int.natCast_one, Int.natCast_zero, Int.cast_ofNat_Int, Int.reduceLT, Int.reduceLE, Int.reduceEq, Int.reduceNe, ne_eq, not_true_eq_false, not_false_eq_true, decide_true, decide_false]; done)) | (with_reducible refine LnL.nil ?_)))
    exact ⟨rfl, rfl⟩
  rintro r w_ ⟨rfl, rfl⟩
  (repeat (first | (with_reducible refine Stp.go ?_) | (with_reducible refine StpE.go E ?_) | (with_reducible refine StpW.go E ?_; clear E; intro w_ E) | (with_reducible refine StpA.go E ?_; clear E; intro b_ w_ hb_ E) | ((with_reducible refine Bi.seqT ?_ ?_); focus exact rfl) | ((with_reducible refine Bi.seqF ?_ ?_); focus decide) | ((with_reducible refine Bi.snF ?_ ?_); focus exact rfl) | ((with_reducible refine Bi.snT ?_ ?_); focus decide) | ((with_reducible refine Bi.cmp true ?_ ?_); focus (simp only [cmpB, List.length_cons, List.length_nil, Nat.reduceAdd, Int.natCast_one, Int.natCast_zero, Int.cast_ofNat_Int, Int.reduceLT, Int.reduceLE, Int.reduceEq, Int.reduceNe, ne_eq, not_true_eq_false, not_false_eq_true, decide_true, decide_false]; done)) | ((with_reducible refine Bi.cmp false ?_ ?_); focus (simp only [cmpB, List.length_cons, List.length_nil, Nat.reduceAdd, Int.natCast_one, Int.natCast_zero, Int.cast_ofNat_Int, Int.reduceLT, Int.reduceLE, Int.reduceEq, Int.reduceNe, ne_eq, not_true_eq_false, not_false_eq_true, decide_true, decide_false]; done)) | (with_reducible refine LnL.nil ?_)))
  refine ⟨fun l1 w1 => l1 = [i64 0] ∧ w1 = w_, fun _ _ => 0, ⟨rfl, rfl⟩, ?_⟩
  rintro t u w1 ⟨h, rfl⟩
  cases h
  (repeat (first | (with_reducible refine Stp.go ?_) | (with_reducible refine StpE.go E ?_) | (with_reducible refine StpW.go E ?_; clear E; intro w_ E) | (with_reducible refine StpA.go E ?_; clear E; intro b_ w_ hb_ E) | ((with_reducible refine Bi.seqT ?_ ?_); focus exact rfl) | ((with_reducible refine Bi.seqF ?_ ?_); focus decide) | ((with_reducible refine Bi.snF ?_ ?_); focus exact rfl) | ((with_reducible refine Bi.snT ?_ ?_); focus decide) | ((with_reducible refine Bi.cmp true ?_ ?_); focus (simp only [cmpB, List.length_cons, List.length_nil, Nat.reduceAdd, Int.natCast_one, Int.natCast_zero, Int.cast_ofNat_Int, Int.reduceLT, Int.reduceLE, Int.reduceEq, Int.reduceNe, ne_eq, not_true_eq_false, not_false_eq_true, decide_true, decide_false]; done)) | ((with_reducible refine Bi.cmp false ?_ ?_); focus (simp only [cmpB, List.length_cons, List.length_nil, Nat.reduceAdd, Int.natCast_one, Int.natCast_zero, Int.cast_ofNat_Int, Int.reduceLT, Int.reduceLE, Int.reduceEq, Int.reduceNe, ne_eq, not_true_eq_false, not_false_eq_true, decide_true, decide_false]; done)) | (with_reducible refine LnL.nil ?_)))
  exact ⟨rfl, E⟩
end Go.Proofs.YtdhieaifhlikpaaDoor
