/-
  DevicePipes: the functions of package stream at work at one queue of a pipe where nothing waits.
-/
import Derived.Test.YtdhieaifhlikpaaDoorDv3
import Derived.Test.YtdhieaifhlikpaaDoorSh12
namespace Go.Proofs.YtdhieaifhlikpaaDoor
open Go Go.Sh
set_option maxRecDepth 100000
set_option linter.unusedVariables false
set_option linter.unusedSimpArgs false
variable {w0 : World} {F : Nat → Prop} {l : List As} {pb : Nat} {qv : Value} {cl : Bool} {ql : List ByteArray}

theorem u_p_pipe : PP.underlying Ty.p_stream_Pipe = some (.pointer Ty.stream_Pipe) := by kernel_rfl
/-- The pipe: queue j is in use, the other end's is empty; 'cl': the other end is closed. -/
def pipC (j : Bool) (qv : Value) (cl : Bool) : List Value :=
  match j with
  | false => [qv, .bool false, .slice none 0 0, .bool cl, i64 1048576, i64 0, .slice none 0 0, .slice none 0 0]
  | true => [.slice none 0 0, .bool cl, qv, .bool false, i64 1048576, i64 0, .slice none 0 0, .slice none 0 0]
abbrev pip (j : Bool) (qv : Value) (cl : Bool) : Obj := oc (pipC j qv cl) Ty.stream_Pipe
def ei : Bool → Int
  | false => 0
  | true => 1
def qOff : Bool → Nat
  | false => 0
  | true => 2
instance {j : Bool} : Nth (pipC j qv cl) (qOff j) qv := ⟨by cases j <;> rfl⟩
instance {j : Bool} : Nth (pipC j qv cl) (qOff j + 1) (.bool false) := ⟨by cases j <;> rfl⟩
instance {j : Bool} : Nth (pipC j qv cl) (qOff (!j) + 1) (.bool cl) := ⟨by cases j <;> rfl⟩
instance {j : Bool} : Nth (pipC j qv cl) 4 (i64 1048576) := ⟨by cases j <;> rfl⟩
instance {j : Bool} : Nth (pipC j qv cl) 6 (.slice none 0 0) := ⟨by cases j <;> rfl⟩
instance {j : Bool} : Nth (pipC j qv cl) 7 (.slice none 0 0) := ⟨by cases j <;> rfl⟩
instance {j : Bool} {v : Value} : SetN (pipC j qv cl) (qOff j) v (pipC j v cl) := ⟨by cases j <;> rfl, by cases j <;> exact Nat.le_of_ble_eq_true rfl⟩
instance {j : Bool} : SetN (pipC j qv cl) 6 (.slice none 0 0) (pipC j qv cl) := ⟨by cases j <;> rfl, by cases j <;> exact Nat.le_of_ble_eq_true rfl⟩
instance {j : Bool} : SetL (pipC j qv cl) (qOff (!j)) [.slice none 0 0, .bool true] (pipC j qv true) := ⟨by cases j <;> rfl, .inr (by cases j <;> exact Nat.le_of_ble_eq_true rfl)⟩
instance {b : Nat} {j : Bool} {k : Value → Prop} : Stp (IxP 2 2 (.pointer (some ⟨b, 0, none⟩)) (.int .i64 (ei j)) k) (k (.pointer (some ⟨b, qOff j, none⟩))) :=
  ⟨fun h => ⟨_, _, _, rfl, rfl, by cases j <;> decide, by cases j <;> decide, by rw [add_mk]; cases j <;> exact h⟩⟩
/-- An operation of kind k at end e: a read at end j, or a write at the other one. -/
abbrev opV (k e n : Int) (s : ByteArray) : Value := .agg #[i64 k, i64 e, i64 n, str s]
def kd (rd : Bool) : Int := ei (!rd)
def en (rd j : Bool) : Bool := if rd then j else !j
theorem xor_op (rd j : Bool) : binV .xor (i64 (ei (en rd j))) (i64 (kd rd)) = some (i64 (ei j)) := by cases rd <;> cases j <;> rfl
theorem kd_zero (rd : Bool) : binV .eql (i64 (kd rd)) (i64 0) = some (.bool rd) := by cases rd <;> rfl
theorem kd_one (rd : Bool) : binV .eql (i64 (kd rd)) (i64 1) = some (.bool (!rd)) := by cases rd <;> rfl
variable {w : World} {rd j : Bool} {n : Int} {s : ByteArray}
theorem queue_ok (E : Hs w0 F w l) : Ca PP Fn.stream_Pipe_queue #[ptr pb, opV (kd rd) (ei (en rd j)) n s] w fun r w' => r = .pointer (some ⟨pb, qOff j, none⟩) ∧ Hs w0 F w' l := by
  refine S.stream_Pipe_queue.calls ?_
  unfold S.stream_Pipe_queue
  (repeat (first | (with_reducible refine Stp.go ?_) | (with_reducible refine StpE.go E ?_) | (with_reducible refine StpW.go E ?_; clear E; intro w_ E) | (with_reducible refine StpA.go E ?_; clear E; intro b_ w_ hb_ E) | ((with_reducible refine Bi.seqT ?_ ?_); focus exact rfl) | ((with_reducible refine Bi.seqF ?_ ?_); focus decide) | ((with_reducible refine Bi.snF ?_ ?_); focus exact rfl) | ((with_reducible refine Bi.snT ?_ ?_); focus decide) | ((with_reducible refine Bi.cmp true ?_ ?_); focus (simp only [cmpB, List.length_cons, List.length_nil, Nat.reduceAdd, Int.natCast_one, Int.natCast_zero, Int.cast_ofNat_Int, Int.reduceLT, Int.reduceLE, Int.reduceEq, Int.reduceNe, ne_eq, not_true_eq_false, not_false_eq_true, decide_true, decide_false]; done)) | ((with_reducible refine Bi.cmp false ?_ ?_); focus (simp only [cmpB, List.length_cons, List.length_nil, Nat.reduceAdd, Int.natCast_one, Int.natCast_zero, Int.cast_ofNat_Int, Int.reduceLT, Int.reduceLE, Int.reduceEq, Int.reduceNe, ne_eq, not_true_eq_false, not_false_eq_true, decide_true, decide_false]; done)) | (with_reducible refine LnL.nil ?_)))
  refine Bi.mk (xor_op rd j) ?_
  (repeat (first | (with_reducible refine Stp.go ?_) | (with_reducible refine StpE.go E ?_) | (with_reducible refine StpW.go E ?_; clear E; intro w_ E) | (with_reducible refine StpA.go E ?_; clear E; intro b_ w_ hb_ E) | ((with_reducible refine Bi.seqT ?_ ?_); focus exact rfl) | ((with_reducible refine Bi.seqF ?_ ?_); focus decide) | ((with_reducible refine Bi.snF ?_ ?_); focus exact rfl) | ((with_reducible refine Bi.snT ?_ ?_); focus decide) | ((with_reducible refine Bi.cmp true ?_ ?_); focus (simp only [cmpB, List.length_cons, List.length_nil, Nat.reduceAdd, Int.natCast_one, Int.natCast_zero, Int.cast_ofNat_Int, Int.reduceLT, Int.reduceLE, Int.reduceEq, Int.reduceNe, ne_eq, not_true_eq_false, not_false_eq_true, decide_true, decide_false]; done)) | ((with_reducible refine Bi.cmp false ?_ ?_); focus (simp only [cmpB, List.length_cons, List.length_nil, Nat.reduceAdd, Int.natCast_one, Int.natCast_zero, Int.cast_ofNat_Int, Int.reduceLT, Int.reduceLE, Int.reduceEq, Int.reduceNe, ne_eq, not_true_eq_false, not_false_eq_true, decide_true, decide_false]; done)) | (with_reducible refine LnL.nil ?_)))
  exact ⟨rfl, E.tl⟩
theorem empty_ok (E : Hs w0 F w l) : Ca PP Fn.stream_Op_empty #[opV (kd rd) (ei (en rd j)) n s] w fun r w' => r = .bool (if rd then decide (n = 0) else decide (s = ⟨#[]⟩)) ∧ Hs w0 F w' l := by
  refine S.stream_Op_empty.calls ?_
  unfold S.stream_Op_empty
  (repeat (first | (with_reducible refine Stp.go ?_) | (with_reducible refine StpE.go E ?_) | (with_reducible refine StpW.go E ?_; clear E; intro w_ E) | (with_reducible refine StpA.go E ?_; clear E; intro b_ w_ hb_ E) | ((with_reducible refine Bi.seqT ?_ ?_); focus exact rfl) | ((with_reducible refine Bi.seqF ?_ ?_); focus decide) | ((with_reducible refine Bi.snF ?_ ?_); focus exact rfl) | ((with_reducible refine Bi.snT ?_ ?_); focus decide) | ((with_reducible refine Bi.cmp true ?_ ?_); focus (simp only [cmpB, List.length_cons, List.length_nil, Nat.reduceAdd, Int.natCast_one, Int.natCast_zero, Int.cast_ofNat_Int, Int.reduceLT, Int.reduceLE, Int.reduceEq, Int.reduceNe, ne_eq, not_true_eq_false, not_false_eq_true, decide_true, decide_false]; done)) | ((with_reducible refine Bi.cmp false ?_ ?_); focus (simp only [cmpB, List.length_cons, List.length_nil, Nat.reduceAdd, Int.natCast_one, Int.natCast_zero, Int.cast_ofNat_Int, Int.reduceLT, Int.reduceLE, Int.reduceEq, Int.reduceNe, ne_eq, not_true_eq_false, not_false_eq_true, decide_true, decide_false]; done)) | (with_reducible refine LnL.nil ?_)))
  refine Bi.mk (kd_zero rd) ?_
  cases rd <;> (repeat (first | (with_reducible refine Stp.go ?_) | (with_reducible refine StpE.go E ?_) | (with_reducible refine StpW.go E ?_; clear E; intro w_ E) | (with_reducible refine StpA.go E ?_; clear E; intro b_ w_ hb_ E) | ((with_reducible refine Bi.seqT ?_ ?_); focus exact rfl) | ((with_reducible refine Bi.seqF ?_ ?_); focus decide) | ((with_reducible refine Bi.snF ?_ ?_); focus exact rfl) | ((with_reducible refine Bi.snT ?_ ?_); focus decide) | ((with_reducible refine Bi.cmp true ?_ ?_); focus (simp only [cmpB, List.length_cons, List.length_nil, Nat.reduceAdd, Int.natCast_one, Int.natCast_zero, Int.cast_ofNat_Int, Int.reduceLT, Int.reduceLE, Int.reduceEq, Int.reduceNe, ne_eq, not_true_eq_false, not_false_eq_true, decide_true, decide_false]; done)) | ((with_reducible refine Bi.cmp false ?_ ?_); focus (simp only [cmpB, List.length_cons, List.length_nil, Nat.reduceAdd, Int.natCast_one, Int.natCast_zero, Int.cast_ofNat_Int, Int.reduceLT, Int.reduceLE, Int.reduceEq, Int.reduceNe, ne_eq, not_true_eq_false, not_false_eq_true, decide_true, decide_false]; done)) | (with_reducible refine LnL.nil ?_)))
  · refine Bi.seql ?_ ?_ <;> intro h
    · exact ⟨by simp [h], E.tl⟩
    · exact ⟨by simp [h], E.tl⟩
  · refine Bi.eql ?_ ?_ <;> intro h
    · exact ⟨by simp [h], E.tl⟩
    · exact ⟨by simp [h], E.tl⟩
theorem like_ok {k e : Int} (E : Hs w0 F w (pt pb (pip j qv cl) :: l)) : Ca PP Fn.stream_Pipe_like #[ptr pb, opV k e n s] w fun r w' => r = i64 0 ∧ Hs w0 F w' (pt pb (pip j qv cl) :: l) := by
  refine S.stream_Pipe_like.calls ?_
  unfold S.stream_Pipe_like
  (repeat (first | (with_reducible refine Stp.go ?_) | (with_reducible refine StpE.go E ?_) | (with_reducible refine StpW.go E ?_; clear E; intro w_ E) | (with_reducible refine StpA.go E ?_; clear E; intro b_ w_ hb_ E) | ((with_reducible refine Bi.seqT ?_ ?_); focus exact rfl) | ((with_reducible refine Bi.seqF ?_ ?_); focus decide) | ((with_reducible refine Bi.snF ?_ ?_); focus exact rfl) | ((with_reducible refine Bi.snT ?_ ?_); focus decide) | ((with_reducible refine Bi.cmp true ?_ ?_); focus (simp only [cmpB, List.length_cons, List.length_nil, Nat.reduceAdd, Int.natCast_one, Int.natCast_zero, Int.cast_ofNat_Int, Int.reduceLT, Int.reduceLE, Int.reduceEq, Int.reduceNe, ne_eq, not_true_eq_false, not_false_eq_true, decide_true, decide_false]; done)) | ((with_reducible refine Bi.cmp false ?_ ?_); focus (simp only [cmpB, List.length_cons, List.length_nil, Nat.reduceAdd, Int.natCast_one, Int.natCast_zero, Int.cast_ofNat_Int, Int.reduceLT, Int.reduceLE, Int.reduceEq, Int.reduceNe, ne_eq, not_true_eq_false, not_false_eq_true, decide_true, decide_false]; done)) | (with_reducible refine LnL.nil ?_)))
  refine ⟨fun l1 w1 => l1 = [i64 0, i64 0] ∧ w1 = w_, fun _ _ => 0, ⟨rfl, rfl⟩, ?_⟩
  rintro t5 t13 u w1 ⟨h, rfl⟩
  cases h
  (repeat (first | (with_reducible refine Stp.go ?_) | (with_reducible refine StpE.go E ?_) | (with_reducible refine StpW.go E ?_; clear E; intro w_ E) | (with_reducible refine StpA.go E ?_; clear E; intro b_ w_ hb_ E) | ((with_reducible refine Bi.seqT ?_ ?_); focus exact rfl) | ((with_reducible refine Bi.seqF ?_ ?_); focus decide) | ((with_reducible refine Bi.snF ?_ ?_); focus exact rfl) | ((with_reducible refine Bi.snT ?_ ?_); focus decide) | ((with_reducible refine Bi.cmp true ?_ ?_); focus (simp only [cmpB, List.length_cons, List.length_nil, Nat.reduceAdd, Int.natCast_one, Int.natCast_zero, Int.cast_ofNat_Int, Int.reduceLT, Int.reduceLE, Int.reduceEq, Int.reduceNe, ne_eq, not_true_eq_false, not_false_eq_true, decide_true, decide_false]; done)) | ((with_reducible refine Bi.cmp false ?_ ?_); focus (simp only [cmpB, List.length_cons, List.length_nil, Nat.reduceAdd, Int.natCast_one, Int.natCast_zero, Int.cast_ofNat_Int, Int.reduceLT, Int.reduceLE, Int.reduceEq, Int.reduceNe, ne_eq, not_true_eq_false, not_false_eq_true, decide_true, decide_false]; done)) | (with_reducible refine LnL.nil ?_)))
  exact ⟨rfl, E.tl⟩

/-- How many bytes wait. -/
def tot : List ByteArray → Nat
  | [] => 0
  | s :: r => s.size + tot r
theorem tot_app (a b : List ByteArray) : tot (a ++ b) = tot a + tot b := by
  induction a with
  | nil => simp [tot]
  | cons x r ih => simp [tot, ih]; omega
theorem tot_take {ql : List ByteArray} {i : Nat} {s : ByteArray} (h : ql[i]? = some s) : tot (ql.take (i + 1)) = tot (ql.take i) + s.size := by
  rw [List.take_add_one, h, tot_app]; simp [tot]
theorem tot_take_le (ql : List ByteArray) (i : Nat) : tot (ql.take i) ≤ tot ql := by
  have := tot_app (ql.take i) (ql.drop i)
  rw [List.take_append_drop] at this; omega
theorem ready_ok (ht : tot ql < 1000000000) (hl : ql.length < 1000000000) (E : Hs w0 F w (pt pb (pip j qv cl) :: slA qv Ty.string 1 (ql.map str) :: l)) :
    Ca PP Fn.stream_Pipe_ready #[ptr pb, opV (kd rd) (ei (en rd j)) n s] w fun r w' => r = .bool (if rd then decide (0 < ql.length) else decide (tot ql < 1048576)) ∧ Hs w0 F w' (pt pb (pip j qv cl) :: slA qv Ty.string 1 (ql.map str) :: l) := by
  refine S.stream_Pipe_ready.calls ?_
  unfold S.stream_Pipe_ready
  (repeat (first | (with_reducible refine Stp.go ?_) | (with_reducible refine StpE.go E ?_) | (with_reducible refine StpW.go E ?_; clear E; intro w_ E) | (with_reducible refine StpA.go E ?_; clear E; intro b_ w_ hb_ E) | ((with_reducible refine Bi.seqT ?_ ?_); focus exact rfl) | ((with_reducible refine Bi.seqF ?_ ?_); focus decide) | ((with_reducible refine Bi.snF ?_ ?_); focus exact rfl) | ((with_reducible refine Bi.snT ?_ ?_); focus decide) | ((with_reducible refine Bi.cmp true ?_ ?_); focus (simp only [cmpB, List.length_cons, List.length_nil, Nat.reduceAdd, Int.natCast_one, Int.natCast_zero, Int.cast_ofNat_Int, Int.reduceLT, Int.reduceLE, Int.reduceEq, Int.reduceNe, ne_eq, not_true_eq_false, not_false_eq_true, decide_true, decide_false]; done)) | ((with_reducible refine Bi.cmp false ?_ ?_); focus (simp only [cmpB, List.length_cons, List.length_nil, Nat.reduceAdd, Int.natCast_one, Int.natCast_zero, Int.cast_ofNat_Int, Int.reduceLT, Int.reduceLE, Int.reduceEq, Int.reduceNe, ne_eq, not_true_eq_false, not_false_eq_true, decide_true, decide_false]; done)) | (with_reducible refine LnL.nil ?_)))
  refine (queue_ok E).mono ?_
  clear E
  rintro r w_ ⟨rfl, E⟩
  (repeat (first | (with_reducible refine Stp.go ?_) | (with_reducible refine StpE.go E ?_) | (with_reducible refine StpW.go E ?_; clear E; intro w_ E) | (with_reducible refine StpA.go E ?_; clear E; intro b_ w_ hb_ E) | ((with_reducible refine Bi.seqT ?_ ?_); focus exact rfl) | ((with_reducible refine Bi.seqF ?_ ?_); focus decide) | ((with_reducible refine Bi.snF ?_ ?_); focus exact rfl) | ((with_reducible refine Bi.snT ?_ ?_); focus decide) | ((with_reducible refine Bi.cmp true ?_ ?_); focus (simp only [cmpB, List.length_cons, List.length_nil, Nat.reduceAdd, Int.natCast_one, Int.natCast_zero, Int.cast_ofNat_Int, Int.reduceLT, Int.reduceLE, Int.reduceEq, Int.reduceNe, ne_eq, not_true_eq_false, not_false_eq_true, decide_true, decide_false]; done)) | ((with_reducible refine Bi.cmp false ?_ ?_); focus (simp only [cmpB, List.length_cons, List.length_nil, Nat.reduceAdd, Int.natCast_one, Int.natCast_zero, Int.cast_ofNat_Int, Int.reduceLT, Int.reduceLE, Int.reduceEq, Int.reduceNe, ne_eq, not_true_eq_false, not_false_eq_true, decide_true, decide_false]; done)) | (with_reducible refine LnL.nil ?_)))
  refine Bi.mk (kd_zero rd) ?_
  cases rd <;> (repeat (first | (with_reducible refine Stp.go ?_) | (with_reducible refine StpE.go E ?_) | (with_reducible refine StpW.go E ?_; clear E; intro w_ E) | (with_reducible refine StpA.go E ?_; clear E; intro b_ w_ hb_ E) | ((with_reducible refine Bi.seqT ?_ ?_); focus exact rfl) | ((with_reducible refine Bi.seqF ?_ ?_); focus decide) | ((with_reducible refine Bi.snF ?_ ?_); focus exact rfl) | ((with_reducible refine Bi.snT ?_ ?_); focus decide) | ((with_reducible refine Bi.cmp true ?_ ?_); focus (simp only [cmpB, List.length_cons, List.length_nil, Nat.reduceAdd, Int.natCast_one, Int.natCast_zero, Int.cast_ofNat_Int, Int.reduceLT, Int.reduceLE, Int.reduceEq, Int.reduceNe, ne_eq, not_true_eq_false, not_false_eq_true, decide_true, decide_false]; done)) | ((with_reducible refine Bi.cmp false ?_ ?_); focus (simp only [cmpB, List.length_cons, List.length_nil, Nat.reduceAdd, Int.natCast_one, Int.natCast_zero, Int.cast_ofNat_Int, Int.reduceLT, Int.reduceLE, Int.reduceEq, Int.reduceNe, ne_eq, not_true_eq_false, not_false_eq_true, decide_true, decide_false]; done)) | (with_reducible refine LnL.nil ?_))) <;> rw [List.length_map]
  · refine ⟨fun l1 w1 => ∃ i : Nat, l1 = [i64 (tot (ql.take i)), i64 i] ∧ i ≤ ql.length ∧ w1 = w_, fun l1 _ => match l1 with | [_, .int _ i] => ql.length - i.toNat | _ => 0, ⟨0, rfl, Nat.zero_le _, rfl⟩, ?_⟩
    rintro t1 t2 u w1 ⟨i, h, hi, rfl⟩
    cases h
    refine Bi.lss ?_ ?_ <;> intro hlt <;> (repeat (first | (with_reducible refine Stp.go ?_) | (with_reducible refine StpE.go E ?_) | (with_reducible refine StpW.go E ?_; clear E; intro w_ E) | (with_reducible refine StpA.go E ?_; clear E; intro b_ w_ hb_ E) | ((with_reducible refine Bi.seqT ?_ ?_); focus exact rfl) | ((with_reducible refine Bi.seqF ?_ ?_); focus decide) | ((with_reducible refine Bi.snF ?_ ?_); focus exact rfl) | ((with_reducible refine Bi.snT ?_ ?_); focus decide) | ((with_reducible refine Bi.cmp true ?_ ?_); focus (simp only [cmpB, List.length_cons, List.length_nil, Nat.reduceAdd, Int.natCast_one, Int.natCast_zero, Int.cast_ofNat_Int, Int.reduceLT, Int.reduceLE, Int.reduceEq, Int.reduceNe, ne_eq, not_true_eq_false, not_false_eq_true, decide_true, decide_false]; done)) | ((with_reducible refine Bi.cmp false ?_ ?_); focus (simp only [cmpB, List.length_cons, List.length_nil, Nat.reduceAdd, Int.natCast_one, Int.natCast_zero, Int.cast_ofNat_Int, Int.reduceLT, Int.reduceLE, Int.reduceEq, Int.reduceNe, ne_eq, not_true_eq_false, not_false_eq_true, decide_true, decide_false]; done)) | (with_reducible refine LnL.nil ?_)))
    · have hx : ql[i]? = some ql[i] := List.getElem?_eq_getElem (by omega)
      have h1 := tot_take hx
      have h2 := tot_take_le ql (i + 1)
      refine IxA.sl E (by (first | assumption | exact FPt.mem | exact FMp.mem | exact FSl.mem | (repeat (first | assumption | with_reducible exact List.mem_cons_self | refine List.mem_cons_of_mem _ ?_)))) (by omega) (by omega) (by simp; omega) ?_
      intro a ha
      refine Ld.sl E (by (first | assumption | exact FPt.mem | exact FMp.mem | exact FSl.mem | (repeat (first | assumption | with_reducible exact List.mem_cons_self | refine List.mem_cons_of_mem _ ?_)))) ha (x := str ql[i]) (by simp [hx]) ?_
      (repeat (first | (with_reducible refine Stp.go ?_) | (with_reducible refine StpE.go E ?_) | (with_reducible refine StpW.go E ?_; clear E; intro w_ E) | (with_reducible refine StpA.go E ?_; clear E; intro b_ w_ hb_ E) | ((with_reducible refine Bi.seqT ?_ ?_); focus exact rfl) | ((with_reducible refine Bi.seqF ?_ ?_); focus decide) | ((with_reducible refine Bi.snF ?_ ?_); focus exact rfl) | ((with_reducible refine Bi.snT ?_ ?_); focus decide) | ((with_reducible refine Bi.cmp true ?_ ?_); focus (simp only [cmpB, List.length_cons, List.length_nil, Nat.reduceAdd, Int.natCast_one, Int.natCast_zero, Int.cast_ofNat_Int, Int.reduceLT, Int.reduceLE, Int.reduceEq, Int.reduceNe, ne_eq, not_true_eq_false, not_false_eq_true, decide_true, decide_false]; done)) | ((with_reducible refine Bi.cmp false ?_ ?_); focus (simp only [cmpB, List.length_cons, List.length_nil, Nat.reduceAdd, Int.natCast_one, Int.natCast_zero, Int.cast_ofNat_Int, Int.reduceLT, Int.reduceLE, Int.reduceEq, Int.reduceNe, ne_eq, not_true_eq_false, not_false_eq_true, decide_true, decide_false]; done)) | (with_reducible refine LnL.nil ?_)))
      refine Bi.add (by omega) ?_
      refine Bi.add (by omega) ?_
      refine ⟨⟨i + 1, by rw [h1]; simp, by omega, rfl⟩, by simp only []; omega⟩
    · have : ql.take i = ql := List.take_of_length_le (by omega)
      rw [this]
      refine Bi.lss ?_ ?_ <;> intro h5
      · exact ⟨by simp; omega, E.tl⟩
      · exact ⟨by simp; omega, E.tl⟩
  · refine Bi.gtr ?_ ?_ <;> intro h5
    · exact ⟨by rw [if_pos rfl, decide_eq_true (by omega)], E.tl⟩
    · exact ⟨by rw [if_pos rfl, decide_eq_false (by omega)], E.tl⟩
end Go.Proofs.YtdhieaifhlikpaaDoor
