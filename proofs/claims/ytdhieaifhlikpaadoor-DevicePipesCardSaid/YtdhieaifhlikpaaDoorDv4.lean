/-
  Device: taking blocks; typing.
-/
import Derived.Test.YtdhieaifhlikpaaDoorDv3
namespace Go.Proofs.YtdhieaifhlikpaaDoor
open Go Go.Sh
set_option maxRecDepth 100000
set_option linter.unusedVariables false
set_option linter.unusedSimpArgs false
variable {w0 : World} {F : Nat → Prop} {l : List As}
variable {c : Nat} {dv lv bv ov rw tm : Value}

/-- What a read takes of the blocks: the text, the error, the blocks behind it. -/
def takeF (count : Int) : List ByteArray → ByteArray × Int × List ByteArray
  | [] => if count = 0 then (⟨#[]⟩, 0, []) else (⟨#[]⟩, 36, [])
  | s :: r => if count = 0 then (⟨#[]⟩, 0, s :: r) else
    if (s.size : Int) ≤ count then (s, 0, r) else (s.extract 0 count.toNat, 0, s.extract count.toNat s.size :: r)
theorem extract_all (s : ByteArray) : s.extract 0 s.size = s := by simp
theorem take_ok {w : World} {off count : Int} {bl : List ByteArray} (h0 : 0 ≤ count) (E : Hs w0 F w (pt c (conC dv lv bv ov rw tm) :: slA bv Ty.string 1 (bl.map str) :: l)) :
    Ca PP Fn.device_Console_take #[ptr c, i64 off, i64 count] w fun r w' => r = .tuple #[str (takeF count bl).1, i64 (takeF count bl).2.1] ∧
      ∃ bv', Hs w0 F w' (pt c (conC dv lv bv' ov rw tm) :: slA bv' Ty.string 1 ((takeF count bl).2.2.map str) :: l) := by
  refine S.device_Console_take.calls ?_
  unfold S.device_Console_take
  refine Bi.eql ?_ ?_ <;> intro h <;> (repeat (first | (with_reducible refine Stp.go ?_) | (with_reducible refine StpE.go E ?_) | (with_reducible refine StpW.go E ?_; clear E; intro w_ E) | (with_reducible refine StpA.go E ?_; clear E; intro b_ w_ hb_ E) | (apply hJ1; intro u_) | ((with_reducible refine Bi.seqT ?_ ?_); focus exact rfl) | ((with_reducible refine Bi.seqF ?_ ?_); focus decide) | ((with_reducible refine Bi.snF ?_ ?_); focus exact rfl) | ((with_reducible refine Bi.snT ?_ ?_); focus decide) | ((with_reducible refine Bi.cmp true ?_ ?_); focus (simp only [cmpB, List.length_cons, List.length_nil, Nat.reduceAdd, Int.natCast_one, Int.natCast_zero, Int.cast_ofNat_Int, Int.reduceLT, Int.reduceLE, Int.reduceEq, Int.reduceNe, ne_eq, not_true_eq_false, not_false_eq_true, decide_true, decide_false]; done)) | ((with_reducible refine Bi.cmp false ?_ ?_); focus (simp only [cmpB, List.length_cons, List.length_nil, Nat.reduceAdd, Int.natCast_one, Int.natCast_zero, Int.cast_ofNat_Int, Int.reduceLT, Int.reduceLE, Int.reduceEq, Int.reduceNe, ne_eq, not_true_eq_false, not_false_eq_true, decide_true, decide_false]; done)) | (with_reducible refine LnL.nil ?_)))
  · subst h
    cases bl <;> exact ⟨rfl, bv, E⟩
  · rw [List.length_map]
    refine Bi.eql ?_ ?_ <;> intro h1 <;> (repeat (first | (with_reducible refine Stp.go ?_) | (with_reducible refine StpE.go E ?_) | (with_reducible refine StpW.go E ?_; clear E; intro w_ E) | (with_reducible refine StpA.go E ?_; clear E; intro b_ w_ hb_ E) | (apply hJ1; intro u_) | ((with_reducible refine Bi.seqT ?_ ?_); focus exact rfl) | ((with_reducible refine Bi.seqF ?_ ?_); focus decide) | ((with_reducible refine Bi.snF ?_ ?_); focus exact rfl) | ((with_reducible refine Bi.snT ?_ ?_); focus decide) | ((with_reducible refine Bi.cmp true ?_ ?_); focus (simp only [cmpB, List.length_cons, List.length_nil, Nat.reduceAdd, Int.natCast_one, Int.natCast_zero, Int.cast_ofNat_Int, Int.reduceLT, Int.reduceLE, Int.reduceEq, Int.reduceNe, ne_eq, not_true_eq_false, not_false_eq_true, decide_true, decide_false]; done)) | ((with_reducible refine Bi.cmp false ?_ ?_); focus (simp only [cmpB, List.length_cons, List.length_nil, Nat.reduceAdd, Int.natCast_one, Int.natCast_zero, Int.cast_ofNat_Int, Int.reduceLT, Int.reduceLE, Int.reduceEq, Int.reduceNe, ne_eq, not_true_eq_false, not_false_eq_true, decide_true, decide_false]; done)) | (with_reducible refine LnL.nil ?_)))
    · cases bl with
      | nil => simp only [takeF, if_neg h]; exact ⟨trivial, bv, E⟩
      | cons s r => simp at h1; omega
    · cases bl with
      | nil => simp at h1
      | cons s r =>
        simp only [takeF, if_neg h]
        refine IxA.sl E (by (first | assumption | exact FPt.mem | exact FMp.mem | exact FSl.mem | (repeat (first | assumption | with_reducible exact List.mem_cons_self | refine List.mem_cons_of_mem _ ?_)))) (by omega) (by omega) (by simp) ?_
        intro a ha
        refine Ld.sl E (by (first | assumption | exact FPt.mem | exact FMp.mem | exact FSl.mem | (repeat (first | assumption | with_reducible exact List.mem_cons_self | refine List.mem_cons_of_mem _ ?_)))) ha (x := str s) rfl ?_
        (repeat (first | (with_reducible refine Stp.go ?_) | (with_reducible refine StpE.go E ?_) | (with_reducible refine StpW.go E ?_; clear E; intro w_ E) | (with_reducible refine StpA.go E ?_; clear E; intro b_ w_ hb_ E) | (apply hJ1; intro u_) | ((with_reducible refine Bi.seqT ?_ ?_); focus exact rfl) | ((with_reducible refine Bi.seqF ?_ ?_); focus decide) | ((with_reducible refine Bi.snF ?_ ?_); focus exact rfl) | ((with_reducible refine Bi.snT ?_ ?_); focus decide) | ((with_reducible refine Bi.cmp true ?_ ?_); focus (simp only [cmpB, List.length_cons, List.length_nil, Nat.reduceAdd, Int.natCast_one, Int.natCast_zero, Int.cast_ofNat_Int, Int.reduceLT, Int.reduceLE, Int.reduceEq, Int.reduceNe, ne_eq, not_true_eq_false, not_false_eq_true, decide_true, decide_false]; done)) | ((with_reducible refine Bi.cmp false ?_ ?_); focus (simp only [cmpB, List.length_cons, List.length_nil, Nat.reduceAdd, Int.natCast_one, Int.natCast_zero, Int.cast_ofNat_Int, Int.reduceLT, Int.reduceLE, Int.reduceEq, Int.reduceNe, ne_eq, not_true_eq_false, not_false_eq_true, decide_true, decide_false]; done)) | (with_reducible refine LnL.nil ?_)))
        refine Mn.mk ?_
        by_cases hle : (s.size : Int) ≤ count
        · have hm : (if (s.size : Int) < count then (s.size : Int) else count) = s.size := by split <;> omega
          rw [hm]
          (intro J1 hJ1)
          (repeat (first | (with_reducible refine Stp.go ?_) | (with_reducible refine StpE.go E ?_) | (with_reducible refine StpW.go E ?_; clear E; intro w_ E) | (with_reducible refine StpA.go E ?_; clear E; intro b_ w_ hb_ E) | (apply hJ1; intro u_) | ((with_reducible refine Bi.seqT ?_ ?_); focus exact rfl) | ((with_reducible refine Bi.seqF ?_ ?_); focus decide) | ((with_reducible refine Bi.snF ?_ ?_); focus exact rfl) | ((with_reducible refine Bi.snT ?_ ?_); focus decide) | ((with_reducible refine Bi.cmp true ?_ ?_); focus (simp only [cmpB, List.length_cons, List.length_nil, Nat.reduceAdd, Int.natCast_one, Int.natCast_zero, Int.cast_ofNat_Int, Int.reduceLT, Int.reduceLE, Int.reduceEq, Int.reduceNe, ne_eq, not_true_eq_false, not_false_eq_true, decide_true, decide_false]; done)) | ((with_reducible refine Bi.cmp false ?_ ?_); focus (simp only [cmpB, List.length_cons, List.length_nil, Nat.reduceAdd, Int.natCast_one, Int.natCast_zero, Int.cast_ofNat_Int, Int.reduceLT, Int.reduceLE, Int.reduceEq, Int.reduceNe, ne_eq, not_true_eq_false, not_false_eq_true, decide_true, decide_false]; done)) | (with_reducible refine LnL.nil ?_)))
          refine SlS.suf (by omega) (by omega) ?_
          refine IxA.sl E (by (first | assumption | exact FPt.mem | exact FMp.mem | exact FSl.mem | (repeat (first | assumption | with_reducible exact List.mem_cons_self | refine List.mem_cons_of_mem _ ?_)))) (by omega) (by omega) (by simp) ?_
          intro a2 ha2
          refine St.sl E (i := 1) rfl ha2 (by simp) rfl ?_
          intro w_ E
          (try simp only [List.set_cons_zero, List.set_cons_succ, List.cons_append, List.nil_append, Nat.zero_add, Nat.add_zero] at E)
          (repeat (first | (with_reducible refine Stp.go ?_) | (with_reducible refine StpE.go E ?_) | (with_reducible refine StpW.go E ?_; clear E; intro w_ E) | (with_reducible refine StpA.go E ?_; clear E; intro b_ w_ hb_ E) | (apply hJ1; intro u_) | ((with_reducible refine Bi.seqT ?_ ?_); focus exact rfl) | ((with_reducible refine Bi.seqF ?_ ?_); focus decide) | ((with_reducible refine Bi.snF ?_ ?_); focus exact rfl) | ((with_reducible refine Bi.snT ?_ ?_); focus decide) | ((with_reducible refine Bi.cmp true ?_ ?_); focus (simp only [cmpB, List.length_cons, List.length_nil, Nat.reduceAdd, Int.natCast_one, Int.natCast_zero, Int.cast_ofNat_Int, Int.reduceLT, Int.reduceLE, Int.reduceEq, Int.reduceNe, ne_eq, not_true_eq_false, not_false_eq_true, decide_true, decide_false]; done)) | ((with_reducible refine Bi.cmp false ?_ ?_); focus (simp only [cmpB, List.length_cons, List.length_nil, Nat.reduceAdd, Int.natCast_one, Int.natCast_zero, Int.cast_ofNat_Int, Int.reduceLT, Int.reduceLE, Int.reduceEq, Int.reduceNe, ne_eq, not_true_eq_false, not_false_eq_true, decide_true, decide_false]; done)) | (with_reducible refine LnL.nil ?_)))
          refine Sl.sl E (i := 1) rfl (by omega) (a := 1) (b := r.length + 1) rfl (by simp [bnd]) (by omega) (by simp) ?_
          intro v' E
          (try simp only [List.set_cons_zero, List.set_cons_succ, List.cons_append, List.nil_append, Nat.zero_add, Nat.add_zero] at E)
          (repeat (first | (with_reducible refine Stp.go ?_) | (with_reducible refine StpE.go E ?_) | (with_reducible refine StpW.go E ?_; clear E; intro w_ E) | (with_reducible refine StpA.go E ?_; clear E; intro b_ w_ hb_ E) | (apply hJ1; intro u_) | ((with_reducible refine Bi.seqT ?_ ?_); focus exact rfl) | ((with_reducible refine Bi.seqF ?_ ?_); focus decide) | ((with_reducible refine Bi.snF ?_ ?_); focus exact rfl) | ((with_reducible refine Bi.snT ?_ ?_); focus decide) | ((with_reducible refine Bi.cmp true ?_ ?_); focus (simp only [cmpB, List.length_cons, List.length_nil, Nat.reduceAdd, Int.natCast_one, Int.natCast_zero, Int.cast_ofNat_Int, Int.reduceLT, Int.reduceLE, Int.reduceEq, Int.reduceNe, ne_eq, not_true_eq_false, not_false_eq_true, decide_true, decide_false]; done)) | ((with_reducible refine Bi.cmp false ?_ ?_); focus (simp only [cmpB, List.length_cons, List.length_nil, Nat.reduceAdd, Int.natCast_one, Int.natCast_zero, Int.cast_ofNat_Int, Int.reduceLT, Int.reduceLE, Int.reduceEq, Int.reduceNe, ne_eq, not_true_eq_false, not_false_eq_true, decide_true, decide_false]; done)) | (with_reducible refine LnL.nil ?_)))
          (try (refine St.by E (by first | exact Nat.le_of_ble_eq_true rfl | omega | (simp only [List.length_set, List.length_cons, List.length_nil]; omega)) (by first | exact rfl | assumption | exact Hs.slScal E FSl.mem) ?_; clear E; intro w_ E; try simp only [Nat.zero_add] at E))
          (repeat (first | (with_reducible refine Stp.go ?_) | (with_reducible refine StpE.go E ?_) | (with_reducible refine StpW.go E ?_; clear E; intro w_ E) | (with_reducible refine StpA.go E ?_; clear E; intro b_ w_ hb_ E) | (apply hJ1; intro u_) | ((with_reducible refine Bi.seqT ?_ ?_); focus exact rfl) | ((with_reducible refine Bi.seqF ?_ ?_); focus decide) | ((with_reducible refine Bi.snF ?_ ?_); focus exact rfl) | ((with_reducible refine Bi.snT ?_ ?_); focus decide) | ((with_reducible refine Bi.cmp true ?_ ?_); focus (simp only [cmpB, List.length_cons, List.length_nil, Nat.reduceAdd, Int.natCast_one, Int.natCast_zero, Int.cast_ofNat_Int, Int.reduceLT, Int.reduceLE, Int.reduceEq, Int.reduceNe, ne_eq, not_true_eq_false, not_false_eq_true, decide_true, decide_false]; done)) | ((with_reducible refine Bi.cmp false ?_ ?_); focus (simp only [cmpB, List.length_cons, List.length_nil, Nat.reduceAdd, Int.natCast_one, Int.natCast_zero, Int.cast_ofNat_Int, Int.reduceLT, Int.reduceLE, Int.reduceEq, Int.reduceNe, ne_eq, not_true_eq_false, not_false_eq_true, decide_true, decide_false]; done)) | (with_reducible refine LnL.nil ?_)))
          refine SlS.pre (by omega) (by omega) ?_
          rw [if_pos hle]
          refine ⟨?_, v', ?_⟩
          · rw [Int.toNat_natCast, extract_all]
          · have : List.drop (1 * 1) (List.take ((r.length + 1) * 1) ((List.map str (s :: r)).set (Int.toNat 0 * 1) (Value.string (s.extract (s.size : Int).toNat s.size)))) = r.map str := by
              simp only [List.map_cons, Nat.mul_one, Int.toNat_zero, Nat.zero_mul, List.set_cons_zero, List.take_succ_cons, List.drop_succ_cons, List.drop_zero]
              exact List.take_of_length_le (by simp)
            rw [this] at E; exact E
        · have hm : (if (s.size : Int) < count then (s.size : Int) else count) = count := by split <;> omega
          rw [hm]
          (intro J1 hJ1)
          (repeat (first | (with_reducible refine Stp.go ?_) | (with_reducible refine StpE.go E ?_) | (with_reducible refine StpW.go E ?_; clear E; intro w_ E) | (with_reducible refine StpA.go E ?_; clear E; intro b_ w_ hb_ E) | (apply hJ1; intro u_) | ((with_reducible refine Bi.seqT ?_ ?_); focus exact rfl) | ((with_reducible refine Bi.seqF ?_ ?_); focus decide) | ((with_reducible refine Bi.snF ?_ ?_); focus exact rfl) | ((with_reducible refine Bi.snT ?_ ?_); focus decide) | ((with_reducible refine Bi.cmp true ?_ ?_); focus (simp only [cmpB, List.length_cons, List.length_nil, Nat.reduceAdd, Int.natCast_one, Int.natCast_zero, Int.cast_ofNat_Int, Int.reduceLT, Int.reduceLE, Int.reduceEq, Int.reduceNe, ne_eq, not_true_eq_false, not_false_eq_true, decide_true, decide_false]; done)) | ((with_reducible refine Bi.cmp false ?_ ?_); focus (simp only [cmpB, List.length_cons, List.length_nil, Nat.reduceAdd, Int.natCast_one, Int.natCast_zero, Int.cast_ofNat_Int, Int.reduceLT, Int.reduceLE, Int.reduceEq, Int.reduceNe, ne_eq, not_true_eq_false, not_false_eq_true, decide_true, decide_false]; done)) | (with_reducible refine LnL.nil ?_)))
          refine SlS.suf (by omega) (by omega) ?_
          refine IxA.sl E (by (first | assumption | exact FPt.mem | exact FMp.mem | exact FSl.mem | (repeat (first | assumption | with_reducible exact List.mem_cons_self | refine List.mem_cons_of_mem _ ?_)))) (by omega) (by omega) (by simp) ?_
          intro a2 ha2
          refine St.sl E (i := 1) rfl ha2 (by simp) rfl ?_
          intro w_ E
          (try simp only [List.set_cons_zero, List.set_cons_succ, List.cons_append, List.nil_append, Nat.zero_add, Nat.add_zero] at E)
          (repeat (first | (with_reducible refine Stp.go ?_) | (with_reducible refine StpE.go E ?_) | (with_reducible refine StpW.go E ?_; clear E; intro w_ E) | (with_reducible refine StpA.go E ?_; clear E; intro b_ w_ hb_ E) | (apply hJ1; intro u_) | ((with_reducible refine Bi.seqT ?_ ?_); focus exact rfl) | ((with_reducible refine Bi.seqF ?_ ?_); focus decide) | ((with_reducible refine Bi.snF ?_ ?_); focus exact rfl) | ((with_reducible refine Bi.snT ?_ ?_); focus decide) | ((with_reducible refine Bi.cmp true ?_ ?_); focus (simp only [cmpB, List.length_cons, List.length_nil, Nat.reduceAdd, Int.natCast_one, Int.natCast_zero, Int.cast_ofNat_Int, Int.reduceLT, Int.reduceLE, Int.reduceEq, Int.reduceNe, ne_eq, not_true_eq_false, not_false_eq_true, decide_true, decide_false]; done)) | ((with_reducible refine Bi.cmp false ?_ ?_); focus (simp only [cmpB, List.length_cons, List.length_nil, Nat.reduceAdd, Int.natCast_one, Int.natCast_zero, Int.cast_ofNat_Int, Int.reduceLT, Int.reduceLE, Int.reduceEq, Int.reduceNe, ne_eq, not_true_eq_false, not_false_eq_true, decide_true, decide_false]; done)) | (with_reducible refine LnL.nil ?_)))
          refine Bi.eql ?_ ?_ <;> intro h2 <;> (repeat (first | (with_reducible refine Stp.go ?_) | (with_reducible refine StpE.go E ?_) | (with_reducible refine StpW.go E ?_; clear E; intro w_ E) | (with_reducible refine StpA.go E ?_; clear E; intro b_ w_ hb_ E) | (apply hJ1; intro u_) | ((with_reducible refine Bi.seqT ?_ ?_); focus exact rfl) | ((with_reducible refine Bi.seqF ?_ ?_); focus decide) | ((with_reducible refine Bi.snF ?_ ?_); focus exact rfl) | ((with_reducible refine Bi.snT ?_ ?_); focus decide) | ((with_reducible refine Bi.cmp true ?_ ?_); focus (simp only [cmpB, List.length_cons, List.length_nil, Nat.reduceAdd, Int.natCast_one, Int.natCast_zero, Int.cast_ofNat_Int, Int.reduceLT, Int.reduceLE, Int.reduceEq, Int.reduceNe, ne_eq, not_true_eq_false, not_false_eq_true, decide_true, decide_false]; done)) | ((with_reducible refine Bi.cmp false ?_ ?_); focus (simp only [cmpB, List.length_cons, List.length_nil, Nat.reduceAdd, Int.natCast_one, Int.natCast_zero, Int.cast_ofNat_Int, Int.reduceLT, Int.reduceLE, Int.reduceEq, Int.reduceNe, ne_eq, not_true_eq_false, not_false_eq_true, decide_true, decide_false]; done)) | (with_reducible refine LnL.nil ?_)))
          · omega
          · refine SlS.pre (by omega) (by omega) ?_
            rw [if_neg hle]
            exact ⟨rfl, bv, E⟩

/-- What a byte does that is typed: the line and the blocks. -/
def addB (bl : List ByteArray) (s : ByteArray) : List ByteArray := if bl.length < 64 then bl ++ [s] else bl
def typeB (st : ByteArray × List ByteArray) (b : UInt8) : ByteArray × List ByteArray :=
  if b.toNat = 10 then (⟨#[]⟩, addB st.2 (st.1 ++ ⟨#[b]⟩)) else
  if b.toNat = 4 then (⟨#[]⟩, addB st.2 st.1) else
  if b.toNat = 8 then (st.1.extract 0 (st.1.size - 1), st.2) else
  if b.toNat = 21 then (⟨#[]⟩, st.2) else
  if st.1.size < 1024 then (st.1 ++ ⟨#[b]⟩, st.2) else st
theorem typeB_size {st : ByteArray × List ByteArray} {b : UInt8} (h : st.1.size ≤ 1024) : (typeB st b).1.size ≤ 1024 := by
  unfold typeB
  repeat' split
  all_goals first | exact Nat.zero_le _ | (simp only [ByteArray.size_extract]; omega) | (simp only [ByteArray.size_append]; have : (ByteArray.mk #[b]).size = 1 := rfl; omega) | exact h
theorem typeL_size {l : List UInt8} : ∀ {st : ByteArray × List ByteArray}, st.1.size ≤ 1024 → (l.foldl typeB st).1.size ≤ 1024 := by
  induction l with
  | nil => intro st h; exact h
  | cons b r ih => intro st h; exact ih (typeB_size h)
theorem addB_map (bl : List ByteArray) (s : ByteArray) : (if (bl.map str).length < 64 then bl.map str ++ [str s] else bl.map str) = (addB bl s).map str := by
  unfold addB; rw [List.length_map]; split <;> simp
theorem strs_scal (bl : List ByteArray) : (bl.map str).all scalV = true := by
  rw [List.all_eq_true]; intro x hx
  obtain ⟨b, _, rfl⟩ := List.mem_map.1 hx; rfl
theorem ba_ext {a b : ByteArray} (h : a.data.toList = b.data.toList) : a = b := by
  cases a with | mk x => cases b with | mk y => exact congrArg ByteArray.mk (Array.ext' h)
theorem ba_app_nil (a : ByteArray) : a ++ (⟨#[]⟩ : ByteArray) = a := ba_ext (by simp)
theorem ba_nil_app (a : ByteArray) : (⟨#[]⟩ : ByteArray) ++ a = a := ba_ext (by simp)
theorem bts_get {s : ByteArray} {i : Nat} {b : UInt8} (h : s.data.toList[i]? = some b) : (bts s)[i]? = some (.int .u8 b.toNat) := by
  simp only [bts, List.getElem?_map, h, Option.map_some]
theorem bts_take (s : ByteArray) (n : Nat) : (bts s).take n = bts (s.extract 0 n) := by
  simp [bts]

/-- A slice of bytes of one byte. -/
theorem Type_ok {w : World} {line s : ByteArray} {bl : List ByteArray} (hl : line.size ≤ 1024) (hs : s.size ≤ 1000000000)
    (E : Hs w0 F w (pt c (conC dv lv bv ov (.bool false) tm) :: slA lv Ty.uint8 1 (bts line) :: slA bv Ty.string 1 (bl.map str) :: l)) :
    Ca PP Fn.device_Console_Type #[ptr c, str s] w fun r w' => r = .tuple #[] ∧
      ∃ lv' bv', Hs w0 F w' (pt c (conC dv lv' bv' ov (.bool false) tm) :: slA lv' Ty.uint8 1 (bts (s.data.toList.foldl typeB (line, bl)).1) :: slA bv' Ty.string 1 ((s.data.toList.foldl typeB (line, bl)).2.map str) :: l) := by
  refine S.device_Console_Type.calls ?_
  unfold S.device_Console_Type
  refine Eq.e u_console rfl ?_
  (repeat (first | (with_reducible refine Stp.go ?_) | (with_reducible refine StpE.go E ?_) | (with_reducible refine StpW.go E ?_; clear E; intro w_ E) | (with_reducible refine StpA.go E ?_; clear E; intro b_ w_ hb_ E) | (apply hJ1; intro u_) | ((with_reducible refine Bi.seqT ?_ ?_); focus exact rfl) | ((with_reducible refine Bi.seqF ?_ ?_); focus decide) | ((with_reducible refine Bi.snF ?_ ?_); focus exact rfl) | ((with_reducible refine Bi.snT ?_ ?_); focus decide) | ((with_reducible refine Bi.cmp true ?_ ?_); focus (simp only [cmpB, List.length_cons, List.length_nil, Nat.reduceAdd, Int.natCast_one, Int.natCast_zero, Int.cast_ofNat_Int, Int.reduceLT, Int.reduceLE, Int.reduceEq, Int.reduceNe, ne_eq, not_true_eq_false, not_false_eq_true, decide_true, decide_false]; done)) | ((with_reducible refine Bi.cmp false ?_ ?_); focus (simp only [cmpB, List.length_cons, List.length_nil, Nat.reduceAdd, Int.natCast_one, Int.natCast_zero, Int.cast_ofNat_Int, Int.reduceLT, Int.reduceLE, Int.reduceEq, Int.reduceNe, ne_eq, not_true_eq_false, not_false_eq_true, decide_true, decide_false]; done)) | (with_reducible refine LnL.nil ?_)))
  refine CvS.sl E u_string u_sl_uint8 u_uint8 ?_
  intro v w_ E
  (repeat (first | (with_reducible refine Stp.go ?_) | (with_reducible refine StpE.go E ?_) | (with_reducible refine StpW.go E ?_; clear E; intro w_ E) | (with_reducible refine StpA.go E ?_; clear E; intro b_ w_ hb_ E) | (apply hJ1; intro u_) | ((with_reducible refine Bi.seqT ?_ ?_); focus exact rfl) | ((with_reducible refine Bi.seqF ?_ ?_); focus decide) | ((with_reducible refine Bi.snF ?_ ?_); focus exact rfl) | ((with_reducible refine Bi.snT ?_ ?_); focus decide) | ((with_reducible refine Bi.cmp true ?_ ?_); focus (simp only [cmpB, List.length_cons, List.length_nil, Nat.reduceAdd, Int.natCast_one, Int.natCast_zero, Int.cast_ofNat_Int, Int.reduceLT, Int.reduceLE, Int.reduceEq, Int.reduceNe, ne_eq, not_true_eq_false, not_false_eq_true, decide_true, decide_false]; done)) | ((with_reducible refine Bi.cmp false ?_ ?_); focus (simp only [cmpB, List.length_cons, List.length_nil, Nat.reduceAdd, Int.natCast_one, Int.natCast_zero, Int.cast_ofNat_Int, Int.reduceLT, Int.reduceLE, Int.reduceEq, Int.reduceNe, ne_eq, not_true_eq_false, not_false_eq_true, decide_true, decide_false]; done)) | (with_reducible refine LnL.nil ?_)))
  rw [bts_len]
  refine ⟨fun l1 w1 => ∃ (i : Nat) (lv bv : Value), l1 = [i64 i] ∧ i ≤ s.size ∧ Hs w0 F w1 (slA v Ty.uint8 1 (bts s) :: pt c (conC dv lv bv ov (.bool false) tm) :: slA lv Ty.uint8 1 (bts ((s.data.toList.take i).foldl typeB (line, bl)).1) ::
    slA bv Ty.string 1 (((s.data.toList.take i).foldl typeB (line, bl)).2.map str) :: l), fun l1 _ => match l1 with | [.int _ i] => s.size - i.toNat | _ => 0, ⟨0, lv, bv, rfl, Nat.zero_le _, E⟩, ?_⟩
  clear E
  rintro t u w1 ⟨i, lv, bv, h1, hi, E⟩
  cases h1
  refine Bi.lss ?_ ?_ <;> intro h <;> (repeat (first | (with_reducible refine Stp.go ?_) | (with_reducible refine StpE.go E ?_) | (with_reducible refine StpW.go E ?_; clear E; intro w_ E) | (with_reducible refine StpA.go E ?_; clear E; intro b_ w_ hb_ E) | (apply hJ1; intro u_) | ((with_reducible refine Bi.seqT ?_ ?_); focus exact rfl) | ((with_reducible refine Bi.seqF ?_ ?_); focus decide) | ((with_reducible refine Bi.snF ?_ ?_); focus exact rfl) | ((with_reducible refine Bi.snT ?_ ?_); focus decide) | ((with_reducible refine Bi.cmp true ?_ ?_); focus (simp only [cmpB, List.length_cons, List.length_nil, Nat.reduceAdd, Int.natCast_one, Int.natCast_zero, Int.cast_ofNat_Int, Int.reduceLT, Int.reduceLE, Int.reduceEq, Int.reduceNe, ne_eq, not_true_eq_false, not_false_eq_true, decide_true, decide_false]; done)) | ((with_reducible refine Bi.cmp false ?_ ?_); focus (simp only [cmpB, List.length_cons, List.length_nil, Nat.reduceAdd, Int.natCast_one, Int.natCast_zero, Int.cast_ofNat_Int, Int.reduceLT, Int.reduceLE, Int.reduceEq, Int.reduceNe, ne_eq, not_true_eq_false, not_false_eq_true, decide_true, decide_false]; done)) | (with_reducible refine LnL.nil ?_)))
  · obtain ⟨b, hb, hb'⟩ := ba_get (s := s) (i := i) (by omega)
    (intro J1 hJ1)
    refine IxA.sl E (by (first | assumption | exact FPt.mem | exact FMp.mem | exact FSl.mem | (repeat (first | assumption | with_reducible exact List.mem_cons_self | refine List.mem_cons_of_mem _ ?_)))) (by omega) (by omega) (by rw [bts_len]; omega) ?_
    intro a ha
    refine Ld.sl E (by (first | assumption | exact FPt.mem | exact FMp.mem | exact FSl.mem | (repeat (first | assumption | with_reducible exact List.mem_cons_self | refine List.mem_cons_of_mem _ ?_)))) ha (x := .int .u8 b.toNat) (by simpa using bts_get hb') ?_
    have hst : (s.data.toList.take (i + 1)).foldl typeB (line, bl) = typeB ((s.data.toList.take i).foldl typeB (line, bl)) b := by
      rw [List.take_add_one, hb', List.foldl_append]; rfl
    have hsz : ((s.data.toList.take i).foldl typeB (line, bl)).1.size ≤ 1024 := typeL_size hl
    have done : ∀ lv bv w2, Hs w0 F w2 (slA v Ty.uint8 1 (bts s) :: pt c (conC dv lv bv ov (.bool false) tm) :: slA lv Ty.uint8 1 (bts (typeB ((s.data.toList.take i).foldl typeB (line, bl)) b).1) ::
        slA bv Ty.string 1 ((typeB ((s.data.toList.take i).foldl typeB (line, bl)) b).2.map str) :: l) → J1 [] w2 := by
      intro lv bv w2 E
      (repeat (first | (with_reducible refine Stp.go ?_) | (with_reducible refine StpE.go E ?_) | (with_reducible refine StpW.go E ?_; clear E; intro w_ E) | (with_reducible refine StpA.go E ?_; clear E; intro b_ w_ hb_ E) | (apply hJ1; intro u_) | ((with_reducible refine Bi.seqT ?_ ?_); focus exact rfl) | ((with_reducible refine Bi.seqF ?_ ?_); focus decide) | ((with_reducible refine Bi.snF ?_ ?_); focus exact rfl) | ((with_reducible refine Bi.snT ?_ ?_); focus decide) | ((with_reducible refine Bi.cmp true ?_ ?_); focus (simp only [cmpB, List.length_cons, List.length_nil, Nat.reduceAdd, Int.natCast_one, Int.natCast_zero, Int.cast_ofNat_Int, Int.reduceLT, Int.reduceLE, Int.reduceEq, Int.reduceNe, ne_eq, not_true_eq_false, not_false_eq_true, decide_true, decide_false]; done)) | ((with_reducible refine Bi.cmp false ?_ ?_); focus (simp only [cmpB, List.length_cons, List.length_nil, Nat.reduceAdd, Int.natCast_one, Int.natCast_zero, Int.cast_ofNat_Int, Int.reduceLT, Int.reduceLE, Int.reduceEq, Int.reduceNe, ne_eq, not_true_eq_false, not_false_eq_true, decide_true, decide_false]; done)) | (with_reducible refine LnL.nil ?_)))
      refine Bi.add (by omega) ?_
      rw [← hst] at E
      exact ⟨⟨i + 1, lv, bv, by simp, by omega, E⟩, by simp only []; omega⟩
    clear hst hJ1
    generalize (s.data.toList.take i).foldl typeB (line, bl) = st at E hsz done ⊢
    obtain ⟨ln, bl⟩ := st
    simp only [] at E hsz done
    refine Bi.eql ?_ ?_ <;> intro h2 <;> (repeat (first | (with_reducible refine Stp.go ?_) | (with_reducible refine StpE.go E ?_) | (with_reducible refine StpW.go E ?_; clear E; intro w_ E) | (with_reducible refine StpA.go E ?_; clear E; intro b_ w_ hb_ E) | (apply hJ1; intro u_) | ((with_reducible refine Bi.seqT ?_ ?_); focus exact rfl) | ((with_reducible refine Bi.seqF ?_ ?_); focus decide) | ((with_reducible refine Bi.snF ?_ ?_); focus exact rfl) | ((with_reducible refine Bi.snT ?_ ?_); focus decide) | ((with_reducible refine Bi.cmp true ?_ ?_); focus (simp only [cmpB, List.length_cons, List.length_nil, Nat.reduceAdd, Int.natCast_one, Int.natCast_zero, Int.cast_ofNat_Int, Int.reduceLT, Int.reduceLE, Int.reduceEq, Int.reduceNe, ne_eq, not_true_eq_false, not_false_eq_true, decide_true, decide_false]; done)) | ((with_reducible refine Bi.cmp false ?_ ?_); focus (simp only [cmpB, List.length_cons, List.length_nil, Nat.reduceAdd, Int.natCast_one, Int.natCast_zero, Int.cast_ofNat_Int, Int.reduceLT, Int.reduceLE, Int.reduceEq, Int.reduceNe, ne_eq, not_true_eq_false, not_false_eq_true, decide_true, decide_false]; done)) | (with_reducible refine LnL.nil ?_)))
    · refine BdS.one E u_sl_uint8 e_uint8 rfl ?_
      intro v2 w_ E
      have hb1 : ([Value.int .u8 b.toNat] : List Value) = bts ⟨#[b]⟩ := rfl
      rw [hb1] at E
      (replace E := ((((E.bSl v2).bSl bv).bSl lv).bPt c))
      refine (end_ok (strs_scal bl) (by omega) (by show 1 ≤ _; omega) E).mono ?_
      rintro r w_ ⟨rfl, bv', E⟩
      rw [addB_map] at E
      (replace E := (E.bSl v))
      refine done (.slice none 0 0) bv' _ ?_
      have : typeB (ln, bl) b = (⟨#[]⟩, addB bl (ln ++ ⟨#[b]⟩)) := by unfold typeB; rw [if_pos (by omega)]
      rw [this]; exact E
    refine Bi.eql ?_ ?_ <;> intro h3 <;> (repeat (first | (with_reducible refine Stp.go ?_) | (with_reducible refine StpE.go E ?_) | (with_reducible refine StpW.go E ?_; clear E; intro w_ E) | (with_reducible refine StpA.go E ?_; clear E; intro b_ w_ hb_ E) | (apply hJ1; intro u_) | ((with_reducible refine Bi.seqT ?_ ?_); focus exact rfl) | ((with_reducible refine Bi.seqF ?_ ?_); focus decide) | ((with_reducible refine Bi.snF ?_ ?_); focus exact rfl) | ((with_reducible refine Bi.snT ?_ ?_); focus decide) | ((with_reducible refine Bi.cmp true ?_ ?_); focus (simp only [cmpB, List.length_cons, List.length_nil, Nat.reduceAdd, Int.natCast_one, Int.natCast_zero, Int.cast_ofNat_Int, Int.reduceLT, Int.reduceLE, Int.reduceEq, Int.reduceNe, ne_eq, not_true_eq_false, not_false_eq_true, decide_true, decide_false]; done)) | ((with_reducible refine Bi.cmp false ?_ ?_); focus (simp only [cmpB, List.length_cons, List.length_nil, Nat.reduceAdd, Int.natCast_one, Int.natCast_zero, Int.cast_ofNat_Int, Int.reduceLT, Int.reduceLE, Int.reduceEq, Int.reduceNe, ne_eq, not_true_eq_false, not_false_eq_true, decide_true, decide_false]; done)) | (with_reducible refine LnL.nil ?_)))
    · have E := E.nilSl Ty.uint8 1
      have hb1 : ([] : List Value) = bts ⟨#[]⟩ := rfl
      rw [hb1] at E
      (replace E := (((((E.bIx 1).bIx 1).bIx 4).bIx 4).bIx 4))
      refine (end_ok (strs_scal bl) (by omega) (by show 0 ≤ _; omega) E).mono ?_
      rintro r w_ ⟨rfl, bv', E⟩
      rw [addB_map] at E
      (replace E := (E.bSl v))
      refine done (.slice none 0 0) bv' _ ?_
      have : typeB (ln, bl) b = (⟨#[]⟩, addB bl ln) := by unfold typeB; rw [if_neg (by omega), if_pos (by omega)]
      rw [this]
      have h0 : ln ++ (⟨#[]⟩ : ByteArray) = ln := ba_app_nil ln
      rw [h0] at E; exact E
    refine Bi.eql ?_ ?_ <;> intro h4 <;> (repeat (first | (with_reducible refine Stp.go ?_) | (with_reducible refine StpE.go E ?_) | (with_reducible refine StpW.go E ?_; clear E; intro w_ E) | (with_reducible refine StpA.go E ?_; clear E; intro b_ w_ hb_ E) | (apply hJ1; intro u_) | ((with_reducible refine Bi.seqT ?_ ?_); focus exact rfl) | ((with_reducible refine Bi.seqF ?_ ?_); focus decide) | ((with_reducible refine Bi.snF ?_ ?_); focus exact rfl) | ((with_reducible refine Bi.snT ?_ ?_); focus decide) | ((with_reducible refine Bi.cmp true ?_ ?_); focus (simp only [cmpB, List.length_cons, List.length_nil, Nat.reduceAdd, Int.natCast_one, Int.natCast_zero, Int.cast_ofNat_Int, Int.reduceLT, Int.reduceLE, Int.reduceEq, Int.reduceNe, ne_eq, not_true_eq_false, not_false_eq_true, decide_true, decide_false]; done)) | ((with_reducible refine Bi.cmp false ?_ ?_); focus (simp only [cmpB, List.length_cons, List.length_nil, Nat.reduceAdd, Int.natCast_one, Int.natCast_zero, Int.cast_ofNat_Int, Int.reduceLT, Int.reduceLE, Int.reduceEq, Int.reduceNe, ne_eq, not_true_eq_false, not_false_eq_true, decide_true, decide_false]; done)) | (with_reducible refine LnL.nil ?_)))
    · rw [bts_len]
      refine Bi.sub (by omega) ?_
      refine Mx.mk ?_
      have hm : (if 0 > (ln.size : Int) - 1 then (0 : Int) else (ln.size : Int) - 1) = ((ln.size - 1 : Nat) : Int) := by split <;> omega
      rw [hm]
      refine Sl.sl E (i := 2) rfl (by omega) (a := 0) (b := ln.size - 1) rfl (by simp [bnd]) (by omega) (by rw [bts_len]; omega) ?_
      intro v' E
      (try simp only [List.set_cons_zero, List.set_cons_succ, List.cons_append, List.nil_append, Nat.zero_add, Nat.add_zero] at E)
      (repeat (first | (with_reducible refine Stp.go ?_) | (with_reducible refine StpE.go E ?_) | (with_reducible refine StpW.go E ?_; clear E; intro w_ E) | (with_reducible refine StpA.go E ?_; clear E; intro b_ w_ hb_ E) | (apply hJ1; intro u_) | ((with_reducible refine Bi.seqT ?_ ?_); focus exact rfl) | ((with_reducible refine Bi.seqF ?_ ?_); focus decide) | ((with_reducible refine Bi.snF ?_ ?_); focus exact rfl) | ((with_reducible refine Bi.snT ?_ ?_); focus decide) | ((with_reducible refine Bi.cmp true ?_ ?_); focus (simp only [cmpB, List.length_cons, List.length_nil, Nat.reduceAdd, Int.natCast_one, Int.natCast_zero, Int.cast_ofNat_Int, Int.reduceLT, Int.reduceLE, Int.reduceEq, Int.reduceNe, ne_eq, not_true_eq_false, not_false_eq_true, decide_true, decide_false]; done)) | ((with_reducible refine Bi.cmp false ?_ ?_); focus (simp only [cmpB, List.length_cons, List.length_nil, Nat.reduceAdd, Int.natCast_one, Int.natCast_zero, Int.cast_ofNat_Int, Int.reduceLT, Int.reduceLE, Int.reduceEq, Int.reduceNe, ne_eq, not_true_eq_false, not_false_eq_true, decide_true, decide_false]; done)) | (with_reducible refine LnL.nil ?_)))
      (try (refine St.by E (by first | exact Nat.le_of_ble_eq_true rfl | omega | (simp only [List.length_set, List.length_cons, List.length_nil]; omega)) (by first | exact rfl | assumption | exact Hs.slScal E FSl.mem) ?_; clear E; intro w_ E; try simp only [Nat.zero_add] at E))
      refine done v' bv _ ?_
      have : typeB (ln, bl) b = (ln.extract 0 (ln.size - 1), bl) := by unfold typeB; rw [if_neg (by omega), if_neg (by omega), if_pos (by omega)]
      rw [this]
      rw [Nat.zero_mul, List.drop_zero, Nat.mul_one, bts_take] at E
      exact E
    refine Bi.eql ?_ ?_ <;> intro h5 <;> (repeat (first | (with_reducible refine Stp.go ?_) | (with_reducible refine StpE.go E ?_) | (with_reducible refine StpW.go E ?_; clear E; intro w_ E) | (with_reducible refine StpA.go E ?_; clear E; intro b_ w_ hb_ E) | (apply hJ1; intro u_) | ((with_reducible refine Bi.seqT ?_ ?_); focus exact rfl) | ((with_reducible refine Bi.seqF ?_ ?_); focus decide) | ((with_reducible refine Bi.snF ?_ ?_); focus exact rfl) | ((with_reducible refine Bi.snT ?_ ?_); focus decide) | ((with_reducible refine Bi.cmp true ?_ ?_); focus (simp only [cmpB, List.length_cons, List.length_nil, Nat.reduceAdd, Int.natCast_one, Int.natCast_zero, Int.cast_ofNat_Int, Int.reduceLT, Int.reduceLE, Int.reduceEq, Int.reduceNe, ne_eq, not_true_eq_false, not_false_eq_true, decide_true, decide_false]; done)) | ((with_reducible refine Bi.cmp false ?_ ?_); focus (simp only [cmpB, List.length_cons, List.length_nil, Nat.reduceAdd, Int.natCast_one, Int.natCast_zero, Int.cast_ofNat_Int, Int.reduceLT, Int.reduceLE, Int.reduceEq, Int.reduceNe, ne_eq, not_true_eq_false, not_false_eq_true, decide_true, decide_false]; done)) | (with_reducible refine LnL.nil ?_)))
    · (try (refine St.by E (by first | exact Nat.le_of_ble_eq_true rfl | omega | (simp only [List.length_set, List.length_cons, List.length_nil]; omega)) (by first | exact rfl | assumption | exact Hs.slScal E FSl.mem) ?_; clear E; intro w_ E; try simp only [Nat.zero_add] at E))
      have E := E.nilSl Ty.uint8 1
      have hb1 : ([] : List Value) = bts ⟨#[]⟩ := rfl
      rw [hb1] at E
      (replace E := ((((E.bIx 4).bIx 1).bIx 3).bIx 3))
      (replace E := (E.bIx 4).tl)
      refine done (.slice none 0 0) bv _ ?_
      have : typeB (ln, bl) b = (⟨#[]⟩, bl) := by unfold typeB; rw [if_neg (by omega), if_neg (by omega), if_neg (by omega), if_pos (by omega)]
      rw [this]
      exact E
    rw [bts_len]
    refine Bi.lss ?_ ?_ <;> intro h6 <;> (repeat (first | (with_reducible refine Stp.go ?_) | (with_reducible refine StpE.go E ?_) | (with_reducible refine StpW.go E ?_; clear E; intro w_ E) | (with_reducible refine StpA.go E ?_; clear E; intro b_ w_ hb_ E) | (apply hJ1; intro u_) | ((with_reducible refine Bi.seqT ?_ ?_); focus exact rfl) | ((with_reducible refine Bi.seqF ?_ ?_); focus decide) | ((with_reducible refine Bi.snF ?_ ?_); focus exact rfl) | ((with_reducible refine Bi.snT ?_ ?_); focus decide) | ((with_reducible refine Bi.cmp true ?_ ?_); focus (simp only [cmpB, List.length_cons, List.length_nil, Nat.reduceAdd, Int.natCast_one, Int.natCast_zero, Int.cast_ofNat_Int, Int.reduceLT, Int.reduceLE, Int.reduceEq, Int.reduceNe, ne_eq, not_true_eq_false, not_false_eq_true, decide_true, decide_false]; done)) | ((with_reducible refine Bi.cmp false ?_ ?_); focus (simp only [cmpB, List.length_cons, List.length_nil, Nat.reduceAdd, Int.natCast_one, Int.natCast_zero, Int.cast_ofNat_Int, Int.reduceLT, Int.reduceLE, Int.reduceEq, Int.reduceNe, ne_eq, not_true_eq_false, not_false_eq_true, decide_true, decide_false]; done)) | (with_reducible refine LnL.nil ?_)))
    · refine BdS.one E u_sl_uint8 e_uint8 rfl ?_
      intro v2 w_ E
      have hb1 : ([Value.int .u8 b.toNat] : List Value) = bts ⟨#[b]⟩ := rfl
      rw [hb1] at E
      refine Ap.one E (i := 3) rfl u_sl_uint8 ⟨_, u_sl_uint8, fun _ h => by cases h⟩ e_uint8 (Src.one E (by (first | assumption | exact FPt.mem | exact FMp.mem | exact FSl.mem | (repeat (first | assumption | with_reducible exact List.mem_cons_self | refine List.mem_cons_of_mem _ ?_)))) (bts_scal _)) rfl (by rw [bts_len, bts_len]; show (_ + 1) * _ ≤ _; omega) (by rw [bts_len, bts_len]; show _ + 1 ≤ _; omega) ?_
      intro s' w_ E
      (try simp only [List.set_cons_zero, List.set_cons_succ, List.cons_append, List.nil_append, Nat.zero_add, Nat.add_zero] at E)
      rw [bts_app] at E
      (repeat (first | (with_reducible refine Stp.go ?_) | (with_reducible refine StpE.go E ?_) | (with_reducible refine StpW.go E ?_; clear E; intro w_ E) | (with_reducible refine StpA.go E ?_; clear E; intro b_ w_ hb_ E) | (apply hJ1; intro u_) | ((with_reducible refine Bi.seqT ?_ ?_); focus exact rfl) | ((with_reducible refine Bi.seqF ?_ ?_); focus decide) | ((with_reducible refine Bi.snF ?_ ?_); focus exact rfl) | ((with_reducible refine Bi.snT ?_ ?_); focus decide) | ((with_reducible refine Bi.cmp true ?_ ?_); focus (simp only [cmpB, List.length_cons, List.length_nil, Nat.reduceAdd, Int.natCast_one, Int.natCast_zero, Int.cast_ofNat_Int, Int.reduceLT, Int.reduceLE, Int.reduceEq, Int.reduceNe, ne_eq, not_true_eq_false, not_false_eq_true, decide_true, decide_false]; done)) | ((with_reducible refine Bi.cmp false ?_ ?_); focus (simp only [cmpB, List.length_cons, List.length_nil, Nat.reduceAdd, Int.natCast_one, Int.natCast_zero, Int.cast_ofNat_Int, Int.reduceLT, Int.reduceLE, Int.reduceEq, Int.reduceNe, ne_eq, not_true_eq_false, not_false_eq_true, decide_true, decide_false]; done)) | (with_reducible refine LnL.nil ?_)))
      (try (refine St.by E (by first | exact Nat.le_of_ble_eq_true rfl | omega | (simp only [List.length_set, List.length_cons, List.length_nil]; omega)) (by first | exact rfl | assumption | exact Hs.slScal E FSl.mem) ?_; clear E; intro w_ E; try simp only [Nat.zero_add] at E))
      (replace E := (E.bIx 0).tl)
      refine done s' bv _ ?_
      have : typeB (ln, bl) b = (ln ++ ⟨#[b]⟩, bl) := by unfold typeB; rw [if_neg (by omega), if_neg (by omega), if_neg (by omega), if_neg (by omega), if_pos (by simp only []; omega)]
      rw [this]
      exact E
    · refine done lv bv _ ?_
      have : typeB (ln, bl) b = (ln, bl) := by unfold typeB; rw [if_neg (by omega), if_neg (by omega), if_neg (by omega), if_neg (by omega), if_neg (by simp only []; omega)]
      rw [this]
      exact E
  · have : s.data.toList.take i = s.data.toList := List.take_of_length_le (by have : s.data.toList.length = s.size := rfl; omega)
    rw [this] at E
    (replace E := (E.bIx 0).tl)
    exact ⟨rfl, lv, bv, E⟩
end Go.Proofs.YtdhieaifhlikpaaDoor
