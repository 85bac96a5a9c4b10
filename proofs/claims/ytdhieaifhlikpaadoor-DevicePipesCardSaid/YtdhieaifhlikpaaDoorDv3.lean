/-
  Device: a console's line, blocks and output.
-/
import Derived.Test.YtdhieaifhlikpaaDoorDv2
namespace Go.Proofs.YtdhieaifhlikpaaDoor
open Go Go.Sh
set_option maxRecDepth 100000
set_option linter.unusedVariables false
set_option linter.unusedSimpArgs false
variable {w0 : World} {F : Nat → Prop} {l : List As}

theorem u_sl_string : PP.underlying Ty.sl_string = some (.slice Ty.string) := by kernel_rfl
theorem u_sl_uint8 : PP.underlying Ty.sl_uint8 = some (.slice Ty.uint8) := by kernel_rfl
theorem u_string : PP.underlying Ty.string = some .string := by kernel_rfl
theorem u_uint8 : PP.underlying Ty.uint8 = some (.int .u8) := by kernel_rfl
theorem u_console : PP.underlying Ty.p_device_Console = some (.pointer Ty.device_Console) := by kernel_rfl
theorem u_device : PP.underlying Ty.p_device_Device = some (.pointer Ty.device_Device) := by kernel_rfl
theorem e_string : el3 PP Ty.string = some (some (.string ⟨#[]⟩), 1, 16) := by kernel_rfl
theorem e_uint8 : el3 PP Ty.uint8 = some (some (.int .u8 0), 1, 1) := by kernel_rfl
/-- A console's cells. -/
abbrev conC (dv lv bv ov rw tm : Value) : Obj := oc [dv, lv, bv, ov, rw, tm] Ty.device_Console
variable {c : Nat} {dv lv bv ov rw tm : Value} {bs : List Value}

theorem block_ok {w : World} {s : ByteArray} (hbs : bs.all scalV = true) (E : Hs w0 F w (pt c (conC dv lv bv ov rw tm) :: slA bv Ty.string 1 bs :: l)) :
    Ca PP Fn.device_Console_block #[ptr c, str s] w fun r w' => r = .tuple #[] ∧ ∃ bv', Hs w0 F w' (pt c (conC dv lv bv' ov rw tm) :: slA bv' Ty.string 1 (if bs.length < 64 then bs ++ [str s] else bs) :: l) := by
  refine S.device_Console_block.calls ?_
  unfold S.device_Console_block
  (repeat (first | (with_reducible refine Stp.go ?_) | (with_reducible refine StpE.go E ?_) | (with_reducible refine StpW.go E ?_; clear E; intro w_ E) | (with_reducible refine StpA.go E ?_; clear E; intro b_ w_ hb_ E) | ((with_reducible refine Bi.seqT ?_ ?_); focus exact rfl) | ((with_reducible refine Bi.seqF ?_ ?_); focus decide) | ((with_reducible refine Bi.snF ?_ ?_); focus exact rfl) | ((with_reducible refine Bi.snT ?_ ?_); focus decide) | ((with_reducible refine Bi.cmp true ?_ ?_); focus (simp only [cmpB, List.length_cons, List.length_nil, Nat.reduceAdd, Int.natCast_one, Int.natCast_zero, Int.cast_ofNat_Int, Int.reduceLT, Int.reduceLE, Int.reduceEq, Int.reduceNe, ne_eq, not_true_eq_false, not_false_eq_true, decide_true, decide_false]; done)) | ((with_reducible refine Bi.cmp false ?_ ?_); focus (simp only [cmpB, List.length_cons, List.length_nil, Nat.reduceAdd, Int.natCast_one, Int.natCast_zero, Int.cast_ofNat_Int, Int.reduceLT, Int.reduceLE, Int.reduceEq, Int.reduceNe, ne_eq, not_true_eq_false, not_false_eq_true, decide_true, decide_false]; done)) | (with_reducible refine LnL.nil ?_)))
  refine Bi.lss ?_ ?_ <;> intro h <;> (repeat (first | (with_reducible refine Stp.go ?_) | (with_reducible refine StpE.go E ?_) | (with_reducible refine StpW.go E ?_; clear E; intro w_ E) | (with_reducible refine StpA.go E ?_; clear E; intro b_ w_ hb_ E) | ((with_reducible refine Bi.seqT ?_ ?_); focus exact rfl) | ((with_reducible refine Bi.seqF ?_ ?_); focus decide) | ((with_reducible refine Bi.snF ?_ ?_); focus exact rfl) | ((with_reducible refine Bi.snT ?_ ?_); focus decide) | ((with_reducible refine Bi.cmp true ?_ ?_); focus (simp only [cmpB, List.length_cons, List.length_nil, Nat.reduceAdd, Int.natCast_one, Int.natCast_zero, Int.cast_ofNat_Int, Int.reduceLT, Int.reduceLE, Int.reduceEq, Int.reduceNe, ne_eq, not_true_eq_false, not_false_eq_true, decide_true, decide_false]; done)) | ((with_reducible refine Bi.cmp false ?_ ?_); focus (simp only [cmpB, List.length_cons, List.length_nil, Nat.reduceAdd, Int.natCast_one, Int.natCast_zero, Int.cast_ofNat_Int, Int.reduceLT, Int.reduceLE, Int.reduceEq, Int.reduceNe, ne_eq, not_true_eq_false, not_false_eq_true, decide_true, decide_false]; done)) | (with_reducible refine LnL.nil ?_)))
  · refine BdS.one E u_sl_string e_string rfl ?_
    intro v w_ E
    refine Ap.one E (i := 2) rfl u_sl_string ⟨_, u_sl_string, fun _ h => by cases h⟩ e_string (Src.one E (by (first | assumption | exact FPt.mem | exact FMp.mem | exact FSl.mem | (repeat (first | assumption | with_reducible exact List.mem_cons_self | refine List.mem_cons_of_mem _ ?_)))) rfl) rfl (by simp; omega) (by simp; omega) ?_
    intro s' w_ E
    (try simp only [List.set_cons_zero, List.set_cons_succ, List.cons_append, List.nil_append, Nat.zero_add, Nat.add_zero] at E)
    (repeat (first | (with_reducible refine Stp.go ?_) | (with_reducible refine StpE.go E ?_) | (with_reducible refine StpW.go E ?_; clear E; intro w_ E) | (with_reducible refine StpA.go E ?_; clear E; intro b_ w_ hb_ E) | ((with_reducible refine Bi.seqT ?_ ?_); focus exact rfl) | ((with_reducible refine Bi.seqF ?_ ?_); focus decide) | ((with_reducible refine Bi.snF ?_ ?_); focus exact rfl) | ((with_reducible refine Bi.snT ?_ ?_); focus decide) | ((with_reducible refine Bi.cmp true ?_ ?_); focus (simp only [cmpB, List.length_cons, List.length_nil, Nat.reduceAdd, Int.natCast_one, Int.natCast_zero, Int.cast_ofNat_Int, Int.reduceLT, Int.reduceLE, Int.reduceEq, Int.reduceNe, ne_eq, not_true_eq_false, not_false_eq_true, decide_true, decide_false]; done)) | ((with_reducible refine Bi.cmp false ?_ ?_); focus (simp only [cmpB, List.length_cons, List.length_nil, Nat.reduceAdd, Int.natCast_one, Int.natCast_zero, Int.cast_ofNat_Int, Int.reduceLT, Int.reduceLE, Int.reduceEq, Int.reduceNe, ne_eq, not_true_eq_false, not_false_eq_true, decide_true, decide_false]; done)) | (with_reducible refine LnL.nil ?_)))
    (try (refine St.by E (by first | exact Nat.le_of_ble_eq_true rfl | omega | (simp only [List.length_set, List.length_cons, List.length_nil]; omega)) (by first | exact rfl | assumption | exact Hs.slScal E FSl.mem) ?_; clear E; intro w_ E; try simp only [Nat.zero_add] at E))
    refine ⟨rfl, s', ?_⟩
    rw [if_pos (by omega)]
    exact E.drop (List.sublist_cons_self _ _)
  · rw [if_neg (by omega)]
    exact ⟨rfl, bv, E⟩
theorem end_ok {w : World} {line more : ByteArray} {mv : Value} (hbs : bs.all scalV = true) (hs : line.size ≤ 100000) (hm : more.size ≤ 100000)
    (E : Hs w0 F w (pt c (conC dv lv bv ov rw tm) :: slA lv Ty.uint8 1 (bts line) :: slA bv Ty.string 1 bs :: slA mv Ty.uint8 1 (bts more) :: l)) :
    Ca PP Fn.device_Console_end #[ptr c, mv] w fun r w' => r = .tuple #[] ∧ ∃ bv', Hs w0 F w' (pt c (conC dv (.slice none 0 0) bv' ov rw tm) :: slA (.slice none 0 0) Ty.uint8 1 (bts ⟨#[]⟩) :: slA bv' Ty.string 1 (if bs.length < 64 then bs ++ [str (line ++ more)] else bs) :: l) := by
  refine S.device_Console_end.calls ?_
  unfold S.device_Console_end
  (repeat (first | (with_reducible refine Stp.go ?_) | (with_reducible refine StpE.go E ?_) | (with_reducible refine StpW.go E ?_; clear E; intro w_ E) | (with_reducible refine StpA.go E ?_; clear E; intro b_ w_ hb_ E) | ((with_reducible refine Bi.seqT ?_ ?_); focus exact rfl) | ((with_reducible refine Bi.seqF ?_ ?_); focus decide) | ((with_reducible refine Bi.snF ?_ ?_); focus exact rfl) | ((with_reducible refine Bi.snT ?_ ?_); focus decide) | ((with_reducible refine Bi.cmp true ?_ ?_); focus (simp only [cmpB, List.length_cons, List.length_nil, Nat.reduceAdd, Int.natCast_one, Int.natCast_zero, Int.cast_ofNat_Int, Int.reduceLT, Int.reduceLE, Int.reduceEq, Int.reduceNe, ne_eq, not_true_eq_false, not_false_eq_true, decide_true, decide_false]; done)) | ((with_reducible refine Bi.cmp false ?_ ?_); focus (simp only [cmpB, List.length_cons, List.length_nil, Nat.reduceAdd, Int.natCast_one, Int.natCast_zero, Int.cast_ofNat_Int, Int.reduceLT, Int.reduceLE, Int.reduceEq, Int.reduceNe, ne_eq, not_true_eq_false, not_false_eq_true, decide_true, decide_false]; done)) | (with_reducible refine LnL.nil ?_)))
  refine Ap.one E (i := 1) rfl u_sl_uint8 ⟨_, u_sl_uint8, fun _ h => by cases h⟩ e_uint8 (Src.one E (by (first | assumption | exact FPt.mem | exact FMp.mem | exact FSl.mem | (repeat (first | assumption | with_reducible exact List.mem_cons_self | refine List.mem_cons_of_mem _ ?_)))) (bts_scal _)) rfl (by rw [bts_len, bts_len]; omega) (by rw [bts_len, bts_len]; omega) ?_
  intro s' w_ E
  (try simp only [List.set_cons_zero, List.set_cons_succ, List.cons_append, List.nil_append, Nat.zero_add, Nat.add_zero] at E)
  rw [bts_app] at E
  refine CvB.sl E (s := line ++ more) (by (first | assumption | exact FPt.mem | exact FMp.mem | exact FSl.mem | (repeat (first | assumption | with_reducible exact List.mem_cons_self | refine List.mem_cons_of_mem _ ?_)))) u_sl_uint8 u_string u_uint8 ?_
  (replace E := ((E.bIx 2).bIx 1))
  refine (block_ok hbs E).mono ?_
  rintro r w_ ⟨rfl, bv', E⟩
  (repeat (first | (with_reducible refine Stp.go ?_) | (with_reducible refine StpE.go E ?_) | (with_reducible refine StpW.go E ?_; clear E; intro w_ E) | (with_reducible refine StpA.go E ?_; clear E; intro b_ w_ hb_ E) | ((with_reducible refine Bi.seqT ?_ ?_); focus exact rfl) | ((with_reducible refine Bi.seqF ?_ ?_); focus decide) | ((with_reducible refine Bi.snF ?_ ?_); focus exact rfl) | ((with_reducible refine Bi.snT ?_ ?_); focus decide) | ((with_reducible refine Bi.cmp true ?_ ?_); focus (simp only [cmpB, List.length_cons, List.length_nil, Nat.reduceAdd, Int.natCast_one, Int.natCast_zero, Int.cast_ofNat_Int, Int.reduceLT, Int.reduceLE, Int.reduceEq, Int.reduceNe, ne_eq, not_true_eq_false, not_false_eq_true, decide_true, decide_false]; done)) | ((with_reducible refine Bi.cmp false ?_ ?_); focus (simp only [cmpB, List.length_cons, List.length_nil, Nat.reduceAdd, Int.natCast_one, Int.natCast_zero, Int.cast_ofNat_Int, Int.reduceLT, Int.reduceLE, Int.reduceEq, Int.reduceNe, ne_eq, not_true_eq_false, not_false_eq_true, decide_true, decide_false]; done)) | (with_reducible refine LnL.nil ?_)))
  (try (refine St.by E (by first | exact Nat.le_of_ble_eq_true rfl | omega | (simp only [List.length_set, List.length_cons, List.length_nil]; omega)) (by first | exact rfl | assumption | exact Hs.slScal E FSl.mem) ?_; clear E; intro w_ E; try simp only [Nat.zero_add] at E))
  refine ⟨rfl, bv', ?_⟩
  have E := (E.nilSl Ty.uint8 1)
  (replace E := (((E.bIx 2).bIx 1).bIx 2))
  exact E.drop (.cons_cons _ (.cons_cons _ (.cons_cons _ (.cons _ (.cons _ (List.Sublist.refl _))))))
theorem print_ok {w : World} {out s : ByteArray} (h1 : out.size ≤ 10000000) (h2 : s.size ≤ 10000000) (E : Hs w0 F w (pt c (conC dv lv bv ov rw tm) :: slA ov Ty.uint8 1 (bts out) :: l)) :
    Ca PP Fn.device_Console_print #[ptr c, str s] w fun r w' => (out.size + s.size ≤ 1048576 → r = i64 0 ∧ ∃ ov', Hs w0 F w' (pt c (conC dv lv bv ov' rw tm) :: slA ov' Ty.uint8 1 (bts (out ++ s)) :: l)) ∧
      (1048576 < out.size + s.size → r = i64 24 ∧ Hs w0 F w' (pt c (conC dv lv bv ov rw tm) :: slA ov Ty.uint8 1 (bts out) :: l)) := by
  refine S.device_Console_print.calls ?_
  unfold S.device_Console_print
  (repeat (first | (with_reducible refine Stp.go ?_) | (with_reducible refine StpE.go E ?_) | (with_reducible refine StpW.go E ?_; clear E; intro w_ E) | (with_reducible refine StpA.go E ?_; clear E; intro b_ w_ hb_ E) | ((with_reducible refine Bi.seqT ?_ ?_); focus exact rfl) | ((with_reducible refine Bi.seqF ?_ ?_); focus decide) | ((with_reducible refine Bi.snF ?_ ?_); focus exact rfl) | ((with_reducible refine Bi.snT ?_ ?_); focus decide) | ((with_reducible refine Bi.cmp true ?_ ?_); focus (simp only [cmpB, List.length_cons, List.length_nil, Nat.reduceAdd, Int.natCast_one, Int.natCast_zero, Int.cast_ofNat_Int, Int.reduceLT, Int.reduceLE, Int.reduceEq, Int.reduceNe, ne_eq, not_true_eq_false, not_false_eq_true, decide_true, decide_false]; done)) | ((with_reducible refine Bi.cmp false ?_ ?_); focus (simp only [cmpB, List.length_cons, List.length_nil, Nat.reduceAdd, Int.natCast_one, Int.natCast_zero, Int.cast_ofNat_Int, Int.reduceLT, Int.reduceLE, Int.reduceEq, Int.reduceNe, ne_eq, not_true_eq_false, not_false_eq_true, decide_true, decide_false]; done)) | (with_reducible refine LnL.nil ?_)))
  rw [bts_len]
  refine Bi.add (by omega) ?_
  refine Bi.gtr ?_ ?_ <;> intro h <;> (repeat (first | (with_reducible refine Stp.go ?_) | (with_reducible refine StpE.go E ?_) | (with_reducible refine StpW.go E ?_; clear E; intro w_ E) | (with_reducible refine StpA.go E ?_; clear E; intro b_ w_ hb_ E) | ((with_reducible refine Bi.seqT ?_ ?_); focus exact rfl) | ((with_reducible refine Bi.seqF ?_ ?_); focus decide) | ((with_reducible refine Bi.snF ?_ ?_); focus exact rfl) | ((with_reducible refine Bi.snT ?_ ?_); focus decide) | ((with_reducible refine Bi.cmp true ?_ ?_); focus (simp only [cmpB, List.length_cons, List.length_nil, Nat.reduceAdd, Int.natCast_one, Int.natCast_zero, Int.cast_ofNat_Int, Int.reduceLT, Int.reduceLE, Int.reduceEq, Int.reduceNe, ne_eq, not_true_eq_false, not_false_eq_true, decide_true, decide_false]; done)) | ((with_reducible refine Bi.cmp false ?_ ?_); focus (simp only [cmpB, List.length_cons, List.length_nil, Nat.reduceAdd, Int.natCast_one, Int.natCast_zero, Int.cast_ofNat_Int, Int.reduceLT, Int.reduceLE, Int.reduceEq, Int.reduceNe, ne_eq, not_true_eq_false, not_false_eq_true, decide_true, decide_false]; done)) | (with_reducible refine LnL.nil ?_)))
  · exact ⟨fun hh => absurd hh (by omega), fun _ => ⟨rfl, E⟩⟩
  · refine Ap.one E (i := 1) rfl u_sl_uint8 ⟨_, u_string, fun _ h => by cases h⟩ e_uint8 (Src.str (s := s)) rfl (by rw [bts_len]; omega) (by rw [bts_len]; omega) ?_
    intro s' w_ E
    (try simp only [List.set_cons_zero, List.set_cons_succ, List.cons_append, List.nil_append, Nat.zero_add, Nat.add_zero] at E)
    rw [bts_app] at E
    (repeat (first | (with_reducible refine Stp.go ?_) | (with_reducible refine StpE.go E ?_) | (with_reducible refine StpW.go E ?_; clear E; intro w_ E) | (with_reducible refine StpA.go E ?_; clear E; intro b_ w_ hb_ E) | ((with_reducible refine Bi.seqT ?_ ?_); focus exact rfl) | ((with_reducible refine Bi.seqF ?_ ?_); focus decide) | ((with_reducible refine Bi.snF ?_ ?_); focus exact rfl) | ((with_reducible refine Bi.snT ?_ ?_); focus decide) | ((with_reducible refine Bi.cmp true ?_ ?_); focus (simp only [cmpB, List.length_cons, List.length_nil, Nat.reduceAdd, Int.natCast_one, Int.natCast_zero, Int.cast_ofNat_Int, Int.reduceLT, Int.reduceLE, Int.reduceEq, Int.reduceNe, ne_eq, not_true_eq_false, not_false_eq_true, decide_true, decide_false]; done)) | ((with_reducible refine Bi.cmp false ?_ ?_); focus (simp only [cmpB, List.length_cons, List.length_nil, Nat.reduceAdd, Int.natCast_one, Int.natCast_zero, Int.cast_ofNat_Int, Int.reduceLT, Int.reduceLE, Int.reduceEq, Int.reduceNe, ne_eq, not_true_eq_false, not_false_eq_true, decide_true, decide_false]; done)) | (with_reducible refine LnL.nil ?_)))
    (try (refine St.by E (by first | exact Nat.le_of_ble_eq_true rfl | omega | (simp only [List.length_set, List.length_cons, List.length_nil]; omega)) (by first | exact rfl | assumption | exact Hs.slScal E FSl.mem) ?_; clear E; intro w_ E; try simp only [Nat.zero_add] at E))
    exact ⟨fun _ => ⟨rfl, s', E⟩, fun hh => absurd hh (by omega)⟩
theorem Output_ok {w : World} {out : ByteArray} (E : Hs w0 F w (pt c (conC dv lv bv ov rw tm) :: slA ov Ty.uint8 1 (bts out) :: l)) :
    Ca PP Fn.device_Console_Output #[ptr c] w fun r w' => r = str out ∧ Hs w0 F w' (pt c (conC dv lv bv (.slice none 0 0) rw tm) :: slA (.slice none 0 0) Ty.uint8 1 (bts ⟨#[]⟩) :: l) := by
  refine S.device_Console_Output.calls ?_
  unfold S.device_Console_Output
  refine Eq.e u_console rfl ?_
  (repeat (first | (with_reducible refine Stp.go ?_) | (with_reducible refine StpE.go E ?_) | (with_reducible refine StpW.go E ?_; clear E; intro w_ E) | (with_reducible refine StpA.go E ?_; clear E; intro b_ w_ hb_ E) | ((with_reducible refine Bi.seqT ?_ ?_); focus exact rfl) | ((with_reducible refine Bi.seqF ?_ ?_); focus decide) | ((with_reducible refine Bi.snF ?_ ?_); focus exact rfl) | ((with_reducible refine Bi.snT ?_ ?_); focus decide) | ((with_reducible refine Bi.cmp true ?_ ?_); focus (simp only [cmpB, List.length_cons, List.length_nil, Nat.reduceAdd, Int.natCast_one, Int.natCast_zero, Int.cast_ofNat_Int, Int.reduceLT, Int.reduceLE, Int.reduceEq, Int.reduceNe, ne_eq, not_true_eq_false, not_false_eq_true, decide_true, decide_false]; done)) | ((with_reducible refine Bi.cmp false ?_ ?_); focus (simp only [cmpB, List.length_cons, List.length_nil, Nat.reduceAdd, Int.natCast_one, Int.natCast_zero, Int.cast_ofNat_Int, Int.reduceLT, Int.reduceLE, Int.reduceEq, Int.reduceNe, ne_eq, not_true_eq_false, not_false_eq_true, decide_true, decide_false]; done)) | (with_reducible refine LnL.nil ?_)))
  refine CvB.sl E (s := out) (by (first | assumption | exact FPt.mem | exact FMp.mem | exact FSl.mem | (repeat (first | assumption | with_reducible exact List.mem_cons_self | refine List.mem_cons_of_mem _ ?_)))) u_sl_uint8 u_string u_uint8 ?_
  (repeat (first | (with_reducible refine Stp.go ?_) | (with_reducible refine StpE.go E ?_) | (with_reducible refine StpW.go E ?_; clear E; intro w_ E) | (with_reducible refine StpA.go E ?_; clear E; intro b_ w_ hb_ E) | ((with_reducible refine Bi.seqT ?_ ?_); focus exact rfl) | ((with_reducible refine Bi.seqF ?_ ?_); focus decide) | ((with_reducible refine Bi.snF ?_ ?_); focus exact rfl) | ((with_reducible refine Bi.snT ?_ ?_); focus decide) | ((with_reducible refine Bi.cmp true ?_ ?_); focus (simp only [cmpB, List.length_cons, List.length_nil, Nat.reduceAdd, Int.natCast_one, Int.natCast_zero, Int.cast_ofNat_Int, Int.reduceLT, Int.reduceLE, Int.reduceEq, Int.reduceNe, ne_eq, not_true_eq_false, not_false_eq_true, decide_true, decide_false]; done)) | ((with_reducible refine Bi.cmp false ?_ ?_); focus (simp only [cmpB, List.length_cons, List.length_nil, Nat.reduceAdd, Int.natCast_one, Int.natCast_zero, Int.cast_ofNat_Int, Int.reduceLT, Int.reduceLE, Int.reduceEq, Int.reduceNe, ne_eq, not_true_eq_false, not_false_eq_true, decide_true, decide_false]; done)) | (with_reducible refine LnL.nil ?_)))
  (try (refine St.by E (by first | exact Nat.le_of_ble_eq_true rfl | omega | (simp only [List.length_set, List.length_cons, List.length_nil]; omega)) (by first | exact rfl | assumption | exact Hs.slScal E FSl.mem) ?_; clear E; intro w_ E; try simp only [Nat.zero_add] at E))
  refine ⟨rfl, ?_⟩
  have E := (E.nilSl Ty.uint8 1)
  (replace E := ((E.bIx 0).bIx 1))
  exact E.drop (.cons_cons _ (.cons_cons _ (.cons _ (List.Sublist.refl _))))
end Go.Proofs.YtdhieaifhlikpaaDoor
