/-
  Device: a new console; searching with a function.
-/
import Derived.Test.YtdhieaifhlikpaaDoorDv5
namespace Go.Proofs.YtdhieaifhlikpaaDoor
open Go Go.Sh
set_option maxRecDepth 100000
set_option linter.unusedVariables false
set_option linter.unusedSimpArgs false
variable {w0 : World} {F : Nat → Prop} {l : List As}

theorem IndexFunc_ok {w : World} {v fv : Value} {xs : List Value} {p : Value → Bool} (hn : xs.length ≤ 9223372036854775806) (E : Hs w0 Emp w l) (h : Rdl w0 v xs)
    (call : ∀ x ∈ xs, ∀ w1, Hs w0 Emp w1 l → CaV PP fv #[x] w1 fun r w' => r = .bool (p x) ∧ Hs w0 Emp w' l) :
    Ca PP Fn.slices_IndexFunc_sl_string_string #[v, fv] w fun r w' => (∃ n : Int, r = i64 n ∧ (0 ≤ n ↔ xs.any p = true)) ∧ Hs w0 Emp w' l := by
  refine S.slices_IndexFunc_sl_string_string.calls ?_
  unfold S.slices_IndexFunc_sl_string_string
  refine LnL.rdl h ?_
  refine ⟨fun l1 w1 => ∃ i : Nat, l1 = [i64 i] ∧ i ≤ xs.length ∧ (xs.take i).any p = false ∧ Hs w0 Emp w1 l, fun l1 _ => match l1 with | [.int _ i] => xs.length - i.toNat | _ => 0, ⟨0, rfl, Nat.zero_le _, rfl, E⟩, ?_⟩
  clear E
  rintro t u w1 ⟨i, h1, hi, hp, E⟩
  cases h1
  refine Bi.lss ?_ ?_ <;> intro hlt <;> (repeat (first | (with_reducible refine Stp.go ?_) | (with_reducible refine StpE.go E ?_) | (with_reducible refine StpW.go E ?_; clear E; intro w_ E) | (with_reducible refine StpA.go E ?_; clear E; intro b_ w_ hb_ E) | ((with_reducible refine Bi.seqT ?_ ?_); focus exact rfl) | ((with_reducible refine Bi.seqF ?_ ?_); focus decide) | ((with_reducible refine Bi.snF ?_ ?_); focus exact rfl) | ((with_reducible refine Bi.snT ?_ ?_); focus decide) | ((with_reducible refine Bi.cmp true ?_ ?_); focus (simp only [cmpB, List.length_cons, List.length_nil, Nat.reduceAdd, Int.natCast_one, Int.natCast_zero, Int.cast_ofNat_Int, Int.reduceLT, Int.reduceLE, Int.reduceEq, Int.reduceNe, ne_eq, not_true_eq_false, not_false_eq_true, decide_true, decide_false]; done)) | ((with_reducible refine Bi.cmp false ?_ ?_); focus (simp only [cmpB, List.length_cons, List.length_nil, Nat.reduceAdd, Int.natCast_one, Int.natCast_zero, Int.cast_ofNat_Int, Int.reduceLT, Int.reduceLE, Int.reduceEq, Int.reduceNe, ne_eq, not_true_eq_false, not_false_eq_true, decide_true, decide_false]; done)) | (with_reducible refine LnL.nil ?_)))
  · have hx : xs[i]? = some xs[i] := List.getElem?_eq_getElem (by omega)
    refine IxA.rdl E h (by omega) (x := xs[i]) (by rw [Int.toNat_natCast]; exact hx) ?_
    intro a ha
    refine ha _ ?_
    refine (call _ (List.getElem_mem _) _ E).mono ?_
    clear E
    rintro r w_ ⟨rfl, E⟩
    have hany : (xs.take (i + 1)).any p = p xs[i] := by rw [List.take_add_one, hx, List.any_append, hp]; simp
    cases hb : p xs[i] with
    | true =>
      (repeat (first | (with_reducible refine Stp.go ?_) | (with_reducible refine StpE.go E ?_) | (with_reducible refine StpW.go E ?_; clear E; intro w_ E) | (with_reducible refine StpA.go E ?_; clear E; intro b_ w_ hb_ E) | ((with_reducible refine Bi.seqT ?_ ?_); focus exact rfl) | ((with_reducible refine Bi.seqF ?_ ?_); focus decide) | ((with_reducible refine Bi.snF ?_ ?_); focus exact rfl) | ((with_reducible refine Bi.snT ?_ ?_); focus decide) | ((with_reducible refine Bi.cmp true ?_ ?_); focus (simp only [cmpB, List.length_cons, List.length_nil, Nat.reduceAdd, Int.natCast_one, Int.natCast_zero, Int.cast_ofNat_Int, Int.reduceLT, Int.reduceLE, Int.reduceEq, Int.reduceNe, ne_eq, not_true_eq_false, not_false_eq_true, decide_true, decide_false]; done)) | ((with_reducible refine Bi.cmp false ?_ ?_); focus (simp only [cmpB, List.length_cons, List.length_nil, Nat.reduceAdd, Int.natCast_one, Int.natCast_zero, Int.cast_ofNat_Int, Int.reduceLT, Int.reduceLE, Int.reduceEq, Int.reduceNe, ne_eq, not_true_eq_false, not_false_eq_true, decide_true, decide_false]; done)) | (with_reducible refine LnL.nil ?_)))
      refine ⟨⟨i, rfl, ⟨fun _ => ?_, fun _ => by omega⟩⟩, E⟩
      rw [List.any_eq_true]; exact ⟨_, List.getElem_mem _, hb⟩
    | false =>
      (repeat (first | (with_reducible refine Stp.go ?_) | (with_reducible refine StpE.go E ?_) | (with_reducible refine StpW.go E ?_; clear E; intro w_ E) | (with_reducible refine StpA.go E ?_; clear E; intro b_ w_ hb_ E) | ((with_reducible refine Bi.seqT ?_ ?_); focus exact rfl) | ((with_reducible refine Bi.seqF ?_ ?_); focus decide) | ((with_reducible refine Bi.snF ?_ ?_); focus exact rfl) | ((with_reducible refine Bi.snT ?_ ?_); focus decide) | ((with_reducible refine Bi.cmp true ?_ ?_); focus (simp only [cmpB, List.length_cons, List.length_nil, Nat.reduceAdd, Int.natCast_one, Int.natCast_zero, Int.cast_ofNat_Int, Int.reduceLT, Int.reduceLE, Int.reduceEq, Int.reduceNe, ne_eq, not_true_eq_false, not_false_eq_true, decide_true, decide_false]; done)) | ((with_reducible refine Bi.cmp false ?_ ?_); focus (simp only [cmpB, List.length_cons, List.length_nil, Nat.reduceAdd, Int.natCast_one, Int.natCast_zero, Int.cast_ofNat_Int, Int.reduceLT, Int.reduceLE, Int.reduceEq, Int.reduceNe, ne_eq, not_true_eq_false, not_false_eq_true, decide_true, decide_false]; done)) | (with_reducible refine LnL.nil ?_)))
      refine Bi.add (by omega) ?_
      exact ⟨⟨i + 1, by simp, by omega, by rw [hany, hb], E⟩, by simp only []; omega⟩
  · have : xs.take i = xs := List.take_of_length_le (by omega)
    rw [this] at hp
    exact ⟨⟨-1, rfl, ⟨fun h => by omega, fun h => by rw [hp] at h; cases h⟩⟩, E⟩
theorem ContainsFunc_ok {w : World} {v fv : Value} {xs : List Value} {p : Value → Bool} (hn : xs.length ≤ 9223372036854775806) (E : Hs w0 Emp w l) (h : Rdl w0 v xs)
    (call : ∀ x ∈ xs, ∀ w1, Hs w0 Emp w1 l → CaV PP fv #[x] w1 fun r w' => r = .bool (p x) ∧ Hs w0 Emp w' l) :
    Ca PP Fn.slices_ContainsFunc_sl_string_string #[v, fv] w fun r w' => r = .bool (xs.any p) ∧ Hs w0 Emp w' l := by
  refine S.slices_ContainsFunc_sl_string_string.calls ?_
  unfold S.slices_ContainsFunc_sl_string_string
  refine (IndexFunc_ok hn E h call).mono ?_
  rintro r w_ ⟨⟨n, rfl, hn⟩, E⟩
  refine Bi.geq ?_ ?_ <;> intro h1
  · exact ⟨by rw [hn.1 h1], E⟩
  · have : xs.any p = false := by
      cases h2 : xs.any p with
      | false => rfl
      | true => have := hn.2 h2; omega
    exact ⟨by rw [this], E⟩

/-- A console's file "cons". -/
abbrev consF (c rt : Nat) (user : ByteArray) : List Value :=
  fcs (i64 0) (i64 0) (i64 1) 384 (i64 0) (i64 0) ⟨#[99, 111, 110, 115]⟩ user user user (ptr rt) (.map none) (.bool false) (.func (.func Fn.device_Console_take) #[ptr c] #[]) (.func (.func Fn.device_Console_print) #[ptr c] #[]) .nilFunc
theorem NewConsole_ok {w : World} {user : ByteArray} (hs : user.size ≤ 1000) (hu : goodName user = true) (E : Hs w0 F w l) :
    Ca PP Fn.device_NewConsole #[str user] w fun r w' => ∃ c d rt fm om f M, aget M (i64 1) = some (ptr f) ∧ r = .tuple #[ptr c, i64 0] ∧
      Hs w0 F w' (pt c (conC (ptr d) (.slice none 0 0) (.slice none 0 0) (.slice none 0 0) (.bool false) (i64 0)) :: slA (.slice none 0 0) Ty.uint8 1 (bts ⟨#[]⟩) :: slA (.slice none 0 0) Ty.string 1 (([] : List ByteArray).map str) :: slA (.slice none 0 0) Ty.uint8 1 (bts ⟨#[]⟩) ::
        pt d (oc [ptr rt, .map (some fm), .map (some om)] Ty.device_Device) :: mp fm (.int .i64) M :: mp om (.int .i64) [] :: pt f (oc (consF c rt user) Ty.device_file) :: l) := by
  refine S.device_NewConsole.calls ?_
  unfold S.device_NewConsole
  (repeat (first | (with_reducible refine Stp.go ?_) | (with_reducible refine StpE.go E ?_) | (with_reducible refine StpW.go E ?_; clear E; intro w_ E) | (with_reducible refine StpA.go E ?_; clear E; intro b_ w_ hb_ E) | ((with_reducible refine Bi.seqT ?_ ?_); focus exact rfl) | ((with_reducible refine Bi.seqF ?_ ?_); focus decide) | ((with_reducible refine Bi.snF ?_ ?_); focus exact rfl) | ((with_reducible refine Bi.snT ?_ ?_); focus decide) | ((with_reducible refine Bi.cmp true ?_ ?_); focus (simp only [cmpB, List.length_cons, List.length_nil, Nat.reduceAdd, Int.natCast_one, Int.natCast_zero, Int.cast_ofNat_Int, Int.reduceLT, Int.reduceLE, Int.reduceEq, Int.reduceNe, ne_eq, not_true_eq_false, not_false_eq_true, decide_true, decide_false]; done)) | ((with_reducible refine Bi.cmp false ?_ ?_); focus (simp only [cmpB, List.length_cons, List.length_nil, Nat.reduceAdd, Int.natCast_one, Int.natCast_zero, Int.cast_ofNat_Int, Int.reduceLT, Int.reduceLE, Int.reduceEq, Int.reduceNe, ne_eq, not_true_eq_false, not_false_eq_true, decide_true, decide_false]; done)) | (with_reducible refine LnL.nil ?_)))
  refine (Valid_ok (by omega)).mono ?_
  rintro r w_ ⟨rfl, rfl⟩
  rw [hu]
  (repeat (first | (with_reducible refine Stp.go ?_) | (with_reducible refine StpE.go E ?_) | (with_reducible refine StpW.go E ?_; clear E; intro w_ E) | (with_reducible refine StpA.go E ?_; clear E; intro b_ w_ hb_ E) | ((with_reducible refine Bi.seqT ?_ ?_); focus exact rfl) | ((with_reducible refine Bi.seqF ?_ ?_); focus decide) | ((with_reducible refine Bi.snF ?_ ?_); focus exact rfl) | ((with_reducible refine Bi.snT ?_ ?_); focus decide) | ((with_reducible refine Bi.cmp true ?_ ?_); focus (simp only [cmpB, List.length_cons, List.length_nil, Nat.reduceAdd, Int.natCast_one, Int.natCast_zero, Int.cast_ofNat_Int, Int.reduceLT, Int.reduceLE, Int.reduceEq, Int.reduceNe, ne_eq, not_true_eq_false, not_false_eq_true, decide_true, decide_false]; done)) | ((with_reducible refine Bi.cmp false ?_ ?_); focus (simp only [cmpB, List.length_cons, List.length_nil, Nat.reduceAdd, Int.natCast_one, Int.natCast_zero, Int.cast_ofNat_Int, Int.reduceLT, Int.reduceLE, Int.reduceEq, Int.reduceNe, ne_eq, not_true_eq_false, not_false_eq_true, decide_true, decide_false]; done)) | (with_reducible refine LnL.nil ?_)))
  refine (newDevice_ok E).mono ?_
  clear E
  rintro r w_ ⟨d, rt, fm, om, k, rfl, E⟩
  (repeat (first | (with_reducible refine Stp.go ?_) | (with_reducible refine StpE.go E ?_) | (with_reducible refine StpW.go E ?_; clear E; intro w_ E) | (with_reducible refine StpA.go E ?_; clear E; intro b_ w_ hb_ E) | ((with_reducible refine Bi.seqT ?_ ?_); focus exact rfl) | ((with_reducible refine Bi.seqF ?_ ?_); focus decide) | ((with_reducible refine Bi.snF ?_ ?_); focus exact rfl) | ((with_reducible refine Bi.snT ?_ ?_); focus decide) | ((with_reducible refine Bi.cmp true ?_ ?_); focus (simp only [cmpB, List.length_cons, List.length_nil, Nat.reduceAdd, Int.natCast_one, Int.natCast_zero, Int.cast_ofNat_Int, Int.reduceLT, Int.reduceLE, Int.reduceEq, Int.reduceNe, ne_eq, not_true_eq_false, not_false_eq_true, decide_true, decide_false]; done)) | ((with_reducible refine Bi.cmp false ?_ ?_); focus (simp only [cmpB, List.length_cons, List.length_nil, Nat.reduceAdd, Int.natCast_one, Int.natCast_zero, Int.cast_ofNat_Int, Int.reduceLT, Int.reduceLE, Int.reduceEq, Int.reduceNe, ne_eq, not_true_eq_false, not_false_eq_true, decide_true, decide_false]; done)) | (with_reducible refine LnL.nil ?_)))
  (try (refine St.by E (by first | exact Nat.le_of_ble_eq_true rfl | omega | (simp only [List.length_set, List.length_cons, List.length_nil]; omega)) (by first | exact rfl | assumption | exact Hs.slScal E FSl.mem) ?_; clear E; intro w_ E; try simp only [Nat.zero_add] at E))
  (repeat (first | (with_reducible refine Stp.go ?_) | (with_reducible refine StpE.go E ?_) | (with_reducible refine StpW.go E ?_; clear E; intro w_ E) | (with_reducible refine StpA.go E ?_; clear E; intro b_ w_ hb_ E) | ((with_reducible refine Bi.seqT ?_ ?_); focus exact rfl) | ((with_reducible refine Bi.seqF ?_ ?_); focus decide) | ((with_reducible refine Bi.snF ?_ ?_); focus exact rfl) | ((with_reducible refine Bi.snT ?_ ?_); focus decide) | ((with_reducible refine Bi.cmp true ?_ ?_); focus (simp only [cmpB, List.length_cons, List.length_nil, Nat.reduceAdd, Int.natCast_one, Int.natCast_zero, Int.cast_ofNat_Int, Int.reduceLT, Int.reduceLE, Int.reduceEq, Int.reduceNe, ne_eq, not_true_eq_false, not_false_eq_true, decide_true, decide_false]; done)) | ((with_reducible refine Bi.cmp false ?_ ?_); focus (simp only [cmpB, List.length_cons, List.length_nil, Nat.reduceAdd, Int.natCast_one, Int.natCast_zero, Int.cast_ofNat_Int, Int.reduceLT, Int.reduceLE, Int.reduceEq, Int.reduceNe, ne_eq, not_true_eq_false, not_false_eq_true, decide_true, decide_false]; done)) | (with_reducible refine LnL.nil ?_)))
  (replace E := ((((E.bMp k).bMp fm).bPt rt).bPt d))
  refine (add_ok (p := 1) (m := 384) (by decide) E).mono ?_
  clear E
  rintro r w_ ⟨f1, rfl, E⟩
  (repeat (first | (with_reducible refine Stp.go ?_) | (with_reducible refine StpE.go E ?_) | (with_reducible refine StpW.go E ?_; clear E; intro w_ E) | (with_reducible refine StpA.go E ?_; clear E; intro b_ w_ hb_ E) | ((with_reducible refine Bi.seqT ?_ ?_); focus exact rfl) | ((with_reducible refine Bi.seqF ?_ ?_); focus decide) | ((with_reducible refine Bi.snF ?_ ?_); focus exact rfl) | ((with_reducible refine Bi.snT ?_ ?_); focus decide) | ((with_reducible refine Bi.cmp true ?_ ?_); focus (simp only [cmpB, List.length_cons, List.length_nil, Nat.reduceAdd, Int.natCast_one, Int.natCast_zero, Int.cast_ofNat_Int, Int.reduceLT, Int.reduceLE, Int.reduceEq, Int.reduceNe, ne_eq, not_true_eq_false, not_false_eq_true, decide_true, decide_false]; done)) | ((with_reducible refine Bi.cmp false ?_ ?_); focus (simp only [cmpB, List.length_cons, List.length_nil, Nat.reduceAdd, Int.natCast_one, Int.natCast_zero, Int.cast_ofNat_Int, Int.reduceLT, Int.reduceLE, Int.reduceEq, Int.reduceNe, ne_eq, not_true_eq_false, not_false_eq_true, decide_true, decide_false]; done)) | (with_reducible refine LnL.nil ?_)))
  (try (refine St.by E (by first | exact Nat.le_of_ble_eq_true rfl | omega | (simp only [List.length_set, List.length_cons, List.length_nil]; omega)) (by first | exact rfl | assumption | exact Hs.slScal E FSl.mem) ?_; clear E; intro w_ E; try simp only [Nat.zero_add] at E))
  refine ⟨?_, ?_⟩
  · (repeat (first | (with_reducible refine Stp.go ?_) | (with_reducible refine StpE.go E ?_) | (with_reducible refine StpW.go E ?_; clear E; intro w_ E) | (with_reducible refine StpA.go E ?_; clear E; intro b_ w_ hb_ E) | ((with_reducible refine Bi.seqT ?_ ?_); focus exact rfl) | ((with_reducible refine Bi.seqF ?_ ?_); focus decide) | ((with_reducible refine Bi.snF ?_ ?_); focus exact rfl) | ((with_reducible refine Bi.snT ?_ ?_); focus decide) | ((with_reducible refine Bi.cmp true ?_ ?_); focus (simp only [cmpB, List.length_cons, List.length_nil, Nat.reduceAdd, Int.natCast_one, Int.natCast_zero, Int.cast_ofNat_Int, Int.reduceLT, Int.reduceLE, Int.reduceEq, Int.reduceNe, ne_eq, not_true_eq_false, not_false_eq_true, decide_true, decide_false]; done)) | ((with_reducible refine Bi.cmp false ?_ ?_); focus (simp only [cmpB, List.length_cons, List.length_nil, Nat.reduceAdd, Int.natCast_one, Int.natCast_zero, Int.cast_ofNat_Int, Int.reduceLT, Int.reduceLE, Int.reduceEq, Int.reduceNe, ne_eq, not_true_eq_false, not_false_eq_true, decide_true, decide_false]; done)) | (with_reducible refine LnL.nil ?_)))
    rfl
  (repeat (first | (with_reducible refine Stp.go ?_) | (with_reducible refine StpE.go E ?_) | (with_reducible refine StpW.go E ?_; clear E; intro w_ E) | (with_reducible refine StpA.go E ?_; clear E; intro b_ w_ hb_ E) | ((with_reducible refine Bi.seqT ?_ ?_); focus exact rfl) | ((with_reducible refine Bi.seqF ?_ ?_); focus decide) | ((with_reducible refine Bi.snF ?_ ?_); focus exact rfl) | ((with_reducible refine Bi.snT ?_ ?_); focus decide) | ((with_reducible refine Bi.cmp true ?_ ?_); focus (simp only [cmpB, List.length_cons, List.length_nil, Nat.reduceAdd, Int.natCast_one, Int.natCast_zero, Int.cast_ofNat_Int, Int.reduceLT, Int.reduceLE, Int.reduceEq, Int.reduceNe, ne_eq, not_true_eq_false, not_false_eq_true, decide_true, decide_false]; done)) | ((with_reducible refine Bi.cmp false ?_ ?_); focus (simp only [cmpB, List.length_cons, List.length_nil, Nat.reduceAdd, Int.natCast_one, Int.natCast_zero, Int.cast_ofNat_Int, Int.reduceLT, Int.reduceLE, Int.reduceEq, Int.reduceNe, ne_eq, not_true_eq_false, not_false_eq_true, decide_true, decide_false]; done)) | (with_reducible refine LnL.nil ?_)))
  (try (refine St.by E (by first | exact Nat.le_of_ble_eq_true rfl | omega | (simp only [List.length_set, List.length_cons, List.length_nil]; omega)) (by first | exact rfl | assumption | exact Hs.slScal E FSl.mem) ?_; clear E; intro w_ E; try simp only [Nat.zero_add] at E))
  (repeat (first | (with_reducible refine Stp.go ?_) | (with_reducible refine StpE.go E ?_) | (with_reducible refine StpW.go E ?_; clear E; intro w_ E) | (with_reducible refine StpA.go E ?_; clear E; intro b_ w_ hb_ E) | ((with_reducible refine Bi.seqT ?_ ?_); focus exact rfl) | ((with_reducible refine Bi.seqF ?_ ?_); focus decide) | ((with_reducible refine Bi.snF ?_ ?_); focus exact rfl) | ((with_reducible refine Bi.snT ?_ ?_); focus decide) | ((with_reducible refine Bi.cmp true ?_ ?_); focus (simp only [cmpB, List.length_cons, List.length_nil, Nat.reduceAdd, Int.natCast_one, Int.natCast_zero, Int.cast_ofNat_Int, Int.reduceLT, Int.reduceLE, Int.reduceEq, Int.reduceNe, ne_eq, not_true_eq_false, not_false_eq_true, decide_true, decide_false]; done)) | ((with_reducible refine Bi.cmp false ?_ ?_); focus (simp only [cmpB, List.length_cons, List.length_nil, Nat.reduceAdd, Int.natCast_one, Int.natCast_zero, Int.cast_ofNat_Int, Int.reduceLT, Int.reduceLE, Int.reduceEq, Int.reduceNe, ne_eq, not_true_eq_false, not_false_eq_true, decide_true, decide_false]; done)) | (with_reducible refine LnL.nil ?_)))
  (replace E := ((((E.bMp k).bMp fm).bPt rt).bPt d))
  refine (add_ok (p := 2) (m := 128) (by decide) E).mono ?_
  clear E
  rintro r w_ ⟨f2, rfl, E⟩
  refine ⟨?_, ?_⟩
  · (repeat (first | (with_reducible refine Stp.go ?_) | (with_reducible refine StpE.go E ?_) | (with_reducible refine StpW.go E ?_; clear E; intro w_ E) | (with_reducible refine StpA.go E ?_; clear E; intro b_ w_ hb_ E) | ((with_reducible refine Bi.seqT ?_ ?_); focus exact rfl) | ((with_reducible refine Bi.seqF ?_ ?_); focus decide) | ((with_reducible refine Bi.snF ?_ ?_); focus exact rfl) | ((with_reducible refine Bi.snT ?_ ?_); focus decide) | ((with_reducible refine Bi.cmp true ?_ ?_); focus (simp only [cmpB, List.length_cons, List.length_nil, Nat.reduceAdd, Int.natCast_one, Int.natCast_zero, Int.cast_ofNat_Int, Int.reduceLT, Int.reduceLE, Int.reduceEq, Int.reduceNe, ne_eq, not_true_eq_false, not_false_eq_true, decide_true, decide_false]; done)) | ((with_reducible refine Bi.cmp false ?_ ?_); focus (simp only [cmpB, List.length_cons, List.length_nil, Nat.reduceAdd, Int.natCast_one, Int.natCast_zero, Int.cast_ofNat_Int, Int.reduceLT, Int.reduceLE, Int.reduceEq, Int.reduceNe, ne_eq, not_true_eq_false, not_false_eq_true, decide_true, decide_false]; done)) | (with_reducible refine LnL.nil ?_)))
    rfl
  (repeat (first | (with_reducible refine Stp.go ?_) | (with_reducible refine StpE.go E ?_) | (with_reducible refine StpW.go E ?_; clear E; intro w_ E) | (with_reducible refine StpA.go E ?_; clear E; intro b_ w_ hb_ E) | ((with_reducible refine Bi.seqT ?_ ?_); focus exact rfl) | ((with_reducible refine Bi.seqF ?_ ?_); focus decide) | ((with_reducible refine Bi.snF ?_ ?_); focus exact rfl) | ((with_reducible refine Bi.snT ?_ ?_); focus decide) | ((with_reducible refine Bi.cmp true ?_ ?_); focus (simp only [cmpB, List.length_cons, List.length_nil, Nat.reduceAdd, Int.natCast_one, Int.natCast_zero, Int.cast_ofNat_Int, Int.reduceLT, Int.reduceLE, Int.reduceEq, Int.reduceNe, ne_eq, not_true_eq_false, not_false_eq_true, decide_true, decide_false]; done)) | ((with_reducible refine Bi.cmp false ?_ ?_); focus (simp only [cmpB, List.length_cons, List.length_nil, Nat.reduceAdd, Int.natCast_one, Int.natCast_zero, Int.cast_ofNat_Int, Int.reduceLT, Int.reduceLE, Int.reduceEq, Int.reduceNe, ne_eq, not_true_eq_false, not_false_eq_true, decide_true, decide_false]; done)) | (with_reducible refine LnL.nil ?_)))
  (try (refine St.by E (by first | exact Nat.le_of_ble_eq_true rfl | omega | (simp only [List.length_set, List.length_cons, List.length_nil]; omega)) (by first | exact rfl | assumption | exact Hs.slScal E FSl.mem) ?_; clear E; intro w_ E; try simp only [Nat.zero_add] at E))
  (repeat (first | (with_reducible refine Stp.go ?_) | (with_reducible refine StpE.go E ?_) | (with_reducible refine StpW.go E ?_; clear E; intro w_ E) | (with_reducible refine StpA.go E ?_; clear E; intro b_ w_ hb_ E) | ((with_reducible refine Bi.seqT ?_ ?_); focus exact rfl) | ((with_reducible refine Bi.seqF ?_ ?_); focus decide) | ((with_reducible refine Bi.snF ?_ ?_); focus exact rfl) | ((with_reducible refine Bi.snT ?_ ?_); focus decide) | ((with_reducible refine Bi.cmp true ?_ ?_); focus (simp only [cmpB, List.length_cons, List.length_nil, Nat.reduceAdd, Int.natCast_one, Int.natCast_zero, Int.cast_ofNat_Int, Int.reduceLT, Int.reduceLE, Int.reduceEq, Int.reduceNe, ne_eq, not_true_eq_false, not_false_eq_true, decide_true, decide_false]; done)) | ((with_reducible refine Bi.cmp false ?_ ?_); focus (simp only [cmpB, List.length_cons, List.length_nil, Nat.reduceAdd, Int.natCast_one, Int.natCast_zero, Int.cast_ofNat_Int, Int.reduceLT, Int.reduceLE, Int.reduceEq, Int.reduceNe, ne_eq, not_true_eq_false, not_false_eq_true, decide_true, decide_false]; done)) | (with_reducible refine LnL.nil ?_)))
  (replace E := ((((E.bMp k).bMp fm).bPt rt).bPt d))
  refine (add_ok (p := 3) (m := 292) (by decide) E).mono ?_
  clear E
  rintro r w_ ⟨f3, rfl, E⟩
  (replace E := (E.bPt f3))
  refine (text_ok rfl rfl E).mono ?_
  clear E
  rintro r w_ ⟨rfl, x3, E⟩
  (repeat (first | (with_reducible refine Stp.go ?_) | (with_reducible refine StpE.go E ?_) | (with_reducible refine StpW.go E ?_; clear E; intro w_ E) | (with_reducible refine StpA.go E ?_; clear E; intro b_ w_ hb_ E) | ((with_reducible refine Bi.seqT ?_ ?_); focus exact rfl) | ((with_reducible refine Bi.seqF ?_ ?_); focus decide) | ((with_reducible refine Bi.snF ?_ ?_); focus exact rfl) | ((with_reducible refine Bi.snT ?_ ?_); focus decide) | ((with_reducible refine Bi.cmp true ?_ ?_); focus (simp only [cmpB, List.length_cons, List.length_nil, Nat.reduceAdd, Int.natCast_one, Int.natCast_zero, Int.cast_ofNat_Int, Int.reduceLT, Int.reduceLE, Int.reduceEq, Int.reduceNe, ne_eq, not_true_eq_false, not_false_eq_true, decide_true, decide_false]; done)) | ((with_reducible refine Bi.cmp false ?_ ?_); focus (simp only [cmpB, List.length_cons, List.length_nil, Nat.reduceAdd, Int.natCast_one, Int.natCast_zero, Int.cast_ofNat_Int, Int.reduceLT, Int.reduceLE, Int.reduceEq, Int.reduceNe, ne_eq, not_true_eq_false, not_false_eq_true, decide_true, decide_false]; done)) | (with_reducible refine LnL.nil ?_)))
  (replace E := ((((E.bMp k).bMp fm).bPt rt).bPt d))
  refine (add_ok (p := 4) (m := 292) (by decide) E).mono ?_
  clear E
  rintro r w_ ⟨f4, rfl, E⟩
  (replace E := (E.bPt f4))
  refine (text_ok rfl rfl E).mono ?_
  clear E
  rintro r w_ ⟨rfl, x4, E⟩
  (repeat (first | (with_reducible refine Stp.go ?_) | (with_reducible refine StpE.go E ?_) | (with_reducible refine StpW.go E ?_; clear E; intro w_ E) | (with_reducible refine StpA.go E ?_; clear E; intro b_ w_ hb_ E) | ((with_reducible refine Bi.seqT ?_ ?_); focus exact rfl) | ((with_reducible refine Bi.seqF ?_ ?_); focus decide) | ((with_reducible refine Bi.snF ?_ ?_); focus exact rfl) | ((with_reducible refine Bi.snT ?_ ?_); focus decide) | ((with_reducible refine Bi.cmp true ?_ ?_); focus (simp only [cmpB, List.length_cons, List.length_nil, Nat.reduceAdd, Int.natCast_one, Int.natCast_zero, Int.cast_ofNat_Int, Int.reduceLT, Int.reduceLE, Int.reduceEq, Int.reduceNe, ne_eq, not_true_eq_false, not_false_eq_true, decide_true, decide_false]; done)) | ((with_reducible refine Bi.cmp false ?_ ?_); focus (simp only [cmpB, List.length_cons, List.length_nil, Nat.reduceAdd, Int.natCast_one, Int.natCast_zero, Int.cast_ofNat_Int, Int.reduceLT, Int.reduceLE, Int.reduceEq, Int.reduceNe, ne_eq, not_true_eq_false, not_false_eq_true, decide_true, decide_false]; done)) | (with_reducible refine LnL.nil ?_)))
  (replace E := (((((E.bPt f1).bMp om).bMp fm).bPt d).bPtT Ty.device_Console))
  (replace E := (((((((((E.bIx 5).tl.bIx 5).tl.bIx 5).tl.bIx 5).tl.bIx 5).tl.bIx 5).tl.bIx 5).tl.bIx 5).tl.bIx 5).tl)
  have E := ((E.nilSl Ty.uint8 1).nilSl Ty.string 1).nilSl Ty.uint8 1
  (replace E := (E.bPtT Ty.device_Console))
  exact ⟨_, _, _, _, _, _, _, rfl, rfl, E⟩
end Go.Proofs.YtdhieaifhlikpaaDoor
