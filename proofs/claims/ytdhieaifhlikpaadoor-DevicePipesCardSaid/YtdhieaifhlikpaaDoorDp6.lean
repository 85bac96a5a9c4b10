/-
  DevicePipes: it returns true.
-/
import Derived.Test.YtdhieaifhlikpaaDoorDp5
namespace Go.Proofs.YtdhieaifhlikpaaDoor
open Go Go.Sh
set_option maxRecDepth 100000
set_option linter.unusedVariables false
set_option linter.unusedSimpArgs false
variable {w0 w : World} {F : Nat → Prop} {l : List As}

theorem b_pip1 : hasBody PP Fn.law30_DevicePipes_1 = true := by kernel_rfl
/-- The blocks that are not empty. -/
def full (l : List ByteArray) : List ByteArray := l.filter fun s => decide (s ≠ ⟨#[]⟩)
theorem full_take {l : List ByteArray} {i : Nat} {x : ByteArray} (h : l[i]? = some x) : full (l.take (i + 1)) = if x = ⟨#[]⟩ then full (l.take i) else full (l.take i) ++ [x] := by
  rw [List.take_add_one, h]
  unfold full
  rw [List.filter_append]
  split
  · rename_i hx; simp [hx]
  · rename_i hx; simp [hx]
theorem full_drop {l : List ByteArray} {i : Nat} {x : ByteArray} (h : l[i]? = some x) : full (l.drop i) = if x = ⟨#[]⟩ then full (l.drop (i + 1)) else x :: full (l.drop (i + 1)) := by
  have hlt := (List.getElem?_eq_some_iff.1 h).1
  have hx := (List.getElem?_eq_some_iff.1 h).2
  rw [List.drop_eq_getElem_cons hlt, hx]
  unfold full
  split
  · rename_i he; simp [he]
  · rename_i he; simp [he]
theorem tot_full : ∀ {l : List ByteArray}, (∀ x ∈ l, x.size ≤ 1000) → tot (full l) ≤ 1000 * l.length ∧ (full l).length ≤ l.length
  | [], _ => ⟨Nat.le_refl _, Nat.le_refl _⟩
  | x :: r, h => by
    have ih := tot_full (l := r) fun y hy => h y (List.mem_cons_of_mem _ hy)
    have hx := h x List.mem_cons_self
    unfold full at ih ⊢
    rw [List.filter_cons]
    split
    · simp only [tot, List.length_cons]; omega
    · simp only [List.length_cons]; omega
theorem second_handle {h : Nat} {v : Value} (h0 : aget (aput [] (i64 ((1 : Nat) : Int)) v) (i64 h) = none) (h1 : 1 ≤ h) (hall : ∀ j : Nat, 1 ≤ j → j < h → aget (aput [] (i64 ((1 : Nat) : Int)) v) (i64 j) ≠ none) : h = 2 := by
  by_cases h2 : h = 1
  · subst h2; exact absurd h0 (by simp [aget, aput, keyEq])
  · by_cases h3 : h = 2
    · exact h3
    · exact absurd (show aget (aput [] (i64 ((1 : Nat) : Int)) v) (i64 ((2 : Nat) : Int)) = none by simp [aget, aput, keyEq]) (hall 2 (by omega) (by omega))

theorem Pipes_ok {v1 : Value} {texts : List ByteArray} {e : Bool} (h1 : Rdl w v1 (texts.map str)) (hsz : ∀ x ∈ texts, x.size ≤ 9223372036854775807) :
    Ca PP Fn.law30_DevicePipes #[v1, .bool e] w fun r w' => r = .bool true ∧ Hs w Emp w' [] := by
  refine S.law30_DevicePipes.calls ?_
  unfold S.law30_DevicePipes
  have E := Hs.start w Emp
  refine (awake_ok E).mono ?_
  clear E
  rintro r w_ ⟨rfl, E⟩
  (repeat (first | (with_reducible refine Stp.go ?_) | (with_reducible refine StpE.go E ?_) | (with_reducible refine StpW.go E ?_; clear E; intro w_ E) | (with_reducible refine StpA.go E ?_; clear E; intro b_ w_ hb_ E) | (apply hJ1; intro u_) | (apply hJ2; intro u_) | (apply hJ3; intro u_) | (apply hJ4; intro u_) | (apply hJ5; intro u_) | (apply hJ6; intro u_) | ((with_reducible refine Bi.seqT ?_ ?_); focus exact rfl) | ((with_reducible refine Bi.seqF ?_ ?_); focus decide) | ((with_reducible refine Bi.snF ?_ ?_); focus exact rfl) | ((with_reducible refine Bi.snT ?_ ?_); focus decide) | ((with_reducible refine Bi.cmp true ?_ ?_); focus (simp only [cmpB, List.length_cons, List.length_nil, Nat.reduceAdd, Int.natCast_one, Int.natCast_zero, Int.cast_ofNat_Int, Int.reduceLT, Int.reduceLE, Int.reduceEq, Int.reduceNe, ne_eq, not_true_eq_false, not_false_eq_true, decide_true, decide_false]; done)) | ((with_reducible refine Bi.cmp false ?_ ?_); focus (simp only [cmpB, List.length_cons, List.length_nil, Nat.reduceAdd, Int.natCast_one, Int.natCast_zero, Int.cast_ofNat_Int, Int.reduceLT, Int.reduceLE, Int.reduceEq, Int.reduceNe, ne_eq, not_true_eq_false, not_false_eq_true, decide_true, decide_false]; done)) | (with_reducible refine LnL.nil ?_)))
  (intro J1 hJ1)
  refine LnL.rdl h1 ?_
  rw [List.length_map]
  refine Bi.gtr ?_ ?_ <;> intro hn <;> (repeat (first | (with_reducible refine Stp.go ?_) | (with_reducible refine StpE.go E ?_) | (with_reducible refine StpW.go E ?_; clear E; intro w_ E) | (with_reducible refine StpA.go E ?_; clear E; intro b_ w_ hb_ E) | (apply hJ1; intro u_) | (apply hJ2; intro u_) | (apply hJ3; intro u_) | (apply hJ4; intro u_) | (apply hJ5; intro u_) | (apply hJ6; intro u_) | ((with_reducible refine Bi.seqT ?_ ?_); focus exact rfl) | ((with_reducible refine Bi.seqF ?_ ?_); focus decide) | ((with_reducible refine Bi.snF ?_ ?_); focus exact rfl) | ((with_reducible refine Bi.snT ?_ ?_); focus decide) | ((with_reducible refine Bi.cmp true ?_ ?_); focus (simp only [cmpB, List.length_cons, List.length_nil, Nat.reduceAdd, Int.natCast_one, Int.natCast_zero, Int.cast_ofNat_Int, Int.reduceLT, Int.reduceLE, Int.reduceEq, Int.reduceNe, ne_eq, not_true_eq_false, not_false_eq_true, decide_true, decide_false]; done)) | ((with_reducible refine Bi.cmp false ?_ ?_); focus (simp only [cmpB, List.length_cons, List.length_nil, Nat.reduceAdd, Int.natCast_one, Int.natCast_zero, Int.cast_ofNat_Int, Int.reduceLT, Int.reduceLE, Int.reduceEq, Int.reduceNe, ne_eq, not_true_eq_false, not_false_eq_true, decide_true, decide_false]; done)) | (with_reducible refine LnL.nil ?_)))
  · exact ⟨rfl, E⟩
  refine (ContainsFunc_ok (p := fun x => match x with | .string s => decide (1000 < s.size) | _ => false) (by rw [List.length_map]; omega) E h1 ?_).mono ?_
  · intro x hx w_ E
    obtain ⟨s, hs, rfl⟩ := List.mem_map.1 hx
    refine CaV.mk b_pip1 ?_
    refine S.law30_DevicePipes_1.calls (a0 := str s) ?_
    unfold S.law30_DevicePipes_1
    (repeat (first | (with_reducible refine Stp.go ?_) | (with_reducible refine StpE.go E ?_) | (with_reducible refine StpW.go E ?_; clear E; intro w_ E) | (with_reducible refine StpA.go E ?_; clear E; intro b_ w_ hb_ E) | (apply hJ1; intro u_) | (apply hJ2; intro u_) | (apply hJ3; intro u_) | (apply hJ4; intro u_) | (apply hJ5; intro u_) | (apply hJ6; intro u_) | ((with_reducible refine Bi.seqT ?_ ?_); focus exact rfl) | ((with_reducible refine Bi.seqF ?_ ?_); focus decide) | ((with_reducible refine Bi.snF ?_ ?_); focus exact rfl) | ((with_reducible refine Bi.snT ?_ ?_); focus decide) | ((with_reducible refine Bi.cmp true ?_ ?_); focus (simp only [cmpB, List.length_cons, List.length_nil, Nat.reduceAdd, Int.natCast_one, Int.natCast_zero, Int.cast_ofNat_Int, Int.reduceLT, Int.reduceLE, Int.reduceEq, Int.reduceNe, ne_eq, not_true_eq_false, not_false_eq_true, decide_true, decide_false]; done)) | ((with_reducible refine Bi.cmp false ?_ ?_); focus (simp only [cmpB, List.length_cons, List.length_nil, Nat.reduceAdd, Int.natCast_one, Int.natCast_zero, Int.cast_ofNat_Int, Int.reduceLT, Int.reduceLE, Int.reduceEq, Int.reduceNe, ne_eq, not_true_eq_false, not_false_eq_true, decide_true, decide_false]; done)) | (with_reducible refine LnL.nil ?_)))
    refine Bi.gtr ?_ ?_ <;> intro h3
    · exact ⟨by simp; omega, E⟩
    · exact ⟨by simp; omega, E⟩
  clear E
  rintro r w_ ⟨rfl, E⟩
  cases hany : (texts.map str).any (fun x => match x with | .string s => decide (1000 < s.size) | _ => false) with
  | true => (repeat (first | (with_reducible refine Stp.go ?_) | (with_reducible refine StpE.go E ?_) | (with_reducible refine StpW.go E ?_; clear E; intro w_ E) | (with_reducible refine StpA.go E ?_; clear E; intro b_ w_ hb_ E) | (apply hJ1; intro u_) | (apply hJ2; intro u_) | (apply hJ3; intro u_) | (apply hJ4; intro u_) | (apply hJ5; intro u_) | (apply hJ6; intro u_) | ((with_reducible refine Bi.seqT ?_ ?_); focus exact rfl) | ((with_reducible refine Bi.seqF ?_ ?_); focus decide) | ((with_reducible refine Bi.snF ?_ ?_); focus exact rfl) | ((with_reducible refine Bi.snT ?_ ?_); focus decide) | ((with_reducible refine Bi.cmp true ?_ ?_); focus (simp only [cmpB, List.length_cons, List.length_nil, Nat.reduceAdd, Int.natCast_one, Int.natCast_zero, Int.cast_ofNat_Int, Int.reduceLT, Int.reduceLE, Int.reduceEq, Int.reduceNe, ne_eq, not_true_eq_false, not_false_eq_true, decide_true, decide_false]; done)) | ((with_reducible refine Bi.cmp false ?_ ?_); focus (simp only [cmpB, List.length_cons, List.length_nil, Nat.reduceAdd, Int.natCast_one, Int.natCast_zero, Int.cast_ofNat_Int, Int.reduceLT, Int.reduceLE, Int.reduceEq, Int.reduceNe, ne_eq, not_true_eq_false, not_false_eq_true, decide_true, decide_false]; done)) | (with_reducible refine LnL.nil ?_))); exact ⟨rfl, E⟩
  | false =>
  have hle : ∀ x ∈ texts, x.size ≤ 1000 := by
    intro x hx
    rw [List.any_eq_false] at hany
    have := hany (str x) (List.mem_map.2 ⟨x, hx, rfl⟩)
    simpa using this
  (repeat (first | (with_reducible refine Stp.go ?_) | (with_reducible refine StpE.go E ?_) | (with_reducible refine StpW.go E ?_; clear E; intro w_ E) | (with_reducible refine StpA.go E ?_; clear E; intro b_ w_ hb_ E) | (apply hJ1; intro u_) | (apply hJ2; intro u_) | (apply hJ3; intro u_) | (apply hJ4; intro u_) | (apply hJ5; intro u_) | (apply hJ6; intro u_) | ((with_reducible refine Bi.seqT ?_ ?_); focus exact rfl) | ((with_reducible refine Bi.seqF ?_ ?_); focus decide) | ((with_reducible refine Bi.snF ?_ ?_); focus exact rfl) | ((with_reducible refine Bi.snT ?_ ?_); focus decide) | ((with_reducible refine Bi.cmp true ?_ ?_); focus (simp only [cmpB, List.length_cons, List.length_nil, Nat.reduceAdd, Int.natCast_one, Int.natCast_zero, Int.cast_ofNat_Int, Int.reduceLT, Int.reduceLE, Int.reduceEq, Int.reduceNe, ne_eq, not_true_eq_false, not_false_eq_true, decide_true, decide_false]; done)) | ((with_reducible refine Bi.cmp false ?_ ?_); focus (simp only [cmpB, List.length_cons, List.length_nil, Nat.reduceAdd, Int.natCast_one, Int.natCast_zero, Int.cast_ofNat_Int, Int.reduceLT, Int.reduceLE, Int.reduceEq, Int.reduceNe, ne_eq, not_true_eq_false, not_false_eq_true, decide_true, decide_false]; done)) | (with_reducible refine LnL.nil ?_)))
  clear hJ1
  refine (Pipe_ok (o := ann) (by decide) (by decide) E).mono ?_
  clear E
  rintro r w_ ⟨pb, pp, x0, x1, d, rt, fm, om, f0, f1, rfl, hne, E⟩
  (repeat (first | (with_reducible refine Stp.go ?_) | (with_reducible refine StpE.go E ?_) | (with_reducible refine StpW.go E ?_; clear E; intro w_ E) | (with_reducible refine StpA.go E ?_; clear E; intro b_ w_ hb_ E) | (apply hJ1; intro u_) | (apply hJ2; intro u_) | (apply hJ3; intro u_) | (apply hJ4; intro u_) | (apply hJ5; intro u_) | (apply hJ6; intro u_) | ((with_reducible refine Bi.seqT ?_ ?_); focus exact rfl) | ((with_reducible refine Bi.seqF ?_ ?_); focus decide) | ((with_reducible refine Bi.snF ?_ ?_); focus exact rfl) | ((with_reducible refine Bi.snT ?_ ?_); focus decide) | ((with_reducible refine Bi.cmp true ?_ ?_); focus (simp only [cmpB, List.length_cons, List.length_nil, Nat.reduceAdd, Int.natCast_one, Int.natCast_zero, Int.cast_ofNat_Int, Int.reduceLT, Int.reduceLE, Int.reduceEq, Int.reduceNe, ne_eq, not_true_eq_false, not_false_eq_true, decide_true, decide_false]; done)) | ((with_reducible refine Bi.cmp false ?_ ?_); focus (simp only [cmpB, List.length_cons, List.length_nil, Nat.reduceAdd, Int.natCast_one, Int.natCast_zero, Int.cast_ofNat_Int, Int.reduceLT, Int.reduceLE, Int.reduceEq, Int.reduceNe, ne_eq, not_true_eq_false, not_false_eq_true, decide_true, decide_false]; done)) | (with_reducible refine LnL.nil ?_)))
  (intro J2 hJ2)
  (repeat (first | (with_reducible refine Stp.go ?_) | (with_reducible refine StpE.go E ?_) | (with_reducible refine StpW.go E ?_; clear E; intro w_ E) | (with_reducible refine StpA.go E ?_; clear E; intro b_ w_ hb_ E) | (apply hJ1; intro u_) | (apply hJ2; intro u_) | (apply hJ3; intro u_) | (apply hJ4; intro u_) | (apply hJ5; intro u_) | (apply hJ6; intro u_) | ((with_reducible refine Bi.seqT ?_ ?_); focus exact rfl) | ((with_reducible refine Bi.seqF ?_ ?_); focus decide) | ((with_reducible refine Bi.snF ?_ ?_); focus exact rfl) | ((with_reducible refine Bi.snT ?_ ?_); focus decide) | ((with_reducible refine Bi.cmp true ?_ ?_); focus (simp only [cmpB, List.length_cons, List.length_nil, Nat.reduceAdd, Int.natCast_one, Int.natCast_zero, Int.cast_ofNat_Int, Int.reduceLT, Int.reduceLE, Int.reduceEq, Int.reduceNe, ne_eq, not_true_eq_false, not_false_eq_true, decide_true, decide_false]; done)) | ((with_reducible refine Bi.cmp false ?_ ?_); focus (simp only [cmpB, List.length_cons, List.length_nil, Nat.reduceAdd, Int.natCast_one, Int.natCast_zero, Int.cast_ofNat_Int, Int.reduceLT, Int.reduceLE, Int.reduceEq, Int.reduceNe, ne_eq, not_true_eq_false, not_false_eq_true, decide_true, decide_false]; done)) | (with_reducible refine LnL.nil ?_)))
  refine Eq.ef u_pdevice rfl ?_
  (repeat (first | (with_reducible refine Stp.go ?_) | (with_reducible refine StpE.go E ?_) | (with_reducible refine StpW.go E ?_; clear E; intro w_ E) | (with_reducible refine StpA.go E ?_; clear E; intro b_ w_ hb_ E) | (apply hJ1; intro u_) | (apply hJ2; intro u_) | (apply hJ3; intro u_) | (apply hJ4; intro u_) | (apply hJ5; intro u_) | (apply hJ6; intro u_) | ((with_reducible refine Bi.seqT ?_ ?_); focus exact rfl) | ((with_reducible refine Bi.seqF ?_ ?_); focus decide) | ((with_reducible refine Bi.snF ?_ ?_); focus exact rfl) | ((with_reducible refine Bi.snT ?_ ?_); focus decide) | ((with_reducible refine Bi.cmp true ?_ ?_); focus (simp only [cmpB, List.length_cons, List.length_nil, Nat.reduceAdd, Int.natCast_one, Int.natCast_zero, Int.cast_ofNat_Int, Int.reduceLT, Int.reduceLE, Int.reduceEq, Int.reduceNe, ne_eq, not_true_eq_false, not_false_eq_true, decide_true, decide_false]; done)) | ((with_reducible refine Bi.cmp false ?_ ?_); focus (simp only [cmpB, List.length_cons, List.length_nil, Nat.reduceAdd, Int.natCast_one, Int.natCast_zero, Int.cast_ofNat_Int, Int.reduceLT, Int.reduceLE, Int.reduceEq, Int.reduceNe, ne_eq, not_true_eq_false, not_false_eq_true, decide_true, decide_false]; done)) | (with_reducible refine LnL.nil ?_)))
  clear hJ2
  (intro J3 hJ3)
  have main : ∀ (j : Bool) (fF fT xF xT : Nat) (pF pT : Int) (nF nT : ByteArray) (w2 : World), fT ≠ fF → aget (pipM rt f0 f1) (i64 pF) = some (ptr fF) → aget (pipM rt f0 f1) (i64 pT) = some (ptr fT) →
      Hs w Emp w2 (PS j pb pp xF xT d rt fm om fF fT (pipM rt f0 f1) [] pF pT nF nT ann (.slice none 0 0) false [] []) → J3 [i64 pF, i64 pT] w2 := by
    clear E
    intro j fF fT xF xT pF pT nF nT w_ hne hF hT E
    (repeat (first | (with_reducible refine Stp.go ?_) | (with_reducible refine StpE.go E ?_) | (with_reducible refine StpW.go E ?_; clear E; intro w_ E) | (with_reducible refine StpA.go E ?_; clear E; intro b_ w_ hb_ E) | (apply hJ1; intro u_) | (apply hJ2; intro u_) | (apply hJ3; intro u_) | (apply hJ4; intro u_) | (apply hJ5; intro u_) | (apply hJ6; intro u_) | ((with_reducible refine Bi.seqT ?_ ?_); focus exact rfl) | ((with_reducible refine Bi.seqF ?_ ?_); focus decide) | ((with_reducible refine Bi.snF ?_ ?_); focus exact rfl) | ((with_reducible refine Bi.snT ?_ ?_); focus decide) | ((with_reducible refine Bi.cmp true ?_ ?_); focus (simp only [cmpB, List.length_cons, List.length_nil, Nat.reduceAdd, Int.natCast_one, Int.natCast_zero, Int.cast_ofNat_Int, Int.reduceLT, Int.reduceLE, Int.reduceEq, Int.reduceNe, ne_eq, not_true_eq_false, not_false_eq_true, decide_true, decide_false]; done)) | ((with_reducible refine Bi.cmp false ?_ ?_); focus (simp only [cmpB, List.length_cons, List.length_nil, Nat.reduceAdd, Int.natCast_one, Int.natCast_zero, Int.cast_ofNat_Int, Int.reduceLT, Int.reduceLE, Int.reduceEq, Int.reduceNe, ne_eq, not_true_eq_false, not_false_eq_true, decide_true, decide_false]; done)) | (with_reducible refine LnL.nil ?_)))
    (replace E := (E.bMp om))
    refine (Open_ok (user := ann) (m := 1) (.inr (.inl rfl)) E (by (first | assumption | exact FPt.mem | exact FMp.mem | exact FSl.mem | (repeat (first | assumption | with_reducible exact List.mem_cons_self | refine List.mem_cons_of_mem _ ?_)))) (by (first | assumption | exact FPt.mem | exact FMp.mem | exact FSl.mem | (repeat (first | assumption | with_reducible exact List.mem_cons_self | refine List.mem_cons_of_mem _ ?_)))) hF (by (first | assumption | exact FPt.mem | exact FMp.mem | exact FSl.mem | (repeat (first | assumption | with_reducible exact List.mem_cons_self | refine List.mem_cons_of_mem _ ?_)))) rfl (by decide) (by decide) (fun _ h => by cases h) (by decide)).mono ?_
    clear E
    rintro r w_ ⟨h, h3, -, -, hfirst, rfl, E⟩
    obtain rfl := first_handle h3 hfirst
    (repeat (first | (with_reducible refine Stp.go ?_) | (with_reducible refine StpE.go E ?_) | (with_reducible refine StpW.go E ?_; clear E; intro w_ E) | (with_reducible refine StpA.go E ?_; clear E; intro b_ w_ hb_ E) | (apply hJ1; intro u_) | (apply hJ2; intro u_) | (apply hJ3; intro u_) | (apply hJ4; intro u_) | (apply hJ5; intro u_) | (apply hJ6; intro u_) | ((with_reducible refine Bi.seqT ?_ ?_); focus exact rfl) | ((with_reducible refine Bi.seqF ?_ ?_); focus decide) | ((with_reducible refine Bi.snF ?_ ?_); focus exact rfl) | ((with_reducible refine Bi.snT ?_ ?_); focus decide) | ((with_reducible refine Bi.cmp true ?_ ?_); focus (simp only [cmpB, List.length_cons, List.length_nil, Nat.reduceAdd, Int.natCast_one, Int.natCast_zero, Int.cast_ofNat_Int, Int.reduceLT, Int.reduceLE, Int.reduceEq, Int.reduceNe, ne_eq, not_true_eq_false, not_false_eq_true, decide_true, decide_false]; done)) | ((with_reducible refine Bi.cmp false ?_ ?_); focus (simp only [cmpB, List.length_cons, List.length_nil, Nat.reduceAdd, Int.natCast_one, Int.natCast_zero, Int.cast_ofNat_Int, Int.reduceLT, Int.reduceLE, Int.reduceEq, Int.reduceNe, ne_eq, not_true_eq_false, not_false_eq_true, decide_true, decide_false]; done)) | (with_reducible refine LnL.nil ?_)))
    (replace E := (E.bIx 0).tl)
    refine (Open_ok (user := ann) (m := 0) (.inl rfl) E (by (first | assumption | exact FPt.mem | exact FMp.mem | exact FSl.mem | (repeat (first | assumption | with_reducible exact List.mem_cons_self | refine List.mem_cons_of_mem _ ?_)))) (by (first | assumption | exact FPt.mem | exact FMp.mem | exact FSl.mem | (repeat (first | assumption | with_reducible exact List.mem_cons_self | refine List.mem_cons_of_mem _ ?_)))) hT (by (first | assumption | exact FPt.mem | exact FMp.mem | exact FSl.mem | (repeat (first | assumption | with_reducible exact List.mem_cons_self | refine List.mem_cons_of_mem _ ?_)))) rfl (by decide) (by decide) (fun p hp => by simp [aput] at hp; exact ⟨fF, 1, by rw [hp]⟩) (by simp [aput])).mono ?_
    clear E
    rintro r w_ ⟨h, h3, -, hn2, hall, rfl, E⟩
    obtain rfl := second_handle hn2 h3 hall
    (repeat (first | (with_reducible refine Stp.go ?_) | (with_reducible refine StpE.go E ?_) | (with_reducible refine StpW.go E ?_; clear E; intro w_ E) | (with_reducible refine StpA.go E ?_; clear E; intro b_ w_ hb_ E) | (apply hJ1; intro u_) | (apply hJ2; intro u_) | (apply hJ3; intro u_) | (apply hJ4; intro u_) | (apply hJ5; intro u_) | (apply hJ6; intro u_) | ((with_reducible refine Bi.seqT ?_ ?_); focus exact rfl) | ((with_reducible refine Bi.seqF ?_ ?_); focus decide) | ((with_reducible refine Bi.snF ?_ ?_); focus exact rfl) | ((with_reducible refine Bi.snT ?_ ?_); focus decide) | ((with_reducible refine Bi.cmp true ?_ ?_); focus (simp only [cmpB, List.length_cons, List.length_nil, Nat.reduceAdd, Int.natCast_one, Int.natCast_zero, Int.cast_ofNat_Int, Int.reduceLT, Int.reduceLE, Int.reduceEq, Int.reduceNe, ne_eq, not_true_eq_false, not_false_eq_true, decide_true, decide_false]; done)) | ((with_reducible refine Bi.cmp false ?_ ?_); focus (simp only [cmpB, List.length_cons, List.length_nil, Nat.reduceAdd, Int.natCast_one, Int.natCast_zero, Int.cast_ofNat_Int, Int.reduceLT, Int.reduceLE, Int.reduceEq, Int.reduceNe, ne_eq, not_true_eq_false, not_false_eq_true, decide_true, decide_false]; done)) | (with_reducible refine LnL.nil ?_)))
    (replace E := (E.bIx 0).tl)
    (intro J4 hJ4)
    (repeat (first | (with_reducible refine Stp.go ?_) | (with_reducible refine StpE.go E ?_) | (with_reducible refine StpW.go E ?_; clear E; intro w_ E) | (with_reducible refine StpA.go E ?_; clear E; intro b_ w_ hb_ E) | (apply hJ1; intro u_) | (apply hJ2; intro u_) | (apply hJ3; intro u_) | (apply hJ4; intro u_) | (apply hJ5; intro u_) | (apply hJ6; intro u_) | ((with_reducible refine Bi.seqT ?_ ?_); focus exact rfl) | ((with_reducible refine Bi.seqF ?_ ?_); focus decide) | ((with_reducible refine Bi.snF ?_ ?_); focus exact rfl) | ((with_reducible refine Bi.snT ?_ ?_); focus decide) | ((with_reducible refine Bi.cmp true ?_ ?_); focus (simp only [cmpB, List.length_cons, List.length_nil, Nat.reduceAdd, Int.natCast_one, Int.natCast_zero, Int.cast_ofNat_Int, Int.reduceLT, Int.reduceLE, Int.reduceEq, Int.reduceNe, ne_eq, not_true_eq_false, not_false_eq_true, decide_true, decide_false]; done)) | ((with_reducible refine Bi.cmp false ?_ ?_); focus (simp only [cmpB, List.length_cons, List.length_nil, Nat.reduceAdd, Int.natCast_one, Int.natCast_zero, Int.cast_ofNat_Int, Int.reduceLT, Int.reduceLE, Int.reduceEq, Int.reduceNe, ne_eq, not_true_eq_false, not_false_eq_true, decide_true, decide_false]; done)) | (with_reducible refine LnL.nil ?_)))
    clear hJ4
    refine LnL.rdl h1 ?_
    rw [List.length_map]
    (replace E := ((((((((E.bMp om).bMp fm).bPt d).bPt xT).bPt xF).bPt pp).bSlV (.slice none 0 0) Ty.string).bPt pb))
    obtain ⟨O, hO⟩ : ∃ O, O = aput (aput [] (i64 ((1 : Nat) : Int)) (.agg #[ptr fF, i64 1])) (i64 ((2 : Nat) : Int)) (.agg #[ptr fT, i64 0]) := ⟨_, rfl⟩
    rw [← hO] at E
    have hO1 : aget O (i64 ((1 : Nat) : Int)) = some (.agg #[ptr fF, i64 1]) := by subst hO; rfl
    have hO2 : aget (adel O (i64 ((1 : Nat) : Int))) (i64 ((2 : Nat) : Int)) = some (.agg #[ptr fT, i64 0]) := by subst hO; rfl
    have hO3 : ∀ p ∈ adel O (i64 ((1 : Nat) : Int)), ∃ m, p.2 = .agg #[ptr fT, i64 m] := by
      subst hO
      intro p hp
      simp [aput, adel, keyEq] at hp
      exact ⟨0, by rw [hp]⟩
    refine ⟨fun l1 w1 => ∃ (i : Nat) (qv : Value), l1 = [i64 i] ∧ i ≤ texts.length ∧ Hs w Emp w1 (PS j pb pp xF xT d rt fm om fF fT (pipM rt f0 f1) O pF pT nF nT ann qv false (full (texts.take i)) []),
      fun l1 _ => match l1 with | [.int _ i] => texts.length - i.toNat | _ => 0, ⟨0, _, rfl, Nat.zero_le _, E⟩, ?_⟩
    clear E
    rintro t u w1 ⟨i, qv, h4, hi, E⟩
    cases h4
    have hf := tot_full (l := texts.take i) fun x hx => hle x (List.mem_of_mem_take hx)
    rw [List.length_take] at hf
    refine Bi.lss ?_ ?_ <;> intro hlt <;> (repeat (first | (with_reducible refine Stp.go ?_) | (with_reducible refine StpE.go E ?_) | (with_reducible refine StpW.go E ?_; clear E; intro w_ E) | (with_reducible refine StpA.go E ?_; clear E; intro b_ w_ hb_ E) | (apply hJ1; intro u_) | (apply hJ2; intro u_) | (apply hJ3; intro u_) | (apply hJ4; intro u_) | (apply hJ5; intro u_) | (apply hJ6; intro u_) | ((with_reducible refine Bi.seqT ?_ ?_); focus exact rfl) | ((with_reducible refine Bi.seqF ?_ ?_); focus decide) | ((with_reducible refine Bi.snF ?_ ?_); focus exact rfl) | ((with_reducible refine Bi.snT ?_ ?_); focus decide) | ((with_reducible refine Bi.cmp true ?_ ?_); focus (simp only [cmpB, List.length_cons, List.length_nil, Nat.reduceAdd, Int.natCast_one, Int.natCast_zero, Int.cast_ofNat_Int, Int.reduceLT, Int.reduceLE, Int.reduceEq, Int.reduceNe, ne_eq, not_true_eq_false, not_false_eq_true, decide_true, decide_false]; done)) | ((with_reducible refine Bi.cmp false ?_ ?_); focus (simp only [cmpB, List.length_cons, List.length_nil, Nat.reduceAdd, Int.natCast_one, Int.natCast_zero, Int.cast_ofNat_Int, Int.reduceLT, Int.reduceLE, Int.reduceEq, Int.reduceNe, ne_eq, not_true_eq_false, not_false_eq_true, decide_true, decide_false]; done)) | (with_reducible refine LnL.nil ?_)))
    · have hx : texts[i]? = some texts[i] := List.getElem?_eq_getElem (by omega)
      have hxs := hle texts[i] (List.getElem_mem _)
      have hft := full_take hx
      generalize texts[i] = x at hx hxs hft
      refine IxA.rdl E h1 (by omega) (x := str x) (by rw [Int.toNat_natCast, List.getElem?_map, hx]; rfl) ?_
      intro a ha
      refine ha _ ?_
      refine (pw_ok hO1 (by omega) (by omega) (by omega) E).mono ?_
      clear E
      rintro r w_ ⟨rfl, qv', E⟩
      (repeat (first | (with_reducible refine Stp.go ?_) | (with_reducible refine StpE.go E ?_) | (with_reducible refine StpW.go E ?_; clear E; intro w_ E) | (with_reducible refine StpA.go E ?_; clear E; intro b_ w_ hb_ E) | (apply hJ1; intro u_) | (apply hJ2; intro u_) | (apply hJ3; intro u_) | (apply hJ4; intro u_) | (apply hJ5; intro u_) | (apply hJ6; intro u_) | ((with_reducible refine Bi.seqT ?_ ?_); focus exact rfl) | ((with_reducible refine Bi.seqF ?_ ?_); focus decide) | ((with_reducible refine Bi.snF ?_ ?_); focus exact rfl) | ((with_reducible refine Bi.snT ?_ ?_); focus decide) | ((with_reducible refine Bi.cmp true ?_ ?_); focus (simp only [cmpB, List.length_cons, List.length_nil, Nat.reduceAdd, Int.natCast_one, Int.natCast_zero, Int.cast_ofNat_Int, Int.reduceLT, Int.reduceLE, Int.reduceEq, Int.reduceNe, ne_eq, not_true_eq_false, not_false_eq_true, decide_true, decide_false]; done)) | ((with_reducible refine Bi.cmp false ?_ ?_); focus (simp only [cmpB, List.length_cons, List.length_nil, Nat.reduceAdd, Int.natCast_one, Int.natCast_zero, Int.cast_ofNat_Int, Int.reduceLT, Int.reduceLE, Int.reduceEq, Int.reduceNe, ne_eq, not_true_eq_false, not_false_eq_true, decide_true, decide_false]; done)) | (with_reducible refine LnL.nil ?_)))
      (intro J5 hJ5)
      (repeat (first | (with_reducible refine Stp.go ?_) | (with_reducible refine StpE.go E ?_) | (with_reducible refine StpW.go E ?_; clear E; intro w_ E) | (with_reducible refine StpA.go E ?_; clear E; intro b_ w_ hb_ E) | (apply hJ1; intro u_) | (apply hJ2; intro u_) | (apply hJ3; intro u_) | (apply hJ4; intro u_) | (apply hJ5; intro u_) | (apply hJ6; intro u_) | ((with_reducible refine Bi.seqT ?_ ?_); focus exact rfl) | ((with_reducible refine Bi.seqF ?_ ?_); focus decide) | ((with_reducible refine Bi.snF ?_ ?_); focus exact rfl) | ((with_reducible refine Bi.snT ?_ ?_); focus decide) | ((with_reducible refine Bi.cmp true ?_ ?_); focus (simp only [cmpB, List.length_cons, List.length_nil, Nat.reduceAdd, Int.natCast_one, Int.natCast_zero, Int.cast_ofNat_Int, Int.reduceLT, Int.reduceLE, Int.reduceEq, Int.reduceNe, ne_eq, not_true_eq_false, not_false_eq_true, decide_true, decide_false]; done)) | ((with_reducible refine Bi.cmp false ?_ ?_); focus (simp only [cmpB, List.length_cons, List.length_nil, Nat.reduceAdd, Int.natCast_one, Int.natCast_zero, Int.cast_ofNat_Int, Int.reduceLT, Int.reduceLE, Int.reduceEq, Int.reduceNe, ne_eq, not_true_eq_false, not_false_eq_true, decide_true, decide_false]; done)) | (with_reducible refine LnL.nil ?_)))
      refine Bi.add (by omega) ?_
      refine ⟨⟨i + 1, qv', by simp, by omega, ?_⟩, by simp only []; omega⟩
      rw [hft]; exact E
    · have hti : texts.take i = texts := List.take_of_length_le (by omega)
      rw [hti] at E hf
      refine (pc_ok hne hO1 hO3 E).mono ?_
      clear E
      rintro r w_ ⟨rfl, E⟩
      (repeat (first | (with_reducible refine Stp.go ?_) | (with_reducible refine StpE.go E ?_) | (with_reducible refine StpW.go E ?_; clear E; intro w_ E) | (with_reducible refine StpA.go E ?_; clear E; intro b_ w_ hb_ E) | (apply hJ1; intro u_) | (apply hJ2; intro u_) | (apply hJ3; intro u_) | (apply hJ4; intro u_) | (apply hJ5; intro u_) | (apply hJ6; intro u_) | ((with_reducible refine Bi.seqT ?_ ?_); focus exact rfl) | ((with_reducible refine Bi.seqF ?_ ?_); focus decide) | ((with_reducible refine Bi.snF ?_ ?_); focus exact rfl) | ((with_reducible refine Bi.snT ?_ ?_); focus decide) | ((with_reducible refine Bi.cmp true ?_ ?_); focus (simp only [cmpB, List.length_cons, List.length_nil, Nat.reduceAdd, Int.natCast_one, Int.natCast_zero, Int.cast_ofNat_Int, Int.reduceLT, Int.reduceLE, Int.reduceEq, Int.reduceNe, ne_eq, not_true_eq_false, not_false_eq_true, decide_true, decide_false]; done)) | ((with_reducible refine Bi.cmp false ?_ ?_); focus (simp only [cmpB, List.length_cons, List.length_nil, Nat.reduceAdd, Int.natCast_one, Int.natCast_zero, Int.cast_ofNat_Int, Int.reduceLT, Int.reduceLE, Int.reduceEq, Int.reduceNe, ne_eq, not_true_eq_false, not_false_eq_true, decide_true, decide_false]; done)) | (with_reducible refine LnL.nil ?_)))
      refine LnL.rdl h1 ?_
      rw [List.length_map]
      refine ⟨fun l1 w1 => ∃ (i : Nat) (qv : Value), l1 = [i64 i] ∧ i ≤ texts.length ∧ Hs w Emp w1 (PS j pb pp xF xT d rt fm om fF fT (pipM rt f0 f1) (adel O (i64 ((1 : Nat) : Int))) pF pT nF nT ann qv true (full (texts.drop i)) []),
        fun l1 _ => match l1 with | [.int _ i] => texts.length - i.toNat | _ => 0, ⟨0, _, rfl, Nat.zero_le _, E⟩, ?_⟩
      clear E
      rintro t u w1 ⟨i, qv, h4, hi2, E⟩
      cases h4
      have hf2 := tot_full (l := texts.drop i) fun x hx => hle x (List.mem_of_mem_drop hx)
      rw [List.length_drop] at hf2
      refine Bi.lss ?_ ?_ <;> intro hlt2 <;> (repeat (first | (with_reducible refine Stp.go ?_) | (with_reducible refine StpE.go E ?_) | (with_reducible refine StpW.go E ?_; clear E; intro w_ E) | (with_reducible refine StpA.go E ?_; clear E; intro b_ w_ hb_ E) | (apply hJ1; intro u_) | (apply hJ2; intro u_) | (apply hJ3; intro u_) | (apply hJ4; intro u_) | (apply hJ5; intro u_) | (apply hJ6; intro u_) | ((with_reducible refine Bi.seqT ?_ ?_); focus exact rfl) | ((with_reducible refine Bi.seqF ?_ ?_); focus decide) | ((with_reducible refine Bi.snF ?_ ?_); focus exact rfl) | ((with_reducible refine Bi.snT ?_ ?_); focus decide) | ((with_reducible refine Bi.cmp true ?_ ?_); focus (simp only [cmpB, List.length_cons, List.length_nil, Nat.reduceAdd, Int.natCast_one, Int.natCast_zero, Int.cast_ofNat_Int, Int.reduceLT, Int.reduceLE, Int.reduceEq, Int.reduceNe, ne_eq, not_true_eq_false, not_false_eq_true, decide_true, decide_false]; done)) | ((with_reducible refine Bi.cmp false ?_ ?_); focus (simp only [cmpB, List.length_cons, List.length_nil, Nat.reduceAdd, Int.natCast_one, Int.natCast_zero, Int.cast_ofNat_Int, Int.reduceLT, Int.reduceLE, Int.reduceEq, Int.reduceNe, ne_eq, not_true_eq_false, not_false_eq_true, decide_true, decide_false]; done)) | (with_reducible refine LnL.nil ?_)))
      · have hx : texts[i]? = some texts[i] := List.getElem?_eq_getElem (by omega)
        have hxs := hle texts[i] (List.getElem_mem _)
        have hfd := full_drop hx
        generalize texts[i] = x at hx hxs hfd
        (intro J5 hJ5)
        refine IxA.rdl E h1 (by omega) (x := str x) (by rw [Int.toNat_natCast, List.getElem?_map, hx]; rfl) ?_
        intro a ha
        refine ha _ ?_
        refine Bi.seql ?_ ?_ <;> intro he
        · rw [if_pos he] at hfd
          rw [hfd] at E
          (repeat (first | (with_reducible refine Stp.go ?_) | (with_reducible refine StpE.go E ?_) | (with_reducible refine StpW.go E ?_; clear E; intro w_ E) | (with_reducible refine StpA.go E ?_; clear E; intro b_ w_ hb_ E) | (apply hJ1; intro u_) | (apply hJ2; intro u_) | (apply hJ3; intro u_) | (apply hJ4; intro u_) | (apply hJ5; intro u_) | (apply hJ6; intro u_) | ((with_reducible refine Bi.seqT ?_ ?_); focus exact rfl) | ((with_reducible refine Bi.seqF ?_ ?_); focus decide) | ((with_reducible refine Bi.snF ?_ ?_); focus exact rfl) | ((with_reducible refine Bi.snT ?_ ?_); focus decide) | ((with_reducible refine Bi.cmp true ?_ ?_); focus (simp only [cmpB, List.length_cons, List.length_nil, Nat.reduceAdd, Int.natCast_one, Int.natCast_zero, Int.cast_ofNat_Int, Int.reduceLT, Int.reduceLE, Int.reduceEq, Int.reduceNe, ne_eq, not_true_eq_false, not_false_eq_true, decide_true, decide_false]; done)) | ((with_reducible refine Bi.cmp false ?_ ?_); focus (simp only [cmpB, List.length_cons, List.length_nil, Nat.reduceAdd, Int.natCast_one, Int.natCast_zero, Int.cast_ofNat_Int, Int.reduceLT, Int.reduceLE, Int.reduceEq, Int.reduceNe, ne_eq, not_true_eq_false, not_false_eq_true, decide_true, decide_false]; done)) | (with_reducible refine LnL.nil ?_)))
          refine Bi.add (by omega) ?_
          exact ⟨⟨i + 1, qv, by simp, by omega, E⟩, by simp only []; omega⟩
        · rw [if_neg he] at hfd
          rw [hfd] at E hf2
          (repeat (first | (with_reducible refine Stp.go ?_) | (with_reducible refine StpE.go E ?_) | (with_reducible refine StpW.go E ?_; clear E; intro w_ E) | (with_reducible refine StpA.go E ?_; clear E; intro b_ w_ hb_ E) | (apply hJ1; intro u_) | (apply hJ2; intro u_) | (apply hJ3; intro u_) | (apply hJ4; intro u_) | (apply hJ5; intro u_) | (apply hJ6; intro u_) | ((with_reducible refine Bi.seqT ?_ ?_); focus exact rfl) | ((with_reducible refine Bi.seqF ?_ ?_); focus decide) | ((with_reducible refine Bi.snF ?_ ?_); focus exact rfl) | ((with_reducible refine Bi.snT ?_ ?_); focus decide) | ((with_reducible refine Bi.cmp true ?_ ?_); focus (simp only [cmpB, List.length_cons, List.length_nil, Nat.reduceAdd, Int.natCast_one, Int.natCast_zero, Int.cast_ofNat_Int, Int.reduceLT, Int.reduceLE, Int.reduceEq, Int.reduceNe, ne_eq, not_true_eq_false, not_false_eq_true, decide_true, decide_false]; done)) | ((with_reducible refine Bi.cmp false ?_ ?_); focus (simp only [cmpB, List.length_cons, List.length_nil, Nat.reduceAdd, Int.natCast_one, Int.natCast_zero, Int.cast_ofNat_Int, Int.reduceLT, Int.reduceLE, Int.reduceEq, Int.reduceNe, ne_eq, not_true_eq_false, not_false_eq_true, decide_true, decide_false]; done)) | (with_reducible refine LnL.nil ?_)))
          refine (pr_ok (n := 5000) (by omega) hO2 (by omega) (by omega) (.inr ⟨x, _, rfl, by omega⟩) E).mono ?_
          clear E
          rintro r w_ ⟨rfl, qv', E⟩
          simp only [List.headD_cons, List.tail_cons] at E ⊢
          (repeat (first | (with_reducible refine Stp.go ?_) | (with_reducible refine StpE.go E ?_) | (with_reducible refine StpW.go E ?_; clear E; intro w_ E) | (with_reducible refine StpA.go E ?_; clear E; intro b_ w_ hb_ E) | (apply hJ1; intro u_) | (apply hJ2; intro u_) | (apply hJ3; intro u_) | (apply hJ4; intro u_) | (apply hJ5; intro u_) | (apply hJ6; intro u_) | ((with_reducible refine Bi.seqT ?_ ?_); focus exact rfl) | ((with_reducible refine Bi.seqF ?_ ?_); focus decide) | ((with_reducible refine Bi.snF ?_ ?_); focus exact rfl) | ((with_reducible refine Bi.snT ?_ ?_); focus decide) | ((with_reducible refine Bi.cmp true ?_ ?_); focus (simp only [cmpB, List.length_cons, List.length_nil, Nat.reduceAdd, Int.natCast_one, Int.natCast_zero, Int.cast_ofNat_Int, Int.reduceLT, Int.reduceLE, Int.reduceEq, Int.reduceNe, ne_eq, not_true_eq_false, not_false_eq_true, decide_true, decide_false]; done)) | ((with_reducible refine Bi.cmp false ?_ ?_); focus (simp only [cmpB, List.length_cons, List.length_nil, Nat.reduceAdd, Int.natCast_one, Int.natCast_zero, Int.cast_ofNat_Int, Int.reduceLT, Int.reduceLE, Int.reduceEq, Int.reduceNe, ne_eq, not_true_eq_false, not_false_eq_true, decide_true, decide_false]; done)) | (with_reducible refine LnL.nil ?_)))
          (intro J6 hJ6)
          refine Bi.snF rfl ?_
          (repeat (first | (with_reducible refine Stp.go ?_) | (with_reducible refine StpE.go E ?_) | (with_reducible refine StpW.go E ?_; clear E; intro w_ E) | (with_reducible refine StpA.go E ?_; clear E; intro b_ w_ hb_ E) | (apply hJ1; intro u_) | (apply hJ2; intro u_) | (apply hJ3; intro u_) | (apply hJ4; intro u_) | (apply hJ5; intro u_) | (apply hJ6; intro u_) | ((with_reducible refine Bi.seqT ?_ ?_); focus exact rfl) | ((with_reducible refine Bi.seqF ?_ ?_); focus decide) | ((with_reducible refine Bi.snF ?_ ?_); focus exact rfl) | ((with_reducible refine Bi.snT ?_ ?_); focus decide) | ((with_reducible refine Bi.cmp true ?_ ?_); focus (simp only [cmpB, List.length_cons, List.length_nil, Nat.reduceAdd, Int.natCast_one, Int.natCast_zero, Int.cast_ofNat_Int, Int.reduceLT, Int.reduceLE, Int.reduceEq, Int.reduceNe, ne_eq, not_true_eq_false, not_false_eq_true, decide_true, decide_false]; done)) | ((with_reducible refine Bi.cmp false ?_ ?_); focus (simp only [cmpB, List.length_cons, List.length_nil, Nat.reduceAdd, Int.natCast_one, Int.natCast_zero, Int.cast_ofNat_Int, Int.reduceLT, Int.reduceLE, Int.reduceEq, Int.reduceNe, ne_eq, not_true_eq_false, not_false_eq_true, decide_true, decide_false]; done)) | (with_reducible refine LnL.nil ?_)))
          refine Bi.add (by omega) ?_
          exact ⟨⟨i + 1, qv', by simp, by omega, E⟩, by simp only []; omega⟩
      · have hdi : texts.drop i = [] := List.drop_of_length_le (by omega)
        rw [hdi] at E
        refine (pr_ok (n := 5000) (by omega) hO2 (by decide) (by decide) (.inl ⟨rfl, rfl⟩) E).mono ?_
        clear E
        rintro r w_ ⟨rfl, qv', E⟩
        (repeat (first | (with_reducible refine Stp.go ?_) | (with_reducible refine StpE.go E ?_) | (with_reducible refine StpW.go E ?_; clear E; intro w_ E) | (with_reducible refine StpA.go E ?_; clear E; intro b_ w_ hb_ E) | (apply hJ1; intro u_) | (apply hJ2; intro u_) | (apply hJ3; intro u_) | (apply hJ4; intro u_) | (apply hJ5; intro u_) | (apply hJ6; intro u_) | ((with_reducible refine Bi.seqT ?_ ?_); focus exact rfl) | ((with_reducible refine Bi.seqF ?_ ?_); focus decide) | ((with_reducible refine Bi.snF ?_ ?_); focus exact rfl) | ((with_reducible refine Bi.snT ?_ ?_); focus decide) | ((with_reducible refine Bi.cmp true ?_ ?_); focus (simp only [cmpB, List.length_cons, List.length_nil, Nat.reduceAdd, Int.natCast_one, Int.natCast_zero, Int.cast_ofNat_Int, Int.reduceLT, Int.reduceLE, Int.reduceEq, Int.reduceNe, ne_eq, not_true_eq_false, not_false_eq_true, decide_true, decide_false]; done)) | ((with_reducible refine Bi.cmp false ?_ ?_); focus (simp only [cmpB, List.length_cons, List.length_nil, Nat.reduceAdd, Int.natCast_one, Int.natCast_zero, Int.cast_ofNat_Int, Int.reduceLT, Int.reduceLE, Int.reduceEq, Int.reduceNe, ne_eq, not_true_eq_false, not_false_eq_true, decide_true, decide_false]; done)) | (with_reducible refine LnL.nil ?_)))
        (intro J5 hJ5)
        (repeat (first | (with_reducible refine Stp.go ?_) | (with_reducible refine StpE.go E ?_) | (with_reducible refine StpW.go E ?_; clear E; intro w_ E) | (with_reducible refine StpA.go E ?_; clear E; intro b_ w_ hb_ E) | (apply hJ1; intro u_) | (apply hJ2; intro u_) | (apply hJ3; intro u_) | (apply hJ4; intro u_) | (apply hJ5; intro u_) | (apply hJ6; intro u_) | ((with_reducible refine Bi.seqT ?_ ?_); focus exact rfl) | ((with_reducible refine Bi.seqF ?_ ?_); focus decide) | ((with_reducible refine Bi.snF ?_ ?_); focus exact rfl) | ((with_reducible refine Bi.snT ?_ ?_); focus decide) | ((with_reducible refine Bi.cmp true ?_ ?_); focus (simp only [cmpB, List.length_cons, List.length_nil, Nat.reduceAdd, Int.natCast_one, Int.natCast_zero, Int.cast_ofNat_Int, Int.reduceLT, Int.reduceLE, Int.reduceEq, Int.reduceNe, ne_eq, not_true_eq_false, not_false_eq_true, decide_true, decide_false]; done)) | ((with_reducible refine Bi.cmp false ?_ ?_); focus (simp only [cmpB, List.length_cons, List.length_nil, Nat.reduceAdd, Int.natCast_one, Int.natCast_zero, Int.cast_ofNat_Int, Int.reduceLT, Int.reduceLE, Int.reduceEq, Int.reduceNe, ne_eq, not_true_eq_false, not_false_eq_true, decide_true, decide_false]; done)) | (with_reducible refine LnL.nil ?_)))
        exact ⟨rfl, E.drop (List.nil_sublist _)⟩
  clear hJ3
  simp only [pipL, List.cons_append, List.nil_append] at E
  replace E := E.nilSl Ty.string 1
  cases e
  · (repeat (first | (with_reducible refine Stp.go ?_) | (with_reducible refine StpE.go E ?_) | (with_reducible refine StpW.go E ?_; clear E; intro w_ E) | (with_reducible refine StpA.go E ?_; clear E; intro b_ w_ hb_ E) | (apply hJ1; intro u_) | (apply hJ2; intro u_) | (apply hJ3; intro u_) | (apply hJ4; intro u_) | (apply hJ5; intro u_) | (apply hJ6; intro u_) | ((with_reducible refine Bi.seqT ?_ ?_); focus exact rfl) | ((with_reducible refine Bi.seqF ?_ ?_); focus decide) | ((with_reducible refine Bi.snF ?_ ?_); focus exact rfl) | ((with_reducible refine Bi.snT ?_ ?_); focus decide) | ((with_reducible refine Bi.cmp true ?_ ?_); focus (simp only [cmpB, List.length_cons, List.length_nil, Nat.reduceAdd, Int.natCast_one, Int.natCast_zero, Int.cast_ofNat_Int, Int.reduceLT, Int.reduceLE, Int.reduceEq, Int.reduceNe, ne_eq, not_true_eq_false, not_false_eq_true, decide_true, decide_false]; done)) | ((with_reducible refine Bi.cmp false ?_ ?_); focus (simp only [cmpB, List.length_cons, List.length_nil, Nat.reduceAdd, Int.natCast_one, Int.natCast_zero, Int.cast_ofNat_Int, Int.reduceLT, Int.reduceLE, Int.reduceEq, Int.reduceNe, ne_eq, not_true_eq_false, not_false_eq_true, decide_true, decide_false]; done)) | (with_reducible refine LnL.nil ?_)))
    refine main true f0 f1 x0 x1 1 2 dataN data1N _ (fun h => hne h.symm) rfl rfl ?_
    (replace E := ((E.bSlV (.slice none 0 0) Ty.string).bPt pb))
    exact E
  · (repeat (first | (with_reducible refine Stp.go ?_) | (with_reducible refine StpE.go E ?_) | (with_reducible refine StpW.go E ?_; clear E; intro w_ E) | (with_reducible refine StpA.go E ?_; clear E; intro b_ w_ hb_ E) | (apply hJ1; intro u_) | (apply hJ2; intro u_) | (apply hJ3; intro u_) | (apply hJ4; intro u_) | (apply hJ5; intro u_) | (apply hJ6; intro u_) | ((with_reducible refine Bi.seqT ?_ ?_); focus exact rfl) | ((with_reducible refine Bi.seqF ?_ ?_); focus decide) | ((with_reducible refine Bi.snF ?_ ?_); focus exact rfl) | ((with_reducible refine Bi.snT ?_ ?_); focus decide) | ((with_reducible refine Bi.cmp true ?_ ?_); focus (simp only [cmpB, List.length_cons, List.length_nil, Nat.reduceAdd, Int.natCast_one, Int.natCast_zero, Int.cast_ofNat_Int, Int.reduceLT, Int.reduceLE, Int.reduceEq, Int.reduceNe, ne_eq, not_true_eq_false, not_false_eq_true, decide_true, decide_false]; done)) | ((with_reducible refine Bi.cmp false ?_ ?_); focus (simp only [cmpB, List.length_cons, List.length_nil, Nat.reduceAdd, Int.natCast_one, Int.natCast_zero, Int.cast_ofNat_Int, Int.reduceLT, Int.reduceLE, Int.reduceEq, Int.reduceNe, ne_eq, not_true_eq_false, not_false_eq_true, decide_true, decide_false]; done)) | (with_reducible refine LnL.nil ?_)))
    refine main false f1 f0 x1 x0 2 1 data1N dataN _ hne rfl rfl ?_
    (replace E := (((((((((E.bPt f1).bMp om).bMp fm).bPt d).bPt x0).bPt x1).bPt pp).bSlV (.slice none 0 0) Ty.string).bPt pb))
    exact E
end Go.Proofs.YtdhieaifhlikpaaDoor
