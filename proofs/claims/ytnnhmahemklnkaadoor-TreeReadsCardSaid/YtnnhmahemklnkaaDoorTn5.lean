/-
  Trees: clean paths.
-/
import Derived.Test.YtnnhmahemklnkaaDoorTn4
namespace Go.Proofs.YtnnhmahemklnkaaDoor
open Go Go.Sh
set_option maxRecDepth 100000
set_option linter.unusedVariables false
set_option linter.unusedSimpArgs false
variable {w0 w : World} {F : Nat → Prop} {l : List As}

abbrev dot1 : BA := ⟨#[46]⟩
abbrev dot2 : BA := ⟨#[46, 46]⟩
def absP (s : BA) : Bool := Lib.hasPrefix s.data.toList sep.data.toList
/-- One more part of a path. -/
def stepC (a : Bool) (l : List BA) (s : BA) : List BA :=
  if s = emp ∨ s = dot1 then l else
  if s ≠ dot2 then l ++ [s] else
  if 0 < l.length ∧ l[l.length - 1]? ≠ some dot2 then l.take (l.length - 1) else
  if a = false then l ++ [s] else l
def elemsC (s : BA) : List BA := (splitS s).foldl (stepC (absP s)) []
def joinS (l : List BA) : BA := ⟨(Lib.join (l.map (·.data.toList)) sep.data.toList).toArray⟩
def cleanS (s : BA) : BA := if absP s = true then sep ++ joinS (elemsC s) else if joinS (elemsC s) = emp then dot1 else joinS (elemsC s)
theorem splitB_len : ∀ l : List UInt8, (splitB l).length ≤ l.length + 1
  | [] => by simp [splitB]
  | x :: r => by
    have ih := splitB_len r
    unfold splitB
    split
    · simp only [List.length_cons]; omega
    · cases h : splitB r with
      | nil => simp
      | cons p ps => rw [h] at ih; simp only [List.length_cons] at ih ⊢; omega
theorem stepC_len (a : Bool) (l : List BA) (s : BA) : (stepC a l s).length ≤ l.length + 1 := by
  unfold stepC
  split
  · omega
  split
  · simp
  split
  · simp; omega
  split
  · simp
  · omega
theorem foldC_len (a : Bool) : ∀ (xs l : List BA), (xs.foldl (stepC a) l).length ≤ l.length + xs.length
  | [], _ => Nat.le_refl _
  | x :: xs, l => by
    have := foldC_len a xs (stepC a l x)
    have := stepC_len a l x
    simp only [List.foldl_cons, List.length_cons]
    omega
theorem HasPrefix_ok {s p : BA} (E : Hs w0 F w l) : Ca PP Fn.strings_HasPrefix #[str s, str p] w fun r w' => r = .bool (Lib.hasPrefix s.data.toList p.data.toList) ∧ Hs w0 F w' l := by
  refine Calls.mono (Tryd.strings_HasPrefix s p w) ?_
  rintro e w' ⟨rfl, rfl⟩
  exact ⟨_, rfl, rfl, E⟩
theorem SplitSeq_ok {s : BA} (E : Hs w0 F w l) : Ca PP Fn.strings_SplitSeq #[str s, str sep] w fun r w' => ∃ a1 a2 a3, r = splitF a1 a2 a3 ∧ Hs w0 F w' ([pt a1 (oc [str sep] Ty.string), pt a2 (oc [str s] Ty.string), pt a3 (oc [i64 0] Ty.int)] ++ l) := by
  refine S.strings_SplitSeq.calls ?_
  unfold S.strings_SplitSeq
  refine Ca.mono (k := fun r w' => ∃ a1 a2 a3, r = splitF a1 a2 a3 ∧ Hs w0 F w' ([pt a1 (oc [str sep] Ty.string), pt a2 (oc [str s] Ty.string), pt a3 (oc [i64 0] Ty.int)] ++ l)) ?_ fun r w' h => h
  refine S.strings_splitSeq.calls ?_
  unfold S.strings_splitSeq
  refine StpA.go E ?_
  intro a2 w_ h2 E
  refine StpA.go E ?_
  intro a1 w_ h1 E
  refine StpA.go E ?_
  intro a3 w_ h3 E
  exact ⟨a1, a2, a3, rfl, by (replace E := (((E.bIx 0).bIx 2).bIx 2)); exact E⟩
theorem Join_ok {v : Value} {xs : List BA} (hn : xs.length ≤ 140737488355328) (hj : (Lib.join (xs.map (·.data.toList)) sep.data.toList).length ≤ 140737488355328) (E : Hs w0 F w l) (h : RdS w0 F l 1 xs.length v (xs.map str)) :
    Ca PP Fn.strings_Join #[v, str sep] w fun r w' => r = str (joinS xs) ∧ Hs w0 F w' l := by
  obtain ⟨a, c, rfl, hc, -, hx⟩ := h
  rcases hx with h0 | ⟨q, rfl, h0 | ⟨b, o, rfl, hq⟩⟩
  · have : xs = [] := by simpa using h0
    subst this
    refine Calls.mono (Tryd.strings_Join_none a c sep w) ?_
    rintro e w' ⟨rfl, rfl⟩
    exact ⟨_, rfl, rfl, E⟩
  · have : xs = [] := by simpa using h0
    subst this
    refine Calls.mono (Tryd.strings_Join_none _ c sep w) ?_
    rintro e w' ⟨rfl, rfl⟩
    exact ⟨_, rfl, rfl, E⟩
  · by_cases hxs : xs = []
    · subst hxs
      refine Calls.mono (Tryd.strings_Join_none _ c sep w) ?_
      rintro e w' ⟨rfl, rfl⟩
      exact ⟨_, rfl, rfl, E⟩
    have hcell : ∀ (j : Nat) x, xs[j]? = some x → w.cell? ⟨b, o + j, none⟩ = some (.string x) := fun j x hj => hq w E j (str x) (by simp [hj])
    have hb : b < w.heap.size := by
      have h0 : 0 < xs.length := List.length_pos_iff.2 hxs
      have := hcell 0 xs[0] (List.getElem?_eq_getElem h0)
      unfold World.cell? at this
      cases hh : w.heap[b]? with
      | none => simp [hh] at this
      | some ob => exact (Array.getElem?_eq_some_iff.1 hh).1
    refine Calls.mono (Tryd.strings_Join b o c xs sep w hcell hb hn hc hj) ?_
    rintro e w' ⟨rfl, hw⟩
    exact ⟨_, rfl, rfl, E.grow (Upd.ofBelow hw)⟩

/-! ### Clean -/
def tot (l : List BA) : Nat := (l.map fun x => x.size + 1).sum
theorem tot_app (l m : List BA) : tot (l ++ m) = tot l + tot m := by simp [tot]
theorem splitB_tot : ∀ l : List UInt8, ((splitB l).map fun p => p.length + 1).sum = l.length + 1
  | [] => by simp [splitB]
  | x :: r => by
    have ih := splitB_tot r
    unfold splitB
    split
    · simp only [List.map_cons, List.sum_cons, List.length_nil, List.length_cons, ih]; omega
    · cases h : splitB r with
      | nil => exact absurd h (splitB_ne r)
      | cons p ps => rw [h] at ih; simp only [List.map_cons, List.sum_cons, List.length_cons] at ih ⊢; omega
theorem bmk_size (p : List UInt8) : (bmk p).size = p.length := by
  show p.toArray.size = _
  simp
theorem splitS_tot (s : BA) : tot (splitS s) = s.size + 1 := by
  have := splitB_tot s.data.toList
  unfold tot splitS
  rw [List.map_map]
  have e : ((fun x : BA => x.size + 1) ∘ bmk) = fun p => p.length + 1 := by funext p; simp only [Function.comp, bmk_size]
  rw [e, this]
  simp
theorem tot_take : ∀ (l : List BA) (n : Nat), tot (l.take n) ≤ tot l
  | [], n => by simp
  | x :: l, 0 => by simp [tot]
  | x :: l, n + 1 => by
    have := tot_take l n
    simp only [tot, List.take_succ_cons, List.map_cons, List.sum_cons] at this ⊢
    omega
theorem stepC_tot (a : Bool) (l : List BA) (s : BA) : tot (stepC a l s) ≤ tot l + (s.size + 1) := by
  have h1 : tot [s] = s.size + 1 := by simp [tot]
  unfold stepC
  split
  · omega
  split
  · rw [tot_app, h1]; exact Nat.le_refl _
  split
  · have := tot_take l (l.length - 1); omega
  split
  · rw [tot_app, h1]; exact Nat.le_refl _
  · omega
theorem foldC_tot (a : Bool) : ∀ (xs l : List BA), tot (xs.foldl (stepC a) l) ≤ tot l + tot xs
  | [], _ => by simp [tot]
  | x :: xs, l => by
    have h1 := foldC_tot a xs (stepC a l x)
    have h2 := stepC_tot a l x
    have h3 : tot (x :: xs) = x.size + 1 + tot xs := by simp [tot]
    rw [List.foldl_cons]
    omega
theorem elems_tot (s : BA) : tot (elemsC s) ≤ s.size + 1 := by
  have := foldC_tot (absP s) (splitS s) []
  rw [splitS_tot] at this
  have h0 : tot [] = 0 := rfl
  rw [h0, Nat.zero_add] at this
  exact this
theorem join_len : ∀ (l : List BA), (Lib.join (l.map (·.data.toList)) sep.data.toList).length ≤ tot l
  | [] => by simp [Lib.join, List.intercalate]
  | [x] => by simp [Lib.join, List.intercalate, tot]
  | x :: y :: r => by
    have := join_len (y :: r)
    have e : Lib.join ((x :: y :: r).map (·.data.toList)) sep.data.toList = x.data.toList ++ 47 :: Lib.join ((y :: r).map (·.data.toList)) sep.data.toList := by simp [Lib.join, List.intercalate]
    rw [e, List.length_append, List.length_cons]
    have h3 : tot (x :: y :: r) = x.size + 1 + tot (y :: r) := by simp [tot]
    have h4 : x.data.toList.length = x.size := by simp
    omega
theorem tot_len (l : List BA) : l.length ≤ tot l := by
  induction l with
  | nil => simp
  | cons x r ih => simp only [tot, List.map_cons, List.sum_cons, List.length_cons] at ih ⊢; omega

theorem Clean_ok {s : BA} (hs : s.size ≤ 1000000000) (E : Hs w0 F w l) : Ca PP Fn.tree_Clean #[str s] w fun r w' => r = str (cleanS s) ∧ Hs w0 F w' l := by
  refine S.tree_Clean.calls ?_
  unfold S.tree_Clean
  refine (HasPrefix_ok E).mono ?_
  clear E
  rintro r w_ ⟨rfl, E⟩
  refine StpA.go E ?_
  clear E
  intro a3 w_ h3 E
  refine StpW.go E ?_
  clear E
  intro w_ E
  refine StpA.go E ?_
  clear E
  intro a4 w_ h4 E
  refine (SplitSeq_ok E).mono ?_
  clear E
  rintro r w_ ⟨a1, a2, a5, rfl, E⟩
  simp only [List.cons_append, List.nil_append] at E
  replace E := E.nilSl Ty.string 1
  (replace E := ((((((E.bIx 3).bIx 3).bIx 3).bIx 5).bIx 5).bIx 5))
  have hspl := splitS_tot s
  have hlenS := tot_len (splitS s)
  refine RFo.hs rfl b_split1 (split_iter hs) (fun pre ks => ∃ v, ks = [slA v Ty.string 1 ((pre.foldl (stepC (absP s)) []).map str), pt a4 (oc [v] Ty.sl_string), pt a3 (oc [.bool (absP s)] Ty.bool)]) (fun _ _ _ => False) (fun _ _ => False)
    (ks := [slA (.slice none 0 0) Ty.string 1 [], pt a4 (oc [.slice none 0 0] Ty.sl_string), pt a3 (oc [.bool (absP s)] Ty.bool)]) E ⟨_, rfl⟩ ?_ ?_ (fun _ _ _ _ _ _ h _ => h.elim) (fun _ _ _ _ _ h _ => h.elim)
  · clear E
    rintro r L D pre x w_ _ rest' Rn Re Rr hL hD hp ⟨v, rfl⟩ E hn - -
    simp only [List.cons_append, List.nil_append] at E
    have hpl : pre.length < (splitS s).length := (List.getElem?_eq_some_iff.1 hp.2).1
    have hcl := foldC_len (absP s) pre []
    have hst : (pre ++ [x]).foldl (stepC (absP s)) [] = stepC (absP s) (pre.foldl (stepC (absP s)) []) x := by rw [List.foldl_append]; rfl
    simp only [hst] at hn
    generalize hcur : pre.foldl (stepC (absP s)) [] = cur at *
    simp only [List.length_nil, Nat.zero_add] at hcl
    (repeat first | (with_reducible first | refine Stp.go ?_ | refine StpE.go E ?_ | (refine StpW.go E ?_; clear E; intro w_ E) | (refine StpA.go E ?_; clear E; intro b_ w_ hb_ E) | (apply hJ18; intro u_) | (apply hJ29; intro u_) | refine LnL.nil ?_) | ((with_reducible refine Bi.dec true ?_ ?_); focus exact rfl) | ((with_reducible refine Bi.dec false ?_ ?_); focus exact rfl) | ((with_reducible refine Bi.sdec true ?_ ?_); focus decide) | ((with_reducible refine Bi.sdec false ?_ ?_); focus decide))
    (intro J18 hJ18)
    have fin18 : ∀ b w_, b = decide (x = emp ∨ x = dot1) → Hs w0 F w_ (pt L (lpO r .busy none) :: pt D dfO :: slA v Ty.string 1 (cur.map str) :: pt a4 (oc [v] Ty.sl_string) :: pt a3 (oc [.bool (absP s)] Ty.bool) :: rest') → J18 [.bool b] w_ := by
      intro b w_ hb E
      (repeat first | (with_reducible first | refine Stp.go ?_ | refine StpE.go E ?_ | (refine StpW.go E ?_; clear E; intro w_ E) | (refine StpA.go E ?_; clear E; intro b_ w_ hb_ E) | (apply hJ18; intro u_) | (apply hJ29; intro u_) | refine LnL.nil ?_) | ((with_reducible refine Bi.dec true ?_ ?_); focus exact rfl) | ((with_reducible refine Bi.dec false ?_ ?_); focus exact rfl) | ((with_reducible refine Bi.sdec true ?_ ?_); focus decide) | ((with_reducible refine Bi.sdec false ?_ ?_); focus decide))
      have app : ∀ (w_ : World) (k : World → Prop), Hs w0 F w_ (pt L (lpO r .busy none) :: pt D dfO :: slA v Ty.string 1 (cur.map str) :: pt a4 (oc [v] Ty.sl_string) :: pt a3 (oc [.bool (absP s)] Ty.bool) :: rest') → stepC (absP s) cur x = cur ++ [x] →
          Ef PP (Instr.buildSlice Ty.sl_string 1 #[(0, str x)]) w_ fun t24 w1 => Ef PP (Builtin.append_ #[Ty.sl_string, Ty.sl_string] Ty.sl_string #[v, t24]) w1 fun t25 w2 => St PP 1 (ptr a4) t25 w2 fun w3 => Rn w3 := by
        intro w_ k E he
        refine BdS.one E u_sl_string e_string rfl ?_
        clear E
        intro v2 w_ E
        refine Ap.one E (i := 3) rfl u_sl_string ⟨_, u_sl_string, fun _ h => by cases h⟩ e_string (Src.one E (by (first | assumption | exact FPt.mem | exact FMp.mem | exact FSl.mem | (repeat (first | assumption | with_reducible exact List.mem_cons_self | refine List.mem_cons_of_mem _ ?_)))) rfl) rfl (by simp; omega) (by simp; omega) ?_
        clear E
        intro s' w_ E
        (try simp only [List.set_cons_zero, List.set_cons_succ, List.cons_append, List.nil_append, Nat.zero_add, Nat.add_zero] at E)
        (repeat first | (with_reducible first | refine Stp.go ?_ | refine StpE.go E ?_ | (refine StpW.go E ?_; clear E; intro w_ E) | (refine StpA.go E ?_; clear E; intro b_ w_ hb_ E) | (apply hJ18; intro u_) | (apply hJ29; intro u_) | refine LnL.nil ?_) | ((with_reducible refine Bi.dec true ?_ ?_); focus exact rfl) | ((with_reducible refine Bi.dec false ?_ ?_); focus exact rfl) | ((with_reducible refine Bi.sdec true ?_ ?_); focus decide) | ((with_reducible refine Bi.sdec false ?_ ?_); focus decide))
        refine hn _ _ ⟨s', rfl⟩ ?_
        simp only [List.cons_append, List.nil_append]
        (replace E := (E.bSl v2))
        (replace E := (E.bIx 0).tl)
        have e1 : (stepC (absP s) cur x).map str = cur.map str ++ [str x] := by rw [he]; simp
        rw [e1]
        exact E
      by_cases c1 : x = emp ∨ x = dot1
      · rw [decide_eq_true c1] at hb
        subst hb
        (repeat first | (with_reducible first | refine Stp.go ?_ | refine StpE.go E ?_ | (refine StpW.go E ?_; clear E; intro w_ E) | (refine StpA.go E ?_; clear E; intro b_ w_ hb_ E) | (apply hJ18; intro u_) | (apply hJ29; intro u_) | refine LnL.nil ?_) | ((with_reducible refine Bi.dec true ?_ ?_); focus exact rfl) | ((with_reducible refine Bi.dec false ?_ ?_); focus exact rfl) | ((with_reducible refine Bi.sdec true ?_ ?_); focus decide) | ((with_reducible refine Bi.sdec false ?_ ?_); focus decide))
        have he : stepC (absP s) cur x = cur := by unfold stepC; rw [if_pos c1]
        refine hn _ _ ⟨v, rfl⟩ ?_
        rw [he]
        exact E
      rw [decide_eq_false c1] at hb
      subst hb
      (repeat first | (with_reducible first | refine Stp.go ?_ | refine StpE.go E ?_ | (refine StpW.go E ?_; clear E; intro w_ E) | (refine StpA.go E ?_; clear E; intro b_ w_ hb_ E) | (apply hJ18; intro u_) | (apply hJ29; intro u_) | refine LnL.nil ?_) | ((with_reducible refine Bi.dec true ?_ ?_); focus exact rfl) | ((with_reducible refine Bi.dec false ?_ ?_); focus exact rfl) | ((with_reducible refine Bi.sdec true ?_ ?_); focus decide) | ((with_reducible refine Bi.sdec false ?_ ?_); focus decide))
      refine Bi.sneq ?_ ?_ <;> intro c2 <;> (repeat first | (with_reducible first | refine Stp.go ?_ | refine StpE.go E ?_ | (refine StpW.go E ?_; clear E; intro w_ E) | (refine StpA.go E ?_; clear E; intro b_ w_ hb_ E) | (apply hJ18; intro u_) | (apply hJ29; intro u_) | refine LnL.nil ?_) | ((with_reducible refine Bi.dec true ?_ ?_); focus exact rfl) | ((with_reducible refine Bi.dec false ?_ ?_); focus exact rfl) | ((with_reducible refine Bi.sdec true ?_ ?_); focus decide) | ((with_reducible refine Bi.sdec false ?_ ?_); focus decide))
      · exact app _ (fun _ => True) E (by unfold stepC; rw [if_neg c1, if_pos c2])
      have c2' : ¬ x ≠ dot2 := fun h => h c2
      (intro J29 hJ29)
      have fin29 : ∀ b w_, b = decide (0 < cur.length ∧ cur[cur.length - 1]? ≠ some dot2) → Hs w0 F w_ (pt L (lpO r .busy none) :: pt D dfO :: slA v Ty.string 1 (cur.map str) :: pt a4 (oc [v] Ty.sl_string) :: pt a3 (oc [.bool (absP s)] Ty.bool) :: rest') → J29 [.bool b] w_ := by
        intro b w_ hb E
        (repeat first | (with_reducible first | refine Stp.go ?_ | refine StpE.go E ?_ | (refine StpW.go E ?_; clear E; intro w_ E) | (refine StpA.go E ?_; clear E; intro b_ w_ hb_ E) | (apply hJ18; intro u_) | (apply hJ29; intro u_) | refine LnL.nil ?_) | ((with_reducible refine Bi.dec true ?_ ?_); focus exact rfl) | ((with_reducible refine Bi.dec false ?_ ?_); focus exact rfl) | ((with_reducible refine Bi.sdec true ?_ ?_); focus decide) | ((with_reducible refine Bi.sdec false ?_ ?_); focus decide))
        by_cases c3 : 0 < cur.length ∧ cur[cur.length - 1]? ≠ some dot2
        · rw [decide_eq_true c3] at hb
          subst hb
          (repeat first | (with_reducible first | refine Stp.go ?_ | refine StpE.go E ?_ | (refine StpW.go E ?_; clear E; intro w_ E) | (refine StpA.go E ?_; clear E; intro b_ w_ hb_ E) | (apply hJ18; intro u_) | (apply hJ29; intro u_) | refine LnL.nil ?_) | ((with_reducible refine Bi.dec true ?_ ?_); focus exact rfl) | ((with_reducible refine Bi.dec false ?_ ?_); focus exact rfl) | ((with_reducible refine Bi.sdec true ?_ ?_); focus decide) | ((with_reducible refine Bi.sdec false ?_ ?_); focus decide))
          refine Bi.sub (by simp; omega) ?_
          refine Sl.sl E (i := 2) rfl (by omega) (a := 0) (b := cur.length - 1) rfl (by simp [bnd]; omega) (by omega) (by simp) ?_
          clear E
          intro v' E
          (try simp only [List.set_cons_zero, List.set_cons_succ, List.cons_append, List.nil_append, Nat.zero_add, Nat.add_zero] at E)
          (repeat first | (with_reducible first | refine Stp.go ?_ | refine StpE.go E ?_ | (refine StpW.go E ?_; clear E; intro w_ E) | (refine StpA.go E ?_; clear E; intro b_ w_ hb_ E) | (apply hJ18; intro u_) | (apply hJ29; intro u_) | refine LnL.nil ?_) | ((with_reducible refine Bi.dec true ?_ ?_); focus exact rfl) | ((with_reducible refine Bi.dec false ?_ ?_); focus exact rfl) | ((with_reducible refine Bi.sdec true ?_ ?_); focus decide) | ((with_reducible refine Bi.sdec false ?_ ?_); focus decide))
          have he : stepC (absP s) cur x = cur.take (cur.length - 1) := by unfold stepC; rw [if_neg c1, if_neg c2', if_pos c3]
          refine hn _ _ ⟨v', rfl⟩ ?_
          simp only [List.cons_append, List.nil_append]
          rw [he]
          have e1 : (cur.take (cur.length - 1)).map str = List.drop (0 * 1) (List.take ((cur.length - 1) * 1) (cur.map str)) := by rw [Nat.zero_mul, List.drop_zero, Nat.mul_one, List.map_take]
          rw [e1]
          exact E
        · rw [decide_eq_false c3] at hb
          subst hb
          (repeat first | (with_reducible first | refine Stp.go ?_ | refine StpE.go E ?_ | (refine StpW.go E ?_; clear E; intro w_ E) | (refine StpA.go E ?_; clear E; intro b_ w_ hb_ E) | (apply hJ18; intro u_) | (apply hJ29; intro u_) | refine LnL.nil ?_) | ((with_reducible refine Bi.dec true ?_ ?_); focus exact rfl) | ((with_reducible refine Bi.dec false ?_ ?_); focus exact rfl) | ((with_reducible refine Bi.sdec true ?_ ?_); focus decide) | ((with_reducible refine Bi.sdec false ?_ ?_); focus decide))
          cases ha : absP s with
          | true =>
            (repeat first | (with_reducible first | refine Stp.go ?_ | refine StpE.go E ?_ | (refine StpW.go E ?_; clear E; intro w_ E) | (refine StpA.go E ?_; clear E; intro b_ w_ hb_ E) | (apply hJ18; intro u_) | (apply hJ29; intro u_) | refine LnL.nil ?_) | ((with_reducible refine Bi.dec true ?_ ?_); focus exact rfl) | ((with_reducible refine Bi.dec false ?_ ?_); focus exact rfl) | ((with_reducible refine Bi.sdec true ?_ ?_); focus decide) | ((with_reducible refine Bi.sdec false ?_ ?_); focus decide))
            have he : stepC (absP s) cur x = cur := by unfold stepC; rw [if_neg c1, if_neg c2', if_neg c3, if_neg (by rw [ha]; simp)]
            refine hn _ _ ⟨v, rfl⟩ ?_
            rw [he, ha]
            rw [ha] at E
            exact E
          | false =>
            (repeat first | (with_reducible first | refine Stp.go ?_ | refine StpE.go E ?_ | (refine StpW.go E ?_; clear E; intro w_ E) | (refine StpA.go E ?_; clear E; intro b_ w_ hb_ E) | (apply hJ18; intro u_) | (apply hJ29; intro u_) | refine LnL.nil ?_) | ((with_reducible refine Bi.dec true ?_ ?_); focus exact rfl) | ((with_reducible refine Bi.dec false ?_ ?_); focus exact rfl) | ((with_reducible refine Bi.sdec true ?_ ?_); focus decide) | ((with_reducible refine Bi.sdec false ?_ ?_); focus decide))
            exact app _ (fun _ => True) E (by unfold stepC; rw [if_neg c1, if_neg c2', if_neg c3, if_pos ha])
      clear hJ29
      (repeat first | (with_reducible first | refine Stp.go ?_ | refine StpE.go E ?_ | (refine StpW.go E ?_; clear E; intro w_ E) | (refine StpA.go E ?_; clear E; intro b_ w_ hb_ E) | (apply hJ18; intro u_) | (apply hJ29; intro u_) | refine LnL.nil ?_) | ((with_reducible refine Bi.dec true ?_ ?_); focus exact rfl) | ((with_reducible refine Bi.dec false ?_ ?_); focus exact rfl) | ((with_reducible refine Bi.sdec true ?_ ?_); focus decide) | ((with_reducible refine Bi.sdec false ?_ ?_); focus decide))
      refine Bi.gtr ?_ ?_ <;> intro c4 <;> simp only [List.length_map] at c4 <;> (repeat first | (with_reducible first | refine Stp.go ?_ | refine StpE.go E ?_ | (refine StpW.go E ?_; clear E; intro w_ E) | (refine StpA.go E ?_; clear E; intro b_ w_ hb_ E) | (apply hJ18; intro u_) | (apply hJ29; intro u_) | refine LnL.nil ?_) | ((with_reducible refine Bi.dec true ?_ ?_); focus exact rfl) | ((with_reducible refine Bi.dec false ?_ ?_); focus exact rfl) | ((with_reducible refine Bi.sdec true ?_ ?_); focus decide) | ((with_reducible refine Bi.sdec false ?_ ?_); focus decide))
      · refine Bi.sub (by simp; omega) ?_
        (repeat first | (with_reducible first | refine Stp.go ?_ | refine StpE.go E ?_ | (refine StpW.go E ?_; clear E; intro w_ E) | (refine StpA.go E ?_; clear E; intro b_ w_ hb_ E) | (apply hJ18; intro u_) | (apply hJ29; intro u_) | refine LnL.nil ?_) | ((with_reducible refine Bi.dec true ?_ ?_); focus exact rfl) | ((with_reducible refine Bi.dec false ?_ ?_); focus exact rfl) | ((with_reducible refine Bi.sdec true ?_ ?_); focus decide) | ((with_reducible refine Bi.sdec false ?_ ?_); focus decide))
        have hx : cur[cur.length - 1]? = some cur[cur.length - 1] := List.getElem?_eq_getElem (by omega)
        refine IxA.sl E (by (first | assumption | exact FPt.mem | exact FMp.mem | exact FSl.mem | (repeat (first | assumption | with_reducible exact List.mem_cons_self | refine List.mem_cons_of_mem _ ?_)))) (by omega) (by simp; omega) (by simp; omega) ?_
        intro a ha
        (repeat first | (with_reducible first | refine Stp.go ?_ | refine StpE.go E ?_ | (refine StpW.go E ?_; clear E; intro w_ E) | (refine StpA.go E ?_; clear E; intro b_ w_ hb_ E) | (apply hJ18; intro u_) | (apply hJ29; intro u_) | refine LnL.nil ?_) | ((with_reducible refine Bi.dec true ?_ ?_); focus exact rfl) | ((with_reducible refine Bi.dec false ?_ ?_); focus exact rfl) | ((with_reducible refine Bi.sdec true ?_ ?_); focus decide) | ((with_reducible refine Bi.sdec false ?_ ?_); focus decide))
        refine Ld.sl E (by (first | assumption | exact FPt.mem | exact FMp.mem | exact FSl.mem | (repeat (first | assumption | with_reducible exact List.mem_cons_self | refine List.mem_cons_of_mem _ ?_)))) ha (x := str cur[cur.length - 1]) (by
          have : ((((cur.map str).length : Nat) : Int) - 1).toNat * 1 = cur.length - 1 := by simp
          rw [this]; simp [hx]) ?_
        (repeat first | (with_reducible first | refine Stp.go ?_ | refine StpE.go E ?_ | (refine StpW.go E ?_; clear E; intro w_ E) | (refine StpA.go E ?_; clear E; intro b_ w_ hb_ E) | (apply hJ18; intro u_) | (apply hJ29; intro u_) | refine LnL.nil ?_) | ((with_reducible refine Bi.dec true ?_ ?_); focus exact rfl) | ((with_reducible refine Bi.dec false ?_ ?_); focus exact rfl) | ((with_reducible refine Bi.sdec true ?_ ?_); focus decide) | ((with_reducible refine Bi.sdec false ?_ ?_); focus decide))
        refine Bi.sneq ?_ ?_ <;> intro c5 <;> (repeat first | (with_reducible first | refine Stp.go ?_ | refine StpE.go E ?_ | (refine StpW.go E ?_; clear E; intro w_ E) | (refine StpA.go E ?_; clear E; intro b_ w_ hb_ E) | (apply hJ18; intro u_) | (apply hJ29; intro u_) | refine LnL.nil ?_) | ((with_reducible refine Bi.dec true ?_ ?_); focus exact rfl) | ((with_reducible refine Bi.dec false ?_ ?_); focus exact rfl) | ((with_reducible refine Bi.sdec true ?_ ?_); focus decide) | ((with_reducible refine Bi.sdec false ?_ ?_); focus decide))
        · exact fin29 _ _ (by rw [decide_eq_true ⟨by omega, by rw [hx]; simpa using c5⟩]) E
        · exact fin29 _ _ (by rw [decide_eq_false (fun h => h.2 (by rw [hx, c5]))]) E
      · exact fin29 _ _ (by rw [decide_eq_false (fun h => by omega)]) E
    clear hJ18
    (repeat first | (with_reducible first | refine Stp.go ?_ | refine StpE.go E ?_ | (refine StpW.go E ?_; clear E; intro w_ E) | (refine StpA.go E ?_; clear E; intro b_ w_ hb_ E) | (apply hJ18; intro u_) | (apply hJ29; intro u_) | refine LnL.nil ?_) | ((with_reducible refine Bi.dec true ?_ ?_); focus exact rfl) | ((with_reducible refine Bi.dec false ?_ ?_); focus exact rfl) | ((with_reducible refine Bi.sdec true ?_ ?_); focus decide) | ((with_reducible refine Bi.sdec false ?_ ?_); focus decide))
    refine Bi.seql ?_ ?_ <;> intro c1 <;> (repeat first | (with_reducible first | refine Stp.go ?_ | refine StpE.go E ?_ | (refine StpW.go E ?_; clear E; intro w_ E) | (refine StpA.go E ?_; clear E; intro b_ w_ hb_ E) | (apply hJ18; intro u_) | (apply hJ29; intro u_) | refine LnL.nil ?_) | ((with_reducible refine Bi.dec true ?_ ?_); focus exact rfl) | ((with_reducible refine Bi.dec false ?_ ?_); focus exact rfl) | ((with_reducible refine Bi.sdec true ?_ ?_); focus decide) | ((with_reducible refine Bi.sdec false ?_ ?_); focus decide))
    · exact fin18 _ _ (by rw [decide_eq_true (.inl c1)]) E
    · refine Bi.seql ?_ ?_ <;> intro c2 <;> (repeat first | (with_reducible first | refine Stp.go ?_ | refine StpE.go E ?_ | (refine StpW.go E ?_; clear E; intro w_ E) | (refine StpA.go E ?_; clear E; intro b_ w_ hb_ E) | (apply hJ18; intro u_) | (apply hJ29; intro u_) | refine LnL.nil ?_) | ((with_reducible refine Bi.dec true ?_ ?_); focus exact rfl) | ((with_reducible refine Bi.dec false ?_ ?_); focus exact rfl) | ((with_reducible refine Bi.sdec true ?_ ?_); focus decide) | ((with_reducible refine Bi.sdec false ?_ ?_); focus decide))
      · exact fin18 _ _ (by rw [decide_eq_true (.inr c2)]) E
      · exact fin18 _ _ (by rw [decide_eq_false (fun h => h.elim c1 c2)]) E
  · clear E
    rintro D w_ xs _ hD rfl ⟨v, rfl⟩ E
    simp only [List.cons_append, List.nil_append] at E
    have he : (splitS s).foldl (stepC (absP s)) [] = elemsC s := rfl
    rw [he] at E
    have h1 := elems_tot s
    have h2 := tot_len (elemsC s)
    have h3 := join_len (elemsC s)
    (repeat first | (with_reducible first | refine Stp.go ?_ | refine StpE.go E ?_ | (refine StpW.go E ?_; clear E; intro w_ E) | (refine StpA.go E ?_; clear E; intro b_ w_ hb_ E) | (apply hJ18; intro u_) | (apply hJ29; intro u_) | refine LnL.nil ?_) | ((with_reducible refine Bi.dec true ?_ ?_); focus exact rfl) | ((with_reducible refine Bi.dec false ?_ ?_); focus exact rfl) | ((with_reducible refine Bi.sdec true ?_ ?_); focus decide) | ((with_reducible refine Bi.sdec false ?_ ?_); focus decide))
    have hr := RdS.by1 v E
    rw [List.length_map] at hr
    refine (Join_ok (by omega) (by omega) E hr).mono ?_
    clear E
    rintro r w_ ⟨rfl, E⟩
    have hjs : (joinS (elemsC s)).size ≤ s.size + 1 := by
      unfold joinS
      show (Lib.join _ _).toArray.size ≤ _
      rw [List.size_toArray]; omega
    (repeat first | (with_reducible first | refine Stp.go ?_ | refine StpE.go E ?_ | (refine StpW.go E ?_; clear E; intro w_ E) | (refine StpA.go E ?_; clear E; intro b_ w_ hb_ E) | (apply hJ18; intro u_) | (apply hJ29; intro u_) | refine LnL.nil ?_) | ((with_reducible refine Bi.dec true ?_ ?_); focus exact rfl) | ((with_reducible refine Bi.dec false ?_ ?_); focus exact rfl) | ((with_reducible refine Bi.sdec true ?_ ?_); focus decide) | ((with_reducible refine Bi.sdec false ?_ ?_); focus decide))
    cases ha : absP s with
    | true =>
      (repeat first | (with_reducible first | refine Stp.go ?_ | refine StpE.go E ?_ | (refine StpW.go E ?_; clear E; intro w_ E) | (refine StpA.go E ?_; clear E; intro b_ w_ hb_ E) | (apply hJ18; intro u_) | (apply hJ29; intro u_) | refine LnL.nil ?_) | ((with_reducible refine Bi.dec true ?_ ?_); focus exact rfl) | ((with_reducible refine Bi.dec false ?_ ?_); focus exact rfl) | ((with_reducible refine Bi.sdec true ?_ ?_); focus decide) | ((with_reducible refine Bi.sdec false ?_ ?_); focus decide))
      refine Bi.sadd (by have : ByteArray.size ⟨#[47]⟩ = 1 := rfl; omega) ?_
      (repeat first | (with_reducible first | refine Stp.go ?_ | refine StpE.go E ?_ | (refine StpW.go E ?_; clear E; intro w_ E) | (refine StpA.go E ?_; clear E; intro b_ w_ hb_ E) | (apply hJ18; intro u_) | (apply hJ29; intro u_) | refine LnL.nil ?_) | ((with_reducible refine Bi.dec true ?_ ?_); focus exact rfl) | ((with_reducible refine Bi.dec false ?_ ?_); focus exact rfl) | ((with_reducible refine Bi.sdec true ?_ ?_); focus decide) | ((with_reducible refine Bi.sdec false ?_ ?_); focus decide))
      exact ⟨by unfold cleanS; rw [if_pos ha], E.tl.tl.tl⟩
    | false =>
      (repeat first | (with_reducible first | refine Stp.go ?_ | refine StpE.go E ?_ | (refine StpW.go E ?_; clear E; intro w_ E) | (refine StpA.go E ?_; clear E; intro b_ w_ hb_ E) | (apply hJ18; intro u_) | (apply hJ29; intro u_) | refine LnL.nil ?_) | ((with_reducible refine Bi.dec true ?_ ?_); focus exact rfl) | ((with_reducible refine Bi.dec false ?_ ?_); focus exact rfl) | ((with_reducible refine Bi.sdec true ?_ ?_); focus decide) | ((with_reducible refine Bi.sdec false ?_ ?_); focus decide))
      refine Bi.seql ?_ ?_ <;> intro c1 <;> (repeat first | (with_reducible first | refine Stp.go ?_ | refine StpE.go E ?_ | (refine StpW.go E ?_; clear E; intro w_ E) | (refine StpA.go E ?_; clear E; intro b_ w_ hb_ E) | (apply hJ18; intro u_) | (apply hJ29; intro u_) | refine LnL.nil ?_) | ((with_reducible refine Bi.dec true ?_ ?_); focus exact rfl) | ((with_reducible refine Bi.dec false ?_ ?_); focus exact rfl) | ((with_reducible refine Bi.sdec true ?_ ?_); focus decide) | ((with_reducible refine Bi.sdec false ?_ ?_); focus decide))
      · exact ⟨by unfold cleanS; rw [if_neg (by rw [ha]; simp), if_pos (show joinS (elemsC s) = emp from c1)], E.tl.tl.tl⟩
      · exact ⟨by unfold cleanS; rw [if_neg (by rw [ha]; simp), if_neg (show ¬ joinS (elemsC s) = emp from c1)], E.tl.tl.tl⟩
end Go.Proofs.YtnnhmahemklnkaaDoor
