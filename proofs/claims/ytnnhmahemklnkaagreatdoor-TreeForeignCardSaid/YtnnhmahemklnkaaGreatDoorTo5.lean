/-
  Trees: the elements of a path.
-/
import Derived.Test.YtnnhmahemklnkaaGreatDoorTo1
namespace Go.Proofs.YtnnhmahemklnkaaGreatDoor
open Go Go.Sh
set_option maxRecDepth 100000
set_option linter.unusedVariables false
set_option linter.unusedSimpArgs false
variable {w0 w : World} {F : Nat → Prop} {l : List As}

theorem TrimPrefix_ok {s p : BA} (E : Hs w0 F w l) : Ca PP Fn.strings_TrimPrefix #[str s, str p] w fun r w' => r = str ⟨(Lib.trimPrefix s.data.toList p.data.toList).toArray⟩ ∧ Hs w0 F w' l := by
  refine Calls.mono (Tryz.strings_TrimPrefix s p w) ?_
  rintro e w' ⟨rfl, rfl⟩
  exact ⟨_, rfl, rfl, E⟩
theorem trim_size (s : BA) : (trimS s).size ≤ s.size := by
  unfold trimS Lib.trimPrefix
  have h : ∀ x : List UInt8, (⟨x.toArray⟩ : BA).size = x.length := fun x => by show x.toArray.size = _; simp
  have h2 : s.data.toList.length = s.size := by simp
  rw [h]
  split
  · rw [List.length_drop]; omega
  · omega
theorem join_size (l : List BA) : (joinS l).size ≤ tot l := by
  have := join_len l
  unfold joinS
  show (Lib.join _ _).toArray.size ≤ _
  rw [List.size_toArray]; exact this
theorem clean_size (s : BA) : (cleanS s).size ≤ s.size + 2 := by
  have h1 := join_size (elemsC s)
  have h2 := elems_tot s
  unfold cleanS
  split
  · have : (sep ++ joinS (elemsC s)).size = 1 + (joinS (elemsC s)).size := by
      have : ByteArray.size sep = 1 := rfl
      rw [ByteArray.size_append, this]
    omega
  split
  · show 1 ≤ _; omega
  · omega
theorem Split_ok {s : BA} (E : Hs w0 F w l) : Ca PP Fn.tree_Split #[str s] w fun r w' => ∃ v, r = .tuple #[v, i64 (splitP s).2] ∧ Hs w0 F w' (slA v Ty.string 1 ((splitP s).1.map str) :: l) := by
  refine S.tree_Split.calls ?_
  unfold S.tree_Split
  refine StpA.go E ?_
  clear E
  intro a2 w_ h2 E
  refine StpA.go E ?_
  clear E
  intro a3 w_ h3 E
  (repeat with_reducible first | refine Stp.go ?_ | refine StpE.go E ?_)
  refine Bi.gtr ?_ ?_ <;> intro c1 <;> (repeat first | (with_reducible first | refine Stp.go ?_ | refine StpE.go E ?_ | (refine StpW.go E ?_; clear E; intro w_ E) | (refine StpA.go E ?_; clear E; intro b_ w_ hb_ E) | refine Ld.pt E (by (repeat (first | assumption | with_reducible exact List.mem_cons_self | refine List.mem_cons_of_mem _ ?_))) rfl ?_ | (apply LdA.pt E; (focus ((repeat (first | assumption | with_reducible exact List.mem_cons_self | refine List.mem_cons_of_mem _ ?_)); done)); (focus (simp only [Nat.reduceAdd, Nat.zero_add, List.drop_succ_cons, List.drop_zero, List.take_succ_cons, List.take_zero, List.take_nil, List.drop_nil]; exact rfl)); (focus exact rfl)) | (apply hJ27; intro u_) | (apply hJ31; intro u_) | refine LnL.nil ?_) | ((with_reducible refine Bi.dec true ?_ ?_); focus exact rfl) | ((with_reducible refine Bi.dec false ?_ ?_); focus exact rfl) | ((with_reducible refine Bi.sdec true ?_ ?_); focus decide) | ((with_reducible refine Bi.sdec false ?_ ?_); focus decide))
  · have e : splitP s = ([], 3) := by unfold splitP; rw [if_pos (by omega)]
    rw [e]
    exact ⟨_, rfl, Hs.nilSl E.tl.tl _ _⟩
  have hs : s.size ≤ 1000000000 := by omega
  (revert b_; intro a4 hba4 E)
  refine (Clean_ok hs E).mono ?_
  clear E
  rintro r w_ ⟨rfl, E⟩
  refine (TrimPrefix_ok E).mono ?_
  clear E
  rintro r w_ ⟨rfl, E⟩
  have htr : (⟨(Lib.trimPrefix (cleanS s).data.toList (⟨#[47]⟩ : BA).data.toList).toArray⟩ : BA) = trimS (cleanS s) := rfl
  rw [htr]
  have hsz : (trimS (cleanS s)).size ≤ 1000000000 := by
    have := trim_size (cleanS s)
    have := clean_size s
    omega
  refine (SplitSeq_ok E).mono ?_
  clear E
  rintro r w_ ⟨b1, b2, b3, rfl, E⟩
  simp only [List.cons_append, List.nil_append] at E
  replace E := E.nilSl Ty.string 1
  (replace E := (((((((E.bIx 3).bIx 3).bIx 3).bIx 6).bIx 6).bIx 6).bIx 6))
  have htot := splitS_tot (trimS (cleanS s))
  have hlenS := tot_len (splitS (trimS (cleanS s)))
  have hwalk := walkE_clean s
  have hit := split_iter (w0 := w0) (F := F) (a1 := b1) (a2 := b2) (a3 := b3) hsz
  generalize hwh : splitS (trimS (cleanS s)) = whole at *
  refine RFo.hs (Pf := InOrder whole) (Whole := (· = whole)) rfl b_split1 hit
    (fun pre ks => ∃ v out, (∀ rest, walkE [] (pre ++ rest) = walkE out rest) ∧ out.length ≤ pre.length ∧ ks = [slA v Ty.string 1 (out.map str), pt a4 (oc [v] Ty.sl_string), pt a3 (oc [i64 0] Ty.api_Errno), pt a2 (oc [.slice none 0 0] Ty.sl_string)])
    (fun _ _ _ => False) (fun pre ks => (∃ rest, whole = pre ++ rest) ∧ (∀ rest, walkE [] (pre ++ rest) = none) ∧ ∃ (v : Value) (out : List BA), ks = [slA v Ty.string 1 (out.map str), pt a4 (oc [v] Ty.sl_string), pt a3 (oc [i64 8] Ty.api_Errno), pt a2 (oc [.slice none 0 0] Ty.sl_string)])
    (ks := [slA (.slice none 0 0) Ty.string 1 [], pt a4 (oc [.slice none 0 0] Ty.sl_string), pt a3 (oc [i64 0] Ty.api_Errno), pt a2 (oc [.slice none 0 0] Ty.sl_string)]) E ⟨_, [], fun _ => rfl, Nat.le_refl _, rfl⟩ ?_ ?_ (fun _ _ _ _ _ _ h _ => h.elim) ?_
  · clear E
    rintro r L D pre x w_ _ rest' Rn Re Rr hL hD hp ⟨v, out, hw, hol, rfl⟩ E hn - hr
    simp only [List.cons_append, List.nil_append] at E
    have hpl : pre.length < whole.length := (List.getElem?_eq_some_iff.1 hp.2).1
    have hpx : whole = (pre ++ [x]) ++ whole.drop (pre.length + 1) := by
      have h1 : whole.take (pre.length + 1) = pre ++ [x] := by rw [List.take_add_one, hp.2, ← hp.1]; rfl
      rw [← h1, List.take_append_drop]
    have hxm : x ∈ whole := List.mem_of_getElem? hp.2
    have hxs : x.size ≤ 9223372036854775807 := by
      have h1 : ∀ (l : List BA), x ∈ l → x.size + 1 ≤ tot l := by
        intro l
        induction l with
        | nil => intro h; cases h
        | cons y r ih =>
          intro h
          have e : tot (y :: r) = y.size + 1 + tot r := by simp [tot]
          rcases List.mem_cons.1 h with rfl | h
          · omega
          · have := ih h; omega
      have := h1 whole hxm
      omega
    (repeat first | (with_reducible first | refine Stp.go ?_ | refine StpE.go E ?_ | (refine StpW.go E ?_; clear E; intro w_ E) | (refine StpA.go E ?_; clear E; intro b_ w_ hb_ E) | refine Ld.pt E (by (repeat (first | assumption | with_reducible exact List.mem_cons_self | refine List.mem_cons_of_mem _ ?_))) rfl ?_ | (apply LdA.pt E; (focus ((repeat (first | assumption | with_reducible exact List.mem_cons_self | refine List.mem_cons_of_mem _ ?_)); done)); (focus (simp only [Nat.reduceAdd, Nat.zero_add, List.drop_succ_cons, List.drop_zero, List.take_succ_cons, List.take_zero, List.take_nil, List.drop_nil]; exact rfl)); (focus exact rfl)) | (apply hJ27; intro u_) | (apply hJ31; intro u_) | refine LnL.nil ?_) | ((with_reducible refine Bi.dec true ?_ ?_); focus exact rfl) | ((with_reducible refine Bi.dec false ?_ ?_); focus exact rfl) | ((with_reducible refine Bi.sdec true ?_ ?_); focus decide) | ((with_reducible refine Bi.sdec false ?_ ?_); focus decide))
    (intro J27 hJ27)
    have fin27 : ∀ b w_, b = decide (x = emp ∨ x = dot1) → Hs w0 F w_ (pt L (lpO r .busy none) :: pt D dfO :: slA v Ty.string 1 (out.map str) :: pt a4 (oc [v] Ty.sl_string) :: pt a3 (oc [i64 0] Ty.api_Errno) :: pt a2 (oc [.slice none 0 0] Ty.sl_string) :: rest') → J27 [.bool b] w_ := by
      intro b w_ hb E
      (repeat with_reducible first | refine Stp.go ?_ | refine StpE.go E ?_)
      by_cases c1 : x = emp ∨ x = dot1
      · rw [decide_eq_true c1] at hb
        subst hb
        (repeat with_reducible first | refine Stp.go ?_ | refine StpE.go E ?_ | (apply hJ27; intro u_) | (apply hJ31; intro u_))
        refine hn _ _ ⟨v, out, fun rest => ?_, by simp; omega, rfl⟩ E
        rw [List.append_assoc, hw, List.singleton_append, walkE_step, if_pos c1]
      rw [decide_eq_false c1] at hb
      subst hb
      (repeat first | (with_reducible first | refine Stp.go ?_ | refine StpE.go E ?_ | (refine StpW.go E ?_; clear E; intro w_ E) | (refine StpA.go E ?_; clear E; intro b_ w_ hb_ E) | refine Ld.pt E (by (repeat (first | assumption | with_reducible exact List.mem_cons_self | refine List.mem_cons_of_mem _ ?_))) rfl ?_ | (apply LdA.pt E; (focus ((repeat (first | assumption | with_reducible exact List.mem_cons_self | refine List.mem_cons_of_mem _ ?_)); done)); (focus (simp only [Nat.reduceAdd, Nat.zero_add, List.drop_succ_cons, List.drop_zero, List.take_succ_cons, List.take_zero, List.take_nil, List.drop_nil]; exact rfl)); (focus exact rfl)) | (apply hJ27; intro u_) | (apply hJ31; intro u_) | refine LnL.nil ?_) | ((with_reducible refine Bi.dec true ?_ ?_); focus exact rfl) | ((with_reducible refine Bi.dec false ?_ ?_); focus exact rfl) | ((with_reducible refine Bi.sdec true ?_ ?_); focus decide) | ((with_reducible refine Bi.sdec false ?_ ?_); focus decide))
      (intro J31 hJ31)
      have fin31 : ∀ b w_, b = badE x → Hs w0 F w_ (pt L (lpO r .busy none) :: pt D dfO :: slA v Ty.string 1 (out.map str) :: pt a4 (oc [v] Ty.sl_string) :: pt a3 (oc [i64 0] Ty.api_Errno) :: pt a2 (oc [.slice none 0 0] Ty.sl_string) :: rest') → J31 [.bool b] w_ := by
        intro b w_ hb E
        (repeat first | (with_reducible first | refine Stp.go ?_ | refine StpE.go E ?_ | (refine StpW.go E ?_; clear E; intro w_ E) | (refine StpA.go E ?_; clear E; intro b_ w_ hb_ E) | refine Ld.pt E (by (repeat (first | assumption | with_reducible exact List.mem_cons_self | refine List.mem_cons_of_mem _ ?_))) rfl ?_ | (apply LdA.pt E; (focus ((repeat (first | assumption | with_reducible exact List.mem_cons_self | refine List.mem_cons_of_mem _ ?_)); done)); (focus (simp only [Nat.reduceAdd, Nat.zero_add, List.drop_succ_cons, List.drop_zero, List.take_succ_cons, List.take_zero, List.take_nil, List.drop_nil]; exact rfl)); (focus exact rfl)) | (apply hJ27; intro u_) | (apply hJ31; intro u_) | refine LnL.nil ?_) | ((with_reducible refine Bi.dec true ?_ ?_); focus exact rfl) | ((with_reducible refine Bi.dec false ?_ ?_); focus exact rfl) | ((with_reducible refine Bi.sdec true ?_ ?_); focus decide) | ((with_reducible refine Bi.sdec false ?_ ?_); focus decide))
        cases hbx : badE x with
        | true =>
          rw [hbx] at hb
          subst hb
          (repeat first | (with_reducible first | refine Stp.go ?_ | refine StpE.go E ?_ | (refine StpW.go E ?_; clear E; intro w_ E) | (refine StpA.go E ?_; clear E; intro b_ w_ hb_ E) | refine Ld.pt E (by (repeat (first | assumption | with_reducible exact List.mem_cons_self | refine List.mem_cons_of_mem _ ?_))) rfl ?_ | (apply LdA.pt E; (focus ((repeat (first | assumption | with_reducible exact List.mem_cons_self | refine List.mem_cons_of_mem _ ?_)); done)); (focus (simp only [Nat.reduceAdd, Nat.zero_add, List.drop_succ_cons, List.drop_zero, List.take_succ_cons, List.take_zero, List.take_nil, List.drop_nil]; exact rfl)); (focus exact rfl)) | (apply hJ27; intro u_) | (apply hJ31; intro u_) | refine LnL.nil ?_) | ((with_reducible refine Bi.dec true ?_ ?_); focus exact rfl) | ((with_reducible refine Bi.dec false ?_ ?_); focus exact rfl) | ((with_reducible refine Bi.sdec true ?_ ?_); focus decide) | ((with_reducible refine Bi.sdec false ?_ ?_); focus decide))
          refine hr _ _ ⟨⟨_, hpx⟩, fun rest => ?_, v, out, rfl⟩ E
          rw [List.append_assoc, hw, List.singleton_append, walkE_step, if_neg c1, if_pos hbx]
        | false =>
          rw [hbx] at hb
          subst hb
          (repeat with_reducible first | refine Stp.go ?_ | refine StpE.go E ?_ | (apply hJ27; intro u_) | (apply hJ31; intro u_))
          refine BdS.one E u_sl_string e_string rfl ?_
          clear E
          intro v2 w_ E
          refine Ap.one E (i := 3) rfl u_sl_string ⟨_, u_sl_string, fun _ h => by cases h⟩ e_string (Src.one E (by (first | assumption | exact FPt.mem | exact FMp.mem | exact FSl.mem | (repeat (first | assumption | with_reducible exact List.mem_cons_self | refine List.mem_cons_of_mem _ ?_)))) rfl) rfl (by simp; omega) (by simp; omega) ?_
          clear E
          intro s' w_ E
          (try simp only [List.set_cons_zero, List.set_cons_succ, List.cons_append, List.nil_append, Nat.zero_add, Nat.add_zero] at E)
          (repeat first | (with_reducible first | refine Stp.go ?_ | refine StpE.go E ?_ | (refine StpW.go E ?_; clear E; intro w_ E) | (refine StpA.go E ?_; clear E; intro b_ w_ hb_ E) | refine Ld.pt E (by (repeat (first | assumption | with_reducible exact List.mem_cons_self | refine List.mem_cons_of_mem _ ?_))) rfl ?_ | (apply LdA.pt E; (focus ((repeat (first | assumption | with_reducible exact List.mem_cons_self | refine List.mem_cons_of_mem _ ?_)); done)); (focus (simp only [Nat.reduceAdd, Nat.zero_add, List.drop_succ_cons, List.drop_zero, List.take_succ_cons, List.take_zero, List.take_nil, List.drop_nil]; exact rfl)); (focus exact rfl)) | (apply hJ27; intro u_) | (apply hJ31; intro u_) | refine LnL.nil ?_) | ((with_reducible refine Bi.dec true ?_ ?_); focus exact rfl) | ((with_reducible refine Bi.dec false ?_ ?_); focus exact rfl) | ((with_reducible refine Bi.sdec true ?_ ?_); focus decide) | ((with_reducible refine Bi.sdec false ?_ ?_); focus decide))
          refine hn _ _ ⟨s', out ++ [x], fun rest => ?_, by simp; omega, rfl⟩ ?_
          · rw [List.append_assoc, hw, List.singleton_append, walkE_step, if_neg c1, if_neg (by rw [hbx]; simp)]
          · simp only [List.cons_append, List.nil_append]
            (replace E := (E.bSl v2))
            (replace E := (E.bIx 0).tl)
            have e1 : (out ++ [x]).map str = out.map str ++ [str x] := by simp
            rw [e1]
            exact E
      clear hJ31
      (repeat with_reducible first | refine Stp.go ?_ | refine StpE.go E ?_)
      refine Bi.sneq ?_ ?_ <;> intro c2 <;> (repeat with_reducible first | refine Stp.go ?_ | refine StpE.go E ?_)
      · refine (Valid_ok hxs).mono ?_
        rintro r w' ⟨rfl, rfl⟩
        have c2 : ¬ x = dot2 := c2
        cases hg : goodName x with
        | true => (repeat with_reducible first | refine Stp.go ?_ | refine StpE.go E ?_); exact fin31 _ _ (by simp [badE, hg]) E
        | false => (repeat with_reducible first | refine Stp.go ?_ | refine StpE.go E ?_); exact fin31 _ _ (by simp [badE, hg, c2]) E
      · have c2 : x = dot2 := c2
        exact fin31 _ _ (by simp [badE, c2]) E
    clear hJ27
    (repeat with_reducible first | refine Stp.go ?_ | refine StpE.go E ?_)
    refine Bi.seql ?_ ?_ <;> intro c1 <;> (repeat first | (with_reducible first | refine Stp.go ?_ | refine StpE.go E ?_ | (refine StpW.go E ?_; clear E; intro w_ E) | (refine StpA.go E ?_; clear E; intro b_ w_ hb_ E) | refine Ld.pt E (by (repeat (first | assumption | with_reducible exact List.mem_cons_self | refine List.mem_cons_of_mem _ ?_))) rfl ?_ | (apply LdA.pt E; (focus ((repeat (first | assumption | with_reducible exact List.mem_cons_self | refine List.mem_cons_of_mem _ ?_)); done)); (focus (simp only [Nat.reduceAdd, Nat.zero_add, List.drop_succ_cons, List.drop_zero, List.take_succ_cons, List.take_zero, List.take_nil, List.drop_nil]; exact rfl)); (focus exact rfl)) | (apply hJ27; intro u_) | (apply hJ31; intro u_) | refine LnL.nil ?_) | ((with_reducible refine Bi.dec true ?_ ?_); focus exact rfl) | ((with_reducible refine Bi.dec false ?_ ?_); focus exact rfl) | ((with_reducible refine Bi.sdec true ?_ ?_); focus decide) | ((with_reducible refine Bi.sdec false ?_ ?_); focus decide))
    · exact fin27 _ _ (by rw [decide_eq_true (.inl c1)]) E
    · refine Bi.seql ?_ ?_ <;> intro c2 <;> (repeat first | (with_reducible first | refine Stp.go ?_ | refine StpE.go E ?_ | (refine StpW.go E ?_; clear E; intro w_ E) | (refine StpA.go E ?_; clear E; intro b_ w_ hb_ E) | refine Ld.pt E (by (repeat (first | assumption | with_reducible exact List.mem_cons_self | refine List.mem_cons_of_mem _ ?_))) rfl ?_ | (apply LdA.pt E; (focus ((repeat (first | assumption | with_reducible exact List.mem_cons_self | refine List.mem_cons_of_mem _ ?_)); done)); (focus (simp only [Nat.reduceAdd, Nat.zero_add, List.drop_succ_cons, List.drop_zero, List.take_succ_cons, List.take_zero, List.take_nil, List.drop_nil]; exact rfl)); (focus exact rfl)) | (apply hJ27; intro u_) | (apply hJ31; intro u_) | refine LnL.nil ?_) | ((with_reducible refine Bi.dec true ?_ ?_); focus exact rfl) | ((with_reducible refine Bi.dec false ?_ ?_); focus exact rfl) | ((with_reducible refine Bi.sdec true ?_ ?_); focus decide) | ((with_reducible refine Bi.sdec false ?_ ?_); focus decide))
      · exact fin27 _ _ (by rw [decide_eq_true (.inr c2)]) E
      · exact fin27 _ _ (by rw [decide_eq_false (fun h => h.elim c1 c2)]) E
  · clear E
    rintro D w_ xs _ hD rfl ⟨v, out, hw, hol, rfl⟩ E
    simp only [List.cons_append, List.nil_append] at E
    (repeat first | (with_reducible first | refine Stp.go ?_ | refine StpE.go E ?_ | (refine StpW.go E ?_; clear E; intro w_ E) | (refine StpA.go E ?_; clear E; intro b_ w_ hb_ E) | refine Ld.pt E (by (repeat (first | assumption | with_reducible exact List.mem_cons_self | refine List.mem_cons_of_mem _ ?_))) rfl ?_ | (apply LdA.pt E; (focus ((repeat (first | assumption | with_reducible exact List.mem_cons_self | refine List.mem_cons_of_mem _ ?_)); done)); (focus (simp only [Nat.reduceAdd, Nat.zero_add, List.drop_succ_cons, List.drop_zero, List.take_succ_cons, List.take_zero, List.take_nil, List.drop_nil]; exact rfl)); (focus exact rfl)) | (apply hJ27; intro u_) | (apply hJ31; intro u_) | refine LnL.nil ?_) | ((with_reducible refine Bi.dec true ?_ ?_); focus exact rfl) | ((with_reducible refine Bi.dec false ?_ ?_); focus exact rfl) | ((with_reducible refine Bi.sdec true ?_ ?_); focus decide) | ((with_reducible refine Bi.sdec false ?_ ?_); focus decide))
    have h1 := hw []
    rw [List.append_nil, hwalk] at h1
    have hno : (elemsC s).any badE = false ∧ elemsC s = out := by
      cases hb : (elemsC s).any badE with
      | true => rw [hb] at h1; simp [walkE] at h1
      | false => rw [hb] at h1; exact ⟨rfl, by simpa [walkE] using h1⟩
    have e : splitP s = (out, 0) := by unfold splitP; rw [if_neg (by omega), if_neg (by rw [hno.1]; simp), hno.2]
    rw [e]
    refine ⟨_, rfl, ?_⟩
    (replace E := (E.bSl v))
    replace E := E.drop (List.Sublist.cons_cons _ (List.sublist_append_right [_, _, _] l))
    exact E
  · clear E
    rintro D w_ xs ks hD ⟨⟨rest, hx⟩, hno, v, out, rfl⟩ E
    simp only [List.cons_append, List.nil_append] at E
    (repeat first | (with_reducible first | refine Stp.go ?_ | refine StpE.go E ?_ | (refine StpW.go E ?_; clear E; intro w_ E) | (refine StpA.go E ?_; clear E; intro b_ w_ hb_ E) | refine Ld.pt E (by (repeat (first | assumption | with_reducible exact List.mem_cons_self | refine List.mem_cons_of_mem _ ?_))) rfl ?_ | (apply LdA.pt E; (focus ((repeat (first | assumption | with_reducible exact List.mem_cons_self | refine List.mem_cons_of_mem _ ?_)); done)); (focus (simp only [Nat.reduceAdd, Nat.zero_add, List.drop_succ_cons, List.drop_zero, List.take_succ_cons, List.take_zero, List.take_nil, List.drop_nil]; exact rfl)); (focus exact rfl)) | (apply hJ27; intro u_) | (apply hJ31; intro u_) | refine LnL.nil ?_) | ((with_reducible refine Bi.dec true ?_ ?_); focus exact rfl) | ((with_reducible refine Bi.dec false ?_ ?_); focus exact rfl) | ((with_reducible refine Bi.sdec true ?_ ?_); focus decide) | ((with_reducible refine Bi.sdec false ?_ ?_); focus decide))
    have h1 := hno rest
    rw [← hx, hwalk] at h1
    have hb : (elemsC s).any badE = true := by
      cases hb : (elemsC s).any badE with
      | true => rfl
      | false => rw [hb] at h1; simp at h1
    have e : splitP s = ([], 8) := by unfold splitP; rw [if_neg (by omega), if_pos hb]
    rw [e]
    refine ⟨_, rfl, Hs.nilSl ?_ _ _⟩
    exact E.drop (List.sublist_append_right [_, _, _, _] l)
end Go.Proofs.YtnnhmahemklnkaaGreatDoor

/-
  Trees: paths of files; finding them.
-/
namespace Go.Proofs.YtnnhmahemklnkaaGreatDoor
open Go Go.Sh
set_option maxRecDepth 100000
set_option linter.unusedVariables false
set_option linter.unusedSimpArgs false
variable {w0 w : World} {F : Nat → Prop} {l : List As}
variable {D : List Row} {X : PT} {T : Tr} {β : Int → Nat}

/-! ### The plain path -/
theorem filter_lt {α : Type} {p q : α → Bool} {x : α} : ∀ {l : List α}, (∀ y ∈ l, p y = true → q y = true) → x ∈ l → p x = false → q x = true → (l.filter p).length < (l.filter q).length
  | [], _, h, _, _ => by cases h
  | y :: r, hs, h, hp, hq => by
    have le : ∀ {l : List α}, (∀ y ∈ l, p y = true → q y = true) → (l.filter p).length ≤ (l.filter q).length := by
      intro l
      induction l with
      | nil => intro _; exact Nat.le_refl _
      | cons z t ih =>
        intro hz
        have := ih fun y hy => hz y (List.mem_cons_of_mem _ hy)
        have hzz := hz z List.mem_cons_self
        rw [List.filter_cons, List.filter_cons]
        cases hpz : p z with
        | true => rw [if_pos rfl, if_pos (hzz hpz)]; simp only [List.length_cons]; omega
        | false => rw [if_neg Bool.false_ne_true]; split <;> (try simp only [List.length_cons]) <;> omega
    have hr : ∀ z ∈ r, p z = true → q z = true := fun z hz => hs z (List.mem_cons_of_mem _ hz)
    rw [List.filter_cons, List.filter_cons]
    rcases List.mem_cons.1 h with rfl | h
    · rw [if_neg (by rw [hp]; simp), if_pos hq]
      have := le hr
      simp only [List.length_cons]; omega
    · have ih := filter_lt hr h hp hq
      cases hpy : p y with
      | true => rw [if_pos rfl, if_pos (hs y List.mem_cons_self hpy)]; simp only [List.length_cons]; omega
      | false => rw [if_neg Bool.false_ne_true]; split <;> (try simp only [List.length_cons]) <;> omega
theorem Inv.rankB (hi : Inv T) : ∃ rk : Int → Nat, (∀ n ∈ T.ns, n.path ≠ 0 → rk n.up < rk n.path) ∧ ∀ p, rk p ≤ 1024 := by
  obtain ⟨rk, hrk⟩ := hi.rank
  refine ⟨fun p => (T.ns.filter fun m => decide (rk m.path < rk p)).length, fun n hn h0 => ?_, fun p => Nat.le_trans (List.length_filter_le _ _) hi.few.1⟩
  obtain ⟨u, hu, h1, _⟩ := hi.up n hn h0
  have hlt := hrk n hn h0
  refine filter_lt (x := u) (fun m _ hm => ?_) hu (by rw [h1]; simp) (by rw [h1]; simpa using hlt)
  have hm : rk m.path < rk n.up := by simpa using hm
  exact decide_eq_true (by omega)
/-- The names on the way from the root. -/
def chainN (T : Tr) : Nat → Nd → List BA
  | 0, _ => []
  | f + 1, n => if n.path = 0 then [] else chainN T f (T.parent n) ++ [n.name]
def Tr.chain (T : Tr) (n : Nd) : List BA := chainN T 2000 n
def Tr.pathS (T : Tr) (n : Nd) : BA := sep ++ joinS (T.chain n)
theorem parent_mem (hi : Inv T) {n : Nd} (hn : n ∈ T.ns) (h0 : n.path ≠ 0) : T.parent n ∈ T.ns ∧ (T.parent n).path = n.up ∧ (T.parent n).dir = true := by
  obtain ⟨u, hu, h1, h2⟩ := hi.up n hn h0
  have : T.get n.up = some u := hi.get.2 ⟨hu, h1⟩
  unfold Tr.parent
  rw [this]
  exact ⟨hu, h1, h2⟩
theorem chainN_fuel (hi : Inv T) {rk : Int → Nat} (hrk : ∀ n ∈ T.ns, n.path ≠ 0 → rk n.up < rk n.path) : ∀ (f g : Nat) {n : Nd}, n ∈ T.ns → rk n.path < f → rk n.path < g → chainN T f n = chainN T g n
  | 0, _, _, _, h, _ => absurd h (Nat.not_lt_zero _)
  | _ + 1, 0, _, _, _, h => absurd h (Nat.not_lt_zero _)
  | f + 1, g + 1, n, hn, h1, h2 => by
    unfold chainN
    by_cases h0 : n.path = 0
    · rw [if_pos h0, if_pos h0]
    · rw [if_neg h0, if_neg h0]
      obtain ⟨p1, p2, _⟩ := parent_mem hi hn h0
      have := hrk n hn h0
      rw [chainN_fuel hi hrk f g p1 (by rw [p2]; omega) (by rw [p2]; omega)]
theorem chain_root {n : Nd} (h0 : n.path = 0) : T.chain n = [] := by
  unfold Tr.chain chainN; rw [if_pos h0]
theorem chain_step (hi : Inv T) {n : Nd} (hn : n ∈ T.ns) (h0 : n.path ≠ 0) : T.chain n = T.chain (T.parent n) ++ [n.name] := by
  obtain ⟨rk, hrk, hb⟩ := hi.rankB
  obtain ⟨p1, p2, _⟩ := parent_mem hi hn h0
  have e : T.chain n = chainN T 1999 (T.parent n) ++ [n.name] := by
    unfold Tr.chain
    rw [chainN, if_neg h0]
  rw [e]
  congr 1
  exact chainN_fuel hi hrk _ _ p1 (by have := hb (T.parent n).path; omega) (by have := hb (T.parent n).path; omega)
theorem chain_len (hi : Inv T) {n : Nd} (hn : n ∈ T.ns) : (T.chain n).length ≤ 1024 := by
  obtain ⟨rk, hrk, hb⟩ := hi.rankB
  have key : ∀ (k : Nat) (n : Nd), n ∈ T.ns → rk n.path ≤ k → (T.chain n).length ≤ k := by
    intro k
    induction k with
    | zero =>
      intro n hn hk
      by_cases h0 : n.path = 0
      · rw [chain_root h0]; exact Nat.le_refl _
      · have := hrk n hn h0; omega
    | succ k ih =>
      intro n hn hk
      by_cases h0 : n.path = 0
      · rw [chain_root h0]; exact Nat.zero_le _
      · have := hrk n hn h0
        obtain ⟨p1, p2, _⟩ := parent_mem hi hn h0
        rw [chain_step hi hn h0, List.length_append]
        have := ih _ p1 (by rw [p2]; omega)
        simp only [List.length_singleton]; omega
  exact key _ n hn (hb _)
theorem good_size {s : BA} (h : goodName s = true) : s.size ≤ 40 := by
  unfold goodName at h
  simp only [Bool.and_eq_true, decide_eq_true_eq] at h
  exact h.2.1.1.2
theorem chain_good (hi : Inv T) {n : Nd} (hn : n ∈ T.ns) : ∀ x ∈ T.chain n, goodName x = true := by
  obtain ⟨rk, hrk, hb⟩ := hi.rankB
  have key : ∀ (k : Nat) (n : Nd), n ∈ T.ns → rk n.path ≤ k → ∀ x ∈ T.chain n, goodName x = true := by
    intro k
    induction k with
    | zero =>
      intro n hn hk x hx
      by_cases h0 : n.path = 0
      · rw [chain_root h0] at hx; cases hx
      · have := hrk n hn h0; omega
    | succ k ih =>
      intro n hn hk x hx
      by_cases h0 : n.path = 0
      · rw [chain_root h0] at hx; cases hx
      · have := hrk n hn h0
        obtain ⟨p1, p2, _⟩ := parent_mem hi hn h0
        rw [chain_step hi hn h0] at hx
        rcases List.mem_append.1 hx with hx | hx
        · exact ih _ p1 (by rw [p2]; omega) x hx
        · rw [List.mem_singleton.1 hx]; exact hi.good n hn h0
  exact key _ n hn (hb _)
theorem tot_good {l : List BA} (h : ∀ x ∈ l, goodName x = true) : tot l ≤ l.length * 41 := by
  induction l with
  | nil => exact Nat.le_refl _
  | cons x r ih =>
    have e : tot (x :: r) = x.size + 1 + tot r := by simp [tot]
    have := good_size (h x List.mem_cons_self)
    have := ih fun y hy => h y (List.mem_cons_of_mem _ hy)
    simp only [List.length_cons]; omega
theorem joinS_cons {x : BA} {r : List BA} (h : r ≠ []) : joinS (x :: r) = x ++ sep ++ joinS r := by
  refine ba_ext ?_
  cases r with
  | nil => exact absurd rfl h
  | cons y r => unfold joinS; simp [Lib.join, List.intercalate]
theorem joinS_one (x : BA) : joinS [x] = x := by
  refine ba_ext ?_
  unfold joinS; simp [Lib.join, List.intercalate]

/-! ### In memory -/
theorem Hs.ntAt {ps : List PN} (E : Hs w0 F w l) (hm : NT ps ∈ l) {n : PN} (hn : n ∈ ps) : w.heap[n.blk]? = some (oc n.mn.C Ty.tree_node) := by
  have h1 := (E.sat _ hm).1 (PN.as n) (List.mem_map.2 ⟨n, hn, rfl⟩)
  exact h1.1 (nd n.blk n.mn) List.mem_cons_self
theorem Ld.nt {ps : List PN} (E : Hs w0 F w l) (hm : NT ps ∈ l) {n : PN} (hn : n ∈ ps) {o : Nat} {v : Value} {k : Value → Prop} (hv : n.mn.C[o]? = some v) (hk : k v) : Ld (.pointer (some ⟨n.blk, o, none⟩)) w k :=
  Ld.ob (Hs.ntAt E hm hn) (by simpa using hv) hk
theorem Hs.nodupN' {ps : List PN} (E : Hs w0 F w l) (hm : NT ps ∈ l) : ∀ a ∈ ps, ∀ b ∈ ps, a.blk = b.blk → a = b := by
  obtain ⟨r, hp⟩ := split_perm hm
  have hn := Hs.nodupN (E.perm hp)
  intro a ha b hb he
  have key : ∀ (ps : List PN), (ps.map PN.blk).Nodup → a ∈ ps → b ∈ ps → a = b := by
    intro ps
    induction ps with
    | nil => intro _ h; cases h
    | cons x r ih =>
      intro hp ha hb
      rw [List.map_cons, List.nodup_cons] at hp
      rcases List.mem_cons.1 ha with h1 | ha <;> rcases List.mem_cons.1 hb with h2 | hb
      · rw [h1, h2]
      · exact absurd (List.mem_map.2 ⟨b, hb, by rw [← h1, he]⟩) hp.1
      · exact absurd (List.mem_map.2 ⟨a, ha, by rw [← h2, he]⟩) hp.1
      · exact ih hp.2 ha hb
  exact key _ hn ha hb
theorem up_val (h : Tie D X T β) (hi : Inv T) {n : PN} (hn : n ∈ X.ps) : (n.f.path = 0 ∧ n.mn.C[12]? = some np) ∨ (n.f.path ≠ 0 ∧ ∃ u ∈ X.ps, n.mn.C[12]? = some (ptr u.blk) ∧ T.parent n.f = u.f) := by
  by_cases h0 : n.f.path = 0
  · left
    refine ⟨h0, ?_⟩
    have : n.ub = none := (h.ub n hn).1 h0
    simp [MN.C, PN.mn, this]
  · right
    obtain ⟨rs, hp⟩ := split_perm hn
    obtain ⟨u, rs', hp', hu, h2, h3, h4, h5, h6, h7⟩ := h.parent hi hp h0
    exact ⟨h0, u, hu, by simp [MN.C, PN.mn, h2], h7⟩
theorem path_ok (h : Tie D X T β) (hi : Inv T) {n : PN} (hn : n ∈ X.ps) (hm : NT X.ps ∈ l) (E : Hs w0 F w l) :
    Ca PP Fn.tree_node_path #[ptr n.blk] w fun r w' => r = str (T.pathS n.f) ∧ Hs w0 F w' l := by
  refine S.tree_node_path.calls ?_
  unfold S.tree_node_path
  obtain ⟨rk, hrk, hrb⟩ := hi.rankB
  have hnT := fun (n : PN) (hn : n ∈ X.ps) => h.mem.2 ⟨n, hn, rfl⟩
  have hnd := Hs.nodupN' E hm
  (repeat with_reducible first | refine Stp.go ?_ | refine StpE.go E ?_)
  rcases up_val h hi hn with ⟨h0, hv⟩ | ⟨h0, u, hu, hv, hpar⟩
  · refine Ld.nt E hm hn hv ?_
    refine Eq.et u_p_node rfl ?_
    (repeat with_reducible first | refine Stp.go ?_ | refine StpE.go E ?_)
    have : T.pathS n.f = ⟨#[47]⟩ := by unfold Tr.pathS; rw [chain_root h0]; rfl
    rw [this]
    exact ⟨rfl, E⟩
  · refine Ld.nt E hm hn hv ?_
    refine Eq.ef u_p_node rfl ?_
    (repeat with_reducible first | refine Stp.go ?_ | refine StpE.go E ?_)
    refine Ld.nt E hm hn (v := str n.f.name) rfl ?_
    (repeat with_reducible first | refine Stp.go ?_ | refine StpE.go E ?_)
    refine Ld.nt E hm hn hv ?_
    have hlenC := chain_len hi (hnT n hn)
    have hgoodC := chain_good hi (hnT n hn)
    have htotC := tot_good hgoodC
    refine ⟨fun l1 w1 => ∃ (u : PN) (rest : List BA), u ∈ X.ps ∧ rest ≠ [] ∧ T.chain n.f = T.chain u.f ++ rest ∧ l1 = [str (joinS rest), ptr u.blk] ∧ Hs w0 F w1 l,
      fun l1 _ => match l1 with | [_, .pointer (some a)] => (match X.ps.find? (fun n => decide (n.blk = a.block)) with | some n => rk n.f.path | none => 0) | _ => 0,
      ⟨u, [n.f.name], hu, by simp, by rw [chain_step hi (hnT n hn) h0, hpar], by rw [joinS_one], E⟩, ?_⟩
    clear E
    rintro t3 t4 e0 w1 ⟨u, rest, hu, hr0, hch, h1, E⟩
    cases h1
    have htr : tot rest ≤ 41984 := by
      have : tot (T.chain n.f) = tot (T.chain u.f) + tot rest := by rw [hch, tot_app]
      omega
    have hjs := join_size rest
    (repeat with_reducible first | refine Stp.go ?_ | refine StpE.go E ?_)
    have hfind : ∀ v : PN, v ∈ X.ps → X.ps.find? (fun n => decide (n.blk = v.blk)) = some v := by
      intro v hv
      cases hf : X.ps.find? (fun n => decide (n.blk = v.blk)) with
      | none => have := List.find?_eq_none.1 hf v hv; simp at this
      | some x =>
        have h1 := List.mem_of_find?_eq_some hf
        have h2 : x.blk = v.blk := by simpa using List.find?_some hf
        rw [hnd x h1 v hv h2]
    rcases up_val h hi hu with ⟨h0', hv'⟩ | ⟨h0', u2, hu2, hv', hpar'⟩
    · refine Ld.nt E hm hu hv' ?_
      refine Eq.nf u_p_node rfl ?_
      (repeat with_reducible first | refine Stp.go ?_ | refine StpE.go E ?_)
      refine Bi.sadd (by have : ByteArray.size ⟨#[47]⟩ = 1 := rfl; omega) ?_
      have : T.pathS n.f = sep ++ joinS rest := by unfold Tr.pathS; rw [hch, chain_root h0', List.nil_append]
      rw [this]
      exact ⟨rfl, E⟩
    · refine Ld.nt E hm hu hv' ?_
      refine Eq.nt u_p_node rfl ?_
      (repeat with_reducible first | refine Stp.go ?_ | refine StpE.go E ?_)
      refine Ld.nt E hm hu (v := str u.f.name) rfl ?_
      have hgn := good_size (hi.good u.f (hnT u hu) h0')
      refine Bi.sadd (by have : ByteArray.size ⟨#[47]⟩ = 1 := rfl; omega) ?_
      refine Bi.sadd (by rw [ByteArray.size_append]; have : ByteArray.size ⟨#[47]⟩ = 1 := rfl; omega) ?_
      (repeat with_reducible first | refine Stp.go ?_ | refine StpE.go E ?_)
      refine Ld.nt E hm hu hv' ?_
      refine ⟨⟨u2, u.f.name :: rest, hu2, by simp, ?_, by rw [joinS_cons hr0], E⟩, ?_⟩
      · rw [hch, chain_step hi (hnT u hu) h0', hpar']
        simp
      · simp only [hfind u hu, hfind u2 hu2]
        have := hrk u.f (hnT u hu) h0'
        rw [← (parent_mem hi (hnT u hu) h0').2.1, hpar'] at this
        exact this
/-- The path of a file. -/
def Tr.pathOf (T : Tr) (file : Int) : BA × Int := match T.get file with
  | none => (emp, 4)
  | some n => (T.pathS n, 0)
theorem Path_ok (h : Tie D X T β) (hi : Inv T) {file : Int} (E : Hs w0 F w (trA X :: l)) : Ca PP Fn.tree_Tree_Path #[ptr X.t, i64 file] w fun r w' => r = .tuple #[str (T.pathOf file).1, i64 (T.pathOf file).2] ∧ Hs w0 F w' (trA X :: l) := by
  refine S.tree_Tree_Path.calls ?_
  unfold S.tree_Tree_Path
  replace E := Hs.openT E
  refine (find_ok E).mono ?_
  clear E
  rintro r w_ ⟨rfl, E⟩
  unfold Tr.pathOf
  rcases h.find hi file with ⟨h1, h2⟩ | ⟨n, rs, hpm, hn, hpath, h1, h2⟩
  · rw [h2]
    unfold findV
    (repeat first | (with_reducible first | refine Stp.go ?_ | refine StpE.go E ?_ | (refine StpW.go E ?_; clear E; intro w_ E) | (refine StpA.go E ?_; clear E; intro b_ w_ hb_ E) | refine LnL.nil ?_) | ((with_reducible refine Bi.dec true ?_ ?_); focus exact rfl) | ((with_reducible refine Bi.dec false ?_ ?_); focus exact rfl) | ((with_reducible refine Bi.sdec true ?_ ?_); focus decide) | ((with_reducible refine Bi.sdec false ?_ ?_); focus decide))
    rw [h1]
    exact ⟨rfl, Hs.closeT X E⟩
  · rw [h2]
    unfold findV
    (repeat first | (with_reducible first | refine Stp.go ?_ | refine StpE.go E ?_ | (refine StpW.go E ?_; clear E; intro w_ E) | (refine StpA.go E ?_; clear E; intro b_ w_ hb_ E) | refine LnL.nil ?_) | ((with_reducible refine Bi.dec true ?_ ?_); focus exact rfl) | ((with_reducible refine Bi.dec false ?_ ?_); focus exact rfl) | ((with_reducible refine Bi.sdec true ?_ ?_); focus decide) | ((with_reducible refine Bi.sdec false ?_ ?_); focus decide))
    refine (path_ok h hi hn (by simp) E).mono ?_
    clear E
    rintro r w_ ⟨rfl, E⟩
    (repeat with_reducible first | refine Stp.go ?_ | refine StpE.go E ?_)
    rw [h1]
    exact ⟨rfl, Hs.closeT X E⟩

/-! ### Finding -/
/-- The file behind a list of names, from a file on. -/
def Tr.findN (T : Tr) (n : Nd) : List BA → Qd × Int
  | [] => (n.qid, 0)
  | s :: r => if n.dir = false then (q0, 18) else match T.kid n.path s with
    | none => (q0, 4)
    | some k => T.findN k r
def Tr.find (T : Tr) (p : BA) : Qd × Int :=
  if absP p = false then (q0, 1) else if (splitP p).2 ≠ 0 then (q0, (splitP p).2) else match T.get 0 with
    | none => (q0, 4)
    | some n => T.findN n (splitP p).1
theorem kids_val {n : PN} : n.mn.C[11]? = some (.map (if n.f.dir then some n.kb else none)) := rfl
theorem isDirN {ps : List PN} {n : PN} (hn : n ∈ ps) (hm : NT ps ∈ l) (E : Hs w0 F w l) : Ca PP Fn.tree_node_isDir #[ptr n.blk] w fun r w' => r = .bool n.f.dir ∧ Hs w0 F w' l := by
  refine S.tree_node_isDir.calls ?_
  unfold S.tree_node_isDir
  (repeat with_reducible first | refine Stp.go ?_ | refine StpE.go E ?_)
  refine Ld.nt E hm hn (v := i64 n.f.mode) rfl ?_
  (repeat with_reducible first | refine Stp.go ?_ | refine StpE.go E ?_)
  refine Bi.neq ?_ ?_ <;> intro h1
  · exact ⟨by show _ = Value.bool (isD n.f.mode); simp [isD, h1], E⟩
  · exact ⟨by show _ = Value.bool (isD n.f.mode); simp [isD, h1], E⟩
theorem mapAtN {ps : List PN} {n : PN} (hn : n ∈ ps) (hd : n.f.dir = true) (hm : NT ps ∈ l) (E : Hs w0 F w l) : ∃ l', mp n.kb .str n.kM ∈ l' ∧ Hs w0 F w l' := by
  obtain ⟨r, hp⟩ := split_perm hm
  obtain ⟨rs, hps⟩ := split_perm hn
  have E1 := (Hs.openN (E.perm hp) hps).bIx 1
  exact ⟨_, List.mem_cons_self, Hs.openK hd E1⟩
theorem absP_first {p : BA} : absP p = decide (p.data.toList[0]? = some 47) := absP_eq p
theorem Find_ok (h : Tie D X T β) (hi : Inv T) {p : BA} (E : Hs w0 F w (trA X :: l)) : Ca PP Fn.tree_Tree_Find #[ptr X.t, str p] w fun r w' => r = .tuple #[(T.find p).1.V, i64 (T.find p).2] ∧ Hs w0 F w' (trA X :: l) := by
  refine S.tree_Tree_Find.calls ?_
  unfold S.tree_Tree_Find
  (repeat first | (with_reducible first | refine Stp.go ?_ | refine StpE.go E ?_ | (refine StpW.go E ?_; clear E; intro w_ E) | (refine StpA.go E ?_; clear E; intro b_ w_ hb_ E) | (apply hJ7; intro u_) | refine LnL.nil ?_) | ((with_reducible refine Bi.dec true ?_ ?_); focus exact rfl) | ((with_reducible refine Bi.dec false ?_ ?_); focus exact rfl) | ((with_reducible refine Bi.sdec true ?_ ?_); focus decide) | ((with_reducible refine Bi.sdec false ?_ ?_); focus decide))
  (revert b_; intro q hbq E)
  (replace E := ((E.bIx 0).bIx 1))
  refine Eq.ef u_p_tree rfl ?_
  (repeat with_reducible first | refine Stp.go ?_ | refine StpE.go E ?_)
  (intro J7 hJ7)
  have fin7 : ∀ b w_, b = !absP p → Hs w0 F w_ (trA X :: qd0 q :: l) → J7 [.bool b] w_ := by
    intro b w_ hb E
    (repeat with_reducible first | refine Stp.go ?_ | refine StpE.go E ?_)
    cases ha : absP p with
    | false =>
      obtain rfl : b = true := by rw [hb, ha]; rfl
      (repeat first | (with_reducible first | refine Stp.go ?_ | refine StpE.go E ?_ | (refine StpW.go E ?_; clear E; intro w_ E) | (refine StpA.go E ?_; clear E; intro b_ w_ hb_ E) | (apply hJ7; intro u_) | refine LnL.nil ?_) | ((with_reducible refine Bi.dec true ?_ ?_); focus exact rfl) | ((with_reducible refine Bi.dec false ?_ ?_); focus exact rfl) | ((with_reducible refine Bi.sdec true ?_ ?_); focus decide) | ((with_reducible refine Bi.sdec false ?_ ?_); focus decide))
      have e : T.find p = (q0, 1) := by unfold Tr.find; rw [if_pos ha]
      rw [e]
      exact ⟨rfl, (E.bIx 1).tl⟩
    | true =>
      have han : ¬ absP p = false := by rw [ha]; simp
      obtain rfl : b = false := by rw [hb, ha]; rfl
      (repeat first | (with_reducible first | refine Stp.go ?_ | refine StpE.go E ?_ | (refine StpW.go E ?_; clear E; intro w_ E) | (refine StpA.go E ?_; clear E; intro b_ w_ hb_ E) | (apply hJ7; intro u_) | refine LnL.nil ?_) | ((with_reducible refine Bi.dec true ?_ ?_); focus exact rfl) | ((with_reducible refine Bi.dec false ?_ ?_); focus exact rfl) | ((with_reducible refine Bi.sdec true ?_ ?_); focus decide) | ((with_reducible refine Bi.sdec false ?_ ?_); focus decide))
      refine (Split_ok E).mono ?_
      clear E
      rintro r w_ ⟨v, rfl, E⟩
      (repeat with_reducible first | refine Stp.go ?_ | refine StpE.go E ?_ | (apply hJ7; intro u_))
      refine Bi.neq ?_ ?_ <;> intro h2 <;> (repeat first | (with_reducible first | refine Stp.go ?_ | refine StpE.go E ?_ | (refine StpW.go E ?_; clear E; intro w_ E) | (refine StpA.go E ?_; clear E; intro b_ w_ hb_ E) | (apply hJ7; intro u_) | refine LnL.nil ?_) | ((with_reducible refine Bi.dec true ?_ ?_); focus exact rfl) | ((with_reducible refine Bi.dec false ?_ ?_); focus exact rfl) | ((with_reducible refine Bi.sdec true ?_ ?_); focus decide) | ((with_reducible refine Bi.sdec false ?_ ?_); focus decide))
      · have e : T.find p = (q0, (splitP p).2) := by unfold Tr.find; rw [if_neg han, if_pos h2]
        rw [e]
        exact ⟨rfl, (E.tl.bIx 1).tl⟩
      obtain ⟨r0, hr0, hr1, hr2⟩ := h.root
      have hg0 : T.get 0 = some r0.f := hi.get.2 ⟨h.mem.2 ⟨r0, hr0, rfl⟩, hr1⟩
      have e : T.find p = T.findN r0.f (splitP p).1 := by unfold Tr.find; rw [if_neg han, if_neg (fun hc => hc h2)]; simp only [hg0]
      rw [e]
      generalize hL : (splitP p).1 = L at *
      have hlen : L.length ≤ 1025 := by
        rw [← hL]
        unfold splitP
        split
        · exact Nat.zero_le _
        split
        · exact Nat.zero_le _
        · have h1 := elems_tot p
          have h2 := tot_len (elemsC p)
          show (elemsC p).length ≤ 1025
          omega
      replace E := Hs.openT (E.bIx 1)
      (repeat with_reducible first | refine Stp.go ?_ | refine StpE.go E ?_ | (apply hJ7; intro u_))
      rw [← hr2]
      rw [List.length_map]
      refine ⟨fun l1 w1 => ∃ (i : Nat) (n : PN), n ∈ X.ps ∧ i ≤ L.length ∧ T.findN r0.f L = T.findN n.f (L.drop i) ∧ l1 = [ptr n.blk, i64 i] ∧ Hs w0 F w1 (tb X :: mp X.fm (.int .i64) X.fM :: mp X.gm .str X.gM :: mp X.om (.int .i64) X.oM :: NT X.ps :: DT X.ds :: slA v Ty.string 1 (L.map str) :: qd0 q :: l),
        fun l1 _ => match l1 with | [_, .int _ i] => L.length - i.toNat | _ => 0, ⟨0, r0, hr0, Nat.zero_le _, rfl, rfl, E⟩, ?_⟩
      clear E
      rintro t8 t37 e0 w1 ⟨i, n, hn, hi', hf, h1, E⟩
      cases h1
      refine Bi.lss ?_ ?_ <;> intro hlt <;> (repeat first | (with_reducible first | refine Stp.go ?_ | refine StpE.go E ?_ | (refine StpW.go E ?_; clear E; intro w_ E) | (refine StpA.go E ?_; clear E; intro b_ w_ hb_ E) | (apply hJ7; intro u_) | refine LnL.nil ?_) | ((with_reducible refine Bi.dec true ?_ ?_); focus exact rfl) | ((with_reducible refine Bi.dec false ?_ ?_); focus exact rfl) | ((with_reducible refine Bi.sdec true ?_ ?_); focus decide) | ((with_reducible refine Bi.sdec false ?_ ?_); focus decide))
      · have hx : L[i]? = some L[i] := List.getElem?_eq_getElem (by omega)
        have hd : L.drop i = L[i] :: L.drop (i + 1) := List.drop_eq_getElem_cons (by omega)
        refine IxA.sl E (by (first | assumption | exact FPt.mem | exact FMp.mem | exact FSl.mem | (repeat (first | assumption | with_reducible exact List.mem_cons_self | refine List.mem_cons_of_mem _ ?_)))) (by omega) (by omega) (by simp; omega) ?_
        intro a ha
        refine Ld.sl E (by (first | assumption | exact FPt.mem | exact FMp.mem | exact FSl.mem | (repeat (first | assumption | with_reducible exact List.mem_cons_self | refine List.mem_cons_of_mem _ ?_)))) ha (x := str L[i]) (by simp [hx]) ?_
        refine (isDirN hn (by simp) E).mono ?_
        clear E
        rintro r w_ ⟨rfl, E⟩
        rw [hf, hd]
        have keep : ∀ w c, Hs w0 F w (tb X :: mp X.fm (.int .i64) X.fM :: mp X.gm .str X.gM :: mp X.om (.int .i64) X.oM :: NT X.ps :: DT X.ds :: slA v Ty.string 1 (L.map str) :: pt q (oc c Ty.api_Qid) :: l) → Hs w0 F w (trA X :: l) := fun w c E => (((Hs.closeT X E).bIx 1).tl.bIx 1).tl
        cases hdir : n.f.dir with
        | false =>
          (repeat first | (with_reducible first | refine Stp.go ?_ | refine StpE.go E ?_ | (refine StpW.go E ?_; clear E; intro w_ E) | (refine StpA.go E ?_; clear E; intro b_ w_ hb_ E) | (apply hJ7; intro u_) | refine LnL.nil ?_) | ((with_reducible refine Bi.dec true ?_ ?_); focus exact rfl) | ((with_reducible refine Bi.dec false ?_ ?_); focus exact rfl) | ((with_reducible refine Bi.sdec true ?_ ?_); focus decide) | ((with_reducible refine Bi.sdec false ?_ ?_); focus decide))
          have e2 : T.findN n.f (L[i] :: L.drop (i + 1)) = (q0, 18) := by unfold Tr.findN; rw [if_pos hdir]
          rw [e2]
          exact ⟨rfl, keep _ _ E⟩
        | true =>
          (repeat first | (with_reducible first | refine Stp.go ?_ | refine StpE.go E ?_ | (refine StpW.go E ?_; clear E; intro w_ E) | (refine StpA.go E ?_; clear E; intro b_ w_ hb_ E) | (apply hJ7; intro u_) | refine LnL.nil ?_) | ((with_reducible refine Bi.dec true ?_ ?_); focus exact rfl) | ((with_reducible refine Bi.dec false ?_ ?_); focus exact rfl) | ((with_reducible refine Bi.sdec true ?_ ?_); focus decide) | ((with_reducible refine Bi.sdec false ?_ ?_); focus decide))
          refine Ld.nt E (by simp) hn kids_val ?_
          rw [if_pos hdir]
          obtain ⟨l', hml, El⟩ := mapAtN (w0 := w0) (F := F) hn hdir (by simp) E
          refine Lk.one El hml u_mkids k_str z_p_node rfl ?_
          rw [aget_enc keyS]
          rcases h.kid hi hn L[i] with ⟨k1, k2⟩ | ⟨k, hk, k1, k2⟩
          · rw [k2]
            simp only [Option.map_none, Option.getD_none]
            refine Eq.et u_p_node rfl ?_
            (repeat first | (with_reducible first | refine Stp.go ?_ | refine StpE.go E ?_ | (refine StpW.go E ?_; clear E; intro w_ E) | (refine StpA.go E ?_; clear E; intro b_ w_ hb_ E) | (apply hJ7; intro u_) | refine LnL.nil ?_) | ((with_reducible refine Bi.dec true ?_ ?_); focus exact rfl) | ((with_reducible refine Bi.dec false ?_ ?_); focus exact rfl) | ((with_reducible refine Bi.sdec true ?_ ?_); focus decide) | ((with_reducible refine Bi.sdec false ?_ ?_); focus decide))
            have e2 : T.findN n.f (L[i] :: L.drop (i + 1)) = (q0, 4) := by unfold Tr.findN; rw [if_neg (by rw [hdir]; simp)]; simp only [k1]
            rw [e2]
            exact ⟨rfl, keep _ _ E⟩
          · rw [k2]
            simp only [Option.map_some, Option.getD_some]
            refine Eq.ef u_p_node rfl ?_
            (repeat with_reducible first | refine Stp.go ?_ | refine StpE.go E ?_ | (apply hJ7; intro u_))
            refine Bi.add (by omega) ?_
            refine ⟨⟨i + 1, k, hk, by omega, ?_, by simp, E⟩, by simp only []; omega⟩
            conv => lhs; unfold Tr.findN
            rw [if_neg (by rw [hdir]; simp)]
            simp only [k1]
      · have : i = L.length := by omega
        subst this
        rw [List.drop_length] at hf
        rw [hf]
        refine LdA.ob (Hs.ntAt E (by simp) hn) (by simp) ?_
        have eq3 : (n.mn.C.toArray.extract 0 (0 + 3) : Array Value) = #[i64 n.mn.kind, i64 n.mn.vers, i64 n.mn.path] := by simp
        rw [eq3]
        (repeat first | (with_reducible first | refine Stp.go ?_ | refine StpE.go E ?_ | (refine StpW.go E ?_; clear E; intro w_ E) | (refine StpA.go E ?_; clear E; intro b_ w_ hb_ E) | (apply hJ7; intro u_) | refine LnL.nil ?_) | ((with_reducible refine Bi.dec true ?_ ?_); focus exact rfl) | ((with_reducible refine Bi.dec false ?_ ?_); focus exact rfl) | ((with_reducible refine Bi.sdec true ?_ ?_); focus decide) | ((with_reducible refine Bi.sdec false ?_ ?_); focus decide))
        exact ⟨rfl, (((Hs.closeT X E).bIx 1).tl.bIx 1).tl⟩
  clear hJ7
  refine Bi.seql ?_ ?_ <;> intro h1 <;> (repeat with_reducible first | refine Stp.go ?_ | refine StpE.go E ?_)
  · refine fin7 _ _ ?_ E
    rw [h1]; rfl
  · have hp0 : 0 < p.size := by
      have h2 : ¬ p.size = 0 := fun hz => h1 (by
        refine ba_ext ?_
        have : p.data.toList.length = 0 := by simpa using hz
        rw [List.length_eq_zero_iff] at this
        rw [this])
      omega
    obtain ⟨b, hb, hb'⟩ := ba_get (s := p) (i := 0) hp0
    refine IxS.mk (by omega) (by simpa using hb) ?_
    refine Gd.t false ?_
    refine Bi.neq ?_ ?_ <;> intro h2 <;> (repeat with_reducible first | refine Stp.go ?_ | refine StpE.go E ?_)
    · refine fin7 _ _ ?_ E
      rw [absP_eq, hb']
      have : ¬ b = 47 := fun e => h2 (by rw [e]; rfl)
      simp [this]
    · refine fin7 _ _ ?_ E
      rw [absP_eq, hb']
      have : b = 47 := by
        apply UInt8.toNat_inj.1
        have : (b.toNat : Int) = 47 := h2
        show b.toNat = 47
        omega
      simp [this]
end Go.Proofs.YtnnhmahemklnkaaGreatDoor

/-
  Trees: a file is taken out; closing, removing.
-/
namespace Go.Proofs.YtnnhmahemklnkaaGreatDoor
open Go Go.Sh
set_option maxRecDepth 100000
set_option linter.unusedVariables false
set_option linter.unusedSimpArgs false
variable {w0 w : World} {F : Nat → Prop} {l : List As}
variable {D : List Row} {X : PT} {T : Tr} {β : Int → Nat}

theorem delL_perm {κ α : Type} [DecidableEq κ] {k : κ} {v : α} : ∀ {L M : List (κ × α)}, (L.map (·.1)).Nodup → L.Perm ((k, v) :: M) → (delL L k).Perm M := by
  have split : ∀ {L : List (κ × α)}, (L.map (·.1)).Nodup → (k, v) ∈ L → L.Perm ((k, v) :: delL L k) := by
    intro L
    induction L with
    | nil => intro _ h; cases h
    | cons p r ih =>
      intro hn h
      rw [List.map_cons, List.nodup_cons] at hn
      unfold delL
      by_cases hk : k = p.1
      · rw [if_pos hk]
        rcases List.mem_cons.1 h with h1 | h1
        · rw [h1]
        · exact absurd (List.mem_map.2 ⟨_, h1, hk⟩) hn.1
      · rw [if_neg hk]
        rcases List.mem_cons.1 h with h1 | h1
        · exact absurd (by rw [← h1]) hk
        · exact ((ih hn.2 h1).cons p).trans (List.Perm.swap _ _ _)
  intro L M hn hp
  have h1 := split hn (hp.mem_iff.2 List.mem_cons_self)
  exact (h1.symm.trans hp).cons_inv
/-- A file without files below it is taken out of its directory: in memory. -/
theorem Tie.filter (h : Tie D X T β) (hi : Inv T) (hnd : (X.ps.map PN.blk).Nodup) {n u : PN} {rs : List PN} (hp : X.ps.Perm (n :: rs)) (hu : u ∈ rs) (h0 : n.f.path ≠ 0) (hup : u.f.path = n.f.up) (hk : ∀ m ∈ T.ns, m.path ≠ 0 → m.up ≠ n.f.path) (m0 : MN) (hm0 : m0.gone = true) :
    Tie D { X with ps := updB rs u.blk (fun m => { m with kl := delL m.kl n.f.name }), fl := delL X.fl n.f.path, ds := (n.blk, m0) :: X.ds } { T with ns := T.ns.filter fun x => decide (x.path ≠ n.f.path) } β := by
  have hn : n ∈ X.ps := hp.mem_iff.2 List.mem_cons_self
  have rsX : ∀ m ∈ rs, m ∈ X.ps := fun m hm => hp.mem_iff.2 (List.mem_cons_of_mem _ hm)
  have hpn : (n.f.path :: rs.map fun m => m.f.path).Nodup := by
    have h1 := (h.ns.map (·.path)).nodup_iff.2 hi.nodup
    rw [List.map_map] at h1
    exact ((hp.map fun m => m.f.path).nodup_iff.1 h1)
  rw [List.nodup_cons] at hpn
  have hne : ∀ m ∈ rs, m.f.path ≠ n.f.path := fun m hm he => hpn.1 (by rw [← he]; exact List.mem_map.2 ⟨m, hm, rfl⟩)
  have hnb : (n.blk :: rs.map PN.blk).Nodup := (hp.map PN.blk).nodup_iff.1 hnd
  rw [List.nodup_cons] at hnb
  obtain ⟨G, hG⟩ : ∃ G : PN → PN, G = fun m => if m.blk = u.blk then { m with kl := delL m.kl n.f.name } else m := ⟨_, rfl⟩
  have hGr : updB rs u.blk (fun m => { m with kl := delL m.kl n.f.name }) = rs.map G := by rw [hG]; rfl
  have g1 : ∀ m, (G m).f = m.f ∧ (G m).blk = m.blk ∧ (G m).dv = m.dv ∧ (G m).ub = m.ub := fun m => by rw [hG]; dsimp only; split <;> exact ⟨rfl, rfl, rfl, rfl⟩
  rw [hGr]
  have mm : ∀ {P : PN → Prop}, (∀ m ∈ rs, P (G m)) → ∀ m ∈ rs.map G, P m := by
    intro P hP m hm
    obtain ⟨q, hq, rfl⟩ := List.mem_map.1 hm
    exact hP q hq
  have back : ∀ m ∈ rs, G m ∈ rs.map G := fun m hm => List.mem_map.2 ⟨m, hm, rfl⟩
  have kids : ∀ p, ((rs.map G).filter fun k => Tr.isKid p k.f).map (fun k => (k.f.name, k.blk)) = (rs.filter fun k => Tr.isKid p k.f).map fun k => (k.f.name, k.blk) := by
    intro p
    rw [List.filter_map, List.map_map]
    have e1 : ((fun k : PN => Tr.isKid p k.f) ∘ G) = fun k => Tr.isKid p k.f := by funext k; simp only [Function.comp, (g1 k).1]
    rw [e1]
    refine List.map_congr_left fun k _ => ?_
    simp only [Function.comp, (g1 k).1, (g1 k).2.1]
  refine ⟨?_, h.clock, h.next, mm fun m hm => ?_, mm fun m hm => ?_, mm fun m hm => ?_, ?_, ?_, h.gs, mm fun m hm => ?_, h.ol, ?_⟩
  · show ((rs.map G).map PN.f).Perm _
    rw [List.map_map]
    have e : (PN.f ∘ G) = PN.f := by funext m; exact (g1 m).1
    rw [e]
    have h1 := (h.ns.symm.trans (hp.map PN.f)).filter fun x => decide (x.path ≠ n.f.path)
    refine List.Perm.symm (h1.trans ?_)
    rw [List.map_cons, List.filter_cons, if_neg (by simp)]
    have h2 : (rs.map PN.f).filter (fun x => decide (x.path ≠ n.f.path)) = rs.map PN.f := by
      rw [List.filter_eq_self]
      intro x hx
      obtain ⟨m, hm, rfl⟩ := List.mem_map.1 hx
      exact decide_eq_true (hne m hm)
    rw [h2]
  · rw [(g1 m).1, (g1 m).2.2.1]; exact h.data m (rsX m hm)
  · rw [(g1 m).1, (g1 m).2.2.2]
    refine ⟨(h.ub m (rsX m hm)).1, fun hm0 => ?_⟩
    obtain ⟨v, hv, h1, h2⟩ := (h.ub m (rsX m hm)).2 hm0
    rcases List.mem_cons.1 (hp.mem_iff.1 hv) with rfl | hvr
    · exact absurd h1.symm (hk m.f (h.mem.2 ⟨m, rsX m hm, rfl⟩) hm0)
    · exact ⟨G v, back v hvr, by rw [(g1 v).1]; exact h1, by rw [(g1 v).2.1]; exact h2⟩
  · rw [(g1 m).1, kids]
    have hkl := h.kl m (rsX m hm)
    have hsplit := ((hp.filter fun k => Tr.isKid m.f.path k.f).map fun k => (k.f.name, k.blk))
    by_cases hmu : m.blk = u.blk
    · have hmu' : m = u := by
        have key : ∀ (ps : List PN), (ps.map PN.blk).Nodup → m ∈ ps → u ∈ ps → m = u := by
          intro ps
          induction ps with
          | nil => intro _ h; cases h
          | cons x r ih =>
            intro hp ha hb
            rw [List.map_cons, List.nodup_cons] at hp
            rcases List.mem_cons.1 ha with h1 | ha <;> rcases List.mem_cons.1 hb with h2 | hb
            · rw [h1, h2]
            · exact absurd (List.mem_map.2 ⟨u, hb, by rw [← h1, hmu]⟩) hp.1
            · exact absurd (List.mem_map.2 ⟨m, ha, by rw [← h2, hmu]⟩) hp.1
            · exact ih hp.2 ha hb
        exact key rs hnb.2 hm hu
      subst hmu'
      have eG : (G m).kl = delL m.kl n.f.name := by rw [hG]; dsimp only; rw [if_pos rfl]
      rw [eG]
      have hkid : Tr.isKid m.f.path n.f = true := by unfold Tr.isKid; exact decide_eq_true ⟨h0, hup.symm⟩
      rw [List.filter_cons, if_pos hkid, List.map_cons] at hsplit
      exact delL_perm (((hkl.map (·.1)).nodup_iff).2 (h.klN hi m.f.path)) (hkl.trans hsplit)
    · have eG : (G m).kl = m.kl := by rw [hG]; dsimp only; rw [if_neg hmu]
      rw [eG]
      have hkid : ¬ Tr.isKid m.f.path n.f = true := by
        unfold Tr.isKid
        intro hc
        have hc := (of_decide_eq_true hc).2
        have : m = u := h.inj hi (rsX m hm) (rsX u hu) (by rw [← hc, hup])
        exact hmu (by rw [this])
      rw [List.filter_cons, if_neg hkid] at hsplit
      exact hkl.trans hsplit
  · show (delL X.fl n.f.path).Perm ((rs.map G).map fun n => (n.f.path, n.blk))
    rw [List.map_map]
    have e : ((fun n : PN => (n.f.path, n.blk)) ∘ G) = fun n => (n.f.path, n.blk) := by funext m; simp only [Function.comp, (g1 m).1, (g1 m).2.1]
    rw [e]
    have h1 := h.fl.trans (hp.map fun n => (n.f.path, n.blk))
    exact delL_perm (((h.fl.map (·.1)).nodup_iff).2 (h.flN hi)) h1
  · obtain ⟨r, hr, hr1, hr2⟩ := h.root
    rcases List.mem_cons.1 (hp.mem_iff.1 hr) with rfl | hrr
    · exact absurd hr1 h0
    · exact ⟨G r, back r hrr, by rw [(g1 r).1]; exact hr1, by rw [(g1 r).2.1]; exact hr2⟩
  · rw [(g1 m).1, (g1 m).2.1]; exact h.bl m (rsX m hm)
  · intro x hx hno
    by_cases hxn : x.2.file = n.f.path
    · rw [hxn, h.bl n hn]
      exact ⟨m0, List.mem_cons_self, hm0⟩
    · obtain ⟨m, hm, hg⟩ := h.dead x hx fun y hy he => hno y (List.mem_filter.2 ⟨hy, decide_eq_true (by rw [he]; exact hxn)⟩) he
      exact ⟨m, List.mem_cons_of_mem _ hm, hg⟩
theorem Tie.hdel (h : Tie D X T β) (hi : Inv T) (k : Int) : Tie D { X with ol := delL X.ol k } { T with hs := delL T.hs k } β := by
  have hsub := delL_sub k T.hs
  refine ⟨h.ns, h.clock, h.next, h.data, h.ub, h.kl, h.fl, h.root, h.gs, h.bl, ?_, fun x hx => h.dead x (hsub.subset hx)⟩
  show (delL X.ol k).Perm ((delL T.hs k).map _)
  cases hg : getL T.hs k with
  | none =>
    have hno : ∀ {β : Type} (L : List (Int × β)), k ∉ L.map (·.1) → delL L k = L := by
      intro β L
      induction L with
      | nil => intro _; rfl
      | cons p r ih =>
        intro hn
        rw [List.map_cons, List.mem_cons, not_or] at hn
        unfold delL
        rw [if_neg hn.1, ih hn.2]
    have h1 := getL_none.1 hg
    rw [hno T.hs h1, hno X.ol fun hc => h1 (h.keys.mem_iff.1 hc)]
    exact h.ol
  | some x =>
    have h1 := (getL_some hi.hsN).1 hg
    have h2 : T.hs.Perm ((k, x) :: delL T.hs k) := by
      obtain ⟨r, hr⟩ := split_perm h1
      have := delL_perm hi.hsN hr
      exact hr.trans (this.symm.cons _)
    have h3 := h.ol.trans (h2.map fun x : Int × Hd => (x.1, (⟨β x.2.file, x.2.mode, x.2.user⟩ : HV)))
    rw [List.map_cons] at h3
    exact delL_perm (h.keys.nodup_iff.2 hi.hsN) h3

theorem kids_upd {u : PN} (s : BA) : KM { u with kl := delL u.kl s } = star (if u.f.dir then [mp u.kb .str (encM Value.string ptr (delL u.kl s))] else []) := rfl
theorem remove_ok (h : Tie D X T β) (hi : Inv T) {N : Int} (hN : N < 4611686018427387904) (hlim : Lim N T) {n : PN} (hn : n ∈ X.ps) (h0 : n.f.path ≠ 0) (hk : ∀ m ∈ T.ns, m.path ≠ 0 → m.up ≠ n.f.path) {user : BA} (E : Hs w0 F w (trA X :: l)) :
    Ca PP Fn.tree_Tree_remove #[ptr X.t, str user, ptr n.blk] w fun _ w' => ∃ X', X'.t = X.t ∧ Tie D X' (T.drop user n.f) β ∧ Hs w0 F w' (trA X' :: l) := by
  refine S.tree_Tree_remove.calls ?_
  unfold S.tree_Tree_remove
  have hnd := Hs.nodupT E
  obtain ⟨rs, hpm⟩ := split_perm hn
  obtain ⟨u, rs', hp', hu, hub, hup, hne, hud, hgu, hpar⟩ := h.parent hi hpm h0
  have hur : u ∈ rs := hp'.mem_iff.2 List.mem_cons_self
  have hpm2 : X.ps.Perm (n :: u :: rs') := hpm.trans (hp'.cons n)
  replace E := Hs.openTN2 hpm2 E
  have hub' : n.mn.up = some u.blk := hub
  have hkb : u.mn.kids = some u.kb := if_pos hud
  (repeat first | (with_reducible first | refine Stp.go ?_ | refine StpE.go E ?_ | (refine StpW.go E ?_; clear E; intro w_ E) | (refine StpA.go E ?_; clear E; intro b_ w_ hb_ E) | refine LnL.nil ?_) | ((with_reducible refine Bi.dec true ?_ ?_); focus exact rfl) | ((with_reducible refine Bi.dec false ?_ ?_); focus exact rfl) | ((with_reducible refine Bi.sdec true ?_ ?_); focus decide) | ((with_reducible refine Bi.sdec false ?_ ?_); focus decide))
  rw [hub']
  simp only [Option.map_some]
  (repeat with_reducible first | refine Stp.go ?_ | refine StpE.go E ?_)
  rw [hkb]
  replace E := Hs.openK hud (E.bIx 7)
  refine Dl.by E u_mkids k_str rfl ?_
  clear E
  intro w_ E
  have e1 : adel u.kM (str n.f.name) = encM Value.string ptr (delL u.kl n.f.name) := adel_enc keyS _ _
  have e1' : adel u.kM (str n.mn.name) = encM Value.string ptr (delL u.kl n.f.name) := e1
  rw [e1'] at E
  (repeat first | (with_reducible first | refine Stp.go ?_ | refine StpE.go E ?_ | (refine StpW.go E ?_; clear E; intro w_ E) | (refine StpA.go E ?_; clear E; intro b_ w_ hb_ E) | refine LnL.nil ?_) | ((with_reducible refine Bi.dec true ?_ ?_); focus exact rfl) | ((with_reducible refine Bi.dec false ?_ ?_); focus exact rfl) | ((with_reducible refine Bi.sdec true ?_ ?_); focus decide) | ((with_reducible refine Bi.sdec false ?_ ?_); focus decide))
  refine Dl.by E u_mfiles k_i64 rfl ?_
  clear E
  intro w_ E
  have e2 : adel X.fM (i64 n.mn.path) = encM i64 ptr (delL X.fl n.f.path) := adel_enc (keyI .i64) _ _
  rw [e2] at E
  (repeat first | (with_reducible first | refine Stp.go ?_ | refine StpE.go E ?_ | (refine StpW.go E ?_; clear E; intro w_ E) | (refine StpA.go E ?_; clear E; intro b_ w_ hb_ E) | refine LnL.nil ?_) | ((with_reducible refine Bi.dec true ?_ ?_); focus exact rfl) | ((with_reducible refine Bi.dec false ?_ ?_); focus exact rfl) | ((with_reducible refine Bi.sdec true ?_ ?_); focus decide) | ((with_reducible refine Bi.sdec false ?_ ?_); focus decide))
  rw [hub']
  simp only [Option.map_some]
  refine BdS.one E u_sl_p_node e_p_node rfl ?_
  clear E
  intro sv w_ E
  obtain ⟨u1, hu1⟩ : ∃ u1 : PN, u1 = { u with kl := delL u.kl n.f.name } := ⟨_, rfl⟩
  obtain ⟨m0, hm0⟩ : ∃ m0 : MN, m0 = { n.mn with gone := true } := ⟨_, rfl⟩
  obtain ⟨X1, hX1⟩ : ∃ X1 : PT, X1 = { X with ps := updB rs u.blk (fun m => { m with kl := delL m.kl n.f.name }), fl := delL X.fl n.f.path, ds := (n.blk, m0) :: X.ds } := ⟨_, rfl⟩
  have hT1 : Tie D X1 { T with ns := T.ns.filter fun x => decide (x.path ≠ n.f.path) } β := by
    rw [hX1]
    exact h.filter hi hnd hpm hur h0 hup hk m0 (by rw [hm0])
  have hi1 := hi.filter h0 hk
  have hnr : (rs.map PN.blk).Nodup := by
    have := (hpm.map PN.blk).nodup_iff.1 hnd
    exact (List.nodup_cons.1 this).2
  have hpm1 : X1.ps.Perm (u1 :: rs') := by
    rw [hX1, hu1]
    exact updB_perm (g := fun m : PN => { m with kl := delL m.kl n.f.name }) hnr hp'
  have hu1m : u1 ∈ X1.ps := hpm1.mem_iff.2 List.mem_cons_self
  -- u among the others
  have E1 : Hs w0 F w_ (KM u1 :: slA sv Ty.p_tree_node 1 [ptr u.blk] :: tb X :: mp X.fm (.int .i64) (encM i64 ptr (delL X.fl n.f.path)) :: mp X.gm .str X.gM :: mp X.om (.int .i64) X.oM :: nd n.blk m0 :: KM n :: nd u.blk u.mn :: NT rs' :: DT X.ds :: l) := by
    have E2 := Hs.star (ls := [mp u.kb .str (encM Value.string ptr (delL u.kl n.f.name))]) (E.bIx 1)
    have e3 : KM u1 = star [mp u.kb .str (encM Value.string ptr (delL u.kl n.f.name))] := by
      rw [hu1, kids_upd]
      have : u.f.dir = true := hud
      rw [if_pos this]
    rw [e3]
    rw [hm0]
    exact E2
  clear E
  have E := E1
  clear E1
  (replace E := ((((((((((E.bIx 10).bIx 7).bIx 7).bIx 7).bIx 7).bIx 7).bIx 7).bIx 10).bIx 8).bIx 10))
  have eu : nd u.blk u.mn = nd u1.blk u1.mn := by rw [hu1]
  rw [eu] at E
  replace E := Hs.permN (Hs.closeN u1 E) hpm1.symm
  (replace E := (((E.bIx 1).bIx 1).bIx 2))
  have ht : tb X = tb X1 := by rw [hX1]
  have hb1 : u1.blk = u.blk := by rw [hu1]
  have hf1 : u1.f = u.f := by rw [hu1]
  rw [ht] at E
  have hlim1 : Lim N { T with ns := T.ns.filter fun x => decide (x.path ≠ n.f.path) } := ⟨hlim.clock, hlim.next, fun m hm => hlim.vers m (List.mem_filter.1 hm).1⟩
  have hcl := hlim.clock
  have hc0 := hi.clock
  have hcx := hT1.clock
  have hcx : X1.clock = T.clock := hcx
  have hXt : X1.t = X.t := by rw [hX1]
  rw [← hXt]
  rw [← hb1] at E
  refine (change_ok (X := X1) (bs := [u1.blk]) (RdS.by1 sv E.tl.tl) ?_ (by omega) (lim_fit hi1 hN hlim1 hT1) (by simp) E).mono ?_
  · intro b hb
    rw [List.mem_singleton.1 hb]
    exact List.mem_map.2 ⟨u1, hu1m, rfl⟩
  clear E
  rintro r w_ E
  (repeat with_reducible first | refine Stp.go ?_ | refine StpE.go E ?_)
  obtain ⟨hT2, -⟩ := touch_tie hT1 hi1 (by
    rw [hX1]
    have hb2 := updB_blk (ps := rs) (b := u.blk) (g := fun m : PN => { m with kl := delL m.kl n.f.name }) fun _ => rfl
    show ((updB rs u.blk fun m : PN => { m with kl := delL m.kl n.f.name }).map PN.blk).Nodup
    rw [hb2]; exact hnr) hu1m user
  have ed : T.drop user n.f = { T with ns := T.ns.filter fun x => decide (x.path ≠ n.f.path) }.change user [u1.f.path] := by
    unfold Tr.drop
    rw [hf1, hup]
  rw [ed]
  refine ⟨{ X1 with ps := updB X1.ps u1.blk (PN.touch (X1.clock + 1) user), clock := X1.clock + 1 }, rfl, hT2, ?_⟩
  · have e3 : chgB (X1.clock + 1) user [u1.blk] X1.ps = updB X1.ps u1.blk (PN.touch (X1.clock + 1) user) := rfl
    rw [e3] at E
    (replace E := (E.bIx 2).tl)
    (replace E := (E.bIx 7).tl)
    (replace E := ((E.bIx 5).bIx 6))
    have E2 := Hs.star (ls := nd n.blk m0 :: X.ds.map fun d => nd d.1 d.2) (E.unstar.perm List.perm_middle)
    clear E
    have E : Hs w0 F _ (DT ((n.blk, m0) :: X.ds) :: _) := E2
    clear E2
    (replace E := ((((((E.bIx 0).bIx 2).bIx 5).bIx 5).bIx 5).bIx 5))
    refine Hs.closeT { X1 with ps := updB X1.ps u1.blk (PN.touch (X1.clock + 1) user), clock := X1.clock + 1 } ?_
    rw [hX1] at E ⊢
    exact E
theorem Close_ok (h : Tie D X T β) (hi : Inv T) {N : Int} (hN : N < 4611686018427387904) (hlim : Lim N T) {hd : Int} (E : Hs w0 F w (trA X :: Pool D :: l)) :
    Ca PP Fn.tree_Tree_Close #[ptr X.t, i64 hd] w fun r w' => r = i64 (T.close hd).2 ∧ Goes w0 F l D X (T.close hd).1 w' := by
  refine S.tree_Tree_Close.calls ?_
  unfold S.tree_Tree_Close
  replace E := Hs.openT E
  refine (opened_ok E).mono ?_
  clear E
  rintro r w_ ⟨rfl, E⟩
  rw [h.opened hi]
  cases hx : T.opened hd with
  | none =>
    simp only [Option.map_none, openedV]
    (repeat first | (with_reducible first | refine Stp.go ?_ | refine StpE.go E ?_ | (refine StpW.go E ?_; clear E; intro w_ E) | (refine StpA.go E ?_; clear E; intro b_ w_ hb_ E) | (apply hJ14; intro u_) | (apply hJ17; intro u_) | refine LnL.nil ?_) | ((with_reducible refine Bi.dec true ?_ ?_); focus exact rfl) | ((with_reducible refine Bi.dec false ?_ ?_); focus exact rfl) | ((with_reducible refine Bi.sdec true ?_ ?_); focus decide) | ((with_reducible refine Bi.sdec false ?_ ?_); focus decide))
    have e : T.close hd = (T, 19) := by unfold Tr.close; rw [hx]
    rw [e]
    exact ⟨rfl, .same h (Hs.closeT X E.tl)⟩
  | some x =>
    simp only [Option.map_some, openedV]
    (repeat first | (with_reducible first | refine Stp.go ?_ | refine StpE.go E ?_ | (refine StpW.go E ?_; clear E; intro w_ E) | (refine StpA.go E ?_; clear E; intro b_ w_ hb_ E) | (apply hJ14; intro u_) | (apply hJ17; intro u_) | refine LnL.nil ?_) | ((with_reducible refine Bi.dec true ?_ ?_); focus exact rfl) | ((with_reducible refine Bi.dec false ?_ ?_); focus exact rfl) | ((with_reducible refine Bi.sdec true ?_ ?_); focus decide) | ((with_reducible refine Bi.sdec false ?_ ?_); focus decide))
    (revert b_; intro q hbq E)
    refine Dl.by E u_mopen k_int rfl ?_
    clear E
    intro w_ E
    have e1 : adel X.oM (i64 hd) = encM i64 HV.V (delL X.ol hd) := adel_enc (keyI .i64) _ _
    rw [e1] at E
    have hm := hi.openedM hx
    have h1 := h.hdel hi hd
    have i1 := hi.hdel hd
    have l1 : Lim N { T with hs := delL T.hs hd } := ⟨hlim.clock, hlim.next, hlim.vers⟩
    obtain ⟨X1, hX1⟩ : ∃ X1 : PT, X1 = { X with ol := delL X.ol hd } := ⟨_, rfl⟩
    rw [← hX1] at h1
    have hXt : X1.t = X.t := by rw [hX1]
    (intro J14 hJ14)
    have fin14 : ∀ X' w_, X'.t = X.t → Tie D X' (T.close hd).1 β → Hs w0 F w_ (trA X' :: Pool D :: pt q (oc [ptr (β x.file), i64 x.mode, str x.user] Ty.tree_handle) :: l) → (T.close hd).2 = 0 → J14 [] w_ := by
      intro X' w_ ht hT E he
      (repeat with_reducible first | refine Stp.go ?_ | refine StpE.go E ?_ | (apply hJ14; intro u_) | (apply hJ17; intro u_))
      rw [he]
      exact ⟨rfl, D, X', β, fun _ h => h, ht, hT, (E.bIx 2).tl⟩
    clear hJ14
    (intro J17 hJ17)
    have E1 : Hs w0 F w_ (trA X1 :: Pool D :: pt q (oc [ptr (β x.file), i64 x.mode, str x.user] Ty.tree_handle) :: l) := by
      have E2 := E.bIx 0
      replace E2 := Hs.closeT X1 (by rw [hX1]; exact (by (replace E := ((((((((E.bIx 0).bIx 7).bIx 7).bIx 7).bIx 7).bIx 7).bIx 7).bIx 7)); exact E))
      exact E2
    clear E
    have E := E1
    clear E1
    cases hg : T.get x.file with
    | none =>
      have hec : T.close hd = ({ T with hs := delL T.hs hd }, 0) := by unfold Tr.close; simp only [hx, hg]
      obtain ⟨m, hmd, hgone⟩ := h.dead _ hm (get_none.1 hg)
      have fin17 : ∀ w_, Hs w0 F w_ (trA X1 :: Pool D :: pt q (oc [ptr (β x.file), i64 x.mode, str x.user] Ty.tree_handle) :: l) → J17 [.bool false] w_ := by
        intro w_ E
        (repeat with_reducible first | refine Stp.go ?_ | refine StpE.go E ?_ | (apply hJ14; intro u_) | (apply hJ17; intro u_))
        exact fin14 X1 _ hXt (by rw [hec]; exact h1) E (by rw [hec])
      clear hJ17
      (repeat with_reducible first | refine Stp.go ?_ | refine StpE.go E ?_)
      refine Bi.neq ?_ ?_ <;> intro c1 <;> (repeat with_reducible first | refine Stp.go ?_ | refine StpE.go E ?_ | (apply hJ14; intro u_) | (apply hJ17; intro u_))
      · have hdt : w_.heap[β x.file]? = some (oc m.C Ty.tree_node) := by
          have E2 := Hs.openT E
          exact (E2.sat (DT X1.ds) (by simp)).1 (nd (β x.file) m) (List.mem_map.2 ⟨(β x.file, m), by rw [hX1]; exact hmd, rfl⟩)
        refine Ld.ob hdt (v := .bool m.gone) (by simp) ?_
        rw [hgone]
        (repeat with_reducible first | refine Stp.go ?_ | refine StpE.go E ?_ | (apply hJ14; intro u_) | (apply hJ17; intro u_))
        exact fin17 _ E
      · exact fin17 _ E
    | some nf =>
      obtain ⟨hn1, hn2⟩ := hi.get.1 hg
      obtain ⟨n, hn, rfl⟩ := h.mem.1 hn1
      have hb := h.bl n hn
      rw [hn2] at hb
      have hnX : n ∈ X1.ps := by rw [hX1]; exact hn
      by_cases c1 : andI x.mode 64 ≠ 0
      · have hmode : x.mode ≠ 0 := fun e => c1 (by rw [e]; decide)
        have hnd : n.f.dir = false := hi.hclose _ hm hmode n.f hn1 hn2
        obtain ⟨h0, hk⟩ := hi.leaf hn1 hnd
        have hec : T.close hd = (({ T with hs := delL T.hs hd } : Tr).drop x.user n.f, 0) := by unfold Tr.close; simp only [hx, hg, if_pos c1]
        have fin17 : ∀ w_, Hs w0 F w_ (trA X1 :: Pool D :: pt q (oc [ptr (β x.file), i64 x.mode, str x.user] Ty.tree_handle) :: l) → J17 [.bool true] w_ := by
          intro w_ E
          (repeat first | (with_reducible first | refine Stp.go ?_ | refine StpE.go E ?_ | (refine StpW.go E ?_; clear E; intro w_ E) | (refine StpA.go E ?_; clear E; intro b_ w_ hb_ E) | (apply hJ14; intro u_) | (apply hJ17; intro u_) | refine LnL.nil ?_) | ((with_reducible refine Bi.dec true ?_ ?_); focus exact rfl) | ((with_reducible refine Bi.dec false ?_ ?_); focus exact rfl) | ((with_reducible refine Bi.sdec true ?_ ?_); focus decide) | ((with_reducible refine Bi.sdec false ?_ ?_); focus decide))
          rw [hb, ← hXt]
          refine (remove_ok h1 i1 hN l1 hnX h0 hk E).mono ?_
          clear E
          rintro r w_ ⟨X2, ht2, h2, E⟩
          exact fin14 X2 _ (by rw [ht2, hXt]) (by rw [hec]; exact h2) E (by rw [hec])
        clear hJ17
        (repeat with_reducible first | refine Stp.go ?_ | refine StpE.go E ?_)
        refine Bi.neq ?_ ?_ <;> intro c2 <;> (repeat with_reducible first | refine Stp.go ?_ | refine StpE.go E ?_ | (apply hJ14; intro u_) | (apply hJ17; intro u_))
        · rw [hb]
          have E2 := Hs.openT E
          refine Ld.nt E2 (ps := X1.ps) (by simp) hnX (v := .bool false) rfl ?_
          (repeat with_reducible first | refine Stp.go ?_ | refine StpE.go E ?_ | (apply hJ14; intro u_) | (apply hJ17; intro u_))
          exact fin17 _ E
        · exact absurd c2 c1
      · have hec : T.close hd = ({ T with hs := delL T.hs hd }, 0) := by unfold Tr.close; simp only [hx, hg, if_neg c1]
        have fin17 : ∀ w_, Hs w0 F w_ (trA X1 :: Pool D :: pt q (oc [ptr (β x.file), i64 x.mode, str x.user] Ty.tree_handle) :: l) → J17 [.bool false] w_ := by
          intro w_ E
          (repeat first | (with_reducible first | refine Stp.go ?_ | refine StpE.go E ?_ | (refine StpW.go E ?_; clear E; intro w_ E) | (refine StpA.go E ?_; clear E; intro b_ w_ hb_ E) | (apply hJ14; intro u_) | (apply hJ17; intro u_) | refine LnL.nil ?_) | ((with_reducible refine Bi.dec true ?_ ?_); focus exact rfl) | ((with_reducible refine Bi.dec false ?_ ?_); focus exact rfl) | ((with_reducible refine Bi.sdec true ?_ ?_); focus decide) | ((with_reducible refine Bi.sdec false ?_ ?_); focus decide))
          exact fin14 X1 _ hXt (by rw [hec]; exact h1) E (by rw [hec])
        clear hJ17
        (repeat with_reducible first | refine Stp.go ?_ | refine StpE.go E ?_)
        refine Bi.neq ?_ ?_ <;> intro c2 <;> (repeat with_reducible first | refine Stp.go ?_ | refine StpE.go E ?_)
        · exact absurd c2 c1
        · exact fin17 _ E
theorem Remove_ok (h : Tie D X T β) (hi : Inv T) {N : Int} (hN : N < 4611686018427387904) (hlim : Lim N T) {user : BA} {file : Int} (E : Hs w0 F w (trA X :: Pool D :: l)) :
    Ca PP Fn.tree_Tree_Remove #[ptr X.t, str user, i64 file] w fun r w' => r = i64 (T.remove user file).2 ∧ Goes w0 F l D X (T.remove user file).1 w' := by
  refine S.tree_Tree_Remove.calls ?_
  unfold S.tree_Tree_Remove
  rcases h.find hi file with ⟨h1, h2⟩ | ⟨n, rs, hpm, hn, hpath, h1, h2⟩
  · replace E := Hs.openT E
    refine (find_ok E).mono ?_
    clear E
    rintro r w_ ⟨rfl, E⟩
    rw [h2]
    unfold findV
    (repeat first | (with_reducible first | refine Stp.go ?_ | refine StpE.go E ?_ | (refine StpW.go E ?_; clear E; intro w_ E) | (refine StpA.go E ?_; clear E; intro b_ w_ hb_ E) | refine LnL.nil ?_) | ((with_reducible refine Bi.dec true ?_ ?_); focus exact rfl) | ((with_reducible refine Bi.dec false ?_ ?_); focus exact rfl) | ((with_reducible refine Bi.sdec true ?_ ?_); focus decide) | ((with_reducible refine Bi.sdec false ?_ ?_); focus decide))
    have e : T.remove user file = (T, 4) := by unfold Tr.remove; simp only [h1]
    rw [e]
    exact ⟨rfl, .same h (Hs.closeT X E)⟩
  have hnd := Hs.nodupT E
  replace E := Hs.openT E
  refine (find_ok E).mono ?_
  clear E
  rintro r w_ ⟨rfl, E⟩
  rw [h2]
  unfold findV
  subst hpath
  (repeat first | (with_reducible first | refine Stp.go ?_ | refine StpE.go E ?_ | (refine StpW.go E ?_; clear E; intro w_ E) | (refine StpA.go E ?_; clear E; intro b_ w_ hb_ E) | refine LnL.nil ?_) | ((with_reducible refine Bi.dec true ?_ ?_); focus exact rfl) | ((with_reducible refine Bi.dec false ?_ ?_); focus exact rfl) | ((with_reducible refine Bi.sdec true ?_ ?_); focus decide) | ((with_reducible refine Bi.sdec false ?_ ?_); focus decide))
  obtain ⟨r0, hr0, hr1, hr2⟩ := h.root
  have hnT := h.mem.2 ⟨n, hn, rfl⟩
  have keep : ∀ w, Hs w0 F w (tb X :: mp X.fm (.int .i64) X.fM :: mp X.gm .str X.gM :: mp X.om (.int .i64) X.oM :: NT X.ps :: DT X.ds :: Pool D :: l) → Goes w0 F l D X T w := fun w E => .same h (Hs.closeT X E)
  refine Eq.pp u_p_node n_node (Hs.ntAt E (by simp) hn) (by rw [← hr2]; exact Hs.ntAt E (by simp) hr0) ?_
  by_cases h0 : n.f.path = 0
  · have hrn : r0 = n := h.inj hi hr0 hn (by rw [hr1, h0])
    rw [decide_eq_true (by rw [← hr2, hrn])]
    (repeat with_reducible first | refine Stp.go ?_ | refine StpE.go E ?_)
    have e : T.remove user n.f.path = (T, 1) := by unfold Tr.remove; simp only [h1, if_pos h0]
    rw [e]
    exact ⟨rfl, keep _ E⟩
  have hrn : ¬ (⟨n.blk, 0, none⟩ : Addr) = ⟨X.root, 0, none⟩ := fun e => by
    have e : n.blk = X.root := congrArg Addr.block e
    have : n = r0 := by
      have := Hs.nodupN' E (by simp) n hn r0 hr0 (by rw [e, hr2])
      exact this
    exact h0 (by rw [this, hr1])
  rw [decide_eq_false hrn]
  (repeat with_reducible first | refine Stp.go ?_ | refine StpE.go E ?_)
  rcases up_val h hi hn with ⟨hc, _⟩ | ⟨_, u, hu, hv, hpar⟩
  · exact absurd hc h0
  refine Ld.nt E (by simp) hn hv ?_
  obtain ⟨ru, hpu⟩ := split_perm hu
  replace E := Hs.openN (E.bIx 4) hpu
  (replace E := (((((((((E.bIx 8).bIx 8).bIx 4).bIx 4).bIx 4).bIx 8).bIx 8).bIx 8).bIx 8))
  refine (may_ok (m := u.mn) (D := D) (by simp) h.gs E).mono ?_
  clear E
  rintro r w_ ⟨rfl, E⟩
  have hmay : permF u.mn.mode (decide (user = u.mn.owner)) (memberG T.gs user u.mn.group) 2 = T.may user (T.parent n.f) 2 := by rw [hpar]; rfl
  rw [hmay]
  replace E : Hs w0 F w_ (tb X :: mp X.fm (.int .i64) X.fM :: mp X.gm .str X.gM :: mp X.om (.int .i64) X.oM :: NT X.ps :: DT X.ds :: Pool D :: l) := by
    (replace E := (((((((((E.bIx 8).bIx 8).bIx 5).bIx 5).bIx 5).bIx 5).bIx 8).bIx 8).bIx 8))
    replace E := Hs.permN (Hs.closeN u E) hpu.symm
    (replace E := (((((((E.bIx 6).bIx 6).bIx 2).bIx 6).bIx 6).bIx 6).bIx 6))
    exact E
  cases hm : T.may user (T.parent n.f) 2 with
  | false =>
    (repeat with_reducible first | refine Stp.go ?_ | refine StpE.go E ?_)
    have e : T.remove user n.f.path = (T, 17) := by unfold Tr.remove; simp only [h1, if_neg h0, hm, if_true]
    rw [e]
    exact ⟨rfl, keep _ E⟩
  | true =>
    have hmn : ¬ T.may user (T.parent n.f) 2 = false := by rw [hm]; simp
    (repeat with_reducible first | refine Stp.go ?_ | refine StpE.go E ?_)
    refine Ld.nt E (by simp) hn kids_val ?_
    have hlen : n.kl.length = (T.kids n.f.path).length := by
      rw [(h.kl n hn).length_eq, List.length_map]
      unfold Tr.kids
      rw [← (h.ns.filter (Tr.isKid n.f.path)).length_eq, List.filter_map, List.length_map]
      rfl
    have fin : ∀ w_, Hs w0 F w_ (tb X :: mp X.fm (.int .i64) X.fM :: mp X.gm .str X.gM :: mp X.om (.int .i64) X.oM :: NT X.ps :: DT X.ds :: Pool D :: l) → (T.kids n.f.path).length = 0 →
        Ca PP Fn.tree_Tree_remove #[ptr X.t, str user, ptr n.blk] w_ fun _ w' => (fun r w' => r = i64 (T.remove user n.f.path).2 ∧ Goes w0 F l D X (T.remove user n.f.path).1 w') (i64 0) w' := by
      intro w_ E hz
      have e : T.remove user n.f.path = (T.drop user n.f, 0) := by unfold Tr.remove; simp only [h1, if_neg h0, if_neg hmn]; rw [if_neg (by omega)]
      rw [e]
      refine (remove_ok h hi hN hlim hn h0 (fun m hm hm0 he => ?_) (Hs.closeT X E)).mono ?_
      · have : m ∈ T.kids n.f.path := List.mem_filter.2 ⟨hm, by unfold Tr.isKid; exact decide_eq_true ⟨hm0, he⟩⟩
        have := List.length_pos_of_mem this
        omega
      · rintro r w' ⟨X', ht, hT, E⟩
        exact ⟨rfl, D, X', β, fun _ h => h, ht, hT, E⟩
    have six : ∀ w_, Hs w0 F w_ (tb X :: mp X.fm (.int .i64) X.fM :: mp X.gm .str X.gM :: mp X.om (.int .i64) X.oM :: NT X.ps :: DT X.ds :: Pool D :: l) → 0 < (T.kids n.f.path).length → i64 6 = i64 (T.remove user n.f.path).2 ∧ Goes w0 F l D X (T.remove user n.f.path).1 w_ := by
      intro w_ E hz
      have e : T.remove user n.f.path = (T, 6) := by unfold Tr.remove; simp only [h1, if_neg h0, if_neg hmn]; rw [if_pos hz]
      rw [e]
      exact ⟨rfl, keep _ E⟩
    cases hdir : n.f.dir with
    | true =>
      rw [if_pos rfl]
      obtain ⟨l', hml, El⟩ := mapAtN (w0 := w0) (F := F) hn hdir (by simp) E
      refine Len.map El hml u_mkids ?_
      rw [encM_length]
      refine Bi.gtr ?_ ?_ <;> intro hz <;> (repeat with_reducible first | refine Stp.go ?_ | refine StpE.go E ?_)
      · exact six _ E (by omega)
      · exact fin _ E (by omega)
    | false =>
      rw [if_neg Bool.false_ne_true]
      refine Len.nilmap u_mkids ?_
      obtain ⟨_, hk⟩ := hi.leaf hnT hdir
      have hz : (T.kids n.f.path).length = 0 := by
        rw [List.length_eq_zero_iff]
        unfold Tr.kids
        rw [List.filter_eq_nil_iff]
        intro m hm hc
        unfold Tr.isKid at hc
        have hc := of_decide_eq_true hc
        exact hk m hm hc.1 hc.2
      (repeat first | (with_reducible first | refine Stp.go ?_ | refine StpE.go E ?_ | (refine StpW.go E ?_; clear E; intro w_ E) | (refine StpA.go E ?_; clear E; intro b_ w_ hb_ E) | refine LnL.nil ?_) | ((with_reducible refine Bi.dec true ?_ ?_); focus exact rfl) | ((with_reducible refine Bi.dec false ?_ ?_); focus exact rfl) | ((with_reducible refine Bi.sdec true ?_ ?_); focus decide) | ((with_reducible refine Bi.sdec false ?_ ?_); focus decide))
      exact fin _ E hz
end Go.Proofs.YtnnhmahemklnkaaGreatDoor

/-
  Trees: a file gets another name: the tree, and the tree in memory.
-/
namespace Go.Proofs.YtnnhmahemklnkaaGreatDoor
open Go Go.Sh
set_option maxRecDepth 100000
set_option linter.unusedVariables false
set_option linter.unusedSimpArgs false
variable {w0 w : World} {F : Nat → Prop} {l : List As}
variable {D : List Row} {X : PT} {T : Tr} {β : Int → Nat}

abbrev named (s : BA) (m : Nd) : Nd := { m with name := s }
theorem rename_inv (hi : Inv T) {n : Nd} (hn : n ∈ T.ns) (h0 : n.path ≠ 0) {s : BA} (hg : goodName s = true) (hfree : T.kid n.up s = none) : Inv (T.upd n.path (named s)) := by
  have g1 : ∀ m : Nd, (if m.path = n.path then named s m else m).path = m.path ∧ (if m.path = n.path then named s m else m).up = m.up ∧ (if m.path = n.path then named s m else m).dir = m.dir := fun m => by split <;> exact ⟨rfl, rfl, rfl⟩
  have mm : ∀ {P : Nd → Prop}, (∀ m ∈ T.ns, P (if m.path = n.path then named s m else m)) → ∀ m ∈ updN T.ns n.path (named s), P m := by
    intro P hP m hm
    obtain ⟨q, hq, rfl⟩ := updN_mem hm
    exact hP q hq
  have back : ∀ m ∈ T.ns, (if m.path = n.path then named s m else m) ∈ updN T.ns n.path (named s) := fun m hm => List.mem_map.2 ⟨m, hm, rfl⟩
  have nofree : ∀ m ∈ T.ns, m.path ≠ 0 → m.up = n.up → m.name ≠ s := fun m hm hm0 h1 h2 => by
    have := (kid_some hi).2 ⟨hm, hm0, h1, h2⟩
    rw [hfree] at this; cases this
  refine ⟨?_, ?_, mm fun m hm => ?_, mm fun m hm => ?_, mm fun m hm => ?_, mm fun a ha => mm fun b hb => ?_, mm fun m hm => ?_, ?_, mm fun m hm => ?_, mm fun m hm => ?_, hi.hsorted, hi.hpos, hi.hfile, fun x hx hx1 => mm fun m hm => ?_, ?_, hi.clock, mm fun m hm => ?_⟩
  · show (updN T.ns n.path (named s)).Pairwise _
    unfold updN
    rw [List.pairwise_map]
    refine hi.sorted.imp fun {a b} hab => ?_
    rw [(g1 a).1, (g1 b).1]; exact hab
  · obtain ⟨r, hr, hr0⟩ := hi.root
    exact ⟨_, back r hr, by rw [(g1 r).1, hr0]⟩
  · rw [(g1 m).1]; exact hi.bound m hm
  · rw [(g1 m).1, (g1 m).2.1, (g1 m).2.2]; exact hi.rootD m hm
  · rw [(g1 m).1, (g1 m).2.1]
    intro hm0
    obtain ⟨u, hu, h1, h2⟩ := hi.up m hm hm0
    exact ⟨_, back u hu, by rw [(g1 u).1, h1], by rw [(g1 u).2.2, h2]⟩
  · rw [(g1 a).1, (g1 a).2.1, (g1 b).1, (g1 b).2.1]
    intro ha0 hb0 hab hname
    by_cases c1 : a.path = n.path <;> by_cases c2 : b.path = n.path
    · rw [c1, c2]
    · rw [if_pos c1, if_neg c2] at hname
      have han : a = n := hi.inj ha hn c1
      exact absurd hname.symm (nofree b hb hb0 (by rw [← hab, han]))
    · rw [if_neg c1, if_pos c2] at hname
      have hbn : b = n := hi.inj hb hn c2
      exact absurd hname (nofree a ha ha0 (by rw [hab, hbn]))
    · rw [if_neg c1, if_neg c2] at hname
      exact hi.names a ha b hb ha0 hb0 hab hname
  · rw [(g1 m).1]
    intro hm0
    split
    · exact hg
    · exact hi.good m hm hm0
  · obtain ⟨rk, hrk⟩ := hi.rank
    refine ⟨rk, mm fun m hm => ?_⟩
    rw [(g1 m).1, (g1 m).2.1]; exact hrk m hm
  · have := hi.data m hm
    split <;> exact this
  · have := hi.form m hm
    split <;> exact this
  · rw [(g1 m).1, (g1 m).2.2]; exact hi.hclose x hx hx1 m hm
  · exact ⟨by show (updN T.ns n.path (named s)).length ≤ 1024; unfold updN; rw [List.length_map]; exact hi.few.1, hi.few.2⟩
  · rw [(g1 m).1]
    intro hm0
    rw [if_neg (by rw [hm0]; exact fun e => h0 e.symm)]
    exact hi.rootN m hm hm0
/-- Both files that a new name turns, in memory. -/
def reN (nb ub : Nat) (old s : BA) (m : PN) : PN := if m.blk = nb then { m with f := named s m.f } else if m.blk = ub then { m with kl := putL (delL m.kl old) s nb } else m
theorem blk_path (h : Tie D X T β) (hnd : (X.ps.map PN.blk).Nodup) {m n : PN} (hm : m ∈ X.ps) (hn : n ∈ X.ps) : m.blk = n.blk ↔ m.f.path = n.f.path := by
  constructor
  · intro he
    have : m = n := by
      have key : ∀ (ps : List PN), (ps.map PN.blk).Nodup → m ∈ ps → n ∈ ps → m = n := by
        intro ps
        induction ps with
        | nil => intro _ h; cases h
        | cons x r ih =>
          intro hp ha hb
          rw [List.map_cons, List.nodup_cons] at hp
          rcases List.mem_cons.1 ha with h1 | ha <;> rcases List.mem_cons.1 hb with h2 | hb
          · rw [h1, h2]
          · exact absurd (List.mem_map.2 ⟨n, hb, by rw [← h1, he]⟩) hp.1
          · exact absurd (List.mem_map.2 ⟨m, ha, by rw [← h2, he]⟩) hp.1
          · exact ih hp.2 ha hb
      exact key _ hnd hm hn
    rw [this]
  · intro he
    rw [← h.bl m hm, ← h.bl n hn, he]
theorem Tie.rename (h : Tie D X T β) (hi : Inv T) (hnd : (X.ps.map PN.blk).Nodup) {n u : PN} {rs : List PN} (hp : X.ps.Perm (n :: rs)) (hu : u ∈ rs) (h0 : n.f.path ≠ 0) (hup : u.f.path = n.f.up) {s : BA} (hfree : T.kid n.f.up s = none) :
    Tie D { X with ps := X.ps.map (reN n.blk u.blk n.f.name s) } (T.upd n.f.path (named s)) β := by
  have hn : n ∈ X.ps := hp.mem_iff.2 List.mem_cons_self
  have rsX : ∀ m ∈ rs, m ∈ X.ps := fun m hm => hp.mem_iff.2 (List.mem_cons_of_mem _ hm)
  obtain ⟨R, hR⟩ : ∃ R, R = reN n.blk u.blk n.f.name s := ⟨_, rfl⟩
  rw [← hR]
  have r1 : ∀ m, (R m).blk = m.blk ∧ (R m).dv = m.dv ∧ (R m).ub = m.ub ∧ (R m).f.path = m.f.path ∧ (R m).f.up = m.f.up ∧ (R m).f.data = m.f.data := fun m => by
    rw [hR]; unfold reN; split
    · exact ⟨rfl, rfl, rfl, rfl, rfl, rfl⟩
    split <;> exact ⟨rfl, rfl, rfl, rfl, rfl, rfl⟩
  have rf : ∀ m ∈ X.ps, (R m).f = if m.f.path = n.f.path then named s m.f else m.f := fun m hm => by
    rw [hR]; unfold reN
    by_cases hc : m.blk = n.blk
    · rw [if_pos hc, if_pos ((blk_path h hnd hm hn).1 hc)]
    · rw [if_neg hc, if_neg fun hc' => hc ((blk_path h hnd hm hn).2 hc')]
      split <;> rfl
  have mm : ∀ {P : PN → Prop}, (∀ m ∈ X.ps, P (R m)) → ∀ m ∈ X.ps.map R, P m := by
    intro P hP m hm
    obtain ⟨q, hq, rfl⟩ := List.mem_map.1 hm
    exact hP q hq
  have back : ∀ m ∈ X.ps, R m ∈ X.ps.map R := fun m hm => List.mem_map.2 ⟨m, hm, rfl⟩
  have hnb : (n.blk :: rs.map PN.blk).Nodup := (hp.map PN.blk).nodup_iff.1 hnd
  rw [List.nodup_cons] at hnb
  have rsn : ∀ m ∈ rs, m.blk ≠ n.blk := fun m hm he => hnb.1 (by rw [← he]; exact List.mem_map.2 ⟨m, hm, rfl⟩)
  have kidsE : ∀ p, (((X.ps.map R).filter fun k => Tr.isKid p k.f).map fun k => (k.f.name, k.blk)).Perm ((if Tr.isKid p n.f then [(s, n.blk)] else []) ++ (rs.filter fun k => Tr.isKid p k.f).map fun k => (k.f.name, k.blk)) := by
    intro p
    have e0 := (((hp.map R).filter fun k => Tr.isKid p k.f).map fun k => (k.f.name, k.blk))
    refine e0.trans ?_
    have ek : ∀ m, Tr.isKid p (R m).f = Tr.isKid p m.f := fun m => by unfold Tr.isKid; rw [(r1 m).2.2.2.1, (r1 m).2.2.2.2.1]
    have en : (R n).f.name = s ∧ (R n).blk = n.blk := ⟨by rw [rf n hn, if_pos rfl], (r1 n).1⟩
    rw [List.map_cons, List.filter_cons, ek]
    have er : (((rs.map R).filter fun k => Tr.isKid p k.f).map fun k => (k.f.name, k.blk)) = (rs.filter fun k => Tr.isKid p k.f).map fun k => (k.f.name, k.blk) := by
      rw [List.filter_map, List.map_map]
      have e1 : ((fun k : PN => Tr.isKid p k.f) ∘ R) = fun k => Tr.isKid p k.f := by funext k; exact ek k
      rw [e1]
      refine List.map_congr_left fun k hk => ?_
      have hkr := (List.mem_filter.1 hk).1
      simp only [Function.comp, (r1 k).1]
      rw [rf k (rsX k hkr), if_neg fun hc => rsn k hkr ((blk_path h hnd (rsX k hkr) hn).2 hc)]
    cases hk : Tr.isKid p n.f with
    | true => rw [if_pos rfl, if_pos rfl, List.map_cons, en.1, en.2, er]; exact List.Perm.refl _
    | false => rw [if_neg Bool.false_ne_true, if_neg Bool.false_ne_true, er]; exact List.Perm.refl _
  refine ⟨?_, h.clock, h.next, mm fun m hm => ?_, mm fun m hm => ?_, mm fun m hm => ?_, ?_, ?_, h.gs, mm fun m hm => ?_, h.ol, ?_⟩
  · show ((X.ps.map R).map PN.f).Perm (updN T.ns n.f.path (named s))
    have e : (X.ps.map R).map PN.f = (X.ps.map PN.f).map fun m => if m.path = n.f.path then named s m else m := by
      rw [List.map_map, List.map_map]
      exact List.map_congr_left fun m hm => rf m hm
    rw [e]
    exact h.ns.map _
  · rw [(r1 m).2.1, (r1 m).2.2.2.2.2]; exact h.data m hm
  · rw [(r1 m).2.2.2.1, (r1 m).2.2.1, (r1 m).2.2.2.2.1]
    refine ⟨(h.ub m hm).1, fun hm0 => ?_⟩
    obtain ⟨v, hv, h1, h2⟩ := (h.ub m hm).2 hm0
    exact ⟨R v, back v hv, by rw [(r1 v).2.2.2.1, h1], by rw [(r1 v).1]; exact h2⟩
  · rw [(r1 m).2.2.2.1]
    refine List.Perm.trans ?_ (kidsE m.f.path).symm
    have hkl := h.kl m hm
    have hsplit := ((hp.filter fun k => Tr.isKid m.f.path k.f).map fun k => (k.f.name, k.blk))
    have hkn := h.klN hi m.f.path
    by_cases hmu : m.blk = u.blk
    · have hmp : m.f.path = u.f.path := (blk_path h hnd hm (rsX u hu)).1 hmu
      have hkid : Tr.isKid m.f.path n.f = true := by unfold Tr.isKid; exact decide_eq_true ⟨h0, by rw [hmp, hup]⟩
      have eR : (R m).kl = putL (delL m.kl n.f.name) s n.blk := by rw [hR]; unfold reN; rw [if_neg (by rw [hmu]; exact rsn u hu), if_pos hmu]
      rw [eR, if_pos hkid]
      rw [List.filter_cons, if_pos hkid, List.map_cons] at hsplit
      have hdel := delL_perm (((hkl.map (·.1)).nodup_iff).2 hkn) (hkl.trans hsplit)
      have hout : s ∉ (delL m.kl n.f.name).map (·.1) := by
        intro hc
        have hc := (hdel.map (·.1)).mem_iff.1 hc
        rw [List.map_map] at hc
        obtain ⟨k, hk, hks⟩ := List.mem_map.1 hc
        obtain ⟨hk1, hk2⟩ := List.mem_filter.1 hk
        unfold Tr.isKid at hk2
        have hk2 := of_decide_eq_true hk2
        have := (kid_some hi).2 ⟨h.mem.2 ⟨k, rsX k hk1, rfl⟩, hk2.1, by rw [hk2.2, hmp, hup], hks⟩
        rw [hfree] at this; cases this
      rw [putL_new hout]
      exact List.perm_append_comm.trans (hdel.cons _)
    · have hkid : ¬ Tr.isKid m.f.path n.f = true := by
        unfold Tr.isKid
        intro hc
        have hc := (of_decide_eq_true hc).2
        exact hmu ((blk_path h hnd hm (rsX u hu)).2 (by rw [← hc, hup]))
      have eR : (R m).kl = m.kl := by
        rw [hR]; unfold reN
        by_cases hc : m.blk = n.blk
        · rw [if_pos hc]
        · rw [if_neg hc, if_neg hmu]
      rw [eR, if_neg hkid, List.nil_append]
      rw [List.filter_cons, if_neg hkid] at hsplit
      exact hkl.trans hsplit
  · show X.fl.Perm ((X.ps.map R).map fun n => (n.f.path, n.blk))
    rw [List.map_map]
    have e : ((fun n : PN => (n.f.path, n.blk)) ∘ R) = fun n => (n.f.path, n.blk) := by funext m; simp only [Function.comp, (r1 m).1, (r1 m).2.2.2.1]
    rw [e]
    exact h.fl
  · obtain ⟨r, hr, hr1, hr2⟩ := h.root
    exact ⟨R r, back r hr, by rw [(r1 r).2.2.2.1, hr1], by rw [(r1 r).1]; exact hr2⟩
  · rw [(r1 m).2.2.2.1, (r1 m).1]; exact h.bl m hm
  · intro x hx hno
    refine h.dead x hx fun m hm he => ?_
    refine hno _ (List.mem_map.2 ⟨m, hm, rfl⟩) ?_
    split
    · exact he
    · exact he
end Go.Proofs.YtnnhmahemklnkaaGreatDoor
