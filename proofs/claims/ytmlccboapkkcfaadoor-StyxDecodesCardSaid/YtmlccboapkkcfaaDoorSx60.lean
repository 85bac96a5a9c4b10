/-
  The protocol's reference: whether the numbers of a message are in their ranges.
-/
import Derived.Test.YtmlccboapkkcfaaDoorSx51
namespace Go.Proofs.YtmlccboapkkcfaaDoor
open Go Go.Sh
set_option maxRecDepth 100000
set_option linter.unusedVariables false
set_option linter.unusedSimpArgs false
variable {w0 w : World} {F : Nat → Prop} {l : List As}
section
variable {off b : Nat} {cs : List Value} {T : TypeId} {K : Value → World → Prop}
theorem rg1 {p : Bool} {x : Int} (k : Nat) (hk : k = 1 ∨ k = 2 ∨ k = 4) (E : Hs w0 F w (pt b (oc cs T) :: l)) [hx : Nth cs off (i64 x)] (hK : ∀ w', Hs w0 F w' (pt b (oc cs T) :: l) → K (.bool (p && inR x k)) w') :
    Gd (.bool p) true (fun k => Fa off (ptr b) fun a => k a w) w fun a w1 => Gd (.bool p) true (fun k => Ld a w1 fun v => k v w1) w1 fun v w2 => Gd (.bool p) true (fun c => Ca PP Fn.r31_in #[v, i64 k] w2 fun r w => c r w) w2 fun r w3 => Pk (.bool p) r (.bool false) fun r => K r w3 := by
  cases p with
  | false =>
    have := hK _ E
    (repeat with_reducible refine Stp.go ?_)
    exact this
  | true =>
    (repeat with_reducible first | refine Stp.go ?_ | refine StpE.go E ?_)
    refine (rin_ok hk E).mono ?_
    clear E
    rintro r w_ ⟨rfl, E⟩
    have := hK _ E
    (repeat with_reducible refine Stp.go ?_)
    exact this
end
theorem rranged_ok {m : Ms} {nv qv : Value} (M : MS w0 F l m nv qv) (E : Hs w0 F w l) :
    Ca PP Fn.r31_ranged #[.agg (MC m nv qv).toArray] w fun r w' => r = .bool (rM m) ∧ Hs w0 F w' l := by
  have i1 : Scal nv := ⟨by obtain ⟨a, c, e, _⟩ := M.rn; rw [e]; rfl⟩
  have i2 : Scal qv := ⟨by obtain ⟨a, c, e, _⟩ := M.rq; rw [e]; rfl⟩
  have hq := M.q1
  refine S.r31_ranged.calls ?_
  unfold S.r31_ranged
  generalize hb : rM m = r0
  unfold rM at hb
  (repeat with_reducible (refine StpA.go E ?_; clear E; intro b_ w_ hb_ E))
  (intro J3 hJ3)
  (repeat with_reducible first | refine Stp.go ?_ | refine StpE.go E ?_)
  refine (rin_ok (k := 2) (.inr (.inl rfl)) E).mono ?_
  clear E
  rintro r w_ ⟨rfl, E⟩
  refine rg1 4 (.inr (.inr rfl)) E ?_
  clear E
  intro w_ E
  refine rg1 4 (.inr (.inr rfl)) E ?_
  clear E
  intro w_ E
  refine rg1 2 (.inr (.inl rfl)) E ?_
  clear E
  intro w_ E
  refine rg1 4 (.inr (.inr rfl)) E ?_
  clear E
  intro w_ E
  generalize (inR m.tag 2 && inR m.fid 4 && inR m.other 4 && inR m.old 2 && inR m.size 4) = p at hb ⊢
  have off1 : ∀ (K : Value → World → Prop) w_, Hs w0 F w_ (pt b_ (oc (MC m nv qv) Ty.api_Msg) :: l) → (∀ w', Hs w0 F w' (pt b_ (oc (MC m nv qv) Ty.api_Msg) :: l) → K (.bool (p && decide (0 ≤ m.off))) w') →
      Gd (.bool p) true (fun k => Fa 6 (ptr b_) fun a => k a w_) w_ fun a w1 => Gd (.bool p) true (fun k => Ld a w1 fun v => k v w1) w1 fun v w2 => Gd (.bool p) true (fun c => Bi .geq v (i64 0) fun r => c r w2) w2 fun r w3 => Pk (.bool p) r (.bool false) fun r => K r w3 := by
    intro K w_ E hK
    have := hK _ E
    cases p with
    | false =>
      (repeat with_reducible refine Stp.go ?_)
      exact this
    | true =>
      (repeat with_reducible first | refine Stp.go ?_ | refine StpE.go E ?_)
      refine Bi.geq (fun c => ?_) (fun c => ?_) <;> (repeat with_reducible refine Stp.go ?_)
      · rwa [decide_eq_true (by omega)] at this
      · rwa [decide_eq_false (by omega)] at this
  refine off1 _ _ E ?_
  clear E off1
  intro w_ E
  refine rg1 1 (.inl rfl) E ?_
  clear E
  intro w_ E
  refine rg1 4 (.inr (.inr rfl)) E ?_
  clear E
  intro w_ E
  refine rg1 2 (.inr (.inl rfl)) E ?_
  clear E
  intro w_ E
  generalize (p && decide (0 ≤ m.off) && inR m.mode 1 && inR m.perm 4 && inR m.code 2) = p at hb ⊢
  have fin3 : ∀ b w_, b = (p && rD m.dir) → Hs w0 F w_ (pt b_ (oc (MC m nv qv) Ty.api_Msg) :: l) → J3 [.bool b] w_ := by
    intro b w_ h E
    rw [← h] at hb
    apply hJ3
    intro u_
    clear hJ3
    refine ⟨fun l1 w1 => ∃ i : Nat, l1 = [.bool (b && (m.qids.take i).all rQ), i64 i] ∧ i ≤ m.qids.length ∧ Hs w0 F w1 (pt b_ (oc (MC m nv qv) Ty.api_Msg) :: l), fun l1 _ => match l1 with | [_, .int _ i] => m.qids.length - i.toNat | _ => 0, ⟨0, by simp, Nat.zero_le _, E⟩, ?_⟩
    clear E
    rintro t3 t4 u1 w1 ⟨i, e, hi, E⟩
    cases e
    (repeat with_reducible first | refine Stp.go ?_ | refine StpE.go E ?_)
    refine M.rq.len ?_
    refine Bi.lss ?_ ?_ <;> intro hlt <;> (repeat with_reducible refine Stp.go ?_)
    · have g1 : i < m.qids.length := by omega
      have hst : (b && (m.qids.take (i + 1)).all rQ) = (b && (m.qids.take i).all rQ && rQ m.qids[i]) := by
        rw [List.take_add_one, List.getElem?_eq_getElem g1, List.all_append, Bool.and_assoc]; simp
      (intro J17 hJ17)
      have fin17 : ∀ w_, Hs w0 F w_ (pt b_ (oc (MC m nv qv) Ty.api_Msg) :: l) → J17 [.bool (b && (m.qids.take i).all rQ && rQ m.qids[i])] w_ := by
        intro w_ E
        apply hJ17
        intro u_
        refine Bi.add (by omega) ?_
        exact ⟨⟨i + 1, by rw [hst]; simp, by omega, E⟩, by simp only []; omega⟩
      clear hJ17
      generalize (b && (m.qids.take i).all rQ) = c at fin17 ⊢
      cases c with
      | false =>
        (repeat with_reducible refine Stp.go ?_)
        exact fin17 _ E
      | true =>
        (repeat with_reducible first | refine Stp.go ?_ | refine StpE.go E ?_)
        refine (M.rq.cons (pt b_ (oc (MC m nv qv) Ty.api_Msg))).ix (by omega) (by omega) (by omega) ?_
        intro a ha
        (repeat with_reducible refine Stp.go ?_)
        rw [Int.toNat_natCast, qqs_at g1] at ha
        refine ha.lda E (m := 3) (ds := qcs m.qids[i]) rfl rfl (by omega) ?_
        (repeat with_reducible refine Stp.go ?_)
        refine (rrightQid_ok (q := m.qids[i]) E).mono ?_
        clear E
        rintro r w_ ⟨rfl, E⟩
        (repeat with_reducible refine Stp.go ?_)
        exact fin17 _ E
    · rw [List.take_of_length_le (by omega), hb]
      exact ⟨rfl, E.tl⟩
  clear hJ3
  cases p with
  | false =>
    (repeat with_reducible refine Stp.go ?_)
    exact fin3 _ _ rfl E
  | true =>
    (repeat with_reducible first | refine Stp.go ?_ | refine StpE.go E ?_)
    refine (rrightDir_ok (d := m.dir) E).mono ?_
    clear E
    rintro r w_ ⟨rfl, E⟩
    (repeat with_reducible refine Stp.go ?_)
    exact fin3 _ _ rfl E
end Go.Proofs.YtmlccboapkkcfaaDoor

/-
  The protocol's reference: the number of bytes of an encoding; Check and Size.
-/
namespace Go.Proofs.YtmlccboapkkcfaaDoor
open Go Go.Sh
set_option maxRecDepth 100000
set_option linter.unusedVariables false
set_option linter.unusedSimpArgs false
variable {w0 w : World} {F : Nat → Prop} {l : List As}
theorem nm_sum : ∀ {xs : List (List UInt8)}, (∀ t ∈ xs, t.length ≤ 1048576) → (xs.map fun s => 2 + s.length).sum ≤ xs.length * 1048578
  | [], _ => by simp
  | x :: r, h => by
    have h1 := nm_sum (xs := r) fun t ht => h t (List.mem_cons_of_mem _ ht)
    have h2 := h x List.mem_cons_self
    rw [List.map_cons, List.sum_cons, List.length_cons]
    omega
theorem rmF_le {m : Ms} {nv qv : Value} (M : MS w0 F l m nv qv) (f : Fl) : rmF m f ≤ 6000000000 := by
  obtain ⟨h1, h2, h3, h4⟩ := M.db
  obtain ⟨h5, h6, h7, h8, h9⟩ := M.zs
  have h10 := M.n1
  have h11 := M.q1
  have h12 := nm_sum M.nb
  cases f <;> simp only [rmF, Go.Proofs.YtmlccboapkkcfaaDoor.dB] <;> omega
theorem rm_sum {m : Ms} {nv qv : Value} (M : MS w0 F l m nv qv) : ∀ fl : List Fl, (fl.map (rmF m)).sum ≤ fl.length * 6000000000
  | [] => by simp
  | f :: r => by
    have h1 := rm_sum M r
    have h2 := rmF_le M f
    rw [List.map_cons, List.sum_cons, List.length_cons]
    omega
theorem rroom_ok {m : Ms} {nv qv : Value} {fl : List Fl} (hl : fl.length ≤ 1000) (M : MS w0 F l m nv qv) (E : Hs w0 F w l) :
    Ca PP Fn.r31_room #[.agg (MC m nv qv).toArray, sb (fl.map ltr)] w fun r w' => r = i64 (room m fl : Nat) ∧ Hs w0 F w' l := by
  have i1 : Scal nv := ⟨by obtain ⟨a, c, e, _⟩ := M.rn; rw [e]; rfl⟩
  have i2 : Scal qv := ⟨by obtain ⟨a, c, e, _⟩ := M.rq; rw [e]; rfl⟩
  refine S.r31_room.calls ?_
  unfold S.r31_room
  (repeat with_reducible (refine StpA.go E ?_; clear E; intro b_ w_ hb_ E))
  refine ⟨fun l1 w1 => ∃ i : Nat, l1 = [i64 (room m (fl.take i) : Nat), i64 i] ∧ i ≤ fl.length ∧ Hs w0 F w1 (pt b_ (oc (MC m nv qv) Ty.api_Msg) :: l), fun l1 _ => match l1 with | [_, .int _ i] => fl.length - i.toNat | _ => 0, ⟨0, rfl, Nat.zero_le _, E⟩, ?_⟩
  clear E
  rintro t5 t6 u1 w1 ⟨i, e, hi, E⟩
  cases e
  (repeat with_reducible refine Stp.go ?_)
  rw [mkB_size, List.length_map]
  refine Bi.lss ?_ ?_ <;> intro hlt <;> (repeat with_reducible refine Stp.go ?_)
  · have g1 : i < fl.length := by omega
    have hsum : room m (fl.take (i + 1)) = room m (fl.take i) + rmF m fl[i] := by
      unfold room
      rw [List.take_add_one, List.getElem?_eq_getElem g1, List.map_append, List.sum_append]
      simp only [Option.toList, List.map_cons, List.map_nil, List.sum_cons, List.sum_nil]
      omega
    have hb : room m (fl.take i) ≤ 9000000000000 := by
      have := rm_sum M (fl.take i)
      rw [List.length_take] at this
      unfold room; omega
    have hfb := rmF_le M fl[i]
    (intro J11 hJ11)
    have fin11 : ∀ (n : Int) w_, n = (room m (fl.take i) + rmF m fl[i] : Nat) → Hs w0 F w_ (pt b_ (oc (MC m nv qv) Ty.api_Msg) :: l) → J11 [i64 n] w_ := by
      intro n w_ h E
      apply hJ11
      intro u_
      refine Bi.add (by omega) ?_
      exact ⟨⟨i + 1, by rw [hsum, h]; rfl, by omega, E⟩, by simp only []; omega⟩
    clear hJ11
    refine IxS.mk (b := ltr fl[i]) (by omega) (by rw [Int.toNat_natCast]; show (fl.map ltr).toArray[i]? = _; rw [List.getElem?_toArray, List.getElem?_map, List.getElem?_eq_getElem g1]; rfl) ?_
    generalize fl[i] = f at hfb fin11 ⊢
    generalize room m (fl.take i) = n0 at hb fin11 ⊢
    clear hsum
    cases f
    all_goals simp only [rmF, Go.Proofs.YtmlccboapkkcfaaDoor.dB] at fin11 hfb
    case xS | xf | xo | xp | xc | xd | xm | xO | xq =>
      (repeat first | (with_reducible first | refine Stp.go ?_ | (apply hJ_; intro u_)) | ((with_reducible refine Bi.dec true ?_ ?_); focus exact rfl) | ((with_reducible refine Bi.dec false ?_ ?_); focus exact rfl) | (intro J_ hJ_))
      refine Bi.add (by omega) ?_
      exact fin11 _ _ (by omega) E
    case xv | xu | xt | xN | xD =>
      (repeat first | (with_reducible first | refine Stp.go ?_ | (apply hJ_; intro u_)) | ((with_reducible refine Bi.dec true ?_ ?_); focus exact rfl) | ((with_reducible refine Bi.dec false ?_ ?_); focus exact rfl) | (intro J_ hJ_))
      refine Bi.add (by omega) ?_
      (repeat with_reducible first | refine Stp.go ?_ | refine StpE.go E ?_)
      rw [mkB_size]
      refine Bi.add (by omega) ?_
      exact fin11 _ _ (by omega) E
    case xQ =>
      (repeat first | (with_reducible first | refine Stp.go ?_ | (apply hJ_; intro u_)) | ((with_reducible refine Bi.dec true ?_ ?_); focus exact rfl) | ((with_reducible refine Bi.dec false ?_ ?_); focus exact rfl) | (intro J_ hJ_))
      refine Bi.add (by omega) ?_
      (repeat with_reducible first | refine Stp.go ?_ | refine StpE.go E ?_)
      refine M.rq.len ?_
      refine Bi.mul (by omega) ?_
      refine Bi.add (by omega) ?_
      exact fin11 _ _ (by omega) E
    case xi =>
      (repeat first | (with_reducible first | refine Stp.go ?_ | refine StpE.go E ?_ | (apply hJ_; intro u_)) | ((with_reducible refine Bi.dec true ?_ ?_); focus exact rfl) | ((with_reducible refine Bi.dec false ?_ ?_); focus exact rfl) | (intro J_ hJ_))
      refine (rdirBytes_ok M.dB E).mono ?_
      clear E
      rintro r w_ ⟨rfl, E⟩
      unfold Go.Proofs.YtmlccboapkkcfaaDoor.dB
      refine Bi.add (by omega) ?_
      exact fin11 _ _ (by omega) E
    case xn =>
      (repeat first | (with_reducible first | refine Stp.go ?_ | (apply hJ_; intro u_)) | ((with_reducible refine Bi.dec true ?_ ?_); focus exact rfl) | ((with_reducible refine Bi.dec false ?_ ?_); focus exact rfl) | (intro J_ hJ_))
      refine Bi.add (by omega) ?_
      have hn1 := M.n1
      refine ⟨fun l1 w1 => ∃ j : Nat, l1 = [i64 ((n0 + 2 + ((m.names.take j).map fun s => 2 + s.length).sum : Nat) : Int), i64 j] ∧ j ≤ m.names.length ∧ Hs w0 F w1 (pt b_ (oc (MC m nv qv) Ty.api_Msg) :: l), fun l1 _ => match l1 with | [_, .int _ j] => m.names.length - j.toNat | _ => 0, ⟨0, by simp, Nat.zero_le _, E⟩, ?_⟩
      clear E
      rintro t5 t7 u2 w2 ⟨j, e, hj, E⟩
      cases e
      (repeat with_reducible first | refine Stp.go ?_ | refine StpE.go E ?_)
      refine M.rn.len ?_
      refine Bi.lss ?_ ?_ <;> intro hlt2 <;> (repeat with_reducible refine Stp.go ?_)
      · have g2 : j < m.names.length := by omega
        have hsum : ((m.names.take (j + 1)).map fun s => 2 + s.length).sum = ((m.names.take j).map fun s => 2 + s.length).sum + (2 + m.names[j].length) := by
          rw [List.take_add_one, List.getElem?_eq_getElem g2, List.map_append, List.sum_append]
          simp only [Option.toList, List.map_cons, List.map_nil, List.sum_cons, List.sum_nil]
          omega
        have hjb := nm_sum (xs := m.names.take j) fun t ht => M.nb t (List.mem_of_mem_take ht)
        rw [List.length_take] at hjb
        have hx := M.nb _ (List.getElem_mem g2)
        have hd : ((m.names.map sb).drop (((j : Int)).toNat * 1))[0]? = some (sb m.names[j]) := by
          rw [Int.toNat_natCast, Nat.mul_one, List.getElem?_drop, Nat.add_zero, List.getElem?_map, List.getElem?_eq_getElem g2]; rfl
        refine Bi.add (by omega) ?_
        (repeat with_reducible first | refine Stp.go ?_ | refine StpE.go E ?_)
        refine (M.rn.cons (pt b_ (oc (MC m nv qv) Ty.api_Msg))).ix (by omega) (by omega) (by omega) ?_
        intro a ha
        refine ha.ld E hd ?_
        (repeat with_reducible refine Stp.go ?_)
        rw [mkB_size]
        refine Bi.add (by omega) ?_
        refine Bi.add (by omega) ?_
        refine ⟨⟨j + 1, ?_, by omega, E⟩, by simp only []; omega⟩
        rw [hsum]
        have e1 : ((n0 + 2 + ((m.names.take j).map fun s => 2 + s.length).sum : Nat) : Int) + 2 + (m.names[j].length : Nat) = ((n0 + 2 + (((m.names.take j).map fun s => 2 + s.length).sum + (2 + m.names[j].length)) : Nat) : Int) := by omega
        rw [e1]
        rfl
      · rw [List.take_of_length_le (by omega)]
        exact fin11 _ _ (by omega) E
  · refine ⟨?_, E.tl⟩
    rw [List.take_of_length_le (by omega)]
end Go.Proofs.YtmlccboapkkcfaaDoor

/-
  The protocol's reference: Check, Size and Encode.
-/
namespace Go.Proofs.YtmlccboapkkcfaaDoor
open Go Go.Sh
set_option maxRecDepth 100000
set_option linter.unusedVariables false
set_option linter.unusedSimpArgs false
variable {w0 w : World} {F : Nat → Prop} {l : List As}
theorem fls_len {k : Int} {fl : List Fl} (h : fls k = some fl) : fl.length ≤ 4 := by
  have key : ∀ l ∈ allL, l.length ≤ 4 := by decide
  exact key _ (fls_mem h)
theorem rf_some {k : Int} {fl : List Fl} (h : fls k = some fl) : rf k = (fl.map ltr, true) := by unfold rf; rw [h]
theorem rf_none {k : Int} (h : fls k = none) : rf k = ([], false) := by unfold rf; rw [h]
theorem rCheck_ok {m : Ms} {nv qv : Value} (M : MS w0 F l m nv qv) (E : Hs w0 F w l) :
    Ca PP Fn.r31_Check #[.agg (MC m nv qv).toArray] w fun r w' => r = i64 (chk m) ∧ Hs w0 F w' l := by
  have i1 : Scal nv := ⟨by obtain ⟨a, c, e, _⟩ := M.rn; rw [e]; rfl⟩
  have i2 : Scal qv := ⟨by obtain ⟨a, c, e, _⟩ := M.rq; rw [e]; rfl⟩
  refine S.r31_Check.calls ?_
  unfold S.r31_Check
  generalize hc : chk m = c
  unfold chk at hc
  (repeat with_reducible first | refine Stp.go ?_ | refine StpE.go E ?_ | (refine StpA.go E ?_; clear E; intro b_ w_ hb_ E))
  refine (rFields_ok E).mono ?_
  clear E
  rintro r w_ ⟨rfl, E⟩
  cases hf : fls m.kind with
  | none =>
    rw [hf] at hc
    rw [rf_none hf]
    (repeat with_reducible refine Stp.go ?_)
    exact ⟨by rw [← hc], E.tl⟩
  | some fl =>
  have h4 := fls_len hf
  rw [hf] at hc
  rw [rf_some hf]
  simp only [] at hc
  (repeat with_reducible first | refine Stp.go ?_ | refine StpE.go E ?_)
  refine (rshaped_ok (by omega) (M.cons _) E).mono ?_
  clear E
  rintro r w_ ⟨rfl, E⟩
  cases hs : shp m fl with
  | false =>
    rw [hs] at hc
    (repeat with_reducible refine Stp.go ?_)
    exact ⟨by rw [← hc]; rfl, E.tl⟩
  | true =>
  rw [hs] at hc
  (repeat with_reducible first | refine Stp.go ?_ | refine StpE.go E ?_)
  refine (rranged_ok (M.cons _) E).mono ?_
  clear E
  rintro r w_ ⟨rfl, E⟩
  cases hr : rM m with
  | false =>
    rw [hr] at hc
    (repeat with_reducible refine Stp.go ?_)
    exact ⟨by rw [← hc]; rfl, E.tl⟩
  | true =>
  rw [hr] at hc
  simp only [Bool.not_true, Bool.false_eq_true, if_false] at hc
  (repeat with_reducible refine Stp.go ?_)
  (intro J18 hJ18)
  have big : ∀ w_, m.names.length > 16 ∨ m.qids.length > 16 ∨ (fl.contains .xi = true ∧ dB m.dir > 1024) ∨ room m fl > 8192 → Hs w0 F w_ (pt b_ (oc (MC m nv qv) Ty.api_Msg) :: l) → J18 [.bool true] w_ := by
    intro w_ h E
    rw [if_pos h] at hc
    (repeat with_reducible first | refine Stp.go ?_ | (apply hJ18; intro u_))
    exact ⟨by rw [← hc], E.tl⟩
  have small : ∀ w_, ¬ (m.names.length > 16 ∨ m.qids.length > 16 ∨ (fl.contains .xi = true ∧ dB m.dir > 1024) ∨ room m fl > 8192) → Hs w0 F w_ (pt b_ (oc (MC m nv qv) Ty.api_Msg) :: l) → J18 [.bool false] w_ := by
    intro w_ h E
    rw [if_neg h] at hc
    (repeat with_reducible first | refine Stp.go ?_ | (apply hJ18; intro u_))
    exact ⟨by rw [← hc], E.tl⟩
  clear hJ18
  (repeat with_reducible first | refine Stp.go ?_ | refine StpE.go E ?_)
  refine M.rn.len ?_
  refine Bi.gtr ?_ ?_ <;> intro c1 <;> (repeat with_reducible first | refine Stp.go ?_ | refine StpE.go E ?_)
  · exact big _ (.inl (by omega)) E
  refine M.rq.len ?_
  (repeat with_reducible refine Stp.go ?_)
  refine Bi.gtr ?_ ?_ <;> intro c2 <;> (repeat with_reducible refine Stp.go ?_)
  · exact big _ (.inr (.inl (by omega))) E
  refine (has_ok .xi rfl (by omega) E).mono ?_
  clear E
  rintro r w_ ⟨rfl, E⟩
  have last : ∀ w_, ¬ (fl.contains .xi = true ∧ dB m.dir > 1024) → Hs w0 F w_ (pt b_ (oc (MC m nv qv) Ty.api_Msg) :: l) →
      Ca PP Fn.r31_room #[.agg (MC m nv qv).toArray, sb (fl.map ltr)] w_ fun t w => Bi .gtr t (i64 8192) fun b => J18 [b] w := by
    intro w_ h E
    refine (rroom_ok (by omega) (M.cons _) E).mono ?_
    clear E
    rintro r w_ ⟨rfl, E⟩
    refine Bi.gtr ?_ ?_ <;> intro c3
    · exact big _ (.inr (.inr (.inr (by omega)))) E
    · exact small _ (by rintro (h1 | h1 | h1 | h1); omega; omega; exact h h1; omega) E
  have fin : ∀ w_ (K : Value → World → Prop), ¬ (fl.contains .xi = true ∧ dB m.dir > 1024) → Hs w0 F w_ (pt b_ (oc (MC m nv qv) Ty.api_Msg) :: l) →
      (∀ t w', Bi .gtr t (i64 8192) (fun b => J18 [b] w') → K t w') → Ca PP Fn.r31_room #[.agg (MC m nv qv).toArray, sb (fl.map ltr)] w_ K :=
    fun w_ K h E hk => (last w_ h E).mono hk
  cases hi : fl.contains .xi with
  | false =>
    (repeat with_reducible first | refine Stp.go ?_ | refine StpE.go E ?_)
    refine fin _ _ (by rw [hi]; rintro ⟨h, _⟩; cases h) E ?_
    intro t w' h
    (repeat with_reducible refine Stp.go ?_)
    obtain ⟨v, h1, h2⟩ := h
    refine ⟨v, h1, ?_⟩
    (repeat with_reducible refine Stp.go ?_)
    exact h2
  | true =>
    (repeat with_reducible first | refine Stp.go ?_ | refine StpE.go E ?_)
    refine (rdirBytes_ok M.dB E).mono ?_
    clear E
    rintro r w_ ⟨rfl, E⟩
    (repeat with_reducible refine Stp.go ?_)
    refine Bi.gtr ?_ ?_ <;> intro c3 <;> (repeat with_reducible first | refine Stp.go ?_ | refine StpE.go E ?_)
    · exact big _ (.inr (.inr (.inl ⟨hi, by omega⟩))) E
    · refine fin _ _ (by rintro ⟨_, h⟩; omega) E ?_
      intro t w' h
      (repeat with_reducible refine Stp.go ?_)
      obtain ⟨v, h1, h2⟩ := h
      refine ⟨v, h1, ?_⟩
      (repeat with_reducible refine Stp.go ?_)
      exact h2
end Go.Proofs.YtmlccboapkkcfaaDoor

/-
  The protocol: what Encode returns for a valid message, Decode decodes to this message; different messages have different encodings (the laws StyxReturns and StyxApart).
-/
namespace Go.Proofs.YtmlccboapkkcfaaDoor
open Go Go.Sh
set_option maxRecDepth 100000
set_option linter.unusedVariables false
set_option linter.unusedSimpArgs false
variable {w0 w : World} {F : Nat → Prop} {l : List As}
/-- A message that is handed in. -/
structure MA (w0 : World) (F : Nat → Prop) (m : Ms) (nv qv : Value) : Prop where
  ok : m.Ok
  rg : rngI m.fid ∧ rngI m.other ∧ rngI m.old ∧ rngI m.size ∧ rngI m.mode ∧ rngI m.perm ∧ rngI m.code
  kd : -9223372036854775808 ≤ m.kind ∧ m.kind ≤ 9223372036854775807
  b : MB m
  rn : ∀ l, RdS w0 F l 1 m.names.length nv (m.names.map sb)
  rq : ∀ l, RdS w0 F l 3 m.qids.length qv (qqs m.qids)
end Go.Proofs.YtmlccboapkkcfaaDoor

/-
  The protocol: lists of messages are compared; a stream that is cut anywhere.
-/
namespace Go.Proofs.YtmlccboapkkcfaaDoor
open Go Go.Sh
set_option maxRecDepth 100000
set_option linter.unusedVariables false
set_option linter.unusedSimpArgs false
variable {w0 w : World} {F : Nat → Prop} {l : List As}
/-- A message in memory: with the values of its two lists. -/
abbrev M3 := Ms × Value × Value
abbrev mcs (x : M3) : List Value := MC x.1 x.2.1 x.2.2
abbrev mms (xs : List M3) : List Value := xs.flatMap mcs
/-- Its lists can be read. -/
def MR (w0 : World) (F : Nat → Prop) (l : List As) (x : M3) : Prop := RdS w0 F l 1 x.1.names.length x.2.1 (x.1.names.map sb) ∧ RdS w0 F l 3 x.1.qids.length x.2.2 (qqs x.1.qids)
theorem MR.weaken {x : M3} {l' : List As} (h : MR w0 F l x) (hl : ∀ w, Hs w0 F w l' → Hs w0 F w l) : MR w0 F l' x := ⟨h.1.weaken hl, h.2.weaken hl⟩
theorem MR.s1 {x : M3} (h : MR w0 F l x) : scalV x.2.1 = true := by obtain ⟨⟨a, c, e, _⟩, _⟩ := h; rw [e]; rfl
theorem MR.s2 {x : M3} (h : MR w0 F l x) : scalV x.2.2 = true := by obtain ⟨_, ⟨a, c, e, _⟩⟩ := h; rw [e]; rfl
theorem MR.all {x : M3} (h : MR w0 F l x) : (mcs x).all scalV = true := by
  simp only [mcs, MC, List.all_cons, List.all_nil, List.all_append, h.s1, h.s2, Bool.and_true, Bool.true_and]
  rfl
end Go.Proofs.YtmlccboapkkcfaaDoor

/-
  The protocol's reference: what its reader of a message leaves; how great a decoded message is.
-/
namespace Go.Proofs.YtmlccboapkkcfaaDoor
open Go Go.Sh
set_option maxRecDepth 100000
set_option linter.unusedVariables false
set_option linter.unusedSimpArgs false
variable {w0 w : World} {F : Nat → Prop} {l : List As}
theorem shp_z2 {m : Ms} {l : List Fl} (h : shp m l = true) : (Fl.xv ∉ l → m.ver = []) ∧ (Fl.xu ∉ l → m.user = []) ∧ (Fl.xt ∉ l → m.tree = []) ∧ (Fl.xN ∉ l → m.name = []) ∧ (Fl.xD ∉ l → m.data = []) ∧ (Fl.xi ∉ l → m.dir = d0) ∧ (Fl.xn ∉ l → m.names = []) ∧ (Fl.xq ∉ l → Fl.xQ ∉ l → m.qids = []) := by
  rw [shp_parts] at h
  have nc : ∀ {f : Fl}, f ∉ l → l.contains f = false := fun {f} hf => by
    cases e : l.contains f with
    | false => rfl
    | true => exact absurd (List.contains_iff_mem.1 e) hf
  simp only [Bool.and_eq_true, Bool.not_eq_true', shp1, shp4, Bool.or_eq_false_iff] at h
  obtain ⟨⟨⟨⟨⟨⟨h1, h2⟩, h3⟩, _⟩, _⟩, ⟨⟨h4, h5⟩, h6⟩, h7⟩, h8, h9⟩ := h
  refine ⟨fun hf => ?_, fun hf => ?_, fun hf => ?_, fun hf => ?_, fun hf => ?_, fun hf => ?_, fun hf => ?_, fun hf hg => ?_⟩
  · rw [nc hf] at h4; simpa using h4
  · rw [nc hf] at h5; simpa using h5
  · rw [nc hf] at h6; simpa using h6
  · rw [nc hf] at h7; simpa using h7
  · rw [nc hf] at h8; simpa using h8
  · rw [nc hf] at h9; simpa using h9
  · rw [nc hf] at h3; simpa using h3
  · rw [nc hf, nc hg] at h2; simpa using h2
theorem two_le : ∀ L : List (List UInt8), 2 * L.length ≤ (L.map fun s => 2 + s.length).sum
  | [] => by simp
  | x :: r => by
    have := two_le r
    rw [List.map_cons, List.sum_cons, List.length_cons]
    omega
theorem ms_sz {m : Ms} {l : List Fl} (h : shp m l = true) (hr : room m l ≤ 9000) :
    m.names.length ≤ 5000 ∧ m.qids.length ≤ 1000 ∧ (m.ver.length ≤ 1048576 ∧ m.user.length ≤ 1048576 ∧ m.tree.length ≤ 1048576 ∧ m.name.length ≤ 1048576 ∧ m.data.length ≤ 1048576) ∧ (∀ t ∈ m.names, t.length ≤ 1048576) ∧
      (m.dir.name.length ≤ 1048576 ∧ m.dir.owner.length ≤ 1048576 ∧ m.dir.group.length ≤ 1048576 ∧ m.dir.last.length ≤ 1048576) := by
  obtain ⟨z1, z2, z3, z4, z5, z6, z7, z8⟩ := shp_z2 h
  have hle : ∀ f ∈ l, rmF m f ≤ 9000 := fun f hf => by
    have := rm_le (m := m) hf
    unfold room at hr; omega
  refine ⟨?_, ?_, ⟨?_, ?_, ?_, ?_, ?_⟩, ?_, ?_⟩
  · by_cases hf : Fl.xn ∈ l
    · have h1 := hle _ hf
      have h2 := two_le m.names
      simp only [rmF] at h1
      omega
    · rw [z7 hf]; simp
  · by_cases hf : Fl.xQ ∈ l
    · have h1 := hle _ hf
      simp only [rmF] at h1
      omega
    · by_cases hg : Fl.xq ∈ l
      · obtain ⟨x, hx⟩ := shp_q h hg
        rw [hx]; simp
      · rw [z8 hg hf]; simp
  · by_cases hf : Fl.xv ∈ l
    · have h1 := hle _ hf
      simp only [rmF] at h1
      omega
    · rw [z1 hf]; simp
  · by_cases hf : Fl.xu ∈ l
    · have h1 := hle _ hf
      simp only [rmF] at h1
      omega
    · rw [z2 hf]; simp
  · by_cases hf : Fl.xt ∈ l
    · have h1 := hle _ hf
      simp only [rmF] at h1
      omega
    · rw [z3 hf]; simp
  · by_cases hf : Fl.xN ∈ l
    · have h1 := hle _ hf
      simp only [rmF] at h1
      omega
    · rw [z4 hf]; simp
  · by_cases hf : Fl.xD ∈ l
    · have h1 := hle _ hf
      simp only [rmF] at h1
      omega
    · rw [z5 hf]; simp
  · intro t ht
    by_cases hf : Fl.xn ∈ l
    · have h1 := hle _ hf
      have h2 := nm_le ht
      simp only [rmF] at h1
      omega
    · rw [z7 hf] at ht; cases ht
  · by_cases hf : Fl.xi ∈ l
    · have h1 := hle _ hf
      simp only [rmF, dB] at h1
      omega
    · rw [z6 hf]; simp [d0]
/-- A message that was read whole is not great. -/
theorem dec_sz {s : List UInt8} {k t : Int} {fl : List Fl} (hf : fl ∈ allL) (hs : s.length ≤ 8192) (h7 : 7 ≤ s.length) {M : Ms} (h : rdFs fl { m0 with kind := k, tag := t } (s.drop 7) = some (M, [])) : shp M fl = true ∧ room M fl ≤ 9000 := by
  obtain ⟨e1, e2, e3⟩ := rdFs_eq (okL_all fl hf) h
  obtain ⟨s1, s2, s3⟩ := fold_shp hf e2 fun hq => (e3 _ hq).1
  refine ⟨s1, ?_⟩
  have := eFs_len s1
  rw [List.append_nil] at e1
  have h2 := congrArg List.length e1
  rw [List.length_drop] at h2
  omega
theorem rflds_app : ∀ (a b : List Fl) (m : Ms) (R : RR), RR.flds (a ++ b) m R = RR.flds b (RR.flds a m R).1 (RR.flds a m R).2
  | [], _, _, _ => rfl
  | f :: a, b, m, R => rflds_app a b _ _
theorem rflds_take {fl : List Fl} {i : Nat} (h : i < fl.length) (m : Ms) (R : RR) : RR.flds (fl.take (i + 1)) m R = RR.fld (RR.flds (fl.take i) m R).1 (RR.flds (fl.take i) m R).2 fl[i] := by
  rw [List.take_add_one, List.getElem?_eq_getElem h, rflds_app]; rfl
/-- What the reader of a message leaves: the reader's block, the message's block, and the pieces of its lists. -/
def DS (w0 : World) (F : Nat → Prop) (l : List As) (b8 b5 : Nat) (x : Ms × RR) (fs : List Fl) (w : World) : Prop :=
  ∃ nv qv X, RdS w0 F X 1 x.1.names.length nv (x.1.names.map sb) ∧ RdS w0 F X 3 x.1.qids.length qv (qqs x.1.qids) ∧ (Fl.xn ∉ fs → nv = nilV ∧ x.1.names = []) ∧ (Fl.xq ∉ fs → Fl.xQ ∉ fs → qv = nilV ∧ x.1.qids = []) ∧
    Hs w0 F w (pt b8 (oc (rcs x.2) Ty.r31_reader) :: pt b5 (oc (MC x.1 nv qv) Ty.api_Msg) :: (X ++ l))
theorem once {fl : List Fl} (hl : fl ∈ allL) {i : Nat} (hi : i < fl.length) : (fl[i] = .xn → Fl.xn ∉ fl.take i) ∧ (fl[i] = .xq ∨ fl[i] = .xQ → Fl.xq ∉ fl.take i ∧ Fl.xQ ∉ fl.take i) := by
  have key : ∀ l ∈ allL, ∀ i : Fin 4, ∀ f, l[i.1]? = some f → (f = .xn → Fl.xn ∉ l.take i.1) ∧ (f = .xq ∨ f = .xQ → Fl.xq ∉ l.take i.1 ∧ Fl.xQ ∉ l.take i.1) := by
    intro l hl i f hf
    simp only [allL, List.mem_cons, List.not_mem_nil, or_false] at hl
    obtain ⟨i, hi⟩ := i
    have : i = 0 ∨ i = 1 ∨ i = 2 ∨ i = 3 := by omega
    rcases hl with rfl | rfl | rfl | rfl | rfl | rfl | rfl | rfl | rfl | rfl | rfl | rfl | rfl | rfl | rfl | rfl | rfl | rfl | rfl <;> rcases this with rfl | rfl | rfl | rfl <;> simp at hf <;> subst hf <;> simp
  have h4 : fl.length ≤ 4 := by
    have key : ∀ l ∈ allL, l.length ≤ 4 := by decide
    exact key _ hl
  exact key fl hl ⟨i, by omega⟩ _ (List.getElem?_eq_getElem hi)
theorem rloop_stop {α : Type} {f : RR → α × RR} {k : Nat} {R : RR} (h : k = 0 ∨ R.sh = true) : RR.loop f k R = ([], R) := by
  cases k with
  | zero => rfl
  | succ k =>
    rcases h with h | h
    · cases h
    · rw [RR.loop, if_pos h]
theorem rloop_go {α : Type} {f : RR → α × RR} {k : Nat} {R : RR} (h : R.sh = false) : RR.loop f (k + 1) R = ((f R).1 :: (RR.loop f k (f R).2).1, (RR.loop f k (f R).2).2) := by
  rw [RR.loop, if_neg (by rw [h]; decide)]
end Go.Proofs.YtmlccboapkkcfaaDoor

/-
  The protocol's reference: Decode.
-/
namespace Go.Proofs.YtmlccboapkkcfaaDoor
open Go Go.Sh
set_option maxRecDepth 100000
set_option linter.unusedVariables false
set_option linter.unusedSimpArgs false
variable {w0 w : World} {F : Nat → Prop} {l : List As}
theorem rDecode_ok {s : List UInt8} (hs : s.length ≤ 1000000000) (E : Hs w0 F w l) :
    Ca PP Fn.r31_Decode #[sb s] w fun q w' => DMs w0 F l (dec s).1 (dec s).2 q w' := by
  rw [← decR_dec]
  refine S.r31_Decode.calls ?_
  unfold S.r31_Decode
  (repeat with_reducible first | refine Stp.go ?_ | (refine StpA.go E ?_; clear E; intro b_ w_ hb_ E))
  rw [mkB_size]
  refine Bi.lss ?_ ?_ <;> intro c1 <;> (repeat with_reducible first | refine Stp.go ?_ | refine StpE.go E ?_)
  · have hP : decR s = (m0, 16) := by unfold decR; rw [if_pos (by omega)]
    rw [hP]
    refine StA.all (vs := MC m0 nilV nilV) E rfl rfl rfl ?_
    clear E
    intro w_ E
    (repeat with_reducible refine StpE.go E ?_)
    exact .zero E.tl
  have h7 : ¬ s.length < 7 := by omega
  refine SlS.pre (by omega) (by rw [mkB_size]; omega) ?_
  rw [mkB_take]
  refine (rvalue_ok (by rw [List.length_take]; omega) E).mono ?_
  clear E
  rintro q w_ ⟨rfl, E⟩
  have hlt := un_lt (s.take 4)
  rw [List.length_take, Nat.min_eq_left (by omega)] at hlt
  have hlt : un (s.take 4) < 4294967296 := hlt
  rw [show ((4 : Int)).toNat = 4 from rfl]
  refine Cv.i64 (by omega) ?_
  refine Bi.gtr ?_ ?_ <;> intro c2 <;> (repeat with_reducible first | refine Stp.go ?_ | refine StpE.go E ?_)
  · have hP : decR s = (m0, 3) := by unfold decR; rw [if_neg h7, if_pos (by omega)]
    rw [hP]
    refine StA.all (vs := MC m0 nilV nilV) E rfl rfl rfl ?_
    clear E
    intro w_ E
    (repeat with_reducible refine StpE.go E ?_)
    exact .zero E.tl
  rw [mkB_size]
  refine Bi.neq ?_ ?_ <;> intro c3 <;> (repeat with_reducible first | refine Stp.go ?_ | refine StpE.go E ?_ | (refine StpW.go E ?_; clear E; intro w_ E))
  · have hP : decR s = (m0, 14) := by unfold decR; rw [if_neg h7, if_neg (by omega), if_pos (by omega)]
    rw [hP]
    refine StA.all (vs := MC m0 nilV nilV) E rfl rfl rfl ?_
    clear E
    intro w_ E
    (repeat with_reducible refine StpE.go E ?_)
    exact .zero E.tl
  have hP : decR s = (let m : Ms := { m0 with kind := un ((s.drop 4).take 1), tag := un ((s.drop 5).take 2) }
    match fls m.kind with
    | none => (m0, 13)
    | some l =>
      let x := RR.flds l m ⟨s, 7, false⟩
      if x.2.sh = true ∨ x.2.at_ ≠ s.length then (m0, 2) else if chk x.1 = 0 then (x.1, 0) else (m0, chk x.1)) := by
    unfold decR; rw [if_neg h7, if_neg (by omega), if_neg (by omega)]; rfl
  rw [hP]
  clear hP
  simp only []
  have g4 : 4 < s.length := by omega
  have hk : un ((s.drop 4).take 1) = s[4].toNat := by
    rw [List.drop_eq_getElem_cons g4]; rfl
  refine IxS.mk (b := s[4]) (by omega) (by show s.toArray[4]? = _; rw [List.getElem?_toArray]; exact List.getElem?_eq_getElem g4) ?_
  have hb := s[4].toNat_lt
  rw [hk]
  generalize s[4].toNat = kd at hb ⊢
  refine Cv.i64 (by omega) ?_
  refine SlS.mid (by omega) (by omega) (by rw [mkB_size]; omega) ?_
  have hsub : (mkB s).extract (5 : Int).toNat (7 : Int).toNat = mkB ((s.drop 5).take 2) := by
    rw [mkB_ext, show (7 : Int).toNat = 5 + 2 from rfl, show (5 : Int).toNat = 5 from rfl, List.drop_take, Nat.add_sub_cancel_left]
  rw [hsub]
  have htl : ((s.drop 5).take 2).length ≤ 2 := by rw [List.length_take]; omega
  have htg := un_lt ((s.drop 5).take 2)
  have htg : un ((s.drop 5).take 2) < 65536 := Nat.lt_of_lt_of_le htg (Nat.pow_le_pow_right (by omega) htl)
  have h8 : s.length ≤ 8192 := by omega
  have hdec : ∀ {fl : List Fl} {M : Ms}, fl ∈ allL → rdFs fl { m0 with kind := (kd : Nat), tag := (un ((s.drop 5).take 2) : Nat) } (s.drop 7) = some (M, []) → shp M fl = true ∧ room M fl ≤ 9000 := fun hf h => dec_sz hf h8 (by omega) h
  generalize (s.drop 5).take 2 = ts at htl htg hdec ⊢
  (revert b_; intro b2 hbb2 E)
  refine And.intro ?left (And.intro ?right trivial)
  case' left =>
    refine (rvalue_ok (by omega) E).mono ?_
    clear E
    rintro q w_ ⟨rfl, E⟩
    refine Cv.i64 (by omega) ?_
    (repeat with_reducible first | refine StpE.go E ?_ | (refine StpA.go E ?_; clear E; intro b_ w_ hb_ E))
    (revert b_; intro b5 hbb5 E)
    refine StA.all (vs := MC { m0 with kind := (kd : Nat), tag := (un ts : Nat) } nilV nilV) E rfl rfl rfl ?_
    clear E
    intro w_ E
    (repeat with_reducible first | refine Stp.go ?_ | refine StpE.go E ?_)
  case' right =>
    (repeat with_reducible (refine StpA.go E ?_; clear E; intro b_ w_ hb_ E))
    (revert b_; intro b5 hbb5 E)
    refine (rvalue_ok (by omega) E).mono ?_
    clear E
    rintro q w_ ⟨rfl, E⟩
    refine Cv.i64 (by omega) ?_
    (repeat with_reducible refine StpE.go E ?_)
    refine StA.all (vs := MC { m0 with kind := (kd : Nat), tag := (un ts : Nat) } nilV nilV) E rfl rfl rfl ?_
    clear E
    intro w_ E
    (repeat with_reducible first | refine Stp.go ?_ | refine StpE.go E ?_)
  all_goals
    generalize un ts = tg at htg hdec E ⊢
    refine (rFields_ok E).mono ?_
    clear E
    rintro r w_ ⟨rfl, E⟩
    cases hf : fls (kd : Int) with
    | none =>
      rw [rf_none hf]
      simp only []
      (repeat with_reducible first | refine Stp.go ?_ | refine StpE.go E ?_)
      refine StA.all (vs := MC m0 nilV nilV) E rfl rfl rfl ?_
      clear E
      intro w_ E
      (repeat with_reducible refine StpE.go E ?_)
      exact .zero E.tl.tl
    | some fl =>
    rw [rf_some hf]
    simp only []
    have hfl := fls_mem hf
    have h4 := fls_len hf
    (repeat with_reducible first | refine Stp.go ?_ | refine StpE.go E ?_ | (refine StpW.go E ?_; clear E; intro w_ E) | (refine StpA.go E ?_; clear E; intro b_ w_ hb_ E))
    (revert b_; intro b8 hbb8 E)
    have hB0 : RB ⟨s, 7, false⟩ := ⟨by show 7 ≤ s.length; omega, by show s.length ≤ _; omega⟩
    have hRH := fun i => flds_rh (fl.take i) { m0 with kind := (kd : Nat), tag := (tg : Nat) } ⟨s, 7, false⟩ hB0.ok
    have hfull := flds_rh fl { m0 with kind := (kd : Nat), tag := (tg : Nat) } ⟨s, 7, false⟩ hB0.ok
    have er : (⟨s, 7, false⟩ : RR).rest = s.drop 7 := rfl
    rw [er] at hfull
    refine ⟨fun l1 w1 => ∃ i : Nat, l1 = [i64 i] ∧ i ≤ fl.length ∧ DS w0 F (pt b2 (oc (MC m0 nilV nilV) Ty.api_Msg) :: l) b8 b5 (RR.flds (fl.take i) { m0 with kind := (kd : Nat), tag := (tg : Nat) } ⟨s, 7, false⟩) (fl.take i) w1,
      fun l1 _ => match l1 with | [.int _ i] => fl.length - i.toNat | _ => 0, ⟨0, rfl, Nat.zero_le _, nilV, nilV, [], rds_nil, rds_nil, fun _ => ⟨rfl, rfl⟩, fun _ _ => ⟨rfl, rfl⟩, E⟩, ?_⟩
    clear E
    rintro t9 u1 w1 ⟨i, e, hi, E⟩
    cases e
    (repeat with_reducible refine Stp.go ?_)
    rw [mkB_size, List.length_map]
    refine Bi.lss ?_ ?_ <;> intro hlt2
    · have g1 : i < fl.length := by omega
      have hst := rflds_take g1 { m0 with kind := (kd : Nat), tag := (tg : Nat) } ⟨s, 7, false⟩
      have hBi : RB (RR.flds (fl.take i) { m0 with kind := (kd : Nat), tag := (tg : Nat) } ⟨s, 7, false⟩).2 := (hRH i).rb hB0
      obtain ⟨o1, o2⟩ := once hfl g1
      have hmem : fl[i] ∈ fl.take (i + 1) := by rw [List.take_add_one, List.getElem?_eq_getElem g1]; exact List.mem_append_right _ (List.mem_singleton.2 rfl)
      have hsub : ∀ f, f ∉ fl.take (i + 1) → f ∉ fl.take i := fun f h h2 => h (by rw [List.take_add_one]; exact List.mem_append_left _ h2)
      (repeat with_reducible refine Stp.go ?_)
      (intro J53 hJ53)
      have fin53 : ∀ w_, DS w0 F (pt b2 (oc (MC m0 nilV nilV) Ty.api_Msg) :: l) b8 b5 (RR.fld (RR.flds (fl.take i) { m0 with kind := (kd : Nat), tag := (tg : Nat) } ⟨s, 7, false⟩).1 (RR.flds (fl.take i) { m0 with kind := (kd : Nat), tag := (tg : Nat) } ⟨s, 7, false⟩).2 fl[i]) (fl.take (i + 1)) w_ → J53 [] w_ := by
        intro w_ E
        apply hJ53
        intro u_
        refine Bi.add (by omega) ?_
        rw [← hst] at E
        exact ⟨⟨i + 1, rfl, by omega, E⟩, by simp only []; omega⟩
      clear hJ53 hst
      refine IxS.mk (b := ltr fl[i]) (by omega) (by rw [Int.toNat_natCast]; show (fl.map ltr).toArray[i]? = _; rw [List.getElem?_toArray, List.getElem?_map, List.getElem?_eq_getElem g1]; rfl) ?_
      generalize fl[i] = f at o1 o2 hmem fin53 ⊢
      generalize RR.flds (fl.take i) { m0 with kind := (kd : Nat), tag := (tg : Nat) } ⟨s, 7, false⟩ = x at hBi fin53 E
      generalize fl.take (i + 1) = fs' at hmem hsub fin53
      generalize fl.take i = fs at o1 o2 hsub E
      obtain ⟨m, R⟩ := x
      obtain ⟨nv, qv, X, hN, hQ, kN, kQ, E⟩ := E
      dsimp only at hBi fin53 E hN hQ kN kQ
      have i1 : Scal nv := ⟨by obtain ⟨a, c, e, _⟩ := hN; rw [e]; rfl⟩
      have i2 : Scal qv := ⟨by obtain ⟨a, c, e, _⟩ := hQ; rw [e]; rfl⟩
      have kN' : Fl.xn ∉ fs' → nv = nilV ∧ m.names = [] := fun h => kN (hsub _ h)
      have kQ' : Fl.xq ∉ fs' → Fl.xQ ∉ fs' → qv = nilV ∧ m.qids = [] := fun h h2 => kQ (hsub _ h) (hsub _ h2)
      cases f
      case xS | xf | xo | xp =>
        (repeat first | (with_reducible first | refine Stp.go ?_ | refine StpE.go E ?_) | ((with_reducible refine Bi.dec true ?_ ?_); focus exact rfl) | ((with_reducible refine Bi.dec false ?_ ?_); focus exact rfl))
        refine (rreadNumber_ok 4 (by omega) hBi E).mono ?_
        clear E
        rintro q w_ ⟨rfl, E⟩
        (repeat with_reducible first | refine Stp.go ?_ | (refine StpW.go E ?_; clear E; intro w_ E))
        exact fin53 _ ⟨nv, qv, X, hN, hQ, kN', kQ', E⟩
      case xc | xd =>
        (repeat first | (with_reducible first | refine Stp.go ?_ | refine StpE.go E ?_) | ((with_reducible refine Bi.dec true ?_ ?_); focus exact rfl) | ((with_reducible refine Bi.dec false ?_ ?_); focus exact rfl))
        refine (rreadNumber_ok 2 (by omega) hBi E).mono ?_
        clear E
        rintro q w_ ⟨rfl, E⟩
        (repeat with_reducible first | refine Stp.go ?_ | (refine StpW.go E ?_; clear E; intro w_ E))
        exact fin53 _ ⟨nv, qv, X, hN, hQ, kN', kQ', E⟩
      case xm =>
        (repeat first | (with_reducible first | refine Stp.go ?_ | refine StpE.go E ?_) | ((with_reducible refine Bi.dec true ?_ ?_); focus exact rfl) | ((with_reducible refine Bi.dec false ?_ ?_); focus exact rfl))
        refine (rreadNumber_ok 1 (by omega) hBi E).mono ?_
        clear E
        rintro q w_ ⟨rfl, E⟩
        (repeat with_reducible first | refine Stp.go ?_ | (refine StpW.go E ?_; clear E; intro w_ E))
        exact fin53 _ ⟨nv, qv, X, hN, hQ, kN', kQ', E⟩
      case xO =>
        (repeat first | (with_reducible first | refine Stp.go ?_ | refine StpE.go E ?_) | ((with_reducible refine Bi.dec true ?_ ?_); focus exact rfl) | ((with_reducible refine Bi.dec false ?_ ?_); focus exact rfl))
        refine (rreadLong_ok hBi E).mono ?_
        clear E
        rintro q w_ ⟨rfl, E⟩
        (repeat with_reducible first | refine Stp.go ?_ | (refine StpW.go E ?_; clear E; intro w_ E))
        exact fin53 _ ⟨nv, qv, X, hN, hQ, kN', kQ', E⟩
      case xv | xu | xt | xN =>
        (repeat first | (with_reducible first | refine Stp.go ?_ | refine StpE.go E ?_) | ((with_reducible refine Bi.dec true ?_ ?_); focus exact rfl) | ((with_reducible refine Bi.dec false ?_ ?_); focus exact rfl))
        refine (rreadWord_ok hBi E).mono ?_
        clear E
        rintro q w_ ⟨rfl, E⟩
        (repeat with_reducible first | refine Stp.go ?_ | (refine StpW.go E ?_; clear E; intro w_ E))
        exact fin53 _ ⟨nv, qv, X, hN, hQ, kN', kQ', E⟩
      case xD =>
        have hn := rnum_lt R 4
        have hn : (R.num 4).1 < 4294967296 := hn
        (repeat first | (with_reducible first | refine Stp.go ?_ | refine StpE.go E ?_) | ((with_reducible refine Bi.dec true ?_ ?_); focus exact rfl) | ((with_reducible refine Bi.dec false ?_ ?_); focus exact rfl))
        refine (rreadNumber_ok 4 (by omega) hBi E).mono ?_
        clear E
        rintro q w_ ⟨rfl, E⟩
        (repeat with_reducible first | refine Stp.go ?_ | refine StpE.go E ?_ | (refine StpW.go E ?_; clear E; intro w_ E))
        refine (rtake_ok ((num_rh R hBi.ok 4).rb hBi) (by omega) E).mono ?_
        clear E
        rintro q w_ ⟨rfl, E⟩
        (repeat with_reducible first | refine Stp.go ?_ | (refine StpW.go E ?_; clear E; intro w_ E))
        exact fin53 _ ⟨nv, qv, X, hN, hQ, kN', kQ', E⟩
      case xi =>
        (repeat first | (with_reducible first | refine Stp.go ?_ | refine StpE.go E ?_) | ((with_reducible refine Bi.dec true ?_ ?_); focus exact rfl) | ((with_reducible refine Bi.dec false ?_ ?_); focus exact rfl))
        refine (rreadDir_ok hBi E).mono ?_
        clear E
        rintro q w_ ⟨rfl, E⟩
        (repeat with_reducible refine Stp.go ?_)
        refine StA.pt E 1 (vs := dcs R.dir.1) (cs := MC m nv qv) rfl rfl (by show 26 ≤ 27; omega) rfl ?_
        clear E
        intro w_ E
        replace E : Hs w0 F w_ (pt b8 (oc (rcs R) Ty.r31_reader) :: pt b5 (oc (MC { m with dir := R.dir.1 } nv qv) Ty.api_Msg) :: (X ++ (pt b2 (oc (MC m0 nilV nilV) Ty.api_Msg) :: l))) := E
        (repeat with_reducible (refine StpW.go E ?_; clear E; intro w_ E))
        exact fin53 _ ⟨nv, qv, X, hN, hQ, kN', kQ', E⟩
      case xq =>
        obtain ⟨n1, n2⟩ := o2 (.inl rfl)
        obtain ⟨rfl, hq0⟩ := kQ n1 n2
        (repeat first | (with_reducible first | refine Stp.go ?_ | refine StpE.go E ?_ | (refine StpW.go E ?_; clear E; intro w_ E) | (refine StpA.go E ?_; clear E; intro b_ w_ hb_ E)) | ((with_reducible refine Bi.dec true ?_ ?_); focus exact rfl) | ((with_reducible refine Bi.dec false ?_ ?_); focus exact rfl))
        refine (rreadQid_ok hBi E).mono ?_
        clear E
        rintro q w_ ⟨rfl, E⟩
        (repeat with_reducible first | refine Stp.go ?_ | refine StpE.go E ?_ | (refine StpW.go E ?_; clear E; intro w_ E))
        refine BdS.sl (sz := 3) (n := 1) (z := .agg #[i64 0, i64 0, i64 0]) (xs := qcs R.qid.1) E u_sl_qid (by kernel_rfl) (by kernel_rfl) (by omega) (by omega) (by kernel_rfl) rfl ?_
        clear E
        intro v2 w_ E
        (repeat with_reducible first | refine Stp.go ?_ | (refine StpW.go E ?_; clear E; intro w_ E))
        have hr := RdS.sl (T := Ty.api_Qid) (v := v2) (sz := 3) (xs := qcs R.qid.1) (l := [slA v2 Ty.api_Qid 3 (qcs R.qid.1)]) List.mem_cons_self (by omega) (E.drop (.cons_cons _ (List.nil_sublist _)))
        have hr2 : RdS w0 F [slA v2 Ty.api_Qid 3 (qcs R.qid.1)] 3 [R.qid.1].length v2 (qqs [R.qid.1]) := by
          have e : qqs [R.qid.1] = qcs R.qid.1 := by simp [qqs]
          rw [e]
          have e3 : (qcs R.qid.1).length / 3 = 1 := by show 3 / 3 = 1; rfl
          rw [e3] at hr
          exact hr
        refine fin53 _ ⟨nv, v2, slA v2 Ty.api_Qid 3 (qcs R.qid.1) :: X, hN.cons _, ?_, kN', fun h => absurd hmem h, ?_⟩
        · exact hr2.weaken fun _ E => E.drop (.cons_cons _ (List.nil_sublist _))
        · (replace E := (E.bIx 1).tl)
          (replace E := (((E.bIx 0).bIx 2).bIx 2))
          exact E
      case xn =>
        have hn := rnum_lt R 2
        have hn : (R.num 2).1 < 65536 := hn
        obtain ⟨rfl, hn0⟩ := kN (o1 rfl)
        (repeat first | (with_reducible first | refine Stp.go ?_ | refine StpE.go E ?_) | ((with_reducible refine Bi.dec true ?_ ?_); focus exact rfl) | ((with_reducible refine Bi.dec false ?_ ?_); focus exact rfl))
        refine (rreadNumber_ok 2 (by omega) hBi E).mono ?_
        clear E
        rintro q w_ ⟨rfl, E⟩
        (repeat with_reducible first | refine Stp.go ?_ | (refine StpW.go E ?_; clear E; intro w_ E))
        have hB2 := (num_rh R hBi.ok 2).rb hBi
        generalize hLp : RR.loop RR.wrd (R.num 2).1 (R.num 2).2 = L
        have hfld : RR.fld m R .xn = ({ m with names := L.1 }, L.2) := by rw [← hLp]; rfl
        rw [hfld] at fin53
        generalize R.num 2 = c at hn hB2 hLp E ⊢
        obtain ⟨k, R1⟩ := c
        dsimp only at hn hB2 hLp E ⊢
        refine ⟨fun l1 w1 => ∃ (j : Nat) (done : List (List UInt8)) (v : Value) (J : RR), l1 = [i64 j] ∧ j ≤ k ∧ done.length = j ∧ L = (done ++ (RR.loop RR.wrd (k - j) J).1, (RR.loop RR.wrd (k - j) J).2) ∧ RB J ∧
            Hs w0 F w1 (slA v Ty.string 1 (done.map sb) :: pt b8 (oc (rcs J) Ty.r31_reader) :: pt b5 (oc (MC m v qv) Ty.api_Msg) :: (X ++ (pt b2 (oc (MC m0 nilV nilV) Ty.api_Msg) :: l))),
          fun l1 _ => match l1 with | [.int _ j] => k - j.toNat | _ => 0, ⟨0, [], nilV, R1, rfl, Nat.zero_le _, rfl, by rw [List.nil_append, Nat.sub_zero, hLp], hB2, E.nilSl Ty.string 1⟩, ?_⟩
        clear E hLp hB2
        rintro t14 u2 w2 ⟨j, done, v, J, e, hj, hdl, hL, hBJ, E⟩
        cases e
        (intro J270 hJ270)
        have stop : (k - j = 0 ∨ J.sh = true) → J270 [.bool false] w2 := by
          intro h
          apply hJ270
          intro u_
          rw [rloop_stop h, List.append_nil] at hL
          subst hL
          (repeat with_reducible refine Stp.go ?_)
          have hr := RdS.sl (T := Ty.string) (v := v) (sz := 1) (xs := done.map sb) (l := [slA v Ty.string 1 (done.map sb)]) List.mem_cons_self (by omega) (E.drop (.cons_cons _ (List.nil_sublist _)))
          rw [List.length_map, Nat.div_one] at hr
          refine fin53 _ ⟨v, qv, slA v Ty.string 1 (done.map sb) :: X, hr.weaken fun _ E => E.drop (.cons_cons _ (List.nil_sublist _)), hQ.cons _, fun h => absurd hmem h, kQ', ?_⟩
          (replace E := (((E.bIx 0).bIx 2).bIx 2))
          exact E
        have go : j < k → J.sh = false → J270 [.bool true] w2 := by
          intro h1 h2
          apply hJ270
          intro u_
          clear hJ270 stop
          rw [show k - j = (k - (j + 1)) + 1 by omega, rloop_go h2] at hL
          (repeat with_reducible first | refine Stp.go ?_ | refine StpE.go E ?_)
          refine (rreadWord_ok hBJ E).mono ?_
          clear E
          rintro q w_ ⟨rfl, E⟩
          have i3 : Scal v := ⟨Hs.slScal E List.mem_cons_self⟩
          (repeat with_reducible first | refine Stp.go ?_ | refine StpE.go E ?_ | (refine StpW.go E ?_; clear E; intro w_ E))
          refine BdS.one E u_names nm_string rfl ?_
          clear E
          intro v2 w_ E
          refine Ap.one E (i := 1) rfl u_names ⟨_, u_names, fun _ h => by cases h⟩ nm_string (Src.one E (by (first | assumption | exact FPt.mem | exact FMp.mem | exact FSl.mem | (repeat (first | assumption | with_reducible exact List.mem_cons_self | refine List.mem_cons_of_mem _ ?_)))) rfl) rfl (by rw [List.length_map]; simp only [List.length_cons, List.length_nil]; omega) (by rw [List.length_map]; simp only [List.length_cons, List.length_nil]; omega) ?_
          clear E
          intro v3 w_ E
          (try simp only [List.set_cons_zero, List.set_cons_succ, List.cons_append, List.nil_append, Nat.zero_add, Nat.add_zero] at E)
          (repeat with_reducible first | refine Stp.go ?_ | (refine StpW.go E ?_; clear E; intro w_ E))
          refine Bi.add (by omega) ?_
          refine ⟨⟨j + 1, done ++ [J.wrd.1], v3, J.wrd.2, rfl, by omega, by simp [hdl], ?_, (wrd_rh J hBJ.ok).rb hBJ, ?_⟩, by simp only []; omega⟩
          · rw [hL, List.append_assoc]; rfl
          · rw [List.map_append]
            exact E.tl
        clear hJ270
        refine Bi.lss ?_ ?_ <;> intro hlt3 <;> (repeat with_reducible first | refine Stp.go ?_ | refine StpE.go E ?_)
        · replace E : Hs w0 F w2 (slA v _ _ _ :: pt b8 (oc [sb J.s, i64 J.at_, .bool J.sh] Ty.r31_reader) :: _) := E
          cases hsh : J.sh with
          | true =>
            rw [hsh] at E stop
            (repeat with_reducible refine Stp.go ?_)
            exact stop (.inr rfl)
          | false =>
            rw [hsh] at E go
            (repeat with_reducible refine Stp.go ?_)
            exact go (by omega) rfl
        · exact stop (.inl (by omega))
      case xQ =>
        have hn := rnum_lt R 2
        have hn : (R.num 2).1 < 65536 := hn
        obtain ⟨n1, n2⟩ := o2 (.inr rfl)
        obtain ⟨rfl, hq0⟩ := kQ n1 n2
        (repeat first | (with_reducible first | refine Stp.go ?_ | refine StpE.go E ?_) | ((with_reducible refine Bi.dec true ?_ ?_); focus exact rfl) | ((with_reducible refine Bi.dec false ?_ ?_); focus exact rfl))
        refine (rreadNumber_ok 2 (by omega) hBi E).mono ?_
        clear E
        rintro q w_ ⟨rfl, E⟩
        (repeat with_reducible first | refine Stp.go ?_ | (refine StpW.go E ?_; clear E; intro w_ E))
        have hB2 := (num_rh R hBi.ok 2).rb hBi
        generalize hLp : RR.loop RR.qid (R.num 2).1 (R.num 2).2 = L
        have hfld : RR.fld m R .xQ = ({ m with qids := L.1 }, L.2) := by rw [← hLp]; rfl
        rw [hfld] at fin53
        generalize R.num 2 = c at hn hB2 hLp E ⊢
        obtain ⟨k, R1⟩ := c
        dsimp only at hn hB2 hLp E ⊢
        refine ⟨fun l1 w1 => ∃ (j : Nat) (done : List Qi) (v : Value) (J : RR), l1 = [i64 j] ∧ j ≤ k ∧ done.length = j ∧ L = (done ++ (RR.loop RR.qid (k - j) J).1, (RR.loop RR.qid (k - j) J).2) ∧ RB J ∧
            Hs w0 F w1 (slA v Ty.api_Qid 3 (qqs done) :: pt b8 (oc (rcs J) Ty.r31_reader) :: pt b5 (oc (MC m nv v) Ty.api_Msg) :: (X ++ (pt b2 (oc (MC m0 nilV nilV) Ty.api_Msg) :: l))),
          fun l1 _ => match l1 with | [.int _ j] => k - j.toNat | _ => 0, ⟨0, [], nilV, R1, rfl, Nat.zero_le _, rfl, by rw [List.nil_append, Nat.sub_zero, hLp], hB2, E.nilSl Ty.api_Qid 3⟩, ?_⟩
        clear E hLp hB2
        rintro t12 u2 w2 ⟨j, done, v, J, e, hj, hdl, hL, hBJ, E⟩
        cases e
        (intro J210 hJ210)
        have hql : (qqs done).length / 3 = done.length := by rw [qqs_len]; omega
        have stop : (k - j = 0 ∨ J.sh = true) → J210 [.bool false] w2 := by
          intro h
          apply hJ210
          intro u_
          rw [rloop_stop h, List.append_nil] at hL
          subst hL
          (repeat with_reducible refine Stp.go ?_)
          have hr := RdS.sl (T := Ty.api_Qid) (v := v) (sz := 3) (xs := qqs done) (l := [slA v Ty.api_Qid 3 (qqs done)]) List.mem_cons_self (by omega) (E.drop (.cons_cons _ (List.nil_sublist _)))
          rw [hql] at hr
          refine fin53 _ ⟨nv, v, slA v Ty.api_Qid 3 (qqs done) :: X, hN.cons _, hr.weaken fun _ E => E.drop (.cons_cons _ (List.nil_sublist _)), kN', fun _ h => absurd hmem h, ?_⟩
          (replace E := (((E.bIx 0).bIx 2).bIx 2))
          exact E
        have go : j < k → J.sh = false → J210 [.bool true] w2 := by
          intro h1 h2
          apply hJ210
          intro u_
          clear hJ210 stop
          rw [show k - j = (k - (j + 1)) + 1 by omega, rloop_go h2] at hL
          (repeat with_reducible first | refine Stp.go ?_ | refine StpE.go E ?_ | (refine StpW.go E ?_; clear E; intro w_ E) | (refine StpA.go E ?_; clear E; intro b_ w_ hb_ E))
          refine (rreadQid_ok hBJ E).mono ?_
          clear E
          rintro q w_ ⟨rfl, E⟩
          (repeat with_reducible first | refine Stp.go ?_ | refine StpE.go E ?_ | (refine StpW.go E ?_; clear E; intro w_ E))
          refine BdS.sl (sz := 3) (n := 1) (z := .agg #[i64 0, i64 0, i64 0]) (xs := qcs J.qid.1) E u_sl_qid (by kernel_rfl) (by kernel_rfl) (by omega) (by omega) (by kernel_rfl) rfl ?_
          clear E
          intro v2 w_ E
          refine Ap.el E (i := 2) (n := 1) (ys := qcs J.qid.1) rfl u_sl_qid ⟨_, u_sl_qid, fun _ h => by cases h⟩ e_qid (by omega) (Src.slice (show SliceAt v2 Ty.api_Qid 3 (qcs J.qid.1) _ from E.sat _ List.mem_cons_self) rfl (by omega) rfl) rfl (by rw [hql]; omega) (by rw [hql]; omega) ?_
          clear E
          intro v3 w_ E
          (try simp only [List.set_cons_zero, List.set_cons_succ, List.cons_append, List.nil_append, Nat.zero_add, Nat.add_zero] at E)
          (repeat with_reducible first | refine Stp.go ?_ | (refine StpW.go E ?_; clear E; intro w_ E))
          refine Bi.add (by omega) ?_
          refine ⟨⟨j + 1, done ++ [J.qid.1], v3, J.qid.2, rfl, by omega, by simp [hdl], ?_, (qid_rh J hBJ.ok).rb hBJ, ?_⟩, by simp only []; omega⟩
          · rw [hL, List.append_assoc]; rfl
          · have : qqs (done ++ [J.qid.1]) = qqs done ++ qcs J.qid.1 := by simp [qqs]
            rw [this]
            exact E.tl.tl
        clear hJ210
        refine Bi.lss ?_ ?_ <;> intro hlt3 <;> (repeat with_reducible first | refine Stp.go ?_ | refine StpE.go E ?_)
        · replace E : Hs w0 F w2 (slA v _ _ _ :: pt b8 (oc [sb J.s, i64 J.at_, .bool J.sh] Ty.r31_reader) :: _) := E
          cases hsh : J.sh with
          | true =>
            rw [hsh] at E stop
            (repeat with_reducible refine Stp.go ?_)
            exact stop (.inr rfl)
          | false =>
            rw [hsh] at E go
            (repeat with_reducible refine Stp.go ?_)
            exact go (by omega) rfl
        · exact stop (.inl (by omega))
    · have hi2 : i = fl.length := by omega
      subst hi2
      rw [List.take_length] at E
      clear hRH
      generalize RR.flds fl { m0 with kind := (kd : Nat), tag := (tg : Nat) } ⟨s, 7, false⟩ = x at hfull E ⊢
      obtain ⟨m, rs, ra, rh⟩ := x
      obtain ⟨nv, qv, X, hN, hQ, kN, kQ, E⟩ := E
      dsimp only at hfull E hN hQ ⊢
      have i1 : Scal nv := ⟨by obtain ⟨a, c, e, _⟩ := hN; rw [e]; rfl⟩
      have i2 : Scal qv := ⟨by obtain ⟨a, c, e, _⟩ := hQ; rw [e]; rfl⟩
      (repeat with_reducible refine Stp.go ?_)
      (intro J303 hJ303)
      have bad : ∀ b, b = true → (rh = true ∨ ra ≠ s.length) → J303 [.bool b] w1 := by
        rintro _ rfl h
        apply hJ303
        intro u_
        rw [if_pos h]
        have E := E.perm (l' := pt b2 (oc (MC m0 nilV nilV) Ty.api_Msg) :: pt b8 (oc [sb rs, i64 ra, .bool rh] Ty.r31_reader) :: pt b5 (oc (MC m nv qv) Ty.api_Msg) :: (X ++ l)) (by
          have h1 : (X ++ pt b2 (oc (MC m0 nilV nilV) Ty.api_Msg) :: l).Perm (pt b2 (oc (MC m0 nilV nilV) Ty.api_Msg) :: (X ++ l)) := List.perm_middle
          exact ((h1.cons _).cons _).trans ((List.Perm.swap _ _ _).cons _ |>.trans (List.Perm.swap _ _ _)))
        (repeat with_reducible first | refine Stp.go ?_ | refine StpE.go E ?_)
        refine StA.all (vs := MC m0 nilV nilV) E rfl rfl rfl ?_
        clear E
        intro w_ E
        (repeat with_reducible refine StpE.go E ?_)
        exact .zero (E.tl.tl.tl.drop (List.sublist_append_right _ _))
      have good : ¬ (rh = true ∨ ra ≠ s.length) → J303 [.bool false] w1 := by
        intro h
        apply hJ303
        intro u_
        rw [if_neg h]
        have hM : ∃ y, rdFs fl { m0 with kind := (kd : Nat), tag := (tg : Nat) } (s.drop 7) = some y := by
          cases hp : rdFs fl { m0 with kind := (kd : Nat), tag := (tg : Nat) } (s.drop 7) with
          | some y => exact ⟨y, rfl⟩
          | none => exact absurd (.inl (hfull.no rfl hp)) h
        obtain ⟨⟨M, t⟩, hy⟩ := hM
        obtain ⟨e1, e2, e3⟩ := hfull.yes rfl _ hy
        dsimp only at e1 e3
        rw [not_or, Decidable.not_not] at h
        have hs2 : rs = s := hfull.s
        have ht : t = [] := by
          rw [← e3]
          exact (rest_nil hfull.ok).2 (by show ra = rs.length; rw [hs2]; exact h.2)
        subst e1 ht
        obtain ⟨z1, z2⟩ := hdec hfl hy
        obtain ⟨y1, y2, y3, y4, y5⟩ := ms_sz z1 z2
        have E := E.perm (l' := pt b2 (oc (MC m0 nilV nilV) Ty.api_Msg) :: pt b8 (oc [sb rs, i64 ra, .bool rh] Ty.r31_reader) :: pt b5 (oc (MC m nv qv) Ty.api_Msg) :: (X ++ l)) (by
          have h1 : (X ++ pt b2 (oc (MC m0 nilV nilV) Ty.api_Msg) :: l).Perm (pt b2 (oc (MC m0 nilV nilV) Ty.api_Msg) :: (X ++ l)) := List.perm_middle
          exact ((h1.cons _).cons _).trans ((List.Perm.swap _ _ _).cons _ |>.trans (List.Perm.swap _ _ _)))
        (repeat with_reducible first | refine Stp.go ?_ | refine StpE.go E ?_)
        have hsl : ∀ w, Hs w0 F w (pt b2 (oc (MC m0 nilV nilV) Ty.api_Msg) :: pt b8 (oc [sb rs, i64 ra, .bool rh] Ty.r31_reader) :: pt b5 (oc (MC m nv qv) Ty.api_Msg) :: (X ++ l)) → Hs w0 F w X := fun _ E => E.tl.tl.tl.drop (List.sublist_append_left _ _)
        refine (rCheck_ok (m := m) ⟨y1, y2, y3, y4, y5, hN.weaken hsl, hQ.weaken hsl⟩ E).mono ?_
        clear E
        rintro r w_ ⟨rfl, E⟩
        refine Bi.neq ?_ ?_ <;> intro c <;> (repeat with_reducible first | refine Stp.go ?_ | refine StpE.go E ?_)
        · rw [if_neg c]
          refine StA.all (vs := MC m0 nilV nilV) E rfl rfl rfl ?_
          clear E
          intro w_ E
          (repeat with_reducible refine StpE.go E ?_)
          exact .zero (E.tl.tl.tl.drop (List.sublist_append_right _ _))
        · rw [if_pos c]
          refine StA.all (vs := MC m nv qv) E rfl rfl (MR.all (x := (m, nv, qv)) ⟨hN, hQ⟩) ?_
          clear E
          intro w_ E
          (repeat with_reducible refine StpE.go E ?_)
          exact ⟨nv, qv, X, rfl, hN, hQ, E.tl.tl.tl⟩
      clear hJ303
      cases hrh : rh with
      | true =>
        subst hrh
        (repeat with_reducible first | refine Stp.go ?_ | refine StpE.go E ?_)
        exact bad _ rfl (.inl rfl)
      | false =>
        subst hrh
        (repeat with_reducible first | refine Stp.go ?_ | refine StpE.go E ?_)
        rw [mkB_size]
        refine Bi.neq ?_ ?_ <;> intro c <;> (repeat with_reducible refine Stp.go ?_)
        · exact bad _ rfl (.inr (by have c' : ((ra : Nat) : Int) ≠ s.length := c; omega))
        · exact good (by have c' : ((ra : Nat) : Int) = s.length := c; rintro (h | h); cases h; exact h (by omega))
end Go.Proofs.YtmlccboapkkcfaaDoor

/-
  The protocol: Decode returns what the reference returns; what it accepts is the encoding of the message that it returns (the law StyxDecodes).
-/
namespace Go.Proofs.YtmlccboapkkcfaaDoor
open Go Go.Sh
set_option maxRecDepth 100000
set_option linter.unusedVariables false
set_option linter.unusedSimpArgs false
variable {w0 w : World} {F : Nat → Prop} {l : List As}
theorem inR_rng {n : Int} {k : Nat} (hk : k ≤ 4) (h : inR n k = true) : rngI n := by
  unfold inR at h
  rw [Bool.and_eq_true, decide_eq_true_eq, decide_eq_true_eq] at h
  have h1 : (256 : Nat) ^ k ≤ 256 ^ 4 := Nat.pow_le_pow_right (by omega) hk
  have h2 : (256 : Nat) ^ 4 = 4294967296 := by decide
  unfold rngI
  omega
theorem chk_mi {m : Ms} {nv qv : Value} (hk : m.Ok) (h : chk m = 0) (hN : RdS w0 F l 1 m.names.length nv (m.names.map sb)) (hQ : RdS w0 F l 3 m.qids.length qv (qqs m.qids)) : MI w0 F l m nv qv := by
  obtain ⟨fl, hl, ha, hs, hr, hn, hq, hi, hm⟩ := chk_zero h
  obtain ⟨y1, y2, y3, y4, y5⟩ := ms_sz hs (by omega)
  have hr2 := fls_rng hl
  unfold rM at hr
  simp only [Bool.and_eq_true] at hr
  obtain ⟨⟨⟨⟨⟨⟨⟨⟨⟨⟨r1, r2⟩, r3⟩, r4⟩, r5⟩, r6⟩, r7⟩, r8⟩, r9⟩, r10⟩, r11⟩ := hr
  exact { ok := hk, rg := ⟨inR_rng (by omega) r2, inR_rng (by omega) r3, inR_rng (by omega) r4, inR_rng (by omega) r5, inR_rng (by omega) r7, inR_rng (by omega) r8, inR_rng (by omega) r9⟩, kd := by omega, n1 := by omega, q1 := y2, zn := fun t ht => by have := y4 t ht; omega, zs := y3, zd := by omega, rn := hN, rq := hQ }
theorem dec_names (s : List UInt8) : (dec s).1.names.length ≤ 1000 ∧ (dec s).1.qids.length ≤ 1000 := by
  by_cases h : (dec s).2 = 0
  · have e : dec s = ((dec s).1, 0) := by rw [← h]
    obtain ⟨h1, -, -⟩ := enc_dec e
    obtain ⟨fl, hl, ha, hs, hr, hn, hq, hi, hm⟩ := chk_zero h1
    omega
  · rw [dec_err h]
    exact ⟨Nat.zero_le _, Nat.zero_le _⟩
theorem Decodes_law (hW : Wds w0 F) {s : List UInt8} (E : Hs w0 F w l) :
    Ca PP Fn.law31_StyxDecodes #[sb s] w fun r w' => r = .bool true ∧ ∃ X, Hs w0 F w' (X ++ l) := by
  refine S.law31_StyxDecodes.calls ?_
  unfold S.law31_StyxDecodes
  refine (awake_ok hW E).mono ?_
  clear E
  rintro r w_ ⟨rfl, E⟩
  (repeat with_reducible refine Stp.go ?_)
  rw [mkB_size]
  refine Bi.gtr ?_ ?_ <;> intro c1 <;> (repeat with_reducible refine Stp.go ?_)
  · exact ⟨rfl, [], E⟩
  refine (Decode_ok hW (s := s) (by omega) E).mono ?_
  clear E
  rintro q w_ ⟨nv, qv, X, rfl, hN, hQ, E⟩
  obtain ⟨d1, d2⟩ := dec_names s
  have i1 : Scal nv := ⟨by obtain ⟨a, c, e, _⟩ := hN; rw [e]; rfl⟩
  have i2 : Scal qv := ⟨by obtain ⟨a, c, e, _⟩ := hQ; rw [e]; rfl⟩
  (repeat with_reducible first | refine Stp.go ?_ | (refine StpA.go E ?_; clear E; intro b_ w_ hb_ E))
  refine StA.all (vs := MC (dec s).1 nv qv) E rfl rfl (MR.all (x := ((dec s).1, nv, qv)) ⟨hN, hQ⟩) ?_
  clear E
  intro w_ E
  refine (rDecode_ok (s := s) (by omega) E).mono ?_
  clear E
  rintro q w_ ⟨nv2, qv2, Y, rfl, hN2, hQ2, E⟩
  have i3 : Scal nv2 := ⟨by obtain ⟨a, c, e, _⟩ := hN2; rw [e]; rfl⟩
  have i4 : Scal qv2 := ⟨by obtain ⟨a, c, e, _⟩ := hQ2; rw [e]; rfl⟩
  have E := E.perm List.perm_middle
  (repeat with_reducible first | refine Stp.go ?_ | (refine StpA.go E ?_; clear E; intro b_ w_ hb_ E))
  refine StA.all (vs := MC (dec s).1 nv2 qv2) E rfl rfl (MR.all (x := ((dec s).1, nv2, qv2)) ⟨hN2, hQ2⟩) ?_
  clear E
  intro w_ E
  (intro J20 hJ20)
  skip
  refine Bi.neq (fun h => absurd rfl h) fun _ => ?_
  (repeat with_reducible first | refine Stp.go ?_ | refine StpE.go E ?_)
  refine (Same_ok (by omega) (by omega) E (hN.weaken fun _ E => (E.tl.tl.drop (List.sublist_append_right _ _)).drop (List.sublist_append_left _ _)) (hQ.weaken fun _ E => (E.tl.tl.drop (List.sublist_append_right _ _)).drop (List.sublist_append_left _ _))
    (hN2.weaken fun _ E => E.tl.tl.drop (List.sublist_append_left _ _)) (hQ2.weaken fun _ E => E.tl.tl.drop (List.sublist_append_left _ _))).mono ?_
  clear E
  rintro r w_ ⟨rfl, E⟩
  rw [decide_eq_true rfl]
  (repeat with_reducible first | refine Stp.go ?_ | (apply hJ20; intro u_))
  refine Bi.neq (fun hc => ?_) (fun hc => ?_)
  · have hm := dec_err hc
    rw [hm] at E hN hQ hN2 hQ2
    (repeat with_reducible first | refine Stp.go ?_ | refine StpE.go E ?_)
    refine (Same_ok (a := m0) (b := m0) (n1 := nv) (q1 := qv) (n2 := nilV) (q2 := nilV) (by decide) (by decide) E (hN.weaken fun _ E => (E.tl.tl.drop (List.sublist_append_right _ _)).drop (List.sublist_append_left _ _)) (hQ.weaken fun _ E => (E.tl.tl.drop (List.sublist_append_right _ _)).drop (List.sublist_append_left _ _)) rds_nil rds_nil).mono ?_
    clear E
    rintro r w_ ⟨rfl, E⟩
    exact ⟨by rw [decide_eq_true rfl], _, by
      rw [← List.append_assoc] at E
      exact E.tl.tl⟩
  · have e : dec s = ((dec s).1, 0) := by rw [← hc]
    obtain ⟨h1, h2, h3⟩ := enc_dec e
    have hMI := chk_mi h3 h1 hN hQ
    have hsl : ∀ (a b : As) w, Hs w0 F w (a :: b :: (Y ++ (X ++ l))) → Hs w0 F w X := fun _ _ _ E => (E.tl.tl.drop (List.sublist_append_right _ _)).drop (List.sublist_append_left _ _)
    (repeat with_reducible first | refine Stp.go ?_ | refine StpE.go E ?_)
    refine (Encode_ok hW { hMI with rn := hN.weaken (hsl _ _), rq := hQ.weaken (hsl _ _) } E).mono ?_
    clear E
    rintro r w_ ⟨rfl, E⟩
    rw [h2]
    (repeat with_reducible refine Stp.go ?_)
    (intro J34 hJ34)
    (repeat first | (with_reducible first | refine Stp.go ?_) | ((with_reducible refine Bi.dec true ?_ ?_); focus exact rfl))
    refine Bi.seqT rfl ?_
    (repeat with_reducible first | refine Stp.go ?_ | refine StpE.go E ?_)
    refine (Size_ok hW { hMI with rn := hN.weaken (hsl _ _), rq := hQ.weaken (hsl _ _) } E).mono ?_
    clear E
    rintro r w_ ⟨rfl, E⟩
    rw [h2]
    (repeat with_reducible refine Stp.go ?_)
    refine Bi.eql (fun _ => ?_) (fun h => absurd (by rw [mkB_size]) h)
    (repeat with_reducible first | refine Stp.go ?_ | (apply hJ34; intro u_))
    exact ⟨rfl, _, by
      rw [← List.append_assoc] at E
      exact E.tl.tl⟩
end Go.Proofs.YtmlccboapkkcfaaDoor
