/-
  The protocol's reference: whether the numbers of a message are in their ranges.
-/
import Derived.Test.YtmlccboapkkcfaaDoorSx51
namespace Go.Proofs.YtmlccboapkkcfaaDoor
open Go Go.Sh
set_option maxRecDepth 100000
set_option linter.unusedVariables false
set_option linter.unusedSimpArgs false
variable {w0 w : World} {F : Nat → Prop} {l : List As}
section
variable {off b : Nat} {cs : List Value} {T : TypeId} {K : Value → World → Prop}
theorem rg1 {p : Bool} {x : Int} (k : Nat) (hk : k = 1 ∨ k = 2 ∨ k = 4) (E : Hs w0 F w (pt b (oc cs T) :: l)) [hx : Nth cs off (i64 x)] (hK : ∀ w', Hs w0 F w' (pt b (oc cs T) :: l) → K (.bool (p && inR x k)) w') :
    Gd (.bool p) true (fun k => Fa off (ptr b) fun a => k a w) w fun a w1 => Gd (.bool p) true (fun k => Ld a w1 fun v => k v w1) w1 fun v w2 => Gd (.bool p) true (fun c => Ca PP Fn.r31_in #[v, i64 k] w2 fun r w => c r w) w2 fun r w3 => Pk (.bool p) r (.bool false) fun r => K r w3 := by
  cases p with
  | false =>
    have := hK _ E
    (repeat with_reducible refine Stp.go ?_)
    exact this
  | true =>
    (repeat with_reducible first | refine Stp.go ?_ | refine StpE.go E ?_)
    refine (rin_ok hk E).mono ?_
    clear E
    rintro r w_ ⟨rfl, E⟩
    have := hK _ E
    (repeat with_reducible refine Stp.go ?_)
    exact this
end
theorem rranged_ok {m : Ms} {nv qv : Value} (M : MI w0 F l m nv qv) (hq : m.qids.length ≤ 1000) (E : Hs w0 F w l) :
    Ca PP Fn.r31_ranged #[.agg (MC m nv qv).toArray] w fun r w' => r = .bool (rM m) ∧ Hs w0 F w' l := by
  have i1 : Scal nv := ⟨by obtain ⟨a, c, e, _⟩ := M.rn; rw [e]; rfl⟩
  have i2 : Scal qv := ⟨by obtain ⟨a, c, e, _⟩ := M.rq; rw [e]; rfl⟩
  refine S.r31_ranged.calls ?_
  unfold S.r31_ranged
  generalize hb : rM m = r0
  unfold rM at hb
  (repeat with_reducible (refine StpA.go E ?_; clear E; intro b_ w_ hb_ E))
  (intro J3 hJ3)
  (repeat with_reducible first | refine Stp.go ?_ | refine StpE.go E ?_)
  refine (rin_ok (k := 2) (.inr (.inl rfl)) E).mono ?_
  clear E
  rintro r w_ ⟨rfl, E⟩
  refine rg1 4 (.inr (.inr rfl)) E ?_
  clear E
  intro w_ E
  refine rg1 4 (.inr (.inr rfl)) E ?_
  clear E
  intro w_ E
  refine rg1 2 (.inr (.inl rfl)) E ?_
  clear E
  intro w_ E
  refine rg1 4 (.inr (.inr rfl)) E ?_
  clear E
  intro w_ E
  generalize (inR m.tag 2 && inR m.fid 4 && inR m.other 4 && inR m.old 2 && inR m.size 4) = p at hb ⊢
  have off1 : ∀ (K : Value → World → Prop) w_, Hs w0 F w_ (pt b_ (oc (MC m nv qv) Ty.api_Msg) :: l) → (∀ w', Hs w0 F w' (pt b_ (oc (MC m nv qv) Ty.api_Msg) :: l) → K (.bool (p && decide (0 ≤ m.off))) w') →
      Gd (.bool p) true (fun k => Fa 6 (ptr b_) fun a => k a w_) w_ fun a w1 => Gd (.bool p) true (fun k => Ld a w1 fun v => k v w1) w1 fun v w2 => Gd (.bool p) true (fun c => Bi .geq v (i64 0) fun r => c r w2) w2 fun r w3 => Pk (.bool p) r (.bool false) fun r => K r w3 := by
    intro K w_ E hK
    have := hK _ E
    cases p with
    | false =>
      (repeat with_reducible refine Stp.go ?_)
      exact this
    | true =>
      (repeat with_reducible first | refine Stp.go ?_ | refine StpE.go E ?_)
      refine Bi.geq (fun c => ?_) (fun c => ?_) <;> (repeat with_reducible refine Stp.go ?_)
      · rwa [decide_eq_true (by omega)] at this
      · rwa [decide_eq_false (by omega)] at this
  refine off1 _ _ E ?_
  clear E off1
  intro w_ E
  refine rg1 1 (.inl rfl) E ?_
  clear E
  intro w_ E
  refine rg1 4 (.inr (.inr rfl)) E ?_
  clear E
  intro w_ E
  refine rg1 2 (.inr (.inl rfl)) E ?_
  clear E
  intro w_ E
  generalize (p && decide (0 ≤ m.off) && inR m.mode 1 && inR m.perm 4 && inR m.code 2) = p at hb ⊢
  have fin3 : ∀ b w_, b = (p && rD m.dir) → Hs w0 F w_ (pt b_ (oc (MC m nv qv) Ty.api_Msg) :: l) → J3 [.bool b] w_ := by
    intro b w_ h E
    rw [← h] at hb
    apply hJ3
    intro u_
    clear hJ3
    refine ⟨fun l1 w1 => ∃ i : Nat, l1 = [.bool (b && (m.qids.take i).all rQ), i64 i] ∧ i ≤ m.qids.length ∧ Hs w0 F w1 (pt b_ (oc (MC m nv qv) Ty.api_Msg) :: l), fun l1 _ => match l1 with | [_, .int _ i] => m.qids.length - i.toNat | _ => 0, ⟨0, by simp, Nat.zero_le _, E⟩, ?_⟩
    clear E
    rintro t3 t4 u1 w1 ⟨i, e, hi, E⟩
    cases e
    (repeat with_reducible first | refine Stp.go ?_ | refine StpE.go E ?_)
    refine M.rq.len ?_
    refine Bi.lss ?_ ?_ <;> intro hlt <;> (repeat with_reducible refine Stp.go ?_)
    · have g1 : i < m.qids.length := by omega
      have hst : (b && (m.qids.take (i + 1)).all rQ) = (b && (m.qids.take i).all rQ && rQ m.qids[i]) := by
        rw [List.take_add_one, List.getElem?_eq_getElem g1, List.all_append, Bool.and_assoc]; simp
      (intro J17 hJ17)
      have fin17 : ∀ w_, Hs w0 F w_ (pt b_ (oc (MC m nv qv) Ty.api_Msg) :: l) → J17 [.bool (b && (m.qids.take i).all rQ && rQ m.qids[i])] w_ := by
        intro w_ E
        apply hJ17
        intro u_
        refine Bi.add (by omega) ?_
        exact ⟨⟨i + 1, by rw [hst]; simp, by omega, E⟩, by simp only []; omega⟩
      clear hJ17
      generalize (b && (m.qids.take i).all rQ) = c at fin17 ⊢
      cases c with
      | false =>
        (repeat with_reducible refine Stp.go ?_)
        exact fin17 _ E
      | true =>
        (repeat with_reducible first | refine Stp.go ?_ | refine StpE.go E ?_)
        refine (M.rq.cons (pt b_ (oc (MC m nv qv) Ty.api_Msg))).ix (by omega) (by omega) (by omega) ?_
        intro a ha
        (repeat with_reducible refine Stp.go ?_)
        rw [Int.toNat_natCast, qqs_at g1] at ha
        refine ha.lda E (m := 3) (ds := qcs m.qids[i]) rfl rfl (by omega) ?_
        (repeat with_reducible refine Stp.go ?_)
        refine (rrightQid_ok (q := m.qids[i]) E).mono ?_
        clear E
        rintro r w_ ⟨rfl, E⟩
        (repeat with_reducible refine Stp.go ?_)
        exact fin17 _ E
    · rw [List.take_of_length_le (by omega), hb]
      exact ⟨rfl, E.tl⟩
  clear hJ3
  cases p with
  | false =>
    (repeat with_reducible refine Stp.go ?_)
    exact fin3 _ _ rfl E
  | true =>
    (repeat with_reducible first | refine Stp.go ?_ | refine StpE.go E ?_)
    refine (rrightDir_ok (d := m.dir) E).mono ?_
    clear E
    rintro r w_ ⟨rfl, E⟩
    (repeat with_reducible refine Stp.go ?_)
    exact fin3 _ _ rfl E
end Go.Proofs.YtmlccboapkkcfaaDoor

/-
  The protocol's reference: the number of bytes of an encoding; Check and Size.
-/
namespace Go.Proofs.YtmlccboapkkcfaaDoor
open Go Go.Sh
set_option maxRecDepth 100000
set_option linter.unusedVariables false
set_option linter.unusedSimpArgs false
variable {w0 w : World} {F : Nat → Prop} {l : List As}
/-- A message whose texts are small. -/
structure MS (w0 : World) (F : Nat → Prop) (l : List As) (m : Ms) (nv qv : Value) : Prop extends MI w0 F l m nv qv where
  nb : ∀ t ∈ m.names, t.length ≤ 1048576
  db : m.dir.name.length ≤ 1048576 ∧ m.dir.owner.length ≤ 1048576 ∧ m.dir.group.length ≤ 1048576 ∧ m.dir.last.length ≤ 1048576
theorem MS.dB {m : Ms} {nv qv : Value} (M : MS w0 F l m nv qv) : DB m.dir := by
  obtain ⟨h1, h2, h3, h4⟩ := M.db
  exact ⟨by omega, by omega, by omega, by omega⟩
theorem MS.cons {m : Ms} {nv qv : Value} (M : MS w0 F l m nv qv) (A : As) : MS w0 F (A :: l) m nv qv := { M with rn := M.rn.cons A, rq := M.rq.cons A }
theorem nm_sum : ∀ {xs : List (List UInt8)}, (∀ t ∈ xs, t.length ≤ 1048576) → (xs.map fun s => 2 + s.length).sum ≤ xs.length * 1048578
  | [], _ => by simp
  | x :: r, h => by
    have h1 := nm_sum (xs := r) fun t ht => h t (List.mem_cons_of_mem _ ht)
    have h2 := h x List.mem_cons_self
    rw [List.map_cons, List.sum_cons, List.length_cons]
    omega
theorem rmF_le {m : Ms} {nv qv : Value} (M : MS w0 F l m nv qv) (f : Fl) : rmF m f ≤ 2000000000 := by
  obtain ⟨h1, h2, h3, h4⟩ := M.db
  obtain ⟨h5, h6, h7, h8, h9⟩ := M.zs
  have h10 := M.n1
  have h11 := M.q1
  have h12 := nm_sum M.nb
  cases f <;> simp only [rmF, Go.Proofs.YtmlccboapkkcfaaDoor.dB] <;> omega
theorem rm_sum {m : Ms} {nv qv : Value} (M : MS w0 F l m nv qv) : ∀ fl : List Fl, (fl.map (rmF m)).sum ≤ fl.length * 2000000000
  | [] => by simp
  | f :: r => by
    have h1 := rm_sum M r
    have h2 := rmF_le M f
    rw [List.map_cons, List.sum_cons, List.length_cons]
    omega
theorem rroom_ok {m : Ms} {nv qv : Value} {fl : List Fl} (hl : fl.length ≤ 1000) (M : MS w0 F l m nv qv) (E : Hs w0 F w l) :
    Ca PP Fn.r31_room #[.agg (MC m nv qv).toArray, sb (fl.map ltr)] w fun r w' => r = i64 (room m fl : Nat) ∧ Hs w0 F w' l := by
  have i1 : Scal nv := ⟨by obtain ⟨a, c, e, _⟩ := M.rn; rw [e]; rfl⟩
  have i2 : Scal qv := ⟨by obtain ⟨a, c, e, _⟩ := M.rq; rw [e]; rfl⟩
  refine S.r31_room.calls ?_
  unfold S.r31_room
  (repeat with_reducible (refine StpA.go E ?_; clear E; intro b_ w_ hb_ E))
  refine ⟨fun l1 w1 => ∃ i : Nat, l1 = [i64 (room m (fl.take i) : Nat), i64 i] ∧ i ≤ fl.length ∧ Hs w0 F w1 (pt b_ (oc (MC m nv qv) Ty.api_Msg) :: l), fun l1 _ => match l1 with | [_, .int _ i] => fl.length - i.toNat | _ => 0, ⟨0, rfl, Nat.zero_le _, E⟩, ?_⟩
  clear E
  rintro t5 t6 u1 w1 ⟨i, e, hi, E⟩
  cases e
  (repeat with_reducible refine Stp.go ?_)
  rw [mkB_size, List.length_map]
  refine Bi.lss ?_ ?_ <;> intro hlt <;> (repeat with_reducible refine Stp.go ?_)
  · have g1 : i < fl.length := by omega
    have hsum : room m (fl.take (i + 1)) = room m (fl.take i) + rmF m fl[i] := by
      unfold room
      rw [List.take_add_one, List.getElem?_eq_getElem g1, List.map_append, List.sum_append]
      simp only [Option.toList, List.map_cons, List.map_nil, List.sum_cons, List.sum_nil]
      omega
    have hb : room m (fl.take i) ≤ 3000000000000 := by
      have := rm_sum M (fl.take i)
      rw [List.length_take] at this
      unfold room; omega
    have hfb := rmF_le M fl[i]
    (intro J11 hJ11)
    have fin11 : ∀ (n : Int) w_, n = (room m (fl.take i) + rmF m fl[i] : Nat) → Hs w0 F w_ (pt b_ (oc (MC m nv qv) Ty.api_Msg) :: l) → J11 [i64 n] w_ := by
      intro n w_ h E
      apply hJ11
      intro u_
      refine Bi.add (by omega) ?_
      exact ⟨⟨i + 1, by rw [hsum, h]; rfl, by omega, E⟩, by simp only []; omega⟩
    clear hJ11
    refine IxS.mk (b := ltr fl[i]) (by omega) (by rw [Int.toNat_natCast]; show (fl.map ltr).toArray[i]? = _; rw [List.getElem?_toArray, List.getElem?_map, List.getElem?_eq_getElem g1]; rfl) ?_
    generalize fl[i] = f at hfb fin11 ⊢
    generalize room m (fl.take i) = n0 at hb fin11 ⊢
    clear hsum
    cases f
    all_goals simp only [rmF, Go.Proofs.YtmlccboapkkcfaaDoor.dB] at fin11 hfb
    case xS | xf | xo | xp | xc | xd | xm | xO | xq =>
      (repeat first | (with_reducible first | refine Stp.go ?_ | (apply hJ_; intro u_)) | ((with_reducible refine Bi.dec true ?_ ?_); focus exact rfl) | ((with_reducible refine Bi.dec false ?_ ?_); focus exact rfl) | (intro J_ hJ_))
      refine Bi.add (by omega) ?_
      exact fin11 _ _ (by omega) E
    case xv | xu | xt | xN | xD =>
      (repeat first | (with_reducible first | refine Stp.go ?_ | (apply hJ_; intro u_)) | ((with_reducible refine Bi.dec true ?_ ?_); focus exact rfl) | ((with_reducible refine Bi.dec false ?_ ?_); focus exact rfl) | (intro J_ hJ_))
      refine Bi.add (by omega) ?_
      (repeat with_reducible first | refine Stp.go ?_ | refine StpE.go E ?_)
      rw [mkB_size]
      refine Bi.add (by omega) ?_
      exact fin11 _ _ (by omega) E
    case xQ =>
      (repeat first | (with_reducible first | refine Stp.go ?_ | (apply hJ_; intro u_)) | ((with_reducible refine Bi.dec true ?_ ?_); focus exact rfl) | ((with_reducible refine Bi.dec false ?_ ?_); focus exact rfl) | (intro J_ hJ_))
      refine Bi.add (by omega) ?_
      (repeat with_reducible first | refine Stp.go ?_ | refine StpE.go E ?_)
      refine M.rq.len ?_
      refine Bi.mul (by omega) ?_
      refine Bi.add (by omega) ?_
      exact fin11 _ _ (by omega) E
    case xi =>
      (repeat first | (with_reducible first | refine Stp.go ?_ | refine StpE.go E ?_ | (apply hJ_; intro u_)) | ((with_reducible refine Bi.dec true ?_ ?_); focus exact rfl) | ((with_reducible refine Bi.dec false ?_ ?_); focus exact rfl) | (intro J_ hJ_))
      refine (rdirBytes_ok M.dB E).mono ?_
      clear E
      rintro r w_ ⟨rfl, E⟩
      unfold Go.Proofs.YtmlccboapkkcfaaDoor.dB
      refine Bi.add (by omega) ?_
      exact fin11 _ _ (by omega) E
    case xn =>
      (repeat first | (with_reducible first | refine Stp.go ?_ | (apply hJ_; intro u_)) | ((with_reducible refine Bi.dec true ?_ ?_); focus exact rfl) | ((with_reducible refine Bi.dec false ?_ ?_); focus exact rfl) | (intro J_ hJ_))
      refine Bi.add (by omega) ?_
      have hn1 := M.n1
      refine ⟨fun l1 w1 => ∃ j : Nat, l1 = [i64 ((n0 + 2 + ((m.names.take j).map fun s => 2 + s.length).sum : Nat) : Int), i64 j] ∧ j ≤ m.names.length ∧ Hs w0 F w1 (pt b_ (oc (MC m nv qv) Ty.api_Msg) :: l), fun l1 _ => match l1 with | [_, .int _ j] => m.names.length - j.toNat | _ => 0, ⟨0, by simp, Nat.zero_le _, E⟩, ?_⟩
      clear E
      rintro t5 t7 u2 w2 ⟨j, e, hj, E⟩
      cases e
      (repeat with_reducible first | refine Stp.go ?_ | refine StpE.go E ?_)
      refine M.rn.len ?_
      refine Bi.lss ?_ ?_ <;> intro hlt2 <;> (repeat with_reducible refine Stp.go ?_)
      · have g2 : j < m.names.length := by omega
        have hsum : ((m.names.take (j + 1)).map fun s => 2 + s.length).sum = ((m.names.take j).map fun s => 2 + s.length).sum + (2 + m.names[j].length) := by
          rw [List.take_add_one, List.getElem?_eq_getElem g2, List.map_append, List.sum_append]
          simp only [Option.toList, List.map_cons, List.map_nil, List.sum_cons, List.sum_nil]
          omega
        have hjb := nm_sum (xs := m.names.take j) fun t ht => M.nb t (List.mem_of_mem_take ht)
        rw [List.length_take] at hjb
        have hx := M.nb _ (List.getElem_mem g2)
        have hd : ((m.names.map sb).drop (((j : Int)).toNat * 1))[0]? = some (sb m.names[j]) := by
          rw [Int.toNat_natCast, Nat.mul_one, List.getElem?_drop, Nat.add_zero, List.getElem?_map, List.getElem?_eq_getElem g2]; rfl
        refine Bi.add (by omega) ?_
        (repeat with_reducible first | refine Stp.go ?_ | refine StpE.go E ?_)
        refine (M.rn.cons (pt b_ (oc (MC m nv qv) Ty.api_Msg))).ix (by omega) (by omega) (by omega) ?_
        intro a ha
        refine ha.ld E hd ?_
        (repeat with_reducible refine Stp.go ?_)
        rw [mkB_size]
        refine Bi.add (by omega) ?_
        refine Bi.add (by omega) ?_
        refine ⟨⟨j + 1, ?_, by omega, E⟩, by simp only []; omega⟩
        rw [hsum]
        have e1 : ((n0 + 2 + ((m.names.take j).map fun s => 2 + s.length).sum : Nat) : Int) + 2 + (m.names[j].length : Nat) = ((n0 + 2 + (((m.names.take j).map fun s => 2 + s.length).sum + (2 + m.names[j].length)) : Nat) : Int) := by omega
        rw [e1]
        rfl
      · rw [List.take_of_length_le (by omega)]
        exact fin11 _ _ (by omega) E
  · refine ⟨?_, E.tl⟩
    rw [List.take_of_length_le (by omega)]
end Go.Proofs.YtmlccboapkkcfaaDoor

/-
  The protocol's reference: Check, Size and Encode.
-/
namespace Go.Proofs.YtmlccboapkkcfaaDoor
open Go Go.Sh
set_option maxRecDepth 100000
set_option linter.unusedVariables false
set_option linter.unusedSimpArgs false
variable {w0 w : World} {F : Nat → Prop} {l : List As}
theorem fls_len {k : Int} {fl : List Fl} (h : fls k = some fl) : fl.length ≤ 4 := by
  have key : ∀ l ∈ allL, l.length ≤ 4 := by decide
  exact key _ (fls_mem h)
theorem rf_some {k : Int} {fl : List Fl} (h : fls k = some fl) : rf k = (fl.map ltr, true) := by unfold rf; rw [h]
theorem rf_none {k : Int} (h : fls k = none) : rf k = ([], false) := by unfold rf; rw [h]
theorem rCheck_ok {m : Ms} {nv qv : Value} (M : MS w0 F l m nv qv) (E : Hs w0 F w l) :
    Ca PP Fn.r31_Check #[.agg (MC m nv qv).toArray] w fun r w' => r = i64 (chk m) ∧ Hs w0 F w' l := by
  have i1 : Scal nv := ⟨by obtain ⟨a, c, e, _⟩ := M.rn; rw [e]; rfl⟩
  have i2 : Scal qv := ⟨by obtain ⟨a, c, e, _⟩ := M.rq; rw [e]; rfl⟩
  refine S.r31_Check.calls ?_
  unfold S.r31_Check
  generalize hc : chk m = c
  unfold chk at hc
  (repeat with_reducible first | refine Stp.go ?_ | refine StpE.go E ?_ | (refine StpA.go E ?_; clear E; intro b_ w_ hb_ E))
  refine (rFields_ok E).mono ?_
  clear E
  rintro r w_ ⟨rfl, E⟩
  cases hf : fls m.kind with
  | none =>
    rw [hf] at hc
    rw [rf_none hf]
    (repeat with_reducible refine Stp.go ?_)
    exact ⟨by rw [← hc], E.tl⟩
  | some fl =>
  have h4 := fls_len hf
  rw [hf] at hc
  rw [rf_some hf]
  simp only [] at hc
  (repeat with_reducible first | refine Stp.go ?_ | refine StpE.go E ?_)
  refine (rshaped_ok (by omega) (M.toMI.cons _) E).mono ?_
  clear E
  rintro r w_ ⟨rfl, E⟩
  cases hs : shp m fl with
  | false =>
    rw [hs] at hc
    (repeat with_reducible refine Stp.go ?_)
    exact ⟨by rw [← hc]; rfl, E.tl⟩
  | true =>
  rw [hs] at hc
  (repeat with_reducible first | refine Stp.go ?_ | refine StpE.go E ?_)
  refine (rranged_ok (M.toMI.cons _) M.q1 E).mono ?_
  clear E
  rintro r w_ ⟨rfl, E⟩
  cases hr : rM m with
  | false =>
    rw [hr] at hc
    (repeat with_reducible refine Stp.go ?_)
    exact ⟨by rw [← hc]; rfl, E.tl⟩
  | true =>
  rw [hr] at hc
  simp only [Bool.not_true, Bool.false_eq_true, if_false] at hc
  (repeat with_reducible refine Stp.go ?_)
  (intro J18 hJ18)
  have big : ∀ w_, m.names.length > 16 ∨ m.qids.length > 16 ∨ (fl.contains .xi = true ∧ dB m.dir > 1024) ∨ room m fl > 8192 → Hs w0 F w_ (pt b_ (oc (MC m nv qv) Ty.api_Msg) :: l) → J18 [.bool true] w_ := by
    intro w_ h E
    rw [if_pos h] at hc
    (repeat with_reducible first | refine Stp.go ?_ | (apply hJ18; intro u_))
    exact ⟨by rw [← hc], E.tl⟩
  have small : ∀ w_, ¬ (m.names.length > 16 ∨ m.qids.length > 16 ∨ (fl.contains .xi = true ∧ dB m.dir > 1024) ∨ room m fl > 8192) → Hs w0 F w_ (pt b_ (oc (MC m nv qv) Ty.api_Msg) :: l) → J18 [.bool false] w_ := by
    intro w_ h E
    rw [if_neg h] at hc
    (repeat with_reducible first | refine Stp.go ?_ | (apply hJ18; intro u_))
    exact ⟨by rw [← hc], E.tl⟩
  clear hJ18
  (repeat with_reducible first | refine Stp.go ?_ | refine StpE.go E ?_)
  refine M.rn.len ?_
  refine Bi.gtr ?_ ?_ <;> intro c1 <;> (repeat with_reducible first | refine Stp.go ?_ | refine StpE.go E ?_)
  · exact big _ (.inl (by omega)) E
  refine M.rq.len ?_
  (repeat with_reducible refine Stp.go ?_)
  refine Bi.gtr ?_ ?_ <;> intro c2 <;> (repeat with_reducible refine Stp.go ?_)
  · exact big _ (.inr (.inl (by omega))) E
  refine (has_ok .xi rfl (by omega) E).mono ?_
  clear E
  rintro r w_ ⟨rfl, E⟩
  have last : ∀ w_, ¬ (fl.contains .xi = true ∧ dB m.dir > 1024) → Hs w0 F w_ (pt b_ (oc (MC m nv qv) Ty.api_Msg) :: l) →
      Ca PP Fn.r31_room #[.agg (MC m nv qv).toArray, sb (fl.map ltr)] w_ fun t w => Bi .gtr t (i64 8192) fun b => J18 [b] w := by
    intro w_ h E
    refine (rroom_ok (by omega) (M.cons _) E).mono ?_
    clear E
    rintro r w_ ⟨rfl, E⟩
    refine Bi.gtr ?_ ?_ <;> intro c3
    · exact big _ (.inr (.inr (.inr (by omega)))) E
    · exact small _ (by rintro (h1 | h1 | h1 | h1); omega; omega; exact h h1; omega) E
  have fin : ∀ w_ (K : Value → World → Prop), ¬ (fl.contains .xi = true ∧ dB m.dir > 1024) → Hs w0 F w_ (pt b_ (oc (MC m nv qv) Ty.api_Msg) :: l) →
      (∀ t w', Bi .gtr t (i64 8192) (fun b => J18 [b] w') → K t w') → Ca PP Fn.r31_room #[.agg (MC m nv qv).toArray, sb (fl.map ltr)] w_ K :=
    fun w_ K h E hk => (last w_ h E).mono hk
  cases hi : fl.contains .xi with
  | false =>
    (repeat with_reducible first | refine Stp.go ?_ | refine StpE.go E ?_)
    refine fin _ _ (by rw [hi]; rintro ⟨h, _⟩; cases h) E ?_
    intro t w' h
    (repeat with_reducible refine Stp.go ?_)
    obtain ⟨v, h1, h2⟩ := h
    refine ⟨v, h1, ?_⟩
    (repeat with_reducible refine Stp.go ?_)
    exact h2
  | true =>
    (repeat with_reducible first | refine Stp.go ?_ | refine StpE.go E ?_)
    refine (rdirBytes_ok M.dB E).mono ?_
    clear E
    rintro r w_ ⟨rfl, E⟩
    (repeat with_reducible refine Stp.go ?_)
    refine Bi.gtr ?_ ?_ <;> intro c3 <;> (repeat with_reducible first | refine Stp.go ?_ | refine StpE.go E ?_)
    · exact big _ (.inr (.inr (.inl ⟨hi, by omega⟩))) E
    · refine fin _ _ (by rintro ⟨_, h⟩; omega) E ?_
      intro t w' h
      (repeat with_reducible refine Stp.go ?_)
      obtain ⟨v, h1, h2⟩ := h
      refine ⟨v, h1, ?_⟩
      (repeat with_reducible refine Stp.go ?_)
      exact h2
theorem rSize_ok {m : Ms} {nv qv : Value} (M : MS w0 F l m nv qv) (E : Hs w0 F w l) :
    Ca PP Fn.r31_Size #[.agg (MC m nv qv).toArray] w fun r w' => r = i64 ((enc m).1.length : Nat) ∧ Hs w0 F w' l := by
  have i1 : Scal nv := ⟨by obtain ⟨a, c, e, _⟩ := M.rn; rw [e]; rfl⟩
  have i2 : Scal qv := ⟨by obtain ⟨a, c, e, _⟩ := M.rq; rw [e]; rfl⟩
  refine S.r31_Size.calls ?_
  unfold S.r31_Size
  (repeat with_reducible first | refine StpE.go E ?_ | (refine StpA.go E ?_; clear E; intro b_ w_ hb_ E))
  refine (rCheck_ok (M.cons _) E).mono ?_
  clear E
  rintro r w_ ⟨rfl, E⟩
  refine Bi.neq ?_ ?_ <;> intro c <;> (repeat with_reducible first | refine Stp.go ?_ | refine StpE.go E ?_)
  · refine ⟨?_, E.tl⟩
    unfold enc
    rw [if_neg c]
    rfl
  · obtain ⟨fl, hf, hm, hs, -⟩ := chk_zero c
    refine (rFields_ok E).mono ?_
    clear E
    rintro r w_ ⟨rfl, E⟩
    rw [rf_some hf]
    (repeat with_reducible first | refine Stp.go ?_ | refine StpE.go E ?_)
    refine (rroom_ok (by have := fls_len hf; omega) (M.cons _) E).mono ?_
    clear E
    rintro r w_ ⟨rfl, E⟩
    refine ⟨?_, E.tl⟩
    unfold enc
    rw [if_pos c, hf, ← eFs_len hs]
    simp only [Option.getD_some, eM, List.length_append, le_length]
theorem eFs_take {m : Ms} {fl : List Fl} {i : Nat} (h : i < fl.length) : eFs m (fl.take (i + 1)) = eFs m (fl.take i) ++ eF m fl[i] := by
  unfold eFs
  rw [List.take_add_one, List.getElem?_eq_getElem h, List.map_append, List.flatten_append]
  simp
theorem rEncode_ok {m : Ms} {nv qv : Value} (M : MS w0 F l m nv qv) (E : Hs w0 F w l) :
    Ca PP Fn.r31_Encode #[.agg (MC m nv qv).toArray] w fun r w' => r = .tuple #[sb (enc m).1, i64 (enc m).2] ∧ Hs w0 F w' l := by
  have i1 : Scal nv := ⟨by obtain ⟨a, c, e, _⟩ := M.rn; rw [e]; rfl⟩
  have i2 : Scal qv := ⟨by obtain ⟨a, c, e, _⟩ := M.rq; rw [e]; rfl⟩
  refine S.r31_Encode.calls ?_
  unfold S.r31_Encode
  (repeat with_reducible first | refine StpE.go E ?_ | (refine StpA.go E ?_; clear E; intro b_ w_ hb_ E))
  refine (rCheck_ok (M.cons _) E).mono ?_
  clear E
  rintro r w_ ⟨rfl, E⟩
  refine Bi.neq ?_ ?_ <;> intro c <;> (repeat with_reducible first | refine Stp.go ?_ | refine StpE.go E ?_)
  · unfold enc
    rw [if_neg c]
    exact ⟨rfl, E.tl⟩
  obtain ⟨fl, hf, hm, hs, hr, hn, hq, hi, hrm⟩ := chk_zero c
  have hlen := eFs_len hs
  have henc : enc m = (eM m fl, 0) := by unfold enc; rw [if_pos c, hf]; rfl
  rw [henc]
  have h4 := fls_len hf
  refine (rFields_ok E).mono ?_
  clear E
  rintro r w_ ⟨rfl, E⟩
  rw [rf_some hf]
  (repeat with_reducible first | refine Stp.go ?_ | refine StpE.go E ?_ | (refine StpW.go E ?_; clear E; intro w_ E))
  refine (rroom_ok (by omega) (M.cons _) E).mono ?_
  clear E
  rintro r w_ ⟨rfl, E⟩
  (repeat (with_reducible refine And.intro ?_ ?_; focus ((repeat with_reducible refine StpE.go E ?_); exact rfl)))
  refine (rnumber_ok (k := 4) (by omega) E).mono ?_
  clear E
  rintro r w_ ⟨rfl, E⟩
  (repeat (with_reducible refine And.intro ?_ ?_; focus ((repeat with_reducible refine StpE.go E ?_); exact rfl)))
  refine (rnumber_ok (k := 1) (by omega) E).mono ?_
  clear E
  rintro r w_ ⟨rfl, E⟩
  (repeat (with_reducible refine And.intro ?_ ?_; focus ((repeat with_reducible refine StpE.go E ?_); exact rfl)))
  refine Bi.sadd (by simp only [mkB_size, le_length]; omega) ?_
  rw [mkB_app]
  refine (rnumber_ok (k := 2) (by omega) E).mono ?_
  clear E
  rintro r w_ ⟨rfl, E⟩
  refine Bi.sadd (by simp only [mkB_size, List.length_append, le_length]; omega) ?_
  rw [mkB_app]
  have hH : ∀ x, (le ((room m fl : Nat) : Int) 4 ++ le m.kind 1 ++ le m.tag 2) ++ x = le ((7 + (eFs m fl).length : Nat) : Int) 4 ++ le m.kind 1 ++ le m.tag 2 ++ x := by rw [hlen]; intro _; rfl
  generalize hHd : le ((room m fl : Nat) : Int) 4 ++ le m.kind 1 ++ le m.tag 2 = Hd at hH ⊢
  have hHl : Hd.length = 7 := by rw [← hHd]; simp only [List.length_append, le_length]
  have hem : eM m fl = Hd ++ eFs m fl := by rw [hH]; rfl
  rw [hem]
  refine ⟨fun l1 w1 => ∃ i : Nat, l1 = [sb (Hd ++ eFs m (fl.take i)), i64 i] ∧ i ≤ fl.length ∧ Hs w0 F w1 (pt b_ (oc (MC m nv qv) Ty.api_Msg) :: l), fun l1 _ => match l1 with | [_, .int _ i] => fl.length - i.toNat | _ => 0, ⟨0, by simp [eFs], Nat.zero_le _, E⟩, ?_⟩
  clear E
  rintro t7 t8 u1 w1 ⟨i, e, hi2, E⟩
  cases e
  (repeat with_reducible refine Stp.go ?_)
  rw [mkB_size, List.length_map]
  refine Bi.lss ?_ ?_ <;> intro hlt <;> (repeat with_reducible refine Stp.go ?_)
  · have g1 : i < fl.length := by omega
    have hst := eFs_take (m := m) g1
    have hq1 : fl[i] = .xq → ∃ x, m.qids = [x] := fun e => shp_q hs (e ▸ List.getElem_mem g1)
    have hfl := rm_len (m := m) (f := fl[i]) hq1
    have hfb := rmF_le M fl[i]
    have hpre : (eFs m (fl.take i)).length ≤ 8192 := by
      have e : eFs m fl = eFs m (fl.take i) ++ eFs m (fl.drop i) := by
        unfold eFs
        rw [← List.flatten_append, ← List.map_append, List.take_append_drop]
      have := congrArg List.length e
      rw [List.length_append] at this
      omega
    (intro J42 hJ42)
    have fin42 : ∀ (x : List UInt8) w_, x = eF m fl[i] → Hs w0 F w_ (pt b_ (oc (MC m nv qv) Ty.api_Msg) :: l) → Bi .add (sb (Hd ++ eFs m (fl.take i))) (sb x) fun t => J42 [t] w_ := by
      intro x w_ h E
      subst h
      refine Bi.sadd (by simp only [mkB_size, List.length_append]; omega) ?_
      rw [mkB_app]
      apply hJ42
      intro u_
      refine Bi.add (by omega) ?_
      exact ⟨⟨i + 1, by rw [hst, List.append_assoc]; rfl, by omega, E⟩, by simp only []; omega⟩
    have fin43 : ∀ (x : List UInt8) w_, x = eF m fl[i] → Hs w0 F w_ (pt b_ (oc (MC m nv qv) Ty.api_Msg) :: l) → J42 [sb (Hd ++ eFs m (fl.take i) ++ x)] w_ := by
      intro x w_ h E
      subst h
      apply hJ42
      intro u_
      refine Bi.add (by omega) ?_
      exact ⟨⟨i + 1, by rw [hst, List.append_assoc]; rfl, by omega, E⟩, by simp only []; omega⟩
    clear hJ42
    refine IxS.mk (b := ltr fl[i]) (by omega) (by rw [Int.toNat_natCast]; show (fl.map ltr).toArray[i]? = _; rw [List.getElem?_toArray, List.getElem?_map, List.getElem?_eq_getElem g1]; rfl) ?_
    generalize fl[i] = f at hfb hfl hq1 fin42 fin43 ⊢
    have hpl : (Hd ++ eFs m (fl.take i)).length ≤ 9000 := by rw [List.length_append]; omega
    generalize Hd ++ eFs m (fl.take i) = P at fin42 fin43 hpl ⊢
    clear hst
    obtain ⟨z1, z2, z3, z4, z5⟩ := M.zs
    cases f
    case xS | xf | xo | xp =>
      (repeat first | (with_reducible first | refine Stp.go ?_ | refine StpE.go E ?_) | ((with_reducible refine Bi.dec true ?_ ?_); focus exact rfl) | ((with_reducible refine Bi.dec false ?_ ?_); focus exact rfl))
      refine (rnumber_ok (k := 4) (by omega) E).mono ?_
      clear E
      rintro r w_ ⟨rfl, E⟩
      exact fin42 _ _ rfl E
    case xc | xd =>
      (repeat first | (with_reducible first | refine Stp.go ?_ | refine StpE.go E ?_) | ((with_reducible refine Bi.dec true ?_ ?_); focus exact rfl) | ((with_reducible refine Bi.dec false ?_ ?_); focus exact rfl))
      refine (rnumber_ok (k := 2) (by omega) E).mono ?_
      clear E
      rintro r w_ ⟨rfl, E⟩
      exact fin42 _ _ rfl E
    case xm =>
      (repeat first | (with_reducible first | refine Stp.go ?_ | refine StpE.go E ?_) | ((with_reducible refine Bi.dec true ?_ ?_); focus exact rfl) | ((with_reducible refine Bi.dec false ?_ ?_); focus exact rfl))
      refine (rnumber_ok (k := 1) (by omega) E).mono ?_
      clear E
      rintro r w_ ⟨rfl, E⟩
      exact fin42 _ _ rfl E
    case xO =>
      (repeat first | (with_reducible first | refine Stp.go ?_ | refine StpE.go E ?_) | ((with_reducible refine Bi.dec true ?_ ?_); focus exact rfl) | ((with_reducible refine Bi.dec false ?_ ?_); focus exact rfl))
      refine (rnumber_ok (k := 8) (by omega) E).mono ?_
      clear E
      rintro r w_ ⟨rfl, E⟩
      exact fin42 _ _ rfl E
    case xv | xu | xt | xN =>
      (repeat first | (with_reducible first | refine Stp.go ?_ | refine StpE.go E ?_) | ((with_reducible refine Bi.dec true ?_ ?_); focus exact rfl) | ((with_reducible refine Bi.dec false ?_ ?_); focus exact rfl))
      refine (rword_ok (by omega) E).mono ?_
      clear E
      rintro r w_ ⟨rfl, E⟩
      exact fin42 _ _ rfl E
    case xD =>
      (repeat first | (with_reducible first | refine Stp.go ?_ | refine StpE.go E ?_ | (refine StpW.go E ?_; clear E; intro w_ E)) | ((with_reducible refine Bi.dec true ?_ ?_); focus exact rfl) | ((with_reducible refine Bi.dec false ?_ ?_); focus exact rfl))
      rw [mkB_size]
      refine (rnumber_ok (k := 4) (by omega) E).mono ?_
      clear E
      rintro r w_ ⟨rfl, E⟩
      (repeat (with_reducible refine And.intro ?_ ?_; focus ((repeat with_reducible refine StpE.go E ?_); exact rfl)))
      refine Bi.sadd (by simp only [mkB_size, List.length_append, le_length]; omega) ?_
      rw [mkB_app]
      refine Bi.sadd (by simp only [mkB_size, List.length_append, le_length]; omega) ?_
      rw [mkB_app, List.append_assoc]
      exact fin43 _ _ rfl E
    case xq =>
      (repeat first | (with_reducible first | refine Stp.go ?_ | refine StpE.go E ?_) | ((with_reducible refine Bi.dec true ?_ ?_); focus exact rfl) | ((with_reducible refine Bi.dec false ?_ ?_); focus exact rfl))
      obtain ⟨x, hx⟩ := hq1 rfl
      have hrq := M.rq
      rw [hx] at hrq
      refine (hrq.cons (pt b_ (oc (MC m nv qv) Ty.api_Msg))).ix (by omega) (by simp) (by omega) ?_
      intro a ha
      refine ha.lda E (m := 3) (ds := qcs x) rfl rfl (by omega) ?_
      refine (rqid_ok (q := x) E).mono ?_
      clear E
      rintro r w_ ⟨rfl, E⟩
      exact fin42 _ _ (by simp only [eF, hx]) E
    case xQ =>
      (repeat first | (with_reducible first | refine Stp.go ?_ | refine StpE.go E ?_) | ((with_reducible refine Bi.dec true ?_ ?_); focus exact rfl) | ((with_reducible refine Bi.dec false ?_ ?_); focus exact rfl))
      refine M.rq.len ?_
      refine (rnumber_ok (k := 2) (by omega) E).mono ?_
      clear E
      rintro r w_ ⟨rfl, E⟩
      refine Bi.sadd (by simp only [mkB_size, le_length]; omega) ?_
      rw [mkB_app]
      refine ⟨fun l1 w1 => ∃ j : Nat, l1 = [sb (P ++ (le (m.qids.length : Nat) 2 ++ ((m.qids.take j).map eQ).flatten)), i64 j] ∧ j ≤ m.qids.length ∧ Hs w0 F w1 (pt b_ (oc (MC m nv qv) Ty.api_Msg) :: l), fun l1 _ => match l1 with | [_, .int _ j] => m.qids.length - j.toNat | _ => 0, ⟨0, by simp, Nat.zero_le _, E⟩, ?_⟩
      clear E
      rintro t7 t9 u2 w2 ⟨j, e, hj, E⟩
      cases e
      (repeat with_reducible first | refine Stp.go ?_ | refine StpE.go E ?_)
      refine M.rq.len ?_
      refine Bi.lss ?_ ?_ <;> intro hlt2 <;> (repeat with_reducible first | refine Stp.go ?_ | refine StpE.go E ?_)
      · have g2 : j < m.qids.length := by omega
        have hst : ((m.qids.take (j + 1)).map eQ).flatten = ((m.qids.take j).map eQ).flatten ++ eQ m.qids[j] := by
          rw [List.take_add_one, List.getElem?_eq_getElem g2, List.map_append, List.flatten_append]
          simp
        have hll : ((m.qids.take j).map eQ).flatten.length ≤ 16 * 13 := by
          have key : ∀ L : List Qi, (L.map eQ).flatten.length = L.length * 13 := by
            intro L
            induction L with
            | nil => rfl
            | cons x r ih => rw [List.map_cons, List.flatten_cons, List.length_append, ih, eQ_length, List.length_cons]; omega
          rw [key, List.length_take]; omega
        refine (M.rq.cons (pt b_ (oc (MC m nv qv) Ty.api_Msg))).ix (by omega) (by omega) (by omega) ?_
        intro a ha
        rw [Int.toNat_natCast, qqs_at g2] at ha
        refine ha.lda E (m := 3) (ds := qcs m.qids[j]) rfl rfl (by omega) ?_
        refine (rqid_ok (q := m.qids[j]) E).mono ?_
        clear E
        rintro r w_ ⟨rfl, E⟩
        refine Bi.sadd (by simp only [mkB_size, List.length_append, le_length, eQ_length]; omega) ?_
        rw [mkB_app, List.append_assoc, List.append_assoc, ← hst]
        refine Bi.add (by omega) ?_
        exact ⟨⟨j + 1, rfl, by omega, E⟩, by simp only []; omega⟩
      · rw [List.take_of_length_le (by omega)]
        exact fin43 _ _ rfl E
    case xi =>
      (repeat first | (with_reducible first | refine Stp.go ?_ | refine StpE.go E ?_) | ((with_reducible refine Bi.dec true ?_ ?_); focus exact rfl) | ((with_reducible refine Bi.dec false ?_ ?_); focus exact rfl))
      refine (rdir_ok M.dB E).mono ?_
      clear E
      rintro r w_ ⟨rfl, E⟩
      exact fin42 _ _ rfl E
    case xn =>
      (repeat first | (with_reducible first | refine Stp.go ?_ | refine StpE.go E ?_) | ((with_reducible refine Bi.dec true ?_ ?_); focus exact rfl) | ((with_reducible refine Bi.dec false ?_ ?_); focus exact rfl))
      refine M.rn.len ?_
      refine (rnumber_ok (k := 2) (by omega) E).mono ?_
      clear E
      rintro r w_ ⟨rfl, E⟩
      refine Bi.sadd (by simp only [mkB_size, le_length]; omega) ?_
      rw [mkB_app]
      refine ⟨fun l1 w1 => ∃ j : Nat, l1 = [sb (P ++ (le (m.names.length : Nat) 2 ++ ((m.names.take j).map eW).flatten)), i64 j] ∧ j ≤ m.names.length ∧ Hs w0 F w1 (pt b_ (oc (MC m nv qv) Ty.api_Msg) :: l), fun l1 _ => match l1 with | [_, .int _ j] => m.names.length - j.toNat | _ => 0, ⟨0, by simp, Nat.zero_le _, E⟩, ?_⟩
      clear E
      rintro t7 t10 u2 w2 ⟨j, e, hj, E⟩
      cases e
      (repeat with_reducible first | refine Stp.go ?_ | refine StpE.go E ?_)
      refine M.rn.len ?_
      refine Bi.lss ?_ ?_ <;> intro hlt2 <;> (repeat with_reducible first | refine Stp.go ?_ | refine StpE.go E ?_)
      · have g2 : j < m.names.length := by omega
        have hst : ((m.names.take (j + 1)).map eW).flatten = ((m.names.take j).map eW).flatten ++ eW m.names[j] := by
          rw [List.take_add_one, List.getElem?_eq_getElem g2, List.map_append, List.flatten_append]
          simp
        have hll : ((m.names.take j).map eW).flatten.length ≤ 16777248 := by
          have key : ∀ L : List (List UInt8), (∀ t ∈ L, t.length ≤ 1048576) → (L.map eW).flatten.length ≤ L.length * 1048578 := by
            intro L
            induction L with
            | nil => intro _; simp
            | cons x r ih =>
              intro h
              have h1 := ih fun t ht => h t (List.mem_cons_of_mem _ ht)
              have h2 := h x List.mem_cons_self
              rw [List.map_cons, List.flatten_cons, List.length_append, eW_length, List.length_cons]; omega
          have h1 := key (m.names.take j) fun t ht => M.nb t (List.mem_of_mem_take ht)
          have h2 : (m.names.take j).length ≤ 16 := by rw [List.length_take]; omega
          generalize (m.names.take j).length = q at h1 h2
          omega
        have hx := M.nb _ (List.getElem_mem g2)
        have hd : ((m.names.map sb).drop (((j : Int)).toNat * 1))[0]? = some (sb m.names[j]) := by
          rw [Int.toNat_natCast, Nat.mul_one, List.getElem?_drop, Nat.add_zero, List.getElem?_map, List.getElem?_eq_getElem g2]; rfl
        refine (M.rn.cons (pt b_ (oc (MC m nv qv) Ty.api_Msg))).ix (by omega) (by omega) (by omega) ?_
        intro a ha
        refine ha.ld E hd ?_
        refine (rword_ok (by omega) E).mono ?_
        clear E
        rintro r w_ ⟨rfl, E⟩
        refine Bi.sadd (by simp only [mkB_size, List.length_append, le_length, eW_length]; omega) ?_
        rw [mkB_app, List.append_assoc, List.append_assoc, ← hst]
        refine Bi.add (by omega) ?_
        exact ⟨⟨j + 1, rfl, by omega, E⟩, by simp only []; omega⟩
      · rw [List.take_of_length_le (by omega)]
        exact fin43 _ _ rfl E
  · refine ⟨?_, E.tl⟩
    rw [List.take_of_length_le (by omega)]
end Go.Proofs.YtmlccboapkkcfaaDoor

/-
  The protocol: Check, Size and Encode return what the reference returns (the law StyxEncodes).
-/
namespace Go.Proofs.YtmlccboapkkcfaaDoor
open Go Go.Sh
set_option maxRecDepth 100000
set_option linter.unusedVariables false
set_option linter.unusedSimpArgs false
variable {w0 w : World} {F : Nat → Prop} {l : List As}
theorem sum_mem : ∀ {xs : List (List UInt8)} {t : List UInt8}, t ∈ xs → t.length ≤ (xs.map List.length).sum
  | x :: r, t, h => by
    rw [List.map_cons, List.sum_cons]
    rcases List.mem_cons.1 h with rfl | h
    · omega
    · have := sum_mem h
      omega
theorem MA.ms {m : Ms} {nv qv : Value} (M : MA w0 F m nv qv) (h : few m = true) (l : List As) : MS w0 F l m nv qv := by
  obtain ⟨f1, f2, f3⟩ := few_all h
  have h0 := h
  unfold few at h0
  simp only [Bool.and_eq_true, decide_eq_true_eq] at h0
  unfold msz droom at f3
  exact { M.mi h l with nb := fun t ht => by have := sum_mem ht; omega, db := by omega }
theorem Encodes_law (hW : Wds w0 F) {m : Ms} {nv qv : Value} (M : MA w0 F m nv qv) (E : Hs w0 F w l) :
    Ca PP Fn.law31_StyxEncodes #[.agg (MC m nv qv).toArray] w fun r w' => r = .bool true ∧ Hs w0 F w' l := by
  refine S.law31_StyxEncodes.calls ?_
  unfold S.law31_StyxEncodes
  have i1 : Scal nv := ⟨by obtain ⟨a, c, rfl, _⟩ := M.rn []; rfl⟩
  have i2 : Scal qv := ⟨by obtain ⟨a, c, rfl, _⟩ := M.rq []; rfl⟩
  (repeat with_reducible (refine StpA.go E ?_; clear E; intro b_ w_ hb_ E))
  refine (awake_ok hW E).mono ?_
  clear E
  rintro r w_ ⟨rfl, E⟩
  (repeat with_reducible first | refine Stp.go ?_ | refine StpE.go E ?_)
  refine (Few_ok M.b (M.rn _) (M.rq _) E).mono ?_
  clear E
  rintro r w_ ⟨rfl, E⟩
  cases hf : few m with
  | false =>
    (repeat with_reducible refine Stp.go ?_)
    exact ⟨rfl, E.tl⟩
  | true =>
  (repeat with_reducible first | refine Stp.go ?_ | refine StpE.go E ?_)
  refine (Encode_ok hW (M.mi hf _) E).mono ?_
  clear E
  rintro r w_ ⟨rfl, E⟩
  (repeat with_reducible first | refine Stp.go ?_ | refine StpE.go E ?_)
  refine (rEncode_ok (M.ms hf _) E).mono ?_
  clear E
  rintro r w_ ⟨rfl, E⟩
  (repeat with_reducible refine Stp.go ?_)
  (intro J20 hJ20)
  (repeat with_reducible (refine StpW.go E ?_; clear E; intro w_ E))
  refine Bi.seqT rfl ?_
  (repeat with_reducible refine Stp.go ?_)
  refine Bi.eql (fun _ => ?_) (fun h => absurd rfl h)
  (repeat with_reducible first | refine Stp.go ?_ | refine StpE.go E ?_)
  refine (Check_ok hW (M.mi hf _) E).mono ?_
  clear E
  rintro r w_ ⟨rfl, E⟩
  refine ⟨?_, ?_⟩
  · (repeat with_reducible first | refine Stp.go ?_ | refine StpE.go E ?_)
    rfl
  (repeat with_reducible refine Stp.go ?_)
  refine (rCheck_ok (M.ms hf _) E).mono ?_
  clear E
  rintro r w_ ⟨rfl, E⟩
  rw [enc_two]
  (repeat with_reducible refine Stp.go ?_)
  refine Bi.eql (fun _ => ?_) (fun h => absurd rfl h)
  (repeat with_reducible first | refine Stp.go ?_ | refine StpE.go E ?_)
  refine (Size_ok hW (M.mi hf _) E).mono ?_
  clear E
  rintro r w_ ⟨rfl, E⟩
  refine ⟨?_, ?_⟩
  · (repeat with_reducible first | refine Stp.go ?_ | refine StpE.go E ?_)
    rfl
  (repeat with_reducible refine Stp.go ?_)
  refine (rSize_ok (M.ms hf _) E).mono ?_
  clear E
  rintro r w_ ⟨rfl, E⟩
  (repeat with_reducible refine Stp.go ?_)
  refine Bi.eql (fun _ => ?_) (fun h => absurd rfl h)
  (repeat with_reducible first | refine Stp.go ?_ | (apply hJ20; intro u_))
  exact ⟨rfl, E.tl⟩
end Go.Proofs.YtmlccboapkkcfaaDoor
