/-
  TreePermits: permissions and names.
-/
import Derived.Test.YtnnhmahemklnkaaDoorTa1
namespace Go.Proofs.YtnnhmahemklnkaaDoor
open Go Go.Sh
set_option maxRecDepth 100000
set_option linter.unusedVariables false
set_option linter.unusedSimpArgs false
variable {w0 w : World} {F : Nat → Prop} {l : List As}

/-! ### Bits -/
def bitI (m : Int) (i : Nat) : Bool := (BitVec.ofInt 64 m).getLsbD i
def rngI (m : Int) : Prop := -9223372036854775808 ≤ m ∧ m ≤ 9223372036854775807
/-- Where the bits of an owner, a group, others lie. -/
def shO (o g : Bool) : Nat := if o then 6 else if g then 3 else 0
def shI (m : Int) (o g : Bool) : Int := if o then m.fdiv 64 else if g then m.fdiv 8 else m
theorem toInt_rng {m : Int} (h : rngI m) : (BitVec.ofInt 64 m).toInt = m := by
  rw [BitVec.toInt_ofInt]
  unfold rngI at h
  unfold Int.bmod
  simp only [Nat.reducePow]
  split <;> omega
theorem ofInt_fdiv {m : Int} (h : rngI m) (k : Nat) : BitVec.ofInt 64 (m.fdiv (2 ^ k : Nat)) = (BitVec.ofInt 64 m).sshiftRight k := by
  unfold BitVec.sshiftRight
  rw [toInt_rng h, Int.shiftRight_eq_div_pow, Int.fdiv_eq_ediv_of_nonneg _ (Int.natCast_nonneg _)]
theorem bit_sh {m : Int} (h : rngI m) (o g : Bool) {i : Nat} (hi : i < 3) : bitI (shI m o g) i = bitI m (shO o g + i) := by
  unfold bitI shI shO
  cases o with
  | true =>
    simp only [if_true]
    have e := ofInt_fdiv h 6
    rw [show ((2 ^ 6 : Nat) : Int) = 64 from rfl] at e
    rw [e, BitVec.getLsbD_sshiftRight, if_pos (by omega), decide_eq_false (by omega)]
    rfl
  | false =>
    cases g with
    | true =>
      simp only [if_true, if_false, Bool.false_eq_true]
      have e := ofInt_fdiv h 3
      rw [show ((2 ^ 3 : Nat) : Int) = 8 from rfl] at e
      rw [e, BitVec.getLsbD_sshiftRight, if_pos (by omega), decide_eq_false (by omega)]
      rfl
    | false => simp
theorem wrap_rng (n : Int) : rngI (IntKind.i64.wrap n) := by
  unfold rngI IntKind.wrap
  simp only [IntKind.signed, IntKind.bits, Bool.true_and]
  have h1 := Int.emod_nonneg n (b := (2 ^ 64 : Int)) (by omega)
  have h2 := Int.emod_lt_of_pos n (b := (2 ^ 64 : Int)) (by omega)
  split
  · rename_i h
    have h := of_decide_eq_true h
    omega
  · rename_i h
    have h : n % 18446744073709551616 < 9223372036854775808 := by simpa using h
    omega
theorem bit7 (i : Nat) : (BitVec.ofInt 64 7).getLsbD i = decide (i < 3) := by
  by_cases h : i < 3
  · rcases i with _ | _ | _ | i
    · decide
    · decide
    · decide
    · omega
  · rw [decide_eq_false h]
    by_cases h2 : i < 64
    · have : BitVec.ofInt 64 7 = (7 : BitVec 64) := by decide
      rw [this]
      show (BitVec.ofNat 64 7).getLsbD i = false
      rw [BitVec.getLsbD_ofNat]
      have : Nat.testBit 7 i = false := Nat.testBit_lt_two_pow (Nat.lt_of_lt_of_le (by decide : 7 < 2 ^ 3) (Nat.pow_le_pow_right (by omega) (by omega)))
      simp [this]
    · exact BitVec.getLsbD_of_ge _ _ (by omega)
/-- What is permitted, bit by bit. -/
theorem permF_iff {m : Int} (h : rngI m) (o g : Bool) (need : Int) : permF m o g need = true ↔ ∀ i, i < 3 → bitI need i = true → bitI m (shO o g + i) = true := by
  have e0 : permF m o g need = (clrI (andI need 7) (shI m o g) == 0) := rfl
  rw [e0, beq_iff_eq, clrI_zero, andI_ofInt]
  constructor
  · intro hz i hi hb
    have := congrArg (fun x : BitVec 64 => x.getLsbD i) hz
    simp only [BitVec.getLsbD_and, BitVec.getLsbD_not, BitVec.getLsbD_zero, bit7, decide_eq_true hi, decide_eq_true (show i < 64 by omega), Bool.and_true, Bool.true_and] at this
    rw [← bit_sh h o g hi]
    unfold bitI at hb ⊢
    rw [hb] at this
    simpa using this
  · intro H
    apply BitVec.eq_of_getLsbD_eq
    intro i hi
    simp only [BitVec.getLsbD_and, BitVec.getLsbD_not, BitVec.getLsbD_zero, bit7, decide_eq_true hi, Bool.true_and]
    by_cases h3 : i < 3
    · rw [decide_eq_true h3, Bool.and_true]
      cases hb : (BitVec.ofInt 64 need).getLsbD i with
      | false => rfl
      | true =>
        have := H i h3 hb
        rw [← bit_sh h o g h3] at this
        unfold bitI at this
        rw [this]; rfl
    · rw [decide_eq_false h3]; simp
theorem permF_more {p m : Int} (hp : rngI p) (o g : Bool) {n : Int} (h : permF p o g n = true) : permF (orI p m) o g n = true := by
  rw [permF_iff hp] at h
  rw [permF_iff (m := orI p m) (wrap_rng _)]
  intro i hi hb
  have := h i hi hb
  unfold bitI at this ⊢
  rw [orI_ofInt, BitVec.getLsbD_or, this]; rfl
theorem permF_less {p : Int} (hp : rngI p) (o g : Bool) {n k : Int} (h : permF p o g n = true) : permF p o g (andI n k) = true := by
  rw [permF_iff hp] at h ⊢
  intro i hi hb
  refine h i hi ?_
  unfold bitI at hb ⊢
  rw [andI_ofInt, BitVec.getLsbD_and] at hb
  exact (Bool.and_eq_true_iff.1 hb).1

/-! ### The reference -/
theorem rPermits_ok {m need : Int} {o g : Bool} : Ca PP Fn.r28_Permits #[i64 m, .bool o, .bool g, i64 need] w fun r w' => r = .bool (permF m o g need) ∧ w' = w := by
  refine S.r28_Permits.calls ?_
  unfold S.r28_Permits
  (repeat first | (with_reducible first | refine Stp.go ?_ | refine StpE.go E ?_ | (refine StpW.go E ?_; clear E; intro w_ E) | (refine StpA.go E ?_; clear E; intro b_ w_ hb_ E) | (apply hJ2; intro u_) | refine LnL.nil ?_) | ((with_reducible refine Bi.dec true ?_ ?_); focus exact rfl) | ((with_reducible refine Bi.dec false ?_ ?_); focus exact rfl) | ((with_reducible refine Bi.sdec true ?_ ?_); focus decide) | ((with_reducible refine Bi.sdec false ?_ ?_); focus decide))
  (intro J2 hJ2)
  have fin : ∀ b, b = andI (shI m o g) 7 → J2 [i64 b] w := by
    intro b hb
    (repeat first | (with_reducible first | refine Stp.go ?_ | refine StpE.go E ?_ | (refine StpW.go E ?_; clear E; intro w_ E) | (refine StpA.go E ?_; clear E; intro b_ w_ hb_ E) | (apply hJ2; intro u_) | refine LnL.nil ?_) | ((with_reducible refine Bi.dec true ?_ ?_); focus exact rfl) | ((with_reducible refine Bi.dec false ?_ ?_); focus exact rfl) | ((with_reducible refine Bi.sdec true ?_ ?_); focus decide) | ((with_reducible refine Bi.sdec false ?_ ?_); focus decide))
    have e0 : permF m o g need = decide (clrI (andI need 7) (shI m o g) = 0) := by
      show (clrI (andI need 7) (shI m o g) == 0) = _
      by_cases h : clrI (andI need 7) (shI m o g) = 0 <;> simp [h]
    have e : clrI (andI need 7) b = 0 ↔ clrI (andI need 7) (shI m o g) = 0 := by
      rw [hb, clrI_zero, clrI_zero, andI_ofInt, andI_ofInt]
      have : BitVec.ofInt 64 need &&& BitVec.ofInt 64 7 &&& ~~~(BitVec.ofInt 64 (shI m o g) &&& BitVec.ofInt 64 7) = BitVec.ofInt 64 need &&& BitVec.ofInt 64 7 &&& ~~~BitVec.ofInt 64 (shI m o g) := by
        apply BitVec.eq_of_getLsbD_eq
        intro i hi
        simp only [BitVec.getLsbD_and, BitVec.getLsbD_not]
        cases (BitVec.ofInt 64 need).getLsbD i <;> cases (BitVec.ofInt 64 7).getLsbD i <;> cases (BitVec.ofInt 64 (shI m o g)).getLsbD i <;> simp
      rw [this]
    rw [e0]
    refine Bi.eql ?_ ?_ <;> intro h
    · exact ⟨by rw [decide_eq_true (e.1 h)], rfl⟩
    · exact ⟨by rw [decide_eq_false fun hc => h (e.2 hc)], rfl⟩
  clear hJ2
  cases o with
  | true =>
    (repeat first | (with_reducible first | refine Stp.go ?_ | refine StpE.go E ?_ | (refine StpW.go E ?_; clear E; intro w_ E) | (refine StpA.go E ?_; clear E; intro b_ w_ hb_ E) | (apply hJ2; intro u_) | refine LnL.nil ?_) | ((with_reducible refine Bi.dec true ?_ ?_); focus exact rfl) | ((with_reducible refine Bi.dec false ?_ ?_); focus exact rfl) | ((with_reducible refine Bi.sdec true ?_ ?_); focus decide) | ((with_reducible refine Bi.sdec false ?_ ?_); focus decide))
    refine Bi.mk rfl ?_
    refine Bi.mk rfl ?_
    exact fin _ rfl
  | false =>
    (repeat first | (with_reducible first | refine Stp.go ?_ | refine StpE.go E ?_ | (refine StpW.go E ?_; clear E; intro w_ E) | (refine StpA.go E ?_; clear E; intro b_ w_ hb_ E) | (apply hJ2; intro u_) | refine LnL.nil ?_) | ((with_reducible refine Bi.dec true ?_ ?_); focus exact rfl) | ((with_reducible refine Bi.dec false ?_ ?_); focus exact rfl) | ((with_reducible refine Bi.sdec true ?_ ?_); focus decide) | ((with_reducible refine Bi.sdec false ?_ ?_); focus decide))
    cases g with
    | true =>
      (repeat first | (with_reducible first | refine Stp.go ?_ | refine StpE.go E ?_ | (refine StpW.go E ?_; clear E; intro w_ E) | (refine StpA.go E ?_; clear E; intro b_ w_ hb_ E) | (apply hJ2; intro u_) | refine LnL.nil ?_) | ((with_reducible refine Bi.dec true ?_ ?_); focus exact rfl) | ((with_reducible refine Bi.dec false ?_ ?_); focus exact rfl) | ((with_reducible refine Bi.sdec true ?_ ?_); focus decide) | ((with_reducible refine Bi.sdec false ?_ ?_); focus decide))
      refine Bi.mk rfl ?_
      refine Bi.mk rfl ?_
      exact fin _ rfl
    | false =>
      (repeat first | (with_reducible first | refine Stp.go ?_ | refine StpE.go E ?_ | (refine StpW.go E ?_; clear E; intro w_ E) | (refine StpA.go E ?_; clear E; intro b_ w_ hb_ E) | (apply hJ2; intro u_) | refine LnL.nil ?_) | ((with_reducible refine Bi.dec true ?_ ?_); focus exact rfl) | ((with_reducible refine Bi.dec false ?_ ?_); focus exact rfl) | ((with_reducible refine Bi.sdec true ?_ ?_); focus decide) | ((with_reducible refine Bi.sdec false ?_ ?_); focus decide))
      exact fin _ rfl
theorem rValid_ok {s : ByteArray} (hs : s.size ≤ 9223372036854775807) : Ca PP Fn.r28_Valid #[.string s] w fun r w' => r = .bool (goodName s) ∧ w' = w := by
  refine S.r28_Valid.calls ?_
  unfold S.r28_Valid
  refine ⟨fun l w' => ∃ i : Nat, l = [i64 i] ∧ i ≤ s.size ∧ ((s.data.toList.take i).all goodB = true) ∧ w' = w, fun l _ => match l with | [.int _ i] => s.size - i.toNat | _ => 0, ⟨0, rfl, Nat.zero_le _, rfl, rfl⟩, ?_⟩
  rintro t7 u w1 ⟨i, hl, hi, hg, rfl⟩
  cases hl
  refine LnS.mk ?_
  refine Bi.lss ?_ ?_ <;> intro h
  · (repeat first | (with_reducible first | refine Stp.go ?_ | refine StpE.go E ?_ | (refine StpW.go E ?_; clear E; intro w_ E) | (refine StpA.go E ?_; clear E; intro b_ w_ hb_ E) | (apply hJ8; intro u_) | (apply hJ45; intro u_) | refine LnL.nil ?_) | ((with_reducible refine Bi.dec true ?_ ?_); focus exact rfl) | ((with_reducible refine Bi.dec false ?_ ?_); focus exact rfl) | ((with_reducible refine Bi.sdec true ?_ ?_); focus decide) | ((with_reducible refine Bi.sdec false ?_ ?_); focus decide))
    obtain ⟨b, hb, hb'⟩ := ba_get (s := s) (i := i) (by omega)
    (intro J8 hJ8)
    have hbm : b ∈ s.data.toList := List.mem_of_getElem? hb'
    have bad : goodB b = false → goodName s = false := by
      intro h0
      have : s.data.toList.all goodB = false := by
        rw [Bool.eq_false_iff]; intro ha; rw [List.all_eq_true] at ha; have := ha b hbm; rw [h0] at this; cases this
      simp [goodName, this]
    have good : goodB b = true → (s.data.toList.take (i + 1)).all goodB = true := by
      intro h0
      rw [List.take_add_one, hb', List.all_append, hg]
      simp [h0]
    have fin8 : ∀ c, c = !goodB b → J8 [.bool c] w1 := by
      intro c hc
      (repeat first | (with_reducible first | refine Stp.go ?_ | refine StpE.go E ?_ | (refine StpW.go E ?_; clear E; intro w_ E) | (refine StpA.go E ?_; clear E; intro b_ w_ hb_ E) | (apply hJ8; intro u_) | (apply hJ45; intro u_) | refine LnL.nil ?_) | ((with_reducible refine Bi.dec true ?_ ?_); focus exact rfl) | ((with_reducible refine Bi.dec false ?_ ?_); focus exact rfl) | ((with_reducible refine Bi.sdec true ?_ ?_); focus decide) | ((with_reducible refine Bi.sdec false ?_ ?_); focus decide))
      cases hgb : goodB b with
      | false =>
        obtain rfl : c = true := by rw [hc, hgb]; rfl
        (repeat first | (with_reducible first | refine Stp.go ?_ | refine StpE.go E ?_ | (refine StpW.go E ?_; clear E; intro w_ E) | (refine StpA.go E ?_; clear E; intro b_ w_ hb_ E) | (apply hJ8; intro u_) | (apply hJ45; intro u_) | refine LnL.nil ?_) | ((with_reducible refine Bi.dec true ?_ ?_); focus exact rfl) | ((with_reducible refine Bi.dec false ?_ ?_); focus exact rfl) | ((with_reducible refine Bi.sdec true ?_ ?_); focus decide) | ((with_reducible refine Bi.sdec false ?_ ?_); focus decide))
        exact ⟨by rw [bad hgb], rfl⟩
      | true =>
        obtain rfl : c = false := by rw [hc, hgb]; rfl
        (repeat first | (with_reducible first | refine Stp.go ?_ | refine StpE.go E ?_ | (refine StpW.go E ?_; clear E; intro w_ E) | (refine StpA.go E ?_; clear E; intro b_ w_ hb_ E) | (apply hJ8; intro u_) | (apply hJ45; intro u_) | refine LnL.nil ?_) | ((with_reducible refine Bi.dec true ?_ ?_); focus exact rfl) | ((with_reducible refine Bi.dec false ?_ ?_); focus exact rfl) | ((with_reducible refine Bi.sdec true ?_ ?_); focus decide) | ((with_reducible refine Bi.sdec false ?_ ?_); focus decide))
        refine Bi.add (by omega) ?_
        refine ⟨⟨i + 1, by simp, by omega, good hgb, rfl⟩, ?_⟩
        simp only []; omega
    clear hJ8
    refine IxS.mk (by omega) (by simpa using hb) ?_
    refine Bi.lss ?_ ?_ <;> intro h1 <;> (repeat first | (with_reducible first | refine Stp.go ?_ | refine StpE.go E ?_ | (refine StpW.go E ?_; clear E; intro w_ E) | (refine StpA.go E ?_; clear E; intro b_ w_ hb_ E) | (apply hJ8; intro u_) | (apply hJ45; intro u_) | refine LnL.nil ?_) | ((with_reducible refine Bi.dec true ?_ ?_); focus exact rfl) | ((with_reducible refine Bi.dec false ?_ ?_); focus exact rfl) | ((with_reducible refine Bi.sdec true ?_ ?_); focus decide) | ((with_reducible refine Bi.sdec false ?_ ?_); focus decide))
    · exact fin8 _ (by simp [goodB]; omega)
    · refine IxS.mk (by omega) (by simpa using hb) ?_
      refine Gd.t false ?_
      (repeat first | (with_reducible first | refine Stp.go ?_ | refine StpE.go E ?_ | (refine StpW.go E ?_; clear E; intro w_ E) | (refine StpA.go E ?_; clear E; intro b_ w_ hb_ E) | (apply hJ8; intro u_) | (apply hJ45; intro u_) | refine LnL.nil ?_) | ((with_reducible refine Bi.dec true ?_ ?_); focus exact rfl) | ((with_reducible refine Bi.dec false ?_ ?_); focus exact rfl) | ((with_reducible refine Bi.sdec true ?_ ?_); focus decide) | ((with_reducible refine Bi.sdec false ?_ ?_); focus decide))
      refine Bi.gtr ?_ ?_ <;> intro h2 <;> (repeat first | (with_reducible first | refine Stp.go ?_ | refine StpE.go E ?_ | (refine StpW.go E ?_; clear E; intro w_ E) | (refine StpA.go E ?_; clear E; intro b_ w_ hb_ E) | (apply hJ8; intro u_) | (apply hJ45; intro u_) | refine LnL.nil ?_) | ((with_reducible refine Bi.dec true ?_ ?_); focus exact rfl) | ((with_reducible refine Bi.dec false ?_ ?_); focus exact rfl) | ((with_reducible refine Bi.sdec true ?_ ?_); focus decide) | ((with_reducible refine Bi.sdec false ?_ ?_); focus decide))
      · exact fin8 _ (by simp [goodB]; omega)
      · refine IxS.mk (by omega) (by simpa using hb) ?_
        refine Gd.t false ?_
        (repeat first | (with_reducible first | refine Stp.go ?_ | refine StpE.go E ?_ | (refine StpW.go E ?_; clear E; intro w_ E) | (refine StpA.go E ?_; clear E; intro b_ w_ hb_ E) | (apply hJ8; intro u_) | (apply hJ45; intro u_) | refine LnL.nil ?_) | ((with_reducible refine Bi.dec true ?_ ?_); focus exact rfl) | ((with_reducible refine Bi.dec false ?_ ?_); focus exact rfl) | ((with_reducible refine Bi.sdec true ?_ ?_); focus decide) | ((with_reducible refine Bi.sdec false ?_ ?_); focus decide))
        refine Bi.eql ?_ ?_ <;> intro h3 <;> (repeat first | (with_reducible first | refine Stp.go ?_ | refine StpE.go E ?_ | (refine StpW.go E ?_; clear E; intro w_ E) | (refine StpA.go E ?_; clear E; intro b_ w_ hb_ E) | (apply hJ8; intro u_) | (apply hJ45; intro u_) | refine LnL.nil ?_) | ((with_reducible refine Bi.dec true ?_ ?_); focus exact rfl) | ((with_reducible refine Bi.dec false ?_ ?_); focus exact rfl) | ((with_reducible refine Bi.sdec true ?_ ?_); focus decide) | ((with_reducible refine Bi.sdec false ?_ ?_); focus decide))
        · exact fin8 _ (by simp [goodB]; omega)
        · exact fin8 _ (by simp [goodB]; omega)
  · (repeat first | (with_reducible first | refine Stp.go ?_ | refine StpE.go E ?_ | (refine StpW.go E ?_; clear E; intro w_ E) | (refine StpA.go E ?_; clear E; intro b_ w_ hb_ E) | (apply hJ8; intro u_) | (apply hJ45; intro u_) | refine LnL.nil ?_) | ((with_reducible refine Bi.dec true ?_ ?_); focus exact rfl) | ((with_reducible refine Bi.dec false ?_ ?_); focus exact rfl) | ((with_reducible refine Bi.sdec true ?_ ?_); focus decide) | ((with_reducible refine Bi.sdec false ?_ ?_); focus decide))
    (intro J45 hJ45)
    have hall : s.data.toList.all goodB = true := by
      have : s.data.toList.take i = s.data.toList := List.take_of_length_le (by have : s.data.toList.length = s.size := rfl; omega)
      rw [this] at hg; exact hg
    have tail : goodName s = (decide (s.size ≥ 1) && decide (s.size ≤ 40) && decide (s ≠ ⟨#[46]⟩) && decide (s ≠ ⟨#[46, 46]⟩)) := by
      unfold goodName
      rw [hall]
      have : (s.size != 0) = decide (s.size ≥ 1) := by
        by_cases h0 : s.size = 0
        · simp [h0]
        · rw [decide_eq_true (show s.size ≥ 1 by omega)]
          simpa using h0
      rw [this]
      simp [bne, ba_beq]
    refine LnS.mk ?_
    refine Bi.geq ?_ ?_ <;> intro h1 <;> (repeat first | (with_reducible first | refine Stp.go ?_ | refine StpE.go E ?_ | (refine StpW.go E ?_; clear E; intro w_ E) | (refine StpA.go E ?_; clear E; intro b_ w_ hb_ E) | (apply hJ8; intro u_) | (apply hJ45; intro u_) | refine LnL.nil ?_) | ((with_reducible refine Bi.dec true ?_ ?_); focus exact rfl) | ((with_reducible refine Bi.dec false ?_ ?_); focus exact rfl) | ((with_reducible refine Bi.sdec true ?_ ?_); focus decide) | ((with_reducible refine Bi.sdec false ?_ ?_); focus decide))
    · refine Bi.leq ?_ ?_ <;> intro h2 <;> (repeat first | (with_reducible first | refine Stp.go ?_ | refine StpE.go E ?_ | (refine StpW.go E ?_; clear E; intro w_ E) | (refine StpA.go E ?_; clear E; intro b_ w_ hb_ E) | (apply hJ8; intro u_) | (apply hJ45; intro u_) | refine LnL.nil ?_) | ((with_reducible refine Bi.dec true ?_ ?_); focus exact rfl) | ((with_reducible refine Bi.dec false ?_ ?_); focus exact rfl) | ((with_reducible refine Bi.sdec true ?_ ?_); focus decide) | ((with_reducible refine Bi.sdec false ?_ ?_); focus decide))
      · refine Bi.sneq ?_ ?_ <;> intro h3 <;> (repeat first | (with_reducible first | refine Stp.go ?_ | refine StpE.go E ?_ | (refine StpW.go E ?_; clear E; intro w_ E) | (refine StpA.go E ?_; clear E; intro b_ w_ hb_ E) | (apply hJ8; intro u_) | (apply hJ45; intro u_) | refine LnL.nil ?_) | ((with_reducible refine Bi.dec true ?_ ?_); focus exact rfl) | ((with_reducible refine Bi.dec false ?_ ?_); focus exact rfl) | ((with_reducible refine Bi.sdec true ?_ ?_); focus decide) | ((with_reducible refine Bi.sdec false ?_ ?_); focus decide))
        · refine Bi.sneq ?_ ?_ <;> intro h4 <;> (repeat first | (with_reducible first | refine Stp.go ?_ | refine StpE.go E ?_ | (refine StpW.go E ?_; clear E; intro w_ E) | (refine StpA.go E ?_; clear E; intro b_ w_ hb_ E) | (apply hJ8; intro u_) | (apply hJ45; intro u_) | refine LnL.nil ?_) | ((with_reducible refine Bi.dec true ?_ ?_); focus exact rfl) | ((with_reducible refine Bi.dec false ?_ ?_); focus exact rfl) | ((with_reducible refine Bi.sdec true ?_ ?_); focus decide) | ((with_reducible refine Bi.sdec false ?_ ?_); focus decide))
          · exact ⟨by rw [tail]; simp [h3, h4]; omega, rfl⟩
          · exact ⟨by rw [tail]; simp [h4], rfl⟩
        · exact ⟨by rw [tail]; simp [h3], rfl⟩
      · exact ⟨by rw [tail]; simp; omega, rfl⟩
    · exact ⟨by rw [tail, decide_eq_false (show ¬ s.size ≥ 1 by omega)]; rfl, rfl⟩

/-! ### The law -/
theorem Permits_law {D : List Row} {p m n k : Int} {o g : Bool} {name : BA} (hp : rngI p) (hs : name.size ≤ 9223372036854775807) (E : Hs w0 F w (Pool D :: l)) :
    Ca PP Fn.law28_TreePermits #[.agg #[i64 p, i64 m, i64 n, i64 k, .bool o, .bool g], str name] w fun r w' => r = .bool true ∧ ∃ D', Hs w0 F w' (Pool D' :: l) := by
  refine S.law28_TreePermits.calls ?_
  unfold S.law28_TreePermits
  refine StpA.go E ?_
  clear E
  intro q w_ hq E
  (replace E := ((E.bIx 0).bIx 1))
  refine (awake_ok E).mono ?_
  clear E
  rintro r w_ ⟨rfl, D', -, E⟩
  have done : ∀ w, Hs w0 F w (Pool D' :: pt q (oc [i64 p, i64 m, i64 n, i64 k, .bool o, .bool g] Ty.law28_Ask) :: l) → ∃ D', Hs w0 F w (Pool D' :: l) := fun w E => ⟨D', (E.bIx 1).tl⟩
  (repeat first | (with_reducible first | refine Stp.go ?_ | refine StpE.go E ?_ | (refine StpW.go E ?_; clear E; intro w_ E) | (refine StpA.go E ?_; clear E; intro b_ w_ hb_ E) | (apply hJ18; intro u_) | (apply hJ22; intro u_) | refine LnL.nil ?_) | ((with_reducible refine Bi.dec true ?_ ?_); focus exact rfl) | ((with_reducible refine Bi.dec false ?_ ?_); focus exact rfl) | ((with_reducible refine Bi.sdec true ?_ ?_); focus decide) | ((with_reducible refine Bi.sdec false ?_ ?_); focus decide))
  refine Bi.gtr ?_ ?_ <;> intro h0 <;> (repeat first | (with_reducible first | refine Stp.go ?_ | refine StpE.go E ?_ | (refine StpW.go E ?_; clear E; intro w_ E) | (refine StpA.go E ?_; clear E; intro b_ w_ hb_ E) | (apply hJ18; intro u_) | (apply hJ22; intro u_) | refine LnL.nil ?_) | ((with_reducible refine Bi.dec true ?_ ?_); focus exact rfl) | ((with_reducible refine Bi.dec false ?_ ?_); focus exact rfl) | ((with_reducible refine Bi.sdec true ?_ ?_); focus decide) | ((with_reducible refine Bi.sdec false ?_ ?_); focus decide))
  · exact ⟨rfl, done _ E⟩
  refine Permits_ok.mono ?_
  rintro r w' ⟨rfl, rfl⟩
  (intro J18 hJ18)
  have fin18 : ∀ b w_, b = false → Hs w0 F w_ (Pool D' :: pt q (oc [i64 p, i64 m, i64 n, i64 k, .bool o, .bool g] Ty.law28_Ask) :: l) → J18 [.bool b] w_ := by
    intro b w_ hb E
    subst hb
    (repeat first | (with_reducible first | refine Stp.go ?_ | refine StpE.go E ?_ | (refine StpW.go E ?_; clear E; intro w_ E) | (refine StpA.go E ?_; clear E; intro b_ w_ hb_ E) | (apply hJ18; intro u_) | (apply hJ22; intro u_) | refine LnL.nil ?_) | ((with_reducible refine Bi.dec true ?_ ?_); focus exact rfl) | ((with_reducible refine Bi.dec false ?_ ?_); focus exact rfl) | ((with_reducible refine Bi.sdec true ?_ ?_); focus decide) | ((with_reducible refine Bi.sdec false ?_ ?_); focus decide))
    (intro J22 hJ22)
    have fin22 : ∀ b w_, b = true → Hs w0 F w_ (Pool D' :: pt q (oc [i64 p, i64 m, i64 n, i64 k, .bool o, .bool g] Ty.law28_Ask) :: l) → J22 [.bool b] w_ := by
      intro b w_ hb E
      subst hb
      (repeat first | (with_reducible first | refine Stp.go ?_ | refine StpE.go E ?_ | (refine StpW.go E ?_; clear E; intro w_ E) | (refine StpA.go E ?_; clear E; intro b_ w_ hb_ E) | (apply hJ18; intro u_) | (apply hJ22; intro u_) | refine LnL.nil ?_) | ((with_reducible refine Bi.dec true ?_ ?_); focus exact rfl) | ((with_reducible refine Bi.dec false ?_ ?_); focus exact rfl) | ((with_reducible refine Bi.sdec true ?_ ?_); focus decide) | ((with_reducible refine Bi.sdec false ?_ ?_); focus decide))
      exact ⟨rfl, done _ E⟩
    clear hJ22
    cases hpm : permF p o g n with
    | false => (repeat first | (with_reducible first | refine Stp.go ?_ | refine StpE.go E ?_ | (refine StpW.go E ?_; clear E; intro w_ E) | (refine StpA.go E ?_; clear E; intro b_ w_ hb_ E) | (apply hJ18; intro u_) | (apply hJ22; intro u_) | refine LnL.nil ?_) | ((with_reducible refine Bi.dec true ?_ ?_); focus exact rfl) | ((with_reducible refine Bi.dec false ?_ ?_); focus exact rfl) | ((with_reducible refine Bi.sdec true ?_ ?_); focus decide) | ((with_reducible refine Bi.sdec false ?_ ?_); focus decide)); exact fin22 _ _ rfl E
    | true =>
      (repeat first | (with_reducible first | refine Stp.go ?_ | refine StpE.go E ?_ | (refine StpW.go E ?_; clear E; intro w_ E) | (refine StpA.go E ?_; clear E; intro b_ w_ hb_ E) | (apply hJ18; intro u_) | (apply hJ22; intro u_) | refine LnL.nil ?_) | ((with_reducible refine Bi.dec true ?_ ?_); focus exact rfl) | ((with_reducible refine Bi.dec false ?_ ?_); focus exact rfl) | ((with_reducible refine Bi.sdec true ?_ ?_); focus decide) | ((with_reducible refine Bi.sdec false ?_ ?_); focus decide))
      refine Permits_ok.mono ?_
      rintro r w' ⟨rfl, rfl⟩
      rw [permF_more hp o g hpm]
      (repeat first | (with_reducible first | refine Stp.go ?_ | refine StpE.go E ?_ | (refine StpW.go E ?_; clear E; intro w_ E) | (refine StpA.go E ?_; clear E; intro b_ w_ hb_ E) | (apply hJ18; intro u_) | (apply hJ22; intro u_) | refine LnL.nil ?_) | ((with_reducible refine Bi.dec true ?_ ?_); focus exact rfl) | ((with_reducible refine Bi.dec false ?_ ?_); focus exact rfl) | ((with_reducible refine Bi.sdec true ?_ ?_); focus decide) | ((with_reducible refine Bi.sdec false ?_ ?_); focus decide))
      refine Permits_ok.mono ?_
      rintro r w' ⟨rfl, rfl⟩
      rw [permF_less hp o g hpm]
      (repeat first | (with_reducible first | refine Stp.go ?_ | refine StpE.go E ?_ | (refine StpW.go E ?_; clear E; intro w_ E) | (refine StpA.go E ?_; clear E; intro b_ w_ hb_ E) | (apply hJ18; intro u_) | (apply hJ22; intro u_) | refine LnL.nil ?_) | ((with_reducible refine Bi.dec true ?_ ?_); focus exact rfl) | ((with_reducible refine Bi.dec false ?_ ?_); focus exact rfl) | ((with_reducible refine Bi.sdec true ?_ ?_); focus decide) | ((with_reducible refine Bi.sdec false ?_ ?_); focus decide))
      exact fin22 _ _ rfl E
  clear hJ18
  (repeat first | (with_reducible first | refine Stp.go ?_ | refine StpE.go E ?_ | (refine StpW.go E ?_; clear E; intro w_ E) | (refine StpA.go E ?_; clear E; intro b_ w_ hb_ E) | (apply hJ18; intro u_) | (apply hJ22; intro u_) | refine LnL.nil ?_) | ((with_reducible refine Bi.dec true ?_ ?_); focus exact rfl) | ((with_reducible refine Bi.dec false ?_ ?_); focus exact rfl) | ((with_reducible refine Bi.sdec true ?_ ?_); focus decide) | ((with_reducible refine Bi.sdec false ?_ ?_); focus decide))
  refine rPermits_ok.mono ?_
  rintro r w' ⟨rfl, rfl⟩
  refine ⟨_, _, rfl, rfl, ?_⟩
  have e : (!(permF p o g n == permF p o g n)) = false := by cases permF p o g n <;> rfl
  simp only [if_true, e]
  (repeat first | (with_reducible first | refine Stp.go ?_ | refine StpE.go E ?_ | (refine StpW.go E ?_; clear E; intro w_ E) | (refine StpA.go E ?_; clear E; intro b_ w_ hb_ E) | (apply hJ18; intro u_) | (apply hJ22; intro u_) | refine LnL.nil ?_) | ((with_reducible refine Bi.dec true ?_ ?_); focus exact rfl) | ((with_reducible refine Bi.dec false ?_ ?_); focus exact rfl) | ((with_reducible refine Bi.sdec true ?_ ?_); focus decide) | ((with_reducible refine Bi.sdec false ?_ ?_); focus decide))
  refine (Valid_ok hs).mono ?_
  rintro r w' ⟨rfl, rfl⟩
  (repeat first | (with_reducible first | refine Stp.go ?_ | refine StpE.go E ?_ | (refine StpW.go E ?_; clear E; intro w_ E) | (refine StpA.go E ?_; clear E; intro b_ w_ hb_ E) | (apply hJ18; intro u_) | (apply hJ22; intro u_) | refine LnL.nil ?_) | ((with_reducible refine Bi.dec true ?_ ?_); focus exact rfl) | ((with_reducible refine Bi.dec false ?_ ?_); focus exact rfl) | ((with_reducible refine Bi.sdec true ?_ ?_); focus decide) | ((with_reducible refine Bi.sdec false ?_ ?_); focus decide))
  refine (rValid_ok hs).mono ?_
  rintro r w' ⟨rfl, rfl⟩
  (repeat first | (with_reducible first | refine Stp.go ?_ | refine StpE.go E ?_ | (refine StpW.go E ?_; clear E; intro w_ E) | (refine StpA.go E ?_; clear E; intro b_ w_ hb_ E) | (apply hJ18; intro u_) | (apply hJ22; intro u_) | refine LnL.nil ?_) | ((with_reducible refine Bi.dec true ?_ ?_); focus exact rfl) | ((with_reducible refine Bi.dec false ?_ ?_); focus exact rfl) | ((with_reducible refine Bi.sdec true ?_ ?_); focus decide) | ((with_reducible refine Bi.sdec false ?_ ?_); focus decide))
  refine ⟨_, _, rfl, rfl, ?_⟩
  have e : (!(goodName name == goodName name)) = false := by cases goodName name <;> rfl
  simp only [if_true, e]
  (repeat first | (with_reducible first | refine Stp.go ?_ | refine StpE.go E ?_ | (refine StpW.go E ?_; clear E; intro w_ E) | (refine StpA.go E ?_; clear E; intro b_ w_ hb_ E) | (apply hJ18; intro u_) | (apply hJ22; intro u_) | refine LnL.nil ?_) | ((with_reducible refine Bi.dec true ?_ ?_); focus exact rfl) | ((with_reducible refine Bi.dec false ?_ ?_); focus exact rfl) | ((with_reducible refine Bi.sdec true ?_ ?_); focus decide) | ((with_reducible refine Bi.sdec false ?_ ?_); focus decide))
  exact fin18 _ _ rfl E
end Go.Proofs.YtnnhmahemklnkaaDoor
