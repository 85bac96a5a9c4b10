/-
  TreeReads: what is written at an offset is read there again.
-/
import Derived.Test.YtnnhmahemklnkaaDoorPm1
import Derived.Test.YtnnhmahemklnkaaDoorSh20
namespace Go.Proofs.YtnnhmahemklnkaaDoor
open Go Go.Sh
set_option maxRecDepth 100000
set_option linter.unusedVariables false
set_option linter.unusedSimpArgs false
variable {w0 w : World} {F : Nat → Prop} {l : List As}

/-! ### The plain law -/
theorem get_upd {T : Tr} {p : Int} {f : Nd → Nd} {n : Nd} (h : T.get p = some n) (hf : ∀ n, (f n).path = n.path) : (T.upd p f).get p = some (f n) := by
  unfold Tr.get Tr.upd updN at *
  simp only [] at *
  rw [List.find?_map]
  have e : ((fun n : Nd => decide (n.path = p)) ∘ fun n => if n.path = p then f n else n) = fun n => decide (n.path = p) := by
    funext m
    simp only [Function.comp]
    by_cases hm : m.path = p <;> simp [hm, hf]
  rw [e, h]
  have hp : n.path = p := by simpa using List.find?_some h
  simp [hp]
/-- The file 1 is open to read and write, and has these data. -/
structure One (T : Tr) (s : BA) : Prop where
  hd : T.opened 1 = some ⟨1, 2, ann⟩
  fl : ∃ n, T.get 1 = some n ∧ andI n.mode 1073741824 = 0 ∧ n.dir = false ∧ n.data = s
def putD (s : BA) (off : Nat) (d : BA) : BA := if d = emp then s else overW s off d
theorem emp_size {d : BA} : d.size = 0 ↔ d = emp := by
  constructor
  · intro h
    refine ba_ext ?_
    have : d.data.toList.length = 0 := by simpa using h
    rw [List.length_eq_zero_iff] at this
    rw [this]; rfl
  · rintro rfl; rfl
theorem one_write {T : Tr} {s d : BA} {off : Nat} (h : One T s) (h1 : off + d.size ≤ 1048576) : (T.write 1 off d).2 = ((d.size : Int), 0) ∧ One (T.write 1 off d).1 (putD s off d) := by
  obtain ⟨hd, n, hg, ha, hdir, hs⟩ := h
  have m1 : ¬ (andI 2 3 ≠ 1 ∧ andI 2 3 ≠ 2) := by decide
  by_cases he : d = emp
  · have e : T.write 1 off d = (T, 0, 0) := by
      unfold Tr.write
      simp only [hd, hg, if_neg m1, if_neg (show ¬ ((off : Int) < 0) by omega), if_pos he]
    rw [e, he]
    exact ⟨rfl, by unfold putD; rw [if_pos rfl]; exact ⟨hd, n, hg, ha, hdir, hs⟩⟩
  · have e : T.write 1 off d = (((T.change ann [1]).upd 1 fun n => { n with data := overW n.data off d }), (d.size : Int), 0) := by
      unfold Tr.write
      simp only [hd, hg, if_neg m1, if_neg (show ¬ ((off : Int) < 0) by omega), if_neg he, ha, ne_eq, not_true_eq_false, if_false]
      rw [if_neg (by omega)]
      rfl
    rw [e]
    refine ⟨rfl, ?_⟩
    unfold putD
    rw [if_neg he]
    have g1 : (T.change ann [1]).get 1 = some (touchN (T.clock + 1) ann n) := by
      rw [change_one]
      exact get_upd (T := { T with clock := T.clock + 1 }) (f := touchN (T.clock + 1) ann) hg fun _ => rfl
    have g2 := get_upd (T := T.change ann [1]) (f := fun n => { n with data := overW n.data off d }) g1 fun _ => rfl
    exact ⟨hd, _, g2, ha, hdir, by rw [← hs]; rfl⟩
theorem one_read {T : Tr} {s : BA} {a c : Nat} (h : One T s) : T.read 1 a c = (⟨((s.data.toList.drop a).take c).toArray⟩, 0) := by
  obtain ⟨hd, n, hg, ha, hdir, hs⟩ := h
  have m1 : ¬ (andI 2 3 = 1) := by decide
  unfold Tr.read
  simp only [hd, hg, if_neg m1, hdir, Bool.false_eq_true, if_false, if_neg (show ¬ ((a : Int) < 0 ∨ (c : Int) < 0) by omega), hs]
  have hl : s.data.toList.length = s.size := by simp
  by_cases h1 : (s.size : Int) ≤ a
  · rw [if_pos h1, List.drop_eq_nil_of_le (by omega)]
    simp [emp]
  · rw [if_neg h1]
    unfold cutS
    simp only [Int.toNat_natCast]
    congr 3
    rw [List.drop_take, Nat.add_sub_cancel_left]
    by_cases h2 : c ≤ s.size - a
    · rw [Nat.min_eq_left h2]
    · rw [Nat.min_eq_right (by omega), List.take_of_length_le (by rw [List.length_drop]; omega), List.take_of_length_le (by rw [List.length_drop]; omega)]
abbrev rd0 : Tr := newT ann []
abbrev rd1 : Tr := (rd0.create ann 0 nmF 384 2).1
theorem rd_create : (rd0.create ann 0 nmF 384 2).2 = (1, ⟨0, 0, 1⟩, 0) := by kernel_rfl
theorem rd_one : One rd1 emp := ⟨by kernel_rfl, ⟨1, 0, 384, 1, 0, nmF, ann, ann, ann, emp⟩, by kernel_rfl, by decide, by decide, rfl⟩

/-! ### The law -/
theorem bts_inj_of {s : BA} {xs : List UInt8} : bts (⟨xs.toArray⟩ : BA) = xs.map fun b => Value.int .u8 b.toNat := by simp [bts]
theorem Bi.eqN {kk : IntKind} {a : Int} {k : Value → Prop} (hk : k (.bool false)) : Bi .neq (.int kk a) (.int kk a) k := Bi.neq (fun h => absurd rfl h) fun _ => hk
theorem Mn.nat {x y : Nat} {k : Value → Prop} (hk : k (i64 ((min x y : Nat) : Int))) : Mn (i64 x) (i64 y) k := by
  refine ⟨_, _, _, rfl, rfl, ?_⟩
  have : (if (y : Int) < (x : Int) then (y : Int) else (x : Int)) = ((min x y : Nat) : Int) := by split <;> omega
  rw [this]; exact hk
theorem cv16 {n : Int} (h : 0 ≤ n ∧ n ≤ 65535) {k : Value → Prop} (hk : k (i64 n)) : Cv .i64 (.int .u16 n) k := Cv.i64 (by omega) hk
theorem Reads_law {D : List Row} {first second : BA} {off a c : Nat} (ho : off ≤ 65535) (ha : a ≤ 65535) (hc : c ≤ 65535) (hf1 : first.size ≤ 9223372036854775807) (hf2 : second.size ≤ 9223372036854775807) (E : Hs w0 F w (Pool D :: l)) :
    Ca PP Fn.law28_TreeReads #[.agg #[str first, str second, .int .u16 off, .int .u16 a, .int .u16 c]] w fun r w' => r = .bool true ∧ ∃ l', Hs w0 F w' l' := by
  refine S.law28_TreeReads.calls ?_
  unfold S.law28_TreeReads
  refine StpA.go E ?_
  clear E
  intro rb w_ hrb E
  (replace E := ((E.bIx 0).bIx 1))
  (repeat first | (with_reducible first | refine Stp.go ?_ | refine StpE.go E ?_ | (refine StpW.go E ?_; clear E; intro w_ E) | (refine StpA.go E ?_; clear E; intro b_ w_ hb_ E) | (apply hJ17; intro u_) | (apply hJ25; intro u_) | (apply hJ47; intro u_) | (apply hJ53; intro u_) | (apply hJ67; intro u_) | refine LnL.nil ?_) | ((with_reducible refine Bi.dec true ?_ ?_); focus exact rfl) | ((with_reducible refine Bi.dec false ?_ ?_); focus exact rfl) | ((with_reducible refine Bi.sdec true ?_ ?_); focus decide) | ((with_reducible refine Bi.sdec false ?_ ?_); focus decide))
  refine (awake_ok E).mono ?_
  clear E
  rintro r w_ ⟨rfl, D', -, E⟩
  (repeat first | (with_reducible first | refine Stp.go ?_ | refine StpE.go E ?_ | (refine StpW.go E ?_; clear E; intro w_ E) | (refine StpA.go E ?_; clear E; intro b_ w_ hb_ E) | (apply hJ17; intro u_) | (apply hJ25; intro u_) | (apply hJ47; intro u_) | (apply hJ53; intro u_) | (apply hJ67; intro u_) | refine LnL.nil ?_) | ((with_reducible refine Bi.dec true ?_ ?_); focus exact rfl) | ((with_reducible refine Bi.dec false ?_ ?_); focus exact rfl) | ((with_reducible refine Bi.sdec true ?_ ?_); focus decide) | ((with_reducible refine Bi.sdec false ?_ ?_); focus decide))
  (intro J17 hJ17)
  have fin17 : ∀ b w_, b = decide (600 < first.size ∨ 600 < second.size ∨ 3000 < off ∨ 3000 < a) → Hs w0 F w_ (Pool D' :: pt rb (oc [str first, str second, .int .u16 off, .int .u16 a, .int .u16 c] Ty.law28_Reading) :: l) → J17 [.bool b] w_ := by
    intro b w_ hb E
    (repeat first | (with_reducible first | refine Stp.go ?_ | refine StpE.go E ?_ | (refine StpW.go E ?_; clear E; intro w_ E) | (refine StpA.go E ?_; clear E; intro b_ w_ hb_ E) | (apply hJ17; intro u_) | (apply hJ25; intro u_) | (apply hJ47; intro u_) | (apply hJ53; intro u_) | (apply hJ67; intro u_) | refine LnL.nil ?_) | ((with_reducible refine Bi.dec true ?_ ?_); focus exact rfl) | ((with_reducible refine Bi.dec false ?_ ?_); focus exact rfl) | ((with_reducible refine Bi.sdec true ?_ ?_); focus decide) | ((with_reducible refine Bi.sdec false ?_ ?_); focus decide))
    by_cases hbig : 600 < first.size ∨ 600 < second.size ∨ 3000 < off ∨ 3000 < a
    · rw [decide_eq_true hbig] at hb
      subst hb
      (repeat first | (with_reducible first | refine Stp.go ?_ | refine StpE.go E ?_ | (refine StpW.go E ?_; clear E; intro w_ E) | (refine StpA.go E ?_; clear E; intro b_ w_ hb_ E) | (apply hJ17; intro u_) | (apply hJ25; intro u_) | (apply hJ47; intro u_) | (apply hJ53; intro u_) | (apply hJ67; intro u_) | refine LnL.nil ?_) | ((with_reducible refine Bi.dec true ?_ ?_); focus exact rfl) | ((with_reducible refine Bi.dec false ?_ ?_); focus exact rfl) | ((with_reducible refine Bi.sdec true ?_ ?_); focus decide) | ((with_reducible refine Bi.sdec false ?_ ?_); focus decide))
      exact ⟨rfl, _, E⟩
    rw [decide_eq_false hbig] at hb
    subst hb
    (repeat first | (with_reducible first | refine Stp.go ?_ | refine StpE.go E ?_ | (refine StpW.go E ?_; clear E; intro w_ E) | (refine StpA.go E ?_; clear E; intro b_ w_ hb_ E) | (apply hJ17; intro u_) | (apply hJ25; intro u_) | (apply hJ47; intro u_) | (apply hJ53; intro u_) | (apply hJ67; intro u_) | refine LnL.nil ?_) | ((with_reducible refine Bi.dec true ?_ ?_); focus exact rfl) | ((with_reducible refine Bi.dec false ?_ ?_); focus exact rfl) | ((with_reducible refine Bi.sdec true ?_ ?_); focus decide) | ((with_reducible refine Bi.sdec false ?_ ?_); focus decide))
    refine (New_ok (owner := ann) (gin_nil _ rfl) (by simp) (fun g h => by cases h) (by
      intro s hs
      have : s = ann := by simpa [gwords] using hs
      rw [this]; decide) E).mono ?_
    clear E
    rintro r w_ (⟨hc, -, -⟩ | ⟨-, D1, X, β, rfl, hD1, h, hi, E⟩)
    · exact absurd checkG_ann hc
    (repeat first | (with_reducible first | refine Stp.go ?_ | refine StpE.go E ?_ | (refine StpW.go E ?_; clear E; intro w_ E) | (refine StpA.go E ?_; clear E; intro b_ w_ hb_ E) | (apply hJ17; intro u_) | (apply hJ25; intro u_) | (apply hJ47; intro u_) | (apply hJ53; intro u_) | (apply hJ67; intro u_) | refine LnL.nil ?_) | ((with_reducible refine Bi.dec true ?_ ?_); focus exact rfl) | ((with_reducible refine Bi.dec false ?_ ?_); focus exact rfl) | ((with_reducible refine Bi.sdec true ?_ ?_); focus decide) | ((with_reducible refine Bi.sdec false ?_ ?_); focus decide))
    (intro J25 hJ25)
    have fin25 : ∀ b w_, b = false → Hs w0 F w_ (trA X :: Pool D1 :: pt rb (oc [str first, str second, .int .u16 off, .int .u16 a, .int .u16 c] Ty.law28_Reading) :: l) → J25 [.bool b] w_ := by
      intro b w_ hb E
      subst hb
      (repeat first | (with_reducible first | refine Stp.go ?_ | refine StpE.go E ?_ | (refine StpW.go E ?_; clear E; intro w_ E) | (refine StpA.go E ?_; clear E; intro b_ w_ hb_ E) | (apply hJ17; intro u_) | (apply hJ25; intro u_) | (apply hJ47; intro u_) | (apply hJ53; intro u_) | (apply hJ67; intro u_) | refine LnL.nil ?_) | ((with_reducible refine Bi.dec true ?_ ?_); focus exact rfl) | ((with_reducible refine Bi.dec false ?_ ?_); focus exact rfl) | ((with_reducible refine Bi.sdec true ?_ ?_); focus decide) | ((with_reducible refine Bi.sdec false ?_ ?_); focus decide))
      have l0 : Lim 1 rd0 := newT_lim _ _
      refine (Create_ok h hi (N := 1) (by omega) l0 (by decide) (by decide) E).mono ?_
      clear E
      rintro r w_ ⟨rfl, D2, X2, β2, hD2, ht2, h2, E⟩
      rw [rd_create]
      have i1 : Inv rd1 := create_inv hi _ _ _ _ _
      have l1 : Lim 4 rd1 := create_lim l0 (by omega) _ _ _ _ _
      (repeat first | (with_reducible first | refine Stp.go ?_ | refine StpE.go E ?_ | (refine StpW.go E ?_; clear E; intro w_ E) | (refine StpA.go E ?_; clear E; intro b_ w_ hb_ E) | (apply hJ17; intro u_) | (apply hJ25; intro u_) | (apply hJ47; intro u_) | (apply hJ53; intro u_) | (apply hJ67; intro u_) | refine LnL.nil ?_) | ((with_reducible refine Bi.dec true ?_ ?_); focus exact rfl) | ((with_reducible refine Bi.dec false ?_ ?_); focus exact rfl) | ((with_reducible refine Bi.sdec true ?_ ?_); focus decide) | ((with_reducible refine Bi.sdec false ?_ ?_); focus decide))
      (revert b_; intro q hbq E)
      rw [← ht2]
      (replace E := ((((E.bIx 3).bIx 1).bIx 3).bIx 3))
      obtain ⟨r1, o1⟩ := one_write (d := first) (off := 0) rd_one (by omega)
      have o1 : One (rd1.write 1 0 first).1 first := by
        have : putD emp 0 first = first := by
          unfold putD
          split
          · rename_i he; rw [he]
          · refine ba_ext ?_
            unfold overW
            have e1 : max (emp : BA).size (0 + first.size) = first.size := by show max 0 (0 + first.size) = _; omega
            have e2 : (sized emp first.size).data.toList = List.replicate first.size 0 := by
              unfold sized; simp [emp]; rfl
            rw [e1, e2]
            simp
        rw [this] at o1; exact o1
      refine (Write_ok h2 i1 (N := 4) (by omega) l1 (off := 0) E).mono ?_
      clear E
      rintro r w_ ⟨rfl, D3, X3, β3, hD3, ht3, h3, E⟩
      rw [show rd1.write 1 0 first = rd1.write 1 ((0 : Nat) : Int) first from rfl, r1]
      have i2 : Inv (rd1.write 1 0 first).1 := write_inv i1 _ _ _
      have l2 : Lim 7 (rd1.write 1 0 first).1 := write_lim l1 _ _ _
      (repeat first | (with_reducible first | refine Stp.go ?_ | refine StpE.go E ?_ | (refine StpW.go E ?_; clear E; intro w_ E) | (refine StpA.go E ?_; clear E; intro b_ w_ hb_ E) | (apply hJ17; intro u_) | (apply hJ25; intro u_) | (apply hJ47; intro u_) | (apply hJ53; intro u_) | (apply hJ67; intro u_) | refine LnL.nil ?_) | ((with_reducible refine Bi.dec true ?_ ?_); focus exact rfl) | ((with_reducible refine Bi.dec false ?_ ?_); focus exact rfl) | ((with_reducible refine Bi.sdec true ?_ ?_); focus decide) | ((with_reducible refine Bi.sdec false ?_ ?_); focus decide))
      refine cv16 (by omega) ?_
      rw [← ht3]
      obtain ⟨r2, o2⟩ := one_write (d := second) (off := off) o1 (by omega)
      refine (Write_ok h3 i2 (N := 7) (by omega) l2 E).mono ?_
      clear E
      rintro r w_ ⟨rfl, D4, X4, β4, hD4, ht4, h4, E⟩
      rw [r2]
      have i3 : Inv ((rd1.write 1 0 first).1.write 1 off second).1 := write_inv i2 _ _ _
      generalize hT : ((rd1.write 1 0 first).1.write 1 off second).1 = T3 at *
      (repeat first | (with_reducible first | refine Stp.go ?_ | refine StpE.go E ?_ | (refine StpW.go E ?_; clear E; intro w_ E) | (refine StpA.go E ?_; clear E; intro b_ w_ hb_ E) | (apply hJ17; intro u_) | (apply hJ25; intro u_) | (apply hJ47; intro u_) | (apply hJ53; intro u_) | (apply hJ67; intro u_) | refine LnL.nil ?_) | ((with_reducible refine Bi.dec true ?_ ?_); focus exact rfl) | ((with_reducible refine Bi.dec false ?_ ?_); focus exact rfl) | ((with_reducible refine Bi.sdec true ?_ ?_); focus decide) | ((with_reducible refine Bi.sdec false ?_ ?_); focus decide))
      (intro J47 hJ47)
      have fin47 : ∀ b w_, b = false → Hs w0 F w_ (trA X4 :: Pool D4 :: pt q (oc [i64 0, i64 0, i64 1] Ty.api_Qid) :: pt rb (oc [str first, str second, .int .u16 off, .int .u16 a, .int .u16 c] Ty.law28_Reading) :: l) → J47 [.bool b] w_ := by
        intro b w_ hb E
        subst hb
        (repeat first | (with_reducible first | refine Stp.go ?_ | refine StpE.go E ?_ | (refine StpW.go E ?_; clear E; intro w_ E) | (refine StpA.go E ?_; clear E; intro b_ w_ hb_ E) | (apply hJ17; intro u_) | (apply hJ25; intro u_) | (apply hJ47; intro u_) | (apply hJ53; intro u_) | (apply hJ67; intro u_) | refine LnL.nil ?_) | ((with_reducible refine Bi.dec true ?_ ?_); focus exact rfl) | ((with_reducible refine Bi.dec false ?_ ?_); focus exact rfl) | ((with_reducible refine Bi.sdec true ?_ ?_); focus decide) | ((with_reducible refine Bi.sdec false ?_ ?_); focus decide))
        refine CvS.sl E u_string u_sl_uint8 u_uint8 ?_
        clear E
        intro v w_ E
        (intro J53 hJ53)
        have fin53 : ∀ v w_, Hs w0 F w_ (slA v Ty.uint8 1 (bts (putD first off second)) :: trA X4 :: Pool D4 :: pt q (oc [i64 0, i64 0, i64 1] Ty.api_Qid) :: pt rb (oc [str first, str second, .int .u16 off, .int .u16 a, .int .u16 c] Ty.law28_Reading) :: l) → J53 [v] w_ := by
          intro v w_ E
          (repeat first | (with_reducible first | refine Stp.go ?_ | refine StpE.go E ?_ | (refine StpW.go E ?_; clear E; intro w_ E) | (refine StpA.go E ?_; clear E; intro b_ w_ hb_ E) | (apply hJ17; intro u_) | (apply hJ25; intro u_) | (apply hJ47; intro u_) | (apply hJ53; intro u_) | (apply hJ67; intro u_) | refine LnL.nil ?_) | ((with_reducible refine Bi.dec true ?_ ?_); focus exact rfl) | ((with_reducible refine Bi.dec false ?_ ?_); focus exact rfl) | ((with_reducible refine Bi.sdec true ?_ ?_); focus decide) | ((with_reducible refine Bi.sdec false ?_ ?_); focus decide))
          refine cv16 (by omega) ?_
          refine cv16 (by omega) ?_
          rw [← ht4]
          (replace E := ((E.bIx 0).bIx 1))
          refine (Read_ok h4 i3 (D := D4) (by simp) E).mono ?_
          clear E
          rintro r w_ ⟨rfl, E⟩
          rw [one_read o2]
          generalize putD first off second = S at E ⊢
          have hbl : (bts S).length = S.size := bts_len S
          (repeat first | (with_reducible first | refine Stp.go ?_ | refine StpE.go E ?_ | (refine StpW.go E ?_; clear E; intro w_ E) | (refine StpA.go E ?_; clear E; intro b_ w_ hb_ E) | (apply hJ17; intro u_) | (apply hJ25; intro u_) | (apply hJ47; intro u_) | (apply hJ53; intro u_) | (apply hJ67; intro u_) | refine LnL.nil ?_) | ((with_reducible refine Bi.dec true ?_ ?_); focus exact rfl) | ((with_reducible refine Bi.dec false ?_ ?_); focus exact rfl) | ((with_reducible refine Bi.sdec true ?_ ?_); focus decide) | ((with_reducible refine Bi.sdec false ?_ ?_); focus decide))
          refine cv16 (by omega) ?_
          (repeat first | (with_reducible first | refine Stp.go ?_ | refine StpE.go E ?_ | (refine StpW.go E ?_; clear E; intro w_ E) | (refine StpA.go E ?_; clear E; intro b_ w_ hb_ E) | (apply hJ17; intro u_) | (apply hJ25; intro u_) | (apply hJ47; intro u_) | (apply hJ53; intro u_) | (apply hJ67; intro u_) | refine LnL.nil ?_) | ((with_reducible refine Bi.dec true ?_ ?_); focus exact rfl) | ((with_reducible refine Bi.dec false ?_ ?_); focus exact rfl) | ((with_reducible refine Bi.sdec true ?_ ?_); focus decide) | ((with_reducible refine Bi.sdec false ?_ ?_); focus decide))
          refine Mn.nat ?_
          rw [hbl]
          refine Sl.sl E (i := 1) rfl (by omega) (a := min a S.size) (b := S.size) (by simp [bnd]) (by simp [bnd, hbl]) (by omega) (by rw [hbl]; omega) ?_
          clear E
          intro v1 E
          (try simp only [List.set_cons_zero, List.set_cons_succ, List.cons_append, List.nil_append, Nat.zero_add, Nat.add_zero] at E)
          have e1 : List.drop (min a S.size * 1) (List.take (S.size * 1) (bts S)) = (bts S).drop a := by
            rw [Nat.mul_one, Nat.mul_one, List.take_of_length_le (by omega)]
            by_cases h : a ≤ S.size
            · rw [Nat.min_eq_left h]
            · rw [Nat.min_eq_right (by omega), List.drop_eq_nil_of_le (by omega), List.drop_eq_nil_of_le (by omega)]
          rw [e1] at E
          (intro J67 hJ67)
          have fin67 : ∀ b w_, b = true → (∃ l', Hs w0 F w_ l') → J67 [.bool b] w_ := by
            intro b w_ hb E
            subst hb
            (repeat first | (with_reducible first | refine Stp.go ?_ | refine StpE.go E ?_ | (refine StpW.go E ?_; clear E; intro w_ E) | (refine StpA.go E ?_; clear E; intro b_ w_ hb_ E) | (apply hJ17; intro u_) | (apply hJ25; intro u_) | (apply hJ47; intro u_) | (apply hJ53; intro u_) | (apply hJ67; intro u_) | refine LnL.nil ?_) | ((with_reducible refine Bi.dec true ?_ ?_); focus exact rfl) | ((with_reducible refine Bi.dec false ?_ ?_); focus exact rfl) | ((with_reducible refine Bi.sdec true ?_ ?_); focus decide) | ((with_reducible refine Bi.sdec false ?_ ?_); focus decide))
            exact ⟨rfl, E⟩
          clear hJ67
          (repeat first | (with_reducible first | refine Stp.go ?_ | refine StpE.go E ?_ | (refine StpW.go E ?_; clear E; intro w_ E) | (refine StpA.go E ?_; clear E; intro b_ w_ hb_ E) | (apply hJ17; intro u_) | (apply hJ25; intro u_) | (apply hJ47; intro u_) | (apply hJ53; intro u_) | (apply hJ67; intro u_) | refine LnL.nil ?_) | ((with_reducible refine Bi.dec true ?_ ?_); focus exact rfl) | ((with_reducible refine Bi.dec false ?_ ?_); focus exact rfl) | ((with_reducible refine Bi.sdec true ?_ ?_); focus decide) | ((with_reducible refine Bi.sdec false ?_ ?_); focus decide))
          refine cv16 (by omega) ?_
          (repeat first | (with_reducible first | refine Stp.go ?_ | refine StpE.go E ?_ | (refine StpW.go E ?_; clear E; intro w_ E) | (refine StpA.go E ?_; clear E; intro b_ w_ hb_ E) | (apply hJ17; intro u_) | (apply hJ25; intro u_) | (apply hJ47; intro u_) | (apply hJ53; intro u_) | (apply hJ67; intro u_) | refine LnL.nil ?_) | ((with_reducible refine Bi.dec true ?_ ?_); focus exact rfl) | ((with_reducible refine Bi.dec false ?_ ?_); focus exact rfl) | ((with_reducible refine Bi.sdec true ?_ ?_); focus decide) | ((with_reducible refine Bi.sdec false ?_ ?_); focus decide))
          refine Mn.nat ?_
          have hm : min ((bts S).drop a).length c = min c (S.size - a) := by rw [List.length_drop, hbl]; omega
          rw [hm]
          (repeat first | (with_reducible first | refine Stp.go ?_ | refine StpE.go E ?_ | (refine StpW.go E ?_; clear E; intro w_ E) | (refine StpA.go E ?_; clear E; intro b_ w_ hb_ E) | (apply hJ17; intro u_) | (apply hJ25; intro u_) | (apply hJ47; intro u_) | (apply hJ53; intro u_) | (apply hJ67; intro u_) | refine LnL.nil ?_) | ((with_reducible refine Bi.dec true ?_ ?_); focus exact rfl) | ((with_reducible refine Bi.dec false ?_ ?_); focus exact rfl) | ((with_reducible refine Bi.sdec true ?_ ?_); focus decide) | ((with_reducible refine Bi.sdec false ?_ ?_); focus decide))
          refine Sl.sl E (i := 1) rfl (by omega) (a := 0) (b := min c (S.size - a)) (by simp [bnd]) (by simp [bnd]) (by omega) (by rw [List.length_drop, hbl]; omega) ?_
          clear E
          intro v2 E
          (try simp only [List.set_cons_zero, List.set_cons_succ, List.cons_append, List.nil_append, Nat.zero_add, Nat.add_zero] at E)
          have e2 : List.drop (0 * 1) (List.take (min c (S.size - a) * 1) ((bts S).drop a)) = bts ⟨((S.data.toList.drop a).take c).toArray⟩ := by
            rw [Nat.zero_mul, List.drop_zero, Nat.mul_one]
            have : bts ⟨((S.data.toList.drop a).take c).toArray⟩ = ((bts S).drop a).take c := by simp [bts, List.map_take, List.map_drop]
            rw [this]
            by_cases h : c ≤ S.size - a
            · rw [Nat.min_eq_left h]
            · rw [Nat.min_eq_right (by omega), List.take_of_length_le (by rw [List.length_drop]; omega), List.take_of_length_le (by rw [List.length_drop]; omega)]
          rw [e2] at E
          (repeat first | (with_reducible first | refine Stp.go ?_ | refine StpE.go E ?_ | (refine StpW.go E ?_; clear E; intro w_ E) | (refine StpA.go E ?_; clear E; intro b_ w_ hb_ E) | (apply hJ17; intro u_) | (apply hJ25; intro u_) | (apply hJ47; intro u_) | (apply hJ53; intro u_) | (apply hJ67; intro u_) | refine LnL.nil ?_) | ((with_reducible refine Bi.dec true ?_ ?_); focus exact rfl) | ((with_reducible refine Bi.dec false ?_ ?_); focus exact rfl) | ((with_reducible refine Bi.sdec true ?_ ?_); focus decide) | ((with_reducible refine Bi.sdec false ?_ ?_); focus decide))
          refine CvB.sl E (s := ⟨((S.data.toList.drop a).take c).toArray⟩) (by (first | assumption | exact FPt.mem | exact FMp.mem | exact FSl.mem | (repeat (first | assumption | with_reducible exact List.mem_cons_self | refine List.mem_cons_of_mem _ ?_)))) u_sl_uint8 u_string u_uint8 ?_
          (repeat first | (with_reducible first | refine Stp.go ?_ | refine StpE.go E ?_ | (refine StpW.go E ?_; clear E; intro w_ E) | (refine StpA.go E ?_; clear E; intro b_ w_ hb_ E) | (apply hJ17; intro u_) | (apply hJ25; intro u_) | (apply hJ47; intro u_) | (apply hJ53; intro u_) | (apply hJ67; intro u_) | refine LnL.nil ?_) | ((with_reducible refine Bi.dec true ?_ ?_); focus exact rfl) | ((with_reducible refine Bi.dec false ?_ ?_); focus exact rfl) | ((with_reducible refine Bi.sdec true ?_ ?_); focus decide) | ((with_reducible refine Bi.sdec false ?_ ?_); focus decide))
          refine Bi.seqT rfl ?_
          (repeat first | (with_reducible first | refine Stp.go ?_ | refine StpE.go E ?_ | (refine StpW.go E ?_; clear E; intro w_ E) | (refine StpA.go E ?_; clear E; intro b_ w_ hb_ E) | (apply hJ17; intro u_) | (apply hJ25; intro u_) | (apply hJ47; intro u_) | (apply hJ53; intro u_) | (apply hJ67; intro u_) | refine LnL.nil ?_) | ((with_reducible refine Bi.dec true ?_ ?_); focus exact rfl) | ((with_reducible refine Bi.dec false ?_ ?_); focus exact rfl) | ((with_reducible refine Bi.sdec true ?_ ?_); focus decide) | ((with_reducible refine Bi.sdec false ?_ ?_); focus decide))
          exact fin67 _ _ rfl ⟨_, E⟩
        clear hJ53
        refine Bi.sneq ?_ ?_ <;> intro hse <;> (repeat first | (with_reducible first | refine Stp.go ?_ | refine StpE.go E ?_ | (refine StpW.go E ?_; clear E; intro w_ E) | (refine StpA.go E ?_; clear E; intro b_ w_ hb_ E) | (apply hJ17; intro u_) | (apply hJ25; intro u_) | (apply hJ47; intro u_) | (apply hJ53; intro u_) | (apply hJ67; intro u_) | refine LnL.nil ?_) | ((with_reducible refine Bi.dec true ?_ ?_); focus exact rfl) | ((with_reducible refine Bi.dec false ?_ ?_); focus exact rfl) | ((with_reducible refine Bi.sdec true ?_ ?_); focus decide) | ((with_reducible refine Bi.sdec false ?_ ?_); focus decide))
        · have hse' : ¬ second = emp := hse
          have hspos : 0 < second.size := by
            have := mt emp_size.1 hse'; omega
          refine ⟨fun l1 w1 => ∃ (v : Value) (k : Nat), l1 = [v] ∧ (k = 0 ∨ first.size + k ≤ off + second.size) ∧ Hs w0 F w1 (slA v Ty.uint8 1 (bts first ++ List.replicate k (.int .u8 0)) :: trA X4 :: Pool D4 :: pt q (oc [i64 0, i64 0, i64 1] Ty.api_Qid) :: pt rb (oc [str first, str second, .int .u16 off, .int .u16 a, .int .u16 c] Ty.law28_Reading) :: l),
            fun l1 _ => match l1 with | [.slice _ n _] => off + second.size + 1 - n | _ => 0, ⟨v, 0, rfl, .inl rfl, by rw [List.replicate_zero, List.append_nil]; exact E⟩, ?_⟩
          clear E
          rintro t u w1 ⟨v, k, h1, hk, E⟩
          cases h1
          have hlen : (bts first ++ List.replicate k (Value.int .u8 0)).length = first.size + k := by simp [bts]
          have hvl := SliceAt.len (E.sat _ List.mem_cons_self) (by omega)
          rw [hlen, Nat.div_one] at hvl
          obtain ⟨pa, pc, hv⟩ := hvl
          refine Ln.eq hv ?_
          refine cv16 (by omega) ?_
          (repeat first | (with_reducible first | refine Stp.go ?_ | refine StpE.go E ?_ | (refine StpW.go E ?_; clear E; intro w_ E) | (refine StpA.go E ?_; clear E; intro b_ w_ hb_ E) | (apply hJ17; intro u_) | (apply hJ25; intro u_) | (apply hJ47; intro u_) | (apply hJ53; intro u_) | (apply hJ67; intro u_) | refine LnL.nil ?_) | ((with_reducible refine Bi.dec true ?_ ?_); focus exact rfl) | ((with_reducible refine Bi.dec false ?_ ?_); focus exact rfl) | ((with_reducible refine Bi.sdec true ?_ ?_); focus decide) | ((with_reducible refine Bi.sdec false ?_ ?_); focus decide))
          refine Bi.add (by omega) ?_
          refine Bi.lss ?_ ?_ <;> intro hlt <;> (repeat first | (with_reducible first | refine Stp.go ?_ | refine StpE.go E ?_ | (refine StpW.go E ?_; clear E; intro w_ E) | (refine StpA.go E ?_; clear E; intro b_ w_ hb_ E) | (apply hJ17; intro u_) | (apply hJ25; intro u_) | (apply hJ47; intro u_) | (apply hJ53; intro u_) | (apply hJ67; intro u_) | refine LnL.nil ?_) | ((with_reducible refine Bi.dec true ?_ ?_); focus exact rfl) | ((with_reducible refine Bi.dec false ?_ ?_); focus exact rfl) | ((with_reducible refine Bi.sdec true ?_ ?_); focus decide) | ((with_reducible refine Bi.sdec false ?_ ?_); focus decide))
          · refine BdS.one E u_sl_uint8 e_uint8 rfl ?_
            clear E
            intro v2 w_ E
            refine Ap.one E (i := 1) rfl u_sl_uint8 ⟨_, u_sl_uint8, fun _ h => by cases h⟩ e_uint8 (Src.one E (by (first | assumption | exact FPt.mem | exact FMp.mem | exact FSl.mem | (repeat (first | assumption | with_reducible exact List.mem_cons_self | refine List.mem_cons_of_mem _ ?_)))) rfl) rfl (by rw [hlen]; simp; omega) (by rw [hlen]; simp; omega) ?_
            clear E
            intro s' w_ E
            (try simp only [List.set_cons_zero, List.set_cons_succ, List.cons_append, List.nil_append, Nat.zero_add, Nat.add_zero] at E)
            replace E := E.tl
            have hr : bts first ++ List.replicate k (Value.int .u8 0) ++ [Value.int .u8 0] = bts first ++ List.replicate (k + 1) (Value.int .u8 0) := by rw [List.append_assoc, ← List.replicate_succ']
            rw [hr] at E
            have hlen2 : (bts first ++ List.replicate (k + 1) (Value.int .u8 0)).length = first.size + (k + 1) := by simp [bts]
            have hvl2 := SliceAt.len (E.sat _ List.mem_cons_self) (by omega)
            rw [hlen2, Nat.div_one] at hvl2
            obtain ⟨pa2, pc2, hv2⟩ := hvl2
            refine ⟨⟨s', k + 1, rfl, .inr (by omega), E⟩, ?_⟩
            rw [hv, hv2]
            simp only []
            omega
          · refine Sl.view E (by (first | assumption | exact FPt.mem | exact FMp.mem | exact FSl.mem | (repeat (first | assumption | with_reducible exact List.mem_cons_self | refine List.mem_cons_of_mem _ ?_)))) (by rw [hlen]; omega) ?_
            intro v' hv'
            refine Cpy.sl (n := second.size) (m := second.size) (ys := bts second) E hv' u_sl_uint8 s_uint8 rfl (by rw [hlen]; omega) ((Src.str (P := PP) (w := w1)).cells w1 rfl) (bts_len second) (by rw [hlen]; omega) (bts_scal second) ?_
            clear E
            intro w_ E
            refine fin53 _ _ ?_
            have hn : max first.size (off + second.size) - first.size = k := by omega
            have e : bts (putD first off second) = List.take off (bts first ++ List.replicate k (Value.int .u8 0)) ++ bts second ++ List.drop (off + second.size) (bts first ++ List.replicate k (Value.int .u8 0)) := by
              unfold putD
              rw [if_neg hse', bts_over, bts_sized, List.take_of_length_le (l := bts first) (by rw [bts_len]; omega), hn]
            rw [e]
            exact E
        · refine fin53 _ _ ?_
          have : putD first off second = first := by unfold putD; rw [if_pos (show second = emp from hse)]
          rw [this]; exact E
      clear hJ47
      (repeat first | (with_reducible first | refine Stp.go ?_ | refine StpE.go E ?_ | (refine StpW.go E ?_; clear E; intro w_ E) | (refine StpA.go E ?_; clear E; intro b_ w_ hb_ E) | (apply hJ17; intro u_) | (apply hJ25; intro u_) | (apply hJ47; intro u_) | (apply hJ53; intro u_) | (apply hJ67; intro u_) | refine LnL.nil ?_) | ((with_reducible refine Bi.dec true ?_ ?_); focus exact rfl) | ((with_reducible refine Bi.dec false ?_ ?_); focus exact rfl) | ((with_reducible refine Bi.sdec true ?_ ?_); focus decide) | ((with_reducible refine Bi.sdec false ?_ ?_); focus decide))
      refine Bi.eqN ?_
      (repeat first | (with_reducible first | refine Stp.go ?_ | refine StpE.go E ?_ | (refine StpW.go E ?_; clear E; intro w_ E) | (refine StpA.go E ?_; clear E; intro b_ w_ hb_ E) | (apply hJ17; intro u_) | (apply hJ25; intro u_) | (apply hJ47; intro u_) | (apply hJ53; intro u_) | (apply hJ67; intro u_) | refine LnL.nil ?_) | ((with_reducible refine Bi.dec true ?_ ?_); focus exact rfl) | ((with_reducible refine Bi.dec false ?_ ?_); focus exact rfl) | ((with_reducible refine Bi.sdec true ?_ ?_); focus decide) | ((with_reducible refine Bi.sdec false ?_ ?_); focus decide))
      refine Bi.eqN ?_
      (repeat first | (with_reducible first | refine Stp.go ?_ | refine StpE.go E ?_ | (refine StpW.go E ?_; clear E; intro w_ E) | (refine StpA.go E ?_; clear E; intro b_ w_ hb_ E) | (apply hJ17; intro u_) | (apply hJ25; intro u_) | (apply hJ47; intro u_) | (apply hJ53; intro u_) | (apply hJ67; intro u_) | refine LnL.nil ?_) | ((with_reducible refine Bi.dec true ?_ ?_); focus exact rfl) | ((with_reducible refine Bi.dec false ?_ ?_); focus exact rfl) | ((with_reducible refine Bi.sdec true ?_ ?_); focus decide) | ((with_reducible refine Bi.sdec false ?_ ?_); focus decide))
      exact fin47 _ _ rfl E
    clear hJ25
    (repeat first | (with_reducible first | refine Stp.go ?_ | refine StpE.go E ?_ | (refine StpW.go E ?_; clear E; intro w_ E) | (refine StpA.go E ?_; clear E; intro b_ w_ hb_ E) | (apply hJ17; intro u_) | (apply hJ25; intro u_) | (apply hJ47; intro u_) | (apply hJ53; intro u_) | (apply hJ67; intro u_) | refine LnL.nil ?_) | ((with_reducible refine Bi.dec true ?_ ?_); focus exact rfl) | ((with_reducible refine Bi.dec false ?_ ?_); focus exact rfl) | ((with_reducible refine Bi.sdec true ?_ ?_); focus decide) | ((with_reducible refine Bi.sdec false ?_ ?_); focus decide))
    refine Eq.ef u_p_tree rfl ?_
    (repeat first | (with_reducible first | refine Stp.go ?_ | refine StpE.go E ?_ | (refine StpW.go E ?_; clear E; intro w_ E) | (refine StpA.go E ?_; clear E; intro b_ w_ hb_ E) | (apply hJ17; intro u_) | (apply hJ25; intro u_) | (apply hJ47; intro u_) | (apply hJ53; intro u_) | (apply hJ67; intro u_) | refine LnL.nil ?_) | ((with_reducible refine Bi.dec true ?_ ?_); focus exact rfl) | ((with_reducible refine Bi.dec false ?_ ?_); focus exact rfl) | ((with_reducible refine Bi.sdec true ?_ ?_); focus decide) | ((with_reducible refine Bi.sdec false ?_ ?_); focus decide))
    exact fin25 _ _ rfl E
  clear hJ17
  (repeat first | (with_reducible first | refine Stp.go ?_ | refine StpE.go E ?_ | (refine StpW.go E ?_; clear E; intro w_ E) | (refine StpA.go E ?_; clear E; intro b_ w_ hb_ E) | (apply hJ17; intro u_) | (apply hJ25; intro u_) | (apply hJ47; intro u_) | (apply hJ53; intro u_) | (apply hJ67; intro u_) | refine LnL.nil ?_) | ((with_reducible refine Bi.dec true ?_ ?_); focus exact rfl) | ((with_reducible refine Bi.dec false ?_ ?_); focus exact rfl) | ((with_reducible refine Bi.sdec true ?_ ?_); focus decide) | ((with_reducible refine Bi.sdec false ?_ ?_); focus decide))
  refine Bi.gtr ?_ ?_ <;> intro c1 <;> (repeat first | (with_reducible first | refine Stp.go ?_ | refine StpE.go E ?_ | (refine StpW.go E ?_; clear E; intro w_ E) | (refine StpA.go E ?_; clear E; intro b_ w_ hb_ E) | (apply hJ17; intro u_) | (apply hJ25; intro u_) | (apply hJ47; intro u_) | (apply hJ53; intro u_) | (apply hJ67; intro u_) | refine LnL.nil ?_) | ((with_reducible refine Bi.dec true ?_ ?_); focus exact rfl) | ((with_reducible refine Bi.dec false ?_ ?_); focus exact rfl) | ((with_reducible refine Bi.sdec true ?_ ?_); focus decide) | ((with_reducible refine Bi.sdec false ?_ ?_); focus decide))
  · exact fin17 _ _ (by rw [decide_eq_true (.inl (by omega))]) E
  refine Bi.gtr ?_ ?_ <;> intro c2 <;> (repeat first | (with_reducible first | refine Stp.go ?_ | refine StpE.go E ?_ | (refine StpW.go E ?_; clear E; intro w_ E) | (refine StpA.go E ?_; clear E; intro b_ w_ hb_ E) | (apply hJ17; intro u_) | (apply hJ25; intro u_) | (apply hJ47; intro u_) | (apply hJ53; intro u_) | (apply hJ67; intro u_) | refine LnL.nil ?_) | ((with_reducible refine Bi.dec true ?_ ?_); focus exact rfl) | ((with_reducible refine Bi.dec false ?_ ?_); focus exact rfl) | ((with_reducible refine Bi.sdec true ?_ ?_); focus decide) | ((with_reducible refine Bi.sdec false ?_ ?_); focus decide))
  · exact fin17 _ _ (by rw [decide_eq_true (.inr (.inl (by omega)))]) E
  refine Bi.gtr ?_ ?_ <;> intro c3 <;> (repeat first | (with_reducible first | refine Stp.go ?_ | refine StpE.go E ?_ | (refine StpW.go E ?_; clear E; intro w_ E) | (refine StpA.go E ?_; clear E; intro b_ w_ hb_ E) | (apply hJ17; intro u_) | (apply hJ25; intro u_) | (apply hJ47; intro u_) | (apply hJ53; intro u_) | (apply hJ67; intro u_) | refine LnL.nil ?_) | ((with_reducible refine Bi.dec true ?_ ?_); focus exact rfl) | ((with_reducible refine Bi.dec false ?_ ?_); focus exact rfl) | ((with_reducible refine Bi.sdec true ?_ ?_); focus decide) | ((with_reducible refine Bi.sdec false ?_ ?_); focus decide))
  · exact fin17 _ _ (by rw [decide_eq_true (.inr (.inr (.inl (by omega))))]) E
  refine Bi.gtr ?_ ?_ <;> intro c4 <;> (repeat first | (with_reducible first | refine Stp.go ?_ | refine StpE.go E ?_ | (refine StpW.go E ?_; clear E; intro w_ E) | (refine StpA.go E ?_; clear E; intro b_ w_ hb_ E) | (apply hJ17; intro u_) | (apply hJ25; intro u_) | (apply hJ47; intro u_) | (apply hJ53; intro u_) | (apply hJ67; intro u_) | refine LnL.nil ?_) | ((with_reducible refine Bi.dec true ?_ ?_); focus exact rfl) | ((with_reducible refine Bi.dec false ?_ ?_); focus exact rfl) | ((with_reducible refine Bi.sdec true ?_ ?_); focus decide) | ((with_reducible refine Bi.sdec false ?_ ?_); focus decide))
  · exact fin17 _ _ (by rw [decide_eq_true (.inr (.inr (.inr (by omega))))]) E
  · exact fin17 _ _ (by rw [decide_eq_false (by omega)]) E
end Go.Proofs.YtnnhmahemklnkaaDoor
