/-
  Trees: the example of the chapter.
-/
import Derived.Test.YtnnhmahemklnkaaDoorTi2
import Derived.Test.YtnnhmahemklnkaaDoorSh18
namespace Go.Proofs.YtnnhmahemklnkaaDoor
open Go Go.Sh
set_option maxRecDepth 100000
set_option linter.unusedVariables false
set_option linter.unusedSimpArgs false
variable {w0 w : World} {F : Nat → Prop} {l : List As}

abbrev ann : BA := ⟨#[97, 110, 110]⟩
abbrev bob : BA := ⟨#[98, 111, 98]⟩
abbrev nmF : BA := ⟨#[102]⟩
abbrev aw0 : Tr := newT ann []
abbrev aw1 : Tr := (aw0.create ann 0 nmF 438 2).1
abbrev aw2 : Tr := (aw1.write 1 2 ⟨#[97, 98]⟩).1
theorem gin_nil (v : Value) (hv : v = .slice none 0 0) : GIn w0 F l v [] [] := by
  subst hv
  exact ⟨⟨none, 0, rfl, Nat.le_refl _, rfl, .inl rfl⟩, rfl, fun i a b h => by simp at h⟩
theorem checkG_ann : checkG [] [ann] = 0 := by decide
theorem aw_create : (aw0.create ann 0 nmF 438 2).2 = (1, ⟨0, 0, 1⟩, 0) := by kernel_rfl
theorem aw_write : (aw1.write 1 2 ⟨#[97, 98]⟩).2 = (2, 0) := by kernel_rfl
theorem aw_read : aw2.read 1 0 9 = (⟨#[0, 0, 97, 98]⟩, 0) := by kernel_rfl
theorem aw_stat : aw2.stat 1 = (⟨0, 1, 1, 436, 2, 4, nmF, ann, ann, ann⟩, 0) := by kernel_rfl
theorem aw_open : (aw2.openF bob 1 1).2.2.2 = 17 := by kernel_rfl
theorem aw_clean : cleanS ⟨#[47, 97, 47, 47, 98, 47, 46, 47, 46, 46, 47, 99, 47, 46, 46]⟩ = ⟨#[47, 97]⟩ := by kernel_rfl
theorem Hs.drop2 {A B : As} (E : Hs w0 F w (A :: B :: l)) : Hs w0 F w l := E.tl.tl
abbrev lkQid : List LK := [.int .i64, .int .i64, .int .i64]
theorem lv_Qid : lv PP 20 Ty.api_Qid = some lkQid := by kernel_rfl
theorem st_Qid : isSt PP Ty.api_Qid = true := by kernel_rfl
theorem g_Qid : PP.eqGuardType PP.depth Ty.api_Qid = false := by kernel_rfl

theorem awake_ok {D : List Row} (E : Hs w0 F w (Pool D :: l)) : Ca PP Fn.law28_awake #[] w fun r w' => r = .bool true ∧ ∃ D', (∀ x ∈ D, x ∈ D') ∧ Hs w0 F w' (Pool D' :: l) := by
  refine S.law28_awake.calls ?_
  unfold S.law28_awake
  refine (New_ok (owner := ann) (gin_nil _ rfl) (by simp) (fun g h => by cases h) (by
    intro s hs
    have : s = ann := by simpa [gwords] using hs
    rw [this]; decide) E).mono ?_
  clear E
  rintro r w_ (⟨hc, -, -⟩ | ⟨-, D1, X, β, rfl, hD1, h, hi, E⟩)
  · exact absurd checkG_ann hc
  (repeat first | (with_reducible first | refine Stp.go ?_ | refine StpE.go E ?_ | (refine StpW.go E ?_; clear E; intro w_ E) | (refine StpA.go E ?_; clear E; intro b_ w_ hb_ E) | (apply hJ5; intro u_) | (apply hJ17; intro u_) | (apply hJ44; intro u_) | refine LnL.nil ?_) | ((with_reducible refine Bi.dec true ?_ ?_); focus exact rfl) | ((with_reducible refine Bi.dec false ?_ ?_); focus exact rfl) | ((with_reducible refine Bi.sdec true ?_ ?_); focus decide) | ((with_reducible refine Bi.sdec false ?_ ?_); focus decide))
  (intro J5 hJ5)
  have fin5 : ∀ b w_, b = false → Hs w0 F w_ (trA X :: Pool D1 :: l) → J5 [.bool b] w_ := by
    intro b w_ hb E
    subst hb
    (repeat first | (with_reducible first | refine Stp.go ?_ | refine StpE.go E ?_ | (refine StpW.go E ?_; clear E; intro w_ E) | (refine StpA.go E ?_; clear E; intro b_ w_ hb_ E) | (apply hJ5; intro u_) | (apply hJ17; intro u_) | (apply hJ44; intro u_) | refine LnL.nil ?_) | ((with_reducible refine Bi.dec true ?_ ?_); focus exact rfl) | ((with_reducible refine Bi.dec false ?_ ?_); focus exact rfl) | ((with_reducible refine Bi.sdec true ?_ ?_); focus decide) | ((with_reducible refine Bi.sdec false ?_ ?_); focus decide))
    have l0 : Lim 1 aw0 := newT_lim _ _
    refine (Create_ok h hi (N := 1) (by omega) l0 (by decide) (by decide) E).mono ?_
    clear E
    rintro r w_ ⟨rfl, D2, X2, β2, hD2, ht2, h2, E⟩
    rw [aw_create]
    have i1 : Inv aw1 := create_inv hi _ _ _ _ _
    have l1 : Lim 4 aw1 := create_lim l0 (by omega) _ _ _ _ _
    (repeat first | (with_reducible first | refine Stp.go ?_ | refine StpE.go E ?_ | (refine StpW.go E ?_; clear E; intro w_ E) | (refine StpA.go E ?_; clear E; intro b_ w_ hb_ E) | (apply hJ5; intro u_) | (apply hJ17; intro u_) | (apply hJ44; intro u_) | refine LnL.nil ?_) | ((with_reducible refine Bi.dec true ?_ ?_); focus exact rfl) | ((with_reducible refine Bi.dec false ?_ ?_); focus exact rfl) | ((with_reducible refine Bi.sdec true ?_ ?_); focus decide) | ((with_reducible refine Bi.sdec false ?_ ?_); focus decide))
    (revert b_; intro q hbq E)
    (intro J17 hJ17)
    have fin17 : ∀ b w_, b = false → Hs w0 F w_ (pt q (oc [i64 0, i64 0, i64 1] Ty.api_Qid) :: trA X2 :: Pool D2 :: l) → J17 [.bool b] w_ := by
      intro b w_ hb E
      subst hb
      (repeat first | (with_reducible first | refine Stp.go ?_ | refine StpE.go E ?_ | (refine StpW.go E ?_; clear E; intro w_ E) | (refine StpA.go E ?_; clear E; intro b_ w_ hb_ E) | (apply hJ5; intro u_) | (apply hJ17; intro u_) | (apply hJ44; intro u_) | refine LnL.nil ?_) | ((with_reducible refine Bi.dec true ?_ ?_); focus exact rfl) | ((with_reducible refine Bi.dec false ?_ ?_); focus exact rfl) | ((with_reducible refine Bi.sdec true ?_ ?_); focus decide) | ((with_reducible refine Bi.sdec false ?_ ?_); focus decide))
      rw [← ht2]
      (replace E := (((E.bIx 0).bIx 2).bIx 2))
      refine (Write_ok h2 i1 (N := 4) (by omega) l1 E).mono ?_
      clear E
      rintro r w_ ⟨rfl, D3, X3, β3, hD3, ht3, h3, E⟩
      rw [aw_write]
      have i2 : Inv aw2 := write_inv i1 _ _ _
      have l2 : Lim 7 aw2 := write_lim l1 _ _ _
      (repeat first | (with_reducible first | refine Stp.go ?_ | refine StpE.go E ?_ | (refine StpW.go E ?_; clear E; intro w_ E) | (refine StpA.go E ?_; clear E; intro b_ w_ hb_ E) | (apply hJ5; intro u_) | (apply hJ17; intro u_) | (apply hJ44; intro u_) | refine LnL.nil ?_) | ((with_reducible refine Bi.dec true ?_ ?_); focus exact rfl) | ((with_reducible refine Bi.dec false ?_ ?_); focus exact rfl) | ((with_reducible refine Bi.sdec true ?_ ?_); focus decide) | ((with_reducible refine Bi.sdec false ?_ ?_); focus decide))
      rw [← ht3]
      refine (Read_ok h3 i2 (D := D3) (by simp) E).mono ?_
      clear E
      rintro r w_ ⟨rfl, E⟩
      rw [aw_read]
      (repeat first | (with_reducible first | refine Stp.go ?_ | refine StpE.go E ?_ | (refine StpW.go E ?_; clear E; intro w_ E) | (refine StpA.go E ?_; clear E; intro b_ w_ hb_ E) | (apply hJ5; intro u_) | (apply hJ17; intro u_) | (apply hJ44; intro u_) | refine LnL.nil ?_) | ((with_reducible refine Bi.dec true ?_ ?_); focus exact rfl) | ((with_reducible refine Bi.dec false ?_ ?_); focus exact rfl) | ((with_reducible refine Bi.sdec true ?_ ?_); focus decide) | ((with_reducible refine Bi.sdec false ?_ ?_); focus decide))
      refine (Stat_ok h3 i2 (D := D3) (by simp) E).mono ?_
      clear E
      rintro r w_ ⟨rfl, E⟩
      rw [aw_stat]
      (repeat first | (with_reducible first | refine Stp.go ?_ | refine StpE.go E ?_ | (refine StpW.go E ?_; clear E; intro w_ E) | (refine StpA.go E ?_; clear E; intro b_ w_ hb_ E) | (apply hJ5; intro u_) | (apply hJ17; intro u_) | (apply hJ44; intro u_) | refine LnL.nil ?_) | ((with_reducible refine Bi.dec true ?_ ?_); focus exact rfl) | ((with_reducible refine Bi.dec false ?_ ?_); focus exact rfl) | ((with_reducible refine Bi.sdec true ?_ ?_); focus decide) | ((with_reducible refine Bi.sdec false ?_ ?_); focus decide))
      (revert b_; intro d hbd E)
      (replace E := (((E.bIx 0).bIx 2).bIx 2))
      refine (Open_ok h3 i2 (N := 7) (by omega) l2 E).mono ?_
      clear E
      rintro r w_ ⟨rfl, D4, X4, β4, hD4, ht4, h4, E⟩
      rw [aw_open]
      (repeat first | (with_reducible first | refine Stp.go ?_ | refine StpE.go E ?_ | (refine StpW.go E ?_; clear E; intro w_ E) | (refine StpA.go E ?_; clear E; intro b_ w_ hb_ E) | (apply hJ5; intro u_) | (apply hJ17; intro u_) | (apply hJ44; intro u_) | refine LnL.nil ?_) | ((with_reducible refine Bi.dec true ?_ ?_); focus exact rfl) | ((with_reducible refine Bi.dec false ?_ ?_); focus exact rfl) | ((with_reducible refine Bi.sdec true ?_ ?_); focus decide) | ((with_reducible refine Bi.sdec false ?_ ?_); focus decide))
      (revert b_; intro q2 hbq2 E)
      (intro J44 hJ44)
      have fin44 : ∀ b w_, b = true → Hs w0 F w_ (Pool D4 :: l) → J44 [.bool b] w_ := by
        intro b w_ hb E
        subst hb
        (repeat first | (with_reducible first | refine Stp.go ?_ | refine StpE.go E ?_ | (refine StpW.go E ?_; clear E; intro w_ E) | (refine StpA.go E ?_; clear E; intro b_ w_ hb_ E) | (apply hJ5; intro u_) | (apply hJ17; intro u_) | (apply hJ44; intro u_) | refine LnL.nil ?_) | ((with_reducible refine Bi.dec true ?_ ?_); focus exact rfl) | ((with_reducible refine Bi.dec false ?_ ?_); focus exact rfl) | ((with_reducible refine Bi.sdec true ?_ ?_); focus decide) | ((with_reducible refine Bi.sdec false ?_ ?_); focus decide))
        exact ⟨rfl, D4, fun x hx => hD4 _ (hD3 _ (hD2 _ (hD1 _ hx))), E⟩
      clear hJ44
      (repeat first | (with_reducible first | refine Stp.go ?_ | refine StpE.go E ?_ | (refine StpW.go E ?_; clear E; intro w_ E) | (refine StpA.go E ?_; clear E; intro b_ w_ hb_ E) | (apply hJ5; intro u_) | (apply hJ17; intro u_) | (apply hJ44; intro u_) | refine LnL.nil ?_) | ((with_reducible refine Bi.dec true ?_ ?_); focus exact rfl) | ((with_reducible refine Bi.dec false ?_ ?_); focus exact rfl) | ((with_reducible refine Bi.sdec true ?_ ?_); focus decide) | ((with_reducible refine Bi.sdec false ?_ ?_); focus decide))
      refine (Clean_ok (by decide) E).mono ?_
      clear E
      rintro r w_ ⟨rfl, E⟩
      rw [aw_clean]
      (repeat first | (with_reducible first | refine Stp.go ?_ | refine StpE.go E ?_ | (refine StpW.go E ?_; clear E; intro w_ E) | (refine StpA.go E ?_; clear E; intro b_ w_ hb_ E) | (apply hJ5; intro u_) | (apply hJ17; intro u_) | (apply hJ44; intro u_) | refine LnL.nil ?_) | ((with_reducible refine Bi.dec true ?_ ?_); focus exact rfl) | ((with_reducible refine Bi.dec false ?_ ?_); focus exact rfl) | ((with_reducible refine Bi.sdec true ?_ ?_); focus decide) | ((with_reducible refine Bi.sdec false ?_ ?_); focus decide))
      refine fin44 _ _ rfl ?_
      (replace E := (E.bIx 0).tl)
      (replace E := (E.bIx 0).tl)
      (replace E := (E.bPt d))
      (replace E := (E.bIx 0).tl)
      (replace E := (E.bPt q))
      exact E.tl
    clear hJ17
    (repeat first | (with_reducible first | refine Stp.go ?_ | refine StpE.go E ?_ | (refine StpW.go E ?_; clear E; intro w_ E) | (refine StpA.go E ?_; clear E; intro b_ w_ hb_ E) | (apply hJ5; intro u_) | (apply hJ17; intro u_) | (apply hJ44; intro u_) | refine LnL.nil ?_) | ((with_reducible refine Bi.dec true ?_ ?_); focus exact rfl) | ((with_reducible refine Bi.dec false ?_ ?_); focus exact rfl) | ((with_reducible refine Bi.sdec true ?_ ?_); focus decide) | ((with_reducible refine Bi.sdec false ?_ ?_); focus decide))
    refine EqS.n (xs := [i64 0, i64 0, i64 1]) (ys := [i64 0, i64 0, i64 1]) lv_Qid st_Qid g_Qid rfl rfl ?_
    simp only [ceqL, ceq, decide_true, Bool.and_self, Bool.not_true]
    (repeat first | (with_reducible first | refine Stp.go ?_ | refine StpE.go E ?_ | (refine StpW.go E ?_; clear E; intro w_ E) | (refine StpA.go E ?_; clear E; intro b_ w_ hb_ E) | (apply hJ5; intro u_) | (apply hJ17; intro u_) | (apply hJ44; intro u_) | refine LnL.nil ?_) | ((with_reducible refine Bi.dec true ?_ ?_); focus exact rfl) | ((with_reducible refine Bi.dec false ?_ ?_); focus exact rfl) | ((with_reducible refine Bi.sdec true ?_ ?_); focus decide) | ((with_reducible refine Bi.sdec false ?_ ?_); focus decide))
    exact fin17 _ _ rfl E
  clear hJ5
  (repeat first | (with_reducible first | refine Stp.go ?_ | refine StpE.go E ?_ | (refine StpW.go E ?_; clear E; intro w_ E) | (refine StpA.go E ?_; clear E; intro b_ w_ hb_ E) | (apply hJ5; intro u_) | (apply hJ17; intro u_) | (apply hJ44; intro u_) | refine LnL.nil ?_) | ((with_reducible refine Bi.dec true ?_ ?_); focus exact rfl) | ((with_reducible refine Bi.dec false ?_ ?_); focus exact rfl) | ((with_reducible refine Bi.sdec true ?_ ?_); focus decide) | ((with_reducible refine Bi.sdec false ?_ ?_); focus decide))
  refine Eq.ef u_p_tree rfl ?_
  (repeat first | (with_reducible first | refine Stp.go ?_ | refine StpE.go E ?_ | (refine StpW.go E ?_; clear E; intro w_ E) | (refine StpA.go E ?_; clear E; intro b_ w_ hb_ E) | (apply hJ5; intro u_) | (apply hJ17; intro u_) | (apply hJ44; intro u_) | refine LnL.nil ?_) | ((with_reducible refine Bi.dec true ?_ ?_); focus exact rfl) | ((with_reducible refine Bi.dec false ?_ ?_); focus exact rfl) | ((with_reducible refine Bi.sdec true ?_ ?_); focus decide) | ((with_reducible refine Bi.sdec false ?_ ?_); focus decide))
  exact fin5 _ _ rfl E
end Go.Proofs.YtnnhmahemklnkaaDoor
