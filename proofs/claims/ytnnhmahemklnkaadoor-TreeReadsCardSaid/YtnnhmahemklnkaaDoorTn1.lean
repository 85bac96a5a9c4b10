/-
  Trees: groups; what is wrong with them.
-/
import Derived.Test.YtnnhmahemklnkaaDoorTr8
namespace Go.Proofs.YtnnhmahemklnkaaDoor
open Go Go.Sh
set_option maxRecDepth 100000
set_option linter.unusedVariables false
set_option linter.unusedSimpArgs false
variable {w0 w : World} {F : Nat → Prop} {l : List As}

theorem RdS.src {P : Program} {n : Nat} {v : Value} {xs : List Value} (h : RdS w0 F l 1 n v xs) (E : Hs w0 F w l) (hs : xs.all scalV = true) : Src P 1 w v n xs := by
  obtain ⟨a, c, rfl, hc, hl, hx⟩ := h
  refine ⟨fun _ => rfl, fun w' hw => ?_, hl, hs⟩
  rcases hx with rfl | ⟨q, rfl, hq⟩
  · have : n = 0 := by simp at hl; omega
    subst this
    cases a with
    | none => rfl
    | some a => simp [Builtin.firstCells, loadCells, loadCellsFrom]
  · refine run_firstCells_some w' 1 n q n c xs hl fun j v hj => ?_
    rcases hq with rfl | ⟨b, o, rfl, hq⟩
    · cases hj
    · rw [add_mk]
      have := hq w E j v hj
      unfold World.cell? at this ⊢
      rw [hw]; exact this

/-- Groups that are handed in. -/
abbrev Gs := List (BA × List BA)
abbrev gcell (g : BA × Value) : List Value := [str g.1, g.2]
structure GIn (w0 : World) (F : Nat → Prop) (l : List As) (v : Value) (gv : List (BA × Value)) (gs : Gs) : Prop where
  rd : RdS w0 F l 2 gs.length v (gv.flatMap gcell)
  len : gv.length = gs.length
  one : ∀ (i : Nat) a b, gv[i]? = some a → gs[i]? = some b → a.1 = b.1 ∧ RdS w0 F l 1 b.2.length a.2 (b.2.map str)
theorem GIn.weaken {l' : List As} {v : Value} {gv : List (BA × Value)} {gs : Gs} (h : GIn w0 F l v gv gs) (hl : ∀ w, Hs w0 F w l' → Hs w0 F w l) : GIn w0 F l' v gv gs :=
  ⟨h.rd.weaken hl, h.len, fun i a b ha hb => ⟨(h.one i a b ha hb).1, (h.one i a b ha hb).2.weaken hl⟩⟩
theorem flat_drop (gv : List (BA × Value)) : ∀ i : Nat, (gv.flatMap gcell).drop (i * 2) = (gv.drop i).flatMap gcell := by
  induction gv with
  | nil => intro i; simp
  | cons g r ih =>
    intro i
    cases i with
    | zero => simp
    | succ i =>
      rw [List.flatMap_cons, show (i + 1) * 2 = i * 2 + 1 + 1 by omega]
      simp only [gcell, List.cons_append, List.nil_append, List.drop_succ_cons]
      exact ih i
/-- The groups' words, the first some of them. -/
def gwords (gs : Gs) : List BA := gs.flatMap fun g => g.1 :: g.2
def glimit (gs : Gs) : Bool := decide (16 < gs.length) || gs.any fun g => decide (16 < g.2.length)
/-- What is wrong with groups and further names. -/
def checkG (gs : Gs) (names : List BA) : Int :=
  if glimit gs = true then 3 else if (names ++ gwords gs).any (fun s => !goodName s) = true then 8 else if (gs.any fun g => twice g.2) || twice (gs.map (·.1)) then 5 else 0

theorem check1_ok {s : BA} (hs : s.size ≤ 9223372036854775807) (E : Hs w0 F w l) : CaV PP (.func (.func Fn.tree_check_1) #[] #[]) #[str s] w fun r w' => r = .bool (!goodName s) ∧ Hs w0 F w' l := by
  refine CaV.mk (by kernel_rfl) ?_
  refine S.tree_check_1.calls ?_
  unfold S.tree_check_1
  refine (Valid_ok hs).mono ?_
  rintro r w' ⟨rfl, rfl⟩
  cases goodName s with
  | true => (repeat first | (with_reducible first | refine Stp.go ?_ | refine StpE.go E ?_ | (refine StpW.go E ?_; clear E; intro w_ E) | (refine StpA.go E ?_; clear E; intro b_ w_ hb_ E) | refine LnL.nil ?_) | ((with_reducible refine Bi.dec true ?_ ?_); focus exact rfl) | ((with_reducible refine Bi.dec false ?_ ?_); focus exact rfl) | ((with_reducible refine Bi.sdec true ?_ ?_); focus decide) | ((with_reducible refine Bi.sdec false ?_ ?_); focus decide)); exact ⟨rfl, E⟩
  | false => (repeat first | (with_reducible first | refine Stp.go ?_ | refine StpE.go E ?_ | (refine StpW.go E ?_; clear E; intro w_ E) | (refine StpA.go E ?_; clear E; intro b_ w_ hb_ E) | refine LnL.nil ?_) | ((with_reducible refine Bi.dec true ?_ ?_); focus exact rfl) | ((with_reducible refine Bi.dec false ?_ ?_); focus exact rfl) | ((with_reducible refine Bi.sdec true ?_ ?_); focus decide) | ((with_reducible refine Bi.sdec false ?_ ?_); focus decide)); exact ⟨rfl, E⟩

theorem check_ok {v nv : Value} {gv : List (BA × Value)} {gs : Gs} {names : List BA} (hg : GIn w0 F l v gv gs) (hn : names.length ≤ 1000) (hgl : gs.length ≤ 100000) (hul : ∀ g ∈ gs, g.2.length ≤ 100000) (hsz : ∀ s ∈ names ++ gwords gs, s.size ≤ 9223372036854775807)
    (E : Hs w0 F w (slA nv Ty.string 1 (names.map str) :: l)) : Ca PP Fn.tree_check #[v, nv] w fun r w' => r = i64 (checkG gs names) ∧ Hs w0 F w' l := by
  refine S.tree_check.calls ?_
  unfold S.tree_check
  refine hg.rd.len ?_
  refine Bi.mk rfl ?_
  refine hg.rd.len ?_
  have E0 : Hs w0 F w (slA nv Ty.string 1 (names.map str) :: slA (.slice none 0 0) Ty.string 1 [] :: l) := (Hs.nilSl E Ty.string 1).perm (List.Perm.swap _ _ _)
  refine ⟨fun l1 w1 => ∃ (i : Nat) (nv tv : Value), i ≤ gs.length ∧ l1 = [nv, tv, .bool (decide ((gs.length : Int) > 16) || (gs.take i).any fun g => decide (16 < g.2.length)), .bool ((gs.take i).any fun g => twice g.2), i64 i] ∧
    Hs w0 F w1 (slA nv Ty.string 1 ((names ++ gwords (gs.take i)).map str) :: slA tv Ty.string 1 (((gs.take i).map (·.1)).map str) :: l), fun l1 _ => match l1 with | [_, _, _, _, .int _ i] => gs.length - i.toNat | _ => 0,
    ⟨0, nv, .slice none 0 0, Nat.zero_le _, by simp, by simpa [gwords] using E0⟩, ?_⟩
  clear E E0
  rintro t1 t5 t6 t7 t15 u w1 ⟨i, nv, tv, hi, h1, E⟩
  cases h1
  have hwl : ∀ g : Gs, g.length ≤ 100000 → (∀ x ∈ g, x.2.length ≤ 100000) → (gwords g).length ≤ g.length * 100001 := by
    intro g
    induction g with
    | nil => intro _ _; simp [gwords]
    | cons x r ih =>
      intro h1 h2
      have := ih (by simp at h1; omega) fun y hy => h2 y (List.mem_cons_of_mem _ hy)
      have h3 := h2 x List.mem_cons_self
      unfold gwords at this ⊢
      rw [List.flatMap_cons, List.length_append, List.length_cons, List.length_cons]
      omega
  have hgw : (gwords (gs.take i)).length ≤ i * 100001 := by
    have := hwl (gs.take i) (by simp; omega) fun x hx => hul x (List.mem_of_mem_take hx)
    rw [List.length_take, Nat.min_eq_left hi] at this
    exact this
  refine Bi.lss ?_ ?_ <;> intro hlt <;> (repeat first | (with_reducible first | refine Stp.go ?_ | refine StpE.go E ?_ | (refine StpW.go E ?_; clear E; intro w_ E) | (refine StpA.go E ?_; clear E; intro b_ w_ hb_ E) | (apply hJ14; intro u_) | (apply hJ27; intro u_) | (apply hJ83; intro u_) | refine LnL.nil ?_) | ((with_reducible refine Bi.dec true ?_ ?_); focus exact rfl) | ((with_reducible refine Bi.dec false ?_ ?_); focus exact rfl) | ((with_reducible refine Bi.sdec true ?_ ?_); focus decide) | ((with_reducible refine Bi.sdec false ?_ ?_); focus decide))
  · have hx : gs[i]? = some gs[i] := List.getElem?_eq_getElem (by omega)
    have hy : gv[i]? = some (gv[i]'(by rw [hg.len]; omega)) := List.getElem?_eq_getElem (by rw [hg.len]; omega)
    obtain ⟨nm, uv, hgi⟩ : ∃ nm uv, gv[i]'(by rw [hg.len]; omega) = (nm, uv) := ⟨_, _, rfl⟩
    obtain ⟨us, hus⟩ : ∃ us, gs[i] = (nm, us) := ⟨gs[i].2, by have := (hg.one i _ _ hy hx).1; rw [hgi] at this; exact Prod.ext this.symm rfl⟩
    have hu := (hg.one i _ _ hy hx).2
    rw [hgi, hus] at hu
    rw [hus] at hx
    rw [hgi] at hy
    have hul1 : us.length ≤ 100000 := hul (nm, us) (List.mem_of_getElem? hx)
    simp only [] at hu
    (intro J14 hJ14)
    refine ((hg.rd.cons (slA t5 Ty.string 1 (((gs.take i).map (·.1)).map str))).cons (slA t1 Ty.string 1 ((names ++ gwords (gs.take i)).map str))).ix (by omega) (by omega) (by omega) ?_
    intro a ha
    rw [Int.toNat_natCast, flat_drop, List.drop_eq_getElem_cons (by rw [hg.len]; omega), hgi, List.flatMap_cons] at ha
    have hus2 := hu
    obtain ⟨p, c, huv, -⟩ := hus2
    refine ha.lda E (m := 2) (ds := [str nm, uv]) rfl rfl (by omega) ?_
    clear ha
    subst huv
    (repeat first | (with_reducible first | refine Stp.go ?_ | refine StpE.go E ?_ | (refine StpW.go E ?_; clear E; intro w_ E) | (refine StpA.go E ?_; clear E; intro b_ w_ hb_ E) | (apply hJ14; intro u_) | (apply hJ27; intro u_) | (apply hJ83; intro u_) | refine LnL.nil ?_) | ((with_reducible refine Bi.dec true ?_ ?_); focus exact rfl) | ((with_reducible refine Bi.dec false ?_ ?_); focus exact rfl) | ((with_reducible refine Bi.sdec true ?_ ?_); focus decide) | ((with_reducible refine Bi.sdec false ?_ ?_); focus decide))
    (revert b_; intro g hbg E)
    have tk : gs.take (i + 1) = gs.take i ++ [(nm, us)] := by rw [List.take_add_one, hx]; rfl
    have hgw2 : gwords (gs.take (i + 1)) = gwords (gs.take i) ++ [nm] ++ us := by rw [tk]; simp [gwords]
    (intro J27 hJ27)
    have fin : ∀ b w_, b = (decide ((gs.length : Int) > 16) || (gs.take (i + 1)).any fun g => decide (16 < g.2.length)) → Hs w0 F w_ (pt g (oc [str nm, .slice p us.length c] Ty.tree_Group) :: slA t1 Ty.string 1 ((names ++ gwords (gs.take i)).map str) :: slA t5 Ty.string 1 (((gs.take i).map (·.1)).map str) :: l) → J27 [.bool b] w_ := by
      intro b w_ hb E
      (repeat first | (with_reducible first | refine Stp.go ?_ | refine StpE.go E ?_ | (refine StpW.go E ?_; clear E; intro w_ E) | (refine StpA.go E ?_; clear E; intro b_ w_ hb_ E) | (apply hJ14; intro u_) | (apply hJ27; intro u_) | (apply hJ83; intro u_) | refine LnL.nil ?_) | ((with_reducible refine Bi.dec true ?_ ?_); focus exact rfl) | ((with_reducible refine Bi.dec false ?_ ?_); focus exact rfl) | ((with_reducible refine Bi.sdec true ?_ ?_); focus decide) | ((with_reducible refine Bi.sdec false ?_ ?_); focus decide))
      clear hJ27
      refine BdS.one E u_sl_string e_string rfl ?_
      clear E
      intro v1 w_ E
      refine ⟨by (repeat first | (with_reducible first | refine Stp.go ?_ | refine StpE.go E ?_ | (refine StpW.go E ?_; clear E; intro w_ E) | (refine StpA.go E ?_; clear E; intro b_ w_ hb_ E) | (apply hJ14; intro u_) | (apply hJ27; intro u_) | (apply hJ83; intro u_) | refine LnL.nil ?_) | ((with_reducible refine Bi.dec true ?_ ?_); focus exact rfl) | ((with_reducible refine Bi.dec false ?_ ?_); focus exact rfl) | ((with_reducible refine Bi.sdec true ?_ ?_); focus decide) | ((with_reducible refine Bi.sdec false ?_ ?_); focus decide)); rfl, ?_⟩
      refine Ap.one E (i := 2) rfl u_sl_string ⟨_, u_sl_string, fun _ h => by cases h⟩ e_string (Src.one E (by (first | assumption | exact FPt.mem | exact FMp.mem | exact FSl.mem | (repeat (first | assumption | with_reducible exact List.mem_cons_self | refine List.mem_cons_of_mem _ ?_)))) rfl) rfl (by simp; omega) (by simp; omega) ?_
      clear E
      intro v2 w_ E
      (try simp only [List.set_cons_zero, List.set_cons_succ, List.cons_append, List.nil_append, Nat.zero_add, Nat.add_zero] at E)
      refine ⟨by (repeat first | (with_reducible first | refine Stp.go ?_ | refine StpE.go E ?_ | (refine StpW.go E ?_; clear E; intro w_ E) | (refine StpA.go E ?_; clear E; intro b_ w_ hb_ E) | (apply hJ14; intro u_) | (apply hJ27; intro u_) | (apply hJ83; intro u_) | refine LnL.nil ?_) | ((with_reducible refine Bi.dec true ?_ ?_); focus exact rfl) | ((with_reducible refine Bi.dec false ?_ ?_); focus exact rfl) | ((with_reducible refine Bi.sdec true ?_ ?_); focus decide) | ((with_reducible refine Bi.sdec false ?_ ?_); focus decide)); rfl, ?_⟩
      refine Ap.one E (i := 2) rfl u_sl_string ⟨_, u_sl_string, fun _ h => by cases h⟩ e_string (RdS.src ((((hu.cons _).cons _).cons _).cons _) E (strs_scal us)) rfl (by simp; omega) (by simp; omega) ?_
      clear E
      intro v3 w_ E
      (try simp only [List.set_cons_zero, List.set_cons_succ, List.cons_append, List.nil_append, Nat.zero_add, Nat.add_zero] at E)
      (repeat first | (with_reducible first | refine Stp.go ?_ | refine StpE.go E ?_ | (refine StpW.go E ?_; clear E; intro w_ E) | (refine StpA.go E ?_; clear E; intro b_ w_ hb_ E) | (apply hJ14; intro u_) | (apply hJ27; intro u_) | (apply hJ83; intro u_) | refine LnL.nil ?_) | ((with_reducible refine Bi.dec true ?_ ?_); focus exact rfl) | ((with_reducible refine Bi.dec false ?_ ?_); focus exact rfl) | ((with_reducible refine Bi.sdec true ?_ ?_); focus decide) | ((with_reducible refine Bi.sdec false ?_ ?_); focus decide))
      refine BdS.one E u_sl_string e_string rfl ?_
      clear E
      intro v4 w_ E
      refine Ap.one E (i := 4) rfl u_sl_string ⟨_, u_sl_string, fun _ h => by cases h⟩ e_string (Src.one E (by (first | assumption | exact FPt.mem | exact FMp.mem | exact FSl.mem | (repeat (first | assumption | with_reducible exact List.mem_cons_self | refine List.mem_cons_of_mem _ ?_)))) rfl) rfl (by simp; omega) (by simp; omega) ?_
      clear E
      intro v5 w_ E
      (try simp only [List.set_cons_zero, List.set_cons_succ, List.cons_append, List.nil_append, Nat.zero_add, Nat.add_zero] at E)
      have fin2 : ∀ b2 w_, b2 = ((gs.take (i + 1)).any fun g => twice g.2) → Hs w0 F w_ (slA v3 Ty.string 1 ((names ++ gwords (gs.take (i + 1))).map str) :: slA v5 Ty.string 1 (((gs.take (i + 1)).map (·.1)).map str) :: l) → J14 [v3, v5, .bool b, .bool b2] w_ := by
        intro b2 w_ hb2 E
        (repeat first | (with_reducible first | refine Stp.go ?_ | refine StpE.go E ?_ | (refine StpW.go E ?_; clear E; intro w_ E) | (refine StpA.go E ?_; clear E; intro b_ w_ hb_ E) | (apply hJ14; intro u_) | (apply hJ27; intro u_) | (apply hJ83; intro u_) | refine LnL.nil ?_) | ((with_reducible refine Bi.dec true ?_ ?_); focus exact rfl) | ((with_reducible refine Bi.dec false ?_ ?_); focus exact rfl) | ((with_reducible refine Bi.sdec true ?_ ?_); focus decide) | ((with_reducible refine Bi.sdec false ?_ ?_); focus decide))
        refine Bi.add (by omega) ?_
        exact ⟨⟨i + 1, v3, v5, by omega, by rw [hb, hb2]; simp, E⟩, by simp only []; omega⟩
      clear hJ14
      have e1 : List.map str (names ++ gwords (List.take i gs)) ++ [str nm] ++ List.map str us = (names ++ gwords (gs.take (i + 1))).map str := by rw [hgw2]; simp
      have e2 : List.map str (List.map (fun x => x.1) (List.take i gs)) ++ [str nm] = ((gs.take (i + 1)).map (·.1)).map str := by rw [tk]; simp
      rw [e1, e2] at E
      have eq2 : ((gs.take (i + 1)).any fun g => twice g.2) = (((gs.take i).any fun g => twice g.2) || twice us) := by rw [tk]; simp
      cases hb2 : (gs.take i).any fun g => twice g.2 with
      | true => (repeat first | (with_reducible first | refine Stp.go ?_ | refine StpE.go E ?_ | (refine StpW.go E ?_; clear E; intro w_ E) | (refine StpA.go E ?_; clear E; intro b_ w_ hb_ E) | (apply hJ14; intro u_) | (apply hJ27; intro u_) | (apply hJ83; intro u_) | refine LnL.nil ?_) | ((with_reducible refine Bi.dec true ?_ ?_); focus exact rfl) | ((with_reducible refine Bi.dec false ?_ ?_); focus exact rfl) | ((with_reducible refine Bi.sdec true ?_ ?_); focus decide) | ((with_reducible refine Bi.sdec false ?_ ?_); focus decide)); exact fin2 _ _ (by rw [eq2, hb2]; rfl) E.tl.tl.tl
      | false =>
        (repeat first | (with_reducible first | refine Stp.go ?_ | refine StpE.go E ?_ | (refine StpW.go E ?_; clear E; intro w_ E) | (refine StpA.go E ?_; clear E; intro b_ w_ hb_ E) | (apply hJ14; intro u_) | (apply hJ27; intro u_) | (apply hJ83; intro u_) | refine LnL.nil ?_) | ((with_reducible refine Bi.dec true ?_ ?_); focus exact rfl) | ((with_reducible refine Bi.dec false ?_ ?_); focus exact rfl) | ((with_reducible refine Bi.sdec true ?_ ?_); focus decide) | ((with_reducible refine Bi.sdec false ?_ ?_); focus decide))
        refine (repeated_ok (by omega) E (((((hu.cons _).cons _).cons _).cons _).cons _)).mono ?_
        clear E
        rintro r w_ ⟨rfl, E⟩
        (repeat first | (with_reducible first | refine Stp.go ?_ | refine StpE.go E ?_ | (refine StpW.go E ?_; clear E; intro w_ E) | (refine StpA.go E ?_; clear E; intro b_ w_ hb_ E) | (apply hJ14; intro u_) | (apply hJ27; intro u_) | (apply hJ83; intro u_) | refine LnL.nil ?_) | ((with_reducible refine Bi.dec true ?_ ?_); focus exact rfl) | ((with_reducible refine Bi.dec false ?_ ?_); focus exact rfl) | ((with_reducible refine Bi.sdec true ?_ ?_); focus decide) | ((with_reducible refine Bi.sdec false ?_ ?_); focus decide))
        exact fin2 _ _ (by rw [eq2, hb2]; rfl) E.tl.tl.tl
    clear hJ27
    have eq1 : (decide ((gs.length : Int) > 16) || (gs.take (i + 1)).any fun g => decide (16 < g.2.length)) = ((decide ((gs.length : Int) > 16) || (gs.take i).any fun g => decide (16 < g.2.length)) || decide (16 < us.length)) := by rw [tk]; simp [Bool.or_assoc]
    cases hb : (decide ((gs.length : Int) > 16) || (gs.take i).any fun g => decide (16 < g.2.length)) with
    | true => (repeat first | (with_reducible first | refine Stp.go ?_ | refine StpE.go E ?_ | (refine StpW.go E ?_; clear E; intro w_ E) | (refine StpA.go E ?_; clear E; intro b_ w_ hb_ E) | (apply hJ14; intro u_) | (apply hJ27; intro u_) | (apply hJ83; intro u_) | refine LnL.nil ?_) | ((with_reducible refine Bi.dec true ?_ ?_); focus exact rfl) | ((with_reducible refine Bi.dec false ?_ ?_); focus exact rfl) | ((with_reducible refine Bi.sdec true ?_ ?_); focus decide) | ((with_reducible refine Bi.sdec false ?_ ?_); focus decide)); exact fin _ _ (by rw [eq1, hb]; rfl) E
    | false =>
      (repeat first | (with_reducible first | refine Stp.go ?_ | refine StpE.go E ?_ | (refine StpW.go E ?_; clear E; intro w_ E) | (refine StpA.go E ?_; clear E; intro b_ w_ hb_ E) | (apply hJ14; intro u_) | (apply hJ27; intro u_) | (apply hJ83; intro u_) | refine LnL.nil ?_) | ((with_reducible refine Bi.dec true ?_ ?_); focus exact rfl) | ((with_reducible refine Bi.dec false ?_ ?_); focus exact rfl) | ((with_reducible refine Bi.sdec true ?_ ?_); focus decide) | ((with_reducible refine Bi.sdec false ?_ ?_); focus decide))
      refine hu.len ?_
      (repeat first | (with_reducible first | refine Stp.go ?_ | refine StpE.go E ?_ | (refine StpW.go E ?_; clear E; intro w_ E) | (refine StpA.go E ?_; clear E; intro b_ w_ hb_ E) | (apply hJ14; intro u_) | (apply hJ27; intro u_) | (apply hJ83; intro u_) | refine LnL.nil ?_) | ((with_reducible refine Bi.dec true ?_ ?_); focus exact rfl) | ((with_reducible refine Bi.dec false ?_ ?_); focus exact rfl) | ((with_reducible refine Bi.sdec true ?_ ?_); focus decide) | ((with_reducible refine Bi.sdec false ?_ ?_); focus decide))
      refine Bi.gtr ?_ ?_ <;> intro h16 <;> (repeat first | (with_reducible first | refine Stp.go ?_ | refine StpE.go E ?_ | (refine StpW.go E ?_; clear E; intro w_ E) | (refine StpA.go E ?_; clear E; intro b_ w_ hb_ E) | (apply hJ14; intro u_) | (apply hJ27; intro u_) | (apply hJ83; intro u_) | refine LnL.nil ?_) | ((with_reducible refine Bi.dec true ?_ ?_); focus exact rfl) | ((with_reducible refine Bi.dec false ?_ ?_); focus exact rfl) | ((with_reducible refine Bi.sdec true ?_ ?_); focus decide) | ((with_reducible refine Bi.sdec false ?_ ?_); focus decide))
      · exact fin _ _ (by rw [eq1, hb, decide_eq_true (by omega)]; rfl) E
      · exact fin _ _ (by rw [eq1, hb, decide_eq_false (by omega)]; rfl) E
  · obtain rfl : i = gs.length := by omega
    rw [List.take_length] at E ⊢
    have hgl2 : (decide ((gs.length : Int) > 16) || gs.any fun g => decide (16 < g.2.length)) = glimit gs := by
      unfold glimit
      congr 1
      exact decide_eq_decide.2 (by omega)
    rw [hgl2]
    cases hl : glimit gs with
    | true => (repeat first | (with_reducible first | refine Stp.go ?_ | refine StpE.go E ?_ | (refine StpW.go E ?_; clear E; intro w_ E) | (refine StpA.go E ?_; clear E; intro b_ w_ hb_ E) | (apply hJ14; intro u_) | (apply hJ27; intro u_) | (apply hJ83; intro u_) | refine LnL.nil ?_) | ((with_reducible refine Bi.dec true ?_ ?_); focus exact rfl) | ((with_reducible refine Bi.dec false ?_ ?_); focus exact rfl) | ((with_reducible refine Bi.sdec true ?_ ?_); focus decide) | ((with_reducible refine Bi.sdec false ?_ ?_); focus decide)); exact ⟨by unfold checkG; rw [if_pos hl], E.tl.tl⟩
    | false =>
      have hln : ¬ glimit gs = true := by rw [hl]; simp
      (repeat first | (with_reducible first | refine Stp.go ?_ | refine StpE.go E ?_ | (refine StpW.go E ?_; clear E; intro w_ E) | (refine StpA.go E ?_; clear E; intro b_ w_ hb_ E) | (apply hJ14; intro u_) | (apply hJ27; intro u_) | (apply hJ83; intro u_) | refine LnL.nil ?_) | ((with_reducible refine Bi.dec true ?_ ?_); focus exact rfl) | ((with_reducible refine Bi.dec false ?_ ?_); focus exact rfl) | ((with_reducible refine Bi.sdec true ?_ ?_); focus decide) | ((with_reducible refine Bi.sdec false ?_ ?_); focus decide))
      have hgw3 := hgw
      rw [List.take_length] at hgw3
      have hr := RdS.by1 t1 E
      rw [List.length_map] at hr
      refine (ContainsFunc_ok (p := fun s => !goodName s) (by simp only [List.length_append]; omega) E hr fun x hx w1 E => check1_ok (hsz x hx) E).mono ?_
      clear E
      rintro r w_ ⟨rfl, E⟩
      cases hc : (names ++ gwords gs).any fun s => !goodName s with
      | true => (repeat first | (with_reducible first | refine Stp.go ?_ | refine StpE.go E ?_ | (refine StpW.go E ?_; clear E; intro w_ E) | (refine StpA.go E ?_; clear E; intro b_ w_ hb_ E) | (apply hJ14; intro u_) | (apply hJ27; intro u_) | (apply hJ83; intro u_) | refine LnL.nil ?_) | ((with_reducible refine Bi.dec true ?_ ?_); focus exact rfl) | ((with_reducible refine Bi.dec false ?_ ?_); focus exact rfl) | ((with_reducible refine Bi.sdec true ?_ ?_); focus decide) | ((with_reducible refine Bi.sdec false ?_ ?_); focus decide)); exact ⟨by unfold checkG; rw [if_neg hln, if_pos hc], E.tl.tl⟩
      | false =>
        have hcn : ¬ ((names ++ gwords gs).any fun s => !goodName s) = true := by rw [hc]; simp
        (repeat first | (with_reducible first | refine Stp.go ?_ | refine StpE.go E ?_ | (refine StpW.go E ?_; clear E; intro w_ E) | (refine StpA.go E ?_; clear E; intro b_ w_ hb_ E) | (apply hJ14; intro u_) | (apply hJ27; intro u_) | (apply hJ83; intro u_) | refine LnL.nil ?_) | ((with_reducible refine Bi.dec true ?_ ?_); focus exact rfl) | ((with_reducible refine Bi.dec false ?_ ?_); focus exact rfl) | ((with_reducible refine Bi.sdec true ?_ ?_); focus decide) | ((with_reducible refine Bi.sdec false ?_ ?_); focus decide))
        (intro J83 hJ83)
        have fin : ∀ b w_, b = ((gs.any fun g => twice g.2) || twice (gs.map (·.1))) → Hs w0 F w_ (slA t1 Ty.string 1 ((names ++ gwords gs).map str) :: slA t5 Ty.string 1 ((gs.map (·.1)).map str) :: l) → J83 [.bool b] w_ := by
          intro b w_ hb E
          (repeat first | (with_reducible first | refine Stp.go ?_ | refine StpE.go E ?_ | (refine StpW.go E ?_; clear E; intro w_ E) | (refine StpA.go E ?_; clear E; intro b_ w_ hb_ E) | (apply hJ14; intro u_) | (apply hJ27; intro u_) | (apply hJ83; intro u_) | refine LnL.nil ?_) | ((with_reducible refine Bi.dec true ?_ ?_); focus exact rfl) | ((with_reducible refine Bi.dec false ?_ ?_); focus exact rfl) | ((with_reducible refine Bi.sdec true ?_ ?_); focus decide) | ((with_reducible refine Bi.sdec false ?_ ?_); focus decide))
          cases b with
          | true => (repeat first | (with_reducible first | refine Stp.go ?_ | refine StpE.go E ?_ | (refine StpW.go E ?_; clear E; intro w_ E) | (refine StpA.go E ?_; clear E; intro b_ w_ hb_ E) | (apply hJ14; intro u_) | (apply hJ27; intro u_) | (apply hJ83; intro u_) | refine LnL.nil ?_) | ((with_reducible refine Bi.dec true ?_ ?_); focus exact rfl) | ((with_reducible refine Bi.dec false ?_ ?_); focus exact rfl) | ((with_reducible refine Bi.sdec true ?_ ?_); focus decide) | ((with_reducible refine Bi.sdec false ?_ ?_); focus decide)); exact ⟨by unfold checkG; rw [if_neg hln, if_neg hcn, ← hb]; rfl, E.tl.tl⟩
          | false => (repeat first | (with_reducible first | refine Stp.go ?_ | refine StpE.go E ?_ | (refine StpW.go E ?_; clear E; intro w_ E) | (refine StpA.go E ?_; clear E; intro b_ w_ hb_ E) | (apply hJ14; intro u_) | (apply hJ27; intro u_) | (apply hJ83; intro u_) | refine LnL.nil ?_) | ((with_reducible refine Bi.dec true ?_ ?_); focus exact rfl) | ((with_reducible refine Bi.dec false ?_ ?_); focus exact rfl) | ((with_reducible refine Bi.sdec true ?_ ?_); focus decide) | ((with_reducible refine Bi.sdec false ?_ ?_); focus decide)); exact ⟨by unfold checkG; rw [if_neg hln, if_neg hcn, ← hb]; rfl, E.tl.tl⟩
        clear hJ83
        cases h2 : gs.any fun g => twice g.2 with
        | true => (repeat first | (with_reducible first | refine Stp.go ?_ | refine StpE.go E ?_ | (refine StpW.go E ?_; clear E; intro w_ E) | (refine StpA.go E ?_; clear E; intro b_ w_ hb_ E) | (apply hJ14; intro u_) | (apply hJ27; intro u_) | (apply hJ83; intro u_) | refine LnL.nil ?_) | ((with_reducible refine Bi.dec true ?_ ?_); focus exact rfl) | ((with_reducible refine Bi.dec false ?_ ?_); focus exact rfl) | ((with_reducible refine Bi.sdec true ?_ ?_); focus decide) | ((with_reducible refine Bi.sdec false ?_ ?_); focus decide)); exact fin _ _ (by rw [h2]; rfl) E
        | false =>
          (repeat first | (with_reducible first | refine Stp.go ?_ | refine StpE.go E ?_ | (refine StpW.go E ?_; clear E; intro w_ E) | (refine StpA.go E ?_; clear E; intro b_ w_ hb_ E) | (apply hJ14; intro u_) | (apply hJ27; intro u_) | (apply hJ83; intro u_) | refine LnL.nil ?_) | ((with_reducible refine Bi.dec true ?_ ?_); focus exact rfl) | ((with_reducible refine Bi.dec false ?_ ?_); focus exact rfl) | ((with_reducible refine Bi.sdec true ?_ ?_); focus decide) | ((with_reducible refine Bi.sdec false ?_ ?_); focus decide))
          have hr2 := RdS.by1 t5 E
          rw [List.length_map] at hr2
          refine (repeated_ok (by simp; omega) E hr2).mono ?_
          clear E
          rintro r w_ ⟨rfl, E⟩
          (repeat first | (with_reducible first | refine Stp.go ?_ | refine StpE.go E ?_ | (refine StpW.go E ?_; clear E; intro w_ E) | (refine StpA.go E ?_; clear E; intro b_ w_ hb_ E) | (apply hJ14; intro u_) | (apply hJ27; intro u_) | (apply hJ83; intro u_) | refine LnL.nil ?_) | ((with_reducible refine Bi.dec true ?_ ?_); focus exact rfl) | ((with_reducible refine Bi.dec false ?_ ?_); focus exact rfl) | ((with_reducible refine Bi.sdec true ?_ ?_); focus decide) | ((with_reducible refine Bi.sdec false ?_ ?_); focus decide))
          exact fin _ _ (by rw [h2]; rfl) E
end Go.Proofs.YtnnhmahemklnkaaDoor
