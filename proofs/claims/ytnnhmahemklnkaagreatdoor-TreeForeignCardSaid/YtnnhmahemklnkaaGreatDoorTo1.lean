/-
  Trees: groups; what is wrong with them.
-/
import Derived.Test.YtnnhmahemklnkaaGreatDoorTr8
import Derived.Test.YtnnhmahemklnkaaGreatDoorSh18
import Derived.Test.YtnnhmahemklnkaaGreatDoorSh21
namespace Go.Proofs.YtnnhmahemklnkaaGreatDoor
open Go Go.Sh
set_option maxRecDepth 100000
set_option linter.unusedVariables false
set_option linter.unusedSimpArgs false
variable {w0 w : World} {F : Nat → Prop} {l : List As}

theorem RdS.src {P : Program} {n : Nat} {v : Value} {xs : List Value} (h : RdS w0 F l 1 n v xs) (E : Hs w0 F w l) (hs : xs.all scalV = true) : Src P 1 w v n xs := by
  obtain ⟨a, c, rfl, hc, hl, hx⟩ := h
  refine ⟨fun _ => rfl, fun w' hw => ?_, hl, hs⟩
  rcases hx with rfl | ⟨q, rfl, hq⟩
  · have : n = 0 := by simp at hl; omega
    subst this
    cases a with
    | none => rfl
    | some a => simp [Builtin.firstCells, loadCells, loadCellsFrom]
  · refine run_firstCells_some w' 1 n q n c xs hl fun j v hj => ?_
    rcases hq with rfl | ⟨b, o, rfl, hq⟩
    · cases hj
    · rw [add_mk]
      have := hq w E j v hj
      unfold World.cell? at this ⊢
      rw [hw]; exact this

/-- Groups that are handed in. -/
abbrev Gs := List (BA × List BA)
abbrev gcell (g : BA × Value) : List Value := [str g.1, g.2]
structure GIn (w0 : World) (F : Nat → Prop) (l : List As) (v : Value) (gv : List (BA × Value)) (gs : Gs) : Prop where
  rd : RdS w0 F l 2 gs.length v (gv.flatMap gcell)
  len : gv.length = gs.length
  one : ∀ (i : Nat) a b, gv[i]? = some a → gs[i]? = some b → a.1 = b.1 ∧ RdS w0 F l 1 b.2.length a.2 (b.2.map str)
theorem GIn.weaken {l' : List As} {v : Value} {gv : List (BA × Value)} {gs : Gs} (h : GIn w0 F l v gv gs) (hl : ∀ w, Hs w0 F w l' → Hs w0 F w l) : GIn w0 F l' v gv gs :=
  ⟨h.rd.weaken hl, h.len, fun i a b ha hb => ⟨(h.one i a b ha hb).1, (h.one i a b ha hb).2.weaken hl⟩⟩
theorem flat_drop (gv : List (BA × Value)) : ∀ i : Nat, (gv.flatMap gcell).drop (i * 2) = (gv.drop i).flatMap gcell := by
  induction gv with
  | nil => intro i; simp
  | cons g r ih =>
    intro i
    cases i with
    | zero => simp
    | succ i =>
      rw [List.flatMap_cons, show (i + 1) * 2 = i * 2 + 1 + 1 by omega]
      simp only [gcell, List.cons_append, List.nil_append, List.drop_succ_cons]
      exact ih i
/-- The groups' words, the first some of them. -/
def gwords (gs : Gs) : List BA := gs.flatMap fun g => g.1 :: g.2
def glimit (gs : Gs) : Bool := decide (16 < gs.length) || gs.any fun g => decide (16 < g.2.length)
/-- What is wrong with groups and further names. -/
def checkG (gs : Gs) (names : List BA) : Int :=
  if glimit gs = true then 3 else if (names ++ gwords gs).any (fun s => !goodName s) = true then 8 else if (gs.any fun g => twice g.2) || twice (gs.map (·.1)) then 5 else 0

theorem check1_ok {s : BA} (hs : s.size ≤ 9223372036854775807) (E : Hs w0 F w l) : CaV PP (.func (.func Fn.tree_check_1) #[] #[]) #[str s] w fun r w' => r = .bool (!goodName s) ∧ Hs w0 F w' l := by
  refine CaV.mk (by kernel_rfl) ?_
  refine S.tree_check_1.calls ?_
  unfold S.tree_check_1
  refine (Valid_ok hs).mono ?_
  rintro r w' ⟨rfl, rfl⟩
  cases goodName s with
  | true => (repeat with_reducible first | refine Stp.go ?_ | refine StpE.go E ?_); exact ⟨rfl, E⟩
  | false => (repeat with_reducible first | refine Stp.go ?_ | refine StpE.go E ?_); exact ⟨rfl, E⟩

theorem check_ok {v nv : Value} {gv : List (BA × Value)} {gs : Gs} {names : List BA} (hg : GIn w0 F l v gv gs) (hn : names.length ≤ 1000) (hgl : gs.length ≤ 100000) (hul : ∀ g ∈ gs, g.2.length ≤ 100000) (hsz : ∀ s ∈ names ++ gwords gs, s.size ≤ 9223372036854775807)
    (E : Hs w0 F w (slA nv Ty.string 1 (names.map str) :: l)) : Ca PP Fn.tree_check #[v, nv] w fun r w' => r = i64 (checkG gs names) ∧ Hs w0 F w' l := by
  refine S.tree_check.calls ?_
  unfold S.tree_check
  refine hg.rd.len ?_
  refine Bi.mk rfl ?_
  refine hg.rd.len ?_
  have E0 : Hs w0 F w (slA nv Ty.string 1 (names.map str) :: slA (.slice none 0 0) Ty.string 1 [] :: l) := (Hs.nilSl E Ty.string 1).perm (List.Perm.swap _ _ _)
  refine ⟨fun l1 w1 => ∃ (i : Nat) (nv tv : Value), i ≤ gs.length ∧ l1 = [nv, tv, .bool (decide ((gs.length : Int) > 16) || (gs.take i).any fun g => decide (16 < g.2.length)), .bool ((gs.take i).any fun g => twice g.2), i64 i] ∧
    Hs w0 F w1 (slA nv Ty.string 1 ((names ++ gwords (gs.take i)).map str) :: slA tv Ty.string 1 (((gs.take i).map (·.1)).map str) :: l), fun l1 _ => match l1 with | [_, _, _, _, .int _ i] => gs.length - i.toNat | _ => 0,
    ⟨0, nv, .slice none 0 0, Nat.zero_le _, by simp, by simpa [gwords] using E0⟩, ?_⟩
  clear E E0
  rintro t1 t5 t6 t7 t15 u w1 ⟨i, nv, tv, hi, h1, E⟩
  cases h1
  have hwl : ∀ g : Gs, g.length ≤ 100000 → (∀ x ∈ g, x.2.length ≤ 100000) → (gwords g).length ≤ g.length * 100001 := by
    intro g
    induction g with
    | nil => intro _ _; simp [gwords]
    | cons x r ih =>
      intro h1 h2
      have := ih (by simp at h1; omega) fun y hy => h2 y (List.mem_cons_of_mem _ hy)
      have h3 := h2 x List.mem_cons_self
      unfold gwords at this ⊢
      rw [List.flatMap_cons, List.length_append, List.length_cons, List.length_cons]
      omega
  have hgw : (gwords (gs.take i)).length ≤ i * 100001 := by
    have := hwl (gs.take i) (by simp; omega) fun x hx => hul x (List.mem_of_mem_take hx)
    rw [List.length_take, Nat.min_eq_left hi] at this
    exact this
  refine Bi.lss ?_ ?_ <;> intro hlt <;> (repeat with_reducible first | refine Stp.go ?_ | refine StpE.go E ?_)
  · have hx : gs[i]? = some gs[i] := List.getElem?_eq_getElem (by omega)
    have hy : gv[i]? = some (gv[i]'(by rw [hg.len]; omega)) := List.getElem?_eq_getElem (by rw [hg.len]; omega)
    obtain ⟨nm, uv, hgi⟩ : ∃ nm uv, gv[i]'(by rw [hg.len]; omega) = (nm, uv) := ⟨_, _, rfl⟩
    obtain ⟨us, hus⟩ : ∃ us, gs[i] = (nm, us) := ⟨gs[i].2, by have := (hg.one i _ _ hy hx).1; rw [hgi] at this; exact Prod.ext this.symm rfl⟩
    have hu := (hg.one i _ _ hy hx).2
    rw [hgi, hus] at hu
    rw [hus] at hx
    rw [hgi] at hy
    have hul1 : us.length ≤ 100000 := hul (nm, us) (List.mem_of_getElem? hx)
    simp only [] at hu
    (intro J14 hJ14)
    refine ((hg.rd.cons (slA t5 Ty.string 1 (((gs.take i).map (·.1)).map str))).cons (slA t1 Ty.string 1 ((names ++ gwords (gs.take i)).map str))).ix (by omega) (by omega) (by omega) ?_
    intro a ha
    rw [Int.toNat_natCast, flat_drop, List.drop_eq_getElem_cons (by rw [hg.len]; omega), hgi, List.flatMap_cons] at ha
    have hus2 := hu
    obtain ⟨p, c, huv, -⟩ := hus2
    refine ha.lda E (m := 2) (ds := [str nm, uv]) rfl rfl (by omega) ?_
    clear ha
    subst huv
    (repeat first | (with_reducible first | refine Stp.go ?_ | refine StpE.go E ?_ | (refine StpW.go E ?_; clear E; intro w_ E) | (refine StpA.go E ?_; clear E; intro b_ w_ hb_ E) | (apply hJ14; intro u_) | (apply hJ27; intro u_) | (apply hJ83; intro u_) | refine LnL.nil ?_) | ((with_reducible refine Bi.dec true ?_ ?_); focus exact rfl) | ((with_reducible refine Bi.dec false ?_ ?_); focus exact rfl) | ((with_reducible refine Bi.sdec true ?_ ?_); focus decide) | ((with_reducible refine Bi.sdec false ?_ ?_); focus decide))
    (revert b_; intro g hbg E)
    have tk : gs.take (i + 1) = gs.take i ++ [(nm, us)] := by rw [List.take_add_one, hx]; rfl
    have hgw2 : gwords (gs.take (i + 1)) = gwords (gs.take i) ++ [nm] ++ us := by rw [tk]; simp [gwords]
    (intro J27 hJ27)
    have fin : ∀ b w_, b = (decide ((gs.length : Int) > 16) || (gs.take (i + 1)).any fun g => decide (16 < g.2.length)) → Hs w0 F w_ (pt g (oc [str nm, .slice p us.length c] Ty.tree_Group) :: slA t1 Ty.string 1 ((names ++ gwords (gs.take i)).map str) :: slA t5 Ty.string 1 (((gs.take i).map (·.1)).map str) :: l) → J27 [.bool b] w_ := by
      intro b w_ hb E
      (repeat first | (with_reducible first | refine Stp.go ?_ | refine StpE.go E ?_ | (refine StpW.go E ?_; clear E; intro w_ E) | (refine StpA.go E ?_; clear E; intro b_ w_ hb_ E) | (apply hJ14; intro u_) | (apply hJ27; intro u_) | (apply hJ83; intro u_) | refine LnL.nil ?_) | ((with_reducible refine Bi.dec true ?_ ?_); focus exact rfl) | ((with_reducible refine Bi.dec false ?_ ?_); focus exact rfl) | ((with_reducible refine Bi.sdec true ?_ ?_); focus decide) | ((with_reducible refine Bi.sdec false ?_ ?_); focus decide))
      clear hJ27
      refine BdS.one E u_sl_string e_string rfl ?_
      clear E
      intro v1 w_ E
      refine ⟨by (repeat with_reducible first | refine Stp.go ?_ | refine StpE.go E ?_); rfl, ?_⟩
      refine Ap.one E (i := 2) rfl u_sl_string ⟨_, u_sl_string, fun _ h => by cases h⟩ e_string (Src.one E (by (first | assumption | exact FPt.mem | exact FMp.mem | exact FSl.mem | (repeat (first | assumption | with_reducible exact List.mem_cons_self | refine List.mem_cons_of_mem _ ?_)))) rfl) rfl (by simp; omega) (by simp; omega) ?_
      clear E
      intro v2 w_ E
      (try simp only [List.set_cons_zero, List.set_cons_succ, List.cons_append, List.nil_append, Nat.zero_add, Nat.add_zero] at E)
      refine ⟨by (repeat with_reducible first | refine Stp.go ?_ | refine StpE.go E ?_); rfl, ?_⟩
      refine Ap.one E (i := 2) rfl u_sl_string ⟨_, u_sl_string, fun _ h => by cases h⟩ e_string (RdS.src ((((hu.cons _).cons _).cons _).cons _) E (strs_scal us)) rfl (by simp; omega) (by simp; omega) ?_
      clear E
      intro v3 w_ E
      (try simp only [List.set_cons_zero, List.set_cons_succ, List.cons_append, List.nil_append, Nat.zero_add, Nat.add_zero] at E)
      (repeat with_reducible first | refine Stp.go ?_ | refine StpE.go E ?_)
      refine BdS.one E u_sl_string e_string rfl ?_
      clear E
      intro v4 w_ E
      refine Ap.one E (i := 4) rfl u_sl_string ⟨_, u_sl_string, fun _ h => by cases h⟩ e_string (Src.one E (by (first | assumption | exact FPt.mem | exact FMp.mem | exact FSl.mem | (repeat (first | assumption | with_reducible exact List.mem_cons_self | refine List.mem_cons_of_mem _ ?_)))) rfl) rfl (by simp; omega) (by simp; omega) ?_
      clear E
      intro v5 w_ E
      (try simp only [List.set_cons_zero, List.set_cons_succ, List.cons_append, List.nil_append, Nat.zero_add, Nat.add_zero] at E)
      have fin2 : ∀ b2 w_, b2 = ((gs.take (i + 1)).any fun g => twice g.2) → Hs w0 F w_ (slA v3 Ty.string 1 ((names ++ gwords (gs.take (i + 1))).map str) :: slA v5 Ty.string 1 (((gs.take (i + 1)).map (·.1)).map str) :: l) → J14 [v3, v5, .bool b, .bool b2] w_ := by
        intro b2 w_ hb2 E
        (repeat with_reducible first | refine Stp.go ?_ | refine StpE.go E ?_ | (apply hJ14; intro u_) | (apply hJ27; intro u_) | (apply hJ83; intro u_))
        refine Bi.add (by omega) ?_
        exact ⟨⟨i + 1, v3, v5, by omega, by rw [hb, hb2]; simp, E⟩, by simp only []; omega⟩
      clear hJ14
      have e1 : List.map str (names ++ gwords (List.take i gs)) ++ [str nm] ++ List.map str us = (names ++ gwords (gs.take (i + 1))).map str := by rw [hgw2]; simp
      have e2 : List.map str (List.map (fun x => x.1) (List.take i gs)) ++ [str nm] = ((gs.take (i + 1)).map (·.1)).map str := by rw [tk]; simp
      rw [e1, e2] at E
      have eq2 : ((gs.take (i + 1)).any fun g => twice g.2) = (((gs.take i).any fun g => twice g.2) || twice us) := by rw [tk]; simp
      cases hb2 : (gs.take i).any fun g => twice g.2 with
      | true => (repeat with_reducible first | refine Stp.go ?_ | refine StpE.go E ?_); exact fin2 _ _ (by rw [eq2, hb2]; rfl) E.tl.tl.tl
      | false =>
        (repeat with_reducible first | refine Stp.go ?_ | refine StpE.go E ?_)
        refine (repeated_ok (by omega) E (((((hu.cons _).cons _).cons _).cons _).cons _)).mono ?_
        clear E
        rintro r w_ ⟨rfl, E⟩
        (repeat with_reducible first | refine Stp.go ?_ | refine StpE.go E ?_)
        exact fin2 _ _ (by rw [eq2, hb2]; rfl) E.tl.tl.tl
    clear hJ27
    have eq1 : (decide ((gs.length : Int) > 16) || (gs.take (i + 1)).any fun g => decide (16 < g.2.length)) = ((decide ((gs.length : Int) > 16) || (gs.take i).any fun g => decide (16 < g.2.length)) || decide (16 < us.length)) := by rw [tk]; simp [Bool.or_assoc]
    cases hb : (decide ((gs.length : Int) > 16) || (gs.take i).any fun g => decide (16 < g.2.length)) with
    | true => (repeat with_reducible first | refine Stp.go ?_ | refine StpE.go E ?_); exact fin _ _ (by rw [eq1, hb]; rfl) E
    | false =>
      (repeat with_reducible first | refine Stp.go ?_ | refine StpE.go E ?_)
      refine hu.len ?_
      (repeat with_reducible first | refine Stp.go ?_ | refine StpE.go E ?_)
      refine Bi.gtr ?_ ?_ <;> intro h16 <;> (repeat with_reducible first | refine Stp.go ?_ | refine StpE.go E ?_)
      · exact fin _ _ (by rw [eq1, hb, decide_eq_true (by omega)]; rfl) E
      · exact fin _ _ (by rw [eq1, hb, decide_eq_false (by omega)]; rfl) E
  · obtain rfl : i = gs.length := by omega
    rw [List.take_length] at E ⊢
    have hgl2 : (decide ((gs.length : Int) > 16) || gs.any fun g => decide (16 < g.2.length)) = glimit gs := by
      unfold glimit
      congr 1
      exact decide_eq_decide.2 (by omega)
    rw [hgl2]
    cases hl : glimit gs with
    | true => (repeat with_reducible first | refine Stp.go ?_ | refine StpE.go E ?_); exact ⟨by unfold checkG; rw [if_pos hl], E.tl.tl⟩
    | false =>
      have hln : ¬ glimit gs = true := by rw [hl]; simp
      (repeat with_reducible first | refine Stp.go ?_ | refine StpE.go E ?_)
      have hgw3 := hgw
      rw [List.take_length] at hgw3
      have hr := RdS.by1 t1 E
      rw [List.length_map] at hr
      refine (ContainsFunc_ok (p := fun s => !goodName s) (by simp only [List.length_append]; omega) E hr fun x hx w1 E => check1_ok (hsz x hx) E).mono ?_
      clear E
      rintro r w_ ⟨rfl, E⟩
      cases hc : (names ++ gwords gs).any fun s => !goodName s with
      | true => (repeat with_reducible first | refine Stp.go ?_ | refine StpE.go E ?_); exact ⟨by unfold checkG; rw [if_neg hln, if_pos hc], E.tl.tl⟩
      | false =>
        have hcn : ¬ ((names ++ gwords gs).any fun s => !goodName s) = true := by rw [hc]; simp
        (repeat with_reducible first | refine Stp.go ?_ | refine StpE.go E ?_)
        (intro J83 hJ83)
        have fin : ∀ b w_, b = ((gs.any fun g => twice g.2) || twice (gs.map (·.1))) → Hs w0 F w_ (slA t1 Ty.string 1 ((names ++ gwords gs).map str) :: slA t5 Ty.string 1 ((gs.map (·.1)).map str) :: l) → J83 [.bool b] w_ := by
          intro b w_ hb E
          (repeat with_reducible first | refine Stp.go ?_ | refine StpE.go E ?_ | (apply hJ14; intro u_) | (apply hJ27; intro u_) | (apply hJ83; intro u_))
          cases b with
          | true => (repeat first | (with_reducible first | refine Stp.go ?_ | refine StpE.go E ?_ | (refine StpW.go E ?_; clear E; intro w_ E) | (refine StpA.go E ?_; clear E; intro b_ w_ hb_ E) | (apply hJ14; intro u_) | (apply hJ27; intro u_) | (apply hJ83; intro u_) | refine LnL.nil ?_) | ((with_reducible refine Bi.dec true ?_ ?_); focus exact rfl) | ((with_reducible refine Bi.dec false ?_ ?_); focus exact rfl) | ((with_reducible refine Bi.sdec true ?_ ?_); focus decide) | ((with_reducible refine Bi.sdec false ?_ ?_); focus decide)); exact ⟨by unfold checkG; rw [if_neg hln, if_neg hcn, ← hb]; rfl, E.tl.tl⟩
          | false => (repeat first | (with_reducible first | refine Stp.go ?_ | refine StpE.go E ?_ | (refine StpW.go E ?_; clear E; intro w_ E) | (refine StpA.go E ?_; clear E; intro b_ w_ hb_ E) | (apply hJ14; intro u_) | (apply hJ27; intro u_) | (apply hJ83; intro u_) | refine LnL.nil ?_) | ((with_reducible refine Bi.dec true ?_ ?_); focus exact rfl) | ((with_reducible refine Bi.dec false ?_ ?_); focus exact rfl) | ((with_reducible refine Bi.sdec true ?_ ?_); focus decide) | ((with_reducible refine Bi.sdec false ?_ ?_); focus decide)); exact ⟨by unfold checkG; rw [if_neg hln, if_neg hcn, ← hb]; rfl, E.tl.tl⟩
        clear hJ83
        cases h2 : gs.any fun g => twice g.2 with
        | true => (repeat with_reducible first | refine Stp.go ?_ | refine StpE.go E ?_); exact fin _ _ (by rw [h2]; rfl) E
        | false =>
          (repeat with_reducible first | refine Stp.go ?_ | refine StpE.go E ?_)
          have hr2 := RdS.by1 t5 E
          rw [List.length_map] at hr2
          refine (repeated_ok (by simp; omega) E hr2).mono ?_
          clear E
          rintro r w_ ⟨rfl, E⟩
          (repeat with_reducible first | refine Stp.go ?_ | refine StpE.go E ?_)
          exact fin _ _ (by rw [h2]; rfl) E
end Go.Proofs.YtnnhmahemklnkaaGreatDoor

/-
  Trees: a new tree.
-/
namespace Go.Proofs.YtnnhmahemklnkaaGreatDoor
open Go Go.Sh
set_option maxRecDepth 100000
set_option linter.unusedVariables false
set_option linter.unusedSimpArgs false
variable {w0 w : World} {F : Nat → Prop} {l : List As}

theorem BdS.zero {P : Program} {t e : TypeId} {k : Value → World → Prop} (E : Hs w0 F w l) (h1 : P.underlying t = some (.slice e)) (h2 : sizeK P e = some 1)
    (hk : ∀ v w', Hs w0 F w' (slA v e 1 [] :: l) → k v w') : Ef P (Instr.buildSlice t 0 #[]) w k := by
  refine ⟨.slice (some ⟨w.heap.size, 0, none⟩) 0 0, w.alloc (.cells #[] e), ?_, hk _ _ (E.add (Upd.alloc w _) ⟨.inr ⟨w.heap.size, 0, 0, 0, [], [], (0, 0), rfl, ?_, rfl, rfl, by simp, Nat.le_refl _, Free.zero _⟩⟩ fun b hb => ?_)⟩
  · have hr : Array.range 0 = #[] := rfl
    simp [Instr.buildSlice, run_underlying h1, run_sizeK h2, Instr.fill, newRow, run_newObj', hr]
  · rw [heap_alloc_new]; simp [ocf]
  · have hb : some w.heap.size = some b := hb
    cases hb; exact Nat.le_refl _
theorem s_string : sizeK PP Ty.string = some 1 := by kernel_rfl

theorem Clone_ok {v : Value} {us : List BA} (h : RdS w0 F l 1 us.length v (us.map str)) (hl : us.length ≤ 100000) (E : Hs w0 F w l) :
    Ca PP Fn.slices_Clone_sl_string_string #[v] w fun r w' => Hs w0 F w' (slA r Ty.string 1 (us.map str) :: l) := by
  refine S.slices_Clone_sl_string_string.calls ?_
  unfold S.slices_Clone_sl_string_string
  have h' := h
  obtain ⟨a, c, rfl, hc, -, hx⟩ := h'
  cases a with
  | none =>
    have h0 : us = [] := by
      rcases hx with h1 | ⟨p, h1, _⟩
      · simpa using h1
      · cases h1
    subst h0
    refine Eq.et u_sl_string rfl ?_
    (repeat with_reducible first | refine Stp.go ?_ | refine StpE.go E ?_)
    exact Hs.nilSl E _ _
  | some a =>
    refine Eq.ef u_sl_string rfl ?_
    (repeat with_reducible first | refine Stp.go ?_ | refine StpE.go E ?_)
    refine BdS.zero E u_sl_string s_string ?_
    clear E
    intro v1 w_ E
    refine Ap.one E (i := 0) rfl u_sl_string ⟨_, u_sl_string, fun _ h => by cases h⟩ e_string (RdS.src (h.cons _) E (strs_scal us)) rfl (by simp; omega) (by simp; omega) ?_
    clear E
    intro v2 w_ E
    (try simp only [List.set_cons_zero, List.set_cons_succ, List.cons_append, List.nil_append, Nat.zero_add, Nat.add_zero] at E)
    exact E

theorem getL_app {κ β : Type} [DecidableEq κ] (L M : List (κ × β)) (k : κ) : getL (L ++ M) k = (getL L k).or (getL M k) := by
  unfold getL
  rw [List.find?_append]
  cases L.find? fun p => decide (k = p.1) <;> rfl
abbrev t0V (gm fm om : Nat) : List Value := [.pointer none, .map (some fm), .map (some gm), i64 1, i64 0, .map (some om)]
theorem empty_ok {D : List Row} {v : Value} {gv : List (BA × Value)} {gs : Gs} (hg : GIn w0 F l v gv gs) (hn : (gs.map (·.1)).Nodup) (hgl : gs.length ≤ 16) (hul : ∀ g ∈ gs, g.2.length ≤ 16)
    (E : Hs w0 F w (Pool D :: l)) : Ca PP Fn.tree_empty #[v] w fun r w' => ∃ t fm gm om D' gr, r = ptr t ∧ (∀ x ∈ D, x ∈ D') ∧ GTie D' gr gs ∧
      Hs w0 F w' (pt t (oc (t0V gm fm om) Ty.tree_Tree) :: mp fm (.int .i64) [] :: mp gm .str (encM Value.string id gr) :: mp om (.int .i64) [] :: Pool D' :: l) := by
  refine S.tree_empty.calls ?_
  unfold S.tree_empty
  refine MkM.pt (kt := .int .i64) E ?_
  clear E
  intro fm w_ hfm E
  refine MkM.pt (kt := .str) E ?_
  clear E
  intro gm w_ hgm E
  refine MkM.pt (kt := .int .i64) E ?_
  clear E
  intro om w_ hom E
  (repeat first | (with_reducible first | refine Stp.go ?_ | refine StpE.go E ?_ | (refine StpW.go E ?_; clear E; intro w_ E) | (refine StpA.go E ?_; clear E; intro b_ w_ hb_ E) | refine LnL.nil ?_) | ((with_reducible refine Bi.dec true ?_ ?_); focus exact rfl) | ((with_reducible refine Bi.dec false ?_ ?_); focus exact rfl) | ((with_reducible refine Bi.sdec true ?_ ?_); focus decide) | ((with_reducible refine Bi.sdec false ?_ ?_); focus decide))
  (revert b_; intro t hbt E)
  refine hg.rd.len ?_
  refine ⟨fun l1 w1 => ∃ (i : Nat) (D' : List Row) (gr : List (BA × Value)), i ≤ gs.length ∧ l1 = [i64 i] ∧ (∀ x ∈ D, x ∈ D') ∧ GTie D' gr (gs.take i) ∧ gr.map (·.1) = (gs.take i).map (·.1) ∧
    Hs w0 F w1 (pt t (oc (t0V gm fm om) Ty.tree_Tree) :: mp fm (.int .i64) [] :: mp gm .str (encM Value.string id gr) :: mp om (.int .i64) [] :: Pool D' :: l), fun l1 _ => match l1 with | [.int _ i] => gs.length - i.toNat | _ => 0,
    ⟨0, D, [], Nat.zero_le _, rfl, fun _ h => h, fun _ => rfl, rfl, by (replace E := ((((E.bIx 1).bIx 2).bIx 3).bIx 3)); exact E⟩, ?_⟩
  clear E
  rintro t15 u w1 ⟨i, D', gr, hi, h1, hD, hgt, hkeys, E⟩
  cases h1
  refine Bi.lss ?_ ?_ <;> intro hlt <;> (repeat with_reducible first | refine Stp.go ?_ | refine StpE.go E ?_)
  · have hx : gs[i]? = some gs[i] := List.getElem?_eq_getElem (by omega)
    have hy : gv[i]? = some (gv[i]'(by rw [hg.len]; omega)) := List.getElem?_eq_getElem (by rw [hg.len]; omega)
    obtain ⟨nm, uv, hgi⟩ : ∃ nm uv, gv[i]'(by rw [hg.len]; omega) = (nm, uv) := ⟨_, _, rfl⟩
    obtain ⟨us, hus⟩ : ∃ us, gs[i] = (nm, us) := ⟨gs[i].2, by have := (hg.one i _ _ hy hx).1; rw [hgi] at this; exact Prod.ext this.symm rfl⟩
    have hu := (hg.one i _ _ hy hx).2
    rw [hgi, hus] at hu
    rw [hus] at hx
    have hul1 : us.length ≤ 16 := hul (nm, us) (List.mem_of_getElem? hx)
    simp only [] at hu
    have tk : gs.take (i + 1) = gs.take i ++ [(nm, us)] := by rw [List.take_add_one, hx]; rfl
    refine (((((hg.rd.cons (Pool D')).cons (mp om (.int .i64) [])).cons (mp gm .str (encM Value.string id gr))).cons (mp fm (.int .i64) [])).cons (pt t (oc (t0V gm fm om) Ty.tree_Tree))).ix (by omega) (by omega) (by omega) ?_
    intro a ha
    rw [Int.toNat_natCast, flat_drop, List.drop_eq_getElem_cons (by rw [hg.len]; omega), hgi, List.flatMap_cons] at ha
    have hus2 := hu
    obtain ⟨p, c, huv, -⟩ := hus2
    refine ha.lda E (m := 2) (ds := [str nm, uv]) rfl rfl (by omega) ?_
    clear ha
    subst huv
    (repeat first | (with_reducible first | refine Stp.go ?_ | refine StpE.go E ?_ | (refine StpW.go E ?_; clear E; intro w_ E) | (refine StpA.go E ?_; clear E; intro b_ w_ hb_ E) | refine LnL.nil ?_) | ((with_reducible refine Bi.dec true ?_ ?_); focus exact rfl) | ((with_reducible refine Bi.dec false ?_ ?_); focus exact rfl) | ((with_reducible refine Bi.sdec true ?_ ?_); focus decide) | ((with_reducible refine Bi.sdec false ?_ ?_); focus decide))
    (revert b_; intro g hbg E)
    refine (Clone_ok (((((((hu.cons _).cons _).cons _).cons _).cons _).cons _)) (by omega) E).mono ?_
    clear E
    rintro r w_ E
    refine ⟨by (repeat with_reducible first | refine Stp.go ?_ | refine StpE.go E ?_); rfl, by (repeat with_reducible first | refine Stp.go ?_ | refine StpE.go E ?_); rfl, ?_⟩
    refine Mu.by E u_mgroups k_str rfl ?_
    clear E
    intro w_ E
    have hout : nm ∉ gr.map (·.1) := by
      rw [hkeys]
      intro hc
      have h1 : (gs.map (·.1)) = ((gs.take i).map (·.1)) ++ ((gs.drop i).map (·.1)) := by rw [← List.map_append, List.take_append_drop]
      rw [h1, List.nodup_append] at hn
      refine hn.2.2 nm hc nm ?_ rfl
      rw [List.drop_eq_getElem_cons (by omega), hus]
      exact List.mem_cons_self
    have he : aput (encM Value.string id gr) (str nm) r = encM Value.string id (gr ++ [(nm, r)]) := by rw [← putL_new hout]; exact aput_enc (ev := id) keyS _ _ _
    rw [he] at E
    refine Bi.add (by omega) ?_
    refine ⟨⟨i + 1, ⟨r, Ty.string, us.map str⟩ :: D', gr ++ [(nm, r)], by omega, by simp, fun x hx => List.mem_cons_of_mem _ (hD x hx), ?_, by rw [tk, List.map_append, List.map_append, hkeys]; rfl, ?_⟩, by simp only []; omega⟩
    · intro y
      have h2 := hgt y
      rw [tk, getL_app, getL_app]
      revert h2
      cases hq : getL (gs.take i) y with
      | some us2 =>
        simp only [Option.some_or]
        rintro ⟨h3, v2, h4, h5⟩
        exact ⟨h3, v2, by rw [h4]; rfl, h5.mono fun x hx => List.mem_cons_of_mem _ hx⟩
      | none =>
        simp only [Option.none_or]
        intro h2
        rw [h2]
        by_cases hy : y = nm
        · subst hy
          have e1 : getL [(y, us)] y = some us := by simp [getL]
          have e2 : getL [(y, r)] y = some r := by simp [getL]
          rw [e1, e2]
          exact ⟨hul1, r, rfl, .inr List.mem_cons_self⟩
        · have e1 : getL [(nm, us)] y = none := by simp [getL, hy]
          have e2 : getL [(nm, r)] y = none := by simp [getL, hy]
          rw [e1, e2]
          rfl
    · replace E := (E.bIx 1).tl
      (replace E := ((E.bIx 5).bIx 1))
      replace E := Hs.pool Ty.string E
      (replace E := (((((E.bIx 0).bIx 4).bIx 4).bIx 4).bIx 4))
      exact E
  · obtain rfl : i = gs.length := by omega
    rw [List.take_length] at hgt
    exact ⟨t, fm, gm, om, D', gr, rfl, hD, hgt, E⟩
end Go.Proofs.YtnnhmahemklnkaaGreatDoor

/-
  Trees: a new tree.
-/
namespace Go.Proofs.YtnnhmahemklnkaaGreatDoor
open Go Go.Sh
set_option maxRecDepth 100000
set_option linter.unusedVariables false
set_option linter.unusedSimpArgs false
variable {w0 w : World} {F : Nat → Prop} {l : List As}

abbrev rootN (owner : BA) : Nd := ⟨0, 0, 2147484157, 0, 0, emp, owner, owner, owner, emp⟩
def newT (owner : BA) (gs : Gs) : Tr := ⟨[rootN owner], 0, 1, gs, []⟩
theorem checkG_zero {gs : Gs} {names : List BA} (h : checkG gs names = 0) : gs.length ≤ 16 ∧ (∀ g ∈ gs, g.2.length ≤ 16) ∧ (∀ s ∈ names ++ gwords gs, goodName s = true) ∧ (gs.map (·.1)).Nodup := by
  unfold checkG at h
  split at h
  · cases h
  rename_i h1
  split at h
  · cases h
  rename_i h2
  split at h
  · cases h
  rename_i h3
  unfold glimit at h1
  simp only [Bool.or_eq_true, decide_eq_true_eq, List.any_eq_true, not_or, not_exists, not_and] at h1 h2 h3
  refine ⟨by omega, fun g hg => by have := h1.2 g hg; omega, fun s hs => by have := h2 s hs; simpa using this, ?_⟩
  have := h3.2
  unfold twice at this
  simpa using this
theorem root_dir : isD 2147484157 = true := by decide
theorem root_right : rightM 2147484157 = true := by decide
theorem newT_inv {owner : BA} {gs : Gs} (ho : goodName owner = true) : Inv (newT owner gs) := by
  have mm : ∀ {P : Nd → Prop}, P (rootN owner) → ∀ n ∈ (newT owner gs).ns, P n := by
    intro P h n hn
    rw [List.mem_singleton.1 hn]; exact h
  refine ⟨List.pairwise_singleton _ _, ⟨_, List.mem_singleton.2 rfl, rfl⟩, mm ⟨Int.le_refl _, by show (0 : Int) < 1; omega⟩, mm fun _ => ⟨root_dir, rfl⟩, mm fun h => absurd rfl h, mm fun _ _ h => absurd rfl h, mm fun h => absurd rfl h, ⟨fun _ => 0, mm fun h => absurd rfl h⟩,
    mm ⟨fun _ => rfl, Nat.zero_le _⟩, mm ⟨ho, ho, root_right, Int.le_refl _, Int.le_refl _⟩, List.Pairwise.nil, (fun _ h => by cases h), (fun _ h => by cases h), (fun _ h => by cases h), ⟨by show 1 ≤ 1024; omega, Nat.zero_le _⟩, Int.le_refl _, mm fun _ => rfl⟩
theorem New_ok {D : List Row} {v : Value} {gv : List (BA × Value)} {gs : Gs} {owner : BA} (hg : GIn w0 F l v gv gs) (hgl : gs.length ≤ 100000) (hul : ∀ g ∈ gs, g.2.length ≤ 100000) (hsz : ∀ s ∈ [owner] ++ gwords gs, s.size ≤ 9223372036854775807)
    (E : Hs w0 F w (Pool D :: l)) : Ca PP Fn.tree_New #[str owner, v] w fun r w' =>
      (checkG gs [owner] ≠ 0 ∧ r = .tuple #[.pointer none, i64 (checkG gs [owner])] ∧ Hs w0 F w' (Pool D :: l)) ∨
      (checkG gs [owner] = 0 ∧ ∃ D' X β, r = .tuple #[ptr X.t, i64 0] ∧ (∀ x ∈ D, x ∈ D') ∧ Tie D' X (newT owner gs) β ∧ Inv (newT owner gs) ∧ Hs w0 F w' (trA X :: Pool D' :: l)) := by
  refine S.tree_New.calls ?_
  unfold S.tree_New
  refine BdS.one E u_sl_string e_string rfl ?_
  clear E
  intro nv w_ E
  refine (check_ok (names := [owner]) (hg.weaken fun w E => E.tl) (by simp) hgl hul hsz E).mono ?_
  clear E
  rintro r w_ ⟨rfl, E⟩
  refine Bi.neq ?_ ?_ <;> intro hc <;> (repeat with_reducible first | refine Stp.go ?_ | refine StpE.go E ?_)
  · exact .inl ⟨hc, rfl, E⟩
  obtain ⟨c1, c2, c3, c4⟩ := checkG_zero hc
  refine (empty_ok hg c4 c1 c2 E).mono ?_
  clear E
  rintro r w_ ⟨t, fm, gm, om, D', gr, rfl, hD, hgt, E⟩
  refine MkM.pt (kt := .str) E ?_
  clear E
  intro kb w_ hkb E
  (repeat first | (with_reducible first | refine Stp.go ?_ | refine StpE.go E ?_ | (refine StpW.go E ?_; clear E; intro w_ E) | (refine StpA.go E ?_; clear E; intro b_ w_ hb_ E) | refine LnL.nil ?_) | ((with_reducible refine Bi.dec true ?_ ?_); focus exact rfl) | ((with_reducible refine Bi.dec false ?_ ?_); focus exact rfl) | ((with_reducible refine Bi.sdec true ?_ ?_); focus decide) | ((with_reducible refine Bi.sdec false ?_ ?_); focus decide))
  (revert b_; intro nb hbnb E)
  have E2 : Hs w0 F w_ (nd nb ⟨0, 0, 0, 0, 0, 0, emp, owner, owner, owner, .slice none 0 0, some kb, none, false⟩ :: mp kb .str [] :: pt t (oc [ptr nb, .map (some fm), .map (some gm), i64 1, i64 0, .map (some om)] Ty.tree_Tree) :: mp fm (.int .i64) [] :: mp gm .str (encM Value.string id gr) :: mp om (.int .i64) [] :: Pool D' :: l) := E
  clear E
  refine (is_ok E2).mono ?_
  clear E2
  rintro r w_ E
  (repeat first | (with_reducible first | refine Stp.go ?_ | refine StpE.go E ?_ | (refine StpW.go E ?_; clear E; intro w_ E) | (refine StpA.go E ?_; clear E; intro b_ w_ hb_ E) | refine LnL.nil ?_) | ((with_reducible refine Bi.dec true ?_ ?_); focus exact rfl) | ((with_reducible refine Bi.dec false ?_ ?_); focus exact rfl) | ((with_reducible refine Bi.sdec true ?_ ?_); focus decide) | ((with_reducible refine Bi.sdec false ?_ ?_); focus decide))
  refine Mu.by E u_mfiles k_i64 rfl ?_
  clear E
  intro w_ E
  obtain ⟨X, hX⟩ : ∃ X : PT, X = ⟨t, nb, fm, gm, om, 1, 0, [⟨rootN owner, nb, 0, .slice none 0 0, kb, [], none⟩], [], [(0, nb)], gr, []⟩ := ⟨_, rfl⟩
  refine .inr ⟨hc, D', X, fun _ => nb, by rw [hX], hD, ?_, newT_inv (c3 owner (by simp)), ?_⟩
  · rw [hX]
    refine ⟨List.Perm.refl _, rfl, rfl, ?_, ?_, ?_, List.Perm.refl _, ⟨_, List.mem_singleton.2 rfl, rfl, rfl⟩, hgt, ?_, List.Perm.refl _, fun x h => by cases h⟩
    · intro n hn
      rw [List.mem_singleton.1 hn]
      exact .inl ⟨rfl, _, _, rfl⟩
    · intro n hn
      rw [List.mem_singleton.1 hn]
      exact ⟨fun _ => rfl, fun h => absurd rfl h⟩
    · intro n hn
      rw [List.mem_singleton.1 hn]
      exact List.Perm.refl _
    · intro n hn
      rw [List.mem_singleton.1 hn]
  · obtain ⟨qn, hqn⟩ : ∃ qn : PN, qn = ⟨rootN owner, nb, 0, .slice none 0 0, kb, [], none⟩ := ⟨_, rfl⟩
    have hmn : qn.mn = ⟨kindOf 2147484157, 0, 0, 2147484157, 0, 0, emp, owner, owner, owner, .slice none 0 0, some kb, none, false⟩ := by
      rw [hqn]
      show MN.mk _ _ _ _ _ _ _ _ _ _ _ (if isD 2147484157 = true then some kb else none) _ _ = _
      rw [if_pos root_dir]
    have hdir : qn.f.dir = true := by rw [hqn]; exact root_dir
    have E2 : Hs w0 F w_ (nd qn.blk qn.mn :: mp qn.kb .str qn.kM :: tb X :: mp X.fm (.int .i64) X.fM :: mp X.gm .str X.gM :: mp X.om (.int .i64) X.oM :: Pool D' :: l) := by
      rw [hmn, hX, hqn]; exact E
    replace E2 := Hs.closeK hdir (E2.bIx 1)
    have E := Hs.starNil (Hs.starNil E2)
    (replace E := ((((((((E.bIx 1).bIx 1).bIx 2).bIx 3).bIx 7).bIx 7).bIx 7).bIx 7))
    exact Hs.closeTN X qn (rs := []) (by rw [hX, hqn]) (by rw [hX] at E ⊢; exact E)
end Go.Proofs.YtnnhmahemklnkaaGreatDoor

/-
  Trees: opening.
-/
namespace Go.Proofs.YtnnhmahemklnkaaGreatDoor
open Go Go.Sh
set_option maxRecDepth 100000
set_option linter.unusedVariables false
set_option linter.unusedSimpArgs false
variable {w0 w : World} {F : Nat → Prop} {l : List As}
variable {D : List Row} {X : PT} {T : Tr} {β : Int → Nat}

theorem u_arr4 : PP.underlying Ty.f_4_int = some (.array 4 Ty.int) := by kernel_rfl
theorem sc_int : scal PP Ty.int = true := by kernel_rfl
theorem si_int : sizeK PP Ty.int = some 1 := by kernel_rfl
theorem and3 (x : Int) : andI x 3 = 0 ∨ andI x 3 = 1 ∨ andI x 3 = 2 ∨ andI x 3 = 3 := by
  unfold andI
  have h : (BitVec.ofInt 64 x &&& BitVec.ofInt 64 3).toNat ≤ 3 := by
    rw [BitVec.toNat_and]
    exact Nat.and_le_right
  generalize (BitVec.ofInt 64 x &&& BitVec.ofInt 64 3).toNat = n at h
  rcases n with _ | _ | _ | _ | n
  · exact .inl (by decide)
  · exact .inr (.inl (by decide))
  · exact .inr (.inr (.inl (by decide)))
  · exact .inr (.inr (.inr (by decide)))
  · omega
theorem Hs.blkN {ps : List PN} (E : Hs w0 F w l) (hm : NT ps ∈ l) {n : PN} (hn : n ∈ ps) : ∃ cs, w.heap[n.blk]? = some (oc cs Ty.tree_node) := by
  have h1 := (E.sat _ hm).1 (PN.as n) (List.mem_map.2 ⟨n, hn, rfl⟩)
  exact ⟨_, h1.1 (nd n.blk n.mn) List.mem_cons_self⟩
theorem Hs.blkD {ds : List (Nat × MN)} (E : Hs w0 F w l) (hm : DT ds ∈ l) {d : Nat × MN} (hd : d ∈ ds) : ∃ cs, w.heap[d.1]? = some (oc cs Ty.tree_node) :=
  ⟨_, (E.sat _ hm).1 (nd d.1 d.2) (List.mem_map.2 ⟨d, hd, rfl⟩)⟩
/-- The block of a handle's file. -/
theorem hob (h : Tie D X T β) (hi : Inv T) {x : Int × Hd} (hx : x ∈ T.hs) {n : PN} {rs : List PN} (hpm : X.ps.Perm (n :: rs)) (E : Hs w0 F w l) (m1 : nd n.blk n.mn ∈ l) (m2 : NT rs ∈ l) (m3 : DT X.ds ∈ l) : ∃ cs, w.heap[β x.2.file]? = some (oc cs Ty.tree_node) := by
  cases hg : T.get x.2.file with
  | none =>
    obtain ⟨m, hm, _⟩ := h.dead x hx (get_none.1 hg)
    exact Hs.blkD E m3 hm
  | some y =>
    obtain ⟨h1, h2⟩ := hi.get.1 hg
    obtain ⟨k, hk, rfl⟩ := h.mem.1 h1
    rw [← h2, h.bl k hk]
    rcases List.mem_cons.1 (hpm.mem_iff.1 hk) with rfl | hr
    · exact ⟨_, E.sat _ m1⟩
    · exact Hs.blkN E m2 hr
/-- A handle points to a file that is there just where it is that file's. -/
theorem hptr (h : Tie D X T β) (hi : Inv T) (E : Hs w0 F w (trA X :: l)) {n : PN} (hn : n ∈ X.ps) {x : Int × Hd} (hx : x ∈ T.hs) : β x.2.file = n.blk ↔ x.2.file = n.f.path := by
  constructor
  · intro he
    cases hg : T.get x.2.file with
    | none =>
      obtain ⟨m, hm, _⟩ := h.dead x hx (get_none.1 hg)
      have E1 := Hs.openT E
      refine absurd ((E1.bIx 5).bIx 5) fun E2 => ?_
      exact Hs.disj E2 (b := n.blk) ⟨PN.as n, List.mem_map.2 ⟨n, hn, rfl⟩, nd n.blk n.mn, List.mem_cons_self, rfl⟩ ⟨_, List.mem_map.2 ⟨_, hm, rfl⟩, he.symm⟩
    | some y =>
      obtain ⟨h1, h2⟩ := hi.get.1 hg
      obtain ⟨k, hk, rfl⟩ := h.mem.1 h1
      rw [← h2, h.bl k hk] at he
      have hnd := Hs.nodupT E
      have : k = n := by
        have key : ∀ (ps : List PN), (ps.map PN.blk).Nodup → k ∈ ps → n ∈ ps → k = n := by
          intro ps
          induction ps with
          | nil => intro _ h; cases h
          | cons x r ih =>
            intro hp ha hb
            rw [List.map_cons, List.nodup_cons] at hp
            rcases List.mem_cons.1 ha with h1 | ha <;> rcases List.mem_cons.1 hb with h2 | hb
            · rw [h1, h2]
            · exact absurd (List.mem_map.2 ⟨n, hb, by rw [← h1, he]⟩) hp.1
            · exact absurd (List.mem_map.2 ⟨k, ha, by rw [← h2, he]⟩) hp.1
            · exact ih hp.2 ha hb
        exact key _ hnd hk hn
      rw [← h2, this]
  · intro he
    rw [he]; exact h.bl n hn

theorem Open_ok (h : Tie D X T β) (hi : Inv T) {N : Int} (hN : N < 4611686018427387904) (hlim : Lim N T) {file mode : Int} {user : BA} (E : Hs w0 F w (trA X :: Pool D :: l)) :
    Ca PP Fn.tree_Tree_Open #[ptr X.t, str user, i64 file, i64 mode] w fun r w' =>
      r = .tuple #[i64 (T.openF user file mode).2.1, (T.openF user file mode).2.2.1.V, i64 (T.openF user file mode).2.2.2] ∧ Goes w0 F l D X (T.openF user file mode).1 w' := by
  refine S.tree_Tree_Open.calls ?_
  unfold S.tree_Tree_Open
  have hnd := Hs.nodupT E
  (repeat first | (with_reducible first | refine Stp.go ?_ | refine StpE.go E ?_ | (refine StpW.go E ?_; clear E; intro w_ E) | (refine StpA.go E ?_; clear E; intro b_ w_ hb_ E) | (apply hJ20; intro u_) | (apply hJ30; intro u_) | (apply hJ34; intro u_) | (apply hJ58; intro u_) | (apply hJ102; intro u_) | (apply hJ112; intro u_) | refine LnL.nil ?_) | ((with_reducible refine Bi.dec true ?_ ?_); focus exact rfl) | ((with_reducible refine Bi.dec false ?_ ?_); focus exact rfl) | ((with_reducible refine Bi.sdec true ?_ ?_); focus decide) | ((with_reducible refine Bi.sdec false ?_ ?_); focus decide))
  (revert b_; intro q hbq E)
  refine Eq.ef u_p_tree rfl ?_
  (repeat first | (with_reducible first | refine Stp.go ?_ | refine StpE.go E ?_ | (refine StpW.go E ?_; clear E; intro w_ E) | (refine StpA.go E ?_; clear E; intro b_ w_ hb_ E) | (apply hJ20; intro u_) | (apply hJ30; intro u_) | (apply hJ34; intro u_) | (apply hJ58; intro u_) | (apply hJ102; intro u_) | (apply hJ112; intro u_) | refine LnL.nil ?_) | ((with_reducible refine Bi.dec true ?_ ?_); focus exact rfl) | ((with_reducible refine Bi.dec false ?_ ?_); focus exact rfl) | ((with_reducible refine Bi.sdec true ?_ ?_); focus decide) | ((with_reducible refine Bi.sdec false ?_ ?_); focus decide))
  (replace E := (((E.bIx 0).bIx 2).bIx 2))
  refine Bi.neq ?_ ?_ <;> intro c1 <;> (repeat first | (with_reducible first | refine Stp.go ?_ | refine StpE.go E ?_ | (refine StpW.go E ?_; clear E; intro w_ E) | (refine StpA.go E ?_; clear E; intro b_ w_ hb_ E) | (apply hJ20; intro u_) | (apply hJ30; intro u_) | (apply hJ34; intro u_) | (apply hJ58; intro u_) | (apply hJ102; intro u_) | (apply hJ112; intro u_) | refine LnL.nil ?_) | ((with_reducible refine Bi.dec true ?_ ?_); focus exact rfl) | ((with_reducible refine Bi.dec false ?_ ?_); focus exact rfl) | ((with_reducible refine Bi.sdec true ?_ ?_); focus decide) | ((with_reducible refine Bi.sdec false ?_ ?_); focus decide))
  · have e : T.openF user file mode = (T, 0, q0, 20) := by unfold Tr.openF; rw [if_pos c1]
    rw [e]
    exact ⟨rfl, .same h (E.bIx 2).tl⟩
  have c1 : ¬ clrI mode 83 ≠ 0 := fun hc => hc c1
  rcases h.find hi file with ⟨h1, h2⟩ | ⟨n, rs, hpm, hn, hpath, h1, h2⟩
  · replace E := Hs.openT E
    refine (find_ok E).mono ?_
    clear E
    rintro r w_ ⟨rfl, E⟩
    rw [h2]
    unfold findV
    (repeat first | (with_reducible first | refine Stp.go ?_ | refine StpE.go E ?_ | (refine StpW.go E ?_; clear E; intro w_ E) | (refine StpA.go E ?_; clear E; intro b_ w_ hb_ E) | (apply hJ20; intro u_) | (apply hJ30; intro u_) | (apply hJ34; intro u_) | (apply hJ58; intro u_) | (apply hJ102; intro u_) | (apply hJ112; intro u_) | refine LnL.nil ?_) | ((with_reducible refine Bi.dec true ?_ ?_); focus exact rfl) | ((with_reducible refine Bi.dec false ?_ ?_); focus exact rfl) | ((with_reducible refine Bi.sdec true ?_ ?_); focus decide) | ((with_reducible refine Bi.sdec false ?_ ?_); focus decide))
    have e : T.openF user file mode = (T, 0, q0, 4) := by unfold Tr.openF; rw [if_neg c1]; simp only [h1]
    rw [e]
    exact ⟨rfl, .same h ((Hs.closeT X E).bIx 2).tl⟩
  have hptr1 := fun (x : Int × Hd) (hx : x ∈ T.hs) => hptr h hi E hn hx
  replace E := Hs.openTN hpm E
  have keep : ∀ w, Hs w0 F w (tb X :: mp X.fm (.int .i64) X.fM :: mp X.gm .str X.gM :: mp X.om (.int .i64) X.oM :: nd n.blk n.mn :: KM n :: NT rs :: DT X.ds :: Pool D :: qd0 q :: l) → Goes w0 F l D X T w :=
    fun w E => .same h ((Hs.closeTN X n hpm E).bIx 2).tl
  refine (find_ok E).mono ?_
  clear E
  rintro r w_ ⟨rfl, E⟩
  rw [h2]
  unfold findV
  subst hpath
  (repeat first | (with_reducible first | refine Stp.go ?_ | refine StpE.go E ?_ | (refine StpW.go E ?_; clear E; intro w_ E) | (refine StpA.go E ?_; clear E; intro b_ w_ hb_ E) | (apply hJ20; intro u_) | (apply hJ30; intro u_) | (apply hJ34; intro u_) | (apply hJ58; intro u_) | (apply hJ102; intro u_) | (apply hJ112; intro u_) | refine LnL.nil ?_) | ((with_reducible refine Bi.dec true ?_ ?_); focus exact rfl) | ((with_reducible refine Bi.dec false ?_ ?_); focus exact rfl) | ((with_reducible refine Bi.sdec true ?_ ?_); focus decide) | ((with_reducible refine Bi.sdec false ?_ ?_); focus decide))
  (intro J20 hJ20)
  have fin20 : ∀ b w_, b = decide (n.f.dir = true ∧ mode ≠ 0) → Hs w0 F w_ (tb X :: mp X.fm (.int .i64) X.fM :: mp X.gm .str X.gM :: mp X.om (.int .i64) X.oM :: nd n.blk n.mn :: KM n :: NT rs :: DT X.ds :: Pool D :: qd0 q :: l) → J20 [.bool b] w_ := by
    intro b w_ hb E
    (repeat first | (with_reducible first | refine Stp.go ?_ | refine StpE.go E ?_ | (refine StpW.go E ?_; clear E; intro w_ E) | (refine StpA.go E ?_; clear E; intro b_ w_ hb_ E) | (apply hJ20; intro u_) | (apply hJ30; intro u_) | (apply hJ34; intro u_) | (apply hJ58; intro u_) | (apply hJ102; intro u_) | (apply hJ112; intro u_) | refine LnL.nil ?_) | ((with_reducible refine Bi.dec true ?_ ?_); focus exact rfl) | ((with_reducible refine Bi.dec false ?_ ?_); focus exact rfl) | ((with_reducible refine Bi.sdec true ?_ ?_); focus decide) | ((with_reducible refine Bi.sdec false ?_ ?_); focus decide))
    by_cases c2 : n.f.dir = true ∧ mode ≠ 0
    · rw [decide_eq_true c2] at hb
      subst hb
      (repeat first | (with_reducible first | refine Stp.go ?_ | refine StpE.go E ?_ | (refine StpW.go E ?_; clear E; intro w_ E) | (refine StpA.go E ?_; clear E; intro b_ w_ hb_ E) | (apply hJ20; intro u_) | (apply hJ30; intro u_) | (apply hJ34; intro u_) | (apply hJ58; intro u_) | (apply hJ102; intro u_) | (apply hJ112; intro u_) | refine LnL.nil ?_) | ((with_reducible refine Bi.dec true ?_ ?_); focus exact rfl) | ((with_reducible refine Bi.dec false ?_ ?_); focus exact rfl) | ((with_reducible refine Bi.sdec true ?_ ?_); focus decide) | ((with_reducible refine Bi.sdec false ?_ ?_); focus decide))
      have e : T.openF user n.f.path mode = (T, 0, q0, 18) := by unfold Tr.openF; rw [if_neg c1]; simp only [h1, if_pos c2]
      rw [e]
      exact ⟨rfl, keep _ E⟩
    rw [decide_eq_false c2] at hb
    subst hb
    (repeat first | (with_reducible first | refine Stp.go ?_ | refine StpE.go E ?_ | (refine StpW.go E ?_; clear E; intro w_ E) | (refine StpA.go E ?_; clear E; intro b_ w_ hb_ E) | (apply hJ20; intro u_) | (apply hJ30; intro u_) | (apply hJ34; intro u_) | (apply hJ58; intro u_) | (apply hJ102; intro u_) | (apply hJ112; intro u_) | refine LnL.nil ?_) | ((with_reducible refine Bi.dec true ?_ ?_); focus exact rfl) | ((with_reducible refine Bi.dec false ?_ ?_); focus exact rfl) | ((with_reducible refine Bi.sdec true ?_ ?_); focus decide) | ((with_reducible refine Bi.sdec false ?_ ?_); focus decide))
    clear hJ20
    refine BdA.mk (cs := #[.int .i64 4, .int .i64 2, .int .i64 6, .int .i64 1]) rfl ?_
    (repeat first | (with_reducible first | refine Stp.go ?_ | refine StpE.go E ?_ | (refine StpW.go E ?_; clear E; intro w_ E) | (refine StpA.go E ?_; clear E; intro b_ w_ hb_ E) | (apply hJ20; intro u_) | (apply hJ30; intro u_) | (apply hJ34; intro u_) | (apply hJ58; intro u_) | (apply hJ102; intro u_) | (apply hJ112; intro u_) | refine LnL.nil ?_) | ((with_reducible refine Bi.dec true ?_ ?_); focus exact rfl) | ((with_reducible refine Bi.dec false ?_ ?_); focus exact rfl) | ((with_reducible refine Bi.sdec true ?_ ?_); focus decide) | ((with_reducible refine Bi.sdec false ?_ ?_); focus decide))
    have hm3 := and3 mode
    refine Ix.arr (cs := [.int .i64 4, .int .i64 2, .int .i64 6, .int .i64 1]) u_arr4 sc_int si_int (by omega) (by omega) (v := i64 (if andI mode 3 = 0 then 4 else if andI mode 3 = 1 then 2 else if andI mode 3 = 2 then 6 else 1)) (by rcases hm3 with h | h | h | h <;> rw [h] <;> rfl) ?_
    (intro J30 hJ30)
    have fin30 : ∀ w_, Hs w0 F w_ (tb X :: mp X.fm (.int .i64) X.fM :: mp X.gm .str X.gM :: mp X.om (.int .i64) X.oM :: nd n.blk n.mn :: KM n :: NT rs :: DT X.ds :: Pool D :: qd0 q :: l) → J30 [i64 (needs mode)] w_ := by
      intro w_ E
      (repeat first | (with_reducible first | refine Stp.go ?_ | refine StpE.go E ?_ | (refine StpW.go E ?_; clear E; intro w_ E) | (refine StpA.go E ?_; clear E; intro b_ w_ hb_ E) | (apply hJ20; intro u_) | (apply hJ30; intro u_) | (apply hJ34; intro u_) | (apply hJ58; intro u_) | (apply hJ102; intro u_) | (apply hJ112; intro u_) | refine LnL.nil ?_) | ((with_reducible refine Bi.dec true ?_ ?_); focus exact rfl) | ((with_reducible refine Bi.dec false ?_ ?_); focus exact rfl) | ((with_reducible refine Bi.sdec true ?_ ?_); focus decide) | ((with_reducible refine Bi.sdec false ?_ ?_); focus decide))
      clear hJ30
      (intro J34 hJ34)
      have fin34 : ∀ b w_, b = decide (T.may user n.f (needs mode) = false ∨ (andI mode 64 ≠ 0 ∧ T.may user (T.parent n.f) 2 = false)) → Hs w0 F w_ (tb X :: mp X.fm (.int .i64) X.fM :: mp X.gm .str X.gM :: mp X.om (.int .i64) X.oM :: nd n.blk n.mn :: KM n :: NT rs :: DT X.ds :: Pool D :: qd0 q :: l) → J34 [.bool b] w_ := by
        intro b w_ hb E
        (repeat first | (with_reducible first | refine Stp.go ?_ | refine StpE.go E ?_ | (refine StpW.go E ?_; clear E; intro w_ E) | (refine StpA.go E ?_; clear E; intro b_ w_ hb_ E) | (apply hJ20; intro u_) | (apply hJ30; intro u_) | (apply hJ34; intro u_) | (apply hJ58; intro u_) | (apply hJ102; intro u_) | (apply hJ112; intro u_) | refine LnL.nil ?_) | ((with_reducible refine Bi.dec true ?_ ?_); focus exact rfl) | ((with_reducible refine Bi.dec false ?_ ?_); focus exact rfl) | ((with_reducible refine Bi.sdec true ?_ ?_); focus decide) | ((with_reducible refine Bi.sdec false ?_ ?_); focus decide))
        by_cases c3 : T.may user n.f (needs mode) = false ∨ (andI mode 64 ≠ 0 ∧ T.may user (T.parent n.f) 2 = false)
        · rw [decide_eq_true c3] at hb
          subst hb
          (repeat first | (with_reducible first | refine Stp.go ?_ | refine StpE.go E ?_ | (refine StpW.go E ?_; clear E; intro w_ E) | (refine StpA.go E ?_; clear E; intro b_ w_ hb_ E) | (apply hJ20; intro u_) | (apply hJ30; intro u_) | (apply hJ34; intro u_) | (apply hJ58; intro u_) | (apply hJ102; intro u_) | (apply hJ112; intro u_) | refine LnL.nil ?_) | ((with_reducible refine Bi.dec true ?_ ?_); focus exact rfl) | ((with_reducible refine Bi.dec false ?_ ?_); focus exact rfl) | ((with_reducible refine Bi.sdec true ?_ ?_); focus decide) | ((with_reducible refine Bi.sdec false ?_ ?_); focus decide))
          have e : T.openF user n.f.path mode = (T, 0, q0, 17) := by unfold Tr.openF; rw [if_neg c1]; simp only [h1, if_neg c2, if_pos c3]
          rw [e]
          exact ⟨rfl, keep _ E⟩
        rw [decide_eq_false c3] at hb
        subst hb
        (repeat first | (with_reducible first | refine Stp.go ?_ | refine StpE.go E ?_ | (refine StpW.go E ?_; clear E; intro w_ E) | (refine StpA.go E ?_; clear E; intro b_ w_ hb_ E) | (apply hJ20; intro u_) | (apply hJ30; intro u_) | (apply hJ34; intro u_) | (apply hJ58; intro u_) | (apply hJ102; intro u_) | (apply hJ112; intro u_) | refine LnL.nil ?_) | ((with_reducible refine Bi.dec true ?_ ?_); focus exact rfl) | ((with_reducible refine Bi.dec false ?_ ?_); focus exact rfl) | ((with_reducible refine Bi.sdec true ?_ ?_); focus decide) | ((with_reducible refine Bi.sdec false ?_ ?_); focus decide))
        clear hJ34
        refine Rg.mp (m := X.om) E u_mopen ?_
        clear E
        intro it es clock w_ hit hes hw hok E
        refine ⟨fun l1 w1 => l1 = [] ∧ ∃ ms, Wlk es clock ms ∧ (∀ e ∈ ms, andI n.f.mode 536870912 ≠ 0 → ∀ hv, e.val = HV.V hv → hv.blk ≠ n.blk) ∧
          Hs w0 F w1 (pt it (itO X.om clock ms) :: pt X.om (mapO es clock) :: tb X :: mp X.fm (.int .i64) X.fM :: mp X.gm .str X.gM :: nd n.blk n.mn :: KM n :: NT rs :: DT X.ds :: Pool D :: qd0 q :: l), fun _ w1 => itM it (es.size + 1) w1, ⟨rfl, [], hw, (fun _ h => by cases h), E⟩, ?_⟩
        clear E hw
        rintro u w1 ⟨-, ms, hw, hno, E⟩
        refine Nx.mp E hw ?_ ?_
        · intro e w_ he hn2 hw2 E2
          have hm : itM it (es.size + 1) w1 = es.size + 1 - ms.length := itM_eq E
          have hle := hw2.le
          simp only [List.length_append, List.length_cons, List.length_nil] at hle
          clear E
          have E := E2
          clear E2
          (repeat first | (with_reducible first | refine Stp.go ?_ | refine StpE.go E ?_ | (refine StpW.go E ?_; clear E; intro w_ E) | (refine StpA.go E ?_; clear E; intro b_ w_ hb_ E) | (apply hJ20; intro u_) | (apply hJ30; intro u_) | (apply hJ34; intro u_) | (apply hJ58; intro u_) | (apply hJ102; intro u_) | (apply hJ112; intro u_) | refine LnL.nil ?_) | ((with_reducible refine Bi.dec true ?_ ?_); focus exact rfl) | ((with_reducible refine Bi.dec false ?_ ?_); focus exact rfl) | ((with_reducible refine Bi.sdec true ?_ ?_); focus decide) | ((with_reducible refine Bi.sdec false ?_ ?_); focus decide))
          refine Ent.mp E hw2 ?_
          have hmem : (e.key, e.val) ∈ X.oM := by rw [← hes]; exact List.mem_map.2 ⟨e, he, rfl⟩
          obtain ⟨y, hy, hye⟩ := List.mem_map.1 hmem
          obtain ⟨x, hx, hxe⟩ := List.mem_map.1 (h.ol.mem_iff.1 hy)
          have hval : e.val = HV.V ⟨β x.2.file, x.2.mode, x.2.user⟩ := by
            have := congrArg Prod.snd hye
            rw [← hxe] at this
            exact this.symm
          rw [hval]
          (repeat first | (with_reducible first | refine Stp.go ?_ | refine StpE.go E ?_ | (refine StpW.go E ?_; clear E; intro w_ E) | (refine StpA.go E ?_; clear E; intro b_ w_ hb_ E) | (apply hJ20; intro u_) | (apply hJ30; intro u_) | (apply hJ34; intro u_) | (apply hJ58; intro u_) | (apply hJ102; intro u_) | (apply hJ112; intro u_) | refine LnL.nil ?_) | ((with_reducible refine Bi.dec true ?_ ?_); focus exact rfl) | ((with_reducible refine Bi.dec false ?_ ?_); focus exact rfl) | ((with_reducible refine Bi.sdec true ?_ ?_); focus decide) | ((with_reducible refine Bi.sdec false ?_ ?_); focus decide))
          (revert b_; intro t hbt E)
          (intro J58 hJ58)
          have fin58 : ∀ b w_, b = decide (x.2.file = n.f.path ∧ andI n.f.mode 536870912 ≠ 0) → Hs w0 F w_ (pt t (oc [ptr (β x.2.file), i64 x.2.mode, str x.2.user] Ty.tree_handle) :: pt it (itO X.om clock (ms ++ [e])) :: pt X.om (mapO es clock) :: tb X :: mp X.fm (.int .i64) X.fM :: mp X.gm .str X.gM :: nd n.blk n.mn :: KM n :: NT rs :: DT X.ds :: Pool D :: qd0 q :: l) → J58 [.bool b] w_ := by
            intro b w_ hb E
            (repeat first | (with_reducible first | refine Stp.go ?_ | refine StpE.go E ?_ | (refine StpW.go E ?_; clear E; intro w_ E) | (refine StpA.go E ?_; clear E; intro b_ w_ hb_ E) | (apply hJ20; intro u_) | (apply hJ30; intro u_) | (apply hJ34; intro u_) | (apply hJ58; intro u_) | (apply hJ102; intro u_) | (apply hJ112; intro u_) | refine LnL.nil ?_) | ((with_reducible refine Bi.dec true ?_ ?_); focus exact rfl) | ((with_reducible refine Bi.dec false ?_ ?_); focus exact rfl) | ((with_reducible refine Bi.sdec true ?_ ?_); focus decide) | ((with_reducible refine Bi.sdec false ?_ ?_); focus decide))
            by_cases c4 : x.2.file = n.f.path ∧ andI n.f.mode 536870912 ≠ 0
            · rw [decide_eq_true c4] at hb
              subst hb
              (repeat first | (with_reducible first | refine Stp.go ?_ | refine StpE.go E ?_ | (refine StpW.go E ?_; clear E; intro w_ E) | (refine StpA.go E ?_; clear E; intro b_ w_ hb_ E) | (apply hJ20; intro u_) | (apply hJ30; intro u_) | (apply hJ34; intro u_) | (apply hJ58; intro u_) | (apply hJ102; intro u_) | (apply hJ112; intro u_) | refine LnL.nil ?_) | ((with_reducible refine Bi.dec true ?_ ?_); focus exact rfl) | ((with_reducible refine Bi.dec false ?_ ?_); focus exact rfl) | ((with_reducible refine Bi.sdec true ?_ ?_); focus decide) | ((with_reducible refine Bi.sdec false ?_ ?_); focus decide))
              have e : T.openF user n.f.path mode = (T, 0, q0, 19) := by unfold Tr.openF; rw [if_neg c1]; simp only [h1, if_neg c2, if_neg c3]; rw [if_pos ⟨c4.2, x, hx, c4.1⟩]
              rw [e]
              replace E := Hs.mapBack (m := X.om) E.tl hes hw2 hok
              replace E := (E.bIx 1).tl
              (replace E := ((((E.bIx 0).bIx 3).bIx 3).bIx 3))
              exact ⟨rfl, keep _ E⟩
            · rw [decide_eq_false c4] at hb
              subst hb
              (repeat first | (with_reducible first | refine Stp.go ?_ | refine StpE.go E ?_ | (refine StpW.go E ?_; clear E; intro w_ E) | (refine StpA.go E ?_; clear E; intro b_ w_ hb_ E) | (apply hJ20; intro u_) | (apply hJ30; intro u_) | (apply hJ34; intro u_) | (apply hJ58; intro u_) | (apply hJ102; intro u_) | (apply hJ112; intro u_) | refine LnL.nil ?_) | ((with_reducible refine Bi.dec true ?_ ?_); focus exact rfl) | ((with_reducible refine Bi.dec false ?_ ?_); focus exact rfl) | ((with_reducible refine Bi.sdec true ?_ ?_); focus decide) | ((with_reducible refine Bi.sdec false ?_ ?_); focus decide))
              refine ⟨⟨rfl, _, hw2, ?_, E.tl⟩, ?_⟩
              · intro e' he' hex hv hev
                rcases List.mem_append.1 he' with h' | h'
                · exact hno e' h' hex hv hev
                · rw [List.mem_singleton.1 h', hval] at hev
                  have : hv.blk = β x.2.file := by
                    simp only [HV.V, Value.agg.injEq, Array.mk.injEq, List.cons.injEq, Value.pointer.injEq, Option.some.injEq, Addr.mk.injEq] at hev
                    exact hev.1.1.symm
                  rw [this]
                  exact fun hc => c4 ⟨(hptr1 x hx).1 hc, hex⟩
              · show itM it (es.size + 1) w_ < itM it (es.size + 1) w1
                rw [hm, itM_eq E.tl]
                simp; omega
          clear hJ58
          obtain ⟨cs1, ho1⟩ := hob h hi hx hpm E (by simp) (by simp) (by simp)
          have ho2 : w_.heap[n.blk]? = some (oc n.mn.C Ty.tree_node) := E.sat (nd n.blk n.mn) (by simp)
          (repeat first | (with_reducible first | refine Stp.go ?_ | refine StpE.go E ?_ | (refine StpW.go E ?_; clear E; intro w_ E) | (refine StpA.go E ?_; clear E; intro b_ w_ hb_ E) | (apply hJ20; intro u_) | (apply hJ30; intro u_) | (apply hJ34; intro u_) | (apply hJ58; intro u_) | (apply hJ102; intro u_) | (apply hJ112; intro u_) | refine LnL.nil ?_) | ((with_reducible refine Bi.dec true ?_ ?_); focus exact rfl) | ((with_reducible refine Bi.dec false ?_ ?_); focus exact rfl) | ((with_reducible refine Bi.sdec true ?_ ?_); focus decide) | ((with_reducible refine Bi.sdec false ?_ ?_); focus decide))
          refine Eq.pp u_p_node n_node ho1 ho2 ?_
          by_cases c5 : β x.2.file = n.blk
          · rw [decide_eq_true (by rw [c5])]
            (repeat first | (with_reducible first | refine Stp.go ?_ | refine StpE.go E ?_ | (refine StpW.go E ?_; clear E; intro w_ E) | (refine StpA.go E ?_; clear E; intro b_ w_ hb_ E) | (apply hJ20; intro u_) | (apply hJ30; intro u_) | (apply hJ34; intro u_) | (apply hJ58; intro u_) | (apply hJ102; intro u_) | (apply hJ112; intro u_) | refine LnL.nil ?_) | ((with_reducible refine Bi.dec true ?_ ?_); focus exact rfl) | ((with_reducible refine Bi.dec false ?_ ?_); focus exact rfl) | ((with_reducible refine Bi.sdec true ?_ ?_); focus decide) | ((with_reducible refine Bi.sdec false ?_ ?_); focus decide))
            refine Bi.neq ?_ ?_ <;> intro c6 <;> (repeat first | (with_reducible first | refine Stp.go ?_ | refine StpE.go E ?_ | (refine StpW.go E ?_; clear E; intro w_ E) | (refine StpA.go E ?_; clear E; intro b_ w_ hb_ E) | (apply hJ20; intro u_) | (apply hJ30; intro u_) | (apply hJ34; intro u_) | (apply hJ58; intro u_) | (apply hJ102; intro u_) | (apply hJ112; intro u_) | refine LnL.nil ?_) | ((with_reducible refine Bi.dec true ?_ ?_); focus exact rfl) | ((with_reducible refine Bi.dec false ?_ ?_); focus exact rfl) | ((with_reducible refine Bi.sdec true ?_ ?_); focus decide) | ((with_reducible refine Bi.sdec false ?_ ?_); focus decide))
            · exact fin58 _ _ (by rw [decide_eq_true ⟨(hptr1 x hx).1 c5, c6⟩]) E
            · exact fin58 _ _ (by rw [decide_eq_false fun hc => hc.2 c6]) E
          · rw [decide_eq_false fun hc => c5 (by simpa using hc)]
            (repeat first | (with_reducible first | refine Stp.go ?_ | refine StpE.go E ?_ | (refine StpW.go E ?_; clear E; intro w_ E) | (refine StpA.go E ?_; clear E; intro b_ w_ hb_ E) | (apply hJ20; intro u_) | (apply hJ30; intro u_) | (apply hJ34; intro u_) | (apply hJ58; intro u_) | (apply hJ102; intro u_) | (apply hJ112; intro u_) | refine LnL.nil ?_) | ((with_reducible refine Bi.dec true ?_ ?_); focus exact rfl) | ((with_reducible refine Bi.dec false ?_ ?_); focus exact rfl) | ((with_reducible refine Bi.sdec true ?_ ?_); focus decide) | ((with_reducible refine Bi.sdec false ?_ ?_); focus decide))
            exact fin58 _ _ (by rw [decide_eq_false fun hc => c5 ((hptr1 x hx).2 hc.1)]) E
        · intro hp
          (repeat first | (with_reducible first | refine Stp.go ?_ | refine StpE.go E ?_ | (refine StpW.go E ?_; clear E; intro w_ E) | (refine StpA.go E ?_; clear E; intro b_ w_ hb_ E) | (apply hJ20; intro u_) | (apply hJ30; intro u_) | (apply hJ34; intro u_) | (apply hJ58; intro u_) | (apply hJ102; intro u_) | (apply hJ112; intro u_) | refine LnL.nil ?_) | ((with_reducible refine Bi.dec true ?_ ?_); focus exact rfl) | ((with_reducible refine Bi.dec false ?_ ?_); focus exact rfl) | ((with_reducible refine Bi.sdec true ?_ ?_); focus decide) | ((with_reducible refine Bi.sdec false ?_ ?_); focus decide))
          have c4 : ¬ (andI n.f.mode 536870912 ≠ 0 ∧ ∃ x ∈ T.hs, x.2.file = n.f.path) := by
            rintro ⟨hex, x, hx, hxf⟩
            have h2 : (x.1, (⟨β x.2.file, x.2.mode, x.2.user⟩ : HV)) ∈ X.ol := h.ol.mem_iff.2 (List.mem_map.2 ⟨x, hx, rfl⟩)
            have h3 : (i64 x.1, HV.V ⟨β x.2.file, x.2.mode, x.2.user⟩) ∈ X.oM := List.mem_map.2 ⟨_, h2, rfl⟩
            rw [← hes] at h3
            obtain ⟨e, he, hee⟩ := List.mem_map.1 h3
            exact hno e (hp.mem_iff.1 he) hex _ (congrArg Prod.snd hee) ((hptr1 x hx).2 hxf)
          replace E := Hs.mapBack (m := X.om) E hes hw hok
          replace E := (E.bIx 1).tl
          (replace E := ((((E.bIx 0).bIx 3).bIx 3).bIx 3))
          refine (room_ok E).mono ?_
          clear E
          rintro r w_ ⟨rfl, E⟩
          have hlen := h.len
          by_cases c5 : X.ol.length < 64
          rotate_left
          · rw [decide_eq_false c5]
            (repeat first | (with_reducible first | refine Stp.go ?_ | refine StpE.go E ?_ | (refine StpW.go E ?_; clear E; intro w_ E) | (refine StpA.go E ?_; clear E; intro b_ w_ hb_ E) | (apply hJ20; intro u_) | (apply hJ30; intro u_) | (apply hJ34; intro u_) | (apply hJ58; intro u_) | (apply hJ102; intro u_) | (apply hJ112; intro u_) | refine LnL.nil ?_) | ((with_reducible refine Bi.dec true ?_ ?_); focus exact rfl) | ((with_reducible refine Bi.dec false ?_ ?_); focus exact rfl) | ((with_reducible refine Bi.sdec true ?_ ?_); focus decide) | ((with_reducible refine Bi.sdec false ?_ ?_); focus decide))
            have e : T.openF user n.f.path mode = (T, 0, q0, 3) := by unfold Tr.openF; rw [if_neg c1]; simp only [h1, if_neg c2, if_neg c3, if_neg c4]; rw [if_pos (by omega)]
            rw [e]
            exact ⟨rfl, keep _ E⟩
          rw [decide_eq_true c5]
          (repeat first | (with_reducible first | refine Stp.go ?_ | refine StpE.go E ?_ | (refine StpW.go E ?_; clear E; intro w_ E) | (refine StpA.go E ?_; clear E; intro b_ w_ hb_ E) | (apply hJ20; intro u_) | (apply hJ30; intro u_) | (apply hJ34; intro u_) | (apply hJ58; intro u_) | (apply hJ102; intro u_) | (apply hJ112; intro u_) | refine LnL.nil ?_) | ((with_reducible refine Bi.dec true ?_ ?_); focus exact rfl) | ((with_reducible refine Bi.dec false ?_ ?_); focus exact rfl) | ((with_reducible refine Bi.sdec true ?_ ?_); focus decide) | ((with_reducible refine Bi.sdec false ?_ ?_); focus decide))
          have c5' : ¬ ¬ T.hs.length < 64 := by omega
          (intro J102 hJ102)
          have fin102 : ∀ (X1 : PT) (T1 : Tr) (n1 : PN) w_, X1.t = X.t → X1.om = X.om → X1.ol = X.ol → Tie D X1 T1 β → Inv T1 → X1.ps.Perm (n1 :: rs) → n1.blk = n.blk → n1.f.path = n.f.path →
              T.openF user n.f.path mode = ((T1.hold ⟨n.f.path, mode, user⟩).1, (T1.hold ⟨n.f.path, mode, user⟩).2, n1.f.qid, 0) →
              Hs w0 F w_ (tb X1 :: mp X1.fm (.int .i64) X1.fM :: mp X1.gm .str X1.gM :: mp X1.om (.int .i64) X1.oM :: nd n1.blk n1.mn :: KM n1 :: NT rs :: DT X1.ds :: Pool D :: qd0 q :: l) → J102 [] w_ := by
            intro X1 T1 n1 w_ e1 e2 e3 ht1 hi1 hpm1 e4 e5 e6 E
            (repeat first | (with_reducible first | refine Stp.go ?_ | refine StpE.go E ?_ | (refine StpW.go E ?_; clear E; intro w_ E) | (refine StpA.go E ?_; clear E; intro b_ w_ hb_ E) | (apply hJ20; intro u_) | (apply hJ30; intro u_) | (apply hJ34; intro u_) | (apply hJ58; intro u_) | (apply hJ102; intro u_) | (apply hJ112; intro u_) | refine LnL.nil ?_) | ((with_reducible refine Bi.dec true ?_ ?_); focus exact rfl) | ((with_reducible refine Bi.dec false ?_ ?_); focus exact rfl) | ((with_reducible refine Bi.sdec true ?_ ?_); focus decide) | ((with_reducible refine Bi.sdec false ?_ ?_); focus decide))
            clear hJ102
            (replace E := (((E.bIx 4).bIx 4).bIx 2))
            rw [← e1, ← e4]
            refine (handle_ok (m := n1.mn) (by rw [e3]; omega) E).mono ?_
            clear E
            rintro r w_ ⟨hh, hfree, rfl, E⟩
            (repeat first | (with_reducible first | refine Stp.go ?_ | refine StpE.go E ?_ | (refine StpW.go E ?_; clear E; intro w_ E) | (refine StpA.go E ?_; clear E; intro b_ w_ hb_ E) | (apply hJ20; intro u_) | (apply hJ30; intro u_) | (apply hJ34; intro u_) | (apply hJ58; intro u_) | (apply hJ102; intro u_) | (apply hJ112; intro u_) | refine LnL.nil ?_) | ((with_reducible refine Bi.dec true ?_ ?_); focus exact rfl) | ((with_reducible refine Bi.dec false ?_ ?_); focus exact rfl) | ((with_reducible refine Bi.sdec true ?_ ?_); focus decide) | ((with_reducible refine Bi.sdec false ?_ ?_); focus decide))
            obtain ⟨g1, g2⟩ := ht1.hold hi1 hfree (n := n1) (hpm1.mem_iff.2 List.mem_cons_self) (mode := mode) (user := user)
            rw [e5] at g1 g2
            rw [e6]
            refine ⟨by rw [← g1]; rfl, D, { X1 with ol := putL X1.ol hh ⟨n1.blk, mode, user⟩ }, β, fun _ h => h, e1.symm ▸ rfl, g2, ?_⟩
            (replace E := (((((((((E.bIx 8).bIx 8).bIx 8).bIx 8).bIx 6).bIx 6).bIx 8).bIx 8).bIx 8))
            exact ((Hs.closeTN { X1 with ol := putL X1.ol hh ⟨n1.blk, mode, user⟩ } n1 hpm1 E).bIx 2).tl
          clear hJ102
          (intro J112 hJ112)
          have fin112 : ∀ b w_, b = decide (andI mode 16 ≠ 0 ∧ andI n.f.mode 1073741824 = 0) → Hs w0 F w_ (tb X :: mp X.fm (.int .i64) X.fM :: mp X.gm .str X.gM :: mp X.om (.int .i64) X.oM :: nd n.blk n.mn :: KM n :: NT rs :: DT X.ds :: Pool D :: qd0 q :: l) → J112 [.bool b] w_ := by
            intro b w_ hb E
            (repeat first | (with_reducible first | refine Stp.go ?_ | refine StpE.go E ?_ | (refine StpW.go E ?_; clear E; intro w_ E) | (refine StpA.go E ?_; clear E; intro b_ w_ hb_ E) | (apply hJ20; intro u_) | (apply hJ30; intro u_) | (apply hJ34; intro u_) | (apply hJ58; intro u_) | (apply hJ102; intro u_) | (apply hJ112; intro u_) | refine LnL.nil ?_) | ((with_reducible refine Bi.dec true ?_ ?_); focus exact rfl) | ((with_reducible refine Bi.dec false ?_ ?_); focus exact rfl) | ((with_reducible refine Bi.sdec true ?_ ?_); focus decide) | ((with_reducible refine Bi.sdec false ?_ ?_); focus decide))
            clear hJ112
            by_cases c6 : andI mode 16 ≠ 0 ∧ andI n.f.mode 1073741824 = 0
            rotate_left
            · rw [decide_eq_false c6] at hb
              subst hb
              (repeat first | (with_reducible first | refine Stp.go ?_ | refine StpE.go E ?_ | (refine StpW.go E ?_; clear E; intro w_ E) | (refine StpA.go E ?_; clear E; intro b_ w_ hb_ E) | (apply hJ20; intro u_) | (apply hJ30; intro u_) | (apply hJ34; intro u_) | (apply hJ58; intro u_) | (apply hJ102; intro u_) | (apply hJ112; intro u_) | refine LnL.nil ?_) | ((with_reducible refine Bi.dec true ?_ ?_); focus exact rfl) | ((with_reducible refine Bi.dec false ?_ ?_); focus exact rfl) | ((with_reducible refine Bi.sdec true ?_ ?_); focus decide) | ((with_reducible refine Bi.sdec false ?_ ?_); focus decide))
              exact fin102 X T n _ rfl rfl rfl h hi hpm rfl rfl (by unfold Tr.openF; rw [if_neg c1]; simp only [h1, if_neg c2, if_neg c3, if_neg c4, if_neg c5', if_neg c6]) E
            rw [decide_eq_true c6] at hb
            subst hb
            (repeat first | (with_reducible first | refine Stp.go ?_ | refine StpE.go E ?_ | (refine StpW.go E ?_; clear E; intro w_ E) | (refine StpA.go E ?_; clear E; intro b_ w_ hb_ E) | (apply hJ20; intro u_) | (apply hJ30; intro u_) | (apply hJ34; intro u_) | (apply hJ58; intro u_) | (apply hJ102; intro u_) | (apply hJ112; intro u_) | refine LnL.nil ?_) | ((with_reducible refine Bi.dec true ?_ ?_); focus exact rfl) | ((with_reducible refine Bi.dec false ?_ ?_); focus exact rfl) | ((with_reducible refine Bi.sdec true ?_ ?_); focus decide) | ((with_reducible refine Bi.sdec false ?_ ?_); focus decide))
            refine BdS.one E u_sl_p_node e_p_node rfl ?_
            clear E
            intro sv w_ E
            (replace E := (((E.bIx 7).bIx 7).bIx 7))
            replace E := wr_lemma (S := fun m : PN => { m with dv := .slice none 0 0, f := { m.f with data := emp } }) (n := n) E hnd hpm
            (replace E := ((E.bIx 0).bIx 2))
            have hv0 := h.clock
            have hcl := hlim.clock
            have hc0 := hi.clock
            refine (change_ok (X := X) (bs := [n.blk]) (RdS.by1 sv E.tl.tl) ?_ (by omega) ?_ (by simp) E).mono ?_
            · intro b hb
              rw [List.mem_singleton.1 hb, updB_blk]
              · exact List.mem_map.2 ⟨n, hn, rfl⟩
              · intro m; rfl
            · intro m hm
              obtain ⟨m', hm', rfl⟩ := List.mem_map.1 hm
              have h1 := lim_fit hi hN hlim h m' hm'
              split <;> exact h1
            clear E
            rintro r w_ E
            have e3 : chgB (X.clock + 1) user [n.blk] (updB X.ps n.blk fun m => { m with dv := .slice none 0 0, f := { m.f with data := emp } }) = updB X.ps n.blk fun m => PN.touch (X.clock + 1) user { m with dv := .slice none 0 0, f := { m.f with data := emp } } := updB_updB fun _ => rfl
            rw [e3] at E
            replace E := (E.bIx 2).tl
            (replace E := (((((E.bIx 1).bIx 4).bIx 4).bIx 4).bIx 4))
            have hpm1 : (updB X.ps n.blk fun m => PN.touch (X.clock + 1) user { m with dv := .slice none 0 0, f := { m.f with data := emp } }).Perm (PN.touch (X.clock + 1) user { n with dv := .slice none 0 0, f := { n.f with data := emp } } :: rs) := updB_perm (g := fun m : PN => PN.touch (X.clock + 1) user { m with dv := .slice none 0 0, f := { m.f with data := emp } }) hnd hpm
            replace E := Hs.openTN (X := { X with ps := updB X.ps n.blk fun m => PN.touch (X.clock + 1) user { m with dv := .slice none 0 0, f := { m.f with data := emp } }, clock := X.clock + 1 }) hpm1 (Hs.closeT { X with ps := updB X.ps n.blk fun m => PN.touch (X.clock + 1) user { m with dv := .slice none 0 0, f := { m.f with data := emp } }, clock := X.clock + 1 } E)
            have e2 : (T.change user [n.f.path]).upd n.f.path (fun n => { n with data := emp }) = { T with ns := updN T.ns n.f.path (fun m => { touchN (X.clock + 1) user m with data := emp }), clock := X.clock + 1 } := by
              rw [change_one, h.clock]
              unfold Tr.upd
              simp only []
              rw [updN_updN (f1 := touchN (T.clock + 1) user) (fun n => rfl)]
            refine fin102 { X with ps := updB X.ps n.blk fun m => PN.touch (X.clock + 1) user { m with dv := .slice none 0 0, f := { m.f with data := emp } }, clock := X.clock + 1 } ((T.change user [n.f.path]).upd n.f.path fun n => { n with data := emp }) (PN.touch (X.clock + 1) user { n with dv := .slice none 0 0, f := { n.f with data := emp } }) _ rfl rfl rfl ?_ ?_ hpm1 rfl rfl ?_ E
            · rw [e2]
              exact h.upd hi hnd hn (X.clock + 1) (G := fun m => PN.touch (X.clock + 1) user { m with dv := .slice none 0 0, f := { m.f with data := emp } }) (g := fun m => { touchN (X.clock + 1) user m with data := emp })
                (fun _ => ⟨rfl, rfl, rfl⟩) (fun _ => rfl) (fun _ => ⟨rfl, rfl, rfl⟩) (fun x hx => hx) (.inl ⟨rfl, _, _, rfl⟩)
            · rw [e2]
              refine hi.upd (X.clock + 1) (by omega) (fun _ _ _ => ⟨rfl, rfl, rfl, rfl⟩) (fun n hn _ => ⟨fun _ => rfl, Nat.zero_le _⟩) fun n hn _ => ?_
              have := hi.form n hn
              exact ⟨this.1, this.2.1, this.2.2.1, by show 0 ≤ n.vers + 1; omega, by show 0 ≤ X.clock + 1; omega⟩
            · unfold Tr.openF; rw [if_neg c1]; simp only [h1, if_neg c2, if_neg c3, if_neg c4, if_neg c5', if_pos c6]
              rfl
          clear hJ112
          (repeat with_reducible first | refine Stp.go ?_ | refine StpE.go E ?_)
          refine Bi.neq ?_ ?_ <;> intro c6 <;> (repeat with_reducible first | refine Stp.go ?_ | refine StpE.go E ?_)
          · refine Bi.eql ?_ ?_ <;> intro c7 <;> (repeat with_reducible first | refine Stp.go ?_ | refine StpE.go E ?_)
            · exact fin112 _ _ (by rw [decide_eq_true ⟨c6, c7⟩]) E
            · exact fin112 _ _ (by rw [decide_eq_false fun hc => c7 hc.2]) E
          · exact fin112 _ _ (by rw [decide_eq_false fun hc => hc.1 c6]) E
      clear hJ34
      refine (may_ok (m := n.mn) (D := D) (by simp) h.gs E).mono ?_
      clear E
      rintro r w_ ⟨rfl, E⟩
      have hmay : permF n.mn.mode (decide (user = n.mn.owner)) (memberG T.gs user n.mn.group) (needs mode) = T.may user n.f (needs mode) := rfl
      rw [hmay]
      cases hm : T.may user n.f (needs mode) with
      | false => (repeat with_reducible first | refine Stp.go ?_ | refine StpE.go E ?_); exact fin34 _ _ (by rw [decide_eq_true (.inl hm)]) E
      | true =>
        have hmn : ¬ T.may user n.f (needs mode) = false := by rw [hm]; simp
        (repeat with_reducible first | refine Stp.go ?_ | refine StpE.go E ?_)
        refine Bi.neq ?_ ?_ <;> intro c6 <;> (repeat with_reducible first | refine Stp.go ?_ | refine StpE.go E ?_)
        rotate_left
        · exact fin34 _ _ (by rw [decide_eq_false fun hc => hc.elim hmn fun h => h.1 c6]) E
        have hp0 : n.f.path ≠ 0 := fun h0 => by
          have hd := (hi.rootD n.f (h.mem.2 ⟨n, hn, rfl⟩) h0).1
          refine c2 ⟨hd, fun hm0 => ?_⟩
          rw [hm0] at c6
          exact c6 (by decide)
        obtain ⟨u, rs', hpr, hu, hub, hup, hne, hud, hgu, hpar⟩ := h.parent hi hpm hp0
        replace E := Hs.openN (E.bIx 6) hpr
        (repeat with_reducible first | refine Stp.go ?_ | refine StpE.go E ?_)
        have hub2 : n.mn.up = some u.blk := hub
        rw [hub2]
        refine (may_ok (m := u.mn) (D := D) (by simp) h.gs E).mono ?_
        clear E
        rintro r w_ ⟨rfl, E⟩
        have hmay2 : permF u.mn.mode (decide (user = u.mn.owner)) (memberG T.gs user u.mn.group) 2 = T.may user (T.parent n.f) 2 := by rw [hpar]; rfl
        rw [hmay2]
        replace E := Hs.permN (Hs.closeN u E) hpr.symm
        (replace E := (((((((E.bIx 0).bIx 6).bIx 6).bIx 6).bIx 6).bIx 6).bIx 6))
        cases hm2 : T.may user (T.parent n.f) 2 with
        | false => (repeat with_reducible first | refine Stp.go ?_ | refine StpE.go E ?_); exact fin34 _ _ (by rw [decide_eq_true (.inr ⟨c6, hm2⟩)]) E
        | true => (repeat with_reducible first | refine Stp.go ?_ | refine StpE.go E ?_); exact fin34 _ _ (by rw [decide_eq_false fun hc => hc.elim hmn fun h => by rw [hm2] at h; cases h.2]) E
    clear hJ30
    (repeat with_reducible first | refine Stp.go ?_ | refine StpE.go E ?_)
    refine Bi.neq ?_ ?_ <;> intro c6 <;> (repeat with_reducible first | refine Stp.go ?_ | refine StpE.go E ?_)
    · have := fin30 _ E
      unfold needs at this
      rw [if_neg c6] at this
      exact this
    · have := fin30 _ E
      unfold needs at this
      rw [if_pos c6] at this
      exact this
  clear hJ20
  refine (isDir_ok (m := n.mn) E).mono ?_
  clear E
  rintro r w_ ⟨rfl, E⟩
  cases hd : isD n.mn.mode with
  | true =>
    (repeat with_reducible first | refine Stp.go ?_ | refine StpE.go E ?_)
    refine Bi.neq ?_ ?_ <;> intro c6 <;> (repeat with_reducible first | refine Stp.go ?_ | refine StpE.go E ?_)
    · exact fin20 _ _ (by rw [decide_eq_true ⟨hd, c6⟩]) E
    · exact fin20 _ _ (by rw [decide_eq_false fun hc => hc.2 c6]) E
  | false =>
    (repeat with_reducible first | refine Stp.go ?_ | refine StpE.go E ?_)
    exact fin20 _ _ (by rw [decide_eq_false fun hc => by rw [show n.f.dir = false from hd] at hc; cases hc.1]) E
end Go.Proofs.YtnnhmahemklnkaaGreatDoor

/-
  Trees: strings that are split at '/'.
-/
namespace Go.Proofs.YtnnhmahemklnkaaGreatDoor
open Go Go.Sh
set_option maxRecDepth 100000
set_option linter.unusedVariables false
set_option linter.unusedSimpArgs false
variable {w0 w : World} {F : Nat → Prop} {l : List As}

/-- The parts between the slashes. -/
def splitB : List UInt8 → List (List UInt8)
  | [] => [[]]
  | x :: r => if x = 47 then [] :: splitB r else match splitB r with | [] => [[x]] | p :: ps => (x :: p) :: ps
theorem splitB_none : ∀ {l : List UInt8}, Lib.indexByte l 47 = -1 → splitB l = [l]
  | [], _ => rfl
  | x :: r, h => by
    unfold Lib.indexByte at h
    by_cases hx : x = 47
    · rw [if_pos (by simp [hx])] at h; cases h
    · rw [if_neg (by simp [hx])] at h
      have hr : Lib.indexByte r 47 = -1 := by
        split at h
        · rename_i h2; simpa using h2
        · rename_i h2
          have := Lib.indexByte_ge r 47
          omega
      unfold splitB
      rw [if_neg hx, splitB_none hr]
theorem splitB_some : ∀ {l : List UInt8} {i : Nat}, Lib.indexByte l 47 = i → i < l.length ∧ splitB l = l.take i :: splitB (l.drop (i + 1))
  | [], i, h => by unfold Lib.indexByte at h; omega
  | x :: r, i, h => by
    unfold Lib.indexByte at h
    by_cases hx : x = 47
    · rw [if_pos (by simp [hx])] at h
      obtain rfl : i = 0 := by omega
      refine ⟨by simp, ?_⟩
      rw [splitB, if_pos hx]
      rfl
    · rw [if_neg (by simp [hx])] at h
      split at h
      · omega
      · rename_i h2
        have h2 : Lib.indexByte r 47 ≠ -1 := by simpa using h2
        have := Lib.indexByte_ge r 47
        obtain ⟨j, rfl⟩ : ∃ j, i = j + 1 := ⟨i - 1, by omega⟩
        obtain ⟨h3, h4⟩ := splitB_some (l := r) (i := j) (by omega)
        refine ⟨by simp; omega, ?_⟩
        rw [splitB, if_neg hx, h4]
        rfl
theorem splitB_ne (l : List UInt8) : splitB l ≠ [] := by
  cases l with
  | nil => simp [splitB]
  | cons x r =>
    unfold splitB
    split
    · simp
    · cases splitB r <;> simp
abbrev bmk (l : List UInt8) : BA := ⟨l.toArray⟩
def splitS (s : BA) : List BA := (splitB s.data.toList).map bmk
abbrev sep : BA := ⟨#[47]⟩
def boxM (a : Nat) (w : World) : Nat := match w.heap[a]? with
  | some (Obj.cells cs _ _) => match cs[0]? with
    | some (Value.string s) => s.size
    | _ => 0
  | _ => 0
theorem boxM_eq {a : Nat} {s : BA} {r : List As} [h : FPt l a (oc [str s] Ty.string) r] (E : Hs w0 F w l) : boxM a w = s.size := by
  unfold boxM
  rw [show w.heap[a]? = some (oc [str s] Ty.string) from E.sat _ h.mem]
  rfl
abbrev splitF (a1 a2 a3 : Nat) : Value := .func (.func Fn.strings_splitSeq_1) #[] #[ptr a1, ptr a2, ptr a3]
theorem b_split1 : hasBody PP Fn.strings_splitSeq_1 = true := by kernel_rfl
theorem Index_ok {s : BA} (E : Hs w0 F w l) : Ca PP Fn.strings_Index #[str s, str sep] w fun r w' => r = i64 (Lib.indexByte s.data.toList 47) ∧ Hs w0 F w' l := by
  refine Calls.mono (Tryz.strings_Index_one s 47 w) ?_
  rintro e w' ⟨rfl, rfl⟩
  exact ⟨_, rfl, rfl, E⟩
theorem permB (B ks rest : List As) : (B ++ (ks ++ rest)).Perm (ks ++ ([] ++ (B ++ rest))) := by
  rw [List.nil_append, ← List.append_assoc, ← List.append_assoc]
  exact List.perm_append_comm.append_right rest
theorem split_iter {a1 a2 a3 : Nat} {s : BA} (hs : s.size ≤ 1000000000) :
    Iter PP w0 F (splitF a1 a2 a3) str (InOrder (splitS s)) (· = splitS s) [pt a1 (oc [str sep] Ty.string), pt a2 (oc [str s] Ty.string), pt a3 (oc [i64 0] Ty.int)] [] [] := by
  intro K S_ y w ks rest hy h0 E
  refine CaV.mk b_split1 ?_
  refine S.strings_splitSeq_1.calls (a0 := y) (a1 := ptr a1) (a2 := ptr a2) (a3 := ptr a3) ?_
  unfold S.strings_splitSeq_1
  have E1 : Hs w0 F w (pt a1 (oc [str sep] Ty.string) :: pt a2 (oc [str s] Ty.string) :: pt a3 (oc [i64 0] Ty.int) :: (ks ++ rest)) := E.perm (by
    rw [← List.append_assoc]
    exact (List.perm_append_comm (l₁ := ks)).append_right rest)
  clear E
  have E := E1
  clear E1
  (repeat first | (with_reducible first | refine Stp.go ?_ | refine StpE.go E ?_ | (refine StpW.go E ?_; clear E; intro w_ E) | (refine StpA.go E ?_; clear E; intro b_ w_ hb_ E) | refine LnL.nil ?_) | ((with_reducible refine Bi.dec true ?_ ?_); focus exact rfl) | ((with_reducible refine Bi.dec false ?_ ?_); focus exact rfl) | ((with_reducible refine Bi.sdec true ?_ ?_); focus decide) | ((with_reducible refine Bi.sdec false ?_ ?_); focus decide))
  refine ⟨fun l1 w1 => l1 = [] ∧ ∃ (k : Nat) (rem : BA) (ks : List As), (splitS s).drop k = splitS rem ∧ rem.size ≤ 1000000000 ∧ K ((splitS s).take k) ks ∧ Hs w0 F w1 (pt a1 (oc [str sep] Ty.string) :: pt a2 (oc [str rem] Ty.string) :: pt a3 (oc [i64 0] Ty.int) :: (ks ++ rest)), fun _ w1 => boxM a2 w1,
    ⟨rfl, 0, s, ks, rfl, hs, h0, E⟩, ?_⟩
  clear E h0 ks
  rintro u w1 ⟨-, k, rem, ks, hk, hrem, hK, E⟩
  (repeat with_reducible first | refine Stp.go ?_ | refine StpE.go E ?_)
  refine (Index_ok E).mono ?_
  have hbm : boxM a2 w1 = rem.size := boxM_eq E
  clear E
  rintro r w_ ⟨rfl, E⟩
  have hlen : ((splitS s).take k).length = k := by
    rw [List.length_take]
    have h1 : (splitS rem).length ≠ 0 := by unfold splitS; rw [List.length_map]; exact fun h => splitB_ne _ (List.length_eq_zero_iff.1 h)
    rw [← hk, List.length_drop] at h1
    omega
  refine Bi.lss ?_ ?_ <;> intro hlt <;> (repeat with_reducible first | refine Stp.go ?_ | refine StpE.go E ?_)
  · have hi : Lib.indexByte rem.data.toList 47 = -1 := by have := Lib.indexByte_ge rem.data.toList 47; omega
    have hsp : splitS rem = [rem] := by unfold splitS; rw [splitB_none hi]; rfl
    have hx : (splitS s)[k]? = some rem := by
      have := congrArg (·[0]?) hk
      simpa [hsp] using this
    have E1 : Hs w0 F w_ (ks ++ ([] ++ ([pt a1 (oc [str sep] Ty.string), pt a2 (oc [str rem] Ty.string), pt a3 (oc [i64 0] Ty.int)] ++ rest))) := E.perm (permB [_, _, _] ks rest)
    refine (hy ((splitS s).take k) rem w_ ks _ ⟨by rw [hlen], by rw [hlen]; exact hx⟩ hK E1).mono ?_
    have hw : (splitS s).take k ++ [rem] = splitS s := by
      conv => rhs; rw [← List.take_append_drop k (splitS s), hk, hsp]
    have hdrop : ∀ (ks' : List As) w, Hs w0 F w (ks' ++ ([] ++ ([pt a1 (oc [str sep] Ty.string), pt a2 (oc [str rem] Ty.string), pt a3 (oc [i64 0] Ty.int)] ++ rest))) → Hs w0 F w (ks' ++ ([] ++ rest)) :=
      fun ks' w E => E.drop (List.Sublist.append_left (List.sublist_append_right _ _) _)
    clear E E1
    rintro r w_ (⟨rfl, ks', hk', E'⟩ | ⟨rfl, ks', hs', E'⟩)
    · rw [hw] at hk'
      exact .inl ⟨_, ks', rfl, hk', hdrop _ _ E'⟩
    · exact .inr ⟨_, ks', hs', hdrop _ _ E'⟩
  · obtain ⟨i, hi⟩ : ∃ i : Nat, Lib.indexByte rem.data.toList 47 = i := ⟨(Lib.indexByte rem.data.toList 47).toNat, by omega⟩
    obtain ⟨h1, h2⟩ := splitB_some hi
    have h1 : i < rem.size := h1
    rw [hi]
    have hsp : splitS rem = bmk (rem.data.toList.take i) :: splitS (bmk (rem.data.toList.drop (i + 1))) := by unfold splitS; rw [h2]; rfl
    have hx : (splitS s)[k]? = some (bmk (rem.data.toList.take i)) := by
      have := congrArg (·[0]?) hk
      simpa [hsp] using this
    refine Bi.add (by omega) ?_
    refine SlS.pre (by omega) (by omega) ?_
    have e1 : rem.extract 0 ((i : Int) + 0).toNat = bmk (rem.data.toList.take i) := ba_ext (by simp)
    rw [e1]
    have E1 : Hs w0 F w_ (ks ++ ([] ++ ([pt a1 (oc [str sep] Ty.string), pt a2 (oc [str rem] Ty.string), pt a3 (oc [i64 0] Ty.int)] ++ rest))) := E.perm (permB [_, _, _] ks rest)
    refine (hy ((splitS s).take k) (bmk (rem.data.toList.take i)) w_ ks _ ⟨by rw [hlen], by rw [hlen]; exact hx⟩ hK E1).mono ?_
    clear E E1
    have htk : (splitS s).take k ++ [bmk (rem.data.toList.take i)] = (splitS s).take (k + 1) := by rw [List.take_add_one, hx]; rfl
    rw [htk]
    rintro r w_ (⟨rfl, ks', hk', E'⟩ | ⟨rfl, ks', hs', E'⟩)
    · have E : Hs w0 F w_ (pt a1 (oc [str sep] Ty.string) :: pt a2 (oc [str rem] Ty.string) :: pt a3 (oc [i64 0] Ty.int) :: (ks' ++ rest)) := E'.perm (by
        rw [List.nil_append, ← List.append_assoc]
        exact (List.perm_append_comm (l₁ := ks')).append_right rest)
      clear E'
      (repeat with_reducible first | refine Stp.go ?_ | refine StpE.go E ?_)
      refine Bi.add (by have : ByteArray.size sep = 1 := rfl; omega) ?_
      refine SlS.suf (by omega) (by have : ByteArray.size sep = 1 := rfl; omega) ?_
      have e2 : rem.extract ((i : Int) + (ByteArray.size sep : Nat)).toNat rem.size = bmk (rem.data.toList.drop (i + 1)) := ba_ext (by
        have : ((i : Int) + (ByteArray.size sep : Nat)).toNat = i + 1 := by have : ByteArray.size sep = 1 := rfl; omega
        rw [this]
        simp
        refine List.take_of_length_le ?_
        rw [List.length_drop, Array.length_toList]
        exact Nat.le_refl _)
      rw [e2]
      (repeat first | (with_reducible first | refine Stp.go ?_ | refine StpE.go E ?_ | (refine StpW.go E ?_; clear E; intro w_ E) | (refine StpA.go E ?_; clear E; intro b_ w_ hb_ E) | refine LnL.nil ?_) | ((with_reducible refine Bi.dec true ?_ ?_); focus exact rfl) | ((with_reducible refine Bi.dec false ?_ ?_); focus exact rfl) | ((with_reducible refine Bi.sdec true ?_ ?_); focus decide) | ((with_reducible refine Bi.sdec false ?_ ?_); focus decide))
      have hsz : (bmk (rem.data.toList.drop (i + 1))).size = rem.size - (i + 1) := by
        show (rem.data.toList.drop (i + 1)).toArray.size = _
        rw [List.size_toArray, List.length_drop, Array.length_toList]; rfl
      refine ⟨⟨rfl, k + 1, _, ks', ?_, by omega, hk', E⟩, ?_⟩
      · have := congrArg (List.drop 1) hk
        rw [List.drop_drop, hsp] at this
        rw [Nat.add_comm]
        simpa [Nat.add_comm] using this
      · show boxM a2 w_ < boxM a2 w1
        rw [hbm, boxM_eq E, hsz]
        omega
    · (repeat with_reducible first | refine Stp.go ?_ | refine StpE.go E ?_)
      exact .inr ⟨_, ks', hs', E'.drop (List.Sublist.append_left (List.sublist_append_right _ _) _)⟩
end Go.Proofs.YtnnhmahemklnkaaGreatDoor

/-
  Trees: clean paths.
-/
namespace Go.Proofs.YtnnhmahemklnkaaGreatDoor
open Go Go.Sh
set_option maxRecDepth 100000
set_option linter.unusedVariables false
set_option linter.unusedSimpArgs false
variable {w0 w : World} {F : Nat → Prop} {l : List As}

abbrev dot1 : BA := ⟨#[46]⟩
abbrev dot2 : BA := ⟨#[46, 46]⟩
def absP (s : BA) : Bool := Lib.hasPrefix s.data.toList sep.data.toList
/-- One more part of a path. -/
def stepC (a : Bool) (l : List BA) (s : BA) : List BA :=
  if s = emp ∨ s = dot1 then l else
  if s ≠ dot2 then l ++ [s] else
  if 0 < l.length ∧ l[l.length - 1]? ≠ some dot2 then l.take (l.length - 1) else
  if a = false then l ++ [s] else l
def elemsC (s : BA) : List BA := (splitS s).foldl (stepC (absP s)) []
def joinS (l : List BA) : BA := ⟨(Lib.join (l.map (·.data.toList)) sep.data.toList).toArray⟩
def cleanS (s : BA) : BA := if absP s = true then sep ++ joinS (elemsC s) else if joinS (elemsC s) = emp then dot1 else joinS (elemsC s)
theorem splitB_len : ∀ l : List UInt8, (splitB l).length ≤ l.length + 1
  | [] => by simp [splitB]
  | x :: r => by
    have ih := splitB_len r
    unfold splitB
    split
    · simp only [List.length_cons]; omega
    · cases h : splitB r with
      | nil => simp
      | cons p ps => rw [h] at ih; simp only [List.length_cons] at ih ⊢; omega
theorem stepC_len (a : Bool) (l : List BA) (s : BA) : (stepC a l s).length ≤ l.length + 1 := by
  unfold stepC
  split
  · omega
  split
  · simp
  split
  · simp; omega
  split
  · simp
  · omega
theorem foldC_len (a : Bool) : ∀ (xs l : List BA), (xs.foldl (stepC a) l).length ≤ l.length + xs.length
  | [], _ => Nat.le_refl _
  | x :: xs, l => by
    have := foldC_len a xs (stepC a l x)
    have := stepC_len a l x
    simp only [List.foldl_cons, List.length_cons]
    omega
theorem HasPrefix_ok {s p : BA} (E : Hs w0 F w l) : Ca PP Fn.strings_HasPrefix #[str s, str p] w fun r w' => r = .bool (Lib.hasPrefix s.data.toList p.data.toList) ∧ Hs w0 F w' l := by
  refine Calls.mono (Tryz.strings_HasPrefix s p w) ?_
  rintro e w' ⟨rfl, rfl⟩
  exact ⟨_, rfl, rfl, E⟩
theorem SplitSeq_ok {s : BA} (E : Hs w0 F w l) : Ca PP Fn.strings_SplitSeq #[str s, str sep] w fun r w' => ∃ a1 a2 a3, r = splitF a1 a2 a3 ∧ Hs w0 F w' ([pt a1 (oc [str sep] Ty.string), pt a2 (oc [str s] Ty.string), pt a3 (oc [i64 0] Ty.int)] ++ l) := by
  refine S.strings_SplitSeq.calls ?_
  unfold S.strings_SplitSeq
  refine Ca.mono (k := fun r w' => ∃ a1 a2 a3, r = splitF a1 a2 a3 ∧ Hs w0 F w' ([pt a1 (oc [str sep] Ty.string), pt a2 (oc [str s] Ty.string), pt a3 (oc [i64 0] Ty.int)] ++ l)) ?_ fun r w' h => h
  refine S.strings_splitSeq.calls ?_
  unfold S.strings_splitSeq
  refine StpA.go E ?_
  intro a2 w_ h2 E
  refine StpA.go E ?_
  intro a1 w_ h1 E
  refine StpA.go E ?_
  intro a3 w_ h3 E
  exact ⟨a1, a2, a3, rfl, by (replace E := (((E.bIx 0).bIx 2).bIx 2)); exact E⟩
theorem Join_ok {v : Value} {xs : List BA} (hn : xs.length ≤ 140737488355328) (hj : (Lib.join (xs.map (·.data.toList)) sep.data.toList).length ≤ 140737488355328) (E : Hs w0 F w l) (h : RdS w0 F l 1 xs.length v (xs.map str)) :
    Ca PP Fn.strings_Join #[v, str sep] w fun r w' => r = str (joinS xs) ∧ Hs w0 F w' l := by
  obtain ⟨a, c, rfl, hc, -, hx⟩ := h
  rcases hx with h0 | ⟨q, rfl, h0 | ⟨b, o, rfl, hq⟩⟩
  · have : xs = [] := by simpa using h0
    subst this
    refine Calls.mono (Tryz.strings_Join_none a c sep w) ?_
    rintro e w' ⟨rfl, rfl⟩
    exact ⟨_, rfl, rfl, E⟩
  · have : xs = [] := by simpa using h0
    subst this
    refine Calls.mono (Tryz.strings_Join_none _ c sep w) ?_
    rintro e w' ⟨rfl, rfl⟩
    exact ⟨_, rfl, rfl, E⟩
  · by_cases hxs : xs = []
    · subst hxs
      refine Calls.mono (Tryz.strings_Join_none _ c sep w) ?_
      rintro e w' ⟨rfl, rfl⟩
      exact ⟨_, rfl, rfl, E⟩
    have hcell : ∀ (j : Nat) x, xs[j]? = some x → w.cell? ⟨b, o + j, none⟩ = some (.string x) := fun j x hj => hq w E j (str x) (by simp [hj])
    have hb : b < w.heap.size := by
      have h0 : 0 < xs.length := List.length_pos_iff.2 hxs
      have := hcell 0 xs[0] (List.getElem?_eq_getElem h0)
      unfold World.cell? at this
      cases hh : w.heap[b]? with
      | none => simp [hh] at this
      | some ob => exact (Array.getElem?_eq_some_iff.1 hh).1
    refine Calls.mono (Tryz.strings_Join b o c xs sep w hcell hb hn hc hj) ?_
    rintro e w' ⟨rfl, hw⟩
    exact ⟨_, rfl, rfl, E.grow (Upd.ofBelow hw)⟩

/-! ### Clean -/
def tot (l : List BA) : Nat := (l.map fun x => x.size + 1).sum
theorem tot_app (l m : List BA) : tot (l ++ m) = tot l + tot m := by simp [tot]
theorem splitB_tot : ∀ l : List UInt8, ((splitB l).map fun p => p.length + 1).sum = l.length + 1
  | [] => by simp [splitB]
  | x :: r => by
    have ih := splitB_tot r
    unfold splitB
    split
    · simp only [List.map_cons, List.sum_cons, List.length_nil, List.length_cons, ih]; omega
    · cases h : splitB r with
      | nil => exact absurd h (splitB_ne r)
      | cons p ps => rw [h] at ih; simp only [List.map_cons, List.sum_cons, List.length_cons] at ih ⊢; omega
theorem bmk_size (p : List UInt8) : (bmk p).size = p.length := by
  show p.toArray.size = _
  simp
theorem splitS_tot (s : BA) : tot (splitS s) = s.size + 1 := by
  have := splitB_tot s.data.toList
  unfold tot splitS
  rw [List.map_map]
  have e : ((fun x : BA => x.size + 1) ∘ bmk) = fun p => p.length + 1 := by funext p; simp only [Function.comp, bmk_size]
  rw [e, this]
  simp
theorem tot_take : ∀ (l : List BA) (n : Nat), tot (l.take n) ≤ tot l
  | [], n => by simp
  | x :: l, 0 => by simp [tot]
  | x :: l, n + 1 => by
    have := tot_take l n
    simp only [tot, List.take_succ_cons, List.map_cons, List.sum_cons] at this ⊢
    omega
theorem stepC_tot (a : Bool) (l : List BA) (s : BA) : tot (stepC a l s) ≤ tot l + (s.size + 1) := by
  have h1 : tot [s] = s.size + 1 := by simp [tot]
  unfold stepC
  split
  · omega
  split
  · rw [tot_app, h1]; exact Nat.le_refl _
  split
  · have := tot_take l (l.length - 1); omega
  split
  · rw [tot_app, h1]; exact Nat.le_refl _
  · omega
theorem foldC_tot (a : Bool) : ∀ (xs l : List BA), tot (xs.foldl (stepC a) l) ≤ tot l + tot xs
  | [], _ => by simp [tot]
  | x :: xs, l => by
    have h1 := foldC_tot a xs (stepC a l x)
    have h2 := stepC_tot a l x
    have h3 : tot (x :: xs) = x.size + 1 + tot xs := by simp [tot]
    rw [List.foldl_cons]
    omega
theorem elems_tot (s : BA) : tot (elemsC s) ≤ s.size + 1 := by
  have := foldC_tot (absP s) (splitS s) []
  rw [splitS_tot] at this
  have h0 : tot [] = 0 := rfl
  rw [h0, Nat.zero_add] at this
  exact this
theorem join_len : ∀ (l : List BA), (Lib.join (l.map (·.data.toList)) sep.data.toList).length ≤ tot l
  | [] => by simp [Lib.join, List.intercalate]
  | [x] => by simp [Lib.join, List.intercalate, tot]
  | x :: y :: r => by
    have := join_len (y :: r)
    have e : Lib.join ((x :: y :: r).map (·.data.toList)) sep.data.toList = x.data.toList ++ 47 :: Lib.join ((y :: r).map (·.data.toList)) sep.data.toList := by simp [Lib.join, List.intercalate]
    rw [e, List.length_append, List.length_cons]
    have h3 : tot (x :: y :: r) = x.size + 1 + tot (y :: r) := by simp [tot]
    have h4 : x.data.toList.length = x.size := by simp
    omega
theorem tot_len (l : List BA) : l.length ≤ tot l := by
  induction l with
  | nil => simp
  | cons x r ih => simp only [tot, List.map_cons, List.sum_cons, List.length_cons] at ih ⊢; omega

theorem Clean_ok {s : BA} (hs : s.size ≤ 1000000000) (E : Hs w0 F w l) : Ca PP Fn.tree_Clean #[str s] w fun r w' => r = str (cleanS s) ∧ Hs w0 F w' l := by
  refine S.tree_Clean.calls ?_
  unfold S.tree_Clean
  refine (HasPrefix_ok E).mono ?_
  clear E
  rintro r w_ ⟨rfl, E⟩
  refine StpA.go E ?_
  clear E
  intro a3 w_ h3 E
  refine StpW.go E ?_
  clear E
  intro w_ E
  refine StpA.go E ?_
  clear E
  intro a4 w_ h4 E
  refine (SplitSeq_ok E).mono ?_
  clear E
  rintro r w_ ⟨a1, a2, a5, rfl, E⟩
  simp only [List.cons_append, List.nil_append] at E
  replace E := E.nilSl Ty.string 1
  (replace E := ((((((E.bIx 3).bIx 3).bIx 3).bIx 5).bIx 5).bIx 5))
  have hspl := splitS_tot s
  have hlenS := tot_len (splitS s)
  refine RFo.hs rfl b_split1 (split_iter hs) (fun pre ks => ∃ v, ks = [slA v Ty.string 1 ((pre.foldl (stepC (absP s)) []).map str), pt a4 (oc [v] Ty.sl_string), pt a3 (oc [.bool (absP s)] Ty.bool)]) (fun _ _ _ => False) (fun _ _ => False)
    (ks := [slA (.slice none 0 0) Ty.string 1 [], pt a4 (oc [.slice none 0 0] Ty.sl_string), pt a3 (oc [.bool (absP s)] Ty.bool)]) E ⟨_, rfl⟩ ?_ ?_ (fun _ _ _ _ _ _ h _ => h.elim) (fun _ _ _ _ _ h _ => h.elim)
  · clear E
    rintro r L D pre x w_ _ rest' Rn Re Rr hL hD hp ⟨v, rfl⟩ E hn - -
    simp only [List.cons_append, List.nil_append] at E
    have hpl : pre.length < (splitS s).length := (List.getElem?_eq_some_iff.1 hp.2).1
    have hcl := foldC_len (absP s) pre []
    have hst : (pre ++ [x]).foldl (stepC (absP s)) [] = stepC (absP s) (pre.foldl (stepC (absP s)) []) x := by rw [List.foldl_append]; rfl
    simp only [hst] at hn
    generalize hcur : pre.foldl (stepC (absP s)) [] = cur at *
    simp only [List.length_nil, Nat.zero_add] at hcl
    (repeat first | (with_reducible first | refine Stp.go ?_ | refine StpE.go E ?_ | (refine StpW.go E ?_; clear E; intro w_ E) | (refine StpA.go E ?_; clear E; intro b_ w_ hb_ E) | (apply hJ18; intro u_) | (apply hJ29; intro u_) | refine LnL.nil ?_) | ((with_reducible refine Bi.dec true ?_ ?_); focus exact rfl) | ((with_reducible refine Bi.dec false ?_ ?_); focus exact rfl) | ((with_reducible refine Bi.sdec true ?_ ?_); focus decide) | ((with_reducible refine Bi.sdec false ?_ ?_); focus decide))
    (intro J18 hJ18)
    have fin18 : ∀ b w_, b = decide (x = emp ∨ x = dot1) → Hs w0 F w_ (pt L (lpO r .busy none) :: pt D dfO :: slA v Ty.string 1 (cur.map str) :: pt a4 (oc [v] Ty.sl_string) :: pt a3 (oc [.bool (absP s)] Ty.bool) :: rest') → J18 [.bool b] w_ := by
      intro b w_ hb E
      (repeat with_reducible first | refine Stp.go ?_ | refine StpE.go E ?_ | (apply hJ18; intro u_) | (apply hJ29; intro u_))
      have app : ∀ (w_ : World) (k : World → Prop), Hs w0 F w_ (pt L (lpO r .busy none) :: pt D dfO :: slA v Ty.string 1 (cur.map str) :: pt a4 (oc [v] Ty.sl_string) :: pt a3 (oc [.bool (absP s)] Ty.bool) :: rest') → stepC (absP s) cur x = cur ++ [x] →
          Ef PP (Instr.buildSlice Ty.sl_string 1 #[(0, str x)]) w_ fun t24 w1 => Ef PP (Builtin.append_ #[Ty.sl_string, Ty.sl_string] Ty.sl_string #[v, t24]) w1 fun t25 w2 => St PP 1 (ptr a4) t25 w2 fun w3 => Rn w3 := by
        intro w_ k E he
        refine BdS.one E u_sl_string e_string rfl ?_
        clear E
        intro v2 w_ E
        refine Ap.one E (i := 3) rfl u_sl_string ⟨_, u_sl_string, fun _ h => by cases h⟩ e_string (Src.one E (by (first | assumption | exact FPt.mem | exact FMp.mem | exact FSl.mem | (repeat (first | assumption | with_reducible exact List.mem_cons_self | refine List.mem_cons_of_mem _ ?_)))) rfl) rfl (by simp; omega) (by simp; omega) ?_
        clear E
        intro s' w_ E
        (try simp only [List.set_cons_zero, List.set_cons_succ, List.cons_append, List.nil_append, Nat.zero_add, Nat.add_zero] at E)
        (repeat first | (with_reducible first | refine Stp.go ?_ | refine StpE.go E ?_ | (refine StpW.go E ?_; clear E; intro w_ E) | (refine StpA.go E ?_; clear E; intro b_ w_ hb_ E) | (apply hJ18; intro u_) | (apply hJ29; intro u_) | refine LnL.nil ?_) | ((with_reducible refine Bi.dec true ?_ ?_); focus exact rfl) | ((with_reducible refine Bi.dec false ?_ ?_); focus exact rfl) | ((with_reducible refine Bi.sdec true ?_ ?_); focus decide) | ((with_reducible refine Bi.sdec false ?_ ?_); focus decide))
        refine hn _ _ ⟨s', rfl⟩ ?_
        simp only [List.cons_append, List.nil_append]
        (replace E := (E.bSl v2))
        (replace E := (E.bIx 0).tl)
        have e1 : (stepC (absP s) cur x).map str = cur.map str ++ [str x] := by rw [he]; simp
        rw [e1]
        exact E
      by_cases c1 : x = emp ∨ x = dot1
      · rw [decide_eq_true c1] at hb
        subst hb
        (repeat first | (with_reducible first | refine Stp.go ?_ | refine StpE.go E ?_ | (refine StpW.go E ?_; clear E; intro w_ E) | (refine StpA.go E ?_; clear E; intro b_ w_ hb_ E) | (apply hJ18; intro u_) | (apply hJ29; intro u_) | refine LnL.nil ?_) | ((with_reducible refine Bi.dec true ?_ ?_); focus exact rfl) | ((with_reducible refine Bi.dec false ?_ ?_); focus exact rfl) | ((with_reducible refine Bi.sdec true ?_ ?_); focus decide) | ((with_reducible refine Bi.sdec false ?_ ?_); focus decide))
        have he : stepC (absP s) cur x = cur := by unfold stepC; rw [if_pos c1]
        refine hn _ _ ⟨v, rfl⟩ ?_
        rw [he]
        exact E
      rw [decide_eq_false c1] at hb
      subst hb
      (repeat first | (with_reducible first | refine Stp.go ?_ | refine StpE.go E ?_ | (refine StpW.go E ?_; clear E; intro w_ E) | (refine StpA.go E ?_; clear E; intro b_ w_ hb_ E) | (apply hJ18; intro u_) | (apply hJ29; intro u_) | refine LnL.nil ?_) | ((with_reducible refine Bi.dec true ?_ ?_); focus exact rfl) | ((with_reducible refine Bi.dec false ?_ ?_); focus exact rfl) | ((with_reducible refine Bi.sdec true ?_ ?_); focus decide) | ((with_reducible refine Bi.sdec false ?_ ?_); focus decide))
      refine Bi.sneq ?_ ?_ <;> intro c2 <;> (repeat first | (with_reducible first | refine Stp.go ?_ | refine StpE.go E ?_ | (refine StpW.go E ?_; clear E; intro w_ E) | (refine StpA.go E ?_; clear E; intro b_ w_ hb_ E) | (apply hJ18; intro u_) | (apply hJ29; intro u_) | refine LnL.nil ?_) | ((with_reducible refine Bi.dec true ?_ ?_); focus exact rfl) | ((with_reducible refine Bi.dec false ?_ ?_); focus exact rfl) | ((with_reducible refine Bi.sdec true ?_ ?_); focus decide) | ((with_reducible refine Bi.sdec false ?_ ?_); focus decide))
      · exact app _ (fun _ => True) E (by unfold stepC; rw [if_neg c1, if_pos c2])
      have c2' : ¬ x ≠ dot2 := fun h => h c2
      (intro J29 hJ29)
      have fin29 : ∀ b w_, b = decide (0 < cur.length ∧ cur[cur.length - 1]? ≠ some dot2) → Hs w0 F w_ (pt L (lpO r .busy none) :: pt D dfO :: slA v Ty.string 1 (cur.map str) :: pt a4 (oc [v] Ty.sl_string) :: pt a3 (oc [.bool (absP s)] Ty.bool) :: rest') → J29 [.bool b] w_ := by
        intro b w_ hb E
        (repeat first | (with_reducible first | refine Stp.go ?_ | refine StpE.go E ?_ | (refine StpW.go E ?_; clear E; intro w_ E) | (refine StpA.go E ?_; clear E; intro b_ w_ hb_ E) | (apply hJ18; intro u_) | (apply hJ29; intro u_) | refine LnL.nil ?_) | ((with_reducible refine Bi.dec true ?_ ?_); focus exact rfl) | ((with_reducible refine Bi.dec false ?_ ?_); focus exact rfl) | ((with_reducible refine Bi.sdec true ?_ ?_); focus decide) | ((with_reducible refine Bi.sdec false ?_ ?_); focus decide))
        by_cases c3 : 0 < cur.length ∧ cur[cur.length - 1]? ≠ some dot2
        · rw [decide_eq_true c3] at hb
          subst hb
          (repeat first | (with_reducible first | refine Stp.go ?_ | refine StpE.go E ?_ | (refine StpW.go E ?_; clear E; intro w_ E) | (refine StpA.go E ?_; clear E; intro b_ w_ hb_ E) | (apply hJ18; intro u_) | (apply hJ29; intro u_) | refine LnL.nil ?_) | ((with_reducible refine Bi.dec true ?_ ?_); focus exact rfl) | ((with_reducible refine Bi.dec false ?_ ?_); focus exact rfl) | ((with_reducible refine Bi.sdec true ?_ ?_); focus decide) | ((with_reducible refine Bi.sdec false ?_ ?_); focus decide))
          refine Bi.sub (by simp; omega) ?_
          refine Sl.sl E (i := 2) rfl (by omega) (a := 0) (b := cur.length - 1) rfl (by simp [bnd]; omega) (by omega) (by simp) ?_
          clear E
          intro v' E
          (try simp only [List.set_cons_zero, List.set_cons_succ, List.cons_append, List.nil_append, Nat.zero_add, Nat.add_zero] at E)
          (repeat first | (with_reducible first | refine Stp.go ?_ | refine StpE.go E ?_ | (refine StpW.go E ?_; clear E; intro w_ E) | (refine StpA.go E ?_; clear E; intro b_ w_ hb_ E) | (apply hJ18; intro u_) | (apply hJ29; intro u_) | refine LnL.nil ?_) | ((with_reducible refine Bi.dec true ?_ ?_); focus exact rfl) | ((with_reducible refine Bi.dec false ?_ ?_); focus exact rfl) | ((with_reducible refine Bi.sdec true ?_ ?_); focus decide) | ((with_reducible refine Bi.sdec false ?_ ?_); focus decide))
          have he : stepC (absP s) cur x = cur.take (cur.length - 1) := by unfold stepC; rw [if_neg c1, if_neg c2', if_pos c3]
          refine hn _ _ ⟨v', rfl⟩ ?_
          simp only [List.cons_append, List.nil_append]
          rw [he]
          have e1 : (cur.take (cur.length - 1)).map str = List.drop (0 * 1) (List.take ((cur.length - 1) * 1) (cur.map str)) := by rw [Nat.zero_mul, List.drop_zero, Nat.mul_one, List.map_take]
          rw [e1]
          exact E
        · rw [decide_eq_false c3] at hb
          subst hb
          (repeat with_reducible first | refine Stp.go ?_ | refine StpE.go E ?_)
          cases ha : absP s with
          | true =>
            (repeat with_reducible first | refine Stp.go ?_ | refine StpE.go E ?_)
            have he : stepC (absP s) cur x = cur := by unfold stepC; rw [if_neg c1, if_neg c2', if_neg c3, if_neg (by rw [ha]; simp)]
            refine hn _ _ ⟨v, rfl⟩ ?_
            rw [he, ha]
            rw [ha] at E
            exact E
          | false =>
            (repeat with_reducible first | refine Stp.go ?_ | refine StpE.go E ?_)
            exact app _ (fun _ => True) E (by unfold stepC; rw [if_neg c1, if_neg c2', if_neg c3, if_pos ha])
      clear hJ29
      (repeat with_reducible first | refine Stp.go ?_ | refine StpE.go E ?_)
      refine Bi.gtr ?_ ?_ <;> intro c4 <;> simp only [List.length_map] at c4 <;> (repeat with_reducible first | refine Stp.go ?_ | refine StpE.go E ?_)
      · refine Bi.sub (by simp; omega) ?_
        (repeat with_reducible first | refine Stp.go ?_ | refine StpE.go E ?_)
        have hx : cur[cur.length - 1]? = some cur[cur.length - 1] := List.getElem?_eq_getElem (by omega)
        refine IxA.sl E (by (first | assumption | exact FPt.mem | exact FMp.mem | exact FSl.mem | (repeat (first | assumption | with_reducible exact List.mem_cons_self | refine List.mem_cons_of_mem _ ?_)))) (by omega) (by simp; omega) (by simp; omega) ?_
        intro a ha
        (repeat with_reducible first | refine Stp.go ?_ | refine StpE.go E ?_)
        refine Ld.sl E (by (first | assumption | exact FPt.mem | exact FMp.mem | exact FSl.mem | (repeat (first | assumption | with_reducible exact List.mem_cons_self | refine List.mem_cons_of_mem _ ?_)))) ha (x := str cur[cur.length - 1]) (by
          have : ((((cur.map str).length : Nat) : Int) - 1).toNat * 1 = cur.length - 1 := by simp
          rw [this]; simp [hx]) ?_
        (repeat with_reducible first | refine Stp.go ?_ | refine StpE.go E ?_)
        refine Bi.sneq ?_ ?_ <;> intro c5 <;> (repeat with_reducible first | refine Stp.go ?_ | refine StpE.go E ?_)
        · exact fin29 _ _ (by rw [decide_eq_true ⟨by omega, by rw [hx]; simpa using c5⟩]) E
        · exact fin29 _ _ (by rw [decide_eq_false (fun h => h.2 (by rw [hx, c5]))]) E
      · exact fin29 _ _ (by rw [decide_eq_false (fun h => by omega)]) E
    clear hJ18
    (repeat with_reducible first | refine Stp.go ?_ | refine StpE.go E ?_)
    refine Bi.seql ?_ ?_ <;> intro c1 <;> (repeat with_reducible first | refine Stp.go ?_ | refine StpE.go E ?_)
    · exact fin18 _ _ (by rw [decide_eq_true (.inl c1)]) E
    · refine Bi.seql ?_ ?_ <;> intro c2 <;> (repeat with_reducible first | refine Stp.go ?_ | refine StpE.go E ?_)
      · exact fin18 _ _ (by rw [decide_eq_true (.inr c2)]) E
      · exact fin18 _ _ (by rw [decide_eq_false (fun h => h.elim c1 c2)]) E
  · clear E
    rintro D w_ xs _ hD rfl ⟨v, rfl⟩ E
    simp only [List.cons_append, List.nil_append] at E
    have he : (splitS s).foldl (stepC (absP s)) [] = elemsC s := rfl
    rw [he] at E
    have h1 := elems_tot s
    have h2 := tot_len (elemsC s)
    have h3 := join_len (elemsC s)
    (repeat with_reducible first | refine Stp.go ?_ | refine StpE.go E ?_)
    have hr := RdS.by1 v E
    rw [List.length_map] at hr
    refine (Join_ok (by omega) (by omega) E hr).mono ?_
    clear E
    rintro r w_ ⟨rfl, E⟩
    have hjs : (joinS (elemsC s)).size ≤ s.size + 1 := by
      unfold joinS
      show (Lib.join _ _).toArray.size ≤ _
      rw [List.size_toArray]; omega
    (repeat with_reducible first | refine Stp.go ?_ | refine StpE.go E ?_ | (apply hJ18; intro u_) | (apply hJ29; intro u_))
    cases ha : absP s with
    | true =>
      (repeat first | (with_reducible first | refine Stp.go ?_ | refine StpE.go E ?_ | (refine StpW.go E ?_; clear E; intro w_ E) | (refine StpA.go E ?_; clear E; intro b_ w_ hb_ E) | (apply hJ18; intro u_) | (apply hJ29; intro u_) | refine LnL.nil ?_) | ((with_reducible refine Bi.dec true ?_ ?_); focus exact rfl) | ((with_reducible refine Bi.dec false ?_ ?_); focus exact rfl) | ((with_reducible refine Bi.sdec true ?_ ?_); focus decide) | ((with_reducible refine Bi.sdec false ?_ ?_); focus decide))
      refine Bi.sadd (by have : ByteArray.size ⟨#[47]⟩ = 1 := rfl; omega) ?_
      (repeat first | (with_reducible first | refine Stp.go ?_ | refine StpE.go E ?_ | (refine StpW.go E ?_; clear E; intro w_ E) | (refine StpA.go E ?_; clear E; intro b_ w_ hb_ E) | (apply hJ18; intro u_) | (apply hJ29; intro u_) | refine LnL.nil ?_) | ((with_reducible refine Bi.dec true ?_ ?_); focus exact rfl) | ((with_reducible refine Bi.dec false ?_ ?_); focus exact rfl) | ((with_reducible refine Bi.sdec true ?_ ?_); focus decide) | ((with_reducible refine Bi.sdec false ?_ ?_); focus decide))
      exact ⟨by unfold cleanS; rw [if_pos ha], E.tl.tl.tl⟩
    | false =>
      (repeat with_reducible first | refine Stp.go ?_ | refine StpE.go E ?_ | (apply hJ18; intro u_) | (apply hJ29; intro u_))
      refine Bi.seql ?_ ?_ <;> intro c1 <;> (repeat first | (with_reducible first | refine Stp.go ?_ | refine StpE.go E ?_ | (refine StpW.go E ?_; clear E; intro w_ E) | (refine StpA.go E ?_; clear E; intro b_ w_ hb_ E) | (apply hJ18; intro u_) | (apply hJ29; intro u_) | refine LnL.nil ?_) | ((with_reducible refine Bi.dec true ?_ ?_); focus exact rfl) | ((with_reducible refine Bi.dec false ?_ ?_); focus exact rfl) | ((with_reducible refine Bi.sdec true ?_ ?_); focus decide) | ((with_reducible refine Bi.sdec false ?_ ?_); focus decide))
      · exact ⟨by unfold cleanS; rw [if_neg (by rw [ha]; simp), if_pos (show joinS (elemsC s) = emp from c1)], E.tl.tl.tl⟩
      · exact ⟨by unfold cleanS; rw [if_neg (by rw [ha]; simp), if_neg (show ¬ joinS (elemsC s) = emp from c1)], E.tl.tl.tl⟩
end Go.Proofs.YtnnhmahemklnkaaGreatDoor

/-
  Trees, plain: clean paths and their elements.
-/
namespace Go.Proofs.YtnnhmahemklnkaaGreatDoor
open Go Go.Sh
set_option maxRecDepth 100000
set_option linter.unusedVariables false
set_option linter.unusedSimpArgs false

def noS (s : BA) : Prop := (47 : UInt8) ∉ s.data.toList
theorem splitB_noS : ∀ {l p : List UInt8}, p ∈ splitB l → (47 : UInt8) ∉ p
  | [], p, h => by
    rw [List.mem_singleton.1 h]; simp
  | x :: r, p, h => by
    unfold splitB at h
    split at h
    · rcases List.mem_cons.1 h with rfl | h
      · simp
      · exact splitB_noS h
    · rename_i hx
      cases hq : splitB r with
      | nil => exact absurd hq (splitB_ne r)
      | cons q qs =>
        rw [hq] at h
        rcases List.mem_cons.1 h with rfl | h
        · have := splitB_noS (l := r) (p := q) (by rw [hq]; exact List.mem_cons_self)
          intro hc
          rcases List.mem_cons.1 hc with h1 | h1
          · exact hx h1.symm
          · exact this h1
        · exact splitB_noS (l := r) (by rw [hq]; exact List.mem_cons_of_mem _ h)
theorem splitS_noS {s p : BA} (h : p ∈ splitS s) : noS p := by
  obtain ⟨q, hq, rfl⟩ := List.mem_map.1 h
  exact splitB_noS hq
theorem splitB_app : ∀ {p r : List UInt8}, (47 : UInt8) ∉ p → splitB (p ++ 47 :: r) = p :: splitB r
  | [], r, _ => by simp [splitB]
  | x :: p, r, h => by
    have h1 : x ≠ 47 := fun e => h (by rw [e]; exact List.mem_cons_self)
    have h2 := splitB_app (p := p) (r := r) fun e => h (List.mem_cons_of_mem _ e)
    rw [List.cons_append, splitB, if_neg h1, h2]
theorem splitB_one : ∀ {p : List UInt8}, (47 : UInt8) ∉ p → splitB p = [p]
  | [], _ => rfl
  | x :: p, h => by
    have h1 : x ≠ 47 := fun e => h (by rw [e]; exact List.mem_cons_self)
    rw [splitB, if_neg h1, splitB_one fun e => h (List.mem_cons_of_mem _ e)]
theorem splitB_join : ∀ {ps : List (List UInt8)}, ps ≠ [] → (∀ p ∈ ps, (47 : UInt8) ∉ p) → splitB (Lib.join ps [47]) = ps
  | [], h, _ => absurd rfl h
  | [p], _, h => by
    have : Lib.join [p] [47] = p := by simp [Lib.join, List.intercalate]
    rw [this]; exact splitB_one (h p (by simp))
  | p :: q :: r, _, h => by
    have : Lib.join (p :: q :: r) [47] = p ++ 47 :: Lib.join (q :: r) [47] := by simp [Lib.join, List.intercalate]
    rw [this, splitB_app (h p (by simp)), splitB_join (by simp) fun x hx => h x (List.mem_cons_of_mem _ hx)]
theorem bmk_data (s : BA) : bmk s.data.toList = s := ba_ext (by simp)
theorem splitS_join {l : List BA} (h0 : l ≠ []) (h : ∀ x ∈ l, noS x) : splitS (joinS l) = l := by
  unfold splitS joinS
  show (splitB (Lib.join (l.map (·.data.toList)) [47])).map bmk = l
  rw [splitB_join (by simpa using h0) (by
    intro p hp
    obtain ⟨x, hx, rfl⟩ := List.mem_map.1 hp
    exact h x hx), List.map_map]
  conv => rhs; rw [← List.map_id l]
  exact List.map_congr_left fun x _ => bmk_data x
theorem joinS_nil : joinS [] = emp := rfl
theorem splitS_emp : splitS emp = [emp] := rfl

/-- The elements of a clean path. -/
structure Okl (a : Bool) (l : List BA) : Prop where
  one : ∀ x ∈ l, x ≠ emp ∧ x ≠ dot1 ∧ noS x
  dots : ∀ i : Nat, l[i]? = some dot2 → a = false ∧ ∀ j, j < i → l[j]? = some dot2
theorem Okl.nil (a : Bool) : Okl a [] := ⟨(fun _ h => by cases h), fun i h => by simp at h⟩
theorem stepC_okl {a : Bool} {l : List BA} {s : BA} (h : Okl a l) (hs : noS s) : Okl a (stepC a l s) := by
  unfold stepC
  by_cases c1 : s = emp ∨ s = dot1
  · rw [if_pos c1]; exact h
  rw [if_neg c1]
  have c1' : s ≠ emp ∧ s ≠ dot1 := ⟨fun e => c1 (.inl e), fun e => c1 (.inr e)⟩
  have one : ∀ x ∈ l ++ [s], x ≠ emp ∧ x ≠ dot1 ∧ noS x := fun x hx => by
    rcases List.mem_append.1 hx with hx | hx
    · exact h.one x hx
    · rw [List.mem_singleton.1 hx]; exact ⟨c1'.1, c1'.2, hs⟩
  have look : ∀ (i : Nat) x, (l ++ [s])[i]? = some x → (i < l.length ∧ l[i]? = some x) ∨ (i = l.length ∧ s = x) := by
    intro i x hx
    rw [List.getElem?_append] at hx
    split at hx
    · rename_i hi; exact .inl ⟨hi, hx⟩
    · rename_i hi
      right
      have hlt := (List.getElem?_eq_some_iff.1 hx).1
      simp only [List.length_singleton] at hlt
      have e : i - l.length = 0 := by omega
      rw [e] at hx
      exact ⟨by omega, by simpa using hx⟩
  have left : ∀ j : Nat, l[j]? = some dot2 → (l ++ [s])[j]? = some dot2 := fun j hj => by
    rw [List.getElem?_append_left (List.getElem?_eq_some_iff.1 hj).1]; exact hj
  by_cases c2 : s ≠ dot2
  · rw [if_pos c2]
    refine ⟨one, fun i hi => ?_⟩
    rcases look i dot2 hi with ⟨_, h1⟩ | ⟨_, h1⟩
    · exact ⟨(h.dots i h1).1, fun j hj => left j ((h.dots i h1).2 j hj)⟩
    · exact absurd h1 c2
  rw [if_neg c2]
  by_cases c3 : 0 < l.length ∧ l[l.length - 1]? ≠ some dot2
  · rw [if_pos c3]
    refine ⟨fun x hx => h.one x (List.mem_of_mem_take hx), fun i hi => ?_⟩
    have hlt := (List.getElem?_eq_some_iff.1 hi).1
    rw [List.length_take] at hlt
    rw [List.getElem?_take_of_lt (by omega)] at hi
    refine ⟨(h.dots i hi).1, fun j hj => ?_⟩
    rw [List.getElem?_take_of_lt (by omega)]
    exact (h.dots i hi).2 j hj
  rw [if_neg c3]
  by_cases c4 : a = false
  · rw [if_pos c4]
    refine ⟨one, fun i hi => ⟨c4, fun j hj => ?_⟩⟩
    rcases look i dot2 hi with ⟨_, h1⟩ | ⟨h1, _⟩
    · exact left j ((h.dots i h1).2 j hj)
    · have h2 : l[l.length - 1]? = some dot2 := Classical.byContradiction fun hn => c3 ⟨by omega, hn⟩
      by_cases h3 : j = l.length - 1
      · rw [h3]; exact left _ h2
      · exact left j ((h.dots _ h2).2 j (by omega))
  · rw [if_neg c4]; exact h
theorem fold_okl {a : Bool} : ∀ {xs l : List BA}, Okl a l → (∀ x ∈ xs, noS x) → Okl a (xs.foldl (stepC a) l)
  | [], _, h, _ => h
  | x :: xs, l, h, hx => fold_okl (xs := xs) (stepC_okl h (hx x List.mem_cons_self)) fun y hy => hx y (List.mem_cons_of_mem _ hy)
theorem elems_okl (s : BA) : Okl (absP s) (elemsC s) := fold_okl (Okl.nil _) fun _ h => splitS_noS h
theorem fold_self {a : Bool} {l : List BA} (h : Okl a l) : l.foldl (stepC a) [] = l := by
  have key : ∀ k, k ≤ l.length → (l.take k).foldl (stepC a) [] = l.take k := by
    intro k
    induction k with
    | zero => intro _; rfl
    | succ k ih =>
      intro hk
      have hx : l[k]? = some l[k] := List.getElem?_eq_getElem (by omega)
      have ht : l.take (k + 1) = l.take k ++ [l[k]] := by rw [List.take_add_one, hx]; rfl
      have hl : (l.take k).length = k := by rw [List.length_take]; omega
      rw [ht, List.foldl_append, ih (by omega)]
      show stepC a (l.take k) l[k] = _
      obtain ⟨o1, o2, _⟩ := h.one l[k] (List.getElem_mem _)
      unfold stepC
      rw [if_neg (by rintro (e | e); exact o1 e; exact o2 e)]
      by_cases c2 : l[k] ≠ dot2
      · rw [if_pos c2]
      rw [if_neg c2]
      have c2 : l[k] = dot2 := Classical.not_not.1 c2
      obtain ⟨d1, d2⟩ := h.dots k (by rw [hx, c2])
      rw [if_neg, if_pos d1]
      rintro ⟨h1, h2⟩
      rw [hl] at h1 h2
      rw [List.getElem?_take_of_lt (by omega)] at h2
      exact h2 (d2 _ (by omega))
  have := key l.length (Nat.le_refl _)
  rwa [List.take_length] at this
theorem elems_join {a : Bool} {l : List BA} (h : Okl a l) : (splitS (joinS l)).foldl (stepC a) [] = l := by
  by_cases h0 : l = []
  · subst h0; rfl
  rw [splitS_join h0 fun x hx => (h.one x hx).2.2]
  exact fold_self h
theorem joinS_emp {a : Bool} {l : List BA} (h : Okl a l) : joinS l = emp ↔ l = [] := by
  constructor
  · intro he
    refine Classical.byContradiction fun h0 => ?_
    have := splitS_join h0 fun x hx => (h.one x hx).2.2
    rw [he, splitS_emp] at this
    exact (h.one emp (by rw [← this]; simp)).1 rfl
  · rintro rfl; rfl
theorem absP_sep (s : BA) : absP (sep ++ s) = true := by
  have : (sep ++ s).data.toList = 47 :: s.data.toList := by simp
  unfold absP Lib.hasPrefix
  rw [this]
  simp [List.isPrefixOf]
theorem splitS_sep (s : BA) : splitS (sep ++ s) = emp :: splitS s := by
  have : (sep ++ s).data.toList = 47 :: s.data.toList := by simp
  unfold splitS
  rw [this, splitB, if_pos rfl]
  rfl
theorem absP_eq (s : BA) : absP s = decide (s.data.toList[0]? = some 47) := by
  unfold absP Lib.hasPrefix
  show ([47] : List UInt8).isPrefixOf s.data.toList = _
  cases s.data.toList with
  | nil => rfl
  | cons x r =>
    by_cases h : x = 47
    · simp [List.isPrefixOf, h]
    · have h' : ¬ (47 : UInt8) = x := fun e => h e.symm
      simp [List.isPrefixOf, h, h']
theorem absP_join {a : Bool} {l : List BA} (h : Okl a l) : absP (joinS l) = false := by
  rw [absP_eq]
  cases l with
  | nil => rfl
  | cons x r =>
    obtain ⟨h1, _, h3⟩ := h.one x List.mem_cons_self
    cases hd : x.data.toList with
    | nil => exact absurd (ba_ext (by rw [hd]; rfl)) h1
    | cons y t =>
      have hy : y ≠ 47 := fun e => h3 (by rw [hd, e]; exact List.mem_cons_self)
      have : (joinS (x :: r)).data.toList[0]? = some y := by
        unfold joinS Lib.join
        cases r with
        | nil => simp [List.intercalate, hd]
        | cons z r => simp [List.intercalate, hd]
      rw [this]
      simpa using hy
theorem clean_elems (s : BA) : absP (cleanS s) = absP s ∧ elemsC (cleanS s) = elemsC s := by
  have h := elems_okl s
  generalize hl : elemsC s = l at h
  have hc : cleanS s = if absP s = true then sep ++ joinS l else if joinS l = emp then dot1 else joinS l := by unfold cleanS; rw [hl]
  by_cases ha : absP s = true
  · rw [hc, if_pos ha]
    rw [ha] at h ⊢
    refine ⟨absP_sep _, ?_⟩
    unfold elemsC
    rw [absP_sep, splitS_sep, List.foldl_cons]
    exact elems_join h
  · have ha : absP s = false := by simpa using ha
    rw [hc, if_neg (by rw [ha]; simp)]
    rw [ha] at h ⊢
    by_cases h0 : joinS l = emp
    · rw [if_pos h0, (joinS_emp h).1 h0]
      exact ⟨rfl, rfl⟩
    · rw [if_neg h0]
      have hj := absP_join h
      refine ⟨hj, ?_⟩
      unfold elemsC
      rw [hj]
      exact elems_join h
theorem clean_idem (s : BA) : cleanS (cleanS s) = cleanS s := by
  obtain ⟨h1, h2⟩ := clean_elems s
  rw [cleanS, h1, h2]
  rfl
end Go.Proofs.YtnnhmahemklnkaaGreatDoor

/-
  Trees, plain: a path that is read byte by byte has the elements of its parts; what is split is valid.
-/
namespace Go.Proofs.YtnnhmahemklnkaaGreatDoor
open Go Go.Sh
set_option maxRecDepth 100000
set_option linter.unusedVariables false
set_option linter.unusedSimpArgs false

/-- The parts of what is left, behind a word that has begun. -/
def preB (w r : List UInt8) : List (List UInt8) := match splitB r with
  | [] => [w]
  | p :: ps => (w ++ p) :: ps
theorem preB_end (w : List UInt8) : preB w [] = [w] := by simp [preB, splitB]
theorem preB_ne {w r : List UInt8} {x : UInt8} (h : x ≠ 47) : preB w (x :: r) = preB (w ++ [x]) r := by
  unfold preB
  rw [splitB, if_neg h]
  cases hq : splitB r with
  | nil => exact absurd hq (splitB_ne r)
  | cons p ps => simp
theorem preB_eq (w r : List UInt8) : preB w (47 :: r) = w :: preB [] r := by
  unfold preB
  rw [splitB, if_pos rfl]
  cases hq : splitB r with
  | nil => exact absurd hq (splitB_ne r)
  | cons p ps => simp
theorem preB_start (r : List UInt8) : preB [] r = splitB r := by
  unfold preB
  cases hq : splitB r with
  | nil => exact absurd hq (splitB_ne r)
  | cons p ps => simp

/-- An element that no file can have. -/
def badE (x : BA) : Bool := decide (x ≠ dot2) && !goodName x
def splitP (s : BA) : List BA × Int :=
  if 1024 < s.size then ([], 3) else if (elemsC s).any badE then ([], 8) else (elemsC s, 0)
/-- The elements one by one, as 'Split' takes them. -/
def walkE : List BA → List BA → Option (List BA)
  | out, [] => some out
  | out, p :: ps => if p = emp ∨ p = dot1 then walkE out ps else if badE p = true then none else walkE (out ++ [p]) ps
theorem walkE_okl : ∀ {ps out : List BA}, (∀ x ∈ ps, x ≠ emp ∧ x ≠ dot1) → walkE out ps = if ps.any badE then none else some (out ++ ps)
  | [], out, _ => by simp [walkE]
  | p :: ps, out, h => by
    obtain ⟨h1, h2⟩ := h p List.mem_cons_self
    rw [walkE, if_neg (by rintro (e | e); exact h1 e; exact h2 e), walkE_okl (ps := ps) fun x hx => h x (List.mem_cons_of_mem _ hx)]
    cases hb : badE p <;> simp [hb]
def trimS (s : BA) : BA := ⟨(Lib.trimPrefix s.data.toList sep.data.toList).toArray⟩
theorem trim_clean (s : BA) : trimS (cleanS s) = if absP s = true then joinS (elemsC s) else if joinS (elemsC s) = emp then dot1 else joinS (elemsC s) := by
  have h := elems_okl s
  unfold cleanS
  by_cases ha : absP s = true
  · rw [if_pos ha, if_pos ha]
    unfold trimS Lib.trimPrefix
    rw [if_pos (show Lib.hasPrefix (sep ++ joinS (elemsC s)).data.toList sep.data.toList = true from absP_sep _)]
    refine ba_ext ?_
    have : (sep ++ joinS (elemsC s)).data.toList = 47 :: (joinS (elemsC s)).data.toList := by simp
    rw [this]
    simp
  · rw [if_neg ha, if_neg ha]
    by_cases h0 : joinS (elemsC s) = emp
    · rw [if_pos h0]; rfl
    · rw [if_neg h0]
      have hj := absP_join h
      unfold absP at hj
      unfold trimS Lib.trimPrefix
      rw [if_neg (by rw [hj]; simp)]
theorem walkE_clean (s : BA) : walkE [] (splitS (trimS (cleanS s))) = if (elemsC s).any badE then none else some (elemsC s) := by
  have h := elems_okl s
  rw [trim_clean]
  have key : walkE [] (splitS (joinS (elemsC s))) = if (elemsC s).any badE then none else some (elemsC s) := by
    by_cases h0 : elemsC s = []
    · rw [h0]; rfl
    · rw [splitS_join h0 fun x hx => (h.one x hx).2.2]
      rw [walkE_okl fun x hx => ⟨(h.one x hx).1, (h.one x hx).2.1⟩, List.nil_append]
  by_cases ha : absP s = true
  · rw [if_pos ha]; exact key
  · rw [if_neg ha]
    by_cases h0 : joinS (elemsC s) = emp
    · rw [if_pos h0, (joinS_emp h).1 h0]; rfl
    · rw [if_neg h0]; exact key
/-- How far 'Split' is. -/
theorem walkE_step {out ps : List BA} {p : BA} : walkE out (p :: ps) = if p = emp ∨ p = dot1 then walkE out ps else if badE p = true then none else walkE (out ++ [p]) ps := rfl
theorem walkE_len : ∀ {ps out r : List BA}, walkE out ps = some r → r.length ≤ out.length + ps.length
  | [], out, r, h => by
    cases h; simp
  | p :: ps, out, r, h => by
    rw [walkE] at h
    split at h
    · have := walkE_len h; simp only [List.length_cons]; omega
    split at h
    · cases h
    · have := walkE_len h; simp only [List.length_cons, List.length_append, List.length_nil] at this ⊢; omega
end Go.Proofs.YtnnhmahemklnkaaGreatDoor

/-
  Trees, plain: what always holds of a tree holds behind every operation.
-/
namespace Go.Proofs.YtnnhmahemklnkaaGreatDoor
open Go Go.Sh
set_option maxRecDepth 100000
set_option linter.unusedVariables false
set_option linter.unusedSimpArgs false
variable {T : Tr}

theorem Inv.tick (h : Inv T) : Inv T.tick :=
  ⟨h.sorted, h.root, h.bound, h.rootD, h.up, h.names, h.good, h.rank, h.data, h.form, h.hsorted, h.hpos, h.hfile, h.hclose, h.few, by have := h.clock; show 0 ≤ T.clock + 1; omega, h.rootN⟩
theorem Inv.touch (h : Inv T) (user : BA) (p : Int) : Inv (T.upd p (touchN T.clock user)) :=
  h.upd T.clock h.clock (fun _ _ _ => ⟨rfl, rfl, rfl, rfl⟩) (fun n hn _ => h.data n hn) fun n hn _ => by
    have := h.form n hn
    exact ⟨this.1, this.2.1, this.2.2.1, by show 0 ≤ n.vers + 1; omega, h.clock⟩
theorem Inv.change (h : Inv T) (user : BA) (ps : List Int) : Inv (T.change user ps) := by
  have key : ∀ (ps : List Int) (T : Tr), Inv T → Inv (ps.foldl (fun T p => T.upd p (touchN T.clock user)) T) := by
    intro ps
    induction ps with
    | nil => intro T h; exact h
    | cons p ps ih => intro T h; exact ih _ (h.touch user p)
  exact key ps _ h.tick
theorem change_keeps (T : Tr) (user : BA) (ps : List Int) : (T.change user ps).next = T.next ∧ (T.change user ps).hs = T.hs ∧ (T.change user ps).gs = T.gs ∧ (T.change user ps).clock = T.clock + 1 ∧ (T.change user ps).ns.length = T.ns.length := by
  have key : ∀ (ps : List Int) (T : Tr), let T' := ps.foldl (fun T p => T.upd p (touchN T.clock user)) T; T'.next = T.next ∧ T'.hs = T.hs ∧ T'.gs = T.gs ∧ T'.clock = T.clock ∧ T'.ns.length = T.ns.length := by
    intro ps
    induction ps with
    | nil => intro T; exact ⟨rfl, rfl, rfl, rfl, rfl⟩
    | cons p ps ih =>
      intro T
      obtain ⟨h1, h2, h3, h4, h5⟩ := ih (T.upd p (touchN T.clock user))
      refine ⟨h1, h2, h3, h4, ?_⟩
      rw [List.foldl_cons]
      rw [h5]
      show (updN T.ns p _).length = _
      unfold updN; simp
  exact key ps T.tick
theorem updN_mem {ns : List Nd} {p : Int} {f : Nd → Nd} {m : Nd} (h : m ∈ updN ns p f) : ∃ n ∈ ns, m = if n.path = p then f n else n := by
  obtain ⟨n, hn, rfl⟩ := List.mem_map.1 h
  exact ⟨n, hn, rfl⟩
theorem Inv.hsN (h : Inv T) : (T.hs.map (·.1)).Nodup := by
  rw [List.Nodup, List.pairwise_map]
  exact h.hsorted.imp fun {a b} hab => by omega
theorem Inv.openedM (h : Inv T) {hd : Int} {x : Hd} (hx : T.opened hd = some x) : (hd, x) ∈ T.hs := (getL_some h.hsN).1 hx

theorem write_inv (h : Inv T) (hd off : Int) (d : BA) : Inv (T.write hd off d).1 := by
  unfold Tr.write
  split
  · exact h
  rename_i x hx
  split
  · exact h
  rename_i hm
  split
  · exact h
  rename_i n hg
  obtain ⟨hn, hp⟩ := h.get.1 hg
  split
  · exact h
  split
  · exact h
  rename_i hoff hde
  simp only []
  generalize (if andI n.mode 1073741824 ≠ 0 then (n.data.size : Int) else off) = at_
  split
  · exact h
  rename_i hsz
  have hmode : x.mode ≠ 0 := fun e => hm (by rw [e]; decide)
  have hm := h.openedM hx
  show Inv ((T.change x.user [x.file]).upd x.file _)
  rw [change_one]
  unfold Tr.upd
  simp only []
  rw [updN_updN (f1 := touchN (T.clock + 1) x.user) fun _ => rfl]
  have hc := h.clock
  refine h.upd (T.clock + 1) (by omega) (fun _ _ _ => ⟨rfl, rfl, rfl, rfl⟩) (fun m hmm he => ?_) fun m hmm _ => ?_
  · have hdir := h.hclose _ hm hmode m hmm he
    refine ⟨fun hc => ?_, ?_⟩
    · have hc : m.dir = true := hc
      rw [hdir] at hc; cases hc
    · show (overW m.data _ d).size ≤ 1048576
      rw [over_size]
      have h1 := (h.data m hmm).2
      have h2 : m = n := h.inj hmm hn (by rw [he, hp])
      rw [h2] at h1 ⊢
      omega
  · have := h.form m hmm
    exact ⟨this.1, this.2.1, this.2.2.1, by show 0 ≤ m.vers + 1; omega, by show 0 ≤ T.clock + 1; omega⟩

theorem open_inv (h : Inv T) (user : BA) (file mode : Int) : Inv (T.openF user file mode).1 := by
  unfold Tr.openF
  split
  · exact h
  split
  · exact h
  rename_i n hg
  obtain ⟨hn, hp⟩ := h.get.1 hg
  split
  · exact h
  rename_i hdm
  split
  · exact h
  split
  · exact h
  split
  · exact h
  rename_i hlen
  simp only []
  have hc := h.clock
  have hfile : 0 ≤ file ∧ file < T.next := by have := h.bound n hn; rw [hp] at this; exact this
  have hdir : mode ≠ 0 → ∀ m ∈ T.ns, m.path = file → m.dir = false := fun hm m hmm he => by
    have h2 : m = n := h.inj hmm hn (by rw [he, hp])
    rw [h2]
    cases hd : n.dir with
    | false => rfl
    | true => exact absurd ⟨hd, hm⟩ hdm
  split
  · rw [change_one]
    unfold Tr.upd
    simp only []
    rw [updN_updN (f1 := touchN (T.clock + 1) user) fun _ => rfl]
    have hu := h.upd (p := file) (g := fun n => { touchN (T.clock + 1) user n with data := emp }) (T.clock + 1) (by omega) (fun _ _ _ => ⟨rfl, rfl, rfl, rfl⟩) (fun m hmm he => ⟨fun _ => rfl, Nat.zero_le _⟩) fun m hmm _ => by
      have := h.form m hmm
      exact ⟨this.1, this.2.1, this.2.2.1, by show 0 ≤ m.vers + 1; omega, by show 0 ≤ T.clock + 1; omega⟩
    refine Inv.hold hu (x := ⟨file, mode, user⟩) (Classical.not_not.1 hlen) hfile fun hm m hmm he => ?_
    obtain ⟨q, hq, rfl⟩ := updN_mem hmm
    split at he <;> rename_i hqf
    · rw [if_pos hqf]
      exact hdir hm q hq hqf
    · exact absurd he hqf
  · exact Inv.hold h (Classical.not_not.1 hlen) hfile hdir

theorem create_inv (h : Inv T) (user : BA) (dir : Int) (name : BA) (perm mode : Int) : Inv (T.create user dir name perm mode).1 := by
  unfold Tr.create
  split
  · exact h
  rename_i c7
  split
  · exact h
  rename_i u hg
  obtain ⟨hu, hp⟩ := h.get.1 hg
  split
  · exact h
  rename_i hdir
  split
  · exact h
  rename_i c22
  split
  · exact h
  split
  · exact h
  rename_i hkid
  split
  · exact h
  rename_i hfew
  simp only []
  obtain ⟨k1, k2, k3, k4, k5⟩ := change_keeps T user [dir]
  have hi1 := h.change user [dir]
  have hc := h.clock
  have hshape : ∀ m ∈ (T.change user [dir]).ns, ∃ q ∈ T.ns, m.path = q.path ∧ m.up = q.up ∧ m.name = q.name ∧ m.dir = q.dir := by
    intro m hm
    rw [change_one] at hm
    obtain ⟨q, hq, rfl⟩ := updN_mem hm
    refine ⟨q, hq, ?_⟩
    split <;> exact ⟨rfl, rfl, rfl, rfl⟩
  have hgood : goodName name = true ∧ goodName user = true := by
    constructor
    · cases hx : goodName name with
      | true => rfl
      | false => exact absurd (.inl hx) c22
    · cases hx : goodName user with
      | true => rfl
      | false => exact absurd (.inr hx) c22
  have hr : rightM perm = true := by
    cases hx : rightM perm with
    | true => rfl
    | false => exact absurd (.inr (.inl hx)) c7
  have hf := h.form u hu
  have hi2 := hi1.newN (n := ⟨T.next, 0, Tr.modeN perm u.mode, (T.change user [dir]).clock, dir, name, user, u.group, user, emp⟩) (by rw [k1]) ⟨if u.path = dir then touchN (T.clock + 1) user u else u, by
      rw [change_one]
      exact List.mem_map.2 ⟨u, hu, rfl⟩, by rw [if_pos hp]; exact hp, by rw [if_pos hp]; show u.dir = true; cases hx : u.dir with
      | true => rfl
      | false => exact absurd hx hdir⟩ (by
      intro m hm h0 h1 h2
      obtain ⟨q, hq, e1, e2, e3, e4⟩ := hshape m hm
      have : T.kid dir name = some q := (kid_some h).2 ⟨hq, by rw [← e1]; exact h0, e2.symm.trans h1, e3.symm.trans h2⟩
      exact hkid (by rw [this]; rfl)) hgood.1 rfl ⟨hgood.2, hf.2.1, modeN_right _ hr, Int.le_refl _, by rw [k4]; show 0 ≤ T.clock + 1; omega⟩ (by rw [k5]; omega)
  rw [k1] at hi2
  refine hi2.hold (by show (T.change user [dir]).hs.length < 64; rw [k2]; omega) (by
    obtain ⟨r0, hr0, hr1⟩ := h.root
    have := h.bound r0 hr0
    exact ⟨by show 0 ≤ T.next; omega, by show T.next < T.next + 1; omega⟩) fun hm m hmm he => ?_
  have hmm : m ∈ (T.change user [dir]).ns ++ [_] := hmm
  rcases List.mem_append.1 hmm with hmm | hmm
  · have := hi1.bound m hmm
    rw [k1] at this
    have he : m.path = T.next := he
    omega
  · rw [List.mem_singleton.1 hmm]
    show isD (Tr.modeN perm u.mode) = false
    rw [modeN_isD]
    cases hx : isD perm with
    | false => rfl
    | true => exact absurd (.inr (.inr ⟨by simpa [isD] using hx, hm⟩)) c7

/-- A file that has no files below it goes. -/
theorem Inv.filter (h : Inv T) {n : Nd} (h0 : n.path ≠ 0) (hk : ∀ m ∈ T.ns, m.path ≠ 0 → m.up ≠ n.path) : Inv { T with ns := T.ns.filter fun x => decide (x.path ≠ n.path) } := by
  have sub : ∀ m ∈ T.ns.filter (fun x => decide (x.path ≠ n.path)), m ∈ T.ns := fun m hm => (List.mem_filter.1 hm).1
  have back : ∀ m ∈ T.ns, m.path ≠ n.path → m ∈ T.ns.filter (fun x => decide (x.path ≠ n.path)) := fun m hm hne => List.mem_filter.2 ⟨hm, by simpa using hne⟩
  obtain ⟨r0, hr0, hr1⟩ := h.root
  refine ⟨h.sorted.filter _, ⟨r0, back r0 hr0 (by rw [hr1]; exact fun e => h0 e.symm), hr1⟩, fun m hm => h.bound m (sub m hm), fun m hm => h.rootD m (sub m hm), fun m hm hm0 => ?_, fun a ha b hb => h.names a (sub a ha) b (sub b hb),
    fun m hm => h.good m (sub m hm), ?_, fun m hm => h.data m (sub m hm), fun m hm => h.form m (sub m hm), h.hsorted, h.hpos, h.hfile, fun x hx h1 m hm => h.hclose x hx h1 m (sub m hm), ⟨Nat.le_trans (List.length_filter_le _ _) h.few.1, h.few.2⟩, h.clock, fun m hm => h.rootN m (sub m hm)⟩
  · obtain ⟨u, hu, h1, h2⟩ := h.up m (sub m hm) hm0
    exact ⟨u, back u hu (by rw [h1]; exact hk m (sub m hm) hm0), h1, h2⟩
  · obtain ⟨rk, hrk⟩ := h.rank
    exact ⟨rk, fun m hm => hrk m (sub m hm)⟩
theorem drop_inv (h : Inv T) {n : Nd} (h0 : n.path ≠ 0) (hk : ∀ m ∈ T.ns, m.path ≠ 0 → m.up ≠ n.path) (user : BA) : Inv (T.drop user n) := (h.filter h0 hk).change user _
theorem delL_sub {κ β : Type} [DecidableEq κ] (k : κ) : ∀ L : List (κ × β), (delL L k).Sublist L
  | [] => List.Sublist.refl _
  | p :: r => by
    unfold delL
    split
    · exact List.sublist_cons_self _ _
    · exact (delL_sub k r).cons_cons _
theorem Inv.hdel (h : Inv T) (k : Int) : Inv { T with hs := delL T.hs k } := by
  have hs := delL_sub k T.hs
  exact ⟨h.sorted, h.root, h.bound, h.rootD, h.up, h.names, h.good, h.rank, h.data, h.form, h.hsorted.sublist hs, fun x hx => h.hpos x (hs.subset hx), fun x hx => h.hfile x (hs.subset hx), fun x hx => h.hclose x (hs.subset hx), ⟨h.few.1, Nat.le_trans hs.length_le h.few.2⟩, h.clock, h.rootN⟩
/-- A file that is no directory has no files below it. -/
theorem Inv.leaf (h : Inv T) {n : Nd} (hn : n ∈ T.ns) (hd : n.dir = false) : n.path ≠ 0 ∧ ∀ m ∈ T.ns, m.path ≠ 0 → m.up ≠ n.path := by
  refine ⟨fun h0 => ?_, fun m hm h0 he => ?_⟩
  · have := (h.rootD n hn h0).1
    rw [hd] at this; cases this
  · obtain ⟨u, hu, h1, h2⟩ := h.up m hm h0
    have : u = n := h.inj hu hn (by rw [h1, he])
    rw [this, hd] at h2; cases h2
theorem close_inv (h : Inv T) (hd : Int) : Inv (T.close hd).1 := by
  unfold Tr.close
  split
  · exact h
  rename_i x hx
  simp only []
  split
  · rename_i n hg
    obtain ⟨hn, hp⟩ := h.get.1 hg
    split
    · rename_i h64
      have hmode : x.mode ≠ 0 := fun e => h64 (by rw [e]; decide)
      obtain ⟨h0, hk⟩ := h.leaf hn (h.hclose _ (h.openedM hx) hmode n hn hp)
      exact drop_inv (h.hdel hd) h0 hk _
    · exact h.hdel hd
  · exact h.hdel hd
theorem remove_inv (h : Inv T) (user : BA) (file : Int) : Inv (T.remove user file).1 := by
  unfold Tr.remove
  split
  · exact h
  rename_i n hg
  obtain ⟨hn, hp⟩ := h.get.1 hg
  split
  · exact h
  rename_i h0
  split
  · exact h
  split
  · exact h
  rename_i hk
  refine drop_inv h h0 (fun m hm hm0 he => hk ?_) _
  refine List.length_pos_of_mem (a := m) (List.mem_filter.2 ⟨hm, ?_⟩)
  unfold Tr.isKid
  exact decide_eq_true ⟨hm0, by rw [he, hp]⟩
end Go.Proofs.YtnnhmahemklnkaaGreatDoor

/-
  Trees, plain: how far the numbers of a tree grow in one operation.
-/
namespace Go.Proofs.YtnnhmahemklnkaaGreatDoor
open Go Go.Sh
set_option maxRecDepth 100000
set_option linter.unusedVariables false
set_option linter.unusedSimpArgs false
variable {T : Tr} {N : Int}

theorem Lim.mono {M : Int} (h : Lim N T) (hm : N ≤ M) : Lim M T := ⟨by have := h.clock; omega, by have := h.next; omega, fun n hn => by have := h.vers n hn; omega⟩
theorem Lim.tick (h : Lim N T) : Lim (N + 1) T.tick := ⟨by have := h.clock; show T.clock + 1 ≤ N + 1; omega, by have := h.next; show T.next ≤ N + 1; omega, fun n hn => by have := h.vers n hn; omega⟩
theorem Lim.updV (h : Lim N T) {p : Int} {f : Nd → Nd} (hf : ∀ n, (f n).vers ≤ n.vers + 1) : Lim (N + 1) (T.upd p f) := ⟨by have := h.clock; show T.clock ≤ N + 1; omega, by have := h.next; show T.next ≤ N + 1; omega, fun n hn => by
  obtain ⟨m, hm, rfl⟩ := updN_mem hn
  have := h.vers m hm
  have := hf m
  split <;> omega⟩
theorem Lim.upd0 (h : Lim N T) {p : Int} {f : Nd → Nd} (hf : ∀ n, (f n).vers = n.vers) : Lim N (T.upd p f) := ⟨h.clock, h.next, fun n hn => by
  obtain ⟨m, hm, rfl⟩ := updN_mem hn
  have := h.vers m hm
  have := hf m
  split <;> omega⟩
theorem Lim.change1 (h : Lim N T) (user : BA) (p : Int) : Lim (N + 2) (T.change user [p]) := by
  have := (h.tick).updV (p := p) (f := touchN T.tick.clock user) (fun n => by show n.vers + 1 ≤ n.vers + 1; omega)
  exact this.mono (by omega)
theorem Lim.change2 (h : Lim N T) (user : BA) (p q : Int) : Lim (N + 3) (T.change user [p, q]) := by
  have := ((h.tick).updV (p := p) (f := touchN T.tick.clock user) (fun n => by show n.vers + 1 ≤ n.vers + 1; omega)).updV (p := q) (f := touchN T.tick.clock user) (fun n => by show n.vers + 1 ≤ n.vers + 1; omega)
  exact this.mono (by omega)
theorem Lim.hold (h : Lim N T) (x : Hd) : Lim N (T.hold x).1 := ⟨h.clock, h.next, h.vers⟩
theorem write_lim (h : Lim N T) (hd off : Int) (d : BA) : Lim (N + 3) (T.write hd off d).1 := by
  have h3 := h.mono (M := N + 3) (by omega)
  unfold Tr.write
  split
  · exact h3
  split
  · exact h3
  split
  · exact h3
  split
  · exact h3
  split
  · exact h3
  simp only []
  generalize (if andI _ 1073741824 ≠ 0 then _ else off) = at_
  split
  · exact h3
  · exact ((h.change1 _ _).upd0 (by intro n; rfl)).mono (by omega)
theorem open_lim (h : Lim N T) (user : BA) (file mode : Int) : Lim (N + 3) (T.openF user file mode).1 := by
  have h3 := h.mono (M := N + 3) (by omega)
  unfold Tr.openF
  split
  · exact h3
  split
  · exact h3
  split
  · exact h3
  split
  · exact h3
  split
  · exact h3
  split
  · exact h3
  simp only []
  refine Lim.hold ?_ _
  split
  · exact ((h.change1 _ _).upd0 (by intro n; rfl)).mono (by omega)
  · exact h3
theorem create_lim (h : Lim N T) (h0 : 0 ≤ N) (user : BA) (dir : Int) (name : BA) (perm mode : Int) : Lim (N + 3) (T.create user dir name perm mode).1 := by
  have h3 := h.mono (M := N + 3) (by omega)
  unfold Tr.create
  split
  · exact h3
  split
  · exact h3
  split
  · exact h3
  split
  · exact h3
  split
  · exact h3
  split
  · exact h3
  split
  · exact h3
  simp only []
  refine Lim.hold ?_ _
  have h2 := h.change1 user dir
  refine ⟨by have := h2.clock; show (T.change user [dir]).clock ≤ N + 3; omega, by have := h.next; show T.next + 1 ≤ N + 3; omega, fun n hn => ?_⟩
  have hn : n ∈ (T.change user [dir]).ns ++ [_] := hn
  rcases List.mem_append.1 hn with hn | hn
  · have := h2.vers n hn; omega
  · rw [List.mem_singleton.1 hn]; show (0 : Int) ≤ N + 3; omega
theorem drop_lim (h : Lim N T) (user : BA) (n : Nd) : Lim (N + 2) (T.drop user n) :=
  Lim.change1 (T := { T with ns := T.ns.filter fun x => decide (x.path ≠ n.path) }) ⟨h.clock, h.next, fun m hm => h.vers m (List.mem_filter.1 hm).1⟩ user n.up
theorem close_lim (h : Lim N T) (hd : Int) : Lim (N + 3) (T.close hd).1 := by
  have h3 := h.mono (M := N + 3) (by omega)
  have hh : Lim N { T with hs := delL T.hs hd } := ⟨h.clock, h.next, h.vers⟩
  unfold Tr.close
  split
  · exact h3
  simp only []
  split
  · split
    · exact (drop_lim hh _ _).mono (by omega)
    · exact hh.mono (by omega)
  · exact hh.mono (by omega)
theorem remove_lim (h : Lim N T) (user : BA) (file : Int) : Lim (N + 3) (T.remove user file).1 := by
  have h3 := h.mono (M := N + 3) (by omega)
  unfold Tr.remove
  split
  · exact h3
  split
  · exact h3
  split
  · exact h3
  split
  · exact h3
  · exact (drop_lim h _ _).mono (by omega)
theorem wstat_lim (h : Lim N T) (user : BA) (file : Int) (d : Dr) : Lim (N + 3) (T.wstat user file d).1 := by
  have h3 := h.mono (M := N + 3) (by omega)
  unfold Tr.wstat
  split
  · exact h3
  simp only []
  split
  · exact h3
  split
  · exact h3
  split
  · exact h3
  split
  · exact h3
  split
  · exact h3
  split
  · exact h3
  split
  · exact h3
  split
  · exact h3
  refine Lim.upd0 ?_ fun n => rfl
  split
  · exact h.change2 _ _ _
  · exact (h.change1 _ _).mono (by omega)
theorem newT_lim (owner : BA) (gs : Gs) : Lim 1 (newT owner gs) := ⟨by show (0 : Int) ≤ 1; omega, Int.le_refl _, fun n hn => by
  rw [List.mem_singleton.1 hn]; show (0 : Int) ≤ 1; omega⟩
end Go.Proofs.YtnnhmahemklnkaaGreatDoor

/-
  Trees: the example of the chapter.
-/
namespace Go.Proofs.YtnnhmahemklnkaaGreatDoor
open Go Go.Sh
set_option maxRecDepth 100000
set_option linter.unusedVariables false
set_option linter.unusedSimpArgs false
variable {w0 w : World} {F : Nat → Prop} {l : List As}

abbrev ann : BA := ⟨#[97, 110, 110]⟩
abbrev bob : BA := ⟨#[98, 111, 98]⟩
abbrev nmF : BA := ⟨#[102]⟩
abbrev aw0 : Tr := newT ann []
abbrev aw1 : Tr := (aw0.create ann 0 nmF 438 2).1
abbrev aw2 : Tr := (aw1.write 1 2 ⟨#[97, 98]⟩).1
theorem gin_nil (v : Value) (hv : v = .slice none 0 0) : GIn w0 F l v [] [] := by
  subst hv
  exact ⟨⟨none, 0, rfl, Nat.le_refl _, rfl, .inl rfl⟩, rfl, fun i a b h => by simp at h⟩
theorem checkG_ann : checkG [] [ann] = 0 := by decide
theorem aw_create : (aw0.create ann 0 nmF 438 2).2 = (1, ⟨0, 0, 1⟩, 0) := by kernel_rfl
theorem aw_write : (aw1.write 1 2 ⟨#[97, 98]⟩).2 = (2, 0) := by kernel_rfl
theorem aw_read : aw2.read 1 0 9 = (⟨#[0, 0, 97, 98]⟩, 0) := by kernel_rfl
theorem aw_stat : aw2.stat 1 = (⟨0, 1, 1, 436, 2, 4, nmF, ann, ann, ann⟩, 0) := by kernel_rfl
theorem aw_open : (aw2.openF bob 1 1).2.2.2 = 17 := by kernel_rfl
theorem aw_clean : cleanS ⟨#[47, 97, 47, 47, 98, 47, 46, 47, 46, 46, 47, 99, 47, 46, 46]⟩ = ⟨#[47, 97]⟩ := by kernel_rfl
theorem Hs.drop2 {A B : As} (E : Hs w0 F w (A :: B :: l)) : Hs w0 F w l := E.tl.tl
abbrev lkQid : List LK := [.int .i64, .int .i64, .int .i64]
theorem lv_Qid : lv PP 20 Ty.api_Qid = some lkQid := by kernel_rfl
theorem st_Qid : isSt PP Ty.api_Qid = true := by kernel_rfl
theorem g_Qid : PP.eqGuardType PP.depth Ty.api_Qid = false := by kernel_rfl

theorem awake_ok {D : List Row} (E : Hs w0 F w (Pool D :: l)) : Ca PP Fn.law28_awake #[] w fun r w' => r = .bool true ∧ ∃ D', (∀ x ∈ D, x ∈ D') ∧ Hs w0 F w' (Pool D' :: l) := by
  refine S.law28_awake.calls ?_
  unfold S.law28_awake
  refine (New_ok (owner := ann) (gin_nil _ rfl) (by simp) (fun g h => by cases h) (by
    intro s hs
    have : s = ann := by simpa [gwords] using hs
    rw [this]; decide) E).mono ?_
  clear E
  rintro r w_ (⟨hc, -, -⟩ | ⟨-, D1, X, β, rfl, hD1, h, hi, E⟩)
  · exact absurd checkG_ann hc
  (repeat first | (with_reducible first | refine Stp.go ?_ | refine StpE.go E ?_ | (refine StpW.go E ?_; clear E; intro w_ E) | (refine StpA.go E ?_; clear E; intro b_ w_ hb_ E) | (apply hJ5; intro u_) | (apply hJ17; intro u_) | (apply hJ44; intro u_) | refine LnL.nil ?_) | ((with_reducible refine Bi.dec true ?_ ?_); focus exact rfl) | ((with_reducible refine Bi.dec false ?_ ?_); focus exact rfl) | ((with_reducible refine Bi.sdec true ?_ ?_); focus decide) | ((with_reducible refine Bi.sdec false ?_ ?_); focus decide))
  (intro J5 hJ5)
  have fin5 : ∀ b w_, b = false → Hs w0 F w_ (trA X :: Pool D1 :: l) → J5 [.bool b] w_ := by
    intro b w_ hb E
    subst hb
    (repeat first | (with_reducible first | refine Stp.go ?_ | refine StpE.go E ?_ | (refine StpW.go E ?_; clear E; intro w_ E) | (refine StpA.go E ?_; clear E; intro b_ w_ hb_ E) | (apply hJ5; intro u_) | (apply hJ17; intro u_) | (apply hJ44; intro u_) | refine LnL.nil ?_) | ((with_reducible refine Bi.dec true ?_ ?_); focus exact rfl) | ((with_reducible refine Bi.dec false ?_ ?_); focus exact rfl) | ((with_reducible refine Bi.sdec true ?_ ?_); focus decide) | ((with_reducible refine Bi.sdec false ?_ ?_); focus decide))
    have l0 : Lim 1 aw0 := newT_lim _ _
    refine (Create_ok h hi (N := 1) (by omega) l0 (by decide) (by decide) E).mono ?_
    clear E
    rintro r w_ ⟨rfl, D2, X2, β2, hD2, ht2, h2, E⟩
    rw [aw_create]
    have i1 : Inv aw1 := create_inv hi _ _ _ _ _
    have l1 : Lim 4 aw1 := create_lim l0 (by omega) _ _ _ _ _
    (repeat first | (with_reducible first | refine Stp.go ?_ | refine StpE.go E ?_ | (refine StpW.go E ?_; clear E; intro w_ E) | (refine StpA.go E ?_; clear E; intro b_ w_ hb_ E) | (apply hJ5; intro u_) | (apply hJ17; intro u_) | (apply hJ44; intro u_) | refine LnL.nil ?_) | ((with_reducible refine Bi.dec true ?_ ?_); focus exact rfl) | ((with_reducible refine Bi.dec false ?_ ?_); focus exact rfl) | ((with_reducible refine Bi.sdec true ?_ ?_); focus decide) | ((with_reducible refine Bi.sdec false ?_ ?_); focus decide))
    (revert b_; intro q hbq E)
    (intro J17 hJ17)
    have fin17 : ∀ b w_, b = false → Hs w0 F w_ (pt q (oc [i64 0, i64 0, i64 1] Ty.api_Qid) :: trA X2 :: Pool D2 :: l) → J17 [.bool b] w_ := by
      intro b w_ hb E
      subst hb
      (repeat first | (with_reducible first | refine Stp.go ?_ | refine StpE.go E ?_ | (refine StpW.go E ?_; clear E; intro w_ E) | (refine StpA.go E ?_; clear E; intro b_ w_ hb_ E) | (apply hJ5; intro u_) | (apply hJ17; intro u_) | (apply hJ44; intro u_) | refine LnL.nil ?_) | ((with_reducible refine Bi.dec true ?_ ?_); focus exact rfl) | ((with_reducible refine Bi.dec false ?_ ?_); focus exact rfl) | ((with_reducible refine Bi.sdec true ?_ ?_); focus decide) | ((with_reducible refine Bi.sdec false ?_ ?_); focus decide))
      rw [← ht2]
      (replace E := (((E.bIx 0).bIx 2).bIx 2))
      refine (Write_ok h2 i1 (N := 4) (by omega) l1 E).mono ?_
      clear E
      rintro r w_ ⟨rfl, D3, X3, β3, hD3, ht3, h3, E⟩
      rw [aw_write]
      have i2 : Inv aw2 := write_inv i1 _ _ _
      have l2 : Lim 7 aw2 := write_lim l1 _ _ _
      (repeat first | (with_reducible first | refine Stp.go ?_ | refine StpE.go E ?_ | (refine StpW.go E ?_; clear E; intro w_ E) | (refine StpA.go E ?_; clear E; intro b_ w_ hb_ E) | (apply hJ5; intro u_) | (apply hJ17; intro u_) | (apply hJ44; intro u_) | refine LnL.nil ?_) | ((with_reducible refine Bi.dec true ?_ ?_); focus exact rfl) | ((with_reducible refine Bi.dec false ?_ ?_); focus exact rfl) | ((with_reducible refine Bi.sdec true ?_ ?_); focus decide) | ((with_reducible refine Bi.sdec false ?_ ?_); focus decide))
      rw [← ht3]
      refine (Read_ok h3 i2 (D := D3) (by simp) E).mono ?_
      clear E
      rintro r w_ ⟨rfl, E⟩
      rw [aw_read]
      (repeat first | (with_reducible first | refine Stp.go ?_ | refine StpE.go E ?_ | (refine StpW.go E ?_; clear E; intro w_ E) | (refine StpA.go E ?_; clear E; intro b_ w_ hb_ E) | (apply hJ5; intro u_) | (apply hJ17; intro u_) | (apply hJ44; intro u_) | refine LnL.nil ?_) | ((with_reducible refine Bi.dec true ?_ ?_); focus exact rfl) | ((with_reducible refine Bi.dec false ?_ ?_); focus exact rfl) | ((with_reducible refine Bi.sdec true ?_ ?_); focus decide) | ((with_reducible refine Bi.sdec false ?_ ?_); focus decide))
      refine (Stat_ok h3 i2 (D := D3) (by simp) E).mono ?_
      clear E
      rintro r w_ ⟨rfl, E⟩
      rw [aw_stat]
      (repeat first | (with_reducible first | refine Stp.go ?_ | refine StpE.go E ?_ | (refine StpW.go E ?_; clear E; intro w_ E) | (refine StpA.go E ?_; clear E; intro b_ w_ hb_ E) | (apply hJ5; intro u_) | (apply hJ17; intro u_) | (apply hJ44; intro u_) | refine LnL.nil ?_) | ((with_reducible refine Bi.dec true ?_ ?_); focus exact rfl) | ((with_reducible refine Bi.dec false ?_ ?_); focus exact rfl) | ((with_reducible refine Bi.sdec true ?_ ?_); focus decide) | ((with_reducible refine Bi.sdec false ?_ ?_); focus decide))
      (revert b_; intro d hbd E)
      (replace E := (((E.bIx 0).bIx 2).bIx 2))
      refine (Open_ok h3 i2 (N := 7) (by omega) l2 E).mono ?_
      clear E
      rintro r w_ ⟨rfl, D4, X4, β4, hD4, ht4, h4, E⟩
      rw [aw_open]
      (repeat first | (with_reducible first | refine Stp.go ?_ | refine StpE.go E ?_ | (refine StpW.go E ?_; clear E; intro w_ E) | (refine StpA.go E ?_; clear E; intro b_ w_ hb_ E) | (apply hJ5; intro u_) | (apply hJ17; intro u_) | (apply hJ44; intro u_) | refine LnL.nil ?_) | ((with_reducible refine Bi.dec true ?_ ?_); focus exact rfl) | ((with_reducible refine Bi.dec false ?_ ?_); focus exact rfl) | ((with_reducible refine Bi.sdec true ?_ ?_); focus decide) | ((with_reducible refine Bi.sdec false ?_ ?_); focus decide))
      (revert b_; intro q2 hbq2 E)
      (intro J44 hJ44)
      have fin44 : ∀ b w_, b = true → Hs w0 F w_ (Pool D4 :: l) → J44 [.bool b] w_ := by
        intro b w_ hb E
        subst hb
        (repeat first | (with_reducible first | refine Stp.go ?_ | refine StpE.go E ?_ | (refine StpW.go E ?_; clear E; intro w_ E) | (refine StpA.go E ?_; clear E; intro b_ w_ hb_ E) | (apply hJ5; intro u_) | (apply hJ17; intro u_) | (apply hJ44; intro u_) | refine LnL.nil ?_) | ((with_reducible refine Bi.dec true ?_ ?_); focus exact rfl) | ((with_reducible refine Bi.dec false ?_ ?_); focus exact rfl) | ((with_reducible refine Bi.sdec true ?_ ?_); focus decide) | ((with_reducible refine Bi.sdec false ?_ ?_); focus decide))
        exact ⟨rfl, D4, fun x hx => hD4 _ (hD3 _ (hD2 _ (hD1 _ hx))), E⟩
      clear hJ44
      (repeat first | (with_reducible first | refine Stp.go ?_ | refine StpE.go E ?_ | (refine StpW.go E ?_; clear E; intro w_ E) | (refine StpA.go E ?_; clear E; intro b_ w_ hb_ E) | (apply hJ5; intro u_) | (apply hJ17; intro u_) | (apply hJ44; intro u_) | refine LnL.nil ?_) | ((with_reducible refine Bi.dec true ?_ ?_); focus exact rfl) | ((with_reducible refine Bi.dec false ?_ ?_); focus exact rfl) | ((with_reducible refine Bi.sdec true ?_ ?_); focus decide) | ((with_reducible refine Bi.sdec false ?_ ?_); focus decide))
      refine (Clean_ok (by decide) E).mono ?_
      clear E
      rintro r w_ ⟨rfl, E⟩
      rw [aw_clean]
      (repeat first | (with_reducible first | refine Stp.go ?_ | refine StpE.go E ?_ | (refine StpW.go E ?_; clear E; intro w_ E) | (refine StpA.go E ?_; clear E; intro b_ w_ hb_ E) | (apply hJ5; intro u_) | (apply hJ17; intro u_) | (apply hJ44; intro u_) | refine LnL.nil ?_) | ((with_reducible refine Bi.dec true ?_ ?_); focus exact rfl) | ((with_reducible refine Bi.dec false ?_ ?_); focus exact rfl) | ((with_reducible refine Bi.sdec true ?_ ?_); focus decide) | ((with_reducible refine Bi.sdec false ?_ ?_); focus decide))
      refine fin44 _ _ rfl ?_
      (replace E := (E.bIx 0).tl)
      (replace E := (E.bIx 0).tl)
      (replace E := (E.bPt d))
      (replace E := (E.bIx 0).tl)
      (replace E := (E.bPt q))
      exact E.tl
    clear hJ17
    (repeat first | (with_reducible first | refine Stp.go ?_ | refine StpE.go E ?_ | (refine StpW.go E ?_; clear E; intro w_ E) | (refine StpA.go E ?_; clear E; intro b_ w_ hb_ E) | (apply hJ5; intro u_) | (apply hJ17; intro u_) | (apply hJ44; intro u_) | refine LnL.nil ?_) | ((with_reducible refine Bi.dec true ?_ ?_); focus exact rfl) | ((with_reducible refine Bi.dec false ?_ ?_); focus exact rfl) | ((with_reducible refine Bi.sdec true ?_ ?_); focus decide) | ((with_reducible refine Bi.sdec false ?_ ?_); focus decide))
    refine EqS.n (xs := [i64 0, i64 0, i64 1]) (ys := [i64 0, i64 0, i64 1]) lv_Qid st_Qid g_Qid rfl rfl ?_
    simp only [ceqL, ceq, decide_true, Bool.and_self, Bool.not_true]
    (repeat first | (with_reducible first | refine Stp.go ?_ | refine StpE.go E ?_ | (refine StpW.go E ?_; clear E; intro w_ E) | (refine StpA.go E ?_; clear E; intro b_ w_ hb_ E) | (apply hJ5; intro u_) | (apply hJ17; intro u_) | (apply hJ44; intro u_) | refine LnL.nil ?_) | ((with_reducible refine Bi.dec true ?_ ?_); focus exact rfl) | ((with_reducible refine Bi.dec false ?_ ?_); focus exact rfl) | ((with_reducible refine Bi.sdec true ?_ ?_); focus decide) | ((with_reducible refine Bi.sdec false ?_ ?_); focus decide))
    exact fin17 _ _ rfl E
  clear hJ5
  (repeat first | (with_reducible first | refine Stp.go ?_ | refine StpE.go E ?_ | (refine StpW.go E ?_; clear E; intro w_ E) | (refine StpA.go E ?_; clear E; intro b_ w_ hb_ E) | (apply hJ5; intro u_) | (apply hJ17; intro u_) | (apply hJ44; intro u_) | refine LnL.nil ?_) | ((with_reducible refine Bi.dec true ?_ ?_); focus exact rfl) | ((with_reducible refine Bi.dec false ?_ ?_); focus exact rfl) | ((with_reducible refine Bi.sdec true ?_ ?_); focus decide) | ((with_reducible refine Bi.sdec false ?_ ?_); focus decide))
  refine Eq.ef u_p_tree rfl ?_
  (repeat with_reducible first | refine Stp.go ?_ | refine StpE.go E ?_)
  exact fin5 _ _ rfl E
end Go.Proofs.YtnnhmahemklnkaaGreatDoor

/-
  Numbers and their bits; what is permitted, bit by bit.
-/
namespace Go.Proofs.YtnnhmahemklnkaaGreatDoor
open Go Go.Sh
abbrev np : Value := .pointer none
set_option maxRecDepth 100000
set_option linter.unusedVariables false
set_option linter.unusedSimpArgs false
variable {w0 w : World} {F : Nat → Prop} {l : List As}

/-! ### Bits -/
def bitI (m : Int) (i : Nat) : Bool := (BitVec.ofInt 64 m).getLsbD i
def rngI (m : Int) : Prop := -9223372036854775808 ≤ m ∧ m ≤ 9223372036854775807
/-- Where the bits of an owner, a group, others lie. -/
def shO (o g : Bool) : Nat := if o then 6 else if g then 3 else 0
def shI (m : Int) (o g : Bool) : Int := if o then m.fdiv 64 else if g then m.fdiv 8 else m
theorem toInt_rng {m : Int} (h : rngI m) : (BitVec.ofInt 64 m).toInt = m := by
  rw [BitVec.toInt_ofInt]
  unfold rngI at h
  unfold Int.bmod
  simp only [Nat.reducePow]
  split <;> omega
theorem ofInt_fdiv {m : Int} (h : rngI m) (k : Nat) : BitVec.ofInt 64 (m.fdiv (2 ^ k : Nat)) = (BitVec.ofInt 64 m).sshiftRight k := by
  unfold BitVec.sshiftRight
  rw [toInt_rng h, Int.shiftRight_eq_div_pow, Int.fdiv_eq_ediv_of_nonneg _ (Int.natCast_nonneg _)]
theorem bit_sh {m : Int} (h : rngI m) (o g : Bool) {i : Nat} (hi : i < 3) : bitI (shI m o g) i = bitI m (shO o g + i) := by
  unfold bitI shI shO
  cases o with
  | true =>
    simp only [if_true]
    have e := ofInt_fdiv h 6
    rw [show ((2 ^ 6 : Nat) : Int) = 64 from rfl] at e
    rw [e, BitVec.getLsbD_sshiftRight, if_pos (by omega), decide_eq_false (by omega)]
    rfl
  | false =>
    cases g with
    | true =>
      simp only [if_true, if_false, Bool.false_eq_true]
      have e := ofInt_fdiv h 3
      rw [show ((2 ^ 3 : Nat) : Int) = 8 from rfl] at e
      rw [e, BitVec.getLsbD_sshiftRight, if_pos (by omega), decide_eq_false (by omega)]
      rfl
    | false => simp
theorem wrap_rng (n : Int) : rngI (IntKind.i64.wrap n) := by
  unfold rngI IntKind.wrap
  simp only [IntKind.signed, IntKind.bits, Bool.true_and]
  have h1 := Int.emod_nonneg n (b := (2 ^ 64 : Int)) (by omega)
  have h2 := Int.emod_lt_of_pos n (b := (2 ^ 64 : Int)) (by omega)
  split
  · rename_i h
    have h := of_decide_eq_true h
    omega
  · rename_i h
    have h : n % 18446744073709551616 < 9223372036854775808 := by simpa using h
    omega
theorem bit7 (i : Nat) : (BitVec.ofInt 64 7).getLsbD i = decide (i < 3) := by
  by_cases h : i < 3
  · rcases i with _ | _ | _ | i
    · decide
    · decide
    · decide
    · omega
  · rw [decide_eq_false h]
    by_cases h2 : i < 64
    · have : BitVec.ofInt 64 7 = (7 : BitVec 64) := by decide
      rw [this]
      show (BitVec.ofNat 64 7).getLsbD i = false
      rw [BitVec.getLsbD_ofNat]
      have : Nat.testBit 7 i = false := Nat.testBit_lt_two_pow (Nat.lt_of_lt_of_le (by decide : 7 < 2 ^ 3) (Nat.pow_le_pow_right (by omega) (by omega)))
      simp [this]
    · exact BitVec.getLsbD_of_ge _ _ (by omega)
/-- What is permitted, bit by bit. -/
theorem permF_iff {m : Int} (h : rngI m) (o g : Bool) (need : Int) : permF m o g need = true ↔ ∀ i, i < 3 → bitI need i = true → bitI m (shO o g + i) = true := by
  have e0 : permF m o g need = (clrI (andI need 7) (shI m o g) == 0) := rfl
  rw [e0, beq_iff_eq, clrI_zero, andI_ofInt]
  constructor
  · intro hz i hi hb
    have := congrArg (fun x : BitVec 64 => x.getLsbD i) hz
    simp only [BitVec.getLsbD_and, BitVec.getLsbD_not, BitVec.getLsbD_zero, bit7, decide_eq_true hi, decide_eq_true (show i < 64 by omega), Bool.and_true, Bool.true_and] at this
    rw [← bit_sh h o g hi]
    unfold bitI at hb ⊢
    rw [hb] at this
    simpa using this
  · intro H
    apply BitVec.eq_of_getLsbD_eq
    intro i hi
    simp only [BitVec.getLsbD_and, BitVec.getLsbD_not, BitVec.getLsbD_zero, bit7, decide_eq_true hi, Bool.true_and]
    by_cases h3 : i < 3
    · rw [decide_eq_true h3, Bool.and_true]
      cases hb : (BitVec.ofInt 64 need).getLsbD i with
      | false => rfl
      | true =>
        have := H i h3 hb
        rw [← bit_sh h o g h3] at this
        unfold bitI at this
        rw [this]; rfl
    · rw [decide_eq_false h3]; simp
theorem permF_more {p m : Int} (hp : rngI p) (o g : Bool) {n : Int} (h : permF p o g n = true) : permF (orI p m) o g n = true := by
  rw [permF_iff hp] at h
  rw [permF_iff (m := orI p m) (wrap_rng _)]
  intro i hi hb
  have := h i hi hb
  unfold bitI at this ⊢
  rw [orI_ofInt, BitVec.getLsbD_or, this]; rfl
theorem permF_less {p : Int} (hp : rngI p) (o g : Bool) {n k : Int} (h : permF p o g n = true) : permF p o g (andI n k) = true := by
  rw [permF_iff hp] at h ⊢
  intro i hi hb
  refine h i hi ?_
  unfold bitI at hb ⊢
  rw [andI_ofInt, BitVec.getLsbD_and] at hb
  exact (Bool.and_eq_true_iff.1 hb).1

end Go.Proofs.YtnnhmahemklnkaaGreatDoor

/-
  Trees: answers; whether two are the same; what is done to a nil tree.
-/
namespace Go.Proofs.YtnnhmahemklnkaaGreatDoor
open Go Go.Sh
set_option maxRecDepth 100000
set_option linter.unusedVariables false
set_option linter.unusedSimpArgs false
variable {w0 w : World} {F : Nat → Prop} {l : List As}

/-- What an operation answers. -/
structure An where
  qid : Qd := q0
  dir : Dr := d0
  handle : Int := 0
  text : BA := emp
  dirs : List Dr := []
  errno : Int := 0
abbrev An.C (a : An) (dv : Value) : List Value :=
  [i64 a.qid.kind, i64 a.qid.vers, i64 a.qid.path, i64 a.dir.kind, i64 a.dir.vers, i64 a.dir.path, i64 a.dir.mode, i64 a.dir.time, i64 a.dir.len, str a.dir.name, str a.dir.owner, str a.dir.group, str a.dir.last, i64 a.handle, str a.text, dv, i64 a.errno]
abbrev An.V (a : An) (dv : Value) : Value := .agg (a.C dv).toArray
abbrev dcs (ds : List Dr) : List Value := ds.flatMap Dr.cs
/-- An operation that is asked for. -/
structure Ac where
  kind : Int
  handle : Int
  file : Int
  user : BA
  name : BA
  mode : Int
  perm : Int
  count : Int
  offset : Int
  data : BA
  dir : Dr
abbrev Ac.C (x : Ac) : List Value :=
  [i64 x.kind, i64 x.handle, i64 x.file, str x.user, str x.name, i64 x.mode, i64 x.perm, i64 x.count, i64 x.offset, str x.data, i64 x.dir.kind, i64 x.dir.vers, i64 x.dir.path, i64 x.dir.mode, i64 x.dir.time, i64 x.dir.len, str x.dir.name, str x.dir.owner, str x.dir.group, str x.dir.last]
abbrev Ac.V (x : Ac) : Value := .agg x.C.toArray

theorem ceq_self : ∀ {k : LK} {v : Value}, k.fit v = true → ceq v v = true
  | .int _, .int _ _, _ => by simp [ceq]
  | .str, .string _, _ => by simp [ceq]
  | .bool, .bool _, _ => by simp [ceq]
theorem ceqL_self : ∀ {ks : List LK} {xs : List Value}, fitL ks xs = true → ceqL xs xs = true
  | [], [], _ => rfl
  | k :: ks, x :: xs, h => by
    simp only [fitL, Bool.and_eq_true] at h
    simp only [ceqL, ceq_self h.1, ceqL_self h.2, Bool.and_self]
  | [], _ :: _, h => by simp [fitL] at h
  | _ :: _, [], h => by simp [fitL] at h
theorem EqS.eS {P : Program} {w : World} {t : TypeId} {ks : List LK} {xs : List Value} {x y : Operand} {k : Value → Prop} (h : lv P 20 t = some ks) (hs : isSt P t = true) (hg : P.eqGuardType P.depth t = false) (hx : fitL ks xs = true)
    (hk : k (.bool true)) : Rd P (eqS .eql t x y (.agg xs.toArray) (.agg xs.toArray)) w k := EqS.e h hs hg hx hx (by rw [ceqL_self hx]; exact hk)
theorem EqS.nS {P : Program} {w : World} {t : TypeId} {ks : List LK} {xs : List Value} {x y : Operand} {k : Value → Prop} (h : lv P 20 t = some ks) (hs : isSt P t = true) (hg : P.eqGuardType P.depth t = false) (hx : fitL ks xs = true)
    (hk : k (.bool false)) : Rd P (eqS .neq t x y (.agg xs.toArray) (.agg xs.toArray)) w k := EqS.n h hs hg hx hx (by rw [ceqL_self hx]; exact hk)
abbrev lkDir : List LK := [.int .i64, .int .i64, .int .i64, .int .i64, .int .i64, .int .i64, .str, .str, .str, .str]
theorem lv_Dir : lv PP 20 Ty.api_Dir = some lkDir := by kernel_rfl
theorem st_Dir : isSt PP Ty.api_Dir = true := by kernel_rfl
theorem g_Dir : PP.eqGuardType PP.depth Ty.api_Dir = false := by kernel_rfl
theorem dcs_len (ds : List Dr) : (dcs ds).length = ds.length * 10 := by
  induction ds with
  | nil => rfl
  | cons d r ih =>
    rw [dcs, List.flatMap_cons, List.length_append, List.length_cons]
    have : (List.flatMap Dr.cs r).length = r.length * 10 := ih
    rw [this]
    show 10 + r.length * 10 = (r.length + 1) * 10
    omega
theorem dcs_drop (ds : List Dr) : ∀ i : Nat, (dcs ds).drop (i * 10) = dcs (ds.drop i) := by
  induction ds with
  | nil => intro i; simp
  | cons d r ih =>
    intro i
    cases i with
    | zero => simp
    | succ i =>
      rw [dcs, List.flatMap_cons, show (i + 1) * 10 = i * 10 + 10 by omega]
      simp only [Dr.cs, List.cons_append, List.nil_append, List.drop_succ_cons]
      exact ih i
theorem eqDirs_ok {u v : Value} {ds : List Dr} (hn : ds.length ≤ 1000000000) (E : Hs w0 F w l) (h1 : RdS w0 F l 10 ds.length u (dcs ds)) (h2 : RdS w0 F l 10 ds.length v (dcs ds)) :
    Ca PP Fn.slices_Equal_sl_api_Dir_api_Dir #[u, v] w fun r w' => r = .bool true ∧ Hs w0 F w' l := by
  refine S.slices_Equal_sl_api_Dir_api_Dir.calls ?_
  unfold S.slices_Equal_sl_api_Dir_api_Dir
  refine h1.len ?_
  refine h2.len ?_
  refine Bi.neq (fun h => absurd rfl h) fun _ => ?_
  (repeat with_reducible first | refine Stp.go ?_ | refine StpE.go E ?_)
  refine h1.len ?_
  refine ⟨fun l1 w1 => ∃ i : Nat, l1 = [i64 i] ∧ i ≤ ds.length ∧ Hs w0 F w1 l, fun l1 _ => match l1 with | [.int _ i] => ds.length - i.toNat | _ => 0, ⟨0, rfl, Nat.zero_le _, E⟩, ?_⟩
  clear E
  rintro t u1 w1 ⟨i, e, hi, E⟩
  cases e
  refine Bi.lss ?_ ?_ <;> intro hlt <;> (repeat first | (with_reducible first | refine Stp.go ?_ | refine StpE.go E ?_ | (refine StpW.go E ?_; clear E; intro w_ E) | (refine StpA.go E ?_; clear E; intro b_ w_ hb_ E) | refine LnL.nil ?_) | ((with_reducible refine Bi.dec true ?_ ?_); focus exact rfl) | ((with_reducible refine Bi.dec false ?_ ?_); focus exact rfl) | ((with_reducible refine Bi.sdec true ?_ ?_); focus decide) | ((with_reducible refine Bi.sdec false ?_ ?_); focus decide))
  · have hx : ds[i]? = some ds[i] := List.getElem?_eq_getElem (by omega)
    have hd : (dcs ds).drop (((i : Int)).toNat * 10) = ds[i].cs ++ dcs (ds.drop (i + 1)) := by
      rw [Int.toNat_natCast, dcs_drop, List.drop_eq_getElem_cons (by omega)]; rfl
    refine h1.ix (by omega) (by omega) (by omega) ?_
    intro a ha
    rw [hd] at ha
    refine ha.lda E (m := 10) (ds := ds[i].cs) rfl rfl (by omega) ?_
    refine h2.ix (by omega) (by omega) (by omega) ?_
    intro a2 ha2
    rw [hd] at ha2
    refine ha2.lda E (m := 10) (ds := ds[i].cs) rfl rfl (by omega) ?_
    refine EqS.nS lv_Dir st_Dir g_Dir rfl ?_
    (repeat with_reducible first | refine Stp.go ?_ | refine StpE.go E ?_)
    refine Bi.add (by omega) ?_
    exact ⟨⟨i + 1, by simp, by omega, E⟩, by simp only []; omega⟩
  · exact ⟨rfl, E⟩
theorem Bi.seqR {s : ByteArray} {k : Value → Prop} (hk : k (.bool true)) : Bi .eql (.string s) (.string s) k := Bi.seqT rfl hk
theorem Bi.eqlR {kk : IntKind} {a : Int} {k : Value → Prop} (hk : k (.bool true)) : Bi .eql (.int kk a) (.int kk a) k := Bi.eql (fun _ => hk) fun h => absurd rfl h
/-- Slices are values of one cell. -/
theorem RdS_scal {n sz : Nat} {v : Value} {xs : List Value} (h : RdS w0 F l sz n v xs) : Scal v := by
  obtain ⟨a, c, rfl, _⟩ := h; exact ⟨rfl⟩
theorem Same_ok {a : An} {u v : Value} (hn : a.dirs.length ≤ 1000000000) (E : Hs w0 F w l) (h1 : RdS w0 F l 10 a.dirs.length u (dcs a.dirs)) (h2 : RdS w0 F l 10 a.dirs.length v (dcs a.dirs)) :
    Ca PP Fn.law28_Same #[a.V u, a.V v] w fun r w' => r = .bool true ∧ Hs w0 F w' l := by
  refine S.law28_Same.calls ?_
  unfold S.law28_Same
  have i1 := RdS_scal h1
  have i2 := RdS_scal h2
  (repeat first | (with_reducible first | refine Stp.go ?_ | refine StpE.go E ?_ | (refine StpW.go E ?_; clear E; intro w_ E) | (refine StpA.go E ?_; clear E; intro b_ w_ hb_ E) | (apply hJ5; intro u_) | refine LnL.nil ?_) | ((with_reducible refine Bi.dec true ?_ ?_); focus exact rfl) | ((with_reducible refine Bi.dec false ?_ ?_); focus exact rfl) | ((with_reducible refine Bi.sdec true ?_ ?_); focus decide) | ((with_reducible refine Bi.sdec false ?_ ?_); focus decide))
  (intro J5 hJ5)
  (repeat first | (with_reducible first | refine Stp.go ?_ | refine StpE.go E ?_ | (refine StpW.go E ?_; clear E; intro w_ E) | (refine StpA.go E ?_; clear E; intro b_ w_ hb_ E) | (apply hJ5; intro u_) | refine LnL.nil ?_) | ((with_reducible refine Bi.dec true ?_ ?_); focus exact rfl) | ((with_reducible refine Bi.dec false ?_ ?_); focus exact rfl) | ((with_reducible refine Bi.sdec true ?_ ?_); focus decide) | ((with_reducible refine Bi.sdec false ?_ ?_); focus decide))
  refine EqS.eS (xs := a.qid.cs) lv_Qid st_Qid g_Qid rfl ?_
  (repeat with_reducible first | refine Stp.go ?_ | refine StpE.go E ?_)
  refine EqS.eS (xs := a.dir.cs) lv_Dir st_Dir g_Dir rfl ?_
  (repeat with_reducible first | refine Stp.go ?_ | refine StpE.go E ?_)
  refine Bi.eqlR ?_
  (repeat with_reducible first | refine Stp.go ?_ | refine StpE.go E ?_)
  refine Bi.seqR ?_
  (repeat with_reducible first | refine Stp.go ?_ | refine StpE.go E ?_)
  refine Bi.eqlR ?_
  (repeat with_reducible first | refine Stp.go ?_ | refine StpE.go E ?_)
  refine (eqDirs_ok hn E ((h1.cons _).cons _) ((h2.cons _).cons _)).mono ?_
  clear E
  rintro r w_ ⟨rfl, E⟩
  (repeat with_reducible first | refine Stp.go ?_ | refine StpE.go E ?_ | (apply hJ5; intro u_))
  exact ⟨rfl, E.tl.tl⟩
end Go.Proofs.YtnnhmahemklnkaaGreatDoor

/-
  Laws: operations that are asked for, as arguments.
-/
namespace Go.Proofs.YtnnhmahemklnkaaGreatDoor
open Go Go.Sh
set_option maxRecDepth 100000
set_option linter.unusedVariables false

abbrev lkAct : List LK := [.int .i64, .int .i64, .int .i64, .str, .str, .int .i64, .int .i64, .int .i64, .int .i64, .str, .int .i64, .int .i64, .int .i64, .int .i64, .int .i64, .int .i64, .str, .str, .str, .str]
/-- Texts and numbers of an operation are such as a machine holds. -/
structure Ac.Ok (x : Ac) : Prop where
  user : x.user.size ≤ 9223372036854775807
  name : x.name.size ≤ 9223372036854775807
  data : x.data.size ≤ 9223372036854775807
  dname : x.dir.name.size ≤ 9223372036854775807
  downer : x.dir.owner.size ≤ 9223372036854775807
  dgroup : x.dir.group.size ≤ 9223372036854775807
  dlast : x.dir.last.size ≤ 9223372036854775807
  nums : rngI x.kind ∧ rngI x.handle ∧ rngI x.file ∧ rngI x.mode ∧ rngI x.perm ∧ rngI x.count ∧ rngI x.offset ∧ rngI x.dir.kind ∧ rngI x.dir.vers ∧ rngI x.dir.path ∧ rngI x.dir.mode ∧ rngI x.dir.time ∧ rngI x.dir.len
theorem rng_wf {n : Int} (h : (Lit.int .i64 n).wf = true) : rngI n := by
  have : -9223372036854775808 ≤ n ∧ n ≤ 9223372036854775807 := by simpa [Lit.wf, IntKind.min, IntKind.max, IntKind.signed, IntKind.bits] using h
  exact this
theorem int_of {v : Value} (h : LK.fitW (.int .i64) v) : ∃ n, v = i64 n ∧ rngI n := by
  obtain ⟨n, rfl, hw⟩ := LK.int_of h
  exact ⟨n, rfl, rng_wf hw⟩
theorem str_of {v : Value} (h : LK.fitW .str v) : ∃ s, v = str s ∧ s.size ≤ 9223372036854775807 := by
  obtain ⟨s, rfl, hw⟩ := LK.str_of h
  exact ⟨s, rfl, Nat.le_trans hw (by decide)⟩
theorem act_of {xs : List Value} (hx : fitWL lkAct xs) : ∃ x : Ac, xs = x.C ∧ x.Ok := by
  obtain ⟨y0, t0, rfl, f0, z0⟩ := fitWL_cons hx
  obtain ⟨y1, t1, rfl, f1, z1⟩ := fitWL_cons z0
  obtain ⟨y2, t2, rfl, f2, z2⟩ := fitWL_cons z1
  obtain ⟨y3, t3, rfl, f3, z3⟩ := fitWL_cons z2
  obtain ⟨y4, t4, rfl, f4, z4⟩ := fitWL_cons z3
  obtain ⟨y5, t5, rfl, f5, z5⟩ := fitWL_cons z4
  obtain ⟨y6, t6, rfl, f6, z6⟩ := fitWL_cons z5
  obtain ⟨y7, t7, rfl, f7, z7⟩ := fitWL_cons z6
  obtain ⟨y8, t8, rfl, f8, z8⟩ := fitWL_cons z7
  obtain ⟨y9, t9, rfl, f9, z9⟩ := fitWL_cons z8
  obtain ⟨y10, t10, rfl, f10, z10⟩ := fitWL_cons z9
  obtain ⟨y11, t11, rfl, f11, z11⟩ := fitWL_cons z10
  obtain ⟨y12, t12, rfl, f12, z12⟩ := fitWL_cons z11
  obtain ⟨y13, t13, rfl, f13, z13⟩ := fitWL_cons z12
  obtain ⟨y14, t14, rfl, f14, z14⟩ := fitWL_cons z13
  obtain ⟨y15, t15, rfl, f15, z15⟩ := fitWL_cons z14
  obtain ⟨y16, t16, rfl, f16, z16⟩ := fitWL_cons z15
  obtain ⟨y17, t17, rfl, f17, z17⟩ := fitWL_cons z16
  obtain ⟨y18, t18, rfl, f18, z18⟩ := fitWL_cons z17
  obtain ⟨y19, t19, rfl, f19, z19⟩ := fitWL_cons z18
  obtain rfl := fitWL_nil z19
  obtain ⟨n0, rfl, k0⟩ := int_of f0
  obtain ⟨n1, rfl, k1⟩ := int_of f1
  obtain ⟨n2, rfl, k2⟩ := int_of f2
  obtain ⟨s3, rfl, k3⟩ := str_of f3
  obtain ⟨s4, rfl, k4⟩ := str_of f4
  obtain ⟨n5, rfl, k5⟩ := int_of f5
  obtain ⟨n6, rfl, k6⟩ := int_of f6
  obtain ⟨n7, rfl, k7⟩ := int_of f7
  obtain ⟨n8, rfl, k8⟩ := int_of f8
  obtain ⟨s9, rfl, k9⟩ := str_of f9
  obtain ⟨d0, rfl, e0⟩ := int_of f10
  obtain ⟨d1, rfl, e1⟩ := int_of f11
  obtain ⟨d2, rfl, e2⟩ := int_of f12
  obtain ⟨d3, rfl, e3⟩ := int_of f13
  obtain ⟨d4, rfl, e4⟩ := int_of f14
  obtain ⟨d5, rfl, e5⟩ := int_of f15
  obtain ⟨d6, rfl, e6⟩ := str_of f16
  obtain ⟨d7, rfl, e7⟩ := str_of f17
  obtain ⟨d8, rfl, e8⟩ := str_of f18
  obtain ⟨d9, rfl, e9⟩ := str_of f19
  exact ⟨⟨n0, n1, n2, s3, s4, n5, n6, n7, n8, s9, ⟨d0, d1, d2, d3, d4, d5, d6, d7, d8, d9⟩⟩, rfl, ⟨k3, k4, k9, e6, e7, e8, e9, k0, k1, k2, k5, k6, k7, k8, e0, e1, e2, e3, e4, e5⟩⟩
end Go.Proofs.YtnnhmahemklnkaaGreatDoor

/-
  Trees: walking.
-/
namespace Go.Proofs.YtnnhmahemklnkaaGreatDoor
open Go Go.Sh
set_option maxRecDepth 100000
set_option linter.unusedVariables false
set_option linter.unusedSimpArgs false
variable {w0 w : World} {F : Nat → Prop} {l : List As}
variable {D : List Row} {X : PT} {T : Tr} {β : Int → Nat}

theorem Tie.kidR (h : Tie D X T β) (hi : Inv T) {n k : PN} {rs : List PN} (hp : X.ps.Perm (n :: rs)) (hk : k ∈ X.ps) {s : BA} (hg : T.kid n.f.path s = some k.f) : ∃ rs', rs.Perm (k :: rs') := by
  obtain ⟨h1, h2, h3, _⟩ := (kid_some hi).1 hg
  obtain ⟨rk, hrk⟩ := hi.rank
  rcases List.mem_cons.1 (hp.mem_iff.1 hk) with rfl | hr
  · have := hrk _ h1 h2
    rw [h3] at this; omega
  · exact split_perm hr
theorem parent_root (hi : Inv T) {n : Nd} (hn : n ∈ T.ns) (h0 : n.path = 0) : T.parent n = n := by
  unfold Tr.parent
  have h1 := (hi.rootD n hn h0).2
  have : T.get n.up = some n := hi.get.2 ⟨hn, by rw [h0, h1]⟩
  rw [this]; rfl
/-- A node's Qid is what is told of the file. -/
theorem qid_mn (n : PN) : (.agg #[i64 n.mn.kind, i64 n.mn.vers, i64 n.mn.path] : Value) = n.f.qid.V := rfl

theorem Walk_ok (h : Tie D X T β) (hi : Inv T) {user name : BA} {file : Int} (hns : name.size ≤ 9223372036854775807) (hpool : Pool D ∈ l) (E : Hs w0 F w (trA X :: l)) :
    Ca PP Fn.tree_Tree_Walk #[ptr X.t, str user, i64 file, str name] w fun r w' => r = .tuple #[(T.walk user file name).1.V, i64 (T.walk user file name).2] ∧ Hs w0 F w' (trA X :: l) := by
  refine S.tree_Tree_Walk.calls ?_
  unfold S.tree_Tree_Walk
  (repeat first | (with_reducible first | refine Stp.go ?_ | refine StpE.go E ?_ | (refine StpW.go E ?_; clear E; intro w_ E) | (refine StpA.go E ?_; clear E; intro b_ w_ hb_ E) | refine Ld.pt E (by (repeat (first | assumption | with_reducible exact List.mem_cons_self | refine List.mem_cons_of_mem _ ?_))) rfl ?_ | (apply LdA.pt E; (focus ((repeat (first | assumption | with_reducible exact List.mem_cons_self | refine List.mem_cons_of_mem _ ?_)); done)); (focus (simp only [Nat.reduceAdd, Nat.zero_add, List.drop_succ_cons, List.drop_zero, List.take_succ_cons, List.take_zero, List.take_nil, List.drop_nil]; exact rfl)); (focus exact rfl)) | (apply hJ25; intro u_) | refine LnL.nil ?_) | ((with_reducible refine Bi.dec true ?_ ?_); focus exact rfl) | ((with_reducible refine Bi.dec false ?_ ?_); focus exact rfl) | ((with_reducible refine Bi.sdec true ?_ ?_); focus decide) | ((with_reducible refine Bi.sdec false ?_ ?_); focus decide))
  (revert b_; intro q hbq E)
  (replace E := ((E.bIx 0).bIx 1))
  refine (folder_ok h hi E).mono ?_
  clear E
  rintro r w_ ⟨E, ⟨hg, rfl⟩ | ⟨n, rs, hpm, hn, hpath, hg, ⟨hdir, rfl⟩ | ⟨hdir, rfl⟩⟩⟩
  · (repeat first | (with_reducible first | refine Stp.go ?_ | refine StpE.go E ?_ | (refine StpW.go E ?_; clear E; intro w_ E) | (refine StpA.go E ?_; clear E; intro b_ w_ hb_ E) | refine Ld.pt E (by (repeat (first | assumption | with_reducible exact List.mem_cons_self | refine List.mem_cons_of_mem _ ?_))) rfl ?_ | (apply LdA.pt E; (focus ((repeat (first | assumption | with_reducible exact List.mem_cons_self | refine List.mem_cons_of_mem _ ?_)); done)); (focus (simp only [Nat.reduceAdd, Nat.zero_add, List.drop_succ_cons, List.drop_zero, List.take_succ_cons, List.take_zero, List.take_nil, List.drop_nil]; exact rfl)); (focus exact rfl)) | (apply hJ25; intro u_) | refine LnL.nil ?_) | ((with_reducible refine Bi.dec true ?_ ?_); focus exact rfl) | ((with_reducible refine Bi.dec false ?_ ?_); focus exact rfl) | ((with_reducible refine Bi.sdec true ?_ ?_); focus decide) | ((with_reducible refine Bi.sdec false ?_ ?_); focus decide))
    have e : T.walk user file name = (q0, 4) := by unfold Tr.walk; simp only [hg]
    rw [e]
    exact ⟨rfl, (E.bIx 1).tl⟩
  · (repeat first | (with_reducible first | refine Stp.go ?_ | refine StpE.go E ?_ | (refine StpW.go E ?_; clear E; intro w_ E) | (refine StpA.go E ?_; clear E; intro b_ w_ hb_ E) | refine Ld.pt E (by (repeat (first | assumption | with_reducible exact List.mem_cons_self | refine List.mem_cons_of_mem _ ?_))) rfl ?_ | (apply LdA.pt E; (focus ((repeat (first | assumption | with_reducible exact List.mem_cons_self | refine List.mem_cons_of_mem _ ?_)); done)); (focus (simp only [Nat.reduceAdd, Nat.zero_add, List.drop_succ_cons, List.drop_zero, List.take_succ_cons, List.take_zero, List.take_nil, List.drop_nil]; exact rfl)); (focus exact rfl)) | (apply hJ25; intro u_) | refine LnL.nil ?_) | ((with_reducible refine Bi.dec true ?_ ?_); focus exact rfl) | ((with_reducible refine Bi.dec false ?_ ?_); focus exact rfl) | ((with_reducible refine Bi.sdec true ?_ ?_); focus decide) | ((with_reducible refine Bi.sdec false ?_ ?_); focus decide))
    have e : T.walk user file name = (q0, 18) := by unfold Tr.walk; simp only [hg]; rw [if_pos (by rw [hdir]; rfl)]
    rw [e]
    exact ⟨rfl, (E.bIx 1).tl⟩
  have hdn : ¬ (!n.f.dir) = true := by rw [hdir]; simp
  subst hpath
  (repeat first | (with_reducible first | refine Stp.go ?_ | refine StpE.go E ?_ | (refine StpW.go E ?_; clear E; intro w_ E) | (refine StpA.go E ?_; clear E; intro b_ w_ hb_ E) | refine Ld.pt E (by (repeat (first | assumption | with_reducible exact List.mem_cons_self | refine List.mem_cons_of_mem _ ?_))) rfl ?_ | (apply LdA.pt E; (focus ((repeat (first | assumption | with_reducible exact List.mem_cons_self | refine List.mem_cons_of_mem _ ?_)); done)); (focus (simp only [Nat.reduceAdd, Nat.zero_add, List.drop_succ_cons, List.drop_zero, List.take_succ_cons, List.take_zero, List.take_nil, List.drop_nil]; exact rfl)); (focus exact rfl)) | (apply hJ25; intro u_) | refine LnL.nil ?_) | ((with_reducible refine Bi.dec true ?_ ?_); focus exact rfl) | ((with_reducible refine Bi.dec false ?_ ?_); focus exact rfl) | ((with_reducible refine Bi.sdec true ?_ ?_); focus decide) | ((with_reducible refine Bi.sdec false ?_ ?_); focus decide))
  replace E := Hs.openTN hpm E
  have keep : ∀ w, Hs w0 F w (tb X :: mp X.fm (.int .i64) X.fM :: mp X.gm .str X.gM :: mp X.om (.int .i64) X.oM :: nd n.blk n.mn :: KM n :: NT rs :: DT X.ds :: qd0 q :: l) → Hs w0 F w (trA X :: l) := fun w E => ((Hs.closeTN X n hpm E).bIx 1).tl
  have keepQ : ∀ w (a : Qd), Hs w0 F w (tb X :: mp X.fm (.int .i64) X.fM :: mp X.gm .str X.gM :: mp X.om (.int .i64) X.oM :: nd n.blk n.mn :: KM n :: NT rs :: DT X.ds :: pt q (oc a.cs Ty.api_Qid) :: l) → Hs w0 F w (trA X :: l) := fun w a E => ((Hs.closeTN X n hpm E).bIx 1).tl
  refine (may_ok (m := n.mn) (D := D) (by simp [hpool]) h.gs E).mono ?_
  clear E
  rintro r w_ ⟨rfl, E⟩
  have hmay : permF n.mn.mode (decide (user = n.mn.owner)) (memberG T.gs user n.mn.group) 1 = T.may user n.f 1 := rfl
  rw [hmay]
  cases hm : T.may user n.f 1 with
  | false =>
    (repeat first | (with_reducible first | refine Stp.go ?_ | refine StpE.go E ?_ | (refine StpW.go E ?_; clear E; intro w_ E) | (refine StpA.go E ?_; clear E; intro b_ w_ hb_ E) | refine Ld.pt E (by (repeat (first | assumption | with_reducible exact List.mem_cons_self | refine List.mem_cons_of_mem _ ?_))) rfl ?_ | (apply LdA.pt E; (focus ((repeat (first | assumption | with_reducible exact List.mem_cons_self | refine List.mem_cons_of_mem _ ?_)); done)); (focus (simp only [Nat.reduceAdd, Nat.zero_add, List.drop_succ_cons, List.drop_zero, List.take_succ_cons, List.take_zero, List.take_nil, List.drop_nil]; exact rfl)); (focus exact rfl)) | (apply hJ25; intro u_) | refine LnL.nil ?_) | ((with_reducible refine Bi.dec true ?_ ?_); focus exact rfl) | ((with_reducible refine Bi.dec false ?_ ?_); focus exact rfl) | ((with_reducible refine Bi.sdec true ?_ ?_); focus decide) | ((with_reducible refine Bi.sdec false ?_ ?_); focus decide))
    have e : T.walk user n.f.path name = (q0, 17) := by unfold Tr.walk; simp only [hg, if_neg hdn, hm, Bool.not_false, if_true]
    rw [e]
    exact ⟨rfl, keep _ E⟩
  | true =>
    have hmn : ¬ (!T.may user n.f 1) = true := by rw [hm]; simp
    (repeat first | (with_reducible first | refine Stp.go ?_ | refine StpE.go E ?_ | (refine StpW.go E ?_; clear E; intro w_ E) | (refine StpA.go E ?_; clear E; intro b_ w_ hb_ E) | refine Ld.pt E (by (repeat (first | assumption | with_reducible exact List.mem_cons_self | refine List.mem_cons_of_mem _ ?_))) rfl ?_ | (apply LdA.pt E; (focus ((repeat (first | assumption | with_reducible exact List.mem_cons_self | refine List.mem_cons_of_mem _ ?_)); done)); (focus (simp only [Nat.reduceAdd, Nat.zero_add, List.drop_succ_cons, List.drop_zero, List.take_succ_cons, List.take_zero, List.take_nil, List.drop_nil]; exact rfl)); (focus exact rfl)) | (apply hJ25; intro u_) | refine LnL.nil ?_) | ((with_reducible refine Bi.dec true ?_ ?_); focus exact rfl) | ((with_reducible refine Bi.dec false ?_ ?_); focus exact rfl) | ((with_reducible refine Bi.sdec true ?_ ?_); focus decide) | ((with_reducible refine Bi.sdec false ?_ ?_); focus decide))
    refine Bi.seql ?_ ?_ <;> intro c1 <;> (repeat first | (with_reducible first | refine Stp.go ?_ | refine StpE.go E ?_ | (refine StpW.go E ?_; clear E; intro w_ E) | (refine StpA.go E ?_; clear E; intro b_ w_ hb_ E) | refine Ld.pt E (by (repeat (first | assumption | with_reducible exact List.mem_cons_self | refine List.mem_cons_of_mem _ ?_))) rfl ?_ | (apply LdA.pt E; (focus ((repeat (first | assumption | with_reducible exact List.mem_cons_self | refine List.mem_cons_of_mem _ ?_)); done)); (focus (simp only [Nat.reduceAdd, Nat.zero_add, List.drop_succ_cons, List.drop_zero, List.take_succ_cons, List.take_zero, List.take_nil, List.drop_nil]; exact rfl)); (focus exact rfl)) | (apply hJ25; intro u_) | refine LnL.nil ?_) | ((with_reducible refine Bi.dec true ?_ ?_); focus exact rfl) | ((with_reducible refine Bi.dec false ?_ ?_); focus exact rfl) | ((with_reducible refine Bi.sdec true ?_ ?_); focus decide) | ((with_reducible refine Bi.sdec false ?_ ?_); focus decide))
    · have e : T.walk user n.f.path name = (n.f.qid, 0) := by unfold Tr.walk; simp only [hg, if_neg hdn, if_neg hmn, if_pos c1]
      rw [e]
      exact ⟨rfl, keepQ _ n.f.qid E⟩
    refine Bi.seql ?_ ?_ <;> intro c2 <;> (repeat first | (with_reducible first | refine Stp.go ?_ | refine StpE.go E ?_ | (refine StpW.go E ?_; clear E; intro w_ E) | (refine StpA.go E ?_; clear E; intro b_ w_ hb_ E) | refine Ld.pt E (by (repeat (first | assumption | with_reducible exact List.mem_cons_self | refine List.mem_cons_of_mem _ ?_))) rfl ?_ | (apply LdA.pt E; (focus ((repeat (first | assumption | with_reducible exact List.mem_cons_self | refine List.mem_cons_of_mem _ ?_)); done)); (focus (simp only [Nat.reduceAdd, Nat.zero_add, List.drop_succ_cons, List.drop_zero, List.take_succ_cons, List.take_zero, List.take_nil, List.drop_nil]; exact rfl)); (focus exact rfl)) | (apply hJ25; intro u_) | refine LnL.nil ?_) | ((with_reducible refine Bi.dec true ?_ ?_); focus exact rfl) | ((with_reducible refine Bi.dec false ?_ ?_); focus exact rfl) | ((with_reducible refine Bi.sdec true ?_ ?_); focus decide) | ((with_reducible refine Bi.sdec false ?_ ?_); focus decide))
    · have e : T.walk user n.f.path name = ((T.parent n.f).qid, 0) := by unfold Tr.walk; simp only [hg, if_neg hdn, if_neg hmn, if_neg c1, if_pos c2]
      rw [e]
      (intro J25 hJ25)
      (repeat first | (with_reducible first | refine Stp.go ?_ | refine StpE.go E ?_ | (refine StpW.go E ?_; clear E; intro w_ E) | (refine StpA.go E ?_; clear E; intro b_ w_ hb_ E) | refine Ld.pt E (by (repeat (first | assumption | with_reducible exact List.mem_cons_self | refine List.mem_cons_of_mem _ ?_))) rfl ?_ | (apply LdA.pt E; (focus ((repeat (first | assumption | with_reducible exact List.mem_cons_self | refine List.mem_cons_of_mem _ ?_)); done)); (focus (simp only [Nat.reduceAdd, Nat.zero_add, List.drop_succ_cons, List.drop_zero, List.take_succ_cons, List.take_zero, List.take_nil, List.drop_nil]; exact rfl)); (focus exact rfl)) | (apply hJ25; intro u_) | refine LnL.nil ?_) | ((with_reducible refine Bi.dec true ?_ ?_); focus exact rfl) | ((with_reducible refine Bi.dec false ?_ ?_); focus exact rfl) | ((with_reducible refine Bi.sdec true ?_ ?_); focus decide) | ((with_reducible refine Bi.sdec false ?_ ?_); focus decide))
      by_cases h0 : n.f.path = 0
      · have hub : n.mn.up = none := (h.ub n hn).1 h0
        rw [hub]
        simp only [Option.map_none]
        refine Eq.nf u_p_node rfl ?_
        (repeat first | (with_reducible first | refine Stp.go ?_ | refine StpE.go E ?_ | (refine StpW.go E ?_; clear E; intro w_ E) | (refine StpA.go E ?_; clear E; intro b_ w_ hb_ E) | refine Ld.pt E (by (repeat (first | assumption | with_reducible exact List.mem_cons_self | refine List.mem_cons_of_mem _ ?_))) rfl ?_ | (apply LdA.pt E; (focus ((repeat (first | assumption | with_reducible exact List.mem_cons_self | refine List.mem_cons_of_mem _ ?_)); done)); (focus (simp only [Nat.reduceAdd, Nat.zero_add, List.drop_succ_cons, List.drop_zero, List.take_succ_cons, List.take_zero, List.take_nil, List.drop_nil]; exact rfl)); (focus exact rfl)) | (apply hJ25; intro u_) | refine LnL.nil ?_) | ((with_reducible refine Bi.dec true ?_ ?_); focus exact rfl) | ((with_reducible refine Bi.dec false ?_ ?_); focus exact rfl) | ((with_reducible refine Bi.sdec true ?_ ?_); focus decide) | ((with_reducible refine Bi.sdec false ?_ ?_); focus decide))
        rw [parent_root hi (h.mem.2 ⟨n, hn, rfl⟩) h0]
        exact ⟨rfl, keepQ _ n.f.qid E⟩
      · obtain ⟨u, rs', hp', hu, hub, h3, h4, h5, h6, h7⟩ := h.parent hi hpm h0
        have hub' : n.mn.up = some u.blk := hub
        rw [hub']
        simp only [Option.map_some]
        refine Eq.nt u_p_node rfl ?_
        (repeat first | (with_reducible first | refine Stp.go ?_ | refine StpE.go E ?_ | (refine StpW.go E ?_; clear E; intro w_ E) | (refine StpA.go E ?_; clear E; intro b_ w_ hb_ E) | refine Ld.pt E (by (repeat (first | assumption | with_reducible exact List.mem_cons_self | refine List.mem_cons_of_mem _ ?_))) rfl ?_ | (apply LdA.pt E; (focus ((repeat (first | assumption | with_reducible exact List.mem_cons_self | refine List.mem_cons_of_mem _ ?_)); done)); (focus (simp only [Nat.reduceAdd, Nat.zero_add, List.drop_succ_cons, List.drop_zero, List.take_succ_cons, List.take_zero, List.take_nil, List.drop_nil]; exact rfl)); (focus exact rfl)) | (apply hJ25; intro u_) | refine LnL.nil ?_) | ((with_reducible refine Bi.dec true ?_ ?_); focus exact rfl) | ((with_reducible refine Bi.dec false ?_ ?_); focus exact rfl) | ((with_reducible refine Bi.sdec true ?_ ?_); focus decide) | ((with_reducible refine Bi.sdec false ?_ ?_); focus decide))
        rw [hub']
        simp only [Option.map_some]
        replace E := Hs.openN (E.bIx 6) hp'
        (repeat first | (with_reducible first | refine Stp.go ?_ | refine StpE.go E ?_ | (refine StpW.go E ?_; clear E; intro w_ E) | (refine StpA.go E ?_; clear E; intro b_ w_ hb_ E) | refine Ld.pt E (by (repeat (first | assumption | with_reducible exact List.mem_cons_self | refine List.mem_cons_of_mem _ ?_))) rfl ?_ | (apply LdA.pt E; (focus ((repeat (first | assumption | with_reducible exact List.mem_cons_self | refine List.mem_cons_of_mem _ ?_)); done)); (focus (simp only [Nat.reduceAdd, Nat.zero_add, List.drop_succ_cons, List.drop_zero, List.take_succ_cons, List.take_zero, List.take_nil, List.drop_nil]; exact rfl)); (focus exact rfl)) | (apply hJ25; intro u_) | refine LnL.nil ?_) | ((with_reducible refine Bi.dec true ?_ ?_); focus exact rfl) | ((with_reducible refine Bi.dec false ?_ ?_); focus exact rfl) | ((with_reducible refine Bi.sdec true ?_ ?_); focus decide) | ((with_reducible refine Bi.sdec false ?_ ?_); focus decide))
        rw [h7]
        refine ⟨rfl, ?_⟩
        replace E := Hs.permN (Hs.closeN u E) hp'.symm
        (replace E := (((((((E.bIx 0).bIx 6).bIx 6).bIx 6).bIx 6).bIx 6).bIx 6))
        exact keepQ _ u.f.qid E
    refine (Valid_ok hns).mono ?_
    rintro r w' ⟨rfl, rfl⟩
    cases hgn : goodName name with
    | false =>
      (repeat first | (with_reducible first | refine Stp.go ?_ | refine StpE.go E ?_ | (refine StpW.go E ?_; clear E; intro w_ E) | (refine StpA.go E ?_; clear E; intro b_ w_ hb_ E) | refine Ld.pt E (by (repeat (first | assumption | with_reducible exact List.mem_cons_self | refine List.mem_cons_of_mem _ ?_))) rfl ?_ | (apply LdA.pt E; (focus ((repeat (first | assumption | with_reducible exact List.mem_cons_self | refine List.mem_cons_of_mem _ ?_)); done)); (focus (simp only [Nat.reduceAdd, Nat.zero_add, List.drop_succ_cons, List.drop_zero, List.take_succ_cons, List.take_zero, List.take_nil, List.drop_nil]; exact rfl)); (focus exact rfl)) | (apply hJ25; intro u_) | refine LnL.nil ?_) | ((with_reducible refine Bi.dec true ?_ ?_); focus exact rfl) | ((with_reducible refine Bi.dec false ?_ ?_); focus exact rfl) | ((with_reducible refine Bi.sdec true ?_ ?_); focus decide) | ((with_reducible refine Bi.sdec false ?_ ?_); focus decide))
      have e : T.walk user n.f.path name = (q0, 8) := by unfold Tr.walk; simp only [hg, if_neg hdn, if_neg hmn, if_neg c1, if_neg c2, hgn, Bool.not_false, if_true]
      rw [e]
      exact ⟨rfl, keep _ E⟩
    | true =>
      have hgn' : ¬ (!goodName name) = true := by rw [hgn]; simp
      (repeat first | (with_reducible first | refine Stp.go ?_ | refine StpE.go E ?_ | (refine StpW.go E ?_; clear E; intro w_ E) | (refine StpA.go E ?_; clear E; intro b_ w_ hb_ E) | refine Ld.pt E (by (repeat (first | assumption | with_reducible exact List.mem_cons_self | refine List.mem_cons_of_mem _ ?_))) rfl ?_ | (apply LdA.pt E; (focus ((repeat (first | assumption | with_reducible exact List.mem_cons_self | refine List.mem_cons_of_mem _ ?_)); done)); (focus (simp only [Nat.reduceAdd, Nat.zero_add, List.drop_succ_cons, List.drop_zero, List.take_succ_cons, List.take_zero, List.take_nil, List.drop_nil]; exact rfl)); (focus exact rfl)) | (apply hJ25; intro u_) | refine LnL.nil ?_) | ((with_reducible refine Bi.dec true ?_ ?_); focus exact rfl) | ((with_reducible refine Bi.dec false ?_ ?_); focus exact rfl) | ((with_reducible refine Bi.sdec true ?_ ?_); focus decide) | ((with_reducible refine Bi.sdec false ?_ ?_); focus decide))
      have hkb : n.mn.kids = some n.kb := if_pos hdir
      rw [hkb]
      replace E := Hs.openK hdir (E.bIx 5)
      refine Lk.ok E FMp.mem u_mkids k_str z_p_node rfl ?_
      rw [aget_enc keyS]
      rcases h.kid hi hn name with ⟨k1, k2⟩ | ⟨k, hk, k1, k2⟩
      · rw [k2]
        simp only [Option.map_none, Option.getD_none, Option.isSome_none]
        (repeat first | (with_reducible first | refine Stp.go ?_ | refine StpE.go E ?_ | (refine StpW.go E ?_; clear E; intro w_ E) | (refine StpA.go E ?_; clear E; intro b_ w_ hb_ E) | refine Ld.pt E (by (repeat (first | assumption | with_reducible exact List.mem_cons_self | refine List.mem_cons_of_mem _ ?_))) rfl ?_ | (apply LdA.pt E; (focus ((repeat (first | assumption | with_reducible exact List.mem_cons_self | refine List.mem_cons_of_mem _ ?_)); done)); (focus (simp only [Nat.reduceAdd, Nat.zero_add, List.drop_succ_cons, List.drop_zero, List.take_succ_cons, List.take_zero, List.take_nil, List.drop_nil]; exact rfl)); (focus exact rfl)) | (apply hJ25; intro u_) | refine LnL.nil ?_) | ((with_reducible refine Bi.dec true ?_ ?_); focus exact rfl) | ((with_reducible refine Bi.dec false ?_ ?_); focus exact rfl) | ((with_reducible refine Bi.sdec true ?_ ?_); focus decide) | ((with_reducible refine Bi.sdec false ?_ ?_); focus decide))
        have e : T.walk user n.f.path name = (q0, 4) := by unfold Tr.walk; simp only [hg, if_neg hdn, if_neg hmn, if_neg c1, if_neg c2, if_neg hgn', k1]
        rw [e]
        replace E := Hs.closeK hdir E
        (replace E := ((((((E.bIx 0).bIx 5).bIx 5).bIx 5).bIx 5).bIx 5))
        exact ⟨rfl, keep _ E⟩
      · rw [k2]
        simp only [Option.map_some, Option.getD_some, Option.isSome_some]
        (repeat with_reducible first | refine Stp.go ?_ | refine StpE.go E ?_ | (apply hJ25; intro u_))
        have e : T.walk user n.f.path name = (k.f.qid, 0) := by unfold Tr.walk; simp only [hg, if_neg hdn, if_neg hmn, if_neg c1, if_neg c2, if_neg hgn', k1]
        rw [e]
        obtain ⟨rs', hp'⟩ := h.kidR hi hpm hk k1
        replace E := Hs.openN (E.bIx 6) hp'
        (repeat first | (with_reducible first | refine Stp.go ?_ | refine StpE.go E ?_ | (refine StpW.go E ?_; clear E; intro w_ E) | (refine StpA.go E ?_; clear E; intro b_ w_ hb_ E) | refine Ld.pt E (by (repeat (first | assumption | with_reducible exact List.mem_cons_self | refine List.mem_cons_of_mem _ ?_))) rfl ?_ | (apply LdA.pt E; (focus ((repeat (first | assumption | with_reducible exact List.mem_cons_self | refine List.mem_cons_of_mem _ ?_)); done)); (focus (simp only [Nat.reduceAdd, Nat.zero_add, List.drop_succ_cons, List.drop_zero, List.take_succ_cons, List.take_zero, List.take_nil, List.drop_nil]; exact rfl)); (focus exact rfl)) | (apply hJ25; intro u_) | refine LnL.nil ?_) | ((with_reducible refine Bi.dec true ?_ ?_); focus exact rfl) | ((with_reducible refine Bi.dec false ?_ ?_); focus exact rfl) | ((with_reducible refine Bi.sdec true ?_ ?_); focus decide) | ((with_reducible refine Bi.sdec false ?_ ?_); focus decide))
        refine ⟨rfl, ?_⟩
        replace E := Hs.permN (Hs.closeN k E) hp'.symm
        (replace E := (((((((E.bIx 0).bIx 1).bIx 6).bIx 6).bIx 6).bIx 6).bIx 6))
        replace E := Hs.closeK hdir (E.bIx 5)
        (replace E := ((((((E.bIx 0).bIx 5).bIx 5).bIx 5).bIx 5).bIx 5))
        exact keepQ _ k.f.qid E
end Go.Proofs.YtnnhmahemklnkaaGreatDoor
