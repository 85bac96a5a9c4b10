/-
  Laws: the operations of a tree, as the laws do them (printed by gendo.py).
-/
import Derived.Test.YtnnhmahemklnkaaGreatDoorTo1
import Derived.Test.YtnnhmahemklnkaaGreatDoorSh21
import Derived.Test.YtnnhmahemklnkaaGreatDoorTq1
namespace Go.Proofs.YtnnhmahemklnkaaGreatDoor
open Go Go.Sh
set_option maxRecDepth 100000
set_option linter.unusedVariables false
set_option linter.unusedSimpArgs false
variable {w0 w : World} {F : Nat → Prop} {l : List As}
variable {D : List Row} {X : PT} {T : Tr} {β : Int → Nat}

/-- What an operation does to a tree, and what it answers. -/
def Tr.act (T : Tr) (x : Ac) : Tr × An :=
  if x.kind = 0 then (T, { qid := (T.walk x.user x.file x.name).1, errno := (T.walk x.user x.file x.name).2 }) else
  if x.kind = 1 then (T, { dir := (T.stat x.file).1, errno := (T.stat x.file).2 }) else
  if x.kind = 2 then ((T.wstat x.user x.file x.dir).1, { errno := (T.wstat x.user x.file x.dir).2 }) else
  if x.kind = 3 then ((T.openF x.user x.file x.mode).1, { handle := (T.openF x.user x.file x.mode).2.1, qid := (T.openF x.user x.file x.mode).2.2.1, errno := (T.openF x.user x.file x.mode).2.2.2 }) else
  if x.kind = 4 then ((T.create x.user x.file x.name x.perm x.mode).1, { handle := (T.create x.user x.file x.name x.perm x.mode).2.1, qid := (T.create x.user x.file x.name x.perm x.mode).2.2.1, errno := (T.create x.user x.file x.name x.perm x.mode).2.2.2 }) else
  if x.kind = 5 then (T, { text := (T.read x.handle x.offset x.count).1, errno := (T.read x.handle x.offset x.count).2 }) else
  if x.kind = 6 then (T, { dirs := (T.list x.handle).1, errno := (T.list x.handle).2 }) else
  if x.kind = 7 then ((T.write x.handle x.offset x.data).1, { handle := (T.write x.handle x.offset x.data).2.1, errno := (T.write x.handle x.offset x.data).2.2 }) else
  if x.kind = 8 then ((T.close x.handle).1, { errno := (T.close x.handle).2 }) else
  if x.kind = 9 then ((T.remove x.user x.file).1, { errno := (T.remove x.user x.file).2 }) else
  if x.kind = 10 then (T, { qid := (T.find x.name).1, errno := (T.find x.name).2 }) else
  if x.kind = 11 then (T, { text := (T.pathOf x.file).1, errno := (T.pathOf x.file).2 }) else
  (T, {})
theorem act_inv (hi : Inv T) (x : Ac) : Inv (T.act x).1 := by
  unfold Tr.act
  by_cases c0 : x.kind = 0
  · rw [if_pos c0]; exact hi
  rw [if_neg c0]
  by_cases c1 : x.kind = 1
  · rw [if_pos c1]; exact hi
  rw [if_neg c1]
  by_cases c2 : x.kind = 2
  · rw [if_pos c2]; exact wstat_inv hi _ _ _
  rw [if_neg c2]
  by_cases c3 : x.kind = 3
  · rw [if_pos c3]; exact open_inv hi _ _ _
  rw [if_neg c3]
  by_cases c4 : x.kind = 4
  · rw [if_pos c4]; exact create_inv hi _ _ _ _ _
  rw [if_neg c4]
  by_cases c5 : x.kind = 5
  · rw [if_pos c5]; exact hi
  rw [if_neg c5]
  by_cases c6 : x.kind = 6
  · rw [if_pos c6]; exact hi
  rw [if_neg c6]
  by_cases c7 : x.kind = 7
  · rw [if_pos c7]; exact write_inv hi _ _ _
  rw [if_neg c7]
  by_cases c8 : x.kind = 8
  · rw [if_pos c8]; exact close_inv hi _
  rw [if_neg c8]
  by_cases c9 : x.kind = 9
  · rw [if_pos c9]; exact remove_inv hi _ _
  rw [if_neg c9]
  by_cases c10 : x.kind = 10
  · rw [if_pos c10]; exact hi
  rw [if_neg c10]
  by_cases c11 : x.kind = 11
  · rw [if_pos c11]; exact hi
  rw [if_neg c11]
  exact hi
theorem act_lim {N : Int} (h0 : 0 ≤ N) (hl : Lim N T) (x : Ac) : Lim (N + 3) (T.act x).1 := by
  have h3 := hl.mono (M := N + 3) (by omega)
  unfold Tr.act
  by_cases c0 : x.kind = 0
  · rw [if_pos c0]; exact h3
  rw [if_neg c0]
  by_cases c1 : x.kind = 1
  · rw [if_pos c1]; exact h3
  rw [if_neg c1]
  by_cases c2 : x.kind = 2
  · rw [if_pos c2]; exact wstat_lim hl _ _ _
  rw [if_neg c2]
  by_cases c3 : x.kind = 3
  · rw [if_pos c3]; exact open_lim hl _ _ _
  rw [if_neg c3]
  by_cases c4 : x.kind = 4
  · rw [if_pos c4]; exact create_lim hl h0 _ _ _ _ _
  rw [if_neg c4]
  by_cases c5 : x.kind = 5
  · rw [if_pos c5]; exact h3
  rw [if_neg c5]
  by_cases c6 : x.kind = 6
  · rw [if_pos c6]; exact h3
  rw [if_neg c6]
  by_cases c7 : x.kind = 7
  · rw [if_pos c7]; exact write_lim hl _ _ _
  rw [if_neg c7]
  by_cases c8 : x.kind = 8
  · rw [if_pos c8]; exact close_lim hl _
  rw [if_neg c8]
  by_cases c9 : x.kind = 9
  · rw [if_pos c9]; exact remove_lim hl _ _
  rw [if_neg c9]
  by_cases c10 : x.kind = 10
  · rw [if_pos c10]; exact h3
  rw [if_neg c10]
  by_cases c11 : x.kind = 11
  · rw [if_pos c11]; exact h3
  rw [if_neg c11]
  exact h3
abbrev aEV : An := {}
theorem Do_ok (h : Tie D X T β) (hi : Inv T) {N : Int} (hN : N < 4611686018427387904) (hlim : Lim N T) {x : Ac} (hx : x.Ok) (E : Hs w0 F w (trA X :: Pool D :: l)) :
    Ca PP Fn.law28_Do #[ptr X.t, x.V] w fun r w' => ∃ dv, r = (T.act x).2.V dv ∧ Goes w0 F (slA dv Ty.api_Dir 10 (dcs (T.act x).2.dirs) :: l) D X (T.act x).1 w' := by
  refine S.law28_Do.calls ?_
  unfold S.law28_Do
  refine StpA.go E ?_
  clear E
  intro q w_ h1 E
  refine StpA.go E ?_
  clear E
  intro b w_ h2 E
  (repeat first | (with_reducible first | refine Stp.go ?_ | refine StpE.go E ?_ | (refine StpW.go E ?_; clear E; intro w_ E) | (refine StpA.go E ?_; clear E; intro b_ w_ hb_ E) | (apply hJ9; intro u_) | refine LnL.nil ?_) | ((with_reducible refine Bi.dec true ?_ ?_); focus exact rfl) | ((with_reducible refine Bi.dec false ?_ ?_); focus exact rfl) | ((with_reducible refine Bi.sdec true ?_ ?_); focus decide) | ((with_reducible refine Bi.sdec false ?_ ?_); focus decide))
  (revert b_; intro c hbc E)
  (first | (refine StA.all E rfl rfl (by first | exact rfl | assumption) ?_; clear E; intro w_ E) | try (refine StA.by E rfl (by first | exact rfl | assumption) ?_; clear E; intro w_ E))
  (intro J9 hJ9)
  have fin : ∀ a dv w_ D' X' β', a = (T.act x).2 → (∀ x ∈ D, x ∈ D') → X'.t = X.t → Tie D' X' (T.act x).1 β' → Hs w0 F w_ (slA dv Ty.api_Dir 10 (dcs a.dirs) :: trA X' :: Pool D' :: pt c (oc (a.C dv) Ty.law28_Answer) :: pt b (oc (aEV.C (.slice none 0 0)) Ty.law28_Answer) :: pt q (oc x.C Ty.law28_Act) :: l) → J9 [] w_ := by
    intro a dv w_ D' X' β' ha hD ht hT E
    (repeat first | (with_reducible first | refine Stp.go ?_ | refine StpE.go E ?_ | (refine StpW.go E ?_; clear E; intro w_ E) | (refine StpA.go E ?_; clear E; intro b_ w_ hb_ E) | (apply hJ9; intro u_) | refine LnL.nil ?_) | ((with_reducible refine Bi.dec true ?_ ?_); focus exact rfl) | ((with_reducible refine Bi.dec false ?_ ?_); focus exact rfl) | ((with_reducible refine Bi.sdec true ?_ ?_); focus decide) | ((with_reducible refine Bi.sdec false ?_ ?_); focus decide))
    (replace E := (((E.bIx 5).bIx 5).bIx 5))
    have hsv : scalV dv = true := Hs.slScal E (T := Ty.api_Dir) (sz := 10) (xs := dcs a.dirs) (by simp)
    have hsv2 : (a.C dv).all scalV = true := by
      show (true && (true && (true && (true && (true && (true && (true && (true && (true && (true && (true && (true && (true && (true && (true && (scalV dv && (true && true))))))))))))))))) = true
      rw [hsv]; rfl
    refine StA.all (vs := a.C dv) E rfl rfl hsv2 ?_
    clear E
    intro w_ E
    (repeat first | (with_reducible first | refine Stp.go ?_ | refine StpE.go E ?_ | (refine StpW.go E ?_; clear E; intro w_ E) | (refine StpA.go E ?_; clear E; intro b_ w_ hb_ E) | (apply hJ9; intro u_) | refine LnL.nil ?_) | ((with_reducible refine Bi.dec true ?_ ?_); focus exact rfl) | ((with_reducible refine Bi.dec false ?_ ?_); focus exact rfl) | ((with_reducible refine Bi.sdec true ?_ ?_); focus decide) | ((with_reducible refine Bi.sdec false ?_ ?_); focus decide))
    rw [← ha]
    refine ⟨_, rfl, D', X', β', hD, ht, hT, ?_⟩
    (replace E := ((((E.bSl dv).bPt q).bPt c).bPt b))
    replace E := E.drop (List.sublist_append_right [_, _, _] (_ :: _ :: _ :: l))
    (replace E := (((E.bIx 0).bIx 2).bIx 2))
    exact E
  clear hJ9
  (repeat first | (with_reducible first | refine Stp.go ?_ | refine StpE.go E ?_ | (refine StpW.go E ?_; clear E; intro w_ E) | (refine StpA.go E ?_; clear E; intro b_ w_ hb_ E) | (apply hJ9; intro u_) | refine LnL.nil ?_) | ((with_reducible refine Bi.dec true ?_ ?_); focus exact rfl) | ((with_reducible refine Bi.dec false ?_ ?_); focus exact rfl) | ((with_reducible refine Bi.sdec true ?_ ?_); focus decide) | ((with_reducible refine Bi.sdec false ?_ ?_); focus decide))
  (replace E := ((E.bIx 4).bIx 4))
  refine Bi.eql ?_ ?_ <;> intro c0 <;> (repeat first | (with_reducible first | refine Stp.go ?_ | refine StpE.go E ?_ | (refine StpW.go E ?_; clear E; intro w_ E) | (refine StpA.go E ?_; clear E; intro b_ w_ hb_ E) | (apply hJ9; intro u_) | refine LnL.nil ?_) | ((with_reducible refine Bi.dec true ?_ ?_); focus exact rfl) | ((with_reducible refine Bi.dec false ?_ ?_); focus exact rfl) | ((with_reducible refine Bi.sdec true ?_ ?_); focus decide) | ((with_reducible refine Bi.sdec false ?_ ?_); focus decide))
  · have e : T.act x = (T, { qid := (T.walk x.user x.file x.name).1, errno := (T.walk x.user x.file x.name).2 }) := by unfold Tr.act; rw [ if_pos c0]
    rw [e] at fin
    refine (Walk_ok (user := x.user) (file := x.file) (name := x.name) h hi hx.name (by simp) E).mono ?_
    clear E
    rintro r w_ ⟨rfl, E⟩
    (repeat first | (with_reducible first | refine Stp.go ?_ | refine StpE.go E ?_ | (refine StpW.go E ?_; clear E; intro w_ E) | (refine StpA.go E ?_; clear E; intro b_ w_ hb_ E) | (apply hJ9; intro u_) | refine LnL.nil ?_) | ((with_reducible refine Bi.dec true ?_ ?_); focus exact rfl) | ((with_reducible refine Bi.dec false ?_ ?_); focus exact rfl) | ((with_reducible refine Bi.sdec true ?_ ?_); focus decide) | ((with_reducible refine Bi.sdec false ?_ ?_); focus decide))
    exact fin _ _ _ D X β rfl (fun _ h => h) rfl h (E.nilSl Ty.api_Dir 10)
  refine Bi.eql ?_ ?_ <;> intro c1 <;> (repeat first | (with_reducible first | refine Stp.go ?_ | refine StpE.go E ?_ | (refine StpW.go E ?_; clear E; intro w_ E) | (refine StpA.go E ?_; clear E; intro b_ w_ hb_ E) | (apply hJ9; intro u_) | refine LnL.nil ?_) | ((with_reducible refine Bi.dec true ?_ ?_); focus exact rfl) | ((with_reducible refine Bi.dec false ?_ ?_); focus exact rfl) | ((with_reducible refine Bi.sdec true ?_ ?_); focus decide) | ((with_reducible refine Bi.sdec false ?_ ?_); focus decide))
  · have e : T.act x = (T, { dir := (T.stat x.file).1, errno := (T.stat x.file).2 }) := by unfold Tr.act; rw [if_neg c0, if_pos c1]
    rw [e] at fin
    refine (Stat_ok (user := x.user) (file := x.file) h hi (by simp) E).mono ?_
    clear E
    rintro r w_ ⟨rfl, E⟩
    (repeat first | (with_reducible first | refine Stp.go ?_ | refine StpE.go E ?_ | (refine StpW.go E ?_; clear E; intro w_ E) | (refine StpA.go E ?_; clear E; intro b_ w_ hb_ E) | (apply hJ9; intro u_) | refine LnL.nil ?_) | ((with_reducible refine Bi.dec true ?_ ?_); focus exact rfl) | ((with_reducible refine Bi.dec false ?_ ?_); focus exact rfl) | ((with_reducible refine Bi.sdec true ?_ ?_); focus decide) | ((with_reducible refine Bi.sdec false ?_ ?_); focus decide))
    refine St.ten E rfl ?_
    clear E
    intro w_ E
    (repeat first | (with_reducible first | refine Stp.go ?_ | refine StpE.go E ?_ | (refine StpW.go E ?_; clear E; intro w_ E) | (refine StpA.go E ?_; clear E; intro b_ w_ hb_ E) | (apply hJ9; intro u_) | refine LnL.nil ?_) | ((with_reducible refine Bi.dec true ?_ ?_); focus exact rfl) | ((with_reducible refine Bi.dec false ?_ ?_); focus exact rfl) | ((with_reducible refine Bi.sdec true ?_ ?_); focus decide) | ((with_reducible refine Bi.sdec false ?_ ?_); focus decide))
    exact fin _ _ _ D X β rfl (fun _ h => h) rfl h (E.nilSl Ty.api_Dir 10)
  refine Bi.eql ?_ ?_ <;> intro c2 <;> (repeat first | (with_reducible first | refine Stp.go ?_ | refine StpE.go E ?_ | (refine StpW.go E ?_; clear E; intro w_ E) | (refine StpA.go E ?_; clear E; intro b_ w_ hb_ E) | (apply hJ9; intro u_) | refine LnL.nil ?_) | ((with_reducible refine Bi.dec true ?_ ?_); focus exact rfl) | ((with_reducible refine Bi.dec false ?_ ?_); focus exact rfl) | ((with_reducible refine Bi.sdec true ?_ ?_); focus decide) | ((with_reducible refine Bi.sdec false ?_ ?_); focus decide))
  · have e : T.act x = ((T.wstat x.user x.file x.dir).1, { errno := (T.wstat x.user x.file x.dir).2 }) := by unfold Tr.act; rw [if_neg c0, if_neg c1, if_pos c2]
    rw [e] at fin
    refine (Wstat_ok (user := x.user) (file := x.file) (d := x.dir) h hi hN hlim hx.dname hx.dgroup E).mono ?_
    clear E
    rintro r w_ ⟨rfl, D', X', β', hD, ht, hT, E⟩
    (repeat first | (with_reducible first | refine Stp.go ?_ | refine StpE.go E ?_ | (refine StpW.go E ?_; clear E; intro w_ E) | (refine StpA.go E ?_; clear E; intro b_ w_ hb_ E) | (apply hJ9; intro u_) | refine LnL.nil ?_) | ((with_reducible refine Bi.dec true ?_ ?_); focus exact rfl) | ((with_reducible refine Bi.dec false ?_ ?_); focus exact rfl) | ((with_reducible refine Bi.sdec true ?_ ?_); focus decide) | ((with_reducible refine Bi.sdec false ?_ ?_); focus decide))
    exact fin _ _ _ D' X' β' rfl hD ht hT (E.nilSl Ty.api_Dir 10)
  refine Bi.eql ?_ ?_ <;> intro c3 <;> (repeat first | (with_reducible first | refine Stp.go ?_ | refine StpE.go E ?_ | (refine StpW.go E ?_; clear E; intro w_ E) | (refine StpA.go E ?_; clear E; intro b_ w_ hb_ E) | (apply hJ9; intro u_) | refine LnL.nil ?_) | ((with_reducible refine Bi.dec true ?_ ?_); focus exact rfl) | ((with_reducible refine Bi.dec false ?_ ?_); focus exact rfl) | ((with_reducible refine Bi.sdec true ?_ ?_); focus decide) | ((with_reducible refine Bi.sdec false ?_ ?_); focus decide))
  · have e : T.act x = ((T.openF x.user x.file x.mode).1, { handle := (T.openF x.user x.file x.mode).2.1, qid := (T.openF x.user x.file x.mode).2.2.1, errno := (T.openF x.user x.file x.mode).2.2.2 }) := by unfold Tr.act; rw [if_neg c0, if_neg c1, if_neg c2, if_pos c3]
    rw [e] at fin
    refine (Open_ok (user := x.user) (file := x.file) (mode := x.mode) h hi hN hlim E).mono ?_
    clear E
    rintro r w_ ⟨rfl, D', X', β', hD, ht, hT, E⟩
    (repeat first | (with_reducible first | refine Stp.go ?_ | refine StpE.go E ?_ | (refine StpW.go E ?_; clear E; intro w_ E) | (refine StpA.go E ?_; clear E; intro b_ w_ hb_ E) | (apply hJ9; intro u_) | refine LnL.nil ?_) | ((with_reducible refine Bi.dec true ?_ ?_); focus exact rfl) | ((with_reducible refine Bi.dec false ?_ ?_); focus exact rfl) | ((with_reducible refine Bi.sdec true ?_ ?_); focus decide) | ((with_reducible refine Bi.sdec false ?_ ?_); focus decide))
    exact fin _ _ _ D' X' β' rfl hD ht hT (E.nilSl Ty.api_Dir 10)
  refine Bi.eql ?_ ?_ <;> intro c4 <;> (repeat first | (with_reducible first | refine Stp.go ?_ | refine StpE.go E ?_ | (refine StpW.go E ?_; clear E; intro w_ E) | (refine StpA.go E ?_; clear E; intro b_ w_ hb_ E) | (apply hJ9; intro u_) | refine LnL.nil ?_) | ((with_reducible refine Bi.dec true ?_ ?_); focus exact rfl) | ((with_reducible refine Bi.dec false ?_ ?_); focus exact rfl) | ((with_reducible refine Bi.sdec true ?_ ?_); focus decide) | ((with_reducible refine Bi.sdec false ?_ ?_); focus decide))
  · have e : T.act x = ((T.create x.user x.file x.name x.perm x.mode).1, { handle := (T.create x.user x.file x.name x.perm x.mode).2.1, qid := (T.create x.user x.file x.name x.perm x.mode).2.2.1, errno := (T.create x.user x.file x.name x.perm x.mode).2.2.2 }) := by unfold Tr.act; rw [if_neg c0, if_neg c1, if_neg c2, if_neg c3, if_pos c4]
    rw [e] at fin
    refine (Create_ok (user := x.user) (dir := x.file) (name := x.name) (perm := x.perm) (mode := x.mode) h hi hN hlim hx.user hx.name E).mono ?_
    clear E
    rintro r w_ ⟨rfl, D', X', β', hD, ht, hT, E⟩
    (repeat first | (with_reducible first | refine Stp.go ?_ | refine StpE.go E ?_ | (refine StpW.go E ?_; clear E; intro w_ E) | (refine StpA.go E ?_; clear E; intro b_ w_ hb_ E) | (apply hJ9; intro u_) | refine LnL.nil ?_) | ((with_reducible refine Bi.dec true ?_ ?_); focus exact rfl) | ((with_reducible refine Bi.dec false ?_ ?_); focus exact rfl) | ((with_reducible refine Bi.sdec true ?_ ?_); focus decide) | ((with_reducible refine Bi.sdec false ?_ ?_); focus decide))
    exact fin _ _ _ D' X' β' rfl hD ht hT (E.nilSl Ty.api_Dir 10)
  refine Bi.eql ?_ ?_ <;> intro c5 <;> (repeat first | (with_reducible first | refine Stp.go ?_ | refine StpE.go E ?_ | (refine StpW.go E ?_; clear E; intro w_ E) | (refine StpA.go E ?_; clear E; intro b_ w_ hb_ E) | (apply hJ9; intro u_) | refine LnL.nil ?_) | ((with_reducible refine Bi.dec true ?_ ?_); focus exact rfl) | ((with_reducible refine Bi.dec false ?_ ?_); focus exact rfl) | ((with_reducible refine Bi.sdec true ?_ ?_); focus decide) | ((with_reducible refine Bi.sdec false ?_ ?_); focus decide))
  · have e : T.act x = (T, { text := (T.read x.handle x.offset x.count).1, errno := (T.read x.handle x.offset x.count).2 }) := by unfold Tr.act; rw [if_neg c0, if_neg c1, if_neg c2, if_neg c3, if_neg c4, if_pos c5]
    rw [e] at fin
    refine (Read_ok (hd := x.handle) (off := x.offset) (count := x.count) h hi (by simp) E).mono ?_
    clear E
    rintro r w_ ⟨rfl, E⟩
    (repeat first | (with_reducible first | refine Stp.go ?_ | refine StpE.go E ?_ | (refine StpW.go E ?_; clear E; intro w_ E) | (refine StpA.go E ?_; clear E; intro b_ w_ hb_ E) | (apply hJ9; intro u_) | refine LnL.nil ?_) | ((with_reducible refine Bi.dec true ?_ ?_); focus exact rfl) | ((with_reducible refine Bi.dec false ?_ ?_); focus exact rfl) | ((with_reducible refine Bi.sdec true ?_ ?_); focus decide) | ((with_reducible refine Bi.sdec false ?_ ?_); focus decide))
    exact fin _ _ _ D X β rfl (fun _ h => h) rfl h (E.nilSl Ty.api_Dir 10)
  refine Bi.eql ?_ ?_ <;> intro c6 <;> (repeat first | (with_reducible first | refine Stp.go ?_ | refine StpE.go E ?_ | (refine StpW.go E ?_; clear E; intro w_ E) | (refine StpA.go E ?_; clear E; intro b_ w_ hb_ E) | (apply hJ9; intro u_) | refine LnL.nil ?_) | ((with_reducible refine Bi.dec true ?_ ?_); focus exact rfl) | ((with_reducible refine Bi.dec false ?_ ?_); focus exact rfl) | ((with_reducible refine Bi.sdec true ?_ ?_); focus decide) | ((with_reducible refine Bi.sdec false ?_ ?_); focus decide))
  · have e : T.act x = (T, { dirs := (T.list x.handle).1, errno := (T.list x.handle).2 }) := by unfold Tr.act; rw [if_neg c0, if_neg c1, if_neg c2, if_neg c3, if_neg c4, if_neg c5, if_pos c6]
    rw [e] at fin
    refine (List_ok (hd := x.handle) h hi E).mono ?_
    clear E
    rintro r w_ ⟨v, rfl, E⟩
    (repeat first | (with_reducible first | refine Stp.go ?_ | refine StpE.go E ?_ | (refine StpW.go E ?_; clear E; intro w_ E) | (refine StpA.go E ?_; clear E; intro b_ w_ hb_ E) | (apply hJ9; intro u_) | refine LnL.nil ?_) | ((with_reducible refine Bi.dec true ?_ ?_); focus exact rfl) | ((with_reducible refine Bi.dec false ?_ ?_); focus exact rfl) | ((with_reducible refine Bi.sdec true ?_ ?_); focus decide) | ((with_reducible refine Bi.sdec false ?_ ?_); focus decide))
    exact fin _ _ _ D X β rfl (fun _ h => h) rfl h E
  refine Bi.eql ?_ ?_ <;> intro c7 <;> (repeat first | (with_reducible first | refine Stp.go ?_ | refine StpE.go E ?_ | (refine StpW.go E ?_; clear E; intro w_ E) | (refine StpA.go E ?_; clear E; intro b_ w_ hb_ E) | (apply hJ9; intro u_) | refine LnL.nil ?_) | ((with_reducible refine Bi.dec true ?_ ?_); focus exact rfl) | ((with_reducible refine Bi.dec false ?_ ?_); focus exact rfl) | ((with_reducible refine Bi.sdec true ?_ ?_); focus decide) | ((with_reducible refine Bi.sdec false ?_ ?_); focus decide))
  · have e : T.act x = ((T.write x.handle x.offset x.data).1, { handle := (T.write x.handle x.offset x.data).2.1, errno := (T.write x.handle x.offset x.data).2.2 }) := by unfold Tr.act; rw [if_neg c0, if_neg c1, if_neg c2, if_neg c3, if_neg c4, if_neg c5, if_neg c6, if_pos c7]
    rw [e] at fin
    refine (Write_ok (hd := x.handle) (off := x.offset) (d := x.data) h hi hN hlim E).mono ?_
    clear E
    rintro r w_ ⟨rfl, D', X', β', hD, ht, hT, E⟩
    (repeat first | (with_reducible first | refine Stp.go ?_ | refine StpE.go E ?_ | (refine StpW.go E ?_; clear E; intro w_ E) | (refine StpA.go E ?_; clear E; intro b_ w_ hb_ E) | (apply hJ9; intro u_) | refine LnL.nil ?_) | ((with_reducible refine Bi.dec true ?_ ?_); focus exact rfl) | ((with_reducible refine Bi.dec false ?_ ?_); focus exact rfl) | ((with_reducible refine Bi.sdec true ?_ ?_); focus decide) | ((with_reducible refine Bi.sdec false ?_ ?_); focus decide))
    exact fin _ _ _ D' X' β' rfl hD ht hT (E.nilSl Ty.api_Dir 10)
  refine Bi.eql ?_ ?_ <;> intro c8 <;> (repeat first | (with_reducible first | refine Stp.go ?_ | refine StpE.go E ?_ | (refine StpW.go E ?_; clear E; intro w_ E) | (refine StpA.go E ?_; clear E; intro b_ w_ hb_ E) | (apply hJ9; intro u_) | refine LnL.nil ?_) | ((with_reducible refine Bi.dec true ?_ ?_); focus exact rfl) | ((with_reducible refine Bi.dec false ?_ ?_); focus exact rfl) | ((with_reducible refine Bi.sdec true ?_ ?_); focus decide) | ((with_reducible refine Bi.sdec false ?_ ?_); focus decide))
  · have e : T.act x = ((T.close x.handle).1, { errno := (T.close x.handle).2 }) := by unfold Tr.act; rw [if_neg c0, if_neg c1, if_neg c2, if_neg c3, if_neg c4, if_neg c5, if_neg c6, if_neg c7, if_pos c8]
    rw [e] at fin
    refine (Close_ok (hd := x.handle) h hi hN hlim E).mono ?_
    clear E
    rintro r w_ ⟨rfl, D', X', β', hD, ht, hT, E⟩
    (repeat first | (with_reducible first | refine Stp.go ?_ | refine StpE.go E ?_ | (refine StpW.go E ?_; clear E; intro w_ E) | (refine StpA.go E ?_; clear E; intro b_ w_ hb_ E) | (apply hJ9; intro u_) | refine LnL.nil ?_) | ((with_reducible refine Bi.dec true ?_ ?_); focus exact rfl) | ((with_reducible refine Bi.dec false ?_ ?_); focus exact rfl) | ((with_reducible refine Bi.sdec true ?_ ?_); focus decide) | ((with_reducible refine Bi.sdec false ?_ ?_); focus decide))
    exact fin _ _ _ D' X' β' rfl hD ht hT (E.nilSl Ty.api_Dir 10)
  refine Bi.eql ?_ ?_ <;> intro c9 <;> (repeat first | (with_reducible first | refine Stp.go ?_ | refine StpE.go E ?_ | (refine StpW.go E ?_; clear E; intro w_ E) | (refine StpA.go E ?_; clear E; intro b_ w_ hb_ E) | (apply hJ9; intro u_) | refine LnL.nil ?_) | ((with_reducible refine Bi.dec true ?_ ?_); focus exact rfl) | ((with_reducible refine Bi.dec false ?_ ?_); focus exact rfl) | ((with_reducible refine Bi.sdec true ?_ ?_); focus decide) | ((with_reducible refine Bi.sdec false ?_ ?_); focus decide))
  · have e : T.act x = ((T.remove x.user x.file).1, { errno := (T.remove x.user x.file).2 }) := by unfold Tr.act; rw [if_neg c0, if_neg c1, if_neg c2, if_neg c3, if_neg c4, if_neg c5, if_neg c6, if_neg c7, if_neg c8, if_pos c9]
    rw [e] at fin
    refine (Remove_ok (user := x.user) (file := x.file) h hi hN hlim E).mono ?_
    clear E
    rintro r w_ ⟨rfl, D', X', β', hD, ht, hT, E⟩
    (repeat first | (with_reducible first | refine Stp.go ?_ | refine StpE.go E ?_ | (refine StpW.go E ?_; clear E; intro w_ E) | (refine StpA.go E ?_; clear E; intro b_ w_ hb_ E) | (apply hJ9; intro u_) | refine LnL.nil ?_) | ((with_reducible refine Bi.dec true ?_ ?_); focus exact rfl) | ((with_reducible refine Bi.dec false ?_ ?_); focus exact rfl) | ((with_reducible refine Bi.sdec true ?_ ?_); focus decide) | ((with_reducible refine Bi.sdec false ?_ ?_); focus decide))
    exact fin _ _ _ D' X' β' rfl hD ht hT (E.nilSl Ty.api_Dir 10)
  refine Bi.eql ?_ ?_ <;> intro c10 <;> (repeat first | (with_reducible first | refine Stp.go ?_ | refine StpE.go E ?_ | (refine StpW.go E ?_; clear E; intro w_ E) | (refine StpA.go E ?_; clear E; intro b_ w_ hb_ E) | (apply hJ9; intro u_) | refine LnL.nil ?_) | ((with_reducible refine Bi.dec true ?_ ?_); focus exact rfl) | ((with_reducible refine Bi.dec false ?_ ?_); focus exact rfl) | ((with_reducible refine Bi.sdec true ?_ ?_); focus decide) | ((with_reducible refine Bi.sdec false ?_ ?_); focus decide))
  · have e : T.act x = (T, { qid := (T.find x.name).1, errno := (T.find x.name).2 }) := by unfold Tr.act; rw [if_neg c0, if_neg c1, if_neg c2, if_neg c3, if_neg c4, if_neg c5, if_neg c6, if_neg c7, if_neg c8, if_neg c9, if_pos c10]
    rw [e] at fin
    refine (Find_ok (p := x.name) h hi E).mono ?_
    clear E
    rintro r w_ ⟨rfl, E⟩
    (repeat first | (with_reducible first | refine Stp.go ?_ | refine StpE.go E ?_ | (refine StpW.go E ?_; clear E; intro w_ E) | (refine StpA.go E ?_; clear E; intro b_ w_ hb_ E) | (apply hJ9; intro u_) | refine LnL.nil ?_) | ((with_reducible refine Bi.dec true ?_ ?_); focus exact rfl) | ((with_reducible refine Bi.dec false ?_ ?_); focus exact rfl) | ((with_reducible refine Bi.sdec true ?_ ?_); focus decide) | ((with_reducible refine Bi.sdec false ?_ ?_); focus decide))
    exact fin _ _ _ D X β rfl (fun _ h => h) rfl h (E.nilSl Ty.api_Dir 10)
  refine Bi.eql ?_ ?_ <;> intro c11 <;> (repeat first | (with_reducible first | refine Stp.go ?_ | refine StpE.go E ?_ | (refine StpW.go E ?_; clear E; intro w_ E) | (refine StpA.go E ?_; clear E; intro b_ w_ hb_ E) | (apply hJ9; intro u_) | refine LnL.nil ?_) | ((with_reducible refine Bi.dec true ?_ ?_); focus exact rfl) | ((with_reducible refine Bi.dec false ?_ ?_); focus exact rfl) | ((with_reducible refine Bi.sdec true ?_ ?_); focus decide) | ((with_reducible refine Bi.sdec false ?_ ?_); focus decide))
  · have e : T.act x = (T, { text := (T.pathOf x.file).1, errno := (T.pathOf x.file).2 }) := by unfold Tr.act; rw [if_neg c0, if_neg c1, if_neg c2, if_neg c3, if_neg c4, if_neg c5, if_neg c6, if_neg c7, if_neg c8, if_neg c9, if_neg c10, if_pos c11]
    rw [e] at fin
    refine (Path_ok (file := x.file) h hi E).mono ?_
    clear E
    rintro r w_ ⟨rfl, E⟩
    (repeat first | (with_reducible first | refine Stp.go ?_ | refine StpE.go E ?_ | (refine StpW.go E ?_; clear E; intro w_ E) | (refine StpA.go E ?_; clear E; intro b_ w_ hb_ E) | (apply hJ9; intro u_) | refine LnL.nil ?_) | ((with_reducible refine Bi.dec true ?_ ?_); focus exact rfl) | ((with_reducible refine Bi.dec false ?_ ?_); focus exact rfl) | ((with_reducible refine Bi.sdec true ?_ ?_); focus decide) | ((with_reducible refine Bi.sdec false ?_ ?_); focus decide))
    exact fin _ _ _ D X β rfl (fun _ h => h) rfl h (E.nilSl Ty.api_Dir 10)
  have e : T.act x = (T, {}) := by unfold Tr.act; rw [if_neg c0, if_neg c1, if_neg c2, if_neg c3, if_neg c4, if_neg c5, if_neg c6, if_neg c7, if_neg c8, if_neg c9, if_neg c10, if_neg c11]
  rw [e] at fin
  exact fin {} _ _ D X β rfl (fun _ h => h) rfl h (E.nilSl Ty.api_Dir 10)
end Go.Proofs.YtnnhmahemklnkaaGreatDoor

/-
  Laws: lists of operations; Few; a tree behind operations.
-/
namespace Go.Proofs.YtnnhmahemklnkaaGreatDoor
open Go Go.Sh
set_option maxRecDepth 100000
set_option linter.unusedVariables false
set_option linter.unusedSimpArgs false
variable {w0 w : World} {F : Nat → Prop} {l : List As}
variable {D : List Row} {X : PT} {T : Tr} {β : Int → Nat}

abbrev acs (xs : List Ac) : List Value := (xs.map Ac.C).flatten
theorem acs_of : ∀ {rows : List (List Value)}, (∀ r ∈ rows, fitWL lkAct r) → ∃ xs : List Ac, rows = xs.map Ac.C ∧ ∀ x ∈ xs, x.Ok
  | [], _ => ⟨[], rfl, fun _ h => by cases h⟩
  | r :: rs, h => by
    obtain ⟨x, rfl, hx⟩ := act_of (h r List.mem_cons_self)
    obtain ⟨xs, rfl, hxs⟩ := acs_of (fun y hy => h y (List.mem_cons_of_mem _ hy))
    exact ⟨x :: xs, rfl, fun y hy => by
      rcases List.mem_cons.1 hy with rfl | hy
      · exact hx
      · exact hxs y hy⟩
theorem acs_len (xs : List Ac) : (acs xs).length = xs.length * 20 := by
  induction xs with
  | nil => rfl
  | cons x r ih =>
    have e : acs (x :: r) = x.C ++ acs r := by simp [acs]
    rw [e, List.length_append, ih, List.length_cons]
    show 20 + r.length * 20 = (r.length + 1) * 20
    omega
theorem acs_at {xs : List Ac} : ∀ {i : Nat} {x : Ac}, xs[i]? = some x → ((acs xs).drop (i * 20)).take 20 = x.C := by
  induction xs with
  | nil => intro i x h; simp at h
  | cons y r ih =>
    intro i x h
    have e : acs (y :: r) = y.C ++ acs r := by simp [acs]
    cases i with
    | zero =>
      obtain rfl : y = x := by simpa using h
      rw [e, Nat.zero_mul, List.drop_zero]
      exact List.take_left (l₁ := y.C) (l₂ := acs r)
    | succ i =>
      rw [e, show (i + 1) * 20 = y.C.length + i * 20 by show _ = 20 + i * 20; omega, ← List.drop_drop, List.drop_left]
      exact ih (by simpa using h)
theorem ac_scal (x : Ac) : x.C.all scalV = true := rfl
/-- A tree behind operations. -/
def Tr.acts (T : Tr) (xs : List Ac) : Tr := xs.foldl (fun T x => (T.act x).1) T
theorem acts_snoc (T : Tr) (xs : List Ac) (x : Ac) : T.acts (xs ++ [x]) = ((T.acts xs).act x).1 := by simp [Tr.acts]
theorem acts_inv : ∀ (xs : List Ac) {T : Tr}, Inv T → Inv (T.acts xs)
  | [], _, h => h
  | x :: r, T, h => acts_inv r (act_inv h x)
theorem acts_lim : ∀ (xs : List Ac) {T : Tr} {N : Int}, 0 ≤ N → Lim N T → Lim (N + 3 * xs.length) (T.acts xs)
  | [], T, N, _, h => h.mono (by simp)
  | x :: r, T, N, h0, h => by
    have := acts_lim r (N := N + 3) (by omega) (act_lim h0 h x)
    rw [List.length_cons]
    have e : N + 3 * ((r.length + 1 : Nat) : Int) = N + 3 + 3 * (r.length : Int) := by omega
    rw [e]
    exact this
theorem Few_ok {v : Value} {xs : List Ac} (hxl : xs.length ≤ 9223372036854775807) (hr : RdS w0 F l 20 xs.length v (acs xs)) (E : Hs w0 F w l) : Ca PP Fn.law28_Few #[v] w fun r w' => ∃ b, r = .bool b ∧ (b = true → xs.length ≤ 40) ∧ Hs w0 F w' l := by
  refine S.law28_Few.calls ?_
  unfold S.law28_Few
  refine hr.len ?_
  refine ⟨fun l1 w1 => ∃ i : Nat, l1 = [i64 i] ∧ i ≤ xs.length ∧ Hs w0 F w1 l, fun l1 _ => match l1 with | [.int _ i] => xs.length - i.toNat | _ => 0, ⟨0, rfl, Nat.zero_le _, E⟩, ?_⟩
  clear E
  rintro t u w_ ⟨i, h4, hi, E⟩
  cases h4
  refine Bi.lss ?_ ?_ <;> intro hlt <;> (repeat with_reducible first | refine Stp.go ?_ | refine StpE.go E ?_)
  · have hx : xs[i]? = some xs[i] := List.getElem?_eq_getElem (by omega)
    generalize xs[i] = x at hx
    have hat := acs_at hx
    refine hr.ix (by omega) (by omega) (by omega) ?_
    intro a ha
    rw [Int.toNat_natCast] at ha
    refine ha.lda E hat rfl (by omega) ?_
    (repeat first | (with_reducible first | refine Stp.go ?_ | refine StpE.go E ?_ | (refine StpW.go E ?_; clear E; intro w_ E) | (refine StpA.go E ?_; clear E; intro b_ w_ hb_ E) | (apply hJ13; intro u_) | refine LnL.nil ?_) | ((with_reducible refine Bi.dec true ?_ ?_); focus exact rfl) | ((with_reducible refine Bi.dec false ?_ ?_); focus exact rfl) | ((with_reducible refine Bi.sdec true ?_ ?_); focus decide) | ((with_reducible refine Bi.sdec false ?_ ?_); focus decide))
    (revert b_; intro q hbq E)
    refine StA.all (vs := x.C) E rfl rfl (ac_scal x) ?_
    clear E
    intro w_ E
    (intro J13 hJ13)
    have fin : ∀ b w_, Hs w0 F w_ (pt q (oc x.C Ty.law28_Act) :: l) → J13 [.bool b] w_ := by
      intro b w_ E
      (repeat with_reducible first | refine Stp.go ?_ | refine StpE.go E ?_)
      cases b
      · (repeat with_reducible first | refine Stp.go ?_ | refine StpE.go E ?_ | (apply hJ13; intro u_))
        refine Bi.add (by omega) ?_
        refine ⟨⟨i + 1, by simp, by omega, E.tl⟩, ?_⟩
        simp only []; omega
      · (repeat with_reducible first | refine Stp.go ?_ | refine StpE.go E ?_ | (apply hJ13; intro u_))
        exact ⟨_, rfl, fun h => (by cases h), E.tl⟩
    clear hJ13
    (repeat with_reducible first | refine Stp.go ?_ | refine StpE.go E ?_)
    refine Bi.addW ?_; intro s1; (repeat with_reducible first | refine Stp.go ?_ | refine StpE.go E ?_)
    refine Bi.addW ?_; intro s2; (repeat with_reducible first | refine Stp.go ?_ | refine StpE.go E ?_)
    refine Bi.addW ?_; intro s3; (repeat with_reducible first | refine Stp.go ?_ | refine StpE.go E ?_)
    refine Bi.addW ?_; intro s4; (repeat with_reducible first | refine Stp.go ?_ | refine StpE.go E ?_)
    refine Bi.addW ?_; intro s5; (repeat with_reducible first | refine Stp.go ?_ | refine StpE.go E ?_)
    refine Bi.addW ?_; intro s6; (repeat with_reducible first | refine Stp.go ?_ | refine StpE.go E ?_)
    refine Bi.gtr ?_ ?_ <;> intro g1 <;> (repeat with_reducible first | refine Stp.go ?_ | refine StpE.go E ?_)
    · exact fin _ _ E
    refine Bi.gtr ?_ ?_ <;> intro g2 <;> (repeat with_reducible first | refine Stp.go ?_ | refine StpE.go E ?_)
    · refine Bi.leq ?_ ?_ <;> intro g3 <;> (repeat with_reducible first | refine Stp.go ?_ | refine StpE.go E ?_)
      · exact fin _ _ E
      · refine Bi.gtr ?_ ?_ <;> intro g4 <;> (repeat with_reducible first | refine Stp.go ?_ | refine StpE.go E ?_)
        · refine Bi.leq ?_ ?_ <;> intro g5 <;> (repeat with_reducible first | refine Stp.go ?_ | refine StpE.go E ?_)
          · exact fin _ _ E
          · exact fin _ _ E
        · exact fin _ _ E
    · refine Bi.gtr ?_ ?_ <;> intro g4 <;> (repeat with_reducible first | refine Stp.go ?_ | refine StpE.go E ?_)
      · refine Bi.leq ?_ ?_ <;> intro g5 <;> (repeat with_reducible first | refine Stp.go ?_ | refine StpE.go E ?_)
        · exact fin _ _ E
        · exact fin _ _ E
      · exact fin _ _ E
  · refine hr.len ?_
    refine Bi.leq ?_ ?_ <;> intro h1
    · exact ⟨_, rfl, fun _ => by omega, E⟩
    · exact ⟨_, rfl, fun h => (by cases h), E⟩
/-- A tree behind operations. -/
theorem played_ok {v gV : Value} {gv : List (BA × Value)} {gs : Gs} {owner : BA} {xs : List Ac} (hg : GIn w0 F l gV gv gs) (hgl : gs.length ≤ 100000) (hul : ∀ g ∈ gs, g.2.length ≤ 100000) (hsz : ∀ s ∈ [owner] ++ gwords gs, s.size ≤ 9223372036854775807)
    (hok : ∀ x ∈ xs, x.Ok) (hxl : xs.length ≤ 40) (hr : RdS w0 F l 20 xs.length v (acs xs)) (E : Hs w0 F w (Pool D :: l)) :
    Ca PP Fn.law28_played #[.agg #[str owner, gV], v] w fun r w' =>
      (checkG gs [owner] ≠ 0 ∧ r = np ∧ Hs w0 F w' (Pool D :: l)) ∨
      (checkG gs [owner] = 0 ∧ ∃ D' X β, r = ptr X.t ∧ (∀ x ∈ D, x ∈ D') ∧ Tie D' X ((newT owner gs).acts xs) β ∧ Inv ((newT owner gs).acts xs) ∧ Lim 121 ((newT owner gs).acts xs) ∧ Hs w0 F w' (trA X :: Pool D' :: l)) := by
  refine S.law28_played.calls ?_
  unfold S.law28_played
  refine StpA.go E ?_
  clear E
  intro q w_ hq E
  (repeat with_reducible first | refine Stp.go ?_ | refine StpE.go E ?_)
  (replace E := ((E.bIx 0).bIx 1))
  refine (New_ok (owner := owner) (hg.weaken (l' := pt q (oc [str owner, gV] Ty.law28_Setting) :: l) fun _ E => E.tl) hgl hul hsz E).mono ?_
  clear E
  rintro r w_ (⟨hc, rfl, E⟩ | ⟨hc, D1, X, β, rfl, hD1, h, hi, E⟩)
  · (repeat with_reducible first | refine Stp.go ?_ | refine StpE.go E ?_)
    refine Bi.neq ?_ ?_ <;> intro h1 <;> (repeat with_reducible first | refine Stp.go ?_ | refine StpE.go E ?_)
    · exact .inl ⟨hc, rfl, (E.bIx 1).tl⟩
    · exact absurd h1 hc
  (repeat first | (with_reducible first | refine Stp.go ?_ | refine StpE.go E ?_ | (refine StpW.go E ?_; clear E; intro w_ E) | (refine StpA.go E ?_; clear E; intro b_ w_ hb_ E) | refine LnL.nil ?_) | ((with_reducible refine Bi.dec true ?_ ?_); focus exact rfl) | ((with_reducible refine Bi.dec false ?_ ?_); focus exact rfl) | ((with_reducible refine Bi.sdec true ?_ ?_); focus decide) | ((with_reducible refine Bi.sdec false ?_ ?_); focus decide))
  refine hr.len ?_
  have hl0 := newT_lim owner gs
  refine ⟨fun l1 w1 => ∃ (i : Nat) (D' : List Row) (X' : PT) (β' : Int → Nat), l1 = [i64 i] ∧ i ≤ xs.length ∧ (∀ x ∈ D, x ∈ D') ∧ X'.t = X.t ∧ Tie D' X' ((newT owner gs).acts (xs.take i)) β' ∧ Hs w0 F w1 (trA X' :: Pool D' :: l),
    fun l1 _ => match l1 with | [.int _ i] => xs.length - i.toNat | _ => 0, ⟨0, D1, X, β, rfl, Nat.zero_le _, hD1, rfl, h, ?_⟩, ?_⟩
  · exact (E.bIx 2).tl
  clear E
  rintro t u w_ ⟨i, D', X', β', h4, hle, hD, ht, hT, E⟩
  cases h4
  have hi' := acts_inv (xs.take i) hi
  have hl' := acts_lim (xs.take i) (by omega) hl0
  have htl : (xs.take i).length ≤ 40 := by rw [List.length_take]; omega
  have hl2 : Lim 121 ((newT owner gs).acts (xs.take i)) := hl'.mono (by omega)
  refine Bi.lss ?_ ?_ <;> intro hlt <;> (repeat with_reducible first | refine Stp.go ?_ | refine StpE.go E ?_)
  · have hx : xs[i]? = some xs[i] := List.getElem?_eq_getElem (by omega)
    have hxo : xs[i].Ok := hok _ (List.getElem_mem _)
    generalize xs[i] = x at hx hxo
    have hat := acs_at hx
    refine hr.ix (by omega) (by omega) (by omega) ?_
    intro a ha
    rw [Int.toNat_natCast] at ha
    refine ha.lda E.tl.tl hat rfl (by omega) ?_
    (repeat first | (with_reducible first | refine Stp.go ?_ | refine StpE.go E ?_ | (refine StpW.go E ?_; clear E; intro w_ E) | (refine StpA.go E ?_; clear E; intro b_ w_ hb_ E) | refine LnL.nil ?_) | ((with_reducible refine Bi.dec true ?_ ?_); focus exact rfl) | ((with_reducible refine Bi.dec false ?_ ?_); focus exact rfl) | ((with_reducible refine Bi.sdec true ?_ ?_); focus decide) | ((with_reducible refine Bi.sdec false ?_ ?_); focus decide))
    (revert b_; intro b hbb E)
    refine StA.all (vs := x.C) E rfl rfl (ac_scal x) ?_
    clear E
    intro w_ E
    (repeat with_reducible first | refine Stp.go ?_ | refine StpE.go E ?_)
    (replace E := ((E.bIx 2).bIx 2))
    rw [← ht]
    refine (Do_ok (x := x) hT hi' (by omega) hl2 hxo E).mono ?_
    clear E
    rintro r w_ ⟨dv, rfl, D2, X2, β2, hD2, ht2, hT2, E⟩
    (repeat with_reducible first | refine Stp.go ?_ | refine StpE.go E ?_)
    refine Bi.add (by omega) ?_
    have e : (newT owner gs).acts (xs.take (i + 1)) = (((newT owner gs).acts (xs.take i)).act x).1 := by
      rw [List.take_add_one, hx]
      exact acts_snoc _ _ _
    refine ⟨⟨i + 1, D2, X2, β2, by simp, by omega, fun y hy => hD2 y (hD y hy), by rw [ht2, ht], by rw [e]; exact hT2, ?_⟩, ?_⟩
    · exact ((((E.bIx 2).tl).bIx 2).tl)
    · simp only []; omega
  · have e : xs.take i = xs := List.take_of_length_le (by omega)
    rw [e] at hT hi' hl2
    exact .inr ⟨hc, D', X', β', by rw [ht], hD, hT, hi', hl2, E⟩
end Go.Proofs.YtnnhmahemklnkaaGreatDoor

/-
  TreeForeign, plain: what bob does, who may write nothing.
-/
namespace Go.Proofs.YtnnhmahemklnkaaGreatDoor
open Go Go.Sh
set_option maxRecDepth 100000
set_option linter.unusedVariables false
set_option linter.unusedSimpArgs false

abbrev bobS : BA := ⟨#[98, 111, 98]⟩
abbrev crewS : BA := ⟨#[99, 114, 101, 119]⟩
/-- Files of ann's, which bob may not write. -/
structure FoN (data : BA) (r d f : Nd) : Prop where
  rp : r.path = 0
  dp : d.path = 1
  fp : f.path = 2
  ru : r.up = 0
  du : d.up = 0
  fu : f.up = 1
  dn : d.name = ⟨#[100]⟩
  fn : f.name = ⟨#[102]⟩
  ow : r.owner = ann ∧ d.owner = ann ∧ f.owner = ann
  gr : r.group = ann ∧ d.group = ann ∧ f.group = ann
  mo : r.mode = 2147484157 ∧ d.mode = 2147484141 ∧ f.mode = 420
  da : f.data = data
structure Fo (data : BA) (T : Tr) : Prop where
  gs : T.gs = [(crewS, [bobS])]
  ns : ∃ r d f : Nd, T.ns = [r, d, f] ∧ FoN data r d f
  hs : ∀ x ∈ T.hs, andI x.2.mode 3 ≠ 1 ∧ andI x.2.mode 3 ≠ 2 ∧ andI x.2.mode 64 = 0
variable {data : BA} {T : Tr}
theorem Fo.member (h : Fo data T) : T.member bobS ann = false := by
  unfold Tr.member
  rw [h.gs]
  decide
theorem Fo.get (h : Fo data T) {p : Int} {n : Nd} (hg : T.get p = some n) : n ∈ T.ns ∧ n.path = p ∧ n.owner = ann ∧ n.group = ann ∧ T.may bobS n 2 = false ∧ T.may bobS n 6 = false ∧ T.may bobS n 7 = false ∧ T.may bobS n 3 = false := by
  unfold Tr.get at hg
  have h1 := List.mem_of_find?_eq_some hg
  have h2 : n.path = p := by simpa using List.find?_some hg
  refine ⟨h1, h2, ?_⟩
  obtain ⟨r, d, f, hn, hf⟩ := h.ns
  rw [hn] at h1
  have hm := h.member
  have key : ∀ k, n.owner = ann → n.group = ann → T.may bobS n k = permF n.mode false false k := by
    intro k h3 h4
    unfold Tr.may
    rw [h3, h4, hm]
    congr 1
  simp only [List.mem_cons, List.not_mem_nil, or_false] at h1
  rcases h1 with rfl | rfl | rfl
  · refine ⟨hf.ow.1, hf.gr.1, ?_⟩
    simp only [key _ hf.ow.1 hf.gr.1, hf.mo.1]
    decide
  · refine ⟨hf.ow.2.1, hf.gr.2.1, ?_⟩
    simp only [key _ hf.ow.2.1 hf.gr.2.1, hf.mo.2.1]
    decide
  · refine ⟨hf.ow.2.2, hf.gr.2.2, ?_⟩
    simp only [key _ hf.ow.2.2 hf.gr.2.2, hf.mo.2.2]
    decide
theorem Fo.parent (h : Fo data T) {p : Int} {n : Nd} (hg : T.get p = some n) : T.may bobS (T.parent n) 2 = false := by
  unfold Tr.parent
  cases hq : T.get n.up with
  | none => exact (h.get hg).2.2.2.2.1
  | some u => exact (h.get hq).2.2.2.2.1
theorem Fo.upd (h : Fo data T) {p : Int} {g : Nd → Nd} (hg : ∀ n ∈ T.ns, n.path = p → (g n).path = n.path ∧ (g n).up = n.up ∧ (g n).name = n.name ∧ (g n).owner = n.owner ∧ (g n).group = n.group ∧ (g n).mode = n.mode ∧ (g n).data = n.data)
    {T' : Tr} (h1 : T'.ns = updN T.ns p g) (h2 : T'.gs = T.gs) (h3 : ∀ x ∈ T'.hs, andI x.2.mode 3 ≠ 1 ∧ andI x.2.mode 3 ≠ 2 ∧ andI x.2.mode 64 = 0) : Fo data T' := by
  refine ⟨by rw [h2]; exact h.gs, ?_, h3⟩
  obtain ⟨r, d, f, hn, hf⟩ := h.ns
  have key : ∀ n ∈ T.ns, (if n.path = p then g n else n).path = n.path ∧ (if n.path = p then g n else n).up = n.up ∧ (if n.path = p then g n else n).name = n.name ∧ (if n.path = p then g n else n).owner = n.owner ∧ (if n.path = p then g n else n).group = n.group ∧ (if n.path = p then g n else n).mode = n.mode ∧ (if n.path = p then g n else n).data = n.data := by
    intro n hm
    by_cases hp : n.path = p
    · rw [if_pos hp]; exact hg n hm hp
    · rw [if_neg hp]; exact ⟨rfl, rfl, rfl, rfl, rfl, rfl, rfl⟩
  rw [hn] at key
  obtain ⟨r1, r2, r3, r4, r5, r6, r7⟩ := key r (by simp)
  obtain ⟨d1, d2, d3, d4, d5, d6, d7⟩ := key d (by simp)
  obtain ⟨f1, f2, f3, f4, f5, f6, f7⟩ := key f (by simp)
  refine ⟨_, _, _, by rw [h1, hn]; rfl, ?_⟩
  exact ⟨by rw [r1]; exact hf.rp, by rw [d1]; exact hf.dp, by rw [f1]; exact hf.fp, by rw [r2]; exact hf.ru, by rw [d2]; exact hf.du, by rw [f2]; exact hf.fu, by rw [d3]; exact hf.dn, by rw [f3]; exact hf.fn,
    by rw [r4, d4, f4]; exact hf.ow, by rw [r5, d5, f5]; exact hf.gr, by rw [r6, d6, f6]; exact hf.mo, by rw [f7]; exact hf.da⟩
theorem Fo.write (h : Fo data T) (hi : Inv T) (hd off : Int) (d : BA) : (T.write hd off d).1 = T := by
  unfold Tr.write
  split
  · rfl
  · rename_i x hx
    have hm := h.hs _ (hi.openedM hx)
    rw [if_pos ⟨hm.1, hm.2.1⟩]
theorem Fo.create (h : Fo data T) (dir perm mode : Int) (name : BA) : (T.create bobS dir name perm mode).1 = T := by
  unfold Tr.create
  split
  · rfl
  split
  · rfl
  · rename_i u hu
    split
    · rfl
    split
    · rfl
    rw [if_pos (h.get hu).2.2.2.2.1]
theorem holdL_mem {x : Hd} : ∀ {L : List (Int × Hd)} {h0 : Int} {p : Int × Hd}, p ∈ (holdL L h0 x).2 → p ∈ L ∨ p.2 = x
  | [], h0, p, h => by
    rw [holdL, List.mem_singleton] at h
    exact .inr (by rw [h])
  | q :: r, h0, p, h => by
    rw [holdL] at h
    split at h
    · rcases List.mem_cons.1 h with h | h
      · exact .inl (by rw [h]; exact List.mem_cons_self)
      · exact (holdL_mem h).imp (List.mem_cons_of_mem _) id
    · rcases List.mem_cons.1 h with h | h
      · exact .inr (by rw [h])
      · exact .inl h
theorem Fo.open (h : Fo data T) (file mode : Int) : Fo data (T.openF bobS file mode).1 := by
  unfold Tr.openF
  split
  · exact h
  split
  · exact h
  · rename_i n hn
    split
    · exact h
    split
    · exact h
    rename_i hmay
    split
    · exact h
    split
    · exact h
    obtain ⟨-, -, -, -, m2, m6, m7, m3⟩ := h.get hn
    have hneed : T.may bobS n (needs mode) = true := by
      cases hq : T.may bobS n (needs mode) with
      | true => rfl
      | false => exact absurd (.inl hq) hmay
    have hcl : andI mode 64 = 0 := Classical.byContradiction fun hc => hmay (.inr ⟨hc, h.parent hn⟩)
    have h16 : andI mode 16 = 0 := by
      refine Classical.byContradiction fun hc => ?_
      unfold needs at hneed
      simp only [if_neg hc] at hneed
      split at hneed
      · rw [show orI 4 2 = 6 by decide, m6] at hneed; cases hneed
      split at hneed
      · rw [show orI 2 2 = 2 by decide, m2] at hneed; cases hneed
      split at hneed
      · rw [show orI 6 2 = 6 by decide, m6] at hneed; cases hneed
      · rw [show orI 1 2 = 3 by decide, m3] at hneed; cases hneed
    have hmode : andI mode 3 ≠ 1 ∧ andI mode 3 ≠ 2 := by
      unfold needs at hneed
      simp only [if_pos h16] at hneed
      refine ⟨fun hc => ?_, fun hc => ?_⟩
      · rw [hc] at hneed
        rw [if_neg (by decide), if_pos rfl, m2] at hneed; cases hneed
      · rw [hc] at hneed
        rw [if_neg (by decide), if_neg (by decide), if_pos rfl, m6] at hneed; cases hneed
    have hcut : ¬ (andI mode 16 ≠ 0 ∧ andI n.mode 1073741824 = 0) := fun hc => hc.1 h16
    simp only [if_neg hcut]
    refine ⟨h.gs, h.ns, fun x hx => ?_⟩
    have hx2 : x ∈ (holdL T.hs 1 ⟨file, mode, bobS⟩).2 := hx
    rcases holdL_mem hx2 with hx3 | hx3
    · exact h.hs x hx3
    · rw [hx3]; exact ⟨hmode.1, hmode.2, hcl⟩
theorem delL_mem {α : Type} {h0 : Int} {p : Int × α} : ∀ {L : List (Int × α)}, p ∈ delL L h0 → p ∈ L
  | [], h => by cases h
  | q :: r, h => by
    rw [delL] at h
    split at h
    · exact List.mem_cons_of_mem _ h
    · rcases List.mem_cons.1 h with h | h
      · rw [h]; exact List.mem_cons_self
      · exact List.mem_cons_of_mem _ (delL_mem h)
theorem Fo.close (h : Fo data T) (hi : Inv T) (hd : Int) : Fo data (T.close hd).1 := by
  unfold Tr.close
  split
  · exact h
  · rename_i x hx
    have hm := h.hs _ (hi.openedM hx)
    have h1 : Fo data { T with hs := delL T.hs hd } := ⟨h.gs, h.ns, fun y hy => h.hs y (delL_mem hy)⟩
    simp only []
    split
    · rw [if_neg (fun hc => hc hm.2.2)]
      exact h1
    · exact h1
theorem Fo.remove (h : Fo data T) (file : Int) : (T.remove bobS file).1 = T := by
  unfold Tr.remove
  split
  · rfl
  · rename_i n hn
    have hp := h.parent hn
    split
    · rfl
    · rfl
theorem Fo.wstat (h : Fo data T) (hi : Inv T) (file : Int) (d : Dr) : Fo data (T.wstat bobS file d).1 := by
  unfold Tr.wstat
  split
  · exact h
  · rename_i n hn
    obtain ⟨hm, hp, how, hgr, m2, -⟩ := h.get hn
    have hpar := h.parent hn
    simp only []
    split
    · exact h
    split
    · exact h
    split
    · exact h
    split
    · exact h
    split
    · exact h
    split
    · exact h
    split
    · exact h
    rename_i hno
    split
    · exact h
    have c1 : ¬ (d.name ≠ emp ∧ d.name ≠ n.name) := fun hc => hno (.inl ⟨hc, hpar⟩)
    have c2 : d.len = -1 ∨ n.dir = true := by
      by_cases h1 : d.len = -1
      · exact .inl h1
      · cases h2 : n.dir with
        | true => exact .inr rfl
        | false => exact absurd (.inr (.inl ⟨h1, h2, m2⟩)) hno
    have hbo : bobS ≠ n.owner := by rw [how]; decide
    have c3 : d.mode = -1 ∧ d.time = -1 ∧ d.group = emp := by
      refine ⟨Classical.byContradiction fun hc => hno (.inr (.inr (.inl ⟨.inl hc, hbo⟩))), Classical.byContradiction fun hc => hno (.inr (.inr (.inl ⟨.inr (.inl hc), hbo⟩))), Classical.byContradiction fun hc => hno (.inr (.inr (.inl ⟨.inr (.inr hc), hbo⟩)))⟩
    rw [if_neg c1, change_one]
    refine h.upd (p := file) (g := fun m => Tr.given d (touchN (T.clock + 1) bobS m)) (fun m hm2 hp2 => ?_) ?_ rfl h.hs
    · have e : m = n := hi.inj hm2 hm (by rw [hp, hp2])
      subst e
      refine ⟨rfl, rfl, ?_, rfl, ?_, ?_, ?_⟩
      · show (if d.name = emp then m.name else d.name) = m.name
        by_cases h1 : d.name = emp
        · rw [if_pos h1]
        · rw [if_neg h1]
          exact Classical.byContradiction fun hc => c1 ⟨h1, hc⟩
      · show (if d.group = emp then m.group else d.group) = m.group
        rw [if_pos c3.2.2]
      · show (if d.mode = -1 then m.mode else d.mode) = m.mode
        rw [if_pos c3.1]
      · show (if d.len = -1 ∨ m.dir = true then m.data else sized m.data d.len.toNat) = m.data
        rw [if_pos c2]
    · unfold Tr.upd
      simp only []
      rw [updN_updN (f1 := touchN (T.clock + 1) bobS) (fun n => rfl)]
/-- Whatever bob does. -/
theorem Fo.act (h : Fo data T) (hi : Inv T) {x : Ac} (hx : x.user = bobS) : Fo data (T.act x).1 := by
  unfold Tr.act
  rw [hx]
  by_cases c0 : x.kind = 0
  · rw [if_pos c0]; exact h
  rw [if_neg c0]
  by_cases c1 : x.kind = 1
  · rw [if_pos c1]; exact h
  rw [if_neg c1]
  by_cases c2 : x.kind = 2
  · rw [if_pos c2]; exact h.wstat hi _ _
  rw [if_neg c2]
  by_cases c3 : x.kind = 3
  · rw [if_pos c3]; exact h.open _ _
  rw [if_neg c3]
  by_cases c4 : x.kind = 4
  · rw [if_pos c4]
    show Fo data (T.create bobS x.file x.name x.perm x.mode).1
    rw [h.create]; exact h
  rw [if_neg c4]
  by_cases c5 : x.kind = 5
  · rw [if_pos c5]; exact h
  rw [if_neg c5]
  by_cases c6 : x.kind = 6
  · rw [if_pos c6]; exact h
  rw [if_neg c6]
  by_cases c7 : x.kind = 7
  · rw [if_pos c7]
    have e := h.write hi x.handle x.offset x.data
    show Fo data (T.write x.handle x.offset x.data).1
    rw [e]; exact h
  rw [if_neg c7]
  by_cases c8 : x.kind = 8
  · rw [if_pos c8]; exact h.close hi _
  rw [if_neg c8]
  by_cases c9 : x.kind = 9
  · rw [if_pos c9]
    show Fo data (T.remove bobS x.file).1
    rw [h.remove]; exact h
  rw [if_neg c9]
  by_cases c10 : x.kind = 10
  · rw [if_pos c10]; exact h
  rw [if_neg c10]
  by_cases c11 : x.kind = 11
  · rw [if_pos c11]; exact h
  rw [if_neg c11]
  exact h
theorem Fo.acts : ∀ {xs : List Ac} {T : Tr}, Fo data T → Inv T → (∀ x ∈ xs, x.user = bobS) → Fo data (T.acts xs)
  | [], _, h, _, _ => h
  | x :: r, T, h, hi, hx => Fo.acts (xs := r) (h.act hi (hx x List.mem_cons_self)) (act_inv hi x) fun y hy => hx y (List.mem_cons_of_mem _ hy)
end Go.Proofs.YtnnhmahemklnkaaGreatDoor

/-
  TreeForeign, plain: the tree that ann makes.
-/
namespace Go.Proofs.YtnnhmahemklnkaaGreatDoor
open Go Go.Sh
set_option maxRecDepth 100000
set_option linter.unusedVariables false
set_option linter.unusedSimpArgs false

abbrev dS : BA := ⟨#[100]⟩
abbrev fS : BA := ⟨#[102]⟩
abbrev fo0 : Tr := newT ann [(crewS, [bobS])]
abbrev fo1 : Tr := (fo0.create ann 0 dS 2147484141 0).1
abbrev fo2 : Tr := (fo1.close 1).1
abbrev fo3 : Tr := (fo2.create ann 1 fS 420 1).1
abbrev fo4 (data : BA) : Tr := (fo3.write 1 0 data).1
abbrev fo5 (data : BA) : Tr := ((fo4 data).close 1).1
theorem fo_c1 : (fo0.create ann 0 dS 2147484141 0).2 = (1, ⟨128, 0, 1⟩, 0) := by kernel_rfl
theorem fo_c2 : (fo1.close 1).2 = 0 := by kernel_rfl
theorem fo_c3 : (fo2.create ann 1 fS 420 1).2 = (1, ⟨0, 0, 2⟩, 0) := by kernel_rfl
abbrev fr3 : Nd := ⟨0, 1, 2147484157, 1, 0, emp, ann, ann, ann, emp⟩
abbrev fd3 : Nd := ⟨1, 1, 2147484141, 2, 0, dS, ann, ann, ann, emp⟩
abbrev ff3 : Nd := ⟨2, 0, 420, 2, 1, fS, ann, ann, ann, emp⟩
theorem fo3_eq : fo3 = ⟨[fr3, fd3, ff3], 2, 3, [(crewS, [bobS])], [(1, ⟨2, 1, ann⟩)]⟩ := by kernel_rfl
theorem overW_emp (d : BA) : overW emp 0 d = d := by
  refine ba_ext ?_
  unfold overW sized
  have h1 : emp.size = 0 := rfl
  have h2 : emp.data.toList = [] := rfl
  simp [h1, h2]
abbrev ffD (data : BA) : Nd := if data = emp then ff3 else ⟨2, 1, 420, 3, 1, fS, ann, ann, ann, data⟩
theorem fo4_eq {data : BA} (hd : data.size ≤ 600) : (fo3.write 1 0 data).2.2 = 0 ∧ fo4 data = ⟨[fr3, fd3, ffD data], if data = emp then 2 else 3, 3, [(crewS, [bobS])], [(1, ⟨2, 1, ann⟩)]⟩ := by
  have hop : fo3.opened 1 = some ⟨2, 1, ann⟩ := by kernel_rfl
  have hg : fo3.get 2 = some ff3 := by kernel_rfl
  have m1 : ¬ (andI 1 3 ≠ 1 ∧ andI 1 3 ≠ 2) := by decide
  by_cases he : data = emp
  · have e : fo3.write 1 0 data = (fo3, 0, 0) := by
      unfold Tr.write
      simp only [hop, hg, if_neg m1, if_neg (show ¬ ((0 : Int) < 0) by omega), if_pos he]
    unfold fo4 ffD
    rw [e, if_pos he, if_pos he]
    exact ⟨rfl, fo3_eq⟩
  · have ha : andI ff3.mode 1073741824 = 0 := by decide
    have e : fo3.write 1 0 data = (((fo3.change ann [2]).upd 2 fun n => { n with data := overW n.data 0 data }), (data.size : Int), 0) := by
      unfold Tr.write
      simp only [hop, hg, if_neg m1, if_neg (show ¬ ((0 : Int) < 0) by omega), if_neg he, ha, ne_eq, not_true_eq_false, if_false]
      rw [if_neg (by omega)]
      rfl
    unfold fo4 ffD
    rw [e, if_neg he, if_neg he]
    refine ⟨rfl, ?_⟩
    rw [fo3_eq]
    have h1 : (⟨2, 1, 420, 3, 1, fS, ann, ann, ann, overW emp 0 data⟩ : Nd) = ⟨2, 1, 420, 3, 1, fS, ann, ann, ann, data⟩ := by rw [overW_emp]
    rw [← h1]
    rfl
theorem fo5_eq {data : BA} (hd : data.size ≤ 600) : ((fo4 data).close 1).2 = 0 ∧ fo5 data = ⟨[fr3, fd3, ffD data], if data = emp then 2 else 3, 3, [(crewS, [bobS])], []⟩ := by
  unfold fo5
  rw [(fo4_eq hd).2]
  by_cases he : data = emp
  · simp only [if_pos he, ffD]
    exact ⟨by rfl, by rfl⟩
  · simp only [if_neg he, ffD]
    exact ⟨by rfl, by rfl⟩
theorem ffD_data (data : BA) : (ffD data).data = data ∧ (ffD data).path = 2 ∧ (ffD data).up = 1 ∧ (ffD data).name = fS ∧ (ffD data).owner = ann ∧ (ffD data).group = ann ∧ (ffD data).mode = 420 := by
  unfold ffD
  by_cases he : data = emp
  · rw [if_pos he]; exact ⟨he.symm, rfl, rfl, rfl, rfl, rfl, rfl⟩
  · rw [if_neg he]; exact ⟨rfl, rfl, rfl, rfl, rfl, rfl, rfl⟩
theorem fo5_fo {data : BA} (hd : data.size ≤ 600) : Fo data (fo5 data) := by
  obtain ⟨h1, h2, h3, h4, h5, h6, h7⟩ := ffD_data data
  rw [(fo5_eq hd).2]
  exact ⟨rfl, ⟨fr3, fd3, ffD data, rfl, rfl, rfl, h2, rfl, rfl, h3, rfl, h4, ⟨rfl, rfl, h5⟩, ⟨rfl, rfl, h6⟩, ⟨rfl, rfl, h7⟩, h1⟩, fun x hx => by cases hx⟩
end Go.Proofs.YtnnhmahemklnkaaGreatDoor

/-
  Trees: a file and all below it, in order.
-/
namespace Go.Proofs.YtnnhmahemklnkaaGreatDoor
open Go Go.Sh
set_option maxRecDepth 100000
set_option linter.unusedVariables false
set_option linter.unusedSimpArgs false
variable {w0 w : World} {F : Nat → Prop} {l : List As}
variable {D : List Row} {X : PT} {T : Tr} {β : Int → Nat}

/-! ### Directories' files, leaves too -/
theorem keysS_nil {a : Nat} : Iter PP w0 F (keysSF a) str (fun _ _ => False) (· = []) [pt a (oc [.map none] Ty.map_string_p_tree_node)] [] [pt a (oc [.map none] Ty.map_string_p_tree_node)] := by
  intro K S_ y w ks rest hy h0 E
  refine CaV.mk b_keysS1 ?_
  refine S.maps_Keys_map_string_p_tree_node_string_p_tree_node_1.calls (a0 := y) (a1 := ptr a) ?_
  unfold S.maps_Keys_map_string_p_tree_node_string_p_tree_node_1
  have E1 : Hs w0 F w (pt a (oc [.map none] Ty.map_string_p_tree_node) :: (ks ++ rest)) := E.perm (permBack [_] ks rest).symm
  clear E
  have E := E1
  clear E1
  (repeat with_reducible first | refine Stp.go ?_ | refine StpE.go E ?_)
  refine Rg.nil E u_mkids ?_
  clear E
  intro it w_ hit E
  refine ⟨fun l1 w1 => l1 = [] ∧ Hs w0 F w1 (pt it (.mapIter none 0 #[] 0) :: pt a (oc [.map none] Ty.map_string_p_tree_node) :: (ks ++ rest)), fun _ _ => 0, ⟨rfl, E⟩, ?_⟩
  clear E
  rintro u w1 ⟨-, E⟩
  refine Nx.nil E ?_
  (repeat with_reducible first | refine Stp.go ?_ | refine StpE.go E ?_)
  exact .inl ⟨[], ks, rfl, h0, E.tl.perm (permBack [_] ks rest)⟩
theorem KeysN_ok (E : Hs w0 F w l) : Ca PP Fn.maps_Keys_map_string_p_tree_node_string_p_tree_node #[.map none] w fun r w' => ∃ a, r = keysSF a ∧ Hs w0 F w' (pt a (oc [.map none] Ty.map_string_p_tree_node) :: l) := by
  refine S.maps_Keys_map_string_p_tree_node_string_p_tree_node.calls ?_
  unfold S.maps_Keys_map_string_p_tree_node_string_p_tree_node
  (repeat first | (with_reducible first | refine Stp.go ?_ | refine StpE.go E ?_ | (refine StpW.go E ?_; clear E; intro w_ E) | (refine StpA.go E ?_; clear E; intro b_ w_ hb_ E) | refine LnL.nil ?_) | ((with_reducible refine Bi.dec true ?_ ?_); focus exact rfl) | ((with_reducible refine Bi.dec false ?_ ?_); focus exact rfl) | ((with_reducible refine Bi.sdec true ?_ ?_); focus decide) | ((with_reducible refine Bi.sdec false ?_ ?_); focus decide))
  exact ⟨b_, rfl, E⟩
theorem sorted_leaf {n : PN} (hn : n ∈ X.ps) (hd : n.f.dir = false) {a : Nat} :
    Iter PP w0 F (sortedF a) (fun k : PN => ptr k.blk) (InOrder []) (· = []) [pt a (oc [ptr n.blk] Ty.p_tree_node), NT X.ps] [pt a (oc [ptr n.blk] Ty.p_tree_node), NT X.ps] [pt a (oc [ptr n.blk] Ty.p_tree_node), NT X.ps] := by
  intro K S_ y w ks rest hy h0 E
  refine CaV.mk b_sorted1 ?_
  refine S.tree_node_sorted_1.calls (a0 := y) (a1 := ptr a) ?_
  unfold S.tree_node_sorted_1
  have E1 : Hs w0 F w (pt a (oc [ptr n.blk] Ty.p_tree_node) :: NT X.ps :: (ks ++ rest)) := E.perm (perm2 ks rest)
  clear E
  have E := E1
  clear E1
  (repeat with_reducible first | refine Stp.go ?_ | refine StpE.go E ?_)
  refine Ld.nt E (by simp) hn kids_val ?_
  rw [if_neg (by rw [hd]; simp)]
  refine (KeysN_ok E).mono ?_
  clear E
  rintro r w_ ⟨b, rfl, E⟩
  refine (Sorted_ok (own := [_]) (rest := pt a (oc [ptr n.blk] Ty.p_tree_node) :: NT X.ps :: (ks ++ rest)) rfl b_keysS1 keysS_nil (fun _ _ h => h.elim) (fun xs hx => by subst hx; simp) E).mono ?_
  clear E
  rintro v w_ ⟨xs, rfl, E⟩
  simp only [List.cons_append, List.nil_append] at E
  have e : sortS [] = [] := by have := sortS_mem []; exact List.Perm.eq_nil this
  rw [e] at E
  (repeat with_reducible first | refine Stp.go ?_ | refine StpE.go E ?_)
  refine ⟨fun l1 w1 => l1 = [i64 0] ∧ Hs w0 F w1 (slA v Ty.string 1 ([].map str) :: pt b (oc [.map none] Ty.map_string_p_tree_node) :: pt a (oc [ptr n.blk] Ty.p_tree_node) :: NT X.ps :: (ks ++ rest)), fun _ _ => 0, ⟨rfl, E⟩, ?_⟩
  clear E
  rintro t u w1 ⟨h1, E⟩
  cases h1
  (repeat first | (with_reducible first | refine Stp.go ?_ | refine StpE.go E ?_ | (refine StpW.go E ?_; clear E; intro w_ E) | (refine StpA.go E ?_; clear E; intro b_ w_ hb_ E) | refine LnL.nil ?_) | ((with_reducible refine Bi.dec true ?_ ?_); focus exact rfl) | ((with_reducible refine Bi.dec false ?_ ?_); focus exact rfl) | ((with_reducible refine Bi.sdec true ?_ ?_); focus decide) | ((with_reducible refine Bi.sdec false ?_ ?_); focus decide))
  refine .inl ⟨[], ks, rfl, h0, ?_⟩
  exact E.tl.tl.perm (perm2 ks rest).symm
/-- A directory's files in memory, looked up; none of a file that is no directory. -/
def Lk (X : PT) (T : Tr) (n : PN) : List PN := if n.f.dir = true then (T.kidsS n.f.path).filterMap fun m => X.ps.find? fun k => decide (k.f.path = m.path) else []
theorem lk_kids (h : Tie D X T β) (hi : Inv T) {n : PN} (hd : n.f.dir = true) : KidsL X T n.f.path (Lk X T n) := by
  unfold Lk
  rw [if_pos hd]
  have hm : ∀ k ∈ T.kidsS n.f.path, k ∈ T.ns := fun k hk => (kidsS_mem hi hk).1
  have key : ∀ S : List Nd, (∀ k ∈ S, k ∈ T.ns) → (∀ k ∈ S.filterMap (fun m => X.ps.find? fun k => decide (k.f.path = m.path)), k ∈ X.ps) ∧ (S.filterMap fun m => X.ps.find? fun k => decide (k.f.path = m.path)).map PN.f = S := by
    intro S
    induction S with
    | nil => intro _; exact ⟨(fun _ h => by cases h), rfl⟩
    | cons s r ih =>
      intro hs
      obtain ⟨i1, i2⟩ := ih fun k hk => hs k (List.mem_cons_of_mem _ hk)
      obtain ⟨q, hq, hqf⟩ := h.mem.1 (hs s List.mem_cons_self)
      have hf : X.ps.find? (fun k => decide (k.f.path = s.path)) = some q := by
        cases hg : X.ps.find? (fun k => decide (k.f.path = s.path)) with
        | none =>
          have := List.find?_eq_none.1 hg q hq
          rw [hqf] at this; simp at this
        | some x =>
          have h1 := List.mem_of_find?_eq_some hg
          have h2 : x.f.path = s.path := by simpa using List.find?_some hg
          rw [h.inj hi h1 hq (by rw [h2, hqf])]
      rw [List.filterMap_cons, hf]
      refine ⟨fun k hk => ?_, ?_⟩
      · rcases List.mem_cons.1 hk with rfl | hk
        · exact hq
        · exact i1 k hk
      · rw [List.map_cons, i2, hqf]
  exact ⟨(key _ hm).1, (key _ hm).2⟩
theorem lk_iter (h : Tie D X T β) (hi : Inv T) {n : PN} (hn : n ∈ X.ps) {a : Nat} :
    Iter PP w0 F (sortedF a) (fun k : PN => ptr k.blk) (InOrder (Lk X T n)) (· = Lk X T n) [pt a (oc [ptr n.blk] Ty.p_tree_node), NT X.ps] [pt a (oc [ptr n.blk] Ty.p_tree_node), NT X.ps] [pt a (oc [ptr n.blk] Ty.p_tree_node), NT X.ps] := by
  cases hd : n.f.dir with
  | true => exact sorted_iter h hi hn hd (lk_kids h hi hd)
  | false =>
    have e : Lk X T n = [] := by unfold Lk; rw [if_neg (by rw [hd]; simp)]
    rw [e]
    exact sorted_leaf hn hd
theorem lk_mem (h : Tie D X T β) (hi : Inv T) {n k : PN} (hk : k ∈ Lk X T n) : k ∈ X.ps ∧ k.f.path ≠ 0 ∧ k.f.up = n.f.path := by
  cases hd : n.f.dir with
  | true =>
    have hL := lk_kids h hi hd
    have h1 : k.f ∈ T.kidsS n.f.path := by rw [← hL.eq]; exact List.mem_map.2 ⟨k, hk, rfl⟩
    obtain ⟨_, h2, h3⟩ := kidsS_mem hi h1
    exact ⟨hL.mem k hk, h2, h3⟩
  | false =>
    unfold Lk at hk
    rw [if_neg (by rw [hd]; simp)] at hk
    cases hk
/-- A file and all below it. -/
def allP (X : PT) (T : Tr) : Nat → PN → List PN
  | 0, _ => []
  | f + 1, n => n :: (Lk X T n).flatMap (allP X T f)
theorem allP_mem (h : Tie D X T β) (hi : Inv T) : ∀ (f : Nat) {n m : PN}, n ∈ X.ps → m ∈ allP X T f n → m ∈ X.ps
  | 0, _, _, _, hm => by cases hm
  | f + 1, n, m, hn, hm => by
    unfold allP at hm
    rcases List.mem_cons.1 hm with rfl | hm
    · exact hn
    · obtain ⟨k, hk, hmk⟩ := List.mem_flatMap.1 hm
      exact allP_mem h hi f (lk_mem h hi hk).1 hmk
theorem inOrder_of {α : Type} {B pre t : List α} {x : α} (h : B = pre ++ x :: t) : InOrder B pre x := by
  subst h
  exact ⟨by simp, by simp⟩
theorem inOrder_to {α : Type} {B pre : List α} {x : α} (h : InOrder B pre x) : ∃ t, B = pre ++ x :: t := by
  obtain ⟨h1, h2⟩ := h
  refine ⟨B.drop (pre.length + 1), ?_⟩
  have hlt := (List.getElem?_eq_some_iff.1 h2).1
  conv => lhs; rw [← List.take_append_drop pre.length B]
  rw [← h1, List.drop_eq_getElem_cons hlt]
  congr 2
  exact (List.getElem?_eq_some_iff.1 h2).2
abbrev allF (a : Nat) : Value := .func (.func Fn.tree_node_all_1) #[] #[ptr a]
theorem b_all1 : hasBody PP Fn.tree_node_all_1 = true := by kernel_rfl
theorem all_ok {n : PN} (E : Hs w0 F w l) : Ca PP Fn.tree_node_all #[ptr n.blk] w fun r w' => ∃ a, r = allF a ∧ Hs w0 F w' (pt a (oc [ptr n.blk] Ty.p_tree_node) :: l) := by
  refine S.tree_node_all.calls ?_
  unfold S.tree_node_all
  (repeat first | (with_reducible first | refine Stp.go ?_ | refine StpE.go E ?_ | (refine StpW.go E ?_; clear E; intro w_ E) | (refine StpA.go E ?_; clear E; intro b_ w_ hb_ E) | refine LnL.nil ?_) | ((with_reducible refine Bi.dec true ?_ ?_); focus exact rfl) | ((with_reducible refine Bi.dec false ?_ ?_); focus exact rfl) | ((with_reducible refine Bi.sdec true ?_ ?_); focus decide) | ((with_reducible refine Bi.sdec false ?_ ?_); focus decide))
  exact ⟨b_, rfl, E⟩
theorem permFr (P M ks rest : List As) : (P ++ (ks ++ (M ++ rest))).Perm (P ++ (M ++ (ks ++ rest))) := (permBack M ks rest).symm.append_left P
theorem CaV.scal {P : Program} {y : Value} {args : Array Value} {w : World} {k : Value → World → Prop} (h : CaV P y args w k) : scalV y = true := by
  rcases h with ⟨f, x, z, h1, _⟩ | ⟨L, h1, _⟩ <;> rw [h1] <;> rfl
theorem all_iter (h : Tie D X T β) (hi : Inv T) {rk : Int → Nat} (hrk : ∀ n ∈ T.ns, n.path ≠ 0 → rk n.up < rk n.path) (hrb : ∀ p, rk p ≤ 1024) : ∀ (f : Nat) {n : PN}, n ∈ X.ps → 1024 < f + rk n.f.path → ∀ a : Nat,
    Iter PP w0 F (allF a) (fun k : PN => ptr k.blk) (InOrder (allP X T f n)) (· = allP X T f n) [pt a (oc [ptr n.blk] Ty.p_tree_node), NT X.ps] [NT X.ps] [pt a (oc [ptr n.blk] Ty.p_tree_node), NT X.ps] := by
  intro f
  induction f with
  | zero => intro n hn hf; have := hrb n.f.path; omega
  | succ f ih =>
    intro n hn hf a K S_ y w ks rest hy h0 E
    refine CaV.mk b_all1 ?_
    refine S.tree_node_all_1.calls (a0 := y) (a1 := ptr a) ?_
    unfold S.tree_node_all_1
    have E1 : Hs w0 F w (pt a (oc [ptr n.blk] Ty.p_tree_node) :: NT X.ps :: (ks ++ rest)) := E.perm (perm2 ks rest)
    clear E
    have E := E1
    clear E1
    have hB : allP X T (f + 1) n = n :: (Lk X T n).flatMap (allP X T f) := rfl
    have hin0 : InOrder (allP X T (f + 1) n) [] n := inOrder_of (t := (Lk X T n).flatMap (allP X T f)) (by rw [hB]; rfl)
    have hsc : scalV y = true := CaV.scal (hy [] n w ks (pt a (oc [ptr n.blk] Ty.p_tree_node) :: rest) hin0 h0 (by
      have E2 := E
      replace E2 := E2.bIx 1
      exact E2.perm (permBack [_, _] ks rest)))
    have isc : Scal y := ⟨hsc⟩
    (repeat first | (with_reducible first | refine Stp.go ?_ | refine StpE.go E ?_ | (refine StpW.go E ?_; clear E; intro w_ E) | (refine StpA.go E ?_; clear E; intro b_ w_ hb_ E) | refine LnL.nil ?_) | ((with_reducible refine Bi.dec true ?_ ?_); focus exact rfl) | ((with_reducible refine Bi.dec false ?_ ?_); focus exact rfl) | ((with_reducible refine Bi.sdec true ?_ ?_); focus decide) | ((with_reducible refine Bi.sdec false ?_ ?_); focus decide))
    (revert b_; intro t2 hbt2 E)
    (replace E := (((E.bIx 1).bIx 1).bIx 2))
    refine (hy [] n w_ ks (pt t2 (oc [y] Ty.functree_node_bool) :: pt a (oc [ptr n.blk] Ty.p_tree_node) :: rest) hin0 h0 (E.perm (permBack [_, _, _] ks rest))).mono ?_
    clear E
    rintro r w_ (⟨rfl, ks1, hk1, E'⟩ | ⟨rfl, ks1, hs1, E'⟩)
    rotate_left
    · have E : Hs w0 F w_ (NT X.ps :: pt t2 (oc [y] Ty.functree_node_bool) :: pt a (oc [ptr n.blk] Ty.p_tree_node) :: (ks1 ++ rest)) := E'.perm (permBack [_, _, _] ks1 rest).symm
      clear E'
      (repeat with_reducible first | refine Stp.go ?_ | refine StpE.go E ?_)
      refine .inr ⟨_, ks1, hs1, ?_⟩
      replace E := (E.bIx 1).tl
      (replace E := ((E.bIx 0).bIx 1))
      exact E.perm (permBack [_, _] ks1 rest)
    have E : Hs w0 F w_ (NT X.ps :: pt t2 (oc [y] Ty.functree_node_bool) :: pt a (oc [ptr n.blk] Ty.p_tree_node) :: (ks1 ++ rest)) := E'.perm (permBack [_, _, _] ks1 rest).symm
    clear E'
    (repeat with_reducible first | refine Stp.go ?_ | refine StpE.go E ?_)
    refine (sorted_ok E).mono ?_
    clear E
    rintro r w_ ⟨b, rfl, E⟩
    (replace E := ((((E.bIx 3).bIx 2).bIx 2).bIx 3))
    have E1 := E.perm ((permBack [_, _, _] ks1 rest).cons _)
    clear E
    have hk1 : K (n :: ([] : List PN).flatMap (allP X T f)) ks1 := hk1
    refine RFo.hs (ks := pt t2 (oc [y] Ty.functree_node_bool) :: ks1) (rest := pt a (oc [ptr n.blk] Ty.p_tree_node) :: rest) rfl b_sorted1 (lk_iter h hi hn) (fun pre' ko => ∃ ks, K (n :: pre'.flatMap (allP X T f)) ks ∧ ko = pt t2 (oc [y] Ty.functree_node_bool) :: ks) (fun _ _ _ => False)
      (fun _ ko => ∃ pre ks, S_ pre ks ∧ ko = pt t2 (oc [y] Ty.functree_node_bool) :: ks) E1 ⟨ks1, hk1, rfl⟩ ?_ ?_ (fun _ _ _ _ _ _ h _ => h.elim) ?_
    · clear E1
      rintro r L0 D0 pre' k w_ _ rest' Rn Re Rr hL0 hD0 hp ⟨ks2, hK2, rfl⟩ E hn2 - hr
      have hkm := lk_mem h hi (List.mem_of_getElem? hp.2)
      obtain ⟨t', hLt⟩ := inOrder_to hp
      have hkrank : 1024 < f + rk k.f.path := by
        have := hrk k.f (h.mem.2 ⟨k, hkm.1, rfl⟩) hkm.2.1
        rw [hkm.2.2] at this
        omega
      have E1 : Hs w0 F w_ (pt L0 (lpO r .ready none) :: pt D0 dfO :: pt t2 (oc [y] Ty.functree_node_bool) :: pt b (oc [ptr n.blk] Ty.p_tree_node) :: NT X.ps :: (ks2 ++ rest')) := E.perm (permFr [_, _, _] [_, _] ks2 rest')
      clear E
      have E := E1
      clear E1
      (repeat first | (with_reducible first | refine Stp.go ?_ | refine StpE.go E ?_ | (refine StpW.go E ?_; clear E; intro w_ E) | (refine StpA.go E ?_; clear E; intro b_ w_ hb_ E) | refine LnL.nil ?_) | ((with_reducible refine Bi.dec true ?_ ?_); focus exact rfl) | ((with_reducible refine Bi.dec false ?_ ?_); focus exact rfl) | ((with_reducible refine Bi.sdec true ?_ ?_); focus decide) | ((with_reducible refine Bi.sdec false ?_ ?_); focus decide))
      refine (all_ok E).mono ?_
      clear E
      rintro r0 w_ ⟨c, rfl, E⟩
      have hloop : ∃ r', w_.heap[L0]? = some (.loop r') := ⟨_, E.sat (pt L0 (lpO r .busy none)) (by simp)⟩
      (replace E := ((((((E.bIx 4).bIx 3).bIx 3).bIx 5).bIx 4).bIx 5))
      have E1 := E.perm ((permBack [_, _, _, _, _] ks2 rest').cons _)
      clear E
      have hK2 : K (n :: pre'.flatMap (allP X T f) ++ []) ks2 := by rw [List.append_nil]; exact hK2
      refine RFi.hs (ks := pt t2 (oc [y] Ty.functree_node_bool) :: ks2) (rest := pt L0 (lpO r .busy none) :: pt D0 dfO :: pt b (oc [ptr n.blk] Ty.p_tree_node) :: rest') rfl b_all1 (ih hkm.1 hkrank c) (fun pre2 ko => ∃ ks, K (n :: pre'.flatMap (allP X T f) ++ pre2) ks ∧ ko = pt t2 (oc [y] Ty.functree_node_bool) :: ks) (fun _ _ _ => False)
        (fun _ ko => ∃ pre ks, S_ pre ks ∧ ko = pt t2 (oc [y] Ty.functree_node_bool) :: ks) E1 hloop ⟨ks2, hK2, rfl⟩ ?_ ?_ (fun _ _ _ _ h _ => h.elim) ?_
      · clear E1
        rintro r2 L2 pre2 x w_ _ rest2 Rn2 Re2 Rr2 hL2 hp2 ⟨ks3, hK3, rfl⟩ E hn3 - hr3
        obtain ⟨t2', hB2⟩ := inOrder_to hp2
        have E1 : Hs w0 F w_ (pt L2 (lpO r2 .ready none) :: pt t2 (oc [y] Ty.functree_node_bool) :: NT X.ps :: (ks3 ++ rest2)) := E.perm (permFr [_, _] [_] ks3 rest2)
        clear E
        have E := E1
        clear E1
        (repeat first | (with_reducible first | refine Stp.go ?_ | refine StpE.go E ?_ | (refine StpW.go E ?_; clear E; intro w_ E) | (refine StpA.go E ?_; clear E; intro b_ w_ hb_ E) | refine LnL.nil ?_) | ((with_reducible refine Bi.dec true ?_ ?_); focus exact rfl) | ((with_reducible refine Bi.dec false ?_ ?_); focus exact rfl) | ((with_reducible refine Bi.sdec true ?_ ?_); focus decide) | ((with_reducible refine Bi.sdec false ?_ ?_); focus decide))
        (replace E := (((E.bIx 1).bIx 1).bIx 2))
        have hin : InOrder (allP X T (f + 1) n) (n :: pre'.flatMap (allP X T f) ++ pre2) x := by
          refine inOrder_of (t := t2' ++ t'.flatMap (allP X T f)) ?_
          rw [hB, hLt]
          simp [hB2]
        refine (hy _ x w_ ks3 (pt L2 (lpO r2 .busy none) :: pt t2 (oc [y] Ty.functree_node_bool) :: rest2) hin hK3 (E.perm (permBack [_, _, _] ks3 rest2))).mono ?_
        clear E
        rintro r w_ (⟨rfl, ks4, hk4, E'⟩ | ⟨rfl, ks4, hs4, E'⟩)
        · have E : Hs w0 F w_ (NT X.ps :: pt L2 (lpO r2 .busy none) :: pt t2 (oc [y] Ty.functree_node_bool) :: (ks4 ++ rest2)) := E'.perm (permBack [_, _, _] ks4 rest2).symm
          clear E'
          (repeat first | (with_reducible first | refine Stp.go ?_ | refine StpE.go E ?_ | (refine StpW.go E ?_; clear E; intro w_ E) | (refine StpA.go E ?_; clear E; intro b_ w_ hb_ E) | refine LnL.nil ?_) | ((with_reducible refine Bi.dec true ?_ ?_); focus exact rfl) | ((with_reducible refine Bi.dec false ?_ ?_); focus exact rfl) | ((with_reducible refine Bi.sdec true ?_ ?_); focus decide) | ((with_reducible refine Bi.sdec false ?_ ?_); focus decide))
          refine hn3 _ _ ⟨ks4, by rw [← List.append_assoc]; exact hk4, rfl⟩ ?_
          (replace E := (((E.bIx 0).bIx 2).bIx 2))
          exact E.perm (permFr [_, _] [_] ks4 rest2).symm
        · have E : Hs w0 F w_ (NT X.ps :: pt L2 (lpO r2 .busy none) :: pt t2 (oc [y] Ty.functree_node_bool) :: (ks4 ++ rest2)) := E'.perm (permBack [_, _, _] ks4 rest2).symm
          clear E'
          (repeat first | (with_reducible first | refine Stp.go ?_ | refine StpE.go E ?_ | (refine StpW.go E ?_; clear E; intro w_ E) | (refine StpA.go E ?_; clear E; intro b_ w_ hb_ E) | refine LnL.nil ?_) | ((with_reducible refine Bi.dec true ?_ ?_); focus exact rfl) | ((with_reducible refine Bi.dec false ?_ ?_); focus exact rfl) | ((with_reducible refine Bi.sdec true ?_ ?_); focus decide) | ((with_reducible refine Bi.sdec false ?_ ?_); focus decide))
          refine hr3 _ _ ⟨_, ks4, hs4, rfl⟩ ?_
          (replace E := (((E.bIx 0).bIx 2).bIx 2))
          exact E.perm (permFr [_, _] [_] ks4 rest2).symm
      · clear E1
        rintro w_ xs ko hxs ⟨ks3, hK3, rfl⟩ E
        have E1 : Hs w0 F w_ (pt t2 (oc [y] Ty.functree_node_bool) :: pt c (oc [ptr k.blk] Ty.p_tree_node) :: NT X.ps :: pt L0 (lpO r .busy none) :: pt D0 dfO :: pt b (oc [ptr n.blk] Ty.p_tree_node) :: (ks3 ++ rest')) := E.perm (permFr [_] [_, _, _, _, _] ks3 rest')
        clear E
        have E := E1
        clear E1
        replace E := (E.bIx 1).tl
        (replace E := (((((E.bIx 1).bIx 4).bIx 2).bIx 4).bIx 4))
        refine hn2 _ _ ⟨ks3, ?_, rfl⟩ (E.perm (permFr [_, _, _] [_, _] ks3 rest').symm)
        rw [List.flatMap_append, List.flatMap_singleton, ← hxs]
        exact hK3
      · clear E1
        rintro w_ xs ko ⟨pre3, ks3, hS3, rfl⟩ E
        have E1 : Hs w0 F w_ (pt t2 (oc [y] Ty.functree_node_bool) :: pt c (oc [ptr k.blk] Ty.p_tree_node) :: NT X.ps :: pt L0 (lpO r .busy none) :: pt D0 dfO :: pt b (oc [ptr n.blk] Ty.p_tree_node) :: (ks3 ++ rest')) := E.perm (permFr [_] [_, _, _, _, _] ks3 rest')
        clear E
        have E := E1
        clear E1
        replace E := (E.bIx 1).tl
        (replace E := (((((E.bIx 1).bIx 4).bIx 2).bIx 4).bIx 4))
        exact hr _ _ ⟨pre3, ks3, hS3, rfl⟩ (E.perm (permFr [_, _, _] [_, _] ks3 rest').symm)
    · clear E1
      rintro D0 w_ xs ko hD0 hxs ⟨ks2, hK2, rfl⟩ E
      have E1 : Hs w0 F w_ (pt D0 dfO :: pt t2 (oc [y] Ty.functree_node_bool) :: pt b (oc [ptr n.blk] Ty.p_tree_node) :: NT X.ps :: pt a (oc [ptr n.blk] Ty.p_tree_node) :: (ks2 ++ rest)) := E.perm (permFr [_, _] [_, _, _] ks2 rest)
      clear E
      have E := E1
      clear E1
      (repeat first | (with_reducible first | refine Stp.go ?_ | refine StpE.go E ?_ | (refine StpW.go E ?_; clear E; intro w_ E) | (refine StpA.go E ?_; clear E; intro b_ w_ hb_ E) | refine LnL.nil ?_) | ((with_reducible refine Bi.dec true ?_ ?_); focus exact rfl) | ((with_reducible refine Bi.dec false ?_ ?_); focus exact rfl) | ((with_reducible refine Bi.sdec true ?_ ?_); focus decide) | ((with_reducible refine Bi.sdec false ?_ ?_); focus decide))
      refine .inl ⟨_, ks2, rfl, by rw [hB, ← hxs]; exact hK2, ?_⟩
      replace E := E.tl.tl
      (replace E := ((E.bIx 0).bIx 1))
      exact E.perm (permBack [_, _] ks2 rest)
    · clear E1
      rintro D0 w_ xs ko hD0 ⟨pre3, ks2, hS2, rfl⟩ E
      have E1 : Hs w0 F w_ (pt D0 dfO :: pt t2 (oc [y] Ty.functree_node_bool) :: pt b (oc [ptr n.blk] Ty.p_tree_node) :: NT X.ps :: pt a (oc [ptr n.blk] Ty.p_tree_node) :: (ks2 ++ rest)) := E.perm (permFr [_, _] [_, _, _] ks2 rest)
      clear E
      have E := E1
      clear E1
      (repeat first | (with_reducible first | refine Stp.go ?_ | refine StpE.go E ?_ | (refine StpW.go E ?_; clear E; intro w_ E) | (refine StpA.go E ?_; clear E; intro b_ w_ hb_ E) | refine LnL.nil ?_) | ((with_reducible refine Bi.dec true ?_ ?_); focus exact rfl) | ((with_reducible refine Bi.dec false ?_ ?_); focus exact rfl) | ((with_reducible refine Bi.sdec true ?_ ?_); focus decide) | ((with_reducible refine Bi.sdec false ?_ ?_); focus decide))
      refine .inr ⟨_, ks2, hS2, ?_⟩
      replace E := E.tl.tl
      (replace E := ((E.bIx 0).bIx 1))
      exact E.perm (permBack [_, _] ks2 rest)
end Go.Proofs.YtnnhmahemklnkaaGreatDoor

/-
  Trees, plain: a file and all below it; each file once.
-/
namespace Go.Proofs.YtnnhmahemklnkaaGreatDoor
open Go Go.Sh
set_option maxRecDepth 100000
set_option linter.unusedVariables false
set_option linter.unusedSimpArgs false
variable {D : List Row} {X : PT} {T : Tr} {β : Int → Nat}

def belowN (T : Tr) : Nat → Nd → List Nd
  | 0, _ => []
  | f + 1, n => n :: (T.kidsS n.path).flatMap (belowN T f)
theorem kidsS_leaf (hi : Inv T) {n : Nd} (hn : n ∈ T.ns) (hd : n.dir = false) : T.kidsS n.path = [] := by
  obtain ⟨_, hk⟩ := hi.leaf hn hd
  have : T.kids n.path = [] := by
    unfold Tr.kids
    rw [List.filter_eq_nil_iff]
    intro m hm hc
    unfold Tr.isKid at hc
    have hc := of_decide_eq_true hc
    exact hk m hm hc.1 hc.2
  unfold Tr.kidsS
  rw [this]
  have : sortS [] = [] := List.Perm.eq_nil (sortS_mem [])
  rw [List.map_nil, this]; rfl
theorem allP_map (h : Tie D X T β) (hi : Inv T) : ∀ (f : Nat) {n : PN}, n ∈ X.ps → (allP X T f n).map PN.f = belowN T f n.f
  | 0, _, _ => rfl
  | f + 1, n, hn => by
    unfold allP belowN
    rw [List.map_cons]
    congr 1
    have hL : (Lk X T n).map PN.f = T.kidsS n.f.path := by
      cases hd : n.f.dir with
      | true => exact (lk_kids h hi hd).eq
      | false =>
        rw [kidsS_leaf hi (h.mem.2 ⟨n, hn, rfl⟩) hd]
        unfold Lk
        rw [if_neg (by rw [hd]; simp)]; rfl
    rw [← hL, List.map_flatMap, List.flatMap_map]
    have key : ∀ L : List PN, (∀ k ∈ L, k ∈ X.ps) → L.flatMap (fun k => (allP X T f k).map PN.f) = L.flatMap fun k => belowN T f k.f := by
      intro L
      induction L with
      | nil => intro _; rfl
      | cons k r ih =>
        intro hk
        rw [List.flatMap_cons, List.flatMap_cons, allP_map h hi f (hk k List.mem_cons_self), ih fun m hm => hk m (List.mem_cons_of_mem _ hm)]
    exact key _ fun k hk => (lk_mem h hi hk).1
theorem below_mem (hi : Inv T) : ∀ (f : Nat) {n m : Nd}, n ∈ T.ns → m ∈ belowN T f n → m ∈ T.ns
  | 0, _, _, _, hm => by cases hm
  | f + 1, n, m, hn, hm => by
    unfold belowN at hm
    rcases List.mem_cons.1 hm with rfl | hm
    · exact hn
    · obtain ⟨k, hk, hmk⟩ := List.mem_flatMap.1 hm
      exact below_mem hi f (kidsS_mem hi hk).1 hmk
/-- Whoever lies below has the way there first. -/
theorem below_chain (hi : Inv T) : ∀ (f : Nat) {n m : Nd}, n ∈ T.ns → m ∈ belowN T f n → ∃ r, T.chain m = T.chain n ++ r
  | 0, _, _, _, hm => by cases hm
  | f + 1, n, m, hn, hm => by
    unfold belowN at hm
    rcases List.mem_cons.1 hm with rfl | hm
    · exact ⟨[], by simp⟩
    · obtain ⟨k, hk, hmk⟩ := List.mem_flatMap.1 hm
      obtain ⟨k1, k2, k3⟩ := kidsS_mem hi hk
      obtain ⟨r, hr⟩ := below_chain hi f k1 hmk
      have hp : T.parent k = n := by
        obtain ⟨p1, p2, _⟩ := parent_mem hi k1 k2
        exact hi.inj p1 hn (by rw [p2, k3])
      rw [hr, chain_step hi k1 k2, hp]
      exact ⟨[k.name] ++ r, by simp⟩
theorem kids_name_inj (hi : Inv T) {p : Int} {a b : Nd} (ha : a ∈ T.kidsS p) (hb : b ∈ T.kidsS p) (hn : a.name = b.name) : a = b := by
  obtain ⟨a1, a2, a3⟩ := kidsS_mem hi ha
  obtain ⟨b1, b2, b3⟩ := kidsS_mem hi hb
  exact hi.inj a1 b1 (hi.names a a1 b b1 a2 b2 (by rw [a3, b3]) hn)
theorem kidsS_nodup (hi : Inv T) (p : Int) : (T.kidsS p).Nodup := by
  have h1 := kidsS_names hi p
  have h2 : ((T.kids p).map (·.name)).Nodup := by
    rw [List.Nodup, List.pairwise_map]
    have hs : (T.kids p).Pairwise fun a b => a.path < b.path := hi.sorted.sublist List.filter_sublist
    refine hs.imp_of_mem fun {a b} ha hb hab hn => ?_
    unfold Tr.kids at ha hb
    obtain ⟨a1, a2⟩ := List.mem_filter.1 ha
    obtain ⟨b1, b2⟩ := List.mem_filter.1 hb
    unfold Tr.isKid at a2 b2
    have a2 := of_decide_eq_true a2
    have b2 := of_decide_eq_true b2
    have := hi.names a a1 b b1 a2.1 b2.1 (by rw [a2.2, b2.2]) hn
    omega
  have h3 : ((T.kidsS p).map (·.name)).Nodup := by rw [h1]; exact (sortS_mem _).nodup_iff.2 h2
  exact List.Pairwise.of_map (S := (· ≠ ·)) _ (fun a b h e => h (by rw [e])) h3
theorem below_nodup (hi : Inv T) : ∀ (f : Nat) {n : Nd}, n ∈ T.ns → (belowN T f n).Nodup
  | 0, _, _ => List.nodup_nil
  | f + 1, n, hn => by
    unfold belowN
    have kidC : ∀ k ∈ T.kidsS n.path, ∀ m ∈ belowN T f k, ∃ r, T.chain m = T.chain n ++ k.name :: r := by
      intro k hk m hm
      obtain ⟨k1, k2, k3⟩ := kidsS_mem hi hk
      obtain ⟨r, hr⟩ := below_chain hi f k1 hm
      have hp : T.parent k = n := by
        obtain ⟨p1, p2, _⟩ := parent_mem hi k1 k2
        exact hi.inj p1 hn (by rw [p2, k3])
      exact ⟨r, by rw [hr, chain_step hi k1 k2, hp]; simp⟩
    rw [List.nodup_cons]
    constructor
    · intro hc
      obtain ⟨k, hk, hm⟩ := List.mem_flatMap.1 hc
      obtain ⟨r, hr⟩ := kidC k hk n hm
      have := congrArg List.length hr
      simp at this
    · rw [List.Nodup, List.pairwise_flatMap]
      refine ⟨fun k hk => below_nodup hi f (kidsS_mem hi hk).1, ?_⟩
      refine (kidsS_nodup hi n.path).imp_of_mem fun {a b} ha hb hab m hma m2 hmb he => ?_
      subst he
      obtain ⟨r1, h1⟩ := kidC a ha m hma
      obtain ⟨r2, h2⟩ := kidC b hb m hmb
      rw [h1] at h2
      have h3 := List.append_cancel_left h2
      simp only [List.cons.injEq] at h3
      exact hab (kids_name_inj hi ha hb h3.1)
theorem below_len (hi : Inv T) (f : Nat) {n : Nd} (hn : n ∈ T.ns) : (belowN T f n).length ≤ 1024 := by
  have h1 := below_nodup hi f hn
  have key : ∀ (a b : List Nd), a.Nodup → (∀ e ∈ a, e ∈ b) → a.length ≤ b.length := by
    classical
    intro a
    induction a with
    | nil => intro b _ _; exact Nat.zero_le _
    | cons x r ih =>
      intro b hn hs
      rw [List.nodup_cons] at hn
      have hx := hs x List.mem_cons_self
      obtain ⟨b', hb⟩ := split_perm hx
      have := ih b' hn.2 fun e he => by
        rcases List.mem_cons.1 (hb.mem_iff.1 (hs e (List.mem_cons_of_mem _ he))) with h | h
        · exact absurd (h ▸ he) hn.1
        · exact h
      rw [hb.length_eq]
      simp only [List.length_cons]; omega
  have := key _ T.ns h1 fun e he => below_mem hi f hn he
  have := hi.few.1
  omega
/-- A file with its path. -/
structure Fl where
  path : BA
  dir : Dr
  data : BA
abbrev Fl.cs (x : Fl) : List Value := [str x.path, i64 x.dir.kind, i64 x.dir.vers, i64 x.dir.path, i64 x.dir.mode, i64 x.dir.time, i64 x.dir.len, str x.dir.name, str x.dir.owner, str x.dir.group, str x.dir.last, str x.data]
abbrev Fl.V (x : Fl) : Value := .agg x.cs.toArray
abbrev fcs (xs : List Fl) : List Value := xs.flatMap Fl.cs
def Tr.fl (T : Tr) (n : Nd) : Fl := ⟨T.pathS n, n.stat, n.data⟩
def Tr.files (T : Tr) : List Fl := match T.get 0 with
  | none => []
  | some r => (belowN T 2000 r).map T.fl
end Go.Proofs.YtnnhmahemklnkaaGreatDoor

/-
  Trees: all files.
-/
namespace Go.Proofs.YtnnhmahemklnkaaGreatDoor
open Go Go.Sh
set_option maxRecDepth 100000
set_option linter.unusedVariables false
set_option linter.unusedSimpArgs false
variable {w0 w : World} {F : Nat → Prop} {l : List As}
variable {D : List Row} {X : PT} {T : Tr} {β : Int → Nat}

theorem u_sl_File : PP.underlying Ty.sl_tree_File = some (.slice Ty.tree_File) := by kernel_rfl
theorem n_File : sizeK PP Ty.tree_File = some 12 := by kernel_rfl
abbrev f0F : Fl := ⟨emp, d0, emp⟩
theorem z_File : zeroK PP Ty.tree_File = some f0F.V := by kernel_rfl
theorem e_File : el3 PP Ty.tree_File = some (some f0F.V, 12, 144) := by kernel_rfl
theorem fl_scal (x : Fl) : x.cs.all scalV = true := rfl
theorem fcs_app (xs : List Fl) (x : Fl) : fcs (xs ++ [x]) = fcs xs ++ x.cs := by simp [fcs]
theorem fcs_len (xs : List Fl) : (fcs xs).length = xs.length * 12 := by
  induction xs with
  | nil => rfl
  | cons d r ih =>
    rw [fcs, List.flatMap_cons, List.length_append, List.length_cons]
    have : (List.flatMap Fl.cs r).length = r.length * 12 := ih
    rw [this]
    show 12 + r.length * 12 = (r.length + 1) * 12
    omega
theorem BdS.file {x : Fl} {k : Value → World → Prop} (E : Hs w0 F w l) (hk : ∀ v w', Hs w0 F w' (slA v Ty.tree_File 12 x.cs :: l) → k v w') : Ef PP (Instr.buildSlice Ty.sl_tree_File 1 #[(0, x.V)]) w k :=
  BdS.sl E u_sl_File n_File z_File (by omega) (by omega) (xs := x.cs) (by kernel_rfl) rfl hk
theorem Files_ok (h : Tie D X T β) (hi : Inv T) (E : Hs w0 F w (trA X :: Pool D :: l)) :
    Ca PP Fn.tree_Tree_Files #[ptr X.t] w fun r w' => Hs w0 F w' (slA r Ty.tree_File 12 (fcs T.files) :: trA X :: Pool D :: l) := by
  refine S.tree_Tree_Files.calls ?_
  unfold S.tree_Tree_Files
  (repeat first | (with_reducible first | refine Stp.go ?_ | refine StpE.go E ?_ | (refine StpW.go E ?_; clear E; intro w_ E) | (refine StpA.go E ?_; clear E; intro b_ w_ hb_ E) | refine Ld.pt E (by (repeat (first | assumption | with_reducible exact List.mem_cons_self | refine List.mem_cons_of_mem _ ?_))) rfl ?_ | (apply LdA.pt E; (focus ((repeat (first | assumption | with_reducible exact List.mem_cons_self | refine List.mem_cons_of_mem _ ?_)); done)); (focus (simp only [Nat.reduceAdd, Nat.zero_add, List.drop_succ_cons, List.drop_zero, List.take_succ_cons, List.take_zero, List.take_nil, List.drop_nil]; exact rfl)); (focus exact rfl)) | (apply hJ3; intro u_) | refine LnL.nil ?_) | ((with_reducible refine Bi.dec true ?_ ?_); focus exact rfl) | ((with_reducible refine Bi.dec false ?_ ?_); focus exact rfl) | ((with_reducible refine Bi.sdec true ?_ ?_); focus decide) | ((with_reducible refine Bi.sdec false ?_ ?_); focus decide))
  (revert b_; intro t3 hbt3 E)
  (intro J3 hJ3)
  refine Eq.nt u_p_tree rfl ?_
  replace E := Hs.openT (E.bIx 1)
  (repeat with_reducible first | refine Stp.go ?_ | refine StpE.go E ?_)
  obtain ⟨r0, hr0, hr1, hr2⟩ := h.root
  have hg0 : T.get 0 = some r0.f := hi.get.2 ⟨h.mem.2 ⟨r0, hr0, rfl⟩, hr1⟩
  have hr0T := h.mem.2 ⟨r0, hr0, rfl⟩
  rw [← hr2]
  refine (all_ok E).mono ?_
  clear E
  rintro r w_ ⟨a, rfl, E⟩
  obtain ⟨rk, hrk, hrb⟩ := hi.rankB
  have hmap := allP_map h hi 2000 hr0
  have hlen := below_len hi 2000 hr0T
  rw [← hmap, List.length_map] at hlen
  have hfiles : T.files = (allP X T 2000 r0).map fun k => T.fl k.f := by
    unfold Tr.files
    rw [hg0]
    simp only []
    rw [← hmap, List.map_map]
    rfl
  rw [hfiles]
  have hmemB : ∀ m ∈ allP X T 2000 r0, m ∈ X.ps := fun m hm => allP_mem h hi 2000 hr0 hm
  have hit := all_iter (w0 := w0) (F := F) h hi hrk hrb 2000 hr0 (by omega) a
  generalize allP X T 2000 r0 = B at hlen hmemB hit hfiles ⊢
  replace E := E.nilSl Ty.tree_File 12
  -- slA, pt a, tb, fm, gm, om, NT, DT, pt t3, Pool, l   (some order)
  (replace E := ((E.bPt t3).bSl (.slice none 0 0)))
  (replace E := (((((E.bIx 7).bIx 3).bIx 9).bIx 4).bIx 4))
  refine RFo.hs (rest := tb X :: mp X.fm (.int .i64) X.fM :: mp X.gm .str X.gM :: mp X.om (.int .i64) X.oM :: DT X.ds :: l) rfl b_all1 hit (fun pre ks => ∃ v, ks = [slA v Ty.tree_File 12 (fcs (pre.map fun k => T.fl k.f)), pt t3 (oc [v] Ty.sl_tree_File), Pool D]) (fun _ _ _ => False) (fun _ _ => False)
    (ks := [slA (.slice none 0 0) Ty.tree_File 12 [], pt t3 (oc [.slice none 0 0] Ty.sl_tree_File), Pool D]) E ⟨_, rfl⟩ ?_ ?_ (fun _ _ _ _ _ _ h _ => h.elim) (fun _ _ _ _ _ h _ => h.elim)
  · clear E
    rintro r L0 D0 pre k w_ _ rest' Rn Re Rr hL0 hD0 hp ⟨v, rfl⟩ E hn2 - -
    simp only [List.cons_append, List.nil_append] at E
    have hkX := hmemB k (List.mem_of_getElem? hp.2)
    have hpl : pre.length < B.length := (List.getElem?_eq_some_iff.1 hp.2).1
    (repeat first | (with_reducible first | refine Stp.go ?_ | refine StpE.go E ?_ | (refine StpW.go E ?_; clear E; intro w_ E) | (refine StpA.go E ?_; clear E; intro b_ w_ hb_ E) | refine Ld.pt E (by (repeat (first | assumption | with_reducible exact List.mem_cons_self | refine List.mem_cons_of_mem _ ?_))) rfl ?_ | (apply LdA.pt E; (focus ((repeat (first | assumption | with_reducible exact List.mem_cons_self | refine List.mem_cons_of_mem _ ?_)); done)); (focus (simp only [Nat.reduceAdd, Nat.zero_add, List.drop_succ_cons, List.drop_zero, List.take_succ_cons, List.take_zero, List.take_nil, List.drop_nil]; exact rfl)); (focus exact rfl)) | (apply hJ3; intro u_) | refine LnL.nil ?_) | ((with_reducible refine Bi.dec true ?_ ?_); focus exact rfl) | ((with_reducible refine Bi.dec false ?_ ?_); focus exact rfl) | ((with_reducible refine Bi.sdec true ?_ ?_); focus decide) | ((with_reducible refine Bi.sdec false ?_ ?_); focus decide))
    refine Ld.nt E (by simp) hkX (v := k.dv) rfl ?_
    (repeat with_reducible first | refine Stp.go ?_ | refine StpE.go E ?_)
    have hdv : ∀ {w l}, Hs w0 F w l → Pool D ∈ l → RdS w0 F l 1 k.f.data.size k.dv (bts k.f.data) := by
      intro w l E hm
      have := (h.data k hkX).read E hm
      have hsz : (bts k.f.data).length = k.f.data.size := by simp [bts]
      rwa [hsz] at this
    refine (hdv E (by simp)).cvb E u_sl_uint8 u_string u_uint8 ?_
    refine (path_ok h hi hkX (by simp) E).mono ?_
    clear E
    rintro r0' w_ ⟨rfl, E⟩
    refine ⟨by (repeat with_reducible first | refine Stp.go ?_ | refine StpE.go E ?_); rfl, Ld.nt E (by simp) hkX (v := k.dv) rfl rfl, (hdv E (by simp)).cvb E u_sl_uint8 u_string u_uint8 rfl, ?_⟩
    replace E := E.bIx 5
    refine (stat_nt h hkX (by simp) E).mono ?_
    clear E
    rintro r0' w_ ⟨rfl, E⟩
    refine ⟨by (repeat with_reducible first | refine Stp.go ?_ | refine StpE.go E ?_); rfl, Ld.nt E (by simp) hkX (v := k.dv) rfl rfl, (hdv E (by simp)).cvb E u_sl_uint8 u_string u_uint8 rfl, ?_⟩
    (repeat with_reducible first | refine Stp.go ?_ | refine StpE.go E ?_)
    refine BdS.file (x := T.fl k.f) E ?_
    clear E
    intro v2 w_ E
    (repeat with_reducible first | refine Stp.go ?_ | refine StpE.go E ?_ | (apply hJ3; intro u_))
    refine ⟨by (repeat with_reducible first | refine Stp.go ?_ | refine StpE.go E ?_ | (apply hJ3; intro u_)); rfl, ?_⟩
    have hsl := Src.slice (P := PP) (E.sat (slA v2 Ty.tree_File 12 (T.fl k.f).cs) (by simp)) (n := 1) rfl (by omega) (fl_scal _)
    have hdl := fcs_len (pre.map fun k => T.fl k.f)
    rw [List.length_map] at hdl
    refine Ap.el E (i := 4) rfl u_sl_File ⟨_, u_sl_File, fun _ h => by cases h⟩ e_File (by omega) hsl rfl (by rw [hdl]; omega) (by rw [hdl]; omega) ?_
    clear E
    intro s' w_ E
    (try simp only [List.set_cons_zero, List.set_cons_succ, List.cons_append, List.nil_append, Nat.zero_add, Nat.add_zero] at E)
    (repeat first | (with_reducible first | refine Stp.go ?_ | refine StpE.go E ?_ | (refine StpW.go E ?_; clear E; intro w_ E) | (refine StpA.go E ?_; clear E; intro b_ w_ hb_ E) | refine Ld.pt E (by (repeat (first | assumption | with_reducible exact List.mem_cons_self | refine List.mem_cons_of_mem _ ?_))) rfl ?_ | (apply LdA.pt E; (focus ((repeat (first | assumption | with_reducible exact List.mem_cons_self | refine List.mem_cons_of_mem _ ?_)); done)); (focus (simp only [Nat.reduceAdd, Nat.zero_add, List.drop_succ_cons, List.drop_zero, List.take_succ_cons, List.take_zero, List.take_nil, List.drop_nil]; exact rfl)); (focus exact rfl)) | (apply hJ3; intro u_) | refine LnL.nil ?_) | ((with_reducible refine Bi.dec true ?_ ?_); focus exact rfl) | ((with_reducible refine Bi.dec false ?_ ?_); focus exact rfl) | ((with_reducible refine Bi.sdec true ?_ ?_); focus decide) | ((with_reducible refine Bi.sdec false ?_ ?_); focus decide))
    refine hn2 _ _ ⟨s', rfl⟩ ?_
    simp only [List.cons_append, List.nil_append]
    replace E := E.tl
    rw [List.map_append, List.map_singleton, fcs_app]
    (replace E := ((((((E.bIx 0).bIx 5).bIx 5).bIx 5).bIx 5).bIx 5))
    exact E
  · clear E
    rintro D0 w_ xs _ hD0 hxs ⟨v, rfl⟩ E
    rw [hxs] at E
    simp only [List.cons_append, List.nil_append] at E
    (repeat first | (with_reducible first | refine Stp.go ?_ | refine StpE.go E ?_ | (refine StpW.go E ?_; clear E; intro w_ E) | (refine StpA.go E ?_; clear E; intro b_ w_ hb_ E) | refine Ld.pt E (by (repeat (first | assumption | with_reducible exact List.mem_cons_self | refine List.mem_cons_of_mem _ ?_))) rfl ?_ | (apply LdA.pt E; (focus ((repeat (first | assumption | with_reducible exact List.mem_cons_self | refine List.mem_cons_of_mem _ ?_)); done)); (focus (simp only [Nat.reduceAdd, Nat.zero_add, List.drop_succ_cons, List.drop_zero, List.take_succ_cons, List.take_zero, List.take_nil, List.drop_nil]; exact rfl)); (focus exact rfl)) | (apply hJ3; intro u_) | refine LnL.nil ?_) | ((with_reducible refine Bi.dec true ?_ ?_); focus exact rfl) | ((with_reducible refine Bi.dec false ?_ ?_); focus exact rfl) | ((with_reducible refine Bi.sdec true ?_ ?_); focus decide) | ((with_reducible refine Bi.sdec false ?_ ?_); focus decide))
    show Hs w0 F w_ (slA v Ty.tree_File 12 (fcs T.files) :: trA X :: Pool D :: l)
    rw [hfiles]
    (replace E := ((((((((E.bIx 2).bIx 1).bIx 9).bIx 5).bIx 9).bIx 9).bIx 9).bIx 9))
    replace E := Hs.closeT X E
    (replace E := (((E.bIx 2).bIx 1).bIx 2))
    exact E.drop (List.Sublist.cons_cons _ (List.Sublist.cons_cons _ (List.Sublist.cons_cons _ (List.sublist_append_right [_, _] l))))
end Go.Proofs.YtnnhmahemklnkaaGreatDoor

/-
  TreeForeign, plain: the files that are told.
-/
namespace Go.Proofs.YtnnhmahemklnkaaGreatDoor
open Go Go.Sh
set_option maxRecDepth 100000
set_option linter.unusedVariables false
set_option linter.unusedSimpArgs false
variable {data : BA} {T : Tr}

theorem fo_get {r d f : Nd} (hn : T.ns = [r, d, f]) (h : FoN data r d f) : T.get 0 = some r ∧ T.get 1 = some d ∧ T.get 2 = some f := by
  unfold Tr.get
  rw [hn]
  simp [List.find?, h.rp, h.dp, h.fp]
theorem fo_kids {r d f : Nd} (hn : T.ns = [r, d, f]) (h : FoN data r d f) : T.kids 0 = [d] ∧ T.kids 1 = [f] ∧ T.kids 2 = [] := by
  unfold Tr.kids Tr.isKid
  rw [hn]
  simp [List.filter, h.rp, h.dp, h.fp, h.ru, h.du, h.fu]
theorem fo_kidsS {r d f : Nd} (hn : T.ns = [r, d, f]) (h : FoN data r d f) : T.kidsS 0 = [d] ∧ T.kidsS 1 = [f] ∧ T.kidsS 2 = [] := by
  obtain ⟨k0, k1, k2⟩ := fo_kids hn h
  have s1 : ∀ x : BA, sortS [x] = [x] := fun x => List.perm_singleton.1 (sortS_mem [x])
  unfold Tr.kidsS Tr.kid
  rw [k0, k1, k2]
  refine ⟨?_, ?_, ?_⟩
  · rw [List.map_singleton, s1]; simp
  · rw [List.map_singleton, s1]; simp
  · rw [List.map_nil, List.perm_nil.1 (sortS_mem [])]; rfl
theorem fo_files {r d f : Nd} (hn : T.ns = [r, d, f]) (h : FoN data r d f) : T.files = [T.fl r, T.fl d, T.fl f] ∧ T.pathS f = ⟨#[47, 100, 47, 102]⟩ := by
  obtain ⟨g0, g1, g2⟩ := fo_get hn h
  obtain ⟨k0, k1, k2⟩ := fo_kidsS hn h
  have b3 : ∀ n, belowN T (n + 1) f = [f] := by intro n; rw [belowN, h.fp, k2]; rfl
  have b2 : ∀ n, belowN T (n + 2) d = [d, f] := by intro n; rw [belowN, h.dp, k1]; simp [b3]
  have b1 : ∀ n, belowN T (n + 3) r = [r, d, f] := by intro n; rw [belowN, h.rp, k0]; simp [b2]
  have p1 : T.parent f = d := by unfold Tr.parent; rw [h.fu, g1]; rfl
  have p2 : T.parent d = r := by unfold Tr.parent; rw [h.du, g0]; rfl
  have c1 : ∀ n, chainN T (n + 1) r = [] := by intro n; rw [chainN, if_pos h.rp]
  have c2 : ∀ n, chainN T (n + 2) d = [d.name] := by intro n; rw [chainN, if_neg (by rw [h.dp]; decide), p2, c1]; rfl
  have c3 : ∀ n, chainN T (n + 3) f = [d.name, f.name] := by intro n; rw [chainN, if_neg (by rw [h.fp]; decide), p1, c2]; rfl
  constructor
  · unfold Tr.files
    rw [g0]
    show (belowN T (1997 + 3) r).map T.fl = _
    rw [b1]; rfl
  · unfold Tr.pathS Tr.chain
    rw [show (2000 : Nat) = 1997 + 3 from rfl, c3, h.dn, h.fn]
    rfl
end Go.Proofs.YtnnhmahemklnkaaGreatDoor

/-
  TreeForeign: the law.
-/
namespace Go.Proofs.YtnnhmahemklnkaaGreatDoor
open Go Go.Sh
set_option maxRecDepth 100000
set_option linter.unusedVariables false
set_option linter.unusedSimpArgs false
variable {w0 w : World} {F : Nat → Prop} {l : List As}

theorem u_sl_Group : PP.underlying Ty.sl_tree_Group = some (.slice Ty.tree_Group) := by kernel_rfl
theorem n_Group : sizeK PP Ty.tree_Group = some 2 := by kernel_rfl
theorem z_Group : zeroK PP Ty.tree_Group = some (.agg #[str emp, .slice none 0 0]) := by kernel_rfl
theorem BdS.grp {s : BA} {v : Value} {k : Value → World → Prop} (E : Hs w0 F w l) (hk : ∀ v2 w', Hs w0 F w' (slA v2 Ty.tree_Group 2 [str s, v] :: l) → k v2 w') : Ef PP (Instr.buildSlice Ty.sl_tree_Group 1 #[(0, .agg #[str s, v])]) w k :=
  BdS.sl E u_sl_Group n_Group z_Group (by omega) (by omega) (xs := [str s, v]) (by kernel_rfl) rfl hk
theorem gin_one {g : BA} {us : List BA} {v v2 : Value} (hw : Hs w0 F w l) (h1 : slA v2 Ty.tree_Group 2 [str g, v] ∈ l) (h2 : slA v Ty.string 1 (us.map str) ∈ l) : GIn w0 F l v2 [(g, v)] [(g, us)] := by
  have hrd : RdS w0 F l 2 1 v2 [str g, v] := by
    have := RdS.sl h1 (by omega) hw
    rw [show [str g, v].length / 2 = 1 by simp] at this
    exact this
  refine ⟨hrd, rfl, fun i a b ha hb => ?_⟩
  cases i with
  | zero =>
    obtain rfl : (g, v) = a := by simpa using ha
    obtain rfl : (g, us) = b := by simpa using hb
    refine ⟨rfl, ?_⟩
    have := RdS.sl h2 (by omega) hw
    rw [Nat.div_one, List.length_map] at this
    exact this
  | succ i => simp at ha
theorem checkG_fo : checkG [(crewS, [bobS])] [ann] = 0 := by decide
theorem fcs_at {xs : List Fl} : ∀ {i : Nat} {x : Fl}, xs[i]? = some x → ((fcs xs).drop (i * 12)).take 12 = x.cs := by
  induction xs with
  | nil => intro i x h; simp at h
  | cons y r ih =>
    intro i x h
    have e : fcs (y :: r) = y.cs ++ fcs r := by simp [fcs]
    cases i with
    | zero =>
      obtain rfl : y = x := by simpa using h
      rw [e, Nat.zero_mul, List.drop_zero]
      exact List.take_left (l₁ := y.cs) (l₂ := fcs r)
    | succ i =>
      rw [e, show (i + 1) * 12 = y.cs.length + i * 12 by show _ = 12 + i * 12; omega, ← List.drop_drop, List.drop_left]
      exact ih (by simpa using h)
theorem fo_stat {data : BA} (hd : data.size ≤ 600) : (fo5 data).stat 2 = ((ffD data).stat, 0) := by
  rw [(fo5_eq hd).2]
  unfold Tr.stat Tr.get
  simp [List.find?, (ffD_data data).2.1]
abbrev bobbed (x : Ac) : Ac := { x with user := bobS }
theorem bobbed_ok {x : Ac} (h : x.Ok) : (bobbed x).Ok := ⟨by show (3 : Nat) ≤ _; omega, h.name, h.data, h.dname, h.downer, h.dgroup, h.dlast, h.nums⟩
theorem Foreign_law {D : List Row} {data : BA} {v : Value} {xs : List Ac} (hp : data.size ≤ 9223372036854775807) (hok : ∀ x ∈ xs, x.Ok) (hxl : xs.length ≤ 9223372036854775807) (hr : ∀ l, RdS w0 F l 20 xs.length v (acs xs)) (E : Hs w0 F w (Pool D :: l)) :
    Ca PP Fn.law28_TreeForeign #[str data, v] w fun r w' => r = .bool true ∧ ∃ l', Hs w0 F w' l' := by
  refine S.law28_TreeForeign.calls ?_
  unfold S.law28_TreeForeign
  refine (awake_ok E).mono ?_
  clear E
  rintro r w_ ⟨rfl, D', -, E⟩
  (repeat first | (with_reducible first | refine Stp.go ?_ | refine StpE.go E ?_ | (refine StpW.go E ?_; clear E; intro w_ E) | (refine StpA.go E ?_; clear E; intro b_ w_ hb_ E) | (apply hJ4; intro u_) | (apply hJ17; intro u_) | (apply hJ29; intro u_) | (apply hJ48; intro u_) | (apply hJ101; intro u_) | refine LnL.nil ?_) | ((with_reducible refine Bi.dec true ?_ ?_); focus exact rfl) | ((with_reducible refine Bi.dec false ?_ ?_); focus exact rfl) | ((with_reducible refine Bi.sdec true ?_ ?_); focus decide) | ((with_reducible refine Bi.sdec false ?_ ?_); focus decide))
  (intro J4 hJ4)
  have fin4 : ∀ b w_, (b = false → data.size ≤ 600 ∧ xs.length ≤ 40) → Hs w0 F w_ (Pool D' :: l) → J4 [.bool b] w_ := by
    intro b w_ hb E
    (repeat first | (with_reducible first | refine Stp.go ?_ | refine StpE.go E ?_ | (refine StpW.go E ?_; clear E; intro w_ E) | (refine StpA.go E ?_; clear E; intro b_ w_ hb_ E) | (apply hJ4; intro u_) | (apply hJ17; intro u_) | (apply hJ29; intro u_) | (apply hJ48; intro u_) | (apply hJ101; intro u_) | refine LnL.nil ?_) | ((with_reducible refine Bi.dec true ?_ ?_); focus exact rfl) | ((with_reducible refine Bi.dec false ?_ ?_); focus exact rfl) | ((with_reducible refine Bi.sdec true ?_ ?_); focus decide) | ((with_reducible refine Bi.sdec false ?_ ?_); focus decide))
    cases b with
    | true => (repeat first | (with_reducible first | refine Stp.go ?_ | refine StpE.go E ?_ | (refine StpW.go E ?_; clear E; intro w_ E) | (refine StpA.go E ?_; clear E; intro b_ w_ hb_ E) | (apply hJ4; intro u_) | (apply hJ17; intro u_) | (apply hJ29; intro u_) | (apply hJ48; intro u_) | (apply hJ101; intro u_) | refine LnL.nil ?_) | ((with_reducible refine Bi.dec true ?_ ?_); focus exact rfl) | ((with_reducible refine Bi.dec false ?_ ?_); focus exact rfl) | ((with_reducible refine Bi.sdec true ?_ ?_); focus decide) | ((with_reducible refine Bi.sdec false ?_ ?_); focus decide)); exact ⟨rfl, _, E⟩
    | false =>
      obtain ⟨hp1, hx1⟩ := hb rfl
      (repeat first | (with_reducible first | refine Stp.go ?_ | refine StpE.go E ?_ | (refine StpW.go E ?_; clear E; intro w_ E) | (refine StpA.go E ?_; clear E; intro b_ w_ hb_ E) | (apply hJ4; intro u_) | (apply hJ17; intro u_) | (apply hJ29; intro u_) | (apply hJ48; intro u_) | (apply hJ101; intro u_) | refine LnL.nil ?_) | ((with_reducible refine Bi.dec true ?_ ?_); focus exact rfl) | ((with_reducible refine Bi.dec false ?_ ?_); focus exact rfl) | ((with_reducible refine Bi.sdec true ?_ ?_); focus decide) | ((with_reducible refine Bi.sdec false ?_ ?_); focus decide))
      refine BdS.one E u_sl_string e_string rfl ?_
      clear E
      intro v1 w_ E
      (repeat first | (with_reducible first | refine Stp.go ?_ | refine StpE.go E ?_ | (refine StpW.go E ?_; clear E; intro w_ E) | (refine StpA.go E ?_; clear E; intro b_ w_ hb_ E) | (apply hJ4; intro u_) | (apply hJ17; intro u_) | (apply hJ29; intro u_) | (apply hJ48; intro u_) | (apply hJ101; intro u_) | refine LnL.nil ?_) | ((with_reducible refine Bi.dec true ?_ ?_); focus exact rfl) | ((with_reducible refine Bi.dec false ?_ ?_); focus exact rfl) | ((with_reducible refine Bi.sdec true ?_ ?_); focus decide) | ((with_reducible refine Bi.sdec false ?_ ?_); focus decide))
      refine BdS.grp E ?_
      clear E
      intro v2 w_ E
      (replace E := (((E.bIx 1).bIx 1).bIx 2))
      have hg := gin_one (us := [bobS]) E.tl (g := crewS) (v := v1) (v2 := v2) (by simp) (by simp)
      refine (New_ok (owner := ann) hg (by simp) (fun g h => by simp at h; subst h; simp) (by
        intro s hs
        have : s = ann ∨ s = crewS ∨ s = bobS := by simpa [gwords] using hs
        rcases this with rfl | rfl | rfl <;> decide) E).mono ?_
      clear E
      rintro r w_ (⟨hc, -, -⟩ | ⟨-, D1, X, β, rfl, hD1, h, hi, E⟩)
      · exact absurd checkG_fo hc
      (repeat first | (with_reducible first | refine Stp.go ?_ | refine StpE.go E ?_ | (refine StpW.go E ?_; clear E; intro w_ E) | (refine StpA.go E ?_; clear E; intro b_ w_ hb_ E) | (apply hJ4; intro u_) | (apply hJ17; intro u_) | (apply hJ29; intro u_) | (apply hJ48; intro u_) | (apply hJ101; intro u_) | refine LnL.nil ?_) | ((with_reducible refine Bi.dec true ?_ ?_); focus exact rfl) | ((with_reducible refine Bi.dec false ?_ ?_); focus exact rfl) | ((with_reducible refine Bi.sdec true ?_ ?_); focus decide) | ((with_reducible refine Bi.sdec false ?_ ?_); focus decide))
      (intro J17 hJ17)
      have fin17 : ∀ w_, Hs w0 F w_ (trA X :: Pool D1 :: l) → J17 [.bool false] w_ := by
        intro w_ E
        (repeat first | (with_reducible first | refine Stp.go ?_ | refine StpE.go E ?_ | (refine StpW.go E ?_; clear E; intro w_ E) | (refine StpA.go E ?_; clear E; intro b_ w_ hb_ E) | (apply hJ4; intro u_) | (apply hJ17; intro u_) | (apply hJ29; intro u_) | (apply hJ48; intro u_) | (apply hJ101; intro u_) | refine LnL.nil ?_) | ((with_reducible refine Bi.dec true ?_ ?_); focus exact rfl) | ((with_reducible refine Bi.dec false ?_ ?_); focus exact rfl) | ((with_reducible refine Bi.sdec true ?_ ?_); focus decide) | ((with_reducible refine Bi.sdec false ?_ ?_); focus decide))
        have l0 : Lim 1 fo0 := newT_lim _ _
        refine (Create_ok h hi (N := 1) (by omega) l0 (by decide) (by decide) E).mono ?_
        clear E
        rintro r w_ ⟨rfl, D2, X2, β2, hD2, ht2, h2, E⟩
        rw [fo_c1]
        have i1 : Inv fo1 := create_inv hi _ _ _ _ _
        have l1 : Lim 4 fo1 := create_lim l0 (by omega) _ _ _ _ _
        (repeat first | (with_reducible first | refine Stp.go ?_ | refine StpE.go E ?_ | (refine StpW.go E ?_; clear E; intro w_ E) | (refine StpA.go E ?_; clear E; intro b_ w_ hb_ E) | (apply hJ4; intro u_) | (apply hJ17; intro u_) | (apply hJ29; intro u_) | (apply hJ48; intro u_) | (apply hJ101; intro u_) | refine LnL.nil ?_) | ((with_reducible refine Bi.dec true ?_ ?_); focus exact rfl) | ((with_reducible refine Bi.dec false ?_ ?_); focus exact rfl) | ((with_reducible refine Bi.sdec true ?_ ?_); focus decide) | ((with_reducible refine Bi.sdec false ?_ ?_); focus decide))
        (revert b_; intro q hbq E)
        rw [← ht2]
        (repeat first | (with_reducible first | refine Stp.go ?_ | refine StpE.go E ?_ | (refine StpW.go E ?_; clear E; intro w_ E) | (refine StpA.go E ?_; clear E; intro b_ w_ hb_ E) | (apply hJ4; intro u_) | (apply hJ17; intro u_) | (apply hJ29; intro u_) | (apply hJ48; intro u_) | (apply hJ101; intro u_) | refine LnL.nil ?_) | ((with_reducible refine Bi.dec true ?_ ?_); focus exact rfl) | ((with_reducible refine Bi.dec false ?_ ?_); focus exact rfl) | ((with_reducible refine Bi.sdec true ?_ ?_); focus decide) | ((with_reducible refine Bi.sdec false ?_ ?_); focus decide))
        (intro J29 hJ29)
        have fin29 : ∀ X3 D3 β3 w_, X3.t = X2.t → Tie D3 X3 fo2 β3 → Hs w0 F w_ (trA X3 :: Pool D3 :: pt q (oc [i64 128, i64 0, i64 1] Ty.api_Qid) :: l) → J29 [.bool false] w_ := by
          intro X3 D3 β3 w_ ht3 h3 E
          (repeat first | (with_reducible first | refine Stp.go ?_ | refine StpE.go E ?_ | (refine StpW.go E ?_; clear E; intro w_ E) | (refine StpA.go E ?_; clear E; intro b_ w_ hb_ E) | (apply hJ4; intro u_) | (apply hJ17; intro u_) | (apply hJ29; intro u_) | (apply hJ48; intro u_) | (apply hJ101; intro u_) | refine LnL.nil ?_) | ((with_reducible refine Bi.dec true ?_ ?_); focus exact rfl) | ((with_reducible refine Bi.dec false ?_ ?_); focus exact rfl) | ((with_reducible refine Bi.sdec true ?_ ?_); focus decide) | ((with_reducible refine Bi.sdec false ?_ ?_); focus decide))
          rw [← ht3]
          have i2 : Inv fo2 := close_inv i1 _
          have l2 : Lim 7 fo2 := close_lim l1 _
          refine (Create_ok h3 i2 (N := 7) (by omega) l2 (by decide) (by decide) E).mono ?_
          clear E
          rintro r w_ ⟨rfl, D4, X4, β4, hD4, ht4, h4, E⟩
          rw [fo_c3]
          have i3 : Inv fo3 := create_inv i2 _ _ _ _ _
          have l3 : Lim 10 fo3 := create_lim l2 (by omega) _ _ _ _ _
          (repeat first | (with_reducible first | refine Stp.go ?_ | refine StpE.go E ?_ | (refine StpW.go E ?_; clear E; intro w_ E) | (refine StpA.go E ?_; clear E; intro b_ w_ hb_ E) | (apply hJ4; intro u_) | (apply hJ17; intro u_) | (apply hJ29; intro u_) | (apply hJ48; intro u_) | (apply hJ101; intro u_) | refine LnL.nil ?_) | ((with_reducible refine Bi.dec true ?_ ?_); focus exact rfl) | ((with_reducible refine Bi.dec false ?_ ?_); focus exact rfl) | ((with_reducible refine Bi.sdec true ?_ ?_); focus decide) | ((with_reducible refine Bi.sdec false ?_ ?_); focus decide))
          (revert b_; intro q2 hbq2 E)
          (repeat first | (with_reducible first | refine Stp.go ?_ | refine StpE.go E ?_ | (refine StpW.go E ?_; clear E; intro w_ E) | (refine StpA.go E ?_; clear E; intro b_ w_ hb_ E) | (apply hJ4; intro u_) | (apply hJ17; intro u_) | (apply hJ29; intro u_) | (apply hJ48; intro u_) | (apply hJ101; intro u_) | refine LnL.nil ?_) | ((with_reducible refine Bi.dec true ?_ ?_); focus exact rfl) | ((with_reducible refine Bi.dec false ?_ ?_); focus exact rfl) | ((with_reducible refine Bi.sdec true ?_ ?_); focus decide) | ((with_reducible refine Bi.sdec false ?_ ?_); focus decide))
          rw [← ht4]
          (replace E := ((E.bIx 2).bIx 2))
          refine (Write_ok h4 i3 (N := 10) (by omega) l3 (off := 0) E).mono ?_
          clear E
          rintro r w_ ⟨rfl, D5, X5, β5, hD5, ht5, h5, E⟩
          rw [(fo4_eq hp1).1]
          have i4 : Inv (fo4 data) := write_inv i3 _ _ _
          have l4 : Lim 13 (fo4 data) := write_lim l3 _ _ _
          (repeat first | (with_reducible first | refine Stp.go ?_ | refine StpE.go E ?_ | (refine StpW.go E ?_; clear E; intro w_ E) | (refine StpA.go E ?_; clear E; intro b_ w_ hb_ E) | (apply hJ4; intro u_) | (apply hJ17; intro u_) | (apply hJ29; intro u_) | (apply hJ48; intro u_) | (apply hJ101; intro u_) | refine LnL.nil ?_) | ((with_reducible refine Bi.dec true ?_ ?_); focus exact rfl) | ((with_reducible refine Bi.dec false ?_ ?_); focus exact rfl) | ((with_reducible refine Bi.sdec true ?_ ?_); focus decide) | ((with_reducible refine Bi.sdec false ?_ ?_); focus decide))
          (intro J48 hJ48)
          have fin48 : ∀ X6 D6 β6 w_, X6.t = X4.t → Tie D6 X6 (fo5 data) β6 → Hs w0 F w_ (trA X6 :: Pool D6 :: pt q2 (oc [i64 0, i64 0, i64 2] Ty.api_Qid) :: pt q (oc [i64 128, i64 0, i64 1] Ty.api_Qid) :: l) → J48 [.bool false] w_ := by
            intro X6 D6 β6 w_ ht6 h6 E
            (repeat first | (with_reducible first | refine Stp.go ?_ | refine StpE.go E ?_ | (refine StpW.go E ?_; clear E; intro w_ E) | (refine StpA.go E ?_; clear E; intro b_ w_ hb_ E) | (apply hJ4; intro u_) | (apply hJ17; intro u_) | (apply hJ29; intro u_) | (apply hJ48; intro u_) | (apply hJ101; intro u_) | refine LnL.nil ?_) | ((with_reducible refine Bi.dec true ?_ ?_); focus exact rfl) | ((with_reducible refine Bi.dec false ?_ ?_); focus exact rfl) | ((with_reducible refine Bi.sdec true ?_ ?_); focus decide) | ((with_reducible refine Bi.sdec false ?_ ?_); focus decide))
            rw [← ht6]
            have i5 : Inv (fo5 data) := close_inv i4 _
            have l5 : Lim 16 (fo5 data) := close_lim l4 _
            refine (Stat_ok (user := ann) (file := 2) h6 i5 (by simp) E).mono ?_
            clear E
            rintro r w_ ⟨rfl, E⟩
            rw [fo_stat hp1]
            (repeat first | (with_reducible first | refine Stp.go ?_ | refine StpE.go E ?_ | (refine StpW.go E ?_; clear E; intro w_ E) | (refine StpA.go E ?_; clear E; intro b_ w_ hb_ E) | (apply hJ4; intro u_) | (apply hJ17; intro u_) | (apply hJ29; intro u_) | (apply hJ48; intro u_) | (apply hJ101; intro u_) | refine LnL.nil ?_) | ((with_reducible refine Bi.dec true ?_ ?_); focus exact rfl) | ((with_reducible refine Bi.dec false ?_ ?_); focus exact rfl) | ((with_reducible refine Bi.sdec true ?_ ?_); focus decide) | ((with_reducible refine Bi.sdec false ?_ ?_); focus decide))
            (revert b_; intro q3 hbq3 E)
            (repeat first | (with_reducible first | refine Stp.go ?_ | refine StpE.go E ?_ | (refine StpW.go E ?_; clear E; intro w_ E) | (refine StpA.go E ?_; clear E; intro b_ w_ hb_ E) | (apply hJ4; intro u_) | (apply hJ17; intro u_) | (apply hJ29; intro u_) | (apply hJ48; intro u_) | (apply hJ101; intro u_) | refine LnL.nil ?_) | ((with_reducible refine Bi.dec true ?_ ?_); focus exact rfl) | ((with_reducible refine Bi.dec false ?_ ?_); focus exact rfl) | ((with_reducible refine Bi.sdec true ?_ ?_); focus decide) | ((with_reducible refine Bi.sdec false ?_ ?_); focus decide))
            refine (hr l).len ?_
            refine ⟨fun l1 w1 => ∃ (i : Nat) (D' : List Row) (X' : PT) (β' : Int → Nat), l1 = [i64 i] ∧ i ≤ xs.length ∧ X'.t = X6.t ∧ Tie D' X' ((fo5 data).acts ((xs.take i).map bobbed)) β' ∧ Hs w0 F w1 (trA X' :: Pool D' :: pt q3 (oc (ffD data).stat.cs Ty.api_Dir) :: pt q2 (oc [i64 0, i64 0, i64 2] Ty.api_Qid) :: l),
              fun l1 _ => match l1 with | [.int _ i] => xs.length - i.toNat | _ => 0, ⟨0, D6, X6, β6, rfl, Nat.zero_le _, rfl, h6, ?_⟩, ?_⟩
            · (replace E := ((((E.bIx 3).bIx 1).bIx 3).bIx 3))
              exact (E.bIx 4).tl
            clear E
            rintro t u w_ ⟨i, D', X', β', h4', hle, ht, hT, E⟩
            cases h4'
            have hi' := acts_inv ((xs.take i).map bobbed) i5
            have hl' := acts_lim ((xs.take i).map bobbed) (by omega) l5
            have htl : ((xs.take i).map bobbed).length ≤ 40 := by rw [List.length_map, List.length_take]; omega
            have hl2 : Lim 136 ((fo5 data).acts ((xs.take i).map bobbed)) := hl'.mono (by omega)
            refine Bi.lss ?_ ?_ <;> intro hlt <;> (repeat first | (with_reducible first | refine Stp.go ?_ | refine StpE.go E ?_ | (refine StpW.go E ?_; clear E; intro w_ E) | (refine StpA.go E ?_; clear E; intro b_ w_ hb_ E) | (apply hJ4; intro u_) | (apply hJ17; intro u_) | (apply hJ29; intro u_) | (apply hJ48; intro u_) | (apply hJ101; intro u_) | refine LnL.nil ?_) | ((with_reducible refine Bi.dec true ?_ ?_); focus exact rfl) | ((with_reducible refine Bi.dec false ?_ ?_); focus exact rfl) | ((with_reducible refine Bi.sdec true ?_ ?_); focus decide) | ((with_reducible refine Bi.sdec false ?_ ?_); focus decide))
            · have hx : xs[i]? = some xs[i] := List.getElem?_eq_getElem (by omega)
              have hxo : xs[i].Ok := hok _ (List.getElem_mem _)
              generalize xs[i] = x at hx hxo
              have hat := acs_at hx
              refine (hr l).ix (by omega) (by omega) (by omega) ?_
              intro a ha
              rw [Int.toNat_natCast] at ha
              refine ha.lda E.tl.tl.tl.tl hat rfl (by omega) ?_
              (repeat first | (with_reducible first | refine Stp.go ?_ | refine StpE.go E ?_ | (refine StpW.go E ?_; clear E; intro w_ E) | (refine StpA.go E ?_; clear E; intro b_ w_ hb_ E) | (apply hJ4; intro u_) | (apply hJ17; intro u_) | (apply hJ29; intro u_) | (apply hJ48; intro u_) | (apply hJ101; intro u_) | refine LnL.nil ?_) | ((with_reducible refine Bi.dec true ?_ ?_); focus exact rfl) | ((with_reducible refine Bi.dec false ?_ ?_); focus exact rfl) | ((with_reducible refine Bi.sdec true ?_ ?_); focus decide) | ((with_reducible refine Bi.sdec false ?_ ?_); focus decide))
              (revert b_; intro b hbb E)
              refine StA.all (vs := x.C) E rfl rfl (ac_scal x) ?_
              clear E
              intro w_ E
              (repeat first | (with_reducible first | refine Stp.go ?_ | refine StpE.go E ?_ | (refine StpW.go E ?_; clear E; intro w_ E) | (refine StpA.go E ?_; clear E; intro b_ w_ hb_ E) | (apply hJ4; intro u_) | (apply hJ17; intro u_) | (apply hJ29; intro u_) | (apply hJ48; intro u_) | (apply hJ101; intro u_) | refine LnL.nil ?_) | ((with_reducible refine Bi.dec true ?_ ?_); focus exact rfl) | ((with_reducible refine Bi.dec false ?_ ?_); focus exact rfl) | ((with_reducible refine Bi.sdec true ?_ ?_); focus decide) | ((with_reducible refine Bi.sdec false ?_ ?_); focus decide))
              (replace E := ((E.bIx 2).bIx 2))
              rw [← ht]
              refine (Do_ok (x := bobbed x) hT hi' (by omega) hl2 (bobbed_ok hxo) E).mono ?_
              clear E
              rintro r w_ ⟨dv, rfl, D2', X2', β2', hD2', ht2', hT2, E⟩
              (repeat first | (with_reducible first | refine Stp.go ?_ | refine StpE.go E ?_ | (refine StpW.go E ?_; clear E; intro w_ E) | (refine StpA.go E ?_; clear E; intro b_ w_ hb_ E) | (apply hJ4; intro u_) | (apply hJ17; intro u_) | (apply hJ29; intro u_) | (apply hJ48; intro u_) | (apply hJ101; intro u_) | refine LnL.nil ?_) | ((with_reducible refine Bi.dec true ?_ ?_); focus exact rfl) | ((with_reducible refine Bi.dec false ?_ ?_); focus exact rfl) | ((with_reducible refine Bi.sdec true ?_ ?_); focus decide) | ((with_reducible refine Bi.sdec false ?_ ?_); focus decide))
              refine Bi.add (by omega) ?_
              have e : (fo5 data).acts ((xs.take (i + 1)).map bobbed) = (((fo5 data).acts ((xs.take i).map bobbed)).act (bobbed x)).1 := by
                rw [List.take_add_one, hx]
                show (fo5 data).acts (List.map bobbed (xs.take i ++ [x])) = _
                rw [List.map_append]
                exact acts_snoc _ _ _
              refine ⟨⟨i + 1, D2', X2', β2', by simp, by omega, by rw [ht2', ht], by rw [e]; exact hT2, ?_⟩, ?_⟩
              · exact ((((E.bIx 2).tl).bIx 2).tl)
              · simp only []; omega
            · have e : xs.take i = xs := List.take_of_length_le (by omega)
              rw [e] at hT hi'
              have hFo : Fo data ((fo5 data).acts (xs.map bobbed)) := (fo5_fo hp1).acts i5 (by
                intro x hx
                obtain ⟨y, -, rfl⟩ := List.mem_map.1 hx
                rfl)
              generalize (fo5 data).acts (xs.map bobbed) = T at hT hi' hFo
              obtain ⟨r, d, f, hn, hf⟩ := hFo.ns
              obtain ⟨hfl, hpath⟩ := fo_files hn hf
              rw [← ht]
              refine (Files_ok hT hi' E).mono ?_
              clear E
              intro rv w_ E
              rw [hfl] at E
              have hrF := RdS.sl (T := Ty.tree_File) (sz := 12) (v := rv) (xs := fcs [T.fl r, T.fl d, T.fl f]) List.mem_cons_self (by omega) E
              rw [show (fcs [T.fl r, T.fl d, T.fl f]).length / 12 = 3 by rw [fcs_len]; simp] at hrF
              refine hrF.len ?_
              refine ⟨fun l1 w1 => ∃ j : Nat, l1 = [i64 j] ∧ j ≤ 2 ∧ Hs w0 F w1 (slA rv Ty.tree_File 12 (fcs [T.fl r, T.fl d, T.fl f]) :: trA X' :: Pool D' :: pt q3 (oc (ffD data).stat.cs Ty.api_Dir) :: pt q2 (oc [i64 0, i64 0, i64 2] Ty.api_Qid) :: l),
                fun l1 _ => match l1 with | [.int _ i] => 3 - i.toNat | _ => 0, ⟨0, rfl, by omega, E⟩, ?_⟩
              clear E
              rintro t u w_ ⟨j, h4', hj, E⟩
              cases h4'
              refine Bi.lss ?_ ?_ <;> intro hlt2 <;> (repeat first | (with_reducible first | refine Stp.go ?_ | refine StpE.go E ?_ | (refine StpW.go E ?_; clear E; intro w_ E) | (refine StpA.go E ?_; clear E; intro b_ w_ hb_ E) | (apply hJ4; intro u_) | (apply hJ17; intro u_) | (apply hJ29; intro u_) | (apply hJ48; intro u_) | (apply hJ101; intro u_) | refine LnL.nil ?_) | ((with_reducible refine Bi.dec true ?_ ?_); focus exact rfl) | ((with_reducible refine Bi.dec false ?_ ?_); focus exact rfl) | ((with_reducible refine Bi.sdec true ?_ ?_); focus decide) | ((with_reducible refine Bi.sdec false ?_ ?_); focus decide))
              · have hjn : ∃ n, [r, d, f][j]? = some n ∧ [T.fl r, T.fl d, T.fl f][j]? = some (T.fl n) := by
                  have : j = 0 ∨ j = 1 ∨ j = 2 := by omega
                  rcases this with rfl | rfl | rfl
                  · exact ⟨r, rfl, rfl⟩
                  · exact ⟨d, rfl, rfl⟩
                  · exact ⟨f, rfl, rfl⟩
                obtain ⟨n, hn1, hn2⟩ := hjn
                refine hrF.ix (by omega) (by omega) (by omega) ?_
                intro a ha
                rw [Int.toNat_natCast] at ha
                refine ha.lda E (fcs_at hn2) rfl (by omega) ?_
                (repeat first | (with_reducible first | refine Stp.go ?_ | refine StpE.go E ?_ | (refine StpW.go E ?_; clear E; intro w_ E) | (refine StpA.go E ?_; clear E; intro b_ w_ hb_ E) | (apply hJ4; intro u_) | (apply hJ17; intro u_) | (apply hJ29; intro u_) | (apply hJ48; intro u_) | (apply hJ101; intro u_) | refine LnL.nil ?_) | ((with_reducible refine Bi.dec true ?_ ?_); focus exact rfl) | ((with_reducible refine Bi.dec false ?_ ?_); focus exact rfl) | ((with_reducible refine Bi.sdec true ?_ ?_); focus decide) | ((with_reducible refine Bi.sdec false ?_ ?_); focus decide))
                (revert b_; intro b hbb E)
                refine StA.all (vs := (T.fl n).cs) E rfl rfl (fl_scal _) ?_
                clear E
                intro w_ E
                (repeat first | (with_reducible first | refine Stp.go ?_ | refine StpE.go E ?_ | (refine StpW.go E ?_; clear E; intro w_ E) | (refine StpA.go E ?_; clear E; intro b_ w_ hb_ E) | (apply hJ4; intro u_) | (apply hJ17; intro u_) | (apply hJ29; intro u_) | (apply hJ48; intro u_) | (apply hJ101; intro u_) | refine LnL.nil ?_) | ((with_reducible refine Bi.dec true ?_ ?_); focus exact rfl) | ((with_reducible refine Bi.dec false ?_ ?_); focus exact rfl) | ((with_reducible refine Bi.sdec true ?_ ?_); focus decide) | ((with_reducible refine Bi.sdec false ?_ ?_); focus decide))
                obtain ⟨z1, z2, z3, z4, z5, z6, z7⟩ := ffD_data data
                refine Bi.eql ?_ ?_ <;> intro c9
                · have hnf : n = f := by
                    have c10 : n.path = 2 := c9
                    have : j = 0 ∨ j = 1 ∨ j = 2 := by omega
                    rcases this with rfl | rfl | rfl
                    · obtain rfl : r = n := by simpa using hn1
                      rw [hf.rp] at c10; omega
                    · obtain rfl : d = n := by simpa using hn1
                      rw [hf.dp] at c10; omega
                    · exact (by simpa using hn1 : f = n).symm
                  subst hnf
                  (repeat first | (with_reducible first | refine Stp.go ?_ | refine StpE.go E ?_ | (refine StpW.go E ?_; clear E; intro w_ E) | (refine StpA.go E ?_; clear E; intro b_ w_ hb_ E) | (apply hJ4; intro u_) | (apply hJ17; intro u_) | (apply hJ29; intro u_) | (apply hJ48; intro u_) | (apply hJ101; intro u_) | refine LnL.nil ?_) | ((with_reducible refine Bi.dec true ?_ ?_); focus exact rfl) | ((with_reducible refine Bi.dec false ?_ ?_); focus exact rfl) | ((with_reducible refine Bi.sdec true ?_ ?_); focus decide) | ((with_reducible refine Bi.sdec false ?_ ?_); focus decide))
                  (intro J101 hJ101)
                  have fin101 : ∀ w_, (∃ l', Hs w0 F w_ l') → J101 [.bool true] w_ := by
                    intro w_ E
                    (repeat first | (with_reducible first | refine Stp.go ?_ | refine StpE.go E ?_ | (refine StpW.go E ?_; clear E; intro w_ E) | (refine StpA.go E ?_; clear E; intro b_ w_ hb_ E) | (apply hJ4; intro u_) | (apply hJ17; intro u_) | (apply hJ29; intro u_) | (apply hJ48; intro u_) | (apply hJ101; intro u_) | refine LnL.nil ?_) | ((with_reducible refine Bi.dec true ?_ ?_); focus exact rfl) | ((with_reducible refine Bi.dec false ?_ ?_); focus exact rfl) | ((with_reducible refine Bi.sdec true ?_ ?_); focus decide) | ((with_reducible refine Bi.sdec false ?_ ?_); focus decide))
                    exact ⟨rfl, E⟩
                  clear hJ101
                  (repeat first | (with_reducible first | refine Stp.go ?_ | refine StpE.go E ?_ | (refine StpW.go E ?_; clear E; intro w_ E) | (refine StpA.go E ?_; clear E; intro b_ w_ hb_ E) | (apply hJ4; intro u_) | (apply hJ17; intro u_) | (apply hJ29; intro u_) | (apply hJ48; intro u_) | (apply hJ101; intro u_) | refine LnL.nil ?_) | ((with_reducible refine Bi.dec true ?_ ?_); focus exact rfl) | ((with_reducible refine Bi.dec false ?_ ?_); focus exact rfl) | ((with_reducible refine Bi.sdec true ?_ ?_); focus decide) | ((with_reducible refine Bi.sdec false ?_ ?_); focus decide))
                  refine Bi.seqT hpath ?_
                  (repeat first | (with_reducible first | refine Stp.go ?_ | refine StpE.go E ?_ | (refine StpW.go E ?_; clear E; intro w_ E) | (refine StpA.go E ?_; clear E; intro b_ w_ hb_ E) | (apply hJ4; intro u_) | (apply hJ17; intro u_) | (apply hJ29; intro u_) | (apply hJ48; intro u_) | (apply hJ101; intro u_) | refine LnL.nil ?_) | ((with_reducible refine Bi.dec true ?_ ?_); focus exact rfl) | ((with_reducible refine Bi.dec false ?_ ?_); focus exact rfl) | ((with_reducible refine Bi.sdec true ?_ ?_); focus decide) | ((with_reducible refine Bi.sdec false ?_ ?_); focus decide))
                  refine Bi.seqT (by show n.name = (ffD data).name; rw [hf.fn, z4]) ?_
                  (repeat first | (with_reducible first | refine Stp.go ?_ | refine StpE.go E ?_ | (refine StpW.go E ?_; clear E; intro w_ E) | (refine StpA.go E ?_; clear E; intro b_ w_ hb_ E) | (apply hJ4; intro u_) | (apply hJ17; intro u_) | (apply hJ29; intro u_) | (apply hJ48; intro u_) | (apply hJ101; intro u_) | refine LnL.nil ?_) | ((with_reducible refine Bi.dec true ?_ ?_); focus exact rfl) | ((with_reducible refine Bi.dec false ?_ ?_); focus exact rfl) | ((with_reducible refine Bi.sdec true ?_ ?_); focus decide) | ((with_reducible refine Bi.sdec false ?_ ?_); focus decide))
                  refine Bi.seqT (by show n.owner = (ffD data).owner; rw [hf.ow.2.2, z5]) ?_
                  (repeat first | (with_reducible first | refine Stp.go ?_ | refine StpE.go E ?_ | (refine StpW.go E ?_; clear E; intro w_ E) | (refine StpA.go E ?_; clear E; intro b_ w_ hb_ E) | (apply hJ4; intro u_) | (apply hJ17; intro u_) | (apply hJ29; intro u_) | (apply hJ48; intro u_) | (apply hJ101; intro u_) | refine LnL.nil ?_) | ((with_reducible refine Bi.dec true ?_ ?_); focus exact rfl) | ((with_reducible refine Bi.dec false ?_ ?_); focus exact rfl) | ((with_reducible refine Bi.sdec true ?_ ?_); focus decide) | ((with_reducible refine Bi.sdec false ?_ ?_); focus decide))
                  refine Bi.seqT (by show n.group = (ffD data).group; rw [hf.gr.2.2, z6]) ?_
                  (repeat first | (with_reducible first | refine Stp.go ?_ | refine StpE.go E ?_ | (refine StpW.go E ?_; clear E; intro w_ E) | (refine StpA.go E ?_; clear E; intro b_ w_ hb_ E) | (apply hJ4; intro u_) | (apply hJ17; intro u_) | (apply hJ29; intro u_) | (apply hJ48; intro u_) | (apply hJ101; intro u_) | refine LnL.nil ?_) | ((with_reducible refine Bi.dec true ?_ ?_); focus exact rfl) | ((with_reducible refine Bi.dec false ?_ ?_); focus exact rfl) | ((with_reducible refine Bi.sdec true ?_ ?_); focus decide) | ((with_reducible refine Bi.sdec false ?_ ?_); focus decide))
                  refine Bi.eql (fun _ => ?_) (fun hc => absurd (by show n.mode = (ffD data).mode; rw [hf.mo.2.2, z7]) hc)
                  (repeat first | (with_reducible first | refine Stp.go ?_ | refine StpE.go E ?_ | (refine StpW.go E ?_; clear E; intro w_ E) | (refine StpA.go E ?_; clear E; intro b_ w_ hb_ E) | (apply hJ4; intro u_) | (apply hJ17; intro u_) | (apply hJ29; intro u_) | (apply hJ48; intro u_) | (apply hJ101; intro u_) | refine LnL.nil ?_) | ((with_reducible refine Bi.dec true ?_ ?_); focus exact rfl) | ((with_reducible refine Bi.dec false ?_ ?_); focus exact rfl) | ((with_reducible refine Bi.sdec true ?_ ?_); focus decide) | ((with_reducible refine Bi.sdec false ?_ ?_); focus decide))
                  refine Bi.eql (fun _ => ?_) (fun hc => absurd (by show (n.data.size : Int) = ((ffD data).data.size : Int); rw [hf.da, z1]) hc)
                  (repeat first | (with_reducible first | refine Stp.go ?_ | refine StpE.go E ?_ | (refine StpW.go E ?_; clear E; intro w_ E) | (refine StpA.go E ?_; clear E; intro b_ w_ hb_ E) | (apply hJ4; intro u_) | (apply hJ17; intro u_) | (apply hJ29; intro u_) | (apply hJ48; intro u_) | (apply hJ101; intro u_) | refine LnL.nil ?_) | ((with_reducible refine Bi.dec true ?_ ?_); focus exact rfl) | ((with_reducible refine Bi.dec false ?_ ?_); focus exact rfl) | ((with_reducible refine Bi.sdec true ?_ ?_); focus decide) | ((with_reducible refine Bi.sdec false ?_ ?_); focus decide))
                  refine Bi.seqT (by show n.data = data; exact hf.da) ?_
                  (repeat first | (with_reducible first | refine Stp.go ?_ | refine StpE.go E ?_ | (refine StpW.go E ?_; clear E; intro w_ E) | (refine StpA.go E ?_; clear E; intro b_ w_ hb_ E) | (apply hJ4; intro u_) | (apply hJ17; intro u_) | (apply hJ29; intro u_) | (apply hJ48; intro u_) | (apply hJ101; intro u_) | refine LnL.nil ?_) | ((with_reducible refine Bi.dec true ?_ ?_); focus exact rfl) | ((with_reducible refine Bi.dec false ?_ ?_); focus exact rfl) | ((with_reducible refine Bi.sdec true ?_ ?_); focus decide) | ((with_reducible refine Bi.sdec false ?_ ?_); focus decide))
                  exact fin101 _ ⟨_, E⟩
                · (repeat first | (with_reducible first | refine Stp.go ?_ | refine StpE.go E ?_ | (refine StpW.go E ?_; clear E; intro w_ E) | (refine StpA.go E ?_; clear E; intro b_ w_ hb_ E) | (apply hJ4; intro u_) | (apply hJ17; intro u_) | (apply hJ29; intro u_) | (apply hJ48; intro u_) | (apply hJ101; intro u_) | refine LnL.nil ?_) | ((with_reducible refine Bi.dec true ?_ ?_); focus exact rfl) | ((with_reducible refine Bi.dec false ?_ ?_); focus exact rfl) | ((with_reducible refine Bi.sdec true ?_ ?_); focus decide) | ((with_reducible refine Bi.sdec false ?_ ?_); focus decide))
                  refine Bi.add (by omega) ?_
                  have hj2 : j ≠ 2 := by
                    rintro rfl
                    obtain rfl : f = n := by simpa using hn1
                    exact c9 hf.fp
                  refine ⟨⟨j + 1, by simp, by omega, E.tl⟩, ?_⟩
                  simp only []; omega
              · omega
          clear hJ48
          (repeat first | (with_reducible first | refine Stp.go ?_ | refine StpE.go E ?_ | (refine StpW.go E ?_; clear E; intro w_ E) | (refine StpA.go E ?_; clear E; intro b_ w_ hb_ E) | (apply hJ4; intro u_) | (apply hJ17; intro u_) | (apply hJ29; intro u_) | (apply hJ48; intro u_) | (apply hJ101; intro u_) | refine LnL.nil ?_) | ((with_reducible refine Bi.dec true ?_ ?_); focus exact rfl) | ((with_reducible refine Bi.dec false ?_ ?_); focus exact rfl) | ((with_reducible refine Bi.sdec true ?_ ?_); focus decide) | ((with_reducible refine Bi.sdec false ?_ ?_); focus decide))
          rw [← ht5]
          refine (Close_ok h5 i4 (N := 13) (by omega) l4 E).mono ?_
          clear E
          rintro r w_ ⟨rfl, D6, X6, β6, hD6, ht6, h6, E⟩
          rw [(fo5_eq hp1).1]
          (repeat first | (with_reducible first | refine Stp.go ?_ | refine StpE.go E ?_ | (refine StpW.go E ?_; clear E; intro w_ E) | (refine StpA.go E ?_; clear E; intro b_ w_ hb_ E) | (apply hJ4; intro u_) | (apply hJ17; intro u_) | (apply hJ29; intro u_) | (apply hJ48; intro u_) | (apply hJ101; intro u_) | refine LnL.nil ?_) | ((with_reducible refine Bi.dec true ?_ ?_); focus exact rfl) | ((with_reducible refine Bi.dec false ?_ ?_); focus exact rfl) | ((with_reducible refine Bi.sdec true ?_ ?_); focus decide) | ((with_reducible refine Bi.sdec false ?_ ?_); focus decide))
          exact fin48 X6 D6 β6 _ (by rw [ht6, ht5]) h6 E
        clear hJ29
        (repeat first | (with_reducible first | refine Stp.go ?_ | refine StpE.go E ?_ | (refine StpW.go E ?_; clear E; intro w_ E) | (refine StpA.go E ?_; clear E; intro b_ w_ hb_ E) | (apply hJ4; intro u_) | (apply hJ17; intro u_) | (apply hJ29; intro u_) | (apply hJ48; intro u_) | (apply hJ101; intro u_) | refine LnL.nil ?_) | ((with_reducible refine Bi.dec true ?_ ?_); focus exact rfl) | ((with_reducible refine Bi.dec false ?_ ?_); focus exact rfl) | ((with_reducible refine Bi.sdec true ?_ ?_); focus decide) | ((with_reducible refine Bi.sdec false ?_ ?_); focus decide))
        (replace E := ((E.bIx 2).bIx 2))
        refine (Close_ok h2 i1 (N := 4) (by omega) l1 E).mono ?_
        clear E
        rintro r w_ ⟨rfl, D3, X3, β3, hD3, ht3, h3, E⟩
        rw [fo_c2]
        (repeat first | (with_reducible first | refine Stp.go ?_ | refine StpE.go E ?_ | (refine StpW.go E ?_; clear E; intro w_ E) | (refine StpA.go E ?_; clear E; intro b_ w_ hb_ E) | (apply hJ4; intro u_) | (apply hJ17; intro u_) | (apply hJ29; intro u_) | (apply hJ48; intro u_) | (apply hJ101; intro u_) | refine LnL.nil ?_) | ((with_reducible refine Bi.dec true ?_ ?_); focus exact rfl) | ((with_reducible refine Bi.dec false ?_ ?_); focus exact rfl) | ((with_reducible refine Bi.sdec true ?_ ?_); focus decide) | ((with_reducible refine Bi.sdec false ?_ ?_); focus decide))
        exact fin29 X3 D3 β3 _ ht3 h3 E
      clear hJ17
      replace E := (((E.bIx 2).tl).bIx 2).tl
      (repeat first | (with_reducible first | refine Stp.go ?_ | refine StpE.go E ?_ | (refine StpW.go E ?_; clear E; intro w_ E) | (refine StpA.go E ?_; clear E; intro b_ w_ hb_ E) | (apply hJ4; intro u_) | (apply hJ17; intro u_) | (apply hJ29; intro u_) | (apply hJ48; intro u_) | (apply hJ101; intro u_) | refine LnL.nil ?_) | ((with_reducible refine Bi.dec true ?_ ?_); focus exact rfl) | ((with_reducible refine Bi.dec false ?_ ?_); focus exact rfl) | ((with_reducible refine Bi.sdec true ?_ ?_); focus decide) | ((with_reducible refine Bi.sdec false ?_ ?_); focus decide))
      first | exact fin17 _ E | (refine Eq.ef u_p_tree rfl ?_; (repeat first | (with_reducible first | refine Stp.go ?_ | refine StpE.go E ?_ | (refine StpW.go E ?_; clear E; intro w_ E) | (refine StpA.go E ?_; clear E; intro b_ w_ hb_ E) | (apply hJ4; intro u_) | (apply hJ17; intro u_) | (apply hJ29; intro u_) | (apply hJ48; intro u_) | (apply hJ101; intro u_) | refine LnL.nil ?_) | ((with_reducible refine Bi.dec true ?_ ?_); focus exact rfl) | ((with_reducible refine Bi.dec false ?_ ?_); focus exact rfl) | ((with_reducible refine Bi.sdec true ?_ ?_); focus decide) | ((with_reducible refine Bi.sdec false ?_ ?_); focus decide)); exact fin17 _ E) | (refine Gd.t false ?_; refine Eq.ef u_p_tree rfl ?_; (repeat first | (with_reducible first | refine Stp.go ?_ | refine StpE.go E ?_ | (refine StpW.go E ?_; clear E; intro w_ E) | (refine StpA.go E ?_; clear E; intro b_ w_ hb_ E) | (apply hJ4; intro u_) | (apply hJ17; intro u_) | (apply hJ29; intro u_) | (apply hJ48; intro u_) | (apply hJ101; intro u_) | refine LnL.nil ?_) | ((with_reducible refine Bi.dec true ?_ ?_); focus exact rfl) | ((with_reducible refine Bi.dec false ?_ ?_); focus exact rfl) | ((with_reducible refine Bi.sdec true ?_ ?_); focus decide) | ((with_reducible refine Bi.sdec false ?_ ?_); focus decide)); exact fin17 _ E)
  clear hJ4
  (repeat with_reducible first | refine Stp.go ?_ | refine StpE.go E ?_)
  refine Bi.gtr ?_ ?_ <;> intro c1 <;> (repeat with_reducible first | refine Stp.go ?_ | refine StpE.go E ?_)
  · exact fin4 _ _ (fun h => by cases h) E
  refine (Few_ok hxl ((hr l).cons _) E).mono ?_
  clear E
  rintro r w_ ⟨b, rfl, hb, E⟩
  (repeat with_reducible first | refine Stp.go ?_ | refine StpE.go E ?_)
  refine Un.not ?_
  (repeat with_reducible first | refine Stp.go ?_ | refine StpE.go E ?_)
  exact fin4 _ _ (fun hq => ⟨by omega, hb (by simpa using hq)⟩) E
end Go.Proofs.YtnnhmahemklnkaaGreatDoor
