/-
  Trees: strings that are split at '/'.
-/
import Derived.Test.YtnnhmahemklnkaaDoorTr9
namespace Go.Proofs.YtnnhmahemklnkaaDoor
open Go Go.Sh
set_option maxRecDepth 100000
set_option linter.unusedVariables false
set_option linter.unusedSimpArgs false
variable {w0 w : World} {F : Nat → Prop} {l : List As}

/-- The parts between the slashes. -/
def splitB : List UInt8 → List (List UInt8)
  | [] => [[]]
  | x :: r => if x = 47 then [] :: splitB r else match splitB r with | [] => [[x]] | p :: ps => (x :: p) :: ps
theorem splitB_none : ∀ {l : List UInt8}, Lib.indexByte l 47 = -1 → splitB l = [l]
  | [], _ => rfl
  | x :: r, h => by
    unfold Lib.indexByte at h
    by_cases hx : x = 47
    · rw [if_pos (by simp [hx])] at h; cases h
    · rw [if_neg (by simp [hx])] at h
      have hr : Lib.indexByte r 47 = -1 := by
        split at h
        · rename_i h2; simpa using h2
        · rename_i h2
          have := Lib.indexByte_ge r 47
          omega
      unfold splitB
      rw [if_neg hx, splitB_none hr]
theorem splitB_some : ∀ {l : List UInt8} {i : Nat}, Lib.indexByte l 47 = i → i < l.length ∧ splitB l = l.take i :: splitB (l.drop (i + 1))
  | [], i, h => by unfold Lib.indexByte at h; omega
  | x :: r, i, h => by
    unfold Lib.indexByte at h
    by_cases hx : x = 47
    · rw [if_pos (by simp [hx])] at h
      obtain rfl : i = 0 := by omega
      refine ⟨by simp, ?_⟩
      rw [splitB, if_pos hx]
      rfl
    · rw [if_neg (by simp [hx])] at h
      split at h
      · omega
      · rename_i h2
        have h2 : Lib.indexByte r 47 ≠ -1 := by simpa using h2
        have := Lib.indexByte_ge r 47
        obtain ⟨j, rfl⟩ : ∃ j, i = j + 1 := ⟨i - 1, by omega⟩
        obtain ⟨h3, h4⟩ := splitB_some (l := r) (i := j) (by omega)
        refine ⟨by simp; omega, ?_⟩
        rw [splitB, if_neg hx, h4]
        rfl
theorem splitB_ne (l : List UInt8) : splitB l ≠ [] := by
  cases l with
  | nil => simp [splitB]
  | cons x r =>
    unfold splitB
    split
    · simp
    · cases splitB r <;> simp
abbrev bmk (l : List UInt8) : BA := ⟨l.toArray⟩
def splitS (s : BA) : List BA := (splitB s.data.toList).map bmk
abbrev sep : BA := ⟨#[47]⟩
def boxM (a : Nat) (w : World) : Nat := match w.heap[a]? with
  | some (Obj.cells cs _ _) => match cs[0]? with
    | some (Value.string s) => s.size
    | _ => 0
  | _ => 0
theorem boxM_eq {a : Nat} {s : BA} {r : List As} [h : FPt l a (oc [str s] Ty.string) r] (E : Hs w0 F w l) : boxM a w = s.size := by
  unfold boxM
  rw [show w.heap[a]? = some (oc [str s] Ty.string) from E.sat _ h.mem]
  rfl
abbrev splitF (a1 a2 a3 : Nat) : Value := .func (.func Fn.strings_splitSeq_1) #[] #[ptr a1, ptr a2, ptr a3]
theorem b_split1 : hasBody PP Fn.strings_splitSeq_1 = true := by kernel_rfl
theorem Index_ok {s : BA} (E : Hs w0 F w l) : Ca PP Fn.strings_Index #[str s, str sep] w fun r w' => r = i64 (Lib.indexByte s.data.toList 47) ∧ Hs w0 F w' l := by
  refine Calls.mono (Tryd.strings_Index_one s 47 w) ?_
  rintro e w' ⟨rfl, rfl⟩
  exact ⟨_, rfl, rfl, E⟩
theorem permB (B ks rest : List As) : (B ++ (ks ++ rest)).Perm (ks ++ ([] ++ (B ++ rest))) := by
  rw [List.nil_append, ← List.append_assoc, ← List.append_assoc]
  exact List.perm_append_comm.append_right rest
theorem split_iter {a1 a2 a3 : Nat} {s : BA} (hs : s.size ≤ 1000000000) :
    Iter PP w0 F (splitF a1 a2 a3) str (InOrder (splitS s)) (· = splitS s) [pt a1 (oc [str sep] Ty.string), pt a2 (oc [str s] Ty.string), pt a3 (oc [i64 0] Ty.int)] [] [] := by
  intro K S_ y w ks rest hy h0 E
  refine CaV.mk b_split1 ?_
  refine S.strings_splitSeq_1.calls (a0 := y) (a1 := ptr a1) (a2 := ptr a2) (a3 := ptr a3) ?_
  unfold S.strings_splitSeq_1
  have E1 : Hs w0 F w (pt a1 (oc [str sep] Ty.string) :: pt a2 (oc [str s] Ty.string) :: pt a3 (oc [i64 0] Ty.int) :: (ks ++ rest)) := E.perm (by
    rw [← List.append_assoc]
    exact (List.perm_append_comm (l₁ := ks)).append_right rest)
  clear E
  have E := E1
  clear E1
  (repeat first | (with_reducible first | refine Stp.go ?_ | refine StpE.go E ?_ | (refine StpW.go E ?_; clear E; intro w_ E) | (refine StpA.go E ?_; clear E; intro b_ w_ hb_ E) | refine LnL.nil ?_) | ((with_reducible refine Bi.dec true ?_ ?_); focus exact rfl) | ((with_reducible refine Bi.dec false ?_ ?_); focus exact rfl) | ((with_reducible refine Bi.sdec true ?_ ?_); focus decide) | ((with_reducible refine Bi.sdec false ?_ ?_); focus decide))
  refine ⟨fun l1 w1 => l1 = [] ∧ ∃ (k : Nat) (rem : BA) (ks : List As), (splitS s).drop k = splitS rem ∧ rem.size ≤ 1000000000 ∧ K ((splitS s).take k) ks ∧ Hs w0 F w1 (pt a1 (oc [str sep] Ty.string) :: pt a2 (oc [str rem] Ty.string) :: pt a3 (oc [i64 0] Ty.int) :: (ks ++ rest)), fun _ w1 => boxM a2 w1,
    ⟨rfl, 0, s, ks, rfl, hs, h0, E⟩, ?_⟩
  clear E h0 ks
  rintro u w1 ⟨-, k, rem, ks, hk, hrem, hK, E⟩
  (repeat first | (with_reducible first | refine Stp.go ?_ | refine StpE.go E ?_ | (refine StpW.go E ?_; clear E; intro w_ E) | (refine StpA.go E ?_; clear E; intro b_ w_ hb_ E) | refine LnL.nil ?_) | ((with_reducible refine Bi.dec true ?_ ?_); focus exact rfl) | ((with_reducible refine Bi.dec false ?_ ?_); focus exact rfl) | ((with_reducible refine Bi.sdec true ?_ ?_); focus decide) | ((with_reducible refine Bi.sdec false ?_ ?_); focus decide))
  refine (Index_ok E).mono ?_
  have hbm : boxM a2 w1 = rem.size := boxM_eq E
  clear E
  rintro r w_ ⟨rfl, E⟩
  have hlen : ((splitS s).take k).length = k := by
    rw [List.length_take]
    have h1 : (splitS rem).length ≠ 0 := by unfold splitS; rw [List.length_map]; exact fun h => splitB_ne _ (List.length_eq_zero_iff.1 h)
    rw [← hk, List.length_drop] at h1
    omega
  refine Bi.lss ?_ ?_ <;> intro hlt <;> (repeat first | (with_reducible first | refine Stp.go ?_ | refine StpE.go E ?_ | (refine StpW.go E ?_; clear E; intro w_ E) | (refine StpA.go E ?_; clear E; intro b_ w_ hb_ E) | refine LnL.nil ?_) | ((with_reducible refine Bi.dec true ?_ ?_); focus exact rfl) | ((with_reducible refine Bi.dec false ?_ ?_); focus exact rfl) | ((with_reducible refine Bi.sdec true ?_ ?_); focus decide) | ((with_reducible refine Bi.sdec false ?_ ?_); focus decide))
  · have hi : Lib.indexByte rem.data.toList 47 = -1 := by have := Lib.indexByte_ge rem.data.toList 47; omega
    have hsp : splitS rem = [rem] := by unfold splitS; rw [splitB_none hi]; rfl
    have hx : (splitS s)[k]? = some rem := by
      have := congrArg (·[0]?) hk
      simpa [hsp] using this
    have E1 : Hs w0 F w_ (ks ++ ([] ++ ([pt a1 (oc [str sep] Ty.string), pt a2 (oc [str rem] Ty.string), pt a3 (oc [i64 0] Ty.int)] ++ rest))) := E.perm (permB [_, _, _] ks rest)
    refine (hy ((splitS s).take k) rem w_ ks _ ⟨by rw [hlen], by rw [hlen]; exact hx⟩ hK E1).mono ?_
    have hw : (splitS s).take k ++ [rem] = splitS s := by
      conv => rhs; rw [← List.take_append_drop k (splitS s), hk, hsp]
    have hdrop : ∀ (ks' : List As) w, Hs w0 F w (ks' ++ ([] ++ ([pt a1 (oc [str sep] Ty.string), pt a2 (oc [str rem] Ty.string), pt a3 (oc [i64 0] Ty.int)] ++ rest))) → Hs w0 F w (ks' ++ ([] ++ rest)) :=
      fun ks' w E => E.drop (List.Sublist.append_left (List.sublist_append_right _ _) _)
    clear E E1
    rintro r w_ (⟨rfl, ks', hk', E'⟩ | ⟨rfl, ks', hs', E'⟩)
    · rw [hw] at hk'
      exact .inl ⟨_, ks', rfl, hk', hdrop _ _ E'⟩
    · exact .inr ⟨_, ks', hs', hdrop _ _ E'⟩
  · obtain ⟨i, hi⟩ : ∃ i : Nat, Lib.indexByte rem.data.toList 47 = i := ⟨(Lib.indexByte rem.data.toList 47).toNat, by omega⟩
    obtain ⟨h1, h2⟩ := splitB_some hi
    have h1 : i < rem.size := h1
    rw [hi]
    have hsp : splitS rem = bmk (rem.data.toList.take i) :: splitS (bmk (rem.data.toList.drop (i + 1))) := by unfold splitS; rw [h2]; rfl
    have hx : (splitS s)[k]? = some (bmk (rem.data.toList.take i)) := by
      have := congrArg (·[0]?) hk
      simpa [hsp] using this
    refine Bi.add (by omega) ?_
    refine SlS.pre (by omega) (by omega) ?_
    have e1 : rem.extract 0 ((i : Int) + 0).toNat = bmk (rem.data.toList.take i) := ba_ext (by simp)
    rw [e1]
    have E1 : Hs w0 F w_ (ks ++ ([] ++ ([pt a1 (oc [str sep] Ty.string), pt a2 (oc [str rem] Ty.string), pt a3 (oc [i64 0] Ty.int)] ++ rest))) := E.perm (permB [_, _, _] ks rest)
    refine (hy ((splitS s).take k) (bmk (rem.data.toList.take i)) w_ ks _ ⟨by rw [hlen], by rw [hlen]; exact hx⟩ hK E1).mono ?_
    clear E E1
    have htk : (splitS s).take k ++ [bmk (rem.data.toList.take i)] = (splitS s).take (k + 1) := by rw [List.take_add_one, hx]; rfl
    rw [htk]
    rintro r w_ (⟨rfl, ks', hk', E'⟩ | ⟨rfl, ks', hs', E'⟩)
    · have E : Hs w0 F w_ (pt a1 (oc [str sep] Ty.string) :: pt a2 (oc [str rem] Ty.string) :: pt a3 (oc [i64 0] Ty.int) :: (ks' ++ rest)) := E'.perm (by
        rw [List.nil_append, ← List.append_assoc]
        exact (List.perm_append_comm (l₁ := ks')).append_right rest)
      clear E'
      (repeat first | (with_reducible first | refine Stp.go ?_ | refine StpE.go E ?_ | (refine StpW.go E ?_; clear E; intro w_ E) | (refine StpA.go E ?_; clear E; intro b_ w_ hb_ E) | refine LnL.nil ?_) | ((with_reducible refine Bi.dec true ?_ ?_); focus exact rfl) | ((with_reducible refine Bi.dec false ?_ ?_); focus exact rfl) | ((with_reducible refine Bi.sdec true ?_ ?_); focus decide) | ((with_reducible refine Bi.sdec false ?_ ?_); focus decide))
      refine Bi.add (by have : ByteArray.size sep = 1 := rfl; omega) ?_
      refine SlS.suf (by omega) (by have : ByteArray.size sep = 1 := rfl; omega) ?_
      have e2 : rem.extract ((i : Int) + (ByteArray.size sep : Nat)).toNat rem.size = bmk (rem.data.toList.drop (i + 1)) := ba_ext (by
        have : ((i : Int) + (ByteArray.size sep : Nat)).toNat = i + 1 := by have : ByteArray.size sep = 1 := rfl; omega
        rw [this]
        simp
        refine List.take_of_length_le ?_
        rw [List.length_drop, Array.length_toList]
        exact Nat.le_refl _)
      rw [e2]
      (repeat first | (with_reducible first | refine Stp.go ?_ | refine StpE.go E ?_ | (refine StpW.go E ?_; clear E; intro w_ E) | (refine StpA.go E ?_; clear E; intro b_ w_ hb_ E) | refine LnL.nil ?_) | ((with_reducible refine Bi.dec true ?_ ?_); focus exact rfl) | ((with_reducible refine Bi.dec false ?_ ?_); focus exact rfl) | ((with_reducible refine Bi.sdec true ?_ ?_); focus decide) | ((with_reducible refine Bi.sdec false ?_ ?_); focus decide))
      have hsz : (bmk (rem.data.toList.drop (i + 1))).size = rem.size - (i + 1) := by
        show (rem.data.toList.drop (i + 1)).toArray.size = _
        rw [List.size_toArray, List.length_drop, Array.length_toList]; rfl
      refine ⟨⟨rfl, k + 1, _, ks', ?_, by omega, hk', E⟩, ?_⟩
      · have := congrArg (List.drop 1) hk
        rw [List.drop_drop, hsp] at this
        rw [Nat.add_comm]
        simpa [Nat.add_comm] using this
      · show boxM a2 w_ < boxM a2 w1
        rw [hbm, boxM_eq E, hsz]
        omega
    · (repeat first | (with_reducible first | refine Stp.go ?_ | refine StpE.go E ?_ | (refine StpW.go E ?_; clear E; intro w_ E) | (refine StpA.go E ?_; clear E; intro b_ w_ hb_ E) | refine LnL.nil ?_) | ((with_reducible refine Bi.dec true ?_ ?_); focus exact rfl) | ((with_reducible refine Bi.dec false ?_ ?_); focus exact rfl) | ((with_reducible refine Bi.sdec true ?_ ?_); focus decide) | ((with_reducible refine Bi.sdec false ?_ ?_); focus decide))
      exact .inr ⟨_, ks', hs', E'.drop (List.Sublist.append_left (List.sublist_append_right _ _) _)⟩
end Go.Proofs.YtnnhmahemklnkaaDoor
