/-
  Trees: slices.Values, AppendSeq, Collect, Sort, Sorted, Compact for strings; whether a string is there twice.
-/
import Derived.Test.YtnnhmahemklnkaaDoorLb0
import Derived.Test.YtnnhmahemklnkaaDoorShelf
import Derived.Test.YtnnhmahemklnkaaDoorSh15
namespace Go.Proofs.YtnnhmahemklnkaaDoor
open Go Go.Sh Go.Sort
set_option maxRecDepth 100000
set_option linter.unusedVariables false
set_option linter.unusedSimpArgs false
variable {w0 : World} {F : Nat → Prop} {l : List As}

theorem b_values1 : hasBody PP Fn.slices_Values_sl_string_string_1 = true := by kernel_rfl
abbrev valuesF (b : Nat) : Value := .func (.func Fn.slices_Values_sl_string_string_1) #[] #[ptr b]
theorem Values_ok {w : World} {v : Value} {a : Option Addr} {n c : Nat} (hv : v = .slice a n c) (E : Hs w0 F w l) : Ca PP Fn.slices_Values_sl_string_string #[v] w fun r w' => ∃ b, r = valuesF b ∧ Hs w0 F w' (pt b (oc [v] Ty.sl_string) :: l) := by
  subst hv
  refine S.slices_Values_sl_string_string.calls ?_
  unfold S.slices_Values_sl_string_string
  (repeat first | (with_reducible first | refine Stp.go ?_ | refine StpE.go E ?_ | (refine StpW.go E ?_; clear E; intro w_ E) | (refine StpA.go E ?_; clear E; intro b_ w_ hb_ E) | refine LnL.nil ?_) | ((with_reducible refine Bi.dec true ?_ ?_); focus exact rfl) | ((with_reducible refine Bi.dec false ?_ ?_); focus exact rfl) | ((with_reducible refine Bi.sdec true ?_ ?_); focus decide) | ((with_reducible refine Bi.sdec false ?_ ?_); focus decide))
  exact ⟨b_, rfl, E⟩
/-- A list's elements come in order. -/
def InOrder {α : Type} (xs : List α) (pre : List α) (x : α) : Prop := pre = xs.take pre.length ∧ xs[pre.length]? = some x
theorem values_iter {b : Nat} {v : Value} {xs : List ByteArray} {q : List As} (hn : xs.length ≤ 9223372036854775806) (h : RdS w0 F q 1 xs.length v (xs.map str)) :
    Iter PP w0 F (valuesF b) str (InOrder xs) (· = xs) (pt b (oc [v] Ty.sl_string) :: q) (pt b (oc [v] Ty.sl_string) :: q) (pt b (oc [v] Ty.sl_string) :: q) := by
  intro K S_ y w ks rest hy h0 E
  refine CaV.mk b_values1 ?_
  refine S.slices_Values_sl_string_string_1.calls (a0 := y) (a1 := ptr b) ?_
  unfold S.slices_Values_sl_string_string_1
  refine Ld.pt E (List.mem_append_right _ List.mem_cons_self) rfl ?_
  refine h.len ?_
  refine ⟨fun l1 w1 => ∃ (i : Nat) (ks : List As), l1 = [i64 i] ∧ i ≤ xs.length ∧ K (xs.take i) ks ∧ Hs w0 F w1 (ks ++ ((pt b (oc [v] Ty.sl_string) :: q) ++ rest)), fun l1 _ => match l1 with | [.int _ i] => xs.length - i.toNat | _ => 0, ⟨0, ks, rfl, Nat.zero_le _, h0, E⟩, ?_⟩
  clear E h0 ks
  rintro t u w1 ⟨i, ks, h1, hi, hk, E⟩
  cases h1
  refine Bi.lss ?_ ?_ <;> intro hlt <;> (repeat first | (with_reducible first | refine Stp.go ?_ | refine StpE.go E ?_ | (refine StpW.go E ?_; clear E; intro w_ E) | (refine StpA.go E ?_; clear E; intro b_ w_ hb_ E) | refine LnL.nil ?_) | ((with_reducible refine Bi.dec true ?_ ?_); focus exact rfl) | ((with_reducible refine Bi.dec false ?_ ?_); focus exact rfl) | ((with_reducible refine Bi.sdec true ?_ ?_); focus decide) | ((with_reducible refine Bi.sdec false ?_ ?_); focus decide))
  · have hx : xs[i]? = some xs[i] := List.getElem?_eq_getElem (by omega)
    have hsub : ∀ w, Hs w0 F w (ks ++ ((pt b (oc [v] Ty.sl_string) :: q) ++ rest)) → Hs w0 F w q := fun w E => E.drop (List.Sublist.trans (List.Sublist.trans (List.sublist_append_left _ rest) (List.sublist_cons_self _ _)) (List.sublist_append_right _ _))
    refine (h.weaken hsub).ix (by omega) (by omega) (by omega) ?_
    intro a ha
    refine ha.ld E (x := str xs[i]) (by simp [hx]) ?_
    have hlen : (xs.take i).length = i := by rw [List.length_take]; omega
    refine (hy (xs.take i) xs[i] w1 ks rest ⟨by rw [hlen], by rw [hlen]; exact hx⟩ hk E).mono ?_
    have htk : xs.take i ++ [xs[i]] = xs.take (i + 1) := by rw [List.take_add_one, hx]; rfl
    rw [htk]
    rintro r w_ (⟨rfl, ks', hk', E'⟩ | ⟨rfl, ks', hs', E'⟩)
    · (repeat first | (with_reducible first | refine Stp.go ?_ | refine StpE.go E ?_ | (refine StpW.go E ?_; clear E; intro w_ E) | (refine StpA.go E ?_; clear E; intro b_ w_ hb_ E) | refine LnL.nil ?_) | ((with_reducible refine Bi.dec true ?_ ?_); focus exact rfl) | ((with_reducible refine Bi.dec false ?_ ?_); focus exact rfl) | ((with_reducible refine Bi.sdec true ?_ ?_); focus decide) | ((with_reducible refine Bi.sdec false ?_ ?_); focus decide))
      refine Bi.add (by omega) ?_
      exact ⟨⟨i + 1, ks', by simp, by omega, hk', E'⟩, by simp only []; omega⟩
    · (repeat first | (with_reducible first | refine Stp.go ?_ | refine StpE.go E ?_ | (refine StpW.go E ?_; clear E; intro w_ E) | (refine StpA.go E ?_; clear E; intro b_ w_ hb_ E) | refine LnL.nil ?_) | ((with_reducible refine Bi.dec true ?_ ?_); focus exact rfl) | ((with_reducible refine Bi.dec false ?_ ?_); focus exact rfl) | ((with_reducible refine Bi.sdec true ?_ ?_); focus decide) | ((with_reducible refine Bi.sdec false ?_ ?_); focus decide))
      exact .inr ⟨_, ks', hs', E'⟩
  · have : xs.take i = xs := List.take_of_length_le (by omega)
    rw [this] at hk
    exact .inl ⟨xs, ks, rfl, hk, E⟩

/-- What an iterator brings is collected. -/
theorem AppendSeq_ok {w : World} {g : Value} {gf : FuncId} {first cap : Array Value} {Pf : List ByteArray → ByteArray → Prop} {Whole : List ByteArray → Prop} {own vis own' rest : List As} (hg : g = .func (.func gf) first cap) (hb : hasBody PP gf = true)
    (hit : Iter PP w0 F g str Pf Whole own vis own') (hsz : ∀ pre x, Pf pre x → pre.length < 1000000000) (E : Hs w0 F w (own ++ rest)) :
    Ca PP Fn.slices_AppendSeq_sl_string_string #[.slice none 0 0, g] w fun v w' => ∃ xs, Whole xs ∧ Hs w0 F w' (slA v Ty.string 1 (xs.map str) :: (own' ++ rest)) := by
  refine S.slices_AppendSeq_sl_string_string.calls ?_
  unfold S.slices_AppendSeq_sl_string_string
  (repeat first | (with_reducible first | refine Stp.go ?_ | refine StpE.go E ?_ | (refine StpW.go E ?_; clear E; intro w_ E) | (refine StpA.go E ?_; clear E; intro b_ w_ hb_ E) | refine LnL.nil ?_) | ((with_reducible refine Bi.dec true ?_ ?_); focus exact rfl) | ((with_reducible refine Bi.dec false ?_ ?_); focus exact rfl) | ((with_reducible refine Bi.sdec true ?_ ?_); focus decide) | ((with_reducible refine Bi.sdec false ?_ ?_); focus decide))
  (revert b_; intro b hbb E)
  replace E := (E.nilSl Ty.string 1)
  refine RFo.hs hg hb hit (fun pre ks => ∃ v, ks = [slA v Ty.string 1 (pre.map str), pt b (oc [v] Ty.sl_string)]) (fun _ _ _ => False) (fun _ _ => False) (ks := [slA (.slice none 0 0) Ty.string 1 [], pt b (oc [.slice none 0 0] Ty.sl_string)]) E ⟨_, rfl⟩ ?_ ?_ (fun _ _ _ _ _ _ h _ => h.elim) (fun _ _ _ _ _ h _ => h.elim)
  · clear E
    rintro r L D pre x w_ _ rest' Rn Re Rr hL hD hp ⟨v, rfl⟩ E hn - -
    simp only [List.cons_append, List.nil_append] at E
    (repeat first | (with_reducible first | refine Stp.go ?_ | refine StpE.go E ?_ | (refine StpW.go E ?_; clear E; intro w_ E) | (refine StpA.go E ?_; clear E; intro b_ w_ hb_ E) | refine LnL.nil ?_) | ((with_reducible refine Bi.dec true ?_ ?_); focus exact rfl) | ((with_reducible refine Bi.dec false ?_ ?_); focus exact rfl) | ((with_reducible refine Bi.sdec true ?_ ?_); focus decide) | ((with_reducible refine Bi.sdec false ?_ ?_); focus decide))
    refine BdS.one E u_sl_string e_string rfl ?_
    intro v2 w_ E
    have := hsz _ _ hp
    refine Ap.one E (i := 3) rfl u_sl_string ⟨_, u_sl_string, fun _ h => by cases h⟩ e_string (Src.one E (by (first | assumption | exact FPt.mem | exact FMp.mem | exact FSl.mem | (repeat (first | assumption | with_reducible exact List.mem_cons_self | refine List.mem_cons_of_mem _ ?_)))) rfl) rfl (by simp; omega) (by simp; omega) ?_
    intro s' w_ E
    (try simp only [List.set_cons_zero, List.set_cons_succ, List.cons_append, List.nil_append, Nat.zero_add, Nat.add_zero] at E)
    (repeat first | (with_reducible first | refine Stp.go ?_ | refine StpE.go E ?_ | (refine StpW.go E ?_; clear E; intro w_ E) | (refine StpA.go E ?_; clear E; intro b_ w_ hb_ E) | refine LnL.nil ?_) | ((with_reducible refine Bi.dec true ?_ ?_); focus exact rfl) | ((with_reducible refine Bi.dec false ?_ ?_); focus exact rfl) | ((with_reducible refine Bi.sdec true ?_ ?_); focus decide) | ((with_reducible refine Bi.sdec false ?_ ?_); focus decide))
    refine hn _ _ ⟨s', rfl⟩ ?_
    simp only [List.cons_append, List.nil_append]
    (replace E := (E.bSl v2))
    (replace E := (E.bIx 0).tl)
    (replace E := ((((E.bPt b).bSl s').bPt D).bPt L))
    have e1 : (pre ++ [x]).map str = pre.map str ++ [str x] := by simp
    rw [e1]
    exact E
  · clear E
    rintro D w_ xs _ hD hw ⟨v, rfl⟩ E
    simp only [List.cons_append, List.nil_append] at E
    (repeat first | (with_reducible first | refine Stp.go ?_ | refine StpE.go E ?_ | (refine StpW.go E ?_; clear E; intro w_ E) | (refine StpA.go E ?_; clear E; intro b_ w_ hb_ E) | refine LnL.nil ?_) | ((with_reducible refine Bi.dec true ?_ ?_); focus exact rfl) | ((with_reducible refine Bi.dec false ?_ ?_); focus exact rfl) | ((with_reducible refine Bi.sdec true ?_ ?_); focus decide) | ((with_reducible refine Bi.sdec false ?_ ?_); focus decide))
    refine ⟨xs, hw, ?_⟩
    (replace E := (E.bPt b))
    (replace E := (E.bIx 0).tl)
    exact E
theorem Collect_ok {w : World} {g : Value} {gf : FuncId} {first cap : Array Value} {Pf : List ByteArray → ByteArray → Prop} {Whole : List ByteArray → Prop} {own vis own' rest : List As} (hg : g = .func (.func gf) first cap) (hb : hasBody PP gf = true)
    (hit : Iter PP w0 F g str Pf Whole own vis own') (hsz : ∀ pre x, Pf pre x → pre.length < 1000000000) (E : Hs w0 F w (own ++ rest)) :
    Ca PP Fn.slices_Collect_string #[g] w fun v w' => ∃ xs, Whole xs ∧ Hs w0 F w' (slA v Ty.string 1 (xs.map str) :: (own' ++ rest)) := by
  refine S.slices_Collect_string.calls ?_
  unfold S.slices_Collect_string
  exact AppendSeq_ok hg hb hit hsz E

/-- Strings as bytes; sorted. -/
abbrev byt (s : ByteArray) : List UInt8 := s.data.toList
def sortS (xs : List ByteArray) : List ByteArray := ((xs.map byt).mergeSort fun x y => decide (x ≤ y)).map fun l => ⟨l.toArray⟩
theorem byt_mk (s : ByteArray) : (⟨(byt s).toArray⟩ : ByteArray) = s := ba_ext (by simp)
theorem map_enc (xs : List ByteArray) : (xs.map byt).map encStr = xs.map str := by
  rw [List.map_map]; rfl
theorem map_mk (L : List (List UInt8)) : (L.map fun l => (⟨l.toArray⟩ : ByteArray)).map str = L.map encStr := by rw [List.map_map]; rfl
theorem sortS_len (xs : List ByteArray) : (sortS xs).length = xs.length := by simp [sortS]
theorem Sort_ok {w : World} {v : Value} {xs : List ByteArray} (hn : xs.length < 4611686018427387904) (E : Hs w0 F w (slA v Ty.string 1 (xs.map str) :: l)) :
    Ca PP Fn.slices_Sort_sl_string_string #[v] w fun r w' => Hs w0 F w' (slA v Ty.string 1 ((sortS xs).map str) :: l) := by
  have hs := E.sat _ List.mem_cons_self
  rw [← map_enc] at hs
  rcases SliceAt.holds hs with ⟨rfl, h0⟩ | ⟨b, off, cap, rfl, hH, hlt, hcap⟩
  · obtain rfl : xs = [] := by simpa using h0
    refine Calls.mono (Tryd.slices_Sort_string_none none 0 w) ?_
    rintro e w' ⟨rfl, rfl⟩
    exact ⟨_, rfl, by simpa [sortS] using E⟩
  · refine Calls.mono (Tryd.slices_Sort_string b off cap (xs.map byt) w hH hlt (by simpa using hn)) ?_
    rintro e w' ⟨rfl, n, os, rfl⟩
    refine ⟨_, rfl, ?_⟩
    have := hs_sortRow E (enc := encStr) (k := n) (os := os) (d := ((xs.map byt).mergeSort fun x y => decide (x ≤ y)).toArray) rfl (by simp)
    rw [sortS, map_mk]
    exact this
theorem Sorted_ok {w : World} {g : Value} {gf : FuncId} {first cap : Array Value} {Pf : List ByteArray → ByteArray → Prop} {Whole : List ByteArray → Prop} {own vis own' rest : List As} (hg : g = .func (.func gf) first cap) (hb : hasBody PP gf = true)
    (hit : Iter PP w0 F g str Pf Whole own vis own') (hsz : ∀ pre x, Pf pre x → pre.length < 1000000000) (hw : ∀ xs, Whole xs → xs.length < 4611686018427387904) (E : Hs w0 F w (own ++ rest)) :
    Ca PP Fn.slices_Sorted_string #[g] w fun v w' => ∃ xs, Whole xs ∧ Hs w0 F w' (slA v Ty.string 1 ((sortS xs).map str) :: (own' ++ rest)) := by
  refine S.slices_Sorted_string.calls ?_
  unfold S.slices_Sorted_string
  refine (Collect_ok hg hb hit hsz E).mono ?_
  clear E
  rintro v w_ ⟨xs, hx, E⟩
  refine (Sort_ok (hw _ hx) E).mono ?_
  clear E
  intro r w_ E
  exact ⟨xs, hx, E⟩
theorem compact_le (zs : List (List UInt8)) : (Lib.compact zs).length ≤ zs.length := by
  unfold Lib.compact Lib.compactUpTo
  rw [List.length_map]
  exact Nat.le_trans (List.length_filter_le _ _) (by simp)
theorem compact_lt (zs : List (List UInt8)) : (Lib.compact zs).length < zs.length ↔ ∃ j, j + 1 < zs.length ∧ zs[j]? = zs[j + 1]? := by
  have e : (Lib.compact zs).length = ((List.range zs.length).filter (Lib.keeps zs.toArray)).length := by unfold Lib.compact Lib.compactUpTo; rw [List.length_map]
  rw [e]
  constructor
  · intro h
    have : ∃ j ∈ List.range zs.length, ¬ Lib.keeps zs.toArray j = true := by
      refine Classical.byContradiction fun hn => ?_
      have hall : ∀ a ∈ List.range zs.length, Lib.keeps zs.toArray a = true := fun a ha => Classical.byContradiction fun hk => hn ⟨a, ha, hk⟩
      rw [List.filter_eq_self.2 hall] at h
      simp at h
    obtain ⟨j, hj, hk⟩ := this
    rw [List.mem_range] at hj
    have hk : ¬ (j = 0 ∨ zs.toArray[j]! ≠ zs.toArray[j - 1]!) := by simpa [Lib.keeps] using hk
    obtain ⟨k, rfl⟩ : ∃ k, j = k + 1 := ⟨j - 1, by omega⟩
    refine ⟨k, hj, ?_⟩
    have := Classical.not_not.1 fun h => hk (.inr h)
    rw [getElem!_pos zs.toArray _ (by simpa using hj), getElem!_pos zs.toArray _ (by simp; omega)] at this
    rw [List.getElem?_eq_getElem (by omega), List.getElem?_eq_getElem hj]
    simpa using this.symm
  · rintro ⟨j, hj, he⟩
    have hk : Lib.keeps zs.toArray (j + 1) = false := by
      have : zs.toArray[j + 1]! = zs.toArray[j]! := by
        rw [getElem!_pos zs.toArray _ (by simpa using hj), getElem!_pos zs.toArray _ (by simp; omega)]
        rw [List.getElem?_eq_getElem (by omega), List.getElem?_eq_getElem hj] at he
        simpa using he.symm
      simp [Lib.keeps, this]
    have := List.length_filter_lt_length_iff_exists (p := Lib.keeps zs.toArray) (l := List.range zs.length) |>.2 ⟨j + 1, List.mem_range.2 hj, by simp [hk]⟩
    simpa using this
theorem Compact_ok {w : World} {v : Value} {xs : List ByteArray} (hn : xs.length ≤ 9223372036854775807) (E : Hs w0 F w (slA v Ty.string 1 (xs.map str) :: l)) :
    Ca PP Fn.slices_Compact_sl_string_string #[v] w fun r w' => Hs w0 F w' (slA r Ty.string 1 (((Lib.compact (xs.map byt)).map fun l => (⟨l.toArray⟩ : ByteArray)).map str) :: l) := by
  have hs := E.sat _ List.mem_cons_self
  rw [← map_enc] at hs
  rcases SliceAt.holds hs with ⟨rfl, h0⟩ | ⟨b, off, cap, rfl, hH, hlt, hcap⟩
  · obtain rfl : xs = [] := by simpa using h0
    refine Calls.mono (Tryd.slices_Compact_string_empty none 0 w) ?_
    rintro e w' ⟨rfl, rfl⟩
    exact ⟨_, rfl, E⟩
  · refine Calls.mono (Tryd.slices_Compact_string b off cap (xs.map byt) w hH (by simpa using hn) (by simpa using hcap)) ?_
    rintro e w' ⟨rfl, q, rfl⟩
    refine ⟨_, rfl, ?_⟩
    rw [map_mk]
    exact hs_cutRow E (enc := encStr) rfl (by have := compact_le (xs.map byt); simp at this ⊢; omega)
/-- A string is there twice. -/
def twice (xs : List ByteArray) : Bool := decide (¬ xs.Nodup)
theorem twice_eq (xs : List ByteArray) : decide ((Lib.compact ((sortS xs).map byt)).length < xs.length) = twice xs := by
  unfold twice
  rw [decide_eq_decide]
  have e0 : (sortS xs).map byt = (xs.map byt).mergeSort fun x y => decide (x ≤ y) := by
    unfold sortS; rw [List.map_map]
    have : (byt ∘ fun l : List UInt8 => (⟨l.toArray⟩ : ByteArray)) = id := by funext l; simp
    rw [this, List.map_id]
  have hperm : ((xs.map byt).mergeSort fun x y => decide (x ≤ y)).Perm (xs.map byt) := List.mergeSort_perm _ _
  have hsorted : ((xs.map byt).mergeSort fun x y => decide (x ≤ y)).Pairwise (fun a b => a ≤ b) := by
    have := List.pairwise_mergeSort (le := fun x y : List UInt8 => decide (x ≤ y)) (fun a b c h1 h2 => by simp at h1 h2 ⊢; exact List.le_trans h1 h2) (fun a b => by simp; exact List.le_total a b) (xs.map byt)
    exact this.imp fun h => by simpa using h
  rw [e0]
  generalize (xs.map byt).mergeSort (fun x y => decide (x ≤ y)) = L at hperm hsorted
  have hlen : L.length = xs.length := by rw [hperm.length_eq, List.length_map]
  have hnd : L.Nodup ↔ xs.Nodup := by
    rw [hperm.nodup_iff]
    constructor
    · intro h
      exact List.Pairwise.of_map (S := (· ≠ ·)) byt (fun a b h e => h (by rw [e])) h
    · intro h
      exact List.Pairwise.map byt (fun a b hab e => hab (ba_ext e)) h
  rw [← hlen, compact_lt, ← hnd]
  constructor
  · rintro ⟨j, hj, he⟩ hn
    rw [List.getElem?_eq_getElem (by omega), List.getElem?_eq_getElem hj] at he
    have := List.pairwise_iff_getElem.1 hn j (j + 1) (by omega) hj (by omega)
    exact this (by simpa using he)
  · intro hn
    refine Classical.byContradiction fun hno => hn ?_
    rw [List.Nodup, List.pairwise_iff_getElem]
    intro i k hi hk hik heq
    have h1 : L[i] ≤ L[i + 1] := List.pairwise_iff_getElem.1 hsorted i (i + 1) hi (by omega) (by omega)
    have h2 : L[i + 1] ≤ L[i] := by
      by_cases hh : i + 1 = k
      · subst hh; rw [heq]; exact List.le_refl _
      · have := List.pairwise_iff_getElem.1 hsorted (i + 1) k (by omega) hk (by omega)
        rw [heq]; exact this
    refine hno ⟨i, by omega, ?_⟩
    rw [List.getElem?_eq_getElem hi, List.getElem?_eq_getElem (by omega)]
    exact congrArg some (List.le_antisymm h1 h2)
theorem repeated_ok {w : World} {v : Value} {xs : List ByteArray} (hn : xs.length < 1000000000) (E : Hs w0 F w l) (h : RdS w0 F l 1 xs.length v (xs.map str)) :
    Ca PP Fn.tree_repeated #[v] w fun r w' => r = .bool (twice xs) ∧ Hs w0 F w' l := by
  refine S.tree_repeated.calls ?_
  unfold S.tree_repeated
  obtain ⟨a, c, hv, -⟩ := id h
  refine (Values_ok hv E).mono ?_
  clear E
  rintro r w_ ⟨b, rfl, E⟩
  refine (Sorted_ok (rest := []) rfl b_values1 (values_iter (by omega) h) (fun pre x hp => ?_) (fun xs' h => by subst h; omega) (by rw [List.append_nil]; exact E)).mono ?_
  · have := (List.getElem?_eq_some_iff.1 hp.2).1; omega
  clear E
  rintro r w_ ⟨xs', e, E⟩
  rw [List.append_nil, e] at E
  clear e xs'
  obtain ⟨a2, c2, hv2⟩ := SliceAt.len (E.sat _ List.mem_cons_self) (by omega)
  refine (Compact_ok (by rw [sortS_len]; omega) E).mono ?_
  clear E
  intro r2 w_ E
  (repeat first | (with_reducible first | refine Stp.go ?_ | refine StpE.go E ?_ | (refine StpW.go E ?_; clear E; intro w_ E) | (refine StpA.go E ?_; clear E; intro b_ w_ hb_ E) | refine LnL.nil ?_) | ((with_reducible refine Bi.dec true ?_ ?_); focus exact rfl) | ((with_reducible refine Bi.dec false ?_ ?_); focus exact rfl) | ((with_reducible refine Bi.sdec true ?_ ?_); focus decide) | ((with_reducible refine Bi.sdec false ?_ ?_); focus decide))
  refine Ln.eq hv2 ?_
  have h1 : (((Lib.compact ((sortS xs).map byt)).map fun l : List UInt8 => (⟨l.toArray⟩ : ByteArray)).map str).length = (Lib.compact ((sortS xs).map byt)).length := by simp
  have h2 : ((sortS xs).map str).length / 1 = xs.length := by simp [sortS_len]
  rw [h1, h2]
  have h3 := twice_eq xs
  refine Bi.lss ?_ ?_ <;> intro h4
  · rw [decide_eq_true (by omega)] at h3
    exact ⟨by rw [← h3], E.tl.tl⟩
  · rw [decide_eq_false (by omega)] at h3
    exact ⟨by rw [← h3], E.tl.tl⟩
end Go.Proofs.YtnnhmahemklnkaaDoor
