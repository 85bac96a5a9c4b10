/-
  Trees: words that all texts use; names; permissions; the first element that a function picks.
-/
import Derived.Test.YtnnhmahemklnkaaDoorS0
import Derived.Test.YtnnhmahemklnkaaDoorS1
import Derived.Test.YtnnhmahemklnkaaDoorSh14
namespace Go.Proofs.YtnnhmahemklnkaaDoor
open Go Go.Sh
set_option maxRecDepth 100000
set_option linter.unusedVariables false
set_option linter.unusedSimpArgs false
abbrev ptr (b : Nat) : Value := .pointer (some ⟨b, 0, none⟩)
abbrev i64 (n : Int) : Value := .int .i64 n
abbrev str (s : ByteArray) : Value := .string s
theorem k_i64 : (KT.int .i64).fits PP Ty.int64 = true := by kernel_rfl
theorem k_int : (KT.int .i64).fits PP Ty.int = true := by kernel_rfl
theorem k_str : KT.str.fits PP Ty.string = true := by kernel_rfl
theorem u_sl_string : PP.underlying Ty.sl_string = some (.slice Ty.string) := by kernel_rfl
theorem u_string : PP.underlying Ty.string = some .string := by kernel_rfl
theorem e_string : el3 PP Ty.string = some (some (.string ⟨#[]⟩), 1, 16) := by kernel_rfl
theorem u_int : PP.underlying Ty.int = some (.int .i64) := by kernel_rfl
theorem e_int : el3 PP Ty.int = some (some (.int .i64 0), 1, 8) := by kernel_rfl
theorem strs_scal (bl : List ByteArray) : (bl.map str).all scalV = true := by
  rw [List.all_eq_true]; intro x hx
  obtain ⟨b, _, rfl⟩ := List.mem_map.1 hx; rfl
theorem ints_scal (bl : List Int) : (bl.map i64).all scalV = true := by
  rw [List.all_eq_true]; intro x hx
  obtain ⟨b, _, rfl⟩ := List.mem_map.1 hx; rfl
theorem ba_ext {a b : ByteArray} (h : a.data.toList = b.data.toList) : a = b := by
  cases a with | mk x => cases b with | mk y => exact congrArg ByteArray.mk (Array.ext' h)

variable {w0 : World} {F : Nat → Prop} {l : List As}

/-- A byte of a name; a name. -/
def goodB (b : UInt8) : Bool := 33 ≤ b.toNat && b.toNat ≤ 126 && b.toNat != 47
def goodName (s : ByteArray) : Bool := s.data.toList.all goodB && (s.size != 0 && s.size ≤ 40 && s != ⟨#[46]⟩ && s != ⟨#[46, 46]⟩)
theorem Valid_ok {w : World} {s : ByteArray} (hs : s.size ≤ 9223372036854775807) : Ca PP Fn.tree_Valid #[.string s] w fun r w' => r = .bool (goodName s) ∧ w' = w := by
  refine S.tree_Valid.calls ?_
  unfold S.tree_Valid
  refine LnS.mk ?_
  refine ⟨fun l w' => ∃ i : Nat, l = [i64 i] ∧ i ≤ s.size ∧ ((s.data.toList.take i).all goodB = true) ∧ w' = w, fun l _ => match l with | [.int _ i] => s.size - i.toNat | _ => 0, ⟨0, rfl, Nat.zero_le _, rfl, rfl⟩, ?_⟩
  rintro t7 u w1 ⟨i, hl, hi, hg, rfl⟩
  cases hl
  refine Bi.lss ?_ ?_ <;> intro h
  · (repeat first | (with_reducible first | refine Stp.go ?_ | refine StpE.go E ?_ | (refine StpW.go E ?_; clear E; intro w_ E) | (refine StpA.go E ?_; clear E; intro b_ w_ hb_ E) | (apply hJ1; intro u_) | refine LnL.nil ?_) | ((with_reducible refine Bi.dec true ?_ ?_); focus exact rfl) | ((with_reducible refine Bi.dec false ?_ ?_); focus exact rfl) | ((with_reducible refine Bi.sdec true ?_ ?_); focus decide) | ((with_reducible refine Bi.sdec false ?_ ?_); focus decide))
    obtain ⟨b, hb, hb'⟩ := ba_get (s := s) (i := i) (by omega)
    refine IxS.mk (by omega) (by simpa using hb) ?_
    (intro J1 hJ1)
    have hlt : i < s.data.toList.length := (List.getElem?_eq_some_iff.1 hb').1
    have hbm : b ∈ s.data.toList := List.mem_of_getElem? hb'
    have bad : goodB b = false → goodName s = false := by
      intro h0
      have : s.data.toList.all goodB = false := by
        rw [Bool.eq_false_iff]; intro ha; rw [List.all_eq_true] at ha; have := ha b hbm; rw [h0] at this; cases this
      simp [goodName, this]
    have good : goodB b = true → (s.data.toList.take (i + 1)).all goodB = true := by
      intro h0
      rw [List.take_add_one, hb', List.all_append, hg]
      simp [h0]
    refine Bi.lss ?_ ?_ <;> intro h1 <;> (repeat first | (with_reducible first | refine Stp.go ?_ | refine StpE.go E ?_ | (refine StpW.go E ?_; clear E; intro w_ E) | (refine StpA.go E ?_; clear E; intro b_ w_ hb_ E) | (apply hJ1; intro u_) | refine LnL.nil ?_) | ((with_reducible refine Bi.dec true ?_ ?_); focus exact rfl) | ((with_reducible refine Bi.dec false ?_ ?_); focus exact rfl) | ((with_reducible refine Bi.sdec true ?_ ?_); focus decide) | ((with_reducible refine Bi.sdec false ?_ ?_); focus decide))
    · exact ⟨by rw [bad (by simp [goodB]; omega)], rfl⟩
    · refine Bi.gtr ?_ ?_ <;> intro h2 <;> (repeat first | (with_reducible first | refine Stp.go ?_ | refine StpE.go E ?_ | (refine StpW.go E ?_; clear E; intro w_ E) | (refine StpA.go E ?_; clear E; intro b_ w_ hb_ E) | (apply hJ1; intro u_) | refine LnL.nil ?_) | ((with_reducible refine Bi.dec true ?_ ?_); focus exact rfl) | ((with_reducible refine Bi.dec false ?_ ?_); focus exact rfl) | ((with_reducible refine Bi.sdec true ?_ ?_); focus decide) | ((with_reducible refine Bi.sdec false ?_ ?_); focus decide))
      · exact ⟨by rw [bad (by simp [goodB]; omega)], rfl⟩
      · refine Bi.eql ?_ ?_ <;> intro h3 <;> (repeat first | (with_reducible first | refine Stp.go ?_ | refine StpE.go E ?_ | (refine StpW.go E ?_; clear E; intro w_ E) | (refine StpA.go E ?_; clear E; intro b_ w_ hb_ E) | (apply hJ1; intro u_) | refine LnL.nil ?_) | ((with_reducible refine Bi.dec true ?_ ?_); focus exact rfl) | ((with_reducible refine Bi.dec false ?_ ?_); focus exact rfl) | ((with_reducible refine Bi.sdec true ?_ ?_); focus decide) | ((with_reducible refine Bi.sdec false ?_ ?_); focus decide))
        · exact ⟨by rw [bad (by simp [goodB]; omega)], rfl⟩
        · refine Bi.add (by omega) ?_
          refine ⟨⟨i + 1, by simp, by omega, good ?_, rfl⟩, ?_⟩
          · simp [goodB]; omega
          · simp only []; omega
  · (repeat first | (with_reducible first | refine Stp.go ?_ | refine StpE.go E ?_ | (refine StpW.go E ?_; clear E; intro w_ E) | (refine StpA.go E ?_; clear E; intro b_ w_ hb_ E) | (apply hJ1; intro u_) | refine LnL.nil ?_) | ((with_reducible refine Bi.dec true ?_ ?_); focus exact rfl) | ((with_reducible refine Bi.dec false ?_ ?_); focus exact rfl) | ((with_reducible refine Bi.sdec true ?_ ?_); focus decide) | ((with_reducible refine Bi.sdec false ?_ ?_); focus decide))
    (intro J1 hJ1)
    have hall : s.data.toList.all goodB = true := by
      have : s.data.toList.take i = s.data.toList := List.take_of_length_le (by have : s.data.toList.length = s.size := rfl; omega)
      rw [this] at hg; exact hg
    have e0 : (s.size != 0) = decide (s ≠ ⟨#[]⟩) := by
      by_cases h0 : s = ⟨#[]⟩
      · subst h0; rfl
      · have : s.size ≠ 0 := fun hh => h0 (by cases s with | mk d => congr 1; exact Array.eq_empty_of_size_eq_zero hh)
        simp [this, h0]
    have tail : goodName s = (decide (s ≠ ⟨#[]⟩) && decide (s.size ≤ 40) && decide (s ≠ ⟨#[46]⟩) && decide (s ≠ ⟨#[46, 46]⟩)) := by
      unfold goodName
      rw [hall, e0]
      simp [bne, ba_beq]
    refine Bi.sneq ?_ ?_ <;> intro h1 <;> (repeat first | (with_reducible first | refine Stp.go ?_ | refine StpE.go E ?_ | (refine StpW.go E ?_; clear E; intro w_ E) | (refine StpA.go E ?_; clear E; intro b_ w_ hb_ E) | (apply hJ1; intro u_) | refine LnL.nil ?_) | ((with_reducible refine Bi.dec true ?_ ?_); focus exact rfl) | ((with_reducible refine Bi.dec false ?_ ?_); focus exact rfl) | ((with_reducible refine Bi.sdec true ?_ ?_); focus decide) | ((with_reducible refine Bi.sdec false ?_ ?_); focus decide))
    · refine Bi.leq ?_ ?_ <;> intro h2 <;> (repeat first | (with_reducible first | refine Stp.go ?_ | refine StpE.go E ?_ | (refine StpW.go E ?_; clear E; intro w_ E) | (refine StpA.go E ?_; clear E; intro b_ w_ hb_ E) | (apply hJ1; intro u_) | refine LnL.nil ?_) | ((with_reducible refine Bi.dec true ?_ ?_); focus exact rfl) | ((with_reducible refine Bi.dec false ?_ ?_); focus exact rfl) | ((with_reducible refine Bi.sdec true ?_ ?_); focus decide) | ((with_reducible refine Bi.sdec false ?_ ?_); focus decide))
      · refine Bi.sneq ?_ ?_ <;> intro h3 <;> (repeat first | (with_reducible first | refine Stp.go ?_ | refine StpE.go E ?_ | (refine StpW.go E ?_; clear E; intro w_ E) | (refine StpA.go E ?_; clear E; intro b_ w_ hb_ E) | (apply hJ1; intro u_) | refine LnL.nil ?_) | ((with_reducible refine Bi.dec true ?_ ?_); focus exact rfl) | ((with_reducible refine Bi.dec false ?_ ?_); focus exact rfl) | ((with_reducible refine Bi.sdec true ?_ ?_); focus decide) | ((with_reducible refine Bi.sdec false ?_ ?_); focus decide))
        · refine Bi.sneq ?_ ?_ <;> intro h4 <;> (repeat first | (with_reducible first | refine Stp.go ?_ | refine StpE.go E ?_ | (refine StpW.go E ?_; clear E; intro w_ E) | (refine StpA.go E ?_; clear E; intro b_ w_ hb_ E) | (apply hJ1; intro u_) | refine LnL.nil ?_) | ((with_reducible refine Bi.dec true ?_ ?_); focus exact rfl) | ((with_reducible refine Bi.dec false ?_ ?_); focus exact rfl) | ((with_reducible refine Bi.sdec true ?_ ?_); focus decide) | ((with_reducible refine Bi.sdec false ?_ ?_); focus decide))
          · exact ⟨by rw [tail]; simp [h1, h3, h4]; omega, rfl⟩
          · exact ⟨by rw [tail]; simp [h4], rfl⟩
        · exact ⟨by rw [tail]; simp [h3], rfl⟩
      · exact ⟨by rw [tail]; simp; omega, rfl⟩
    · exact ⟨by rw [tail]; simp [h1], rfl⟩
/-- Whether permissions permit a need. -/
def permF (m : Int) (o g : Bool) (need : Int) : Bool :=
  let p : Int := if o then m.fdiv 64 else if g then m.fdiv 8 else m
  let a : Int := IntKind.i64.wrap (BitVec.ofInt 64 need &&& BitVec.ofInt 64 7).toNat
  IntKind.i64.wrap (BitVec.ofInt 64 a &&& ~~~ BitVec.ofInt 64 p).toNat == 0
theorem Permits_ok {w : World} {m need : Int} {o g : Bool} : Ca PP Fn.tree_Permits #[i64 m, .bool o, .bool g, i64 need] w fun r w' => r = .bool (permF m o g need) ∧ w' = w := by
  refine S.tree_Permits.calls ?_
  unfold S.tree_Permits
  (intro J1 hJ1)
  cases o <;> (repeat first | (with_reducible first | refine Stp.go ?_ | refine StpE.go E ?_ | (refine StpW.go E ?_; clear E; intro w_ E) | (refine StpA.go E ?_; clear E; intro b_ w_ hb_ E) | (apply hJ1; intro u_) | refine LnL.nil ?_) | ((with_reducible refine Bi.dec true ?_ ?_); focus exact rfl) | ((with_reducible refine Bi.dec false ?_ ?_); focus exact rfl) | ((with_reducible refine Bi.sdec true ?_ ?_); focus decide) | ((with_reducible refine Bi.sdec false ?_ ?_); focus decide))
  · cases g <;> (repeat first | (with_reducible first | refine Stp.go ?_ | refine StpE.go E ?_ | (refine StpW.go E ?_; clear E; intro w_ E) | (refine StpA.go E ?_; clear E; intro b_ w_ hb_ E) | (apply hJ1; intro u_) | refine LnL.nil ?_) | ((with_reducible refine Bi.dec true ?_ ?_); focus exact rfl) | ((with_reducible refine Bi.dec false ?_ ?_); focus exact rfl) | ((with_reducible refine Bi.sdec true ?_ ?_); focus decide) | ((with_reducible refine Bi.sdec false ?_ ?_); focus decide))
    · refine Bi.mk rfl (Bi.mk rfl (Bi.mk rfl ⟨rfl, rfl⟩))
    · refine Bi.mk rfl ?_
      (repeat first | (with_reducible first | refine Stp.go ?_ | refine StpE.go E ?_ | (refine StpW.go E ?_; clear E; intro w_ E) | (refine StpA.go E ?_; clear E; intro b_ w_ hb_ E) | (apply hJ1; intro u_) | refine LnL.nil ?_) | ((with_reducible refine Bi.dec true ?_ ?_); focus exact rfl) | ((with_reducible refine Bi.dec false ?_ ?_); focus exact rfl) | ((with_reducible refine Bi.sdec true ?_ ?_); focus decide) | ((with_reducible refine Bi.sdec false ?_ ?_); focus decide))
      refine Bi.mk rfl (Bi.mk rfl (Bi.mk rfl ⟨rfl, rfl⟩))
  · refine Bi.mk rfl ?_
    (repeat first | (with_reducible first | refine Stp.go ?_ | refine StpE.go E ?_ | (refine StpW.go E ?_; clear E; intro w_ E) | (refine StpA.go E ?_; clear E; intro b_ w_ hb_ E) | (apply hJ1; intro u_) | refine LnL.nil ?_) | ((with_reducible refine Bi.dec true ?_ ?_); focus exact rfl) | ((with_reducible refine Bi.dec false ?_ ?_); focus exact rfl) | ((with_reducible refine Bi.sdec true ?_ ?_); focus decide) | ((with_reducible refine Bi.sdec false ?_ ?_); focus decide))
    refine Bi.mk rfl (Bi.mk rfl (Bi.mk rfl ⟨rfl, rfl⟩))


/-- The first string that a function picks; whether there is one. -/
theorem IndexFunc_ok {w : World} {v fv : Value} {xs : List ByteArray} {p : ByteArray → Bool} (hn : xs.length ≤ 9223372036854775806) (E : Hs w0 F w l) (h : RdS w0 F l 1 xs.length v (xs.map str))
    (call : ∀ x ∈ xs, ∀ w1, Hs w0 F w1 l → CaV PP fv #[str x] w1 fun r w' => r = .bool (p x) ∧ Hs w0 F w' l) :
    Ca PP Fn.slices_IndexFunc_sl_string_string #[v, fv] w fun r w' => (∃ n : Int, r = i64 n ∧ (0 ≤ n ↔ xs.any p = true)) ∧ Hs w0 F w' l := by
  refine S.slices_IndexFunc_sl_string_string.calls ?_
  unfold S.slices_IndexFunc_sl_string_string
  refine h.len ?_
  refine ⟨fun l1 w1 => ∃ i : Nat, l1 = [i64 i] ∧ i ≤ xs.length ∧ (xs.take i).any p = false ∧ Hs w0 F w1 l, fun l1 _ => match l1 with | [.int _ i] => xs.length - i.toNat | _ => 0, ⟨0, rfl, Nat.zero_le _, rfl, E⟩, ?_⟩
  clear E
  rintro t u w1 ⟨i, h1, hi, hp, E⟩
  cases h1
  refine Bi.lss ?_ ?_ <;> intro hlt <;> (repeat first | (with_reducible first | refine Stp.go ?_ | refine StpE.go E ?_ | (refine StpW.go E ?_; clear E; intro w_ E) | (refine StpA.go E ?_; clear E; intro b_ w_ hb_ E) | refine LnL.nil ?_) | ((with_reducible refine Bi.dec true ?_ ?_); focus exact rfl) | ((with_reducible refine Bi.dec false ?_ ?_); focus exact rfl) | ((with_reducible refine Bi.sdec true ?_ ?_); focus decide) | ((with_reducible refine Bi.sdec false ?_ ?_); focus decide))
  · have hx : xs[i]? = some xs[i] := List.getElem?_eq_getElem (by omega)
    refine h.ix (by omega) (by omega) (by omega) ?_
    intro a ha
    refine ha.ld E (x := str xs[i]) (by simp [hx]) ?_
    refine (call _ (List.getElem_mem _) _ E).mono ?_
    clear E
    rintro r w_ ⟨rfl, E⟩
    have hany : (xs.take (i + 1)).any p = p xs[i] := by rw [List.take_add_one, hx, List.any_append, hp]; simp
    cases hb : p xs[i] with
    | true =>
      (repeat first | (with_reducible first | refine Stp.go ?_ | refine StpE.go E ?_ | (refine StpW.go E ?_; clear E; intro w_ E) | (refine StpA.go E ?_; clear E; intro b_ w_ hb_ E) | refine LnL.nil ?_) | ((with_reducible refine Bi.dec true ?_ ?_); focus exact rfl) | ((with_reducible refine Bi.dec false ?_ ?_); focus exact rfl) | ((with_reducible refine Bi.sdec true ?_ ?_); focus decide) | ((with_reducible refine Bi.sdec false ?_ ?_); focus decide))
      refine ⟨⟨i, rfl, ⟨fun _ => ?_, fun _ => by omega⟩⟩, E⟩
      rw [List.any_eq_true]; exact ⟨_, List.getElem_mem _, hb⟩
    | false =>
      (repeat first | (with_reducible first | refine Stp.go ?_ | refine StpE.go E ?_ | (refine StpW.go E ?_; clear E; intro w_ E) | (refine StpA.go E ?_; clear E; intro b_ w_ hb_ E) | refine LnL.nil ?_) | ((with_reducible refine Bi.dec true ?_ ?_); focus exact rfl) | ((with_reducible refine Bi.dec false ?_ ?_); focus exact rfl) | ((with_reducible refine Bi.sdec true ?_ ?_); focus decide) | ((with_reducible refine Bi.sdec false ?_ ?_); focus decide))
      refine Bi.add (by omega) ?_
      exact ⟨⟨i + 1, by simp, by omega, by rw [hany, hb], E⟩, by simp only []; omega⟩
  · have : xs.take i = xs := List.take_of_length_le (by omega)
    rw [this] at hp
    exact ⟨⟨-1, rfl, ⟨fun h => by omega, fun h => by rw [hp] at h; cases h⟩⟩, E⟩
theorem ContainsFunc_ok {w : World} {v fv : Value} {xs : List ByteArray} {p : ByteArray → Bool} (hn : xs.length ≤ 9223372036854775806) (E : Hs w0 F w l) (h : RdS w0 F l 1 xs.length v (xs.map str))
    (call : ∀ x ∈ xs, ∀ w1, Hs w0 F w1 l → CaV PP fv #[str x] w1 fun r w' => r = .bool (p x) ∧ Hs w0 F w' l) :
    Ca PP Fn.slices_ContainsFunc_sl_string_string #[v, fv] w fun r w' => r = .bool (xs.any p) ∧ Hs w0 F w' l := by
  refine S.slices_ContainsFunc_sl_string_string.calls ?_
  unfold S.slices_ContainsFunc_sl_string_string
  refine (IndexFunc_ok hn E h call).mono ?_
  rintro r w_ ⟨⟨n, rfl, hn⟩, E⟩
  refine Bi.geq ?_ ?_ <;> intro h1
  · exact ⟨by rw [hn.1 h1], E⟩
  · have : xs.any p = false := by
      cases h2 : xs.any p with
      | false => rfl
      | true => have := hn.2 h2; omega
    exact ⟨by rw [this], E⟩
end Go.Proofs.YtnnhmahemklnkaaDoor
