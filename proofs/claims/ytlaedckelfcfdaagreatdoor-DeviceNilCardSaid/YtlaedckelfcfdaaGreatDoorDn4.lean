/-
  Device: the making of files.
-/
import Derived.Test.YtlaedckelfcfdaaGreatDoorS0
import Derived.Test.YtlaedckelfcfdaaGreatDoorS1
import Derived.Test.YtlaedckelfcfdaaGreatDoorSh17
import Derived.Test.YtlaedckelfcfdaaGreatDoorSh24
namespace Go.Proofs.YtlaedckelfcfdaaGreatDoor
open Go Go.Sh
set_option maxRecDepth 100000
set_option linter.unusedVariables false
set_option linter.unusedSimpArgs false
set_option linter.unusedSimpArgs false
abbrev ptr (b : Nat) : Value := .pointer (some ⟨b, 0, none⟩)
abbrev i64 (n : Int) : Value := .int .i64 n
abbrev str (s : ByteArray) : Value := .string s

theorem u_files : PP.underlying Ty.map_int64_p_device_file = some (.map Ty.int64 Ty.p_device_file) := by kernel_rfl
theorem u_kids : PP.underlying Ty.map_string_p_device_file = some (.map Ty.string Ty.p_device_file) := by kernel_rfl
theorem u_open : PP.underlying Ty.map_int_device_handle = some (.map Ty.int Ty.device_handle) := by kernel_rfl
theorem k_i64 : (KT.int .i64).fits PP Ty.int64 = true := by kernel_rfl
theorem k_int : (KT.int .i64).fits PP Ty.int = true := by kernel_rfl
theorem k_str : KT.str.fits PP Ty.string = true := by kernel_rfl

variable {w0 : World} {F : Nat → Prop} {l : List As}

theorem text_ok {w : World} {f : Nat} {cs : List Value} {v : Value} (hv : scalV v = true) (hl : cs.length = 16) (E : Hs w0 F w (pt f (oc cs Ty.device_file) :: l)) :
    Ca PP Fn.device_file_text #[ptr f, v] w fun r w' => r = .tuple #[] ∧ ∃ c T, Hs w0 F w' (pt f (oc (cs.set 13 (.func (.func Fn.device_file_text_1) #[] #[ptr c])) Ty.device_file) :: pt c (oc [v] T) :: l) := by
  refine S.device_file_text.calls ?_
  unfold S.device_file_text
  rw [cells_scal hv]
  (repeat with_reducible first | refine Stp.go ?_ | (refine StpA.go E ?_; clear E; intro b_ w_ hb_ E))
  (try (refine St.by E (by first | exact Nat.le_of_ble_eq_true rfl | omega | (simp only [List.length_set, List.length_cons, List.length_nil]; omega)) (by first | exact rfl | assumption | exact Hs.slScal E FSl.mem) ?_; clear E; intro w_ E; try simp only [Nat.zero_add] at E))
  exact ⟨rfl, _, _, E.front 1 rfl⟩

/-- A mode's bit for directories. -/
def dirBit (m : Int) : Bool := IntKind.i64.wrap (BitVec.ofInt 64 m &&& BitVec.ofInt 64 2147483648).toNat != 0
theorem isDir_ok {w : World} {f : Nat} {cs : List Value} {m : Int} (hm : cs[3]? = some (i64 m)) (h : w.heap[f]? = some (oc cs Ty.device_file)) :
    Ca PP Fn.device_file_isDir #[ptr f] w fun r w' => r = .bool (dirBit m) ∧ w' = w := by
  refine S.device_file_isDir.calls ?_
  unfold S.device_file_isDir
  refine Nc.ptr (Fa.ptr (Fa.ptr (Ld.ob h (by simpa using hm) ?_)))
  exact Bi.mk rfl (Bi.mk rfl ⟨rfl, rfl⟩)

theorem become_file {w : World} {f : Nat} {cs : List Value} {m : Int} (hl : cs.length = 16) (hm : dirBit m = false) (E : Hs w0 F w (pt f (oc cs Ty.device_file) :: l)) :
    Ca PP Fn.device_file_become #[ptr f, i64 m] w fun r w' => Hs w0 F w' (pt f (oc (cs.set 3 (i64 m)) Ty.device_file) :: l) := by
  refine S.device_file_become.calls ?_
  unfold S.device_file_become
  (repeat with_reducible refine Stp.go ?_)
  (try (refine St.by E (by first | exact Nat.le_of_ble_eq_true rfl | omega | (simp only [List.length_set, List.length_cons, List.length_nil]; omega)) (by first | exact rfl | assumption | exact Hs.slScal E FSl.mem) ?_; clear E; intro w_ E; try simp only [Nat.zero_add] at E))
  refine (isDir_ok (m := m) (by simp [hl]) (E.sat _ List.mem_cons_self)).mono ?_
  rintro r w' ⟨rfl, rfl⟩
  rw [hm]
  exact Cnd.f E

theorem become_dir {w : World} {f : Nat} {cs : List Value} {m : Int} (hl : cs.length = 16) (hm : dirBit m = true) (E : Hs w0 F w (pt f (oc cs Ty.device_file) :: l)) :
    Ca PP Fn.device_file_become #[ptr f, i64 m] w fun r w' => ∃ k, Hs w0 F w' (pt f (oc (((cs.set 3 (i64 m)).set 0 (i64 128)).set 11 (.map (some k))) Ty.device_file) :: mp k .str [] :: l) := by
  refine S.device_file_become.calls ?_
  unfold S.device_file_become
  (repeat with_reducible refine Stp.go ?_)
  (try (refine St.by E (by first | exact Nat.le_of_ble_eq_true rfl | omega | (simp only [List.length_set, List.length_cons, List.length_nil]; omega)) (by first | exact rfl | assumption | exact Hs.slScal E FSl.mem) ?_; clear E; intro w_ E; try simp only [Nat.zero_add] at E))
  refine (isDir_ok (m := m) (by simp [hl]) (E.sat _ List.mem_cons_self)).mono ?_
  rintro r w' ⟨rfl, rfl⟩
  rw [hm]
  refine Cnd.t ?_
  refine MkM.pt (kt := .str) E ?_
  intro k w_ hb_ E
  (repeat with_reducible refine Stp.go ?_)
  (try (refine St.by E (by first | exact Nat.le_of_ble_eq_true rfl | omega | (simp only [List.length_set, List.length_cons, List.length_nil]; omega)) (by first | exact rfl | assumption | exact Hs.slScal E FSl.mem) ?_; clear E; intro w_ E; try simp only [Nat.zero_add] at E))
  (repeat with_reducible refine Stp.go ?_)
  (try (refine St.by E (by first | exact Nat.le_of_ble_eq_true rfl | omega | (simp only [List.length_set, List.length_cons, List.length_nil]; omega)) (by first | exact rfl | assumption | exact Hs.slScal E FSl.mem) ?_; clear E; intro w_ E; try simp only [Nat.zero_add] at E))
  exact ⟨k, E.front 1 rfl⟩

/-- The root's cells. -/
abbrev rootCs (o : ByteArray) (k : Nat) : List Value :=
  [i64 128, i64 0, i64 0, i64 2147484013, i64 0, i64 0, .string ⟨#[]⟩, .string o, .string o, .string o, .pointer none, .map (some k), .bool false, .nilFunc, .nilFunc, .nilFunc]
theorem newDevice_ok {w : World} {o : ByteArray} (E : Hs w0 F w l) :
    Ca PP Fn.device_newDevice #[.string o] w fun r w' => ∃ d rt fm om k, r = ptr d ∧ Hs w0 F w' (pt d (oc [ptr rt, .map (some fm), .map (some om)] Ty.device_Device) :: pt rt (oc (rootCs o k) Ty.device_file) ::
      mp fm (.int .i64) [(i64 0, ptr rt)] :: mp om (.int .i64) [] :: mp k .str [] :: l) := by
  refine S.device_newDevice.calls ?_
  unfold S.device_newDevice
  refine MkM.pt (kt := .int .i64) E ?_
  intro fm w_ hfm E
  refine MkM.pt (kt := .int .i64) E ?_
  intro om w_ hom E
  (repeat with_reducible first | refine Stp.go ?_ | refine StpE.go E ?_ | (refine StpW.go E ?_; clear E; intro w_ E) | (refine StpA.go E ?_; clear E; intro b_ w_ hb_ E))
  (try (refine St.by E (by first | exact Nat.le_of_ble_eq_true rfl | omega | (simp only [List.length_set, List.length_cons, List.length_nil]; omega)) (by first | exact rfl | assumption | exact Hs.slScal E FSl.mem) ?_; clear E; intro w_ E; try simp only [Nat.zero_add] at E))
  skip
  refine (become_dir (m := 2147484013) rfl (by decide) E).mono ?_
  rintro r w_ ⟨k, E⟩
  (try simp only [List.set_cons_zero, List.set_cons_succ, List.cons_append, List.nil_append, Nat.zero_add, Nat.add_zero] at E)
  (repeat with_reducible first | refine Stp.go ?_ | refine StpE.go E ?_ | (refine StpW.go E ?_; clear E; intro w_ E))
  (refine Mu.by E u_files k_i64 (by first | rfl | assumption) ?_; clear E; intro w_ E)
  (replace E := (((((E.bIx 1).bIx 3).bIx 4).bIx 3).bIx 4))
  exact ⟨_, _, _, _, _, rfl, E⟩

/-- A file's cells, as 'add' makes it. -/
abbrev fileCs (p : Int) (m : Int) (name o : ByteArray) (up : Value) : List Value :=
  [i64 0, i64 0, i64 p, i64 m, i64 0, i64 0, str name, str o, str o, str o, up, .map none, .bool false, .nilFunc, .nilFunc, .nilFunc]
theorem add_ok {w : World} {d rt fm om k : Nat} {o name : ByteArray} {p m : Int} {M1 M2 : AL} (hm : dirBit m = false)
    (E : Hs w0 F w (pt d (oc [ptr rt, .map (some fm), .map (some om)] Ty.device_Device) :: pt rt (oc (rootCs o k) Ty.device_file) :: mp fm (.int .i64) M1 :: mp k .str M2 :: l)) :
    Ca PP Fn.device_Device_add #[ptr d, ptr rt, i64 p, str name, i64 m] w fun r w' => ∃ f, r = ptr f ∧
      Hs w0 F w' (pt f (oc (fileCs p m name o (ptr rt)) Ty.device_file) :: pt d (oc [ptr rt, .map (some fm), .map (some om)] Ty.device_Device) :: pt rt (oc (rootCs o k) Ty.device_file) ::
        mp fm (.int .i64) (aput M1 (i64 p) (ptr f)) :: mp k .str (aput M2 (str name) (ptr f)) :: l) := by
  refine S.device_Device_add.calls ?_
  unfold S.device_Device_add
  (repeat with_reducible first | refine Stp.go ?_ | refine StpE.go E ?_ | (refine StpA.go E ?_; clear E; intro b_ w_ hb_ E))
  refine (become_file rfl hm E).mono ?_
  clear E
  rintro r w_ E
  (try simp only [List.set_cons_zero, List.set_cons_succ, List.cons_append, List.nil_append, Nat.zero_add, Nat.add_zero] at E)
  (repeat with_reducible first | refine Stp.go ?_ | refine StpE.go E ?_)
  (refine Mu.by E u_kids k_str (by first | rfl | assumption) ?_; clear E; intro w_ E)
  (repeat with_reducible first | refine Stp.go ?_ | refine StpE.go E ?_)
  (refine Mu.by E u_files k_i64 (by first | rfl | assumption) ?_; clear E; intro w_ E)
  exact ⟨_, rfl, E⟩
end Go.Proofs.YtlaedckelfcfdaaGreatDoor

/-
  Device: names, permissions, finding.
-/
namespace Go.Proofs.YtlaedckelfcfdaaGreatDoor
open Go Go.Sh
set_option maxRecDepth 100000
set_option linter.unusedVariables false
set_option linter.unusedSimpArgs false
variable {w0 : World} {F : Nat → Prop} {l : List As}

/-- A byte of a name; a name. -/
def goodB (b : UInt8) : Bool := 33 ≤ b.toNat && b.toNat ≤ 126 && b.toNat != 47
def goodName (s : ByteArray) : Bool := s.data.toList.all goodB && (s.size != 0 && s.size ≤ 40 && s != ⟨#[46]⟩ && s != ⟨#[46, 46]⟩)
theorem Valid_ok {w : World} {s : ByteArray} (hs : s.size ≤ 9223372036854775807) : Ca PP Fn.tree_Valid #[.string s] w fun r w' => r = .bool (goodName s) ∧ w' = w := by
  refine S.tree_Valid.calls ?_
  unfold S.tree_Valid
  refine LnS.mk ?_
  refine ⟨fun l w' => ∃ i : Nat, l = [i64 i] ∧ i ≤ s.size ∧ ((s.data.toList.take i).all goodB = true) ∧ w' = w, fun l _ => match l with | [.int _ i] => s.size - i.toNat | _ => 0, ⟨0, rfl, Nat.zero_le _, rfl, rfl⟩, ?_⟩
  rintro t7 u w1 ⟨i, hl, hi, hg, rfl⟩
  cases hl
  refine Bi.lss ?_ ?_ <;> intro h
  · (repeat with_reducible refine Stp.go ?_)
    obtain ⟨b, hb, hb'⟩ := ba_get (s := s) (i := i) (by omega)
    refine IxS.mk (by omega) (by simpa using hb) ?_
    (intro J1 hJ1)
    have hlt : i < s.data.toList.length := (List.getElem?_eq_some_iff.1 hb').1
    have hbm : b ∈ s.data.toList := List.mem_of_getElem? hb'
    have bad : goodB b = false → goodName s = false := by
      intro h0
      have : s.data.toList.all goodB = false := by
        rw [Bool.eq_false_iff]; intro ha; rw [List.all_eq_true] at ha; have := ha b hbm; rw [h0] at this; cases this
      simp [goodName, this]
    have good : goodB b = true → (s.data.toList.take (i + 1)).all goodB = true := by
      intro h0
      rw [List.take_add_one, hb', List.all_append, hg]
      simp [h0]
    refine Bi.lss ?_ ?_ <;> intro h1 <;> (repeat with_reducible first | refine Stp.go ?_ | (apply hJ1; intro u_))
    · exact ⟨by rw [bad (by simp [goodB]; omega)], rfl⟩
    · refine Bi.gtr ?_ ?_ <;> intro h2 <;> (repeat with_reducible first | refine Stp.go ?_ | (apply hJ1; intro u_))
      · exact ⟨by rw [bad (by simp [goodB]; omega)], rfl⟩
      · refine Bi.eql ?_ ?_ <;> intro h3 <;> (repeat with_reducible first | refine Stp.go ?_ | (apply hJ1; intro u_))
        · exact ⟨by rw [bad (by simp [goodB]; omega)], rfl⟩
        · refine Bi.add (by omega) ?_
          refine ⟨⟨i + 1, by simp, by omega, good ?_, rfl⟩, ?_⟩
          · simp [goodB]; omega
          · simp only []; omega
  · (repeat with_reducible refine Stp.go ?_)
    (intro J1 hJ1)
    have hall : s.data.toList.all goodB = true := by
      have : s.data.toList.take i = s.data.toList := List.take_of_length_le (by have : s.data.toList.length = s.size := rfl; omega)
      rw [this] at hg; exact hg
    have e0 : (s.size != 0) = decide (s ≠ ⟨#[]⟩) := by
      by_cases h0 : s = ⟨#[]⟩
      · subst h0; rfl
      · have : s.size ≠ 0 := fun hh => h0 (by cases s with | mk d => congr 1; exact Array.eq_empty_of_size_eq_zero hh)
        simp [this, h0]
    have tail : goodName s = (decide (s ≠ ⟨#[]⟩) && decide (s.size ≤ 40) && decide (s ≠ ⟨#[46]⟩) && decide (s ≠ ⟨#[46, 46]⟩)) := by
      unfold goodName
      rw [hall, e0]
      simp [bne, ba_beq]
    refine Bi.sneq ?_ ?_ <;> intro h1 <;> (repeat with_reducible first | refine Stp.go ?_ | (apply hJ1; intro u_))
    · refine Bi.leq ?_ ?_ <;> intro h2 <;> (repeat with_reducible first | refine Stp.go ?_ | (apply hJ1; intro u_))
      · refine Bi.sneq ?_ ?_ <;> intro h3 <;> (repeat with_reducible first | refine Stp.go ?_ | (apply hJ1; intro u_))
        · refine Bi.sneq ?_ ?_ <;> intro h4 <;> (repeat with_reducible first | refine Stp.go ?_ | (apply hJ1; intro u_))
          · exact ⟨by rw [tail]; simp [h1, h3, h4]; omega, rfl⟩
          · exact ⟨by rw [tail]; simp [h4], rfl⟩
        · exact ⟨by rw [tail]; simp [h3], rfl⟩
      · exact ⟨by rw [tail]; simp; omega, rfl⟩
    · exact ⟨by rw [tail]; simp [h1], rfl⟩
end Go.Proofs.YtlaedckelfcfdaaGreatDoor

/-
  Device: a console's line, blocks and output.
-/
namespace Go.Proofs.YtlaedckelfcfdaaGreatDoor
open Go Go.Sh
set_option maxRecDepth 100000
set_option linter.unusedVariables false
set_option linter.unusedSimpArgs false
variable {w0 : World} {F : Nat → Prop} {l : List As}

theorem u_sl_string : PP.underlying Ty.sl_string = some (.slice Ty.string) := by kernel_rfl
theorem u_sl_uint8 : PP.underlying Ty.sl_uint8 = some (.slice Ty.uint8) := by kernel_rfl
theorem u_string : PP.underlying Ty.string = some .string := by kernel_rfl
theorem u_uint8 : PP.underlying Ty.uint8 = some (.int .u8) := by kernel_rfl
theorem u_console : PP.underlying Ty.p_device_Console = some (.pointer Ty.device_Console) := by kernel_rfl
theorem u_device : PP.underlying Ty.p_device_Device = some (.pointer Ty.device_Device) := by kernel_rfl
theorem e_string : el3 PP Ty.string = some (some (.string ⟨#[]⟩), 1, 16) := by kernel_rfl
theorem e_uint8 : el3 PP Ty.uint8 = some (some (.int .u8 0), 1, 1) := by kernel_rfl
/-- A console's cells. -/
abbrev conC (dv lv bv ov rw tm : Value) : Obj := oc [dv, lv, bv, ov, rw, tm] Ty.device_Console
variable {c : Nat} {dv lv bv ov rw tm : Value} {bs : List Value}

theorem block_ok {w : World} {s : ByteArray} (hbs : bs.all scalV = true) (E : Hs w0 F w (pt c (conC dv lv bv ov rw tm) :: slA bv Ty.string 1 bs :: l)) :
    Ca PP Fn.device_Console_block #[ptr c, str s] w fun r w' => r = .tuple #[] ∧ ∃ bv', Hs w0 F w' (pt c (conC dv lv bv' ov rw tm) :: slA bv' Ty.string 1 (if bs.length < 64 then bs ++ [str s] else bs) :: l) := by
  refine S.device_Console_block.calls ?_
  unfold S.device_Console_block
  (repeat with_reducible first | refine Stp.go ?_ | refine StpE.go E ?_)
  refine Bi.lss ?_ ?_ <;> intro h <;> (repeat with_reducible first | refine Stp.go ?_ | refine StpE.go E ?_)
  · refine BdS.one E u_sl_string e_string rfl ?_
    intro v w_ E
    refine Ap.one E (i := 2) rfl u_sl_string ⟨_, u_sl_string, fun _ h => by cases h⟩ e_string (Src.one E (by (first | assumption | exact FPt.mem | exact FMp.mem | exact FSl.mem | (repeat (first | assumption | with_reducible exact List.mem_cons_self | refine List.mem_cons_of_mem _ ?_)))) rfl) rfl (by simp; omega) (by simp; omega) ?_
    intro s' w_ E
    (try simp only [List.set_cons_zero, List.set_cons_succ, List.cons_append, List.nil_append, Nat.zero_add, Nat.add_zero] at E)
    (repeat with_reducible first | refine Stp.go ?_ | (refine StpW.go E ?_; clear E; intro w_ E))
    (try (refine St.by E (by first | exact Nat.le_of_ble_eq_true rfl | omega | (simp only [List.length_set, List.length_cons, List.length_nil]; omega)) (by first | exact rfl | assumption | exact Hs.slScal E FSl.mem) ?_; clear E; intro w_ E; try simp only [Nat.zero_add] at E))
    refine ⟨rfl, s', ?_⟩
    rw [if_pos (by omega)]
    exact E.drop (List.sublist_cons_self _ _)
  · rw [if_neg (by omega)]
    exact ⟨rfl, bv, E⟩
theorem end_ok {w : World} {line more : ByteArray} {mv : Value} (hbs : bs.all scalV = true) (hs : line.size ≤ 100000) (hm : more.size ≤ 100000)
    (E : Hs w0 F w (pt c (conC dv lv bv ov rw tm) :: slA lv Ty.uint8 1 (bts line) :: slA bv Ty.string 1 bs :: slA mv Ty.uint8 1 (bts more) :: l)) :
    Ca PP Fn.device_Console_end #[ptr c, mv] w fun r w' => r = .tuple #[] ∧ ∃ bv', Hs w0 F w' (pt c (conC dv (.slice none 0 0) bv' ov rw tm) :: slA (.slice none 0 0) Ty.uint8 1 (bts ⟨#[]⟩) :: slA bv' Ty.string 1 (if bs.length < 64 then bs ++ [str (line ++ more)] else bs) :: l) := by
  refine S.device_Console_end.calls ?_
  unfold S.device_Console_end
  (repeat with_reducible first | refine Stp.go ?_ | refine StpE.go E ?_)
  refine Ap.one E (i := 1) rfl u_sl_uint8 ⟨_, u_sl_uint8, fun _ h => by cases h⟩ e_uint8 (Src.one E (by (first | assumption | exact FPt.mem | exact FMp.mem | exact FSl.mem | (repeat (first | assumption | with_reducible exact List.mem_cons_self | refine List.mem_cons_of_mem _ ?_)))) (bts_scal _)) rfl (by rw [bts_len, bts_len]; omega) (by rw [bts_len, bts_len]; omega) ?_
  intro s' w_ E
  (try simp only [List.set_cons_zero, List.set_cons_succ, List.cons_append, List.nil_append, Nat.zero_add, Nat.add_zero] at E)
  rw [bts_app] at E
  refine CvB.sl E (s := line ++ more) (by (first | assumption | exact FPt.mem | exact FMp.mem | exact FSl.mem | (repeat (first | assumption | with_reducible exact List.mem_cons_self | refine List.mem_cons_of_mem _ ?_)))) u_sl_uint8 u_string u_uint8 ?_
  (replace E := ((E.bIx 2).bIx 1))
  refine (block_ok hbs E).mono ?_
  rintro r w_ ⟨rfl, bv', E⟩
  (repeat with_reducible first | refine Stp.go ?_ | (refine StpW.go E ?_; clear E; intro w_ E))
  (try (refine St.by E (by first | exact Nat.le_of_ble_eq_true rfl | omega | (simp only [List.length_set, List.length_cons, List.length_nil]; omega)) (by first | exact rfl | assumption | exact Hs.slScal E FSl.mem) ?_; clear E; intro w_ E; try simp only [Nat.zero_add] at E))
  refine ⟨rfl, bv', ?_⟩
  have E := (E.nilSl Ty.uint8 1)
  (replace E := (((E.bIx 2).bIx 1).bIx 2))
  exact E.drop (.cons_cons _ (.cons_cons _ (.cons_cons _ (.cons _ (.cons _ (List.Sublist.refl _))))))
end Go.Proofs.YtlaedckelfcfdaaGreatDoor

/-
  Device: taking blocks; typing.
-/
namespace Go.Proofs.YtlaedckelfcfdaaGreatDoor
open Go Go.Sh
set_option maxRecDepth 100000
set_option linter.unusedVariables false
set_option linter.unusedSimpArgs false
variable {w0 : World} {F : Nat → Prop} {l : List As}
variable {c : Nat} {dv lv bv ov rw tm : Value}

/-- What a read takes of the blocks: the text, the error, the blocks behind it. -/
def takeF (count : Int) : List ByteArray → ByteArray × Int × List ByteArray
  | [] => if count = 0 then (⟨#[]⟩, 0, []) else (⟨#[]⟩, 36, [])
  | s :: r => if count = 0 then (⟨#[]⟩, 0, s :: r) else
    if (s.size : Int) ≤ count then (s, 0, r) else (s.extract 0 count.toNat, 0, s.extract count.toNat s.size :: r)
theorem extract_all (s : ByteArray) : s.extract 0 s.size = s := by simp
theorem take_ok {w : World} {off count : Int} {bl : List ByteArray} (h0 : 0 ≤ count) (E : Hs w0 F w (pt c (conC dv lv bv ov rw tm) :: slA bv Ty.string 1 (bl.map str) :: l)) :
    Ca PP Fn.device_Console_take #[ptr c, i64 off, i64 count] w fun r w' => r = .tuple #[str (takeF count bl).1, i64 (takeF count bl).2.1] ∧
      ∃ bv', Hs w0 F w' (pt c (conC dv lv bv' ov rw tm) :: slA bv' Ty.string 1 ((takeF count bl).2.2.map str) :: l) := by
  refine S.device_Console_take.calls ?_
  unfold S.device_Console_take
  refine Bi.eql ?_ ?_ <;> intro h <;> (repeat with_reducible first | refine Stp.go ?_ | refine StpE.go E ?_)
  · subst h
    cases bl <;> exact ⟨rfl, bv, E⟩
  · rw [List.length_map]
    refine Bi.eql ?_ ?_ <;> intro h1 <;> (repeat with_reducible first | refine Stp.go ?_ | refine StpE.go E ?_)
    · cases bl with
      | nil => simp only [takeF, if_neg h]; exact ⟨trivial, bv, E⟩
      | cons s r => simp at h1; omega
    · cases bl with
      | nil => simp at h1
      | cons s r =>
        simp only [takeF, if_neg h]
        refine IxA.sl E (by (first | assumption | exact FPt.mem | exact FMp.mem | exact FSl.mem | (repeat (first | assumption | with_reducible exact List.mem_cons_self | refine List.mem_cons_of_mem _ ?_)))) (by omega) (by omega) (by simp) ?_
        intro a ha
        refine Ld.sl E (by (first | assumption | exact FPt.mem | exact FMp.mem | exact FSl.mem | (repeat (first | assumption | with_reducible exact List.mem_cons_self | refine List.mem_cons_of_mem _ ?_)))) ha (x := str s) rfl ?_
        (repeat with_reducible refine Stp.go ?_)
        refine Mn.mk ?_
        by_cases hle : (s.size : Int) ≤ count
        · have hm : (if (s.size : Int) < count then (s.size : Int) else count) = s.size := by split <;> omega
          rw [hm]
          (intro J1 hJ1)
          (repeat with_reducible first | refine Stp.go ?_ | refine StpE.go E ?_ | (refine StpW.go E ?_; clear E; intro w_ E))
          refine SlS.suf (by omega) (by omega) ?_
          refine IxA.sl E (by (first | assumption | exact FPt.mem | exact FMp.mem | exact FSl.mem | (repeat (first | assumption | with_reducible exact List.mem_cons_self | refine List.mem_cons_of_mem _ ?_)))) (by omega) (by omega) (by simp) ?_
          intro a2 ha2
          refine St.sl E (i := 1) rfl ha2 (by simp) rfl ?_
          intro w_ E
          (try simp only [List.set_cons_zero, List.set_cons_succ, List.cons_append, List.nil_append, Nat.zero_add, Nat.add_zero] at E)
          (repeat with_reducible refine Stp.go ?_)
          refine Bi.eql (fun _ => ?_) (fun h => absurd rfl h)
          (repeat with_reducible first | refine Stp.go ?_ | refine StpE.go E ?_)
          refine Sl.sl E (i := 1) rfl (by omega) (a := 1) (b := r.length + 1) rfl (by simp [bnd]) (by omega) (by simp) ?_
          intro v' E
          (try simp only [List.set_cons_zero, List.set_cons_succ, List.cons_append, List.nil_append, Nat.zero_add, Nat.add_zero] at E)
          (repeat with_reducible first | refine Stp.go ?_ | (refine StpW.go E ?_; clear E; intro w_ E) | (apply hJ1; intro u_))
          (try (refine St.by E (by first | exact Nat.le_of_ble_eq_true rfl | omega | (simp only [List.length_set, List.length_cons, List.length_nil]; omega)) (by first | exact rfl | assumption | exact Hs.slScal E FSl.mem) ?_; clear E; intro w_ E; try simp only [Nat.zero_add] at E))
          skip
          refine SlS.pre (by omega) (by omega) ?_
          rw [if_pos hle]
          refine ⟨?_, v', ?_⟩
          · rw [Int.toNat_natCast, extract_all]
          · have : List.drop (1 * 1) (List.take ((r.length + 1) * 1) ((List.map str (s :: r)).set (Int.toNat 0 * 1) (Value.string (s.extract (s.size : Int).toNat s.size)))) = r.map str := by
              simp only [List.map_cons, Nat.mul_one, Int.toNat_zero, Nat.zero_mul, List.set_cons_zero, List.take_succ_cons, List.drop_succ_cons, List.drop_zero]
              exact List.take_of_length_le (by simp)
            rw [this] at E; exact E
        · have hm : (if (s.size : Int) < count then (s.size : Int) else count) = count := by split <;> omega
          rw [hm]
          (intro J1 hJ1)
          (repeat with_reducible first | refine Stp.go ?_ | refine StpE.go E ?_ | (refine StpW.go E ?_; clear E; intro w_ E))
          refine SlS.suf (by omega) (by omega) ?_
          refine IxA.sl E (by (first | assumption | exact FPt.mem | exact FMp.mem | exact FSl.mem | (repeat (first | assumption | with_reducible exact List.mem_cons_self | refine List.mem_cons_of_mem _ ?_)))) (by omega) (by omega) (by simp) ?_
          intro a2 ha2
          refine St.sl E (i := 1) rfl ha2 (by simp) rfl ?_
          intro w_ E
          (try simp only [List.set_cons_zero, List.set_cons_succ, List.cons_append, List.nil_append, Nat.zero_add, Nat.add_zero] at E)
          (repeat with_reducible refine Stp.go ?_)
          refine Bi.eql ?_ ?_ <;> intro h2 <;> (repeat with_reducible first | refine Stp.go ?_ | refine StpE.go E ?_ | (apply hJ1; intro u_))
          · omega
          · refine SlS.pre (by omega) (by omega) ?_
            rw [if_neg hle]
            exact ⟨rfl, bv, E⟩

/-- What a byte does that is typed: the line and the blocks. -/
def addB (bl : List ByteArray) (s : ByteArray) : List ByteArray := if bl.length < 64 then bl ++ [s] else bl
def typeB (st : ByteArray × List ByteArray) (b : UInt8) : ByteArray × List ByteArray :=
  if b.toNat = 10 then (⟨#[]⟩, addB st.2 (st.1 ++ ⟨#[b]⟩)) else
  if b.toNat = 4 then (⟨#[]⟩, addB st.2 st.1) else
  if b.toNat = 8 then (st.1.extract 0 (st.1.size - 1), st.2) else
  if b.toNat = 21 then (⟨#[]⟩, st.2) else
  if st.1.size < 1024 then (st.1 ++ ⟨#[b]⟩, st.2) else st
theorem typeB_size {st : ByteArray × List ByteArray} {b : UInt8} (h : st.1.size ≤ 1024) : (typeB st b).1.size ≤ 1024 := by
  unfold typeB
  repeat' split
  all_goals first | exact Nat.zero_le _ | (simp only [ByteArray.size_extract]; omega) | (simp only [ByteArray.size_append]; have : (ByteArray.mk #[b]).size = 1 := rfl; omega) | exact h
theorem typeL_size {l : List UInt8} : ∀ {st : ByteArray × List ByteArray}, st.1.size ≤ 1024 → (l.foldl typeB st).1.size ≤ 1024 := by
  induction l with
  | nil => intro st h; exact h
  | cons b r ih => intro st h; exact ih (typeB_size h)
theorem addB_map (bl : List ByteArray) (s : ByteArray) : (if (bl.map str).length < 64 then bl.map str ++ [str s] else bl.map str) = (addB bl s).map str := by
  unfold addB; rw [List.length_map]; split <;> simp
theorem strs_scal (bl : List ByteArray) : (bl.map str).all scalV = true := by
  rw [List.all_eq_true]; intro x hx
  obtain ⟨b, _, rfl⟩ := List.mem_map.1 hx; rfl
theorem ba_ext {a b : ByteArray} (h : a.data.toList = b.data.toList) : a = b := by
  cases a with | mk x => cases b with | mk y => exact congrArg ByteArray.mk (Array.ext' h)
theorem ba_app_nil (a : ByteArray) : a ++ (⟨#[]⟩ : ByteArray) = a := ba_ext (by simp)
theorem bts_get {s : ByteArray} {i : Nat} {b : UInt8} (h : s.data.toList[i]? = some b) : (bts s)[i]? = some (.int .u8 b.toNat) := by
  simp only [bts, List.getElem?_map, h, Option.map_some]
theorem bts_take (s : ByteArray) (n : Nat) : (bts s).take n = bts (s.extract 0 n) := by
  simp [bts]

/-- A slice of bytes of one byte. -/
theorem Type_ok {w : World} {line s : ByteArray} {bl : List ByteArray} (hl : line.size ≤ 1024) (hs : s.size ≤ 1000000000)
    (E : Hs w0 F w (pt c (conC dv lv bv ov (.bool false) tm) :: slA lv Ty.uint8 1 (bts line) :: slA bv Ty.string 1 (bl.map str) :: l)) :
    Ca PP Fn.device_Console_Type #[ptr c, str s] w fun r w' => r = .tuple #[] ∧
      ∃ lv' bv', Hs w0 F w' (pt c (conC dv lv' bv' ov (.bool false) tm) :: slA lv' Ty.uint8 1 (bts (s.data.toList.foldl typeB (line, bl)).1) :: slA bv' Ty.string 1 ((s.data.toList.foldl typeB (line, bl)).2.map str) :: l) := by
  refine S.device_Console_Type.calls ?_
  unfold S.device_Console_Type
  refine Eq.e u_console rfl ?_
  (repeat with_reducible first | refine Stp.go ?_ | refine StpE.go E ?_)
  refine CvS.sl E u_string u_sl_uint8 u_uint8 ?_
  intro v w_ E
  (repeat with_reducible refine StpE.go E ?_)
  rw [bts_len]
  refine ⟨fun l1 w1 => ∃ (i : Nat) (lv bv : Value), l1 = [i64 i] ∧ i ≤ s.size ∧ Hs w0 F w1 (slA v Ty.uint8 1 (bts s) :: pt c (conC dv lv bv ov (.bool false) tm) :: slA lv Ty.uint8 1 (bts ((s.data.toList.take i).foldl typeB (line, bl)).1) ::
    slA bv Ty.string 1 (((s.data.toList.take i).foldl typeB (line, bl)).2.map str) :: l), fun l1 _ => match l1 with | [.int _ i] => s.size - i.toNat | _ => 0, ⟨0, lv, bv, rfl, Nat.zero_le _, E⟩, ?_⟩
  clear E
  rintro t u w1 ⟨i, lv, bv, h1, hi, E⟩
  cases h1
  refine Bi.lss ?_ ?_ <;> intro h <;> (repeat with_reducible refine Stp.go ?_)
  · obtain ⟨b, hb, hb'⟩ := ba_get (s := s) (i := i) (by omega)
    (intro J1 hJ1)
    refine IxA.sl E (by (first | assumption | exact FPt.mem | exact FMp.mem | exact FSl.mem | (repeat (first | assumption | with_reducible exact List.mem_cons_self | refine List.mem_cons_of_mem _ ?_)))) (by omega) (by omega) (by rw [bts_len]; omega) ?_
    intro a ha
    refine Ld.sl E (by (first | assumption | exact FPt.mem | exact FMp.mem | exact FSl.mem | (repeat (first | assumption | with_reducible exact List.mem_cons_self | refine List.mem_cons_of_mem _ ?_)))) ha (x := .int .u8 b.toNat) (by simpa using bts_get hb') ?_
    have hst : (s.data.toList.take (i + 1)).foldl typeB (line, bl) = typeB ((s.data.toList.take i).foldl typeB (line, bl)) b := by
      rw [List.take_add_one, hb', List.foldl_append]; rfl
    have hsz : ((s.data.toList.take i).foldl typeB (line, bl)).1.size ≤ 1024 := typeL_size hl
    have done : ∀ lv bv w2, Hs w0 F w2 (slA v Ty.uint8 1 (bts s) :: pt c (conC dv lv bv ov (.bool false) tm) :: slA lv Ty.uint8 1 (bts (typeB ((s.data.toList.take i).foldl typeB (line, bl)) b).1) ::
        slA bv Ty.string 1 ((typeB ((s.data.toList.take i).foldl typeB (line, bl)) b).2.map str) :: l) → J1 [] w2 := by
      intro lv bv w2 E
      (repeat with_reducible (apply hJ1; intro u_))
      refine Bi.add (by omega) ?_
      rw [← hst] at E
      exact ⟨⟨i + 1, lv, bv, by simp, by omega, E⟩, by simp only []; omega⟩
    clear hst hJ1
    generalize (s.data.toList.take i).foldl typeB (line, bl) = st at E hsz done ⊢
    obtain ⟨ln, bl⟩ := st
    simp only [] at E hsz done
    refine Bi.eql ?_ ?_ <;> intro h2 <;> (repeat with_reducible refine Stp.go ?_)
    · refine BdS.one E u_sl_uint8 e_uint8 rfl ?_
      intro v2 w_ E
      have hb1 : ([Value.int .u8 b.toNat] : List Value) = bts ⟨#[b]⟩ := rfl
      rw [hb1] at E
      (replace E := ((((E.bSl v2).bSl bv).bSl lv).bPt c))
      refine (end_ok (strs_scal bl) (by omega) (by show 1 ≤ _; omega) E).mono ?_
      rintro r w_ ⟨rfl, bv', E⟩
      rw [addB_map] at E
      (replace E := (E.bSl v))
      refine done (.slice none 0 0) bv' _ ?_
      have : typeB (ln, bl) b = (⟨#[]⟩, addB bl (ln ++ ⟨#[b]⟩)) := by unfold typeB; rw [if_pos (by omega)]
      rw [this]; exact E
    refine Bi.eql ?_ ?_ <;> intro h3 <;> (repeat with_reducible refine Stp.go ?_)
    · have E := E.nilSl Ty.uint8 1
      have hb1 : ([] : List Value) = bts ⟨#[]⟩ := rfl
      rw [hb1] at E
      (replace E := (((((E.bIx 1).bIx 1).bIx 4).bIx 4).bIx 4))
      refine (end_ok (strs_scal bl) (by omega) (by show 0 ≤ _; omega) E).mono ?_
      rintro r w_ ⟨rfl, bv', E⟩
      rw [addB_map] at E
      (replace E := (E.bSl v))
      refine done (.slice none 0 0) bv' _ ?_
      have : typeB (ln, bl) b = (⟨#[]⟩, addB bl ln) := by unfold typeB; rw [if_neg (by omega), if_pos (by omega)]
      rw [this]
      have h0 : ln ++ (⟨#[]⟩ : ByteArray) = ln := ba_app_nil ln
      rw [h0] at E; exact E
    refine Bi.eql ?_ ?_ <;> intro h4 <;> (repeat with_reducible first | refine Stp.go ?_ | refine StpE.go E ?_ | (refine StpW.go E ?_; clear E; intro w_ E))
    · rw [bts_len]
      refine Bi.sub (by omega) ?_
      refine Mx.mk ?_
      have hm : (if 0 > (ln.size : Int) - 1 then (0 : Int) else (ln.size : Int) - 1) = ((ln.size - 1 : Nat) : Int) := by split <;> omega
      rw [hm]
      refine Sl.sl E (i := 2) rfl (by omega) (a := 0) (b := ln.size - 1) rfl (by simp [bnd]) (by omega) (by rw [bts_len]; omega) ?_
      intro v' E
      (try simp only [List.set_cons_zero, List.set_cons_succ, List.cons_append, List.nil_append, Nat.zero_add, Nat.add_zero] at E)
      (repeat with_reducible first | refine Stp.go ?_ | (refine StpW.go E ?_; clear E; intro w_ E))
      (try (refine St.by E (by first | exact Nat.le_of_ble_eq_true rfl | omega | (simp only [List.length_set, List.length_cons, List.length_nil]; omega)) (by first | exact rfl | assumption | exact Hs.slScal E FSl.mem) ?_; clear E; intro w_ E; try simp only [Nat.zero_add] at E))
      refine done v' bv _ ?_
      have : typeB (ln, bl) b = (ln.extract 0 (ln.size - 1), bl) := by unfold typeB; rw [if_neg (by omega), if_neg (by omega), if_pos (by omega)]
      rw [this]
      rw [Nat.zero_mul, List.drop_zero, Nat.mul_one, bts_take] at E
      exact E
    refine Bi.eql ?_ ?_ <;> intro h5 <;> (repeat with_reducible first | refine Stp.go ?_ | refine StpE.go E ?_ | (refine StpW.go E ?_; clear E; intro w_ E))
    · (try (refine St.by E (by first | exact Nat.le_of_ble_eq_true rfl | omega | (simp only [List.length_set, List.length_cons, List.length_nil]; omega)) (by first | exact rfl | assumption | exact Hs.slScal E FSl.mem) ?_; clear E; intro w_ E; try simp only [Nat.zero_add] at E))
      have E := E.nilSl Ty.uint8 1
      have hb1 : ([] : List Value) = bts ⟨#[]⟩ := rfl
      rw [hb1] at E
      (replace E := ((((E.bIx 4).bIx 1).bIx 3).bIx 3))
      (replace E := (E.bIx 4).tl)
      refine done (.slice none 0 0) bv _ ?_
      have : typeB (ln, bl) b = (⟨#[]⟩, bl) := by unfold typeB; rw [if_neg (by omega), if_neg (by omega), if_neg (by omega), if_pos (by omega)]
      rw [this]
      exact E
    rw [bts_len]
    refine Bi.lss ?_ ?_ <;> intro h6 <;> (repeat with_reducible first | refine Stp.go ?_ | refine StpE.go E ?_)
    · refine BdS.one E u_sl_uint8 e_uint8 rfl ?_
      intro v2 w_ E
      have hb1 : ([Value.int .u8 b.toNat] : List Value) = bts ⟨#[b]⟩ := rfl
      rw [hb1] at E
      refine Ap.one E (i := 3) rfl u_sl_uint8 ⟨_, u_sl_uint8, fun _ h => by cases h⟩ e_uint8 (Src.one E (by (first | assumption | exact FPt.mem | exact FMp.mem | exact FSl.mem | (repeat (first | assumption | with_reducible exact List.mem_cons_self | refine List.mem_cons_of_mem _ ?_)))) (bts_scal _)) rfl (by rw [bts_len, bts_len]; show (_ + 1) * _ ≤ _; omega) (by rw [bts_len, bts_len]; show _ + 1 ≤ _; omega) ?_
      intro s' w_ E
      (try simp only [List.set_cons_zero, List.set_cons_succ, List.cons_append, List.nil_append, Nat.zero_add, Nat.add_zero] at E)
      rw [bts_app] at E
      (repeat with_reducible first | refine Stp.go ?_ | (refine StpW.go E ?_; clear E; intro w_ E))
      (try (refine St.by E (by first | exact Nat.le_of_ble_eq_true rfl | omega | (simp only [List.length_set, List.length_cons, List.length_nil]; omega)) (by first | exact rfl | assumption | exact Hs.slScal E FSl.mem) ?_; clear E; intro w_ E; try simp only [Nat.zero_add] at E))
      (replace E := (E.bIx 0).tl)
      refine done s' bv _ ?_
      have : typeB (ln, bl) b = (ln ++ ⟨#[b]⟩, bl) := by unfold typeB; rw [if_neg (by omega), if_neg (by omega), if_neg (by omega), if_neg (by omega), if_pos (by simp only []; omega)]
      rw [this]
      exact E
    · refine done lv bv _ ?_
      have : typeB (ln, bl) b = (ln, bl) := by unfold typeB; rw [if_neg (by omega), if_neg (by omega), if_neg (by omega), if_neg (by omega), if_neg (by simp only []; omega)]
      rw [this]
      exact E
  · have : s.data.toList.take i = s.data.toList := List.take_of_length_le (by have : s.data.toList.length = s.size := rfl; omega)
    rw [this] at E
    (replace E := (E.bIx 0).tl)
    exact ⟨rfl, lv, bv, E⟩
end Go.Proofs.YtlaedckelfcfdaaGreatDoor

/-
  Device: permissions, finding, opening, reading, writing.
-/
namespace Go.Proofs.YtlaedckelfcfdaaGreatDoor
open Go Go.Sh
set_option maxRecDepth 100000
set_option linter.unusedVariables false
set_option linter.unusedSimpArgs false
variable {w0 : World} {F : Nat → Prop} {l : List As}

/-- Whether permissions permit a need. -/
def permF (m : Int) (o g : Bool) (need : Int) : Bool :=
  let p : Int := if o then m.fdiv 64 else if g then m.fdiv 8 else m
  let a : Int := IntKind.i64.wrap (BitVec.ofInt 64 need &&& BitVec.ofInt 64 7).toNat
  IntKind.i64.wrap (BitVec.ofInt 64 a &&& ~~~ BitVec.ofInt 64 p).toNat == 0
theorem Permits_ok {w : World} {m need : Int} {o g : Bool} : Ca PP Fn.tree_Permits #[i64 m, .bool o, .bool g, i64 need] w fun r w' => r = .bool (permF m o g need) ∧ w' = w := by
  refine S.tree_Permits.calls ?_
  unfold S.tree_Permits
  (intro J1 hJ1)
  cases o <;> (repeat with_reducible refine Stp.go ?_)
  · cases g <;> (repeat with_reducible first | refine Stp.go ?_ | (apply hJ1; intro u_))
    · refine Bi.mk rfl (Bi.mk rfl (Bi.mk rfl ⟨rfl, rfl⟩))
    · refine Bi.mk rfl ?_
      (repeat with_reducible (apply hJ1; intro u_))
      refine Bi.mk rfl (Bi.mk rfl (Bi.mk rfl ⟨rfl, rfl⟩))
  · refine Bi.mk rfl ?_
    (repeat with_reducible (apply hJ1; intro u_))
    refine Bi.mk rfl (Bi.mk rfl (Bi.mk rfl ⟨rfl, rfl⟩))

theorem may_ok {w : World} {f : Nat} {cs : List Value} {m need : Int} {user o g : ByteArray} (E : Hs w0 F w l) (hm : pt f (oc cs Ty.device_file) ∈ l) (h3 : cs[3]? = some (i64 m)) (h7 : cs[7]? = some (str o)) (h8 : cs[8]? = some (str g)) :
    Ca PP Fn.device_file_may #[ptr f, str user, i64 need] w fun r w' => r = .bool (permF m (decide (user = o)) (decide (user = g)) need) ∧ Hs w0 F w' l := by
  refine S.device_file_may.calls ?_
  unfold S.device_file_may
  (repeat with_reducible first | refine Stp.go ?_ | (refine StpW.go E ?_; clear E; intro w_ E))
  refine Ld.pt E hm (by simpa using h3) ?_
  (repeat with_reducible refine Stp.go ?_)
  refine Ld.pt E hm (by simpa using h7) ?_
  refine Bi.mk (v := .bool (decide (user = o))) (by simp only [binV, strOp, toList_beq]) ?_
  (repeat with_reducible refine Stp.go ?_)
  refine Ld.pt E hm (by simpa using h8) ?_
  refine Bi.mk (v := .bool (decide (user = g))) (by simp only [binV, strOp, toList_beq]) ?_
  refine Permits_ok.mono ?_
  rintro r w_ ⟨rfl, rfl⟩
  exact ⟨rfl, E⟩

variable {d fm om : Nat} {rv : Value}
theorem z_file : zeroK PP Ty.p_device_file = some (.pointer none) := by kernel_rfl
theorem z_handle : zeroK PP Ty.device_handle = some (.agg #[.pointer none, .int .i64 0]) := by kernel_rfl
theorem find_ok {w : World} {M : AL} {p : Int} (E : Hs w0 F w l) (hd : pt d (oc [rv, .map (some fm), .map (some om)] Ty.device_Device) ∈ l) (hm : mp fm (.int .i64) M ∈ l) :
    Ca PP Fn.device_Device_find #[ptr d, i64 p] w fun r w' => r = (match aget M (i64 p) with | some v => .tuple #[v, i64 0] | none => .tuple #[.pointer none, i64 4]) ∧ w' = w := by
  refine S.device_Device_find.calls ?_
  unfold S.device_Device_find
  refine Eq.e u_device rfl ?_
  (repeat with_reducible first | refine Stp.go ?_ | refine Ld.pt E (by (repeat (first | assumption | with_reducible exact List.mem_cons_self | refine List.mem_cons_of_mem _ ?_))) rfl ?_)
  refine Lk.by E hm u_files k_i64 z_file rfl ?_ ?_
  · intro v h; (repeat with_reducible refine Stp.go ?_); rw [h]; exact ⟨rfl, rfl⟩
  · intro h; (repeat with_reducible refine Stp.go ?_); rw [h]; exact ⟨rfl, rfl⟩
theorem opened_ok {w : World} {O : AL} {h : Int} {f : Nat} {m : Int} (E : Hs w0 F w l) (hd : pt d (oc [rv, .map (some fm), .map (some om)] Ty.device_Device) ∈ l) (hm : mp om (.int .i64) O ∈ l)
    (hO : aget O (i64 h) = some (.agg #[ptr f, i64 m])) :
    Ca PP Fn.device_Device_opened #[ptr d, i64 h] w fun r w' => r = .tuple #[.agg #[ptr f, i64 m], i64 0] ∧ Hs w0 F w' l := by
  refine S.device_Device_opened.calls ?_
  unfold S.device_Device_opened
  (repeat with_reducible (refine StpA.go E ?_; clear E; intro b_ w_ hb_ E))
  refine Eq.e u_device rfl ?_
  (repeat with_reducible first | refine Stp.go ?_ | refine Ld.pt E (by (repeat (first | assumption | with_reducible exact List.mem_cons_self | refine List.mem_cons_of_mem _ ?_))) rfl ?_)
  refine Lk.hit E (by (first | assumption | exact FPt.mem | exact FMp.mem | exact FSl.mem | (repeat (first | assumption | with_reducible exact List.mem_cons_self | refine List.mem_cons_of_mem _ ?_)))) u_open k_int z_handle rfl hO ?_
  (repeat with_reducible first | refine Stp.go ?_ | refine StpE.go E ?_ | (refine StpW.go E ?_; clear E; intro w_ E) | (refine StpA.go E ?_; clear E; intro b_ w_ hb_ E))
  (first | (refine StA.all E rfl rfl (by first | exact rfl | assumption) ?_; clear E; intro w_ E) | try (refine StA.by E rfl (by first | exact rfl | assumption) ?_; clear E; intro w_ E))
  skip
  (first | (refine StA.all E rfl rfl (by first | exact rfl | assumption) ?_; clear E; intro w_ E) | try (refine StA.by E rfl (by first | exact rfl | assumption) ?_; clear E; intro w_ E))
  skip
  (replace E := (E.bIx 0).tl)
  (replace E := (E.bIx 0).tl)
  exact ⟨rfl, E⟩

/-- A file's cells. -/
abbrev fcs (q0 q1 q2 : Value) (m : Int) (t4 t5 : Value) (nm o g la : ByteArray) (up kids gone rd wr sh : Value) : List Value :=
  [q0, q1, q2, i64 m, t4, t5, str nm, str o, str g, str la, up, kids, gone, rd, wr, sh]
/-- How many handles there are from number i on. -/
def geK : Value → Nat → Bool
  | .int _ n, i => decide ((i : Int) ≤ n)
  | _, _ => false
def cnt : AL → Nat → Nat
  | [], _ => 0
  | p :: r, i => (if geK p.1 i then 1 else 0) + cnt r i
theorem geK_le {v : Value} {i : Nat} (h : geK v (i + 1) = true) : geK v i = true := by
  cases v <;> simp [geK] at h ⊢
  omega
theorem cnt_le : ∀ (O : AL) (i : Nat), cnt O (i + 1) ≤ cnt O i
  | [], _ => Nat.le_refl _
  | p :: r, i => by
    have := cnt_le r i
    simp only [cnt]
    cases h : geK p.1 (i + 1) with
    | true => rw [geK_le h]; simp; omega
    | false => simp; omega
theorem cnt_len : ∀ (O : AL) (i : Nat), cnt O i ≤ O.length
  | [], _ => Nat.le_refl _
  | p :: r, i => by
    have := cnt_len r i
    simp only [cnt, List.length_cons]
    split <;> omega
theorem cnt_hit {i : Nat} {v : Value} : ∀ {O : AL}, aget O (i64 i) = some v → cnt O (i + 1) + 1 ≤ cnt O i
  | [], h => by cases h
  | p :: r, h => by
    simp only [cnt]
    cases hk : keyEq (i64 i) p.1 with
    | true =>
      have h1 : geK p.1 i = true ∧ geK p.1 (i + 1) = false := by
        revert hk
        cases p.1 <;> simp [keyEq, geK]
        omega
      have := cnt_le r i
      rw [h1.1, h1.2]
      simp; omega
    | false =>
      have h' : aget r (i64 i) = some v := by
        unfold aget at h ⊢
        rw [List.find?_cons, hk] at h
        exact h
      have := cnt_hit h'
      cases h2 : geK p.1 (i + 1) with
      | true => rw [geK_le h2]; simp; omega
      | false => simp; omega

theorem u_arr4 : PP.underlying Ty.f_4_int = some (.array 4 Ty.int) := by kernel_rfl
theorem u_pfile : PP.underlying Ty.p_device_file = some (.pointer Ty.device_file) := by kernel_rfl
theorem s_int : scal PP Ty.int = true := by kernel_rfl
theorem n_int : sizeK PP Ty.int = some 1 := by kernel_rfl
/-- What an opening needs. -/
def needOf (m : Int) : Int := if m = 0 then 4 else if m = 1 then 2 else 6
variable {f : Nat} {q0 q1 q2 t4 t5 up kids rd wr sh : Value} {fm_ : Int} {nm o g la : ByteArray}
theorem Open_ok {w : World} {M O : AL} {p m : Int} {user : ByteArray} (hm3 : m = 0 ∨ m = 1 ∨ m = 2) (E : Hs w0 F w (mp om (.int .i64) O :: l)) (hd : pt d (oc [rv, .map (some fm), .map (some om)] Ty.device_Device) ∈ l)
    (hM : mp fm (.int .i64) M ∈ l) (hp : aget M (i64 p) = some (ptr f)) (hf : pt f (oc (fcs q0 q1 q2 fm_ t4 t5 nm o g la up kids (.bool false) rd wr sh) Ty.device_file) ∈ l) (hs : [q0, q1, q2].all scalV = true) (hdir : dirBit fm_ = false)
    (hperm : permF fm_ (decide (user = o)) (decide (user = g)) (needOf m) = true) (hO : ∀ p ∈ O, ∃ f m, p.2 = .agg #[ptr f, i64 m]) (hlen : O.length < 64) :
    Ca PP Fn.device_Device_Open #[ptr d, str user, i64 p, i64 m] w fun r w' => ∃ h : Nat, 1 ≤ h ∧ h ≤ 64 ∧ aget O (i64 h) = none ∧ (∀ j : Nat, 1 ≤ j → j < h → aget O (i64 j) ≠ none) ∧
      r = .tuple #[i64 h, .agg #[q0, q1, q2], i64 0] ∧ Hs w0 F w' (mp om (.int .i64) (aput O (i64 h) (.agg #[ptr f, i64 m])) :: l) := by
  refine S.device_Device_Open.calls ?_
  unfold S.device_Device_Open
  (repeat with_reducible (refine StpA.go E ?_; clear E; intro b_ w_ hb_ E))
  (intro J1 hJ1)
  refine Eq.nt u_device rfl ?_
  (repeat with_reducible refine Stp.go ?_)
  have hbits : binV .andNot (i64 m) (.int .i64 83) = some (i64 0) := by rcases hm3 with rfl | rfl | rfl <;> rfl
  refine Bi.mk hbits ?_
  (repeat first | (with_reducible first | refine Stp.go ?_ | (apply hJ1; intro u_)) | ((with_reducible refine Bi.dec false ?_ ?_); focus exact rfl))
  refine (find_ok E (by (first | assumption | exact FPt.mem | exact FMp.mem | exact FSl.mem | (repeat (first | assumption | with_reducible exact List.mem_cons_self | refine List.mem_cons_of_mem _ ?_)))) (by (first | assumption | exact FPt.mem | exact FMp.mem | exact FSl.mem | (repeat (first | assumption | with_reducible exact List.mem_cons_self | refine List.mem_cons_of_mem _ ?_))))).mono ?_
  rintro r w_ ⟨rfl, rfl⟩
  rw [hp]
  (repeat first | (with_reducible first | refine Stp.go ?_) | ((with_reducible refine Bi.dec false ?_ ?_); focus exact rfl))
  refine BdA.mk (cs := #[.int .i64 4, .int .i64 2, .int .i64 6, .int .i64 1]) rfl ?_
  have hb2 : binV .and (i64 m) (.int .i64 3) = some (i64 m) := by rcases hm3 with rfl | rfl | rfl <;> rfl
  refine Bi.mk hb2 ?_
  refine Ix.arr u_arr4 s_int n_int (by omega) (by omega) (v := i64 (needOf m)) (by rcases hm3 with rfl | rfl | rfl <;> rfl) ?_
  (intro J2 hJ2)
  have hb3 : binV .and (i64 m) (.int .i64 16) = some (i64 0) := by rcases hm3 with rfl | rfl | rfl <;> rfl
  refine Bi.mk hb3 ?_
  (repeat first | (with_reducible first | refine Stp.go ?_ | (apply hJ2; intro u_)) | ((with_reducible refine Bi.dec false ?_ ?_); focus exact rfl))
  (intro J3 hJ3)
  refine (isDir_ok (m := fm_) rfl (E.sat _ (List.mem_cons_of_mem _ (List.mem_cons_of_mem _ hf)))).mono ?_
  rintro r w_ ⟨rfl, rfl⟩
  rw [hdir]
  (repeat with_reducible first | refine Stp.go ?_ | (apply hJ3; intro u_))
  (intro J4 hJ4)
  refine (may_ok (m := fm_) (o := o) (g := g) E (List.mem_cons_of_mem _ (List.mem_cons_of_mem _ hf)) rfl rfl rfl).mono ?_
  rintro r w_ ⟨rfl, E⟩
  rw [hperm]
  (repeat with_reducible refine Stp.go ?_)
  have hb4 : binV .and (i64 m) (.int .i64 64) = some (i64 0) := by rcases hm3 with rfl | rfl | rfl <;> rfl
  refine Bi.mk hb4 ?_
  (repeat first | (with_reducible first | refine Stp.go ?_ | refine Ld.pt E (by (repeat (first | assumption | with_reducible exact List.mem_cons_self | refine List.mem_cons_of_mem _ ?_))) rfl ?_ | (apply hJ4; intro u_)) | ((with_reducible refine Bi.dec false ?_ ?_); focus exact rfl))
  refine Len.map E (by (first | assumption | exact FPt.mem | exact FMp.mem | exact FSl.mem | (repeat (first | assumption | with_reducible exact List.mem_cons_self | refine List.mem_cons_of_mem _ ?_)))) u_open ?_
  refine Bi.geq ?_ ?_ <;> intro h64
  · omega
  (repeat with_reducible refine Stp.go ?_)
  clear hJ1 hJ2 hJ3 hJ4
  refine ⟨fun l1 w1 => ∃ i : Nat, l1 = [i64 i] ∧ 1 ≤ i ∧ (∀ j : Nat, 1 ≤ j → j < i → aget O (i64 j) ≠ none) ∧ i - 1 + cnt O i ≤ O.length ∧ Hs w0 F w1 (pt b_ (oc [.int .i64 0, .int .i64 0, .int .i64 0] Ty.api_Qid) :: mp om (.int .i64) O :: l),
    fun l1 _ => match l1 with | [.int _ i] => cnt O i.toNat | _ => 0, ⟨1, rfl, Nat.le_refl _, fun j h1 h2 => by omega, by have := cnt_len O 1; omega, E⟩, ?_⟩
  rintro t u w1 ⟨i, h1, hi, hall, hc, E⟩
  cases h1
  (repeat with_reducible first | refine Stp.go ?_ | refine Ld.pt E (by (repeat (first | assumption | with_reducible exact List.mem_cons_self | refine List.mem_cons_of_mem _ ?_))) rfl ?_)
  refine Lk.by1 E (by (first | assumption | exact FPt.mem | exact FMp.mem | exact FSl.mem | (repeat (first | assumption | with_reducible exact List.mem_cons_self | refine List.mem_cons_of_mem _ ?_)))) u_open k_int z_handle rfl ?_ ?_
  · intro v hv
    obtain ⟨f2, m2, rfl⟩ : ∃ f m, v = .agg #[ptr f, i64 m] := by
      have : ∃ p ∈ O, p.2 = v := by
        unfold aget at hv
        cases hf : O.find? (fun p => keyEq (i64 i) p.1) with
        | none => rw [hf] at hv; cases hv
        | some q => rw [hf] at hv; cases hv; exact ⟨q, List.mem_of_find?_eq_some hf, rfl⟩
      obtain ⟨q, hq, rfl⟩ := this
      exact hO q hq
    (repeat with_reducible refine Stp.go ?_)
    refine Eq.nt u_pfile rfl ?_
    (repeat with_reducible refine Stp.go ?_)
    have hh := cnt_hit hv
    refine Bi.add (by omega) ?_
    refine ⟨⟨i + 1, by simp, by omega, ?_, by omega, E⟩, ?_⟩
    · intro j hj1 hj2
      by_cases hji : j = i
      · subst hji; rw [hv]; simp
      · exact hall j hj1 (by omega)
    · show cnt O (((i : Int) + 1).toNat) < cnt O ((i : Int).toNat)
      have e1 : ((i : Int) + 1).toNat = i + 1 := by omega
      have e2 : ((i : Int)).toNat = i := by omega
      rw [e1, e2]; omega
  · intro hn
    (repeat with_reducible refine Stp.go ?_)
    refine Eq.nf u_pfile rfl ?_
    (repeat with_reducible first | refine Stp.go ?_ | refine StpE.go E ?_ | refine Ld.pt E (by (repeat (first | assumption | with_reducible exact List.mem_cons_self | refine List.mem_cons_of_mem _ ?_))) rfl ?_)
    (refine Mu.by E u_open k_int (by first | rfl | assumption) ?_; clear E; intro w_ E)
    (repeat with_reducible first | refine Stp.go ?_ | (refine StpW.go E ?_; clear E; intro w_ E))
    refine LdA.pt (n := 3) (o := 0) E (List.mem_cons_of_mem _ (List.mem_cons_of_mem _ hf)) (ds := [q0, q1, q2]) rfl rfl ?_
    skip
    (first | (refine StA.all E rfl rfl (by first | exact rfl | assumption) ?_; clear E; intro w_ E) | try (refine StA.by E rfl (by first | exact rfl | assumption) ?_; clear E; intro w_ E))
    (repeat with_reducible refine StpE.go E ?_)
    (replace E := (E.bIx 0).tl)
    exact ⟨i, hi, by omega, hn, hall, rfl, E⟩

theorem Read_ok {w : World} {O : AL} {h off count m : Int} {Q : ByteArray → Int → World → Prop} (hm : m = 0 ∨ m = 2) (h0 : 0 ≤ off) (hc : 0 ≤ count) (hdir : dirBit fm_ = false) (E : Hs w0 F w l)
    (hd : pt d (oc [rv, .map (some fm), .map (some om)] Ty.device_Device) ∈ l) (hO : mp om (.int .i64) O ∈ l) (hh : aget O (i64 h) = some (.agg #[ptr f, i64 m]))
    (hf : pt f (oc (fcs q0 q1 q2 fm_ t4 t5 nm o g la up kids (.bool false) rd wr sh) Ty.device_file) ∈ l)
    (call : ∀ w1, Hs w0 F w1 l → CaV PP rd #[i64 off, i64 count] w1 fun r w' => ∃ s e, r = .tuple #[str s, i64 e] ∧ Q s e w') :
    Ca PP Fn.device_Device_Read #[ptr d, i64 h, i64 off, i64 count] w fun r w' => ∃ s e, r = .tuple #[str s, i64 e] ∧ Q s e w' := by
  refine S.device_Device_Read.calls ?_
  unfold S.device_Device_Read
  refine (opened_ok E (by (first | assumption | exact FPt.mem | exact FMp.mem | exact FSl.mem | (repeat (first | assumption | with_reducible exact List.mem_cons_self | refine List.mem_cons_of_mem _ ?_)))) (by (first | assumption | exact FPt.mem | exact FMp.mem | exact FSl.mem | (repeat (first | assumption | with_reducible exact List.mem_cons_self | refine List.mem_cons_of_mem _ ?_)))) hh).mono ?_
  rintro r w_ ⟨rfl, E⟩
  (repeat first | (with_reducible first | refine Stp.go ?_ | refine StpE.go E ?_ | (refine StpW.go E ?_; clear E; intro w_ E) | (refine StpA.go E ?_; clear E; intro b_ w_ hb_ E)) | ((with_reducible refine Bi.dec false ?_ ?_); focus exact rfl))
  (first | (refine StA.all E rfl rfl (by first | exact rfl | assumption) ?_; clear E; intro w_ E) | try (refine StA.by E rfl (by first | exact rfl | assumption) ?_; clear E; intro w_ E))
  skip
  have hb : binV .and (i64 m) (.int .i64 3) = some (i64 m) := by rcases hm with rfl | rfl <;> rfl
  refine Bi.mk hb ?_
  refine Bi.mk (v := .bool false) (by rcases hm with rfl | rfl <;> rfl) ?_
  (repeat with_reducible first | refine Stp.go ?_ | refine StpE.go E ?_ | refine Ld.pt E (by (repeat (first | assumption | with_reducible exact List.mem_cons_self | refine List.mem_cons_of_mem _ ?_))) rfl ?_)
  refine (isDir_ok (m := fm_) rfl (E.sat _ (List.mem_cons_of_mem _ hf))).mono ?_
  rintro r w_ ⟨rfl, rfl⟩
  rw [hdir]
  (repeat with_reducible refine Stp.go ?_)
  (intro J1 hJ1)
  refine Bi.lss ?_ ?_ <;> intro h1
  · omega
  (repeat with_reducible refine Stp.go ?_)
  refine Bi.lss ?_ ?_ <;> intro h2
  · omega
  (repeat with_reducible first | refine Stp.go ?_ | refine StpE.go E ?_ | refine Ld.pt E (by (repeat (first | assumption | with_reducible exact List.mem_cons_self | refine List.mem_cons_of_mem _ ?_))) rfl ?_ | (apply hJ1; intro u_))
  refine (call _ (E.drop (List.sublist_cons_self _ _))).mono ?_
  rintro r w2 ⟨s, e, rfl, hQ⟩
  (repeat with_reducible refine Stp.go ?_)
  exact ⟨s, e, rfl, hQ⟩
end Go.Proofs.YtlaedckelfcfdaaGreatDoor

/-
  Device: a new console; searching with a function.
-/
namespace Go.Proofs.YtlaedckelfcfdaaGreatDoor
open Go Go.Sh
set_option maxRecDepth 100000
set_option linter.unusedVariables false
set_option linter.unusedSimpArgs false
variable {w0 : World} {F : Nat → Prop} {l : List As}

/-- A console's file "cons". -/
abbrev consF (c rt : Nat) (user : ByteArray) : List Value :=
  fcs (i64 0) (i64 0) (i64 1) 384 (i64 0) (i64 0) ⟨#[99, 111, 110, 115]⟩ user user user (ptr rt) (.map none) (.bool false) (.func (.func Fn.device_Console_take) #[ptr c] #[]) (.func (.func Fn.device_Console_print) #[ptr c] #[]) .nilFunc
theorem NewConsole_ok {w : World} {user : ByteArray} (hs : user.size ≤ 1000) (hu : goodName user = true) (E : Hs w0 F w l) :
    Ca PP Fn.device_NewConsole #[str user] w fun r w' => ∃ c d rt fm om f M, aget M (i64 1) = some (ptr f) ∧ r = .tuple #[ptr c, i64 0] ∧
      Hs w0 F w' (pt c (conC (ptr d) (.slice none 0 0) (.slice none 0 0) (.slice none 0 0) (.bool false) (i64 0)) :: slA (.slice none 0 0) Ty.uint8 1 (bts ⟨#[]⟩) :: slA (.slice none 0 0) Ty.string 1 (([] : List ByteArray).map str) :: slA (.slice none 0 0) Ty.uint8 1 (bts ⟨#[]⟩) ::
        pt d (oc [ptr rt, .map (some fm), .map (some om)] Ty.device_Device) :: mp fm (.int .i64) M :: mp om (.int .i64) [] :: pt f (oc (consF c rt user) Ty.device_file) :: l) := by
  refine S.device_NewConsole.calls ?_
  unfold S.device_NewConsole
  (repeat with_reducible first | refine StpE.go E ?_ | (refine StpA.go E ?_; clear E; intro b_ w_ hb_ E))
  refine (Valid_ok (by omega)).mono ?_
  rintro r w_ ⟨rfl, rfl⟩
  rw [hu]
  (repeat with_reducible first | refine Stp.go ?_ | refine StpE.go E ?_)
  refine (newDevice_ok E).mono ?_
  clear E
  rintro r w_ ⟨d, rt, fm, om, k, rfl, E⟩
  (repeat with_reducible first | refine Stp.go ?_ | refine StpE.go E ?_ | (refine StpW.go E ?_; clear E; intro w_ E) | (refine StpA.go E ?_; clear E; intro b_ w_ hb_ E))
  (try (refine St.by E (by first | exact Nat.le_of_ble_eq_true rfl | omega | (simp only [List.length_set, List.length_cons, List.length_nil]; omega)) (by first | exact rfl | assumption | exact Hs.slScal E FSl.mem) ?_; clear E; intro w_ E; try simp only [Nat.zero_add] at E))
  skip
  (replace E := ((((E.bMp k).bMp fm).bPt rt).bPt d))
  refine (add_ok (p := 1) (m := 384) (by decide) E).mono ?_
  clear E
  rintro r w_ ⟨f1, rfl, E⟩
  (repeat with_reducible first | refine Stp.go ?_ | refine StpE.go E ?_ | (refine StpW.go E ?_; clear E; intro w_ E))
  (try (refine St.by E (by first | exact Nat.le_of_ble_eq_true rfl | omega | (simp only [List.length_set, List.length_cons, List.length_nil]; omega)) (by first | exact rfl | assumption | exact Hs.slScal E FSl.mem) ?_; clear E; intro w_ E; try simp only [Nat.zero_add] at E))
  refine ⟨?_, ?_⟩
  · (repeat with_reducible refine StpE.go E ?_)
    rfl
  (repeat with_reducible first | refine Stp.go ?_ | refine StpE.go E ?_ | (refine StpW.go E ?_; clear E; intro w_ E))
  (try (refine St.by E (by first | exact Nat.le_of_ble_eq_true rfl | omega | (simp only [List.length_set, List.length_cons, List.length_nil]; omega)) (by first | exact rfl | assumption | exact Hs.slScal E FSl.mem) ?_; clear E; intro w_ E; try simp only [Nat.zero_add] at E))
  skip
  (replace E := ((((E.bMp k).bMp fm).bPt rt).bPt d))
  refine (add_ok (p := 2) (m := 128) (by decide) E).mono ?_
  clear E
  rintro r w_ ⟨f2, rfl, E⟩
  refine ⟨?_, ?_⟩
  · (repeat with_reducible refine StpE.go E ?_)
    rfl
  (repeat with_reducible first | refine Stp.go ?_ | refine StpE.go E ?_ | (refine StpW.go E ?_; clear E; intro w_ E))
  (try (refine St.by E (by first | exact Nat.le_of_ble_eq_true rfl | omega | (simp only [List.length_set, List.length_cons, List.length_nil]; omega)) (by first | exact rfl | assumption | exact Hs.slScal E FSl.mem) ?_; clear E; intro w_ E; try simp only [Nat.zero_add] at E))
  skip
  (replace E := ((((E.bMp k).bMp fm).bPt rt).bPt d))
  refine (add_ok (p := 3) (m := 292) (by decide) E).mono ?_
  clear E
  rintro r w_ ⟨f3, rfl, E⟩
  (replace E := (E.bPt f3))
  refine (text_ok rfl rfl E).mono ?_
  clear E
  rintro r w_ ⟨rfl, x3, T3, E⟩
  (repeat with_reducible first | refine Stp.go ?_ | refine StpE.go E ?_ | (refine StpW.go E ?_; clear E; intro w_ E))
  (replace E := ((((E.bMp k).bMp fm).bPt rt).bPt d))
  refine (add_ok (p := 4) (m := 292) (by decide) E).mono ?_
  clear E
  rintro r w_ ⟨f4, rfl, E⟩
  (replace E := (E.bPt f4))
  refine (text_ok rfl rfl E).mono ?_
  clear E
  rintro r w_ ⟨rfl, x4, T4, E⟩
  (repeat with_reducible refine StpE.go E ?_)
  (replace E := (((((E.bPt f1).bMp om).bMp fm).bPt d).bPtT Ty.device_Console))
  (replace E := (((((((((E.bIx 5).tl.bIx 5).tl.bIx 5).tl.bIx 5).tl.bIx 5).tl.bIx 5).tl.bIx 5).tl.bIx 5).tl.bIx 5).tl)
  have E := ((E.nilSl Ty.uint8 1).nilSl Ty.string 1).nilSl Ty.uint8 1
  (replace E := (E.bPtT Ty.device_Console))
  exact ⟨_, _, _, _, _, _, _, rfl, rfl, E⟩
end Go.Proofs.YtlaedckelfcfdaaGreatDoor

/-
  Device: a console's file; the examples of the chapter.
-/
namespace Go.Proofs.YtlaedckelfcfdaaGreatDoor
open Go Go.Sh
set_option maxRecDepth 100000
set_option linter.unusedVariables false
set_option linter.unusedSimpArgs false
variable {w0 : World} {F : Nat → Prop} {l : List As}
variable {c d rt fm om f : Nat} {lv bv ov : Value} {M O : AL} {user : ByteArray}

theorem b_take : hasBody PP Fn.device_Console_take = true := by kernel_rfl
theorem con_read {w : World} {line out : ByteArray} {bl : List ByteArray} {h off count : Int} (h0 : 0 ≤ off) (hc : 0 ≤ count) (hh : aget O (i64 h) = some (.agg #[ptr f, i64 0]))
    (E : Hs w0 F w (pt c (conC (ptr d) lv bv ov (.bool false) (i64 0)) :: slA lv Ty.uint8 1 (bts line) :: slA bv Ty.string 1 (bl.map str) :: slA ov Ty.uint8 1 (bts out) ::
      pt d (oc [ptr rt, .map (some fm), .map (some om)] Ty.device_Device) :: mp fm (.int .i64) M :: mp om (.int .i64) O :: pt f (oc (consF c rt user) Ty.device_file) :: l)) :
    Ca PP Fn.device_Device_Read #[ptr d, i64 h, i64 off, i64 count] w fun r w' => r = .tuple #[str (takeF count bl).1, i64 (takeF count bl).2.1] ∧ ∃ bv',
      Hs w0 F w' (pt c (conC (ptr d) lv bv' ov (.bool false) (i64 0)) :: slA lv Ty.uint8 1 (bts line) :: slA bv' Ty.string 1 ((takeF count bl).2.2.map str) :: slA ov Ty.uint8 1 (bts out) ::
        pt d (oc [ptr rt, .map (some fm), .map (some om)] Ty.device_Device) :: mp fm (.int .i64) M :: mp om (.int .i64) O :: pt f (oc (consF c rt user) Ty.device_file) :: l) := by
  refine (Read_ok (Q := fun s e w' => s = (takeF count bl).1 ∧ e = (takeF count bl).2.1 ∧ ∃ bv', Hs w0 F w' (pt c (conC (ptr d) lv bv' ov (.bool false) (i64 0)) :: slA lv Ty.uint8 1 (bts line) :: slA bv' Ty.string 1 ((takeF count bl).2.2.map str) :: slA ov Ty.uint8 1 (bts out) ::
        pt d (oc [ptr rt, .map (some fm), .map (some om)] Ty.device_Device) :: mp fm (.int .i64) M :: mp om (.int .i64) O :: pt f (oc (consF c rt user) Ty.device_file) :: l)) (m := 0) (fm_ := 384) (.inl rfl) h0 hc (by decide) E (by (first | assumption | exact FPt.mem | exact FMp.mem | exact FSl.mem | (repeat (first | assumption | with_reducible exact List.mem_cons_self | refine List.mem_cons_of_mem _ ?_)))) (by (first | assumption | exact FPt.mem | exact FMp.mem | exact FSl.mem | (repeat (first | assumption | with_reducible exact List.mem_cons_self | refine List.mem_cons_of_mem _ ?_)))) hh (by (first | assumption | exact FPt.mem | exact FMp.mem | exact FSl.mem | (repeat (first | assumption | with_reducible exact List.mem_cons_self | refine List.mem_cons_of_mem _ ?_)))) ?_).mono ?_
  · clear E
    intro w1 E
    refine CaV.mk b_take ?_
    (replace E := ((E.bSl bv).bPt c))
    refine (take_ok (off := off) hc E).mono ?_
    clear E
    rintro r w_ ⟨rfl, bv', E⟩
    refine ⟨_, _, rfl, rfl, rfl, bv', ?_⟩
    (replace E := (((E.bIx 1).bIx 2).bIx 2))
    exact E
  · rintro r w' ⟨s, e, rfl, rfl, rfl, bv', E⟩
    exact ⟨rfl, bv', E⟩
theorem first_handle {h : Nat} (h1 : 1 ≤ h) (hall : ∀ j : Nat, 1 ≤ j → j < h → aget ([] : AL) (i64 j) ≠ none) : h = 1 := by
  by_cases hh : h = 1
  · exact hh
  · exact absurd rfl (hall 1 (by omega) (by omega))
/-- "ann" -/
abbrev ann : ByteArray := ⟨#[97, 110, 110]⟩
theorem awake_ok {w : World} (E : Hs w0 F w l) : Ca PP Fn.law30_awake #[] w fun r w' => r = .bool true ∧ Hs w0 F w' l := by
  refine S.law30_awake.calls ?_
  unfold S.law30_awake
  refine (NewConsole_ok (user := ann) (by decide) (by decide) E).mono ?_
  clear E
  rintro r w_ ⟨c, d, rt, fm, om, f, M, hM, rfl, E⟩
  (repeat with_reducible refine Stp.go ?_)
  (intro J1 hJ1)
  (repeat first | (with_reducible first | refine Stp.go ?_) | ((with_reducible refine Bi.dec false ?_ ?_); focus exact rfl))
  refine Eq.ef u_console rfl ?_
  (repeat with_reducible first | refine Stp.go ?_ | (apply hJ1; intro u_))
  (replace E := (((E.bSlT Ty.string).bSlT Ty.uint8).bPt c))
  refine (Type_ok (by decide) (by decide) E).mono ?_
  clear E
  rintro r w_ ⟨rfl, lv, bv, E⟩
  (repeat with_reducible first | refine Stp.go ?_ | refine StpE.go E ?_)
  (replace E := (E.bMp om))
  refine (Open_ok (user := ann) (m := 0) (.inl rfl) E (by (first | assumption | exact FPt.mem | exact FMp.mem | exact FSl.mem | (repeat (first | assumption | with_reducible exact List.mem_cons_self | refine List.mem_cons_of_mem _ ?_)))) (by (first | assumption | exact FPt.mem | exact FMp.mem | exact FSl.mem | (repeat (first | assumption | with_reducible exact List.mem_cons_self | refine List.mem_cons_of_mem _ ?_)))) hM (by (first | assumption | exact FPt.mem | exact FMp.mem | exact FSl.mem | (repeat (first | assumption | with_reducible exact List.mem_cons_self | refine List.mem_cons_of_mem _ ?_)))) rfl (by decide) (by decide) (fun _ h => by cases h) (by decide)).mono ?_
  clear E
  rintro r w_ ⟨h, h1, -, -, hall, rfl, E⟩
  obtain rfl := first_handle h1 hall
  (repeat with_reducible first | refine Stp.go ?_ | refine StpE.go E ?_ | (refine StpW.go E ?_; clear E; intro w_ E) | (refine StpA.go E ?_; clear E; intro b_ w_ hb_ E))
  (first | (refine StA.all E rfl rfl (by first | exact rfl | assumption) ?_; clear E; intro w_ E) | try (refine StA.by E rfl (by first | exact rfl | assumption) ?_; clear E; intro w_ E))
  (replace E := (E.bIx 0).tl)
  skip
  have e1 : ([97, 98, 8, 99, 10, 100] : List UInt8).foldl typeB (⟨#[]⟩, []) = (⟨#[100]⟩, [⟨#[97, 99, 10]⟩]) := by decide
  rw [e1] at E
  (replace E := (((((((E.bMp om).bMp fm).bPt d).bSlV (.slice none 0 0) Ty.uint8).bSl bv).bSl lv).bPt c))
  refine (con_read (O := aput [] (i64 ((1 : Nat) : Int)) (.agg #[ptr f, i64 0])) (by omega) (by omega) rfl E).mono ?_
  clear E
  rintro r w_ ⟨rfl, bv1, E⟩
  (repeat with_reducible first | refine Stp.go ?_ | refine StpE.go E ?_)
  refine (con_read (O := aput [] (i64 ((1 : Nat) : Int)) (.agg #[ptr f, i64 0])) (by omega) (by omega) rfl E).mono ?_
  clear E
  rintro r w_ ⟨rfl, bv2, E⟩
  (repeat with_reducible first | refine Stp.go ?_ | refine StpE.go E ?_)
  refine (con_read (O := aput [] (i64 ((1 : Nat) : Int)) (.agg #[ptr f, i64 0])) (by omega) (by omega) rfl E).mono ?_
  clear E
  rintro r w_ ⟨rfl, bv3, E⟩
  (repeat with_reducible refine Stp.go ?_)
  (intro J2 hJ2)
  have e2 : takeF 2 [⟨#[97, 99, 10]⟩] = (⟨#[97, 99]⟩, 0, [⟨#[10]⟩]) := by decide
  have e3 : takeF 9 [⟨#[10]⟩] = (⟨#[10]⟩, 0, []) := by decide
  have e4 : takeF 9 [] = (⟨#[]⟩, 36, []) := by decide
  simp only [e2, e3, e4] at E ⊢
  (repeat first | (with_reducible first | refine Stp.go ?_ | (apply hJ2; intro u_)) | ((with_reducible refine Bi.dec true ?_ ?_); focus exact rfl) | ((with_reducible refine Bi.sdec true ?_ ?_); focus decide))
  (replace E := ((((((((E.bIx 0).tl.bIx 0).tl.bIx 0).tl.bIx 0).tl.bIx 0).tl.bIx 0).tl.bIx 0).tl.bIx 0).tl)
  exact ⟨rfl, E⟩
end Go.Proofs.YtlaedckelfcfdaaGreatDoor

/-
  Device: nil consoles, programs, environments and devices.
-/
namespace Go.Proofs.YtlaedckelfcfdaaGreatDoor
open Go Go.Sh
set_option maxRecDepth 100000
set_option linter.unusedVariables false
set_option linter.unusedSimpArgs false
variable {w0 w : World} {F : Nat → Prop} {l : List As}
abbrev np : Value := .pointer none
abbrev emp : ByteArray := ⟨#[]⟩
abbrev qV : Value := .agg #[i64 0, i64 0, i64 0]
abbrev dV : Value := .agg #[i64 0, i64 0, i64 0, i64 0, i64 0, i64 0, str emp, str emp, str emp, str emp]
theorem u_progs : PP.underlying Ty.p_device_Programs = some (.pointer Ty.device_Programs) := by kernel_rfl
theorem u_env : PP.underlying Ty.p_device_Environment = some (.pointer Ty.device_Environment) := by kernel_rfl

theorem Type_nil {s : ByteArray} (E : Hs w0 F w l) : Ca PP Fn.device_Console_Type #[np, str s] w fun r w' => r = .tuple #[] ∧ Hs w0 F w' l := by
  refine S.device_Console_Type.calls ?_
  unfold S.device_Console_Type
  refine Eq.et u_console rfl ?_
  (repeat with_reducible refine Stp.go ?_)
  exact ⟨rfl, E⟩
theorem SetTime_nil {n : Int} (E : Hs w0 F w l) : Ca PP Fn.device_Console_SetTime #[np, i64 n] w fun r w' => r = .tuple #[] ∧ Hs w0 F w' l := by
  refine S.device_Console_SetTime.calls ?_
  unfold S.device_Console_SetTime
  refine Eq.nf u_console rfl ?_
  (repeat with_reducible refine Stp.go ?_)
  exact ⟨rfl, E⟩
theorem Output_nil (E : Hs w0 F w l) : Ca PP Fn.device_Console_Output #[np] w fun r w' => r = str emp ∧ Hs w0 F w' l := by
  refine S.device_Console_Output.calls ?_
  unfold S.device_Console_Output
  refine Eq.et u_console rfl ?_
  (repeat with_reducible refine Stp.go ?_)
  exact ⟨rfl, E⟩
theorem Update_nil {v : Value} (E : Hs w0 F w l) : Ca PP Fn.device_Programs_Update #[np, v] w fun r w' => r = i64 6 ∧ Hs w0 F w' l := by
  refine S.device_Programs_Update.calls ?_
  unfold S.device_Programs_Update
  (repeat with_reducible first | refine StpE.go E ?_ | (refine StpA.go E ?_; clear E; intro b_ w_ hb_ E))
  refine Eq.et u_progs rfl ?_
  (repeat with_reducible refine Stp.go ?_)
  exact ⟨rfl, E.tl⟩
theorem Commands_nil (E : Hs w0 F w l) : Ca PP Fn.device_Programs_Commands #[np] w fun r w' => r = .slice none 0 0 ∧ Hs w0 F w' l := by
  refine S.device_Programs_Commands.calls ?_
  unfold S.device_Programs_Commands
  refine Eq.et u_progs rfl ?_
  (repeat with_reducible refine Stp.go ?_)
  exact ⟨rfl, E⟩
theorem Vars_nil (E : Hs w0 F w l) : Ca PP Fn.device_Environment_Vars #[np] w fun r w' => r = .slice none 0 0 ∧ Hs w0 F w' l := by
  refine S.device_Environment_Vars.calls ?_
  unfold S.device_Environment_Vars
  refine Eq.et u_env rfl ?_
  (repeat with_reducible refine Stp.go ?_)
  exact ⟨rfl, E⟩
theorem Set_nil {a b : ByteArray} (E : Hs w0 F w l) : Ca PP Fn.device_Environment_Set #[np, str a, str b] w fun r w' => r = i64 6 ∧ Hs w0 F w' l := by
  refine S.device_Environment_Set.calls ?_
  unfold S.device_Environment_Set
  refine Eq.et u_env rfl ?_
  refine Cnd.t ?_
  exact ⟨rfl, E⟩
theorem Get_nil {a : ByteArray} (E : Hs w0 F w l) : Ca PP Fn.device_Environment_Get #[np, str a] w fun r w' => r = .tuple #[str emp, i64 6] ∧ Hs w0 F w' l := by
  refine S.device_Environment_Get.calls ?_
  unfold S.device_Environment_Get
  refine Eq.et u_env rfl ?_
  refine Cnd.t ?_
  exact ⟨rfl, E⟩
theorem Root_nil (E : Hs w0 F w l) : Ca PP Fn.device_Device_Root #[np] w fun r w' => r = qV ∧ Hs w0 F w' l := by
  refine S.device_Device_Root.calls ?_
  unfold S.device_Device_Root
  (repeat with_reducible (refine StpA.go E ?_; clear E; intro b_ w_ hb_ E))
  refine Eq.et u_device rfl ?_
  (repeat with_reducible first | refine Stp.go ?_ | refine StpE.go E ?_ | (refine StpW.go E ?_; clear E; intro w_ E))
  exact ⟨rfl, E.tl⟩
theorem find_nil {p : Int} (E : Hs w0 F w l) : Ca PP Fn.device_Device_find #[np, i64 p] w fun r w' => r = .tuple #[np, i64 6] ∧ Hs w0 F w' l := by
  refine S.device_Device_find.calls ?_
  unfold S.device_Device_find
  refine Eq.et u_device rfl ?_
  (repeat with_reducible refine Stp.go ?_)
  exact ⟨rfl, E⟩
theorem opened_nil {h : Int} (E : Hs w0 F w l) : Ca PP Fn.device_Device_opened #[np, i64 h] w fun r w' => r = .tuple #[.agg #[np, i64 0], i64 6] ∧ Hs w0 F w' l := by
  refine S.device_Device_opened.calls ?_
  unfold S.device_Device_opened
  (repeat with_reducible (refine StpA.go E ?_; clear E; intro b_ w_ hb_ E))
  refine Eq.et u_device rfl ?_
  (repeat with_reducible first | refine Stp.go ?_ | refine StpE.go E ?_ | (refine StpW.go E ?_; clear E; intro w_ E))
  exact ⟨rfl, E.tl⟩
theorem refuse_nil {p : Int} (E : Hs w0 F w l) : Ca PP Fn.device_Device_refuse #[np, i64 p] w fun r w' => r = i64 6 ∧ Hs w0 F w' l := by
  refine S.device_Device_refuse.calls ?_
  unfold S.device_Device_refuse
  refine (find_nil E).mono ?_
  clear E
  rintro r w_ ⟨rfl, E⟩
  (repeat first | (with_reducible first | refine Stp.go ?_) | ((with_reducible refine Bi.dec true ?_ ?_); focus exact rfl))
  exact ⟨rfl, E⟩
theorem Walk_nil {user name : ByteArray} {p : Int} (E : Hs w0 F w l) : Ca PP Fn.device_Device_Walk #[np, str user, i64 p, str name] w fun r w' => r = .tuple #[qV, i64 6] ∧ Hs w0 F w' l := by
  refine S.device_Device_Walk.calls ?_
  unfold S.device_Device_Walk
  (repeat with_reducible (refine StpA.go E ?_; clear E; intro b_ w_ hb_ E))
  refine (find_nil E).mono ?_
  clear E
  rintro r w_ ⟨rfl, E⟩
  (repeat first | (with_reducible first | refine Stp.go ?_ | refine StpE.go E ?_ | (refine StpW.go E ?_; clear E; intro w_ E)) | ((with_reducible refine Bi.dec true ?_ ?_); focus exact rfl))
  exact ⟨rfl, E.tl⟩
theorem Stat_nil {user : ByteArray} {p : Int} (E : Hs w0 F w l) : Ca PP Fn.device_Device_Stat #[np, str user, i64 p] w fun r w' => r = .tuple #[dV, i64 6] ∧ Hs w0 F w' l := by
  refine S.device_Device_Stat.calls ?_
  unfold S.device_Device_Stat
  (repeat with_reducible (refine StpA.go E ?_; clear E; intro b_ w_ hb_ E))
  refine (find_nil E).mono ?_
  clear E
  rintro r w_ ⟨rfl, E⟩
  (repeat first | (with_reducible first | refine Stp.go ?_ | refine StpE.go E ?_ | (refine StpW.go E ?_; clear E; intro w_ E)) | ((with_reducible refine Bi.dec true ?_ ?_); focus exact rfl))
  exact ⟨rfl, E.tl⟩
theorem Open_nil {user : ByteArray} {p m : Int} (E : Hs w0 F w l) : Ca PP Fn.device_Device_Open #[np, str user, i64 p, i64 m] w fun r w' => r = .tuple #[i64 0, qV, i64 6] ∧ Hs w0 F w' l := by
  refine S.device_Device_Open.calls ?_
  unfold S.device_Device_Open
  (repeat with_reducible (refine StpA.go E ?_; clear E; intro b_ w_ hb_ E))
  (intro J3 hJ3)
  refine Eq.nf u_device rfl ?_
  (repeat with_reducible first | refine Stp.go ?_ | (apply hJ3; intro u_))
  refine (find_nil E).mono ?_
  clear E
  rintro r w_ ⟨rfl, E⟩
  (repeat first | (with_reducible first | refine Stp.go ?_ | refine StpE.go E ?_ | (refine StpW.go E ?_; clear E; intro w_ E)) | ((with_reducible refine Bi.dec true ?_ ?_); focus exact rfl))
  exact ⟨rfl, E.tl⟩
theorem Create_nil {user name : ByteArray} {p m k : Int} (E : Hs w0 F w l) : Ca PP Fn.device_Device_Create #[np, str user, i64 p, str name, i64 m, i64 k] w fun r w' => r = .tuple #[i64 0, qV, i64 6] ∧ Hs w0 F w' l := by
  refine S.device_Device_Create.calls ?_
  unfold S.device_Device_Create
  (repeat with_reducible first | refine StpE.go E ?_ | (refine StpA.go E ?_; clear E; intro b_ w_ hb_ E))
  refine (refuse_nil E).mono ?_
  clear E
  rintro r w_ ⟨rfl, E⟩
  (repeat with_reducible first | refine StpE.go E ?_ | (refine StpW.go E ?_; clear E; intro w_ E))
  exact ⟨rfl, E.tl⟩
theorem Read_nil {h off k : Int} (E : Hs w0 F w l) : Ca PP Fn.device_Device_Read #[np, i64 h, i64 off, i64 k] w fun r w' => r = .tuple #[str emp, i64 6] ∧ Hs w0 F w' l := by
  refine S.device_Device_Read.calls ?_
  unfold S.device_Device_Read
  refine (opened_nil E).mono ?_
  clear E
  rintro r w_ ⟨rfl, E⟩
  (repeat first | (with_reducible first | refine Stp.go ?_ | (refine StpW.go E ?_; clear E; intro w_ E) | (refine StpA.go E ?_; clear E; intro b_ w_ hb_ E)) | ((with_reducible refine Bi.dec true ?_ ?_); focus exact rfl))
  exact ⟨rfl, E.tl⟩
theorem List_nil {h : Int} (E : Hs w0 F w l) : Ca PP Fn.device_Device_List #[np, i64 h] w fun r w' => r = .tuple #[.slice none 0 0, i64 6] ∧ Hs w0 F w' l := by
  refine S.device_Device_List.calls ?_
  unfold S.device_Device_List
  refine (opened_nil E).mono ?_
  clear E
  rintro r w_ ⟨rfl, E⟩
  (repeat first | (with_reducible first | refine Stp.go ?_ | (refine StpW.go E ?_; clear E; intro w_ E) | (refine StpA.go E ?_; clear E; intro b_ w_ hb_ E)) | ((with_reducible refine Bi.dec true ?_ ?_); focus exact rfl))
  exact ⟨rfl, E.tl⟩
theorem Write_nil {h off : Int} {d : ByteArray} (E : Hs w0 F w l) : Ca PP Fn.device_Device_Write #[np, i64 h, i64 off, str d] w fun r w' => r = .tuple #[i64 0, i64 6] ∧ Hs w0 F w' l := by
  refine S.device_Device_Write.calls ?_
  unfold S.device_Device_Write
  refine (opened_nil E).mono ?_
  clear E
  rintro r w_ ⟨rfl, E⟩
  (repeat first | (with_reducible first | refine Stp.go ?_ | (refine StpW.go E ?_; clear E; intro w_ E) | (refine StpA.go E ?_; clear E; intro b_ w_ hb_ E)) | ((with_reducible refine Bi.dec true ?_ ?_); focus exact rfl))
  exact ⟨rfl, E.tl⟩
theorem Close_nil {h : Int} (E : Hs w0 F w l) : Ca PP Fn.device_Device_Close #[np, i64 h] w fun r w' => r = i64 6 ∧ Hs w0 F w' l := by
  refine S.device_Device_Close.calls ?_
  unfold S.device_Device_Close
  refine (opened_nil E).mono ?_
  clear E
  rintro r w_ ⟨rfl, E⟩
  (repeat first | (with_reducible first | refine Stp.go ?_ | (refine StpW.go E ?_; clear E; intro w_ E) | (refine StpA.go E ?_; clear E; intro b_ w_ hb_ E)) | ((with_reducible refine Bi.dec true ?_ ?_); focus exact rfl))
  exact ⟨rfl, E.tl⟩
theorem Remove_nil {user : ByteArray} {p : Int} (E : Hs w0 F w l) : Ca PP Fn.device_Device_Remove #[np, str user, i64 p] w fun r w' => r = i64 6 ∧ Hs w0 F w' l := by
  refine S.device_Device_Remove.calls ?_
  unfold S.device_Device_Remove
  refine (refuse_nil E).mono ?_
  clear E
  rintro r w_ ⟨rfl, E⟩
  exact ⟨rfl, E⟩
/-- What is told of a file, as it is handed in. -/
structure Dc where
  kind : Int
  vers : Int
  path : Int
  mode : Int
  time : Int
  len : Int
  name : ByteArray
  owner : ByteArray
  group : ByteArray
  last : ByteArray
abbrev Dc.cs (d : Dc) : List Value := [i64 d.kind, i64 d.vers, i64 d.path, i64 d.mode, i64 d.time, i64 d.len, str d.name, str d.owner, str d.group, str d.last]
abbrev Dc.V (d : Dc) : Value := .agg d.cs.toArray
theorem Wstat_nil {user : ByteArray} {p : Int} {d : Dc} (E : Hs w0 F w l) : Ca PP Fn.device_Device_Wstat #[np, str user, i64 p, d.V] w fun r w' => r = i64 6 ∧ Hs w0 F w' l := by
  refine S.device_Device_Wstat.calls ?_
  unfold S.device_Device_Wstat
  (repeat with_reducible (refine StpA.go E ?_; clear E; intro b_ w_ hb_ E))
  refine (refuse_nil E).mono ?_
  clear E
  rintro r w_ ⟨rfl, E⟩
  exact ⟨rfl, E.tl⟩
end Go.Proofs.YtlaedckelfcfdaaGreatDoor

/-
  Device: what is done to a nil device.
-/
namespace Go.Proofs.YtlaedckelfcfdaaGreatDoor
open Go Go.Sh
set_option maxRecDepth 100000
set_option linter.unusedVariables false
set_option linter.unusedSimpArgs false
variable {w0 w : World} {F : Nat → Prop} {l : List As}
instance : NilC PP Ty.p_device_Device np "Walk" := ⟨fun w => by kernel_rfl⟩
instance : MtC PP Ty.p_device_Device np "Walk" Fn.device_Device_Walk np := ⟨fun w => by kernel_rfl, by kernel_rfl⟩
instance : NilC PP Ty.p_device_Device np "Stat" := ⟨fun w => by kernel_rfl⟩
instance : MtC PP Ty.p_device_Device np "Stat" Fn.device_Device_Stat np := ⟨fun w => by kernel_rfl, by kernel_rfl⟩
instance : NilC PP Ty.p_device_Device np "Wstat" := ⟨fun w => by kernel_rfl⟩
instance : MtC PP Ty.p_device_Device np "Wstat" Fn.device_Device_Wstat np := ⟨fun w => by kernel_rfl, by kernel_rfl⟩
instance : NilC PP Ty.p_device_Device np "Open" := ⟨fun w => by kernel_rfl⟩
instance : MtC PP Ty.p_device_Device np "Open" Fn.device_Device_Open np := ⟨fun w => by kernel_rfl, by kernel_rfl⟩
instance : NilC PP Ty.p_device_Device np "Create" := ⟨fun w => by kernel_rfl⟩
instance : MtC PP Ty.p_device_Device np "Create" Fn.device_Device_Create np := ⟨fun w => by kernel_rfl, by kernel_rfl⟩
instance : NilC PP Ty.p_device_Device np "Read" := ⟨fun w => by kernel_rfl⟩
instance : MtC PP Ty.p_device_Device np "Read" Fn.device_Device_Read np := ⟨fun w => by kernel_rfl, by kernel_rfl⟩
instance : NilC PP Ty.p_device_Device np "List" := ⟨fun w => by kernel_rfl⟩
instance : MtC PP Ty.p_device_Device np "List" Fn.device_Device_List np := ⟨fun w => by kernel_rfl, by kernel_rfl⟩
instance : NilC PP Ty.p_device_Device np "Write" := ⟨fun w => by kernel_rfl⟩
instance : MtC PP Ty.p_device_Device np "Write" Fn.device_Device_Write np := ⟨fun w => by kernel_rfl, by kernel_rfl⟩
instance : NilC PP Ty.p_device_Device np "Close" := ⟨fun w => by kernel_rfl⟩
instance : MtC PP Ty.p_device_Device np "Close" Fn.device_Device_Close np := ⟨fun w => by kernel_rfl, by kernel_rfl⟩
instance : NilC PP Ty.p_device_Device np "Remove" := ⟨fun w => by kernel_rfl⟩
instance : MtC PP Ty.p_device_Device np "Remove" Fn.device_Device_Remove np := ⟨fun w => by kernel_rfl, by kernel_rfl⟩

/-- An operation that is asked for. -/
structure Ac where
  kind : Int
  handle : Int
  file : Int
  user : ByteArray
  name : ByteArray
  mode : Int
  perm : Int
  count : Int
  offset : Int
  data : ByteArray
  dir : Dc
abbrev Ac.C (x : Ac) : List Value :=
  [i64 x.kind, i64 x.handle, i64 x.file, str x.user, str x.name, i64 x.mode, i64 x.perm, i64 x.count, i64 x.offset, str x.data, i64 x.dir.kind, i64 x.dir.vers, i64 x.dir.path, i64 x.dir.mode, i64 x.dir.time, i64 x.dir.len, str x.dir.name, str x.dir.owner, str x.dir.group, str x.dir.last]
abbrev Ac.V (x : Ac) : Value := .agg x.C.toArray
/-- The answer: nothing but an error. -/
abbrev ansC (e : Int) : List Value := [i64 0, i64 0, i64 0, i64 0, i64 0, i64 0, i64 0, i64 0, i64 0, str emp, str emp, str emp, str emp, i64 0, str emp, .slice none 0 0, i64 e]
abbrev ansV (e : Int) : Value := .agg (ansC e).toArray
abbrev iV : Value := .iface Ty.p_device_Device np
theorem Do_nil {x : Ac} (hk : 0 ≤ x.kind ∧ x.kind < 10) (E : Hs w0 F w l) : Ca PP Fn.law33_Do #[iV, x.V] w fun r w' => r = ansV 6 ∧ ∃ l', Hs w0 F w' (l' ++ l) := by
  refine S.law33_Do.calls ?_
  unfold S.law33_Do
  refine StpA.go E ?_
  clear E
  intro q w_ h1 E
  refine StpA.go E ?_
  clear E
  intro b w_ h2 E
  (repeat with_reducible first | refine StpE.go E ?_ | (refine StpA.go E ?_; clear E; intro b_ w_ hb_ E))
  (revert b_; intro c hbc E)
  (first | (refine StA.all E rfl rfl (by first | exact rfl | assumption) ?_; clear E; intro w_ E) | try (refine StA.by E rfl (by first | exact rfl | assumption) ?_; clear E; intro w_ E))
  (intro J9 hJ9)
  have fin : ∀ w_, Hs w0 F w_ (pt c (oc (ansC 6) Ty.law28_Answer) :: pt b (oc (ansC 0) Ty.law28_Answer) :: pt q (oc x.C Ty.law28_Act) :: l) → J9 [] w_ := by
    intro w_ E
    (repeat with_reducible first | refine StpE.go E ?_ | (apply hJ9; intro u_))
    (first | (refine StA.all E rfl rfl (by first | exact rfl | assumption) ?_; clear E; intro w_ E) | try (refine StA.by E rfl (by first | exact rfl | assumption) ?_; clear E; intro w_ E))
    (repeat with_reducible refine StpE.go E ?_)
    exact ⟨rfl, _, show Hs w0 F _ ([_, _, _] ++ l) from E⟩
  clear hJ9
  (repeat with_reducible first | refine Stp.go ?_ | refine StpE.go E ?_)
  refine Bi.eql ?_ ?_ <;> intro c0 <;> (repeat with_reducible first | refine Stp.go ?_ | refine StpE.go E ?_)
  · refine (Walk_nil E).mono ?_
    clear E
    rintro r w_ ⟨rfl, E⟩
    (repeat with_reducible first | refine Stp.go ?_ | (refine StpW.go E ?_; clear E; intro w_ E))
    exact fin _ E
  refine Bi.eql ?_ ?_ <;> intro c1 <;> (repeat with_reducible first | refine Stp.go ?_ | refine StpE.go E ?_)
  · refine (Stat_nil E).mono ?_
    clear E
    rintro r w_ ⟨rfl, E⟩
    (repeat with_reducible refine Stp.go ?_)
    refine St.ten E rfl ?_
    clear E
    intro w_ E
    (repeat with_reducible first | refine Stp.go ?_ | (refine StpW.go E ?_; clear E; intro w_ E))
    exact fin _ E
  refine Bi.eql ?_ ?_ <;> intro c2 <;> (repeat with_reducible first | refine Stp.go ?_ | refine StpE.go E ?_)
  · refine (Wstat_nil (d := x.dir) E).mono ?_
    clear E
    rintro r w_ ⟨rfl, E⟩
    (repeat with_reducible first | refine Stp.go ?_ | (refine StpW.go E ?_; clear E; intro w_ E))
    exact fin _ E
  refine Bi.eql ?_ ?_ <;> intro c3 <;> (repeat with_reducible first | refine Stp.go ?_ | refine StpE.go E ?_)
  · refine (Open_nil E).mono ?_
    clear E
    rintro r w_ ⟨rfl, E⟩
    (repeat with_reducible first | refine Stp.go ?_ | (refine StpW.go E ?_; clear E; intro w_ E))
    exact fin _ E
  refine Bi.eql ?_ ?_ <;> intro c4 <;> (repeat with_reducible first | refine Stp.go ?_ | refine StpE.go E ?_)
  · refine (Create_nil E).mono ?_
    clear E
    rintro r w_ ⟨rfl, E⟩
    (repeat with_reducible first | refine Stp.go ?_ | (refine StpW.go E ?_; clear E; intro w_ E))
    exact fin _ E
  refine Bi.eql ?_ ?_ <;> intro c5 <;> (repeat with_reducible first | refine Stp.go ?_ | refine StpE.go E ?_)
  · refine (Read_nil E).mono ?_
    clear E
    rintro r w_ ⟨rfl, E⟩
    (repeat with_reducible first | refine Stp.go ?_ | (refine StpW.go E ?_; clear E; intro w_ E))
    exact fin _ E
  refine Bi.eql ?_ ?_ <;> intro c6 <;> (repeat with_reducible first | refine Stp.go ?_ | refine StpE.go E ?_)
  · refine (List_nil E).mono ?_
    clear E
    rintro r w_ ⟨rfl, E⟩
    (repeat with_reducible first | refine Stp.go ?_ | (refine StpW.go E ?_; clear E; intro w_ E))
    exact fin _ E
  refine Bi.eql ?_ ?_ <;> intro c7 <;> (repeat with_reducible first | refine Stp.go ?_ | refine StpE.go E ?_)
  · refine (Write_nil E).mono ?_
    clear E
    rintro r w_ ⟨rfl, E⟩
    (repeat with_reducible first | refine Stp.go ?_ | (refine StpW.go E ?_; clear E; intro w_ E))
    exact fin _ E
  refine Bi.eql ?_ ?_ <;> intro c8 <;> (repeat with_reducible first | refine Stp.go ?_ | refine StpE.go E ?_)
  · refine (Close_nil E).mono ?_
    clear E
    rintro r w_ ⟨rfl, E⟩
    (repeat with_reducible first | refine Stp.go ?_ | (refine StpW.go E ?_; clear E; intro w_ E))
    exact fin _ E
  refine Bi.eql ?_ ?_ <;> intro c9 <;> (repeat with_reducible first | refine Stp.go ?_ | refine StpE.go E ?_)
  · refine (Remove_nil E).mono ?_
    clear E
    rintro r w_ ⟨rfl, E⟩
    (repeat with_reducible first | refine Stp.go ?_ | (refine StpW.go E ?_; clear E; intro w_ E))
    exact fin _ E
  · omega
theorem ceq_self : ∀ {k : LK} {v : Value}, k.fit v = true → ceq v v = true
  | .int _, .int _ _, _ => by simp [ceq]
  | .str, .string _, _ => by simp [ceq]
  | .bool, .bool _, _ => by simp [ceq]
theorem ceqL_self : ∀ {ks : List LK} {xs : List Value}, fitL ks xs = true → ceqL xs xs = true
  | [], [], _ => rfl
  | k :: ks, x :: xs, h => by
    simp only [fitL, Bool.and_eq_true] at h
    simp only [ceqL, ceq_self h.1, ceqL_self h.2, Bool.and_self]
  | [], _ :: _, h => by simp [fitL] at h
  | _ :: _, [], h => by simp [fitL] at h
theorem EqS.eS {P : Program} {w : World} {t : TypeId} {ks : List LK} {xs : List Value} {x y : Operand} {k : Value → Prop} (h : lv P 20 t = some ks) (hs : isSt P t = true) (hg : P.eqGuardType P.depth t = false) (hx : fitL ks xs = true)
    (hk : k (.bool true)) : Rd P (eqS .eql t x y (.agg xs.toArray) (.agg xs.toArray)) w k := EqS.e h hs hg hx hx (by rw [ceqL_self hx]; exact hk)
theorem EqS.nS {P : Program} {w : World} {t : TypeId} {ks : List LK} {xs : List Value} {x y : Operand} {k : Value → Prop} (h : lv P 20 t = some ks) (hs : isSt P t = true) (hg : P.eqGuardType P.depth t = false) (hx : fitL ks xs = true)
    (hk : k (.bool false)) : Rd P (eqS .neq t x y (.agg xs.toArray) (.agg xs.toArray)) w k := EqS.n h hs hg hx hx (by rw [ceqL_self hx]; exact hk)
abbrev lkQid : List LK := [.int .i64, .int .i64, .int .i64]
abbrev lkDir : List LK := [.int .i64, .int .i64, .int .i64, .int .i64, .int .i64, .int .i64, .str, .str, .str, .str]
theorem lv_Qid : lv PP 20 Ty.api_Qid = some lkQid := by kernel_rfl
theorem st_Qid : isSt PP Ty.api_Qid = true := by kernel_rfl
theorem g_Qid : PP.eqGuardType PP.depth Ty.api_Qid = false := by kernel_rfl
theorem lv_Dir : lv PP 20 Ty.api_Dir = some lkDir := by kernel_rfl
theorem st_Dir : isSt PP Ty.api_Dir = true := by kernel_rfl
theorem g_Dir : PP.eqGuardType PP.depth Ty.api_Dir = false := by kernel_rfl
theorem eqDirs_nil (E : Hs w0 F w l) : Ca PP Fn.slices_Equal_sl_api_Dir_api_Dir #[.slice none 0 0, .slice none 0 0] w fun r w' => r = .bool true ∧ Hs w0 F w' l := by
  refine S.slices_Equal_sl_api_Dir_api_Dir.calls ?_
  unfold S.slices_Equal_sl_api_Dir_api_Dir
  (repeat first | (with_reducible first | refine Stp.go ?_ | refine LnL.nil ?_) | ((with_reducible refine Bi.dec false ?_ ?_); focus exact rfl))
  refine ⟨fun l1 w1 => l1 = [i64 0] ∧ Hs w0 F w1 l, fun _ _ => 0, ⟨rfl, E⟩, ?_⟩
  clear E
  rintro t u1 w1 ⟨e, E⟩
  cases e
  refine Bi.lss ?_ ?_ <;> intro hlt <;> (repeat with_reducible first | refine Stp.go ?_ | (refine StpW.go E ?_; clear E; intro w_ E))
  · exact absurd hlt (by decide)
  · exact ⟨rfl, E⟩
theorem Bi.eqlR {kk : IntKind} {a : Int} {k : Value → Prop} (hk : k (.bool true)) : Bi .eql (.int kk a) (.int kk a) k := Bi.eql (fun _ => hk) fun h => absurd rfl h
theorem Same_ok {e : Int} (E : Hs w0 F w l) : Ca PP Fn.law28_Same #[ansV e, ansV e] w fun r w' => r = .bool true ∧ Hs w0 F w' l := by
  refine S.law28_Same.calls ?_
  unfold S.law28_Same
  (repeat with_reducible (refine StpA.go E ?_; clear E; intro b_ w_ hb_ E))
  (intro J5 hJ5)
  (repeat with_reducible first | refine Stp.go ?_ | refine StpE.go E ?_)
  refine EqS.eS (xs := [i64 0, i64 0, i64 0]) lv_Qid st_Qid g_Qid rfl ?_
  (repeat with_reducible first | refine Stp.go ?_ | refine StpE.go E ?_)
  refine EqS.eS (xs := [i64 0, i64 0, i64 0, i64 0, i64 0, i64 0, str emp, str emp, str emp, str emp]) lv_Dir st_Dir g_Dir rfl ?_
  (repeat first | (with_reducible first | refine Stp.go ?_ | refine StpE.go E ?_) | ((with_reducible refine Bi.dec true ?_ ?_); focus exact rfl) | ((with_reducible refine Bi.sdec true ?_ ?_); focus decide))
  refine Bi.eqlR ?_
  (repeat with_reducible first | refine Stp.go ?_ | refine StpE.go E ?_)
  refine (eqDirs_nil E).mono ?_
  clear E
  rintro r w_ ⟨rfl, E⟩
  (repeat with_reducible first | refine Stp.go ?_ | (apply hJ5; intro u_))
  exact ⟨rfl, E.tl.tl⟩
end Go.Proofs.YtlaedckelfcfdaaGreatDoor

/-
  DeviceNil: the law.
-/
namespace Go.Proofs.YtlaedckelfcfdaaGreatDoor
open Go Go.Sh
set_option maxRecDepth 100000
set_option linter.unusedVariables false
set_option linter.unusedSimpArgs false
variable {w0 w : World} {F : Nat → Prop} {l : List As}
/-- A process that is handed in. -/
structure Pc where
  id : Int
  up : Int
  n : Int
  why : ByteArray
  t : Int
abbrev Pc.cs (p : Pc) : List Value := [i64 p.id, i64 p.up, i64 p.n, str p.why, i64 p.t]
abbrev Pc.V (p : Pc) : Value := .agg p.cs.toArray
abbrev pcs (ps : List Pc) : List Value := ps.flatMap Pc.cs
theorem pcs_drop (ds : List Pc) : ∀ i : Nat, (pcs ds).drop (i * 5) = pcs (ds.drop i) := by
  induction ds with
  | nil => intro i; simp
  | cons d r ih =>
    intro i
    cases i with
    | zero => simp
    | succ i =>
      rw [pcs, List.flatMap_cons, show (i + 1) * 5 = i * 5 + 5 by omega]
      simp only [Pc.cs, List.cons_append, List.nil_append, List.drop_succ_cons]
      exact ih i
theorem b_few1 : hasBody PP Fn.law30_Few_1 = true := by kernel_rfl
theorem b_few2 : hasBody PP Fn.law30_Few_1_1 = true := by kernel_rfl
theorem procs_ok {v : Value} {ds : List Pc} (hn : ds.length ≤ 9223372036854775807) (E : Hs w0 F w l) (h1 : RdS w0 F l 5 ds.length v (pcs ds)) :
    Ca PP Fn.slices_ContainsFunc_sl_api_Proc_api_Proc #[v, .func (.func Fn.law30_Few_1_1) #[] #[]] w fun r w' => (∃ b, r = .bool b) ∧ Hs w0 F w' l := by
  refine S.slices_ContainsFunc_sl_api_Proc_api_Proc.calls ?_
  unfold S.slices_ContainsFunc_sl_api_Proc_api_Proc
  have idx : Ca PP Fn.slices_IndexFunc_sl_api_Proc_api_Proc #[v, .func (.func Fn.law30_Few_1_1) #[] #[]] w fun r w' => (∃ n : Int, r = i64 n) ∧ Hs w0 F w' l := by
    refine S.slices_IndexFunc_sl_api_Proc_api_Proc.calls ?_
    unfold S.slices_IndexFunc_sl_api_Proc_api_Proc
    refine h1.len ?_
    refine ⟨fun l1 w1 => ∃ i : Nat, l1 = [i64 i] ∧ i ≤ ds.length ∧ Hs w0 F w1 l, fun l1 _ => match l1 with | [.int _ i] => ds.length - i.toNat | _ => 0, ⟨0, rfl, Nat.zero_le _, E⟩, ?_⟩
    clear E
    rintro t u1 w1 ⟨i, e, hi, E⟩
    cases e
    refine Bi.lss ?_ ?_ <;> intro hlt <;> (repeat with_reducible refine Stp.go ?_)
    · have hd : (pcs ds).drop (((i : Int)).toNat * 5) = ds[i].cs ++ pcs (ds.drop (i + 1)) := by
        rw [Int.toNat_natCast, pcs_drop, List.drop_eq_getElem_cons (by omega)]; rfl
      refine h1.ix (by omega) (by omega) (by omega) ?_
      intro a ha
      rw [hd] at ha
      refine ha.lda E (m := 5) (ds := ds[i].cs) rfl rfl (by omega) ?_
      refine CaV.mk b_few2 ?_
      refine S.law30_Few_1_1.calls (a0 := ds[i].V) ?_
      unfold S.law30_Few_1_1
      (repeat with_reducible first | refine Stp.go ?_ | refine StpE.go E ?_ | (refine StpA.go E ?_; clear E; intro b_ w_ hb_ E))
      refine Bi.gtr ?_ ?_ <;> intro h3 <;> (repeat with_reducible refine Stp.go ?_)
      · exact ⟨⟨_, rfl⟩, E.tl⟩
      · refine Bi.add (by omega) ?_
        exact ⟨⟨i + 1, by simp, by omega, E.tl⟩, by simp only []; omega⟩
    · exact ⟨⟨_, rfl⟩, E⟩
  refine idx.mono ?_
  clear E idx
  rintro r w_ ⟨⟨n, rfl⟩, E⟩
  refine Bi.geq ?_ ?_ <;> intro h3
  · exact ⟨⟨_, rfl⟩, E⟩
  · exact ⟨⟨_, rfl⟩, E⟩
/-- An operation of the law. -/
structure Xc where
  kind : Int
  op : Ac
  text : ByteArray
  time : Int
abbrev Xc.C (x : Xc) (pv : Value) : List Value :=
  [i64 x.kind, i64 x.op.kind, i64 x.op.handle, i64 x.op.file, str x.op.user, str x.op.name, i64 x.op.mode, i64 x.op.perm, i64 x.op.count, i64 x.op.offset, str x.op.data, i64 x.op.dir.kind, i64 x.op.dir.vers, i64 x.op.dir.path, i64 x.op.dir.mode, i64 x.op.dir.time, i64 x.op.dir.len, str x.op.dir.name, str x.op.dir.owner, str x.op.dir.group, str x.op.dir.last, str x.text, i64 x.time, pv]
abbrev Xc.V (x : Xc) (pv : Value) : Value := .agg (x.C pv).toArray
theorem Few1_ok {x : Xc} {pv : Value} {ds : List Pc} (hn : ds.length ≤ 9223372036854775807) (E : Hs w0 F w l) (h1 : RdS w0 F l 5 ds.length pv (pcs ds)) :
    Ca PP Fn.law30_Few_1 #[x.V pv] w fun r w' => (∃ b, r = .bool b) ∧ Hs w0 F w' l := by
  obtain ⟨a, c, rfl, h2⟩ := id h1
  refine S.law30_Few_1.calls ?_
  unfold S.law30_Few_1
  (repeat with_reducible (refine StpA.go E ?_; clear E; intro b_ w_ hb_ E))
  (intro J3 hJ3)
  have fin : ∀ b w_, (∃ A, Hs w0 F w_ (A :: l)) → J3 [.bool b] w_ := by
    rintro b w_ ⟨A, E⟩
    (repeat with_reducible (apply hJ3; intro u_))
    exact ⟨⟨_, rfl⟩, E.tl⟩
  clear hJ3
  (repeat with_reducible first | refine Stp.go ?_ | refine StpE.go E ?_)
  refine Bi.addW fun n1 => ?_
  (repeat with_reducible first | refine Stp.go ?_ | refine StpE.go E ?_)
  refine Bi.addW fun n2 => ?_
  (repeat with_reducible first | refine Stp.go ?_ | refine StpE.go E ?_)
  refine Bi.addW fun n3 => ?_
  refine Bi.gtr ?_ ?_ <;> intro c1 <;> (repeat with_reducible first | refine Stp.go ?_ | refine StpE.go E ?_)
  · exact fin _ _ ⟨_, E⟩
  refine h1.len ?_
  (repeat with_reducible refine Stp.go ?_)
  refine Bi.gtr ?_ ?_ <;> intro c2 <;> (repeat with_reducible first | refine Stp.go ?_ | refine StpE.go E ?_)
  · exact fin _ _ ⟨_, E⟩
  refine Bi.gtr ?_ ?_ <;> intro c3 <;> (repeat with_reducible first | refine Stp.go ?_ | refine StpE.go E ?_)
  · exact fin _ _ ⟨_, E⟩
  refine (procs_ok hn E (h1.cons _)).mono ?_
  clear E
  rintro r w_ ⟨⟨b, rfl⟩, E⟩
  (repeat with_reducible refine Stp.go ?_)
  exact fin _ _ ⟨_, E⟩
theorem Few_ok {v : Value} {x : Xc} {pv : Value} {ds : List Pc} (hn : ds.length ≤ 9223372036854775807) (E : Hs w0 F w l) (h1 : RdS w0 F l 5 ds.length pv (pcs ds)) (h2 : RdS w0 F l 24 1 v (x.C pv)) :
    Ca PP Fn.law30_Few #[v] w fun r w' => (∃ b, r = .bool b) ∧ Hs w0 F w' l := by
  obtain ⟨a, c, rfl, -⟩ := id h2
  refine S.law30_Few.calls ?_
  unfold S.law30_Few
  (intro J1 hJ1)
  skip
  refine h2.len ?_
  refine Bi.leq ?_ ?_ <;> intro hle <;> (repeat with_reducible first | refine Stp.go ?_ | (apply hJ1; intro u_))
  · have all : Ca PP Fn.slices_ContainsFunc_sl_law30_Act_law30_Act #[.slice a 1 c, .func (.func Fn.law30_Few_1) #[] #[]] w fun r w' => (∃ b, r = .bool b) ∧ Hs w0 F w' l := by
      refine S.slices_ContainsFunc_sl_law30_Act_law30_Act.calls ?_
      unfold S.slices_ContainsFunc_sl_law30_Act_law30_Act
      have idx : Ca PP Fn.slices_IndexFunc_sl_law30_Act_law30_Act #[.slice a 1 c, .func (.func Fn.law30_Few_1) #[] #[]] w fun r w' => (∃ n : Int, r = i64 n) ∧ Hs w0 F w' l := by
        refine S.slices_IndexFunc_sl_law30_Act_law30_Act.calls ?_
        unfold S.slices_IndexFunc_sl_law30_Act_law30_Act
        refine h2.len ?_
        refine ⟨fun l1 w1 => (∃ i : Nat, l1 = [i64 i] ∧ i ≤ 1) ∧ Hs w0 F w1 l, fun l1 _ => match l1 with | [.int _ i] => 1 - i.toNat | _ => 0, ⟨⟨0, rfl, Nat.zero_le _⟩, E⟩, ?_⟩
        clear E
        rintro t u1 w1 ⟨⟨i, e, hi⟩, E⟩
        cases e
        refine Bi.lss ?_ ?_ <;> intro hlt <;> (repeat with_reducible refine Stp.go ?_)
        · obtain rfl : i = 0 := by omega
          refine h2.ix (by omega) (by omega) (by omega) ?_
          intro a ha
          refine ha.lda E (m := 24) (ds := x.C pv) rfl rfl (by omega) ?_
          refine CaV.mk b_few1 ?_
          refine (Few1_ok hn E h1).mono ?_
          clear E
          rintro r w_ ⟨⟨b, rfl⟩, E⟩
          cases b
          · (repeat with_reducible refine Stp.go ?_)
            refine Bi.add (by omega) ?_
            exact ⟨⟨⟨1, rfl, by omega⟩, E⟩, by simp only []; omega⟩
          · (repeat with_reducible refine Stp.go ?_)
            exact ⟨⟨_, rfl⟩, E⟩
        · exact ⟨⟨_, rfl⟩, E⟩
      refine idx.mono ?_
      clear E idx
      rintro r w_ ⟨⟨n, rfl⟩, E⟩
      refine Bi.geq ?_ ?_ <;> intro h3
      · exact ⟨⟨_, rfl⟩, E⟩
      · exact ⟨⟨_, rfl⟩, E⟩
    refine all.mono ?_
    clear E all
    rintro r w_ ⟨⟨b, rfl⟩, E⟩
    cases b
    · (repeat with_reducible first | refine Stp.go ?_ | (apply hJ1; intro u_))
      exact ⟨⟨_, rfl⟩, E⟩
    · (repeat with_reducible first | refine Stp.go ?_ | (apply hJ1; intro u_))
      exact ⟨⟨_, rfl⟩, E⟩
  · exact ⟨⟨_, rfl⟩, E⟩
theorem u_sl_Act : PP.underlying Ty.sl_law30_Act = some (.slice Ty.law30_Act) := by kernel_rfl
theorem n_Act : sizeK PP Ty.law30_Act = some 24 := by kernel_rfl
abbrev zAct : Value := .agg #[i64 0, i64 0, i64 0, i64 0, str emp, str emp, i64 0, i64 0, i64 0, i64 0, str emp, i64 0, i64 0, i64 0, i64 0, i64 0, i64 0, str emp, str emp, str emp, str emp, str emp, i64 0, .slice none 0 0]
theorem z_Act : zeroK PP Ty.law30_Act = some zAct := by kernel_rfl
theorem BdS.act {x : Xc} {pv : Value} {k : Value → World → Prop} (E : Hs w0 F w l) (hk : ∀ v w', Hs w0 F w' (slA v Ty.law30_Act 24 (x.C pv) :: l) → k v w') : Ef PP (Instr.buildSlice Ty.sl_law30_Act 1 #[(0, x.V pv)]) w k :=
  BdS.sl E u_sl_Act n_Act z_Act (by omega) (by omega) (xs := x.C pv) (by kernel_rfl) rfl hk
theorem Nil_law {x : Xc} {pv : Value} {ds : List Pc} (hn : ds.length ≤ 9223372036854775807) (E : Hs w0 F w l) (h1 : RdS w0 F l 5 ds.length pv (pcs ds)) :
    Ca PP Fn.law30_DeviceNil #[x.V pv] w fun r w' => r = .bool true ∧ ∃ l', Hs w0 F w' l' := by
  obtain ⟨a, c, rfl, -⟩ := id h1
  refine S.law30_DeviceNil.calls ?_
  unfold S.law30_DeviceNil
  refine StpA.go E ?_
  clear E
  intro q w_ h1_ E
  refine (awake_ok E).mono ?_
  clear E
  rintro r w_ ⟨rfl, E⟩
  (repeat with_reducible first | refine Stp.go ?_ | refine StpE.go E ?_)
  refine BdS.act E ?_
  clear E
  intro v w_ E
  skip
  have hv := RdS.sl (v := v) (T := Ty.law30_Act) (sz := 24) (xs := x.C (.slice a ds.length c)) List.mem_cons_self (by omega) E
  have h24 : (x.C (.slice a ds.length c)).length / 24 = 1 := by
    rw [show (x.C (.slice a ds.length c)).length = 24 from rfl]
  rw [h24] at hv
  refine (Few_ok (v := v) (x := x) hn E ((h1.cons _).cons _) hv).mono ?_
  clear E
  rintro r w_ ⟨⟨b, rfl⟩, E⟩
  cases b
  · (repeat with_reducible refine Stp.go ?_)
    exact ⟨rfl, _, E⟩
  (repeat with_reducible first | refine Stp.go ?_ | refine StpE.go E ?_)
  refine (Type_nil E).mono ?_
  clear E
  rintro r w_ ⟨rfl, E⟩
  (repeat with_reducible first | refine Stp.go ?_ | refine StpE.go E ?_)
  refine (SetTime_nil E).mono ?_
  clear E
  rintro r w_ ⟨rfl, E⟩
  skip
  (intro J20 hJ20)
  have fin20 : ∀ w_, Hs w0 F w_ (slA v Ty.law30_Act 24 (x.C (.slice a ds.length c)) :: pt q (oc (x.C (.slice a ds.length c)) Ty.law30_Act) :: l) → J20 [.bool false] w_ := by
    intro w_ E
    (repeat with_reducible first | refine Stp.go ?_ | refine StpE.go E ?_ | (apply hJ20; intro u_))
    refine (Get_nil E).mono ?_
    clear E
    rintro r w_ ⟨rfl, E⟩
    (repeat first | (with_reducible first | refine Stp.go ?_) | ((with_reducible refine Bi.dec false ?_ ?_); focus exact rfl))
    (intro J32 hJ32)
    have fin32 : ∀ b w_, b = true → (∃ l', Hs w0 F w_ l') → J32 [.bool b] w_ := by
      intro b w_ hb E
      subst hb
      (repeat with_reducible first | refine Stp.go ?_ | (apply hJ32; intro u_))
      exact ⟨rfl, E⟩
    have go32 : ∀ w_, (0 ≤ x.op.kind ∧ x.op.kind < 10) → Hs w0 F w_ (slA v Ty.law30_Act 24 (x.C (.slice a ds.length c)) :: pt q (oc (x.C (.slice a ds.length c)) Ty.law30_Act) :: l) → J32 [.bool false] w_ := by
      intro w_ hk E
      (repeat with_reducible first | refine Stp.go ?_ | refine StpE.go E ?_ | (apply hJ32; intro u_))
      refine (Do_nil (x := x.op) hk E).mono ?_
      clear E
      rintro r w_ ⟨rfl, l', E⟩
      (repeat with_reducible refine StpE.go E ?_)
      refine (Same_ok (e := 6) E).mono ?_
      clear E
      rintro r w_ ⟨rfl, E⟩
      exact ⟨rfl, _, E⟩
    clear hJ32
    (repeat with_reducible first | refine Stp.go ?_ | refine StpE.go E ?_)
    refine Bi.lss ?_ ?_ <;> intro c1 <;> (repeat with_reducible first | refine Stp.go ?_ | refine StpE.go E ?_)
    · exact fin32 _ _ rfl ⟨_, E⟩
    refine Bi.geq ?_ ?_ <;> intro c2 <;> (repeat with_reducible first | refine Stp.go ?_ | refine StpE.go E ?_)
    · exact fin32 _ _ rfl ⟨_, E⟩
    refine Bi.eql ?_ ?_ <;> intro c3 <;> (repeat with_reducible first | refine Stp.go ?_ | refine StpE.go E ?_)
    · exact fin32 _ _ rfl ⟨_, E⟩
    refine Bi.eql ?_ ?_ <;> intro c4 <;> (repeat with_reducible refine Stp.go ?_)
    · exact fin32 _ _ rfl ⟨_, E⟩
    exact go32 _ ⟨by omega, by omega⟩ E
  clear hJ20
  refine (Output_nil E).mono ?_
  clear E
  rintro r w_ ⟨rfl, E⟩
  (repeat first | (with_reducible first | refine Stp.go ?_ | refine StpE.go E ?_) | ((with_reducible refine Bi.sdec false ?_ ?_); focus decide))
  refine (Update_nil E).mono ?_
  clear E
  rintro r w_ ⟨rfl, E⟩
  (repeat first | (with_reducible first | refine Stp.go ?_) | ((with_reducible refine Bi.dec false ?_ ?_); focus exact rfl))
  refine (Commands_nil E).mono ?_
  clear E
  rintro r w_ ⟨rfl, E⟩
  (repeat first | (with_reducible first | refine Stp.go ?_ | refine LnL.nil ?_) | ((with_reducible refine Bi.dec false ?_ ?_); focus exact rfl))
  refine (Vars_nil E).mono ?_
  clear E
  rintro r w_ ⟨rfl, E⟩
  (repeat first | (with_reducible first | refine Stp.go ?_ | refine StpE.go E ?_ | refine LnL.nil ?_) | ((with_reducible refine Bi.dec false ?_ ?_); focus exact rfl))
  refine (Set_nil E).mono ?_
  clear E
  rintro r w_ ⟨rfl, E⟩
  (repeat first | (with_reducible first | refine Stp.go ?_) | ((with_reducible refine Bi.dec false ?_ ?_); focus exact rfl))
  refine (Root_nil E).mono ?_
  clear E
  rintro r w_ ⟨rfl, E⟩
  (repeat with_reducible first | refine Stp.go ?_ | refine StpE.go E ?_)
  refine EqS.nS (xs := [i64 0, i64 0, i64 0]) lv_Qid st_Qid g_Qid rfl ?_
  (repeat with_reducible refine Stp.go ?_)
  exact fin20 _ E
end Go.Proofs.YtlaedckelfcfdaaGreatDoor

/-
  DeviceNil: the operation that is handed in, opened.
-/
namespace Go.Proofs.YtlaedckelfcfdaaGreatDoor
open Go Go.Sh Go.ChangeShapes Go.WideShapes
set_option maxRecDepth 100000
set_option linter.unusedVariables false
set_option linter.unusedSimpArgs false
abbrev lkAct : List LK := [.int .i64, .int .i64, .int .i64, .str, .str, .int .i64, .int .i64, .int .i64, .int .i64, .str, .int .i64, .int .i64, .int .i64, .int .i64, .int .i64, .int .i64, .str, .str, .str, .str]
abbrev lkProc : List LK := [.int .i64, .int .i64, .int .i64, .str, .int .i64]
theorem lv_Act : lv PP 20 Ty.law28_Act = some lkAct := by kernel_rfl
theorem lvC_Act : lvC PP 20 Ty.law28_Act = true := by kernel_rfl
theorem lv_Proc : lv PP 20 Ty.api_Proc = some lkProc := by kernel_rfl
theorem lvC_Proc : lvC PP 20 Ty.api_Proc = true := by kernel_rfl
theorem u_sl_Proc : PP.underlying Ty.sl_api_Proc = some (.slice Ty.api_Proc) := by kernel_rfl
theorem uu_str : PP.underlying Ty.string = some .string := by kernel_rfl
theorem uu_int : PP.underlying Ty.int = some (.int .i64) := by kernel_rfl
theorem uu_int64 : PP.underlying Ty.int64 = some (.int .i64) := by kernel_rfl
abbrev xtab : List (TypeId × Nat × Nat) := [(Ty.int, 0, 1), (Ty.law28_Act, 1, 20), (Ty.string, 21, 1), (Ty.int64, 22, 1), (Ty.sl_api_Proc, 23, 1)]
theorem xtab_is : ftab PP Ty.law30_Act = xtab := by kernel_rfl
theorem c_X : PP.cellsOf Ty.law30_Act = 24 := by kernel_rfl
theorem int_of {v : Value} (h : LK.fitW (.int .i64) v) : ∃ n, v = i64 n := by
  obtain ⟨n, rfl, hw⟩ := LK.int_of h
  exact ⟨n, rfl⟩
theorem str_of {v : Value} (h : LK.fitW .str v) : ∃ s, v = str s := by
  obtain ⟨s, rfl, hw⟩ := LK.str_of h
  exact ⟨s, rfl⟩
theorem act_of {xs : List Value} (hx : fitWL lkAct xs) : ∃ x : Ac, xs = x.C := by
  obtain ⟨y0, t0, rfl, f0, z0⟩ := fitWL_cons hx
  obtain ⟨y1, t1, rfl, f1, z1⟩ := fitWL_cons z0
  obtain ⟨y2, t2, rfl, f2, z2⟩ := fitWL_cons z1
  obtain ⟨y3, t3, rfl, f3, z3⟩ := fitWL_cons z2
  obtain ⟨y4, t4, rfl, f4, z4⟩ := fitWL_cons z3
  obtain ⟨y5, t5, rfl, f5, z5⟩ := fitWL_cons z4
  obtain ⟨y6, t6, rfl, f6, z6⟩ := fitWL_cons z5
  obtain ⟨y7, t7, rfl, f7, z7⟩ := fitWL_cons z6
  obtain ⟨y8, t8, rfl, f8, z8⟩ := fitWL_cons z7
  obtain ⟨y9, t9, rfl, f9, z9⟩ := fitWL_cons z8
  obtain ⟨y10, t10, rfl, f10, z10⟩ := fitWL_cons z9
  obtain ⟨y11, t11, rfl, f11, z11⟩ := fitWL_cons z10
  obtain ⟨y12, t12, rfl, f12, z12⟩ := fitWL_cons z11
  obtain ⟨y13, t13, rfl, f13, z13⟩ := fitWL_cons z12
  obtain ⟨y14, t14, rfl, f14, z14⟩ := fitWL_cons z13
  obtain ⟨y15, t15, rfl, f15, z15⟩ := fitWL_cons z14
  obtain ⟨y16, t16, rfl, f16, z16⟩ := fitWL_cons z15
  obtain ⟨y17, t17, rfl, f17, z17⟩ := fitWL_cons z16
  obtain ⟨y18, t18, rfl, f18, z18⟩ := fitWL_cons z17
  obtain ⟨y19, t19, rfl, f19, z19⟩ := fitWL_cons z18
  obtain rfl := fitWL_nil z19
  obtain ⟨n0, rfl⟩ := int_of f0
  obtain ⟨n1, rfl⟩ := int_of f1
  obtain ⟨n2, rfl⟩ := int_of f2
  obtain ⟨s3, rfl⟩ := str_of f3
  obtain ⟨s4, rfl⟩ := str_of f4
  obtain ⟨n5, rfl⟩ := int_of f5
  obtain ⟨n6, rfl⟩ := int_of f6
  obtain ⟨n7, rfl⟩ := int_of f7
  obtain ⟨n8, rfl⟩ := int_of f8
  obtain ⟨s9, rfl⟩ := str_of f9
  obtain ⟨d0, rfl⟩ := int_of f10
  obtain ⟨d1, rfl⟩ := int_of f11
  obtain ⟨d2, rfl⟩ := int_of f12
  obtain ⟨d3, rfl⟩ := int_of f13
  obtain ⟨d4, rfl⟩ := int_of f14
  obtain ⟨d5, rfl⟩ := int_of f15
  obtain ⟨d6, rfl⟩ := str_of f16
  obtain ⟨d7, rfl⟩ := str_of f17
  obtain ⟨d8, rfl⟩ := str_of f18
  obtain ⟨d9, rfl⟩ := str_of f19
  exact ⟨⟨n0, n1, n2, s3, s4, n5, n6, n7, n8, s9, ⟨d0, d1, d2, d3, d4, d5, d6, d7, d8, d9⟩⟩, rfl⟩
theorem proc_of {xs : List Value} (hx : fitWL lkProc xs) : ∃ p : Pc, xs = p.cs := by
  obtain ⟨y0, t0, rfl, f0, z0⟩ := fitWL_cons hx
  obtain ⟨y1, t1, rfl, f1, z1⟩ := fitWL_cons z0
  obtain ⟨y2, t2, rfl, f2, z2⟩ := fitWL_cons z1
  obtain ⟨y3, t3, rfl, f3, z3⟩ := fitWL_cons z2
  obtain ⟨y4, t4, rfl, f4, z4⟩ := fitWL_cons z3
  obtain rfl := fitWL_nil z4
  obtain ⟨n0, rfl⟩ := int_of f0
  obtain ⟨n1, rfl⟩ := int_of f1
  obtain ⟨n2, rfl⟩ := int_of f2
  obtain ⟨s3, rfl⟩ := str_of f3
  obtain ⟨n4, rfl⟩ := int_of f4
  exact ⟨⟨n0, n1, n2, s3, n4⟩, rfl⟩
theorem procs_of : ∀ {rows : List (List Value)}, (∀ r ∈ rows, fitWL lkProc r) → ∃ ds : List Pc, rows.flatten = pcs ds ∧ rows.length = ds.length
  | [], _ => ⟨[], rfl, rfl⟩
  | r :: rs, h => by
    obtain ⟨p, rfl⟩ := proc_of (h r List.mem_cons_self)
    obtain ⟨ds, e1, e2⟩ := procs_of (rows := rs) fun y hy => h y (List.mem_cons_of_mem _ hy)
    exact ⟨p :: ds, by rw [List.flatten_cons, e1]; rfl, by rw [List.length_cons, List.length_cons, e2]⟩
variable {H : Type} {enc : TypeId × Value → H} {W : World}
theorem open_x {v : Value} {d : DataW H} {ps : List MemPlace} (hs : ∃ cs : Array Value, v = .agg cs) (h : DataW.Trod enc PP W 0 (fun _ => true) true Ty.law30_Act v d ps) :
    ∃ x pv ds, v = Xc.V x pv ∧ ds.length ≤ 9223372036854775807 ∧ ∀ l, RdS W Emp l 5 ds.length pv (pcs ds) := by
  obtain ⟨cs0, rfl⟩ := hs
  obtain ⟨fuel, h⟩ := h
  have h : DataW.trod enc PP W 0 (fun _ => true) true fuel Ty.law30_Act cs0.toList = some (d, ps) := h
  obtain ⟨xs, n, hx, hlen, hxs, hf⟩ := struct_parts xtab_is (by decide) h
  rw [c_X] at hlen
  obtain ⟨cs, hcs⟩ : ∃ cs, cs0.toList = cs := ⟨_, rfl⟩
  rw [hcs] at hlen hf
  obtain ⟨c0, c1, c2, c3, c4, c5, c6, c7, c8, c9, c10, c11, c12, c13, c14, c15, c16, c17, c18, c19, c20, c21, c22, c23, rfl⟩ : ∃ c0 c1 c2 c3 c4 c5 c6 c7 c8 c9 c10 c11 c12 c13 c14 c15 c16 c17 c18 c19 c20 c21 c22 c23, cs = [c0, c1, c2, c3, c4, c5, c6, c7, c8, c9, c10, c11, c12, c13, c14, c15, c16, c17, c18, c19, c20, c21, c22, c23] := by
    match cs, hlen with
    | [c0, c1, c2, c3, c4, c5, c6, c7, c8, c9, c10, c11, c12, c13, c14, c15, c16, c17, c18, c19, c20, c21, c22, c23], _ => exact ⟨c0, c1, c2, c3, c4, c5, c6, c7, c8, c9, c10, c11, c12, c13, c14, c15, c16, c17, c18, c19, c20, c21, c22, c23, rfl⟩
  obtain ⟨x0, x1, x2, x3, x4, rfl⟩ : ∃ x0 x1 x2 x3 x4, xs = [x0, x1, x2, x3, x4] := by
    match xs, hxs with
    | [x0, x1, x2, x3, x4], _ => exact ⟨x0, x1, x2, x3, x4, rfl⟩
  have h0 : DataW.trod enc PP W 0 (fun _ => true) true n Ty.int [c0] = some x0 := hf 0 _ _ _ rfl
  obtain ⟨n0, e0, -, w0⟩ := DataW.trod_int uu_int h0
  cases e0
  have h1 : DataW.trod enc PP W 0 (fun _ => true) true n Ty.law28_Act [c1, c2, c3, c4, c5, c6, c7, c8, c9, c10, c11, c12, c13, c14, c15, c16, c17, c18, c19, c20] = some x1 := hf 1 _ _ _ rfl
  obtain ⟨a, ea⟩ := act_of (trod_lv 20 lv_Act lvC_Act _ _ _ h1)
  have h2 : DataW.trod enc PP W 0 (fun _ => true) true n Ty.string [c21] = some x2 := hf 2 _ _ _ rfl
  obtain ⟨s2, e2, y2, -⟩ := DataW.trod_string uu_str h2
  cases e2
  have h3 : DataW.trod enc PP W 0 (fun _ => true) true n Ty.int64 [c22] = some x3 := hf 3 _ _ _ rfl
  obtain ⟨n3, e3, -, w3⟩ := DataW.trod_int uu_int64 h3
  cases e3
  have h4 : DataW.trod enc PP W 0 (fun _ => true) true n Ty.sl_api_Proc [c23] = some x4 := hf 4 _ _ _ rfl
  obtain ⟨rows, hQ, hfit⟩ := rdl_structs0 u_sl_Proc lv_Proc lvC_Proc (by decide) h4
  obtain ⟨ds, e4, e5⟩ := procs_of hfit
  rw [e4, e5] at hQ
  refine ⟨⟨n0, a, s2, n3⟩, c23, ds, ?_, ?_, fun l => RdS.oldA hQ fun b h => h⟩
  · have e : cs0.toList = Xc.C ⟨n0, a, s2, n3⟩ c23 := by
      rw [hcs]
      cases ea
      rfl
    show Value.agg cs0 = .agg (Xc.C ⟨n0, a, s2, n3⟩ c23).toArray
    rw [← e]
  · obtain ⟨a1, b1, -, -, hm, -⟩ := hQ
    exact Nat.le_trans hm (by decide)
end Go.Proofs.YtlaedckelfcfdaaGreatDoor
