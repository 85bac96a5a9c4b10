/-
  Device: the making of files.
-/
import Derived.Test.YtdhieaifhlikpaaDoorS0
import Derived.Test.YtdhieaifhlikpaaDoorS1
import Derived.Test.YtdhieaifhlikpaaDoorSh12
namespace Go.Proofs.YtdhieaifhlikpaaDoor
open Go Go.Sh
set_option maxRecDepth 100000
set_option linter.unusedVariables false
set_option linter.unusedSimpArgs false
set_option linter.unusedSimpArgs false
abbrev ptr (b : Nat) : Value := .pointer (some ⟨b, 0, none⟩)
abbrev i64 (n : Int) : Value := .int .i64 n
abbrev str (s : ByteArray) : Value := .string s

theorem u_files : PP.underlying Ty.map_int64_p_device_file = some (.map Ty.int64 Ty.p_device_file) := by kernel_rfl
theorem u_kids : PP.underlying Ty.map_string_p_device_file = some (.map Ty.string Ty.p_device_file) := by kernel_rfl
theorem u_open : PP.underlying Ty.map_int_device_handle = some (.map Ty.int Ty.device_handle) := by kernel_rfl
theorem k_i64 : (KT.int .i64).fits PP Ty.int64 = true := by kernel_rfl
theorem k_int : (KT.int .i64).fits PP Ty.int = true := by kernel_rfl
theorem k_str : KT.str.fits PP Ty.string = true := by kernel_rfl

variable {w0 : World} {F : Nat → Prop} {l : List As}

theorem text_ok {w : World} {f : Nat} {cs : List Value} {v : Value} (hv : scalV v = true) (hl : cs.length = 16) (E : Hs w0 F w (pt f (oc cs Ty.device_file) :: l)) :
    Ca PP Fn.device_file_text #[ptr f, v] w fun r w' => r = .tuple #[] ∧ ∃ c, Hs w0 F w' (pt f (oc (cs.set 13 (.func (.func Fn.device_file_text_1) #[] #[ptr c])) Ty.device_file) :: pt c (oc [v] Ty.func_string) :: l) := by
  refine S.device_file_text.calls ?_
  unfold S.device_file_text
  rw [cells_scal hv]
  (repeat (first | (with_reducible refine Stp.go ?_) | (with_reducible refine StpE.go E ?_) | (with_reducible refine StpW.go E ?_; clear E; intro w_ E) | (with_reducible refine StpA.go E ?_; clear E; intro b_ w_ hb_ E) | ((with_reducible refine Bi.seqT ?_ ?_); focus exact rfl) | ((with_reducible refine Bi.seqF ?_ ?_); focus decide) | ((with_reducible refine Bi.snF ?_ ?_); focus exact rfl) | ((with_reducible refine Bi.snT ?_ ?_); focus decide) | ((with_reducible refine Bi.cmp true ?_ ?_); focus (simp only [cmpB, List.length_cons, List.length_nil, Nat.reduceAdd, Int.natCast_one, Int.natCast_zero, Int.cast_ofNat_Int, Int.reduceLT, Int.reduceLE, Int.reduceEq, Int.reduceNe, ne_eq, not_true_eq_false, not_false_eq_true, decide_true, decide_false]; done)) | ((with_reducible refine Bi.cmp false ?_ ?_); focus (simp only [cmpB, List.length_cons, List.length_nil, Nat.reduceAdd, Int.natCast_one, Int.natCast_zero, Int.cast_ofNat_Int, Int.reduceLT, Int.reduceLE, Int.reduceEq, Int.reduceNe, ne_eq, not_true_eq_false, not_false_eq_true, decide_true, decide_false]; done)) | (with_reducible refine LnL.nil ?_)))
  (try (refine St.by E (by first | exact Nat.le_of_ble_eq_true rfl | omega | (simp only [List.length_set, List.length_cons, List.length_nil]; omega)) (by first | exact rfl | assumption | exact Hs.slScal E FSl.mem) ?_; clear E; intro w_ E; try simp only [Nat.zero_add] at E))
  exact ⟨rfl, _, E.front 1 rfl⟩

/-- A mode's bit for directories. -/
def dirBit (m : Int) : Bool := IntKind.i64.wrap (BitVec.ofInt 64 m &&& BitVec.ofInt 64 2147483648).toNat != 0
theorem isDir_ok {w : World} {f : Nat} {cs : List Value} {m : Int} (hm : cs[3]? = some (i64 m)) (h : w.heap[f]? = some (oc cs Ty.device_file)) :
    Ca PP Fn.device_file_isDir #[ptr f] w fun r w' => r = .bool (dirBit m) ∧ w' = w := by
  refine S.device_file_isDir.calls ?_
  unfold S.device_file_isDir
  refine Nc.ptr (Fa.ptr (Fa.ptr (Ld.ob h (by simpa using hm) ?_)))
  exact Bi.mk rfl (Bi.mk rfl ⟨rfl, rfl⟩)

theorem become_file {w : World} {f : Nat} {cs : List Value} {m : Int} (hl : cs.length = 16) (hm : dirBit m = false) (E : Hs w0 F w (pt f (oc cs Ty.device_file) :: l)) :
    Ca PP Fn.device_file_become #[ptr f, i64 m] w fun r w' => Hs w0 F w' (pt f (oc (cs.set 3 (i64 m)) Ty.device_file) :: l) := by
  refine S.device_file_become.calls ?_
  unfold S.device_file_become
  (repeat (first | (with_reducible refine Stp.go ?_) | (with_reducible refine StpE.go E ?_) | (with_reducible refine StpW.go E ?_; clear E; intro w_ E) | (with_reducible refine StpA.go E ?_; clear E; intro b_ w_ hb_ E) | ((with_reducible refine Bi.seqT ?_ ?_); focus exact rfl) | ((with_reducible refine Bi.seqF ?_ ?_); focus decide) | ((with_reducible refine Bi.snF ?_ ?_); focus exact rfl) | ((with_reducible refine Bi.snT ?_ ?_); focus decide) | ((with_reducible refine Bi.cmp true ?_ ?_); focus (simp only [cmpB, List.length_cons, List.length_nil, Nat.reduceAdd, Int.natCast_one, Int.natCast_zero, Int.cast_ofNat_Int, Int.reduceLT, Int.reduceLE, Int.reduceEq, Int.reduceNe, ne_eq, not_true_eq_false, not_false_eq_true, decide_true, decide_false]; done)) | ((with_reducible refine Bi.cmp false ?_ ?_); focus (simp only [cmpB, List.length_cons, List.length_nil, Nat.reduceAdd, Int.natCast_one, Int.natCast_zero, Int.cast_ofNat_Int, Int.reduceLT, Int.reduceLE, Int.reduceEq, Int.reduceNe, ne_eq, not_true_eq_false, not_false_eq_true, decide_true, decide_false]; done)) | (with_reducible refine LnL.nil ?_)))
  (try (refine St.by E (by first | exact Nat.le_of_ble_eq_true rfl | omega | (simp only [List.length_set, List.length_cons, List.length_nil]; omega)) (by first | exact rfl | assumption | exact Hs.slScal E FSl.mem) ?_; clear E; intro w_ E; try simp only [Nat.zero_add] at E))
  refine (isDir_ok (m := m) (by simp [hl]) (E.sat _ List.mem_cons_self)).mono ?_
  rintro r w' ⟨rfl, rfl⟩
  rw [hm]
  exact Cnd.f E

theorem become_dir {w : World} {f : Nat} {cs : List Value} {m : Int} (hl : cs.length = 16) (hm : dirBit m = true) (E : Hs w0 F w (pt f (oc cs Ty.device_file) :: l)) :
    Ca PP Fn.device_file_become #[ptr f, i64 m] w fun r w' => ∃ k, Hs w0 F w' (pt f (oc (((cs.set 3 (i64 m)).set 0 (i64 128)).set 11 (.map (some k))) Ty.device_file) :: mp k .str [] :: l) := by
  refine S.device_file_become.calls ?_
  unfold S.device_file_become
  (repeat (first | (with_reducible refine Stp.go ?_) | (with_reducible refine StpE.go E ?_) | (with_reducible refine StpW.go E ?_; clear E; intro w_ E) | (with_reducible refine StpA.go E ?_; clear E; intro b_ w_ hb_ E) | ((with_reducible refine Bi.seqT ?_ ?_); focus exact rfl) | ((with_reducible refine Bi.seqF ?_ ?_); focus decide) | ((with_reducible refine Bi.snF ?_ ?_); focus exact rfl) | ((with_reducible refine Bi.snT ?_ ?_); focus decide) | ((with_reducible refine Bi.cmp true ?_ ?_); focus (simp only [cmpB, List.length_cons, List.length_nil, Nat.reduceAdd, Int.natCast_one, Int.natCast_zero, Int.cast_ofNat_Int, Int.reduceLT, Int.reduceLE, Int.reduceEq, Int.reduceNe, ne_eq, not_true_eq_false, not_false_eq_true, decide_true, decide_false]; done)) | ((with_reducible refine Bi.cmp false ?_ ?_); focus (simp only [cmpB, List.length_cons, List.length_nil, Nat.reduceAdd, Int.natCast_one, Int.natCast_zero, Int.cast_ofNat_Int, Int.reduceLT, Int.reduceLE, Int.reduceEq, Int.reduceNe, ne_eq, not_true_eq_false, not_false_eq_true, decide_true, decide_false]; done)) | (with_reducible refine LnL.nil ?_)))
  (try (refine St.by E (by first | exact Nat.le_of_ble_eq_true rfl | omega | (simp only [List.length_set, List.length_cons, List.length_nil]; omega)) (by first | exact rfl | assumption | exact Hs.slScal E FSl.mem) ?_; clear E; intro w_ E; try simp only [Nat.zero_add] at E))
  refine (isDir_ok (m := m) (by simp [hl]) (E.sat _ List.mem_cons_self)).mono ?_
  rintro r w' ⟨rfl, rfl⟩
  rw [hm]
  refine Cnd.t ?_
  refine MkM.pt (kt := .str) E ?_
  intro k w_ hb_ E
  (repeat (first | (with_reducible refine Stp.go ?_) | (with_reducible refine StpE.go E ?_) | (with_reducible refine StpW.go E ?_; clear E; intro w_ E) | (with_reducible refine StpA.go E ?_; clear E; intro b_ w_ hb_ E) | ((with_reducible refine Bi.seqT ?_ ?_); focus exact rfl) | ((with_reducible refine Bi.seqF ?_ ?_); focus decide) | ((with_reducible refine Bi.snF ?_ ?_); focus exact rfl) | ((with_reducible refine Bi.snT ?_ ?_); focus decide) | ((with_reducible refine Bi.cmp true ?_ ?_); focus (simp only [cmpB, List.length_cons, List.length_nil, Nat.reduceAdd, Int.natCast_one, Int.natCast_zero, Int.cast_ofNat_Int, Int.reduceLT, Int.reduceLE, Int.reduceEq, Int.reduceNe, ne_eq, not_true_eq_false, not_false_eq_true, decide_true, decide_false]; done)) | ((with_reducible refine Bi.cmp false ?_ ?_); focus (simp only [cmpB, List.length_cons, List.length_nil, Nat.reduceAdd, Int.natCast_one, Int.natCast_zero, Int.cast_ofNat_Int, Int.reduceLT, Int.reduceLE, Int.reduceEq, Int.reduceNe, ne_eq, not_true_eq_false, not_false_eq_true, decide_true, decide_false]; done)) | (with_reducible refine LnL.nil ?_)))
  (try (refine St.by E (by first | exact Nat.le_of_ble_eq_true rfl | omega | (simp only [List.length_set, List.length_cons, List.length_nil]; omega)) (by first | exact rfl | assumption | exact Hs.slScal E FSl.mem) ?_; clear E; intro w_ E; try simp only [Nat.zero_add] at E))
  (repeat (first | (with_reducible refine Stp.go ?_) | (with_reducible refine StpE.go E ?_) | (with_reducible refine StpW.go E ?_; clear E; intro w_ E) | (with_reducible refine StpA.go E ?_; clear E; intro b_ w_ hb_ E) | ((with_reducible refine Bi.seqT ?_ ?_); focus exact rfl) | ((with_reducible refine Bi.seqF ?_ ?_); focus decide) | ((with_reducible refine Bi.snF ?_ ?_); focus exact rfl) | ((with_reducible refine Bi.snT ?_ ?_); focus decide) | ((with_reducible refine Bi.cmp true ?_ ?_); focus (simp only [cmpB, List.length_cons, List.length_nil, Nat.reduceAdd, Int.natCast_one, Int.natCast_zero, Int.cast_ofNat_Int, Int.reduceLT, Int.reduceLE, Int.reduceEq, Int.reduceNe, ne_eq, not_true_eq_false, not_false_eq_true, decide_true, decide_false]; done)) | ((with_reducible refine Bi.cmp false ?_ ?_); focus (simp only [cmpB, List.length_cons, List.length_nil, Nat.reduceAdd, Int.natCast_one, Int.natCast_zero, Int.cast_ofNat_Int, Int.reduceLT, Int.reduceLE, Int.reduceEq, Int.reduceNe, ne_eq, not_true_eq_false, not_false_eq_true, decide_true, decide_false]; done)) | (with_reducible refine LnL.nil ?_)))
  (try (refine St.by E (by first | exact Nat.le_of_ble_eq_true rfl | omega | (simp only [List.length_set, List.length_cons, List.length_nil]; omega)) (by first | exact rfl | assumption | exact Hs.slScal E FSl.mem) ?_; clear E; intro w_ E; try simp only [Nat.zero_add] at E))
  exact ⟨k, E.front 1 rfl⟩

/-- The root's cells. -/
abbrev rootCs (o : ByteArray) (k : Nat) : List Value :=
  [i64 128, i64 0, i64 0, i64 2147484013, i64 0, i64 0, .string ⟨#[]⟩, .string o, .string o, .string o, .pointer none, .map (some k), .bool false, .nilFunc, .nilFunc, .nilFunc]
theorem newDevice_ok {w : World} {o : ByteArray} (E : Hs w0 F w l) :
    Ca PP Fn.device_newDevice #[.string o] w fun r w' => ∃ d rt fm om k, r = ptr d ∧ Hs w0 F w' (pt d (oc [ptr rt, .map (some fm), .map (some om)] Ty.device_Device) :: pt rt (oc (rootCs o k) Ty.device_file) ::
      mp fm (.int .i64) [(i64 0, ptr rt)] :: mp om (.int .i64) [] :: mp k .str [] :: l) := by
  refine S.device_newDevice.calls ?_
  unfold S.device_newDevice
  refine MkM.pt (kt := .int .i64) E ?_
  intro fm w_ hfm E
  refine MkM.pt (kt := .int .i64) E ?_
  intro om w_ hom E
  (repeat (first | (with_reducible refine Stp.go ?_) | (with_reducible refine StpE.go E ?_) | (with_reducible refine StpW.go E ?_; clear E; intro w_ E) | (with_reducible refine StpA.go E ?_; clear E; intro b_ w_ hb_ E) | ((with_reducible refine Bi.seqT ?_ ?_); focus exact rfl) | ((with_reducible refine Bi.seqF ?_ ?_); focus decide) | ((with_reducible refine Bi.snF ?_ ?_); focus exact rfl) | ((with_reducible refine Bi.snT ?_ ?_); focus decide) | ((with_reducible refine Bi.cmp true ?_ ?_); focus (simp only [cmpB, List.length_cons, List.length_nil, Nat.reduceAdd, Int.natCast_one, Int.natCast_zero, Int.cast_ofNat_Int, Int.reduceLT, Int.reduceLE, Int.reduceEq, Int.reduceNe, ne_eq, not_true_eq_false, not_false_eq_true, decide_true, decide_false]; done)) | ((with_reducible refine Bi.cmp false ?_ ?_); focus (simp only [cmpB, List.length_cons, List.length_nil, Nat.reduceAdd, Int.natCast_one, Int.natCast_zero, Int.cast_ofNat_Int, Int.reduceLT, Int.reduceLE, Int.reduceEq, Int.reduceNe, ne_eq, not_true_eq_false, not_false_eq_true, decide_true, decide_false]; done)) | (with_reducible refine LnL.nil ?_)))
  (try (refine St.by E (by first | exact Nat.le_of_ble_eq_true rfl | omega | (simp only [List.length_set, List.length_cons, List.length_nil]; omega)) (by first | exact rfl | assumption | exact Hs.slScal E FSl.mem) ?_; clear E; intro w_ E; try simp only [Nat.zero_add] at E))
  (repeat (first | (with_reducible refine Stp.go ?_) | (with_reducible refine StpE.go E ?_) | (with_reducible refine StpW.go E ?_; clear E; intro w_ E) | (with_reducible refine StpA.go E ?_; clear E; intro b_ w_ hb_ E) | ((with_reducible refine Bi.seqT ?_ ?_); focus exact rfl) | ((with_reducible refine Bi.seqF ?_ ?_); focus decide) | ((with_reducible refine Bi.snF ?_ ?_); focus exact rfl) | ((with_reducible refine Bi.snT ?_ ?_); focus decide) | ((with_reducible refine Bi.cmp true ?_ ?_); focus (simp only [cmpB, List.length_cons, List.length_nil, Nat.reduceAdd, Int.natCast_one, Int.natCast_zero, Int.cast_ofNat_Int, Int.reduceLT, Int.reduceLE, Int.reduceEq, Int.reduceNe, ne_eq, not_true_eq_false, not_false_eq_true, decide_true, decide_false]; done)) | ((with_reducible refine Bi.cmp false ?_ ?_); focus (simp only [cmpB, List.length_cons, List.length_nil, Nat.reduceAdd, Int.natCast_one, Int.natCast_zero, Int.cast_ofNat_Int, Int.reduceLT, Int.reduceLE, Int.reduceEq, Int.reduceNe, ne_eq, not_true_eq_false, not_false_eq_true, decide_true, decide_false]; done)) | (with_reducible refine LnL.nil ?_)))
  refine (become_dir (m := 2147484013) rfl (by decide) E).mono ?_
  rintro r w_ ⟨k, E⟩
  (try simp only [List.set_cons_zero, List.set_cons_succ, List.cons_append, List.nil_append, Nat.zero_add, Nat.add_zero] at E)
  (repeat (first | (with_reducible refine Stp.go ?_) | (with_reducible refine StpE.go E ?_) | (with_reducible refine StpW.go E ?_; clear E; intro w_ E) | (with_reducible refine StpA.go E ?_; clear E; intro b_ w_ hb_ E) | ((with_reducible refine Bi.seqT ?_ ?_); focus exact rfl) | ((with_reducible refine Bi.seqF ?_ ?_); focus decide) | ((with_reducible refine Bi.snF ?_ ?_); focus exact rfl) | ((with_reducible refine Bi.snT ?_ ?_); focus decide) | ((with_reducible refine Bi.cmp true ?_ ?_); focus (simp only [cmpB, List.length_cons, List.length_nil, Nat.reduceAdd, Int.natCast_one, Int.natCast_zero, Int.cast_ofNat_Int, Int.reduceLT, Int.reduceLE, Int.reduceEq, Int.reduceNe, ne_eq, not_true_eq_false, not_false_eq_true, decide_true, decide_false]; done)) | ((with_reducible refine Bi.cmp false ?_ ?_); focus (simp only [cmpB, List.length_cons, List.length_nil, Nat.reduceAdd, Int.natCast_one, Int.natCast_zero, Int.cast_ofNat_Int, Int.reduceLT, Int.reduceLE, Int.reduceEq, Int.reduceNe, ne_eq, not_true_eq_false, not_false_eq_true, decide_true, decide_false]; done)) | (with_reducible refine LnL.nil ?_)))
  (refine Mu.by E u_files k_i64 (by first | rfl | assumption) ?_; clear E; intro w_ E)
  (replace E := (((((E.bIx 1).bIx 3).bIx 4).bIx 3).bIx 4))
  exact ⟨_, _, _, _, _, rfl, E⟩

/-- A file's cells, as 'add' makes it. -/
abbrev fileCs (p : Int) (m : Int) (name o : ByteArray) (up : Value) : List Value :=
  [i64 0, i64 0, i64 p, i64 m, i64 0, i64 0, str name, str o, str o, str o, up, .map none, .bool false, .nilFunc, .nilFunc, .nilFunc]
theorem add_ok {w : World} {d rt fm om k : Nat} {o name : ByteArray} {p m : Int} {M1 M2 : AL} (hm : dirBit m = false)
    (E : Hs w0 F w (pt d (oc [ptr rt, .map (some fm), .map (some om)] Ty.device_Device) :: pt rt (oc (rootCs o k) Ty.device_file) :: mp fm (.int .i64) M1 :: mp k .str M2 :: l)) :
    Ca PP Fn.device_Device_add #[ptr d, ptr rt, i64 p, str name, i64 m] w fun r w' => ∃ f, r = ptr f ∧
      Hs w0 F w' (pt f (oc (fileCs p m name o (ptr rt)) Ty.device_file) :: pt d (oc [ptr rt, .map (some fm), .map (some om)] Ty.device_Device) :: pt rt (oc (rootCs o k) Ty.device_file) ::
        mp fm (.int .i64) (aput M1 (i64 p) (ptr f)) :: mp k .str (aput M2 (str name) (ptr f)) :: l) := by
  refine S.device_Device_add.calls ?_
  unfold S.device_Device_add
  (repeat (first | (with_reducible refine Stp.go ?_) | (with_reducible refine StpE.go E ?_) | (with_reducible refine StpW.go E ?_; clear E; intro w_ E) | (with_reducible refine StpA.go E ?_; clear E; intro b_ w_ hb_ E) | ((with_reducible refine Bi.seqT ?_ ?_); focus exact rfl) | ((with_reducible refine Bi.seqF ?_ ?_); focus decide) | ((with_reducible refine Bi.snF ?_ ?_); focus exact rfl) | ((with_reducible refine Bi.snT ?_ ?_); focus decide) | ((with_reducible refine Bi.cmp true ?_ ?_); focus (simp only [cmpB, List.length_cons, List.length_nil, Nat.reduceAdd, Int.natCast_one, Int.natCast_zero, Int.cast_ofNat_Int, Int.reduceLT, Int.reduceLE, Int.reduceEq, Int.reduceNe, ne_eq, not_true_eq_false, not_false_eq_true, decide_true, decide_false]; done)) | ((with_reducible refine Bi.cmp false ?_ ?_); focus (simp only [cmpB, List.length_cons, List.length_nil, Nat.reduceAdd, Int.natCast_one, Int.natCast_zero, Int.cast_ofNat_Int, Int.reduceLT, Int.reduceLE, Int.reduceEq, Int.reduceNe, ne_eq, not_true_eq_false, not_false_eq_true, decide_true, decide_false]; done)) | (with_reducible refine LnL.nil ?_)))
  refine (become_file rfl hm E).mono ?_
  clear E
  rintro r w_ E
  (try simp only [List.set_cons_zero, List.set_cons_succ, List.cons_append, List.nil_append, Nat.zero_add, Nat.add_zero] at E)
  (repeat (first | (with_reducible refine Stp.go ?_) | (with_reducible refine StpE.go E ?_) | (with_reducible refine StpW.go E ?_; clear E; intro w_ E) | (with_reducible refine StpA.go E ?_; clear E; intro b_ w_ hb_ E) | ((with_reducible refine Bi.seqT ?_ ?_); focus exact rfl) | ((with_reducible refine Bi.seqF ?_ ?_); focus decide) | ((with_reducible refine Bi.snF ?_ ?_); focus exact rfl) | ((with_reducible refine Bi.snT ?_ ?_); focus decide) | ((with_reducible refine Bi.cmp true ?_ ?_); focus (simp only [cmpB, List.length_cons, List.length_nil, Nat.reduceAdd, Int.natCast_one, Int.natCast_zero, Int.cast_ofNat_Int, Int.reduceLT, Int.reduceLE, Int.reduceEq, Int.reduceNe, ne_eq, not_true_eq_false, not_false_eq_true, decide_true, decide_false]; done)) | ((with_reducible refine Bi.cmp false ?_ ?_); focus (simp only [cmpB, List.length_cons, List.length_nil, Nat.reduceAdd, Int.natCast_one, Int.natCast_zero, Int.cast_ofNat_Int, Int.reduceLT, Int.reduceLE, Int.reduceEq, Int.reduceNe, ne_eq, not_true_eq_false, not_false_eq_true, decide_true, decide_false]; done)) | (with_reducible refine LnL.nil ?_)))
  (refine Mu.by E u_kids k_str (by first | rfl | assumption) ?_; clear E; intro w_ E)
  (repeat (first | (with_reducible refine Stp.go ?_) | (with_reducible refine StpE.go E ?_) | (with_reducible refine StpW.go E ?_; clear E; intro w_ E) | (with_reducible refine StpA.go E ?_; clear E; intro b_ w_ hb_ E) | ((with_reducible refine Bi.seqT ?_ ?_); focus exact rfl) | ((with_reducible refine Bi.seqF ?_ ?_); focus decide) | ((with_reducible refine Bi.snF ?_ ?_); focus exact rfl) | ((with_reducible refine Bi.snT ?_ ?_); focus decide) | ((with_reducible refine Bi.cmp true ?_ ?_); focus (simp only [cmpB, List.length_cons, List.length_nil, Nat.reduceAdd, Int.natCast_one, Int.natCast_zero, Int.cast_ofNat_Int, Int.reduceLT, Int.reduceLE, Int.reduceEq, Int.reduceNe, ne_eq, not_true_eq_false, not_false_eq_true, decide_true, decide_false]; done)) | ((with_reducible refine Bi.cmp false ?_ ?_); focus (simp only [cmpB, List.length_cons, List.length_nil, Nat.reduceAdd, Int.natCast_one, Int.natCast_zero, Int.cast_ofNat_Int, Int.reduceLT, Int.reduceLE, Int.reduceEq, Int.reduceNe, ne_eq, not_true_eq_false, not_false_eq_true, decide_true, decide_false]; done)) | (with_reducible refine LnL.nil ?_)))
  (refine Mu.by E u_files k_i64 (by first | rfl | assumption) ?_; clear E; intro w_ E)
  exact ⟨_, rfl, E⟩
end Go.Proofs.YtdhieaifhlikpaaDoor
