/- Own text. -/
import Derived.Test.YtmlccboapkkcfaaGreatDoorSc
namespace Go.Proofs.YtmlccboapkkcfaaGreatDoor
open Go Go.Sh
set_option linter.unusedVariables false
set_option maxRecDepth 100000
/-- (*acheron/styx.input).num -/
def S.styx_input_num (a0 a1 a2 : Value) (w : World) (R : Value → World → Prop) : Prop :=
 Nc a0 fun t1 =>
 Fa 0 t1 fun t2 =>
 Ld t2 w fun t3 =>
 Ca PP Fn.wire_Reader_Little #[t3, a2] w fun t4 w5 =>
 Ex t4 0 fun t6 =>
 Ex t4 1 fun t7 =>
 Nc a0 fun t8 =>
 Fa 3 t8 fun t9 =>
 Ld t9 w5 fun t10 =>
 Gd t10 false (fun k11 => k11 t7 w5) w5 fun t12 w13 =>
 Gd t10 false (fun k14 => Bi .neq t12 (.int .i64 0) fun t17 =>
 k14 t17 w13) w13 fun t15 w16 =>
 Pk t10 (.bool true) t15 fun t18 =>
 Nc a1 fun t19 =>
 St PP 1 t19 t6 w16 fun w20 =>
 Nc a0 fun t21 =>
 Fa 3 t21 fun t22 =>
 St PP 1 t22 t18 w20 fun w23 =>
 R (.tuple #[]) w23
def S.styx_input_num.an : Ann := (.seq .leaf .leaf)
theorem S.styx_input_num.eq (a0 a1 a2 : Value) (w : World) (R : Value → World → Prop) : S.styx_input_num a0 a1 a2 w R = fnC PP 31 (Tryz.f39.body.getD .skip) S.styx_input_num.an [] [a0, a1, a2] w R := by kernel_rfl
theorem S.styx_input_num.calls {a0 a1 a2 : Value} {w : World} {R : Value → World → Prop} (h : S.styx_input_num a0 a1 a2 w R) : Ca PP Fn.styx_input_num #[a0, a1, a2] w R :=
  fnC_calls mixed (f := Fn.styx_input_num) (an := S.styx_input_num.an) Tryz.func39 rfl (by show _ ≤ _; exact Nat.le_of_ble_eq_true rfl) (S.styx_input_num.eq a0 a1 a2 w R ▸ h)
/-- slices.Equal[[]string,string] -/
def S.slices_Equal_sl_string_string (a0 a1 : Value) (w : World) (R : Value → World → Prop) : Prop :=
 LnL a0 fun t1 =>
 LnL a1 fun t2 =>
 Bi .neq t1 t2 fun t3 =>
 Cnd t3 (
 R (.bool false) w) (
 LnL a0 fun t4 =>
 ∃ (I5 : List Value → World → Prop) (m6 : List Value → World → Nat), I5 [(.int .i64 0)] w ∧ ∀ t9, ∀ (u7 : Env) (w8 : World), I5 [t9] w8 →
 Bi .lss t9 t4 fun t10 =>
 Cnd t10 (
 Dr w8 fun w11 =>
 IxA 1 a0 t9 fun t12 =>
 Ld t12 w11 fun t13 =>
 IxA 1 a1 t9 fun t14 =>
 Ld t14 w11 fun t15 =>
 Bi .neq t13 t15 fun t16 =>
 Cnd t16 (
 R (.bool false) w11) (
 Bi .add t9 (.int .i64 1) fun t17 =>
 I5 [t17] w11 ∧ m6 [t17] w11 < m6 [t9] w8)) (
 R (.bool true) w8))
def S.slices_Equal_sl_string_string.an : Ann := (.seq .leaf (.seq (.seq .leaf (.cond (.seq .leaf .leaf) .leaf)) (.seq (.seq .leaf (.block (.loop (.seq .leaf (.seq (.cond .leaf .leaf) (.seq (.block (.seq .leaf (.seq (.draw [[],[],[0,1],[0,1,2],[],[],[4,5],[4,5,6],[0,1,2,3,4,5,6,7]] (.calm 0 (.calm 1 (.calm 2 (.calm 3 (.calm 4 (.calm 5 (.calm 6 (.calm 7 (.calm 8 .done)))))))))) (.cond (.seq .leaf .leaf) .leaf)))) .leaf))) [13] [4,5,14,15,16,17,18,19,20,21,22,23,24,25]))) (.seq .leaf .leaf))))
theorem S.slices_Equal_sl_string_string.eq (a0 a1 : Value) (w : World) (R : Value → World → Prop) : S.slices_Equal_sl_string_string a0 a1 w R = fnC PP 26 (Tryz.f40.body.getD .skip) S.slices_Equal_sl_string_string.an [.tmp 4] [a0, a1] w R := by kernel_rfl
theorem S.slices_Equal_sl_string_string.calls {a0 a1 : Value} {w : World} {R : Value → World → Prop} (h : S.slices_Equal_sl_string_string a0 a1 w R) : Ca PP Fn.slices_Equal_sl_string_string #[a0, a1] w R :=
  fnC_calls mixed (f := Fn.slices_Equal_sl_string_string) (an := S.slices_Equal_sl_string_string.an) Tryz.func40 rfl (by show _ ≤ _; exact Nat.le_of_ble_eq_true rfl) (S.slices_Equal_sl_string_string.eq a0 a1 w R ▸ h)
/-- slices.Equal[[]acheron/api.Qid,acheron/api.Qid] -/
def S.slices_Equal_sl_api_Qid_api_Qid (a0 a1 : Value) (w : World) (R : Value → World → Prop) : Prop :=
 LnL a0 fun t1 =>
 LnL a1 fun t2 =>
 Bi .neq t1 t2 fun t3 =>
 Cnd t3 (
 R (.bool false) w) (
 LnL a0 fun t4 =>
 ∃ (I5 : List Value → World → Prop) (m6 : List Value → World → Nat), I5 [(.int .i64 0)] w ∧ ∀ t9, ∀ (u7 : Env) (w8 : World), I5 [t9] w8 →
 Bi .lss t9 t4 fun t10 =>
 Cnd t10 (
 Dr w8 fun w11 =>
 IxA 3 a0 t9 fun t12 =>
 LdA PP 3 t12 w11 fun t13 =>
 IxA 3 a1 t9 fun t14 =>
 LdA PP 3 t14 w11 fun t15 =>
 Rd PP (eqS .neq Ty.api_Qid (.tmp 19) (.tmp 23) t13 t15) w11 fun t16 =>
 Cnd t16 (
 R (.bool false) w11) (
 Bi .add t9 (.int .i64 1) fun t17 =>
 I5 [t17] w11 ∧ m6 [t17] w11 < m6 [t9] w8)) (
 R (.bool true) w8))
def S.slices_Equal_sl_api_Qid_api_Qid.an : Ann := (.seq .leaf (.seq (.seq .leaf (.cond (.seq .leaf .leaf) .leaf)) (.seq (.seq .leaf (.block (.loop (.seq .leaf (.seq (.cond .leaf .leaf) (.seq (.block (.seq .leaf (.seq (.draw [[],[],[0,1],[0,1,2],[],[],[4,5],[4,5,6],[0,1,2,3,4,5,6,7]] (.calm 0 (.calm 1 (.calm 2 (.calm 3 (.calm 4 (.calm 5 (.calm 6 (.calm 7 (.calm 8 .done)))))))))) (.cond (.seq .leaf .leaf) .leaf)))) .leaf))) [13] [4,5,14,15,16,17,18,19,20,21,22,23,24,25]))) (.seq .leaf .leaf))))
theorem S.slices_Equal_sl_api_Qid_api_Qid.eq (a0 a1 : Value) (w : World) (R : Value → World → Prop) : S.slices_Equal_sl_api_Qid_api_Qid a0 a1 w R = fnC PP 26 (Tryz.f41.body.getD .skip) S.slices_Equal_sl_api_Qid_api_Qid.an [.tmp 4] [a0, a1] w R := by kernel_rfl
theorem S.slices_Equal_sl_api_Qid_api_Qid.calls {a0 a1 : Value} {w : World} {R : Value → World → Prop} (h : S.slices_Equal_sl_api_Qid_api_Qid a0 a1 w R) : Ca PP Fn.slices_Equal_sl_api_Qid_api_Qid #[a0, a1] w R :=
  fnC_calls mixed (f := Fn.slices_Equal_sl_api_Qid_api_Qid) (an := S.slices_Equal_sl_api_Qid_api_Qid.an) Tryz.func41 rfl (by show _ ≤ _; exact Nat.le_of_ble_eq_true rfl) (S.slices_Equal_sl_api_Qid_api_Qid.eq a0 a1 w R ▸ h)
/-- (*acheron/styx.output).sized -/
def S.styx_output_sized (a0 a1 a2 : Value) (w : World) (R : Value → World → Prop) : Prop :=
 ∀ J1 : List Value → World → Prop, (∀ t4, ∀ w3 : World, (∀ u2 : Env,
 Cnd t4 (
 Nc a0 fun t5 =>
 Fa 2 t5 fun t6 =>
 St PP 1 t6 (.bool true) w3 fun w7 =>
 R (.tuple #[]) w7) (
 Nc a0 fun t8 =>
 Fa 0 t8 fun t9 =>
 Ca PP Fn.wire_Writer_Raw #[t9, a1] w3 fun t10 w11 =>
 R (.tuple #[]) w11)) → J1 [t4] w3) →
 Nc a0 fun t12 =>
 Fa 0 t12 fun t13 =>
 LnS a1 fun t14 =>
 Ca PP Fn.wire_Writer_Little #[t13, t14, a2] w fun t15 w16 =>
 Bi .neq t15 (.int .i64 0) fun t17 =>
 Gd t17 false (fun k18 => k18 a1 w16) w16 fun t19 w20 =>
 Gd t17 false (fun k21 => LnS t19 fun t24 =>
 k21 t24 w20) w20 fun t22 w23 =>
 Gd t17 false (fun k25 => Bi .gtr t22 (.int .i64 8192) fun t28 =>
 k25 t28 w23) w23 fun t26 w27 =>
 Pk t17 (.bool true) t26 fun t29 =>
 J1 [t29] w27
def S.styx_output_sized.an : Ann := (.seq (.join .leaf [18] [6,7,8,9,10,11,12,13,14,15,16,17] (.cond (.seq .leaf .leaf) .leaf)) .leaf)
theorem S.styx_output_sized.eq (a0 a1 a2 : Value) (w : World) (R : Value → World → Prop) : S.styx_output_sized a0 a1 a2 w R = fnC PP 27 (Tryz.f42.body.getD .skip) S.styx_output_sized.an [] [a0, a1, a2] w R := by kernel_rfl
theorem S.styx_output_sized.calls {a0 a1 a2 : Value} {w : World} {R : Value → World → Prop} (h : S.styx_output_sized a0 a1 a2 w R) : Ca PP Fn.styx_output_sized #[a0, a1, a2] w R :=
  fnC_calls mixed (f := Fn.styx_output_sized) (an := S.styx_output_sized.an) Tryz.func42 rfl (by show _ ≤ _; exact Nat.le_of_ble_eq_true rfl) (S.styx_output_sized.eq a0 a1 a2 w R ▸ h)
/-- acheron/acheronref31.dirBytes -/
def S.r31_dirBytes (a0 : Value) (w : World) (R : Value → World → Prop) : Prop :=
 Al Ty.api_Dir (a0 : Value).cells w fun t1 w2 =>
 Fa 6 t1 fun t3 =>
 Ld t3 w2 fun t4 =>
 LnS t4 fun t5 =>
 Bi .add (.int .i64 43) t5 fun t6 =>
 Fa 7 t1 fun t7 =>
 Ld t7 w2 fun t8 =>
 LnS t8 fun t9 =>
 Bi .add t6 t9 fun t10 =>
 Fa 8 t1 fun t11 =>
 Ld t11 w2 fun t12 =>
 LnS t12 fun t13 =>
 Bi .add t10 t13 fun t14 =>
 Fa 9 t1 fun t15 =>
 Ld t15 w2 fun t16 =>
 LnS t16 fun t17 =>
 Bi .add t14 t17 fun t18 =>
 R t18 w2
def S.r31_dirBytes.an : Ann := (.seq .leaf (.seq .leaf .leaf))
theorem S.r31_dirBytes.eq (a0 : Value) (w : World) (R : Value → World → Prop) : S.r31_dirBytes a0 w R = fnC PP 19 (Tryz.f43.body.getD .skip) S.r31_dirBytes.an [.tmp 2] [a0] w R := by kernel_rfl
theorem S.r31_dirBytes.calls {a0 : Value} {w : World} {R : Value → World → Prop} (h : S.r31_dirBytes a0 w R) : Ca PP Fn.r31_dirBytes #[a0] w R :=
  fnC_calls mixed (f := Fn.r31_dirBytes) (an := S.r31_dirBytes.an) Tryz.func43 rfl (by show _ ≤ _; exact Nat.le_of_ble_eq_true rfl) (S.r31_dirBytes.eq a0 w R ▸ h)
/-- acheron/acheronref31.qid -/
def S.r31_qid (a0 : Value) (w : World) (R : Value → World → Prop) : Prop :=
 Al Ty.api_Qid (a0 : Value).cells w fun t1 w2 =>
 Dr w2 fun w3 =>
 Fa 0 t1 fun t4 =>
 Ld t4 w3 fun t5 =>
 Fa 1 t1 fun t6 =>
 Ld t6 w3 fun t7 =>
 Fa 2 t1 fun t8 =>
 Ld t8 w3 fun t9 =>
 Ca PP Fn.r31_number #[t5, (.int .i64 1)] w3 fun t10 w11 =>
 (Ld t6 w11 fun t12 =>
 t12 = t7) ∧
 (Ld t8 w11 fun t13 =>
 t13 = t9) ∧
 Ca PP Fn.r31_number #[t7, (.int .i64 4)] w11 fun t14 w15 =>
 (Ld t8 w15 fun t16 =>
 t16 = t9) ∧
 Bi .add t10 t14 fun t17 =>
 Ca PP Fn.r31_number #[t9, (.int .i64 8)] w15 fun t18 w19 =>
 Bi .add t17 t18 fun t20 =>
 R t20 w19
def S.r31_qid.an : Ann := (.seq .leaf (.seq (.draw [[],[0],[0,1],[],[3],[0,1,2,3,4],[0,1,2,3,4,5],[],[7],[0,1,2,3,4,5,7,8],[0,1,2,3,4,5,6,7,8,9],[0,1,2,3,4,5,6,7,8,9,10]] (.calm 0 (.calm 1 (.calm 3 (.calm 4 (.calm 7 (.calm 8 (.eff1 2 [4,8] (.eff1 5 [8] (.calm 6 (.eff1 9 [] (.calm 10 (.calm 11 .done))))))))))))) .leaf))
theorem S.r31_qid.eq (a0 : Value) (w : World) (R : Value → World → Prop) : S.r31_qid a0 w R = fnC PP 14 (Tryz.f44.body.getD .skip) S.r31_qid.an [.tmp 2] [a0] w R := by kernel_rfl
theorem S.r31_qid.calls {a0 : Value} {w : World} {R : Value → World → Prop} (h : S.r31_qid a0 w R) : Ca PP Fn.r31_qid #[a0] w R :=
  fnC_calls mixed (f := Fn.r31_qid) (an := S.r31_qid.an) Tryz.func44 rfl (by show _ ≤ _; exact Nat.le_of_ble_eq_true rfl) (S.r31_qid.eq a0 w R ▸ h)
/-- acheron/acheronref31.number -/
def S.r31_number (a0 a1 : Value) (w : World) (R : Value → World → Prop) : Prop :=
 Ef PP (Instr.buildSlice Ty.sl_uint8 0 #[]) w fun t1 w2 =>
 Cv .u64 a0 fun t3 =>
 ∃ (I4 : List Value → World → Prop) (m5 : List Value → World → Nat), I4 [t1, t3, (.int .i64 0)] w2 ∧ ∀ t8 t9 t10, ∀ (u6 : Env) (w7 : World), I4 [t8, t9, t10] w7 →
 Bi .lss t10 a1 fun t11 =>
 Cnd t11 (
 Cv .u8 t9 fun t12 =>
 Ef PP (Instr.buildSlice Ty.sl_uint8 1 #[(0, t12)]) w7 fun t13 w14 =>
 Ef PP (Builtin.append_ #[Ty.sl_uint8, Ty.sl_uint8] Ty.sl_uint8 #[t8, t13]) w14 fun t15 w16 =>
 Bi .shr t9 (.int .u64 8) fun t17 =>
 Bi .add t10 (.int .i64 1) fun t18 =>
 I4 [t15, t17, t18] w16 ∧ m5 [t15, t17, t18] w16 < m5 [t8, t9, t10] w7) (
 Rd PP (convert Ty.sl_uint8 Ty.string t8) w7 fun t19 =>
 R t19 w7)
def S.r31_number.an : Ann := (.seq .leaf (.seq .leaf (.seq .leaf (.seq (.seq .leaf (.block (.loop (.seq (.seq .leaf (.cond .leaf .leaf)) (.seq (.block (.seq .leaf .leaf)) .leaf)) [5,6,7] [11,12,13,14,15,16,17,18,19,20,21,22]))) (.seq .leaf .leaf)))))
theorem S.r31_number.eq (a0 a1 : Value) (w : World) (R : Value → World → Prop) : S.r31_number a0 a1 w R = fnC PP 25 (Tryz.f45.body.getD .skip) S.r31_number.an [.tmp 4] [a0, a1] w R := by kernel_rfl
theorem S.r31_number.calls {a0 a1 : Value} {w : World} {R : Value → World → Prop} (h : S.r31_number a0 a1 w R) : Ca PP Fn.r31_number #[a0, a1] w R :=
  fnC_calls mixed (f := Fn.r31_number) (an := S.r31_number.an) Tryz.func45 rfl (by show _ ≤ _; exact Nat.le_of_ble_eq_true rfl) (S.r31_number.eq a0 a1 w R ▸ h)
/-- acheron/acheronref31.word -/
def S.r31_word (a0 : Value) (w : World) (R : Value → World → Prop) : Prop :=
 LnS a0 fun t1 =>
 Ca PP Fn.r31_number #[t1, (.int .i64 2)] w fun t2 w3 =>
 Bi .add t2 a0 fun t4 =>
 R t4 w3
def S.r31_word.an : Ann := (.seq .leaf (.seq .leaf .leaf))
theorem S.r31_word.eq (a0 : Value) (w : World) (R : Value → World → Prop) : S.r31_word a0 w R = fnC PP 8 (Tryz.f46.body.getD .skip) S.r31_word.an [.tmp 2] [a0] w R := by kernel_rfl
theorem S.r31_word.calls {a0 : Value} {w : World} {R : Value → World → Prop} (h : S.r31_word a0 w R) : Ca PP Fn.r31_word #[a0] w R :=
  fnC_calls mixed (f := Fn.r31_word) (an := S.r31_word.an) Tryz.func46 rfl (by show _ ≤ _; exact Nat.le_of_ble_eq_true rfl) (S.r31_word.eq a0 w R ▸ h)
/-- acheron/wire.reading[int64] -/
def S.wire_reading_int64 (a0 a1 : Value) (w : World) (R : Value → World → Prop) : Prop :=
 Rd PP (eqS .eql Ty.p_wire_Reader (.tmp 10) (.const (.pointer none)) a0 (.pointer none)) w fun t1 =>
 Cnd t1 (
 R (.tuple #[(.int .i64 0), (.int .i64 6)]) w) (
 Nc a0 fun t2 =>
 Fa 2 t2 fun t3 =>
 Ld t3 w fun t4 =>
 Bi .neq t4 (.int .i64 0) fun t5 =>
 Cnd t5 (
 Dr w fun w6 =>
 Nc a0 fun t7 =>
 Fa 2 t7 fun t8 =>
 Ld t8 w6 fun t9 =>
 R (.tuple #[(.int .i64 0), t9]) w6) (
 Nc a0 fun t10 =>
 Fa 1 t10 fun t11 =>
 Ld t11 w fun t12 =>
 CaV PP a1 #[] w fun t13 w14 =>
 Ex t13 0 fun t15 =>
 Ex t13 1 fun t16 =>
 Bi .neq t16 (.int .i64 0) fun t17 =>
 Cnd t17 (
 Nc a0 fun t18 =>
 Fa 1 t18 fun t19 =>
 St PP 1 t19 t12 w14 fun w20 =>
 Nc a0 fun t21 =>
 Fa 2 t21 fun t22 =>
 St PP 1 t22 t16 w20 fun w23 =>
 R (.tuple #[(.int .i64 0), t16]) w23) (
 R (.tuple #[t15, (.int .i64 0)]) w14)))
def S.wire_reading_int64.an : Ann := (.seq .leaf (.seq .leaf (.seq (.seq .leaf (.cond (.seq .leaf .leaf) .leaf)) (.seq (.seq .leaf (.cond (.seq (.draw [[],[],[1],[1,2],[1,2,3],[0],[0,1,2,3,4,5]] (.calm 0 (.calm 1 (.calm 2 (.calm 3 (.calm 4 (.calm 5 (.calm 6 .done)))))))) .leaf) .leaf)) (.seq .leaf (.seq .leaf (.seq (.seq .leaf (.cond (.seq .leaf (.seq .leaf .leaf)) .leaf)) (.seq .leaf .leaf))))))))
theorem S.wire_reading_int64.eq (a0 a1 : Value) (w : World) (R : Value → World → Prop) : S.wire_reading_int64 a0 a1 w R = fnC PP 45 (Tryz.f47.body.getD .skip) S.wire_reading_int64.an [.tmp 4, .tmp 5] [a0, a1] w R := by kernel_rfl
theorem S.wire_reading_int64.calls {a0 a1 : Value} {w : World} {R : Value → World → Prop} (h : S.wire_reading_int64 a0 a1 w R) : Ca PP Fn.wire_reading_int64 #[a0, a1] w R :=
  fnC_calls mixed (f := Fn.wire_reading_int64) (an := S.wire_reading_int64.an) Tryz.func47 rfl (by show _ ≤ _; exact Nat.le_of_ble_eq_true rfl) (S.wire_reading_int64.eq a0 a1 w R ▸ h)
/-- (*acheron/wire.Reader).Little$1 -/
def S.wire_Reader_Little_1 (a0 a1 : Value) (w : World) (R : Value → World → Prop) : Prop :=
 Ld a0 w fun t1 =>
 Ld a1 w fun t2 =>
 Ca PP Fn.wire_Reader_little #[t1, t2] w fun t3 w4 =>
 Ex t3 0 fun t5 =>
 Ex t3 1 fun t6 =>
 ∀ J7 : List Value → World → Prop, (∀ t10, ∀ w9 : World, (∀ u8 : Env,
 Cnd t10 (
 R (.tuple #[(.int .i64 0), (.int .i64 11)]) w9) (
 Cv .i64 t5 fun t11 =>
 R (.tuple #[t11, t6]) w9)) → J7 [t10] w9) →
 Bi .eql t6 (.int .i64 0) fun t12 =>
 Gd t12 true (fun k13 => k13 t5 w4) w4 fun t14 w15 =>
 Gd t12 true (fun k16 => Cv .i64 t14 fun t19 =>
 k16 t19 w15) w15 fun t17 w18 =>
 Gd t12 true (fun k20 => Bi .lss t17 (.int .i64 0) fun t23 =>
 k20 t23 w18) w18 fun t21 w22 =>
 Pk t12 t21 (.bool false) fun t24 =>
 J7 [t24] w22
def S.wire_Reader_Little_1.an : Ann := (.seq .leaf (.seq .leaf (.seq (.join .leaf [18] [12,13,14,15,16,17] (.cond (.seq .leaf .leaf) .leaf)) (.seq .leaf .leaf))))
theorem S.wire_Reader_Little_1.eq (a0 a1 : Value) (w : World) (R : Value → World → Prop) : S.wire_Reader_Little_1 a0 a1 w R = fnC PP 22 (Tryz.f48.body.getD .skip) S.wire_Reader_Little_1.an [.tmp 2, .tmp 3] [a0, a1] w R := by kernel_rfl
theorem S.wire_Reader_Little_1.calls {a0 a1 : Value} {w : World} {R : Value → World → Prop} (h : S.wire_Reader_Little_1 a0 a1 w R) : Ca PP Fn.wire_Reader_Little_1 #[a0, a1] w R :=
  fnC_calls mixed (f := Fn.wire_Reader_Little_1) (an := S.wire_Reader_Little_1.an) Tryz.func48 rfl (by show _ ≤ _; exact Nat.le_of_ble_eq_true rfl) (S.wire_Reader_Little_1.eq a0 a1 w R ▸ h)
/-- (*acheron/wire.Reader).little -/
def S.wire_Reader_little (a0 a1 : Value) (w : World) (R : Value → World → Prop) : Prop :=
 Ca PP Fn.wire_width #[a1] w fun t1 w2 =>
 Un .not t1 fun t3 =>
 Cnd t3 (
 R (.tuple #[(.int .u64 0), (.int .i64 1)]) w2) (
 Ca PP Fn.wire_Reader_take #[a0, a1] w2 fun t4 w5 =>
 Ex t4 0 fun t6 =>
 Ex t4 1 fun t7 =>
 LnS t6 fun t8 =>
 ∃ (I9 : List Value → World → Prop) (m10 : List Value → World → Nat), I9 [(.int .u64 0), (.int .i64 0)] w5 ∧ ∀ t13 t14, ∀ (u11 : Env) (w12 : World), I9 [t13, t14] w12 →
 Bi .lss t14 t8 fun t15 =>
 Cnd t15 (
 IxS t6 t14 fun t16 =>
 Cv .u64 t16 fun t17 =>
 Bi .mul (.int .i64 8) t14 fun t18 =>
 Bi .shl t17 t18 fun t19 =>
 Bi .or t13 t19 fun t20 =>
 Bi .add t14 (.int .i64 1) fun t21 =>
 I9 [t20, t21] w12 ∧ m10 [t20, t21] w12 < m10 [t13, t14] w12) (
 R (.tuple #[t13, t7]) w12))
def S.wire_Reader_little.an : Ann := (.seq .leaf (.seq (.seq .leaf (.cond (.seq .leaf .leaf) .leaf)) (.seq .leaf (.seq .leaf (.seq (.seq .leaf (.block (.loop (.seq .leaf (.seq (.cond .leaf .leaf) (.seq (.block (.seq .leaf .leaf)) .leaf))) [8,21] [9,22,23,24,25,26,27,28,29,30,31,32,33]))) (.seq .leaf .leaf))))))
theorem S.wire_Reader_little.eq (a0 a1 : Value) (w : World) (R : Value → World → Prop) : S.wire_Reader_little a0 a1 w R = fnC PP 36 (Tryz.f49.body.getD .skip) S.wire_Reader_little.an [.tmp 4, .tmp 5] [a0, a1] w R := by kernel_rfl
theorem S.wire_Reader_little.calls {a0 a1 : Value} {w : World} {R : Value → World → Prop} (h : S.wire_Reader_little a0 a1 w R) : Ca PP Fn.wire_Reader_little #[a0, a1] w R :=
  fnC_calls mixed (f := Fn.wire_Reader_little) (an := S.wire_Reader_little.an) Tryz.func49 rfl (by show _ ≤ _; exact Nat.le_of_ble_eq_true rfl) (S.wire_Reader_little.eq a0 a1 w R ▸ h)
/-- acheron/styx.qid -/
def S.styx_qid (a0 a1 : Value) (w : World) (R : Value → World → Prop) : Prop :=
 Dr w fun w1 =>
 Nc a1 fun t2 =>
 Fa 0 t2 fun t3 =>
 NcF PP (.func (.method "acheron/styx.num") #[a0] #[]) fun t4 =>
 Iv PP a0 "acheron/styx.num" #[t3, (.int .i64 1)] w1 fun t5 w6 =>
 Dr w6 fun w7 =>
 Nc a1 fun t8 =>
 Fa 1 t8 fun t9 =>
 NcF PP (.func (.method "acheron/styx.num") #[a0] #[]) fun t10 =>
 Iv PP a0 "acheron/styx.num" #[t9, (.int .i64 4)] w7 fun t11 w12 =>
 Dr w12 fun w13 =>
 Nc a1 fun t14 =>
 Fa 2 t14 fun t15 =>
 NcF PP (.func (.method "acheron/styx.long") #[a0] #[]) fun t16 =>
 Iv PP a0 "acheron/styx.long" #[t15] w13 fun t17 w18 =>
 R (.tuple #[]) w18
def S.styx_qid.an : Ann := (.seq (.draw [[],[],[1],[1,2],[0],[0,4],[0,4,5],[0,1,2,3,4,5,6]] (.calm 0 (.calm 1 (.calm 2 (.calm 3 (.calm 4 (.calm 5 (.calm 6 (.eff1 7 [] .done))))))))) (.seq (.draw [[],[],[1],[1,2],[0],[0,4],[0,4,5],[0,1,2,3,4,5,6]] (.calm 0 (.calm 1 (.calm 2 (.calm 3 (.calm 4 (.calm 5 (.calm 6 (.eff1 7 [] .done))))))))) (.draw [[],[],[1],[1,2],[0],[0,4],[0,4,5],[0,1,2,3,4,5,6]] (.calm 0 (.calm 1 (.calm 2 (.calm 3 (.calm 4 (.calm 5 (.calm 6 (.eff1 7 [] .done)))))))))))
theorem S.styx_qid.eq (a0 a1 : Value) (w : World) (R : Value → World → Prop) : S.styx_qid a0 a1 w R = fnC PP 28 (Tryz.f50.body.getD .skip) S.styx_qid.an [] [a0, a1] w R := by kernel_rfl
theorem S.styx_qid.calls {a0 a1 : Value} {w : World} {R : Value → World → Prop} (h : S.styx_qid a0 a1 w R) : Ca PP Fn.styx_qid #[a0, a1] w R :=
  fnC_calls mixed (f := Fn.styx_qid) (an := S.styx_qid.an) Tryz.func50 rfl (by show _ ≤ _; exact Nat.le_of_ble_eq_true rfl) (S.styx_qid.eq a0 a1 w R ▸ h)
/-- (*acheron/wire.Reader).End -/
def S.wire_Reader_End (a0 : Value) (w : World) (R : Value → World → Prop) : Prop :=
 Al Ty.p_wire_Reader (a0 : Value).cells w fun t1 w2 =>
 Ld t1 w2 fun t3 =>
 Ca PP Fn.wire_reading_bool #[t3, (.func (.func Fn.wire_Reader_End_1) #[] #[t1])] w2 fun t4 w5 =>
 Ex t4 0 fun t6 =>
 Ex t4 1 fun t7 =>
 R t7 w5
def S.wire_Reader_End.an : Ann := (.seq .leaf (.seq .leaf (.seq .leaf .leaf)))
theorem S.wire_Reader_End.eq (a0 : Value) (w : World) (R : Value → World → Prop) : S.wire_Reader_End a0 w R = fnC PP 12 (Tryz.f51.body.getD .skip) S.wire_Reader_End.an [.tmp 2] [a0] w R := by kernel_rfl
theorem S.wire_Reader_End.calls {a0 : Value} {w : World} {R : Value → World → Prop} (h : S.wire_Reader_End a0 w R) : Ca PP Fn.wire_Reader_End #[a0] w R :=
  fnC_calls mixed (f := Fn.wire_Reader_End) (an := S.wire_Reader_End.an) Tryz.func51 rfl (by show _ ≤ _; exact Nat.le_of_ble_eq_true rfl) (S.wire_Reader_End.eq a0 w R ▸ h)
/-- acheron/acheronref31.readNumber -/
def S.r31_readNumber (a0 a1 : Value) (w : World) (R : Value → World → Prop) : Prop :=
 Al Ty.r31_reader (a0 : Value).cells w fun t1 w2 =>
 Al Ty.r31_reader #[.string ⟨#[]⟩, .int .i64 0, .bool false] w2 fun t3 w4 =>
 LdA PP 3 t1 w4 fun t5 =>
 Ca PP Fn.r31_take #[t5, a1] w4 fun t6 w7 =>
 Ex t6 0 fun t8 =>
 Ex t6 1 fun t9 =>
 Al Ty.r31_reader #[.string ⟨#[]⟩, .int .i64 0, .bool false] w7 fun t10 w11 =>
 St PP 3 t10 t9 w11 fun w12 =>
 Dr w12 fun w13 =>
 LdA PP 3 t10 w13 fun t14 =>
 Ca PP Fn.r31_value #[t8] w13 fun t15 w16 =>
 (LdA PP 3 t10 w16 fun t17 =>
 t17 = t14) ∧
 Cv .i64 t15 fun t18 =>
 St PP 3 t3 t14 w16 fun w19 =>
 LdA PP 3 t3 w19 fun t20 =>
 R (.tuple #[t18, t20]) w19
def S.r31_readNumber.an : Ann := (.seq .leaf (.seq .leaf (.seq (.draw [[],[0],[0,1],[],[0,1,2],[0,1,2,3,4]] (.calm 0 (.calm 3 (.eff1 1 [3] (.calm 2 (.calm 4 (.eff1 5 [] .done))))))) .leaf)))
theorem S.r31_readNumber.eq (a0 a1 : Value) (w : World) (R : Value → World → Prop) : S.r31_readNumber a0 a1 w R = fnC PP 18 (Tryz.f52.body.getD .skip) S.r31_readNumber.an [.tmp 4, .cell 5 69] [a0, a1] w R := by kernel_rfl
theorem S.r31_readNumber.calls {a0 a1 : Value} {w : World} {R : Value → World → Prop} (h : S.r31_readNumber a0 a1 w R) : Ca PP Fn.r31_readNumber #[a0, a1] w R :=
  fnC_calls mixed (f := Fn.r31_readNumber) (an := S.r31_readNumber.an) Tryz.func52 rfl (by show _ ≤ _; exact Nat.le_of_ble_eq_true rfl) (S.r31_readNumber.eq a0 a1 w R ▸ h)
/-- acheron/acheronref31.take -/
def S.r31_take (a0 a1 : Value) (w : World) (R : Value → World → Prop) : Prop :=
 Al Ty.r31_reader (a0 : Value).cells w fun t1 w2 =>
 Al Ty.r31_reader #[.string ⟨#[]⟩, .int .i64 0, .bool false] w2 fun t3 w4 =>
 ∀ J5 : List Value → World → Prop, (∀ t8, ∀ w7 : World, (∀ u6 : Env,
 Cnd t8 (
 Fa 2 t1 fun t9 =>
 St PP 1 t9 (.bool true) w7 fun w10 =>
 Dr w10 fun w11 =>
 LdA PP 3 t1 w11 fun t12 =>
 St PP 3 t3 t12 w11 fun w13 =>
 LdA PP 3 t3 w13 fun t14 =>
 R (.tuple #[(.string ⟨#[]⟩), t14]) w13) (
 Fa 0 t1 fun t15 =>
 Ld t15 w7 fun t16 =>
 Fa 1 t1 fun t17 =>
 Ld t17 w7 fun t18 =>
 Fa 1 t1 fun t19 =>
 Ld t19 w7 fun t20 =>
 Bi .add t20 a1 fun t21 =>
 SlS t16 (some t18) (some t21) fun t22 =>
 Fa 1 t1 fun t23 =>
 Ld t23 w7 fun t24 =>
 Bi .add t24 a1 fun t25 =>
 Fa 1 t1 fun t26 =>
 St PP 1 t26 t25 w7 fun w27 =>
 Dr w27 fun w28 =>
 LdA PP 3 t1 w28 fun t29 =>
 St PP 3 t3 t29 w28 fun w30 =>
 LdA PP 3 t3 w30 fun t31 =>
 R (.tuple #[t22, t31]) w30)) → J5 [t8] w7) →
 Fa 2 t1 fun t32 =>
 Ld t32 w4 fun t33 =>
 Gd t33 false (fun k34 => k34 a1 w4) w4 fun t35 w36 =>
 Gd t33 false (fun k37 => Fa 0 t1 fun t40 =>
 k37 t40 w36) w36 fun t38 w39 =>
 Gd t33 false (fun k41 => Ld t38 w39 fun t44 =>
 k41 t44 w39) w39 fun t42 w43 =>
 Gd t33 false (fun k45 => LnS t42 fun t48 =>
 k45 t48 w43) w43 fun t46 w47 =>
 Gd t33 false (fun k49 => Fa 1 t1 fun t52 =>
 k49 t52 w47) w47 fun t50 w51 =>
 Gd t33 false (fun k53 => Ld t50 w51 fun t56 =>
 k53 t56 w51) w51 fun t54 w55 =>
 Gd t33 false (fun k57 => Bi .sub t46 t54 fun t60 =>
 k57 t60 w55) w55 fun t58 w59 =>
 Gd t33 false (fun k61 => Bi .gtr t35 t58 fun t64 =>
 k61 t64 w59) w59 fun t62 w63 =>
 Pk t33 (.bool true) t62 fun t65 =>
 J5 [t65] w63
def S.r31_take.an : Ann := (.seq .leaf (.seq (.join .leaf [18] [7,8,9,10,11,12,13,14,15,16,17] (.cond (.seq .leaf (.seq (.draw [[],[],[0,1]] (.calm 0 (.calm 1 (.eff1 2 [] .done)))) .leaf)) .leaf)) (.seq .leaf (.seq .leaf (.seq (.draw [[],[],[0],[0,1,2]] (.calm 0 (.calm 1 (.calm 2 (.eff1 3 [] .done))))) .leaf)))))
theorem S.r31_take.eq (a0 a1 : Value) (w : World) (R : Value → World → Prop) : S.r31_take a0 a1 w R = fnC PP 37 (Tryz.f53.body.getD .skip) S.r31_take.an [.tmp 4, .cell 5 69] [a0, a1] w R := by kernel_rfl
theorem S.r31_take.calls {a0 a1 : Value} {w : World} {R : Value → World → Prop} (h : S.r31_take a0 a1 w R) : Ca PP Fn.r31_take #[a0, a1] w R :=
  fnC_calls mixed (f := Fn.r31_take) (an := S.r31_take.an) Tryz.func53 rfl (by show _ ≤ _; exact Nat.le_of_ble_eq_true rfl) (S.r31_take.eq a0 a1 w R ▸ h)
/-- acheron/acheronref31.readQid -/
def S.r31_readQid (a0 : Value) (w : World) (R : Value → World → Prop) : Prop :=
 Al Ty.r31_reader (a0 : Value).cells w fun t1 w2 =>
 Al Ty.api_Qid #[.int .i64 0, .int .i64 0, .int .i64 0] w2 fun t3 w4 =>
 Al Ty.r31_reader #[.string ⟨#[]⟩, .int .i64 0, .bool false] w4 fun t5 w6 =>
 Bd #[.int .i64 0, .int .i64 0, .int .i64 0] [(0, 1), (1, 1), (2, 1)] [] fun t7 =>
 Al Ty.api_Qid #[.int .i64 0, .int .i64 0, .int .i64 0] w6 fun t8 w9 =>
 St PP 3 t8 t7 w9 fun w10 =>
 LdA PP 3 t1 w10 fun t11 =>
 Ca PP Fn.r31_readNumber #[t11, (.int .i64 1)] w10 fun t12 w13 =>
 Ex t12 0 fun t14 =>
 Ex t12 1 fun t15 =>
 Fa 0 t8 fun t16 =>
 St PP 1 t16 t14 w13 fun w17 =>
 St PP 3 t1 t15 w17 fun w18 =>
 LdA PP 3 t1 w18 fun t19 =>
 Ca PP Fn.r31_readNumber #[t19, (.int .i64 4)] w18 fun t20 w21 =>
 Ex t20 0 fun t22 =>
 Ex t20 1 fun t23 =>
 Fa 1 t8 fun t24 =>
 St PP 1 t24 t22 w21 fun w25 =>
 St PP 3 t1 t23 w25 fun w26 =>
 LdA PP 3 t1 w26 fun t27 =>
 Ca PP Fn.r31_readLong #[t27] w26 fun t28 w29 =>
 Ex t28 0 fun t30 =>
 Ex t28 1 fun t31 =>
 Fa 2 t8 fun t32 =>
 St PP 1 t32 t30 w29 fun w33 =>
 St PP 3 t1 t31 w33 fun w34 =>
 Dr w34 fun w35 =>
 LdA PP 3 t8 w35 fun t36 =>
 LdA PP 3 t1 w35 fun t37 =>
 St PP 3 t3 t36 w35 fun w38 =>
 (LdA PP 3 t1 w38 fun t39 =>
 t39 = t37) ∧
 St PP 3 t5 t37 w38 fun w40 =>
 LdA PP 3 t3 w40 fun t41 =>
 LdA PP 3 t5 w40 fun t42 =>
 R (.tuple #[t41, t42]) w40
def S.r31_readQid.an : Ann := (.seq .leaf (.seq .leaf (.seq .leaf (.seq .leaf (.seq .leaf (.seq (.draw [[],[],[0],[0,1,2]] (.calm 0 (.calm 1 (.eff1 2 [1] (.eff1 3 [] .done))))) .leaf))))))
theorem S.r31_readQid.eq (a0 : Value) (w : World) (R : Value → World → Prop) : S.r31_readQid a0 w R = fnC PP 26 (Tryz.f54.body.getD .skip) S.r31_readQid.an [.cell 2 23, .cell 3 69] [a0] w R := by kernel_rfl
theorem S.r31_readQid.calls {a0 : Value} {w : World} {R : Value → World → Prop} (h : S.r31_readQid a0 w R) : Ca PP Fn.r31_readQid #[a0] w R :=
  fnC_calls mixed (f := Fn.r31_readQid) (an := S.r31_readQid.an) Tryz.func54 rfl (by show _ ≤ _; exact Nat.le_of_ble_eq_true rfl) (S.r31_readQid.eq a0 w R ▸ h)
/-- acheron/acheronref31.readLong -/
def S.r31_readLong (a0 : Value) (w : World) (R : Value → World → Prop) : Prop :=
 Al Ty.r31_reader (a0 : Value).cells w fun t1 w2 =>
 Al Ty.r31_reader #[.string ⟨#[]⟩, .int .i64 0, .bool false] w2 fun t3 w4 =>
 LdA PP 3 t1 w4 fun t5 =>
 Ca PP Fn.r31_take #[t5, (.int .i64 8)] w4 fun t6 w7 =>
 Ex t6 0 fun t8 =>
 Ex t6 1 fun t9 =>
 Al Ty.r31_reader #[.string ⟨#[]⟩, .int .i64 0, .bool false] w7 fun t10 w11 =>
 St PP 3 t10 t9 w11 fun w12 =>
 Dr w12 fun w13 =>
 LdA PP 3 t10 w13 fun t14 =>
 Ca PP Fn.r31_value #[t8] w13 fun t15 w16 =>
 (LdA PP 3 t10 w16 fun t17 =>
 t17 = t14) ∧
 Cv .i64 t15 fun t18 =>
 St PP 3 t3 t14 w16 fun w19 =>
 LdA PP 3 t3 w19 fun t20 =>
 R (.tuple #[t18, t20]) w19
def S.r31_readLong.an : Ann := (.seq .leaf (.seq .leaf (.seq (.draw [[],[0],[0,1],[],[0,1,2],[0,1,2,3,4]] (.calm 0 (.calm 3 (.eff1 1 [3] (.calm 2 (.calm 4 (.eff1 5 [] .done))))))) .leaf)))
theorem S.r31_readLong.eq (a0 : Value) (w : World) (R : Value → World → Prop) : S.r31_readLong a0 w R = fnC PP 15 (Tryz.f55.body.getD .skip) S.r31_readLong.an [.tmp 2, .cell 3 69] [a0] w R := by kernel_rfl
theorem S.r31_readLong.calls {a0 : Value} {w : World} {R : Value → World → Prop} (h : S.r31_readLong a0 w R) : Ca PP Fn.r31_readLong #[a0] w R :=
  fnC_calls mixed (f := Fn.r31_readLong) (an := S.r31_readLong.an) Tryz.func55 rfl (by show _ ≤ _; exact Nat.le_of_ble_eq_true rfl) (S.r31_readLong.eq a0 w R ▸ h)
/-- acheron/acheronref31.readWord -/
def S.r31_readWord (a0 : Value) (w : World) (R : Value → World → Prop) : Prop :=
 Al Ty.r31_reader (a0 : Value).cells w fun t1 w2 =>
 Al Ty.r31_reader #[.string ⟨#[]⟩, .int .i64 0, .bool false] w2 fun t3 w4 =>
 LdA PP 3 t1 w4 fun t5 =>
 Ca PP Fn.r31_readNumber #[t5, (.int .i64 2)] w4 fun t6 w7 =>
 Ex t6 0 fun t8 =>
 Ex t6 1 fun t9 =>
 Al Ty.r31_reader #[.string ⟨#[]⟩, .int .i64 0, .bool false] w7 fun t10 w11 =>
 St PP 3 t10 t9 w11 fun w12 =>
 LdA PP 3 t10 w12 fun t13 =>
 Ca PP Fn.r31_take #[t13, t8] w12 fun t14 w15 =>
 Ex t14 0 fun t16 =>
 Ex t14 1 fun t17 =>
 St PP 3 t3 t17 w15 fun w18 =>
 LdA PP 3 t3 w18 fun t19 =>
 R (.tuple #[t16, t19]) w18
def S.r31_readWord.an : Ann := (.seq .leaf (.seq .leaf (.seq .leaf .leaf)))
theorem S.r31_readWord.eq (a0 : Value) (w : World) (R : Value → World → Prop) : S.r31_readWord a0 w R = fnC PP 16 (Tryz.f56.body.getD .skip) S.r31_readWord.an [.tmp 2, .cell 3 69] [a0] w R := by kernel_rfl
theorem S.r31_readWord.calls {a0 : Value} {w : World} {R : Value → World → Prop} (h : S.r31_readWord a0 w R) : Ca PP Fn.r31_readWord #[a0] w R :=
  fnC_calls mixed (f := Fn.r31_readWord) (an := S.r31_readWord.an) Tryz.func56 rfl (by show _ ≤ _; exact Nat.le_of_ble_eq_true rfl) (S.r31_readWord.eq a0 w R ▸ h)
/-- acheron/acheronref31.rightQid -/
def S.r31_rightQid (a0 : Value) (w : World) (R : Value → World → Prop) : Prop :=
 Al Ty.api_Qid (a0 : Value).cells w fun t1 w2 =>
 ∀ J3 : List Value → World → Prop, (∀ t6, ∀ w5 : World, (∀ u4 : Env,
 R t6 w5) → J3 [t6] w5) →
 Fa 0 t1 fun t7 =>
 Ld t7 w2 fun t8 =>
 Ca PP Fn.r31_in #[t8, (.int .i64 1)] w2 fun t9 w10 =>
 Gd t9 true (fun k11 => Fa 1 t1 fun t14 =>
 k11 t14 w10) w10 fun t12 w13 =>
 Gd t9 true (fun k15 => Ld t12 w13 fun t18 =>
 k15 t18 w13) w13 fun t16 w17 =>
 Gd t9 true (fun k19 => Ca PP Fn.r31_in #[t16, (.int .i64 4)] w17 fun t22 w23 =>
 k19 t22 w23) w17 fun t20 w21 =>
 Pk t9 t20 (.bool false) fun t24 =>
 Gd t24 true (fun k25 => Fa 2 t1 fun t28 =>
 k25 t28 w21) w21 fun t26 w27 =>
 Gd t24 true (fun k29 => Ld t26 w27 fun t32 =>
 k29 t32 w27) w27 fun t30 w31 =>
 Gd t24 true (fun k33 => Bi .geq t30 (.int .i64 0) fun t36 =>
 k33 t36 w31) w31 fun t34 w35 =>
 Pk t24 t34 (.bool false) fun t37 =>
 J3 [t37] w35
def S.r31_rightQid.an : Ann := (.seq .leaf (.join .leaf [2] [3,4,5,6,7,8,9,10,11,12,13,14,15] .leaf))
theorem S.r31_rightQid.eq (a0 : Value) (w : World) (R : Value → World → Prop) : S.r31_rightQid a0 w R = fnC PP 16 (Tryz.f57.body.getD .skip) S.r31_rightQid.an [.tmp 2] [a0] w R := by kernel_rfl
theorem S.r31_rightQid.calls {a0 : Value} {w : World} {R : Value → World → Prop} (h : S.r31_rightQid a0 w R) : Ca PP Fn.r31_rightQid #[a0] w R :=
  fnC_calls mixed (f := Fn.r31_rightQid) (an := S.r31_rightQid.an) Tryz.func57 rfl (by show _ ≤ _; exact Nat.le_of_ble_eq_true rfl) (S.r31_rightQid.eq a0 w R ▸ h)
/-- acheron/styx.Word -/
def S.styx_Word (a0 : Value) (w : World) (R : Value → World → Prop) : Prop :=
 Bi .eql a0 (.int .i64 107) fun t1 =>
 Cnd t1 (
 R (.string ⟨#[82, 101, 114, 114, 111, 114]⟩) w) (
 Ca PP Fn.styx_Request #[a0] w fun t2 w3 =>
 Cnd t2 (
 Ld (.pointer (some ⟨0, 0, none⟩)) w3 fun t4 =>
 Rd PP (Instr.lookup Ty.map_int_string t4 a0 false) w3 fun t5 =>
 R t5 w3) (
 Bi .sub a0 (.int .i64 1) fun t6 =>
 Ca PP Fn.styx_Request #[t6] w3 fun t7 w8 =>
 Cnd t7 (
 Ld (.pointer (some ⟨0, 0, none⟩)) w8 fun t9 =>
 Bi .sub a0 (.int .i64 1) fun t10 =>
 Rd PP (Instr.lookup Ty.map_int_string t9 t10 false) w8 fun t11 =>
 Bi .add (.string ⟨#[82]⟩) t11 fun t12 =>
 R t12 w8) (
 R (.string ⟨#[]⟩) w8)))
def S.styx_Word.an : Ann := (.seq .leaf (.seq (.block (.seq .leaf (.cond (.seq .leaf .leaf) (.seq .leaf (.cond (.seq .leaf .leaf) (.seq .leaf (.cond (.seq .leaf .leaf) .leaf))))))) (.seq .leaf .leaf)))
theorem S.styx_Word.eq (a0 : Value) (w : World) (R : Value → World → Prop) : S.styx_Word a0 w R = fnC PP 21 (Tryz.f58.body.getD .skip) S.styx_Word.an [.tmp 2] [a0] w R := by kernel_rfl
theorem S.styx_Word.calls {a0 : Value} {w : World} {R : Value → World → Prop} (h : S.styx_Word a0 w R) : Ca PP Fn.styx_Word #[a0] w R :=
  fnC_calls mixed (f := Fn.styx_Word) (an := S.styx_Word.an) Tryz.func58 rfl (by show _ ≤ _; exact Nat.le_of_ble_eq_true rfl) (S.styx_Word.eq a0 w R ▸ h)
/-- acheron/styx.single -/
def S.styx_single (a0 : Value) (w : World) (R : Value → World → Prop) : Prop :=
 ∀ J1 : List Value → World → Prop, (∀ t4, ∀ w3 : World, (∀ u2 : Env,
 Cnd t4 (
 R (.bool true) w3) (
 R (.bool false) w3)) → J1 [t4] w3) →
 Bi .eql a0 (.int .i64 103) fun t5 =>
 Cnd t5 (
 J1 [t5] w) (
 Bi .eql a0 (.int .i64 105) fun t6 =>
 Cnd t6 (
 J1 [t6] w) (
 Bi .eql a0 (.int .i64 113) fun t7 =>
 Cnd t7 (
 J1 [t7] w) (
 Bi .eql a0 (.int .i64 115) fun t8 =>
 J1 [t8] w)))
def S.styx_single.an : Ann := (.seq .leaf (.seq (.seq .leaf (.block (.join (.seq .leaf (.cond .leaf (.seq .leaf (.cond .leaf (.seq .leaf (.cond .leaf .leaf)))))) [4] [5,6,7,8] (.cond (.seq .leaf .leaf) .leaf)))) (.seq .leaf .leaf)))
theorem S.styx_single.eq (a0 : Value) (w : World) (R : Value → World → Prop) : S.styx_single a0 w R = fnC PP 9 (Tryz.f59.body.getD .skip) S.styx_single.an [.tmp 2] [a0] w R := by kernel_rfl
theorem S.styx_single.calls {a0 : Value} {w : World} {R : Value → World → Prop} (h : S.styx_single a0 w R) : Ca PP Fn.styx_single #[a0] w R :=
  fnC_calls mixed (f := Fn.styx_single) (an := S.styx_single.an) Tryz.func59 rfl (by show _ ≤ _; exact Nat.le_of_ble_eq_true rfl) (S.styx_single.eq a0 w R ▸ h)
/-- acheron/wire.width -/
def S.wire_width (a0 : Value) (w : World) (R : Value → World → Prop) : Prop :=
 Ef PP (Instr.buildSlice Ty.sl_int 4 #[(0, (.int .i64 1)), (1, (.int .i64 2)), (2, (.int .i64 4)), (3, (.int .i64 8))]) w fun t1 w2 =>
 Ca PP Fn.slices_Contains_sl_int_int #[t1, a0] w2 fun t3 w4 =>
 R t3 w4
def S.wire_width.an : Ann := (.seq .leaf (.seq .leaf .leaf))
theorem S.wire_width.eq (a0 : Value) (w : World) (R : Value → World → Prop) : S.wire_width a0 w R = fnC PP 6 (Tryz.f60.body.getD .skip) S.wire_width.an [.tmp 2] [a0] w R := by kernel_rfl
theorem S.wire_width.calls {a0 : Value} {w : World} {R : Value → World → Prop} (h : S.wire_width a0 w R) : Ca PP Fn.wire_width #[a0] w R :=
  fnC_calls mixed (f := Fn.wire_width) (an := S.wire_width.an) Tryz.func60 rfl (by show _ ≤ _; exact Nat.le_of_ble_eq_true rfl) (S.wire_width.eq a0 w R ▸ h)
/-- (*acheron/wire.Writer).little -/
def S.wire_Writer_little (a0 a1 a2 : Value) (w : World) (R : Value → World → Prop) : Prop :=
 ∃ (I1 : List Value → World → Prop) (m2 : List Value → World → Nat), I1 [(.int .i64 0)] w ∧ ∀ t5, ∀ (u3 : Env) (w4 : World), I1 [t5] w4 →
 Bi .lss t5 a2 fun t6 =>
 Cnd t6 (
 Dr w4 fun w7 =>
 Nc a0 fun t8 =>
 Fa 0 t8 fun t9 =>
 Ld t9 w7 fun t10 =>
 Bi .mul (.int .i64 8) t5 fun t11 =>
 Bi .shr a1 t11 fun t12 =>
 Cv .u8 t12 fun t13 =>
 Ef PP (Instr.buildSlice Ty.sl_uint8 1 #[(0, t13)]) w7 fun t14 w15 =>
 (Ld t9 w15 fun t16 =>
 t16 = t10) ∧
 Ef PP (Builtin.append_ #[Ty.sl_uint8, Ty.sl_uint8] Ty.sl_uint8 #[t10, t14]) w15 fun t17 w18 =>
 Nc a0 fun t19 =>
 Fa 0 t19 fun t20 =>
 St PP 1 t20 t17 w18 fun w21 =>
 Bi .add t5 (.int .i64 1) fun t22 =>
 I1 [t22] w21 ∧ m2 [t22] w21 < m2 [t5] w4) (
 R (.int .i64 0) w4)
def S.wire_Writer_little.an : Ann := (.seq .leaf (.seq (.seq .leaf (.block (.loop (.seq .leaf (.seq (.cond .leaf .leaf) (.seq (.block (.seq .leaf (.draw [[],[],[1],[1,2],[1,2,3],[],[],[6],[5,6,7],[5,6,7,8],[5,6,7,8,9],[1,2,3,4,5,6,7,8,9,10],[0,1,2,3,4,5,6,7,8,9,10,11],[0,1,2,3,4,5,6,7,8,9,10,11,12],[0,1,2,3,4,5,6,7,8,9,10,11,12,13]] (.calm 0 (.calm 1 (.calm 2 (.calm 3 (.calm 4 (.calm 5 (.calm 6 (.calm 7 (.calm 8 (.calm 9 (.eff1 10 [4] (.eff1 11 [] (.calm 12 (.calm 13 (.eff1 14 [] .done)))))))))))))))))) .leaf))) [9] [7,10,11,12,13,14,15,16,17,18,19,20,21,22,23,24,25,26]))) (.seq .leaf .leaf)))
theorem S.wire_Writer_little.eq (a0 a1 a2 : Value) (w : World) (R : Value → World → Prop) : S.wire_Writer_little a0 a1 a2 w R = fnC PP 27 (Tryz.f61.body.getD .skip) S.wire_Writer_little.an [.tmp 6] [a0, a1, a2] w R := by kernel_rfl
theorem S.wire_Writer_little.calls {a0 a1 a2 : Value} {w : World} {R : Value → World → Prop} (h : S.wire_Writer_little a0 a1 a2 w R) : Ca PP Fn.wire_Writer_little #[a0, a1, a2] w R :=
  fnC_calls mixed (f := Fn.wire_Writer_little) (an := S.wire_Writer_little.an) Tryz.func61 rfl (by show _ ≤ _; exact Nat.le_of_ble_eq_true rfl) (S.wire_Writer_little.eq a0 a1 a2 w R ▸ h)
/-- acheron/styx.one -/
def S.styx_one (a0 a1 : Value) (w : World) (R : Value → World → Prop) : Prop :=
 ∀ J1 : List Value → World → Prop, (∀ w3 : World, (∀ u2 : Env,
 Nc a1 fun t4 =>
 Fa 14 t4 fun t5 =>
 Ld t5 w3 fun t6 =>
 IxA 3 t6 (.int .i64 0) fun t7 =>
 Ca PP Fn.styx_qid #[a0, t7] w3 fun t8 w9 =>
 R (.tuple #[]) w9) → J1 [] w3) →
 Nc a1 fun t10 =>
 Fa 14 t10 fun t11 =>
 Ld t11 w fun t12 =>
 LnL t12 fun t13 =>
 Bi .neq t13 (.int .i64 1) fun t14 =>
 Cnd t14 (
 Ef PP (Instr.makeSlice Ty.sl_api_Qid (.int .i64 1) (.int .i64 1)) w fun t15 w16 =>
 Nc a1 fun t17 =>
 Fa 14 t17 fun t18 =>
 St PP 1 t18 t15 w16 fun w19 =>
 J1 [] w19) (
 J1 [] w)
def S.styx_one.an : Ann := (.join (.seq .leaf (.cond .leaf .leaf)) [] [4,5,6,7,8,9,10,11,12,13] .leaf)
theorem S.styx_one.eq (a0 a1 : Value) (w : World) (R : Value → World → Prop) : S.styx_one a0 a1 w R = fnC PP 21 (Tryz.f62.body.getD .skip) S.styx_one.an [] [a0, a1] w R := by kernel_rfl
theorem S.styx_one.calls {a0 a1 : Value} {w : World} {R : Value → World → Prop} (h : S.styx_one a0 a1 w R) : Ca PP Fn.styx_one #[a0, a1] w R :=
  fnC_calls mixed (f := Fn.styx_one) (an := S.styx_one.an) Tryz.func62 rfl (by show _ ≤ _; exact Nat.le_of_ble_eq_true rfl) (S.styx_one.eq a0 a1 w R ▸ h)
/-- (*acheron/wire.Reader).take -/
def S.wire_Reader_take (a0 a1 : Value) (w : World) (R : Value → World → Prop) : Prop :=
 Dr w fun w1 =>
 Nc a0 fun t2 =>
 Fa 0 t2 fun t3 =>
 Ld t3 w1 fun t4 =>
 LnS t4 fun t5 =>
 Nc a0 fun t6 =>
 Fa 1 t6 fun t7 =>
 Ld t7 w1 fun t8 =>
 Bi .sub t5 t8 fun t9 =>
 Bi .gtr a1 t9 fun t10 =>
 Cnd t10 (
 R (.tuple #[(.string ⟨#[]⟩), (.int .i64 16)]) w1) (
 Dr w1 fun w11 =>
 Nc a0 fun t12 =>
 Fa 0 t12 fun t13 =>
 Ld t13 w11 fun t14 =>
 Nc a0 fun t15 =>
 Fa 1 t15 fun t16 =>
 Ld t16 w11 fun t17 =>
 Nc a0 fun t18 =>
 Fa 1 t18 fun t19 =>
 Ld t19 w11 fun t20 =>
 Bi .add t20 a1 fun t21 =>
 SlS t14 (some t17) (some t21) fun t22 =>
 Nc a0 fun t23 =>
 Fa 1 t23 fun t24 =>
 Ld t24 w11 fun t25 =>
 Bi .add t25 a1 fun t26 =>
 Nc a0 fun t27 =>
 Fa 1 t27 fun t28 =>
 St PP 1 t28 t26 w11 fun w29 =>
 R (.tuple #[t22, (.int .i64 0)]) w29)
def S.wire_Reader_take.an : Ann := (.seq .leaf (.seq (.seq (.draw [[],[],[1],[1,2],[1,2,3],[1,2,3,4],[],[6],[6,7],[6,7,8],[1,2,3,4,5,6,7,8,9],[0,1,2,3,4,5,6,7,8,9,10]] (.calm 0 (.calm 1 (.calm 2 (.calm 3 (.calm 4 (.calm 5 (.calm 6 (.calm 7 (.calm 8 (.calm 9 (.calm 10 (.calm 11 .done))))))))))))) (.cond (.seq .leaf .leaf) .leaf)) (.seq (.draw [[],[0],[0,1],[0,1,2],[],[4],[4,5],[4,5,6],[],[8],[8,9],[8,9,10],[],[8,9,10,11,12],[0,1,2,3,4,5,6,7,8,9,10,11,12,13],[0,1,2,3,4,5,6,7,8,9,10,11,12,13,14]] (.calm 0 (.calm 1 (.calm 2 (.calm 3 (.calm 4 (.calm 5 (.calm 6 (.calm 7 (.calm 8 (.calm 9 (.calm 10 (.calm 11 (.calm 12 (.calm 13 (.calm 14 (.calm 15 .done))))))))))))))))) (.seq .leaf (.seq .leaf .leaf)))))
theorem S.wire_Reader_take.eq (a0 a1 : Value) (w : World) (R : Value → World → Prop) : S.wire_Reader_take a0 a1 w R = fnC PP 43 (Tryz.f63.body.getD .skip) S.wire_Reader_take.an [.tmp 4, .tmp 5] [a0, a1] w R := by kernel_rfl
theorem S.wire_Reader_take.calls {a0 a1 : Value} {w : World} {R : Value → World → Prop} (h : S.wire_Reader_take a0 a1 w R) : Ca PP Fn.wire_Reader_take #[a0, a1] w R :=
  fnC_calls mixed (f := Fn.wire_Reader_take) (an := S.wire_Reader_take.an) Tryz.func63 rfl (by show _ ≤ _; exact Nat.le_of_ble_eq_true rfl) (S.wire_Reader_take.eq a0 a1 w R ▸ h)
/-- acheron/wire.reading[bool] -/
def S.wire_reading_bool (a0 a1 : Value) (w : World) (R : Value → World → Prop) : Prop :=
 Rd PP (eqS .eql Ty.p_wire_Reader (.tmp 10) (.const (.pointer none)) a0 (.pointer none)) w fun t1 =>
 Cnd t1 (
 R (.tuple #[(.bool false), (.int .i64 6)]) w) (
 Nc a0 fun t2 =>
 Fa 2 t2 fun t3 =>
 Ld t3 w fun t4 =>
 Bi .neq t4 (.int .i64 0) fun t5 =>
 Cnd t5 (
 Dr w fun w6 =>
 Nc a0 fun t7 =>
 Fa 2 t7 fun t8 =>
 Ld t8 w6 fun t9 =>
 R (.tuple #[(.bool false), t9]) w6) (
 Nc a0 fun t10 =>
 Fa 1 t10 fun t11 =>
 Ld t11 w fun t12 =>
 CaV PP a1 #[] w fun t13 w14 =>
 Ex t13 0 fun t15 =>
 Ex t13 1 fun t16 =>
 Bi .neq t16 (.int .i64 0) fun t17 =>
 Cnd t17 (
 Nc a0 fun t18 =>
 Fa 1 t18 fun t19 =>
 St PP 1 t19 t12 w14 fun w20 =>
 Nc a0 fun t21 =>
 Fa 2 t21 fun t22 =>
 St PP 1 t22 t16 w20 fun w23 =>
 R (.tuple #[(.bool false), t16]) w23) (
 R (.tuple #[t15, (.int .i64 0)]) w14)))
def S.wire_reading_bool.an : Ann := (.seq .leaf (.seq .leaf (.seq (.seq .leaf (.cond (.seq .leaf .leaf) .leaf)) (.seq (.seq .leaf (.cond (.seq (.draw [[],[],[1],[1,2],[1,2,3],[0],[0,1,2,3,4,5]] (.calm 0 (.calm 1 (.calm 2 (.calm 3 (.calm 4 (.calm 5 (.calm 6 .done)))))))) .leaf) .leaf)) (.seq .leaf (.seq .leaf (.seq (.seq .leaf (.cond (.seq .leaf (.seq .leaf .leaf)) .leaf)) (.seq .leaf .leaf))))))))
theorem S.wire_reading_bool.eq (a0 a1 : Value) (w : World) (R : Value → World → Prop) : S.wire_reading_bool a0 a1 w R = fnC PP 45 (Tryz.f64.body.getD .skip) S.wire_reading_bool.an [.tmp 4, .tmp 5] [a0, a1] w R := by kernel_rfl
theorem S.wire_reading_bool.calls {a0 a1 : Value} {w : World} {R : Value → World → Prop} (h : S.wire_reading_bool a0 a1 w R) : Ca PP Fn.wire_reading_bool #[a0, a1] w R :=
  fnC_calls mixed (f := Fn.wire_reading_bool) (an := S.wire_reading_bool.an) Tryz.func64 rfl (by show _ ≤ _; exact Nat.le_of_ble_eq_true rfl) (S.wire_reading_bool.eq a0 a1 w R ▸ h)
/-- (*acheron/wire.Reader).End$1 -/
def S.wire_Reader_End_1 (a0 : Value) (w : World) (R : Value → World → Prop) : Prop :=
 Dr w fun w1 =>
 Ld a0 w1 fun t2 =>
 Nc t2 fun t3 =>
 Fa 1 t3 fun t4 =>
 Ld t4 w1 fun t5 =>
 Ld a0 w1 fun t6 =>
 Nc t6 fun t7 =>
 Fa 0 t7 fun t8 =>
 Ld t8 w1 fun t9 =>
 LnS t9 fun t10 =>
 Bi .lss t5 t10 fun t11 =>
 Cnd t11 (
 R (.tuple #[(.bool false), (.int .i64 2)]) w1) (
 R (.tuple #[(.bool true), (.int .i64 0)]) w1)
def S.wire_Reader_End_1.an : Ann := (.seq .leaf (.seq (.seq (.draw [[],[0],[0,1],[0,1,2],[],[4],[4,5],[4,5,6],[4,5,6,7],[0,1,2,3,4,5,6,7,8]] (.calm 0 (.calm 1 (.calm 2 (.calm 3 (.calm 4 (.calm 5 (.calm 6 (.calm 7 (.calm 8 (.calm 9 .done))))))))))) (.cond (.seq .leaf .leaf) .leaf)) (.seq .leaf .leaf)))
theorem S.wire_Reader_End_1.eq (a0 : Value) (w : World) (R : Value → World → Prop) : S.wire_Reader_End_1 a0 w R = fnC PP 13 (Tryz.f65.body.getD .skip) S.wire_Reader_End_1.an [.tmp 1, .tmp 2] [a0] w R := by kernel_rfl
theorem S.wire_Reader_End_1.calls {a0 : Value} {w : World} {R : Value → World → Prop} (h : S.wire_Reader_End_1 a0 w R) : Ca PP Fn.wire_Reader_End_1 #[a0] w R :=
  fnC_calls mixed (f := Fn.wire_Reader_End_1) (an := S.wire_Reader_End_1.an) Tryz.func65 rfl (by show _ ≤ _; exact Nat.le_of_ble_eq_true rfl) (S.wire_Reader_End_1.eq a0 w R ▸ h)
/-- acheron/acheronref31.in -/
def S.r31_in (a0 a1 : Value) (w : World) (R : Value → World → Prop) : Prop :=
 ∀ J1 : List Value → World → Prop, (∀ t4, ∀ w3 : World, (∀ u2 : Env,
 R t4 w3) → J1 [t4] w3) →
 Bi .geq a0 (.int .i64 0) fun t5 =>
 Gd t5 true (fun k6 => k6 a0 w) w fun t7 w8 =>
 Gd t5 true (fun k9 => k9 a1 w8) w8 fun t10 w11 =>
 Gd t5 true (fun k12 => Bi .mul (.int .i64 8) t10 fun t15 =>
 k12 t15 w11) w11 fun t13 w14 =>
 Gd t5 true (fun k16 => Bi .shl (.int .i64 1) t13 fun t19 =>
 k16 t19 w14) w14 fun t17 w18 =>
 Gd t5 true (fun k20 => Bi .lss t7 t17 fun t23 =>
 k20 t23 w18) w18 fun t21 w22 =>
 Pk t5 t21 (.bool false) fun t24 =>
 J1 [t24] w22
def S.r31_in.an : Ann := (.seq .leaf (.join .leaf [4] [5,6,7,8,9,10,11,12,13] .leaf))
theorem S.r31_in.eq (a0 a1 : Value) (w : World) (R : Value → World → Prop) : S.r31_in a0 a1 w R = fnC PP 14 (Tryz.f66.body.getD .skip) S.r31_in.an [.tmp 4] [a0, a1] w R := by kernel_rfl
theorem S.r31_in.calls {a0 a1 : Value} {w : World} {R : Value → World → Prop} (h : S.r31_in a0 a1 w R) : Ca PP Fn.r31_in #[a0, a1] w R :=
  fnC_calls mixed (f := Fn.r31_in) (an := S.r31_in.an) Tryz.func66 rfl (by show _ ≤ _; exact Nat.le_of_ble_eq_true rfl) (S.r31_in.eq a0 a1 w R ▸ h)
/-- acheron/styx.Request -/
def S.styx_Request (a0 : Value) (w : World) (R : Value → World → Prop) : Prop :=
 Ld (.pointer (some ⟨0, 0, none⟩)) w fun t1 =>
 Rd PP (Instr.lookup Ty.map_int_string t1 a0 false) w fun t2 =>
 Bi .neq t2 (.string ⟨#[]⟩) fun t3 =>
 R t3 w
def S.styx_Request.an : Ann := (.seq .leaf (.seq .leaf .leaf))
theorem S.styx_Request.eq (a0 : Value) (w : World) (R : Value → World → Prop) : S.styx_Request a0 w R = fnC PP 7 (Tryz.f67.body.getD .skip) S.styx_Request.an [.tmp 2] [a0] w R := by kernel_rfl
theorem S.styx_Request.calls {a0 : Value} {w : World} {R : Value → World → Prop} (h : S.styx_Request a0 w R) : Ca PP Fn.styx_Request #[a0] w R :=
  fnC_calls mixed (f := Fn.styx_Request) (an := S.styx_Request.an) Tryz.func67 rfl (by show _ ≤ _; exact Nat.le_of_ble_eq_true rfl) (S.styx_Request.eq a0 w R ▸ h)
/-- slices.Contains[[]int,int] -/
def S.slices_Contains_sl_int_int (a0 a1 : Value) (w : World) (R : Value → World → Prop) : Prop :=
 Ca PP Fn.slices_Index_sl_int_int #[a0, a1] w fun t1 w2 =>
 Bi .geq t1 (.int .i64 0) fun t3 =>
 R t3 w2
def S.slices_Contains_sl_int_int.an : Ann := (.seq .leaf (.seq .leaf .leaf))
theorem S.slices_Contains_sl_int_int.eq (a0 a1 : Value) (w : World) (R : Value → World → Prop) : S.slices_Contains_sl_int_int a0 a1 w R = fnC PP 9 (Tryz.f68.body.getD .skip) S.slices_Contains_sl_int_int.an [.tmp 4] [a0, a1] w R := by kernel_rfl
theorem S.slices_Contains_sl_int_int.calls {a0 a1 : Value} {w : World} {R : Value → World → Prop} (h : S.slices_Contains_sl_int_int a0 a1 w R) : Ca PP Fn.slices_Contains_sl_int_int #[a0, a1] w R :=
  fnC_calls mixed (f := Fn.slices_Contains_sl_int_int) (an := S.slices_Contains_sl_int_int.an) Tryz.func68 rfl (by show _ ≤ _; exact Nat.le_of_ble_eq_true rfl) (S.slices_Contains_sl_int_int.eq a0 a1 w R ▸ h)
/-- slices.Index[[]int,int] -/
def S.slices_Index_sl_int_int (a0 a1 : Value) (w : World) (R : Value → World → Prop) : Prop :=
 LnL a0 fun t1 =>
 ∃ (I2 : List Value → World → Prop) (m3 : List Value → World → Nat), I2 [(.int .i64 0)] w ∧ ∀ t6, ∀ (u4 : Env) (w5 : World), I2 [t6] w5 →
 Bi .lss t6 t1 fun t7 =>
 Cnd t7 (
 IxA 1 a0 t6 fun t8 =>
 Ld t8 w5 fun t9 =>
 Bi .eql a1 t9 fun t10 =>
 Cnd t10 (
 R t6 w5) (
 Bi .add t6 (.int .i64 1) fun t11 =>
 I2 [t11] w5 ∧ m3 [t11] w5 < m3 [t6] w5)) (
 R (.int .i64 (-1)) w5)
def S.slices_Index_sl_int_int.an : Ann := (.seq .leaf (.seq (.seq .leaf (.block (.loop (.seq .leaf (.seq (.cond .leaf .leaf) (.seq (.block (.seq .leaf (.seq .leaf (.cond (.seq .leaf .leaf) .leaf)))) .leaf))) [8] [4,5,9,10,11,12,13,14,15,16,17,18]))) (.seq .leaf .leaf)))
theorem S.slices_Index_sl_int_int.eq (a0 a1 : Value) (w : World) (R : Value → World → Prop) : S.slices_Index_sl_int_int a0 a1 w R = fnC PP 19 (Tryz.f69.body.getD .skip) S.slices_Index_sl_int_int.an [.tmp 4] [a0, a1] w R := by kernel_rfl
theorem S.slices_Index_sl_int_int.calls {a0 a1 : Value} {w : World} {R : Value → World → Prop} (h : S.slices_Index_sl_int_int a0 a1 w R) : Ca PP Fn.slices_Index_sl_int_int #[a0, a1] w R :=
  fnC_calls mixed (f := Fn.slices_Index_sl_int_int) (an := S.slices_Index_sl_int_int.an) Tryz.func69 rfl (by show _ ≤ _; exact Nat.le_of_ble_eq_true rfl) (S.slices_Index_sl_int_int.eq a0 a1 w R ▸ h)
/-- (*acheron/styx.output).data -/
def S.styx_output_data (a0 a1 : Value) (w : World) (R : Value → World → Prop) : Prop :=
 Nc a1 fun t1 =>
 Ld t1 w fun t2 =>
 Ca PP Fn.styx_output_sized #[a0, t2, (.int .i64 4)] w fun t3 w4 =>
 R (.tuple #[]) w4
def S.styx_output_data.an : Ann := .leaf
theorem S.styx_output_data.eq (a0 a1 : Value) (w : World) (R : Value → World → Prop) : S.styx_output_data a0 a1 w R = fnC PP 9 (Tryz.f87.body.getD .skip) S.styx_output_data.an [] [a0, a1] w R := by kernel_rfl
theorem S.styx_output_data.calls {a0 a1 : Value} {w : World} {R : Value → World → Prop} (h : S.styx_output_data a0 a1 w R) : Ca PP Fn.styx_output_data #[a0, a1] w R :=
  fnC_calls mixed (f := Fn.styx_output_data) (an := S.styx_output_data.an) Tryz.func87 rfl (by show _ ≤ _; exact Nat.le_of_ble_eq_true rfl) (S.styx_output_data.eq a0 a1 w R ▸ h)
/-- (*acheron/styx.output).long -/
def S.styx_output_long (a0 a1 : Value) (w : World) (R : Value → World → Prop) : Prop :=
 Nc a1 fun t1 =>
 Ld t1 w fun t2 =>
 Ca PP Fn.styx_output_least #[a0, t2, (.int .i64 0)] w fun t3 w4 =>
 R (.tuple #[]) w4
def S.styx_output_long.an : Ann := .leaf
theorem S.styx_output_long.eq (a0 a1 : Value) (w : World) (R : Value → World → Prop) : S.styx_output_long a0 a1 w R = fnC PP 9 (Tryz.f88.body.getD .skip) S.styx_output_long.an [] [a0, a1] w R := by kernel_rfl
theorem S.styx_output_long.calls {a0 a1 : Value} {w : World} {R : Value → World → Prop} (h : S.styx_output_long a0 a1 w R) : Ca PP Fn.styx_output_long #[a0, a1] w R :=
  fnC_calls mixed (f := Fn.styx_output_long) (an := S.styx_output_long.an) Tryz.func88 rfl (by show _ ≤ _; exact Nat.le_of_ble_eq_true rfl) (S.styx_output_long.eq a0 a1 w R ▸ h)
/-- (*acheron/styx.output).mode -/
def S.styx_output_mode (a0 a1 : Value) (w : World) (R : Value → World → Prop) : Prop :=
 Nc a1 fun t1 =>
 Ld t1 w fun t2 =>
 ∀ J3 : List Value → World → Prop, (∀ t6, ∀ w5 : World, (∀ u4 : Env,
 Nc a0 fun t7 =>
 Fa 0 t7 fun t8 =>
 Ca PP Fn.wire_Writer_Little #[t8, t6, (.int .i64 4)] w5 fun t9 w10 =>
 R (.tuple #[]) w10) → J3 [t6] w5) →
 ∀ J11 : List Value → World → Prop, (∀ t14, ∀ w13 : World, (∀ u12 : Env,
 Cnd t14 (
 Nc a0 fun t15 =>
 Fa 1 t15 fun t16 =>
 St PP 1 t16 (.bool true) w13 fun w17 =>
 J3 [t2] w17) (
 Bi .eql t2 (.int .i64 (-1)) fun t18 =>
 Cnd t18 (
 J3 [(.int .i64 4294967295)] w13) (
 J3 [t2] w13))) → J11 [t14] w13) →
 Bi .lss t2 (.int .i64 (-1)) fun t19 =>
 Gd t19 false (fun k20 => k20 t2 w) w fun t21 w22 =>
 Gd t19 false (fun k23 => Bi .geq t21 (.int .i64 4294967295) fun t26 =>
 k23 t26 w22) w22 fun t24 w25 =>
 Pk t19 (.bool true) t24 fun t27 =>
 J11 [t27] w25
def S.styx_output_mode.an : Ann := (.seq .leaf (.join (.block (.join .leaf [8] [9,10,11,12,13,14] (.cond .leaf (.seq .leaf (.cond .leaf .leaf))))) [4] [8,9,10,11,12,13,14,15,16,17,18,19,20] .leaf))
theorem S.styx_output_mode.eq (a0 a1 : Value) (w : World) (R : Value → World → Prop) : S.styx_output_mode a0 a1 w R = fnC PP 26 (Tryz.f89.body.getD .skip) S.styx_output_mode.an [] [a0, a1] w R := by kernel_rfl
theorem S.styx_output_mode.calls {a0 a1 : Value} {w : World} {R : Value → World → Prop} (h : S.styx_output_mode a0 a1 w R) : Ca PP Fn.styx_output_mode #[a0, a1] w R :=
  fnC_calls mixed (f := Fn.styx_output_mode) (an := S.styx_output_mode.an) Tryz.func89 rfl (by show _ ≤ _; exact Nat.le_of_ble_eq_true rfl) (S.styx_output_mode.eq a0 a1 w R ▸ h)
/-- (*acheron/styx.output).names -/
def S.styx_output_names (a0 a1 : Value) (w : World) (R : Value → World → Prop) : Prop :=
 Nc a1 fun t1 =>
 Ld t1 w fun t2 =>
 LnL t2 fun t3 =>
 Ca PP Fn.styx_output_count #[a0, t3] w fun t4 w5 =>
 Nc a1 fun t6 =>
 Ld t6 w5 fun t7 =>
 LnL t7 fun t8 =>
 ∃ (I9 : List Value → World → Prop) (m10 : List Value → World → Nat), I9 [(.int .i64 0)] w5 ∧ ∀ t13, ∀ (u11 : Env) (w12 : World), I9 [t13] w12 →
 Bi .lss t13 t8 fun t14 =>
 Cnd t14 (
 Nc a1 fun t15 =>
 Ld t15 w12 fun t16 =>
 IxA 1 t16 t13 fun t17 =>
 Ca PP Fn.styx_output_text #[a0, t17] w12 fun t18 w19 =>
 Bi .add t13 (.int .i64 1) fun t20 =>
 I9 [t20] w19 ∧ m10 [t20] w19 < m10 [t13] w12) (
 R (.tuple #[]) w12)
def S.styx_output_names.an : Ann := (.seq .leaf (.seq .leaf (.block (.loop (.seq .leaf (.seq (.cond .leaf .leaf) (.seq (.block (.seq .leaf .leaf)) .leaf))) [15] [4,16,17,18,19,20,21,22,23,24,25]))))
theorem S.styx_output_names.eq (a0 a1 : Value) (w : World) (R : Value → World → Prop) : S.styx_output_names a0 a1 w R = fnC PP 26 (Tryz.f90.body.getD .skip) S.styx_output_names.an [] [a0, a1] w R := by kernel_rfl
theorem S.styx_output_names.calls {a0 a1 : Value} {w : World} {R : Value → World → Prop} (h : S.styx_output_names a0 a1 w R) : Ca PP Fn.styx_output_names #[a0, a1] w R :=
  fnC_calls mixed (f := Fn.styx_output_names) (an := S.styx_output_names.an) Tryz.func90 rfl (by show _ ≤ _; exact Nat.le_of_ble_eq_true rfl) (S.styx_output_names.eq a0 a1 w R ▸ h)
/-- (*acheron/styx.output).optional -/
def S.styx_output_optional (a0 a1 : Value) (w : World) (R : Value → World → Prop) : Prop :=
 Nc a1 fun t1 =>
 Ld t1 w fun t2 =>
 Ca PP Fn.styx_output_least #[a0, t2, (.int .i64 (-1))] w fun t3 w4 =>
 R (.tuple #[]) w4
def S.styx_output_optional.an : Ann := .leaf
theorem S.styx_output_optional.eq (a0 a1 : Value) (w : World) (R : Value → World → Prop) : S.styx_output_optional a0 a1 w R = fnC PP 9 (Tryz.f91.body.getD .skip) S.styx_output_optional.an [] [a0, a1] w R := by kernel_rfl
theorem S.styx_output_optional.calls {a0 a1 : Value} {w : World} {R : Value → World → Prop} (h : S.styx_output_optional a0 a1 w R) : Ca PP Fn.styx_output_optional #[a0, a1] w R :=
  fnC_calls mixed (f := Fn.styx_output_optional) (an := S.styx_output_optional.an) Tryz.func91 rfl (by show _ ≤ _; exact Nat.le_of_ble_eq_true rfl) (S.styx_output_optional.eq a0 a1 w R ▸ h)
/-- (*acheron/styx.output).qids -/
def S.styx_output_qids (a0 a1 : Value) (w : World) (R : Value → World → Prop) : Prop :=
 Nc a1 fun t1 =>
 Ld t1 w fun t2 =>
 LnL t2 fun t3 =>
 Ca PP Fn.styx_output_count #[a0, t3] w fun t4 w5 =>
 Nc a1 fun t6 =>
 Ld t6 w5 fun t7 =>
 LnL t7 fun t8 =>
 ∃ (I9 : List Value → World → Prop) (m10 : List Value → World → Nat), I9 [(.int .i64 0)] w5 ∧ ∀ t13, ∀ (u11 : Env) (w12 : World), I9 [t13] w12 →
 Bi .lss t13 t8 fun t14 =>
 Cnd t14 (
 Nc a1 fun t15 =>
 Ld t15 w12 fun t16 =>
 IxA 3 t16 t13 fun t17 =>
 Ca PP Fn.styx_qid #[(.iface Ty.p_styx_output a0), t17] w12 fun t18 w19 =>
 Bi .add t13 (.int .i64 1) fun t20 =>
 I9 [t20] w19 ∧ m10 [t20] w19 < m10 [t13] w12) (
 R (.tuple #[]) w12)
def S.styx_output_qids.an : Ann := (.seq .leaf (.seq .leaf (.block (.loop (.seq .leaf (.seq (.cond .leaf .leaf) (.seq (.block (.seq .leaf .leaf)) .leaf))) [15] [4,16,17,18,19,20,21,22,23,24,25,26]))))
theorem S.styx_output_qids.eq (a0 a1 : Value) (w : World) (R : Value → World → Prop) : S.styx_output_qids a0 a1 w R = fnC PP 27 (Tryz.f92.body.getD .skip) S.styx_output_qids.an [] [a0, a1] w R := by kernel_rfl
theorem S.styx_output_qids.calls {a0 a1 : Value} {w : World} {R : Value → World → Prop} (h : S.styx_output_qids a0 a1 w R) : Ca PP Fn.styx_output_qids #[a0, a1] w R :=
  fnC_calls mixed (f := Fn.styx_output_qids) (an := S.styx_output_qids.an) Tryz.func92 rfl (by show _ ≤ _; exact Nat.le_of_ble_eq_true rfl) (S.styx_output_qids.eq a0 a1 w R ▸ h)
/-- (*acheron/styx.output).text -/
def S.styx_output_text (a0 a1 : Value) (w : World) (R : Value → World → Prop) : Prop :=
 Nc a1 fun t1 =>
 Ld t1 w fun t2 =>
 Ca PP Fn.styx_output_sized #[a0, t2, (.int .i64 2)] w fun t3 w4 =>
 R (.tuple #[]) w4
def S.styx_output_text.an : Ann := .leaf
theorem S.styx_output_text.eq (a0 a1 : Value) (w : World) (R : Value → World → Prop) : S.styx_output_text a0 a1 w R = fnC PP 9 (Tryz.f93.body.getD .skip) S.styx_output_text.an [] [a0, a1] w R := by kernel_rfl
theorem S.styx_output_text.calls {a0 a1 : Value} {w : World} {R : Value → World → Prop} (h : S.styx_output_text a0 a1 w R) : Ca PP Fn.styx_output_text #[a0, a1] w R :=
  fnC_calls mixed (f := Fn.styx_output_text) (an := S.styx_output_text.an) Tryz.func93 rfl (by show _ ≤ _; exact Nat.le_of_ble_eq_true rfl) (S.styx_output_text.eq a0 a1 w R ▸ h)
/-- (*acheron/styx.output).least -/
def S.styx_output_least (a0 a1 a2 : Value) (w : World) (R : Value → World → Prop) : Prop :=
 ∀ J1 : List Value → World → Prop, (∀ w3 : World, (∀ u2 : Env,
 Nc a0 fun t4 =>
 Fa 0 t4 fun t5 =>
 Ca PP Fn.wire_Writer_Signed #[t5, a1, (.int .i64 8)] w3 fun t6 w7 =>
 R (.tuple #[]) w7) → J1 [] w3) →
 Bi .lss a1 a2 fun t8 =>
 Cnd t8 (
 Nc a0 fun t9 =>
 Fa 1 t9 fun t10 =>
 St PP 1 t10 (.bool true) w fun w11 =>
 J1 [] w11) (
 J1 [] w)
def S.styx_output_least.an : Ann := (.join (.seq .leaf (.cond .leaf .leaf)) [] [6,7,8,9,10,11] .leaf)
theorem S.styx_output_least.eq (a0 a1 a2 : Value) (w : World) (R : Value → World → Prop) : S.styx_output_least a0 a1 a2 w R = fnC PP 17 (Tryz.f94.body.getD .skip) S.styx_output_least.an [] [a0, a1, a2] w R := by kernel_rfl
theorem S.styx_output_least.calls {a0 a1 a2 : Value} {w : World} {R : Value → World → Prop} (h : S.styx_output_least a0 a1 a2 w R) : Ca PP Fn.styx_output_least #[a0, a1, a2] w R :=
  fnC_calls mixed (f := Fn.styx_output_least) (an := S.styx_output_least.an) Tryz.func94 rfl (by show _ ≤ _; exact Nat.le_of_ble_eq_true rfl) (S.styx_output_least.eq a0 a1 a2 w R ▸ h)
/-- (*acheron/styx.output).count -/
def S.styx_output_count (a0 a1 : Value) (w : World) (R : Value → World → Prop) : Prop :=
 ∀ J1 : List Value → World → Prop, (∀ w3 : World, (∀ u2 : Env,
 Nc a0 fun t4 =>
 Fa 0 t4 fun t5 =>
 Ca PP Fn.wire_Writer_Little #[t5, a1, (.int .i64 2)] w3 fun t6 w7 =>
 R (.tuple #[]) w7) → J1 [] w3) →
 Bi .gtr a1 (.int .i64 16) fun t8 =>
 Cnd t8 (
 Nc a0 fun t9 =>
 Fa 2 t9 fun t10 =>
 St PP 1 t10 (.bool true) w fun w11 =>
 J1 [] w11) (
 J1 [] w)
def S.styx_output_count.an : Ann := (.join (.seq .leaf (.cond .leaf .leaf)) [] [4,5,6,7,8] .leaf)
theorem S.styx_output_count.eq (a0 a1 : Value) (w : World) (R : Value → World → Prop) : S.styx_output_count a0 a1 w R = fnC PP 14 (Tryz.f95.body.getD .skip) S.styx_output_count.an [] [a0, a1] w R := by kernel_rfl
theorem S.styx_output_count.calls {a0 a1 : Value} {w : World} {R : Value → World → Prop} (h : S.styx_output_count a0 a1 w R) : Ca PP Fn.styx_output_count #[a0, a1] w R :=
  fnC_calls mixed (f := Fn.styx_output_count) (an := S.styx_output_count.an) Tryz.func95 rfl (by show _ ≤ _; exact Nat.le_of_ble_eq_true rfl) (S.styx_output_count.eq a0 a1 w R ▸ h)
/-- (*acheron/wire.Writer).Signed -/
def S.wire_Writer_Signed (a0 a1 a2 : Value) (w : World) (R : Value → World → Prop) : Prop :=
 Rd PP (eqS .eql Ty.p_wire_Writer (.tmp 9) (.const (.pointer none)) a0 (.pointer none)) w fun t1 =>
 Cnd t1 (
 R (.int .i64 6) w) (
 Ca PP Fn.wire_width #[a2] w fun t2 w3 =>
 Un .not t2 fun t4 =>
 Cnd t4 (
 R (.int .i64 1) w3) (
 Bi .mul (.int .i64 8) a2 fun t5 =>
 Bi .sub t5 (.int .i64 1) fun t6 =>
 Bi .shr a1 t6 fun t7 =>
 ∀ J8 : List Value → World → Prop, (∀ t11, ∀ w10 : World, (∀ u9 : Env,
 Cnd t11 (
 R (.int .i64 11) w10) (
 Ca PP Fn.wire_Writer_little #[a0, a1, a2] w10 fun t12 w13 =>
 R t12 w13)) → J8 [t11] w10) →
 Bi .neq t7 (.int .i64 0) fun t14 =>
 Gd t14 true (fun k15 => k15 t7 w3) w3 fun t16 w17 =>
 Gd t14 true (fun k18 => Bi .neq t16 (.int .i64 (-1)) fun t21 =>
 k18 t21 w17) w17 fun t19 w20 =>
 Pk t14 t19 (.bool false) fun t22 =>
 J8 [t22] w20))
def S.wire_Writer_Signed.an : Ann := (.seq .leaf (.seq (.block (.seq .leaf (.cond (.seq .leaf .leaf) (.seq .leaf (.cond (.seq .leaf .leaf) .leaf))))) (.seq (.seq .leaf (.join .leaf [25] [20,21,22,23,24] (.cond (.seq .leaf .leaf) .leaf))) (.seq .leaf .leaf))))
theorem S.wire_Writer_Signed.eq (a0 a1 a2 : Value) (w : World) (R : Value → World → Prop) : S.wire_Writer_Signed a0 a1 a2 w R = fnC PP 30 (Tryz.f96.body.getD .skip) S.wire_Writer_Signed.an [.tmp 6] [a0, a1, a2] w R := by kernel_rfl
theorem S.wire_Writer_Signed.calls {a0 a1 a2 : Value} {w : World} {R : Value → World → Prop} (h : S.wire_Writer_Signed a0 a1 a2 w R) : Ca PP Fn.wire_Writer_Signed #[a0, a1, a2] w R :=
  fnC_calls mixed (f := Fn.wire_Writer_Signed) (an := S.wire_Writer_Signed.an) Tryz.func96 rfl (by show _ ≤ _; exact Nat.le_of_ble_eq_true rfl) (S.wire_Writer_Signed.eq a0 a1 a2 w R ▸ h)
/-- (*acheron/styx.input).data -/
def S.styx_input_data (a0 a1 : Value) (w : World) (R : Value → World → Prop) : Prop :=
 Ca PP Fn.styx_input_sized #[a0, (.int .i64 4)] w fun t1 w2 =>
 Nc a1 fun t3 =>
 St PP 1 t3 t1 w2 fun w4 =>
 R (.tuple #[]) w4
def S.styx_input_data.an : Ann := .leaf
theorem S.styx_input_data.eq (a0 a1 : Value) (w : World) (R : Value → World → Prop) : S.styx_input_data a0 a1 w R = fnC PP 8 (Tryz.f99.body.getD .skip) S.styx_input_data.an [] [a0, a1] w R := by kernel_rfl
theorem S.styx_input_data.calls {a0 a1 : Value} {w : World} {R : Value → World → Prop} (h : S.styx_input_data a0 a1 w R) : Ca PP Fn.styx_input_data #[a0, a1] w R :=
  fnC_calls mixed (f := Fn.styx_input_data) (an := S.styx_input_data.an) Tryz.func99 rfl (by show _ ≤ _; exact Nat.le_of_ble_eq_true rfl) (S.styx_input_data.eq a0 a1 w R ▸ h)
/-- (*acheron/styx.input).dir -/
def S.styx_input_dir (a0 a1 : Value) (w : World) (R : Value → World → Prop) : Prop :=
 Ca PP Fn.styx_input_sized #[a0, (.int .i64 2)] w fun t1 w2 =>
 Ca PP Fn.wire_NewReader #[t1] w2 fun t3 w4 =>
 Bd #[.pointer none, .bool false, .bool false, .bool false] [(0, 1), (1, 1), (2, 1), (3, 1)] [(0, t3)] fun t5 =>
 Al Ty.styx_input (t5 : Value).cells w4 fun t6 w7 =>
 Ca PP Fn.styx_body #[(.iface Ty.p_styx_input t6), a1] w7 fun t8 w9 =>
 Ca PP Fn.styx_input_finish #[t6] w9 fun t10 w11 =>
 Dr w11 fun w12 =>
 Nc a0 fun t13 =>
 Fa 1 t13 fun t14 =>
 Ld t14 w12 fun t15 =>
 Gd t15 false (fun k16 => k16 t6 w12) w12 fun t17 w18 =>
 Gd t15 false (fun k19 => Nc t17 fun t22 =>
 k19 t22 w18) w18 fun t20 w21 =>
 Gd t15 false (fun k23 => Fa 1 t20 fun t26 =>
 k23 t26 w21) w21 fun t24 w25 =>
 Gd t15 false (fun k27 => Ld t24 w25 fun t30 =>
 k27 t30 w25) w25 fun t28 w29 =>
 Pk t15 (.bool true) t28 fun t31 =>
 Nc a0 fun t32 =>
 Fa 3 t32 fun t33 =>
 Ld t33 w29 fun t34 =>
 Gd t34 false (fun k35 => k35 t6 w29) w29 fun t36 w37 =>
 Gd t34 false (fun k38 => Nc t36 fun t41 =>
 k38 t41 w37) w37 fun t39 w40 =>
 Gd t34 false (fun k42 => Fa 3 t39 fun t45 =>
 k42 t45 w40) w40 fun t43 w44 =>
 Gd t34 false (fun k46 => Ld t43 w44 fun t49 =>
 k46 t49 w44) w44 fun t47 w48 =>
 Pk t34 (.bool true) t47 fun t50 =>
 Nc a0 fun t51 =>
 Fa 2 t51 fun t52 =>
 Ld t52 w48 fun t53 =>
 Gd t53 false (fun k54 => k54 t6 w48) w48 fun t55 w56 =>
 Gd t53 false (fun k57 => Nc t55 fun t60 =>
 k57 t60 w56) w56 fun t58 w59 =>
 Gd t53 false (fun k61 => Fa 2 t58 fun t64 =>
 k61 t64 w59) w59 fun t62 w63 =>
 Gd t53 false (fun k65 => Ld t62 w63 fun t68 =>
 k65 t68 w63) w63 fun t66 w67 =>
 Pk t53 (.bool true) t66 fun t69 =>
 Gd t69 false (fun k70 => k70 t1 w67) w67 fun t71 w72 =>
 Gd t69 false (fun k73 => LnS t71 fun t76 =>
 k73 t76 w72) w72 fun t74 w75 =>
 Gd t69 false (fun k77 => Bi .add t74 (.int .i64 2) fun t80 =>
 k77 t80 w75) w75 fun t78 w79 =>
 Gd t69 false (fun k81 => Bi .gtr t78 (.int .i64 1024) fun t84 =>
 k81 t84 w79) w79 fun t82 w83 =>
 Pk t69 (.bool true) t82 fun t85 =>
 Nc a0 fun t86 =>
 Fa 1 t86 fun t87 =>
 St PP 1 t87 t31 w83 fun w88 =>
 Nc a0 fun t89 =>
 Fa 3 t89 fun t90 =>
 St PP 1 t90 t50 w88 fun w91 =>
 Nc a0 fun t92 =>
 Fa 2 t92 fun t93 =>
 St PP 1 t93 t85 w91 fun w94 =>
 R (.tuple #[]) w94
def S.styx_input_dir.an : Ann := (.seq .leaf (.seq .leaf (.seq .leaf (.seq .leaf (.draw [[],[],[],[],[3],[3,4],[3,4,5],[3,4,5,6],[3,4,5,6,7],[3,4,5,6,7,8],[3,4,5,6,7,8,9],[3,4,5,6,7,8,9,10],[3,4,5,6,7,8,9,10,11],[],[13],[13,14],[13,14,15],[3,4,5,6,7,13,14,15,16],[3,4,5,6,7,13,14,15,16,17],[3,4,5,6,7,13,14,15,16,17,18],[3,4,5,6,7,13,14,15,16,17,18,19],[3,4,5,6,7,13,14,15,16,17,18,19,20],[3,4,5,6,7,13,14,15,16,17,18,19,20,21],[],[23],[23,24],[23,24,25],[3,4,5,6,7,13,14,15,16,17,23,24,25,26],[3,4,5,6,7,13,14,15,16,17,23,24,25,26,27],[3,4,5,6,7,13,14,15,16,17,23,24,25,26,27,28],[3,4,5,6,7,13,14,15,16,17,23,24,25,26,27,28,29],[3,4,5,6,7,13,14,15,16,17,23,24,25,26,27,28,29,30],[3,4,5,6,7,13,14,15,16,17,23,24,25,26,27,28,29,30,31],[3,4,5,6,7,13,14,15,16,17,23,24,25,26,27,28,29,30,31,32],[3,4,5,6,7,13,14,15,16,17,23,24,25,26,27,28,29,30,31,32,33],[3,4,5,6,7,13,14,15,16,17,23,24,25,26,27,28,29,30,31,32,33,34],[3,4,5,6,7,13,14,15,16,17,23,24,25,26,27,28,29,30,31,32,33,34,35],[3,4,5,6,7,13,14,15,16,17,23,24,25,26,27,28,29,30,31,32,33,34,35,36],[3,4,5,6,7,13,14,15,16,17,23,24,25,26,27,28,29,30,31,32,33,34,35,36,37],[0,3,4,5,6,7,8,9,10,11,12,13,14,15,16,17,18,19,20,21,23,24,25,26,27,28,29,30,31],[0,3,4,5,6,7,8,9,10,11,12,13,14,15,16,17,18,19,20,21,23,24,25,26,27,28,29,30,31,39],[0,3,4,5,6,7,8,9,10,11,12,13,14,15,16,17,18,19,20,21,23,24,25,26,27,28,29,30,31,32,33,39,40],[0,1,3,4,5,6,7,8,9,10,11,12,13,14,15,16,17,18,19,20,21,22,23,24,25,26,27,28,29,30,31,32,33,39,40,41],[0,1,3,4,5,6,7,8,9,10,11,12,13,14,15,16,17,18,19,20,21,22,23,24,25,26,27,28,29,30,31,32,33,39,40,41,42],[0,1,3,4,5,6,7,8,9,10,11,12,13,14,15,16,17,18,19,20,21,22,23,24,25,26,27,28,29,30,31,32,33,39,40,41,42,43],[0,1,2,3,4,5,6,7,8,9,10,11,12,13,14,15,16,17,18,19,20,21,22,23,24,25,26,27,28,29,30,31,32,33,34,35,36,37,38,39,40,41,42,43,44],[0,1,2,3,4,5,6,7,8,9,10,11,12,13,14,15,16,17,18,19,20,21,22,23,24,25,26,27,28,29,30,31,32,33,34,35,36,37,38,39,40,41,42,43,44,45],[0,1,2,3,4,5,6,7,8,9,10,11,12,13,14,15,16,17,18,19,20,21,22,23,24,25,26,27,28,29,30,31,32,33,34,35,36,37,38,39,40,41,42,43,44,45,46]] (.calm 0 (.calm 1 (.calm 2 (.calm 3 (.calm 4 (.calm 5 (.calm 6 (.calm 7 (.calm 8 (.calm 9 (.calm 10 (.calm 11 (.calm 12 (.calm 13 (.calm 14 (.calm 15 (.calm 16 (.calm 17 (.calm 18 (.calm 19 (.calm 20 (.calm 21 (.calm 22 (.calm 23 (.calm 24 (.calm 25 (.calm 26 (.calm 27 (.calm 28 (.calm 29 (.calm 30 (.calm 31 (.calm 32 (.calm 33 (.calm 34 (.calm 35 (.calm 36 (.calm 37 (.calm 38 (.calm 39 (.calm 40 (.eff1 41 [] (.calm 42 (.calm 43 (.eff1 44 [] (.calm 45 (.calm 46 (.eff1 47 [] .done)))))))))))))))))))))))))))))))))))))))))))))))))))))
theorem S.styx_input_dir.eq (a0 a1 : Value) (w : World) (R : Value → World → Prop) : S.styx_input_dir a0 a1 w R = fnC PP 63 (Tryz.f100.body.getD .skip) S.styx_input_dir.an [] [a0, a1] w R := by kernel_rfl
theorem S.styx_input_dir.calls {a0 a1 : Value} {w : World} {R : Value → World → Prop} (h : S.styx_input_dir a0 a1 w R) : Ca PP Fn.styx_input_dir #[a0, a1] w R :=
  fnC_calls mixed (f := Fn.styx_input_dir) (an := S.styx_input_dir.an) Tryz.func100 rfl (by show _ ≤ _; exact Nat.le_of_ble_eq_true rfl) (S.styx_input_dir.eq a0 a1 w R ▸ h)
/-- (*acheron/styx.input).long -/
def S.styx_input_long (a0 a1 : Value) (w : World) (R : Value → World → Prop) : Prop :=
 Ca PP Fn.styx_input_least #[a0, a1, (.int .i64 0)] w fun t1 w2 =>
 R (.tuple #[]) w2
def S.styx_input_long.an : Ann := .leaf
theorem S.styx_input_long.eq (a0 a1 : Value) (w : World) (R : Value → World → Prop) : S.styx_input_long a0 a1 w R = fnC PP 7 (Tryz.f101.body.getD .skip) S.styx_input_long.an [] [a0, a1] w R := by kernel_rfl
theorem S.styx_input_long.calls {a0 a1 : Value} {w : World} {R : Value → World → Prop} (h : S.styx_input_long a0 a1 w R) : Ca PP Fn.styx_input_long #[a0, a1] w R :=
  fnC_calls mixed (f := Fn.styx_input_long) (an := S.styx_input_long.an) Tryz.func101 rfl (by show _ ≤ _; exact Nat.le_of_ble_eq_true rfl) (S.styx_input_long.eq a0 a1 w R ▸ h)
/-- (*acheron/styx.input).mode -/
def S.styx_input_mode (a0 a1 : Value) (w : World) (R : Value → World → Prop) : Prop :=
 Ca PP Fn.styx_input_num #[a0, a1, (.int .i64 4)] w fun t1 w2 =>
 Nc a1 fun t3 =>
 Ld t3 w2 fun t4 =>
 Bi .eql t4 (.int .i64 4294967295) fun t5 =>
 Cnd t5 (
 Nc a1 fun t6 =>
 St PP 1 t6 (.int .i64 (-1)) w2 fun w7 =>
 R (.tuple #[]) w7) (
 R (.tuple #[]) w2)
def S.styx_input_mode.an : Ann := (.seq .leaf (.seq .leaf (.cond .leaf .leaf)))
theorem S.styx_input_mode.eq (a0 a1 : Value) (w : World) (R : Value → World → Prop) : S.styx_input_mode a0 a1 w R = fnC PP 13 (Tryz.f102.body.getD .skip) S.styx_input_mode.an [] [a0, a1] w R := by kernel_rfl
theorem S.styx_input_mode.calls {a0 a1 : Value} {w : World} {R : Value → World → Prop} (h : S.styx_input_mode a0 a1 w R) : Ca PP Fn.styx_input_mode #[a0, a1] w R :=
  fnC_calls mixed (f := Fn.styx_input_mode) (an := S.styx_input_mode.an) Tryz.func102 rfl (by show _ ≤ _; exact Nat.le_of_ble_eq_true rfl) (S.styx_input_mode.eq a0 a1 w R ▸ h)
/-- (*acheron/styx.input).names -/
def S.styx_input_names (a0 a1 : Value) (w : World) (R : Value → World → Prop) : Prop :=
 Ca PP Fn.styx_input_count #[a0] w fun t1 w2 =>
 ∃ (I3 : List Value → World → Prop) (m4 : List Value → World → Nat), I3 [t1] w2 ∧ ∀ t7, ∀ (u5 : Env) (w6 : World), I3 [t7] w6 →
 ∀ J8 : List Value → World → Prop, (∀ t11, ∀ w10 : World, (∀ u9 : Env,
 Cnd t11 (
 Dr w10 fun w12 =>
 Nc a1 fun t13 =>
 Ld t13 w12 fun t14 =>
 Ca PP Fn.styx_input_sized #[a0, (.int .i64 2)] w12 fun t15 w16 =>
 (Ld t13 w16 fun t17 =>
 t17 = t14) ∧
 Ef PP (Instr.buildSlice Ty.sl_string 1 #[(0, t15)]) w16 fun t18 w19 =>
 (Ld t13 w19 fun t20 =>
 t20 = t14) ∧
 Ef PP (Builtin.append_ #[Ty.sl_string, Ty.sl_string] Ty.sl_string #[t14, t18]) w19 fun t21 w22 =>
 Nc a1 fun t23 =>
 St PP 1 t23 t21 w22 fun w24 =>
 Bi .sub t7 (.int .i64 1) fun t25 =>
 I3 [t25] w24 ∧ m4 [t25] w24 < m4 [t7] w6) (
 R (.tuple #[]) w10)) → J8 [t11] w10) →
 Bi .gtr t7 (.int .i64 0) fun t26 =>
 Gd t26 true (fun k27 => k27 a0 w6) w6 fun t28 w29 =>
 Gd t26 true (fun k30 => Nc t28 fun t33 =>
 k30 t33 w29) w29 fun t31 w32 =>
 Gd t26 true (fun k34 => Fa 3 t31 fun t37 =>
 k34 t37 w32) w32 fun t35 w36 =>
 Gd t26 true (fun k38 => Ld t35 w36 fun t41 =>
 k38 t41 w36) w36 fun t39 w40 =>
 Gd t26 true (fun k42 => Un .not t39 fun t45 =>
 k42 t45 w40) w40 fun t43 w44 =>
 Pk t26 t43 (.bool false) fun t46 =>
 J8 [t46] w44
def S.styx_input_names.an : Ann := (.seq .leaf (.block (.loop (.seq (.join .leaf [15] [7,8,9,10,11,12,13,14] (.cond .leaf .leaf)) (.seq (.block (.draw [[],[],[1],[1,2],[],[4],[4,5],[1,2,3,4,5,6],[0,1,2,3,4,5,6,7],[0,1,2,3,4,5,6,7,8]] (.calm 0 (.calm 1 (.calm 2 (.calm 3 (.calm 4 (.eff1 5 [3] (.eff1 6 [3] (.eff1 7 [] (.calm 8 (.eff1 9 [] .done)))))))))))) .leaf)) [4] [7,8,9,10,11,12,13,14,15,16,17,18,19,20,21,22,23,24,25,26])))
theorem S.styx_input_names.eq (a0 a1 : Value) (w : World) (R : Value → World → Prop) : S.styx_input_names a0 a1 w R = fnC PP 27 (Tryz.f103.body.getD .skip) S.styx_input_names.an [] [a0, a1] w R := by kernel_rfl
theorem S.styx_input_names.calls {a0 a1 : Value} {w : World} {R : Value → World → Prop} (h : S.styx_input_names a0 a1 w R) : Ca PP Fn.styx_input_names #[a0, a1] w R :=
  fnC_calls mixed (f := Fn.styx_input_names) (an := S.styx_input_names.an) Tryz.func103 rfl (by show _ ≤ _; exact Nat.le_of_ble_eq_true rfl) (S.styx_input_names.eq a0 a1 w R ▸ h)
/-- (*acheron/styx.input).optional -/
def S.styx_input_optional (a0 a1 : Value) (w : World) (R : Value → World → Prop) : Prop :=
 Ca PP Fn.styx_input_least #[a0, a1, (.int .i64 (-1))] w fun t1 w2 =>
 R (.tuple #[]) w2
def S.styx_input_optional.an : Ann := .leaf
theorem S.styx_input_optional.eq (a0 a1 : Value) (w : World) (R : Value → World → Prop) : S.styx_input_optional a0 a1 w R = fnC PP 7 (Tryz.f104.body.getD .skip) S.styx_input_optional.an [] [a0, a1] w R := by kernel_rfl
theorem S.styx_input_optional.calls {a0 a1 : Value} {w : World} {R : Value → World → Prop} (h : S.styx_input_optional a0 a1 w R) : Ca PP Fn.styx_input_optional #[a0, a1] w R :=
  fnC_calls mixed (f := Fn.styx_input_optional) (an := S.styx_input_optional.an) Tryz.func104 rfl (by show _ ≤ _; exact Nat.le_of_ble_eq_true rfl) (S.styx_input_optional.eq a0 a1 w R ▸ h)
/-- (*acheron/styx.input).qids -/
def S.styx_input_qids (a0 a1 : Value) (w : World) (R : Value → World → Prop) : Prop :=
 Ca PP Fn.styx_input_count #[a0] w fun t1 w2 =>
 ∃ (I3 : List Value → World → Prop) (m4 : List Value → World → Nat), I3 [t1] w2 ∧ ∀ t7, ∀ (u5 : Env) (w6 : World), I3 [t7] w6 →
 ∀ J8 : List Value → World → Prop, (∀ t11, ∀ w10 : World, (∀ u9 : Env,
 Cnd t11 (
 Al Ty.api_Qid #[.int .i64 0, .int .i64 0, .int .i64 0] w10 fun t12 w13 =>
 Ca PP Fn.styx_qid #[(.iface Ty.p_styx_input a0), t12] w13 fun t14 w15 =>
 Dr w15 fun w16 =>
 Nc a1 fun t17 =>
 Ld t17 w16 fun t18 =>
 LdA PP 3 t12 w16 fun t19 =>
 Ef PP (Instr.buildSlice Ty.sl_api_Qid 1 #[(0, t19)]) w16 fun t20 w21 =>
 (Ld t17 w21 fun t22 =>
 t22 = t18) ∧
 Ef PP (Builtin.append_ #[Ty.sl_api_Qid, Ty.sl_api_Qid] Ty.sl_api_Qid #[t18, t20]) w21 fun t23 w24 =>
 Nc a1 fun t25 =>
 St PP 1 t25 t23 w24 fun w26 =>
 Bi .sub t7 (.int .i64 1) fun t27 =>
 I3 [t27] w26 ∧ m4 [t27] w26 < m4 [t7] w6) (
 R (.tuple #[]) w10)) → J8 [t11] w10) →
 Bi .gtr t7 (.int .i64 0) fun t28 =>
 Gd t28 true (fun k29 => k29 a0 w6) w6 fun t30 w31 =>
 Gd t28 true (fun k32 => Nc t30 fun t35 =>
 k32 t35 w31) w31 fun t33 w34 =>
 Gd t28 true (fun k36 => Fa 3 t33 fun t39 =>
 k36 t39 w34) w34 fun t37 w38 =>
 Gd t28 true (fun k40 => Ld t37 w38 fun t43 =>
 k40 t43 w38) w38 fun t41 w42 =>
 Gd t28 true (fun k44 => Un .not t41 fun t47 =>
 k44 t47 w42) w42 fun t45 w46 =>
 Pk t28 t45 (.bool false) fun t48 =>
 J8 [t48] w46
def S.styx_input_qids.an : Ann := (.seq .leaf (.block (.loop (.seq (.join .leaf [16] [8,9,10,11,12,13,14,15] (.cond .leaf .leaf)) (.seq (.block (.seq .leaf (.seq .leaf (.draw [[],[],[1],[1,2],[],[4],[1,2,3,4,5],[0,1,2,3,4,5,6],[0,1,2,3,4,5,6,7]] (.calm 0 (.calm 1 (.calm 2 (.calm 3 (.calm 4 (.eff1 5 [3] (.eff1 6 [] (.calm 7 (.eff1 8 [] .done))))))))))))) .leaf)) [4] [5,8,9,10,11,12,13,14,15,16,17,18,19,20,21,22,23,24,25,26,27,28,29])))
theorem S.styx_input_qids.eq (a0 a1 : Value) (w : World) (R : Value → World → Prop) : S.styx_input_qids a0 a1 w R = fnC PP 30 (Tryz.f105.body.getD .skip) S.styx_input_qids.an [] [a0, a1] w R := by kernel_rfl
theorem S.styx_input_qids.calls {a0 a1 : Value} {w : World} {R : Value → World → Prop} (h : S.styx_input_qids a0 a1 w R) : Ca PP Fn.styx_input_qids #[a0, a1] w R :=
  fnC_calls mixed (f := Fn.styx_input_qids) (an := S.styx_input_qids.an) Tryz.func105 rfl (by show _ ≤ _; exact Nat.le_of_ble_eq_true rfl) (S.styx_input_qids.eq a0 a1 w R ▸ h)
/-- (*acheron/styx.input).text -/
def S.styx_input_text (a0 a1 : Value) (w : World) (R : Value → World → Prop) : Prop :=
 Ca PP Fn.styx_input_sized #[a0, (.int .i64 2)] w fun t1 w2 =>
 Nc a1 fun t3 =>
 St PP 1 t3 t1 w2 fun w4 =>
 R (.tuple #[]) w4
def S.styx_input_text.an : Ann := .leaf
theorem S.styx_input_text.eq (a0 a1 : Value) (w : World) (R : Value → World → Prop) : S.styx_input_text a0 a1 w R = fnC PP 8 (Tryz.f106.body.getD .skip) S.styx_input_text.an [] [a0, a1] w R := by kernel_rfl
theorem S.styx_input_text.calls {a0 a1 : Value} {w : World} {R : Value → World → Prop} (h : S.styx_input_text a0 a1 w R) : Ca PP Fn.styx_input_text #[a0, a1] w R :=
  fnC_calls mixed (f := Fn.styx_input_text) (an := S.styx_input_text.an) Tryz.func106 rfl (by show _ ≤ _; exact Nat.le_of_ble_eq_true rfl) (S.styx_input_text.eq a0 a1 w R ▸ h)
/-- (*acheron/styx.input).sized -/
def S.styx_input_sized (a0 a1 : Value) (w : World) (R : Value → World → Prop) : Prop :=
 Al Ty.int #[.int .i64 0] w fun t1 w2 =>
 St PP 1 t1 (.int .i64 0) w2 fun w3 =>
 Ca PP Fn.styx_input_num #[a0, t1, a1] w3 fun t4 w5 =>
 Dr w5 fun w6 =>
 Nc a0 fun t7 =>
 Fa 0 t7 fun t8 =>
 Ld t8 w6 fun t9 =>
 Ld t1 w6 fun t10 =>
 Ca PP Fn.wire_Reader_Raw #[t9, t10] w6 fun t11 w12 =>
 Ex t11 0 fun t13 =>
 Ex t11 1 fun t14 =>
 ∀ J15 : List Value → World → Prop, (∀ w17 : World, (∀ u16 : Env,
 R t13 w17) → J15 [] w17) →
 Nc a0 fun t18 =>
 Fa 3 t18 fun t19 =>
 Ld t19 w12 fun t20 =>
 Gd t20 false (fun k21 => k21 t14 w12) w12 fun t22 w23 =>
 Gd t20 false (fun k24 => Bi .neq t22 (.int .i64 0) fun t27 =>
 k24 t27 w23) w23 fun t25 w26 =>
 Pk t20 (.bool true) t25 fun t28 =>
 Nc a0 fun t29 =>
 Fa 3 t29 fun t30 =>
 St PP 1 t30 t28 w26 fun w31 =>
 J15 [] w31
def S.styx_input_sized.an : Ann := (.seq .leaf (.seq .leaf (.seq .leaf (.seq (.draw [[],[0],[0,1],[0,1,2],[],[0,1,2,3,4],[0,1,2,3,4,5],[0,1,2,3,4,5,6],[0,1,2,3,4,5,6],[0,1,2,3,4,5,6,7],[0,1,2,3,4,5,6,7,8,9]] (.calm 0 (.calm 1 (.calm 2 (.calm 3 (.calm 4 (.eff1 5 [] (.calm 6 (.calm 7 (.calm 8 (.calm 9 (.calm 10 .done)))))))))))) (.join .leaf [] [20,21,22,23,24,25,26,27,28,29,30] (.seq .leaf .leaf))))))
theorem S.styx_input_sized.eq (a0 a1 : Value) (w : World) (R : Value → World → Prop) : S.styx_input_sized a0 a1 w R = fnC PP 32 (Tryz.f107.body.getD .skip) S.styx_input_sized.an [.tmp 4] [a0, a1] w R := by kernel_rfl
theorem S.styx_input_sized.calls {a0 a1 : Value} {w : World} {R : Value → World → Prop} (h : S.styx_input_sized a0 a1 w R) : Ca PP Fn.styx_input_sized #[a0, a1] w R :=
  fnC_calls mixed (f := Fn.styx_input_sized) (an := S.styx_input_sized.an) Tryz.func107 rfl (by show _ ≤ _; exact Nat.le_of_ble_eq_true rfl) (S.styx_input_sized.eq a0 a1 w R ▸ h)
/-- (*acheron/styx.input).least -/
def S.styx_input_least (a0 a1 a2 : Value) (w : World) (R : Value → World → Prop) : Prop :=
 Nc a0 fun t1 =>
 Fa 0 t1 fun t2 =>
 Ld t2 w fun t3 =>
 Ca PP Fn.wire_Reader_Signed #[t3, (.int .i64 8)] w fun t4 w5 =>
 Ex t4 0 fun t6 =>
 Ex t4 1 fun t7 =>
 Dr w5 fun w8 =>
 Nc a0 fun t9 =>
 Fa 1 t9 fun t10 =>
 Ld t10 w8 fun t11 =>
 Gd t11 false (fun k12 => k12 t6 w8) w8 fun t13 w14 =>
 Gd t11 false (fun k15 => k15 a2 w14) w14 fun t16 w17 =>
 Gd t11 false (fun k18 => Bi .lss t13 t16 fun t21 =>
 k18 t21 w17) w17 fun t19 w20 =>
 Pk t11 (.bool true) t19 fun t22 =>
 Nc a0 fun t23 =>
 Fa 3 t23 fun t24 =>
 Ld t24 w20 fun t25 =>
 Gd t25 false (fun k26 => k26 t7 w20) w20 fun t27 w28 =>
 Gd t25 false (fun k29 => Bi .neq t27 (.int .i64 0) fun t32 =>
 k29 t32 w28) w28 fun t30 w31 =>
 Pk t25 (.bool true) t30 fun t33 =>
 Nc a1 fun t34 =>
 St PP 1 t34 t6 w31 fun w35 =>
 Nc a0 fun t36 =>
 Fa 1 t36 fun t37 =>
 St PP 1 t37 t22 w35 fun w38 =>
 Nc a0 fun t39 =>
 Fa 3 t39 fun t40 =>
 St PP 1 t40 t33 w38 fun w41 =>
 R (.tuple #[]) w41
def S.styx_input_least.an : Ann := (.seq .leaf (.draw [[],[],[],[],[],[4],[4,5],[4,5,6],[4,5,6,7],[4,5,6,7,8],[4,5,6,7,8],[4,5,6,7,8,9,10],[4,5,6,7,8,9,10,11],[],[13],[13,14],[13,14,15],[4,5,6,7,8,13,14,15,16],[4,5,6,7,8,13,14,15,16,17],[4,5,6,7,8,13,14,15,16,17,18],[4,5,6,7,8,13,14,15,16,17,18,19],[0,3,4,5,6,7,13,14,15,16],[0,3,4,5,6,7,8,13,14,15,16,17,21],[0,1,3,4,5,6,7,8,9,10,11,12,13,14,15,16,17,21,22],[0,1,3,4,5,6,7,8,9,10,11,12,13,14,15,16,17,21,22,23],[0,1,3,4,5,6,7,8,9,10,11,12,13,14,15,16,17,21,22,23,24],[0,1,2,3,4,5,6,7,8,9,10,11,12,13,14,15,16,17,18,19,20,21,22,23,24,25],[0,1,2,3,4,5,6,7,8,9,10,11,12,13,14,15,16,17,18,19,20,21,22,23,24,25,26],[0,1,2,3,4,5,6,7,8,9,10,11,12,13,14,15,16,17,18,19,20,21,22,23,24,25,26,27]] (.calm 0 (.calm 1 (.calm 2 (.calm 3 (.calm 4 (.calm 5 (.calm 6 (.calm 7 (.calm 8 (.calm 9 (.calm 10 (.calm 11 (.calm 12 (.calm 13 (.calm 14 (.calm 15 (.calm 16 (.calm 17 (.calm 18 (.calm 19 (.calm 20 (.calm 21 (.eff1 22 [] (.calm 23 (.calm 24 (.eff1 25 [] (.calm 26 (.calm 27 (.eff1 28 [] .done)))))))))))))))))))))))))))))))
theorem S.styx_input_least.eq (a0 a1 a2 : Value) (w : World) (R : Value → World → Prop) : S.styx_input_least a0 a1 a2 w R = fnC PP 42 (Tryz.f108.body.getD .skip) S.styx_input_least.an [] [a0, a1, a2] w R := by kernel_rfl
theorem S.styx_input_least.calls {a0 a1 a2 : Value} {w : World} {R : Value → World → Prop} (h : S.styx_input_least a0 a1 a2 w R) : Ca PP Fn.styx_input_least #[a0, a1, a2] w R :=
  fnC_calls mixed (f := Fn.styx_input_least) (an := S.styx_input_least.an) Tryz.func108 rfl (by show _ ≤ _; exact Nat.le_of_ble_eq_true rfl) (S.styx_input_least.eq a0 a1 a2 w R ▸ h)
/-- (*acheron/styx.input).count -/
def S.styx_input_count (a0 : Value) (w : World) (R : Value → World → Prop) : Prop :=
 Al Ty.int #[.int .i64 0] w fun t1 w2 =>
 St PP 1 t1 (.int .i64 0) w2 fun w3 =>
 Ca PP Fn.styx_input_num #[a0, t1, (.int .i64 2)] w3 fun t4 w5 =>
 ∀ J6 : List Value → World → Prop, (∀ w8 : World, (∀ u7 : Env,
 Ld t1 w8 fun t9 =>
 R t9 w8) → J6 [] w8) →
 Nc a0 fun t10 =>
 Fa 2 t10 fun t11 =>
 Ld t11 w5 fun t12 =>
 Gd t12 false (fun k13 => Ld t1 w5 fun t16 =>
 k13 t16 w5) w5 fun t14 w15 =>
 Gd t12 false (fun k17 => Bi .gtr t14 (.int .i64 16) fun t20 =>
 k17 t20 w15) w15 fun t18 w19 =>
 Pk t12 (.bool true) t18 fun t21 =>
 Nc a0 fun t22 =>
 Fa 2 t22 fun t23 =>
 St PP 1 t23 t21 w19 fun w24 =>
 J6 [] w24
def S.styx_input_count.an : Ann := (.seq .leaf (.seq .leaf (.seq .leaf (.join .leaf [] [6,7,8,9,10,11,12,13,14,15,16] (.seq .leaf .leaf)))))
theorem S.styx_input_count.eq (a0 : Value) (w : World) (R : Value → World → Prop) : S.styx_input_count a0 w R = fnC PP 18 (Tryz.f109.body.getD .skip) S.styx_input_count.an [.tmp 2] [a0] w R := by kernel_rfl
theorem S.styx_input_count.calls {a0 : Value} {w : World} {R : Value → World → Prop} (h : S.styx_input_count a0 w R) : Ca PP Fn.styx_input_count #[a0] w R :=
  fnC_calls mixed (f := Fn.styx_input_count) (an := S.styx_input_count.an) Tryz.func109 rfl (by show _ ≤ _; exact Nat.le_of_ble_eq_true rfl) (S.styx_input_count.eq a0 w R ▸ h)
/-- (*acheron/wire.Reader).Raw -/
def S.wire_Reader_Raw (a0 a1 : Value) (w : World) (R : Value → World → Prop) : Prop :=
 Al Ty.p_wire_Reader (a0 : Value).cells w fun t1 w2 =>
 Al Ty.int (a1 : Value).cells w2 fun t3 w4 =>
 Ld t1 w4 fun t5 =>
 Ca PP Fn.wire_reading_string #[t5, (.func (.func Fn.wire_Reader_Raw_1) #[] #[t3, t1])] w4 fun t6 w7 =>
 Ex t6 0 fun t8 =>
 Ex t6 1 fun t9 =>
 R (.tuple #[t8, t9]) w7
def S.wire_Reader_Raw.an : Ann := (.seq .leaf (.seq .leaf .leaf))
theorem S.wire_Reader_Raw.eq (a0 a1 : Value) (w : World) (R : Value → World → Prop) : S.wire_Reader_Raw a0 a1 w R = fnC PP 11 (Tryz.f110.body.getD .skip) S.wire_Reader_Raw.an [.tmp 4, .tmp 5] [a0, a1] w R := by kernel_rfl
theorem S.wire_Reader_Raw.calls {a0 a1 : Value} {w : World} {R : Value → World → Prop} (h : S.wire_Reader_Raw a0 a1 w R) : Ca PP Fn.wire_Reader_Raw #[a0, a1] w R :=
  fnC_calls mixed (f := Fn.wire_Reader_Raw) (an := S.wire_Reader_Raw.an) Tryz.func110 rfl (by show _ ≤ _; exact Nat.le_of_ble_eq_true rfl) (S.wire_Reader_Raw.eq a0 a1 w R ▸ h)
/-- (*acheron/wire.Reader).Signed -/
def S.wire_Reader_Signed (a0 a1 : Value) (w : World) (R : Value → World → Prop) : Prop :=
 Al Ty.p_wire_Reader (a0 : Value).cells w fun t1 w2 =>
 Al Ty.int (a1 : Value).cells w2 fun t3 w4 =>
 Ld t1 w4 fun t5 =>
 Ca PP Fn.wire_reading_int64 #[t5, (.func (.func Fn.wire_Reader_Signed_1) #[] #[t1, t3])] w4 fun t6 w7 =>
 Ex t6 0 fun t8 =>
 Ex t6 1 fun t9 =>
 R (.tuple #[t8, t9]) w7
def S.wire_Reader_Signed.an : Ann := (.seq .leaf (.seq .leaf .leaf))
theorem S.wire_Reader_Signed.eq (a0 a1 : Value) (w : World) (R : Value → World → Prop) : S.wire_Reader_Signed a0 a1 w R = fnC PP 11 (Tryz.f111.body.getD .skip) S.wire_Reader_Signed.an [.tmp 4, .tmp 5] [a0, a1] w R := by kernel_rfl
theorem S.wire_Reader_Signed.calls {a0 a1 : Value} {w : World} {R : Value → World → Prop} (h : S.wire_Reader_Signed a0 a1 w R) : Ca PP Fn.wire_Reader_Signed #[a0, a1] w R :=
  fnC_calls mixed (f := Fn.wire_Reader_Signed) (an := S.wire_Reader_Signed.an) Tryz.func111 rfl (by show _ ≤ _; exact Nat.le_of_ble_eq_true rfl) (S.wire_Reader_Signed.eq a0 a1 w R ▸ h)
/-- acheron/wire.reading[string] -/
def S.wire_reading_string (a0 a1 : Value) (w : World) (R : Value → World → Prop) : Prop :=
 Rd PP (eqS .eql Ty.p_wire_Reader (.tmp 10) (.const (.pointer none)) a0 (.pointer none)) w fun t1 =>
 Cnd t1 (
 R (.tuple #[(.string ⟨#[]⟩), (.int .i64 6)]) w) (
 Nc a0 fun t2 =>
 Fa 2 t2 fun t3 =>
 Ld t3 w fun t4 =>
 Bi .neq t4 (.int .i64 0) fun t5 =>
 Cnd t5 (
 Dr w fun w6 =>
 Nc a0 fun t7 =>
 Fa 2 t7 fun t8 =>
 Ld t8 w6 fun t9 =>
 R (.tuple #[(.string ⟨#[]⟩), t9]) w6) (
 Nc a0 fun t10 =>
 Fa 1 t10 fun t11 =>
 Ld t11 w fun t12 =>
 CaV PP a1 #[] w fun t13 w14 =>
 Ex t13 0 fun t15 =>
 Ex t13 1 fun t16 =>
 Bi .neq t16 (.int .i64 0) fun t17 =>
 Cnd t17 (
 Nc a0 fun t18 =>
 Fa 1 t18 fun t19 =>
 St PP 1 t19 t12 w14 fun w20 =>
 Nc a0 fun t21 =>
 Fa 2 t21 fun t22 =>
 St PP 1 t22 t16 w20 fun w23 =>
 R (.tuple #[(.string ⟨#[]⟩), t16]) w23) (
 R (.tuple #[t15, (.int .i64 0)]) w14)))
def S.wire_reading_string.an : Ann := (.seq .leaf (.seq .leaf (.seq (.seq .leaf (.cond (.seq .leaf .leaf) .leaf)) (.seq (.seq .leaf (.cond (.seq (.draw [[],[],[1],[1,2],[1,2,3],[0],[0,1,2,3,4,5]] (.calm 0 (.calm 1 (.calm 2 (.calm 3 (.calm 4 (.calm 5 (.calm 6 .done)))))))) .leaf) .leaf)) (.seq .leaf (.seq .leaf (.seq (.seq .leaf (.cond (.seq .leaf (.seq .leaf .leaf)) .leaf)) (.seq .leaf .leaf))))))))
theorem S.wire_reading_string.eq (a0 a1 : Value) (w : World) (R : Value → World → Prop) : S.wire_reading_string a0 a1 w R = fnC PP 45 (Tryz.f112.body.getD .skip) S.wire_reading_string.an [.tmp 4, .tmp 5] [a0, a1] w R := by kernel_rfl
theorem S.wire_reading_string.calls {a0 a1 : Value} {w : World} {R : Value → World → Prop} (h : S.wire_reading_string a0 a1 w R) : Ca PP Fn.wire_reading_string #[a0, a1] w R :=
  fnC_calls mixed (f := Fn.wire_reading_string) (an := S.wire_reading_string.an) Tryz.func112 rfl (by show _ ≤ _; exact Nat.le_of_ble_eq_true rfl) (S.wire_reading_string.eq a0 a1 w R ▸ h)
/-- (*acheron/wire.Reader).Raw$1 -/
def S.wire_Reader_Raw_1 (a0 a1 : Value) (w : World) (R : Value → World → Prop) : Prop :=
 Ld a0 w fun t1 =>
 Bi .lss t1 (.int .i64 0) fun t2 =>
 Cnd t2 (
 R (.tuple #[(.string ⟨#[]⟩), (.int .i64 11)]) w) (
 Ld a1 w fun t3 =>
 Ld a0 w fun t4 =>
 Ca PP Fn.wire_Reader_take #[t3, t4] w fun t5 w6 =>
 Ex t5 0 fun t7 =>
 Ex t5 1 fun t8 =>
 R (.tuple #[t7, t8]) w6)
def S.wire_Reader_Raw_1.an : Ann := (.seq .leaf (.seq (.seq .leaf (.cond (.seq .leaf .leaf) .leaf)) (.seq .leaf .leaf)))
theorem S.wire_Reader_Raw_1.eq (a0 a1 : Value) (w : World) (R : Value → World → Prop) : S.wire_Reader_Raw_1 a0 a1 w R = fnC PP 11 (Tryz.f113.body.getD .skip) S.wire_Reader_Raw_1.an [.tmp 2, .tmp 3] [a0, a1] w R := by kernel_rfl
theorem S.wire_Reader_Raw_1.calls {a0 a1 : Value} {w : World} {R : Value → World → Prop} (h : S.wire_Reader_Raw_1 a0 a1 w R) : Ca PP Fn.wire_Reader_Raw_1 #[a0, a1] w R :=
  fnC_calls mixed (f := Fn.wire_Reader_Raw_1) (an := S.wire_Reader_Raw_1.an) Tryz.func113 rfl (by show _ ≤ _; exact Nat.le_of_ble_eq_true rfl) (S.wire_Reader_Raw_1.eq a0 a1 w R ▸ h)
/-- (*acheron/wire.Reader).Signed$1 -/
def S.wire_Reader_Signed_1 (a0 a1 : Value) (w : World) (R : Value → World → Prop) : Prop :=
 Ld a0 w fun t1 =>
 Ld a1 w fun t2 =>
 Ca PP Fn.wire_Reader_little #[t1, t2] w fun t3 w4 =>
 Ex t3 0 fun t5 =>
 Ex t3 1 fun t6 =>
 Bi .neq t6 (.int .i64 0) fun t7 =>
 Cnd t7 (
 R (.tuple #[(.int .i64 0), t6]) w4) (
 Ld a1 w4 fun t8 =>
 Bi .mul (.int .i64 8) t8 fun t9 =>
 Bi .sub (.int .i64 64) t9 fun t10 =>
 Bi .shl t5 t10 fun t11 =>
 Cv .i64 t11 fun t12 =>
 Bi .shr t12 t10 fun t13 =>
 R (.tuple #[t13, (.int .i64 0)]) w4)
def S.wire_Reader_Signed_1.an : Ann := (.seq .leaf (.seq .leaf (.seq (.seq .leaf (.cond (.seq .leaf .leaf) .leaf)) (.seq .leaf (.seq .leaf .leaf)))))
theorem S.wire_Reader_Signed_1.eq (a0 a1 : Value) (w : World) (R : Value → World → Prop) : S.wire_Reader_Signed_1 a0 a1 w R = fnC PP 25 (Tryz.f114.body.getD .skip) S.wire_Reader_Signed_1.an [.tmp 2, .tmp 3] [a0, a1] w R := by kernel_rfl
theorem S.wire_Reader_Signed_1.calls {a0 a1 : Value} {w : World} {R : Value → World → Prop} (h : S.wire_Reader_Signed_1 a0 a1 w R) : Ca PP Fn.wire_Reader_Signed_1 #[a0, a1] w R :=
  fnC_calls mixed (f := Fn.wire_Reader_Signed_1) (an := S.wire_Reader_Signed_1.an) Tryz.func114 rfl (by show _ ≤ _; exact Nat.le_of_ble_eq_true rfl) (S.wire_Reader_Signed_1.eq a0 a1 w R ▸ h)
/-- (acheron/styx.blank).data -/
def S.styx_blank_data (a0 a1 : Value) (w : World) (R : Value → World → Prop) : Prop :=
 Al Ty.styx_blank (a0 : Value).cells w fun t1 w2 =>
 Nc a1 fun t3 =>
 St PP 1 t3 (.string ⟨#[]⟩) w2 fun w4 =>
 R (.tuple #[]) w4
def S.styx_blank_data.an : Ann := (.seq .leaf .leaf)
theorem S.styx_blank_data.eq (a0 a1 : Value) (w : World) (R : Value → World → Prop) : S.styx_blank_data a0 a1 w R = fnC PP 6 (Tryz.f115.body.getD .skip) S.styx_blank_data.an [] [a0, a1] w R := by kernel_rfl
theorem S.styx_blank_data.calls {a0 a1 : Value} {w : World} {R : Value → World → Prop} (h : S.styx_blank_data a0 a1 w R) : Ca PP Fn.styx_blank_data #[a0, a1] w R :=
  fnC_calls mixed (f := Fn.styx_blank_data) (an := S.styx_blank_data.an) Tryz.func115 rfl (by show _ ≤ _; exact Nat.le_of_ble_eq_true rfl) (S.styx_blank_data.eq a0 a1 w R ▸ h)
/-- (acheron/styx.blank).dir -/
def S.styx_blank_dir (a0 a1 : Value) (w : World) (R : Value → World → Prop) : Prop :=
 Al Ty.styx_blank (a0 : Value).cells w fun t1 w2 =>
 Bd #[.int .i64 0, .int .i64 0, .int .i64 0, .int .i64 0, .int .i64 0, .int .i64 0, .string ⟨#[]⟩, .string ⟨#[]⟩, .string ⟨#[]⟩, .string ⟨#[]⟩] [(0, 3), (3, 1), (4, 1), (5, 1), (6, 1), (7, 1), (8, 1), (9, 1)] [] fun t3 =>
 Nc a1 fun t4 =>
 St PP 10 t4 t3 w2 fun w5 =>
 R (.tuple #[]) w5
def S.styx_blank_dir.an : Ann := (.seq .leaf .leaf)
theorem S.styx_blank_dir.eq (a0 a1 : Value) (w : World) (R : Value → World → Prop) : S.styx_blank_dir a0 a1 w R = fnC PP 7 (Tryz.f116.body.getD .skip) S.styx_blank_dir.an [] [a0, a1] w R := by kernel_rfl
theorem S.styx_blank_dir.calls {a0 a1 : Value} {w : World} {R : Value → World → Prop} (h : S.styx_blank_dir a0 a1 w R) : Ca PP Fn.styx_blank_dir #[a0, a1] w R :=
  fnC_calls mixed (f := Fn.styx_blank_dir) (an := S.styx_blank_dir.an) Tryz.func116 rfl (by show _ ≤ _; exact Nat.le_of_ble_eq_true rfl) (S.styx_blank_dir.eq a0 a1 w R ▸ h)
/-- (acheron/styx.blank).long -/
def S.styx_blank_long (a0 a1 : Value) (w : World) (R : Value → World → Prop) : Prop :=
 Al Ty.styx_blank (a0 : Value).cells w fun t1 w2 =>
 Nc a1 fun t3 =>
 St PP 1 t3 (.int .i64 0) w2 fun w4 =>
 R (.tuple #[]) w4
def S.styx_blank_long.an : Ann := (.seq .leaf .leaf)
theorem S.styx_blank_long.eq (a0 a1 : Value) (w : World) (R : Value → World → Prop) : S.styx_blank_long a0 a1 w R = fnC PP 6 (Tryz.f117.body.getD .skip) S.styx_blank_long.an [] [a0, a1] w R := by kernel_rfl
theorem S.styx_blank_long.calls {a0 a1 : Value} {w : World} {R : Value → World → Prop} (h : S.styx_blank_long a0 a1 w R) : Ca PP Fn.styx_blank_long #[a0, a1] w R :=
  fnC_calls mixed (f := Fn.styx_blank_long) (an := S.styx_blank_long.an) Tryz.func117 rfl (by show _ ≤ _; exact Nat.le_of_ble_eq_true rfl) (S.styx_blank_long.eq a0 a1 w R ▸ h)
/-- (acheron/styx.blank).names -/
def S.styx_blank_names (a0 a1 : Value) (w : World) (R : Value → World → Prop) : Prop :=
 Al Ty.styx_blank (a0 : Value).cells w fun t1 w2 =>
 Nc a1 fun t3 =>
 St PP 1 t3 (.slice none 0 0) w2 fun w4 =>
 R (.tuple #[]) w4
def S.styx_blank_names.an : Ann := (.seq .leaf .leaf)
theorem S.styx_blank_names.eq (a0 a1 : Value) (w : World) (R : Value → World → Prop) : S.styx_blank_names a0 a1 w R = fnC PP 6 (Tryz.f119.body.getD .skip) S.styx_blank_names.an [] [a0, a1] w R := by kernel_rfl
theorem S.styx_blank_names.calls {a0 a1 : Value} {w : World} {R : Value → World → Prop} (h : S.styx_blank_names a0 a1 w R) : Ca PP Fn.styx_blank_names #[a0, a1] w R :=
  fnC_calls mixed (f := Fn.styx_blank_names) (an := S.styx_blank_names.an) Tryz.func119 rfl (by show _ ≤ _; exact Nat.le_of_ble_eq_true rfl) (S.styx_blank_names.eq a0 a1 w R ▸ h)
/-- (acheron/styx.blank).num -/
def S.styx_blank_num (a0 a1 a2 : Value) (w : World) (R : Value → World → Prop) : Prop :=
 Al Ty.styx_blank (a0 : Value).cells w fun t1 w2 =>
 Nc a1 fun t3 =>
 St PP 1 t3 (.int .i64 0) w2 fun w4 =>
 R (.tuple #[]) w4
def S.styx_blank_num.an : Ann := (.seq .leaf .leaf)
theorem S.styx_blank_num.eq (a0 a1 a2 : Value) (w : World) (R : Value → World → Prop) : S.styx_blank_num a0 a1 a2 w R = fnC PP 8 (Tryz.f120.body.getD .skip) S.styx_blank_num.an [] [a0, a1, a2] w R := by kernel_rfl
theorem S.styx_blank_num.calls {a0 a1 a2 : Value} {w : World} {R : Value → World → Prop} (h : S.styx_blank_num a0 a1 a2 w R) : Ca PP Fn.styx_blank_num #[a0, a1, a2] w R :=
  fnC_calls mixed (f := Fn.styx_blank_num) (an := S.styx_blank_num.an) Tryz.func120 rfl (by show _ ≤ _; exact Nat.le_of_ble_eq_true rfl) (S.styx_blank_num.eq a0 a1 a2 w R ▸ h)
/-- (acheron/styx.blank).qids -/
def S.styx_blank_qids (a0 a1 : Value) (w : World) (R : Value → World → Prop) : Prop :=
 Al Ty.styx_blank (a0 : Value).cells w fun t1 w2 =>
 Nc a1 fun t3 =>
 St PP 1 t3 (.slice none 0 0) w2 fun w4 =>
 R (.tuple #[]) w4
def S.styx_blank_qids.an : Ann := (.seq .leaf .leaf)
theorem S.styx_blank_qids.eq (a0 a1 : Value) (w : World) (R : Value → World → Prop) : S.styx_blank_qids a0 a1 w R = fnC PP 6 (Tryz.f122.body.getD .skip) S.styx_blank_qids.an [] [a0, a1] w R := by kernel_rfl
theorem S.styx_blank_qids.calls {a0 a1 : Value} {w : World} {R : Value → World → Prop} (h : S.styx_blank_qids a0 a1 w R) : Ca PP Fn.styx_blank_qids #[a0, a1] w R :=
  fnC_calls mixed (f := Fn.styx_blank_qids) (an := S.styx_blank_qids.an) Tryz.func122 rfl (by show _ ≤ _; exact Nat.le_of_ble_eq_true rfl) (S.styx_blank_qids.eq a0 a1 w R ▸ h)
/-- (acheron/styx.blank).text -/
def S.styx_blank_text (a0 a1 : Value) (w : World) (R : Value → World → Prop) : Prop :=
 Al Ty.styx_blank (a0 : Value).cells w fun t1 w2 =>
 Nc a1 fun t3 =>
 St PP 1 t3 (.string ⟨#[]⟩) w2 fun w4 =>
 R (.tuple #[]) w4
def S.styx_blank_text.an : Ann := (.seq .leaf .leaf)
theorem S.styx_blank_text.eq (a0 a1 : Value) (w : World) (R : Value → World → Prop) : S.styx_blank_text a0 a1 w R = fnC PP 6 (Tryz.f123.body.getD .skip) S.styx_blank_text.an [] [a0, a1] w R := by kernel_rfl
theorem S.styx_blank_text.calls {a0 a1 : Value} {w : World} {R : Value → World → Prop} (h : S.styx_blank_text a0 a1 w R) : Ca PP Fn.styx_blank_text #[a0, a1] w R :=
  fnC_calls mixed (f := Fn.styx_blank_text) (an := S.styx_blank_text.an) Tryz.func123 rfl (by show _ ≤ _; exact Nat.le_of_ble_eq_true rfl) (S.styx_blank_text.eq a0 a1 w R ▸ h)
end Go.Proofs.YtmlccboapkkcfaaGreatDoor
