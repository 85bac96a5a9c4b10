/- Own text. -/
import Derived.Test.YtmlccboapkkcfaaDoorSc
namespace Go.Proofs.YtmlccboapkkcfaaDoor
open Go Go.Sh
set_option linter.unusedVariables false
set_option maxRecDepth 100000
/-- acheron/acheronlaw31.fewDirs -/
def S.law31_fewDirs (a0 : Value) (w : World) (R : Value → World → Prop) : Prop :=
 ∀ J1 : List Value → World → Prop, (∀ t4, ∀ w3 : World, (∀ u2 : Env,
 R t4 w3) → J1 [t4] w3) →
 LnL a0 fun t5 =>
 Bi .leq t5 (.int .i64 20) fun t6 =>
 Gd t6 true (fun k7 => k7 a0 w) w fun t8 w9 =>
 Gd t6 true (fun k10 => Ca PP Fn.slices_ContainsFunc_sl_api_Dir_api_Dir #[t8, (.func (.func Fn.law31_fewDirs_1) #[] #[])] w9 fun t13 w14 =>
 k10 t13 w14) w9 fun t11 w12 =>
 Gd t6 true (fun k15 => Un .not t11 fun t18 =>
 k15 t18 w12) w12 fun t16 w17 =>
 Pk t6 t16 (.bool false) fun t19 =>
 J1 [t19] w17
def S.law31_fewDirs.an : Ann := (.seq .leaf (.join .leaf [2] [3,4,5,6,7,8,9,10] .leaf))
theorem S.law31_fewDirs.eq (a0 : Value) (w : World) (R : Value → World → Prop) : S.law31_fewDirs a0 w R = fnC PP 11 (Tryd.f33.body.getD .skip) S.law31_fewDirs.an [.tmp 2] [a0] w R := by kernel_rfl
theorem S.law31_fewDirs.calls {a0 : Value} {w : World} {R : Value → World → Prop} (h : S.law31_fewDirs a0 w R) : Ca PP Fn.law31_fewDirs #[a0] w R :=
  fnC_calls mixed (f := Fn.law31_fewDirs) (an := S.law31_fewDirs.an) Tryd.func33 rfl (by show _ ≤ _; exact Nat.le_of_ble_eq_true rfl) (S.law31_fewDirs.eq a0 w R ▸ h)
/-- acheron/styx.Entries -/
def S.styx_Entries (a0 a1 a2 : Value) (w : World) (R : Value → World → Prop) : Prop :=
 LnL a0 fun t1 =>
 ∃ (I2 : List Value → World → Prop) (m3 : List Value → World → Nat), I2 [(.slice none 0 0), (.int .i64 0)] w ∧ ∀ t6 t7, ∀ (u4 : Env) (w5 : World), I2 [t6, t7] w5 →
 Bi .lss t7 t1 fun t8 =>
 Cnd t8 (
 IxA 10 a0 t7 fun t9 =>
 LdA PP 10 t9 w5 fun t10 =>
 Al Ty.api_Dir #[.int .i64 0, .int .i64 0, .int .i64 0, .int .i64 0, .int .i64 0, .int .i64 0, .string ⟨#[]⟩, .string ⟨#[]⟩, .string ⟨#[]⟩, .string ⟨#[]⟩] w5 fun t11 w12 =>
 St PP 10 t11 t10 w12 fun w13 =>
 LdA PP 10 t11 w13 fun t14 =>
 Ca PP Fn.styx_EncodeDir #[t14] w13 fun t15 w16 =>
 Ex t15 0 fun t17 =>
 Ex t15 1 fun t18 =>
 Bi .neq t18 (.int .i64 0) fun t19 =>
 Cnd t19 (
 R (.tuple #[(.string ⟨#[]⟩), t18]) w16) (
 Ef PP (Instr.buildSlice Ty.sl_string 1 #[(0, t17)]) w16 fun t20 w21 =>
 Ef PP (Builtin.append_ #[Ty.sl_string, Ty.sl_string] Ty.sl_string #[t6, t20]) w21 fun t22 w23 =>
 Bi .add t7 (.int .i64 1) fun t24 =>
 I2 [t22, t24] w23 ∧ m3 [t22, t24] w23 < m3 [t6, t7] w5)) (
 ∃ (I25 : List Value → World → Prop) (m26 : List Value → World → Nat), I25 [a1, t6] w5 ∧ ∀ t29 t30, ∀ (u27 : Env) (w28 : World), I25 [t29, t30] w28 →
 ∀ J31 : List Value → World → Prop, (∀ t34, ∀ w33 : World, (∀ u32 : Env,
 Cnd t34 (
 IxA 1 t30 (.int .i64 0) fun t35 =>
 Ld t35 w33 fun t36 =>
 LnS t36 fun t37 =>
 Bi .sub t29 t37 fun t38 =>
 Sl 1 t30 (some (.int .i64 1)) none fun t39 =>
 I25 [t38, t39] w33 ∧ m26 [t38, t39] w33 < m26 [t29, t30] w28) (
 ∀ J40 : List Value → World → Prop, (∀ t43, ∀ w42 : World, (∀ u41 : Env,
 Cnd t43 (
 R (.tuple #[(.string ⟨#[]⟩), (.int .i64 11)]) w42) (
 ∀ J44 : List Value → World → Prop, (∀ t47, ∀ w46 : World, (∀ u45 : Env,
 Cnd t47 (
 R (.tuple #[(.string ⟨#[]⟩), (.int .i64 3)]) w46) (
 ∀ J48 : List Value → World → Prop, (∀ t51, ∀ w50 : World, (∀ u49 : Env,
 R (.tuple #[t51, (.int .i64 0)]) w50) → J48 [t51] w50) →
 LnL t30 fun t52 =>
 ∃ (I53 : List Value → World → Prop) (m54 : List Value → World → Nat), I53 [(.string ⟨#[]⟩), (.int .i64 0)] w46 ∧ ∀ t57 t58, ∀ (u55 : Env) (w56 : World), I53 [t57, t58] w56 →
 Bi .lss t58 t52 fun t59 =>
 Cnd t59 (
 IxA 1 t30 t58 fun t60 =>
 Ld t60 w56 fun t61 =>
 LnS t57 fun t62 =>
 LnS t61 fun t63 =>
 Bi .add t62 t63 fun t64 =>
 Bi .gtr t64 a2 fun t65 =>
 Cnd t65 (
 J48 [t57] w56) (
 Bi .add t57 t61 fun t66 =>
 Bi .add t58 (.int .i64 1) fun t67 =>
 I53 [t66, t67] w56 ∧ m54 [t66, t67] w56 < m54 [t57, t58] w56)) (
 J48 [t57] w56))) → J44 [t47] w46) →
 LnL t30 fun t68 =>
 Bi .gtr t68 (.int .i64 0) fun t69 =>
 Gd t69 true (fun k70 => k70 t30 w42) w42 fun t71 w72 =>
 Gd t69 true (fun k73 => IxA 1 t71 (.int .i64 0) fun t76 =>
 k73 t76 w72) w72 fun t74 w75 =>
 Gd t69 true (fun k77 => Ld t74 w75 fun t80 =>
 k77 t80 w75) w75 fun t78 w79 =>
 Gd t69 true (fun k81 => LnS t78 fun t84 =>
 k81 t84 w79) w79 fun t82 w83 =>
 Gd t69 true (fun k85 => k85 a2 w83) w83 fun t86 w87 =>
 Gd t69 true (fun k88 => Bi .gtr t82 t86 fun t91 =>
 k88 t91 w87) w87 fun t89 w90 =>
 Pk t69 t89 (.bool false) fun t92 =>
 J44 [t92] w90)) → J40 [t43] w42) →
 Bi .lss a2 (.int .i64 0) fun t93 =>
 Gd t93 false (fun k94 => k94 t29 w33) w33 fun t95 w96 =>
 Gd t93 false (fun k97 => Bi .neq t95 (.int .i64 0) fun t100 =>
 k97 t100 w96) w96 fun t98 w99 =>
 Pk t93 (.bool true) t98 fun t101 =>
 J40 [t101] w99)) → J31 [t34] w33) →
 Bi .gtr t29 (.int .i64 0) fun t102 =>
 Gd t102 true (fun k103 => k103 t30 w28) w28 fun t104 w105 =>
 Gd t102 true (fun k106 => LnL t104 fun t109 =>
 k106 t109 w105) w105 fun t107 w108 =>
 Gd t102 true (fun k110 => Bi .gtr t107 (.int .i64 0) fun t113 =>
 k110 t113 w108) w108 fun t111 w112 =>
 Pk t102 t111 (.bool false) fun t114 =>
 J31 [t114] w112)
def S.styx_Entries.an : Ann := (.seq .leaf (.seq .leaf (.seq (.seq .leaf (.block (.loop (.seq .leaf (.seq (.cond .leaf .leaf) (.seq (.block (.seq .leaf (.seq .leaf (.seq (.seq .leaf (.cond (.seq .leaf .leaf) .leaf)) .leaf)))) .leaf))) [8,18] [6,7,10,11,12,19,20,21,22,23,24,25,26,27,28,29,30,31,32,33,34]))) (.seq (.block (.loop (.seq (.join .leaf [41] [35,36,37,38,39,40] (.cond .leaf .leaf)) (.block (.seq .leaf .leaf))) [1,8] [35,36,37,38,39,40,41,42,43,44,45,46,47,48,49])) (.seq (.block (.join .leaf [50] [51,52,53,54,55,56] (.cond (.seq .leaf .leaf) (.join .leaf [57] [58,59,60,61,62,63,64,65,66,67,68] (.cond (.seq .leaf .leaf) .leaf))))) (.seq .leaf (.join (.seq .leaf (.block (.loop (.seq .leaf (.seq (.cond .leaf .leaf) (.seq (.block (.seq .leaf (.seq (.seq .leaf (.cond .leaf .leaf)) .leaf))) .leaf))) [13,71] [15,72,73,74,75,76,77,78,79,80,81,82,83,84,85]))) [13] [15,69,70,71,72,73,74,75,76,77,78,79,80,81,82,83,84,85] (.seq .leaf .leaf))))))))
theorem S.styx_Entries.eq (a0 a1 a2 : Value) (w : World) (R : Value → World → Prop) : S.styx_Entries a0 a1 a2 w R = fnC PP 87 (Tryd.f34.body.getD .skip) S.styx_Entries.an [.tmp 6, .tmp 7] [a0, a1, a2] w R := by kernel_rfl
theorem S.styx_Entries.calls {a0 a1 a2 : Value} {w : World} {R : Value → World → Prop} (h : S.styx_Entries a0 a1 a2 w R) : Ca PP Fn.styx_Entries #[a0, a1, a2] w R :=
  fnC_calls mixed (f := Fn.styx_Entries) (an := S.styx_Entries.an) Tryd.func34 rfl (by show _ ≤ _; exact Nat.le_of_ble_eq_true rfl) (S.styx_Entries.eq a0 a1 a2 w R ▸ h)
/-- slices.ContainsFunc[[]acheron/api.Dir,acheron/api.Dir] -/
def S.slices_ContainsFunc_sl_api_Dir_api_Dir (a0 a1 : Value) (w : World) (R : Value → World → Prop) : Prop :=
 Ca PP Fn.slices_IndexFunc_sl_api_Dir_api_Dir #[a0, a1] w fun t1 w2 =>
 Bi .geq t1 (.int .i64 0) fun t3 =>
 R t3 w2
def S.slices_ContainsFunc_sl_api_Dir_api_Dir.an : Ann := (.seq .leaf (.seq .leaf .leaf))
theorem S.slices_ContainsFunc_sl_api_Dir_api_Dir.eq (a0 a1 : Value) (w : World) (R : Value → World → Prop) : S.slices_ContainsFunc_sl_api_Dir_api_Dir a0 a1 w R = fnC PP 9 (Tryd.f36.body.getD .skip) S.slices_ContainsFunc_sl_api_Dir_api_Dir.an [.tmp 4] [a0, a1] w R := by kernel_rfl
theorem S.slices_ContainsFunc_sl_api_Dir_api_Dir.calls {a0 a1 : Value} {w : World} {R : Value → World → Prop} (h : S.slices_ContainsFunc_sl_api_Dir_api_Dir a0 a1 w R) : Ca PP Fn.slices_ContainsFunc_sl_api_Dir_api_Dir #[a0, a1] w R :=
  fnC_calls mixed (f := Fn.slices_ContainsFunc_sl_api_Dir_api_Dir) (an := S.slices_ContainsFunc_sl_api_Dir_api_Dir.an) Tryd.func36 rfl (by show _ ≤ _; exact Nat.le_of_ble_eq_true rfl) (S.slices_ContainsFunc_sl_api_Dir_api_Dir.eq a0 a1 w R ▸ h)
/-- acheron/styx.CheckDir -/
def S.styx_CheckDir (a0 : Value) (w : World) (R : Value → World → Prop) : Prop :=
 Al Ty.api_Dir (a0 : Value).cells w fun t1 w2 =>
 LdA PP 10 t1 w2 fun t3 =>
 Ca PP Fn.styx_EncodeDir #[t3] w2 fun t4 w5 =>
 Ex t4 0 fun t6 =>
 Ex t4 1 fun t7 =>
 R t7 w5
def S.styx_CheckDir.an : Ann := (.seq .leaf (.seq .leaf (.seq .leaf .leaf)))
theorem S.styx_CheckDir.eq (a0 : Value) (w : World) (R : Value → World → Prop) : S.styx_CheckDir a0 w R = fnC PP 11 (Tryd.f38.body.getD .skip) S.styx_CheckDir.an [.tmp 2] [a0] w R := by kernel_rfl
theorem S.styx_CheckDir.calls {a0 : Value} {w : World} {R : Value → World → Prop} (h : S.styx_CheckDir a0 w R) : Ca PP Fn.styx_CheckDir #[a0] w R :=
  fnC_calls mixed (f := Fn.styx_CheckDir) (an := S.styx_CheckDir.an) Tryd.func38 rfl (by show _ ≤ _; exact Nat.le_of_ble_eq_true rfl) (S.styx_CheckDir.eq a0 w R ▸ h)
/-- acheron/styx.Dirs -/
def S.styx_Dirs (a0 : Value) (w : World) (R : Value → World → Prop) : Prop :=
 ∃ (I1 : List Value → World → Prop) (m2 : List Value → World → Nat), I1 [a0, (.slice none 0 0)] w ∧ ∀ t5 t6, ∀ (u3 : Env) (w4 : World), I1 [t5, t6] w4 →
 Bi .neq t5 (.string ⟨#[]⟩) fun t7 =>
 Cnd t7 (
 Ca PP Fn.styx_DecodeDir #[t5] w4 fun t8 w9 =>
 Ex t8 0 fun t10 =>
 Ex t8 1 fun t11 =>
 Ex t8 2 fun t12 =>
 Al Ty.api_Dir #[.int .i64 0, .int .i64 0, .int .i64 0, .int .i64 0, .int .i64 0, .int .i64 0, .string ⟨#[]⟩, .string ⟨#[]⟩, .string ⟨#[]⟩, .string ⟨#[]⟩] w9 fun t13 w14 =>
 St PP 10 t13 t10 w14 fun w15 =>
 Bi .neq t12 (.int .i64 0) fun t16 =>
 Cnd t16 (
 R (.tuple #[(.slice none 0 0), t12]) w15) (
 Dr w15 fun w17 =>
 LdA PP 10 t13 w17 fun t18 =>
 SlS t5 (some t11) none fun t19 =>
 Ef PP (Instr.buildSlice Ty.sl_api_Dir 1 #[(0, t18)]) w17 fun t20 w21 =>
 Ef PP (Builtin.append_ #[Ty.sl_api_Dir, Ty.sl_api_Dir] Ty.sl_api_Dir #[t6, t20]) w21 fun t22 w23 =>
 I1 [t19, t22] w23 ∧ m2 [t19, t22] w23 < m2 [t5, t6] w4)) (
 R (.tuple #[t6, (.int .i64 0)]) w4)
def S.styx_Dirs.an : Ann := (.seq .leaf (.seq .leaf (.seq (.block (.loop (.seq (.seq .leaf (.cond .leaf .leaf)) (.block (.seq .leaf (.seq (.seq .leaf (.cond (.seq .leaf .leaf) .leaf)) (.draw [[],[],[1],[0,1,2],[],[],[4,5],[0,1,2,3],[0,1,2,3,4,5,6,7]] (.calm 0 (.calm 1 (.calm 4 (.calm 5 (.calm 6 (.eff1 2 [] (.eff1 3 [] (.calm 7 (.calm 8 .done)))))))))))))) [0,4] [2,3,5,6,7,8,9,10,11,12,13,14,15,16,17,18,19,20,21,22,23,24,25])) (.seq .leaf .leaf))))
theorem S.styx_Dirs.eq (a0 : Value) (w : World) (R : Value → World → Prop) : S.styx_Dirs a0 w R = fnC PP 27 (Tryd.f39.body.getD .skip) S.styx_Dirs.an [.tmp 2, .tmp 3] [a0] w R := by kernel_rfl
theorem S.styx_Dirs.calls {a0 : Value} {w : World} {R : Value → World → Prop} (h : S.styx_Dirs a0 w R) : Ca PP Fn.styx_Dirs #[a0] w R :=
  fnC_calls mixed (f := Fn.styx_Dirs) (an := S.styx_Dirs.an) Tryd.func39 rfl (by show _ ≤ _; exact Nat.le_of_ble_eq_true rfl) (S.styx_Dirs.eq a0 w R ▸ h)
/-- slices.Equal[[]acheron/api.Dir,acheron/api.Dir] -/
def S.slices_Equal_sl_api_Dir_api_Dir (a0 a1 : Value) (w : World) (R : Value → World → Prop) : Prop :=
 LnL a0 fun t1 =>
 LnL a1 fun t2 =>
 Bi .neq t1 t2 fun t3 =>
 Cnd t3 (
 R (.bool false) w) (
 LnL a0 fun t4 =>
 ∃ (I5 : List Value → World → Prop) (m6 : List Value → World → Nat), I5 [(.int .i64 0)] w ∧ ∀ t9, ∀ (u7 : Env) (w8 : World), I5 [t9] w8 →
 Bi .lss t9 t4 fun t10 =>
 Cnd t10 (
 Dr w8 fun w11 =>
 IxA 10 a0 t9 fun t12 =>
 LdA PP 10 t12 w11 fun t13 =>
 IxA 10 a1 t9 fun t14 =>
 LdA PP 10 t14 w11 fun t15 =>
 Rd PP (eqS .neq Ty.api_Dir (.tmp 19) (.tmp 23) t13 t15) w11 fun t16 =>
 Cnd t16 (
 R (.bool false) w11) (
 Bi .add t9 (.int .i64 1) fun t17 =>
 I5 [t17] w11 ∧ m6 [t17] w11 < m6 [t9] w8)) (
 R (.bool true) w8))
def S.slices_Equal_sl_api_Dir_api_Dir.an : Ann := (.seq .leaf (.seq (.seq .leaf (.cond (.seq .leaf .leaf) .leaf)) (.seq (.seq .leaf (.block (.loop (.seq .leaf (.seq (.cond .leaf .leaf) (.seq (.block (.seq .leaf (.seq (.draw [[],[],[0,1],[0,1,2],[],[],[4,5],[4,5,6],[0,1,2,3,4,5,6,7]] (.calm 0 (.calm 1 (.calm 2 (.calm 3 (.calm 4 (.calm 5 (.calm 6 (.calm 7 (.calm 8 .done)))))))))) (.cond (.seq .leaf .leaf) .leaf)))) .leaf))) [13] [4,5,14,15,16,17,18,19,20,21,22,23,24,25]))) (.seq .leaf .leaf))))
theorem S.slices_Equal_sl_api_Dir_api_Dir.eq (a0 a1 : Value) (w : World) (R : Value → World → Prop) : S.slices_Equal_sl_api_Dir_api_Dir a0 a1 w R = fnC PP 26 (Tryd.f40.body.getD .skip) S.slices_Equal_sl_api_Dir_api_Dir.an [.tmp 4] [a0, a1] w R := by kernel_rfl
theorem S.slices_Equal_sl_api_Dir_api_Dir.calls {a0 a1 : Value} {w : World} {R : Value → World → Prop} (h : S.slices_Equal_sl_api_Dir_api_Dir a0 a1 w R) : Ca PP Fn.slices_Equal_sl_api_Dir_api_Dir #[a0, a1] w R :=
  fnC_calls mixed (f := Fn.slices_Equal_sl_api_Dir_api_Dir) (an := S.slices_Equal_sl_api_Dir_api_Dir.an) Tryd.func40 rfl (by show _ ≤ _; exact Nat.le_of_ble_eq_true rfl) (S.slices_Equal_sl_api_Dir_api_Dir.eq a0 a1 w R ▸ h)
/-- acheron/acheronlaw31.room -/
def S.law31_room (a0 : Value) (w : World) (R : Value → World → Prop) : Prop :=
 Al Ty.api_Dir (a0 : Value).cells w fun t1 w2 =>
 Fa 6 t1 fun t3 =>
 Ld t3 w2 fun t4 =>
 LnS t4 fun t5 =>
 Fa 7 t1 fun t6 =>
 Ld t6 w2 fun t7 =>
 LnS t7 fun t8 =>
 Bi .add t5 t8 fun t9 =>
 Fa 8 t1 fun t10 =>
 Ld t10 w2 fun t11 =>
 LnS t11 fun t12 =>
 Bi .add t9 t12 fun t13 =>
 Fa 9 t1 fun t14 =>
 Ld t14 w2 fun t15 =>
 LnS t15 fun t16 =>
 Bi .add t13 t16 fun t17 =>
 R t17 w2
def S.law31_room.an : Ann := (.seq .leaf (.seq .leaf .leaf))
theorem S.law31_room.eq (a0 : Value) (w : World) (R : Value → World → Prop) : S.law31_room a0 w R = fnC PP 18 (Tryd.f41.body.getD .skip) S.law31_room.an [.tmp 2] [a0] w R := by kernel_rfl
theorem S.law31_room.calls {a0 : Value} {w : World} {R : Value → World → Prop} (h : S.law31_room a0 w R) : Ca PP Fn.law31_room #[a0] w R :=
  fnC_calls mixed (f := Fn.law31_room) (an := S.law31_room.an) Tryd.func41 rfl (by show _ ≤ _; exact Nat.le_of_ble_eq_true rfl) (S.law31_room.eq a0 w R ▸ h)
/-- acheron/styx.known -/
def S.styx_known (a0 : Value) (w : World) (R : Value → World → Prop) : Prop :=
 Ca PP Fn.styx_Word #[a0] w fun t1 w2 =>
 Bi .neq t1 (.string ⟨#[]⟩) fun t3 =>
 R t3 w2
def S.styx_known.an : Ann := (.seq .leaf (.seq .leaf .leaf))
theorem S.styx_known.eq (a0 : Value) (w : World) (R : Value → World → Prop) : S.styx_known a0 w R = fnC PP 6 (Tryd.f42.body.getD .skip) S.styx_known.an [.tmp 2] [a0] w R := by kernel_rfl
theorem S.styx_known.calls {a0 : Value} {w : World} {R : Value → World → Prop} (h : S.styx_known a0 w R) : Ca PP Fn.styx_known #[a0] w R :=
  fnC_calls mixed (f := Fn.styx_known) (an := S.styx_known.an) Tryd.func42 rfl (by show _ ≤ _; exact Nat.le_of_ble_eq_true rfl) (S.styx_known.eq a0 w R ▸ h)
/-- acheron/styx.shaped -/
def S.styx_shaped (a0 : Value) (w : World) (R : Value → World → Prop) : Prop :=
 Al Ty.api_Msg (a0 : Value).cells w fun t1 w2 =>
 ∀ J3 : List Value → World → Prop, (∀ w5 : World, (∀ u4 : Env,
 Bd #[] [] [] fun t6 =>
 Ca PP Fn.styx_fields #[(.iface Ty.styx_blank t6), t1] w5 fun t7 w8 =>
 ∀ J9 : List Value → World → Prop, (∀ w11 : World, (∀ u10 : Env,
 ∀ J12 : List Value → World → Prop, (∀ t15, ∀ w14 : World, (∀ u13 : Env,
 R t15 w14) → J12 [t15] w14) →
 Fa 13 t1 fun t16 =>
 Ld t16 w11 fun t17 =>
 LnL t17 fun t18 =>
 Bi .eql t18 (.int .i64 0) fun t19 =>
 Gd t19 true (fun k20 => Fa 14 t1 fun t23 =>
 k20 t23 w11) w11 fun t21 w22 =>
 Gd t19 true (fun k24 => Ld t21 w22 fun t27 =>
 k24 t27 w22) w22 fun t25 w26 =>
 Gd t19 true (fun k28 => LnL t25 fun t31 =>
 k28 t31 w26) w26 fun t29 w30 =>
 Gd t19 true (fun k32 => Bi .eql t29 (.int .i64 0) fun t35 =>
 k32 t35 w30) w30 fun t33 w34 =>
 Pk t19 t33 (.bool false) fun t36 =>
 Gd t36 true (fun k37 => Fa 2 t1 fun t40 =>
 k37 t40 w34) w34 fun t38 w39 =>
 Gd t36 true (fun k41 => Ld t38 w39 fun t44 =>
 k41 t44 w39) w39 fun t42 w43 =>
 Gd t36 true (fun k45 => Fa 3 t1 fun t48 =>
 k45 t48 w43) w43 fun t46 w47 =>
 Gd t36 true (fun k49 => Ld t46 w47 fun t52 =>
 k49 t52 w47) w47 fun t50 w51 =>
 Gd t36 true (fun k53 => Bi .or t42 t50 fun t56 =>
 k53 t56 w51) w51 fun t54 w55 =>
 Gd t36 true (fun k57 => Fa 4 t1 fun t60 =>
 k57 t60 w55) w55 fun t58 w59 =>
 Gd t36 true (fun k61 => Ld t58 w59 fun t64 =>
 k61 t64 w59) w59 fun t62 w63 =>
 Gd t36 true (fun k65 => Bi .or t54 t62 fun t68 =>
 k65 t68 w63) w63 fun t66 w67 =>
 Gd t36 true (fun k69 => Fa 5 t1 fun t72 =>
 k69 t72 w67) w67 fun t70 w71 =>
 Gd t36 true (fun k73 => Ld t70 w71 fun t76 =>
 k73 t76 w71) w71 fun t74 w75 =>
 Gd t36 true (fun k77 => Bi .or t66 t74 fun t80 =>
 k77 t80 w75) w75 fun t78 w79 =>
 Gd t36 true (fun k81 => Fa 7 t1 fun t84 =>
 k81 t84 w79) w79 fun t82 w83 =>
 Gd t36 true (fun k85 => Ld t82 w83 fun t88 =>
 k85 t88 w83) w83 fun t86 w87 =>
 Gd t36 true (fun k89 => Bi .or t78 t86 fun t92 =>
 k89 t92 w87) w87 fun t90 w91 =>
 Gd t36 true (fun k93 => Fa 8 t1 fun t96 =>
 k93 t96 w91) w91 fun t94 w95 =>
 Gd t36 true (fun k97 => Ld t94 w95 fun t100 =>
 k97 t100 w95) w95 fun t98 w99 =>
 Gd t36 true (fun k101 => Bi .or t90 t98 fun t104 =>
 k101 t104 w99) w99 fun t102 w103 =>
 Gd t36 true (fun k105 => Fa 26 t1 fun t108 =>
 k105 t108 w103) w103 fun t106 w107 =>
 Gd t36 true (fun k109 => Ld t106 w107 fun t112 =>
 k109 t112 w107) w107 fun t110 w111 =>
 Gd t36 true (fun k113 => Bi .or t102 t110 fun t116 =>
 k113 t116 w111) w111 fun t114 w115 =>
 Gd t36 true (fun k117 => Bi .eql t114 (.int .i64 0) fun t120 =>
 k117 t120 w115) w115 fun t118 w119 =>
 Pk t36 t118 (.bool false) fun t121 =>
 Gd t121 true (fun k122 => Fa 6 t1 fun t125 =>
 k122 t125 w119) w119 fun t123 w124 =>
 Gd t121 true (fun k126 => Ld t123 w124 fun t129 =>
 k126 t129 w124) w124 fun t127 w128 =>
 Gd t121 true (fun k130 => Bi .eql t127 (.int .i64 0) fun t133 =>
 k130 t133 w128) w128 fun t131 w132 =>
 Pk t121 t131 (.bool false) fun t134 =>
 Gd t134 true (fun k135 => Fa 9 t1 fun t138 =>
 k135 t138 w132) w132 fun t136 w137 =>
 Gd t134 true (fun k139 => Ld t136 w137 fun t142 =>
 k139 t142 w137) w137 fun t140 w141 =>
 Gd t134 true (fun k143 => Fa 10 t1 fun t146 =>
 k143 t146 w141) w141 fun t144 w145 =>
 Gd t134 true (fun k147 => Ld t144 w145 fun t150 =>
 k147 t150 w145) w145 fun t148 w149 =>
 Gd t134 true (fun k151 => Bi .add t140 t148 fun t154 =>
 k151 t154 w149) w149 fun t152 w153 =>
 Gd t134 true (fun k155 => Fa 11 t1 fun t158 =>
 k155 t158 w153) w153 fun t156 w157 =>
 Gd t134 true (fun k159 => Ld t156 w157 fun t162 =>
 k159 t162 w157) w157 fun t160 w161 =>
 Gd t134 true (fun k163 => Bi .add t152 t160 fun t166 =>
 k163 t166 w161) w161 fun t164 w165 =>
 Gd t134 true (fun k167 => Fa 12 t1 fun t170 =>
 k167 t170 w165) w165 fun t168 w169 =>
 Gd t134 true (fun k171 => Ld t168 w169 fun t174 =>
 k171 t174 w169) w169 fun t172 w173 =>
 Gd t134 true (fun k175 => Bi .add t164 t172 fun t178 =>
 k175 t178 w173) w173 fun t176 w177 =>
 Gd t134 true (fun k179 => Fa 15 t1 fun t182 =>
 k179 t182 w177) w177 fun t180 w181 =>
 Gd t134 true (fun k183 => Ld t180 w181 fun t186 =>
 k183 t186 w181) w181 fun t184 w185 =>
 Gd t134 true (fun k187 => Bi .add t176 t184 fun t190 =>
 k187 t190 w185) w185 fun t188 w189 =>
 Gd t134 true (fun k191 => Bi .eql t188 (.string ⟨#[]⟩) fun t194 =>
 k191 t194 w189) w189 fun t192 w193 =>
 Pk t134 t192 (.bool false) fun t195 =>
 Gd t195 true (fun k196 => Fa 16 t1 fun t199 =>
 k196 t199 w193) w193 fun t197 w198 =>
 Gd t195 true (fun k200 => LdA PP 10 t197 w198 fun t203 =>
 k200 t203 w198) w198 fun t201 w202 =>
 Gd t195 true (fun k204 => Bd #[.int .i64 0, .int .i64 0, .int .i64 0, .int .i64 0, .int .i64 0, .int .i64 0, .string ⟨#[]⟩, .string ⟨#[]⟩, .string ⟨#[]⟩, .string ⟨#[]⟩] [(0, 3), (3, 1), (4, 1), (5, 1), (6, 1), (7, 1), (8, 1), (9, 1)] [] fun t207 =>
 k204 t207 w202) w202 fun t205 w206 =>
 Gd t195 true (fun k208 => Rd PP (eqS .eql Ty.api_Dir (.tmp 76) (.tmp 77) t201 t205) w206 fun t211 =>
 k208 t211 w206) w206 fun t209 w210 =>
 Pk t195 t209 (.bool false) fun t212 =>
 J12 [t212] w210) → J9 [] w11) →
 Fa 0 t1 fun t213 =>
 Ld t213 w8 fun t214 =>
 Ca PP Fn.styx_single #[t214] w8 fun t215 w216 =>
 Cnd t215 (
 Fa 14 t1 fun t217 =>
 St PP 1 t217 (.slice none 0 0) w216 fun w218 =>
 J9 [] w218) (
 J9 [] w216)) → J3 [] w5) →
 Fa 0 t1 fun t219 =>
 Ld t219 w2 fun t220 =>
 Ca PP Fn.styx_single #[t220] w2 fun t221 w222 =>
 Cnd t221 (
 Fa 14 t1 fun t223 =>
 Ld t223 w222 fun t224 =>
 LnL t224 fun t225 =>
 Bi .neq t225 (.int .i64 1) fun t226 =>
 Cnd t226 (
 R (.bool false) w222) (
 Ef PP (Instr.makeSlice Ty.sl_api_Qid (.int .i64 1) (.int .i64 1)) w222 fun t227 w228 =>
 Fa 14 t1 fun t229 =>
 St PP 1 t229 t227 w228 fun w230 =>
 J3 [] w230)) (
 J3 [] w222)
def S.styx_shaped.an : Ann := (.seq .leaf (.join (.seq .leaf (.cond (.seq (.seq .leaf (.cond (.seq .leaf .leaf) .leaf)) .leaf) .leaf)) [] [2,3,4,5,6,7,8,9,10,11] (.seq .leaf (.join (.seq .leaf (.cond .leaf .leaf)) [] [15,16,17,18] (.join .leaf [2] [19,20,21,22,23,24,25,26,27,28,29,30,31,32,33,34,35,36,37,38,39,40,41,42,43,44,45,46,47,48,49,50,51,52,53,54,55,56,57,58,59,60,61,62,63,64,65,66,67,68,69,70,71,72,73,74,75,76,77,78,79] .leaf)))))
theorem S.styx_shaped.eq (a0 : Value) (w : World) (R : Value → World → Prop) : S.styx_shaped a0 w R = fnC PP 80 (Tryd.f43.body.getD .skip) S.styx_shaped.an [.tmp 2] [a0] w R := by kernel_rfl
theorem S.styx_shaped.calls {a0 : Value} {w : World} {R : Value → World → Prop} (h : S.styx_shaped a0 w R) : Ca PP Fn.styx_shaped #[a0] w R :=
  fnC_calls mixed (f := Fn.styx_shaped) (an := S.styx_shaped.an) Tryd.func43 rfl (by show _ ≤ _; exact Nat.le_of_ble_eq_true rfl) (S.styx_shaped.eq a0 w R ▸ h)
/-- (*acheron/wire.Writer).Little -/
def S.wire_Writer_Little (a0 a1 a2 : Value) (w : World) (R : Value → World → Prop) : Prop :=
 Rd PP (eqS .eql Ty.p_wire_Writer (.tmp 8) (.const (.pointer none)) a0 (.pointer none)) w fun t1 =>
 Cnd t1 (
 R (.int .i64 6) w) (
 Ca PP Fn.wire_width #[a2] w fun t2 w3 =>
 Un .not t2 fun t4 =>
 Cnd t4 (
 R (.int .i64 1) w3) (
 ∀ J5 : List Value → World → Prop, (∀ t8, ∀ w7 : World, (∀ u6 : Env,
 Cnd t8 (
 R (.int .i64 11) w7) (
 Ca PP Fn.wire_Writer_little #[a0, a1, a2] w7 fun t9 w10 =>
 R t9 w10)) → J5 [t8] w7) →
 Bi .lss a1 (.int .i64 0) fun t11 =>
 Gd t11 false (fun k12 => k12 a2 w3) w3 fun t13 w14 =>
 Gd t11 false (fun k15 => Bi .lss t13 (.int .i64 8) fun t18 =>
 k15 t18 w14) w14 fun t16 w17 =>
 Gd t11 false (fun k19 => k19 t16 w17) w17 fun t20 w21 =>
 Gd t20 true (fun k22 => k22 a1 w21) w21 fun t23 w24 =>
 Gd t20 true (fun k25 => k25 a2 w24) w24 fun t26 w27 =>
 Gd t20 true (fun k28 => Bi .mul (.int .i64 8) t26 fun t31 =>
 k28 t31 w27) w27 fun t29 w30 =>
 Gd t20 true (fun k32 => Bi .shr t23 t29 fun t35 =>
 k32 t35 w30) w30 fun t33 w34 =>
 Gd t20 true (fun k36 => Bi .neq t33 (.int .i64 0) fun t39 =>
 k36 t39 w34) w34 fun t37 w38 =>
 Gd t11 false (fun k40 => Pk t20 t37 (.bool false) fun t43 =>
 k40 t43 w38) w38 fun t41 w42 =>
 Pk t11 (.bool true) t41 fun t44 =>
 J5 [t44] w42))
def S.wire_Writer_Little.an : Ann := (.seq .leaf (.seq (.block (.seq .leaf (.cond (.seq .leaf .leaf) (.seq .leaf (.cond (.seq .leaf .leaf) (.join .leaf [14] [15,16,17,18,19,20,21,22,23,24,25,26,27] (.cond (.seq .leaf .leaf) .leaf))))))) (.seq .leaf .leaf)))
theorem S.wire_Writer_Little.eq (a0 a1 a2 : Value) (w : World) (R : Value → World → Prop) : S.wire_Writer_Little a0 a1 a2 w R = fnC PP 32 (Tryd.f44.body.getD .skip) S.wire_Writer_Little.an [.tmp 6] [a0, a1, a2] w R := by kernel_rfl
theorem S.wire_Writer_Little.calls {a0 a1 a2 : Value} {w : World} {R : Value → World → Prop} (h : S.wire_Writer_Little a0 a1 a2 w R) : Ca PP Fn.wire_Writer_Little #[a0, a1, a2] w R :=
  fnC_calls mixed (f := Fn.wire_Writer_Little) (an := S.wire_Writer_Little.an) Tryd.func44 rfl (by show _ ≤ _; exact Nat.le_of_ble_eq_true rfl) (S.wire_Writer_Little.eq a0 a1 a2 w R ▸ h)
/-- (*acheron/styx.output).num -/
def S.styx_output_num (a0 a1 a2 : Value) (w : World) (R : Value → World → Prop) : Prop :=
 Dr w fun w1 =>
 Nc a0 fun t2 =>
 Fa 0 t2 fun t3 =>
 Nc a1 fun t4 =>
 Ld t4 w1 fun t5 =>
 Ca PP Fn.wire_Writer_Little #[t3, t5, a2] w1 fun t6 w7 =>
 Bi .neq t6 (.int .i64 0) fun t8 =>
 Cnd t8 (
 Nc a0 fun t9 =>
 Fa 1 t9 fun t10 =>
 St PP 1 t10 (.bool true) w7 fun w11 =>
 R (.tuple #[]) w11) (
 R (.tuple #[]) w7)
def S.styx_output_num.an : Ann := (.seq (.draw [[],[0],[0,1],[],[3],[3,4],[],[0,1,2,3,4,5,6],[0,1,2,3,4,5,6,7]] (.calm 0 (.calm 1 (.calm 2 (.calm 3 (.calm 4 (.calm 5 (.calm 6 (.eff1 7 [] (.calm 8 .done)))))))))) (.cond .leaf .leaf))
theorem S.styx_output_num.eq (a0 a1 a2 : Value) (w : World) (R : Value → World → Prop) : S.styx_output_num a0 a1 a2 w R = fnC PP 18 (Tryd.f45.body.getD .skip) S.styx_output_num.an [] [a0, a1, a2] w R := by kernel_rfl
theorem S.styx_output_num.calls {a0 a1 a2 : Value} {w : World} {R : Value → World → Prop} (h : S.styx_output_num a0 a1 a2 w R) : Ca PP Fn.styx_output_num #[a0, a1, a2] w R :=
  fnC_calls mixed (f := Fn.styx_output_num) (an := S.styx_output_num.an) Tryd.func45 rfl (by show _ ≤ _; exact Nat.le_of_ble_eq_true rfl) (S.styx_output_num.eq a0 a1 a2 w R ▸ h)
/-- acheron/styx.fields -/
def S.styx_fields (a0 a1 : Value) (w : World) (R : Value → World → Prop) : Prop :=
 Nc a1 fun t1 =>
 Fa 0 t1 fun t2 =>
 Ld t2 w fun t3 =>
 ∀ J4 : List Value → World → Prop, (∀ t7, ∀ w6 : World, (∀ u5 : Env,
 Cnd t7 (
 Dr w6 fun w8 =>
 Nc a1 fun t9 =>
 Fa 5 t9 fun t10 =>
 NcF PP (.func (.method "acheron/styx.num") #[a0] #[]) fun t11 =>
 Iv PP a0 "acheron/styx.num" #[t10, (.int .i64 4)] w8 fun t12 w13 =>
 Dr w13 fun w14 =>
 Nc a1 fun t15 =>
 Fa 9 t15 fun t16 =>
 NcF PP (.func (.method "acheron/styx.text") #[a0] #[]) fun t17 =>
 Iv PP a0 "acheron/styx.text" #[t16] w14 fun t18 w19 =>
 R (.tuple #[]) w19) (
 Bi .eql t3 (.int .i64 102) fun t20 =>
 Cnd t20 (
 Dr w6 fun w21 =>
 Nc a1 fun t22 =>
 Fa 2 t22 fun t23 =>
 NcF PP (.func (.method "acheron/styx.num") #[a0] #[]) fun t24 =>
 Iv PP a0 "acheron/styx.num" #[t23, (.int .i64 4)] w21 fun t25 w26 =>
 Dr w26 fun w27 =>
 Nc a1 fun t28 =>
 Fa 10 t28 fun t29 =>
 NcF PP (.func (.method "acheron/styx.text") #[a0] #[]) fun t30 =>
 Iv PP a0 "acheron/styx.text" #[t29] w27 fun t31 w32 =>
 Dr w32 fun w33 =>
 Nc a1 fun t34 =>
 Fa 11 t34 fun t35 =>
 NcF PP (.func (.method "acheron/styx.text") #[a0] #[]) fun t36 =>
 Iv PP a0 "acheron/styx.text" #[t35] w33 fun t37 w38 =>
 R (.tuple #[]) w38) (
 Bi .eql t3 (.int .i64 104) fun t39 =>
 Cnd t39 (
 Dr w6 fun w40 =>
 Nc a1 fun t41 =>
 Fa 2 t41 fun t42 =>
 NcF PP (.func (.method "acheron/styx.num") #[a0] #[]) fun t43 =>
 Iv PP a0 "acheron/styx.num" #[t42, (.int .i64 4)] w40 fun t44 w45 =>
 Dr w45 fun w46 =>
 Nc a1 fun t47 =>
 Fa 3 t47 fun t48 =>
 NcF PP (.func (.method "acheron/styx.num") #[a0] #[]) fun t49 =>
 Iv PP a0 "acheron/styx.num" #[t48, (.int .i64 4)] w46 fun t50 w51 =>
 Dr w51 fun w52 =>
 Nc a1 fun t53 =>
 Fa 10 t53 fun t54 =>
 NcF PP (.func (.method "acheron/styx.text") #[a0] #[]) fun t55 =>
 Iv PP a0 "acheron/styx.text" #[t54] w52 fun t56 w57 =>
 Dr w57 fun w58 =>
 Nc a1 fun t59 =>
 Fa 11 t59 fun t60 =>
 NcF PP (.func (.method "acheron/styx.text") #[a0] #[]) fun t61 =>
 Iv PP a0 "acheron/styx.text" #[t60] w58 fun t62 w63 =>
 R (.tuple #[]) w63) (
 ∀ J64 : List Value → World → Prop, (∀ t67, ∀ w66 : World, (∀ u65 : Env,
 Cnd t67 (
 Ca PP Fn.styx_one #[a0, a1] w66 fun t68 w69 =>
 R (.tuple #[]) w69) (
 Bi .eql t3 (.int .i64 107) fun t70 =>
 Cnd t70 (
 Nc a1 fun t71 =>
 Fa 26 t71 fun t72 =>
 Ld t72 w66 fun t73 =>
 Al Ty.int #[.int .i64 0] w66 fun t74 w75 =>
 St PP 1 t74 t73 w75 fun w76 =>
 Iv PP a0 "acheron/styx.num" #[t74, (.int .i64 2)] w76 fun t77 w78 =>
 Ld t74 w78 fun t79 =>
 Nc a1 fun t80 =>
 Fa 26 t80 fun t81 =>
 St PP 1 t81 t79 w78 fun w82 =>
 R (.tuple #[]) w82) (
 Bi .eql t3 (.int .i64 108) fun t83 =>
 Cnd t83 (
 Dr w66 fun w84 =>
 Nc a1 fun t85 =>
 Fa 4 t85 fun t86 =>
 NcF PP (.func (.method "acheron/styx.num") #[a0] #[]) fun t87 =>
 Iv PP a0 "acheron/styx.num" #[t86, (.int .i64 2)] w84 fun t88 w89 =>
 R (.tuple #[]) w89) (
 Bi .eql t3 (.int .i64 110) fun t90 =>
 Cnd t90 (
 Dr w66 fun w91 =>
 Nc a1 fun t92 =>
 Fa 2 t92 fun t93 =>
 NcF PP (.func (.method "acheron/styx.num") #[a0] #[]) fun t94 =>
 Iv PP a0 "acheron/styx.num" #[t93, (.int .i64 4)] w91 fun t95 w96 =>
 Dr w96 fun w97 =>
 Nc a1 fun t98 =>
 Fa 3 t98 fun t99 =>
 NcF PP (.func (.method "acheron/styx.num") #[a0] #[]) fun t100 =>
 Iv PP a0 "acheron/styx.num" #[t99, (.int .i64 4)] w97 fun t101 w102 =>
 Dr w102 fun w103 =>
 Nc a1 fun t104 =>
 Fa 13 t104 fun t105 =>
 NcF PP (.func (.method "acheron/styx.names") #[a0] #[]) fun t106 =>
 Iv PP a0 "acheron/styx.names" #[t105] w103 fun t107 w108 =>
 R (.tuple #[]) w108) (
 Bi .eql t3 (.int .i64 111) fun t109 =>
 Cnd t109 (
 Dr w66 fun w110 =>
 Nc a1 fun t111 =>
 Fa 14 t111 fun t112 =>
 NcF PP (.func (.method "acheron/styx.qids") #[a0] #[]) fun t113 =>
 Iv PP a0 "acheron/styx.qids" #[t112] w110 fun t114 w115 =>
 R (.tuple #[]) w115) (
 Bi .eql t3 (.int .i64 112) fun t116 =>
 Cnd t116 (
 Dr w66 fun w117 =>
 Nc a1 fun t118 =>
 Fa 2 t118 fun t119 =>
 NcF PP (.func (.method "acheron/styx.num") #[a0] #[]) fun t120 =>
 Iv PP a0 "acheron/styx.num" #[t119, (.int .i64 4)] w117 fun t121 w122 =>
 Dr w122 fun w123 =>
 Nc a1 fun t124 =>
 Fa 7 t124 fun t125 =>
 NcF PP (.func (.method "acheron/styx.num") #[a0] #[]) fun t126 =>
 Iv PP a0 "acheron/styx.num" #[t125, (.int .i64 1)] w123 fun t127 w128 =>
 R (.tuple #[]) w128) (
 Bi .eql t3 (.int .i64 114) fun t129 =>
 Cnd t129 (
 Dr w66 fun w130 =>
 Nc a1 fun t131 =>
 Fa 2 t131 fun t132 =>
 NcF PP (.func (.method "acheron/styx.num") #[a0] #[]) fun t133 =>
 Iv PP a0 "acheron/styx.num" #[t132, (.int .i64 4)] w130 fun t134 w135 =>
 Dr w135 fun w136 =>
 Nc a1 fun t137 =>
 Fa 12 t137 fun t138 =>
 NcF PP (.func (.method "acheron/styx.text") #[a0] #[]) fun t139 =>
 Iv PP a0 "acheron/styx.text" #[t138] w136 fun t140 w141 =>
 Dr w141 fun w142 =>
 Nc a1 fun t143 =>
 Fa 8 t143 fun t144 =>
 NcF PP (.func (.method "acheron/styx.num") #[a0] #[]) fun t145 =>
 Iv PP a0 "acheron/styx.num" #[t144, (.int .i64 4)] w142 fun t146 w147 =>
 Dr w147 fun w148 =>
 Nc a1 fun t149 =>
 Fa 7 t149 fun t150 =>
 NcF PP (.func (.method "acheron/styx.num") #[a0] #[]) fun t151 =>
 Iv PP a0 "acheron/styx.num" #[t150, (.int .i64 1)] w148 fun t152 w153 =>
 R (.tuple #[]) w153) (
 ∀ J154 : List Value → World → Prop, (∀ t157, ∀ w156 : World, (∀ u155 : Env,
 Cnd t157 (
 Ca PP Fn.styx_one #[a0, a1] w156 fun t158 w159 =>
 Dr w159 fun w160 =>
 Nc a1 fun t161 =>
 Fa 5 t161 fun t162 =>
 NcF PP (.func (.method "acheron/styx.num") #[a0] #[]) fun t163 =>
 Iv PP a0 "acheron/styx.num" #[t162, (.int .i64 4)] w160 fun t164 w165 =>
 R (.tuple #[]) w165) (
 Bi .eql t3 (.int .i64 116) fun t166 =>
 Cnd t166 (
 Dr w156 fun w167 =>
 Nc a1 fun t168 =>
 Fa 2 t168 fun t169 =>
 NcF PP (.func (.method "acheron/styx.num") #[a0] #[]) fun t170 =>
 Iv PP a0 "acheron/styx.num" #[t169, (.int .i64 4)] w167 fun t171 w172 =>
 Dr w172 fun w173 =>
 Nc a1 fun t174 =>
 Fa 6 t174 fun t175 =>
 NcF PP (.func (.method "acheron/styx.long") #[a0] #[]) fun t176 =>
 Iv PP a0 "acheron/styx.long" #[t175] w173 fun t177 w178 =>
 Dr w178 fun w179 =>
 Nc a1 fun t180 =>
 Fa 5 t180 fun t181 =>
 NcF PP (.func (.method "acheron/styx.num") #[a0] #[]) fun t182 =>
 Iv PP a0 "acheron/styx.num" #[t181, (.int .i64 4)] w179 fun t183 w184 =>
 R (.tuple #[]) w184) (
 Bi .eql t3 (.int .i64 117) fun t185 =>
 Cnd t185 (
 Dr w156 fun w186 =>
 Nc a1 fun t187 =>
 Fa 15 t187 fun t188 =>
 NcF PP (.func (.method "acheron/styx.data") #[a0] #[]) fun t189 =>
 Iv PP a0 "acheron/styx.data" #[t188] w186 fun t190 w191 =>
 R (.tuple #[]) w191) (
 Bi .eql t3 (.int .i64 118) fun t192 =>
 Cnd t192 (
 Dr w156 fun w193 =>
 Nc a1 fun t194 =>
 Fa 2 t194 fun t195 =>
 NcF PP (.func (.method "acheron/styx.num") #[a0] #[]) fun t196 =>
 Iv PP a0 "acheron/styx.num" #[t195, (.int .i64 4)] w193 fun t197 w198 =>
 Dr w198 fun w199 =>
 Nc a1 fun t200 =>
 Fa 6 t200 fun t201 =>
 NcF PP (.func (.method "acheron/styx.long") #[a0] #[]) fun t202 =>
 Iv PP a0 "acheron/styx.long" #[t201] w199 fun t203 w204 =>
 Dr w204 fun w205 =>
 Nc a1 fun t206 =>
 Fa 15 t206 fun t207 =>
 NcF PP (.func (.method "acheron/styx.data") #[a0] #[]) fun t208 =>
 Iv PP a0 "acheron/styx.data" #[t207] w205 fun t209 w210 =>
 R (.tuple #[]) w210) (
 Bi .eql t3 (.int .i64 119) fun t211 =>
 Cnd t211 (
 Dr w156 fun w212 =>
 Nc a1 fun t213 =>
 Fa 5 t213 fun t214 =>
 NcF PP (.func (.method "acheron/styx.num") #[a0] #[]) fun t215 =>
 Iv PP a0 "acheron/styx.num" #[t214, (.int .i64 4)] w212 fun t216 w217 =>
 R (.tuple #[]) w217) (
 ∀ J218 : List Value → World → Prop, (∀ t221, ∀ w220 : World, (∀ u219 : Env,
 Cnd t221 (
 Dr w220 fun w222 =>
 Nc a1 fun t223 =>
 Fa 2 t223 fun t224 =>
 NcF PP (.func (.method "acheron/styx.num") #[a0] #[]) fun t225 =>
 Iv PP a0 "acheron/styx.num" #[t224, (.int .i64 4)] w222 fun t226 w227 =>
 R (.tuple #[]) w227) (
 Bi .eql t3 (.int .i64 125) fun t228 =>
 Cnd t228 (
 Dr w220 fun w229 =>
 Nc a1 fun t230 =>
 Fa 16 t230 fun t231 =>
 NcF PP (.func (.method "acheron/styx.dir") #[a0] #[]) fun t232 =>
 Iv PP a0 "acheron/styx.dir" #[t231] w229 fun t233 w234 =>
 R (.tuple #[]) w234) (
 Bi .eql t3 (.int .i64 126) fun t235 =>
 Cnd t235 (
 Dr w220 fun w236 =>
 Nc a1 fun t237 =>
 Fa 2 t237 fun t238 =>
 NcF PP (.func (.method "acheron/styx.num") #[a0] #[]) fun t239 =>
 Iv PP a0 "acheron/styx.num" #[t238, (.int .i64 4)] w236 fun t240 w241 =>
 Dr w241 fun w242 =>
 Nc a1 fun t243 =>
 Fa 16 t243 fun t244 =>
 NcF PP (.func (.method "acheron/styx.dir") #[a0] #[]) fun t245 =>
 Iv PP a0 "acheron/styx.dir" #[t244] w242 fun t246 w247 =>
 R (.tuple #[]) w247) (
 R (.tuple #[]) w220)))) → J218 [t221] w220) →
 Bi .eql t3 (.int .i64 120) fun t248 =>
 Cnd t248 (
 J218 [t248] w156) (
 Bi .eql t3 (.int .i64 122) fun t249 =>
 Cnd t249 (
 J218 [t249] w156) (
 Bi .eql t3 (.int .i64 124) fun t250 =>
 J218 [t250] w156)))))))) → J154 [t157] w156) →
 Bi .eql t3 (.int .i64 113) fun t251 =>
 Cnd t251 (
 J154 [t251] w66) (
 Bi .eql t3 (.int .i64 115) fun t252 =>
 J154 [t252] w66))))))))) → J64 [t67] w66) →
 Bi .eql t3 (.int .i64 103) fun t253 =>
 Cnd t253 (
 J64 [t253] w6) (
 Bi .eql t3 (.int .i64 105) fun t254 =>
 J64 [t254] w6))))) → J4 [t7] w6) →
 Bi .eql t3 (.int .i64 100) fun t255 =>
 Cnd t255 (
 J4 [t255] w) (
 Bi .eql t3 (.int .i64 101) fun t256 =>
 J4 [t256] w)
def S.styx_fields.an : Ann := (.seq .leaf (.block (.join (.seq .leaf (.cond .leaf .leaf)) [9] [10,11] (.cond (.seq (.draw [[],[],[1],[1,2],[0],[0,4],[0,4,5],[0,1,2,3,4,5,6]] (.calm 0 (.calm 1 (.calm 2 (.calm 3 (.calm 4 (.calm 5 (.calm 6 (.eff1 7 [] .done))))))))) (.draw [[],[],[1],[1,2],[0],[0,4],[0,4,5],[0,1,2,3,4,5,6]] (.calm 0 (.calm 1 (.calm 2 (.calm 3 (.calm 4 (.calm 5 (.calm 6 (.eff1 7 [] .done)))))))))) (.seq .leaf (.cond (.seq (.draw [[],[],[1],[1,2],[0],[0,4],[0,4,5],[0,1,2,3,4,5,6]] (.calm 0 (.calm 1 (.calm 2 (.calm 3 (.calm 4 (.calm 5 (.calm 6 (.eff1 7 [] .done))))))))) (.seq (.draw [[],[],[1],[1,2],[0],[0,4],[0,4,5],[0,1,2,3,4,5,6]] (.calm 0 (.calm 1 (.calm 2 (.calm 3 (.calm 4 (.calm 5 (.calm 6 (.eff1 7 [] .done))))))))) (.draw [[],[],[1],[1,2],[0],[0,4],[0,4,5],[0,1,2,3,4,5,6]] (.calm 0 (.calm 1 (.calm 2 (.calm 3 (.calm 4 (.calm 5 (.calm 6 (.eff1 7 [] .done))))))))))) (.seq .leaf (.cond (.seq (.draw [[],[],[1],[1,2],[0],[0,4],[0,4,5],[0,1,2,3,4,5,6]] (.calm 0 (.calm 1 (.calm 2 (.calm 3 (.calm 4 (.calm 5 (.calm 6 (.eff1 7 [] .done))))))))) (.seq (.draw [[],[],[1],[1,2],[0],[0,4],[0,4,5],[0,1,2,3,4,5,6]] (.calm 0 (.calm 1 (.calm 2 (.calm 3 (.calm 4 (.calm 5 (.calm 6 (.eff1 7 [] .done))))))))) (.seq (.draw [[],[],[1],[1,2],[0],[0,4],[0,4,5],[0,1,2,3,4,5,6]] (.calm 0 (.calm 1 (.calm 2 (.calm 3 (.calm 4 (.calm 5 (.calm 6 (.eff1 7 [] .done))))))))) (.draw [[],[],[1],[1,2],[0],[0,4],[0,4,5],[0,1,2,3,4,5,6]] (.calm 0 (.calm 1 (.calm 2 (.calm 3 (.calm 4 (.calm 5 (.calm 6 (.eff1 7 [] .done)))))))))))) (.join (.seq .leaf (.cond .leaf .leaf)) [88] [89,90] (.cond .leaf (.seq .leaf (.cond (.seq .leaf (.seq .leaf .leaf)) (.seq .leaf (.cond (.draw [[],[],[1],[1,2],[0],[0,4],[0,4,5],[0,1,2,3,4,5,6]] (.calm 0 (.calm 1 (.calm 2 (.calm 3 (.calm 4 (.calm 5 (.calm 6 (.eff1 7 [] .done))))))))) (.seq .leaf (.cond (.seq (.draw [[],[],[1],[1,2],[0],[0,4],[0,4,5],[0,1,2,3,4,5,6]] (.calm 0 (.calm 1 (.calm 2 (.calm 3 (.calm 4 (.calm 5 (.calm 6 (.eff1 7 [] .done))))))))) (.seq (.draw [[],[],[1],[1,2],[0],[0,4],[0,4,5],[0,1,2,3,4,5,6]] (.calm 0 (.calm 1 (.calm 2 (.calm 3 (.calm 4 (.calm 5 (.calm 6 (.eff1 7 [] .done))))))))) (.draw [[],[],[1],[1,2],[0],[0,4],[0,4,5],[0,1,2,3,4,5,6]] (.calm 0 (.calm 1 (.calm 2 (.calm 3 (.calm 4 (.calm 5 (.calm 6 (.eff1 7 [] .done))))))))))) (.seq .leaf (.cond (.draw [[],[],[1],[1,2],[0],[0,4],[0,4,5],[0,1,2,3,4,5,6]] (.calm 0 (.calm 1 (.calm 2 (.calm 3 (.calm 4 (.calm 5 (.calm 6 (.eff1 7 [] .done))))))))) (.seq .leaf (.cond (.seq (.draw [[],[],[1],[1,2],[0],[0,4],[0,4,5],[0,1,2,3,4,5,6]] (.calm 0 (.calm 1 (.calm 2 (.calm 3 (.calm 4 (.calm 5 (.calm 6 (.eff1 7 [] .done))))))))) (.draw [[],[],[1],[1,2],[0],[0,4],[0,4,5],[0,1,2,3,4,5,6]] (.calm 0 (.calm 1 (.calm 2 (.calm 3 (.calm 4 (.calm 5 (.calm 6 (.eff1 7 [] .done)))))))))) (.seq .leaf (.cond (.seq (.draw [[],[],[1],[1,2],[0],[0,4],[0,4,5],[0,1,2,3,4,5,6]] (.calm 0 (.calm 1 (.calm 2 (.calm 3 (.calm 4 (.calm 5 (.calm 6 (.eff1 7 [] .done))))))))) (.seq (.draw [[],[],[1],[1,2],[0],[0,4],[0,4,5],[0,1,2,3,4,5,6]] (.calm 0 (.calm 1 (.calm 2 (.calm 3 (.calm 4 (.calm 5 (.calm 6 (.eff1 7 [] .done))))))))) (.seq (.draw [[],[],[1],[1,2],[0],[0,4],[0,4,5],[0,1,2,3,4,5,6]] (.calm 0 (.calm 1 (.calm 2 (.calm 3 (.calm 4 (.calm 5 (.calm 6 (.eff1 7 [] .done))))))))) (.draw [[],[],[1],[1,2],[0],[0,4],[0,4,5],[0,1,2,3,4,5,6]] (.calm 0 (.calm 1 (.calm 2 (.calm 3 (.calm 4 (.calm 5 (.calm 6 (.eff1 7 [] .done)))))))))))) (.join (.seq .leaf (.cond .leaf .leaf)) [204] [205,206] (.cond (.seq .leaf (.draw [[],[],[1],[1,2],[0],[0,4],[0,4,5],[0,1,2,3,4,5,6]] (.calm 0 (.calm 1 (.calm 2 (.calm 3 (.calm 4 (.calm 5 (.calm 6 (.eff1 7 [] .done)))))))))) (.seq .leaf (.cond (.seq (.draw [[],[],[1],[1,2],[0],[0,4],[0,4,5],[0,1,2,3,4,5,6]] (.calm 0 (.calm 1 (.calm 2 (.calm 3 (.calm 4 (.calm 5 (.calm 6 (.eff1 7 [] .done))))))))) (.seq (.draw [[],[],[1],[1,2],[0],[0,4],[0,4,5],[0,1,2,3,4,5,6]] (.calm 0 (.calm 1 (.calm 2 (.calm 3 (.calm 4 (.calm 5 (.calm 6 (.eff1 7 [] .done))))))))) (.draw [[],[],[1],[1,2],[0],[0,4],[0,4,5],[0,1,2,3,4,5,6]] (.calm 0 (.calm 1 (.calm 2 (.calm 3 (.calm 4 (.calm 5 (.calm 6 (.eff1 7 [] .done))))))))))) (.seq .leaf (.cond (.draw [[],[],[1],[1,2],[0],[0,4],[0,4,5],[0,1,2,3,4,5,6]] (.calm 0 (.calm 1 (.calm 2 (.calm 3 (.calm 4 (.calm 5 (.calm 6 (.eff1 7 [] .done))))))))) (.seq .leaf (.cond (.seq (.draw [[],[],[1],[1,2],[0],[0,4],[0,4,5],[0,1,2,3,4,5,6]] (.calm 0 (.calm 1 (.calm 2 (.calm 3 (.calm 4 (.calm 5 (.calm 6 (.eff1 7 [] .done))))))))) (.seq (.draw [[],[],[1],[1,2],[0],[0,4],[0,4,5],[0,1,2,3,4,5,6]] (.calm 0 (.calm 1 (.calm 2 (.calm 3 (.calm 4 (.calm 5 (.calm 6 (.eff1 7 [] .done))))))))) (.draw [[],[],[1],[1,2],[0],[0,4],[0,4,5],[0,1,2,3,4,5,6]] (.calm 0 (.calm 1 (.calm 2 (.calm 3 (.calm 4 (.calm 5 (.calm 6 (.eff1 7 [] .done))))))))))) (.seq .leaf (.cond (.draw [[],[],[1],[1,2],[0],[0,4],[0,4,5],[0,1,2,3,4,5,6]] (.calm 0 (.calm 1 (.calm 2 (.calm 3 (.calm 4 (.calm 5 (.calm 6 (.eff1 7 [] .done))))))))) (.join (.seq .leaf (.cond .leaf (.seq .leaf (.cond .leaf .leaf)))) [290] [291,292,293] (.cond (.draw [[],[],[1],[1,2],[0],[0,4],[0,4,5],[0,1,2,3,4,5,6]] (.calm 0 (.calm 1 (.calm 2 (.calm 3 (.calm 4 (.calm 5 (.calm 6 (.eff1 7 [] .done))))))))) (.seq .leaf (.cond (.draw [[],[],[1],[1,2],[0],[0,4],[0,4,5],[0,1,2,3,4,5,6]] (.calm 0 (.calm 1 (.calm 2 (.calm 3 (.calm 4 (.calm 5 (.calm 6 (.eff1 7 [] .done))))))))) (.seq .leaf (.cond (.seq (.draw [[],[],[1],[1,2],[0],[0,4],[0,4,5],[0,1,2,3,4,5,6]] (.calm 0 (.calm 1 (.calm 2 (.calm 3 (.calm 4 (.calm 5 (.calm 6 (.eff1 7 [] .done))))))))) (.draw [[],[],[1],[1,2],[0],[0,4],[0,4,5],[0,1,2,3,4,5,6]] (.calm 0 (.calm 1 (.calm 2 (.calm 3 (.calm 4 (.calm 5 (.calm 6 (.eff1 7 [] .done)))))))))) .leaf))))))))))))))))))))))))))))))))))))))
theorem S.styx_fields.eq (a0 a1 : Value) (w : World) (R : Value → World → Prop) : S.styx_fields a0 a1 w R = fnC PP 330 (Tryd.f46.body.getD .skip) S.styx_fields.an [] [a0, a1] w R := by kernel_rfl
theorem S.styx_fields.calls {a0 a1 : Value} {w : World} {R : Value → World → Prop} (h : S.styx_fields a0 a1 w R) : Ca PP Fn.styx_fields #[a0, a1] w R :=
  fnC_calls mixed (f := Fn.styx_fields) (an := S.styx_fields.an) Tryd.func46 rfl (by show _ ≤ _; exact Nat.le_of_ble_eq_true rfl) (S.styx_fields.eq a0 a1 w R ▸ h)
/-- (*acheron/wire.Writer).Len -/
def S.wire_Writer_Len (a0 : Value) (w : World) (R : Value → World → Prop) : Prop :=
 Rd PP (eqS .eql Ty.p_wire_Writer (.tmp 3) (.const (.pointer none)) a0 (.pointer none)) w fun t1 =>
 Cnd t1 (
 R (.int .i64 0) w) (
 Nc a0 fun t2 =>
 Fa 0 t2 fun t3 =>
 Ld t3 w fun t4 =>
 LnL t4 fun t5 =>
 R t5 w)
def S.wire_Writer_Len.an : Ann := (.seq .leaf (.seq (.seq .leaf (.cond (.seq .leaf .leaf) .leaf)) (.seq .leaf .leaf)))
theorem S.wire_Writer_Len.eq (a0 : Value) (w : World) (R : Value → World → Prop) : S.wire_Writer_Len a0 w R = fnC PP 10 (Tryd.f47.body.getD .skip) S.wire_Writer_Len.an [.tmp 2] [a0] w R := by kernel_rfl
theorem S.wire_Writer_Len.calls {a0 : Value} {w : World} {R : Value → World → Prop} (h : S.wire_Writer_Len a0 w R) : Ca PP Fn.wire_Writer_Len #[a0] w R :=
  fnC_calls mixed (f := Fn.wire_Writer_Len) (an := S.wire_Writer_Len.an) Tryd.func47 rfl (by show _ ≤ _; exact Nat.le_of_ble_eq_true rfl) (S.wire_Writer_Len.eq a0 w R ▸ h)
/-- (*acheron/styx.output).err -/
def S.styx_output_err (a0 : Value) (w : World) (R : Value → World → Prop) : Prop :=
 Nc a0 fun t1 =>
 Fa 1 t1 fun t2 =>
 Ld t2 w fun t3 =>
 Cnd t3 (
 R (.int .i64 11) w) (
 Nc a0 fun t4 =>
 Fa 2 t4 fun t5 =>
 Ld t5 w fun t6 =>
 Cnd t6 (
 R (.int .i64 3) w) (
 R (.int .i64 0) w))
def S.styx_output_err.an : Ann := (.seq .leaf (.seq (.block (.seq .leaf (.cond (.seq .leaf .leaf) (.seq .leaf (.cond (.seq .leaf .leaf) .leaf))))) (.seq .leaf .leaf)))
theorem S.styx_output_err.eq (a0 : Value) (w : World) (R : Value → World → Prop) : S.styx_output_err a0 w R = fnC PP 13 (Tryd.f48.body.getD .skip) S.styx_output_err.an [.tmp 2] [a0] w R := by kernel_rfl
theorem S.styx_output_err.calls {a0 : Value} {w : World} {R : Value → World → Prop} (h : S.styx_output_err a0 w R) : Ca PP Fn.styx_output_err #[a0] w R :=
  fnC_calls mixed (f := Fn.styx_output_err) (an := S.styx_output_err.an) Tryd.func48 rfl (by show _ ≤ _; exact Nat.le_of_ble_eq_true rfl) (S.styx_output_err.eq a0 w R ▸ h)
/-- acheron/wire.NewWriter -/
def S.wire_NewWriter (w : World) (R : Value → World → Prop) : Prop :=
 Bd #[.slice none 0 0] [(0, 1)] [] fun t1 =>
 Al Ty.wire_Writer (t1 : Value).cells w fun t2 w3 =>
 R t2 w3
def S.wire_NewWriter.an : Ann := (.seq .leaf (.seq .leaf .leaf))
theorem S.wire_NewWriter.eq (w : World) (R : Value → World → Prop) : S.wire_NewWriter  w R = fnC PP 3 (Tryd.f49.body.getD .skip) S.wire_NewWriter.an [.tmp 0] [] w R := by kernel_rfl
theorem S.wire_NewWriter.calls {w : World} {R : Value → World → Prop} (h : S.wire_NewWriter w R) : Ca PP Fn.wire_NewWriter #[] w R :=
  fnC_calls mixed (f := Fn.wire_NewWriter) (an := S.wire_NewWriter.an) Tryd.func49 rfl (by show _ ≤ _; exact Nat.le_of_ble_eq_true rfl) (S.wire_NewWriter.eq w R ▸ h)
/-- (*acheron/wire.Writer).Raw -/
def S.wire_Writer_Raw (a0 a1 : Value) (w : World) (R : Value → World → Prop) : Prop :=
 Rd PP (eqS .eql Ty.p_wire_Writer (.tmp 5) (.const (.pointer none)) a0 (.pointer none)) w fun t1 =>
 Cnd t1 (
 R (.int .i64 6) w) (
 Nc a0 fun t2 =>
 Fa 0 t2 fun t3 =>
 Ld t3 w fun t4 =>
 Ef PP (Builtin.append_ #[Ty.sl_uint8, Ty.string] Ty.sl_uint8 #[t4, a1]) w fun t5 w6 =>
 Nc a0 fun t7 =>
 Fa 0 t7 fun t8 =>
 St PP 1 t8 t5 w6 fun w9 =>
 R (.int .i64 0) w9)
def S.wire_Writer_Raw.an : Ann := (.seq .leaf (.seq (.seq .leaf (.cond (.seq .leaf .leaf) .leaf)) (.seq .leaf (.seq .leaf .leaf))))
theorem S.wire_Writer_Raw.eq (a0 a1 : Value) (w : World) (R : Value → World → Prop) : S.wire_Writer_Raw a0 a1 w R = fnC PP 16 (Tryd.f50.body.getD .skip) S.wire_Writer_Raw.an [.tmp 4] [a0, a1] w R := by kernel_rfl
theorem S.wire_Writer_Raw.calls {a0 a1 : Value} {w : World} {R : Value → World → Prop} (h : S.wire_Writer_Raw a0 a1 w R) : Ca PP Fn.wire_Writer_Raw #[a0, a1] w R :=
  fnC_calls mixed (f := Fn.wire_Writer_Raw) (an := S.wire_Writer_Raw.an) Tryd.func50 rfl (by show _ ≤ _; exact Nat.le_of_ble_eq_true rfl) (S.wire_Writer_Raw.eq a0 a1 w R ▸ h)
/-- (*acheron/wire.Writer).Text -/
def S.wire_Writer_Text (a0 : Value) (w : World) (R : Value → World → Prop) : Prop :=
 Rd PP (eqS .eql Ty.p_wire_Writer (.tmp 3) (.const (.pointer none)) a0 (.pointer none)) w fun t1 =>
 Cnd t1 (
 R (.string ⟨#[]⟩) w) (
 Nc a0 fun t2 =>
 Fa 0 t2 fun t3 =>
 Ld t3 w fun t4 =>
 Rd PP (convert Ty.sl_uint8 Ty.string t4) w fun t5 =>
 R t5 w)
def S.wire_Writer_Text.an : Ann := (.seq .leaf (.seq (.seq .leaf (.cond (.seq .leaf .leaf) .leaf)) (.seq .leaf .leaf)))
theorem S.wire_Writer_Text.eq (a0 : Value) (w : World) (R : Value → World → Prop) : S.wire_Writer_Text a0 w R = fnC PP 10 (Tryd.f51.body.getD .skip) S.wire_Writer_Text.an [.tmp 2] [a0] w R := by kernel_rfl
theorem S.wire_Writer_Text.calls {a0 : Value} {w : World} {R : Value → World → Prop} (h : S.wire_Writer_Text a0 w R) : Ca PP Fn.wire_Writer_Text #[a0] w R :=
  fnC_calls mixed (f := Fn.wire_Writer_Text) (an := S.wire_Writer_Text.an) Tryd.func51 rfl (by show _ ≤ _; exact Nat.le_of_ble_eq_true rfl) (S.wire_Writer_Text.eq a0 w R ▸ h)
/-- slices.Equal[[]acheron/api.Qid,acheron/api.Qid] -/
def S.slices_Equal_sl_api_Qid_api_Qid (a0 a1 : Value) (w : World) (R : Value → World → Prop) : Prop :=
 LnL a0 fun t1 =>
 LnL a1 fun t2 =>
 Bi .neq t1 t2 fun t3 =>
 Cnd t3 (
 R (.bool false) w) (
 LnL a0 fun t4 =>
 ∃ (I5 : List Value → World → Prop) (m6 : List Value → World → Nat), I5 [(.int .i64 0)] w ∧ ∀ t9, ∀ (u7 : Env) (w8 : World), I5 [t9] w8 →
 Bi .lss t9 t4 fun t10 =>
 Cnd t10 (
 Dr w8 fun w11 =>
 IxA 3 a0 t9 fun t12 =>
 LdA PP 3 t12 w11 fun t13 =>
 IxA 3 a1 t9 fun t14 =>
 LdA PP 3 t14 w11 fun t15 =>
 Rd PP (eqS .neq Ty.api_Qid (.tmp 19) (.tmp 23) t13 t15) w11 fun t16 =>
 Cnd t16 (
 R (.bool false) w11) (
 Bi .add t9 (.int .i64 1) fun t17 =>
 I5 [t17] w11 ∧ m6 [t17] w11 < m6 [t9] w8)) (
 R (.bool true) w8))
def S.slices_Equal_sl_api_Qid_api_Qid.an : Ann := (.seq .leaf (.seq (.seq .leaf (.cond (.seq .leaf .leaf) .leaf)) (.seq (.seq .leaf (.block (.loop (.seq .leaf (.seq (.cond .leaf .leaf) (.seq (.block (.seq .leaf (.seq (.draw [[],[],[0,1],[0,1,2],[],[],[4,5],[4,5,6],[0,1,2,3,4,5,6,7]] (.calm 0 (.calm 1 (.calm 2 (.calm 3 (.calm 4 (.calm 5 (.calm 6 (.calm 7 (.calm 8 .done)))))))))) (.cond (.seq .leaf .leaf) .leaf)))) .leaf))) [13] [4,5,14,15,16,17,18,19,20,21,22,23,24,25]))) (.seq .leaf .leaf))))
theorem S.slices_Equal_sl_api_Qid_api_Qid.eq (a0 a1 : Value) (w : World) (R : Value → World → Prop) : S.slices_Equal_sl_api_Qid_api_Qid a0 a1 w R = fnC PP 26 (Tryd.f52.body.getD .skip) S.slices_Equal_sl_api_Qid_api_Qid.an [.tmp 4] [a0, a1] w R := by kernel_rfl
theorem S.slices_Equal_sl_api_Qid_api_Qid.calls {a0 a1 : Value} {w : World} {R : Value → World → Prop} (h : S.slices_Equal_sl_api_Qid_api_Qid a0 a1 w R) : Ca PP Fn.slices_Equal_sl_api_Qid_api_Qid #[a0, a1] w R :=
  fnC_calls mixed (f := Fn.slices_Equal_sl_api_Qid_api_Qid) (an := S.slices_Equal_sl_api_Qid_api_Qid.an) Tryd.func52 rfl (by show _ ≤ _; exact Nat.le_of_ble_eq_true rfl) (S.slices_Equal_sl_api_Qid_api_Qid.eq a0 a1 w R ▸ h)
/-- acheron/styx.length -/
def S.styx_length (a0 : Value) (w : World) (R : Value → World → Prop) : Prop :=
 Ca PP Fn.wire_NewReader #[a0] w fun t1 w2 =>
 Ca PP Fn.wire_Reader_Little #[t1, (.int .i64 4)] w2 fun t3 w4 =>
 Ex t3 0 fun t5 =>
 Ex t3 1 fun t6 =>
 R t5 w4
def S.styx_length.an : Ann := (.seq .leaf (.seq .leaf (.seq .leaf .leaf)))
theorem S.styx_length.eq (a0 : Value) (w : World) (R : Value → World → Prop) : S.styx_length a0 w R = fnC PP 12 (Tryd.f53.body.getD .skip) S.styx_length.an [.tmp 2] [a0] w R := by kernel_rfl
theorem S.styx_length.calls {a0 : Value} {w : World} {R : Value → World → Prop} (h : S.styx_length a0 w R) : Ca PP Fn.styx_length #[a0] w R :=
  fnC_calls mixed (f := Fn.styx_length) (an := S.styx_length.an) Tryd.func53 rfl (by show _ ≤ _; exact Nat.le_of_ble_eq_true rfl) (S.styx_length.eq a0 w R ▸ h)
/-- acheron/wire.NewReader -/
def S.wire_NewReader (a0 : Value) (w : World) (R : Value → World → Prop) : Prop :=
 Bd #[.string ⟨#[]⟩, .int .i64 0, .int .i64 0] [(0, 1), (1, 1), (2, 1)] [(0, a0)] fun t1 =>
 Al Ty.wire_Reader (t1 : Value).cells w fun t2 w3 =>
 R t2 w3
def S.wire_NewReader.an : Ann := (.seq .leaf (.seq .leaf .leaf))
theorem S.wire_NewReader.eq (a0 : Value) (w : World) (R : Value → World → Prop) : S.wire_NewReader a0 w R = fnC PP 6 (Tryd.f54.body.getD .skip) S.wire_NewReader.an [.tmp 2] [a0] w R := by kernel_rfl
theorem S.wire_NewReader.calls {a0 : Value} {w : World} {R : Value → World → Prop} (h : S.wire_NewReader a0 w R) : Ca PP Fn.wire_NewReader #[a0] w R :=
  fnC_calls mixed (f := Fn.wire_NewReader) (an := S.wire_NewReader.an) Tryd.func54 rfl (by show _ ≤ _; exact Nat.le_of_ble_eq_true rfl) (S.wire_NewReader.eq a0 w R ▸ h)
/-- (*acheron/styx.input).num -/
def S.styx_input_num (a0 a1 a2 : Value) (w : World) (R : Value → World → Prop) : Prop :=
 Nc a0 fun t1 =>
 Fa 0 t1 fun t2 =>
 Ld t2 w fun t3 =>
 Ca PP Fn.wire_Reader_Little #[t3, a2] w fun t4 w5 =>
 Ex t4 0 fun t6 =>
 Ex t4 1 fun t7 =>
 Nc a0 fun t8 =>
 Fa 3 t8 fun t9 =>
 Ld t9 w5 fun t10 =>
 Gd t10 false (fun k11 => k11 t7 w5) w5 fun t12 w13 =>
 Gd t10 false (fun k14 => Bi .neq t12 (.int .i64 0) fun t17 =>
 k14 t17 w13) w13 fun t15 w16 =>
 Pk t10 (.bool true) t15 fun t18 =>
 Nc a1 fun t19 =>
 St PP 1 t19 t6 w16 fun w20 =>
 Nc a0 fun t21 =>
 Fa 3 t21 fun t22 =>
 St PP 1 t22 t18 w20 fun w23 =>
 R (.tuple #[]) w23
def S.styx_input_num.an : Ann := (.seq .leaf .leaf)
theorem S.styx_input_num.eq (a0 a1 a2 : Value) (w : World) (R : Value → World → Prop) : S.styx_input_num a0 a1 a2 w R = fnC PP 31 (Tryd.f55.body.getD .skip) S.styx_input_num.an [] [a0, a1, a2] w R := by kernel_rfl
theorem S.styx_input_num.calls {a0 a1 a2 : Value} {w : World} {R : Value → World → Prop} (h : S.styx_input_num a0 a1 a2 w R) : Ca PP Fn.styx_input_num #[a0, a1, a2] w R :=
  fnC_calls mixed (f := Fn.styx_input_num) (an := S.styx_input_num.an) Tryd.func55 rfl (by show _ ≤ _; exact Nat.le_of_ble_eq_true rfl) (S.styx_input_num.eq a0 a1 a2 w R ▸ h)
/-- (*acheron/styx.input).finish -/
def S.styx_input_finish (a0 : Value) (w : World) (R : Value → World → Prop) : Prop :=
 Nc a0 fun t1 =>
 Fa 0 t1 fun t2 =>
 Ld t2 w fun t3 =>
 Ca PP Fn.wire_Reader_End #[t3] w fun t4 w5 =>
 Bi .neq t4 (.int .i64 0) fun t6 =>
 Gd t6 false (fun k7 => k7 a0 w5) w5 fun t8 w9 =>
 Gd t6 false (fun k10 => Nc t8 fun t13 =>
 k10 t13 w9) w9 fun t11 w12 =>
 Gd t6 false (fun k14 => Fa 3 t11 fun t17 =>
 k14 t17 w12) w12 fun t15 w16 =>
 Gd t6 false (fun k18 => Ld t15 w16 fun t21 =>
 k18 t21 w16) w16 fun t19 w20 =>
 Pk t6 (.bool true) t19 fun t22 =>
 Nc a0 fun t23 =>
 Fa 3 t23 fun t24 =>
 St PP 1 t24 t22 w20 fun w25 =>
 R (.tuple #[]) w25
def S.styx_input_finish.an : Ann := .leaf
theorem S.styx_input_finish.eq (a0 : Value) (w : World) (R : Value → World → Prop) : S.styx_input_finish a0 w R = fnC PP 17 (Tryd.f56.body.getD .skip) S.styx_input_finish.an [] [a0] w R := by kernel_rfl
theorem S.styx_input_finish.calls {a0 : Value} {w : World} {R : Value → World → Prop} (h : S.styx_input_finish a0 w R) : Ca PP Fn.styx_input_finish #[a0] w R :=
  fnC_calls mixed (f := Fn.styx_input_finish) (an := S.styx_input_finish.an) Tryd.func56 rfl (by show _ ≤ _; exact Nat.le_of_ble_eq_true rfl) (S.styx_input_finish.eq a0 w R ▸ h)
/-- (*acheron/styx.input).err -/
def S.styx_input_err (a0 : Value) (w : World) (R : Value → World → Prop) : Prop :=
 Nc a0 fun t1 =>
 Fa 3 t1 fun t2 =>
 Ld t2 w fun t3 =>
 Cnd t3 (
 R (.int .i64 2) w) (
 Nc a0 fun t4 =>
 Fa 1 t4 fun t5 =>
 Ld t5 w fun t6 =>
 Cnd t6 (
 R (.int .i64 11) w) (
 Nc a0 fun t7 =>
 Fa 2 t7 fun t8 =>
 Ld t8 w fun t9 =>
 Cnd t9 (
 R (.int .i64 3) w) (
 R (.int .i64 0) w)))
def S.styx_input_err.an : Ann := (.seq .leaf (.seq (.block (.seq .leaf (.cond (.seq .leaf .leaf) (.seq .leaf (.cond (.seq .leaf .leaf) (.seq .leaf (.cond (.seq .leaf .leaf) .leaf))))))) (.seq .leaf .leaf)))
theorem S.styx_input_err.eq (a0 : Value) (w : World) (R : Value → World → Prop) : S.styx_input_err a0 w R = fnC PP 18 (Tryd.f57.body.getD .skip) S.styx_input_err.an [.tmp 2] [a0] w R := by kernel_rfl
theorem S.styx_input_err.calls {a0 : Value} {w : World} {R : Value → World → Prop} (h : S.styx_input_err a0 w R) : Ca PP Fn.styx_input_err #[a0] w R :=
  fnC_calls mixed (f := Fn.styx_input_err) (an := S.styx_input_err.an) Tryd.func57 rfl (by show _ ≤ _; exact Nat.le_of_ble_eq_true rfl) (S.styx_input_err.eq a0 w R ▸ h)
/-- acheron/acheronref31.value -/
def S.r31_value (a0 : Value) (w : World) (R : Value → World → Prop) : Prop :=
 LnS a0 fun t1 =>
 Bi .sub t1 (.int .i64 1) fun t2 =>
 ∃ (I3 : List Value → World → Prop) (m4 : List Value → World → Nat), I3 [(.int .u64 0), t2] w ∧ ∀ t7 t8, ∀ (u5 : Env) (w6 : World), I3 [t7, t8] w6 →
 Bi .geq t8 (.int .i64 0) fun t9 =>
 Cnd t9 (
 Bi .shl t7 (.int .u64 8) fun t10 =>
 IxS a0 t8 fun t11 =>
 Cv .u64 t11 fun t12 =>
 Bi .or t10 t12 fun t13 =>
 Bi .sub t8 (.int .i64 1) fun t14 =>
 I3 [t13, t14] w6 ∧ m4 [t13, t14] w6 < m4 [t7, t8] w6) (
 R t7 w6)
def S.r31_value.an : Ann := (.seq .leaf (.seq .leaf (.seq (.seq .leaf (.block (.loop (.seq (.seq .leaf (.cond .leaf .leaf)) (.seq (.block .leaf) .leaf)) [3,4] [8,9,10,11,12,13,14,15,16,17,18]))) (.seq .leaf .leaf))))
theorem S.r31_value.eq (a0 : Value) (w : World) (R : Value → World → Prop) : S.r31_value a0 w R = fnC PP 20 (Tryd.f58.body.getD .skip) S.r31_value.an [.tmp 2] [a0] w R := by kernel_rfl
theorem S.r31_value.calls {a0 : Value} {w : World} {R : Value → World → Prop} (h : S.r31_value a0 w R) : Ca PP Fn.r31_value #[a0] w R :=
  fnC_calls mixed (f := Fn.r31_value) (an := S.r31_value.an) Tryd.func58 rfl (by show _ ≤ _; exact Nat.le_of_ble_eq_true rfl) (S.r31_value.eq a0 w R ▸ h)
/-- acheron/acheronref31.Fields -/
def S.r31_Fields (a0 : Value) (w : World) (R : Value → World → Prop) : Prop :=
 ∀ J1 : List Value → World → Prop, (∀ t4, ∀ w3 : World, (∀ u2 : Env,
 Cnd t4 (
 R (.tuple #[(.string ⟨#[83, 118]⟩), (.bool true)]) w3) (
 Bi .eql a0 (.int .i64 102) fun t5 =>
 Cnd t5 (
 R (.tuple #[(.string ⟨#[102, 117, 116]⟩), (.bool true)]) w3) (
 ∀ J6 : List Value → World → Prop, (∀ t9, ∀ w8 : World, (∀ u7 : Env,
 Cnd t9 (
 R (.tuple #[(.string ⟨#[113]⟩), (.bool true)]) w8) (
 Bi .eql a0 (.int .i64 104) fun t10 =>
 Cnd t10 (
 R (.tuple #[(.string ⟨#[102, 111, 117, 116]⟩), (.bool true)]) w8) (
 Bi .eql a0 (.int .i64 107) fun t11 =>
 Cnd t11 (
 R (.tuple #[(.string ⟨#[99]⟩), (.bool true)]) w8) (
 Bi .eql a0 (.int .i64 108) fun t12 =>
 Cnd t12 (
 R (.tuple #[(.string ⟨#[100]⟩), (.bool true)]) w8) (
 Bi .eql a0 (.int .i64 110) fun t13 =>
 Cnd t13 (
 R (.tuple #[(.string ⟨#[102, 111, 110]⟩), (.bool true)]) w8) (
 Bi .eql a0 (.int .i64 111) fun t14 =>
 Cnd t14 (
 R (.tuple #[(.string ⟨#[81]⟩), (.bool true)]) w8) (
 Bi .eql a0 (.int .i64 112) fun t15 =>
 Cnd t15 (
 R (.tuple #[(.string ⟨#[102, 109]⟩), (.bool true)]) w8) (
 ∀ J16 : List Value → World → Prop, (∀ t19, ∀ w18 : World, (∀ u17 : Env,
 Cnd t19 (
 R (.tuple #[(.string ⟨#[113, 83]⟩), (.bool true)]) w18) (
 Bi .eql a0 (.int .i64 114) fun t20 =>
 Cnd t20 (
 R (.tuple #[(.string ⟨#[102, 78, 112, 109]⟩), (.bool true)]) w18) (
 Bi .eql a0 (.int .i64 116) fun t21 =>
 Cnd t21 (
 R (.tuple #[(.string ⟨#[102, 79, 83]⟩), (.bool true)]) w18) (
 Bi .eql a0 (.int .i64 117) fun t22 =>
 Cnd t22 (
 R (.tuple #[(.string ⟨#[68]⟩), (.bool true)]) w18) (
 Bi .eql a0 (.int .i64 118) fun t23 =>
 Cnd t23 (
 R (.tuple #[(.string ⟨#[102, 79, 68]⟩), (.bool true)]) w18) (
 Bi .eql a0 (.int .i64 119) fun t24 =>
 Cnd t24 (
 R (.tuple #[(.string ⟨#[83]⟩), (.bool true)]) w18) (
 ∀ J25 : List Value → World → Prop, (∀ t28, ∀ w27 : World, (∀ u26 : Env,
 Cnd t28 (
 R (.tuple #[(.string ⟨#[102]⟩), (.bool true)]) w27) (
 Bi .eql a0 (.int .i64 125) fun t29 =>
 Cnd t29 (
 R (.tuple #[(.string ⟨#[105]⟩), (.bool true)]) w27) (
 Bi .eql a0 (.int .i64 126) fun t30 =>
 Cnd t30 (
 R (.tuple #[(.string ⟨#[102, 105]⟩), (.bool true)]) w27) (
 ∀ J31 : List Value → World → Prop, (∀ t34, ∀ w33 : World, (∀ u32 : Env,
 Cnd t34 (
 R (.tuple #[(.string ⟨#[]⟩), (.bool true)]) w33) (
 R (.tuple #[(.string ⟨#[]⟩), (.bool false)]) w33)) → J31 [t34] w33) →
 Bi .eql a0 (.int .i64 109) fun t35 =>
 Cnd t35 (
 J31 [t35] w27) (
 Bi .eql a0 (.int .i64 121) fun t36 =>
 Cnd t36 (
 J31 [t36] w27) (
 Bi .eql a0 (.int .i64 123) fun t37 =>
 Cnd t37 (
 J31 [t37] w27) (
 Bi .eql a0 (.int .i64 127) fun t38 =>
 J31 [t38] w27))))))) → J25 [t28] w27) →
 Bi .eql a0 (.int .i64 120) fun t39 =>
 Cnd t39 (
 J25 [t39] w18) (
 Bi .eql a0 (.int .i64 122) fun t40 =>
 Cnd t40 (
 J25 [t40] w18) (
 Bi .eql a0 (.int .i64 124) fun t41 =>
 J25 [t41] w18))))))))) → J16 [t19] w18) →
 Bi .eql a0 (.int .i64 113) fun t42 =>
 Cnd t42 (
 J16 [t42] w8) (
 Bi .eql a0 (.int .i64 115) fun t43 =>
 J16 [t43] w8))))))))) → J6 [t9] w8) →
 Bi .eql a0 (.int .i64 103) fun t44 =>
 Cnd t44 (
 J6 [t44] w3) (
 Bi .eql a0 (.int .i64 105) fun t45 =>
 J6 [t45] w3)))) → J1 [t4] w3) →
 Bi .eql a0 (.int .i64 100) fun t46 =>
 Cnd t46 (
 J1 [t46] w) (
 Bi .eql a0 (.int .i64 101) fun t47 =>
 J1 [t47] w)
def S.r31_Fields.an : Ann := (.seq .leaf (.seq (.seq .leaf (.block (.join (.seq .leaf (.cond .leaf .leaf)) [5] [6,7] (.cond (.seq .leaf .leaf) (.seq .leaf (.cond (.seq .leaf .leaf) (.join (.seq .leaf (.cond .leaf .leaf)) [10] [11,12] (.cond (.seq .leaf .leaf) (.seq .leaf (.cond (.seq .leaf .leaf) (.seq .leaf (.cond (.seq .leaf .leaf) (.seq .leaf (.cond (.seq .leaf .leaf) (.seq .leaf (.cond (.seq .leaf .leaf) (.seq .leaf (.cond (.seq .leaf .leaf) (.seq .leaf (.cond (.seq .leaf .leaf) (.join (.seq .leaf (.cond .leaf .leaf)) [25] [26,27] (.cond (.seq .leaf .leaf) (.seq .leaf (.cond (.seq .leaf .leaf) (.seq .leaf (.cond (.seq .leaf .leaf) (.seq .leaf (.cond (.seq .leaf .leaf) (.seq .leaf (.cond (.seq .leaf .leaf) (.seq .leaf (.cond (.seq .leaf .leaf) (.join (.seq .leaf (.cond .leaf (.seq .leaf (.cond .leaf .leaf)))) [38] [39,40,41] (.cond (.seq .leaf .leaf) (.seq .leaf (.cond (.seq .leaf .leaf) (.seq .leaf (.cond (.seq .leaf .leaf) (.join (.seq .leaf (.cond .leaf (.seq .leaf (.cond .leaf (.seq .leaf (.cond .leaf .leaf)))))) [46] [47,48,49,50] (.cond (.seq .leaf .leaf) .leaf)))))))))))))))))))))))))))))))))))))))) (.seq .leaf .leaf)))
theorem S.r31_Fields.eq (a0 : Value) (w : World) (R : Value → World → Prop) : S.r31_Fields a0 w R = fnC PP 51 (Tryd.f59.body.getD .skip) S.r31_Fields.an [.tmp 2, .tmp 3] [a0] w R := by kernel_rfl
theorem S.r31_Fields.calls {a0 : Value} {w : World} {R : Value → World → Prop} (h : S.r31_Fields a0 w R) : Ca PP Fn.r31_Fields #[a0] w R :=
  fnC_calls mixed (f := Fn.r31_Fields) (an := S.r31_Fields.an) Tryd.func59 rfl (by show _ ≤ _; exact Nat.le_of_ble_eq_true rfl) (S.r31_Fields.eq a0 w R ▸ h)
/-- acheron/acheronref31.readNumber -/
def S.r31_readNumber (a0 a1 : Value) (w : World) (R : Value → World → Prop) : Prop :=
 Al Ty.r31_reader (a0 : Value).cells w fun t1 w2 =>
 Al Ty.r31_reader #[.string ⟨#[]⟩, .int .i64 0, .bool false] w2 fun t3 w4 =>
 LdA PP 3 t1 w4 fun t5 =>
 Ca PP Fn.r31_take #[t5, a1] w4 fun t6 w7 =>
 Ex t6 0 fun t8 =>
 Ex t6 1 fun t9 =>
 Al Ty.r31_reader #[.string ⟨#[]⟩, .int .i64 0, .bool false] w7 fun t10 w11 =>
 St PP 3 t10 t9 w11 fun w12 =>
 Dr w12 fun w13 =>
 LdA PP 3 t10 w13 fun t14 =>
 Ca PP Fn.r31_value #[t8] w13 fun t15 w16 =>
 (LdA PP 3 t10 w16 fun t17 =>
 t17 = t14) ∧
 Cv .i64 t15 fun t18 =>
 St PP 3 t3 t14 w16 fun w19 =>
 LdA PP 3 t3 w19 fun t20 =>
 R (.tuple #[t18, t20]) w19
def S.r31_readNumber.an : Ann := (.seq .leaf (.seq .leaf (.seq (.draw [[],[0],[0,1],[],[0,1,2],[0,1,2,3,4]] (.calm 0 (.calm 3 (.eff1 1 [3] (.calm 2 (.calm 4 (.eff1 5 [] .done))))))) .leaf)))
theorem S.r31_readNumber.eq (a0 a1 : Value) (w : World) (R : Value → World → Prop) : S.r31_readNumber a0 a1 w R = fnC PP 18 (Tryd.f60.body.getD .skip) S.r31_readNumber.an [.tmp 4, .cell 5 94] [a0, a1] w R := by kernel_rfl
theorem S.r31_readNumber.calls {a0 a1 : Value} {w : World} {R : Value → World → Prop} (h : S.r31_readNumber a0 a1 w R) : Ca PP Fn.r31_readNumber #[a0, a1] w R :=
  fnC_calls mixed (f := Fn.r31_readNumber) (an := S.r31_readNumber.an) Tryd.func60 rfl (by show _ ≤ _; exact Nat.le_of_ble_eq_true rfl) (S.r31_readNumber.eq a0 a1 w R ▸ h)
/-- acheron/acheronref31.readLong -/
def S.r31_readLong (a0 : Value) (w : World) (R : Value → World → Prop) : Prop :=
 Al Ty.r31_reader (a0 : Value).cells w fun t1 w2 =>
 Al Ty.r31_reader #[.string ⟨#[]⟩, .int .i64 0, .bool false] w2 fun t3 w4 =>
 LdA PP 3 t1 w4 fun t5 =>
 Ca PP Fn.r31_take #[t5, (.int .i64 8)] w4 fun t6 w7 =>
 Ex t6 0 fun t8 =>
 Ex t6 1 fun t9 =>
 Al Ty.r31_reader #[.string ⟨#[]⟩, .int .i64 0, .bool false] w7 fun t10 w11 =>
 St PP 3 t10 t9 w11 fun w12 =>
 Dr w12 fun w13 =>
 LdA PP 3 t10 w13 fun t14 =>
 Ca PP Fn.r31_value #[t8] w13 fun t15 w16 =>
 (LdA PP 3 t10 w16 fun t17 =>
 t17 = t14) ∧
 Cv .i64 t15 fun t18 =>
 St PP 3 t3 t14 w16 fun w19 =>
 LdA PP 3 t3 w19 fun t20 =>
 R (.tuple #[t18, t20]) w19
def S.r31_readLong.an : Ann := (.seq .leaf (.seq .leaf (.seq (.draw [[],[0],[0,1],[],[0,1,2],[0,1,2,3,4]] (.calm 0 (.calm 3 (.eff1 1 [3] (.calm 2 (.calm 4 (.eff1 5 [] .done))))))) .leaf)))
theorem S.r31_readLong.eq (a0 : Value) (w : World) (R : Value → World → Prop) : S.r31_readLong a0 w R = fnC PP 15 (Tryd.f61.body.getD .skip) S.r31_readLong.an [.tmp 2, .cell 3 94] [a0] w R := by kernel_rfl
theorem S.r31_readLong.calls {a0 : Value} {w : World} {R : Value → World → Prop} (h : S.r31_readLong a0 w R) : Ca PP Fn.r31_readLong #[a0] w R :=
  fnC_calls mixed (f := Fn.r31_readLong) (an := S.r31_readLong.an) Tryd.func61 rfl (by show _ ≤ _; exact Nat.le_of_ble_eq_true rfl) (S.r31_readLong.eq a0 w R ▸ h)
/-- acheron/acheronref31.readWord -/
def S.r31_readWord (a0 : Value) (w : World) (R : Value → World → Prop) : Prop :=
 Al Ty.r31_reader (a0 : Value).cells w fun t1 w2 =>
 Al Ty.r31_reader #[.string ⟨#[]⟩, .int .i64 0, .bool false] w2 fun t3 w4 =>
 LdA PP 3 t1 w4 fun t5 =>
 Ca PP Fn.r31_readNumber #[t5, (.int .i64 2)] w4 fun t6 w7 =>
 Ex t6 0 fun t8 =>
 Ex t6 1 fun t9 =>
 Al Ty.r31_reader #[.string ⟨#[]⟩, .int .i64 0, .bool false] w7 fun t10 w11 =>
 St PP 3 t10 t9 w11 fun w12 =>
 LdA PP 3 t10 w12 fun t13 =>
 Ca PP Fn.r31_take #[t13, t8] w12 fun t14 w15 =>
 Ex t14 0 fun t16 =>
 Ex t14 1 fun t17 =>
 St PP 3 t3 t17 w15 fun w18 =>
 LdA PP 3 t3 w18 fun t19 =>
 R (.tuple #[t16, t19]) w18
def S.r31_readWord.an : Ann := (.seq .leaf (.seq .leaf (.seq .leaf .leaf)))
theorem S.r31_readWord.eq (a0 : Value) (w : World) (R : Value → World → Prop) : S.r31_readWord a0 w R = fnC PP 16 (Tryd.f62.body.getD .skip) S.r31_readWord.an [.tmp 2, .cell 3 94] [a0] w R := by kernel_rfl
theorem S.r31_readWord.calls {a0 : Value} {w : World} {R : Value → World → Prop} (h : S.r31_readWord a0 w R) : Ca PP Fn.r31_readWord #[a0] w R :=
  fnC_calls mixed (f := Fn.r31_readWord) (an := S.r31_readWord.an) Tryd.func62 rfl (by show _ ≤ _; exact Nat.le_of_ble_eq_true rfl) (S.r31_readWord.eq a0 w R ▸ h)
/-- acheron/acheronref31.take -/
def S.r31_take (a0 a1 : Value) (w : World) (R : Value → World → Prop) : Prop :=
 Al Ty.r31_reader (a0 : Value).cells w fun t1 w2 =>
 Al Ty.r31_reader #[.string ⟨#[]⟩, .int .i64 0, .bool false] w2 fun t3 w4 =>
 ∀ J5 : List Value → World → Prop, (∀ t8, ∀ w7 : World, (∀ u6 : Env,
 Cnd t8 (
 Fa 2 t1 fun t9 =>
 St PP 1 t9 (.bool true) w7 fun w10 =>
 Dr w10 fun w11 =>
 LdA PP 3 t1 w11 fun t12 =>
 St PP 3 t3 t12 w11 fun w13 =>
 LdA PP 3 t3 w13 fun t14 =>
 R (.tuple #[(.string ⟨#[]⟩), t14]) w13) (
 Fa 0 t1 fun t15 =>
 Ld t15 w7 fun t16 =>
 Fa 1 t1 fun t17 =>
 Ld t17 w7 fun t18 =>
 Fa 1 t1 fun t19 =>
 Ld t19 w7 fun t20 =>
 Bi .add t20 a1 fun t21 =>
 SlS t16 (some t18) (some t21) fun t22 =>
 Fa 1 t1 fun t23 =>
 Ld t23 w7 fun t24 =>
 Bi .add t24 a1 fun t25 =>
 Fa 1 t1 fun t26 =>
 St PP 1 t26 t25 w7 fun w27 =>
 Dr w27 fun w28 =>
 LdA PP 3 t1 w28 fun t29 =>
 St PP 3 t3 t29 w28 fun w30 =>
 LdA PP 3 t3 w30 fun t31 =>
 R (.tuple #[t22, t31]) w30)) → J5 [t8] w7) →
 Fa 2 t1 fun t32 =>
 Ld t32 w4 fun t33 =>
 Gd t33 false (fun k34 => k34 a1 w4) w4 fun t35 w36 =>
 Gd t33 false (fun k37 => Fa 0 t1 fun t40 =>
 k37 t40 w36) w36 fun t38 w39 =>
 Gd t33 false (fun k41 => Ld t38 w39 fun t44 =>
 k41 t44 w39) w39 fun t42 w43 =>
 Gd t33 false (fun k45 => LnS t42 fun t48 =>
 k45 t48 w43) w43 fun t46 w47 =>
 Gd t33 false (fun k49 => Fa 1 t1 fun t52 =>
 k49 t52 w47) w47 fun t50 w51 =>
 Gd t33 false (fun k53 => Ld t50 w51 fun t56 =>
 k53 t56 w51) w51 fun t54 w55 =>
 Gd t33 false (fun k57 => Bi .sub t46 t54 fun t60 =>
 k57 t60 w55) w55 fun t58 w59 =>
 Gd t33 false (fun k61 => Bi .gtr t35 t58 fun t64 =>
 k61 t64 w59) w59 fun t62 w63 =>
 Pk t33 (.bool true) t62 fun t65 =>
 J5 [t65] w63
def S.r31_take.an : Ann := (.seq .leaf (.seq (.join .leaf [18] [7,8,9,10,11,12,13,14,15,16,17] (.cond (.seq .leaf (.seq (.draw [[],[],[0,1]] (.calm 0 (.calm 1 (.eff1 2 [] .done)))) .leaf)) .leaf)) (.seq .leaf (.seq .leaf (.seq (.draw [[],[],[0],[0,1,2]] (.calm 0 (.calm 1 (.calm 2 (.eff1 3 [] .done))))) .leaf)))))
theorem S.r31_take.eq (a0 a1 : Value) (w : World) (R : Value → World → Prop) : S.r31_take a0 a1 w R = fnC PP 37 (Tryd.f63.body.getD .skip) S.r31_take.an [.tmp 4, .cell 5 94] [a0, a1] w R := by kernel_rfl
theorem S.r31_take.calls {a0 a1 : Value} {w : World} {R : Value → World → Prop} (h : S.r31_take a0 a1 w R) : Ca PP Fn.r31_take #[a0, a1] w R :=
  fnC_calls mixed (f := Fn.r31_take) (an := S.r31_take.an) Tryd.func63 rfl (by show _ ≤ _; exact Nat.le_of_ble_eq_true rfl) (S.r31_take.eq a0 a1 w R ▸ h)
/-- acheron/acheronref31.readQid -/
def S.r31_readQid (a0 : Value) (w : World) (R : Value → World → Prop) : Prop :=
 Al Ty.r31_reader (a0 : Value).cells w fun t1 w2 =>
 Al Ty.api_Qid #[.int .i64 0, .int .i64 0, .int .i64 0] w2 fun t3 w4 =>
 Al Ty.r31_reader #[.string ⟨#[]⟩, .int .i64 0, .bool false] w4 fun t5 w6 =>
 Bd #[.int .i64 0, .int .i64 0, .int .i64 0] [(0, 1), (1, 1), (2, 1)] [] fun t7 =>
 Al Ty.api_Qid #[.int .i64 0, .int .i64 0, .int .i64 0] w6 fun t8 w9 =>
 St PP 3 t8 t7 w9 fun w10 =>
 LdA PP 3 t1 w10 fun t11 =>
 Ca PP Fn.r31_readNumber #[t11, (.int .i64 1)] w10 fun t12 w13 =>
 Ex t12 0 fun t14 =>
 Ex t12 1 fun t15 =>
 Fa 0 t8 fun t16 =>
 St PP 1 t16 t14 w13 fun w17 =>
 St PP 3 t1 t15 w17 fun w18 =>
 LdA PP 3 t1 w18 fun t19 =>
 Ca PP Fn.r31_readNumber #[t19, (.int .i64 4)] w18 fun t20 w21 =>
 Ex t20 0 fun t22 =>
 Ex t20 1 fun t23 =>
 Fa 1 t8 fun t24 =>
 St PP 1 t24 t22 w21 fun w25 =>
 St PP 3 t1 t23 w25 fun w26 =>
 LdA PP 3 t1 w26 fun t27 =>
 Ca PP Fn.r31_readLong #[t27] w26 fun t28 w29 =>
 Ex t28 0 fun t30 =>
 Ex t28 1 fun t31 =>
 Fa 2 t8 fun t32 =>
 St PP 1 t32 t30 w29 fun w33 =>
 St PP 3 t1 t31 w33 fun w34 =>
 Dr w34 fun w35 =>
 LdA PP 3 t8 w35 fun t36 =>
 LdA PP 3 t1 w35 fun t37 =>
 St PP 3 t3 t36 w35 fun w38 =>
 (LdA PP 3 t1 w38 fun t39 =>
 t39 = t37) ∧
 St PP 3 t5 t37 w38 fun w40 =>
 LdA PP 3 t3 w40 fun t41 =>
 LdA PP 3 t5 w40 fun t42 =>
 R (.tuple #[t41, t42]) w40
def S.r31_readQid.an : Ann := (.seq .leaf (.seq .leaf (.seq .leaf (.seq .leaf (.seq .leaf (.seq (.draw [[],[],[0],[0,1,2]] (.calm 0 (.calm 1 (.eff1 2 [1] (.eff1 3 [] .done))))) .leaf))))))
theorem S.r31_readQid.eq (a0 : Value) (w : World) (R : Value → World → Prop) : S.r31_readQid a0 w R = fnC PP 26 (Tryd.f64.body.getD .skip) S.r31_readQid.an [.cell 2 25, .cell 3 94] [a0] w R := by kernel_rfl
theorem S.r31_readQid.calls {a0 : Value} {w : World} {R : Value → World → Prop} (h : S.r31_readQid a0 w R) : Ca PP Fn.r31_readQid #[a0] w R :=
  fnC_calls mixed (f := Fn.r31_readQid) (an := S.r31_readQid.an) Tryd.func64 rfl (by show _ ≤ _; exact Nat.le_of_ble_eq_true rfl) (S.r31_readQid.eq a0 w R ▸ h)
/-- acheron/acheronref31.readDir -/
def S.r31_readDir (a0 : Value) (w : World) (R : Value → World → Prop) : Prop :=
 Al Ty.r31_reader (a0 : Value).cells w fun t1 w2 =>
 Al Ty.api_Dir #[.int .i64 0, .int .i64 0, .int .i64 0, .int .i64 0, .int .i64 0, .int .i64 0, .string ⟨#[]⟩, .string ⟨#[]⟩, .string ⟨#[]⟩, .string ⟨#[]⟩] w2 fun t3 w4 =>
 Al Ty.r31_reader #[.string ⟨#[]⟩, .int .i64 0, .bool false] w4 fun t5 w6 =>
 LdA PP 3 t1 w6 fun t7 =>
 Ca PP Fn.r31_readNumber #[t7, (.int .i64 2)] w6 fun t8 w9 =>
 Ex t8 0 fun t10 =>
 Ex t8 1 fun t11 =>
 St PP 3 t1 t11 w9 fun w12 =>
 LdA PP 3 t1 w12 fun t13 =>
 Ca PP Fn.r31_take #[t13, t10] w12 fun t14 w15 =>
 Ex t14 0 fun t16 =>
 Ex t14 1 fun t17 =>
 St PP 3 t1 t17 w15 fun w18 =>
 Bd #[.string ⟨#[]⟩, .int .i64 0, .bool false] [(0, 1), (1, 1), (2, 1)] [(0, t16)] fun t19 =>
 Al Ty.r31_reader #[.string ⟨#[]⟩, .int .i64 0, .bool false] w18 fun t20 w21 =>
 St PP 3 t20 t19 w21 fun w22 =>
 Bd #[.int .i64 0, .int .i64 0, .int .i64 0, .int .i64 0, .int .i64 0, .int .i64 0, .string ⟨#[]⟩, .string ⟨#[]⟩, .string ⟨#[]⟩, .string ⟨#[]⟩] [(0, 3), (3, 1), (4, 1), (5, 1), (6, 1), (7, 1), (8, 1), (9, 1)] [] fun t23 =>
 Al Ty.api_Dir #[.int .i64 0, .int .i64 0, .int .i64 0, .int .i64 0, .int .i64 0, .int .i64 0, .string ⟨#[]⟩, .string ⟨#[]⟩, .string ⟨#[]⟩, .string ⟨#[]⟩] w22 fun t24 w25 =>
 St PP 10 t24 t23 w25 fun w26 =>
 LdA PP 3 t20 w26 fun t27 =>
 Ca PP Fn.r31_readQid #[t27] w26 fun t28 w29 =>
 Ex t28 0 fun t30 =>
 Ex t28 1 fun t31 =>
 Fa 0 t24 fun t32 =>
 St PP 3 t32 t30 w29 fun w33 =>
 St PP 3 t20 t31 w33 fun w34 =>
 LdA PP 3 t20 w34 fun t35 =>
 Ca PP Fn.r31_readNumber #[t35, (.int .i64 4)] w34 fun t36 w37 =>
 Ex t36 0 fun t38 =>
 Ex t36 1 fun t39 =>
 Fa 3 t24 fun t40 =>
 St PP 1 t40 t38 w37 fun w41 =>
 St PP 3 t20 t39 w41 fun w42 =>
 LdA PP 3 t20 w42 fun t43 =>
 Ca PP Fn.r31_readLong #[t43] w42 fun t44 w45 =>
 Ex t44 0 fun t46 =>
 Ex t44 1 fun t47 =>
 Fa 4 t24 fun t48 =>
 St PP 1 t48 t46 w45 fun w49 =>
 St PP 3 t20 t47 w49 fun w50 =>
 LdA PP 3 t20 w50 fun t51 =>
 Ca PP Fn.r31_readLong #[t51] w50 fun t52 w53 =>
 Ex t52 0 fun t54 =>
 Ex t52 1 fun t55 =>
 Fa 5 t24 fun t56 =>
 St PP 1 t56 t54 w53 fun w57 =>
 St PP 3 t20 t55 w57 fun w58 =>
 LdA PP 3 t20 w58 fun t59 =>
 Ca PP Fn.r31_readWord #[t59] w58 fun t60 w61 =>
 Ex t60 0 fun t62 =>
 Ex t60 1 fun t63 =>
 Fa 6 t24 fun t64 =>
 St PP 1 t64 t62 w61 fun w65 =>
 St PP 3 t20 t63 w65 fun w66 =>
 LdA PP 3 t20 w66 fun t67 =>
 Ca PP Fn.r31_readWord #[t67] w66 fun t68 w69 =>
 Ex t68 0 fun t70 =>
 Ex t68 1 fun t71 =>
 Fa 7 t24 fun t72 =>
 St PP 1 t72 t70 w69 fun w73 =>
 St PP 3 t20 t71 w73 fun w74 =>
 LdA PP 3 t20 w74 fun t75 =>
 Ca PP Fn.r31_readWord #[t75] w74 fun t76 w77 =>
 Ex t76 0 fun t78 =>
 Ex t76 1 fun t79 =>
 Fa 8 t24 fun t80 =>
 St PP 1 t80 t78 w77 fun w81 =>
 St PP 3 t20 t79 w81 fun w82 =>
 LdA PP 3 t20 w82 fun t83 =>
 Ca PP Fn.r31_readWord #[t83] w82 fun t84 w85 =>
 Ex t84 0 fun t86 =>
 Ex t84 1 fun t87 =>
 Fa 9 t24 fun t88 =>
 St PP 1 t88 t86 w85 fun w89 =>
 St PP 3 t20 t87 w89 fun w90 =>
 ∀ J91 : List Value → World → Prop, (∀ w93 : World, (∀ u92 : Env,
 ∀ J94 : List Value → World → Prop, (∀ w96 : World, (∀ u95 : Env,
 Dr w96 fun w97 =>
 LdA PP 10 t24 w97 fun t98 =>
 LdA PP 3 t1 w97 fun t99 =>
 St PP 10 t3 t98 w97 fun w100 =>
 (LdA PP 3 t1 w100 fun t101 =>
 t101 = t99) ∧
 St PP 3 t5 t99 w100 fun w102 =>
 LdA PP 10 t3 w102 fun t103 =>
 LdA PP 3 t5 w102 fun t104 =>
 R (.tuple #[t103, t104]) w102) → J94 [] w96) →
 Fa 3 t24 fun t105 =>
 Ld t105 w93 fun t106 =>
 Bi .eql t106 (.int .i64 4294967295) fun t107 =>
 Cnd t107 (
 Fa 3 t24 fun t108 =>
 St PP 1 t108 (.int .i64 (-1)) w93 fun w109 =>
 J94 [] w109) (
 J94 [] w93)) → J91 [] w93) →
 ∀ J110 : List Value → World → Prop, (∀ t113, ∀ w112 : World, (∀ u111 : Env,
 Cnd t113 (
 Fa 2 t1 fun t114 =>
 St PP 1 t114 (.bool true) w112 fun w115 =>
 J91 [] w115) (
 J91 [] w112)) → J110 [t113] w112) →
 Fa 2 t20 fun t116 =>
 Ld t116 w90 fun t117 =>
 Gd t117 false (fun k118 => Fa 1 t20 fun t121 =>
 k118 t121 w90) w90 fun t119 w120 =>
 Gd t117 false (fun k122 => Ld t119 w120 fun t125 =>
 k122 t125 w120) w120 fun t123 w124 =>
 Gd t117 false (fun k126 => k126 t16 w124) w124 fun t127 w128 =>
 Gd t117 false (fun k129 => LnS t127 fun t132 =>
 k129 t132 w128) w128 fun t130 w131 =>
 Gd t117 false (fun k133 => Bi .neq t123 t130 fun t136 =>
 k133 t136 w131) w131 fun t134 w135 =>
 Pk t117 (.bool true) t134 fun t137 =>
 J110 [t137] w135
def S.r31_readDir.an : Ann := (.seq .leaf (.seq .leaf (.seq .leaf (.seq .leaf (.seq .leaf (.seq .leaf (.seq .leaf (.seq .leaf (.seq .leaf (.seq .leaf (.seq .leaf (.seq .leaf (.seq .leaf (.join (.join .leaf [78] [70,71,72,73,74,75,76,77] (.cond .leaf .leaf)) [] [70,71,72,73,74,75,76,77,78,79] (.join (.seq .leaf (.cond .leaf .leaf)) [] [80,81,82,83] (.seq (.draw [[],[],[0],[0,1,2]] (.calm 0 (.calm 1 (.eff1 2 [1] (.eff1 3 [] .done))))) .leaf))))))))))))))))
theorem S.r31_readDir.eq (a0 : Value) (w : World) (R : Value → World → Prop) : S.r31_readDir a0 w R = fnC PP 86 (Tryd.f65.body.getD .skip) S.r31_readDir.an [.cell 2 27, .cell 3 94] [a0] w R := by kernel_rfl
theorem S.r31_readDir.calls {a0 : Value} {w : World} {R : Value → World → Prop} (h : S.r31_readDir a0 w R) : Ca PP Fn.r31_readDir #[a0] w R :=
  fnC_calls mixed (f := Fn.r31_readDir) (an := S.r31_readDir.an) Tryd.func65 rfl (by show _ ≤ _; exact Nat.le_of_ble_eq_true rfl) (S.r31_readDir.eq a0 w R ▸ h)
/-- acheron/acheronref31.number -/
def S.r31_number (a0 a1 : Value) (w : World) (R : Value → World → Prop) : Prop :=
 Ef PP (Instr.buildSlice Ty.sl_uint8 0 #[]) w fun t1 w2 =>
 Cv .u64 a0 fun t3 =>
 ∃ (I4 : List Value → World → Prop) (m5 : List Value → World → Nat), I4 [t1, t3, (.int .i64 0)] w2 ∧ ∀ t8 t9 t10, ∀ (u6 : Env) (w7 : World), I4 [t8, t9, t10] w7 →
 Bi .lss t10 a1 fun t11 =>
 Cnd t11 (
 Cv .u8 t9 fun t12 =>
 Ef PP (Instr.buildSlice Ty.sl_uint8 1 #[(0, t12)]) w7 fun t13 w14 =>
 Ef PP (Builtin.append_ #[Ty.sl_uint8, Ty.sl_uint8] Ty.sl_uint8 #[t8, t13]) w14 fun t15 w16 =>
 Bi .shr t9 (.int .u64 8) fun t17 =>
 Bi .add t10 (.int .i64 1) fun t18 =>
 I4 [t15, t17, t18] w16 ∧ m5 [t15, t17, t18] w16 < m5 [t8, t9, t10] w7) (
 Rd PP (convert Ty.sl_uint8 Ty.string t8) w7 fun t19 =>
 R t19 w7)
def S.r31_number.an : Ann := (.seq .leaf (.seq .leaf (.seq .leaf (.seq (.seq .leaf (.block (.loop (.seq (.seq .leaf (.cond .leaf .leaf)) (.seq (.block (.seq .leaf .leaf)) .leaf)) [5,6,7] [11,12,13,14,15,16,17,18,19,20,21,22]))) (.seq .leaf .leaf)))))
theorem S.r31_number.eq (a0 a1 : Value) (w : World) (R : Value → World → Prop) : S.r31_number a0 a1 w R = fnC PP 25 (Tryd.f66.body.getD .skip) S.r31_number.an [.tmp 4] [a0, a1] w R := by kernel_rfl
theorem S.r31_number.calls {a0 a1 : Value} {w : World} {R : Value → World → Prop} (h : S.r31_number a0 a1 w R) : Ca PP Fn.r31_number #[a0, a1] w R :=
  fnC_calls mixed (f := Fn.r31_number) (an := S.r31_number.an) Tryd.func66 rfl (by show _ ≤ _; exact Nat.le_of_ble_eq_true rfl) (S.r31_number.eq a0 a1 w R ▸ h)
/-- acheron/acheronref31.room -/
def S.r31_room (a0 a1 : Value) (w : World) (R : Value → World → Prop) : Prop :=
 Al Ty.api_Msg (a0 : Value).cells w fun t1 w2 =>
 ∃ (I3 : List Value → World → Prop) (m4 : List Value → World → Nat), I3 [(.int .i64 7), (.int .i64 0)] w2 ∧ ∀ t7 t8, ∀ (u5 : Env) (w6 : World), I3 [t7, t8] w6 →
 LnS a1 fun t9 =>
 Bi .lss t8 t9 fun t10 =>
 Cnd t10 (
 ∀ J11 : List Value → World → Prop, (∀ t14, ∀ w13 : World, (∀ u12 : Env,
 Bi .add t8 (.int .i64 1) fun t15 =>
 I3 [t14, t15] w13 ∧ m4 [t14, t15] w13 < m4 [t7, t8] w6) → J11 [t14] w13) →
 IxS a1 t8 fun t16 =>
 ∀ J17 : List Value → World → Prop, (∀ t20, ∀ w19 : World, (∀ u18 : Env,
 Cnd t20 (
 Bi .add t7 (.int .i64 4) fun t21 =>
 J11 [t21] w19) (
 ∀ J22 : List Value → World → Prop, (∀ t25, ∀ w24 : World, (∀ u23 : Env,
 Cnd t25 (
 Bi .add t7 (.int .i64 2) fun t26 =>
 J11 [t26] w24) (
 Bi .eql t16 (.int .u8 109) fun t27 =>
 Cnd t27 (
 Bi .add t7 (.int .i64 1) fun t28 =>
 J11 [t28] w24) (
 Bi .eql t16 (.int .u8 79) fun t29 =>
 Cnd t29 (
 Bi .add t7 (.int .i64 8) fun t30 =>
 J11 [t30] w24) (
 Bi .eql t16 (.int .u8 118) fun t31 =>
 Cnd t31 (
 Bi .add t7 (.int .i64 2) fun t32 =>
 Fa 9 t1 fun t33 =>
 Ld t33 w24 fun t34 =>
 LnS t34 fun t35 =>
 Bi .add t32 t35 fun t36 =>
 J11 [t36] w24) (
 Bi .eql t16 (.int .u8 117) fun t37 =>
 Cnd t37 (
 Bi .add t7 (.int .i64 2) fun t38 =>
 Fa 10 t1 fun t39 =>
 Ld t39 w24 fun t40 =>
 LnS t40 fun t41 =>
 Bi .add t38 t41 fun t42 =>
 J11 [t42] w24) (
 Bi .eql t16 (.int .u8 116) fun t43 =>
 Cnd t43 (
 Bi .add t7 (.int .i64 2) fun t44 =>
 Fa 11 t1 fun t45 =>
 Ld t45 w24 fun t46 =>
 LnS t46 fun t47 =>
 Bi .add t44 t47 fun t48 =>
 J11 [t48] w24) (
 Bi .eql t16 (.int .u8 78) fun t49 =>
 Cnd t49 (
 Bi .add t7 (.int .i64 2) fun t50 =>
 Fa 12 t1 fun t51 =>
 Ld t51 w24 fun t52 =>
 LnS t52 fun t53 =>
 Bi .add t50 t53 fun t54 =>
 J11 [t54] w24) (
 Bi .eql t16 (.int .u8 68) fun t55 =>
 Cnd t55 (
 Bi .add t7 (.int .i64 4) fun t56 =>
 Fa 15 t1 fun t57 =>
 Ld t57 w24 fun t58 =>
 LnS t58 fun t59 =>
 Bi .add t56 t59 fun t60 =>
 J11 [t60] w24) (
 Bi .eql t16 (.int .u8 113) fun t61 =>
 Cnd t61 (
 Bi .add t7 (.int .i64 13) fun t62 =>
 J11 [t62] w24) (
 Bi .eql t16 (.int .u8 81) fun t63 =>
 Cnd t63 (
 Bi .add t7 (.int .i64 2) fun t64 =>
 Fa 14 t1 fun t65 =>
 Ld t65 w24 fun t66 =>
 LnL t66 fun t67 =>
 Bi .mul (.int .i64 13) t67 fun t68 =>
 Bi .add t64 t68 fun t69 =>
 J11 [t69] w24) (
 Bi .eql t16 (.int .u8 105) fun t70 =>
 Cnd t70 (
 Fa 16 t1 fun t71 =>
 LdA PP 10 t71 w24 fun t72 =>
 Ca PP Fn.r31_dirBytes #[t72] w24 fun t73 w74 =>
 Bi .add t7 t73 fun t75 =>
 J11 [t75] w74) (
 Bi .eql t16 (.int .u8 110) fun t76 =>
 Cnd t76 (
 Bi .add t7 (.int .i64 2) fun t77 =>
 ∃ (I78 : List Value → World → Prop) (m79 : List Value → World → Nat), I78 [t77, (.int .i64 0)] w24 ∧ ∀ t82 t83, ∀ (u80 : Env) (w81 : World), I78 [t82, t83] w81 →
 Fa 13 t1 fun t84 =>
 Ld t84 w81 fun t85 =>
 LnL t85 fun t86 =>
 Bi .lss t83 t86 fun t87 =>
 Cnd t87 (
 Bi .add t82 (.int .i64 2) fun t88 =>
 Fa 13 t1 fun t89 =>
 Ld t89 w81 fun t90 =>
 IxA 1 t90 t83 fun t91 =>
 Ld t91 w81 fun t92 =>
 LnS t92 fun t93 =>
 Bi .add t88 t93 fun t94 =>
 Bi .add t83 (.int .i64 1) fun t95 =>
 I78 [t94, t95] w81 ∧ m79 [t94, t95] w81 < m79 [t82, t83] w81) (
 J11 [t82] w81)) (
 J11 [t7] w24))))))))))))) → J22 [t25] w24) →
 Bi .eql t16 (.int .u8 99) fun t96 =>
 Cnd t96 (
 J22 [t96] w19) (
 Bi .eql t16 (.int .u8 100) fun t97 =>
 J22 [t97] w19))) → J17 [t20] w19) →
 Bi .eql t16 (.int .u8 83) fun t98 =>
 Cnd t98 (
 J17 [t98] w6) (
 Bi .eql t16 (.int .u8 102) fun t99 =>
 Cnd t99 (
 J17 [t99] w6) (
 Bi .eql t16 (.int .u8 111) fun t100 =>
 Cnd t100 (
 J17 [t100] w6) (
 Bi .eql t16 (.int .u8 112) fun t101 =>
 J17 [t101] w6)))) (
 R t7 w6)
def S.r31_room.an : Ann := (.seq .leaf (.seq .leaf (.seq (.seq .leaf (.block (.loop (.seq (.seq .leaf (.cond .leaf .leaf)) (.join (.block (.seq .leaf (.block (.join (.seq .leaf (.cond .leaf (.seq .leaf (.cond .leaf (.seq .leaf (.cond .leaf .leaf)))))) [17] [18,19,20,21] (.cond .leaf (.join (.seq .leaf (.cond .leaf .leaf)) [24] [25,26] (.cond .leaf (.seq .leaf (.cond .leaf (.seq .leaf (.cond .leaf (.seq .leaf (.cond .leaf (.seq .leaf (.cond .leaf (.seq .leaf (.cond .leaf (.seq .leaf (.cond .leaf (.seq .leaf (.cond .leaf (.seq .leaf (.cond .leaf (.seq .leaf (.cond .leaf (.seq .leaf (.cond .leaf (.seq .leaf (.cond (.seq .leaf (.seq .leaf (.block (.loop (.seq (.seq .leaf (.cond .leaf .leaf)) (.seq (.block .leaf) .leaf)) [5,7] [101,102,103,104,105,106,107,108,109,110,111,112,113,114,115,116])))) .leaf))))))))))))))))))))))))))))) [5] [7,14,15,16,17,18,19,20,21,22,23,24,25,26,27,28,29,30,31,32,33,34,35,36,37,38,39,40,41,42,43,44,45,46,47,48,49,50,51,52,53,54,55,56,57,58,59,60,61,62,63,64,65,66,67,68,69,70,71,72,73,74,75,76,77,78,79,80,81,82,83,84,85,86,87,88,89,90,91,92,93,94,95,96,97,98,99,100,101,102,103,104,105,106,107,108,109,110,111,112,113,114,115,116] .leaf)) [5,6] [7,8,9,10,11,12,13,14,15,16,17,18,19,20,21,22,23,24,25,26,27,28,29,30,31,32,33,34,35,36,37,38,39,40,41,42,43,44,45,46,47,48,49,50,51,52,53,54,55,56,57,58,59,60,61,62,63,64,65,66,67,68,69,70,71,72,73,74,75,76,77,78,79,80,81,82,83,84,85,86,87,88,89,90,91,92,93,94,95,96,97,98,99,100,101,102,103,104,105,106,107,108,109,110,111,112,113,114,115,116]))) (.seq .leaf .leaf))))
theorem S.r31_room.eq (a0 a1 : Value) (w : World) (R : Value → World → Prop) : S.r31_room a0 a1 w R = fnC PP 118 (Tryd.f67.body.getD .skip) S.r31_room.an [.tmp 4] [a0, a1] w R := by kernel_rfl
theorem S.r31_room.calls {a0 a1 : Value} {w : World} {R : Value → World → Prop} (h : S.r31_room a0 a1 w R) : Ca PP Fn.r31_room #[a0, a1] w R :=
  fnC_calls mixed (f := Fn.r31_room) (an := S.r31_room.an) Tryd.func67 rfl (by show _ ≤ _; exact Nat.le_of_ble_eq_true rfl) (S.r31_room.eq a0 a1 w R ▸ h)
/-- acheron/acheronref31.word -/
def S.r31_word (a0 : Value) (w : World) (R : Value → World → Prop) : Prop :=
 LnS a0 fun t1 =>
 Ca PP Fn.r31_number #[t1, (.int .i64 2)] w fun t2 w3 =>
 Bi .add t2 a0 fun t4 =>
 R t4 w3
def S.r31_word.an : Ann := (.seq .leaf (.seq .leaf .leaf))
theorem S.r31_word.eq (a0 : Value) (w : World) (R : Value → World → Prop) : S.r31_word a0 w R = fnC PP 8 (Tryd.f68.body.getD .skip) S.r31_word.an [.tmp 2] [a0] w R := by kernel_rfl
theorem S.r31_word.calls {a0 : Value} {w : World} {R : Value → World → Prop} (h : S.r31_word a0 w R) : Ca PP Fn.r31_word #[a0] w R :=
  fnC_calls mixed (f := Fn.r31_word) (an := S.r31_word.an) Tryd.func68 rfl (by show _ ≤ _; exact Nat.le_of_ble_eq_true rfl) (S.r31_word.eq a0 w R ▸ h)
/-- acheron/acheronref31.qid -/
def S.r31_qid (a0 : Value) (w : World) (R : Value → World → Prop) : Prop :=
 Al Ty.api_Qid (a0 : Value).cells w fun t1 w2 =>
 Dr w2 fun w3 =>
 Fa 0 t1 fun t4 =>
 Ld t4 w3 fun t5 =>
 Fa 1 t1 fun t6 =>
 Ld t6 w3 fun t7 =>
 Fa 2 t1 fun t8 =>
 Ld t8 w3 fun t9 =>
 Ca PP Fn.r31_number #[t5, (.int .i64 1)] w3 fun t10 w11 =>
 (Ld t6 w11 fun t12 =>
 t12 = t7) ∧
 (Ld t8 w11 fun t13 =>
 t13 = t9) ∧
 Ca PP Fn.r31_number #[t7, (.int .i64 4)] w11 fun t14 w15 =>
 (Ld t8 w15 fun t16 =>
 t16 = t9) ∧
 Bi .add t10 t14 fun t17 =>
 Ca PP Fn.r31_number #[t9, (.int .i64 8)] w15 fun t18 w19 =>
 Bi .add t17 t18 fun t20 =>
 R t20 w19
def S.r31_qid.an : Ann := (.seq .leaf (.seq (.draw [[],[0],[0,1],[],[3],[0,1,2,3,4],[0,1,2,3,4,5],[],[7],[0,1,2,3,4,5,7,8],[0,1,2,3,4,5,6,7,8,9],[0,1,2,3,4,5,6,7,8,9,10]] (.calm 0 (.calm 1 (.calm 3 (.calm 4 (.calm 7 (.calm 8 (.eff1 2 [4,8] (.eff1 5 [8] (.calm 6 (.eff1 9 [] (.calm 10 (.calm 11 .done))))))))))))) .leaf))
theorem S.r31_qid.eq (a0 : Value) (w : World) (R : Value → World → Prop) : S.r31_qid a0 w R = fnC PP 14 (Tryd.f69.body.getD .skip) S.r31_qid.an [.tmp 2] [a0] w R := by kernel_rfl
theorem S.r31_qid.calls {a0 : Value} {w : World} {R : Value → World → Prop} (h : S.r31_qid a0 w R) : Ca PP Fn.r31_qid #[a0] w R :=
  fnC_calls mixed (f := Fn.r31_qid) (an := S.r31_qid.an) Tryd.func69 rfl (by show _ ≤ _; exact Nat.le_of_ble_eq_true rfl) (S.r31_qid.eq a0 w R ▸ h)
/-- acheron/acheronref31.dir -/
def S.r31_dir (a0 : Value) (w : World) (R : Value → World → Prop) : Prop :=
 Al Ty.api_Dir (a0 : Value).cells w fun t1 w2 =>
 Dr w2 fun w3 =>
 Fa 0 t1 fun t4 =>
 LdA PP 3 t4 w3 fun t5 =>
 Fa 3 t1 fun t6 =>
 Ld t6 w3 fun t7 =>
 Fa 4 t1 fun t8 =>
 Ld t8 w3 fun t9 =>
 Fa 5 t1 fun t10 =>
 Ld t10 w3 fun t11 =>
 Fa 6 t1 fun t12 =>
 Ld t12 w3 fun t13 =>
 Fa 7 t1 fun t14 =>
 Ld t14 w3 fun t15 =>
 Fa 8 t1 fun t16 =>
 Ld t16 w3 fun t17 =>
 Fa 9 t1 fun t18 =>
 Ld t18 w3 fun t19 =>
 Ca PP Fn.r31_qid #[t5] w3 fun t20 w21 =>
 (Ld t6 w21 fun t22 =>
 t22 = t7) ∧
 (Ld t8 w21 fun t23 =>
 t23 = t9) ∧
 (Ld t10 w21 fun t24 =>
 t24 = t11) ∧
 (Ld t12 w21 fun t25 =>
 t25 = t13) ∧
 (Ld t14 w21 fun t26 =>
 t26 = t15) ∧
 (Ld t16 w21 fun t27 =>
 t27 = t17) ∧
 (Ld t18 w21 fun t28 =>
 t28 = t19) ∧
 Ca PP Fn.r31_number #[t7, (.int .i64 4)] w21 fun t29 w30 =>
 (Ld t8 w30 fun t31 =>
 t31 = t9) ∧
 (Ld t10 w30 fun t32 =>
 t32 = t11) ∧
 (Ld t12 w30 fun t33 =>
 t33 = t13) ∧
 (Ld t14 w30 fun t34 =>
 t34 = t15) ∧
 (Ld t16 w30 fun t35 =>
 t35 = t17) ∧
 (Ld t18 w30 fun t36 =>
 t36 = t19) ∧
 Bi .add t20 t29 fun t37 =>
 Ca PP Fn.r31_number #[t9, (.int .i64 8)] w30 fun t38 w39 =>
 (Ld t10 w39 fun t40 =>
 t40 = t11) ∧
 (Ld t12 w39 fun t41 =>
 t41 = t13) ∧
 (Ld t14 w39 fun t42 =>
 t42 = t15) ∧
 (Ld t16 w39 fun t43 =>
 t43 = t17) ∧
 (Ld t18 w39 fun t44 =>
 t44 = t19) ∧
 Bi .add t37 t38 fun t45 =>
 Ca PP Fn.r31_number #[t11, (.int .i64 8)] w39 fun t46 w47 =>
 (Ld t12 w47 fun t48 =>
 t48 = t13) ∧
 (Ld t14 w47 fun t49 =>
 t49 = t15) ∧
 (Ld t16 w47 fun t50 =>
 t50 = t17) ∧
 (Ld t18 w47 fun t51 =>
 t51 = t19) ∧
 Bi .add t45 t46 fun t52 =>
 Ca PP Fn.r31_word #[t13] w47 fun t53 w54 =>
 (Ld t14 w54 fun t55 =>
 t55 = t15) ∧
 (Ld t16 w54 fun t56 =>
 t56 = t17) ∧
 (Ld t18 w54 fun t57 =>
 t57 = t19) ∧
 Bi .add t52 t53 fun t58 =>
 Ca PP Fn.r31_word #[t15] w54 fun t59 w60 =>
 (Ld t16 w60 fun t61 =>
 t61 = t17) ∧
 (Ld t18 w60 fun t62 =>
 t62 = t19) ∧
 Bi .add t58 t59 fun t63 =>
 Ca PP Fn.r31_word #[t17] w60 fun t64 w65 =>
 (Ld t18 w65 fun t66 =>
 t66 = t19) ∧
 Bi .add t63 t64 fun t67 =>
 Ca PP Fn.r31_word #[t19] w65 fun t68 w69 =>
 Bi .add t67 t68 fun t70 =>
 LnS t70 fun t71 =>
 Ca PP Fn.r31_number #[t71, (.int .i64 2)] w69 fun t72 w73 =>
 Bi .add t72 t70 fun t74 =>
 R t74 w73
def S.r31_dir.an : Ann := (.seq .leaf (.seq (.draw [[],[0],[0,1],[],[3],[0,1,2,3,4],[0,1,2,3,4,5],[],[7],[0,1,2,3,4,5,7,8],[0,1,2,3,4,5,6,7,8,9],[],[11],[0,1,2,3,4,5,7,8,9,11,12],[0,1,2,3,4,5,6,7,8,9,10,11,12,13],[],[15],[0,1,2,3,4,5,7,8,9,11,12,13,15,16],[0,1,2,3,4,5,6,7,8,9,10,11,12,13,14,15,16,17],[],[19],[0,1,2,3,4,5,7,8,9,11,12,13,15,16,17,19,20],[0,1,2,3,4,5,6,7,8,9,10,11,12,13,14,15,16,17,18,19,20,21],[],[23],[0,1,2,3,4,5,7,8,9,11,12,13,15,16,17,19,20,21,23,24],[0,1,2,3,4,5,6,7,8,9,10,11,12,13,14,15,16,17,18,19,20,21,22,23,24,25],[],[27],[0,1,2,3,4,5,7,8,9,11,12,13,15,16,17,19,20,21,23,24,25,27,28],[0,1,2,3,4,5,6,7,8,9,10,11,12,13,14,15,16,17,18,19,20,21,22,23,24,25,26,27,28,29],[0,1,2,3,4,5,6,7,8,9,10,11,12,13,14,15,16,17,18,19,20,21,22,23,24,25,26,27,28,29,30]] (.calm 0 (.calm 1 (.calm 3 (.calm 4 (.calm 7 (.calm 8 (.calm 11 (.calm 12 (.calm 15 (.calm 16 (.calm 19 (.calm 20 (.calm 23 (.calm 24 (.calm 27 (.calm 28 (.eff1 2 [4,8,12,16,20,24,28] (.eff1 5 [8,12,16,20,24,28] (.calm 6 (.eff1 9 [12,16,20,24,28] (.calm 10 (.eff1 13 [16,20,24,28] (.calm 14 (.eff1 17 [20,24,28] (.calm 18 (.eff1 21 [24,28] (.calm 22 (.eff1 25 [28] (.calm 26 (.eff1 29 [] (.calm 30 (.calm 31 .done))))))))))))))))))))))))))))))))) (.seq .leaf .leaf)))
theorem S.r31_dir.eq (a0 : Value) (w : World) (R : Value → World → Prop) : S.r31_dir a0 w R = fnC PP 40 (Tryd.f70.body.getD .skip) S.r31_dir.an [.tmp 2] [a0] w R := by kernel_rfl
theorem S.r31_dir.calls {a0 : Value} {w : World} {R : Value → World → Prop} (h : S.r31_dir a0 w R) : Ca PP Fn.r31_dir #[a0] w R :=
  fnC_calls mixed (f := Fn.r31_dir) (an := S.r31_dir.an) Tryd.func70 rfl (by show _ ≤ _; exact Nat.le_of_ble_eq_true rfl) (S.r31_dir.eq a0 w R ▸ h)
/-- acheron/acheronref31.shaped -/
def S.r31_shaped (a0 a1 : Value) (w : World) (R : Value → World → Prop) : Prop :=
 Al Ty.api_Msg (a0 : Value).cells w fun t1 w2 =>
 ∀ J3 : List Value → World → Prop, (∀ t6, ∀ w5 : World, (∀ u4 : Env,
 Cnd t6 (
 R (.bool false) w5) (
 ∀ J7 : List Value → World → Prop, (∀ t10, ∀ w9 : World, (∀ u8 : Env,
 Cnd t10 (
 R (.bool false) w9) (
 ∀ J11 : List Value → World → Prop, (∀ t14, ∀ w13 : World, (∀ u12 : Env,
 Cnd t14 (
 R (.bool false) w13) (
 ∀ J15 : List Value → World → Prop, (∀ t18, ∀ w17 : World, (∀ u16 : Env,
 Cnd t18 (
 R (.bool false) w17) (
 ∀ J19 : List Value → World → Prop, (∀ t22, ∀ w21 : World, (∀ u20 : Env,
 R t22 w21) → J19 [t22] w21) →
 Ca PP Fn.r31_has #[a1, (.int .u8 68)] w17 fun t23 w24 =>
 Gd t23 false (fun k25 => Fa 15 t1 fun t28 =>
 k25 t28 w24) w24 fun t26 w27 =>
 Gd t23 false (fun k29 => Ld t26 w27 fun t32 =>
 k29 t32 w27) w27 fun t30 w31 =>
 Gd t23 false (fun k33 => Bi .eql t30 (.string ⟨#[]⟩) fun t36 =>
 k33 t36 w31) w31 fun t34 w35 =>
 Pk t23 (.bool true) t34 fun t37 =>
 Gd t37 true (fun k38 => k38 a1 w35) w35 fun t39 w40 =>
 Gd t37 true (fun k41 => Ca PP Fn.r31_has #[t39, (.int .u8 105)] w40 fun t44 w45 =>
 k41 t44 w45) w40 fun t42 w43 =>
 Gd t37 true (fun k46 => k46 t42 w43) w43 fun t47 w48 =>
 Gd t47 false (fun k49 => Fa 16 t1 fun t52 =>
 k49 t52 w48) w48 fun t50 w51 =>
 Gd t47 false (fun k53 => LdA PP 10 t50 w51 fun t56 =>
 k53 t56 w51) w51 fun t54 w55 =>
 Gd t47 false (fun k57 => Bd #[.int .i64 0, .int .i64 0, .int .i64 0, .int .i64 0, .int .i64 0, .int .i64 0, .string ⟨#[]⟩, .string ⟨#[]⟩, .string ⟨#[]⟩, .string ⟨#[]⟩] [(0, 3), (3, 1), (4, 1), (5, 1), (6, 1), (7, 1), (8, 1), (9, 1)] [] fun t60 =>
 k57 t60 w55) w55 fun t58 w59 =>
 Gd t47 false (fun k61 => Rd PP (eqS .eql Ty.api_Dir (.tmp 166) (.tmp 167) t54 t58) w59 fun t64 =>
 k61 t64 w59) w59 fun t62 w63 =>
 Gd t37 true (fun k65 => Pk t47 (.bool true) t62 fun t68 =>
 k65 t68 w63) w63 fun t66 w67 =>
 Pk t37 t66 (.bool false) fun t69 =>
 J19 [t69] w67)) → J15 [t18] w17) →
 Ca PP Fn.r31_has #[a1, (.int .u8 118)] w13 fun t70 w71 =>
 Un .not t70 fun t72 =>
 Gd t72 true (fun k73 => Fa 9 t1 fun t76 =>
 k73 t76 w71) w71 fun t74 w75 =>
 Gd t72 true (fun k77 => Ld t74 w75 fun t80 =>
 k77 t80 w75) w75 fun t78 w79 =>
 Gd t72 true (fun k81 => Bi .neq t78 (.string ⟨#[]⟩) fun t84 =>
 k81 t84 w79) w79 fun t82 w83 =>
 Pk t72 t82 (.bool false) fun t85 =>
 Gd t85 false (fun k86 => k86 a1 w83) w83 fun t87 w88 =>
 Gd t85 false (fun k89 => Ca PP Fn.r31_has #[t87, (.int .u8 117)] w88 fun t92 w93 =>
 k89 t92 w93) w88 fun t90 w91 =>
 Gd t85 false (fun k94 => Un .not t90 fun t97 =>
 k94 t97 w91) w91 fun t95 w96 =>
 Gd t85 false (fun k98 => k98 t95 w96) w96 fun t99 w100 =>
 Gd t99 true (fun k101 => Fa 10 t1 fun t104 =>
 k101 t104 w100) w100 fun t102 w103 =>
 Gd t99 true (fun k105 => Ld t102 w103 fun t108 =>
 k105 t108 w103) w103 fun t106 w107 =>
 Gd t99 true (fun k109 => Bi .neq t106 (.string ⟨#[]⟩) fun t112 =>
 k109 t112 w107) w107 fun t110 w111 =>
 Gd t85 false (fun k113 => Pk t99 t110 (.bool false) fun t116 =>
 k113 t116 w111) w111 fun t114 w115 =>
 Pk t85 (.bool true) t114 fun t117 =>
 Gd t117 false (fun k118 => k118 a1 w115) w115 fun t119 w120 =>
 Gd t117 false (fun k121 => Ca PP Fn.r31_has #[t119, (.int .u8 116)] w120 fun t124 w125 =>
 k121 t124 w125) w120 fun t122 w123 =>
 Gd t117 false (fun k126 => Un .not t122 fun t129 =>
 k126 t129 w123) w123 fun t127 w128 =>
 Gd t117 false (fun k130 => k130 t127 w128) w128 fun t131 w132 =>
 Gd t131 true (fun k133 => Fa 11 t1 fun t136 =>
 k133 t136 w132) w132 fun t134 w135 =>
 Gd t131 true (fun k137 => Ld t134 w135 fun t140 =>
 k137 t140 w135) w135 fun t138 w139 =>
 Gd t131 true (fun k141 => Bi .neq t138 (.string ⟨#[]⟩) fun t144 =>
 k141 t144 w139) w139 fun t142 w143 =>
 Gd t117 false (fun k145 => Pk t131 t142 (.bool false) fun t148 =>
 k145 t148 w143) w143 fun t146 w147 =>
 Pk t117 (.bool true) t146 fun t149 =>
 Gd t149 false (fun k150 => k150 a1 w147) w147 fun t151 w152 =>
 Gd t149 false (fun k153 => Ca PP Fn.r31_has #[t151, (.int .u8 78)] w152 fun t156 w157 =>
 k153 t156 w157) w152 fun t154 w155 =>
 Gd t149 false (fun k158 => Un .not t154 fun t161 =>
 k158 t161 w155) w155 fun t159 w160 =>
 Gd t149 false (fun k162 => k162 t159 w160) w160 fun t163 w164 =>
 Gd t163 true (fun k165 => Fa 12 t1 fun t168 =>
 k165 t168 w164) w164 fun t166 w167 =>
 Gd t163 true (fun k169 => Ld t166 w167 fun t172 =>
 k169 t172 w167) w167 fun t170 w171 =>
 Gd t163 true (fun k173 => Bi .neq t170 (.string ⟨#[]⟩) fun t176 =>
 k173 t176 w171) w171 fun t174 w175 =>
 Gd t149 false (fun k177 => Pk t163 t174 (.bool false) fun t180 =>
 k177 t180 w175) w175 fun t178 w179 =>
 Pk t149 (.bool true) t178 fun t181 =>
 J15 [t181] w179)) → J11 [t14] w13) →
 Ca PP Fn.r31_has #[a1, (.int .u8 79)] w9 fun t182 w183 =>
 Un .not t182 fun t184 =>
 Gd t184 true (fun k185 => Fa 6 t1 fun t188 =>
 k185 t188 w183) w183 fun t186 w187 =>
 Gd t184 true (fun k189 => Ld t186 w187 fun t192 =>
 k189 t192 w187) w187 fun t190 w191 =>
 Gd t184 true (fun k193 => Bi .neq t190 (.int .i64 0) fun t196 =>
 k193 t196 w191) w191 fun t194 w195 =>
 Pk t184 t194 (.bool false) fun t197 =>
 Gd t197 false (fun k198 => k198 a1 w195) w195 fun t199 w200 =>
 Gd t197 false (fun k201 => Ca PP Fn.r31_has #[t199, (.int .u8 109)] w200 fun t204 w205 =>
 k201 t204 w205) w200 fun t202 w203 =>
 Gd t197 false (fun k206 => Un .not t202 fun t209 =>
 k206 t209 w203) w203 fun t207 w208 =>
 Gd t197 false (fun k210 => k210 t207 w208) w208 fun t211 w212 =>
 Gd t211 true (fun k213 => Fa 7 t1 fun t216 =>
 k213 t216 w212) w212 fun t214 w215 =>
 Gd t211 true (fun k217 => Ld t214 w215 fun t220 =>
 k217 t220 w215) w215 fun t218 w219 =>
 Gd t211 true (fun k221 => Bi .neq t218 (.int .i64 0) fun t224 =>
 k221 t224 w219) w219 fun t222 w223 =>
 Gd t197 false (fun k225 => Pk t211 t222 (.bool false) fun t228 =>
 k225 t228 w223) w223 fun t226 w227 =>
 Pk t197 (.bool true) t226 fun t229 =>
 Gd t229 false (fun k230 => k230 a1 w227) w227 fun t231 w232 =>
 Gd t229 false (fun k233 => Ca PP Fn.r31_has #[t231, (.int .u8 112)] w232 fun t236 w237 =>
 k233 t236 w237) w232 fun t234 w235 =>
 Gd t229 false (fun k238 => Un .not t234 fun t241 =>
 k238 t241 w235) w235 fun t239 w240 =>
 Gd t229 false (fun k242 => k242 t239 w240) w240 fun t243 w244 =>
 Gd t243 true (fun k245 => Fa 8 t1 fun t248 =>
 k245 t248 w244) w244 fun t246 w247 =>
 Gd t243 true (fun k249 => Ld t246 w247 fun t252 =>
 k249 t252 w247) w247 fun t250 w251 =>
 Gd t243 true (fun k253 => Bi .neq t250 (.int .i64 0) fun t256 =>
 k253 t256 w251) w251 fun t254 w255 =>
 Gd t229 false (fun k257 => Pk t243 t254 (.bool false) fun t260 =>
 k257 t260 w255) w255 fun t258 w259 =>
 Pk t229 (.bool true) t258 fun t261 =>
 Gd t261 false (fun k262 => k262 a1 w259) w259 fun t263 w264 =>
 Gd t261 false (fun k265 => Ca PP Fn.r31_has #[t263, (.int .u8 99)] w264 fun t268 w269 =>
 k265 t268 w269) w264 fun t266 w267 =>
 Gd t261 false (fun k270 => Un .not t266 fun t273 =>
 k270 t273 w267) w267 fun t271 w272 =>
 Gd t261 false (fun k274 => k274 t271 w272) w272 fun t275 w276 =>
 Gd t275 true (fun k277 => Fa 26 t1 fun t280 =>
 k277 t280 w276) w276 fun t278 w279 =>
 Gd t275 true (fun k281 => Ld t278 w279 fun t284 =>
 k281 t284 w279) w279 fun t282 w283 =>
 Gd t275 true (fun k285 => Bi .neq t282 (.int .i64 0) fun t288 =>
 k285 t288 w283) w283 fun t286 w287 =>
 Gd t261 false (fun k289 => Pk t275 t286 (.bool false) fun t292 =>
 k289 t292 w287) w287 fun t290 w291 =>
 Pk t261 (.bool true) t290 fun t293 =>
 J11 [t293] w291)) → J7 [t10] w9) →
 Ca PP Fn.r31_has #[a1, (.int .u8 102)] w5 fun t294 w295 =>
 Un .not t294 fun t296 =>
 Gd t296 true (fun k297 => Fa 2 t1 fun t300 =>
 k297 t300 w295) w295 fun t298 w299 =>
 Gd t296 true (fun k301 => Ld t298 w299 fun t304 =>
 k301 t304 w299) w299 fun t302 w303 =>
 Gd t296 true (fun k305 => Bi .neq t302 (.int .i64 0) fun t308 =>
 k305 t308 w303) w303 fun t306 w307 =>
 Pk t296 t306 (.bool false) fun t309 =>
 Gd t309 false (fun k310 => k310 a1 w307) w307 fun t311 w312 =>
 Gd t309 false (fun k313 => Ca PP Fn.r31_has #[t311, (.int .u8 111)] w312 fun t316 w317 =>
 k313 t316 w317) w312 fun t314 w315 =>
 Gd t309 false (fun k318 => Un .not t314 fun t321 =>
 k318 t321 w315) w315 fun t319 w320 =>
 Gd t309 false (fun k322 => k322 t319 w320) w320 fun t323 w324 =>
 Gd t323 true (fun k325 => Fa 3 t1 fun t328 =>
 k325 t328 w324) w324 fun t326 w327 =>
 Gd t323 true (fun k329 => Ld t326 w327 fun t332 =>
 k329 t332 w327) w327 fun t330 w331 =>
 Gd t323 true (fun k333 => Bi .neq t330 (.int .i64 0) fun t336 =>
 k333 t336 w331) w331 fun t334 w335 =>
 Gd t309 false (fun k337 => Pk t323 t334 (.bool false) fun t340 =>
 k337 t340 w335) w335 fun t338 w339 =>
 Pk t309 (.bool true) t338 fun t341 =>
 Gd t341 false (fun k342 => k342 a1 w339) w339 fun t343 w344 =>
 Gd t341 false (fun k345 => Ca PP Fn.r31_has #[t343, (.int .u8 100)] w344 fun t348 w349 =>
 k345 t348 w349) w344 fun t346 w347 =>
 Gd t341 false (fun k350 => Un .not t346 fun t353 =>
 k350 t353 w347) w347 fun t351 w352 =>
 Gd t341 false (fun k354 => k354 t351 w352) w352 fun t355 w356 =>
 Gd t355 true (fun k357 => Fa 4 t1 fun t360 =>
 k357 t360 w356) w356 fun t358 w359 =>
 Gd t355 true (fun k361 => Ld t358 w359 fun t364 =>
 k361 t364 w359) w359 fun t362 w363 =>
 Gd t355 true (fun k365 => Bi .neq t362 (.int .i64 0) fun t368 =>
 k365 t368 w363) w363 fun t366 w367 =>
 Gd t341 false (fun k369 => Pk t355 t366 (.bool false) fun t372 =>
 k369 t372 w367) w367 fun t370 w371 =>
 Pk t341 (.bool true) t370 fun t373 =>
 Gd t373 false (fun k374 => k374 a1 w371) w371 fun t375 w376 =>
 Gd t373 false (fun k377 => Ca PP Fn.r31_has #[t375, (.int .u8 83)] w376 fun t380 w381 =>
 k377 t380 w381) w376 fun t378 w379 =>
 Gd t373 false (fun k382 => Un .not t378 fun t385 =>
 k382 t385 w379) w379 fun t383 w384 =>
 Gd t373 false (fun k386 => k386 t383 w384) w384 fun t387 w388 =>
 Gd t387 true (fun k389 => Fa 5 t1 fun t392 =>
 k389 t392 w388) w388 fun t390 w391 =>
 Gd t387 true (fun k393 => Ld t390 w391 fun t396 =>
 k393 t396 w391) w391 fun t394 w395 =>
 Gd t387 true (fun k397 => Bi .neq t394 (.int .i64 0) fun t400 =>
 k397 t400 w395) w395 fun t398 w399 =>
 Gd t373 false (fun k401 => Pk t387 t398 (.bool false) fun t404 =>
 k401 t404 w399) w399 fun t402 w403 =>
 Pk t373 (.bool true) t402 fun t405 =>
 J7 [t405] w403)) → J3 [t6] w5) →
 Ca PP Fn.r31_has #[a1, (.int .u8 113)] w2 fun t406 w407 =>
 Gd t406 true (fun k408 => Fa 14 t1 fun t411 =>
 k408 t411 w407) w407 fun t409 w410 =>
 Gd t406 true (fun k412 => Ld t409 w410 fun t415 =>
 k412 t415 w410) w410 fun t413 w414 =>
 Gd t406 true (fun k416 => LnL t413 fun t419 =>
 k416 t419 w414) w414 fun t417 w418 =>
 Gd t406 true (fun k420 => Bi .neq t417 (.int .i64 1) fun t423 =>
 k420 t423 w418) w418 fun t421 w422 =>
 Pk t406 t421 (.bool false) fun t424 =>
 Gd t424 false (fun k425 => k425 a1 w422) w422 fun t426 w427 =>
 Gd t424 false (fun k428 => Ca PP Fn.r31_has #[t426, (.int .u8 113)] w427 fun t431 w432 =>
 k428 t431 w432) w427 fun t429 w430 =>
 Gd t424 false (fun k433 => Un .not t429 fun t436 =>
 k433 t436 w430) w430 fun t434 w435 =>
 Gd t424 false (fun k437 => k437 t434 w435) w435 fun t438 w439 =>
 Gd t438 true (fun k440 => k440 a1 w439) w439 fun t441 w442 =>
 Gd t438 true (fun k443 => Ca PP Fn.r31_has #[t441, (.int .u8 81)] w442 fun t446 w447 =>
 k443 t446 w447) w442 fun t444 w445 =>
 Gd t438 true (fun k448 => Un .not t444 fun t451 =>
 k448 t451 w445) w445 fun t449 w450 =>
 Gd t424 false (fun k452 => Pk t438 t449 (.bool false) fun t455 =>
 k452 t455 w450) w450 fun t453 w454 =>
 Gd t424 false (fun k456 => k456 t453 w454) w454 fun t457 w458 =>
 Gd t457 true (fun k459 => Fa 14 t1 fun t462 =>
 k459 t462 w458) w458 fun t460 w461 =>
 Gd t457 true (fun k463 => Ld t460 w461 fun t466 =>
 k463 t466 w461) w461 fun t464 w465 =>
 Gd t457 true (fun k467 => LnL t464 fun t470 =>
 k467 t470 w465) w465 fun t468 w469 =>
 Gd t457 true (fun k471 => Bi .gtr t468 (.int .i64 0) fun t474 =>
 k471 t474 w469) w469 fun t472 w473 =>
 Gd t424 false (fun k475 => Pk t457 t472 (.bool false) fun t478 =>
 k475 t478 w473) w473 fun t476 w477 =>
 Pk t424 (.bool true) t476 fun t479 =>
 Gd t479 false (fun k480 => k480 a1 w477) w477 fun t481 w482 =>
 Gd t479 false (fun k483 => Ca PP Fn.r31_has #[t481, (.int .u8 110)] w482 fun t486 w487 =>
 k483 t486 w487) w482 fun t484 w485 =>
 Gd t479 false (fun k488 => Un .not t484 fun t491 =>
 k488 t491 w485) w485 fun t489 w490 =>
 Gd t479 false (fun k492 => k492 t489 w490) w490 fun t493 w494 =>
 Gd t493 true (fun k495 => Fa 13 t1 fun t498 =>
 k495 t498 w494) w494 fun t496 w497 =>
 Gd t493 true (fun k499 => Ld t496 w497 fun t502 =>
 k499 t502 w497) w497 fun t500 w501 =>
 Gd t493 true (fun k503 => LnL t500 fun t506 =>
 k503 t506 w501) w501 fun t504 w505 =>
 Gd t493 true (fun k507 => Bi .gtr t504 (.int .i64 0) fun t510 =>
 k507 t510 w505) w505 fun t508 w509 =>
 Gd t479 false (fun k511 => Pk t493 t508 (.bool false) fun t514 =>
 k511 t514 w509) w509 fun t512 w513 =>
 Pk t479 (.bool true) t512 fun t515 =>
 J3 [t515] w513
def S.r31_shaped.an : Ann := (.seq .leaf (.seq (.join .leaf [39] [5,6,7,8,9,10,11,12,13,14,15,16,17,18,19,20,21,22,23,24,25,26,27,28,29,30,31,32,33,34,35,36,37,38] (.cond (.seq .leaf .leaf) .leaf)) (.seq (.join .leaf [77] [40,41,42,43,44,45,46,47,48,49,50,51,52,53,54,55,56,57,58,59,60,61,62,63,64,65,66,67,68,69,70,71,72,73,74,75,76] (.cond (.seq .leaf .leaf) .leaf)) (.seq (.join .leaf [115] [78,79,80,81,82,83,84,85,86,87,88,89,90,91,92,93,94,95,96,97,98,99,100,101,102,103,104,105,106,107,108,109,110,111,112,113,114] (.cond (.seq .leaf .leaf) .leaf)) (.seq (.join .leaf [153] [116,117,118,119,120,121,122,123,124,125,126,127,128,129,130,131,132,133,134,135,136,137,138,139,140,141,142,143,144,145,146,147,148,149,150,151,152] (.cond (.seq .leaf .leaf) .leaf)) (.join .leaf [4] [154,155,156,157,158,159,160,161,162,163,164,165,166,167,168,169,170] .leaf))))))
theorem S.r31_shaped.eq (a0 a1 : Value) (w : World) (R : Value → World → Prop) : S.r31_shaped a0 a1 w R = fnC PP 171 (Tryd.f71.body.getD .skip) S.r31_shaped.an [.tmp 4] [a0, a1] w R := by kernel_rfl
theorem S.r31_shaped.calls {a0 a1 : Value} {w : World} {R : Value → World → Prop} (h : S.r31_shaped a0 a1 w R) : Ca PP Fn.r31_shaped #[a0, a1] w R :=
  fnC_calls mixed (f := Fn.r31_shaped) (an := S.r31_shaped.an) Tryd.func71 rfl (by show _ ≤ _; exact Nat.le_of_ble_eq_true rfl) (S.r31_shaped.eq a0 a1 w R ▸ h)
/-- acheron/acheronref31.ranged -/
def S.r31_ranged (a0 : Value) (w : World) (R : Value → World → Prop) : Prop :=
 Al Ty.api_Msg (a0 : Value).cells w fun t1 w2 =>
 ∀ J3 : List Value → World → Prop, (∀ t6, ∀ w5 : World, (∀ u4 : Env,
 ∃ (I7 : List Value → World → Prop) (m8 : List Value → World → Nat), I7 [t6, (.int .i64 0)] w5 ∧ ∀ t11 t12, ∀ (u9 : Env) (w10 : World), I7 [t11, t12] w10 →
 Fa 14 t1 fun t13 =>
 Ld t13 w10 fun t14 =>
 LnL t14 fun t15 =>
 Bi .lss t12 t15 fun t16 =>
 Cnd t16 (
 ∀ J17 : List Value → World → Prop, (∀ t20, ∀ w19 : World, (∀ u18 : Env,
 Bi .add t12 (.int .i64 1) fun t21 =>
 I7 [t20, t21] w19 ∧ m8 [t20, t21] w19 < m8 [t11, t12] w10) → J17 [t20] w19) →
 Gd t11 true (fun k22 => Fa 14 t1 fun t25 =>
 k22 t25 w10) w10 fun t23 w24 =>
 Gd t11 true (fun k26 => Ld t23 w24 fun t29 =>
 k26 t29 w24) w24 fun t27 w28 =>
 Gd t11 true (fun k30 => k30 t12 w28) w28 fun t31 w32 =>
 Gd t11 true (fun k33 => IxA 3 t27 t31 fun t36 =>
 k33 t36 w32) w32 fun t34 w35 =>
 Gd t11 true (fun k37 => LdA PP 3 t34 w35 fun t40 =>
 k37 t40 w35) w35 fun t38 w39 =>
 Gd t11 true (fun k41 => Ca PP Fn.r31_rightQid #[t38] w39 fun t44 w45 =>
 k41 t44 w45) w39 fun t42 w43 =>
 Pk t11 t42 (.bool false) fun t46 =>
 J17 [t46] w43) (
 R t11 w10)) → J3 [t6] w5) →
 Fa 1 t1 fun t47 =>
 Ld t47 w2 fun t48 =>
 Ca PP Fn.r31_in #[t48, (.int .i64 2)] w2 fun t49 w50 =>
 Gd t49 true (fun k51 => Fa 2 t1 fun t54 =>
 k51 t54 w50) w50 fun t52 w53 =>
 Gd t49 true (fun k55 => Ld t52 w53 fun t58 =>
 k55 t58 w53) w53 fun t56 w57 =>
 Gd t49 true (fun k59 => Ca PP Fn.r31_in #[t56, (.int .i64 4)] w57 fun t62 w63 =>
 k59 t62 w63) w57 fun t60 w61 =>
 Pk t49 t60 (.bool false) fun t64 =>
 Gd t64 true (fun k65 => Fa 3 t1 fun t68 =>
 k65 t68 w61) w61 fun t66 w67 =>
 Gd t64 true (fun k69 => Ld t66 w67 fun t72 =>
 k69 t72 w67) w67 fun t70 w71 =>
 Gd t64 true (fun k73 => Ca PP Fn.r31_in #[t70, (.int .i64 4)] w71 fun t76 w77 =>
 k73 t76 w77) w71 fun t74 w75 =>
 Pk t64 t74 (.bool false) fun t78 =>
 Gd t78 true (fun k79 => Fa 4 t1 fun t82 =>
 k79 t82 w75) w75 fun t80 w81 =>
 Gd t78 true (fun k83 => Ld t80 w81 fun t86 =>
 k83 t86 w81) w81 fun t84 w85 =>
 Gd t78 true (fun k87 => Ca PP Fn.r31_in #[t84, (.int .i64 2)] w85 fun t90 w91 =>
 k87 t90 w91) w85 fun t88 w89 =>
 Pk t78 t88 (.bool false) fun t92 =>
 Gd t92 true (fun k93 => Fa 5 t1 fun t96 =>
 k93 t96 w89) w89 fun t94 w95 =>
 Gd t92 true (fun k97 => Ld t94 w95 fun t100 =>
 k97 t100 w95) w95 fun t98 w99 =>
 Gd t92 true (fun k101 => Ca PP Fn.r31_in #[t98, (.int .i64 4)] w99 fun t104 w105 =>
 k101 t104 w105) w99 fun t102 w103 =>
 Pk t92 t102 (.bool false) fun t106 =>
 Gd t106 true (fun k107 => Fa 6 t1 fun t110 =>
 k107 t110 w103) w103 fun t108 w109 =>
 Gd t106 true (fun k111 => Ld t108 w109 fun t114 =>
 k111 t114 w109) w109 fun t112 w113 =>
 Gd t106 true (fun k115 => Bi .geq t112 (.int .i64 0) fun t118 =>
 k115 t118 w113) w113 fun t116 w117 =>
 Pk t106 t116 (.bool false) fun t119 =>
 Gd t119 true (fun k120 => Fa 7 t1 fun t123 =>
 k120 t123 w117) w117 fun t121 w122 =>
 Gd t119 true (fun k124 => Ld t121 w122 fun t127 =>
 k124 t127 w122) w122 fun t125 w126 =>
 Gd t119 true (fun k128 => Ca PP Fn.r31_in #[t125, (.int .i64 1)] w126 fun t131 w132 =>
 k128 t131 w132) w126 fun t129 w130 =>
 Pk t119 t129 (.bool false) fun t133 =>
 Gd t133 true (fun k134 => Fa 8 t1 fun t137 =>
 k134 t137 w130) w130 fun t135 w136 =>
 Gd t133 true (fun k138 => Ld t135 w136 fun t141 =>
 k138 t141 w136) w136 fun t139 w140 =>
 Gd t133 true (fun k142 => Ca PP Fn.r31_in #[t139, (.int .i64 4)] w140 fun t145 w146 =>
 k142 t145 w146) w140 fun t143 w144 =>
 Pk t133 t143 (.bool false) fun t147 =>
 Gd t147 true (fun k148 => Fa 26 t1 fun t151 =>
 k148 t151 w144) w144 fun t149 w150 =>
 Gd t147 true (fun k152 => Ld t149 w150 fun t155 =>
 k152 t155 w150) w150 fun t153 w154 =>
 Gd t147 true (fun k156 => Ca PP Fn.r31_in #[t153, (.int .i64 2)] w154 fun t159 w160 =>
 k156 t159 w160) w154 fun t157 w158 =>
 Pk t147 t157 (.bool false) fun t161 =>
 Gd t161 true (fun k162 => Fa 16 t1 fun t165 =>
 k162 t165 w158) w158 fun t163 w164 =>
 Gd t161 true (fun k166 => LdA PP 10 t163 w164 fun t169 =>
 k166 t169 w164) w164 fun t167 w168 =>
 Gd t161 true (fun k170 => Ca PP Fn.r31_rightDir #[t167] w168 fun t173 w174 =>
 k170 t173 w174) w168 fun t171 w172 =>
 Pk t161 t171 (.bool false) fun t175 =>
 J3 [t175] w172
def S.r31_ranged.an : Ann := (.seq .leaf (.join .leaf [3] [5,6,7,8,9,10,11,12,13,14,15,16,17,18,19,20,21,22,23,24,25,26,27,28,29,30,31,32,33,34,35,36,37,38,39,40,41,42,43,44,45,46,47,48,49,50,51,52] (.seq (.seq .leaf (.block (.loop (.seq (.seq .leaf (.cond .leaf .leaf)) (.join (.block .leaf) [3] [60,61,62,63,64,65,66,67,68] .leaf)) [3,4] [53,54,55,56,57,58,59,60,61,62,63,64,65,66,67,68]))) (.seq .leaf .leaf))))
theorem S.r31_ranged.eq (a0 : Value) (w : World) (R : Value → World → Prop) : S.r31_ranged a0 w R = fnC PP 70 (Tryd.f72.body.getD .skip) S.r31_ranged.an [.tmp 2] [a0] w R := by kernel_rfl
theorem S.r31_ranged.calls {a0 : Value} {w : World} {R : Value → World → Prop} (h : S.r31_ranged a0 w R) : Ca PP Fn.r31_ranged #[a0] w R :=
  fnC_calls mixed (f := Fn.r31_ranged) (an := S.r31_ranged.an) Tryd.func72 rfl (by show _ ≤ _; exact Nat.le_of_ble_eq_true rfl) (S.r31_ranged.eq a0 w R ▸ h)
end Go.Proofs.YtmlccboapkkcfaaDoor
