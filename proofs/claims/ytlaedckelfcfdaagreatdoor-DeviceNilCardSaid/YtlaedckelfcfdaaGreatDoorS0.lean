/- Own text. -/
import Derived.Test.YtlaedckelfcfdaaGreatDoorSc
namespace Go.Proofs.YtlaedckelfcfdaaGreatDoor
open Go Go.Sh
set_option linter.unusedVariables false
set_option maxRecDepth 100000
/-- acheron/acheronlaw30.DeviceNil -/
def S.law30_DeviceNil (a0 : Value) (w : World) (R : Value → World → Prop) : Prop :=
 Al Ty.law30_Act (a0 : Value).cells w fun t1 w2 =>
 Ca PP Fn.law30_awake #[] w2 fun t3 w4 =>
 Un .not t3 fun t5 =>
 Cnd t5 (
 R (.bool false) w4) (
 LdA PP 24 t1 w4 fun t6 =>
 Ef PP (Instr.buildSlice Ty.sl_law30_Act 1 #[(0, t6)]) w4 fun t7 w8 =>
 Ca PP Fn.law30_Few #[t7] w8 fun t9 w10 =>
 Un .not t9 fun t11 =>
 Cnd t11 (
 R (.bool true) w10) (
 Fa 21 t1 fun t12 =>
 Ld t12 w10 fun t13 =>
 Ca PP Fn.device_Console_Type #[(.pointer none), t13] w10 fun t14 w15 =>
 Fa 22 t1 fun t16 =>
 Ld t16 w15 fun t17 =>
 Ca PP Fn.device_Console_SetTime #[(.pointer none), t17] w15 fun t18 w19 =>
 ∀ J20 : List Value → World → Prop, (∀ t23, ∀ w22 : World, (∀ u21 : Env,
 Cnd t23 (
 R (.bool false) w22) (
 Fa 1 t1 fun t24 =>
 Fa 4 t24 fun t25 =>
 Ld t25 w22 fun t26 =>
 Ca PP Fn.device_Environment_Get #[(.pointer none), t26] w22 fun t27 w28 =>
 Ex t27 0 fun t29 =>
 Ex t27 1 fun t30 =>
 Bi .neq t30 (.int .i64 6) fun t31 =>
 Cnd t31 (
 R (.bool false) w28) (
 ∀ J32 : List Value → World → Prop, (∀ t35, ∀ w34 : World, (∀ u33 : Env,
 Cnd t35 (
 R (.bool true) w34) (
 Fa 1 t1 fun t36 =>
 LdA PP 20 t36 w34 fun t37 =>
 Ca PP Fn.law33_Do #[(.iface Ty.p_device_Device (.pointer none)), t37] w34 fun t38 w39 =>
 Bd #[.int .i64 0, .int .i64 0, .int .i64 0, .int .i64 0, .int .i64 0, .int .i64 0, .int .i64 0, .int .i64 0, .int .i64 0, .string ⟨#[]⟩, .string ⟨#[]⟩, .string ⟨#[]⟩, .string ⟨#[]⟩, .int .i64 0, .string ⟨#[]⟩, .slice none 0 0, .int .i64 0] [(0, 3), (3, 10), (13, 1), (14, 1), (15, 1), (16, 1)] [(5, (.int .i64 6))] fun t40 =>
 Ca PP Fn.law28_Same #[t38, t40] w39 fun t41 w42 =>
 R t41 w42)) → J32 [t35] w34) →
 Fa 1 t1 fun t43 =>
 Fa 0 t43 fun t44 =>
 Ld t44 w28 fun t45 =>
 Bi .lss t45 (.int .i64 0) fun t46 =>
 Gd t46 false (fun k47 => Fa 1 t1 fun t50 =>
 k47 t50 w28) w28 fun t48 w49 =>
 Gd t46 false (fun k51 => Fa 0 t48 fun t54 =>
 k51 t54 w49) w49 fun t52 w53 =>
 Gd t46 false (fun k55 => Ld t52 w53 fun t58 =>
 k55 t58 w53) w53 fun t56 w57 =>
 Gd t46 false (fun k59 => Bi .geq t56 (.int .i64 12) fun t62 =>
 k59 t62 w57) w57 fun t60 w61 =>
 Pk t46 (.bool true) t60 fun t63 =>
 Gd t63 false (fun k64 => Fa 1 t1 fun t67 =>
 k64 t67 w61) w61 fun t65 w66 =>
 Gd t63 false (fun k68 => Fa 0 t65 fun t71 =>
 k68 t71 w66) w66 fun t69 w70 =>
 Gd t63 false (fun k72 => Ld t69 w70 fun t75 =>
 k72 t75 w70) w70 fun t73 w74 =>
 Gd t63 false (fun k76 => Bi .eql t73 (.int .i64 10) fun t79 =>
 k76 t79 w74) w74 fun t77 w78 =>
 Pk t63 (.bool true) t77 fun t80 =>
 Gd t80 false (fun k81 => Fa 1 t1 fun t84 =>
 k81 t84 w78) w78 fun t82 w83 =>
 Gd t80 false (fun k85 => Fa 0 t82 fun t88 =>
 k85 t88 w83) w83 fun t86 w87 =>
 Gd t80 false (fun k89 => Ld t86 w87 fun t92 =>
 k89 t92 w87) w87 fun t90 w91 =>
 Gd t80 false (fun k93 => Bi .eql t90 (.int .i64 11) fun t96 =>
 k93 t96 w91) w91 fun t94 w95 =>
 Pk t80 (.bool true) t94 fun t97 =>
 J32 [t97] w95))) → J20 [t23] w22) →
 Ca PP Fn.device_Console_Output #[(.pointer none)] w19 fun t98 w99 =>
 Bi .neq t98 (.string ⟨#[]⟩) fun t100 =>
 Gd t100 false (fun k101 => k101 (.pointer none) w99) w99 fun t102 w103 =>
 Gd t100 false (fun k104 => Fa 23 t1 fun t107 =>
 k104 t107 w103) w103 fun t105 w106 =>
 Gd t100 false (fun k108 => Ld t105 w106 fun t111 =>
 k108 t111 w106) w106 fun t109 w110 =>
 Gd t100 false (fun k112 => Ca PP Fn.device_Programs_Update #[t102, t109] w110 fun t115 w116 =>
 k112 t115 w116) w110 fun t113 w114 =>
 Gd t100 false (fun k117 => Bi .neq t113 (.int .i64 6) fun t120 =>
 k117 t120 w114) w114 fun t118 w119 =>
 Pk t100 (.bool true) t118 fun t121 =>
 Gd t121 false (fun k122 => k122 (.pointer none) w119) w119 fun t123 w124 =>
 Gd t121 false (fun k125 => Ca PP Fn.device_Programs_Commands #[t123] w124 fun t128 w129 =>
 k125 t128 w129) w124 fun t126 w127 =>
 Gd t121 false (fun k130 => LnL t126 fun t133 =>
 k130 t133 w127) w127 fun t131 w132 =>
 Gd t121 false (fun k134 => Bi .gtr t131 (.int .i64 0) fun t137 =>
 k134 t137 w132) w132 fun t135 w136 =>
 Pk t121 (.bool true) t135 fun t138 =>
 Gd t138 false (fun k139 => k139 (.pointer none) w136) w136 fun t140 w141 =>
 Gd t138 false (fun k142 => Ca PP Fn.device_Environment_Vars #[t140] w141 fun t145 w146 =>
 k142 t145 w146) w141 fun t143 w144 =>
 Gd t138 false (fun k147 => LnL t143 fun t150 =>
 k147 t150 w144) w144 fun t148 w149 =>
 Gd t138 false (fun k151 => Bi .gtr t148 (.int .i64 0) fun t154 =>
 k151 t154 w149) w149 fun t152 w153 =>
 Pk t138 (.bool true) t152 fun t155 =>
 Gd t155 false (fun k156 => k156 (.pointer none) w153) w153 fun t157 w158 =>
 Gd t155 false (fun k159 => Fa 1 t1 fun t162 =>
 k159 t162 w158) w158 fun t160 w161 =>
 Gd t155 false (fun k163 => Fa 4 t160 fun t166 =>
 k163 t166 w161) w161 fun t164 w165 =>
 Gd t155 false (fun k167 => Ld t164 w165 fun t170 =>
 k167 t170 w165) w165 fun t168 w169 =>
 Gd t155 false (fun k171 => Fa 21 t1 fun t174 =>
 k171 t174 w169) w169 fun t172 w173 =>
 Gd t155 false (fun k175 => Ld t172 w173 fun t178 =>
 k175 t178 w173) w173 fun t176 w177 =>
 Gd t155 false (fun k179 => Ca PP Fn.device_Environment_Set #[t157, t168, t176] w177 fun t182 w183 =>
 k179 t182 w183) w177 fun t180 w181 =>
 Gd t155 false (fun k184 => Bi .neq t180 (.int .i64 6) fun t187 =>
 k184 t187 w181) w181 fun t185 w186 =>
 Pk t155 (.bool true) t185 fun t188 =>
 Gd t188 false (fun k189 => k189 (.pointer none) w186) w186 fun t190 w191 =>
 Gd t188 false (fun k192 => Ca PP Fn.device_Device_Root #[t190] w191 fun t195 w196 =>
 k192 t195 w196) w191 fun t193 w194 =>
 Gd t188 false (fun k197 => Bd #[.int .i64 0, .int .i64 0, .int .i64 0] [(0, 1), (1, 1), (2, 1)] [] fun t200 =>
 k197 t200 w194) w194 fun t198 w199 =>
 Gd t188 false (fun k201 => Rd PP (eqS .neq Ty.api_Qid (.tmp 57) (.tmp 58) t193 t198) w199 fun t204 =>
 k201 t204 w199) w199 fun t202 w203 =>
 Pk t188 (.bool true) t202 fun t205 =>
 J20 [t205] w203))
def S.law30_DeviceNil.an : Ann := (.seq .leaf (.seq (.seq .leaf (.cond (.seq .leaf .leaf) .leaf)) (.seq (.seq .leaf (.cond (.seq .leaf .leaf) .leaf)) (.seq .leaf (.seq .leaf (.seq .leaf (.seq .leaf (.seq .leaf (.seq .leaf (.seq (.join .leaf [60] [23,24,25,26,27,28,29,30,31,32,33,34,35,36,37,38,39,40,41,42,43,44,45,46,47,48,49,50,51,52,53,54,55,56,57,58,59] (.cond (.seq .leaf .leaf) .leaf)) (.seq (.seq .leaf (.seq .leaf (.cond (.seq .leaf .leaf) .leaf))) (.seq (.join .leaf [92] [71,72,73,74,75,76,77,78,79,80,81,82,83,84,85,86,87,88,89,90,91] (.cond (.seq .leaf .leaf) .leaf)) (.seq .leaf .leaf)))))))))))))
theorem S.law30_DeviceNil.eq (a0 : Value) (w : World) (R : Value → World → Prop) : S.law30_DeviceNil a0 w R = fnC PP 100 (Tryz.f3.body.getD .skip) S.law30_DeviceNil.an [.tmp 2] [a0] w R := by kernel_rfl
theorem S.law30_DeviceNil.calls {a0 : Value} {w : World} {R : Value → World → Prop} (h : S.law30_DeviceNil a0 w R) : Ca PP Fn.law30_DeviceNil #[a0] w R :=
  fnC_calls mixed (f := Fn.law30_DeviceNil) (an := S.law30_DeviceNil.an) Tryz.func3 rfl (by show _ ≤ _; exact Nat.le_of_ble_eq_true rfl) (S.law30_DeviceNil.eq a0 w R ▸ h)
/-- acheron/acheronlaw30.awake -/
def S.law30_awake (w : World) (R : Value → World → Prop) : Prop :=
 Ca PP Fn.device_NewConsole #[(.string ⟨#[97, 110, 110]⟩)] w fun t1 w2 =>
 Ex t1 0 fun t3 =>
 Ex t1 1 fun t4 =>
 ∀ J5 : List Value → World → Prop, (∀ t8, ∀ w7 : World, (∀ u6 : Env,
 Cnd t8 (
 R (.bool false) w7) (
 Ca PP Fn.device_Console_Type #[t3, (.string ⟨#[97, 98, 8, 99, 10, 100]⟩)] w7 fun t9 w10 =>
 Nc t3 fun t11 =>
 Fa 0 t11 fun t12 =>
 Ld t12 w10 fun t13 =>
 Ca PP Fn.device_Device_Open #[t13, (.string ⟨#[97, 110, 110]⟩), (.int .i64 1), (.int .i64 0)] w10 fun t14 w15 =>
 Ex t14 0 fun t16 =>
 Ex t14 1 fun t17 =>
 Ex t14 2 fun t18 =>
 Al Ty.api_Qid #[.int .i64 0, .int .i64 0, .int .i64 0] w15 fun t19 w20 =>
 St PP 3 t19 t17 w20 fun w21 =>
 Nc t3 fun t22 =>
 Fa 0 t22 fun t23 =>
 Ld t23 w21 fun t24 =>
 Ca PP Fn.device_Device_Read #[t24, t16, (.int .i64 0), (.int .i64 2)] w21 fun t25 w26 =>
 Ex t25 0 fun t27 =>
 Ex t25 1 fun t28 =>
 Nc t3 fun t29 =>
 Fa 0 t29 fun t30 =>
 Ld t30 w26 fun t31 =>
 Ca PP Fn.device_Device_Read #[t31, t16, (.int .i64 0), (.int .i64 9)] w26 fun t32 w33 =>
 Ex t32 0 fun t34 =>
 Ex t32 1 fun t35 =>
 Nc t3 fun t36 =>
 Fa 0 t36 fun t37 =>
 Ld t37 w33 fun t38 =>
 Ca PP Fn.device_Device_Read #[t38, t16, (.int .i64 0), (.int .i64 9)] w33 fun t39 w40 =>
 Ex t39 0 fun t41 =>
 Ex t39 1 fun t42 =>
 ∀ J43 : List Value → World → Prop, (∀ t46, ∀ w45 : World, (∀ u44 : Env,
 R t46 w45) → J43 [t46] w45) →
 Bi .eql t16 (.int .i64 1) fun t47 =>
 Gd t47 true (fun k48 => k48 t18 w40) w40 fun t49 w50 =>
 Gd t47 true (fun k51 => Bi .eql t49 (.int .i64 0) fun t54 =>
 k51 t54 w50) w50 fun t52 w53 =>
 Pk t47 t52 (.bool false) fun t55 =>
 Gd t55 true (fun k56 => k56 t27 w53) w53 fun t57 w58 =>
 Gd t55 true (fun k59 => Bi .eql t57 (.string ⟨#[97, 99]⟩) fun t62 =>
 k59 t62 w58) w58 fun t60 w61 =>
 Pk t55 t60 (.bool false) fun t63 =>
 Gd t63 true (fun k64 => k64 t28 w61) w61 fun t65 w66 =>
 Gd t63 true (fun k67 => Bi .eql t65 (.int .i64 0) fun t70 =>
 k67 t70 w66) w66 fun t68 w69 =>
 Pk t63 t68 (.bool false) fun t71 =>
 Gd t71 true (fun k72 => k72 t35 w69) w69 fun t73 w74 =>
 Gd t71 true (fun k75 => Bi .eql t73 (.int .i64 0) fun t78 =>
 k75 t78 w74) w74 fun t76 w77 =>
 Pk t71 t76 (.bool false) fun t79 =>
 Gd t79 true (fun k80 => k80 t42 w77) w77 fun t81 w82 =>
 Gd t79 true (fun k83 => Bi .eql t81 (.int .i64 36) fun t86 =>
 k83 t86 w82) w82 fun t84 w85 =>
 Pk t79 t84 (.bool false) fun t87 =>
 J43 [t87] w85)) → J5 [t8] w7) →
 Bi .neq t4 (.int .i64 0) fun t88 =>
 Gd t88 false (fun k89 => k89 t3 w2) w2 fun t90 w91 =>
 Gd t88 false (fun k92 => Rd PP (eqS .eql Ty.p_device_Console (.tmp 18) (.const (.pointer none)) t90 (.pointer none)) w91 fun t95 =>
 k92 t95 w91) w91 fun t93 w94 =>
 Pk t88 (.bool true) t93 fun t96 =>
 J5 [t96] w94
def S.law30_awake.an : Ann := (.seq .leaf (.seq .leaf (.seq (.join .leaf [20] [15,16,17,18,19] (.cond (.seq .leaf .leaf) .leaf)) (.seq .leaf (.seq .leaf (.seq .leaf (.seq .leaf (.seq .leaf (.join .leaf [0] [59,60,61,62,63,64,65,66,67,68,69,70,71,72,73,74,75,76,77,78,79,80] .leaf)))))))))
theorem S.law30_awake.eq (w : World) (R : Value → World → Prop) : S.law30_awake  w R = fnC PP 81 (Tryz.f4.body.getD .skip) S.law30_awake.an [.tmp 0] [] w R := by kernel_rfl
theorem S.law30_awake.calls {w : World} {R : Value → World → Prop} (h : S.law30_awake w R) : Ca PP Fn.law30_awake #[] w R :=
  fnC_calls mixed (f := Fn.law30_awake) (an := S.law30_awake.an) Tryz.func4 rfl (by show _ ≤ _; exact Nat.le_of_ble_eq_true rfl) (S.law30_awake.eq w R ▸ h)
/-- acheron/acheronlaw30.Few -/
def S.law30_Few (a0 : Value) (w : World) (R : Value → World → Prop) : Prop :=
 ∀ J1 : List Value → World → Prop, (∀ t4, ∀ w3 : World, (∀ u2 : Env,
 R t4 w3) → J1 [t4] w3) →
 LnL a0 fun t5 =>
 Bi .leq t5 (.int .i64 60) fun t6 =>
 Gd t6 true (fun k7 => k7 a0 w) w fun t8 w9 =>
 Gd t6 true (fun k10 => Ca PP Fn.slices_ContainsFunc_sl_law30_Act_law30_Act #[t8, (.func (.func Fn.law30_Few_1) #[] #[])] w9 fun t13 w14 =>
 k10 t13 w14) w9 fun t11 w12 =>
 Gd t6 true (fun k15 => Un .not t11 fun t18 =>
 k15 t18 w12) w12 fun t16 w17 =>
 Pk t6 t16 (.bool false) fun t19 =>
 J1 [t19] w17
def S.law30_Few.an : Ann := (.seq .leaf (.join .leaf [2] [3,4,5,6,7,8,9,10] .leaf))
theorem S.law30_Few.eq (a0 : Value) (w : World) (R : Value → World → Prop) : S.law30_Few a0 w R = fnC PP 11 (Tryz.f5.body.getD .skip) S.law30_Few.an [.tmp 2] [a0] w R := by kernel_rfl
theorem S.law30_Few.calls {a0 : Value} {w : World} {R : Value → World → Prop} (h : S.law30_Few a0 w R) : Ca PP Fn.law30_Few #[a0] w R :=
  fnC_calls mixed (f := Fn.law30_Few) (an := S.law30_Few.an) Tryz.func5 rfl (by show _ ≤ _; exact Nat.le_of_ble_eq_true rfl) (S.law30_Few.eq a0 w R ▸ h)
/-- (*acheron/device.Console).Type -/
def S.device_Console_Type (a0 a1 : Value) (w : World) (R : Value → World → Prop) : Prop :=
 Rd PP (eqS .eql Ty.p_device_Console (.tmp 6) (.const (.pointer none)) a0 (.pointer none)) w fun t1 =>
 Cnd t1 (
 R (.tuple #[]) w) (
 Nc a0 fun t2 =>
 Fa 4 t2 fun t3 =>
 Ld t3 w fun t4 =>
 Cnd t4 (
 ∀ J5 : List Value → World → Prop, (∀ w7 : World, (∀ u6 : Env,
 R (.tuple #[]) w7) → J5 [] w7) →
 Bi .neq a1 (.string ⟨#[]⟩) fun t8 =>
 Cnd t8 (
 Ca PP Fn.device_Console_block #[a0, a1] w fun t9 w10 =>
 J5 [] w10) (
 J5 [] w)) (
 Ef PP (convert Ty.string Ty.sl_uint8 a1) w fun t11 w12 =>
 LnL t11 fun t13 =>
 ∃ (I14 : List Value → World → Prop) (m15 : List Value → World → Nat), I14 [(.int .i64 0)] w12 ∧ ∀ t18, ∀ (u16 : Env) (w17 : World), I14 [t18] w17 →
 Bi .lss t18 t13 fun t19 =>
 Cnd t19 (
 ∀ J20 : List Value → World → Prop, (∀ w22 : World, (∀ u21 : Env,
 Bi .add t18 (.int .i64 1) fun t23 =>
 I14 [t23] w22 ∧ m15 [t23] w22 < m15 [t18] w17) → J20 [] w22) →
 IxA 1 t11 t18 fun t24 =>
 Ld t24 w17 fun t25 =>
 Bi .eql t25 (.int .u8 10) fun t26 =>
 Cnd t26 (
 Ef PP (Instr.buildSlice Ty.sl_uint8 1 #[(0, t25)]) w17 fun t27 w28 =>
 Ca PP Fn.device_Console_end #[a0, t27] w28 fun t29 w30 =>
 J20 [] w30) (
 Bi .eql t25 (.int .u8 4) fun t31 =>
 Cnd t31 (
 Ca PP Fn.device_Console_end #[a0, (.slice none 0 0)] w17 fun t32 w33 =>
 J20 [] w33) (
 Bi .eql t25 (.int .u8 8) fun t34 =>
 Cnd t34 (
 Dr w17 fun w35 =>
 Nc a0 fun t36 =>
 Fa 1 t36 fun t37 =>
 Ld t37 w35 fun t38 =>
 Nc a0 fun t39 =>
 Fa 1 t39 fun t40 =>
 Ld t40 w35 fun t41 =>
 LnL t41 fun t42 =>
 Bi .sub t42 (.int .i64 1) fun t43 =>
 Mx t43 (.int .i64 0) fun t44 =>
 Sl 1 t38 none (some t44) fun t45 =>
 Nc a0 fun t46 =>
 Fa 1 t46 fun t47 =>
 St PP 1 t47 t45 w35 fun w48 =>
 J20 [] w48) (
 Bi .eql t25 (.int .u8 21) fun t49 =>
 Cnd t49 (
 Nc a0 fun t50 =>
 Fa 1 t50 fun t51 =>
 St PP 1 t51 (.slice none 0 0) w17 fun w52 =>
 J20 [] w52) (
 Nc a0 fun t53 =>
 Fa 1 t53 fun t54 =>
 Ld t54 w17 fun t55 =>
 LnL t55 fun t56 =>
 Bi .lss t56 (.int .i64 1024) fun t57 =>
 Cnd t57 (
 Nc a0 fun t58 =>
 Fa 1 t58 fun t59 =>
 Ld t59 w17 fun t60 =>
 Ef PP (Instr.buildSlice Ty.sl_uint8 1 #[(0, t25)]) w17 fun t61 w62 =>
 Ef PP (Builtin.append_ #[Ty.sl_uint8, Ty.sl_uint8] Ty.sl_uint8 #[t60, t61]) w62 fun t63 w64 =>
 Nc a0 fun t65 =>
 Fa 1 t65 fun t66 =>
 St PP 1 t66 t63 w64 fun w67 =>
 J20 [] w67) (
 J20 [] w17)))))) (
 R (.tuple #[]) w17)))
def S.device_Console_Type.an : Ann := (.seq (.seq .leaf (.cond .leaf .leaf)) (.seq (.seq .leaf (.cond (.join (.seq .leaf (.cond .leaf .leaf)) [] [12,13,14,15,16] .leaf) .leaf)) (.seq .leaf (.block (.loop (.seq .leaf (.seq (.cond .leaf .leaf) (.join (.block (.seq .leaf (.seq .leaf (.block (.seq .leaf (.cond .leaf (.seq .leaf (.cond .leaf (.seq .leaf (.cond (.draw [[],[],[1],[1,2],[1,2,3],[],[5],[5,6],[5,6,7],[5,6,7,8],[5,6,7,8,9],[5,6,7,8,9,10],[1,2,3,4,5,6,7,8,9,10,11],[0,1,2,3,4,5,6,7,8,9,10,11,12],[0,1,2,3,4,5,6,7,8,9,10,11,12,13],[0,1,2,3,4,5,6,7,8,9,10,11,12,13,14]] (.calm 0 (.calm 1 (.calm 2 (.calm 3 (.calm 4 (.calm 5 (.calm 6 (.calm 7 (.calm 8 (.calm 9 (.calm 10 (.calm 11 (.calm 12 (.calm 13 (.calm 14 (.eff1 15 [] .done))))))))))))))))) (.seq .leaf (.cond .leaf (.seq .leaf (.cond .leaf .leaf)))))))))))))) [] [5,22,23,24,25,26,27,28,29,30,31,32,33,34,35,36,37,38,39,40,41,42,43,44,45,46,47,48,49,50,51,52,53,54,55,56,57,58,59,60,61,62,63,64,65,66,67,68,69,70,71,72] .leaf))) [20] [5,21,22,23,24,25,26,27,28,29,30,31,32,33,34,35,36,37,38,39,40,41,42,43,44,45,46,47,48,49,50,51,52,53,54,55,56,57,58,59,60,61,62,63,64,65,66,67,68,69,70,71,72,73])))))
theorem S.device_Console_Type.eq (a0 a1 : Value) (w : World) (R : Value → World → Prop) : S.device_Console_Type a0 a1 w R = fnC PP 74 (Tryz.f6.body.getD .skip) S.device_Console_Type.an [] [a0, a1] w R := by kernel_rfl
theorem S.device_Console_Type.calls {a0 a1 : Value} {w : World} {R : Value → World → Prop} (h : S.device_Console_Type a0 a1 w R) : Ca PP Fn.device_Console_Type #[a0, a1] w R :=
  fnC_calls mixed (f := Fn.device_Console_Type) (an := S.device_Console_Type.an) Tryz.func6 rfl (by show _ ≤ _; exact Nat.le_of_ble_eq_true rfl) (S.device_Console_Type.eq a0 a1 w R ▸ h)
/-- (*acheron/device.Console).SetTime -/
def S.device_Console_SetTime (a0 a1 : Value) (w : World) (R : Value → World → Prop) : Prop :=
 Rd PP (eqS .neq Ty.p_device_Console (.tmp 4) (.const (.pointer none)) a0 (.pointer none)) w fun t1 =>
 Cnd t1 (
 Nc a0 fun t2 =>
 Fa 5 t2 fun t3 =>
 St PP 1 t3 a1 w fun w4 =>
 R (.tuple #[]) w4) (
 R (.tuple #[]) w)
def S.device_Console_SetTime.an : Ann := (.seq .leaf (.cond .leaf .leaf))
theorem S.device_Console_SetTime.eq (a0 a1 : Value) (w : World) (R : Value → World → Prop) : S.device_Console_SetTime a0 a1 w R = fnC PP 10 (Tryz.f7.body.getD .skip) S.device_Console_SetTime.an [] [a0, a1] w R := by kernel_rfl
theorem S.device_Console_SetTime.calls {a0 a1 : Value} {w : World} {R : Value → World → Prop} (h : S.device_Console_SetTime a0 a1 w R) : Ca PP Fn.device_Console_SetTime #[a0, a1] w R :=
  fnC_calls mixed (f := Fn.device_Console_SetTime) (an := S.device_Console_SetTime.an) Tryz.func7 rfl (by show _ ≤ _; exact Nat.le_of_ble_eq_true rfl) (S.device_Console_SetTime.eq a0 a1 w R ▸ h)
/-- (*acheron/device.Console).Output -/
def S.device_Console_Output (a0 : Value) (w : World) (R : Value → World → Prop) : Prop :=
 Rd PP (eqS .eql Ty.p_device_Console (.tmp 4) (.const (.pointer none)) a0 (.pointer none)) w fun t1 =>
 Cnd t1 (
 R (.string ⟨#[]⟩) w) (
 Nc a0 fun t2 =>
 Fa 3 t2 fun t3 =>
 Ld t3 w fun t4 =>
 Rd PP (convert Ty.sl_uint8 Ty.string t4) w fun t5 =>
 Nc a0 fun t6 =>
 Fa 3 t6 fun t7 =>
 St PP 1 t7 (.slice none 0 0) w fun w8 =>
 R t5 w8)
def S.device_Console_Output.an : Ann := (.seq .leaf (.seq (.seq .leaf (.cond (.seq .leaf .leaf) .leaf)) (.seq .leaf (.seq .leaf (.seq .leaf .leaf)))))
theorem S.device_Console_Output.eq (a0 : Value) (w : World) (R : Value → World → Prop) : S.device_Console_Output a0 w R = fnC PP 15 (Tryz.f8.body.getD .skip) S.device_Console_Output.an [.tmp 2] [a0] w R := by kernel_rfl
theorem S.device_Console_Output.calls {a0 : Value} {w : World} {R : Value → World → Prop} (h : S.device_Console_Output a0 w R) : Ca PP Fn.device_Console_Output #[a0] w R :=
  fnC_calls mixed (f := Fn.device_Console_Output) (an := S.device_Console_Output.an) Tryz.func8 rfl (by show _ ≤ _; exact Nat.le_of_ble_eq_true rfl) (S.device_Console_Output.eq a0 w R ▸ h)
/-- (*acheron/device.Programs).Update -/
def S.device_Programs_Update (a0 a1 : Value) (w : World) (R : Value → World → Prop) : Prop :=
 Al Ty.p_device_Programs (a0 : Value).cells w fun t1 w2 =>
 Ld t1 w2 fun t3 =>
 Rd PP (eqS .eql Ty.p_device_Programs (.tmp 22) (.const (.pointer none)) t3 (.pointer none)) w2 fun t4 =>
 Cnd t4 (
 R (.int .i64 6) w2) (
 LnL a1 fun t5 =>
 Bi .gtr t5 (.int .i64 64) fun t6 =>
 Cnd t6 (
 R (.int .i64 3) w2) (
 MkM w2 fun t7 w8 =>
 LnL a1 fun t9 =>
 ∃ (I10 : List Value → World → Prop) (m11 : List Value → World → Nat), I10 [(.int .i64 0)] w8 ∧ ∀ t14, ∀ (u12 : Env) (w13 : World), I10 [t14] w13 →
 Bi .lss t14 t9 fun t15 =>
 Cnd t15 (
 IxA 5 a1 t14 fun t16 =>
 LdA PP 5 t16 w13 fun t17 =>
 Al Ty.api_Proc #[.int .i64 0, .int .i64 0, .int .i64 0, .string ⟨#[]⟩, .int .i64 0] w13 fun t18 w19 =>
 St PP 5 t18 t17 w19 fun w20 =>
 ∀ J21 : List Value → World → Prop, (∀ t24, ∀ w23 : World, (∀ u22 : Env,
 Cnd t24 (
 R (.int .i64 11) w23) (
 Fa 0 t18 fun t25 =>
 Ld t25 w23 fun t26 =>
 LdA PP 5 t18 w23 fun t27 =>
 Ef PP (Instr.mapUpdate Ty.map_int_api_Proc t7 t26 t27) w23 fun _ w28 =>
 Bi .add t14 (.int .i64 1) fun t29 =>
 I10 [t29] w28 ∧ m11 [t29] w28 < m11 [t14] w13)) → J21 [t24] w23) →
 Fa 0 t18 fun t30 =>
 Ld t30 w20 fun t31 =>
 CaV PP (.func (.func Fn.device_Programs_Update_1) #[] #[]) #[t31] w20 fun t32 w33 =>
 Un .not t32 fun t34 =>
 Gd t34 false (fun k35 => k35 (.func (.func Fn.device_Programs_Update_1) #[] #[]) w33) w33 fun t36 w37 =>
 Gd t34 false (fun k38 => Fa 1 t18 fun t41 =>
 k38 t41 w37) w37 fun t39 w40 =>
 Gd t34 false (fun k42 => Ld t39 w40 fun t45 =>
 k42 t45 w40) w40 fun t43 w44 =>
 Gd t34 false (fun k46 => CaV PP t36 #[t43] w44 fun t49 w50 =>
 k46 t49 w50) w44 fun t47 w48 =>
 Gd t34 false (fun k51 => Un .not t47 fun t54 =>
 k51 t54 w48) w48 fun t52 w53 =>
 Pk t34 (.bool true) t52 fun t55 =>
 Gd t55 false (fun k56 => Fa 2 t18 fun t59 =>
 k56 t59 w53) w53 fun t57 w58 =>
 Gd t55 false (fun k60 => Ld t57 w58 fun t63 =>
 k60 t63 w58) w58 fun t61 w62 =>
 Gd t55 false (fun k64 => Bi .lss t61 (.int .i64 0) fun t67 =>
 k64 t67 w62) w62 fun t65 w66 =>
 Pk t55 (.bool true) t65 fun t68 =>
 Gd t68 false (fun k69 => Fa 2 t18 fun t72 =>
 k69 t72 w66) w66 fun t70 w71 =>
 Gd t68 false (fun k73 => Ld t70 w71 fun t76 =>
 k73 t76 w71) w71 fun t74 w75 =>
 Gd t68 false (fun k77 => Bi .gtr t74 (.int .i64 6) fun t80 =>
 k77 t80 w75) w75 fun t78 w79 =>
 Pk t68 (.bool true) t78 fun t81 =>
 Gd t81 false (fun k82 => Fa 4 t18 fun t85 =>
 k82 t85 w79) w79 fun t83 w84 =>
 Gd t81 false (fun k86 => Ld t83 w84 fun t89 =>
 k86 t89 w84) w84 fun t87 w88 =>
 Gd t81 false (fun k90 => Bi .lss t87 (.int .i64 0) fun t93 =>
 k90 t93 w88) w88 fun t91 w92 =>
 Pk t81 (.bool true) t91 fun t94 =>
 J21 [t94] w92) (
 Rd PP (Builtin.len_ #[Ty.map_int_api_Proc] Ty.int #[t7]) w13 fun t95 =>
 LnL a1 fun t96 =>
 Bi .lss t95 t96 fun t97 =>
 Cnd t97 (
 R (.int .i64 5) w13) (
 Ld t1 w13 fun t98 =>
 Nc t98 fun t99 =>
 Fa 1 t99 fun t100 =>
 Ld t100 w13 fun t101 =>
 Ef PP (Instr.range Ty.map_int_api_Proc t101) w13 fun t102 w103 =>
 ∃ (I104 : List Value → World → Prop) (m105 : List Value → World → Nat), I104 [] w103 ∧ ∀ (u106 : Env) (w107 : World), I104 [] w107 →
 Ef PP (Instr.next t102 false Ty.t) w107 fun t108 w109 =>
 Ex t108 0 fun t110 =>
 Cnd t110 (
 Rd PP (Instr.entry t102) w109 fun t111 =>
 Ex t111 0 fun t112 =>
 Rd PP (Instr.lookup Ty.map_int_api_Proc t7 t112 true) w109 fun t113 =>
 Ex t113 0 fun t114 =>
 Ex t113 1 fun t115 =>
 Al Ty.api_Proc #[.int .i64 0, .int .i64 0, .int .i64 0, .string ⟨#[]⟩, .int .i64 0] w109 fun t116 w117 =>
 St PP 5 t116 t114 w117 fun w118 =>
 Cnd t115 (
 I104 [] w118 ∧ m105 [] w118 < m105 [] w107) (
 ∃ (I119 : List Value → World → Prop) (m120 : List Value → World → Nat), I119 [(.int .i64 0)] w118 ∧ ∀ t123, ∀ (u121 : Env) (w122 : World), I119 [t123] w122 →
 Bi .lss t123 (.int .i64 3) fun t124 =>
 Cnd t124 (
 ∀ J125 : List Value → World → Prop, (∀ w127 : World, (∀ u126 : Env,
 Bi .add t123 (.int .i64 1) fun t128 =>
 I119 [t128] w127 ∧ m120 [t128] w127 < m120 [t123] w122) → J125 [] w127) →
 Bi .mul (.int .i64 4) t112 fun t129 =>
 Bi .add t129 t123 fun t130 =>
 Ld t1 w122 fun t131 =>
 Nc t131 fun t132 =>
 Fa 0 t132 fun t133 =>
 Ld t133 w122 fun t134 =>
 Nc t134 fun t135 =>
 Fa 1 t135 fun t136 =>
 Ld t136 w122 fun t137 =>
 Rd PP (Instr.lookup Ty.map_int64_p_device_file t137 t130 true) w122 fun t138 =>
 Ex t138 0 fun t139 =>
 Ex t138 1 fun t140 =>
 Cnd t140 (
 Nc t139 fun t141 =>
 Fa 12 t141 fun t142 =>
 St PP 1 t142 (.bool true) w122 fun w143 =>
 Ld t1 w143 fun t144 =>
 Nc t144 fun t145 =>
 Fa 0 t145 fun t146 =>
 Ld t146 w143 fun t147 =>
 Nc t147 fun t148 =>
 Fa 1 t148 fun t149 =>
 Ld t149 w143 fun t150 =>
 Ef PP (Builtin.delete_ #[Ty.map_int64_p_device_file, Ty.int64] Ty.t #[t150, t130]) w143 fun x_151 w152 =>
 J125 [] w152) (
 J125 [] w122)) (
 Dr w122 fun w153 =>
 Ld t1 w153 fun t154 =>
 Nc t154 fun t155 =>
 Fa 0 t155 fun t156 =>
 Ld t156 w153 fun t157 =>
 Nc t157 fun t158 =>
 Fa 0 t158 fun t159 =>
 Ld t159 w153 fun t160 =>
 Nc t160 fun t161 =>
 Fa 11 t161 fun t162 =>
 Ld t162 w153 fun t163 =>
 Ca PP Fn.strconv_Itoa #[t112] w153 fun t164 w165 =>
 (Ld t1 w165 fun t166 =>
 t166 = t154) ∧
 (Ld t156 w165 fun t167 =>
 t167 = t157) ∧
 (Ld t159 w165 fun t168 =>
 t168 = t160) ∧
 (Ld t162 w165 fun t169 =>
 t169 = t163) ∧
 Ef PP (Builtin.delete_ #[Ty.map_string_p_device_file, Ty.string] Ty.t #[t163, t164]) w165 fun x_170 w171 =>
 I104 [] w171 ∧ m105 [] w171 < m105 [] w107))) (
 Ld t1 w109 fun t172 =>
 Nc t172 fun t173 =>
 Fa 1 t173 fun t174 =>
 Ld t174 w109 fun t175 =>
 Ld t1 w109 fun t176 =>
 Nc t176 fun t177 =>
 Fa 1 t177 fun t178 =>
 St PP 1 t178 t7 w109 fun w179 =>
 Ef PP (Instr.range Ty.map_int_api_Proc t7) w179 fun t180 w181 =>
 ∃ (I182 : List Value → World → Prop) (m183 : List Value → World → Nat), I182 [] w181 ∧ ∀ (u184 : Env) (w185 : World), I182 [] w185 →
 Ef PP (Instr.next t180 false Ty.t) w185 fun t186 w187 =>
 Ex t186 0 fun t188 =>
 Cnd t188 (
 Rd PP (Instr.entry t180) w187 fun t189 =>
 Ex t189 0 fun t190 =>
 Al Ty.int #[.int .i64 0] w187 fun t191 w192 =>
 St PP 1 t191 t190 w192 fun w193 =>
 Ld t191 w193 fun t194 =>
 Rd PP (Instr.lookup Ty.map_int_api_Proc t175 t194 true) w193 fun t195 =>
 Ex t195 0 fun t196 =>
 Ex t195 1 fun t197 =>
 Al Ty.api_Proc #[.int .i64 0, .int .i64 0, .int .i64 0, .string ⟨#[]⟩, .int .i64 0] w193 fun t198 w199 =>
 St PP 5 t198 t196 w199 fun w200 =>
 Cnd t197 (
 I182 [] w200 ∧ m183 [] w200 < m183 [] w185) (
 Ld t191 w200 fun t201 =>
 Bi .mul (.int .i64 4) t201 fun t202 =>
 Dr w200 fun w203 =>
 Ld t1 w203 fun t204 =>
 Nc t204 fun t205 =>
 Fa 0 t205 fun t206 =>
 Ld t206 w203 fun t207 =>
 Ld t1 w203 fun t208 =>
 Nc t208 fun t209 =>
 Fa 0 t209 fun t210 =>
 Ld t210 w203 fun t211 =>
 Nc t211 fun t212 =>
 Fa 0 t212 fun t213 =>
 Ld t213 w203 fun t214 =>
 Ld t191 w203 fun t215 =>
 Ca PP Fn.strconv_Itoa #[t215] w203 fun t216 w217 =>
 (Ld t1 w217 fun t218 =>
 t218 = t204) ∧
 (Ld t206 w217 fun t219 =>
 t219 = t207) ∧
 (Ld t1 w217 fun t220 =>
 t220 = t208) ∧
 (Ld t210 w217 fun t221 =>
 t221 = t211) ∧
 (Ld t213 w217 fun t222 =>
 t222 = t214) ∧
 Ca PP Fn.device_Device_add #[t207, t214, t202, t216, (.int .i64 2147484013)] w217 fun t223 w224 =>
 Ld t1 w224 fun t225 =>
 Nc t225 fun t226 =>
 Fa 0 t226 fun t227 =>
 Ld t227 w224 fun t228 =>
 Bi .add t202 (.int .i64 1) fun t229 =>
 Ca PP Fn.device_Device_add #[t228, t223, t229, (.string ⟨#[99, 116, 108]⟩), (.int .i64 128)] w224 fun t230 w231 =>
 Nc t230 fun t232 =>
 Fa 14 t232 fun t233 =>
 St PP 1 t233 (.func (.func Fn.device_Programs_Update_2) #[] #[t1, t191]) w231 fun w234 =>
 Ld t1 w234 fun t235 =>
 Nc t235 fun t236 =>
 Fa 0 t236 fun t237 =>
 Ld t237 w234 fun t238 =>
 Bi .add t202 (.int .i64 2) fun t239 =>
 Ca PP Fn.device_Device_add #[t238, t223, t239, (.string ⟨#[115, 116, 97, 116, 117, 115]⟩), (.int .i64 292)] w234 fun t240 w241 =>
 Ca PP Fn.device_file_text #[t240, (.func (.func Fn.device_Programs_Update_3) #[] #[t1, t191])] w241 fun t242 w243 =>
 I182 [] w243 ∧ m183 [] w243 < m183 [] w185)) (
 R (.int .i64 0) w187))))))
def S.device_Programs_Update.an : Ann := (.seq .leaf (.seq (.seq .leaf (.cond (.seq .leaf .leaf) .leaf)) (.seq (.seq .leaf (.cond (.seq .leaf .leaf) .leaf)) (.seq .leaf (.seq .leaf (.seq (.seq .leaf (.block (.loop (.seq .leaf (.seq (.cond .leaf .leaf) (.seq (.block (.seq .leaf (.seq (.join .leaf [60] [34,35,36,37,38,39,40,41,42,43,44,45,46,47,48,49,50,51,52,53,54,55,56,57,58,59] (.cond (.seq .leaf .leaf) .leaf)) .leaf))) .leaf))) [30] [4,8,31,32,33,34,35,36,37,38,39,40,41,42,43,44,45,46,47,48,49,50,51,52,53,54,55,56,57,58,59,60,61,62,63,64,65]))) (.seq (.seq .leaf (.cond (.seq .leaf .leaf) .leaf)) (.seq (.seq .leaf (.block (.loop (.seq .leaf (.seq (.cond .leaf .leaf) (.block (.seq .leaf (.seq (.seq .leaf (.seq .leaf (.cond .leaf .leaf))) (.seq (.seq .leaf (.block (.loop (.seq .leaf (.seq (.cond .leaf .leaf) (.join (.block (.seq .leaf (.seq .leaf (.seq .leaf (.seq .leaf (.cond (.seq .leaf .leaf) .leaf)))))) [] [12,13,14,15,89,90,91,92,93,94,95,96,97,98,99,100,101,102,103,104,105,106,107,108,109,110,111,112,113,114,115,116,117] .leaf))) [87] [12,13,14,15,88,89,90,91,92,93,94,95,96,97,98,99,100,101,102,103,104,105,106,107,108,109,110,111,112,113,114,115,116,117,118]))) (.draw [[],[0],[0,1],[0,1,2],[0,1,2,3],[0,1,2,3,4],[0,1,2,3,4,5],[0,1,2,3,4,5,6],[0,1,2,3,4,5,6,7],[0,1,2,3,4,5,6,7,8],[],[10],[0,1,2,3,4,5,6,7,8,9,10,11]] (.calm 0 (.calm 1 (.calm 2 (.calm 3 (.calm 4 (.calm 5 (.calm 6 (.calm 7 (.calm 8 (.calm 9 (.calm 10 (.eff1 11 [0,3,6,9] (.eff1 12 [] .done)))))))))))))))))))) [] [9,10,11,12,13,14,15,76,77,78,79,80,81,82,83,84,85,86,87,88,89,90,91,92,93,94,95,96,97,98,99,100,101,102,103,104,105,106,107,108,109,110,111,112,113,114,115,116,117,118,119,120,121,122,123,124,125,126,127,128,129,130]))) (.seq .leaf (.seq .leaf (.seq (.seq .leaf (.block (.loop (.seq .leaf (.seq (.cond .leaf .leaf) (.block (.seq .leaf (.seq (.seq .leaf (.seq .leaf (.cond .leaf .leaf))) (.seq .leaf (.seq (.draw [[],[0],[0,1],[0,1,2],[],[4],[4,5],[4,5,6],[4,5,6,7],[4,5,6,7,8],[4,5,6,7,8,9],[],[],[12],[0,1,2,3,4,5,6,7,8,9,10,11,12,13],[0,1,2,3,4,5,6,7,8,9,10,11,12,13,14]] (.calm 0 (.calm 1 (.calm 2 (.calm 3 (.calm 4 (.calm 5 (.calm 6 (.calm 7 (.calm 8 (.calm 9 (.calm 10 (.calm 11 (.calm 12 (.eff1 13 [0,3,4,7,10] (.eff1 14 [] (.calm 15 .done))))))))))))))))) (.seq .leaf .leaf)))))))) [] [17,18,19,20,21,141,142,143,144,145,146,147,148,149,150,151,152,153,154,155,156,157,158,159,160,161,162,163,164,165,166,167,168,169,170,171,172,173,174,175,176,177,178,179,180,181,182,183,184,185,186,187,188,189]))) (.seq .leaf .leaf))))))))))))
theorem S.device_Programs_Update.eq (a0 a1 : Value) (w : World) (R : Value → World → Prop) : S.device_Programs_Update a0 a1 w R = fnC PP 190 (Tryz.f9.body.getD .skip) S.device_Programs_Update.an [.tmp 4] [a0, a1] w R := by kernel_rfl
theorem S.device_Programs_Update.calls {a0 a1 : Value} {w : World} {R : Value → World → Prop} (h : S.device_Programs_Update a0 a1 w R) : Ca PP Fn.device_Programs_Update #[a0, a1] w R :=
  fnC_calls mixed (f := Fn.device_Programs_Update) (an := S.device_Programs_Update.an) Tryz.func9 rfl (by show _ ≤ _; exact Nat.le_of_ble_eq_true rfl) (S.device_Programs_Update.eq a0 a1 w R ▸ h)
/-- (*acheron/device.Programs).Commands -/
def S.device_Programs_Commands (a0 : Value) (w : World) (R : Value → World → Prop) : Prop :=
 Rd PP (eqS .eql Ty.p_device_Programs (.tmp 4) (.const (.pointer none)) a0 (.pointer none)) w fun t1 =>
 Cnd t1 (
 R (.slice none 0 0) w) (
 Nc a0 fun t2 =>
 Fa 2 t2 fun t3 =>
 Ld t3 w fun t4 =>
 Nc a0 fun t5 =>
 Fa 2 t5 fun t6 =>
 St PP 1 t6 (.slice none 0 0) w fun w7 =>
 R t4 w7)
def S.device_Programs_Commands.an : Ann := (.seq .leaf (.seq (.seq .leaf (.cond (.seq .leaf .leaf) .leaf)) (.seq .leaf (.seq .leaf (.seq .leaf .leaf)))))
theorem S.device_Programs_Commands.eq (a0 : Value) (w : World) (R : Value → World → Prop) : S.device_Programs_Commands a0 w R = fnC PP 14 (Tryz.f10.body.getD .skip) S.device_Programs_Commands.an [.tmp 2] [a0] w R := by kernel_rfl
theorem S.device_Programs_Commands.calls {a0 : Value} {w : World} {R : Value → World → Prop} (h : S.device_Programs_Commands a0 w R) : Ca PP Fn.device_Programs_Commands #[a0] w R :=
  fnC_calls mixed (f := Fn.device_Programs_Commands) (an := S.device_Programs_Commands.an) Tryz.func10 rfl (by show _ ≤ _; exact Nat.le_of_ble_eq_true rfl) (S.device_Programs_Commands.eq a0 w R ▸ h)
/-- (*acheron/device.Environment).Vars -/
def S.device_Environment_Vars (a0 : Value) (w : World) (R : Value → World → Prop) : Prop :=
 Rd PP (eqS .eql Ty.p_device_Environment (.tmp 6) (.const (.pointer none)) a0 (.pointer none)) w fun t1 =>
 Cnd t1 (
 R (.slice none 0 0) w) (
 Nc a0 fun t2 =>
 Fa 0 t2 fun t3 =>
 Ld t3 w fun t4 =>
 Ca PP Fn.tree_Tree_Files #[t4] w fun t5 w6 =>
 LnL t5 fun t7 =>
 ∃ (I8 : List Value → World → Prop) (m9 : List Value → World → Nat), I8 [(.slice none 0 0), (.int .i64 0)] w6 ∧ ∀ t12 t13, ∀ (u10 : Env) (w11 : World), I8 [t12, t13] w11 →
 Bi .lss t13 t7 fun t14 =>
 Cnd t14 (
 ∀ J15 : List Value → World → Prop, (∀ t18, ∀ w17 : World, (∀ u16 : Env,
 Bi .add t13 (.int .i64 1) fun t19 =>
 I8 [t18, t19] w17 ∧ m9 [t18, t19] w17 < m9 [t12, t13] w11) → J15 [t18] w17) →
 IxA 12 t5 t13 fun t20 =>
 LdA PP 12 t20 w11 fun t21 =>
 Al Ty.tree_File #[.string ⟨#[]⟩, .int .i64 0, .int .i64 0, .int .i64 0, .int .i64 0, .int .i64 0, .int .i64 0, .string ⟨#[]⟩, .string ⟨#[]⟩, .string ⟨#[]⟩, .string ⟨#[]⟩, .string ⟨#[]⟩] w11 fun t22 w23 =>
 St PP 12 t22 t21 w23 fun w24 =>
 ∀ J25 : List Value → World → Prop, (∀ t28, ∀ w27 : World, (∀ u26 : Env,
 Cnd t28 (
 Fa 1 t22 fun t29 =>
 Fa 6 t29 fun t30 =>
 Ld t30 w27 fun t31 =>
 Fa 11 t22 fun t32 =>
 Ld t32 w27 fun t33 =>
 Bd #[.string ⟨#[]⟩, .string ⟨#[]⟩] [(0, 1), (1, 1)] [(0, t31), (1, t33)] fun t34 =>
 Ef PP (Instr.buildSlice Ty.sl_device_Var 1 #[(0, t34)]) w27 fun t35 w36 =>
 Ef PP (Builtin.append_ #[Ty.sl_device_Var, Ty.sl_device_Var] Ty.sl_device_Var #[t12, t35]) w36 fun t37 w38 =>
 J15 [t37] w38) (
 J15 [t12] w27)) → J25 [t28] w27) →
 Fa 1 t22 fun t39 =>
 Fa 3 t39 fun t40 =>
 Ld t40 w24 fun t41 =>
 Bi .and t41 (.int .i64 2147483648) fun t42 =>
 Bi .eql t42 (.int .i64 0) fun t43 =>
 Gd t43 true (fun k44 => Fa 0 t22 fun t47 =>
 k44 t47 w24) w24 fun t45 w46 =>
 Gd t43 true (fun k48 => Ld t45 w46 fun t51 =>
 k48 t51 w46) w46 fun t49 w50 =>
 Gd t43 true (fun k52 => Fa 1 t22 fun t55 =>
 k52 t55 w50) w50 fun t53 w54 =>
 Gd t43 true (fun k56 => Fa 6 t53 fun t59 =>
 k56 t59 w54) w54 fun t57 w58 =>
 Gd t43 true (fun k60 => Ld t57 w58 fun t63 =>
 k60 t63 w58) w58 fun t61 w62 =>
 Gd t43 true (fun k64 => Bi .add (.string ⟨#[47]⟩) t61 fun t67 =>
 k64 t67 w62) w62 fun t65 w66 =>
 Gd t43 true (fun k68 => Bi .eql t49 t65 fun t71 =>
 k68 t71 w66) w66 fun t69 w70 =>
 Pk t43 t69 (.bool false) fun t72 =>
 J25 [t72] w70) (
 R t12 w11))
def S.device_Environment_Vars.an : Ann := (.seq .leaf (.seq (.seq .leaf (.cond (.seq .leaf .leaf) .leaf)) (.seq .leaf (.seq (.seq .leaf (.block (.loop (.seq .leaf (.seq (.cond .leaf .leaf) (.join (.block (.seq .leaf (.join .leaf [31] [18,19,20,21,22,23,24,25,26,27,28,29,30] (.cond .leaf .leaf)))) [3] [5,16,17,18,19,20,21,22,23,24,25,26,27,28,29,30,31,32,33,34,35,36,37,38,39,40] .leaf))) [3,14] [5,15,16,17,18,19,20,21,22,23,24,25,26,27,28,29,30,31,32,33,34,35,36,37,38,39,40,41]))) (.seq .leaf .leaf)))))
theorem S.device_Environment_Vars.eq (a0 : Value) (w : World) (R : Value → World → Prop) : S.device_Environment_Vars a0 w R = fnC PP 43 (Tryz.f11.body.getD .skip) S.device_Environment_Vars.an [.tmp 2] [a0] w R := by kernel_rfl
theorem S.device_Environment_Vars.calls {a0 : Value} {w : World} {R : Value → World → Prop} (h : S.device_Environment_Vars a0 w R) : Ca PP Fn.device_Environment_Vars #[a0] w R :=
  fnC_calls mixed (f := Fn.device_Environment_Vars) (an := S.device_Environment_Vars.an) Tryz.func11 rfl (by show _ ≤ _; exact Nat.le_of_ble_eq_true rfl) (S.device_Environment_Vars.eq a0 w R ▸ h)
/-- (*acheron/device.Environment).Set -/
def S.device_Environment_Set (a0 a1 a2 : Value) (w : World) (R : Value → World → Prop) : Prop :=
 Rd PP (eqS .eql Ty.p_device_Environment (.tmp 11) (.const (.pointer none)) a0 (.pointer none)) w fun t1 =>
 Cnd t1 (
 R (.int .i64 6) w) (
 Ca PP Fn.device_Environment_find #[a0, a1] w fun t2 w3 =>
 Ex t2 0 fun t4 =>
 Ex t2 1 fun t5 =>
 Al Ty.tree_File #[.string ⟨#[]⟩, .int .i64 0, .int .i64 0, .int .i64 0, .int .i64 0, .int .i64 0, .int .i64 0, .string ⟨#[]⟩, .string ⟨#[]⟩, .string ⟨#[]⟩, .string ⟨#[]⟩, .string ⟨#[]⟩] w3 fun t6 w7 =>
 St PP 12 t6 t4 w7 fun w8 =>
 Ca PP Fn.tree_Valid #[a1] w8 fun t9 w10 =>
 Un .not t9 fun t11 =>
 Cnd t11 (
 R (.int .i64 8) w10) (
 LnS a2 fun t12 =>
 Bi .gtr t12 (.int .i64 4096) fun t13 =>
 Cnd t13 (
 R (.int .i64 3) w10) (
 ∀ J14 : List Value → World → Prop, (∀ t17, ∀ w16 : World, (∀ u15 : Env,
 Cnd t17 (
 R (.int .i64 18) w16) (
 ∀ J18 : List Value → World → Prop, (∀ t21 t22, ∀ w20 : World, (∀ u19 : Env,
 Bi .neq t22 (.int .i64 0) fun t23 =>
 Cnd t23 (
 R t22 w20) (
 Nc a0 fun t24 =>
 Fa 0 t24 fun t25 =>
 Ld t25 w20 fun t26 =>
 ∀ J27 : List Value → World → Prop, (∀ t30, ∀ w29 : World, (∀ u28 : Env,
 ∀ J31 : List Value → World → Prop, (∀ t34, ∀ w33 : World, (∀ u32 : Env,
 Lvs PP ((Df.call Fn.tree_Tree_Close #[] #[t26, t21]) :: []) w33 fun w35 =>
 R t34 w35) → J31 [t34] w33) →
 ∀ J36 : List Value → World → Prop, (∀ t39, ∀ w38 : World, (∀ u37 : Env,
 Cnd t39 (
 Nc a0 fun t40 =>
 Fa 0 t40 fun t41 =>
 Ld t41 w38 fun t42 =>
 Ca PP Fn.tree_Tree_Write #[t42, t21, (.int .i64 0), a2] w38 fun t43 w44 =>
 Ex t43 0 fun t45 =>
 Ex t43 1 fun t46 =>
 J31 [t46] w44) (
 J31 [t30] w38)) → J36 [t39] w38) →
 Bi .eql t30 (.int .i64 0) fun t47 =>
 Gd t47 true (fun k48 => k48 a2 w29) w29 fun t49 w50 =>
 Gd t47 true (fun k51 => Bi .neq t49 (.string ⟨#[]⟩) fun t54 =>
 k51 t54 w50) w50 fun t52 w53 =>
 Pk t47 t52 (.bool false) fun t55 =>
 J36 [t55] w53) → J27 [t30] w29) →
 Cnd t5 (
 Dr w20 fun w56 =>
 Nc a0 fun t57 =>
 Fa 0 t57 fun t58 =>
 Ld t58 w56 fun t59 =>
 Nc a0 fun t60 =>
 Fa 1 t60 fun t61 =>
 Ld t61 w56 fun t62 =>
 Fa 1 t6 fun t63 =>
 Fa 0 t63 fun t64 =>
 Fa 2 t64 fun t65 =>
 Ld t65 w56 fun t66 =>
 Bd #[.int .i64 0, .int .i64 0, .int .i64 0, .int .i64 0, .int .i64 0, .int .i64 0, .string ⟨#[]⟩, .string ⟨#[]⟩, .string ⟨#[]⟩, .string ⟨#[]⟩] [(0, 3), (3, 1), (4, 1), (5, 1), (6, 1), (7, 1), (8, 1), (9, 1)] [(1, (.int .i64 (-1))), (2, (.int .i64 (-1)))] fun t67 =>
 Ca PP Fn.tree_Tree_Wstat #[t59, t62, t66, t67] w56 fun t68 w69 =>
 J27 [t68] w69) (
 J27 [t22] w20))) → J18 [t21, t22] w20) →
 Cnd t5 (
 Dr w16 fun w70 =>
 Nc a0 fun t71 =>
 Fa 0 t71 fun t72 =>
 Ld t72 w70 fun t73 =>
 Nc a0 fun t74 =>
 Fa 1 t74 fun t75 =>
 Ld t75 w70 fun t76 =>
 Fa 1 t6 fun t77 =>
 Fa 0 t77 fun t78 =>
 Fa 2 t78 fun t79 =>
 Ld t79 w70 fun t80 =>
 Ca PP Fn.tree_Tree_Open #[t73, t76, t80, (.int .i64 1)] w70 fun t81 w82 =>
 Ex t81 0 fun t83 =>
 Ex t81 1 fun t84 =>
 Ex t81 2 fun t85 =>
 J18 [t83, t85] w82) (
 Dr w16 fun w86 =>
 Nc a0 fun t87 =>
 Fa 0 t87 fun t88 =>
 Ld t88 w86 fun t89 =>
 Nc a0 fun t90 =>
 Fa 1 t90 fun t91 =>
 Ld t91 w86 fun t92 =>
 Ca PP Fn.tree_Tree_Create #[t89, t92, (.int .i64 0), a1, (.int .i64 438), (.int .i64 1)] w86 fun t93 w94 =>
 Ex t93 0 fun t95 =>
 Ex t93 1 fun t96 =>
 Ex t93 2 fun t97 =>
 J18 [t95, t97] w94))) → J14 [t17] w16) →
 Gd t5 true (fun k98 => Fa 1 t6 fun t101 =>
 k98 t101 w10) w10 fun t99 w100 =>
 Gd t5 true (fun k102 => Fa 3 t99 fun t105 =>
 k102 t105 w100) w100 fun t103 w104 =>
 Gd t5 true (fun k106 => Ld t103 w104 fun t109 =>
 k106 t109 w104) w104 fun t107 w108 =>
 Gd t5 true (fun k110 => Bi .and t107 (.int .i64 2147483648) fun t113 =>
 k110 t113 w108) w108 fun t111 w112 =>
 Gd t5 true (fun k114 => Bi .neq t111 (.int .i64 0) fun t117 =>
 k114 t117 w112) w112 fun t115 w116 =>
 Pk t5 t115 (.bool false) fun t118 =>
 J14 [t118] w116)))
def S.device_Environment_Set.an : Ann := (.seq .leaf (.seq (.seq .leaf (.cond (.seq .leaf .leaf) .leaf)) (.seq .leaf (.seq (.block (.seq .leaf (.cond (.seq .leaf .leaf) (.seq .leaf (.cond (.seq .leaf .leaf) (.join .leaf [27] [28,29,30,31,32,33,34,35] (.cond (.seq .leaf .leaf) .leaf))))))) (.seq .leaf (.seq .leaf (.join (.seq .leaf (.cond (.draw [[],[0],[0,1],[0,1,2],[],[4],[4,5],[4,5,6],[],[8],[8,9],[8,9,10],[0,1,2,3,4,5,6,7,8,9,10,11],[0,1,2,3,4,5,6,7,8,9,10,11,12],[0,1,2,3,4,5,6,7,8,9,10,11,12,13],[0,1,2,3,4,5,6,7,8,9,10,11,12,13],[0,1,2,3,4,5,6,7,8,9,10,11,12,13],[0,1,2,3,4,5,6,7,8,9,10,11,12,13,14],[0,1,2,3,4,5,6,7,8,9,10,11,12,13,14,15,16,17]] (.calm 0 (.calm 1 (.calm 2 (.calm 3 (.calm 4 (.calm 5 (.calm 6 (.calm 7 (.calm 8 (.calm 9 (.calm 10 (.calm 11 (.eff1 12 [] (.calm 13 (.calm 14 (.calm 15 (.calm 16 (.calm 17 (.calm 18 .done)))))))))))))))))))) (.draw [[],[0],[0,1],[0,1,2],[],[4],[4,5],[4,5,6],[],[0,1,2,3,4,5,6,7,8],[0,1,2,3,4,5,6,7,8,9],[0,1,2,3,4,5,6,7,8,9,10],[0,1,2,3,4,5,6,7,8,9,10],[0,1,2,3,4,5,6,7,8,9,10],[0,1,2,3,4,5,6,7,8,9,10,11],[0,1,2,3,4,5,6,7,8,9,10,11,12,13,14]] (.calm 0 (.calm 1 (.calm 2 (.calm 3 (.calm 4 (.calm 5 (.calm 6 (.calm 7 (.calm 8 (.eff1 9 [] (.calm 10 (.calm 11 (.calm 12 (.calm 13 (.calm 14 (.calm 15 .done))))))))))))))))))) [9,10] [36,37,38,39,40,41,42,43,44,45,46,47,48,49,50,51,52,53,54,55,56,57,58,59,60,61,62,63,64,65,66,67] (.seq (.seq .leaf (.cond (.seq .leaf .leaf) .leaf)) (.seq .dfr (.join (.seq .leaf (.cond (.draw [[],[0],[0,1],[0,1,2],[],[4],[4,5],[4,5,6],[],[8],[8,9],[8,9,10],[],[0,1,2,3,4,5,6,7,8,9,10,11,12],[0,1,2,3,4,5,6,7,8,9,10,11,12,13]] (.calm 0 (.calm 1 (.calm 2 (.calm 3 (.calm 4 (.calm 5 (.calm 6 (.calm 7 (.calm 8 (.calm 9 (.calm 10 (.calm 11 (.calm 12 (.eff1 13 [] (.calm 14 .done)))))))))))))))) .leaf)) [10] [76,77,78,79,80,81,82,83,84,85,86,87,88,89,90] (.join (.join .leaf [96] [91,92,93,94,95] (.cond .leaf .leaf)) [10] [91,92,93,94,95,96,97,98,99,100,101,102,103,104,105,106] (.seq .leaf .leaf))))))))))))
theorem S.device_Environment_Set.eq (a0 a1 a2 : Value) (w : World) (R : Value → World → Prop) : S.device_Environment_Set a0 a1 a2 w R = fnC PP 108 (Tryz.f12.body.getD .skip) S.device_Environment_Set.an [.tmp 6] [a0, a1, a2] w R := by kernel_rfl
theorem S.device_Environment_Set.calls {a0 a1 a2 : Value} {w : World} {R : Value → World → Prop} (h : S.device_Environment_Set a0 a1 a2 w R) : Ca PP Fn.device_Environment_Set #[a0, a1, a2] w R :=
  fnC_calls mixed (f := Fn.device_Environment_Set) (an := S.device_Environment_Set.an) Tryz.func12 rfl (by show _ ≤ _; exact Nat.le_of_ble_eq_true rfl) (S.device_Environment_Set.eq a0 a1 a2 w R ▸ h)
/-- (*acheron/device.Device).Root -/
def S.device_Device_Root (a0 : Value) (w : World) (R : Value → World → Prop) : Prop :=
 Al Ty.api_Qid #[.int .i64 0, .int .i64 0, .int .i64 0] w fun t1 w2 =>
 Rd PP (eqS .eql Ty.p_device_Device (.tmp 3) (.const (.pointer none)) a0 (.pointer none)) w2 fun t3 =>
 Cnd t3 (
 Bd #[.int .i64 0, .int .i64 0, .int .i64 0] [(0, 1), (1, 1), (2, 1)] [] fun t4 =>
 St PP 3 t1 t4 w2 fun w5 =>
 LdA PP 3 t1 w5 fun t6 =>
 R t6 w5) (
 Nc a0 fun t7 =>
 Fa 0 t7 fun t8 =>
 Ld t8 w2 fun t9 =>
 Nc t9 fun t10 =>
 Fa 0 t10 fun t11 =>
 Fa 0 t11 fun t12 =>
 LdA PP 3 t12 w2 fun t13 =>
 St PP 3 t1 t13 w2 fun w14 =>
 LdA PP 3 t1 w14 fun t15 =>
 R t15 w14)
def S.device_Device_Root.an : Ann := (.seq .leaf (.seq (.seq .leaf (.cond (.seq .leaf .leaf) .leaf)) (.seq .leaf .leaf)))
theorem S.device_Device_Root.eq (a0 : Value) (w : World) (R : Value → World → Prop) : S.device_Device_Root a0 w R = fnC PP 14 (Tryz.f13.body.getD .skip) S.device_Device_Root.an [.cell 2 23] [a0] w R := by kernel_rfl
theorem S.device_Device_Root.calls {a0 : Value} {w : World} {R : Value → World → Prop} (h : S.device_Device_Root a0 w R) : Ca PP Fn.device_Device_Root #[a0] w R :=
  fnC_calls mixed (f := Fn.device_Device_Root) (an := S.device_Device_Root.an) Tryz.func13 rfl (by show _ ≤ _; exact Nat.le_of_ble_eq_true rfl) (S.device_Device_Root.eq a0 w R ▸ h)
/-- (*acheron/device.Environment).Get -/
def S.device_Environment_Get (a0 a1 : Value) (w : World) (R : Value → World → Prop) : Prop :=
 Rd PP (eqS .eql Ty.p_device_Environment (.tmp 8) (.const (.pointer none)) a0 (.pointer none)) w fun t1 =>
 Cnd t1 (
 R (.tuple #[(.string ⟨#[]⟩), (.int .i64 6)]) w) (
 Ca PP Fn.device_Environment_find #[a0, a1] w fun t2 w3 =>
 Ex t2 0 fun t4 =>
 Ex t2 1 fun t5 =>
 Al Ty.tree_File #[.string ⟨#[]⟩, .int .i64 0, .int .i64 0, .int .i64 0, .int .i64 0, .int .i64 0, .int .i64 0, .string ⟨#[]⟩, .string ⟨#[]⟩, .string ⟨#[]⟩, .string ⟨#[]⟩, .string ⟨#[]⟩] w3 fun t6 w7 =>
 St PP 12 t6 t4 w7 fun w8 =>
 ∀ J9 : List Value → World → Prop, (∀ t12, ∀ w11 : World, (∀ u10 : Env,
 Cnd t12 (
 R (.tuple #[(.string ⟨#[]⟩), (.int .i64 4)]) w11) (
 Fa 11 t6 fun t13 =>
 Ld t13 w11 fun t14 =>
 R (.tuple #[t14, (.int .i64 0)]) w11)) → J9 [t12] w11) →
 Un .not t5 fun t15 =>
 Gd t15 false (fun k16 => k16 a1 w8) w8 fun t17 w18 =>
 Gd t15 false (fun k19 => Ca PP Fn.tree_Valid #[t17] w18 fun t22 w23 =>
 k19 t22 w23) w18 fun t20 w21 =>
 Gd t15 false (fun k24 => Un .not t20 fun t27 =>
 k24 t27 w21) w21 fun t25 w26 =>
 Pk t15 (.bool true) t25 fun t28 =>
 Gd t28 false (fun k29 => Fa 1 t6 fun t32 =>
 k29 t32 w26) w26 fun t30 w31 =>
 Gd t28 false (fun k33 => Fa 3 t30 fun t36 =>
 k33 t36 w31) w31 fun t34 w35 =>
 Gd t28 false (fun k37 => Ld t34 w35 fun t40 =>
 k37 t40 w35) w35 fun t38 w39 =>
 Gd t28 false (fun k41 => Bi .and t38 (.int .i64 2147483648) fun t44 =>
 k41 t44 w39) w39 fun t42 w43 =>
 Gd t28 false (fun k45 => Bi .neq t42 (.int .i64 0) fun t48 =>
 k45 t48 w43) w43 fun t46 w47 =>
 Pk t28 (.bool true) t46 fun t49 =>
 J9 [t49] w47)
def S.device_Environment_Get.an : Ann := (.seq .leaf (.seq (.seq .leaf (.cond (.seq .leaf .leaf) .leaf)) (.seq .leaf (.seq (.join .leaf [29] [16,17,18,19,20,21,22,23,24,25,26,27,28] (.cond (.seq .leaf .leaf) .leaf)) (.seq .leaf .leaf)))))
theorem S.device_Environment_Get.eq (a0 a1 : Value) (w : World) (R : Value → World → Prop) : S.device_Environment_Get a0 a1 w R = fnC PP 32 (Tryz.f14.body.getD .skip) S.device_Environment_Get.an [.tmp 4, .tmp 5] [a0, a1] w R := by kernel_rfl
theorem S.device_Environment_Get.calls {a0 a1 : Value} {w : World} {R : Value → World → Prop} (h : S.device_Environment_Get a0 a1 w R) : Ca PP Fn.device_Environment_Get #[a0, a1] w R :=
  fnC_calls mixed (f := Fn.device_Environment_Get) (an := S.device_Environment_Get.an) Tryz.func14 rfl (by show _ ≤ _; exact Nat.le_of_ble_eq_true rfl) (S.device_Environment_Get.eq a0 a1 w R ▸ h)
/-- acheron/acheronlaw28.Same -/
def S.law28_Same (a0 a1 : Value) (w : World) (R : Value → World → Prop) : Prop :=
 Al Ty.law28_Answer (a0 : Value).cells w fun t1 w2 =>
 Al Ty.law28_Answer (a1 : Value).cells w2 fun t3 w4 =>
 ∀ J5 : List Value → World → Prop, (∀ t8, ∀ w7 : World, (∀ u6 : Env,
 R t8 w7) → J5 [t8] w7) →
 Fa 0 t1 fun t9 =>
 LdA PP 3 t9 w4 fun t10 =>
 Fa 0 t3 fun t11 =>
 LdA PP 3 t11 w4 fun t12 =>
 Rd PP (eqS .eql Ty.api_Qid (.tmp 6) (.tmp 8) t10 t12) w4 fun t13 =>
 Gd t13 true (fun k14 => Fa 3 t1 fun t17 =>
 k14 t17 w4) w4 fun t15 w16 =>
 Gd t13 true (fun k18 => LdA PP 10 t15 w16 fun t21 =>
 k18 t21 w16) w16 fun t19 w20 =>
 Gd t13 true (fun k22 => Fa 3 t3 fun t25 =>
 k22 t25 w20) w20 fun t23 w24 =>
 Gd t13 true (fun k26 => LdA PP 10 t23 w24 fun t29 =>
 k26 t29 w24) w24 fun t27 w28 =>
 Gd t13 true (fun k30 => Rd PP (eqS .eql Ty.api_Dir (.tmp 12) (.tmp 14) t19 t27) w28 fun t33 =>
 k30 t33 w28) w28 fun t31 w32 =>
 Pk t13 t31 (.bool false) fun t34 =>
 Gd t34 true (fun k35 => Fa 13 t1 fun t38 =>
 k35 t38 w32) w32 fun t36 w37 =>
 Gd t34 true (fun k39 => Ld t36 w37 fun t42 =>
 k39 t42 w37) w37 fun t40 w41 =>
 Gd t34 true (fun k43 => Fa 13 t3 fun t46 =>
 k43 t46 w41) w41 fun t44 w45 =>
 Gd t34 true (fun k47 => Ld t44 w45 fun t50 =>
 k47 t50 w45) w45 fun t48 w49 =>
 Gd t34 true (fun k51 => Bi .eql t40 t48 fun t54 =>
 k51 t54 w49) w49 fun t52 w53 =>
 Pk t34 t52 (.bool false) fun t55 =>
 Gd t55 true (fun k56 => Fa 14 t1 fun t59 =>
 k56 t59 w53) w53 fun t57 w58 =>
 Gd t55 true (fun k60 => Ld t57 w58 fun t63 =>
 k60 t63 w58) w58 fun t61 w62 =>
 Gd t55 true (fun k64 => Fa 14 t3 fun t67 =>
 k64 t67 w62) w62 fun t65 w66 =>
 Gd t55 true (fun k68 => Ld t65 w66 fun t71 =>
 k68 t71 w66) w66 fun t69 w70 =>
 Gd t55 true (fun k72 => Bi .eql t61 t69 fun t75 =>
 k72 t75 w70) w70 fun t73 w74 =>
 Pk t55 t73 (.bool false) fun t76 =>
 Gd t76 true (fun k77 => Fa 16 t1 fun t80 =>
 k77 t80 w74) w74 fun t78 w79 =>
 Gd t76 true (fun k81 => Ld t78 w79 fun t84 =>
 k81 t84 w79) w79 fun t82 w83 =>
 Gd t76 true (fun k85 => Fa 16 t3 fun t88 =>
 k85 t88 w83) w83 fun t86 w87 =>
 Gd t76 true (fun k89 => Ld t86 w87 fun t92 =>
 k89 t92 w87) w87 fun t90 w91 =>
 Gd t76 true (fun k93 => Bi .eql t82 t90 fun t96 =>
 k93 t96 w91) w91 fun t94 w95 =>
 Pk t76 t94 (.bool false) fun t97 =>
 Gd t97 true (fun k98 => Fa 15 t1 fun t101 =>
 k98 t101 w95) w95 fun t99 w100 =>
 Gd t97 true (fun k102 => Ld t99 w100 fun t105 =>
 k102 t105 w100) w100 fun t103 w104 =>
 Gd t97 true (fun k106 => Fa 15 t3 fun t109 =>
 k106 t109 w104) w104 fun t107 w108 =>
 Gd t97 true (fun k110 => Ld t107 w108 fun t113 =>
 k110 t113 w108) w108 fun t111 w112 =>
 Gd t97 true (fun k114 => Ca PP Fn.slices_Equal_sl_api_Dir_api_Dir #[t103, t111] w112 fun t117 w118 =>
 k114 t117 w118) w112 fun t115 w116 =>
 Pk t97 t115 (.bool false) fun t119 =>
 J5 [t119] w116
def S.law28_Same.an : Ann := (.seq .leaf (.join .leaf [4] [5,6,7,8,9,10,11,12,13,14,15,16,17,18,19,20,21,22,23,24,25,26,27,28,29,30,31,32,33,34,35,36,37,38,39,40,41,42,43,44] .leaf))
theorem S.law28_Same.eq (a0 a1 : Value) (w : World) (R : Value → World → Prop) : S.law28_Same a0 a1 w R = fnC PP 45 (Tryz.f15.body.getD .skip) S.law28_Same.an [.tmp 4] [a0, a1] w R := by kernel_rfl
theorem S.law28_Same.calls {a0 a1 : Value} {w : World} {R : Value → World → Prop} (h : S.law28_Same a0 a1 w R) : Ca PP Fn.law28_Same #[a0, a1] w R :=
  fnC_calls mixed (f := Fn.law28_Same) (an := S.law28_Same.an) Tryz.func15 rfl (by show _ ≤ _; exact Nat.le_of_ble_eq_true rfl) (S.law28_Same.eq a0 a1 w R ▸ h)
/-- acheron/acheronlaw33.Do -/
def S.law33_Do (a0 a1 : Value) (w : World) (R : Value → World → Prop) : Prop :=
 Al Ty.law28_Act (a1 : Value).cells w fun t1 w2 =>
 Al Ty.law28_Answer #[.int .i64 0, .int .i64 0, .int .i64 0, .int .i64 0, .int .i64 0, .int .i64 0, .int .i64 0, .int .i64 0, .int .i64 0, .string ⟨#[]⟩, .string ⟨#[]⟩, .string ⟨#[]⟩, .string ⟨#[]⟩, .int .i64 0, .string ⟨#[]⟩, .slice none 0 0, .int .i64 0] w2 fun t3 w4 =>
 Bd #[.int .i64 0, .int .i64 0, .int .i64 0, .int .i64 0, .int .i64 0, .int .i64 0, .int .i64 0, .int .i64 0, .int .i64 0, .string ⟨#[]⟩, .string ⟨#[]⟩, .string ⟨#[]⟩, .string ⟨#[]⟩, .int .i64 0, .string ⟨#[]⟩, .slice none 0 0, .int .i64 0] [(0, 3), (3, 10), (13, 1), (14, 1), (15, 1), (16, 1)] [] fun t5 =>
 Al Ty.law28_Answer #[.int .i64 0, .int .i64 0, .int .i64 0, .int .i64 0, .int .i64 0, .int .i64 0, .int .i64 0, .int .i64 0, .int .i64 0, .string ⟨#[]⟩, .string ⟨#[]⟩, .string ⟨#[]⟩, .string ⟨#[]⟩, .int .i64 0, .string ⟨#[]⟩, .slice none 0 0, .int .i64 0] w4 fun t6 w7 =>
 St PP 17 t6 t5 w7 fun w8 =>
 ∀ J9 : List Value → World → Prop, (∀ w11 : World, (∀ u10 : Env,
 LdA PP 17 t6 w11 fun t12 =>
 St PP 17 t3 t12 w11 fun w13 =>
 LdA PP 17 t3 w13 fun t14 =>
 R t14 w13) → J9 [] w11) →
 Fa 0 t1 fun t15 =>
 Ld t15 w8 fun t16 =>
 Bi .eql t16 (.int .i64 0) fun t17 =>
 Cnd t17 (
 Fa 3 t1 fun t18 =>
 Ld t18 w8 fun t19 =>
 Fa 2 t1 fun t20 =>
 Ld t20 w8 fun t21 =>
 Fa 4 t1 fun t22 =>
 Ld t22 w8 fun t23 =>
 Iv PP a0 "Walk" #[t19, t21, t23] w8 fun t24 w25 =>
 Ex t24 0 fun t26 =>
 Ex t24 1 fun t27 =>
 Fa 0 t6 fun t28 =>
 St PP 3 t28 t26 w25 fun w29 =>
 Fa 16 t6 fun t30 =>
 St PP 1 t30 t27 w29 fun w31 =>
 J9 [] w31) (
 Bi .eql t16 (.int .i64 1) fun t32 =>
 Cnd t32 (
 Fa 3 t1 fun t33 =>
 Ld t33 w8 fun t34 =>
 Fa 2 t1 fun t35 =>
 Ld t35 w8 fun t36 =>
 Iv PP a0 "Stat" #[t34, t36] w8 fun t37 w38 =>
 Ex t37 0 fun t39 =>
 Ex t37 1 fun t40 =>
 Fa 3 t6 fun t41 =>
 St PP 10 t41 t39 w38 fun w42 =>
 Fa 16 t6 fun t43 =>
 St PP 1 t43 t40 w42 fun w44 =>
 J9 [] w44) (
 Bi .eql t16 (.int .i64 2) fun t45 =>
 Cnd t45 (
 Fa 3 t1 fun t46 =>
 Ld t46 w8 fun t47 =>
 Fa 2 t1 fun t48 =>
 Ld t48 w8 fun t49 =>
 Fa 10 t1 fun t50 =>
 LdA PP 10 t50 w8 fun t51 =>
 Iv PP a0 "Wstat" #[t47, t49, t51] w8 fun t52 w53 =>
 Fa 16 t6 fun t54 =>
 St PP 1 t54 t52 w53 fun w55 =>
 J9 [] w55) (
 Bi .eql t16 (.int .i64 3) fun t56 =>
 Cnd t56 (
 Fa 3 t1 fun t57 =>
 Ld t57 w8 fun t58 =>
 Fa 2 t1 fun t59 =>
 Ld t59 w8 fun t60 =>
 Fa 5 t1 fun t61 =>
 Ld t61 w8 fun t62 =>
 Iv PP a0 "Open" #[t58, t60, t62] w8 fun t63 w64 =>
 Ex t63 0 fun t65 =>
 Ex t63 1 fun t66 =>
 Ex t63 2 fun t67 =>
 Fa 13 t6 fun t68 =>
 St PP 1 t68 t65 w64 fun w69 =>
 Fa 0 t6 fun t70 =>
 St PP 3 t70 t66 w69 fun w71 =>
 Fa 16 t6 fun t72 =>
 St PP 1 t72 t67 w71 fun w73 =>
 J9 [] w73) (
 Bi .eql t16 (.int .i64 4) fun t74 =>
 Cnd t74 (
 Fa 3 t1 fun t75 =>
 Ld t75 w8 fun t76 =>
 Fa 2 t1 fun t77 =>
 Ld t77 w8 fun t78 =>
 Fa 4 t1 fun t79 =>
 Ld t79 w8 fun t80 =>
 Fa 6 t1 fun t81 =>
 Ld t81 w8 fun t82 =>
 Fa 5 t1 fun t83 =>
 Ld t83 w8 fun t84 =>
 Iv PP a0 "Create" #[t76, t78, t80, t82, t84] w8 fun t85 w86 =>
 Ex t85 0 fun t87 =>
 Ex t85 1 fun t88 =>
 Ex t85 2 fun t89 =>
 Fa 13 t6 fun t90 =>
 St PP 1 t90 t87 w86 fun w91 =>
 Fa 0 t6 fun t92 =>
 St PP 3 t92 t88 w91 fun w93 =>
 Fa 16 t6 fun t94 =>
 St PP 1 t94 t89 w93 fun w95 =>
 J9 [] w95) (
 Bi .eql t16 (.int .i64 5) fun t96 =>
 Cnd t96 (
 Fa 1 t1 fun t97 =>
 Ld t97 w8 fun t98 =>
 Fa 8 t1 fun t99 =>
 Ld t99 w8 fun t100 =>
 Fa 7 t1 fun t101 =>
 Ld t101 w8 fun t102 =>
 Iv PP a0 "Read" #[t98, t100, t102] w8 fun t103 w104 =>
 Ex t103 0 fun t105 =>
 Ex t103 1 fun t106 =>
 Fa 14 t6 fun t107 =>
 St PP 1 t107 t105 w104 fun w108 =>
 Fa 16 t6 fun t109 =>
 St PP 1 t109 t106 w108 fun w110 =>
 J9 [] w110) (
 Bi .eql t16 (.int .i64 6) fun t111 =>
 Cnd t111 (
 Fa 1 t1 fun t112 =>
 Ld t112 w8 fun t113 =>
 Iv PP a0 "List" #[t113] w8 fun t114 w115 =>
 Ex t114 0 fun t116 =>
 Ex t114 1 fun t117 =>
 Fa 15 t6 fun t118 =>
 St PP 1 t118 t116 w115 fun w119 =>
 Fa 16 t6 fun t120 =>
 St PP 1 t120 t117 w119 fun w121 =>
 J9 [] w121) (
 Bi .eql t16 (.int .i64 7) fun t122 =>
 Cnd t122 (
 Fa 1 t1 fun t123 =>
 Ld t123 w8 fun t124 =>
 Fa 8 t1 fun t125 =>
 Ld t125 w8 fun t126 =>
 Fa 9 t1 fun t127 =>
 Ld t127 w8 fun t128 =>
 Iv PP a0 "Write" #[t124, t126, t128] w8 fun t129 w130 =>
 Ex t129 0 fun t131 =>
 Ex t129 1 fun t132 =>
 Fa 13 t6 fun t133 =>
 St PP 1 t133 t131 w130 fun w134 =>
 Fa 16 t6 fun t135 =>
 St PP 1 t135 t132 w134 fun w136 =>
 J9 [] w136) (
 Bi .eql t16 (.int .i64 8) fun t137 =>
 Cnd t137 (
 Fa 1 t1 fun t138 =>
 Ld t138 w8 fun t139 =>
 Iv PP a0 "Close" #[t139] w8 fun t140 w141 =>
 Fa 16 t6 fun t142 =>
 St PP 1 t142 t140 w141 fun w143 =>
 J9 [] w143) (
 Bi .eql t16 (.int .i64 9) fun t144 =>
 Cnd t144 (
 Fa 3 t1 fun t145 =>
 Ld t145 w8 fun t146 =>
 Fa 2 t1 fun t147 =>
 Ld t147 w8 fun t148 =>
 Iv PP a0 "Remove" #[t146, t148] w8 fun t149 w150 =>
 Fa 16 t6 fun t151 =>
 St PP 1 t151 t149 w150 fun w152 =>
 J9 [] w152) (
 J9 [] w8))))))))))
def S.law33_Do.an : Ann := (.seq .leaf (.seq .leaf (.join (.seq .leaf (.block (.seq .leaf (.cond .leaf (.seq .leaf (.cond .leaf (.seq .leaf (.cond .leaf (.seq .leaf (.cond .leaf (.seq .leaf (.cond .leaf (.seq .leaf (.cond .leaf (.seq .leaf (.cond .leaf (.seq .leaf (.cond .leaf (.seq .leaf (.cond .leaf (.seq .leaf (.cond .leaf .leaf)))))))))))))))))))))) [] [7,8,9,10,11,12,13,14,15,16,17,18,19,20,21,22,23,24,25,26,27,28,29,30,31,32,33,34,35,36,37,38,39,40,41,42,43,44,45,46,47,48,49,50,51,52,53,54,55,56,57,58,59,60,61,62,63,64,65,66,67,68,69,70,71,72,73,74,75,76,77,78,79,80,81,82,83,84,85,86,87,88,89,90,91,92,93,94,95,96,97,98,99,100,101,102,103,104,105,106,107,108,109,110,111,112,113,114,115,116,117,118,119,120,121,122,123,124,125,126,127,128,129,130,131,132,133,134,135,136,137,138,139,140,141,142] (.seq .leaf .leaf))))
theorem S.law33_Do.eq (a0 a1 : Value) (w : World) (R : Value → World → Prop) : S.law33_Do a0 a1 w R = fnC PP 144 (Tryz.f16.body.getD .skip) S.law33_Do.an [.cell 4 54] [a0, a1] w R := by kernel_rfl
theorem S.law33_Do.calls {a0 a1 : Value} {w : World} {R : Value → World → Prop} (h : S.law33_Do a0 a1 w R) : Ca PP Fn.law33_Do #[a0, a1] w R :=
  fnC_calls mixed (f := Fn.law33_Do) (an := S.law33_Do.an) Tryz.func16 rfl (by show _ ≤ _; exact Nat.le_of_ble_eq_true rfl) (S.law33_Do.eq a0 a1 w R ▸ h)
/-- acheron/device.NewConsole -/
def S.device_NewConsole (a0 : Value) (w : World) (R : Value → World → Prop) : Prop :=
 Al Ty.string (a0 : Value).cells w fun t1 w2 =>
 Ld t1 w2 fun t3 =>
 Ca PP Fn.tree_Valid #[t3] w2 fun t4 w5 =>
 Un .not t4 fun t6 =>
 Cnd t6 (
 R (.tuple #[(.pointer none), (.int .i64 8)]) w5) (
 Ld t1 w5 fun t7 =>
 Ca PP Fn.device_newDevice #[t7] w5 fun t8 w9 =>
 Bd #[.pointer none, .slice none 0 0, .slice none 0 0, .slice none 0 0, .bool false, .int .i64 0] [(0, 1), (1, 1), (2, 1), (3, 1), (4, 1), (5, 1)] [(0, t8)] fun t10 =>
 Al Ty.device_Console (t10 : Value).cells w9 fun t11 w12 =>
 Al Ty.p_device_Console #[.pointer none] w12 fun t13 w14 =>
 St PP 1 t13 t11 w14 fun w15 =>
 Dr w15 fun w16 =>
 Ld t13 w16 fun t17 =>
 Nc t17 fun t18 =>
 Fa 0 t18 fun t19 =>
 Ld t19 w16 fun t20 =>
 Ld t13 w16 fun t21 =>
 Nc t21 fun t22 =>
 Fa 0 t22 fun t23 =>
 Ld t23 w16 fun t24 =>
 Nc t24 fun t25 =>
 Fa 0 t25 fun t26 =>
 Ld t26 w16 fun t27 =>
 Ca PP Fn.device_Device_add #[t20, t27, (.int .i64 1), (.string ⟨#[99, 111, 110, 115]⟩), (.int .i64 384)] w16 fun t28 w29 =>
 Dr w29 fun w30 =>
 Ld t13 w30 fun t31 =>
 Ld t13 w30 fun t32 =>
 Nc t28 fun t33 =>
 Fa 13 t33 fun t34 =>
 St PP 1 t34 (.func (.func Fn.device_Console_take) #[t31] #[]) w30 fun w35 =>
 (Ld t13 w35 fun t36 =>
 t36 = t32) ∧
 Nc t28 fun t37 =>
 Fa 14 t37 fun t38 =>
 St PP 1 t38 (.func (.func Fn.device_Console_print) #[t32] #[]) w35 fun w39 =>
 Dr w39 fun w40 =>
 Ld t13 w40 fun t41 =>
 Nc t41 fun t42 =>
 Fa 0 t42 fun t43 =>
 Ld t43 w40 fun t44 =>
 Ld t13 w40 fun t45 =>
 Nc t45 fun t46 =>
 Fa 0 t46 fun t47 =>
 Ld t47 w40 fun t48 =>
 Nc t48 fun t49 =>
 Fa 0 t49 fun t50 =>
 Ld t50 w40 fun t51 =>
 Ld t13 w40 fun t52 =>
 Ca PP Fn.device_Device_add #[t44, t51, (.int .i64 2), (.string ⟨#[99, 111, 110, 115, 99, 116, 108]⟩), (.int .i64 128)] w40 fun t53 w54 =>
 (Ld t13 w54 fun t55 =>
 t55 = t52) ∧
 Nc t53 fun t56 =>
 Fa 14 t56 fun t57 =>
 St PP 1 t57 (.func (.func Fn.device_Console_control) #[t52] #[]) w54 fun w58 =>
 Dr w58 fun w59 =>
 Ld t13 w59 fun t60 =>
 Nc t60 fun t61 =>
 Fa 0 t61 fun t62 =>
 Ld t62 w59 fun t63 =>
 Ld t13 w59 fun t64 =>
 Nc t64 fun t65 =>
 Fa 0 t65 fun t66 =>
 Ld t66 w59 fun t67 =>
 Nc t67 fun t68 =>
 Fa 0 t68 fun t69 =>
 Ld t69 w59 fun t70 =>
 Ca PP Fn.device_Device_add #[t63, t70, (.int .i64 3), (.string ⟨#[117, 115, 101, 114]⟩), (.int .i64 292)] w59 fun t71 w72 =>
 Ca PP Fn.device_file_text #[t71, (.func (.func Fn.device_NewConsole_1) #[] #[t1])] w72 fun t73 w74 =>
 Dr w74 fun w75 =>
 Ld t13 w75 fun t76 =>
 Nc t76 fun t77 =>
 Fa 0 t77 fun t78 =>
 Ld t78 w75 fun t79 =>
 Ld t13 w75 fun t80 =>
 Nc t80 fun t81 =>
 Fa 0 t81 fun t82 =>
 Ld t82 w75 fun t83 =>
 Nc t83 fun t84 =>
 Fa 0 t84 fun t85 =>
 Ld t85 w75 fun t86 =>
 Ca PP Fn.device_Device_add #[t79, t86, (.int .i64 4), (.string ⟨#[116, 105, 109, 101]⟩), (.int .i64 292)] w75 fun t87 w88 =>
 Ca PP Fn.device_file_text #[t87, (.func (.func Fn.device_NewConsole_2) #[] #[t13])] w88 fun t89 w90 =>
 Ld t13 w90 fun t91 =>
 R (.tuple #[t91, (.int .i64 0)]) w90)
def S.device_NewConsole.an : Ann := (.seq .leaf (.seq (.seq .leaf (.cond (.seq .leaf .leaf) .leaf)) (.seq .leaf (.seq (.draw [[],[0],[0,1],[0,1,2],[],[4],[4,5],[4,5,6],[4,5,6,7],[4,5,6,7,8],[4,5,6,7,8,9],[0,1,2,3,4,5,6,7,8,9,10],[0,1,2,3,4,5,6,7,8,9,10,11]] (.calm 0 (.calm 1 (.calm 2 (.calm 3 (.calm 4 (.calm 5 (.calm 6 (.calm 7 (.calm 8 (.calm 9 (.calm 10 (.eff1 11 [] (.calm 12 .done)))))))))))))) (.seq (.draw [[],[],[],[2],[],[4],[0,2,3],[0,2,3,6],[0,2,3,6,7],[0,1,2,3,4,5,6,7,8],[0,1,2,3,4,5,6,7,8,9],[0,1,2,3,4,5,6,7,8,9,10]] (.calm 0 (.calm 1 (.calm 2 (.calm 3 (.calm 4 (.calm 5 (.calm 6 (.calm 7 (.eff1 8 [4] (.calm 9 (.calm 10 (.eff1 11 [] .done))))))))))))) (.seq (.draw [[],[0],[0,1],[0,1,2],[],[4],[4,5],[4,5,6],[4,5,6,7],[4,5,6,7,8],[4,5,6,7,8,9],[0,1,2,3,4,5,6,7,8,9,10],[],[12],[0,1,2,3,4,5,6,7,8,9,10,11,12,13],[0,1,2,3,4,5,6,7,8,9,10,11,12,13,14],[0,1,2,3,4,5,6,7,8,9,10,11,12,13,14,15]] (.calm 0 (.calm 1 (.calm 2 (.calm 3 (.calm 4 (.calm 5 (.calm 6 (.calm 7 (.calm 8 (.calm 9 (.calm 10 (.calm 12 (.calm 13 (.eff1 11 [12] (.calm 14 (.calm 15 (.eff1 16 [] .done)))))))))))))))))) (.seq (.draw [[],[0],[0,1],[0,1,2],[],[4],[4,5],[4,5,6],[4,5,6,7],[4,5,6,7,8],[4,5,6,7,8,9],[0,1,2,3,4,5,6,7,8,9,10],[],[0,1,2,3,4,5,6,7,8,9,10,11,12]] (.calm 0 (.calm 1 (.calm 2 (.calm 3 (.calm 4 (.calm 5 (.calm 6 (.calm 7 (.calm 8 (.calm 9 (.calm 10 (.calm 12 (.eff1 11 [] (.eff1 13 [] .done))))))))))))))) (.seq (.draw [[],[0],[0,1],[0,1,2],[],[4],[4,5],[4,5,6],[4,5,6,7],[4,5,6,7,8],[4,5,6,7,8,9],[0,1,2,3,4,5,6,7,8,9,10],[],[0,1,2,3,4,5,6,7,8,9,10,11,12]] (.calm 0 (.calm 1 (.calm 2 (.calm 3 (.calm 4 (.calm 5 (.calm 6 (.calm 7 (.calm 8 (.calm 9 (.calm 10 (.calm 12 (.eff1 11 [] (.eff1 13 [] .done))))))))))))))) (.seq .leaf .leaf)))))))))
theorem S.device_NewConsole.eq (a0 : Value) (w : World) (R : Value → World → Prop) : S.device_NewConsole a0 w R = fnC PP 80 (Tryz.f17.body.getD .skip) S.device_NewConsole.an [.tmp 2, .tmp 3] [a0] w R := by kernel_rfl
theorem S.device_NewConsole.calls {a0 : Value} {w : World} {R : Value → World → Prop} (h : S.device_NewConsole a0 w R) : Ca PP Fn.device_NewConsole #[a0] w R :=
  fnC_calls mixed (f := Fn.device_NewConsole) (an := S.device_NewConsole.an) Tryz.func17 rfl (by show _ ≤ _; exact Nat.le_of_ble_eq_true rfl) (S.device_NewConsole.eq a0 w R ▸ h)
/-- (*acheron/device.Device).Open -/
def S.device_Device_Open (a0 a1 a2 a3 : Value) (w : World) (R : Value → World → Prop) : Prop :=
 Al Ty.api_Qid #[.int .i64 0, .int .i64 0, .int .i64 0] w fun t1 w2 =>
 ∀ J3 : List Value → World → Prop, (∀ t6, ∀ w5 : World, (∀ u4 : Env,
 Cnd t6 (
 Bd #[.int .i64 0, .int .i64 0, .int .i64 0] [(0, 1), (1, 1), (2, 1)] [] fun t7 =>
 St PP 3 t1 t7 w5 fun w8 =>
 LdA PP 3 t1 w8 fun t9 =>
 R (.tuple #[(.int .i64 0), t9, (.int .i64 20)]) w8) (
 Ca PP Fn.device_Device_find #[a0, a2] w5 fun t10 w11 =>
 Ex t10 0 fun t12 =>
 Ex t10 1 fun t13 =>
 Bi .neq t13 (.int .i64 0) fun t14 =>
 Cnd t14 (
 Bd #[.int .i64 0, .int .i64 0, .int .i64 0] [(0, 1), (1, 1), (2, 1)] [] fun t15 =>
 St PP 3 t1 t15 w11 fun w16 =>
 LdA PP 3 t1 w16 fun t17 =>
 R (.tuple #[(.int .i64 0), t17, t13]) w16) (
 BdA #[.int .i64 0, .int .i64 0, .int .i64 0, .int .i64 0] 1 [(0, (.int .i64 4)), (1, (.int .i64 2)), (2, (.int .i64 6)), (3, (.int .i64 1))] fun t18 =>
 Bi .and a3 (.int .i64 3) fun t19 =>
 Rd PP (Instr.index Ty.f_4_int t18 t19) w11 fun t20 =>
 ∀ J21 : List Value → World → Prop, (∀ t24, ∀ w23 : World, (∀ u22 : Env,
 ∀ J25 : List Value → World → Prop, (∀ t28, ∀ w27 : World, (∀ u26 : Env,
 Cnd t28 (
 Bd #[.int .i64 0, .int .i64 0, .int .i64 0] [(0, 1), (1, 1), (2, 1)] [] fun t29 =>
 St PP 3 t1 t29 w27 fun w30 =>
 LdA PP 3 t1 w30 fun t31 =>
 R (.tuple #[(.int .i64 0), t31, (.int .i64 18)]) w30) (
 ∀ J32 : List Value → World → Prop, (∀ t35, ∀ w34 : World, (∀ u33 : Env,
 Cnd t35 (
 Bd #[.int .i64 0, .int .i64 0, .int .i64 0] [(0, 1), (1, 1), (2, 1)] [] fun t36 =>
 St PP 3 t1 t36 w34 fun w37 =>
 LdA PP 3 t1 w37 fun t38 =>
 R (.tuple #[(.int .i64 0), t38, (.int .i64 17)]) w37) (
 Nc a0 fun t39 =>
 Fa 2 t39 fun t40 =>
 Ld t40 w34 fun t41 =>
 Rd PP (Builtin.len_ #[Ty.map_int_device_handle] Ty.int #[t41]) w34 fun t42 =>
 Bi .geq t42 (.int .i64 64) fun t43 =>
 Cnd t43 (
 Bd #[.int .i64 0, .int .i64 0, .int .i64 0] [(0, 1), (1, 1), (2, 1)] [] fun t44 =>
 St PP 3 t1 t44 w34 fun w45 =>
 LdA PP 3 t1 w45 fun t46 =>
 R (.tuple #[(.int .i64 0), t46, (.int .i64 3)]) w45) (
 ∃ (I47 : List Value → World → Prop) (m48 : List Value → World → Nat), I47 [(.int .i64 1)] w34 ∧ ∀ t51, ∀ (u49 : Env) (w50 : World), I47 [t51] w50 →
 Nc a0 fun t52 =>
 Fa 2 t52 fun t53 =>
 Ld t53 w50 fun t54 =>
 Rd PP (Instr.lookup Ty.map_int_device_handle t54 t51 false) w50 fun t55 =>
 Fi 0 t55 fun t56 =>
 Rd PP (eqS .neq Ty.p_device_file (.tmp 76) (.const (.pointer none)) t56 (.pointer none)) w50 fun t57 =>
 Cnd t57 (
 Bi .add t51 (.int .i64 1) fun t58 =>
 I47 [t58] w50 ∧ m48 [t58] w50 < m48 [t51] w50) (
 Nc a0 fun t59 =>
 Fa 2 t59 fun t60 =>
 Ld t60 w50 fun t61 =>
 Bd #[.pointer none, .int .i64 0] [(0, 1), (1, 1)] [(0, t12), (1, a3)] fun t62 =>
 Ef PP (Instr.mapUpdate Ty.map_int_device_handle t61 t51 t62) w50 fun _ w63 =>
 Dr w63 fun w64 =>
 Nc t12 fun t65 =>
 Fa 0 t65 fun t66 =>
 Fa 0 t66 fun t67 =>
 LdA PP 3 t67 w64 fun t68 =>
 St PP 3 t1 t68 w64 fun w69 =>
 LdA PP 3 t1 w69 fun t70 =>
 R (.tuple #[t51, t70, (.int .i64 0)]) w69)))) → J32 [t35] w34) →
 Ca PP Fn.device_file_may #[t12, a1, t24] w27 fun t71 w72 =>
 Un .not t71 fun t73 =>
 Gd t73 false (fun k74 => k74 a3 w72) w72 fun t75 w76 =>
 Gd t73 false (fun k77 => Bi .and t75 (.int .i64 64) fun t80 =>
 k77 t80 w76) w76 fun t78 w79 =>
 Gd t73 false (fun k81 => Bi .neq t78 (.int .i64 0) fun t84 =>
 k81 t84 w79) w79 fun t82 w83 =>
 Pk t73 (.bool true) t82 fun t85 =>
 J32 [t85] w83)) → J25 [t28] w27) →
 Ca PP Fn.device_file_isDir #[t12] w23 fun t86 w87 =>
 Gd t86 true (fun k88 => k88 a3 w87) w87 fun t89 w90 =>
 Gd t86 true (fun k91 => Bi .neq t89 (.int .i64 0) fun t94 =>
 k91 t94 w90) w90 fun t92 w93 =>
 Pk t86 t92 (.bool false) fun t95 =>
 J25 [t95] w93) → J21 [t24] w23) →
 Bi .and a3 (.int .i64 16) fun t96 =>
 Bi .neq t96 (.int .i64 0) fun t97 =>
 Cnd t97 (
 Bi .or t20 (.int .i64 2) fun t98 =>
 J21 [t98] w11) (
 J21 [t20] w11)))) → J3 [t6] w5) →
 Rd PP (eqS .neq Ty.p_device_Device (.tmp 15) (.const (.pointer none)) a0 (.pointer none)) w2 fun t99 =>
 Gd t99 true (fun k100 => k100 a3 w2) w2 fun t101 w102 =>
 Gd t99 true (fun k103 => Bi .andNot t101 (.int .i64 83) fun t106 =>
 k103 t106 w102) w102 fun t104 w105 =>
 Gd t99 true (fun k107 => Bi .neq t104 (.int .i64 0) fun t110 =>
 k107 t110 w105) w105 fun t108 w109 =>
 Pk t99 t108 (.bool false) fun t111 =>
 J3 [t111] w109
def S.device_Device_Open.an : Ann := (.seq .leaf (.seq (.join .leaf [21] [15,16,17,18,19,20] (.cond (.seq .leaf .leaf) .leaf)) (.seq .leaf (.seq (.seq .leaf (.cond (.seq .leaf .leaf) .leaf)) (.seq .leaf (.join (.seq .leaf (.cond .leaf .leaf)) [13] [37,38,39,40,41] (.seq (.block (.join .leaf [42] [43,44,45,46,47,48] (.cond (.seq .leaf .leaf) (.join .leaf [50] [51,52,53,54,55,56,57,58,59,60] (.cond (.seq .leaf .leaf) (.seq .leaf (.cond (.seq .leaf .leaf) .leaf))))))) (.seq .leaf (.seq (.block (.loop (.seq (.seq .leaf (.cond .leaf .leaf)) (.seq (.block .leaf) .leaf)) [14] [70,71,72,73,74,75,76,77,78,79])) (.seq .leaf (.seq (.draw [[],[],[1],[1,2],[1,2,3],[1,2,3,4],[0],[0,1,2,3,4,5,6],[0,1,2,3,4,5,6,7]] (.calm 0 (.calm 1 (.calm 2 (.calm 3 (.calm 4 (.calm 5 (.calm 6 (.eff1 7 [] (.calm 8 .done)))))))))) .leaf)))))))))))
theorem S.device_Device_Open.eq (a0 a1 a2 a3 : Value) (w : World) (R : Value → World → Prop) : S.device_Device_Open a0 a1 a2 a3 w R = fnC PP 94 (Tryz.f18.body.getD .skip) S.device_Device_Open.an [.tmp 8, .cell 9 23, .tmp 10] [a0, a1, a2, a3] w R := by kernel_rfl
theorem S.device_Device_Open.calls {a0 a1 a2 a3 : Value} {w : World} {R : Value → World → Prop} (h : S.device_Device_Open a0 a1 a2 a3 w R) : Ca PP Fn.device_Device_Open #[a0, a1, a2, a3] w R :=
  fnC_calls mixed (f := Fn.device_Device_Open) (an := S.device_Device_Open.an) Tryz.func18 rfl (by show _ ≤ _; exact Nat.le_of_ble_eq_true rfl) (S.device_Device_Open.eq a0 a1 a2 a3 w R ▸ h)
/-- (*acheron/device.Device).Read -/
def S.device_Device_Read (a0 a1 a2 a3 : Value) (w : World) (R : Value → World → Prop) : Prop :=
 Ca PP Fn.device_Device_opened #[a0, a1] w fun t1 w2 =>
 Ex t1 0 fun t3 =>
 Ex t1 1 fun t4 =>
 Al Ty.device_handle #[.pointer none, .int .i64 0] w2 fun t5 w6 =>
 St PP 2 t5 t3 w6 fun w7 =>
 Bi .neq t4 (.int .i64 0) fun t8 =>
 Cnd t8 (
 R (.tuple #[(.string ⟨#[]⟩), t4]) w7) (
 Fa 1 t5 fun t9 =>
 Ld t9 w7 fun t10 =>
 Bi .and t10 (.int .i64 3) fun t11 =>
 Bi .eql t11 (.int .i64 1) fun t12 =>
 Cnd t12 (
 R (.tuple #[(.string ⟨#[]⟩), (.int .i64 20)]) w7) (
 Fa 0 t5 fun t13 =>
 Ld t13 w7 fun t14 =>
 Nc t14 fun t15 =>
 Fa 12 t15 fun t16 =>
 Ld t16 w7 fun t17 =>
 Cnd t17 (
 R (.tuple #[(.string ⟨#[]⟩), (.int .i64 4)]) w7) (
 Fa 0 t5 fun t18 =>
 Ld t18 w7 fun t19 =>
 Ca PP Fn.device_file_isDir #[t19] w7 fun t20 w21 =>
 Cnd t20 (
 R (.tuple #[(.string ⟨#[]⟩), (.int .i64 18)]) w21) (
 ∀ J22 : List Value → World → Prop, (∀ t25, ∀ w24 : World, (∀ u23 : Env,
 Cnd t25 (
 R (.tuple #[(.string ⟨#[]⟩), (.int .i64 11)]) w24) (
 Fa 0 t5 fun t26 =>
 Ld t26 w24 fun t27 =>
 Nc t27 fun t28 =>
 Fa 13 t28 fun t29 =>
 Ld t29 w24 fun t30 =>
 CaV PP t30 #[a2, a3] w24 fun t31 w32 =>
 Ex t31 0 fun t33 =>
 Ex t31 1 fun t34 =>
 R (.tuple #[t33, t34]) w32)) → J22 [t25] w24) →
 Bi .lss a2 (.int .i64 0) fun t35 =>
 Gd t35 false (fun k36 => k36 a3 w21) w21 fun t37 w38 =>
 Gd t35 false (fun k39 => Bi .lss t37 (.int .i64 0) fun t42 =>
 k39 t42 w38) w38 fun t40 w41 =>
 Pk t35 (.bool true) t40 fun t43 =>
 J22 [t43] w41))))
def S.device_Device_Read.an : Ann := (.seq .leaf (.seq .leaf (.seq (.block (.seq .leaf (.cond (.seq .leaf .leaf) (.seq .leaf (.cond (.seq .leaf .leaf) (.seq .leaf (.cond (.seq .leaf .leaf) (.seq .leaf (.cond (.seq .leaf .leaf) (.join .leaf [37] [38,39,40,41,42,43] (.cond (.seq .leaf .leaf) .leaf))))))))))) (.seq .leaf .leaf))))
theorem S.device_Device_Read.eq (a0 a1 a2 a3 : Value) (w : World) (R : Value → World → Prop) : S.device_Device_Read a0 a1 a2 a3 w R = fnC PP 54 (Tryz.f19.body.getD .skip) S.device_Device_Read.an [.tmp 8, .tmp 9] [a0, a1, a2, a3] w R := by kernel_rfl
theorem S.device_Device_Read.calls {a0 a1 a2 a3 : Value} {w : World} {R : Value → World → Prop} (h : S.device_Device_Read a0 a1 a2 a3 w R) : Ca PP Fn.device_Device_Read #[a0, a1, a2, a3] w R :=
  fnC_calls mixed (f := Fn.device_Device_Read) (an := S.device_Device_Read.an) Tryz.func19 rfl (by show _ ≤ _; exact Nat.le_of_ble_eq_true rfl) (S.device_Device_Read.eq a0 a1 a2 a3 w R ▸ h)
/-- slices.ContainsFunc[[]acheron/acheronlaw30.Act,acheron/acheronlaw30.Act] -/
def S.slices_ContainsFunc_sl_law30_Act_law30_Act (a0 a1 : Value) (w : World) (R : Value → World → Prop) : Prop :=
 Ca PP Fn.slices_IndexFunc_sl_law30_Act_law30_Act #[a0, a1] w fun t1 w2 =>
 Bi .geq t1 (.int .i64 0) fun t3 =>
 R t3 w2
def S.slices_ContainsFunc_sl_law30_Act_law30_Act.an : Ann := (.seq .leaf (.seq .leaf .leaf))
theorem S.slices_ContainsFunc_sl_law30_Act_law30_Act.eq (a0 a1 : Value) (w : World) (R : Value → World → Prop) : S.slices_ContainsFunc_sl_law30_Act_law30_Act a0 a1 w R = fnC PP 9 (Tryz.f20.body.getD .skip) S.slices_ContainsFunc_sl_law30_Act_law30_Act.an [.tmp 4] [a0, a1] w R := by kernel_rfl
theorem S.slices_ContainsFunc_sl_law30_Act_law30_Act.calls {a0 a1 : Value} {w : World} {R : Value → World → Prop} (h : S.slices_ContainsFunc_sl_law30_Act_law30_Act a0 a1 w R) : Ca PP Fn.slices_ContainsFunc_sl_law30_Act_law30_Act #[a0, a1] w R :=
  fnC_calls mixed (f := Fn.slices_ContainsFunc_sl_law30_Act_law30_Act) (an := S.slices_ContainsFunc_sl_law30_Act_law30_Act.an) Tryz.func20 rfl (by show _ ≤ _; exact Nat.le_of_ble_eq_true rfl) (S.slices_ContainsFunc_sl_law30_Act_law30_Act.eq a0 a1 w R ▸ h)
/-- acheron/acheronlaw30.Few$1 -/
def S.law30_Few_1 (a0 : Value) (w : World) (R : Value → World → Prop) : Prop :=
 Al Ty.law30_Act (a0 : Value).cells w fun t1 w2 =>
 ∀ J3 : List Value → World → Prop, (∀ t6, ∀ w5 : World, (∀ u4 : Env,
 R t6 w5) → J3 [t6] w5) →
 Fa 1 t1 fun t7 =>
 Fa 9 t7 fun t8 =>
 Ld t8 w2 fun t9 =>
 LnS t9 fun t10 =>
 Fa 1 t1 fun t11 =>
 Fa 4 t11 fun t12 =>
 Ld t12 w2 fun t13 =>
 LnS t13 fun t14 =>
 Bi .add t10 t14 fun t15 =>
 Fa 21 t1 fun t16 =>
 Ld t16 w2 fun t17 =>
 LnS t17 fun t18 =>
 Bi .add t15 t18 fun t19 =>
 Fa 1 t1 fun t20 =>
 Fa 3 t20 fun t21 =>
 Ld t21 w2 fun t22 =>
 LnS t22 fun t23 =>
 Bi .add t19 t23 fun t24 =>
 Bi .gtr t24 (.int .i64 9000) fun t25 =>
 Gd t25 false (fun k26 => Fa 23 t1 fun t29 =>
 k26 t29 w2) w2 fun t27 w28 =>
 Gd t25 false (fun k30 => Ld t27 w28 fun t33 =>
 k30 t33 w28) w28 fun t31 w32 =>
 Gd t25 false (fun k34 => LnL t31 fun t37 =>
 k34 t37 w32) w32 fun t35 w36 =>
 Gd t25 false (fun k38 => Bi .gtr t35 (.int .i64 70) fun t41 =>
 k38 t41 w36) w36 fun t39 w40 =>
 Pk t25 (.bool true) t39 fun t42 =>
 Gd t42 false (fun k43 => Fa 1 t1 fun t46 =>
 k43 t46 w40) w40 fun t44 w45 =>
 Gd t42 false (fun k47 => Fa 7 t44 fun t50 =>
 k47 t50 w45) w45 fun t48 w49 =>
 Gd t42 false (fun k51 => Ld t48 w49 fun t54 =>
 k51 t54 w49) w49 fun t52 w53 =>
 Gd t42 false (fun k55 => Bi .gtr t52 (.int .i64 20000) fun t58 =>
 k55 t58 w53) w53 fun t56 w57 =>
 Pk t42 (.bool true) t56 fun t59 =>
 Gd t59 false (fun k60 => Fa 23 t1 fun t63 =>
 k60 t63 w57) w57 fun t61 w62 =>
 Gd t59 false (fun k64 => Ld t61 w62 fun t67 =>
 k64 t67 w62) w62 fun t65 w66 =>
 Gd t59 false (fun k68 => Ca PP Fn.slices_ContainsFunc_sl_api_Proc_api_Proc #[t65, (.func (.func Fn.law30_Few_1_1) #[] #[])] w66 fun t71 w72 =>
 k68 t71 w72) w66 fun t69 w70 =>
 Pk t59 (.bool true) t69 fun t73 =>
 J3 [t73] w70
def S.law30_Few_1.an : Ann := (.seq .leaf (.join .leaf [2] [3,4,5,6,7,8,9,10,11,12,13,14,15,16,17,18,19,20,21,22,23,24,25,26,27,28,29,30,31,32,33,34,35,36,37,38] .leaf))
theorem S.law30_Few_1.eq (a0 : Value) (w : World) (R : Value → World → Prop) : S.law30_Few_1 a0 w R = fnC PP 39 (Tryz.f21.body.getD .skip) S.law30_Few_1.an [.tmp 2] [a0] w R := by kernel_rfl
theorem S.law30_Few_1.calls {a0 : Value} {w : World} {R : Value → World → Prop} (h : S.law30_Few_1 a0 w R) : Ca PP Fn.law30_Few_1 #[a0] w R :=
  fnC_calls mixed (f := Fn.law30_Few_1) (an := S.law30_Few_1.an) Tryz.func21 rfl (by show _ ≤ _; exact Nat.le_of_ble_eq_true rfl) (S.law30_Few_1.eq a0 w R ▸ h)
/-- slices.ContainsFunc[[]acheron/api.Proc,acheron/api.Proc] -/
def S.slices_ContainsFunc_sl_api_Proc_api_Proc (a0 a1 : Value) (w : World) (R : Value → World → Prop) : Prop :=
 Ca PP Fn.slices_IndexFunc_sl_api_Proc_api_Proc #[a0, a1] w fun t1 w2 =>
 Bi .geq t1 (.int .i64 0) fun t3 =>
 R t3 w2
def S.slices_ContainsFunc_sl_api_Proc_api_Proc.an : Ann := (.seq .leaf (.seq .leaf .leaf))
theorem S.slices_ContainsFunc_sl_api_Proc_api_Proc.eq (a0 a1 : Value) (w : World) (R : Value → World → Prop) : S.slices_ContainsFunc_sl_api_Proc_api_Proc a0 a1 w R = fnC PP 9 (Tryz.f22.body.getD .skip) S.slices_ContainsFunc_sl_api_Proc_api_Proc.an [.tmp 4] [a0, a1] w R := by kernel_rfl
theorem S.slices_ContainsFunc_sl_api_Proc_api_Proc.calls {a0 a1 : Value} {w : World} {R : Value → World → Prop} (h : S.slices_ContainsFunc_sl_api_Proc_api_Proc a0 a1 w R) : Ca PP Fn.slices_ContainsFunc_sl_api_Proc_api_Proc #[a0, a1] w R :=
  fnC_calls mixed (f := Fn.slices_ContainsFunc_sl_api_Proc_api_Proc) (an := S.slices_ContainsFunc_sl_api_Proc_api_Proc.an) Tryz.func22 rfl (by show _ ≤ _; exact Nat.le_of_ble_eq_true rfl) (S.slices_ContainsFunc_sl_api_Proc_api_Proc.eq a0 a1 w R ▸ h)
/-- acheron/acheronlaw30.Few$1$1 -/
def S.law30_Few_1_1 (a0 : Value) (w : World) (R : Value → World → Prop) : Prop :=
 Al Ty.api_Proc (a0 : Value).cells w fun t1 w2 =>
 Fa 3 t1 fun t3 =>
 Ld t3 w2 fun t4 =>
 LnS t4 fun t5 =>
 Bi .gtr t5 (.int .i64 300) fun t6 =>
 R t6 w2
def S.law30_Few_1_1.an : Ann := (.seq .leaf (.seq .leaf .leaf))
theorem S.law30_Few_1_1.eq (a0 : Value) (w : World) (R : Value → World → Prop) : S.law30_Few_1_1 a0 w R = fnC PP 7 (Tryz.f23.body.getD .skip) S.law30_Few_1_1.an [.tmp 2] [a0] w R := by kernel_rfl
theorem S.law30_Few_1_1.calls {a0 : Value} {w : World} {R : Value → World → Prop} (h : S.law30_Few_1_1 a0 w R) : Ca PP Fn.law30_Few_1_1 #[a0] w R :=
  fnC_calls mixed (f := Fn.law30_Few_1_1) (an := S.law30_Few_1_1.an) Tryz.func23 rfl (by show _ ≤ _; exact Nat.le_of_ble_eq_true rfl) (S.law30_Few_1_1.eq a0 w R ▸ h)
/-- (*acheron/device.Console).block -/
def S.device_Console_block (a0 a1 : Value) (w : World) (R : Value → World → Prop) : Prop :=
 Nc a0 fun t1 =>
 Fa 2 t1 fun t2 =>
 Ld t2 w fun t3 =>
 LnL t3 fun t4 =>
 Bi .lss t4 (.int .i64 64) fun t5 =>
 Cnd t5 (
 Nc a0 fun t6 =>
 Fa 2 t6 fun t7 =>
 Ld t7 w fun t8 =>
 Ef PP (Instr.buildSlice Ty.sl_string 1 #[(0, a1)]) w fun t9 w10 =>
 Ef PP (Builtin.append_ #[Ty.sl_string, Ty.sl_string] Ty.sl_string #[t8, t9]) w10 fun t11 w12 =>
 Nc a0 fun t13 =>
 Fa 2 t13 fun t14 =>
 St PP 1 t14 t11 w12 fun w15 =>
 R (.tuple #[]) w15) (
 R (.tuple #[]) w)
def S.device_Console_block.an : Ann := (.seq .leaf (.cond .leaf .leaf))
theorem S.device_Console_block.eq (a0 a1 : Value) (w : World) (R : Value → World → Prop) : S.device_Console_block a0 a1 w R = fnC PP 20 (Tryz.f24.body.getD .skip) S.device_Console_block.an [] [a0, a1] w R := by kernel_rfl
theorem S.device_Console_block.calls {a0 a1 : Value} {w : World} {R : Value → World → Prop} (h : S.device_Console_block a0 a1 w R) : Ca PP Fn.device_Console_block #[a0, a1] w R :=
  fnC_calls mixed (f := Fn.device_Console_block) (an := S.device_Console_block.an) Tryz.func24 rfl (by show _ ≤ _; exact Nat.le_of_ble_eq_true rfl) (S.device_Console_block.eq a0 a1 w R ▸ h)
/-- (*acheron/device.Console).end -/
def S.device_Console_end (a0 a1 : Value) (w : World) (R : Value → World → Prop) : Prop :=
 Nc a0 fun t1 =>
 Fa 1 t1 fun t2 =>
 Ld t2 w fun t3 =>
 Ef PP (Builtin.append_ #[Ty.sl_uint8, Ty.sl_uint8] Ty.sl_uint8 #[t3, a1]) w fun t4 w5 =>
 Rd PP (convert Ty.sl_uint8 Ty.string t4) w5 fun t6 =>
 Ca PP Fn.device_Console_block #[a0, t6] w5 fun t7 w8 =>
 Nc a0 fun t9 =>
 Fa 1 t9 fun t10 =>
 St PP 1 t10 (.slice none 0 0) w8 fun w11 =>
 R (.tuple #[]) w11
def S.device_Console_end.an : Ann := (.seq .leaf .leaf)
theorem S.device_Console_end.eq (a0 a1 : Value) (w : World) (R : Value → World → Prop) : S.device_Console_end a0 a1 w R = fnC PP 16 (Tryz.f25.body.getD .skip) S.device_Console_end.an [] [a0, a1] w R := by kernel_rfl
theorem S.device_Console_end.calls {a0 a1 : Value} {w : World} {R : Value → World → Prop} (h : S.device_Console_end a0 a1 w R) : Ca PP Fn.device_Console_end #[a0, a1] w R :=
  fnC_calls mixed (f := Fn.device_Console_end) (an := S.device_Console_end.an) Tryz.func25 rfl (by show _ ≤ _; exact Nat.le_of_ble_eq_true rfl) (S.device_Console_end.eq a0 a1 w R ▸ h)
/-- (*acheron/device.Device).add -/
def S.device_Device_add (a0 a1 a2 a3 a4 : Value) (w : World) (R : Value → World → Prop) : Prop :=
 Nc a0 fun t1 =>
 Fa 0 t1 fun t2 =>
 Ld t2 w fun t3 =>
 Nc t3 fun t4 =>
 Fa 0 t4 fun t5 =>
 Fa 7 t5 fun t6 =>
 Ld t6 w fun t7 =>
 Bd #[.int .i64 0, .int .i64 0, .int .i64 0] [(0, 1), (1, 1), (2, 1)] [(2, a2)] fun t8 =>
 Bd #[.int .i64 0, .int .i64 0, .int .i64 0, .int .i64 0, .int .i64 0, .int .i64 0, .string ⟨#[]⟩, .string ⟨#[]⟩, .string ⟨#[]⟩, .string ⟨#[]⟩] [(0, 3), (3, 1), (4, 1), (5, 1), (6, 1), (7, 1), (8, 1), (9, 1)] [(0, t8), (4, a3), (5, t7), (6, t7), (7, t7)] fun t9 =>
 Bd #[.int .i64 0, .int .i64 0, .int .i64 0, .int .i64 0, .int .i64 0, .int .i64 0, .string ⟨#[]⟩, .string ⟨#[]⟩, .string ⟨#[]⟩, .string ⟨#[]⟩, .pointer none, .map none, .bool false, .nilFunc, .nilFunc, .nilFunc] [(0, 10), (10, 1), (11, 1), (12, 1), (13, 1), (14, 1), (15, 1)] [(0, t9), (1, a1)] fun t10 =>
 Al Ty.device_file (t10 : Value).cells w fun t11 w12 =>
 Ca PP Fn.device_file_become #[t11, a4] w12 fun t13 w14 =>
 Nc a1 fun t15 =>
 Fa 11 t15 fun t16 =>
 Ld t16 w14 fun t17 =>
 Ef PP (Instr.mapUpdate Ty.map_string_p_device_file t17 a3 t11) w14 fun _ w18 =>
 Nc a0 fun t19 =>
 Fa 1 t19 fun t20 =>
 Ld t20 w18 fun t21 =>
 Ef PP (Instr.mapUpdate Ty.map_int64_p_device_file t21 a2 t11) w18 fun _ w22 =>
 R t11 w22
def S.device_Device_add.an : Ann := (.seq .leaf (.seq .leaf (.seq .leaf (.seq .leaf (.seq .leaf (.seq .leaf (.seq .leaf .leaf)))))))
theorem S.device_Device_add.eq (a0 a1 a2 a3 a4 : Value) (w : World) (R : Value → World → Prop) : S.device_Device_add a0 a1 a2 a3 a4 w R = fnC PP 47 (Tryz.f28.body.getD .skip) S.device_Device_add.an [.tmp 10] [a0, a1, a2, a3, a4] w R := by kernel_rfl
theorem S.device_Device_add.calls {a0 a1 a2 a3 a4 : Value} {w : World} {R : Value → World → Prop} (h : S.device_Device_add a0 a1 a2 a3 a4 w R) : Ca PP Fn.device_Device_add #[a0, a1, a2, a3, a4] w R :=
  fnC_calls mixed (f := Fn.device_Device_add) (an := S.device_Device_add.an) Tryz.func28 rfl (by show _ ≤ _; exact Nat.le_of_ble_eq_true rfl) (S.device_Device_add.eq a0 a1 a2 a3 a4 w R ▸ h)
/-- (*acheron/device.file).text -/
def S.device_file_text (a0 a1 : Value) (w : World) (R : Value → World → Prop) : Prop :=
 Al Ty.func_string_1 (a1 : Value).cells w fun t1 w2 =>
 Nc a0 fun t3 =>
 Fa 13 t3 fun t4 =>
 St PP 1 t4 (.func (.func Fn.device_file_text_1) #[] #[t1]) w2 fun w5 =>
 R (.tuple #[]) w5
def S.device_file_text.an : Ann := (.seq .leaf .leaf)
theorem S.device_file_text.eq (a0 a1 : Value) (w : World) (R : Value → World → Prop) : S.device_file_text a0 a1 w R = fnC PP 8 (Tryz.f30.body.getD .skip) S.device_file_text.an [] [a0, a1] w R := by kernel_rfl
theorem S.device_file_text.calls {a0 a1 : Value} {w : World} {R : Value → World → Prop} (h : S.device_file_text a0 a1 w R) : Ca PP Fn.device_file_text #[a0, a1] w R :=
  fnC_calls mixed (f := Fn.device_file_text) (an := S.device_file_text.an) Tryz.func30 rfl (by show _ ≤ _; exact Nat.le_of_ble_eq_true rfl) (S.device_file_text.eq a0 a1 w R ▸ h)
/-- acheron/tree.Valid -/
def S.tree_Valid (a0 : Value) (w : World) (R : Value → World → Prop) : Prop :=
 LnS a0 fun t1 =>
 ∃ (I2 : List Value → World → Prop) (m3 : List Value → World → Nat), I2 [(.int .i64 0)] w ∧ ∀ t6, ∀ (u4 : Env) (w5 : World), I2 [t6] w5 →
 Bi .lss t6 t1 fun t7 =>
 Cnd t7 (
 IxS a0 t6 fun t8 =>
 ∀ J9 : List Value → World → Prop, (∀ t12, ∀ w11 : World, (∀ u10 : Env,
 Cnd t12 (
 R (.bool false) w11) (
 Bi .add t6 (.int .i64 1) fun t13 =>
 I2 [t13] w11 ∧ m3 [t13] w11 < m3 [t6] w5)) → J9 [t12] w11) →
 Bi .lss t8 (.int .u8 33) fun t14 =>
 Gd t14 false (fun k15 => k15 t8 w5) w5 fun t16 w17 =>
 Gd t14 false (fun k18 => Bi .gtr t16 (.int .u8 126) fun t21 =>
 k18 t21 w17) w17 fun t19 w20 =>
 Pk t14 (.bool true) t19 fun t22 =>
 Gd t22 false (fun k23 => k23 t8 w20) w20 fun t24 w25 =>
 Gd t22 false (fun k26 => Bi .eql t24 (.int .u8 47) fun t29 =>
 k26 t29 w25) w25 fun t27 w28 =>
 Pk t22 (.bool true) t27 fun t30 =>
 J9 [t30] w28) (
 ∀ J31 : List Value → World → Prop, (∀ t34, ∀ w33 : World, (∀ u32 : Env,
 R t34 w33) → J31 [t34] w33) →
 Bi .neq a0 (.string ⟨#[]⟩) fun t35 =>
 Gd t35 true (fun k36 => k36 a0 w5) w5 fun t37 w38 =>
 Gd t35 true (fun k39 => LnS t37 fun t42 =>
 k39 t42 w38) w38 fun t40 w41 =>
 Gd t35 true (fun k43 => Bi .leq t40 (.int .i64 40) fun t46 =>
 k43 t46 w41) w41 fun t44 w45 =>
 Pk t35 t44 (.bool false) fun t47 =>
 Gd t47 true (fun k48 => k48 a0 w45) w45 fun t49 w50 =>
 Gd t47 true (fun k51 => Bi .neq t49 (.string ⟨#[46]⟩) fun t54 =>
 k51 t54 w50) w50 fun t52 w53 =>
 Pk t47 t52 (.bool false) fun t55 =>
 Gd t55 true (fun k56 => k56 a0 w53) w53 fun t57 w58 =>
 Gd t55 true (fun k59 => Bi .neq t57 (.string ⟨#[46, 46]⟩) fun t62 =>
 k59 t62 w58) w58 fun t60 w61 =>
 Pk t55 t60 (.bool false) fun t63 =>
 J31 [t63] w61)
def S.tree_Valid.an : Ann := (.seq .leaf (.seq (.seq .leaf (.block (.loop (.seq .leaf (.seq (.cond .leaf .leaf) (.seq (.block (.seq .leaf (.seq .leaf (.join .leaf [22] [13,14,15,16,17,18,19,20,21] (.cond (.seq .leaf .leaf) .leaf))))) .leaf))) [7] [2,3,4,8,9,10,11,12,13,14,15,16,17,18,19,20,21,22,23]))) (.join .leaf [2] [24,25,26,27,28,29,30,31,32,33,34,35,36,37,38] .leaf)))
theorem S.tree_Valid.eq (a0 : Value) (w : World) (R : Value → World → Prop) : S.tree_Valid a0 w R = fnC PP 39 (Tryz.f35.body.getD .skip) S.tree_Valid.an [.tmp 2] [a0] w R := by kernel_rfl
theorem S.tree_Valid.calls {a0 : Value} {w : World} {R : Value → World → Prop} (h : S.tree_Valid a0 w R) : Ca PP Fn.tree_Valid #[a0] w R :=
  fnC_calls mixed (f := Fn.tree_Valid) (an := S.tree_Valid.an) Tryz.func35 rfl (by show _ ≤ _; exact Nat.le_of_ble_eq_true rfl) (S.tree_Valid.eq a0 w R ▸ h)
/-- slices.Equal[[]acheron/api.Dir,acheron/api.Dir] -/
def S.slices_Equal_sl_api_Dir_api_Dir (a0 a1 : Value) (w : World) (R : Value → World → Prop) : Prop :=
 LnL a0 fun t1 =>
 LnL a1 fun t2 =>
 Bi .neq t1 t2 fun t3 =>
 Cnd t3 (
 R (.bool false) w) (
 LnL a0 fun t4 =>
 ∃ (I5 : List Value → World → Prop) (m6 : List Value → World → Nat), I5 [(.int .i64 0)] w ∧ ∀ t9, ∀ (u7 : Env) (w8 : World), I5 [t9] w8 →
 Bi .lss t9 t4 fun t10 =>
 Cnd t10 (
 Dr w8 fun w11 =>
 IxA 10 a0 t9 fun t12 =>
 LdA PP 10 t12 w11 fun t13 =>
 IxA 10 a1 t9 fun t14 =>
 LdA PP 10 t14 w11 fun t15 =>
 Rd PP (eqS .neq Ty.api_Dir (.tmp 19) (.tmp 23) t13 t15) w11 fun t16 =>
 Cnd t16 (
 R (.bool false) w11) (
 Bi .add t9 (.int .i64 1) fun t17 =>
 I5 [t17] w11 ∧ m6 [t17] w11 < m6 [t9] w8)) (
 R (.bool true) w8))
def S.slices_Equal_sl_api_Dir_api_Dir.an : Ann := (.seq .leaf (.seq (.seq .leaf (.cond (.seq .leaf .leaf) .leaf)) (.seq (.seq .leaf (.block (.loop (.seq .leaf (.seq (.cond .leaf .leaf) (.seq (.block (.seq .leaf (.seq (.draw [[],[],[0,1],[0,1,2],[],[],[4,5],[4,5,6],[0,1,2,3,4,5,6,7]] (.calm 0 (.calm 1 (.calm 2 (.calm 3 (.calm 4 (.calm 5 (.calm 6 (.calm 7 (.calm 8 .done)))))))))) (.cond (.seq .leaf .leaf) .leaf)))) .leaf))) [13] [4,5,14,15,16,17,18,19,20,21,22,23,24,25]))) (.seq .leaf .leaf))))
theorem S.slices_Equal_sl_api_Dir_api_Dir.eq (a0 a1 : Value) (w : World) (R : Value → World → Prop) : S.slices_Equal_sl_api_Dir_api_Dir a0 a1 w R = fnC PP 26 (Tryz.f41.body.getD .skip) S.slices_Equal_sl_api_Dir_api_Dir.an [.tmp 4] [a0, a1] w R := by kernel_rfl
theorem S.slices_Equal_sl_api_Dir_api_Dir.calls {a0 a1 : Value} {w : World} {R : Value → World → Prop} (h : S.slices_Equal_sl_api_Dir_api_Dir a0 a1 w R) : Ca PP Fn.slices_Equal_sl_api_Dir_api_Dir #[a0, a1] w R :=
  fnC_calls mixed (f := Fn.slices_Equal_sl_api_Dir_api_Dir) (an := S.slices_Equal_sl_api_Dir_api_Dir.an) Tryz.func41 rfl (by show _ ≤ _; exact Nat.le_of_ble_eq_true rfl) (S.slices_Equal_sl_api_Dir_api_Dir.eq a0 a1 w R ▸ h)
/-- acheron/device.newDevice -/
def S.device_newDevice (a0 : Value) (w : World) (R : Value → World → Prop) : Prop :=
 MkM w fun t1 w2 =>
 MkM w2 fun t3 w4 =>
 Bd #[.pointer none, .map none, .map none] [(0, 1), (1, 1), (2, 1)] [(1, t1), (2, t3)] fun t5 =>
 Al Ty.device_Device (t5 : Value).cells w4 fun t6 w7 =>
 Bd #[.int .i64 0, .int .i64 0, .int .i64 0, .int .i64 0, .int .i64 0, .int .i64 0, .string ⟨#[]⟩, .string ⟨#[]⟩, .string ⟨#[]⟩, .string ⟨#[]⟩] [(0, 3), (3, 1), (4, 1), (5, 1), (6, 1), (7, 1), (8, 1), (9, 1)] [(5, a0), (6, a0), (7, a0)] fun t8 =>
 Bd #[.int .i64 0, .int .i64 0, .int .i64 0, .int .i64 0, .int .i64 0, .int .i64 0, .string ⟨#[]⟩, .string ⟨#[]⟩, .string ⟨#[]⟩, .string ⟨#[]⟩, .pointer none, .map none, .bool false, .nilFunc, .nilFunc, .nilFunc] [(0, 10), (10, 1), (11, 1), (12, 1), (13, 1), (14, 1), (15, 1)] [(0, t8)] fun t9 =>
 Al Ty.device_file (t9 : Value).cells w7 fun t10 w11 =>
 Nc t6 fun t12 =>
 Fa 0 t12 fun t13 =>
 St PP 1 t13 t10 w11 fun w14 =>
 Nc t6 fun t15 =>
 Fa 0 t15 fun t16 =>
 Ld t16 w14 fun t17 =>
 Ca PP Fn.device_file_become #[t17, (.int .i64 2147484013)] w14 fun t18 w19 =>
 Dr w19 fun w20 =>
 Nc t6 fun t21 =>
 Fa 1 t21 fun t22 =>
 Ld t22 w20 fun t23 =>
 Nc t6 fun t24 =>
 Fa 0 t24 fun t25 =>
 Ld t25 w20 fun t26 =>
 Ef PP (Instr.mapUpdate Ty.map_int64_p_device_file t23 (.int .i64 0) t26) w20 fun _ w27 =>
 R t6 w27
def S.device_newDevice.an : Ann := (.seq .leaf (.seq .leaf (.seq .leaf (.seq .leaf (.seq (.draw [[],[0],[0,1],[0,1,2],[],[4],[4,5],[4,5,6],[0,1,2,3,4,5,6,7]] (.calm 0 (.calm 1 (.calm 2 (.calm 3 (.calm 4 (.calm 5 (.calm 6 (.calm 7 (.eff1 8 [] .done)))))))))) (.seq .leaf .leaf))))))
theorem S.device_newDevice.eq (a0 : Value) (w : World) (R : Value → World → Prop) : S.device_newDevice a0 w R = fnC PP 31 (Tryz.f42.body.getD .skip) S.device_newDevice.an [.tmp 2] [a0] w R := by kernel_rfl
theorem S.device_newDevice.calls {a0 : Value} {w : World} {R : Value → World → Prop} (h : S.device_newDevice a0 w R) : Ca PP Fn.device_newDevice #[a0] w R :=
  fnC_calls mixed (f := Fn.device_newDevice) (an := S.device_newDevice.an) Tryz.func42 rfl (by show _ ≤ _; exact Nat.le_of_ble_eq_true rfl) (S.device_newDevice.eq a0 w R ▸ h)
/-- (*acheron/device.Console).take -/
def S.device_Console_take (a0 a1 a2 : Value) (w : World) (R : Value → World → Prop) : Prop :=
 Bi .eql a2 (.int .i64 0) fun t1 =>
 Cnd t1 (
 R (.tuple #[(.string ⟨#[]⟩), (.int .i64 0)]) w) (
 Nc a0 fun t2 =>
 Fa 2 t2 fun t3 =>
 Ld t3 w fun t4 =>
 LnL t4 fun t5 =>
 Bi .eql t5 (.int .i64 0) fun t6 =>
 Cnd t6 (
 R (.tuple #[(.string ⟨#[]⟩), (.int .i64 36)]) w) (
 Nc a0 fun t7 =>
 Fa 2 t7 fun t8 =>
 Ld t8 w fun t9 =>
 IxA 1 t9 (.int .i64 0) fun t10 =>
 Ld t10 w fun t11 =>
 LnS t11 fun t12 =>
 Mn a2 t12 fun t13 =>
 ∀ J14 : List Value → World → Prop, (∀ w16 : World, (∀ u15 : Env,
 SlS t11 none (some t13) fun t17 =>
 R (.tuple #[t17, (.int .i64 0)]) w16) → J14 [] w16) →
 Dr w fun w18 =>
 Nc a0 fun t19 =>
 Fa 2 t19 fun t20 =>
 Ld t20 w18 fun t21 =>
 SlS t11 (some t13) none fun t22 =>
 IxA 1 t21 (.int .i64 0) fun t23 =>
 St PP 1 t23 t22 w18 fun w24 =>
 LnS t11 fun t25 =>
 Bi .eql t13 t25 fun t26 =>
 Cnd t26 (
 Nc a0 fun t27 =>
 Fa 2 t27 fun t28 =>
 Ld t28 w24 fun t29 =>
 Sl 1 t29 (some (.int .i64 1)) none fun t30 =>
 Nc a0 fun t31 =>
 Fa 2 t31 fun t32 =>
 St PP 1 t32 t30 w24 fun w33 =>
 J14 [] w33) (
 J14 [] w24)))
def S.device_Console_take.an : Ann := (.seq .leaf (.seq (.block (.seq .leaf (.cond (.seq .leaf .leaf) (.seq .leaf (.cond (.seq .leaf .leaf) .leaf))))) (.seq .leaf (.seq .leaf (.join (.seq (.draw [[],[0],[0,1],[0,1,2],[],[],[4,5],[0,1,2,3,4,5,6],[0,1,2,3,4,5,6,7]] (.calm 0 (.calm 1 (.calm 2 (.calm 3 (.calm 4 (.calm 5 (.calm 6 (.calm 7 (.eff1 8 [] .done)))))))))) (.seq .leaf (.cond .leaf .leaf))) [] [30,31,32,33,34,35,36,37,38,39,40,41,42,43,44,45,46,47,48,49] (.seq .leaf .leaf))))))
theorem S.device_Console_take.eq (a0 a1 a2 : Value) (w : World) (R : Value → World → Prop) : S.device_Console_take a0 a1 a2 w R = fnC PP 53 (Tryz.f43.body.getD .skip) S.device_Console_take.an [.tmp 6, .tmp 7] [a0, a1, a2] w R := by kernel_rfl
theorem S.device_Console_take.calls {a0 a1 a2 : Value} {w : World} {R : Value → World → Prop} (h : S.device_Console_take a0 a1 a2 w R) : Ca PP Fn.device_Console_take #[a0, a1, a2] w R :=
  fnC_calls mixed (f := Fn.device_Console_take) (an := S.device_Console_take.an) Tryz.func43 rfl (by show _ ≤ _; exact Nat.le_of_ble_eq_true rfl) (S.device_Console_take.eq a0 a1 a2 w R ▸ h)
/-- (*acheron/device.Console).print -/
def S.device_Console_print (a0 a1 : Value) (w : World) (R : Value → World → Prop) : Prop :=
 Nc a0 fun t1 =>
 Fa 3 t1 fun t2 =>
 Ld t2 w fun t3 =>
 LnL t3 fun t4 =>
 LnS a1 fun t5 =>
 Bi .add t4 t5 fun t6 =>
 Bi .gtr t6 (.int .i64 1048576) fun t7 =>
 Cnd t7 (
 R (.int .i64 24) w) (
 Nc a0 fun t8 =>
 Fa 3 t8 fun t9 =>
 Ld t9 w fun t10 =>
 Ef PP (Builtin.append_ #[Ty.sl_uint8, Ty.string] Ty.sl_uint8 #[t10, a1]) w fun t11 w12 =>
 Nc a0 fun t13 =>
 Fa 3 t13 fun t14 =>
 St PP 1 t14 t11 w12 fun w15 =>
 R (.int .i64 0) w15)
def S.device_Console_print.an : Ann := (.seq .leaf (.seq (.seq .leaf (.cond (.seq .leaf .leaf) .leaf)) (.seq .leaf (.seq .leaf .leaf))))
theorem S.device_Console_print.eq (a0 a1 : Value) (w : World) (R : Value → World → Prop) : S.device_Console_print a0 a1 w R = fnC PP 23 (Tryz.f44.body.getD .skip) S.device_Console_print.an [.tmp 4] [a0, a1] w R := by kernel_rfl
theorem S.device_Console_print.calls {a0 a1 : Value} {w : World} {R : Value → World → Prop} (h : S.device_Console_print a0 a1 w R) : Ca PP Fn.device_Console_print #[a0, a1] w R :=
  fnC_calls mixed (f := Fn.device_Console_print) (an := S.device_Console_print.an) Tryz.func44 rfl (by show _ ≤ _; exact Nat.le_of_ble_eq_true rfl) (S.device_Console_print.eq a0 a1 w R ▸ h)
/-- (*acheron/device.Device).find -/
def S.device_Device_find (a0 a1 : Value) (w : World) (R : Value → World → Prop) : Prop :=
 Rd PP (eqS .eql Ty.p_device_Device (.tmp 8) (.const (.pointer none)) a0 (.pointer none)) w fun t1 =>
 Cnd t1 (
 R (.tuple #[(.pointer none), (.int .i64 6)]) w) (
 Nc a0 fun t2 =>
 Fa 1 t2 fun t3 =>
 Ld t3 w fun t4 =>
 Rd PP (Instr.lookup Ty.map_int64_p_device_file t4 a1 true) w fun t5 =>
 Ex t5 0 fun t6 =>
 Ex t5 1 fun t7 =>
 Cnd t7 (
 R (.tuple #[t6, (.int .i64 0)]) w) (
 R (.tuple #[(.pointer none), (.int .i64 4)]) w))
def S.device_Device_find.an : Ann := (.seq .leaf (.seq (.seq .leaf (.cond (.seq .leaf .leaf) .leaf)) (.seq (.seq .leaf (.seq .leaf (.cond (.seq .leaf .leaf) .leaf))) (.seq .leaf .leaf))))
theorem S.device_Device_find.eq (a0 a1 : Value) (w : World) (R : Value → World → Prop) : S.device_Device_find a0 a1 w R = fnC PP 21 (Tryz.f49.body.getD .skip) S.device_Device_find.an [.tmp 4, .tmp 5] [a0, a1] w R := by kernel_rfl
theorem S.device_Device_find.calls {a0 a1 : Value} {w : World} {R : Value → World → Prop} (h : S.device_Device_find a0 a1 w R) : Ca PP Fn.device_Device_find #[a0, a1] w R :=
  fnC_calls mixed (f := Fn.device_Device_find) (an := S.device_Device_find.an) Tryz.func49 rfl (by show _ ≤ _; exact Nat.le_of_ble_eq_true rfl) (S.device_Device_find.eq a0 a1 w R ▸ h)
/-- (*acheron/device.file).isDir -/
def S.device_file_isDir (a0 : Value) (w : World) (R : Value → World → Prop) : Prop :=
 Nc a0 fun t1 =>
 Fa 0 t1 fun t2 =>
 Fa 3 t2 fun t3 =>
 Ld t3 w fun t4 =>
 Bi .and t4 (.int .i64 2147483648) fun t5 =>
 Bi .neq t5 (.int .i64 0) fun t6 =>
 R t6 w
def S.device_file_isDir.an : Ann := (.seq .leaf (.seq .leaf .leaf))
theorem S.device_file_isDir.eq (a0 : Value) (w : World) (R : Value → World → Prop) : S.device_file_isDir a0 w R = fnC PP 10 (Tryz.f50.body.getD .skip) S.device_file_isDir.an [.tmp 2] [a0] w R := by kernel_rfl
theorem S.device_file_isDir.calls {a0 : Value} {w : World} {R : Value → World → Prop} (h : S.device_file_isDir a0 w R) : Ca PP Fn.device_file_isDir #[a0] w R :=
  fnC_calls mixed (f := Fn.device_file_isDir) (an := S.device_file_isDir.an) Tryz.func50 rfl (by show _ ≤ _; exact Nat.le_of_ble_eq_true rfl) (S.device_file_isDir.eq a0 w R ▸ h)
/-- (*acheron/device.file).may -/
def S.device_file_may (a0 a1 a2 : Value) (w : World) (R : Value → World → Prop) : Prop :=
 Dr w fun w1 =>
 Nc a0 fun t2 =>
 Fa 0 t2 fun t3 =>
 Fa 3 t3 fun t4 =>
 Ld t4 w1 fun t5 =>
 Nc a0 fun t6 =>
 Fa 0 t6 fun t7 =>
 Fa 7 t7 fun t8 =>
 Ld t8 w1 fun t9 =>
 Bi .eql a1 t9 fun t10 =>
 Nc a0 fun t11 =>
 Fa 0 t11 fun t12 =>
 Fa 8 t12 fun t13 =>
 Ld t13 w1 fun t14 =>
 Bi .eql a1 t14 fun t15 =>
 Ca PP Fn.tree_Permits #[t5, t10, t15, a2] w1 fun t16 w17 =>
 R t16 w17
def S.device_file_may.an : Ann := (.seq .leaf (.seq (.draw [[],[0],[0,1],[0,1,2],[0,1,2,3],[],[],[6],[6,7],[6,7,8],[6,7,8,9],[5,6,7,8,9,10],[],[],[13],[13,14],[13,14,15],[13,14,15,16],[12,13,14,15,16,17],[],[0,1,2,3,4,5,6,7,8,9,10,11,12,13,14,15,16,17,18,19],[0,1,2,3,4,5,6,7,8,9,10,11,12,13,14,15,16,17,18,19,20]] (.calm 0 (.calm 1 (.calm 2 (.calm 3 (.calm 4 (.calm 5 (.calm 6 (.calm 7 (.calm 8 (.calm 9 (.calm 10 (.calm 11 (.calm 12 (.calm 13 (.calm 14 (.calm 15 (.calm 16 (.calm 17 (.calm 18 (.calm 19 (.eff1 20 [] (.calm 21 .done))))))))))))))))))))))) .leaf))
theorem S.device_file_may.eq (a0 a1 a2 : Value) (w : World) (R : Value → World → Prop) : S.device_file_may a0 a1 a2 w R = fnC PP 28 (Tryz.f51.body.getD .skip) S.device_file_may.an [.tmp 6] [a0, a1, a2] w R := by kernel_rfl
theorem S.device_file_may.calls {a0 a1 a2 : Value} {w : World} {R : Value → World → Prop} (h : S.device_file_may a0 a1 a2 w R) : Ca PP Fn.device_file_may #[a0, a1, a2] w R :=
  fnC_calls mixed (f := Fn.device_file_may) (an := S.device_file_may.an) Tryz.func51 rfl (by show _ ≤ _; exact Nat.le_of_ble_eq_true rfl) (S.device_file_may.eq a0 a1 a2 w R ▸ h)
/-- (*acheron/device.Device).opened -/
def S.device_Device_opened (a0 a1 : Value) (w : World) (R : Value → World → Prop) : Prop :=
 Al Ty.device_handle #[.pointer none, .int .i64 0] w fun t1 w2 =>
 Rd PP (eqS .eql Ty.p_device_Device (.tmp 8) (.const (.pointer none)) a0 (.pointer none)) w2 fun t3 =>
 Cnd t3 (
 Bd #[.pointer none, .int .i64 0] [(0, 1), (1, 1)] [] fun t4 =>
 St PP 2 t1 t4 w2 fun w5 =>
 LdA PP 2 t1 w5 fun t6 =>
 R (.tuple #[t6, (.int .i64 6)]) w5) (
 Nc a0 fun t7 =>
 Fa 2 t7 fun t8 =>
 Ld t8 w2 fun t9 =>
 Rd PP (Instr.lookup Ty.map_int_device_handle t9 a1 true) w2 fun t10 =>
 Ex t10 0 fun t11 =>
 Ex t10 1 fun t12 =>
 Al Ty.device_handle #[.pointer none, .int .i64 0] w2 fun t13 w14 =>
 St PP 2 t13 t11 w14 fun w15 =>
 Cnd t12 (
 LdA PP 2 t13 w15 fun t16 =>
 St PP 2 t1 t16 w15 fun w17 =>
 LdA PP 2 t1 w17 fun t18 =>
 R (.tuple #[t18, (.int .i64 0)]) w17) (
 Bd #[.pointer none, .int .i64 0] [(0, 1), (1, 1)] [] fun t19 =>
 St PP 2 t1 t19 w15 fun w20 =>
 LdA PP 2 t1 w20 fun t21 =>
 R (.tuple #[t21, (.int .i64 19)]) w20))
def S.device_Device_opened.an : Ann := (.seq .leaf (.seq (.seq .leaf (.cond (.seq .leaf .leaf) .leaf)) (.seq (.seq .leaf (.seq .leaf (.cond (.seq .leaf .leaf) .leaf))) (.seq .leaf .leaf))))
theorem S.device_Device_opened.eq (a0 a1 : Value) (w : World) (R : Value → World → Prop) : S.device_Device_opened a0 a1 w R = fnC PP 23 (Tryz.f52.body.getD .skip) S.device_Device_opened.an [.cell 4 128, .tmp 5] [a0, a1] w R := by kernel_rfl
theorem S.device_Device_opened.calls {a0 a1 : Value} {w : World} {R : Value → World → Prop} (h : S.device_Device_opened a0 a1 w R) : Ca PP Fn.device_Device_opened #[a0, a1] w R :=
  fnC_calls mixed (f := Fn.device_Device_opened) (an := S.device_Device_opened.an) Tryz.func52 rfl (by show _ ≤ _; exact Nat.le_of_ble_eq_true rfl) (S.device_Device_opened.eq a0 a1 w R ▸ h)
/-- slices.IndexFunc[[]acheron/acheronlaw30.Act,acheron/acheronlaw30.Act] -/
def S.slices_IndexFunc_sl_law30_Act_law30_Act (a0 a1 : Value) (w : World) (R : Value → World → Prop) : Prop :=
 LnL a0 fun t1 =>
 ∃ (I2 : List Value → World → Prop) (m3 : List Value → World → Nat), I2 [(.int .i64 0)] w ∧ ∀ t6, ∀ (u4 : Env) (w5 : World), I2 [t6] w5 →
 Bi .lss t6 t1 fun t7 =>
 Cnd t7 (
 IxA 24 a0 t6 fun t8 =>
 LdA PP 24 t8 w5 fun t9 =>
 CaV PP a1 #[t9] w5 fun t10 w11 =>
 Cnd t10 (
 R t6 w11) (
 Bi .add t6 (.int .i64 1) fun t12 =>
 I2 [t12] w11 ∧ m3 [t12] w11 < m3 [t6] w5)) (
 R (.int .i64 (-1)) w5)
def S.slices_IndexFunc_sl_law30_Act_law30_Act.an : Ann := (.seq .leaf (.seq (.seq .leaf (.block (.loop (.seq .leaf (.seq (.cond .leaf .leaf) (.seq (.block (.seq .leaf (.seq .leaf (.cond (.seq .leaf .leaf) .leaf)))) .leaf))) [8] [4,5,9,10,11,12,13,14,15,16,17,18]))) (.seq .leaf .leaf)))
theorem S.slices_IndexFunc_sl_law30_Act_law30_Act.eq (a0 a1 : Value) (w : World) (R : Value → World → Prop) : S.slices_IndexFunc_sl_law30_Act_law30_Act a0 a1 w R = fnC PP 19 (Tryz.f53.body.getD .skip) S.slices_IndexFunc_sl_law30_Act_law30_Act.an [.tmp 4] [a0, a1] w R := by kernel_rfl
theorem S.slices_IndexFunc_sl_law30_Act_law30_Act.calls {a0 a1 : Value} {w : World} {R : Value → World → Prop} (h : S.slices_IndexFunc_sl_law30_Act_law30_Act a0 a1 w R) : Ca PP Fn.slices_IndexFunc_sl_law30_Act_law30_Act #[a0, a1] w R :=
  fnC_calls mixed (f := Fn.slices_IndexFunc_sl_law30_Act_law30_Act) (an := S.slices_IndexFunc_sl_law30_Act_law30_Act.an) Tryz.func53 rfl (by show _ ≤ _; exact Nat.le_of_ble_eq_true rfl) (S.slices_IndexFunc_sl_law30_Act_law30_Act.eq a0 a1 w R ▸ h)
/-- slices.IndexFunc[[]acheron/api.Proc,acheron/api.Proc] -/
def S.slices_IndexFunc_sl_api_Proc_api_Proc (a0 a1 : Value) (w : World) (R : Value → World → Prop) : Prop :=
 LnL a0 fun t1 =>
 ∃ (I2 : List Value → World → Prop) (m3 : List Value → World → Nat), I2 [(.int .i64 0)] w ∧ ∀ t6, ∀ (u4 : Env) (w5 : World), I2 [t6] w5 →
 Bi .lss t6 t1 fun t7 =>
 Cnd t7 (
 IxA 5 a0 t6 fun t8 =>
 LdA PP 5 t8 w5 fun t9 =>
 CaV PP a1 #[t9] w5 fun t10 w11 =>
 Cnd t10 (
 R t6 w11) (
 Bi .add t6 (.int .i64 1) fun t12 =>
 I2 [t12] w11 ∧ m3 [t12] w11 < m3 [t6] w5)) (
 R (.int .i64 (-1)) w5)
def S.slices_IndexFunc_sl_api_Proc_api_Proc.an : Ann := (.seq .leaf (.seq (.seq .leaf (.block (.loop (.seq .leaf (.seq (.cond .leaf .leaf) (.seq (.block (.seq .leaf (.seq .leaf (.cond (.seq .leaf .leaf) .leaf)))) .leaf))) [8] [4,5,9,10,11,12,13,14,15,16,17,18]))) (.seq .leaf .leaf)))
theorem S.slices_IndexFunc_sl_api_Proc_api_Proc.eq (a0 a1 : Value) (w : World) (R : Value → World → Prop) : S.slices_IndexFunc_sl_api_Proc_api_Proc a0 a1 w R = fnC PP 19 (Tryz.f54.body.getD .skip) S.slices_IndexFunc_sl_api_Proc_api_Proc.an [.tmp 4] [a0, a1] w R := by kernel_rfl
theorem S.slices_IndexFunc_sl_api_Proc_api_Proc.calls {a0 a1 : Value} {w : World} {R : Value → World → Prop} (h : S.slices_IndexFunc_sl_api_Proc_api_Proc a0 a1 w R) : Ca PP Fn.slices_IndexFunc_sl_api_Proc_api_Proc #[a0, a1] w R :=
  fnC_calls mixed (f := Fn.slices_IndexFunc_sl_api_Proc_api_Proc) (an := S.slices_IndexFunc_sl_api_Proc_api_Proc.an) Tryz.func54 rfl (by show _ ≤ _; exact Nat.le_of_ble_eq_true rfl) (S.slices_IndexFunc_sl_api_Proc_api_Proc.eq a0 a1 w R ▸ h)
/-- (*acheron/device.file).become -/
def S.device_file_become (a0 a1 : Value) (w : World) (R : Value → World → Prop) : Prop :=
 Nc a0 fun t1 =>
 Fa 0 t1 fun t2 =>
 Fa 3 t2 fun t3 =>
 St PP 1 t3 a1 w fun w4 =>
 Ca PP Fn.device_file_isDir #[a0] w4 fun t5 w6 =>
 Cnd t5 (
 MkM w6 fun t7 w8 =>
 Nc a0 fun t9 =>
 Fa 0 t9 fun t10 =>
 Fa 0 t10 fun t11 =>
 Fa 0 t11 fun t12 =>
 St PP 1 t12 (.int .i64 128) w8 fun w13 =>
 Nc a0 fun t14 =>
 Fa 11 t14 fun t15 =>
 St PP 1 t15 t7 w13 fun w16 =>
 R (.tuple #[]) w16) (
 R (.tuple #[]) w6)
def S.device_file_become.an : Ann := (.seq .leaf (.seq .leaf (.cond .leaf .leaf)))
theorem S.device_file_become.eq (a0 a1 : Value) (w : World) (R : Value → World → Prop) : S.device_file_become a0 a1 w R = fnC PP 20 (Tryz.f56.body.getD .skip) S.device_file_become.an [] [a0, a1] w R := by kernel_rfl
theorem S.device_file_become.calls {a0 a1 : Value} {w : World} {R : Value → World → Prop} (h : S.device_file_become a0 a1 w R) : Ca PP Fn.device_file_become #[a0, a1] w R :=
  fnC_calls mixed (f := Fn.device_file_become) (an := S.device_file_become.an) Tryz.func56 rfl (by show _ ≤ _; exact Nat.le_of_ble_eq_true rfl) (S.device_file_become.eq a0 a1 w R ▸ h)
/-- acheron/tree.Permits -/
def S.tree_Permits (a0 a1 a2 a3 : Value) (w : World) (R : Value → World → Prop) : Prop :=
 ∀ J1 : List Value → World → Prop, (∀ t4, ∀ w3 : World, (∀ u2 : Env,
 Bi .and a3 (.int .i64 7) fun t5 =>
 Bi .andNot t5 t4 fun t6 =>
 Bi .eql t6 (.int .i64 0) fun t7 =>
 R t7 w3) → J1 [t4] w3) →
 Cnd a1 (
 Bi .shr a0 (.int .u64 6) fun t8 =>
 J1 [t8] w) (
 Cnd a2 (
 Bi .shr a0 (.int .u64 3) fun t9 =>
 J1 [t9] w) (
 J1 [a0] w))
def S.tree_Permits.an : Ann := (.seq .leaf (.join (.block (.seq .leaf (.cond .leaf (.seq .leaf (.cond .leaf .leaf))))) [0] [9,10,11,12,13,14,15,16] (.seq .leaf .leaf)))
theorem S.tree_Permits.eq (a0 a1 a2 a3 : Value) (w : World) (R : Value → World → Prop) : S.tree_Permits a0 a1 a2 a3 w R = fnC PP 22 (Tryz.f76.body.getD .skip) S.tree_Permits.an [.tmp 8] [a0, a1, a2, a3] w R := by kernel_rfl
theorem S.tree_Permits.calls {a0 a1 a2 a3 : Value} {w : World} {R : Value → World → Prop} (h : S.tree_Permits a0 a1 a2 a3 w R) : Ca PP Fn.tree_Permits #[a0, a1, a2, a3] w R :=
  fnC_calls mixed (f := Fn.tree_Permits) (an := S.tree_Permits.an) Tryz.func76 rfl (by show _ ≤ _; exact Nat.le_of_ble_eq_true rfl) (S.tree_Permits.eq a0 a1 a2 a3 w R ▸ h)
/-- (*acheron/device.Device).Close -/
def S.device_Device_Close (a0 a1 : Value) (w : World) (R : Value → World → Prop) : Prop :=
 Ca PP Fn.device_Device_opened #[a0, a1] w fun t1 w2 =>
 Ex t1 0 fun t3 =>
 Ex t1 1 fun t4 =>
 Al Ty.device_handle #[.pointer none, .int .i64 0] w2 fun t5 w6 =>
 St PP 2 t5 t3 w6 fun w7 =>
 Bi .neq t4 (.int .i64 0) fun t8 =>
 Cnd t8 (
 R t4 w7) (
 Nc a0 fun t9 =>
 Fa 2 t9 fun t10 =>
 Ld t10 w7 fun t11 =>
 Ef PP (Builtin.delete_ #[Ty.map_int_device_handle, Ty.int] Ty.t #[t11, a1]) w7 fun x_12 w13 =>
 Nc a0 fun t14 =>
 Fa 2 t14 fun t15 =>
 Ld t15 w13 fun t16 =>
 Ef PP (Instr.range Ty.map_int_device_handle t16) w13 fun t17 w18 =>
 ∃ (I19 : List Value → World → Prop) (m20 : List Value → World → Nat), I19 [] w18 ∧ ∀ (u21 : Env) (w22 : World), I19 [] w22 →
 Ef PP (Instr.next t17 false Ty.t) w22 fun t23 w24 =>
 Ex t23 0 fun t25 =>
 Cnd t25 (
 Rd PP (Instr.entry t17) w24 fun t26 =>
 Ex t26 1 fun t27 =>
 Al Ty.device_handle #[.pointer none, .int .i64 0] w24 fun t28 w29 =>
 St PP 2 t28 t27 w29 fun w30 =>
 Fa 0 t28 fun t31 =>
 Ld t31 w30 fun t32 =>
 Fa 0 t5 fun t33 =>
 Ld t33 w30 fun t34 =>
 Rd PP (eqS .eql Ty.p_device_file (.tmp 33) (.tmp 35) t32 t34) w30 fun t35 =>
 Cnd t35 (
 R (.int .i64 0) w30) (
 I19 [] w30 ∧ m20 [] w30 < m20 [] w22)) (
 ∀ J36 : List Value → World → Prop, (∀ w38 : World, (∀ u37 : Env,
 R (.int .i64 0) w38) → J36 [] w38) →
 Fa 0 t5 fun t39 =>
 Ld t39 w24 fun t40 =>
 Nc t40 fun t41 =>
 Fa 15 t41 fun t42 =>
 Ld t42 w24 fun t43 =>
 Rd PP (eqS .neq Ty.func (.tmp 41) (.const .nilFunc) t43 .nilFunc) w24 fun t44 =>
 Cnd t44 (
 Fa 0 t5 fun t45 =>
 Ld t45 w24 fun t46 =>
 Nc t46 fun t47 =>
 Fa 15 t47 fun t48 =>
 Ld t48 w24 fun t49 =>
 CaV PP t49 #[] w24 fun t50 w51 =>
 J36 [] w51) (
 J36 [] w24)))
def S.device_Device_Close.an : Ann := (.seq .leaf (.seq .leaf (.seq (.seq .leaf (.cond (.seq .leaf .leaf) .leaf)) (.seq .leaf (.seq (.seq .leaf (.block (.loop (.seq .leaf (.seq (.cond .leaf .leaf) (.block (.seq .leaf (.seq .leaf (.cond (.seq .leaf .leaf) .leaf)))))) [] [4,8,28,29,30,31,32,33,34,35,36]))) (.join (.seq .leaf (.cond .leaf .leaf)) [] [37,38,39,40,41,42,43,44,45,46,47,48] (.seq .leaf .leaf)))))))
theorem S.device_Device_Close.eq (a0 a1 : Value) (w : World) (R : Value → World → Prop) : S.device_Device_Close a0 a1 w R = fnC PP 49 (Tryz.f133.body.getD .skip) S.device_Device_Close.an [.tmp 4] [a0, a1] w R := by kernel_rfl
theorem S.device_Device_Close.calls {a0 a1 : Value} {w : World} {R : Value → World → Prop} (h : S.device_Device_Close a0 a1 w R) : Ca PP Fn.device_Device_Close #[a0, a1] w R :=
  fnC_calls mixed (f := Fn.device_Device_Close) (an := S.device_Device_Close.an) Tryz.func133 rfl (by show _ ≤ _; exact Nat.le_of_ble_eq_true rfl) (S.device_Device_Close.eq a0 a1 w R ▸ h)
/-- (*acheron/device.Device).Create -/
def S.device_Device_Create (a0 a1 a2 a3 a4 a5 : Value) (w : World) (R : Value → World → Prop) : Prop :=
 Al Ty.api_Qid #[.int .i64 0, .int .i64 0, .int .i64 0] w fun t1 w2 =>
 Bd #[.int .i64 0, .int .i64 0, .int .i64 0] [(0, 1), (1, 1), (2, 1)] [] fun t3 =>
 Ca PP Fn.device_Device_refuse #[a0, a2] w2 fun t4 w5 =>
 St PP 3 t1 t3 w5 fun w6 =>
 LdA PP 3 t1 w6 fun t7 =>
 R (.tuple #[(.int .i64 0), t7, t4]) w6
def S.device_Device_Create.an : Ann := (.seq .leaf (.seq .leaf .leaf))
theorem S.device_Device_Create.eq (a0 a1 a2 a3 a4 a5 : Value) (w : World) (R : Value → World → Prop) : S.device_Device_Create a0 a1 a2 a3 a4 a5 w R = fnC PP 19 (Tryz.f134.body.getD .skip) S.device_Device_Create.an [.tmp 12, .cell 13 23, .tmp 14] [a0, a1, a2, a3, a4, a5] w R := by kernel_rfl
theorem S.device_Device_Create.calls {a0 a1 a2 a3 a4 a5 : Value} {w : World} {R : Value → World → Prop} (h : S.device_Device_Create a0 a1 a2 a3 a4 a5 w R) : Ca PP Fn.device_Device_Create #[a0, a1, a2, a3, a4, a5] w R :=
  fnC_calls mixed (f := Fn.device_Device_Create) (an := S.device_Device_Create.an) Tryz.func134 rfl (by show _ ≤ _; exact Nat.le_of_ble_eq_true rfl) (S.device_Device_Create.eq a0 a1 a2 a3 a4 a5 w R ▸ h)
end Go.Proofs.YtlaedckelfcfdaaGreatDoor
