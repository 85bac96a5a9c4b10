/- Own text. -/
import Derived.Test.YtmlccboapkkcfaaDoorSc
namespace Go.Proofs.YtmlccboapkkcfaaDoor
open Go Go.Sh
set_option linter.unusedVariables false
set_option maxRecDepth 100000
/-- acheron/acheronlaw31.StyxApart -/
def S.law31_StyxApart (a0 a1 : Value) (w : World) (R : Value → World → Prop) : Prop :=
 Al Ty.api_Msg (a0 : Value).cells w fun t1 w2 =>
 Al Ty.api_Msg (a1 : Value).cells w2 fun t3 w4 =>
 Ca PP Fn.law31_awake #[] w4 fun t5 w6 =>
 Un .not t5 fun t7 =>
 Cnd t7 (
 R (.bool false) w6) (
 ∀ J8 : List Value → World → Prop, (∀ t11, ∀ w10 : World, (∀ u9 : Env,
 Cnd t11 (
 R (.bool true) w10) (
 LdA PP 27 t1 w10 fun t12 =>
 Ca PP Fn.styx_Encode #[t12] w10 fun t13 w14 =>
 Ex t13 0 fun t15 =>
 Ex t13 1 fun t16 =>
 LdA PP 27 t3 w14 fun t17 =>
 Ca PP Fn.styx_Encode #[t17] w14 fun t18 w19 =>
 Ex t18 0 fun t20 =>
 Ex t18 1 fun t21 =>
 ∀ J22 : List Value → World → Prop, (∀ t25, ∀ w24 : World, (∀ u23 : Env,
 R t25 w24) → J22 [t25] w24) →
 Bi .neq t16 (.int .i64 0) fun t26 =>
 Gd t26 false (fun k27 => k27 t21 w19) w19 fun t28 w29 =>
 Gd t26 false (fun k30 => Bi .neq t28 (.int .i64 0) fun t33 =>
 k30 t33 w29) w29 fun t31 w32 =>
 Pk t26 (.bool true) t31 fun t34 =>
 Gd t34 false (fun k35 => k35 t15 w32) w32 fun t36 w37 =>
 Gd t34 false (fun k38 => k38 t20 w37) w37 fun t39 w40 =>
 Gd t34 false (fun k41 => Bi .eql t36 t39 fun t44 =>
 k41 t44 w40) w40 fun t42 w43 =>
 Gd t34 false (fun k45 => LdA PP 27 t1 w43 fun t48 =>
 k45 t48 w43) w43 fun t46 w47 =>
 Gd t34 false (fun k49 => LdA PP 27 t3 w47 fun t52 =>
 k49 t52 w47) w47 fun t50 w51 =>
 Gd t34 false (fun k53 => Ca PP Fn.law31_Same #[t46, t50] w51 fun t56 w57 =>
 k53 t56 w57) w51 fun t54 w55 =>
 Gd t34 false (fun k58 => Beq false t42 t54 fun t61 =>
 k58 t61 w55) w55 fun t59 w60 =>
 Pk t34 (.bool true) t59 fun t62 =>
 J22 [t62] w60)) → J8 [t11] w10) →
 LdA PP 27 t1 w6 fun t63 =>
 Ca PP Fn.law31_Few #[t63] w6 fun t64 w65 =>
 Un .not t64 fun t66 =>
 Gd t66 false (fun k67 => LdA PP 27 t3 w65 fun t70 =>
 k67 t70 w65) w65 fun t68 w69 =>
 Gd t66 false (fun k71 => Ca PP Fn.law31_Few #[t68] w69 fun t74 w75 =>
 k71 t74 w75) w69 fun t72 w73 =>
 Gd t66 false (fun k76 => Un .not t72 fun t79 =>
 k76 t79 w73) w73 fun t77 w78 =>
 Pk t66 (.bool true) t77 fun t80 =>
 J8 [t80] w78)
def S.law31_StyxApart.an : Ann := (.seq .leaf (.seq (.seq .leaf (.cond (.seq .leaf .leaf) .leaf)) (.seq (.join .leaf [18] [11,12,13,14,15,16,17] (.cond (.seq .leaf .leaf) .leaf)) (.seq .leaf (.seq .leaf (.join .leaf [4] [29,30,31,32,33,34,35,36,37,38,39,40,41,42,43] .leaf))))))
theorem S.law31_StyxApart.eq (a0 a1 : Value) (w : World) (R : Value → World → Prop) : S.law31_StyxApart a0 a1 w R = fnC PP 44 (Tryd.f3.body.getD .skip) S.law31_StyxApart.an [.tmp 4] [a0, a1] w R := by kernel_rfl
theorem S.law31_StyxApart.calls {a0 a1 : Value} {w : World} {R : Value → World → Prop} (h : S.law31_StyxApart a0 a1 w R) : Ca PP Fn.law31_StyxApart #[a0, a1] w R :=
  fnC_calls mixed (f := Fn.law31_StyxApart) (an := S.law31_StyxApart.an) Tryd.func3 rfl (by show _ ≤ _; exact Nat.le_of_ble_eq_true rfl) (S.law31_StyxApart.eq a0 a1 w R ▸ h)
/-- acheron/acheronlaw31.StyxDecodes -/
def S.law31_StyxDecodes (a0 : Value) (w : World) (R : Value → World → Prop) : Prop :=
 Ca PP Fn.law31_awake #[] w fun t1 w2 =>
 Un .not t1 fun t3 =>
 Cnd t3 (
 R (.bool false) w2) (
 LnS a0 fun t4 =>
 Bi .gtr t4 (.int .i64 9000) fun t5 =>
 Cnd t5 (
 R (.bool true) w2) (
 Ca PP Fn.styx_Decode #[a0] w2 fun t6 w7 =>
 Ex t6 0 fun t8 =>
 Ex t6 1 fun t9 =>
 Al Ty.api_Msg #[.int .i64 0, .int .i64 0, .int .i64 0, .int .i64 0, .int .i64 0, .int .i64 0, .int .i64 0, .int .i64 0, .int .i64 0, .string ⟨#[]⟩, .string ⟨#[]⟩, .string ⟨#[]⟩, .string ⟨#[]⟩, .slice none 0 0, .slice none 0 0, .string ⟨#[]⟩, .int .i64 0, .int .i64 0, .int .i64 0, .int .i64 0, .int .i64 0, .int .i64 0, .string ⟨#[]⟩, .string ⟨#[]⟩, .string ⟨#[]⟩, .string ⟨#[]⟩, .int .i64 0] w7 fun t10 w11 =>
 St PP 27 t10 t8 w11 fun w12 =>
 Ca PP Fn.r31_Decode #[a0] w12 fun t13 w14 =>
 Ex t13 0 fun t15 =>
 Ex t13 1 fun t16 =>
 Al Ty.api_Msg #[.int .i64 0, .int .i64 0, .int .i64 0, .int .i64 0, .int .i64 0, .int .i64 0, .int .i64 0, .int .i64 0, .int .i64 0, .string ⟨#[]⟩, .string ⟨#[]⟩, .string ⟨#[]⟩, .string ⟨#[]⟩, .slice none 0 0, .slice none 0 0, .string ⟨#[]⟩, .int .i64 0, .int .i64 0, .int .i64 0, .int .i64 0, .int .i64 0, .int .i64 0, .string ⟨#[]⟩, .string ⟨#[]⟩, .string ⟨#[]⟩, .string ⟨#[]⟩, .int .i64 0] w14 fun t17 w18 =>
 St PP 27 t17 t15 w18 fun w19 =>
 ∀ J20 : List Value → World → Prop, (∀ t23, ∀ w22 : World, (∀ u21 : Env,
 Cnd t23 (
 R (.bool false) w22) (
 Bi .neq t9 (.int .i64 0) fun t24 =>
 Cnd t24 (
 LdA PP 27 t10 w22 fun t25 =>
 Bd #[.int .i64 0, .int .i64 0, .int .i64 0, .int .i64 0, .int .i64 0, .int .i64 0, .int .i64 0, .int .i64 0, .int .i64 0, .string ⟨#[]⟩, .string ⟨#[]⟩, .string ⟨#[]⟩, .string ⟨#[]⟩, .slice none 0 0, .slice none 0 0, .string ⟨#[]⟩, .int .i64 0, .int .i64 0, .int .i64 0, .int .i64 0, .int .i64 0, .int .i64 0, .string ⟨#[]⟩, .string ⟨#[]⟩, .string ⟨#[]⟩, .string ⟨#[]⟩, .int .i64 0] [(0, 1), (1, 1), (2, 1), (3, 1), (4, 1), (5, 1), (6, 1), (7, 1), (8, 1), (9, 1), (10, 1), (11, 1), (12, 1), (13, 1), (14, 1), (15, 1), (16, 10), (26, 1)] [] fun t26 =>
 Ca PP Fn.law31_Same #[t25, t26] w22 fun t27 w28 =>
 R t27 w28) (
 LdA PP 27 t10 w22 fun t29 =>
 Ca PP Fn.styx_Encode #[t29] w22 fun t30 w31 =>
 Ex t30 0 fun t32 =>
 Ex t30 1 fun t33 =>
 ∀ J34 : List Value → World → Prop, (∀ t37, ∀ w36 : World, (∀ u35 : Env,
 R t37 w36) → J34 [t37] w36) →
 Bi .eql t33 (.int .i64 0) fun t38 =>
 Gd t38 true (fun k39 => k39 t32 w31) w31 fun t40 w41 =>
 Gd t38 true (fun k42 => k42 a0 w41) w41 fun t43 w44 =>
 Gd t38 true (fun k45 => Bi .eql t40 t43 fun t48 =>
 k45 t48 w44) w44 fun t46 w47 =>
 Pk t38 t46 (.bool false) fun t49 =>
 Gd t49 true (fun k50 => LdA PP 27 t10 w47 fun t53 =>
 k50 t53 w47) w47 fun t51 w52 =>
 Gd t49 true (fun k54 => Ca PP Fn.styx_Size #[t51] w52 fun t57 w58 =>
 k54 t57 w58) w52 fun t55 w56 =>
 Gd t49 true (fun k59 => k59 a0 w56) w56 fun t60 w61 =>
 Gd t49 true (fun k62 => LnS t60 fun t65 =>
 k62 t65 w61) w61 fun t63 w64 =>
 Gd t49 true (fun k66 => Bi .eql t55 t63 fun t69 =>
 k66 t69 w64) w64 fun t67 w68 =>
 Pk t49 t67 (.bool false) fun t70 =>
 J34 [t70] w68))) → J20 [t23] w22) →
 Bi .neq t9 t16 fun t71 =>
 Gd t71 false (fun k72 => LdA PP 27 t10 w19 fun t75 =>
 k72 t75 w19) w19 fun t73 w74 =>
 Gd t71 false (fun k76 => LdA PP 27 t17 w74 fun t79 =>
 k76 t79 w74) w74 fun t77 w78 =>
 Gd t71 false (fun k80 => Ca PP Fn.law31_Same #[t73, t77] w78 fun t83 w84 =>
 k80 t83 w84) w78 fun t81 w82 =>
 Gd t71 false (fun k85 => Un .not t81 fun t88 =>
 k85 t88 w82) w82 fun t86 w87 =>
 Pk t71 (.bool true) t86 fun t89 =>
 J20 [t89] w87))
def S.law31_StyxDecodes.an : Ann := (.seq .leaf (.seq (.seq .leaf (.cond (.seq .leaf .leaf) .leaf)) (.seq (.seq .leaf (.cond (.seq .leaf .leaf) .leaf)) (.seq .leaf (.seq .leaf (.seq (.join .leaf [32] [24,25,26,27,28,29,30,31] (.cond (.seq .leaf .leaf) .leaf)) (.seq (.seq .leaf (.cond (.seq .leaf .leaf) .leaf)) (.seq .leaf (.join .leaf [2] [43,44,45,46,47,48,49,50,51,52,53,54,55,56] .leaf)))))))))
theorem S.law31_StyxDecodes.eq (a0 : Value) (w : World) (R : Value → World → Prop) : S.law31_StyxDecodes a0 w R = fnC PP 57 (Tryd.f4.body.getD .skip) S.law31_StyxDecodes.an [.tmp 2] [a0] w R := by kernel_rfl
theorem S.law31_StyxDecodes.calls {a0 : Value} {w : World} {R : Value → World → Prop} (h : S.law31_StyxDecodes a0 w R) : Ca PP Fn.law31_StyxDecodes #[a0] w R :=
  fnC_calls mixed (f := Fn.law31_StyxDecodes) (an := S.law31_StyxDecodes.an) Tryd.func4 rfl (by show _ ≤ _; exact Nat.le_of_ble_eq_true rfl) (S.law31_StyxDecodes.eq a0 w R ▸ h)
/-- acheron/acheronlaw31.StyxReturns -/
def S.law31_StyxReturns (a0 : Value) (w : World) (R : Value → World → Prop) : Prop :=
 Al Ty.api_Msg (a0 : Value).cells w fun t1 w2 =>
 Ca PP Fn.law31_awake #[] w2 fun t3 w4 =>
 Un .not t3 fun t5 =>
 Cnd t5 (
 R (.bool false) w4) (
 LdA PP 27 t1 w4 fun t6 =>
 Ca PP Fn.law31_Few #[t6] w4 fun t7 w8 =>
 Un .not t7 fun t9 =>
 Cnd t9 (
 R (.bool true) w8) (
 LdA PP 27 t1 w8 fun t10 =>
 Ca PP Fn.styx_Encode #[t10] w8 fun t11 w12 =>
 Ex t11 0 fun t13 =>
 Ex t11 1 fun t14 =>
 Bi .neq t14 (.int .i64 0) fun t15 =>
 Cnd t15 (
 ∀ J16 : List Value → World → Prop, (∀ t19, ∀ w18 : World, (∀ u17 : Env,
 R t19 w18) → J16 [t19] w18) →
 Bi .eql t13 (.string ⟨#[]⟩) fun t20 =>
 Gd t20 true (fun k21 => k21 t14 w12) w12 fun t22 w23 =>
 Gd t20 true (fun k24 => LdA PP 27 t1 w23 fun t27 =>
 k24 t27 w23) w23 fun t25 w26 =>
 Gd t20 true (fun k28 => Ca PP Fn.styx_Check #[t25] w26 fun t31 w32 =>
 k28 t31 w32) w26 fun t29 w30 =>
 Gd t20 true (fun k33 => Bi .eql t22 t29 fun t36 =>
 k33 t36 w30) w30 fun t34 w35 =>
 Pk t20 t34 (.bool false) fun t37 =>
 Gd t37 true (fun k38 => LdA PP 27 t1 w35 fun t41 =>
 k38 t41 w35) w35 fun t39 w40 =>
 Gd t37 true (fun k42 => Ca PP Fn.styx_Size #[t39] w40 fun t45 w46 =>
 k42 t45 w46) w40 fun t43 w44 =>
 Gd t37 true (fun k47 => Bi .eql t43 (.int .i64 0) fun t50 =>
 k47 t50 w44) w44 fun t48 w49 =>
 Pk t37 t48 (.bool false) fun t51 =>
 J16 [t51] w49) (
 Ca PP Fn.styx_Decode #[t13] w12 fun t52 w53 =>
 Ex t52 0 fun t54 =>
 Ex t52 1 fun t55 =>
 Al Ty.api_Msg #[.int .i64 0, .int .i64 0, .int .i64 0, .int .i64 0, .int .i64 0, .int .i64 0, .int .i64 0, .int .i64 0, .int .i64 0, .string ⟨#[]⟩, .string ⟨#[]⟩, .string ⟨#[]⟩, .string ⟨#[]⟩, .slice none 0 0, .slice none 0 0, .string ⟨#[]⟩, .int .i64 0, .int .i64 0, .int .i64 0, .int .i64 0, .int .i64 0, .int .i64 0, .string ⟨#[]⟩, .string ⟨#[]⟩, .string ⟨#[]⟩, .string ⟨#[]⟩, .int .i64 0] w53 fun t56 w57 =>
 St PP 27 t56 t54 w57 fun w58 =>
 ∀ J59 : List Value → World → Prop, (∀ t62, ∀ w61 : World, (∀ u60 : Env,
 R t62 w61) → J59 [t62] w61) →
 Bi .eql t55 (.int .i64 0) fun t63 =>
 Gd t63 true (fun k64 => LdA PP 27 t1 w58 fun t67 =>
 k64 t67 w58) w58 fun t65 w66 =>
 Gd t63 true (fun k68 => LdA PP 27 t56 w66 fun t71 =>
 k68 t71 w66) w66 fun t69 w70 =>
 Gd t63 true (fun k72 => Ca PP Fn.law31_Same #[t65, t69] w70 fun t75 w76 =>
 k72 t75 w76) w70 fun t73 w74 =>
 Pk t63 t73 (.bool false) fun t77 =>
 Gd t77 true (fun k78 => LdA PP 27 t1 w74 fun t81 =>
 k78 t81 w74) w74 fun t79 w80 =>
 Gd t77 true (fun k82 => Ca PP Fn.styx_Check #[t79] w80 fun t85 w86 =>
 k82 t85 w86) w80 fun t83 w84 =>
 Gd t77 true (fun k87 => Bi .eql t83 (.int .i64 0) fun t90 =>
 k87 t90 w84) w84 fun t88 w89 =>
 Pk t77 t88 (.bool false) fun t91 =>
 Gd t91 true (fun k92 => LdA PP 27 t1 w89 fun t95 =>
 k92 t95 w89) w89 fun t93 w94 =>
 Gd t91 true (fun k96 => Ca PP Fn.styx_Size #[t93] w94 fun t99 w100 =>
 k96 t99 w100) w94 fun t97 w98 =>
 Gd t91 true (fun k101 => k101 t13 w98) w98 fun t102 w103 =>
 Gd t91 true (fun k104 => LnS t102 fun t107 =>
 k104 t107 w103) w103 fun t105 w106 =>
 Gd t91 true (fun k108 => Bi .eql t97 t105 fun t111 =>
 k108 t111 w106) w106 fun t109 w110 =>
 Pk t91 t109 (.bool false) fun t112 =>
 Gd t112 true (fun k113 => k113 t13 w110) w110 fun t114 w115 =>
 Gd t112 true (fun k116 => LnS t114 fun t119 =>
 k116 t119 w115) w115 fun t117 w118 =>
 Gd t112 true (fun k120 => Bi .leq t117 (.int .i64 8192) fun t123 =>
 k120 t123 w118) w118 fun t121 w122 =>
 Pk t112 t121 (.bool false) fun t124 =>
 J59 [t124] w122)))
def S.law31_StyxReturns.an : Ann := (.seq .leaf (.seq (.seq .leaf (.cond (.seq .leaf .leaf) .leaf)) (.seq (.seq .leaf (.cond (.seq .leaf .leaf) .leaf)) (.seq .leaf (.seq (.seq .leaf (.cond (.join .leaf [2] [19,20,21,22,23,24,25,26,27,28,29,30,31] .leaf) .leaf)) (.seq .leaf (.join .leaf [2] [37,38,39,40,41,42,43,44,45,46,47,48,49,50,51,52,53,54,55,56,57,58,59,60] .leaf)))))))
theorem S.law31_StyxReturns.eq (a0 : Value) (w : World) (R : Value → World → Prop) : S.law31_StyxReturns a0 w R = fnC PP 61 (Tryd.f7.body.getD .skip) S.law31_StyxReturns.an [.tmp 2] [a0] w R := by kernel_rfl
theorem S.law31_StyxReturns.calls {a0 : Value} {w : World} {R : Value → World → Prop} (h : S.law31_StyxReturns a0 w R) : Ca PP Fn.law31_StyxReturns #[a0] w R :=
  fnC_calls mixed (f := Fn.law31_StyxReturns) (an := S.law31_StyxReturns.an) Tryd.func7 rfl (by show _ ≤ _; exact Nat.le_of_ble_eq_true rfl) (S.law31_StyxReturns.eq a0 w R ▸ h)
/-- acheron/acheronlaw31.awake -/
def S.law31_awake (w : World) (R : Value → World → Prop) : Prop :=
 Bd #[.int .i64 0, .int .i64 0, .int .i64 0, .int .i64 0, .int .i64 0, .int .i64 0, .int .i64 0, .int .i64 0, .int .i64 0, .string ⟨#[]⟩, .string ⟨#[]⟩, .string ⟨#[]⟩, .string ⟨#[]⟩, .slice none 0 0, .slice none 0 0, .string ⟨#[]⟩, .int .i64 0, .int .i64 0, .int .i64 0, .int .i64 0, .int .i64 0, .int .i64 0, .string ⟨#[]⟩, .string ⟨#[]⟩, .string ⟨#[]⟩, .string ⟨#[]⟩, .int .i64 0] [(0, 1), (1, 1), (2, 1), (3, 1), (4, 1), (5, 1), (6, 1), (7, 1), (8, 1), (9, 1), (10, 1), (11, 1), (12, 1), (13, 1), (14, 1), (15, 1), (16, 10), (26, 1)] [(0, (.int .i64 120)), (1, (.int .i64 1)), (2, (.int .i64 2))] fun t1 =>
 Ca PP Fn.styx_Encode #[t1] w fun t2 w3 =>
 Ex t2 0 fun t4 =>
 Ex t2 1 fun t5 =>
 Bd #[.int .i64 0, .int .i64 0, .int .i64 0, .int .i64 0, .int .i64 0, .int .i64 0, .int .i64 0, .int .i64 0, .int .i64 0, .string ⟨#[]⟩, .string ⟨#[]⟩, .string ⟨#[]⟩, .string ⟨#[]⟩, .slice none 0 0, .slice none 0 0, .string ⟨#[]⟩, .int .i64 0, .int .i64 0, .int .i64 0, .int .i64 0, .int .i64 0, .int .i64 0, .string ⟨#[]⟩, .string ⟨#[]⟩, .string ⟨#[]⟩, .string ⟨#[]⟩, .int .i64 0] [(0, 1), (1, 1), (2, 1), (3, 1), (4, 1), (5, 1), (6, 1), (7, 1), (8, 1), (9, 1), (10, 1), (11, 1), (12, 1), (13, 1), (14, 1), (15, 1), (16, 10), (26, 1)] [(0, (.int .i64 107)), (1, (.int .i64 65535)), (17, (.int .i64 4))] fun t6 =>
 Ca PP Fn.styx_Encode #[t6] w3 fun t7 w8 =>
 Ex t7 0 fun t9 =>
 Ex t7 1 fun t10 =>
 Ca PP Fn.styx_Decode #[(.string ⟨#[20, 0, 0, 0, 110, 2, 1, 1, 0, 0, 0, 2, 0, 0, 0, 1, 0, 1, 0, 97]⟩)] w8 fun t11 w12 =>
 Ex t11 0 fun t13 =>
 Ex t11 1 fun t14 =>
 Al Ty.api_Msg #[.int .i64 0, .int .i64 0, .int .i64 0, .int .i64 0, .int .i64 0, .int .i64 0, .int .i64 0, .int .i64 0, .int .i64 0, .string ⟨#[]⟩, .string ⟨#[]⟩, .string ⟨#[]⟩, .string ⟨#[]⟩, .slice none 0 0, .slice none 0 0, .string ⟨#[]⟩, .int .i64 0, .int .i64 0, .int .i64 0, .int .i64 0, .int .i64 0, .int .i64 0, .string ⟨#[]⟩, .string ⟨#[]⟩, .string ⟨#[]⟩, .string ⟨#[]⟩, .int .i64 0] w12 fun t15 w16 =>
 St PP 27 t15 t13 w16 fun w17 =>
 ∀ J18 : List Value → World → Prop, (∀ t21, ∀ w20 : World, (∀ u19 : Env,
 R t21 w20) → J18 [t21] w20) →
 Bi .eql t5 (.int .i64 0) fun t22 =>
 Gd t22 true (fun k23 => k23 t4 w17) w17 fun t24 w25 =>
 Gd t22 true (fun k26 => Bi .eql t24 (.string ⟨#[11, 0, 0, 0, 120, 1, 0, 2, 0, 0, 0]⟩) fun t29 =>
 k26 t29 w25) w25 fun t27 w28 =>
 Pk t22 t27 (.bool false) fun t30 =>
 Gd t30 true (fun k31 => k31 t10 w28) w28 fun t32 w33 =>
 Gd t30 true (fun k34 => Bi .eql t32 (.int .i64 0) fun t37 =>
 k34 t37 w33) w33 fun t35 w36 =>
 Pk t30 t35 (.bool false) fun t38 =>
 Gd t38 true (fun k39 => k39 t9 w36) w36 fun t40 w41 =>
 Gd t38 true (fun k42 => Bi .eql t40 (.string ⟨#[9, 0, 0, 0, 107, 255, 255, 4, 0]⟩) fun t45 =>
 k42 t45 w41) w41 fun t43 w44 =>
 Pk t38 t43 (.bool false) fun t46 =>
 Gd t46 true (fun k47 => k47 t14 w44) w44 fun t48 w49 =>
 Gd t46 true (fun k50 => Bi .eql t48 (.int .i64 0) fun t53 =>
 k50 t53 w49) w49 fun t51 w52 =>
 Pk t46 t51 (.bool false) fun t54 =>
 Gd t54 true (fun k55 => LdA PP 27 t15 w52 fun t58 =>
 k55 t58 w52) w52 fun t56 w57 =>
 Gd t54 true (fun k59 => Ef PP (Instr.buildSlice Ty.sl_string 1 #[(0, (.string ⟨#[97]⟩))]) w57 fun t62 w63 =>
 k59 t62 w63) w57 fun t60 w61 =>
 Gd t54 true (fun k64 => Bd #[.int .i64 0, .int .i64 0, .int .i64 0, .int .i64 0, .int .i64 0, .int .i64 0, .int .i64 0, .int .i64 0, .int .i64 0, .string ⟨#[]⟩, .string ⟨#[]⟩, .string ⟨#[]⟩, .string ⟨#[]⟩, .slice none 0 0, .slice none 0 0, .string ⟨#[]⟩, .int .i64 0, .int .i64 0, .int .i64 0, .int .i64 0, .int .i64 0, .int .i64 0, .string ⟨#[]⟩, .string ⟨#[]⟩, .string ⟨#[]⟩, .string ⟨#[]⟩, .int .i64 0] [(0, 1), (1, 1), (2, 1), (3, 1), (4, 1), (5, 1), (6, 1), (7, 1), (8, 1), (9, 1), (10, 1), (11, 1), (12, 1), (13, 1), (14, 1), (15, 1), (16, 10), (26, 1)] [(0, (.int .i64 110)), (1, (.int .i64 258)), (2, (.int .i64 1)), (3, (.int .i64 2)), (13, t60)] fun t67 =>
 k64 t67 w61) w61 fun t65 w66 =>
 Gd t54 true (fun k68 => Ca PP Fn.law31_Same #[t56, t65] w66 fun t71 w72 =>
 k68 t71 w72) w66 fun t69 w70 =>
 Pk t54 t69 (.bool false) fun t73 =>
 J18 [t73] w70
def S.law31_awake.an : Ann := (.seq .leaf (.seq .leaf (.seq .leaf (.seq .leaf (.join .leaf [0] [21,22,23,24,25,26,27,28,29,30,31,32,33,34,35,36,37,38,39,40,41,42,43,44] .leaf)))))
theorem S.law31_awake.eq (w : World) (R : Value → World → Prop) : S.law31_awake  w R = fnC PP 45 (Tryd.f12.body.getD .skip) S.law31_awake.an [.tmp 0] [] w R := by kernel_rfl
theorem S.law31_awake.calls {w : World} {R : Value → World → Prop} (h : S.law31_awake w R) : Ca PP Fn.law31_awake #[] w R :=
  fnC_calls mixed (f := Fn.law31_awake) (an := S.law31_awake.an) Tryd.func12 rfl (by show _ ≤ _; exact Nat.le_of_ble_eq_true rfl) (S.law31_awake.eq w R ▸ h)
/-- acheron/acheronlaw31.Few -/
def S.law31_Few (a0 : Value) (w : World) (R : Value → World → Prop) : Prop :=
 Al Ty.api_Msg (a0 : Value).cells w fun t1 w2 =>
 Dr w2 fun w3 =>
 Fa 9 t1 fun t4 =>
 Ld t4 w3 fun t5 =>
 LnS t5 fun t6 =>
 Fa 10 t1 fun t7 =>
 Ld t7 w3 fun t8 =>
 LnS t8 fun t9 =>
 Bi .add t6 t9 fun t10 =>
 Fa 11 t1 fun t11 =>
 Ld t11 w3 fun t12 =>
 LnS t12 fun t13 =>
 Bi .add t10 t13 fun t14 =>
 Fa 12 t1 fun t15 =>
 Ld t15 w3 fun t16 =>
 LnS t16 fun t17 =>
 Bi .add t14 t17 fun t18 =>
 Fa 15 t1 fun t19 =>
 Ld t19 w3 fun t20 =>
 LnS t20 fun t21 =>
 Bi .add t18 t21 fun t22 =>
 Fa 16 t1 fun t23 =>
 LdA PP 10 t23 w3 fun t24 =>
 Ca PP Fn.law31_room #[t24] w3 fun t25 w26 =>
 (Ld t4 w26 fun t27 =>
 t27 = t5) ∧
 (Ld t7 w26 fun t28 =>
 t28 = t8) ∧
 (Ld t11 w26 fun t29 =>
 t29 = t12) ∧
 (Ld t15 w26 fun t30 =>
 t30 = t16) ∧
 (Ld t19 w26 fun t31 =>
 t31 = t20) ∧
 Bi .add t22 t25 fun t32 =>
 ∀ J33 : List Value → World → Prop, (∀ t36, ∀ w35 : World, (∀ u34 : Env,
 Cnd t36 (
 R (.bool false) w35) (
 Fa 13 t1 fun t37 =>
 Ld t37 w35 fun t38 =>
 LnL t38 fun t39 =>
 ∃ (I40 : List Value → World → Prop) (m41 : List Value → World → Nat), I40 [t32, (.int .i64 0)] w35 ∧ ∀ t44 t45, ∀ (u42 : Env) (w43 : World), I40 [t44, t45] w43 →
 Bi .lss t45 t39 fun t46 =>
 Cnd t46 (
 IxA 1 t38 t45 fun t47 =>
 Ld t47 w43 fun t48 =>
 LnS t48 fun t49 =>
 Bi .add t44 t49 fun t50 =>
 Bi .add t45 (.int .i64 1) fun t51 =>
 I40 [t50, t51] w43 ∧ m41 [t50, t51] w43 < m41 [t44, t45] w43) (
 Bi .leq t44 (.int .i64 20000) fun t52 =>
 R t52 w43))) → J33 [t36] w35) →
 Fa 13 t1 fun t53 =>
 Ld t53 w26 fun t54 =>
 LnL t54 fun t55 =>
 Bi .gtr t55 (.int .i64 40) fun t56 =>
 Gd t56 false (fun k57 => Fa 14 t1 fun t60 =>
 k57 t60 w26) w26 fun t58 w59 =>
 Gd t56 false (fun k61 => Ld t58 w59 fun t64 =>
 k61 t64 w59) w59 fun t62 w63 =>
 Gd t56 false (fun k65 => LnL t62 fun t68 =>
 k65 t68 w63) w63 fun t66 w67 =>
 Gd t56 false (fun k69 => Bi .gtr t66 (.int .i64 40) fun t72 =>
 k69 t72 w67) w67 fun t70 w71 =>
 Pk t56 (.bool true) t70 fun t73 =>
 J33 [t73] w71
def S.law31_Few.an : Ann := (.seq .leaf (.seq (.draw [[],[0],[0,1],[],[3],[3,4],[0,1,2,3,4,5],[],[7],[7,8],[0,1,2,3,4,5,6,7,8,9],[],[11],[11,12],[0,1,2,3,4,5,6,7,8,9,10,11,12,13],[],[15],[15,16],[0,1,2,3,4,5,6,7,8,9,10,11,12,13,14,15,16,17],[],[19],[19,20],[0,1,2,3,4,5,6,7,8,9,10,11,12,13,14,15,16,17,18,19,20,21],[0,1,2,3,4,5,6,7,8,9,10,11,12,13,14,15,16,17,18,19,20,21,22]] (.calm 0 (.calm 1 (.calm 2 (.calm 3 (.calm 4 (.calm 5 (.calm 6 (.calm 7 (.calm 8 (.calm 9 (.calm 10 (.calm 11 (.calm 12 (.calm 13 (.calm 14 (.calm 15 (.calm 16 (.calm 17 (.calm 18 (.calm 19 (.calm 20 (.eff1 21 [1,4,8,12,16] (.calm 22 (.calm 23 .done))))))))))))))))))))))))) (.seq (.join .leaf [38] [29,30,31,32,33,34,35,36,37] (.cond (.seq .leaf .leaf) .leaf)) (.seq (.seq .leaf (.block (.loop (.seq .leaf (.seq (.cond .leaf .leaf) (.seq (.block (.seq .leaf .leaf)) .leaf))) [3,42] [5,43,44,45,46,47,48,49,50]))) (.seq .leaf .leaf)))))
theorem S.law31_Few.eq (a0 : Value) (w : World) (R : Value → World → Prop) : S.law31_Few a0 w R = fnC PP 53 (Tryd.f13.body.getD .skip) S.law31_Few.an [.tmp 2] [a0] w R := by kernel_rfl
theorem S.law31_Few.calls {a0 : Value} {w : World} {R : Value → World → Prop} (h : S.law31_Few a0 w R) : Ca PP Fn.law31_Few #[a0] w R :=
  fnC_calls mixed (f := Fn.law31_Few) (an := S.law31_Few.an) Tryd.func13 rfl (by show _ ≤ _; exact Nat.le_of_ble_eq_true rfl) (S.law31_Few.eq a0 w R ▸ h)
/-- acheron/styx.Encode -/
def S.styx_Encode (a0 : Value) (w : World) (R : Value → World → Prop) : Prop :=
 Al Ty.api_Msg (a0 : Value).cells w fun t1 w2 =>
 Fa 0 t1 fun t3 =>
 Ld t3 w2 fun t4 =>
 Ca PP Fn.styx_known #[t4] w2 fun t5 w6 =>
 Un .not t5 fun t7 =>
 Cnd t7 (
 R (.tuple #[(.string ⟨#[]⟩), (.int .i64 13)]) w6) (
 LdA PP 27 t1 w6 fun t8 =>
 Ca PP Fn.styx_shaped #[t8] w6 fun t9 w10 =>
 Un .not t9 fun t11 =>
 Cnd t11 (
 R (.tuple #[(.string ⟨#[]⟩), (.int .i64 14)]) w10) (
 Bd #[.slice none 0 0, .bool false, .bool false] [(0, 1), (1, 1), (2, 1)] [] fun t12 =>
 Al Ty.styx_output (t12 : Value).cells w10 fun t13 w14 =>
 Dr w14 fun w15 =>
 Nc t13 fun t16 =>
 Fa 0 t16 fun t17 =>
 Fa 0 t1 fun t18 =>
 Ld t18 w15 fun t19 =>
 Ca PP Fn.wire_Writer_Little #[t17, t19, (.int .i64 1)] w15 fun t20 w21 =>
 Fa 1 t1 fun t22 =>
 Ca PP Fn.styx_output_num #[t13, t22, (.int .i64 2)] w21 fun t23 w24 =>
 Ca PP Fn.styx_fields #[(.iface Ty.p_styx_output t13), t1] w24 fun t25 w26 =>
 ∀ J27 : List Value → World → Prop, (∀ w29 : World, (∀ u28 : Env,
 Ca PP Fn.styx_output_err #[t13] w29 fun t30 w31 =>
 Bi .neq t30 (.int .i64 0) fun t32 =>
 Cnd t32 (
 R (.tuple #[(.string ⟨#[]⟩), t30]) w31) (
 Ca PP Fn.wire_NewWriter #[] w31 fun t33 w34 =>
 Nc t13 fun t35 =>
 Fa 0 t35 fun t36 =>
 Ca PP Fn.wire_Writer_Len #[t36] w34 fun t37 w38 =>
 Bi .add t37 (.int .i64 4) fun t39 =>
 Ca PP Fn.wire_Writer_Little #[t33, t39, (.int .i64 4)] w38 fun t40 w41 =>
 Nc t13 fun t42 =>
 Fa 0 t42 fun t43 =>
 Ca PP Fn.wire_Writer_Text #[t43] w41 fun t44 w45 =>
 Ca PP Fn.wire_Writer_Raw #[t33, t44] w45 fun t46 w47 =>
 Ca PP Fn.wire_Writer_Text #[t33] w47 fun t48 w49 =>
 R (.tuple #[t48, (.int .i64 0)]) w49)) → J27 [] w29) →
 Nc t13 fun t50 =>
 Fa 2 t50 fun t51 =>
 Ld t51 w26 fun t52 =>
 Gd t52 false (fun k53 => k53 t13 w26) w26 fun t54 w55 =>
 Gd t52 false (fun k56 => Nc t54 fun t59 =>
 k56 t59 w55) w55 fun t57 w58 =>
 Gd t52 false (fun k60 => Fa 0 t57 fun t63 =>
 k60 t63 w58) w58 fun t61 w62 =>
 Gd t52 false (fun k64 => Ca PP Fn.wire_Writer_Len #[t61] w62 fun t67 w68 =>
 k64 t67 w68) w62 fun t65 w66 =>
 Gd t52 false (fun k69 => Bi .add t65 (.int .i64 4) fun t72 =>
 k69 t72 w66) w66 fun t70 w71 =>
 Gd t52 false (fun k73 => Bi .gtr t70 (.int .i64 8192) fun t76 =>
 k73 t76 w71) w71 fun t74 w75 =>
 Pk t52 (.bool true) t74 fun t77 =>
 Nc t13 fun t78 =>
 Fa 2 t78 fun t79 =>
 St PP 1 t79 t77 w75 fun w80 =>
 J27 [] w80))
def S.styx_Encode.an : Ann := (.seq .leaf (.seq (.block (.seq .leaf (.cond (.seq .leaf .leaf) (.seq .leaf (.cond (.seq .leaf .leaf) .leaf))))) (.seq .leaf (.seq (.draw [[],[0],[0,1],[],[3],[0,1,2,3,4]] (.calm 0 (.calm 1 (.calm 2 (.calm 3 (.calm 4 (.eff1 5 [] .done))))))) (.seq .leaf (.seq .leaf (.join .leaf [] [30,31,32,33,34,35,36,37,38,39,40,41,42,43,44] (.seq (.seq .leaf (.seq .leaf (.cond (.seq .leaf .leaf) .leaf))) (.seq .leaf (.seq .leaf (.seq .leaf (.seq .leaf .leaf))))))))))))
theorem S.styx_Encode.eq (a0 : Value) (w : World) (R : Value → World → Prop) : S.styx_Encode a0 w R = fnC PP 66 (Tryd.f14.body.getD .skip) S.styx_Encode.an [.tmp 2, .tmp 3] [a0] w R := by kernel_rfl
theorem S.styx_Encode.calls {a0 : Value} {w : World} {R : Value → World → Prop} (h : S.styx_Encode a0 w R) : Ca PP Fn.styx_Encode #[a0] w R :=
  fnC_calls mixed (f := Fn.styx_Encode) (an := S.styx_Encode.an) Tryd.func14 rfl (by show _ ≤ _; exact Nat.le_of_ble_eq_true rfl) (S.styx_Encode.eq a0 w R ▸ h)
/-- acheron/acheronlaw31.Same -/
def S.law31_Same (a0 a1 : Value) (w : World) (R : Value → World → Prop) : Prop :=
 Al Ty.api_Msg (a0 : Value).cells w fun t1 w2 =>
 Al Ty.api_Msg (a1 : Value).cells w2 fun t3 w4 =>
 ∀ J5 : List Value → World → Prop, (∀ t8, ∀ w7 : World, (∀ u6 : Env,
 Cnd t8 (
 R (.bool false) w7) (
 ∀ J9 : List Value → World → Prop, (∀ t12, ∀ w11 : World, (∀ u10 : Env,
 R t12 w11) → J9 [t12] w11) →
 Fa 0 t1 fun t13 =>
 Ld t13 w7 fun t14 =>
 Fa 0 t3 fun t15 =>
 Ld t15 w7 fun t16 =>
 Bi .eql t14 t16 fun t17 =>
 Gd t17 true (fun k18 => Fa 1 t1 fun t21 =>
 k18 t21 w7) w7 fun t19 w20 =>
 Gd t17 true (fun k22 => Ld t19 w20 fun t25 =>
 k22 t25 w20) w20 fun t23 w24 =>
 Gd t17 true (fun k26 => Fa 1 t3 fun t29 =>
 k26 t29 w24) w24 fun t27 w28 =>
 Gd t17 true (fun k30 => Ld t27 w28 fun t33 =>
 k30 t33 w28) w28 fun t31 w32 =>
 Gd t17 true (fun k34 => Bi .eql t23 t31 fun t37 =>
 k34 t37 w32) w32 fun t35 w36 =>
 Pk t17 t35 (.bool false) fun t38 =>
 Gd t38 true (fun k39 => Fa 2 t1 fun t42 =>
 k39 t42 w36) w36 fun t40 w41 =>
 Gd t38 true (fun k43 => Ld t40 w41 fun t46 =>
 k43 t46 w41) w41 fun t44 w45 =>
 Gd t38 true (fun k47 => Fa 2 t3 fun t50 =>
 k47 t50 w45) w45 fun t48 w49 =>
 Gd t38 true (fun k51 => Ld t48 w49 fun t54 =>
 k51 t54 w49) w49 fun t52 w53 =>
 Gd t38 true (fun k55 => Bi .eql t44 t52 fun t58 =>
 k55 t58 w53) w53 fun t56 w57 =>
 Pk t38 t56 (.bool false) fun t59 =>
 Gd t59 true (fun k60 => Fa 3 t1 fun t63 =>
 k60 t63 w57) w57 fun t61 w62 =>
 Gd t59 true (fun k64 => Ld t61 w62 fun t67 =>
 k64 t67 w62) w62 fun t65 w66 =>
 Gd t59 true (fun k68 => Fa 3 t3 fun t71 =>
 k68 t71 w66) w66 fun t69 w70 =>
 Gd t59 true (fun k72 => Ld t69 w70 fun t75 =>
 k72 t75 w70) w70 fun t73 w74 =>
 Gd t59 true (fun k76 => Bi .eql t65 t73 fun t79 =>
 k76 t79 w74) w74 fun t77 w78 =>
 Pk t59 t77 (.bool false) fun t80 =>
 Gd t80 true (fun k81 => Fa 4 t1 fun t84 =>
 k81 t84 w78) w78 fun t82 w83 =>
 Gd t80 true (fun k85 => Ld t82 w83 fun t88 =>
 k85 t88 w83) w83 fun t86 w87 =>
 Gd t80 true (fun k89 => Fa 4 t3 fun t92 =>
 k89 t92 w87) w87 fun t90 w91 =>
 Gd t80 true (fun k93 => Ld t90 w91 fun t96 =>
 k93 t96 w91) w91 fun t94 w95 =>
 Gd t80 true (fun k97 => Bi .eql t86 t94 fun t100 =>
 k97 t100 w95) w95 fun t98 w99 =>
 Pk t80 t98 (.bool false) fun t101 =>
 Gd t101 true (fun k102 => Fa 5 t1 fun t105 =>
 k102 t105 w99) w99 fun t103 w104 =>
 Gd t101 true (fun k106 => Ld t103 w104 fun t109 =>
 k106 t109 w104) w104 fun t107 w108 =>
 Gd t101 true (fun k110 => Fa 5 t3 fun t113 =>
 k110 t113 w108) w108 fun t111 w112 =>
 Gd t101 true (fun k114 => Ld t111 w112 fun t117 =>
 k114 t117 w112) w112 fun t115 w116 =>
 Gd t101 true (fun k118 => Bi .eql t107 t115 fun t121 =>
 k118 t121 w116) w116 fun t119 w120 =>
 Pk t101 t119 (.bool false) fun t122 =>
 Gd t122 true (fun k123 => Fa 6 t1 fun t126 =>
 k123 t126 w120) w120 fun t124 w125 =>
 Gd t122 true (fun k127 => Ld t124 w125 fun t130 =>
 k127 t130 w125) w125 fun t128 w129 =>
 Gd t122 true (fun k131 => Fa 6 t3 fun t134 =>
 k131 t134 w129) w129 fun t132 w133 =>
 Gd t122 true (fun k135 => Ld t132 w133 fun t138 =>
 k135 t138 w133) w133 fun t136 w137 =>
 Gd t122 true (fun k139 => Bi .eql t128 t136 fun t142 =>
 k139 t142 w137) w137 fun t140 w141 =>
 Pk t122 t140 (.bool false) fun t143 =>
 Gd t143 true (fun k144 => Fa 7 t1 fun t147 =>
 k144 t147 w141) w141 fun t145 w146 =>
 Gd t143 true (fun k148 => Ld t145 w146 fun t151 =>
 k148 t151 w146) w146 fun t149 w150 =>
 Gd t143 true (fun k152 => Fa 7 t3 fun t155 =>
 k152 t155 w150) w150 fun t153 w154 =>
 Gd t143 true (fun k156 => Ld t153 w154 fun t159 =>
 k156 t159 w154) w154 fun t157 w158 =>
 Gd t143 true (fun k160 => Bi .eql t149 t157 fun t163 =>
 k160 t163 w158) w158 fun t161 w162 =>
 Pk t143 t161 (.bool false) fun t164 =>
 Gd t164 true (fun k165 => Fa 8 t1 fun t168 =>
 k165 t168 w162) w162 fun t166 w167 =>
 Gd t164 true (fun k169 => Ld t166 w167 fun t172 =>
 k169 t172 w167) w167 fun t170 w171 =>
 Gd t164 true (fun k173 => Fa 8 t3 fun t176 =>
 k173 t176 w171) w171 fun t174 w175 =>
 Gd t164 true (fun k177 => Ld t174 w175 fun t180 =>
 k177 t180 w175) w175 fun t178 w179 =>
 Gd t164 true (fun k181 => Bi .eql t170 t178 fun t184 =>
 k181 t184 w179) w179 fun t182 w183 =>
 Pk t164 t182 (.bool false) fun t185 =>
 Gd t185 true (fun k186 => Fa 9 t1 fun t189 =>
 k186 t189 w183) w183 fun t187 w188 =>
 Gd t185 true (fun k190 => Ld t187 w188 fun t193 =>
 k190 t193 w188) w188 fun t191 w192 =>
 Gd t185 true (fun k194 => Fa 9 t3 fun t197 =>
 k194 t197 w192) w192 fun t195 w196 =>
 Gd t185 true (fun k198 => Ld t195 w196 fun t201 =>
 k198 t201 w196) w196 fun t199 w200 =>
 Gd t185 true (fun k202 => Bi .eql t191 t199 fun t205 =>
 k202 t205 w200) w200 fun t203 w204 =>
 Pk t185 t203 (.bool false) fun t206 =>
 Gd t206 true (fun k207 => Fa 10 t1 fun t210 =>
 k207 t210 w204) w204 fun t208 w209 =>
 Gd t206 true (fun k211 => Ld t208 w209 fun t214 =>
 k211 t214 w209) w209 fun t212 w213 =>
 Gd t206 true (fun k215 => Fa 10 t3 fun t218 =>
 k215 t218 w213) w213 fun t216 w217 =>
 Gd t206 true (fun k219 => Ld t216 w217 fun t222 =>
 k219 t222 w217) w217 fun t220 w221 =>
 Gd t206 true (fun k223 => Bi .eql t212 t220 fun t226 =>
 k223 t226 w221) w221 fun t224 w225 =>
 Pk t206 t224 (.bool false) fun t227 =>
 Gd t227 true (fun k228 => Fa 11 t1 fun t231 =>
 k228 t231 w225) w225 fun t229 w230 =>
 Gd t227 true (fun k232 => Ld t229 w230 fun t235 =>
 k232 t235 w230) w230 fun t233 w234 =>
 Gd t227 true (fun k236 => Fa 11 t3 fun t239 =>
 k236 t239 w234) w234 fun t237 w238 =>
 Gd t227 true (fun k240 => Ld t237 w238 fun t243 =>
 k240 t243 w238) w238 fun t241 w242 =>
 Gd t227 true (fun k244 => Bi .eql t233 t241 fun t247 =>
 k244 t247 w242) w242 fun t245 w246 =>
 Pk t227 t245 (.bool false) fun t248 =>
 Gd t248 true (fun k249 => Fa 12 t1 fun t252 =>
 k249 t252 w246) w246 fun t250 w251 =>
 Gd t248 true (fun k253 => Ld t250 w251 fun t256 =>
 k253 t256 w251) w251 fun t254 w255 =>
 Gd t248 true (fun k257 => Fa 12 t3 fun t260 =>
 k257 t260 w255) w255 fun t258 w259 =>
 Gd t248 true (fun k261 => Ld t258 w259 fun t264 =>
 k261 t264 w259) w259 fun t262 w263 =>
 Gd t248 true (fun k265 => Bi .eql t254 t262 fun t268 =>
 k265 t268 w263) w263 fun t266 w267 =>
 Pk t248 t266 (.bool false) fun t269 =>
 Gd t269 true (fun k270 => Fa 15 t1 fun t273 =>
 k270 t273 w267) w267 fun t271 w272 =>
 Gd t269 true (fun k274 => Ld t271 w272 fun t277 =>
 k274 t277 w272) w272 fun t275 w276 =>
 Gd t269 true (fun k278 => Fa 15 t3 fun t281 =>
 k278 t281 w276) w276 fun t279 w280 =>
 Gd t269 true (fun k282 => Ld t279 w280 fun t285 =>
 k282 t285 w280) w280 fun t283 w284 =>
 Gd t269 true (fun k286 => Bi .eql t275 t283 fun t289 =>
 k286 t289 w284) w284 fun t287 w288 =>
 Pk t269 t287 (.bool false) fun t290 =>
 Gd t290 true (fun k291 => Fa 16 t1 fun t294 =>
 k291 t294 w288) w288 fun t292 w293 =>
 Gd t290 true (fun k295 => LdA PP 10 t292 w293 fun t298 =>
 k295 t298 w293) w293 fun t296 w297 =>
 Gd t290 true (fun k299 => Fa 16 t3 fun t302 =>
 k299 t302 w297) w297 fun t300 w301 =>
 Gd t290 true (fun k303 => LdA PP 10 t300 w301 fun t306 =>
 k303 t306 w301) w301 fun t304 w305 =>
 Gd t290 true (fun k307 => Rd PP (eqS .eql Ty.api_Dir (.tmp 117) (.tmp 119) t296 t304) w305 fun t310 =>
 k307 t310 w305) w305 fun t308 w309 =>
 Pk t290 t308 (.bool false) fun t311 =>
 Gd t311 true (fun k312 => Fa 26 t1 fun t315 =>
 k312 t315 w309) w309 fun t313 w314 =>
 Gd t311 true (fun k316 => Ld t313 w314 fun t319 =>
 k316 t319 w314) w314 fun t317 w318 =>
 Gd t311 true (fun k320 => Fa 26 t3 fun t323 =>
 k320 t323 w318) w318 fun t321 w322 =>
 Gd t311 true (fun k324 => Ld t321 w322 fun t327 =>
 k324 t327 w322) w322 fun t325 w326 =>
 Gd t311 true (fun k328 => Bi .eql t317 t325 fun t331 =>
 k328 t331 w326) w326 fun t329 w330 =>
 Pk t311 t329 (.bool false) fun t332 =>
 J9 [t332] w330)) → J5 [t8] w7) →
 Fa 13 t1 fun t333 =>
 Ld t333 w4 fun t334 =>
 Fa 13 t3 fun t335 =>
 Ld t335 w4 fun t336 =>
 Ca PP Fn.slices_Equal_sl_string_string #[t334, t336] w4 fun t337 w338 =>
 Un .not t337 fun t339 =>
 Gd t339 false (fun k340 => Fa 14 t1 fun t343 =>
 k340 t343 w338) w338 fun t341 w342 =>
 Gd t339 false (fun k344 => Ld t341 w342 fun t347 =>
 k344 t347 w342) w342 fun t345 w346 =>
 Gd t339 false (fun k348 => Fa 14 t3 fun t351 =>
 k348 t351 w346) w346 fun t349 w350 =>
 Gd t339 false (fun k352 => Ld t349 w350 fun t355 =>
 k352 t355 w350) w350 fun t353 w354 =>
 Gd t339 false (fun k356 => Ca PP Fn.slices_Equal_sl_api_Qid_api_Qid #[t345, t353] w354 fun t359 w360 =>
 k356 t359 w360) w354 fun t357 w358 =>
 Gd t339 false (fun k361 => Un .not t357 fun t364 =>
 k361 t364 w358) w358 fun t362 w363 =>
 Pk t339 (.bool true) t362 fun t365 =>
 J5 [t365] w363
def S.law31_Same.an : Ann := (.seq .leaf (.seq (.join .leaf [18] [5,6,7,8,9,10,11,12,13,14,15,16,17] (.cond (.seq .leaf .leaf) .leaf)) (.join .leaf [4] [19,20,21,22,23,24,25,26,27,28,29,30,31,32,33,34,35,36,37,38,39,40,41,42,43,44,45,46,47,48,49,50,51,52,53,54,55,56,57,58,59,60,61,62,63,64,65,66,67,68,69,70,71,72,73,74,75,76,77,78,79,80,81,82,83,84,85,86,87,88,89,90,91,92,93,94,95,96,97,98,99,100,101,102,103,104,105,106,107,108,109,110,111,112,113,114,115,116,117,118,119,120,121,122,123,124,125,126,127,128] .leaf)))
theorem S.law31_Same.eq (a0 a1 : Value) (w : World) (R : Value → World → Prop) : S.law31_Same a0 a1 w R = fnC PP 129 (Tryd.f15.body.getD .skip) S.law31_Same.an [.tmp 4] [a0, a1] w R := by kernel_rfl
theorem S.law31_Same.calls {a0 a1 : Value} {w : World} {R : Value → World → Prop} (h : S.law31_Same a0 a1 w R) : Ca PP Fn.law31_Same #[a0, a1] w R :=
  fnC_calls mixed (f := Fn.law31_Same) (an := S.law31_Same.an) Tryd.func15 rfl (by show _ ≤ _; exact Nat.le_of_ble_eq_true rfl) (S.law31_Same.eq a0 a1 w R ▸ h)
/-- acheron/styx.Decode -/
def S.styx_Decode (a0 : Value) (w : World) (R : Value → World → Prop) : Prop :=
 Al Ty.api_Msg #[.int .i64 0, .int .i64 0, .int .i64 0, .int .i64 0, .int .i64 0, .int .i64 0, .int .i64 0, .int .i64 0, .int .i64 0, .string ⟨#[]⟩, .string ⟨#[]⟩, .string ⟨#[]⟩, .string ⟨#[]⟩, .slice none 0 0, .slice none 0 0, .string ⟨#[]⟩, .int .i64 0, .int .i64 0, .int .i64 0, .int .i64 0, .int .i64 0, .int .i64 0, .string ⟨#[]⟩, .string ⟨#[]⟩, .string ⟨#[]⟩, .string ⟨#[]⟩, .int .i64 0] w fun t1 w2 =>
 Ca PP Fn.styx_length #[a0] w2 fun t3 w4 =>
 LnS a0 fun t5 =>
 Bi .lss t5 (.int .i64 7) fun t6 =>
 Cnd t6 (
 Bd #[.int .i64 0, .int .i64 0, .int .i64 0, .int .i64 0, .int .i64 0, .int .i64 0, .int .i64 0, .int .i64 0, .int .i64 0, .string ⟨#[]⟩, .string ⟨#[]⟩, .string ⟨#[]⟩, .string ⟨#[]⟩, .slice none 0 0, .slice none 0 0, .string ⟨#[]⟩, .int .i64 0, .int .i64 0, .int .i64 0, .int .i64 0, .int .i64 0, .int .i64 0, .string ⟨#[]⟩, .string ⟨#[]⟩, .string ⟨#[]⟩, .string ⟨#[]⟩, .int .i64 0] [(0, 1), (1, 1), (2, 1), (3, 1), (4, 1), (5, 1), (6, 1), (7, 1), (8, 1), (9, 1), (10, 1), (11, 1), (12, 1), (13, 1), (14, 1), (15, 1), (16, 10), (26, 1)] [] fun t7 =>
 St PP 27 t1 t7 w4 fun w8 =>
 LdA PP 27 t1 w8 fun t9 =>
 R (.tuple #[t9, (.int .i64 16)]) w8) (
 Bi .gtr t3 (.int .i64 8192) fun t10 =>
 Cnd t10 (
 Bd #[.int .i64 0, .int .i64 0, .int .i64 0, .int .i64 0, .int .i64 0, .int .i64 0, .int .i64 0, .int .i64 0, .int .i64 0, .string ⟨#[]⟩, .string ⟨#[]⟩, .string ⟨#[]⟩, .string ⟨#[]⟩, .slice none 0 0, .slice none 0 0, .string ⟨#[]⟩, .int .i64 0, .int .i64 0, .int .i64 0, .int .i64 0, .int .i64 0, .int .i64 0, .string ⟨#[]⟩, .string ⟨#[]⟩, .string ⟨#[]⟩, .string ⟨#[]⟩, .int .i64 0] [(0, 1), (1, 1), (2, 1), (3, 1), (4, 1), (5, 1), (6, 1), (7, 1), (8, 1), (9, 1), (10, 1), (11, 1), (12, 1), (13, 1), (14, 1), (15, 1), (16, 10), (26, 1)] [] fun t11 =>
 St PP 27 t1 t11 w4 fun w12 =>
 LdA PP 27 t1 w12 fun t13 =>
 R (.tuple #[t13, (.int .i64 3)]) w12) (
 LnS a0 fun t14 =>
 Bi .neq t3 t14 fun t15 =>
 Cnd t15 (
 Bd #[.int .i64 0, .int .i64 0, .int .i64 0, .int .i64 0, .int .i64 0, .int .i64 0, .int .i64 0, .int .i64 0, .int .i64 0, .string ⟨#[]⟩, .string ⟨#[]⟩, .string ⟨#[]⟩, .string ⟨#[]⟩, .slice none 0 0, .slice none 0 0, .string ⟨#[]⟩, .int .i64 0, .int .i64 0, .int .i64 0, .int .i64 0, .int .i64 0, .int .i64 0, .string ⟨#[]⟩, .string ⟨#[]⟩, .string ⟨#[]⟩, .string ⟨#[]⟩, .int .i64 0] [(0, 1), (1, 1), (2, 1), (3, 1), (4, 1), (5, 1), (6, 1), (7, 1), (8, 1), (9, 1), (10, 1), (11, 1), (12, 1), (13, 1), (14, 1), (15, 1), (16, 10), (26, 1)] [] fun t16 =>
 St PP 27 t1 t16 w4 fun w17 =>
 LdA PP 27 t1 w17 fun t18 =>
 R (.tuple #[t18, (.int .i64 14)]) w17) (
 SlS a0 (some (.int .i64 4)) none fun t19 =>
 Ca PP Fn.wire_NewReader #[t19] w4 fun t20 w21 =>
 Bd #[.pointer none, .bool false, .bool false, .bool false] [(0, 1), (1, 1), (2, 1), (3, 1)] [(0, t20)] fun t22 =>
 Al Ty.styx_input (t22 : Value).cells w21 fun t23 w24 =>
 Al Ty.api_Msg #[.int .i64 0, .int .i64 0, .int .i64 0, .int .i64 0, .int .i64 0, .int .i64 0, .int .i64 0, .int .i64 0, .int .i64 0, .string ⟨#[]⟩, .string ⟨#[]⟩, .string ⟨#[]⟩, .string ⟨#[]⟩, .slice none 0 0, .slice none 0 0, .string ⟨#[]⟩, .int .i64 0, .int .i64 0, .int .i64 0, .int .i64 0, .int .i64 0, .int .i64 0, .string ⟨#[]⟩, .string ⟨#[]⟩, .string ⟨#[]⟩, .string ⟨#[]⟩, .int .i64 0] w24 fun t25 w26 =>
 Fa 0 t25 fun t27 =>
 Ca PP Fn.styx_input_num #[t23, t27, (.int .i64 1)] w26 fun t28 w29 =>
 Fa 1 t25 fun t30 =>
 Ca PP Fn.styx_input_num #[t23, t30, (.int .i64 2)] w29 fun t31 w32 =>
 Fa 0 t25 fun t33 =>
 Ld t33 w32 fun t34 =>
 Ca PP Fn.styx_known #[t34] w32 fun t35 w36 =>
 Un .not t35 fun t37 =>
 Cnd t37 (
 Bd #[.int .i64 0, .int .i64 0, .int .i64 0, .int .i64 0, .int .i64 0, .int .i64 0, .int .i64 0, .int .i64 0, .int .i64 0, .string ⟨#[]⟩, .string ⟨#[]⟩, .string ⟨#[]⟩, .string ⟨#[]⟩, .slice none 0 0, .slice none 0 0, .string ⟨#[]⟩, .int .i64 0, .int .i64 0, .int .i64 0, .int .i64 0, .int .i64 0, .int .i64 0, .string ⟨#[]⟩, .string ⟨#[]⟩, .string ⟨#[]⟩, .string ⟨#[]⟩, .int .i64 0] [(0, 1), (1, 1), (2, 1), (3, 1), (4, 1), (5, 1), (6, 1), (7, 1), (8, 1), (9, 1), (10, 1), (11, 1), (12, 1), (13, 1), (14, 1), (15, 1), (16, 10), (26, 1)] [] fun t38 =>
 St PP 27 t1 t38 w36 fun w39 =>
 LdA PP 27 t1 w39 fun t40 =>
 R (.tuple #[t40, (.int .i64 13)]) w39) (
 Ca PP Fn.styx_fields #[(.iface Ty.p_styx_input t23), t25] w36 fun t41 w42 =>
 Ca PP Fn.styx_input_finish #[t23] w42 fun t43 w44 =>
 Ca PP Fn.styx_input_err #[t23] w44 fun t45 w46 =>
 Bi .neq t45 (.int .i64 0) fun t47 =>
 Cnd t47 (
 Bd #[.int .i64 0, .int .i64 0, .int .i64 0, .int .i64 0, .int .i64 0, .int .i64 0, .int .i64 0, .int .i64 0, .int .i64 0, .string ⟨#[]⟩, .string ⟨#[]⟩, .string ⟨#[]⟩, .string ⟨#[]⟩, .slice none 0 0, .slice none 0 0, .string ⟨#[]⟩, .int .i64 0, .int .i64 0, .int .i64 0, .int .i64 0, .int .i64 0, .int .i64 0, .string ⟨#[]⟩, .string ⟨#[]⟩, .string ⟨#[]⟩, .string ⟨#[]⟩, .int .i64 0] [(0, 1), (1, 1), (2, 1), (3, 1), (4, 1), (5, 1), (6, 1), (7, 1), (8, 1), (9, 1), (10, 1), (11, 1), (12, 1), (13, 1), (14, 1), (15, 1), (16, 10), (26, 1)] [] fun t48 =>
 St PP 27 t1 t48 w46 fun w49 =>
 LdA PP 27 t1 w49 fun t50 =>
 R (.tuple #[t50, t45]) w49) (
 LdA PP 27 t25 w46 fun t51 =>
 St PP 27 t1 t51 w46 fun w52 =>
 LdA PP 27 t1 w52 fun t53 =>
 R (.tuple #[t53, (.int .i64 0)]) w52)))))
def S.styx_Decode.an : Ann := (.seq .leaf (.seq (.seq .leaf (.block (.seq .leaf (.cond (.seq .leaf .leaf) (.seq .leaf (.cond (.seq .leaf .leaf) (.seq .leaf (.cond (.seq .leaf .leaf) .leaf)))))))) (.seq .leaf (.seq .leaf (.seq .leaf (.seq .leaf (.seq (.seq .leaf (.cond (.seq .leaf .leaf) .leaf)) (.seq .leaf (.seq .leaf (.seq (.seq .leaf (.seq .leaf (.cond (.seq .leaf .leaf) .leaf))) (.seq .leaf .leaf)))))))))))
theorem S.styx_Decode.eq (a0 : Value) (w : World) (R : Value → World → Prop) : S.styx_Decode a0 w R = fnC PP 53 (Tryd.f16.body.getD .skip) S.styx_Decode.an [.cell 2 30, .tmp 3] [a0] w R := by kernel_rfl
theorem S.styx_Decode.calls {a0 : Value} {w : World} {R : Value → World → Prop} (h : S.styx_Decode a0 w R) : Ca PP Fn.styx_Decode #[a0] w R :=
  fnC_calls mixed (f := Fn.styx_Decode) (an := S.styx_Decode.an) Tryd.func16 rfl (by show _ ≤ _; exact Nat.le_of_ble_eq_true rfl) (S.styx_Decode.eq a0 w R ▸ h)
/-- acheron/acheronref31.Decode -/
def S.r31_Decode (a0 : Value) (w : World) (R : Value → World → Prop) : Prop :=
 Al Ty.api_Msg #[.int .i64 0, .int .i64 0, .int .i64 0, .int .i64 0, .int .i64 0, .int .i64 0, .int .i64 0, .int .i64 0, .int .i64 0, .string ⟨#[]⟩, .string ⟨#[]⟩, .string ⟨#[]⟩, .string ⟨#[]⟩, .slice none 0 0, .slice none 0 0, .string ⟨#[]⟩, .int .i64 0, .int .i64 0, .int .i64 0, .int .i64 0, .int .i64 0, .int .i64 0, .string ⟨#[]⟩, .string ⟨#[]⟩, .string ⟨#[]⟩, .string ⟨#[]⟩, .int .i64 0] w fun t1 w2 =>
 LnS a0 fun t3 =>
 Bi .lss t3 (.int .i64 7) fun t4 =>
 Cnd t4 (
 Bd #[.int .i64 0, .int .i64 0, .int .i64 0, .int .i64 0, .int .i64 0, .int .i64 0, .int .i64 0, .int .i64 0, .int .i64 0, .string ⟨#[]⟩, .string ⟨#[]⟩, .string ⟨#[]⟩, .string ⟨#[]⟩, .slice none 0 0, .slice none 0 0, .string ⟨#[]⟩, .int .i64 0, .int .i64 0, .int .i64 0, .int .i64 0, .int .i64 0, .int .i64 0, .string ⟨#[]⟩, .string ⟨#[]⟩, .string ⟨#[]⟩, .string ⟨#[]⟩, .int .i64 0] [(0, 1), (1, 1), (2, 1), (3, 1), (4, 1), (5, 1), (6, 1), (7, 1), (8, 1), (9, 1), (10, 1), (11, 1), (12, 1), (13, 1), (14, 1), (15, 1), (16, 10), (26, 1)] [] fun t5 =>
 St PP 27 t1 t5 w2 fun w6 =>
 LdA PP 27 t1 w6 fun t7 =>
 R (.tuple #[t7, (.int .i64 16)]) w6) (
 SlS a0 none (some (.int .i64 4)) fun t8 =>
 Ca PP Fn.r31_value #[t8] w2 fun t9 w10 =>
 Cv .i64 t9 fun t11 =>
 Bi .gtr t11 (.int .i64 8192) fun t12 =>
 Cnd t12 (
 Bd #[.int .i64 0, .int .i64 0, .int .i64 0, .int .i64 0, .int .i64 0, .int .i64 0, .int .i64 0, .int .i64 0, .int .i64 0, .string ⟨#[]⟩, .string ⟨#[]⟩, .string ⟨#[]⟩, .string ⟨#[]⟩, .slice none 0 0, .slice none 0 0, .string ⟨#[]⟩, .int .i64 0, .int .i64 0, .int .i64 0, .int .i64 0, .int .i64 0, .int .i64 0, .string ⟨#[]⟩, .string ⟨#[]⟩, .string ⟨#[]⟩, .string ⟨#[]⟩, .int .i64 0] [(0, 1), (1, 1), (2, 1), (3, 1), (4, 1), (5, 1), (6, 1), (7, 1), (8, 1), (9, 1), (10, 1), (11, 1), (12, 1), (13, 1), (14, 1), (15, 1), (16, 10), (26, 1)] [] fun t13 =>
 St PP 27 t1 t13 w10 fun w14 =>
 LdA PP 27 t1 w14 fun t15 =>
 R (.tuple #[t15, (.int .i64 3)]) w14) (
 LnS a0 fun t16 =>
 Bi .neq t11 t16 fun t17 =>
 Cnd t17 (
 Bd #[.int .i64 0, .int .i64 0, .int .i64 0, .int .i64 0, .int .i64 0, .int .i64 0, .int .i64 0, .int .i64 0, .int .i64 0, .string ⟨#[]⟩, .string ⟨#[]⟩, .string ⟨#[]⟩, .string ⟨#[]⟩, .slice none 0 0, .slice none 0 0, .string ⟨#[]⟩, .int .i64 0, .int .i64 0, .int .i64 0, .int .i64 0, .int .i64 0, .int .i64 0, .string ⟨#[]⟩, .string ⟨#[]⟩, .string ⟨#[]⟩, .string ⟨#[]⟩, .int .i64 0] [(0, 1), (1, 1), (2, 1), (3, 1), (4, 1), (5, 1), (6, 1), (7, 1), (8, 1), (9, 1), (10, 1), (11, 1), (12, 1), (13, 1), (14, 1), (15, 1), (16, 10), (26, 1)] [] fun t18 =>
 St PP 27 t1 t18 w10 fun w19 =>
 LdA PP 27 t1 w19 fun t20 =>
 R (.tuple #[t20, (.int .i64 14)]) w19) (
 Dr w10 fun w21 =>
 IxS a0 (.int .i64 4) fun t22 =>
 Cv .i64 t22 fun t23 =>
 SlS a0 (some (.int .i64 5)) (some (.int .i64 7)) fun t24 =>
 (Ca PP Fn.r31_value #[t24] w21 fun t25 w26 =>
 Cv .i64 t25 fun t27 =>
 Bd #[.int .i64 0, .int .i64 0, .int .i64 0, .int .i64 0, .int .i64 0, .int .i64 0, .int .i64 0, .int .i64 0, .int .i64 0, .string ⟨#[]⟩, .string ⟨#[]⟩, .string ⟨#[]⟩, .string ⟨#[]⟩, .slice none 0 0, .slice none 0 0, .string ⟨#[]⟩, .int .i64 0, .int .i64 0, .int .i64 0, .int .i64 0, .int .i64 0, .int .i64 0, .string ⟨#[]⟩, .string ⟨#[]⟩, .string ⟨#[]⟩, .string ⟨#[]⟩, .int .i64 0] [(0, 1), (1, 1), (2, 1), (3, 1), (4, 1), (5, 1), (6, 1), (7, 1), (8, 1), (9, 1), (10, 1), (11, 1), (12, 1), (13, 1), (14, 1), (15, 1), (16, 10), (26, 1)] [(0, t23), (1, t27)] fun t28 =>
 Al Ty.api_Msg #[.int .i64 0, .int .i64 0, .int .i64 0, .int .i64 0, .int .i64 0, .int .i64 0, .int .i64 0, .int .i64 0, .int .i64 0, .string ⟨#[]⟩, .string ⟨#[]⟩, .string ⟨#[]⟩, .string ⟨#[]⟩, .slice none 0 0, .slice none 0 0, .string ⟨#[]⟩, .int .i64 0, .int .i64 0, .int .i64 0, .int .i64 0, .int .i64 0, .int .i64 0, .string ⟨#[]⟩, .string ⟨#[]⟩, .string ⟨#[]⟩, .string ⟨#[]⟩, .int .i64 0] w26 fun t29 w30 =>
 St PP 27 t29 t28 w30 fun w31 =>
 Fa 0 t29 fun t32 =>
 Ld t32 w31 fun t33 =>
 Ca PP Fn.r31_Fields #[t33] w31 fun t34 w35 =>
 Ex t34 0 fun t36 =>
 Ex t34 1 fun t37 =>
 Un .not t37 fun t38 =>
 Cnd t38 (
 Bd #[.int .i64 0, .int .i64 0, .int .i64 0, .int .i64 0, .int .i64 0, .int .i64 0, .int .i64 0, .int .i64 0, .int .i64 0, .string ⟨#[]⟩, .string ⟨#[]⟩, .string ⟨#[]⟩, .string ⟨#[]⟩, .slice none 0 0, .slice none 0 0, .string ⟨#[]⟩, .int .i64 0, .int .i64 0, .int .i64 0, .int .i64 0, .int .i64 0, .int .i64 0, .string ⟨#[]⟩, .string ⟨#[]⟩, .string ⟨#[]⟩, .string ⟨#[]⟩, .int .i64 0] [(0, 1), (1, 1), (2, 1), (3, 1), (4, 1), (5, 1), (6, 1), (7, 1), (8, 1), (9, 1), (10, 1), (11, 1), (12, 1), (13, 1), (14, 1), (15, 1), (16, 10), (26, 1)] [] fun t39 =>
 St PP 27 t1 t39 w35 fun w40 =>
 LdA PP 27 t1 w40 fun t41 =>
 R (.tuple #[t41, (.int .i64 13)]) w40) (
 Bd #[.string ⟨#[]⟩, .int .i64 0, .bool false] [(0, 1), (1, 1), (2, 1)] [(0, a0), (1, (.int .i64 7))] fun t42 =>
 Al Ty.r31_reader #[.string ⟨#[]⟩, .int .i64 0, .bool false] w35 fun t43 w44 =>
 St PP 3 t43 t42 w44 fun w45 =>
 ∃ (I46 : List Value → World → Prop) (m47 : List Value → World → Nat), I46 [(.int .i64 0)] w45 ∧ ∀ t50, ∀ (u48 : Env) (w49 : World), I46 [t50] w49 →
 LnS t36 fun t51 =>
 Bi .lss t50 t51 fun t52 =>
 Cnd t52 (
 ∀ J53 : List Value → World → Prop, (∀ w55 : World, (∀ u54 : Env,
 Bi .add t50 (.int .i64 1) fun t56 =>
 I46 [t56] w55 ∧ m47 [t56] w55 < m47 [t50] w49) → J53 [] w55) →
 IxS t36 t50 fun t57 =>
 Bi .eql t57 (.int .u8 83) fun t58 =>
 Cnd t58 (
 LdA PP 3 t43 w49 fun t59 =>
 Ca PP Fn.r31_readNumber #[t59, (.int .i64 4)] w49 fun t60 w61 =>
 Ex t60 0 fun t62 =>
 Ex t60 1 fun t63 =>
 Fa 5 t29 fun t64 =>
 St PP 1 t64 t62 w61 fun w65 =>
 St PP 3 t43 t63 w65 fun w66 =>
 J53 [] w66) (
 Bi .eql t57 (.int .u8 102) fun t67 =>
 Cnd t67 (
 LdA PP 3 t43 w49 fun t68 =>
 Ca PP Fn.r31_readNumber #[t68, (.int .i64 4)] w49 fun t69 w70 =>
 Ex t69 0 fun t71 =>
 Ex t69 1 fun t72 =>
 Fa 2 t29 fun t73 =>
 St PP 1 t73 t71 w70 fun w74 =>
 St PP 3 t43 t72 w74 fun w75 =>
 J53 [] w75) (
 Bi .eql t57 (.int .u8 111) fun t76 =>
 Cnd t76 (
 LdA PP 3 t43 w49 fun t77 =>
 Ca PP Fn.r31_readNumber #[t77, (.int .i64 4)] w49 fun t78 w79 =>
 Ex t78 0 fun t80 =>
 Ex t78 1 fun t81 =>
 Fa 3 t29 fun t82 =>
 St PP 1 t82 t80 w79 fun w83 =>
 St PP 3 t43 t81 w83 fun w84 =>
 J53 [] w84) (
 Bi .eql t57 (.int .u8 112) fun t85 =>
 Cnd t85 (
 LdA PP 3 t43 w49 fun t86 =>
 Ca PP Fn.r31_readNumber #[t86, (.int .i64 4)] w49 fun t87 w88 =>
 Ex t87 0 fun t89 =>
 Ex t87 1 fun t90 =>
 Fa 8 t29 fun t91 =>
 St PP 1 t91 t89 w88 fun w92 =>
 St PP 3 t43 t90 w92 fun w93 =>
 J53 [] w93) (
 Bi .eql t57 (.int .u8 99) fun t94 =>
 Cnd t94 (
 LdA PP 3 t43 w49 fun t95 =>
 Ca PP Fn.r31_readNumber #[t95, (.int .i64 2)] w49 fun t96 w97 =>
 Ex t96 0 fun t98 =>
 Ex t96 1 fun t99 =>
 St PP 3 t43 t99 w97 fun w100 =>
 Fa 26 t29 fun t101 =>
 St PP 1 t101 t98 w100 fun w102 =>
 J53 [] w102) (
 Bi .eql t57 (.int .u8 100) fun t103 =>
 Cnd t103 (
 LdA PP 3 t43 w49 fun t104 =>
 Ca PP Fn.r31_readNumber #[t104, (.int .i64 2)] w49 fun t105 w106 =>
 Ex t105 0 fun t107 =>
 Ex t105 1 fun t108 =>
 Fa 4 t29 fun t109 =>
 St PP 1 t109 t107 w106 fun w110 =>
 St PP 3 t43 t108 w110 fun w111 =>
 J53 [] w111) (
 Bi .eql t57 (.int .u8 109) fun t112 =>
 Cnd t112 (
 LdA PP 3 t43 w49 fun t113 =>
 Ca PP Fn.r31_readNumber #[t113, (.int .i64 1)] w49 fun t114 w115 =>
 Ex t114 0 fun t116 =>
 Ex t114 1 fun t117 =>
 Fa 7 t29 fun t118 =>
 St PP 1 t118 t116 w115 fun w119 =>
 St PP 3 t43 t117 w119 fun w120 =>
 J53 [] w120) (
 Bi .eql t57 (.int .u8 79) fun t121 =>
 Cnd t121 (
 LdA PP 3 t43 w49 fun t122 =>
 Ca PP Fn.r31_readLong #[t122] w49 fun t123 w124 =>
 Ex t123 0 fun t125 =>
 Ex t123 1 fun t126 =>
 Fa 6 t29 fun t127 =>
 St PP 1 t127 t125 w124 fun w128 =>
 St PP 3 t43 t126 w128 fun w129 =>
 J53 [] w129) (
 Bi .eql t57 (.int .u8 118) fun t130 =>
 Cnd t130 (
 LdA PP 3 t43 w49 fun t131 =>
 Ca PP Fn.r31_readWord #[t131] w49 fun t132 w133 =>
 Ex t132 0 fun t134 =>
 Ex t132 1 fun t135 =>
 Fa 9 t29 fun t136 =>
 St PP 1 t136 t134 w133 fun w137 =>
 St PP 3 t43 t135 w137 fun w138 =>
 J53 [] w138) (
 Bi .eql t57 (.int .u8 117) fun t139 =>
 Cnd t139 (
 LdA PP 3 t43 w49 fun t140 =>
 Ca PP Fn.r31_readWord #[t140] w49 fun t141 w142 =>
 Ex t141 0 fun t143 =>
 Ex t141 1 fun t144 =>
 Fa 10 t29 fun t145 =>
 St PP 1 t145 t143 w142 fun w146 =>
 St PP 3 t43 t144 w146 fun w147 =>
 J53 [] w147) (
 Bi .eql t57 (.int .u8 116) fun t148 =>
 Cnd t148 (
 LdA PP 3 t43 w49 fun t149 =>
 Ca PP Fn.r31_readWord #[t149] w49 fun t150 w151 =>
 Ex t150 0 fun t152 =>
 Ex t150 1 fun t153 =>
 Fa 11 t29 fun t154 =>
 St PP 1 t154 t152 w151 fun w155 =>
 St PP 3 t43 t153 w155 fun w156 =>
 J53 [] w156) (
 Bi .eql t57 (.int .u8 78) fun t157 =>
 Cnd t157 (
 LdA PP 3 t43 w49 fun t158 =>
 Ca PP Fn.r31_readWord #[t158] w49 fun t159 w160 =>
 Ex t159 0 fun t161 =>
 Ex t159 1 fun t162 =>
 Fa 12 t29 fun t163 =>
 St PP 1 t163 t161 w160 fun w164 =>
 St PP 3 t43 t162 w164 fun w165 =>
 J53 [] w165) (
 Bi .eql t57 (.int .u8 68) fun t166 =>
 Cnd t166 (
 LdA PP 3 t43 w49 fun t167 =>
 Ca PP Fn.r31_readNumber #[t167, (.int .i64 4)] w49 fun t168 w169 =>
 Ex t168 0 fun t170 =>
 Ex t168 1 fun t171 =>
 St PP 3 t43 t171 w169 fun w172 =>
 LdA PP 3 t43 w172 fun t173 =>
 Ca PP Fn.r31_take #[t173, t170] w172 fun t174 w175 =>
 Ex t174 0 fun t176 =>
 Ex t174 1 fun t177 =>
 Fa 15 t29 fun t178 =>
 St PP 1 t178 t176 w175 fun w179 =>
 St PP 3 t43 t177 w179 fun w180 =>
 J53 [] w180) (
 Bi .eql t57 (.int .u8 113) fun t181 =>
 Cnd t181 (
 Bd #[.int .i64 0, .int .i64 0, .int .i64 0] [(0, 1), (1, 1), (2, 1)] [] fun t182 =>
 Al Ty.api_Qid #[.int .i64 0, .int .i64 0, .int .i64 0] w49 fun t183 w184 =>
 St PP 3 t183 t182 w184 fun w185 =>
 LdA PP 3 t43 w185 fun t186 =>
 Ca PP Fn.r31_readQid #[t186] w185 fun t187 w188 =>
 Ex t187 0 fun t189 =>
 Ex t187 1 fun t190 =>
 St PP 3 t183 t189 w188 fun w191 =>
 St PP 3 t43 t190 w191 fun w192 =>
 LdA PP 3 t183 w192 fun t193 =>
 Ef PP (Instr.buildSlice Ty.sl_api_Qid 1 #[(0, t193)]) w192 fun t194 w195 =>
 Fa 14 t29 fun t196 =>
 St PP 1 t196 t194 w195 fun w197 =>
 J53 [] w197) (
 Bi .eql t57 (.int .u8 81) fun t198 =>
 Cnd t198 (
 LdA PP 3 t43 w49 fun t199 =>
 Ca PP Fn.r31_readNumber #[t199, (.int .i64 2)] w49 fun t200 w201 =>
 Ex t200 0 fun t202 =>
 Ex t200 1 fun t203 =>
 St PP 3 t43 t203 w201 fun w204 =>
 ∃ (I205 : List Value → World → Prop) (m206 : List Value → World → Nat), I205 [(.int .i64 0)] w204 ∧ ∀ t209, ∀ (u207 : Env) (w208 : World), I205 [t209] w208 →
 ∀ J210 : List Value → World → Prop, (∀ t213, ∀ w212 : World, (∀ u211 : Env,
 Cnd t213 (
 Bd #[.int .i64 0, .int .i64 0, .int .i64 0] [(0, 1), (1, 1), (2, 1)] [] fun t214 =>
 Al Ty.api_Qid #[.int .i64 0, .int .i64 0, .int .i64 0] w212 fun t215 w216 =>
 St PP 3 t215 t214 w216 fun w217 =>
 LdA PP 3 t43 w217 fun t218 =>
 Ca PP Fn.r31_readQid #[t218] w217 fun t219 w220 =>
 Ex t219 0 fun t221 =>
 Ex t219 1 fun t222 =>
 St PP 3 t215 t221 w220 fun w223 =>
 St PP 3 t43 t222 w223 fun w224 =>
 Fa 14 t29 fun t225 =>
 Ld t225 w224 fun t226 =>
 LdA PP 3 t215 w224 fun t227 =>
 Ef PP (Instr.buildSlice Ty.sl_api_Qid 1 #[(0, t227)]) w224 fun t228 w229 =>
 Ef PP (Builtin.append_ #[Ty.sl_api_Qid, Ty.sl_api_Qid] Ty.sl_api_Qid #[t226, t228]) w229 fun t230 w231 =>
 Fa 14 t29 fun t232 =>
 St PP 1 t232 t230 w231 fun w233 =>
 Bi .add t209 (.int .i64 1) fun t234 =>
 I205 [t234] w233 ∧ m206 [t234] w233 < m206 [t209] w208) (
 J53 [] w212)) → J210 [t213] w212) →
 Bi .lss t209 t202 fun t235 =>
 Gd t235 true (fun k236 => Fa 2 t43 fun t239 =>
 k236 t239 w208) w208 fun t237 w238 =>
 Gd t235 true (fun k240 => Ld t237 w238 fun t243 =>
 k240 t243 w238) w238 fun t241 w242 =>
 Gd t235 true (fun k244 => Un .not t241 fun t247 =>
 k244 t247 w242) w242 fun t245 w246 =>
 Pk t235 t245 (.bool false) fun t248 =>
 J210 [t248] w246) (
 Bi .eql t57 (.int .u8 105) fun t249 =>
 Cnd t249 (
 LdA PP 3 t43 w49 fun t250 =>
 Ca PP Fn.r31_readDir #[t250] w49 fun t251 w252 =>
 Ex t251 0 fun t253 =>
 Ex t251 1 fun t254 =>
 Fa 16 t29 fun t255 =>
 St PP 10 t255 t253 w252 fun w256 =>
 St PP 3 t43 t254 w256 fun w257 =>
 J53 [] w257) (
 Bi .eql t57 (.int .u8 110) fun t258 =>
 Cnd t258 (
 LdA PP 3 t43 w49 fun t259 =>
 Ca PP Fn.r31_readNumber #[t259, (.int .i64 2)] w49 fun t260 w261 =>
 Ex t260 0 fun t262 =>
 Ex t260 1 fun t263 =>
 St PP 3 t43 t263 w261 fun w264 =>
 ∃ (I265 : List Value → World → Prop) (m266 : List Value → World → Nat), I265 [(.int .i64 0)] w264 ∧ ∀ t269, ∀ (u267 : Env) (w268 : World), I265 [t269] w268 →
 ∀ J270 : List Value → World → Prop, (∀ t273, ∀ w272 : World, (∀ u271 : Env,
 Cnd t273 (
 LdA PP 3 t43 w272 fun t274 =>
 Ca PP Fn.r31_readWord #[t274] w272 fun t275 w276 =>
 Ex t275 0 fun t277 =>
 Ex t275 1 fun t278 =>
 St PP 3 t43 t278 w276 fun w279 =>
 Fa 13 t29 fun t280 =>
 Ld t280 w279 fun t281 =>
 Ef PP (Instr.buildSlice Ty.sl_string 1 #[(0, t277)]) w279 fun t282 w283 =>
 Ef PP (Builtin.append_ #[Ty.sl_string, Ty.sl_string] Ty.sl_string #[t281, t282]) w283 fun t284 w285 =>
 Fa 13 t29 fun t286 =>
 St PP 1 t286 t284 w285 fun w287 =>
 Bi .add t269 (.int .i64 1) fun t288 =>
 I265 [t288] w287 ∧ m266 [t288] w287 < m266 [t269] w268) (
 J53 [] w272)) → J270 [t273] w272) →
 Bi .lss t269 t262 fun t289 =>
 Gd t289 true (fun k290 => Fa 2 t43 fun t293 =>
 k290 t293 w268) w268 fun t291 w292 =>
 Gd t289 true (fun k294 => Ld t291 w292 fun t297 =>
 k294 t297 w292) w292 fun t295 w296 =>
 Gd t289 true (fun k298 => Un .not t295 fun t301 =>
 k298 t301 w296) w296 fun t299 w300 =>
 Pk t289 t299 (.bool false) fun t302 =>
 J270 [t302] w300) (
 J53 [] w49)))))))))))))))))) (
 ∀ J303 : List Value → World → Prop, (∀ t306, ∀ w305 : World, (∀ u304 : Env,
 Cnd t306 (
 Bd #[.int .i64 0, .int .i64 0, .int .i64 0, .int .i64 0, .int .i64 0, .int .i64 0, .int .i64 0, .int .i64 0, .int .i64 0, .string ⟨#[]⟩, .string ⟨#[]⟩, .string ⟨#[]⟩, .string ⟨#[]⟩, .slice none 0 0, .slice none 0 0, .string ⟨#[]⟩, .int .i64 0, .int .i64 0, .int .i64 0, .int .i64 0, .int .i64 0, .int .i64 0, .string ⟨#[]⟩, .string ⟨#[]⟩, .string ⟨#[]⟩, .string ⟨#[]⟩, .int .i64 0] [(0, 1), (1, 1), (2, 1), (3, 1), (4, 1), (5, 1), (6, 1), (7, 1), (8, 1), (9, 1), (10, 1), (11, 1), (12, 1), (13, 1), (14, 1), (15, 1), (16, 10), (26, 1)] [] fun t307 =>
 St PP 27 t1 t307 w305 fun w308 =>
 LdA PP 27 t1 w308 fun t309 =>
 R (.tuple #[t309, (.int .i64 2)]) w308) (
 LdA PP 27 t29 w305 fun t310 =>
 Ca PP Fn.r31_Check #[t310] w305 fun t311 w312 =>
 Bi .neq t311 (.int .i64 0) fun t313 =>
 Cnd t313 (
 Bd #[.int .i64 0, .int .i64 0, .int .i64 0, .int .i64 0, .int .i64 0, .int .i64 0, .int .i64 0, .int .i64 0, .int .i64 0, .string ⟨#[]⟩, .string ⟨#[]⟩, .string ⟨#[]⟩, .string ⟨#[]⟩, .slice none 0 0, .slice none 0 0, .string ⟨#[]⟩, .int .i64 0, .int .i64 0, .int .i64 0, .int .i64 0, .int .i64 0, .int .i64 0, .string ⟨#[]⟩, .string ⟨#[]⟩, .string ⟨#[]⟩, .string ⟨#[]⟩, .int .i64 0] [(0, 1), (1, 1), (2, 1), (3, 1), (4, 1), (5, 1), (6, 1), (7, 1), (8, 1), (9, 1), (10, 1), (11, 1), (12, 1), (13, 1), (14, 1), (15, 1), (16, 10), (26, 1)] [] fun t314 =>
 St PP 27 t1 t314 w312 fun w315 =>
 LdA PP 27 t1 w315 fun t316 =>
 R (.tuple #[t316, t311]) w315) (
 LdA PP 27 t29 w312 fun t317 =>
 St PP 27 t1 t317 w312 fun w318 =>
 LdA PP 27 t1 w318 fun t319 =>
 R (.tuple #[t319, (.int .i64 0)]) w318))) → J303 [t306] w305) →
 Fa 2 t43 fun t320 =>
 Ld t320 w49 fun t321 =>
 Gd t321 false (fun k322 => Fa 1 t43 fun t325 =>
 k322 t325 w49) w49 fun t323 w324 =>
 Gd t321 false (fun k326 => Ld t323 w324 fun t329 =>
 k326 t329 w324) w324 fun t327 w328 =>
 Gd t321 false (fun k330 => k330 a0 w328) w328 fun t331 w332 =>
 Gd t321 false (fun k333 => LnS t331 fun t336 =>
 k333 t336 w332) w332 fun t334 w335 =>
 Gd t321 false (fun k337 => Bi .neq t327 t334 fun t340 =>
 k337 t340 w335) w335 fun t338 w339 =>
 Pk t321 (.bool true) t338 fun t341 =>
 J303 [t341] w339))) ∧ (Al Ty.api_Msg #[.int .i64 0, .int .i64 0, .int .i64 0, .int .i64 0, .int .i64 0, .int .i64 0, .int .i64 0, .int .i64 0, .int .i64 0, .string ⟨#[]⟩, .string ⟨#[]⟩, .string ⟨#[]⟩, .string ⟨#[]⟩, .slice none 0 0, .slice none 0 0, .string ⟨#[]⟩, .int .i64 0, .int .i64 0, .int .i64 0, .int .i64 0, .int .i64 0, .int .i64 0, .string ⟨#[]⟩, .string ⟨#[]⟩, .string ⟨#[]⟩, .string ⟨#[]⟩, .int .i64 0] w21 fun t342 w343 =>
 Ca PP Fn.r31_value #[t24] w343 fun t344 w345 =>
 Cv .i64 t344 fun t346 =>
 Bd #[.int .i64 0, .int .i64 0, .int .i64 0, .int .i64 0, .int .i64 0, .int .i64 0, .int .i64 0, .int .i64 0, .int .i64 0, .string ⟨#[]⟩, .string ⟨#[]⟩, .string ⟨#[]⟩, .string ⟨#[]⟩, .slice none 0 0, .slice none 0 0, .string ⟨#[]⟩, .int .i64 0, .int .i64 0, .int .i64 0, .int .i64 0, .int .i64 0, .int .i64 0, .string ⟨#[]⟩, .string ⟨#[]⟩, .string ⟨#[]⟩, .string ⟨#[]⟩, .int .i64 0] [(0, 1), (1, 1), (2, 1), (3, 1), (4, 1), (5, 1), (6, 1), (7, 1), (8, 1), (9, 1), (10, 1), (11, 1), (12, 1), (13, 1), (14, 1), (15, 1), (16, 10), (26, 1)] [(0, t23), (1, t346)] fun t347 =>
 St PP 27 t342 t347 w345 fun w348 =>
 Fa 0 t342 fun t349 =>
 Ld t349 w348 fun t350 =>
 Ca PP Fn.r31_Fields #[t350] w348 fun t351 w352 =>
 Ex t351 0 fun t353 =>
 Ex t351 1 fun t354 =>
 Un .not t354 fun t355 =>
 Cnd t355 (
 Bd #[.int .i64 0, .int .i64 0, .int .i64 0, .int .i64 0, .int .i64 0, .int .i64 0, .int .i64 0, .int .i64 0, .int .i64 0, .string ⟨#[]⟩, .string ⟨#[]⟩, .string ⟨#[]⟩, .string ⟨#[]⟩, .slice none 0 0, .slice none 0 0, .string ⟨#[]⟩, .int .i64 0, .int .i64 0, .int .i64 0, .int .i64 0, .int .i64 0, .int .i64 0, .string ⟨#[]⟩, .string ⟨#[]⟩, .string ⟨#[]⟩, .string ⟨#[]⟩, .int .i64 0] [(0, 1), (1, 1), (2, 1), (3, 1), (4, 1), (5, 1), (6, 1), (7, 1), (8, 1), (9, 1), (10, 1), (11, 1), (12, 1), (13, 1), (14, 1), (15, 1), (16, 10), (26, 1)] [] fun t356 =>
 St PP 27 t1 t356 w352 fun w357 =>
 LdA PP 27 t1 w357 fun t358 =>
 R (.tuple #[t358, (.int .i64 13)]) w357) (
 Bd #[.string ⟨#[]⟩, .int .i64 0, .bool false] [(0, 1), (1, 1), (2, 1)] [(0, a0), (1, (.int .i64 7))] fun t359 =>
 Al Ty.r31_reader #[.string ⟨#[]⟩, .int .i64 0, .bool false] w352 fun t360 w361 =>
 St PP 3 t360 t359 w361 fun w362 =>
 ∃ (I363 : List Value → World → Prop) (m364 : List Value → World → Nat), I363 [(.int .i64 0)] w362 ∧ ∀ t367, ∀ (u365 : Env) (w366 : World), I363 [t367] w366 →
 LnS t353 fun t368 =>
 Bi .lss t367 t368 fun t369 =>
 Cnd t369 (
 ∀ J370 : List Value → World → Prop, (∀ w372 : World, (∀ u371 : Env,
 Bi .add t367 (.int .i64 1) fun t373 =>
 I363 [t373] w372 ∧ m364 [t373] w372 < m364 [t367] w366) → J370 [] w372) →
 IxS t353 t367 fun t374 =>
 Bi .eql t374 (.int .u8 83) fun t375 =>
 Cnd t375 (
 LdA PP 3 t360 w366 fun t376 =>
 Ca PP Fn.r31_readNumber #[t376, (.int .i64 4)] w366 fun t377 w378 =>
 Ex t377 0 fun t379 =>
 Ex t377 1 fun t380 =>
 Fa 5 t342 fun t381 =>
 St PP 1 t381 t379 w378 fun w382 =>
 St PP 3 t360 t380 w382 fun w383 =>
 J370 [] w383) (
 Bi .eql t374 (.int .u8 102) fun t384 =>
 Cnd t384 (
 LdA PP 3 t360 w366 fun t385 =>
 Ca PP Fn.r31_readNumber #[t385, (.int .i64 4)] w366 fun t386 w387 =>
 Ex t386 0 fun t388 =>
 Ex t386 1 fun t389 =>
 Fa 2 t342 fun t390 =>
 St PP 1 t390 t388 w387 fun w391 =>
 St PP 3 t360 t389 w391 fun w392 =>
 J370 [] w392) (
 Bi .eql t374 (.int .u8 111) fun t393 =>
 Cnd t393 (
 LdA PP 3 t360 w366 fun t394 =>
 Ca PP Fn.r31_readNumber #[t394, (.int .i64 4)] w366 fun t395 w396 =>
 Ex t395 0 fun t397 =>
 Ex t395 1 fun t398 =>
 Fa 3 t342 fun t399 =>
 St PP 1 t399 t397 w396 fun w400 =>
 St PP 3 t360 t398 w400 fun w401 =>
 J370 [] w401) (
 Bi .eql t374 (.int .u8 112) fun t402 =>
 Cnd t402 (
 LdA PP 3 t360 w366 fun t403 =>
 Ca PP Fn.r31_readNumber #[t403, (.int .i64 4)] w366 fun t404 w405 =>
 Ex t404 0 fun t406 =>
 Ex t404 1 fun t407 =>
 Fa 8 t342 fun t408 =>
 St PP 1 t408 t406 w405 fun w409 =>
 St PP 3 t360 t407 w409 fun w410 =>
 J370 [] w410) (
 Bi .eql t374 (.int .u8 99) fun t411 =>
 Cnd t411 (
 LdA PP 3 t360 w366 fun t412 =>
 Ca PP Fn.r31_readNumber #[t412, (.int .i64 2)] w366 fun t413 w414 =>
 Ex t413 0 fun t415 =>
 Ex t413 1 fun t416 =>
 St PP 3 t360 t416 w414 fun w417 =>
 Fa 26 t342 fun t418 =>
 St PP 1 t418 t415 w417 fun w419 =>
 J370 [] w419) (
 Bi .eql t374 (.int .u8 100) fun t420 =>
 Cnd t420 (
 LdA PP 3 t360 w366 fun t421 =>
 Ca PP Fn.r31_readNumber #[t421, (.int .i64 2)] w366 fun t422 w423 =>
 Ex t422 0 fun t424 =>
 Ex t422 1 fun t425 =>
 Fa 4 t342 fun t426 =>
 St PP 1 t426 t424 w423 fun w427 =>
 St PP 3 t360 t425 w427 fun w428 =>
 J370 [] w428) (
 Bi .eql t374 (.int .u8 109) fun t429 =>
 Cnd t429 (
 LdA PP 3 t360 w366 fun t430 =>
 Ca PP Fn.r31_readNumber #[t430, (.int .i64 1)] w366 fun t431 w432 =>
 Ex t431 0 fun t433 =>
 Ex t431 1 fun t434 =>
 Fa 7 t342 fun t435 =>
 St PP 1 t435 t433 w432 fun w436 =>
 St PP 3 t360 t434 w436 fun w437 =>
 J370 [] w437) (
 Bi .eql t374 (.int .u8 79) fun t438 =>
 Cnd t438 (
 LdA PP 3 t360 w366 fun t439 =>
 Ca PP Fn.r31_readLong #[t439] w366 fun t440 w441 =>
 Ex t440 0 fun t442 =>
 Ex t440 1 fun t443 =>
 Fa 6 t342 fun t444 =>
 St PP 1 t444 t442 w441 fun w445 =>
 St PP 3 t360 t443 w445 fun w446 =>
 J370 [] w446) (
 Bi .eql t374 (.int .u8 118) fun t447 =>
 Cnd t447 (
 LdA PP 3 t360 w366 fun t448 =>
 Ca PP Fn.r31_readWord #[t448] w366 fun t449 w450 =>
 Ex t449 0 fun t451 =>
 Ex t449 1 fun t452 =>
 Fa 9 t342 fun t453 =>
 St PP 1 t453 t451 w450 fun w454 =>
 St PP 3 t360 t452 w454 fun w455 =>
 J370 [] w455) (
 Bi .eql t374 (.int .u8 117) fun t456 =>
 Cnd t456 (
 LdA PP 3 t360 w366 fun t457 =>
 Ca PP Fn.r31_readWord #[t457] w366 fun t458 w459 =>
 Ex t458 0 fun t460 =>
 Ex t458 1 fun t461 =>
 Fa 10 t342 fun t462 =>
 St PP 1 t462 t460 w459 fun w463 =>
 St PP 3 t360 t461 w463 fun w464 =>
 J370 [] w464) (
 Bi .eql t374 (.int .u8 116) fun t465 =>
 Cnd t465 (
 LdA PP 3 t360 w366 fun t466 =>
 Ca PP Fn.r31_readWord #[t466] w366 fun t467 w468 =>
 Ex t467 0 fun t469 =>
 Ex t467 1 fun t470 =>
 Fa 11 t342 fun t471 =>
 St PP 1 t471 t469 w468 fun w472 =>
 St PP 3 t360 t470 w472 fun w473 =>
 J370 [] w473) (
 Bi .eql t374 (.int .u8 78) fun t474 =>
 Cnd t474 (
 LdA PP 3 t360 w366 fun t475 =>
 Ca PP Fn.r31_readWord #[t475] w366 fun t476 w477 =>
 Ex t476 0 fun t478 =>
 Ex t476 1 fun t479 =>
 Fa 12 t342 fun t480 =>
 St PP 1 t480 t478 w477 fun w481 =>
 St PP 3 t360 t479 w481 fun w482 =>
 J370 [] w482) (
 Bi .eql t374 (.int .u8 68) fun t483 =>
 Cnd t483 (
 LdA PP 3 t360 w366 fun t484 =>
 Ca PP Fn.r31_readNumber #[t484, (.int .i64 4)] w366 fun t485 w486 =>
 Ex t485 0 fun t487 =>
 Ex t485 1 fun t488 =>
 St PP 3 t360 t488 w486 fun w489 =>
 LdA PP 3 t360 w489 fun t490 =>
 Ca PP Fn.r31_take #[t490, t487] w489 fun t491 w492 =>
 Ex t491 0 fun t493 =>
 Ex t491 1 fun t494 =>
 Fa 15 t342 fun t495 =>
 St PP 1 t495 t493 w492 fun w496 =>
 St PP 3 t360 t494 w496 fun w497 =>
 J370 [] w497) (
 Bi .eql t374 (.int .u8 113) fun t498 =>
 Cnd t498 (
 Bd #[.int .i64 0, .int .i64 0, .int .i64 0] [(0, 1), (1, 1), (2, 1)] [] fun t499 =>
 Al Ty.api_Qid #[.int .i64 0, .int .i64 0, .int .i64 0] w366 fun t500 w501 =>
 St PP 3 t500 t499 w501 fun w502 =>
 LdA PP 3 t360 w502 fun t503 =>
 Ca PP Fn.r31_readQid #[t503] w502 fun t504 w505 =>
 Ex t504 0 fun t506 =>
 Ex t504 1 fun t507 =>
 St PP 3 t500 t506 w505 fun w508 =>
 St PP 3 t360 t507 w508 fun w509 =>
 LdA PP 3 t500 w509 fun t510 =>
 Ef PP (Instr.buildSlice Ty.sl_api_Qid 1 #[(0, t510)]) w509 fun t511 w512 =>
 Fa 14 t342 fun t513 =>
 St PP 1 t513 t511 w512 fun w514 =>
 J370 [] w514) (
 Bi .eql t374 (.int .u8 81) fun t515 =>
 Cnd t515 (
 LdA PP 3 t360 w366 fun t516 =>
 Ca PP Fn.r31_readNumber #[t516, (.int .i64 2)] w366 fun t517 w518 =>
 Ex t517 0 fun t519 =>
 Ex t517 1 fun t520 =>
 St PP 3 t360 t520 w518 fun w521 =>
 ∃ (I522 : List Value → World → Prop) (m523 : List Value → World → Nat), I522 [(.int .i64 0)] w521 ∧ ∀ t526, ∀ (u524 : Env) (w525 : World), I522 [t526] w525 →
 ∀ J527 : List Value → World → Prop, (∀ t530, ∀ w529 : World, (∀ u528 : Env,
 Cnd t530 (
 Bd #[.int .i64 0, .int .i64 0, .int .i64 0] [(0, 1), (1, 1), (2, 1)] [] fun t531 =>
 Al Ty.api_Qid #[.int .i64 0, .int .i64 0, .int .i64 0] w529 fun t532 w533 =>
 St PP 3 t532 t531 w533 fun w534 =>
 LdA PP 3 t360 w534 fun t535 =>
 Ca PP Fn.r31_readQid #[t535] w534 fun t536 w537 =>
 Ex t536 0 fun t538 =>
 Ex t536 1 fun t539 =>
 St PP 3 t532 t538 w537 fun w540 =>
 St PP 3 t360 t539 w540 fun w541 =>
 Fa 14 t342 fun t542 =>
 Ld t542 w541 fun t543 =>
 LdA PP 3 t532 w541 fun t544 =>
 Ef PP (Instr.buildSlice Ty.sl_api_Qid 1 #[(0, t544)]) w541 fun t545 w546 =>
 Ef PP (Builtin.append_ #[Ty.sl_api_Qid, Ty.sl_api_Qid] Ty.sl_api_Qid #[t543, t545]) w546 fun t547 w548 =>
 Fa 14 t342 fun t549 =>
 St PP 1 t549 t547 w548 fun w550 =>
 Bi .add t526 (.int .i64 1) fun t551 =>
 I522 [t551] w550 ∧ m523 [t551] w550 < m523 [t526] w525) (
 J370 [] w529)) → J527 [t530] w529) →
 Bi .lss t526 t519 fun t552 =>
 Gd t552 true (fun k553 => Fa 2 t360 fun t556 =>
 k553 t556 w525) w525 fun t554 w555 =>
 Gd t552 true (fun k557 => Ld t554 w555 fun t560 =>
 k557 t560 w555) w555 fun t558 w559 =>
 Gd t552 true (fun k561 => Un .not t558 fun t564 =>
 k561 t564 w559) w559 fun t562 w563 =>
 Pk t552 t562 (.bool false) fun t565 =>
 J527 [t565] w563) (
 Bi .eql t374 (.int .u8 105) fun t566 =>
 Cnd t566 (
 LdA PP 3 t360 w366 fun t567 =>
 Ca PP Fn.r31_readDir #[t567] w366 fun t568 w569 =>
 Ex t568 0 fun t570 =>
 Ex t568 1 fun t571 =>
 Fa 16 t342 fun t572 =>
 St PP 10 t572 t570 w569 fun w573 =>
 St PP 3 t360 t571 w573 fun w574 =>
 J370 [] w574) (
 Bi .eql t374 (.int .u8 110) fun t575 =>
 Cnd t575 (
 LdA PP 3 t360 w366 fun t576 =>
 Ca PP Fn.r31_readNumber #[t576, (.int .i64 2)] w366 fun t577 w578 =>
 Ex t577 0 fun t579 =>
 Ex t577 1 fun t580 =>
 St PP 3 t360 t580 w578 fun w581 =>
 ∃ (I582 : List Value → World → Prop) (m583 : List Value → World → Nat), I582 [(.int .i64 0)] w581 ∧ ∀ t586, ∀ (u584 : Env) (w585 : World), I582 [t586] w585 →
 ∀ J587 : List Value → World → Prop, (∀ t590, ∀ w589 : World, (∀ u588 : Env,
 Cnd t590 (
 LdA PP 3 t360 w589 fun t591 =>
 Ca PP Fn.r31_readWord #[t591] w589 fun t592 w593 =>
 Ex t592 0 fun t594 =>
 Ex t592 1 fun t595 =>
 St PP 3 t360 t595 w593 fun w596 =>
 Fa 13 t342 fun t597 =>
 Ld t597 w596 fun t598 =>
 Ef PP (Instr.buildSlice Ty.sl_string 1 #[(0, t594)]) w596 fun t599 w600 =>
 Ef PP (Builtin.append_ #[Ty.sl_string, Ty.sl_string] Ty.sl_string #[t598, t599]) w600 fun t601 w602 =>
 Fa 13 t342 fun t603 =>
 St PP 1 t603 t601 w602 fun w604 =>
 Bi .add t586 (.int .i64 1) fun t605 =>
 I582 [t605] w604 ∧ m583 [t605] w604 < m583 [t586] w585) (
 J370 [] w589)) → J587 [t590] w589) →
 Bi .lss t586 t579 fun t606 =>
 Gd t606 true (fun k607 => Fa 2 t360 fun t610 =>
 k607 t610 w585) w585 fun t608 w609 =>
 Gd t606 true (fun k611 => Ld t608 w609 fun t614 =>
 k611 t614 w609) w609 fun t612 w613 =>
 Gd t606 true (fun k615 => Un .not t612 fun t618 =>
 k615 t618 w613) w613 fun t616 w617 =>
 Pk t606 t616 (.bool false) fun t619 =>
 J587 [t619] w617) (
 J370 [] w366)))))))))))))))))) (
 ∀ J620 : List Value → World → Prop, (∀ t623, ∀ w622 : World, (∀ u621 : Env,
 Cnd t623 (
 Bd #[.int .i64 0, .int .i64 0, .int .i64 0, .int .i64 0, .int .i64 0, .int .i64 0, .int .i64 0, .int .i64 0, .int .i64 0, .string ⟨#[]⟩, .string ⟨#[]⟩, .string ⟨#[]⟩, .string ⟨#[]⟩, .slice none 0 0, .slice none 0 0, .string ⟨#[]⟩, .int .i64 0, .int .i64 0, .int .i64 0, .int .i64 0, .int .i64 0, .int .i64 0, .string ⟨#[]⟩, .string ⟨#[]⟩, .string ⟨#[]⟩, .string ⟨#[]⟩, .int .i64 0] [(0, 1), (1, 1), (2, 1), (3, 1), (4, 1), (5, 1), (6, 1), (7, 1), (8, 1), (9, 1), (10, 1), (11, 1), (12, 1), (13, 1), (14, 1), (15, 1), (16, 10), (26, 1)] [] fun t624 =>
 St PP 27 t1 t624 w622 fun w625 =>
 LdA PP 27 t1 w625 fun t626 =>
 R (.tuple #[t626, (.int .i64 2)]) w625) (
 LdA PP 27 t342 w622 fun t627 =>
 Ca PP Fn.r31_Check #[t627] w622 fun t628 w629 =>
 Bi .neq t628 (.int .i64 0) fun t630 =>
 Cnd t630 (
 Bd #[.int .i64 0, .int .i64 0, .int .i64 0, .int .i64 0, .int .i64 0, .int .i64 0, .int .i64 0, .int .i64 0, .int .i64 0, .string ⟨#[]⟩, .string ⟨#[]⟩, .string ⟨#[]⟩, .string ⟨#[]⟩, .slice none 0 0, .slice none 0 0, .string ⟨#[]⟩, .int .i64 0, .int .i64 0, .int .i64 0, .int .i64 0, .int .i64 0, .int .i64 0, .string ⟨#[]⟩, .string ⟨#[]⟩, .string ⟨#[]⟩, .string ⟨#[]⟩, .int .i64 0] [(0, 1), (1, 1), (2, 1), (3, 1), (4, 1), (5, 1), (6, 1), (7, 1), (8, 1), (9, 1), (10, 1), (11, 1), (12, 1), (13, 1), (14, 1), (15, 1), (16, 10), (26, 1)] [] fun t631 =>
 St PP 27 t1 t631 w629 fun w632 =>
 LdA PP 27 t1 w632 fun t633 =>
 R (.tuple #[t633, t628]) w632) (
 LdA PP 27 t342 w629 fun t634 =>
 St PP 27 t1 t634 w629 fun w635 =>
 LdA PP 27 t1 w635 fun t636 =>
 R (.tuple #[t636, (.int .i64 0)]) w635))) → J620 [t623] w622) →
 Fa 2 t360 fun t637 =>
 Ld t637 w366 fun t638 =>
 Gd t638 false (fun k639 => Fa 1 t360 fun t642 =>
 k639 t642 w366) w366 fun t640 w641 =>
 Gd t638 false (fun k643 => Ld t640 w641 fun t646 =>
 k643 t646 w641) w641 fun t644 w645 =>
 Gd t638 false (fun k647 => k647 a0 w645) w645 fun t648 w649 =>
 Gd t638 false (fun k650 => LnS t648 fun t653 =>
 k650 t653 w649) w649 fun t651 w652 =>
 Gd t638 false (fun k654 => Bi .neq t644 t651 fun t657 =>
 k654 t657 w652) w652 fun t655 w656 =>
 Pk t638 (.bool true) t655 fun t658 =>
 J620 [t658] w656))) ∧ True)))
def S.r31_Decode.an : Ann := (.seq .leaf (.seq (.seq .leaf (.cond (.seq .leaf .leaf) .leaf)) (.seq .leaf (.seq (.seq .leaf (.cond (.seq .leaf .leaf) .leaf)) (.seq (.seq .leaf (.cond (.seq .leaf .leaf) .leaf)) (.seq (.draw [[],[0],[0,1],[],[3],[3,4],[3,4,5],[0,1,2,3,4,5,6],[],[0,1,2,3,4,5,6,7,8]] (.calm 0 (.calm 1 (.calm 2 (.calm 3 (.calm 4 (.effs 5 [] (.calm 6 (.calm 7 (.eff1 8 [] (.eff1 9 [] .done)))) (.effs 8 [] (.eff1 5 [] (.calm 6 (.calm 7 (.eff1 9 [] .done)))) .none)))))))) (.seq .leaf (.seq (.seq .leaf (.cond (.seq .leaf .leaf) .leaf)) (.seq .leaf (.seq (.seq .leaf (.block (.loop (.seq (.seq .leaf (.cond .leaf .leaf)) (.join (.block (.seq .leaf (.seq .leaf (.block (.seq .leaf (.cond .leaf (.seq .leaf (.cond .leaf (.seq .leaf (.cond .leaf (.seq .leaf (.cond .leaf (.seq .leaf (.cond (.seq .leaf .leaf) (.seq .leaf (.cond .leaf (.seq .leaf (.cond .leaf (.seq .leaf (.cond .leaf (.seq .leaf (.cond .leaf (.seq .leaf (.cond .leaf (.seq .leaf (.cond .leaf (.seq .leaf (.cond .leaf (.seq .leaf (.cond (.seq .leaf .leaf) (.seq .leaf (.cond (.seq .leaf (.seq .leaf .leaf)) (.seq .leaf (.cond (.seq .leaf (.seq .leaf (.block (.loop (.seq (.join .leaf [197] [190,191,192,193,194,195,196] (.cond .leaf .leaf)) (.seq (.block (.seq .leaf (.seq .leaf .leaf))) .leaf)) [12] [13,190,191,192,193,194,195,196,197,198,199,200,201,202,203,204,205,206,207,208,209,210,211])))) (.seq .leaf (.cond .leaf (.seq .leaf (.cond (.seq .leaf (.seq .leaf (.block (.loop (.seq (.join .leaf [234] [227,228,229,230,231,232,233] (.cond .leaf .leaf)) (.seq (.block (.seq .leaf (.seq .leaf .leaf))) .leaf)) [14] [15,227,228,229,230,231,232,233,234,235,236,237,238,239,240,241,242,243,244,245,246,247])))) .leaf)))))))))))))))))))))))))))))))))))))) [] [10,11,12,13,14,15,58,59,60,61,62,63,64,65,66,67,68,69,70,71,72,73,74,75,76,77,78,79,80,81,82,83,84,85,86,87,88,89,90,91,92,93,94,95,96,97,98,99,100,101,102,103,104,105,106,107,108,109,110,111,112,113,114,115,116,117,118,119,120,121,122,123,124,125,126,127,128,129,130,131,132,133,134,135,136,137,138,139,140,141,142,143,144,145,146,147,148,149,150,151,152,153,154,155,156,157,158,159,160,161,162,163,164,165,166,167,168,169,170,171,172,173,174,175,176,177,178,179,180,181,182,183,184,185,186,187,188,189,190,191,192,193,194,195,196,197,198,199,200,201,202,203,204,205,206,207,208,209,210,211,212,213,214,215,216,217,218,219,220,221,222,223,224,225,226,227,228,229,230,231,232,233,234,235,236,237,238,239,240,241,242,243,244,245,246,247] .leaf)) [9] [10,11,12,13,14,15,52,53,54,55,56,57,58,59,60,61,62,63,64,65,66,67,68,69,70,71,72,73,74,75,76,77,78,79,80,81,82,83,84,85,86,87,88,89,90,91,92,93,94,95,96,97,98,99,100,101,102,103,104,105,106,107,108,109,110,111,112,113,114,115,116,117,118,119,120,121,122,123,124,125,126,127,128,129,130,131,132,133,134,135,136,137,138,139,140,141,142,143,144,145,146,147,148,149,150,151,152,153,154,155,156,157,158,159,160,161,162,163,164,165,166,167,168,169,170,171,172,173,174,175,176,177,178,179,180,181,182,183,184,185,186,187,188,189,190,191,192,193,194,195,196,197,198,199,200,201,202,203,204,205,206,207,208,209,210,211,212,213,214,215,216,217,218,219,220,221,222,223,224,225,226,227,228,229,230,231,232,233,234,235,236,237,238,239,240,241,242,243,244,245,246,247]))) (.seq (.join .leaf [256] [248,249,250,251,252,253,254,255] (.cond (.seq .leaf .leaf) .leaf)) (.seq (.seq .leaf (.seq .leaf (.cond (.seq .leaf .leaf) .leaf))) (.seq .leaf .leaf)))))))))))))
theorem S.r31_Decode.eq (a0 : Value) (w : World) (R : Value → World → Prop) : S.r31_Decode a0 w R = fnC PP 265 (Tryd.f17.body.getD .skip) S.r31_Decode.an [.cell 2 30, .tmp 3] [a0] w R := by kernel_rfl
theorem S.r31_Decode.calls {a0 : Value} {w : World} {R : Value → World → Prop} (h : S.r31_Decode a0 w R) : Ca PP Fn.r31_Decode #[a0] w R :=
  fnC_calls mixed (f := Fn.r31_Decode) (an := S.r31_Decode.an) Tryd.func17 rfl (by show _ ≤ _; exact Nat.le_of_ble_eq_true rfl) (S.r31_Decode.eq a0 w R ▸ h)
/-- acheron/styx.Size -/
def S.styx_Size (a0 : Value) (w : World) (R : Value → World → Prop) : Prop :=
 Al Ty.api_Msg (a0 : Value).cells w fun t1 w2 =>
 LdA PP 27 t1 w2 fun t3 =>
 Ca PP Fn.styx_Encode #[t3] w2 fun t4 w5 =>
 Ex t4 0 fun t6 =>
 Ex t4 1 fun t7 =>
 LnS t6 fun t8 =>
 R t8 w5
def S.styx_Size.an : Ann := (.seq .leaf (.seq .leaf (.seq .leaf .leaf)))
theorem S.styx_Size.eq (a0 : Value) (w : World) (R : Value → World → Prop) : S.styx_Size a0 w R = fnC PP 12 (Tryd.f18.body.getD .skip) S.styx_Size.an [.tmp 2] [a0] w R := by kernel_rfl
theorem S.styx_Size.calls {a0 : Value} {w : World} {R : Value → World → Prop} (h : S.styx_Size a0 w R) : Ca PP Fn.styx_Size #[a0] w R :=
  fnC_calls mixed (f := Fn.styx_Size) (an := S.styx_Size.an) Tryd.func18 rfl (by show _ ≤ _; exact Nat.le_of_ble_eq_true rfl) (S.styx_Size.eq a0 w R ▸ h)
/-- acheron/styx.Request -/
def S.styx_Request (a0 : Value) (w : World) (R : Value → World → Prop) : Prop :=
 Ld (.pointer (some ⟨0, 0, none⟩)) w fun t1 =>
 Rd PP (Instr.lookup Ty.map_int_string t1 a0 false) w fun t2 =>
 Bi .neq t2 (.string ⟨#[]⟩) fun t3 =>
 R t3 w
def S.styx_Request.an : Ann := (.seq .leaf (.seq .leaf .leaf))
theorem S.styx_Request.eq (a0 : Value) (w : World) (R : Value → World → Prop) : S.styx_Request a0 w R = fnC PP 7 (Tryd.f19.body.getD .skip) S.styx_Request.an [.tmp 2] [a0] w R := by kernel_rfl
theorem S.styx_Request.calls {a0 : Value} {w : World} {R : Value → World → Prop} (h : S.styx_Request a0 w R) : Ca PP Fn.styx_Request #[a0] w R :=
  fnC_calls mixed (f := Fn.styx_Request) (an := S.styx_Request.an) Tryd.func19 rfl (by show _ ≤ _; exact Nat.le_of_ble_eq_true rfl) (S.styx_Request.eq a0 w R ▸ h)
/-- acheron/acheronref31.Request -/
def S.r31_Request (a0 : Value) (w : World) (R : Value → World → Prop) : Prop :=
 Ca PP Fn.r31_Fields #[a0] w fun t1 w2 =>
 Ex t1 0 fun t3 =>
 Ex t1 1 fun t4 =>
 ∀ J5 : List Value → World → Prop, (∀ t8, ∀ w7 : World, (∀ u6 : Env,
 R t8 w7) → J5 [t8] w7) →
 Gd t4 true (fun k9 => k9 a0 w2) w2 fun t10 w11 =>
 Gd t4 true (fun k12 => Bi .rem t10 (.int .i64 2) fun t15 =>
 k12 t15 w11) w11 fun t13 w14 =>
 Gd t4 true (fun k16 => Bi .eql t13 (.int .i64 0) fun t19 =>
 k16 t19 w14) w14 fun t17 w18 =>
 Pk t4 t17 (.bool false) fun t20 =>
 J5 [t20] w18
def S.r31_Request.an : Ann := (.seq .leaf (.seq .leaf (.join .leaf [2] [10,11,12,13,14,15] .leaf)))
theorem S.r31_Request.eq (a0 : Value) (w : World) (R : Value → World → Prop) : S.r31_Request a0 w R = fnC PP 16 (Tryd.f20.body.getD .skip) S.r31_Request.an [.tmp 2] [a0] w R := by kernel_rfl
theorem S.r31_Request.calls {a0 : Value} {w : World} {R : Value → World → Prop} (h : S.r31_Request a0 w R) : Ca PP Fn.r31_Request #[a0] w R :=
  fnC_calls mixed (f := Fn.r31_Request) (an := S.r31_Request.an) Tryd.func20 rfl (by show _ ≤ _; exact Nat.le_of_ble_eq_true rfl) (S.r31_Request.eq a0 w R ▸ h)
/-- acheron/styx.Answer -/
def S.styx_Answer (a0 : Value) (w : World) (R : Value → World → Prop) : Prop :=
 Ca PP Fn.styx_Request #[a0] w fun t1 w2 =>
 Un .not t1 fun t3 =>
 Cnd t3 (
 R (.int .i64 0) w2) (
 Bi .add a0 (.int .i64 1) fun t4 =>
 R t4 w2)
def S.styx_Answer.an : Ann := (.seq .leaf (.seq (.seq .leaf (.cond (.seq .leaf .leaf) .leaf)) (.seq .leaf .leaf)))
theorem S.styx_Answer.eq (a0 : Value) (w : World) (R : Value → World → Prop) : S.styx_Answer a0 w R = fnC PP 8 (Tryd.f21.body.getD .skip) S.styx_Answer.an [.tmp 2] [a0] w R := by kernel_rfl
theorem S.styx_Answer.calls {a0 : Value} {w : World} {R : Value → World → Prop} (h : S.styx_Answer a0 w R) : Ca PP Fn.styx_Answer #[a0] w R :=
  fnC_calls mixed (f := Fn.styx_Answer) (an := S.styx_Answer.an) Tryd.func21 rfl (by show _ ≤ _; exact Nat.le_of_ble_eq_true rfl) (S.styx_Answer.eq a0 w R ▸ h)
/-- acheron/acheronref31.Answer -/
def S.r31_Answer (a0 : Value) (w : World) (R : Value → World → Prop) : Prop :=
 Ca PP Fn.r31_Request #[a0] w fun t1 w2 =>
 Cnd t1 (
 Bi .add a0 (.int .i64 1) fun t3 =>
 R t3 w2) (
 R (.int .i64 0) w2)
def S.r31_Answer.an : Ann := (.seq .leaf (.seq (.seq .leaf (.cond (.seq .leaf .leaf) .leaf)) (.seq .leaf .leaf)))
theorem S.r31_Answer.eq (a0 : Value) (w : World) (R : Value → World → Prop) : S.r31_Answer a0 w R = fnC PP 7 (Tryd.f22.body.getD .skip) S.r31_Answer.an [.tmp 2] [a0] w R := by kernel_rfl
theorem S.r31_Answer.calls {a0 : Value} {w : World} {R : Value → World → Prop} (h : S.r31_Answer a0 w R) : Ca PP Fn.r31_Answer #[a0] w R :=
  fnC_calls mixed (f := Fn.r31_Answer) (an := S.r31_Answer.an) Tryd.func22 rfl (by show _ ≤ _; exact Nat.le_of_ble_eq_true rfl) (S.r31_Answer.eq a0 w R ▸ h)
/-- acheron/styx.Word -/
def S.styx_Word (a0 : Value) (w : World) (R : Value → World → Prop) : Prop :=
 Bi .eql a0 (.int .i64 107) fun t1 =>
 Cnd t1 (
 R (.string ⟨#[82, 101, 114, 114, 111, 114]⟩) w) (
 Ca PP Fn.styx_Request #[a0] w fun t2 w3 =>
 Cnd t2 (
 Ld (.pointer (some ⟨0, 0, none⟩)) w3 fun t4 =>
 Rd PP (Instr.lookup Ty.map_int_string t4 a0 false) w3 fun t5 =>
 R t5 w3) (
 Bi .sub a0 (.int .i64 1) fun t6 =>
 Ca PP Fn.styx_Request #[t6] w3 fun t7 w8 =>
 Cnd t7 (
 Ld (.pointer (some ⟨0, 0, none⟩)) w8 fun t9 =>
 Bi .sub a0 (.int .i64 1) fun t10 =>
 Rd PP (Instr.lookup Ty.map_int_string t9 t10 false) w8 fun t11 =>
 Bi .add (.string ⟨#[82]⟩) t11 fun t12 =>
 R t12 w8) (
 R (.string ⟨#[]⟩) w8)))
def S.styx_Word.an : Ann := (.seq .leaf (.seq (.block (.seq .leaf (.cond (.seq .leaf .leaf) (.seq .leaf (.cond (.seq .leaf .leaf) (.seq .leaf (.cond (.seq .leaf .leaf) .leaf))))))) (.seq .leaf .leaf)))
theorem S.styx_Word.eq (a0 : Value) (w : World) (R : Value → World → Prop) : S.styx_Word a0 w R = fnC PP 21 (Tryd.f23.body.getD .skip) S.styx_Word.an [.tmp 2] [a0] w R := by kernel_rfl
theorem S.styx_Word.calls {a0 : Value} {w : World} {R : Value → World → Prop} (h : S.styx_Word a0 w R) : Ca PP Fn.styx_Word #[a0] w R :=
  fnC_calls mixed (f := Fn.styx_Word) (an := S.styx_Word.an) Tryd.func23 rfl (by show _ ≤ _; exact Nat.le_of_ble_eq_true rfl) (S.styx_Word.eq a0 w R ▸ h)
/-- acheron/acheronref31.Word -/
def S.r31_Word (a0 : Value) (w : World) (R : Value → World → Prop) : Prop :=
 Bi .eql a0 (.int .i64 107) fun t1 =>
 Cnd t1 (
 R (.string ⟨#[82, 101, 114, 114, 111, 114]⟩) w) (
 Ca PP Fn.r31_Fields #[a0] w fun t2 w3 =>
 Ex t2 0 fun t4 =>
 Ex t2 1 fun t5 =>
 Un .not t5 fun t6 =>
 Cnd t6 (
 R (.string ⟨#[]⟩) w3) (
 Ef PP (Instr.buildSlice Ty.sl_string 14 #[(0, (.string ⟨#[118, 101, 114, 115, 105, 111, 110]⟩)), (1, (.string ⟨#[97, 117, 116, 104]⟩)), (2, (.string ⟨#[97, 116, 116, 97, 99, 104]⟩)), (3, (.string ⟨#[]⟩)), (4, (.string ⟨#[102, 108, 117, 115, 104]⟩)), (5, (.string ⟨#[119, 97, 108, 107]⟩)), (6, (.string ⟨#[111, 112, 101, 110]⟩)), (7, (.string ⟨#[99, 114, 101, 97, 116, 101]⟩)), (8, (.string ⟨#[114, 101, 97, 100]⟩)), (9, (.string ⟨#[119, 114, 105, 116, 101]⟩)), (10, (.string ⟨#[99, 108, 117, 110, 107]⟩)), (11, (.string ⟨#[114, 101, 109, 111, 118, 101]⟩)), (12, (.string ⟨#[115, 116, 97, 116]⟩)), (13, (.string ⟨#[119, 115, 116, 97, 116]⟩))]) w3 fun t7 w8 =>
 Bi .sub a0 (.int .i64 100) fun t9 =>
 Bi .quo t9 (.int .i64 2) fun t10 =>
 IxA 1 t7 t10 fun t11 =>
 Ld t11 w8 fun t12 =>
 Bi .rem a0 (.int .i64 2) fun t13 =>
 Bi .eql t13 (.int .i64 1) fun t14 =>
 Cnd t14 (
 Bi .add (.string ⟨#[82]⟩) t12 fun t15 =>
 R t15 w8) (
 R t12 w8)))
def S.r31_Word.an : Ann := (.seq .leaf (.seq (.seq .leaf (.cond (.seq .leaf .leaf) .leaf)) (.seq (.seq .leaf (.seq .leaf (.cond (.seq .leaf .leaf) .leaf))) (.seq .leaf (.seq (.seq .leaf (.cond (.seq .leaf .leaf) .leaf)) (.seq .leaf .leaf))))))
theorem S.r31_Word.eq (a0 : Value) (w : World) (R : Value → World → Prop) : S.r31_Word a0 w R = fnC PP 27 (Tryd.f24.body.getD .skip) S.r31_Word.an [.tmp 2] [a0] w R := by kernel_rfl
theorem S.r31_Word.calls {a0 : Value} {w : World} {R : Value → World → Prop} (h : S.r31_Word a0 w R) : Ca PP Fn.r31_Word #[a0] w R :=
  fnC_calls mixed (f := Fn.r31_Word) (an := S.r31_Word.an) Tryd.func24 rfl (by show _ ≤ _; exact Nat.le_of_ble_eq_true rfl) (S.r31_Word.eq a0 w R ▸ h)
/-- acheron/acheronref31.Encode -/
def S.r31_Encode (a0 : Value) (w : World) (R : Value → World → Prop) : Prop :=
 Al Ty.api_Msg (a0 : Value).cells w fun t1 w2 =>
 LdA PP 27 t1 w2 fun t3 =>
 Ca PP Fn.r31_Check #[t3] w2 fun t4 w5 =>
 Bi .neq t4 (.int .i64 0) fun t6 =>
 Cnd t6 (
 R (.tuple #[(.string ⟨#[]⟩), t4]) w5) (
 Fa 0 t1 fun t7 =>
 Ld t7 w5 fun t8 =>
 Ca PP Fn.r31_Fields #[t8] w5 fun t9 w10 =>
 Ex t9 0 fun t11 =>
 Ex t9 1 fun t12 =>
 Dr w10 fun w13 =>
 LdA PP 27 t1 w13 fun t14 =>
 Fa 0 t1 fun t15 =>
 Ld t15 w13 fun t16 =>
 Fa 1 t1 fun t17 =>
 Ld t17 w13 fun t18 =>
 Ca PP Fn.r31_room #[t14, t11] w13 fun t19 w20 =>
 (Ld t15 w20 fun t21 =>
 t21 = t16) ∧
 (Ld t17 w20 fun t22 =>
 t22 = t18) ∧
 Ca PP Fn.r31_number #[t19, (.int .i64 4)] w20 fun t23 w24 =>
 (Ld t15 w24 fun t25 =>
 t25 = t16) ∧
 (Ld t17 w24 fun t26 =>
 t26 = t18) ∧
 Ca PP Fn.r31_number #[t16, (.int .i64 1)] w24 fun t27 w28 =>
 (Ld t17 w28 fun t29 =>
 t29 = t18) ∧
 Bi .add t23 t27 fun t30 =>
 Ca PP Fn.r31_number #[t18, (.int .i64 2)] w28 fun t31 w32 =>
 Bi .add t30 t31 fun t33 =>
 ∃ (I34 : List Value → World → Prop) (m35 : List Value → World → Nat), I34 [t33, (.int .i64 0)] w32 ∧ ∀ t38 t39, ∀ (u36 : Env) (w37 : World), I34 [t38, t39] w37 →
 LnS t11 fun t40 =>
 Bi .lss t39 t40 fun t41 =>
 Cnd t41 (
 ∀ J42 : List Value → World → Prop, (∀ t45, ∀ w44 : World, (∀ u43 : Env,
 Bi .add t39 (.int .i64 1) fun t46 =>
 I34 [t45, t46] w44 ∧ m35 [t45, t46] w44 < m35 [t38, t39] w37) → J42 [t45] w44) →
 IxS t11 t39 fun t47 =>
 Bi .eql t47 (.int .u8 83) fun t48 =>
 Cnd t48 (
 Fa 5 t1 fun t49 =>
 Ld t49 w37 fun t50 =>
 Ca PP Fn.r31_number #[t50, (.int .i64 4)] w37 fun t51 w52 =>
 Bi .add t38 t51 fun t53 =>
 J42 [t53] w52) (
 Bi .eql t47 (.int .u8 102) fun t54 =>
 Cnd t54 (
 Fa 2 t1 fun t55 =>
 Ld t55 w37 fun t56 =>
 Ca PP Fn.r31_number #[t56, (.int .i64 4)] w37 fun t57 w58 =>
 Bi .add t38 t57 fun t59 =>
 J42 [t59] w58) (
 Bi .eql t47 (.int .u8 111) fun t60 =>
 Cnd t60 (
 Fa 3 t1 fun t61 =>
 Ld t61 w37 fun t62 =>
 Ca PP Fn.r31_number #[t62, (.int .i64 4)] w37 fun t63 w64 =>
 Bi .add t38 t63 fun t65 =>
 J42 [t65] w64) (
 Bi .eql t47 (.int .u8 112) fun t66 =>
 Cnd t66 (
 Fa 8 t1 fun t67 =>
 Ld t67 w37 fun t68 =>
 Ca PP Fn.r31_number #[t68, (.int .i64 4)] w37 fun t69 w70 =>
 Bi .add t38 t69 fun t71 =>
 J42 [t71] w70) (
 Bi .eql t47 (.int .u8 99) fun t72 =>
 Cnd t72 (
 Fa 26 t1 fun t73 =>
 Ld t73 w37 fun t74 =>
 Ca PP Fn.r31_number #[t74, (.int .i64 2)] w37 fun t75 w76 =>
 Bi .add t38 t75 fun t77 =>
 J42 [t77] w76) (
 Bi .eql t47 (.int .u8 100) fun t78 =>
 Cnd t78 (
 Fa 4 t1 fun t79 =>
 Ld t79 w37 fun t80 =>
 Ca PP Fn.r31_number #[t80, (.int .i64 2)] w37 fun t81 w82 =>
 Bi .add t38 t81 fun t83 =>
 J42 [t83] w82) (
 Bi .eql t47 (.int .u8 109) fun t84 =>
 Cnd t84 (
 Fa 7 t1 fun t85 =>
 Ld t85 w37 fun t86 =>
 Ca PP Fn.r31_number #[t86, (.int .i64 1)] w37 fun t87 w88 =>
 Bi .add t38 t87 fun t89 =>
 J42 [t89] w88) (
 Bi .eql t47 (.int .u8 79) fun t90 =>
 Cnd t90 (
 Fa 6 t1 fun t91 =>
 Ld t91 w37 fun t92 =>
 Ca PP Fn.r31_number #[t92, (.int .i64 8)] w37 fun t93 w94 =>
 Bi .add t38 t93 fun t95 =>
 J42 [t95] w94) (
 Bi .eql t47 (.int .u8 118) fun t96 =>
 Cnd t96 (
 Fa 9 t1 fun t97 =>
 Ld t97 w37 fun t98 =>
 Ca PP Fn.r31_word #[t98] w37 fun t99 w100 =>
 Bi .add t38 t99 fun t101 =>
 J42 [t101] w100) (
 Bi .eql t47 (.int .u8 117) fun t102 =>
 Cnd t102 (
 Fa 10 t1 fun t103 =>
 Ld t103 w37 fun t104 =>
 Ca PP Fn.r31_word #[t104] w37 fun t105 w106 =>
 Bi .add t38 t105 fun t107 =>
 J42 [t107] w106) (
 Bi .eql t47 (.int .u8 116) fun t108 =>
 Cnd t108 (
 Fa 11 t1 fun t109 =>
 Ld t109 w37 fun t110 =>
 Ca PP Fn.r31_word #[t110] w37 fun t111 w112 =>
 Bi .add t38 t111 fun t113 =>
 J42 [t113] w112) (
 Bi .eql t47 (.int .u8 78) fun t114 =>
 Cnd t114 (
 Fa 12 t1 fun t115 =>
 Ld t115 w37 fun t116 =>
 Ca PP Fn.r31_word #[t116] w37 fun t117 w118 =>
 Bi .add t38 t117 fun t119 =>
 J42 [t119] w118) (
 Bi .eql t47 (.int .u8 68) fun t120 =>
 Cnd t120 (
 Dr w37 fun w121 =>
 Fa 15 t1 fun t122 =>
 Ld t122 w121 fun t123 =>
 LnS t123 fun t124 =>
 Fa 15 t1 fun t125 =>
 Ld t125 w121 fun t126 =>
 Ca PP Fn.r31_number #[t124, (.int .i64 4)] w121 fun t127 w128 =>
 (Ld t125 w128 fun t129 =>
 t129 = t126) ∧
 Bi .add t38 t127 fun t130 =>
 Bi .add t130 t126 fun t131 =>
 J42 [t131] w128) (
 Bi .eql t47 (.int .u8 113) fun t132 =>
 Cnd t132 (
 Fa 14 t1 fun t133 =>
 Ld t133 w37 fun t134 =>
 IxA 3 t134 (.int .i64 0) fun t135 =>
 LdA PP 3 t135 w37 fun t136 =>
 Ca PP Fn.r31_qid #[t136] w37 fun t137 w138 =>
 Bi .add t38 t137 fun t139 =>
 J42 [t139] w138) (
 Bi .eql t47 (.int .u8 81) fun t140 =>
 Cnd t140 (
 Fa 14 t1 fun t141 =>
 Ld t141 w37 fun t142 =>
 LnL t142 fun t143 =>
 Ca PP Fn.r31_number #[t143, (.int .i64 2)] w37 fun t144 w145 =>
 Bi .add t38 t144 fun t146 =>
 ∃ (I147 : List Value → World → Prop) (m148 : List Value → World → Nat), I147 [t146, (.int .i64 0)] w145 ∧ ∀ t151 t152, ∀ (u149 : Env) (w150 : World), I147 [t151, t152] w150 →
 Fa 14 t1 fun t153 =>
 Ld t153 w150 fun t154 =>
 LnL t154 fun t155 =>
 Bi .lss t152 t155 fun t156 =>
 Cnd t156 (
 Fa 14 t1 fun t157 =>
 Ld t157 w150 fun t158 =>
 IxA 3 t158 t152 fun t159 =>
 LdA PP 3 t159 w150 fun t160 =>
 Ca PP Fn.r31_qid #[t160] w150 fun t161 w162 =>
 Bi .add t151 t161 fun t163 =>
 Bi .add t152 (.int .i64 1) fun t164 =>
 I147 [t163, t164] w162 ∧ m148 [t163, t164] w162 < m148 [t151, t152] w150) (
 J42 [t151] w150)) (
 Bi .eql t47 (.int .u8 105) fun t165 =>
 Cnd t165 (
 Fa 16 t1 fun t166 =>
 LdA PP 10 t166 w37 fun t167 =>
 Ca PP Fn.r31_dir #[t167] w37 fun t168 w169 =>
 Bi .add t38 t168 fun t170 =>
 J42 [t170] w169) (
 Bi .eql t47 (.int .u8 110) fun t171 =>
 Cnd t171 (
 Fa 13 t1 fun t172 =>
 Ld t172 w37 fun t173 =>
 LnL t173 fun t174 =>
 Ca PP Fn.r31_number #[t174, (.int .i64 2)] w37 fun t175 w176 =>
 Bi .add t38 t175 fun t177 =>
 ∃ (I178 : List Value → World → Prop) (m179 : List Value → World → Nat), I178 [t177, (.int .i64 0)] w176 ∧ ∀ t182 t183, ∀ (u180 : Env) (w181 : World), I178 [t182, t183] w181 →
 Fa 13 t1 fun t184 =>
 Ld t184 w181 fun t185 =>
 LnL t185 fun t186 =>
 Bi .lss t183 t186 fun t187 =>
 Cnd t187 (
 Fa 13 t1 fun t188 =>
 Ld t188 w181 fun t189 =>
 IxA 1 t189 t183 fun t190 =>
 Ld t190 w181 fun t191 =>
 Ca PP Fn.r31_word #[t191] w181 fun t192 w193 =>
 Bi .add t182 t192 fun t194 =>
 Bi .add t183 (.int .i64 1) fun t195 =>
 I178 [t194, t195] w193 ∧ m179 [t194, t195] w193 < m179 [t182, t183] w181) (
 J42 [t182] w181)) (
 J42 [t38] w37)))))))))))))))))) (
 R (.tuple #[t38, (.int .i64 0)]) w37))
def S.r31_Encode.an : Ann := (.seq .leaf (.seq (.seq .leaf (.seq .leaf (.cond (.seq .leaf .leaf) .leaf))) (.seq .leaf (.seq (.draw [[],[],[0,1],[0,1,2],[],[4],[0,1,2,3,4,5],[0,1,2,3,4,5,6],[],[8],[0,1,2,3,4,5,6,8,9],[0,1,2,3,4,5,6,7,8,9,10],[0,1,2,3,4,5,6,7,8,9,10,11]] (.calm 0 (.calm 1 (.calm 4 (.calm 5 (.calm 8 (.calm 9 (.eff1 2 [5,9] (.eff1 3 [5,9] (.eff1 6 [9] (.calm 7 (.eff1 10 [] (.calm 11 (.calm 12 .done)))))))))))))) (.seq (.seq .leaf (.block (.loop (.seq (.seq .leaf (.cond .leaf .leaf)) (.join (.block (.seq .leaf (.block (.seq .leaf (.cond .leaf (.seq .leaf (.cond .leaf (.seq .leaf (.cond .leaf (.seq .leaf (.cond .leaf (.seq .leaf (.cond .leaf (.seq .leaf (.cond .leaf (.seq .leaf (.cond .leaf (.seq .leaf (.cond .leaf (.seq .leaf (.cond .leaf (.seq .leaf (.cond .leaf (.seq .leaf (.cond .leaf (.seq .leaf (.cond .leaf (.seq .leaf (.cond (.draw [[],[],[1],[1,2],[1,2,3],[0,1,2,3,4],[],[6],[0,1,2,3,4,5,6,7],[0,1,2,3,4,5,6,7,8]] (.calm 0 (.calm 1 (.calm 2 (.calm 3 (.calm 6 (.calm 7 (.eff1 4 [7] (.calm 5 (.calm 8 (.calm 9 .done))))))))))) (.seq .leaf (.cond .leaf (.seq .leaf (.cond (.seq .leaf (.seq .leaf (.block (.loop (.seq (.seq .leaf (.cond .leaf .leaf)) (.seq (.block .leaf) .leaf)) [7,9] [155,156,157,158,159,160,161,162,163,164,165,166,167,168,169])))) (.seq .leaf (.cond .leaf (.seq .leaf (.cond (.seq .leaf (.seq .leaf (.block (.loop (.seq (.seq .leaf (.cond .leaf .leaf)) (.seq (.block .leaf) .leaf)) [7,10] [185,186,187,188,189,190,191,192,193,194,195,196,197,198,199])))) .leaf))))))))))))))))))))))))))))))))))))) [7] [9,10,40,41,42,43,44,45,46,47,48,49,50,51,52,53,54,55,56,57,58,59,60,61,62,63,64,65,66,67,68,69,70,71,72,73,74,75,76,77,78,79,80,81,82,83,84,85,86,87,88,89,90,91,92,93,94,95,96,97,98,99,100,101,102,103,104,105,106,107,108,109,110,111,112,113,114,115,116,117,118,119,120,121,122,123,124,125,126,127,128,129,130,131,132,133,134,135,136,137,138,139,140,141,142,143,144,145,146,147,148,149,150,151,152,153,154,155,156,157,158,159,160,161,162,163,164,165,166,167,168,169,170,171,172,173,174,175,176,177,178,179,180,181,182,183,184,185,186,187,188,189,190,191,192,193,194,195,196,197,198,199] .leaf)) [7,8] [9,10,34,35,36,37,38,39,40,41,42,43,44,45,46,47,48,49,50,51,52,53,54,55,56,57,58,59,60,61,62,63,64,65,66,67,68,69,70,71,72,73,74,75,76,77,78,79,80,81,82,83,84,85,86,87,88,89,90,91,92,93,94,95,96,97,98,99,100,101,102,103,104,105,106,107,108,109,110,111,112,113,114,115,116,117,118,119,120,121,122,123,124,125,126,127,128,129,130,131,132,133,134,135,136,137,138,139,140,141,142,143,144,145,146,147,148,149,150,151,152,153,154,155,156,157,158,159,160,161,162,163,164,165,166,167,168,169,170,171,172,173,174,175,176,177,178,179,180,181,182,183,184,185,186,187,188,189,190,191,192,193,194,195,196,197,198,199]))) (.seq .leaf .leaf))))))
theorem S.r31_Encode.eq (a0 : Value) (w : World) (R : Value → World → Prop) : S.r31_Encode a0 w R = fnC PP 201 (Tryd.f25.body.getD .skip) S.r31_Encode.an [.tmp 2, .tmp 3] [a0] w R := by kernel_rfl
theorem S.r31_Encode.calls {a0 : Value} {w : World} {R : Value → World → Prop} (h : S.r31_Encode a0 w R) : Ca PP Fn.r31_Encode #[a0] w R :=
  fnC_calls mixed (f := Fn.r31_Encode) (an := S.r31_Encode.an) Tryd.func25 rfl (by show _ ≤ _; exact Nat.le_of_ble_eq_true rfl) (S.r31_Encode.eq a0 w R ▸ h)
/-- acheron/styx.Check -/
def S.styx_Check (a0 : Value) (w : World) (R : Value → World → Prop) : Prop :=
 Al Ty.api_Msg (a0 : Value).cells w fun t1 w2 =>
 LdA PP 27 t1 w2 fun t3 =>
 Ca PP Fn.styx_Encode #[t3] w2 fun t4 w5 =>
 Ex t4 0 fun t6 =>
 Ex t4 1 fun t7 =>
 R t7 w5
def S.styx_Check.an : Ann := (.seq .leaf (.seq .leaf (.seq .leaf .leaf)))
theorem S.styx_Check.eq (a0 : Value) (w : World) (R : Value → World → Prop) : S.styx_Check a0 w R = fnC PP 11 (Tryd.f26.body.getD .skip) S.styx_Check.an [.tmp 2] [a0] w R := by kernel_rfl
theorem S.styx_Check.calls {a0 : Value} {w : World} {R : Value → World → Prop} (h : S.styx_Check a0 w R) : Ca PP Fn.styx_Check #[a0] w R :=
  fnC_calls mixed (f := Fn.styx_Check) (an := S.styx_Check.an) Tryd.func26 rfl (by show _ ≤ _; exact Nat.le_of_ble_eq_true rfl) (S.styx_Check.eq a0 w R ▸ h)
/-- acheron/acheronref31.Check -/
def S.r31_Check (a0 : Value) (w : World) (R : Value → World → Prop) : Prop :=
 Al Ty.api_Msg (a0 : Value).cells w fun t1 w2 =>
 Fa 0 t1 fun t3 =>
 Ld t3 w2 fun t4 =>
 Ca PP Fn.r31_Fields #[t4] w2 fun t5 w6 =>
 Ex t5 0 fun t7 =>
 Ex t5 1 fun t8 =>
 Un .not t8 fun t9 =>
 Cnd t9 (
 R (.int .i64 13) w6) (
 LdA PP 27 t1 w6 fun t10 =>
 Ca PP Fn.r31_shaped #[t10, t7] w6 fun t11 w12 =>
 Un .not t11 fun t13 =>
 Cnd t13 (
 R (.int .i64 14) w12) (
 LdA PP 27 t1 w12 fun t14 =>
 Ca PP Fn.r31_ranged #[t14] w12 fun t15 w16 =>
 Un .not t15 fun t17 =>
 Cnd t17 (
 R (.int .i64 11) w16) (
 ∀ J18 : List Value → World → Prop, (∀ t21, ∀ w20 : World, (∀ u19 : Env,
 Cnd t21 (
 R (.int .i64 3) w20) (
 R (.int .i64 0) w20)) → J18 [t21] w20) →
 Fa 13 t1 fun t22 =>
 Ld t22 w16 fun t23 =>
 LnL t23 fun t24 =>
 Bi .gtr t24 (.int .i64 16) fun t25 =>
 Gd t25 false (fun k26 => Fa 14 t1 fun t29 =>
 k26 t29 w16) w16 fun t27 w28 =>
 Gd t25 false (fun k30 => Ld t27 w28 fun t33 =>
 k30 t33 w28) w28 fun t31 w32 =>
 Gd t25 false (fun k34 => LnL t31 fun t37 =>
 k34 t37 w32) w32 fun t35 w36 =>
 Gd t25 false (fun k38 => Bi .gtr t35 (.int .i64 16) fun t41 =>
 k38 t41 w36) w36 fun t39 w40 =>
 Pk t25 (.bool true) t39 fun t42 =>
 Gd t42 false (fun k43 => k43 t7 w40) w40 fun t44 w45 =>
 Gd t42 false (fun k46 => Ca PP Fn.r31_has #[t44, (.int .u8 105)] w45 fun t49 w50 =>
 k46 t49 w50) w45 fun t47 w48 =>
 Gd t42 false (fun k51 => k51 t47 w48) w48 fun t52 w53 =>
 Gd t52 true (fun k54 => Fa 16 t1 fun t57 =>
 k54 t57 w53) w53 fun t55 w56 =>
 Gd t52 true (fun k58 => LdA PP 10 t55 w56 fun t61 =>
 k58 t61 w56) w56 fun t59 w60 =>
 Gd t52 true (fun k62 => Ca PP Fn.r31_dirBytes #[t59] w60 fun t65 w66 =>
 k62 t65 w66) w60 fun t63 w64 =>
 Gd t52 true (fun k67 => Bi .gtr t63 (.int .i64 1024) fun t70 =>
 k67 t70 w64) w64 fun t68 w69 =>
 Gd t42 false (fun k71 => Pk t52 t68 (.bool false) fun t74 =>
 k71 t74 w69) w69 fun t72 w73 =>
 Pk t42 (.bool true) t72 fun t75 =>
 Gd t75 false (fun k76 => LdA PP 27 t1 w73 fun t79 =>
 k76 t79 w73) w73 fun t77 w78 =>
 Gd t75 false (fun k80 => k80 t7 w78) w78 fun t81 w82 =>
 Gd t75 false (fun k83 => Ca PP Fn.r31_room #[t77, t81] w82 fun t86 w87 =>
 k83 t86 w87) w82 fun t84 w85 =>
 Gd t75 false (fun k88 => Bi .gtr t84 (.int .i64 8192) fun t91 =>
 k88 t91 w85) w85 fun t89 w90 =>
 Pk t75 (.bool true) t89 fun t92 =>
 J18 [t92] w90)))
def S.r31_Check.an : Ann := (.seq .leaf (.seq .leaf (.seq (.seq .leaf (.cond (.seq .leaf .leaf) .leaf)) (.seq (.seq .leaf (.cond (.seq .leaf .leaf) .leaf)) (.seq (.seq .leaf (.cond (.seq .leaf .leaf) .leaf)) (.seq (.join .leaf [45] [20,21,22,23,24,25,26,27,28,29,30,31,32,33,34,35,36,37,38,39,40,41,42,43,44] (.cond (.seq .leaf .leaf) .leaf)) (.seq .leaf .leaf)))))))
theorem S.r31_Check.eq (a0 : Value) (w : World) (R : Value → World → Prop) : S.r31_Check a0 w R = fnC PP 46 (Tryd.f27.body.getD .skip) S.r31_Check.an [.tmp 2] [a0] w R := by kernel_rfl
theorem S.r31_Check.calls {a0 : Value} {w : World} {R : Value → World → Prop} (h : S.r31_Check a0 w R) : Ca PP Fn.r31_Check #[a0] w R :=
  fnC_calls mixed (f := Fn.r31_Check) (an := S.r31_Check.an) Tryd.func27 rfl (by show _ ≤ _; exact Nat.le_of_ble_eq_true rfl) (S.r31_Check.eq a0 w R ▸ h)
/-- acheron/acheronref31.Size -/
def S.r31_Size (a0 : Value) (w : World) (R : Value → World → Prop) : Prop :=
 Al Ty.api_Msg (a0 : Value).cells w fun t1 w2 =>
 LdA PP 27 t1 w2 fun t3 =>
 Ca PP Fn.r31_Check #[t3] w2 fun t4 w5 =>
 Bi .neq t4 (.int .i64 0) fun t6 =>
 Cnd t6 (
 R (.int .i64 0) w5) (
 Fa 0 t1 fun t7 =>
 Ld t7 w5 fun t8 =>
 Ca PP Fn.r31_Fields #[t8] w5 fun t9 w10 =>
 Ex t9 0 fun t11 =>
 Ex t9 1 fun t12 =>
 LdA PP 27 t1 w10 fun t13 =>
 Ca PP Fn.r31_room #[t13, t11] w10 fun t14 w15 =>
 R t14 w15)
def S.r31_Size.an : Ann := (.seq .leaf (.seq (.seq .leaf (.cond (.seq .leaf .leaf) .leaf)) (.seq .leaf (.seq .leaf .leaf))))
theorem S.r31_Size.eq (a0 : Value) (w : World) (R : Value → World → Prop) : S.r31_Size a0 w R = fnC PP 17 (Tryd.f28.body.getD .skip) S.r31_Size.an [.tmp 2] [a0] w R := by kernel_rfl
theorem S.r31_Size.calls {a0 : Value} {w : World} {R : Value → World → Prop} (h : S.r31_Size a0 w R) : Ca PP Fn.r31_Size #[a0] w R :=
  fnC_calls mixed (f := Fn.r31_Size) (an := S.r31_Size.an) Tryd.func28 rfl (by show _ ≤ _; exact Nat.le_of_ble_eq_true rfl) (S.r31_Size.eq a0 w R ▸ h)
/-- acheron/styx.Frames -/
def S.styx_Frames (a0 : Value) (w : World) (R : Value → World → Prop) : Prop :=
 ∃ (I1 : List Value → World → Prop) (m2 : List Value → World → Nat), I1 [a0, (.slice none 0 0)] w ∧ ∀ t5 t6, ∀ (u3 : Env) (w4 : World), I1 [t5, t6] w4 →
 LnS t5 fun t7 =>
 Bi .geq t7 (.int .i64 4) fun t8 =>
 Cnd t8 (
 Ca PP Fn.styx_length #[t5] w4 fun t9 w10 =>
 Bi .gtr t9 (.int .i64 8192) fun t11 =>
 Cnd t11 (
 R (.tuple #[(.slice none 0 0), (.string ⟨#[]⟩), (.int .i64 3)]) w10) (
 Bi .lss t9 (.int .i64 7) fun t12 =>
 Cnd t12 (
 R (.tuple #[(.slice none 0 0), (.string ⟨#[]⟩), (.int .i64 14)]) w10) (
 LnS t5 fun t13 =>
 Bi .gtr t9 t13 fun t14 =>
 Cnd t14 (
 R (.tuple #[t6, t5, (.int .i64 0)]) w10) (
 Dr w10 fun w15 =>
 SlS t5 none (some t9) fun t16 =>
 SlS t5 (some t9) none fun t17 =>
 Ef PP (Instr.buildSlice Ty.sl_string 1 #[(0, t16)]) w15 fun t18 w19 =>
 Ef PP (Builtin.append_ #[Ty.sl_string, Ty.sl_string] Ty.sl_string #[t6, t18]) w19 fun t20 w21 =>
 I1 [t17, t20] w21 ∧ m2 [t17, t20] w21 < m2 [t5, t6] w4)))) (
 R (.tuple #[t6, t5, (.int .i64 0)]) w4)
def S.styx_Frames.an : Ann := (.seq .leaf (.seq .leaf (.seq (.block (.loop (.seq (.seq .leaf (.cond .leaf .leaf)) (.block (.seq .leaf (.seq (.block (.seq .leaf (.cond (.seq .leaf .leaf) (.seq .leaf (.cond (.seq .leaf .leaf) (.seq .leaf (.cond (.seq .leaf .leaf) .leaf))))))) (.draw [[],[],[],[1,2],[1,2,3],[0,1,2,3,4],[],[],[6,7],[0,1,2,3,4,5],[0,1,2,3,4,5,6,7,8,9]] (.calm 0 (.calm 1 (.calm 2 (.calm 3 (.calm 6 (.calm 7 (.calm 8 (.eff1 4 [] (.eff1 5 [] (.calm 9 (.calm 10 .done)))))))))))))))) [0,5] [2,3,4,6,7,8,9,10,11,12,13,14,15,16,17,18,19,20,21,22,23,24,25,26,27,28,29,30,31,32,33])) (.seq .leaf .leaf))))
theorem S.styx_Frames.eq (a0 : Value) (w : World) (R : Value → World → Prop) : S.styx_Frames a0 w R = fnC PP 36 (Tryd.f29.body.getD .skip) S.styx_Frames.an [.tmp 2, .tmp 3, .tmp 4] [a0] w R := by kernel_rfl
theorem S.styx_Frames.calls {a0 : Value} {w : World} {R : Value → World → Prop} (h : S.styx_Frames a0 w R) : Ca PP Fn.styx_Frames #[a0] w R :=
  fnC_calls mixed (f := Fn.styx_Frames) (an := S.styx_Frames.an) Tryd.func29 rfl (by show _ ≤ _; exact Nat.le_of_ble_eq_true rfl) (S.styx_Frames.eq a0 w R ▸ h)
/-- acheron/acheronref31.Frames -/
def S.r31_Frames (a0 : Value) (w : World) (R : Value → World → Prop) : Prop :=
 Ef PP (Instr.buildSlice Ty.sl_string 0 #[]) w fun t1 w2 =>
 ∃ (I3 : List Value → World → Prop) (m4 : List Value → World → Nat), I3 [a0, t1] w2 ∧ ∀ t7 t8, ∀ (u5 : Env) (w6 : World), I3 [t7, t8] w6 →
 LnS t7 fun t9 =>
 Bi .geq t9 (.int .i64 4) fun t10 =>
 Cnd t10 (
 SlS t7 none (some (.int .i64 4)) fun t11 =>
 Ca PP Fn.r31_value #[t11] w6 fun t12 w13 =>
 Cv .i64 t12 fun t14 =>
 Bi .gtr t14 (.int .i64 8192) fun t15 =>
 Cnd t15 (
 R (.tuple #[(.slice none 0 0), (.string ⟨#[]⟩), (.int .i64 3)]) w13) (
 Bi .lss t14 (.int .i64 7) fun t16 =>
 Cnd t16 (
 R (.tuple #[(.slice none 0 0), (.string ⟨#[]⟩), (.int .i64 14)]) w13) (
 LnS t7 fun t17 =>
 Bi .gtr t14 t17 fun t18 =>
 Cnd t18 (
 R (.tuple #[t8, t7, (.int .i64 0)]) w13) (
 SlS t7 none (some t14) fun t19 =>
 Ef PP (Instr.buildSlice Ty.sl_string 1 #[(0, t19)]) w13 fun t20 w21 =>
 Ef PP (Builtin.append_ #[Ty.sl_string, Ty.sl_string] Ty.sl_string #[t8, t20]) w21 fun t22 w23 =>
 SlS t7 (some t14) none fun t24 =>
 I3 [t24, t22] w23 ∧ m4 [t24, t22] w23 < m4 [t7, t8] w6)))) (
 R (.tuple #[t8, t7, (.int .i64 0)]) w6)
def S.r31_Frames.an : Ann := (.seq .leaf (.seq .leaf (.seq (.block (.loop (.seq (.seq .leaf (.cond .leaf .leaf)) (.block (.seq .leaf (.seq (.seq .leaf (.cond (.seq .leaf .leaf) .leaf)) (.seq (.seq .leaf (.cond (.seq .leaf .leaf) .leaf)) (.seq (.seq .leaf (.cond (.seq .leaf .leaf) .leaf)) (.seq .leaf .leaf))))))) [0,5] [2,3,4,6,8,9,10,11,12,13,14,15,16,17,18,19,20,21,22,23,24,25,26,27,28,29,30,31,32,33])) (.seq .leaf .leaf))))
theorem S.r31_Frames.eq (a0 : Value) (w : World) (R : Value → World → Prop) : S.r31_Frames a0 w R = fnC PP 36 (Tryd.f30.body.getD .skip) S.r31_Frames.an [.tmp 2, .tmp 3, .tmp 4] [a0] w R := by kernel_rfl
theorem S.r31_Frames.calls {a0 : Value} {w : World} {R : Value → World → Prop} (h : S.r31_Frames a0 w R) : Ca PP Fn.r31_Frames #[a0] w R :=
  fnC_calls mixed (f := Fn.r31_Frames) (an := S.r31_Frames.an) Tryd.func30 rfl (by show _ ≤ _; exact Nat.le_of_ble_eq_true rfl) (S.r31_Frames.eq a0 w R ▸ h)
/-- slices.Equal[[]string,string] -/
def S.slices_Equal_sl_string_string (a0 a1 : Value) (w : World) (R : Value → World → Prop) : Prop :=
 LnL a0 fun t1 =>
 LnL a1 fun t2 =>
 Bi .neq t1 t2 fun t3 =>
 Cnd t3 (
 R (.bool false) w) (
 LnL a0 fun t4 =>
 ∃ (I5 : List Value → World → Prop) (m6 : List Value → World → Nat), I5 [(.int .i64 0)] w ∧ ∀ t9, ∀ (u7 : Env) (w8 : World), I5 [t9] w8 →
 Bi .lss t9 t4 fun t10 =>
 Cnd t10 (
 Dr w8 fun w11 =>
 IxA 1 a0 t9 fun t12 =>
 Ld t12 w11 fun t13 =>
 IxA 1 a1 t9 fun t14 =>
 Ld t14 w11 fun t15 =>
 Bi .neq t13 t15 fun t16 =>
 Cnd t16 (
 R (.bool false) w11) (
 Bi .add t9 (.int .i64 1) fun t17 =>
 I5 [t17] w11 ∧ m6 [t17] w11 < m6 [t9] w8)) (
 R (.bool true) w8))
def S.slices_Equal_sl_string_string.an : Ann := (.seq .leaf (.seq (.seq .leaf (.cond (.seq .leaf .leaf) .leaf)) (.seq (.seq .leaf (.block (.loop (.seq .leaf (.seq (.cond .leaf .leaf) (.seq (.block (.seq .leaf (.seq (.draw [[],[],[0,1],[0,1,2],[],[],[4,5],[4,5,6],[0,1,2,3,4,5,6,7]] (.calm 0 (.calm 1 (.calm 2 (.calm 3 (.calm 4 (.calm 5 (.calm 6 (.calm 7 (.calm 8 .done)))))))))) (.cond (.seq .leaf .leaf) .leaf)))) .leaf))) [13] [4,5,14,15,16,17,18,19,20,21,22,23,24,25]))) (.seq .leaf .leaf))))
theorem S.slices_Equal_sl_string_string.eq (a0 a1 : Value) (w : World) (R : Value → World → Prop) : S.slices_Equal_sl_string_string a0 a1 w R = fnC PP 26 (Tryd.f31.body.getD .skip) S.slices_Equal_sl_string_string.an [.tmp 4] [a0, a1] w R := by kernel_rfl
theorem S.slices_Equal_sl_string_string.calls {a0 a1 : Value} {w : World} {R : Value → World → Prop} (h : S.slices_Equal_sl_string_string a0 a1 w R) : Ca PP Fn.slices_Equal_sl_string_string #[a0, a1] w R :=
  fnC_calls mixed (f := Fn.slices_Equal_sl_string_string) (an := S.slices_Equal_sl_string_string.an) Tryd.func31 rfl (by show _ ≤ _; exact Nat.le_of_ble_eq_true rfl) (S.slices_Equal_sl_string_string.eq a0 a1 w R ▸ h)
/-- slices.EqualFunc[[]acheron/api.Msg,[]acheron/api.Msg,acheron/api.Msg,acheron/api.Msg] -/
def S.slices_EqualFunc_sl_api_Msg_sl_api_Msg_api_Msg_api_Msg (a0 a1 a2 : Value) (w : World) (R : Value → World → Prop) : Prop :=
 LnL a0 fun t1 =>
 LnL a1 fun t2 =>
 Bi .neq t1 t2 fun t3 =>
 Cnd t3 (
 R (.bool false) w) (
 LnL a0 fun t4 =>
 ∃ (I5 : List Value → World → Prop) (m6 : List Value → World → Nat), I5 [(.int .i64 0)] w ∧ ∀ t9, ∀ (u7 : Env) (w8 : World), I5 [t9] w8 →
 Bi .lss t9 t4 fun t10 =>
 Cnd t10 (
 IxA 27 a0 t9 fun t11 =>
 LdA PP 27 t11 w8 fun t12 =>
 Al Ty.api_Msg #[.int .i64 0, .int .i64 0, .int .i64 0, .int .i64 0, .int .i64 0, .int .i64 0, .int .i64 0, .int .i64 0, .int .i64 0, .string ⟨#[]⟩, .string ⟨#[]⟩, .string ⟨#[]⟩, .string ⟨#[]⟩, .slice none 0 0, .slice none 0 0, .string ⟨#[]⟩, .int .i64 0, .int .i64 0, .int .i64 0, .int .i64 0, .int .i64 0, .int .i64 0, .string ⟨#[]⟩, .string ⟨#[]⟩, .string ⟨#[]⟩, .string ⟨#[]⟩, .int .i64 0] w8 fun t13 w14 =>
 St PP 27 t13 t12 w14 fun w15 =>
 IxA 27 a1 t9 fun t16 =>
 LdA PP 27 t16 w15 fun t17 =>
 Al Ty.api_Msg #[.int .i64 0, .int .i64 0, .int .i64 0, .int .i64 0, .int .i64 0, .int .i64 0, .int .i64 0, .int .i64 0, .int .i64 0, .string ⟨#[]⟩, .string ⟨#[]⟩, .string ⟨#[]⟩, .string ⟨#[]⟩, .slice none 0 0, .slice none 0 0, .string ⟨#[]⟩, .int .i64 0, .int .i64 0, .int .i64 0, .int .i64 0, .int .i64 0, .int .i64 0, .string ⟨#[]⟩, .string ⟨#[]⟩, .string ⟨#[]⟩, .string ⟨#[]⟩, .int .i64 0] w15 fun t18 w19 =>
 St PP 27 t18 t17 w19 fun w20 =>
 LdA PP 27 t13 w20 fun t21 =>
 LdA PP 27 t18 w20 fun t22 =>
 CaV PP a2 #[t21, t22] w20 fun t23 w24 =>
 Un .not t23 fun t25 =>
 Cnd t25 (
 R (.bool false) w24) (
 Bi .add t9 (.int .i64 1) fun t26 =>
 I5 [t26] w24 ∧ m6 [t26] w24 < m6 [t9] w8)) (
 R (.bool true) w8))
def S.slices_EqualFunc_sl_api_Msg_sl_api_Msg_api_Msg_api_Msg.an : Ann := (.seq .leaf (.seq (.seq .leaf (.cond (.seq .leaf .leaf) .leaf)) (.seq (.seq .leaf (.block (.loop (.seq .leaf (.seq (.cond .leaf .leaf) (.seq (.block (.seq .leaf (.seq .leaf (.seq .leaf (.cond (.seq .leaf .leaf) .leaf))))) .leaf))) [17] [6,7,8,9,18,19,20,21,22,23,24,25,26,27,28,29,30,31]))) (.seq .leaf .leaf))))
theorem S.slices_EqualFunc_sl_api_Msg_sl_api_Msg_api_Msg_api_Msg.eq (a0 a1 a2 : Value) (w : World) (R : Value → World → Prop) : S.slices_EqualFunc_sl_api_Msg_sl_api_Msg_api_Msg_api_Msg a0 a1 a2 w R = fnC PP 32 (Tryd.f32.body.getD .skip) S.slices_EqualFunc_sl_api_Msg_sl_api_Msg_api_Msg_api_Msg.an [.tmp 6] [a0, a1, a2] w R := by kernel_rfl
theorem S.slices_EqualFunc_sl_api_Msg_sl_api_Msg_api_Msg_api_Msg.calls {a0 a1 a2 : Value} {w : World} {R : Value → World → Prop} (h : S.slices_EqualFunc_sl_api_Msg_sl_api_Msg_api_Msg_api_Msg a0 a1 a2 w R) : Ca PP Fn.slices_EqualFunc_sl_api_Msg_sl_api_Msg_api_Msg_api_Msg #[a0, a1, a2] w R :=
  fnC_calls mixed (f := Fn.slices_EqualFunc_sl_api_Msg_sl_api_Msg_api_Msg_api_Msg) (an := S.slices_EqualFunc_sl_api_Msg_sl_api_Msg_api_Msg_api_Msg.an) Tryd.func32 rfl (by show _ ≤ _; exact Nat.le_of_ble_eq_true rfl) (S.slices_EqualFunc_sl_api_Msg_sl_api_Msg_api_Msg_api_Msg.eq a0 a1 a2 w R ▸ h)
end Go.Proofs.YtmlccboapkkcfaaDoor
