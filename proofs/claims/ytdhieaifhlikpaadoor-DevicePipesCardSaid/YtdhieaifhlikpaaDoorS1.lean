import Derived.Test.YtdhieaifhlikpaaDoorSc
namespace Go.Proofs.YtdhieaifhlikpaaDoor
open Go Go.Sh
set_option linter.unusedVariables false
set_option maxRecDepth 100000
/-- (*acheron/stream.Pipe).settle -/
def S.stream_Pipe_settle (a0 : Value) (w : World) (R : Value → World → Prop) : Prop :=
 ∃ (I_1 : List Value → World → Prop) (m_2 : List Value → World → Nat), I_1 [] w ∧ ∀ (u_3 : Env) (w_4 : World), I_1 [] w_4 →
 BdA #[.int .i64 0, .int .i64 0] 1 [(0, (.int .i64 0)), (1, (.int .i64 1))] fun t9_5 =>
 ∃ (I_6 : List Value → World → Prop) (m_7 : List Value → World → Nat), I_6 [(.int .i64 0)] w_4 ∧ ∀ t10_10, ∀ (u_8 : Env) (w_9 : World), I_6 [t10_10] w_9 →
 Bi .lss t10_10 (.int .i64 2) fun t11_11 =>
 Cnd t11_11 (
 Rd PP (Instr.index Ty.f_2_int t9_5 t10_10) w_9 fun t12_12 =>
 Al Ty.int #[.int .i64 0] w_9 fun t3_13 w_14 =>
 St PP 1 t3_13 t12_12 w_14 fun w_15 =>
 ∃ (I_16 : List Value → World → Prop) (m_17 : List Value → World → Nat), I_16 [(.int .i64 0)] w_15 ∧ ∀ t13_20, ∀ (u_18 : Env) (w_19 : World), I_16 [t13_20] w_19 →
 Bi .lss t13_20 (.int .i64 2) fun t14_21 =>
 Cnd t14_21 (
 Al Ty.int #[.int .i64 0] w_19 fun t4_22 w_23 =>
 St PP 1 t4_22 t13_20 w_23 fun w_24 =>
 Nc a0 fun t17_25 =>
 Fa 6 t17_25 fun t18_26 =>
 Ld t18_26 w_24 fun t19_27 =>
 Ca PP Fn.slices_IndexFunc_sl_stream_asked_stream_asked #[t19_27, (.func (.func Fn.stream_Pipe_settle_1) #[] #[t3_13, t4_22])] w_24 fun t21_28 w_29 =>
 ∀ J_30 : List Value → World → Prop, (∀ t36_33, ∀ w_32 : World, (∀ u_31 : Env,
 Cnd t36_33 (
 Bi .add t13_20 (.int .i64 1) fun t76_34 =>
 I_16 [t76_34] w_32 ∧ m_17 [t76_34] w_32 < m_17 [t13_20] w_19) (
 Nc a0 fun t38_35 =>
 Fa 6 t38_35 fun t39_36 =>
 Ld t39_36 w_32 fun t40_37 =>
 IxA 5 t40_37 t21_28 fun t42_38 =>
 LdA PP 5 t42_38 w_32 fun t43_39 =>
 Al Ty.stream_asked #[.int .i64 0, .int .i64 0, .int .i64 0, .string ⟨#[]⟩, .int .i64 0] w_32 fun t6_40 w_41 =>
 St PP 5 t6_40 t43_39 w_41 fun w_42 =>
 Nc a0 fun t46_43 =>
 Fa 6 t46_43 fun t47_44 =>
 Ld t47_44 w_42 fun t48_45 =>
 Bi .add t21_28 (.int .i64 1) fun t51_46 =>
 Ca PP Fn.slices_Delete_sl_stream_asked_stream_asked #[t48_45, t21_28, t51_46] w_42 fun t52_47 w_48 =>
 Nc a0 fun t53_49 =>
 Fa 6 t53_49 fun t54_50 =>
 St PP 1 t54_50 t52_47 w_48 fun w_51 =>
 Fa 0 t6_40 fun t57_52 =>
 LdA PP 4 t57_52 w_51 fun t58_53 =>
 Ca PP Fn.stream_Pipe_do #[a0, t58_53] w_51 fun t59_54 w_55 =>
 Ex t59_54 0 fun t60_56 =>
 Ex t59_54 1 fun t61_57 =>
 Dr w_55 fun w_58 =>
 Nc a0 fun t64_59 =>
 Fa 7 t64_59 fun t65_60 =>
 Ld t65_60 w_58 fun t66_61 =>
 Fa 4 t6_40 fun t67_62 =>
 Ld t67_62 w_58 fun t68_63 =>
 Bd #[.int .i64 0, .int .i64 0, .string ⟨#[]⟩, .int .i64 0] [(0, 1), (1, 1), (2, 1), (3, 1)] [(0, t68_63), (1, t60_56), (2, t61_57), (3, (.int .i64 0))] fun t71_64 =>
 Ef PP (Instr.buildSlice Ty.sl_stream_Answer 1 #[(0, t71_64)]) w_58 fun t72_65 w_66 =>
 (Ld t65_60 w_66 fun t66_67 =>
 t66_67 = t66_61) ∧
 Ef PP (Builtin.append_ #[Ty.sl_stream_Answer, Ty.sl_stream_Answer] Ty.sl_stream_Answer #[t66_61, t72_65]) w_66 fun t73_68 w_69 =>
 Nc a0 fun t74_70 =>
 Fa 7 t74_70 fun t75_71 =>
 St PP 1 t75_71 t73_68 w_69 fun w_72 =>
 I_1 [] w_72 ∧ m_2 [] w_72 < m_2 [] w_4)) → J_30 [t36_33] w_32) →
 Bi .lss t21_28 (.int .i64 0) fun t23_73 =>
 Gd t23_73 false (fun k_74 => k_74 a0 w_29) w_29 fun t25_75 w_76 =>
 Gd t23_73 false (fun k_77 => k_77 a0 w_76) w_76 fun t26_78 w_79 =>
 Gd t23_73 false (fun k_80 => Nc t26_78 fun t27_83 =>
 k_80 t27_83 w_79) w_79 fun t27_81 w_82 =>
 Gd t23_73 false (fun k_84 => Fa 6 t27_81 fun t28_87 =>
 k_84 t28_87 w_82) w_82 fun t28_85 w_86 =>
 Gd t23_73 false (fun k_88 => Ld t28_85 w_86 fun t29_91 =>
 k_88 t29_91 w_86) w_86 fun t29_89 w_90 =>
 Gd t23_73 false (fun k_92 => k_92 t21_28 w_90) w_90 fun t30_93 w_94 =>
 Gd t23_73 false (fun k_95 => IxA 5 t29_89 t30_93 fun t31_98 =>
 k_95 t31_98 w_94) w_94 fun t31_96 w_97 =>
 Gd t23_73 false (fun k_99 => Fa 0 t31_96 fun t32_102 =>
 k_99 t32_102 w_97) w_97 fun t32_100 w_101 =>
 Gd t23_73 false (fun k_103 => LdA PP 4 t32_100 w_101 fun t33_106 =>
 k_103 t33_106 w_101) w_101 fun t33_104 w_105 =>
 Gd t23_73 false (fun k_107 => Ca PP Fn.stream_Pipe_ready #[t25_75, t33_104] w_105 fun t34_110 w_111 =>
 k_107 t34_110 w_111) w_105 fun t34_108 w_109 =>
 Gd t23_73 false (fun k_112 => Un .not t34_108 fun t35_115 =>
 k_112 t35_115 w_109) w_109 fun t35_113 w_114 =>
 Pk t23_73 (.bool true) t35_113 fun t36_116 =>
 J_30 [t36_116] w_114) (
 Bi .add t10_10 (.int .i64 1) fun t77_117 =>
 I_6 [t77_117] w_19 ∧ m_7 [t77_117] w_19 < m_7 [t10_10] w_9)) (
 R (.tuple #[]) w_9)
def S.stream_Pipe_settle.an : Ann := (.block (.seq .leaf (.block (.loop (.block (.seq (.seq .leaf (.block (.loop (.seq .leaf (.seq (.cond .leaf .leaf) (.seq (.block (.seq .leaf (.seq .leaf (.block (.loop (.seq .leaf (.seq (.cond .leaf .leaf) (.seq (.block (.seq .leaf (.seq .leaf (.seq (.join .leaf [36] [22, 23, 24, 25, 26, 27, 28, 29, 30, 31, 32, 33, 34, 35] (.cond .leaf .leaf)) (.seq .leaf (.seq .leaf (.seq .leaf (.seq (.draw [[], [], [1], [1, 2], [1, 2, 3], [], [5], [], [], [5, 6, 7, 8], [5, 6, 7, 8, 9], [1, 2, 3, 4, 5, 6, 7, 8, 9, 10], [0, 1, 2, 3, 4, 5, 6, 7, 8, 9, 10, 11], [0, 1, 2, 3, 4, 5, 6, 7, 8, 9, 10, 11, 12], [0, 1, 2, 3, 4, 5, 6, 7, 8, 9, 10, 11, 12, 13]] (.calm 0 (.calm 1 (.calm 2 (.calm 3 (.calm 4 (.calm 5 (.calm 6 (.calm 7 (.calm 8 (.calm 9 (.eff1 10 [4] (.eff1 11 [] (.calm 12 (.calm 13 (.eff1 14 [] .done)))))))))))))))) .leaf)))))))) .leaf))) [13] [4, 5, 6, 7, 8, 14, 15, 16, 17, 18, 19, 20, 21, 22, 23, 24, 25, 26, 27, 28, 29, 30, 31, 32, 33, 34, 35, 36, 37, 38, 39, 40, 41, 42, 43, 44, 45, 46, 47, 48, 49, 50, 51, 52, 53, 54, 55, 56, 57, 58, 59, 60, 61, 62, 63, 64, 65, 66, 67, 68, 69, 70, 71, 72, 73, 74, 75, 76]))))) .leaf))) [10] [3, 4, 5, 6, 7, 8, 11, 12, 13, 14, 15, 16, 17, 18, 19, 20, 21, 22, 23, 24, 25, 26, 27, 28, 29, 30, 31, 32, 33, 34, 35, 36, 37, 38, 39, 40, 41, 42, 43, 44, 45, 46, 47, 48, 49, 50, 51, 52, 53, 54, 55, 56, 57, 58, 59, 60, 61, 62, 63, 64, 65, 66, 67, 68, 69, 70, 71, 72, 73, 74, 75, 76, 77]))) .leaf)) [] [3, 4, 5, 6, 7, 8, 9, 10, 11, 12, 13, 14, 15, 16, 17, 18, 19, 20, 21, 22, 23, 24, 25, 26, 27, 28, 29, 30, 31, 32, 33, 34, 35, 36, 37, 38, 39, 40, 41, 42, 43, 44, 45, 46, 47, 48, 49, 50, 51, 52, 53, 54, 55, 56, 57, 58, 59, 60, 61, 62, 63, 64, 65, 66, 67, 68, 69, 70, 71, 72, 73, 74, 75, 76, 77]))))
theorem S.stream_Pipe_settle.eq (a0 : Value) (w : World) (R : Value → World → Prop) : S.stream_Pipe_settle a0 w R = fnC PP 78 (Tryd.f73.body.getD .skip) S.stream_Pipe_settle.an [] [a0] w R := by kernel_rfl
theorem S.stream_Pipe_settle.calls {a0 : Value} {w : World} {R : Value → World → Prop} (h : S.stream_Pipe_settle a0 w R) : Ca PP Fn.stream_Pipe_settle #[a0] w R :=
  fnC_calls mixed (f := Fn.stream_Pipe_settle) (an := S.stream_Pipe_settle.an) Tryd.func73 rfl (by show _ ≤ _; exact Nat.le_of_ble_eq_true rfl) (S.stream_Pipe_settle.eq a0 w R ▸ h)
theorem S.stream_Pipe_settle.callsD {a0 : Value} {w : World} {R : Value → World → Prop} (h : S.stream_Pipe_settle a0 w R) : CaD PP Fn.stream_Pipe_settle #[a0] w fun w' => ∃ v, R v w' :=
  fnC_callsD mixed (f := Fn.stream_Pipe_settle) (an := S.stream_Pipe_settle.an) Tryd.func73 rfl (by show _ ≤ _; exact Nat.le_of_ble_eq_true rfl) (by kernel_rfl) (S.stream_Pipe_settle.eq a0 w R ▸ h)
/-- (*acheron/stream.Pipe).do -/
def S.stream_Pipe_do (a0 a1 : Value) (w : World) (R : Value → World → Prop) : Prop :=
 Al Ty.stream_Op (a1 : Value).cells w fun t3_1 w_2 =>
 LdA PP 4 t3_1 w_2 fun t9_3 =>
 Ca PP Fn.stream_Op_empty #[t9_3] w_2 fun t10_4 w_5 =>
 Cnd t10_4 (
 R (.tuple #[(.int .i64 0), (.string ⟨#[]⟩)]) w_5) (
 LdA PP 4 t3_1 w_5 fun t12_6 =>
 Ca PP Fn.stream_Pipe_queue #[a0, t12_6] w_5 fun t13_7 w_8 =>
 Fa 0 t3_1 fun t14_9 =>
 Ld t14_9 w_8 fun t15_10 =>
 Bi .eql t15_10 (.int .i64 1) fun t16_11 =>
 Cnd t16_11 (
 Dr w_8 fun w_12 =>
 Nc t13_7 fun t19_13 =>
 Ld t19_13 w_12 fun t20_14 =>
 Fa 3 t3_1 fun t21_15 =>
 Ld t21_15 w_12 fun t22_16 =>
 Ef PP (Instr.buildSlice Ty.sl_string 1 #[(0, t22_16)]) w_12 fun t23_17 w_18 =>
 (Ld t19_13 w_18 fun t20_19 =>
 t20_19 = t20_14) ∧
 Ef PP (Builtin.append_ #[Ty.sl_string, Ty.sl_string] Ty.sl_string #[t20_14, t23_17]) w_18 fun t24_20 w_21 =>
 Nc t13_7 fun t25_22 =>
 St PP 1 t25_22 t24_20 w_21 fun w_23 =>
 Fa 3 t3_1 fun t26_24 =>
 Ld t26_24 w_23 fun t27_25 =>
 LnS t27_25 fun t28_26 =>
 R (.tuple #[t28_26, (.string ⟨#[]⟩)]) w_23) (
 Nc t13_7 fun t30_27 =>
 Ld t30_27 w_8 fun t31_28 =>
 IxA 1 t31_28 (.int .i64 0) fun t32_29 =>
 Ld t32_29 w_8 fun t33_30 =>
 Fa 2 t3_1 fun t34_31 =>
 Ld t34_31 w_8 fun t35_32 =>
 LnS t33_30 fun t37_33 =>
 Mn t35_32 t37_33 fun t38_34 =>
 ∀ J_35 : List Value → World → Prop, (∀ w_37 : World, (∀ u_36 : Env,
 Dr w_37 fun w_38 =>
 SlS t33_30 none (some t38_34) fun t58_39 =>
 R (.tuple #[(.int .i64 0), t58_39]) w_38) → J_35 [] w_37) →
 LnS t33_30 fun t41_40 =>
 Bi .eql t38_34 t41_40 fun t42_41 =>
 Cnd t42_41 (
 Nc t13_7 fun t45_42 =>
 Ld t45_42 w_8 fun t46_43 =>
 Sl 1 t46_43 (some (.int .i64 1)) none fun t47_44 =>
 Nc t13_7 fun t48_45 =>
 St PP 1 t48_45 t47_44 w_8 fun w_46 =>
 J_35 [] w_46) (
 Dr w_8 fun w_47 =>
 Nc t13_7 fun t50_48 =>
 Ld t50_48 w_47 fun t51_49 =>
 SlS t33_30 (some t38_34) none fun t54_50 =>
 IxA 1 t51_49 (.int .i64 0) fun t55_51 =>
 St PP 1 t55_51 t54_50 w_47 fun w_52 =>
 J_35 [] w_52)))
def S.stream_Pipe_do.an : Ann := (.seq .leaf (.seq (.seq .leaf (.cond (.seq .leaf .leaf) .leaf)) (.seq .leaf (.seq (.seq .leaf (.cond (.seq (.draw [[], [], [1], [1, 2], [], [4], [4, 5], [1, 2, 3, 4, 5, 6], [0, 1, 2, 3, 4, 5, 6, 7], [0, 1, 2, 3, 4, 5, 6, 7, 8]] (.calm 0 (.calm 1 (.calm 2 (.calm 3 (.calm 4 (.calm 5 (.eff1 6 [3] (.eff1 7 [] (.calm 8 (.eff1 9 [] .done))))))))))) (.seq .leaf .leaf)) .leaf)) (.seq .leaf (.seq .leaf (.join (.seq .leaf (.cond .leaf (.draw [[], [0], [0, 1], [], [], [3, 4], [0, 1, 2, 3, 4, 5], [0, 1, 2, 3, 4, 5, 6]] (.calm 0 (.calm 1 (.calm 2 (.calm 3 (.calm 4 (.calm 5 (.calm 6 (.eff1 7 [] .done))))))))))) [] [39, 40, 41, 42, 43, 44, 45, 46, 47, 48, 49, 50, 51, 52, 53, 54, 55] (.seq (.draw [[], [], [0, 1], [], [0, 1, 2, 3]] (.calm 0 (.calm 1 (.calm 2 (.calm 3 (.calm 4 .done)))))) .leaf))))))))
theorem S.stream_Pipe_do.eq (a0 a1 : Value) (w : World) (R : Value → World → Prop) : S.stream_Pipe_do a0 a1 w R = fnC PP 59 (Tryd.f74.body.getD .skip) S.stream_Pipe_do.an [.tmp 4, .tmp 5] [a0, a1] w R := by kernel_rfl
theorem S.stream_Pipe_do.calls {a0 a1 : Value} {w : World} {R : Value → World → Prop} (h : S.stream_Pipe_do a0 a1 w R) : Ca PP Fn.stream_Pipe_do #[a0, a1] w R :=
  fnC_calls mixed (f := Fn.stream_Pipe_do) (an := S.stream_Pipe_do.an) Tryd.func74 rfl (by show _ ≤ _; exact Nat.le_of_ble_eq_true rfl) (S.stream_Pipe_do.eq a0 a1 w R ▸ h)
/-- acheron/stream.isEnd -/
def S.stream_isEnd (a0 : Value) (w : World) (R : Value → World → Prop) : Prop :=
 ∀ J_1 : List Value → World → Prop, (∀ t2_4, ∀ w_3 : World, (∀ u_2 : Env,
 R t2_4 w_3) → J_1 [t2_4] w_3) →
 Bi .eql a0 (.int .i64 0) fun t4_5 =>
 Gd t4_5 false (fun k_6 => k_6 a0 w) w fun t6_7 w_8 =>
 Gd t4_5 false (fun k_9 => Bi .eql t6_7 (.int .i64 1) fun t7_12 =>
 k_9 t7_12 w_8) w_8 fun t7_10 w_11 =>
 Pk t4_5 (.bool true) t7_10 fun t8_13 =>
 J_1 [t8_13] w_11
def S.stream_isEnd.an : Ann := (.seq .leaf (.join .leaf [2] [3, 4, 5, 6, 7, 8] .leaf))
theorem S.stream_isEnd.eq (a0 : Value) (w : World) (R : Value → World → Prop) : S.stream_isEnd a0 w R = fnC PP 9 (Tryd.f75.body.getD .skip) S.stream_isEnd.an [.tmp 2] [a0] w R := by kernel_rfl
theorem S.stream_isEnd.calls {a0 : Value} {w : World} {R : Value → World → Prop} (h : S.stream_isEnd a0 w R) : Ca PP Fn.stream_isEnd #[a0] w R :=
  fnC_calls mixed (f := Fn.stream_isEnd) (an := S.stream_isEnd.an) Tryd.func75 rfl (by show _ ≤ _; exact Nat.le_of_ble_eq_true rfl) (S.stream_isEnd.eq a0 w R ▸ h)
/-- (*acheron/stream.Pipe).ready -/
def S.stream_Pipe_ready (a0 a1 : Value) (w : World) (R : Value → World → Prop) : Prop :=
 Al Ty.stream_Op (a1 : Value).cells w fun t3_1 w_2 =>
 LdA PP 4 t3_1 w_2 fun t10_3 =>
 Ca PP Fn.stream_Pipe_queue #[a0, t10_3] w_2 fun t11_4 w_5 =>
 Nc t11_4 fun t12_6 =>
 Ld t12_6 w_5 fun t13_7 =>
 Fa 0 t3_1 fun t14_8 =>
 Ld t14_8 w_5 fun t15_9 =>
 Bi .eql t15_9 (.int .i64 0) fun t16_10 =>
 Cnd t16_10 (
 LnL t13_7 fun t18_11 =>
 Bi .gtr t18_11 (.int .i64 0) fun t19_12 =>
 R t19_12 w_5) (
 LnL t13_7 fun t21_13 =>
 ∃ (I_14 : List Value → World → Prop) (m_15 : List Value → World → Nat), I_14 [(.int .i64 0), (.int .i64 0)] w_5 ∧ ∀ t6_18 t22_19, ∀ (u_16 : Env) (w_17 : World), I_14 [t6_18, t22_19] w_17 →
 Bi .lss t22_19 t21_13 fun t23_20 =>
 Cnd t23_20 (
 IxA 1 t13_7 t22_19 fun t24_21 =>
 Ld t24_21 w_17 fun t25_22 =>
 LnS t25_22 fun t28_23 =>
 Bi .add t6_18 t28_23 fun t29_24 =>
 Bi .add t22_19 (.int .i64 1) fun t30_25 =>
 I_14 [t29_24, t30_25] w_17 ∧ m_15 [t29_24, t30_25] w_17 < m_15 [t6_18, t22_19] w_17) (
 Nc a0 fun t33_26 =>
 Fa 4 t33_26 fun t34_27 =>
 Ld t34_27 w_17 fun t35_28 =>
 Bi .lss t6_18 t35_28 fun t36_29 =>
 R t36_29 w_17))
def S.stream_Pipe_ready.an : Ann := (.seq .leaf (.seq .leaf (.seq (.seq .leaf (.cond (.seq .leaf .leaf) .leaf)) (.seq .leaf (.seq (.seq .leaf (.block (.loop (.seq .leaf (.seq (.cond .leaf .leaf) (.seq (.block (.seq .leaf .leaf)) .leaf))) [6, 22] [8, 23, 24, 25, 26, 27, 28, 29, 30]))) (.seq .leaf .leaf))))))
theorem S.stream_Pipe_ready.eq (a0 a1 : Value) (w : World) (R : Value → World → Prop) : S.stream_Pipe_ready a0 a1 w R = fnC PP 37 (Tryd.f88.body.getD .skip) S.stream_Pipe_ready.an [.tmp 4] [a0, a1] w R := by kernel_rfl
theorem S.stream_Pipe_ready.calls {a0 a1 : Value} {w : World} {R : Value → World → Prop} (h : S.stream_Pipe_ready a0 a1 w R) : Ca PP Fn.stream_Pipe_ready #[a0, a1] w R :=
  fnC_calls mixed (f := Fn.stream_Pipe_ready) (an := S.stream_Pipe_ready.an) Tryd.func88 rfl (by show _ ≤ _; exact Nat.le_of_ble_eq_true rfl) (S.stream_Pipe_ready.eq a0 a1 w R ▸ h)
/-- (acheron/stream.Op).empty -/
def S.stream_Op_empty (a0 : Value) (w : World) (R : Value → World → Prop) : Prop :=
 Al Ty.stream_Op (a0 : Value).cells w fun t1_1 w_2 =>
 Fa 0 t1_1 fun t3_3 =>
 Ld t3_3 w_2 fun t4_4 =>
 Bi .eql t4_4 (.int .i64 0) fun t5_5 =>
 Cnd t5_5 (
 Fa 2 t1_1 fun t6_6 =>
 Ld t6_6 w_2 fun t7_7 =>
 Bi .eql t7_7 (.int .i64 0) fun t8_8 =>
 R t8_8 w_2) (
 Fa 3 t1_1 fun t9_9 =>
 Ld t9_9 w_2 fun t10_10 =>
 Bi .eql t10_10 (.string ⟨#[]⟩) fun t11_11 =>
 R t11_11 w_2)
def S.stream_Op_empty.an : Ann := (.seq .leaf (.seq (.seq .leaf (.cond (.seq .leaf .leaf) .leaf)) (.seq .leaf .leaf)))
theorem S.stream_Op_empty.eq (a0 : Value) (w : World) (R : Value → World → Prop) : S.stream_Op_empty a0 w R = fnC PP 12 (Tryd.f89.body.getD .skip) S.stream_Op_empty.an [.tmp 2] [a0] w R := by kernel_rfl
theorem S.stream_Op_empty.calls {a0 : Value} {w : World} {R : Value → World → Prop} (h : S.stream_Op_empty a0 w R) : Ca PP Fn.stream_Op_empty #[a0] w R :=
  fnC_calls mixed (f := Fn.stream_Op_empty) (an := S.stream_Op_empty.an) Tryd.func89 rfl (by show _ ≤ _; exact Nat.le_of_ble_eq_true rfl) (S.stream_Op_empty.eq a0 w R ▸ h)
/-- (*acheron/stream.Pipe).like -/
def S.stream_Pipe_like (a0 a1 : Value) (w : World) (R : Value → World → Prop) : Prop :=
 Al Ty.stream_Op (a1 : Value).cells w fun t3_1 w_2 =>
 Nc a0 fun t9_3 =>
 Fa 6 t9_3 fun t10_4 =>
 Ld t10_4 w_2 fun t11_5 =>
 LnL t11_5 fun t12_6 =>
 ∃ (I_7 : List Value → World → Prop) (m_8 : List Value → World → Nat), I_7 [(.int .i64 0), (.int .i64 0)] w_2 ∧ ∀ t5_11 t13_12, ∀ (u_9 : Env) (w_10 : World), I_7 [t5_11, t13_12] w_10 →
 Bi .lss t13_12 t12_6 fun t14_13 =>
 Cnd t14_13 (
 ∀ J_14 : List Value → World → Prop, (∀ t5_17, ∀ w_16 : World, (∀ u_15 : Env,
 Bi .add t13_12 (.int .i64 1) fun t33_18 =>
 I_7 [t5_17, t33_18] w_16 ∧ m_8 [t5_17, t33_18] w_16 < m_8 [t5_11, t13_12] w_10) → J_14 [t5_17] w_16) →
 IxA 5 t11_5 t13_12 fun t15_19 =>
 LdA PP 5 t15_19 w_10 fun t16_20 =>
 Al Ty.stream_asked #[.int .i64 0, .int .i64 0, .int .i64 0, .string ⟨#[]⟩, .int .i64 0] w_10 fun t7_21 w_22 =>
 St PP 5 t7_21 t16_20 w_22 fun w_23 =>
 ∀ J_24 : List Value → World → Prop, (∀ t30_27, ∀ w_26 : World, (∀ u_25 : Env,
 Cnd t30_27 (
 Bi .add t5_11 (.int .i64 1) fun t32_28 =>
 J_14 [t32_28] w_26) (
 J_14 [t5_11] w_26)) → J_24 [t30_27] w_26) →
 Fa 0 t7_21 fun t17_29 =>
 Fa 0 t17_29 fun t18_30 =>
 Ld t18_30 w_23 fun t19_31 =>
 Fa 0 t3_1 fun t20_32 =>
 Ld t20_32 w_23 fun t21_33 =>
 Bi .eql t19_31 t21_33 fun t22_34 =>
 Gd t22_34 true (fun k_35 => Fa 0 t7_21 fun t24_38 =>
 k_35 t24_38 w_23) w_23 fun t24_36 w_37 =>
 Gd t22_34 true (fun k_39 => Fa 1 t24_36 fun t25_42 =>
 k_39 t25_42 w_37) w_37 fun t25_40 w_41 =>
 Gd t22_34 true (fun k_43 => Ld t25_40 w_41 fun t26_46 =>
 k_43 t26_46 w_41) w_41 fun t26_44 w_45 =>
 Gd t22_34 true (fun k_47 => Fa 1 t3_1 fun t27_50 =>
 k_47 t27_50 w_45) w_45 fun t27_48 w_49 =>
 Gd t22_34 true (fun k_51 => Ld t27_48 w_49 fun t28_54 =>
 k_51 t28_54 w_49) w_49 fun t28_52 w_53 =>
 Gd t22_34 true (fun k_55 => Bi .eql t26_44 t28_52 fun t29_58 =>
 k_55 t29_58 w_53) w_53 fun t29_56 w_57 =>
 Pk t22_34 t29_56 (.bool false) fun t30_59 =>
 J_24 [t30_59] w_57) (
 R t5_11 w_10)
def S.stream_Pipe_like.an : Ann := (.seq .leaf (.seq .leaf (.seq (.seq .leaf (.block (.loop (.seq .leaf (.seq (.cond .leaf .leaf) (.join (.block (.seq .leaf (.join .leaf [30] [17, 18, 19, 20, 21, 22, 23, 24, 25, 26, 27, 28, 29] (.cond .leaf .leaf)))) [5] [7, 15, 16, 17, 18, 19, 20, 21, 22, 23, 24, 25, 26, 27, 28, 29, 30, 31, 32] .leaf))) [5, 13] [7, 14, 15, 16, 17, 18, 19, 20, 21, 22, 23, 24, 25, 26, 27, 28, 29, 30, 31, 32, 33]))) (.seq .leaf .leaf))))
theorem S.stream_Pipe_like.eq (a0 a1 : Value) (w : World) (R : Value → World → Prop) : S.stream_Pipe_like a0 a1 w R = fnC PP 35 (Tryd.f90.body.getD .skip) S.stream_Pipe_like.an [.tmp 4] [a0, a1] w R := by kernel_rfl
theorem S.stream_Pipe_like.calls {a0 a1 : Value} {w : World} {R : Value → World → Prop} (h : S.stream_Pipe_like a0 a1 w R) : Ca PP Fn.stream_Pipe_like #[a0, a1] w R :=
  fnC_calls mixed (f := Fn.stream_Pipe_like) (an := S.stream_Pipe_like.an) Tryd.func90 rfl (by show _ ≤ _; exact Nat.le_of_ble_eq_true rfl) (S.stream_Pipe_like.eq a0 a1 w R ▸ h)
/-- slices.IndexFunc[[]acheron/stream.asked,acheron/stream.asked] -/
def S.slices_IndexFunc_sl_stream_asked_stream_asked (a0 a1 : Value) (w : World) (R : Value → World → Prop) : Prop :=
 LnL a0 fun t7_1 =>
 ∃ (I_2 : List Value → World → Prop) (m_3 : List Value → World → Nat), I_2 [(.int .i64 0)] w ∧ ∀ t8_6, ∀ (u_4 : Env) (w_5 : World), I_2 [t8_6] w_5 →
 Bi .lss t8_6 t7_1 fun t9_7 =>
 Cnd t9_7 (
 IxA 5 a0 t8_6 fun t14_8 =>
 LdA PP 5 t14_8 w_5 fun t15_9 =>
 CaV PP a1 #[t15_9] w_5 fun t16_10 w_11 =>
 Cnd t16_10 (
 R t8_6 w_11) (
 Bi .add t8_6 (.int .i64 1) fun t18_12 =>
 I_2 [t18_12] w_11 ∧ m_3 [t18_12] w_11 < m_3 [t8_6] w_5)) (
 R (.int .i64 (-1)) w_5)
def S.slices_IndexFunc_sl_stream_asked_stream_asked.an : Ann := (.seq .leaf (.seq (.seq .leaf (.block (.loop (.seq .leaf (.seq (.cond .leaf .leaf) (.seq (.block (.seq .leaf (.seq .leaf (.cond (.seq .leaf .leaf) .leaf)))) .leaf))) [8] [4, 5, 9, 10, 11, 12, 13, 14, 15, 16, 17, 18]))) (.seq .leaf .leaf)))
theorem S.slices_IndexFunc_sl_stream_asked_stream_asked.eq (a0 a1 : Value) (w : World) (R : Value → World → Prop) : S.slices_IndexFunc_sl_stream_asked_stream_asked a0 a1 w R = fnC PP 19 (Tryd.f91.body.getD .skip) S.slices_IndexFunc_sl_stream_asked_stream_asked.an [.tmp 4] [a0, a1] w R := by kernel_rfl
theorem S.slices_IndexFunc_sl_stream_asked_stream_asked.calls {a0 a1 : Value} {w : World} {R : Value → World → Prop} (h : S.slices_IndexFunc_sl_stream_asked_stream_asked a0 a1 w R) : Ca PP Fn.slices_IndexFunc_sl_stream_asked_stream_asked #[a0, a1] w R :=
  fnC_calls mixed (f := Fn.slices_IndexFunc_sl_stream_asked_stream_asked) (an := S.slices_IndexFunc_sl_stream_asked_stream_asked.an) Tryd.func91 rfl (by show _ ≤ _; exact Nat.le_of_ble_eq_true rfl) (S.slices_IndexFunc_sl_stream_asked_stream_asked.eq a0 a1 w R ▸ h)
/-- (*acheron/stream.Pipe).settle$1 -/
def S.stream_Pipe_settle_1 (a0 a1 a2 : Value) (w : World) (R : Value → World → Prop) : Prop :=
 Al Ty.stream_asked (a0 : Value).cells w fun t3_1 w_2 =>
 ∀ J_3 : List Value → World → Prop, (∀ t4_6, ∀ w_5 : World, (∀ u_4 : Env,
 R t4_6 w_5) → J_3 [t4_6] w_5) →
 Fa 0 t3_1 fun t5_7 =>
 Fa 0 t5_7 fun t6_8 =>
 Ld t6_8 w_2 fun t7_9 =>
 Ld a1 w_2 fun t8_10 =>
 Bi .eql t7_9 t8_10 fun t9_11 =>
 Gd t9_11 true (fun k_12 => Fa 0 t3_1 fun t11_15 =>
 k_12 t11_15 w_2) w_2 fun t11_13 w_14 =>
 Gd t9_11 true (fun k_16 => Fa 1 t11_13 fun t12_19 =>
 k_16 t12_19 w_14) w_14 fun t12_17 w_18 =>
 Gd t9_11 true (fun k_20 => Ld t12_17 w_18 fun t13_23 =>
 k_20 t13_23 w_18) w_18 fun t13_21 w_22 =>
 Gd t9_11 true (fun k_24 => Ld a2 w_22 fun t14_27 =>
 k_24 t14_27 w_22) w_22 fun t14_25 w_26 =>
 Gd t9_11 true (fun k_28 => Bi .eql t13_21 t14_25 fun t15_31 =>
 k_28 t15_31 w_26) w_26 fun t15_29 w_30 =>
 Pk t9_11 t15_29 (.bool false) fun t16_32 =>
 J_3 [t16_32] w_30
def S.stream_Pipe_settle_1.an : Ann := (.seq .leaf (.join .leaf [4] [5, 6, 7, 8, 9, 10, 11, 12, 13, 14, 15, 16] .leaf))
theorem S.stream_Pipe_settle_1.eq (a0 a1 a2 : Value) (w : World) (R : Value → World → Prop) : S.stream_Pipe_settle_1 a0 a1 a2 w R = fnC PP 17 (Tryd.f92.body.getD .skip) S.stream_Pipe_settle_1.an [.tmp 4] [a0, a1, a2] w R := by kernel_rfl
theorem S.stream_Pipe_settle_1.calls {a0 a1 a2 : Value} {w : World} {R : Value → World → Prop} (h : S.stream_Pipe_settle_1 a0 a1 a2 w R) : Ca PP Fn.stream_Pipe_settle_1 #[a0, a1, a2] w R :=
  fnC_calls mixed (f := Fn.stream_Pipe_settle_1) (an := S.stream_Pipe_settle_1.an) Tryd.func92 rfl (by show _ ≤ _; exact Nat.le_of_ble_eq_true rfl) (S.stream_Pipe_settle_1.eq a0 a1 a2 w R ▸ h)
/-- slices.Delete[[]acheron/stream.asked,acheron/stream.asked] -/
def S.slices_Delete_sl_stream_asked_stream_asked (a0 a1 a2 : Value) (w : World) (R : Value → World → Prop) : Prop :=
 LnL a0 fun t12_1 =>
 Rd PP (Instr.sliceAt Ty.sl_stream_asked a0 (some a1) (some a2) (some t12_1)) w fun t13_2 =>
 Bi .eql a1 a2 fun t16_3 =>
 Cnd t16_3 (
 R a0 w) (
 LnL a0 fun t19_4 =>
 Dr w fun w_5 =>
 Sl 5 a0 none (some a1) fun t22_6 =>
 Sl 5 a0 (some a2) none fun t25_7 =>
 Ef PP (Builtin.append_ #[Ty.sl_stream_asked, Ty.sl_stream_asked] Ty.sl_stream_asked #[t22_6, t25_7]) w_5 fun t26_8 w_9 =>
 LnL t26_8 fun t29_10 =>
 Sl 5 t26_8 (some t29_10) (some t19_4) fun t31_11 =>
 Ef PP (Builtin.clear_ #[Ty.sl_stream_asked] Ty.t #[t31_11]) w_9 fun x_12 w_13 =>
 R t26_8 w_13)
def S.slices_Delete_sl_stream_asked_stream_asked.an : Ann := (.seq .leaf (.seq .leaf (.seq (.seq .leaf (.cond (.seq .leaf .leaf) .leaf)) (.seq .leaf (.seq (.draw [[], [], [0, 1], [], [], [3, 4], [0, 1, 2, 3, 4, 5], [0, 1, 2, 3, 4, 5, 6]] (.calm 0 (.calm 1 (.calm 2 (.calm 3 (.calm 4 (.calm 5 (.eff1 6 [] (.calm 7 .done))))))))) (.seq .leaf (.seq .leaf .leaf)))))))
theorem S.slices_Delete_sl_stream_asked_stream_asked.eq (a0 a1 a2 : Value) (w : World) (R : Value → World → Prop) : S.slices_Delete_sl_stream_asked_stream_asked a0 a1 a2 w R = fnC PP 33 (Tryd.f93.body.getD .skip) S.slices_Delete_sl_stream_asked_stream_asked.an [.tmp 6] [a0, a1, a2] w R := by kernel_rfl
theorem S.slices_Delete_sl_stream_asked_stream_asked.calls {a0 a1 a2 : Value} {w : World} {R : Value → World → Prop} (h : S.slices_Delete_sl_stream_asked_stream_asked a0 a1 a2 w R) : Ca PP Fn.slices_Delete_sl_stream_asked_stream_asked #[a0, a1, a2] w R :=
  fnC_calls mixed (f := Fn.slices_Delete_sl_stream_asked_stream_asked) (an := S.slices_Delete_sl_stream_asked_stream_asked.an) Tryd.func93 rfl (by show _ ≤ _; exact Nat.le_of_ble_eq_true rfl) (S.slices_Delete_sl_stream_asked_stream_asked.eq a0 a1 a2 w R ▸ h)
/-- (*acheron/stream.Pipe).queue -/
def S.stream_Pipe_queue (a0 a1 : Value) (w : World) (R : Value → World → Prop) : Prop :=
 Al Ty.stream_Op (a1 : Value).cells w fun t3_1 w_2 =>
 Dr w_2 fun w_3 =>
 Fa 1 t3_1 fun t6_4 =>
 Ld t6_4 w_3 fun t7_5 =>
 Fa 0 t3_1 fun t8_6 =>
 Ld t8_6 w_3 fun t9_7 =>
 Bi .xor t7_5 t9_7 fun t10_8 =>
 Nc a0 fun t11_9 =>
 Fa 0 t11_9 fun t12_10 =>
 IxP 2 2 t12_10 t10_8 fun t13_11 =>
 Fa 0 t13_11 fun t14_12 =>
 R t14_12 w_3
def S.stream_Pipe_queue.an : Ann := (.seq .leaf (.seq (.draw [[], [], [1], [], [3], [1, 2, 3, 4], [0], [0, 6], [0, 1, 2, 3, 4, 5, 6, 7], [0, 1, 2, 3, 4, 5, 6, 7, 8], [0, 1, 2, 3, 4, 5, 6, 7, 8, 9]] (.calm 0 (.calm 1 (.calm 2 (.calm 3 (.calm 4 (.calm 5 (.calm 6 (.calm 7 (.calm 8 (.calm 9 (.calm 10 .done)))))))))))) .leaf))
theorem S.stream_Pipe_queue.eq (a0 a1 : Value) (w : World) (R : Value → World → Prop) : S.stream_Pipe_queue a0 a1 w R = fnC PP 15 (Tryd.f94.body.getD .skip) S.stream_Pipe_queue.an [.tmp 4] [a0, a1] w R := by kernel_rfl
theorem S.stream_Pipe_queue.calls {a0 a1 : Value} {w : World} {R : Value → World → Prop} (h : S.stream_Pipe_queue a0 a1 w R) : Ca PP Fn.stream_Pipe_queue #[a0, a1] w R :=
  fnC_calls mixed (f := Fn.stream_Pipe_queue) (an := S.stream_Pipe_queue.an) Tryd.func94 rfl (by show _ ≤ _; exact Nat.le_of_ble_eq_true rfl) (S.stream_Pipe_queue.eq a0 a1 w R ▸ h)
end Go.Proofs.YtdhieaifhlikpaaDoor
