import Derived.Test.YtdhieaifhlikpaaDoorSc
namespace Go.Proofs.YtdhieaifhlikpaaDoor
open Go Go.Sh
set_option linter.unusedVariables false
set_option maxRecDepth 100000
/-- acheron/acheronlaw30.DeviceOutputs -/
def S.law30_DeviceOutputs (a0 a1 : Value) (w : World) (R : Value → World → Prop) : Prop :=
 Ca PP Fn.law30_awake #[] w fun t14_1 w_2 =>
 Un .not t14_1 fun t15_3 =>
 Cnd t15_3 (
 R (.bool false) w_2) (
 ∀ J_4 : List Value → World → Prop, (∀ t22_7, ∀ w_6 : World, (∀ u_5 : Env,
 Cnd t22_7 (
 R (.bool true) w_6) (
 Ca PP Fn.device_NewConsole #[(.string ⟨#[97, 110, 110]⟩)] w_6 fun t24_8 w_9 =>
 Ex t24_8 0 fun t25_10 =>
 Ex t24_8 1 fun t26_11 =>
 ∀ J_12 : List Value → World → Prop, (∀ t32_15, ∀ w_14 : World, (∀ u_13 : Env,
 Cnd t32_15 (
 R (.bool false) w_14) (
 Nc t25_10 fun t35_16 =>
 Fa 0 t35_16 fun t36_17 =>
 Ld t36_17 w_14 fun t37_18 =>
 Ca PP Fn.device_Device_Open #[t37_18, (.string ⟨#[97, 110, 110]⟩), (.int .i64 1), (.int .i64 1)] w_14 fun t38_19 w_20 =>
 Ex t38_19 0 fun t39_21 =>
 Ex t38_19 1 fun t40_22 =>
 Ex t38_19 2 fun t41_23 =>
 Al Ty.api_Qid #[.int .i64 0, .int .i64 0, .int .i64 0] w_20 fun t8_24 w_25 =>
 St PP 3 t8_24 t40_22 w_25 fun w_26 =>
 Bi .neq t41_23 (.int .i64 0) fun t43_27 =>
 Cnd t43_27 (
 R (.bool false) w_26) (
 LnL a0 fun t45_28 =>
 ∃ (I_29 : List Value → World → Prop) (m_30 : List Value → World → Nat), I_29 [(.string ⟨#[]⟩), (.int .i64 0)] w_26 ∧ ∀ t9_33 t46_34, ∀ (u_31 : Env) (w_32 : World), I_29 [t9_33, t46_34] w_32 →
 Bi .lss t46_34 t45_28 fun t47_35 =>
 Cnd t47_35 (
 ∀ J_36 : List Value → World → Prop, (∀ t9_39, ∀ w_38 : World, (∀ u_37 : Env,
 Bi .add t46_34 (.int .i64 1) fun t84_40 =>
 I_29 [t9_39, t84_40] w_38 ∧ m_30 [t9_39, t84_40] w_38 < m_30 [t9_33, t46_34] w_32) → J_36 [t9_39] w_38) →
 IxA 1 a0 t46_34 fun t49_41 =>
 Ld t49_41 w_32 fun t50_42 =>
 Nc t25_10 fun t53_43 =>
 Fa 0 t53_43 fun t54_44 =>
 Ld t54_44 w_32 fun t55_45 =>
 Ca PP Fn.device_Device_Write #[t55_45, t39_21, t46_34, t50_42] w_32 fun t59_46 w_47 =>
 Ex t59_46 0 fun t60_48 =>
 Ex t59_46 1 fun t61_49 =>
 ∀ J_50 : List Value → World → Prop, (∀ t69_53, ∀ w_52 : World, (∀ u_51 : Env,
 Cnd t69_53 (
 R (.bool false) w_52) (
 ∀ J_54 : List Value → World → Prop, (∀ t79_57, ∀ w_56 : World, (∀ u_55 : Env,
 Cnd t79_57 (
 Ca PP Fn.device_Console_Output #[t25_10] w_56 fun t82_58 w_59 =>
 Bi .add t9_33 t82_58 fun t83_60 =>
 J_36 [t83_60] w_59) (
 J_36 [t9_33] w_56)) → J_54 [t79_57] w_56) →
 LnL a1 fun t72_61 =>
 Bi .lss t46_34 t72_61 fun t73_62 =>
 Gd t73_62 true (fun k_63 => k_63 a1 w_52) w_52 fun t75_64 w_65 =>
 Gd t73_62 true (fun k_66 => k_66 t46_34 w_65) w_65 fun t76_67 w_68 =>
 Gd t73_62 true (fun k_69 => IxA 1 t75_64 t76_67 fun t77_72 =>
 k_69 t77_72 w_68) w_68 fun t77_70 w_71 =>
 Gd t73_62 true (fun k_73 => Ld t77_70 w_71 fun t78_76 =>
 k_73 t78_76 w_71) w_71 fun t78_74 w_75 =>
 Pk t73_62 t78_74 (.bool false) fun t79_77 =>
 J_54 [t79_77] w_75)) → J_50 [t69_53] w_52) →
 LnS t50_42 fun t64_78 =>
 Bi .neq t60_48 t64_78 fun t65_79 =>
 Gd t65_79 false (fun k_80 => k_80 t61_49 w_47) w_47 fun t67_81 w_82 =>
 Gd t65_79 false (fun k_83 => Bi .neq t67_81 (.int .i64 0) fun t68_86 =>
 k_83 t68_86 w_82) w_82 fun t68_84 w_85 =>
 Pk t65_79 (.bool true) t68_84 fun t69_87 =>
 J_50 [t69_87] w_85) (
 ∀ J_88 : List Value → World → Prop, (∀ t4_91, ∀ w_90 : World, (∀ u_89 : Env,
 R t4_91 w_90) → J_88 [t4_91] w_90) →
 Ca PP Fn.device_Console_Output #[t25_10] w_32 fun t87_92 w_93 =>
 Bi .add t9_33 t87_92 fun t88_94 =>
 Ca PP Fn.strings_Join #[a0, (.string ⟨#[]⟩)] w_93 fun t90_95 w_96 =>
 Bi .eql t88_94 t90_95 fun t91_97 =>
 Gd t91_97 true (fun k_98 => k_98 t25_10 w_96) w_96 fun t93_99 w_100 =>
 Gd t91_97 true (fun k_101 => Ca PP Fn.device_Console_Output #[t93_99] w_100 fun t94_104 w_105 =>
 k_101 t94_104 w_105) w_100 fun t94_102 w_103 =>
 Gd t91_97 true (fun k_106 => Bi .eql t94_102 (.string ⟨#[]⟩) fun t95_109 =>
 k_106 t95_109 w_103) w_103 fun t95_107 w_108 =>
 Pk t91_97 t95_107 (.bool false) fun t96_110 =>
 J_88 [t96_110] w_108)))) → J_12 [t32_15] w_14) →
 Bi .neq t26_11 (.int .i64 0) fun t28_111 =>
 Gd t28_111 false (fun k_112 => k_112 t25_10 w_9) w_9 fun t30_113 w_114 =>
 Gd t28_111 false (fun k_115 => Rd PP (eqS .eql Ty.p_device_Console (.tmp 30) (.const (.pointer none)) t30_113 (.pointer none)) w_114 fun t31_118 =>
 k_115 t31_118 w_114) w_114 fun t31_116 w_117 =>
 Pk t28_111 (.bool true) t31_116 fun t32_119 =>
 J_12 [t32_119] w_117)) → J_4 [t22_7] w_6) →
 LnL a0 fun t17_120 =>
 Bi .gtr t17_120 (.int .i64 40) fun t18_121 =>
 Gd t18_121 false (fun k_122 => k_122 a0 w_2) w_2 fun t20_123 w_124 =>
 Gd t18_121 false (fun k_125 => Ca PP Fn.slices_ContainsFunc_sl_string_string #[t20_123, (.func (.func Fn.law30_DeviceOutputs_1) #[] #[])] w_124 fun t21_128 w_129 =>
 k_125 t21_128 w_129) w_124 fun t21_126 w_127 =>
 Pk t18_121 (.bool true) t21_126 fun t22_130 =>
 J_4 [t22_130] w_127)
def S.law30_DeviceOutputs.an : Ann := (.seq .leaf (.seq (.seq .leaf (.cond (.seq .leaf .leaf) .leaf)) (.seq (.join .leaf [22] [16, 17, 18, 19, 20, 21] (.cond (.seq .leaf .leaf) .leaf)) (.seq .leaf (.seq (.join .leaf [32] [27, 28, 29, 30, 31] (.cond (.seq .leaf .leaf) .leaf)) (.seq .leaf (.seq (.seq .leaf (.cond (.seq .leaf .leaf) .leaf)) (.seq .leaf (.seq (.seq .leaf (.block (.loop (.seq .leaf (.seq (.cond .leaf .leaf) (.join (.block (.seq .leaf (.seq (.seq .leaf (.join .leaf [69] [62, 63, 64, 65, 66, 67, 68] (.cond (.seq .leaf .leaf) .leaf))) (.join .leaf [79] [70, 71, 72, 73, 74, 75, 76, 77, 78] (.cond .leaf .leaf))))) [9] [4, 10, 11, 12, 13, 48, 49, 50, 51, 52, 53, 54, 55, 56, 57, 58, 59, 60, 61, 62, 63, 64, 65, 66, 67, 68, 69, 70, 71, 72, 73, 74, 75, 76, 77, 78, 79, 80, 81, 82, 83] .leaf))) [9, 46] [4, 10, 11, 12, 13, 47, 48, 49, 50, 51, 52, 53, 54, 55, 56, 57, 58, 59, 60, 61, 62, 63, 64, 65, 66, 67, 68, 69, 70, 71, 72, 73, 74, 75, 76, 77, 78, 79, 80, 81, 82, 83, 84]))) (.join .leaf [4] [85, 86, 87, 88, 89, 90, 91, 92, 93, 94, 95, 96] .leaf))))))))))
theorem S.law30_DeviceOutputs.eq (a0 a1 : Value) (w : World) (R : Value → World → Prop) : S.law30_DeviceOutputs a0 a1 w R = fnC PP 97 (Tryd.f3.body.getD .skip) S.law30_DeviceOutputs.an [.tmp 4] [a0, a1] w R := by kernel_rfl
theorem S.law30_DeviceOutputs.calls {a0 a1 : Value} {w : World} {R : Value → World → Prop} (h : S.law30_DeviceOutputs a0 a1 w R) : Ca PP Fn.law30_DeviceOutputs #[a0, a1] w R :=
  fnC_calls mixed (f := Fn.law30_DeviceOutputs) (an := S.law30_DeviceOutputs.an) Tryd.func3 rfl (by show _ ≤ _; exact Nat.le_of_ble_eq_true rfl) (S.law30_DeviceOutputs.eq a0 a1 w R ▸ h)
/-- acheron/acheronlaw30.DevicePipes -/
def S.law30_DevicePipes (a0 a1 : Value) (w : World) (R : Value → World → Prop) : Prop :=
 Ca PP Fn.law30_awake #[] w fun t23_1 w_2 =>
 Un .not t23_1 fun t24_3 =>
 Cnd t24_3 (
 R (.bool false) w_2) (
 ∀ J_4 : List Value → World → Prop, (∀ t31_7, ∀ w_6 : World, (∀ u_5 : Env,
 Cnd t31_7 (
 R (.bool true) w_6) (
 Ca PP Fn.device_Pipe #[(.string ⟨#[97, 110, 110]⟩), (.int .i64 1048576)] w_6 fun t33_8 w_9 =>
 Ex t33_8 0 fun t34_10 =>
 Ex t33_8 1 fun t35_11 =>
 ∀ J_12 : List Value → World → Prop, (∀ t41_15, ∀ w_14 : World, (∀ u_13 : Env,
 Cnd t41_15 (
 R (.bool false) w_14) (
 ∀ J_16 : List Value → World → Prop, (∀ t7_19 t8_20, ∀ w_18 : World, (∀ u_17 : Env,
 Ca PP Fn.device_Device_Open #[t34_10, (.string ⟨#[97, 110, 110]⟩), t7_19, (.int .i64 1)] w_18 fun t48_21 w_22 =>
 Ex t48_21 0 fun t49_23 =>
 Ex t48_21 1 fun t50_24 =>
 Ex t48_21 2 fun t51_25 =>
 Al Ty.api_Qid #[.int .i64 0, .int .i64 0, .int .i64 0] w_22 fun t10_26 w_27 =>
 St PP 3 t10_26 t50_24 w_27 fun w_28 =>
 Ca PP Fn.device_Device_Open #[t34_10, (.string ⟨#[97, 110, 110]⟩), t8_20, (.int .i64 0)] w_28 fun t55_29 w_30 =>
 Ex t55_29 0 fun t56_31 =>
 Ex t55_29 1 fun t57_32 =>
 Ex t55_29 2 fun t58_33 =>
 Al Ty.api_Qid #[.int .i64 0, .int .i64 0, .int .i64 0] w_30 fun t12_34 w_35 =>
 St PP 3 t12_34 t57_32 w_35 fun w_36 =>
 ∀ J_37 : List Value → World → Prop, (∀ t64_40, ∀ w_39 : World, (∀ u_38 : Env,
 Cnd t64_40 (
 R (.bool false) w_39) (
 LnL a0 fun t66_41 =>
 ∃ (I_42 : List Value → World → Prop) (m_43 : List Value → World → Nat), I_42 [(.int .i64 0)] w_39 ∧ ∀ t67_46, ∀ (u_44 : Env) (w_45 : World), I_42 [t67_46] w_45 →
 Bi .lss t67_46 t66_41 fun t68_47 =>
 Cnd t68_47 (
 IxA 1 a0 t67_46 fun t69_48 =>
 Ld t69_48 w_45 fun t70_49 =>
 Ca PP Fn.device_Device_Write #[t34_10, t49_23, (.int .i64 0), t70_49] w_45 fun t75_50 w_51 =>
 Ex t75_50 0 fun t76_52 =>
 Ex t75_50 1 fun t77_53 =>
 ∀ J_54 : List Value → World → Prop, (∀ t85_57, ∀ w_56 : World, (∀ u_55 : Env,
 Cnd t85_57 (
 R (.bool false) w_56) (
 Bi .add t67_46 (.int .i64 1) fun t86_58 =>
 I_42 [t86_58] w_56 ∧ m_43 [t86_58] w_56 < m_43 [t67_46] w_45)) → J_54 [t85_57] w_56) →
 LnS t70_49 fun t80_59 =>
 Bi .neq t76_52 t80_59 fun t81_60 =>
 Gd t81_60 false (fun k_61 => k_61 t77_53 w_51) w_51 fun t83_62 w_63 =>
 Gd t81_60 false (fun k_64 => Bi .neq t83_62 (.int .i64 0) fun t84_67 =>
 k_64 t84_67 w_63) w_63 fun t84_65 w_66 =>
 Pk t81_60 (.bool true) t84_65 fun t85_68 =>
 J_54 [t85_68] w_66) (
 Ca PP Fn.device_Device_Close #[t34_10, t49_23] w_45 fun t89_69 w_70 =>
 Bi .neq t89_69 (.int .i64 0) fun t90_71 =>
 Cnd t90_71 (
 R (.bool false) w_70) (
 LnL a0 fun t92_72 =>
 ∃ (I_73 : List Value → World → Prop) (m_74 : List Value → World → Nat), I_73 [(.int .i64 0)] w_70 ∧ ∀ t93_77, ∀ (u_75 : Env) (w_76 : World), I_73 [t93_77] w_76 →
 Bi .lss t93_77 t92_72 fun t94_78 =>
 Cnd t94_78 (
 ∀ J_79 : List Value → World → Prop, (∀ w_81 : World, (∀ u_80 : Env,
 Bi .add t93_77 (.int .i64 1) fun t112_82 =>
 I_73 [t112_82] w_81 ∧ m_74 [t112_82] w_81 < m_74 [t93_77] w_76) → J_79 [] w_81) →
 IxA 1 a0 t93_77 fun t95_83 =>
 Ld t95_83 w_76 fun t96_84 =>
 Bi .eql t96_84 (.string ⟨#[]⟩) fun t98_85 =>
 Cnd t98_85 (
 J_79 [] w_76) (
 Ca PP Fn.device_Device_Read #[t34_10, t56_31, (.int .i64 0), (.int .i64 5000)] w_76 fun t102_86 w_87 =>
 Ex t102_86 0 fun t103_88 =>
 Ex t102_86 1 fun t104_89 =>
 ∀ J_90 : List Value → World → Prop, (∀ t111_93, ∀ w_92 : World, (∀ u_91 : Env,
 Cnd t111_93 (
 R (.bool false) w_92) (
 J_79 [] w_92)) → J_90 [t111_93] w_92) →
 Bi .neq t103_88 t96_84 fun t107_94 =>
 Gd t107_94 false (fun k_95 => k_95 t104_89 w_87) w_87 fun t109_96 w_97 =>
 Gd t107_94 false (fun k_98 => Bi .neq t109_96 (.int .i64 0) fun t110_101 =>
 k_98 t110_101 w_97) w_97 fun t110_99 w_100 =>
 Pk t107_94 (.bool true) t110_99 fun t111_102 =>
 J_90 [t111_102] w_100)) (
 Ca PP Fn.device_Device_Read #[t34_10, t56_31, (.int .i64 0), (.int .i64 5000)] w_76 fun t116_103 w_104 =>
 Ex t116_103 0 fun t117_105 =>
 Ex t116_103 1 fun t118_106 =>
 ∀ J_107 : List Value → World → Prop, (∀ t4_110, ∀ w_109 : World, (∀ u_108 : Env,
 R t4_110 w_109) → J_107 [t4_110] w_109) →
 Bi .eql t117_105 (.string ⟨#[]⟩) fun t120_111 =>
 Gd t120_111 true (fun k_112 => k_112 t118_106 w_104) w_104 fun t122_113 w_114 =>
 Gd t120_111 true (fun k_115 => Bi .eql t122_113 (.int .i64 0) fun t123_118 =>
 k_115 t123_118 w_114) w_114 fun t123_116 w_117 =>
 Pk t120_111 t123_116 (.bool false) fun t124_119 =>
 J_107 [t124_119] w_117))))) → J_37 [t64_40] w_39) →
 Bi .neq t51_25 (.int .i64 0) fun t60_120 =>
 Gd t60_120 false (fun k_121 => k_121 t58_33 w_36) w_36 fun t62_122 w_123 =>
 Gd t60_120 false (fun k_124 => Bi .neq t62_122 (.int .i64 0) fun t63_127 =>
 k_124 t63_127 w_123) w_123 fun t63_125 w_126 =>
 Pk t60_120 (.bool true) t63_125 fun t64_128 =>
 J_37 [t64_128] w_126) → J_16 [t7_19, t8_20] w_18) →
 Cnd a1 (
 J_16 [(.int .i64 2), (.int .i64 1)] w_14) (
 J_16 [(.int .i64 1), (.int .i64 2)] w_14))) → J_12 [t41_15] w_14) →
 Bi .neq t35_11 (.int .i64 0) fun t37_129 =>
 Gd t37_129 false (fun k_130 => k_130 t34_10 w_9) w_9 fun t39_131 w_132 =>
 Gd t37_129 false (fun k_133 => Rd PP (eqS .eql Ty.p_device_Device (.tmp 39) (.const (.pointer none)) t39_131 (.pointer none)) w_132 fun t40_136 =>
 k_133 t40_136 w_132) w_132 fun t40_134 w_135 =>
 Pk t37_129 (.bool true) t40_134 fun t41_137 =>
 J_12 [t41_137] w_135)) → J_4 [t31_7] w_6) →
 LnL a0 fun t26_138 =>
 Bi .gtr t26_138 (.int .i64 20) fun t27_139 =>
 Gd t27_139 false (fun k_140 => k_140 a0 w_2) w_2 fun t29_141 w_142 =>
 Gd t27_139 false (fun k_143 => Ca PP Fn.slices_ContainsFunc_sl_string_string #[t29_141, (.func (.func Fn.law30_DevicePipes_1) #[] #[])] w_142 fun t30_146 w_147 =>
 k_143 t30_146 w_147) w_142 fun t30_144 w_145 =>
 Pk t27_139 (.bool true) t30_144 fun t31_148 =>
 J_4 [t31_148] w_145)
def S.law30_DevicePipes.an : Ann := (.seq .leaf (.seq (.seq .leaf (.cond (.seq .leaf .leaf) .leaf)) (.seq (.join .leaf [31] [25, 26, 27, 28, 29, 30] (.cond (.seq .leaf .leaf) .leaf)) (.seq .leaf (.seq (.join .leaf [41] [36, 37, 38, 39, 40] (.cond (.seq .leaf .leaf) .leaf)) (.seq .leaf (.join (.seq .leaf (.cond .leaf .leaf)) [7, 8] [42, 43, 44] (.seq .leaf (.seq .leaf (.seq (.join .leaf [64] [59, 60, 61, 62, 63] (.cond (.seq .leaf .leaf) .leaf)) (.seq (.seq .leaf (.block (.loop (.seq .leaf (.seq (.cond .leaf .leaf) (.seq (.block (.seq .leaf (.seq .leaf (.join .leaf [85] [78, 79, 80, 81, 82, 83, 84] (.cond (.seq .leaf .leaf) .leaf))))) .leaf))) [67] [4, 15, 16, 17, 68, 69, 70, 71, 72, 73, 74, 75, 76, 77, 78, 79, 80, 81, 82, 83, 84, 85, 86]))) (.seq (.seq .leaf (.cond (.seq .leaf .leaf) .leaf)) (.seq (.seq .leaf (.block (.loop (.seq .leaf (.seq (.cond .leaf .leaf) (.join (.block (.seq .leaf (.seq (.seq .leaf (.cond .leaf .leaf)) (.seq .leaf (.join .leaf [111] [105, 106, 107, 108, 109, 110] (.cond (.seq .leaf .leaf) .leaf)))))) [] [4, 19, 20, 21, 95, 96, 97, 98, 99, 100, 101, 102, 103, 104, 105, 106, 107, 108, 109, 110, 111] .leaf))) [93] [4, 19, 20, 21, 94, 95, 96, 97, 98, 99, 100, 101, 102, 103, 104, 105, 106, 107, 108, 109, 110, 111, 112]))) (.seq .leaf (.join .leaf [4] [119, 120, 121, 122, 123, 124] .leaf)))))))))))))))
theorem S.law30_DevicePipes.eq (a0 a1 : Value) (w : World) (R : Value → World → Prop) : S.law30_DevicePipes a0 a1 w R = fnC PP 125 (Tryd.f4.body.getD .skip) S.law30_DevicePipes.an [.tmp 4] [a0, a1] w R := by kernel_rfl
theorem S.law30_DevicePipes.calls {a0 a1 : Value} {w : World} {R : Value → World → Prop} (h : S.law30_DevicePipes a0 a1 w R) : Ca PP Fn.law30_DevicePipes #[a0, a1] w R :=
  fnC_calls mixed (f := Fn.law30_DevicePipes) (an := S.law30_DevicePipes.an) Tryd.func4 rfl (by show _ ≤ _; exact Nat.le_of_ble_eq_true rfl) (S.law30_DevicePipes.eq a0 a1 w R ▸ h)
/-- acheron/acheronlaw30.DeviceLines -/
def S.law30_DeviceLines (a0 a1 : Value) (w : World) (R : Value → World → Prop) : Prop :=
 Ca PP Fn.law30_awake #[] w fun t18_1 w_2 =>
 Un .not t18_1 fun t19_3 =>
 Cnd t19_3 (
 R (.bool false) w_2) (
 ∀ J_4 : List Value → World → Prop, (∀ t26_7, ∀ w_6 : World, (∀ u_5 : Env,
 Cnd t26_7 (
 R (.bool true) w_6) (
 LnL a0 fun t28_8 =>
 ∃ (I_9 : List Value → World → Prop) (m_10 : List Value → World → Nat), I_9 [(.string ⟨#[]⟩), (.int .i64 0)] w_6 ∧ ∀ t5_13 t29_14, ∀ (u_11 : Env) (w_12 : World), I_9 [t5_13, t29_14] w_12 →
 Bi .lss t29_14 t28_8 fun t30_15 =>
 Cnd t30_15 (
 IxA 1 a0 t29_14 fun t31_16 =>
 Ld t31_16 w_12 fun t32_17 =>
 ∀ J_18 : List Value → World → Prop, (∀ t47_21, ∀ w_20 : World, (∀ u_19 : Env,
 Cnd t47_21 (
 R (.bool true) w_20) (
 Bi .add t5_13 t32_17 fun t50_22 =>
 Bi .add t29_14 (.int .i64 1) fun t51_23 =>
 I_9 [t50_22, t51_23] w_20 ∧ m_10 [t50_22, t51_23] w_20 < m_10 [t5_13, t29_14] w_12)) → J_18 [t47_21] w_20) →
 LnS t32_17 fun t34_24 =>
 Bi .gtr t34_24 (.int .i64 500) fun t35_25 =>
 Gd t35_25 false (fun k_26 => k_26 t32_17 w_12) w_12 fun t37_27 w_28 =>
 Gd t35_25 false (fun k_29 => Ca PP Fn.strings_Contains #[t37_27, (.string ⟨#[4]⟩)] w_28 fun t38_32 w_33 =>
 k_29 t38_32 w_33) w_28 fun t38_30 w_31 =>
 Pk t35_25 (.bool true) t38_30 fun t39_34 =>
 Gd t39_34 false (fun k_35 => k_35 t32_17 w_31) w_31 fun t41_36 w_37 =>
 Gd t39_34 false (fun k_38 => Ca PP Fn.strings_Contains #[t41_36, (.string ⟨#[8]⟩)] w_37 fun t42_41 w_42 =>
 k_38 t42_41 w_42) w_37 fun t42_39 w_40 =>
 Pk t39_34 (.bool true) t42_39 fun t43_43 =>
 Gd t43_43 false (fun k_44 => k_44 t32_17 w_40) w_40 fun t45_45 w_46 =>
 Gd t43_43 false (fun k_47 => Ca PP Fn.strings_Contains #[t45_45, (.string ⟨#[21]⟩)] w_46 fun t46_50 w_51 =>
 k_47 t46_50 w_51) w_46 fun t46_48 w_49 =>
 Pk t43_43 (.bool true) t46_48 fun t47_52 =>
 J_18 [t47_52] w_49) (
 Ca PP Fn.strings_SplitAfter #[t5_13, (.string ⟨#[10]⟩)] w_12 fun t53_53 w_54 =>
 ∀ J_55 : List Value → World → Prop, (∀ t60_58, ∀ w_57 : World, (∀ u_56 : Env,
 Cnd t60_58 (
 R (.bool true) w_57) (
 Ca PP Fn.device_NewConsole #[(.string ⟨#[97, 110, 110]⟩)] w_57 fun t62_59 w_60 =>
 Ex t62_59 0 fun t63_61 =>
 Ex t62_59 1 fun t64_62 =>
 ∀ J_63 : List Value → World → Prop, (∀ t70_66, ∀ w_65 : World, (∀ u_64 : Env,
 Cnd t70_66 (
 R (.bool false) w_65) (
 Nc t63_61 fun t73_67 =>
 Fa 0 t73_67 fun t74_68 =>
 Ld t74_68 w_65 fun t75_69 =>
 Ca PP Fn.device_Device_Open #[t75_69, (.string ⟨#[97, 110, 110]⟩), (.int .i64 1), (.int .i64 0)] w_65 fun t76_70 w_71 =>
 Ex t76_70 0 fun t77_72 =>
 Ex t76_70 1 fun t78_73 =>
 Ex t76_70 2 fun t79_74 =>
 Al Ty.api_Qid #[.int .i64 0, .int .i64 0, .int .i64 0] w_71 fun t12_75 w_76 =>
 St PP 3 t12_75 t78_73 w_76 fun w_77 =>
 Bi .neq t79_74 (.int .i64 0) fun t81_78 =>
 Cnd t81_78 (
 R (.bool false) w_77) (
 LnL a0 fun t83_79 =>
 ∃ (I_80 : List Value → World → Prop) (m_81 : List Value → World → Nat), I_80 [(.int .i64 0)] w_77 ∧ ∀ t84_84, ∀ (u_82 : Env) (w_83 : World), I_80 [t84_84] w_83 →
 Bi .lss t84_84 t83_79 fun t85_85 =>
 Cnd t85_85 (
 IxA 1 a0 t84_84 fun t86_86 =>
 Ld t86_86 w_83 fun t87_87 =>
 Ca PP Fn.device_Console_Type #[t63_61, t87_87] w_83 fun t90_88 w_89 =>
 Bi .add t84_84 (.int .i64 1) fun t91_90 =>
 I_80 [t91_90] w_89 ∧ m_81 [t91_90] w_89 < m_81 [t84_84] w_83) (
 ∀ J_91 : List Value → World → Prop, (∀ t15_94, ∀ w_93 : World, (∀ u_92 : Env,
 Ca PP Fn.strings_LastIndexByte #[t5_13, (.int .u8 10)] w_93 fun t138_95 w_96 =>
 Bi .add t138_95 (.int .i64 1) fun t139_97 =>
 SlS t5_13 none (some t139_97) fun t140_98 =>
 Bi .eql t15_94 t140_98 fun t141_99 =>
 R t141_99 w_96) → J_91 [t15_94] w_93) →
 LnS t5_13 fun t93_100 =>
 Bi .add t93_100 (.int .i64 1) fun t94_101 =>
 ∃ (I_102 : List Value → World → Prop) (m_103 : List Value → World → Nat), I_102 [(.string ⟨#[]⟩), (.int .i64 0)] w_83 ∧ ∀ t15_106 t95_107, ∀ (u_104 : Env) (w_105 : World), I_102 [t15_106, t95_107] w_105 →
 Bi .lss t95_107 t94_101 fun t96_108 =>
 Cnd t96_108 (
 Nc t63_61 fun t99_109 =>
 Fa 0 t99_109 fun t100_110 =>
 Ld t100_110 w_105 fun t101_111 =>
 Cv .i64 a1 fun t104_112 =>
 Ca PP Fn.device_Device_Read #[t101_111, t77_72, (.int .i64 0), t104_112] w_105 fun t105_113 w_114 =>
 Ex t105_113 0 fun t106_115 =>
 Ex t105_113 1 fun t107_116 =>
 Bi .eql t107_116 (.int .i64 36) fun t109_117 =>
 Cnd t109_117 (
 J_91 [t15_106] w_114) (
 ∀ J_118 : List Value → World → Prop, (∀ t130_121, ∀ w_120 : World, (∀ u_119 : Env,
 Cnd t130_121 (
 R (.bool false) w_120) (
 Bi .add t15_106 t106_115 fun t133_122 =>
 Bi .add t95_107 (.int .i64 1) fun t134_123 =>
 I_102 [t133_122, t134_123] w_120 ∧ m_103 [t133_122, t134_123] w_120 < m_103 [t15_106, t95_107] w_105)) → J_118 [t130_121] w_120) →
 Bi .neq t107_116 (.int .i64 0) fun t111_124 =>
 Gd t111_124 false (fun k_125 => k_125 t106_115 w_114) w_114 fun t113_126 w_127 =>
 Gd t111_124 false (fun k_128 => Bi .eql t113_126 (.string ⟨#[]⟩) fun t114_131 =>
 k_128 t114_131 w_127) w_127 fun t114_129 w_130 =>
 Pk t111_124 (.bool true) t114_129 fun t115_132 =>
 Gd t115_132 false (fun k_133 => k_133 t106_115 w_130) w_130 fun t117_134 w_135 =>
 Gd t115_132 false (fun k_136 => LnS t117_134 fun t118_139 =>
 k_136 t118_139 w_135) w_135 fun t118_137 w_138 =>
 Gd t115_132 false (fun k_140 => k_140 a1 w_138) w_138 fun t119_141 w_142 =>
 Gd t115_132 false (fun k_143 => Cv .i64 t119_141 fun t120_146 =>
 k_143 t120_146 w_142) w_142 fun t120_144 w_145 =>
 Gd t115_132 false (fun k_147 => Bi .gtr t118_137 t120_144 fun t121_150 =>
 k_147 t121_150 w_145) w_145 fun t121_148 w_149 =>
 Pk t115_132 (.bool true) t121_148 fun t122_151 =>
 Gd t122_151 false (fun k_152 => k_152 t106_115 w_149) w_149 fun t124_153 w_154 =>
 Gd t122_151 false (fun k_155 => k_155 t106_115 w_154) w_154 fun t125_156 w_157 =>
 Gd t122_151 false (fun k_158 => LnS t125_156 fun t126_161 =>
 k_158 t126_161 w_157) w_157 fun t126_159 w_160 =>
 Gd t122_151 false (fun k_162 => Bi .sub t126_159 (.int .i64 1) fun t127_165 =>
 k_162 t127_165 w_160) w_160 fun t127_163 w_164 =>
 Gd t122_151 false (fun k_166 => SlS t124_153 none (some t127_163) fun t128_169 =>
 k_166 t128_169 w_164) w_164 fun t128_167 w_168 =>
 Gd t122_151 false (fun k_170 => Ca PP Fn.strings_Contains #[t128_167, (.string ⟨#[10]⟩)] w_168 fun t129_173 w_174 =>
 k_170 t129_173 w_174) w_168 fun t129_171 w_172 =>
 Pk t122_151 (.bool true) t129_171 fun t130_175 =>
 J_118 [t130_175] w_172)) (
 J_91 [t15_106] w_105))))) → J_63 [t70_66] w_65) →
 Bi .neq t64_62 (.int .i64 0) fun t66_176 =>
 Gd t66_176 false (fun k_177 => k_177 t63_61 w_60) w_60 fun t68_178 w_179 =>
 Gd t66_176 false (fun k_180 => Rd PP (eqS .eql Ty.p_device_Console (.tmp 68) (.const (.pointer none)) t68_178 (.pointer none)) w_179 fun t69_183 =>
 k_180 t69_183 w_179) w_179 fun t69_181 w_182 =>
 Pk t66_176 (.bool true) t69_181 fun t70_184 =>
 J_63 [t70_184] w_182)) → J_55 [t60_58] w_57) →
 LnL t53_53 fun t55_185 =>
 Bi .gtr t55_185 (.int .i64 60) fun t56_186 =>
 Gd t56_186 false (fun k_187 => k_187 t53_53 w_54) w_54 fun t58_188 w_189 =>
 Gd t56_186 false (fun k_190 => Ca PP Fn.slices_ContainsFunc_sl_string_string #[t58_188, (.func (.func Fn.law30_DeviceLines_1) #[] #[])] w_189 fun t59_193 w_194 =>
 k_190 t59_193 w_194) w_189 fun t59_191 w_192 =>
 Pk t56_186 (.bool true) t59_191 fun t60_195 =>
 J_55 [t60_195] w_192))) → J_4 [t26_7] w_6) →
 LnL a0 fun t21_196 =>
 Bi .gtr t21_196 (.int .i64 40) fun t22_197 =>
 Gd t22_197 false (fun k_198 => k_198 a1 w_2) w_2 fun t24_199 w_200 =>
 Gd t22_197 false (fun k_201 => Bi .eql t24_199 (.int .u8 0) fun t25_204 =>
 k_201 t25_204 w_200) w_200 fun t25_202 w_203 =>
 Pk t22_197 (.bool true) t25_202 fun t26_205 =>
 J_4 [t26_205] w_203)
def S.law30_DeviceLines.an : Ann := (.seq .leaf (.seq (.seq .leaf (.cond (.seq .leaf .leaf) .leaf)) (.seq .leaf (.seq (.join .leaf [26] [20, 21, 22, 23, 24, 25] (.cond (.seq .leaf .leaf) .leaf)) (.seq (.seq .leaf (.block (.loop (.seq .leaf (.seq (.cond .leaf .leaf) (.seq (.block (.seq .leaf (.seq (.join .leaf [47] [33, 34, 35, 36, 37, 38, 39, 40, 41, 42, 43, 44, 45, 46] (.cond (.seq .leaf .leaf) .leaf)) .leaf))) .leaf))) [5, 29] [4, 7, 30, 31, 32, 33, 34, 35, 36, 37, 38, 39, 40, 41, 42, 43, 44, 45, 46, 47, 48, 49, 50, 51]))) (.seq .leaf (.seq (.join .leaf [60] [54, 55, 56, 57, 58, 59] (.cond (.seq .leaf .leaf) .leaf)) (.seq .leaf (.seq (.join .leaf [70] [65, 66, 67, 68, 69] (.cond (.seq .leaf .leaf) .leaf)) (.seq .leaf (.seq (.seq .leaf (.cond (.seq .leaf .leaf) .leaf)) (.seq (.seq .leaf (.block (.loop (.seq .leaf (.seq (.cond .leaf .leaf) (.seq (.block (.seq .leaf .leaf)) .leaf))) [84] [14, 85, 86, 87, 88, 89, 90, 91]))) (.seq .leaf (.join (.seq .leaf (.block (.loop (.seq .leaf (.seq (.cond .leaf .leaf) (.seq (.block (.seq .leaf (.seq (.seq .leaf (.cond .leaf .leaf)) (.seq (.join .leaf [130] [110, 111, 112, 113, 114, 115, 116, 117, 118, 119, 120, 121, 122, 123, 124, 125, 126, 127, 128, 129] (.cond (.seq .leaf .leaf) .leaf)) .leaf)))) .leaf))) [15, 95] [4, 16, 17, 96, 97, 98, 99, 100, 101, 102, 103, 104, 105, 106, 107, 108, 109, 110, 111, 112, 113, 114, 115, 116, 117, 118, 119, 120, 121, 122, 123, 124, 125, 126, 127, 128, 129, 130, 131, 132, 133, 134]))) [15] [4, 16, 17, 92, 93, 94, 95, 96, 97, 98, 99, 100, 101, 102, 103, 104, 105, 106, 107, 108, 109, 110, 111, 112, 113, 114, 115, 116, 117, 118, 119, 120, 121, 122, 123, 124, 125, 126, 127, 128, 129, 130, 131, 132, 133, 134] (.seq .leaf .leaf)))))))))))))))
theorem S.law30_DeviceLines.eq (a0 a1 : Value) (w : World) (R : Value → World → Prop) : S.law30_DeviceLines a0 a1 w R = fnC PP 142 (Tryd.f5.body.getD .skip) S.law30_DeviceLines.an [.tmp 4] [a0, a1] w R := by kernel_rfl
theorem S.law30_DeviceLines.calls {a0 a1 : Value} {w : World} {R : Value → World → Prop} (h : S.law30_DeviceLines a0 a1 w R) : Ca PP Fn.law30_DeviceLines #[a0, a1] w R :=
  fnC_calls mixed (f := Fn.law30_DeviceLines) (an := S.law30_DeviceLines.an) Tryd.func5 rfl (by show _ ≤ _; exact Nat.le_of_ble_eq_true rfl) (S.law30_DeviceLines.eq a0 a1 w R ▸ h)
/-- acheron/acheronlaw30.awake -/
def S.law30_awake (w : World) (R : Value → World → Prop) : Prop :=
 Ca PP Fn.device_NewConsole #[(.string ⟨#[97, 110, 110]⟩)] w fun t12_1 w_2 =>
 Ex t12_1 0 fun t13_3 =>
 Ex t12_1 1 fun t14_4 =>
 ∀ J_5 : List Value → World → Prop, (∀ t20_8, ∀ w_7 : World, (∀ u_6 : Env,
 Cnd t20_8 (
 R (.bool false) w_7) (
 Ca PP Fn.device_Console_Type #[t13_3, (.string ⟨#[97, 98, 8, 99, 10, 100]⟩)] w_7 fun t22_9 w_10 =>
 Nc t13_3 fun t25_11 =>
 Fa 0 t25_11 fun t26_12 =>
 Ld t26_12 w_10 fun t27_13 =>
 Ca PP Fn.device_Device_Open #[t27_13, (.string ⟨#[97, 110, 110]⟩), (.int .i64 1), (.int .i64 0)] w_10 fun t28_14 w_15 =>
 Ex t28_14 0 fun t29_16 =>
 Ex t28_14 1 fun t30_17 =>
 Ex t28_14 2 fun t31_18 =>
 Al Ty.api_Qid #[.int .i64 0, .int .i64 0, .int .i64 0] w_15 fun t4_19 w_20 =>
 St PP 3 t4_19 t30_17 w_20 fun w_21 =>
 Nc t13_3 fun t34_22 =>
 Fa 0 t34_22 fun t35_23 =>
 Ld t35_23 w_21 fun t36_24 =>
 Ca PP Fn.device_Device_Read #[t36_24, t29_16, (.int .i64 0), (.int .i64 2)] w_21 fun t38_25 w_26 =>
 Ex t38_25 0 fun t39_27 =>
 Ex t38_25 1 fun t40_28 =>
 Nc t13_3 fun t43_29 =>
 Fa 0 t43_29 fun t44_30 =>
 Ld t44_30 w_26 fun t45_31 =>
 Ca PP Fn.device_Device_Read #[t45_31, t29_16, (.int .i64 0), (.int .i64 9)] w_26 fun t47_32 w_33 =>
 Ex t47_32 0 fun t48_34 =>
 Ex t47_32 1 fun t49_35 =>
 Nc t13_3 fun t52_36 =>
 Fa 0 t52_36 fun t53_37 =>
 Ld t53_37 w_33 fun t54_38 =>
 Ca PP Fn.device_Device_Read #[t54_38, t29_16, (.int .i64 0), (.int .i64 9)] w_33 fun t56_39 w_40 =>
 Ex t56_39 0 fun t57_41 =>
 Ex t56_39 1 fun t58_42 =>
 ∀ J_43 : List Value → World → Prop, (∀ t0_46, ∀ w_45 : World, (∀ u_44 : Env,
 R t0_46 w_45) → J_43 [t0_46] w_45) →
 Bi .eql t29_16 (.int .i64 1) fun t60_47 =>
 Gd t60_47 true (fun k_48 => k_48 t31_18 w_40) w_40 fun t62_49 w_50 =>
 Gd t60_47 true (fun k_51 => Bi .eql t62_49 (.int .i64 0) fun t63_54 =>
 k_51 t63_54 w_50) w_50 fun t63_52 w_53 =>
 Pk t60_47 t63_52 (.bool false) fun t64_55 =>
 Gd t64_55 true (fun k_56 => k_56 t39_27 w_53) w_53 fun t66_57 w_58 =>
 Gd t64_55 true (fun k_59 => Bi .eql t66_57 (.string ⟨#[97, 99]⟩) fun t67_62 =>
 k_59 t67_62 w_58) w_58 fun t67_60 w_61 =>
 Pk t64_55 t67_60 (.bool false) fun t68_63 =>
 Gd t68_63 true (fun k_64 => k_64 t40_28 w_61) w_61 fun t70_65 w_66 =>
 Gd t68_63 true (fun k_67 => Bi .eql t70_65 (.int .i64 0) fun t71_70 =>
 k_67 t71_70 w_66) w_66 fun t71_68 w_69 =>
 Pk t68_63 t71_68 (.bool false) fun t72_71 =>
 Gd t72_71 true (fun k_72 => k_72 t49_35 w_69) w_69 fun t74_73 w_74 =>
 Gd t72_71 true (fun k_75 => Bi .eql t74_73 (.int .i64 0) fun t75_78 =>
 k_75 t75_78 w_74) w_74 fun t75_76 w_77 =>
 Pk t72_71 t75_76 (.bool false) fun t76_79 =>
 Gd t76_79 true (fun k_80 => k_80 t58_42 w_77) w_77 fun t78_81 w_82 =>
 Gd t76_79 true (fun k_83 => Bi .eql t78_81 (.int .i64 36) fun t79_86 =>
 k_83 t79_86 w_82) w_82 fun t79_84 w_85 =>
 Pk t76_79 t79_84 (.bool false) fun t80_87 =>
 J_43 [t80_87] w_85)) → J_5 [t20_8] w_7) →
 Bi .neq t14_4 (.int .i64 0) fun t16_88 =>
 Gd t16_88 false (fun k_89 => k_89 t13_3 w_2) w_2 fun t18_90 w_91 =>
 Gd t16_88 false (fun k_92 => Rd PP (eqS .eql Ty.p_device_Console (.tmp 18) (.const (.pointer none)) t18_90 (.pointer none)) w_91 fun t19_95 =>
 k_92 t19_95 w_91) w_91 fun t19_93 w_94 =>
 Pk t16_88 (.bool true) t19_93 fun t20_96 =>
 J_5 [t20_96] w_94
def S.law30_awake.an : Ann := (.seq .leaf (.seq .leaf (.seq (.join .leaf [20] [15, 16, 17, 18, 19] (.cond (.seq .leaf .leaf) .leaf)) (.seq .leaf (.seq .leaf (.seq .leaf (.seq .leaf (.seq .leaf (.join .leaf [0] [59, 60, 61, 62, 63, 64, 65, 66, 67, 68, 69, 70, 71, 72, 73, 74, 75, 76, 77, 78, 79, 80] .leaf)))))))))
theorem S.law30_awake.eq (w : World) (R : Value → World → Prop) : S.law30_awake  w R = fnC PP 81 (Tryd.f6.body.getD .skip) S.law30_awake.an [.tmp 0] [] w R := by kernel_rfl
theorem S.law30_awake.calls {w : World} {R : Value → World → Prop} (h : S.law30_awake w R) : Ca PP Fn.law30_awake #[] w R :=
  fnC_calls mixed (f := Fn.law30_awake) (an := S.law30_awake.an) Tryd.func6 rfl (by show _ ≤ _; exact Nat.le_of_ble_eq_true rfl) (S.law30_awake.eq w R ▸ h)
/-- slices.ContainsFunc[[]string,string] -/
def S.slices_ContainsFunc_sl_string_string (a0 a1 : Value) (w : World) (R : Value → World → Prop) : Prop :=
 Ca PP Fn.slices_IndexFunc_sl_string_string #[a0, a1] w fun t7_1 w_2 =>
 Bi .geq t7_1 (.int .i64 0) fun t8_3 =>
 R t8_3 w_2
def S.slices_ContainsFunc_sl_string_string.an : Ann := (.seq .leaf (.seq .leaf .leaf))
theorem S.slices_ContainsFunc_sl_string_string.eq (a0 a1 : Value) (w : World) (R : Value → World → Prop) : S.slices_ContainsFunc_sl_string_string a0 a1 w R = fnC PP 9 (Tryd.f7.body.getD .skip) S.slices_ContainsFunc_sl_string_string.an [.tmp 4] [a0, a1] w R := by kernel_rfl
theorem S.slices_ContainsFunc_sl_string_string.calls {a0 a1 : Value} {w : World} {R : Value → World → Prop} (h : S.slices_ContainsFunc_sl_string_string a0 a1 w R) : Ca PP Fn.slices_ContainsFunc_sl_string_string #[a0, a1] w R :=
  fnC_calls mixed (f := Fn.slices_ContainsFunc_sl_string_string) (an := S.slices_ContainsFunc_sl_string_string.an) Tryd.func7 rfl (by show _ ≤ _; exact Nat.le_of_ble_eq_true rfl) (S.slices_ContainsFunc_sl_string_string.eq a0 a1 w R ▸ h)
/-- acheron/acheronlaw30.DeviceOutputs$1 -/
def S.law30_DeviceOutputs_1 (a0 : Value) (w : World) (R : Value → World → Prop) : Prop :=
 LnS a0 fun t4_1 =>
 Bi .gtr t4_1 (.int .i64 2000) fun t5_2 =>
 R t5_2 w
def S.law30_DeviceOutputs_1.an : Ann := (.seq .leaf (.seq .leaf .leaf))
theorem S.law30_DeviceOutputs_1.eq (a0 : Value) (w : World) (R : Value → World → Prop) : S.law30_DeviceOutputs_1 a0 w R = fnC PP 6 (Tryd.f8.body.getD .skip) S.law30_DeviceOutputs_1.an [.tmp 2] [a0] w R := by kernel_rfl
theorem S.law30_DeviceOutputs_1.calls {a0 : Value} {w : World} {R : Value → World → Prop} (h : S.law30_DeviceOutputs_1 a0 w R) : Ca PP Fn.law30_DeviceOutputs_1 #[a0] w R :=
  fnC_calls mixed (f := Fn.law30_DeviceOutputs_1) (an := S.law30_DeviceOutputs_1.an) Tryd.func8 rfl (by show _ ≤ _; exact Nat.le_of_ble_eq_true rfl) (S.law30_DeviceOutputs_1.eq a0 w R ▸ h)
/-- acheron/device.NewConsole -/
def S.device_NewConsole (a0 : Value) (w : World) (R : Value → World → Prop) : Prop :=
 Al Ty.string (a0 : Value).cells w fun t1_1 w_2 =>
 Ld t1_1 w_2 fun t6_3 =>
 Ca PP Fn.tree_Valid #[t6_3] w_2 fun t7_4 w_5 =>
 Un .not t7_4 fun t8_6 =>
 Cnd t8_6 (
 R (.tuple #[(.pointer none), (.int .i64 8)]) w_5) (
 Ld t1_1 w_5 fun t9_7 =>
 Ca PP Fn.device_newDevice #[t9_7] w_5 fun t10_8 w_9 =>
 Bd #[.pointer none, .slice none 0 0, .slice none 0 0, .slice none 0 0, .bool false, .int .i64 0] [(0, 1), (1, 1), (2, 1), (3, 1), (4, 1), (5, 1)] [(0, t10_8)] fun t11_10 =>
 Al Ty.device_Console (t11_10 : Value).cells w_9 fun t12_11 w_12 =>
 Al Ty.p_device_Console #[.pointer none] w_12 fun t4_13 w_14 =>
 St PP 1 t4_13 t12_11 w_14 fun w_15 =>
 Dr w_15 fun w_16 =>
 Ld t4_13 w_16 fun t13_17 =>
 Nc t13_17 fun t14_18 =>
 Fa 0 t14_18 fun t15_19 =>
 Ld t15_19 w_16 fun t16_20 =>
 Ld t4_13 w_16 fun t17_21 =>
 Nc t17_21 fun t18_22 =>
 Fa 0 t18_22 fun t19_23 =>
 Ld t19_23 w_16 fun t20_24 =>
 Nc t20_24 fun t21_25 =>
 Fa 0 t21_25 fun t22_26 =>
 Ld t22_26 w_16 fun t23_27 =>
 Ca PP Fn.device_Device_add #[t16_20, t23_27, (.int .i64 1), (.string ⟨#[99, 111, 110, 115]⟩), (.int .i64 384)] w_16 fun t24_28 w_29 =>
 Dr w_29 fun w_30 =>
 Ld t4_13 w_30 fun t27_31 =>
 Ld t4_13 w_30 fun t29_32 =>
 Nc t24_28 fun t31_33 =>
 Fa 13 t31_33 fun t32_34 =>
 St PP 1 t32_34 (.func (.func Fn.device_Console_take) #[t27_31] #[]) w_30 fun w_35 =>
 (Ld t4_13 w_35 fun t29_36 =>
 t29_36 = t29_32) ∧
 Nc t24_28 fun t33_37 =>
 Fa 14 t33_37 fun t34_38 =>
 St PP 1 t34_38 (.func (.func Fn.device_Console_print) #[t29_32] #[]) w_35 fun w_39 =>
 Dr w_39 fun w_40 =>
 Ld t4_13 w_40 fun t35_41 =>
 Nc t35_41 fun t36_42 =>
 Fa 0 t36_42 fun t37_43 =>
 Ld t37_43 w_40 fun t38_44 =>
 Ld t4_13 w_40 fun t39_45 =>
 Nc t39_45 fun t40_46 =>
 Fa 0 t40_46 fun t41_47 =>
 Ld t41_47 w_40 fun t42_48 =>
 Nc t42_48 fun t43_49 =>
 Fa 0 t43_49 fun t44_50 =>
 Ld t44_50 w_40 fun t45_51 =>
 Ld t4_13 w_40 fun t47_52 =>
 Ca PP Fn.device_Device_add #[t38_44, t45_51, (.int .i64 2), (.string ⟨#[99, 111, 110, 115, 99, 116, 108]⟩), (.int .i64 128)] w_40 fun t46_53 w_54 =>
 (Ld t4_13 w_54 fun t47_55 =>
 t47_55 = t47_52) ∧
 Nc t46_53 fun t49_56 =>
 Fa 14 t49_56 fun t50_57 =>
 St PP 1 t50_57 (.func (.func Fn.device_Console_control) #[t47_52] #[]) w_54 fun w_58 =>
 Dr w_58 fun w_59 =>
 Ld t4_13 w_59 fun t51_60 =>
 Nc t51_60 fun t52_61 =>
 Fa 0 t52_61 fun t53_62 =>
 Ld t53_62 w_59 fun t54_63 =>
 Ld t4_13 w_59 fun t55_64 =>
 Nc t55_64 fun t56_65 =>
 Fa 0 t56_65 fun t57_66 =>
 Ld t57_66 w_59 fun t58_67 =>
 Nc t58_67 fun t59_68 =>
 Fa 0 t59_68 fun t60_69 =>
 Ld t60_69 w_59 fun t61_70 =>
 Ca PP Fn.device_Device_add #[t54_63, t61_70, (.int .i64 3), (.string ⟨#[117, 115, 101, 114]⟩), (.int .i64 292)] w_59 fun t62_71 w_72 =>
 Ca PP Fn.device_file_text #[t62_71, (.func (.func Fn.device_NewConsole_1) #[] #[t1_1])] w_72 fun t64_73 w_74 =>
 Dr w_74 fun w_75 =>
 Ld t4_13 w_75 fun t65_76 =>
 Nc t65_76 fun t66_77 =>
 Fa 0 t66_77 fun t67_78 =>
 Ld t67_78 w_75 fun t68_79 =>
 Ld t4_13 w_75 fun t69_80 =>
 Nc t69_80 fun t70_81 =>
 Fa 0 t70_81 fun t71_82 =>
 Ld t71_82 w_75 fun t72_83 =>
 Nc t72_83 fun t73_84 =>
 Fa 0 t73_84 fun t74_85 =>
 Ld t74_85 w_75 fun t75_86 =>
 Ca PP Fn.device_Device_add #[t68_79, t75_86, (.int .i64 4), (.string ⟨#[116, 105, 109, 101]⟩), (.int .i64 292)] w_75 fun t76_87 w_88 =>
 Ca PP Fn.device_file_text #[t76_87, (.func (.func Fn.device_NewConsole_2) #[] #[t4_13])] w_88 fun t78_89 w_90 =>
 Ld t4_13 w_90 fun t79_91 =>
 R (.tuple #[t79_91, (.int .i64 0)]) w_90)
def S.device_NewConsole.an : Ann := (.seq .leaf (.seq (.seq .leaf (.cond (.seq .leaf .leaf) .leaf)) (.seq .leaf (.seq (.draw [[], [0], [0, 1], [0, 1, 2], [], [4], [4, 5], [4, 5, 6], [4, 5, 6, 7], [4, 5, 6, 7, 8], [4, 5, 6, 7, 8, 9], [0, 1, 2, 3, 4, 5, 6, 7, 8, 9, 10], [0, 1, 2, 3, 4, 5, 6, 7, 8, 9, 10, 11]] (.calm 0 (.calm 1 (.calm 2 (.calm 3 (.calm 4 (.calm 5 (.calm 6 (.calm 7 (.calm 8 (.calm 9 (.calm 10 (.eff1 11 [] (.calm 12 .done)))))))))))))) (.seq (.draw [[], [], [], [2], [], [4], [0, 2, 3], [0, 2, 3, 6], [0, 2, 3, 6, 7], [0, 1, 2, 3, 4, 5, 6, 7, 8], [0, 1, 2, 3, 4, 5, 6, 7, 8, 9], [0, 1, 2, 3, 4, 5, 6, 7, 8, 9, 10]] (.calm 0 (.calm 1 (.calm 2 (.calm 3 (.calm 4 (.calm 5 (.calm 6 (.calm 7 (.eff1 8 [4] (.calm 9 (.calm 10 (.eff1 11 [] .done))))))))))))) (.seq (.draw [[], [0], [0, 1], [0, 1, 2], [], [4], [4, 5], [4, 5, 6], [4, 5, 6, 7], [4, 5, 6, 7, 8], [4, 5, 6, 7, 8, 9], [0, 1, 2, 3, 4, 5, 6, 7, 8, 9, 10], [], [12], [0, 1, 2, 3, 4, 5, 6, 7, 8, 9, 10, 11, 12, 13], [0, 1, 2, 3, 4, 5, 6, 7, 8, 9, 10, 11, 12, 13, 14], [0, 1, 2, 3, 4, 5, 6, 7, 8, 9, 10, 11, 12, 13, 14, 15]] (.calm 0 (.calm 1 (.calm 2 (.calm 3 (.calm 4 (.calm 5 (.calm 6 (.calm 7 (.calm 8 (.calm 9 (.calm 10 (.calm 12 (.calm 13 (.eff1 11 [12] (.calm 14 (.calm 15 (.eff1 16 [] .done)))))))))))))))))) (.seq (.draw [[], [0], [0, 1], [0, 1, 2], [], [4], [4, 5], [4, 5, 6], [4, 5, 6, 7], [4, 5, 6, 7, 8], [4, 5, 6, 7, 8, 9], [0, 1, 2, 3, 4, 5, 6, 7, 8, 9, 10], [], [0, 1, 2, 3, 4, 5, 6, 7, 8, 9, 10, 11, 12]] (.calm 0 (.calm 1 (.calm 2 (.calm 3 (.calm 4 (.calm 5 (.calm 6 (.calm 7 (.calm 8 (.calm 9 (.calm 10 (.calm 12 (.eff1 11 [] (.eff1 13 [] .done))))))))))))))) (.seq (.draw [[], [0], [0, 1], [0, 1, 2], [], [4], [4, 5], [4, 5, 6], [4, 5, 6, 7], [4, 5, 6, 7, 8], [4, 5, 6, 7, 8, 9], [0, 1, 2, 3, 4, 5, 6, 7, 8, 9, 10], [], [0, 1, 2, 3, 4, 5, 6, 7, 8, 9, 10, 11, 12]] (.calm 0 (.calm 1 (.calm 2 (.calm 3 (.calm 4 (.calm 5 (.calm 6 (.calm 7 (.calm 8 (.calm 9 (.calm 10 (.calm 12 (.eff1 11 [] (.eff1 13 [] .done))))))))))))))) (.seq .leaf .leaf)))))))))
theorem S.device_NewConsole.eq (a0 : Value) (w : World) (R : Value → World → Prop) : S.device_NewConsole a0 w R = fnC PP 80 (Tryd.f9.body.getD .skip) S.device_NewConsole.an [.tmp 2, .tmp 3] [a0] w R := by kernel_rfl
theorem S.device_NewConsole.calls {a0 : Value} {w : World} {R : Value → World → Prop} (h : S.device_NewConsole a0 w R) : Ca PP Fn.device_NewConsole #[a0] w R :=
  fnC_calls mixed (f := Fn.device_NewConsole) (an := S.device_NewConsole.an) Tryd.func9 rfl (by show _ ≤ _; exact Nat.le_of_ble_eq_true rfl) (S.device_NewConsole.eq a0 w R ▸ h)
/-- (*acheron/device.Device).Open -/
def S.device_Device_Open (a0 a1 a2 a3 : Value) (w : World) (R : Value → World → Prop) : Prop :=
 Al Ty.api_Qid #[.int .i64 0, .int .i64 0, .int .i64 0] w fun t9_1 w_2 =>
 ∀ J_3 : List Value → World → Prop, (∀ t21_6, ∀ w_5 : World, (∀ u_4 : Env,
 Cnd t21_6 (
 Bd #[.int .i64 0, .int .i64 0, .int .i64 0] [(0, 1), (1, 1), (2, 1)] [] fun t22_7 =>
 St PP 3 t9_1 t22_7 w_5 fun w_8 =>
 LdA PP 3 t9_1 w_8 fun t9_9 =>
 R (.tuple #[(.int .i64 0), t9_9, (.int .i64 20)]) w_8) (
 Ca PP Fn.device_Device_find #[a0, a2] w_5 fun t26_10 w_11 =>
 Ex t26_10 0 fun t27_12 =>
 Ex t26_10 1 fun t28_13 =>
 Bi .neq t28_13 (.int .i64 0) fun t30_14 =>
 Cnd t30_14 (
 Bd #[.int .i64 0, .int .i64 0, .int .i64 0] [(0, 1), (1, 1), (2, 1)] [] fun t31_15 =>
 St PP 3 t9_1 t31_15 w_11 fun w_16 =>
 LdA PP 3 t9_1 w_16 fun t9_17 =>
 R (.tuple #[(.int .i64 0), t9_17, t28_13]) w_16) (
 BdA #[.int .i64 0, .int .i64 0, .int .i64 0, .int .i64 0] 1 [(0, (.int .i64 4)), (1, (.int .i64 2)), (2, (.int .i64 6)), (3, (.int .i64 1))] fun t33_18 =>
 Bi .and a3 (.int .i64 3) fun t35_19 =>
 Rd PP (Instr.index Ty.f_4_int t33_18 t35_19) w_11 fun t36_20 =>
 ∀ J_21 : List Value → World → Prop, (∀ t13_24, ∀ w_23 : World, (∀ u_22 : Env,
 ∀ J_25 : List Value → World → Prop, (∀ t42_28, ∀ w_27 : World, (∀ u_26 : Env,
 Cnd t42_28 (
 Bd #[.int .i64 0, .int .i64 0, .int .i64 0] [(0, 1), (1, 1), (2, 1)] [] fun t49_29 =>
 St PP 3 t9_1 t49_29 w_27 fun w_30 =>
 LdA PP 3 t9_1 w_30 fun t9_31 =>
 R (.tuple #[(.int .i64 0), t9_31, (.int .i64 18)]) w_30) (
 ∀ J_32 : List Value → World → Prop, (∀ t50_35, ∀ w_34 : World, (∀ u_33 : Env,
 Cnd t50_35 (
 Bd #[.int .i64 0, .int .i64 0, .int .i64 0] [(0, 1), (1, 1), (2, 1)] [] fun t61_36 =>
 St PP 3 t9_1 t61_36 w_34 fun w_37 =>
 LdA PP 3 t9_1 w_37 fun t9_38 =>
 R (.tuple #[(.int .i64 0), t9_38, (.int .i64 17)]) w_37) (
 Nc a0 fun t64_39 =>
 Fa 2 t64_39 fun t65_40 =>
 Ld t65_40 w_34 fun t66_41 =>
 Rd PP (Builtin.len_ #[Ty.map_int_device_handle] Ty.int #[t66_41]) w_34 fun t67_42 =>
 Bi .geq t67_42 (.int .i64 64) fun t68_43 =>
 Cnd t68_43 (
 Bd #[.int .i64 0, .int .i64 0, .int .i64 0] [(0, 1), (1, 1), (2, 1)] [] fun t69_44 =>
 St PP 3 t9_1 t69_44 w_34 fun w_45 =>
 LdA PP 3 t9_1 w_45 fun t9_46 =>
 R (.tuple #[(.int .i64 0), t9_46, (.int .i64 3)]) w_45) (
 ∃ (I_47 : List Value → World → Prop) (m_48 : List Value → World → Nat), I_47 [(.int .i64 1)] w_34 ∧ ∀ t14_51, ∀ (u_49 : Env) (w_50 : World), I_47 [t14_51] w_50 →
 Nc a0 fun t71_52 =>
 Fa 2 t71_52 fun t72_53 =>
 Ld t72_53 w_50 fun t73_54 =>
 Rd PP (Instr.lookup Ty.map_int_device_handle t73_54 t14_51 false) w_50 fun t75_55 =>
 Fi 0 t75_55 fun t76_56 =>
 Rd PP (eqS .neq Ty.p_device_file (.tmp 76) (.const (.pointer none)) t76_56 (.pointer none)) w_50 fun t77_57 =>
 Cnd t77_57 (
 Bi .add t14_51 (.int .i64 1) fun t79_58 =>
 I_47 [t79_58] w_50 ∧ m_48 [t79_58] w_50 < m_48 [t14_51] w_50) (
 Nc a0 fun t81_59 =>
 Fa 2 t81_59 fun t82_60 =>
 Ld t82_60 w_50 fun t83_61 =>
 Bd #[.pointer none, .int .i64 0] [(0, 1), (1, 1)] [(0, t27_12), (1, a3)] fun t87_62 =>
 Ef PP (Instr.mapUpdate Ty.map_int_device_handle t83_61 t14_51 t87_62) w_50 fun _ w_63 =>
 Dr w_63 fun w_64 =>
 Nc t27_12 fun t90_65 =>
 Fa 0 t90_65 fun t91_66 =>
 Fa 0 t91_66 fun t92_67 =>
 LdA PP 3 t92_67 w_64 fun t93_68 =>
 St PP 3 t9_1 t93_68 w_64 fun w_69 =>
 LdA PP 3 t9_1 w_69 fun t9_70 =>
 R (.tuple #[t14_51, t9_70, (.int .i64 0)]) w_69)))) → J_32 [t50_35] w_34) →
 Ca PP Fn.device_file_may #[t27_12, a1, t13_24] w_27 fun t54_71 w_72 =>
 Un .not t54_71 fun t55_73 =>
 Gd t55_73 false (fun k_74 => k_74 a3 w_72) w_72 fun t57_75 w_76 =>
 Gd t55_73 false (fun k_77 => Bi .and t57_75 (.int .i64 64) fun t58_80 =>
 k_77 t58_80 w_76) w_76 fun t58_78 w_79 =>
 Gd t55_73 false (fun k_81 => Bi .neq t58_78 (.int .i64 0) fun t59_84 =>
 k_81 t59_84 w_79) w_79 fun t59_82 w_83 =>
 Pk t55_73 (.bool true) t59_82 fun t60_85 =>
 J_32 [t60_85] w_83)) → J_25 [t42_28] w_27) →
 Ca PP Fn.device_file_isDir #[t27_12] w_23 fun t44_86 w_87 =>
 Gd t44_86 true (fun k_88 => k_88 a3 w_87) w_87 fun t46_89 w_90 =>
 Gd t44_86 true (fun k_91 => Bi .neq t46_89 (.int .i64 0) fun t47_94 =>
 k_91 t47_94 w_90) w_90 fun t47_92 w_93 =>
 Pk t44_86 t47_92 (.bool false) fun t48_95 =>
 J_25 [t48_95] w_93) → J_21 [t13_24] w_23) →
 Bi .and a3 (.int .i64 16) fun t38_96 =>
 Bi .neq t38_96 (.int .i64 0) fun t39_97 =>
 Cnd t39_97 (
 Bi .or t36_20 (.int .i64 2) fun t41_98 =>
 J_21 [t41_98] w_11) (
 J_21 [t36_20] w_11)))) → J_3 [t21_6] w_5) →
 Rd PP (eqS .neq Ty.p_device_Device (.tmp 15) (.const (.pointer none)) a0 (.pointer none)) w_2 fun t16_99 =>
 Gd t16_99 true (fun k_100 => k_100 a3 w_2) w_2 fun t18_101 w_102 =>
 Gd t16_99 true (fun k_103 => Bi .andNot t18_101 (.int .i64 83) fun t19_106 =>
 k_103 t19_106 w_102) w_102 fun t19_104 w_105 =>
 Gd t16_99 true (fun k_107 => Bi .neq t19_104 (.int .i64 0) fun t20_110 =>
 k_107 t20_110 w_105) w_105 fun t20_108 w_109 =>
 Pk t16_99 t20_108 (.bool false) fun t21_111 =>
 J_3 [t21_111] w_109
def S.device_Device_Open.an : Ann := (.seq .leaf (.seq (.join .leaf [21] [15, 16, 17, 18, 19, 20] (.cond (.seq .leaf .leaf) .leaf)) (.seq .leaf (.seq (.seq .leaf (.cond (.seq .leaf .leaf) .leaf)) (.seq .leaf (.join (.seq .leaf (.cond .leaf .leaf)) [13] [37, 38, 39, 40, 41] (.seq (.block (.join .leaf [42] [43, 44, 45, 46, 47, 48] (.cond (.seq .leaf .leaf) (.join .leaf [50] [51, 52, 53, 54, 55, 56, 57, 58, 59, 60] (.cond (.seq .leaf .leaf) (.seq .leaf (.cond (.seq .leaf .leaf) .leaf))))))) (.seq .leaf (.seq (.block (.loop (.seq (.seq .leaf (.cond .leaf .leaf)) (.seq (.block .leaf) .leaf)) [14] [70, 71, 72, 73, 74, 75, 76, 77, 78, 79])) (.seq .leaf (.seq (.draw [[], [], [1], [1, 2], [1, 2, 3], [1, 2, 3, 4], [0], [0, 1, 2, 3, 4, 5, 6], [0, 1, 2, 3, 4, 5, 6, 7]] (.calm 0 (.calm 1 (.calm 2 (.calm 3 (.calm 4 (.calm 5 (.calm 6 (.eff1 7 [] (.calm 8 .done)))))))))) .leaf)))))))))))
theorem S.device_Device_Open.eq (a0 a1 a2 a3 : Value) (w : World) (R : Value → World → Prop) : S.device_Device_Open a0 a1 a2 a3 w R = fnC PP 94 (Tryd.f10.body.getD .skip) S.device_Device_Open.an [.tmp 8, .cell 9 32, .tmp 10] [a0, a1, a2, a3] w R := by kernel_rfl
theorem S.device_Device_Open.calls {a0 a1 a2 a3 : Value} {w : World} {R : Value → World → Prop} (h : S.device_Device_Open a0 a1 a2 a3 w R) : Ca PP Fn.device_Device_Open #[a0, a1, a2, a3] w R :=
  fnC_calls mixed (f := Fn.device_Device_Open) (an := S.device_Device_Open.an) Tryd.func10 rfl (by show _ ≤ _; exact Nat.le_of_ble_eq_true rfl) (S.device_Device_Open.eq a0 a1 a2 a3 w R ▸ h)
/-- (*acheron/device.Device).Write -/
def S.device_Device_Write (a0 a1 a2 a3 : Value) (w : World) (R : Value → World → Prop) : Prop :=
 Ca PP Fn.device_Device_opened #[a0, a1] w fun t16_1 w_2 =>
 Ex t16_1 0 fun t17_3 =>
 Ex t16_1 1 fun t18_4 =>
 Al Ty.device_handle #[.pointer none, .int .i64 0] w_2 fun t10_5 w_6 =>
 St PP 2 t10_5 t17_3 w_6 fun w_7 =>
 Bi .neq t18_4 (.int .i64 0) fun t21_8 =>
 Cnd t21_8 (
 R (.tuple #[(.int .i64 0), t18_4]) w_7) (
 ∀ J_9 : List Value → World → Prop, (∀ t23_12, ∀ w_11 : World, (∀ u_10 : Env,
 Cnd t23_12 (
 R (.tuple #[(.int .i64 0), (.int .i64 20)]) w_11) (
 Fa 0 t10_5 fun t35_13 =>
 Ld t35_13 w_11 fun t36_14 =>
 Nc t36_14 fun t37_15 =>
 Fa 12 t37_15 fun t38_16 =>
 Ld t38_16 w_11 fun t39_17 =>
 Cnd t39_17 (
 R (.tuple #[(.int .i64 0), (.int .i64 4)]) w_11) (
 Bi .lss a2 (.int .i64 0) fun t42_18 =>
 Cnd t42_18 (
 R (.tuple #[(.int .i64 0), (.int .i64 11)]) w_11) (
 LnS a3 fun t45_19 =>
 Bi .gtr t45_19 (.int .i64 8192) fun t46_20 =>
 Cnd t46_20 (
 R (.tuple #[(.int .i64 0), (.int .i64 3)]) w_11) (
 Fa 0 t10_5 fun t47_21 =>
 Ld t47_21 w_11 fun t48_22 =>
 Nc t48_22 fun t49_23 =>
 Fa 14 t49_23 fun t50_24 =>
 Ld t50_24 w_11 fun t51_25 =>
 CaV PP t51_25 #[a3] w_11 fun t53_26 w_27 =>
 Bi .neq t53_26 (.int .i64 0) fun t55_28 =>
 Cnd t55_28 (
 R (.tuple #[(.int .i64 0), t53_26]) w_27) (
 LnS a3 fun t58_29 =>
 R (.tuple #[t58_29, (.int .i64 0)]) w_27)))))) → J_9 [t23_12] w_11) →
 Fa 1 t10_5 fun t24_30 =>
 Ld t24_30 w_7 fun t25_31 =>
 Bi .and t25_31 (.int .i64 3) fun t26_32 =>
 Bi .neq t26_32 (.int .i64 1) fun t27_33 =>
 Gd t27_33 true (fun k_34 => Fa 1 t10_5 fun t29_37 =>
 k_34 t29_37 w_7) w_7 fun t29_35 w_36 =>
 Gd t27_33 true (fun k_38 => Ld t29_35 w_36 fun t30_41 =>
 k_38 t30_41 w_36) w_36 fun t30_39 w_40 =>
 Gd t27_33 true (fun k_42 => Bi .and t30_39 (.int .i64 3) fun t31_45 =>
 k_42 t31_45 w_40) w_40 fun t31_43 w_44 =>
 Gd t27_33 true (fun k_46 => Bi .neq t31_43 (.int .i64 2) fun t32_49 =>
 k_46 t32_49 w_44) w_44 fun t32_47 w_48 =>
 Pk t27_33 t32_47 (.bool false) fun t33_50 =>
 J_9 [t33_50] w_48)
def S.device_Device_Write.an : Ann := (.seq .leaf (.seq .leaf (.seq (.block (.seq .leaf (.cond (.seq .leaf .leaf) (.join .leaf [23] [24, 25, 26, 27, 28, 29, 30, 31, 32, 33] (.cond (.seq .leaf .leaf) (.seq .leaf (.cond (.seq .leaf .leaf) (.seq .leaf (.cond (.seq .leaf .leaf) (.seq .leaf (.cond (.seq .leaf .leaf) .leaf))))))))))) (.seq (.seq .leaf (.seq .leaf (.cond (.seq .leaf .leaf) .leaf))) (.seq .leaf .leaf)))))
theorem S.device_Device_Write.eq (a0 a1 a2 a3 : Value) (w : World) (R : Value → World → Prop) : S.device_Device_Write a0 a1 a2 a3 w R = fnC PP 59 (Tryd.f11.body.getD .skip) S.device_Device_Write.an [.tmp 8, .tmp 9] [a0, a1, a2, a3] w R := by kernel_rfl
theorem S.device_Device_Write.calls {a0 a1 a2 a3 : Value} {w : World} {R : Value → World → Prop} (h : S.device_Device_Write a0 a1 a2 a3 w R) : Ca PP Fn.device_Device_Write #[a0, a1, a2, a3] w R :=
  fnC_calls mixed (f := Fn.device_Device_Write) (an := S.device_Device_Write.an) Tryd.func11 rfl (by show _ ≤ _; exact Nat.le_of_ble_eq_true rfl) (S.device_Device_Write.eq a0 a1 a2 a3 w R ▸ h)
/-- (*acheron/device.Console).Output -/
def S.device_Console_Output (a0 : Value) (w : World) (R : Value → World → Prop) : Prop :=
 Rd PP (eqS .eql Ty.p_device_Console (.tmp 4) (.const (.pointer none)) a0 (.pointer none)) w fun t5_1 =>
 Cnd t5_1 (
 R (.string ⟨#[]⟩) w) (
 Nc a0 fun t7_2 =>
 Fa 3 t7_2 fun t8_3 =>
 Ld t8_3 w fun t9_4 =>
 Rd PP (convert Ty.sl_uint8 Ty.string t9_4) w fun t10_5 =>
 Nc a0 fun t12_6 =>
 Fa 3 t12_6 fun t13_7 =>
 St PP 1 t13_7 (.slice none 0 0) w fun w_8 =>
 R t10_5 w_8)
def S.device_Console_Output.an : Ann := (.seq .leaf (.seq (.seq .leaf (.cond (.seq .leaf .leaf) .leaf)) (.seq .leaf (.seq .leaf (.seq .leaf .leaf)))))
theorem S.device_Console_Output.eq (a0 : Value) (w : World) (R : Value → World → Prop) : S.device_Console_Output a0 w R = fnC PP 15 (Tryd.f12.body.getD .skip) S.device_Console_Output.an [.tmp 2] [a0] w R := by kernel_rfl
theorem S.device_Console_Output.calls {a0 : Value} {w : World} {R : Value → World → Prop} (h : S.device_Console_Output a0 w R) : Ca PP Fn.device_Console_Output #[a0] w R :=
  fnC_calls mixed (f := Fn.device_Console_Output) (an := S.device_Console_Output.an) Tryd.func12 rfl (by show _ ≤ _; exact Nat.le_of_ble_eq_true rfl) (S.device_Console_Output.eq a0 w R ▸ h)
/-- acheron/acheronlaw30.DevicePipes$1 -/
def S.law30_DevicePipes_1 (a0 : Value) (w : World) (R : Value → World → Prop) : Prop :=
 LnS a0 fun t4_1 =>
 Bi .gtr t4_1 (.int .i64 1000) fun t5_2 =>
 R t5_2 w
def S.law30_DevicePipes_1.an : Ann := (.seq .leaf (.seq .leaf .leaf))
theorem S.law30_DevicePipes_1.eq (a0 : Value) (w : World) (R : Value → World → Prop) : S.law30_DevicePipes_1 a0 w R = fnC PP 6 (Tryd.f14.body.getD .skip) S.law30_DevicePipes_1.an [.tmp 2] [a0] w R := by kernel_rfl
theorem S.law30_DevicePipes_1.calls {a0 : Value} {w : World} {R : Value → World → Prop} (h : S.law30_DevicePipes_1 a0 w R) : Ca PP Fn.law30_DevicePipes_1 #[a0] w R :=
  fnC_calls mixed (f := Fn.law30_DevicePipes_1) (an := S.law30_DevicePipes_1.an) Tryd.func14 rfl (by show _ ≤ _; exact Nat.le_of_ble_eq_true rfl) (S.law30_DevicePipes_1.eq a0 w R ▸ h)
/-- acheron/device.Pipe -/
def S.device_Pipe (a0 a1 : Value) (w : World) (R : Value → World → Prop) : Prop :=
 Ca PP Fn.tree_Valid #[a0] w fun t13_1 w_2 =>
 Un .not t13_1 fun t14_3 =>
 Cnd t14_3 (
 R (.tuple #[(.pointer none), (.int .i64 8)]) w_2) (
 Ca PP Fn.stream_New #[a1] w_2 fun t17_4 w_5 =>
 Ex t17_4 0 fun t18_6 =>
 Ex t17_4 1 fun t19_7 =>
 Al Ty.p_stream_Pipe #[.pointer none] w_5 fun t6_8 w_9 =>
 St PP 1 t6_8 t18_6 w_9 fun w_10 =>
 Bi .neq t19_7 (.int .i64 0) fun t21_11 =>
 Cnd t21_11 (
 R (.tuple #[(.pointer none), t19_7]) w_10) (
 Ca PP Fn.device_newDevice #[a0] w_10 fun t24_12 w_13 =>
 Ef PP (Instr.buildSlice Ty.sl_string 2 #[(0, (.string ⟨#[100, 97, 116, 97]⟩)), (1, (.string ⟨#[100, 97, 116, 97, 49]⟩))]) w_13 fun t25_14 w_15 =>
 LnL t25_14 fun t26_16 =>
 ∃ (I_17 : List Value → World → Prop) (m_18 : List Value → World → Nat), I_17 [(.int .i64 0)] w_15 ∧ ∀ t27_21, ∀ (u_19 : Env) (w_20 : World), I_17 [t27_21] w_20 →
 Bi .lss t27_21 t26_16 fun t28_22 =>
 Cnd t28_22 (
 IxA 1 t25_14 t27_21 fun t30_23 =>
 Ld t30_23 w_20 fun t31_24 =>
 Al Ty.int #[.int .i64 0] w_20 fun t9_25 w_26 =>
 St PP 1 t9_25 t27_21 w_26 fun w_27 =>
 Dr w_27 fun w_28 =>
 Nc t24_12 fun t34_29 =>
 Fa 0 t34_29 fun t35_30 =>
 Ld t35_30 w_28 fun t36_31 =>
 Ld t9_25 w_28 fun t37_32 =>
 Bi .add t37_32 (.int .i64 1) fun t38_33 =>
 Ca PP Fn.device_Device_add #[t24_12, t36_31, t38_33, t31_24, (.int .i64 384)] w_28 fun t40_34 w_35 =>
 Nc t40_34 fun t43_36 =>
 Fa 13 t43_36 fun t44_37 =>
 St PP 1 t44_37 (.func (.func Fn.device_Pipe_1) #[] #[t6_8, t9_25]) w_35 fun w_38 =>
 Nc t40_34 fun t47_39 =>
 Fa 14 t47_39 fun t48_40 =>
 St PP 1 t48_40 (.func (.func Fn.device_Pipe_2) #[] #[t6_8, t9_25]) w_38 fun w_41 =>
 Nc t40_34 fun t51_42 =>
 Fa 15 t51_42 fun t52_43 =>
 St PP 1 t52_43 (.func (.func Fn.device_Pipe_3) #[] #[t6_8, t9_25]) w_41 fun w_44 =>
 Bi .add t27_21 (.int .i64 1) fun t53_45 =>
 I_17 [t53_45] w_44 ∧ m_18 [t53_45] w_44 < m_18 [t27_21] w_20) (
 R (.tuple #[t24_12, (.int .i64 0)]) w_20)))
def S.device_Pipe.an : Ann := (.seq .leaf (.seq (.seq .leaf (.cond (.seq .leaf .leaf) .leaf)) (.seq .leaf (.seq (.seq .leaf (.cond (.seq .leaf .leaf) .leaf)) (.seq .leaf (.seq (.seq .leaf (.block (.loop (.seq .leaf (.seq (.cond .leaf .leaf) (.seq (.block (.seq .leaf (.seq (.draw [[], [], [1], [1, 2], [1, 2, 3], [], [5], [], [0, 1, 2, 3, 4, 5, 6, 7], [0, 1, 2, 3, 4, 5, 6, 7, 8]] (.calm 0 (.calm 1 (.calm 2 (.calm 3 (.calm 4 (.calm 5 (.calm 6 (.calm 7 (.eff1 8 [] (.calm 9 .done))))))))))) (.seq .leaf (.seq .leaf .leaf))))) .leaf))) [27] [9, 10, 11, 28, 29, 30, 31, 32, 33, 34, 35, 36, 37, 38, 39, 40, 41, 42, 43, 44, 45, 46, 47, 48, 49, 50, 51, 52, 53]))) (.seq .leaf .leaf)))))))
theorem S.device_Pipe.eq (a0 a1 : Value) (w : World) (R : Value → World → Prop) : S.device_Pipe a0 a1 w R = fnC PP 55 (Tryd.f15.body.getD .skip) S.device_Pipe.an [.tmp 4, .tmp 5] [a0, a1] w R := by kernel_rfl
theorem S.device_Pipe.calls {a0 a1 : Value} {w : World} {R : Value → World → Prop} (h : S.device_Pipe a0 a1 w R) : Ca PP Fn.device_Pipe #[a0, a1] w R :=
  fnC_calls mixed (f := Fn.device_Pipe) (an := S.device_Pipe.an) Tryd.func15 rfl (by show _ ≤ _; exact Nat.le_of_ble_eq_true rfl) (S.device_Pipe.eq a0 a1 w R ▸ h)
/-- (*acheron/device.Device).Close -/
def S.device_Device_Close (a0 a1 : Value) (w : World) (R : Value → World → Prop) : Prop :=
 Ca PP Fn.device_Device_opened #[a0, a1] w fun t12_1 w_2 =>
 Ex t12_1 0 fun t13_3 =>
 Ex t12_1 1 fun t14_4 =>
 Al Ty.device_handle #[.pointer none, .int .i64 0] w_2 fun t5_5 w_6 =>
 St PP 2 t5_5 t13_3 w_6 fun w_7 =>
 Bi .neq t14_4 (.int .i64 0) fun t16_8 =>
 Cnd t16_8 (
 R t14_4 w_7) (
 Nc a0 fun t19_9 =>
 Fa 2 t19_9 fun t20_10 =>
 Ld t20_10 w_7 fun t21_11 =>
 Ef PP (Builtin.delete_ #[Ty.map_int_device_handle, Ty.int] Ty.t #[t21_11, a1]) w_7 fun x_12 w_13 =>
 Nc a0 fun t24_14 =>
 Fa 2 t24_14 fun t25_15 =>
 Ld t25_15 w_13 fun t26_16 =>
 Ef PP (Instr.range Ty.map_int_device_handle t26_16) w_13 fun t27_17 w_18 =>
 ∃ (I_19 : List Value → World → Prop) (m_20 : List Value → World → Nat), I_19 [] w_18 ∧ ∀ (u_21 : Env) (w_22 : World), I_19 [] w_22 →
 Ef PP (Instr.next t27_17 false Ty.t) w_22 fun t28_23 w_24 =>
 Ex t28_23 0 fun t29_25 =>
 Cnd t29_25 (
 Rd PP (Instr.entry t27_17) w_24 fun t30_26 =>
 Ex t30_26 1 fun t31_27 =>
 Al Ty.device_handle #[.pointer none, .int .i64 0] w_24 fun t8_28 w_29 =>
 St PP 2 t8_28 t31_27 w_29 fun w_30 =>
 Fa 0 t8_28 fun t32_31 =>
 Ld t32_31 w_30 fun t33_32 =>
 Fa 0 t5_5 fun t34_33 =>
 Ld t34_33 w_30 fun t35_34 =>
 Rd PP (eqS .eql Ty.p_device_file (.tmp 33) (.tmp 35) t33_32 t35_34) w_30 fun t36_35 =>
 Cnd t36_35 (
 R (.int .i64 0) w_30) (
 I_19 [] w_30 ∧ m_20 [] w_30 < m_20 [] w_22)) (
 ∀ J_36 : List Value → World → Prop, (∀ w_38 : World, (∀ u_37 : Env,
 R (.int .i64 0) w_38) → J_36 [] w_38) →
 Fa 0 t5_5 fun t37_39 =>
 Ld t37_39 w_24 fun t38_40 =>
 Nc t38_40 fun t39_41 =>
 Fa 15 t39_41 fun t40_42 =>
 Ld t40_42 w_24 fun t41_43 =>
 Rd PP (eqS .neq Ty.func (.tmp 41) (.const .nilFunc) t41_43 .nilFunc) w_24 fun t42_44 =>
 Cnd t42_44 (
 Fa 0 t5_5 fun t43_45 =>
 Ld t43_45 w_24 fun t44_46 =>
 Nc t44_46 fun t45_47 =>
 Fa 15 t45_47 fun t46_48 =>
 Ld t46_48 w_24 fun t47_49 =>
 CaV PP t47_49 #[] w_24 fun t48_50 w_51 =>
 J_36 [] w_51) (
 J_36 [] w_24)))
def S.device_Device_Close.an : Ann := (.seq .leaf (.seq .leaf (.seq (.seq .leaf (.cond (.seq .leaf .leaf) .leaf)) (.seq .leaf (.seq (.seq .leaf (.block (.loop (.seq .leaf (.seq (.cond .leaf .leaf) (.block (.seq .leaf (.seq .leaf (.cond (.seq .leaf .leaf) .leaf)))))) [] [4, 8, 28, 29, 30, 31, 32, 33, 34, 35, 36]))) (.join (.seq .leaf (.cond .leaf .leaf)) [] [37, 38, 39, 40, 41, 42, 43, 44, 45, 46, 47, 48] (.seq .leaf .leaf)))))))
theorem S.device_Device_Close.eq (a0 a1 : Value) (w : World) (R : Value → World → Prop) : S.device_Device_Close a0 a1 w R = fnC PP 49 (Tryd.f16.body.getD .skip) S.device_Device_Close.an [.tmp 4] [a0, a1] w R := by kernel_rfl
theorem S.device_Device_Close.calls {a0 a1 : Value} {w : World} {R : Value → World → Prop} (h : S.device_Device_Close a0 a1 w R) : Ca PP Fn.device_Device_Close #[a0, a1] w R :=
  fnC_calls mixed (f := Fn.device_Device_Close) (an := S.device_Device_Close.an) Tryd.func16 rfl (by show _ ≤ _; exact Nat.le_of_ble_eq_true rfl) (S.device_Device_Close.eq a0 a1 w R ▸ h)
/-- (*acheron/device.Device).Read -/
def S.device_Device_Read (a0 a1 a2 a3 : Value) (w : World) (R : Value → World → Prop) : Prop :=
 Ca PP Fn.device_Device_opened #[a0, a1] w fun t15_1 w_2 =>
 Ex t15_1 0 fun t16_3 =>
 Ex t15_1 1 fun t17_4 =>
 Al Ty.device_handle #[.pointer none, .int .i64 0] w_2 fun t10_5 w_6 =>
 St PP 2 t10_5 t16_3 w_6 fun w_7 =>
 Bi .neq t17_4 (.int .i64 0) fun t20_8 =>
 Cnd t20_8 (
 R (.tuple #[(.string ⟨#[]⟩), t17_4]) w_7) (
 Fa 1 t10_5 fun t23_9 =>
 Ld t23_9 w_7 fun t24_10 =>
 Bi .and t24_10 (.int .i64 3) fun t25_11 =>
 Bi .eql t25_11 (.int .i64 1) fun t26_12 =>
 Cnd t26_12 (
 R (.tuple #[(.string ⟨#[]⟩), (.int .i64 20)]) w_7) (
 Fa 0 t10_5 fun t28_13 =>
 Ld t28_13 w_7 fun t29_14 =>
 Nc t29_14 fun t30_15 =>
 Fa 12 t30_15 fun t31_16 =>
 Ld t31_16 w_7 fun t32_17 =>
 Cnd t32_17 (
 R (.tuple #[(.string ⟨#[]⟩), (.int .i64 4)]) w_7) (
 Fa 0 t10_5 fun t34_18 =>
 Ld t34_18 w_7 fun t35_19 =>
 Ca PP Fn.device_file_isDir #[t35_19] w_7 fun t36_20 w_21 =>
 Cnd t36_20 (
 R (.tuple #[(.string ⟨#[]⟩), (.int .i64 18)]) w_21) (
 ∀ J_22 : List Value → World → Prop, (∀ t37_25, ∀ w_24 : World, (∀ u_23 : Env,
 Cnd t37_25 (
 R (.tuple #[(.string ⟨#[]⟩), (.int .i64 11)]) w_24) (
 Fa 0 t10_5 fun t44_26 =>
 Ld t44_26 w_24 fun t45_27 =>
 Nc t45_27 fun t46_28 =>
 Fa 13 t46_28 fun t47_29 =>
 Ld t47_29 w_24 fun t48_30 =>
 CaV PP t48_30 #[a2, a3] w_24 fun t51_31 w_32 =>
 Ex t51_31 0 fun t52_33 =>
 Ex t51_31 1 fun t53_34 =>
 R (.tuple #[t52_33, t53_34]) w_32)) → J_22 [t37_25] w_24) →
 Bi .lss a2 (.int .i64 0) fun t39_35 =>
 Gd t39_35 false (fun k_36 => k_36 a3 w_21) w_21 fun t41_37 w_38 =>
 Gd t39_35 false (fun k_39 => Bi .lss t41_37 (.int .i64 0) fun t42_42 =>
 k_39 t42_42 w_38) w_38 fun t42_40 w_41 =>
 Pk t39_35 (.bool true) t42_40 fun t43_43 =>
 J_22 [t43_43] w_41))))
def S.device_Device_Read.an : Ann := (.seq .leaf (.seq .leaf (.seq (.block (.seq .leaf (.cond (.seq .leaf .leaf) (.seq .leaf (.cond (.seq .leaf .leaf) (.seq .leaf (.cond (.seq .leaf .leaf) (.seq .leaf (.cond (.seq .leaf .leaf) (.join .leaf [37] [38, 39, 40, 41, 42, 43] (.cond (.seq .leaf .leaf) .leaf))))))))))) (.seq .leaf .leaf))))
theorem S.device_Device_Read.eq (a0 a1 a2 a3 : Value) (w : World) (R : Value → World → Prop) : S.device_Device_Read a0 a1 a2 a3 w R = fnC PP 54 (Tryd.f17.body.getD .skip) S.device_Device_Read.an [.tmp 8, .tmp 9] [a0, a1, a2, a3] w R := by kernel_rfl
theorem S.device_Device_Read.calls {a0 a1 a2 a3 : Value} {w : World} {R : Value → World → Prop} (h : S.device_Device_Read a0 a1 a2 a3 w R) : Ca PP Fn.device_Device_Read #[a0, a1, a2, a3] w R :=
  fnC_calls mixed (f := Fn.device_Device_Read) (an := S.device_Device_Read.an) Tryd.func17 rfl (by show _ ≤ _; exact Nat.le_of_ble_eq_true rfl) (S.device_Device_Read.eq a0 a1 a2 a3 w R ▸ h)
/-- strings.SplitAfter -/
def S.strings_SplitAfter (a0 a1 : Value) (w : World) (R : Value → World → Prop) : Prop :=
 LnS a1 fun t8_1 =>
 Ca PP Fn.strings_genSplit #[a0, a1, t8_1, (.int .i64 (-1))] w fun t9_2 w_3 =>
 R t9_2 w_3
def S.strings_SplitAfter.an : Ann := (.seq .leaf (.seq .leaf .leaf))
theorem S.strings_SplitAfter.eq (a0 a1 : Value) (w : World) (R : Value → World → Prop) : S.strings_SplitAfter a0 a1 w R = fnC PP 10 (Tryd.f19.body.getD .skip) S.strings_SplitAfter.an [.tmp 4] [a0, a1] w R := by kernel_rfl
theorem S.strings_SplitAfter.calls {a0 a1 : Value} {w : World} {R : Value → World → Prop} (h : S.strings_SplitAfter a0 a1 w R) : Ca PP Fn.strings_SplitAfter #[a0, a1] w R :=
  fnC_calls mixed (f := Fn.strings_SplitAfter) (an := S.strings_SplitAfter.an) Tryd.func19 rfl (by show _ ≤ _; exact Nat.le_of_ble_eq_true rfl) (S.strings_SplitAfter.eq a0 a1 w R ▸ h)
/-- acheron/acheronlaw30.DeviceLines$1 -/
def S.law30_DeviceLines_1 (a0 : Value) (w : World) (R : Value → World → Prop) : Prop :=
 LnS a0 fun t4_1 =>
 Bi .gtr t4_1 (.int .i64 1024) fun t5_2 =>
 R t5_2 w
def S.law30_DeviceLines_1.an : Ann := (.seq .leaf (.seq .leaf .leaf))
theorem S.law30_DeviceLines_1.eq (a0 : Value) (w : World) (R : Value → World → Prop) : S.law30_DeviceLines_1 a0 w R = fnC PP 6 (Tryd.f20.body.getD .skip) S.law30_DeviceLines_1.an [.tmp 2] [a0] w R := by kernel_rfl
theorem S.law30_DeviceLines_1.calls {a0 : Value} {w : World} {R : Value → World → Prop} (h : S.law30_DeviceLines_1 a0 w R) : Ca PP Fn.law30_DeviceLines_1 #[a0] w R :=
  fnC_calls mixed (f := Fn.law30_DeviceLines_1) (an := S.law30_DeviceLines_1.an) Tryd.func20 rfl (by show _ ≤ _; exact Nat.le_of_ble_eq_true rfl) (S.law30_DeviceLines_1.eq a0 w R ▸ h)
/-- (*acheron/device.Console).Type -/
def S.device_Console_Type (a0 a1 : Value) (w : World) (R : Value → World → Prop) : Prop :=
 Rd PP (eqS .eql Ty.p_device_Console (.tmp 6) (.const (.pointer none)) a0 (.pointer none)) w fun t7_1 =>
 Cnd t7_1 (
 R (.tuple #[]) w) (
 Nc a0 fun t9_2 =>
 Fa 4 t9_2 fun t10_3 =>
 Ld t10_3 w fun t11_4 =>
 Cnd t11_4 (
 ∀ J_5 : List Value → World → Prop, (∀ w_7 : World, (∀ u_6 : Env,
 R (.tuple #[]) w_7) → J_5 [] w_7) →
 Bi .neq a1 (.string ⟨#[]⟩) fun t13_8 =>
 Cnd t13_8 (
 Ca PP Fn.device_Console_block #[a0, a1] w fun t16_9 w_10 =>
 J_5 [] w_10) (
 J_5 [] w)) (
 Ef PP (convert Ty.string Ty.sl_uint8 a1) w fun t18_11 w_12 =>
 LnL t18_11 fun t19_13 =>
 ∃ (I_14 : List Value → World → Prop) (m_15 : List Value → World → Nat), I_14 [(.int .i64 0)] w_12 ∧ ∀ t20_18, ∀ (u_16 : Env) (w_17 : World), I_14 [t20_18] w_17 →
 Bi .lss t20_18 t19_13 fun t21_19 =>
 Cnd t21_19 (
 ∀ J_20 : List Value → World → Prop, (∀ w_22 : World, (∀ u_21 : Env,
 Bi .add t20_18 (.int .i64 1) fun t73_23 =>
 I_14 [t73_23] w_22 ∧ m_15 [t73_23] w_22 < m_15 [t20_18] w_17) → J_20 [] w_22) →
 IxA 1 t18_11 t20_18 fun t22_24 =>
 Ld t22_24 w_17 fun t23_25 =>
 Bi .eql t23_25 (.int .u8 10) fun t42_26 =>
 Cnd t42_26 (
 Ef PP (Instr.buildSlice Ty.sl_uint8 1 #[(0, t23_25)]) w_17 fun t45_27 w_28 =>
 Ca PP Fn.device_Console_end #[a0, t45_27] w_28 fun t46_29 w_30 =>
 J_20 [] w_30) (
 Bi .eql t23_25 (.int .u8 4) fun t48_31 =>
 Cnd t48_31 (
 Ca PP Fn.device_Console_end #[a0, (.slice none 0 0)] w_17 fun t50_32 w_33 =>
 J_20 [] w_33) (
 Bi .eql t23_25 (.int .u8 8) fun t52_34 =>
 Cnd t52_34 (
 Dr w_17 fun w_35 =>
 Nc a0 fun t55_36 =>
 Fa 1 t55_36 fun t56_37 =>
 Ld t56_37 w_35 fun t57_38 =>
 Nc a0 fun t59_39 =>
 Fa 1 t59_39 fun t60_40 =>
 Ld t60_40 w_35 fun t61_41 =>
 LnL t61_41 fun t62_42 =>
 Bi .sub t62_42 (.int .i64 1) fun t63_43 =>
 Mx t63_43 (.int .i64 0) fun t64_44 =>
 Sl 1 t57_38 none (some t64_44) fun t65_45 =>
 Nc a0 fun t66_46 =>
 Fa 1 t66_46 fun t67_47 =>
 St PP 1 t67_47 t65_45 w_35 fun w_48 =>
 J_20 [] w_48) (
 Bi .eql t23_25 (.int .u8 21) fun t69_49 =>
 Cnd t69_49 (
 Nc a0 fun t71_50 =>
 Fa 1 t71_50 fun t72_51 =>
 St PP 1 t72_51 (.slice none 0 0) w_17 fun w_52 =>
 J_20 [] w_52) (
 Nc a0 fun t26_53 =>
 Fa 1 t26_53 fun t27_54 =>
 Ld t27_54 w_17 fun t28_55 =>
 LnL t28_55 fun t29_56 =>
 Bi .lss t29_56 (.int .i64 1024) fun t30_57 =>
 Cnd t30_57 (
 Nc a0 fun t33_58 =>
 Fa 1 t33_58 fun t34_59 =>
 Ld t34_59 w_17 fun t35_60 =>
 Ef PP (Instr.buildSlice Ty.sl_uint8 1 #[(0, t23_25)]) w_17 fun t37_61 w_62 =>
 Ef PP (Builtin.append_ #[Ty.sl_uint8, Ty.sl_uint8] Ty.sl_uint8 #[t35_60, t37_61]) w_62 fun t38_63 w_64 =>
 Nc a0 fun t39_65 =>
 Fa 1 t39_65 fun t40_66 =>
 St PP 1 t40_66 t38_63 w_64 fun w_67 =>
 J_20 [] w_67) (
 J_20 [] w_17)))))) (
 R (.tuple #[]) w_17)))
def S.device_Console_Type.an : Ann := (.seq (.seq .leaf (.cond .leaf .leaf)) (.seq (.seq .leaf (.cond (.join (.seq .leaf (.cond .leaf .leaf)) [] [12, 13, 14, 15, 16] .leaf) .leaf)) (.seq .leaf (.block (.loop (.seq .leaf (.seq (.cond .leaf .leaf) (.join (.block (.seq .leaf (.seq .leaf (.block (.seq .leaf (.cond .leaf (.seq .leaf (.cond .leaf (.seq .leaf (.cond (.draw [[], [], [1], [1, 2], [1, 2, 3], [], [5], [5, 6], [5, 6, 7], [5, 6, 7, 8], [5, 6, 7, 8, 9], [5, 6, 7, 8, 9, 10], [1, 2, 3, 4, 5, 6, 7, 8, 9, 10, 11], [0, 1, 2, 3, 4, 5, 6, 7, 8, 9, 10, 11, 12], [0, 1, 2, 3, 4, 5, 6, 7, 8, 9, 10, 11, 12, 13], [0, 1, 2, 3, 4, 5, 6, 7, 8, 9, 10, 11, 12, 13, 14]] (.calm 0 (.calm 1 (.calm 2 (.calm 3 (.calm 4 (.calm 5 (.calm 6 (.calm 7 (.calm 8 (.calm 9 (.calm 10 (.calm 11 (.calm 12 (.calm 13 (.calm 14 (.eff1 15 [] .done))))))))))))))))) (.seq .leaf (.cond .leaf (.seq .leaf (.cond .leaf .leaf)))))))))))))) [] [5, 22, 23, 24, 25, 26, 27, 28, 29, 30, 31, 32, 33, 34, 35, 36, 37, 38, 39, 40, 41, 42, 43, 44, 45, 46, 47, 48, 49, 50, 51, 52, 53, 54, 55, 56, 57, 58, 59, 60, 61, 62, 63, 64, 65, 66, 67, 68, 69, 70, 71, 72] .leaf))) [20] [5, 21, 22, 23, 24, 25, 26, 27, 28, 29, 30, 31, 32, 33, 34, 35, 36, 37, 38, 39, 40, 41, 42, 43, 44, 45, 46, 47, 48, 49, 50, 51, 52, 53, 54, 55, 56, 57, 58, 59, 60, 61, 62, 63, 64, 65, 66, 67, 68, 69, 70, 71, 72, 73])))))
theorem S.device_Console_Type.eq (a0 a1 : Value) (w : World) (R : Value → World → Prop) : S.device_Console_Type a0 a1 w R = fnC PP 74 (Tryd.f21.body.getD .skip) S.device_Console_Type.an [] [a0, a1] w R := by kernel_rfl
theorem S.device_Console_Type.calls {a0 a1 : Value} {w : World} {R : Value → World → Prop} (h : S.device_Console_Type a0 a1 w R) : Ca PP Fn.device_Console_Type #[a0, a1] w R :=
  fnC_calls mixed (f := Fn.device_Console_Type) (an := S.device_Console_Type.an) Tryd.func21 rfl (by show _ ≤ _; exact Nat.le_of_ble_eq_true rfl) (S.device_Console_Type.eq a0 a1 w R ▸ h)
/-- slices.IndexFunc[[]string,string] -/
def S.slices_IndexFunc_sl_string_string (a0 a1 : Value) (w : World) (R : Value → World → Prop) : Prop :=
 LnL a0 fun t7_1 =>
 ∃ (I_2 : List Value → World → Prop) (m_3 : List Value → World → Nat), I_2 [(.int .i64 0)] w ∧ ∀ t8_6, ∀ (u_4 : Env) (w_5 : World), I_2 [t8_6] w_5 →
 Bi .lss t8_6 t7_1 fun t9_7 =>
 Cnd t9_7 (
 IxA 1 a0 t8_6 fun t14_8 =>
 Ld t14_8 w_5 fun t15_9 =>
 CaV PP a1 #[t15_9] w_5 fun t16_10 w_11 =>
 Cnd t16_10 (
 R t8_6 w_11) (
 Bi .add t8_6 (.int .i64 1) fun t18_12 =>
 I_2 [t18_12] w_11 ∧ m_3 [t18_12] w_11 < m_3 [t8_6] w_5)) (
 R (.int .i64 (-1)) w_5)
def S.slices_IndexFunc_sl_string_string.an : Ann := (.seq .leaf (.seq (.seq .leaf (.block (.loop (.seq .leaf (.seq (.cond .leaf .leaf) (.seq (.block (.seq .leaf (.seq .leaf (.cond (.seq .leaf .leaf) .leaf)))) .leaf))) [8] [4, 5, 9, 10, 11, 12, 13, 14, 15, 16, 17, 18]))) (.seq .leaf .leaf)))
theorem S.slices_IndexFunc_sl_string_string.eq (a0 a1 : Value) (w : World) (R : Value → World → Prop) : S.slices_IndexFunc_sl_string_string a0 a1 w R = fnC PP 19 (Tryd.f23.body.getD .skip) S.slices_IndexFunc_sl_string_string.an [.tmp 4] [a0, a1] w R := by kernel_rfl
theorem S.slices_IndexFunc_sl_string_string.calls {a0 a1 : Value} {w : World} {R : Value → World → Prop} (h : S.slices_IndexFunc_sl_string_string a0 a1 w R) : Ca PP Fn.slices_IndexFunc_sl_string_string #[a0, a1] w R :=
  fnC_calls mixed (f := Fn.slices_IndexFunc_sl_string_string) (an := S.slices_IndexFunc_sl_string_string.an) Tryd.func23 rfl (by show _ ≤ _; exact Nat.le_of_ble_eq_true rfl) (S.slices_IndexFunc_sl_string_string.eq a0 a1 w R ▸ h)
/-- acheron/tree.Valid -/
def S.tree_Valid (a0 : Value) (w : World) (R : Value → World → Prop) : Prop :=
 LnS a0 fun t6_1 =>
 ∃ (I_2 : List Value → World → Prop) (m_3 : List Value → World → Nat), I_2 [(.int .i64 0)] w ∧ ∀ t7_6, ∀ (u_4 : Env) (w_5 : World), I_2 [t7_6] w_5 →
 Bi .lss t7_6 t6_1 fun t8_7 =>
 Cnd t8_7 (
 IxS a0 t7_6 fun t12_8 =>
 ∀ J_9 : List Value → World → Prop, (∀ t22_12, ∀ w_11 : World, (∀ u_10 : Env,
 Cnd t22_12 (
 R (.bool false) w_11) (
 Bi .add t7_6 (.int .i64 1) fun t23_13 =>
 I_2 [t23_13] w_11 ∧ m_3 [t23_13] w_11 < m_3 [t7_6] w_5)) → J_9 [t22_12] w_11) →
 Bi .lss t12_8 (.int .u8 33) fun t14_14 =>
 Gd t14_14 false (fun k_15 => k_15 t12_8 w_5) w_5 fun t16_16 w_17 =>
 Gd t14_14 false (fun k_18 => Bi .gtr t16_16 (.int .u8 126) fun t17_21 =>
 k_18 t17_21 w_17) w_17 fun t17_19 w_20 =>
 Pk t14_14 (.bool true) t17_19 fun t18_22 =>
 Gd t18_22 false (fun k_23 => k_23 t12_8 w_20) w_20 fun t20_24 w_25 =>
 Gd t18_22 false (fun k_26 => Bi .eql t20_24 (.int .u8 47) fun t21_29 =>
 k_26 t21_29 w_25) w_25 fun t21_27 w_28 =>
 Pk t18_22 (.bool true) t21_27 fun t22_30 =>
 J_9 [t22_30] w_28) (
 ∀ J_31 : List Value → World → Prop, (∀ t2_34, ∀ w_33 : World, (∀ u_32 : Env,
 R t2_34 w_33) → J_31 [t2_34] w_33) →
 Bi .neq a0 (.string ⟨#[]⟩) fun t25_35 =>
 Gd t25_35 true (fun k_36 => k_36 a0 w_5) w_5 fun t27_37 w_38 =>
 Gd t25_35 true (fun k_39 => LnS t27_37 fun t28_42 =>
 k_39 t28_42 w_38) w_38 fun t28_40 w_41 =>
 Gd t25_35 true (fun k_43 => Bi .leq t28_40 (.int .i64 40) fun t29_46 =>
 k_43 t29_46 w_41) w_41 fun t29_44 w_45 =>
 Pk t25_35 t29_44 (.bool false) fun t30_47 =>
 Gd t30_47 true (fun k_48 => k_48 a0 w_45) w_45 fun t32_49 w_50 =>
 Gd t30_47 true (fun k_51 => Bi .neq t32_49 (.string ⟨#[46]⟩) fun t33_54 =>
 k_51 t33_54 w_50) w_50 fun t33_52 w_53 =>
 Pk t30_47 t33_52 (.bool false) fun t34_55 =>
 Gd t34_55 true (fun k_56 => k_56 a0 w_53) w_53 fun t36_57 w_58 =>
 Gd t34_55 true (fun k_59 => Bi .neq t36_57 (.string ⟨#[46, 46]⟩) fun t37_62 =>
 k_59 t37_62 w_58) w_58 fun t37_60 w_61 =>
 Pk t34_55 t37_60 (.bool false) fun t38_63 =>
 J_31 [t38_63] w_61)
def S.tree_Valid.an : Ann := (.seq .leaf (.seq (.seq .leaf (.block (.loop (.seq .leaf (.seq (.cond .leaf .leaf) (.seq (.block (.seq .leaf (.seq .leaf (.join .leaf [22] [13, 14, 15, 16, 17, 18, 19, 20, 21] (.cond (.seq .leaf .leaf) .leaf))))) .leaf))) [7] [2, 3, 4, 8, 9, 10, 11, 12, 13, 14, 15, 16, 17, 18, 19, 20, 21, 22, 23]))) (.join .leaf [2] [24, 25, 26, 27, 28, 29, 30, 31, 32, 33, 34, 35, 36, 37, 38] .leaf)))
theorem S.tree_Valid.eq (a0 : Value) (w : World) (R : Value → World → Prop) : S.tree_Valid a0 w R = fnC PP 39 (Tryd.f24.body.getD .skip) S.tree_Valid.an [.tmp 2] [a0] w R := by kernel_rfl
theorem S.tree_Valid.calls {a0 : Value} {w : World} {R : Value → World → Prop} (h : S.tree_Valid a0 w R) : Ca PP Fn.tree_Valid #[a0] w R :=
  fnC_calls mixed (f := Fn.tree_Valid) (an := S.tree_Valid.an) Tryd.func24 rfl (by show _ ≤ _; exact Nat.le_of_ble_eq_true rfl) (S.tree_Valid.eq a0 w R ▸ h)
/-- acheron/device.newDevice -/
def S.device_newDevice (a0 : Value) (w : World) (R : Value → World → Prop) : Prop :=
 MkM w fun t4_1 w_2 =>
 MkM w_2 fun t5_3 w_4 =>
 Bd #[.pointer none, .map none, .map none] [(0, 1), (1, 1), (2, 1)] [(1, t4_1), (2, t5_3)] fun t6_5 =>
 Al Ty.device_Device (t6_5 : Value).cells w_4 fun t7_6 w_7 =>
 Bd #[.int .i64 0, .int .i64 0, .int .i64 0, .int .i64 0, .int .i64 0, .int .i64 0, .string ⟨#[]⟩, .string ⟨#[]⟩, .string ⟨#[]⟩, .string ⟨#[]⟩] [(0, 3), (3, 1), (4, 1), (5, 1), (6, 1), (7, 1), (8, 1), (9, 1)] [(5, a0), (6, a0), (7, a0)] fun t12_8 =>
 Bd #[.int .i64 0, .int .i64 0, .int .i64 0, .int .i64 0, .int .i64 0, .int .i64 0, .string ⟨#[]⟩, .string ⟨#[]⟩, .string ⟨#[]⟩, .string ⟨#[]⟩, .pointer none, .map none, .bool false, .nilFunc, .nilFunc, .nilFunc] [(0, 10), (10, 1), (11, 1), (12, 1), (13, 1), (14, 1), (15, 1)] [(0, t12_8)] fun t13_9 =>
 Al Ty.device_file (t13_9 : Value).cells w_7 fun t14_10 w_11 =>
 Nc t7_6 fun t15_12 =>
 Fa 0 t15_12 fun t16_13 =>
 St PP 1 t16_13 t14_10 w_11 fun w_14 =>
 Nc t7_6 fun t18_15 =>
 Fa 0 t18_15 fun t19_16 =>
 Ld t19_16 w_14 fun t20_17 =>
 Ca PP Fn.device_file_become #[t20_17, (.int .i64 2147484013)] w_14 fun t21_18 w_19 =>
 Dr w_19 fun w_20 =>
 Nc t7_6 fun t23_21 =>
 Fa 1 t23_21 fun t24_22 =>
 Ld t24_22 w_20 fun t25_23 =>
 Nc t7_6 fun t27_24 =>
 Fa 0 t27_24 fun t28_25 =>
 Ld t28_25 w_20 fun t29_26 =>
 Ef PP (Instr.mapUpdate Ty.map_int64_p_device_file t25_23 (.int .i64 0) t29_26) w_20 fun _ w_27 =>
 R t7_6 w_27
def S.device_newDevice.an : Ann := (.seq .leaf (.seq .leaf (.seq .leaf (.seq .leaf (.seq (.draw [[], [0], [0, 1], [0, 1, 2], [], [4], [4, 5], [4, 5, 6], [0, 1, 2, 3, 4, 5, 6, 7]] (.calm 0 (.calm 1 (.calm 2 (.calm 3 (.calm 4 (.calm 5 (.calm 6 (.calm 7 (.eff1 8 [] .done)))))))))) (.seq .leaf .leaf))))))
theorem S.device_newDevice.eq (a0 : Value) (w : World) (R : Value → World → Prop) : S.device_newDevice a0 w R = fnC PP 31 (Tryd.f25.body.getD .skip) S.device_newDevice.an [.tmp 2] [a0] w R := by kernel_rfl
theorem S.device_newDevice.calls {a0 : Value} {w : World} {R : Value → World → Prop} (h : S.device_newDevice a0 w R) : Ca PP Fn.device_newDevice #[a0] w R :=
  fnC_calls mixed (f := Fn.device_newDevice) (an := S.device_newDevice.an) Tryd.func25 rfl (by show _ ≤ _; exact Nat.le_of_ble_eq_true rfl) (S.device_newDevice.eq a0 w R ▸ h)
/-- (*acheron/device.Device).add -/
def S.device_Device_add (a0 a1 a2 a3 a4 : Value) (w : World) (R : Value → World → Prop) : Prop :=
 Nc a0 fun t14_1 =>
 Fa 0 t14_1 fun t15_2 =>
 Ld t15_2 w fun t16_3 =>
 Nc t16_3 fun t17_4 =>
 Fa 0 t17_4 fun t18_5 =>
 Fa 7 t18_5 fun t19_6 =>
 Ld t19_6 w fun t20_7 =>
 Bd #[.int .i64 0, .int .i64 0, .int .i64 0] [(0, 1), (1, 1), (2, 1)] [(2, a2)] fun t22_8 =>
 Bd #[.int .i64 0, .int .i64 0, .int .i64 0, .int .i64 0, .int .i64 0, .int .i64 0, .string ⟨#[]⟩, .string ⟨#[]⟩, .string ⟨#[]⟩, .string ⟨#[]⟩] [(0, 3), (3, 1), (4, 1), (5, 1), (6, 1), (7, 1), (8, 1), (9, 1)] [(0, t22_8), (4, a3), (5, t20_7), (6, t20_7), (7, t20_7)] fun t27_9 =>
 Bd #[.int .i64 0, .int .i64 0, .int .i64 0, .int .i64 0, .int .i64 0, .int .i64 0, .string ⟨#[]⟩, .string ⟨#[]⟩, .string ⟨#[]⟩, .string ⟨#[]⟩, .pointer none, .map none, .bool false, .nilFunc, .nilFunc, .nilFunc] [(0, 10), (10, 1), (11, 1), (12, 1), (13, 1), (14, 1), (15, 1)] [(0, t27_9), (1, a1)] fun t29_10 =>
 Al Ty.device_file (t29_10 : Value).cells w fun t30_11 w_12 =>
 Ca PP Fn.device_file_become #[t30_11, a4] w_12 fun t33_13 w_14 =>
 Nc a1 fun t35_15 =>
 Fa 11 t35_15 fun t36_16 =>
 Ld t36_16 w_14 fun t37_17 =>
 Ef PP (Instr.mapUpdate Ty.map_string_p_device_file t37_17 a3 t30_11) w_14 fun _ w_18 =>
 Nc a0 fun t41_19 =>
 Fa 1 t41_19 fun t42_20 =>
 Ld t42_20 w_18 fun t43_21 =>
 Ef PP (Instr.mapUpdate Ty.map_int64_p_device_file t43_21 a2 t30_11) w_18 fun _ w_22 =>
 R t30_11 w_22
def S.device_Device_add.an : Ann := (.seq .leaf (.seq .leaf (.seq .leaf (.seq .leaf (.seq .leaf (.seq .leaf (.seq .leaf .leaf)))))))
theorem S.device_Device_add.eq (a0 a1 a2 a3 a4 : Value) (w : World) (R : Value → World → Prop) : S.device_Device_add a0 a1 a2 a3 a4 w R = fnC PP 47 (Tryd.f26.body.getD .skip) S.device_Device_add.an [.tmp 10] [a0, a1, a2, a3, a4] w R := by kernel_rfl
theorem S.device_Device_add.calls {a0 a1 a2 a3 a4 : Value} {w : World} {R : Value → World → Prop} (h : S.device_Device_add a0 a1 a2 a3 a4 w R) : Ca PP Fn.device_Device_add #[a0, a1, a2, a3, a4] w R :=
  fnC_calls mixed (f := Fn.device_Device_add) (an := S.device_Device_add.an) Tryd.func26 rfl (by show _ ≤ _; exact Nat.le_of_ble_eq_true rfl) (S.device_Device_add.eq a0 a1 a2 a3 a4 w R ▸ h)
/-- (*acheron/device.Console).take -/
def S.device_Console_take (a0 a1 a2 : Value) (w : World) (R : Value → World → Prop) : Prop :=
 Bi .eql a2 (.int .i64 0) fun t12_1 =>
 Cnd t12_1 (
 R (.tuple #[(.string ⟨#[]⟩), (.int .i64 0)]) w) (
 Nc a0 fun t15_2 =>
 Fa 2 t15_2 fun t16_3 =>
 Ld t16_3 w fun t17_4 =>
 LnL t17_4 fun t18_5 =>
 Bi .eql t18_5 (.int .i64 0) fun t19_6 =>
 Cnd t19_6 (
 R (.tuple #[(.string ⟨#[]⟩), (.int .i64 36)]) w) (
 Nc a0 fun t21_7 =>
 Fa 2 t21_7 fun t22_8 =>
 Ld t22_8 w fun t23_9 =>
 IxA 1 t23_9 (.int .i64 0) fun t24_10 =>
 Ld t24_10 w fun t25_11 =>
 LnS t25_11 fun t28_12 =>
 Mn a2 t28_12 fun t29_13 =>
 ∀ J_14 : List Value → World → Prop, (∀ w_16 : World, (∀ u_15 : Env,
 SlS t25_11 none (some t29_13) fun t52_17 =>
 R (.tuple #[t52_17, (.int .i64 0)]) w_16) → J_14 [] w_16) →
 Dr w fun w_18 =>
 Nc a0 fun t31_19 =>
 Fa 2 t31_19 fun t32_20 =>
 Ld t32_20 w_18 fun t33_21 =>
 SlS t25_11 (some t29_13) none fun t36_22 =>
 IxA 1 t33_21 (.int .i64 0) fun t37_23 =>
 St PP 1 t37_23 t36_22 w_18 fun w_24 =>
 LnS t25_11 fun t40_25 =>
 Bi .eql t29_13 t40_25 fun t41_26 =>
 Cnd t41_26 (
 Nc a0 fun t44_27 =>
 Fa 2 t44_27 fun t45_28 =>
 Ld t45_28 w_24 fun t46_29 =>
 Sl 1 t46_29 (some (.int .i64 1)) none fun t47_30 =>
 Nc a0 fun t48_31 =>
 Fa 2 t48_31 fun t49_32 =>
 St PP 1 t49_32 t47_30 w_24 fun w_33 =>
 J_14 [] w_33) (
 J_14 [] w_24)))
def S.device_Console_take.an : Ann := (.seq .leaf (.seq (.block (.seq .leaf (.cond (.seq .leaf .leaf) (.seq .leaf (.cond (.seq .leaf .leaf) .leaf))))) (.seq .leaf (.seq .leaf (.join (.seq (.draw [[], [0], [0, 1], [0, 1, 2], [], [], [4, 5], [0, 1, 2, 3, 4, 5, 6], [0, 1, 2, 3, 4, 5, 6, 7]] (.calm 0 (.calm 1 (.calm 2 (.calm 3 (.calm 4 (.calm 5 (.calm 6 (.calm 7 (.eff1 8 [] .done)))))))))) (.seq .leaf (.cond .leaf .leaf))) [] [30, 31, 32, 33, 34, 35, 36, 37, 38, 39, 40, 41, 42, 43, 44, 45, 46, 47, 48, 49] (.seq .leaf .leaf))))))
theorem S.device_Console_take.eq (a0 a1 a2 : Value) (w : World) (R : Value → World → Prop) : S.device_Console_take a0 a1 a2 w R = fnC PP 53 (Tryd.f27.body.getD .skip) S.device_Console_take.an [.tmp 6, .tmp 7] [a0, a1, a2] w R := by kernel_rfl
theorem S.device_Console_take.calls {a0 a1 a2 : Value} {w : World} {R : Value → World → Prop} (h : S.device_Console_take a0 a1 a2 w R) : Ca PP Fn.device_Console_take #[a0, a1, a2] w R :=
  fnC_calls mixed (f := Fn.device_Console_take) (an := S.device_Console_take.an) Tryd.func27 rfl (by show _ ≤ _; exact Nat.le_of_ble_eq_true rfl) (S.device_Console_take.eq a0 a1 a2 w R ▸ h)
/-- (*acheron/device.Console).print -/
def S.device_Console_print (a0 a1 : Value) (w : World) (R : Value → World → Prop) : Prop :=
 Nc a0 fun t6_1 =>
 Fa 3 t6_1 fun t7_2 =>
 Ld t7_2 w fun t8_3 =>
 LnL t8_3 fun t9_4 =>
 LnS a1 fun t11_5 =>
 Bi .add t9_4 t11_5 fun t12_6 =>
 Bi .gtr t12_6 (.int .i64 1048576) fun t13_7 =>
 Cnd t13_7 (
 R (.int .i64 24) w) (
 Nc a0 fun t16_8 =>
 Fa 3 t16_8 fun t17_9 =>
 Ld t17_9 w fun t18_10 =>
 Ef PP (Builtin.append_ #[Ty.sl_uint8, Ty.string] Ty.sl_uint8 #[t18_10, a1]) w fun t20_11 w_12 =>
 Nc a0 fun t21_13 =>
 Fa 3 t21_13 fun t22_14 =>
 St PP 1 t22_14 t20_11 w_12 fun w_15 =>
 R (.int .i64 0) w_15)
def S.device_Console_print.an : Ann := (.seq .leaf (.seq (.seq .leaf (.cond (.seq .leaf .leaf) .leaf)) (.seq .leaf (.seq .leaf .leaf))))
theorem S.device_Console_print.eq (a0 a1 : Value) (w : World) (R : Value → World → Prop) : S.device_Console_print a0 a1 w R = fnC PP 23 (Tryd.f28.body.getD .skip) S.device_Console_print.an [.tmp 4] [a0, a1] w R := by kernel_rfl
theorem S.device_Console_print.calls {a0 a1 : Value} {w : World} {R : Value → World → Prop} (h : S.device_Console_print a0 a1 w R) : Ca PP Fn.device_Console_print #[a0, a1] w R :=
  fnC_calls mixed (f := Fn.device_Console_print) (an := S.device_Console_print.an) Tryd.func28 rfl (by show _ ≤ _; exact Nat.le_of_ble_eq_true rfl) (S.device_Console_print.eq a0 a1 w R ▸ h)
/-- (*acheron/device.Console).control -/
def S.device_Console_control (a0 a1 : Value) (w : World) (R : Value → World → Prop) : Prop :=
 ∀ J_1 : List Value → World → Prop, (∀ w_3 : World, (∀ u_2 : Env,
 R (.int .i64 0) w_3) → J_1 [] w_3) →
 Bi .eql a1 (.string ⟨#[114, 97, 119, 111, 110]⟩) fun t7_4 =>
 Cnd t7_4 (
 ∀ J_5 : List Value → World → Prop, (∀ w_7 : World, (∀ u_6 : Env,
 Nc a0 fun t17_8 =>
 Fa 4 t17_8 fun t18_9 =>
 St PP 1 t18_9 (.bool true) w_7 fun w_10 =>
 J_1 [] w_10) → J_5 [] w_7) →
 Nc a0 fun t9_11 =>
 Fa 1 t9_11 fun t10_12 =>
 Ld t10_12 w fun t11_13 =>
 LnL t11_13 fun t12_14 =>
 Bi .gtr t12_14 (.int .i64 0) fun t13_15 =>
 Cnd t13_15 (
 Ca PP Fn.device_Console_end #[a0, (.slice none 0 0)] w fun t15_16 w_17 =>
 J_5 [] w_17) (
 J_5 [] w)) (
 Bi .eql a1 (.string ⟨#[114, 97, 119, 111, 102, 102]⟩) fun t20_18 =>
 Cnd t20_18 (
 Nc a0 fun t22_19 =>
 Fa 4 t22_19 fun t23_20 =>
 St PP 1 t23_20 (.bool false) w fun w_21 =>
 J_1 [] w_21) (
 R (.int .i64 1) w))
def S.device_Console_control.an : Ann := (.seq .leaf (.join (.seq .leaf (.block (.seq .leaf (.cond (.join (.seq .leaf (.cond .leaf .leaf)) [] [8, 9, 10, 11, 12, 13, 14, 15] .leaf) (.seq .leaf (.cond .leaf (.seq .leaf .leaf))))))) [] [4, 5, 6, 7, 8, 9, 10, 11, 12, 13, 14, 15, 16, 17, 18, 19, 20, 21, 22, 23] (.seq .leaf .leaf)))
theorem S.device_Console_control.eq (a0 a1 : Value) (w : World) (R : Value → World → Prop) : S.device_Console_control a0 a1 w R = fnC PP 24 (Tryd.f29.body.getD .skip) S.device_Console_control.an [.tmp 4] [a0, a1] w R := by kernel_rfl
theorem S.device_Console_control.calls {a0 a1 : Value} {w : World} {R : Value → World → Prop} (h : S.device_Console_control a0 a1 w R) : Ca PP Fn.device_Console_control #[a0, a1] w R :=
  fnC_calls mixed (f := Fn.device_Console_control) (an := S.device_Console_control.an) Tryd.func29 rfl (by show _ ≤ _; exact Nat.le_of_ble_eq_true rfl) (S.device_Console_control.eq a0 a1 w R ▸ h)
/-- (*acheron/device.file).text -/
def S.device_file_text (a0 a1 : Value) (w : World) (R : Value → World → Prop) : Prop :=
 Al Ty.func_string (a1 : Value).cells w fun t3_1 w_2 =>
 Nc a0 fun t6_3 =>
 Fa 13 t6_3 fun t7_4 =>
 St PP 1 t7_4 (.func (.func Fn.device_file_text_1) #[] #[t3_1]) w_2 fun w_5 =>
 R (.tuple #[]) w_5
def S.device_file_text.an : Ann := (.seq .leaf .leaf)
theorem S.device_file_text.eq (a0 a1 : Value) (w : World) (R : Value → World → Prop) : S.device_file_text a0 a1 w R = fnC PP 8 (Tryd.f30.body.getD .skip) S.device_file_text.an [] [a0, a1] w R := by kernel_rfl
theorem S.device_file_text.calls {a0 a1 : Value} {w : World} {R : Value → World → Prop} (h : S.device_file_text a0 a1 w R) : Ca PP Fn.device_file_text #[a0, a1] w R :=
  fnC_calls mixed (f := Fn.device_file_text) (an := S.device_file_text.an) Tryd.func30 rfl (by show _ ≤ _; exact Nat.le_of_ble_eq_true rfl) (S.device_file_text.eq a0 a1 w R ▸ h)
/-- acheron/device.NewConsole$1 -/
def S.device_NewConsole_1 (a0 : Value) (w : World) (R : Value → World → Prop) : Prop :=
 Ld a0 w fun t2_1 =>
 R t2_1 w
def S.device_NewConsole_1.an : Ann := (.seq .leaf (.seq .leaf .leaf))
theorem S.device_NewConsole_1.eq (a0 : Value) (w : World) (R : Value → World → Prop) : S.device_NewConsole_1 a0 w R = fnC PP 3 (Tryd.f31.body.getD .skip) S.device_NewConsole_1.an [.tmp 1] [a0] w R := by kernel_rfl
theorem S.device_NewConsole_1.calls {a0 : Value} {w : World} {R : Value → World → Prop} (h : S.device_NewConsole_1 a0 w R) : Ca PP Fn.device_NewConsole_1 #[a0] w R :=
  fnC_calls mixed (f := Fn.device_NewConsole_1) (an := S.device_NewConsole_1.an) Tryd.func31 rfl (by show _ ≤ _; exact Nat.le_of_ble_eq_true rfl) (S.device_NewConsole_1.eq a0 w R ▸ h)
/-- acheron/device.NewConsole$2 -/
def S.device_NewConsole_2 (a0 : Value) (w : World) (R : Value → World → Prop) : Prop :=
 Ld a0 w fun t2_1 =>
 Nc t2_1 fun t3_2 =>
 Fa 5 t3_2 fun t4_3 =>
 Ld t4_3 w fun t5_4 =>
 Ca PP Fn.strconv_FormatInt #[t5_4, (.int .i64 10)] w fun t6_5 w_6 =>
 R t6_5 w_6
def S.device_NewConsole_2.an : Ann := (.seq .leaf (.seq .leaf .leaf))
theorem S.device_NewConsole_2.eq (a0 : Value) (w : World) (R : Value → World → Prop) : S.device_NewConsole_2 a0 w R = fnC PP 7 (Tryd.f32.body.getD .skip) S.device_NewConsole_2.an [.tmp 1] [a0] w R := by kernel_rfl
theorem S.device_NewConsole_2.calls {a0 : Value} {w : World} {R : Value → World → Prop} (h : S.device_NewConsole_2 a0 w R) : Ca PP Fn.device_NewConsole_2 #[a0] w R :=
  fnC_calls mixed (f := Fn.device_NewConsole_2) (an := S.device_NewConsole_2.an) Tryd.func32 rfl (by show _ ≤ _; exact Nat.le_of_ble_eq_true rfl) (S.device_NewConsole_2.eq a0 w R ▸ h)
/-- (*acheron/device.Device).find -/
def S.device_Device_find (a0 a1 : Value) (w : World) (R : Value → World → Prop) : Prop :=
 Rd PP (eqS .eql Ty.p_device_Device (.tmp 8) (.const (.pointer none)) a0 (.pointer none)) w fun t9_1 =>
 Cnd t9_1 (
 R (.tuple #[(.pointer none), (.int .i64 6)]) w) (
 Nc a0 fun t12_2 =>
 Fa 1 t12_2 fun t13_3 =>
 Ld t13_3 w fun t14_4 =>
 Rd PP (Instr.lookup Ty.map_int64_p_device_file t14_4 a1 true) w fun t16_5 =>
 Ex t16_5 0 fun t17_6 =>
 Ex t16_5 1 fun t18_7 =>
 Cnd t18_7 (
 R (.tuple #[t17_6, (.int .i64 0)]) w) (
 R (.tuple #[(.pointer none), (.int .i64 4)]) w))
def S.device_Device_find.an : Ann := (.seq .leaf (.seq (.seq .leaf (.cond (.seq .leaf .leaf) .leaf)) (.seq (.seq .leaf (.seq .leaf (.cond (.seq .leaf .leaf) .leaf))) (.seq .leaf .leaf))))
theorem S.device_Device_find.eq (a0 a1 : Value) (w : World) (R : Value → World → Prop) : S.device_Device_find a0 a1 w R = fnC PP 21 (Tryd.f34.body.getD .skip) S.device_Device_find.an [.tmp 4, .tmp 5] [a0, a1] w R := by kernel_rfl
theorem S.device_Device_find.calls {a0 a1 : Value} {w : World} {R : Value → World → Prop} (h : S.device_Device_find a0 a1 w R) : Ca PP Fn.device_Device_find #[a0, a1] w R :=
  fnC_calls mixed (f := Fn.device_Device_find) (an := S.device_Device_find.an) Tryd.func34 rfl (by show _ ≤ _; exact Nat.le_of_ble_eq_true rfl) (S.device_Device_find.eq a0 a1 w R ▸ h)
/-- (*acheron/device.file).isDir -/
def S.device_file_isDir (a0 : Value) (w : World) (R : Value → World → Prop) : Prop :=
 Nc a0 fun t4_1 =>
 Fa 0 t4_1 fun t5_2 =>
 Fa 3 t5_2 fun t6_3 =>
 Ld t6_3 w fun t7_4 =>
 Bi .and t7_4 (.int .i64 2147483648) fun t8_5 =>
 Bi .neq t8_5 (.int .i64 0) fun t9_6 =>
 R t9_6 w
def S.device_file_isDir.an : Ann := (.seq .leaf (.seq .leaf .leaf))
theorem S.device_file_isDir.eq (a0 : Value) (w : World) (R : Value → World → Prop) : S.device_file_isDir a0 w R = fnC PP 10 (Tryd.f35.body.getD .skip) S.device_file_isDir.an [.tmp 2] [a0] w R := by kernel_rfl
theorem S.device_file_isDir.calls {a0 : Value} {w : World} {R : Value → World → Prop} (h : S.device_file_isDir a0 w R) : Ca PP Fn.device_file_isDir #[a0] w R :=
  fnC_calls mixed (f := Fn.device_file_isDir) (an := S.device_file_isDir.an) Tryd.func35 rfl (by show _ ≤ _; exact Nat.le_of_ble_eq_true rfl) (S.device_file_isDir.eq a0 w R ▸ h)
/-- (*acheron/device.file).may -/
def S.device_file_may (a0 a1 a2 : Value) (w : World) (R : Value → World → Prop) : Prop :=
 Dr w fun w_1 =>
 Nc a0 fun t8_2 =>
 Fa 0 t8_2 fun t9_3 =>
 Fa 3 t9_3 fun t10_4 =>
 Ld t10_4 w_1 fun t11_5 =>
 Nc a0 fun t14_6 =>
 Fa 0 t14_6 fun t15_7 =>
 Fa 7 t15_7 fun t16_8 =>
 Ld t16_8 w_1 fun t17_9 =>
 Bi .eql a1 t17_9 fun t18_10 =>
 Nc a0 fun t21_11 =>
 Fa 0 t21_11 fun t22_12 =>
 Fa 8 t22_12 fun t23_13 =>
 Ld t23_13 w_1 fun t24_14 =>
 Bi .eql a1 t24_14 fun t25_15 =>
 Ca PP Fn.tree_Permits #[t11_5, t18_10, t25_15, a2] w_1 fun t27_16 w_17 =>
 R t27_16 w_17
def S.device_file_may.an : Ann := (.seq .leaf (.seq (.draw [[], [0], [0, 1], [0, 1, 2], [0, 1, 2, 3], [], [], [6], [6, 7], [6, 7, 8], [6, 7, 8, 9], [5, 6, 7, 8, 9, 10], [], [], [13], [13, 14], [13, 14, 15], [13, 14, 15, 16], [12, 13, 14, 15, 16, 17], [], [0, 1, 2, 3, 4, 5, 6, 7, 8, 9, 10, 11, 12, 13, 14, 15, 16, 17, 18, 19], [0, 1, 2, 3, 4, 5, 6, 7, 8, 9, 10, 11, 12, 13, 14, 15, 16, 17, 18, 19, 20]] (.calm 0 (.calm 1 (.calm 2 (.calm 3 (.calm 4 (.calm 5 (.calm 6 (.calm 7 (.calm 8 (.calm 9 (.calm 10 (.calm 11 (.calm 12 (.calm 13 (.calm 14 (.calm 15 (.calm 16 (.calm 17 (.calm 18 (.calm 19 (.eff1 20 [] (.calm 21 .done))))))))))))))))))))))) .leaf))
theorem S.device_file_may.eq (a0 a1 a2 : Value) (w : World) (R : Value → World → Prop) : S.device_file_may a0 a1 a2 w R = fnC PP 28 (Tryd.f36.body.getD .skip) S.device_file_may.an [.tmp 6] [a0, a1, a2] w R := by kernel_rfl
theorem S.device_file_may.calls {a0 a1 a2 : Value} {w : World} {R : Value → World → Prop} (h : S.device_file_may a0 a1 a2 w R) : Ca PP Fn.device_file_may #[a0, a1, a2] w R :=
  fnC_calls mixed (f := Fn.device_file_may) (an := S.device_file_may.an) Tryd.func36 rfl (by show _ ≤ _; exact Nat.le_of_ble_eq_true rfl) (S.device_file_may.eq a0 a1 a2 w R ▸ h)
/-- (*acheron/device.Device).opened -/
def S.device_Device_opened (a0 a1 : Value) (w : World) (R : Value → World → Prop) : Prop :=
 Al Ty.device_handle #[.pointer none, .int .i64 0] w fun t4_1 w_2 =>
 Rd PP (eqS .eql Ty.p_device_Device (.tmp 8) (.const (.pointer none)) a0 (.pointer none)) w_2 fun t9_3 =>
 Cnd t9_3 (
 Bd #[.pointer none, .int .i64 0] [(0, 1), (1, 1)] [] fun t10_4 =>
 St PP 2 t4_1 t10_4 w_2 fun w_5 =>
 LdA PP 2 t4_1 w_5 fun t4_6 =>
 R (.tuple #[t4_6, (.int .i64 6)]) w_5) (
 Nc a0 fun t13_7 =>
 Fa 2 t13_7 fun t14_8 =>
 Ld t14_8 w_2 fun t15_9 =>
 Rd PP (Instr.lookup Ty.map_int_device_handle t15_9 a1 true) w_2 fun t17_10 =>
 Ex t17_10 0 fun t18_11 =>
 Ex t17_10 1 fun t19_12 =>
 Al Ty.device_handle #[.pointer none, .int .i64 0] w_2 fun t6_13 w_14 =>
 St PP 2 t6_13 t18_11 w_14 fun w_15 =>
 Cnd t19_12 (
 LdA PP 2 t6_13 w_15 fun t21_16 =>
 St PP 2 t4_1 t21_16 w_15 fun w_17 =>
 LdA PP 2 t4_1 w_17 fun t4_18 =>
 R (.tuple #[t4_18, (.int .i64 0)]) w_17) (
 Bd #[.pointer none, .int .i64 0] [(0, 1), (1, 1)] [] fun t22_19 =>
 St PP 2 t4_1 t22_19 w_15 fun w_20 =>
 LdA PP 2 t4_1 w_20 fun t4_21 =>
 R (.tuple #[t4_21, (.int .i64 19)]) w_20))
def S.device_Device_opened.an : Ann := (.seq .leaf (.seq (.seq .leaf (.cond (.seq .leaf .leaf) .leaf)) (.seq (.seq .leaf (.seq .leaf (.cond (.seq .leaf .leaf) .leaf))) (.seq .leaf .leaf))))
theorem S.device_Device_opened.eq (a0 a1 : Value) (w : World) (R : Value → World → Prop) : S.device_Device_opened a0 a1 w R = fnC PP 23 (Tryd.f37.body.getD .skip) S.device_Device_opened.an [.cell 4 77, .tmp 5] [a0, a1] w R := by kernel_rfl
theorem S.device_Device_opened.calls {a0 a1 : Value} {w : World} {R : Value → World → Prop} (h : S.device_Device_opened a0 a1 w R) : Ca PP Fn.device_Device_opened #[a0, a1] w R :=
  fnC_calls mixed (f := Fn.device_Device_opened) (an := S.device_Device_opened.an) Tryd.func37 rfl (by show _ ≤ _; exact Nat.le_of_ble_eq_true rfl) (S.device_Device_opened.eq a0 a1 w R ▸ h)
/-- acheron/stream.New -/
def S.stream_New (a0 : Value) (w : World) (R : Value → World → Prop) : Prop :=
 ∀ J_1 : List Value → World → Prop, (∀ t9_4, ∀ w_3 : World, (∀ u_2 : Env,
 Cnd t9_4 (
 R (.tuple #[(.pointer none), (.int .i64 1)]) w_3) (
 Bd #[.slice none 0 0, .bool false, .slice none 0 0, .bool false, .int .i64 0, .int .i64 0, .slice none 0 0, .slice none 0 0] [(0, 4), (4, 1), (5, 1), (6, 1), (7, 1)] [(1, a0)] fun t11_5 =>
 Al Ty.stream_Pipe (t11_5 : Value).cells w_3 fun t12_6 w_7 =>
 R (.tuple #[t12_6, (.int .i64 0)]) w_7)) → J_1 [t9_4] w_3) →
 Bi .lss a0 (.int .i64 1) fun t5_8 =>
 Gd t5_8 false (fun k_9 => k_9 a0 w) w fun t7_10 w_11 =>
 Gd t5_8 false (fun k_12 => Bi .gtr t7_10 (.int .i64 1048576) fun t8_15 =>
 k_12 t8_15 w_11) w_11 fun t8_13 w_14 =>
 Pk t5_8 (.bool true) t8_13 fun t9_16 =>
 J_1 [t9_16] w_14
def S.stream_New.an : Ann := (.seq .leaf (.seq (.join .leaf [9] [4, 5, 6, 7, 8] (.cond (.seq .leaf .leaf) .leaf)) (.seq .leaf .leaf)))
theorem S.stream_New.eq (a0 : Value) (w : World) (R : Value → World → Prop) : S.stream_New a0 w R = fnC PP 13 (Tryd.f41.body.getD .skip) S.stream_New.an [.tmp 2, .tmp 3] [a0] w R := by kernel_rfl
theorem S.stream_New.calls {a0 : Value} {w : World} {R : Value → World → Prop} (h : S.stream_New a0 w R) : Ca PP Fn.stream_New #[a0] w R :=
  fnC_calls mixed (f := Fn.stream_New) (an := S.stream_New.an) Tryd.func41 rfl (by show _ ≤ _; exact Nat.le_of_ble_eq_true rfl) (S.stream_New.eq a0 w R ▸ h)
/-- acheron/device.Pipe$1 -/
def S.device_Pipe_1 (a0 a1 a2 a3 : Value) (w : World) (R : Value → World → Prop) : Prop :=
 Ld a2 w fun t11_1 =>
 Ld a3 w fun t12_2 =>
 Ca PP Fn.stream_Pipe_Read #[t11_1, t12_2, a1] w fun t14_3 w_4 =>
 Ex t14_3 0 fun t15_5 =>
 Ex t14_3 1 fun t16_6 =>
 ∀ J_7 : List Value → World → Prop, (∀ t9_10, ∀ w_9 : World, (∀ u_8 : Env,
 R (.tuple #[t15_5, t9_10]) w_9) → J_7 [t9_10] w_9) →
 Bi .eql t16_6 (.int .i64 28) fun t18_11 =>
 Cnd t18_11 (
 J_7 [(.int .i64 0)] w_4) (
 J_7 [t16_6] w_4)
def S.device_Pipe_1.an : Ann := (.seq .leaf (.seq .leaf (.join (.seq .leaf (.cond .leaf .leaf)) [9] [17, 18] (.seq .leaf .leaf))))
theorem S.device_Pipe_1.eq (a0 a1 a2 a3 : Value) (w : World) (R : Value → World → Prop) : S.device_Pipe_1 a0 a1 a2 a3 w R = fnC PP 21 (Tryd.f42.body.getD .skip) S.device_Pipe_1.an [.tmp 6, .tmp 7] [a0, a1, a2, a3] w R := by kernel_rfl
theorem S.device_Pipe_1.calls {a0 a1 a2 a3 : Value} {w : World} {R : Value → World → Prop} (h : S.device_Pipe_1 a0 a1 a2 a3 w R) : Ca PP Fn.device_Pipe_1 #[a0, a1, a2, a3] w R :=
  fnC_calls mixed (f := Fn.device_Pipe_1) (an := S.device_Pipe_1.an) Tryd.func42 rfl (by show _ ≤ _; exact Nat.le_of_ble_eq_true rfl) (S.device_Pipe_1.eq a0 a1 a2 a3 w R ▸ h)
/-- (*acheron/stream.Pipe).Read -/
def S.stream_Pipe_Read (a0 a1 a2 : Value) (w : World) (R : Value → World → Prop) : Prop :=
 Bd #[.int .i64 0, .int .i64 0, .int .i64 0, .string ⟨#[]⟩] [(0, 1), (1, 1), (2, 1), (3, 1)] [(0, (.int .i64 0)), (1, a1), (2, a2)] fun t15_1 =>
 Ca PP Fn.stream_Pipe_once #[a0, t15_1] w fun t16_2 w_3 =>
 Ex t16_2 0 fun t17_4 =>
 Ex t16_2 1 fun t18_5 =>
 Ex t16_2 2 fun t19_6 =>
 R (.tuple #[t18_5, t19_6]) w_3
def S.stream_Pipe_Read.an : Ann := (.seq .leaf (.seq .leaf (.seq .leaf .leaf)))
theorem S.stream_Pipe_Read.eq (a0 a1 a2 : Value) (w : World) (R : Value → World → Prop) : S.stream_Pipe_Read a0 a1 a2 w R = fnC PP 22 (Tryd.f43.body.getD .skip) S.stream_Pipe_Read.an [.tmp 6, .tmp 7] [a0, a1, a2] w R := by kernel_rfl
theorem S.stream_Pipe_Read.calls {a0 a1 a2 : Value} {w : World} {R : Value → World → Prop} (h : S.stream_Pipe_Read a0 a1 a2 w R) : Ca PP Fn.stream_Pipe_Read #[a0, a1, a2] w R :=
  fnC_calls mixed (f := Fn.stream_Pipe_Read) (an := S.stream_Pipe_Read.an) Tryd.func43 rfl (by show _ ≤ _; exact Nat.le_of_ble_eq_true rfl) (S.stream_Pipe_Read.eq a0 a1 a2 w R ▸ h)
/-- acheron/device.Pipe$2 -/
def S.device_Pipe_2 (a0 a1 a2 : Value) (w : World) (R : Value → World → Prop) : Prop :=
 Ld a1 w fun t8_1 =>
 Ld a2 w fun t9_2 =>
 Ca PP Fn.stream_Pipe_Write #[t8_1, t9_2, a0] w fun t11_3 w_4 =>
 Ex t11_3 0 fun t12_5 =>
 Ex t11_3 1 fun t13_6 =>
 R t13_6 w_4
def S.device_Pipe_2.an : Ann := (.seq .leaf (.seq .leaf (.seq .leaf .leaf)))
theorem S.device_Pipe_2.eq (a0 a1 a2 : Value) (w : World) (R : Value → World → Prop) : S.device_Pipe_2 a0 a1 a2 w R = fnC PP 15 (Tryd.f44.body.getD .skip) S.device_Pipe_2.an [.tmp 4] [a0, a1, a2] w R := by kernel_rfl
theorem S.device_Pipe_2.calls {a0 a1 a2 : Value} {w : World} {R : Value → World → Prop} (h : S.device_Pipe_2 a0 a1 a2 w R) : Ca PP Fn.device_Pipe_2 #[a0, a1, a2] w R :=
  fnC_calls mixed (f := Fn.device_Pipe_2) (an := S.device_Pipe_2.an) Tryd.func44 rfl (by show _ ≤ _; exact Nat.le_of_ble_eq_true rfl) (S.device_Pipe_2.eq a0 a1 a2 w R ▸ h)
/-- (*acheron/stream.Pipe).Write -/
def S.stream_Pipe_Write (a0 a1 a2 : Value) (w : World) (R : Value → World → Prop) : Prop :=
 Bd #[.int .i64 0, .int .i64 0, .int .i64 0, .string ⟨#[]⟩] [(0, 1), (1, 1), (2, 1), (3, 1)] [(0, (.int .i64 1)), (1, a1), (3, a2)] fun t15_1 =>
 Ca PP Fn.stream_Pipe_once #[a0, t15_1] w fun t16_2 w_3 =>
 Ex t16_2 0 fun t17_4 =>
 Ex t16_2 1 fun t18_5 =>
 Ex t16_2 2 fun t19_6 =>
 R (.tuple #[t17_4, t19_6]) w_3
def S.stream_Pipe_Write.an : Ann := (.seq .leaf (.seq .leaf (.seq .leaf .leaf)))
theorem S.stream_Pipe_Write.eq (a0 a1 a2 : Value) (w : World) (R : Value → World → Prop) : S.stream_Pipe_Write a0 a1 a2 w R = fnC PP 22 (Tryd.f45.body.getD .skip) S.stream_Pipe_Write.an [.tmp 6, .tmp 7] [a0, a1, a2] w R := by kernel_rfl
theorem S.stream_Pipe_Write.calls {a0 a1 a2 : Value} {w : World} {R : Value → World → Prop} (h : S.stream_Pipe_Write a0 a1 a2 w R) : Ca PP Fn.stream_Pipe_Write #[a0, a1, a2] w R :=
  fnC_calls mixed (f := Fn.stream_Pipe_Write) (an := S.stream_Pipe_Write.an) Tryd.func45 rfl (by show _ ≤ _; exact Nat.le_of_ble_eq_true rfl) (S.stream_Pipe_Write.eq a0 a1 a2 w R ▸ h)
/-- acheron/device.Pipe$3 -/
def S.device_Pipe_3 (a0 a1 : Value) (w : World) (R : Value → World → Prop) : Prop :=
 Ld a0 w fun t2_1 =>
 Ld a1 w fun t3_2 =>
 Ca PP Fn.stream_Pipe_Close #[t2_1, t3_2] w fun t4_3 w_4 =>
 R (.tuple #[]) w_4
def S.device_Pipe_3.an : Ann := .leaf
theorem S.device_Pipe_3.eq (a0 a1 : Value) (w : World) (R : Value → World → Prop) : S.device_Pipe_3 a0 a1 w R = fnC PP 5 (Tryd.f46.body.getD .skip) S.device_Pipe_3.an [] [a0, a1] w R := by kernel_rfl
theorem S.device_Pipe_3.calls {a0 a1 : Value} {w : World} {R : Value → World → Prop} (h : S.device_Pipe_3 a0 a1 w R) : Ca PP Fn.device_Pipe_3 #[a0, a1] w R :=
  fnC_calls mixed (f := Fn.device_Pipe_3) (an := S.device_Pipe_3.an) Tryd.func46 rfl (by show _ ≤ _; exact Nat.le_of_ble_eq_true rfl) (S.device_Pipe_3.eq a0 a1 w R ▸ h)
/-- (*acheron/stream.Pipe).Close -/
def S.stream_Pipe_Close (a0 a1 : Value) (w : World) (R : Value → World → Prop) : Prop :=
 Ca PP Fn.stream_Pipe_opened #[a0, a1] w fun t10_1 w_2 =>
 Bi .neq t10_1 (.int .i64 0) fun t12_3 =>
 Cnd t12_3 (
 R t10_1 w_2) (
 Bd #[.slice none 0 0, .bool false] [(0, 1), (1, 1)] [(1, (.bool true))] fun t16_4 =>
 Nc a0 fun t17_5 =>
 Fa 0 t17_5 fun t18_6 =>
 IxP 2 2 t18_6 a1 fun t19_7 =>
 St PP 2 t19_7 t16_4 w_2 fun w_8 =>
 Nc a0 fun t21_9 =>
 Fa 6 t21_9 fun t22_10 =>
 Ld t22_10 w_8 fun t23_11 =>
 LnL t23_11 fun t24_12 =>
 ∃ (I_13 : List Value → World → Prop) (m_14 : List Value → World → Nat), I_13 [(.int .i64 0)] w_8 ∧ ∀ t25_17, ∀ (u_15 : Env) (w_16 : World), I_13 [t25_17] w_16 →
 Bi .lss t25_17 t24_12 fun t26_18 =>
 Cnd t26_18 (
 IxA 5 t23_11 t25_17 fun t27_19 =>
 LdA PP 5 t27_19 w_16 fun t28_20 =>
 Al Ty.stream_asked #[.int .i64 0, .int .i64 0, .int .i64 0, .string ⟨#[]⟩, .int .i64 0] w_16 fun t7_21 w_22 =>
 St PP 5 t7_21 t28_20 w_22 fun w_23 =>
 Dr w_23 fun w_24 =>
 Nc a0 fun t31_25 =>
 Fa 7 t31_25 fun t32_26 =>
 Ld t32_26 w_24 fun t33_27 =>
 Fa 4 t7_21 fun t34_28 =>
 Ld t34_28 w_24 fun t35_29 =>
 Bd #[.int .i64 0, .int .i64 0, .string ⟨#[]⟩, .int .i64 0] [(0, 1), (1, 1), (2, 1), (3, 1)] [(0, t35_29), (3, (.int .i64 28))] fun t36_30 =>
 Ef PP (Instr.buildSlice Ty.sl_stream_Answer 1 #[(0, t36_30)]) w_24 fun t37_31 w_32 =>
 (Ld t32_26 w_32 fun t33_33 =>
 t33_33 = t33_27) ∧
 Ef PP (Builtin.append_ #[Ty.sl_stream_Answer, Ty.sl_stream_Answer] Ty.sl_stream_Answer #[t33_27, t37_31]) w_32 fun t38_34 w_35 =>
 Nc a0 fun t39_36 =>
 Fa 7 t39_36 fun t40_37 =>
 St PP 1 t40_37 t38_34 w_35 fun w_38 =>
 Bi .add t25_17 (.int .i64 1) fun t41_39 =>
 I_13 [t41_39] w_38 ∧ m_14 [t41_39] w_38 < m_14 [t25_17] w_16) (
 Nc a0 fun t43_40 =>
 Fa 6 t43_40 fun t44_41 =>
 St PP 1 t44_41 (.slice none 0 0) w_16 fun w_42 =>
 R (.int .i64 0) w_42))
def S.stream_Pipe_Close.an : Ann := (.seq .leaf (.seq (.seq .leaf (.seq .leaf (.cond (.seq .leaf .leaf) .leaf))) (.seq .leaf (.seq (.seq .leaf (.block (.loop (.seq .leaf (.seq (.cond .leaf .leaf) (.seq (.block (.seq .leaf (.draw [[], [], [1], [1, 2], [1, 2, 3], [], [5], [5, 6], [5, 6, 7], [1, 2, 3, 4, 5, 6, 7, 8], [0, 1, 2, 3, 4, 5, 6, 7, 8, 9], [0, 1, 2, 3, 4, 5, 6, 7, 8, 9, 10], [0, 1, 2, 3, 4, 5, 6, 7, 8, 9, 10, 11]] (.calm 0 (.calm 1 (.calm 2 (.calm 3 (.calm 4 (.calm 5 (.calm 6 (.calm 7 (.eff1 8 [4] (.eff1 9 [] (.calm 10 (.calm 11 (.eff1 12 [] .done)))))))))))))))) .leaf))) [25] [7, 26, 27, 28, 29, 30, 31, 32, 33, 34, 35, 36, 37, 38, 39, 40, 41]))) (.seq .leaf (.seq .leaf .leaf))))))
theorem S.stream_Pipe_Close.eq (a0 a1 : Value) (w : World) (R : Value → World → Prop) : S.stream_Pipe_Close a0 a1 w R = fnC PP 45 (Tryd.f47.body.getD .skip) S.stream_Pipe_Close.an [.tmp 4] [a0, a1] w R := by kernel_rfl
theorem S.stream_Pipe_Close.calls {a0 a1 : Value} {w : World} {R : Value → World → Prop} (h : S.stream_Pipe_Close a0 a1 w R) : Ca PP Fn.stream_Pipe_Close #[a0, a1] w R :=
  fnC_calls mixed (f := Fn.stream_Pipe_Close) (an := S.stream_Pipe_Close.an) Tryd.func47 rfl (by show _ ≤ _; exact Nat.le_of_ble_eq_true rfl) (S.stream_Pipe_Close.eq a0 a1 w R ▸ h)
/-- (*acheron/device.Console).block -/
def S.device_Console_block (a0 a1 : Value) (w : World) (R : Value → World → Prop) : Prop :=
 Nc a0 fun t5_1 =>
 Fa 2 t5_1 fun t6_2 =>
 Ld t6_2 w fun t7_3 =>
 LnL t7_3 fun t8_4 =>
 Bi .lss t8_4 (.int .i64 64) fun t9_5 =>
 Cnd t9_5 (
 Nc a0 fun t12_6 =>
 Fa 2 t12_6 fun t13_7 =>
 Ld t13_7 w fun t14_8 =>
 Ef PP (Instr.buildSlice Ty.sl_string 1 #[(0, a1)]) w fun t16_9 w_10 =>
 Ef PP (Builtin.append_ #[Ty.sl_string, Ty.sl_string] Ty.sl_string #[t14_8, t16_9]) w_10 fun t17_11 w_12 =>
 Nc a0 fun t18_13 =>
 Fa 2 t18_13 fun t19_14 =>
 St PP 1 t19_14 t17_11 w_12 fun w_15 =>
 R (.tuple #[]) w_15) (
 R (.tuple #[]) w)
def S.device_Console_block.an : Ann := (.seq .leaf (.cond .leaf .leaf))
theorem S.device_Console_block.eq (a0 a1 : Value) (w : World) (R : Value → World → Prop) : S.device_Console_block a0 a1 w R = fnC PP 20 (Tryd.f50.body.getD .skip) S.device_Console_block.an [] [a0, a1] w R := by kernel_rfl
theorem S.device_Console_block.calls {a0 a1 : Value} {w : World} {R : Value → World → Prop} (h : S.device_Console_block a0 a1 w R) : Ca PP Fn.device_Console_block #[a0, a1] w R :=
  fnC_calls mixed (f := Fn.device_Console_block) (an := S.device_Console_block.an) Tryd.func50 rfl (by show _ ≤ _; exact Nat.le_of_ble_eq_true rfl) (S.device_Console_block.eq a0 a1 w R ▸ h)
/-- (*acheron/device.Console).end -/
def S.device_Console_end (a0 a1 : Value) (w : World) (R : Value → World → Prop) : Prop :=
 Nc a0 fun t6_1 =>
 Fa 1 t6_1 fun t7_2 =>
 Ld t7_2 w fun t8_3 =>
 Ef PP (Builtin.append_ #[Ty.sl_uint8, Ty.sl_uint8] Ty.sl_uint8 #[t8_3, a1]) w fun t10_4 w_5 =>
 Rd PP (convert Ty.sl_uint8 Ty.string t10_4) w_5 fun t11_6 =>
 Ca PP Fn.device_Console_block #[a0, t11_6] w_5 fun t12_7 w_8 =>
 Nc a0 fun t14_9 =>
 Fa 1 t14_9 fun t15_10 =>
 St PP 1 t15_10 (.slice none 0 0) w_8 fun w_11 =>
 R (.tuple #[]) w_11
def S.device_Console_end.an : Ann := (.seq .leaf .leaf)
theorem S.device_Console_end.eq (a0 a1 : Value) (w : World) (R : Value → World → Prop) : S.device_Console_end a0 a1 w R = fnC PP 16 (Tryd.f51.body.getD .skip) S.device_Console_end.an [] [a0, a1] w R := by kernel_rfl
theorem S.device_Console_end.calls {a0 a1 : Value} {w : World} {R : Value → World → Prop} (h : S.device_Console_end a0 a1 w R) : Ca PP Fn.device_Console_end #[a0, a1] w R :=
  fnC_calls mixed (f := Fn.device_Console_end) (an := S.device_Console_end.an) Tryd.func51 rfl (by show _ ≤ _; exact Nat.le_of_ble_eq_true rfl) (S.device_Console_end.eq a0 a1 w R ▸ h)
/-- (*acheron/device.file).become -/
def S.device_file_become (a0 a1 : Value) (w : World) (R : Value → World → Prop) : Prop :=
 Nc a0 fun t6_1 =>
 Fa 0 t6_1 fun t7_2 =>
 Fa 3 t7_2 fun t8_3 =>
 St PP 1 t8_3 a1 w fun w_4 =>
 Ca PP Fn.device_file_isDir #[a0] w_4 fun t10_5 w_6 =>
 Cnd t10_5 (
 MkM w_6 fun t13_7 w_8 =>
 Nc a0 fun t14_9 =>
 Fa 0 t14_9 fun t15_10 =>
 Fa 0 t15_10 fun t16_11 =>
 Fa 0 t16_11 fun t17_12 =>
 St PP 1 t17_12 (.int .i64 128) w_8 fun w_13 =>
 Nc a0 fun t18_14 =>
 Fa 11 t18_14 fun t19_15 =>
 St PP 1 t19_15 t13_7 w_13 fun w_16 =>
 R (.tuple #[]) w_16) (
 R (.tuple #[]) w_6)
def S.device_file_become.an : Ann := (.seq .leaf (.seq .leaf (.cond .leaf .leaf)))
theorem S.device_file_become.eq (a0 a1 : Value) (w : World) (R : Value → World → Prop) : S.device_file_become a0 a1 w R = fnC PP 20 (Tryd.f53.body.getD .skip) S.device_file_become.an [] [a0, a1] w R := by kernel_rfl
theorem S.device_file_become.calls {a0 a1 : Value} {w : World} {R : Value → World → Prop} (h : S.device_file_become a0 a1 w R) : Ca PP Fn.device_file_become #[a0, a1] w R :=
  fnC_calls mixed (f := Fn.device_file_become) (an := S.device_file_become.an) Tryd.func53 rfl (by show _ ≤ _; exact Nat.le_of_ble_eq_true rfl) (S.device_file_become.eq a0 a1 w R ▸ h)
/-- (*acheron/device.file).text$1 -/
def S.device_file_text_1 (a0 a1 a2 : Value) (w : World) (R : Value → World → Prop) : Prop :=
 Ld a2 w fun t7_1 =>
 CaV PP t7_1 #[] w fun t8_2 w_3 =>
 Ca PP Fn.device_part #[t8_2, a0, a1] w_3 fun t11_4 w_5 =>
 R (.tuple #[t11_4, (.int .i64 0)]) w_5
def S.device_file_text_1.an : Ann := (.seq .leaf (.seq .leaf .leaf))
theorem S.device_file_text_1.eq (a0 a1 a2 : Value) (w : World) (R : Value → World → Prop) : S.device_file_text_1 a0 a1 a2 w R = fnC PP 12 (Tryd.f54.body.getD .skip) S.device_file_text_1.an [.tmp 5, .tmp 6] [a0, a1, a2] w R := by kernel_rfl
theorem S.device_file_text_1.calls {a0 a1 a2 : Value} {w : World} {R : Value → World → Prop} (h : S.device_file_text_1 a0 a1 a2 w R) : Ca PP Fn.device_file_text_1 #[a0, a1, a2] w R :=
  fnC_calls mixed (f := Fn.device_file_text_1) (an := S.device_file_text_1.an) Tryd.func54 rfl (by show _ ≤ _; exact Nat.le_of_ble_eq_true rfl) (S.device_file_text_1.eq a0 a1 a2 w R ▸ h)
/-- acheron/device.part -/
def S.device_part (a0 a1 a2 : Value) (w : World) (R : Value → World → Prop) : Prop :=
 LnS a0 fun t9_1 =>
 Bi .geq a1 t9_1 fun t10_2 =>
 Cnd t10_2 (
 R (.string ⟨#[]⟩) w) (
 SlS a0 (some a1) none fun t13_3 =>
 LnS t13_3 fun t17_4 =>
 Mn a2 t17_4 fun t18_5 =>
 SlS t13_3 none (some t18_5) fun t19_6 =>
 R t19_6 w)
def S.device_part.an : Ann := (.seq .leaf (.seq (.seq .leaf (.cond (.seq .leaf .leaf) .leaf)) (.seq .leaf (.seq .leaf .leaf))))
theorem S.device_part.eq (a0 a1 a2 : Value) (w : World) (R : Value → World → Prop) : S.device_part a0 a1 a2 w R = fnC PP 20 (Tryd.f55.body.getD .skip) S.device_part.an [.tmp 6] [a0, a1, a2] w R := by kernel_rfl
theorem S.device_part.calls {a0 a1 a2 : Value} {w : World} {R : Value → World → Prop} (h : S.device_part a0 a1 a2 w R) : Ca PP Fn.device_part #[a0, a1, a2] w R :=
  fnC_calls mixed (f := Fn.device_part) (an := S.device_part.an) Tryd.func55 rfl (by show _ ≤ _; exact Nat.le_of_ble_eq_true rfl) (S.device_part.eq a0 a1 a2 w R ▸ h)
/-- acheron/tree.Permits -/
def S.tree_Permits (a0 a1 a2 a3 : Value) (w : World) (R : Value → World → Prop) : Prop :=
 ∀ J_1 : List Value → World → Prop, (∀ t0_4, ∀ w_3 : World, (∀ u_2 : Env,
 Bi .and a3 (.int .i64 7) fun t18_5 =>
 Bi .andNot t18_5 t0_4 fun t20_6 =>
 Bi .eql t20_6 (.int .i64 0) fun t21_7 =>
 R t21_7 w_3) → J_1 [t0_4] w_3) →
 Cnd a1 (
 Bi .shr a0 (.int .u64 6) fun t12_8 =>
 J_1 [t12_8] w) (
 Cnd a2 (
 Bi .shr a0 (.int .u64 3) fun t16_9 =>
 J_1 [t16_9] w) (
 J_1 [a0] w))
def S.tree_Permits.an : Ann := (.seq .leaf (.join (.block (.seq .leaf (.cond .leaf (.seq .leaf (.cond .leaf .leaf))))) [0] [9, 10, 11, 12, 13, 14, 15, 16] (.seq .leaf .leaf)))
theorem S.tree_Permits.eq (a0 a1 a2 a3 : Value) (w : World) (R : Value → World → Prop) : S.tree_Permits a0 a1 a2 a3 w R = fnC PP 22 (Tryd.f57.body.getD .skip) S.tree_Permits.an [.tmp 8] [a0, a1, a2, a3] w R := by kernel_rfl
theorem S.tree_Permits.calls {a0 a1 a2 a3 : Value} {w : World} {R : Value → World → Prop} (h : S.tree_Permits a0 a1 a2 a3 w R) : Ca PP Fn.tree_Permits #[a0, a1, a2, a3] w R :=
  fnC_calls mixed (f := Fn.tree_Permits) (an := S.tree_Permits.an) Tryd.func57 rfl (by show _ ≤ _; exact Nat.le_of_ble_eq_true rfl) (S.tree_Permits.eq a0 a1 a2 a3 w R ▸ h)
/-- (*acheron/stream.Pipe).once -/
def S.stream_Pipe_once (a0 a1 : Value) (w : World) (R : Value → World → Prop) : Prop :=
 Al Ty.stream_Op (a1 : Value).cells w fun t3_1 w_2 =>
 LdA PP 4 t3_1 w_2 fun t11_3 =>
 Ca PP Fn.stream_Pipe_check #[a0, t11_3] w_2 fun t12_4 w_5 =>
 Bi .neq t12_4 (.int .i64 0) fun t14_6 =>
 Cnd t14_6 (
 R (.tuple #[(.int .i64 0), (.string ⟨#[]⟩), t12_4]) w_5) (
 LdA PP 4 t3_1 w_5 fun t17_7 =>
 Ca PP Fn.stream_Pipe_waits #[a0, t17_7] w_5 fun t18_8 w_9 =>
 Cnd t18_8 (
 R (.tuple #[(.int .i64 0), (.string ⟨#[]⟩), (.int .i64 36)]) w_9) (
 LdA PP 4 t3_1 w_9 fun t22_10 =>
 Ca PP Fn.stream_Pipe_do #[a0, t22_10] w_9 fun t23_11 w_12 =>
 Ex t23_11 0 fun t24_13 =>
 Ex t23_11 1 fun t25_14 =>
 Lvs PP ((Df.call Fn.stream_Pipe_settle #[] #[a0]) :: []) w_12 fun w_15 =>
 R (.tuple #[t24_13, t25_14, (.int .i64 0)]) w_15))
def S.stream_Pipe_once.an : Ann := (.seq .leaf (.seq (.seq .leaf (.seq .leaf (.cond (.seq .leaf .leaf) .leaf))) (.seq (.seq .leaf (.cond (.seq .leaf .leaf) .leaf)) (.seq .dfr (.seq .leaf (.seq .leaf .leaf))))))
theorem S.stream_Pipe_once.eq (a0 a1 : Value) (w : World) (R : Value → World → Prop) : S.stream_Pipe_once a0 a1 w R = fnC PP 28 (Tryd.f60.body.getD .skip) S.stream_Pipe_once.an [.tmp 4, .tmp 5, .tmp 6] [a0, a1] w R := by kernel_rfl
theorem S.stream_Pipe_once.calls {a0 a1 : Value} {w : World} {R : Value → World → Prop} (h : S.stream_Pipe_once a0 a1 w R) : Ca PP Fn.stream_Pipe_once #[a0, a1] w R :=
  fnC_calls mixed (f := Fn.stream_Pipe_once) (an := S.stream_Pipe_once.an) Tryd.func60 rfl (by show _ ≤ _; exact Nat.le_of_ble_eq_true rfl) (S.stream_Pipe_once.eq a0 a1 w R ▸ h)
/-- (*acheron/stream.Pipe).opened -/
def S.stream_Pipe_opened (a0 a1 : Value) (w : World) (R : Value → World → Prop) : Prop :=
 Rd PP (eqS .eql Ty.p_stream_Pipe (.tmp 6) (.const (.pointer none)) a0 (.pointer none)) w fun t7_1 =>
 Cnd t7_1 (
 R (.int .i64 6) w) (
 Ca PP Fn.stream_isEnd #[a1] w fun t10_2 w_3 =>
 Un .not t10_2 fun t11_4 =>
 Cnd t11_4 (
 R (.int .i64 1) w_3) (
 Nc a0 fun t15_5 =>
 Fa 0 t15_5 fun t16_6 =>
 IxP 2 2 t16_6 a1 fun t17_7 =>
 Fa 1 t17_7 fun t18_8 =>
 Ld t18_8 w_3 fun t19_9 =>
 Cnd t19_9 (
 R (.int .i64 28) w_3) (
 R (.int .i64 0) w_3)))
def S.stream_Pipe_opened.an : Ann := (.seq .leaf (.seq (.block (.seq .leaf (.cond (.seq .leaf .leaf) (.seq .leaf (.cond (.seq .leaf .leaf) (.seq .leaf (.cond (.seq .leaf .leaf) .leaf))))))) (.seq .leaf .leaf)))
theorem S.stream_Pipe_opened.eq (a0 a1 : Value) (w : World) (R : Value → World → Prop) : S.stream_Pipe_opened a0 a1 w R = fnC PP 20 (Tryd.f61.body.getD .skip) S.stream_Pipe_opened.an [.tmp 4] [a0, a1] w R := by kernel_rfl
theorem S.stream_Pipe_opened.calls {a0 a1 : Value} {w : World} {R : Value → World → Prop} (h : S.stream_Pipe_opened a0 a1 w R) : Ca PP Fn.stream_Pipe_opened #[a0, a1] w R :=
  fnC_calls mixed (f := Fn.stream_Pipe_opened) (an := S.stream_Pipe_opened.an) Tryd.func61 rfl (by show _ ≤ _; exact Nat.le_of_ble_eq_true rfl) (S.stream_Pipe_opened.eq a0 a1 w R ▸ h)
/-- (*acheron/stream.Pipe).check -/
def S.stream_Pipe_check (a0 a1 : Value) (w : World) (R : Value → World → Prop) : Prop :=
 Al Ty.stream_Op (a1 : Value).cells w fun t3_1 w_2 =>
 Rd PP (eqS .eql Ty.p_stream_Pipe (.tmp 6) (.const (.pointer none)) a0 (.pointer none)) w_2 fun t7_3 =>
 Cnd t7_3 (
 R (.int .i64 6) w_2) (
 Fa 0 t3_1 fun t8_4 =>
 Ld t8_4 w_2 fun t9_5 =>
 Bi .eql t9_5 (.int .i64 0) fun t10_6 =>
 ∀ J_7 : List Value → World → Prop, (∀ t11_10, ∀ w_9 : World, (∀ u_8 : Env,
 Cnd t11_10 (
 R (.int .i64 1) w_9) (
 ∀ J_11 : List Value → World → Prop, (∀ t29_14, ∀ w_13 : World, (∀ u_12 : Env,
 Cnd t29_14 (
 R (.int .i64 3) w_13) (
 ∀ J_15 : List Value → World → Prop, (∀ t38_18, ∀ w_17 : World, (∀ u_16 : Env,
 Cnd t38_18 (
 R (.int .i64 28) w_17) (
 R (.int .i64 0) w_17)) → J_15 [t38_18] w_17) →
 Dr w_13 fun w_19 =>
 Fa 1 t3_1 fun t40_20 =>
 Ld t40_20 w_19 fun t41_21 =>
 Nc a0 fun t42_22 =>
 Fa 0 t42_22 fun t43_23 =>
 IxP 2 2 t43_23 t41_21 fun t44_24 =>
 Fa 1 t44_24 fun t45_25 =>
 Ld t45_25 w_19 fun t46_26 =>
 Cnd t46_26 (
 J_15 [t46_26] w_19) (
 Dr w_19 fun w_27 =>
 Fa 1 t3_1 fun t48_28 =>
 Ld t48_28 w_27 fun t49_29 =>
 Bi .sub (.int .i64 1) t49_29 fun t50_30 =>
 Nc a0 fun t51_31 =>
 Fa 0 t51_31 fun t52_32 =>
 IxP 2 2 t52_32 t50_30 fun t53_33 =>
 Fa 1 t53_33 fun t54_34 =>
 Ld t54_34 w_27 fun t55_35 =>
 Gd t55_35 true (fun k_36 => k_36 t10_6 w_27) w_27 fun t57_37 w_38 =>
 Gd t55_35 true (fun k_39 => Un .not t57_37 fun t58_42 =>
 k_39 t58_42 w_38) w_38 fun t58_40 w_41 =>
 Gd t55_35 true (fun k_43 => k_43 t58_40 w_41) w_41 fun t59_44 w_45 =>
 Gd t59_44 false (fun k_46 => k_46 a0 w_45) w_45 fun t60_47 w_48 =>
 Gd t59_44 false (fun k_49 => LdA PP 4 t3_1 w_48 fun t61_52 =>
 k_49 t61_52 w_48) w_48 fun t61_50 w_51 =>
 Gd t59_44 false (fun k_53 => Ca PP Fn.stream_Pipe_ready #[t60_47, t61_50] w_51 fun t62_56 w_57 =>
 k_53 t62_56 w_57) w_51 fun t62_54 w_55 =>
 Gd t59_44 false (fun k_58 => Un .not t62_54 fun t63_61 =>
 k_58 t63_61 w_55) w_55 fun t63_59 w_60 =>
 Gd t55_35 true (fun k_62 => Pk t59_44 (.bool true) t63_59 fun t64_65 =>
 k_62 t64_65 w_60) w_60 fun t64_63 w_64 =>
 Pk t55_35 t64_63 (.bool false) fun t65_66 =>
 J_15 [t65_66] w_64))) → J_11 [t29_14] w_13) →
 Un .not t10_6 fun t31_67 =>
 Gd t31_67 true (fun k_68 => Fa 3 t3_1 fun t33_71 =>
 k_68 t33_71 w_9) w_9 fun t33_69 w_70 =>
 Gd t31_67 true (fun k_72 => Ld t33_69 w_70 fun t34_75 =>
 k_72 t34_75 w_70) w_70 fun t34_73 w_74 =>
 Gd t31_67 true (fun k_76 => LnS t34_73 fun t35_79 =>
 k_76 t35_79 w_74) w_74 fun t35_77 w_78 =>
 Gd t31_67 true (fun k_80 => Bi .gtr t35_77 (.int .i64 8192) fun t36_83 =>
 k_80 t36_83 w_78) w_78 fun t36_81 w_82 =>
 Pk t31_67 t36_81 (.bool false) fun t37_84 =>
 J_11 [t37_84] w_82)) → J_7 [t11_10] w_9) →
 ∀ J_85 : List Value → World → Prop, (∀ t11_88, ∀ w_87 : World, (∀ u_86 : Env,
 Cnd t11_88 (
 J_7 [t11_88] w_87) (
 Fa 1 t3_1 fun t19_89 =>
 Ld t19_89 w_87 fun t20_90 =>
 Ca PP Fn.stream_isEnd #[t20_90] w_87 fun t21_91 w_92 =>
 Un .not t21_91 fun t22_93 =>
 Cnd t22_93 (
 J_7 [t22_93] w_92) (
 Gd t10_6 true (fun k_94 => Fa 2 t3_1 fun t25_97 =>
 k_94 t25_97 w_92) w_92 fun t25_95 w_96 =>
 Gd t10_6 true (fun k_98 => Ld t25_95 w_96 fun t26_101 =>
 k_98 t26_101 w_96) w_96 fun t26_99 w_100 =>
 Gd t10_6 true (fun k_102 => Bi .lss t26_99 (.int .i64 0) fun t27_105 =>
 k_102 t27_105 w_100) w_100 fun t27_103 w_104 =>
 Pk t10_6 t27_103 (.bool false) fun t28_106 =>
 J_7 [t28_106] w_104))) → J_85 [t11_88] w_87) →
 Un .not t10_6 fun t13_107 =>
 Gd t13_107 true (fun k_108 => Fa 0 t3_1 fun t15_111 =>
 k_108 t15_111 w_2) w_2 fun t15_109 w_110 =>
 Gd t13_107 true (fun k_112 => Ld t15_109 w_110 fun t16_115 =>
 k_112 t16_115 w_110) w_110 fun t16_113 w_114 =>
 Gd t13_107 true (fun k_116 => Bi .neq t16_113 (.int .i64 1) fun t17_119 =>
 k_116 t17_119 w_114) w_114 fun t17_117 w_118 =>
 Pk t13_107 t17_117 (.bool false) fun t18_120 =>
 J_85 [t18_120] w_118)
def S.stream_Pipe_check.an : Ann := (.seq .leaf (.seq (.seq .leaf (.cond (.seq .leaf .leaf) .leaf)) (.seq .leaf (.seq (.block (.join (.join .leaf [11] [12, 13, 14, 15, 16, 17, 18] (.cond .leaf (.seq .leaf (.cond .leaf .leaf)))) [11] [12, 13, 14, 15, 16, 17, 18, 19, 20, 21, 22, 23, 24, 25, 26, 27, 28] (.cond (.seq .leaf .leaf) (.join .leaf [29] [30, 31, 32, 33, 34, 35, 36, 37] (.cond (.seq .leaf .leaf) (.join (.seq (.draw [[], [], [1], [0], [0, 3], [0, 1, 2, 3, 4], [0, 1, 2, 3, 4, 5], [0, 1, 2, 3, 4, 5, 6], [0, 1, 2, 3, 4, 5, 6, 7]] (.calm 0 (.calm 1 (.calm 2 (.calm 3 (.calm 4 (.calm 5 (.calm 6 (.calm 7 (.calm 8 .done)))))))))) (.cond .leaf (.draw [[], [], [1], [1, 2], [0], [0, 4], [0, 1, 2, 3, 4, 5], [0, 1, 2, 3, 4, 5, 6], [0, 1, 2, 3, 4, 5, 6, 7], [0, 1, 2, 3, 4, 5, 6, 7, 8], [0, 1, 2, 3, 4, 5, 6, 7, 8, 9], [0, 1, 2, 3, 4, 5, 6, 7, 8, 9, 10], [0, 1, 2, 3, 4, 5, 6, 7, 8, 9, 10, 11], [0, 1, 2, 3, 4, 5, 6, 7, 8, 9, 10, 11, 12], [0, 1, 2, 3, 4, 5, 6, 7, 8, 9, 10, 11, 12], [0, 1, 2, 3, 4, 5, 6, 7, 8, 9, 10, 11, 12, 13, 14], [0, 1, 2, 3, 4, 5, 6, 7, 8, 9, 10, 11, 12, 13, 14, 15], [0, 1, 2, 3, 4, 5, 6, 7, 8, 9, 10, 11, 12, 13, 14, 15, 16], [0, 1, 2, 3, 4, 5, 6, 7, 8, 9, 10, 11, 12, 13, 14, 15, 16, 17], [0, 1, 2, 3, 4, 5, 6, 7, 8, 9, 10, 11, 12, 13, 14, 15, 16, 17, 18]] (.calm 0 (.calm 1 (.calm 2 (.calm 3 (.calm 4 (.calm 5 (.calm 6 (.calm 7 (.calm 8 (.calm 9 (.calm 10 (.calm 11 (.calm 12 (.calm 13 (.calm 14 (.eff1 15 [] (.calm 16 (.calm 17 (.calm 18 (.calm 19 .done))))))))))))))))))))))) [38] [39, 40, 41, 42, 43, 44, 45, 46, 47, 48, 49, 50, 51, 52, 53, 54, 55, 56, 57, 58, 59, 60, 61, 62, 63, 64, 65] (.cond (.seq .leaf .leaf) .leaf))))))) (.seq .leaf .leaf)))))
theorem S.stream_Pipe_check.eq (a0 a1 : Value) (w : World) (R : Value → World → Prop) : S.stream_Pipe_check a0 a1 w R = fnC PP 66 (Tryd.f71.body.getD .skip) S.stream_Pipe_check.an [.tmp 4] [a0, a1] w R := by kernel_rfl
theorem S.stream_Pipe_check.calls {a0 a1 : Value} {w : World} {R : Value → World → Prop} (h : S.stream_Pipe_check a0 a1 w R) : Ca PP Fn.stream_Pipe_check #[a0, a1] w R :=
  fnC_calls mixed (f := Fn.stream_Pipe_check) (an := S.stream_Pipe_check.an) Tryd.func71 rfl (by show _ ≤ _; exact Nat.le_of_ble_eq_true rfl) (S.stream_Pipe_check.eq a0 a1 w R ▸ h)
/-- (*acheron/stream.Pipe).waits -/
def S.stream_Pipe_waits (a0 a1 : Value) (w : World) (R : Value → World → Prop) : Prop :=
 Al Ty.stream_Op (a1 : Value).cells w fun t3_1 w_2 =>
 ∀ J_3 : List Value → World → Prop, (∀ t4_6, ∀ w_5 : World, (∀ u_4 : Env,
 R t4_6 w_5) → J_3 [t4_6] w_5) →
 LdA PP 4 t3_1 w_2 fun t5_7 =>
 Ca PP Fn.stream_Op_empty #[t5_7] w_2 fun t6_8 w_9 =>
 Un .not t6_8 fun t7_10 =>
 Gd t7_10 true (fun k_11 => k_11 a0 w_9) w_9 fun t9_12 w_13 =>
 Gd t7_10 true (fun k_14 => LdA PP 4 t3_1 w_13 fun t10_17 =>
 k_14 t10_17 w_13) w_13 fun t10_15 w_16 =>
 Gd t7_10 true (fun k_18 => Ca PP Fn.stream_Pipe_like #[t9_12, t10_15] w_16 fun t11_21 w_22 =>
 k_18 t11_21 w_22) w_16 fun t11_19 w_20 =>
 Gd t7_10 true (fun k_23 => Bi .gtr t11_19 (.int .i64 0) fun t12_26 =>
 k_23 t12_26 w_20) w_20 fun t12_24 w_25 =>
 Gd t7_10 true (fun k_27 => k_27 t12_24 w_25) w_25 fun t13_28 w_29 =>
 Gd t13_28 false (fun k_30 => k_30 a0 w_29) w_29 fun t14_31 w_32 =>
 Gd t13_28 false (fun k_33 => LdA PP 4 t3_1 w_32 fun t15_36 =>
 k_33 t15_36 w_32) w_32 fun t15_34 w_35 =>
 Gd t13_28 false (fun k_37 => Ca PP Fn.stream_Pipe_ready #[t14_31, t15_34] w_35 fun t16_40 w_41 =>
 k_37 t16_40 w_41) w_35 fun t16_38 w_39 =>
 Gd t13_28 false (fun k_42 => Un .not t16_38 fun t17_45 =>
 k_42 t17_45 w_39) w_39 fun t17_43 w_44 =>
 Gd t7_10 true (fun k_46 => Pk t13_28 (.bool true) t17_43 fun t18_49 =>
 k_46 t18_49 w_44) w_44 fun t18_47 w_48 =>
 Pk t7_10 t18_47 (.bool false) fun t19_50 =>
 J_3 [t19_50] w_48
def S.stream_Pipe_waits.an : Ann := (.seq .leaf (.join .leaf [4] [5, 6, 7, 8, 9, 10, 11, 12, 13, 14, 15, 16, 17, 18, 19] .leaf))
theorem S.stream_Pipe_waits.eq (a0 a1 : Value) (w : World) (R : Value → World → Prop) : S.stream_Pipe_waits a0 a1 w R = fnC PP 20 (Tryd.f72.body.getD .skip) S.stream_Pipe_waits.an [.tmp 4] [a0, a1] w R := by kernel_rfl
theorem S.stream_Pipe_waits.calls {a0 a1 : Value} {w : World} {R : Value → World → Prop} (h : S.stream_Pipe_waits a0 a1 w R) : Ca PP Fn.stream_Pipe_waits #[a0, a1] w R :=
  fnC_calls mixed (f := Fn.stream_Pipe_waits) (an := S.stream_Pipe_waits.an) Tryd.func72 rfl (by show _ ≤ _; exact Nat.le_of_ble_eq_true rfl) (S.stream_Pipe_waits.eq a0 a1 w R ▸ h)
end Go.Proofs.YtdhieaifhlikpaaDoor
