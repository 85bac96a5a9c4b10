/- Own text. -/
import Derived.Test.YtnnhmahemklnkaaGreatDoorSc
namespace Go.Proofs.YtnnhmahemklnkaaGreatDoor
open Go Go.Sh
set_option linter.unusedVariables false
set_option maxRecDepth 100000
/-- acheron/acheronlaw28.TreeNil -/
def S.law28_TreeNil (a0 : Value) (w : World) (R : Value → World → Prop) : Prop :=
 Al Ty.law28_Act (a0 : Value).cells w fun t1_1 w_2 =>
 Ca PP Fn.law28_awake #[] w_2 fun t4_3 w_4 =>
 Un .not t4_3 fun t5_5 =>
 Cnd t5_5 (
 R (.bool false) w_4) (
 ∀ J_6 : List Value → World → Prop, (∀ t36_9, ∀ w_8 : World, (∀ u_7 : Env,
 Cnd t36_9 (
 R (.bool false) w_8) (
 ∀ J_10 : List Value → World → Prop, (∀ t2_13, ∀ w_12 : World, (∀ u_11 : Env,
 R t2_13 w_12) → J_10 [t2_13] w_12) →
 Fa 0 t1_1 fun t37_14 =>
 Ld t37_14 w_8 fun t38_15 =>
 Bi .lss t38_15 (.int .i64 0) fun t39_16 =>
 Gd t39_16 false (fun k_17 => Fa 0 t1_1 fun t41_20 =>
 k_17 t41_20 w_8) w_8 fun t41_18 w_19 =>
 Gd t39_16 false (fun k_21 => Ld t41_18 w_19 fun t42_24 =>
 k_21 t42_24 w_19) w_19 fun t42_22 w_23 =>
 Gd t39_16 false (fun k_25 => Bi .geq t42_22 (.int .i64 12) fun t43_28 =>
 k_25 t43_28 w_23) w_23 fun t43_26 w_27 =>
 Pk t39_16 (.bool true) t43_26 fun t44_29 =>
 Gd t44_29 false (fun k_30 => k_30 (.pointer none) w_27) w_27 fun t46_31 w_32 =>
 Gd t44_29 false (fun k_33 => LdA PP 20 t1_1 w_32 fun t47_36 =>
 k_33 t47_36 w_32) w_32 fun t47_34 w_35 =>
 Gd t44_29 false (fun k_37 => Ca PP Fn.law28_Do #[t46_31, t47_34] w_35 fun t48_40 w_41 =>
 k_37 t48_40 w_41) w_35 fun t48_38 w_39 =>
 Gd t44_29 false (fun k_42 => Bd #[.int .i64 0, .int .i64 0, .int .i64 0, .int .i64 0, .int .i64 0, .int .i64 0, .int .i64 0, .int .i64 0, .int .i64 0, .string ⟨#[]⟩, .string ⟨#[]⟩, .string ⟨#[]⟩, .string ⟨#[]⟩, .int .i64 0, .string ⟨#[]⟩, .slice none 0 0, .int .i64 0] [(0, 3), (3, 10), (13, 1), (14, 1), (15, 1), (16, 1)] [(5, (.int .i64 6))] fun t49_45 =>
 k_42 t49_45 w_39) w_39 fun t49_43 w_44 =>
 Gd t44_29 false (fun k_46 => Ca PP Fn.law28_Same #[t48_38, t49_43] w_44 fun t50_49 w_50 =>
 k_46 t50_49 w_50) w_44 fun t50_47 w_48 =>
 Pk t44_29 (.bool true) t50_47 fun t51_51 =>
 J_10 [t51_51] w_48)) → J_6 [t36_9] w_8) →
 Ca PP Fn.tree_Tree_Clock #[(.pointer none)] w_4 fun t7_52 w_53 =>
 Bi .neq t7_52 (.int .i64 0) fun t8_54 =>
 Gd t8_54 false (fun k_55 => k_55 (.pointer none) w_53) w_53 fun t10_56 w_57 =>
 Gd t8_54 false (fun k_58 => Ca PP Fn.tree_Tree_Files #[t10_56] w_57 fun t11_61 w_62 =>
 k_58 t11_61 w_62) w_57 fun t11_59 w_60 =>
 Gd t8_54 false (fun k_63 => LnL t11_59 fun t12_66 =>
 k_63 t12_66 w_60) w_60 fun t12_64 w_65 =>
 Gd t8_54 false (fun k_67 => Bi .gtr t12_64 (.int .i64 0) fun t13_70 =>
 k_67 t13_70 w_65) w_65 fun t13_68 w_69 =>
 Pk t8_54 (.bool true) t13_68 fun t14_71 =>
 Gd t14_71 false (fun k_72 => k_72 (.pointer none) w_69) w_69 fun t16_73 w_74 =>
 Gd t14_71 false (fun k_75 => Ca PP Fn.tree_Tree_Handles #[t16_73] w_74 fun t17_78 w_79 =>
 k_75 t17_78 w_79) w_74 fun t17_76 w_77 =>
 Gd t14_71 false (fun k_80 => LnL t17_76 fun t18_83 =>
 k_80 t18_83 w_77) w_77 fun t18_81 w_82 =>
 Gd t14_71 false (fun k_84 => Bi .gtr t18_81 (.int .i64 0) fun t19_87 =>
 k_84 t19_87 w_82) w_82 fun t19_85 w_86 =>
 Pk t14_71 (.bool true) t19_85 fun t20_88 =>
 Gd t20_88 false (fun k_89 => k_89 (.pointer none) w_86) w_86 fun t22_90 w_91 =>
 Gd t20_88 false (fun k_92 => Ca PP Fn.tree_Tree_Clone #[t22_90] w_91 fun t23_95 w_96 =>
 k_92 t23_95 w_96) w_91 fun t23_93 w_94 =>
 Gd t20_88 false (fun k_97 => Rd PP (eqS .neq Ty.p_tree_Tree (.tmp 23) (.const (.pointer none)) t23_93 (.pointer none)) w_94 fun t24_100 =>
 k_97 t24_100 w_94) w_94 fun t24_98 w_99 =>
 Pk t20_88 (.bool true) t24_98 fun t25_101 =>
 Gd t25_101 false (fun k_102 => k_102 (.pointer none) w_99) w_99 fun t27_103 w_104 =>
 Gd t25_101 false (fun k_105 => Ca PP Fn.tree_Tree_Next #[t27_103] w_104 fun t28_108 w_109 =>
 k_105 t28_108 w_109) w_104 fun t28_106 w_107 =>
 Gd t25_101 false (fun k_110 => Bi .neq t28_106 (.int .i64 0) fun t29_113 =>
 k_110 t29_113 w_107) w_107 fun t29_111 w_112 =>
 Pk t25_101 (.bool true) t29_111 fun t30_114 =>
 Gd t30_114 false (fun k_115 => k_115 (.pointer none) w_112) w_112 fun t32_116 w_117 =>
 Gd t30_114 false (fun k_118 => Ca PP Fn.tree_Tree_Root #[t32_116] w_117 fun t33_121 w_122 =>
 k_118 t33_121 w_122) w_117 fun t33_119 w_120 =>
 Gd t30_114 false (fun k_123 => Bd #[.int .i64 0, .int .i64 0, .int .i64 0] [(0, 1), (1, 1), (2, 1)] [] fun t34_126 =>
 k_123 t34_126 w_120) w_120 fun t34_124 w_125 =>
 Gd t30_114 false (fun k_127 => Rd PP (eqS .neq Ty.api_Qid (.tmp 33) (.tmp 34) t33_119 t34_124) w_125 fun t35_130 =>
 k_127 t35_130 w_125) w_125 fun t35_128 w_129 =>
 Pk t30_114 (.bool true) t35_128 fun t36_131 =>
 J_6 [t36_131] w_129)
def S.law28_TreeNil.an : Ann := (.seq .leaf (.seq (.seq .leaf (.cond (.seq .leaf .leaf) .leaf)) (.seq .leaf (.seq (.join .leaf [36] [6, 7, 8, 9, 10, 11, 12, 13, 14, 15, 16, 17, 18, 19, 20, 21, 22, 23, 24, 25, 26, 27, 28, 29, 30, 31, 32, 33, 34, 35] (.cond (.seq .leaf .leaf) .leaf)) (.join .leaf [2] [37, 38, 39, 40, 41, 42, 43, 44, 45, 46, 47, 48, 49, 50, 51] .leaf)))))
theorem S.law28_TreeNil.eq (a0 : Value) (w : World) (R : Value → World → Prop) : S.law28_TreeNil a0 w R = fnC PP 52 (Tryz.f10.body.getD .skip) S.law28_TreeNil.an [.tmp 2] [a0] w R := by kernel_rfl
theorem S.law28_TreeNil.calls {a0 : Value} {w : World} {R : Value → World → Prop} (h : S.law28_TreeNil a0 w R) : Ca PP Fn.law28_TreeNil #[a0] w R :=
  fnC_calls mixed (f := Fn.law28_TreeNil) (an := S.law28_TreeNil.an) Tryz.func10 rfl (by show _ ≤ _; exact Nat.le_of_ble_eq_true rfl) (S.law28_TreeNil.eq a0 w R ▸ h)
/-- acheron/acheronlaw28.awake -/
def S.law28_awake (w : World) (R : Value → World → Prop) : Prop :=
 Ca PP Fn.tree_New #[(.string ⟨#[97, 110, 110]⟩), (.slice none 0 0)] w fun t14_1 w_2 =>
 Ex t14_1 0 fun t15_3 =>
 Ex t14_1 1 fun t16_4 =>
 ∀ J_5 : List Value → World → Prop, (∀ t22_8, ∀ w_7 : World, (∀ u_6 : Env,
 Cnd t22_8 (
 R (.bool false) w_7) (
 Ca PP Fn.tree_Tree_Create #[t15_3, (.string ⟨#[97, 110, 110]⟩), (.int .i64 0), (.string ⟨#[102]⟩), (.int .i64 438), (.int .i64 2)] w_7 fun t25_9 w_10 =>
 Ex t25_9 0 fun t26_11 =>
 Ex t25_9 1 fun t27_12 =>
 Ex t25_9 2 fun t28_13 =>
 Al Ty.api_Qid #[.int .i64 0, .int .i64 0, .int .i64 0] w_10 fun t4_14 w_15 =>
 St PP 3 t4_14 t27_12 w_15 fun w_16 =>
 ∀ J_17 : List Value → World → Prop, (∀ t39_20, ∀ w_19 : World, (∀ u_18 : Env,
 Cnd t39_20 (
 R (.bool false) w_19) (
 Ca PP Fn.tree_Tree_Write #[t15_3, (.int .i64 1), (.int .i64 2), (.string ⟨#[97, 98]⟩)] w_19 fun t42_21 w_22 =>
 Ex t42_21 0 fun t43_23 =>
 Ex t42_21 1 fun t44_24 =>
 Ca PP Fn.tree_Tree_Read #[t15_3, (.int .i64 1), (.int .i64 0), (.int .i64 9)] w_22 fun t47_25 w_26 =>
 Ex t47_25 0 fun t48_27 =>
 Ex t47_25 1 fun t49_28 =>
 Ca PP Fn.tree_Tree_Stat #[t15_3, (.string ⟨#[98, 111, 98]⟩), (.int .i64 1)] w_26 fun t52_29 w_30 =>
 Ex t52_29 0 fun t53_31 =>
 Ex t52_29 1 fun t54_32 =>
 Al Ty.api_Dir #[.int .i64 0, .int .i64 0, .int .i64 0, .int .i64 0, .int .i64 0, .int .i64 0, .string ⟨#[]⟩, .string ⟨#[]⟩, .string ⟨#[]⟩, .string ⟨#[]⟩] w_30 fun t8_33 w_34 =>
 St PP 10 t8_33 t53_31 w_34 fun w_35 =>
 Ca PP Fn.tree_Tree_Open #[t15_3, (.string ⟨#[98, 111, 98]⟩), (.int .i64 1), (.int .i64 1)] w_35 fun t57_36 w_37 =>
 Ex t57_36 0 fun t58_38 =>
 Ex t57_36 1 fun t59_39 =>
 Ex t57_36 2 fun t60_40 =>
 Al Ty.api_Qid #[.int .i64 0, .int .i64 0, .int .i64 0] w_37 fun t11_41 w_42 =>
 St PP 3 t11_41 t59_39 w_42 fun w_43 =>
 ∀ J_44 : List Value → World → Prop, (∀ t0_47, ∀ w_46 : World, (∀ u_45 : Env,
 R t0_47 w_46) → J_44 [t0_47] w_46) →
 Bi .eql t43_23 (.int .i64 2) fun t62_48 =>
 Gd t62_48 true (fun k_49 => k_49 t44_24 w_43) w_43 fun t64_50 w_51 =>
 Gd t62_48 true (fun k_52 => Bi .eql t64_50 (.int .i64 0) fun t65_55 =>
 k_52 t65_55 w_51) w_51 fun t65_53 w_54 =>
 Pk t62_48 t65_53 (.bool false) fun t66_56 =>
 Gd t66_56 true (fun k_57 => k_57 t48_27 w_54) w_54 fun t68_58 w_59 =>
 Gd t66_56 true (fun k_60 => Bi .eql t68_58 (.string ⟨#[0, 0, 97, 98]⟩) fun t69_63 =>
 k_60 t69_63 w_59) w_59 fun t69_61 w_62 =>
 Pk t66_56 t69_61 (.bool false) fun t70_64 =>
 Gd t70_64 true (fun k_65 => k_65 t49_28 w_62) w_62 fun t72_66 w_67 =>
 Gd t70_64 true (fun k_68 => Bi .eql t72_66 (.int .i64 0) fun t73_71 =>
 k_68 t73_71 w_67) w_67 fun t73_69 w_70 =>
 Pk t70_64 t73_69 (.bool false) fun t74_72 =>
 Gd t74_72 true (fun k_73 => k_73 t54_32 w_70) w_70 fun t76_74 w_75 =>
 Gd t74_72 true (fun k_76 => Bi .eql t76_74 (.int .i64 0) fun t77_79 =>
 k_76 t77_79 w_75) w_75 fun t77_77 w_78 =>
 Pk t74_72 t77_77 (.bool false) fun t78_80 =>
 Gd t78_80 true (fun k_81 => Fa 3 t8_33 fun t80_84 =>
 k_81 t80_84 w_78) w_78 fun t80_82 w_83 =>
 Gd t78_80 true (fun k_85 => Ld t80_82 w_83 fun t81_88 =>
 k_85 t81_88 w_83) w_83 fun t81_86 w_87 =>
 Gd t78_80 true (fun k_89 => Bi .eql t81_86 (.int .i64 436) fun t82_92 =>
 k_89 t82_92 w_87) w_87 fun t82_90 w_91 =>
 Pk t78_80 t82_90 (.bool false) fun t83_93 =>
 Gd t83_93 true (fun k_94 => Fa 0 t8_33 fun t85_97 =>
 k_94 t85_97 w_91) w_91 fun t85_95 w_96 =>
 Gd t83_93 true (fun k_98 => Fa 1 t85_95 fun t86_101 =>
 k_98 t86_101 w_96) w_96 fun t86_99 w_100 =>
 Gd t83_93 true (fun k_102 => Ld t86_99 w_100 fun t87_105 =>
 k_102 t87_105 w_100) w_100 fun t87_103 w_104 =>
 Gd t83_93 true (fun k_106 => Bi .eql t87_103 (.int .i64 1) fun t88_109 =>
 k_106 t88_109 w_104) w_104 fun t88_107 w_108 =>
 Pk t83_93 t88_107 (.bool false) fun t89_110 =>
 Gd t89_110 true (fun k_111 => Fa 4 t8_33 fun t91_114 =>
 k_111 t91_114 w_108) w_108 fun t91_112 w_113 =>
 Gd t89_110 true (fun k_115 => Ld t91_112 w_113 fun t92_118 =>
 k_115 t92_118 w_113) w_113 fun t92_116 w_117 =>
 Gd t89_110 true (fun k_119 => Bi .eql t92_116 (.int .i64 2) fun t93_122 =>
 k_119 t93_122 w_117) w_117 fun t93_120 w_121 =>
 Pk t89_110 t93_120 (.bool false) fun t94_123 =>
 Gd t94_123 true (fun k_124 => k_124 t60_40 w_121) w_121 fun t96_125 w_126 =>
 Gd t94_123 true (fun k_127 => Bi .eql t96_125 (.int .i64 17) fun t97_130 =>
 k_127 t97_130 w_126) w_126 fun t97_128 w_129 =>
 Pk t94_123 t97_128 (.bool false) fun t98_131 =>
 Gd t98_131 true (fun k_132 => Ca PP Fn.tree_Clean #[(.string ⟨#[47, 97, 47, 47, 98, 47, 46, 47, 46, 46, 47, 99, 47, 46, 46]⟩)] w_129 fun t100_135 w_136 =>
 k_132 t100_135 w_136) w_129 fun t100_133 w_134 =>
 Gd t98_131 true (fun k_137 => Bi .eql t100_133 (.string ⟨#[47, 97]⟩) fun t101_140 =>
 k_137 t101_140 w_134) w_134 fun t101_138 w_139 =>
 Pk t98_131 t101_138 (.bool false) fun t102_141 =>
 J_44 [t102_141] w_139)) → J_17 [t39_20] w_19) →
 Bi .neq t26_11 (.int .i64 1) fun t30_142 =>
 Gd t30_142 false (fun k_143 => LdA PP 3 t4_14 w_16 fun t32_146 =>
 k_143 t32_146 w_16) w_16 fun t32_144 w_145 =>
 Gd t30_142 false (fun k_147 => Bd #[.int .i64 0, .int .i64 0, .int .i64 0] [(0, 1), (1, 1), (2, 1)] [(2, (.int .i64 1))] fun t33_150 =>
 k_147 t33_150 w_145) w_145 fun t33_148 w_149 =>
 Gd t30_142 false (fun k_151 => Rd PP (eqS .neq Ty.api_Qid (.tmp 32) (.tmp 33) t32_144 t33_148) w_149 fun t34_154 =>
 k_151 t34_154 w_149) w_149 fun t34_152 w_153 =>
 Pk t30_142 (.bool true) t34_152 fun t35_155 =>
 Gd t35_155 false (fun k_156 => k_156 t28_13 w_153) w_153 fun t37_157 w_158 =>
 Gd t35_155 false (fun k_159 => Bi .neq t37_157 (.int .i64 0) fun t38_162 =>
 k_159 t38_162 w_158) w_158 fun t38_160 w_161 =>
 Pk t35_155 (.bool true) t38_160 fun t39_163 =>
 J_17 [t39_163] w_161)) → J_5 [t22_8] w_7) →
 Bi .neq t16_4 (.int .i64 0) fun t18_164 =>
 Gd t18_164 false (fun k_165 => k_165 t15_3 w_2) w_2 fun t20_166 w_167 =>
 Gd t18_164 false (fun k_168 => Rd PP (eqS .eql Ty.p_tree_Tree (.tmp 20) (.const (.pointer none)) t20_166 (.pointer none)) w_167 fun t21_171 =>
 k_168 t21_171 w_167) w_167 fun t21_169 w_170 =>
 Pk t18_164 (.bool true) t21_169 fun t22_172 =>
 J_5 [t22_172] w_170
def S.law28_awake.an : Ann := (.seq .leaf (.seq .leaf (.seq (.join .leaf [22] [17, 18, 19, 20, 21] (.cond (.seq .leaf .leaf) .leaf)) (.seq .leaf (.seq (.join .leaf [39] [29, 30, 31, 32, 33, 34, 35, 36, 37, 38] (.cond (.seq .leaf .leaf) .leaf)) (.seq .leaf (.seq .leaf (.seq .leaf (.seq .leaf (.join .leaf [0] [61, 62, 63, 64, 65, 66, 67, 68, 69, 70, 71, 72, 73, 74, 75, 76, 77, 78, 79, 80, 81, 82, 83, 84, 85, 86, 87, 88, 89, 90, 91, 92, 93, 94, 95, 96, 97, 98, 99, 100, 101, 102] .leaf))))))))))
theorem S.law28_awake.eq (w : World) (R : Value → World → Prop) : S.law28_awake  w R = fnC PP 103 (Tryz.f12.body.getD .skip) S.law28_awake.an [.tmp 0] [] w R := by kernel_rfl
theorem S.law28_awake.calls {w : World} {R : Value → World → Prop} (h : S.law28_awake w R) : Ca PP Fn.law28_awake #[] w R :=
  fnC_calls mixed (f := Fn.law28_awake) (an := S.law28_awake.an) Tryz.func12 rfl (by show _ ≤ _; exact Nat.le_of_ble_eq_true rfl) (S.law28_awake.eq w R ▸ h)
/-- acheron/tree.Clean -/
def S.tree_Clean (a0 : Value) (w : World) (R : Value → World → Prop) : Prop :=
 Ca PP Fn.strings_HasPrefix #[a0, (.string ⟨#[47]⟩)] w fun t8_1 w_2 =>
 Al Ty.bool #[.bool false] w_2 fun t3_3 w_4 =>
 St PP 1 t3_3 t8_1 w_4 fun w_5 =>
 Al Ty.sl_string #[.slice none 0 0] w_5 fun t4_6 w_7 =>
 Ca PP Fn.strings_SplitSeq #[a0, (.string ⟨#[47]⟩)] w_7 fun t10_8 w_9 =>
 RFo PP t10_8 w_9 (RB.one fun r_10 L_11 t11_12 w_13 Rn_14 Re_15 Rr_16 =>
 Bgn r_10 L_11 w_13 fun w_17 =>
 ∀ J_18 : List Value → World → Prop, (∀ t12_21, ∀ w_20 : World, (∀ u_19 : Env,
 Cnd t12_21 (
 Rn_14 w_20) (
 Bi .neq t11_12 (.string ⟨#[46, 46]⟩) fun t21_22 =>
 Cnd t21_22 (
 Ld t4_6 w_20 fun t22_23 =>
 Ef PP (Instr.buildSlice Ty.sl_string 1 #[(0, t11_12)]) w_20 fun t24_24 w_25 =>
 Ef PP (Builtin.append_ #[Ty.sl_string, Ty.sl_string] Ty.sl_string #[t22_23, t24_24]) w_25 fun t25_26 w_27 =>
 St PP 1 t4_6 t25_26 w_27 fun w_28 =>
 Rn_14 w_28) (
 ∀ J_29 : List Value → World → Prop, (∀ t26_32, ∀ w_31 : World, (∀ u_30 : Env,
 Cnd t26_32 (
 Ld t4_6 w_31 fun t39_33 =>
 Ld t4_6 w_31 fun t40_34 =>
 LnL t40_34 fun t41_35 =>
 Bi .sub t41_35 (.int .i64 1) fun t42_36 =>
 Sl 1 t39_33 none (some t42_36) fun t43_37 =>
 St PP 1 t4_6 t43_37 w_31 fun w_38 =>
 Rn_14 w_38) (
 Ld t3_3 w_31 fun t45_39 =>
 Un .not t45_39 fun t46_40 =>
 Cnd t46_40 (
 Ld t4_6 w_31 fun t47_41 =>
 Ef PP (Instr.buildSlice Ty.sl_string 1 #[(0, t11_12)]) w_31 fun t49_42 w_43 =>
 Ef PP (Builtin.append_ #[Ty.sl_string, Ty.sl_string] Ty.sl_string #[t47_41, t49_42]) w_43 fun t50_44 w_45 =>
 St PP 1 t4_6 t50_44 w_45 fun w_46 =>
 Rn_14 w_46) (
 Rn_14 w_31))) → J_29 [t26_32] w_31) →
 Ld t4_6 w_20 fun t27_47 =>
 LnL t27_47 fun t28_48 =>
 Bi .gtr t28_48 (.int .i64 0) fun t29_49 =>
 Gd t29_49 true (fun k_50 => Ld t4_6 w_20 fun t31_53 =>
 k_50 t31_53 w_20) w_20 fun t31_51 w_52 =>
 Gd t29_49 true (fun k_54 => Ld t4_6 w_52 fun t32_57 =>
 k_54 t32_57 w_52) w_52 fun t32_55 w_56 =>
 Gd t29_49 true (fun k_58 => LnL t32_55 fun t33_61 =>
 k_58 t33_61 w_56) w_56 fun t33_59 w_60 =>
 Gd t29_49 true (fun k_62 => Bi .sub t33_59 (.int .i64 1) fun t34_65 =>
 k_62 t34_65 w_60) w_60 fun t34_63 w_64 =>
 Gd t29_49 true (fun k_66 => IxA 1 t31_51 t34_63 fun t35_69 =>
 k_66 t35_69 w_64) w_64 fun t35_67 w_68 =>
 Gd t29_49 true (fun k_70 => Ld t35_67 w_68 fun t36_73 =>
 k_70 t36_73 w_68) w_68 fun t36_71 w_72 =>
 Gd t29_49 true (fun k_74 => Bi .neq t36_71 (.string ⟨#[46, 46]⟩) fun t37_77 =>
 k_74 t37_77 w_72) w_72 fun t37_75 w_76 =>
 Pk t29_49 t37_75 (.bool false) fun t38_78 =>
 J_29 [t38_78] w_76))) → J_18 [t12_21] w_20) →
 Bi .eql t11_12 (.string ⟨#[]⟩) fun t14_79 =>
 Gd t14_79 false (fun k_80 => k_80 t11_12 w_17) w_17 fun t16_81 w_82 =>
 Gd t14_79 false (fun k_83 => Bi .eql t16_81 (.string ⟨#[46]⟩) fun t17_86 =>
 k_83 t17_86 w_82) w_82 fun t17_84 w_85 =>
 Pk t14_79 (.bool true) t17_84 fun t18_87 =>
 J_18 [t18_87] w_85) (fun D_88 w_89 =>
 Ld t4_6 w_89 fun t51_90 =>
 Ca PP Fn.strings_Join #[t51_90, (.string ⟨#[47]⟩)] w_89 fun t52_91 w_92 =>
 Ld t3_3 w_92 fun t54_93 =>
 Cnd t54_93 (
 Bi .add (.string ⟨#[47]⟩) t52_91 fun t56_94 =>
 Lvs PP (.mark D_88 :: []) w_92 fun w_95 =>
 R t56_94 w_95) (
 Bi .eql t52_91 (.string ⟨#[]⟩) fun t59_96 =>
 Cnd t59_96 (
 Lvs PP (.mark D_88 :: []) w_92 fun w_97 =>
 R (.string ⟨#[46]⟩) w_97) (
 Lvs PP (.mark D_88 :: []) w_92 fun w_98 =>
 R t52_91 w_98))) [] (fun D_99 w_100 =>
 Lvs PP (.mark D_99 :: []) w_100 fun w_101 =>
 R (.string ⟨#[]⟩) w_101)
def S.tree_Clean.an : Ann := (.seq .leaf (.seq .leaf (.seq .leaf (.seq (.seq .leaf (.block (.rf .leaf (.block (.block (.join .leaf [12] [13, 14, 15, 16, 17, 18] (.cond .leaf (.seq .leaf (.cond .leaf (.join .leaf [26] [27, 28, 29, 30, 31, 32, 33, 34, 35, 36, 37, 38] (.cond .leaf (.seq .leaf (.cond .leaf .leaf)))))))))) []))) (.seq .leaf (.seq (.block (.seq .leaf (.cond (.seq .leaf .leaf) (.seq .leaf (.cond (.seq .leaf .leaf) .leaf))))) (.seq .leaf .leaf)))))))
theorem S.tree_Clean.eq (a0 : Value) (w : World) (R : Value → World → Prop) : S.tree_Clean a0 w R = fnC PP 61 (Tryz.f14.body.getD .skip) S.tree_Clean.an [.tmp 2] [a0] w R := by kernel_rfl
theorem S.tree_Clean.calls {a0 : Value} {w : World} {R : Value → World → Prop} (h : S.tree_Clean a0 w R) : Ca PP Fn.tree_Clean #[a0] w R :=
  fnC_calls mixed (f := Fn.tree_Clean) (an := S.tree_Clean.an) Tryz.func14 rfl (by show _ ≤ _; exact Nat.le_of_ble_eq_true rfl) (S.tree_Clean.eq a0 w R ▸ h)
/-- (*acheron/tree.Tree).Find -/
def S.tree_Tree_Find (a0 a1 : Value) (w : World) (R : Value → World → Prop) : Prop :=
 Al Ty.api_Qid #[.int .i64 0, .int .i64 0, .int .i64 0] w fun t4_1 w_2 =>
 Rd PP (eqS .eql Ty.p_tree_Tree (.tmp 11) (.const (.pointer none)) a0 (.pointer none)) w_2 fun t12_3 =>
 Cnd t12_3 (
 Bd #[.int .i64 0, .int .i64 0, .int .i64 0] [(0, 1), (1, 1), (2, 1)] [] fun t13_4 =>
 St PP 3 t4_1 t13_4 w_2 fun w_5 =>
 LdA PP 3 t4_1 w_5 fun t4_6 =>
 R (.tuple #[t4_6, (.int .i64 6)]) w_5) (
 ∀ J_7 : List Value → World → Prop, (∀ t20_10, ∀ w_9 : World, (∀ u_8 : Env,
 Cnd t20_10 (
 Bd #[.int .i64 0, .int .i64 0, .int .i64 0] [(0, 1), (1, 1), (2, 1)] [] fun t21_11 =>
 St PP 3 t4_1 t21_11 w_9 fun w_12 =>
 LdA PP 3 t4_1 w_12 fun t4_13 =>
 R (.tuple #[t4_13, (.int .i64 1)]) w_12) (
 Ca PP Fn.tree_Split #[a1] w_9 fun t24_14 w_15 =>
 Ex t24_14 0 fun t25_16 =>
 Ex t24_14 1 fun t26_17 =>
 Bi .neq t26_17 (.int .i64 0) fun t28_18 =>
 Cnd t28_18 (
 Bd #[.int .i64 0, .int .i64 0, .int .i64 0] [(0, 1), (1, 1), (2, 1)] [] fun t29_19 =>
 St PP 3 t4_1 t29_19 w_15 fun w_20 =>
 LdA PP 3 t4_1 w_20 fun t4_21 =>
 R (.tuple #[t4_21, t26_17]) w_20) (
 Nc a0 fun t32_22 =>
 Fa 0 t32_22 fun t33_23 =>
 Ld t33_23 w_15 fun t34_24 =>
 LnL t25_16 fun t36_25 =>
 ∃ (I_26 : List Value → World → Prop) (m_27 : List Value → World → Nat), I_26 [t34_24, (.int .i64 0)] w_15 ∧ ∀ t8_30 t37_31, ∀ (u_28 : Env) (w_29 : World), I_26 [t8_30, t37_31] w_29 →
 Bi .lss t37_31 t36_25 fun t38_32 =>
 Cnd t38_32 (
 IxA 1 t25_16 t37_31 fun t39_33 =>
 Ld t39_33 w_29 fun t40_34 =>
 Ca PP Fn.tree_node_isDir #[t8_30] w_29 fun t42_35 w_36 =>
 Un .not t42_35 fun t43_37 =>
 Cnd t43_37 (
 Bd #[.int .i64 0, .int .i64 0, .int .i64 0] [(0, 1), (1, 1), (2, 1)] [] fun t44_38 =>
 St PP 3 t4_1 t44_38 w_36 fun w_39 =>
 LdA PP 3 t4_1 w_39 fun t4_40 =>
 R (.tuple #[t4_40, (.int .i64 18)]) w_39) (
 Nc t8_30 fun t46_41 =>
 Fa 11 t46_41 fun t47_42 =>
 Ld t47_42 w_36 fun t48_43 =>
 Rd PP (Instr.lookup Ty.map_string_p_tree_node t48_43 t40_34 false) w_36 fun t50_44 =>
 Rd PP (eqS .eql Ty.p_tree_node (.tmp 51) (.const (.pointer none)) t50_44 (.pointer none)) w_36 fun t52_45 =>
 Cnd t52_45 (
 Bd #[.int .i64 0, .int .i64 0, .int .i64 0] [(0, 1), (1, 1), (2, 1)] [] fun t53_46 =>
 St PP 3 t4_1 t53_46 w_36 fun w_47 =>
 LdA PP 3 t4_1 w_47 fun t4_48 =>
 R (.tuple #[t4_48, (.int .i64 4)]) w_47) (
 Bi .add t37_31 (.int .i64 1) fun t54_49 =>
 I_26 [t50_44, t54_49] w_36 ∧ m_27 [t50_44, t54_49] w_36 < m_27 [t8_30, t37_31] w_29))) (
 Nc t8_30 fun t56_50 =>
 Fa 0 t56_50 fun t57_51 =>
 Fa 0 t57_51 fun t58_52 =>
 LdA PP 3 t58_52 w_29 fun t59_53 =>
 St PP 3 t4_1 t59_53 w_29 fun w_54 =>
 LdA PP 3 t4_1 w_54 fun t4_55 =>
 R (.tuple #[t4_55, (.int .i64 0)]) w_54)))) → J_7 [t20_10] w_9) →
 Bi .eql a1 (.string ⟨#[]⟩) fun t15_56 =>
 Gd t15_56 false (fun k_57 => k_57 a1 w_2) w_2 fun t17_58 w_59 =>
 Gd t15_56 false (fun k_60 => IxS t17_58 (.int .i64 0) fun t18_63 =>
 k_60 t18_63 w_59) w_59 fun t18_61 w_62 =>
 Gd t15_56 false (fun k_64 => Bi .neq t18_61 (.int .u8 47) fun t19_67 =>
 k_64 t19_67 w_62) w_62 fun t19_65 w_66 =>
 Pk t15_56 (.bool true) t19_65 fun t20_68 =>
 J_7 [t20_68] w_66)
def S.tree_Tree_Find.an : Ann := (.seq .leaf (.seq (.seq .leaf (.cond (.seq .leaf .leaf) .leaf)) (.seq (.join .leaf [20] [14, 15, 16, 17, 18, 19] (.cond (.seq .leaf .leaf) .leaf)) (.seq .leaf (.seq (.seq .leaf (.cond (.seq .leaf .leaf) .leaf)) (.seq .leaf (.seq (.seq .leaf (.block (.loop (.seq .leaf (.seq (.cond .leaf .leaf) (.seq (.block (.seq .leaf (.seq (.seq .leaf (.cond (.seq .leaf .leaf) .leaf)) (.seq .leaf (.seq .leaf (.cond (.seq .leaf .leaf) .leaf)))))) .leaf))) [8, 37] [5, 10, 38, 39, 40, 41, 42, 43, 44, 45, 46, 47, 48, 49, 50, 51, 52, 53, 54]))) (.seq .leaf .leaf))))))))
theorem S.tree_Tree_Find.eq (a0 a1 : Value) (w : World) (R : Value → World → Prop) : S.tree_Tree_Find a0 a1 w R = fnC PP 60 (Tryz.f20.body.getD .skip) S.tree_Tree_Find.an [.cell 4 37, .tmp 5] [a0, a1] w R := by kernel_rfl
theorem S.tree_Tree_Find.calls {a0 a1 : Value} {w : World} {R : Value → World → Prop} (h : S.tree_Tree_Find a0 a1 w R) : Ca PP Fn.tree_Tree_Find #[a0, a1] w R :=
  fnC_calls mixed (f := Fn.tree_Tree_Find) (an := S.tree_Tree_Find.an) Tryz.func20 rfl (by show _ ≤ _; exact Nat.le_of_ble_eq_true rfl) (S.tree_Tree_Find.eq a0 a1 w R ▸ h)
/-- acheron/tree.New -/
def S.tree_New (a0 a1 : Value) (w : World) (R : Value → World → Prop) : Prop :=
 Ef PP (Instr.buildSlice Ty.sl_string 1 #[(0, a0)]) w fun t10_1 w_2 =>
 Ca PP Fn.tree_check #[a1, t10_1] w_2 fun t11_3 w_4 =>
 Bi .neq t11_3 (.int .i64 0) fun t13_5 =>
 Cnd t13_5 (
 R (.tuple #[(.pointer none), t11_3]) w_4) (
 Ca PP Fn.tree_empty #[a1] w_4 fun t16_6 w_7 =>
 MkM w_7 fun t18_8 w_9 =>
 Bd #[.int .i64 0, .int .i64 0, .int .i64 0, .int .i64 0, .int .i64 0, .int .i64 0, .string ⟨#[]⟩, .string ⟨#[]⟩, .string ⟨#[]⟩, .string ⟨#[]⟩, .slice none 0 0, .map none, .pointer none, .bool false] [(0, 10), (10, 1), (11, 1), (12, 1), (13, 1)] [(2, t18_8)] fun t19_10 =>
 Al Ty.tree_node (t19_10 : Value).cells w_9 fun t20_11 w_12 =>
 Nc t16_6 fun t21_13 =>
 Fa 0 t21_13 fun t22_14 =>
 St PP 1 t22_14 t20_11 w_12 fun w_15 =>
 Nc t16_6 fun t24_16 =>
 Fa 0 t24_16 fun t25_17 =>
 Ld t25_17 w_15 fun t26_18 =>
 Bd #[.int .i64 0, .int .i64 0, .int .i64 0, .int .i64 0, .int .i64 0, .int .i64 0, .string ⟨#[]⟩, .string ⟨#[]⟩, .string ⟨#[]⟩, .string ⟨#[]⟩] [(0, 3), (3, 1), (4, 1), (5, 1), (6, 1), (7, 1), (8, 1), (9, 1)] [(5, a0), (6, a0), (7, a0)] fun t30_19 =>
 Nc t26_18 fun t31_20 =>
 Fa 0 t31_20 fun t32_21 =>
 St PP 10 t32_21 t30_19 w_15 fun w_22 =>
 Nc t16_6 fun t34_23 =>
 Fa 0 t34_23 fun t35_24 =>
 Ld t35_24 w_22 fun t36_25 =>
 Ca PP Fn.tree_node_is #[t36_25, (.int .i64 2147484157)] w_22 fun t37_26 w_27 =>
 Dr w_27 fun w_28 =>
 Nc t16_6 fun t39_29 =>
 Fa 1 t39_29 fun t40_30 =>
 Ld t40_30 w_28 fun t41_31 =>
 Nc t16_6 fun t43_32 =>
 Fa 0 t43_32 fun t44_33 =>
 Ld t44_33 w_28 fun t45_34 =>
 Ef PP (Instr.mapUpdate Ty.map_int64_p_tree_node t41_31 (.int .i64 0) t45_34) w_28 fun _ w_35 =>
 R (.tuple #[t16_6, (.int .i64 0)]) w_35)
def S.tree_New.an : Ann := (.seq .leaf (.seq (.seq .leaf (.seq .leaf (.cond (.seq .leaf .leaf) .leaf))) (.seq .leaf (.seq .leaf (.seq .leaf (.seq .leaf (.seq (.draw [[], [0], [0, 1], [0, 1, 2], [], [4], [4, 5], [4, 5, 6], [0, 1, 2, 3, 4, 5, 6, 7]] (.calm 0 (.calm 1 (.calm 2 (.calm 3 (.calm 4 (.calm 5 (.calm 6 (.calm 7 (.eff1 8 [] .done)))))))))) (.seq .leaf .leaf))))))))
theorem S.tree_New.eq (a0 a1 : Value) (w : World) (R : Value → World → Prop) : S.tree_New a0 a1 w R = fnC PP 47 (Tryz.f21.body.getD .skip) S.tree_New.an [.tmp 4, .tmp 5] [a0, a1] w R := by kernel_rfl
theorem S.tree_New.calls {a0 a1 : Value} {w : World} {R : Value → World → Prop} (h : S.tree_New a0 a1 w R) : Ca PP Fn.tree_New #[a0, a1] w R :=
  fnC_calls mixed (f := Fn.tree_New) (an := S.tree_New.an) Tryz.func21 rfl (by show _ ≤ _; exact Nat.le_of_ble_eq_true rfl) (S.tree_New.eq a0 a1 w R ▸ h)
/-- (*acheron/tree.Tree).Create -/
def S.tree_Tree_Create (a0 a1 a2 a3 a4 a5 : Value) (w : World) (R : Value → World → Prop) : Prop :=
 Al Ty.api_Qid #[.int .i64 0, .int .i64 0, .int .i64 0] w fun t13_1 w_2 =>
 Rd PP (eqS .eql Ty.p_tree_Tree (.tmp 19) (.const (.pointer none)) a0 (.pointer none)) w_2 fun t20_3 =>
 Cnd t20_3 (
 Bd #[.int .i64 0, .int .i64 0, .int .i64 0] [(0, 1), (1, 1), (2, 1)] [] fun t21_4 =>
 St PP 3 t13_1 t21_4 w_2 fun w_5 =>
 LdA PP 3 t13_1 w_5 fun t13_6 =>
 R (.tuple #[(.int .i64 0), t13_6, (.int .i64 6)]) w_5) (
 ∀ J_7 : List Value → World → Prop, (∀ t38_10, ∀ w_9 : World, (∀ u_8 : Env,
 Cnd t38_10 (
 Bd #[.int .i64 0, .int .i64 0, .int .i64 0] [(0, 1), (1, 1), (2, 1)] [] fun t39_11 =>
 St PP 3 t13_1 t39_11 w_9 fun w_12 =>
 LdA PP 3 t13_1 w_12 fun t13_13 =>
 R (.tuple #[(.int .i64 0), t13_13, (.int .i64 20)]) w_12) (
 Ca PP Fn.tree_Tree_folder #[a0, a2] w_9 fun t43_14 w_15 =>
 Ex t43_14 0 fun t44_16 =>
 Ex t43_14 1 fun t45_17 =>
 Bi .neq t45_17 (.int .i64 0) fun t48_18 =>
 Cnd t48_18 (
 Bd #[.int .i64 0, .int .i64 0, .int .i64 0] [(0, 1), (1, 1), (2, 1)] [] fun t49_19 =>
 St PP 3 t13_1 t49_19 w_15 fun w_20 =>
 LdA PP 3 t13_1 w_20 fun t13_21 =>
 R (.tuple #[(.int .i64 0), t13_21, t45_17]) w_20) (
 ∀ J_22 : List Value → World → Prop, (∀ t51_25, ∀ w_24 : World, (∀ u_23 : Env,
 Cnd t51_25 (
 Bd #[.int .i64 0, .int .i64 0, .int .i64 0] [(0, 1), (1, 1), (2, 1)] [] fun t60_26 =>
 St PP 3 t13_1 t60_26 w_24 fun w_27 =>
 LdA PP 3 t13_1 w_27 fun t13_28 =>
 R (.tuple #[(.int .i64 0), t13_28, (.int .i64 8)]) w_27) (
 Ca PP Fn.tree_Tree_may #[a0, a1, t44_16, (.int .i64 2)] w_24 fun t65_29 w_30 =>
 Un .not t65_29 fun t66_31 =>
 Cnd t66_31 (
 Bd #[.int .i64 0, .int .i64 0, .int .i64 0] [(0, 1), (1, 1), (2, 1)] [] fun t67_32 =>
 St PP 3 t13_1 t67_32 w_30 fun w_33 =>
 LdA PP 3 t13_1 w_33 fun t13_34 =>
 R (.tuple #[(.int .i64 0), t13_34, (.int .i64 17)]) w_33) (
 Nc t44_16 fun t70_35 =>
 Fa 11 t70_35 fun t71_36 =>
 Ld t71_36 w_30 fun t72_37 =>
 Rd PP (Instr.lookup Ty.map_string_p_tree_node t72_37 a3 false) w_30 fun t74_38 =>
 Rd PP (eqS .neq Ty.p_tree_node (.tmp 74) (.const (.pointer none)) t74_38 (.pointer none)) w_30 fun t75_39 =>
 Cnd t75_39 (
 Bd #[.int .i64 0, .int .i64 0, .int .i64 0] [(0, 1), (1, 1), (2, 1)] [] fun t76_40 =>
 St PP 3 t13_1 t76_40 w_30 fun w_41 =>
 LdA PP 3 t13_1 w_41 fun t13_42 =>
 R (.tuple #[(.int .i64 0), t13_42, (.int .i64 5)]) w_41) (
 ∀ J_43 : List Value → World → Prop, (∀ t77_46, ∀ w_45 : World, (∀ u_44 : Env,
 Cnd t77_46 (
 Bd #[.int .i64 0, .int .i64 0, .int .i64 0] [(0, 1), (1, 1), (2, 1)] [] fun t89_47 =>
 St PP 3 t13_1 t89_47 w_45 fun w_48 =>
 LdA PP 3 t13_1 w_48 fun t13_49 =>
 R (.tuple #[(.int .i64 0), t13_49, (.int .i64 3)]) w_48) (
 Ef PP (Instr.buildSlice Ty.sl_p_tree_node 1 #[(0, t44_16)]) w_45 fun t93_50 w_51 =>
 Ca PP Fn.tree_Tree_change #[a0, a1, t93_50] w_51 fun t94_52 w_53 =>
 Bd #[.int .i64 0, .int .i64 0, .int .i64 0, .int .i64 0, .int .i64 0, .int .i64 0, .string ⟨#[]⟩, .string ⟨#[]⟩, .string ⟨#[]⟩, .string ⟨#[]⟩, .slice none 0 0, .map none, .pointer none, .bool false] [(0, 10), (10, 1), (11, 1), (12, 1), (13, 1)] [(3, t44_16)] fun t96_54 =>
 Al Ty.tree_node (t96_54 : Value).cells w_53 fun t97_55 w_56 =>
 Dr w_56 fun w_57 =>
 Nc a0 fun t100_58 =>
 Fa 3 t100_58 fun t101_59 =>
 Ld t101_59 w_57 fun t102_60 =>
 Bd #[.int .i64 0, .int .i64 0, .int .i64 0] [(0, 1), (1, 1), (2, 1)] [(2, t102_60)] fun t103_61 =>
 Nc a0 fun t105_62 =>
 Fa 4 t105_62 fun t106_63 =>
 Ld t106_63 w_57 fun t107_64 =>
 Nc t44_16 fun t111_65 =>
 Fa 0 t111_65 fun t112_66 =>
 Fa 8 t112_66 fun t113_67 =>
 Ld t113_67 w_57 fun t114_68 =>
 Bd #[.int .i64 0, .int .i64 0, .int .i64 0, .int .i64 0, .int .i64 0, .int .i64 0, .string ⟨#[]⟩, .string ⟨#[]⟩, .string ⟨#[]⟩, .string ⟨#[]⟩] [(0, 3), (3, 1), (4, 1), (5, 1), (6, 1), (7, 1), (8, 1), (9, 1)] [(0, t103_61), (2, t107_64), (4, a3), (5, a1), (6, t114_68), (7, a1)] fun t116_69 =>
 Nc t97_55 fun t117_70 =>
 Fa 0 t117_70 fun t118_71 =>
 St PP 10 t118_71 t116_69 w_57 fun w_72 =>
 ∀ J_73 : List Value → World → Prop, (∀ t18_76, ∀ w_75 : World, (∀ u_74 : Env,
 Un .xor t18_76 fun t129_77 =>
 Nc t44_16 fun t131_78 =>
 Fa 0 t131_78 fun t132_79 =>
 Fa 3 t132_79 fun t133_80 =>
 Ld t133_80 w_75 fun t134_81 =>
 Bi .and t134_81 t18_76 fun t136_82 =>
 Bi .or t129_77 t136_82 fun t137_83 =>
 Bi .and a4 t137_83 fun t138_84 =>
 Ca PP Fn.tree_node_is #[t97_55, t138_84] w_75 fun t139_85 w_86 =>
 Dr w_86 fun w_87 =>
 Nc a0 fun t141_88 =>
 Fa 1 t141_88 fun t142_89 =>
 Ld t142_89 w_87 fun t143_90 =>
 Nc a0 fun t145_91 =>
 Fa 3 t145_91 fun t146_92 =>
 Ld t146_92 w_87 fun t147_93 =>
 Ef PP (Instr.mapUpdate Ty.map_int64_p_tree_node t143_90 t147_93 t97_55) w_87 fun _ w_94 =>
 Nc t44_16 fun t150_95 =>
 Fa 11 t150_95 fun t151_96 =>
 Ld t151_96 w_94 fun t152_97 =>
 Ef PP (Instr.mapUpdate Ty.map_string_p_tree_node t152_97 a3 t97_55) w_94 fun _ w_98 =>
 Nc a0 fun t156_99 =>
 Fa 3 t156_99 fun t157_100 =>
 Ld t157_100 w_98 fun t158_101 =>
 Bi .add t158_101 (.int .i64 1) fun t159_102 =>
 Nc a0 fun t160_103 =>
 Fa 3 t160_103 fun t161_104 =>
 St PP 1 t161_104 t159_102 w_98 fun w_105 =>
 Ca PP Fn.tree_Tree_handle #[a0, t97_55, a5, a1] w_105 fun t166_106 w_107 =>
 Ex t166_106 0 fun t167_108 =>
 Ex t166_106 1 fun t168_109 =>
 Ex t166_106 2 fun t169_110 =>
 St PP 3 t13_1 t168_109 w_107 fun w_111 =>
 LdA PP 3 t13_1 w_111 fun t13_112 =>
 R (.tuple #[t167_108, t13_112, t169_110]) w_111) → J_73 [t18_76] w_75) →
 Bi .and a4 (.int .i64 2147483648) fun t120_113 =>
 Bi .neq t120_113 (.int .i64 0) fun t121_114 =>
 Cnd t121_114 (
 MkM w_72 fun t123_115 w_116 =>
 Nc t97_55 fun t124_117 =>
 Fa 11 t124_117 fun t125_118 =>
 St PP 1 t125_118 t123_115 w_116 fun w_119 =>
 J_73 [(.int .i64 511)] w_119) (
 J_73 [(.int .i64 438)] w_72))) → J_43 [t77_46] w_45) →
 Nc a0 fun t79_120 =>
 Fa 1 t79_120 fun t80_121 =>
 Ld t80_121 w_30 fun t81_122 =>
 Rd PP (Builtin.len_ #[Ty.map_int64_p_tree_node] Ty.int #[t81_122]) w_30 fun t82_123 =>
 Bi .geq t82_123 (.int .i64 1024) fun t83_124 =>
 Gd t83_124 false (fun k_125 => k_125 a0 w_30) w_30 fun t85_126 w_127 =>
 Gd t83_124 false (fun k_128 => Ca PP Fn.tree_Tree_room #[t85_126] w_127 fun t86_131 w_132 =>
 k_128 t86_131 w_132) w_127 fun t86_129 w_130 =>
 Gd t83_124 false (fun k_133 => Un .not t86_129 fun t87_136 =>
 k_133 t87_136 w_130) w_130 fun t87_134 w_135 =>
 Pk t83_124 (.bool true) t87_134 fun t88_137 =>
 J_43 [t88_137] w_135)))) → J_22 [t51_25] w_24) →
 Ca PP Fn.tree_Valid #[a3] w_15 fun t53_138 w_139 =>
 Un .not t53_138 fun t54_140 =>
 Gd t54_140 false (fun k_141 => k_141 a1 w_139) w_139 fun t56_142 w_143 =>
 Gd t54_140 false (fun k_144 => Ca PP Fn.tree_Valid #[t56_142] w_143 fun t57_147 w_148 =>
 k_144 t57_147 w_148) w_143 fun t57_145 w_146 =>
 Gd t54_140 false (fun k_149 => Un .not t57_145 fun t58_152 =>
 k_149 t58_152 w_146) w_146 fun t58_150 w_151 =>
 Pk t54_140 (.bool true) t58_150 fun t59_153 =>
 J_22 [t59_153] w_151))) → J_7 [t38_10] w_9) →
 Bi .andNot a5 (.int .i64 83) fun t23_154 =>
 Bi .neq t23_154 (.int .i64 0) fun t24_155 =>
 Gd t24_155 false (fun k_156 => k_156 a4 w_2) w_2 fun t26_157 w_158 =>
 Gd t24_155 false (fun k_159 => Ca PP Fn.tree_right #[t26_157] w_158 fun t27_162 w_163 =>
 k_159 t27_162 w_163) w_158 fun t27_160 w_161 =>
 Gd t24_155 false (fun k_164 => Un .not t27_160 fun t28_167 =>
 k_164 t28_167 w_161) w_161 fun t28_165 w_166 =>
 Pk t24_155 (.bool true) t28_165 fun t29_168 =>
 Gd t29_168 false (fun k_169 => k_169 a4 w_166) w_166 fun t31_170 w_171 =>
 Gd t29_168 false (fun k_172 => Bi .and t31_170 (.int .i64 2147483648) fun t32_175 =>
 k_172 t32_175 w_171) w_171 fun t32_173 w_174 =>
 Gd t29_168 false (fun k_176 => Bi .neq t32_173 (.int .i64 0) fun t33_179 =>
 k_176 t33_179 w_174) w_174 fun t33_177 w_178 =>
 Gd t29_168 false (fun k_180 => k_180 t33_177 w_178) w_178 fun t34_181 w_182 =>
 Gd t34_181 true (fun k_183 => k_183 a5 w_182) w_182 fun t35_184 w_185 =>
 Gd t34_181 true (fun k_186 => Bi .neq t35_184 (.int .i64 0) fun t36_189 =>
 k_186 t36_189 w_185) w_185 fun t36_187 w_188 =>
 Gd t29_168 false (fun k_190 => Pk t34_181 t36_187 (.bool false) fun t37_193 =>
 k_190 t37_193 w_188) w_188 fun t37_191 w_192 =>
 Pk t29_168 (.bool true) t37_191 fun t38_194 =>
 J_7 [t38_194] w_192)
def S.tree_Tree_Create.an : Ann := (.seq .leaf (.seq (.seq .leaf (.cond (.seq .leaf .leaf) .leaf)) (.seq (.join .leaf [38] [22, 23, 24, 25, 26, 27, 28, 29, 30, 31, 32, 33, 34, 35, 36, 37] (.cond (.seq .leaf .leaf) .leaf)) (.seq .leaf (.seq (.block (.seq .leaf (.cond (.seq .leaf .leaf) (.join .leaf [51] [52, 53, 54, 55, 56, 57, 58, 59] (.cond (.seq .leaf .leaf) (.seq .leaf (.cond (.seq .leaf .leaf) (.seq .leaf (.cond (.seq .leaf .leaf) (.join .leaf [77] [78, 79, 80, 81, 82, 83, 84, 85, 86, 87, 88] (.cond (.seq .leaf .leaf) .leaf))))))))))) (.seq .leaf (.seq .leaf (.seq (.draw [[], [], [1], [1, 2], [1, 2, 3], [1, 2, 3, 4], [], [6], [6, 7], [6, 7, 8], [], [], [], [12], [12, 13], [12, 13, 14], [12, 13, 14, 15], [], [1, 2, 3, 4, 5, 6, 7, 8, 9, 10, 11, 12, 13, 14, 15, 16, 17], [0, 1, 2, 3, 4, 5, 6, 7, 8, 9, 10, 11, 12, 13, 14, 15, 16, 17, 18], [0, 1, 2, 3, 4, 5, 6, 7, 8, 9, 10, 11, 12, 13, 14, 15, 16, 17, 18, 19], [0, 1, 2, 3, 4, 5, 6, 7, 8, 9, 10, 11, 12, 13, 14, 15, 16, 17, 18, 19, 20]] (.calm 0 (.calm 1 (.calm 2 (.calm 3 (.calm 4 (.calm 5 (.calm 6 (.calm 7 (.calm 8 (.calm 9 (.calm 10 (.calm 11 (.calm 12 (.calm 13 (.calm 14 (.calm 15 (.calm 16 (.calm 17 (.calm 18 (.calm 19 (.calm 20 (.eff1 21 [] .done))))))))))))))))))))))) (.seq .leaf (.join (.seq .leaf (.cond .leaf .leaf)) [18] [119, 120, 121, 122, 123, 124, 125] (.seq .leaf (.seq (.draw [[], [0], [0, 1], [0, 1, 2], [], [4], [4, 5], [4, 5, 6], [], [0, 1, 2, 3, 4, 5, 6, 7, 8]] (.calm 0 (.calm 1 (.calm 2 (.calm 3 (.calm 4 (.calm 5 (.calm 6 (.calm 7 (.calm 8 (.eff1 9 [] .done))))))))))) (.seq .leaf (.seq .leaf (.seq .leaf .leaf)))))))))))))))
theorem S.tree_Tree_Create.eq (a0 a1 a2 a3 a4 a5 : Value) (w : World) (R : Value → World → Prop) : S.tree_Tree_Create a0 a1 a2 a3 a4 a5 w R = fnC PP 170 (Tryz.f22.body.getD .skip) S.tree_Tree_Create.an [.tmp 12, .cell 13 37, .tmp 14] [a0, a1, a2, a3, a4, a5] w R := by kernel_rfl
theorem S.tree_Tree_Create.calls {a0 a1 a2 a3 a4 a5 : Value} {w : World} {R : Value → World → Prop} (h : S.tree_Tree_Create a0 a1 a2 a3 a4 a5 w R) : Ca PP Fn.tree_Tree_Create #[a0, a1, a2, a3, a4, a5] w R :=
  fnC_calls mixed (f := Fn.tree_Tree_Create) (an := S.tree_Tree_Create.an) Tryz.func22 rfl (by show _ ≤ _; exact Nat.le_of_ble_eq_true rfl) (S.tree_Tree_Create.eq a0 a1 a2 a3 a4 a5 w R ▸ h)
/-- (*acheron/tree.Tree).Close -/
def S.tree_Tree_Close (a0 a1 : Value) (w : World) (R : Value → World → Prop) : Prop :=
 Ca PP Fn.tree_Tree_opened #[a0, a1] w fun t10_1 w_2 =>
 Ex t10_1 0 fun t11_3 =>
 Ex t10_1 1 fun t12_4 =>
 Al Ty.tree_handle #[.pointer none, .int .i64 0, .string ⟨#[]⟩] w_2 fun t5_5 w_6 =>
 St PP 3 t5_5 t11_3 w_6 fun w_7 =>
 Bi .neq t12_4 (.int .i64 0) fun t14_8 =>
 Cnd t14_8 (
 R t12_4 w_7) (
 Nc a0 fun t17_9 =>
 Fa 5 t17_9 fun t18_10 =>
 Ld t18_10 w_7 fun t19_11 =>
 Ef PP (Builtin.delete_ #[Ty.map_int_tree_handle, Ty.int] Ty.t #[t19_11, a1]) w_7 fun x_12 w_13 =>
 ∀ J_14 : List Value → World → Prop, (∀ w_16 : World, (∀ u_15 : Env,
 R (.int .i64 0) w_16) → J_14 [] w_16) →
 ∀ J_17 : List Value → World → Prop, (∀ t32_20, ∀ w_19 : World, (∀ u_18 : Env,
 Cnd t32_20 (
 Fa 2 t5_5 fun t34_21 =>
 Ld t34_21 w_19 fun t35_22 =>
 Fa 0 t5_5 fun t36_23 =>
 Ld t36_23 w_19 fun t37_24 =>
 Ca PP Fn.tree_Tree_remove #[a0, t35_22, t37_24] w_19 fun t38_25 w_26 =>
 J_14 [] w_26) (
 J_14 [] w_19)) → J_17 [t32_20] w_19) →
 Fa 1 t5_5 fun t21_27 =>
 Ld t21_27 w_13 fun t22_28 =>
 Bi .and t22_28 (.int .i64 64) fun t23_29 =>
 Bi .neq t23_29 (.int .i64 0) fun t24_30 =>
 Gd t24_30 true (fun k_31 => Fa 0 t5_5 fun t26_34 =>
 k_31 t26_34 w_13) w_13 fun t26_32 w_33 =>
 Gd t24_30 true (fun k_35 => Ld t26_32 w_33 fun t27_38 =>
 k_35 t27_38 w_33) w_33 fun t27_36 w_37 =>
 Gd t24_30 true (fun k_39 => Nc t27_36 fun t28_42 =>
 k_39 t28_42 w_37) w_37 fun t28_40 w_41 =>
 Gd t24_30 true (fun k_43 => Fa 13 t28_40 fun t29_46 =>
 k_43 t29_46 w_41) w_41 fun t29_44 w_45 =>
 Gd t24_30 true (fun k_47 => Ld t29_44 w_45 fun t30_50 =>
 k_47 t30_50 w_45) w_45 fun t30_48 w_49 =>
 Gd t24_30 true (fun k_51 => Un .not t30_48 fun t31_54 =>
 k_51 t31_54 w_49) w_49 fun t31_52 w_53 =>
 Pk t24_30 t31_52 (.bool false) fun t32_55 =>
 J_17 [t32_55] w_53)
def S.tree_Tree_Close.an : Ann := (.seq .leaf (.seq .leaf (.seq (.seq .leaf (.cond (.seq .leaf .leaf) .leaf)) (.seq .leaf (.join (.join .leaf [32] [21, 22, 23, 24, 25, 26, 27, 28, 29, 30, 31] (.cond .leaf .leaf)) [] [21, 22, 23, 24, 25, 26, 27, 28, 29, 30, 31, 32, 33, 34, 35, 36, 37, 38] (.seq .leaf .leaf))))))
theorem S.tree_Tree_Close.eq (a0 a1 : Value) (w : World) (R : Value → World → Prop) : S.tree_Tree_Close a0 a1 w R = fnC PP 39 (Tryz.f23.body.getD .skip) S.tree_Tree_Close.an [.tmp 4] [a0, a1] w R := by kernel_rfl
theorem S.tree_Tree_Close.calls {a0 a1 : Value} {w : World} {R : Value → World → Prop} (h : S.tree_Tree_Close a0 a1 w R) : Ca PP Fn.tree_Tree_Close #[a0, a1] w R :=
  fnC_calls mixed (f := Fn.tree_Tree_Close) (an := S.tree_Tree_Close.an) Tryz.func23 rfl (by show _ ≤ _; exact Nat.le_of_ble_eq_true rfl) (S.tree_Tree_Close.eq a0 a1 w R ▸ h)
/-- (*acheron/tree.Tree).Write -/
def S.tree_Tree_Write (a0 a1 a2 a3 : Value) (w : World) (R : Value → World → Prop) : Prop :=
 Ca PP Fn.tree_Tree_opened #[a0, a1] w fun t15_1 w_2 =>
 Ex t15_1 0 fun t16_3 =>
 Ex t15_1 1 fun t17_4 =>
 Al Ty.tree_handle #[.pointer none, .int .i64 0, .string ⟨#[]⟩] w_2 fun t10_5 w_6 =>
 St PP 3 t10_5 t16_3 w_6 fun w_7 =>
 Bi .neq t17_4 (.int .i64 0) fun t20_8 =>
 Cnd t20_8 (
 R (.tuple #[(.int .i64 0), t17_4]) w_7) (
 ∀ J_9 : List Value → World → Prop, (∀ t22_12, ∀ w_11 : World, (∀ u_10 : Env,
 Cnd t22_12 (
 R (.tuple #[(.int .i64 0), (.int .i64 20)]) w_11) (
 Fa 0 t10_5 fun t34_13 =>
 Ld t34_13 w_11 fun t35_14 =>
 Nc t35_14 fun t36_15 =>
 Fa 13 t36_15 fun t37_16 =>
 Ld t37_16 w_11 fun t38_17 =>
 Cnd t38_17 (
 R (.tuple #[(.int .i64 0), (.int .i64 4)]) w_11) (
 Bi .lss a2 (.int .i64 0) fun t41_18 =>
 Cnd t41_18 (
 R (.tuple #[(.int .i64 0), (.int .i64 11)]) w_11) (
 Bi .eql a3 (.string ⟨#[]⟩) fun t44_19 =>
 Cnd t44_19 (
 R (.tuple #[(.int .i64 0), (.int .i64 0)]) w_11) (
 ∀ J_20 : List Value → World → Prop, (∀ t2_23, ∀ w_22 : World, (∀ u_21 : Env,
 ∀ J_24 : List Value → World → Prop, (∀ t68_27, ∀ w_26 : World, (∀ u_25 : Env,
 Cnd t68_27 (
 R (.tuple #[(.int .i64 0), (.int .i64 3)]) w_26) (
 Dr w_26 fun w_28 =>
 Fa 0 t10_5 fun t69_29 =>
 Ld t69_29 w_28 fun t70_30 =>
 Fa 0 t10_5 fun t71_31 =>
 Ld t71_31 w_28 fun t72_32 =>
 Nc t72_32 fun t73_33 =>
 Fa 10 t73_33 fun t74_34 =>
 Ld t74_34 w_28 fun t75_35 =>
 LnL t75_35 fun t76_36 =>
 LnS a3 fun t79_37 =>
 Bi .add t2_23 t79_37 fun t80_38 =>
 Mx t76_36 t80_38 fun t81_39 =>
 Ca PP Fn.tree_node_resize #[t70_30, t81_39] w_28 fun t82_40 w_41 =>
 Fa 0 t10_5 fun t83_42 =>
 Ld t83_42 w_41 fun t84_43 =>
 Nc t84_43 fun t85_44 =>
 Fa 10 t85_44 fun t86_45 =>
 Ld t86_45 w_41 fun t87_46 =>
 Sl 1 t87_46 (some t2_23) none fun t89_47 =>
 Ef PP (Builtin.copy_ #[Ty.sl_uint8, Ty.string] Ty.int #[t89_47, a3]) w_41 fun t91_48 w_49 =>
 Fa 2 t10_5 fun t93_50 =>
 Ld t93_50 w_49 fun t94_51 =>
 Fa 0 t10_5 fun t95_52 =>
 Ld t95_52 w_49 fun t96_53 =>
 Ef PP (Instr.buildSlice Ty.sl_p_tree_node 1 #[(0, t96_53)]) w_49 fun t97_54 w_55 =>
 Ca PP Fn.tree_Tree_change #[a0, t94_51, t97_54] w_55 fun t98_56 w_57 =>
 LnS a3 fun t100_58 =>
 R (.tuple #[t100_58, (.int .i64 0)]) w_57)) → J_24 [t68_27] w_26) →
 LnS a3 fun t60_59 =>
 Bi .gtr t60_59 (.int .i64 1048576) fun t61_60 =>
 Gd t61_60 false (fun k_61 => k_61 t2_23 w_22) w_22 fun t63_62 w_63 =>
 Gd t61_60 false (fun k_64 => k_64 a3 w_63) w_63 fun t64_65 w_66 =>
 Gd t61_60 false (fun k_67 => LnS t64_65 fun t65_70 =>
 k_67 t65_70 w_66) w_66 fun t65_68 w_69 =>
 Gd t61_60 false (fun k_71 => Bi .sub (.int .i64 1048576) t65_68 fun t66_74 =>
 k_71 t66_74 w_69) w_69 fun t66_72 w_73 =>
 Gd t61_60 false (fun k_75 => Bi .gtr t63_62 t66_72 fun t67_78 =>
 k_75 t67_78 w_73) w_73 fun t67_76 w_77 =>
 Pk t61_60 (.bool true) t67_76 fun t68_79 =>
 J_24 [t68_79] w_77) → J_20 [t2_23] w_22) →
 Fa 0 t10_5 fun t45_80 =>
 Ld t45_80 w_11 fun t46_81 =>
 Nc t46_81 fun t47_82 =>
 Fa 0 t47_82 fun t48_83 =>
 Fa 3 t48_83 fun t49_84 =>
 Ld t49_84 w_11 fun t50_85 =>
 Bi .and t50_85 (.int .i64 1073741824) fun t51_86 =>
 Bi .neq t51_86 (.int .i64 0) fun t52_87 =>
 Cnd t52_87 (
 Fa 0 t10_5 fun t53_88 =>
 Ld t53_88 w_11 fun t54_89 =>
 Nc t54_89 fun t55_90 =>
 Fa 10 t55_90 fun t56_91 =>
 Ld t56_91 w_11 fun t57_92 =>
 LnL t57_92 fun t58_93 =>
 J_20 [t58_93] w_11) (
 J_20 [a2] w_11)))))) → J_9 [t22_12] w_11) →
 Fa 1 t10_5 fun t23_94 =>
 Ld t23_94 w_7 fun t24_95 =>
 Bi .and t24_95 (.int .i64 3) fun t25_96 =>
 Bi .neq t25_96 (.int .i64 1) fun t26_97 =>
 Gd t26_97 true (fun k_98 => Fa 1 t10_5 fun t28_101 =>
 k_98 t28_101 w_7) w_7 fun t28_99 w_100 =>
 Gd t26_97 true (fun k_102 => Ld t28_99 w_100 fun t29_105 =>
 k_102 t29_105 w_100) w_100 fun t29_103 w_104 =>
 Gd t26_97 true (fun k_106 => Bi .and t29_103 (.int .i64 3) fun t30_109 =>
 k_106 t30_109 w_104) w_104 fun t30_107 w_108 =>
 Gd t26_97 true (fun k_110 => Bi .neq t30_107 (.int .i64 2) fun t31_113 =>
 k_110 t31_113 w_108) w_108 fun t31_111 w_112 =>
 Pk t26_97 t31_111 (.bool false) fun t32_114 =>
 J_9 [t32_114] w_112)
def S.tree_Tree_Write.an : Ann := (.seq .leaf (.seq .leaf (.seq (.block (.seq .leaf (.cond (.seq .leaf .leaf) (.join .leaf [22] [23, 24, 25, 26, 27, 28, 29, 30, 31, 32] (.cond (.seq .leaf .leaf) (.seq .leaf (.cond (.seq .leaf .leaf) (.seq .leaf (.cond (.seq .leaf .leaf) (.seq .leaf (.cond (.seq .leaf .leaf) .leaf))))))))))) (.join (.seq .leaf (.cond .leaf .leaf)) [2] [45, 46, 47, 48, 49, 50, 51, 52, 53, 54, 55, 56, 57, 58] (.seq (.join .leaf [68] [59, 60, 61, 62, 63, 64, 65, 66, 67] (.cond (.seq .leaf .leaf) .leaf)) (.seq (.draw [[], [0], [], [2], [2, 3], [2, 3, 4], [2, 3, 4, 5], [2, 3, 4, 5, 6], [], [], [9], [8, 9, 10], [2, 3, 4, 5, 6, 7, 8, 9, 10, 11], [0, 1, 2, 3, 4, 5, 6, 7, 8, 9, 10, 11, 12]] (.calm 0 (.calm 1 (.calm 2 (.calm 3 (.calm 4 (.calm 5 (.calm 6 (.calm 7 (.calm 8 (.calm 9 (.calm 10 (.calm 11 (.calm 12 (.eff1 13 [] .done))))))))))))))) (.seq .leaf (.seq .leaf (.seq .leaf .leaf)))))))))
theorem S.tree_Tree_Write.eq (a0 a1 a2 a3 : Value) (w : World) (R : Value → World → Prop) : S.tree_Tree_Write a0 a1 a2 a3 w R = fnC PP 101 (Tryz.f24.body.getD .skip) S.tree_Tree_Write.an [.tmp 8, .tmp 9] [a0, a1, a2, a3] w R := by kernel_rfl
theorem S.tree_Tree_Write.calls {a0 a1 a2 a3 : Value} {w : World} {R : Value → World → Prop} (h : S.tree_Tree_Write a0 a1 a2 a3 w R) : Ca PP Fn.tree_Tree_Write #[a0, a1, a2, a3] w R :=
  fnC_calls mixed (f := Fn.tree_Tree_Write) (an := S.tree_Tree_Write.an) Tryz.func24 rfl (by show _ ≤ _; exact Nat.le_of_ble_eq_true rfl) (S.tree_Tree_Write.eq a0 a1 a2 a3 w R ▸ h)
/-- (*acheron/tree.Tree).Stat -/
def S.tree_Tree_Stat (a0 a1 a2 : Value) (w : World) (R : Value → World → Prop) : Prop :=
 Al Ty.api_Dir #[.int .i64 0, .int .i64 0, .int .i64 0, .int .i64 0, .int .i64 0, .int .i64 0, .string ⟨#[]⟩, .string ⟨#[]⟩, .string ⟨#[]⟩, .string ⟨#[]⟩] w fun t6_1 w_2 =>
 Ca PP Fn.tree_Tree_find #[a0, a2] w_2 fun t13_3 w_4 =>
 Ex t13_3 0 fun t14_5 =>
 Ex t13_3 1 fun t15_6 =>
 Bi .neq t15_6 (.int .i64 0) fun t17_7 =>
 Cnd t17_7 (
 Bd #[.int .i64 0, .int .i64 0, .int .i64 0, .int .i64 0, .int .i64 0, .int .i64 0, .string ⟨#[]⟩, .string ⟨#[]⟩, .string ⟨#[]⟩, .string ⟨#[]⟩] [(0, 3), (3, 1), (4, 1), (5, 1), (6, 1), (7, 1), (8, 1), (9, 1)] [] fun t18_8 =>
 St PP 10 t6_1 t18_8 w_4 fun w_9 =>
 LdA PP 10 t6_1 w_9 fun t6_10 =>
 R (.tuple #[t6_10, t15_6]) w_9) (
 Ca PP Fn.tree_node_stat #[t14_5] w_4 fun t21_11 w_12 =>
 St PP 10 t6_1 t21_11 w_12 fun w_13 =>
 LdA PP 10 t6_1 w_13 fun t6_14 =>
 R (.tuple #[t6_14, (.int .i64 0)]) w_13)
def S.tree_Tree_Stat.an : Ann := (.seq .leaf (.seq .leaf (.seq (.seq .leaf (.cond (.seq .leaf .leaf) .leaf)) (.seq .leaf .leaf))))
theorem S.tree_Tree_Stat.eq (a0 a1 a2 : Value) (w : World) (R : Value → World → Prop) : S.tree_Tree_Stat a0 a1 a2 w R = fnC PP 22 (Tryz.f25.body.getD .skip) S.tree_Tree_Stat.an [.cell 6 51, .tmp 7] [a0, a1, a2] w R := by kernel_rfl
theorem S.tree_Tree_Stat.calls {a0 a1 a2 : Value} {w : World} {R : Value → World → Prop} (h : S.tree_Tree_Stat a0 a1 a2 w R) : Ca PP Fn.tree_Tree_Stat #[a0, a1, a2] w R :=
  fnC_calls mixed (f := Fn.tree_Tree_Stat) (an := S.tree_Tree_Stat.an) Tryz.func25 rfl (by show _ ≤ _; exact Nat.le_of_ble_eq_true rfl) (S.tree_Tree_Stat.eq a0 a1 a2 w R ▸ h)
/-- acheron/acheronlaw28.Do -/
def S.law28_Do (a0 a1 : Value) (w : World) (R : Value → World → Prop) : Prop :=
 Al Ty.law28_Act (a1 : Value).cells w fun t3_1 w_2 =>
 Al Ty.law28_Answer #[.int .i64 0, .int .i64 0, .int .i64 0, .int .i64 0, .int .i64 0, .int .i64 0, .int .i64 0, .int .i64 0, .int .i64 0, .string ⟨#[]⟩, .string ⟨#[]⟩, .string ⟨#[]⟩, .string ⟨#[]⟩, .int .i64 0, .string ⟨#[]⟩, .slice none 0 0, .int .i64 0] w_2 fun t4_3 w_4 =>
 Bd #[.int .i64 0, .int .i64 0, .int .i64 0, .int .i64 0, .int .i64 0, .int .i64 0, .int .i64 0, .int .i64 0, .int .i64 0, .string ⟨#[]⟩, .string ⟨#[]⟩, .string ⟨#[]⟩, .string ⟨#[]⟩, .int .i64 0, .string ⟨#[]⟩, .slice none 0 0, .int .i64 0] [(0, 3), (3, 10), (13, 1), (14, 1), (15, 1), (16, 1)] [] fun t6_5 =>
 Al Ty.law28_Answer #[.int .i64 0, .int .i64 0, .int .i64 0, .int .i64 0, .int .i64 0, .int .i64 0, .int .i64 0, .int .i64 0, .int .i64 0, .string ⟨#[]⟩, .string ⟨#[]⟩, .string ⟨#[]⟩, .string ⟨#[]⟩, .int .i64 0, .string ⟨#[]⟩, .slice none 0 0, .int .i64 0] w_4 fun t5_6 w_7 =>
 St PP 17 t5_6 t6_5 w_7 fun w_8 =>
 ∀ J_9 : List Value → World → Prop, (∀ w_11 : World, (∀ u_10 : Env,
 LdA PP 17 t5_6 w_11 fun t165_12 =>
 St PP 17 t4_3 t165_12 w_11 fun w_13 =>
 LdA PP 17 t4_3 w_13 fun t4_14 =>
 R t4_14 w_13) → J_9 [] w_11) →
 Fa 0 t3_1 fun t7_15 =>
 Ld t7_15 w_8 fun t8_16 =>
 Bi .eql t8_16 (.int .i64 0) fun t10_17 =>
 Cnd t10_17 (
 Fa 3 t3_1 fun t13_18 =>
 Ld t13_18 w_8 fun t14_19 =>
 Fa 2 t3_1 fun t15_20 =>
 Ld t15_20 w_8 fun t16_21 =>
 Fa 4 t3_1 fun t17_22 =>
 Ld t17_22 w_8 fun t18_23 =>
 Ca PP Fn.tree_Tree_Walk #[a0, t14_19, t16_21, t18_23] w_8 fun t19_24 w_25 =>
 Ex t19_24 0 fun t20_26 =>
 Ex t19_24 1 fun t21_27 =>
 Fa 0 t5_6 fun t22_28 =>
 St PP 3 t22_28 t20_26 w_25 fun w_29 =>
 Fa 16 t5_6 fun t23_30 =>
 St PP 1 t23_30 t21_27 w_29 fun w_31 =>
 J_9 [] w_31) (
 Bi .eql t8_16 (.int .i64 1) fun t25_32 =>
 Cnd t25_32 (
 Fa 3 t3_1 fun t28_33 =>
 Ld t28_33 w_8 fun t29_34 =>
 Fa 2 t3_1 fun t30_35 =>
 Ld t30_35 w_8 fun t31_36 =>
 Ca PP Fn.tree_Tree_Stat #[a0, t29_34, t31_36] w_8 fun t32_37 w_38 =>
 Ex t32_37 0 fun t33_39 =>
 Ex t32_37 1 fun t34_40 =>
 Fa 3 t5_6 fun t35_41 =>
 St PP 10 t35_41 t33_39 w_38 fun w_42 =>
 Fa 16 t5_6 fun t36_43 =>
 St PP 1 t36_43 t34_40 w_42 fun w_44 =>
 J_9 [] w_44) (
 Bi .eql t8_16 (.int .i64 2) fun t38_45 =>
 Cnd t38_45 (
 Fa 3 t3_1 fun t40_46 =>
 Ld t40_46 w_8 fun t41_47 =>
 Fa 2 t3_1 fun t42_48 =>
 Ld t42_48 w_8 fun t43_49 =>
 Fa 10 t3_1 fun t44_50 =>
 LdA PP 10 t44_50 w_8 fun t45_51 =>
 Ca PP Fn.tree_Tree_Wstat #[a0, t41_47, t43_49, t45_51] w_8 fun t46_52 w_53 =>
 Fa 16 t5_6 fun t47_54 =>
 St PP 1 t47_54 t46_52 w_53 fun w_55 =>
 J_9 [] w_55) (
 Bi .eql t8_16 (.int .i64 3) fun t49_56 =>
 Cnd t49_56 (
 Fa 3 t3_1 fun t52_57 =>
 Ld t52_57 w_8 fun t53_58 =>
 Fa 2 t3_1 fun t54_59 =>
 Ld t54_59 w_8 fun t55_60 =>
 Fa 5 t3_1 fun t56_61 =>
 Ld t56_61 w_8 fun t57_62 =>
 Ca PP Fn.tree_Tree_Open #[a0, t53_58, t55_60, t57_62] w_8 fun t58_63 w_64 =>
 Ex t58_63 0 fun t59_65 =>
 Ex t58_63 1 fun t60_66 =>
 Ex t58_63 2 fun t61_67 =>
 Fa 13 t5_6 fun t62_68 =>
 St PP 1 t62_68 t59_65 w_64 fun w_69 =>
 Fa 0 t5_6 fun t63_70 =>
 St PP 3 t63_70 t60_66 w_69 fun w_71 =>
 Fa 16 t5_6 fun t64_72 =>
 St PP 1 t64_72 t61_67 w_71 fun w_73 =>
 J_9 [] w_73) (
 Bi .eql t8_16 (.int .i64 4) fun t66_74 =>
 Cnd t66_74 (
 Fa 3 t3_1 fun t69_75 =>
 Ld t69_75 w_8 fun t70_76 =>
 Fa 2 t3_1 fun t71_77 =>
 Ld t71_77 w_8 fun t72_78 =>
 Fa 4 t3_1 fun t73_79 =>
 Ld t73_79 w_8 fun t74_80 =>
 Fa 6 t3_1 fun t75_81 =>
 Ld t75_81 w_8 fun t76_82 =>
 Fa 5 t3_1 fun t77_83 =>
 Ld t77_83 w_8 fun t78_84 =>
 Ca PP Fn.tree_Tree_Create #[a0, t70_76, t72_78, t74_80, t76_82, t78_84] w_8 fun t79_85 w_86 =>
 Ex t79_85 0 fun t80_87 =>
 Ex t79_85 1 fun t81_88 =>
 Ex t79_85 2 fun t82_89 =>
 Fa 13 t5_6 fun t83_90 =>
 St PP 1 t83_90 t80_87 w_86 fun w_91 =>
 Fa 0 t5_6 fun t84_92 =>
 St PP 3 t84_92 t81_88 w_91 fun w_93 =>
 Fa 16 t5_6 fun t85_94 =>
 St PP 1 t85_94 t82_89 w_93 fun w_95 =>
 J_9 [] w_95) (
 Bi .eql t8_16 (.int .i64 5) fun t87_96 =>
 Cnd t87_96 (
 Fa 1 t3_1 fun t90_97 =>
 Ld t90_97 w_8 fun t91_98 =>
 Fa 8 t3_1 fun t92_99 =>
 Ld t92_99 w_8 fun t93_100 =>
 Fa 7 t3_1 fun t94_101 =>
 Ld t94_101 w_8 fun t95_102 =>
 Ca PP Fn.tree_Tree_Read #[a0, t91_98, t93_100, t95_102] w_8 fun t96_103 w_104 =>
 Ex t96_103 0 fun t97_105 =>
 Ex t96_103 1 fun t98_106 =>
 Fa 14 t5_6 fun t99_107 =>
 St PP 1 t99_107 t97_105 w_104 fun w_108 =>
 Fa 16 t5_6 fun t100_109 =>
 St PP 1 t100_109 t98_106 w_108 fun w_110 =>
 J_9 [] w_110) (
 Bi .eql t8_16 (.int .i64 6) fun t102_111 =>
 Cnd t102_111 (
 Fa 1 t3_1 fun t105_112 =>
 Ld t105_112 w_8 fun t106_113 =>
 Ca PP Fn.tree_Tree_List #[a0, t106_113] w_8 fun t107_114 w_115 =>
 Ex t107_114 0 fun t108_116 =>
 Ex t107_114 1 fun t109_117 =>
 Fa 15 t5_6 fun t110_118 =>
 St PP 1 t110_118 t108_116 w_115 fun w_119 =>
 Fa 16 t5_6 fun t111_120 =>
 St PP 1 t111_120 t109_117 w_119 fun w_121 =>
 J_9 [] w_121) (
 Bi .eql t8_16 (.int .i64 7) fun t113_122 =>
 Cnd t113_122 (
 Fa 1 t3_1 fun t116_123 =>
 Ld t116_123 w_8 fun t117_124 =>
 Fa 8 t3_1 fun t118_125 =>
 Ld t118_125 w_8 fun t119_126 =>
 Fa 9 t3_1 fun t120_127 =>
 Ld t120_127 w_8 fun t121_128 =>
 Ca PP Fn.tree_Tree_Write #[a0, t117_124, t119_126, t121_128] w_8 fun t122_129 w_130 =>
 Ex t122_129 0 fun t123_131 =>
 Ex t122_129 1 fun t124_132 =>
 Fa 13 t5_6 fun t125_133 =>
 St PP 1 t125_133 t123_131 w_130 fun w_134 =>
 Fa 16 t5_6 fun t126_135 =>
 St PP 1 t126_135 t124_132 w_134 fun w_136 =>
 J_9 [] w_136) (
 Bi .eql t8_16 (.int .i64 8) fun t128_137 =>
 Cnd t128_137 (
 Fa 1 t3_1 fun t130_138 =>
 Ld t130_138 w_8 fun t131_139 =>
 Ca PP Fn.tree_Tree_Close #[a0, t131_139] w_8 fun t132_140 w_141 =>
 Fa 16 t5_6 fun t133_142 =>
 St PP 1 t133_142 t132_140 w_141 fun w_143 =>
 J_9 [] w_143) (
 Bi .eql t8_16 (.int .i64 9) fun t135_144 =>
 Cnd t135_144 (
 Fa 3 t3_1 fun t137_145 =>
 Ld t137_145 w_8 fun t138_146 =>
 Fa 2 t3_1 fun t139_147 =>
 Ld t139_147 w_8 fun t140_148 =>
 Ca PP Fn.tree_Tree_Remove #[a0, t138_146, t140_148] w_8 fun t141_149 w_150 =>
 Fa 16 t5_6 fun t142_151 =>
 St PP 1 t142_151 t141_149 w_150 fun w_152 =>
 J_9 [] w_152) (
 Bi .eql t8_16 (.int .i64 10) fun t144_153 =>
 Cnd t144_153 (
 Fa 4 t3_1 fun t147_154 =>
 Ld t147_154 w_8 fun t148_155 =>
 Ca PP Fn.tree_Tree_Find #[a0, t148_155] w_8 fun t149_156 w_157 =>
 Ex t149_156 0 fun t150_158 =>
 Ex t149_156 1 fun t151_159 =>
 Fa 0 t5_6 fun t152_160 =>
 St PP 3 t152_160 t150_158 w_157 fun w_161 =>
 Fa 16 t5_6 fun t153_162 =>
 St PP 1 t153_162 t151_159 w_161 fun w_163 =>
 J_9 [] w_163) (
 Bi .eql t8_16 (.int .i64 11) fun t155_164 =>
 Cnd t155_164 (
 Fa 2 t3_1 fun t158_165 =>
 Ld t158_165 w_8 fun t159_166 =>
 Ca PP Fn.tree_Tree_Path #[a0, t159_166] w_8 fun t160_167 w_168 =>
 Ex t160_167 0 fun t161_169 =>
 Ex t160_167 1 fun t162_170 =>
 Fa 14 t5_6 fun t163_171 =>
 St PP 1 t163_171 t161_169 w_168 fun w_172 =>
 Fa 16 t5_6 fun t164_173 =>
 St PP 1 t164_173 t162_170 w_172 fun w_174 =>
 J_9 [] w_174) (
 J_9 [] w_8))))))))))))
def S.law28_Do.an : Ann := (.seq .leaf (.seq .leaf (.join (.seq .leaf (.block (.seq .leaf (.cond .leaf (.seq .leaf (.cond .leaf (.seq .leaf (.cond .leaf (.seq .leaf (.cond .leaf (.seq .leaf (.cond .leaf (.seq .leaf (.cond .leaf (.seq .leaf (.cond .leaf (.seq .leaf (.cond .leaf (.seq .leaf (.cond .leaf (.seq .leaf (.cond .leaf (.seq .leaf (.cond .leaf (.seq .leaf (.cond .leaf .leaf)))))))))))))))))))))))))) [] [7, 8, 9, 10, 11, 12, 13, 14, 15, 16, 17, 18, 19, 20, 21, 22, 23, 24, 25, 26, 27, 28, 29, 30, 31, 32, 33, 34, 35, 36, 37, 38, 39, 40, 41, 42, 43, 44, 45, 46, 47, 48, 49, 50, 51, 52, 53, 54, 55, 56, 57, 58, 59, 60, 61, 62, 63, 64, 65, 66, 67, 68, 69, 70, 71, 72, 73, 74, 75, 76, 77, 78, 79, 80, 81, 82, 83, 84, 85, 86, 87, 88, 89, 90, 91, 92, 93, 94, 95, 96, 97, 98, 99, 100, 101, 102, 103, 104, 105, 106, 107, 108, 109, 110, 111, 112, 113, 114, 115, 116, 117, 118, 119, 120, 121, 122, 123, 124, 125, 126, 127, 128, 129, 130, 131, 132, 133, 134, 135, 136, 137, 138, 139, 140, 141, 142, 143, 144, 145, 146, 147, 148, 149, 150, 151, 152, 153, 154, 155, 156, 157, 158, 159, 160, 161, 162, 163, 164] (.seq .leaf .leaf))))
theorem S.law28_Do.eq (a0 a1 : Value) (w : World) (R : Value → World → Prop) : S.law28_Do a0 a1 w R = fnC PP 166 (Tryz.f26.body.getD .skip) S.law28_Do.an [.cell 4 58] [a0, a1] w R := by kernel_rfl
theorem S.law28_Do.calls {a0 a1 : Value} {w : World} {R : Value → World → Prop} (h : S.law28_Do a0 a1 w R) : Ca PP Fn.law28_Do #[a0, a1] w R :=
  fnC_calls mixed (f := Fn.law28_Do) (an := S.law28_Do.an) Tryz.func26 rfl (by show _ ≤ _; exact Nat.le_of_ble_eq_true rfl) (S.law28_Do.eq a0 a1 w R ▸ h)
/-- (*acheron/tree.Tree).Files -/
def S.tree_Tree_Files (a0 : Value) (w : World) (R : Value → World → Prop) : Prop :=
 Al Ty.sl_tree_File #[.slice none 0 0] w fun t3_1 w_2 =>
 ∀ J_3 : List Df → List Value → World → Prop, (∀ (ds_6 : List Df) (w_5 : World), (∀ u_4 : Env,
 Ld t3_1 w_5 fun t26_7 =>
 Lvs PP ds_6 w_5 fun w_8 =>
 R t26_7 w_8) → J_3 ds_6 [] w_5) →
 Rd PP (eqS .neq Ty.p_tree_Tree (.tmp 5) (.const (.pointer none)) a0 (.pointer none)) w_2 fun t6_9 =>
 Cnd t6_9 (
 Nc a0 fun t8_10 =>
 Fa 0 t8_10 fun t9_11 =>
 Ld t9_11 w_2 fun t10_12 =>
 Ca PP Fn.tree_node_all #[t10_12] w_2 fun t11_13 w_14 =>
 RFo PP t11_13 w_14 (RB.one fun r_15 L_16 t12_17 w_18 Rn_19 Re_20 Rr_21 =>
 Bgn r_15 L_16 w_18 fun w_22 =>
 Dr w_22 fun w_23 =>
 Ld t3_1 w_23 fun t13_24 =>
 Nc t12_17 fun t19_25 =>
 Fa 10 t19_25 fun t20_26 =>
 Ld t20_26 w_23 fun t21_27 =>
 Rd PP (convert Ty.sl_uint8 Ty.string t21_27) w_23 fun t22_28 =>
 Ca PP Fn.tree_node_path #[t12_17] w_23 fun t15_29 w_30 =>
 (Ld t3_1 w_30 fun t13_31 =>
 t13_31 = t13_24) ∧
 (Ld t20_26 w_30 fun t21_32 =>
 t21_32 = t21_27) ∧
 (Rd PP (convert Ty.sl_uint8 Ty.string t21_27) w_30 fun t22_33 =>
 t22_33 = t22_28) ∧
 Ca PP Fn.tree_node_stat #[t12_17] w_30 fun t17_34 w_35 =>
 (Ld t3_1 w_35 fun t13_36 =>
 t13_36 = t13_24) ∧
 (Ld t20_26 w_35 fun t21_37 =>
 t21_37 = t21_27) ∧
 (Rd PP (convert Ty.sl_uint8 Ty.string t21_27) w_35 fun t22_38 =>
 t22_38 = t22_28) ∧
 Bd #[.string ⟨#[]⟩, .int .i64 0, .int .i64 0, .int .i64 0, .int .i64 0, .int .i64 0, .int .i64 0, .string ⟨#[]⟩, .string ⟨#[]⟩, .string ⟨#[]⟩, .string ⟨#[]⟩, .string ⟨#[]⟩] [(0, 1), (1, 10), (11, 1)] [(0, t15_29), (1, t17_34), (2, t22_28)] fun t23_39 =>
 Ef PP (Instr.buildSlice Ty.sl_tree_File 1 #[(0, t23_39)]) w_35 fun t24_40 w_41 =>
 (Ld t3_1 w_41 fun t13_42 =>
 t13_42 = t13_24) ∧
 Ef PP (Builtin.append_ #[Ty.sl_tree_File, Ty.sl_tree_File] Ty.sl_tree_File #[t13_24, t24_40]) w_41 fun t25_43 w_44 =>
 St PP 1 t3_1 t25_43 w_44 fun w_45 =>
 Rn_19 w_45) (fun D_46 w_47 =>
 J_3 (.mark D_46 :: []) [] w_47) [] (fun D_48 w_49 =>
 Lvs PP (.mark D_48 :: []) w_49 fun w_50 =>
 R (.slice none 0 0) w_50)) (
 J_3 [] [] w_2)
def S.tree_Tree_Files.an : Ann := (.seq .leaf (.seq .leaf (.joinD (.seq .leaf (.cond (.seq .leaf (.block (.rf .leaf (.block (.draw [[], [], [1], [], [1, 2, 3], [], [5], [5, 6], [5, 6, 7], [5, 6, 7, 8], [1, 2, 3, 4, 5, 6, 7, 8, 9], [1, 2, 3, 4, 5, 6, 7, 8, 9, 10], [0, 1, 2, 3, 4, 5, 6, 7, 8, 9, 10, 11], [0, 1, 2, 3, 4, 5, 6, 7, 8, 9, 10, 11, 12]] (.calm 0 (.calm 1 (.calm 3 (.calm 5 (.calm 6 (.calm 7 (.calm 8 (.calm 9 (.eff1 2 [0, 8, 9] (.eff1 4 [0, 8, 9] (.calm 10 (.eff1 11 [0] (.eff1 12 [] (.eff1 13 [] .done)))))))))))))))) []))) .leaf)) [] [5, 6, 7, 8, 9, 10, 11] (.seq .leaf .leaf))))
theorem S.tree_Tree_Files.eq (a0 : Value) (w : World) (R : Value → World → Prop) : S.tree_Tree_Files a0 w R = fnC PP 27 (Tryz.f27.body.getD .skip) S.tree_Tree_Files.an [.tmp 2] [a0] w R := by kernel_rfl
theorem S.tree_Tree_Files.calls {a0 : Value} {w : World} {R : Value → World → Prop} (h : S.tree_Tree_Files a0 w R) : Ca PP Fn.tree_Tree_Files #[a0] w R :=
  fnC_calls mixed (f := Fn.tree_Tree_Files) (an := S.tree_Tree_Files.an) Tryz.func27 rfl (by show _ ≤ _; exact Nat.le_of_ble_eq_true rfl) (S.tree_Tree_Files.eq a0 w R ▸ h)
/-- (*acheron/tree.Tree).Clock -/
def S.tree_Tree_Clock (a0 : Value) (w : World) (R : Value → World → Prop) : Prop :=
 Rd PP (eqS .eql Ty.p_tree_Tree (.tmp 3) (.const (.pointer none)) a0 (.pointer none)) w fun t4_1 =>
 Cnd t4_1 (
 R (.int .i64 0) w) (
 Nc a0 fun t6_2 =>
 Fa 4 t6_2 fun t7_3 =>
 Ld t7_3 w fun t8_4 =>
 R t8_4 w)
def S.tree_Tree_Clock.an : Ann := (.seq .leaf (.seq (.seq .leaf (.cond (.seq .leaf .leaf) .leaf)) (.seq .leaf .leaf)))
theorem S.tree_Tree_Clock.eq (a0 : Value) (w : World) (R : Value → World → Prop) : S.tree_Tree_Clock a0 w R = fnC PP 9 (Tryz.f29.body.getD .skip) S.tree_Tree_Clock.an [.tmp 2] [a0] w R := by kernel_rfl
theorem S.tree_Tree_Clock.calls {a0 : Value} {w : World} {R : Value → World → Prop} (h : S.tree_Tree_Clock a0 w R) : Ca PP Fn.tree_Tree_Clock #[a0] w R :=
  fnC_calls mixed (f := Fn.tree_Tree_Clock) (an := S.tree_Tree_Clock.an) Tryz.func29 rfl (by show _ ≤ _; exact Nat.le_of_ble_eq_true rfl) (S.tree_Tree_Clock.eq a0 w R ▸ h)
/-- (*acheron/tree.Tree).Path -/
def S.tree_Tree_Path (a0 a1 : Value) (w : World) (R : Value → World → Prop) : Prop :=
 Ca PP Fn.tree_Tree_find #[a0, a1] w fun t11_1 w_2 =>
 Ex t11_1 0 fun t12_3 =>
 Ex t11_1 1 fun t13_4 =>
 Bi .neq t13_4 (.int .i64 0) fun t15_5 =>
 Cnd t15_5 (
 R (.tuple #[(.string ⟨#[]⟩), t13_4]) w_2) (
 Ca PP Fn.tree_node_path #[t12_3] w_2 fun t18_6 w_7 =>
 R (.tuple #[t18_6, (.int .i64 0)]) w_7)
def S.tree_Tree_Path.an : Ann := (.seq .leaf (.seq .leaf (.seq (.seq .leaf (.cond (.seq .leaf .leaf) .leaf)) (.seq .leaf .leaf))))
theorem S.tree_Tree_Path.eq (a0 a1 : Value) (w : World) (R : Value → World → Prop) : S.tree_Tree_Path a0 a1 w R = fnC PP 19 (Tryz.f32.body.getD .skip) S.tree_Tree_Path.an [.tmp 4, .tmp 5] [a0, a1] w R := by kernel_rfl
theorem S.tree_Tree_Path.calls {a0 a1 : Value} {w : World} {R : Value → World → Prop} (h : S.tree_Tree_Path a0 a1 w R) : Ca PP Fn.tree_Tree_Path #[a0, a1] w R :=
  fnC_calls mixed (f := Fn.tree_Tree_Path) (an := S.tree_Tree_Path.an) Tryz.func32 rfl (by show _ ≤ _; exact Nat.le_of_ble_eq_true rfl) (S.tree_Tree_Path.eq a0 a1 w R ▸ h)
/-- acheron/tree.Valid -/
def S.tree_Valid (a0 : Value) (w : World) (R : Value → World → Prop) : Prop :=
 LnS a0 fun t6_1 =>
 ∃ (I_2 : List Value → World → Prop) (m_3 : List Value → World → Nat), I_2 [(.int .i64 0)] w ∧ ∀ t7_6, ∀ (u_4 : Env) (w_5 : World), I_2 [t7_6] w_5 →
 Bi .lss t7_6 t6_1 fun t8_7 =>
 Cnd t8_7 (
 IxS a0 t7_6 fun t12_8 =>
 ∀ J_9 : List Value → World → Prop, (∀ t22_12, ∀ w_11 : World, (∀ u_10 : Env,
 Cnd t22_12 (
 R (.bool false) w_11) (
 Bi .add t7_6 (.int .i64 1) fun t23_13 =>
 I_2 [t23_13] w_11 ∧ m_3 [t23_13] w_11 < m_3 [t7_6] w_5)) → J_9 [t22_12] w_11) →
 Bi .lss t12_8 (.int .u8 33) fun t14_14 =>
 Gd t14_14 false (fun k_15 => k_15 t12_8 w_5) w_5 fun t16_16 w_17 =>
 Gd t14_14 false (fun k_18 => Bi .gtr t16_16 (.int .u8 126) fun t17_21 =>
 k_18 t17_21 w_17) w_17 fun t17_19 w_20 =>
 Pk t14_14 (.bool true) t17_19 fun t18_22 =>
 Gd t18_22 false (fun k_23 => k_23 t12_8 w_20) w_20 fun t20_24 w_25 =>
 Gd t18_22 false (fun k_26 => Bi .eql t20_24 (.int .u8 47) fun t21_29 =>
 k_26 t21_29 w_25) w_25 fun t21_27 w_28 =>
 Pk t18_22 (.bool true) t21_27 fun t22_30 =>
 J_9 [t22_30] w_28) (
 ∀ J_31 : List Value → World → Prop, (∀ t2_34, ∀ w_33 : World, (∀ u_32 : Env,
 R t2_34 w_33) → J_31 [t2_34] w_33) →
 Bi .neq a0 (.string ⟨#[]⟩) fun t25_35 =>
 Gd t25_35 true (fun k_36 => k_36 a0 w_5) w_5 fun t27_37 w_38 =>
 Gd t25_35 true (fun k_39 => LnS t27_37 fun t28_42 =>
 k_39 t28_42 w_38) w_38 fun t28_40 w_41 =>
 Gd t25_35 true (fun k_43 => Bi .leq t28_40 (.int .i64 40) fun t29_46 =>
 k_43 t29_46 w_41) w_41 fun t29_44 w_45 =>
 Pk t25_35 t29_44 (.bool false) fun t30_47 =>
 Gd t30_47 true (fun k_48 => k_48 a0 w_45) w_45 fun t32_49 w_50 =>
 Gd t30_47 true (fun k_51 => Bi .neq t32_49 (.string ⟨#[46]⟩) fun t33_54 =>
 k_51 t33_54 w_50) w_50 fun t33_52 w_53 =>
 Pk t30_47 t33_52 (.bool false) fun t34_55 =>
 Gd t34_55 true (fun k_56 => k_56 a0 w_53) w_53 fun t36_57 w_58 =>
 Gd t34_55 true (fun k_59 => Bi .neq t36_57 (.string ⟨#[46, 46]⟩) fun t37_62 =>
 k_59 t37_62 w_58) w_58 fun t37_60 w_61 =>
 Pk t34_55 t37_60 (.bool false) fun t38_63 =>
 J_31 [t38_63] w_61)
def S.tree_Valid.an : Ann := (.seq .leaf (.seq (.seq .leaf (.block (.loop (.seq .leaf (.seq (.cond .leaf .leaf) (.seq (.block (.seq .leaf (.seq .leaf (.join .leaf [22] [13, 14, 15, 16, 17, 18, 19, 20, 21] (.cond (.seq .leaf .leaf) .leaf))))) .leaf))) [7] [2, 3, 4, 8, 9, 10, 11, 12, 13, 14, 15, 16, 17, 18, 19, 20, 21, 22, 23]))) (.join .leaf [2] [24, 25, 26, 27, 28, 29, 30, 31, 32, 33, 34, 35, 36, 37, 38] .leaf)))
theorem S.tree_Valid.eq (a0 : Value) (w : World) (R : Value → World → Prop) : S.tree_Valid a0 w R = fnC PP 39 (Tryz.f34.body.getD .skip) S.tree_Valid.an [.tmp 2] [a0] w R := by kernel_rfl
theorem S.tree_Valid.calls {a0 : Value} {w : World} {R : Value → World → Prop} (h : S.tree_Valid a0 w R) : Ca PP Fn.tree_Valid #[a0] w R :=
  fnC_calls mixed (f := Fn.tree_Valid) (an := S.tree_Valid.an) Tryz.func34 rfl (by show _ ≤ _; exact Nat.le_of_ble_eq_true rfl) (S.tree_Valid.eq a0 w R ▸ h)
/-- (*acheron/tree.Tree).Handles -/
def S.tree_Tree_Handles (a0 : Value) (w : World) (R : Value → World → Prop) : Prop :=
 Rd PP (eqS .eql Ty.p_tree_Tree (.tmp 3) (.const (.pointer none)) a0 (.pointer none)) w fun t4_1 =>
 Cnd t4_1 (
 R (.slice none 0 0) w) (
 Nc a0 fun t6_2 =>
 Fa 5 t6_2 fun t7_3 =>
 Ld t7_3 w fun t8_4 =>
 Ca PP Fn.maps_Keys_map_int_tree_handle_int_tree_handle #[t8_4] w fun t9_5 w_6 =>
 Ca PP Fn.slices_Sorted_int #[t9_5] w_6 fun t10_7 w_8 =>
 R t10_7 w_8)
def S.tree_Tree_Handles.an : Ann := (.seq .leaf (.seq (.seq .leaf (.cond (.seq .leaf .leaf) .leaf)) (.seq .leaf .leaf)))
theorem S.tree_Tree_Handles.eq (a0 : Value) (w : World) (R : Value → World → Prop) : S.tree_Tree_Handles a0 w R = fnC PP 11 (Tryz.f38.body.getD .skip) S.tree_Tree_Handles.an [.tmp 2] [a0] w R := by kernel_rfl
theorem S.tree_Tree_Handles.calls {a0 : Value} {w : World} {R : Value → World → Prop} (h : S.tree_Tree_Handles a0 w R) : Ca PP Fn.tree_Tree_Handles #[a0] w R :=
  fnC_calls mixed (f := Fn.tree_Tree_Handles) (an := S.tree_Tree_Handles.an) Tryz.func38 rfl (by show _ ≤ _; exact Nat.le_of_ble_eq_true rfl) (S.tree_Tree_Handles.eq a0 w R ▸ h)
/-- acheron/acheronlaw28.Same -/
def S.law28_Same (a0 a1 : Value) (w : World) (R : Value → World → Prop) : Prop :=
 Al Ty.law28_Answer (a0 : Value).cells w fun t2_1 w_2 =>
 Al Ty.law28_Answer (a1 : Value).cells w_2 fun t3_3 w_4 =>
 ∀ J_5 : List Value → World → Prop, (∀ t4_8, ∀ w_7 : World, (∀ u_6 : Env,
 R t4_8 w_7) → J_5 [t4_8] w_7) →
 Fa 0 t2_1 fun t5_9 =>
 LdA PP 3 t5_9 w_4 fun t6_10 =>
 Fa 0 t3_3 fun t7_11 =>
 LdA PP 3 t7_11 w_4 fun t8_12 =>
 Rd PP (eqS .eql Ty.api_Qid (.tmp 6) (.tmp 8) t6_10 t8_12) w_4 fun t9_13 =>
 Gd t9_13 true (fun k_14 => Fa 3 t2_1 fun t11_17 =>
 k_14 t11_17 w_4) w_4 fun t11_15 w_16 =>
 Gd t9_13 true (fun k_18 => LdA PP 10 t11_15 w_16 fun t12_21 =>
 k_18 t12_21 w_16) w_16 fun t12_19 w_20 =>
 Gd t9_13 true (fun k_22 => Fa 3 t3_3 fun t13_25 =>
 k_22 t13_25 w_20) w_20 fun t13_23 w_24 =>
 Gd t9_13 true (fun k_26 => LdA PP 10 t13_23 w_24 fun t14_29 =>
 k_26 t14_29 w_24) w_24 fun t14_27 w_28 =>
 Gd t9_13 true (fun k_30 => Rd PP (eqS .eql Ty.api_Dir (.tmp 12) (.tmp 14) t12_19 t14_27) w_28 fun t15_33 =>
 k_30 t15_33 w_28) w_28 fun t15_31 w_32 =>
 Pk t9_13 t15_31 (.bool false) fun t16_34 =>
 Gd t16_34 true (fun k_35 => Fa 13 t2_1 fun t18_38 =>
 k_35 t18_38 w_32) w_32 fun t18_36 w_37 =>
 Gd t16_34 true (fun k_39 => Ld t18_36 w_37 fun t19_42 =>
 k_39 t19_42 w_37) w_37 fun t19_40 w_41 =>
 Gd t16_34 true (fun k_43 => Fa 13 t3_3 fun t20_46 =>
 k_43 t20_46 w_41) w_41 fun t20_44 w_45 =>
 Gd t16_34 true (fun k_47 => Ld t20_44 w_45 fun t21_50 =>
 k_47 t21_50 w_45) w_45 fun t21_48 w_49 =>
 Gd t16_34 true (fun k_51 => Bi .eql t19_40 t21_48 fun t22_54 =>
 k_51 t22_54 w_49) w_49 fun t22_52 w_53 =>
 Pk t16_34 t22_52 (.bool false) fun t23_55 =>
 Gd t23_55 true (fun k_56 => Fa 14 t2_1 fun t25_59 =>
 k_56 t25_59 w_53) w_53 fun t25_57 w_58 =>
 Gd t23_55 true (fun k_60 => Ld t25_57 w_58 fun t26_63 =>
 k_60 t26_63 w_58) w_58 fun t26_61 w_62 =>
 Gd t23_55 true (fun k_64 => Fa 14 t3_3 fun t27_67 =>
 k_64 t27_67 w_62) w_62 fun t27_65 w_66 =>
 Gd t23_55 true (fun k_68 => Ld t27_65 w_66 fun t28_71 =>
 k_68 t28_71 w_66) w_66 fun t28_69 w_70 =>
 Gd t23_55 true (fun k_72 => Bi .eql t26_61 t28_69 fun t29_75 =>
 k_72 t29_75 w_70) w_70 fun t29_73 w_74 =>
 Pk t23_55 t29_73 (.bool false) fun t30_76 =>
 Gd t30_76 true (fun k_77 => Fa 16 t2_1 fun t32_80 =>
 k_77 t32_80 w_74) w_74 fun t32_78 w_79 =>
 Gd t30_76 true (fun k_81 => Ld t32_78 w_79 fun t33_84 =>
 k_81 t33_84 w_79) w_79 fun t33_82 w_83 =>
 Gd t30_76 true (fun k_85 => Fa 16 t3_3 fun t34_88 =>
 k_85 t34_88 w_83) w_83 fun t34_86 w_87 =>
 Gd t30_76 true (fun k_89 => Ld t34_86 w_87 fun t35_92 =>
 k_89 t35_92 w_87) w_87 fun t35_90 w_91 =>
 Gd t30_76 true (fun k_93 => Bi .eql t33_82 t35_90 fun t36_96 =>
 k_93 t36_96 w_91) w_91 fun t36_94 w_95 =>
 Pk t30_76 t36_94 (.bool false) fun t37_97 =>
 Gd t37_97 true (fun k_98 => Fa 15 t2_1 fun t39_101 =>
 k_98 t39_101 w_95) w_95 fun t39_99 w_100 =>
 Gd t37_97 true (fun k_102 => Ld t39_99 w_100 fun t40_105 =>
 k_102 t40_105 w_100) w_100 fun t40_103 w_104 =>
 Gd t37_97 true (fun k_106 => Fa 15 t3_3 fun t41_109 =>
 k_106 t41_109 w_104) w_104 fun t41_107 w_108 =>
 Gd t37_97 true (fun k_110 => Ld t41_107 w_108 fun t42_113 =>
 k_110 t42_113 w_108) w_108 fun t42_111 w_112 =>
 Gd t37_97 true (fun k_114 => Ca PP Fn.slices_Equal_sl_api_Dir_api_Dir #[t40_103, t42_111] w_112 fun t43_117 w_118 =>
 k_114 t43_117 w_118) w_112 fun t43_115 w_116 =>
 Pk t37_97 t43_115 (.bool false) fun t44_119 =>
 J_5 [t44_119] w_116
def S.law28_Same.an : Ann := (.seq .leaf (.join .leaf [4] [5, 6, 7, 8, 9, 10, 11, 12, 13, 14, 15, 16, 17, 18, 19, 20, 21, 22, 23, 24, 25, 26, 27, 28, 29, 30, 31, 32, 33, 34, 35, 36, 37, 38, 39, 40, 41, 42, 43, 44] .leaf))
theorem S.law28_Same.eq (a0 a1 : Value) (w : World) (R : Value → World → Prop) : S.law28_Same a0 a1 w R = fnC PP 45 (Tryz.f39.body.getD .skip) S.law28_Same.an [.tmp 4] [a0, a1] w R := by kernel_rfl
theorem S.law28_Same.calls {a0 a1 : Value} {w : World} {R : Value → World → Prop} (h : S.law28_Same a0 a1 w R) : Ca PP Fn.law28_Same #[a0, a1] w R :=
  fnC_calls mixed (f := Fn.law28_Same) (an := S.law28_Same.an) Tryz.func39 rfl (by show _ ≤ _; exact Nat.le_of_ble_eq_true rfl) (S.law28_Same.eq a0 a1 w R ▸ h)
/-- (*acheron/tree.Tree).Root -/
def S.tree_Tree_Root (a0 : Value) (w : World) (R : Value → World → Prop) : Prop :=
 Al Ty.api_Qid #[.int .i64 0, .int .i64 0, .int .i64 0] w fun t2_1 w_2 =>
 Rd PP (eqS .eql Ty.p_tree_Tree (.tmp 3) (.const (.pointer none)) a0 (.pointer none)) w_2 fun t4_3 =>
 Cnd t4_3 (
 Bd #[.int .i64 0, .int .i64 0, .int .i64 0] [(0, 1), (1, 1), (2, 1)] [] fun t5_4 =>
 St PP 3 t2_1 t5_4 w_2 fun w_5 =>
 LdA PP 3 t2_1 w_5 fun t2_6 =>
 R t2_6 w_5) (
 Nc a0 fun t7_7 =>
 Fa 0 t7_7 fun t8_8 =>
 Ld t8_8 w_2 fun t9_9 =>
 Nc t9_9 fun t10_10 =>
 Fa 0 t10_10 fun t11_11 =>
 Fa 0 t11_11 fun t12_12 =>
 LdA PP 3 t12_12 w_2 fun t13_13 =>
 St PP 3 t2_1 t13_13 w_2 fun w_14 =>
 LdA PP 3 t2_1 w_14 fun t2_15 =>
 R t2_15 w_14)
def S.tree_Tree_Root.an : Ann := (.seq .leaf (.seq (.seq .leaf (.cond (.seq .leaf .leaf) .leaf)) (.seq .leaf .leaf)))
theorem S.tree_Tree_Root.eq (a0 : Value) (w : World) (R : Value → World → Prop) : S.tree_Tree_Root a0 w R = fnC PP 14 (Tryz.f43.body.getD .skip) S.tree_Tree_Root.an [.cell 2 37] [a0] w R := by kernel_rfl
theorem S.tree_Tree_Root.calls {a0 : Value} {w : World} {R : Value → World → Prop} (h : S.tree_Tree_Root a0 w R) : Ca PP Fn.tree_Tree_Root #[a0] w R :=
  fnC_calls mixed (f := Fn.tree_Tree_Root) (an := S.tree_Tree_Root.an) Tryz.func43 rfl (by show _ ≤ _; exact Nat.le_of_ble_eq_true rfl) (S.tree_Tree_Root.eq a0 w R ▸ h)
end Go.Proofs.YtnnhmahemklnkaaGreatDoor
