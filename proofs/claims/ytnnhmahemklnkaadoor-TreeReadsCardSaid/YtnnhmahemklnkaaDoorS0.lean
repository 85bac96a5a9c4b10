import Derived.Test.YtnnhmahemklnkaaDoorSc
namespace Go.Proofs.YtnnhmahemklnkaaDoor
open Go Go.Sh
set_option linter.unusedVariables false
set_option maxRecDepth 100000
/-- acheron/acheronlaw28.TreeReads -/
def S.law28_TreeReads (a0 : Value) (w : World) (R : Value → World → Prop) : Prop :=
 Al Ty.law28_Reading (a0 : Value).cells w fun t1_1 w_2 =>
 Dr w_2 fun w_3 =>
 Fa 0 t1_1 fun t18_4 =>
 Ld t18_4 w_3 fun t19_5 =>
 Fa 1 t1_1 fun t20_6 =>
 Ld t20_6 w_3 fun t21_7 =>
 Fa 2 t1_1 fun t22_8 =>
 Ld t22_8 w_3 fun t23_9 =>
 Fa 3 t1_1 fun t24_10 =>
 Ld t24_10 w_3 fun t25_11 =>
 Fa 4 t1_1 fun t26_12 =>
 Ld t26_12 w_3 fun t27_13 =>
 Ca PP Fn.law28_awake #[] w_3 fun t28_14 w_15 =>
 Un .not t28_14 fun t29_16 =>
 Cnd t29_16 (
 R (.bool false) w_15) (
 ∀ J_17 : List Value → World → Prop, (∀ t45_20, ∀ w_19 : World, (∀ u_18 : Env,
 Cnd t45_20 (
 R (.bool true) w_19) (
 Ca PP Fn.tree_New #[(.string ⟨#[97, 110, 110]⟩), (.slice none 0 0)] w_19 fun t47_21 w_22 =>
 Ex t47_21 0 fun t48_23 =>
 Ex t47_21 1 fun t49_24 =>
 ∀ J_25 : List Value → World → Prop, (∀ t55_28, ∀ w_27 : World, (∀ u_26 : Env,
 Cnd t55_28 (
 R (.bool false) w_27) (
 Ca PP Fn.tree_Tree_Create #[t48_23, (.string ⟨#[97, 110, 110]⟩), (.int .i64 0), (.string ⟨#[102]⟩), (.int .i64 384), (.int .i64 2)] w_27 fun t58_29 w_30 =>
 Ex t58_29 0 fun t59_31 =>
 Ex t58_29 1 fun t60_32 =>
 Ex t58_29 2 fun t61_33 =>
 Al Ty.api_Qid #[.int .i64 0, .int .i64 0, .int .i64 0] w_30 fun t11_34 w_35 =>
 St PP 3 t11_34 t60_32 w_35 fun w_36 =>
 Bi .neq t61_33 (.int .i64 0) fun t63_37 =>
 Cnd t63_37 (
 R (.bool false) w_36) (
 Ca PP Fn.tree_Tree_Write #[t48_23, t59_31, (.int .i64 0), t19_5] w_36 fun t68_38 w_39 =>
 Ex t68_38 0 fun t69_40 =>
 Ex t68_38 1 fun t70_41 =>
 Cv .i64 t23_9 fun t75_42 =>
 Ca PP Fn.tree_Tree_Write #[t48_23, t59_31, t75_42, t21_7] w_39 fun t77_43 w_44 =>
 Ex t77_43 0 fun t78_45 =>
 Ex t77_43 1 fun t79_46 =>
 ∀ J_47 : List Value → World → Prop, (∀ t97_50, ∀ w_49 : World, (∀ u_48 : Env,
 Cnd t97_50 (
 R (.bool false) w_49) (
 Ef PP (convert Ty.string Ty.sl_uint8 t19_5) w_49 fun t99_51 w_52 =>
 ∀ J_53 : List Value → World → Prop, (∀ t15_56, ∀ w_55 : World, (∀ u_54 : Env,
 Cv .i64 t25_11 fun t122_57 =>
 Cv .i64 t27_13 fun t124_58 =>
 Ca PP Fn.tree_Tree_Read #[t48_23, t59_31, t122_57, t124_58] w_55 fun t125_59 w_60 =>
 Ex t125_59 0 fun t126_61 =>
 Ex t125_59 1 fun t127_62 =>
 Cv .i64 t25_11 fun t130_63 =>
 LnL t15_56 fun t132_64 =>
 Mn t130_63 t132_64 fun t133_65 =>
 Sl 1 t15_56 (some t133_65) none fun t134_66 =>
 ∀ J_67 : List Value → World → Prop, (∀ t2_70, ∀ w_69 : World, (∀ u_68 : Env,
 R t2_70 w_69) → J_67 [t2_70] w_69) →
 Bi .eql t127_62 (.int .i64 0) fun t136_71 =>
 Gd t136_71 true (fun k_72 => k_72 t126_61 w_60) w_60 fun t138_73 w_74 =>
 Gd t136_71 true (fun k_75 => k_75 t134_66 w_74) w_74 fun t139_76 w_77 =>
 Gd t136_71 true (fun k_78 => k_78 t134_66 w_77) w_77 fun t140_79 w_80 =>
 Gd t136_71 true (fun k_81 => LnL t140_79 fun t141_84 =>
 k_81 t141_84 w_80) w_80 fun t141_82 w_83 =>
 Gd t136_71 true (fun k_85 => k_85 t27_13 w_83) w_83 fun t142_86 w_87 =>
 Gd t136_71 true (fun k_88 => Cv .i64 t142_86 fun t143_91 =>
 k_88 t143_91 w_87) w_87 fun t143_89 w_90 =>
 Gd t136_71 true (fun k_92 => Mn t141_82 t143_89 fun t144_95 =>
 k_92 t144_95 w_90) w_90 fun t144_93 w_94 =>
 Gd t136_71 true (fun k_96 => Sl 1 t139_76 none (some t144_93) fun t145_99 =>
 k_96 t145_99 w_94) w_94 fun t145_97 w_98 =>
 Gd t136_71 true (fun k_100 => Rd PP (convert Ty.sl_uint8 Ty.string t145_97) w_98 fun t146_103 =>
 k_100 t146_103 w_98) w_98 fun t146_101 w_102 =>
 Gd t136_71 true (fun k_104 => Bi .eql t138_73 t146_101 fun t147_107 =>
 k_104 t147_107 w_102) w_102 fun t147_105 w_106 =>
 Pk t136_71 t147_105 (.bool false) fun t148_108 =>
 J_67 [t148_108] w_106) → J_53 [t15_56] w_55) →
 Bi .neq t21_7 (.string ⟨#[]⟩) fun t101_109 =>
 Cnd t101_109 (
 ∃ (I_110 : List Value → World → Prop) (m_111 : List Value → World → Nat), I_110 [t99_51] w_52 ∧ ∀ t15_114, ∀ (u_112 : Env) (w_113 : World), I_110 [t15_114] w_113 →
 LnL t15_114 fun t103_115 =>
 Cv .i64 t23_9 fun t105_116 =>
 LnS t21_7 fun t107_117 =>
 Bi .add t105_116 t107_117 fun t108_118 =>
 Bi .lss t103_115 t108_118 fun t109_119 =>
 Cnd t109_119 (
 Ef PP (Instr.buildSlice Ty.sl_uint8 1 #[(0, (.int .u8 0))]) w_113 fun t111_120 w_121 =>
 Ef PP (Builtin.append_ #[Ty.sl_uint8, Ty.sl_uint8] Ty.sl_uint8 #[t15_114, t111_120]) w_121 fun t112_122 w_123 =>
 I_110 [t112_122] w_123 ∧ m_111 [t112_122] w_123 < m_111 [t15_114] w_113) (
 Sl 1 t15_114 (some t23_9) none fun t115_124 =>
 Ef PP (Builtin.copy_ #[Ty.sl_uint8, Ty.string] Ty.int #[t115_124, t21_7]) w_113 fun t117_125 w_126 =>
 J_53 [t15_114] w_126)) (
 J_53 [t99_51] w_52))) → J_47 [t97_50] w_49) →
 Bi .neq t70_41 (.int .i64 0) fun t81_127 =>
 Gd t81_127 false (fun k_128 => k_128 t79_46 w_44) w_44 fun t83_129 w_130 =>
 Gd t81_127 false (fun k_131 => Bi .neq t83_129 (.int .i64 0) fun t84_134 =>
 k_131 t84_134 w_130) w_130 fun t84_132 w_133 =>
 Pk t81_127 (.bool true) t84_132 fun t85_135 =>
 Gd t85_135 false (fun k_136 => k_136 t69_40 w_133) w_133 fun t87_137 w_138 =>
 Gd t85_135 false (fun k_139 => k_139 t19_5 w_138) w_138 fun t88_140 w_141 =>
 Gd t85_135 false (fun k_142 => LnS t88_140 fun t89_145 =>
 k_142 t89_145 w_141) w_141 fun t89_143 w_144 =>
 Gd t85_135 false (fun k_146 => Bi .neq t87_137 t89_143 fun t90_149 =>
 k_146 t90_149 w_144) w_144 fun t90_147 w_148 =>
 Pk t85_135 (.bool true) t90_147 fun t91_150 =>
 Gd t91_150 false (fun k_151 => k_151 t78_45 w_148) w_148 fun t93_152 w_153 =>
 Gd t91_150 false (fun k_154 => k_154 t21_7 w_153) w_153 fun t94_155 w_156 =>
 Gd t91_150 false (fun k_157 => LnS t94_155 fun t95_160 =>
 k_157 t95_160 w_156) w_156 fun t95_158 w_159 =>
 Gd t91_150 false (fun k_161 => Bi .neq t93_152 t95_158 fun t96_164 =>
 k_161 t96_164 w_159) w_159 fun t96_162 w_163 =>
 Pk t91_150 (.bool true) t96_162 fun t97_165 =>
 J_47 [t97_165] w_163))) → J_25 [t55_28] w_27) →
 Bi .neq t49_24 (.int .i64 0) fun t51_166 =>
 Gd t51_166 false (fun k_167 => k_167 t48_23 w_22) w_22 fun t53_168 w_169 =>
 Gd t51_166 false (fun k_170 => Rd PP (eqS .eql Ty.p_tree_Tree (.tmp 53) (.const (.pointer none)) t53_168 (.pointer none)) w_169 fun t54_173 =>
 k_170 t54_173 w_169) w_169 fun t54_171 w_172 =>
 Pk t51_166 (.bool true) t54_171 fun t55_174 =>
 J_25 [t55_174] w_172)) → J_17 [t45_20] w_19) →
 LnS t19_5 fun t31_175 =>
 Bi .gtr t31_175 (.int .i64 600) fun t32_176 =>
 Gd t32_176 false (fun k_177 => k_177 t21_7 w_15) w_15 fun t34_178 w_179 =>
 Gd t32_176 false (fun k_180 => LnS t34_178 fun t35_183 =>
 k_180 t35_183 w_179) w_179 fun t35_181 w_182 =>
 Gd t32_176 false (fun k_184 => Bi .gtr t35_181 (.int .i64 600) fun t36_187 =>
 k_184 t36_187 w_182) w_182 fun t36_185 w_186 =>
 Pk t32_176 (.bool true) t36_185 fun t37_188 =>
 Gd t37_188 false (fun k_189 => k_189 t23_9 w_186) w_186 fun t39_190 w_191 =>
 Gd t37_188 false (fun k_192 => Bi .gtr t39_190 (.int .u16 3000) fun t40_195 =>
 k_192 t40_195 w_191) w_191 fun t40_193 w_194 =>
 Pk t37_188 (.bool true) t40_193 fun t41_196 =>
 Gd t41_196 false (fun k_197 => k_197 t25_11 w_194) w_194 fun t43_198 w_199 =>
 Gd t41_196 false (fun k_200 => Bi .gtr t43_198 (.int .u16 3000) fun t44_203 =>
 k_200 t44_203 w_199) w_199 fun t44_201 w_202 =>
 Pk t41_196 (.bool true) t44_201 fun t45_204 =>
 J_17 [t45_204] w_202)
def S.law28_TreeReads.an : Ann := (.seq .leaf (.seq (.draw [[], [0], [], [2], [], [4], [], [6], [], [8], [0, 1], [0, 1, 2, 3, 10], [0, 1, 2, 3, 4, 5, 10, 11], [0, 1, 2, 3, 4, 5, 6, 7, 10, 11, 12], [0, 1, 2, 3, 4, 5, 6, 7, 8, 9, 10, 11, 12, 13]] (.calm 0 (.calm 1 (.calm 2 (.calm 3 (.calm 4 (.calm 5 (.calm 6 (.calm 7 (.calm 8 (.calm 9 (.calm 10 (.calm 11 (.calm 12 (.calm 13 (.calm 14 .done)))))))))))))))) (.seq (.seq .leaf (.cond (.seq .leaf .leaf) .leaf)) (.seq (.join .leaf [45] [30, 31, 32, 33, 34, 35, 36, 37, 38, 39, 40, 41, 42, 43, 44] (.cond (.seq .leaf .leaf) .leaf)) (.seq .leaf (.seq (.join .leaf [55] [50, 51, 52, 53, 54] (.cond (.seq .leaf .leaf) .leaf)) (.seq .leaf (.seq (.seq .leaf (.cond (.seq .leaf .leaf) .leaf)) (.seq .leaf (.seq .leaf (.seq (.join .leaf [97] [80, 81, 82, 83, 84, 85, 86, 87, 88, 89, 90, 91, 92, 93, 94, 95, 96] (.cond (.seq .leaf .leaf) .leaf)) (.seq .leaf (.join (.seq .leaf (.cond (.seq (.block (.loop (.seq (.seq .leaf (.cond .leaf .leaf)) (.block .leaf)) [15] [102, 103, 104, 105, 106, 107, 108, 109, 110, 111, 112])) .leaf) .leaf)) [15] [100, 101, 102, 103, 104, 105, 106, 107, 108, 109, 110, 111, 112, 113, 114, 115, 116, 117] (.seq .leaf (.seq .leaf (.join .leaf [2] [135, 136, 137, 138, 139, 140, 141, 142, 143, 144, 145, 146, 147, 148] .leaf))))))))))))))))
theorem S.law28_TreeReads.eq (a0 : Value) (w : World) (R : Value → World → Prop) : S.law28_TreeReads a0 w R = fnC PP 149 (Tryd.f3.body.getD .skip) S.law28_TreeReads.an [.tmp 2] [a0] w R := by kernel_rfl
theorem S.law28_TreeReads.calls {a0 : Value} {w : World} {R : Value → World → Prop} (h : S.law28_TreeReads a0 w R) : Ca PP Fn.law28_TreeReads #[a0] w R :=
  fnC_calls mixed (f := Fn.law28_TreeReads) (an := S.law28_TreeReads.an) Tryd.func3 rfl (by show _ ≤ _; exact Nat.le_of_ble_eq_true rfl) (S.law28_TreeReads.eq a0 w R ▸ h)
/-- acheron/acheronlaw28.TreePermits -/
def S.law28_TreePermits (a0 a1 : Value) (w : World) (R : Value → World → Prop) : Prop :=
 Al Ty.law28_Ask (a0 : Value).cells w fun t2_1 w_2 =>
 Ca PP Fn.law28_awake #[] w_2 fun t6_3 w_4 =>
 Un .not t6_3 fun t7_5 =>
 Cnd t7_5 (
 R (.bool false) w_4) (
 LnS a1 fun t9_6 =>
 Bi .gtr t9_6 (.int .i64 100) fun t10_7 =>
 Cnd t10_7 (
 R (.bool true) w_4) (
 Fa 0 t2_1 fun t11_8 =>
 Ld t11_8 w_4 fun t12_9 =>
 Fa 4 t2_1 fun t13_10 =>
 Ld t13_10 w_4 fun t14_11 =>
 Fa 5 t2_1 fun t15_12 =>
 Ld t15_12 w_4 fun t16_13 =>
 Fa 2 t2_1 fun t17_14 =>
 Ld t17_14 w_4 fun t18_15 =>
 Ca PP Fn.tree_Permits #[t12_9, t14_11, t16_13, t18_15] w_4 fun t19_16 w_17 =>
 ∀ J_18 : List Value → World → Prop, (∀ t37_21, ∀ w_20 : World, (∀ u_19 : Env,
 Cnd t37_21 (
 R (.bool false) w_20) (
 ∀ J_22 : List Value → World → Prop, (∀ t4_25, ∀ w_24 : World, (∀ u_23 : Env,
 R t4_25 w_24) → J_22 [t4_25] w_24) →
 Un .not t19_16 fun t39_26 =>
 Gd t39_26 false (fun k_27 => Fa 0 t2_1 fun t41_30 =>
 k_27 t41_30 w_20) w_20 fun t41_28 w_29 =>
 Gd t39_26 false (fun k_31 => Ld t41_28 w_29 fun t42_34 =>
 k_31 t42_34 w_29) w_29 fun t42_32 w_33 =>
 Gd t39_26 false (fun k_35 => Fa 1 t2_1 fun t43_38 =>
 k_35 t43_38 w_33) w_33 fun t43_36 w_37 =>
 Gd t39_26 false (fun k_39 => Ld t43_36 w_37 fun t44_42 =>
 k_39 t44_42 w_37) w_37 fun t44_40 w_41 =>
 Gd t39_26 false (fun k_43 => Bi .or t42_32 t44_40 fun t45_46 =>
 k_43 t45_46 w_41) w_41 fun t45_44 w_45 =>
 Gd t39_26 false (fun k_47 => Fa 4 t2_1 fun t46_50 =>
 k_47 t46_50 w_45) w_45 fun t46_48 w_49 =>
 Gd t39_26 false (fun k_51 => Ld t46_48 w_49 fun t47_54 =>
 k_51 t47_54 w_49) w_49 fun t47_52 w_53 =>
 Gd t39_26 false (fun k_55 => Fa 5 t2_1 fun t48_58 =>
 k_55 t48_58 w_53) w_53 fun t48_56 w_57 =>
 Gd t39_26 false (fun k_59 => Ld t48_56 w_57 fun t49_62 =>
 k_59 t49_62 w_57) w_57 fun t49_60 w_61 =>
 Gd t39_26 false (fun k_63 => Fa 2 t2_1 fun t50_66 =>
 k_63 t50_66 w_61) w_61 fun t50_64 w_65 =>
 Gd t39_26 false (fun k_67 => Ld t50_64 w_65 fun t51_70 =>
 k_67 t51_70 w_65) w_65 fun t51_68 w_69 =>
 Gd t39_26 false (fun k_71 => Ca PP Fn.tree_Permits #[t45_44, t47_52, t49_60, t51_68] w_69 fun t52_74 w_75 =>
 k_71 t52_74 w_75) w_69 fun t52_72 w_73 =>
 Gd t39_26 false (fun k_76 => k_76 t52_72 w_73) w_73 fun t53_77 w_78 =>
 Gd t53_77 true (fun k_79 => Fa 0 t2_1 fun t54_82 =>
 k_79 t54_82 w_78) w_78 fun t54_80 w_81 =>
 Gd t53_77 true (fun k_83 => Ld t54_80 w_81 fun t55_86 =>
 k_83 t55_86 w_81) w_81 fun t55_84 w_85 =>
 Gd t53_77 true (fun k_87 => Fa 4 t2_1 fun t56_90 =>
 k_87 t56_90 w_85) w_85 fun t56_88 w_89 =>
 Gd t53_77 true (fun k_91 => Ld t56_88 w_89 fun t57_94 =>
 k_91 t57_94 w_89) w_89 fun t57_92 w_93 =>
 Gd t53_77 true (fun k_95 => Fa 5 t2_1 fun t58_98 =>
 k_95 t58_98 w_93) w_93 fun t58_96 w_97 =>
 Gd t53_77 true (fun k_99 => Ld t58_96 w_97 fun t59_102 =>
 k_99 t59_102 w_97) w_97 fun t59_100 w_101 =>
 Gd t53_77 true (fun k_103 => Fa 2 t2_1 fun t60_106 =>
 k_103 t60_106 w_101) w_101 fun t60_104 w_105 =>
 Gd t53_77 true (fun k_107 => Ld t60_104 w_105 fun t61_110 =>
 k_107 t61_110 w_105) w_105 fun t61_108 w_109 =>
 Gd t53_77 true (fun k_111 => Fa 3 t2_1 fun t62_114 =>
 k_111 t62_114 w_109) w_109 fun t62_112 w_113 =>
 Gd t53_77 true (fun k_115 => Ld t62_112 w_113 fun t63_118 =>
 k_115 t63_118 w_113) w_113 fun t63_116 w_117 =>
 Gd t53_77 true (fun k_119 => Bi .and t61_108 t63_116 fun t64_122 =>
 k_119 t64_122 w_117) w_117 fun t64_120 w_121 =>
 Gd t53_77 true (fun k_123 => Ca PP Fn.tree_Permits #[t55_84, t57_92, t59_100, t64_120] w_121 fun t65_126 w_127 =>
 k_123 t65_126 w_127) w_121 fun t65_124 w_125 =>
 Gd t39_26 false (fun k_128 => Pk t53_77 t65_124 (.bool false) fun t66_131 =>
 k_128 t66_131 w_125) w_125 fun t66_129 w_130 =>
 Pk t39_26 (.bool true) t66_129 fun t67_132 =>
 J_22 [t67_132] w_130)) → J_18 [t37_21] w_20) →
 Fa 0 t2_1 fun t21_133 =>
 Ld t21_133 w_17 fun t22_134 =>
 Fa 4 t2_1 fun t23_135 =>
 Ld t23_135 w_17 fun t24_136 =>
 Fa 5 t2_1 fun t25_137 =>
 Ld t25_137 w_17 fun t26_138 =>
 Fa 2 t2_1 fun t27_139 =>
 Ld t27_139 w_17 fun t28_140 =>
 Ca PP Fn.r28_Permits #[t22_134, t24_136, t26_138, t28_140] w_17 fun t29_141 w_142 =>
 Beq true t19_16 t29_141 fun t30_143 =>
 Gd t30_143 false (fun k_144 => k_144 a1 w_142) w_142 fun t32_145 w_146 =>
 Gd t30_143 false (fun k_147 => Ca PP Fn.tree_Valid #[t32_145] w_146 fun t33_150 w_151 =>
 k_147 t33_150 w_151) w_146 fun t33_148 w_149 =>
 Gd t30_143 false (fun k_152 => k_152 a1 w_149) w_149 fun t34_153 w_154 =>
 Gd t30_143 false (fun k_155 => Ca PP Fn.r28_Valid #[t34_153] w_154 fun t35_158 w_159 =>
 k_155 t35_158 w_159) w_154 fun t35_156 w_157 =>
 Gd t30_143 false (fun k_160 => Beq true t33_148 t35_156 fun t36_163 =>
 k_160 t36_163 w_157) w_157 fun t36_161 w_162 =>
 Pk t30_143 (.bool true) t36_161 fun t37_164 =>
 J_18 [t37_164] w_162))
def S.law28_TreePermits.an : Ann := (.seq .leaf (.seq (.seq .leaf (.cond (.seq .leaf .leaf) .leaf)) (.seq (.seq .leaf (.cond (.seq .leaf .leaf) .leaf)) (.seq .leaf (.seq (.join .leaf [37] [20, 21, 22, 23, 24, 25, 26, 27, 28, 29, 30, 31, 32, 33, 34, 35, 36] (.cond (.seq .leaf .leaf) .leaf)) (.join .leaf [4] [38, 39, 40, 41, 42, 43, 44, 45, 46, 47, 48, 49, 50, 51, 52, 53, 54, 55, 56, 57, 58, 59, 60, 61, 62, 63, 64, 65, 66, 67] .leaf))))))
theorem S.law28_TreePermits.eq (a0 a1 : Value) (w : World) (R : Value → World → Prop) : S.law28_TreePermits a0 a1 w R = fnC PP 68 (Tryd.f4.body.getD .skip) S.law28_TreePermits.an [.tmp 4] [a0, a1] w R := by kernel_rfl
theorem S.law28_TreePermits.calls {a0 a1 : Value} {w : World} {R : Value → World → Prop} (h : S.law28_TreePermits a0 a1 w R) : Ca PP Fn.law28_TreePermits #[a0, a1] w R :=
  fnC_calls mixed (f := Fn.law28_TreePermits) (an := S.law28_TreePermits.an) Tryd.func4 rfl (by show _ ≤ _; exact Nat.le_of_ble_eq_true rfl) (S.law28_TreePermits.eq a0 a1 w R ▸ h)
/-- acheron/acheronlaw28.awake -/
def S.law28_awake (w : World) (R : Value → World → Prop) : Prop :=
 Ca PP Fn.tree_New #[(.string ⟨#[97, 110, 110]⟩), (.slice none 0 0)] w fun t14_1 w_2 =>
 Ex t14_1 0 fun t15_3 =>
 Ex t14_1 1 fun t16_4 =>
 ∀ J_5 : List Value → World → Prop, (∀ t22_8, ∀ w_7 : World, (∀ u_6 : Env,
 Cnd t22_8 (
 R (.bool false) w_7) (
 Ca PP Fn.tree_Tree_Create #[t15_3, (.string ⟨#[97, 110, 110]⟩), (.int .i64 0), (.string ⟨#[102]⟩), (.int .i64 438), (.int .i64 2)] w_7 fun t25_9 w_10 =>
 Ex t25_9 0 fun t26_11 =>
 Ex t25_9 1 fun t27_12 =>
 Ex t25_9 2 fun t28_13 =>
 Al Ty.api_Qid #[.int .i64 0, .int .i64 0, .int .i64 0] w_10 fun t4_14 w_15 =>
 St PP 3 t4_14 t27_12 w_15 fun w_16 =>
 ∀ J_17 : List Value → World → Prop, (∀ t39_20, ∀ w_19 : World, (∀ u_18 : Env,
 Cnd t39_20 (
 R (.bool false) w_19) (
 Ca PP Fn.tree_Tree_Write #[t15_3, (.int .i64 1), (.int .i64 2), (.string ⟨#[97, 98]⟩)] w_19 fun t42_21 w_22 =>
 Ex t42_21 0 fun t43_23 =>
 Ex t42_21 1 fun t44_24 =>
 Ca PP Fn.tree_Tree_Read #[t15_3, (.int .i64 1), (.int .i64 0), (.int .i64 9)] w_22 fun t47_25 w_26 =>
 Ex t47_25 0 fun t48_27 =>
 Ex t47_25 1 fun t49_28 =>
 Ca PP Fn.tree_Tree_Stat #[t15_3, (.string ⟨#[98, 111, 98]⟩), (.int .i64 1)] w_26 fun t52_29 w_30 =>
 Ex t52_29 0 fun t53_31 =>
 Ex t52_29 1 fun t54_32 =>
 Al Ty.api_Dir #[.int .i64 0, .int .i64 0, .int .i64 0, .int .i64 0, .int .i64 0, .int .i64 0, .string ⟨#[]⟩, .string ⟨#[]⟩, .string ⟨#[]⟩, .string ⟨#[]⟩] w_30 fun t8_33 w_34 =>
 St PP 10 t8_33 t53_31 w_34 fun w_35 =>
 Ca PP Fn.tree_Tree_Open #[t15_3, (.string ⟨#[98, 111, 98]⟩), (.int .i64 1), (.int .i64 1)] w_35 fun t57_36 w_37 =>
 Ex t57_36 0 fun t58_38 =>
 Ex t57_36 1 fun t59_39 =>
 Ex t57_36 2 fun t60_40 =>
 Al Ty.api_Qid #[.int .i64 0, .int .i64 0, .int .i64 0] w_37 fun t11_41 w_42 =>
 St PP 3 t11_41 t59_39 w_42 fun w_43 =>
 ∀ J_44 : List Value → World → Prop, (∀ t0_47, ∀ w_46 : World, (∀ u_45 : Env,
 R t0_47 w_46) → J_44 [t0_47] w_46) →
 Bi .eql t43_23 (.int .i64 2) fun t62_48 =>
 Gd t62_48 true (fun k_49 => k_49 t44_24 w_43) w_43 fun t64_50 w_51 =>
 Gd t62_48 true (fun k_52 => Bi .eql t64_50 (.int .i64 0) fun t65_55 =>
 k_52 t65_55 w_51) w_51 fun t65_53 w_54 =>
 Pk t62_48 t65_53 (.bool false) fun t66_56 =>
 Gd t66_56 true (fun k_57 => k_57 t48_27 w_54) w_54 fun t68_58 w_59 =>
 Gd t66_56 true (fun k_60 => Bi .eql t68_58 (.string ⟨#[0, 0, 97, 98]⟩) fun t69_63 =>
 k_60 t69_63 w_59) w_59 fun t69_61 w_62 =>
 Pk t66_56 t69_61 (.bool false) fun t70_64 =>
 Gd t70_64 true (fun k_65 => k_65 t49_28 w_62) w_62 fun t72_66 w_67 =>
 Gd t70_64 true (fun k_68 => Bi .eql t72_66 (.int .i64 0) fun t73_71 =>
 k_68 t73_71 w_67) w_67 fun t73_69 w_70 =>
 Pk t70_64 t73_69 (.bool false) fun t74_72 =>
 Gd t74_72 true (fun k_73 => k_73 t54_32 w_70) w_70 fun t76_74 w_75 =>
 Gd t74_72 true (fun k_76 => Bi .eql t76_74 (.int .i64 0) fun t77_79 =>
 k_76 t77_79 w_75) w_75 fun t77_77 w_78 =>
 Pk t74_72 t77_77 (.bool false) fun t78_80 =>
 Gd t78_80 true (fun k_81 => Fa 3 t8_33 fun t80_84 =>
 k_81 t80_84 w_78) w_78 fun t80_82 w_83 =>
 Gd t78_80 true (fun k_85 => Ld t80_82 w_83 fun t81_88 =>
 k_85 t81_88 w_83) w_83 fun t81_86 w_87 =>
 Gd t78_80 true (fun k_89 => Bi .eql t81_86 (.int .i64 436) fun t82_92 =>
 k_89 t82_92 w_87) w_87 fun t82_90 w_91 =>
 Pk t78_80 t82_90 (.bool false) fun t83_93 =>
 Gd t83_93 true (fun k_94 => Fa 0 t8_33 fun t85_97 =>
 k_94 t85_97 w_91) w_91 fun t85_95 w_96 =>
 Gd t83_93 true (fun k_98 => Fa 1 t85_95 fun t86_101 =>
 k_98 t86_101 w_96) w_96 fun t86_99 w_100 =>
 Gd t83_93 true (fun k_102 => Ld t86_99 w_100 fun t87_105 =>
 k_102 t87_105 w_100) w_100 fun t87_103 w_104 =>
 Gd t83_93 true (fun k_106 => Bi .eql t87_103 (.int .i64 1) fun t88_109 =>
 k_106 t88_109 w_104) w_104 fun t88_107 w_108 =>
 Pk t83_93 t88_107 (.bool false) fun t89_110 =>
 Gd t89_110 true (fun k_111 => Fa 4 t8_33 fun t91_114 =>
 k_111 t91_114 w_108) w_108 fun t91_112 w_113 =>
 Gd t89_110 true (fun k_115 => Ld t91_112 w_113 fun t92_118 =>
 k_115 t92_118 w_113) w_113 fun t92_116 w_117 =>
 Gd t89_110 true (fun k_119 => Bi .eql t92_116 (.int .i64 2) fun t93_122 =>
 k_119 t93_122 w_117) w_117 fun t93_120 w_121 =>
 Pk t89_110 t93_120 (.bool false) fun t94_123 =>
 Gd t94_123 true (fun k_124 => k_124 t60_40 w_121) w_121 fun t96_125 w_126 =>
 Gd t94_123 true (fun k_127 => Bi .eql t96_125 (.int .i64 17) fun t97_130 =>
 k_127 t97_130 w_126) w_126 fun t97_128 w_129 =>
 Pk t94_123 t97_128 (.bool false) fun t98_131 =>
 Gd t98_131 true (fun k_132 => Ca PP Fn.tree_Clean #[(.string ⟨#[47, 97, 47, 47, 98, 47, 46, 47, 46, 46, 47, 99, 47, 46, 46]⟩)] w_129 fun t100_135 w_136 =>
 k_132 t100_135 w_136) w_129 fun t100_133 w_134 =>
 Gd t98_131 true (fun k_137 => Bi .eql t100_133 (.string ⟨#[47, 97]⟩) fun t101_140 =>
 k_137 t101_140 w_134) w_134 fun t101_138 w_139 =>
 Pk t98_131 t101_138 (.bool false) fun t102_141 =>
 J_44 [t102_141] w_139)) → J_17 [t39_20] w_19) →
 Bi .neq t26_11 (.int .i64 1) fun t30_142 =>
 Gd t30_142 false (fun k_143 => LdA PP 3 t4_14 w_16 fun t32_146 =>
 k_143 t32_146 w_16) w_16 fun t32_144 w_145 =>
 Gd t30_142 false (fun k_147 => Bd #[.int .i64 0, .int .i64 0, .int .i64 0] [(0, 1), (1, 1), (2, 1)] [(2, (.int .i64 1))] fun t33_150 =>
 k_147 t33_150 w_145) w_145 fun t33_148 w_149 =>
 Gd t30_142 false (fun k_151 => Rd PP (eqS .neq Ty.api_Qid (.tmp 32) (.tmp 33) t32_144 t33_148) w_149 fun t34_154 =>
 k_151 t34_154 w_149) w_149 fun t34_152 w_153 =>
 Pk t30_142 (.bool true) t34_152 fun t35_155 =>
 Gd t35_155 false (fun k_156 => k_156 t28_13 w_153) w_153 fun t37_157 w_158 =>
 Gd t35_155 false (fun k_159 => Bi .neq t37_157 (.int .i64 0) fun t38_162 =>
 k_159 t38_162 w_158) w_158 fun t38_160 w_161 =>
 Pk t35_155 (.bool true) t38_160 fun t39_163 =>
 J_17 [t39_163] w_161)) → J_5 [t22_8] w_7) →
 Bi .neq t16_4 (.int .i64 0) fun t18_164 =>
 Gd t18_164 false (fun k_165 => k_165 t15_3 w_2) w_2 fun t20_166 w_167 =>
 Gd t18_164 false (fun k_168 => Rd PP (eqS .eql Ty.p_tree_Tree (.tmp 20) (.const (.pointer none)) t20_166 (.pointer none)) w_167 fun t21_171 =>
 k_168 t21_171 w_167) w_167 fun t21_169 w_170 =>
 Pk t18_164 (.bool true) t21_169 fun t22_172 =>
 J_5 [t22_172] w_170
def S.law28_awake.an : Ann := (.seq .leaf (.seq .leaf (.seq (.join .leaf [22] [17, 18, 19, 20, 21] (.cond (.seq .leaf .leaf) .leaf)) (.seq .leaf (.seq (.join .leaf [39] [29, 30, 31, 32, 33, 34, 35, 36, 37, 38] (.cond (.seq .leaf .leaf) .leaf)) (.seq .leaf (.seq .leaf (.seq .leaf (.seq .leaf (.join .leaf [0] [61, 62, 63, 64, 65, 66, 67, 68, 69, 70, 71, 72, 73, 74, 75, 76, 77, 78, 79, 80, 81, 82, 83, 84, 85, 86, 87, 88, 89, 90, 91, 92, 93, 94, 95, 96, 97, 98, 99, 100, 101, 102] .leaf))))))))))
theorem S.law28_awake.eq (w : World) (R : Value → World → Prop) : S.law28_awake  w R = fnC PP 103 (Tryd.f5.body.getD .skip) S.law28_awake.an [.tmp 0] [] w R := by kernel_rfl
theorem S.law28_awake.calls {w : World} {R : Value → World → Prop} (h : S.law28_awake w R) : Ca PP Fn.law28_awake #[] w R :=
  fnC_calls mixed (f := Fn.law28_awake) (an := S.law28_awake.an) Tryd.func5 rfl (by show _ ≤ _; exact Nat.le_of_ble_eq_true rfl) (S.law28_awake.eq w R ▸ h)
/-- acheron/tree.New -/
def S.tree_New (a0 a1 : Value) (w : World) (R : Value → World → Prop) : Prop :=
 Ef PP (Instr.buildSlice Ty.sl_string 1 #[(0, a0)]) w fun t10_1 w_2 =>
 Ca PP Fn.tree_check #[a1, t10_1] w_2 fun t11_3 w_4 =>
 Bi .neq t11_3 (.int .i64 0) fun t13_5 =>
 Cnd t13_5 (
 R (.tuple #[(.pointer none), t11_3]) w_4) (
 Ca PP Fn.tree_empty #[a1] w_4 fun t16_6 w_7 =>
 MkM w_7 fun t18_8 w_9 =>
 Bd #[.int .i64 0, .int .i64 0, .int .i64 0, .int .i64 0, .int .i64 0, .int .i64 0, .string ⟨#[]⟩, .string ⟨#[]⟩, .string ⟨#[]⟩, .string ⟨#[]⟩, .slice none 0 0, .map none, .pointer none, .bool false] [(0, 10), (10, 1), (11, 1), (12, 1), (13, 1)] [(2, t18_8)] fun t19_10 =>
 Al Ty.tree_node (t19_10 : Value).cells w_9 fun t20_11 w_12 =>
 Nc t16_6 fun t21_13 =>
 Fa 0 t21_13 fun t22_14 =>
 St PP 1 t22_14 t20_11 w_12 fun w_15 =>
 Nc t16_6 fun t24_16 =>
 Fa 0 t24_16 fun t25_17 =>
 Ld t25_17 w_15 fun t26_18 =>
 Bd #[.int .i64 0, .int .i64 0, .int .i64 0, .int .i64 0, .int .i64 0, .int .i64 0, .string ⟨#[]⟩, .string ⟨#[]⟩, .string ⟨#[]⟩, .string ⟨#[]⟩] [(0, 3), (3, 1), (4, 1), (5, 1), (6, 1), (7, 1), (8, 1), (9, 1)] [(5, a0), (6, a0), (7, a0)] fun t30_19 =>
 Nc t26_18 fun t31_20 =>
 Fa 0 t31_20 fun t32_21 =>
 St PP 10 t32_21 t30_19 w_15 fun w_22 =>
 Nc t16_6 fun t34_23 =>
 Fa 0 t34_23 fun t35_24 =>
 Ld t35_24 w_22 fun t36_25 =>
 Ca PP Fn.tree_node_is #[t36_25, (.int .i64 2147484157)] w_22 fun t37_26 w_27 =>
 Dr w_27 fun w_28 =>
 Nc t16_6 fun t39_29 =>
 Fa 1 t39_29 fun t40_30 =>
 Ld t40_30 w_28 fun t41_31 =>
 Nc t16_6 fun t43_32 =>
 Fa 0 t43_32 fun t44_33 =>
 Ld t44_33 w_28 fun t45_34 =>
 Ef PP (Instr.mapUpdate Ty.map_int64_p_tree_node t41_31 (.int .i64 0) t45_34) w_28 fun _ w_35 =>
 R (.tuple #[t16_6, (.int .i64 0)]) w_35)
def S.tree_New.an : Ann := (.seq .leaf (.seq (.seq .leaf (.seq .leaf (.cond (.seq .leaf .leaf) .leaf))) (.seq .leaf (.seq .leaf (.seq .leaf (.seq .leaf (.seq (.draw [[], [0], [0, 1], [0, 1, 2], [], [4], [4, 5], [4, 5, 6], [0, 1, 2, 3, 4, 5, 6, 7]] (.calm 0 (.calm 1 (.calm 2 (.calm 3 (.calm 4 (.calm 5 (.calm 6 (.calm 7 (.eff1 8 [] .done)))))))))) (.seq .leaf .leaf))))))))
theorem S.tree_New.eq (a0 a1 : Value) (w : World) (R : Value → World → Prop) : S.tree_New a0 a1 w R = fnC PP 47 (Tryd.f6.body.getD .skip) S.tree_New.an [.tmp 4, .tmp 5] [a0, a1] w R := by kernel_rfl
theorem S.tree_New.calls {a0 a1 : Value} {w : World} {R : Value → World → Prop} (h : S.tree_New a0 a1 w R) : Ca PP Fn.tree_New #[a0, a1] w R :=
  fnC_calls mixed (f := Fn.tree_New) (an := S.tree_New.an) Tryd.func6 rfl (by show _ ≤ _; exact Nat.le_of_ble_eq_true rfl) (S.tree_New.eq a0 a1 w R ▸ h)
/-- (*acheron/tree.Tree).Create -/
def S.tree_Tree_Create (a0 a1 a2 a3 a4 a5 : Value) (w : World) (R : Value → World → Prop) : Prop :=
 Al Ty.api_Qid #[.int .i64 0, .int .i64 0, .int .i64 0] w fun t13_1 w_2 =>
 Rd PP (eqS .eql Ty.p_tree_Tree (.tmp 19) (.const (.pointer none)) a0 (.pointer none)) w_2 fun t20_3 =>
 Cnd t20_3 (
 Bd #[.int .i64 0, .int .i64 0, .int .i64 0] [(0, 1), (1, 1), (2, 1)] [] fun t21_4 =>
 St PP 3 t13_1 t21_4 w_2 fun w_5 =>
 LdA PP 3 t13_1 w_5 fun t13_6 =>
 R (.tuple #[(.int .i64 0), t13_6, (.int .i64 6)]) w_5) (
 ∀ J_7 : List Value → World → Prop, (∀ t38_10, ∀ w_9 : World, (∀ u_8 : Env,
 Cnd t38_10 (
 Bd #[.int .i64 0, .int .i64 0, .int .i64 0] [(0, 1), (1, 1), (2, 1)] [] fun t39_11 =>
 St PP 3 t13_1 t39_11 w_9 fun w_12 =>
 LdA PP 3 t13_1 w_12 fun t13_13 =>
 R (.tuple #[(.int .i64 0), t13_13, (.int .i64 20)]) w_12) (
 Ca PP Fn.tree_Tree_folder #[a0, a2] w_9 fun t43_14 w_15 =>
 Ex t43_14 0 fun t44_16 =>
 Ex t43_14 1 fun t45_17 =>
 Bi .neq t45_17 (.int .i64 0) fun t48_18 =>
 Cnd t48_18 (
 Bd #[.int .i64 0, .int .i64 0, .int .i64 0] [(0, 1), (1, 1), (2, 1)] [] fun t49_19 =>
 St PP 3 t13_1 t49_19 w_15 fun w_20 =>
 LdA PP 3 t13_1 w_20 fun t13_21 =>
 R (.tuple #[(.int .i64 0), t13_21, t45_17]) w_20) (
 ∀ J_22 : List Value → World → Prop, (∀ t51_25, ∀ w_24 : World, (∀ u_23 : Env,
 Cnd t51_25 (
 Bd #[.int .i64 0, .int .i64 0, .int .i64 0] [(0, 1), (1, 1), (2, 1)] [] fun t60_26 =>
 St PP 3 t13_1 t60_26 w_24 fun w_27 =>
 LdA PP 3 t13_1 w_27 fun t13_28 =>
 R (.tuple #[(.int .i64 0), t13_28, (.int .i64 8)]) w_27) (
 Ca PP Fn.tree_Tree_may #[a0, a1, t44_16, (.int .i64 2)] w_24 fun t65_29 w_30 =>
 Un .not t65_29 fun t66_31 =>
 Cnd t66_31 (
 Bd #[.int .i64 0, .int .i64 0, .int .i64 0] [(0, 1), (1, 1), (2, 1)] [] fun t67_32 =>
 St PP 3 t13_1 t67_32 w_30 fun w_33 =>
 LdA PP 3 t13_1 w_33 fun t13_34 =>
 R (.tuple #[(.int .i64 0), t13_34, (.int .i64 17)]) w_33) (
 Nc t44_16 fun t70_35 =>
 Fa 11 t70_35 fun t71_36 =>
 Ld t71_36 w_30 fun t72_37 =>
 Rd PP (Instr.lookup Ty.map_string_p_tree_node t72_37 a3 false) w_30 fun t74_38 =>
 Rd PP (eqS .neq Ty.p_tree_node (.tmp 74) (.const (.pointer none)) t74_38 (.pointer none)) w_30 fun t75_39 =>
 Cnd t75_39 (
 Bd #[.int .i64 0, .int .i64 0, .int .i64 0] [(0, 1), (1, 1), (2, 1)] [] fun t76_40 =>
 St PP 3 t13_1 t76_40 w_30 fun w_41 =>
 LdA PP 3 t13_1 w_41 fun t13_42 =>
 R (.tuple #[(.int .i64 0), t13_42, (.int .i64 5)]) w_41) (
 ∀ J_43 : List Value → World → Prop, (∀ t77_46, ∀ w_45 : World, (∀ u_44 : Env,
 Cnd t77_46 (
 Bd #[.int .i64 0, .int .i64 0, .int .i64 0] [(0, 1), (1, 1), (2, 1)] [] fun t89_47 =>
 St PP 3 t13_1 t89_47 w_45 fun w_48 =>
 LdA PP 3 t13_1 w_48 fun t13_49 =>
 R (.tuple #[(.int .i64 0), t13_49, (.int .i64 3)]) w_48) (
 Ef PP (Instr.buildSlice Ty.sl_p_tree_node 1 #[(0, t44_16)]) w_45 fun t93_50 w_51 =>
 Ca PP Fn.tree_Tree_change #[a0, a1, t93_50] w_51 fun t94_52 w_53 =>
 Bd #[.int .i64 0, .int .i64 0, .int .i64 0, .int .i64 0, .int .i64 0, .int .i64 0, .string ⟨#[]⟩, .string ⟨#[]⟩, .string ⟨#[]⟩, .string ⟨#[]⟩, .slice none 0 0, .map none, .pointer none, .bool false] [(0, 10), (10, 1), (11, 1), (12, 1), (13, 1)] [(3, t44_16)] fun t96_54 =>
 Al Ty.tree_node (t96_54 : Value).cells w_53 fun t97_55 w_56 =>
 Dr w_56 fun w_57 =>
 Nc a0 fun t100_58 =>
 Fa 3 t100_58 fun t101_59 =>
 Ld t101_59 w_57 fun t102_60 =>
 Bd #[.int .i64 0, .int .i64 0, .int .i64 0] [(0, 1), (1, 1), (2, 1)] [(2, t102_60)] fun t103_61 =>
 Nc a0 fun t105_62 =>
 Fa 4 t105_62 fun t106_63 =>
 Ld t106_63 w_57 fun t107_64 =>
 Nc t44_16 fun t111_65 =>
 Fa 0 t111_65 fun t112_66 =>
 Fa 8 t112_66 fun t113_67 =>
 Ld t113_67 w_57 fun t114_68 =>
 Bd #[.int .i64 0, .int .i64 0, .int .i64 0, .int .i64 0, .int .i64 0, .int .i64 0, .string ⟨#[]⟩, .string ⟨#[]⟩, .string ⟨#[]⟩, .string ⟨#[]⟩] [(0, 3), (3, 1), (4, 1), (5, 1), (6, 1), (7, 1), (8, 1), (9, 1)] [(0, t103_61), (2, t107_64), (4, a3), (5, a1), (6, t114_68), (7, a1)] fun t116_69 =>
 Nc t97_55 fun t117_70 =>
 Fa 0 t117_70 fun t118_71 =>
 St PP 10 t118_71 t116_69 w_57 fun w_72 =>
 ∀ J_73 : List Value → World → Prop, (∀ t18_76, ∀ w_75 : World, (∀ u_74 : Env,
 Un .xor t18_76 fun t129_77 =>
 Nc t44_16 fun t131_78 =>
 Fa 0 t131_78 fun t132_79 =>
 Fa 3 t132_79 fun t133_80 =>
 Ld t133_80 w_75 fun t134_81 =>
 Bi .and t134_81 t18_76 fun t136_82 =>
 Bi .or t129_77 t136_82 fun t137_83 =>
 Bi .and a4 t137_83 fun t138_84 =>
 Ca PP Fn.tree_node_is #[t97_55, t138_84] w_75 fun t139_85 w_86 =>
 Dr w_86 fun w_87 =>
 Nc a0 fun t141_88 =>
 Fa 1 t141_88 fun t142_89 =>
 Ld t142_89 w_87 fun t143_90 =>
 Nc a0 fun t145_91 =>
 Fa 3 t145_91 fun t146_92 =>
 Ld t146_92 w_87 fun t147_93 =>
 Ef PP (Instr.mapUpdate Ty.map_int64_p_tree_node t143_90 t147_93 t97_55) w_87 fun _ w_94 =>
 Nc t44_16 fun t150_95 =>
 Fa 11 t150_95 fun t151_96 =>
 Ld t151_96 w_94 fun t152_97 =>
 Ef PP (Instr.mapUpdate Ty.map_string_p_tree_node t152_97 a3 t97_55) w_94 fun _ w_98 =>
 Nc a0 fun t156_99 =>
 Fa 3 t156_99 fun t157_100 =>
 Ld t157_100 w_98 fun t158_101 =>
 Bi .add t158_101 (.int .i64 1) fun t159_102 =>
 Nc a0 fun t160_103 =>
 Fa 3 t160_103 fun t161_104 =>
 St PP 1 t161_104 t159_102 w_98 fun w_105 =>
 Ca PP Fn.tree_Tree_handle #[a0, t97_55, a5, a1] w_105 fun t166_106 w_107 =>
 Ex t166_106 0 fun t167_108 =>
 Ex t166_106 1 fun t168_109 =>
 Ex t166_106 2 fun t169_110 =>
 St PP 3 t13_1 t168_109 w_107 fun w_111 =>
 LdA PP 3 t13_1 w_111 fun t13_112 =>
 R (.tuple #[t167_108, t13_112, t169_110]) w_111) → J_73 [t18_76] w_75) →
 Bi .and a4 (.int .i64 2147483648) fun t120_113 =>
 Bi .neq t120_113 (.int .i64 0) fun t121_114 =>
 Cnd t121_114 (
 MkM w_72 fun t123_115 w_116 =>
 Nc t97_55 fun t124_117 =>
 Fa 11 t124_117 fun t125_118 =>
 St PP 1 t125_118 t123_115 w_116 fun w_119 =>
 J_73 [(.int .i64 511)] w_119) (
 J_73 [(.int .i64 438)] w_72))) → J_43 [t77_46] w_45) →
 Nc a0 fun t79_120 =>
 Fa 1 t79_120 fun t80_121 =>
 Ld t80_121 w_30 fun t81_122 =>
 Rd PP (Builtin.len_ #[Ty.map_int64_p_tree_node] Ty.int #[t81_122]) w_30 fun t82_123 =>
 Bi .geq t82_123 (.int .i64 1024) fun t83_124 =>
 Gd t83_124 false (fun k_125 => k_125 a0 w_30) w_30 fun t85_126 w_127 =>
 Gd t83_124 false (fun k_128 => Ca PP Fn.tree_Tree_room #[t85_126] w_127 fun t86_131 w_132 =>
 k_128 t86_131 w_132) w_127 fun t86_129 w_130 =>
 Gd t83_124 false (fun k_133 => Un .not t86_129 fun t87_136 =>
 k_133 t87_136 w_130) w_130 fun t87_134 w_135 =>
 Pk t83_124 (.bool true) t87_134 fun t88_137 =>
 J_43 [t88_137] w_135)))) → J_22 [t51_25] w_24) →
 Ca PP Fn.tree_Valid #[a3] w_15 fun t53_138 w_139 =>
 Un .not t53_138 fun t54_140 =>
 Gd t54_140 false (fun k_141 => k_141 a1 w_139) w_139 fun t56_142 w_143 =>
 Gd t54_140 false (fun k_144 => Ca PP Fn.tree_Valid #[t56_142] w_143 fun t57_147 w_148 =>
 k_144 t57_147 w_148) w_143 fun t57_145 w_146 =>
 Gd t54_140 false (fun k_149 => Un .not t57_145 fun t58_152 =>
 k_149 t58_152 w_146) w_146 fun t58_150 w_151 =>
 Pk t54_140 (.bool true) t58_150 fun t59_153 =>
 J_22 [t59_153] w_151))) → J_7 [t38_10] w_9) →
 Bi .andNot a5 (.int .i64 83) fun t23_154 =>
 Bi .neq t23_154 (.int .i64 0) fun t24_155 =>
 Gd t24_155 false (fun k_156 => k_156 a4 w_2) w_2 fun t26_157 w_158 =>
 Gd t24_155 false (fun k_159 => Ca PP Fn.tree_right #[t26_157] w_158 fun t27_162 w_163 =>
 k_159 t27_162 w_163) w_158 fun t27_160 w_161 =>
 Gd t24_155 false (fun k_164 => Un .not t27_160 fun t28_167 =>
 k_164 t28_167 w_161) w_161 fun t28_165 w_166 =>
 Pk t24_155 (.bool true) t28_165 fun t29_168 =>
 Gd t29_168 false (fun k_169 => k_169 a4 w_166) w_166 fun t31_170 w_171 =>
 Gd t29_168 false (fun k_172 => Bi .and t31_170 (.int .i64 2147483648) fun t32_175 =>
 k_172 t32_175 w_171) w_171 fun t32_173 w_174 =>
 Gd t29_168 false (fun k_176 => Bi .neq t32_173 (.int .i64 0) fun t33_179 =>
 k_176 t33_179 w_174) w_174 fun t33_177 w_178 =>
 Gd t29_168 false (fun k_180 => k_180 t33_177 w_178) w_178 fun t34_181 w_182 =>
 Gd t34_181 true (fun k_183 => k_183 a5 w_182) w_182 fun t35_184 w_185 =>
 Gd t34_181 true (fun k_186 => Bi .neq t35_184 (.int .i64 0) fun t36_189 =>
 k_186 t36_189 w_185) w_185 fun t36_187 w_188 =>
 Gd t29_168 false (fun k_190 => Pk t34_181 t36_187 (.bool false) fun t37_193 =>
 k_190 t37_193 w_188) w_188 fun t37_191 w_192 =>
 Pk t29_168 (.bool true) t37_191 fun t38_194 =>
 J_7 [t38_194] w_192)
def S.tree_Tree_Create.an : Ann := (.seq .leaf (.seq (.seq .leaf (.cond (.seq .leaf .leaf) .leaf)) (.seq (.join .leaf [38] [22, 23, 24, 25, 26, 27, 28, 29, 30, 31, 32, 33, 34, 35, 36, 37] (.cond (.seq .leaf .leaf) .leaf)) (.seq .leaf (.seq (.block (.seq .leaf (.cond (.seq .leaf .leaf) (.join .leaf [51] [52, 53, 54, 55, 56, 57, 58, 59] (.cond (.seq .leaf .leaf) (.seq .leaf (.cond (.seq .leaf .leaf) (.seq .leaf (.cond (.seq .leaf .leaf) (.join .leaf [77] [78, 79, 80, 81, 82, 83, 84, 85, 86, 87, 88] (.cond (.seq .leaf .leaf) .leaf))))))))))) (.seq .leaf (.seq .leaf (.seq (.draw [[], [], [1], [1, 2], [1, 2, 3], [1, 2, 3, 4], [], [6], [6, 7], [6, 7, 8], [], [], [], [12], [12, 13], [12, 13, 14], [12, 13, 14, 15], [], [1, 2, 3, 4, 5, 6, 7, 8, 9, 10, 11, 12, 13, 14, 15, 16, 17], [0, 1, 2, 3, 4, 5, 6, 7, 8, 9, 10, 11, 12, 13, 14, 15, 16, 17, 18], [0, 1, 2, 3, 4, 5, 6, 7, 8, 9, 10, 11, 12, 13, 14, 15, 16, 17, 18, 19], [0, 1, 2, 3, 4, 5, 6, 7, 8, 9, 10, 11, 12, 13, 14, 15, 16, 17, 18, 19, 20]] (.calm 0 (.calm 1 (.calm 2 (.calm 3 (.calm 4 (.calm 5 (.calm 6 (.calm 7 (.calm 8 (.calm 9 (.calm 10 (.calm 11 (.calm 12 (.calm 13 (.calm 14 (.calm 15 (.calm 16 (.calm 17 (.calm 18 (.calm 19 (.calm 20 (.eff1 21 [] .done))))))))))))))))))))))) (.seq .leaf (.join (.seq .leaf (.cond .leaf .leaf)) [18] [119, 120, 121, 122, 123, 124, 125] (.seq .leaf (.seq (.draw [[], [0], [0, 1], [0, 1, 2], [], [4], [4, 5], [4, 5, 6], [], [0, 1, 2, 3, 4, 5, 6, 7, 8]] (.calm 0 (.calm 1 (.calm 2 (.calm 3 (.calm 4 (.calm 5 (.calm 6 (.calm 7 (.calm 8 (.eff1 9 [] .done))))))))))) (.seq .leaf (.seq .leaf (.seq .leaf .leaf)))))))))))))))
theorem S.tree_Tree_Create.eq (a0 a1 a2 a3 a4 a5 : Value) (w : World) (R : Value → World → Prop) : S.tree_Tree_Create a0 a1 a2 a3 a4 a5 w R = fnC PP 170 (Tryd.f7.body.getD .skip) S.tree_Tree_Create.an [.tmp 12, .cell 13 31, .tmp 14] [a0, a1, a2, a3, a4, a5] w R := by kernel_rfl
theorem S.tree_Tree_Create.calls {a0 a1 a2 a3 a4 a5 : Value} {w : World} {R : Value → World → Prop} (h : S.tree_Tree_Create a0 a1 a2 a3 a4 a5 w R) : Ca PP Fn.tree_Tree_Create #[a0, a1, a2, a3, a4, a5] w R :=
  fnC_calls mixed (f := Fn.tree_Tree_Create) (an := S.tree_Tree_Create.an) Tryd.func7 rfl (by show _ ≤ _; exact Nat.le_of_ble_eq_true rfl) (S.tree_Tree_Create.eq a0 a1 a2 a3 a4 a5 w R ▸ h)
/-- (*acheron/tree.Tree).Write -/
def S.tree_Tree_Write (a0 a1 a2 a3 : Value) (w : World) (R : Value → World → Prop) : Prop :=
 Ca PP Fn.tree_Tree_opened #[a0, a1] w fun t15_1 w_2 =>
 Ex t15_1 0 fun t16_3 =>
 Ex t15_1 1 fun t17_4 =>
 Al Ty.tree_handle #[.pointer none, .int .i64 0, .string ⟨#[]⟩] w_2 fun t10_5 w_6 =>
 St PP 3 t10_5 t16_3 w_6 fun w_7 =>
 Bi .neq t17_4 (.int .i64 0) fun t20_8 =>
 Cnd t20_8 (
 R (.tuple #[(.int .i64 0), t17_4]) w_7) (
 ∀ J_9 : List Value → World → Prop, (∀ t22_12, ∀ w_11 : World, (∀ u_10 : Env,
 Cnd t22_12 (
 R (.tuple #[(.int .i64 0), (.int .i64 20)]) w_11) (
 Fa 0 t10_5 fun t34_13 =>
 Ld t34_13 w_11 fun t35_14 =>
 Nc t35_14 fun t36_15 =>
 Fa 13 t36_15 fun t37_16 =>
 Ld t37_16 w_11 fun t38_17 =>
 Cnd t38_17 (
 R (.tuple #[(.int .i64 0), (.int .i64 4)]) w_11) (
 Bi .lss a2 (.int .i64 0) fun t41_18 =>
 Cnd t41_18 (
 R (.tuple #[(.int .i64 0), (.int .i64 11)]) w_11) (
 Bi .eql a3 (.string ⟨#[]⟩) fun t44_19 =>
 Cnd t44_19 (
 R (.tuple #[(.int .i64 0), (.int .i64 0)]) w_11) (
 ∀ J_20 : List Value → World → Prop, (∀ t2_23, ∀ w_22 : World, (∀ u_21 : Env,
 ∀ J_24 : List Value → World → Prop, (∀ t68_27, ∀ w_26 : World, (∀ u_25 : Env,
 Cnd t68_27 (
 R (.tuple #[(.int .i64 0), (.int .i64 3)]) w_26) (
 Dr w_26 fun w_28 =>
 Fa 0 t10_5 fun t69_29 =>
 Ld t69_29 w_28 fun t70_30 =>
 Fa 0 t10_5 fun t71_31 =>
 Ld t71_31 w_28 fun t72_32 =>
 Nc t72_32 fun t73_33 =>
 Fa 10 t73_33 fun t74_34 =>
 Ld t74_34 w_28 fun t75_35 =>
 LnL t75_35 fun t76_36 =>
 LnS a3 fun t79_37 =>
 Bi .add t2_23 t79_37 fun t80_38 =>
 Mx t76_36 t80_38 fun t81_39 =>
 Ca PP Fn.tree_node_resize #[t70_30, t81_39] w_28 fun t82_40 w_41 =>
 Fa 0 t10_5 fun t83_42 =>
 Ld t83_42 w_41 fun t84_43 =>
 Nc t84_43 fun t85_44 =>
 Fa 10 t85_44 fun t86_45 =>
 Ld t86_45 w_41 fun t87_46 =>
 Sl 1 t87_46 (some t2_23) none fun t89_47 =>
 Ef PP (Builtin.copy_ #[Ty.sl_uint8, Ty.string] Ty.int #[t89_47, a3]) w_41 fun t91_48 w_49 =>
 Fa 2 t10_5 fun t93_50 =>
 Ld t93_50 w_49 fun t94_51 =>
 Fa 0 t10_5 fun t95_52 =>
 Ld t95_52 w_49 fun t96_53 =>
 Ef PP (Instr.buildSlice Ty.sl_p_tree_node 1 #[(0, t96_53)]) w_49 fun t97_54 w_55 =>
 Ca PP Fn.tree_Tree_change #[a0, t94_51, t97_54] w_55 fun t98_56 w_57 =>
 LnS a3 fun t100_58 =>
 R (.tuple #[t100_58, (.int .i64 0)]) w_57)) → J_24 [t68_27] w_26) →
 LnS a3 fun t60_59 =>
 Bi .gtr t60_59 (.int .i64 1048576) fun t61_60 =>
 Gd t61_60 false (fun k_61 => k_61 t2_23 w_22) w_22 fun t63_62 w_63 =>
 Gd t61_60 false (fun k_64 => k_64 a3 w_63) w_63 fun t64_65 w_66 =>
 Gd t61_60 false (fun k_67 => LnS t64_65 fun t65_70 =>
 k_67 t65_70 w_66) w_66 fun t65_68 w_69 =>
 Gd t61_60 false (fun k_71 => Bi .sub (.int .i64 1048576) t65_68 fun t66_74 =>
 k_71 t66_74 w_69) w_69 fun t66_72 w_73 =>
 Gd t61_60 false (fun k_75 => Bi .gtr t63_62 t66_72 fun t67_78 =>
 k_75 t67_78 w_73) w_73 fun t67_76 w_77 =>
 Pk t61_60 (.bool true) t67_76 fun t68_79 =>
 J_24 [t68_79] w_77) → J_20 [t2_23] w_22) →
 Fa 0 t10_5 fun t45_80 =>
 Ld t45_80 w_11 fun t46_81 =>
 Nc t46_81 fun t47_82 =>
 Fa 0 t47_82 fun t48_83 =>
 Fa 3 t48_83 fun t49_84 =>
 Ld t49_84 w_11 fun t50_85 =>
 Bi .and t50_85 (.int .i64 1073741824) fun t51_86 =>
 Bi .neq t51_86 (.int .i64 0) fun t52_87 =>
 Cnd t52_87 (
 Fa 0 t10_5 fun t53_88 =>
 Ld t53_88 w_11 fun t54_89 =>
 Nc t54_89 fun t55_90 =>
 Fa 10 t55_90 fun t56_91 =>
 Ld t56_91 w_11 fun t57_92 =>
 LnL t57_92 fun t58_93 =>
 J_20 [t58_93] w_11) (
 J_20 [a2] w_11)))))) → J_9 [t22_12] w_11) →
 Fa 1 t10_5 fun t23_94 =>
 Ld t23_94 w_7 fun t24_95 =>
 Bi .and t24_95 (.int .i64 3) fun t25_96 =>
 Bi .neq t25_96 (.int .i64 1) fun t26_97 =>
 Gd t26_97 true (fun k_98 => Fa 1 t10_5 fun t28_101 =>
 k_98 t28_101 w_7) w_7 fun t28_99 w_100 =>
 Gd t26_97 true (fun k_102 => Ld t28_99 w_100 fun t29_105 =>
 k_102 t29_105 w_100) w_100 fun t29_103 w_104 =>
 Gd t26_97 true (fun k_106 => Bi .and t29_103 (.int .i64 3) fun t30_109 =>
 k_106 t30_109 w_104) w_104 fun t30_107 w_108 =>
 Gd t26_97 true (fun k_110 => Bi .neq t30_107 (.int .i64 2) fun t31_113 =>
 k_110 t31_113 w_108) w_108 fun t31_111 w_112 =>
 Pk t26_97 t31_111 (.bool false) fun t32_114 =>
 J_9 [t32_114] w_112)
def S.tree_Tree_Write.an : Ann := (.seq .leaf (.seq .leaf (.seq (.block (.seq .leaf (.cond (.seq .leaf .leaf) (.join .leaf [22] [23, 24, 25, 26, 27, 28, 29, 30, 31, 32] (.cond (.seq .leaf .leaf) (.seq .leaf (.cond (.seq .leaf .leaf) (.seq .leaf (.cond (.seq .leaf .leaf) (.seq .leaf (.cond (.seq .leaf .leaf) .leaf))))))))))) (.join (.seq .leaf (.cond .leaf .leaf)) [2] [45, 46, 47, 48, 49, 50, 51, 52, 53, 54, 55, 56, 57, 58] (.seq (.join .leaf [68] [59, 60, 61, 62, 63, 64, 65, 66, 67] (.cond (.seq .leaf .leaf) .leaf)) (.seq (.draw [[], [0], [], [2], [2, 3], [2, 3, 4], [2, 3, 4, 5], [2, 3, 4, 5, 6], [], [], [9], [8, 9, 10], [2, 3, 4, 5, 6, 7, 8, 9, 10, 11], [0, 1, 2, 3, 4, 5, 6, 7, 8, 9, 10, 11, 12]] (.calm 0 (.calm 1 (.calm 2 (.calm 3 (.calm 4 (.calm 5 (.calm 6 (.calm 7 (.calm 8 (.calm 9 (.calm 10 (.calm 11 (.calm 12 (.eff1 13 [] .done))))))))))))))) (.seq .leaf (.seq .leaf (.seq .leaf .leaf)))))))))
theorem S.tree_Tree_Write.eq (a0 a1 a2 a3 : Value) (w : World) (R : Value → World → Prop) : S.tree_Tree_Write a0 a1 a2 a3 w R = fnC PP 101 (Tryd.f8.body.getD .skip) S.tree_Tree_Write.an [.tmp 8, .tmp 9] [a0, a1, a2, a3] w R := by kernel_rfl
theorem S.tree_Tree_Write.calls {a0 a1 a2 a3 : Value} {w : World} {R : Value → World → Prop} (h : S.tree_Tree_Write a0 a1 a2 a3 w R) : Ca PP Fn.tree_Tree_Write #[a0, a1, a2, a3] w R :=
  fnC_calls mixed (f := Fn.tree_Tree_Write) (an := S.tree_Tree_Write.an) Tryd.func8 rfl (by show _ ≤ _; exact Nat.le_of_ble_eq_true rfl) (S.tree_Tree_Write.eq a0 a1 a2 a3 w R ▸ h)
/-- (*acheron/tree.Tree).Read -/
def S.tree_Tree_Read (a0 a1 a2 a3 : Value) (w : World) (R : Value → World → Prop) : Prop :=
 Ca PP Fn.tree_Tree_opened #[a0, a1] w fun t16_1 w_2 =>
 Ex t16_1 0 fun t17_3 =>
 Ex t16_1 1 fun t18_4 =>
 Al Ty.tree_handle #[.pointer none, .int .i64 0, .string ⟨#[]⟩] w_2 fun t10_5 w_6 =>
 St PP 3 t10_5 t17_3 w_6 fun w_7 =>
 Bi .neq t18_4 (.int .i64 0) fun t21_8 =>
 Cnd t21_8 (
 R (.tuple #[(.string ⟨#[]⟩), t18_4]) w_7) (
 Fa 1 t10_5 fun t24_9 =>
 Ld t24_9 w_7 fun t25_10 =>
 Bi .and t25_10 (.int .i64 3) fun t26_11 =>
 Bi .eql t26_11 (.int .i64 1) fun t27_12 =>
 Cnd t27_12 (
 R (.tuple #[(.string ⟨#[]⟩), (.int .i64 20)]) w_7) (
 Fa 0 t10_5 fun t29_13 =>
 Ld t29_13 w_7 fun t30_14 =>
 Nc t30_14 fun t31_15 =>
 Fa 13 t31_15 fun t32_16 =>
 Ld t32_16 w_7 fun t33_17 =>
 Cnd t33_17 (
 R (.tuple #[(.string ⟨#[]⟩), (.int .i64 4)]) w_7) (
 Fa 0 t10_5 fun t35_18 =>
 Ld t35_18 w_7 fun t36_19 =>
 Ca PP Fn.tree_node_isDir #[t36_19] w_7 fun t37_20 w_21 =>
 Cnd t37_20 (
 R (.tuple #[(.string ⟨#[]⟩), (.int .i64 18)]) w_21) (
 ∀ J_22 : List Value → World → Prop, (∀ t38_25, ∀ w_24 : World, (∀ u_23 : Env,
 Cnd t38_25 (
 R (.tuple #[(.string ⟨#[]⟩), (.int .i64 11)]) w_24) (
 Fa 0 t10_5 fun t47_26 =>
 Ld t47_26 w_24 fun t48_27 =>
 Nc t48_27 fun t49_28 =>
 Fa 10 t49_28 fun t50_29 =>
 Ld t50_29 w_24 fun t51_30 =>
 LnL t51_30 fun t52_31 =>
 Bi .geq a2 t52_31 fun t53_32 =>
 Cnd t53_32 (
 R (.tuple #[(.string ⟨#[]⟩), (.int .i64 0)]) w_24) (
 Fa 0 t10_5 fun t54_33 =>
 Ld t54_33 w_24 fun t55_34 =>
 Nc t55_34 fun t56_35 =>
 Fa 10 t56_35 fun t57_36 =>
 Ld t57_36 w_24 fun t58_37 =>
 Sl 1 t58_37 (some a2) none fun t60_38 =>
 LnL t60_38 fun t64_39 =>
 Mn a3 t64_39 fun t65_40 =>
 Sl 1 t60_38 none (some t65_40) fun t66_41 =>
 Rd PP (convert Ty.sl_uint8 Ty.string t66_41) w_24 fun t67_42 =>
 R (.tuple #[t67_42, (.int .i64 0)]) w_24))) → J_22 [t38_25] w_24) →
 Bi .lss a2 (.int .i64 0) fun t40_43 =>
 Gd t40_43 false (fun k_44 => k_44 a3 w_21) w_21 fun t42_45 w_46 =>
 Gd t40_43 false (fun k_47 => Bi .lss t42_45 (.int .i64 0) fun t43_50 =>
 k_47 t43_50 w_46) w_46 fun t43_48 w_49 =>
 Pk t40_43 (.bool true) t43_48 fun t44_51 =>
 J_22 [t44_51] w_49))))
def S.tree_Tree_Read.an : Ann := (.seq .leaf (.seq .leaf (.seq (.block (.seq .leaf (.cond (.seq .leaf .leaf) (.seq .leaf (.cond (.seq .leaf .leaf) (.seq .leaf (.cond (.seq .leaf .leaf) (.seq .leaf (.cond (.seq .leaf .leaf) (.join .leaf [38] [39, 40, 41, 42, 43, 44] (.cond (.seq .leaf .leaf) (.seq .leaf (.cond (.seq .leaf .leaf) .leaf))))))))))))) (.seq .leaf (.seq .leaf .leaf)))))
theorem S.tree_Tree_Read.eq (a0 a1 a2 a3 : Value) (w : World) (R : Value → World → Prop) : S.tree_Tree_Read a0 a1 a2 a3 w R = fnC PP 68 (Tryd.f9.body.getD .skip) S.tree_Tree_Read.an [.tmp 8, .tmp 9] [a0, a1, a2, a3] w R := by kernel_rfl
theorem S.tree_Tree_Read.calls {a0 a1 a2 a3 : Value} {w : World} {R : Value → World → Prop} (h : S.tree_Tree_Read a0 a1 a2 a3 w R) : Ca PP Fn.tree_Tree_Read #[a0, a1, a2, a3] w R :=
  fnC_calls mixed (f := Fn.tree_Tree_Read) (an := S.tree_Tree_Read.an) Tryd.func9 rfl (by show _ ≤ _; exact Nat.le_of_ble_eq_true rfl) (S.tree_Tree_Read.eq a0 a1 a2 a3 w R ▸ h)
/-- acheron/tree.Permits -/
def S.tree_Permits (a0 a1 a2 a3 : Value) (w : World) (R : Value → World → Prop) : Prop :=
 ∀ J_1 : List Value → World → Prop, (∀ t0_4, ∀ w_3 : World, (∀ u_2 : Env,
 Bi .and a3 (.int .i64 7) fun t18_5 =>
 Bi .andNot t18_5 t0_4 fun t20_6 =>
 Bi .eql t20_6 (.int .i64 0) fun t21_7 =>
 R t21_7 w_3) → J_1 [t0_4] w_3) →
 Cnd a1 (
 Bi .shr a0 (.int .u64 6) fun t12_8 =>
 J_1 [t12_8] w) (
 Cnd a2 (
 Bi .shr a0 (.int .u64 3) fun t16_9 =>
 J_1 [t16_9] w) (
 J_1 [a0] w))
def S.tree_Permits.an : Ann := (.seq .leaf (.join (.block (.seq .leaf (.cond .leaf (.seq .leaf (.cond .leaf .leaf))))) [0] [9, 10, 11, 12, 13, 14, 15, 16] (.seq .leaf .leaf)))
theorem S.tree_Permits.eq (a0 a1 a2 a3 : Value) (w : World) (R : Value → World → Prop) : S.tree_Permits a0 a1 a2 a3 w R = fnC PP 22 (Tryd.f10.body.getD .skip) S.tree_Permits.an [.tmp 8] [a0, a1, a2, a3] w R := by kernel_rfl
theorem S.tree_Permits.calls {a0 a1 a2 a3 : Value} {w : World} {R : Value → World → Prop} (h : S.tree_Permits a0 a1 a2 a3 w R) : Ca PP Fn.tree_Permits #[a0, a1, a2, a3] w R :=
  fnC_calls mixed (f := Fn.tree_Permits) (an := S.tree_Permits.an) Tryd.func10 rfl (by show _ ≤ _; exact Nat.le_of_ble_eq_true rfl) (S.tree_Permits.eq a0 a1 a2 a3 w R ▸ h)
/-- acheron/acheronref28.Permits -/
def S.r28_Permits (a0 a1 a2 a3 : Value) (w : World) (R : Value → World → Prop) : Prop :=
 Bi .and a0 (.int .i64 7) fun t11_1 =>
 ∀ J_2 : List Value → World → Prop, (∀ t9_5, ∀ w_4 : World, (∀ u_3 : Env,
 Bi .and a3 (.int .i64 7) fun t21_6 =>
 Bi .andNot t21_6 t9_5 fun t23_7 =>
 Bi .eql t23_7 (.int .i64 0) fun t24_8 =>
 R t24_8 w_4) → J_2 [t9_5] w_4) →
 Cnd a1 (
 Bi .shr a0 (.int .u64 6) fun t14_9 =>
 Bi .and t14_9 (.int .i64 7) fun t15_10 =>
 J_2 [t15_10] w) (
 Cnd a2 (
 Bi .shr a0 (.int .u64 3) fun t18_11 =>
 Bi .and t18_11 (.int .i64 7) fun t19_12 =>
 J_2 [t19_12] w) (
 J_2 [t11_1] w))
def S.r28_Permits.an : Ann := (.seq .leaf (.seq .leaf (.join (.seq .leaf (.cond .leaf (.seq .leaf (.cond .leaf .leaf)))) [9] [12, 13, 14, 15, 16, 17, 18, 19] (.seq .leaf .leaf))))
theorem S.r28_Permits.eq (a0 a1 a2 a3 : Value) (w : World) (R : Value → World → Prop) : S.r28_Permits a0 a1 a2 a3 w R = fnC PP 25 (Tryd.f11.body.getD .skip) S.r28_Permits.an [.tmp 8] [a0, a1, a2, a3] w R := by kernel_rfl
theorem S.r28_Permits.calls {a0 a1 a2 a3 : Value} {w : World} {R : Value → World → Prop} (h : S.r28_Permits a0 a1 a2 a3 w R) : Ca PP Fn.r28_Permits #[a0, a1, a2, a3] w R :=
  fnC_calls mixed (f := Fn.r28_Permits) (an := S.r28_Permits.an) Tryd.func11 rfl (by show _ ≤ _; exact Nat.le_of_ble_eq_true rfl) (S.r28_Permits.eq a0 a1 a2 a3 w R ▸ h)
/-- acheron/tree.Valid -/
def S.tree_Valid (a0 : Value) (w : World) (R : Value → World → Prop) : Prop :=
 LnS a0 fun t6_1 =>
 ∃ (I_2 : List Value → World → Prop) (m_3 : List Value → World → Nat), I_2 [(.int .i64 0)] w ∧ ∀ t7_6, ∀ (u_4 : Env) (w_5 : World), I_2 [t7_6] w_5 →
 Bi .lss t7_6 t6_1 fun t8_7 =>
 Cnd t8_7 (
 IxS a0 t7_6 fun t12_8 =>
 ∀ J_9 : List Value → World → Prop, (∀ t22_12, ∀ w_11 : World, (∀ u_10 : Env,
 Cnd t22_12 (
 R (.bool false) w_11) (
 Bi .add t7_6 (.int .i64 1) fun t23_13 =>
 I_2 [t23_13] w_11 ∧ m_3 [t23_13] w_11 < m_3 [t7_6] w_5)) → J_9 [t22_12] w_11) →
 Bi .lss t12_8 (.int .u8 33) fun t14_14 =>
 Gd t14_14 false (fun k_15 => k_15 t12_8 w_5) w_5 fun t16_16 w_17 =>
 Gd t14_14 false (fun k_18 => Bi .gtr t16_16 (.int .u8 126) fun t17_21 =>
 k_18 t17_21 w_17) w_17 fun t17_19 w_20 =>
 Pk t14_14 (.bool true) t17_19 fun t18_22 =>
 Gd t18_22 false (fun k_23 => k_23 t12_8 w_20) w_20 fun t20_24 w_25 =>
 Gd t18_22 false (fun k_26 => Bi .eql t20_24 (.int .u8 47) fun t21_29 =>
 k_26 t21_29 w_25) w_25 fun t21_27 w_28 =>
 Pk t18_22 (.bool true) t21_27 fun t22_30 =>
 J_9 [t22_30] w_28) (
 ∀ J_31 : List Value → World → Prop, (∀ t2_34, ∀ w_33 : World, (∀ u_32 : Env,
 R t2_34 w_33) → J_31 [t2_34] w_33) →
 Bi .neq a0 (.string ⟨#[]⟩) fun t25_35 =>
 Gd t25_35 true (fun k_36 => k_36 a0 w_5) w_5 fun t27_37 w_38 =>
 Gd t25_35 true (fun k_39 => LnS t27_37 fun t28_42 =>
 k_39 t28_42 w_38) w_38 fun t28_40 w_41 =>
 Gd t25_35 true (fun k_43 => Bi .leq t28_40 (.int .i64 40) fun t29_46 =>
 k_43 t29_46 w_41) w_41 fun t29_44 w_45 =>
 Pk t25_35 t29_44 (.bool false) fun t30_47 =>
 Gd t30_47 true (fun k_48 => k_48 a0 w_45) w_45 fun t32_49 w_50 =>
 Gd t30_47 true (fun k_51 => Bi .neq t32_49 (.string ⟨#[46]⟩) fun t33_54 =>
 k_51 t33_54 w_50) w_50 fun t33_52 w_53 =>
 Pk t30_47 t33_52 (.bool false) fun t34_55 =>
 Gd t34_55 true (fun k_56 => k_56 a0 w_53) w_53 fun t36_57 w_58 =>
 Gd t34_55 true (fun k_59 => Bi .neq t36_57 (.string ⟨#[46, 46]⟩) fun t37_62 =>
 k_59 t37_62 w_58) w_58 fun t37_60 w_61 =>
 Pk t34_55 t37_60 (.bool false) fun t38_63 =>
 J_31 [t38_63] w_61)
def S.tree_Valid.an : Ann := (.seq .leaf (.seq (.seq .leaf (.block (.loop (.seq .leaf (.seq (.cond .leaf .leaf) (.seq (.block (.seq .leaf (.seq .leaf (.join .leaf [22] [13, 14, 15, 16, 17, 18, 19, 20, 21] (.cond (.seq .leaf .leaf) .leaf))))) .leaf))) [7] [2, 3, 4, 8, 9, 10, 11, 12, 13, 14, 15, 16, 17, 18, 19, 20, 21, 22, 23]))) (.join .leaf [2] [24, 25, 26, 27, 28, 29, 30, 31, 32, 33, 34, 35, 36, 37, 38] .leaf)))
theorem S.tree_Valid.eq (a0 : Value) (w : World) (R : Value → World → Prop) : S.tree_Valid a0 w R = fnC PP 39 (Tryd.f12.body.getD .skip) S.tree_Valid.an [.tmp 2] [a0] w R := by kernel_rfl
theorem S.tree_Valid.calls {a0 : Value} {w : World} {R : Value → World → Prop} (h : S.tree_Valid a0 w R) : Ca PP Fn.tree_Valid #[a0] w R :=
  fnC_calls mixed (f := Fn.tree_Valid) (an := S.tree_Valid.an) Tryd.func12 rfl (by show _ ≤ _; exact Nat.le_of_ble_eq_true rfl) (S.tree_Valid.eq a0 w R ▸ h)
/-- acheron/acheronref28.Valid -/
def S.r28_Valid (a0 : Value) (w : World) (R : Value → World → Prop) : Prop :=
 ∃ (I_1 : List Value → World → Prop) (m_2 : List Value → World → Nat), I_1 [(.int .i64 0)] w ∧ ∀ t3_5, ∀ (u_3 : Env) (w_4 : World), I_1 [t3_5] w_4 →
 LnS a0 fun t6_6 =>
 Bi .lss t3_5 t6_6 fun t7_7 =>
 Cnd t7_7 (
 ∀ J_8 : List Value → World → Prop, (∀ t25_11, ∀ w_10 : World, (∀ u_9 : Env,
 Cnd t25_11 (
 R (.bool false) w_10) (
 Bi .add t3_5 (.int .i64 1) fun t9_12 =>
 I_1 [t9_12] w_10 ∧ m_2 [t9_12] w_10 < m_2 [t3_5] w_4)) → J_8 [t25_11] w_10) →
 IxS a0 t3_5 fun t12_13 =>
 Bi .lss t12_13 (.int .u8 33) fun t13_14 =>
 Gd t13_14 false (fun k_15 => k_15 a0 w_4) w_4 fun t15_16 w_17 =>
 Gd t13_14 false (fun k_18 => k_18 t3_5 w_17) w_17 fun t16_19 w_20 =>
 Gd t13_14 false (fun k_21 => IxS t15_16 t16_19 fun t17_24 =>
 k_21 t17_24 w_20) w_20 fun t17_22 w_23 =>
 Gd t13_14 false (fun k_25 => Bi .gtr t17_22 (.int .u8 126) fun t18_28 =>
 k_25 t18_28 w_23) w_23 fun t18_26 w_27 =>
 Pk t13_14 (.bool true) t18_26 fun t19_29 =>
 Gd t19_29 false (fun k_30 => k_30 a0 w_27) w_27 fun t21_31 w_32 =>
 Gd t19_29 false (fun k_33 => k_33 t3_5 w_32) w_32 fun t22_34 w_35 =>
 Gd t19_29 false (fun k_36 => IxS t21_31 t22_34 fun t23_39 =>
 k_36 t23_39 w_35) w_35 fun t23_37 w_38 =>
 Gd t19_29 false (fun k_40 => Bi .eql t23_37 (.int .u8 47) fun t24_43 =>
 k_40 t24_43 w_38) w_38 fun t24_41 w_42 =>
 Pk t19_29 (.bool true) t24_41 fun t25_44 =>
 J_8 [t25_44] w_42) (
 ∀ J_45 : List Value → World → Prop, (∀ t2_48, ∀ w_47 : World, (∀ u_46 : Env,
 R t2_48 w_47) → J_45 [t2_48] w_47) →
 LnS a0 fun t27_49 =>
 Bi .geq t27_49 (.int .i64 1) fun t28_50 =>
 Gd t28_50 true (fun k_51 => k_51 a0 w_4) w_4 fun t30_52 w_53 =>
 Gd t28_50 true (fun k_54 => LnS t30_52 fun t31_57 =>
 k_54 t31_57 w_53) w_53 fun t31_55 w_56 =>
 Gd t28_50 true (fun k_58 => Bi .leq t31_55 (.int .i64 40) fun t32_61 =>
 k_58 t32_61 w_56) w_56 fun t32_59 w_60 =>
 Pk t28_50 t32_59 (.bool false) fun t33_62 =>
 Gd t33_62 true (fun k_63 => k_63 a0 w_60) w_60 fun t35_64 w_65 =>
 Gd t33_62 true (fun k_66 => Bi .neq t35_64 (.string ⟨#[46]⟩) fun t36_69 =>
 k_66 t36_69 w_65) w_65 fun t36_67 w_68 =>
 Pk t33_62 t36_67 (.bool false) fun t37_70 =>
 Gd t37_70 true (fun k_71 => k_71 a0 w_68) w_68 fun t39_72 w_73 =>
 Gd t37_70 true (fun k_74 => Bi .neq t39_72 (.string ⟨#[46, 46]⟩) fun t40_77 =>
 k_74 t40_77 w_73) w_73 fun t40_75 w_76 =>
 Pk t37_70 t40_75 (.bool false) fun t41_78 =>
 J_45 [t41_78] w_76)
def S.r28_Valid.an : Ann := (.seq .leaf (.seq (.seq .leaf (.block (.loop (.seq (.seq .leaf (.cond .leaf .leaf)) (.seq (.block (.join .leaf [25] [10, 11, 12, 13, 14, 15, 16, 17, 18, 19, 20, 21, 22, 23, 24] (.cond (.seq .leaf .leaf) .leaf))) .leaf)) [3] [2, 4, 5, 6, 7, 8, 9, 10, 11, 12, 13, 14, 15, 16, 17, 18, 19, 20, 21, 22, 23, 24, 25]))) (.join .leaf [2] [26, 27, 28, 29, 30, 31, 32, 33, 34, 35, 36, 37, 38, 39, 40, 41] .leaf)))
theorem S.r28_Valid.eq (a0 : Value) (w : World) (R : Value → World → Prop) : S.r28_Valid a0 w R = fnC PP 42 (Tryd.f13.body.getD .skip) S.r28_Valid.an [.tmp 2] [a0] w R := by kernel_rfl
theorem S.r28_Valid.calls {a0 : Value} {w : World} {R : Value → World → Prop} (h : S.r28_Valid a0 w R) : Ca PP Fn.r28_Valid #[a0] w R :=
  fnC_calls mixed (f := Fn.r28_Valid) (an := S.r28_Valid.an) Tryd.func13 rfl (by show _ ≤ _; exact Nat.le_of_ble_eq_true rfl) (S.r28_Valid.eq a0 w R ▸ h)
/-- (*acheron/tree.Tree).Stat -/
def S.tree_Tree_Stat (a0 a1 a2 : Value) (w : World) (R : Value → World → Prop) : Prop :=
 Al Ty.api_Dir #[.int .i64 0, .int .i64 0, .int .i64 0, .int .i64 0, .int .i64 0, .int .i64 0, .string ⟨#[]⟩, .string ⟨#[]⟩, .string ⟨#[]⟩, .string ⟨#[]⟩] w fun t6_1 w_2 =>
 Ca PP Fn.tree_Tree_find #[a0, a2] w_2 fun t13_3 w_4 =>
 Ex t13_3 0 fun t14_5 =>
 Ex t13_3 1 fun t15_6 =>
 Bi .neq t15_6 (.int .i64 0) fun t17_7 =>
 Cnd t17_7 (
 Bd #[.int .i64 0, .int .i64 0, .int .i64 0, .int .i64 0, .int .i64 0, .int .i64 0, .string ⟨#[]⟩, .string ⟨#[]⟩, .string ⟨#[]⟩, .string ⟨#[]⟩] [(0, 3), (3, 1), (4, 1), (5, 1), (6, 1), (7, 1), (8, 1), (9, 1)] [] fun t18_8 =>
 St PP 10 t6_1 t18_8 w_4 fun w_9 =>
 LdA PP 10 t6_1 w_9 fun t6_10 =>
 R (.tuple #[t6_10, t15_6]) w_9) (
 Ca PP Fn.tree_node_stat #[t14_5] w_4 fun t21_11 w_12 =>
 St PP 10 t6_1 t21_11 w_12 fun w_13 =>
 LdA PP 10 t6_1 w_13 fun t6_14 =>
 R (.tuple #[t6_14, (.int .i64 0)]) w_13)
def S.tree_Tree_Stat.an : Ann := (.seq .leaf (.seq .leaf (.seq (.seq .leaf (.cond (.seq .leaf .leaf) .leaf)) (.seq .leaf .leaf))))
theorem S.tree_Tree_Stat.eq (a0 a1 a2 : Value) (w : World) (R : Value → World → Prop) : S.tree_Tree_Stat a0 a1 a2 w R = fnC PP 22 (Tryd.f14.body.getD .skip) S.tree_Tree_Stat.an [.cell 6 46, .tmp 7] [a0, a1, a2] w R := by kernel_rfl
theorem S.tree_Tree_Stat.calls {a0 a1 a2 : Value} {w : World} {R : Value → World → Prop} (h : S.tree_Tree_Stat a0 a1 a2 w R) : Ca PP Fn.tree_Tree_Stat #[a0, a1, a2] w R :=
  fnC_calls mixed (f := Fn.tree_Tree_Stat) (an := S.tree_Tree_Stat.an) Tryd.func14 rfl (by show _ ≤ _; exact Nat.le_of_ble_eq_true rfl) (S.tree_Tree_Stat.eq a0 a1 a2 w R ▸ h)
/-- (*acheron/tree.Tree).Open -/
def S.tree_Tree_Open (a0 a1 a2 a3 : Value) (w : World) (R : Value → World → Prop) : Prop :=
 Al Ty.api_Qid #[.int .i64 0, .int .i64 0, .int .i64 0] w fun t9_1 w_2 =>
 Rd PP (eqS .eql Ty.p_tree_Tree (.tmp 16) (.const (.pointer none)) a0 (.pointer none)) w_2 fun t17_3 =>
 Cnd t17_3 (
 Bd #[.int .i64 0, .int .i64 0, .int .i64 0] [(0, 1), (1, 1), (2, 1)] [] fun t18_4 =>
 St PP 3 t9_1 t18_4 w_2 fun w_5 =>
 LdA PP 3 t9_1 w_5 fun t9_6 =>
 R (.tuple #[(.int .i64 0), t9_6, (.int .i64 6)]) w_5) (
 Bi .andNot a3 (.int .i64 83) fun t20_7 =>
 Bi .neq t20_7 (.int .i64 0) fun t21_8 =>
 Cnd t21_8 (
 Bd #[.int .i64 0, .int .i64 0, .int .i64 0] [(0, 1), (1, 1), (2, 1)] [] fun t22_9 =>
 St PP 3 t9_1 t22_9 w_2 fun w_10 =>
 LdA PP 3 t9_1 w_10 fun t9_11 =>
 R (.tuple #[(.int .i64 0), t9_11, (.int .i64 20)]) w_10) (
 Ca PP Fn.tree_Tree_find #[a0, a2] w_2 fun t26_12 w_13 =>
 Ex t26_12 0 fun t27_14 =>
 Ex t26_12 1 fun t28_15 =>
 Bi .neq t28_15 (.int .i64 0) fun t30_16 =>
 Cnd t30_16 (
 Bd #[.int .i64 0, .int .i64 0, .int .i64 0] [(0, 1), (1, 1), (2, 1)] [] fun t31_17 =>
 St PP 3 t9_1 t31_17 w_13 fun w_18 =>
 LdA PP 3 t9_1 w_18 fun t9_19 =>
 R (.tuple #[(.int .i64 0), t9_19, t28_15]) w_18) (
 ∀ J_20 : List Value → World → Prop, (∀ t38_23, ∀ w_22 : World, (∀ u_21 : Env,
 Cnd t38_23 (
 Bd #[.int .i64 0, .int .i64 0, .int .i64 0] [(0, 1), (1, 1), (2, 1)] [] fun t39_24 =>
 St PP 3 t9_1 t39_24 w_22 fun w_25 =>
 LdA PP 3 t9_1 w_25 fun t9_26 =>
 R (.tuple #[(.int .i64 0), t9_26, (.int .i64 18)]) w_25) (
 BdA #[.int .i64 0, .int .i64 0, .int .i64 0, .int .i64 0] 1 [(0, (.int .i64 4)), (1, (.int .i64 2)), (2, (.int .i64 6)), (3, (.int .i64 1))] fun t40_27 =>
 Bi .and a3 (.int .i64 3) fun t42_28 =>
 Rd PP (Instr.index Ty.f_4_int t40_27 t42_28) w_22 fun t43_29 =>
 ∀ J_30 : List Value → World → Prop, (∀ t13_33, ∀ w_32 : World, (∀ u_31 : Env,
 ∀ J_34 : List Value → World → Prop, (∀ t69_37, ∀ w_36 : World, (∀ u_35 : Env,
 Cnd t69_37 (
 Bd #[.int .i64 0, .int .i64 0, .int .i64 0] [(0, 1), (1, 1), (2, 1)] [] fun t70_38 =>
 St PP 3 t9_1 t70_38 w_36 fun w_39 =>
 LdA PP 3 t9_1 w_39 fun t9_40 =>
 R (.tuple #[(.int .i64 0), t9_40, (.int .i64 17)]) w_39) (
 Nc a0 fun t72_41 =>
 Fa 5 t72_41 fun t73_42 =>
 Ld t73_42 w_36 fun t74_43 =>
 Ef PP (Instr.range Ty.map_int_tree_handle t74_43) w_36 fun t75_44 w_45 =>
 ∃ (I_46 : List Value → World → Prop) (m_47 : List Value → World → Nat), I_46 [] w_45 ∧ ∀ (u_48 : Env) (w_49 : World), I_46 [] w_49 →
 Ef PP (Instr.next t75_44 false Ty.t) w_49 fun t76_50 w_51 =>
 Ex t76_50 0 fun t77_52 =>
 Cnd t77_52 (
 Rd PP (Instr.entry t75_44) w_51 fun t78_53 =>
 Ex t78_53 1 fun t79_54 =>
 Al Ty.tree_handle #[.pointer none, .int .i64 0, .string ⟨#[]⟩] w_51 fun t15_55 w_56 =>
 St PP 3 t15_55 t79_54 w_56 fun w_57 =>
 ∀ J_58 : List Value → World → Prop, (∀ t92_61, ∀ w_60 : World, (∀ u_59 : Env,
 Cnd t92_61 (
 Bd #[.int .i64 0, .int .i64 0, .int .i64 0] [(0, 1), (1, 1), (2, 1)] [] fun t93_62 =>
 St PP 3 t9_1 t93_62 w_60 fun w_63 =>
 LdA PP 3 t9_1 w_63 fun t9_64 =>
 R (.tuple #[(.int .i64 0), t9_64, (.int .i64 19)]) w_63) (
 I_46 [] w_60 ∧ m_47 [] w_60 < m_47 [] w_49)) → J_58 [t92_61] w_60) →
 Fa 0 t15_55 fun t80_65 =>
 Ld t80_65 w_57 fun t81_66 =>
 Rd PP (eqS .eql Ty.p_tree_node (.tmp 81) (.tmp 82) t81_66 t27_14) w_57 fun t83_67 =>
 Gd t83_67 true (fun k_68 => k_68 t27_14 w_57) w_57 fun t85_69 w_70 =>
 Gd t83_67 true (fun k_71 => Nc t85_69 fun t86_74 =>
 k_71 t86_74 w_70) w_70 fun t86_72 w_73 =>
 Gd t83_67 true (fun k_75 => Fa 0 t86_72 fun t87_78 =>
 k_75 t87_78 w_73) w_73 fun t87_76 w_77 =>
 Gd t83_67 true (fun k_79 => Fa 3 t87_76 fun t88_82 =>
 k_79 t88_82 w_77) w_77 fun t88_80 w_81 =>
 Gd t83_67 true (fun k_83 => Ld t88_80 w_81 fun t89_86 =>
 k_83 t89_86 w_81) w_81 fun t89_84 w_85 =>
 Gd t83_67 true (fun k_87 => Bi .and t89_84 (.int .i64 536870912) fun t90_90 =>
 k_87 t90_90 w_85) w_85 fun t90_88 w_89 =>
 Gd t83_67 true (fun k_91 => Bi .neq t90_88 (.int .i64 0) fun t91_94 =>
 k_91 t91_94 w_89) w_89 fun t91_92 w_93 =>
 Pk t83_67 t91_92 (.bool false) fun t92_95 =>
 J_58 [t92_95] w_93) (
 Ca PP Fn.tree_Tree_room #[a0] w_51 fun t95_96 w_97 =>
 Un .not t95_96 fun t96_98 =>
 Cnd t96_98 (
 Bd #[.int .i64 0, .int .i64 0, .int .i64 0] [(0, 1), (1, 1), (2, 1)] [] fun t97_99 =>
 St PP 3 t9_1 t97_99 w_97 fun w_100 =>
 LdA PP 3 t9_1 w_100 fun t9_101 =>
 R (.tuple #[(.int .i64 0), t9_101, (.int .i64 3)]) w_100) (
 ∀ J_102 : List Value → World → Prop, (∀ w_104 : World, (∀ u_103 : Env,
 Ca PP Fn.tree_Tree_handle #[a0, t27_14, a3, a1] w_104 fun t122_105 w_106 =>
 Ex t122_105 0 fun t123_107 =>
 Ex t122_105 1 fun t124_108 =>
 Ex t122_105 2 fun t125_109 =>
 St PP 3 t9_1 t124_108 w_106 fun w_110 =>
 LdA PP 3 t9_1 w_110 fun t9_111 =>
 R (.tuple #[t123_107, t9_111, t125_109]) w_110) → J_102 [] w_104) →
 ∀ J_112 : List Value → World → Prop, (∀ t109_115, ∀ w_114 : World, (∀ u_113 : Env,
 Cnd t109_115 (
 Nc t27_14 fun t111_116 =>
 Fa 10 t111_116 fun t112_117 =>
 St PP 1 t112_117 (.slice none 0 0) w_114 fun w_118 =>
 Ef PP (Instr.buildSlice Ty.sl_p_tree_node 1 #[(0, t27_14)]) w_118 fun t116_119 w_120 =>
 Ca PP Fn.tree_Tree_change #[a0, a1, t116_119] w_120 fun t117_121 w_122 =>
 J_102 [] w_122) (
 J_102 [] w_114)) → J_112 [t109_115] w_114) →
 Bi .and a3 (.int .i64 16) fun t99_123 =>
 Bi .neq t99_123 (.int .i64 0) fun t100_124 =>
 Gd t100_124 true (fun k_125 => k_125 t27_14 w_97) w_97 fun t102_126 w_127 =>
 Gd t100_124 true (fun k_128 => Nc t102_126 fun t103_131 =>
 k_128 t103_131 w_127) w_127 fun t103_129 w_130 =>
 Gd t100_124 true (fun k_132 => Fa 0 t103_129 fun t104_135 =>
 k_132 t104_135 w_130) w_130 fun t104_133 w_134 =>
 Gd t100_124 true (fun k_136 => Fa 3 t104_133 fun t105_139 =>
 k_136 t105_139 w_134) w_134 fun t105_137 w_138 =>
 Gd t100_124 true (fun k_140 => Ld t105_137 w_138 fun t106_143 =>
 k_140 t106_143 w_138) w_138 fun t106_141 w_142 =>
 Gd t100_124 true (fun k_144 => Bi .and t106_141 (.int .i64 1073741824) fun t107_147 =>
 k_144 t107_147 w_142) w_142 fun t107_145 w_146 =>
 Gd t100_124 true (fun k_148 => Bi .eql t107_145 (.int .i64 0) fun t108_151 =>
 k_148 t108_151 w_146) w_146 fun t108_149 w_150 =>
 Pk t100_124 t108_149 (.bool false) fun t109_152 =>
 J_112 [t109_152] w_150)))) → J_34 [t69_37] w_36) →
 Ca PP Fn.tree_Tree_may #[a0, a1, t27_14, t13_33] w_32 fun t53_153 w_154 =>
 Un .not t53_153 fun t54_155 =>
 Gd t54_155 false (fun k_156 => k_156 a3 w_154) w_154 fun t56_157 w_158 =>
 Gd t54_155 false (fun k_159 => Bi .and t56_157 (.int .i64 64) fun t57_162 =>
 k_159 t57_162 w_158) w_158 fun t57_160 w_161 =>
 Gd t54_155 false (fun k_163 => Bi .neq t57_160 (.int .i64 0) fun t58_166 =>
 k_163 t58_166 w_161) w_161 fun t58_164 w_165 =>
 Gd t54_155 false (fun k_167 => k_167 t58_164 w_165) w_165 fun t59_168 w_169 =>
 Gd t59_168 true (fun k_170 => k_170 a0 w_169) w_169 fun t60_171 w_172 =>
 Gd t59_168 true (fun k_173 => k_173 a1 w_172) w_172 fun t61_174 w_175 =>
 Gd t59_168 true (fun k_176 => k_176 t27_14 w_175) w_175 fun t62_177 w_178 =>
 Gd t59_168 true (fun k_179 => Nc t62_177 fun t63_182 =>
 k_179 t63_182 w_178) w_178 fun t63_180 w_181 =>
 Gd t59_168 true (fun k_183 => Fa 12 t63_180 fun t64_186 =>
 k_183 t64_186 w_181) w_181 fun t64_184 w_185 =>
 Gd t59_168 true (fun k_187 => Ld t64_184 w_185 fun t65_190 =>
 k_187 t65_190 w_185) w_185 fun t65_188 w_189 =>
 Gd t59_168 true (fun k_191 => Ca PP Fn.tree_Tree_may #[t60_171, t61_174, t65_188, (.int .i64 2)] w_189 fun t66_194 w_195 =>
 k_191 t66_194 w_195) w_189 fun t66_192 w_193 =>
 Gd t59_168 true (fun k_196 => Un .not t66_192 fun t67_199 =>
 k_196 t67_199 w_193) w_193 fun t67_197 w_198 =>
 Gd t54_155 false (fun k_200 => Pk t59_168 t67_197 (.bool false) fun t68_203 =>
 k_200 t68_203 w_198) w_198 fun t68_201 w_202 =>
 Pk t54_155 (.bool true) t68_201 fun t69_204 =>
 J_34 [t69_204] w_202) → J_30 [t13_33] w_32) →
 Bi .and a3 (.int .i64 16) fun t45_205 =>
 Bi .neq t45_205 (.int .i64 0) fun t46_206 =>
 Cnd t46_206 (
 Bi .or t43_29 (.int .i64 2) fun t48_207 =>
 J_30 [t48_207] w_22) (
 J_30 [t43_29] w_22))) → J_20 [t38_23] w_22) →
 Ca PP Fn.tree_node_isDir #[t27_14] w_13 fun t34_208 w_209 =>
 Gd t34_208 true (fun k_210 => k_210 a3 w_209) w_209 fun t36_211 w_212 =>
 Gd t34_208 true (fun k_213 => Bi .neq t36_211 (.int .i64 0) fun t37_216 =>
 k_213 t37_216 w_212) w_212 fun t37_214 w_215 =>
 Pk t34_208 t37_214 (.bool false) fun t38_217 =>
 J_20 [t38_217] w_215)))
def S.tree_Tree_Open.an : Ann := (.seq .leaf (.seq (.seq .leaf (.cond (.seq .leaf .leaf) .leaf)) (.seq (.seq .leaf (.cond (.seq .leaf .leaf) .leaf)) (.seq .leaf (.seq (.seq .leaf (.cond (.seq .leaf .leaf) .leaf)) (.seq (.join .leaf [38] [33, 34, 35, 36, 37] (.cond (.seq .leaf .leaf) .leaf)) (.seq .leaf (.join (.seq .leaf (.cond .leaf .leaf)) [13] [44, 45, 46, 47, 48] (.seq (.join .leaf [69] [49, 50, 51, 52, 53, 54, 55, 56, 57, 58, 59, 60, 61, 62, 63, 64, 65, 66, 67, 68] (.cond (.seq .leaf .leaf) .leaf)) (.seq (.seq .leaf (.block (.loop (.seq .leaf (.seq (.cond .leaf .leaf) (.block (.seq .leaf (.join .leaf [92] [80, 81, 82, 83, 84, 85, 86, 87, 88, 89, 90, 91] (.cond (.seq .leaf .leaf) .leaf)))))) [] [8, 10, 15, 76, 77, 78, 79, 80, 81, 82, 83, 84, 85, 86, 87, 88, 89, 90, 91, 92, 93]))) (.seq (.seq .leaf (.cond (.seq .leaf .leaf) .leaf)) (.join (.join .leaf [109] [98, 99, 100, 101, 102, 103, 104, 105, 106, 107, 108] (.cond (.seq .leaf .leaf) .leaf)) [] [98, 99, 100, 101, 102, 103, 104, 105, 106, 107, 108, 109, 110, 111, 112, 113, 114, 115, 116, 117] (.seq .leaf .leaf)))))))))))))
theorem S.tree_Tree_Open.eq (a0 a1 a2 a3 : Value) (w : World) (R : Value → World → Prop) : S.tree_Tree_Open a0 a1 a2 a3 w R = fnC PP 126 (Tryd.f15.body.getD .skip) S.tree_Tree_Open.an [.tmp 8, .cell 9 31, .tmp 10] [a0, a1, a2, a3] w R := by kernel_rfl
theorem S.tree_Tree_Open.calls {a0 a1 a2 a3 : Value} {w : World} {R : Value → World → Prop} (h : S.tree_Tree_Open a0 a1 a2 a3 w R) : Ca PP Fn.tree_Tree_Open #[a0, a1, a2, a3] w R :=
  fnC_calls mixed (f := Fn.tree_Tree_Open) (an := S.tree_Tree_Open.an) Tryd.func15 rfl (by show _ ≤ _; exact Nat.le_of_ble_eq_true rfl) (S.tree_Tree_Open.eq a0 a1 a2 a3 w R ▸ h)
/-- acheron/tree.Clean -/
def S.tree_Clean (a0 : Value) (w : World) (R : Value → World → Prop) : Prop :=
 Ca PP Fn.strings_HasPrefix #[a0, (.string ⟨#[47]⟩)] w fun t8_1 w_2 =>
 Al Ty.bool #[.bool false] w_2 fun t3_3 w_4 =>
 St PP 1 t3_3 t8_1 w_4 fun w_5 =>
 Al Ty.sl_string #[.slice none 0 0] w_5 fun t4_6 w_7 =>
 Ca PP Fn.strings_SplitSeq #[a0, (.string ⟨#[47]⟩)] w_7 fun t10_8 w_9 =>
 RFo PP t10_8 w_9 (RB.one fun r_10 L_11 t11_12 w_13 Rn_14 Re_15 Rr_16 =>
 Bgn r_10 L_11 w_13 fun w_17 =>
 ∀ J_18 : List Value → World → Prop, (∀ t12_21, ∀ w_20 : World, (∀ u_19 : Env,
 Cnd t12_21 (
 Rn_14 w_20) (
 Bi .neq t11_12 (.string ⟨#[46, 46]⟩) fun t21_22 =>
 Cnd t21_22 (
 Ld t4_6 w_20 fun t22_23 =>
 Ef PP (Instr.buildSlice Ty.sl_string 1 #[(0, t11_12)]) w_20 fun t24_24 w_25 =>
 Ef PP (Builtin.append_ #[Ty.sl_string, Ty.sl_string] Ty.sl_string #[t22_23, t24_24]) w_25 fun t25_26 w_27 =>
 St PP 1 t4_6 t25_26 w_27 fun w_28 =>
 Rn_14 w_28) (
 ∀ J_29 : List Value → World → Prop, (∀ t26_32, ∀ w_31 : World, (∀ u_30 : Env,
 Cnd t26_32 (
 Ld t4_6 w_31 fun t39_33 =>
 Ld t4_6 w_31 fun t40_34 =>
 LnL t40_34 fun t41_35 =>
 Bi .sub t41_35 (.int .i64 1) fun t42_36 =>
 Sl 1 t39_33 none (some t42_36) fun t43_37 =>
 St PP 1 t4_6 t43_37 w_31 fun w_38 =>
 Rn_14 w_38) (
 Ld t3_3 w_31 fun t45_39 =>
 Un .not t45_39 fun t46_40 =>
 Cnd t46_40 (
 Ld t4_6 w_31 fun t47_41 =>
 Ef PP (Instr.buildSlice Ty.sl_string 1 #[(0, t11_12)]) w_31 fun t49_42 w_43 =>
 Ef PP (Builtin.append_ #[Ty.sl_string, Ty.sl_string] Ty.sl_string #[t47_41, t49_42]) w_43 fun t50_44 w_45 =>
 St PP 1 t4_6 t50_44 w_45 fun w_46 =>
 Rn_14 w_46) (
 Rn_14 w_31))) → J_29 [t26_32] w_31) →
 Ld t4_6 w_20 fun t27_47 =>
 LnL t27_47 fun t28_48 =>
 Bi .gtr t28_48 (.int .i64 0) fun t29_49 =>
 Gd t29_49 true (fun k_50 => Ld t4_6 w_20 fun t31_53 =>
 k_50 t31_53 w_20) w_20 fun t31_51 w_52 =>
 Gd t29_49 true (fun k_54 => Ld t4_6 w_52 fun t32_57 =>
 k_54 t32_57 w_52) w_52 fun t32_55 w_56 =>
 Gd t29_49 true (fun k_58 => LnL t32_55 fun t33_61 =>
 k_58 t33_61 w_56) w_56 fun t33_59 w_60 =>
 Gd t29_49 true (fun k_62 => Bi .sub t33_59 (.int .i64 1) fun t34_65 =>
 k_62 t34_65 w_60) w_60 fun t34_63 w_64 =>
 Gd t29_49 true (fun k_66 => IxA 1 t31_51 t34_63 fun t35_69 =>
 k_66 t35_69 w_64) w_64 fun t35_67 w_68 =>
 Gd t29_49 true (fun k_70 => Ld t35_67 w_68 fun t36_73 =>
 k_70 t36_73 w_68) w_68 fun t36_71 w_72 =>
 Gd t29_49 true (fun k_74 => Bi .neq t36_71 (.string ⟨#[46, 46]⟩) fun t37_77 =>
 k_74 t37_77 w_72) w_72 fun t37_75 w_76 =>
 Pk t29_49 t37_75 (.bool false) fun t38_78 =>
 J_29 [t38_78] w_76))) → J_18 [t12_21] w_20) →
 Bi .eql t11_12 (.string ⟨#[]⟩) fun t14_79 =>
 Gd t14_79 false (fun k_80 => k_80 t11_12 w_17) w_17 fun t16_81 w_82 =>
 Gd t14_79 false (fun k_83 => Bi .eql t16_81 (.string ⟨#[46]⟩) fun t17_86 =>
 k_83 t17_86 w_82) w_82 fun t17_84 w_85 =>
 Pk t14_79 (.bool true) t17_84 fun t18_87 =>
 J_18 [t18_87] w_85) (fun D_88 w_89 =>
 Ld t4_6 w_89 fun t51_90 =>
 Ca PP Fn.strings_Join #[t51_90, (.string ⟨#[47]⟩)] w_89 fun t52_91 w_92 =>
 Ld t3_3 w_92 fun t54_93 =>
 Cnd t54_93 (
 Bi .add (.string ⟨#[47]⟩) t52_91 fun t56_94 =>
 Lvs PP (.mark D_88 :: []) w_92 fun w_95 =>
 R t56_94 w_95) (
 Bi .eql t52_91 (.string ⟨#[]⟩) fun t59_96 =>
 Cnd t59_96 (
 Lvs PP (.mark D_88 :: []) w_92 fun w_97 =>
 R (.string ⟨#[46]⟩) w_97) (
 Lvs PP (.mark D_88 :: []) w_92 fun w_98 =>
 R t52_91 w_98))) [] (fun D_99 w_100 =>
 Lvs PP (.mark D_99 :: []) w_100 fun w_101 =>
 R (.string ⟨#[]⟩) w_101)
def S.tree_Clean.an : Ann := (.seq .leaf (.seq .leaf (.seq .leaf (.seq (.seq .leaf (.block (.rf .leaf (.block (.block (.join .leaf [12] [13, 14, 15, 16, 17, 18] (.cond .leaf (.seq .leaf (.cond .leaf (.join .leaf [26] [27, 28, 29, 30, 31, 32, 33, 34, 35, 36, 37, 38] (.cond .leaf (.seq .leaf (.cond .leaf .leaf)))))))))) []))) (.seq .leaf (.seq (.block (.seq .leaf (.cond (.seq .leaf .leaf) (.seq .leaf (.cond (.seq .leaf .leaf) .leaf))))) (.seq .leaf .leaf)))))))
theorem S.tree_Clean.eq (a0 : Value) (w : World) (R : Value → World → Prop) : S.tree_Clean a0 w R = fnC PP 61 (Tryd.f16.body.getD .skip) S.tree_Clean.an [.tmp 2] [a0] w R := by kernel_rfl
theorem S.tree_Clean.calls {a0 : Value} {w : World} {R : Value → World → Prop} (h : S.tree_Clean a0 w R) : Ca PP Fn.tree_Clean #[a0] w R :=
  fnC_calls mixed (f := Fn.tree_Clean) (an := S.tree_Clean.an) Tryd.func16 rfl (by show _ ≤ _; exact Nat.le_of_ble_eq_true rfl) (S.tree_Clean.eq a0 w R ▸ h)
/-- acheron/tree.check -/
def S.tree_check (a0 a1 : Value) (w : World) (R : Value → World → Prop) : Prop :=
 LnL a0 fun t11_1 =>
 Bi .gtr t11_1 (.int .i64 16) fun t12_2 =>
 LnL a0 fun t14_3 =>
 ∃ (I_4 : List Value → World → Prop) (m_5 : List Value → World → Nat), I_4 [a1, (.slice none 0 0), t12_2, (.bool false), (.int .i64 0)] w ∧ ∀ t1_8 t5_9 t6_10 t7_11 t15_12, ∀ (u_6 : Env) (w_7 : World), I_4 [t1_8, t5_9, t6_10, t7_11, t15_12] w_7 →
 Bi .lss t15_12 t14_3 fun t16_13 =>
 Cnd t16_13 (
 ∀ J_14 : List Value → World → Prop, (∀ t1_17 t5_18 t6_19 t7_20, ∀ w_16 : World, (∀ u_15 : Env,
 Bi .add t15_12 (.int .i64 1) fun t45_21 =>
 I_4 [t1_17, t5_18, t6_19, t7_20, t45_21] w_16 ∧ m_5 [t1_17, t5_18, t6_19, t7_20, t45_21] w_16 < m_5 [t1_8, t5_9, t6_10, t7_11, t15_12] w_7) → J_14 [t1_17, t5_18, t6_19, t7_20] w_16) →
 IxA 2 a0 t15_12 fun t17_22 =>
 LdA PP 2 t17_22 w_7 fun t18_23 =>
 Al Ty.tree_Group #[.string ⟨#[]⟩, .slice none 0 0] w_7 fun t9_24 w_25 =>
 St PP 2 t9_24 t18_23 w_25 fun w_26 =>
 ∀ J_27 : List Value → World → Prop, (∀ t6_30, ∀ w_29 : World, (∀ u_28 : Env,
 Dr w_29 fun w_31 =>
 Fa 0 t9_24 fun t27_32 =>
 Ld t27_32 w_31 fun t28_33 =>
 Fa 1 t9_24 fun t31_34 =>
 Ld t31_34 w_31 fun t32_35 =>
 Ef PP (Instr.buildSlice Ty.sl_string 1 #[(0, t28_33)]) w_31 fun t29_36 w_37 =>
 (Ld t31_34 w_37 fun t32_38 =>
 t32_38 = t32_35) ∧
 Ef PP (Builtin.append_ #[Ty.sl_string, Ty.sl_string] Ty.sl_string #[t1_8, t29_36]) w_37 fun t30_39 w_40 =>
 (Ld t31_34 w_40 fun t32_41 =>
 t32_41 = t32_35) ∧
 Ef PP (Builtin.append_ #[Ty.sl_string, Ty.sl_string] Ty.sl_string #[t30_39, t32_35]) w_40 fun t33_42 w_43 =>
 Fa 0 t9_24 fun t35_44 =>
 Ld t35_44 w_43 fun t36_45 =>
 Ef PP (Instr.buildSlice Ty.sl_string 1 #[(0, t36_45)]) w_43 fun t37_46 w_47 =>
 Ef PP (Builtin.append_ #[Ty.sl_string, Ty.sl_string] Ty.sl_string #[t5_9, t37_46]) w_47 fun t38_48 w_49 =>
 Gd t7_11 false (fun k_50 => Fa 1 t9_24 fun t41_53 =>
 k_50 t41_53 w_49) w_49 fun t41_51 w_52 =>
 Gd t7_11 false (fun k_54 => Ld t41_51 w_52 fun t42_57 =>
 k_54 t42_57 w_52) w_52 fun t42_55 w_56 =>
 Gd t7_11 false (fun k_58 => Ca PP Fn.tree_repeated #[t42_55] w_56 fun t43_61 w_62 =>
 k_58 t43_61 w_62) w_56 fun t43_59 w_60 =>
 Pk t7_11 (.bool true) t43_59 fun t44_63 =>
 J_14 [t33_42, t38_48, t6_30, t44_63] w_60) → J_27 [t6_30] w_29) →
 Gd t6_10 false (fun k_64 => Fa 1 t9_24 fun t21_67 =>
 k_64 t21_67 w_26) w_26 fun t21_65 w_66 =>
 Gd t6_10 false (fun k_68 => Ld t21_65 w_66 fun t22_71 =>
 k_68 t22_71 w_66) w_66 fun t22_69 w_70 =>
 Gd t6_10 false (fun k_72 => LnL t22_69 fun t23_75 =>
 k_72 t23_75 w_70) w_70 fun t23_73 w_74 =>
 Gd t6_10 false (fun k_76 => Bi .gtr t23_73 (.int .i64 16) fun t24_79 =>
 k_76 t24_79 w_74) w_74 fun t24_77 w_78 =>
 Pk t6_10 (.bool true) t24_77 fun t25_80 =>
 J_27 [t25_80] w_78) (
 Cnd t6_10 (
 R (.int .i64 3) w_7) (
 Ca PP Fn.slices_ContainsFunc_sl_string_string #[t1_8, (.func (.func Fn.tree_check_1) #[] #[])] w_7 fun t50_81 w_82 =>
 Cnd t50_81 (
 R (.int .i64 8) w_82) (
 ∀ J_83 : List Value → World → Prop, (∀ t51_86, ∀ w_85 : World, (∀ u_84 : Env,
 Cnd t51_86 (
 R (.int .i64 5) w_85) (
 R (.int .i64 0) w_85)) → J_83 [t51_86] w_85) →
 Gd t7_11 false (fun k_87 => k_87 t5_9 w_82) w_82 fun t54_88 w_89 =>
 Gd t7_11 false (fun k_90 => Ca PP Fn.tree_repeated #[t54_88] w_89 fun t55_93 w_94 =>
 k_90 t55_93 w_94) w_89 fun t55_91 w_92 =>
 Pk t7_11 (.bool true) t55_91 fun t56_95 =>
 J_83 [t56_95] w_92)))
def S.tree_check.an : Ann := (.seq .leaf (.seq .leaf (.seq .leaf (.seq (.seq .leaf (.block (.loop (.seq .leaf (.seq (.cond .leaf .leaf) (.join (.block (.seq .leaf (.join .leaf [6] [19, 20, 21, 22, 23, 24, 25] (.seq (.draw [[], [], [1], [1, 2], [0, 1, 2, 3], [], [5], [0, 1, 2, 3, 4, 5, 6], [0, 1, 2, 3, 4, 5, 6, 7]] (.calm 0 (.calm 1 (.calm 2 (.calm 5 (.calm 6 (.eff1 3 [6] (.eff1 4 [6] (.eff1 7 [] (.calm 8 .done)))))))))) (.seq .leaf .leaf))))) [1, 5, 6, 7] [9, 17, 18, 19, 20, 21, 22, 23, 24, 25, 26, 27, 28, 29, 30, 31, 32, 33, 34, 35, 36, 37, 38, 39, 40, 41, 42, 43, 44] .leaf))) [1, 5, 6, 7, 15] [9, 16, 17, 18, 19, 20, 21, 22, 23, 24, 25, 26, 27, 28, 29, 30, 31, 32, 33, 34, 35, 36, 37, 38, 39, 40, 41, 42, 43, 44, 45]))) (.seq (.block (.seq .leaf (.cond (.seq .leaf .leaf) (.seq .leaf (.cond (.seq .leaf .leaf) (.join .leaf [51] [52, 53, 54, 55, 56] (.cond (.seq .leaf .leaf) .leaf))))))) (.seq .leaf .leaf))))))
theorem S.tree_check.eq (a0 a1 : Value) (w : World) (R : Value → World → Prop) : S.tree_check a0 a1 w R = fnC PP 57 (Tryd.f17.body.getD .skip) S.tree_check.an [.tmp 4] [a0, a1] w R := by kernel_rfl
theorem S.tree_check.calls {a0 a1 : Value} {w : World} {R : Value → World → Prop} (h : S.tree_check a0 a1 w R) : Ca PP Fn.tree_check #[a0, a1] w R :=
  fnC_calls mixed (f := Fn.tree_check) (an := S.tree_check.an) Tryd.func17 rfl (by show _ ≤ _; exact Nat.le_of_ble_eq_true rfl) (S.tree_check.eq a0 a1 w R ▸ h)
/-- acheron/tree.empty -/
def S.tree_empty (a0 : Value) (w : World) (R : Value → World → Prop) : Prop :=
 MkM w fun t6_1 w_2 =>
 MkM w_2 fun t7_3 w_4 =>
 MkM w_4 fun t8_5 w_6 =>
 Bd #[.pointer none, .map none, .map none, .int .i64 0, .int .i64 0, .map none] [(0, 1), (1, 1), (2, 1), (3, 1), (4, 1), (5, 1)] [(1, t6_1), (2, t7_3), (3, (.int .i64 1)), (5, t8_5)] fun t9_7 =>
 Al Ty.tree_Tree (t9_7 : Value).cells w_6 fun t10_8 w_9 =>
 LnL a0 fun t12_10 =>
 ∃ (I_11 : List Value → World → Prop) (m_12 : List Value → World → Nat), I_11 [(.int .i64 0)] w_9 ∧ ∀ t13_15, ∀ (u_13 : Env) (w_14 : World), I_11 [t13_15] w_14 →
 Bi .lss t13_15 t12_10 fun t14_16 =>
 Cnd t14_16 (
 IxA 2 a0 t13_15 fun t15_17 =>
 LdA PP 2 t15_17 w_14 fun t16_18 =>
 Al Ty.tree_Group #[.string ⟨#[]⟩, .slice none 0 0] w_14 fun t5_19 w_20 =>
 St PP 2 t5_19 t16_18 w_20 fun w_21 =>
 Dr w_21 fun w_22 =>
 Nc t10_8 fun t18_23 =>
 Fa 2 t18_23 fun t19_24 =>
 Ld t19_24 w_22 fun t20_25 =>
 Fa 0 t5_19 fun t21_26 =>
 Ld t21_26 w_22 fun t22_27 =>
 Fa 1 t5_19 fun t23_28 =>
 Ld t23_28 w_22 fun t24_29 =>
 Ca PP Fn.slices_Clone_sl_string_string #[t24_29] w_22 fun t25_30 w_31 =>
 (Ld t19_24 w_31 fun t20_32 =>
 t20_32 = t20_25) ∧
 (Ld t21_26 w_31 fun t22_33 =>
 t22_33 = t22_27) ∧
 Ef PP (Instr.mapUpdate Ty.map_string_sl_string t20_25 t22_27 t25_30) w_31 fun _ w_34 =>
 Bi .add t13_15 (.int .i64 1) fun t26_35 =>
 I_11 [t26_35] w_34 ∧ m_12 [t26_35] w_34 < m_12 [t13_15] w_14) (
 R t10_8 w_14)
def S.tree_empty.an : Ann := (.seq .leaf (.seq .leaf (.seq (.seq .leaf (.block (.loop (.seq .leaf (.seq (.cond .leaf .leaf) (.seq (.block (.seq .leaf (.draw [[], [0], [0, 1], [0, 1, 2], [], [4], [], [6], [6, 7], [0, 1, 2, 3, 4, 5, 6, 7, 8]] (.calm 0 (.calm 1 (.calm 2 (.calm 3 (.calm 4 (.calm 5 (.calm 6 (.calm 7 (.eff1 8 [3, 5] (.eff1 9 [] .done))))))))))))) .leaf))) [13] [5, 14, 15, 16, 17, 18, 19, 20, 21, 22, 23, 24, 25, 26]))) (.seq .leaf .leaf))))
theorem S.tree_empty.eq (a0 : Value) (w : World) (R : Value → World → Prop) : S.tree_empty a0 w R = fnC PP 28 (Tryd.f18.body.getD .skip) S.tree_empty.an [.tmp 2] [a0] w R := by kernel_rfl
theorem S.tree_empty.calls {a0 : Value} {w : World} {R : Value → World → Prop} (h : S.tree_empty a0 w R) : Ca PP Fn.tree_empty #[a0] w R :=
  fnC_calls mixed (f := Fn.tree_empty) (an := S.tree_empty.an) Tryd.func18 rfl (by show _ ≤ _; exact Nat.le_of_ble_eq_true rfl) (S.tree_empty.eq a0 w R ▸ h)
/-- (*acheron/tree.node).is -/
def S.tree_node_is (a0 a1 : Value) (w : World) (R : Value → World → Prop) : Prop :=
 Nc a0 fun t9_1 =>
 Fa 0 t9_1 fun t10_2 =>
 Fa 3 t10_2 fun t11_3 =>
 St PP 1 t11_3 a1 w fun w_4 =>
 Nc a0 fun t12_5 =>
 Fa 0 t12_5 fun t13_6 =>
 Fa 0 t13_6 fun t14_7 =>
 Fa 0 t14_7 fun t15_8 =>
 St PP 1 t15_8 (.int .i64 0) w_4 fun w_9 =>
 MkM w_9 fun t16_10 w_11 =>
 Ef PP (Instr.mapUpdate Ty.map_int_int t16_10 (.int .i64 2147483648) (.int .i64 128)) w_11 fun _ w_12 =>
 Ef PP (Instr.mapUpdate Ty.map_int_int t16_10 (.int .i64 1073741824) (.int .i64 64)) w_12 fun _ w_13 =>
 Ef PP (Instr.mapUpdate Ty.map_int_int t16_10 (.int .i64 536870912) (.int .i64 32)) w_13 fun _ w_14 =>
 Ef PP (Instr.range Ty.map_int_int t16_10) w_14 fun t18_15 w_16 =>
 ∃ (I_17 : List Value → World → Prop) (m_18 : List Value → World → Nat), I_17 [] w_16 ∧ ∀ (u_19 : Env) (w_20 : World), I_17 [] w_20 →
 Ef PP (Instr.next t18_15 false Ty.t) w_20 fun t19_21 w_22 =>
 Ex t19_21 0 fun t20_23 =>
 Cnd t20_23 (
 Rd PP (Instr.entry t18_15) w_22 fun t21_24 =>
 Ex t21_24 0 fun t22_25 =>
 Ex t21_24 1 fun t23_26 =>
 Bi .and a1 t22_25 fun t26_27 =>
 Bi .neq t26_27 (.int .i64 0) fun t27_28 =>
 Cnd t27_28 (
 Nc a0 fun t29_29 =>
 Fa 0 t29_29 fun t30_30 =>
 Fa 0 t30_30 fun t31_31 =>
 Fa 0 t31_31 fun t32_32 =>
 Ld t32_32 w_22 fun t33_33 =>
 Bi .or t33_33 t23_26 fun t35_34 =>
 Nc a0 fun t36_35 =>
 Fa 0 t36_35 fun t37_36 =>
 Fa 0 t37_36 fun t38_37 =>
 Fa 0 t38_37 fun t39_38 =>
 St PP 1 t39_38 t35_34 w_22 fun w_39 =>
 I_17 [] w_39 ∧ m_18 [] w_39 < m_18 [] w_20) (
 I_17 [] w_22 ∧ m_18 [] w_22 < m_18 [] w_20)) (
 R (.tuple #[]) w_22)
def S.tree_node_is.an : Ann := (.seq .leaf (.seq .leaf (.block (.loop (.seq .leaf (.seq (.cond .leaf .leaf) (.block (.seq .leaf (.seq .leaf (.cond .leaf .leaf)))))) [] [4, 5, 19, 20, 21, 22, 23, 24, 25, 26, 27, 28, 29, 30, 31, 32, 33, 34, 35, 36, 37, 38, 39]))))
theorem S.tree_node_is.eq (a0 a1 : Value) (w : World) (R : Value → World → Prop) : S.tree_node_is a0 a1 w R = fnC PP 40 (Tryd.f19.body.getD .skip) S.tree_node_is.an [] [a0, a1] w R := by kernel_rfl
theorem S.tree_node_is.calls {a0 a1 : Value} {w : World} {R : Value → World → Prop} (h : S.tree_node_is a0 a1 w R) : Ca PP Fn.tree_node_is #[a0, a1] w R :=
  fnC_calls mixed (f := Fn.tree_node_is) (an := S.tree_node_is.an) Tryd.func19 rfl (by show _ ≤ _; exact Nat.le_of_ble_eq_true rfl) (S.tree_node_is.eq a0 a1 w R ▸ h)
/-- acheron/tree.right -/
def S.tree_right (a0 : Value) (w : World) (R : Value → World → Prop) : Prop :=
 ∀ J_1 : List Value → World → Prop, (∀ t2_4, ∀ w_3 : World, (∀ u_2 : Env,
 R t2_4 w_3) → J_1 [t2_4] w_3) →
 Bi .andNot a0 (.int .i64 3758096895) fun t4_5 =>
 Bi .eql t4_5 (.int .i64 0) fun t5_6 =>
 Gd t5_6 true (fun k_7 => k_7 a0 w) w fun t7_8 w_9 =>
 Gd t5_6 true (fun k_10 => Bi .and t7_8 (.int .i64 2147483648) fun t8_13 =>
 k_10 t8_13 w_9) w_9 fun t8_11 w_12 =>
 Gd t5_6 true (fun k_14 => Bi .eql t8_11 (.int .i64 0) fun t9_17 =>
 k_14 t9_17 w_12) w_12 fun t9_15 w_16 =>
 Gd t5_6 true (fun k_18 => k_18 t9_15 w_16) w_16 fun t10_19 w_20 =>
 Gd t10_19 false (fun k_21 => k_21 a0 w_20) w_20 fun t11_22 w_23 =>
 Gd t10_19 false (fun k_24 => Bi .and t11_22 (.int .i64 1610612736) fun t12_27 =>
 k_24 t12_27 w_23) w_23 fun t12_25 w_26 =>
 Gd t10_19 false (fun k_28 => Bi .eql t12_25 (.int .i64 0) fun t13_31 =>
 k_28 t13_31 w_26) w_26 fun t13_29 w_30 =>
 Gd t5_6 true (fun k_32 => Pk t10_19 (.bool true) t13_29 fun t14_35 =>
 k_32 t14_35 w_30) w_30 fun t14_33 w_34 =>
 Pk t5_6 t14_33 (.bool false) fun t15_36 =>
 J_1 [t15_36] w_34
def S.tree_right.an : Ann := (.seq .leaf (.join .leaf [2] [3, 4, 5, 6, 7, 8, 9, 10, 11, 12, 13, 14, 15] .leaf))
theorem S.tree_right.eq (a0 : Value) (w : World) (R : Value → World → Prop) : S.tree_right a0 w R = fnC PP 16 (Tryd.f20.body.getD .skip) S.tree_right.an [.tmp 2] [a0] w R := by kernel_rfl
theorem S.tree_right.calls {a0 : Value} {w : World} {R : Value → World → Prop} (h : S.tree_right a0 w R) : Ca PP Fn.tree_right #[a0] w R :=
  fnC_calls mixed (f := Fn.tree_right) (an := S.tree_right.an) Tryd.func20 rfl (by show _ ≤ _; exact Nat.le_of_ble_eq_true rfl) (S.tree_right.eq a0 w R ▸ h)
/-- (*acheron/tree.Tree).folder -/
def S.tree_Tree_folder (a0 a1 : Value) (w : World) (R : Value → World → Prop) : Prop :=
 Ca PP Fn.tree_Tree_find #[a0, a1] w fun t11_1 w_2 =>
 Ex t11_1 0 fun t12_3 =>
 Ex t11_1 1 fun t13_4 =>
 ∀ J_5 : List Value → World → Prop, (∀ t20_8, ∀ w_7 : World, (∀ u_6 : Env,
 Cnd t20_8 (
 R (.tuple #[(.pointer none), (.int .i64 18)]) w_7) (
 R (.tuple #[t12_3, t13_4]) w_7)) → J_5 [t20_8] w_7) →
 Bi .eql t13_4 (.int .i64 0) fun t15_9 =>
 Gd t15_9 true (fun k_10 => k_10 t12_3 w_2) w_2 fun t17_11 w_12 =>
 Gd t15_9 true (fun k_13 => Ca PP Fn.tree_node_isDir #[t17_11] w_12 fun t18_16 w_17 =>
 k_13 t18_16 w_17) w_12 fun t18_14 w_15 =>
 Gd t15_9 true (fun k_18 => Un .not t18_14 fun t19_21 =>
 k_18 t19_21 w_15) w_15 fun t19_19 w_20 =>
 Pk t15_9 t19_19 (.bool false) fun t20_22 =>
 J_5 [t20_22] w_20
def S.tree_Tree_folder.an : Ann := (.seq .leaf (.seq .leaf (.seq (.join .leaf [20] [14, 15, 16, 17, 18, 19] (.cond (.seq .leaf .leaf) .leaf)) (.seq .leaf .leaf))))
theorem S.tree_Tree_folder.eq (a0 a1 : Value) (w : World) (R : Value → World → Prop) : S.tree_Tree_folder a0 a1 w R = fnC PP 23 (Tryd.f21.body.getD .skip) S.tree_Tree_folder.an [.tmp 4, .tmp 5] [a0, a1] w R := by kernel_rfl
theorem S.tree_Tree_folder.calls {a0 a1 : Value} {w : World} {R : Value → World → Prop} (h : S.tree_Tree_folder a0 a1 w R) : Ca PP Fn.tree_Tree_folder #[a0, a1] w R :=
  fnC_calls mixed (f := Fn.tree_Tree_folder) (an := S.tree_Tree_folder.an) Tryd.func21 rfl (by show _ ≤ _; exact Nat.le_of_ble_eq_true rfl) (S.tree_Tree_folder.eq a0 a1 w R ▸ h)
/-- (*acheron/tree.Tree).may -/
def S.tree_Tree_may (a0 a1 a2 a3 : Value) (w : World) (R : Value → World → Prop) : Prop :=
 Dr w fun w_1 =>
 Nc a2 fun t10_2 =>
 Fa 0 t10_2 fun t11_3 =>
 Fa 3 t11_3 fun t12_4 =>
 Ld t12_4 w_1 fun t13_5 =>
 Nc a2 fun t16_6 =>
 Fa 0 t16_6 fun t17_7 =>
 Fa 7 t17_7 fun t18_8 =>
 Ld t18_8 w_1 fun t19_9 =>
 Bi .eql a1 t19_9 fun t20_10 =>
 Nc a2 fun t24_11 =>
 Fa 0 t24_11 fun t25_12 =>
 Fa 8 t25_12 fun t26_13 =>
 Ld t26_13 w_1 fun t27_14 =>
 Ca PP Fn.tree_Tree_member #[a0, a1, t27_14] w_1 fun t28_15 w_16 =>
 (Ld t12_4 w_16 fun t13_17 =>
 t13_17 = t13_5) ∧
 (Ld t18_8 w_16 fun t19_18 =>
 t19_18 = t19_9) ∧
 Ca PP Fn.tree_Permits #[t13_5, t20_10, t28_15, a3] w_16 fun t30_19 w_20 =>
 R t30_19 w_20
def S.tree_Tree_may.an : Ann := (.seq .leaf (.seq (.draw [[], [0], [0, 1], [0, 1, 2], [0, 1, 2, 3], [], [], [6], [6, 7], [6, 7, 8], [6, 7, 8, 9], [5, 6, 7, 8, 9, 10], [], [], [], [14], [14, 15], [14, 15, 16], [14, 15, 16, 17], [12, 13, 14, 15, 16, 17, 18], [], [0, 1, 2, 3, 4, 5, 6, 7, 8, 9, 10, 11, 12, 13, 14, 15, 16, 17, 18, 19, 20], [0, 1, 2, 3, 4, 5, 6, 7, 8, 9, 10, 11, 12, 13, 14, 15, 16, 17, 18, 19, 20, 21]] (.calm 0 (.calm 1 (.calm 2 (.calm 3 (.calm 4 (.calm 5 (.calm 6 (.calm 7 (.calm 8 (.calm 9 (.calm 10 (.calm 11 (.calm 12 (.calm 13 (.calm 14 (.calm 15 (.calm 16 (.calm 17 (.calm 18 (.calm 20 (.eff1 19 [4, 10] (.eff1 21 [] (.calm 22 .done)))))))))))))))))))))))) .leaf))
theorem S.tree_Tree_may.eq (a0 a1 a2 a3 : Value) (w : World) (R : Value → World → Prop) : S.tree_Tree_may a0 a1 a2 a3 w R = fnC PP 31 (Tryd.f22.body.getD .skip) S.tree_Tree_may.an [.tmp 8] [a0, a1, a2, a3] w R := by kernel_rfl
theorem S.tree_Tree_may.calls {a0 a1 a2 a3 : Value} {w : World} {R : Value → World → Prop} (h : S.tree_Tree_may a0 a1 a2 a3 w R) : Ca PP Fn.tree_Tree_may #[a0, a1, a2, a3] w R :=
  fnC_calls mixed (f := Fn.tree_Tree_may) (an := S.tree_Tree_may.an) Tryd.func22 rfl (by show _ ≤ _; exact Nat.le_of_ble_eq_true rfl) (S.tree_Tree_may.eq a0 a1 a2 a3 w R ▸ h)
/-- (*acheron/tree.Tree).room -/
def S.tree_Tree_room (a0 : Value) (w : World) (R : Value → World → Prop) : Prop :=
 Nc a0 fun t4_1 =>
 Fa 5 t4_1 fun t5_2 =>
 Ld t5_2 w fun t6_3 =>
 Rd PP (Builtin.len_ #[Ty.map_int_tree_handle] Ty.int #[t6_3]) w fun t7_4 =>
 Bi .lss t7_4 (.int .i64 64) fun t8_5 =>
 R t8_5 w
def S.tree_Tree_room.an : Ann := (.seq .leaf (.seq .leaf .leaf))
theorem S.tree_Tree_room.eq (a0 : Value) (w : World) (R : Value → World → Prop) : S.tree_Tree_room a0 w R = fnC PP 9 (Tryd.f23.body.getD .skip) S.tree_Tree_room.an [.tmp 2] [a0] w R := by kernel_rfl
theorem S.tree_Tree_room.calls {a0 : Value} {w : World} {R : Value → World → Prop} (h : S.tree_Tree_room a0 w R) : Ca PP Fn.tree_Tree_room #[a0] w R :=
  fnC_calls mixed (f := Fn.tree_Tree_room) (an := S.tree_Tree_room.an) Tryd.func23 rfl (by show _ ≤ _; exact Nat.le_of_ble_eq_true rfl) (S.tree_Tree_room.eq a0 w R ▸ h)
/-- (*acheron/tree.Tree).change -/
def S.tree_Tree_change (a0 a1 a2 : Value) (w : World) (R : Value → World → Prop) : Prop :=
 Nc a0 fun t9_1 =>
 Fa 4 t9_1 fun t10_2 =>
 Ld t10_2 w fun t11_3 =>
 Bi .add t11_3 (.int .i64 1) fun t12_4 =>
 Nc a0 fun t13_5 =>
 Fa 4 t13_5 fun t14_6 =>
 St PP 1 t14_6 t12_4 w fun w_7 =>
 LnL a2 fun t16_8 =>
 ∃ (I_9 : List Value → World → Prop) (m_10 : List Value → World → Nat), I_9 [(.int .i64 0)] w_7 ∧ ∀ t17_13, ∀ (u_11 : Env) (w_12 : World), I_9 [t17_13] w_12 →
 Bi .lss t17_13 t16_8 fun t18_14 =>
 Cnd t18_14 (
 IxA 1 a2 t17_13 fun t19_15 =>
 Ld t19_15 w_12 fun t20_16 =>
 Nc t20_16 fun t22_17 =>
 Fa 0 t22_17 fun t23_18 =>
 Fa 0 t23_18 fun t24_19 =>
 Fa 1 t24_19 fun t25_20 =>
 Ld t25_20 w_12 fun t26_21 =>
 Bi .add t26_21 (.int .i64 1) fun t27_22 =>
 Nc t20_16 fun t28_23 =>
 Fa 0 t28_23 fun t29_24 =>
 Fa 0 t29_24 fun t30_25 =>
 Fa 1 t30_25 fun t31_26 =>
 St PP 1 t31_26 t27_22 w_12 fun w_27 =>
 Nc a0 fun t35_28 =>
 Fa 4 t35_28 fun t36_29 =>
 Ld t36_29 w_27 fun t37_30 =>
 Nc t20_16 fun t39_31 =>
 Fa 0 t39_31 fun t40_32 =>
 Fa 4 t40_32 fun t41_33 =>
 St PP 1 t41_33 t37_30 w_27 fun w_34 =>
 Nc t20_16 fun t42_35 =>
 Fa 0 t42_35 fun t43_36 =>
 Fa 9 t43_36 fun t44_37 =>
 St PP 1 t44_37 a1 w_34 fun w_38 =>
 Bi .add t17_13 (.int .i64 1) fun t45_39 =>
 I_9 [t45_39] w_38 ∧ m_10 [t45_39] w_38 < m_10 [t17_13] w_12) (
 R (.tuple #[]) w_12)
def S.tree_Tree_change.an : Ann := (.seq .leaf (.seq .leaf (.block (.loop (.seq .leaf (.seq (.cond .leaf .leaf) (.seq (.block (.seq .leaf (.seq .leaf .leaf))) .leaf))) [17] [7, 18, 19, 20, 21, 22, 23, 24, 25, 26, 27, 28, 29, 30, 31, 32, 33, 34, 35, 36, 37, 38, 39, 40, 41, 42, 43, 44, 45]))))
theorem S.tree_Tree_change.eq (a0 a1 a2 : Value) (w : World) (R : Value → World → Prop) : S.tree_Tree_change a0 a1 a2 w R = fnC PP 46 (Tryd.f24.body.getD .skip) S.tree_Tree_change.an [] [a0, a1, a2] w R := by kernel_rfl
theorem S.tree_Tree_change.calls {a0 a1 a2 : Value} {w : World} {R : Value → World → Prop} (h : S.tree_Tree_change a0 a1 a2 w R) : Ca PP Fn.tree_Tree_change #[a0, a1, a2] w R :=
  fnC_calls mixed (f := Fn.tree_Tree_change) (an := S.tree_Tree_change.an) Tryd.func24 rfl (by show _ ≤ _; exact Nat.le_of_ble_eq_true rfl) (S.tree_Tree_change.eq a0 a1 a2 w R ▸ h)
/-- (*acheron/tree.Tree).handle -/
def S.tree_Tree_handle (a0 a1 a2 a3 : Value) (w : World) (R : Value → World → Prop) : Prop :=
 Al Ty.api_Qid #[.int .i64 0, .int .i64 0, .int .i64 0] w fun t9_1 w_2 =>
 ∃ (I_3 : List Value → World → Prop) (m_4 : List Value → World → Nat), I_3 [(.int .i64 1)] w_2 ∧ ∀ t11_7, ∀ (u_5 : Env) (w_6 : World), I_3 [t11_7] w_6 →
 Nc a0 fun t13_8 =>
 Fa 5 t13_8 fun t14_9 =>
 Ld t14_9 w_6 fun t15_10 =>
 Rd PP (Instr.lookup Ty.map_int_tree_handle t15_10 t11_7 false) w_6 fun t17_11 =>
 Fi 0 t17_11 fun t18_12 =>
 Rd PP (eqS .neq Ty.p_tree_node (.tmp 18) (.const (.pointer none)) t18_12 (.pointer none)) w_6 fun t19_13 =>
 Cnd t19_13 (
 Bi .add t11_7 (.int .i64 1) fun t21_14 =>
 I_3 [t21_14] w_6 ∧ m_4 [t21_14] w_6 < m_4 [t11_7] w_6) (
 Nc a0 fun t23_15 =>
 Fa 5 t23_15 fun t24_16 =>
 Ld t24_16 w_6 fun t25_17 =>
 Bd #[.pointer none, .int .i64 0, .string ⟨#[]⟩] [(0, 1), (1, 1), (2, 1)] [(0, a1), (1, a2), (2, a3)] fun t30_18 =>
 Ef PP (Instr.mapUpdate Ty.map_int_tree_handle t25_17 t11_7 t30_18) w_6 fun _ w_19 =>
 Dr w_19 fun w_20 =>
 Nc a1 fun t33_21 =>
 Fa 0 t33_21 fun t34_22 =>
 Fa 0 t34_22 fun t35_23 =>
 LdA PP 3 t35_23 w_20 fun t36_24 =>
 St PP 3 t9_1 t36_24 w_20 fun w_25 =>
 LdA PP 3 t9_1 w_25 fun t9_26 =>
 R (.tuple #[t11_7, t9_26, (.int .i64 0)]) w_25)
def S.tree_Tree_handle.an : Ann := (.seq .leaf (.seq .leaf (.seq (.block (.loop (.seq (.seq .leaf (.cond .leaf .leaf)) (.seq (.block .leaf) .leaf)) [11] [12, 13, 14, 15, 16, 17, 18, 19, 20, 21])) (.seq .leaf (.seq (.draw [[], [], [1], [1, 2], [1, 2, 3], [1, 2, 3, 4], [0], [0, 1, 2, 3, 4, 5, 6], [0, 1, 2, 3, 4, 5, 6, 7]] (.calm 0 (.calm 1 (.calm 2 (.calm 3 (.calm 4 (.calm 5 (.calm 6 (.eff1 7 [] (.calm 8 .done)))))))))) .leaf)))))
theorem S.tree_Tree_handle.eq (a0 a1 a2 a3 : Value) (w : World) (R : Value → World → Prop) : S.tree_Tree_handle a0 a1 a2 a3 w R = fnC PP 37 (Tryd.f25.body.getD .skip) S.tree_Tree_handle.an [.tmp 8, .cell 9 31, .tmp 10] [a0, a1, a2, a3] w R := by kernel_rfl
theorem S.tree_Tree_handle.calls {a0 a1 a2 a3 : Value} {w : World} {R : Value → World → Prop} (h : S.tree_Tree_handle a0 a1 a2 a3 w R) : Ca PP Fn.tree_Tree_handle #[a0, a1, a2, a3] w R :=
  fnC_calls mixed (f := Fn.tree_Tree_handle) (an := S.tree_Tree_handle.an) Tryd.func25 rfl (by show _ ≤ _; exact Nat.le_of_ble_eq_true rfl) (S.tree_Tree_handle.eq a0 a1 a2 a3 w R ▸ h)
/-- (*acheron/tree.Tree).opened -/
def S.tree_Tree_opened (a0 a1 : Value) (w : World) (R : Value → World → Prop) : Prop :=
 Al Ty.tree_handle #[.pointer none, .int .i64 0, .string ⟨#[]⟩] w fun t4_1 w_2 =>
 Rd PP (eqS .eql Ty.p_tree_Tree (.tmp 8) (.const (.pointer none)) a0 (.pointer none)) w_2 fun t9_3 =>
 Cnd t9_3 (
 Bd #[.pointer none, .int .i64 0, .string ⟨#[]⟩] [(0, 1), (1, 1), (2, 1)] [] fun t10_4 =>
 St PP 3 t4_1 t10_4 w_2 fun w_5 =>
 LdA PP 3 t4_1 w_5 fun t4_6 =>
 R (.tuple #[t4_6, (.int .i64 6)]) w_5) (
 Nc a0 fun t13_7 =>
 Fa 5 t13_7 fun t14_8 =>
 Ld t14_8 w_2 fun t15_9 =>
 Rd PP (Instr.lookup Ty.map_int_tree_handle t15_9 a1 true) w_2 fun t17_10 =>
 Ex t17_10 0 fun t18_11 =>
 Ex t17_10 1 fun t19_12 =>
 Al Ty.tree_handle #[.pointer none, .int .i64 0, .string ⟨#[]⟩] w_2 fun t6_13 w_14 =>
 St PP 3 t6_13 t18_11 w_14 fun w_15 =>
 Cnd t19_12 (
 LdA PP 3 t6_13 w_15 fun t21_16 =>
 St PP 3 t4_1 t21_16 w_15 fun w_17 =>
 LdA PP 3 t4_1 w_17 fun t4_18 =>
 R (.tuple #[t4_18, (.int .i64 0)]) w_17) (
 Bd #[.pointer none, .int .i64 0, .string ⟨#[]⟩] [(0, 1), (1, 1), (2, 1)] [] fun t22_19 =>
 St PP 3 t4_1 t22_19 w_15 fun w_20 =>
 LdA PP 3 t4_1 w_20 fun t4_21 =>
 R (.tuple #[t4_21, (.int .i64 19)]) w_20))
def S.tree_Tree_opened.an : Ann := (.seq .leaf (.seq (.seq .leaf (.cond (.seq .leaf .leaf) .leaf)) (.seq (.seq .leaf (.seq .leaf (.cond (.seq .leaf .leaf) .leaf))) (.seq .leaf .leaf))))
theorem S.tree_Tree_opened.eq (a0 a1 : Value) (w : World) (R : Value → World → Prop) : S.tree_Tree_opened a0 a1 w R = fnC PP 23 (Tryd.f26.body.getD .skip) S.tree_Tree_opened.an [.cell 4 71, .tmp 5] [a0, a1] w R := by kernel_rfl
theorem S.tree_Tree_opened.calls {a0 a1 : Value} {w : World} {R : Value → World → Prop} (h : S.tree_Tree_opened a0 a1 w R) : Ca PP Fn.tree_Tree_opened #[a0, a1] w R :=
  fnC_calls mixed (f := Fn.tree_Tree_opened) (an := S.tree_Tree_opened.an) Tryd.func26 rfl (by show _ ≤ _; exact Nat.le_of_ble_eq_true rfl) (S.tree_Tree_opened.eq a0 a1 w R ▸ h)
/-- (*acheron/tree.node).resize -/
def S.tree_node_resize (a0 a1 : Value) (w : World) (R : Value → World → Prop) : Prop :=
 Ef PP (Instr.makeSlice Ty.sl_uint8 a1 a1) w fun t6_1 w_2 =>
 Nc a0 fun t9_3 =>
 Fa 10 t9_3 fun t10_4 =>
 Ld t10_4 w_2 fun t11_5 =>
 Ef PP (Builtin.copy_ #[Ty.sl_uint8, Ty.sl_uint8] Ty.int #[t6_1, t11_5]) w_2 fun t12_6 w_7 =>
 Nc a0 fun t15_8 =>
 Fa 10 t15_8 fun t16_9 =>
 St PP 1 t16_9 t6_1 w_7 fun w_10 =>
 R (.tuple #[]) w_10
def S.tree_node_resize.an : Ann := (.seq .leaf (.seq .leaf .leaf))
theorem S.tree_node_resize.eq (a0 a1 : Value) (w : World) (R : Value → World → Prop) : S.tree_node_resize a0 a1 w R = fnC PP 17 (Tryd.f27.body.getD .skip) S.tree_node_resize.an [] [a0, a1] w R := by kernel_rfl
theorem S.tree_node_resize.calls {a0 a1 : Value} {w : World} {R : Value → World → Prop} (h : S.tree_node_resize a0 a1 w R) : Ca PP Fn.tree_node_resize #[a0, a1] w R :=
  fnC_calls mixed (f := Fn.tree_node_resize) (an := S.tree_node_resize.an) Tryd.func27 rfl (by show _ ≤ _; exact Nat.le_of_ble_eq_true rfl) (S.tree_node_resize.eq a0 a1 w R ▸ h)
/-- (*acheron/tree.node).isDir -/
def S.tree_node_isDir (a0 : Value) (w : World) (R : Value → World → Prop) : Prop :=
 Nc a0 fun t4_1 =>
 Fa 0 t4_1 fun t5_2 =>
 Fa 3 t5_2 fun t6_3 =>
 Ld t6_3 w fun t7_4 =>
 Bi .and t7_4 (.int .i64 2147483648) fun t8_5 =>
 Bi .neq t8_5 (.int .i64 0) fun t9_6 =>
 R t9_6 w
def S.tree_node_isDir.an : Ann := (.seq .leaf (.seq .leaf .leaf))
theorem S.tree_node_isDir.eq (a0 : Value) (w : World) (R : Value → World → Prop) : S.tree_node_isDir a0 w R = fnC PP 10 (Tryd.f28.body.getD .skip) S.tree_node_isDir.an [.tmp 2] [a0] w R := by kernel_rfl
theorem S.tree_node_isDir.calls {a0 : Value} {w : World} {R : Value → World → Prop} (h : S.tree_node_isDir a0 w R) : Ca PP Fn.tree_node_isDir #[a0] w R :=
  fnC_calls mixed (f := Fn.tree_node_isDir) (an := S.tree_node_isDir.an) Tryd.func28 rfl (by show _ ≤ _; exact Nat.le_of_ble_eq_true rfl) (S.tree_node_isDir.eq a0 w R ▸ h)
/-- (*acheron/tree.Tree).find -/
def S.tree_Tree_find (a0 a1 : Value) (w : World) (R : Value → World → Prop) : Prop :=
 Rd PP (eqS .eql Ty.p_tree_Tree (.tmp 8) (.const (.pointer none)) a0 (.pointer none)) w fun t9_1 =>
 Cnd t9_1 (
 R (.tuple #[(.pointer none), (.int .i64 6)]) w) (
 Nc a0 fun t12_2 =>
 Fa 1 t12_2 fun t13_3 =>
 Ld t13_3 w fun t14_4 =>
 Rd PP (Instr.lookup Ty.map_int64_p_tree_node t14_4 a1 true) w fun t16_5 =>
 Ex t16_5 0 fun t17_6 =>
 Ex t16_5 1 fun t18_7 =>
 Cnd t18_7 (
 R (.tuple #[t17_6, (.int .i64 0)]) w) (
 R (.tuple #[(.pointer none), (.int .i64 4)]) w))
def S.tree_Tree_find.an : Ann := (.seq .leaf (.seq (.seq .leaf (.cond (.seq .leaf .leaf) .leaf)) (.seq (.seq .leaf (.seq .leaf (.cond (.seq .leaf .leaf) .leaf))) (.seq .leaf .leaf))))
theorem S.tree_Tree_find.eq (a0 a1 : Value) (w : World) (R : Value → World → Prop) : S.tree_Tree_find a0 a1 w R = fnC PP 21 (Tryd.f29.body.getD .skip) S.tree_Tree_find.an [.tmp 4, .tmp 5] [a0, a1] w R := by kernel_rfl
theorem S.tree_Tree_find.calls {a0 a1 : Value} {w : World} {R : Value → World → Prop} (h : S.tree_Tree_find a0 a1 w R) : Ca PP Fn.tree_Tree_find #[a0, a1] w R :=
  fnC_calls mixed (f := Fn.tree_Tree_find) (an := S.tree_Tree_find.an) Tryd.func29 rfl (by show _ ≤ _; exact Nat.le_of_ble_eq_true rfl) (S.tree_Tree_find.eq a0 a1 w R ▸ h)
/-- (*acheron/tree.node).stat -/
def S.tree_node_stat (a0 : Value) (w : World) (R : Value → World → Prop) : Prop :=
 Al Ty.api_Dir #[.int .i64 0, .int .i64 0, .int .i64 0, .int .i64 0, .int .i64 0, .int .i64 0, .string ⟨#[]⟩, .string ⟨#[]⟩, .string ⟨#[]⟩, .string ⟨#[]⟩] w fun t2_1 w_2 =>
 Nc a0 fun t5_3 =>
 Fa 0 t5_3 fun t6_4 =>
 LdA PP 10 t6_4 w_2 fun t7_5 =>
 Al Ty.api_Dir #[.int .i64 0, .int .i64 0, .int .i64 0, .int .i64 0, .int .i64 0, .int .i64 0, .string ⟨#[]⟩, .string ⟨#[]⟩, .string ⟨#[]⟩, .string ⟨#[]⟩] w_2 fun t3_6 w_7 =>
 St PP 10 t3_6 t7_5 w_7 fun w_8 =>
 Nc a0 fun t9_9 =>
 Fa 10 t9_9 fun t10_10 =>
 Ld t10_10 w_8 fun t11_11 =>
 LnL t11_11 fun t12_12 =>
 Fa 5 t3_6 fun t13_13 =>
 St PP 1 t13_13 t12_12 w_8 fun w_14 =>
 LdA PP 10 t3_6 w_14 fun t14_15 =>
 St PP 10 t2_1 t14_15 w_14 fun w_16 =>
 LdA PP 10 t2_1 w_16 fun t2_17 =>
 R t2_17 w_16
def S.tree_node_stat.an : Ann := (.seq .leaf (.seq .leaf (.seq .leaf (.seq .leaf .leaf))))
theorem S.tree_node_stat.eq (a0 : Value) (w : World) (R : Value → World → Prop) : S.tree_node_stat a0 w R = fnC PP 15 (Tryd.f30.body.getD .skip) S.tree_node_stat.an [.cell 2 46] [a0] w R := by kernel_rfl
theorem S.tree_node_stat.calls {a0 : Value} {w : World} {R : Value → World → Prop} (h : S.tree_node_stat a0 w R) : Ca PP Fn.tree_node_stat #[a0] w R :=
  fnC_calls mixed (f := Fn.tree_node_stat) (an := S.tree_node_stat.an) Tryd.func30 rfl (by show _ ≤ _; exact Nat.le_of_ble_eq_true rfl) (S.tree_node_stat.eq a0 w R ▸ h)
/-- strings.SplitSeq -/
def S.strings_SplitSeq (a0 a1 : Value) (w : World) (R : Value → World → Prop) : Prop :=
 Ca PP Fn.strings_splitSeq #[a0, a1, (.int .i64 0)] w fun t7_1 w_2 =>
 R t7_1 w_2
def S.strings_SplitSeq.an : Ann := (.seq .leaf (.seq .leaf .leaf))
theorem S.strings_SplitSeq.eq (a0 a1 : Value) (w : World) (R : Value → World → Prop) : S.strings_SplitSeq a0 a1 w R = fnC PP 8 (Tryd.f32.body.getD .skip) S.strings_SplitSeq.an [.tmp 4] [a0, a1] w R := by kernel_rfl
theorem S.strings_SplitSeq.calls {a0 a1 : Value} {w : World} {R : Value → World → Prop} (h : S.strings_SplitSeq a0 a1 w R) : Ca PP Fn.strings_SplitSeq #[a0, a1] w R :=
  fnC_calls mixed (f := Fn.strings_SplitSeq) (an := S.strings_SplitSeq.an) Tryd.func32 rfl (by show _ ≤ _; exact Nat.le_of_ble_eq_true rfl) (S.strings_SplitSeq.eq a0 a1 w R ▸ h)
/-- acheron/tree.repeated -/
def S.tree_repeated (a0 : Value) (w : World) (R : Value → World → Prop) : Prop :=
 Ca PP Fn.slices_Values_sl_string_string #[a0] w fun t4_1 w_2 =>
 Ca PP Fn.slices_Sorted_string #[t4_1] w_2 fun t5_3 w_4 =>
 Ca PP Fn.slices_Compact_sl_string_string #[t5_3] w_4 fun t7_5 w_6 =>
 LnL t7_5 fun t8_7 =>
 LnL t5_3 fun t10_8 =>
 Bi .lss t8_7 t10_8 fun t11_9 =>
 R t11_9 w_6
def S.tree_repeated.an : Ann := (.seq .leaf (.seq .leaf (.seq .leaf .leaf)))
theorem S.tree_repeated.eq (a0 : Value) (w : World) (R : Value → World → Prop) : S.tree_repeated a0 w R = fnC PP 12 (Tryd.f34.body.getD .skip) S.tree_repeated.an [.tmp 2] [a0] w R := by kernel_rfl
theorem S.tree_repeated.calls {a0 : Value} {w : World} {R : Value → World → Prop} (h : S.tree_repeated a0 w R) : Ca PP Fn.tree_repeated #[a0] w R :=
  fnC_calls mixed (f := Fn.tree_repeated) (an := S.tree_repeated.an) Tryd.func34 rfl (by show _ ≤ _; exact Nat.le_of_ble_eq_true rfl) (S.tree_repeated.eq a0 w R ▸ h)
/-- slices.ContainsFunc[[]string,string] -/
def S.slices_ContainsFunc_sl_string_string (a0 a1 : Value) (w : World) (R : Value → World → Prop) : Prop :=
 Ca PP Fn.slices_IndexFunc_sl_string_string #[a0, a1] w fun t7_1 w_2 =>
 Bi .geq t7_1 (.int .i64 0) fun t8_3 =>
 R t8_3 w_2
def S.slices_ContainsFunc_sl_string_string.an : Ann := (.seq .leaf (.seq .leaf .leaf))
theorem S.slices_ContainsFunc_sl_string_string.eq (a0 a1 : Value) (w : World) (R : Value → World → Prop) : S.slices_ContainsFunc_sl_string_string a0 a1 w R = fnC PP 9 (Tryd.f35.body.getD .skip) S.slices_ContainsFunc_sl_string_string.an [.tmp 4] [a0, a1] w R := by kernel_rfl
theorem S.slices_ContainsFunc_sl_string_string.calls {a0 a1 : Value} {w : World} {R : Value → World → Prop} (h : S.slices_ContainsFunc_sl_string_string a0 a1 w R) : Ca PP Fn.slices_ContainsFunc_sl_string_string #[a0, a1] w R :=
  fnC_calls mixed (f := Fn.slices_ContainsFunc_sl_string_string) (an := S.slices_ContainsFunc_sl_string_string.an) Tryd.func35 rfl (by show _ ≤ _; exact Nat.le_of_ble_eq_true rfl) (S.slices_ContainsFunc_sl_string_string.eq a0 a1 w R ▸ h)
/-- acheron/tree.check$1 -/
def S.tree_check_1 (a0 : Value) (w : World) (R : Value → World → Prop) : Prop :=
 Ca PP Fn.tree_Valid #[a0] w fun t4_1 w_2 =>
 Un .not t4_1 fun t5_3 =>
 R t5_3 w_2
def S.tree_check_1.an : Ann := (.seq .leaf (.seq .leaf .leaf))
theorem S.tree_check_1.eq (a0 : Value) (w : World) (R : Value → World → Prop) : S.tree_check_1 a0 w R = fnC PP 6 (Tryd.f36.body.getD .skip) S.tree_check_1.an [.tmp 2] [a0] w R := by kernel_rfl
theorem S.tree_check_1.calls {a0 : Value} {w : World} {R : Value → World → Prop} (h : S.tree_check_1 a0 w R) : Ca PP Fn.tree_check_1 #[a0] w R :=
  fnC_calls mixed (f := Fn.tree_check_1) (an := S.tree_check_1.an) Tryd.func36 rfl (by show _ ≤ _; exact Nat.le_of_ble_eq_true rfl) (S.tree_check_1.eq a0 w R ▸ h)
/-- slices.Clone[[]string,string] -/
def S.slices_Clone_sl_string_string (a0 : Value) (w : World) (R : Value → World → Prop) : Prop :=
 Rd PP (eqS .eql Ty.sl_string (.tmp 3) (.const (.slice none 0 0)) a0 (.slice none 0 0)) w fun t4_1 =>
 Cnd t4_1 (
 R (.slice none 0 0) w) (
 Ef PP (Instr.buildSlice Ty.sl_string 0 #[]) w fun t5_2 w_3 =>
 Ef PP (Builtin.append_ #[Ty.sl_string, Ty.sl_string] Ty.sl_string #[t5_2, a0]) w_3 fun t7_4 w_5 =>
 R t7_4 w_5)
def S.slices_Clone_sl_string_string.an : Ann := (.seq .leaf (.seq (.seq .leaf (.cond (.seq .leaf .leaf) .leaf)) (.seq .leaf .leaf)))
theorem S.slices_Clone_sl_string_string.eq (a0 : Value) (w : World) (R : Value → World → Prop) : S.slices_Clone_sl_string_string a0 w R = fnC PP 8 (Tryd.f37.body.getD .skip) S.slices_Clone_sl_string_string.an [.tmp 2] [a0] w R := by kernel_rfl
theorem S.slices_Clone_sl_string_string.calls {a0 : Value} {w : World} {R : Value → World → Prop} (h : S.slices_Clone_sl_string_string a0 w R) : Ca PP Fn.slices_Clone_sl_string_string #[a0] w R :=
  fnC_calls mixed (f := Fn.slices_Clone_sl_string_string) (an := S.slices_Clone_sl_string_string.an) Tryd.func37 rfl (by show _ ≤ _; exact Nat.le_of_ble_eq_true rfl) (S.slices_Clone_sl_string_string.eq a0 w R ▸ h)
/-- (*acheron/tree.Tree).member -/
def S.tree_Tree_member (a0 a1 a2 : Value) (w : World) (R : Value → World → Prop) : Prop :=
 ∀ J_1 : List Value → World → Prop, (∀ t6_4, ∀ w_3 : World, (∀ u_2 : Env,
 R t6_4 w_3) → J_1 [t6_4] w_3) →
 Bi .eql a1 a2 fun t9_5 =>
 Gd t9_5 false (fun k_6 => k_6 a0 w) w fun t11_7 w_8 =>
 Gd t9_5 false (fun k_9 => Nc t11_7 fun t12_12 =>
 k_9 t12_12 w_8) w_8 fun t12_10 w_11 =>
 Gd t9_5 false (fun k_13 => Fa 2 t12_10 fun t13_16 =>
 k_13 t13_16 w_11) w_11 fun t13_14 w_15 =>
 Gd t9_5 false (fun k_17 => Ld t13_14 w_15 fun t14_20 =>
 k_17 t14_20 w_15) w_15 fun t14_18 w_19 =>
 Gd t9_5 false (fun k_21 => k_21 a2 w_19) w_19 fun t15_22 w_23 =>
 Gd t9_5 false (fun k_24 => Rd PP (Instr.lookup Ty.map_string_sl_string t14_18 t15_22 false) w_23 fun t16_27 =>
 k_24 t16_27 w_23) w_23 fun t16_25 w_26 =>
 Gd t9_5 false (fun k_28 => k_28 a1 w_26) w_26 fun t17_29 w_30 =>
 Gd t9_5 false (fun k_31 => Ca PP Fn.slices_Contains_sl_string_string #[t16_25, t17_29] w_30 fun t18_34 w_35 =>
 k_31 t18_34 w_35) w_30 fun t18_32 w_33 =>
 Pk t9_5 (.bool true) t18_32 fun t19_36 =>
 J_1 [t19_36] w_33
def S.tree_Tree_member.an : Ann := (.seq .leaf (.join .leaf [6] [7, 8, 9, 10, 11, 12, 13, 14, 15, 16, 17, 18, 19] .leaf))
theorem S.tree_Tree_member.eq (a0 a1 a2 : Value) (w : World) (R : Value → World → Prop) : S.tree_Tree_member a0 a1 a2 w R = fnC PP 20 (Tryd.f38.body.getD .skip) S.tree_Tree_member.an [.tmp 6] [a0, a1, a2] w R := by kernel_rfl
theorem S.tree_Tree_member.calls {a0 a1 a2 : Value} {w : World} {R : Value → World → Prop} (h : S.tree_Tree_member a0 a1 a2 w R) : Ca PP Fn.tree_Tree_member #[a0, a1, a2] w R :=
  fnC_calls mixed (f := Fn.tree_Tree_member) (an := S.tree_Tree_member.an) Tryd.func38 rfl (by show _ ≤ _; exact Nat.le_of_ble_eq_true rfl) (S.tree_Tree_member.eq a0 a1 a2 w R ▸ h)
/-- strings.splitSeq -/
def S.strings_splitSeq (a0 a1 a2 : Value) (w : World) (R : Value → World → Prop) : Prop :=
 Al Ty.string (a0 : Value).cells w fun t3_1 w_2 =>
 Al Ty.string (a1 : Value).cells w_2 fun t4_3 w_4 =>
 Al Ty.int (a2 : Value).cells w_4 fun t5_5 w_6 =>
 R (.func (.func Fn.strings_splitSeq_1) #[] #[t4_3, t3_1, t5_5]) w_6
def S.strings_splitSeq.an : Ann := (.seq .leaf (.seq .leaf .leaf))
theorem S.strings_splitSeq.eq (a0 a1 a2 : Value) (w : World) (R : Value → World → Prop) : S.strings_splitSeq a0 a1 a2 w R = fnC PP 8 (Tryd.f40.body.getD .skip) S.strings_splitSeq.an [.tmp 6] [a0, a1, a2] w R := by kernel_rfl
theorem S.strings_splitSeq.calls {a0 a1 a2 : Value} {w : World} {R : Value → World → Prop} (h : S.strings_splitSeq a0 a1 a2 w R) : Ca PP Fn.strings_splitSeq #[a0, a1, a2] w R :=
  fnC_calls mixed (f := Fn.strings_splitSeq) (an := S.strings_splitSeq.an) Tryd.func40 rfl (by show _ ≤ _; exact Nat.le_of_ble_eq_true rfl) (S.strings_splitSeq.eq a0 a1 a2 w R ▸ h)
/-- slices.Sorted[string] -/
def S.slices_Sorted_string (a0 : Value) (w : World) (R : Value → World → Prop) : Prop :=
 Ca PP Fn.slices_Collect_string #[a0] w fun t5_1 w_2 =>
 Ca PP Fn.slices_Sort_sl_string_string #[t5_1] w_2 fun t7_3 w_4 =>
 R t5_1 w_4
def S.slices_Sorted_string.an : Ann := (.seq .leaf (.seq .leaf (.seq .leaf (.seq .leaf .leaf))))
theorem S.slices_Sorted_string.eq (a0 : Value) (w : World) (R : Value → World → Prop) : S.slices_Sorted_string a0 w R = fnC PP 9 (Tryd.f44.body.getD .skip) S.slices_Sorted_string.an [.tmp 2] [a0] w R := by kernel_rfl
theorem S.slices_Sorted_string.calls {a0 : Value} {w : World} {R : Value → World → Prop} (h : S.slices_Sorted_string a0 w R) : Ca PP Fn.slices_Sorted_string #[a0] w R :=
  fnC_calls mixed (f := Fn.slices_Sorted_string) (an := S.slices_Sorted_string.an) Tryd.func44 rfl (by show _ ≤ _; exact Nat.le_of_ble_eq_true rfl) (S.slices_Sorted_string.eq a0 w R ▸ h)
/-- slices.Values[[]string,string] -/
def S.slices_Values_sl_string_string (a0 : Value) (w : World) (R : Value → World → Prop) : Prop :=
 Al Ty.sl_string (a0 : Value).cells w fun t1_1 w_2 =>
 R (.func (.func Fn.slices_Values_sl_string_string_1) #[] #[t1_1]) w_2
def S.slices_Values_sl_string_string.an : Ann := (.seq .leaf (.seq .leaf .leaf))
theorem S.slices_Values_sl_string_string.eq (a0 : Value) (w : World) (R : Value → World → Prop) : S.slices_Values_sl_string_string a0 w R = fnC PP 4 (Tryd.f45.body.getD .skip) S.slices_Values_sl_string_string.an [.tmp 2] [a0] w R := by kernel_rfl
theorem S.slices_Values_sl_string_string.calls {a0 : Value} {w : World} {R : Value → World → Prop} (h : S.slices_Values_sl_string_string a0 w R) : Ca PP Fn.slices_Values_sl_string_string #[a0] w R :=
  fnC_calls mixed (f := Fn.slices_Values_sl_string_string) (an := S.slices_Values_sl_string_string.an) Tryd.func45 rfl (by show _ ≤ _; exact Nat.le_of_ble_eq_true rfl) (S.slices_Values_sl_string_string.eq a0 w R ▸ h)
/-- slices.Compact[[]string,string] -/
def S.slices_Compact_sl_string_string (a0 : Value) (w : World) (R : Value → World → Prop) : Prop :=
 LnL a0 fun t7_1 =>
 Bi .lss t7_1 (.int .i64 2) fun t8_2 =>
 Cnd t8_2 (
 R a0 w) (
 ∃ (I_3 : List Value → World → Prop) (m_4 : List Value → World → Nat), I_3 [(.int .i64 1)] w ∧ ∀ t3_7, ∀ (u_5 : Env) (w_6 : World), I_3 [t3_7] w_6 →
 LnL a0 fun t12_8 =>
 Bi .lss t3_7 t12_8 fun t13_9 =>
 Cnd t13_9 (
 Dr w_6 fun w_10 =>
 IxA 1 a0 t3_7 fun t18_11 =>
 Ld t18_11 w_10 fun t19_12 =>
 Bi .sub t3_7 (.int .i64 1) fun t22_13 =>
 IxA 1 a0 t22_13 fun t23_14 =>
 Ld t23_14 w_10 fun t24_15 =>
 Bi .eql t19_12 t24_15 fun t25_16 =>
 Cnd t25_16 (
 Sl 1 a0 (some t3_7) none fun t28_17 =>
 ∃ (I_18 : List Value → World → Prop) (m_19 : List Value → World → Nat), I_18 [t3_7, (.int .i64 1)] w_10 ∧ ∀ t3_22 t5_23, ∀ (u_20 : Env) (w_21 : World), I_18 [t3_22, t5_23] w_21 →
 LnL t28_17 fun t31_24 =>
 Bi .lss t5_23 t31_24 fun t32_25 =>
 Cnd t32_25 (
 ∀ J_26 : List Value → World → Prop, (∀ t3_29, ∀ w_28 : World, (∀ u_27 : Env,
 Bi .add t5_23 (.int .i64 1) fun t34_30 =>
 I_18 [t3_29, t34_30] w_28 ∧ m_19 [t3_29, t34_30] w_28 < m_19 [t3_22, t5_23] w_21) → J_26 [t3_29] w_28) →
 Dr w_21 fun w_31 =>
 IxA 1 t28_17 t5_23 fun t37_32 =>
 Ld t37_32 w_31 fun t38_33 =>
 Bi .sub t5_23 (.int .i64 1) fun t41_34 =>
 IxA 1 t28_17 t41_34 fun t42_35 =>
 Ld t42_35 w_31 fun t43_36 =>
 Bi .neq t38_33 t43_36 fun t44_37 =>
 Cnd t44_37 (
 IxA 1 t28_17 t5_23 fun t49_38 =>
 Ld t49_38 w_31 fun t50_39 =>
 IxA 1 a0 t3_22 fun t51_40 =>
 St PP 1 t51_40 t50_39 w_31 fun w_41 =>
 Bi .add t3_22 (.int .i64 1) fun t53_42 =>
 J_26 [t53_42] w_41) (
 J_26 [t3_22] w_31)) (
 Sl 1 a0 (some t3_22) none fun t56_43 =>
 Ef PP (Builtin.clear_ #[Ty.sl_string] Ty.t #[t56_43]) w_21 fun x_44 w_45 =>
 Sl 1 a0 none (some t3_22) fun t59_46 =>
 R t59_46 w_45)) (
 Bi .add t3_7 (.int .i64 1) fun t15_47 =>
 I_3 [t15_47] w_10 ∧ m_4 [t15_47] w_10 < m_4 [t3_7] w_6)) (
 R a0 w_6))
def S.slices_Compact_sl_string_string.an : Ann := (.seq .leaf (.seq (.seq .leaf (.cond (.seq .leaf .leaf) .leaf)) (.seq (.seq .leaf (.block (.loop (.seq (.seq .leaf (.cond .leaf .leaf)) (.seq (.block (.seq (.draw [[], [], [0, 1], [0, 1, 2], [], [], [5], [4, 5, 6], [4, 5, 6, 7], [0, 1, 2, 3, 4, 5, 6, 7, 8]] (.calm 0 (.calm 1 (.calm 2 (.calm 3 (.calm 4 (.calm 5 (.calm 6 (.calm 7 (.calm 8 (.calm 9 .done))))))))))) (.cond (.seq .leaf (.seq (.seq .leaf (.block (.loop (.seq (.seq .leaf (.cond .leaf .leaf)) (.join (.block (.seq (.draw [[], [], [0, 1], [0, 1, 2], [], [], [5], [4, 5, 6], [4, 5, 6, 7], [0, 1, 2, 3, 4, 5, 6, 7, 8]] (.calm 0 (.calm 1 (.calm 2 (.calm 3 (.calm 4 (.calm 5 (.calm 6 (.calm 7 (.calm 8 (.calm 9 .done))))))))))) (.cond (.seq .leaf .leaf) .leaf))) [3] [35, 36, 37, 38, 39, 40, 41, 42, 43, 44, 45, 46, 47, 48, 49, 50, 51, 52, 53] .leaf)) [3, 5] [29, 30, 31, 32, 33, 34, 35, 36, 37, 38, 39, 40, 41, 42, 43, 44, 45, 46, 47, 48, 49, 50, 51, 52, 53]))) (.seq .leaf (.seq .leaf .leaf)))) .leaf))) .leaf)) [3] [2, 4, 5, 10, 11, 12, 13, 14, 15, 16, 17, 18, 19, 20, 21, 22, 23, 24, 25, 26, 27, 28, 29, 30, 31, 32, 33, 34, 35, 36, 37, 38, 39, 40, 41, 42, 43, 44, 45, 46, 47, 48, 49, 50, 51, 52, 53, 54, 55, 56, 57, 58, 59]))) (.seq .leaf .leaf))))
theorem S.slices_Compact_sl_string_string.eq (a0 : Value) (w : World) (R : Value → World → Prop) : S.slices_Compact_sl_string_string a0 w R = fnC PP 61 (Tryd.f46.body.getD .skip) S.slices_Compact_sl_string_string.an [.tmp 2] [a0] w R := by kernel_rfl
theorem S.slices_Compact_sl_string_string.calls {a0 : Value} {w : World} {R : Value → World → Prop} (h : S.slices_Compact_sl_string_string a0 w R) : Ca PP Fn.slices_Compact_sl_string_string #[a0] w R :=
  fnC_calls mixed (f := Fn.slices_Compact_sl_string_string) (an := S.slices_Compact_sl_string_string.an) Tryd.func46 rfl (by show _ ≤ _; exact Nat.le_of_ble_eq_true rfl) (S.slices_Compact_sl_string_string.eq a0 w R ▸ h)
/-- slices.IndexFunc[[]string,string] -/
def S.slices_IndexFunc_sl_string_string (a0 a1 : Value) (w : World) (R : Value → World → Prop) : Prop :=
 LnL a0 fun t7_1 =>
 ∃ (I_2 : List Value → World → Prop) (m_3 : List Value → World → Nat), I_2 [(.int .i64 0)] w ∧ ∀ t8_6, ∀ (u_4 : Env) (w_5 : World), I_2 [t8_6] w_5 →
 Bi .lss t8_6 t7_1 fun t9_7 =>
 Cnd t9_7 (
 IxA 1 a0 t8_6 fun t14_8 =>
 Ld t14_8 w_5 fun t15_9 =>
 CaV PP a1 #[t15_9] w_5 fun t16_10 w_11 =>
 Cnd t16_10 (
 R t8_6 w_11) (
 Bi .add t8_6 (.int .i64 1) fun t18_12 =>
 I_2 [t18_12] w_11 ∧ m_3 [t18_12] w_11 < m_3 [t8_6] w_5)) (
 R (.int .i64 (-1)) w_5)
def S.slices_IndexFunc_sl_string_string.an : Ann := (.seq .leaf (.seq (.seq .leaf (.block (.loop (.seq .leaf (.seq (.cond .leaf .leaf) (.seq (.block (.seq .leaf (.seq .leaf (.cond (.seq .leaf .leaf) .leaf)))) .leaf))) [8] [4, 5, 9, 10, 11, 12, 13, 14, 15, 16, 17, 18]))) (.seq .leaf .leaf)))
theorem S.slices_IndexFunc_sl_string_string.eq (a0 a1 : Value) (w : World) (R : Value → World → Prop) : S.slices_IndexFunc_sl_string_string a0 a1 w R = fnC PP 19 (Tryd.f47.body.getD .skip) S.slices_IndexFunc_sl_string_string.an [.tmp 4] [a0, a1] w R := by kernel_rfl
theorem S.slices_IndexFunc_sl_string_string.calls {a0 a1 : Value} {w : World} {R : Value → World → Prop} (h : S.slices_IndexFunc_sl_string_string a0 a1 w R) : Ca PP Fn.slices_IndexFunc_sl_string_string #[a0, a1] w R :=
  fnC_calls mixed (f := Fn.slices_IndexFunc_sl_string_string) (an := S.slices_IndexFunc_sl_string_string.an) Tryd.func47 rfl (by show _ ≤ _; exact Nat.le_of_ble_eq_true rfl) (S.slices_IndexFunc_sl_string_string.eq a0 a1 w R ▸ h)
/-- slices.Contains[[]string,string] -/
def S.slices_Contains_sl_string_string (a0 a1 : Value) (w : World) (R : Value → World → Prop) : Prop :=
 Ca PP Fn.slices_Index_sl_string_string #[a0, a1] w fun t7_1 w_2 =>
 Bi .geq t7_1 (.int .i64 0) fun t8_3 =>
 R t8_3 w_2
def S.slices_Contains_sl_string_string.an : Ann := (.seq .leaf (.seq .leaf .leaf))
theorem S.slices_Contains_sl_string_string.eq (a0 a1 : Value) (w : World) (R : Value → World → Prop) : S.slices_Contains_sl_string_string a0 a1 w R = fnC PP 9 (Tryd.f48.body.getD .skip) S.slices_Contains_sl_string_string.an [.tmp 4] [a0, a1] w R := by kernel_rfl
theorem S.slices_Contains_sl_string_string.calls {a0 a1 : Value} {w : World} {R : Value → World → Prop} (h : S.slices_Contains_sl_string_string a0 a1 w R) : Ca PP Fn.slices_Contains_sl_string_string #[a0, a1] w R :=
  fnC_calls mixed (f := Fn.slices_Contains_sl_string_string) (an := S.slices_Contains_sl_string_string.an) Tryd.func48 rfl (by show _ ≤ _; exact Nat.le_of_ble_eq_true rfl) (S.slices_Contains_sl_string_string.eq a0 a1 w R ▸ h)
/-- strings.splitSeq$1 -/
def S.strings_splitSeq_1 (a0 a1 a2 a3 : Value) (w : World) (R : Value → World → Prop) : Prop :=
 Ld a1 w fun t9_1 =>
 LnS t9_1 fun t10_2 =>
 Bi .eql t10_2 (.int .i64 0) fun t11_3 =>
 Cnd t11_3 (
 ∃ (I_4 : List Value → World → Prop) (m_5 : List Value → World → Nat), I_4 [] w ∧ ∀ (u_6 : Env) (w_7 : World), I_4 [] w_7 →
 Ld a2 w_7 fun t12_8 =>
 LnS t12_8 fun t13_9 =>
 Bi .gtr t13_9 (.int .i64 0) fun t14_10 =>
 Cnd t14_10 (
 Ld a2 w_7 fun t16_11 =>
 Ca PP Fn.unicode_utf8_DecodeRuneInString #[t16_11] w_7 fun t17_12 w_13 =>
 Ex t17_12 0 fun t18_14 =>
 Ex t17_12 1 fun t19_15 =>
 Ld a2 w_13 fun t21_16 =>
 SlS t21_16 none (some t19_15) fun t23_17 =>
 CaV PP a0 #[t23_17] w_13 fun t24_18 w_19 =>
 Un .not t24_18 fun t25_20 =>
 Cnd t25_20 (
 R (.tuple #[]) w_19) (
 Ld a2 w_19 fun t26_21 =>
 SlS t26_21 (some t19_15) none fun t28_22 =>
 St PP 1 a2 t28_22 w_19 fun w_23 =>
 I_4 [] w_23 ∧ m_5 [] w_23 < m_5 [] w_7)) (
 R (.tuple #[]) w_7)) (
 ∃ (I_24 : List Value → World → Prop) (m_25 : List Value → World → Nat), I_24 [] w ∧ ∀ (u_26 : Env) (w_27 : World), I_24 [] w_27 →
 Ld a2 w_27 fun t29_28 =>
 Ld a1 w_27 fun t30_29 =>
 Ca PP Fn.strings_Index #[t29_28, t30_29] w_27 fun t31_30 w_31 =>
 Bi .lss t31_30 (.int .i64 0) fun t33_32 =>
 Cnd t33_32 (
 Ld a2 w_31 fun t50_33 =>
 CaV PP a0 #[t50_33] w_31 fun t51_34 w_35 =>
 R (.tuple #[]) w_35) (
 Ld a2 w_31 fun t34_36 =>
 Ld a3 w_31 fun t36_37 =>
 Bi .add t31_30 t36_37 fun t37_38 =>
 SlS t34_36 none (some t37_38) fun t38_39 =>
 CaV PP a0 #[t38_39] w_31 fun t41_40 w_41 =>
 Un .not t41_40 fun t42_42 =>
 Cnd t42_42 (
 R (.tuple #[]) w_41) (
 Ld a2 w_41 fun t43_43 =>
 Ld a1 w_41 fun t45_44 =>
 LnS t45_44 fun t46_45 =>
 Bi .add t31_30 t46_45 fun t47_46 =>
 SlS t43_43 (some t47_46) none fun t48_47 =>
 St PP 1 a2 t48_47 w_41 fun w_48 =>
 I_24 [] w_48 ∧ m_25 [] w_48 < m_25 [] w_27)))
def S.strings_splitSeq_1.an : Ann := (.seq (.seq .leaf (.cond (.seq (.block (.loop (.seq (.seq .leaf (.cond .leaf .leaf)) (.block (.seq .leaf (.seq (.seq .leaf (.cond .leaf .leaf)) .leaf)))) [] [5, 6, 12, 13, 14, 15, 16, 17, 18, 19, 20, 21, 22, 23, 24, 25, 26, 27, 28])) .leaf) .leaf)) (.seq (.block (.loop (.block (.seq .leaf (.seq (.seq .leaf (.cond .leaf .leaf)) (.seq .leaf (.seq (.seq .leaf (.cond .leaf .leaf)) .leaf))))) [] [7, 8, 29, 30, 31, 32, 33, 34, 35, 36, 37, 38, 39, 40, 41, 42, 43, 44, 45, 46, 47, 48])) .leaf))
theorem S.strings_splitSeq_1.eq (a0 a1 a2 a3 : Value) (w : World) (R : Value → World → Prop) : S.strings_splitSeq_1 a0 a1 a2 a3 w R = fnC PP 52 (Tryd.f49.body.getD .skip) S.strings_splitSeq_1.an [] [a0, a1, a2, a3] w R := by kernel_rfl
theorem S.strings_splitSeq_1.calls {a0 a1 a2 a3 : Value} {w : World} {R : Value → World → Prop} (h : S.strings_splitSeq_1 a0 a1 a2 a3 w R) : Ca PP Fn.strings_splitSeq_1 #[a0, a1, a2, a3] w R :=
  fnC_calls mixed (f := Fn.strings_splitSeq_1) (an := S.strings_splitSeq_1.an) Tryd.func49 rfl (by show _ ≤ _; exact Nat.le_of_ble_eq_true rfl) (S.strings_splitSeq_1.eq a0 a1 a2 a3 w R ▸ h)
/-- slices.Collect[string] -/
def S.slices_Collect_string (a0 : Value) (w : World) (R : Value → World → Prop) : Prop :=
 Ca PP Fn.slices_AppendSeq_sl_string_string #[(.slice none 0 0), a0] w fun t4_1 w_2 =>
 R t4_1 w_2
def S.slices_Collect_string.an : Ann := (.seq .leaf (.seq .leaf .leaf))
theorem S.slices_Collect_string.eq (a0 : Value) (w : World) (R : Value → World → Prop) : S.slices_Collect_string a0 w R = fnC PP 5 (Tryd.f54.body.getD .skip) S.slices_Collect_string.an [.tmp 2] [a0] w R := by kernel_rfl
theorem S.slices_Collect_string.calls {a0 : Value} {w : World} {R : Value → World → Prop} (h : S.slices_Collect_string a0 w R) : Ca PP Fn.slices_Collect_string #[a0] w R :=
  fnC_calls mixed (f := Fn.slices_Collect_string) (an := S.slices_Collect_string.an) Tryd.func54 rfl (by show _ ≤ _; exact Nat.le_of_ble_eq_true rfl) (S.slices_Collect_string.eq a0 w R ▸ h)
/-- slices.Values[[]string,string]$1 -/
def S.slices_Values_sl_string_string_1 (a0 a1 : Value) (w : World) (R : Value → World → Prop) : Prop :=
 Ld a1 w fun t5_1 =>
 LnL t5_1 fun t6_2 =>
 ∃ (I_3 : List Value → World → Prop) (m_4 : List Value → World → Nat), I_3 [(.int .i64 0)] w ∧ ∀ t7_7, ∀ (u_5 : Env) (w_6 : World), I_3 [t7_7] w_6 →
 Bi .lss t7_7 t6_2 fun t8_8 =>
 Cnd t8_8 (
 IxA 1 t5_1 t7_7 fun t9_9 =>
 Ld t9_9 w_6 fun t10_10 =>
 CaV PP a0 #[t10_10] w_6 fun t13_11 w_12 =>
 Un .not t13_11 fun t14_13 =>
 Cnd t14_13 (
 R (.tuple #[]) w_12) (
 Bi .add t7_7 (.int .i64 1) fun t15_14 =>
 I_3 [t15_14] w_12 ∧ m_4 [t15_14] w_12 < m_4 [t7_7] w_6)) (
 R (.tuple #[]) w_6)
def S.slices_Values_sl_string_string_1.an : Ann := (.seq .leaf (.block (.loop (.seq .leaf (.seq (.cond .leaf .leaf) (.seq (.block (.seq .leaf (.seq .leaf (.cond .leaf .leaf)))) .leaf))) [7] [4, 8, 9, 10, 11, 12, 13, 14, 15])))
theorem S.slices_Values_sl_string_string_1.eq (a0 a1 : Value) (w : World) (R : Value → World → Prop) : S.slices_Values_sl_string_string_1 a0 a1 w R = fnC PP 16 (Tryd.f56.body.getD .skip) S.slices_Values_sl_string_string_1.an [] [a0, a1] w R := by kernel_rfl
theorem S.slices_Values_sl_string_string_1.calls {a0 a1 : Value} {w : World} {R : Value → World → Prop} (h : S.slices_Values_sl_string_string_1 a0 a1 w R) : Ca PP Fn.slices_Values_sl_string_string_1 #[a0, a1] w R :=
  fnC_calls mixed (f := Fn.slices_Values_sl_string_string_1) (an := S.slices_Values_sl_string_string_1.an) Tryd.func56 rfl (by show _ ≤ _; exact Nat.le_of_ble_eq_true rfl) (S.slices_Values_sl_string_string_1.eq a0 a1 w R ▸ h)
/-- slices.Index[[]string,string] -/
def S.slices_Index_sl_string_string (a0 a1 : Value) (w : World) (R : Value → World → Prop) : Prop :=
 LnL a0 fun t7_1 =>
 ∃ (I_2 : List Value → World → Prop) (m_3 : List Value → World → Nat), I_2 [(.int .i64 0)] w ∧ ∀ t8_6, ∀ (u_4 : Env) (w_5 : World), I_2 [t8_6] w_5 →
 Bi .lss t8_6 t7_1 fun t9_7 =>
 Cnd t9_7 (
 IxA 1 a0 t8_6 fun t14_8 =>
 Ld t14_8 w_5 fun t15_9 =>
 Bi .eql a1 t15_9 fun t16_10 =>
 Cnd t16_10 (
 R t8_6 w_5) (
 Bi .add t8_6 (.int .i64 1) fun t18_11 =>
 I_2 [t18_11] w_5 ∧ m_3 [t18_11] w_5 < m_3 [t8_6] w_5)) (
 R (.int .i64 (-1)) w_5)
def S.slices_Index_sl_string_string.an : Ann := (.seq .leaf (.seq (.seq .leaf (.block (.loop (.seq .leaf (.seq (.cond .leaf .leaf) (.seq (.block (.seq .leaf (.seq .leaf (.cond (.seq .leaf .leaf) .leaf)))) .leaf))) [8] [4, 5, 9, 10, 11, 12, 13, 14, 15, 16, 17, 18]))) (.seq .leaf .leaf)))
theorem S.slices_Index_sl_string_string.eq (a0 a1 : Value) (w : World) (R : Value → World → Prop) : S.slices_Index_sl_string_string a0 a1 w R = fnC PP 19 (Tryd.f57.body.getD .skip) S.slices_Index_sl_string_string.an [.tmp 4] [a0, a1] w R := by kernel_rfl
theorem S.slices_Index_sl_string_string.calls {a0 a1 : Value} {w : World} {R : Value → World → Prop} (h : S.slices_Index_sl_string_string a0 a1 w R) : Ca PP Fn.slices_Index_sl_string_string #[a0, a1] w R :=
  fnC_calls mixed (f := Fn.slices_Index_sl_string_string) (an := S.slices_Index_sl_string_string.an) Tryd.func57 rfl (by show _ ≤ _; exact Nat.le_of_ble_eq_true rfl) (S.slices_Index_sl_string_string.eq a0 a1 w R ▸ h)
end Go.Proofs.YtnnhmahemklnkaaDoor
