/- Own text. -/
import Derived.Test.YtnnhmahemklnkaaGreatDoorSc
namespace Go.Proofs.YtnnhmahemklnkaaGreatDoor
open Go Go.Sh
set_option linter.unusedVariables false
set_option maxRecDepth 100000
/-- (*acheron/tree.Tree).Walk -/
def S.tree_Tree_Walk (a0 a1 a2 a3 : Value) (w : World) (R : Value → World → Prop) : Prop :=
 Al Ty.api_Qid #[.int .i64 0, .int .i64 0, .int .i64 0] w fun t8_1 w_2 =>
 Ca PP Fn.tree_Tree_folder #[a0, a2] w_2 fun t17_3 w_4 =>
 Ex t17_3 0 fun t18_5 =>
 Ex t17_3 1 fun t19_6 =>
 Bi .neq t19_6 (.int .i64 0) fun t22_7 =>
 Cnd t22_7 (
 Bd #[.int .i64 0, .int .i64 0, .int .i64 0] [(0, 1), (1, 1), (2, 1)] [] fun t23_8 =>
 St PP 3 t8_1 t23_8 w_4 fun w_9 =>
 LdA PP 3 t8_1 w_9 fun t8_10 =>
 R (.tuple #[t8_10, t19_6]) w_9) (
 Ca PP Fn.tree_Tree_may #[a0, a1, t18_5, (.int .i64 1)] w_4 fun t29_11 w_12 =>
 Un .not t29_11 fun t30_13 =>
 Cnd t30_13 (
 Bd #[.int .i64 0, .int .i64 0, .int .i64 0] [(0, 1), (1, 1), (2, 1)] [] fun t31_14 =>
 St PP 3 t8_1 t31_14 w_12 fun w_15 =>
 LdA PP 3 t8_1 w_15 fun t8_16 =>
 R (.tuple #[t8_16, (.int .i64 17)]) w_15) (
 Bi .eql a3 (.string ⟨#[46]⟩) fun t34_17 =>
 Cnd t34_17 (
 Nc t18_5 fun t36_18 =>
 Fa 0 t36_18 fun t37_19 =>
 Fa 0 t37_19 fun t38_20 =>
 LdA PP 3 t38_20 w_12 fun t39_21 =>
 St PP 3 t8_1 t39_21 w_12 fun w_22 =>
 LdA PP 3 t8_1 w_22 fun t8_23 =>
 R (.tuple #[t8_23, (.int .i64 0)]) w_22) (
 Bi .eql a3 (.string ⟨#[46, 46]⟩) fun t42_24 =>
 Cnd t42_24 (
 ∀ J_25 : List Value → World → Prop, (∀ t10_28, ∀ w_27 : World, (∀ u_26 : Env,
 Nc t10_28 fun t53_29 =>
 Fa 0 t53_29 fun t54_30 =>
 Fa 0 t54_30 fun t55_31 =>
 LdA PP 3 t55_31 w_27 fun t56_32 =>
 St PP 3 t8_1 t56_32 w_27 fun w_33 =>
 LdA PP 3 t8_1 w_33 fun t8_34 =>
 R (.tuple #[t8_34, (.int .i64 0)]) w_33) → J_25 [t10_28] w_27) →
 Nc t18_5 fun t44_35 =>
 Fa 12 t44_35 fun t45_36 =>
 Ld t45_36 w_12 fun t46_37 =>
 Rd PP (eqS .neq Ty.p_tree_node (.tmp 46) (.const (.pointer none)) t46_37 (.pointer none)) w_12 fun t47_38 =>
 Cnd t47_38 (
 Nc t18_5 fun t49_39 =>
 Fa 12 t49_39 fun t50_40 =>
 Ld t50_40 w_12 fun t51_41 =>
 J_25 [t51_41] w_12) (
 J_25 [t18_5] w_12)) (
 Ca PP Fn.tree_Valid #[a3] w_12 fun t59_42 w_43 =>
 Un .not t59_42 fun t60_44 =>
 Cnd t60_44 (
 Bd #[.int .i64 0, .int .i64 0, .int .i64 0] [(0, 1), (1, 1), (2, 1)] [] fun t61_45 =>
 St PP 3 t8_1 t61_45 w_43 fun w_46 =>
 LdA PP 3 t8_1 w_46 fun t8_47 =>
 R (.tuple #[t8_47, (.int .i64 8)]) w_46) (
 Nc t18_5 fun t64_48 =>
 Fa 11 t64_48 fun t65_49 =>
 Ld t65_49 w_43 fun t66_50 =>
 Rd PP (Instr.lookup Ty.map_string_p_tree_node t66_50 a3 true) w_43 fun t68_51 =>
 Ex t68_51 0 fun t69_52 =>
 Ex t68_51 1 fun t70_53 =>
 Cnd t70_53 (
 Nc t69_52 fun t73_54 =>
 Fa 0 t73_54 fun t74_55 =>
 Fa 0 t74_55 fun t75_56 =>
 LdA PP 3 t75_56 w_43 fun t76_57 =>
 St PP 3 t8_1 t76_57 w_43 fun w_58 =>
 LdA PP 3 t8_1 w_58 fun t8_59 =>
 R (.tuple #[t8_59, (.int .i64 0)]) w_58) (
 Bd #[.int .i64 0, .int .i64 0, .int .i64 0] [(0, 1), (1, 1), (2, 1)] [] fun t77_60 =>
 St PP 3 t8_1 t77_60 w_43 fun w_61 =>
 LdA PP 3 t8_1 w_61 fun t8_62 =>
 R (.tuple #[t8_62, (.int .i64 4)]) w_61))))))
def S.tree_Tree_Walk.an : Ann := (.seq .leaf (.seq .leaf (.seq (.block (.seq .leaf (.cond (.seq .leaf .leaf) (.seq .leaf (.cond (.seq .leaf .leaf) (.seq .leaf (.cond (.seq .leaf .leaf) (.seq .leaf (.cond (.join (.seq .leaf (.cond .leaf .leaf)) [10] [43, 44, 45, 46, 47, 48, 49, 50, 51] (.seq .leaf .leaf)) (.seq .leaf (.cond (.seq .leaf .leaf) .leaf))))))))))) (.seq (.seq .leaf (.seq .leaf (.cond (.seq .leaf .leaf) .leaf))) (.seq .leaf .leaf)))))
theorem S.tree_Tree_Walk.eq (a0 a1 a2 a3 : Value) (w : World) (R : Value → World → Prop) : S.tree_Tree_Walk a0 a1 a2 a3 w R = fnC PP 78 (Tryz.f78.body.getD .skip) S.tree_Tree_Walk.an [.cell 8 37, .tmp 9] [a0, a1, a2, a3] w R := by kernel_rfl
theorem S.tree_Tree_Walk.calls {a0 a1 a2 a3 : Value} {w : World} {R : Value → World → Prop} (h : S.tree_Tree_Walk a0 a1 a2 a3 w R) : Ca PP Fn.tree_Tree_Walk #[a0, a1, a2, a3] w R :=
  fnC_calls mixed (f := Fn.tree_Tree_Walk) (an := S.tree_Tree_Walk.an) Tryz.func78 rfl (by show _ ≤ _; exact Nat.le_of_ble_eq_true rfl) (S.tree_Tree_Walk.eq a0 a1 a2 a3 w R ▸ h)
/-- (*acheron/tree.Tree).Wstat -/
def S.tree_Tree_Wstat (a0 a1 a2 a3 : Value) (w : World) (R : Value → World → Prop) : Prop :=
 Al Ty.api_Dir (a3 : Value).cells w fun t7_1 w_2 =>
 Ca PP Fn.tree_Tree_find #[a0, a2] w_2 fun t21_3 w_4 =>
 Ex t21_3 0 fun t22_5 =>
 Ex t21_3 1 fun t23_6 =>
 Bi .neq t23_6 (.int .i64 0) fun t25_7 =>
 Cnd t25_7 (
 R t23_6 w_4) (
 Dr w_4 fun w_8 =>
 Fa 6 t7_1 fun t27_9 =>
 Ld t27_9 w_8 fun t28_10 =>
 Bi .neq t28_10 (.string ⟨#[]⟩) fun t29_11 =>
 Fa 8 t7_1 fun t30_12 =>
 Ld t30_12 w_8 fun t31_13 =>
 Bi .neq t31_13 (.string ⟨#[]⟩) fun t32_14 =>
 Dr w_8 fun w_15 =>
 Fa 3 t7_1 fun t33_16 =>
 Ld t33_16 w_15 fun t34_17 =>
 Bi .neq t34_17 (.int .i64 (-1)) fun t35_18 =>
 Fa 4 t7_1 fun t36_19 =>
 Ld t36_19 w_15 fun t37_20 =>
 Bi .neq t37_20 (.int .i64 (-1)) fun t38_21 =>
 Fa 5 t7_1 fun t39_22 =>
 Ld t39_22 w_15 fun t40_23 =>
 Bi .neq t40_23 (.int .i64 (-1)) fun t41_24 =>
 ∀ J_25 : List Value → World → Prop, (∀ t16_28, ∀ w_27 : World, (∀ u_26 : Env,
 ∀ J_29 : List Value → World → Prop, (∀ t53_32, ∀ w_31 : World, (∀ u_30 : Env,
 Cnd t53_32 (
 R (.int .i64 1) w_31) (
 ∀ J_33 : List Value → World → Prop, (∀ t108_36, ∀ w_35 : World, (∀ u_34 : Env,
 Cnd t108_36 (
 R (.int .i64 8) w_35) (
 ∀ J_37 : List Value → World → Prop, (∀ t125_40, ∀ w_39 : World, (∀ u_38 : Env,
 Cnd t125_40 (
 R (.int .i64 18) w_39) (
 Fa 5 t7_1 fun t137_41 =>
 Ld t137_41 w_39 fun t138_42 =>
 Bi .gtr t138_42 (.int .i64 1048576) fun t139_43 =>
 Cnd t139_43 (
 R (.int .i64 3) w_39) (
 ∀ J_44 : List Value → World → Prop, (∀ t140_47, ∀ w_46 : World, (∀ u_45 : Env,
 Cnd t140_47 (
 R (.int .i64 5) w_46) (
 ∀ J_48 : List Value → World → Prop, (∀ t155_51, ∀ w_50 : World, (∀ u_49 : Env,
 Cnd t155_51 (
 R (.int .i64 17) w_50) (
 ∀ J_52 : List Value → World → Prop, (∀ t205_55, ∀ w_54 : World, (∀ u_53 : Env,
 Cnd t205_55 (
 R (.int .i64 0) w_54) (
 Ef PP (Instr.buildSlice Ty.sl_p_tree_node 1 #[(0, t22_5)]) w_54 fun t221_56 w_57 =>
 ∀ J_58 : List Value → World → Prop, (∀ t17_61, ∀ w_60 : World, (∀ u_59 : Env,
 Ca PP Fn.tree_Tree_change #[a0, a1, t17_61] w_60 fun t264_62 w_63 =>
 ∀ J_64 : List Value → World → Prop, (∀ w_66 : World, (∀ u_65 : Env,
 ∀ J_67 : List Value → World → Prop, (∀ w_69 : World, (∀ u_68 : Env,
 ∀ J_70 : List Value → World → Prop, (∀ w_72 : World, (∀ u_71 : Env,
 ∀ J_73 : List Value → World → Prop, (∀ w_75 : World, (∀ u_74 : Env,
 R (.int .i64 0) w_75) → J_73 [] w_75) →
 ∀ J_76 : List Value → World → Prop, (∀ t289_79, ∀ w_78 : World, (∀ u_77 : Env,
 Cnd t289_79 (
 Fa 5 t7_1 fun t291_80 =>
 Ld t291_80 w_78 fun t292_81 =>
 Ca PP Fn.tree_node_resize #[t22_5, t292_81] w_78 fun t293_82 w_83 =>
 J_73 [] w_83) (
 J_73 [] w_78)) → J_76 [t289_79] w_78) →
 Gd t41_24 true (fun k_84 => k_84 t22_5 w_72) w_72 fun t286_85 w_86 =>
 Gd t41_24 true (fun k_87 => Ca PP Fn.tree_node_isDir #[t286_85] w_86 fun t287_90 w_91 =>
 k_87 t287_90 w_91) w_86 fun t287_88 w_89 =>
 Gd t41_24 true (fun k_92 => Un .not t287_88 fun t288_95 =>
 k_92 t288_95 w_89) w_89 fun t288_93 w_94 =>
 Pk t41_24 t288_93 (.bool false) fun t289_96 =>
 J_76 [t289_96] w_94) → J_70 [] w_72) →
 Cnd t32_14 (
 Fa 8 t7_1 fun t279_97 =>
 Ld t279_97 w_69 fun t280_98 =>
 Nc t22_5 fun t281_99 =>
 Fa 0 t281_99 fun t282_100 =>
 Fa 8 t282_100 fun t283_101 =>
 St PP 1 t283_101 t280_98 w_69 fun w_102 =>
 J_70 [] w_102) (
 J_70 [] w_69)) → J_67 [] w_69) →
 Cnd t35_18 (
 Fa 3 t7_1 fun t274_103 =>
 Ld t274_103 w_66 fun t275_104 =>
 Ca PP Fn.tree_node_is #[t22_5, t275_104] w_66 fun t276_105 w_106 =>
 J_67 [] w_106) (
 J_67 [] w_66)) → J_64 [] w_66) →
 Cnd t38_21 (
 Fa 4 t7_1 fun t267_107 =>
 Ld t267_107 w_63 fun t268_108 =>
 Nc t22_5 fun t269_109 =>
 Fa 0 t269_109 fun t270_110 =>
 Fa 4 t270_110 fun t271_111 =>
 St PP 1 t271_111 t268_108 w_63 fun w_112 =>
 J_64 [] w_112) (
 J_64 [] w_63)) → J_58 [t17_61] w_60) →
 Cnd t16_28 (
 Dr w_57 fun w_113 =>
 Nc t22_5 fun t224_114 =>
 Fa 12 t224_114 fun t225_115 =>
 Ld t225_115 w_113 fun t226_116 =>
 Nc t226_116 fun t227_117 =>
 Fa 11 t227_117 fun t228_118 =>
 Ld t228_118 w_113 fun t229_119 =>
 Nc t22_5 fun t231_120 =>
 Fa 0 t231_120 fun t232_121 =>
 Fa 6 t232_121 fun t233_122 =>
 Ld t233_122 w_113 fun t234_123 =>
 Ef PP (Builtin.delete_ #[Ty.map_string_p_tree_node, Ty.string] Ty.t #[t229_119, t234_123]) w_113 fun x_124 w_125 =>
 Fa 6 t7_1 fun t236_126 =>
 Ld t236_126 w_125 fun t237_127 =>
 Nc t22_5 fun t238_128 =>
 Fa 0 t238_128 fun t239_129 =>
 Fa 6 t239_129 fun t240_130 =>
 St PP 1 t240_130 t237_127 w_125 fun w_131 =>
 Dr w_131 fun w_132 =>
 Nc t22_5 fun t242_133 =>
 Fa 12 t242_133 fun t243_134 =>
 Ld t243_134 w_132 fun t244_135 =>
 Nc t244_135 fun t245_136 =>
 Fa 11 t245_136 fun t246_137 =>
 Ld t246_137 w_132 fun t247_138 =>
 Nc t22_5 fun t249_139 =>
 Fa 0 t249_139 fun t250_140 =>
 Fa 6 t250_140 fun t251_141 =>
 Ld t251_141 w_132 fun t252_142 =>
 Ef PP (Instr.mapUpdate Ty.map_string_p_tree_node t247_138 t252_142 t22_5) w_132 fun _ w_143 =>
 Nc t22_5 fun t256_144 =>
 Fa 12 t256_144 fun t257_145 =>
 Ld t257_145 w_143 fun t258_146 =>
 Ef PP (Instr.buildSlice Ty.sl_p_tree_node 1 #[(0, t258_146)]) w_143 fun t259_147 w_148 =>
 Ef PP (Builtin.append_ #[Ty.sl_p_tree_node, Ty.sl_p_tree_node] Ty.sl_p_tree_node #[t221_56, t259_147]) w_148 fun t260_149 w_150 =>
 J_58 [t260_149] w_150) (
 J_58 [t221_56] w_57))) → J_52 [t205_55] w_54) →
 Gd t29_11 false (fun k_151 => k_151 t32_14 w_50) w_50 fun t208_152 w_153 =>
 Pk t29_11 (.bool true) t208_152 fun t209_154 =>
 Gd t209_154 false (fun k_155 => k_155 t35_18 w_153) w_153 fun t211_156 w_157 =>
 Pk t209_154 (.bool true) t211_156 fun t212_158 =>
 Gd t212_158 false (fun k_159 => k_159 t38_21 w_157) w_157 fun t214_160 w_161 =>
 Pk t212_158 (.bool true) t214_160 fun t215_162 =>
 Gd t215_162 false (fun k_163 => k_163 t41_24 w_161) w_161 fun t217_164 w_165 =>
 Pk t215_162 (.bool true) t217_164 fun t218_166 =>
 Un .not t218_166 fun t219_167 =>
 J_52 [t219_167] w_165)) → J_48 [t155_51] w_50) →
 ∀ J_168 : List Value → World → Prop, (∀ t155_171, ∀ w_170 : World, (∀ u_169 : Env,
 Cnd t155_171 (
 J_48 [t155_171] w_170) (
 ∀ J_172 : List Value → World → Prop, (∀ t155_175, ∀ w_174 : World, (∀ u_173 : Env,
 Cnd t155_175 (
 J_48 [t155_175] w_174) (
 ∀ J_176 : List Value → World → Prop, (∀ t155_179, ∀ w_178 : World, (∀ u_177 : Env,
 Cnd t155_179 (
 J_48 [t155_179] w_178) (
 Gd t32_14 true (fun k_180 => k_180 a0 w_178) w_178 fun t198_181 w_182 =>
 Gd t32_14 true (fun k_183 => k_183 a1 w_182) w_182 fun t199_184 w_185 =>
 Gd t32_14 true (fun k_186 => Fa 8 t7_1 fun t200_189 =>
 k_186 t200_189 w_185) w_185 fun t200_187 w_188 =>
 Gd t32_14 true (fun k_190 => Ld t200_187 w_188 fun t201_193 =>
 k_190 t201_193 w_188) w_188 fun t201_191 w_192 =>
 Gd t32_14 true (fun k_194 => Ca PP Fn.tree_Tree_member #[t198_181, t199_184, t201_191] w_192 fun t202_197 w_198 =>
 k_194 t202_197 w_198) w_192 fun t202_195 w_196 =>
 Gd t32_14 true (fun k_199 => Un .not t202_195 fun t203_202 =>
 k_199 t203_202 w_196) w_196 fun t203_200 w_201 =>
 Pk t32_14 t203_200 (.bool false) fun t204_203 =>
 J_48 [t204_203] w_201)) → J_176 [t155_179] w_178) →
 Gd t35_18 false (fun k_204 => k_204 t38_21 w_174) w_174 fun t182_205 w_206 =>
 Pk t35_18 (.bool true) t182_205 fun t183_207 =>
 Gd t183_207 false (fun k_208 => k_208 t32_14 w_206) w_206 fun t185_209 w_210 =>
 Pk t183_207 (.bool true) t185_209 fun t186_211 =>
 Gd t186_211 true (fun k_212 => k_212 a1 w_210) w_210 fun t188_213 w_214 =>
 Gd t186_211 true (fun k_215 => k_215 t22_5 w_214) w_214 fun t189_216 w_217 =>
 Gd t186_211 true (fun k_218 => Nc t189_216 fun t190_221 =>
 k_218 t190_221 w_217) w_217 fun t190_219 w_220 =>
 Gd t186_211 true (fun k_222 => Fa 0 t190_219 fun t191_225 =>
 k_222 t191_225 w_220) w_220 fun t191_223 w_224 =>
 Gd t186_211 true (fun k_226 => Fa 7 t191_223 fun t192_229 =>
 k_226 t192_229 w_224) w_224 fun t192_227 w_228 =>
 Gd t186_211 true (fun k_230 => Ld t192_227 w_228 fun t193_233 =>
 k_230 t193_233 w_228) w_228 fun t193_231 w_232 =>
 Gd t186_211 true (fun k_234 => Bi .neq t188_213 t193_231 fun t194_237 =>
 k_234 t194_237 w_232) w_232 fun t194_235 w_236 =>
 Pk t186_211 t194_235 (.bool false) fun t195_238 =>
 J_176 [t195_238] w_236)) → J_172 [t155_175] w_174) →
 Gd t41_24 true (fun k_239 => k_239 t22_5 w_170) w_170 fun t169_240 w_241 =>
 Gd t41_24 true (fun k_242 => Ca PP Fn.tree_node_isDir #[t169_240] w_241 fun t170_245 w_246 =>
 k_242 t170_245 w_246) w_241 fun t170_243 w_244 =>
 Gd t41_24 true (fun k_247 => Un .not t170_243 fun t171_250 =>
 k_247 t171_250 w_244) w_244 fun t171_248 w_249 =>
 Pk t41_24 t171_248 (.bool false) fun t172_251 =>
 Gd t172_251 true (fun k_252 => k_252 a0 w_249) w_249 fun t174_253 w_254 =>
 Gd t172_251 true (fun k_255 => k_255 a1 w_254) w_254 fun t175_256 w_257 =>
 Gd t172_251 true (fun k_258 => k_258 t22_5 w_257) w_257 fun t176_259 w_260 =>
 Gd t172_251 true (fun k_261 => Ca PP Fn.tree_Tree_may #[t174_253, t175_256, t176_259, (.int .i64 2)] w_260 fun t177_264 w_265 =>
 k_261 t177_264 w_265) w_260 fun t177_262 w_263 =>
 Gd t172_251 true (fun k_266 => Un .not t177_262 fun t178_269 =>
 k_266 t178_269 w_263) w_263 fun t178_267 w_268 =>
 Pk t172_251 t178_267 (.bool false) fun t179_270 =>
 J_172 [t179_270] w_268)) → J_168 [t155_171] w_170) →
 Gd t16_28 true (fun k_271 => k_271 a0 w_46) w_46 fun t158_272 w_273 =>
 Gd t16_28 true (fun k_274 => k_274 a1 w_273) w_273 fun t159_275 w_276 =>
 Gd t16_28 true (fun k_277 => k_277 t22_5 w_276) w_276 fun t160_278 w_279 =>
 Gd t16_28 true (fun k_280 => Nc t160_278 fun t161_283 =>
 k_280 t161_283 w_279) w_279 fun t161_281 w_282 =>
 Gd t16_28 true (fun k_284 => Fa 12 t161_281 fun t162_287 =>
 k_284 t162_287 w_282) w_282 fun t162_285 w_286 =>
 Gd t16_28 true (fun k_288 => Ld t162_285 w_286 fun t163_291 =>
 k_288 t163_291 w_286) w_286 fun t163_289 w_290 =>
 Gd t16_28 true (fun k_292 => Ca PP Fn.tree_Tree_may #[t158_272, t159_275, t163_289, (.int .i64 2)] w_290 fun t164_295 w_296 =>
 k_292 t164_295 w_296) w_290 fun t164_293 w_294 =>
 Gd t16_28 true (fun k_297 => Un .not t164_293 fun t165_300 =>
 k_297 t165_300 w_294) w_294 fun t165_298 w_299 =>
 Pk t16_28 t165_298 (.bool false) fun t166_301 =>
 J_168 [t166_301] w_299)) → J_44 [t140_47] w_46) →
 Dr w_39 fun w_302 =>
 Gd t16_28 true (fun k_303 => k_303 t22_5 w_302) w_302 fun t143_304 w_305 =>
 Gd t16_28 true (fun k_306 => Nc t143_304 fun t144_309 =>
 k_306 t144_309 w_305) w_305 fun t144_307 w_308 =>
 Gd t16_28 true (fun k_310 => Fa 12 t144_307 fun t145_313 =>
 k_310 t145_313 w_308) w_308 fun t145_311 w_312 =>
 Gd t16_28 true (fun k_314 => Ld t145_311 w_312 fun t146_317 =>
 k_314 t146_317 w_312) w_312 fun t146_315 w_316 =>
 Gd t16_28 true (fun k_318 => Nc t146_315 fun t147_321 =>
 k_318 t147_321 w_316) w_316 fun t147_319 w_320 =>
 Gd t16_28 true (fun k_322 => Fa 11 t147_319 fun t148_325 =>
 k_322 t148_325 w_320) w_320 fun t148_323 w_324 =>
 Gd t16_28 true (fun k_326 => Ld t148_323 w_324 fun t149_329 =>
 k_326 t149_329 w_324) w_324 fun t149_327 w_328 =>
 Gd t16_28 true (fun k_330 => Fa 6 t7_1 fun t150_333 =>
 k_330 t150_333 w_328) w_328 fun t150_331 w_332 =>
 Gd t16_28 true (fun k_334 => Ld t150_331 w_332 fun t151_337 =>
 k_334 t151_337 w_332) w_332 fun t151_335 w_336 =>
 Gd t16_28 true (fun k_338 => Rd PP (Instr.lookup Ty.map_string_p_tree_node t149_327 t151_335 false) w_336 fun t152_341 =>
 k_338 t152_341 w_336) w_336 fun t152_339 w_340 =>
 Gd t16_28 true (fun k_342 => Rd PP (eqS .neq Ty.p_tree_node (.tmp 152) (.const (.pointer none)) t152_339 (.pointer none)) w_340 fun t153_345 =>
 k_342 t153_345 w_340) w_340 fun t153_343 w_344 =>
 Pk t16_28 t153_343 (.bool false) fun t154_346 =>
 J_44 [t154_346] w_344))) → J_37 [t125_40] w_39) →
 Gd t41_24 true (fun k_347 => Fa 5 t7_1 fun t128_350 =>
 k_347 t128_350 w_35) w_35 fun t128_348 w_349 =>
 Gd t41_24 true (fun k_351 => Ld t128_348 w_349 fun t129_354 =>
 k_351 t129_354 w_349) w_349 fun t129_352 w_353 =>
 Gd t41_24 true (fun k_355 => Bi .neq t129_352 (.int .i64 0) fun t130_358 =>
 k_355 t130_358 w_353) w_353 fun t130_356 w_357 =>
 Pk t41_24 t130_356 (.bool false) fun t131_359 =>
 Gd t131_359 true (fun k_360 => k_360 t22_5 w_357) w_357 fun t133_361 w_362 =>
 Gd t131_359 true (fun k_363 => Ca PP Fn.tree_node_isDir #[t133_361] w_362 fun t134_366 w_367 =>
 k_363 t134_366 w_367) w_362 fun t134_364 w_365 =>
 Pk t131_359 t134_364 (.bool false) fun t135_368 =>
 J_37 [t135_368] w_365)) → J_33 [t108_36] w_35) →
 Gd t29_11 true (fun k_369 => Fa 6 t7_1 fun t111_372 =>
 k_369 t111_372 w_31) w_31 fun t111_370 w_371 =>
 Gd t29_11 true (fun k_373 => Ld t111_370 w_371 fun t112_376 =>
 k_373 t112_376 w_371) w_371 fun t112_374 w_375 =>
 Gd t29_11 true (fun k_377 => Ca PP Fn.tree_Valid #[t112_374] w_375 fun t113_380 w_381 =>
 k_377 t113_380 w_381) w_375 fun t113_378 w_379 =>
 Gd t29_11 true (fun k_382 => Un .not t113_378 fun t114_385 =>
 k_382 t114_385 w_379) w_379 fun t114_383 w_384 =>
 Pk t29_11 t114_383 (.bool false) fun t115_386 =>
 Gd t115_386 false (fun k_387 => k_387 t32_14 w_384) w_384 fun t117_388 w_389 =>
 Gd t115_386 false (fun k_390 => k_390 t117_388 w_389) w_389 fun t118_391 w_392 =>
 Gd t118_391 true (fun k_393 => Fa 8 t7_1 fun t119_396 =>
 k_393 t119_396 w_392) w_392 fun t119_394 w_395 =>
 Gd t118_391 true (fun k_397 => Ld t119_394 w_395 fun t120_400 =>
 k_397 t120_400 w_395) w_395 fun t120_398 w_399 =>
 Gd t118_391 true (fun k_401 => Ca PP Fn.tree_Valid #[t120_398] w_399 fun t121_404 w_405 =>
 k_401 t121_404 w_405) w_399 fun t121_402 w_403 =>
 Gd t118_391 true (fun k_406 => Un .not t121_402 fun t122_409 =>
 k_406 t122_409 w_403) w_403 fun t122_407 w_408 =>
 Gd t115_386 false (fun k_410 => Pk t118_391 t122_407 (.bool false) fun t123_413 =>
 k_410 t123_413 w_408) w_408 fun t123_411 w_412 =>
 Pk t115_386 (.bool true) t123_411 fun t124_414 =>
 J_33 [t124_414] w_412)) → J_29 [t53_32] w_31) →
 ∀ J_415 : List Value → World → Prop, (∀ t53_418, ∀ w_417 : World, (∀ u_416 : Env,
 Cnd t53_418 (
 J_29 [t53_418] w_417) (
 Dr w_417 fun w_419 =>
 Gd t35_18 true (fun k_420 => Fa 3 t7_1 fun t91_423 =>
 k_420 t91_423 w_419) w_419 fun t91_421 w_422 =>
 Gd t35_18 true (fun k_424 => Ld t91_421 w_422 fun t92_427 =>
 k_424 t92_427 w_422) w_422 fun t92_425 w_426 =>
 Gd t35_18 true (fun k_428 => Ca PP Fn.tree_right #[t92_425] w_426 fun t93_431 w_432 =>
 k_428 t93_431 w_432) w_426 fun t93_429 w_430 =>
 Gd t35_18 true (fun k_433 => Un .not t93_429 fun t94_436 =>
 k_433 t94_436 w_430) w_430 fun t94_434 w_435 =>
 Gd t35_18 true (fun k_437 => k_437 t94_434 w_435) w_435 fun t95_438 w_439 =>
 Gd t95_438 false (fun k_440 => Fa 3 t7_1 fun t96_443 =>
 k_440 t96_443 w_439) w_439 fun t96_441 w_442 =>
 Gd t95_438 false (fun k_444 => Ld t96_441 w_442 fun t97_447 =>
 k_444 t97_447 w_442) w_442 fun t97_445 w_446 =>
 Gd t95_438 false (fun k_448 => Bi .and t97_445 (.int .i64 2147483648) fun t98_451 =>
 k_448 t98_451 w_446) w_446 fun t98_449 w_450 =>
 Gd t95_438 false (fun k_452 => k_452 t22_5 w_450) w_450 fun t99_453 w_454 =>
 Gd t95_438 false (fun k_455 => Nc t99_453 fun t100_458 =>
 k_455 t100_458 w_454) w_454 fun t100_456 w_457 =>
 Gd t95_438 false (fun k_459 => Fa 0 t100_456 fun t101_462 =>
 k_459 t101_462 w_457) w_457 fun t101_460 w_461 =>
 Gd t95_438 false (fun k_463 => Fa 3 t101_460 fun t102_466 =>
 k_463 t102_466 w_461) w_461 fun t102_464 w_465 =>
 Gd t95_438 false (fun k_467 => Ld t102_464 w_465 fun t103_470 =>
 k_467 t103_470 w_465) w_465 fun t103_468 w_469 =>
 Gd t95_438 false (fun k_471 => Bi .and t103_468 (.int .i64 2147483648) fun t104_474 =>
 k_471 t104_474 w_469) w_469 fun t104_472 w_473 =>
 Gd t95_438 false (fun k_475 => Bi .neq t98_449 t104_472 fun t105_478 =>
 k_475 t105_478 w_473) w_473 fun t105_476 w_477 =>
 Gd t35_18 true (fun k_479 => Pk t95_438 (.bool true) t105_476 fun t106_482 =>
 k_479 t106_482 w_477) w_477 fun t106_480 w_481 =>
 Pk t35_18 t106_480 (.bool false) fun t107_483 =>
 J_29 [t107_483] w_481)) → J_415 [t53_418] w_417) →
 Fa 0 t7_1 fun t54_484 =>
 LdA PP 3 t54_484 w_27 fun t55_485 =>
 Bd #[.int .i64 0, .int .i64 0, .int .i64 0] [(0, 1), (1, 1), (2, 1)] [] fun t56_486 =>
 Rd PP (eqS .neq Ty.api_Qid (.tmp 55) (.tmp 56) t55_485 t56_486) w_27 fun t57_487 =>
 Gd t57_487 false (fun k_488 => Fa 7 t7_1 fun t59_491 =>
 k_488 t59_491 w_27) w_27 fun t59_489 w_490 =>
 Gd t57_487 false (fun k_492 => Ld t59_489 w_490 fun t60_495 =>
 k_492 t60_495 w_490) w_490 fun t60_493 w_494 =>
 Gd t57_487 false (fun k_496 => Bi .neq t60_493 (.string ⟨#[]⟩) fun t61_499 =>
 k_496 t61_499 w_494) w_494 fun t61_497 w_498 =>
 Pk t57_487 (.bool true) t61_497 fun t62_500 =>
 Gd t62_500 false (fun k_501 => Fa 9 t7_1 fun t64_504 =>
 k_501 t64_504 w_498) w_498 fun t64_502 w_503 =>
 Gd t62_500 false (fun k_505 => Ld t64_502 w_503 fun t65_508 =>
 k_505 t65_508 w_503) w_503 fun t65_506 w_507 =>
 Gd t62_500 false (fun k_509 => Bi .neq t65_506 (.string ⟨#[]⟩) fun t66_512 =>
 k_509 t66_512 w_507) w_507 fun t66_510 w_511 =>
 Pk t62_500 (.bool true) t66_510 fun t67_513 =>
 Gd t67_513 false (fun k_514 => Fa 5 t7_1 fun t69_517 =>
 k_514 t69_517 w_511) w_511 fun t69_515 w_516 =>
 Gd t67_513 false (fun k_518 => Ld t69_515 w_516 fun t70_521 =>
 k_518 t70_521 w_516) w_516 fun t70_519 w_520 =>
 Gd t67_513 false (fun k_522 => Bi .lss t70_519 (.int .i64 (-1)) fun t71_525 =>
 k_522 t71_525 w_520) w_520 fun t71_523 w_524 =>
 Pk t67_513 (.bool true) t71_523 fun t72_526 =>
 Gd t72_526 false (fun k_527 => Fa 4 t7_1 fun t74_530 =>
 k_527 t74_530 w_524) w_524 fun t74_528 w_529 =>
 Gd t72_526 false (fun k_531 => Ld t74_528 w_529 fun t75_534 =>
 k_531 t75_534 w_529) w_529 fun t75_532 w_533 =>
 Gd t72_526 false (fun k_535 => Bi .lss t75_532 (.int .i64 (-1)) fun t76_538 =>
 k_535 t76_538 w_533) w_533 fun t76_536 w_537 =>
 Pk t72_526 (.bool true) t76_536 fun t77_539 =>
 Gd t77_539 false (fun k_540 => k_540 t29_11 w_537) w_537 fun t79_541 w_542 =>
 Gd t77_539 false (fun k_543 => k_543 t79_541 w_542) w_542 fun t80_544 w_545 =>
 Gd t80_544 true (fun k_546 => k_546 t22_5 w_545) w_545 fun t81_547 w_548 =>
 Gd t80_544 true (fun k_549 => k_549 a0 w_548) w_548 fun t82_550 w_551 =>
 Gd t80_544 true (fun k_552 => Nc t82_550 fun t83_555 =>
 k_552 t83_555 w_551) w_551 fun t83_553 w_554 =>
 Gd t80_544 true (fun k_556 => Fa 0 t83_553 fun t84_559 =>
 k_556 t84_559 w_554) w_554 fun t84_557 w_558 =>
 Gd t80_544 true (fun k_560 => Ld t84_557 w_558 fun t85_563 =>
 k_560 t85_563 w_558) w_558 fun t85_561 w_562 =>
 Gd t80_544 true (fun k_564 => Rd PP (eqS .eql Ty.p_tree_node (.tmp 81) (.tmp 85) t81_547 t85_561) w_562 fun t86_567 =>
 k_564 t86_567 w_562) w_562 fun t86_565 w_566 =>
 Gd t77_539 false (fun k_568 => Pk t80_544 t86_565 (.bool false) fun t87_571 =>
 k_568 t87_571 w_566) w_566 fun t87_569 w_570 =>
 Pk t77_539 (.bool true) t87_569 fun t88_572 =>
 J_415 [t88_572] w_570) → J_25 [t16_28] w_27) →
 Dr w_15 fun w_573 =>
 Gd t29_11 true (fun k_574 => Fa 6 t7_1 fun t44_577 =>
 k_574 t44_577 w_573) w_573 fun t44_575 w_576 =>
 Gd t29_11 true (fun k_578 => Ld t44_575 w_576 fun t45_581 =>
 k_578 t45_581 w_576) w_576 fun t45_579 w_580 =>
 Gd t29_11 true (fun k_582 => k_582 t22_5 w_580) w_580 fun t46_583 w_584 =>
 Gd t29_11 true (fun k_585 => Nc t46_583 fun t47_588 =>
 k_585 t47_588 w_584) w_584 fun t47_586 w_587 =>
 Gd t29_11 true (fun k_589 => Fa 0 t47_586 fun t48_592 =>
 k_589 t48_592 w_587) w_587 fun t48_590 w_591 =>
 Gd t29_11 true (fun k_593 => Fa 6 t48_590 fun t49_596 =>
 k_593 t49_596 w_591) w_591 fun t49_594 w_595 =>
 Gd t29_11 true (fun k_597 => Ld t49_594 w_595 fun t50_600 =>
 k_597 t50_600 w_595) w_595 fun t50_598 w_599 =>
 Gd t29_11 true (fun k_601 => Bi .neq t45_579 t50_598 fun t51_604 =>
 k_601 t51_604 w_599) w_599 fun t51_602 w_603 =>
 Pk t29_11 t51_602 (.bool false) fun t52_605 =>
 J_25 [t52_605] w_603)
def S.tree_Tree_Wstat.an : Ann := (.seq .leaf (.seq .leaf (.seq (.seq .leaf (.cond (.seq .leaf .leaf) .leaf)) (.seq (.draw [[], [0], [0, 1], [], [3], [3, 4], [0, 1, 2], [0, 1, 2, 3, 4, 5, 6]] (.calm 0 (.calm 1 (.calm 2 (.calm 3 (.calm 4 (.calm 5 (.calm 6 (.calm 7 .done))))))))) (.seq (.draw [[], [0], [0, 1], [], [3], [3, 4], [], [6], [6, 7], [0, 1, 2], [0, 1, 2, 3, 4, 5, 9], [0, 1, 2, 3, 4, 5, 6, 7, 8, 9, 10]] (.calm 0 (.calm 1 (.calm 2 (.calm 3 (.calm 4 (.calm 5 (.calm 6 (.calm 7 (.calm 8 (.calm 9 (.calm 10 (.calm 11 .done))))))))))))) (.join (.draw [[], [0], [0, 1], [0, 1, 2], [0, 1], [0, 1, 4], [0, 1, 4, 5], [0, 1, 4, 5, 6], [0, 1, 4, 5, 6, 7], [0, 1, 2, 3, 4, 5, 6, 7, 8], [0, 1, 2, 3, 4, 5, 6, 7, 8, 9], [0, 1, 2, 3, 4, 5, 6, 7, 8, 9, 10]] (.calm 0 (.calm 1 (.calm 2 (.calm 3 (.calm 4 (.calm 5 (.calm 6 (.calm 7 (.calm 8 (.calm 9 (.calm 10 (.calm 11 .done))))))))))))) [16] [42, 43, 44, 45, 46, 47, 48, 49, 50, 51, 52] (.seq (.block (.join (.join .leaf [53] [54, 55, 56, 57, 58, 59, 60, 61, 62, 63, 64, 65, 66, 67, 68, 69, 70, 71, 72, 73, 74, 75, 76, 77, 78, 79, 80, 81, 82, 83, 84, 85, 86, 87, 88] (.cond .leaf (.draw [[], [0], [0, 1], [0, 1, 2], [0, 1, 2, 3], [0, 1, 2, 3, 4], [0, 1, 2, 3, 4, 5], [0, 1, 2, 3, 4, 5, 6], [0, 1, 2, 3, 4, 5, 6, 7], [0, 1, 2, 3, 4, 5, 6, 7, 8], [0, 1, 2, 3, 4, 5, 6], [0, 1, 2, 3, 4, 5, 6, 10], [0, 1, 2, 3, 4, 5, 6, 10, 11], [0, 1, 2, 3, 4, 5, 6, 10, 11, 12], [0, 1, 2, 3, 4, 5, 6, 10, 11, 12, 13], [0, 1, 2, 3, 4, 5, 6, 10, 11, 12, 13, 14], [0, 1, 2, 3, 4, 5, 6, 7, 8, 9, 10, 11, 12, 13, 14, 15], [0, 1, 2, 3, 4, 5, 6, 7, 8, 9, 10, 11, 12, 13, 14, 15, 16], [0, 1, 2, 3, 4, 5, 6, 7, 8, 9, 10, 11, 12, 13, 14, 15, 16, 17], [0, 1, 2, 3, 4, 5, 6, 7, 8, 9, 10, 11, 12, 13, 14, 15, 16, 17, 18]] (.calm 0 (.calm 1 (.calm 2 (.calm 3 (.eff1 4 [] (.calm 5 (.calm 6 (.calm 7 (.calm 8 (.calm 9 (.calm 10 (.calm 11 (.calm 12 (.calm 13 (.calm 14 (.calm 15 (.calm 16 (.calm 17 (.calm 18 (.calm 19 .done))))))))))))))))))))))) [53] [54, 55, 56, 57, 58, 59, 60, 61, 62, 63, 64, 65, 66, 67, 68, 69, 70, 71, 72, 73, 74, 75, 76, 77, 78, 79, 80, 81, 82, 83, 84, 85, 86, 87, 88, 89, 90, 91, 92, 93, 94, 95, 96, 97, 98, 99, 100, 101, 102, 103, 104, 105, 106, 107] (.cond (.seq .leaf .leaf) (.join .leaf [108] [109, 110, 111, 112, 113, 114, 115, 116, 117, 118, 119, 120, 121, 122, 123, 124] (.cond (.seq .leaf .leaf) (.join .leaf [125] [126, 127, 128, 129, 130, 131, 132, 133, 134, 135] (.cond (.seq .leaf .leaf) (.seq .leaf (.cond (.seq .leaf .leaf) (.join (.draw [[], [0], [0, 1], [0, 1, 2], [0, 1, 2, 3], [0, 1, 2, 3, 4], [0, 1, 2, 3, 4, 5], [0, 1, 2, 3, 4, 5, 6], [0, 1, 2, 3, 4, 5, 6, 7], [0, 1], [0, 1, 9], [0, 1, 2, 3, 4, 5, 6, 7, 8, 9, 10], [0, 1, 2, 3, 4, 5, 6, 7, 8, 9, 10, 11], [0, 1, 2, 3, 4, 5, 6, 7, 8, 9, 10, 11, 12], [0, 1, 2, 3, 4, 5, 6, 7, 8, 9, 10, 11, 12, 13]] (.calm 0 (.calm 1 (.calm 2 (.calm 3 (.calm 4 (.calm 5 (.calm 6 (.calm 7 (.calm 8 (.calm 9 (.calm 10 (.calm 11 (.calm 12 (.calm 13 (.calm 14 .done)))))))))))))))) [140] [141, 142, 143, 144, 145, 146, 147, 148, 149, 150, 151, 152, 153, 154] (.cond (.seq .leaf .leaf) (.join (.join .leaf [155] [156, 157, 158, 159, 160, 161, 162, 163, 164, 165, 166] (.cond .leaf (.join .leaf [155] [167, 168, 169, 170, 171, 172, 173, 174, 175, 176, 177, 178, 179] (.cond .leaf (.join .leaf [155] [180, 181, 182, 183, 184, 185, 186, 187, 188, 189, 190, 191, 192, 193, 194, 195] (.cond .leaf .leaf)))))) [155] [156, 157, 158, 159, 160, 161, 162, 163, 164, 165, 166, 167, 168, 169, 170, 171, 172, 173, 174, 175, 176, 177, 178, 179, 180, 181, 182, 183, 184, 185, 186, 187, 188, 189, 190, 191, 192, 193, 194, 195, 196, 197, 198, 199, 200, 201, 202, 203, 204] (.cond (.seq .leaf .leaf) (.join .leaf [205] [206, 207, 208, 209, 210, 211, 212, 213, 214, 215, 216, 217, 218, 219] (.cond (.seq .leaf .leaf) .leaf))))))))))))))) (.seq .leaf (.join (.seq .leaf (.cond (.seq (.draw [[], [0], [0, 1], [0, 1, 2], [0, 1, 2, 3], [0, 1, 2, 3, 4], [0, 1, 2, 3, 4, 5], [], [7], [7, 8], [7, 8, 9], [7, 8, 9, 10], [0, 1, 2, 3, 4, 5, 6, 7, 8, 9, 10, 11]] (.calm 0 (.calm 1 (.calm 2 (.calm 3 (.calm 4 (.calm 5 (.calm 6 (.calm 7 (.calm 8 (.calm 9 (.calm 10 (.calm 11 (.eff1 12 [] .done)))))))))))))) (.seq .leaf (.seq (.draw [[], [0], [0, 1], [0, 1, 2], [0, 1, 2, 3], [0, 1, 2, 3, 4], [0, 1, 2, 3, 4, 5], [], [7], [7, 8], [7, 8, 9], [7, 8, 9, 10], [], [0, 1, 2, 3, 4, 5, 6, 7, 8, 9, 10, 11, 12]] (.calm 0 (.calm 1 (.calm 2 (.calm 3 (.calm 4 (.calm 5 (.calm 6 (.calm 7 (.calm 8 (.calm 9 (.calm 10 (.calm 11 (.calm 12 (.eff1 13 [] .done))))))))))))))) .leaf))) .leaf)) [17] [222, 223, 224, 225, 226, 227, 228, 229, 230, 231, 232, 233, 234, 235, 236, 237, 238, 239, 240, 241, 242, 243, 244, 245, 246, 247, 248, 249, 250, 251, 252, 253, 254, 255, 256, 257, 258, 259, 260] (.seq .leaf (.join (.seq .leaf (.cond .leaf .leaf)) [] [265, 266, 267, 268, 269, 270, 271] (.join (.seq .leaf (.cond .leaf .leaf)) [] [272, 273, 274, 275, 276] (.join (.seq .leaf (.cond .leaf .leaf)) [] [277, 278, 279, 280, 281, 282, 283] (.join (.join .leaf [289] [284, 285, 286, 287, 288] (.cond .leaf .leaf)) [] [284, 285, 286, 287, 288, 289, 290, 291, 292, 293] (.seq .leaf .leaf)))))))))))))))
theorem S.tree_Tree_Wstat.eq (a0 a1 a2 a3 : Value) (w : World) (R : Value → World → Prop) : S.tree_Tree_Wstat a0 a1 a2 a3 w R = fnC PP 294 (Tryz.f79.body.getD .skip) S.tree_Tree_Wstat.an [.tmp 8] [a0, a1, a2, a3] w R := by kernel_rfl
theorem S.tree_Tree_Wstat.calls {a0 a1 a2 a3 : Value} {w : World} {R : Value → World → Prop} (h : S.tree_Tree_Wstat a0 a1 a2 a3 w R) : Ca PP Fn.tree_Tree_Wstat #[a0, a1, a2, a3] w R :=
  fnC_calls mixed (f := Fn.tree_Tree_Wstat) (an := S.tree_Tree_Wstat.an) Tryz.func79 rfl (by show _ ≤ _; exact Nat.le_of_ble_eq_true rfl) (S.tree_Tree_Wstat.eq a0 a1 a2 a3 w R ▸ h)
/-- (*acheron/tree.Tree).List -/
def S.tree_Tree_List (a0 a1 : Value) (w : World) (R : Value → World → Prop) : Prop :=
 Ca PP Fn.tree_Tree_opened #[a0, a1] w fun t13_1 w_2 =>
 Ex t13_1 0 fun t14_3 =>
 Ex t13_1 1 fun t15_4 =>
 Al Ty.tree_handle #[.pointer none, .int .i64 0, .string ⟨#[]⟩] w_2 fun t6_5 w_6 =>
 St PP 3 t6_5 t14_3 w_6 fun w_7 =>
 Bi .neq t15_4 (.int .i64 0) fun t18_8 =>
 Cnd t18_8 (
 R (.tuple #[(.slice none 0 0), t15_4]) w_7) (
 Fa 0 t6_5 fun t21_9 =>
 Ld t21_9 w_7 fun t22_10 =>
 Nc t22_10 fun t23_11 =>
 Fa 13 t23_11 fun t24_12 =>
 Ld t24_12 w_7 fun t25_13 =>
 Cnd t25_13 (
 R (.tuple #[(.slice none 0 0), (.int .i64 4)]) w_7) (
 Fa 0 t6_5 fun t27_14 =>
 Ld t27_14 w_7 fun t28_15 =>
 Ca PP Fn.tree_node_isDir #[t28_15] w_7 fun t29_16 w_17 =>
 Un .not t29_16 fun t30_18 =>
 Cnd t30_18 (
 R (.tuple #[(.slice none 0 0), (.int .i64 18)]) w_17) (
 Al Ty.sl_api_Dir #[.slice none 0 0] w_17 fun t8_19 w_20 =>
 Fa 0 t6_5 fun t31_21 =>
 Ld t31_21 w_20 fun t32_22 =>
 Ca PP Fn.tree_node_sorted #[t32_22] w_20 fun t33_23 w_24 =>
 RFo PP t33_23 w_24 (RB.one fun r_25 L_26 t34_27 w_28 Rn_29 Re_30 Rr_31 =>
 Bgn r_25 L_26 w_28 fun w_32 =>
 Dr w_32 fun w_33 =>
 Ld t8_19 w_33 fun t35_34 =>
 Ca PP Fn.tree_node_stat #[t34_27] w_33 fun t37_35 w_36 =>
 (Ld t8_19 w_36 fun t35_37 =>
 t35_37 = t35_34) ∧
 Ef PP (Instr.buildSlice Ty.sl_api_Dir 1 #[(0, t37_35)]) w_36 fun t38_38 w_39 =>
 (Ld t8_19 w_39 fun t35_40 =>
 t35_40 = t35_34) ∧
 Ef PP (Builtin.append_ #[Ty.sl_api_Dir, Ty.sl_api_Dir] Ty.sl_api_Dir #[t35_34, t38_38]) w_39 fun t39_41 w_42 =>
 St PP 1 t8_19 t39_41 w_42 fun w_43 =>
 Rn_29 w_43) (fun D_44 w_45 =>
 Ld t8_19 w_45 fun t40_46 =>
 Lvs PP (.mark D_44 :: []) w_45 fun w_47 =>
 R (.tuple #[t40_46, (.int .i64 0)]) w_47) [] (fun D_48 w_49 =>
 Lvs PP (.mark D_48 :: []) w_49 fun w_50 =>
 R (.tuple #[(.slice none 0 0), (.int .i64 0)]) w_50))))
def S.tree_Tree_List.an : Ann := (.seq .leaf (.seq .leaf (.seq (.block (.seq .leaf (.cond (.seq .leaf .leaf) (.seq .leaf (.cond (.seq .leaf .leaf) (.seq .leaf (.cond (.seq .leaf .leaf) .leaf))))))) (.seq .leaf (.seq (.seq .leaf (.block (.rf .leaf (.block (.draw [[], [], [1], [1, 2], [0, 1, 2, 3], [0, 1, 2, 3, 4]] (.calm 0 (.calm 1 (.eff1 2 [0] (.eff1 3 [0] (.eff1 4 [] (.eff1 5 [] .done)))))))) []))) (.seq .leaf .leaf))))))
theorem S.tree_Tree_List.eq (a0 a1 : Value) (w : World) (R : Value → World → Prop) : S.tree_Tree_List a0 a1 w R = fnC PP 41 (Tryz.f80.body.getD .skip) S.tree_Tree_List.an [.tmp 4, .tmp 5] [a0, a1] w R := by kernel_rfl
theorem S.tree_Tree_List.calls {a0 a1 : Value} {w : World} {R : Value → World → Prop} (h : S.tree_Tree_List a0 a1 w R) : Ca PP Fn.tree_Tree_List #[a0, a1] w R :=
  fnC_calls mixed (f := Fn.tree_Tree_List) (an := S.tree_Tree_List.an) Tryz.func80 rfl (by show _ ≤ _; exact Nat.le_of_ble_eq_true rfl) (S.tree_Tree_List.eq a0 a1 w R ▸ h)
/-- (*acheron/tree.Tree).Remove -/
def S.tree_Tree_Remove (a0 a1 a2 : Value) (w : World) (R : Value → World → Prop) : Prop :=
 Ca PP Fn.tree_Tree_find #[a0, a2] w fun t12_1 w_2 =>
 Ex t12_1 0 fun t13_3 =>
 Ex t12_1 1 fun t14_4 =>
 Bi .neq t14_4 (.int .i64 0) fun t17_5 =>
 Cnd t17_5 (
 R t14_4 w_2) (
 Nc a0 fun t22_6 =>
 Fa 0 t22_6 fun t23_7 =>
 Ld t23_7 w_2 fun t24_8 =>
 Rd PP (eqS .eql Ty.p_tree_node (.tmp 20) (.tmp 24) t13_3 t24_8) w_2 fun t25_9 =>
 Cnd t25_9 (
 R (.int .i64 1) w_2) (
 Nc t13_3 fun t30_10 =>
 Fa 12 t30_10 fun t31_11 =>
 Ld t31_11 w_2 fun t32_12 =>
 Ca PP Fn.tree_Tree_may #[a0, a1, t32_12, (.int .i64 2)] w_2 fun t33_13 w_14 =>
 Un .not t33_13 fun t34_15 =>
 Cnd t34_15 (
 R (.int .i64 17) w_14) (
 Nc t13_3 fun t37_16 =>
 Fa 11 t37_16 fun t38_17 =>
 Ld t38_17 w_14 fun t39_18 =>
 Rd PP (Builtin.len_ #[Ty.map_string_p_tree_node] Ty.int #[t39_18]) w_14 fun t40_19 =>
 Bi .gtr t40_19 (.int .i64 0) fun t41_20 =>
 Cnd t41_20 (
 R (.int .i64 6) w_14) (
 Ca PP Fn.tree_Tree_remove #[a0, a1, t13_3] w_14 fun t45_21 w_22 =>
 R (.int .i64 0) w_22))))
def S.tree_Tree_Remove.an : Ann := (.seq .leaf (.seq .leaf (.seq (.block (.seq .leaf (.cond (.seq .leaf .leaf) (.seq .leaf (.cond (.seq .leaf .leaf) (.seq .leaf (.cond (.seq .leaf .leaf) (.seq .leaf (.cond (.seq .leaf .leaf) .leaf))))))))) (.seq .leaf (.seq .leaf .leaf)))))
theorem S.tree_Tree_Remove.eq (a0 a1 a2 : Value) (w : World) (R : Value → World → Prop) : S.tree_Tree_Remove a0 a1 a2 w R = fnC PP 46 (Tryz.f81.body.getD .skip) S.tree_Tree_Remove.an [.tmp 6] [a0, a1, a2] w R := by kernel_rfl
theorem S.tree_Tree_Remove.calls {a0 a1 a2 : Value} {w : World} {R : Value → World → Prop} (h : S.tree_Tree_Remove a0 a1 a2 w R) : Ca PP Fn.tree_Tree_Remove #[a0, a1, a2] w R :=
  fnC_calls mixed (f := Fn.tree_Tree_Remove) (an := S.tree_Tree_Remove.an) Tryz.func81 rfl (by show _ ≤ _; exact Nat.le_of_ble_eq_true rfl) (S.tree_Tree_Remove.eq a0 a1 a2 w R ▸ h)
/-- slices.Equal[[]acheron/api.Dir,acheron/api.Dir] -/
def S.slices_Equal_sl_api_Dir_api_Dir (a0 a1 : Value) (w : World) (R : Value → World → Prop) : Prop :=
 LnL a0 fun t7_1 =>
 LnL a1 fun t9_2 =>
 Bi .neq t7_1 t9_2 fun t10_3 =>
 Cnd t10_3 (
 R (.bool false) w) (
 LnL a0 fun t12_4 =>
 ∃ (I_5 : List Value → World → Prop) (m_6 : List Value → World → Nat), I_5 [(.int .i64 0)] w ∧ ∀ t13_9, ∀ (u_7 : Env) (w_8 : World), I_5 [t13_9] w_8 →
 Bi .lss t13_9 t12_4 fun t14_10 =>
 Cnd t14_10 (
 Dr w_8 fun w_11 =>
 IxA 10 a0 t13_9 fun t18_12 =>
 LdA PP 10 t18_12 w_11 fun t19_13 =>
 IxA 10 a1 t13_9 fun t22_14 =>
 LdA PP 10 t22_14 w_11 fun t23_15 =>
 Rd PP (eqS .neq Ty.api_Dir (.tmp 19) (.tmp 23) t19_13 t23_15) w_11 fun t24_16 =>
 Cnd t24_16 (
 R (.bool false) w_11) (
 Bi .add t13_9 (.int .i64 1) fun t25_17 =>
 I_5 [t25_17] w_11 ∧ m_6 [t25_17] w_11 < m_6 [t13_9] w_8)) (
 R (.bool true) w_8))
def S.slices_Equal_sl_api_Dir_api_Dir.an : Ann := (.seq .leaf (.seq (.seq .leaf (.cond (.seq .leaf .leaf) .leaf)) (.seq (.seq .leaf (.block (.loop (.seq .leaf (.seq (.cond .leaf .leaf) (.seq (.block (.seq .leaf (.seq (.draw [[], [], [0, 1], [0, 1, 2], [], [], [4, 5], [4, 5, 6], [0, 1, 2, 3, 4, 5, 6, 7]] (.calm 0 (.calm 1 (.calm 2 (.calm 3 (.calm 4 (.calm 5 (.calm 6 (.calm 7 (.calm 8 .done)))))))))) (.cond (.seq .leaf .leaf) .leaf)))) .leaf))) [13] [4, 5, 14, 15, 16, 17, 18, 19, 20, 21, 22, 23, 24, 25]))) (.seq .leaf .leaf))))
theorem S.slices_Equal_sl_api_Dir_api_Dir.eq (a0 a1 : Value) (w : World) (R : Value → World → Prop) : S.slices_Equal_sl_api_Dir_api_Dir a0 a1 w R = fnC PP 26 (Tryz.f87.body.getD .skip) S.slices_Equal_sl_api_Dir_api_Dir.an [.tmp 4] [a0, a1] w R := by kernel_rfl
theorem S.slices_Equal_sl_api_Dir_api_Dir.calls {a0 a1 : Value} {w : World} {R : Value → World → Prop} (h : S.slices_Equal_sl_api_Dir_api_Dir a0 a1 w R) : Ca PP Fn.slices_Equal_sl_api_Dir_api_Dir #[a0, a1] w R :=
  fnC_calls mixed (f := Fn.slices_Equal_sl_api_Dir_api_Dir) (an := S.slices_Equal_sl_api_Dir_api_Dir.an) Tryz.func87 rfl (by show _ ≤ _; exact Nat.le_of_ble_eq_true rfl) (S.slices_Equal_sl_api_Dir_api_Dir.eq a0 a1 w R ▸ h)
/-- slices.Clone[[]string,string] -/
def S.slices_Clone_sl_string_string (a0 : Value) (w : World) (R : Value → World → Prop) : Prop :=
 Rd PP (eqS .eql Ty.sl_string (.tmp 3) (.const (.slice none 0 0)) a0 (.slice none 0 0)) w fun t4_1 =>
 Cnd t4_1 (
 R (.slice none 0 0) w) (
 Ef PP (Instr.buildSlice Ty.sl_string 0 #[]) w fun t5_2 w_3 =>
 Ef PP (Builtin.append_ #[Ty.sl_string, Ty.sl_string] Ty.sl_string #[t5_2, a0]) w_3 fun t7_4 w_5 =>
 R t7_4 w_5)
def S.slices_Clone_sl_string_string.an : Ann := (.seq .leaf (.seq (.seq .leaf (.cond (.seq .leaf .leaf) .leaf)) (.seq .leaf .leaf)))
theorem S.slices_Clone_sl_string_string.eq (a0 : Value) (w : World) (R : Value → World → Prop) : S.slices_Clone_sl_string_string a0 w R = fnC PP 8 (Tryz.f103.body.getD .skip) S.slices_Clone_sl_string_string.an [.tmp 2] [a0] w R := by kernel_rfl
theorem S.slices_Clone_sl_string_string.calls {a0 : Value} {w : World} {R : Value → World → Prop} (h : S.slices_Clone_sl_string_string a0 w R) : Ca PP Fn.slices_Clone_sl_string_string #[a0] w R :=
  fnC_calls mixed (f := Fn.slices_Clone_sl_string_string) (an := S.slices_Clone_sl_string_string.an) Tryz.func103 rfl (by show _ ≤ _; exact Nat.le_of_ble_eq_true rfl) (S.slices_Clone_sl_string_string.eq a0 w R ▸ h)
/-- strings.splitSeq -/
def S.strings_splitSeq (a0 a1 a2 : Value) (w : World) (R : Value → World → Prop) : Prop :=
 Al Ty.string (a0 : Value).cells w fun t3_1 w_2 =>
 Al Ty.string (a1 : Value).cells w_2 fun t4_3 w_4 =>
 Al Ty.int (a2 : Value).cells w_4 fun t5_5 w_6 =>
 R (.func (.func Fn.strings_splitSeq_1) #[] #[t4_3, t3_1, t5_5]) w_6
def S.strings_splitSeq.an : Ann := (.seq .leaf (.seq .leaf .leaf))
theorem S.strings_splitSeq.eq (a0 a1 a2 : Value) (w : World) (R : Value → World → Prop) : S.strings_splitSeq a0 a1 a2 w R = fnC PP 8 (Tryz.f114.body.getD .skip) S.strings_splitSeq.an [.tmp 6] [a0, a1, a2] w R := by kernel_rfl
theorem S.strings_splitSeq.calls {a0 a1 a2 : Value} {w : World} {R : Value → World → Prop} (h : S.strings_splitSeq a0 a1 a2 w R) : Ca PP Fn.strings_splitSeq #[a0, a1, a2] w R :=
  fnC_calls mixed (f := Fn.strings_splitSeq) (an := S.strings_splitSeq.an) Tryz.func114 rfl (by show _ ≤ _; exact Nat.le_of_ble_eq_true rfl) (S.strings_splitSeq.eq a0 a1 a2 w R ▸ h)
/-- acheron/tree.repeated -/
def S.tree_repeated (a0 : Value) (w : World) (R : Value → World → Prop) : Prop :=
 Ca PP Fn.slices_Values_sl_string_string #[a0] w fun t4_1 w_2 =>
 Ca PP Fn.slices_Sorted_string #[t4_1] w_2 fun t5_3 w_4 =>
 Ca PP Fn.slices_Compact_sl_string_string #[t5_3] w_4 fun t7_5 w_6 =>
 LnL t7_5 fun t8_7 =>
 LnL t5_3 fun t10_8 =>
 Bi .lss t8_7 t10_8 fun t11_9 =>
 R t11_9 w_6
def S.tree_repeated.an : Ann := (.seq .leaf (.seq .leaf (.seq .leaf .leaf)))
theorem S.tree_repeated.eq (a0 : Value) (w : World) (R : Value → World → Prop) : S.tree_repeated a0 w R = fnC PP 12 (Tryz.f119.body.getD .skip) S.tree_repeated.an [.tmp 2] [a0] w R := by kernel_rfl
theorem S.tree_repeated.calls {a0 : Value} {w : World} {R : Value → World → Prop} (h : S.tree_repeated a0 w R) : Ca PP Fn.tree_repeated #[a0] w R :=
  fnC_calls mixed (f := Fn.tree_repeated) (an := S.tree_repeated.an) Tryz.func119 rfl (by show _ ≤ _; exact Nat.le_of_ble_eq_true rfl) (S.tree_repeated.eq a0 w R ▸ h)
/-- slices.ContainsFunc[[]string,string] -/
def S.slices_ContainsFunc_sl_string_string (a0 a1 : Value) (w : World) (R : Value → World → Prop) : Prop :=
 Ca PP Fn.slices_IndexFunc_sl_string_string #[a0, a1] w fun t7_1 w_2 =>
 Bi .geq t7_1 (.int .i64 0) fun t8_3 =>
 R t8_3 w_2
def S.slices_ContainsFunc_sl_string_string.an : Ann := (.seq .leaf (.seq .leaf .leaf))
theorem S.slices_ContainsFunc_sl_string_string.eq (a0 a1 : Value) (w : World) (R : Value → World → Prop) : S.slices_ContainsFunc_sl_string_string a0 a1 w R = fnC PP 9 (Tryz.f120.body.getD .skip) S.slices_ContainsFunc_sl_string_string.an [.tmp 4] [a0, a1] w R := by kernel_rfl
theorem S.slices_ContainsFunc_sl_string_string.calls {a0 a1 : Value} {w : World} {R : Value → World → Prop} (h : S.slices_ContainsFunc_sl_string_string a0 a1 w R) : Ca PP Fn.slices_ContainsFunc_sl_string_string #[a0, a1] w R :=
  fnC_calls mixed (f := Fn.slices_ContainsFunc_sl_string_string) (an := S.slices_ContainsFunc_sl_string_string.an) Tryz.func120 rfl (by show _ ≤ _; exact Nat.le_of_ble_eq_true rfl) (S.slices_ContainsFunc_sl_string_string.eq a0 a1 w R ▸ h)
/-- acheron/tree.check$1 -/
def S.tree_check_1 (a0 : Value) (w : World) (R : Value → World → Prop) : Prop :=
 Ca PP Fn.tree_Valid #[a0] w fun t4_1 w_2 =>
 Un .not t4_1 fun t5_3 =>
 R t5_3 w_2
def S.tree_check_1.an : Ann := (.seq .leaf (.seq .leaf .leaf))
theorem S.tree_check_1.eq (a0 : Value) (w : World) (R : Value → World → Prop) : S.tree_check_1 a0 w R = fnC PP 6 (Tryz.f121.body.getD .skip) S.tree_check_1.an [.tmp 2] [a0] w R := by kernel_rfl
theorem S.tree_check_1.calls {a0 : Value} {w : World} {R : Value → World → Prop} (h : S.tree_check_1 a0 w R) : Ca PP Fn.tree_check_1 #[a0] w R :=
  fnC_calls mixed (f := Fn.tree_check_1) (an := S.tree_check_1.an) Tryz.func121 rfl (by show _ ≤ _; exact Nat.le_of_ble_eq_true rfl) (S.tree_check_1.eq a0 w R ▸ h)
/-- acheron/tree.Permits -/
def S.tree_Permits (a0 a1 a2 a3 : Value) (w : World) (R : Value → World → Prop) : Prop :=
 ∀ J_1 : List Value → World → Prop, (∀ t0_4, ∀ w_3 : World, (∀ u_2 : Env,
 Bi .and a3 (.int .i64 7) fun t18_5 =>
 Bi .andNot t18_5 t0_4 fun t20_6 =>
 Bi .eql t20_6 (.int .i64 0) fun t21_7 =>
 R t21_7 w_3) → J_1 [t0_4] w_3) →
 Cnd a1 (
 Bi .shr a0 (.int .u64 6) fun t12_8 =>
 J_1 [t12_8] w) (
 Cnd a2 (
 Bi .shr a0 (.int .u64 3) fun t16_9 =>
 J_1 [t16_9] w) (
 J_1 [a0] w))
def S.tree_Permits.an : Ann := (.seq .leaf (.join (.block (.seq .leaf (.cond .leaf (.seq .leaf (.cond .leaf .leaf))))) [0] [9, 10, 11, 12, 13, 14, 15, 16] (.seq .leaf .leaf)))
theorem S.tree_Permits.eq (a0 a1 a2 a3 : Value) (w : World) (R : Value → World → Prop) : S.tree_Permits a0 a1 a2 a3 w R = fnC PP 22 (Tryz.f122.body.getD .skip) S.tree_Permits.an [.tmp 8] [a0, a1, a2, a3] w R := by kernel_rfl
theorem S.tree_Permits.calls {a0 a1 a2 a3 : Value} {w : World} {R : Value → World → Prop} (h : S.tree_Permits a0 a1 a2 a3 w R) : Ca PP Fn.tree_Permits #[a0, a1, a2, a3] w R :=
  fnC_calls mixed (f := Fn.tree_Permits) (an := S.tree_Permits.an) Tryz.func122 rfl (by show _ ≤ _; exact Nat.le_of_ble_eq_true rfl) (S.tree_Permits.eq a0 a1 a2 a3 w R ▸ h)
/-- (*acheron/tree.Tree).member -/
def S.tree_Tree_member (a0 a1 a2 : Value) (w : World) (R : Value → World → Prop) : Prop :=
 ∀ J_1 : List Value → World → Prop, (∀ t6_4, ∀ w_3 : World, (∀ u_2 : Env,
 R t6_4 w_3) → J_1 [t6_4] w_3) →
 Bi .eql a1 a2 fun t9_5 =>
 Gd t9_5 false (fun k_6 => k_6 a0 w) w fun t11_7 w_8 =>
 Gd t9_5 false (fun k_9 => Nc t11_7 fun t12_12 =>
 k_9 t12_12 w_8) w_8 fun t12_10 w_11 =>
 Gd t9_5 false (fun k_13 => Fa 2 t12_10 fun t13_16 =>
 k_13 t13_16 w_11) w_11 fun t13_14 w_15 =>
 Gd t9_5 false (fun k_17 => Ld t13_14 w_15 fun t14_20 =>
 k_17 t14_20 w_15) w_15 fun t14_18 w_19 =>
 Gd t9_5 false (fun k_21 => k_21 a2 w_19) w_19 fun t15_22 w_23 =>
 Gd t9_5 false (fun k_24 => Rd PP (Instr.lookup Ty.map_string_sl_string t14_18 t15_22 false) w_23 fun t16_27 =>
 k_24 t16_27 w_23) w_23 fun t16_25 w_26 =>
 Gd t9_5 false (fun k_28 => k_28 a1 w_26) w_26 fun t17_29 w_30 =>
 Gd t9_5 false (fun k_31 => Ca PP Fn.slices_Contains_sl_string_string #[t16_25, t17_29] w_30 fun t18_34 w_35 =>
 k_31 t18_34 w_35) w_30 fun t18_32 w_33 =>
 Pk t9_5 (.bool true) t18_32 fun t19_36 =>
 J_1 [t19_36] w_33
def S.tree_Tree_member.an : Ann := (.seq .leaf (.join .leaf [6] [7, 8, 9, 10, 11, 12, 13, 14, 15, 16, 17, 18, 19] .leaf))
theorem S.tree_Tree_member.eq (a0 a1 a2 : Value) (w : World) (R : Value → World → Prop) : S.tree_Tree_member a0 a1 a2 w R = fnC PP 20 (Tryz.f123.body.getD .skip) S.tree_Tree_member.an [.tmp 6] [a0, a1, a2] w R := by kernel_rfl
theorem S.tree_Tree_member.calls {a0 a1 a2 : Value} {w : World} {R : Value → World → Prop} (h : S.tree_Tree_member a0 a1 a2 w R) : Ca PP Fn.tree_Tree_member #[a0, a1, a2] w R :=
  fnC_calls mixed (f := Fn.tree_Tree_member) (an := S.tree_Tree_member.an) Tryz.func123 rfl (by show _ ≤ _; exact Nat.le_of_ble_eq_true rfl) (S.tree_Tree_member.eq a0 a1 a2 w R ▸ h)
/-- strings.splitSeq$1 -/
def S.strings_splitSeq_1 (a0 a1 a2 a3 : Value) (w : World) (R : Value → World → Prop) : Prop :=
 Ld a1 w fun t9_1 =>
 LnS t9_1 fun t10_2 =>
 Bi .eql t10_2 (.int .i64 0) fun t11_3 =>
 Cnd t11_3 (
 ∃ (I_4 : List Value → World → Prop) (m_5 : List Value → World → Nat), I_4 [] w ∧ ∀ (u_6 : Env) (w_7 : World), I_4 [] w_7 →
 Ld a2 w_7 fun t12_8 =>
 LnS t12_8 fun t13_9 =>
 Bi .gtr t13_9 (.int .i64 0) fun t14_10 =>
 Cnd t14_10 (
 Ld a2 w_7 fun t16_11 =>
 Ca PP Fn.unicode_utf8_DecodeRuneInString #[t16_11] w_7 fun t17_12 w_13 =>
 Ex t17_12 0 fun t18_14 =>
 Ex t17_12 1 fun t19_15 =>
 Ld a2 w_13 fun t21_16 =>
 SlS t21_16 none (some t19_15) fun t23_17 =>
 CaV PP a0 #[t23_17] w_13 fun t24_18 w_19 =>
 Un .not t24_18 fun t25_20 =>
 Cnd t25_20 (
 R (.tuple #[]) w_19) (
 Ld a2 w_19 fun t26_21 =>
 SlS t26_21 (some t19_15) none fun t28_22 =>
 St PP 1 a2 t28_22 w_19 fun w_23 =>
 I_4 [] w_23 ∧ m_5 [] w_23 < m_5 [] w_7)) (
 R (.tuple #[]) w_7)) (
 ∃ (I_24 : List Value → World → Prop) (m_25 : List Value → World → Nat), I_24 [] w ∧ ∀ (u_26 : Env) (w_27 : World), I_24 [] w_27 →
 Ld a2 w_27 fun t29_28 =>
 Ld a1 w_27 fun t30_29 =>
 Ca PP Fn.strings_Index #[t29_28, t30_29] w_27 fun t31_30 w_31 =>
 Bi .lss t31_30 (.int .i64 0) fun t33_32 =>
 Cnd t33_32 (
 Ld a2 w_31 fun t50_33 =>
 CaV PP a0 #[t50_33] w_31 fun t51_34 w_35 =>
 R (.tuple #[]) w_35) (
 Ld a2 w_31 fun t34_36 =>
 Ld a3 w_31 fun t36_37 =>
 Bi .add t31_30 t36_37 fun t37_38 =>
 SlS t34_36 none (some t37_38) fun t38_39 =>
 CaV PP a0 #[t38_39] w_31 fun t41_40 w_41 =>
 Un .not t41_40 fun t42_42 =>
 Cnd t42_42 (
 R (.tuple #[]) w_41) (
 Ld a2 w_41 fun t43_43 =>
 Ld a1 w_41 fun t45_44 =>
 LnS t45_44 fun t46_45 =>
 Bi .add t31_30 t46_45 fun t47_46 =>
 SlS t43_43 (some t47_46) none fun t48_47 =>
 St PP 1 a2 t48_47 w_41 fun w_48 =>
 I_24 [] w_48 ∧ m_25 [] w_48 < m_25 [] w_27)))
def S.strings_splitSeq_1.an : Ann := (.seq (.seq .leaf (.cond (.seq (.block (.loop (.seq (.seq .leaf (.cond .leaf .leaf)) (.block (.seq .leaf (.seq (.seq .leaf (.cond .leaf .leaf)) .leaf)))) [] [5, 6, 12, 13, 14, 15, 16, 17, 18, 19, 20, 21, 22, 23, 24, 25, 26, 27, 28])) .leaf) .leaf)) (.seq (.block (.loop (.block (.seq .leaf (.seq (.seq .leaf (.cond .leaf .leaf)) (.seq .leaf (.seq (.seq .leaf (.cond .leaf .leaf)) .leaf))))) [] [7, 8, 29, 30, 31, 32, 33, 34, 35, 36, 37, 38, 39, 40, 41, 42, 43, 44, 45, 46, 47, 48])) .leaf))
theorem S.strings_splitSeq_1.eq (a0 a1 a2 a3 : Value) (w : World) (R : Value → World → Prop) : S.strings_splitSeq_1 a0 a1 a2 a3 w R = fnC PP 52 (Tryz.f150.body.getD .skip) S.strings_splitSeq_1.an [] [a0, a1, a2, a3] w R := by kernel_rfl
theorem S.strings_splitSeq_1.calls {a0 a1 a2 a3 : Value} {w : World} {R : Value → World → Prop} (h : S.strings_splitSeq_1 a0 a1 a2 a3 w R) : Ca PP Fn.strings_splitSeq_1 #[a0, a1, a2, a3] w R :=
  fnC_calls mixed (f := Fn.strings_splitSeq_1) (an := S.strings_splitSeq_1.an) Tryz.func150 rfl (by show _ ≤ _; exact Nat.le_of_ble_eq_true rfl) (S.strings_splitSeq_1.eq a0 a1 a2 a3 w R ▸ h)
/-- slices.Sorted[string] -/
def S.slices_Sorted_string (a0 : Value) (w : World) (R : Value → World → Prop) : Prop :=
 Ca PP Fn.slices_Collect_string #[a0] w fun t5_1 w_2 =>
 Ca PP Fn.slices_Sort_sl_string_string #[t5_1] w_2 fun t7_3 w_4 =>
 R t5_1 w_4
def S.slices_Sorted_string.an : Ann := (.seq .leaf (.seq .leaf (.seq .leaf (.seq .leaf .leaf))))
theorem S.slices_Sorted_string.eq (a0 : Value) (w : World) (R : Value → World → Prop) : S.slices_Sorted_string a0 w R = fnC PP 9 (Tryz.f155.body.getD .skip) S.slices_Sorted_string.an [.tmp 2] [a0] w R := by kernel_rfl
theorem S.slices_Sorted_string.calls {a0 : Value} {w : World} {R : Value → World → Prop} (h : S.slices_Sorted_string a0 w R) : Ca PP Fn.slices_Sorted_string #[a0] w R :=
  fnC_calls mixed (f := Fn.slices_Sorted_string) (an := S.slices_Sorted_string.an) Tryz.func155 rfl (by show _ ≤ _; exact Nat.le_of_ble_eq_true rfl) (S.slices_Sorted_string.eq a0 w R ▸ h)
/-- slices.Values[[]string,string] -/
def S.slices_Values_sl_string_string (a0 : Value) (w : World) (R : Value → World → Prop) : Prop :=
 Al Ty.sl_string (a0 : Value).cells w fun t1_1 w_2 =>
 R (.func (.func Fn.slices_Values_sl_string_string_1) #[] #[t1_1]) w_2
def S.slices_Values_sl_string_string.an : Ann := (.seq .leaf (.seq .leaf .leaf))
theorem S.slices_Values_sl_string_string.eq (a0 : Value) (w : World) (R : Value → World → Prop) : S.slices_Values_sl_string_string a0 w R = fnC PP 4 (Tryz.f156.body.getD .skip) S.slices_Values_sl_string_string.an [.tmp 2] [a0] w R := by kernel_rfl
theorem S.slices_Values_sl_string_string.calls {a0 : Value} {w : World} {R : Value → World → Prop} (h : S.slices_Values_sl_string_string a0 w R) : Ca PP Fn.slices_Values_sl_string_string #[a0] w R :=
  fnC_calls mixed (f := Fn.slices_Values_sl_string_string) (an := S.slices_Values_sl_string_string.an) Tryz.func156 rfl (by show _ ≤ _; exact Nat.le_of_ble_eq_true rfl) (S.slices_Values_sl_string_string.eq a0 w R ▸ h)
/-- slices.IndexFunc[[]string,string] -/
def S.slices_IndexFunc_sl_string_string (a0 a1 : Value) (w : World) (R : Value → World → Prop) : Prop :=
 LnL a0 fun t7_1 =>
 ∃ (I_2 : List Value → World → Prop) (m_3 : List Value → World → Nat), I_2 [(.int .i64 0)] w ∧ ∀ t8_6, ∀ (u_4 : Env) (w_5 : World), I_2 [t8_6] w_5 →
 Bi .lss t8_6 t7_1 fun t9_7 =>
 Cnd t9_7 (
 IxA 1 a0 t8_6 fun t14_8 =>
 Ld t14_8 w_5 fun t15_9 =>
 CaV PP a1 #[t15_9] w_5 fun t16_10 w_11 =>
 Cnd t16_10 (
 R t8_6 w_11) (
 Bi .add t8_6 (.int .i64 1) fun t18_12 =>
 I_2 [t18_12] w_11 ∧ m_3 [t18_12] w_11 < m_3 [t8_6] w_5)) (
 R (.int .i64 (-1)) w_5)
def S.slices_IndexFunc_sl_string_string.an : Ann := (.seq .leaf (.seq (.seq .leaf (.block (.loop (.seq .leaf (.seq (.cond .leaf .leaf) (.seq (.block (.seq .leaf (.seq .leaf (.cond (.seq .leaf .leaf) .leaf)))) .leaf))) [8] [4, 5, 9, 10, 11, 12, 13, 14, 15, 16, 17, 18]))) (.seq .leaf .leaf)))
theorem S.slices_IndexFunc_sl_string_string.eq (a0 a1 : Value) (w : World) (R : Value → World → Prop) : S.slices_IndexFunc_sl_string_string a0 a1 w R = fnC PP 19 (Tryz.f158.body.getD .skip) S.slices_IndexFunc_sl_string_string.an [.tmp 4] [a0, a1] w R := by kernel_rfl
theorem S.slices_IndexFunc_sl_string_string.calls {a0 a1 : Value} {w : World} {R : Value → World → Prop} (h : S.slices_IndexFunc_sl_string_string a0 a1 w R) : Ca PP Fn.slices_IndexFunc_sl_string_string #[a0, a1] w R :=
  fnC_calls mixed (f := Fn.slices_IndexFunc_sl_string_string) (an := S.slices_IndexFunc_sl_string_string.an) Tryz.func158 rfl (by show _ ≤ _; exact Nat.le_of_ble_eq_true rfl) (S.slices_IndexFunc_sl_string_string.eq a0 a1 w R ▸ h)
/-- slices.Contains[[]string,string] -/
def S.slices_Contains_sl_string_string (a0 a1 : Value) (w : World) (R : Value → World → Prop) : Prop :=
 Ca PP Fn.slices_Index_sl_string_string #[a0, a1] w fun t7_1 w_2 =>
 Bi .geq t7_1 (.int .i64 0) fun t8_3 =>
 R t8_3 w_2
def S.slices_Contains_sl_string_string.an : Ann := (.seq .leaf (.seq .leaf .leaf))
theorem S.slices_Contains_sl_string_string.eq (a0 a1 : Value) (w : World) (R : Value → World → Prop) : S.slices_Contains_sl_string_string a0 a1 w R = fnC PP 9 (Tryz.f159.body.getD .skip) S.slices_Contains_sl_string_string.an [.tmp 4] [a0, a1] w R := by kernel_rfl
theorem S.slices_Contains_sl_string_string.calls {a0 a1 : Value} {w : World} {R : Value → World → Prop} (h : S.slices_Contains_sl_string_string a0 a1 w R) : Ca PP Fn.slices_Contains_sl_string_string #[a0, a1] w R :=
  fnC_calls mixed (f := Fn.slices_Contains_sl_string_string) (an := S.slices_Contains_sl_string_string.an) Tryz.func159 rfl (by show _ ≤ _; exact Nat.le_of_ble_eq_true rfl) (S.slices_Contains_sl_string_string.eq a0 a1 w R ▸ h)
/-- acheron/acheronref28.Permits -/
def S.r28_Permits (a0 a1 a2 a3 : Value) (w : World) (R : Value → World → Prop) : Prop :=
 Bi .and a0 (.int .i64 7) fun t11_1 =>
 ∀ J_2 : List Value → World → Prop, (∀ t9_5, ∀ w_4 : World, (∀ u_3 : Env,
 Bi .and a3 (.int .i64 7) fun t21_6 =>
 Bi .andNot t21_6 t9_5 fun t23_7 =>
 Bi .eql t23_7 (.int .i64 0) fun t24_8 =>
 R t24_8 w_4) → J_2 [t9_5] w_4) →
 Cnd a1 (
 Bi .shr a0 (.int .u64 6) fun t14_9 =>
 Bi .and t14_9 (.int .i64 7) fun t15_10 =>
 J_2 [t15_10] w) (
 Cnd a2 (
 Bi .shr a0 (.int .u64 3) fun t18_11 =>
 Bi .and t18_11 (.int .i64 7) fun t19_12 =>
 J_2 [t19_12] w) (
 J_2 [t11_1] w))
def S.r28_Permits.an : Ann := (.seq .leaf (.seq .leaf (.join (.seq .leaf (.cond .leaf (.seq .leaf (.cond .leaf .leaf)))) [9] [12, 13, 14, 15, 16, 17, 18, 19] (.seq .leaf .leaf))))
theorem S.r28_Permits.eq (a0 a1 a2 a3 : Value) (w : World) (R : Value → World → Prop) : S.r28_Permits a0 a1 a2 a3 w R = fnC PP 25 (Tryz.f165.body.getD .skip) S.r28_Permits.an [.tmp 8] [a0, a1, a2, a3] w R := by kernel_rfl
theorem S.r28_Permits.calls {a0 a1 a2 a3 : Value} {w : World} {R : Value → World → Prop} (h : S.r28_Permits a0 a1 a2 a3 w R) : Ca PP Fn.r28_Permits #[a0, a1, a2, a3] w R :=
  fnC_calls mixed (f := Fn.r28_Permits) (an := S.r28_Permits.an) Tryz.func165 rfl (by show _ ≤ _; exact Nat.le_of_ble_eq_true rfl) (S.r28_Permits.eq a0 a1 a2 a3 w R ▸ h)
/-- slices.Collect[string] -/
def S.slices_Collect_string (a0 : Value) (w : World) (R : Value → World → Prop) : Prop :=
 Ca PP Fn.slices_AppendSeq_sl_string_string #[(.slice none 0 0), a0] w fun t4_1 w_2 =>
 R t4_1 w_2
def S.slices_Collect_string.an : Ann := (.seq .leaf (.seq .leaf .leaf))
theorem S.slices_Collect_string.eq (a0 : Value) (w : World) (R : Value → World → Prop) : S.slices_Collect_string a0 w R = fnC PP 5 (Tryz.f171.body.getD .skip) S.slices_Collect_string.an [.tmp 2] [a0] w R := by kernel_rfl
theorem S.slices_Collect_string.calls {a0 : Value} {w : World} {R : Value → World → Prop} (h : S.slices_Collect_string a0 w R) : Ca PP Fn.slices_Collect_string #[a0] w R :=
  fnC_calls mixed (f := Fn.slices_Collect_string) (an := S.slices_Collect_string.an) Tryz.func171 rfl (by show _ ≤ _; exact Nat.le_of_ble_eq_true rfl) (S.slices_Collect_string.eq a0 w R ▸ h)
/-- slices.Values[[]string,string]$1 -/
def S.slices_Values_sl_string_string_1 (a0 a1 : Value) (w : World) (R : Value → World → Prop) : Prop :=
 Ld a1 w fun t5_1 =>
 LnL t5_1 fun t6_2 =>
 ∃ (I_3 : List Value → World → Prop) (m_4 : List Value → World → Nat), I_3 [(.int .i64 0)] w ∧ ∀ t7_7, ∀ (u_5 : Env) (w_6 : World), I_3 [t7_7] w_6 →
 Bi .lss t7_7 t6_2 fun t8_8 =>
 Cnd t8_8 (
 IxA 1 t5_1 t7_7 fun t9_9 =>
 Ld t9_9 w_6 fun t10_10 =>
 CaV PP a0 #[t10_10] w_6 fun t13_11 w_12 =>
 Un .not t13_11 fun t14_13 =>
 Cnd t14_13 (
 R (.tuple #[]) w_12) (
 Bi .add t7_7 (.int .i64 1) fun t15_14 =>
 I_3 [t15_14] w_12 ∧ m_4 [t15_14] w_12 < m_4 [t7_7] w_6)) (
 R (.tuple #[]) w_6)
def S.slices_Values_sl_string_string_1.an : Ann := (.seq .leaf (.block (.loop (.seq .leaf (.seq (.cond .leaf .leaf) (.seq (.block (.seq .leaf (.seq .leaf (.cond .leaf .leaf)))) .leaf))) [7] [4, 8, 9, 10, 11, 12, 13, 14, 15])))
theorem S.slices_Values_sl_string_string_1.eq (a0 a1 : Value) (w : World) (R : Value → World → Prop) : S.slices_Values_sl_string_string_1 a0 a1 w R = fnC PP 16 (Tryz.f173.body.getD .skip) S.slices_Values_sl_string_string_1.an [] [a0, a1] w R := by kernel_rfl
theorem S.slices_Values_sl_string_string_1.calls {a0 a1 : Value} {w : World} {R : Value → World → Prop} (h : S.slices_Values_sl_string_string_1 a0 a1 w R) : Ca PP Fn.slices_Values_sl_string_string_1 #[a0, a1] w R :=
  fnC_calls mixed (f := Fn.slices_Values_sl_string_string_1) (an := S.slices_Values_sl_string_string_1.an) Tryz.func173 rfl (by show _ ≤ _; exact Nat.le_of_ble_eq_true rfl) (S.slices_Values_sl_string_string_1.eq a0 a1 w R ▸ h)
/-- slices.Index[[]string,string] -/
def S.slices_Index_sl_string_string (a0 a1 : Value) (w : World) (R : Value → World → Prop) : Prop :=
 LnL a0 fun t7_1 =>
 ∃ (I_2 : List Value → World → Prop) (m_3 : List Value → World → Nat), I_2 [(.int .i64 0)] w ∧ ∀ t8_6, ∀ (u_4 : Env) (w_5 : World), I_2 [t8_6] w_5 →
 Bi .lss t8_6 t7_1 fun t9_7 =>
 Cnd t9_7 (
 IxA 1 a0 t8_6 fun t14_8 =>
 Ld t14_8 w_5 fun t15_9 =>
 Bi .eql a1 t15_9 fun t16_10 =>
 Cnd t16_10 (
 R t8_6 w_5) (
 Bi .add t8_6 (.int .i64 1) fun t18_11 =>
 I_2 [t18_11] w_5 ∧ m_3 [t18_11] w_5 < m_3 [t8_6] w_5)) (
 R (.int .i64 (-1)) w_5)
def S.slices_Index_sl_string_string.an : Ann := (.seq .leaf (.seq (.seq .leaf (.block (.loop (.seq .leaf (.seq (.cond .leaf .leaf) (.seq (.block (.seq .leaf (.seq .leaf (.cond (.seq .leaf .leaf) .leaf)))) .leaf))) [8] [4, 5, 9, 10, 11, 12, 13, 14, 15, 16, 17, 18]))) (.seq .leaf .leaf)))
theorem S.slices_Index_sl_string_string.eq (a0 a1 : Value) (w : World) (R : Value → World → Prop) : S.slices_Index_sl_string_string a0 a1 w R = fnC PP 19 (Tryz.f174.body.getD .skip) S.slices_Index_sl_string_string.an [.tmp 4] [a0, a1] w R := by kernel_rfl
theorem S.slices_Index_sl_string_string.calls {a0 a1 : Value} {w : World} {R : Value → World → Prop} (h : S.slices_Index_sl_string_string a0 a1 w R) : Ca PP Fn.slices_Index_sl_string_string #[a0, a1] w R :=
  fnC_calls mixed (f := Fn.slices_Index_sl_string_string) (an := S.slices_Index_sl_string_string.an) Tryz.func174 rfl (by show _ ≤ _; exact Nat.le_of_ble_eq_true rfl) (S.slices_Index_sl_string_string.eq a0 a1 w R ▸ h)
/-- slices.AppendSeq[[]string,string] -/
def S.slices_AppendSeq_sl_string_string (a0 a1 : Value) (w : World) (R : Value → World → Prop) : Prop :=
 Al Ty.sl_string (a0 : Value).cells w fun t2_1 w_2 =>
 RFo PP a1 w_2 (RB.one fun r_3 L_4 t7_5 w_6 Rn_7 Re_8 Rr_9 =>
 Bgn r_3 L_4 w_6 fun w_10 =>
 Ld t2_1 w_10 fun t8_11 =>
 Ef PP (Instr.buildSlice Ty.sl_string 1 #[(0, t7_5)]) w_10 fun t10_12 w_13 =>
 Ef PP (Builtin.append_ #[Ty.sl_string, Ty.sl_string] Ty.sl_string #[t8_11, t10_12]) w_13 fun t11_14 w_15 =>
 St PP 1 t2_1 t11_14 w_15 fun w_16 =>
 Rn_7 w_16) (fun D_17 w_18 =>
 Ld t2_1 w_18 fun t12_19 =>
 Lvs PP (.mark D_17 :: []) w_18 fun w_20 =>
 R t12_19 w_20) [] (fun D_21 w_22 =>
 Lvs PP (.mark D_21 :: []) w_22 fun w_23 =>
 R (.slice none 0 0) w_23)
def S.slices_AppendSeq_sl_string_string.an : Ann := (.seq .leaf (.seq (.seq .leaf (.block (.rf .leaf (.block .leaf) []))) (.seq .leaf .leaf)))
theorem S.slices_AppendSeq_sl_string_string.eq (a0 a1 : Value) (w : World) (R : Value → World → Prop) : S.slices_AppendSeq_sl_string_string a0 a1 w R = fnC PP 13 (Tryz.f191.body.getD .skip) S.slices_AppendSeq_sl_string_string.an [.tmp 4] [a0, a1] w R := by kernel_rfl
theorem S.slices_AppendSeq_sl_string_string.calls {a0 a1 : Value} {w : World} {R : Value → World → Prop} (h : S.slices_AppendSeq_sl_string_string a0 a1 w R) : Ca PP Fn.slices_AppendSeq_sl_string_string #[a0, a1] w R :=
  fnC_calls mixed (f := Fn.slices_AppendSeq_sl_string_string) (an := S.slices_AppendSeq_sl_string_string.an) Tryz.func191 rfl (by show _ ≤ _; exact Nat.le_of_ble_eq_true rfl) (S.slices_AppendSeq_sl_string_string.eq a0 a1 w R ▸ h)
end Go.Proofs.YtnnhmahemklnkaaGreatDoor
