/- Own text. -/
import Derived.Test.YtnnhmahemklnkaaGreatDoorSc
namespace Go.Proofs.YtnnhmahemklnkaaGreatDoor
open Go Go.Sh
set_option linter.unusedVariables false
set_option maxRecDepth 100000
/-- (*acheron/tree.Tree).Clone -/
def S.tree_Tree_Clone (a0 : Value) (w : World) (R : Value → World → Prop) : Prop :=
 Rd PP (eqS .eql Ty.p_tree_Tree (.tmp 7) (.const (.pointer none)) a0 (.pointer none)) w fun t8_1 =>
 Cnd t8_1 (
 R (.pointer none) w) (
 Dr w fun w_2 =>
 Nc a0 fun t12_3 =>
 Fa 3 t12_3 fun t13_4 =>
 Ld t13_4 w_2 fun t14_5 =>
 Nc a0 fun t16_6 =>
 Fa 4 t16_6 fun t17_7 =>
 Ld t17_7 w_2 fun t18_8 =>
 (MkM w_2 fun t9_9 w_10 =>
 (Ld t13_4 w_10 fun t14_11 =>
 t14_11 = t14_5) ∧
 (Ld t17_7 w_10 fun t18_12 =>
 t18_12 = t18_8) ∧
 (MkM w_10 fun t10_13 w_14 =>
 (Ld t13_4 w_14 fun t14_15 =>
 t14_15 = t14_5) ∧
 (Ld t17_7 w_14 fun t18_16 =>
 t18_16 = t18_8) ∧
 (MkM w_14 fun t19_17 w_18 =>
 (Ld t13_4 w_18 fun t14_19 =>
 t14_19 = t14_5) ∧
 (Ld t17_7 w_18 fun t18_20 =>
 t18_20 = t18_8) ∧
 Bd #[.pointer none, .map none, .map none, .int .i64 0, .int .i64 0, .map none] [(0, 1), (1, 1), (2, 1), (3, 1), (4, 1), (5, 1)] [(1, t9_9), (2, t10_13), (3, t14_5), (4, t18_8), (5, t19_17)] fun t20_21 =>
 (Al Ty.tree_Tree (t20_21 : Value).cells w_18 fun t21_22 w_23 =>
 Al Ty.p_tree_Tree #[.pointer none] w_23 fun t3_24 w_25 =>
 (Ld t13_4 w_25 fun t14_26 =>
 t14_26 = t14_5) ∧
 (Ld t17_7 w_25 fun t18_27 =>
 t18_27 = t18_8) ∧
 St PP 1 t3_24 t21_22 w_25 fun w_28 =>
 Nc a0 fun t23_29 =>
 Fa 2 t23_29 fun t24_30 =>
 Ld t24_30 w_28 fun t25_31 =>
 Ef PP (Instr.range Ty.map_string_sl_string t25_31) w_28 fun t26_32 w_33 =>
 ∃ (I_34 : List Value → World → Prop) (m_35 : List Value → World → Nat), I_34 [] w_33 ∧ ∀ (u_36 : Env) (w_37 : World), I_34 [] w_37 →
 Ef PP (Instr.next t26_32 false Ty.t) w_37 fun t27_38 w_39 =>
 Ex t27_38 0 fun t28_40 =>
 Cnd t28_40 (
 Rd PP (Instr.entry t26_32) w_39 fun t29_41 =>
 Ex t29_41 0 fun t30_42 =>
 Ex t29_41 1 fun t31_43 =>
 Dr w_39 fun w_44 =>
 Ld t3_24 w_44 fun t32_45 =>
 Nc t32_45 fun t33_46 =>
 Fa 2 t33_46 fun t34_47 =>
 Ld t34_47 w_44 fun t35_48 =>
 Ca PP Fn.slices_Clone_sl_string_string #[t31_43] w_44 fun t38_49 w_50 =>
 (Ld t3_24 w_50 fun t32_51 =>
 t32_51 = t32_45) ∧
 (Ld t34_47 w_50 fun t35_52 =>
 t35_52 = t35_48) ∧
 Ef PP (Instr.mapUpdate Ty.map_string_sl_string t35_48 t30_42 t38_49) w_50 fun _ w_53 =>
 I_34 [] w_53 ∧ m_35 [] w_53 < m_35 [] w_37) (
 Al Ty.functree_node_p_tree_node_p_tree_node #[.nilFunc] w_39 fun t6_54 w_55 =>
 St PP 1 t6_54 (.func (.func Fn.tree_Tree_Clone_1) #[] #[t6_54, t3_24]) w_55 fun w_56 =>
 Dr w_56 fun w_57 =>
 Ld t3_24 w_57 fun t40_58 =>
 Ld t6_54 w_57 fun t41_59 =>
 Nc a0 fun t43_60 =>
 Fa 0 t43_60 fun t44_61 =>
 Ld t44_61 w_57 fun t45_62 =>
 CaV PP t41_59 #[t45_62, (.pointer none)] w_57 fun t46_63 w_64 =>
 (Ld t3_24 w_64 fun t40_65 =>
 t40_65 = t40_58) ∧
 Nc t40_58 fun t47_66 =>
 Fa 0 t47_66 fun t48_67 =>
 St PP 1 t48_67 t46_63 w_64 fun w_68 =>
 Ld t3_24 w_68 fun t49_69 =>
 R t49_69 w_68)) ∧ (Al Ty.p_tree_Tree #[.pointer none] w_18 fun t3_70 w_71 =>
 (Ld t13_4 w_71 fun t14_72 =>
 t14_72 = t14_5) ∧
 (Ld t17_7 w_71 fun t18_73 =>
 t18_73 = t18_8) ∧
 Al Ty.tree_Tree (t20_21 : Value).cells w_71 fun t21_74 w_75 =>
 St PP 1 t3_70 t21_74 w_75 fun w_76 =>
 Nc a0 fun t23_77 =>
 Fa 2 t23_77 fun t24_78 =>
 Ld t24_78 w_76 fun t25_79 =>
 Ef PP (Instr.range Ty.map_string_sl_string t25_79) w_76 fun t26_80 w_81 =>
 ∃ (I_82 : List Value → World → Prop) (m_83 : List Value → World → Nat), I_82 [] w_81 ∧ ∀ (u_84 : Env) (w_85 : World), I_82 [] w_85 →
 Ef PP (Instr.next t26_80 false Ty.t) w_85 fun t27_86 w_87 =>
 Ex t27_86 0 fun t28_88 =>
 Cnd t28_88 (
 Rd PP (Instr.entry t26_80) w_87 fun t29_89 =>
 Ex t29_89 0 fun t30_90 =>
 Ex t29_89 1 fun t31_91 =>
 Dr w_87 fun w_92 =>
 Ld t3_70 w_92 fun t32_93 =>
 Nc t32_93 fun t33_94 =>
 Fa 2 t33_94 fun t34_95 =>
 Ld t34_95 w_92 fun t35_96 =>
 Ca PP Fn.slices_Clone_sl_string_string #[t31_91] w_92 fun t38_97 w_98 =>
 (Ld t3_70 w_98 fun t32_99 =>
 t32_99 = t32_93) ∧
 (Ld t34_95 w_98 fun t35_100 =>
 t35_100 = t35_96) ∧
 Ef PP (Instr.mapUpdate Ty.map_string_sl_string t35_96 t30_90 t38_97) w_98 fun _ w_101 =>
 I_82 [] w_101 ∧ m_83 [] w_101 < m_83 [] w_85) (
 Al Ty.functree_node_p_tree_node_p_tree_node #[.nilFunc] w_87 fun t6_102 w_103 =>
 St PP 1 t6_102 (.func (.func Fn.tree_Tree_Clone_1) #[] #[t6_102, t3_70]) w_103 fun w_104 =>
 Dr w_104 fun w_105 =>
 Ld t3_70 w_105 fun t40_106 =>
 Ld t6_102 w_105 fun t41_107 =>
 Nc a0 fun t43_108 =>
 Fa 0 t43_108 fun t44_109 =>
 Ld t44_109 w_105 fun t45_110 =>
 CaV PP t41_107 #[t45_110, (.pointer none)] w_105 fun t46_111 w_112 =>
 (Ld t3_70 w_112 fun t40_113 =>
 t40_113 = t40_106) ∧
 Nc t40_106 fun t47_114 =>
 Fa 0 t47_114 fun t48_115 =>
 St PP 1 t48_115 t46_111 w_112 fun w_116 =>
 Ld t3_70 w_116 fun t49_117 =>
 R t49_117 w_116)) ∧ True) ∧ (Al Ty.p_tree_Tree #[.pointer none] w_14 fun t3_118 w_119 =>
 (Ld t13_4 w_119 fun t14_120 =>
 t14_120 = t14_5) ∧
 (Ld t17_7 w_119 fun t18_121 =>
 t18_121 = t18_8) ∧
 MkM w_119 fun t19_122 w_123 =>
 (Ld t13_4 w_123 fun t14_124 =>
 t14_124 = t14_5) ∧
 (Ld t17_7 w_123 fun t18_125 =>
 t18_125 = t18_8) ∧
 Bd #[.pointer none, .map none, .map none, .int .i64 0, .int .i64 0, .map none] [(0, 1), (1, 1), (2, 1), (3, 1), (4, 1), (5, 1)] [(1, t9_9), (2, t10_13), (3, t14_5), (4, t18_8), (5, t19_122)] fun t20_126 =>
 Al Ty.tree_Tree (t20_126 : Value).cells w_123 fun t21_127 w_128 =>
 St PP 1 t3_118 t21_127 w_128 fun w_129 =>
 Nc a0 fun t23_130 =>
 Fa 2 t23_130 fun t24_131 =>
 Ld t24_131 w_129 fun t25_132 =>
 Ef PP (Instr.range Ty.map_string_sl_string t25_132) w_129 fun t26_133 w_134 =>
 ∃ (I_135 : List Value → World → Prop) (m_136 : List Value → World → Nat), I_135 [] w_134 ∧ ∀ (u_137 : Env) (w_138 : World), I_135 [] w_138 →
 Ef PP (Instr.next t26_133 false Ty.t) w_138 fun t27_139 w_140 =>
 Ex t27_139 0 fun t28_141 =>
 Cnd t28_141 (
 Rd PP (Instr.entry t26_133) w_140 fun t29_142 =>
 Ex t29_142 0 fun t30_143 =>
 Ex t29_142 1 fun t31_144 =>
 Dr w_140 fun w_145 =>
 Ld t3_118 w_145 fun t32_146 =>
 Nc t32_146 fun t33_147 =>
 Fa 2 t33_147 fun t34_148 =>
 Ld t34_148 w_145 fun t35_149 =>
 Ca PP Fn.slices_Clone_sl_string_string #[t31_144] w_145 fun t38_150 w_151 =>
 (Ld t3_118 w_151 fun t32_152 =>
 t32_152 = t32_146) ∧
 (Ld t34_148 w_151 fun t35_153 =>
 t35_153 = t35_149) ∧
 Ef PP (Instr.mapUpdate Ty.map_string_sl_string t35_149 t30_143 t38_150) w_151 fun _ w_154 =>
 I_135 [] w_154 ∧ m_136 [] w_154 < m_136 [] w_138) (
 Al Ty.functree_node_p_tree_node_p_tree_node #[.nilFunc] w_140 fun t6_155 w_156 =>
 St PP 1 t6_155 (.func (.func Fn.tree_Tree_Clone_1) #[] #[t6_155, t3_118]) w_156 fun w_157 =>
 Dr w_157 fun w_158 =>
 Ld t3_118 w_158 fun t40_159 =>
 Ld t6_155 w_158 fun t41_160 =>
 Nc a0 fun t43_161 =>
 Fa 0 t43_161 fun t44_162 =>
 Ld t44_162 w_158 fun t45_163 =>
 CaV PP t41_160 #[t45_163, (.pointer none)] w_158 fun t46_164 w_165 =>
 (Ld t3_118 w_165 fun t40_166 =>
 t40_166 = t40_159) ∧
 Nc t40_159 fun t47_167 =>
 Fa 0 t47_167 fun t48_168 =>
 St PP 1 t48_168 t46_164 w_165 fun w_169 =>
 Ld t3_118 w_169 fun t49_170 =>
 R t49_170 w_169)) ∧ True) ∧ (MkM w_10 fun t19_171 w_172 =>
 (Ld t13_4 w_172 fun t14_173 =>
 t14_173 = t14_5) ∧
 (Ld t17_7 w_172 fun t18_174 =>
 t18_174 = t18_8) ∧
 (MkM w_172 fun t10_175 w_176 =>
 (Ld t13_4 w_176 fun t14_177 =>
 t14_177 = t14_5) ∧
 (Ld t17_7 w_176 fun t18_178 =>
 t18_178 = t18_8) ∧
 Bd #[.pointer none, .map none, .map none, .int .i64 0, .int .i64 0, .map none] [(0, 1), (1, 1), (2, 1), (3, 1), (4, 1), (5, 1)] [(1, t9_9), (2, t10_175), (3, t14_5), (4, t18_8), (5, t19_171)] fun t20_179 =>
 (Al Ty.tree_Tree (t20_179 : Value).cells w_176 fun t21_180 w_181 =>
 Al Ty.p_tree_Tree #[.pointer none] w_181 fun t3_182 w_183 =>
 (Ld t13_4 w_183 fun t14_184 =>
 t14_184 = t14_5) ∧
 (Ld t17_7 w_183 fun t18_185 =>
 t18_185 = t18_8) ∧
 St PP 1 t3_182 t21_180 w_183 fun w_186 =>
 Nc a0 fun t23_187 =>
 Fa 2 t23_187 fun t24_188 =>
 Ld t24_188 w_186 fun t25_189 =>
 Ef PP (Instr.range Ty.map_string_sl_string t25_189) w_186 fun t26_190 w_191 =>
 ∃ (I_192 : List Value → World → Prop) (m_193 : List Value → World → Nat), I_192 [] w_191 ∧ ∀ (u_194 : Env) (w_195 : World), I_192 [] w_195 →
 Ef PP (Instr.next t26_190 false Ty.t) w_195 fun t27_196 w_197 =>
 Ex t27_196 0 fun t28_198 =>
 Cnd t28_198 (
 Rd PP (Instr.entry t26_190) w_197 fun t29_199 =>
 Ex t29_199 0 fun t30_200 =>
 Ex t29_199 1 fun t31_201 =>
 Dr w_197 fun w_202 =>
 Ld t3_182 w_202 fun t32_203 =>
 Nc t32_203 fun t33_204 =>
 Fa 2 t33_204 fun t34_205 =>
 Ld t34_205 w_202 fun t35_206 =>
 Ca PP Fn.slices_Clone_sl_string_string #[t31_201] w_202 fun t38_207 w_208 =>
 (Ld t3_182 w_208 fun t32_209 =>
 t32_209 = t32_203) ∧
 (Ld t34_205 w_208 fun t35_210 =>
 t35_210 = t35_206) ∧
 Ef PP (Instr.mapUpdate Ty.map_string_sl_string t35_206 t30_200 t38_207) w_208 fun _ w_211 =>
 I_192 [] w_211 ∧ m_193 [] w_211 < m_193 [] w_195) (
 Al Ty.functree_node_p_tree_node_p_tree_node #[.nilFunc] w_197 fun t6_212 w_213 =>
 St PP 1 t6_212 (.func (.func Fn.tree_Tree_Clone_1) #[] #[t6_212, t3_182]) w_213 fun w_214 =>
 Dr w_214 fun w_215 =>
 Ld t3_182 w_215 fun t40_216 =>
 Ld t6_212 w_215 fun t41_217 =>
 Nc a0 fun t43_218 =>
 Fa 0 t43_218 fun t44_219 =>
 Ld t44_219 w_215 fun t45_220 =>
 CaV PP t41_217 #[t45_220, (.pointer none)] w_215 fun t46_221 w_222 =>
 (Ld t3_182 w_222 fun t40_223 =>
 t40_223 = t40_216) ∧
 Nc t40_216 fun t47_224 =>
 Fa 0 t47_224 fun t48_225 =>
 St PP 1 t48_225 t46_221 w_222 fun w_226 =>
 Ld t3_182 w_226 fun t49_227 =>
 R t49_227 w_226)) ∧ (Al Ty.p_tree_Tree #[.pointer none] w_176 fun t3_228 w_229 =>
 (Ld t13_4 w_229 fun t14_230 =>
 t14_230 = t14_5) ∧
 (Ld t17_7 w_229 fun t18_231 =>
 t18_231 = t18_8) ∧
 Al Ty.tree_Tree (t20_179 : Value).cells w_229 fun t21_232 w_233 =>
 St PP 1 t3_228 t21_232 w_233 fun w_234 =>
 Nc a0 fun t23_235 =>
 Fa 2 t23_235 fun t24_236 =>
 Ld t24_236 w_234 fun t25_237 =>
 Ef PP (Instr.range Ty.map_string_sl_string t25_237) w_234 fun t26_238 w_239 =>
 ∃ (I_240 : List Value → World → Prop) (m_241 : List Value → World → Nat), I_240 [] w_239 ∧ ∀ (u_242 : Env) (w_243 : World), I_240 [] w_243 →
 Ef PP (Instr.next t26_238 false Ty.t) w_243 fun t27_244 w_245 =>
 Ex t27_244 0 fun t28_246 =>
 Cnd t28_246 (
 Rd PP (Instr.entry t26_238) w_245 fun t29_247 =>
 Ex t29_247 0 fun t30_248 =>
 Ex t29_247 1 fun t31_249 =>
 Dr w_245 fun w_250 =>
 Ld t3_228 w_250 fun t32_251 =>
 Nc t32_251 fun t33_252 =>
 Fa 2 t33_252 fun t34_253 =>
 Ld t34_253 w_250 fun t35_254 =>
 Ca PP Fn.slices_Clone_sl_string_string #[t31_249] w_250 fun t38_255 w_256 =>
 (Ld t3_228 w_256 fun t32_257 =>
 t32_257 = t32_251) ∧
 (Ld t34_253 w_256 fun t35_258 =>
 t35_258 = t35_254) ∧
 Ef PP (Instr.mapUpdate Ty.map_string_sl_string t35_254 t30_248 t38_255) w_256 fun _ w_259 =>
 I_240 [] w_259 ∧ m_241 [] w_259 < m_241 [] w_243) (
 Al Ty.functree_node_p_tree_node_p_tree_node #[.nilFunc] w_245 fun t6_260 w_261 =>
 St PP 1 t6_260 (.func (.func Fn.tree_Tree_Clone_1) #[] #[t6_260, t3_228]) w_261 fun w_262 =>
 Dr w_262 fun w_263 =>
 Ld t3_228 w_263 fun t40_264 =>
 Ld t6_260 w_263 fun t41_265 =>
 Nc a0 fun t43_266 =>
 Fa 0 t43_266 fun t44_267 =>
 Ld t44_267 w_263 fun t45_268 =>
 CaV PP t41_265 #[t45_268, (.pointer none)] w_263 fun t46_269 w_270 =>
 (Ld t3_228 w_270 fun t40_271 =>
 t40_271 = t40_264) ∧
 Nc t40_264 fun t47_272 =>
 Fa 0 t47_272 fun t48_273 =>
 St PP 1 t48_273 t46_269 w_270 fun w_274 =>
 Ld t3_228 w_274 fun t49_275 =>
 R t49_275 w_274)) ∧ True) ∧ (Al Ty.p_tree_Tree #[.pointer none] w_172 fun t3_276 w_277 =>
 (Ld t13_4 w_277 fun t14_278 =>
 t14_278 = t14_5) ∧
 (Ld t17_7 w_277 fun t18_279 =>
 t18_279 = t18_8) ∧
 MkM w_277 fun t10_280 w_281 =>
 (Ld t13_4 w_281 fun t14_282 =>
 t14_282 = t14_5) ∧
 (Ld t17_7 w_281 fun t18_283 =>
 t18_283 = t18_8) ∧
 Bd #[.pointer none, .map none, .map none, .int .i64 0, .int .i64 0, .map none] [(0, 1), (1, 1), (2, 1), (3, 1), (4, 1), (5, 1)] [(1, t9_9), (2, t10_280), (3, t14_5), (4, t18_8), (5, t19_171)] fun t20_284 =>
 Al Ty.tree_Tree (t20_284 : Value).cells w_281 fun t21_285 w_286 =>
 St PP 1 t3_276 t21_285 w_286 fun w_287 =>
 Nc a0 fun t23_288 =>
 Fa 2 t23_288 fun t24_289 =>
 Ld t24_289 w_287 fun t25_290 =>
 Ef PP (Instr.range Ty.map_string_sl_string t25_290) w_287 fun t26_291 w_292 =>
 ∃ (I_293 : List Value → World → Prop) (m_294 : List Value → World → Nat), I_293 [] w_292 ∧ ∀ (u_295 : Env) (w_296 : World), I_293 [] w_296 →
 Ef PP (Instr.next t26_291 false Ty.t) w_296 fun t27_297 w_298 =>
 Ex t27_297 0 fun t28_299 =>
 Cnd t28_299 (
 Rd PP (Instr.entry t26_291) w_298 fun t29_300 =>
 Ex t29_300 0 fun t30_301 =>
 Ex t29_300 1 fun t31_302 =>
 Dr w_298 fun w_303 =>
 Ld t3_276 w_303 fun t32_304 =>
 Nc t32_304 fun t33_305 =>
 Fa 2 t33_305 fun t34_306 =>
 Ld t34_306 w_303 fun t35_307 =>
 Ca PP Fn.slices_Clone_sl_string_string #[t31_302] w_303 fun t38_308 w_309 =>
 (Ld t3_276 w_309 fun t32_310 =>
 t32_310 = t32_304) ∧
 (Ld t34_306 w_309 fun t35_311 =>
 t35_311 = t35_307) ∧
 Ef PP (Instr.mapUpdate Ty.map_string_sl_string t35_307 t30_301 t38_308) w_309 fun _ w_312 =>
 I_293 [] w_312 ∧ m_294 [] w_312 < m_294 [] w_296) (
 Al Ty.functree_node_p_tree_node_p_tree_node #[.nilFunc] w_298 fun t6_313 w_314 =>
 St PP 1 t6_313 (.func (.func Fn.tree_Tree_Clone_1) #[] #[t6_313, t3_276]) w_314 fun w_315 =>
 Dr w_315 fun w_316 =>
 Ld t3_276 w_316 fun t40_317 =>
 Ld t6_313 w_316 fun t41_318 =>
 Nc a0 fun t43_319 =>
 Fa 0 t43_319 fun t44_320 =>
 Ld t44_320 w_316 fun t45_321 =>
 CaV PP t41_318 #[t45_321, (.pointer none)] w_316 fun t46_322 w_323 =>
 (Ld t3_276 w_323 fun t40_324 =>
 t40_324 = t40_317) ∧
 Nc t40_317 fun t47_325 =>
 Fa 0 t47_325 fun t48_326 =>
 St PP 1 t48_326 t46_322 w_323 fun w_327 =>
 Ld t3_276 w_327 fun t49_328 =>
 R t49_328 w_327)) ∧ True) ∧ (Al Ty.p_tree_Tree #[.pointer none] w_10 fun t3_329 w_330 =>
 (Ld t13_4 w_330 fun t14_331 =>
 t14_331 = t14_5) ∧
 (Ld t17_7 w_330 fun t18_332 =>
 t18_332 = t18_8) ∧
 (MkM w_330 fun t10_333 w_334 =>
 (Ld t13_4 w_334 fun t14_335 =>
 t14_335 = t14_5) ∧
 (Ld t17_7 w_334 fun t18_336 =>
 t18_336 = t18_8) ∧
 MkM w_334 fun t19_337 w_338 =>
 (Ld t13_4 w_338 fun t14_339 =>
 t14_339 = t14_5) ∧
 (Ld t17_7 w_338 fun t18_340 =>
 t18_340 = t18_8) ∧
 Bd #[.pointer none, .map none, .map none, .int .i64 0, .int .i64 0, .map none] [(0, 1), (1, 1), (2, 1), (3, 1), (4, 1), (5, 1)] [(1, t9_9), (2, t10_333), (3, t14_5), (4, t18_8), (5, t19_337)] fun t20_341 =>
 Al Ty.tree_Tree (t20_341 : Value).cells w_338 fun t21_342 w_343 =>
 St PP 1 t3_329 t21_342 w_343 fun w_344 =>
 Nc a0 fun t23_345 =>
 Fa 2 t23_345 fun t24_346 =>
 Ld t24_346 w_344 fun t25_347 =>
 Ef PP (Instr.range Ty.map_string_sl_string t25_347) w_344 fun t26_348 w_349 =>
 ∃ (I_350 : List Value → World → Prop) (m_351 : List Value → World → Nat), I_350 [] w_349 ∧ ∀ (u_352 : Env) (w_353 : World), I_350 [] w_353 →
 Ef PP (Instr.next t26_348 false Ty.t) w_353 fun t27_354 w_355 =>
 Ex t27_354 0 fun t28_356 =>
 Cnd t28_356 (
 Rd PP (Instr.entry t26_348) w_355 fun t29_357 =>
 Ex t29_357 0 fun t30_358 =>
 Ex t29_357 1 fun t31_359 =>
 Dr w_355 fun w_360 =>
 Ld t3_329 w_360 fun t32_361 =>
 Nc t32_361 fun t33_362 =>
 Fa 2 t33_362 fun t34_363 =>
 Ld t34_363 w_360 fun t35_364 =>
 Ca PP Fn.slices_Clone_sl_string_string #[t31_359] w_360 fun t38_365 w_366 =>
 (Ld t3_329 w_366 fun t32_367 =>
 t32_367 = t32_361) ∧
 (Ld t34_363 w_366 fun t35_368 =>
 t35_368 = t35_364) ∧
 Ef PP (Instr.mapUpdate Ty.map_string_sl_string t35_364 t30_358 t38_365) w_366 fun _ w_369 =>
 I_350 [] w_369 ∧ m_351 [] w_369 < m_351 [] w_353) (
 Al Ty.functree_node_p_tree_node_p_tree_node #[.nilFunc] w_355 fun t6_370 w_371 =>
 St PP 1 t6_370 (.func (.func Fn.tree_Tree_Clone_1) #[] #[t6_370, t3_329]) w_371 fun w_372 =>
 Dr w_372 fun w_373 =>
 Ld t3_329 w_373 fun t40_374 =>
 Ld t6_370 w_373 fun t41_375 =>
 Nc a0 fun t43_376 =>
 Fa 0 t43_376 fun t44_377 =>
 Ld t44_377 w_373 fun t45_378 =>
 CaV PP t41_375 #[t45_378, (.pointer none)] w_373 fun t46_379 w_380 =>
 (Ld t3_329 w_380 fun t40_381 =>
 t40_381 = t40_374) ∧
 Nc t40_374 fun t47_382 =>
 Fa 0 t47_382 fun t48_383 =>
 St PP 1 t48_383 t46_379 w_380 fun w_384 =>
 Ld t3_329 w_384 fun t49_385 =>
 R t49_385 w_384)) ∧ (MkM w_330 fun t19_386 w_387 =>
 (Ld t13_4 w_387 fun t14_388 =>
 t14_388 = t14_5) ∧
 (Ld t17_7 w_387 fun t18_389 =>
 t18_389 = t18_8) ∧
 MkM w_387 fun t10_390 w_391 =>
 (Ld t13_4 w_391 fun t14_392 =>
 t14_392 = t14_5) ∧
 (Ld t17_7 w_391 fun t18_393 =>
 t18_393 = t18_8) ∧
 Bd #[.pointer none, .map none, .map none, .int .i64 0, .int .i64 0, .map none] [(0, 1), (1, 1), (2, 1), (3, 1), (4, 1), (5, 1)] [(1, t9_9), (2, t10_390), (3, t14_5), (4, t18_8), (5, t19_386)] fun t20_394 =>
 Al Ty.tree_Tree (t20_394 : Value).cells w_391 fun t21_395 w_396 =>
 St PP 1 t3_329 t21_395 w_396 fun w_397 =>
 Nc a0 fun t23_398 =>
 Fa 2 t23_398 fun t24_399 =>
 Ld t24_399 w_397 fun t25_400 =>
 Ef PP (Instr.range Ty.map_string_sl_string t25_400) w_397 fun t26_401 w_402 =>
 ∃ (I_403 : List Value → World → Prop) (m_404 : List Value → World → Nat), I_403 [] w_402 ∧ ∀ (u_405 : Env) (w_406 : World), I_403 [] w_406 →
 Ef PP (Instr.next t26_401 false Ty.t) w_406 fun t27_407 w_408 =>
 Ex t27_407 0 fun t28_409 =>
 Cnd t28_409 (
 Rd PP (Instr.entry t26_401) w_408 fun t29_410 =>
 Ex t29_410 0 fun t30_411 =>
 Ex t29_410 1 fun t31_412 =>
 Dr w_408 fun w_413 =>
 Ld t3_329 w_413 fun t32_414 =>
 Nc t32_414 fun t33_415 =>
 Fa 2 t33_415 fun t34_416 =>
 Ld t34_416 w_413 fun t35_417 =>
 Ca PP Fn.slices_Clone_sl_string_string #[t31_412] w_413 fun t38_418 w_419 =>
 (Ld t3_329 w_419 fun t32_420 =>
 t32_420 = t32_414) ∧
 (Ld t34_416 w_419 fun t35_421 =>
 t35_421 = t35_417) ∧
 Ef PP (Instr.mapUpdate Ty.map_string_sl_string t35_417 t30_411 t38_418) w_419 fun _ w_422 =>
 I_403 [] w_422 ∧ m_404 [] w_422 < m_404 [] w_406) (
 Al Ty.functree_node_p_tree_node_p_tree_node #[.nilFunc] w_408 fun t6_423 w_424 =>
 St PP 1 t6_423 (.func (.func Fn.tree_Tree_Clone_1) #[] #[t6_423, t3_329]) w_424 fun w_425 =>
 Dr w_425 fun w_426 =>
 Ld t3_329 w_426 fun t40_427 =>
 Ld t6_423 w_426 fun t41_428 =>
 Nc a0 fun t43_429 =>
 Fa 0 t43_429 fun t44_430 =>
 Ld t44_430 w_426 fun t45_431 =>
 CaV PP t41_428 #[t45_431, (.pointer none)] w_426 fun t46_432 w_433 =>
 (Ld t3_329 w_433 fun t40_434 =>
 t40_434 = t40_427) ∧
 Nc t40_427 fun t47_435 =>
 Fa 0 t47_435 fun t48_436 =>
 St PP 1 t48_436 t46_432 w_433 fun w_437 =>
 Ld t3_329 w_437 fun t49_438 =>
 R t49_438 w_437)) ∧ True) ∧ True) ∧ (MkM w_2 fun t10_439 w_440 =>
 (Ld t13_4 w_440 fun t14_441 =>
 t14_441 = t14_5) ∧
 (Ld t17_7 w_440 fun t18_442 =>
 t18_442 = t18_8) ∧
 (MkM w_440 fun t9_443 w_444 =>
 (Ld t13_4 w_444 fun t14_445 =>
 t14_445 = t14_5) ∧
 (Ld t17_7 w_444 fun t18_446 =>
 t18_446 = t18_8) ∧
 (MkM w_444 fun t19_447 w_448 =>
 (Ld t13_4 w_448 fun t14_449 =>
 t14_449 = t14_5) ∧
 (Ld t17_7 w_448 fun t18_450 =>
 t18_450 = t18_8) ∧
 Bd #[.pointer none, .map none, .map none, .int .i64 0, .int .i64 0, .map none] [(0, 1), (1, 1), (2, 1), (3, 1), (4, 1), (5, 1)] [(1, t9_443), (2, t10_439), (3, t14_5), (4, t18_8), (5, t19_447)] fun t20_451 =>
 (Al Ty.tree_Tree (t20_451 : Value).cells w_448 fun t21_452 w_453 =>
 Al Ty.p_tree_Tree #[.pointer none] w_453 fun t3_454 w_455 =>
 (Ld t13_4 w_455 fun t14_456 =>
 t14_456 = t14_5) ∧
 (Ld t17_7 w_455 fun t18_457 =>
 t18_457 = t18_8) ∧
 St PP 1 t3_454 t21_452 w_455 fun w_458 =>
 Nc a0 fun t23_459 =>
 Fa 2 t23_459 fun t24_460 =>
 Ld t24_460 w_458 fun t25_461 =>
 Ef PP (Instr.range Ty.map_string_sl_string t25_461) w_458 fun t26_462 w_463 =>
 ∃ (I_464 : List Value → World → Prop) (m_465 : List Value → World → Nat), I_464 [] w_463 ∧ ∀ (u_466 : Env) (w_467 : World), I_464 [] w_467 →
 Ef PP (Instr.next t26_462 false Ty.t) w_467 fun t27_468 w_469 =>
 Ex t27_468 0 fun t28_470 =>
 Cnd t28_470 (
 Rd PP (Instr.entry t26_462) w_469 fun t29_471 =>
 Ex t29_471 0 fun t30_472 =>
 Ex t29_471 1 fun t31_473 =>
 Dr w_469 fun w_474 =>
 Ld t3_454 w_474 fun t32_475 =>
 Nc t32_475 fun t33_476 =>
 Fa 2 t33_476 fun t34_477 =>
 Ld t34_477 w_474 fun t35_478 =>
 Ca PP Fn.slices_Clone_sl_string_string #[t31_473] w_474 fun t38_479 w_480 =>
 (Ld t3_454 w_480 fun t32_481 =>
 t32_481 = t32_475) ∧
 (Ld t34_477 w_480 fun t35_482 =>
 t35_482 = t35_478) ∧
 Ef PP (Instr.mapUpdate Ty.map_string_sl_string t35_478 t30_472 t38_479) w_480 fun _ w_483 =>
 I_464 [] w_483 ∧ m_465 [] w_483 < m_465 [] w_467) (
 Al Ty.functree_node_p_tree_node_p_tree_node #[.nilFunc] w_469 fun t6_484 w_485 =>
 St PP 1 t6_484 (.func (.func Fn.tree_Tree_Clone_1) #[] #[t6_484, t3_454]) w_485 fun w_486 =>
 Dr w_486 fun w_487 =>
 Ld t3_454 w_487 fun t40_488 =>
 Ld t6_484 w_487 fun t41_489 =>
 Nc a0 fun t43_490 =>
 Fa 0 t43_490 fun t44_491 =>
 Ld t44_491 w_487 fun t45_492 =>
 CaV PP t41_489 #[t45_492, (.pointer none)] w_487 fun t46_493 w_494 =>
 (Ld t3_454 w_494 fun t40_495 =>
 t40_495 = t40_488) ∧
 Nc t40_488 fun t47_496 =>
 Fa 0 t47_496 fun t48_497 =>
 St PP 1 t48_497 t46_493 w_494 fun w_498 =>
 Ld t3_454 w_498 fun t49_499 =>
 R t49_499 w_498)) ∧ (Al Ty.p_tree_Tree #[.pointer none] w_448 fun t3_500 w_501 =>
 (Ld t13_4 w_501 fun t14_502 =>
 t14_502 = t14_5) ∧
 (Ld t17_7 w_501 fun t18_503 =>
 t18_503 = t18_8) ∧
 Al Ty.tree_Tree (t20_451 : Value).cells w_501 fun t21_504 w_505 =>
 St PP 1 t3_500 t21_504 w_505 fun w_506 =>
 Nc a0 fun t23_507 =>
 Fa 2 t23_507 fun t24_508 =>
 Ld t24_508 w_506 fun t25_509 =>
 Ef PP (Instr.range Ty.map_string_sl_string t25_509) w_506 fun t26_510 w_511 =>
 ∃ (I_512 : List Value → World → Prop) (m_513 : List Value → World → Nat), I_512 [] w_511 ∧ ∀ (u_514 : Env) (w_515 : World), I_512 [] w_515 →
 Ef PP (Instr.next t26_510 false Ty.t) w_515 fun t27_516 w_517 =>
 Ex t27_516 0 fun t28_518 =>
 Cnd t28_518 (
 Rd PP (Instr.entry t26_510) w_517 fun t29_519 =>
 Ex t29_519 0 fun t30_520 =>
 Ex t29_519 1 fun t31_521 =>
 Dr w_517 fun w_522 =>
 Ld t3_500 w_522 fun t32_523 =>
 Nc t32_523 fun t33_524 =>
 Fa 2 t33_524 fun t34_525 =>
 Ld t34_525 w_522 fun t35_526 =>
 Ca PP Fn.slices_Clone_sl_string_string #[t31_521] w_522 fun t38_527 w_528 =>
 (Ld t3_500 w_528 fun t32_529 =>
 t32_529 = t32_523) ∧
 (Ld t34_525 w_528 fun t35_530 =>
 t35_530 = t35_526) ∧
 Ef PP (Instr.mapUpdate Ty.map_string_sl_string t35_526 t30_520 t38_527) w_528 fun _ w_531 =>
 I_512 [] w_531 ∧ m_513 [] w_531 < m_513 [] w_515) (
 Al Ty.functree_node_p_tree_node_p_tree_node #[.nilFunc] w_517 fun t6_532 w_533 =>
 St PP 1 t6_532 (.func (.func Fn.tree_Tree_Clone_1) #[] #[t6_532, t3_500]) w_533 fun w_534 =>
 Dr w_534 fun w_535 =>
 Ld t3_500 w_535 fun t40_536 =>
 Ld t6_532 w_535 fun t41_537 =>
 Nc a0 fun t43_538 =>
 Fa 0 t43_538 fun t44_539 =>
 Ld t44_539 w_535 fun t45_540 =>
 CaV PP t41_537 #[t45_540, (.pointer none)] w_535 fun t46_541 w_542 =>
 (Ld t3_500 w_542 fun t40_543 =>
 t40_543 = t40_536) ∧
 Nc t40_536 fun t47_544 =>
 Fa 0 t47_544 fun t48_545 =>
 St PP 1 t48_545 t46_541 w_542 fun w_546 =>
 Ld t3_500 w_546 fun t49_547 =>
 R t49_547 w_546)) ∧ True) ∧ (Al Ty.p_tree_Tree #[.pointer none] w_444 fun t3_548 w_549 =>
 (Ld t13_4 w_549 fun t14_550 =>
 t14_550 = t14_5) ∧
 (Ld t17_7 w_549 fun t18_551 =>
 t18_551 = t18_8) ∧
 MkM w_549 fun t19_552 w_553 =>
 (Ld t13_4 w_553 fun t14_554 =>
 t14_554 = t14_5) ∧
 (Ld t17_7 w_553 fun t18_555 =>
 t18_555 = t18_8) ∧
 Bd #[.pointer none, .map none, .map none, .int .i64 0, .int .i64 0, .map none] [(0, 1), (1, 1), (2, 1), (3, 1), (4, 1), (5, 1)] [(1, t9_443), (2, t10_439), (3, t14_5), (4, t18_8), (5, t19_552)] fun t20_556 =>
 Al Ty.tree_Tree (t20_556 : Value).cells w_553 fun t21_557 w_558 =>
 St PP 1 t3_548 t21_557 w_558 fun w_559 =>
 Nc a0 fun t23_560 =>
 Fa 2 t23_560 fun t24_561 =>
 Ld t24_561 w_559 fun t25_562 =>
 Ef PP (Instr.range Ty.map_string_sl_string t25_562) w_559 fun t26_563 w_564 =>
 ∃ (I_565 : List Value → World → Prop) (m_566 : List Value → World → Nat), I_565 [] w_564 ∧ ∀ (u_567 : Env) (w_568 : World), I_565 [] w_568 →
 Ef PP (Instr.next t26_563 false Ty.t) w_568 fun t27_569 w_570 =>
 Ex t27_569 0 fun t28_571 =>
 Cnd t28_571 (
 Rd PP (Instr.entry t26_563) w_570 fun t29_572 =>
 Ex t29_572 0 fun t30_573 =>
 Ex t29_572 1 fun t31_574 =>
 Dr w_570 fun w_575 =>
 Ld t3_548 w_575 fun t32_576 =>
 Nc t32_576 fun t33_577 =>
 Fa 2 t33_577 fun t34_578 =>
 Ld t34_578 w_575 fun t35_579 =>
 Ca PP Fn.slices_Clone_sl_string_string #[t31_574] w_575 fun t38_580 w_581 =>
 (Ld t3_548 w_581 fun t32_582 =>
 t32_582 = t32_576) ∧
 (Ld t34_578 w_581 fun t35_583 =>
 t35_583 = t35_579) ∧
 Ef PP (Instr.mapUpdate Ty.map_string_sl_string t35_579 t30_573 t38_580) w_581 fun _ w_584 =>
 I_565 [] w_584 ∧ m_566 [] w_584 < m_566 [] w_568) (
 Al Ty.functree_node_p_tree_node_p_tree_node #[.nilFunc] w_570 fun t6_585 w_586 =>
 St PP 1 t6_585 (.func (.func Fn.tree_Tree_Clone_1) #[] #[t6_585, t3_548]) w_586 fun w_587 =>
 Dr w_587 fun w_588 =>
 Ld t3_548 w_588 fun t40_589 =>
 Ld t6_585 w_588 fun t41_590 =>
 Nc a0 fun t43_591 =>
 Fa 0 t43_591 fun t44_592 =>
 Ld t44_592 w_588 fun t45_593 =>
 CaV PP t41_590 #[t45_593, (.pointer none)] w_588 fun t46_594 w_595 =>
 (Ld t3_548 w_595 fun t40_596 =>
 t40_596 = t40_589) ∧
 Nc t40_589 fun t47_597 =>
 Fa 0 t47_597 fun t48_598 =>
 St PP 1 t48_598 t46_594 w_595 fun w_599 =>
 Ld t3_548 w_599 fun t49_600 =>
 R t49_600 w_599)) ∧ True) ∧ (MkM w_440 fun t19_601 w_602 =>
 (Ld t13_4 w_602 fun t14_603 =>
 t14_603 = t14_5) ∧
 (Ld t17_7 w_602 fun t18_604 =>
 t18_604 = t18_8) ∧
 (MkM w_602 fun t9_605 w_606 =>
 (Ld t13_4 w_606 fun t14_607 =>
 t14_607 = t14_5) ∧
 (Ld t17_7 w_606 fun t18_608 =>
 t18_608 = t18_8) ∧
 Bd #[.pointer none, .map none, .map none, .int .i64 0, .int .i64 0, .map none] [(0, 1), (1, 1), (2, 1), (3, 1), (4, 1), (5, 1)] [(1, t9_605), (2, t10_439), (3, t14_5), (4, t18_8), (5, t19_601)] fun t20_609 =>
 (Al Ty.tree_Tree (t20_609 : Value).cells w_606 fun t21_610 w_611 =>
 Al Ty.p_tree_Tree #[.pointer none] w_611 fun t3_612 w_613 =>
 (Ld t13_4 w_613 fun t14_614 =>
 t14_614 = t14_5) ∧
 (Ld t17_7 w_613 fun t18_615 =>
 t18_615 = t18_8) ∧
 St PP 1 t3_612 t21_610 w_613 fun w_616 =>
 Nc a0 fun t23_617 =>
 Fa 2 t23_617 fun t24_618 =>
 Ld t24_618 w_616 fun t25_619 =>
 Ef PP (Instr.range Ty.map_string_sl_string t25_619) w_616 fun t26_620 w_621 =>
 ∃ (I_622 : List Value → World → Prop) (m_623 : List Value → World → Nat), I_622 [] w_621 ∧ ∀ (u_624 : Env) (w_625 : World), I_622 [] w_625 →
 Ef PP (Instr.next t26_620 false Ty.t) w_625 fun t27_626 w_627 =>
 Ex t27_626 0 fun t28_628 =>
 Cnd t28_628 (
 Rd PP (Instr.entry t26_620) w_627 fun t29_629 =>
 Ex t29_629 0 fun t30_630 =>
 Ex t29_629 1 fun t31_631 =>
 Dr w_627 fun w_632 =>
 Ld t3_612 w_632 fun t32_633 =>
 Nc t32_633 fun t33_634 =>
 Fa 2 t33_634 fun t34_635 =>
 Ld t34_635 w_632 fun t35_636 =>
 Ca PP Fn.slices_Clone_sl_string_string #[t31_631] w_632 fun t38_637 w_638 =>
 (Ld t3_612 w_638 fun t32_639 =>
 t32_639 = t32_633) ∧
 (Ld t34_635 w_638 fun t35_640 =>
 t35_640 = t35_636) ∧
 Ef PP (Instr.mapUpdate Ty.map_string_sl_string t35_636 t30_630 t38_637) w_638 fun _ w_641 =>
 I_622 [] w_641 ∧ m_623 [] w_641 < m_623 [] w_625) (
 Al Ty.functree_node_p_tree_node_p_tree_node #[.nilFunc] w_627 fun t6_642 w_643 =>
 St PP 1 t6_642 (.func (.func Fn.tree_Tree_Clone_1) #[] #[t6_642, t3_612]) w_643 fun w_644 =>
 Dr w_644 fun w_645 =>
 Ld t3_612 w_645 fun t40_646 =>
 Ld t6_642 w_645 fun t41_647 =>
 Nc a0 fun t43_648 =>
 Fa 0 t43_648 fun t44_649 =>
 Ld t44_649 w_645 fun t45_650 =>
 CaV PP t41_647 #[t45_650, (.pointer none)] w_645 fun t46_651 w_652 =>
 (Ld t3_612 w_652 fun t40_653 =>
 t40_653 = t40_646) ∧
 Nc t40_646 fun t47_654 =>
 Fa 0 t47_654 fun t48_655 =>
 St PP 1 t48_655 t46_651 w_652 fun w_656 =>
 Ld t3_612 w_656 fun t49_657 =>
 R t49_657 w_656)) ∧ (Al Ty.p_tree_Tree #[.pointer none] w_606 fun t3_658 w_659 =>
 (Ld t13_4 w_659 fun t14_660 =>
 t14_660 = t14_5) ∧
 (Ld t17_7 w_659 fun t18_661 =>
 t18_661 = t18_8) ∧
 Al Ty.tree_Tree (t20_609 : Value).cells w_659 fun t21_662 w_663 =>
 St PP 1 t3_658 t21_662 w_663 fun w_664 =>
 Nc a0 fun t23_665 =>
 Fa 2 t23_665 fun t24_666 =>
 Ld t24_666 w_664 fun t25_667 =>
 Ef PP (Instr.range Ty.map_string_sl_string t25_667) w_664 fun t26_668 w_669 =>
 ∃ (I_670 : List Value → World → Prop) (m_671 : List Value → World → Nat), I_670 [] w_669 ∧ ∀ (u_672 : Env) (w_673 : World), I_670 [] w_673 →
 Ef PP (Instr.next t26_668 false Ty.t) w_673 fun t27_674 w_675 =>
 Ex t27_674 0 fun t28_676 =>
 Cnd t28_676 (
 Rd PP (Instr.entry t26_668) w_675 fun t29_677 =>
 Ex t29_677 0 fun t30_678 =>
 Ex t29_677 1 fun t31_679 =>
 Dr w_675 fun w_680 =>
 Ld t3_658 w_680 fun t32_681 =>
 Nc t32_681 fun t33_682 =>
 Fa 2 t33_682 fun t34_683 =>
 Ld t34_683 w_680 fun t35_684 =>
 Ca PP Fn.slices_Clone_sl_string_string #[t31_679] w_680 fun t38_685 w_686 =>
 (Ld t3_658 w_686 fun t32_687 =>
 t32_687 = t32_681) ∧
 (Ld t34_683 w_686 fun t35_688 =>
 t35_688 = t35_684) ∧
 Ef PP (Instr.mapUpdate Ty.map_string_sl_string t35_684 t30_678 t38_685) w_686 fun _ w_689 =>
 I_670 [] w_689 ∧ m_671 [] w_689 < m_671 [] w_673) (
 Al Ty.functree_node_p_tree_node_p_tree_node #[.nilFunc] w_675 fun t6_690 w_691 =>
 St PP 1 t6_690 (.func (.func Fn.tree_Tree_Clone_1) #[] #[t6_690, t3_658]) w_691 fun w_692 =>
 Dr w_692 fun w_693 =>
 Ld t3_658 w_693 fun t40_694 =>
 Ld t6_690 w_693 fun t41_695 =>
 Nc a0 fun t43_696 =>
 Fa 0 t43_696 fun t44_697 =>
 Ld t44_697 w_693 fun t45_698 =>
 CaV PP t41_695 #[t45_698, (.pointer none)] w_693 fun t46_699 w_700 =>
 (Ld t3_658 w_700 fun t40_701 =>
 t40_701 = t40_694) ∧
 Nc t40_694 fun t47_702 =>
 Fa 0 t47_702 fun t48_703 =>
 St PP 1 t48_703 t46_699 w_700 fun w_704 =>
 Ld t3_658 w_704 fun t49_705 =>
 R t49_705 w_704)) ∧ True) ∧ (Al Ty.p_tree_Tree #[.pointer none] w_602 fun t3_706 w_707 =>
 (Ld t13_4 w_707 fun t14_708 =>
 t14_708 = t14_5) ∧
 (Ld t17_7 w_707 fun t18_709 =>
 t18_709 = t18_8) ∧
 MkM w_707 fun t9_710 w_711 =>
 (Ld t13_4 w_711 fun t14_712 =>
 t14_712 = t14_5) ∧
 (Ld t17_7 w_711 fun t18_713 =>
 t18_713 = t18_8) ∧
 Bd #[.pointer none, .map none, .map none, .int .i64 0, .int .i64 0, .map none] [(0, 1), (1, 1), (2, 1), (3, 1), (4, 1), (5, 1)] [(1, t9_710), (2, t10_439), (3, t14_5), (4, t18_8), (5, t19_601)] fun t20_714 =>
 Al Ty.tree_Tree (t20_714 : Value).cells w_711 fun t21_715 w_716 =>
 St PP 1 t3_706 t21_715 w_716 fun w_717 =>
 Nc a0 fun t23_718 =>
 Fa 2 t23_718 fun t24_719 =>
 Ld t24_719 w_717 fun t25_720 =>
 Ef PP (Instr.range Ty.map_string_sl_string t25_720) w_717 fun t26_721 w_722 =>
 ∃ (I_723 : List Value → World → Prop) (m_724 : List Value → World → Nat), I_723 [] w_722 ∧ ∀ (u_725 : Env) (w_726 : World), I_723 [] w_726 →
 Ef PP (Instr.next t26_721 false Ty.t) w_726 fun t27_727 w_728 =>
 Ex t27_727 0 fun t28_729 =>
 Cnd t28_729 (
 Rd PP (Instr.entry t26_721) w_728 fun t29_730 =>
 Ex t29_730 0 fun t30_731 =>
 Ex t29_730 1 fun t31_732 =>
 Dr w_728 fun w_733 =>
 Ld t3_706 w_733 fun t32_734 =>
 Nc t32_734 fun t33_735 =>
 Fa 2 t33_735 fun t34_736 =>
 Ld t34_736 w_733 fun t35_737 =>
 Ca PP Fn.slices_Clone_sl_string_string #[t31_732] w_733 fun t38_738 w_739 =>
 (Ld t3_706 w_739 fun t32_740 =>
 t32_740 = t32_734) ∧
 (Ld t34_736 w_739 fun t35_741 =>
 t35_741 = t35_737) ∧
 Ef PP (Instr.mapUpdate Ty.map_string_sl_string t35_737 t30_731 t38_738) w_739 fun _ w_742 =>
 I_723 [] w_742 ∧ m_724 [] w_742 < m_724 [] w_726) (
 Al Ty.functree_node_p_tree_node_p_tree_node #[.nilFunc] w_728 fun t6_743 w_744 =>
 St PP 1 t6_743 (.func (.func Fn.tree_Tree_Clone_1) #[] #[t6_743, t3_706]) w_744 fun w_745 =>
 Dr w_745 fun w_746 =>
 Ld t3_706 w_746 fun t40_747 =>
 Ld t6_743 w_746 fun t41_748 =>
 Nc a0 fun t43_749 =>
 Fa 0 t43_749 fun t44_750 =>
 Ld t44_750 w_746 fun t45_751 =>
 CaV PP t41_748 #[t45_751, (.pointer none)] w_746 fun t46_752 w_753 =>
 (Ld t3_706 w_753 fun t40_754 =>
 t40_754 = t40_747) ∧
 Nc t40_747 fun t47_755 =>
 Fa 0 t47_755 fun t48_756 =>
 St PP 1 t48_756 t46_752 w_753 fun w_757 =>
 Ld t3_706 w_757 fun t49_758 =>
 R t49_758 w_757)) ∧ True) ∧ (Al Ty.p_tree_Tree #[.pointer none] w_440 fun t3_759 w_760 =>
 (Ld t13_4 w_760 fun t14_761 =>
 t14_761 = t14_5) ∧
 (Ld t17_7 w_760 fun t18_762 =>
 t18_762 = t18_8) ∧
 (MkM w_760 fun t9_763 w_764 =>
 (Ld t13_4 w_764 fun t14_765 =>
 t14_765 = t14_5) ∧
 (Ld t17_7 w_764 fun t18_766 =>
 t18_766 = t18_8) ∧
 MkM w_764 fun t19_767 w_768 =>
 (Ld t13_4 w_768 fun t14_769 =>
 t14_769 = t14_5) ∧
 (Ld t17_7 w_768 fun t18_770 =>
 t18_770 = t18_8) ∧
 Bd #[.pointer none, .map none, .map none, .int .i64 0, .int .i64 0, .map none] [(0, 1), (1, 1), (2, 1), (3, 1), (4, 1), (5, 1)] [(1, t9_763), (2, t10_439), (3, t14_5), (4, t18_8), (5, t19_767)] fun t20_771 =>
 Al Ty.tree_Tree (t20_771 : Value).cells w_768 fun t21_772 w_773 =>
 St PP 1 t3_759 t21_772 w_773 fun w_774 =>
 Nc a0 fun t23_775 =>
 Fa 2 t23_775 fun t24_776 =>
 Ld t24_776 w_774 fun t25_777 =>
 Ef PP (Instr.range Ty.map_string_sl_string t25_777) w_774 fun t26_778 w_779 =>
 ∃ (I_780 : List Value → World → Prop) (m_781 : List Value → World → Nat), I_780 [] w_779 ∧ ∀ (u_782 : Env) (w_783 : World), I_780 [] w_783 →
 Ef PP (Instr.next t26_778 false Ty.t) w_783 fun t27_784 w_785 =>
 Ex t27_784 0 fun t28_786 =>
 Cnd t28_786 (
 Rd PP (Instr.entry t26_778) w_785 fun t29_787 =>
 Ex t29_787 0 fun t30_788 =>
 Ex t29_787 1 fun t31_789 =>
 Dr w_785 fun w_790 =>
 Ld t3_759 w_790 fun t32_791 =>
 Nc t32_791 fun t33_792 =>
 Fa 2 t33_792 fun t34_793 =>
 Ld t34_793 w_790 fun t35_794 =>
 Ca PP Fn.slices_Clone_sl_string_string #[t31_789] w_790 fun t38_795 w_796 =>
 (Ld t3_759 w_796 fun t32_797 =>
 t32_797 = t32_791) ∧
 (Ld t34_793 w_796 fun t35_798 =>
 t35_798 = t35_794) ∧
 Ef PP (Instr.mapUpdate Ty.map_string_sl_string t35_794 t30_788 t38_795) w_796 fun _ w_799 =>
 I_780 [] w_799 ∧ m_781 [] w_799 < m_781 [] w_783) (
 Al Ty.functree_node_p_tree_node_p_tree_node #[.nilFunc] w_785 fun t6_800 w_801 =>
 St PP 1 t6_800 (.func (.func Fn.tree_Tree_Clone_1) #[] #[t6_800, t3_759]) w_801 fun w_802 =>
 Dr w_802 fun w_803 =>
 Ld t3_759 w_803 fun t40_804 =>
 Ld t6_800 w_803 fun t41_805 =>
 Nc a0 fun t43_806 =>
 Fa 0 t43_806 fun t44_807 =>
 Ld t44_807 w_803 fun t45_808 =>
 CaV PP t41_805 #[t45_808, (.pointer none)] w_803 fun t46_809 w_810 =>
 (Ld t3_759 w_810 fun t40_811 =>
 t40_811 = t40_804) ∧
 Nc t40_804 fun t47_812 =>
 Fa 0 t47_812 fun t48_813 =>
 St PP 1 t48_813 t46_809 w_810 fun w_814 =>
 Ld t3_759 w_814 fun t49_815 =>
 R t49_815 w_814)) ∧ (MkM w_760 fun t19_816 w_817 =>
 (Ld t13_4 w_817 fun t14_818 =>
 t14_818 = t14_5) ∧
 (Ld t17_7 w_817 fun t18_819 =>
 t18_819 = t18_8) ∧
 MkM w_817 fun t9_820 w_821 =>
 (Ld t13_4 w_821 fun t14_822 =>
 t14_822 = t14_5) ∧
 (Ld t17_7 w_821 fun t18_823 =>
 t18_823 = t18_8) ∧
 Bd #[.pointer none, .map none, .map none, .int .i64 0, .int .i64 0, .map none] [(0, 1), (1, 1), (2, 1), (3, 1), (4, 1), (5, 1)] [(1, t9_820), (2, t10_439), (3, t14_5), (4, t18_8), (5, t19_816)] fun t20_824 =>
 Al Ty.tree_Tree (t20_824 : Value).cells w_821 fun t21_825 w_826 =>
 St PP 1 t3_759 t21_825 w_826 fun w_827 =>
 Nc a0 fun t23_828 =>
 Fa 2 t23_828 fun t24_829 =>
 Ld t24_829 w_827 fun t25_830 =>
 Ef PP (Instr.range Ty.map_string_sl_string t25_830) w_827 fun t26_831 w_832 =>
 ∃ (I_833 : List Value → World → Prop) (m_834 : List Value → World → Nat), I_833 [] w_832 ∧ ∀ (u_835 : Env) (w_836 : World), I_833 [] w_836 →
 Ef PP (Instr.next t26_831 false Ty.t) w_836 fun t27_837 w_838 =>
 Ex t27_837 0 fun t28_839 =>
 Cnd t28_839 (
 Rd PP (Instr.entry t26_831) w_838 fun t29_840 =>
 Ex t29_840 0 fun t30_841 =>
 Ex t29_840 1 fun t31_842 =>
 Dr w_838 fun w_843 =>
 Ld t3_759 w_843 fun t32_844 =>
 Nc t32_844 fun t33_845 =>
 Fa 2 t33_845 fun t34_846 =>
 Ld t34_846 w_843 fun t35_847 =>
 Ca PP Fn.slices_Clone_sl_string_string #[t31_842] w_843 fun t38_848 w_849 =>
 (Ld t3_759 w_849 fun t32_850 =>
 t32_850 = t32_844) ∧
 (Ld t34_846 w_849 fun t35_851 =>
 t35_851 = t35_847) ∧
 Ef PP (Instr.mapUpdate Ty.map_string_sl_string t35_847 t30_841 t38_848) w_849 fun _ w_852 =>
 I_833 [] w_852 ∧ m_834 [] w_852 < m_834 [] w_836) (
 Al Ty.functree_node_p_tree_node_p_tree_node #[.nilFunc] w_838 fun t6_853 w_854 =>
 St PP 1 t6_853 (.func (.func Fn.tree_Tree_Clone_1) #[] #[t6_853, t3_759]) w_854 fun w_855 =>
 Dr w_855 fun w_856 =>
 Ld t3_759 w_856 fun t40_857 =>
 Ld t6_853 w_856 fun t41_858 =>
 Nc a0 fun t43_859 =>
 Fa 0 t43_859 fun t44_860 =>
 Ld t44_860 w_856 fun t45_861 =>
 CaV PP t41_858 #[t45_861, (.pointer none)] w_856 fun t46_862 w_863 =>
 (Ld t3_759 w_863 fun t40_864 =>
 t40_864 = t40_857) ∧
 Nc t40_857 fun t47_865 =>
 Fa 0 t47_865 fun t48_866 =>
 St PP 1 t48_866 t46_862 w_863 fun w_867 =>
 Ld t3_759 w_867 fun t49_868 =>
 R t49_868 w_867)) ∧ True) ∧ True) ∧ (MkM w_2 fun t19_869 w_870 =>
 (Ld t13_4 w_870 fun t14_871 =>
 t14_871 = t14_5) ∧
 (Ld t17_7 w_870 fun t18_872 =>
 t18_872 = t18_8) ∧
 (MkM w_870 fun t9_873 w_874 =>
 (Ld t13_4 w_874 fun t14_875 =>
 t14_875 = t14_5) ∧
 (Ld t17_7 w_874 fun t18_876 =>
 t18_876 = t18_8) ∧
 (MkM w_874 fun t10_877 w_878 =>
 (Ld t13_4 w_878 fun t14_879 =>
 t14_879 = t14_5) ∧
 (Ld t17_7 w_878 fun t18_880 =>
 t18_880 = t18_8) ∧
 Bd #[.pointer none, .map none, .map none, .int .i64 0, .int .i64 0, .map none] [(0, 1), (1, 1), (2, 1), (3, 1), (4, 1), (5, 1)] [(1, t9_873), (2, t10_877), (3, t14_5), (4, t18_8), (5, t19_869)] fun t20_881 =>
 (Al Ty.tree_Tree (t20_881 : Value).cells w_878 fun t21_882 w_883 =>
 Al Ty.p_tree_Tree #[.pointer none] w_883 fun t3_884 w_885 =>
 (Ld t13_4 w_885 fun t14_886 =>
 t14_886 = t14_5) ∧
 (Ld t17_7 w_885 fun t18_887 =>
 t18_887 = t18_8) ∧
 St PP 1 t3_884 t21_882 w_885 fun w_888 =>
 Nc a0 fun t23_889 =>
 Fa 2 t23_889 fun t24_890 =>
 Ld t24_890 w_888 fun t25_891 =>
 Ef PP (Instr.range Ty.map_string_sl_string t25_891) w_888 fun t26_892 w_893 =>
 ∃ (I_894 : List Value → World → Prop) (m_895 : List Value → World → Nat), I_894 [] w_893 ∧ ∀ (u_896 : Env) (w_897 : World), I_894 [] w_897 →
 Ef PP (Instr.next t26_892 false Ty.t) w_897 fun t27_898 w_899 =>
 Ex t27_898 0 fun t28_900 =>
 Cnd t28_900 (
 Rd PP (Instr.entry t26_892) w_899 fun t29_901 =>
 Ex t29_901 0 fun t30_902 =>
 Ex t29_901 1 fun t31_903 =>
 Dr w_899 fun w_904 =>
 Ld t3_884 w_904 fun t32_905 =>
 Nc t32_905 fun t33_906 =>
 Fa 2 t33_906 fun t34_907 =>
 Ld t34_907 w_904 fun t35_908 =>
 Ca PP Fn.slices_Clone_sl_string_string #[t31_903] w_904 fun t38_909 w_910 =>
 (Ld t3_884 w_910 fun t32_911 =>
 t32_911 = t32_905) ∧
 (Ld t34_907 w_910 fun t35_912 =>
 t35_912 = t35_908) ∧
 Ef PP (Instr.mapUpdate Ty.map_string_sl_string t35_908 t30_902 t38_909) w_910 fun _ w_913 =>
 I_894 [] w_913 ∧ m_895 [] w_913 < m_895 [] w_897) (
 Al Ty.functree_node_p_tree_node_p_tree_node #[.nilFunc] w_899 fun t6_914 w_915 =>
 St PP 1 t6_914 (.func (.func Fn.tree_Tree_Clone_1) #[] #[t6_914, t3_884]) w_915 fun w_916 =>
 Dr w_916 fun w_917 =>
 Ld t3_884 w_917 fun t40_918 =>
 Ld t6_914 w_917 fun t41_919 =>
 Nc a0 fun t43_920 =>
 Fa 0 t43_920 fun t44_921 =>
 Ld t44_921 w_917 fun t45_922 =>
 CaV PP t41_919 #[t45_922, (.pointer none)] w_917 fun t46_923 w_924 =>
 (Ld t3_884 w_924 fun t40_925 =>
 t40_925 = t40_918) ∧
 Nc t40_918 fun t47_926 =>
 Fa 0 t47_926 fun t48_927 =>
 St PP 1 t48_927 t46_923 w_924 fun w_928 =>
 Ld t3_884 w_928 fun t49_929 =>
 R t49_929 w_928)) ∧ (Al Ty.p_tree_Tree #[.pointer none] w_878 fun t3_930 w_931 =>
 (Ld t13_4 w_931 fun t14_932 =>
 t14_932 = t14_5) ∧
 (Ld t17_7 w_931 fun t18_933 =>
 t18_933 = t18_8) ∧
 Al Ty.tree_Tree (t20_881 : Value).cells w_931 fun t21_934 w_935 =>
 St PP 1 t3_930 t21_934 w_935 fun w_936 =>
 Nc a0 fun t23_937 =>
 Fa 2 t23_937 fun t24_938 =>
 Ld t24_938 w_936 fun t25_939 =>
 Ef PP (Instr.range Ty.map_string_sl_string t25_939) w_936 fun t26_940 w_941 =>
 ∃ (I_942 : List Value → World → Prop) (m_943 : List Value → World → Nat), I_942 [] w_941 ∧ ∀ (u_944 : Env) (w_945 : World), I_942 [] w_945 →
 Ef PP (Instr.next t26_940 false Ty.t) w_945 fun t27_946 w_947 =>
 Ex t27_946 0 fun t28_948 =>
 Cnd t28_948 (
 Rd PP (Instr.entry t26_940) w_947 fun t29_949 =>
 Ex t29_949 0 fun t30_950 =>
 Ex t29_949 1 fun t31_951 =>
 Dr w_947 fun w_952 =>
 Ld t3_930 w_952 fun t32_953 =>
 Nc t32_953 fun t33_954 =>
 Fa 2 t33_954 fun t34_955 =>
 Ld t34_955 w_952 fun t35_956 =>
 Ca PP Fn.slices_Clone_sl_string_string #[t31_951] w_952 fun t38_957 w_958 =>
 (Ld t3_930 w_958 fun t32_959 =>
 t32_959 = t32_953) ∧
 (Ld t34_955 w_958 fun t35_960 =>
 t35_960 = t35_956) ∧
 Ef PP (Instr.mapUpdate Ty.map_string_sl_string t35_956 t30_950 t38_957) w_958 fun _ w_961 =>
 I_942 [] w_961 ∧ m_943 [] w_961 < m_943 [] w_945) (
 Al Ty.functree_node_p_tree_node_p_tree_node #[.nilFunc] w_947 fun t6_962 w_963 =>
 St PP 1 t6_962 (.func (.func Fn.tree_Tree_Clone_1) #[] #[t6_962, t3_930]) w_963 fun w_964 =>
 Dr w_964 fun w_965 =>
 Ld t3_930 w_965 fun t40_966 =>
 Ld t6_962 w_965 fun t41_967 =>
 Nc a0 fun t43_968 =>
 Fa 0 t43_968 fun t44_969 =>
 Ld t44_969 w_965 fun t45_970 =>
 CaV PP t41_967 #[t45_970, (.pointer none)] w_965 fun t46_971 w_972 =>
 (Ld t3_930 w_972 fun t40_973 =>
 t40_973 = t40_966) ∧
 Nc t40_966 fun t47_974 =>
 Fa 0 t47_974 fun t48_975 =>
 St PP 1 t48_975 t46_971 w_972 fun w_976 =>
 Ld t3_930 w_976 fun t49_977 =>
 R t49_977 w_976)) ∧ True) ∧ (Al Ty.p_tree_Tree #[.pointer none] w_874 fun t3_978 w_979 =>
 (Ld t13_4 w_979 fun t14_980 =>
 t14_980 = t14_5) ∧
 (Ld t17_7 w_979 fun t18_981 =>
 t18_981 = t18_8) ∧
 MkM w_979 fun t10_982 w_983 =>
 (Ld t13_4 w_983 fun t14_984 =>
 t14_984 = t14_5) ∧
 (Ld t17_7 w_983 fun t18_985 =>
 t18_985 = t18_8) ∧
 Bd #[.pointer none, .map none, .map none, .int .i64 0, .int .i64 0, .map none] [(0, 1), (1, 1), (2, 1), (3, 1), (4, 1), (5, 1)] [(1, t9_873), (2, t10_982), (3, t14_5), (4, t18_8), (5, t19_869)] fun t20_986 =>
 Al Ty.tree_Tree (t20_986 : Value).cells w_983 fun t21_987 w_988 =>
 St PP 1 t3_978 t21_987 w_988 fun w_989 =>
 Nc a0 fun t23_990 =>
 Fa 2 t23_990 fun t24_991 =>
 Ld t24_991 w_989 fun t25_992 =>
 Ef PP (Instr.range Ty.map_string_sl_string t25_992) w_989 fun t26_993 w_994 =>
 ∃ (I_995 : List Value → World → Prop) (m_996 : List Value → World → Nat), I_995 [] w_994 ∧ ∀ (u_997 : Env) (w_998 : World), I_995 [] w_998 →
 Ef PP (Instr.next t26_993 false Ty.t) w_998 fun t27_999 w_1000 =>
 Ex t27_999 0 fun t28_1001 =>
 Cnd t28_1001 (
 Rd PP (Instr.entry t26_993) w_1000 fun t29_1002 =>
 Ex t29_1002 0 fun t30_1003 =>
 Ex t29_1002 1 fun t31_1004 =>
 Dr w_1000 fun w_1005 =>
 Ld t3_978 w_1005 fun t32_1006 =>
 Nc t32_1006 fun t33_1007 =>
 Fa 2 t33_1007 fun t34_1008 =>
 Ld t34_1008 w_1005 fun t35_1009 =>
 Ca PP Fn.slices_Clone_sl_string_string #[t31_1004] w_1005 fun t38_1010 w_1011 =>
 (Ld t3_978 w_1011 fun t32_1012 =>
 t32_1012 = t32_1006) ∧
 (Ld t34_1008 w_1011 fun t35_1013 =>
 t35_1013 = t35_1009) ∧
 Ef PP (Instr.mapUpdate Ty.map_string_sl_string t35_1009 t30_1003 t38_1010) w_1011 fun _ w_1014 =>
 I_995 [] w_1014 ∧ m_996 [] w_1014 < m_996 [] w_998) (
 Al Ty.functree_node_p_tree_node_p_tree_node #[.nilFunc] w_1000 fun t6_1015 w_1016 =>
 St PP 1 t6_1015 (.func (.func Fn.tree_Tree_Clone_1) #[] #[t6_1015, t3_978]) w_1016 fun w_1017 =>
 Dr w_1017 fun w_1018 =>
 Ld t3_978 w_1018 fun t40_1019 =>
 Ld t6_1015 w_1018 fun t41_1020 =>
 Nc a0 fun t43_1021 =>
 Fa 0 t43_1021 fun t44_1022 =>
 Ld t44_1022 w_1018 fun t45_1023 =>
 CaV PP t41_1020 #[t45_1023, (.pointer none)] w_1018 fun t46_1024 w_1025 =>
 (Ld t3_978 w_1025 fun t40_1026 =>
 t40_1026 = t40_1019) ∧
 Nc t40_1019 fun t47_1027 =>
 Fa 0 t47_1027 fun t48_1028 =>
 St PP 1 t48_1028 t46_1024 w_1025 fun w_1029 =>
 Ld t3_978 w_1029 fun t49_1030 =>
 R t49_1030 w_1029)) ∧ True) ∧ (MkM w_870 fun t10_1031 w_1032 =>
 (Ld t13_4 w_1032 fun t14_1033 =>
 t14_1033 = t14_5) ∧
 (Ld t17_7 w_1032 fun t18_1034 =>
 t18_1034 = t18_8) ∧
 (MkM w_1032 fun t9_1035 w_1036 =>
 (Ld t13_4 w_1036 fun t14_1037 =>
 t14_1037 = t14_5) ∧
 (Ld t17_7 w_1036 fun t18_1038 =>
 t18_1038 = t18_8) ∧
 Bd #[.pointer none, .map none, .map none, .int .i64 0, .int .i64 0, .map none] [(0, 1), (1, 1), (2, 1), (3, 1), (4, 1), (5, 1)] [(1, t9_1035), (2, t10_1031), (3, t14_5), (4, t18_8), (5, t19_869)] fun t20_1039 =>
 (Al Ty.tree_Tree (t20_1039 : Value).cells w_1036 fun t21_1040 w_1041 =>
 Al Ty.p_tree_Tree #[.pointer none] w_1041 fun t3_1042 w_1043 =>
 (Ld t13_4 w_1043 fun t14_1044 =>
 t14_1044 = t14_5) ∧
 (Ld t17_7 w_1043 fun t18_1045 =>
 t18_1045 = t18_8) ∧
 St PP 1 t3_1042 t21_1040 w_1043 fun w_1046 =>
 Nc a0 fun t23_1047 =>
 Fa 2 t23_1047 fun t24_1048 =>
 Ld t24_1048 w_1046 fun t25_1049 =>
 Ef PP (Instr.range Ty.map_string_sl_string t25_1049) w_1046 fun t26_1050 w_1051 =>
 ∃ (I_1052 : List Value → World → Prop) (m_1053 : List Value → World → Nat), I_1052 [] w_1051 ∧ ∀ (u_1054 : Env) (w_1055 : World), I_1052 [] w_1055 →
 Ef PP (Instr.next t26_1050 false Ty.t) w_1055 fun t27_1056 w_1057 =>
 Ex t27_1056 0 fun t28_1058 =>
 Cnd t28_1058 (
 Rd PP (Instr.entry t26_1050) w_1057 fun t29_1059 =>
 Ex t29_1059 0 fun t30_1060 =>
 Ex t29_1059 1 fun t31_1061 =>
 Dr w_1057 fun w_1062 =>
 Ld t3_1042 w_1062 fun t32_1063 =>
 Nc t32_1063 fun t33_1064 =>
 Fa 2 t33_1064 fun t34_1065 =>
 Ld t34_1065 w_1062 fun t35_1066 =>
 Ca PP Fn.slices_Clone_sl_string_string #[t31_1061] w_1062 fun t38_1067 w_1068 =>
 (Ld t3_1042 w_1068 fun t32_1069 =>
 t32_1069 = t32_1063) ∧
 (Ld t34_1065 w_1068 fun t35_1070 =>
 t35_1070 = t35_1066) ∧
 Ef PP (Instr.mapUpdate Ty.map_string_sl_string t35_1066 t30_1060 t38_1067) w_1068 fun _ w_1071 =>
 I_1052 [] w_1071 ∧ m_1053 [] w_1071 < m_1053 [] w_1055) (
 Al Ty.functree_node_p_tree_node_p_tree_node #[.nilFunc] w_1057 fun t6_1072 w_1073 =>
 St PP 1 t6_1072 (.func (.func Fn.tree_Tree_Clone_1) #[] #[t6_1072, t3_1042]) w_1073 fun w_1074 =>
 Dr w_1074 fun w_1075 =>
 Ld t3_1042 w_1075 fun t40_1076 =>
 Ld t6_1072 w_1075 fun t41_1077 =>
 Nc a0 fun t43_1078 =>
 Fa 0 t43_1078 fun t44_1079 =>
 Ld t44_1079 w_1075 fun t45_1080 =>
 CaV PP t41_1077 #[t45_1080, (.pointer none)] w_1075 fun t46_1081 w_1082 =>
 (Ld t3_1042 w_1082 fun t40_1083 =>
 t40_1083 = t40_1076) ∧
 Nc t40_1076 fun t47_1084 =>
 Fa 0 t47_1084 fun t48_1085 =>
 St PP 1 t48_1085 t46_1081 w_1082 fun w_1086 =>
 Ld t3_1042 w_1086 fun t49_1087 =>
 R t49_1087 w_1086)) ∧ (Al Ty.p_tree_Tree #[.pointer none] w_1036 fun t3_1088 w_1089 =>
 (Ld t13_4 w_1089 fun t14_1090 =>
 t14_1090 = t14_5) ∧
 (Ld t17_7 w_1089 fun t18_1091 =>
 t18_1091 = t18_8) ∧
 Al Ty.tree_Tree (t20_1039 : Value).cells w_1089 fun t21_1092 w_1093 =>
 St PP 1 t3_1088 t21_1092 w_1093 fun w_1094 =>
 Nc a0 fun t23_1095 =>
 Fa 2 t23_1095 fun t24_1096 =>
 Ld t24_1096 w_1094 fun t25_1097 =>
 Ef PP (Instr.range Ty.map_string_sl_string t25_1097) w_1094 fun t26_1098 w_1099 =>
 ∃ (I_1100 : List Value → World → Prop) (m_1101 : List Value → World → Nat), I_1100 [] w_1099 ∧ ∀ (u_1102 : Env) (w_1103 : World), I_1100 [] w_1103 →
 Ef PP (Instr.next t26_1098 false Ty.t) w_1103 fun t27_1104 w_1105 =>
 Ex t27_1104 0 fun t28_1106 =>
 Cnd t28_1106 (
 Rd PP (Instr.entry t26_1098) w_1105 fun t29_1107 =>
 Ex t29_1107 0 fun t30_1108 =>
 Ex t29_1107 1 fun t31_1109 =>
 Dr w_1105 fun w_1110 =>
 Ld t3_1088 w_1110 fun t32_1111 =>
 Nc t32_1111 fun t33_1112 =>
 Fa 2 t33_1112 fun t34_1113 =>
 Ld t34_1113 w_1110 fun t35_1114 =>
 Ca PP Fn.slices_Clone_sl_string_string #[t31_1109] w_1110 fun t38_1115 w_1116 =>
 (Ld t3_1088 w_1116 fun t32_1117 =>
 t32_1117 = t32_1111) ∧
 (Ld t34_1113 w_1116 fun t35_1118 =>
 t35_1118 = t35_1114) ∧
 Ef PP (Instr.mapUpdate Ty.map_string_sl_string t35_1114 t30_1108 t38_1115) w_1116 fun _ w_1119 =>
 I_1100 [] w_1119 ∧ m_1101 [] w_1119 < m_1101 [] w_1103) (
 Al Ty.functree_node_p_tree_node_p_tree_node #[.nilFunc] w_1105 fun t6_1120 w_1121 =>
 St PP 1 t6_1120 (.func (.func Fn.tree_Tree_Clone_1) #[] #[t6_1120, t3_1088]) w_1121 fun w_1122 =>
 Dr w_1122 fun w_1123 =>
 Ld t3_1088 w_1123 fun t40_1124 =>
 Ld t6_1120 w_1123 fun t41_1125 =>
 Nc a0 fun t43_1126 =>
 Fa 0 t43_1126 fun t44_1127 =>
 Ld t44_1127 w_1123 fun t45_1128 =>
 CaV PP t41_1125 #[t45_1128, (.pointer none)] w_1123 fun t46_1129 w_1130 =>
 (Ld t3_1088 w_1130 fun t40_1131 =>
 t40_1131 = t40_1124) ∧
 Nc t40_1124 fun t47_1132 =>
 Fa 0 t47_1132 fun t48_1133 =>
 St PP 1 t48_1133 t46_1129 w_1130 fun w_1134 =>
 Ld t3_1088 w_1134 fun t49_1135 =>
 R t49_1135 w_1134)) ∧ True) ∧ (Al Ty.p_tree_Tree #[.pointer none] w_1032 fun t3_1136 w_1137 =>
 (Ld t13_4 w_1137 fun t14_1138 =>
 t14_1138 = t14_5) ∧
 (Ld t17_7 w_1137 fun t18_1139 =>
 t18_1139 = t18_8) ∧
 MkM w_1137 fun t9_1140 w_1141 =>
 (Ld t13_4 w_1141 fun t14_1142 =>
 t14_1142 = t14_5) ∧
 (Ld t17_7 w_1141 fun t18_1143 =>
 t18_1143 = t18_8) ∧
 Bd #[.pointer none, .map none, .map none, .int .i64 0, .int .i64 0, .map none] [(0, 1), (1, 1), (2, 1), (3, 1), (4, 1), (5, 1)] [(1, t9_1140), (2, t10_1031), (3, t14_5), (4, t18_8), (5, t19_869)] fun t20_1144 =>
 Al Ty.tree_Tree (t20_1144 : Value).cells w_1141 fun t21_1145 w_1146 =>
 St PP 1 t3_1136 t21_1145 w_1146 fun w_1147 =>
 Nc a0 fun t23_1148 =>
 Fa 2 t23_1148 fun t24_1149 =>
 Ld t24_1149 w_1147 fun t25_1150 =>
 Ef PP (Instr.range Ty.map_string_sl_string t25_1150) w_1147 fun t26_1151 w_1152 =>
 ∃ (I_1153 : List Value → World → Prop) (m_1154 : List Value → World → Nat), I_1153 [] w_1152 ∧ ∀ (u_1155 : Env) (w_1156 : World), I_1153 [] w_1156 →
 Ef PP (Instr.next t26_1151 false Ty.t) w_1156 fun t27_1157 w_1158 =>
 Ex t27_1157 0 fun t28_1159 =>
 Cnd t28_1159 (
 Rd PP (Instr.entry t26_1151) w_1158 fun t29_1160 =>
 Ex t29_1160 0 fun t30_1161 =>
 Ex t29_1160 1 fun t31_1162 =>
 Dr w_1158 fun w_1163 =>
 Ld t3_1136 w_1163 fun t32_1164 =>
 Nc t32_1164 fun t33_1165 =>
 Fa 2 t33_1165 fun t34_1166 =>
 Ld t34_1166 w_1163 fun t35_1167 =>
 Ca PP Fn.slices_Clone_sl_string_string #[t31_1162] w_1163 fun t38_1168 w_1169 =>
 (Ld t3_1136 w_1169 fun t32_1170 =>
 t32_1170 = t32_1164) ∧
 (Ld t34_1166 w_1169 fun t35_1171 =>
 t35_1171 = t35_1167) ∧
 Ef PP (Instr.mapUpdate Ty.map_string_sl_string t35_1167 t30_1161 t38_1168) w_1169 fun _ w_1172 =>
 I_1153 [] w_1172 ∧ m_1154 [] w_1172 < m_1154 [] w_1156) (
 Al Ty.functree_node_p_tree_node_p_tree_node #[.nilFunc] w_1158 fun t6_1173 w_1174 =>
 St PP 1 t6_1173 (.func (.func Fn.tree_Tree_Clone_1) #[] #[t6_1173, t3_1136]) w_1174 fun w_1175 =>
 Dr w_1175 fun w_1176 =>
 Ld t3_1136 w_1176 fun t40_1177 =>
 Ld t6_1173 w_1176 fun t41_1178 =>
 Nc a0 fun t43_1179 =>
 Fa 0 t43_1179 fun t44_1180 =>
 Ld t44_1180 w_1176 fun t45_1181 =>
 CaV PP t41_1178 #[t45_1181, (.pointer none)] w_1176 fun t46_1182 w_1183 =>
 (Ld t3_1136 w_1183 fun t40_1184 =>
 t40_1184 = t40_1177) ∧
 Nc t40_1177 fun t47_1185 =>
 Fa 0 t47_1185 fun t48_1186 =>
 St PP 1 t48_1186 t46_1182 w_1183 fun w_1187 =>
 Ld t3_1136 w_1187 fun t49_1188 =>
 R t49_1188 w_1187)) ∧ True) ∧ (Al Ty.p_tree_Tree #[.pointer none] w_870 fun t3_1189 w_1190 =>
 (Ld t13_4 w_1190 fun t14_1191 =>
 t14_1191 = t14_5) ∧
 (Ld t17_7 w_1190 fun t18_1192 =>
 t18_1192 = t18_8) ∧
 (MkM w_1190 fun t9_1193 w_1194 =>
 (Ld t13_4 w_1194 fun t14_1195 =>
 t14_1195 = t14_5) ∧
 (Ld t17_7 w_1194 fun t18_1196 =>
 t18_1196 = t18_8) ∧
 MkM w_1194 fun t10_1197 w_1198 =>
 (Ld t13_4 w_1198 fun t14_1199 =>
 t14_1199 = t14_5) ∧
 (Ld t17_7 w_1198 fun t18_1200 =>
 t18_1200 = t18_8) ∧
 Bd #[.pointer none, .map none, .map none, .int .i64 0, .int .i64 0, .map none] [(0, 1), (1, 1), (2, 1), (3, 1), (4, 1), (5, 1)] [(1, t9_1193), (2, t10_1197), (3, t14_5), (4, t18_8), (5, t19_869)] fun t20_1201 =>
 Al Ty.tree_Tree (t20_1201 : Value).cells w_1198 fun t21_1202 w_1203 =>
 St PP 1 t3_1189 t21_1202 w_1203 fun w_1204 =>
 Nc a0 fun t23_1205 =>
 Fa 2 t23_1205 fun t24_1206 =>
 Ld t24_1206 w_1204 fun t25_1207 =>
 Ef PP (Instr.range Ty.map_string_sl_string t25_1207) w_1204 fun t26_1208 w_1209 =>
 ∃ (I_1210 : List Value → World → Prop) (m_1211 : List Value → World → Nat), I_1210 [] w_1209 ∧ ∀ (u_1212 : Env) (w_1213 : World), I_1210 [] w_1213 →
 Ef PP (Instr.next t26_1208 false Ty.t) w_1213 fun t27_1214 w_1215 =>
 Ex t27_1214 0 fun t28_1216 =>
 Cnd t28_1216 (
 Rd PP (Instr.entry t26_1208) w_1215 fun t29_1217 =>
 Ex t29_1217 0 fun t30_1218 =>
 Ex t29_1217 1 fun t31_1219 =>
 Dr w_1215 fun w_1220 =>
 Ld t3_1189 w_1220 fun t32_1221 =>
 Nc t32_1221 fun t33_1222 =>
 Fa 2 t33_1222 fun t34_1223 =>
 Ld t34_1223 w_1220 fun t35_1224 =>
 Ca PP Fn.slices_Clone_sl_string_string #[t31_1219] w_1220 fun t38_1225 w_1226 =>
 (Ld t3_1189 w_1226 fun t32_1227 =>
 t32_1227 = t32_1221) ∧
 (Ld t34_1223 w_1226 fun t35_1228 =>
 t35_1228 = t35_1224) ∧
 Ef PP (Instr.mapUpdate Ty.map_string_sl_string t35_1224 t30_1218 t38_1225) w_1226 fun _ w_1229 =>
 I_1210 [] w_1229 ∧ m_1211 [] w_1229 < m_1211 [] w_1213) (
 Al Ty.functree_node_p_tree_node_p_tree_node #[.nilFunc] w_1215 fun t6_1230 w_1231 =>
 St PP 1 t6_1230 (.func (.func Fn.tree_Tree_Clone_1) #[] #[t6_1230, t3_1189]) w_1231 fun w_1232 =>
 Dr w_1232 fun w_1233 =>
 Ld t3_1189 w_1233 fun t40_1234 =>
 Ld t6_1230 w_1233 fun t41_1235 =>
 Nc a0 fun t43_1236 =>
 Fa 0 t43_1236 fun t44_1237 =>
 Ld t44_1237 w_1233 fun t45_1238 =>
 CaV PP t41_1235 #[t45_1238, (.pointer none)] w_1233 fun t46_1239 w_1240 =>
 (Ld t3_1189 w_1240 fun t40_1241 =>
 t40_1241 = t40_1234) ∧
 Nc t40_1234 fun t47_1242 =>
 Fa 0 t47_1242 fun t48_1243 =>
 St PP 1 t48_1243 t46_1239 w_1240 fun w_1244 =>
 Ld t3_1189 w_1244 fun t49_1245 =>
 R t49_1245 w_1244)) ∧ (MkM w_1190 fun t10_1246 w_1247 =>
 (Ld t13_4 w_1247 fun t14_1248 =>
 t14_1248 = t14_5) ∧
 (Ld t17_7 w_1247 fun t18_1249 =>
 t18_1249 = t18_8) ∧
 MkM w_1247 fun t9_1250 w_1251 =>
 (Ld t13_4 w_1251 fun t14_1252 =>
 t14_1252 = t14_5) ∧
 (Ld t17_7 w_1251 fun t18_1253 =>
 t18_1253 = t18_8) ∧
 Bd #[.pointer none, .map none, .map none, .int .i64 0, .int .i64 0, .map none] [(0, 1), (1, 1), (2, 1), (3, 1), (4, 1), (5, 1)] [(1, t9_1250), (2, t10_1246), (3, t14_5), (4, t18_8), (5, t19_869)] fun t20_1254 =>
 Al Ty.tree_Tree (t20_1254 : Value).cells w_1251 fun t21_1255 w_1256 =>
 St PP 1 t3_1189 t21_1255 w_1256 fun w_1257 =>
 Nc a0 fun t23_1258 =>
 Fa 2 t23_1258 fun t24_1259 =>
 Ld t24_1259 w_1257 fun t25_1260 =>
 Ef PP (Instr.range Ty.map_string_sl_string t25_1260) w_1257 fun t26_1261 w_1262 =>
 ∃ (I_1263 : List Value → World → Prop) (m_1264 : List Value → World → Nat), I_1263 [] w_1262 ∧ ∀ (u_1265 : Env) (w_1266 : World), I_1263 [] w_1266 →
 Ef PP (Instr.next t26_1261 false Ty.t) w_1266 fun t27_1267 w_1268 =>
 Ex t27_1267 0 fun t28_1269 =>
 Cnd t28_1269 (
 Rd PP (Instr.entry t26_1261) w_1268 fun t29_1270 =>
 Ex t29_1270 0 fun t30_1271 =>
 Ex t29_1270 1 fun t31_1272 =>
 Dr w_1268 fun w_1273 =>
 Ld t3_1189 w_1273 fun t32_1274 =>
 Nc t32_1274 fun t33_1275 =>
 Fa 2 t33_1275 fun t34_1276 =>
 Ld t34_1276 w_1273 fun t35_1277 =>
 Ca PP Fn.slices_Clone_sl_string_string #[t31_1272] w_1273 fun t38_1278 w_1279 =>
 (Ld t3_1189 w_1279 fun t32_1280 =>
 t32_1280 = t32_1274) ∧
 (Ld t34_1276 w_1279 fun t35_1281 =>
 t35_1281 = t35_1277) ∧
 Ef PP (Instr.mapUpdate Ty.map_string_sl_string t35_1277 t30_1271 t38_1278) w_1279 fun _ w_1282 =>
 I_1263 [] w_1282 ∧ m_1264 [] w_1282 < m_1264 [] w_1266) (
 Al Ty.functree_node_p_tree_node_p_tree_node #[.nilFunc] w_1268 fun t6_1283 w_1284 =>
 St PP 1 t6_1283 (.func (.func Fn.tree_Tree_Clone_1) #[] #[t6_1283, t3_1189]) w_1284 fun w_1285 =>
 Dr w_1285 fun w_1286 =>
 Ld t3_1189 w_1286 fun t40_1287 =>
 Ld t6_1283 w_1286 fun t41_1288 =>
 Nc a0 fun t43_1289 =>
 Fa 0 t43_1289 fun t44_1290 =>
 Ld t44_1290 w_1286 fun t45_1291 =>
 CaV PP t41_1288 #[t45_1291, (.pointer none)] w_1286 fun t46_1292 w_1293 =>
 (Ld t3_1189 w_1293 fun t40_1294 =>
 t40_1294 = t40_1287) ∧
 Nc t40_1287 fun t47_1295 =>
 Fa 0 t47_1295 fun t48_1296 =>
 St PP 1 t48_1296 t46_1292 w_1293 fun w_1297 =>
 Ld t3_1189 w_1297 fun t49_1298 =>
 R t49_1298 w_1297)) ∧ True) ∧ True) ∧ (Al Ty.p_tree_Tree #[.pointer none] w_2 fun t3_1299 w_1300 =>
 (Ld t13_4 w_1300 fun t14_1301 =>
 t14_1301 = t14_5) ∧
 (Ld t17_7 w_1300 fun t18_1302 =>
 t18_1302 = t18_8) ∧
 (MkM w_1300 fun t9_1303 w_1304 =>
 (Ld t13_4 w_1304 fun t14_1305 =>
 t14_1305 = t14_5) ∧
 (Ld t17_7 w_1304 fun t18_1306 =>
 t18_1306 = t18_8) ∧
 (MkM w_1304 fun t10_1307 w_1308 =>
 (Ld t13_4 w_1308 fun t14_1309 =>
 t14_1309 = t14_5) ∧
 (Ld t17_7 w_1308 fun t18_1310 =>
 t18_1310 = t18_8) ∧
 MkM w_1308 fun t19_1311 w_1312 =>
 (Ld t13_4 w_1312 fun t14_1313 =>
 t14_1313 = t14_5) ∧
 (Ld t17_7 w_1312 fun t18_1314 =>
 t18_1314 = t18_8) ∧
 Bd #[.pointer none, .map none, .map none, .int .i64 0, .int .i64 0, .map none] [(0, 1), (1, 1), (2, 1), (3, 1), (4, 1), (5, 1)] [(1, t9_1303), (2, t10_1307), (3, t14_5), (4, t18_8), (5, t19_1311)] fun t20_1315 =>
 Al Ty.tree_Tree (t20_1315 : Value).cells w_1312 fun t21_1316 w_1317 =>
 St PP 1 t3_1299 t21_1316 w_1317 fun w_1318 =>
 Nc a0 fun t23_1319 =>
 Fa 2 t23_1319 fun t24_1320 =>
 Ld t24_1320 w_1318 fun t25_1321 =>
 Ef PP (Instr.range Ty.map_string_sl_string t25_1321) w_1318 fun t26_1322 w_1323 =>
 ∃ (I_1324 : List Value → World → Prop) (m_1325 : List Value → World → Nat), I_1324 [] w_1323 ∧ ∀ (u_1326 : Env) (w_1327 : World), I_1324 [] w_1327 →
 Ef PP (Instr.next t26_1322 false Ty.t) w_1327 fun t27_1328 w_1329 =>
 Ex t27_1328 0 fun t28_1330 =>
 Cnd t28_1330 (
 Rd PP (Instr.entry t26_1322) w_1329 fun t29_1331 =>
 Ex t29_1331 0 fun t30_1332 =>
 Ex t29_1331 1 fun t31_1333 =>
 Dr w_1329 fun w_1334 =>
 Ld t3_1299 w_1334 fun t32_1335 =>
 Nc t32_1335 fun t33_1336 =>
 Fa 2 t33_1336 fun t34_1337 =>
 Ld t34_1337 w_1334 fun t35_1338 =>
 Ca PP Fn.slices_Clone_sl_string_string #[t31_1333] w_1334 fun t38_1339 w_1340 =>
 (Ld t3_1299 w_1340 fun t32_1341 =>
 t32_1341 = t32_1335) ∧
 (Ld t34_1337 w_1340 fun t35_1342 =>
 t35_1342 = t35_1338) ∧
 Ef PP (Instr.mapUpdate Ty.map_string_sl_string t35_1338 t30_1332 t38_1339) w_1340 fun _ w_1343 =>
 I_1324 [] w_1343 ∧ m_1325 [] w_1343 < m_1325 [] w_1327) (
 Al Ty.functree_node_p_tree_node_p_tree_node #[.nilFunc] w_1329 fun t6_1344 w_1345 =>
 St PP 1 t6_1344 (.func (.func Fn.tree_Tree_Clone_1) #[] #[t6_1344, t3_1299]) w_1345 fun w_1346 =>
 Dr w_1346 fun w_1347 =>
 Ld t3_1299 w_1347 fun t40_1348 =>
 Ld t6_1344 w_1347 fun t41_1349 =>
 Nc a0 fun t43_1350 =>
 Fa 0 t43_1350 fun t44_1351 =>
 Ld t44_1351 w_1347 fun t45_1352 =>
 CaV PP t41_1349 #[t45_1352, (.pointer none)] w_1347 fun t46_1353 w_1354 =>
 (Ld t3_1299 w_1354 fun t40_1355 =>
 t40_1355 = t40_1348) ∧
 Nc t40_1348 fun t47_1356 =>
 Fa 0 t47_1356 fun t48_1357 =>
 St PP 1 t48_1357 t46_1353 w_1354 fun w_1358 =>
 Ld t3_1299 w_1358 fun t49_1359 =>
 R t49_1359 w_1358)) ∧ (MkM w_1304 fun t19_1360 w_1361 =>
 (Ld t13_4 w_1361 fun t14_1362 =>
 t14_1362 = t14_5) ∧
 (Ld t17_7 w_1361 fun t18_1363 =>
 t18_1363 = t18_8) ∧
 MkM w_1361 fun t10_1364 w_1365 =>
 (Ld t13_4 w_1365 fun t14_1366 =>
 t14_1366 = t14_5) ∧
 (Ld t17_7 w_1365 fun t18_1367 =>
 t18_1367 = t18_8) ∧
 Bd #[.pointer none, .map none, .map none, .int .i64 0, .int .i64 0, .map none] [(0, 1), (1, 1), (2, 1), (3, 1), (4, 1), (5, 1)] [(1, t9_1303), (2, t10_1364), (3, t14_5), (4, t18_8), (5, t19_1360)] fun t20_1368 =>
 Al Ty.tree_Tree (t20_1368 : Value).cells w_1365 fun t21_1369 w_1370 =>
 St PP 1 t3_1299 t21_1369 w_1370 fun w_1371 =>
 Nc a0 fun t23_1372 =>
 Fa 2 t23_1372 fun t24_1373 =>
 Ld t24_1373 w_1371 fun t25_1374 =>
 Ef PP (Instr.range Ty.map_string_sl_string t25_1374) w_1371 fun t26_1375 w_1376 =>
 ∃ (I_1377 : List Value → World → Prop) (m_1378 : List Value → World → Nat), I_1377 [] w_1376 ∧ ∀ (u_1379 : Env) (w_1380 : World), I_1377 [] w_1380 →
 Ef PP (Instr.next t26_1375 false Ty.t) w_1380 fun t27_1381 w_1382 =>
 Ex t27_1381 0 fun t28_1383 =>
 Cnd t28_1383 (
 Rd PP (Instr.entry t26_1375) w_1382 fun t29_1384 =>
 Ex t29_1384 0 fun t30_1385 =>
 Ex t29_1384 1 fun t31_1386 =>
 Dr w_1382 fun w_1387 =>
 Ld t3_1299 w_1387 fun t32_1388 =>
 Nc t32_1388 fun t33_1389 =>
 Fa 2 t33_1389 fun t34_1390 =>
 Ld t34_1390 w_1387 fun t35_1391 =>
 Ca PP Fn.slices_Clone_sl_string_string #[t31_1386] w_1387 fun t38_1392 w_1393 =>
 (Ld t3_1299 w_1393 fun t32_1394 =>
 t32_1394 = t32_1388) ∧
 (Ld t34_1390 w_1393 fun t35_1395 =>
 t35_1395 = t35_1391) ∧
 Ef PP (Instr.mapUpdate Ty.map_string_sl_string t35_1391 t30_1385 t38_1392) w_1393 fun _ w_1396 =>
 I_1377 [] w_1396 ∧ m_1378 [] w_1396 < m_1378 [] w_1380) (
 Al Ty.functree_node_p_tree_node_p_tree_node #[.nilFunc] w_1382 fun t6_1397 w_1398 =>
 St PP 1 t6_1397 (.func (.func Fn.tree_Tree_Clone_1) #[] #[t6_1397, t3_1299]) w_1398 fun w_1399 =>
 Dr w_1399 fun w_1400 =>
 Ld t3_1299 w_1400 fun t40_1401 =>
 Ld t6_1397 w_1400 fun t41_1402 =>
 Nc a0 fun t43_1403 =>
 Fa 0 t43_1403 fun t44_1404 =>
 Ld t44_1404 w_1400 fun t45_1405 =>
 CaV PP t41_1402 #[t45_1405, (.pointer none)] w_1400 fun t46_1406 w_1407 =>
 (Ld t3_1299 w_1407 fun t40_1408 =>
 t40_1408 = t40_1401) ∧
 Nc t40_1401 fun t47_1409 =>
 Fa 0 t47_1409 fun t48_1410 =>
 St PP 1 t48_1410 t46_1406 w_1407 fun w_1411 =>
 Ld t3_1299 w_1411 fun t49_1412 =>
 R t49_1412 w_1411)) ∧ True) ∧ (MkM w_1300 fun t10_1413 w_1414 =>
 (Ld t13_4 w_1414 fun t14_1415 =>
 t14_1415 = t14_5) ∧
 (Ld t17_7 w_1414 fun t18_1416 =>
 t18_1416 = t18_8) ∧
 (MkM w_1414 fun t9_1417 w_1418 =>
 (Ld t13_4 w_1418 fun t14_1419 =>
 t14_1419 = t14_5) ∧
 (Ld t17_7 w_1418 fun t18_1420 =>
 t18_1420 = t18_8) ∧
 MkM w_1418 fun t19_1421 w_1422 =>
 (Ld t13_4 w_1422 fun t14_1423 =>
 t14_1423 = t14_5) ∧
 (Ld t17_7 w_1422 fun t18_1424 =>
 t18_1424 = t18_8) ∧
 Bd #[.pointer none, .map none, .map none, .int .i64 0, .int .i64 0, .map none] [(0, 1), (1, 1), (2, 1), (3, 1), (4, 1), (5, 1)] [(1, t9_1417), (2, t10_1413), (3, t14_5), (4, t18_8), (5, t19_1421)] fun t20_1425 =>
 Al Ty.tree_Tree (t20_1425 : Value).cells w_1422 fun t21_1426 w_1427 =>
 St PP 1 t3_1299 t21_1426 w_1427 fun w_1428 =>
 Nc a0 fun t23_1429 =>
 Fa 2 t23_1429 fun t24_1430 =>
 Ld t24_1430 w_1428 fun t25_1431 =>
 Ef PP (Instr.range Ty.map_string_sl_string t25_1431) w_1428 fun t26_1432 w_1433 =>
 ∃ (I_1434 : List Value → World → Prop) (m_1435 : List Value → World → Nat), I_1434 [] w_1433 ∧ ∀ (u_1436 : Env) (w_1437 : World), I_1434 [] w_1437 →
 Ef PP (Instr.next t26_1432 false Ty.t) w_1437 fun t27_1438 w_1439 =>
 Ex t27_1438 0 fun t28_1440 =>
 Cnd t28_1440 (
 Rd PP (Instr.entry t26_1432) w_1439 fun t29_1441 =>
 Ex t29_1441 0 fun t30_1442 =>
 Ex t29_1441 1 fun t31_1443 =>
 Dr w_1439 fun w_1444 =>
 Ld t3_1299 w_1444 fun t32_1445 =>
 Nc t32_1445 fun t33_1446 =>
 Fa 2 t33_1446 fun t34_1447 =>
 Ld t34_1447 w_1444 fun t35_1448 =>
 Ca PP Fn.slices_Clone_sl_string_string #[t31_1443] w_1444 fun t38_1449 w_1450 =>
 (Ld t3_1299 w_1450 fun t32_1451 =>
 t32_1451 = t32_1445) ∧
 (Ld t34_1447 w_1450 fun t35_1452 =>
 t35_1452 = t35_1448) ∧
 Ef PP (Instr.mapUpdate Ty.map_string_sl_string t35_1448 t30_1442 t38_1449) w_1450 fun _ w_1453 =>
 I_1434 [] w_1453 ∧ m_1435 [] w_1453 < m_1435 [] w_1437) (
 Al Ty.functree_node_p_tree_node_p_tree_node #[.nilFunc] w_1439 fun t6_1454 w_1455 =>
 St PP 1 t6_1454 (.func (.func Fn.tree_Tree_Clone_1) #[] #[t6_1454, t3_1299]) w_1455 fun w_1456 =>
 Dr w_1456 fun w_1457 =>
 Ld t3_1299 w_1457 fun t40_1458 =>
 Ld t6_1454 w_1457 fun t41_1459 =>
 Nc a0 fun t43_1460 =>
 Fa 0 t43_1460 fun t44_1461 =>
 Ld t44_1461 w_1457 fun t45_1462 =>
 CaV PP t41_1459 #[t45_1462, (.pointer none)] w_1457 fun t46_1463 w_1464 =>
 (Ld t3_1299 w_1464 fun t40_1465 =>
 t40_1465 = t40_1458) ∧
 Nc t40_1458 fun t47_1466 =>
 Fa 0 t47_1466 fun t48_1467 =>
 St PP 1 t48_1467 t46_1463 w_1464 fun w_1468 =>
 Ld t3_1299 w_1468 fun t49_1469 =>
 R t49_1469 w_1468)) ∧ (MkM w_1414 fun t19_1470 w_1471 =>
 (Ld t13_4 w_1471 fun t14_1472 =>
 t14_1472 = t14_5) ∧
 (Ld t17_7 w_1471 fun t18_1473 =>
 t18_1473 = t18_8) ∧
 MkM w_1471 fun t9_1474 w_1475 =>
 (Ld t13_4 w_1475 fun t14_1476 =>
 t14_1476 = t14_5) ∧
 (Ld t17_7 w_1475 fun t18_1477 =>
 t18_1477 = t18_8) ∧
 Bd #[.pointer none, .map none, .map none, .int .i64 0, .int .i64 0, .map none] [(0, 1), (1, 1), (2, 1), (3, 1), (4, 1), (5, 1)] [(1, t9_1474), (2, t10_1413), (3, t14_5), (4, t18_8), (5, t19_1470)] fun t20_1478 =>
 Al Ty.tree_Tree (t20_1478 : Value).cells w_1475 fun t21_1479 w_1480 =>
 St PP 1 t3_1299 t21_1479 w_1480 fun w_1481 =>
 Nc a0 fun t23_1482 =>
 Fa 2 t23_1482 fun t24_1483 =>
 Ld t24_1483 w_1481 fun t25_1484 =>
 Ef PP (Instr.range Ty.map_string_sl_string t25_1484) w_1481 fun t26_1485 w_1486 =>
 ∃ (I_1487 : List Value → World → Prop) (m_1488 : List Value → World → Nat), I_1487 [] w_1486 ∧ ∀ (u_1489 : Env) (w_1490 : World), I_1487 [] w_1490 →
 Ef PP (Instr.next t26_1485 false Ty.t) w_1490 fun t27_1491 w_1492 =>
 Ex t27_1491 0 fun t28_1493 =>
 Cnd t28_1493 (
 Rd PP (Instr.entry t26_1485) w_1492 fun t29_1494 =>
 Ex t29_1494 0 fun t30_1495 =>
 Ex t29_1494 1 fun t31_1496 =>
 Dr w_1492 fun w_1497 =>
 Ld t3_1299 w_1497 fun t32_1498 =>
 Nc t32_1498 fun t33_1499 =>
 Fa 2 t33_1499 fun t34_1500 =>
 Ld t34_1500 w_1497 fun t35_1501 =>
 Ca PP Fn.slices_Clone_sl_string_string #[t31_1496] w_1497 fun t38_1502 w_1503 =>
 (Ld t3_1299 w_1503 fun t32_1504 =>
 t32_1504 = t32_1498) ∧
 (Ld t34_1500 w_1503 fun t35_1505 =>
 t35_1505 = t35_1501) ∧
 Ef PP (Instr.mapUpdate Ty.map_string_sl_string t35_1501 t30_1495 t38_1502) w_1503 fun _ w_1506 =>
 I_1487 [] w_1506 ∧ m_1488 [] w_1506 < m_1488 [] w_1490) (
 Al Ty.functree_node_p_tree_node_p_tree_node #[.nilFunc] w_1492 fun t6_1507 w_1508 =>
 St PP 1 t6_1507 (.func (.func Fn.tree_Tree_Clone_1) #[] #[t6_1507, t3_1299]) w_1508 fun w_1509 =>
 Dr w_1509 fun w_1510 =>
 Ld t3_1299 w_1510 fun t40_1511 =>
 Ld t6_1507 w_1510 fun t41_1512 =>
 Nc a0 fun t43_1513 =>
 Fa 0 t43_1513 fun t44_1514 =>
 Ld t44_1514 w_1510 fun t45_1515 =>
 CaV PP t41_1512 #[t45_1515, (.pointer none)] w_1510 fun t46_1516 w_1517 =>
 (Ld t3_1299 w_1517 fun t40_1518 =>
 t40_1518 = t40_1511) ∧
 Nc t40_1511 fun t47_1519 =>
 Fa 0 t47_1519 fun t48_1520 =>
 St PP 1 t48_1520 t46_1516 w_1517 fun w_1521 =>
 Ld t3_1299 w_1521 fun t49_1522 =>
 R t49_1522 w_1521)) ∧ True) ∧ (MkM w_1300 fun t19_1523 w_1524 =>
 (Ld t13_4 w_1524 fun t14_1525 =>
 t14_1525 = t14_5) ∧
 (Ld t17_7 w_1524 fun t18_1526 =>
 t18_1526 = t18_8) ∧
 (MkM w_1524 fun t9_1527 w_1528 =>
 (Ld t13_4 w_1528 fun t14_1529 =>
 t14_1529 = t14_5) ∧
 (Ld t17_7 w_1528 fun t18_1530 =>
 t18_1530 = t18_8) ∧
 MkM w_1528 fun t10_1531 w_1532 =>
 (Ld t13_4 w_1532 fun t14_1533 =>
 t14_1533 = t14_5) ∧
 (Ld t17_7 w_1532 fun t18_1534 =>
 t18_1534 = t18_8) ∧
 Bd #[.pointer none, .map none, .map none, .int .i64 0, .int .i64 0, .map none] [(0, 1), (1, 1), (2, 1), (3, 1), (4, 1), (5, 1)] [(1, t9_1527), (2, t10_1531), (3, t14_5), (4, t18_8), (5, t19_1523)] fun t20_1535 =>
 Al Ty.tree_Tree (t20_1535 : Value).cells w_1532 fun t21_1536 w_1537 =>
 St PP 1 t3_1299 t21_1536 w_1537 fun w_1538 =>
 Nc a0 fun t23_1539 =>
 Fa 2 t23_1539 fun t24_1540 =>
 Ld t24_1540 w_1538 fun t25_1541 =>
 Ef PP (Instr.range Ty.map_string_sl_string t25_1541) w_1538 fun t26_1542 w_1543 =>
 ∃ (I_1544 : List Value → World → Prop) (m_1545 : List Value → World → Nat), I_1544 [] w_1543 ∧ ∀ (u_1546 : Env) (w_1547 : World), I_1544 [] w_1547 →
 Ef PP (Instr.next t26_1542 false Ty.t) w_1547 fun t27_1548 w_1549 =>
 Ex t27_1548 0 fun t28_1550 =>
 Cnd t28_1550 (
 Rd PP (Instr.entry t26_1542) w_1549 fun t29_1551 =>
 Ex t29_1551 0 fun t30_1552 =>
 Ex t29_1551 1 fun t31_1553 =>
 Dr w_1549 fun w_1554 =>
 Ld t3_1299 w_1554 fun t32_1555 =>
 Nc t32_1555 fun t33_1556 =>
 Fa 2 t33_1556 fun t34_1557 =>
 Ld t34_1557 w_1554 fun t35_1558 =>
 Ca PP Fn.slices_Clone_sl_string_string #[t31_1553] w_1554 fun t38_1559 w_1560 =>
 (Ld t3_1299 w_1560 fun t32_1561 =>
 t32_1561 = t32_1555) ∧
 (Ld t34_1557 w_1560 fun t35_1562 =>
 t35_1562 = t35_1558) ∧
 Ef PP (Instr.mapUpdate Ty.map_string_sl_string t35_1558 t30_1552 t38_1559) w_1560 fun _ w_1563 =>
 I_1544 [] w_1563 ∧ m_1545 [] w_1563 < m_1545 [] w_1547) (
 Al Ty.functree_node_p_tree_node_p_tree_node #[.nilFunc] w_1549 fun t6_1564 w_1565 =>
 St PP 1 t6_1564 (.func (.func Fn.tree_Tree_Clone_1) #[] #[t6_1564, t3_1299]) w_1565 fun w_1566 =>
 Dr w_1566 fun w_1567 =>
 Ld t3_1299 w_1567 fun t40_1568 =>
 Ld t6_1564 w_1567 fun t41_1569 =>
 Nc a0 fun t43_1570 =>
 Fa 0 t43_1570 fun t44_1571 =>
 Ld t44_1571 w_1567 fun t45_1572 =>
 CaV PP t41_1569 #[t45_1572, (.pointer none)] w_1567 fun t46_1573 w_1574 =>
 (Ld t3_1299 w_1574 fun t40_1575 =>
 t40_1575 = t40_1568) ∧
 Nc t40_1568 fun t47_1576 =>
 Fa 0 t47_1576 fun t48_1577 =>
 St PP 1 t48_1577 t46_1573 w_1574 fun w_1578 =>
 Ld t3_1299 w_1578 fun t49_1579 =>
 R t49_1579 w_1578)) ∧ (MkM w_1524 fun t10_1580 w_1581 =>
 (Ld t13_4 w_1581 fun t14_1582 =>
 t14_1582 = t14_5) ∧
 (Ld t17_7 w_1581 fun t18_1583 =>
 t18_1583 = t18_8) ∧
 MkM w_1581 fun t9_1584 w_1585 =>
 (Ld t13_4 w_1585 fun t14_1586 =>
 t14_1586 = t14_5) ∧
 (Ld t17_7 w_1585 fun t18_1587 =>
 t18_1587 = t18_8) ∧
 Bd #[.pointer none, .map none, .map none, .int .i64 0, .int .i64 0, .map none] [(0, 1), (1, 1), (2, 1), (3, 1), (4, 1), (5, 1)] [(1, t9_1584), (2, t10_1580), (3, t14_5), (4, t18_8), (5, t19_1523)] fun t20_1588 =>
 Al Ty.tree_Tree (t20_1588 : Value).cells w_1585 fun t21_1589 w_1590 =>
 St PP 1 t3_1299 t21_1589 w_1590 fun w_1591 =>
 Nc a0 fun t23_1592 =>
 Fa 2 t23_1592 fun t24_1593 =>
 Ld t24_1593 w_1591 fun t25_1594 =>
 Ef PP (Instr.range Ty.map_string_sl_string t25_1594) w_1591 fun t26_1595 w_1596 =>
 ∃ (I_1597 : List Value → World → Prop) (m_1598 : List Value → World → Nat), I_1597 [] w_1596 ∧ ∀ (u_1599 : Env) (w_1600 : World), I_1597 [] w_1600 →
 Ef PP (Instr.next t26_1595 false Ty.t) w_1600 fun t27_1601 w_1602 =>
 Ex t27_1601 0 fun t28_1603 =>
 Cnd t28_1603 (
 Rd PP (Instr.entry t26_1595) w_1602 fun t29_1604 =>
 Ex t29_1604 0 fun t30_1605 =>
 Ex t29_1604 1 fun t31_1606 =>
 Dr w_1602 fun w_1607 =>
 Ld t3_1299 w_1607 fun t32_1608 =>
 Nc t32_1608 fun t33_1609 =>
 Fa 2 t33_1609 fun t34_1610 =>
 Ld t34_1610 w_1607 fun t35_1611 =>
 Ca PP Fn.slices_Clone_sl_string_string #[t31_1606] w_1607 fun t38_1612 w_1613 =>
 (Ld t3_1299 w_1613 fun t32_1614 =>
 t32_1614 = t32_1608) ∧
 (Ld t34_1610 w_1613 fun t35_1615 =>
 t35_1615 = t35_1611) ∧
 Ef PP (Instr.mapUpdate Ty.map_string_sl_string t35_1611 t30_1605 t38_1612) w_1613 fun _ w_1616 =>
 I_1597 [] w_1616 ∧ m_1598 [] w_1616 < m_1598 [] w_1600) (
 Al Ty.functree_node_p_tree_node_p_tree_node #[.nilFunc] w_1602 fun t6_1617 w_1618 =>
 St PP 1 t6_1617 (.func (.func Fn.tree_Tree_Clone_1) #[] #[t6_1617, t3_1299]) w_1618 fun w_1619 =>
 Dr w_1619 fun w_1620 =>
 Ld t3_1299 w_1620 fun t40_1621 =>
 Ld t6_1617 w_1620 fun t41_1622 =>
 Nc a0 fun t43_1623 =>
 Fa 0 t43_1623 fun t44_1624 =>
 Ld t44_1624 w_1620 fun t45_1625 =>
 CaV PP t41_1622 #[t45_1625, (.pointer none)] w_1620 fun t46_1626 w_1627 =>
 (Ld t3_1299 w_1627 fun t40_1628 =>
 t40_1628 = t40_1621) ∧
 Nc t40_1621 fun t47_1629 =>
 Fa 0 t47_1629 fun t48_1630 =>
 St PP 1 t48_1630 t46_1626 w_1627 fun w_1631 =>
 Ld t3_1299 w_1631 fun t49_1632 =>
 R t49_1632 w_1631)) ∧ True) ∧ True) ∧ True)
def S.tree_Tree_Clone.an : Ann := (.seq .leaf (.seq (.seq .leaf (.cond (.seq .leaf .leaf) .leaf)) (.seq (.draw [[], [], [], [2], [2, 3], [2, 3, 4], [], [6], [6, 7], [6, 7, 8], [], [0, 1, 2, 3, 4, 5, 6, 7, 8, 9, 10], [0, 1, 2, 3, 4, 5, 6, 7, 8, 9, 10, 11], [], [0, 1, 2, 3, 4, 5, 6, 7, 8, 9, 10, 11, 12, 13]] (.calm 2 (.calm 3 (.calm 4 (.calm 5 (.calm 6 (.calm 7 (.calm 8 (.calm 9 (.effs 0 [5, 9] (.effs 1 [5, 9] (.effs 10 [5, 9] (.calm 11 (.effs 12 [] (.eff1 13 [5, 9] (.eff1 14 [] .done)) (.effs 13 [5, 9] (.eff1 12 [] (.eff1 14 [] .done)) .none))) (.effs 13 [5, 9] (.eff1 10 [5, 9] (.calm 11 (.eff1 12 [] (.eff1 14 [] .done)))) .none)) (.effs 10 [5, 9] (.effs 1 [5, 9] (.calm 11 (.effs 12 [] (.eff1 13 [5, 9] (.eff1 14 [] .done)) (.effs 13 [5, 9] (.eff1 12 [] (.eff1 14 [] .done)) .none))) (.effs 13 [5, 9] (.eff1 1 [5, 9] (.calm 11 (.eff1 12 [] (.eff1 14 [] .done)))) .none)) (.effs 13 [5, 9] (.effs 1 [5, 9] (.eff1 10 [5, 9] (.calm 11 (.eff1 12 [] (.eff1 14 [] .done)))) (.effs 10 [5, 9] (.eff1 1 [5, 9] (.calm 11 (.eff1 12 [] (.eff1 14 [] .done)))) .none)) .none))) (.effs 1 [5, 9] (.effs 0 [5, 9] (.effs 10 [5, 9] (.calm 11 (.effs 12 [] (.eff1 13 [5, 9] (.eff1 14 [] .done)) (.effs 13 [5, 9] (.eff1 12 [] (.eff1 14 [] .done)) .none))) (.effs 13 [5, 9] (.eff1 10 [5, 9] (.calm 11 (.eff1 12 [] (.eff1 14 [] .done)))) .none)) (.effs 10 [5, 9] (.effs 0 [5, 9] (.calm 11 (.effs 12 [] (.eff1 13 [5, 9] (.eff1 14 [] .done)) (.effs 13 [5, 9] (.eff1 12 [] (.eff1 14 [] .done)) .none))) (.effs 13 [5, 9] (.eff1 0 [5, 9] (.calm 11 (.eff1 12 [] (.eff1 14 [] .done)))) .none)) (.effs 13 [5, 9] (.effs 0 [5, 9] (.eff1 10 [5, 9] (.calm 11 (.eff1 12 [] (.eff1 14 [] .done)))) (.effs 10 [5, 9] (.eff1 0 [5, 9] (.calm 11 (.eff1 12 [] (.eff1 14 [] .done)))) .none)) .none))) (.effs 10 [5, 9] (.effs 0 [5, 9] (.effs 1 [5, 9] (.calm 11 (.effs 12 [] (.eff1 13 [5, 9] (.eff1 14 [] .done)) (.effs 13 [5, 9] (.eff1 12 [] (.eff1 14 [] .done)) .none))) (.effs 13 [5, 9] (.eff1 1 [5, 9] (.calm 11 (.eff1 12 [] (.eff1 14 [] .done)))) .none)) (.effs 1 [5, 9] (.effs 0 [5, 9] (.calm 11 (.effs 12 [] (.eff1 13 [5, 9] (.eff1 14 [] .done)) (.effs 13 [5, 9] (.eff1 12 [] (.eff1 14 [] .done)) .none))) (.effs 13 [5, 9] (.eff1 0 [5, 9] (.calm 11 (.eff1 12 [] (.eff1 14 [] .done)))) .none)) (.effs 13 [5, 9] (.effs 0 [5, 9] (.eff1 1 [5, 9] (.calm 11 (.eff1 12 [] (.eff1 14 [] .done)))) (.effs 1 [5, 9] (.eff1 0 [5, 9] (.calm 11 (.eff1 12 [] (.eff1 14 [] .done)))) .none)) .none))) (.effs 13 [5, 9] (.effs 0 [5, 9] (.effs 1 [5, 9] (.eff1 10 [5, 9] (.calm 11 (.eff1 12 [] (.eff1 14 [] .done)))) (.effs 10 [5, 9] (.eff1 1 [5, 9] (.calm 11 (.eff1 12 [] (.eff1 14 [] .done)))) .none)) (.effs 1 [5, 9] (.effs 0 [5, 9] (.eff1 10 [5, 9] (.calm 11 (.eff1 12 [] (.eff1 14 [] .done)))) (.effs 10 [5, 9] (.eff1 0 [5, 9] (.calm 11 (.eff1 12 [] (.eff1 14 [] .done)))) .none)) (.effs 10 [5, 9] (.effs 0 [5, 9] (.eff1 1 [5, 9] (.calm 11 (.eff1 12 [] (.eff1 14 [] .done)))) (.effs 1 [5, 9] (.eff1 0 [5, 9] (.calm 11 (.eff1 12 [] (.eff1 14 [] .done)))) .none)) .none))) .none))))))))))))) (.seq (.seq .leaf (.block (.loop (.seq .leaf (.seq (.cond .leaf .leaf) (.block (.seq .leaf (.draw [[], [0], [0, 1], [0, 1, 2], [], [], [5], [0, 1, 2, 3, 4, 5, 6]] (.calm 0 (.calm 1 (.calm 2 (.calm 3 (.calm 4 (.calm 5 (.eff1 6 [0, 3] (.eff1 7 [] .done))))))))))))) [] [4, 5, 27, 28, 29, 30, 31, 32, 33, 34, 35, 36, 37, 38]))) (.seq .leaf (.seq .leaf (.seq (.draw [[], [], [], [2], [2, 3], [2, 3, 4], [1, 2, 3, 4, 5], [0, 1, 2, 3, 4, 5, 6], [0, 1, 2, 3, 4, 5, 6, 7], [0, 1, 2, 3, 4, 5, 6, 7, 8]] (.calm 0 (.calm 1 (.calm 2 (.calm 3 (.calm 4 (.calm 5 (.eff1 6 [0] (.calm 7 (.calm 8 (.eff1 9 [] .done))))))))))) (.seq .leaf .leaf))))))))
theorem S.tree_Tree_Clone.eq (a0 : Value) (w : World) (R : Value → World → Prop) : S.tree_Tree_Clone a0 w R = fnC PP 50 (Tryz.f46.body.getD .skip) S.tree_Tree_Clone.an [.tmp 2] [a0] w R := by kernel_rfl
theorem S.tree_Tree_Clone.calls {a0 : Value} {w : World} {R : Value → World → Prop} (h : S.tree_Tree_Clone a0 w R) : Ca PP Fn.tree_Tree_Clone #[a0] w R :=
  fnC_calls mixed (f := Fn.tree_Tree_Clone) (an := S.tree_Tree_Clone.an) Tryz.func46 rfl (by show _ ≤ _; exact Nat.le_of_ble_eq_true rfl) (S.tree_Tree_Clone.eq a0 w R ▸ h)
/-- (*acheron/tree.Tree).Next -/
def S.tree_Tree_Next (a0 : Value) (w : World) (R : Value → World → Prop) : Prop :=
 Rd PP (eqS .eql Ty.p_tree_Tree (.tmp 3) (.const (.pointer none)) a0 (.pointer none)) w fun t4_1 =>
 Cnd t4_1 (
 R (.int .i64 0) w) (
 Nc a0 fun t6_2 =>
 Fa 3 t6_2 fun t7_3 =>
 Ld t7_3 w fun t8_4 =>
 R t8_4 w)
def S.tree_Tree_Next.an : Ann := (.seq .leaf (.seq (.seq .leaf (.cond (.seq .leaf .leaf) .leaf)) (.seq .leaf .leaf)))
theorem S.tree_Tree_Next.eq (a0 : Value) (w : World) (R : Value → World → Prop) : S.tree_Tree_Next a0 w R = fnC PP 9 (Tryz.f48.body.getD .skip) S.tree_Tree_Next.an [.tmp 2] [a0] w R := by kernel_rfl
theorem S.tree_Tree_Next.calls {a0 : Value} {w : World} {R : Value → World → Prop} (h : S.tree_Tree_Next a0 w R) : Ca PP Fn.tree_Tree_Next #[a0] w R :=
  fnC_calls mixed (f := Fn.tree_Tree_Next) (an := S.tree_Tree_Next.an) Tryz.func48 rfl (by show _ ≤ _; exact Nat.le_of_ble_eq_true rfl) (S.tree_Tree_Next.eq a0 w R ▸ h)
/-- (*acheron/tree.Tree).Read -/
def S.tree_Tree_Read (a0 a1 a2 a3 : Value) (w : World) (R : Value → World → Prop) : Prop :=
 Ca PP Fn.tree_Tree_opened #[a0, a1] w fun t16_1 w_2 =>
 Ex t16_1 0 fun t17_3 =>
 Ex t16_1 1 fun t18_4 =>
 Al Ty.tree_handle #[.pointer none, .int .i64 0, .string ⟨#[]⟩] w_2 fun t10_5 w_6 =>
 St PP 3 t10_5 t17_3 w_6 fun w_7 =>
 Bi .neq t18_4 (.int .i64 0) fun t21_8 =>
 Cnd t21_8 (
 R (.tuple #[(.string ⟨#[]⟩), t18_4]) w_7) (
 Fa 1 t10_5 fun t24_9 =>
 Ld t24_9 w_7 fun t25_10 =>
 Bi .and t25_10 (.int .i64 3) fun t26_11 =>
 Bi .eql t26_11 (.int .i64 1) fun t27_12 =>
 Cnd t27_12 (
 R (.tuple #[(.string ⟨#[]⟩), (.int .i64 20)]) w_7) (
 Fa 0 t10_5 fun t29_13 =>
 Ld t29_13 w_7 fun t30_14 =>
 Nc t30_14 fun t31_15 =>
 Fa 13 t31_15 fun t32_16 =>
 Ld t32_16 w_7 fun t33_17 =>
 Cnd t33_17 (
 R (.tuple #[(.string ⟨#[]⟩), (.int .i64 4)]) w_7) (
 Fa 0 t10_5 fun t35_18 =>
 Ld t35_18 w_7 fun t36_19 =>
 Ca PP Fn.tree_node_isDir #[t36_19] w_7 fun t37_20 w_21 =>
 Cnd t37_20 (
 R (.tuple #[(.string ⟨#[]⟩), (.int .i64 18)]) w_21) (
 ∀ J_22 : List Value → World → Prop, (∀ t38_25, ∀ w_24 : World, (∀ u_23 : Env,
 Cnd t38_25 (
 R (.tuple #[(.string ⟨#[]⟩), (.int .i64 11)]) w_24) (
 Fa 0 t10_5 fun t47_26 =>
 Ld t47_26 w_24 fun t48_27 =>
 Nc t48_27 fun t49_28 =>
 Fa 10 t49_28 fun t50_29 =>
 Ld t50_29 w_24 fun t51_30 =>
 LnL t51_30 fun t52_31 =>
 Bi .geq a2 t52_31 fun t53_32 =>
 Cnd t53_32 (
 R (.tuple #[(.string ⟨#[]⟩), (.int .i64 0)]) w_24) (
 Fa 0 t10_5 fun t54_33 =>
 Ld t54_33 w_24 fun t55_34 =>
 Nc t55_34 fun t56_35 =>
 Fa 10 t56_35 fun t57_36 =>
 Ld t57_36 w_24 fun t58_37 =>
 Sl 1 t58_37 (some a2) none fun t60_38 =>
 LnL t60_38 fun t64_39 =>
 Mn a3 t64_39 fun t65_40 =>
 Sl 1 t60_38 none (some t65_40) fun t66_41 =>
 Rd PP (convert Ty.sl_uint8 Ty.string t66_41) w_24 fun t67_42 =>
 R (.tuple #[t67_42, (.int .i64 0)]) w_24))) → J_22 [t38_25] w_24) →
 Bi .lss a2 (.int .i64 0) fun t40_43 =>
 Gd t40_43 false (fun k_44 => k_44 a3 w_21) w_21 fun t42_45 w_46 =>
 Gd t40_43 false (fun k_47 => Bi .lss t42_45 (.int .i64 0) fun t43_50 =>
 k_47 t43_50 w_46) w_46 fun t43_48 w_49 =>
 Pk t40_43 (.bool true) t43_48 fun t44_51 =>
 J_22 [t44_51] w_49))))
def S.tree_Tree_Read.an : Ann := (.seq .leaf (.seq .leaf (.seq (.block (.seq .leaf (.cond (.seq .leaf .leaf) (.seq .leaf (.cond (.seq .leaf .leaf) (.seq .leaf (.cond (.seq .leaf .leaf) (.seq .leaf (.cond (.seq .leaf .leaf) (.join .leaf [38] [39, 40, 41, 42, 43, 44] (.cond (.seq .leaf .leaf) (.seq .leaf (.cond (.seq .leaf .leaf) .leaf))))))))))))) (.seq .leaf (.seq .leaf .leaf)))))
theorem S.tree_Tree_Read.eq (a0 a1 a2 a3 : Value) (w : World) (R : Value → World → Prop) : S.tree_Tree_Read a0 a1 a2 a3 w R = fnC PP 68 (Tryz.f55.body.getD .skip) S.tree_Tree_Read.an [.tmp 8, .tmp 9] [a0, a1, a2, a3] w R := by kernel_rfl
theorem S.tree_Tree_Read.calls {a0 a1 a2 a3 : Value} {w : World} {R : Value → World → Prop} (h : S.tree_Tree_Read a0 a1 a2 a3 w R) : Ca PP Fn.tree_Tree_Read #[a0, a1, a2, a3] w R :=
  fnC_calls mixed (f := Fn.tree_Tree_Read) (an := S.tree_Tree_Read.an) Tryz.func55 rfl (by show _ ≤ _; exact Nat.le_of_ble_eq_true rfl) (S.tree_Tree_Read.eq a0 a1 a2 a3 w R ▸ h)
/-- (*acheron/tree.Tree).Open -/
def S.tree_Tree_Open (a0 a1 a2 a3 : Value) (w : World) (R : Value → World → Prop) : Prop :=
 Al Ty.api_Qid #[.int .i64 0, .int .i64 0, .int .i64 0] w fun t9_1 w_2 =>
 Rd PP (eqS .eql Ty.p_tree_Tree (.tmp 16) (.const (.pointer none)) a0 (.pointer none)) w_2 fun t17_3 =>
 Cnd t17_3 (
 Bd #[.int .i64 0, .int .i64 0, .int .i64 0] [(0, 1), (1, 1), (2, 1)] [] fun t18_4 =>
 St PP 3 t9_1 t18_4 w_2 fun w_5 =>
 LdA PP 3 t9_1 w_5 fun t9_6 =>
 R (.tuple #[(.int .i64 0), t9_6, (.int .i64 6)]) w_5) (
 Bi .andNot a3 (.int .i64 83) fun t20_7 =>
 Bi .neq t20_7 (.int .i64 0) fun t21_8 =>
 Cnd t21_8 (
 Bd #[.int .i64 0, .int .i64 0, .int .i64 0] [(0, 1), (1, 1), (2, 1)] [] fun t22_9 =>
 St PP 3 t9_1 t22_9 w_2 fun w_10 =>
 LdA PP 3 t9_1 w_10 fun t9_11 =>
 R (.tuple #[(.int .i64 0), t9_11, (.int .i64 20)]) w_10) (
 Ca PP Fn.tree_Tree_find #[a0, a2] w_2 fun t26_12 w_13 =>
 Ex t26_12 0 fun t27_14 =>
 Ex t26_12 1 fun t28_15 =>
 Bi .neq t28_15 (.int .i64 0) fun t30_16 =>
 Cnd t30_16 (
 Bd #[.int .i64 0, .int .i64 0, .int .i64 0] [(0, 1), (1, 1), (2, 1)] [] fun t31_17 =>
 St PP 3 t9_1 t31_17 w_13 fun w_18 =>
 LdA PP 3 t9_1 w_18 fun t9_19 =>
 R (.tuple #[(.int .i64 0), t9_19, t28_15]) w_18) (
 ∀ J_20 : List Value → World → Prop, (∀ t38_23, ∀ w_22 : World, (∀ u_21 : Env,
 Cnd t38_23 (
 Bd #[.int .i64 0, .int .i64 0, .int .i64 0] [(0, 1), (1, 1), (2, 1)] [] fun t39_24 =>
 St PP 3 t9_1 t39_24 w_22 fun w_25 =>
 LdA PP 3 t9_1 w_25 fun t9_26 =>
 R (.tuple #[(.int .i64 0), t9_26, (.int .i64 18)]) w_25) (
 BdA #[.int .i64 0, .int .i64 0, .int .i64 0, .int .i64 0] 1 [(0, (.int .i64 4)), (1, (.int .i64 2)), (2, (.int .i64 6)), (3, (.int .i64 1))] fun t40_27 =>
 Bi .and a3 (.int .i64 3) fun t42_28 =>
 Rd PP (Instr.index Ty.f_4_int t40_27 t42_28) w_22 fun t43_29 =>
 ∀ J_30 : List Value → World → Prop, (∀ t13_33, ∀ w_32 : World, (∀ u_31 : Env,
 ∀ J_34 : List Value → World → Prop, (∀ t69_37, ∀ w_36 : World, (∀ u_35 : Env,
 Cnd t69_37 (
 Bd #[.int .i64 0, .int .i64 0, .int .i64 0] [(0, 1), (1, 1), (2, 1)] [] fun t70_38 =>
 St PP 3 t9_1 t70_38 w_36 fun w_39 =>
 LdA PP 3 t9_1 w_39 fun t9_40 =>
 R (.tuple #[(.int .i64 0), t9_40, (.int .i64 17)]) w_39) (
 Nc a0 fun t72_41 =>
 Fa 5 t72_41 fun t73_42 =>
 Ld t73_42 w_36 fun t74_43 =>
 Ef PP (Instr.range Ty.map_int_tree_handle t74_43) w_36 fun t75_44 w_45 =>
 ∃ (I_46 : List Value → World → Prop) (m_47 : List Value → World → Nat), I_46 [] w_45 ∧ ∀ (u_48 : Env) (w_49 : World), I_46 [] w_49 →
 Ef PP (Instr.next t75_44 false Ty.t) w_49 fun t76_50 w_51 =>
 Ex t76_50 0 fun t77_52 =>
 Cnd t77_52 (
 Rd PP (Instr.entry t75_44) w_51 fun t78_53 =>
 Ex t78_53 1 fun t79_54 =>
 Al Ty.tree_handle #[.pointer none, .int .i64 0, .string ⟨#[]⟩] w_51 fun t15_55 w_56 =>
 St PP 3 t15_55 t79_54 w_56 fun w_57 =>
 ∀ J_58 : List Value → World → Prop, (∀ t92_61, ∀ w_60 : World, (∀ u_59 : Env,
 Cnd t92_61 (
 Bd #[.int .i64 0, .int .i64 0, .int .i64 0] [(0, 1), (1, 1), (2, 1)] [] fun t93_62 =>
 St PP 3 t9_1 t93_62 w_60 fun w_63 =>
 LdA PP 3 t9_1 w_63 fun t9_64 =>
 R (.tuple #[(.int .i64 0), t9_64, (.int .i64 19)]) w_63) (
 I_46 [] w_60 ∧ m_47 [] w_60 < m_47 [] w_49)) → J_58 [t92_61] w_60) →
 Fa 0 t15_55 fun t80_65 =>
 Ld t80_65 w_57 fun t81_66 =>
 Rd PP (eqS .eql Ty.p_tree_node (.tmp 81) (.tmp 82) t81_66 t27_14) w_57 fun t83_67 =>
 Gd t83_67 true (fun k_68 => k_68 t27_14 w_57) w_57 fun t85_69 w_70 =>
 Gd t83_67 true (fun k_71 => Nc t85_69 fun t86_74 =>
 k_71 t86_74 w_70) w_70 fun t86_72 w_73 =>
 Gd t83_67 true (fun k_75 => Fa 0 t86_72 fun t87_78 =>
 k_75 t87_78 w_73) w_73 fun t87_76 w_77 =>
 Gd t83_67 true (fun k_79 => Fa 3 t87_76 fun t88_82 =>
 k_79 t88_82 w_77) w_77 fun t88_80 w_81 =>
 Gd t83_67 true (fun k_83 => Ld t88_80 w_81 fun t89_86 =>
 k_83 t89_86 w_81) w_81 fun t89_84 w_85 =>
 Gd t83_67 true (fun k_87 => Bi .and t89_84 (.int .i64 536870912) fun t90_90 =>
 k_87 t90_90 w_85) w_85 fun t90_88 w_89 =>
 Gd t83_67 true (fun k_91 => Bi .neq t90_88 (.int .i64 0) fun t91_94 =>
 k_91 t91_94 w_89) w_89 fun t91_92 w_93 =>
 Pk t83_67 t91_92 (.bool false) fun t92_95 =>
 J_58 [t92_95] w_93) (
 Ca PP Fn.tree_Tree_room #[a0] w_51 fun t95_96 w_97 =>
 Un .not t95_96 fun t96_98 =>
 Cnd t96_98 (
 Bd #[.int .i64 0, .int .i64 0, .int .i64 0] [(0, 1), (1, 1), (2, 1)] [] fun t97_99 =>
 St PP 3 t9_1 t97_99 w_97 fun w_100 =>
 LdA PP 3 t9_1 w_100 fun t9_101 =>
 R (.tuple #[(.int .i64 0), t9_101, (.int .i64 3)]) w_100) (
 ∀ J_102 : List Value → World → Prop, (∀ w_104 : World, (∀ u_103 : Env,
 Ca PP Fn.tree_Tree_handle #[a0, t27_14, a3, a1] w_104 fun t122_105 w_106 =>
 Ex t122_105 0 fun t123_107 =>
 Ex t122_105 1 fun t124_108 =>
 Ex t122_105 2 fun t125_109 =>
 St PP 3 t9_1 t124_108 w_106 fun w_110 =>
 LdA PP 3 t9_1 w_110 fun t9_111 =>
 R (.tuple #[t123_107, t9_111, t125_109]) w_110) → J_102 [] w_104) →
 ∀ J_112 : List Value → World → Prop, (∀ t109_115, ∀ w_114 : World, (∀ u_113 : Env,
 Cnd t109_115 (
 Nc t27_14 fun t111_116 =>
 Fa 10 t111_116 fun t112_117 =>
 St PP 1 t112_117 (.slice none 0 0) w_114 fun w_118 =>
 Ef PP (Instr.buildSlice Ty.sl_p_tree_node 1 #[(0, t27_14)]) w_118 fun t116_119 w_120 =>
 Ca PP Fn.tree_Tree_change #[a0, a1, t116_119] w_120 fun t117_121 w_122 =>
 J_102 [] w_122) (
 J_102 [] w_114)) → J_112 [t109_115] w_114) →
 Bi .and a3 (.int .i64 16) fun t99_123 =>
 Bi .neq t99_123 (.int .i64 0) fun t100_124 =>
 Gd t100_124 true (fun k_125 => k_125 t27_14 w_97) w_97 fun t102_126 w_127 =>
 Gd t100_124 true (fun k_128 => Nc t102_126 fun t103_131 =>
 k_128 t103_131 w_127) w_127 fun t103_129 w_130 =>
 Gd t100_124 true (fun k_132 => Fa 0 t103_129 fun t104_135 =>
 k_132 t104_135 w_130) w_130 fun t104_133 w_134 =>
 Gd t100_124 true (fun k_136 => Fa 3 t104_133 fun t105_139 =>
 k_136 t105_139 w_134) w_134 fun t105_137 w_138 =>
 Gd t100_124 true (fun k_140 => Ld t105_137 w_138 fun t106_143 =>
 k_140 t106_143 w_138) w_138 fun t106_141 w_142 =>
 Gd t100_124 true (fun k_144 => Bi .and t106_141 (.int .i64 1073741824) fun t107_147 =>
 k_144 t107_147 w_142) w_142 fun t107_145 w_146 =>
 Gd t100_124 true (fun k_148 => Bi .eql t107_145 (.int .i64 0) fun t108_151 =>
 k_148 t108_151 w_146) w_146 fun t108_149 w_150 =>
 Pk t100_124 t108_149 (.bool false) fun t109_152 =>
 J_112 [t109_152] w_150)))) → J_34 [t69_37] w_36) →
 Ca PP Fn.tree_Tree_may #[a0, a1, t27_14, t13_33] w_32 fun t53_153 w_154 =>
 Un .not t53_153 fun t54_155 =>
 Gd t54_155 false (fun k_156 => k_156 a3 w_154) w_154 fun t56_157 w_158 =>
 Gd t54_155 false (fun k_159 => Bi .and t56_157 (.int .i64 64) fun t57_162 =>
 k_159 t57_162 w_158) w_158 fun t57_160 w_161 =>
 Gd t54_155 false (fun k_163 => Bi .neq t57_160 (.int .i64 0) fun t58_166 =>
 k_163 t58_166 w_161) w_161 fun t58_164 w_165 =>
 Gd t54_155 false (fun k_167 => k_167 t58_164 w_165) w_165 fun t59_168 w_169 =>
 Gd t59_168 true (fun k_170 => k_170 a0 w_169) w_169 fun t60_171 w_172 =>
 Gd t59_168 true (fun k_173 => k_173 a1 w_172) w_172 fun t61_174 w_175 =>
 Gd t59_168 true (fun k_176 => k_176 t27_14 w_175) w_175 fun t62_177 w_178 =>
 Gd t59_168 true (fun k_179 => Nc t62_177 fun t63_182 =>
 k_179 t63_182 w_178) w_178 fun t63_180 w_181 =>
 Gd t59_168 true (fun k_183 => Fa 12 t63_180 fun t64_186 =>
 k_183 t64_186 w_181) w_181 fun t64_184 w_185 =>
 Gd t59_168 true (fun k_187 => Ld t64_184 w_185 fun t65_190 =>
 k_187 t65_190 w_185) w_185 fun t65_188 w_189 =>
 Gd t59_168 true (fun k_191 => Ca PP Fn.tree_Tree_may #[t60_171, t61_174, t65_188, (.int .i64 2)] w_189 fun t66_194 w_195 =>
 k_191 t66_194 w_195) w_189 fun t66_192 w_193 =>
 Gd t59_168 true (fun k_196 => Un .not t66_192 fun t67_199 =>
 k_196 t67_199 w_193) w_193 fun t67_197 w_198 =>
 Gd t54_155 false (fun k_200 => Pk t59_168 t67_197 (.bool false) fun t68_203 =>
 k_200 t68_203 w_198) w_198 fun t68_201 w_202 =>
 Pk t54_155 (.bool true) t68_201 fun t69_204 =>
 J_34 [t69_204] w_202) → J_30 [t13_33] w_32) →
 Bi .and a3 (.int .i64 16) fun t45_205 =>
 Bi .neq t45_205 (.int .i64 0) fun t46_206 =>
 Cnd t46_206 (
 Bi .or t43_29 (.int .i64 2) fun t48_207 =>
 J_30 [t48_207] w_22) (
 J_30 [t43_29] w_22))) → J_20 [t38_23] w_22) →
 Ca PP Fn.tree_node_isDir #[t27_14] w_13 fun t34_208 w_209 =>
 Gd t34_208 true (fun k_210 => k_210 a3 w_209) w_209 fun t36_211 w_212 =>
 Gd t34_208 true (fun k_213 => Bi .neq t36_211 (.int .i64 0) fun t37_216 =>
 k_213 t37_216 w_212) w_212 fun t37_214 w_215 =>
 Pk t34_208 t37_214 (.bool false) fun t38_217 =>
 J_20 [t38_217] w_215)))
def S.tree_Tree_Open.an : Ann := (.seq .leaf (.seq (.seq .leaf (.cond (.seq .leaf .leaf) .leaf)) (.seq (.seq .leaf (.cond (.seq .leaf .leaf) .leaf)) (.seq .leaf (.seq (.seq .leaf (.cond (.seq .leaf .leaf) .leaf)) (.seq (.join .leaf [38] [33, 34, 35, 36, 37] (.cond (.seq .leaf .leaf) .leaf)) (.seq .leaf (.join (.seq .leaf (.cond .leaf .leaf)) [13] [44, 45, 46, 47, 48] (.seq (.join .leaf [69] [49, 50, 51, 52, 53, 54, 55, 56, 57, 58, 59, 60, 61, 62, 63, 64, 65, 66, 67, 68] (.cond (.seq .leaf .leaf) .leaf)) (.seq (.seq .leaf (.block (.loop (.seq .leaf (.seq (.cond .leaf .leaf) (.block (.seq .leaf (.join .leaf [92] [80, 81, 82, 83, 84, 85, 86, 87, 88, 89, 90, 91] (.cond (.seq .leaf .leaf) .leaf)))))) [] [8, 10, 15, 76, 77, 78, 79, 80, 81, 82, 83, 84, 85, 86, 87, 88, 89, 90, 91, 92, 93]))) (.seq (.seq .leaf (.cond (.seq .leaf .leaf) .leaf)) (.join (.join .leaf [109] [98, 99, 100, 101, 102, 103, 104, 105, 106, 107, 108] (.cond (.seq .leaf .leaf) .leaf)) [] [98, 99, 100, 101, 102, 103, 104, 105, 106, 107, 108, 109, 110, 111, 112, 113, 114, 115, 116, 117] (.seq .leaf .leaf)))))))))))))
theorem S.tree_Tree_Open.eq (a0 a1 a2 a3 : Value) (w : World) (R : Value → World → Prop) : S.tree_Tree_Open a0 a1 a2 a3 w R = fnC PP 126 (Tryz.f56.body.getD .skip) S.tree_Tree_Open.an [.tmp 8, .cell 9 37, .tmp 10] [a0, a1, a2, a3] w R := by kernel_rfl
theorem S.tree_Tree_Open.calls {a0 a1 a2 a3 : Value} {w : World} {R : Value → World → Prop} (h : S.tree_Tree_Open a0 a1 a2 a3 w R) : Ca PP Fn.tree_Tree_Open #[a0, a1, a2, a3] w R :=
  fnC_calls mixed (f := Fn.tree_Tree_Open) (an := S.tree_Tree_Open.an) Tryz.func56 rfl (by show _ ≤ _; exact Nat.le_of_ble_eq_true rfl) (S.tree_Tree_Open.eq a0 a1 a2 a3 w R ▸ h)
/-- strings.SplitSeq -/
def S.strings_SplitSeq (a0 a1 : Value) (w : World) (R : Value → World → Prop) : Prop :=
 Ca PP Fn.strings_splitSeq #[a0, a1, (.int .i64 0)] w fun t7_1 w_2 =>
 R t7_1 w_2
def S.strings_SplitSeq.an : Ann := (.seq .leaf (.seq .leaf .leaf))
theorem S.strings_SplitSeq.eq (a0 a1 : Value) (w : World) (R : Value → World → Prop) : S.strings_SplitSeq a0 a1 w R = fnC PP 8 (Tryz.f58.body.getD .skip) S.strings_SplitSeq.an [.tmp 4] [a0, a1] w R := by kernel_rfl
theorem S.strings_SplitSeq.calls {a0 a1 : Value} {w : World} {R : Value → World → Prop} (h : S.strings_SplitSeq a0 a1 w R) : Ca PP Fn.strings_SplitSeq #[a0, a1] w R :=
  fnC_calls mixed (f := Fn.strings_SplitSeq) (an := S.strings_SplitSeq.an) Tryz.func58 rfl (by show _ ≤ _; exact Nat.le_of_ble_eq_true rfl) (S.strings_SplitSeq.eq a0 a1 w R ▸ h)
/-- acheron/acheronref28.Valid -/
def S.r28_Valid (a0 : Value) (w : World) (R : Value → World → Prop) : Prop :=
 ∃ (I_1 : List Value → World → Prop) (m_2 : List Value → World → Nat), I_1 [(.int .i64 0)] w ∧ ∀ t3_5, ∀ (u_3 : Env) (w_4 : World), I_1 [t3_5] w_4 →
 LnS a0 fun t6_6 =>
 Bi .lss t3_5 t6_6 fun t7_7 =>
 Cnd t7_7 (
 ∀ J_8 : List Value → World → Prop, (∀ t25_11, ∀ w_10 : World, (∀ u_9 : Env,
 Cnd t25_11 (
 R (.bool false) w_10) (
 Bi .add t3_5 (.int .i64 1) fun t9_12 =>
 I_1 [t9_12] w_10 ∧ m_2 [t9_12] w_10 < m_2 [t3_5] w_4)) → J_8 [t25_11] w_10) →
 IxS a0 t3_5 fun t12_13 =>
 Bi .lss t12_13 (.int .u8 33) fun t13_14 =>
 Gd t13_14 false (fun k_15 => k_15 a0 w_4) w_4 fun t15_16 w_17 =>
 Gd t13_14 false (fun k_18 => k_18 t3_5 w_17) w_17 fun t16_19 w_20 =>
 Gd t13_14 false (fun k_21 => IxS t15_16 t16_19 fun t17_24 =>
 k_21 t17_24 w_20) w_20 fun t17_22 w_23 =>
 Gd t13_14 false (fun k_25 => Bi .gtr t17_22 (.int .u8 126) fun t18_28 =>
 k_25 t18_28 w_23) w_23 fun t18_26 w_27 =>
 Pk t13_14 (.bool true) t18_26 fun t19_29 =>
 Gd t19_29 false (fun k_30 => k_30 a0 w_27) w_27 fun t21_31 w_32 =>
 Gd t19_29 false (fun k_33 => k_33 t3_5 w_32) w_32 fun t22_34 w_35 =>
 Gd t19_29 false (fun k_36 => IxS t21_31 t22_34 fun t23_39 =>
 k_36 t23_39 w_35) w_35 fun t23_37 w_38 =>
 Gd t19_29 false (fun k_40 => Bi .eql t23_37 (.int .u8 47) fun t24_43 =>
 k_40 t24_43 w_38) w_38 fun t24_41 w_42 =>
 Pk t19_29 (.bool true) t24_41 fun t25_44 =>
 J_8 [t25_44] w_42) (
 ∀ J_45 : List Value → World → Prop, (∀ t2_48, ∀ w_47 : World, (∀ u_46 : Env,
 R t2_48 w_47) → J_45 [t2_48] w_47) →
 LnS a0 fun t27_49 =>
 Bi .geq t27_49 (.int .i64 1) fun t28_50 =>
 Gd t28_50 true (fun k_51 => k_51 a0 w_4) w_4 fun t30_52 w_53 =>
 Gd t28_50 true (fun k_54 => LnS t30_52 fun t31_57 =>
 k_54 t31_57 w_53) w_53 fun t31_55 w_56 =>
 Gd t28_50 true (fun k_58 => Bi .leq t31_55 (.int .i64 40) fun t32_61 =>
 k_58 t32_61 w_56) w_56 fun t32_59 w_60 =>
 Pk t28_50 t32_59 (.bool false) fun t33_62 =>
 Gd t33_62 true (fun k_63 => k_63 a0 w_60) w_60 fun t35_64 w_65 =>
 Gd t33_62 true (fun k_66 => Bi .neq t35_64 (.string ⟨#[46]⟩) fun t36_69 =>
 k_66 t36_69 w_65) w_65 fun t36_67 w_68 =>
 Pk t33_62 t36_67 (.bool false) fun t37_70 =>
 Gd t37_70 true (fun k_71 => k_71 a0 w_68) w_68 fun t39_72 w_73 =>
 Gd t37_70 true (fun k_74 => Bi .neq t39_72 (.string ⟨#[46, 46]⟩) fun t40_77 =>
 k_74 t40_77 w_73) w_73 fun t40_75 w_76 =>
 Pk t37_70 t40_75 (.bool false) fun t41_78 =>
 J_45 [t41_78] w_76)
def S.r28_Valid.an : Ann := (.seq .leaf (.seq (.seq .leaf (.block (.loop (.seq (.seq .leaf (.cond .leaf .leaf)) (.seq (.block (.join .leaf [25] [10, 11, 12, 13, 14, 15, 16, 17, 18, 19, 20, 21, 22, 23, 24] (.cond (.seq .leaf .leaf) .leaf))) .leaf)) [3] [2, 4, 5, 6, 7, 8, 9, 10, 11, 12, 13, 14, 15, 16, 17, 18, 19, 20, 21, 22, 23, 24, 25]))) (.join .leaf [2] [26, 27, 28, 29, 30, 31, 32, 33, 34, 35, 36, 37, 38, 39, 40, 41] .leaf)))
theorem S.r28_Valid.eq (a0 : Value) (w : World) (R : Value → World → Prop) : S.r28_Valid a0 w R = fnC PP 42 (Tryz.f62.body.getD .skip) S.r28_Valid.an [.tmp 2] [a0] w R := by kernel_rfl
theorem S.r28_Valid.calls {a0 : Value} {w : World} {R : Value → World → Prop} (h : S.r28_Valid a0 w R) : Ca PP Fn.r28_Valid #[a0] w R :=
  fnC_calls mixed (f := Fn.r28_Valid) (an := S.r28_Valid.an) Tryz.func62 rfl (by show _ ≤ _; exact Nat.le_of_ble_eq_true rfl) (S.r28_Valid.eq a0 w R ▸ h)
/-- (*acheron/tree.node).isDir -/
def S.tree_node_isDir (a0 : Value) (w : World) (R : Value → World → Prop) : Prop :=
 Nc a0 fun t4_1 =>
 Fa 0 t4_1 fun t5_2 =>
 Fa 3 t5_2 fun t6_3 =>
 Ld t6_3 w fun t7_4 =>
 Bi .and t7_4 (.int .i64 2147483648) fun t8_5 =>
 Bi .neq t8_5 (.int .i64 0) fun t9_6 =>
 R t9_6 w
def S.tree_node_isDir.an : Ann := (.seq .leaf (.seq .leaf .leaf))
theorem S.tree_node_isDir.eq (a0 : Value) (w : World) (R : Value → World → Prop) : S.tree_node_isDir a0 w R = fnC PP 10 (Tryz.f63.body.getD .skip) S.tree_node_isDir.an [.tmp 2] [a0] w R := by kernel_rfl
theorem S.tree_node_isDir.calls {a0 : Value} {w : World} {R : Value → World → Prop} (h : S.tree_node_isDir a0 w R) : Ca PP Fn.tree_node_isDir #[a0] w R :=
  fnC_calls mixed (f := Fn.tree_node_isDir) (an := S.tree_node_isDir.an) Tryz.func63 rfl (by show _ ≤ _; exact Nat.le_of_ble_eq_true rfl) (S.tree_node_isDir.eq a0 w R ▸ h)
/-- acheron/tree.check -/
def S.tree_check (a0 a1 : Value) (w : World) (R : Value → World → Prop) : Prop :=
 LnL a0 fun t11_1 =>
 Bi .gtr t11_1 (.int .i64 16) fun t12_2 =>
 LnL a0 fun t14_3 =>
 ∃ (I_4 : List Value → World → Prop) (m_5 : List Value → World → Nat), I_4 [a1, (.slice none 0 0), t12_2, (.bool false), (.int .i64 0)] w ∧ ∀ t1_8 t5_9 t6_10 t7_11 t15_12, ∀ (u_6 : Env) (w_7 : World), I_4 [t1_8, t5_9, t6_10, t7_11, t15_12] w_7 →
 Bi .lss t15_12 t14_3 fun t16_13 =>
 Cnd t16_13 (
 ∀ J_14 : List Value → World → Prop, (∀ t1_17 t5_18 t6_19 t7_20, ∀ w_16 : World, (∀ u_15 : Env,
 Bi .add t15_12 (.int .i64 1) fun t45_21 =>
 I_4 [t1_17, t5_18, t6_19, t7_20, t45_21] w_16 ∧ m_5 [t1_17, t5_18, t6_19, t7_20, t45_21] w_16 < m_5 [t1_8, t5_9, t6_10, t7_11, t15_12] w_7) → J_14 [t1_17, t5_18, t6_19, t7_20] w_16) →
 IxA 2 a0 t15_12 fun t17_22 =>
 LdA PP 2 t17_22 w_7 fun t18_23 =>
 Al Ty.tree_Group #[.string ⟨#[]⟩, .slice none 0 0] w_7 fun t9_24 w_25 =>
 St PP 2 t9_24 t18_23 w_25 fun w_26 =>
 ∀ J_27 : List Value → World → Prop, (∀ t6_30, ∀ w_29 : World, (∀ u_28 : Env,
 Dr w_29 fun w_31 =>
 Fa 0 t9_24 fun t27_32 =>
 Ld t27_32 w_31 fun t28_33 =>
 Fa 1 t9_24 fun t31_34 =>
 Ld t31_34 w_31 fun t32_35 =>
 Ef PP (Instr.buildSlice Ty.sl_string 1 #[(0, t28_33)]) w_31 fun t29_36 w_37 =>
 (Ld t31_34 w_37 fun t32_38 =>
 t32_38 = t32_35) ∧
 Ef PP (Builtin.append_ #[Ty.sl_string, Ty.sl_string] Ty.sl_string #[t1_8, t29_36]) w_37 fun t30_39 w_40 =>
 (Ld t31_34 w_40 fun t32_41 =>
 t32_41 = t32_35) ∧
 Ef PP (Builtin.append_ #[Ty.sl_string, Ty.sl_string] Ty.sl_string #[t30_39, t32_35]) w_40 fun t33_42 w_43 =>
 Fa 0 t9_24 fun t35_44 =>
 Ld t35_44 w_43 fun t36_45 =>
 Ef PP (Instr.buildSlice Ty.sl_string 1 #[(0, t36_45)]) w_43 fun t37_46 w_47 =>
 Ef PP (Builtin.append_ #[Ty.sl_string, Ty.sl_string] Ty.sl_string #[t5_9, t37_46]) w_47 fun t38_48 w_49 =>
 Gd t7_11 false (fun k_50 => Fa 1 t9_24 fun t41_53 =>
 k_50 t41_53 w_49) w_49 fun t41_51 w_52 =>
 Gd t7_11 false (fun k_54 => Ld t41_51 w_52 fun t42_57 =>
 k_54 t42_57 w_52) w_52 fun t42_55 w_56 =>
 Gd t7_11 false (fun k_58 => Ca PP Fn.tree_repeated #[t42_55] w_56 fun t43_61 w_62 =>
 k_58 t43_61 w_62) w_56 fun t43_59 w_60 =>
 Pk t7_11 (.bool true) t43_59 fun t44_63 =>
 J_14 [t33_42, t38_48, t6_30, t44_63] w_60) → J_27 [t6_30] w_29) →
 Gd t6_10 false (fun k_64 => Fa 1 t9_24 fun t21_67 =>
 k_64 t21_67 w_26) w_26 fun t21_65 w_66 =>
 Gd t6_10 false (fun k_68 => Ld t21_65 w_66 fun t22_71 =>
 k_68 t22_71 w_66) w_66 fun t22_69 w_70 =>
 Gd t6_10 false (fun k_72 => LnL t22_69 fun t23_75 =>
 k_72 t23_75 w_70) w_70 fun t23_73 w_74 =>
 Gd t6_10 false (fun k_76 => Bi .gtr t23_73 (.int .i64 16) fun t24_79 =>
 k_76 t24_79 w_74) w_74 fun t24_77 w_78 =>
 Pk t6_10 (.bool true) t24_77 fun t25_80 =>
 J_27 [t25_80] w_78) (
 Cnd t6_10 (
 R (.int .i64 3) w_7) (
 Ca PP Fn.slices_ContainsFunc_sl_string_string #[t1_8, (.func (.func Fn.tree_check_1) #[] #[])] w_7 fun t50_81 w_82 =>
 Cnd t50_81 (
 R (.int .i64 8) w_82) (
 ∀ J_83 : List Value → World → Prop, (∀ t51_86, ∀ w_85 : World, (∀ u_84 : Env,
 Cnd t51_86 (
 R (.int .i64 5) w_85) (
 R (.int .i64 0) w_85)) → J_83 [t51_86] w_85) →
 Gd t7_11 false (fun k_87 => k_87 t5_9 w_82) w_82 fun t54_88 w_89 =>
 Gd t7_11 false (fun k_90 => Ca PP Fn.tree_repeated #[t54_88] w_89 fun t55_93 w_94 =>
 k_90 t55_93 w_94) w_89 fun t55_91 w_92 =>
 Pk t7_11 (.bool true) t55_91 fun t56_95 =>
 J_83 [t56_95] w_92)))
def S.tree_check.an : Ann := (.seq .leaf (.seq .leaf (.seq .leaf (.seq (.seq .leaf (.block (.loop (.seq .leaf (.seq (.cond .leaf .leaf) (.join (.block (.seq .leaf (.join .leaf [6] [19, 20, 21, 22, 23, 24, 25] (.seq (.draw [[], [], [1], [1, 2], [0, 1, 2, 3], [], [5], [0, 1, 2, 3, 4, 5, 6], [0, 1, 2, 3, 4, 5, 6, 7]] (.calm 0 (.calm 1 (.calm 2 (.calm 5 (.calm 6 (.eff1 3 [6] (.eff1 4 [6] (.eff1 7 [] (.calm 8 .done)))))))))) (.seq .leaf .leaf))))) [1, 5, 6, 7] [9, 17, 18, 19, 20, 21, 22, 23, 24, 25, 26, 27, 28, 29, 30, 31, 32, 33, 34, 35, 36, 37, 38, 39, 40, 41, 42, 43, 44] .leaf))) [1, 5, 6, 7, 15] [9, 16, 17, 18, 19, 20, 21, 22, 23, 24, 25, 26, 27, 28, 29, 30, 31, 32, 33, 34, 35, 36, 37, 38, 39, 40, 41, 42, 43, 44, 45]))) (.seq (.block (.seq .leaf (.cond (.seq .leaf .leaf) (.seq .leaf (.cond (.seq .leaf .leaf) (.join .leaf [51] [52, 53, 54, 55, 56] (.cond (.seq .leaf .leaf) .leaf))))))) (.seq .leaf .leaf))))))
theorem S.tree_check.eq (a0 a1 : Value) (w : World) (R : Value → World → Prop) : S.tree_check a0 a1 w R = fnC PP 57 (Tryz.f64.body.getD .skip) S.tree_check.an [.tmp 4] [a0, a1] w R := by kernel_rfl
theorem S.tree_check.calls {a0 a1 : Value} {w : World} {R : Value → World → Prop} (h : S.tree_check a0 a1 w R) : Ca PP Fn.tree_check #[a0, a1] w R :=
  fnC_calls mixed (f := Fn.tree_check) (an := S.tree_check.an) Tryz.func64 rfl (by show _ ≤ _; exact Nat.le_of_ble_eq_true rfl) (S.tree_check.eq a0 a1 w R ▸ h)
/-- acheron/tree.empty -/
def S.tree_empty (a0 : Value) (w : World) (R : Value → World → Prop) : Prop :=
 MkM w fun t6_1 w_2 =>
 MkM w_2 fun t7_3 w_4 =>
 MkM w_4 fun t8_5 w_6 =>
 Bd #[.pointer none, .map none, .map none, .int .i64 0, .int .i64 0, .map none] [(0, 1), (1, 1), (2, 1), (3, 1), (4, 1), (5, 1)] [(1, t6_1), (2, t7_3), (3, (.int .i64 1)), (5, t8_5)] fun t9_7 =>
 Al Ty.tree_Tree (t9_7 : Value).cells w_6 fun t10_8 w_9 =>
 LnL a0 fun t12_10 =>
 ∃ (I_11 : List Value → World → Prop) (m_12 : List Value → World → Nat), I_11 [(.int .i64 0)] w_9 ∧ ∀ t13_15, ∀ (u_13 : Env) (w_14 : World), I_11 [t13_15] w_14 →
 Bi .lss t13_15 t12_10 fun t14_16 =>
 Cnd t14_16 (
 IxA 2 a0 t13_15 fun t15_17 =>
 LdA PP 2 t15_17 w_14 fun t16_18 =>
 Al Ty.tree_Group #[.string ⟨#[]⟩, .slice none 0 0] w_14 fun t5_19 w_20 =>
 St PP 2 t5_19 t16_18 w_20 fun w_21 =>
 Dr w_21 fun w_22 =>
 Nc t10_8 fun t18_23 =>
 Fa 2 t18_23 fun t19_24 =>
 Ld t19_24 w_22 fun t20_25 =>
 Fa 0 t5_19 fun t21_26 =>
 Ld t21_26 w_22 fun t22_27 =>
 Fa 1 t5_19 fun t23_28 =>
 Ld t23_28 w_22 fun t24_29 =>
 Ca PP Fn.slices_Clone_sl_string_string #[t24_29] w_22 fun t25_30 w_31 =>
 (Ld t19_24 w_31 fun t20_32 =>
 t20_32 = t20_25) ∧
 (Ld t21_26 w_31 fun t22_33 =>
 t22_33 = t22_27) ∧
 Ef PP (Instr.mapUpdate Ty.map_string_sl_string t20_25 t22_27 t25_30) w_31 fun _ w_34 =>
 Bi .add t13_15 (.int .i64 1) fun t26_35 =>
 I_11 [t26_35] w_34 ∧ m_12 [t26_35] w_34 < m_12 [t13_15] w_14) (
 R t10_8 w_14)
def S.tree_empty.an : Ann := (.seq .leaf (.seq .leaf (.seq (.seq .leaf (.block (.loop (.seq .leaf (.seq (.cond .leaf .leaf) (.seq (.block (.seq .leaf (.draw [[], [0], [0, 1], [0, 1, 2], [], [4], [], [6], [6, 7], [0, 1, 2, 3, 4, 5, 6, 7, 8]] (.calm 0 (.calm 1 (.calm 2 (.calm 3 (.calm 4 (.calm 5 (.calm 6 (.calm 7 (.eff1 8 [3, 5] (.eff1 9 [] .done))))))))))))) .leaf))) [13] [5, 14, 15, 16, 17, 18, 19, 20, 21, 22, 23, 24, 25, 26]))) (.seq .leaf .leaf))))
theorem S.tree_empty.eq (a0 : Value) (w : World) (R : Value → World → Prop) : S.tree_empty a0 w R = fnC PP 28 (Tryz.f65.body.getD .skip) S.tree_empty.an [.tmp 2] [a0] w R := by kernel_rfl
theorem S.tree_empty.calls {a0 : Value} {w : World} {R : Value → World → Prop} (h : S.tree_empty a0 w R) : Ca PP Fn.tree_empty #[a0] w R :=
  fnC_calls mixed (f := Fn.tree_empty) (an := S.tree_empty.an) Tryz.func65 rfl (by show _ ≤ _; exact Nat.le_of_ble_eq_true rfl) (S.tree_empty.eq a0 w R ▸ h)
/-- (*acheron/tree.node).is -/
def S.tree_node_is (a0 a1 : Value) (w : World) (R : Value → World → Prop) : Prop :=
 Nc a0 fun t9_1 =>
 Fa 0 t9_1 fun t10_2 =>
 Fa 3 t10_2 fun t11_3 =>
 St PP 1 t11_3 a1 w fun w_4 =>
 Nc a0 fun t12_5 =>
 Fa 0 t12_5 fun t13_6 =>
 Fa 0 t13_6 fun t14_7 =>
 Fa 0 t14_7 fun t15_8 =>
 St PP 1 t15_8 (.int .i64 0) w_4 fun w_9 =>
 MkM w_9 fun t16_10 w_11 =>
 Ef PP (Instr.mapUpdate Ty.map_int_int t16_10 (.int .i64 2147483648) (.int .i64 128)) w_11 fun _ w_12 =>
 Ef PP (Instr.mapUpdate Ty.map_int_int t16_10 (.int .i64 1073741824) (.int .i64 64)) w_12 fun _ w_13 =>
 Ef PP (Instr.mapUpdate Ty.map_int_int t16_10 (.int .i64 536870912) (.int .i64 32)) w_13 fun _ w_14 =>
 Ef PP (Instr.range Ty.map_int_int t16_10) w_14 fun t18_15 w_16 =>
 ∃ (I_17 : List Value → World → Prop) (m_18 : List Value → World → Nat), I_17 [] w_16 ∧ ∀ (u_19 : Env) (w_20 : World), I_17 [] w_20 →
 Ef PP (Instr.next t18_15 false Ty.t) w_20 fun t19_21 w_22 =>
 Ex t19_21 0 fun t20_23 =>
 Cnd t20_23 (
 Rd PP (Instr.entry t18_15) w_22 fun t21_24 =>
 Ex t21_24 0 fun t22_25 =>
 Ex t21_24 1 fun t23_26 =>
 Bi .and a1 t22_25 fun t26_27 =>
 Bi .neq t26_27 (.int .i64 0) fun t27_28 =>
 Cnd t27_28 (
 Nc a0 fun t29_29 =>
 Fa 0 t29_29 fun t30_30 =>
 Fa 0 t30_30 fun t31_31 =>
 Fa 0 t31_31 fun t32_32 =>
 Ld t32_32 w_22 fun t33_33 =>
 Bi .or t33_33 t23_26 fun t35_34 =>
 Nc a0 fun t36_35 =>
 Fa 0 t36_35 fun t37_36 =>
 Fa 0 t37_36 fun t38_37 =>
 Fa 0 t38_37 fun t39_38 =>
 St PP 1 t39_38 t35_34 w_22 fun w_39 =>
 I_17 [] w_39 ∧ m_18 [] w_39 < m_18 [] w_20) (
 I_17 [] w_22 ∧ m_18 [] w_22 < m_18 [] w_20)) (
 R (.tuple #[]) w_22)
def S.tree_node_is.an : Ann := (.seq .leaf (.seq .leaf (.block (.loop (.seq .leaf (.seq (.cond .leaf .leaf) (.block (.seq .leaf (.seq .leaf (.cond .leaf .leaf)))))) [] [4, 5, 19, 20, 21, 22, 23, 24, 25, 26, 27, 28, 29, 30, 31, 32, 33, 34, 35, 36, 37, 38, 39]))))
theorem S.tree_node_is.eq (a0 a1 : Value) (w : World) (R : Value → World → Prop) : S.tree_node_is a0 a1 w R = fnC PP 40 (Tryz.f66.body.getD .skip) S.tree_node_is.an [] [a0, a1] w R := by kernel_rfl
theorem S.tree_node_is.calls {a0 a1 : Value} {w : World} {R : Value → World → Prop} (h : S.tree_node_is a0 a1 w R) : Ca PP Fn.tree_node_is #[a0, a1] w R :=
  fnC_calls mixed (f := Fn.tree_node_is) (an := S.tree_node_is.an) Tryz.func66 rfl (by show _ ≤ _; exact Nat.le_of_ble_eq_true rfl) (S.tree_node_is.eq a0 a1 w R ▸ h)
/-- acheron/tree.right -/
def S.tree_right (a0 : Value) (w : World) (R : Value → World → Prop) : Prop :=
 ∀ J_1 : List Value → World → Prop, (∀ t2_4, ∀ w_3 : World, (∀ u_2 : Env,
 R t2_4 w_3) → J_1 [t2_4] w_3) →
 Bi .andNot a0 (.int .i64 3758096895) fun t4_5 =>
 Bi .eql t4_5 (.int .i64 0) fun t5_6 =>
 Gd t5_6 true (fun k_7 => k_7 a0 w) w fun t7_8 w_9 =>
 Gd t5_6 true (fun k_10 => Bi .and t7_8 (.int .i64 2147483648) fun t8_13 =>
 k_10 t8_13 w_9) w_9 fun t8_11 w_12 =>
 Gd t5_6 true (fun k_14 => Bi .eql t8_11 (.int .i64 0) fun t9_17 =>
 k_14 t9_17 w_12) w_12 fun t9_15 w_16 =>
 Gd t5_6 true (fun k_18 => k_18 t9_15 w_16) w_16 fun t10_19 w_20 =>
 Gd t10_19 false (fun k_21 => k_21 a0 w_20) w_20 fun t11_22 w_23 =>
 Gd t10_19 false (fun k_24 => Bi .and t11_22 (.int .i64 1610612736) fun t12_27 =>
 k_24 t12_27 w_23) w_23 fun t12_25 w_26 =>
 Gd t10_19 false (fun k_28 => Bi .eql t12_25 (.int .i64 0) fun t13_31 =>
 k_28 t13_31 w_26) w_26 fun t13_29 w_30 =>
 Gd t5_6 true (fun k_32 => Pk t10_19 (.bool true) t13_29 fun t14_35 =>
 k_32 t14_35 w_30) w_30 fun t14_33 w_34 =>
 Pk t5_6 t14_33 (.bool false) fun t15_36 =>
 J_1 [t15_36] w_34
def S.tree_right.an : Ann := (.seq .leaf (.join .leaf [2] [3, 4, 5, 6, 7, 8, 9, 10, 11, 12, 13, 14, 15] .leaf))
theorem S.tree_right.eq (a0 : Value) (w : World) (R : Value → World → Prop) : S.tree_right a0 w R = fnC PP 16 (Tryz.f67.body.getD .skip) S.tree_right.an [.tmp 2] [a0] w R := by kernel_rfl
theorem S.tree_right.calls {a0 : Value} {w : World} {R : Value → World → Prop} (h : S.tree_right a0 w R) : Ca PP Fn.tree_right #[a0] w R :=
  fnC_calls mixed (f := Fn.tree_right) (an := S.tree_right.an) Tryz.func67 rfl (by show _ ≤ _; exact Nat.le_of_ble_eq_true rfl) (S.tree_right.eq a0 w R ▸ h)
/-- (*acheron/tree.Tree).folder -/
def S.tree_Tree_folder (a0 a1 : Value) (w : World) (R : Value → World → Prop) : Prop :=
 Ca PP Fn.tree_Tree_find #[a0, a1] w fun t11_1 w_2 =>
 Ex t11_1 0 fun t12_3 =>
 Ex t11_1 1 fun t13_4 =>
 ∀ J_5 : List Value → World → Prop, (∀ t20_8, ∀ w_7 : World, (∀ u_6 : Env,
 Cnd t20_8 (
 R (.tuple #[(.pointer none), (.int .i64 18)]) w_7) (
 R (.tuple #[t12_3, t13_4]) w_7)) → J_5 [t20_8] w_7) →
 Bi .eql t13_4 (.int .i64 0) fun t15_9 =>
 Gd t15_9 true (fun k_10 => k_10 t12_3 w_2) w_2 fun t17_11 w_12 =>
 Gd t15_9 true (fun k_13 => Ca PP Fn.tree_node_isDir #[t17_11] w_12 fun t18_16 w_17 =>
 k_13 t18_16 w_17) w_12 fun t18_14 w_15 =>
 Gd t15_9 true (fun k_18 => Un .not t18_14 fun t19_21 =>
 k_18 t19_21 w_15) w_15 fun t19_19 w_20 =>
 Pk t15_9 t19_19 (.bool false) fun t20_22 =>
 J_5 [t20_22] w_20
def S.tree_Tree_folder.an : Ann := (.seq .leaf (.seq .leaf (.seq (.join .leaf [20] [14, 15, 16, 17, 18, 19] (.cond (.seq .leaf .leaf) .leaf)) (.seq .leaf .leaf))))
theorem S.tree_Tree_folder.eq (a0 a1 : Value) (w : World) (R : Value → World → Prop) : S.tree_Tree_folder a0 a1 w R = fnC PP 23 (Tryz.f68.body.getD .skip) S.tree_Tree_folder.an [.tmp 4, .tmp 5] [a0, a1] w R := by kernel_rfl
theorem S.tree_Tree_folder.calls {a0 a1 : Value} {w : World} {R : Value → World → Prop} (h : S.tree_Tree_folder a0 a1 w R) : Ca PP Fn.tree_Tree_folder #[a0, a1] w R :=
  fnC_calls mixed (f := Fn.tree_Tree_folder) (an := S.tree_Tree_folder.an) Tryz.func68 rfl (by show _ ≤ _; exact Nat.le_of_ble_eq_true rfl) (S.tree_Tree_folder.eq a0 a1 w R ▸ h)
/-- (*acheron/tree.Tree).may -/
def S.tree_Tree_may (a0 a1 a2 a3 : Value) (w : World) (R : Value → World → Prop) : Prop :=
 Dr w fun w_1 =>
 Nc a2 fun t10_2 =>
 Fa 0 t10_2 fun t11_3 =>
 Fa 3 t11_3 fun t12_4 =>
 Ld t12_4 w_1 fun t13_5 =>
 Nc a2 fun t16_6 =>
 Fa 0 t16_6 fun t17_7 =>
 Fa 7 t17_7 fun t18_8 =>
 Ld t18_8 w_1 fun t19_9 =>
 Bi .eql a1 t19_9 fun t20_10 =>
 Nc a2 fun t24_11 =>
 Fa 0 t24_11 fun t25_12 =>
 Fa 8 t25_12 fun t26_13 =>
 Ld t26_13 w_1 fun t27_14 =>
 Ca PP Fn.tree_Tree_member #[a0, a1, t27_14] w_1 fun t28_15 w_16 =>
 (Ld t12_4 w_16 fun t13_17 =>
 t13_17 = t13_5) ∧
 (Ld t18_8 w_16 fun t19_18 =>
 t19_18 = t19_9) ∧
 Ca PP Fn.tree_Permits #[t13_5, t20_10, t28_15, a3] w_16 fun t30_19 w_20 =>
 R t30_19 w_20
def S.tree_Tree_may.an : Ann := (.seq .leaf (.seq (.draw [[], [0], [0, 1], [0, 1, 2], [0, 1, 2, 3], [], [], [6], [6, 7], [6, 7, 8], [6, 7, 8, 9], [5, 6, 7, 8, 9, 10], [], [], [], [14], [14, 15], [14, 15, 16], [14, 15, 16, 17], [12, 13, 14, 15, 16, 17, 18], [], [0, 1, 2, 3, 4, 5, 6, 7, 8, 9, 10, 11, 12, 13, 14, 15, 16, 17, 18, 19, 20], [0, 1, 2, 3, 4, 5, 6, 7, 8, 9, 10, 11, 12, 13, 14, 15, 16, 17, 18, 19, 20, 21]] (.calm 0 (.calm 1 (.calm 2 (.calm 3 (.calm 4 (.calm 5 (.calm 6 (.calm 7 (.calm 8 (.calm 9 (.calm 10 (.calm 11 (.calm 12 (.calm 13 (.calm 14 (.calm 15 (.calm 16 (.calm 17 (.calm 18 (.calm 20 (.eff1 19 [4, 10] (.eff1 21 [] (.calm 22 .done)))))))))))))))))))))))) .leaf))
theorem S.tree_Tree_may.eq (a0 a1 a2 a3 : Value) (w : World) (R : Value → World → Prop) : S.tree_Tree_may a0 a1 a2 a3 w R = fnC PP 31 (Tryz.f69.body.getD .skip) S.tree_Tree_may.an [.tmp 8] [a0, a1, a2, a3] w R := by kernel_rfl
theorem S.tree_Tree_may.calls {a0 a1 a2 a3 : Value} {w : World} {R : Value → World → Prop} (h : S.tree_Tree_may a0 a1 a2 a3 w R) : Ca PP Fn.tree_Tree_may #[a0, a1, a2, a3] w R :=
  fnC_calls mixed (f := Fn.tree_Tree_may) (an := S.tree_Tree_may.an) Tryz.func69 rfl (by show _ ≤ _; exact Nat.le_of_ble_eq_true rfl) (S.tree_Tree_may.eq a0 a1 a2 a3 w R ▸ h)
/-- (*acheron/tree.Tree).room -/
def S.tree_Tree_room (a0 : Value) (w : World) (R : Value → World → Prop) : Prop :=
 Nc a0 fun t4_1 =>
 Fa 5 t4_1 fun t5_2 =>
 Ld t5_2 w fun t6_3 =>
 Rd PP (Builtin.len_ #[Ty.map_int_tree_handle] Ty.int #[t6_3]) w fun t7_4 =>
 Bi .lss t7_4 (.int .i64 64) fun t8_5 =>
 R t8_5 w
def S.tree_Tree_room.an : Ann := (.seq .leaf (.seq .leaf .leaf))
theorem S.tree_Tree_room.eq (a0 : Value) (w : World) (R : Value → World → Prop) : S.tree_Tree_room a0 w R = fnC PP 9 (Tryz.f70.body.getD .skip) S.tree_Tree_room.an [.tmp 2] [a0] w R := by kernel_rfl
theorem S.tree_Tree_room.calls {a0 : Value} {w : World} {R : Value → World → Prop} (h : S.tree_Tree_room a0 w R) : Ca PP Fn.tree_Tree_room #[a0] w R :=
  fnC_calls mixed (f := Fn.tree_Tree_room) (an := S.tree_Tree_room.an) Tryz.func70 rfl (by show _ ≤ _; exact Nat.le_of_ble_eq_true rfl) (S.tree_Tree_room.eq a0 w R ▸ h)
/-- (*acheron/tree.Tree).change -/
def S.tree_Tree_change (a0 a1 a2 : Value) (w : World) (R : Value → World → Prop) : Prop :=
 Nc a0 fun t9_1 =>
 Fa 4 t9_1 fun t10_2 =>
 Ld t10_2 w fun t11_3 =>
 Bi .add t11_3 (.int .i64 1) fun t12_4 =>
 Nc a0 fun t13_5 =>
 Fa 4 t13_5 fun t14_6 =>
 St PP 1 t14_6 t12_4 w fun w_7 =>
 LnL a2 fun t16_8 =>
 ∃ (I_9 : List Value → World → Prop) (m_10 : List Value → World → Nat), I_9 [(.int .i64 0)] w_7 ∧ ∀ t17_13, ∀ (u_11 : Env) (w_12 : World), I_9 [t17_13] w_12 →
 Bi .lss t17_13 t16_8 fun t18_14 =>
 Cnd t18_14 (
 IxA 1 a2 t17_13 fun t19_15 =>
 Ld t19_15 w_12 fun t20_16 =>
 Nc t20_16 fun t22_17 =>
 Fa 0 t22_17 fun t23_18 =>
 Fa 0 t23_18 fun t24_19 =>
 Fa 1 t24_19 fun t25_20 =>
 Ld t25_20 w_12 fun t26_21 =>
 Bi .add t26_21 (.int .i64 1) fun t27_22 =>
 Nc t20_16 fun t28_23 =>
 Fa 0 t28_23 fun t29_24 =>
 Fa 0 t29_24 fun t30_25 =>
 Fa 1 t30_25 fun t31_26 =>
 St PP 1 t31_26 t27_22 w_12 fun w_27 =>
 Nc a0 fun t35_28 =>
 Fa 4 t35_28 fun t36_29 =>
 Ld t36_29 w_27 fun t37_30 =>
 Nc t20_16 fun t39_31 =>
 Fa 0 t39_31 fun t40_32 =>
 Fa 4 t40_32 fun t41_33 =>
 St PP 1 t41_33 t37_30 w_27 fun w_34 =>
 Nc t20_16 fun t42_35 =>
 Fa 0 t42_35 fun t43_36 =>
 Fa 9 t43_36 fun t44_37 =>
 St PP 1 t44_37 a1 w_34 fun w_38 =>
 Bi .add t17_13 (.int .i64 1) fun t45_39 =>
 I_9 [t45_39] w_38 ∧ m_10 [t45_39] w_38 < m_10 [t17_13] w_12) (
 R (.tuple #[]) w_12)
def S.tree_Tree_change.an : Ann := (.seq .leaf (.seq .leaf (.block (.loop (.seq .leaf (.seq (.cond .leaf .leaf) (.seq (.block (.seq .leaf (.seq .leaf .leaf))) .leaf))) [17] [7, 18, 19, 20, 21, 22, 23, 24, 25, 26, 27, 28, 29, 30, 31, 32, 33, 34, 35, 36, 37, 38, 39, 40, 41, 42, 43, 44, 45]))))
theorem S.tree_Tree_change.eq (a0 a1 a2 : Value) (w : World) (R : Value → World → Prop) : S.tree_Tree_change a0 a1 a2 w R = fnC PP 46 (Tryz.f71.body.getD .skip) S.tree_Tree_change.an [] [a0, a1, a2] w R := by kernel_rfl
theorem S.tree_Tree_change.calls {a0 a1 a2 : Value} {w : World} {R : Value → World → Prop} (h : S.tree_Tree_change a0 a1 a2 w R) : Ca PP Fn.tree_Tree_change #[a0, a1, a2] w R :=
  fnC_calls mixed (f := Fn.tree_Tree_change) (an := S.tree_Tree_change.an) Tryz.func71 rfl (by show _ ≤ _; exact Nat.le_of_ble_eq_true rfl) (S.tree_Tree_change.eq a0 a1 a2 w R ▸ h)
/-- (*acheron/tree.Tree).handle -/
def S.tree_Tree_handle (a0 a1 a2 a3 : Value) (w : World) (R : Value → World → Prop) : Prop :=
 Al Ty.api_Qid #[.int .i64 0, .int .i64 0, .int .i64 0] w fun t9_1 w_2 =>
 ∃ (I_3 : List Value → World → Prop) (m_4 : List Value → World → Nat), I_3 [(.int .i64 1)] w_2 ∧ ∀ t11_7, ∀ (u_5 : Env) (w_6 : World), I_3 [t11_7] w_6 →
 Nc a0 fun t13_8 =>
 Fa 5 t13_8 fun t14_9 =>
 Ld t14_9 w_6 fun t15_10 =>
 Rd PP (Instr.lookup Ty.map_int_tree_handle t15_10 t11_7 false) w_6 fun t17_11 =>
 Fi 0 t17_11 fun t18_12 =>
 Rd PP (eqS .neq Ty.p_tree_node (.tmp 18) (.const (.pointer none)) t18_12 (.pointer none)) w_6 fun t19_13 =>
 Cnd t19_13 (
 Bi .add t11_7 (.int .i64 1) fun t21_14 =>
 I_3 [t21_14] w_6 ∧ m_4 [t21_14] w_6 < m_4 [t11_7] w_6) (
 Nc a0 fun t23_15 =>
 Fa 5 t23_15 fun t24_16 =>
 Ld t24_16 w_6 fun t25_17 =>
 Bd #[.pointer none, .int .i64 0, .string ⟨#[]⟩] [(0, 1), (1, 1), (2, 1)] [(0, a1), (1, a2), (2, a3)] fun t30_18 =>
 Ef PP (Instr.mapUpdate Ty.map_int_tree_handle t25_17 t11_7 t30_18) w_6 fun _ w_19 =>
 Dr w_19 fun w_20 =>
 Nc a1 fun t33_21 =>
 Fa 0 t33_21 fun t34_22 =>
 Fa 0 t34_22 fun t35_23 =>
 LdA PP 3 t35_23 w_20 fun t36_24 =>
 St PP 3 t9_1 t36_24 w_20 fun w_25 =>
 LdA PP 3 t9_1 w_25 fun t9_26 =>
 R (.tuple #[t11_7, t9_26, (.int .i64 0)]) w_25)
def S.tree_Tree_handle.an : Ann := (.seq .leaf (.seq .leaf (.seq (.block (.loop (.seq (.seq .leaf (.cond .leaf .leaf)) (.seq (.block .leaf) .leaf)) [11] [12, 13, 14, 15, 16, 17, 18, 19, 20, 21])) (.seq .leaf (.seq (.draw [[], [], [1], [1, 2], [1, 2, 3], [1, 2, 3, 4], [0], [0, 1, 2, 3, 4, 5, 6], [0, 1, 2, 3, 4, 5, 6, 7]] (.calm 0 (.calm 1 (.calm 2 (.calm 3 (.calm 4 (.calm 5 (.calm 6 (.eff1 7 [] (.calm 8 .done)))))))))) .leaf)))))
theorem S.tree_Tree_handle.eq (a0 a1 a2 a3 : Value) (w : World) (R : Value → World → Prop) : S.tree_Tree_handle a0 a1 a2 a3 w R = fnC PP 37 (Tryz.f72.body.getD .skip) S.tree_Tree_handle.an [.tmp 8, .cell 9 37, .tmp 10] [a0, a1, a2, a3] w R := by kernel_rfl
theorem S.tree_Tree_handle.calls {a0 a1 a2 a3 : Value} {w : World} {R : Value → World → Prop} (h : S.tree_Tree_handle a0 a1 a2 a3 w R) : Ca PP Fn.tree_Tree_handle #[a0, a1, a2, a3] w R :=
  fnC_calls mixed (f := Fn.tree_Tree_handle) (an := S.tree_Tree_handle.an) Tryz.func72 rfl (by show _ ≤ _; exact Nat.le_of_ble_eq_true rfl) (S.tree_Tree_handle.eq a0 a1 a2 a3 w R ▸ h)
/-- (*acheron/tree.Tree).opened -/
def S.tree_Tree_opened (a0 a1 : Value) (w : World) (R : Value → World → Prop) : Prop :=
 Al Ty.tree_handle #[.pointer none, .int .i64 0, .string ⟨#[]⟩] w fun t4_1 w_2 =>
 Rd PP (eqS .eql Ty.p_tree_Tree (.tmp 8) (.const (.pointer none)) a0 (.pointer none)) w_2 fun t9_3 =>
 Cnd t9_3 (
 Bd #[.pointer none, .int .i64 0, .string ⟨#[]⟩] [(0, 1), (1, 1), (2, 1)] [] fun t10_4 =>
 St PP 3 t4_1 t10_4 w_2 fun w_5 =>
 LdA PP 3 t4_1 w_5 fun t4_6 =>
 R (.tuple #[t4_6, (.int .i64 6)]) w_5) (
 Nc a0 fun t13_7 =>
 Fa 5 t13_7 fun t14_8 =>
 Ld t14_8 w_2 fun t15_9 =>
 Rd PP (Instr.lookup Ty.map_int_tree_handle t15_9 a1 true) w_2 fun t17_10 =>
 Ex t17_10 0 fun t18_11 =>
 Ex t17_10 1 fun t19_12 =>
 Al Ty.tree_handle #[.pointer none, .int .i64 0, .string ⟨#[]⟩] w_2 fun t6_13 w_14 =>
 St PP 3 t6_13 t18_11 w_14 fun w_15 =>
 Cnd t19_12 (
 LdA PP 3 t6_13 w_15 fun t21_16 =>
 St PP 3 t4_1 t21_16 w_15 fun w_17 =>
 LdA PP 3 t4_1 w_17 fun t4_18 =>
 R (.tuple #[t4_18, (.int .i64 0)]) w_17) (
 Bd #[.pointer none, .int .i64 0, .string ⟨#[]⟩] [(0, 1), (1, 1), (2, 1)] [] fun t22_19 =>
 St PP 3 t4_1 t22_19 w_15 fun w_20 =>
 LdA PP 3 t4_1 w_20 fun t4_21 =>
 R (.tuple #[t4_21, (.int .i64 19)]) w_20))
def S.tree_Tree_opened.an : Ann := (.seq .leaf (.seq (.seq .leaf (.cond (.seq .leaf .leaf) .leaf)) (.seq (.seq .leaf (.seq .leaf (.cond (.seq .leaf .leaf) .leaf))) (.seq .leaf .leaf))))
theorem S.tree_Tree_opened.eq (a0 a1 : Value) (w : World) (R : Value → World → Prop) : S.tree_Tree_opened a0 a1 w R = fnC PP 23 (Tryz.f73.body.getD .skip) S.tree_Tree_opened.an [.cell 4 141, .tmp 5] [a0, a1] w R := by kernel_rfl
theorem S.tree_Tree_opened.calls {a0 a1 : Value} {w : World} {R : Value → World → Prop} (h : S.tree_Tree_opened a0 a1 w R) : Ca PP Fn.tree_Tree_opened #[a0, a1] w R :=
  fnC_calls mixed (f := Fn.tree_Tree_opened) (an := S.tree_Tree_opened.an) Tryz.func73 rfl (by show _ ≤ _; exact Nat.le_of_ble_eq_true rfl) (S.tree_Tree_opened.eq a0 a1 w R ▸ h)
/-- (*acheron/tree.node).resize -/
def S.tree_node_resize (a0 a1 : Value) (w : World) (R : Value → World → Prop) : Prop :=
 Ef PP (Instr.makeSlice Ty.sl_uint8 a1 a1) w fun t6_1 w_2 =>
 Nc a0 fun t9_3 =>
 Fa 10 t9_3 fun t10_4 =>
 Ld t10_4 w_2 fun t11_5 =>
 Ef PP (Builtin.copy_ #[Ty.sl_uint8, Ty.sl_uint8] Ty.int #[t6_1, t11_5]) w_2 fun t12_6 w_7 =>
 Nc a0 fun t15_8 =>
 Fa 10 t15_8 fun t16_9 =>
 St PP 1 t16_9 t6_1 w_7 fun w_10 =>
 R (.tuple #[]) w_10
def S.tree_node_resize.an : Ann := (.seq .leaf (.seq .leaf .leaf))
theorem S.tree_node_resize.eq (a0 a1 : Value) (w : World) (R : Value → World → Prop) : S.tree_node_resize a0 a1 w R = fnC PP 17 (Tryz.f75.body.getD .skip) S.tree_node_resize.an [] [a0, a1] w R := by kernel_rfl
theorem S.tree_node_resize.calls {a0 a1 : Value} {w : World} {R : Value → World → Prop} (h : S.tree_node_resize a0 a1 w R) : Ca PP Fn.tree_node_resize #[a0, a1] w R :=
  fnC_calls mixed (f := Fn.tree_node_resize) (an := S.tree_node_resize.an) Tryz.func75 rfl (by show _ ≤ _; exact Nat.le_of_ble_eq_true rfl) (S.tree_node_resize.eq a0 a1 w R ▸ h)
/-- (*acheron/tree.Tree).find -/
def S.tree_Tree_find (a0 a1 : Value) (w : World) (R : Value → World → Prop) : Prop :=
 Rd PP (eqS .eql Ty.p_tree_Tree (.tmp 8) (.const (.pointer none)) a0 (.pointer none)) w fun t9_1 =>
 Cnd t9_1 (
 R (.tuple #[(.pointer none), (.int .i64 6)]) w) (
 Nc a0 fun t12_2 =>
 Fa 1 t12_2 fun t13_3 =>
 Ld t13_3 w fun t14_4 =>
 Rd PP (Instr.lookup Ty.map_int64_p_tree_node t14_4 a1 true) w fun t16_5 =>
 Ex t16_5 0 fun t17_6 =>
 Ex t16_5 1 fun t18_7 =>
 Cnd t18_7 (
 R (.tuple #[t17_6, (.int .i64 0)]) w) (
 R (.tuple #[(.pointer none), (.int .i64 4)]) w))
def S.tree_Tree_find.an : Ann := (.seq .leaf (.seq (.seq .leaf (.cond (.seq .leaf .leaf) .leaf)) (.seq (.seq .leaf (.seq .leaf (.cond (.seq .leaf .leaf) .leaf))) (.seq .leaf .leaf))))
theorem S.tree_Tree_find.eq (a0 a1 : Value) (w : World) (R : Value → World → Prop) : S.tree_Tree_find a0 a1 w R = fnC PP 21 (Tryz.f76.body.getD .skip) S.tree_Tree_find.an [.tmp 4, .tmp 5] [a0, a1] w R := by kernel_rfl
theorem S.tree_Tree_find.calls {a0 a1 : Value} {w : World} {R : Value → World → Prop} (h : S.tree_Tree_find a0 a1 w R) : Ca PP Fn.tree_Tree_find #[a0, a1] w R :=
  fnC_calls mixed (f := Fn.tree_Tree_find) (an := S.tree_Tree_find.an) Tryz.func76 rfl (by show _ ≤ _; exact Nat.le_of_ble_eq_true rfl) (S.tree_Tree_find.eq a0 a1 w R ▸ h)
/-- (*acheron/tree.node).stat -/
def S.tree_node_stat (a0 : Value) (w : World) (R : Value → World → Prop) : Prop :=
 Al Ty.api_Dir #[.int .i64 0, .int .i64 0, .int .i64 0, .int .i64 0, .int .i64 0, .int .i64 0, .string ⟨#[]⟩, .string ⟨#[]⟩, .string ⟨#[]⟩, .string ⟨#[]⟩] w fun t2_1 w_2 =>
 Nc a0 fun t5_3 =>
 Fa 0 t5_3 fun t6_4 =>
 LdA PP 10 t6_4 w_2 fun t7_5 =>
 Al Ty.api_Dir #[.int .i64 0, .int .i64 0, .int .i64 0, .int .i64 0, .int .i64 0, .int .i64 0, .string ⟨#[]⟩, .string ⟨#[]⟩, .string ⟨#[]⟩, .string ⟨#[]⟩] w_2 fun t3_6 w_7 =>
 St PP 10 t3_6 t7_5 w_7 fun w_8 =>
 Nc a0 fun t9_9 =>
 Fa 10 t9_9 fun t10_10 =>
 Ld t10_10 w_8 fun t11_11 =>
 LnL t11_11 fun t12_12 =>
 Fa 5 t3_6 fun t13_13 =>
 St PP 1 t13_13 t12_12 w_8 fun w_14 =>
 LdA PP 10 t3_6 w_14 fun t14_15 =>
 St PP 10 t2_1 t14_15 w_14 fun w_16 =>
 LdA PP 10 t2_1 w_16 fun t2_17 =>
 R t2_17 w_16
def S.tree_node_stat.an : Ann := (.seq .leaf (.seq .leaf (.seq .leaf (.seq .leaf .leaf))))
theorem S.tree_node_stat.eq (a0 : Value) (w : World) (R : Value → World → Prop) : S.tree_node_stat a0 w R = fnC PP 15 (Tryz.f77.body.getD .skip) S.tree_node_stat.an [.cell 2 51] [a0] w R := by kernel_rfl
theorem S.tree_node_stat.calls {a0 : Value} {w : World} {R : Value → World → Prop} (h : S.tree_node_stat a0 w R) : Ca PP Fn.tree_node_stat #[a0] w R :=
  fnC_calls mixed (f := Fn.tree_node_stat) (an := S.tree_node_stat.an) Tryz.func77 rfl (by show _ ≤ _; exact Nat.le_of_ble_eq_true rfl) (S.tree_node_stat.eq a0 w R ▸ h)
end Go.Proofs.YtnnhmahemklnkaaGreatDoor
