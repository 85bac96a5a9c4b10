/- Own text. -/
import Derived.Test.YtnnhmahemklnkaaGreatDoorSc
namespace Go.Proofs.YtnnhmahemklnkaaGreatDoor
open Go Go.Sh
set_option linter.unusedVariables false
set_option maxRecDepth 100000
/-- (*acheron/tree.Tree).Clone -/
def S.tree_Tree_Clone (a0 : Value) (w : World) (R : Value → World → Prop) : Prop :=
 Rd PP (eqS .eql Ty.p_tree_Tree (.tmp 7) (.const (.pointer none)) a0 (.pointer none)) w fun t1 =>
 Cnd t1 (
 R (.pointer none) w) (
 Dr w fun w2 =>
 Nc a0 fun t3 =>
 Fa 3 t3 fun t4 =>
 Ld t4 w2 fun t5 =>
 Nc a0 fun t6 =>
 Fa 4 t6 fun t7 =>
 Ld t7 w2 fun t8 =>
 (MkM w2 fun t9 w10 =>
 (Ld t4 w10 fun t11 =>
 t11 = t5) ∧
 (Ld t7 w10 fun t12 =>
 t12 = t8) ∧
 (MkM w10 fun t13 w14 =>
 (Ld t4 w14 fun t15 =>
 t15 = t5) ∧
 (Ld t7 w14 fun t16 =>
 t16 = t8) ∧
 (MkM w14 fun t17 w18 =>
 (Ld t4 w18 fun t19 =>
 t19 = t5) ∧
 (Ld t7 w18 fun t20 =>
 t20 = t8) ∧
 Bd #[.pointer none, .map none, .map none, .int .i64 0, .int .i64 0, .map none] [(0, 1), (1, 1), (2, 1), (3, 1), (4, 1), (5, 1)] [(1, t9), (2, t13), (3, t5), (4, t8), (5, t17)] fun t21 =>
 (Al Ty.tree_Tree (t21 : Value).cells w18 fun t22 w23 =>
 Al Ty.p_tree_Tree #[.pointer none] w23 fun t24 w25 =>
 (Ld t4 w25 fun t26 =>
 t26 = t5) ∧
 (Ld t7 w25 fun t27 =>
 t27 = t8) ∧
 St PP 1 t24 t22 w25 fun w28 =>
 Nc a0 fun t29 =>
 Fa 2 t29 fun t30 =>
 Ld t30 w28 fun t31 =>
 Ef PP (Instr.range Ty.map_string_sl_string t31) w28 fun t32 w33 =>
 ∃ (I34 : List Value → World → Prop) (m35 : List Value → World → Nat), I34 [] w33 ∧ ∀ (u36 : Env) (w37 : World), I34 [] w37 →
 Ef PP (Instr.next t32 false Ty.t) w37 fun t38 w39 =>
 Ex t38 0 fun t40 =>
 Cnd t40 (
 Rd PP (Instr.entry t32) w39 fun t41 =>
 Ex t41 0 fun t42 =>
 Ex t41 1 fun t43 =>
 Dr w39 fun w44 =>
 Ld t24 w44 fun t45 =>
 Nc t45 fun t46 =>
 Fa 2 t46 fun t47 =>
 Ld t47 w44 fun t48 =>
 Ca PP Fn.slices_Clone_sl_string_string #[t43] w44 fun t49 w50 =>
 (Ld t24 w50 fun t51 =>
 t51 = t45) ∧
 (Ld t47 w50 fun t52 =>
 t52 = t48) ∧
 Ef PP (Instr.mapUpdate Ty.map_string_sl_string t48 t42 t49) w50 fun _ w53 =>
 I34 [] w53 ∧ m35 [] w53 < m35 [] w37) (
 Al Ty.functree_node_p_tree_node_p_tree_node #[.nilFunc] w39 fun t54 w55 =>
 St PP 1 t54 (.func (.func Fn.tree_Tree_Clone_1) #[] #[t54, t24]) w55 fun w56 =>
 Dr w56 fun w57 =>
 Ld t24 w57 fun t58 =>
 Ld t54 w57 fun t59 =>
 Nc a0 fun t60 =>
 Fa 0 t60 fun t61 =>
 Ld t61 w57 fun t62 =>
 CaV PP t59 #[t62, (.pointer none)] w57 fun t63 w64 =>
 (Ld t24 w64 fun t65 =>
 t65 = t58) ∧
 Nc t58 fun t66 =>
 Fa 0 t66 fun t67 =>
 St PP 1 t67 t63 w64 fun w68 =>
 Ld t24 w68 fun t69 =>
 R t69 w68)) ∧ (Al Ty.p_tree_Tree #[.pointer none] w18 fun t70 w71 =>
 (Ld t4 w71 fun t72 =>
 t72 = t5) ∧
 (Ld t7 w71 fun t73 =>
 t73 = t8) ∧
 Al Ty.tree_Tree (t21 : Value).cells w71 fun t74 w75 =>
 St PP 1 t70 t74 w75 fun w76 =>
 Nc a0 fun t77 =>
 Fa 2 t77 fun t78 =>
 Ld t78 w76 fun t79 =>
 Ef PP (Instr.range Ty.map_string_sl_string t79) w76 fun t80 w81 =>
 ∃ (I82 : List Value → World → Prop) (m83 : List Value → World → Nat), I82 [] w81 ∧ ∀ (u84 : Env) (w85 : World), I82 [] w85 →
 Ef PP (Instr.next t80 false Ty.t) w85 fun t86 w87 =>
 Ex t86 0 fun t88 =>
 Cnd t88 (
 Rd PP (Instr.entry t80) w87 fun t89 =>
 Ex t89 0 fun t90 =>
 Ex t89 1 fun t91 =>
 Dr w87 fun w92 =>
 Ld t70 w92 fun t93 =>
 Nc t93 fun t94 =>
 Fa 2 t94 fun t95 =>
 Ld t95 w92 fun t96 =>
 Ca PP Fn.slices_Clone_sl_string_string #[t91] w92 fun t97 w98 =>
 (Ld t70 w98 fun t99 =>
 t99 = t93) ∧
 (Ld t95 w98 fun t100 =>
 t100 = t96) ∧
 Ef PP (Instr.mapUpdate Ty.map_string_sl_string t96 t90 t97) w98 fun _ w101 =>
 I82 [] w101 ∧ m83 [] w101 < m83 [] w85) (
 Al Ty.functree_node_p_tree_node_p_tree_node #[.nilFunc] w87 fun t102 w103 =>
 St PP 1 t102 (.func (.func Fn.tree_Tree_Clone_1) #[] #[t102, t70]) w103 fun w104 =>
 Dr w104 fun w105 =>
 Ld t70 w105 fun t106 =>
 Ld t102 w105 fun t107 =>
 Nc a0 fun t108 =>
 Fa 0 t108 fun t109 =>
 Ld t109 w105 fun t110 =>
 CaV PP t107 #[t110, (.pointer none)] w105 fun t111 w112 =>
 (Ld t70 w112 fun t113 =>
 t113 = t106) ∧
 Nc t106 fun t114 =>
 Fa 0 t114 fun t115 =>
 St PP 1 t115 t111 w112 fun w116 =>
 Ld t70 w116 fun t117 =>
 R t117 w116)) ∧ True) ∧ (Al Ty.p_tree_Tree #[.pointer none] w14 fun t118 w119 =>
 (Ld t4 w119 fun t120 =>
 t120 = t5) ∧
 (Ld t7 w119 fun t121 =>
 t121 = t8) ∧
 MkM w119 fun t122 w123 =>
 (Ld t4 w123 fun t124 =>
 t124 = t5) ∧
 (Ld t7 w123 fun t125 =>
 t125 = t8) ∧
 Bd #[.pointer none, .map none, .map none, .int .i64 0, .int .i64 0, .map none] [(0, 1), (1, 1), (2, 1), (3, 1), (4, 1), (5, 1)] [(1, t9), (2, t13), (3, t5), (4, t8), (5, t122)] fun t126 =>
 Al Ty.tree_Tree (t126 : Value).cells w123 fun t127 w128 =>
 St PP 1 t118 t127 w128 fun w129 =>
 Nc a0 fun t130 =>
 Fa 2 t130 fun t131 =>
 Ld t131 w129 fun t132 =>
 Ef PP (Instr.range Ty.map_string_sl_string t132) w129 fun t133 w134 =>
 ∃ (I135 : List Value → World → Prop) (m136 : List Value → World → Nat), I135 [] w134 ∧ ∀ (u137 : Env) (w138 : World), I135 [] w138 →
 Ef PP (Instr.next t133 false Ty.t) w138 fun t139 w140 =>
 Ex t139 0 fun t141 =>
 Cnd t141 (
 Rd PP (Instr.entry t133) w140 fun t142 =>
 Ex t142 0 fun t143 =>
 Ex t142 1 fun t144 =>
 Dr w140 fun w145 =>
 Ld t118 w145 fun t146 =>
 Nc t146 fun t147 =>
 Fa 2 t147 fun t148 =>
 Ld t148 w145 fun t149 =>
 Ca PP Fn.slices_Clone_sl_string_string #[t144] w145 fun t150 w151 =>
 (Ld t118 w151 fun t152 =>
 t152 = t146) ∧
 (Ld t148 w151 fun t153 =>
 t153 = t149) ∧
 Ef PP (Instr.mapUpdate Ty.map_string_sl_string t149 t143 t150) w151 fun _ w154 =>
 I135 [] w154 ∧ m136 [] w154 < m136 [] w138) (
 Al Ty.functree_node_p_tree_node_p_tree_node #[.nilFunc] w140 fun t155 w156 =>
 St PP 1 t155 (.func (.func Fn.tree_Tree_Clone_1) #[] #[t155, t118]) w156 fun w157 =>
 Dr w157 fun w158 =>
 Ld t118 w158 fun t159 =>
 Ld t155 w158 fun t160 =>
 Nc a0 fun t161 =>
 Fa 0 t161 fun t162 =>
 Ld t162 w158 fun t163 =>
 CaV PP t160 #[t163, (.pointer none)] w158 fun t164 w165 =>
 (Ld t118 w165 fun t166 =>
 t166 = t159) ∧
 Nc t159 fun t167 =>
 Fa 0 t167 fun t168 =>
 St PP 1 t168 t164 w165 fun w169 =>
 Ld t118 w169 fun t170 =>
 R t170 w169)) ∧ True) ∧ (MkM w10 fun t171 w172 =>
 (Ld t4 w172 fun t173 =>
 t173 = t5) ∧
 (Ld t7 w172 fun t174 =>
 t174 = t8) ∧
 (MkM w172 fun t175 w176 =>
 (Ld t4 w176 fun t177 =>
 t177 = t5) ∧
 (Ld t7 w176 fun t178 =>
 t178 = t8) ∧
 Bd #[.pointer none, .map none, .map none, .int .i64 0, .int .i64 0, .map none] [(0, 1), (1, 1), (2, 1), (3, 1), (4, 1), (5, 1)] [(1, t9), (2, t175), (3, t5), (4, t8), (5, t171)] fun t179 =>
 (Al Ty.tree_Tree (t179 : Value).cells w176 fun t180 w181 =>
 Al Ty.p_tree_Tree #[.pointer none] w181 fun t182 w183 =>
 (Ld t4 w183 fun t184 =>
 t184 = t5) ∧
 (Ld t7 w183 fun t185 =>
 t185 = t8) ∧
 St PP 1 t182 t180 w183 fun w186 =>
 Nc a0 fun t187 =>
 Fa 2 t187 fun t188 =>
 Ld t188 w186 fun t189 =>
 Ef PP (Instr.range Ty.map_string_sl_string t189) w186 fun t190 w191 =>
 ∃ (I192 : List Value → World → Prop) (m193 : List Value → World → Nat), I192 [] w191 ∧ ∀ (u194 : Env) (w195 : World), I192 [] w195 →
 Ef PP (Instr.next t190 false Ty.t) w195 fun t196 w197 =>
 Ex t196 0 fun t198 =>
 Cnd t198 (
 Rd PP (Instr.entry t190) w197 fun t199 =>
 Ex t199 0 fun t200 =>
 Ex t199 1 fun t201 =>
 Dr w197 fun w202 =>
 Ld t182 w202 fun t203 =>
 Nc t203 fun t204 =>
 Fa 2 t204 fun t205 =>
 Ld t205 w202 fun t206 =>
 Ca PP Fn.slices_Clone_sl_string_string #[t201] w202 fun t207 w208 =>
 (Ld t182 w208 fun t209 =>
 t209 = t203) ∧
 (Ld t205 w208 fun t210 =>
 t210 = t206) ∧
 Ef PP (Instr.mapUpdate Ty.map_string_sl_string t206 t200 t207) w208 fun _ w211 =>
 I192 [] w211 ∧ m193 [] w211 < m193 [] w195) (
 Al Ty.functree_node_p_tree_node_p_tree_node #[.nilFunc] w197 fun t212 w213 =>
 St PP 1 t212 (.func (.func Fn.tree_Tree_Clone_1) #[] #[t212, t182]) w213 fun w214 =>
 Dr w214 fun w215 =>
 Ld t182 w215 fun t216 =>
 Ld t212 w215 fun t217 =>
 Nc a0 fun t218 =>
 Fa 0 t218 fun t219 =>
 Ld t219 w215 fun t220 =>
 CaV PP t217 #[t220, (.pointer none)] w215 fun t221 w222 =>
 (Ld t182 w222 fun t223 =>
 t223 = t216) ∧
 Nc t216 fun t224 =>
 Fa 0 t224 fun t225 =>
 St PP 1 t225 t221 w222 fun w226 =>
 Ld t182 w226 fun t227 =>
 R t227 w226)) ∧ (Al Ty.p_tree_Tree #[.pointer none] w176 fun t228 w229 =>
 (Ld t4 w229 fun t230 =>
 t230 = t5) ∧
 (Ld t7 w229 fun t231 =>
 t231 = t8) ∧
 Al Ty.tree_Tree (t179 : Value).cells w229 fun t232 w233 =>
 St PP 1 t228 t232 w233 fun w234 =>
 Nc a0 fun t235 =>
 Fa 2 t235 fun t236 =>
 Ld t236 w234 fun t237 =>
 Ef PP (Instr.range Ty.map_string_sl_string t237) w234 fun t238 w239 =>
 ∃ (I240 : List Value → World → Prop) (m241 : List Value → World → Nat), I240 [] w239 ∧ ∀ (u242 : Env) (w243 : World), I240 [] w243 →
 Ef PP (Instr.next t238 false Ty.t) w243 fun t244 w245 =>
 Ex t244 0 fun t246 =>
 Cnd t246 (
 Rd PP (Instr.entry t238) w245 fun t247 =>
 Ex t247 0 fun t248 =>
 Ex t247 1 fun t249 =>
 Dr w245 fun w250 =>
 Ld t228 w250 fun t251 =>
 Nc t251 fun t252 =>
 Fa 2 t252 fun t253 =>
 Ld t253 w250 fun t254 =>
 Ca PP Fn.slices_Clone_sl_string_string #[t249] w250 fun t255 w256 =>
 (Ld t228 w256 fun t257 =>
 t257 = t251) ∧
 (Ld t253 w256 fun t258 =>
 t258 = t254) ∧
 Ef PP (Instr.mapUpdate Ty.map_string_sl_string t254 t248 t255) w256 fun _ w259 =>
 I240 [] w259 ∧ m241 [] w259 < m241 [] w243) (
 Al Ty.functree_node_p_tree_node_p_tree_node #[.nilFunc] w245 fun t260 w261 =>
 St PP 1 t260 (.func (.func Fn.tree_Tree_Clone_1) #[] #[t260, t228]) w261 fun w262 =>
 Dr w262 fun w263 =>
 Ld t228 w263 fun t264 =>
 Ld t260 w263 fun t265 =>
 Nc a0 fun t266 =>
 Fa 0 t266 fun t267 =>
 Ld t267 w263 fun t268 =>
 CaV PP t265 #[t268, (.pointer none)] w263 fun t269 w270 =>
 (Ld t228 w270 fun t271 =>
 t271 = t264) ∧
 Nc t264 fun t272 =>
 Fa 0 t272 fun t273 =>
 St PP 1 t273 t269 w270 fun w274 =>
 Ld t228 w274 fun t275 =>
 R t275 w274)) ∧ True) ∧ (Al Ty.p_tree_Tree #[.pointer none] w172 fun t276 w277 =>
 (Ld t4 w277 fun t278 =>
 t278 = t5) ∧
 (Ld t7 w277 fun t279 =>
 t279 = t8) ∧
 MkM w277 fun t280 w281 =>
 (Ld t4 w281 fun t282 =>
 t282 = t5) ∧
 (Ld t7 w281 fun t283 =>
 t283 = t8) ∧
 Bd #[.pointer none, .map none, .map none, .int .i64 0, .int .i64 0, .map none] [(0, 1), (1, 1), (2, 1), (3, 1), (4, 1), (5, 1)] [(1, t9), (2, t280), (3, t5), (4, t8), (5, t171)] fun t284 =>
 Al Ty.tree_Tree (t284 : Value).cells w281 fun t285 w286 =>
 St PP 1 t276 t285 w286 fun w287 =>
 Nc a0 fun t288 =>
 Fa 2 t288 fun t289 =>
 Ld t289 w287 fun t290 =>
 Ef PP (Instr.range Ty.map_string_sl_string t290) w287 fun t291 w292 =>
 ∃ (I293 : List Value → World → Prop) (m294 : List Value → World → Nat), I293 [] w292 ∧ ∀ (u295 : Env) (w296 : World), I293 [] w296 →
 Ef PP (Instr.next t291 false Ty.t) w296 fun t297 w298 =>
 Ex t297 0 fun t299 =>
 Cnd t299 (
 Rd PP (Instr.entry t291) w298 fun t300 =>
 Ex t300 0 fun t301 =>
 Ex t300 1 fun t302 =>
 Dr w298 fun w303 =>
 Ld t276 w303 fun t304 =>
 Nc t304 fun t305 =>
 Fa 2 t305 fun t306 =>
 Ld t306 w303 fun t307 =>
 Ca PP Fn.slices_Clone_sl_string_string #[t302] w303 fun t308 w309 =>
 (Ld t276 w309 fun t310 =>
 t310 = t304) ∧
 (Ld t306 w309 fun t311 =>
 t311 = t307) ∧
 Ef PP (Instr.mapUpdate Ty.map_string_sl_string t307 t301 t308) w309 fun _ w312 =>
 I293 [] w312 ∧ m294 [] w312 < m294 [] w296) (
 Al Ty.functree_node_p_tree_node_p_tree_node #[.nilFunc] w298 fun t313 w314 =>
 St PP 1 t313 (.func (.func Fn.tree_Tree_Clone_1) #[] #[t313, t276]) w314 fun w315 =>
 Dr w315 fun w316 =>
 Ld t276 w316 fun t317 =>
 Ld t313 w316 fun t318 =>
 Nc a0 fun t319 =>
 Fa 0 t319 fun t320 =>
 Ld t320 w316 fun t321 =>
 CaV PP t318 #[t321, (.pointer none)] w316 fun t322 w323 =>
 (Ld t276 w323 fun t324 =>
 t324 = t317) ∧
 Nc t317 fun t325 =>
 Fa 0 t325 fun t326 =>
 St PP 1 t326 t322 w323 fun w327 =>
 Ld t276 w327 fun t328 =>
 R t328 w327)) ∧ True) ∧ (Al Ty.p_tree_Tree #[.pointer none] w10 fun t329 w330 =>
 (Ld t4 w330 fun t331 =>
 t331 = t5) ∧
 (Ld t7 w330 fun t332 =>
 t332 = t8) ∧
 (MkM w330 fun t333 w334 =>
 (Ld t4 w334 fun t335 =>
 t335 = t5) ∧
 (Ld t7 w334 fun t336 =>
 t336 = t8) ∧
 MkM w334 fun t337 w338 =>
 (Ld t4 w338 fun t339 =>
 t339 = t5) ∧
 (Ld t7 w338 fun t340 =>
 t340 = t8) ∧
 Bd #[.pointer none, .map none, .map none, .int .i64 0, .int .i64 0, .map none] [(0, 1), (1, 1), (2, 1), (3, 1), (4, 1), (5, 1)] [(1, t9), (2, t333), (3, t5), (4, t8), (5, t337)] fun t341 =>
 Al Ty.tree_Tree (t341 : Value).cells w338 fun t342 w343 =>
 St PP 1 t329 t342 w343 fun w344 =>
 Nc a0 fun t345 =>
 Fa 2 t345 fun t346 =>
 Ld t346 w344 fun t347 =>
 Ef PP (Instr.range Ty.map_string_sl_string t347) w344 fun t348 w349 =>
 ∃ (I350 : List Value → World → Prop) (m351 : List Value → World → Nat), I350 [] w349 ∧ ∀ (u352 : Env) (w353 : World), I350 [] w353 →
 Ef PP (Instr.next t348 false Ty.t) w353 fun t354 w355 =>
 Ex t354 0 fun t356 =>
 Cnd t356 (
 Rd PP (Instr.entry t348) w355 fun t357 =>
 Ex t357 0 fun t358 =>
 Ex t357 1 fun t359 =>
 Dr w355 fun w360 =>
 Ld t329 w360 fun t361 =>
 Nc t361 fun t362 =>
 Fa 2 t362 fun t363 =>
 Ld t363 w360 fun t364 =>
 Ca PP Fn.slices_Clone_sl_string_string #[t359] w360 fun t365 w366 =>
 (Ld t329 w366 fun t367 =>
 t367 = t361) ∧
 (Ld t363 w366 fun t368 =>
 t368 = t364) ∧
 Ef PP (Instr.mapUpdate Ty.map_string_sl_string t364 t358 t365) w366 fun _ w369 =>
 I350 [] w369 ∧ m351 [] w369 < m351 [] w353) (
 Al Ty.functree_node_p_tree_node_p_tree_node #[.nilFunc] w355 fun t370 w371 =>
 St PP 1 t370 (.func (.func Fn.tree_Tree_Clone_1) #[] #[t370, t329]) w371 fun w372 =>
 Dr w372 fun w373 =>
 Ld t329 w373 fun t374 =>
 Ld t370 w373 fun t375 =>
 Nc a0 fun t376 =>
 Fa 0 t376 fun t377 =>
 Ld t377 w373 fun t378 =>
 CaV PP t375 #[t378, (.pointer none)] w373 fun t379 w380 =>
 (Ld t329 w380 fun t381 =>
 t381 = t374) ∧
 Nc t374 fun t382 =>
 Fa 0 t382 fun t383 =>
 St PP 1 t383 t379 w380 fun w384 =>
 Ld t329 w384 fun t385 =>
 R t385 w384)) ∧ (MkM w330 fun t386 w387 =>
 (Ld t4 w387 fun t388 =>
 t388 = t5) ∧
 (Ld t7 w387 fun t389 =>
 t389 = t8) ∧
 MkM w387 fun t390 w391 =>
 (Ld t4 w391 fun t392 =>
 t392 = t5) ∧
 (Ld t7 w391 fun t393 =>
 t393 = t8) ∧
 Bd #[.pointer none, .map none, .map none, .int .i64 0, .int .i64 0, .map none] [(0, 1), (1, 1), (2, 1), (3, 1), (4, 1), (5, 1)] [(1, t9), (2, t390), (3, t5), (4, t8), (5, t386)] fun t394 =>
 Al Ty.tree_Tree (t394 : Value).cells w391 fun t395 w396 =>
 St PP 1 t329 t395 w396 fun w397 =>
 Nc a0 fun t398 =>
 Fa 2 t398 fun t399 =>
 Ld t399 w397 fun t400 =>
 Ef PP (Instr.range Ty.map_string_sl_string t400) w397 fun t401 w402 =>
 ∃ (I403 : List Value → World → Prop) (m404 : List Value → World → Nat), I403 [] w402 ∧ ∀ (u405 : Env) (w406 : World), I403 [] w406 →
 Ef PP (Instr.next t401 false Ty.t) w406 fun t407 w408 =>
 Ex t407 0 fun t409 =>
 Cnd t409 (
 Rd PP (Instr.entry t401) w408 fun t410 =>
 Ex t410 0 fun t411 =>
 Ex t410 1 fun t412 =>
 Dr w408 fun w413 =>
 Ld t329 w413 fun t414 =>
 Nc t414 fun t415 =>
 Fa 2 t415 fun t416 =>
 Ld t416 w413 fun t417 =>
 Ca PP Fn.slices_Clone_sl_string_string #[t412] w413 fun t418 w419 =>
 (Ld t329 w419 fun t420 =>
 t420 = t414) ∧
 (Ld t416 w419 fun t421 =>
 t421 = t417) ∧
 Ef PP (Instr.mapUpdate Ty.map_string_sl_string t417 t411 t418) w419 fun _ w422 =>
 I403 [] w422 ∧ m404 [] w422 < m404 [] w406) (
 Al Ty.functree_node_p_tree_node_p_tree_node #[.nilFunc] w408 fun t423 w424 =>
 St PP 1 t423 (.func (.func Fn.tree_Tree_Clone_1) #[] #[t423, t329]) w424 fun w425 =>
 Dr w425 fun w426 =>
 Ld t329 w426 fun t427 =>
 Ld t423 w426 fun t428 =>
 Nc a0 fun t429 =>
 Fa 0 t429 fun t430 =>
 Ld t430 w426 fun t431 =>
 CaV PP t428 #[t431, (.pointer none)] w426 fun t432 w433 =>
 (Ld t329 w433 fun t434 =>
 t434 = t427) ∧
 Nc t427 fun t435 =>
 Fa 0 t435 fun t436 =>
 St PP 1 t436 t432 w433 fun w437 =>
 Ld t329 w437 fun t438 =>
 R t438 w437)) ∧ True) ∧ True) ∧ (MkM w2 fun t439 w440 =>
 (Ld t4 w440 fun t441 =>
 t441 = t5) ∧
 (Ld t7 w440 fun t442 =>
 t442 = t8) ∧
 (MkM w440 fun t443 w444 =>
 (Ld t4 w444 fun t445 =>
 t445 = t5) ∧
 (Ld t7 w444 fun t446 =>
 t446 = t8) ∧
 (MkM w444 fun t447 w448 =>
 (Ld t4 w448 fun t449 =>
 t449 = t5) ∧
 (Ld t7 w448 fun t450 =>
 t450 = t8) ∧
 Bd #[.pointer none, .map none, .map none, .int .i64 0, .int .i64 0, .map none] [(0, 1), (1, 1), (2, 1), (3, 1), (4, 1), (5, 1)] [(1, t443), (2, t439), (3, t5), (4, t8), (5, t447)] fun t451 =>
 (Al Ty.tree_Tree (t451 : Value).cells w448 fun t452 w453 =>
 Al Ty.p_tree_Tree #[.pointer none] w453 fun t454 w455 =>
 (Ld t4 w455 fun t456 =>
 t456 = t5) ∧
 (Ld t7 w455 fun t457 =>
 t457 = t8) ∧
 St PP 1 t454 t452 w455 fun w458 =>
 Nc a0 fun t459 =>
 Fa 2 t459 fun t460 =>
 Ld t460 w458 fun t461 =>
 Ef PP (Instr.range Ty.map_string_sl_string t461) w458 fun t462 w463 =>
 ∃ (I464 : List Value → World → Prop) (m465 : List Value → World → Nat), I464 [] w463 ∧ ∀ (u466 : Env) (w467 : World), I464 [] w467 →
 Ef PP (Instr.next t462 false Ty.t) w467 fun t468 w469 =>
 Ex t468 0 fun t470 =>
 Cnd t470 (
 Rd PP (Instr.entry t462) w469 fun t471 =>
 Ex t471 0 fun t472 =>
 Ex t471 1 fun t473 =>
 Dr w469 fun w474 =>
 Ld t454 w474 fun t475 =>
 Nc t475 fun t476 =>
 Fa 2 t476 fun t477 =>
 Ld t477 w474 fun t478 =>
 Ca PP Fn.slices_Clone_sl_string_string #[t473] w474 fun t479 w480 =>
 (Ld t454 w480 fun t481 =>
 t481 = t475) ∧
 (Ld t477 w480 fun t482 =>
 t482 = t478) ∧
 Ef PP (Instr.mapUpdate Ty.map_string_sl_string t478 t472 t479) w480 fun _ w483 =>
 I464 [] w483 ∧ m465 [] w483 < m465 [] w467) (
 Al Ty.functree_node_p_tree_node_p_tree_node #[.nilFunc] w469 fun t484 w485 =>
 St PP 1 t484 (.func (.func Fn.tree_Tree_Clone_1) #[] #[t484, t454]) w485 fun w486 =>
 Dr w486 fun w487 =>
 Ld t454 w487 fun t488 =>
 Ld t484 w487 fun t489 =>
 Nc a0 fun t490 =>
 Fa 0 t490 fun t491 =>
 Ld t491 w487 fun t492 =>
 CaV PP t489 #[t492, (.pointer none)] w487 fun t493 w494 =>
 (Ld t454 w494 fun t495 =>
 t495 = t488) ∧
 Nc t488 fun t496 =>
 Fa 0 t496 fun t497 =>
 St PP 1 t497 t493 w494 fun w498 =>
 Ld t454 w498 fun t499 =>
 R t499 w498)) ∧ (Al Ty.p_tree_Tree #[.pointer none] w448 fun t500 w501 =>
 (Ld t4 w501 fun t502 =>
 t502 = t5) ∧
 (Ld t7 w501 fun t503 =>
 t503 = t8) ∧
 Al Ty.tree_Tree (t451 : Value).cells w501 fun t504 w505 =>
 St PP 1 t500 t504 w505 fun w506 =>
 Nc a0 fun t507 =>
 Fa 2 t507 fun t508 =>
 Ld t508 w506 fun t509 =>
 Ef PP (Instr.range Ty.map_string_sl_string t509) w506 fun t510 w511 =>
 ∃ (I512 : List Value → World → Prop) (m513 : List Value → World → Nat), I512 [] w511 ∧ ∀ (u514 : Env) (w515 : World), I512 [] w515 →
 Ef PP (Instr.next t510 false Ty.t) w515 fun t516 w517 =>
 Ex t516 0 fun t518 =>
 Cnd t518 (
 Rd PP (Instr.entry t510) w517 fun t519 =>
 Ex t519 0 fun t520 =>
 Ex t519 1 fun t521 =>
 Dr w517 fun w522 =>
 Ld t500 w522 fun t523 =>
 Nc t523 fun t524 =>
 Fa 2 t524 fun t525 =>
 Ld t525 w522 fun t526 =>
 Ca PP Fn.slices_Clone_sl_string_string #[t521] w522 fun t527 w528 =>
 (Ld t500 w528 fun t529 =>
 t529 = t523) ∧
 (Ld t525 w528 fun t530 =>
 t530 = t526) ∧
 Ef PP (Instr.mapUpdate Ty.map_string_sl_string t526 t520 t527) w528 fun _ w531 =>
 I512 [] w531 ∧ m513 [] w531 < m513 [] w515) (
 Al Ty.functree_node_p_tree_node_p_tree_node #[.nilFunc] w517 fun t532 w533 =>
 St PP 1 t532 (.func (.func Fn.tree_Tree_Clone_1) #[] #[t532, t500]) w533 fun w534 =>
 Dr w534 fun w535 =>
 Ld t500 w535 fun t536 =>
 Ld t532 w535 fun t537 =>
 Nc a0 fun t538 =>
 Fa 0 t538 fun t539 =>
 Ld t539 w535 fun t540 =>
 CaV PP t537 #[t540, (.pointer none)] w535 fun t541 w542 =>
 (Ld t500 w542 fun t543 =>
 t543 = t536) ∧
 Nc t536 fun t544 =>
 Fa 0 t544 fun t545 =>
 St PP 1 t545 t541 w542 fun w546 =>
 Ld t500 w546 fun t547 =>
 R t547 w546)) ∧ True) ∧ (Al Ty.p_tree_Tree #[.pointer none] w444 fun t548 w549 =>
 (Ld t4 w549 fun t550 =>
 t550 = t5) ∧
 (Ld t7 w549 fun t551 =>
 t551 = t8) ∧
 MkM w549 fun t552 w553 =>
 (Ld t4 w553 fun t554 =>
 t554 = t5) ∧
 (Ld t7 w553 fun t555 =>
 t555 = t8) ∧
 Bd #[.pointer none, .map none, .map none, .int .i64 0, .int .i64 0, .map none] [(0, 1), (1, 1), (2, 1), (3, 1), (4, 1), (5, 1)] [(1, t443), (2, t439), (3, t5), (4, t8), (5, t552)] fun t556 =>
 Al Ty.tree_Tree (t556 : Value).cells w553 fun t557 w558 =>
 St PP 1 t548 t557 w558 fun w559 =>
 Nc a0 fun t560 =>
 Fa 2 t560 fun t561 =>
 Ld t561 w559 fun t562 =>
 Ef PP (Instr.range Ty.map_string_sl_string t562) w559 fun t563 w564 =>
 ∃ (I565 : List Value → World → Prop) (m566 : List Value → World → Nat), I565 [] w564 ∧ ∀ (u567 : Env) (w568 : World), I565 [] w568 →
 Ef PP (Instr.next t563 false Ty.t) w568 fun t569 w570 =>
 Ex t569 0 fun t571 =>
 Cnd t571 (
 Rd PP (Instr.entry t563) w570 fun t572 =>
 Ex t572 0 fun t573 =>
 Ex t572 1 fun t574 =>
 Dr w570 fun w575 =>
 Ld t548 w575 fun t576 =>
 Nc t576 fun t577 =>
 Fa 2 t577 fun t578 =>
 Ld t578 w575 fun t579 =>
 Ca PP Fn.slices_Clone_sl_string_string #[t574] w575 fun t580 w581 =>
 (Ld t548 w581 fun t582 =>
 t582 = t576) ∧
 (Ld t578 w581 fun t583 =>
 t583 = t579) ∧
 Ef PP (Instr.mapUpdate Ty.map_string_sl_string t579 t573 t580) w581 fun _ w584 =>
 I565 [] w584 ∧ m566 [] w584 < m566 [] w568) (
 Al Ty.functree_node_p_tree_node_p_tree_node #[.nilFunc] w570 fun t585 w586 =>
 St PP 1 t585 (.func (.func Fn.tree_Tree_Clone_1) #[] #[t585, t548]) w586 fun w587 =>
 Dr w587 fun w588 =>
 Ld t548 w588 fun t589 =>
 Ld t585 w588 fun t590 =>
 Nc a0 fun t591 =>
 Fa 0 t591 fun t592 =>
 Ld t592 w588 fun t593 =>
 CaV PP t590 #[t593, (.pointer none)] w588 fun t594 w595 =>
 (Ld t548 w595 fun t596 =>
 t596 = t589) ∧
 Nc t589 fun t597 =>
 Fa 0 t597 fun t598 =>
 St PP 1 t598 t594 w595 fun w599 =>
 Ld t548 w599 fun t600 =>
 R t600 w599)) ∧ True) ∧ (MkM w440 fun t601 w602 =>
 (Ld t4 w602 fun t603 =>
 t603 = t5) ∧
 (Ld t7 w602 fun t604 =>
 t604 = t8) ∧
 (MkM w602 fun t605 w606 =>
 (Ld t4 w606 fun t607 =>
 t607 = t5) ∧
 (Ld t7 w606 fun t608 =>
 t608 = t8) ∧
 Bd #[.pointer none, .map none, .map none, .int .i64 0, .int .i64 0, .map none] [(0, 1), (1, 1), (2, 1), (3, 1), (4, 1), (5, 1)] [(1, t605), (2, t439), (3, t5), (4, t8), (5, t601)] fun t609 =>
 (Al Ty.tree_Tree (t609 : Value).cells w606 fun t610 w611 =>
 Al Ty.p_tree_Tree #[.pointer none] w611 fun t612 w613 =>
 (Ld t4 w613 fun t614 =>
 t614 = t5) ∧
 (Ld t7 w613 fun t615 =>
 t615 = t8) ∧
 St PP 1 t612 t610 w613 fun w616 =>
 Nc a0 fun t617 =>
 Fa 2 t617 fun t618 =>
 Ld t618 w616 fun t619 =>
 Ef PP (Instr.range Ty.map_string_sl_string t619) w616 fun t620 w621 =>
 ∃ (I622 : List Value → World → Prop) (m623 : List Value → World → Nat), I622 [] w621 ∧ ∀ (u624 : Env) (w625 : World), I622 [] w625 →
 Ef PP (Instr.next t620 false Ty.t) w625 fun t626 w627 =>
 Ex t626 0 fun t628 =>
 Cnd t628 (
 Rd PP (Instr.entry t620) w627 fun t629 =>
 Ex t629 0 fun t630 =>
 Ex t629 1 fun t631 =>
 Dr w627 fun w632 =>
 Ld t612 w632 fun t633 =>
 Nc t633 fun t634 =>
 Fa 2 t634 fun t635 =>
 Ld t635 w632 fun t636 =>
 Ca PP Fn.slices_Clone_sl_string_string #[t631] w632 fun t637 w638 =>
 (Ld t612 w638 fun t639 =>
 t639 = t633) ∧
 (Ld t635 w638 fun t640 =>
 t640 = t636) ∧
 Ef PP (Instr.mapUpdate Ty.map_string_sl_string t636 t630 t637) w638 fun _ w641 =>
 I622 [] w641 ∧ m623 [] w641 < m623 [] w625) (
 Al Ty.functree_node_p_tree_node_p_tree_node #[.nilFunc] w627 fun t642 w643 =>
 St PP 1 t642 (.func (.func Fn.tree_Tree_Clone_1) #[] #[t642, t612]) w643 fun w644 =>
 Dr w644 fun w645 =>
 Ld t612 w645 fun t646 =>
 Ld t642 w645 fun t647 =>
 Nc a0 fun t648 =>
 Fa 0 t648 fun t649 =>
 Ld t649 w645 fun t650 =>
 CaV PP t647 #[t650, (.pointer none)] w645 fun t651 w652 =>
 (Ld t612 w652 fun t653 =>
 t653 = t646) ∧
 Nc t646 fun t654 =>
 Fa 0 t654 fun t655 =>
 St PP 1 t655 t651 w652 fun w656 =>
 Ld t612 w656 fun t657 =>
 R t657 w656)) ∧ (Al Ty.p_tree_Tree #[.pointer none] w606 fun t658 w659 =>
 (Ld t4 w659 fun t660 =>
 t660 = t5) ∧
 (Ld t7 w659 fun t661 =>
 t661 = t8) ∧
 Al Ty.tree_Tree (t609 : Value).cells w659 fun t662 w663 =>
 St PP 1 t658 t662 w663 fun w664 =>
 Nc a0 fun t665 =>
 Fa 2 t665 fun t666 =>
 Ld t666 w664 fun t667 =>
 Ef PP (Instr.range Ty.map_string_sl_string t667) w664 fun t668 w669 =>
 ∃ (I670 : List Value → World → Prop) (m671 : List Value → World → Nat), I670 [] w669 ∧ ∀ (u672 : Env) (w673 : World), I670 [] w673 →
 Ef PP (Instr.next t668 false Ty.t) w673 fun t674 w675 =>
 Ex t674 0 fun t676 =>
 Cnd t676 (
 Rd PP (Instr.entry t668) w675 fun t677 =>
 Ex t677 0 fun t678 =>
 Ex t677 1 fun t679 =>
 Dr w675 fun w680 =>
 Ld t658 w680 fun t681 =>
 Nc t681 fun t682 =>
 Fa 2 t682 fun t683 =>
 Ld t683 w680 fun t684 =>
 Ca PP Fn.slices_Clone_sl_string_string #[t679] w680 fun t685 w686 =>
 (Ld t658 w686 fun t687 =>
 t687 = t681) ∧
 (Ld t683 w686 fun t688 =>
 t688 = t684) ∧
 Ef PP (Instr.mapUpdate Ty.map_string_sl_string t684 t678 t685) w686 fun _ w689 =>
 I670 [] w689 ∧ m671 [] w689 < m671 [] w673) (
 Al Ty.functree_node_p_tree_node_p_tree_node #[.nilFunc] w675 fun t690 w691 =>
 St PP 1 t690 (.func (.func Fn.tree_Tree_Clone_1) #[] #[t690, t658]) w691 fun w692 =>
 Dr w692 fun w693 =>
 Ld t658 w693 fun t694 =>
 Ld t690 w693 fun t695 =>
 Nc a0 fun t696 =>
 Fa 0 t696 fun t697 =>
 Ld t697 w693 fun t698 =>
 CaV PP t695 #[t698, (.pointer none)] w693 fun t699 w700 =>
 (Ld t658 w700 fun t701 =>
 t701 = t694) ∧
 Nc t694 fun t702 =>
 Fa 0 t702 fun t703 =>
 St PP 1 t703 t699 w700 fun w704 =>
 Ld t658 w704 fun t705 =>
 R t705 w704)) ∧ True) ∧ (Al Ty.p_tree_Tree #[.pointer none] w602 fun t706 w707 =>
 (Ld t4 w707 fun t708 =>
 t708 = t5) ∧
 (Ld t7 w707 fun t709 =>
 t709 = t8) ∧
 MkM w707 fun t710 w711 =>
 (Ld t4 w711 fun t712 =>
 t712 = t5) ∧
 (Ld t7 w711 fun t713 =>
 t713 = t8) ∧
 Bd #[.pointer none, .map none, .map none, .int .i64 0, .int .i64 0, .map none] [(0, 1), (1, 1), (2, 1), (3, 1), (4, 1), (5, 1)] [(1, t710), (2, t439), (3, t5), (4, t8), (5, t601)] fun t714 =>
 Al Ty.tree_Tree (t714 : Value).cells w711 fun t715 w716 =>
 St PP 1 t706 t715 w716 fun w717 =>
 Nc a0 fun t718 =>
 Fa 2 t718 fun t719 =>
 Ld t719 w717 fun t720 =>
 Ef PP (Instr.range Ty.map_string_sl_string t720) w717 fun t721 w722 =>
 ∃ (I723 : List Value → World → Prop) (m724 : List Value → World → Nat), I723 [] w722 ∧ ∀ (u725 : Env) (w726 : World), I723 [] w726 →
 Ef PP (Instr.next t721 false Ty.t) w726 fun t727 w728 =>
 Ex t727 0 fun t729 =>
 Cnd t729 (
 Rd PP (Instr.entry t721) w728 fun t730 =>
 Ex t730 0 fun t731 =>
 Ex t730 1 fun t732 =>
 Dr w728 fun w733 =>
 Ld t706 w733 fun t734 =>
 Nc t734 fun t735 =>
 Fa 2 t735 fun t736 =>
 Ld t736 w733 fun t737 =>
 Ca PP Fn.slices_Clone_sl_string_string #[t732] w733 fun t738 w739 =>
 (Ld t706 w739 fun t740 =>
 t740 = t734) ∧
 (Ld t736 w739 fun t741 =>
 t741 = t737) ∧
 Ef PP (Instr.mapUpdate Ty.map_string_sl_string t737 t731 t738) w739 fun _ w742 =>
 I723 [] w742 ∧ m724 [] w742 < m724 [] w726) (
 Al Ty.functree_node_p_tree_node_p_tree_node #[.nilFunc] w728 fun t743 w744 =>
 St PP 1 t743 (.func (.func Fn.tree_Tree_Clone_1) #[] #[t743, t706]) w744 fun w745 =>
 Dr w745 fun w746 =>
 Ld t706 w746 fun t747 =>
 Ld t743 w746 fun t748 =>
 Nc a0 fun t749 =>
 Fa 0 t749 fun t750 =>
 Ld t750 w746 fun t751 =>
 CaV PP t748 #[t751, (.pointer none)] w746 fun t752 w753 =>
 (Ld t706 w753 fun t754 =>
 t754 = t747) ∧
 Nc t747 fun t755 =>
 Fa 0 t755 fun t756 =>
 St PP 1 t756 t752 w753 fun w757 =>
 Ld t706 w757 fun t758 =>
 R t758 w757)) ∧ True) ∧ (Al Ty.p_tree_Tree #[.pointer none] w440 fun t759 w760 =>
 (Ld t4 w760 fun t761 =>
 t761 = t5) ∧
 (Ld t7 w760 fun t762 =>
 t762 = t8) ∧
 (MkM w760 fun t763 w764 =>
 (Ld t4 w764 fun t765 =>
 t765 = t5) ∧
 (Ld t7 w764 fun t766 =>
 t766 = t8) ∧
 MkM w764 fun t767 w768 =>
 (Ld t4 w768 fun t769 =>
 t769 = t5) ∧
 (Ld t7 w768 fun t770 =>
 t770 = t8) ∧
 Bd #[.pointer none, .map none, .map none, .int .i64 0, .int .i64 0, .map none] [(0, 1), (1, 1), (2, 1), (3, 1), (4, 1), (5, 1)] [(1, t763), (2, t439), (3, t5), (4, t8), (5, t767)] fun t771 =>
 Al Ty.tree_Tree (t771 : Value).cells w768 fun t772 w773 =>
 St PP 1 t759 t772 w773 fun w774 =>
 Nc a0 fun t775 =>
 Fa 2 t775 fun t776 =>
 Ld t776 w774 fun t777 =>
 Ef PP (Instr.range Ty.map_string_sl_string t777) w774 fun t778 w779 =>
 ∃ (I780 : List Value → World → Prop) (m781 : List Value → World → Nat), I780 [] w779 ∧ ∀ (u782 : Env) (w783 : World), I780 [] w783 →
 Ef PP (Instr.next t778 false Ty.t) w783 fun t784 w785 =>
 Ex t784 0 fun t786 =>
 Cnd t786 (
 Rd PP (Instr.entry t778) w785 fun t787 =>
 Ex t787 0 fun t788 =>
 Ex t787 1 fun t789 =>
 Dr w785 fun w790 =>
 Ld t759 w790 fun t791 =>
 Nc t791 fun t792 =>
 Fa 2 t792 fun t793 =>
 Ld t793 w790 fun t794 =>
 Ca PP Fn.slices_Clone_sl_string_string #[t789] w790 fun t795 w796 =>
 (Ld t759 w796 fun t797 =>
 t797 = t791) ∧
 (Ld t793 w796 fun t798 =>
 t798 = t794) ∧
 Ef PP (Instr.mapUpdate Ty.map_string_sl_string t794 t788 t795) w796 fun _ w799 =>
 I780 [] w799 ∧ m781 [] w799 < m781 [] w783) (
 Al Ty.functree_node_p_tree_node_p_tree_node #[.nilFunc] w785 fun t800 w801 =>
 St PP 1 t800 (.func (.func Fn.tree_Tree_Clone_1) #[] #[t800, t759]) w801 fun w802 =>
 Dr w802 fun w803 =>
 Ld t759 w803 fun t804 =>
 Ld t800 w803 fun t805 =>
 Nc a0 fun t806 =>
 Fa 0 t806 fun t807 =>
 Ld t807 w803 fun t808 =>
 CaV PP t805 #[t808, (.pointer none)] w803 fun t809 w810 =>
 (Ld t759 w810 fun t811 =>
 t811 = t804) ∧
 Nc t804 fun t812 =>
 Fa 0 t812 fun t813 =>
 St PP 1 t813 t809 w810 fun w814 =>
 Ld t759 w814 fun t815 =>
 R t815 w814)) ∧ (MkM w760 fun t816 w817 =>
 (Ld t4 w817 fun t818 =>
 t818 = t5) ∧
 (Ld t7 w817 fun t819 =>
 t819 = t8) ∧
 MkM w817 fun t820 w821 =>
 (Ld t4 w821 fun t822 =>
 t822 = t5) ∧
 (Ld t7 w821 fun t823 =>
 t823 = t8) ∧
 Bd #[.pointer none, .map none, .map none, .int .i64 0, .int .i64 0, .map none] [(0, 1), (1, 1), (2, 1), (3, 1), (4, 1), (5, 1)] [(1, t820), (2, t439), (3, t5), (4, t8), (5, t816)] fun t824 =>
 Al Ty.tree_Tree (t824 : Value).cells w821 fun t825 w826 =>
 St PP 1 t759 t825 w826 fun w827 =>
 Nc a0 fun t828 =>
 Fa 2 t828 fun t829 =>
 Ld t829 w827 fun t830 =>
 Ef PP (Instr.range Ty.map_string_sl_string t830) w827 fun t831 w832 =>
 ∃ (I833 : List Value → World → Prop) (m834 : List Value → World → Nat), I833 [] w832 ∧ ∀ (u835 : Env) (w836 : World), I833 [] w836 →
 Ef PP (Instr.next t831 false Ty.t) w836 fun t837 w838 =>
 Ex t837 0 fun t839 =>
 Cnd t839 (
 Rd PP (Instr.entry t831) w838 fun t840 =>
 Ex t840 0 fun t841 =>
 Ex t840 1 fun t842 =>
 Dr w838 fun w843 =>
 Ld t759 w843 fun t844 =>
 Nc t844 fun t845 =>
 Fa 2 t845 fun t846 =>
 Ld t846 w843 fun t847 =>
 Ca PP Fn.slices_Clone_sl_string_string #[t842] w843 fun t848 w849 =>
 (Ld t759 w849 fun t850 =>
 t850 = t844) ∧
 (Ld t846 w849 fun t851 =>
 t851 = t847) ∧
 Ef PP (Instr.mapUpdate Ty.map_string_sl_string t847 t841 t848) w849 fun _ w852 =>
 I833 [] w852 ∧ m834 [] w852 < m834 [] w836) (
 Al Ty.functree_node_p_tree_node_p_tree_node #[.nilFunc] w838 fun t853 w854 =>
 St PP 1 t853 (.func (.func Fn.tree_Tree_Clone_1) #[] #[t853, t759]) w854 fun w855 =>
 Dr w855 fun w856 =>
 Ld t759 w856 fun t857 =>
 Ld t853 w856 fun t858 =>
 Nc a0 fun t859 =>
 Fa 0 t859 fun t860 =>
 Ld t860 w856 fun t861 =>
 CaV PP t858 #[t861, (.pointer none)] w856 fun t862 w863 =>
 (Ld t759 w863 fun t864 =>
 t864 = t857) ∧
 Nc t857 fun t865 =>
 Fa 0 t865 fun t866 =>
 St PP 1 t866 t862 w863 fun w867 =>
 Ld t759 w867 fun t868 =>
 R t868 w867)) ∧ True) ∧ True) ∧ (MkM w2 fun t869 w870 =>
 (Ld t4 w870 fun t871 =>
 t871 = t5) ∧
 (Ld t7 w870 fun t872 =>
 t872 = t8) ∧
 (MkM w870 fun t873 w874 =>
 (Ld t4 w874 fun t875 =>
 t875 = t5) ∧
 (Ld t7 w874 fun t876 =>
 t876 = t8) ∧
 (MkM w874 fun t877 w878 =>
 (Ld t4 w878 fun t879 =>
 t879 = t5) ∧
 (Ld t7 w878 fun t880 =>
 t880 = t8) ∧
 Bd #[.pointer none, .map none, .map none, .int .i64 0, .int .i64 0, .map none] [(0, 1), (1, 1), (2, 1), (3, 1), (4, 1), (5, 1)] [(1, t873), (2, t877), (3, t5), (4, t8), (5, t869)] fun t881 =>
 (Al Ty.tree_Tree (t881 : Value).cells w878 fun t882 w883 =>
 Al Ty.p_tree_Tree #[.pointer none] w883 fun t884 w885 =>
 (Ld t4 w885 fun t886 =>
 t886 = t5) ∧
 (Ld t7 w885 fun t887 =>
 t887 = t8) ∧
 St PP 1 t884 t882 w885 fun w888 =>
 Nc a0 fun t889 =>
 Fa 2 t889 fun t890 =>
 Ld t890 w888 fun t891 =>
 Ef PP (Instr.range Ty.map_string_sl_string t891) w888 fun t892 w893 =>
 ∃ (I894 : List Value → World → Prop) (m895 : List Value → World → Nat), I894 [] w893 ∧ ∀ (u896 : Env) (w897 : World), I894 [] w897 →
 Ef PP (Instr.next t892 false Ty.t) w897 fun t898 w899 =>
 Ex t898 0 fun t900 =>
 Cnd t900 (
 Rd PP (Instr.entry t892) w899 fun t901 =>
 Ex t901 0 fun t902 =>
 Ex t901 1 fun t903 =>
 Dr w899 fun w904 =>
 Ld t884 w904 fun t905 =>
 Nc t905 fun t906 =>
 Fa 2 t906 fun t907 =>
 Ld t907 w904 fun t908 =>
 Ca PP Fn.slices_Clone_sl_string_string #[t903] w904 fun t909 w910 =>
 (Ld t884 w910 fun t911 =>
 t911 = t905) ∧
 (Ld t907 w910 fun t912 =>
 t912 = t908) ∧
 Ef PP (Instr.mapUpdate Ty.map_string_sl_string t908 t902 t909) w910 fun _ w913 =>
 I894 [] w913 ∧ m895 [] w913 < m895 [] w897) (
 Al Ty.functree_node_p_tree_node_p_tree_node #[.nilFunc] w899 fun t914 w915 =>
 St PP 1 t914 (.func (.func Fn.tree_Tree_Clone_1) #[] #[t914, t884]) w915 fun w916 =>
 Dr w916 fun w917 =>
 Ld t884 w917 fun t918 =>
 Ld t914 w917 fun t919 =>
 Nc a0 fun t920 =>
 Fa 0 t920 fun t921 =>
 Ld t921 w917 fun t922 =>
 CaV PP t919 #[t922, (.pointer none)] w917 fun t923 w924 =>
 (Ld t884 w924 fun t925 =>
 t925 = t918) ∧
 Nc t918 fun t926 =>
 Fa 0 t926 fun t927 =>
 St PP 1 t927 t923 w924 fun w928 =>
 Ld t884 w928 fun t929 =>
 R t929 w928)) ∧ (Al Ty.p_tree_Tree #[.pointer none] w878 fun t930 w931 =>
 (Ld t4 w931 fun t932 =>
 t932 = t5) ∧
 (Ld t7 w931 fun t933 =>
 t933 = t8) ∧
 Al Ty.tree_Tree (t881 : Value).cells w931 fun t934 w935 =>
 St PP 1 t930 t934 w935 fun w936 =>
 Nc a0 fun t937 =>
 Fa 2 t937 fun t938 =>
 Ld t938 w936 fun t939 =>
 Ef PP (Instr.range Ty.map_string_sl_string t939) w936 fun t940 w941 =>
 ∃ (I942 : List Value → World → Prop) (m943 : List Value → World → Nat), I942 [] w941 ∧ ∀ (u944 : Env) (w945 : World), I942 [] w945 →
 Ef PP (Instr.next t940 false Ty.t) w945 fun t946 w947 =>
 Ex t946 0 fun t948 =>
 Cnd t948 (
 Rd PP (Instr.entry t940) w947 fun t949 =>
 Ex t949 0 fun t950 =>
 Ex t949 1 fun t951 =>
 Dr w947 fun w952 =>
 Ld t930 w952 fun t953 =>
 Nc t953 fun t954 =>
 Fa 2 t954 fun t955 =>
 Ld t955 w952 fun t956 =>
 Ca PP Fn.slices_Clone_sl_string_string #[t951] w952 fun t957 w958 =>
 (Ld t930 w958 fun t959 =>
 t959 = t953) ∧
 (Ld t955 w958 fun t960 =>
 t960 = t956) ∧
 Ef PP (Instr.mapUpdate Ty.map_string_sl_string t956 t950 t957) w958 fun _ w961 =>
 I942 [] w961 ∧ m943 [] w961 < m943 [] w945) (
 Al Ty.functree_node_p_tree_node_p_tree_node #[.nilFunc] w947 fun t962 w963 =>
 St PP 1 t962 (.func (.func Fn.tree_Tree_Clone_1) #[] #[t962, t930]) w963 fun w964 =>
 Dr w964 fun w965 =>
 Ld t930 w965 fun t966 =>
 Ld t962 w965 fun t967 =>
 Nc a0 fun t968 =>
 Fa 0 t968 fun t969 =>
 Ld t969 w965 fun t970 =>
 CaV PP t967 #[t970, (.pointer none)] w965 fun t971 w972 =>
 (Ld t930 w972 fun t973 =>
 t973 = t966) ∧
 Nc t966 fun t974 =>
 Fa 0 t974 fun t975 =>
 St PP 1 t975 t971 w972 fun w976 =>
 Ld t930 w976 fun t977 =>
 R t977 w976)) ∧ True) ∧ (Al Ty.p_tree_Tree #[.pointer none] w874 fun t978 w979 =>
 (Ld t4 w979 fun t980 =>
 t980 = t5) ∧
 (Ld t7 w979 fun t981 =>
 t981 = t8) ∧
 MkM w979 fun t982 w983 =>
 (Ld t4 w983 fun t984 =>
 t984 = t5) ∧
 (Ld t7 w983 fun t985 =>
 t985 = t8) ∧
 Bd #[.pointer none, .map none, .map none, .int .i64 0, .int .i64 0, .map none] [(0, 1), (1, 1), (2, 1), (3, 1), (4, 1), (5, 1)] [(1, t873), (2, t982), (3, t5), (4, t8), (5, t869)] fun t986 =>
 Al Ty.tree_Tree (t986 : Value).cells w983 fun t987 w988 =>
 St PP 1 t978 t987 w988 fun w989 =>
 Nc a0 fun t990 =>
 Fa 2 t990 fun t991 =>
 Ld t991 w989 fun t992 =>
 Ef PP (Instr.range Ty.map_string_sl_string t992) w989 fun t993 w994 =>
 ∃ (I995 : List Value → World → Prop) (m996 : List Value → World → Nat), I995 [] w994 ∧ ∀ (u997 : Env) (w998 : World), I995 [] w998 →
 Ef PP (Instr.next t993 false Ty.t) w998 fun t999 w1000 =>
 Ex t999 0 fun t1001 =>
 Cnd t1001 (
 Rd PP (Instr.entry t993) w1000 fun t1002 =>
 Ex t1002 0 fun t1003 =>
 Ex t1002 1 fun t1004 =>
 Dr w1000 fun w1005 =>
 Ld t978 w1005 fun t1006 =>
 Nc t1006 fun t1007 =>
 Fa 2 t1007 fun t1008 =>
 Ld t1008 w1005 fun t1009 =>
 Ca PP Fn.slices_Clone_sl_string_string #[t1004] w1005 fun t1010 w1011 =>
 (Ld t978 w1011 fun t1012 =>
 t1012 = t1006) ∧
 (Ld t1008 w1011 fun t1013 =>
 t1013 = t1009) ∧
 Ef PP (Instr.mapUpdate Ty.map_string_sl_string t1009 t1003 t1010) w1011 fun _ w1014 =>
 I995 [] w1014 ∧ m996 [] w1014 < m996 [] w998) (
 Al Ty.functree_node_p_tree_node_p_tree_node #[.nilFunc] w1000 fun t1015 w1016 =>
 St PP 1 t1015 (.func (.func Fn.tree_Tree_Clone_1) #[] #[t1015, t978]) w1016 fun w1017 =>
 Dr w1017 fun w1018 =>
 Ld t978 w1018 fun t1019 =>
 Ld t1015 w1018 fun t1020 =>
 Nc a0 fun t1021 =>
 Fa 0 t1021 fun t1022 =>
 Ld t1022 w1018 fun t1023 =>
 CaV PP t1020 #[t1023, (.pointer none)] w1018 fun t1024 w1025 =>
 (Ld t978 w1025 fun t1026 =>
 t1026 = t1019) ∧
 Nc t1019 fun t1027 =>
 Fa 0 t1027 fun t1028 =>
 St PP 1 t1028 t1024 w1025 fun w1029 =>
 Ld t978 w1029 fun t1030 =>
 R t1030 w1029)) ∧ True) ∧ (MkM w870 fun t1031 w1032 =>
 (Ld t4 w1032 fun t1033 =>
 t1033 = t5) ∧
 (Ld t7 w1032 fun t1034 =>
 t1034 = t8) ∧
 (MkM w1032 fun t1035 w1036 =>
 (Ld t4 w1036 fun t1037 =>
 t1037 = t5) ∧
 (Ld t7 w1036 fun t1038 =>
 t1038 = t8) ∧
 Bd #[.pointer none, .map none, .map none, .int .i64 0, .int .i64 0, .map none] [(0, 1), (1, 1), (2, 1), (3, 1), (4, 1), (5, 1)] [(1, t1035), (2, t1031), (3, t5), (4, t8), (5, t869)] fun t1039 =>
 (Al Ty.tree_Tree (t1039 : Value).cells w1036 fun t1040 w1041 =>
 Al Ty.p_tree_Tree #[.pointer none] w1041 fun t1042 w1043 =>
 (Ld t4 w1043 fun t1044 =>
 t1044 = t5) ∧
 (Ld t7 w1043 fun t1045 =>
 t1045 = t8) ∧
 St PP 1 t1042 t1040 w1043 fun w1046 =>
 Nc a0 fun t1047 =>
 Fa 2 t1047 fun t1048 =>
 Ld t1048 w1046 fun t1049 =>
 Ef PP (Instr.range Ty.map_string_sl_string t1049) w1046 fun t1050 w1051 =>
 ∃ (I1052 : List Value → World → Prop) (m1053 : List Value → World → Nat), I1052 [] w1051 ∧ ∀ (u1054 : Env) (w1055 : World), I1052 [] w1055 →
 Ef PP (Instr.next t1050 false Ty.t) w1055 fun t1056 w1057 =>
 Ex t1056 0 fun t1058 =>
 Cnd t1058 (
 Rd PP (Instr.entry t1050) w1057 fun t1059 =>
 Ex t1059 0 fun t1060 =>
 Ex t1059 1 fun t1061 =>
 Dr w1057 fun w1062 =>
 Ld t1042 w1062 fun t1063 =>
 Nc t1063 fun t1064 =>
 Fa 2 t1064 fun t1065 =>
 Ld t1065 w1062 fun t1066 =>
 Ca PP Fn.slices_Clone_sl_string_string #[t1061] w1062 fun t1067 w1068 =>
 (Ld t1042 w1068 fun t1069 =>
 t1069 = t1063) ∧
 (Ld t1065 w1068 fun t1070 =>
 t1070 = t1066) ∧
 Ef PP (Instr.mapUpdate Ty.map_string_sl_string t1066 t1060 t1067) w1068 fun _ w1071 =>
 I1052 [] w1071 ∧ m1053 [] w1071 < m1053 [] w1055) (
 Al Ty.functree_node_p_tree_node_p_tree_node #[.nilFunc] w1057 fun t1072 w1073 =>
 St PP 1 t1072 (.func (.func Fn.tree_Tree_Clone_1) #[] #[t1072, t1042]) w1073 fun w1074 =>
 Dr w1074 fun w1075 =>
 Ld t1042 w1075 fun t1076 =>
 Ld t1072 w1075 fun t1077 =>
 Nc a0 fun t1078 =>
 Fa 0 t1078 fun t1079 =>
 Ld t1079 w1075 fun t1080 =>
 CaV PP t1077 #[t1080, (.pointer none)] w1075 fun t1081 w1082 =>
 (Ld t1042 w1082 fun t1083 =>
 t1083 = t1076) ∧
 Nc t1076 fun t1084 =>
 Fa 0 t1084 fun t1085 =>
 St PP 1 t1085 t1081 w1082 fun w1086 =>
 Ld t1042 w1086 fun t1087 =>
 R t1087 w1086)) ∧ (Al Ty.p_tree_Tree #[.pointer none] w1036 fun t1088 w1089 =>
 (Ld t4 w1089 fun t1090 =>
 t1090 = t5) ∧
 (Ld t7 w1089 fun t1091 =>
 t1091 = t8) ∧
 Al Ty.tree_Tree (t1039 : Value).cells w1089 fun t1092 w1093 =>
 St PP 1 t1088 t1092 w1093 fun w1094 =>
 Nc a0 fun t1095 =>
 Fa 2 t1095 fun t1096 =>
 Ld t1096 w1094 fun t1097 =>
 Ef PP (Instr.range Ty.map_string_sl_string t1097) w1094 fun t1098 w1099 =>
 ∃ (I1100 : List Value → World → Prop) (m1101 : List Value → World → Nat), I1100 [] w1099 ∧ ∀ (u1102 : Env) (w1103 : World), I1100 [] w1103 →
 Ef PP (Instr.next t1098 false Ty.t) w1103 fun t1104 w1105 =>
 Ex t1104 0 fun t1106 =>
 Cnd t1106 (
 Rd PP (Instr.entry t1098) w1105 fun t1107 =>
 Ex t1107 0 fun t1108 =>
 Ex t1107 1 fun t1109 =>
 Dr w1105 fun w1110 =>
 Ld t1088 w1110 fun t1111 =>
 Nc t1111 fun t1112 =>
 Fa 2 t1112 fun t1113 =>
 Ld t1113 w1110 fun t1114 =>
 Ca PP Fn.slices_Clone_sl_string_string #[t1109] w1110 fun t1115 w1116 =>
 (Ld t1088 w1116 fun t1117 =>
 t1117 = t1111) ∧
 (Ld t1113 w1116 fun t1118 =>
 t1118 = t1114) ∧
 Ef PP (Instr.mapUpdate Ty.map_string_sl_string t1114 t1108 t1115) w1116 fun _ w1119 =>
 I1100 [] w1119 ∧ m1101 [] w1119 < m1101 [] w1103) (
 Al Ty.functree_node_p_tree_node_p_tree_node #[.nilFunc] w1105 fun t1120 w1121 =>
 St PP 1 t1120 (.func (.func Fn.tree_Tree_Clone_1) #[] #[t1120, t1088]) w1121 fun w1122 =>
 Dr w1122 fun w1123 =>
 Ld t1088 w1123 fun t1124 =>
 Ld t1120 w1123 fun t1125 =>
 Nc a0 fun t1126 =>
 Fa 0 t1126 fun t1127 =>
 Ld t1127 w1123 fun t1128 =>
 CaV PP t1125 #[t1128, (.pointer none)] w1123 fun t1129 w1130 =>
 (Ld t1088 w1130 fun t1131 =>
 t1131 = t1124) ∧
 Nc t1124 fun t1132 =>
 Fa 0 t1132 fun t1133 =>
 St PP 1 t1133 t1129 w1130 fun w1134 =>
 Ld t1088 w1134 fun t1135 =>
 R t1135 w1134)) ∧ True) ∧ (Al Ty.p_tree_Tree #[.pointer none] w1032 fun t1136 w1137 =>
 (Ld t4 w1137 fun t1138 =>
 t1138 = t5) ∧
 (Ld t7 w1137 fun t1139 =>
 t1139 = t8) ∧
 MkM w1137 fun t1140 w1141 =>
 (Ld t4 w1141 fun t1142 =>
 t1142 = t5) ∧
 (Ld t7 w1141 fun t1143 =>
 t1143 = t8) ∧
 Bd #[.pointer none, .map none, .map none, .int .i64 0, .int .i64 0, .map none] [(0, 1), (1, 1), (2, 1), (3, 1), (4, 1), (5, 1)] [(1, t1140), (2, t1031), (3, t5), (4, t8), (5, t869)] fun t1144 =>
 Al Ty.tree_Tree (t1144 : Value).cells w1141 fun t1145 w1146 =>
 St PP 1 t1136 t1145 w1146 fun w1147 =>
 Nc a0 fun t1148 =>
 Fa 2 t1148 fun t1149 =>
 Ld t1149 w1147 fun t1150 =>
 Ef PP (Instr.range Ty.map_string_sl_string t1150) w1147 fun t1151 w1152 =>
 ∃ (I1153 : List Value → World → Prop) (m1154 : List Value → World → Nat), I1153 [] w1152 ∧ ∀ (u1155 : Env) (w1156 : World), I1153 [] w1156 →
 Ef PP (Instr.next t1151 false Ty.t) w1156 fun t1157 w1158 =>
 Ex t1157 0 fun t1159 =>
 Cnd t1159 (
 Rd PP (Instr.entry t1151) w1158 fun t1160 =>
 Ex t1160 0 fun t1161 =>
 Ex t1160 1 fun t1162 =>
 Dr w1158 fun w1163 =>
 Ld t1136 w1163 fun t1164 =>
 Nc t1164 fun t1165 =>
 Fa 2 t1165 fun t1166 =>
 Ld t1166 w1163 fun t1167 =>
 Ca PP Fn.slices_Clone_sl_string_string #[t1162] w1163 fun t1168 w1169 =>
 (Ld t1136 w1169 fun t1170 =>
 t1170 = t1164) ∧
 (Ld t1166 w1169 fun t1171 =>
 t1171 = t1167) ∧
 Ef PP (Instr.mapUpdate Ty.map_string_sl_string t1167 t1161 t1168) w1169 fun _ w1172 =>
 I1153 [] w1172 ∧ m1154 [] w1172 < m1154 [] w1156) (
 Al Ty.functree_node_p_tree_node_p_tree_node #[.nilFunc] w1158 fun t1173 w1174 =>
 St PP 1 t1173 (.func (.func Fn.tree_Tree_Clone_1) #[] #[t1173, t1136]) w1174 fun w1175 =>
 Dr w1175 fun w1176 =>
 Ld t1136 w1176 fun t1177 =>
 Ld t1173 w1176 fun t1178 =>
 Nc a0 fun t1179 =>
 Fa 0 t1179 fun t1180 =>
 Ld t1180 w1176 fun t1181 =>
 CaV PP t1178 #[t1181, (.pointer none)] w1176 fun t1182 w1183 =>
 (Ld t1136 w1183 fun t1184 =>
 t1184 = t1177) ∧
 Nc t1177 fun t1185 =>
 Fa 0 t1185 fun t1186 =>
 St PP 1 t1186 t1182 w1183 fun w1187 =>
 Ld t1136 w1187 fun t1188 =>
 R t1188 w1187)) ∧ True) ∧ (Al Ty.p_tree_Tree #[.pointer none] w870 fun t1189 w1190 =>
 (Ld t4 w1190 fun t1191 =>
 t1191 = t5) ∧
 (Ld t7 w1190 fun t1192 =>
 t1192 = t8) ∧
 (MkM w1190 fun t1193 w1194 =>
 (Ld t4 w1194 fun t1195 =>
 t1195 = t5) ∧
 (Ld t7 w1194 fun t1196 =>
 t1196 = t8) ∧
 MkM w1194 fun t1197 w1198 =>
 (Ld t4 w1198 fun t1199 =>
 t1199 = t5) ∧
 (Ld t7 w1198 fun t1200 =>
 t1200 = t8) ∧
 Bd #[.pointer none, .map none, .map none, .int .i64 0, .int .i64 0, .map none] [(0, 1), (1, 1), (2, 1), (3, 1), (4, 1), (5, 1)] [(1, t1193), (2, t1197), (3, t5), (4, t8), (5, t869)] fun t1201 =>
 Al Ty.tree_Tree (t1201 : Value).cells w1198 fun t1202 w1203 =>
 St PP 1 t1189 t1202 w1203 fun w1204 =>
 Nc a0 fun t1205 =>
 Fa 2 t1205 fun t1206 =>
 Ld t1206 w1204 fun t1207 =>
 Ef PP (Instr.range Ty.map_string_sl_string t1207) w1204 fun t1208 w1209 =>
 ∃ (I1210 : List Value → World → Prop) (m1211 : List Value → World → Nat), I1210 [] w1209 ∧ ∀ (u1212 : Env) (w1213 : World), I1210 [] w1213 →
 Ef PP (Instr.next t1208 false Ty.t) w1213 fun t1214 w1215 =>
 Ex t1214 0 fun t1216 =>
 Cnd t1216 (
 Rd PP (Instr.entry t1208) w1215 fun t1217 =>
 Ex t1217 0 fun t1218 =>
 Ex t1217 1 fun t1219 =>
 Dr w1215 fun w1220 =>
 Ld t1189 w1220 fun t1221 =>
 Nc t1221 fun t1222 =>
 Fa 2 t1222 fun t1223 =>
 Ld t1223 w1220 fun t1224 =>
 Ca PP Fn.slices_Clone_sl_string_string #[t1219] w1220 fun t1225 w1226 =>
 (Ld t1189 w1226 fun t1227 =>
 t1227 = t1221) ∧
 (Ld t1223 w1226 fun t1228 =>
 t1228 = t1224) ∧
 Ef PP (Instr.mapUpdate Ty.map_string_sl_string t1224 t1218 t1225) w1226 fun _ w1229 =>
 I1210 [] w1229 ∧ m1211 [] w1229 < m1211 [] w1213) (
 Al Ty.functree_node_p_tree_node_p_tree_node #[.nilFunc] w1215 fun t1230 w1231 =>
 St PP 1 t1230 (.func (.func Fn.tree_Tree_Clone_1) #[] #[t1230, t1189]) w1231 fun w1232 =>
 Dr w1232 fun w1233 =>
 Ld t1189 w1233 fun t1234 =>
 Ld t1230 w1233 fun t1235 =>
 Nc a0 fun t1236 =>
 Fa 0 t1236 fun t1237 =>
 Ld t1237 w1233 fun t1238 =>
 CaV PP t1235 #[t1238, (.pointer none)] w1233 fun t1239 w1240 =>
 (Ld t1189 w1240 fun t1241 =>
 t1241 = t1234) ∧
 Nc t1234 fun t1242 =>
 Fa 0 t1242 fun t1243 =>
 St PP 1 t1243 t1239 w1240 fun w1244 =>
 Ld t1189 w1244 fun t1245 =>
 R t1245 w1244)) ∧ (MkM w1190 fun t1246 w1247 =>
 (Ld t4 w1247 fun t1248 =>
 t1248 = t5) ∧
 (Ld t7 w1247 fun t1249 =>
 t1249 = t8) ∧
 MkM w1247 fun t1250 w1251 =>
 (Ld t4 w1251 fun t1252 =>
 t1252 = t5) ∧
 (Ld t7 w1251 fun t1253 =>
 t1253 = t8) ∧
 Bd #[.pointer none, .map none, .map none, .int .i64 0, .int .i64 0, .map none] [(0, 1), (1, 1), (2, 1), (3, 1), (4, 1), (5, 1)] [(1, t1250), (2, t1246), (3, t5), (4, t8), (5, t869)] fun t1254 =>
 Al Ty.tree_Tree (t1254 : Value).cells w1251 fun t1255 w1256 =>
 St PP 1 t1189 t1255 w1256 fun w1257 =>
 Nc a0 fun t1258 =>
 Fa 2 t1258 fun t1259 =>
 Ld t1259 w1257 fun t1260 =>
 Ef PP (Instr.range Ty.map_string_sl_string t1260) w1257 fun t1261 w1262 =>
 ∃ (I1263 : List Value → World → Prop) (m1264 : List Value → World → Nat), I1263 [] w1262 ∧ ∀ (u1265 : Env) (w1266 : World), I1263 [] w1266 →
 Ef PP (Instr.next t1261 false Ty.t) w1266 fun t1267 w1268 =>
 Ex t1267 0 fun t1269 =>
 Cnd t1269 (
 Rd PP (Instr.entry t1261) w1268 fun t1270 =>
 Ex t1270 0 fun t1271 =>
 Ex t1270 1 fun t1272 =>
 Dr w1268 fun w1273 =>
 Ld t1189 w1273 fun t1274 =>
 Nc t1274 fun t1275 =>
 Fa 2 t1275 fun t1276 =>
 Ld t1276 w1273 fun t1277 =>
 Ca PP Fn.slices_Clone_sl_string_string #[t1272] w1273 fun t1278 w1279 =>
 (Ld t1189 w1279 fun t1280 =>
 t1280 = t1274) ∧
 (Ld t1276 w1279 fun t1281 =>
 t1281 = t1277) ∧
 Ef PP (Instr.mapUpdate Ty.map_string_sl_string t1277 t1271 t1278) w1279 fun _ w1282 =>
 I1263 [] w1282 ∧ m1264 [] w1282 < m1264 [] w1266) (
 Al Ty.functree_node_p_tree_node_p_tree_node #[.nilFunc] w1268 fun t1283 w1284 =>
 St PP 1 t1283 (.func (.func Fn.tree_Tree_Clone_1) #[] #[t1283, t1189]) w1284 fun w1285 =>
 Dr w1285 fun w1286 =>
 Ld t1189 w1286 fun t1287 =>
 Ld t1283 w1286 fun t1288 =>
 Nc a0 fun t1289 =>
 Fa 0 t1289 fun t1290 =>
 Ld t1290 w1286 fun t1291 =>
 CaV PP t1288 #[t1291, (.pointer none)] w1286 fun t1292 w1293 =>
 (Ld t1189 w1293 fun t1294 =>
 t1294 = t1287) ∧
 Nc t1287 fun t1295 =>
 Fa 0 t1295 fun t1296 =>
 St PP 1 t1296 t1292 w1293 fun w1297 =>
 Ld t1189 w1297 fun t1298 =>
 R t1298 w1297)) ∧ True) ∧ True) ∧ (Al Ty.p_tree_Tree #[.pointer none] w2 fun t1299 w1300 =>
 (Ld t4 w1300 fun t1301 =>
 t1301 = t5) ∧
 (Ld t7 w1300 fun t1302 =>
 t1302 = t8) ∧
 (MkM w1300 fun t1303 w1304 =>
 (Ld t4 w1304 fun t1305 =>
 t1305 = t5) ∧
 (Ld t7 w1304 fun t1306 =>
 t1306 = t8) ∧
 (MkM w1304 fun t1307 w1308 =>
 (Ld t4 w1308 fun t1309 =>
 t1309 = t5) ∧
 (Ld t7 w1308 fun t1310 =>
 t1310 = t8) ∧
 MkM w1308 fun t1311 w1312 =>
 (Ld t4 w1312 fun t1313 =>
 t1313 = t5) ∧
 (Ld t7 w1312 fun t1314 =>
 t1314 = t8) ∧
 Bd #[.pointer none, .map none, .map none, .int .i64 0, .int .i64 0, .map none] [(0, 1), (1, 1), (2, 1), (3, 1), (4, 1), (5, 1)] [(1, t1303), (2, t1307), (3, t5), (4, t8), (5, t1311)] fun t1315 =>
 Al Ty.tree_Tree (t1315 : Value).cells w1312 fun t1316 w1317 =>
 St PP 1 t1299 t1316 w1317 fun w1318 =>
 Nc a0 fun t1319 =>
 Fa 2 t1319 fun t1320 =>
 Ld t1320 w1318 fun t1321 =>
 Ef PP (Instr.range Ty.map_string_sl_string t1321) w1318 fun t1322 w1323 =>
 ∃ (I1324 : List Value → World → Prop) (m1325 : List Value → World → Nat), I1324 [] w1323 ∧ ∀ (u1326 : Env) (w1327 : World), I1324 [] w1327 →
 Ef PP (Instr.next t1322 false Ty.t) w1327 fun t1328 w1329 =>
 Ex t1328 0 fun t1330 =>
 Cnd t1330 (
 Rd PP (Instr.entry t1322) w1329 fun t1331 =>
 Ex t1331 0 fun t1332 =>
 Ex t1331 1 fun t1333 =>
 Dr w1329 fun w1334 =>
 Ld t1299 w1334 fun t1335 =>
 Nc t1335 fun t1336 =>
 Fa 2 t1336 fun t1337 =>
 Ld t1337 w1334 fun t1338 =>
 Ca PP Fn.slices_Clone_sl_string_string #[t1333] w1334 fun t1339 w1340 =>
 (Ld t1299 w1340 fun t1341 =>
 t1341 = t1335) ∧
 (Ld t1337 w1340 fun t1342 =>
 t1342 = t1338) ∧
 Ef PP (Instr.mapUpdate Ty.map_string_sl_string t1338 t1332 t1339) w1340 fun _ w1343 =>
 I1324 [] w1343 ∧ m1325 [] w1343 < m1325 [] w1327) (
 Al Ty.functree_node_p_tree_node_p_tree_node #[.nilFunc] w1329 fun t1344 w1345 =>
 St PP 1 t1344 (.func (.func Fn.tree_Tree_Clone_1) #[] #[t1344, t1299]) w1345 fun w1346 =>
 Dr w1346 fun w1347 =>
 Ld t1299 w1347 fun t1348 =>
 Ld t1344 w1347 fun t1349 =>
 Nc a0 fun t1350 =>
 Fa 0 t1350 fun t1351 =>
 Ld t1351 w1347 fun t1352 =>
 CaV PP t1349 #[t1352, (.pointer none)] w1347 fun t1353 w1354 =>
 (Ld t1299 w1354 fun t1355 =>
 t1355 = t1348) ∧
 Nc t1348 fun t1356 =>
 Fa 0 t1356 fun t1357 =>
 St PP 1 t1357 t1353 w1354 fun w1358 =>
 Ld t1299 w1358 fun t1359 =>
 R t1359 w1358)) ∧ (MkM w1304 fun t1360 w1361 =>
 (Ld t4 w1361 fun t1362 =>
 t1362 = t5) ∧
 (Ld t7 w1361 fun t1363 =>
 t1363 = t8) ∧
 MkM w1361 fun t1364 w1365 =>
 (Ld t4 w1365 fun t1366 =>
 t1366 = t5) ∧
 (Ld t7 w1365 fun t1367 =>
 t1367 = t8) ∧
 Bd #[.pointer none, .map none, .map none, .int .i64 0, .int .i64 0, .map none] [(0, 1), (1, 1), (2, 1), (3, 1), (4, 1), (5, 1)] [(1, t1303), (2, t1364), (3, t5), (4, t8), (5, t1360)] fun t1368 =>
 Al Ty.tree_Tree (t1368 : Value).cells w1365 fun t1369 w1370 =>
 St PP 1 t1299 t1369 w1370 fun w1371 =>
 Nc a0 fun t1372 =>
 Fa 2 t1372 fun t1373 =>
 Ld t1373 w1371 fun t1374 =>
 Ef PP (Instr.range Ty.map_string_sl_string t1374) w1371 fun t1375 w1376 =>
 ∃ (I1377 : List Value → World → Prop) (m1378 : List Value → World → Nat), I1377 [] w1376 ∧ ∀ (u1379 : Env) (w1380 : World), I1377 [] w1380 →
 Ef PP (Instr.next t1375 false Ty.t) w1380 fun t1381 w1382 =>
 Ex t1381 0 fun t1383 =>
 Cnd t1383 (
 Rd PP (Instr.entry t1375) w1382 fun t1384 =>
 Ex t1384 0 fun t1385 =>
 Ex t1384 1 fun t1386 =>
 Dr w1382 fun w1387 =>
 Ld t1299 w1387 fun t1388 =>
 Nc t1388 fun t1389 =>
 Fa 2 t1389 fun t1390 =>
 Ld t1390 w1387 fun t1391 =>
 Ca PP Fn.slices_Clone_sl_string_string #[t1386] w1387 fun t1392 w1393 =>
 (Ld t1299 w1393 fun t1394 =>
 t1394 = t1388) ∧
 (Ld t1390 w1393 fun t1395 =>
 t1395 = t1391) ∧
 Ef PP (Instr.mapUpdate Ty.map_string_sl_string t1391 t1385 t1392) w1393 fun _ w1396 =>
 I1377 [] w1396 ∧ m1378 [] w1396 < m1378 [] w1380) (
 Al Ty.functree_node_p_tree_node_p_tree_node #[.nilFunc] w1382 fun t1397 w1398 =>
 St PP 1 t1397 (.func (.func Fn.tree_Tree_Clone_1) #[] #[t1397, t1299]) w1398 fun w1399 =>
 Dr w1399 fun w1400 =>
 Ld t1299 w1400 fun t1401 =>
 Ld t1397 w1400 fun t1402 =>
 Nc a0 fun t1403 =>
 Fa 0 t1403 fun t1404 =>
 Ld t1404 w1400 fun t1405 =>
 CaV PP t1402 #[t1405, (.pointer none)] w1400 fun t1406 w1407 =>
 (Ld t1299 w1407 fun t1408 =>
 t1408 = t1401) ∧
 Nc t1401 fun t1409 =>
 Fa 0 t1409 fun t1410 =>
 St PP 1 t1410 t1406 w1407 fun w1411 =>
 Ld t1299 w1411 fun t1412 =>
 R t1412 w1411)) ∧ True) ∧ (MkM w1300 fun t1413 w1414 =>
 (Ld t4 w1414 fun t1415 =>
 t1415 = t5) ∧
 (Ld t7 w1414 fun t1416 =>
 t1416 = t8) ∧
 (MkM w1414 fun t1417 w1418 =>
 (Ld t4 w1418 fun t1419 =>
 t1419 = t5) ∧
 (Ld t7 w1418 fun t1420 =>
 t1420 = t8) ∧
 MkM w1418 fun t1421 w1422 =>
 (Ld t4 w1422 fun t1423 =>
 t1423 = t5) ∧
 (Ld t7 w1422 fun t1424 =>
 t1424 = t8) ∧
 Bd #[.pointer none, .map none, .map none, .int .i64 0, .int .i64 0, .map none] [(0, 1), (1, 1), (2, 1), (3, 1), (4, 1), (5, 1)] [(1, t1417), (2, t1413), (3, t5), (4, t8), (5, t1421)] fun t1425 =>
 Al Ty.tree_Tree (t1425 : Value).cells w1422 fun t1426 w1427 =>
 St PP 1 t1299 t1426 w1427 fun w1428 =>
 Nc a0 fun t1429 =>
 Fa 2 t1429 fun t1430 =>
 Ld t1430 w1428 fun t1431 =>
 Ef PP (Instr.range Ty.map_string_sl_string t1431) w1428 fun t1432 w1433 =>
 ∃ (I1434 : List Value → World → Prop) (m1435 : List Value → World → Nat), I1434 [] w1433 ∧ ∀ (u1436 : Env) (w1437 : World), I1434 [] w1437 →
 Ef PP (Instr.next t1432 false Ty.t) w1437 fun t1438 w1439 =>
 Ex t1438 0 fun t1440 =>
 Cnd t1440 (
 Rd PP (Instr.entry t1432) w1439 fun t1441 =>
 Ex t1441 0 fun t1442 =>
 Ex t1441 1 fun t1443 =>
 Dr w1439 fun w1444 =>
 Ld t1299 w1444 fun t1445 =>
 Nc t1445 fun t1446 =>
 Fa 2 t1446 fun t1447 =>
 Ld t1447 w1444 fun t1448 =>
 Ca PP Fn.slices_Clone_sl_string_string #[t1443] w1444 fun t1449 w1450 =>
 (Ld t1299 w1450 fun t1451 =>
 t1451 = t1445) ∧
 (Ld t1447 w1450 fun t1452 =>
 t1452 = t1448) ∧
 Ef PP (Instr.mapUpdate Ty.map_string_sl_string t1448 t1442 t1449) w1450 fun _ w1453 =>
 I1434 [] w1453 ∧ m1435 [] w1453 < m1435 [] w1437) (
 Al Ty.functree_node_p_tree_node_p_tree_node #[.nilFunc] w1439 fun t1454 w1455 =>
 St PP 1 t1454 (.func (.func Fn.tree_Tree_Clone_1) #[] #[t1454, t1299]) w1455 fun w1456 =>
 Dr w1456 fun w1457 =>
 Ld t1299 w1457 fun t1458 =>
 Ld t1454 w1457 fun t1459 =>
 Nc a0 fun t1460 =>
 Fa 0 t1460 fun t1461 =>
 Ld t1461 w1457 fun t1462 =>
 CaV PP t1459 #[t1462, (.pointer none)] w1457 fun t1463 w1464 =>
 (Ld t1299 w1464 fun t1465 =>
 t1465 = t1458) ∧
 Nc t1458 fun t1466 =>
 Fa 0 t1466 fun t1467 =>
 St PP 1 t1467 t1463 w1464 fun w1468 =>
 Ld t1299 w1468 fun t1469 =>
 R t1469 w1468)) ∧ (MkM w1414 fun t1470 w1471 =>
 (Ld t4 w1471 fun t1472 =>
 t1472 = t5) ∧
 (Ld t7 w1471 fun t1473 =>
 t1473 = t8) ∧
 MkM w1471 fun t1474 w1475 =>
 (Ld t4 w1475 fun t1476 =>
 t1476 = t5) ∧
 (Ld t7 w1475 fun t1477 =>
 t1477 = t8) ∧
 Bd #[.pointer none, .map none, .map none, .int .i64 0, .int .i64 0, .map none] [(0, 1), (1, 1), (2, 1), (3, 1), (4, 1), (5, 1)] [(1, t1474), (2, t1413), (3, t5), (4, t8), (5, t1470)] fun t1478 =>
 Al Ty.tree_Tree (t1478 : Value).cells w1475 fun t1479 w1480 =>
 St PP 1 t1299 t1479 w1480 fun w1481 =>
 Nc a0 fun t1482 =>
 Fa 2 t1482 fun t1483 =>
 Ld t1483 w1481 fun t1484 =>
 Ef PP (Instr.range Ty.map_string_sl_string t1484) w1481 fun t1485 w1486 =>
 ∃ (I1487 : List Value → World → Prop) (m1488 : List Value → World → Nat), I1487 [] w1486 ∧ ∀ (u1489 : Env) (w1490 : World), I1487 [] w1490 →
 Ef PP (Instr.next t1485 false Ty.t) w1490 fun t1491 w1492 =>
 Ex t1491 0 fun t1493 =>
 Cnd t1493 (
 Rd PP (Instr.entry t1485) w1492 fun t1494 =>
 Ex t1494 0 fun t1495 =>
 Ex t1494 1 fun t1496 =>
 Dr w1492 fun w1497 =>
 Ld t1299 w1497 fun t1498 =>
 Nc t1498 fun t1499 =>
 Fa 2 t1499 fun t1500 =>
 Ld t1500 w1497 fun t1501 =>
 Ca PP Fn.slices_Clone_sl_string_string #[t1496] w1497 fun t1502 w1503 =>
 (Ld t1299 w1503 fun t1504 =>
 t1504 = t1498) ∧
 (Ld t1500 w1503 fun t1505 =>
 t1505 = t1501) ∧
 Ef PP (Instr.mapUpdate Ty.map_string_sl_string t1501 t1495 t1502) w1503 fun _ w1506 =>
 I1487 [] w1506 ∧ m1488 [] w1506 < m1488 [] w1490) (
 Al Ty.functree_node_p_tree_node_p_tree_node #[.nilFunc] w1492 fun t1507 w1508 =>
 St PP 1 t1507 (.func (.func Fn.tree_Tree_Clone_1) #[] #[t1507, t1299]) w1508 fun w1509 =>
 Dr w1509 fun w1510 =>
 Ld t1299 w1510 fun t1511 =>
 Ld t1507 w1510 fun t1512 =>
 Nc a0 fun t1513 =>
 Fa 0 t1513 fun t1514 =>
 Ld t1514 w1510 fun t1515 =>
 CaV PP t1512 #[t1515, (.pointer none)] w1510 fun t1516 w1517 =>
 (Ld t1299 w1517 fun t1518 =>
 t1518 = t1511) ∧
 Nc t1511 fun t1519 =>
 Fa 0 t1519 fun t1520 =>
 St PP 1 t1520 t1516 w1517 fun w1521 =>
 Ld t1299 w1521 fun t1522 =>
 R t1522 w1521)) ∧ True) ∧ (MkM w1300 fun t1523 w1524 =>
 (Ld t4 w1524 fun t1525 =>
 t1525 = t5) ∧
 (Ld t7 w1524 fun t1526 =>
 t1526 = t8) ∧
 (MkM w1524 fun t1527 w1528 =>
 (Ld t4 w1528 fun t1529 =>
 t1529 = t5) ∧
 (Ld t7 w1528 fun t1530 =>
 t1530 = t8) ∧
 MkM w1528 fun t1531 w1532 =>
 (Ld t4 w1532 fun t1533 =>
 t1533 = t5) ∧
 (Ld t7 w1532 fun t1534 =>
 t1534 = t8) ∧
 Bd #[.pointer none, .map none, .map none, .int .i64 0, .int .i64 0, .map none] [(0, 1), (1, 1), (2, 1), (3, 1), (4, 1), (5, 1)] [(1, t1527), (2, t1531), (3, t5), (4, t8), (5, t1523)] fun t1535 =>
 Al Ty.tree_Tree (t1535 : Value).cells w1532 fun t1536 w1537 =>
 St PP 1 t1299 t1536 w1537 fun w1538 =>
 Nc a0 fun t1539 =>
 Fa 2 t1539 fun t1540 =>
 Ld t1540 w1538 fun t1541 =>
 Ef PP (Instr.range Ty.map_string_sl_string t1541) w1538 fun t1542 w1543 =>
 ∃ (I1544 : List Value → World → Prop) (m1545 : List Value → World → Nat), I1544 [] w1543 ∧ ∀ (u1546 : Env) (w1547 : World), I1544 [] w1547 →
 Ef PP (Instr.next t1542 false Ty.t) w1547 fun t1548 w1549 =>
 Ex t1548 0 fun t1550 =>
 Cnd t1550 (
 Rd PP (Instr.entry t1542) w1549 fun t1551 =>
 Ex t1551 0 fun t1552 =>
 Ex t1551 1 fun t1553 =>
 Dr w1549 fun w1554 =>
 Ld t1299 w1554 fun t1555 =>
 Nc t1555 fun t1556 =>
 Fa 2 t1556 fun t1557 =>
 Ld t1557 w1554 fun t1558 =>
 Ca PP Fn.slices_Clone_sl_string_string #[t1553] w1554 fun t1559 w1560 =>
 (Ld t1299 w1560 fun t1561 =>
 t1561 = t1555) ∧
 (Ld t1557 w1560 fun t1562 =>
 t1562 = t1558) ∧
 Ef PP (Instr.mapUpdate Ty.map_string_sl_string t1558 t1552 t1559) w1560 fun _ w1563 =>
 I1544 [] w1563 ∧ m1545 [] w1563 < m1545 [] w1547) (
 Al Ty.functree_node_p_tree_node_p_tree_node #[.nilFunc] w1549 fun t1564 w1565 =>
 St PP 1 t1564 (.func (.func Fn.tree_Tree_Clone_1) #[] #[t1564, t1299]) w1565 fun w1566 =>
 Dr w1566 fun w1567 =>
 Ld t1299 w1567 fun t1568 =>
 Ld t1564 w1567 fun t1569 =>
 Nc a0 fun t1570 =>
 Fa 0 t1570 fun t1571 =>
 Ld t1571 w1567 fun t1572 =>
 CaV PP t1569 #[t1572, (.pointer none)] w1567 fun t1573 w1574 =>
 (Ld t1299 w1574 fun t1575 =>
 t1575 = t1568) ∧
 Nc t1568 fun t1576 =>
 Fa 0 t1576 fun t1577 =>
 St PP 1 t1577 t1573 w1574 fun w1578 =>
 Ld t1299 w1578 fun t1579 =>
 R t1579 w1578)) ∧ (MkM w1524 fun t1580 w1581 =>
 (Ld t4 w1581 fun t1582 =>
 t1582 = t5) ∧
 (Ld t7 w1581 fun t1583 =>
 t1583 = t8) ∧
 MkM w1581 fun t1584 w1585 =>
 (Ld t4 w1585 fun t1586 =>
 t1586 = t5) ∧
 (Ld t7 w1585 fun t1587 =>
 t1587 = t8) ∧
 Bd #[.pointer none, .map none, .map none, .int .i64 0, .int .i64 0, .map none] [(0, 1), (1, 1), (2, 1), (3, 1), (4, 1), (5, 1)] [(1, t1584), (2, t1580), (3, t5), (4, t8), (5, t1523)] fun t1588 =>
 Al Ty.tree_Tree (t1588 : Value).cells w1585 fun t1589 w1590 =>
 St PP 1 t1299 t1589 w1590 fun w1591 =>
 Nc a0 fun t1592 =>
 Fa 2 t1592 fun t1593 =>
 Ld t1593 w1591 fun t1594 =>
 Ef PP (Instr.range Ty.map_string_sl_string t1594) w1591 fun t1595 w1596 =>
 ∃ (I1597 : List Value → World → Prop) (m1598 : List Value → World → Nat), I1597 [] w1596 ∧ ∀ (u1599 : Env) (w1600 : World), I1597 [] w1600 →
 Ef PP (Instr.next t1595 false Ty.t) w1600 fun t1601 w1602 =>
 Ex t1601 0 fun t1603 =>
 Cnd t1603 (
 Rd PP (Instr.entry t1595) w1602 fun t1604 =>
 Ex t1604 0 fun t1605 =>
 Ex t1604 1 fun t1606 =>
 Dr w1602 fun w1607 =>
 Ld t1299 w1607 fun t1608 =>
 Nc t1608 fun t1609 =>
 Fa 2 t1609 fun t1610 =>
 Ld t1610 w1607 fun t1611 =>
 Ca PP Fn.slices_Clone_sl_string_string #[t1606] w1607 fun t1612 w1613 =>
 (Ld t1299 w1613 fun t1614 =>
 t1614 = t1608) ∧
 (Ld t1610 w1613 fun t1615 =>
 t1615 = t1611) ∧
 Ef PP (Instr.mapUpdate Ty.map_string_sl_string t1611 t1605 t1612) w1613 fun _ w1616 =>
 I1597 [] w1616 ∧ m1598 [] w1616 < m1598 [] w1600) (
 Al Ty.functree_node_p_tree_node_p_tree_node #[.nilFunc] w1602 fun t1617 w1618 =>
 St PP 1 t1617 (.func (.func Fn.tree_Tree_Clone_1) #[] #[t1617, t1299]) w1618 fun w1619 =>
 Dr w1619 fun w1620 =>
 Ld t1299 w1620 fun t1621 =>
 Ld t1617 w1620 fun t1622 =>
 Nc a0 fun t1623 =>
 Fa 0 t1623 fun t1624 =>
 Ld t1624 w1620 fun t1625 =>
 CaV PP t1622 #[t1625, (.pointer none)] w1620 fun t1626 w1627 =>
 (Ld t1299 w1627 fun t1628 =>
 t1628 = t1621) ∧
 Nc t1621 fun t1629 =>
 Fa 0 t1629 fun t1630 =>
 St PP 1 t1630 t1626 w1627 fun w1631 =>
 Ld t1299 w1631 fun t1632 =>
 R t1632 w1631)) ∧ True) ∧ True) ∧ True)
def S.tree_Tree_Clone.an : Ann := (.seq .leaf (.seq (.seq .leaf (.cond (.seq .leaf .leaf) .leaf)) (.seq (.draw [[],[],[],[2],[2,3],[2,3,4],[],[6],[6,7],[6,7,8],[],[0,1,2,3,4,5,6,7,8,9,10],[0,1,2,3,4,5,6,7,8,9,10,11],[],[0,1,2,3,4,5,6,7,8,9,10,11,12,13]] (.calm 2 (.calm 3 (.calm 4 (.calm 5 (.calm 6 (.calm 7 (.calm 8 (.calm 9 (.effs 0 [5,9] (.effs 1 [5,9] (.effs 10 [5,9] (.calm 11 (.effs 12 [] (.eff1 13 [5,9] (.eff1 14 [] .done)) (.effs 13 [5,9] (.eff1 12 [] (.eff1 14 [] .done)) .none))) (.effs 13 [5,9] (.eff1 10 [5,9] (.calm 11 (.eff1 12 [] (.eff1 14 [] .done)))) .none)) (.effs 10 [5,9] (.effs 1 [5,9] (.calm 11 (.effs 12 [] (.eff1 13 [5,9] (.eff1 14 [] .done)) (.effs 13 [5,9] (.eff1 12 [] (.eff1 14 [] .done)) .none))) (.effs 13 [5,9] (.eff1 1 [5,9] (.calm 11 (.eff1 12 [] (.eff1 14 [] .done)))) .none)) (.effs 13 [5,9] (.effs 1 [5,9] (.eff1 10 [5,9] (.calm 11 (.eff1 12 [] (.eff1 14 [] .done)))) (.effs 10 [5,9] (.eff1 1 [5,9] (.calm 11 (.eff1 12 [] (.eff1 14 [] .done)))) .none)) .none))) (.effs 1 [5,9] (.effs 0 [5,9] (.effs 10 [5,9] (.calm 11 (.effs 12 [] (.eff1 13 [5,9] (.eff1 14 [] .done)) (.effs 13 [5,9] (.eff1 12 [] (.eff1 14 [] .done)) .none))) (.effs 13 [5,9] (.eff1 10 [5,9] (.calm 11 (.eff1 12 [] (.eff1 14 [] .done)))) .none)) (.effs 10 [5,9] (.effs 0 [5,9] (.calm 11 (.effs 12 [] (.eff1 13 [5,9] (.eff1 14 [] .done)) (.effs 13 [5,9] (.eff1 12 [] (.eff1 14 [] .done)) .none))) (.effs 13 [5,9] (.eff1 0 [5,9] (.calm 11 (.eff1 12 [] (.eff1 14 [] .done)))) .none)) (.effs 13 [5,9] (.effs 0 [5,9] (.eff1 10 [5,9] (.calm 11 (.eff1 12 [] (.eff1 14 [] .done)))) (.effs 10 [5,9] (.eff1 0 [5,9] (.calm 11 (.eff1 12 [] (.eff1 14 [] .done)))) .none)) .none))) (.effs 10 [5,9] (.effs 0 [5,9] (.effs 1 [5,9] (.calm 11 (.effs 12 [] (.eff1 13 [5,9] (.eff1 14 [] .done)) (.effs 13 [5,9] (.eff1 12 [] (.eff1 14 [] .done)) .none))) (.effs 13 [5,9] (.eff1 1 [5,9] (.calm 11 (.eff1 12 [] (.eff1 14 [] .done)))) .none)) (.effs 1 [5,9] (.effs 0 [5,9] (.calm 11 (.effs 12 [] (.eff1 13 [5,9] (.eff1 14 [] .done)) (.effs 13 [5,9] (.eff1 12 [] (.eff1 14 [] .done)) .none))) (.effs 13 [5,9] (.eff1 0 [5,9] (.calm 11 (.eff1 12 [] (.eff1 14 [] .done)))) .none)) (.effs 13 [5,9] (.effs 0 [5,9] (.eff1 1 [5,9] (.calm 11 (.eff1 12 [] (.eff1 14 [] .done)))) (.effs 1 [5,9] (.eff1 0 [5,9] (.calm 11 (.eff1 12 [] (.eff1 14 [] .done)))) .none)) .none))) (.effs 13 [5,9] (.effs 0 [5,9] (.effs 1 [5,9] (.eff1 10 [5,9] (.calm 11 (.eff1 12 [] (.eff1 14 [] .done)))) (.effs 10 [5,9] (.eff1 1 [5,9] (.calm 11 (.eff1 12 [] (.eff1 14 [] .done)))) .none)) (.effs 1 [5,9] (.effs 0 [5,9] (.eff1 10 [5,9] (.calm 11 (.eff1 12 [] (.eff1 14 [] .done)))) (.effs 10 [5,9] (.eff1 0 [5,9] (.calm 11 (.eff1 12 [] (.eff1 14 [] .done)))) .none)) (.effs 10 [5,9] (.effs 0 [5,9] (.eff1 1 [5,9] (.calm 11 (.eff1 12 [] (.eff1 14 [] .done)))) (.effs 1 [5,9] (.eff1 0 [5,9] (.calm 11 (.eff1 12 [] (.eff1 14 [] .done)))) .none)) .none))) .none))))))))))))) (.seq (.seq .leaf (.block (.loop (.seq .leaf (.seq (.cond .leaf .leaf) (.block (.seq .leaf (.draw [[],[0],[0,1],[0,1,2],[],[],[5],[0,1,2,3,4,5,6]] (.calm 0 (.calm 1 (.calm 2 (.calm 3 (.calm 4 (.calm 5 (.eff1 6 [0,3] (.eff1 7 [] .done))))))))))))) [] [4,5,27,28,29,30,31,32,33,34,35,36,37,38]))) (.seq .leaf (.seq .leaf (.seq (.draw [[],[],[],[2],[2,3],[2,3,4],[1,2,3,4,5],[0,1,2,3,4,5,6],[0,1,2,3,4,5,6,7],[0,1,2,3,4,5,6,7,8]] (.calm 0 (.calm 1 (.calm 2 (.calm 3 (.calm 4 (.calm 5 (.eff1 6 [0] (.calm 7 (.calm 8 (.eff1 9 [] .done))))))))))) (.seq .leaf .leaf))))))))
theorem S.tree_Tree_Clone.eq (a0 : Value) (w : World) (R : Value → World → Prop) : S.tree_Tree_Clone a0 w R = fnC PP 50 (Tryz.f46.body.getD .skip) S.tree_Tree_Clone.an [.tmp 2] [a0] w R := by kernel_rfl
theorem S.tree_Tree_Clone.calls {a0 : Value} {w : World} {R : Value → World → Prop} (h : S.tree_Tree_Clone a0 w R) : Ca PP Fn.tree_Tree_Clone #[a0] w R :=
  fnC_calls mixed (f := Fn.tree_Tree_Clone) (an := S.tree_Tree_Clone.an) Tryz.func46 rfl (by show _ ≤ _; exact Nat.le_of_ble_eq_true rfl) (S.tree_Tree_Clone.eq a0 w R ▸ h)
/-- acheron/acheronlaw28.equal -/
def S.law28_equal (a0 a1 : Value) (w : World) (R : Value → World → Prop) : Prop :=
 ∀ J1 : List Value → World → Prop, (∀ t4, ∀ w3 : World, (∀ u2 : Env,
 R t4 w3) → J1 [t4] w3) →
 Ca PP Fn.tree_Tree_Files #[a0] w fun t5 w6 =>
 Ca PP Fn.tree_Tree_Files #[a1] w6 fun t7 w8 =>
 Ca PP Fn.slices_Equal_sl_tree_File_tree_File #[t5, t7] w8 fun t9 w10 =>
 Gd t9 true (fun k11 => k11 a0 w10) w10 fun t12 w13 =>
 Gd t9 true (fun k14 => Ca PP Fn.tree_Tree_Clock #[t12] w13 fun t17 w18 =>
 k14 t17 w18) w13 fun t15 w16 =>
 Gd t9 true (fun k19 => k19 a1 w16) w16 fun t20 w21 =>
 Gd t9 true (fun k22 => Ca PP Fn.tree_Tree_Clock #[t20] w21 fun t25 w26 =>
 k22 t25 w26) w21 fun t23 w24 =>
 Gd t9 true (fun k27 => Bi .eql t15 t23 fun t30 =>
 k27 t30 w24) w24 fun t28 w29 =>
 Pk t9 t28 (.bool false) fun t31 =>
 J1 [t31] w29
def S.law28_equal.an : Ann := (.seq .leaf (.join .leaf [4] [5,6,7,8,9,10,11,12,13,14,15,16] .leaf))
theorem S.law28_equal.eq (a0 a1 : Value) (w : World) (R : Value → World → Prop) : S.law28_equal a0 a1 w R = fnC PP 17 (Tryz.f47.body.getD .skip) S.law28_equal.an [.tmp 4] [a0, a1] w R := by kernel_rfl
theorem S.law28_equal.calls {a0 a1 : Value} {w : World} {R : Value → World → Prop} (h : S.law28_equal a0 a1 w R) : Ca PP Fn.law28_equal #[a0, a1] w R :=
  fnC_calls mixed (f := Fn.law28_equal) (an := S.law28_equal.an) Tryz.func47 rfl (by show _ ≤ _; exact Nat.le_of_ble_eq_true rfl) (S.law28_equal.eq a0 a1 w R ▸ h)
/-- (*acheron/tree.Tree).Next -/
def S.tree_Tree_Next (a0 : Value) (w : World) (R : Value → World → Prop) : Prop :=
 Rd PP (eqS .eql Ty.p_tree_Tree (.tmp 3) (.const (.pointer none)) a0 (.pointer none)) w fun t1 =>
 Cnd t1 (
 R (.int .i64 0) w) (
 Nc a0 fun t2 =>
 Fa 3 t2 fun t3 =>
 Ld t3 w fun t4 =>
 R t4 w)
def S.tree_Tree_Next.an : Ann := (.seq .leaf (.seq (.seq .leaf (.cond (.seq .leaf .leaf) .leaf)) (.seq .leaf .leaf)))
theorem S.tree_Tree_Next.eq (a0 : Value) (w : World) (R : Value → World → Prop) : S.tree_Tree_Next a0 w R = fnC PP 9 (Tryz.f48.body.getD .skip) S.tree_Tree_Next.an [.tmp 2] [a0] w R := by kernel_rfl
theorem S.tree_Tree_Next.calls {a0 : Value} {w : World} {R : Value → World → Prop} (h : S.tree_Tree_Next a0 w R) : Ca PP Fn.tree_Tree_Next #[a0] w R :=
  fnC_calls mixed (f := Fn.tree_Tree_Next) (an := S.tree_Tree_Next.an) Tryz.func48 rfl (by show _ ≤ _; exact Nat.le_of_ble_eq_true rfl) (S.tree_Tree_Next.eq a0 w R ▸ h)
/-- (*acheron/tree.Tree).Read -/
def S.tree_Tree_Read (a0 a1 a2 a3 : Value) (w : World) (R : Value → World → Prop) : Prop :=
 Ca PP Fn.tree_Tree_opened #[a0, a1] w fun t1 w2 =>
 Ex t1 0 fun t3 =>
 Ex t1 1 fun t4 =>
 Al Ty.tree_handle #[.pointer none, .int .i64 0, .string ⟨#[]⟩] w2 fun t5 w6 =>
 St PP 3 t5 t3 w6 fun w7 =>
 Bi .neq t4 (.int .i64 0) fun t8 =>
 Cnd t8 (
 R (.tuple #[(.string ⟨#[]⟩), t4]) w7) (
 Fa 1 t5 fun t9 =>
 Ld t9 w7 fun t10 =>
 Bi .and t10 (.int .i64 3) fun t11 =>
 Bi .eql t11 (.int .i64 1) fun t12 =>
 Cnd t12 (
 R (.tuple #[(.string ⟨#[]⟩), (.int .i64 20)]) w7) (
 Fa 0 t5 fun t13 =>
 Ld t13 w7 fun t14 =>
 Nc t14 fun t15 =>
 Fa 13 t15 fun t16 =>
 Ld t16 w7 fun t17 =>
 Cnd t17 (
 R (.tuple #[(.string ⟨#[]⟩), (.int .i64 4)]) w7) (
 Fa 0 t5 fun t18 =>
 Ld t18 w7 fun t19 =>
 Ca PP Fn.tree_node_isDir #[t19] w7 fun t20 w21 =>
 Cnd t20 (
 R (.tuple #[(.string ⟨#[]⟩), (.int .i64 18)]) w21) (
 ∀ J22 : List Value → World → Prop, (∀ t25, ∀ w24 : World, (∀ u23 : Env,
 Cnd t25 (
 R (.tuple #[(.string ⟨#[]⟩), (.int .i64 11)]) w24) (
 Fa 0 t5 fun t26 =>
 Ld t26 w24 fun t27 =>
 Nc t27 fun t28 =>
 Fa 10 t28 fun t29 =>
 Ld t29 w24 fun t30 =>
 LnL t30 fun t31 =>
 Bi .geq a2 t31 fun t32 =>
 Cnd t32 (
 R (.tuple #[(.string ⟨#[]⟩), (.int .i64 0)]) w24) (
 Fa 0 t5 fun t33 =>
 Ld t33 w24 fun t34 =>
 Nc t34 fun t35 =>
 Fa 10 t35 fun t36 =>
 Ld t36 w24 fun t37 =>
 Sl 1 t37 (some a2) none fun t38 =>
 LnL t38 fun t39 =>
 Mn a3 t39 fun t40 =>
 Sl 1 t38 none (some t40) fun t41 =>
 Rd PP (convert Ty.sl_uint8 Ty.string t41) w24 fun t42 =>
 R (.tuple #[t42, (.int .i64 0)]) w24))) → J22 [t25] w24) →
 Bi .lss a2 (.int .i64 0) fun t43 =>
 Gd t43 false (fun k44 => k44 a3 w21) w21 fun t45 w46 =>
 Gd t43 false (fun k47 => Bi .lss t45 (.int .i64 0) fun t50 =>
 k47 t50 w46) w46 fun t48 w49 =>
 Pk t43 (.bool true) t48 fun t51 =>
 J22 [t51] w49))))
def S.tree_Tree_Read.an : Ann := (.seq .leaf (.seq .leaf (.seq (.block (.seq .leaf (.cond (.seq .leaf .leaf) (.seq .leaf (.cond (.seq .leaf .leaf) (.seq .leaf (.cond (.seq .leaf .leaf) (.seq .leaf (.cond (.seq .leaf .leaf) (.join .leaf [38] [39,40,41,42,43,44] (.cond (.seq .leaf .leaf) (.seq .leaf (.cond (.seq .leaf .leaf) .leaf))))))))))))) (.seq .leaf (.seq .leaf .leaf)))))
theorem S.tree_Tree_Read.eq (a0 a1 a2 a3 : Value) (w : World) (R : Value → World → Prop) : S.tree_Tree_Read a0 a1 a2 a3 w R = fnC PP 68 (Tryz.f55.body.getD .skip) S.tree_Tree_Read.an [.tmp 8, .tmp 9] [a0, a1, a2, a3] w R := by kernel_rfl
theorem S.tree_Tree_Read.calls {a0 a1 a2 a3 : Value} {w : World} {R : Value → World → Prop} (h : S.tree_Tree_Read a0 a1 a2 a3 w R) : Ca PP Fn.tree_Tree_Read #[a0, a1, a2, a3] w R :=
  fnC_calls mixed (f := Fn.tree_Tree_Read) (an := S.tree_Tree_Read.an) Tryz.func55 rfl (by show _ ≤ _; exact Nat.le_of_ble_eq_true rfl) (S.tree_Tree_Read.eq a0 a1 a2 a3 w R ▸ h)
/-- (*acheron/tree.Tree).Open -/
def S.tree_Tree_Open (a0 a1 a2 a3 : Value) (w : World) (R : Value → World → Prop) : Prop :=
 Al Ty.api_Qid #[.int .i64 0, .int .i64 0, .int .i64 0] w fun t1 w2 =>
 Rd PP (eqS .eql Ty.p_tree_Tree (.tmp 16) (.const (.pointer none)) a0 (.pointer none)) w2 fun t3 =>
 Cnd t3 (
 Bd #[.int .i64 0, .int .i64 0, .int .i64 0] [(0, 1), (1, 1), (2, 1)] [] fun t4 =>
 St PP 3 t1 t4 w2 fun w5 =>
 LdA PP 3 t1 w5 fun t6 =>
 R (.tuple #[(.int .i64 0), t6, (.int .i64 6)]) w5) (
 Bi .andNot a3 (.int .i64 83) fun t7 =>
 Bi .neq t7 (.int .i64 0) fun t8 =>
 Cnd t8 (
 Bd #[.int .i64 0, .int .i64 0, .int .i64 0] [(0, 1), (1, 1), (2, 1)] [] fun t9 =>
 St PP 3 t1 t9 w2 fun w10 =>
 LdA PP 3 t1 w10 fun t11 =>
 R (.tuple #[(.int .i64 0), t11, (.int .i64 20)]) w10) (
 Ca PP Fn.tree_Tree_find #[a0, a2] w2 fun t12 w13 =>
 Ex t12 0 fun t14 =>
 Ex t12 1 fun t15 =>
 Bi .neq t15 (.int .i64 0) fun t16 =>
 Cnd t16 (
 Bd #[.int .i64 0, .int .i64 0, .int .i64 0] [(0, 1), (1, 1), (2, 1)] [] fun t17 =>
 St PP 3 t1 t17 w13 fun w18 =>
 LdA PP 3 t1 w18 fun t19 =>
 R (.tuple #[(.int .i64 0), t19, t15]) w18) (
 ∀ J20 : List Value → World → Prop, (∀ t23, ∀ w22 : World, (∀ u21 : Env,
 Cnd t23 (
 Bd #[.int .i64 0, .int .i64 0, .int .i64 0] [(0, 1), (1, 1), (2, 1)] [] fun t24 =>
 St PP 3 t1 t24 w22 fun w25 =>
 LdA PP 3 t1 w25 fun t26 =>
 R (.tuple #[(.int .i64 0), t26, (.int .i64 18)]) w25) (
 BdA #[.int .i64 0, .int .i64 0, .int .i64 0, .int .i64 0] 1 [(0, (.int .i64 4)), (1, (.int .i64 2)), (2, (.int .i64 6)), (3, (.int .i64 1))] fun t27 =>
 Bi .and a3 (.int .i64 3) fun t28 =>
 Rd PP (Instr.index Ty.f_4_int t27 t28) w22 fun t29 =>
 ∀ J30 : List Value → World → Prop, (∀ t33, ∀ w32 : World, (∀ u31 : Env,
 ∀ J34 : List Value → World → Prop, (∀ t37, ∀ w36 : World, (∀ u35 : Env,
 Cnd t37 (
 Bd #[.int .i64 0, .int .i64 0, .int .i64 0] [(0, 1), (1, 1), (2, 1)] [] fun t38 =>
 St PP 3 t1 t38 w36 fun w39 =>
 LdA PP 3 t1 w39 fun t40 =>
 R (.tuple #[(.int .i64 0), t40, (.int .i64 17)]) w39) (
 Nc a0 fun t41 =>
 Fa 5 t41 fun t42 =>
 Ld t42 w36 fun t43 =>
 Ef PP (Instr.range Ty.map_int_tree_handle t43) w36 fun t44 w45 =>
 ∃ (I46 : List Value → World → Prop) (m47 : List Value → World → Nat), I46 [] w45 ∧ ∀ (u48 : Env) (w49 : World), I46 [] w49 →
 Ef PP (Instr.next t44 false Ty.t) w49 fun t50 w51 =>
 Ex t50 0 fun t52 =>
 Cnd t52 (
 Rd PP (Instr.entry t44) w51 fun t53 =>
 Ex t53 1 fun t54 =>
 Al Ty.tree_handle #[.pointer none, .int .i64 0, .string ⟨#[]⟩] w51 fun t55 w56 =>
 St PP 3 t55 t54 w56 fun w57 =>
 ∀ J58 : List Value → World → Prop, (∀ t61, ∀ w60 : World, (∀ u59 : Env,
 Cnd t61 (
 Bd #[.int .i64 0, .int .i64 0, .int .i64 0] [(0, 1), (1, 1), (2, 1)] [] fun t62 =>
 St PP 3 t1 t62 w60 fun w63 =>
 LdA PP 3 t1 w63 fun t64 =>
 R (.tuple #[(.int .i64 0), t64, (.int .i64 19)]) w63) (
 I46 [] w60 ∧ m47 [] w60 < m47 [] w49)) → J58 [t61] w60) →
 Fa 0 t55 fun t65 =>
 Ld t65 w57 fun t66 =>
 Rd PP (eqS .eql Ty.p_tree_node (.tmp 81) (.tmp 82) t66 t14) w57 fun t67 =>
 Gd t67 true (fun k68 => k68 t14 w57) w57 fun t69 w70 =>
 Gd t67 true (fun k71 => Nc t69 fun t74 =>
 k71 t74 w70) w70 fun t72 w73 =>
 Gd t67 true (fun k75 => Fa 0 t72 fun t78 =>
 k75 t78 w73) w73 fun t76 w77 =>
 Gd t67 true (fun k79 => Fa 3 t76 fun t82 =>
 k79 t82 w77) w77 fun t80 w81 =>
 Gd t67 true (fun k83 => Ld t80 w81 fun t86 =>
 k83 t86 w81) w81 fun t84 w85 =>
 Gd t67 true (fun k87 => Bi .and t84 (.int .i64 536870912) fun t90 =>
 k87 t90 w85) w85 fun t88 w89 =>
 Gd t67 true (fun k91 => Bi .neq t88 (.int .i64 0) fun t94 =>
 k91 t94 w89) w89 fun t92 w93 =>
 Pk t67 t92 (.bool false) fun t95 =>
 J58 [t95] w93) (
 Ca PP Fn.tree_Tree_room #[a0] w51 fun t96 w97 =>
 Un .not t96 fun t98 =>
 Cnd t98 (
 Bd #[.int .i64 0, .int .i64 0, .int .i64 0] [(0, 1), (1, 1), (2, 1)] [] fun t99 =>
 St PP 3 t1 t99 w97 fun w100 =>
 LdA PP 3 t1 w100 fun t101 =>
 R (.tuple #[(.int .i64 0), t101, (.int .i64 3)]) w100) (
 ∀ J102 : List Value → World → Prop, (∀ w104 : World, (∀ u103 : Env,
 Ca PP Fn.tree_Tree_handle #[a0, t14, a3, a1] w104 fun t105 w106 =>
 Ex t105 0 fun t107 =>
 Ex t105 1 fun t108 =>
 Ex t105 2 fun t109 =>
 St PP 3 t1 t108 w106 fun w110 =>
 LdA PP 3 t1 w110 fun t111 =>
 R (.tuple #[t107, t111, t109]) w110) → J102 [] w104) →
 ∀ J112 : List Value → World → Prop, (∀ t115, ∀ w114 : World, (∀ u113 : Env,
 Cnd t115 (
 Nc t14 fun t116 =>
 Fa 10 t116 fun t117 =>
 St PP 1 t117 (.slice none 0 0) w114 fun w118 =>
 Ef PP (Instr.buildSlice Ty.sl_p_tree_node 1 #[(0, t14)]) w118 fun t119 w120 =>
 Ca PP Fn.tree_Tree_change #[a0, a1, t119] w120 fun t121 w122 =>
 J102 [] w122) (
 J102 [] w114)) → J112 [t115] w114) →
 Bi .and a3 (.int .i64 16) fun t123 =>
 Bi .neq t123 (.int .i64 0) fun t124 =>
 Gd t124 true (fun k125 => k125 t14 w97) w97 fun t126 w127 =>
 Gd t124 true (fun k128 => Nc t126 fun t131 =>
 k128 t131 w127) w127 fun t129 w130 =>
 Gd t124 true (fun k132 => Fa 0 t129 fun t135 =>
 k132 t135 w130) w130 fun t133 w134 =>
 Gd t124 true (fun k136 => Fa 3 t133 fun t139 =>
 k136 t139 w134) w134 fun t137 w138 =>
 Gd t124 true (fun k140 => Ld t137 w138 fun t143 =>
 k140 t143 w138) w138 fun t141 w142 =>
 Gd t124 true (fun k144 => Bi .and t141 (.int .i64 1073741824) fun t147 =>
 k144 t147 w142) w142 fun t145 w146 =>
 Gd t124 true (fun k148 => Bi .eql t145 (.int .i64 0) fun t151 =>
 k148 t151 w146) w146 fun t149 w150 =>
 Pk t124 t149 (.bool false) fun t152 =>
 J112 [t152] w150)))) → J34 [t37] w36) →
 Ca PP Fn.tree_Tree_may #[a0, a1, t14, t33] w32 fun t153 w154 =>
 Un .not t153 fun t155 =>
 Gd t155 false (fun k156 => k156 a3 w154) w154 fun t157 w158 =>
 Gd t155 false (fun k159 => Bi .and t157 (.int .i64 64) fun t162 =>
 k159 t162 w158) w158 fun t160 w161 =>
 Gd t155 false (fun k163 => Bi .neq t160 (.int .i64 0) fun t166 =>
 k163 t166 w161) w161 fun t164 w165 =>
 Gd t155 false (fun k167 => k167 t164 w165) w165 fun t168 w169 =>
 Gd t168 true (fun k170 => k170 a0 w169) w169 fun t171 w172 =>
 Gd t168 true (fun k173 => k173 a1 w172) w172 fun t174 w175 =>
 Gd t168 true (fun k176 => k176 t14 w175) w175 fun t177 w178 =>
 Gd t168 true (fun k179 => Nc t177 fun t182 =>
 k179 t182 w178) w178 fun t180 w181 =>
 Gd t168 true (fun k183 => Fa 12 t180 fun t186 =>
 k183 t186 w181) w181 fun t184 w185 =>
 Gd t168 true (fun k187 => Ld t184 w185 fun t190 =>
 k187 t190 w185) w185 fun t188 w189 =>
 Gd t168 true (fun k191 => Ca PP Fn.tree_Tree_may #[t171, t174, t188, (.int .i64 2)] w189 fun t194 w195 =>
 k191 t194 w195) w189 fun t192 w193 =>
 Gd t168 true (fun k196 => Un .not t192 fun t199 =>
 k196 t199 w193) w193 fun t197 w198 =>
 Gd t155 false (fun k200 => Pk t168 t197 (.bool false) fun t203 =>
 k200 t203 w198) w198 fun t201 w202 =>
 Pk t155 (.bool true) t201 fun t204 =>
 J34 [t204] w202) → J30 [t33] w32) →
 Bi .and a3 (.int .i64 16) fun t205 =>
 Bi .neq t205 (.int .i64 0) fun t206 =>
 Cnd t206 (
 Bi .or t29 (.int .i64 2) fun t207 =>
 J30 [t207] w22) (
 J30 [t29] w22))) → J20 [t23] w22) →
 Ca PP Fn.tree_node_isDir #[t14] w13 fun t208 w209 =>
 Gd t208 true (fun k210 => k210 a3 w209) w209 fun t211 w212 =>
 Gd t208 true (fun k213 => Bi .neq t211 (.int .i64 0) fun t216 =>
 k213 t216 w212) w212 fun t214 w215 =>
 Pk t208 t214 (.bool false) fun t217 =>
 J20 [t217] w215)))
def S.tree_Tree_Open.an : Ann := (.seq .leaf (.seq (.seq .leaf (.cond (.seq .leaf .leaf) .leaf)) (.seq (.seq .leaf (.cond (.seq .leaf .leaf) .leaf)) (.seq .leaf (.seq (.seq .leaf (.cond (.seq .leaf .leaf) .leaf)) (.seq (.join .leaf [38] [33,34,35,36,37] (.cond (.seq .leaf .leaf) .leaf)) (.seq .leaf (.join (.seq .leaf (.cond .leaf .leaf)) [13] [44,45,46,47,48] (.seq (.join .leaf [69] [49,50,51,52,53,54,55,56,57,58,59,60,61,62,63,64,65,66,67,68] (.cond (.seq .leaf .leaf) .leaf)) (.seq (.seq .leaf (.block (.loop (.seq .leaf (.seq (.cond .leaf .leaf) (.block (.seq .leaf (.join .leaf [92] [80,81,82,83,84,85,86,87,88,89,90,91] (.cond (.seq .leaf .leaf) .leaf)))))) [] [8,10,15,76,77,78,79,80,81,82,83,84,85,86,87,88,89,90,91,92,93]))) (.seq (.seq .leaf (.cond (.seq .leaf .leaf) .leaf)) (.join (.join .leaf [109] [98,99,100,101,102,103,104,105,106,107,108] (.cond (.seq .leaf .leaf) .leaf)) [] [98,99,100,101,102,103,104,105,106,107,108,109,110,111,112,113,114,115,116,117] (.seq .leaf .leaf)))))))))))))
theorem S.tree_Tree_Open.eq (a0 a1 a2 a3 : Value) (w : World) (R : Value → World → Prop) : S.tree_Tree_Open a0 a1 a2 a3 w R = fnC PP 126 (Tryz.f56.body.getD .skip) S.tree_Tree_Open.an [.tmp 8, .cell 9 37, .tmp 10] [a0, a1, a2, a3] w R := by kernel_rfl
theorem S.tree_Tree_Open.calls {a0 a1 a2 a3 : Value} {w : World} {R : Value → World → Prop} (h : S.tree_Tree_Open a0 a1 a2 a3 w R) : Ca PP Fn.tree_Tree_Open #[a0, a1, a2, a3] w R :=
  fnC_calls mixed (f := Fn.tree_Tree_Open) (an := S.tree_Tree_Open.an) Tryz.func56 rfl (by show _ ≤ _; exact Nat.le_of_ble_eq_true rfl) (S.tree_Tree_Open.eq a0 a1 a2 a3 w R ▸ h)
/-- strings.SplitSeq -/
def S.strings_SplitSeq (a0 a1 : Value) (w : World) (R : Value → World → Prop) : Prop :=
 Ca PP Fn.strings_splitSeq #[a0, a1, (.int .i64 0)] w fun t1 w2 =>
 R t1 w2
def S.strings_SplitSeq.an : Ann := (.seq .leaf (.seq .leaf .leaf))
theorem S.strings_SplitSeq.eq (a0 a1 : Value) (w : World) (R : Value → World → Prop) : S.strings_SplitSeq a0 a1 w R = fnC PP 8 (Tryz.f58.body.getD .skip) S.strings_SplitSeq.an [.tmp 4] [a0, a1] w R := by kernel_rfl
theorem S.strings_SplitSeq.calls {a0 a1 : Value} {w : World} {R : Value → World → Prop} (h : S.strings_SplitSeq a0 a1 w R) : Ca PP Fn.strings_SplitSeq #[a0, a1] w R :=
  fnC_calls mixed (f := Fn.strings_SplitSeq) (an := S.strings_SplitSeq.an) Tryz.func58 rfl (by show _ ≤ _; exact Nat.le_of_ble_eq_true rfl) (S.strings_SplitSeq.eq a0 a1 w R ▸ h)
/-- (*acheron/tree.node).isDir -/
def S.tree_node_isDir (a0 : Value) (w : World) (R : Value → World → Prop) : Prop :=
 Nc a0 fun t1 =>
 Fa 0 t1 fun t2 =>
 Fa 3 t2 fun t3 =>
 Ld t3 w fun t4 =>
 Bi .and t4 (.int .i64 2147483648) fun t5 =>
 Bi .neq t5 (.int .i64 0) fun t6 =>
 R t6 w
def S.tree_node_isDir.an : Ann := (.seq .leaf (.seq .leaf .leaf))
theorem S.tree_node_isDir.eq (a0 : Value) (w : World) (R : Value → World → Prop) : S.tree_node_isDir a0 w R = fnC PP 10 (Tryz.f63.body.getD .skip) S.tree_node_isDir.an [.tmp 2] [a0] w R := by kernel_rfl
theorem S.tree_node_isDir.calls {a0 : Value} {w : World} {R : Value → World → Prop} (h : S.tree_node_isDir a0 w R) : Ca PP Fn.tree_node_isDir #[a0] w R :=
  fnC_calls mixed (f := Fn.tree_node_isDir) (an := S.tree_node_isDir.an) Tryz.func63 rfl (by show _ ≤ _; exact Nat.le_of_ble_eq_true rfl) (S.tree_node_isDir.eq a0 w R ▸ h)
/-- acheron/tree.check -/
def S.tree_check (a0 a1 : Value) (w : World) (R : Value → World → Prop) : Prop :=
 LnL a0 fun t1 =>
 Bi .gtr t1 (.int .i64 16) fun t2 =>
 LnL a0 fun t3 =>
 ∃ (I4 : List Value → World → Prop) (m5 : List Value → World → Nat), I4 [a1, (.slice none 0 0), t2, (.bool false), (.int .i64 0)] w ∧ ∀ t8 t9 t10 t11 t12, ∀ (u6 : Env) (w7 : World), I4 [t8, t9, t10, t11, t12] w7 →
 Bi .lss t12 t3 fun t13 =>
 Cnd t13 (
 ∀ J14 : List Value → World → Prop, (∀ t17 t18 t19 t20, ∀ w16 : World, (∀ u15 : Env,
 Bi .add t12 (.int .i64 1) fun t21 =>
 I4 [t17, t18, t19, t20, t21] w16 ∧ m5 [t17, t18, t19, t20, t21] w16 < m5 [t8, t9, t10, t11, t12] w7) → J14 [t17, t18, t19, t20] w16) →
 IxA 2 a0 t12 fun t22 =>
 LdA PP 2 t22 w7 fun t23 =>
 Al Ty.tree_Group #[.string ⟨#[]⟩, .slice none 0 0] w7 fun t24 w25 =>
 St PP 2 t24 t23 w25 fun w26 =>
 ∀ J27 : List Value → World → Prop, (∀ t30, ∀ w29 : World, (∀ u28 : Env,
 Dr w29 fun w31 =>
 Fa 0 t24 fun t32 =>
 Ld t32 w31 fun t33 =>
 Fa 1 t24 fun t34 =>
 Ld t34 w31 fun t35 =>
 Ef PP (Instr.buildSlice Ty.sl_string 1 #[(0, t33)]) w31 fun t36 w37 =>
 (Ld t34 w37 fun t38 =>
 t38 = t35) ∧
 Ef PP (Builtin.append_ #[Ty.sl_string, Ty.sl_string] Ty.sl_string #[t8, t36]) w37 fun t39 w40 =>
 (Ld t34 w40 fun t41 =>
 t41 = t35) ∧
 Ef PP (Builtin.append_ #[Ty.sl_string, Ty.sl_string] Ty.sl_string #[t39, t35]) w40 fun t42 w43 =>
 Fa 0 t24 fun t44 =>
 Ld t44 w43 fun t45 =>
 Ef PP (Instr.buildSlice Ty.sl_string 1 #[(0, t45)]) w43 fun t46 w47 =>
 Ef PP (Builtin.append_ #[Ty.sl_string, Ty.sl_string] Ty.sl_string #[t9, t46]) w47 fun t48 w49 =>
 Gd t11 false (fun k50 => Fa 1 t24 fun t53 =>
 k50 t53 w49) w49 fun t51 w52 =>
 Gd t11 false (fun k54 => Ld t51 w52 fun t57 =>
 k54 t57 w52) w52 fun t55 w56 =>
 Gd t11 false (fun k58 => Ca PP Fn.tree_repeated #[t55] w56 fun t61 w62 =>
 k58 t61 w62) w56 fun t59 w60 =>
 Pk t11 (.bool true) t59 fun t63 =>
 J14 [t42, t48, t30, t63] w60) → J27 [t30] w29) →
 Gd t10 false (fun k64 => Fa 1 t24 fun t67 =>
 k64 t67 w26) w26 fun t65 w66 =>
 Gd t10 false (fun k68 => Ld t65 w66 fun t71 =>
 k68 t71 w66) w66 fun t69 w70 =>
 Gd t10 false (fun k72 => LnL t69 fun t75 =>
 k72 t75 w70) w70 fun t73 w74 =>
 Gd t10 false (fun k76 => Bi .gtr t73 (.int .i64 16) fun t79 =>
 k76 t79 w74) w74 fun t77 w78 =>
 Pk t10 (.bool true) t77 fun t80 =>
 J27 [t80] w78) (
 Cnd t10 (
 R (.int .i64 3) w7) (
 Ca PP Fn.slices_ContainsFunc_sl_string_string #[t8, (.func (.func Fn.tree_check_1) #[] #[])] w7 fun t81 w82 =>
 Cnd t81 (
 R (.int .i64 8) w82) (
 ∀ J83 : List Value → World → Prop, (∀ t86, ∀ w85 : World, (∀ u84 : Env,
 Cnd t86 (
 R (.int .i64 5) w85) (
 R (.int .i64 0) w85)) → J83 [t86] w85) →
 Gd t11 false (fun k87 => k87 t9 w82) w82 fun t88 w89 =>
 Gd t11 false (fun k90 => Ca PP Fn.tree_repeated #[t88] w89 fun t93 w94 =>
 k90 t93 w94) w89 fun t91 w92 =>
 Pk t11 (.bool true) t91 fun t95 =>
 J83 [t95] w92)))
def S.tree_check.an : Ann := (.seq .leaf (.seq .leaf (.seq .leaf (.seq (.seq .leaf (.block (.loop (.seq .leaf (.seq (.cond .leaf .leaf) (.join (.block (.seq .leaf (.join .leaf [6] [19,20,21,22,23,24,25] (.seq (.draw [[],[],[1],[1,2],[0,1,2,3],[],[5],[0,1,2,3,4,5,6],[0,1,2,3,4,5,6,7]] (.calm 0 (.calm 1 (.calm 2 (.calm 5 (.calm 6 (.eff1 3 [6] (.eff1 4 [6] (.eff1 7 [] (.calm 8 .done)))))))))) (.seq .leaf .leaf))))) [1,5,6,7] [9,17,18,19,20,21,22,23,24,25,26,27,28,29,30,31,32,33,34,35,36,37,38,39,40,41,42,43,44] .leaf))) [1,5,6,7,15] [9,16,17,18,19,20,21,22,23,24,25,26,27,28,29,30,31,32,33,34,35,36,37,38,39,40,41,42,43,44,45]))) (.seq (.block (.seq .leaf (.cond (.seq .leaf .leaf) (.seq .leaf (.cond (.seq .leaf .leaf) (.join .leaf [51] [52,53,54,55,56] (.cond (.seq .leaf .leaf) .leaf))))))) (.seq .leaf .leaf))))))
theorem S.tree_check.eq (a0 a1 : Value) (w : World) (R : Value → World → Prop) : S.tree_check a0 a1 w R = fnC PP 57 (Tryz.f64.body.getD .skip) S.tree_check.an [.tmp 4] [a0, a1] w R := by kernel_rfl
theorem S.tree_check.calls {a0 a1 : Value} {w : World} {R : Value → World → Prop} (h : S.tree_check a0 a1 w R) : Ca PP Fn.tree_check #[a0, a1] w R :=
  fnC_calls mixed (f := Fn.tree_check) (an := S.tree_check.an) Tryz.func64 rfl (by show _ ≤ _; exact Nat.le_of_ble_eq_true rfl) (S.tree_check.eq a0 a1 w R ▸ h)
/-- acheron/tree.empty -/
def S.tree_empty (a0 : Value) (w : World) (R : Value → World → Prop) : Prop :=
 MkM w fun t1 w2 =>
 MkM w2 fun t3 w4 =>
 MkM w4 fun t5 w6 =>
 Bd #[.pointer none, .map none, .map none, .int .i64 0, .int .i64 0, .map none] [(0, 1), (1, 1), (2, 1), (3, 1), (4, 1), (5, 1)] [(1, t1), (2, t3), (3, (.int .i64 1)), (5, t5)] fun t7 =>
 Al Ty.tree_Tree (t7 : Value).cells w6 fun t8 w9 =>
 LnL a0 fun t10 =>
 ∃ (I11 : List Value → World → Prop) (m12 : List Value → World → Nat), I11 [(.int .i64 0)] w9 ∧ ∀ t15, ∀ (u13 : Env) (w14 : World), I11 [t15] w14 →
 Bi .lss t15 t10 fun t16 =>
 Cnd t16 (
 IxA 2 a0 t15 fun t17 =>
 LdA PP 2 t17 w14 fun t18 =>
 Al Ty.tree_Group #[.string ⟨#[]⟩, .slice none 0 0] w14 fun t19 w20 =>
 St PP 2 t19 t18 w20 fun w21 =>
 Dr w21 fun w22 =>
 Nc t8 fun t23 =>
 Fa 2 t23 fun t24 =>
 Ld t24 w22 fun t25 =>
 Fa 0 t19 fun t26 =>
 Ld t26 w22 fun t27 =>
 Fa 1 t19 fun t28 =>
 Ld t28 w22 fun t29 =>
 Ca PP Fn.slices_Clone_sl_string_string #[t29] w22 fun t30 w31 =>
 (Ld t24 w31 fun t32 =>
 t32 = t25) ∧
 (Ld t26 w31 fun t33 =>
 t33 = t27) ∧
 Ef PP (Instr.mapUpdate Ty.map_string_sl_string t25 t27 t30) w31 fun _ w34 =>
 Bi .add t15 (.int .i64 1) fun t35 =>
 I11 [t35] w34 ∧ m12 [t35] w34 < m12 [t15] w14) (
 R t8 w14)
def S.tree_empty.an : Ann := (.seq .leaf (.seq .leaf (.seq (.seq .leaf (.block (.loop (.seq .leaf (.seq (.cond .leaf .leaf) (.seq (.block (.seq .leaf (.draw [[],[0],[0,1],[0,1,2],[],[4],[],[6],[6,7],[0,1,2,3,4,5,6,7,8]] (.calm 0 (.calm 1 (.calm 2 (.calm 3 (.calm 4 (.calm 5 (.calm 6 (.calm 7 (.eff1 8 [3,5] (.eff1 9 [] .done))))))))))))) .leaf))) [13] [5,14,15,16,17,18,19,20,21,22,23,24,25,26]))) (.seq .leaf .leaf))))
theorem S.tree_empty.eq (a0 : Value) (w : World) (R : Value → World → Prop) : S.tree_empty a0 w R = fnC PP 28 (Tryz.f65.body.getD .skip) S.tree_empty.an [.tmp 2] [a0] w R := by kernel_rfl
theorem S.tree_empty.calls {a0 : Value} {w : World} {R : Value → World → Prop} (h : S.tree_empty a0 w R) : Ca PP Fn.tree_empty #[a0] w R :=
  fnC_calls mixed (f := Fn.tree_empty) (an := S.tree_empty.an) Tryz.func65 rfl (by show _ ≤ _; exact Nat.le_of_ble_eq_true rfl) (S.tree_empty.eq a0 w R ▸ h)
/-- (*acheron/tree.node).is -/
def S.tree_node_is (a0 a1 : Value) (w : World) (R : Value → World → Prop) : Prop :=
 Nc a0 fun t1 =>
 Fa 0 t1 fun t2 =>
 Fa 3 t2 fun t3 =>
 St PP 1 t3 a1 w fun w4 =>
 Nc a0 fun t5 =>
 Fa 0 t5 fun t6 =>
 Fa 0 t6 fun t7 =>
 Fa 0 t7 fun t8 =>
 St PP 1 t8 (.int .i64 0) w4 fun w9 =>
 MkM w9 fun t10 w11 =>
 Ef PP (Instr.mapUpdate Ty.map_int_int t10 (.int .i64 2147483648) (.int .i64 128)) w11 fun _ w12 =>
 Ef PP (Instr.mapUpdate Ty.map_int_int t10 (.int .i64 1073741824) (.int .i64 64)) w12 fun _ w13 =>
 Ef PP (Instr.mapUpdate Ty.map_int_int t10 (.int .i64 536870912) (.int .i64 32)) w13 fun _ w14 =>
 Ef PP (Instr.range Ty.map_int_int t10) w14 fun t15 w16 =>
 ∃ (I17 : List Value → World → Prop) (m18 : List Value → World → Nat), I17 [] w16 ∧ ∀ (u19 : Env) (w20 : World), I17 [] w20 →
 Ef PP (Instr.next t15 false Ty.t) w20 fun t21 w22 =>
 Ex t21 0 fun t23 =>
 Cnd t23 (
 Rd PP (Instr.entry t15) w22 fun t24 =>
 Ex t24 0 fun t25 =>
 Ex t24 1 fun t26 =>
 Bi .and a1 t25 fun t27 =>
 Bi .neq t27 (.int .i64 0) fun t28 =>
 Cnd t28 (
 Nc a0 fun t29 =>
 Fa 0 t29 fun t30 =>
 Fa 0 t30 fun t31 =>
 Fa 0 t31 fun t32 =>
 Ld t32 w22 fun t33 =>
 Bi .or t33 t26 fun t34 =>
 Nc a0 fun t35 =>
 Fa 0 t35 fun t36 =>
 Fa 0 t36 fun t37 =>
 Fa 0 t37 fun t38 =>
 St PP 1 t38 t34 w22 fun w39 =>
 I17 [] w39 ∧ m18 [] w39 < m18 [] w20) (
 I17 [] w22 ∧ m18 [] w22 < m18 [] w20)) (
 R (.tuple #[]) w22)
def S.tree_node_is.an : Ann := (.seq .leaf (.seq .leaf (.block (.loop (.seq .leaf (.seq (.cond .leaf .leaf) (.block (.seq .leaf (.seq .leaf (.cond .leaf .leaf)))))) [] [4,5,19,20,21,22,23,24,25,26,27,28,29,30,31,32,33,34,35,36,37,38,39]))))
theorem S.tree_node_is.eq (a0 a1 : Value) (w : World) (R : Value → World → Prop) : S.tree_node_is a0 a1 w R = fnC PP 40 (Tryz.f66.body.getD .skip) S.tree_node_is.an [] [a0, a1] w R := by kernel_rfl
theorem S.tree_node_is.calls {a0 a1 : Value} {w : World} {R : Value → World → Prop} (h : S.tree_node_is a0 a1 w R) : Ca PP Fn.tree_node_is #[a0, a1] w R :=
  fnC_calls mixed (f := Fn.tree_node_is) (an := S.tree_node_is.an) Tryz.func66 rfl (by show _ ≤ _; exact Nat.le_of_ble_eq_true rfl) (S.tree_node_is.eq a0 a1 w R ▸ h)
/-- acheron/tree.right -/
def S.tree_right (a0 : Value) (w : World) (R : Value → World → Prop) : Prop :=
 ∀ J1 : List Value → World → Prop, (∀ t4, ∀ w3 : World, (∀ u2 : Env,
 R t4 w3) → J1 [t4] w3) →
 Bi .andNot a0 (.int .i64 3758096895) fun t5 =>
 Bi .eql t5 (.int .i64 0) fun t6 =>
 Gd t6 true (fun k7 => k7 a0 w) w fun t8 w9 =>
 Gd t6 true (fun k10 => Bi .and t8 (.int .i64 2147483648) fun t13 =>
 k10 t13 w9) w9 fun t11 w12 =>
 Gd t6 true (fun k14 => Bi .eql t11 (.int .i64 0) fun t17 =>
 k14 t17 w12) w12 fun t15 w16 =>
 Gd t6 true (fun k18 => k18 t15 w16) w16 fun t19 w20 =>
 Gd t19 false (fun k21 => k21 a0 w20) w20 fun t22 w23 =>
 Gd t19 false (fun k24 => Bi .and t22 (.int .i64 1610612736) fun t27 =>
 k24 t27 w23) w23 fun t25 w26 =>
 Gd t19 false (fun k28 => Bi .eql t25 (.int .i64 0) fun t31 =>
 k28 t31 w26) w26 fun t29 w30 =>
 Gd t6 true (fun k32 => Pk t19 (.bool true) t29 fun t35 =>
 k32 t35 w30) w30 fun t33 w34 =>
 Pk t6 t33 (.bool false) fun t36 =>
 J1 [t36] w34
def S.tree_right.an : Ann := (.seq .leaf (.join .leaf [2] [3,4,5,6,7,8,9,10,11,12,13,14,15] .leaf))
theorem S.tree_right.eq (a0 : Value) (w : World) (R : Value → World → Prop) : S.tree_right a0 w R = fnC PP 16 (Tryz.f67.body.getD .skip) S.tree_right.an [.tmp 2] [a0] w R := by kernel_rfl
theorem S.tree_right.calls {a0 : Value} {w : World} {R : Value → World → Prop} (h : S.tree_right a0 w R) : Ca PP Fn.tree_right #[a0] w R :=
  fnC_calls mixed (f := Fn.tree_right) (an := S.tree_right.an) Tryz.func67 rfl (by show _ ≤ _; exact Nat.le_of_ble_eq_true rfl) (S.tree_right.eq a0 w R ▸ h)
/-- (*acheron/tree.Tree).folder -/
def S.tree_Tree_folder (a0 a1 : Value) (w : World) (R : Value → World → Prop) : Prop :=
 Ca PP Fn.tree_Tree_find #[a0, a1] w fun t1 w2 =>
 Ex t1 0 fun t3 =>
 Ex t1 1 fun t4 =>
 ∀ J5 : List Value → World → Prop, (∀ t8, ∀ w7 : World, (∀ u6 : Env,
 Cnd t8 (
 R (.tuple #[(.pointer none), (.int .i64 18)]) w7) (
 R (.tuple #[t3, t4]) w7)) → J5 [t8] w7) →
 Bi .eql t4 (.int .i64 0) fun t9 =>
 Gd t9 true (fun k10 => k10 t3 w2) w2 fun t11 w12 =>
 Gd t9 true (fun k13 => Ca PP Fn.tree_node_isDir #[t11] w12 fun t16 w17 =>
 k13 t16 w17) w12 fun t14 w15 =>
 Gd t9 true (fun k18 => Un .not t14 fun t21 =>
 k18 t21 w15) w15 fun t19 w20 =>
 Pk t9 t19 (.bool false) fun t22 =>
 J5 [t22] w20
def S.tree_Tree_folder.an : Ann := (.seq .leaf (.seq .leaf (.seq (.join .leaf [20] [14,15,16,17,18,19] (.cond (.seq .leaf .leaf) .leaf)) (.seq .leaf .leaf))))
theorem S.tree_Tree_folder.eq (a0 a1 : Value) (w : World) (R : Value → World → Prop) : S.tree_Tree_folder a0 a1 w R = fnC PP 23 (Tryz.f68.body.getD .skip) S.tree_Tree_folder.an [.tmp 4, .tmp 5] [a0, a1] w R := by kernel_rfl
theorem S.tree_Tree_folder.calls {a0 a1 : Value} {w : World} {R : Value → World → Prop} (h : S.tree_Tree_folder a0 a1 w R) : Ca PP Fn.tree_Tree_folder #[a0, a1] w R :=
  fnC_calls mixed (f := Fn.tree_Tree_folder) (an := S.tree_Tree_folder.an) Tryz.func68 rfl (by show _ ≤ _; exact Nat.le_of_ble_eq_true rfl) (S.tree_Tree_folder.eq a0 a1 w R ▸ h)
/-- (*acheron/tree.Tree).may -/
def S.tree_Tree_may (a0 a1 a2 a3 : Value) (w : World) (R : Value → World → Prop) : Prop :=
 Dr w fun w1 =>
 Nc a2 fun t2 =>
 Fa 0 t2 fun t3 =>
 Fa 3 t3 fun t4 =>
 Ld t4 w1 fun t5 =>
 Nc a2 fun t6 =>
 Fa 0 t6 fun t7 =>
 Fa 7 t7 fun t8 =>
 Ld t8 w1 fun t9 =>
 Bi .eql a1 t9 fun t10 =>
 Nc a2 fun t11 =>
 Fa 0 t11 fun t12 =>
 Fa 8 t12 fun t13 =>
 Ld t13 w1 fun t14 =>
 Ca PP Fn.tree_Tree_member #[a0, a1, t14] w1 fun t15 w16 =>
 (Ld t4 w16 fun t17 =>
 t17 = t5) ∧
 (Ld t8 w16 fun t18 =>
 t18 = t9) ∧
 Ca PP Fn.tree_Permits #[t5, t10, t15, a3] w16 fun t19 w20 =>
 R t19 w20
def S.tree_Tree_may.an : Ann := (.seq .leaf (.seq (.draw [[],[0],[0,1],[0,1,2],[0,1,2,3],[],[],[6],[6,7],[6,7,8],[6,7,8,9],[5,6,7,8,9,10],[],[],[],[14],[14,15],[14,15,16],[14,15,16,17],[12,13,14,15,16,17,18],[],[0,1,2,3,4,5,6,7,8,9,10,11,12,13,14,15,16,17,18,19,20],[0,1,2,3,4,5,6,7,8,9,10,11,12,13,14,15,16,17,18,19,20,21]] (.calm 0 (.calm 1 (.calm 2 (.calm 3 (.calm 4 (.calm 5 (.calm 6 (.calm 7 (.calm 8 (.calm 9 (.calm 10 (.calm 11 (.calm 12 (.calm 13 (.calm 14 (.calm 15 (.calm 16 (.calm 17 (.calm 18 (.calm 20 (.eff1 19 [4,10] (.eff1 21 [] (.calm 22 .done)))))))))))))))))))))))) .leaf))
theorem S.tree_Tree_may.eq (a0 a1 a2 a3 : Value) (w : World) (R : Value → World → Prop) : S.tree_Tree_may a0 a1 a2 a3 w R = fnC PP 31 (Tryz.f69.body.getD .skip) S.tree_Tree_may.an [.tmp 8] [a0, a1, a2, a3] w R := by kernel_rfl
theorem S.tree_Tree_may.calls {a0 a1 a2 a3 : Value} {w : World} {R : Value → World → Prop} (h : S.tree_Tree_may a0 a1 a2 a3 w R) : Ca PP Fn.tree_Tree_may #[a0, a1, a2, a3] w R :=
  fnC_calls mixed (f := Fn.tree_Tree_may) (an := S.tree_Tree_may.an) Tryz.func69 rfl (by show _ ≤ _; exact Nat.le_of_ble_eq_true rfl) (S.tree_Tree_may.eq a0 a1 a2 a3 w R ▸ h)
/-- (*acheron/tree.Tree).room -/
def S.tree_Tree_room (a0 : Value) (w : World) (R : Value → World → Prop) : Prop :=
 Nc a0 fun t1 =>
 Fa 5 t1 fun t2 =>
 Ld t2 w fun t3 =>
 Rd PP (Builtin.len_ #[Ty.map_int_tree_handle] Ty.int #[t3]) w fun t4 =>
 Bi .lss t4 (.int .i64 64) fun t5 =>
 R t5 w
def S.tree_Tree_room.an : Ann := (.seq .leaf (.seq .leaf .leaf))
theorem S.tree_Tree_room.eq (a0 : Value) (w : World) (R : Value → World → Prop) : S.tree_Tree_room a0 w R = fnC PP 9 (Tryz.f70.body.getD .skip) S.tree_Tree_room.an [.tmp 2] [a0] w R := by kernel_rfl
theorem S.tree_Tree_room.calls {a0 : Value} {w : World} {R : Value → World → Prop} (h : S.tree_Tree_room a0 w R) : Ca PP Fn.tree_Tree_room #[a0] w R :=
  fnC_calls mixed (f := Fn.tree_Tree_room) (an := S.tree_Tree_room.an) Tryz.func70 rfl (by show _ ≤ _; exact Nat.le_of_ble_eq_true rfl) (S.tree_Tree_room.eq a0 w R ▸ h)
/-- (*acheron/tree.Tree).change -/
def S.tree_Tree_change (a0 a1 a2 : Value) (w : World) (R : Value → World → Prop) : Prop :=
 Nc a0 fun t1 =>
 Fa 4 t1 fun t2 =>
 Ld t2 w fun t3 =>
 Bi .add t3 (.int .i64 1) fun t4 =>
 Nc a0 fun t5 =>
 Fa 4 t5 fun t6 =>
 St PP 1 t6 t4 w fun w7 =>
 LnL a2 fun t8 =>
 ∃ (I9 : List Value → World → Prop) (m10 : List Value → World → Nat), I9 [(.int .i64 0)] w7 ∧ ∀ t13, ∀ (u11 : Env) (w12 : World), I9 [t13] w12 →
 Bi .lss t13 t8 fun t14 =>
 Cnd t14 (
 IxA 1 a2 t13 fun t15 =>
 Ld t15 w12 fun t16 =>
 Nc t16 fun t17 =>
 Fa 0 t17 fun t18 =>
 Fa 0 t18 fun t19 =>
 Fa 1 t19 fun t20 =>
 Ld t20 w12 fun t21 =>
 Bi .add t21 (.int .i64 1) fun t22 =>
 Nc t16 fun t23 =>
 Fa 0 t23 fun t24 =>
 Fa 0 t24 fun t25 =>
 Fa 1 t25 fun t26 =>
 St PP 1 t26 t22 w12 fun w27 =>
 Nc a0 fun t28 =>
 Fa 4 t28 fun t29 =>
 Ld t29 w27 fun t30 =>
 Nc t16 fun t31 =>
 Fa 0 t31 fun t32 =>
 Fa 4 t32 fun t33 =>
 St PP 1 t33 t30 w27 fun w34 =>
 Nc t16 fun t35 =>
 Fa 0 t35 fun t36 =>
 Fa 9 t36 fun t37 =>
 St PP 1 t37 a1 w34 fun w38 =>
 Bi .add t13 (.int .i64 1) fun t39 =>
 I9 [t39] w38 ∧ m10 [t39] w38 < m10 [t13] w12) (
 R (.tuple #[]) w12)
def S.tree_Tree_change.an : Ann := (.seq .leaf (.seq .leaf (.block (.loop (.seq .leaf (.seq (.cond .leaf .leaf) (.seq (.block (.seq .leaf (.seq .leaf .leaf))) .leaf))) [17] [7,18,19,20,21,22,23,24,25,26,27,28,29,30,31,32,33,34,35,36,37,38,39,40,41,42,43,44,45]))))
theorem S.tree_Tree_change.eq (a0 a1 a2 : Value) (w : World) (R : Value → World → Prop) : S.tree_Tree_change a0 a1 a2 w R = fnC PP 46 (Tryz.f71.body.getD .skip) S.tree_Tree_change.an [] [a0, a1, a2] w R := by kernel_rfl
theorem S.tree_Tree_change.calls {a0 a1 a2 : Value} {w : World} {R : Value → World → Prop} (h : S.tree_Tree_change a0 a1 a2 w R) : Ca PP Fn.tree_Tree_change #[a0, a1, a2] w R :=
  fnC_calls mixed (f := Fn.tree_Tree_change) (an := S.tree_Tree_change.an) Tryz.func71 rfl (by show _ ≤ _; exact Nat.le_of_ble_eq_true rfl) (S.tree_Tree_change.eq a0 a1 a2 w R ▸ h)
/-- (*acheron/tree.Tree).handle -/
def S.tree_Tree_handle (a0 a1 a2 a3 : Value) (w : World) (R : Value → World → Prop) : Prop :=
 Al Ty.api_Qid #[.int .i64 0, .int .i64 0, .int .i64 0] w fun t1 w2 =>
 ∃ (I3 : List Value → World → Prop) (m4 : List Value → World → Nat), I3 [(.int .i64 1)] w2 ∧ ∀ t7, ∀ (u5 : Env) (w6 : World), I3 [t7] w6 →
 Nc a0 fun t8 =>
 Fa 5 t8 fun t9 =>
 Ld t9 w6 fun t10 =>
 Rd PP (Instr.lookup Ty.map_int_tree_handle t10 t7 false) w6 fun t11 =>
 Fi 0 t11 fun t12 =>
 Rd PP (eqS .neq Ty.p_tree_node (.tmp 18) (.const (.pointer none)) t12 (.pointer none)) w6 fun t13 =>
 Cnd t13 (
 Bi .add t7 (.int .i64 1) fun t14 =>
 I3 [t14] w6 ∧ m4 [t14] w6 < m4 [t7] w6) (
 Nc a0 fun t15 =>
 Fa 5 t15 fun t16 =>
 Ld t16 w6 fun t17 =>
 Bd #[.pointer none, .int .i64 0, .string ⟨#[]⟩] [(0, 1), (1, 1), (2, 1)] [(0, a1), (1, a2), (2, a3)] fun t18 =>
 Ef PP (Instr.mapUpdate Ty.map_int_tree_handle t17 t7 t18) w6 fun _ w19 =>
 Dr w19 fun w20 =>
 Nc a1 fun t21 =>
 Fa 0 t21 fun t22 =>
 Fa 0 t22 fun t23 =>
 LdA PP 3 t23 w20 fun t24 =>
 St PP 3 t1 t24 w20 fun w25 =>
 LdA PP 3 t1 w25 fun t26 =>
 R (.tuple #[t7, t26, (.int .i64 0)]) w25)
def S.tree_Tree_handle.an : Ann := (.seq .leaf (.seq .leaf (.seq (.block (.loop (.seq (.seq .leaf (.cond .leaf .leaf)) (.seq (.block .leaf) .leaf)) [11] [12,13,14,15,16,17,18,19,20,21])) (.seq .leaf (.seq (.draw [[],[],[1],[1,2],[1,2,3],[1,2,3,4],[0],[0,1,2,3,4,5,6],[0,1,2,3,4,5,6,7]] (.calm 0 (.calm 1 (.calm 2 (.calm 3 (.calm 4 (.calm 5 (.calm 6 (.eff1 7 [] (.calm 8 .done)))))))))) .leaf)))))
theorem S.tree_Tree_handle.eq (a0 a1 a2 a3 : Value) (w : World) (R : Value → World → Prop) : S.tree_Tree_handle a0 a1 a2 a3 w R = fnC PP 37 (Tryz.f72.body.getD .skip) S.tree_Tree_handle.an [.tmp 8, .cell 9 37, .tmp 10] [a0, a1, a2, a3] w R := by kernel_rfl
theorem S.tree_Tree_handle.calls {a0 a1 a2 a3 : Value} {w : World} {R : Value → World → Prop} (h : S.tree_Tree_handle a0 a1 a2 a3 w R) : Ca PP Fn.tree_Tree_handle #[a0, a1, a2, a3] w R :=
  fnC_calls mixed (f := Fn.tree_Tree_handle) (an := S.tree_Tree_handle.an) Tryz.func72 rfl (by show _ ≤ _; exact Nat.le_of_ble_eq_true rfl) (S.tree_Tree_handle.eq a0 a1 a2 a3 w R ▸ h)
/-- (*acheron/tree.Tree).opened -/
def S.tree_Tree_opened (a0 a1 : Value) (w : World) (R : Value → World → Prop) : Prop :=
 Al Ty.tree_handle #[.pointer none, .int .i64 0, .string ⟨#[]⟩] w fun t1 w2 =>
 Rd PP (eqS .eql Ty.p_tree_Tree (.tmp 8) (.const (.pointer none)) a0 (.pointer none)) w2 fun t3 =>
 Cnd t3 (
 Bd #[.pointer none, .int .i64 0, .string ⟨#[]⟩] [(0, 1), (1, 1), (2, 1)] [] fun t4 =>
 St PP 3 t1 t4 w2 fun w5 =>
 LdA PP 3 t1 w5 fun t6 =>
 R (.tuple #[t6, (.int .i64 6)]) w5) (
 Nc a0 fun t7 =>
 Fa 5 t7 fun t8 =>
 Ld t8 w2 fun t9 =>
 Rd PP (Instr.lookup Ty.map_int_tree_handle t9 a1 true) w2 fun t10 =>
 Ex t10 0 fun t11 =>
 Ex t10 1 fun t12 =>
 Al Ty.tree_handle #[.pointer none, .int .i64 0, .string ⟨#[]⟩] w2 fun t13 w14 =>
 St PP 3 t13 t11 w14 fun w15 =>
 Cnd t12 (
 LdA PP 3 t13 w15 fun t16 =>
 St PP 3 t1 t16 w15 fun w17 =>
 LdA PP 3 t1 w17 fun t18 =>
 R (.tuple #[t18, (.int .i64 0)]) w17) (
 Bd #[.pointer none, .int .i64 0, .string ⟨#[]⟩] [(0, 1), (1, 1), (2, 1)] [] fun t19 =>
 St PP 3 t1 t19 w15 fun w20 =>
 LdA PP 3 t1 w20 fun t21 =>
 R (.tuple #[t21, (.int .i64 19)]) w20))
def S.tree_Tree_opened.an : Ann := (.seq .leaf (.seq (.seq .leaf (.cond (.seq .leaf .leaf) .leaf)) (.seq (.seq .leaf (.seq .leaf (.cond (.seq .leaf .leaf) .leaf))) (.seq .leaf .leaf))))
theorem S.tree_Tree_opened.eq (a0 a1 : Value) (w : World) (R : Value → World → Prop) : S.tree_Tree_opened a0 a1 w R = fnC PP 23 (Tryz.f73.body.getD .skip) S.tree_Tree_opened.an [.cell 4 141, .tmp 5] [a0, a1] w R := by kernel_rfl
theorem S.tree_Tree_opened.calls {a0 a1 : Value} {w : World} {R : Value → World → Prop} (h : S.tree_Tree_opened a0 a1 w R) : Ca PP Fn.tree_Tree_opened #[a0, a1] w R :=
  fnC_calls mixed (f := Fn.tree_Tree_opened) (an := S.tree_Tree_opened.an) Tryz.func73 rfl (by show _ ≤ _; exact Nat.le_of_ble_eq_true rfl) (S.tree_Tree_opened.eq a0 a1 w R ▸ h)
/-- (*acheron/tree.Tree).remove -/
def S.tree_Tree_remove (a0 a1 a2 : Value) (w : World) (R : Value → World → Prop) : Prop :=
 Dr w fun w1 =>
 Nc a2 fun t2 =>
 Fa 12 t2 fun t3 =>
 Ld t3 w1 fun t4 =>
 Nc t4 fun t5 =>
 Fa 11 t5 fun t6 =>
 Ld t6 w1 fun t7 =>
 Nc a2 fun t8 =>
 Fa 0 t8 fun t9 =>
 Fa 6 t9 fun t10 =>
 Ld t10 w1 fun t11 =>
 Ef PP (Builtin.delete_ #[Ty.map_string_p_tree_node, Ty.string] Ty.t #[t7, t11]) w1 fun x_12 w13 =>
 Dr w13 fun w14 =>
 Nc a0 fun t15 =>
 Fa 1 t15 fun t16 =>
 Ld t16 w14 fun t17 =>
 Nc a2 fun t18 =>
 Fa 0 t18 fun t19 =>
 Fa 0 t19 fun t20 =>
 Fa 2 t20 fun t21 =>
 Ld t21 w14 fun t22 =>
 Ef PP (Builtin.delete_ #[Ty.map_int64_p_tree_node, Ty.int64] Ty.t #[t17, t22]) w14 fun x_23 w24 =>
 Nc a2 fun t25 =>
 Fa 13 t25 fun t26 =>
 St PP 1 t26 (.bool true) w24 fun w27 =>
 Nc a2 fun t28 =>
 Fa 12 t28 fun t29 =>
 Ld t29 w27 fun t30 =>
 Ef PP (Instr.buildSlice Ty.sl_p_tree_node 1 #[(0, t30)]) w27 fun t31 w32 =>
 Ca PP Fn.tree_Tree_change #[a0, a1, t31] w32 fun t33 w34 =>
 R (.tuple #[]) w34
def S.tree_Tree_remove.an : Ann := (.seq (.draw [[],[0],[0,1],[0,1,2],[0,1,2,3],[0,1,2,3,4],[0,1,2,3,4,5],[],[7],[7,8],[7,8,9],[7,8,9,10],[0,1,2,3,4,5,6,7,8,9,10,11]] (.calm 0 (.calm 1 (.calm 2 (.calm 3 (.calm 4 (.calm 5 (.calm 6 (.calm 7 (.calm 8 (.calm 9 (.calm 10 (.calm 11 (.eff1 12 [] .done)))))))))))))) (.seq (.draw [[],[0],[0,1],[0,1,2],[],[4],[4,5],[4,5,6],[4,5,6,7],[4,5,6,7,8],[0,1,2,3,4,5,6,7,8,9]] (.calm 0 (.calm 1 (.calm 2 (.calm 3 (.calm 4 (.calm 5 (.calm 6 (.calm 7 (.calm 8 (.calm 9 (.eff1 10 [] .done)))))))))))) (.seq .leaf .leaf)))
theorem S.tree_Tree_remove.eq (a0 a1 a2 : Value) (w : World) (R : Value → World → Prop) : S.tree_Tree_remove a0 a1 a2 w R = fnC PP 39 (Tryz.f74.body.getD .skip) S.tree_Tree_remove.an [] [a0, a1, a2] w R := by kernel_rfl
theorem S.tree_Tree_remove.calls {a0 a1 a2 : Value} {w : World} {R : Value → World → Prop} (h : S.tree_Tree_remove a0 a1 a2 w R) : Ca PP Fn.tree_Tree_remove #[a0, a1, a2] w R :=
  fnC_calls mixed (f := Fn.tree_Tree_remove) (an := S.tree_Tree_remove.an) Tryz.func74 rfl (by show _ ≤ _; exact Nat.le_of_ble_eq_true rfl) (S.tree_Tree_remove.eq a0 a1 a2 w R ▸ h)
/-- (*acheron/tree.node).resize -/
def S.tree_node_resize (a0 a1 : Value) (w : World) (R : Value → World → Prop) : Prop :=
 Ef PP (Instr.makeSlice Ty.sl_uint8 a1 a1) w fun t1 w2 =>
 Nc a0 fun t3 =>
 Fa 10 t3 fun t4 =>
 Ld t4 w2 fun t5 =>
 Ef PP (Builtin.copy_ #[Ty.sl_uint8, Ty.sl_uint8] Ty.int #[t1, t5]) w2 fun t6 w7 =>
 Nc a0 fun t8 =>
 Fa 10 t8 fun t9 =>
 St PP 1 t9 t1 w7 fun w10 =>
 R (.tuple #[]) w10
def S.tree_node_resize.an : Ann := (.seq .leaf (.seq .leaf .leaf))
theorem S.tree_node_resize.eq (a0 a1 : Value) (w : World) (R : Value → World → Prop) : S.tree_node_resize a0 a1 w R = fnC PP 17 (Tryz.f75.body.getD .skip) S.tree_node_resize.an [] [a0, a1] w R := by kernel_rfl
theorem S.tree_node_resize.calls {a0 a1 : Value} {w : World} {R : Value → World → Prop} (h : S.tree_node_resize a0 a1 w R) : Ca PP Fn.tree_node_resize #[a0, a1] w R :=
  fnC_calls mixed (f := Fn.tree_node_resize) (an := S.tree_node_resize.an) Tryz.func75 rfl (by show _ ≤ _; exact Nat.le_of_ble_eq_true rfl) (S.tree_node_resize.eq a0 a1 w R ▸ h)
/-- (*acheron/tree.Tree).find -/
def S.tree_Tree_find (a0 a1 : Value) (w : World) (R : Value → World → Prop) : Prop :=
 Rd PP (eqS .eql Ty.p_tree_Tree (.tmp 8) (.const (.pointer none)) a0 (.pointer none)) w fun t1 =>
 Cnd t1 (
 R (.tuple #[(.pointer none), (.int .i64 6)]) w) (
 Nc a0 fun t2 =>
 Fa 1 t2 fun t3 =>
 Ld t3 w fun t4 =>
 Rd PP (Instr.lookup Ty.map_int64_p_tree_node t4 a1 true) w fun t5 =>
 Ex t5 0 fun t6 =>
 Ex t5 1 fun t7 =>
 Cnd t7 (
 R (.tuple #[t6, (.int .i64 0)]) w) (
 R (.tuple #[(.pointer none), (.int .i64 4)]) w))
def S.tree_Tree_find.an : Ann := (.seq .leaf (.seq (.seq .leaf (.cond (.seq .leaf .leaf) .leaf)) (.seq (.seq .leaf (.seq .leaf (.cond (.seq .leaf .leaf) .leaf))) (.seq .leaf .leaf))))
theorem S.tree_Tree_find.eq (a0 a1 : Value) (w : World) (R : Value → World → Prop) : S.tree_Tree_find a0 a1 w R = fnC PP 21 (Tryz.f76.body.getD .skip) S.tree_Tree_find.an [.tmp 4, .tmp 5] [a0, a1] w R := by kernel_rfl
theorem S.tree_Tree_find.calls {a0 a1 : Value} {w : World} {R : Value → World → Prop} (h : S.tree_Tree_find a0 a1 w R) : Ca PP Fn.tree_Tree_find #[a0, a1] w R :=
  fnC_calls mixed (f := Fn.tree_Tree_find) (an := S.tree_Tree_find.an) Tryz.func76 rfl (by show _ ≤ _; exact Nat.le_of_ble_eq_true rfl) (S.tree_Tree_find.eq a0 a1 w R ▸ h)
/-- (*acheron/tree.node).stat -/
def S.tree_node_stat (a0 : Value) (w : World) (R : Value → World → Prop) : Prop :=
 Al Ty.api_Dir #[.int .i64 0, .int .i64 0, .int .i64 0, .int .i64 0, .int .i64 0, .int .i64 0, .string ⟨#[]⟩, .string ⟨#[]⟩, .string ⟨#[]⟩, .string ⟨#[]⟩] w fun t1 w2 =>
 Nc a0 fun t3 =>
 Fa 0 t3 fun t4 =>
 LdA PP 10 t4 w2 fun t5 =>
 Al Ty.api_Dir #[.int .i64 0, .int .i64 0, .int .i64 0, .int .i64 0, .int .i64 0, .int .i64 0, .string ⟨#[]⟩, .string ⟨#[]⟩, .string ⟨#[]⟩, .string ⟨#[]⟩] w2 fun t6 w7 =>
 St PP 10 t6 t5 w7 fun w8 =>
 Nc a0 fun t9 =>
 Fa 10 t9 fun t10 =>
 Ld t10 w8 fun t11 =>
 LnL t11 fun t12 =>
 Fa 5 t6 fun t13 =>
 St PP 1 t13 t12 w8 fun w14 =>
 LdA PP 10 t6 w14 fun t15 =>
 St PP 10 t1 t15 w14 fun w16 =>
 LdA PP 10 t1 w16 fun t17 =>
 R t17 w16
def S.tree_node_stat.an : Ann := (.seq .leaf (.seq .leaf (.seq .leaf (.seq .leaf .leaf))))
theorem S.tree_node_stat.eq (a0 : Value) (w : World) (R : Value → World → Prop) : S.tree_node_stat a0 w R = fnC PP 15 (Tryz.f77.body.getD .skip) S.tree_node_stat.an [.cell 2 51] [a0] w R := by kernel_rfl
theorem S.tree_node_stat.calls {a0 : Value} {w : World} {R : Value → World → Prop} (h : S.tree_node_stat a0 w R) : Ca PP Fn.tree_node_stat #[a0] w R :=
  fnC_calls mixed (f := Fn.tree_node_stat) (an := S.tree_node_stat.an) Tryz.func77 rfl (by show _ ≤ _; exact Nat.le_of_ble_eq_true rfl) (S.tree_node_stat.eq a0 w R ▸ h)
end Go.Proofs.YtnnhmahemklnkaaGreatDoor
