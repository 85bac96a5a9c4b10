/- Own text. -/
import Derived.Test.YtjffgllkfbcaeaaGreatDoorSc
namespace Go.Proofs.YtjffgllkfbcaeaaGreatDoor
open Go Go.Sh
set_option linter.unusedVariables false
set_option maxRecDepth 100000
/-- (*acheron/tree.Tree).Wstat -/
def S.tree_Tree_Wstat (a0 a1 a2 a3 : Value) (w : World) (R : Value → World → Prop) : Prop :=
 Al Ty.api_Dir (a3 : Value).cells w fun t1 w2 =>
 Ca PP Fn.tree_Tree_find #[a0, a2] w2 fun t3 w4 =>
 Ex t3 0 fun t5 =>
 Ex t3 1 fun t6 =>
 Bi .neq t6 (.int .i64 0) fun t7 =>
 Cnd t7 (
 R t6 w4) (
 Dr w4 fun w8 =>
 Fa 6 t1 fun t9 =>
 Ld t9 w8 fun t10 =>
 Bi .neq t10 (.string ⟨#[]⟩) fun t11 =>
 Fa 8 t1 fun t12 =>
 Ld t12 w8 fun t13 =>
 Bi .neq t13 (.string ⟨#[]⟩) fun t14 =>
 Dr w8 fun w15 =>
 Fa 3 t1 fun t16 =>
 Ld t16 w15 fun t17 =>
 Bi .neq t17 (.int .i64 (-1)) fun t18 =>
 Fa 4 t1 fun t19 =>
 Ld t19 w15 fun t20 =>
 Bi .neq t20 (.int .i64 (-1)) fun t21 =>
 Fa 5 t1 fun t22 =>
 Ld t22 w15 fun t23 =>
 Bi .neq t23 (.int .i64 (-1)) fun t24 =>
 ∀ J25 : List Value → World → Prop, (∀ t28, ∀ w27 : World, (∀ u26 : Env,
 ∀ J29 : List Value → World → Prop, (∀ t32, ∀ w31 : World, (∀ u30 : Env,
 Cnd t32 (
 R (.int .i64 1) w31) (
 ∀ J33 : List Value → World → Prop, (∀ t36, ∀ w35 : World, (∀ u34 : Env,
 Cnd t36 (
 R (.int .i64 8) w35) (
 ∀ J37 : List Value → World → Prop, (∀ t40, ∀ w39 : World, (∀ u38 : Env,
 Cnd t40 (
 R (.int .i64 18) w39) (
 Fa 5 t1 fun t41 =>
 Ld t41 w39 fun t42 =>
 Bi .gtr t42 (.int .i64 1048576) fun t43 =>
 Cnd t43 (
 R (.int .i64 3) w39) (
 ∀ J44 : List Value → World → Prop, (∀ t47, ∀ w46 : World, (∀ u45 : Env,
 Cnd t47 (
 R (.int .i64 5) w46) (
 ∀ J48 : List Value → World → Prop, (∀ t51, ∀ w50 : World, (∀ u49 : Env,
 Cnd t51 (
 R (.int .i64 17) w50) (
 ∀ J52 : List Value → World → Prop, (∀ t55, ∀ w54 : World, (∀ u53 : Env,
 Cnd t55 (
 R (.int .i64 0) w54) (
 Ef PP (Instr.buildSlice Ty.sl_p_tree_node 1 #[(0, t5)]) w54 fun t56 w57 =>
 ∀ J58 : List Value → World → Prop, (∀ t61, ∀ w60 : World, (∀ u59 : Env,
 Ca PP Fn.tree_Tree_change #[a0, a1, t61] w60 fun t62 w63 =>
 ∀ J64 : List Value → World → Prop, (∀ w66 : World, (∀ u65 : Env,
 ∀ J67 : List Value → World → Prop, (∀ w69 : World, (∀ u68 : Env,
 ∀ J70 : List Value → World → Prop, (∀ w72 : World, (∀ u71 : Env,
 ∀ J73 : List Value → World → Prop, (∀ w75 : World, (∀ u74 : Env,
 R (.int .i64 0) w75) → J73 [] w75) →
 ∀ J76 : List Value → World → Prop, (∀ t79, ∀ w78 : World, (∀ u77 : Env,
 Cnd t79 (
 Fa 5 t1 fun t80 =>
 Ld t80 w78 fun t81 =>
 Ca PP Fn.tree_node_resize #[t5, t81] w78 fun t82 w83 =>
 J73 [] w83) (
 J73 [] w78)) → J76 [t79] w78) →
 Gd t24 true (fun k84 => k84 t5 w72) w72 fun t85 w86 =>
 Gd t24 true (fun k87 => Ca PP Fn.tree_node_isDir #[t85] w86 fun t90 w91 =>
 k87 t90 w91) w86 fun t88 w89 =>
 Gd t24 true (fun k92 => Un .not t88 fun t95 =>
 k92 t95 w89) w89 fun t93 w94 =>
 Pk t24 t93 (.bool false) fun t96 =>
 J76 [t96] w94) → J70 [] w72) →
 Cnd t14 (
 Fa 8 t1 fun t97 =>
 Ld t97 w69 fun t98 =>
 Nc t5 fun t99 =>
 Fa 0 t99 fun t100 =>
 Fa 8 t100 fun t101 =>
 St PP 1 t101 t98 w69 fun w102 =>
 J70 [] w102) (
 J70 [] w69)) → J67 [] w69) →
 Cnd t18 (
 Fa 3 t1 fun t103 =>
 Ld t103 w66 fun t104 =>
 Ca PP Fn.tree_node_is #[t5, t104] w66 fun t105 w106 =>
 J67 [] w106) (
 J67 [] w66)) → J64 [] w66) →
 Cnd t21 (
 Fa 4 t1 fun t107 =>
 Ld t107 w63 fun t108 =>
 Nc t5 fun t109 =>
 Fa 0 t109 fun t110 =>
 Fa 4 t110 fun t111 =>
 St PP 1 t111 t108 w63 fun w112 =>
 J64 [] w112) (
 J64 [] w63)) → J58 [t61] w60) →
 Cnd t28 (
 Dr w57 fun w113 =>
 Nc t5 fun t114 =>
 Fa 12 t114 fun t115 =>
 Ld t115 w113 fun t116 =>
 Nc t116 fun t117 =>
 Fa 11 t117 fun t118 =>
 Ld t118 w113 fun t119 =>
 Nc t5 fun t120 =>
 Fa 0 t120 fun t121 =>
 Fa 6 t121 fun t122 =>
 Ld t122 w113 fun t123 =>
 Ef PP (Builtin.delete_ #[Ty.map_string_p_tree_node, Ty.string] Ty.t #[t119, t123]) w113 fun x_124 w125 =>
 Fa 6 t1 fun t126 =>
 Ld t126 w125 fun t127 =>
 Nc t5 fun t128 =>
 Fa 0 t128 fun t129 =>
 Fa 6 t129 fun t130 =>
 St PP 1 t130 t127 w125 fun w131 =>
 Dr w131 fun w132 =>
 Nc t5 fun t133 =>
 Fa 12 t133 fun t134 =>
 Ld t134 w132 fun t135 =>
 Nc t135 fun t136 =>
 Fa 11 t136 fun t137 =>
 Ld t137 w132 fun t138 =>
 Nc t5 fun t139 =>
 Fa 0 t139 fun t140 =>
 Fa 6 t140 fun t141 =>
 Ld t141 w132 fun t142 =>
 Ef PP (Instr.mapUpdate Ty.map_string_p_tree_node t138 t142 t5) w132 fun _ w143 =>
 Nc t5 fun t144 =>
 Fa 12 t144 fun t145 =>
 Ld t145 w143 fun t146 =>
 Ef PP (Instr.buildSlice Ty.sl_p_tree_node 1 #[(0, t146)]) w143 fun t147 w148 =>
 Ef PP (Builtin.append_ #[Ty.sl_p_tree_node, Ty.sl_p_tree_node] Ty.sl_p_tree_node #[t56, t147]) w148 fun t149 w150 =>
 J58 [t149] w150) (
 J58 [t56] w57))) → J52 [t55] w54) →
 Gd t11 false (fun k151 => k151 t14 w50) w50 fun t152 w153 =>
 Pk t11 (.bool true) t152 fun t154 =>
 Gd t154 false (fun k155 => k155 t18 w153) w153 fun t156 w157 =>
 Pk t154 (.bool true) t156 fun t158 =>
 Gd t158 false (fun k159 => k159 t21 w157) w157 fun t160 w161 =>
 Pk t158 (.bool true) t160 fun t162 =>
 Gd t162 false (fun k163 => k163 t24 w161) w161 fun t164 w165 =>
 Pk t162 (.bool true) t164 fun t166 =>
 Un .not t166 fun t167 =>
 J52 [t167] w165)) → J48 [t51] w50) →
 ∀ J168 : List Value → World → Prop, (∀ t171, ∀ w170 : World, (∀ u169 : Env,
 Cnd t171 (
 J48 [t171] w170) (
 ∀ J172 : List Value → World → Prop, (∀ t175, ∀ w174 : World, (∀ u173 : Env,
 Cnd t175 (
 J48 [t175] w174) (
 ∀ J176 : List Value → World → Prop, (∀ t179, ∀ w178 : World, (∀ u177 : Env,
 Cnd t179 (
 J48 [t179] w178) (
 Gd t14 true (fun k180 => k180 a0 w178) w178 fun t181 w182 =>
 Gd t14 true (fun k183 => k183 a1 w182) w182 fun t184 w185 =>
 Gd t14 true (fun k186 => Fa 8 t1 fun t189 =>
 k186 t189 w185) w185 fun t187 w188 =>
 Gd t14 true (fun k190 => Ld t187 w188 fun t193 =>
 k190 t193 w188) w188 fun t191 w192 =>
 Gd t14 true (fun k194 => Ca PP Fn.tree_Tree_member #[t181, t184, t191] w192 fun t197 w198 =>
 k194 t197 w198) w192 fun t195 w196 =>
 Gd t14 true (fun k199 => Un .not t195 fun t202 =>
 k199 t202 w196) w196 fun t200 w201 =>
 Pk t14 t200 (.bool false) fun t203 =>
 J48 [t203] w201)) → J176 [t179] w178) →
 Gd t18 false (fun k204 => k204 t21 w174) w174 fun t205 w206 =>
 Pk t18 (.bool true) t205 fun t207 =>
 Gd t207 false (fun k208 => k208 t14 w206) w206 fun t209 w210 =>
 Pk t207 (.bool true) t209 fun t211 =>
 Gd t211 true (fun k212 => k212 a1 w210) w210 fun t213 w214 =>
 Gd t211 true (fun k215 => k215 t5 w214) w214 fun t216 w217 =>
 Gd t211 true (fun k218 => Nc t216 fun t221 =>
 k218 t221 w217) w217 fun t219 w220 =>
 Gd t211 true (fun k222 => Fa 0 t219 fun t225 =>
 k222 t225 w220) w220 fun t223 w224 =>
 Gd t211 true (fun k226 => Fa 7 t223 fun t229 =>
 k226 t229 w224) w224 fun t227 w228 =>
 Gd t211 true (fun k230 => Ld t227 w228 fun t233 =>
 k230 t233 w228) w228 fun t231 w232 =>
 Gd t211 true (fun k234 => Bi .neq t213 t231 fun t237 =>
 k234 t237 w232) w232 fun t235 w236 =>
 Pk t211 t235 (.bool false) fun t238 =>
 J176 [t238] w236)) → J172 [t175] w174) →
 Gd t24 true (fun k239 => k239 t5 w170) w170 fun t240 w241 =>
 Gd t24 true (fun k242 => Ca PP Fn.tree_node_isDir #[t240] w241 fun t245 w246 =>
 k242 t245 w246) w241 fun t243 w244 =>
 Gd t24 true (fun k247 => Un .not t243 fun t250 =>
 k247 t250 w244) w244 fun t248 w249 =>
 Pk t24 t248 (.bool false) fun t251 =>
 Gd t251 true (fun k252 => k252 a0 w249) w249 fun t253 w254 =>
 Gd t251 true (fun k255 => k255 a1 w254) w254 fun t256 w257 =>
 Gd t251 true (fun k258 => k258 t5 w257) w257 fun t259 w260 =>
 Gd t251 true (fun k261 => Ca PP Fn.tree_Tree_may #[t253, t256, t259, (.int .i64 2)] w260 fun t264 w265 =>
 k261 t264 w265) w260 fun t262 w263 =>
 Gd t251 true (fun k266 => Un .not t262 fun t269 =>
 k266 t269 w263) w263 fun t267 w268 =>
 Pk t251 t267 (.bool false) fun t270 =>
 J172 [t270] w268)) → J168 [t171] w170) →
 Gd t28 true (fun k271 => k271 a0 w46) w46 fun t272 w273 =>
 Gd t28 true (fun k274 => k274 a1 w273) w273 fun t275 w276 =>
 Gd t28 true (fun k277 => k277 t5 w276) w276 fun t278 w279 =>
 Gd t28 true (fun k280 => Nc t278 fun t283 =>
 k280 t283 w279) w279 fun t281 w282 =>
 Gd t28 true (fun k284 => Fa 12 t281 fun t287 =>
 k284 t287 w282) w282 fun t285 w286 =>
 Gd t28 true (fun k288 => Ld t285 w286 fun t291 =>
 k288 t291 w286) w286 fun t289 w290 =>
 Gd t28 true (fun k292 => Ca PP Fn.tree_Tree_may #[t272, t275, t289, (.int .i64 2)] w290 fun t295 w296 =>
 k292 t295 w296) w290 fun t293 w294 =>
 Gd t28 true (fun k297 => Un .not t293 fun t300 =>
 k297 t300 w294) w294 fun t298 w299 =>
 Pk t28 t298 (.bool false) fun t301 =>
 J168 [t301] w299)) → J44 [t47] w46) →
 Dr w39 fun w302 =>
 Gd t28 true (fun k303 => k303 t5 w302) w302 fun t304 w305 =>
 Gd t28 true (fun k306 => Nc t304 fun t309 =>
 k306 t309 w305) w305 fun t307 w308 =>
 Gd t28 true (fun k310 => Fa 12 t307 fun t313 =>
 k310 t313 w308) w308 fun t311 w312 =>
 Gd t28 true (fun k314 => Ld t311 w312 fun t317 =>
 k314 t317 w312) w312 fun t315 w316 =>
 Gd t28 true (fun k318 => Nc t315 fun t321 =>
 k318 t321 w316) w316 fun t319 w320 =>
 Gd t28 true (fun k322 => Fa 11 t319 fun t325 =>
 k322 t325 w320) w320 fun t323 w324 =>
 Gd t28 true (fun k326 => Ld t323 w324 fun t329 =>
 k326 t329 w324) w324 fun t327 w328 =>
 Gd t28 true (fun k330 => Fa 6 t1 fun t333 =>
 k330 t333 w328) w328 fun t331 w332 =>
 Gd t28 true (fun k334 => Ld t331 w332 fun t337 =>
 k334 t337 w332) w332 fun t335 w336 =>
 Gd t28 true (fun k338 => Rd PP (Instr.lookup Ty.map_string_p_tree_node t327 t335 false) w336 fun t341 =>
 k338 t341 w336) w336 fun t339 w340 =>
 Gd t28 true (fun k342 => Rd PP (eqS .neq Ty.p_tree_node (.tmp 152) (.const (.pointer none)) t339 (.pointer none)) w340 fun t345 =>
 k342 t345 w340) w340 fun t343 w344 =>
 Pk t28 t343 (.bool false) fun t346 =>
 J44 [t346] w344))) → J37 [t40] w39) →
 Gd t24 true (fun k347 => Fa 5 t1 fun t350 =>
 k347 t350 w35) w35 fun t348 w349 =>
 Gd t24 true (fun k351 => Ld t348 w349 fun t354 =>
 k351 t354 w349) w349 fun t352 w353 =>
 Gd t24 true (fun k355 => Bi .neq t352 (.int .i64 0) fun t358 =>
 k355 t358 w353) w353 fun t356 w357 =>
 Pk t24 t356 (.bool false) fun t359 =>
 Gd t359 true (fun k360 => k360 t5 w357) w357 fun t361 w362 =>
 Gd t359 true (fun k363 => Ca PP Fn.tree_node_isDir #[t361] w362 fun t366 w367 =>
 k363 t366 w367) w362 fun t364 w365 =>
 Pk t359 t364 (.bool false) fun t368 =>
 J37 [t368] w365)) → J33 [t36] w35) →
 Gd t11 true (fun k369 => Fa 6 t1 fun t372 =>
 k369 t372 w31) w31 fun t370 w371 =>
 Gd t11 true (fun k373 => Ld t370 w371 fun t376 =>
 k373 t376 w371) w371 fun t374 w375 =>
 Gd t11 true (fun k377 => Ca PP Fn.tree_Valid #[t374] w375 fun t380 w381 =>
 k377 t380 w381) w375 fun t378 w379 =>
 Gd t11 true (fun k382 => Un .not t378 fun t385 =>
 k382 t385 w379) w379 fun t383 w384 =>
 Pk t11 t383 (.bool false) fun t386 =>
 Gd t386 false (fun k387 => k387 t14 w384) w384 fun t388 w389 =>
 Gd t386 false (fun k390 => k390 t388 w389) w389 fun t391 w392 =>
 Gd t391 true (fun k393 => Fa 8 t1 fun t396 =>
 k393 t396 w392) w392 fun t394 w395 =>
 Gd t391 true (fun k397 => Ld t394 w395 fun t400 =>
 k397 t400 w395) w395 fun t398 w399 =>
 Gd t391 true (fun k401 => Ca PP Fn.tree_Valid #[t398] w399 fun t404 w405 =>
 k401 t404 w405) w399 fun t402 w403 =>
 Gd t391 true (fun k406 => Un .not t402 fun t409 =>
 k406 t409 w403) w403 fun t407 w408 =>
 Gd t386 false (fun k410 => Pk t391 t407 (.bool false) fun t413 =>
 k410 t413 w408) w408 fun t411 w412 =>
 Pk t386 (.bool true) t411 fun t414 =>
 J33 [t414] w412)) → J29 [t32] w31) →
 ∀ J415 : List Value → World → Prop, (∀ t418, ∀ w417 : World, (∀ u416 : Env,
 Cnd t418 (
 J29 [t418] w417) (
 Dr w417 fun w419 =>
 Gd t18 true (fun k420 => Fa 3 t1 fun t423 =>
 k420 t423 w419) w419 fun t421 w422 =>
 Gd t18 true (fun k424 => Ld t421 w422 fun t427 =>
 k424 t427 w422) w422 fun t425 w426 =>
 Gd t18 true (fun k428 => Ca PP Fn.tree_right #[t425] w426 fun t431 w432 =>
 k428 t431 w432) w426 fun t429 w430 =>
 Gd t18 true (fun k433 => Un .not t429 fun t436 =>
 k433 t436 w430) w430 fun t434 w435 =>
 Gd t18 true (fun k437 => k437 t434 w435) w435 fun t438 w439 =>
 Gd t438 false (fun k440 => Fa 3 t1 fun t443 =>
 k440 t443 w439) w439 fun t441 w442 =>
 Gd t438 false (fun k444 => Ld t441 w442 fun t447 =>
 k444 t447 w442) w442 fun t445 w446 =>
 Gd t438 false (fun k448 => Bi .and t445 (.int .i64 2147483648) fun t451 =>
 k448 t451 w446) w446 fun t449 w450 =>
 Gd t438 false (fun k452 => k452 t5 w450) w450 fun t453 w454 =>
 Gd t438 false (fun k455 => Nc t453 fun t458 =>
 k455 t458 w454) w454 fun t456 w457 =>
 Gd t438 false (fun k459 => Fa 0 t456 fun t462 =>
 k459 t462 w457) w457 fun t460 w461 =>
 Gd t438 false (fun k463 => Fa 3 t460 fun t466 =>
 k463 t466 w461) w461 fun t464 w465 =>
 Gd t438 false (fun k467 => Ld t464 w465 fun t470 =>
 k467 t470 w465) w465 fun t468 w469 =>
 Gd t438 false (fun k471 => Bi .and t468 (.int .i64 2147483648) fun t474 =>
 k471 t474 w469) w469 fun t472 w473 =>
 Gd t438 false (fun k475 => Bi .neq t449 t472 fun t478 =>
 k475 t478 w473) w473 fun t476 w477 =>
 Gd t18 true (fun k479 => Pk t438 (.bool true) t476 fun t482 =>
 k479 t482 w477) w477 fun t480 w481 =>
 Pk t18 t480 (.bool false) fun t483 =>
 J29 [t483] w481)) → J415 [t418] w417) →
 Fa 0 t1 fun t484 =>
 LdA PP 3 t484 w27 fun t485 =>
 Bd #[.int .i64 0, .int .i64 0, .int .i64 0] [(0, 1), (1, 1), (2, 1)] [] fun t486 =>
 Rd PP (eqS .neq Ty.api_Qid (.tmp 55) (.tmp 56) t485 t486) w27 fun t487 =>
 Gd t487 false (fun k488 => Fa 7 t1 fun t491 =>
 k488 t491 w27) w27 fun t489 w490 =>
 Gd t487 false (fun k492 => Ld t489 w490 fun t495 =>
 k492 t495 w490) w490 fun t493 w494 =>
 Gd t487 false (fun k496 => Bi .neq t493 (.string ⟨#[]⟩) fun t499 =>
 k496 t499 w494) w494 fun t497 w498 =>
 Pk t487 (.bool true) t497 fun t500 =>
 Gd t500 false (fun k501 => Fa 9 t1 fun t504 =>
 k501 t504 w498) w498 fun t502 w503 =>
 Gd t500 false (fun k505 => Ld t502 w503 fun t508 =>
 k505 t508 w503) w503 fun t506 w507 =>
 Gd t500 false (fun k509 => Bi .neq t506 (.string ⟨#[]⟩) fun t512 =>
 k509 t512 w507) w507 fun t510 w511 =>
 Pk t500 (.bool true) t510 fun t513 =>
 Gd t513 false (fun k514 => Fa 5 t1 fun t517 =>
 k514 t517 w511) w511 fun t515 w516 =>
 Gd t513 false (fun k518 => Ld t515 w516 fun t521 =>
 k518 t521 w516) w516 fun t519 w520 =>
 Gd t513 false (fun k522 => Bi .lss t519 (.int .i64 (-1)) fun t525 =>
 k522 t525 w520) w520 fun t523 w524 =>
 Pk t513 (.bool true) t523 fun t526 =>
 Gd t526 false (fun k527 => Fa 4 t1 fun t530 =>
 k527 t530 w524) w524 fun t528 w529 =>
 Gd t526 false (fun k531 => Ld t528 w529 fun t534 =>
 k531 t534 w529) w529 fun t532 w533 =>
 Gd t526 false (fun k535 => Bi .lss t532 (.int .i64 (-1)) fun t538 =>
 k535 t538 w533) w533 fun t536 w537 =>
 Pk t526 (.bool true) t536 fun t539 =>
 Gd t539 false (fun k540 => k540 t11 w537) w537 fun t541 w542 =>
 Gd t539 false (fun k543 => k543 t541 w542) w542 fun t544 w545 =>
 Gd t544 true (fun k546 => k546 t5 w545) w545 fun t547 w548 =>
 Gd t544 true (fun k549 => k549 a0 w548) w548 fun t550 w551 =>
 Gd t544 true (fun k552 => Nc t550 fun t555 =>
 k552 t555 w551) w551 fun t553 w554 =>
 Gd t544 true (fun k556 => Fa 0 t553 fun t559 =>
 k556 t559 w554) w554 fun t557 w558 =>
 Gd t544 true (fun k560 => Ld t557 w558 fun t563 =>
 k560 t563 w558) w558 fun t561 w562 =>
 Gd t544 true (fun k564 => Rd PP (eqS .eql Ty.p_tree_node (.tmp 81) (.tmp 85) t547 t561) w562 fun t567 =>
 k564 t567 w562) w562 fun t565 w566 =>
 Gd t539 false (fun k568 => Pk t544 t565 (.bool false) fun t571 =>
 k568 t571 w566) w566 fun t569 w570 =>
 Pk t539 (.bool true) t569 fun t572 =>
 J415 [t572] w570) → J25 [t28] w27) →
 Dr w15 fun w573 =>
 Gd t11 true (fun k574 => Fa 6 t1 fun t577 =>
 k574 t577 w573) w573 fun t575 w576 =>
 Gd t11 true (fun k578 => Ld t575 w576 fun t581 =>
 k578 t581 w576) w576 fun t579 w580 =>
 Gd t11 true (fun k582 => k582 t5 w580) w580 fun t583 w584 =>
 Gd t11 true (fun k585 => Nc t583 fun t588 =>
 k585 t588 w584) w584 fun t586 w587 =>
 Gd t11 true (fun k589 => Fa 0 t586 fun t592 =>
 k589 t592 w587) w587 fun t590 w591 =>
 Gd t11 true (fun k593 => Fa 6 t590 fun t596 =>
 k593 t596 w591) w591 fun t594 w595 =>
 Gd t11 true (fun k597 => Ld t594 w595 fun t600 =>
 k597 t600 w595) w595 fun t598 w599 =>
 Gd t11 true (fun k601 => Bi .neq t579 t598 fun t604 =>
 k601 t604 w599) w599 fun t602 w603 =>
 Pk t11 t602 (.bool false) fun t605 =>
 J25 [t605] w603)
def S.tree_Tree_Wstat.an : Ann := (.seq .leaf (.seq .leaf (.seq (.seq .leaf (.cond (.seq .leaf .leaf) .leaf)) (.seq (.draw [[],[0],[0,1],[],[3],[3,4],[0,1,2],[0,1,2,3,4,5,6]] (.calm 0 (.calm 1 (.calm 2 (.calm 3 (.calm 4 (.calm 5 (.calm 6 (.calm 7 .done))))))))) (.seq (.draw [[],[0],[0,1],[],[3],[3,4],[],[6],[6,7],[0,1,2],[0,1,2,3,4,5,9],[0,1,2,3,4,5,6,7,8,9,10]] (.calm 0 (.calm 1 (.calm 2 (.calm 3 (.calm 4 (.calm 5 (.calm 6 (.calm 7 (.calm 8 (.calm 9 (.calm 10 (.calm 11 .done))))))))))))) (.join (.draw [[],[0],[0,1],[0,1,2],[0,1],[0,1,4],[0,1,4,5],[0,1,4,5,6],[0,1,4,5,6,7],[0,1,2,3,4,5,6,7,8],[0,1,2,3,4,5,6,7,8,9],[0,1,2,3,4,5,6,7,8,9,10]] (.calm 0 (.calm 1 (.calm 2 (.calm 3 (.calm 4 (.calm 5 (.calm 6 (.calm 7 (.calm 8 (.calm 9 (.calm 10 (.calm 11 .done))))))))))))) [16] [42,43,44,45,46,47,48,49,50,51,52] (.seq (.block (.join (.join .leaf [53] [54,55,56,57,58,59,60,61,62,63,64,65,66,67,68,69,70,71,72,73,74,75,76,77,78,79,80,81,82,83,84,85,86,87,88] (.cond .leaf (.draw [[],[0],[0,1],[0,1,2],[0,1,2,3],[0,1,2,3,4],[0,1,2,3,4,5],[0,1,2,3,4,5,6],[0,1,2,3,4,5,6,7],[0,1,2,3,4,5,6,7,8],[0,1,2,3,4,5,6],[0,1,2,3,4,5,6,10],[0,1,2,3,4,5,6,10,11],[0,1,2,3,4,5,6,10,11,12],[0,1,2,3,4,5,6,10,11,12,13],[0,1,2,3,4,5,6,10,11,12,13,14],[0,1,2,3,4,5,6,7,8,9,10,11,12,13,14,15],[0,1,2,3,4,5,6,7,8,9,10,11,12,13,14,15,16],[0,1,2,3,4,5,6,7,8,9,10,11,12,13,14,15,16,17],[0,1,2,3,4,5,6,7,8,9,10,11,12,13,14,15,16,17,18]] (.calm 0 (.calm 1 (.calm 2 (.calm 3 (.eff1 4 [] (.calm 5 (.calm 6 (.calm 7 (.calm 8 (.calm 9 (.calm 10 (.calm 11 (.calm 12 (.calm 13 (.calm 14 (.calm 15 (.calm 16 (.calm 17 (.calm 18 (.calm 19 .done))))))))))))))))))))))) [53] [54,55,56,57,58,59,60,61,62,63,64,65,66,67,68,69,70,71,72,73,74,75,76,77,78,79,80,81,82,83,84,85,86,87,88,89,90,91,92,93,94,95,96,97,98,99,100,101,102,103,104,105,106,107] (.cond (.seq .leaf .leaf) (.join .leaf [108] [109,110,111,112,113,114,115,116,117,118,119,120,121,122,123,124] (.cond (.seq .leaf .leaf) (.join .leaf [125] [126,127,128,129,130,131,132,133,134,135] (.cond (.seq .leaf .leaf) (.seq .leaf (.cond (.seq .leaf .leaf) (.join (.draw [[],[0],[0,1],[0,1,2],[0,1,2,3],[0,1,2,3,4],[0,1,2,3,4,5],[0,1,2,3,4,5,6],[0,1,2,3,4,5,6,7],[0,1],[0,1,9],[0,1,2,3,4,5,6,7,8,9,10],[0,1,2,3,4,5,6,7,8,9,10,11],[0,1,2,3,4,5,6,7,8,9,10,11,12],[0,1,2,3,4,5,6,7,8,9,10,11,12,13]] (.calm 0 (.calm 1 (.calm 2 (.calm 3 (.calm 4 (.calm 5 (.calm 6 (.calm 7 (.calm 8 (.calm 9 (.calm 10 (.calm 11 (.calm 12 (.calm 13 (.calm 14 .done)))))))))))))))) [140] [141,142,143,144,145,146,147,148,149,150,151,152,153,154] (.cond (.seq .leaf .leaf) (.join (.join .leaf [155] [156,157,158,159,160,161,162,163,164,165,166] (.cond .leaf (.join .leaf [155] [167,168,169,170,171,172,173,174,175,176,177,178,179] (.cond .leaf (.join .leaf [155] [180,181,182,183,184,185,186,187,188,189,190,191,192,193,194,195] (.cond .leaf .leaf)))))) [155] [156,157,158,159,160,161,162,163,164,165,166,167,168,169,170,171,172,173,174,175,176,177,178,179,180,181,182,183,184,185,186,187,188,189,190,191,192,193,194,195,196,197,198,199,200,201,202,203,204] (.cond (.seq .leaf .leaf) (.join .leaf [205] [206,207,208,209,210,211,212,213,214,215,216,217,218,219] (.cond (.seq .leaf .leaf) .leaf))))))))))))))) (.seq .leaf (.join (.seq .leaf (.cond (.seq (.draw [[],[0],[0,1],[0,1,2],[0,1,2,3],[0,1,2,3,4],[0,1,2,3,4,5],[],[7],[7,8],[7,8,9],[7,8,9,10],[0,1,2,3,4,5,6,7,8,9,10,11]] (.calm 0 (.calm 1 (.calm 2 (.calm 3 (.calm 4 (.calm 5 (.calm 6 (.calm 7 (.calm 8 (.calm 9 (.calm 10 (.calm 11 (.eff1 12 [] .done)))))))))))))) (.seq .leaf (.seq (.draw [[],[0],[0,1],[0,1,2],[0,1,2,3],[0,1,2,3,4],[0,1,2,3,4,5],[],[7],[7,8],[7,8,9],[7,8,9,10],[],[0,1,2,3,4,5,6,7,8,9,10,11,12]] (.calm 0 (.calm 1 (.calm 2 (.calm 3 (.calm 4 (.calm 5 (.calm 6 (.calm 7 (.calm 8 (.calm 9 (.calm 10 (.calm 11 (.calm 12 (.eff1 13 [] .done))))))))))))))) .leaf))) .leaf)) [17] [222,223,224,225,226,227,228,229,230,231,232,233,234,235,236,237,238,239,240,241,242,243,244,245,246,247,248,249,250,251,252,253,254,255,256,257,258,259,260] (.seq .leaf (.join (.seq .leaf (.cond .leaf .leaf)) [] [265,266,267,268,269,270,271] (.join (.seq .leaf (.cond .leaf .leaf)) [] [272,273,274,275,276] (.join (.seq .leaf (.cond .leaf .leaf)) [] [277,278,279,280,281,282,283] (.join (.join .leaf [289] [284,285,286,287,288] (.cond .leaf .leaf)) [] [284,285,286,287,288,289,290,291,292,293] (.seq .leaf .leaf)))))))))))))))
theorem S.tree_Tree_Wstat.eq (a0 a1 a2 a3 : Value) (w : World) (R : Value → World → Prop) : S.tree_Tree_Wstat a0 a1 a2 a3 w R = fnC PP 294 (Tryz.f228.body.getD .skip) S.tree_Tree_Wstat.an [.tmp 8] [a0, a1, a2, a3] w R := by kernel_rfl
theorem S.tree_Tree_Wstat.calls {a0 a1 a2 a3 : Value} {w : World} {R : Value → World → Prop} (h : S.tree_Tree_Wstat a0 a1 a2 a3 w R) : Ca PP Fn.tree_Tree_Wstat #[a0, a1, a2, a3] w R :=
  fnC_calls mixed (f := Fn.tree_Tree_Wstat) (an := S.tree_Tree_Wstat.an) Tryz.func228 rfl (by show _ ≤ _; exact Nat.le_of_ble_eq_true rfl) (S.tree_Tree_Wstat.eq a0 a1 a2 a3 w R ▸ h)
end Go.Proofs.YtjffgllkfbcaeaaGreatDoor
