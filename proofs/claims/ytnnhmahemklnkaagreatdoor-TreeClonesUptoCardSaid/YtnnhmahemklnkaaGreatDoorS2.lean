/- Own text. -/
import Derived.Test.YtnnhmahemklnkaaGreatDoorSc
namespace Go.Proofs.YtnnhmahemklnkaaGreatDoor
open Go Go.Sh
set_option linter.unusedVariables false
set_option maxRecDepth 100000
/-- (*acheron/tree.Tree).Walk -/
def S.tree_Tree_Walk (a0 a1 a2 a3 : Value) (w : World) (R : Value → World → Prop) : Prop :=
 Al Ty.api_Qid #[.int .i64 0, .int .i64 0, .int .i64 0] w fun t1 w2 =>
 Ca PP Fn.tree_Tree_folder #[a0, a2] w2 fun t3 w4 =>
 Ex t3 0 fun t5 =>
 Ex t3 1 fun t6 =>
 Bi .neq t6 (.int .i64 0) fun t7 =>
 Cnd t7 (
 Bd #[.int .i64 0, .int .i64 0, .int .i64 0] [(0, 1), (1, 1), (2, 1)] [] fun t8 =>
 St PP 3 t1 t8 w4 fun w9 =>
 LdA PP 3 t1 w9 fun t10 =>
 R (.tuple #[t10, t6]) w9) (
 Ca PP Fn.tree_Tree_may #[a0, a1, t5, (.int .i64 1)] w4 fun t11 w12 =>
 Un .not t11 fun t13 =>
 Cnd t13 (
 Bd #[.int .i64 0, .int .i64 0, .int .i64 0] [(0, 1), (1, 1), (2, 1)] [] fun t14 =>
 St PP 3 t1 t14 w12 fun w15 =>
 LdA PP 3 t1 w15 fun t16 =>
 R (.tuple #[t16, (.int .i64 17)]) w15) (
 Bi .eql a3 (.string ⟨#[46]⟩) fun t17 =>
 Cnd t17 (
 Nc t5 fun t18 =>
 Fa 0 t18 fun t19 =>
 Fa 0 t19 fun t20 =>
 LdA PP 3 t20 w12 fun t21 =>
 St PP 3 t1 t21 w12 fun w22 =>
 LdA PP 3 t1 w22 fun t23 =>
 R (.tuple #[t23, (.int .i64 0)]) w22) (
 Bi .eql a3 (.string ⟨#[46, 46]⟩) fun t24 =>
 Cnd t24 (
 ∀ J25 : List Value → World → Prop, (∀ t28, ∀ w27 : World, (∀ u26 : Env,
 Nc t28 fun t29 =>
 Fa 0 t29 fun t30 =>
 Fa 0 t30 fun t31 =>
 LdA PP 3 t31 w27 fun t32 =>
 St PP 3 t1 t32 w27 fun w33 =>
 LdA PP 3 t1 w33 fun t34 =>
 R (.tuple #[t34, (.int .i64 0)]) w33) → J25 [t28] w27) →
 Nc t5 fun t35 =>
 Fa 12 t35 fun t36 =>
 Ld t36 w12 fun t37 =>
 Rd PP (eqS .neq Ty.p_tree_node (.tmp 46) (.const (.pointer none)) t37 (.pointer none)) w12 fun t38 =>
 Cnd t38 (
 Nc t5 fun t39 =>
 Fa 12 t39 fun t40 =>
 Ld t40 w12 fun t41 =>
 J25 [t41] w12) (
 J25 [t5] w12)) (
 Ca PP Fn.tree_Valid #[a3] w12 fun t42 w43 =>
 Un .not t42 fun t44 =>
 Cnd t44 (
 Bd #[.int .i64 0, .int .i64 0, .int .i64 0] [(0, 1), (1, 1), (2, 1)] [] fun t45 =>
 St PP 3 t1 t45 w43 fun w46 =>
 LdA PP 3 t1 w46 fun t47 =>
 R (.tuple #[t47, (.int .i64 8)]) w46) (
 Nc t5 fun t48 =>
 Fa 11 t48 fun t49 =>
 Ld t49 w43 fun t50 =>
 Rd PP (Instr.lookup Ty.map_string_p_tree_node t50 a3 true) w43 fun t51 =>
 Ex t51 0 fun t52 =>
 Ex t51 1 fun t53 =>
 Cnd t53 (
 Nc t52 fun t54 =>
 Fa 0 t54 fun t55 =>
 Fa 0 t55 fun t56 =>
 LdA PP 3 t56 w43 fun t57 =>
 St PP 3 t1 t57 w43 fun w58 =>
 LdA PP 3 t1 w58 fun t59 =>
 R (.tuple #[t59, (.int .i64 0)]) w58) (
 Bd #[.int .i64 0, .int .i64 0, .int .i64 0] [(0, 1), (1, 1), (2, 1)] [] fun t60 =>
 St PP 3 t1 t60 w43 fun w61 =>
 LdA PP 3 t1 w61 fun t62 =>
 R (.tuple #[t62, (.int .i64 4)]) w61))))))
def S.tree_Tree_Walk.an : Ann := (.seq .leaf (.seq .leaf (.seq (.block (.seq .leaf (.cond (.seq .leaf .leaf) (.seq .leaf (.cond (.seq .leaf .leaf) (.seq .leaf (.cond (.seq .leaf .leaf) (.seq .leaf (.cond (.join (.seq .leaf (.cond .leaf .leaf)) [10] [43,44,45,46,47,48,49,50,51] (.seq .leaf .leaf)) (.seq .leaf (.cond (.seq .leaf .leaf) .leaf))))))))))) (.seq (.seq .leaf (.seq .leaf (.cond (.seq .leaf .leaf) .leaf))) (.seq .leaf .leaf)))))
theorem S.tree_Tree_Walk.eq (a0 a1 a2 a3 : Value) (w : World) (R : Value → World → Prop) : S.tree_Tree_Walk a0 a1 a2 a3 w R = fnC PP 78 (Tryz.f78.body.getD .skip) S.tree_Tree_Walk.an [.cell 8 37, .tmp 9] [a0, a1, a2, a3] w R := by kernel_rfl
theorem S.tree_Tree_Walk.calls {a0 a1 a2 a3 : Value} {w : World} {R : Value → World → Prop} (h : S.tree_Tree_Walk a0 a1 a2 a3 w R) : Ca PP Fn.tree_Tree_Walk #[a0, a1, a2, a3] w R :=
  fnC_calls mixed (f := Fn.tree_Tree_Walk) (an := S.tree_Tree_Walk.an) Tryz.func78 rfl (by show _ ≤ _; exact Nat.le_of_ble_eq_true rfl) (S.tree_Tree_Walk.eq a0 a1 a2 a3 w R ▸ h)
/-- (*acheron/tree.Tree).Wstat -/
def S.tree_Tree_Wstat (a0 a1 a2 a3 : Value) (w : World) (R : Value → World → Prop) : Prop :=
 Al Ty.api_Dir (a3 : Value).cells w fun t1 w2 =>
 Ca PP Fn.tree_Tree_find #[a0, a2] w2 fun t3 w4 =>
 Ex t3 0 fun t5 =>
 Ex t3 1 fun t6 =>
 Bi .neq t6 (.int .i64 0) fun t7 =>
 Cnd t7 (
 R t6 w4) (
 Dr w4 fun w8 =>
 Fa 6 t1 fun t9 =>
 Ld t9 w8 fun t10 =>
 Bi .neq t10 (.string ⟨#[]⟩) fun t11 =>
 Fa 8 t1 fun t12 =>
 Ld t12 w8 fun t13 =>
 Bi .neq t13 (.string ⟨#[]⟩) fun t14 =>
 Dr w8 fun w15 =>
 Fa 3 t1 fun t16 =>
 Ld t16 w15 fun t17 =>
 Bi .neq t17 (.int .i64 (-1)) fun t18 =>
 Fa 4 t1 fun t19 =>
 Ld t19 w15 fun t20 =>
 Bi .neq t20 (.int .i64 (-1)) fun t21 =>
 Fa 5 t1 fun t22 =>
 Ld t22 w15 fun t23 =>
 Bi .neq t23 (.int .i64 (-1)) fun t24 =>
 ∀ J25 : List Value → World → Prop, (∀ t28, ∀ w27 : World, (∀ u26 : Env,
 ∀ J29 : List Value → World → Prop, (∀ t32, ∀ w31 : World, (∀ u30 : Env,
 Cnd t32 (
 R (.int .i64 1) w31) (
 ∀ J33 : List Value → World → Prop, (∀ t36, ∀ w35 : World, (∀ u34 : Env,
 Cnd t36 (
 R (.int .i64 8) w35) (
 ∀ J37 : List Value → World → Prop, (∀ t40, ∀ w39 : World, (∀ u38 : Env,
 Cnd t40 (
 R (.int .i64 18) w39) (
 Fa 5 t1 fun t41 =>
 Ld t41 w39 fun t42 =>
 Bi .gtr t42 (.int .i64 1048576) fun t43 =>
 Cnd t43 (
 R (.int .i64 3) w39) (
 ∀ J44 : List Value → World → Prop, (∀ t47, ∀ w46 : World, (∀ u45 : Env,
 Cnd t47 (
 R (.int .i64 5) w46) (
 ∀ J48 : List Value → World → Prop, (∀ t51, ∀ w50 : World, (∀ u49 : Env,
 Cnd t51 (
 R (.int .i64 17) w50) (
 ∀ J52 : List Value → World → Prop, (∀ t55, ∀ w54 : World, (∀ u53 : Env,
 Cnd t55 (
 R (.int .i64 0) w54) (
 Ef PP (Instr.buildSlice Ty.sl_p_tree_node 1 #[(0, t5)]) w54 fun t56 w57 =>
 ∀ J58 : List Value → World → Prop, (∀ t61, ∀ w60 : World, (∀ u59 : Env,
 Ca PP Fn.tree_Tree_change #[a0, a1, t61] w60 fun t62 w63 =>
 ∀ J64 : List Value → World → Prop, (∀ w66 : World, (∀ u65 : Env,
 ∀ J67 : List Value → World → Prop, (∀ w69 : World, (∀ u68 : Env,
 ∀ J70 : List Value → World → Prop, (∀ w72 : World, (∀ u71 : Env,
 ∀ J73 : List Value → World → Prop, (∀ w75 : World, (∀ u74 : Env,
 R (.int .i64 0) w75) → J73 [] w75) →
 ∀ J76 : List Value → World → Prop, (∀ t79, ∀ w78 : World, (∀ u77 : Env,
 Cnd t79 (
 Fa 5 t1 fun t80 =>
 Ld t80 w78 fun t81 =>
 Ca PP Fn.tree_node_resize #[t5, t81] w78 fun t82 w83 =>
 J73 [] w83) (
 J73 [] w78)) → J76 [t79] w78) →
 Gd t24 true (fun k84 => k84 t5 w72) w72 fun t85 w86 =>
 Gd t24 true (fun k87 => Ca PP Fn.tree_node_isDir #[t85] w86 fun t90 w91 =>
 k87 t90 w91) w86 fun t88 w89 =>
 Gd t24 true (fun k92 => Un .not t88 fun t95 =>
 k92 t95 w89) w89 fun t93 w94 =>
 Pk t24 t93 (.bool false) fun t96 =>
 J76 [t96] w94) → J70 [] w72) →
 Cnd t14 (
 Fa 8 t1 fun t97 =>
 Ld t97 w69 fun t98 =>
 Nc t5 fun t99 =>
 Fa 0 t99 fun t100 =>
 Fa 8 t100 fun t101 =>
 St PP 1 t101 t98 w69 fun w102 =>
 J70 [] w102) (
 J70 [] w69)) → J67 [] w69) →
 Cnd t18 (
 Fa 3 t1 fun t103 =>
 Ld t103 w66 fun t104 =>
 Ca PP Fn.tree_node_is #[t5, t104] w66 fun t105 w106 =>
 J67 [] w106) (
 J67 [] w66)) → J64 [] w66) →
 Cnd t21 (
 Fa 4 t1 fun t107 =>
 Ld t107 w63 fun t108 =>
 Nc t5 fun t109 =>
 Fa 0 t109 fun t110 =>
 Fa 4 t110 fun t111 =>
 St PP 1 t111 t108 w63 fun w112 =>
 J64 [] w112) (
 J64 [] w63)) → J58 [t61] w60) →
 Cnd t28 (
 Dr w57 fun w113 =>
 Nc t5 fun t114 =>
 Fa 12 t114 fun t115 =>
 Ld t115 w113 fun t116 =>
 Nc t116 fun t117 =>
 Fa 11 t117 fun t118 =>
 Ld t118 w113 fun t119 =>
 Nc t5 fun t120 =>
 Fa 0 t120 fun t121 =>
 Fa 6 t121 fun t122 =>
 Ld t122 w113 fun t123 =>
 Ef PP (Builtin.delete_ #[Ty.map_string_p_tree_node, Ty.string] Ty.t #[t119, t123]) w113 fun x_124 w125 =>
 Fa 6 t1 fun t126 =>
 Ld t126 w125 fun t127 =>
 Nc t5 fun t128 =>
 Fa 0 t128 fun t129 =>
 Fa 6 t129 fun t130 =>
 St PP 1 t130 t127 w125 fun w131 =>
 Dr w131 fun w132 =>
 Nc t5 fun t133 =>
 Fa 12 t133 fun t134 =>
 Ld t134 w132 fun t135 =>
 Nc t135 fun t136 =>
 Fa 11 t136 fun t137 =>
 Ld t137 w132 fun t138 =>
 Nc t5 fun t139 =>
 Fa 0 t139 fun t140 =>
 Fa 6 t140 fun t141 =>
 Ld t141 w132 fun t142 =>
 Ef PP (Instr.mapUpdate Ty.map_string_p_tree_node t138 t142 t5) w132 fun _ w143 =>
 Nc t5 fun t144 =>
 Fa 12 t144 fun t145 =>
 Ld t145 w143 fun t146 =>
 Ef PP (Instr.buildSlice Ty.sl_p_tree_node 1 #[(0, t146)]) w143 fun t147 w148 =>
 Ef PP (Builtin.append_ #[Ty.sl_p_tree_node, Ty.sl_p_tree_node] Ty.sl_p_tree_node #[t56, t147]) w148 fun t149 w150 =>
 J58 [t149] w150) (
 J58 [t56] w57))) → J52 [t55] w54) →
 Gd t11 false (fun k151 => k151 t14 w50) w50 fun t152 w153 =>
 Pk t11 (.bool true) t152 fun t154 =>
 Gd t154 false (fun k155 => k155 t18 w153) w153 fun t156 w157 =>
 Pk t154 (.bool true) t156 fun t158 =>
 Gd t158 false (fun k159 => k159 t21 w157) w157 fun t160 w161 =>
 Pk t158 (.bool true) t160 fun t162 =>
 Gd t162 false (fun k163 => k163 t24 w161) w161 fun t164 w165 =>
 Pk t162 (.bool true) t164 fun t166 =>
 Un .not t166 fun t167 =>
 J52 [t167] w165)) → J48 [t51] w50) →
 ∀ J168 : List Value → World → Prop, (∀ t171, ∀ w170 : World, (∀ u169 : Env,
 Cnd t171 (
 J48 [t171] w170) (
 ∀ J172 : List Value → World → Prop, (∀ t175, ∀ w174 : World, (∀ u173 : Env,
 Cnd t175 (
 J48 [t175] w174) (
 ∀ J176 : List Value → World → Prop, (∀ t179, ∀ w178 : World, (∀ u177 : Env,
 Cnd t179 (
 J48 [t179] w178) (
 Gd t14 true (fun k180 => k180 a0 w178) w178 fun t181 w182 =>
 Gd t14 true (fun k183 => k183 a1 w182) w182 fun t184 w185 =>
 Gd t14 true (fun k186 => Fa 8 t1 fun t189 =>
 k186 t189 w185) w185 fun t187 w188 =>
 Gd t14 true (fun k190 => Ld t187 w188 fun t193 =>
 k190 t193 w188) w188 fun t191 w192 =>
 Gd t14 true (fun k194 => Ca PP Fn.tree_Tree_member #[t181, t184, t191] w192 fun t197 w198 =>
 k194 t197 w198) w192 fun t195 w196 =>
 Gd t14 true (fun k199 => Un .not t195 fun t202 =>
 k199 t202 w196) w196 fun t200 w201 =>
 Pk t14 t200 (.bool false) fun t203 =>
 J48 [t203] w201)) → J176 [t179] w178) →
 Gd t18 false (fun k204 => k204 t21 w174) w174 fun t205 w206 =>
 Pk t18 (.bool true) t205 fun t207 =>
 Gd t207 false (fun k208 => k208 t14 w206) w206 fun t209 w210 =>
 Pk t207 (.bool true) t209 fun t211 =>
 Gd t211 true (fun k212 => k212 a1 w210) w210 fun t213 w214 =>
 Gd t211 true (fun k215 => k215 t5 w214) w214 fun t216 w217 =>
 Gd t211 true (fun k218 => Nc t216 fun t221 =>
 k218 t221 w217) w217 fun t219 w220 =>
 Gd t211 true (fun k222 => Fa 0 t219 fun t225 =>
 k222 t225 w220) w220 fun t223 w224 =>
 Gd t211 true (fun k226 => Fa 7 t223 fun t229 =>
 k226 t229 w224) w224 fun t227 w228 =>
 Gd t211 true (fun k230 => Ld t227 w228 fun t233 =>
 k230 t233 w228) w228 fun t231 w232 =>
 Gd t211 true (fun k234 => Bi .neq t213 t231 fun t237 =>
 k234 t237 w232) w232 fun t235 w236 =>
 Pk t211 t235 (.bool false) fun t238 =>
 J176 [t238] w236)) → J172 [t175] w174) →
 Gd t24 true (fun k239 => k239 t5 w170) w170 fun t240 w241 =>
 Gd t24 true (fun k242 => Ca PP Fn.tree_node_isDir #[t240] w241 fun t245 w246 =>
 k242 t245 w246) w241 fun t243 w244 =>
 Gd t24 true (fun k247 => Un .not t243 fun t250 =>
 k247 t250 w244) w244 fun t248 w249 =>
 Pk t24 t248 (.bool false) fun t251 =>
 Gd t251 true (fun k252 => k252 a0 w249) w249 fun t253 w254 =>
 Gd t251 true (fun k255 => k255 a1 w254) w254 fun t256 w257 =>
 Gd t251 true (fun k258 => k258 t5 w257) w257 fun t259 w260 =>
 Gd t251 true (fun k261 => Ca PP Fn.tree_Tree_may #[t253, t256, t259, (.int .i64 2)] w260 fun t264 w265 =>
 k261 t264 w265) w260 fun t262 w263 =>
 Gd t251 true (fun k266 => Un .not t262 fun t269 =>
 k266 t269 w263) w263 fun t267 w268 =>
 Pk t251 t267 (.bool false) fun t270 =>
 J172 [t270] w268)) → J168 [t171] w170) →
 Gd t28 true (fun k271 => k271 a0 w46) w46 fun t272 w273 =>
 Gd t28 true (fun k274 => k274 a1 w273) w273 fun t275 w276 =>
 Gd t28 true (fun k277 => k277 t5 w276) w276 fun t278 w279 =>
 Gd t28 true (fun k280 => Nc t278 fun t283 =>
 k280 t283 w279) w279 fun t281 w282 =>
 Gd t28 true (fun k284 => Fa 12 t281 fun t287 =>
 k284 t287 w282) w282 fun t285 w286 =>
 Gd t28 true (fun k288 => Ld t285 w286 fun t291 =>
 k288 t291 w286) w286 fun t289 w290 =>
 Gd t28 true (fun k292 => Ca PP Fn.tree_Tree_may #[t272, t275, t289, (.int .i64 2)] w290 fun t295 w296 =>
 k292 t295 w296) w290 fun t293 w294 =>
 Gd t28 true (fun k297 => Un .not t293 fun t300 =>
 k297 t300 w294) w294 fun t298 w299 =>
 Pk t28 t298 (.bool false) fun t301 =>
 J168 [t301] w299)) → J44 [t47] w46) →
 Dr w39 fun w302 =>
 Gd t28 true (fun k303 => k303 t5 w302) w302 fun t304 w305 =>
 Gd t28 true (fun k306 => Nc t304 fun t309 =>
 k306 t309 w305) w305 fun t307 w308 =>
 Gd t28 true (fun k310 => Fa 12 t307 fun t313 =>
 k310 t313 w308) w308 fun t311 w312 =>
 Gd t28 true (fun k314 => Ld t311 w312 fun t317 =>
 k314 t317 w312) w312 fun t315 w316 =>
 Gd t28 true (fun k318 => Nc t315 fun t321 =>
 k318 t321 w316) w316 fun t319 w320 =>
 Gd t28 true (fun k322 => Fa 11 t319 fun t325 =>
 k322 t325 w320) w320 fun t323 w324 =>
 Gd t28 true (fun k326 => Ld t323 w324 fun t329 =>
 k326 t329 w324) w324 fun t327 w328 =>
 Gd t28 true (fun k330 => Fa 6 t1 fun t333 =>
 k330 t333 w328) w328 fun t331 w332 =>
 Gd t28 true (fun k334 => Ld t331 w332 fun t337 =>
 k334 t337 w332) w332 fun t335 w336 =>
 Gd t28 true (fun k338 => Rd PP (Instr.lookup Ty.map_string_p_tree_node t327 t335 false) w336 fun t341 =>
 k338 t341 w336) w336 fun t339 w340 =>
 Gd t28 true (fun k342 => Rd PP (eqS .neq Ty.p_tree_node (.tmp 152) (.const (.pointer none)) t339 (.pointer none)) w340 fun t345 =>
 k342 t345 w340) w340 fun t343 w344 =>
 Pk t28 t343 (.bool false) fun t346 =>
 J44 [t346] w344))) → J37 [t40] w39) →
 Gd t24 true (fun k347 => Fa 5 t1 fun t350 =>
 k347 t350 w35) w35 fun t348 w349 =>
 Gd t24 true (fun k351 => Ld t348 w349 fun t354 =>
 k351 t354 w349) w349 fun t352 w353 =>
 Gd t24 true (fun k355 => Bi .neq t352 (.int .i64 0) fun t358 =>
 k355 t358 w353) w353 fun t356 w357 =>
 Pk t24 t356 (.bool false) fun t359 =>
 Gd t359 true (fun k360 => k360 t5 w357) w357 fun t361 w362 =>
 Gd t359 true (fun k363 => Ca PP Fn.tree_node_isDir #[t361] w362 fun t366 w367 =>
 k363 t366 w367) w362 fun t364 w365 =>
 Pk t359 t364 (.bool false) fun t368 =>
 J37 [t368] w365)) → J33 [t36] w35) →
 Gd t11 true (fun k369 => Fa 6 t1 fun t372 =>
 k369 t372 w31) w31 fun t370 w371 =>
 Gd t11 true (fun k373 => Ld t370 w371 fun t376 =>
 k373 t376 w371) w371 fun t374 w375 =>
 Gd t11 true (fun k377 => Ca PP Fn.tree_Valid #[t374] w375 fun t380 w381 =>
 k377 t380 w381) w375 fun t378 w379 =>
 Gd t11 true (fun k382 => Un .not t378 fun t385 =>
 k382 t385 w379) w379 fun t383 w384 =>
 Pk t11 t383 (.bool false) fun t386 =>
 Gd t386 false (fun k387 => k387 t14 w384) w384 fun t388 w389 =>
 Gd t386 false (fun k390 => k390 t388 w389) w389 fun t391 w392 =>
 Gd t391 true (fun k393 => Fa 8 t1 fun t396 =>
 k393 t396 w392) w392 fun t394 w395 =>
 Gd t391 true (fun k397 => Ld t394 w395 fun t400 =>
 k397 t400 w395) w395 fun t398 w399 =>
 Gd t391 true (fun k401 => Ca PP Fn.tree_Valid #[t398] w399 fun t404 w405 =>
 k401 t404 w405) w399 fun t402 w403 =>
 Gd t391 true (fun k406 => Un .not t402 fun t409 =>
 k406 t409 w403) w403 fun t407 w408 =>
 Gd t386 false (fun k410 => Pk t391 t407 (.bool false) fun t413 =>
 k410 t413 w408) w408 fun t411 w412 =>
 Pk t386 (.bool true) t411 fun t414 =>
 J33 [t414] w412)) → J29 [t32] w31) →
 ∀ J415 : List Value → World → Prop, (∀ t418, ∀ w417 : World, (∀ u416 : Env,
 Cnd t418 (
 J29 [t418] w417) (
 Dr w417 fun w419 =>
 Gd t18 true (fun k420 => Fa 3 t1 fun t423 =>
 k420 t423 w419) w419 fun t421 w422 =>
 Gd t18 true (fun k424 => Ld t421 w422 fun t427 =>
 k424 t427 w422) w422 fun t425 w426 =>
 Gd t18 true (fun k428 => Ca PP Fn.tree_right #[t425] w426 fun t431 w432 =>
 k428 t431 w432) w426 fun t429 w430 =>
 Gd t18 true (fun k433 => Un .not t429 fun t436 =>
 k433 t436 w430) w430 fun t434 w435 =>
 Gd t18 true (fun k437 => k437 t434 w435) w435 fun t438 w439 =>
 Gd t438 false (fun k440 => Fa 3 t1 fun t443 =>
 k440 t443 w439) w439 fun t441 w442 =>
 Gd t438 false (fun k444 => Ld t441 w442 fun t447 =>
 k444 t447 w442) w442 fun t445 w446 =>
 Gd t438 false (fun k448 => Bi .and t445 (.int .i64 2147483648) fun t451 =>
 k448 t451 w446) w446 fun t449 w450 =>
 Gd t438 false (fun k452 => k452 t5 w450) w450 fun t453 w454 =>
 Gd t438 false (fun k455 => Nc t453 fun t458 =>
 k455 t458 w454) w454 fun t456 w457 =>
 Gd t438 false (fun k459 => Fa 0 t456 fun t462 =>
 k459 t462 w457) w457 fun t460 w461 =>
 Gd t438 false (fun k463 => Fa 3 t460 fun t466 =>
 k463 t466 w461) w461 fun t464 w465 =>
 Gd t438 false (fun k467 => Ld t464 w465 fun t470 =>
 k467 t470 w465) w465 fun t468 w469 =>
 Gd t438 false (fun k471 => Bi .and t468 (.int .i64 2147483648) fun t474 =>
 k471 t474 w469) w469 fun t472 w473 =>
 Gd t438 false (fun k475 => Bi .neq t449 t472 fun t478 =>
 k475 t478 w473) w473 fun t476 w477 =>
 Gd t18 true (fun k479 => Pk t438 (.bool true) t476 fun t482 =>
 k479 t482 w477) w477 fun t480 w481 =>
 Pk t18 t480 (.bool false) fun t483 =>
 J29 [t483] w481)) → J415 [t418] w417) →
 Fa 0 t1 fun t484 =>
 LdA PP 3 t484 w27 fun t485 =>
 Bd #[.int .i64 0, .int .i64 0, .int .i64 0] [(0, 1), (1, 1), (2, 1)] [] fun t486 =>
 Rd PP (eqS .neq Ty.api_Qid (.tmp 55) (.tmp 56) t485 t486) w27 fun t487 =>
 Gd t487 false (fun k488 => Fa 7 t1 fun t491 =>
 k488 t491 w27) w27 fun t489 w490 =>
 Gd t487 false (fun k492 => Ld t489 w490 fun t495 =>
 k492 t495 w490) w490 fun t493 w494 =>
 Gd t487 false (fun k496 => Bi .neq t493 (.string ⟨#[]⟩) fun t499 =>
 k496 t499 w494) w494 fun t497 w498 =>
 Pk t487 (.bool true) t497 fun t500 =>
 Gd t500 false (fun k501 => Fa 9 t1 fun t504 =>
 k501 t504 w498) w498 fun t502 w503 =>
 Gd t500 false (fun k505 => Ld t502 w503 fun t508 =>
 k505 t508 w503) w503 fun t506 w507 =>
 Gd t500 false (fun k509 => Bi .neq t506 (.string ⟨#[]⟩) fun t512 =>
 k509 t512 w507) w507 fun t510 w511 =>
 Pk t500 (.bool true) t510 fun t513 =>
 Gd t513 false (fun k514 => Fa 5 t1 fun t517 =>
 k514 t517 w511) w511 fun t515 w516 =>
 Gd t513 false (fun k518 => Ld t515 w516 fun t521 =>
 k518 t521 w516) w516 fun t519 w520 =>
 Gd t513 false (fun k522 => Bi .lss t519 (.int .i64 (-1)) fun t525 =>
 k522 t525 w520) w520 fun t523 w524 =>
 Pk t513 (.bool true) t523 fun t526 =>
 Gd t526 false (fun k527 => Fa 4 t1 fun t530 =>
 k527 t530 w524) w524 fun t528 w529 =>
 Gd t526 false (fun k531 => Ld t528 w529 fun t534 =>
 k531 t534 w529) w529 fun t532 w533 =>
 Gd t526 false (fun k535 => Bi .lss t532 (.int .i64 (-1)) fun t538 =>
 k535 t538 w533) w533 fun t536 w537 =>
 Pk t526 (.bool true) t536 fun t539 =>
 Gd t539 false (fun k540 => k540 t11 w537) w537 fun t541 w542 =>
 Gd t539 false (fun k543 => k543 t541 w542) w542 fun t544 w545 =>
 Gd t544 true (fun k546 => k546 t5 w545) w545 fun t547 w548 =>
 Gd t544 true (fun k549 => k549 a0 w548) w548 fun t550 w551 =>
 Gd t544 true (fun k552 => Nc t550 fun t555 =>
 k552 t555 w551) w551 fun t553 w554 =>
 Gd t544 true (fun k556 => Fa 0 t553 fun t559 =>
 k556 t559 w554) w554 fun t557 w558 =>
 Gd t544 true (fun k560 => Ld t557 w558 fun t563 =>
 k560 t563 w558) w558 fun t561 w562 =>
 Gd t544 true (fun k564 => Rd PP (eqS .eql Ty.p_tree_node (.tmp 81) (.tmp 85) t547 t561) w562 fun t567 =>
 k564 t567 w562) w562 fun t565 w566 =>
 Gd t539 false (fun k568 => Pk t544 t565 (.bool false) fun t571 =>
 k568 t571 w566) w566 fun t569 w570 =>
 Pk t539 (.bool true) t569 fun t572 =>
 J415 [t572] w570) → J25 [t28] w27) →
 Dr w15 fun w573 =>
 Gd t11 true (fun k574 => Fa 6 t1 fun t577 =>
 k574 t577 w573) w573 fun t575 w576 =>
 Gd t11 true (fun k578 => Ld t575 w576 fun t581 =>
 k578 t581 w576) w576 fun t579 w580 =>
 Gd t11 true (fun k582 => k582 t5 w580) w580 fun t583 w584 =>
 Gd t11 true (fun k585 => Nc t583 fun t588 =>
 k585 t588 w584) w584 fun t586 w587 =>
 Gd t11 true (fun k589 => Fa 0 t586 fun t592 =>
 k589 t592 w587) w587 fun t590 w591 =>
 Gd t11 true (fun k593 => Fa 6 t590 fun t596 =>
 k593 t596 w591) w591 fun t594 w595 =>
 Gd t11 true (fun k597 => Ld t594 w595 fun t600 =>
 k597 t600 w595) w595 fun t598 w599 =>
 Gd t11 true (fun k601 => Bi .neq t579 t598 fun t604 =>
 k601 t604 w599) w599 fun t602 w603 =>
 Pk t11 t602 (.bool false) fun t605 =>
 J25 [t605] w603)
def S.tree_Tree_Wstat.an : Ann := (.seq .leaf (.seq .leaf (.seq (.seq .leaf (.cond (.seq .leaf .leaf) .leaf)) (.seq (.draw [[],[0],[0,1],[],[3],[3,4],[0,1,2],[0,1,2,3,4,5,6]] (.calm 0 (.calm 1 (.calm 2 (.calm 3 (.calm 4 (.calm 5 (.calm 6 (.calm 7 .done))))))))) (.seq (.draw [[],[0],[0,1],[],[3],[3,4],[],[6],[6,7],[0,1,2],[0,1,2,3,4,5,9],[0,1,2,3,4,5,6,7,8,9,10]] (.calm 0 (.calm 1 (.calm 2 (.calm 3 (.calm 4 (.calm 5 (.calm 6 (.calm 7 (.calm 8 (.calm 9 (.calm 10 (.calm 11 .done))))))))))))) (.join (.draw [[],[0],[0,1],[0,1,2],[0,1],[0,1,4],[0,1,4,5],[0,1,4,5,6],[0,1,4,5,6,7],[0,1,2,3,4,5,6,7,8],[0,1,2,3,4,5,6,7,8,9],[0,1,2,3,4,5,6,7,8,9,10]] (.calm 0 (.calm 1 (.calm 2 (.calm 3 (.calm 4 (.calm 5 (.calm 6 (.calm 7 (.calm 8 (.calm 9 (.calm 10 (.calm 11 .done))))))))))))) [16] [42,43,44,45,46,47,48,49,50,51,52] (.seq (.block (.join (.join .leaf [53] [54,55,56,57,58,59,60,61,62,63,64,65,66,67,68,69,70,71,72,73,74,75,76,77,78,79,80,81,82,83,84,85,86,87,88] (.cond .leaf (.draw [[],[0],[0,1],[0,1,2],[0,1,2,3],[0,1,2,3,4],[0,1,2,3,4,5],[0,1,2,3,4,5,6],[0,1,2,3,4,5,6,7],[0,1,2,3,4,5,6,7,8],[0,1,2,3,4,5,6],[0,1,2,3,4,5,6,10],[0,1,2,3,4,5,6,10,11],[0,1,2,3,4,5,6,10,11,12],[0,1,2,3,4,5,6,10,11,12,13],[0,1,2,3,4,5,6,10,11,12,13,14],[0,1,2,3,4,5,6,7,8,9,10,11,12,13,14,15],[0,1,2,3,4,5,6,7,8,9,10,11,12,13,14,15,16],[0,1,2,3,4,5,6,7,8,9,10,11,12,13,14,15,16,17],[0,1,2,3,4,5,6,7,8,9,10,11,12,13,14,15,16,17,18]] (.calm 0 (.calm 1 (.calm 2 (.calm 3 (.eff1 4 [] (.calm 5 (.calm 6 (.calm 7 (.calm 8 (.calm 9 (.calm 10 (.calm 11 (.calm 12 (.calm 13 (.calm 14 (.calm 15 (.calm 16 (.calm 17 (.calm 18 (.calm 19 .done))))))))))))))))))))))) [53] [54,55,56,57,58,59,60,61,62,63,64,65,66,67,68,69,70,71,72,73,74,75,76,77,78,79,80,81,82,83,84,85,86,87,88,89,90,91,92,93,94,95,96,97,98,99,100,101,102,103,104,105,106,107] (.cond (.seq .leaf .leaf) (.join .leaf [108] [109,110,111,112,113,114,115,116,117,118,119,120,121,122,123,124] (.cond (.seq .leaf .leaf) (.join .leaf [125] [126,127,128,129,130,131,132,133,134,135] (.cond (.seq .leaf .leaf) (.seq .leaf (.cond (.seq .leaf .leaf) (.join (.draw [[],[0],[0,1],[0,1,2],[0,1,2,3],[0,1,2,3,4],[0,1,2,3,4,5],[0,1,2,3,4,5,6],[0,1,2,3,4,5,6,7],[0,1],[0,1,9],[0,1,2,3,4,5,6,7,8,9,10],[0,1,2,3,4,5,6,7,8,9,10,11],[0,1,2,3,4,5,6,7,8,9,10,11,12],[0,1,2,3,4,5,6,7,8,9,10,11,12,13]] (.calm 0 (.calm 1 (.calm 2 (.calm 3 (.calm 4 (.calm 5 (.calm 6 (.calm 7 (.calm 8 (.calm 9 (.calm 10 (.calm 11 (.calm 12 (.calm 13 (.calm 14 .done)))))))))))))))) [140] [141,142,143,144,145,146,147,148,149,150,151,152,153,154] (.cond (.seq .leaf .leaf) (.join (.join .leaf [155] [156,157,158,159,160,161,162,163,164,165,166] (.cond .leaf (.join .leaf [155] [167,168,169,170,171,172,173,174,175,176,177,178,179] (.cond .leaf (.join .leaf [155] [180,181,182,183,184,185,186,187,188,189,190,191,192,193,194,195] (.cond .leaf .leaf)))))) [155] [156,157,158,159,160,161,162,163,164,165,166,167,168,169,170,171,172,173,174,175,176,177,178,179,180,181,182,183,184,185,186,187,188,189,190,191,192,193,194,195,196,197,198,199,200,201,202,203,204] (.cond (.seq .leaf .leaf) (.join .leaf [205] [206,207,208,209,210,211,212,213,214,215,216,217,218,219] (.cond (.seq .leaf .leaf) .leaf))))))))))))))) (.seq .leaf (.join (.seq .leaf (.cond (.seq (.draw [[],[0],[0,1],[0,1,2],[0,1,2,3],[0,1,2,3,4],[0,1,2,3,4,5],[],[7],[7,8],[7,8,9],[7,8,9,10],[0,1,2,3,4,5,6,7,8,9,10,11]] (.calm 0 (.calm 1 (.calm 2 (.calm 3 (.calm 4 (.calm 5 (.calm 6 (.calm 7 (.calm 8 (.calm 9 (.calm 10 (.calm 11 (.eff1 12 [] .done)))))))))))))) (.seq .leaf (.seq (.draw [[],[0],[0,1],[0,1,2],[0,1,2,3],[0,1,2,3,4],[0,1,2,3,4,5],[],[7],[7,8],[7,8,9],[7,8,9,10],[],[0,1,2,3,4,5,6,7,8,9,10,11,12]] (.calm 0 (.calm 1 (.calm 2 (.calm 3 (.calm 4 (.calm 5 (.calm 6 (.calm 7 (.calm 8 (.calm 9 (.calm 10 (.calm 11 (.calm 12 (.eff1 13 [] .done))))))))))))))) .leaf))) .leaf)) [17] [222,223,224,225,226,227,228,229,230,231,232,233,234,235,236,237,238,239,240,241,242,243,244,245,246,247,248,249,250,251,252,253,254,255,256,257,258,259,260] (.seq .leaf (.join (.seq .leaf (.cond .leaf .leaf)) [] [265,266,267,268,269,270,271] (.join (.seq .leaf (.cond .leaf .leaf)) [] [272,273,274,275,276] (.join (.seq .leaf (.cond .leaf .leaf)) [] [277,278,279,280,281,282,283] (.join (.join .leaf [289] [284,285,286,287,288] (.cond .leaf .leaf)) [] [284,285,286,287,288,289,290,291,292,293] (.seq .leaf .leaf)))))))))))))))
theorem S.tree_Tree_Wstat.eq (a0 a1 a2 a3 : Value) (w : World) (R : Value → World → Prop) : S.tree_Tree_Wstat a0 a1 a2 a3 w R = fnC PP 294 (Tryz.f79.body.getD .skip) S.tree_Tree_Wstat.an [.tmp 8] [a0, a1, a2, a3] w R := by kernel_rfl
theorem S.tree_Tree_Wstat.calls {a0 a1 a2 a3 : Value} {w : World} {R : Value → World → Prop} (h : S.tree_Tree_Wstat a0 a1 a2 a3 w R) : Ca PP Fn.tree_Tree_Wstat #[a0, a1, a2, a3] w R :=
  fnC_calls mixed (f := Fn.tree_Tree_Wstat) (an := S.tree_Tree_Wstat.an) Tryz.func79 rfl (by show _ ≤ _; exact Nat.le_of_ble_eq_true rfl) (S.tree_Tree_Wstat.eq a0 a1 a2 a3 w R ▸ h)
/-- (*acheron/tree.Tree).List -/
def S.tree_Tree_List (a0 a1 : Value) (w : World) (R : Value → World → Prop) : Prop :=
 Ca PP Fn.tree_Tree_opened #[a0, a1] w fun t1 w2 =>
 Ex t1 0 fun t3 =>
 Ex t1 1 fun t4 =>
 Al Ty.tree_handle #[.pointer none, .int .i64 0, .string ⟨#[]⟩] w2 fun t5 w6 =>
 St PP 3 t5 t3 w6 fun w7 =>
 Bi .neq t4 (.int .i64 0) fun t8 =>
 Cnd t8 (
 R (.tuple #[(.slice none 0 0), t4]) w7) (
 Fa 0 t5 fun t9 =>
 Ld t9 w7 fun t10 =>
 Nc t10 fun t11 =>
 Fa 13 t11 fun t12 =>
 Ld t12 w7 fun t13 =>
 Cnd t13 (
 R (.tuple #[(.slice none 0 0), (.int .i64 4)]) w7) (
 Fa 0 t5 fun t14 =>
 Ld t14 w7 fun t15 =>
 Ca PP Fn.tree_node_isDir #[t15] w7 fun t16 w17 =>
 Un .not t16 fun t18 =>
 Cnd t18 (
 R (.tuple #[(.slice none 0 0), (.int .i64 18)]) w17) (
 Al Ty.sl_api_Dir #[.slice none 0 0] w17 fun t19 w20 =>
 Fa 0 t5 fun t21 =>
 Ld t21 w20 fun t22 =>
 Ca PP Fn.tree_node_sorted #[t22] w20 fun t23 w24 =>
 RFo PP t23 w24 (RB.one fun r_25 L_26 t27 w28 Rn_29 Re_30 Rr_31 =>
 Bgn r_25 L_26 w28 fun w32 =>
 Dr w32 fun w33 =>
 Ld t19 w33 fun t34 =>
 Ca PP Fn.tree_node_stat #[t27] w33 fun t35 w36 =>
 (Ld t19 w36 fun t37 =>
 t37 = t34) ∧
 Ef PP (Instr.buildSlice Ty.sl_api_Dir 1 #[(0, t35)]) w36 fun t38 w39 =>
 (Ld t19 w39 fun t40 =>
 t40 = t34) ∧
 Ef PP (Builtin.append_ #[Ty.sl_api_Dir, Ty.sl_api_Dir] Ty.sl_api_Dir #[t34, t38]) w39 fun t41 w42 =>
 St PP 1 t19 t41 w42 fun w43 =>
 Rn_29 w43) (fun D_44 w45 =>
 Ld t19 w45 fun t46 =>
 Lvs PP (.mark D_44 :: []) w45 fun w47 =>
 R (.tuple #[t46, (.int .i64 0)]) w47) [] (fun D_48 w49 =>
 Lvs PP (.mark D_48 :: []) w49 fun w50 =>
 R (.tuple #[(.slice none 0 0), (.int .i64 0)]) w50))))
def S.tree_Tree_List.an : Ann := (.seq .leaf (.seq .leaf (.seq (.block (.seq .leaf (.cond (.seq .leaf .leaf) (.seq .leaf (.cond (.seq .leaf .leaf) (.seq .leaf (.cond (.seq .leaf .leaf) .leaf))))))) (.seq .leaf (.seq (.seq .leaf (.block (.rf .leaf (.block (.draw [[],[],[1],[1,2],[0,1,2,3],[0,1,2,3,4]] (.calm 0 (.calm 1 (.eff1 2 [0] (.eff1 3 [0] (.eff1 4 [] (.eff1 5 [] .done)))))))) []))) (.seq .leaf .leaf))))))
theorem S.tree_Tree_List.eq (a0 a1 : Value) (w : World) (R : Value → World → Prop) : S.tree_Tree_List a0 a1 w R = fnC PP 41 (Tryz.f80.body.getD .skip) S.tree_Tree_List.an [.tmp 4, .tmp 5] [a0, a1] w R := by kernel_rfl
theorem S.tree_Tree_List.calls {a0 a1 : Value} {w : World} {R : Value → World → Prop} (h : S.tree_Tree_List a0 a1 w R) : Ca PP Fn.tree_Tree_List #[a0, a1] w R :=
  fnC_calls mixed (f := Fn.tree_Tree_List) (an := S.tree_Tree_List.an) Tryz.func80 rfl (by show _ ≤ _; exact Nat.le_of_ble_eq_true rfl) (S.tree_Tree_List.eq a0 a1 w R ▸ h)
/-- (*acheron/tree.Tree).Remove -/
def S.tree_Tree_Remove (a0 a1 a2 : Value) (w : World) (R : Value → World → Prop) : Prop :=
 Ca PP Fn.tree_Tree_find #[a0, a2] w fun t1 w2 =>
 Ex t1 0 fun t3 =>
 Ex t1 1 fun t4 =>
 Bi .neq t4 (.int .i64 0) fun t5 =>
 Cnd t5 (
 R t4 w2) (
 Nc a0 fun t6 =>
 Fa 0 t6 fun t7 =>
 Ld t7 w2 fun t8 =>
 Rd PP (eqS .eql Ty.p_tree_node (.tmp 20) (.tmp 24) t3 t8) w2 fun t9 =>
 Cnd t9 (
 R (.int .i64 1) w2) (
 Nc t3 fun t10 =>
 Fa 12 t10 fun t11 =>
 Ld t11 w2 fun t12 =>
 Ca PP Fn.tree_Tree_may #[a0, a1, t12, (.int .i64 2)] w2 fun t13 w14 =>
 Un .not t13 fun t15 =>
 Cnd t15 (
 R (.int .i64 17) w14) (
 Nc t3 fun t16 =>
 Fa 11 t16 fun t17 =>
 Ld t17 w14 fun t18 =>
 Rd PP (Builtin.len_ #[Ty.map_string_p_tree_node] Ty.int #[t18]) w14 fun t19 =>
 Bi .gtr t19 (.int .i64 0) fun t20 =>
 Cnd t20 (
 R (.int .i64 6) w14) (
 Ca PP Fn.tree_Tree_remove #[a0, a1, t3] w14 fun t21 w22 =>
 R (.int .i64 0) w22))))
def S.tree_Tree_Remove.an : Ann := (.seq .leaf (.seq .leaf (.seq (.block (.seq .leaf (.cond (.seq .leaf .leaf) (.seq .leaf (.cond (.seq .leaf .leaf) (.seq .leaf (.cond (.seq .leaf .leaf) (.seq .leaf (.cond (.seq .leaf .leaf) .leaf))))))))) (.seq .leaf (.seq .leaf .leaf)))))
theorem S.tree_Tree_Remove.eq (a0 a1 a2 : Value) (w : World) (R : Value → World → Prop) : S.tree_Tree_Remove a0 a1 a2 w R = fnC PP 46 (Tryz.f81.body.getD .skip) S.tree_Tree_Remove.an [.tmp 6] [a0, a1, a2] w R := by kernel_rfl
theorem S.tree_Tree_Remove.calls {a0 a1 a2 : Value} {w : World} {R : Value → World → Prop} (h : S.tree_Tree_Remove a0 a1 a2 w R) : Ca PP Fn.tree_Tree_Remove #[a0, a1, a2] w R :=
  fnC_calls mixed (f := Fn.tree_Tree_Remove) (an := S.tree_Tree_Remove.an) Tryz.func81 rfl (by show _ ≤ _; exact Nat.le_of_ble_eq_true rfl) (S.tree_Tree_Remove.eq a0 a1 a2 w R ▸ h)
/-- (*acheron/tree.node).all -/
def S.tree_node_all (a0 : Value) (w : World) (R : Value → World → Prop) : Prop :=
 Al Ty.p_tree_node (a0 : Value).cells w fun t1 w2 =>
 R (.func (.func Fn.tree_node_all_1) #[] #[t1]) w2
def S.tree_node_all.an : Ann := (.seq .leaf (.seq .leaf .leaf))
theorem S.tree_node_all.eq (a0 : Value) (w : World) (R : Value → World → Prop) : S.tree_node_all a0 w R = fnC PP 4 (Tryz.f82.body.getD .skip) S.tree_node_all.an [.tmp 2] [a0] w R := by kernel_rfl
theorem S.tree_node_all.calls {a0 : Value} {w : World} {R : Value → World → Prop} (h : S.tree_node_all a0 w R) : Ca PP Fn.tree_node_all #[a0] w R :=
  fnC_calls mixed (f := Fn.tree_node_all) (an := S.tree_node_all.an) Tryz.func82 rfl (by show _ ≤ _; exact Nat.le_of_ble_eq_true rfl) (S.tree_node_all.eq a0 w R ▸ h)
/-- (*acheron/tree.node).path -/
def S.tree_node_path (a0 : Value) (w : World) (R : Value → World → Prop) : Prop :=
 Nc a0 fun t1 =>
 Fa 12 t1 fun t2 =>
 Ld t2 w fun t3 =>
 Rd PP (eqS .eql Ty.p_tree_node (.tmp 8) (.const (.pointer none)) t3 (.pointer none)) w fun t4 =>
 Cnd t4 (
 R (.string ⟨#[47]⟩) w) (
 Nc a0 fun t5 =>
 Fa 0 t5 fun t6 =>
 Fa 6 t6 fun t7 =>
 Ld t7 w fun t8 =>
 Nc a0 fun t9 =>
 Fa 12 t9 fun t10 =>
 Ld t10 w fun t11 =>
 ∃ (I12 : List Value → World → Prop) (m13 : List Value → World → Nat), I12 [t8, t11] w ∧ ∀ t16 t17, ∀ (u14 : Env) (w15 : World), I12 [t16, t17] w15 →
 Nc t17 fun t18 =>
 Fa 12 t18 fun t19 =>
 Ld t19 w15 fun t20 =>
 Rd PP (eqS .neq Ty.p_tree_node (.tmp 22) (.const (.pointer none)) t20 (.pointer none)) w15 fun t21 =>
 Cnd t21 (
 Nc t17 fun t22 =>
 Fa 0 t22 fun t23 =>
 Fa 6 t23 fun t24 =>
 Ld t24 w15 fun t25 =>
 Bi .add t25 (.string ⟨#[47]⟩) fun t26 =>
 Bi .add t26 t16 fun t27 =>
 Nc t17 fun t28 =>
 Fa 12 t28 fun t29 =>
 Ld t29 w15 fun t30 =>
 I12 [t27, t30] w15 ∧ m13 [t27, t30] w15 < m13 [t16, t17] w15) (
 Bi .add (.string ⟨#[47]⟩) t16 fun t31 =>
 R t31 w15))
def S.tree_node_path.an : Ann := (.seq .leaf (.seq (.seq .leaf (.cond (.seq .leaf .leaf) .leaf)) (.seq .leaf (.seq (.seq .leaf (.block (.loop (.seq (.seq .leaf (.cond .leaf .leaf)) (.seq (.block .leaf) .leaf)) [3,4] [19,20,21,22,23,24,25,26,27,28,29,30,31,32,33,34,35]))) (.seq .leaf .leaf)))))
theorem S.tree_node_path.eq (a0 : Value) (w : World) (R : Value → World → Prop) : S.tree_node_path a0 w R = fnC PP 38 (Tryz.f83.body.getD .skip) S.tree_node_path.an [.tmp 2] [a0] w R := by kernel_rfl
theorem S.tree_node_path.calls {a0 : Value} {w : World} {R : Value → World → Prop} (h : S.tree_node_path a0 w R) : Ca PP Fn.tree_node_path #[a0] w R :=
  fnC_calls mixed (f := Fn.tree_node_path) (an := S.tree_node_path.an) Tryz.func83 rfl (by show _ ≤ _; exact Nat.le_of_ble_eq_true rfl) (S.tree_node_path.eq a0 w R ▸ h)
/-- slices.Sorted[int] -/
def S.slices_Sorted_int (a0 : Value) (w : World) (R : Value → World → Prop) : Prop :=
 Ca PP Fn.slices_Collect_int #[a0] w fun t1 w2 =>
 Ca PP Fn.slices_Sort_sl_int_int #[t1] w2 fun t3 w4 =>
 R t1 w4
def S.slices_Sorted_int.an : Ann := (.seq .leaf (.seq .leaf (.seq .leaf (.seq .leaf .leaf))))
theorem S.slices_Sorted_int.eq (a0 : Value) (w : World) (R : Value → World → Prop) : S.slices_Sorted_int a0 w R = fnC PP 9 (Tryz.f85.body.getD .skip) S.slices_Sorted_int.an [.tmp 2] [a0] w R := by kernel_rfl
theorem S.slices_Sorted_int.calls {a0 : Value} {w : World} {R : Value → World → Prop} (h : S.slices_Sorted_int a0 w R) : Ca PP Fn.slices_Sorted_int #[a0] w R :=
  fnC_calls mixed (f := Fn.slices_Sorted_int) (an := S.slices_Sorted_int.an) Tryz.func85 rfl (by show _ ≤ _; exact Nat.le_of_ble_eq_true rfl) (S.slices_Sorted_int.eq a0 w R ▸ h)
/-- maps.Keys[map[int]acheron/tree.handle,int,acheron/tree.handle] -/
def S.maps_Keys_map_int_tree_handle_int_tree_handle (a0 : Value) (w : World) (R : Value → World → Prop) : Prop :=
 Al Ty.map_int_tree_handle (a0 : Value).cells w fun t1 w2 =>
 R (.func (.func Fn.maps_Keys_map_int_tree_handle_int_tree_handle_1) #[] #[t1]) w2
def S.maps_Keys_map_int_tree_handle_int_tree_handle.an : Ann := (.seq .leaf (.seq .leaf .leaf))
theorem S.maps_Keys_map_int_tree_handle_int_tree_handle.eq (a0 : Value) (w : World) (R : Value → World → Prop) : S.maps_Keys_map_int_tree_handle_int_tree_handle a0 w R = fnC PP 4 (Tryz.f86.body.getD .skip) S.maps_Keys_map_int_tree_handle_int_tree_handle.an [.tmp 2] [a0] w R := by kernel_rfl
theorem S.maps_Keys_map_int_tree_handle_int_tree_handle.calls {a0 : Value} {w : World} {R : Value → World → Prop} (h : S.maps_Keys_map_int_tree_handle_int_tree_handle a0 w R) : Ca PP Fn.maps_Keys_map_int_tree_handle_int_tree_handle #[a0] w R :=
  fnC_calls mixed (f := Fn.maps_Keys_map_int_tree_handle_int_tree_handle) (an := S.maps_Keys_map_int_tree_handle_int_tree_handle.an) Tryz.func86 rfl (by show _ ≤ _; exact Nat.le_of_ble_eq_true rfl) (S.maps_Keys_map_int_tree_handle_int_tree_handle.eq a0 w R ▸ h)
/-- slices.Equal[[]acheron/api.Dir,acheron/api.Dir] -/
def S.slices_Equal_sl_api_Dir_api_Dir (a0 a1 : Value) (w : World) (R : Value → World → Prop) : Prop :=
 LnL a0 fun t1 =>
 LnL a1 fun t2 =>
 Bi .neq t1 t2 fun t3 =>
 Cnd t3 (
 R (.bool false) w) (
 LnL a0 fun t4 =>
 ∃ (I5 : List Value → World → Prop) (m6 : List Value → World → Nat), I5 [(.int .i64 0)] w ∧ ∀ t9, ∀ (u7 : Env) (w8 : World), I5 [t9] w8 →
 Bi .lss t9 t4 fun t10 =>
 Cnd t10 (
 Dr w8 fun w11 =>
 IxA 10 a0 t9 fun t12 =>
 LdA PP 10 t12 w11 fun t13 =>
 IxA 10 a1 t9 fun t14 =>
 LdA PP 10 t14 w11 fun t15 =>
 Rd PP (eqS .neq Ty.api_Dir (.tmp 19) (.tmp 23) t13 t15) w11 fun t16 =>
 Cnd t16 (
 R (.bool false) w11) (
 Bi .add t9 (.int .i64 1) fun t17 =>
 I5 [t17] w11 ∧ m6 [t17] w11 < m6 [t9] w8)) (
 R (.bool true) w8))
def S.slices_Equal_sl_api_Dir_api_Dir.an : Ann := (.seq .leaf (.seq (.seq .leaf (.cond (.seq .leaf .leaf) .leaf)) (.seq (.seq .leaf (.block (.loop (.seq .leaf (.seq (.cond .leaf .leaf) (.seq (.block (.seq .leaf (.seq (.draw [[],[],[0,1],[0,1,2],[],[],[4,5],[4,5,6],[0,1,2,3,4,5,6,7]] (.calm 0 (.calm 1 (.calm 2 (.calm 3 (.calm 4 (.calm 5 (.calm 6 (.calm 7 (.calm 8 .done)))))))))) (.cond (.seq .leaf .leaf) .leaf)))) .leaf))) [13] [4,5,14,15,16,17,18,19,20,21,22,23,24,25]))) (.seq .leaf .leaf))))
theorem S.slices_Equal_sl_api_Dir_api_Dir.eq (a0 a1 : Value) (w : World) (R : Value → World → Prop) : S.slices_Equal_sl_api_Dir_api_Dir a0 a1 w R = fnC PP 26 (Tryz.f87.body.getD .skip) S.slices_Equal_sl_api_Dir_api_Dir.an [.tmp 4] [a0, a1] w R := by kernel_rfl
theorem S.slices_Equal_sl_api_Dir_api_Dir.calls {a0 a1 : Value} {w : World} {R : Value → World → Prop} (h : S.slices_Equal_sl_api_Dir_api_Dir a0 a1 w R) : Ca PP Fn.slices_Equal_sl_api_Dir_api_Dir #[a0, a1] w R :=
  fnC_calls mixed (f := Fn.slices_Equal_sl_api_Dir_api_Dir) (an := S.slices_Equal_sl_api_Dir_api_Dir.an) Tryz.func87 rfl (by show _ ≤ _; exact Nat.le_of_ble_eq_true rfl) (S.slices_Equal_sl_api_Dir_api_Dir.eq a0 a1 w R ▸ h)
/-- slices.Clone[[]string,string] -/
def S.slices_Clone_sl_string_string (a0 : Value) (w : World) (R : Value → World → Prop) : Prop :=
 Rd PP (eqS .eql Ty.sl_string (.tmp 3) (.const (.slice none 0 0)) a0 (.slice none 0 0)) w fun t1 =>
 Cnd t1 (
 R (.slice none 0 0) w) (
 Ef PP (Instr.buildSlice Ty.sl_string 0 #[]) w fun t2 w3 =>
 Ef PP (Builtin.append_ #[Ty.sl_string, Ty.sl_string] Ty.sl_string #[t2, a0]) w3 fun t4 w5 =>
 R t4 w5)
def S.slices_Clone_sl_string_string.an : Ann := (.seq .leaf (.seq (.seq .leaf (.cond (.seq .leaf .leaf) .leaf)) (.seq .leaf .leaf)))
theorem S.slices_Clone_sl_string_string.eq (a0 : Value) (w : World) (R : Value → World → Prop) : S.slices_Clone_sl_string_string a0 w R = fnC PP 8 (Tryz.f103.body.getD .skip) S.slices_Clone_sl_string_string.an [.tmp 2] [a0] w R := by kernel_rfl
theorem S.slices_Clone_sl_string_string.calls {a0 : Value} {w : World} {R : Value → World → Prop} (h : S.slices_Clone_sl_string_string a0 w R) : Ca PP Fn.slices_Clone_sl_string_string #[a0] w R :=
  fnC_calls mixed (f := Fn.slices_Clone_sl_string_string) (an := S.slices_Clone_sl_string_string.an) Tryz.func103 rfl (by show _ ≤ _; exact Nat.le_of_ble_eq_true rfl) (S.slices_Clone_sl_string_string.eq a0 w R ▸ h)
/-- (*acheron/tree.Tree).Clone$1 -/
def S.tree_Tree_Clone_1 (a0 a1 a2 a3 : Value) (w : World) (R : Value → World → Prop) : Prop :=
 Dr w fun w1 =>
 Nc a0 fun t2 =>
 Fa 0 t2 fun t3 =>
 LdA PP 10 t3 w1 fun t4 =>
 Nc a0 fun t5 =>
 Fa 10 t5 fun t6 =>
 Ld t6 w1 fun t7 =>
 Bd #[.int .i64 0, .int .i64 0, .int .i64 0, .int .i64 0, .int .i64 0, .int .i64 0, .string ⟨#[]⟩, .string ⟨#[]⟩, .string ⟨#[]⟩, .string ⟨#[]⟩, .slice none 0 0, .map none, .pointer none, .bool false] [(0, 10), (10, 1), (11, 1), (12, 1), (13, 1)] [(0, t4), (1, t7), (3, a1)] fun t8 =>
 Al Ty.tree_node (t8 : Value).cells w1 fun t9 w10 =>
 ∀ J11 : List Value → World → Prop, (∀ w13 : World, (∀ u12 : Env,
 Nc a0 fun t14 =>
 Fa 11 t14 fun t15 =>
 Ld t15 w13 fun t16 =>
 Ef PP (Instr.range Ty.map_string_p_tree_node t16) w13 fun t17 w18 =>
 ∃ (I19 : List Value → World → Prop) (m20 : List Value → World → Nat), I19 [] w18 ∧ ∀ (u21 : Env) (w22 : World), I19 [] w22 →
 Ef PP (Instr.next t17 false Ty.t) w22 fun t23 w24 =>
 Ex t23 0 fun t25 =>
 Cnd t25 (
 Rd PP (Instr.entry t17) w24 fun t26 =>
 Ex t26 0 fun t27 =>
 Ex t26 1 fun t28 =>
 Dr w24 fun w29 =>
 Nc t9 fun t30 =>
 Fa 11 t30 fun t31 =>
 Ld t31 w29 fun t32 =>
 Ld a2 w29 fun t33 =>
 CaV PP t33 #[t28, t9] w29 fun t34 w35 =>
 (Ld t31 w35 fun t36 =>
 t36 = t32) ∧
 Ef PP (Instr.mapUpdate Ty.map_string_p_tree_node t32 t27 t34) w35 fun _ w37 =>
 I19 [] w37 ∧ m20 [] w37 < m20 [] w22) (
 Dr w24 fun w38 =>
 Ld a3 w38 fun t39 =>
 Nc t39 fun t40 =>
 Fa 1 t40 fun t41 =>
 Ld t41 w38 fun t42 =>
 Nc a0 fun t43 =>
 Fa 0 t43 fun t44 =>
 Fa 0 t44 fun t45 =>
 Fa 2 t45 fun t46 =>
 Ld t46 w38 fun t47 =>
 Ef PP (Instr.mapUpdate Ty.map_int64_p_tree_node t42 t47 t9) w38 fun _ w48 =>
 R t9 w48)) → J11 [] w13) →
 Ca PP Fn.tree_node_isDir #[a0] w10 fun t49 w50 =>
 Cnd t49 (
 MkM w50 fun t51 w52 =>
 Nc t9 fun t53 =>
 Fa 11 t53 fun t54 =>
 St PP 1 t54 t51 w52 fun w55 =>
 J11 [] w55) (
 J11 [] w50)
def S.tree_Tree_Clone_1.an : Ann := (.seq .leaf (.seq (.draw [[],[0],[0,1],[0,1,2],[],[4],[4,5],[4,5,6],[],[0,1,2,3,4,5,6,7,8],[0,1,2,3,4,5,6,7,8,9],[0,1,2,3,4,5,6,7,8,9,10]] (.calm 0 (.calm 1 (.calm 2 (.calm 3 (.calm 4 (.calm 5 (.calm 6 (.calm 7 (.calm 8 (.calm 9 (.eff1 10 [] (.calm 11 .done))))))))))))) (.join (.seq .leaf (.cond .leaf .leaf)) [] [21,22,23,24,25,26] (.seq (.seq .leaf (.block (.loop (.seq .leaf (.seq (.cond .leaf .leaf) (.block (.seq .leaf (.draw [[],[0],[0,1],[0,1,2],[],[],[],[],[5,6,7],[0,1,2,3,4,5,6,7,8]] (.calm 0 (.calm 1 (.calm 2 (.calm 3 (.calm 4 (.calm 5 (.calm 6 (.calm 7 (.eff1 8 [3] (.eff1 9 [] .done))))))))))))))) [] [8,9,32,33,34,35,36,37,38,39,40,41,42,43,44,45]))) (.seq (.draw [[],[0],[0,1],[0,1,2],[],[4],[4,5],[4,5,6],[4,5,6,7],[4,5,6,7,8],[],[0,1,2,3,4,5,6,7,8,9,10]] (.calm 0 (.calm 1 (.calm 2 (.calm 3 (.calm 4 (.calm 5 (.calm 6 (.calm 7 (.calm 8 (.calm 9 (.calm 10 (.eff1 11 [] .done))))))))))))) (.seq .leaf .leaf))))))
theorem S.tree_Tree_Clone_1.eq (a0 a1 a2 a3 : Value) (w : World) (R : Value → World → Prop) : S.tree_Tree_Clone_1 a0 a1 a2 a3 w R = fnC PP 58 (Tryz.f104.body.getD .skip) S.tree_Tree_Clone_1.an [.tmp 6] [a0, a1, a2, a3] w R := by kernel_rfl
theorem S.tree_Tree_Clone_1.calls {a0 a1 a2 a3 : Value} {w : World} {R : Value → World → Prop} (h : S.tree_Tree_Clone_1 a0 a1 a2 a3 w R) : Ca PP Fn.tree_Tree_Clone_1 #[a0, a1, a2, a3] w R :=
  fnC_calls mixed (f := Fn.tree_Tree_Clone_1) (an := S.tree_Tree_Clone_1.an) Tryz.func104 rfl (by show _ ≤ _; exact Nat.le_of_ble_eq_true rfl) (S.tree_Tree_Clone_1.eq a0 a1 a2 a3 w R ▸ h)
/-- strings.splitSeq -/
def S.strings_splitSeq (a0 a1 a2 : Value) (w : World) (R : Value → World → Prop) : Prop :=
 Al Ty.string (a0 : Value).cells w fun t1 w2 =>
 Al Ty.string (a1 : Value).cells w2 fun t3 w4 =>
 Al Ty.int (a2 : Value).cells w4 fun t5 w6 =>
 R (.func (.func Fn.strings_splitSeq_1) #[] #[t3, t1, t5]) w6
def S.strings_splitSeq.an : Ann := (.seq .leaf (.seq .leaf .leaf))
theorem S.strings_splitSeq.eq (a0 a1 a2 : Value) (w : World) (R : Value → World → Prop) : S.strings_splitSeq a0 a1 a2 w R = fnC PP 8 (Tryz.f114.body.getD .skip) S.strings_splitSeq.an [.tmp 6] [a0, a1, a2] w R := by kernel_rfl
theorem S.strings_splitSeq.calls {a0 a1 a2 : Value} {w : World} {R : Value → World → Prop} (h : S.strings_splitSeq a0 a1 a2 w R) : Ca PP Fn.strings_splitSeq #[a0, a1, a2] w R :=
  fnC_calls mixed (f := Fn.strings_splitSeq) (an := S.strings_splitSeq.an) Tryz.func114 rfl (by show _ ≤ _; exact Nat.le_of_ble_eq_true rfl) (S.strings_splitSeq.eq a0 a1 a2 w R ▸ h)
/-- acheron/tree.repeated -/
def S.tree_repeated (a0 : Value) (w : World) (R : Value → World → Prop) : Prop :=
 Ca PP Fn.slices_Values_sl_string_string #[a0] w fun t1 w2 =>
 Ca PP Fn.slices_Sorted_string #[t1] w2 fun t3 w4 =>
 Ca PP Fn.slices_Compact_sl_string_string #[t3] w4 fun t5 w6 =>
 LnL t5 fun t7 =>
 LnL t3 fun t8 =>
 Bi .lss t7 t8 fun t9 =>
 R t9 w6
def S.tree_repeated.an : Ann := (.seq .leaf (.seq .leaf (.seq .leaf .leaf)))
theorem S.tree_repeated.eq (a0 : Value) (w : World) (R : Value → World → Prop) : S.tree_repeated a0 w R = fnC PP 12 (Tryz.f119.body.getD .skip) S.tree_repeated.an [.tmp 2] [a0] w R := by kernel_rfl
theorem S.tree_repeated.calls {a0 : Value} {w : World} {R : Value → World → Prop} (h : S.tree_repeated a0 w R) : Ca PP Fn.tree_repeated #[a0] w R :=
  fnC_calls mixed (f := Fn.tree_repeated) (an := S.tree_repeated.an) Tryz.func119 rfl (by show _ ≤ _; exact Nat.le_of_ble_eq_true rfl) (S.tree_repeated.eq a0 w R ▸ h)
/-- slices.ContainsFunc[[]string,string] -/
def S.slices_ContainsFunc_sl_string_string (a0 a1 : Value) (w : World) (R : Value → World → Prop) : Prop :=
 Ca PP Fn.slices_IndexFunc_sl_string_string #[a0, a1] w fun t1 w2 =>
 Bi .geq t1 (.int .i64 0) fun t3 =>
 R t3 w2
def S.slices_ContainsFunc_sl_string_string.an : Ann := (.seq .leaf (.seq .leaf .leaf))
theorem S.slices_ContainsFunc_sl_string_string.eq (a0 a1 : Value) (w : World) (R : Value → World → Prop) : S.slices_ContainsFunc_sl_string_string a0 a1 w R = fnC PP 9 (Tryz.f120.body.getD .skip) S.slices_ContainsFunc_sl_string_string.an [.tmp 4] [a0, a1] w R := by kernel_rfl
theorem S.slices_ContainsFunc_sl_string_string.calls {a0 a1 : Value} {w : World} {R : Value → World → Prop} (h : S.slices_ContainsFunc_sl_string_string a0 a1 w R) : Ca PP Fn.slices_ContainsFunc_sl_string_string #[a0, a1] w R :=
  fnC_calls mixed (f := Fn.slices_ContainsFunc_sl_string_string) (an := S.slices_ContainsFunc_sl_string_string.an) Tryz.func120 rfl (by show _ ≤ _; exact Nat.le_of_ble_eq_true rfl) (S.slices_ContainsFunc_sl_string_string.eq a0 a1 w R ▸ h)
/-- acheron/tree.check$1 -/
def S.tree_check_1 (a0 : Value) (w : World) (R : Value → World → Prop) : Prop :=
 Ca PP Fn.tree_Valid #[a0] w fun t1 w2 =>
 Un .not t1 fun t3 =>
 R t3 w2
def S.tree_check_1.an : Ann := (.seq .leaf (.seq .leaf .leaf))
theorem S.tree_check_1.eq (a0 : Value) (w : World) (R : Value → World → Prop) : S.tree_check_1 a0 w R = fnC PP 6 (Tryz.f121.body.getD .skip) S.tree_check_1.an [.tmp 2] [a0] w R := by kernel_rfl
theorem S.tree_check_1.calls {a0 : Value} {w : World} {R : Value → World → Prop} (h : S.tree_check_1 a0 w R) : Ca PP Fn.tree_check_1 #[a0] w R :=
  fnC_calls mixed (f := Fn.tree_check_1) (an := S.tree_check_1.an) Tryz.func121 rfl (by show _ ≤ _; exact Nat.le_of_ble_eq_true rfl) (S.tree_check_1.eq a0 w R ▸ h)
/-- acheron/tree.Permits -/
def S.tree_Permits (a0 a1 a2 a3 : Value) (w : World) (R : Value → World → Prop) : Prop :=
 ∀ J1 : List Value → World → Prop, (∀ t4, ∀ w3 : World, (∀ u2 : Env,
 Bi .and a3 (.int .i64 7) fun t5 =>
 Bi .andNot t5 t4 fun t6 =>
 Bi .eql t6 (.int .i64 0) fun t7 =>
 R t7 w3) → J1 [t4] w3) →
 Cnd a1 (
 Bi .shr a0 (.int .u64 6) fun t8 =>
 J1 [t8] w) (
 Cnd a2 (
 Bi .shr a0 (.int .u64 3) fun t9 =>
 J1 [t9] w) (
 J1 [a0] w))
def S.tree_Permits.an : Ann := (.seq .leaf (.join (.block (.seq .leaf (.cond .leaf (.seq .leaf (.cond .leaf .leaf))))) [0] [9,10,11,12,13,14,15,16] (.seq .leaf .leaf)))
theorem S.tree_Permits.eq (a0 a1 a2 a3 : Value) (w : World) (R : Value → World → Prop) : S.tree_Permits a0 a1 a2 a3 w R = fnC PP 22 (Tryz.f122.body.getD .skip) S.tree_Permits.an [.tmp 8] [a0, a1, a2, a3] w R := by kernel_rfl
theorem S.tree_Permits.calls {a0 a1 a2 a3 : Value} {w : World} {R : Value → World → Prop} (h : S.tree_Permits a0 a1 a2 a3 w R) : Ca PP Fn.tree_Permits #[a0, a1, a2, a3] w R :=
  fnC_calls mixed (f := Fn.tree_Permits) (an := S.tree_Permits.an) Tryz.func122 rfl (by show _ ≤ _; exact Nat.le_of_ble_eq_true rfl) (S.tree_Permits.eq a0 a1 a2 a3 w R ▸ h)
/-- (*acheron/tree.Tree).member -/
def S.tree_Tree_member (a0 a1 a2 : Value) (w : World) (R : Value → World → Prop) : Prop :=
 ∀ J1 : List Value → World → Prop, (∀ t4, ∀ w3 : World, (∀ u2 : Env,
 R t4 w3) → J1 [t4] w3) →
 Bi .eql a1 a2 fun t5 =>
 Gd t5 false (fun k6 => k6 a0 w) w fun t7 w8 =>
 Gd t5 false (fun k9 => Nc t7 fun t12 =>
 k9 t12 w8) w8 fun t10 w11 =>
 Gd t5 false (fun k13 => Fa 2 t10 fun t16 =>
 k13 t16 w11) w11 fun t14 w15 =>
 Gd t5 false (fun k17 => Ld t14 w15 fun t20 =>
 k17 t20 w15) w15 fun t18 w19 =>
 Gd t5 false (fun k21 => k21 a2 w19) w19 fun t22 w23 =>
 Gd t5 false (fun k24 => Rd PP (Instr.lookup Ty.map_string_sl_string t18 t22 false) w23 fun t27 =>
 k24 t27 w23) w23 fun t25 w26 =>
 Gd t5 false (fun k28 => k28 a1 w26) w26 fun t29 w30 =>
 Gd t5 false (fun k31 => Ca PP Fn.slices_Contains_sl_string_string #[t25, t29] w30 fun t34 w35 =>
 k31 t34 w35) w30 fun t32 w33 =>
 Pk t5 (.bool true) t32 fun t36 =>
 J1 [t36] w33
def S.tree_Tree_member.an : Ann := (.seq .leaf (.join .leaf [6] [7,8,9,10,11,12,13,14,15,16,17,18,19] .leaf))
theorem S.tree_Tree_member.eq (a0 a1 a2 : Value) (w : World) (R : Value → World → Prop) : S.tree_Tree_member a0 a1 a2 w R = fnC PP 20 (Tryz.f123.body.getD .skip) S.tree_Tree_member.an [.tmp 6] [a0, a1, a2] w R := by kernel_rfl
theorem S.tree_Tree_member.calls {a0 a1 a2 : Value} {w : World} {R : Value → World → Prop} (h : S.tree_Tree_member a0 a1 a2 w R) : Ca PP Fn.tree_Tree_member #[a0, a1, a2] w R :=
  fnC_calls mixed (f := Fn.tree_Tree_member) (an := S.tree_Tree_member.an) Tryz.func123 rfl (by show _ ≤ _; exact Nat.le_of_ble_eq_true rfl) (S.tree_Tree_member.eq a0 a1 a2 w R ▸ h)
/-- (*acheron/tree.node).sorted -/
def S.tree_node_sorted (a0 : Value) (w : World) (R : Value → World → Prop) : Prop :=
 Al Ty.p_tree_node (a0 : Value).cells w fun t1 w2 =>
 R (.func (.func Fn.tree_node_sorted_1) #[] #[t1]) w2
def S.tree_node_sorted.an : Ann := (.seq .leaf (.seq .leaf .leaf))
theorem S.tree_node_sorted.eq (a0 : Value) (w : World) (R : Value → World → Prop) : S.tree_node_sorted a0 w R = fnC PP 4 (Tryz.f124.body.getD .skip) S.tree_node_sorted.an [.tmp 2] [a0] w R := by kernel_rfl
theorem S.tree_node_sorted.calls {a0 : Value} {w : World} {R : Value → World → Prop} (h : S.tree_node_sorted a0 w R) : Ca PP Fn.tree_node_sorted #[a0] w R :=
  fnC_calls mixed (f := Fn.tree_node_sorted) (an := S.tree_node_sorted.an) Tryz.func124 rfl (by show _ ≤ _; exact Nat.le_of_ble_eq_true rfl) (S.tree_node_sorted.eq a0 w R ▸ h)
/-- (*acheron/tree.node).all$1 -/
def S.tree_node_all_1 (a0 a1 : Value) (w : World) (R : Value → World → Prop) : Prop :=
 Al Ty.functree_node_bool (a0 : Value).cells w fun t1 w2 =>
 Ld t1 w2 fun t3 =>
 Ld a1 w2 fun t4 =>
 CaV PP t3 #[t4] w2 fun t5 w6 =>
 Un .not t5 fun t7 =>
 Cnd t7 (
 R (.tuple #[]) w6) (
 Ld a1 w6 fun t8 =>
 Ca PP Fn.tree_node_sorted #[t8] w6 fun t9 w10 =>
 RFo PP t9 w10 (RB.one fun r_11 L_12 t13 w14 Rn_15 Re_16 Rr_17 =>
 Bgn r_11 L_12 w14 fun w18 =>
 Ca PP Fn.tree_node_all #[t13] w18 fun t19 w20 =>
 RFi PP L_12 t19 w20 (RB.one fun r_21 L_22 t23 w24 Rn_25 Re_26 Rr_27 =>
 Bgn r_21 L_22 w24 fun w28 =>
 Ld t1 w28 fun t29 =>
 CaV PP t29 #[t23] w28 fun t30 w31 =>
 Un .not t30 fun t32 =>
 Cnd t32 (
 Rr_27 w31) (
 Rn_25 w31)) (fun w34 =>
 Rn_15 w34) [] (fun w36 =>
 Rr_17 w36)) (fun D_37 w38 =>
 Lvs PP (.mark D_37 :: []) w38 fun w39 =>
 R (.tuple #[]) w39) [] (fun D_40 w41 =>
 Lvs PP (.mark D_40 :: []) w41 fun w42 =>
 R (.tuple #[]) w42))
def S.tree_node_all_1.an : Ann := (.seq .leaf (.seq (.seq .leaf (.cond .leaf .leaf)) (.seq .leaf (.block (.rf .leaf (.block (.seq .leaf (.block (.rf .leaf (.block (.seq .leaf (.cond .leaf .leaf))) [])))) [])))))
theorem S.tree_node_all_1.eq (a0 a1 : Value) (w : World) (R : Value → World → Prop) : S.tree_node_all_1 a0 a1 w R = fnC PP 19 (Tryz.f125.body.getD .skip) S.tree_node_all_1.an [] [a0, a1] w R := by kernel_rfl
theorem S.tree_node_all_1.calls {a0 a1 : Value} {w : World} {R : Value → World → Prop} (h : S.tree_node_all_1 a0 a1 w R) : Ca PP Fn.tree_node_all_1 #[a0, a1] w R :=
  fnC_calls mixed (f := Fn.tree_node_all_1) (an := S.tree_node_all_1.an) Tryz.func125 rfl (by show _ ≤ _; exact Nat.le_of_ble_eq_true rfl) (S.tree_node_all_1.eq a0 a1 w R ▸ h)
/-- slices.Collect[int] -/
def S.slices_Collect_int (a0 : Value) (w : World) (R : Value → World → Prop) : Prop :=
 Ca PP Fn.slices_AppendSeq_sl_int_int #[(.slice none 0 0), a0] w fun t1 w2 =>
 R t1 w2
def S.slices_Collect_int.an : Ann := (.seq .leaf (.seq .leaf .leaf))
theorem S.slices_Collect_int.eq (a0 : Value) (w : World) (R : Value → World → Prop) : S.slices_Collect_int a0 w R = fnC PP 5 (Tryz.f126.body.getD .skip) S.slices_Collect_int.an [.tmp 2] [a0] w R := by kernel_rfl
theorem S.slices_Collect_int.calls {a0 : Value} {w : World} {R : Value → World → Prop} (h : S.slices_Collect_int a0 w R) : Ca PP Fn.slices_Collect_int #[a0] w R :=
  fnC_calls mixed (f := Fn.slices_Collect_int) (an := S.slices_Collect_int.an) Tryz.func126 rfl (by show _ ≤ _; exact Nat.le_of_ble_eq_true rfl) (S.slices_Collect_int.eq a0 w R ▸ h)
/-- maps.Keys[map[int]acheron/tree.handle,int,acheron/tree.handle]$1 -/
def S.maps_Keys_map_int_tree_handle_int_tree_handle_1 (a0 a1 : Value) (w : World) (R : Value → World → Prop) : Prop :=
 Ld a1 w fun t1 =>
 Ef PP (Instr.range Ty.map_int_tree_handle t1) w fun t2 w3 =>
 ∃ (I4 : List Value → World → Prop) (m5 : List Value → World → Nat), I4 [] w3 ∧ ∀ (u6 : Env) (w7 : World), I4 [] w7 →
 Ef PP (Instr.next t2 false Ty.t) w7 fun t8 w9 =>
 Ex t8 0 fun t10 =>
 Cnd t10 (
 Rd PP (Instr.entry t2) w9 fun t11 =>
 Ex t11 0 fun t12 =>
 CaV PP a0 #[t12] w9 fun t13 w14 =>
 Un .not t13 fun t15 =>
 Cnd t15 (
 R (.tuple #[]) w14) (
 I4 [] w14 ∧ m5 [] w14 < m5 [] w7)) (
 R (.tuple #[]) w9)
def S.maps_Keys_map_int_tree_handle_int_tree_handle_1.an : Ann := (.seq .leaf (.block (.loop (.seq .leaf (.seq (.cond .leaf .leaf) (.block (.seq .leaf (.seq .leaf (.cond .leaf .leaf)))))) [] [3,6,7,8,9,10,11,12,13])))
theorem S.maps_Keys_map_int_tree_handle_int_tree_handle_1.eq (a0 a1 : Value) (w : World) (R : Value → World → Prop) : S.maps_Keys_map_int_tree_handle_int_tree_handle_1 a0 a1 w R = fnC PP 14 (Tryz.f128.body.getD .skip) S.maps_Keys_map_int_tree_handle_int_tree_handle_1.an [] [a0, a1] w R := by kernel_rfl
theorem S.maps_Keys_map_int_tree_handle_int_tree_handle_1.calls {a0 a1 : Value} {w : World} {R : Value → World → Prop} (h : S.maps_Keys_map_int_tree_handle_int_tree_handle_1 a0 a1 w R) : Ca PP Fn.maps_Keys_map_int_tree_handle_int_tree_handle_1 #[a0, a1] w R :=
  fnC_calls mixed (f := Fn.maps_Keys_map_int_tree_handle_int_tree_handle_1) (an := S.maps_Keys_map_int_tree_handle_int_tree_handle_1.an) Tryz.func128 rfl (by show _ ≤ _; exact Nat.le_of_ble_eq_true rfl) (S.maps_Keys_map_int_tree_handle_int_tree_handle_1.eq a0 a1 w R ▸ h)
/-- strings.splitSeq$1 -/
def S.strings_splitSeq_1 (a0 a1 a2 a3 : Value) (w : World) (R : Value → World → Prop) : Prop :=
 Ld a1 w fun t1 =>
 LnS t1 fun t2 =>
 Bi .eql t2 (.int .i64 0) fun t3 =>
 Cnd t3 (
 ∃ (I4 : List Value → World → Prop) (m5 : List Value → World → Nat), I4 [] w ∧ ∀ (u6 : Env) (w7 : World), I4 [] w7 →
 Ld a2 w7 fun t8 =>
 LnS t8 fun t9 =>
 Bi .gtr t9 (.int .i64 0) fun t10 =>
 Cnd t10 (
 Ld a2 w7 fun t11 =>
 Ca PP Fn.unicode_utf8_DecodeRuneInString #[t11] w7 fun t12 w13 =>
 Ex t12 0 fun t14 =>
 Ex t12 1 fun t15 =>
 Ld a2 w13 fun t16 =>
 SlS t16 none (some t15) fun t17 =>
 CaV PP a0 #[t17] w13 fun t18 w19 =>
 Un .not t18 fun t20 =>
 Cnd t20 (
 R (.tuple #[]) w19) (
 Ld a2 w19 fun t21 =>
 SlS t21 (some t15) none fun t22 =>
 St PP 1 a2 t22 w19 fun w23 =>
 I4 [] w23 ∧ m5 [] w23 < m5 [] w7)) (
 R (.tuple #[]) w7)) (
 ∃ (I24 : List Value → World → Prop) (m25 : List Value → World → Nat), I24 [] w ∧ ∀ (u26 : Env) (w27 : World), I24 [] w27 →
 Ld a2 w27 fun t28 =>
 Ld a1 w27 fun t29 =>
 Ca PP Fn.strings_Index #[t28, t29] w27 fun t30 w31 =>
 Bi .lss t30 (.int .i64 0) fun t32 =>
 Cnd t32 (
 Ld a2 w31 fun t33 =>
 CaV PP a0 #[t33] w31 fun t34 w35 =>
 R (.tuple #[]) w35) (
 Ld a2 w31 fun t36 =>
 Ld a3 w31 fun t37 =>
 Bi .add t30 t37 fun t38 =>
 SlS t36 none (some t38) fun t39 =>
 CaV PP a0 #[t39] w31 fun t40 w41 =>
 Un .not t40 fun t42 =>
 Cnd t42 (
 R (.tuple #[]) w41) (
 Ld a2 w41 fun t43 =>
 Ld a1 w41 fun t44 =>
 LnS t44 fun t45 =>
 Bi .add t30 t45 fun t46 =>
 SlS t43 (some t46) none fun t47 =>
 St PP 1 a2 t47 w41 fun w48 =>
 I24 [] w48 ∧ m25 [] w48 < m25 [] w27)))
def S.strings_splitSeq_1.an : Ann := (.seq (.seq .leaf (.cond (.seq (.block (.loop (.seq (.seq .leaf (.cond .leaf .leaf)) (.block (.seq .leaf (.seq (.seq .leaf (.cond .leaf .leaf)) .leaf)))) [] [5,6,12,13,14,15,16,17,18,19,20,21,22,23,24,25,26,27,28])) .leaf) .leaf)) (.seq (.block (.loop (.block (.seq .leaf (.seq (.seq .leaf (.cond .leaf .leaf)) (.seq .leaf (.seq (.seq .leaf (.cond .leaf .leaf)) .leaf))))) [] [7,8,29,30,31,32,33,34,35,36,37,38,39,40,41,42,43,44,45,46,47,48])) .leaf))
theorem S.strings_splitSeq_1.eq (a0 a1 a2 a3 : Value) (w : World) (R : Value → World → Prop) : S.strings_splitSeq_1 a0 a1 a2 a3 w R = fnC PP 52 (Tryz.f150.body.getD .skip) S.strings_splitSeq_1.an [] [a0, a1, a2, a3] w R := by kernel_rfl
theorem S.strings_splitSeq_1.calls {a0 a1 a2 a3 : Value} {w : World} {R : Value → World → Prop} (h : S.strings_splitSeq_1 a0 a1 a2 a3 w R) : Ca PP Fn.strings_splitSeq_1 #[a0, a1, a2, a3] w R :=
  fnC_calls mixed (f := Fn.strings_splitSeq_1) (an := S.strings_splitSeq_1.an) Tryz.func150 rfl (by show _ ≤ _; exact Nat.le_of_ble_eq_true rfl) (S.strings_splitSeq_1.eq a0 a1 a2 a3 w R ▸ h)
/-- slices.Sorted[string] -/
def S.slices_Sorted_string (a0 : Value) (w : World) (R : Value → World → Prop) : Prop :=
 Ca PP Fn.slices_Collect_string #[a0] w fun t1 w2 =>
 Ca PP Fn.slices_Sort_sl_string_string #[t1] w2 fun t3 w4 =>
 R t1 w4
def S.slices_Sorted_string.an : Ann := (.seq .leaf (.seq .leaf (.seq .leaf (.seq .leaf .leaf))))
theorem S.slices_Sorted_string.eq (a0 : Value) (w : World) (R : Value → World → Prop) : S.slices_Sorted_string a0 w R = fnC PP 9 (Tryz.f155.body.getD .skip) S.slices_Sorted_string.an [.tmp 2] [a0] w R := by kernel_rfl
theorem S.slices_Sorted_string.calls {a0 : Value} {w : World} {R : Value → World → Prop} (h : S.slices_Sorted_string a0 w R) : Ca PP Fn.slices_Sorted_string #[a0] w R :=
  fnC_calls mixed (f := Fn.slices_Sorted_string) (an := S.slices_Sorted_string.an) Tryz.func155 rfl (by show _ ≤ _; exact Nat.le_of_ble_eq_true rfl) (S.slices_Sorted_string.eq a0 w R ▸ h)
/-- slices.Values[[]string,string] -/
def S.slices_Values_sl_string_string (a0 : Value) (w : World) (R : Value → World → Prop) : Prop :=
 Al Ty.sl_string (a0 : Value).cells w fun t1 w2 =>
 R (.func (.func Fn.slices_Values_sl_string_string_1) #[] #[t1]) w2
def S.slices_Values_sl_string_string.an : Ann := (.seq .leaf (.seq .leaf .leaf))
theorem S.slices_Values_sl_string_string.eq (a0 : Value) (w : World) (R : Value → World → Prop) : S.slices_Values_sl_string_string a0 w R = fnC PP 4 (Tryz.f156.body.getD .skip) S.slices_Values_sl_string_string.an [.tmp 2] [a0] w R := by kernel_rfl
theorem S.slices_Values_sl_string_string.calls {a0 : Value} {w : World} {R : Value → World → Prop} (h : S.slices_Values_sl_string_string a0 w R) : Ca PP Fn.slices_Values_sl_string_string #[a0] w R :=
  fnC_calls mixed (f := Fn.slices_Values_sl_string_string) (an := S.slices_Values_sl_string_string.an) Tryz.func156 rfl (by show _ ≤ _; exact Nat.le_of_ble_eq_true rfl) (S.slices_Values_sl_string_string.eq a0 w R ▸ h)
/-- slices.IndexFunc[[]string,string] -/
def S.slices_IndexFunc_sl_string_string (a0 a1 : Value) (w : World) (R : Value → World → Prop) : Prop :=
 LnL a0 fun t1 =>
 ∃ (I2 : List Value → World → Prop) (m3 : List Value → World → Nat), I2 [(.int .i64 0)] w ∧ ∀ t6, ∀ (u4 : Env) (w5 : World), I2 [t6] w5 →
 Bi .lss t6 t1 fun t7 =>
 Cnd t7 (
 IxA 1 a0 t6 fun t8 =>
 Ld t8 w5 fun t9 =>
 CaV PP a1 #[t9] w5 fun t10 w11 =>
 Cnd t10 (
 R t6 w11) (
 Bi .add t6 (.int .i64 1) fun t12 =>
 I2 [t12] w11 ∧ m3 [t12] w11 < m3 [t6] w5)) (
 R (.int .i64 (-1)) w5)
def S.slices_IndexFunc_sl_string_string.an : Ann := (.seq .leaf (.seq (.seq .leaf (.block (.loop (.seq .leaf (.seq (.cond .leaf .leaf) (.seq (.block (.seq .leaf (.seq .leaf (.cond (.seq .leaf .leaf) .leaf)))) .leaf))) [8] [4,5,9,10,11,12,13,14,15,16,17,18]))) (.seq .leaf .leaf)))
theorem S.slices_IndexFunc_sl_string_string.eq (a0 a1 : Value) (w : World) (R : Value → World → Prop) : S.slices_IndexFunc_sl_string_string a0 a1 w R = fnC PP 19 (Tryz.f158.body.getD .skip) S.slices_IndexFunc_sl_string_string.an [.tmp 4] [a0, a1] w R := by kernel_rfl
theorem S.slices_IndexFunc_sl_string_string.calls {a0 a1 : Value} {w : World} {R : Value → World → Prop} (h : S.slices_IndexFunc_sl_string_string a0 a1 w R) : Ca PP Fn.slices_IndexFunc_sl_string_string #[a0, a1] w R :=
  fnC_calls mixed (f := Fn.slices_IndexFunc_sl_string_string) (an := S.slices_IndexFunc_sl_string_string.an) Tryz.func158 rfl (by show _ ≤ _; exact Nat.le_of_ble_eq_true rfl) (S.slices_IndexFunc_sl_string_string.eq a0 a1 w R ▸ h)
/-- slices.Contains[[]string,string] -/
def S.slices_Contains_sl_string_string (a0 a1 : Value) (w : World) (R : Value → World → Prop) : Prop :=
 Ca PP Fn.slices_Index_sl_string_string #[a0, a1] w fun t1 w2 =>
 Bi .geq t1 (.int .i64 0) fun t3 =>
 R t3 w2
def S.slices_Contains_sl_string_string.an : Ann := (.seq .leaf (.seq .leaf .leaf))
theorem S.slices_Contains_sl_string_string.eq (a0 a1 : Value) (w : World) (R : Value → World → Prop) : S.slices_Contains_sl_string_string a0 a1 w R = fnC PP 9 (Tryz.f159.body.getD .skip) S.slices_Contains_sl_string_string.an [.tmp 4] [a0, a1] w R := by kernel_rfl
theorem S.slices_Contains_sl_string_string.calls {a0 a1 : Value} {w : World} {R : Value → World → Prop} (h : S.slices_Contains_sl_string_string a0 a1 w R) : Ca PP Fn.slices_Contains_sl_string_string #[a0, a1] w R :=
  fnC_calls mixed (f := Fn.slices_Contains_sl_string_string) (an := S.slices_Contains_sl_string_string.an) Tryz.func159 rfl (by show _ ≤ _; exact Nat.le_of_ble_eq_true rfl) (S.slices_Contains_sl_string_string.eq a0 a1 w R ▸ h)
/-- (*acheron/tree.node).sorted$1 -/
def S.tree_node_sorted_1 (a0 a1 : Value) (w : World) (R : Value → World → Prop) : Prop :=
 Ld a1 w fun t1 =>
 Nc t1 fun t2 =>
 Fa 11 t2 fun t3 =>
 Ld t3 w fun t4 =>
 Ca PP Fn.maps_Keys_map_string_p_tree_node_string_p_tree_node #[t4] w fun t5 w6 =>
 Ca PP Fn.slices_Sorted_string #[t5] w6 fun t7 w8 =>
 LnL t7 fun t9 =>
 ∃ (I10 : List Value → World → Prop) (m11 : List Value → World → Nat), I10 [(.int .i64 0)] w8 ∧ ∀ t14, ∀ (u12 : Env) (w13 : World), I10 [t14] w13 →
 Bi .lss t14 t9 fun t15 =>
 Cnd t15 (
 IxA 1 t7 t14 fun t16 =>
 Ld t16 w13 fun t17 =>
 Ld a1 w13 fun t18 =>
 Nc t18 fun t19 =>
 Fa 11 t19 fun t20 =>
 Ld t20 w13 fun t21 =>
 Rd PP (Instr.lookup Ty.map_string_p_tree_node t21 t17 false) w13 fun t22 =>
 CaV PP a0 #[t22] w13 fun t23 w24 =>
 Un .not t23 fun t25 =>
 Cnd t25 (
 R (.tuple #[]) w24) (
 Bi .add t14 (.int .i64 1) fun t26 =>
 I10 [t26] w24 ∧ m11 [t26] w24 < m11 [t14] w13)) (
 R (.tuple #[]) w13)
def S.tree_node_sorted_1.an : Ann := (.seq .leaf (.block (.loop (.seq .leaf (.seq (.cond .leaf .leaf) (.seq (.block (.seq .leaf (.seq .leaf (.cond .leaf .leaf)))) .leaf))) [12] [4,13,14,15,16,17,18,19,20,21,22,23,24,25])))
theorem S.tree_node_sorted_1.eq (a0 a1 : Value) (w : World) (R : Value → World → Prop) : S.tree_node_sorted_1 a0 a1 w R = fnC PP 26 (Tryz.f160.body.getD .skip) S.tree_node_sorted_1.an [] [a0, a1] w R := by kernel_rfl
theorem S.tree_node_sorted_1.calls {a0 a1 : Value} {w : World} {R : Value → World → Prop} (h : S.tree_node_sorted_1 a0 a1 w R) : Ca PP Fn.tree_node_sorted_1 #[a0, a1] w R :=
  fnC_calls mixed (f := Fn.tree_node_sorted_1) (an := S.tree_node_sorted_1.an) Tryz.func160 rfl (by show _ ≤ _; exact Nat.le_of_ble_eq_true rfl) (S.tree_node_sorted_1.eq a0 a1 w R ▸ h)
/-- maps.Keys[map[string]*acheron/tree.node,string,*acheron/tree.node] -/
def S.maps_Keys_map_string_p_tree_node_string_p_tree_node (a0 : Value) (w : World) (R : Value → World → Prop) : Prop :=
 Al Ty.map_string_p_tree_node (a0 : Value).cells w fun t1 w2 =>
 R (.func (.func Fn.maps_Keys_map_string_p_tree_node_string_p_tree_node_1) #[] #[t1]) w2
def S.maps_Keys_map_string_p_tree_node_string_p_tree_node.an : Ann := (.seq .leaf (.seq .leaf .leaf))
theorem S.maps_Keys_map_string_p_tree_node_string_p_tree_node.eq (a0 : Value) (w : World) (R : Value → World → Prop) : S.maps_Keys_map_string_p_tree_node_string_p_tree_node a0 w R = fnC PP 4 (Tryz.f161.body.getD .skip) S.maps_Keys_map_string_p_tree_node_string_p_tree_node.an [.tmp 2] [a0] w R := by kernel_rfl
theorem S.maps_Keys_map_string_p_tree_node_string_p_tree_node.calls {a0 : Value} {w : World} {R : Value → World → Prop} (h : S.maps_Keys_map_string_p_tree_node_string_p_tree_node a0 w R) : Ca PP Fn.maps_Keys_map_string_p_tree_node_string_p_tree_node #[a0] w R :=
  fnC_calls mixed (f := Fn.maps_Keys_map_string_p_tree_node_string_p_tree_node) (an := S.maps_Keys_map_string_p_tree_node_string_p_tree_node.an) Tryz.func161 rfl (by show _ ≤ _; exact Nat.le_of_ble_eq_true rfl) (S.maps_Keys_map_string_p_tree_node_string_p_tree_node.eq a0 w R ▸ h)
/-- slices.AppendSeq[[]int,int] -/
def S.slices_AppendSeq_sl_int_int (a0 a1 : Value) (w : World) (R : Value → World → Prop) : Prop :=
 Al Ty.sl_int (a0 : Value).cells w fun t1 w2 =>
 RFo PP a1 w2 (RB.one fun r_3 L_4 t5 w6 Rn_7 Re_8 Rr_9 =>
 Bgn r_3 L_4 w6 fun w10 =>
 Ld t1 w10 fun t11 =>
 Ef PP (Instr.buildSlice Ty.sl_int 1 #[(0, t5)]) w10 fun t12 w13 =>
 Ef PP (Builtin.append_ #[Ty.sl_int, Ty.sl_int] Ty.sl_int #[t11, t12]) w13 fun t14 w15 =>
 St PP 1 t1 t14 w15 fun w16 =>
 Rn_7 w16) (fun D_17 w18 =>
 Ld t1 w18 fun t19 =>
 Lvs PP (.mark D_17 :: []) w18 fun w20 =>
 R t19 w20) [] (fun D_21 w22 =>
 Lvs PP (.mark D_21 :: []) w22 fun w23 =>
 R (.slice none 0 0) w23)
def S.slices_AppendSeq_sl_int_int.an : Ann := (.seq .leaf (.seq (.seq .leaf (.block (.rf .leaf (.block .leaf) []))) (.seq .leaf .leaf)))
theorem S.slices_AppendSeq_sl_int_int.eq (a0 a1 : Value) (w : World) (R : Value → World → Prop) : S.slices_AppendSeq_sl_int_int a0 a1 w R = fnC PP 13 (Tryz.f162.body.getD .skip) S.slices_AppendSeq_sl_int_int.an [.tmp 4] [a0, a1] w R := by kernel_rfl
theorem S.slices_AppendSeq_sl_int_int.calls {a0 a1 : Value} {w : World} {R : Value → World → Prop} (h : S.slices_AppendSeq_sl_int_int a0 a1 w R) : Ca PP Fn.slices_AppendSeq_sl_int_int #[a0, a1] w R :=
  fnC_calls mixed (f := Fn.slices_AppendSeq_sl_int_int) (an := S.slices_AppendSeq_sl_int_int.an) Tryz.func162 rfl (by show _ ≤ _; exact Nat.le_of_ble_eq_true rfl) (S.slices_AppendSeq_sl_int_int.eq a0 a1 w R ▸ h)
/-- slices.Collect[string] -/
def S.slices_Collect_string (a0 : Value) (w : World) (R : Value → World → Prop) : Prop :=
 Ca PP Fn.slices_AppendSeq_sl_string_string #[(.slice none 0 0), a0] w fun t1 w2 =>
 R t1 w2
def S.slices_Collect_string.an : Ann := (.seq .leaf (.seq .leaf .leaf))
theorem S.slices_Collect_string.eq (a0 : Value) (w : World) (R : Value → World → Prop) : S.slices_Collect_string a0 w R = fnC PP 5 (Tryz.f171.body.getD .skip) S.slices_Collect_string.an [.tmp 2] [a0] w R := by kernel_rfl
theorem S.slices_Collect_string.calls {a0 : Value} {w : World} {R : Value → World → Prop} (h : S.slices_Collect_string a0 w R) : Ca PP Fn.slices_Collect_string #[a0] w R :=
  fnC_calls mixed (f := Fn.slices_Collect_string) (an := S.slices_Collect_string.an) Tryz.func171 rfl (by show _ ≤ _; exact Nat.le_of_ble_eq_true rfl) (S.slices_Collect_string.eq a0 w R ▸ h)
/-- slices.Values[[]string,string]$1 -/
def S.slices_Values_sl_string_string_1 (a0 a1 : Value) (w : World) (R : Value → World → Prop) : Prop :=
 Ld a1 w fun t1 =>
 LnL t1 fun t2 =>
 ∃ (I3 : List Value → World → Prop) (m4 : List Value → World → Nat), I3 [(.int .i64 0)] w ∧ ∀ t7, ∀ (u5 : Env) (w6 : World), I3 [t7] w6 →
 Bi .lss t7 t2 fun t8 =>
 Cnd t8 (
 IxA 1 t1 t7 fun t9 =>
 Ld t9 w6 fun t10 =>
 CaV PP a0 #[t10] w6 fun t11 w12 =>
 Un .not t11 fun t13 =>
 Cnd t13 (
 R (.tuple #[]) w12) (
 Bi .add t7 (.int .i64 1) fun t14 =>
 I3 [t14] w12 ∧ m4 [t14] w12 < m4 [t7] w6)) (
 R (.tuple #[]) w6)
def S.slices_Values_sl_string_string_1.an : Ann := (.seq .leaf (.block (.loop (.seq .leaf (.seq (.cond .leaf .leaf) (.seq (.block (.seq .leaf (.seq .leaf (.cond .leaf .leaf)))) .leaf))) [7] [4,8,9,10,11,12,13,14,15])))
theorem S.slices_Values_sl_string_string_1.eq (a0 a1 : Value) (w : World) (R : Value → World → Prop) : S.slices_Values_sl_string_string_1 a0 a1 w R = fnC PP 16 (Tryz.f173.body.getD .skip) S.slices_Values_sl_string_string_1.an [] [a0, a1] w R := by kernel_rfl
theorem S.slices_Values_sl_string_string_1.calls {a0 a1 : Value} {w : World} {R : Value → World → Prop} (h : S.slices_Values_sl_string_string_1 a0 a1 w R) : Ca PP Fn.slices_Values_sl_string_string_1 #[a0, a1] w R :=
  fnC_calls mixed (f := Fn.slices_Values_sl_string_string_1) (an := S.slices_Values_sl_string_string_1.an) Tryz.func173 rfl (by show _ ≤ _; exact Nat.le_of_ble_eq_true rfl) (S.slices_Values_sl_string_string_1.eq a0 a1 w R ▸ h)
/-- slices.Index[[]string,string] -/
def S.slices_Index_sl_string_string (a0 a1 : Value) (w : World) (R : Value → World → Prop) : Prop :=
 LnL a0 fun t1 =>
 ∃ (I2 : List Value → World → Prop) (m3 : List Value → World → Nat), I2 [(.int .i64 0)] w ∧ ∀ t6, ∀ (u4 : Env) (w5 : World), I2 [t6] w5 →
 Bi .lss t6 t1 fun t7 =>
 Cnd t7 (
 IxA 1 a0 t6 fun t8 =>
 Ld t8 w5 fun t9 =>
 Bi .eql a1 t9 fun t10 =>
 Cnd t10 (
 R t6 w5) (
 Bi .add t6 (.int .i64 1) fun t11 =>
 I2 [t11] w5 ∧ m3 [t11] w5 < m3 [t6] w5)) (
 R (.int .i64 (-1)) w5)
def S.slices_Index_sl_string_string.an : Ann := (.seq .leaf (.seq (.seq .leaf (.block (.loop (.seq .leaf (.seq (.cond .leaf .leaf) (.seq (.block (.seq .leaf (.seq .leaf (.cond (.seq .leaf .leaf) .leaf)))) .leaf))) [8] [4,5,9,10,11,12,13,14,15,16,17,18]))) (.seq .leaf .leaf)))
theorem S.slices_Index_sl_string_string.eq (a0 a1 : Value) (w : World) (R : Value → World → Prop) : S.slices_Index_sl_string_string a0 a1 w R = fnC PP 19 (Tryz.f174.body.getD .skip) S.slices_Index_sl_string_string.an [.tmp 4] [a0, a1] w R := by kernel_rfl
theorem S.slices_Index_sl_string_string.calls {a0 a1 : Value} {w : World} {R : Value → World → Prop} (h : S.slices_Index_sl_string_string a0 a1 w R) : Ca PP Fn.slices_Index_sl_string_string #[a0, a1] w R :=
  fnC_calls mixed (f := Fn.slices_Index_sl_string_string) (an := S.slices_Index_sl_string_string.an) Tryz.func174 rfl (by show _ ≤ _; exact Nat.le_of_ble_eq_true rfl) (S.slices_Index_sl_string_string.eq a0 a1 w R ▸ h)
/-- maps.Keys[map[string]*acheron/tree.node,string,*acheron/tree.node]$1 -/
def S.maps_Keys_map_string_p_tree_node_string_p_tree_node_1 (a0 a1 : Value) (w : World) (R : Value → World → Prop) : Prop :=
 Ld a1 w fun t1 =>
 Ef PP (Instr.range Ty.map_string_p_tree_node t1) w fun t2 w3 =>
 ∃ (I4 : List Value → World → Prop) (m5 : List Value → World → Nat), I4 [] w3 ∧ ∀ (u6 : Env) (w7 : World), I4 [] w7 →
 Ef PP (Instr.next t2 false Ty.t) w7 fun t8 w9 =>
 Ex t8 0 fun t10 =>
 Cnd t10 (
 Rd PP (Instr.entry t2) w9 fun t11 =>
 Ex t11 0 fun t12 =>
 CaV PP a0 #[t12] w9 fun t13 w14 =>
 Un .not t13 fun t15 =>
 Cnd t15 (
 R (.tuple #[]) w14) (
 I4 [] w14 ∧ m5 [] w14 < m5 [] w7)) (
 R (.tuple #[]) w9)
def S.maps_Keys_map_string_p_tree_node_string_p_tree_node_1.an : Ann := (.seq .leaf (.block (.loop (.seq .leaf (.seq (.cond .leaf .leaf) (.block (.seq .leaf (.seq .leaf (.cond .leaf .leaf)))))) [] [3,6,7,8,9,10,11,12,13])))
theorem S.maps_Keys_map_string_p_tree_node_string_p_tree_node_1.eq (a0 a1 : Value) (w : World) (R : Value → World → Prop) : S.maps_Keys_map_string_p_tree_node_string_p_tree_node_1 a0 a1 w R = fnC PP 14 (Tryz.f175.body.getD .skip) S.maps_Keys_map_string_p_tree_node_string_p_tree_node_1.an [] [a0, a1] w R := by kernel_rfl
theorem S.maps_Keys_map_string_p_tree_node_string_p_tree_node_1.calls {a0 a1 : Value} {w : World} {R : Value → World → Prop} (h : S.maps_Keys_map_string_p_tree_node_string_p_tree_node_1 a0 a1 w R) : Ca PP Fn.maps_Keys_map_string_p_tree_node_string_p_tree_node_1 #[a0, a1] w R :=
  fnC_calls mixed (f := Fn.maps_Keys_map_string_p_tree_node_string_p_tree_node_1) (an := S.maps_Keys_map_string_p_tree_node_string_p_tree_node_1.an) Tryz.func175 rfl (by show _ ≤ _; exact Nat.le_of_ble_eq_true rfl) (S.maps_Keys_map_string_p_tree_node_string_p_tree_node_1.eq a0 a1 w R ▸ h)
/-- slices.AppendSeq[[]string,string] -/
def S.slices_AppendSeq_sl_string_string (a0 a1 : Value) (w : World) (R : Value → World → Prop) : Prop :=
 Al Ty.sl_string (a0 : Value).cells w fun t1 w2 =>
 RFo PP a1 w2 (RB.one fun r_3 L_4 t5 w6 Rn_7 Re_8 Rr_9 =>
 Bgn r_3 L_4 w6 fun w10 =>
 Ld t1 w10 fun t11 =>
 Ef PP (Instr.buildSlice Ty.sl_string 1 #[(0, t5)]) w10 fun t12 w13 =>
 Ef PP (Builtin.append_ #[Ty.sl_string, Ty.sl_string] Ty.sl_string #[t11, t12]) w13 fun t14 w15 =>
 St PP 1 t1 t14 w15 fun w16 =>
 Rn_7 w16) (fun D_17 w18 =>
 Ld t1 w18 fun t19 =>
 Lvs PP (.mark D_17 :: []) w18 fun w20 =>
 R t19 w20) [] (fun D_21 w22 =>
 Lvs PP (.mark D_21 :: []) w22 fun w23 =>
 R (.slice none 0 0) w23)
def S.slices_AppendSeq_sl_string_string.an : Ann := (.seq .leaf (.seq (.seq .leaf (.block (.rf .leaf (.block .leaf) []))) (.seq .leaf .leaf)))
theorem S.slices_AppendSeq_sl_string_string.eq (a0 a1 : Value) (w : World) (R : Value → World → Prop) : S.slices_AppendSeq_sl_string_string a0 a1 w R = fnC PP 13 (Tryz.f191.body.getD .skip) S.slices_AppendSeq_sl_string_string.an [.tmp 4] [a0, a1] w R := by kernel_rfl
theorem S.slices_AppendSeq_sl_string_string.calls {a0 a1 : Value} {w : World} {R : Value → World → Prop} (h : S.slices_AppendSeq_sl_string_string a0 a1 w R) : Ca PP Fn.slices_AppendSeq_sl_string_string #[a0, a1] w R :=
  fnC_calls mixed (f := Fn.slices_AppendSeq_sl_string_string) (an := S.slices_AppendSeq_sl_string_string.an) Tryz.func191 rfl (by show _ ≤ _; exact Nat.le_of_ble_eq_true rfl) (S.slices_AppendSeq_sl_string_string.eq a0 a1 w R ▸ h)
end Go.Proofs.YtnnhmahemklnkaaGreatDoor
