/- Own text. -/
import Derived.Test.YtjffgllkfbcaeaaGreatDoorSc
namespace Go.Proofs.YtjffgllkfbcaeaaGreatDoor
open Go Go.Sh
set_option linter.unusedVariables false
set_option maxRecDepth 100000
/-- acheron/acheronlaw29.grow -/
def S.law29_grow (a0 : Value) (w : World) (R : Value → World → Prop) : Prop :=
 Ca PP Fn.tree_New #[(.string ⟨#[97, 110, 110]⟩), (.slice none 0 0)] w fun t1 w2 =>
 Ex t1 0 fun t3 =>
 Ex t1 1 fun t4 =>
 ∀ J5 : List Value → World → Prop, (∀ t8, ∀ w7 : World, (∀ u6 : Env,
 Cnd t8 (
 R (.pointer none) w7) (
 LnL a0 fun t9 =>
 ∃ (I10 : List Value → World → Prop) (m11 : List Value → World → Nat), I10 [(.int .i64 0)] w7 ∧ ∀ t14, ∀ (u12 : Env) (w13 : World), I10 [t14] w13 →
 Bi .lss t14 t9 fun t15 =>
 Cnd t15 (
 ∀ J16 : List Value → World → Prop, (∀ w18 : World, (∀ u17 : Env,
 Bi .add t14 (.int .i64 1) fun t19 =>
 I10 [t19] w18 ∧ m11 [t19] w18 < m11 [t14] w13) → J16 [] w18) →
 IxA 3 a0 t14 fun t20 =>
 LdA PP 3 t20 w13 fun t21 =>
 Al Ty.law29_Plant #[.string ⟨#[]⟩, .bool false, .string ⟨#[]⟩] w13 fun t22 w23 =>
 St PP 3 t22 t21 w23 fun w24 =>
 Fa 0 t22 fun t25 =>
 Ld t25 w24 fun t26 =>
 Bi .add (.string ⟨#[47]⟩) t26 fun t27 =>
 Ca PP Fn.tree_Clean #[t27] w24 fun t28 w29 =>
 Ca PP Fn.strings_LastIndexByte #[t28, (.int .u8 47)] w29 fun t30 w31 =>
 Mx t30 (.int .i64 1) fun t32 =>
 SlS t28 none (some t32) fun t33 =>
 Ca PP Fn.tree_Tree_Find #[t3, t33] w31 fun t34 w35 =>
 Ex t34 0 fun t36 =>
 Ex t34 1 fun t37 =>
 Al Ty.api_Qid #[.int .i64 0, .int .i64 0, .int .i64 0] w35 fun t38 w39 =>
 St PP 3 t38 t36 w39 fun w40 =>
 Bi .neq t37 (.int .i64 0) fun t41 =>
 Cnd t41 (
 J16 [] w40) (
 ∀ J42 : List Value → World → Prop, (∀ t45, ∀ w44 : World, (∀ u43 : Env,
 Dr w44 fun w46 =>
 Fa 2 t38 fun t47 =>
 Ld t47 w46 fun t48 =>
 Bi .add t30 (.int .i64 1) fun t49 =>
 SlS t28 (some t49) none fun t50 =>
 Fa 1 t22 fun t51 =>
 Ld t51 w46 fun t52 =>
 (MkM w46 fun t53 w54 =>
 (Ld t47 w54 fun t55 =>
 t55 = t48) ∧
 (Ld t51 w54 fun t56 =>
 t56 = t52) ∧
 (Ef PP (Instr.mapUpdate Ty.map_bool_int t53 (.bool true) (.int .i64 0)) w54 fun _ w57 =>
 (Ld t47 w57 fun t58 =>
 t58 = t48) ∧
 (Ld t51 w57 fun t59 =>
 t59 = t52) ∧
 (Ef PP (Instr.mapUpdate Ty.map_bool_int t53 (.bool false) (.int .i64 1)) w57 fun _ w60 =>
 (Ld t47 w60 fun t61 =>
 t61 = t48) ∧
 (Ld t51 w60 fun t62 =>
 t62 = t52) ∧
 Rd PP (Instr.lookup Ty.map_bool_int t53 t52 false) w60 fun t63 =>
 (Ca PP Fn.tree_Tree_Create #[t3, (.string ⟨#[97, 110, 110]⟩), t48, t50, t45, t63] w60 fun t64 w65 =>
 Ex t64 0 fun t66 =>
 Ex t64 1 fun t67 =>
 Ex t64 2 fun t68 =>
 Al Ty.api_Qid #[.int .i64 0, .int .i64 0, .int .i64 0] w65 fun t69 w70 =>
 (Ld t47 w70 fun t71 =>
 t71 = t48) ∧
 (Ld t51 w70 fun t72 =>
 t72 = t52) ∧
 (Rd PP (Instr.lookup Ty.map_bool_int t53 t52 false) w70 fun t73 =>
 t73 = t63) ∧
 St PP 3 t69 t67 w70 fun w74 =>
 Bi .neq t68 (.int .i64 0) fun t75 =>
 Cnd t75 (
 J16 [] w74) (
 ∀ J76 : List Value → World → Prop, (∀ w78 : World, (∀ u77 : Env,
 Ca PP Fn.tree_Tree_Close #[t3, t66] w78 fun t79 w80 =>
 J16 [] w80) → J76 [] w78) →
 Fa 1 t22 fun t81 =>
 Ld t81 w74 fun t82 =>
 Un .not t82 fun t83 =>
 Cnd t83 (
 Fa 2 t22 fun t84 =>
 Ld t84 w74 fun t85 =>
 Ca PP Fn.tree_Tree_Write #[t3, t66, (.int .i64 0), t85] w74 fun t86 w87 =>
 J76 [] w87) (
 J76 [] w74))) ∧ (Al Ty.api_Qid #[.int .i64 0, .int .i64 0, .int .i64 0] w60 fun t88 w89 =>
 (Ld t47 w89 fun t90 =>
 t90 = t48) ∧
 (Ld t51 w89 fun t91 =>
 t91 = t52) ∧
 (Rd PP (Instr.lookup Ty.map_bool_int t53 t52 false) w89 fun t92 =>
 t92 = t63) ∧
 Ca PP Fn.tree_Tree_Create #[t3, (.string ⟨#[97, 110, 110]⟩), t48, t50, t45, t63] w89 fun t93 w94 =>
 Ex t93 0 fun t95 =>
 Ex t93 1 fun t96 =>
 Ex t93 2 fun t97 =>
 St PP 3 t88 t96 w94 fun w98 =>
 Bi .neq t97 (.int .i64 0) fun t99 =>
 Cnd t99 (
 J16 [] w98) (
 ∀ J100 : List Value → World → Prop, (∀ w102 : World, (∀ u101 : Env,
 Ca PP Fn.tree_Tree_Close #[t3, t95] w102 fun t103 w104 =>
 J16 [] w104) → J100 [] w102) →
 Fa 1 t22 fun t105 =>
 Ld t105 w98 fun t106 =>
 Un .not t106 fun t107 =>
 Cnd t107 (
 Fa 2 t22 fun t108 =>
 Ld t108 w98 fun t109 =>
 Ca PP Fn.tree_Tree_Write #[t3, t95, (.int .i64 0), t109] w98 fun t110 w111 =>
 J100 [] w111) (
 J100 [] w98))) ∧ True) ∧ (Al Ty.api_Qid #[.int .i64 0, .int .i64 0, .int .i64 0] w57 fun t112 w113 =>
 (Ld t47 w113 fun t114 =>
 t114 = t48) ∧
 (Ld t51 w113 fun t115 =>
 t115 = t52) ∧
 Ef PP (Instr.mapUpdate Ty.map_bool_int t53 (.bool false) (.int .i64 1)) w113 fun _ w116 =>
 (Ld t47 w116 fun t117 =>
 t117 = t48) ∧
 (Ld t51 w116 fun t118 =>
 t118 = t52) ∧
 Rd PP (Instr.lookup Ty.map_bool_int t53 t52 false) w116 fun t119 =>
 Ca PP Fn.tree_Tree_Create #[t3, (.string ⟨#[97, 110, 110]⟩), t48, t50, t45, t119] w116 fun t120 w121 =>
 Ex t120 0 fun t122 =>
 Ex t120 1 fun t123 =>
 Ex t120 2 fun t124 =>
 St PP 3 t112 t123 w121 fun w125 =>
 Bi .neq t124 (.int .i64 0) fun t126 =>
 Cnd t126 (
 J16 [] w125) (
 ∀ J127 : List Value → World → Prop, (∀ w129 : World, (∀ u128 : Env,
 Ca PP Fn.tree_Tree_Close #[t3, t122] w129 fun t130 w131 =>
 J16 [] w131) → J127 [] w129) →
 Fa 1 t22 fun t132 =>
 Ld t132 w125 fun t133 =>
 Un .not t133 fun t134 =>
 Cnd t134 (
 Fa 2 t22 fun t135 =>
 Ld t135 w125 fun t136 =>
 Ca PP Fn.tree_Tree_Write #[t3, t122, (.int .i64 0), t136] w125 fun t137 w138 =>
 J127 [] w138) (
 J127 [] w125))) ∧ True) ∧ (Ef PP (Instr.mapUpdate Ty.map_bool_int t53 (.bool false) (.int .i64 1)) w54 fun _ w139 =>
 (Ld t47 w139 fun t140 =>
 t140 = t48) ∧
 (Ld t51 w139 fun t141 =>
 t141 = t52) ∧
 (Ef PP (Instr.mapUpdate Ty.map_bool_int t53 (.bool true) (.int .i64 0)) w139 fun _ w142 =>
 (Ld t47 w142 fun t143 =>
 t143 = t48) ∧
 (Ld t51 w142 fun t144 =>
 t144 = t52) ∧
 Rd PP (Instr.lookup Ty.map_bool_int t53 t52 false) w142 fun t145 =>
 (Ca PP Fn.tree_Tree_Create #[t3, (.string ⟨#[97, 110, 110]⟩), t48, t50, t45, t145] w142 fun t146 w147 =>
 Ex t146 0 fun t148 =>
 Ex t146 1 fun t149 =>
 Ex t146 2 fun t150 =>
 Al Ty.api_Qid #[.int .i64 0, .int .i64 0, .int .i64 0] w147 fun t151 w152 =>
 (Ld t47 w152 fun t153 =>
 t153 = t48) ∧
 (Ld t51 w152 fun t154 =>
 t154 = t52) ∧
 (Rd PP (Instr.lookup Ty.map_bool_int t53 t52 false) w152 fun t155 =>
 t155 = t145) ∧
 St PP 3 t151 t149 w152 fun w156 =>
 Bi .neq t150 (.int .i64 0) fun t157 =>
 Cnd t157 (
 J16 [] w156) (
 ∀ J158 : List Value → World → Prop, (∀ w160 : World, (∀ u159 : Env,
 Ca PP Fn.tree_Tree_Close #[t3, t148] w160 fun t161 w162 =>
 J16 [] w162) → J158 [] w160) →
 Fa 1 t22 fun t163 =>
 Ld t163 w156 fun t164 =>
 Un .not t164 fun t165 =>
 Cnd t165 (
 Fa 2 t22 fun t166 =>
 Ld t166 w156 fun t167 =>
 Ca PP Fn.tree_Tree_Write #[t3, t148, (.int .i64 0), t167] w156 fun t168 w169 =>
 J158 [] w169) (
 J158 [] w156))) ∧ (Al Ty.api_Qid #[.int .i64 0, .int .i64 0, .int .i64 0] w142 fun t170 w171 =>
 (Ld t47 w171 fun t172 =>
 t172 = t48) ∧
 (Ld t51 w171 fun t173 =>
 t173 = t52) ∧
 (Rd PP (Instr.lookup Ty.map_bool_int t53 t52 false) w171 fun t174 =>
 t174 = t145) ∧
 Ca PP Fn.tree_Tree_Create #[t3, (.string ⟨#[97, 110, 110]⟩), t48, t50, t45, t145] w171 fun t175 w176 =>
 Ex t175 0 fun t177 =>
 Ex t175 1 fun t178 =>
 Ex t175 2 fun t179 =>
 St PP 3 t170 t178 w176 fun w180 =>
 Bi .neq t179 (.int .i64 0) fun t181 =>
 Cnd t181 (
 J16 [] w180) (
 ∀ J182 : List Value → World → Prop, (∀ w184 : World, (∀ u183 : Env,
 Ca PP Fn.tree_Tree_Close #[t3, t177] w184 fun t185 w186 =>
 J16 [] w186) → J182 [] w184) →
 Fa 1 t22 fun t187 =>
 Ld t187 w180 fun t188 =>
 Un .not t188 fun t189 =>
 Cnd t189 (
 Fa 2 t22 fun t190 =>
 Ld t190 w180 fun t191 =>
 Ca PP Fn.tree_Tree_Write #[t3, t177, (.int .i64 0), t191] w180 fun t192 w193 =>
 J182 [] w193) (
 J182 [] w180))) ∧ True) ∧ (Al Ty.api_Qid #[.int .i64 0, .int .i64 0, .int .i64 0] w139 fun t194 w195 =>
 (Ld t47 w195 fun t196 =>
 t196 = t48) ∧
 (Ld t51 w195 fun t197 =>
 t197 = t52) ∧
 Ef PP (Instr.mapUpdate Ty.map_bool_int t53 (.bool true) (.int .i64 0)) w195 fun _ w198 =>
 (Ld t47 w198 fun t199 =>
 t199 = t48) ∧
 (Ld t51 w198 fun t200 =>
 t200 = t52) ∧
 Rd PP (Instr.lookup Ty.map_bool_int t53 t52 false) w198 fun t201 =>
 Ca PP Fn.tree_Tree_Create #[t3, (.string ⟨#[97, 110, 110]⟩), t48, t50, t45, t201] w198 fun t202 w203 =>
 Ex t202 0 fun t204 =>
 Ex t202 1 fun t205 =>
 Ex t202 2 fun t206 =>
 St PP 3 t194 t205 w203 fun w207 =>
 Bi .neq t206 (.int .i64 0) fun t208 =>
 Cnd t208 (
 J16 [] w207) (
 ∀ J209 : List Value → World → Prop, (∀ w211 : World, (∀ u210 : Env,
 Ca PP Fn.tree_Tree_Close #[t3, t204] w211 fun t212 w213 =>
 J16 [] w213) → J209 [] w211) →
 Fa 1 t22 fun t214 =>
 Ld t214 w207 fun t215 =>
 Un .not t215 fun t216 =>
 Cnd t216 (
 Fa 2 t22 fun t217 =>
 Ld t217 w207 fun t218 =>
 Ca PP Fn.tree_Tree_Write #[t3, t204, (.int .i64 0), t218] w207 fun t219 w220 =>
 J209 [] w220) (
 J209 [] w207))) ∧ True) ∧ (Al Ty.api_Qid #[.int .i64 0, .int .i64 0, .int .i64 0] w54 fun t221 w222 =>
 (Ld t47 w222 fun t223 =>
 t223 = t48) ∧
 (Ld t51 w222 fun t224 =>
 t224 = t52) ∧
 (Ef PP (Instr.mapUpdate Ty.map_bool_int t53 (.bool true) (.int .i64 0)) w222 fun _ w225 =>
 (Ld t47 w225 fun t226 =>
 t226 = t48) ∧
 (Ld t51 w225 fun t227 =>
 t227 = t52) ∧
 Ef PP (Instr.mapUpdate Ty.map_bool_int t53 (.bool false) (.int .i64 1)) w225 fun _ w228 =>
 (Ld t47 w228 fun t229 =>
 t229 = t48) ∧
 (Ld t51 w228 fun t230 =>
 t230 = t52) ∧
 Rd PP (Instr.lookup Ty.map_bool_int t53 t52 false) w228 fun t231 =>
 Ca PP Fn.tree_Tree_Create #[t3, (.string ⟨#[97, 110, 110]⟩), t48, t50, t45, t231] w228 fun t232 w233 =>
 Ex t232 0 fun t234 =>
 Ex t232 1 fun t235 =>
 Ex t232 2 fun t236 =>
 St PP 3 t221 t235 w233 fun w237 =>
 Bi .neq t236 (.int .i64 0) fun t238 =>
 Cnd t238 (
 J16 [] w237) (
 ∀ J239 : List Value → World → Prop, (∀ w241 : World, (∀ u240 : Env,
 Ca PP Fn.tree_Tree_Close #[t3, t234] w241 fun t242 w243 =>
 J16 [] w243) → J239 [] w241) →
 Fa 1 t22 fun t244 =>
 Ld t244 w237 fun t245 =>
 Un .not t245 fun t246 =>
 Cnd t246 (
 Fa 2 t22 fun t247 =>
 Ld t247 w237 fun t248 =>
 Ca PP Fn.tree_Tree_Write #[t3, t234, (.int .i64 0), t248] w237 fun t249 w250 =>
 J239 [] w250) (
 J239 [] w237))) ∧ (Ef PP (Instr.mapUpdate Ty.map_bool_int t53 (.bool false) (.int .i64 1)) w222 fun _ w251 =>
 (Ld t47 w251 fun t252 =>
 t252 = t48) ∧
 (Ld t51 w251 fun t253 =>
 t253 = t52) ∧
 Ef PP (Instr.mapUpdate Ty.map_bool_int t53 (.bool true) (.int .i64 0)) w251 fun _ w254 =>
 (Ld t47 w254 fun t255 =>
 t255 = t48) ∧
 (Ld t51 w254 fun t256 =>
 t256 = t52) ∧
 Rd PP (Instr.lookup Ty.map_bool_int t53 t52 false) w254 fun t257 =>
 Ca PP Fn.tree_Tree_Create #[t3, (.string ⟨#[97, 110, 110]⟩), t48, t50, t45, t257] w254 fun t258 w259 =>
 Ex t258 0 fun t260 =>
 Ex t258 1 fun t261 =>
 Ex t258 2 fun t262 =>
 St PP 3 t221 t261 w259 fun w263 =>
 Bi .neq t262 (.int .i64 0) fun t264 =>
 Cnd t264 (
 J16 [] w263) (
 ∀ J265 : List Value → World → Prop, (∀ w267 : World, (∀ u266 : Env,
 Ca PP Fn.tree_Tree_Close #[t3, t260] w267 fun t268 w269 =>
 J16 [] w269) → J265 [] w267) →
 Fa 1 t22 fun t270 =>
 Ld t270 w263 fun t271 =>
 Un .not t271 fun t272 =>
 Cnd t272 (
 Fa 2 t22 fun t273 =>
 Ld t273 w263 fun t274 =>
 Ca PP Fn.tree_Tree_Write #[t3, t260, (.int .i64 0), t274] w263 fun t275 w276 =>
 J265 [] w276) (
 J265 [] w263))) ∧ True) ∧ True) ∧ (Al Ty.api_Qid #[.int .i64 0, .int .i64 0, .int .i64 0] w46 fun t277 w278 =>
 (Ld t47 w278 fun t279 =>
 t279 = t48) ∧
 (Ld t51 w278 fun t280 =>
 t280 = t52) ∧
 MkM w278 fun t281 w282 =>
 (Ld t47 w282 fun t283 =>
 t283 = t48) ∧
 (Ld t51 w282 fun t284 =>
 t284 = t52) ∧
 (Ef PP (Instr.mapUpdate Ty.map_bool_int t281 (.bool true) (.int .i64 0)) w282 fun _ w285 =>
 (Ld t47 w285 fun t286 =>
 t286 = t48) ∧
 (Ld t51 w285 fun t287 =>
 t287 = t52) ∧
 Ef PP (Instr.mapUpdate Ty.map_bool_int t281 (.bool false) (.int .i64 1)) w285 fun _ w288 =>
 (Ld t47 w288 fun t289 =>
 t289 = t48) ∧
 (Ld t51 w288 fun t290 =>
 t290 = t52) ∧
 Rd PP (Instr.lookup Ty.map_bool_int t281 t52 false) w288 fun t291 =>
 Ca PP Fn.tree_Tree_Create #[t3, (.string ⟨#[97, 110, 110]⟩), t48, t50, t45, t291] w288 fun t292 w293 =>
 Ex t292 0 fun t294 =>
 Ex t292 1 fun t295 =>
 Ex t292 2 fun t296 =>
 St PP 3 t277 t295 w293 fun w297 =>
 Bi .neq t296 (.int .i64 0) fun t298 =>
 Cnd t298 (
 J16 [] w297) (
 ∀ J299 : List Value → World → Prop, (∀ w301 : World, (∀ u300 : Env,
 Ca PP Fn.tree_Tree_Close #[t3, t294] w301 fun t302 w303 =>
 J16 [] w303) → J299 [] w301) →
 Fa 1 t22 fun t304 =>
 Ld t304 w297 fun t305 =>
 Un .not t305 fun t306 =>
 Cnd t306 (
 Fa 2 t22 fun t307 =>
 Ld t307 w297 fun t308 =>
 Ca PP Fn.tree_Tree_Write #[t3, t294, (.int .i64 0), t308] w297 fun t309 w310 =>
 J299 [] w310) (
 J299 [] w297))) ∧ (Ef PP (Instr.mapUpdate Ty.map_bool_int t281 (.bool false) (.int .i64 1)) w282 fun _ w311 =>
 (Ld t47 w311 fun t312 =>
 t312 = t48) ∧
 (Ld t51 w311 fun t313 =>
 t313 = t52) ∧
 Ef PP (Instr.mapUpdate Ty.map_bool_int t281 (.bool true) (.int .i64 0)) w311 fun _ w314 =>
 (Ld t47 w314 fun t315 =>
 t315 = t48) ∧
 (Ld t51 w314 fun t316 =>
 t316 = t52) ∧
 Rd PP (Instr.lookup Ty.map_bool_int t281 t52 false) w314 fun t317 =>
 Ca PP Fn.tree_Tree_Create #[t3, (.string ⟨#[97, 110, 110]⟩), t48, t50, t45, t317] w314 fun t318 w319 =>
 Ex t318 0 fun t320 =>
 Ex t318 1 fun t321 =>
 Ex t318 2 fun t322 =>
 St PP 3 t277 t321 w319 fun w323 =>
 Bi .neq t322 (.int .i64 0) fun t324 =>
 Cnd t324 (
 J16 [] w323) (
 ∀ J325 : List Value → World → Prop, (∀ w327 : World, (∀ u326 : Env,
 Ca PP Fn.tree_Tree_Close #[t3, t320] w327 fun t328 w329 =>
 J16 [] w329) → J325 [] w327) →
 Fa 1 t22 fun t330 =>
 Ld t330 w323 fun t331 =>
 Un .not t331 fun t332 =>
 Cnd t332 (
 Fa 2 t22 fun t333 =>
 Ld t333 w323 fun t334 =>
 Ca PP Fn.tree_Tree_Write #[t3, t320, (.int .i64 0), t334] w323 fun t335 w336 =>
 J325 [] w336) (
 J325 [] w323))) ∧ True) ∧ True) → J42 [t45] w44) →
 Fa 1 t22 fun t337 =>
 Ld t337 w40 fun t338 =>
 Cnd t338 (
 J42 [(.int .i64 2147484159)] w40) (
 J42 [(.int .i64 438)] w40))) (
 R t3 w13))) → J5 [t8] w7) →
 Bi .neq t4 (.int .i64 0) fun t339 =>
 Gd t339 false (fun k340 => k340 t3 w2) w2 fun t341 w342 =>
 Gd t339 false (fun k343 => Rd PP (eqS .eql Ty.p_tree_Tree (.tmp 21) (.const (.pointer none)) t341 (.pointer none)) w342 fun t346 =>
 k343 t346 w342) w342 fun t344 w345 =>
 Pk t339 (.bool true) t344 fun t347 =>
 J5 [t347] w345
def S.law29_grow.an : Ann := (.seq .leaf (.seq .leaf (.seq (.join .leaf [23] [18,19,20,21,22] (.cond (.seq .leaf .leaf) .leaf)) (.seq (.seq .leaf (.block (.loop (.seq .leaf (.seq (.cond .leaf .leaf) (.join (.block (.seq .leaf (.seq .leaf (.seq .leaf (.seq .leaf (.seq (.seq .leaf (.cond .leaf .leaf)) (.seq .leaf (.join (.seq .leaf (.cond .leaf .leaf)) [11] [47,48] (.seq (.draw [[],[],[1],[],[],[4],[3,4,5],[],[],[8],[8],[8,9,10],[],[12],[8,9,10,11,12,13],[0,1,2,3,4,5,6,7,8,9,10,11,12,13,14],[0,1,2,3,4,5,6,7,8,9,10,11,12,13,14,15],[0,1,2,3,4,5,6,7,8,9,10,11,12,13,14,15,16],[0,1,2,3,4,5,6,7,8,9,10,11,12,13,14,15,16],[0,1,2,3,4,5,6,7,8,9,10,11,12,13,14,15,16],[],[0,1,2,3,4,5,6,7,8,9,10,11,12,13,14,15,16,17,20],[0,1,2,3,4,5,6,7,8,9,10,11,12,13,14,15,16,17,18,20,21],[0,1,2,3,4,5,6,7,8,9,10,11,12,13,14,15,16,17,18,19,20,21,22]] (.calm 0 (.calm 1 (.calm 2 (.calm 3 (.calm 4 (.calm 5 (.calm 6 (.calm 7 (.calm 12 (.calm 13 (.effs 8 [2,13] (.effs 9 [2,13] (.effs 10 [2,13] (.calm 11 (.calm 14 (.effs 15 [] (.calm 16 (.calm 17 (.calm 18 (.calm 19 (.eff1 20 [2,13,14] (.calm 21 (.eff1 22 [] (.calm 23 .done)))))))) (.effs 20 [2,13,14] (.eff1 15 [] (.calm 16 (.calm 17 (.calm 18 (.calm 19 (.calm 21 (.eff1 22 [] (.calm 23 .done)))))))) .none)))) (.effs 20 [2,13] (.eff1 10 [2,13] (.calm 11 (.calm 14 (.eff1 15 [] (.calm 16 (.calm 17 (.calm 18 (.calm 19 (.calm 21 (.eff1 22 [] (.calm 23 .done))))))))))) .none)) (.effs 10 [2,13] (.effs 9 [2,13] (.calm 11 (.calm 14 (.effs 15 [] (.calm 16 (.calm 17 (.calm 18 (.calm 19 (.eff1 20 [2,13,14] (.calm 21 (.eff1 22 [] (.calm 23 .done)))))))) (.effs 20 [2,13,14] (.eff1 15 [] (.calm 16 (.calm 17 (.calm 18 (.calm 19 (.calm 21 (.eff1 22 [] (.calm 23 .done)))))))) .none)))) (.effs 20 [2,13] (.eff1 9 [2,13] (.calm 11 (.calm 14 (.eff1 15 [] (.calm 16 (.calm 17 (.calm 18 (.calm 19 (.calm 21 (.eff1 22 [] (.calm 23 .done))))))))))) .none)) (.effs 20 [2,13] (.effs 9 [2,13] (.eff1 10 [2,13] (.calm 11 (.calm 14 (.eff1 15 [] (.calm 16 (.calm 17 (.calm 18 (.calm 19 (.calm 21 (.eff1 22 [] (.calm 23 .done))))))))))) (.effs 10 [2,13] (.eff1 9 [2,13] (.calm 11 (.calm 14 (.eff1 15 [] (.calm 16 (.calm 17 (.calm 18 (.calm 19 (.calm 21 (.eff1 22 [] (.calm 23 .done))))))))))) .none)) .none))) (.effs 20 [2,13] (.eff1 8 [2,13] (.effs 9 [2,13] (.eff1 10 [2,13] (.calm 11 (.calm 14 (.eff1 15 [] (.calm 16 (.calm 17 (.calm 18 (.calm 19 (.calm 21 (.eff1 22 [] (.calm 23 .done))))))))))) (.effs 10 [2,13] (.eff1 9 [2,13] (.calm 11 (.calm 14 (.eff1 15 [] (.calm 16 (.calm 17 (.calm 18 (.calm 19 (.calm 21 (.eff1 22 [] (.calm 23 .done))))))))))) .none))) .none))))))))))))) (.seq (.seq .leaf (.cond .leaf .leaf)) (.join (.seq .leaf (.cond .leaf .leaf)) [] [69,70,71,72,73,74,75,76] .leaf))))))))))) [] [6,7,8,9,10,11,12,13,28,29,30,31,32,33,34,35,36,37,38,39,40,41,42,43,44,45,46,47,48,49,50,51,52,53,54,55,56,57,58,59,60,61,62,63,64,65,66,67,68,69,70,71,72,73,74,75,76,77,78,79] .leaf))) [26] [6,7,8,9,10,11,12,13,27,28,29,30,31,32,33,34,35,36,37,38,39,40,41,42,43,44,45,46,47,48,49,50,51,52,53,54,55,56,57,58,59,60,61,62,63,64,65,66,67,68,69,70,71,72,73,74,75,76,77,78,79,80]))) (.seq .leaf .leaf)))))
theorem S.law29_grow.eq (a0 : Value) (w : World) (R : Value → World → Prop) : S.law29_grow a0 w R = fnC PP 82 (Tryz.f49.body.getD .skip) S.law29_grow.an [.tmp 2] [a0] w R := by kernel_rfl
theorem S.law29_grow.calls {a0 : Value} {w : World} {R : Value → World → Prop} (h : S.law29_grow a0 w R) : Ca PP Fn.law29_grow #[a0] w R :=
  fnC_calls mixed (f := Fn.law29_grow) (an := S.law29_grow.an) Tryz.func49 rfl (by show _ ≤ _; exact Nat.le_of_ble_eq_true rfl) (S.law29_grow.eq a0 w R ▸ h)
/-- (*acheron/space.Space).Mount -/
def S.space_Space_Mount (a0 a1 a2 a3 : Value) (w : World) (R : Value → World → Prop) : Prop :=
 Rd PP (eqS .eql Ty.p_space_Space (.tmp 18) (.const (.pointer none)) a0 (.pointer none)) w fun t1 =>
 Cnd t1 (
 R (.int .i64 6) w) (
 Rd PP (eqS .eql Ty.api_Tree (.tmp 21) (.const .nilIface) a1 .nilIface) w fun t2 =>
 Cnd t2 (
 R (.int .i64 1) w) (
 Ca PP Fn.space_flags #[a3] w fun t3 w4 =>
 Ex t3 0 fun t5 =>
 Ex t3 1 fun t6 =>
 Ex t3 2 fun t7 =>
 Un .not t7 fun t8 =>
 Cnd t8 (
 R (.int .i64 20) w4) (
 Ca PP Fn.space_Space_place #[a0, a2] w4 fun t9 w10 =>
 Ex t9 0 fun t11 =>
 Ex t9 1 fun t12 =>
 Al Ty.space_Place #[.int .i64 0, .int .i64 0] w10 fun t13 w14 =>
 St PP 2 t13 t11 w14 fun w15 =>
 Bi .neq t12 (.int .i64 0) fun t16 =>
 Cnd t16 (
 R t12 w15) (
 LdA PP 2 t13 w15 fun t17 =>
 Ca PP Fn.space_Space_isDir #[a0, t17] w15 fun t18 w19 =>
 Ex t18 0 fun t20 =>
 Ex t18 1 fun t21 =>
 Bi .neq t21 (.int .i64 0) fun t22 =>
 Cnd t22 (
 R t21 w19) (
 Un .not t20 fun t23 =>
 Cnd t23 (
 R (.int .i64 18) w19) (
 Nc a0 fun t24 =>
 Fa 0 t24 fun t25 =>
 Ld t25 w19 fun t26 =>
 Nc t26 fun t27 =>
 Fa 0 t27 fun t28 =>
 Ld t28 w19 fun t29 =>
 LnL t29 fun t30 =>
 Bi .geq t30 (.int .i64 32) fun t31 =>
 Cnd t31 (
 R (.int .i64 3) w19) (
 Dr w19 fun w32 =>
 LdA PP 2 t13 w32 fun t33 =>
 Nc a0 fun t34 =>
 Fa 0 t34 fun t35 =>
 Ld t35 w32 fun t36 =>
 Nc t36 fun t37 =>
 Fa 0 t37 fun t38 =>
 Ld t38 w32 fun t39 =>
 LnL t39 fun t40 =>
 Iv PP a1 "Root" #[] w32 fun t41 w42 =>
 (LdA PP 2 t13 w42 fun t43 =>
 t43 = t33) ∧
 (Ld t35 w42 fun t44 =>
 t44 = t36) ∧
 (Ld t38 w42 fun t45 =>
 t45 = t39) ∧
 Fi 2 t41 fun t46 =>
 Bd #[.int .i64 0, .int .i64 0] [(0, 1), (1, 1)] [(0, t40), (1, t46)] fun t47 =>
 Ef PP (Instr.buildSlice Ty.sl_space_Place 1 #[(0, t47)]) w42 fun t48 w49 =>
 (LdA PP 2 t13 w49 fun t50 =>
 t50 = t33) ∧
 Ca PP Fn.space_Space_set #[a0, t33, t48, t6, t5] w49 fun t51 w52 =>
 Bi .neq t51 (.int .i64 0) fun t53 =>
 Cnd t53 (
 R t51 w52) (
 Dr w52 fun w54 =>
 Nc a0 fun t55 =>
 Fa 0 t55 fun t56 =>
 Ld t56 w54 fun t57 =>
 Nc a0 fun t58 =>
 Fa 0 t58 fun t59 =>
 Ld t59 w54 fun t60 =>
 Nc t60 fun t61 =>
 Fa 0 t61 fun t62 =>
 Ld t62 w54 fun t63 =>
 Ef PP (Instr.buildSlice Ty.sl_api_Tree 1 #[(0, a1)]) w54 fun t64 w65 =>
 (Ld t56 w65 fun t66 =>
 t66 = t57) ∧
 (Ld t59 w65 fun t67 =>
 t67 = t60) ∧
 (Ld t62 w65 fun t68 =>
 t68 = t63) ∧
 Ef PP (Builtin.append_ #[Ty.sl_api_Tree, Ty.sl_api_Tree] Ty.sl_api_Tree #[t63, t64]) w65 fun t69 w70 =>
 (Ld t56 w70 fun t71 =>
 t71 = t57) ∧
 Nc t57 fun t72 =>
 Fa 0 t72 fun t73 =>
 St PP 1 t73 t69 w70 fun w74 =>
 R (.int .i64 0) w74))))))))
def S.space_Space_Mount.an : Ann := (.seq .leaf (.seq (.block (.seq .leaf (.cond (.seq .leaf .leaf) (.seq .leaf (.cond (.seq .leaf .leaf) .leaf))))) (.seq .leaf (.seq (.seq .leaf (.cond (.seq .leaf .leaf) .leaf)) (.seq .leaf (.seq (.seq .leaf (.cond (.seq .leaf .leaf) .leaf)) (.seq (.seq .leaf (.block (.seq .leaf (.cond (.seq .leaf .leaf) (.seq .leaf (.cond (.seq .leaf .leaf) (.seq .leaf (.cond (.seq .leaf .leaf) .leaf)))))))) (.seq (.seq (.draw [[],[],[],[2],[2,3],[2,3,4],[2,3,4,5],[2,3,4,5,6],[2,3,4,5,6,7],[2,3,4,5,6,7,8],[],[10],[10,11],[2,3,4,5,6,7,8,9,10,11,12],[2,3,4,5,6,7,8,9,10,11,12,13],[],[],[0,1,2,3,4,5,6,7,8,9,10,11,12,13,14,15,16],[0,1,2,3,4,5,6,7,8,9,10,11,12,13,14,15,16,17]] (.calm 0 (.calm 1 (.calm 2 (.calm 3 (.calm 4 (.calm 5 (.calm 6 (.calm 7 (.calm 8 (.calm 9 (.calm 10 (.calm 15 (.calm 16 (.eff1 11 [1,5,8] (.calm 12 (.calm 13 (.eff1 14 [1] (.eff1 17 [] (.calm 18 .done)))))))))))))))))))) (.seq .leaf (.cond (.seq .leaf .leaf) .leaf))) (.seq (.draw [[],[0],[0,1],[0,1,2],[],[4],[4,5],[4,5,6],[4,5,6,7],[4,5,6,7,8],[4,5,6,7,8,9],[],[11],[4,5,6,7,8,9,10,11,12],[0,1,2,3,4,5,6,7,8,9,10,11,12,13],[0,1,2,3,4,5,6,7,8,9,10,11,12,13,14],[0,1,2,3,4,5,6,7,8,9,10,11,12,13,14,15]] (.calm 0 (.calm 1 (.calm 2 (.calm 3 (.calm 4 (.calm 5 (.calm 6 (.calm 7 (.calm 8 (.calm 9 (.calm 10 (.calm 11 (.eff1 12 [3,7,10] (.eff1 13 [3] (.calm 14 (.calm 15 (.eff1 16 [] .done)))))))))))))))))) (.seq .leaf .leaf))))))))))
theorem S.space_Space_Mount.eq (a0 a1 a2 a3 : Value) (w : World) (R : Value → World → Prop) : S.space_Space_Mount a0 a1 a2 a3 w R = fnC PP 100 (Tryz.f50.body.getD .skip) S.space_Space_Mount.an [.tmp 8] [a0, a1, a2, a3] w R := by kernel_rfl
theorem S.space_Space_Mount.calls {a0 a1 a2 a3 : Value} {w : World} {R : Value → World → Prop} (h : S.space_Space_Mount a0 a1 a2 a3 w R) : Ca PP Fn.space_Space_Mount #[a0, a1, a2, a3] w R :=
  fnC_calls mixed (f := Fn.space_Space_Mount) (an := S.space_Space_Mount.an) Tryz.func50 rfl (by show _ ≤ _; exact Nat.le_of_ble_eq_true rfl) (S.space_Space_Mount.eq a0 a1 a2 a3 w R ▸ h)
/-- (*acheron/space.Space).Chdir -/
def S.space_Space_Chdir (a0 a1 : Value) (w : World) (R : Value → World → Prop) : Prop :=
 Ca PP Fn.space_Space_Where #[a0, a1] w fun t1 w2 =>
 Ex t1 0 fun t3 =>
 Ex t1 1 fun t4 =>
 Bi .neq t4 (.int .i64 0) fun t5 =>
 Cnd t5 (
 R t4 w2) (
 IxA 2 t3 (.int .i64 0) fun t6 =>
 LdA PP 2 t6 w2 fun t7 =>
 Ca PP Fn.space_Space_isDir #[a0, t7] w2 fun t8 w9 =>
 Ex t8 0 fun t10 =>
 Ex t8 1 fun t11 =>
 Bi .neq t11 (.int .i64 0) fun t12 =>
 Cnd t12 (
 R t11 w9) (
 Un .not t10 fun t13 =>
 Cnd t13 (
 R (.int .i64 18) w9) (
 Dr w9 fun w14 =>
 Nc a0 fun t15 =>
 Fa 0 t15 fun t16 =>
 Ld t16 w14 fun t17 =>
 Nc t17 fun t18 =>
 Fa 0 t18 fun t19 =>
 Ld t19 w14 fun t20 =>
 IxA 2 t3 (.int .i64 0) fun t21 =>
 Fa 0 t21 fun t22 =>
 Ld t22 w14 fun t23 =>
 IxA 1 t20 t23 fun t24 =>
 Ld t24 w14 fun t25 =>
 Nc a0 fun t26 =>
 Fa 1 t26 fun t27 =>
 Ld t27 w14 fun t28 =>
 IxA 2 t3 (.int .i64 0) fun t29 =>
 Fa 1 t29 fun t30 =>
 Ld t30 w14 fun t31 =>
 Nc t25 fun t32 =>
 (Iv PP t25 "Walk" #[t28, t31, (.string ⟨#[46]⟩)] w14 fun t33 w34 =>
 Ex t33 0 fun t35 =>
 Ex t33 1 fun t36 =>
 Al Ty.api_Qid #[.int .i64 0, .int .i64 0, .int .i64 0] w34 fun t37 w38 =>
 (Ld t16 w38 fun t39 =>
 t39 = t17) ∧
 (Ld t19 w38 fun t40 =>
 t40 = t20) ∧
 (Ld t22 w38 fun t41 =>
 t41 = t23) ∧
 (Ld t24 w38 fun t42 =>
 t42 = t25) ∧
 (Ld t27 w38 fun t43 =>
 t43 = t28) ∧
 (Ld t30 w38 fun t44 =>
 t44 = t31) ∧
 St PP 3 t37 t35 w38 fun w45 =>
 Bi .neq t36 (.int .i64 0) fun t46 =>
 Cnd t46 (
 R t36 w45) (
 Ca PP Fn.space_Space_clean #[a0, a1] w45 fun t47 w48 =>
 Ca PP Fn.tree_Clean #[t47] w48 fun t49 w50 =>
 Nc a0 fun t51 =>
 Fa 2 t51 fun t52 =>
 St PP 1 t52 t49 w50 fun w53 =>
 R (.int .i64 0) w53)) ∧ (Al Ty.api_Qid #[.int .i64 0, .int .i64 0, .int .i64 0] w14 fun t54 w55 =>
 (Ld t16 w55 fun t56 =>
 t56 = t17) ∧
 (Ld t19 w55 fun t57 =>
 t57 = t20) ∧
 (Ld t22 w55 fun t58 =>
 t58 = t23) ∧
 (Ld t24 w55 fun t59 =>
 t59 = t25) ∧
 (Ld t27 w55 fun t60 =>
 t60 = t28) ∧
 (Ld t30 w55 fun t61 =>
 t61 = t31) ∧
 Iv PP t25 "Walk" #[t28, t31, (.string ⟨#[46]⟩)] w55 fun t62 w63 =>
 Ex t62 0 fun t64 =>
 Ex t62 1 fun t65 =>
 St PP 3 t54 t64 w63 fun w66 =>
 Bi .neq t65 (.int .i64 0) fun t67 =>
 Cnd t67 (
 R t65 w66) (
 Ca PP Fn.space_Space_clean #[a0, a1] w66 fun t68 w69 =>
 Ca PP Fn.tree_Clean #[t68] w69 fun t70 w71 =>
 Nc a0 fun t72 =>
 Fa 2 t72 fun t73 =>
 St PP 1 t73 t70 w71 fun w74 =>
 R (.int .i64 0) w74)) ∧ True)))
def S.space_Space_Chdir.an : Ann := (.seq .leaf (.seq .leaf (.seq (.seq .leaf (.cond (.seq .leaf .leaf) .leaf)) (.seq (.seq .leaf (.block (.seq .leaf (.cond (.seq .leaf .leaf) (.seq .leaf (.cond (.seq .leaf .leaf) .leaf)))))) (.seq (.seq (.draw [[],[0],[0,1],[0,1,2],[0,1,2,3],[0,1,2,3,4],[0,1,2,3,4,5],[],[7],[7,8],[7,8,9],[0,1,2,3,4,5,6,7,8,9,10],[0,1,2,3,4,5,6,7,8,9,10,11],[],[13],[13,14],[13,14,15],[],[17],[17,18],[17,18,19],[0,1,2,3,4,5,6,7,8,9,10,11,12],[0,1,2,3,4,5,6,7,8,9,10,11,12,21],[0,1,2,3,4,5,6,7,8,9,10,11,12,13,14,15,16,17,18,19,20,21,22],[0,1,2,3,4,5,6,7,8,9,10,11,12,13,14,15,16,17,18,19,20,21,22,23],[0,1,2,3,4,5,6,7,8,9,10,11,12,13,14,15,16,17,18,19,20,21,22,23,24],[0,1,2,3,4,5,6,7,8,9,10,11,12,13,14,15,16,17,18,19,20,21,22,23,24],[],[0,1,2,3,4,5,6,7,8,9,10,11,12,13,14,15,16,17,18,19,20,21,22,23,24,25,27],[0,1,2,3,4,5,6,7,8,9,10,11,12,13,14,15,16,17,18,19,20,21,22,23,24,25,26,27,28]] (.calm 0 (.calm 1 (.calm 2 (.calm 3 (.calm 4 (.calm 5 (.calm 6 (.calm 7 (.calm 8 (.calm 9 (.calm 10 (.calm 11 (.calm 12 (.calm 13 (.calm 14 (.calm 15 (.calm 16 (.calm 17 (.calm 18 (.calm 19 (.calm 20 (.calm 21 (.calm 22 (.effs 23 [] (.calm 24 (.calm 25 (.calm 26 (.eff1 27 [3,6,10,12,16,20] (.eff1 28 [] (.calm 29 .done)))))) (.effs 27 [3,6,10,12,16,20] (.eff1 23 [] (.calm 24 (.calm 25 (.calm 26 (.eff1 28 [] (.calm 29 .done)))))) .none)))))))))))))))))))))))))) (.seq .leaf (.cond (.seq .leaf .leaf) .leaf))) (.seq .leaf (.seq .leaf .leaf)))))))
theorem S.space_Space_Chdir.eq (a0 a1 : Value) (w : World) (R : Value → World → Prop) : S.space_Space_Chdir a0 a1 w R = fnC PP 72 (Tryz.f51.body.getD .skip) S.space_Space_Chdir.an [.tmp 4] [a0, a1] w R := by kernel_rfl
theorem S.space_Space_Chdir.calls {a0 a1 : Value} {w : World} {R : Value → World → Prop} (h : S.space_Space_Chdir a0 a1 w R) : Ca PP Fn.space_Space_Chdir #[a0, a1] w R :=
  fnC_calls mixed (f := Fn.space_Space_Chdir) (an := S.space_Space_Chdir.an) Tryz.func51 rfl (by show _ ≤ _; exact Nat.le_of_ble_eq_true rfl) (S.space_Space_Chdir.eq a0 a1 w R ▸ h)
/-- (*acheron/space.Space).Stat -/
def S.space_Space_Stat (a0 a1 : Value) (w : World) (R : Value → World → Prop) : Prop :=
 Al Ty.api_Dir #[.int .i64 0, .int .i64 0, .int .i64 0, .int .i64 0, .int .i64 0, .int .i64 0, .string ⟨#[]⟩, .string ⟨#[]⟩, .string ⟨#[]⟩, .string ⟨#[]⟩] w fun t1 w2 =>
 Ca PP Fn.space_Space_Where #[a0, a1] w2 fun t3 w4 =>
 Ex t3 0 fun t5 =>
 Ex t3 1 fun t6 =>
 Bi .neq t6 (.int .i64 0) fun t7 =>
 Cnd t7 (
 Bd #[.int .i64 0, .int .i64 0, .int .i64 0, .int .i64 0, .int .i64 0, .int .i64 0, .string ⟨#[]⟩, .string ⟨#[]⟩, .string ⟨#[]⟩, .string ⟨#[]⟩] [(0, 3), (3, 1), (4, 1), (5, 1), (6, 1), (7, 1), (8, 1), (9, 1)] [] fun t8 =>
 St PP 10 t1 t8 w4 fun w9 =>
 LdA PP 10 t1 w9 fun t10 =>
 R (.tuple #[t10, t6]) w9) (
 Dr w4 fun w11 =>
 Nc a0 fun t12 =>
 Fa 0 t12 fun t13 =>
 Ld t13 w11 fun t14 =>
 Nc t14 fun t15 =>
 Fa 0 t15 fun t16 =>
 Ld t16 w11 fun t17 =>
 IxA 2 t5 (.int .i64 0) fun t18 =>
 Fa 0 t18 fun t19 =>
 Ld t19 w11 fun t20 =>
 IxA 1 t17 t20 fun t21 =>
 Ld t21 w11 fun t22 =>
 Nc a0 fun t23 =>
 Fa 1 t23 fun t24 =>
 Ld t24 w11 fun t25 =>
 IxA 2 t5 (.int .i64 0) fun t26 =>
 Fa 1 t26 fun t27 =>
 Ld t27 w11 fun t28 =>
 Nc t22 fun t29 =>
 (Iv PP t22 "Stat" #[t25, t28] w11 fun t30 w31 =>
 Ex t30 0 fun t32 =>
 Ex t30 1 fun t33 =>
 Al Ty.api_Dir #[.int .i64 0, .int .i64 0, .int .i64 0, .int .i64 0, .int .i64 0, .int .i64 0, .string ⟨#[]⟩, .string ⟨#[]⟩, .string ⟨#[]⟩, .string ⟨#[]⟩] w31 fun t34 w35 =>
 (Ld t13 w35 fun t36 =>
 t36 = t14) ∧
 (Ld t16 w35 fun t37 =>
 t37 = t17) ∧
 (Ld t19 w35 fun t38 =>
 t38 = t20) ∧
 (Ld t21 w35 fun t39 =>
 t39 = t22) ∧
 (Ld t24 w35 fun t40 =>
 t40 = t25) ∧
 (Ld t27 w35 fun t41 =>
 t41 = t28) ∧
 St PP 10 t34 t32 w35 fun w42 =>
 Bi .neq t33 (.int .i64 0) fun t43 =>
 Cnd t43 (
 Bd #[.int .i64 0, .int .i64 0, .int .i64 0, .int .i64 0, .int .i64 0, .int .i64 0, .string ⟨#[]⟩, .string ⟨#[]⟩, .string ⟨#[]⟩, .string ⟨#[]⟩] [(0, 3), (3, 1), (4, 1), (5, 1), (6, 1), (7, 1), (8, 1), (9, 1)] [] fun t44 =>
 St PP 10 t1 t44 w42 fun w45 =>
 LdA PP 10 t1 w45 fun t46 =>
 R (.tuple #[t46, t33]) w45) (
 LdA PP 10 t34 w42 fun t47 =>
 St PP 10 t1 t47 w42 fun w48 =>
 LdA PP 10 t1 w48 fun t49 =>
 R (.tuple #[t49, (.int .i64 0)]) w48)) ∧ (Al Ty.api_Dir #[.int .i64 0, .int .i64 0, .int .i64 0, .int .i64 0, .int .i64 0, .int .i64 0, .string ⟨#[]⟩, .string ⟨#[]⟩, .string ⟨#[]⟩, .string ⟨#[]⟩] w11 fun t50 w51 =>
 (Ld t13 w51 fun t52 =>
 t52 = t14) ∧
 (Ld t16 w51 fun t53 =>
 t53 = t17) ∧
 (Ld t19 w51 fun t54 =>
 t54 = t20) ∧
 (Ld t21 w51 fun t55 =>
 t55 = t22) ∧
 (Ld t24 w51 fun t56 =>
 t56 = t25) ∧
 (Ld t27 w51 fun t57 =>
 t57 = t28) ∧
 Iv PP t22 "Stat" #[t25, t28] w51 fun t58 w59 =>
 Ex t58 0 fun t60 =>
 Ex t58 1 fun t61 =>
 St PP 10 t50 t60 w59 fun w62 =>
 Bi .neq t61 (.int .i64 0) fun t63 =>
 Cnd t63 (
 Bd #[.int .i64 0, .int .i64 0, .int .i64 0, .int .i64 0, .int .i64 0, .int .i64 0, .string ⟨#[]⟩, .string ⟨#[]⟩, .string ⟨#[]⟩, .string ⟨#[]⟩] [(0, 3), (3, 1), (4, 1), (5, 1), (6, 1), (7, 1), (8, 1), (9, 1)] [] fun t64 =>
 St PP 10 t1 t64 w62 fun w65 =>
 LdA PP 10 t1 w65 fun t66 =>
 R (.tuple #[t66, t61]) w65) (
 LdA PP 10 t50 w62 fun t67 =>
 St PP 10 t1 t67 w62 fun w68 =>
 LdA PP 10 t1 w68 fun t69 =>
 R (.tuple #[t69, (.int .i64 0)]) w68)) ∧ True)
def S.space_Space_Stat.an : Ann := (.seq .leaf (.seq .leaf (.seq (.seq .leaf (.cond (.seq .leaf .leaf) .leaf)) (.seq (.draw [[],[0],[0,1],[0,1,2],[0,1,2,3],[0,1,2,3,4],[0,1,2,3,4,5],[],[7],[7,8],[7,8,9],[0,1,2,3,4,5,6,7,8,9,10],[0,1,2,3,4,5,6,7,8,9,10,11],[],[13],[13,14],[13,14,15],[],[17],[17,18],[17,18,19],[0,1,2,3,4,5,6,7,8,9,10,11,12],[0,1,2,3,4,5,6,7,8,9,10,11,12,21],[0,1,2,3,4,5,6,7,8,9,10,11,12,13,14,15,16,17,18,19,20,21,22],[0,1,2,3,4,5,6,7,8,9,10,11,12,13,14,15,16,17,18,19,20,21,22,23],[0,1,2,3,4,5,6,7,8,9,10,11,12,13,14,15,16,17,18,19,20,21,22,23,24],[0,1,2,3,4,5,6,7,8,9,10,11,12,13,14,15,16,17,18,19,20,21,22,23,24],[],[0,1,2,3,4,5,6,7,8,9,10,11,12,13,14,15,16,17,18,19,20,21,22,23,24,25,27],[0,1,2,3,4,5,6,7,8,9,10,11,12,13,14,15,16,17,18,19,20,21,22,23,24,25,26,27,28]] (.calm 0 (.calm 1 (.calm 2 (.calm 3 (.calm 4 (.calm 5 (.calm 6 (.calm 7 (.calm 8 (.calm 9 (.calm 10 (.calm 11 (.calm 12 (.calm 13 (.calm 14 (.calm 15 (.calm 16 (.calm 17 (.calm 18 (.calm 19 (.calm 20 (.calm 21 (.calm 22 (.effs 23 [] (.calm 24 (.calm 25 (.calm 26 (.eff1 27 [3,6,10,12,16,20] (.eff1 28 [] (.calm 29 .done)))))) (.effs 27 [3,6,10,12,16,20] (.eff1 23 [] (.calm 24 (.calm 25 (.calm 26 (.eff1 28 [] (.calm 29 .done)))))) .none)))))))))))))))))))))))))) (.seq (.seq .leaf (.cond (.seq .leaf .leaf) .leaf)) (.seq .leaf .leaf))))))
theorem S.space_Space_Stat.eq (a0 a1 : Value) (w : World) (R : Value → World → Prop) : S.space_Space_Stat a0 a1 w R = fnC PP 51 (Tryz.f52.body.getD .skip) S.space_Space_Stat.an [.cell 4 39, .tmp 5] [a0, a1] w R := by kernel_rfl
theorem S.space_Space_Stat.calls {a0 a1 : Value} {w : World} {R : Value → World → Prop} (h : S.space_Space_Stat a0 a1 w R) : Ca PP Fn.space_Space_Stat #[a0, a1] w R :=
  fnC_calls mixed (f := Fn.space_Space_Stat) (an := S.space_Space_Stat.an) Tryz.func52 rfl (by show _ ≤ _; exact Nat.le_of_ble_eq_true rfl) (S.space_Space_Stat.eq a0 a1 w R ▸ h)
/-- (*acheron/space.Space).Wstat -/
def S.space_Space_Wstat (a0 a1 a2 : Value) (w : World) (R : Value → World → Prop) : Prop :=
 Al Ty.api_Dir (a2 : Value).cells w fun t1 w2 =>
 Ca PP Fn.space_Space_place #[a0, a1] w2 fun t3 w4 =>
 Ex t3 0 fun t5 =>
 Ex t3 1 fun t6 =>
 Al Ty.space_Place #[.int .i64 0, .int .i64 0] w4 fun t7 w8 =>
 St PP 2 t7 t5 w8 fun w9 =>
 Bi .neq t6 (.int .i64 0) fun t10 =>
 Cnd t10 (
 R t6 w9) (
 Dr w9 fun w11 =>
 Nc a0 fun t12 =>
 Fa 0 t12 fun t13 =>
 Ld t13 w11 fun t14 =>
 Nc t14 fun t15 =>
 Fa 0 t15 fun t16 =>
 Ld t16 w11 fun t17 =>
 Fa 0 t7 fun t18 =>
 Ld t18 w11 fun t19 =>
 IxA 1 t17 t19 fun t20 =>
 Ld t20 w11 fun t21 =>
 Nc a0 fun t22 =>
 Fa 1 t22 fun t23 =>
 Ld t23 w11 fun t24 =>
 Fa 1 t7 fun t25 =>
 Ld t25 w11 fun t26 =>
 LdA PP 10 t1 w11 fun t27 =>
 Nc t21 fun t28 =>
 Iv PP t21 "Wstat" #[t24, t26, t27] w11 fun t29 w30 =>
 R t29 w30)
def S.space_Space_Wstat.an : Ann := (.seq .leaf (.seq .leaf (.seq (.seq .leaf (.cond (.seq .leaf .leaf) .leaf)) (.seq (.draw [[],[0],[0,1],[0,1,2],[0,1,2,3],[0,1,2,3,4],[0,1,2,3,4,5],[],[7],[0,1,2,3,4,5,6,7,8],[0,1,2,3,4,5,6,7,8,9],[],[11],[11,12],[11,12,13],[],[15],[],[0,1,2,3,4,5,6,7,8,9,10],[0,1,2,3,4,5,6,7,8,9,10,18],[0,1,2,3,4,5,6,7,8,9,10,11,12,13,14,15,16,17,18,19],[0,1,2,3,4,5,6,7,8,9,10,11,12,13,14,15,16,17,18,19,20]] (.calm 0 (.calm 1 (.calm 2 (.calm 3 (.calm 4 (.calm 5 (.calm 6 (.calm 7 (.calm 8 (.calm 9 (.calm 10 (.calm 11 (.calm 12 (.calm 13 (.calm 14 (.calm 15 (.calm 16 (.calm 17 (.calm 18 (.calm 19 (.eff1 20 [] (.calm 21 .done))))))))))))))))))))))) .leaf))))
theorem S.space_Space_Wstat.eq (a0 a1 a2 : Value) (w : World) (R : Value → World → Prop) : S.space_Space_Wstat a0 a1 a2 w R = fnC PP 39 (Tryz.f53.body.getD .skip) S.space_Space_Wstat.an [.tmp 6] [a0, a1, a2] w R := by kernel_rfl
theorem S.space_Space_Wstat.calls {a0 a1 a2 : Value} {w : World} {R : Value → World → Prop} (h : S.space_Space_Wstat a0 a1 a2 w R) : Ca PP Fn.space_Space_Wstat #[a0, a1, a2] w R :=
  fnC_calls mixed (f := Fn.space_Space_Wstat) (an := S.space_Space_Wstat.an) Tryz.func53 rfl (by show _ ≤ _; exact Nat.le_of_ble_eq_true rfl) (S.space_Space_Wstat.eq a0 a1 a2 w R ▸ h)
/-- (*acheron/space.Space).Create -/
def S.space_Space_Create (a0 a1 a2 a3 : Value) (w : World) (R : Value → World → Prop) : Prop :=
 Ca PP Fn.space_Space_elements #[a0, a1] w fun t1 w2 =>
 Ex t1 0 fun t3 =>
 Ex t1 1 fun t4 =>
 Bi .neq t4 (.int .i64 0) fun t5 =>
 Cnd t5 (
 R (.tuple #[(.int .i64 0), t4]) w2) (
 Ca PP Fn.space_Space_walk #[a0, t3] w2 fun t6 w7 =>
 Ex t6 0 fun t8 =>
 Ex t6 1 fun t9 =>
 Al Ty.space_Place #[.int .i64 0, .int .i64 0] w7 fun t10 w11 =>
 St PP 2 t10 t8 w11 fun w12 =>
 Bi .eql t9 (.int .i64 0) fun t13 =>
 Cnd t13 (
 R (.tuple #[(.int .i64 0), (.int .i64 5)]) w12) (
 LnL t3 fun t14 =>
 Bi .sub t14 (.int .i64 1) fun t15 =>
 Sl 1 t3 none (some t15) fun t16 =>
 Ca PP Fn.space_Space_walk #[a0, t16] w12 fun t17 w18 =>
 Ex t17 0 fun t19 =>
 Ex t17 1 fun t20 =>
 Al Ty.space_Place #[.int .i64 0, .int .i64 0] w18 fun t21 w22 =>
 St PP 2 t21 t19 w22 fun w23 =>
 Bi .neq t20 (.int .i64 0) fun t24 =>
 Cnd t24 (
 R (.tuple #[(.int .i64 0), t20]) w23) (
 Dr w23 fun w25 =>
 Nc a0 fun t26 =>
 Fa 0 t26 fun t27 =>
 Ld t27 w25 fun t28 =>
 LdA PP 2 t21 w25 fun t29 =>
 Ca PP Fn.space_table_stand #[t28, t29] w25 fun t30 w31 =>
 Ex t30 0 fun t32 =>
 Ex t30 1 fun t33 =>
 Ca PP Fn.slices_Index_sl_bool_bool #[t33, (.bool true)] w31 fun t34 w35 =>
 Bi .lss t34 (.int .i64 0) fun t36 =>
 Cnd t36 (
 R (.tuple #[(.int .i64 0), (.int .i64 17)]) w35) (
 Nc a0 fun t37 =>
 Fa 3 t37 fun t38 =>
 Ld t38 w35 fun t39 =>
 Rd PP (Builtin.len_ #[Ty.map_int_sl_space_handle] Ty.int #[t39]) w35 fun t40 =>
 Bi .geq t40 (.int .i64 64) fun t41 =>
 Cnd t41 (
 R (.tuple #[(.int .i64 0), (.int .i64 3)]) w35) (
 Dr w35 fun w42 =>
 Nc a0 fun t43 =>
 Fa 0 t43 fun t44 =>
 Ld t44 w42 fun t45 =>
 Nc t45 fun t46 =>
 Fa 0 t46 fun t47 =>
 Ld t47 w42 fun t48 =>
 IxA 2 t32 t34 fun t49 =>
 Fa 0 t49 fun t50 =>
 Ld t50 w42 fun t51 =>
 IxA 1 t48 t51 fun t52 =>
 Ld t52 w42 fun t53 =>
 Dr w42 fun w54 =>
 Nc a0 fun t55 =>
 Fa 1 t55 fun t56 =>
 Ld t56 w54 fun t57 =>
 IxA 2 t32 t34 fun t58 =>
 Fa 1 t58 fun t59 =>
 Ld t59 w54 fun t60 =>
 IxA 1 t3 t15 fun t61 =>
 Ld t61 w54 fun t62 =>
 NcF PP (.func (.method "Create") #[t53] #[]) fun t63 =>
 (Iv PP t53 "Create" #[t57, t60, t62, a2, a3] w54 fun t64 w65 =>
 Ex t64 0 fun t66 =>
 Ex t64 1 fun t67 =>
 Ex t64 2 fun t68 =>
 Al Ty.api_Qid #[.int .i64 0, .int .i64 0, .int .i64 0] w65 fun t69 w70 =>
 (Ld t56 w70 fun t71 =>
 t71 = t57) ∧
 (Ld t59 w70 fun t72 =>
 t72 = t60) ∧
 (Ld t61 w70 fun t73 =>
 t73 = t62) ∧
 St PP 3 t69 t67 w70 fun w74 =>
 Bi .neq t68 (.int .i64 0) fun t75 =>
 Cnd t75 (
 R (.tuple #[(.int .i64 0), t68]) w74) (
 Bd #[.nilIface, .int .i64 0] [(0, 1), (1, 1)] [(0, t53), (1, t66)] fun t76 =>
 Ef PP (Instr.buildSlice Ty.sl_space_handle 1 #[(0, t76)]) w74 fun t77 w78 =>
 Ca PP Fn.space_Space_add #[a0, t77] w78 fun t79 w80 =>
 R (.tuple #[t79, (.int .i64 0)]) w80)) ∧ (Al Ty.api_Qid #[.int .i64 0, .int .i64 0, .int .i64 0] w54 fun t81 w82 =>
 (Ld t56 w82 fun t83 =>
 t83 = t57) ∧
 (Ld t59 w82 fun t84 =>
 t84 = t60) ∧
 (Ld t61 w82 fun t85 =>
 t85 = t62) ∧
 Iv PP t53 "Create" #[t57, t60, t62, a2, a3] w82 fun t86 w87 =>
 Ex t86 0 fun t88 =>
 Ex t86 1 fun t89 =>
 Ex t86 2 fun t90 =>
 St PP 3 t81 t89 w87 fun w91 =>
 Bi .neq t90 (.int .i64 0) fun t92 =>
 Cnd t92 (
 R (.tuple #[(.int .i64 0), t90]) w91) (
 Bd #[.nilIface, .int .i64 0] [(0, 1), (1, 1)] [(0, t53), (1, t88)] fun t93 =>
 Ef PP (Instr.buildSlice Ty.sl_space_handle 1 #[(0, t93)]) w91 fun t94 w95 =>
 Ca PP Fn.space_Space_add #[a0, t94] w95 fun t96 w97 =>
 R (.tuple #[t96, (.int .i64 0)]) w97)) ∧ True)))))
def S.space_Space_Create.an : Ann := (.seq .leaf (.seq .leaf (.seq (.seq .leaf (.cond (.seq .leaf .leaf) .leaf)) (.seq (.seq .leaf (.seq .leaf (.cond (.seq .leaf .leaf) .leaf))) (.seq .leaf (.seq .leaf (.seq (.seq .leaf (.cond (.seq .leaf .leaf) .leaf)) (.seq (.draw [[],[0],[0,1],[0,1,2],[],[0,1,2,3,4],[0,1,2,3,4,5],[0,1,2,3,4,5,6],[0,1,2,3,4,5,6],[0,1,2,3,4,5,6,7],[0,1,2,3,4,5,6,7,8,9]] (.calm 0 (.calm 1 (.calm 2 (.calm 3 (.calm 4 (.eff1 5 [] (.calm 6 (.calm 7 (.calm 8 (.calm 9 (.calm 10 .done)))))))))))) (.seq .leaf (.seq (.block (.seq .leaf (.cond (.seq .leaf .leaf) (.seq .leaf (.cond (.seq .leaf .leaf) .leaf))))) (.seq (.draw [[],[0],[0,1],[0,1,2],[0,1,2,3],[0,1,2,3,4],[0,1,2,3,4,5],[],[],[7,8],[7,8,9],[7,8,9,10],[0,1,2,3,4,5,6,7,8,9,10,11],[0,1,2,3,4,5,6,7,8,9,10,11,12],[0,1,2,3,4,5,6,7,8,9,10,11,12,13]] (.calm 0 (.calm 1 (.calm 2 (.calm 3 (.calm 4 (.calm 5 (.calm 6 (.calm 7 (.calm 8 (.calm 9 (.calm 10 (.calm 11 (.calm 12 (.calm 13 (.calm 14 .done)))))))))))))))) (.seq (.draw [[],[],[1],[1,2],[1,2,3],[],[],[5,6],[5,6,7],[5,6,7,8],[],[],[10,11],[10,11,12],[],[],[0],[0,16],[0,16,17],[0,1,2,3,4,5,6,7,8,9,10,11,12,13,14,15,16,17,18],[0,1,2,3,4,5,6,7,8,9,10,11,12,13,14,15,16,17,18,19],[0,1,2,3,4,5,6,7,8,9,10,11,12,13,14,15,16,17,18,19,20],[0,1,2,3,4,5,6,7,8,9,10,11,12,13,14,15,16,17,18,19,20],[0,1,2,3,4,5,6,7,8,9,10,11,12,13,14,15,16,17,18,19,20],[],[0,1,2,3,4,5,6,7,8,9,10,11,12,13,14,15,16,17,18,19,20,21,24],[0,1,2,3,4,5,6,7,8,9,10,11,12,13,14,15,16,17,18,19,20,21,22,24,25],[0,1,2,3,4,5,6,7,8,9,10,11,12,13,14,15,16,17,18,19,20,21,22,23,24,25,26]] (.calm 0 (.calm 1 (.calm 2 (.calm 3 (.calm 4 (.calm 5 (.calm 6 (.calm 7 (.calm 8 (.calm 9 (.calm 10 (.calm 11 (.calm 12 (.calm 13 (.calm 14 (.calm 15 (.calm 16 (.calm 17 (.calm 18 (.effs 19 [] (.calm 20 (.calm 21 (.calm 22 (.calm 23 (.eff1 24 [4,9,13] (.calm 25 (.eff1 26 [] (.calm 27 .done)))))))) (.effs 24 [4,9,13] (.eff1 19 [] (.calm 20 (.calm 21 (.calm 22 (.calm 23 (.calm 25 (.eff1 26 [] (.calm 27 .done)))))))) .none)))))))))))))))))))))) (.seq (.seq .leaf (.cond (.seq .leaf .leaf) .leaf)) (.seq .leaf .leaf))))))))))))))
theorem S.space_Space_Create.eq (a0 a1 a2 a3 : Value) (w : World) (R : Value → World → Prop) : S.space_Space_Create a0 a1 a2 a3 w R = fnC PP 121 (Tryz.f54.body.getD .skip) S.space_Space_Create.an [.tmp 8, .tmp 9] [a0, a1, a2, a3] w R := by kernel_rfl
theorem S.space_Space_Create.calls {a0 a1 a2 a3 : Value} {w : World} {R : Value → World → Prop} (h : S.space_Space_Create a0 a1 a2 a3 w R) : Ca PP Fn.space_Space_Create #[a0, a1, a2, a3] w R :=
  fnC_calls mixed (f := Fn.space_Space_Create) (an := S.space_Space_Create.an) Tryz.func54 rfl (by show _ ≤ _; exact Nat.le_of_ble_eq_true rfl) (S.space_Space_Create.eq a0 a1 a2 a3 w R ▸ h)
/-- (*acheron/space.Space).Write -/
def S.space_Space_Write (a0 a1 a2 a3 : Value) (w : World) (R : Value → World → Prop) : Prop :=
 Ca PP Fn.space_Space_single #[a0, a1] w fun t1 w2 =>
 Ex t1 0 fun t3 =>
 Ex t1 1 fun t4 =>
 Al Ty.space_handle #[.nilIface, .int .i64 0] w2 fun t5 w6 =>
 St PP 2 t5 t3 w6 fun w7 =>
 Bi .neq t4 (.int .i64 0) fun t8 =>
 Cnd t8 (
 R (.tuple #[(.int .i64 0), t4]) w7) (
 Fa 0 t5 fun t9 =>
 Ld t9 w7 fun t10 =>
 Fa 1 t5 fun t11 =>
 Ld t11 w7 fun t12 =>
 Iv PP t10 "Write" #[t12, a2, a3] w7 fun t13 w14 =>
 Ex t13 0 fun t15 =>
 Ex t13 1 fun t16 =>
 R (.tuple #[t15, t16]) w14)
def S.space_Space_Write.an : Ann := (.seq .leaf (.seq .leaf (.seq (.seq .leaf (.cond (.seq .leaf .leaf) .leaf)) (.seq .leaf .leaf))))
theorem S.space_Space_Write.eq (a0 a1 a2 a3 : Value) (w : World) (R : Value → World → Prop) : S.space_Space_Write a0 a1 a2 a3 w R = fnC PP 30 (Tryz.f55.body.getD .skip) S.space_Space_Write.an [.tmp 8, .tmp 9] [a0, a1, a2, a3] w R := by kernel_rfl
theorem S.space_Space_Write.calls {a0 a1 a2 a3 : Value} {w : World} {R : Value → World → Prop} (h : S.space_Space_Write a0 a1 a2 a3 w R) : Ca PP Fn.space_Space_Write #[a0, a1, a2, a3] w R :=
  fnC_calls mixed (f := Fn.space_Space_Write) (an := S.space_Space_Write.an) Tryz.func55 rfl (by show _ ≤ _; exact Nat.le_of_ble_eq_true rfl) (S.space_Space_Write.eq a0 a1 a2 a3 w R ▸ h)
/-- (*acheron/space.Space).Close -/
def S.space_Space_Close (a0 a1 : Value) (w : World) (R : Value → World → Prop) : Prop :=
 Ca PP Fn.space_Space_opened #[a0, a1] w fun t1 w2 =>
 Ex t1 0 fun t3 =>
 Ex t1 1 fun t4 =>
 Bi .neq t4 (.int .i64 0) fun t5 =>
 Cnd t5 (
 R t4 w2) (
 Nc a0 fun t6 =>
 Fa 3 t6 fun t7 =>
 Ld t7 w2 fun t8 =>
 Ef PP (Builtin.delete_ #[Ty.map_int_sl_space_handle, Ty.int] Ty.t #[t8, a1]) w2 fun x_9 w10 =>
 LnL t3 fun t11 =>
 ∃ (I12 : List Value → World → Prop) (m13 : List Value → World → Nat), I12 [(.int .i64 0), (.int .i64 0)] w10 ∧ ∀ t16 t17, ∀ (u14 : Env) (w15 : World), I12 [t16, t17] w15 →
 Bi .lss t17 t11 fun t18 =>
 Cnd t18 (
 ∀ J19 : List Value → World → Prop, (∀ t22, ∀ w21 : World, (∀ u20 : Env,
 Bi .add t17 (.int .i64 1) fun t23 =>
 I12 [t22, t23] w21 ∧ m13 [t22, t23] w21 < m13 [t16, t17] w15) → J19 [t22] w21) →
 IxA 2 t3 t17 fun t24 =>
 LdA PP 2 t24 w15 fun t25 =>
 Al Ty.space_handle #[.nilIface, .int .i64 0] w15 fun t26 w27 =>
 St PP 2 t26 t25 w27 fun w28 =>
 Fa 0 t26 fun t29 =>
 Ld t29 w28 fun t30 =>
 Fa 1 t26 fun t31 =>
 Ld t31 w28 fun t32 =>
 Iv PP t30 "Close" #[t32] w28 fun t33 w34 =>
 Bi .eql t16 (.int .i64 0) fun t35 =>
 Cnd t35 (
 J19 [t33] w34) (
 J19 [t16] w34)) (
 R t16 w15))
def S.space_Space_Close.an : Ann := (.seq .leaf (.seq .leaf (.seq (.seq .leaf (.cond (.seq .leaf .leaf) .leaf)) (.seq .leaf (.seq .leaf (.seq (.seq .leaf (.block (.loop (.seq .leaf (.seq (.cond .leaf .leaf) (.join (.block (.seq .leaf (.seq .leaf (.seq .leaf (.cond .leaf .leaf))))) [7] [9,10,29,30,31,32,33,34,35,36,37,38] .leaf))) [7,27] [9,10,28,29,30,31,32,33,34,35,36,37,38,39]))) (.seq .leaf .leaf)))))))
theorem S.space_Space_Close.eq (a0 a1 : Value) (w : World) (R : Value → World → Prop) : S.space_Space_Close a0 a1 w R = fnC PP 41 (Tryz.f56.body.getD .skip) S.space_Space_Close.an [.tmp 4] [a0, a1] w R := by kernel_rfl
theorem S.space_Space_Close.calls {a0 a1 : Value} {w : World} {R : Value → World → Prop} (h : S.space_Space_Close a0 a1 w R) : Ca PP Fn.space_Space_Close #[a0, a1] w R :=
  fnC_calls mixed (f := Fn.space_Space_Close) (an := S.space_Space_Close.an) Tryz.func56 rfl (by show _ ≤ _; exact Nat.le_of_ble_eq_true rfl) (S.space_Space_Close.eq a0 a1 w R ▸ h)
/-- (*acheron/space.Space).Remove -/
def S.space_Space_Remove (a0 a1 : Value) (w : World) (R : Value → World → Prop) : Prop :=
 Ca PP Fn.space_Space_place #[a0, a1] w fun t1 w2 =>
 Ex t1 0 fun t3 =>
 Ex t1 1 fun t4 =>
 Al Ty.space_Place #[.int .i64 0, .int .i64 0] w2 fun t5 w6 =>
 St PP 2 t5 t3 w6 fun w7 =>
 Bi .neq t4 (.int .i64 0) fun t8 =>
 Cnd t8 (
 R t4 w7) (
 Dr w7 fun w9 =>
 Nc a0 fun t10 =>
 Fa 0 t10 fun t11 =>
 Ld t11 w9 fun t12 =>
 LdA PP 2 t5 w9 fun t13 =>
 Ca PP Fn.space_table_find #[t12, t13] w9 fun t14 w15 =>
 Bi .geq t14 (.int .i64 0) fun t16 =>
 Cnd t16 (
 R (.int .i64 23) w15) (
 Dr w15 fun w17 =>
 Nc a0 fun t18 =>
 Fa 0 t18 fun t19 =>
 Ld t19 w17 fun t20 =>
 Nc t20 fun t21 =>
 Fa 0 t21 fun t22 =>
 Ld t22 w17 fun t23 =>
 Fa 0 t5 fun t24 =>
 Ld t24 w17 fun t25 =>
 IxA 1 t23 t25 fun t26 =>
 Ld t26 w17 fun t27 =>
 Nc a0 fun t28 =>
 Fa 1 t28 fun t29 =>
 Ld t29 w17 fun t30 =>
 Fa 1 t5 fun t31 =>
 Ld t31 w17 fun t32 =>
 Nc t27 fun t33 =>
 Iv PP t27 "Remove" #[t30, t32] w17 fun t34 w35 =>
 R t34 w35))
def S.space_Space_Remove.an : Ann := (.seq .leaf (.seq .leaf (.seq (.block (.seq .leaf (.cond (.seq .leaf .leaf) (.seq (.draw [[],[0],[0,1],[0,1,2],[],[0,1,2,3,4],[0,1,2,3,4,5],[0,1,2,3,4,5,6]] (.calm 0 (.calm 1 (.calm 2 (.calm 3 (.calm 4 (.eff1 5 [] (.calm 6 (.calm 7 .done))))))))) (.cond (.seq .leaf .leaf) .leaf))))) (.seq (.draw [[],[0],[0,1],[0,1,2],[0,1,2,3],[0,1,2,3,4],[0,1,2,3,4,5],[],[7],[0,1,2,3,4,5,6,7,8],[0,1,2,3,4,5,6,7,8,9],[],[11],[11,12],[11,12,13],[],[15],[0,1,2,3,4,5,6,7,8,9,10],[0,1,2,3,4,5,6,7,8,9,10,17],[0,1,2,3,4,5,6,7,8,9,10,11,12,13,14,15,16,17,18],[0,1,2,3,4,5,6,7,8,9,10,11,12,13,14,15,16,17,18,19]] (.calm 0 (.calm 1 (.calm 2 (.calm 3 (.calm 4 (.calm 5 (.calm 6 (.calm 7 (.calm 8 (.calm 9 (.calm 10 (.calm 11 (.calm 12 (.calm 13 (.calm 14 (.calm 15 (.calm 16 (.calm 17 (.calm 18 (.eff1 19 [] (.calm 20 .done)))))))))))))))))))))) .leaf))))
theorem S.space_Space_Remove.eq (a0 a1 : Value) (w : World) (R : Value → World → Prop) : S.space_Space_Remove a0 a1 w R = fnC PP 45 (Tryz.f57.body.getD .skip) S.space_Space_Remove.an [.tmp 4] [a0, a1] w R := by kernel_rfl
theorem S.space_Space_Remove.calls {a0 a1 : Value} {w : World} {R : Value → World → Prop} (h : S.space_Space_Remove a0 a1 w R) : Ca PP Fn.space_Space_Remove #[a0, a1] w R :=
  fnC_calls mixed (f := Fn.space_Space_Remove) (an := S.space_Space_Remove.an) Tryz.func57 rfl (by show _ ≤ _; exact Nat.le_of_ble_eq_true rfl) (S.space_Space_Remove.eq a0 a1 w R ▸ h)
/-- (*acheron/space.Space).place -/
def S.space_Space_place (a0 a1 : Value) (w : World) (R : Value → World → Prop) : Prop :=
 Al Ty.space_Place #[.int .i64 0, .int .i64 0] w fun t1 w2 =>
 Ca PP Fn.space_Space_elements #[a0, a1] w2 fun t3 w4 =>
 Ex t3 0 fun t5 =>
 Ex t3 1 fun t6 =>
 Bi .neq t6 (.int .i64 0) fun t7 =>
 Cnd t7 (
 Bd #[.int .i64 0, .int .i64 0] [(0, 1), (1, 1)] [] fun t8 =>
 St PP 2 t1 t8 w4 fun w9 =>
 LdA PP 2 t1 w9 fun t10 =>
 R (.tuple #[t10, t6]) w9) (
 Ca PP Fn.space_Space_walk #[a0, t5] w4 fun t11 w12 =>
 Ex t11 0 fun t13 =>
 Ex t11 1 fun t14 =>
 St PP 2 t1 t13 w12 fun w15 =>
 LdA PP 2 t1 w15 fun t16 =>
 R (.tuple #[t16, t14]) w15)
def S.space_Space_place.an : Ann := (.seq .leaf (.seq .leaf (.seq (.seq .leaf (.cond (.seq .leaf .leaf) .leaf)) (.seq .leaf .leaf))))
theorem S.space_Space_place.eq (a0 a1 : Value) (w : World) (R : Value → World → Prop) : S.space_Space_place a0 a1 w R = fnC PP 23 (Tryz.f58.body.getD .skip) S.space_Space_place.an [.cell 4 55, .tmp 5] [a0, a1] w R := by kernel_rfl
theorem S.space_Space_place.calls {a0 a1 : Value} {w : World} {R : Value → World → Prop} (h : S.space_Space_place a0 a1 w R) : Ca PP Fn.space_Space_place #[a0, a1] w R :=
  fnC_calls mixed (f := Fn.space_Space_place) (an := S.space_Space_place.an) Tryz.func58 rfl (by show _ ≤ _; exact Nat.le_of_ble_eq_true rfl) (S.space_Space_place.eq a0 a1 w R ▸ h)
/-- (*acheron/space.table).stand -/
def S.space_table_stand (a0 a1 : Value) (w : World) (R : Value → World → Prop) : Prop :=
 Al Ty.space_Place (a1 : Value).cells w fun t1 w2 =>
 LdA PP 2 t1 w2 fun t3 =>
 Ca PP Fn.space_table_find #[a0, t3] w2 fun t4 w5 =>
 Bi .geq t4 (.int .i64 0) fun t6 =>
 Cnd t6 (
 Dr w5 fun w7 =>
 Nc a0 fun t8 =>
 Fa 1 t8 fun t9 =>
 Ld t9 w7 fun t10 =>
 IxA 4 t10 t4 fun t11 =>
 Fa 2 t11 fun t12 =>
 Ld t12 w7 fun t13 =>
 Nc a0 fun t14 =>
 Fa 1 t14 fun t15 =>
 Ld t15 w7 fun t16 =>
 IxA 4 t16 t4 fun t17 =>
 Fa 3 t17 fun t18 =>
 Ld t18 w7 fun t19 =>
 R (.tuple #[t13, t19]) w7) (
 LdA PP 2 t1 w5 fun t20 =>
 Ef PP (Instr.buildSlice Ty.sl_space_Place 1 #[(0, t20)]) w5 fun t21 w22 =>
 Ef PP (Instr.buildSlice Ty.sl_bool 1 #[(0, (.bool true))]) w22 fun t23 w24 =>
 R (.tuple #[t21, t23]) w24)
def S.space_table_stand.an : Ann := (.seq .leaf (.seq (.seq .leaf (.seq .leaf (.cond (.seq (.draw [[],[0],[0,1],[0,1,2],[],[0,1,2,3,4],[0,1,2,3,4,5],[0,1,2,3,4,5,6],[],[8],[8,9],[8,9,10],[],[8,9,10,11,12],[8,9,10,11,12,13],[8,9,10,11,12,13,14],[0,1,2,3,4,5,6,7],[0,1,2,3,4,5,6,7,8,9,10,11,12,13,14,15,16]] (.calm 0 (.calm 1 (.calm 2 (.calm 3 (.calm 4 (.calm 5 (.calm 6 (.calm 7 (.calm 8 (.calm 9 (.calm 10 (.calm 11 (.calm 12 (.calm 13 (.calm 14 (.calm 15 (.calm 16 (.calm 17 .done))))))))))))))))))) .leaf) .leaf))) (.seq .leaf .leaf)))
theorem S.space_table_stand.eq (a0 a1 : Value) (w : World) (R : Value → World → Prop) : S.space_table_stand a0 a1 w R = fnC PP 31 (Tryz.f59.body.getD .skip) S.space_table_stand.an [.tmp 4, .tmp 5] [a0, a1] w R := by kernel_rfl
theorem S.space_table_stand.calls {a0 a1 : Value} {w : World} {R : Value → World → Prop} (h : S.space_table_stand a0 a1 w R) : Ca PP Fn.space_table_stand #[a0, a1] w R :=
  fnC_calls mixed (f := Fn.space_table_stand) (an := S.space_table_stand.an) Tryz.func59 rfl (by show _ ≤ _; exact Nat.le_of_ble_eq_true rfl) (S.space_table_stand.eq a0 a1 w R ▸ h)
/-- slices.Clone[[]acheron/space.Place,acheron/space.Place] -/
def S.slices_Clone_sl_space_Place_space_Place (a0 : Value) (w : World) (R : Value → World → Prop) : Prop :=
 Rd PP (eqS .eql Ty.sl_space_Place (.tmp 3) (.const (.slice none 0 0)) a0 (.slice none 0 0)) w fun t1 =>
 Cnd t1 (
 R (.slice none 0 0) w) (
 Ef PP (Instr.buildSlice Ty.sl_space_Place 0 #[]) w fun t2 w3 =>
 Ef PP (Builtin.append_ #[Ty.sl_space_Place, Ty.sl_space_Place] Ty.sl_space_Place #[t2, a0]) w3 fun t4 w5 =>
 R t4 w5)
def S.slices_Clone_sl_space_Place_space_Place.an : Ann := (.seq .leaf (.seq (.seq .leaf (.cond (.seq .leaf .leaf) .leaf)) (.seq .leaf .leaf)))
theorem S.slices_Clone_sl_space_Place_space_Place.eq (a0 : Value) (w : World) (R : Value → World → Prop) : S.slices_Clone_sl_space_Place_space_Place a0 w R = fnC PP 8 (Tryz.f60.body.getD .skip) S.slices_Clone_sl_space_Place_space_Place.an [.tmp 2] [a0] w R := by kernel_rfl
theorem S.slices_Clone_sl_space_Place_space_Place.calls {a0 : Value} {w : World} {R : Value → World → Prop} (h : S.slices_Clone_sl_space_Place_space_Place a0 w R) : Ca PP Fn.slices_Clone_sl_space_Place_space_Place #[a0] w R :=
  fnC_calls mixed (f := Fn.slices_Clone_sl_space_Place_space_Place) (an := S.slices_Clone_sl_space_Place_space_Place.an) Tryz.func60 rfl (by show _ ≤ _; exact Nat.le_of_ble_eq_true rfl) (S.slices_Clone_sl_space_Place_space_Place.eq a0 w R ▸ h)
/-- (*acheron/space.Space).isDir -/
def S.space_Space_isDir (a0 a1 : Value) (w : World) (R : Value → World → Prop) : Prop :=
 Al Ty.space_Place (a1 : Value).cells w fun t1 w2 =>
 Dr w2 fun w3 =>
 Nc a0 fun t4 =>
 Fa 0 t4 fun t5 =>
 Ld t5 w3 fun t6 =>
 Nc t6 fun t7 =>
 Fa 0 t7 fun t8 =>
 Ld t8 w3 fun t9 =>
 Fa 0 t1 fun t10 =>
 Ld t10 w3 fun t11 =>
 IxA 1 t9 t11 fun t12 =>
 Ld t12 w3 fun t13 =>
 Nc a0 fun t14 =>
 Fa 1 t14 fun t15 =>
 Ld t15 w3 fun t16 =>
 Fa 1 t1 fun t17 =>
 Ld t17 w3 fun t18 =>
 Nc t13 fun t19 =>
 (Iv PP t13 "Stat" #[t16, t18] w3 fun t20 w21 =>
 Ex t20 0 fun t22 =>
 Ex t20 1 fun t23 =>
 Al Ty.api_Dir #[.int .i64 0, .int .i64 0, .int .i64 0, .int .i64 0, .int .i64 0, .int .i64 0, .string ⟨#[]⟩, .string ⟨#[]⟩, .string ⟨#[]⟩, .string ⟨#[]⟩] w21 fun t24 w25 =>
 (Ld t5 w25 fun t26 =>
 t26 = t6) ∧
 (Ld t8 w25 fun t27 =>
 t27 = t9) ∧
 (Ld t10 w25 fun t28 =>
 t28 = t11) ∧
 (Ld t12 w25 fun t29 =>
 t29 = t13) ∧
 (Ld t15 w25 fun t30 =>
 t30 = t16) ∧
 (Ld t17 w25 fun t31 =>
 t31 = t18) ∧
 St PP 10 t24 t22 w25 fun w32 =>
 Fa 3 t24 fun t33 =>
 Ld t33 w32 fun t34 =>
 Bi .and t34 (.int .i64 2147483648) fun t35 =>
 Bi .neq t35 (.int .i64 0) fun t36 =>
 R (.tuple #[t36, t23]) w32) ∧ (Al Ty.api_Dir #[.int .i64 0, .int .i64 0, .int .i64 0, .int .i64 0, .int .i64 0, .int .i64 0, .string ⟨#[]⟩, .string ⟨#[]⟩, .string ⟨#[]⟩, .string ⟨#[]⟩] w3 fun t37 w38 =>
 (Ld t5 w38 fun t39 =>
 t39 = t6) ∧
 (Ld t8 w38 fun t40 =>
 t40 = t9) ∧
 (Ld t10 w38 fun t41 =>
 t41 = t11) ∧
 (Ld t12 w38 fun t42 =>
 t42 = t13) ∧
 (Ld t15 w38 fun t43 =>
 t43 = t16) ∧
 (Ld t17 w38 fun t44 =>
 t44 = t18) ∧
 Iv PP t13 "Stat" #[t16, t18] w38 fun t45 w46 =>
 Ex t45 0 fun t47 =>
 Ex t45 1 fun t48 =>
 St PP 10 t37 t47 w46 fun w49 =>
 Fa 3 t37 fun t50 =>
 Ld t50 w49 fun t51 =>
 Bi .and t51 (.int .i64 2147483648) fun t52 =>
 Bi .neq t52 (.int .i64 0) fun t53 =>
 R (.tuple #[t53, t48]) w49) ∧ True
def S.space_Space_isDir.an : Ann := (.seq .leaf (.seq (.draw [[],[0],[0,1],[0,1,2],[0,1,2,3],[0,1,2,3,4],[0,1,2,3,4,5],[],[7],[0,1,2,3,4,5,6,7,8],[0,1,2,3,4,5,6,7,8,9],[],[11],[11,12],[11,12,13],[],[15],[0,1,2,3,4,5,6,7,8,9,10],[0,1,2,3,4,5,6,7,8,9,10,17],[0,1,2,3,4,5,6,7,8,9,10,11,12,13,14,15,16,17,18],[0,1,2,3,4,5,6,7,8,9,10,11,12,13,14,15,16,17,18,19],[0,1,2,3,4,5,6,7,8,9,10,11,12,13,14,15,16,17,18,19,20],[0,1,2,3,4,5,6,7,8,9,10,11,12,13,14,15,16,17,18,19,20],[],[0,1,2,3,4,5,6,7,8,9,10,11,12,13,14,15,16,17,18,19,20,21,23],[0,1,2,3,4,5,6,7,8,9,10,11,12,13,14,15,16,17,18,19,20,21,22,23,24]] (.calm 0 (.calm 1 (.calm 2 (.calm 3 (.calm 4 (.calm 5 (.calm 6 (.calm 7 (.calm 8 (.calm 9 (.calm 10 (.calm 11 (.calm 12 (.calm 13 (.calm 14 (.calm 15 (.calm 16 (.calm 17 (.calm 18 (.effs 19 [] (.calm 20 (.calm 21 (.calm 22 (.eff1 23 [3,6,8,10,14,16] (.eff1 24 [] (.calm 25 .done)))))) (.effs 23 [3,6,8,10,14,16] (.eff1 19 [] (.calm 20 (.calm 21 (.calm 22 (.eff1 24 [] (.calm 25 .done)))))) .none)))))))))))))))))))))) (.seq .leaf .leaf)))
theorem S.space_Space_isDir.eq (a0 a1 : Value) (w : World) (R : Value → World → Prop) : S.space_Space_isDir a0 a1 w R = fnC PP 36 (Tryz.f61.body.getD .skip) S.space_Space_isDir.an [.tmp 4, .tmp 5] [a0, a1] w R := by kernel_rfl
theorem S.space_Space_isDir.calls {a0 a1 : Value} {w : World} {R : Value → World → Prop} (h : S.space_Space_isDir a0 a1 w R) : Ca PP Fn.space_Space_isDir #[a0, a1] w R :=
  fnC_calls mixed (f := Fn.space_Space_isDir) (an := S.space_Space_isDir.an) Tryz.func61 rfl (by show _ ≤ _; exact Nat.le_of_ble_eq_true rfl) (S.space_Space_isDir.eq a0 a1 w R ▸ h)
/-- (*acheron/space.Space).add -/
def S.space_Space_add (a0 a1 : Value) (w : World) (R : Value → World → Prop) : Prop :=
 ∃ (I1 : List Value → World → Prop) (m2 : List Value → World → Nat), I1 [(.int .i64 0)] w ∧ ∀ t5, ∀ (u3 : Env) (w4 : World), I1 [t5] w4 →
 Nc a0 fun t6 =>
 Fa 3 t6 fun t7 =>
 Ld t7 w4 fun t8 =>
 Rd PP (Instr.lookup Ty.map_int_sl_space_handle t8 t5 false) w4 fun t9 =>
 Rd PP (eqS .neq Ty.sl_space_handle (.tmp 11) (.const (.slice none 0 0)) t9 (.slice none 0 0)) w4 fun t10 =>
 Cnd t10 (
 Bi .add t5 (.int .i64 1) fun t11 =>
 I1 [t11] w4 ∧ m2 [t11] w4 < m2 [t5] w4) (
 Nc a0 fun t12 =>
 Fa 3 t12 fun t13 =>
 Ld t13 w4 fun t14 =>
 Ef PP (Instr.mapUpdate Ty.map_int_sl_space_handle t14 t5 a1) w4 fun _ w15 =>
 R t5 w15)
def S.space_Space_add.an : Ann := (.seq .leaf (.seq .leaf (.seq (.block (.loop (.seq (.seq .leaf (.cond .leaf .leaf)) (.seq (.block .leaf) .leaf)) [5] [6,7,8,9,10,11,12,13,14])) (.seq .leaf (.seq .leaf .leaf)))))
theorem S.space_Space_add.eq (a0 a1 : Value) (w : World) (R : Value → World → Prop) : S.space_Space_add a0 a1 w R = fnC PP 22 (Tryz.f62.body.getD .skip) S.space_Space_add.an [.tmp 4] [a0, a1] w R := by kernel_rfl
theorem S.space_Space_add.calls {a0 a1 : Value} {w : World} {R : Value → World → Prop} (h : S.space_Space_add a0 a1 w R) : Ca PP Fn.space_Space_add #[a0, a1] w R :=
  fnC_calls mixed (f := Fn.space_Space_add) (an := S.space_Space_add.an) Tryz.func62 rfl (by show _ ≤ _; exact Nat.le_of_ble_eq_true rfl) (S.space_Space_add.eq a0 a1 w R ▸ h)
/-- (*acheron/space.Space).opened -/
def S.space_Space_opened (a0 a1 : Value) (w : World) (R : Value → World → Prop) : Prop :=
 Rd PP (eqS .eql Ty.p_space_Space (.tmp 8) (.const (.pointer none)) a0 (.pointer none)) w fun t1 =>
 Cnd t1 (
 R (.tuple #[(.slice none 0 0), (.int .i64 6)]) w) (
 Nc a0 fun t2 =>
 Fa 3 t2 fun t3 =>
 Ld t3 w fun t4 =>
 Rd PP (Instr.lookup Ty.map_int_sl_space_handle t4 a1 true) w fun t5 =>
 Ex t5 0 fun t6 =>
 Ex t5 1 fun t7 =>
 Un .not t7 fun t8 =>
 Cnd t8 (
 R (.tuple #[(.slice none 0 0), (.int .i64 19)]) w) (
 R (.tuple #[t6, (.int .i64 0)]) w))
def S.space_Space_opened.an : Ann := (.seq .leaf (.seq (.seq .leaf (.cond (.seq .leaf .leaf) .leaf)) (.seq .leaf (.seq (.seq .leaf (.cond (.seq .leaf .leaf) .leaf)) (.seq .leaf .leaf)))))
theorem S.space_Space_opened.eq (a0 a1 : Value) (w : World) (R : Value → World → Prop) : S.space_Space_opened a0 a1 w R = fnC PP 22 (Tryz.f63.body.getD .skip) S.space_Space_opened.an [.tmp 4, .tmp 5] [a0, a1] w R := by kernel_rfl
theorem S.space_Space_opened.calls {a0 a1 : Value} {w : World} {R : Value → World → Prop} (h : S.space_Space_opened a0 a1 w R) : Ca PP Fn.space_Space_opened #[a0, a1] w R :=
  fnC_calls mixed (f := Fn.space_Space_opened) (an := S.space_Space_opened.an) Tryz.func63 rfl (by show _ ≤ _; exact Nat.le_of_ble_eq_true rfl) (S.space_Space_opened.eq a0 a1 w R ▸ h)
/-- (*acheron/tree.Tree).find -/
def S.tree_Tree_find (a0 a1 : Value) (w : World) (R : Value → World → Prop) : Prop :=
 Rd PP (eqS .eql Ty.p_tree_Tree (.tmp 8) (.const (.pointer none)) a0 (.pointer none)) w fun t1 =>
 Cnd t1 (
 R (.tuple #[(.pointer none), (.int .i64 6)]) w) (
 Nc a0 fun t2 =>
 Fa 1 t2 fun t3 =>
 Ld t3 w fun t4 =>
 Rd PP (Instr.lookup Ty.map_int64_p_tree_node t4 a1 true) w fun t5 =>
 Ex t5 0 fun t6 =>
 Ex t5 1 fun t7 =>
 Cnd t7 (
 R (.tuple #[t6, (.int .i64 0)]) w) (
 R (.tuple #[(.pointer none), (.int .i64 4)]) w))
def S.tree_Tree_find.an : Ann := (.seq .leaf (.seq (.seq .leaf (.cond (.seq .leaf .leaf) .leaf)) (.seq (.seq .leaf (.seq .leaf (.cond (.seq .leaf .leaf) .leaf))) (.seq .leaf .leaf))))
theorem S.tree_Tree_find.eq (a0 a1 : Value) (w : World) (R : Value → World → Prop) : S.tree_Tree_find a0 a1 w R = fnC PP 21 (Tryz.f64.body.getD .skip) S.tree_Tree_find.an [.tmp 4, .tmp 5] [a0, a1] w R := by kernel_rfl
theorem S.tree_Tree_find.calls {a0 a1 : Value} {w : World} {R : Value → World → Prop} (h : S.tree_Tree_find a0 a1 w R) : Ca PP Fn.tree_Tree_find #[a0, a1] w R :=
  fnC_calls mixed (f := Fn.tree_Tree_find) (an := S.tree_Tree_find.an) Tryz.func64 rfl (by show _ ≤ _; exact Nat.le_of_ble_eq_true rfl) (S.tree_Tree_find.eq a0 a1 w R ▸ h)
/-- (*acheron/tree.node).isDir -/
def S.tree_node_isDir (a0 : Value) (w : World) (R : Value → World → Prop) : Prop :=
 Nc a0 fun t1 =>
 Fa 0 t1 fun t2 =>
 Fa 3 t2 fun t3 =>
 Ld t3 w fun t4 =>
 Bi .and t4 (.int .i64 2147483648) fun t5 =>
 Bi .neq t5 (.int .i64 0) fun t6 =>
 R t6 w
def S.tree_node_isDir.an : Ann := (.seq .leaf (.seq .leaf .leaf))
theorem S.tree_node_isDir.eq (a0 : Value) (w : World) (R : Value → World → Prop) : S.tree_node_isDir a0 w R = fnC PP 10 (Tryz.f65.body.getD .skip) S.tree_node_isDir.an [.tmp 2] [a0] w R := by kernel_rfl
theorem S.tree_node_isDir.calls {a0 : Value} {w : World} {R : Value → World → Prop} (h : S.tree_node_isDir a0 w R) : Ca PP Fn.tree_node_isDir #[a0] w R :=
  fnC_calls mixed (f := Fn.tree_node_isDir) (an := S.tree_node_isDir.an) Tryz.func65 rfl (by show _ ≤ _; exact Nat.le_of_ble_eq_true rfl) (S.tree_node_isDir.eq a0 w R ▸ h)
/-- (*acheron/tree.Tree).may -/
def S.tree_Tree_may (a0 a1 a2 a3 : Value) (w : World) (R : Value → World → Prop) : Prop :=
 Dr w fun w1 =>
 Nc a2 fun t2 =>
 Fa 0 t2 fun t3 =>
 Fa 3 t3 fun t4 =>
 Ld t4 w1 fun t5 =>
 Nc a2 fun t6 =>
 Fa 0 t6 fun t7 =>
 Fa 7 t7 fun t8 =>
 Ld t8 w1 fun t9 =>
 Bi .eql a1 t9 fun t10 =>
 Nc a2 fun t11 =>
 Fa 0 t11 fun t12 =>
 Fa 8 t12 fun t13 =>
 Ld t13 w1 fun t14 =>
 Ca PP Fn.tree_Tree_member #[a0, a1, t14] w1 fun t15 w16 =>
 (Ld t4 w16 fun t17 =>
 t17 = t5) ∧
 (Ld t8 w16 fun t18 =>
 t18 = t9) ∧
 Ca PP Fn.tree_Permits #[t5, t10, t15, a3] w16 fun t19 w20 =>
 R t19 w20
def S.tree_Tree_may.an : Ann := (.seq .leaf (.seq (.draw [[],[0],[0,1],[0,1,2],[0,1,2,3],[],[],[6],[6,7],[6,7,8],[6,7,8,9],[5,6,7,8,9,10],[],[],[],[14],[14,15],[14,15,16],[14,15,16,17],[12,13,14,15,16,17,18],[],[0,1,2,3,4,5,6,7,8,9,10,11,12,13,14,15,16,17,18,19,20],[0,1,2,3,4,5,6,7,8,9,10,11,12,13,14,15,16,17,18,19,20,21]] (.calm 0 (.calm 1 (.calm 2 (.calm 3 (.calm 4 (.calm 5 (.calm 6 (.calm 7 (.calm 8 (.calm 9 (.calm 10 (.calm 11 (.calm 12 (.calm 13 (.calm 14 (.calm 15 (.calm 16 (.calm 17 (.calm 18 (.calm 20 (.eff1 19 [4,10] (.eff1 21 [] (.calm 22 .done)))))))))))))))))))))))) .leaf))
theorem S.tree_Tree_may.eq (a0 a1 a2 a3 : Value) (w : World) (R : Value → World → Prop) : S.tree_Tree_may a0 a1 a2 a3 w R = fnC PP 31 (Tryz.f66.body.getD .skip) S.tree_Tree_may.an [.tmp 8] [a0, a1, a2, a3] w R := by kernel_rfl
theorem S.tree_Tree_may.calls {a0 a1 a2 a3 : Value} {w : World} {R : Value → World → Prop} (h : S.tree_Tree_may a0 a1 a2 a3 w R) : Ca PP Fn.tree_Tree_may #[a0, a1, a2, a3] w R :=
  fnC_calls mixed (f := Fn.tree_Tree_may) (an := S.tree_Tree_may.an) Tryz.func66 rfl (by show _ ≤ _; exact Nat.le_of_ble_eq_true rfl) (S.tree_Tree_may.eq a0 a1 a2 a3 w R ▸ h)
/-- (*acheron/tree.Tree).room -/
def S.tree_Tree_room (a0 : Value) (w : World) (R : Value → World → Prop) : Prop :=
 Nc a0 fun t1 =>
 Fa 5 t1 fun t2 =>
 Ld t2 w fun t3 =>
 Rd PP (Builtin.len_ #[Ty.map_int_tree_handle] Ty.int #[t3]) w fun t4 =>
 Bi .lss t4 (.int .i64 64) fun t5 =>
 R t5 w
def S.tree_Tree_room.an : Ann := (.seq .leaf (.seq .leaf .leaf))
theorem S.tree_Tree_room.eq (a0 : Value) (w : World) (R : Value → World → Prop) : S.tree_Tree_room a0 w R = fnC PP 9 (Tryz.f67.body.getD .skip) S.tree_Tree_room.an [.tmp 2] [a0] w R := by kernel_rfl
theorem S.tree_Tree_room.calls {a0 : Value} {w : World} {R : Value → World → Prop} (h : S.tree_Tree_room a0 w R) : Ca PP Fn.tree_Tree_room #[a0] w R :=
  fnC_calls mixed (f := Fn.tree_Tree_room) (an := S.tree_Tree_room.an) Tryz.func67 rfl (by show _ ≤ _; exact Nat.le_of_ble_eq_true rfl) (S.tree_Tree_room.eq a0 w R ▸ h)
/-- (*acheron/tree.Tree).change -/
def S.tree_Tree_change (a0 a1 a2 : Value) (w : World) (R : Value → World → Prop) : Prop :=
 Nc a0 fun t1 =>
 Fa 4 t1 fun t2 =>
 Ld t2 w fun t3 =>
 Bi .add t3 (.int .i64 1) fun t4 =>
 Nc a0 fun t5 =>
 Fa 4 t5 fun t6 =>
 St PP 1 t6 t4 w fun w7 =>
 LnL a2 fun t8 =>
 ∃ (I9 : List Value → World → Prop) (m10 : List Value → World → Nat), I9 [(.int .i64 0)] w7 ∧ ∀ t13, ∀ (u11 : Env) (w12 : World), I9 [t13] w12 →
 Bi .lss t13 t8 fun t14 =>
 Cnd t14 (
 IxA 1 a2 t13 fun t15 =>
 Ld t15 w12 fun t16 =>
 Nc t16 fun t17 =>
 Fa 0 t17 fun t18 =>
 Fa 0 t18 fun t19 =>
 Fa 1 t19 fun t20 =>
 Ld t20 w12 fun t21 =>
 Bi .add t21 (.int .i64 1) fun t22 =>
 Nc t16 fun t23 =>
 Fa 0 t23 fun t24 =>
 Fa 0 t24 fun t25 =>
 Fa 1 t25 fun t26 =>
 St PP 1 t26 t22 w12 fun w27 =>
 Nc a0 fun t28 =>
 Fa 4 t28 fun t29 =>
 Ld t29 w27 fun t30 =>
 Nc t16 fun t31 =>
 Fa 0 t31 fun t32 =>
 Fa 4 t32 fun t33 =>
 St PP 1 t33 t30 w27 fun w34 =>
 Nc t16 fun t35 =>
 Fa 0 t35 fun t36 =>
 Fa 9 t36 fun t37 =>
 St PP 1 t37 a1 w34 fun w38 =>
 Bi .add t13 (.int .i64 1) fun t39 =>
 I9 [t39] w38 ∧ m10 [t39] w38 < m10 [t13] w12) (
 R (.tuple #[]) w12)
def S.tree_Tree_change.an : Ann := (.seq .leaf (.seq .leaf (.block (.loop (.seq .leaf (.seq (.cond .leaf .leaf) (.seq (.block (.seq .leaf (.seq .leaf .leaf))) .leaf))) [17] [7,18,19,20,21,22,23,24,25,26,27,28,29,30,31,32,33,34,35,36,37,38,39,40,41,42,43,44,45]))))
theorem S.tree_Tree_change.eq (a0 a1 a2 : Value) (w : World) (R : Value → World → Prop) : S.tree_Tree_change a0 a1 a2 w R = fnC PP 46 (Tryz.f68.body.getD .skip) S.tree_Tree_change.an [] [a0, a1, a2] w R := by kernel_rfl
theorem S.tree_Tree_change.calls {a0 a1 a2 : Value} {w : World} {R : Value → World → Prop} (h : S.tree_Tree_change a0 a1 a2 w R) : Ca PP Fn.tree_Tree_change #[a0, a1, a2] w R :=
  fnC_calls mixed (f := Fn.tree_Tree_change) (an := S.tree_Tree_change.an) Tryz.func68 rfl (by show _ ≤ _; exact Nat.le_of_ble_eq_true rfl) (S.tree_Tree_change.eq a0 a1 a2 w R ▸ h)
/-- (*acheron/tree.Tree).handle -/
def S.tree_Tree_handle (a0 a1 a2 a3 : Value) (w : World) (R : Value → World → Prop) : Prop :=
 Al Ty.api_Qid #[.int .i64 0, .int .i64 0, .int .i64 0] w fun t1 w2 =>
 ∃ (I3 : List Value → World → Prop) (m4 : List Value → World → Nat), I3 [(.int .i64 1)] w2 ∧ ∀ t7, ∀ (u5 : Env) (w6 : World), I3 [t7] w6 →
 Nc a0 fun t8 =>
 Fa 5 t8 fun t9 =>
 Ld t9 w6 fun t10 =>
 Rd PP (Instr.lookup Ty.map_int_tree_handle t10 t7 false) w6 fun t11 =>
 Fi 0 t11 fun t12 =>
 Rd PP (eqS .neq Ty.p_tree_node (.tmp 18) (.const (.pointer none)) t12 (.pointer none)) w6 fun t13 =>
 Cnd t13 (
 Bi .add t7 (.int .i64 1) fun t14 =>
 I3 [t14] w6 ∧ m4 [t14] w6 < m4 [t7] w6) (
 Nc a0 fun t15 =>
 Fa 5 t15 fun t16 =>
 Ld t16 w6 fun t17 =>
 Bd #[.pointer none, .int .i64 0, .string ⟨#[]⟩] [(0, 1), (1, 1), (2, 1)] [(0, a1), (1, a2), (2, a3)] fun t18 =>
 Ef PP (Instr.mapUpdate Ty.map_int_tree_handle t17 t7 t18) w6 fun _ w19 =>
 Dr w19 fun w20 =>
 Nc a1 fun t21 =>
 Fa 0 t21 fun t22 =>
 Fa 0 t22 fun t23 =>
 LdA PP 3 t23 w20 fun t24 =>
 St PP 3 t1 t24 w20 fun w25 =>
 LdA PP 3 t1 w25 fun t26 =>
 R (.tuple #[t7, t26, (.int .i64 0)]) w25)
def S.tree_Tree_handle.an : Ann := (.seq .leaf (.seq .leaf (.seq (.block (.loop (.seq (.seq .leaf (.cond .leaf .leaf)) (.seq (.block .leaf) .leaf)) [11] [12,13,14,15,16,17,18,19,20,21])) (.seq .leaf (.seq (.draw [[],[],[1],[1,2],[1,2,3],[1,2,3,4],[0],[0,1,2,3,4,5,6],[0,1,2,3,4,5,6,7]] (.calm 0 (.calm 1 (.calm 2 (.calm 3 (.calm 4 (.calm 5 (.calm 6 (.eff1 7 [] (.calm 8 .done)))))))))) .leaf)))))
theorem S.tree_Tree_handle.eq (a0 a1 a2 a3 : Value) (w : World) (R : Value → World → Prop) : S.tree_Tree_handle a0 a1 a2 a3 w R = fnC PP 37 (Tryz.f69.body.getD .skip) S.tree_Tree_handle.an [.tmp 8, .cell 9 37, .tmp 10] [a0, a1, a2, a3] w R := by kernel_rfl
theorem S.tree_Tree_handle.calls {a0 a1 a2 a3 : Value} {w : World} {R : Value → World → Prop} (h : S.tree_Tree_handle a0 a1 a2 a3 w R) : Ca PP Fn.tree_Tree_handle #[a0, a1, a2, a3] w R :=
  fnC_calls mixed (f := Fn.tree_Tree_handle) (an := S.tree_Tree_handle.an) Tryz.func69 rfl (by show _ ≤ _; exact Nat.le_of_ble_eq_true rfl) (S.tree_Tree_handle.eq a0 a1 a2 a3 w R ▸ h)
/-- (*acheron/tree.Tree).opened -/
def S.tree_Tree_opened (a0 a1 : Value) (w : World) (R : Value → World → Prop) : Prop :=
 Al Ty.tree_handle #[.pointer none, .int .i64 0, .string ⟨#[]⟩] w fun t1 w2 =>
 Rd PP (eqS .eql Ty.p_tree_Tree (.tmp 8) (.const (.pointer none)) a0 (.pointer none)) w2 fun t3 =>
 Cnd t3 (
 Bd #[.pointer none, .int .i64 0, .string ⟨#[]⟩] [(0, 1), (1, 1), (2, 1)] [] fun t4 =>
 St PP 3 t1 t4 w2 fun w5 =>
 LdA PP 3 t1 w5 fun t6 =>
 R (.tuple #[t6, (.int .i64 6)]) w5) (
 Nc a0 fun t7 =>
 Fa 5 t7 fun t8 =>
 Ld t8 w2 fun t9 =>
 Rd PP (Instr.lookup Ty.map_int_tree_handle t9 a1 true) w2 fun t10 =>
 Ex t10 0 fun t11 =>
 Ex t10 1 fun t12 =>
 Al Ty.tree_handle #[.pointer none, .int .i64 0, .string ⟨#[]⟩] w2 fun t13 w14 =>
 St PP 3 t13 t11 w14 fun w15 =>
 Cnd t12 (
 LdA PP 3 t13 w15 fun t16 =>
 St PP 3 t1 t16 w15 fun w17 =>
 LdA PP 3 t1 w17 fun t18 =>
 R (.tuple #[t18, (.int .i64 0)]) w17) (
 Bd #[.pointer none, .int .i64 0, .string ⟨#[]⟩] [(0, 1), (1, 1), (2, 1)] [] fun t19 =>
 St PP 3 t1 t19 w15 fun w20 =>
 LdA PP 3 t1 w20 fun t21 =>
 R (.tuple #[t21, (.int .i64 19)]) w20))
def S.tree_Tree_opened.an : Ann := (.seq .leaf (.seq (.seq .leaf (.cond (.seq .leaf .leaf) .leaf)) (.seq (.seq .leaf (.seq .leaf (.cond (.seq .leaf .leaf) .leaf))) (.seq .leaf .leaf))))
theorem S.tree_Tree_opened.eq (a0 a1 : Value) (w : World) (R : Value → World → Prop) : S.tree_Tree_opened a0 a1 w R = fnC PP 23 (Tryz.f70.body.getD .skip) S.tree_Tree_opened.an [.cell 4 152, .tmp 5] [a0, a1] w R := by kernel_rfl
theorem S.tree_Tree_opened.calls {a0 a1 : Value} {w : World} {R : Value → World → Prop} (h : S.tree_Tree_opened a0 a1 w R) : Ca PP Fn.tree_Tree_opened #[a0, a1] w R :=
  fnC_calls mixed (f := Fn.tree_Tree_opened) (an := S.tree_Tree_opened.an) Tryz.func70 rfl (by show _ ≤ _; exact Nat.le_of_ble_eq_true rfl) (S.tree_Tree_opened.eq a0 a1 w R ▸ h)
/-- (*acheron/tree.node).sorted -/
def S.tree_node_sorted (a0 : Value) (w : World) (R : Value → World → Prop) : Prop :=
 Al Ty.p_tree_node (a0 : Value).cells w fun t1 w2 =>
 R (.func (.func Fn.tree_node_sorted_1) #[] #[t1]) w2
def S.tree_node_sorted.an : Ann := (.seq .leaf (.seq .leaf .leaf))
theorem S.tree_node_sorted.eq (a0 : Value) (w : World) (R : Value → World → Prop) : S.tree_node_sorted a0 w R = fnC PP 4 (Tryz.f71.body.getD .skip) S.tree_node_sorted.an [.tmp 2] [a0] w R := by kernel_rfl
theorem S.tree_node_sorted.calls {a0 : Value} {w : World} {R : Value → World → Prop} (h : S.tree_node_sorted a0 w R) : Ca PP Fn.tree_node_sorted #[a0] w R :=
  fnC_calls mixed (f := Fn.tree_node_sorted) (an := S.tree_node_sorted.an) Tryz.func71 rfl (by show _ ≤ _; exact Nat.le_of_ble_eq_true rfl) (S.tree_node_sorted.eq a0 w R ▸ h)
/-- (*acheron/tree.node).stat -/
def S.tree_node_stat (a0 : Value) (w : World) (R : Value → World → Prop) : Prop :=
 Al Ty.api_Dir #[.int .i64 0, .int .i64 0, .int .i64 0, .int .i64 0, .int .i64 0, .int .i64 0, .string ⟨#[]⟩, .string ⟨#[]⟩, .string ⟨#[]⟩, .string ⟨#[]⟩] w fun t1 w2 =>
 Nc a0 fun t3 =>
 Fa 0 t3 fun t4 =>
 LdA PP 10 t4 w2 fun t5 =>
 Al Ty.api_Dir #[.int .i64 0, .int .i64 0, .int .i64 0, .int .i64 0, .int .i64 0, .int .i64 0, .string ⟨#[]⟩, .string ⟨#[]⟩, .string ⟨#[]⟩, .string ⟨#[]⟩] w2 fun t6 w7 =>
 St PP 10 t6 t5 w7 fun w8 =>
 Nc a0 fun t9 =>
 Fa 10 t9 fun t10 =>
 Ld t10 w8 fun t11 =>
 LnL t11 fun t12 =>
 Fa 5 t6 fun t13 =>
 St PP 1 t13 t12 w8 fun w14 =>
 LdA PP 10 t6 w14 fun t15 =>
 St PP 10 t1 t15 w14 fun w16 =>
 LdA PP 10 t1 w16 fun t17 =>
 R t17 w16
def S.tree_node_stat.an : Ann := (.seq .leaf (.seq .leaf (.seq .leaf (.seq .leaf .leaf))))
theorem S.tree_node_stat.eq (a0 : Value) (w : World) (R : Value → World → Prop) : S.tree_node_stat a0 w R = fnC PP 15 (Tryz.f72.body.getD .skip) S.tree_node_stat.an [.cell 2 39] [a0] w R := by kernel_rfl
theorem S.tree_node_stat.calls {a0 : Value} {w : World} {R : Value → World → Prop} (h : S.tree_node_stat a0 w R) : Ca PP Fn.tree_node_stat #[a0] w R :=
  fnC_calls mixed (f := Fn.tree_node_stat) (an := S.tree_node_stat.an) Tryz.func72 rfl (by show _ ≤ _; exact Nat.le_of_ble_eq_true rfl) (S.tree_node_stat.eq a0 w R ▸ h)
/-- (*acheron/tree.Tree).folder -/
def S.tree_Tree_folder (a0 a1 : Value) (w : World) (R : Value → World → Prop) : Prop :=
 Ca PP Fn.tree_Tree_find #[a0, a1] w fun t1 w2 =>
 Ex t1 0 fun t3 =>
 Ex t1 1 fun t4 =>
 ∀ J5 : List Value → World → Prop, (∀ t8, ∀ w7 : World, (∀ u6 : Env,
 Cnd t8 (
 R (.tuple #[(.pointer none), (.int .i64 18)]) w7) (
 R (.tuple #[t3, t4]) w7)) → J5 [t8] w7) →
 Bi .eql t4 (.int .i64 0) fun t9 =>
 Gd t9 true (fun k10 => k10 t3 w2) w2 fun t11 w12 =>
 Gd t9 true (fun k13 => Ca PP Fn.tree_node_isDir #[t11] w12 fun t16 w17 =>
 k13 t16 w17) w12 fun t14 w15 =>
 Gd t9 true (fun k18 => Un .not t14 fun t21 =>
 k18 t21 w15) w15 fun t19 w20 =>
 Pk t9 t19 (.bool false) fun t22 =>
 J5 [t22] w20
def S.tree_Tree_folder.an : Ann := (.seq .leaf (.seq .leaf (.seq (.join .leaf [20] [14,15,16,17,18,19] (.cond (.seq .leaf .leaf) .leaf)) (.seq .leaf .leaf))))
theorem S.tree_Tree_folder.eq (a0 a1 : Value) (w : World) (R : Value → World → Prop) : S.tree_Tree_folder a0 a1 w R = fnC PP 23 (Tryz.f74.body.getD .skip) S.tree_Tree_folder.an [.tmp 4, .tmp 5] [a0, a1] w R := by kernel_rfl
theorem S.tree_Tree_folder.calls {a0 a1 : Value} {w : World} {R : Value → World → Prop} (h : S.tree_Tree_folder a0 a1 w R) : Ca PP Fn.tree_Tree_folder #[a0, a1] w R :=
  fnC_calls mixed (f := Fn.tree_Tree_folder) (an := S.tree_Tree_folder.an) Tryz.func74 rfl (by show _ ≤ _; exact Nat.le_of_ble_eq_true rfl) (S.tree_Tree_folder.eq a0 a1 w R ▸ h)
/-- acheron/tree.Valid -/
def S.tree_Valid (a0 : Value) (w : World) (R : Value → World → Prop) : Prop :=
 LnS a0 fun t1 =>
 ∃ (I2 : List Value → World → Prop) (m3 : List Value → World → Nat), I2 [(.int .i64 0)] w ∧ ∀ t6, ∀ (u4 : Env) (w5 : World), I2 [t6] w5 →
 Bi .lss t6 t1 fun t7 =>
 Cnd t7 (
 IxS a0 t6 fun t8 =>
 ∀ J9 : List Value → World → Prop, (∀ t12, ∀ w11 : World, (∀ u10 : Env,
 Cnd t12 (
 R (.bool false) w11) (
 Bi .add t6 (.int .i64 1) fun t13 =>
 I2 [t13] w11 ∧ m3 [t13] w11 < m3 [t6] w5)) → J9 [t12] w11) →
 Bi .lss t8 (.int .u8 33) fun t14 =>
 Gd t14 false (fun k15 => k15 t8 w5) w5 fun t16 w17 =>
 Gd t14 false (fun k18 => Bi .gtr t16 (.int .u8 126) fun t21 =>
 k18 t21 w17) w17 fun t19 w20 =>
 Pk t14 (.bool true) t19 fun t22 =>
 Gd t22 false (fun k23 => k23 t8 w20) w20 fun t24 w25 =>
 Gd t22 false (fun k26 => Bi .eql t24 (.int .u8 47) fun t29 =>
 k26 t29 w25) w25 fun t27 w28 =>
 Pk t22 (.bool true) t27 fun t30 =>
 J9 [t30] w28) (
 ∀ J31 : List Value → World → Prop, (∀ t34, ∀ w33 : World, (∀ u32 : Env,
 R t34 w33) → J31 [t34] w33) →
 Bi .neq a0 (.string ⟨#[]⟩) fun t35 =>
 Gd t35 true (fun k36 => k36 a0 w5) w5 fun t37 w38 =>
 Gd t35 true (fun k39 => LnS t37 fun t42 =>
 k39 t42 w38) w38 fun t40 w41 =>
 Gd t35 true (fun k43 => Bi .leq t40 (.int .i64 40) fun t46 =>
 k43 t46 w41) w41 fun t44 w45 =>
 Pk t35 t44 (.bool false) fun t47 =>
 Gd t47 true (fun k48 => k48 a0 w45) w45 fun t49 w50 =>
 Gd t47 true (fun k51 => Bi .neq t49 (.string ⟨#[46]⟩) fun t54 =>
 k51 t54 w50) w50 fun t52 w53 =>
 Pk t47 t52 (.bool false) fun t55 =>
 Gd t55 true (fun k56 => k56 a0 w53) w53 fun t57 w58 =>
 Gd t55 true (fun k59 => Bi .neq t57 (.string ⟨#[46, 46]⟩) fun t62 =>
 k59 t62 w58) w58 fun t60 w61 =>
 Pk t55 t60 (.bool false) fun t63 =>
 J31 [t63] w61)
def S.tree_Valid.an : Ann := (.seq .leaf (.seq (.seq .leaf (.block (.loop (.seq .leaf (.seq (.cond .leaf .leaf) (.seq (.block (.seq .leaf (.seq .leaf (.join .leaf [22] [13,14,15,16,17,18,19,20,21] (.cond (.seq .leaf .leaf) .leaf))))) .leaf))) [7] [2,3,4,8,9,10,11,12,13,14,15,16,17,18,19,20,21,22,23]))) (.join .leaf [2] [24,25,26,27,28,29,30,31,32,33,34,35,36,37,38] .leaf)))
theorem S.tree_Valid.eq (a0 : Value) (w : World) (R : Value → World → Prop) : S.tree_Valid a0 w R = fnC PP 39 (Tryz.f75.body.getD .skip) S.tree_Valid.an [.tmp 2] [a0] w R := by kernel_rfl
theorem S.tree_Valid.calls {a0 : Value} {w : World} {R : Value → World → Prop} (h : S.tree_Valid a0 w R) : Ca PP Fn.tree_Valid #[a0] w R :=
  fnC_calls mixed (f := Fn.tree_Valid) (an := S.tree_Valid.an) Tryz.func75 rfl (by show _ ≤ _; exact Nat.le_of_ble_eq_true rfl) (S.tree_Valid.eq a0 w R ▸ h)
/-- slices.IndexFunc[[]acheron/space.Mount,acheron/space.Mount] -/
def S.slices_IndexFunc_sl_space_Mount_space_Mount (a0 a1 : Value) (w : World) (R : Value → World → Prop) : Prop :=
 LnL a0 fun t1 =>
 ∃ (I2 : List Value → World → Prop) (m3 : List Value → World → Nat), I2 [(.int .i64 0)] w ∧ ∀ t6, ∀ (u4 : Env) (w5 : World), I2 [t6] w5 →
 Bi .lss t6 t1 fun t7 =>
 Cnd t7 (
 IxA 4 a0 t6 fun t8 =>
 LdA PP 4 t8 w5 fun t9 =>
 CaV PP a1 #[t9] w5 fun t10 w11 =>
 Cnd t10 (
 R t6 w11) (
 Bi .add t6 (.int .i64 1) fun t12 =>
 I2 [t12] w11 ∧ m3 [t12] w11 < m3 [t6] w5)) (
 R (.int .i64 (-1)) w5)
def S.slices_IndexFunc_sl_space_Mount_space_Mount.an : Ann := (.seq .leaf (.seq (.seq .leaf (.block (.loop (.seq .leaf (.seq (.cond .leaf .leaf) (.seq (.block (.seq .leaf (.seq .leaf (.cond (.seq .leaf .leaf) .leaf)))) .leaf))) [8] [4,5,9,10,11,12,13,14,15,16,17,18]))) (.seq .leaf .leaf)))
theorem S.slices_IndexFunc_sl_space_Mount_space_Mount.eq (a0 a1 : Value) (w : World) (R : Value → World → Prop) : S.slices_IndexFunc_sl_space_Mount_space_Mount a0 a1 w R = fnC PP 19 (Tryz.f76.body.getD .skip) S.slices_IndexFunc_sl_space_Mount_space_Mount.an [.tmp 4] [a0, a1] w R := by kernel_rfl
theorem S.slices_IndexFunc_sl_space_Mount_space_Mount.calls {a0 a1 : Value} {w : World} {R : Value → World → Prop} (h : S.slices_IndexFunc_sl_space_Mount_space_Mount a0 a1 w R) : Ca PP Fn.slices_IndexFunc_sl_space_Mount_space_Mount #[a0, a1] w R :=
  fnC_calls mixed (f := Fn.slices_IndexFunc_sl_space_Mount_space_Mount) (an := S.slices_IndexFunc_sl_space_Mount_space_Mount.an) Tryz.func76 rfl (by show _ ≤ _; exact Nat.le_of_ble_eq_true rfl) (S.slices_IndexFunc_sl_space_Mount_space_Mount.eq a0 a1 w R ▸ h)
/-- slices.IndexFunc[[]string,string] -/
def S.slices_IndexFunc_sl_string_string (a0 a1 : Value) (w : World) (R : Value → World → Prop) : Prop :=
 LnL a0 fun t1 =>
 ∃ (I2 : List Value → World → Prop) (m3 : List Value → World → Nat), I2 [(.int .i64 0)] w ∧ ∀ t6, ∀ (u4 : Env) (w5 : World), I2 [t6] w5 →
 Bi .lss t6 t1 fun t7 =>
 Cnd t7 (
 IxA 1 a0 t6 fun t8 =>
 Ld t8 w5 fun t9 =>
 CaV PP a1 #[t9] w5 fun t10 w11 =>
 Cnd t10 (
 R t6 w11) (
 Bi .add t6 (.int .i64 1) fun t12 =>
 I2 [t12] w11 ∧ m3 [t12] w11 < m3 [t6] w5)) (
 R (.int .i64 (-1)) w5)
def S.slices_IndexFunc_sl_string_string.an : Ann := (.seq .leaf (.seq (.seq .leaf (.block (.loop (.seq .leaf (.seq (.cond .leaf .leaf) (.seq (.block (.seq .leaf (.seq .leaf (.cond (.seq .leaf .leaf) .leaf)))) .leaf))) [8] [4,5,9,10,11,12,13,14,15,16,17,18]))) (.seq .leaf .leaf)))
theorem S.slices_IndexFunc_sl_string_string.eq (a0 a1 : Value) (w : World) (R : Value → World → Prop) : S.slices_IndexFunc_sl_string_string a0 a1 w R = fnC PP 19 (Tryz.f78.body.getD .skip) S.slices_IndexFunc_sl_string_string.an [.tmp 4] [a0, a1] w R := by kernel_rfl
theorem S.slices_IndexFunc_sl_string_string.calls {a0 a1 : Value} {w : World} {R : Value → World → Prop} (h : S.slices_IndexFunc_sl_string_string a0 a1 w R) : Ca PP Fn.slices_IndexFunc_sl_string_string #[a0, a1] w R :=
  fnC_calls mixed (f := Fn.slices_IndexFunc_sl_string_string) (an := S.slices_IndexFunc_sl_string_string.an) Tryz.func78 rfl (by show _ ≤ _; exact Nat.le_of_ble_eq_true rfl) (S.slices_IndexFunc_sl_string_string.eq a0 a1 w R ▸ h)
/-- slices.Index[[]acheron/space.Place,acheron/space.Place] -/
def S.slices_Index_sl_space_Place_space_Place (a0 a1 : Value) (w : World) (R : Value → World → Prop) : Prop :=
 Al Ty.space_Place (a1 : Value).cells w fun t1 w2 =>
 LnL a0 fun t3 =>
 ∃ (I4 : List Value → World → Prop) (m5 : List Value → World → Nat), I4 [(.int .i64 0)] w2 ∧ ∀ t8, ∀ (u6 : Env) (w7 : World), I4 [t8] w7 →
 Bi .lss t8 t3 fun t9 =>
 Cnd t9 (
 Dr w7 fun w10 =>
 LdA PP 2 t1 w10 fun t11 =>
 IxA 2 a0 t8 fun t12 =>
 LdA PP 2 t12 w10 fun t13 =>
 Rd PP (eqS .eql Ty.space_Place (.tmp 11) (.tmp 15) t11 t13) w10 fun t14 =>
 Cnd t14 (
 R t8 w10) (
 Bi .add t8 (.int .i64 1) fun t15 =>
 I4 [t15] w10 ∧ m5 [t15] w10 < m5 [t8] w7)) (
 R (.int .i64 (-1)) w7)
def S.slices_Index_sl_space_Place_space_Place.an : Ann := (.seq .leaf (.seq (.seq .leaf (.block (.loop (.seq .leaf (.seq (.cond .leaf .leaf) (.seq (.block (.seq .leaf (.seq (.draw [[],[],[],[1,2],[1,2,3],[0,1,2,3,4]] (.calm 0 (.calm 1 (.calm 2 (.calm 3 (.calm 4 (.calm 5 .done))))))) (.cond (.seq .leaf .leaf) .leaf)))) .leaf))) [8] [4,5,9,10,11,12,13,14,15,16,17,18]))) (.seq .leaf .leaf)))
theorem S.slices_Index_sl_space_Place_space_Place.eq (a0 a1 : Value) (w : World) (R : Value → World → Prop) : S.slices_Index_sl_space_Place_space_Place a0 a1 w R = fnC PP 19 (Tryz.f79.body.getD .skip) S.slices_Index_sl_space_Place_space_Place.an [.tmp 4] [a0, a1] w R := by kernel_rfl
theorem S.slices_Index_sl_space_Place_space_Place.calls {a0 a1 : Value} {w : World} {R : Value → World → Prop} (h : S.slices_Index_sl_space_Place_space_Place a0 a1 w R) : Ca PP Fn.slices_Index_sl_space_Place_space_Place #[a0, a1] w R :=
  fnC_calls mixed (f := Fn.slices_Index_sl_space_Place_space_Place) (an := S.slices_Index_sl_space_Place_space_Place.an) Tryz.func79 rfl (by show _ ≤ _; exact Nat.le_of_ble_eq_true rfl) (S.slices_Index_sl_space_Place_space_Place.eq a0 a1 w R ▸ h)
/-- acheron/space.flags -/
def S.space_flags (a0 : Value) (w : World) (R : Value → World → Prop) : Prop :=
 Bi .andNot a0 (.int .i64 4) fun t1 =>
 Bi .and a0 (.int .i64 4) fun t2 =>
 Bi .neq t2 (.int .i64 0) fun t3 =>
 ∀ J4 : List Value → World → Prop, (∀ t7 t8 t9, ∀ w6 : World, (∀ u5 : Env,
 R (.tuple #[t7, t8, t9]) w6) → J4 [t7, t8, t9] w6) →
 Bi .geq a0 (.int .i64 0) fun t10 =>
 Gd t10 true (fun k11 => k11 t1 w) w fun t12 w13 =>
 Gd t10 true (fun k14 => Bi .leq t12 (.int .i64 2) fun t17 =>
 k14 t17 w13) w13 fun t15 w16 =>
 Pk t10 t15 (.bool false) fun t18 =>
 J4 [t1, t3, t18] w16
def S.space_flags.an : Ann := (.seq .leaf (.seq .leaf (.join .leaf [2,3,4] [10,11,12,13,14,15,16,17] .leaf)))
theorem S.space_flags.eq (a0 : Value) (w : World) (R : Value → World → Prop) : S.space_flags a0 w R = fnC PP 18 (Tryz.f80.body.getD .skip) S.space_flags.an [.tmp 2, .tmp 3, .tmp 4] [a0] w R := by kernel_rfl
theorem S.space_flags.calls {a0 : Value} {w : World} {R : Value → World → Prop} (h : S.space_flags a0 w R) : Ca PP Fn.space_flags #[a0] w R :=
  fnC_calls mixed (f := Fn.space_flags) (an := S.space_flags.an) Tryz.func80 rfl (by show _ ≤ _; exact Nat.le_of_ble_eq_true rfl) (S.space_flags.eq a0 w R ▸ h)
/-- slices.ContainsFunc[[]acheron/space.Place,acheron/space.Place] -/
def S.slices_ContainsFunc_sl_space_Place_space_Place (a0 a1 : Value) (w : World) (R : Value → World → Prop) : Prop :=
 Ca PP Fn.slices_IndexFunc_sl_space_Place_space_Place #[a0, a1] w fun t1 w2 =>
 Bi .geq t1 (.int .i64 0) fun t3 =>
 R t3 w2
def S.slices_ContainsFunc_sl_space_Place_space_Place.an : Ann := (.seq .leaf (.seq .leaf .leaf))
theorem S.slices_ContainsFunc_sl_space_Place_space_Place.eq (a0 a1 : Value) (w : World) (R : Value → World → Prop) : S.slices_ContainsFunc_sl_space_Place_space_Place a0 a1 w R = fnC PP 9 (Tryz.f81.body.getD .skip) S.slices_ContainsFunc_sl_space_Place_space_Place.an [.tmp 4] [a0, a1] w R := by kernel_rfl
theorem S.slices_ContainsFunc_sl_space_Place_space_Place.calls {a0 a1 : Value} {w : World} {R : Value → World → Prop} (h : S.slices_ContainsFunc_sl_space_Place_space_Place a0 a1 w R) : Ca PP Fn.slices_ContainsFunc_sl_space_Place_space_Place #[a0, a1] w R :=
  fnC_calls mixed (f := Fn.slices_ContainsFunc_sl_space_Place_space_Place) (an := S.slices_ContainsFunc_sl_space_Place_space_Place.an) Tryz.func81 rfl (by show _ ≤ _; exact Nat.le_of_ble_eq_true rfl) (S.slices_ContainsFunc_sl_space_Place_space_Place.eq a0 a1 w R ▸ h)
/-- (*acheron/space.Space).Bind$1 -/
def S.space_Space_Bind_1 (a0 a1 : Value) (w : World) (R : Value → World → Prop) : Prop :=
 Al Ty.space_Place (a0 : Value).cells w fun t1 w2 =>
 Ld a1 w2 fun t3 =>
 LdA PP 2 t1 w2 fun t4 =>
 Ca PP Fn.slices_Contains_sl_space_Place_space_Place #[t3, t4] w2 fun t5 w6 =>
 R t5 w6
def S.space_Space_Bind_1.an : Ann := (.seq .leaf (.seq .leaf .leaf))
theorem S.space_Space_Bind_1.eq (a0 a1 : Value) (w : World) (R : Value → World → Prop) : S.space_Space_Bind_1 a0 a1 w R = fnC PP 7 (Tryz.f82.body.getD .skip) S.space_Space_Bind_1.an [.tmp 3] [a0, a1] w R := by kernel_rfl
theorem S.space_Space_Bind_1.calls {a0 a1 : Value} {w : World} {R : Value → World → Prop} (h : S.space_Space_Bind_1 a0 a1 w R) : Ca PP Fn.space_Space_Bind_1 #[a0, a1] w R :=
  fnC_calls mixed (f := Fn.space_Space_Bind_1) (an := S.space_Space_Bind_1.an) Tryz.func82 rfl (by show _ ≤ _; exact Nat.le_of_ble_eq_true rfl) (S.space_Space_Bind_1.eq a0 a1 w R ▸ h)
/-- (*acheron/space.Space).set -/
def S.space_Space_set (a0 a1 a2 a3 a4 : Value) (w : World) (R : Value → World → Prop) : Prop :=
 Al Ty.space_Place (a1 : Value).cells w fun t1 w2 =>
 Ef PP (Instr.buildSlice Ty.sl_bool 1 #[(0, a3)]) w2 fun t3 w4 =>
 LnL a2 fun t5 =>
 Ca PP Fn.slices_Repeat_sl_bool_bool #[t3, t5] w4 fun t6 w7 =>
 Dr w7 fun w8 =>
 Nc a0 fun t9 =>
 Fa 0 t9 fun t10 =>
 Ld t10 w8 fun t11 =>
 LdA PP 2 t1 w8 fun t12 =>
 Ca PP Fn.space_table_stand #[t11, t12] w8 fun t13 w14 =>
 Ex t13 0 fun t15 =>
 Ex t13 1 fun t16 =>
 ∀ J17 : List Value → World → Prop, (∀ t20 t21, ∀ w19 : World, (∀ u18 : Env,
 Dr w19 fun w22 =>
 Nc a0 fun t23 =>
 Fa 0 t23 fun t24 =>
 Ld t24 w22 fun t25 =>
 LdA PP 2 t1 w22 fun t26 =>
 Ca PP Fn.space_table_find #[t25, t26] w22 fun t27 w28 =>
 ∀ J29 : List Value → World → Prop, (∀ t32, ∀ w31 : World, (∀ u30 : Env,
 Cnd t32 (
 R (.int .i64 3) w31) (
 Dr w31 fun w33 =>
 LdA PP 2 t1 w33 fun t34 =>
 (Ca PP Fn.slices_Clone_sl_space_Place_space_Place #[t20] w33 fun t35 w36 =>
 (LdA PP 2 t1 w36 fun t37 =>
 t37 = t34) ∧
 Bd #[.int .i64 0, .int .i64 0, .slice none 0 0, .slice none 0 0] [(0, 2), (2, 1), (3, 1)] [(0, t34), (1, t35), (2, t21)] fun t38 =>
 Al Ty.space_Mount #[.int .i64 0, .int .i64 0, .slice none 0 0, .slice none 0 0] w36 fun t39 w40 =>
 (LdA PP 2 t1 w40 fun t41 =>
 t41 = t34) ∧
 St PP 4 t39 t38 w40 fun w42 =>
 ∀ J43 : List Value → World → Prop, (∀ w45 : World, (∀ u44 : Env,
 R (.int .i64 0) w45) → J43 [] w45) →
 Bi .geq t27 (.int .i64 0) fun t46 =>
 Cnd t46 (
 Dr w42 fun w47 =>
 Nc a0 fun t48 =>
 Fa 0 t48 fun t49 =>
 Ld t49 w47 fun t50 =>
 Nc t50 fun t51 =>
 Fa 1 t51 fun t52 =>
 Ld t52 w47 fun t53 =>
 LdA PP 4 t39 w47 fun t54 =>
 IxA 4 t53 t27 fun t55 =>
 St PP 4 t55 t54 w47 fun w56 =>
 J43 [] w56) (
 Dr w42 fun w57 =>
 Nc a0 fun t58 =>
 Fa 0 t58 fun t59 =>
 Ld t59 w57 fun t60 =>
 Nc a0 fun t61 =>
 Fa 0 t61 fun t62 =>
 Ld t62 w57 fun t63 =>
 Nc t63 fun t64 =>
 Fa 1 t64 fun t65 =>
 Ld t65 w57 fun t66 =>
 LdA PP 4 t39 w57 fun t67 =>
 Ef PP (Instr.buildSlice Ty.sl_space_Mount 1 #[(0, t67)]) w57 fun t68 w69 =>
 (Ld t59 w69 fun t70 =>
 t70 = t60) ∧
 (Ld t62 w69 fun t71 =>
 t71 = t63) ∧
 (Ld t65 w69 fun t72 =>
 t72 = t66) ∧
 Ef PP (Builtin.append_ #[Ty.sl_space_Mount, Ty.sl_space_Mount] Ty.sl_space_Mount #[t66, t68]) w69 fun t73 w74 =>
 (Ld t59 w74 fun t75 =>
 t75 = t60) ∧
 Nc t60 fun t76 =>
 Fa 1 t76 fun t77 =>
 St PP 1 t77 t73 w74 fun w78 =>
 J43 [] w78)) ∧ (Al Ty.space_Mount #[.int .i64 0, .int .i64 0, .slice none 0 0, .slice none 0 0] w33 fun t79 w80 =>
 (LdA PP 2 t1 w80 fun t81 =>
 t81 = t34) ∧
 Ca PP Fn.slices_Clone_sl_space_Place_space_Place #[t20] w80 fun t82 w83 =>
 (LdA PP 2 t1 w83 fun t84 =>
 t84 = t34) ∧
 Bd #[.int .i64 0, .int .i64 0, .slice none 0 0, .slice none 0 0] [(0, 2), (2, 1), (3, 1)] [(0, t34), (1, t82), (2, t21)] fun t85 =>
 St PP 4 t79 t85 w83 fun w86 =>
 ∀ J87 : List Value → World → Prop, (∀ w89 : World, (∀ u88 : Env,
 R (.int .i64 0) w89) → J87 [] w89) →
 Bi .geq t27 (.int .i64 0) fun t90 =>
 Cnd t90 (
 Dr w86 fun w91 =>
 Nc a0 fun t92 =>
 Fa 0 t92 fun t93 =>
 Ld t93 w91 fun t94 =>
 Nc t94 fun t95 =>
 Fa 1 t95 fun t96 =>
 Ld t96 w91 fun t97 =>
 LdA PP 4 t79 w91 fun t98 =>
 IxA 4 t97 t27 fun t99 =>
 St PP 4 t99 t98 w91 fun w100 =>
 J87 [] w100) (
 Dr w86 fun w101 =>
 Nc a0 fun t102 =>
 Fa 0 t102 fun t103 =>
 Ld t103 w101 fun t104 =>
 Nc a0 fun t105 =>
 Fa 0 t105 fun t106 =>
 Ld t106 w101 fun t107 =>
 Nc t107 fun t108 =>
 Fa 1 t108 fun t109 =>
 Ld t109 w101 fun t110 =>
 LdA PP 4 t79 w101 fun t111 =>
 Ef PP (Instr.buildSlice Ty.sl_space_Mount 1 #[(0, t111)]) w101 fun t112 w113 =>
 (Ld t103 w113 fun t114 =>
 t114 = t104) ∧
 (Ld t106 w113 fun t115 =>
 t115 = t107) ∧
 (Ld t109 w113 fun t116 =>
 t116 = t110) ∧
 Ef PP (Builtin.append_ #[Ty.sl_space_Mount, Ty.sl_space_Mount] Ty.sl_space_Mount #[t110, t112]) w113 fun t117 w118 =>
 (Ld t103 w118 fun t119 =>
 t119 = t104) ∧
 Nc t104 fun t120 =>
 Fa 1 t120 fun t121 =>
 St PP 1 t121 t117 w118 fun w122 =>
 J87 [] w122)) ∧ True)) → J29 [t32] w31) →
 LnL t20 fun t123 =>
 Bi .gtr t123 (.int .i64 16) fun t124 =>
 Gd t124 false (fun k125 => k125 t27 w28) w28 fun t126 w127 =>
 Gd t124 false (fun k128 => Bi .lss t126 (.int .i64 0) fun t131 =>
 k128 t131 w127) w127 fun t129 w130 =>
 Gd t124 false (fun k132 => k132 t129 w130) w130 fun t133 w134 =>
 Gd t133 true (fun k135 => k135 a0 w134) w134 fun t136 w137 =>
 Gd t133 true (fun k138 => Nc t136 fun t141 =>
 k138 t141 w137) w137 fun t139 w140 =>
 Gd t133 true (fun k142 => Fa 0 t139 fun t145 =>
 k142 t145 w140) w140 fun t143 w144 =>
 Gd t133 true (fun k146 => Ld t143 w144 fun t149 =>
 k146 t149 w144) w144 fun t147 w148 =>
 Gd t133 true (fun k150 => Nc t147 fun t153 =>
 k150 t153 w148) w148 fun t151 w152 =>
 Gd t133 true (fun k154 => Fa 1 t151 fun t157 =>
 k154 t157 w152) w152 fun t155 w156 =>
 Gd t133 true (fun k158 => Ld t155 w156 fun t161 =>
 k158 t161 w156) w156 fun t159 w160 =>
 Gd t133 true (fun k162 => LnL t159 fun t165 =>
 k162 t165 w160) w160 fun t163 w164 =>
 Gd t133 true (fun k166 => Bi .geq t163 (.int .i64 64) fun t169 =>
 k166 t169 w164) w164 fun t167 w168 =>
 Gd t124 false (fun k170 => Pk t133 t167 (.bool false) fun t173 =>
 k170 t173 w168) w168 fun t171 w172 =>
 Pk t124 (.bool true) t171 fun t174 =>
 J29 [t174] w172) → J17 [t20, t21] w19) →
 Bi .eql a4 (.int .i64 1) fun t175 =>
 Cnd t175 (
 Ef PP (Instr.buildSlice Ty.sl_sl_space_Place 2 #[(0, a2), (1, t15)]) w14 fun t176 w177 =>
 Ca PP Fn.slices_Concat_sl_space_Place_space_Place #[t176] w177 fun t178 w179 =>
 Ef PP (Instr.buildSlice Ty.sl_sl_bool 2 #[(0, t6), (1, t16)]) w179 fun t180 w181 =>
 Ca PP Fn.slices_Concat_sl_bool_bool #[t180] w181 fun t182 w183 =>
 J17 [t178, t182] w183) (
 Bi .eql a4 (.int .i64 2) fun t184 =>
 Cnd t184 (
 Ef PP (Instr.buildSlice Ty.sl_sl_space_Place 2 #[(0, t15), (1, a2)]) w14 fun t185 w186 =>
 Ca PP Fn.slices_Concat_sl_space_Place_space_Place #[t185] w186 fun t187 w188 =>
 Ef PP (Instr.buildSlice Ty.sl_sl_bool 2 #[(0, t16), (1, t6)]) w188 fun t189 w190 =>
 Ca PP Fn.slices_Concat_sl_bool_bool #[t189] w190 fun t191 w192 =>
 J17 [t187, t191] w192) (
 J17 [a2, t6] w14))
def S.space_Space_set.an : Ann := (.seq .leaf (.seq .leaf (.seq (.draw [[],[0],[0,1],[0,1,2],[],[0,1,2,3,4],[0,1,2,3,4,5],[0,1,2,3,4,5,6],[0,1,2,3,4,5,6],[0,1,2,3,4,5,6,7],[0,1,2,3,4,5,6,7,8,9]] (.calm 0 (.calm 1 (.calm 2 (.calm 3 (.calm 4 (.eff1 5 [] (.calm 6 (.calm 7 (.calm 8 (.calm 9 (.calm 10 .done)))))))))))) (.join (.seq .leaf (.block (.seq .leaf (.cond .leaf (.seq .leaf (.cond .leaf .leaf)))))) [2,11] [30,31,32,33,34,35,36,37,38,39,40,41,42,43,44,45,46,47,48,49,50] (.seq (.draw [[],[0],[0,1],[0,1,2],[],[0,1,2,3,4],[0,1,2,3,4,5]] (.calm 0 (.calm 1 (.calm 2 (.calm 3 (.calm 4 (.eff1 5 [] (.calm 6 .done)))))))) (.seq (.join .leaf [74] [57,58,59,60,61,62,63,64,65,66,67,68,69,70,71,72,73] (.cond (.seq .leaf .leaf) .leaf)) (.seq (.draw [[],[],[1],[],[0,1,2,3],[],[0,1,2,3,4,5]] (.calm 0 (.calm 1 (.calm 3 (.effs 2 [0] (.calm 4 (.eff1 5 [0] (.eff1 6 [] .done))) (.effs 5 [0] (.eff1 2 [0] (.calm 4 (.eff1 6 [] .done))) .none)))))) (.join (.seq .leaf (.cond (.draw [[],[0],[0,1],[0,1,2],[0,1,2,3],[0,1,2,3,4],[0,1,2,3,4,5],[],[],[0,1,2,3,4,5,6,7,8],[0,1,2,3,4,5,6,7,8,9]] (.calm 0 (.calm 1 (.calm 2 (.calm 3 (.calm 4 (.calm 5 (.calm 6 (.calm 7 (.calm 8 (.calm 9 (.eff1 10 [] .done)))))))))))) (.draw [[],[0],[0,1],[0,1,2],[],[4],[4,5],[4,5,6],[4,5,6,7],[4,5,6,7,8],[4,5,6,7,8,9],[],[11],[4,5,6,7,8,9,10,11,12],[0,1,2,3,4,5,6,7,8,9,10,11,12,13],[0,1,2,3,4,5,6,7,8,9,10,11,12,13,14],[0,1,2,3,4,5,6,7,8,9,10,11,12,13,14,15]] (.calm 0 (.calm 1 (.calm 2 (.calm 3 (.calm 4 (.calm 5 (.calm 6 (.calm 7 (.calm 8 (.calm 9 (.calm 10 (.calm 11 (.eff1 12 [3,7,10] (.eff1 13 [3] (.calm 14 (.calm 15 (.eff1 16 [] .done)))))))))))))))))))) [] [80,81,82,83,84,85,86,87,88,89,90,91,92,93,94,95,96,97,98,99,100,101,102,103,104,105,106,107] (.seq .leaf .leaf)))))))))
theorem S.space_Space_set.eq (a0 a1 a2 a3 a4 : Value) (w : World) (R : Value → World → Prop) : S.space_Space_set a0 a1 a2 a3 a4 w R = fnC PP 108 (Tryz.f83.body.getD .skip) S.space_Space_set.an [.tmp 10] [a0, a1, a2, a3, a4] w R := by kernel_rfl
theorem S.space_Space_set.calls {a0 a1 a2 a3 a4 : Value} {w : World} {R : Value → World → Prop} (h : S.space_Space_set a0 a1 a2 a3 a4 w R) : Ca PP Fn.space_Space_set #[a0, a1, a2, a3, a4] w R :=
  fnC_calls mixed (f := Fn.space_Space_set) (an := S.space_Space_set.an) Tryz.func83 rfl (by show _ ≤ _; exact Nat.le_of_ble_eq_true rfl) (S.space_Space_set.eq a0 a1 a2 a3 a4 w R ▸ h)
/-- (*acheron/space.table).find -/
def S.space_table_find (a0 a1 : Value) (w : World) (R : Value → World → Prop) : Prop :=
 Al Ty.space_Place (a1 : Value).cells w fun t1 w2 =>
 Nc a0 fun t3 =>
 Fa 1 t3 fun t4 =>
 Ld t4 w2 fun t5 =>
 Ca PP Fn.slices_IndexFunc_sl_space_Mount_space_Mount #[t5, (.func (.func Fn.space_table_find_1) #[] #[t1])] w2 fun t6 w7 =>
 R t6 w7
def S.space_table_find.an : Ann := (.seq .leaf (.seq .leaf .leaf))
theorem S.space_table_find.eq (a0 a1 : Value) (w : World) (R : Value → World → Prop) : S.space_table_find a0 a1 w R = fnC PP 11 (Tryz.f87.body.getD .skip) S.space_table_find.an [.tmp 4] [a0, a1] w R := by kernel_rfl
theorem S.space_table_find.calls {a0 a1 : Value} {w : World} {R : Value → World → Prop} (h : S.space_table_find a0 a1 w R) : Ca PP Fn.space_table_find #[a0, a1] w R :=
  fnC_calls mixed (f := Fn.space_table_find) (an := S.space_table_find.an) Tryz.func87 rfl (by show _ ≤ _; exact Nat.le_of_ble_eq_true rfl) (S.space_table_find.eq a0 a1 w R ▸ h)
/-- slices.Clone[[]bool,bool] -/
def S.slices_Clone_sl_bool_bool (a0 : Value) (w : World) (R : Value → World → Prop) : Prop :=
 Rd PP (eqS .eql Ty.sl_bool (.tmp 3) (.const (.slice none 0 0)) a0 (.slice none 0 0)) w fun t1 =>
 Cnd t1 (
 R (.slice none 0 0) w) (
 Ef PP (Instr.buildSlice Ty.sl_bool 0 #[]) w fun t2 w3 =>
 Ef PP (Builtin.append_ #[Ty.sl_bool, Ty.sl_bool] Ty.sl_bool #[t2, a0]) w3 fun t4 w5 =>
 R t4 w5)
def S.slices_Clone_sl_bool_bool.an : Ann := (.seq .leaf (.seq (.seq .leaf (.cond (.seq .leaf .leaf) .leaf)) (.seq .leaf .leaf)))
theorem S.slices_Clone_sl_bool_bool.eq (a0 : Value) (w : World) (R : Value → World → Prop) : S.slices_Clone_sl_bool_bool a0 w R = fnC PP 8 (Tryz.f90.body.getD .skip) S.slices_Clone_sl_bool_bool.an [.tmp 2] [a0] w R := by kernel_rfl
theorem S.slices_Clone_sl_bool_bool.calls {a0 : Value} {w : World} {R : Value → World → Prop} (h : S.slices_Clone_sl_bool_bool a0 w R) : Ca PP Fn.slices_Clone_sl_bool_bool #[a0] w R :=
  fnC_calls mixed (f := Fn.slices_Clone_sl_bool_bool) (an := S.slices_Clone_sl_bool_bool.an) Tryz.func90 rfl (by show _ ≤ _; exact Nat.le_of_ble_eq_true rfl) (S.slices_Clone_sl_bool_bool.eq a0 w R ▸ h)
/-- (*acheron/space.Space).single -/
def S.space_Space_single (a0 a1 : Value) (w : World) (R : Value → World → Prop) : Prop :=
 Al Ty.space_handle #[.nilIface, .int .i64 0] w fun t1 w2 =>
 Ca PP Fn.space_Space_opened #[a0, a1] w2 fun t3 w4 =>
 Ex t3 0 fun t5 =>
 Ex t3 1 fun t6 =>
 Bi .neq t6 (.int .i64 0) fun t7 =>
 Cnd t7 (
 Bd #[.nilIface, .int .i64 0] [(0, 1), (1, 1)] [] fun t8 =>
 St PP 2 t1 t8 w4 fun w9 =>
 LdA PP 2 t1 w9 fun t10 =>
 R (.tuple #[t10, t6]) w9) (
 LnL t5 fun t11 =>
 Bi .gtr t11 (.int .i64 1) fun t12 =>
 Cnd t12 (
 Bd #[.nilIface, .int .i64 0] [(0, 1), (1, 1)] [] fun t13 =>
 St PP 2 t1 t13 w4 fun w14 =>
 LdA PP 2 t1 w14 fun t15 =>
 R (.tuple #[t15, (.int .i64 18)]) w14) (
 IxA 2 t5 (.int .i64 0) fun t16 =>
 LdA PP 2 t16 w4 fun t17 =>
 St PP 2 t1 t17 w4 fun w18 =>
 LdA PP 2 t1 w18 fun t19 =>
 R (.tuple #[t19, (.int .i64 0)]) w18))
def S.space_Space_single.an : Ann := (.seq .leaf (.seq .leaf (.seq (.block (.seq .leaf (.cond (.seq .leaf .leaf) (.seq .leaf (.cond (.seq .leaf .leaf) .leaf))))) (.seq .leaf .leaf))))
theorem S.space_Space_single.eq (a0 a1 : Value) (w : World) (R : Value → World → Prop) : S.space_Space_single a0 a1 w R = fnC PP 27 (Tryz.f95.body.getD .skip) S.space_Space_single.an [.cell 4 132, .tmp 5] [a0, a1] w R := by kernel_rfl
theorem S.space_Space_single.calls {a0 a1 : Value} {w : World} {R : Value → World → Prop} (h : S.space_Space_single a0 a1 w R) : Ca PP Fn.space_Space_single #[a0, a1] w R :=
  fnC_calls mixed (f := Fn.space_Space_single) (an := S.space_Space_single.an) Tryz.func95 rfl (by show _ ≤ _; exact Nat.le_of_ble_eq_true rfl) (S.space_Space_single.eq a0 a1 w R ▸ h)
/-- slices.IndexFunc[[]acheron/acheronlaw29.Act,acheron/acheronlaw29.Act] -/
def S.slices_IndexFunc_sl_law29_Act_law29_Act (a0 a1 : Value) (w : World) (R : Value → World → Prop) : Prop :=
 LnL a0 fun t1 =>
 ∃ (I2 : List Value → World → Prop) (m3 : List Value → World → Nat), I2 [(.int .i64 0)] w ∧ ∀ t6, ∀ (u4 : Env) (w5 : World), I2 [t6] w5 →
 Bi .lss t6 t1 fun t7 =>
 Cnd t7 (
 IxA 18 a0 t6 fun t8 =>
 LdA PP 18 t8 w5 fun t9 =>
 CaV PP a1 #[t9] w5 fun t10 w11 =>
 Cnd t10 (
 R t6 w11) (
 Bi .add t6 (.int .i64 1) fun t12 =>
 I2 [t12] w11 ∧ m3 [t12] w11 < m3 [t6] w5)) (
 R (.int .i64 (-1)) w5)
def S.slices_IndexFunc_sl_law29_Act_law29_Act.an : Ann := (.seq .leaf (.seq (.seq .leaf (.block (.loop (.seq .leaf (.seq (.cond .leaf .leaf) (.seq (.block (.seq .leaf (.seq .leaf (.cond (.seq .leaf .leaf) .leaf)))) .leaf))) [8] [4,5,9,10,11,12,13,14,15,16,17,18]))) (.seq .leaf .leaf)))
theorem S.slices_IndexFunc_sl_law29_Act_law29_Act.eq (a0 a1 : Value) (w : World) (R : Value → World → Prop) : S.slices_IndexFunc_sl_law29_Act_law29_Act a0 a1 w R = fnC PP 19 (Tryz.f97.body.getD .skip) S.slices_IndexFunc_sl_law29_Act_law29_Act.an [.tmp 4] [a0, a1] w R := by kernel_rfl
theorem S.slices_IndexFunc_sl_law29_Act_law29_Act.calls {a0 a1 : Value} {w : World} {R : Value → World → Prop} (h : S.slices_IndexFunc_sl_law29_Act_law29_Act a0 a1 w R) : Ca PP Fn.slices_IndexFunc_sl_law29_Act_law29_Act #[a0, a1] w R :=
  fnC_calls mixed (f := Fn.slices_IndexFunc_sl_law29_Act_law29_Act) (an := S.slices_IndexFunc_sl_law29_Act_law29_Act.an) Tryz.func97 rfl (by show _ ≤ _; exact Nat.le_of_ble_eq_true rfl) (S.slices_IndexFunc_sl_law29_Act_law29_Act.eq a0 a1 w R ▸ h)
/-- acheron/tree.New -/
def S.tree_New (a0 a1 : Value) (w : World) (R : Value → World → Prop) : Prop :=
 Ef PP (Instr.buildSlice Ty.sl_string 1 #[(0, a0)]) w fun t1 w2 =>
 Ca PP Fn.tree_check #[a1, t1] w2 fun t3 w4 =>
 Bi .neq t3 (.int .i64 0) fun t5 =>
 Cnd t5 (
 R (.tuple #[(.pointer none), t3]) w4) (
 Ca PP Fn.tree_empty #[a1] w4 fun t6 w7 =>
 MkM w7 fun t8 w9 =>
 Bd #[.int .i64 0, .int .i64 0, .int .i64 0, .int .i64 0, .int .i64 0, .int .i64 0, .string ⟨#[]⟩, .string ⟨#[]⟩, .string ⟨#[]⟩, .string ⟨#[]⟩, .slice none 0 0, .map none, .pointer none, .bool false] [(0, 10), (10, 1), (11, 1), (12, 1), (13, 1)] [(2, t8)] fun t10 =>
 Al Ty.tree_node (t10 : Value).cells w9 fun t11 w12 =>
 Nc t6 fun t13 =>
 Fa 0 t13 fun t14 =>
 St PP 1 t14 t11 w12 fun w15 =>
 Nc t6 fun t16 =>
 Fa 0 t16 fun t17 =>
 Ld t17 w15 fun t18 =>
 Bd #[.int .i64 0, .int .i64 0, .int .i64 0, .int .i64 0, .int .i64 0, .int .i64 0, .string ⟨#[]⟩, .string ⟨#[]⟩, .string ⟨#[]⟩, .string ⟨#[]⟩] [(0, 3), (3, 1), (4, 1), (5, 1), (6, 1), (7, 1), (8, 1), (9, 1)] [(5, a0), (6, a0), (7, a0)] fun t19 =>
 Nc t18 fun t20 =>
 Fa 0 t20 fun t21 =>
 St PP 10 t21 t19 w15 fun w22 =>
 Nc t6 fun t23 =>
 Fa 0 t23 fun t24 =>
 Ld t24 w22 fun t25 =>
 Ca PP Fn.tree_node_is #[t25, (.int .i64 2147484157)] w22 fun t26 w27 =>
 Dr w27 fun w28 =>
 Nc t6 fun t29 =>
 Fa 1 t29 fun t30 =>
 Ld t30 w28 fun t31 =>
 Nc t6 fun t32 =>
 Fa 0 t32 fun t33 =>
 Ld t33 w28 fun t34 =>
 Ef PP (Instr.mapUpdate Ty.map_int64_p_tree_node t31 (.int .i64 0) t34) w28 fun _ w35 =>
 R (.tuple #[t6, (.int .i64 0)]) w35)
def S.tree_New.an : Ann := (.seq .leaf (.seq (.seq .leaf (.seq .leaf (.cond (.seq .leaf .leaf) .leaf))) (.seq .leaf (.seq .leaf (.seq .leaf (.seq .leaf (.seq (.draw [[],[0],[0,1],[0,1,2],[],[4],[4,5],[4,5,6],[0,1,2,3,4,5,6,7]] (.calm 0 (.calm 1 (.calm 2 (.calm 3 (.calm 4 (.calm 5 (.calm 6 (.calm 7 (.eff1 8 [] .done)))))))))) (.seq .leaf .leaf))))))))
theorem S.tree_New.eq (a0 a1 : Value) (w : World) (R : Value → World → Prop) : S.tree_New a0 a1 w R = fnC PP 47 (Tryz.f98.body.getD .skip) S.tree_New.an [.tmp 4, .tmp 5] [a0, a1] w R := by kernel_rfl
theorem S.tree_New.calls {a0 a1 : Value} {w : World} {R : Value → World → Prop} (h : S.tree_New a0 a1 w R) : Ca PP Fn.tree_New #[a0, a1] w R :=
  fnC_calls mixed (f := Fn.tree_New) (an := S.tree_New.an) Tryz.func98 rfl (by show _ ≤ _; exact Nat.le_of_ble_eq_true rfl) (S.tree_New.eq a0 a1 w R ▸ h)
/-- acheron/tree.Clean -/
def S.tree_Clean (a0 : Value) (w : World) (R : Value → World → Prop) : Prop :=
 Ca PP Fn.strings_HasPrefix #[a0, (.string ⟨#[47]⟩)] w fun t1 w2 =>
 Al Ty.bool #[.bool false] w2 fun t3 w4 =>
 St PP 1 t3 t1 w4 fun w5 =>
 Al Ty.sl_string #[.slice none 0 0] w5 fun t6 w7 =>
 Ca PP Fn.strings_SplitSeq #[a0, (.string ⟨#[47]⟩)] w7 fun t8 w9 =>
 RFo PP t8 w9 (RB.one fun r_10 L_11 t12 w13 Rn_14 Re_15 Rr_16 =>
 Bgn r_10 L_11 w13 fun w17 =>
 ∀ J18 : List Value → World → Prop, (∀ t21, ∀ w20 : World, (∀ u19 : Env,
 Cnd t21 (
 Rn_14 w20) (
 Bi .neq t12 (.string ⟨#[46, 46]⟩) fun t22 =>
 Cnd t22 (
 Ld t6 w20 fun t23 =>
 Ef PP (Instr.buildSlice Ty.sl_string 1 #[(0, t12)]) w20 fun t24 w25 =>
 Ef PP (Builtin.append_ #[Ty.sl_string, Ty.sl_string] Ty.sl_string #[t23, t24]) w25 fun t26 w27 =>
 St PP 1 t6 t26 w27 fun w28 =>
 Rn_14 w28) (
 ∀ J29 : List Value → World → Prop, (∀ t32, ∀ w31 : World, (∀ u30 : Env,
 Cnd t32 (
 Ld t6 w31 fun t33 =>
 Ld t6 w31 fun t34 =>
 LnL t34 fun t35 =>
 Bi .sub t35 (.int .i64 1) fun t36 =>
 Sl 1 t33 none (some t36) fun t37 =>
 St PP 1 t6 t37 w31 fun w38 =>
 Rn_14 w38) (
 Ld t3 w31 fun t39 =>
 Un .not t39 fun t40 =>
 Cnd t40 (
 Ld t6 w31 fun t41 =>
 Ef PP (Instr.buildSlice Ty.sl_string 1 #[(0, t12)]) w31 fun t42 w43 =>
 Ef PP (Builtin.append_ #[Ty.sl_string, Ty.sl_string] Ty.sl_string #[t41, t42]) w43 fun t44 w45 =>
 St PP 1 t6 t44 w45 fun w46 =>
 Rn_14 w46) (
 Rn_14 w31))) → J29 [t32] w31) →
 Ld t6 w20 fun t47 =>
 LnL t47 fun t48 =>
 Bi .gtr t48 (.int .i64 0) fun t49 =>
 Gd t49 true (fun k50 => Ld t6 w20 fun t53 =>
 k50 t53 w20) w20 fun t51 w52 =>
 Gd t49 true (fun k54 => Ld t6 w52 fun t57 =>
 k54 t57 w52) w52 fun t55 w56 =>
 Gd t49 true (fun k58 => LnL t55 fun t61 =>
 k58 t61 w56) w56 fun t59 w60 =>
 Gd t49 true (fun k62 => Bi .sub t59 (.int .i64 1) fun t65 =>
 k62 t65 w60) w60 fun t63 w64 =>
 Gd t49 true (fun k66 => IxA 1 t51 t63 fun t69 =>
 k66 t69 w64) w64 fun t67 w68 =>
 Gd t49 true (fun k70 => Ld t67 w68 fun t73 =>
 k70 t73 w68) w68 fun t71 w72 =>
 Gd t49 true (fun k74 => Bi .neq t71 (.string ⟨#[46, 46]⟩) fun t77 =>
 k74 t77 w72) w72 fun t75 w76 =>
 Pk t49 t75 (.bool false) fun t78 =>
 J29 [t78] w76))) → J18 [t21] w20) →
 Bi .eql t12 (.string ⟨#[]⟩) fun t79 =>
 Gd t79 false (fun k80 => k80 t12 w17) w17 fun t81 w82 =>
 Gd t79 false (fun k83 => Bi .eql t81 (.string ⟨#[46]⟩) fun t86 =>
 k83 t86 w82) w82 fun t84 w85 =>
 Pk t79 (.bool true) t84 fun t87 =>
 J18 [t87] w85) (fun D_88 w89 =>
 Ld t6 w89 fun t90 =>
 Ca PP Fn.strings_Join #[t90, (.string ⟨#[47]⟩)] w89 fun t91 w92 =>
 Ld t3 w92 fun t93 =>
 Cnd t93 (
 Bi .add (.string ⟨#[47]⟩) t91 fun t94 =>
 Lvs PP (.mark D_88 :: []) w92 fun w95 =>
 R t94 w95) (
 Bi .eql t91 (.string ⟨#[]⟩) fun t96 =>
 Cnd t96 (
 Lvs PP (.mark D_88 :: []) w92 fun w97 =>
 R (.string ⟨#[46]⟩) w97) (
 Lvs PP (.mark D_88 :: []) w92 fun w98 =>
 R t91 w98))) [] (fun D_99 w100 =>
 Lvs PP (.mark D_99 :: []) w100 fun w101 =>
 R (.string ⟨#[]⟩) w101)
def S.tree_Clean.an : Ann := (.seq .leaf (.seq .leaf (.seq .leaf (.seq (.seq .leaf (.block (.rf .leaf (.block (.block (.join .leaf [12] [13,14,15,16,17,18] (.cond .leaf (.seq .leaf (.cond .leaf (.join .leaf [26] [27,28,29,30,31,32,33,34,35,36,37,38] (.cond .leaf (.seq .leaf (.cond .leaf .leaf)))))))))) []))) (.seq .leaf (.seq (.block (.seq .leaf (.cond (.seq .leaf .leaf) (.seq .leaf (.cond (.seq .leaf .leaf) .leaf))))) (.seq .leaf .leaf)))))))
theorem S.tree_Clean.eq (a0 : Value) (w : World) (R : Value → World → Prop) : S.tree_Clean a0 w R = fnC PP 61 (Tryz.f99.body.getD .skip) S.tree_Clean.an [.tmp 2] [a0] w R := by kernel_rfl
theorem S.tree_Clean.calls {a0 : Value} {w : World} {R : Value → World → Prop} (h : S.tree_Clean a0 w R) : Ca PP Fn.tree_Clean #[a0] w R :=
  fnC_calls mixed (f := Fn.tree_Clean) (an := S.tree_Clean.an) Tryz.func99 rfl (by show _ ≤ _; exact Nat.le_of_ble_eq_true rfl) (S.tree_Clean.eq a0 w R ▸ h)
/-- (*acheron/tree.Tree).Find -/
def S.tree_Tree_Find (a0 a1 : Value) (w : World) (R : Value → World → Prop) : Prop :=
 Al Ty.api_Qid #[.int .i64 0, .int .i64 0, .int .i64 0] w fun t1 w2 =>
 Rd PP (eqS .eql Ty.p_tree_Tree (.tmp 11) (.const (.pointer none)) a0 (.pointer none)) w2 fun t3 =>
 Cnd t3 (
 Bd #[.int .i64 0, .int .i64 0, .int .i64 0] [(0, 1), (1, 1), (2, 1)] [] fun t4 =>
 St PP 3 t1 t4 w2 fun w5 =>
 LdA PP 3 t1 w5 fun t6 =>
 R (.tuple #[t6, (.int .i64 6)]) w5) (
 ∀ J7 : List Value → World → Prop, (∀ t10, ∀ w9 : World, (∀ u8 : Env,
 Cnd t10 (
 Bd #[.int .i64 0, .int .i64 0, .int .i64 0] [(0, 1), (1, 1), (2, 1)] [] fun t11 =>
 St PP 3 t1 t11 w9 fun w12 =>
 LdA PP 3 t1 w12 fun t13 =>
 R (.tuple #[t13, (.int .i64 1)]) w12) (
 Ca PP Fn.tree_Split #[a1] w9 fun t14 w15 =>
 Ex t14 0 fun t16 =>
 Ex t14 1 fun t17 =>
 Bi .neq t17 (.int .i64 0) fun t18 =>
 Cnd t18 (
 Bd #[.int .i64 0, .int .i64 0, .int .i64 0] [(0, 1), (1, 1), (2, 1)] [] fun t19 =>
 St PP 3 t1 t19 w15 fun w20 =>
 LdA PP 3 t1 w20 fun t21 =>
 R (.tuple #[t21, t17]) w20) (
 Nc a0 fun t22 =>
 Fa 0 t22 fun t23 =>
 Ld t23 w15 fun t24 =>
 LnL t16 fun t25 =>
 ∃ (I26 : List Value → World → Prop) (m27 : List Value → World → Nat), I26 [t24, (.int .i64 0)] w15 ∧ ∀ t30 t31, ∀ (u28 : Env) (w29 : World), I26 [t30, t31] w29 →
 Bi .lss t31 t25 fun t32 =>
 Cnd t32 (
 IxA 1 t16 t31 fun t33 =>
 Ld t33 w29 fun t34 =>
 Ca PP Fn.tree_node_isDir #[t30] w29 fun t35 w36 =>
 Un .not t35 fun t37 =>
 Cnd t37 (
 Bd #[.int .i64 0, .int .i64 0, .int .i64 0] [(0, 1), (1, 1), (2, 1)] [] fun t38 =>
 St PP 3 t1 t38 w36 fun w39 =>
 LdA PP 3 t1 w39 fun t40 =>
 R (.tuple #[t40, (.int .i64 18)]) w39) (
 Nc t30 fun t41 =>
 Fa 11 t41 fun t42 =>
 Ld t42 w36 fun t43 =>
 Rd PP (Instr.lookup Ty.map_string_p_tree_node t43 t34 false) w36 fun t44 =>
 Rd PP (eqS .eql Ty.p_tree_node (.tmp 51) (.const (.pointer none)) t44 (.pointer none)) w36 fun t45 =>
 Cnd t45 (
 Bd #[.int .i64 0, .int .i64 0, .int .i64 0] [(0, 1), (1, 1), (2, 1)] [] fun t46 =>
 St PP 3 t1 t46 w36 fun w47 =>
 LdA PP 3 t1 w47 fun t48 =>
 R (.tuple #[t48, (.int .i64 4)]) w47) (
 Bi .add t31 (.int .i64 1) fun t49 =>
 I26 [t44, t49] w36 ∧ m27 [t44, t49] w36 < m27 [t30, t31] w29))) (
 Nc t30 fun t50 =>
 Fa 0 t50 fun t51 =>
 Fa 0 t51 fun t52 =>
 LdA PP 3 t52 w29 fun t53 =>
 St PP 3 t1 t53 w29 fun w54 =>
 LdA PP 3 t1 w54 fun t55 =>
 R (.tuple #[t55, (.int .i64 0)]) w54)))) → J7 [t10] w9) →
 Bi .eql a1 (.string ⟨#[]⟩) fun t56 =>
 Gd t56 false (fun k57 => k57 a1 w2) w2 fun t58 w59 =>
 Gd t56 false (fun k60 => IxS t58 (.int .i64 0) fun t63 =>
 k60 t63 w59) w59 fun t61 w62 =>
 Gd t56 false (fun k64 => Bi .neq t61 (.int .u8 47) fun t67 =>
 k64 t67 w62) w62 fun t65 w66 =>
 Pk t56 (.bool true) t65 fun t68 =>
 J7 [t68] w66)
def S.tree_Tree_Find.an : Ann := (.seq .leaf (.seq (.seq .leaf (.cond (.seq .leaf .leaf) .leaf)) (.seq (.join .leaf [20] [14,15,16,17,18,19] (.cond (.seq .leaf .leaf) .leaf)) (.seq .leaf (.seq (.seq .leaf (.cond (.seq .leaf .leaf) .leaf)) (.seq .leaf (.seq (.seq .leaf (.block (.loop (.seq .leaf (.seq (.cond .leaf .leaf) (.seq (.block (.seq .leaf (.seq (.seq .leaf (.cond (.seq .leaf .leaf) .leaf)) (.seq .leaf (.seq .leaf (.cond (.seq .leaf .leaf) .leaf)))))) .leaf))) [8,37] [5,10,38,39,40,41,42,43,44,45,46,47,48,49,50,51,52,53,54]))) (.seq .leaf .leaf))))))))
theorem S.tree_Tree_Find.eq (a0 a1 : Value) (w : World) (R : Value → World → Prop) : S.tree_Tree_Find a0 a1 w R = fnC PP 60 (Tryz.f101.body.getD .skip) S.tree_Tree_Find.an [.cell 4 37, .tmp 5] [a0, a1] w R := by kernel_rfl
theorem S.tree_Tree_Find.calls {a0 a1 : Value} {w : World} {R : Value → World → Prop} (h : S.tree_Tree_Find a0 a1 w R) : Ca PP Fn.tree_Tree_Find #[a0, a1] w R :=
  fnC_calls mixed (f := Fn.tree_Tree_Find) (an := S.tree_Tree_Find.an) Tryz.func101 rfl (by show _ ≤ _; exact Nat.le_of_ble_eq_true rfl) (S.tree_Tree_Find.eq a0 a1 w R ▸ h)
end Go.Proofs.YtjffgllkfbcaeaaGreatDoor
