/- Own text. -/
import Derived.Test.YtnnhmahemklnkaaGreatDoorSc
namespace Go.Proofs.YtnnhmahemklnkaaGreatDoor
open Go Go.Sh
set_option linter.unusedVariables false
set_option maxRecDepth 100000
/-- acheron/acheronlaw28.TreeNames -/
def S.law28_TreeNames (a0 a1 : Value) (w : World) (R : Value → World → Prop) : Prop :=
 Al Ty.law28_Setting (a0 : Value).cells w fun t1 w2 =>
 Ca PP Fn.law28_awake #[] w2 fun t3 w4 =>
 Un .not t3 fun t5 =>
 Cnd t5 (
 R (.bool false) w4) (
 ∀ J6 : List Value → World → Prop, (∀ t9, ∀ w8 : World, (∀ u7 : Env,
 Cnd t9 (
 R (.bool true) w8) (
 LdA PP 2 t1 w8 fun t10 =>
 Ca PP Fn.law28_played #[t10, a1] w8 fun t11 w12 =>
 Rd PP (eqS .eql Ty.p_tree_Tree (.tmp 30) (.const (.pointer none)) t11 (.pointer none)) w12 fun t13 =>
 Cnd t13 (
 R (.bool true) w12) (
 Ca PP Fn.tree_Tree_Files #[t11] w12 fun t14 w15 =>
 ∀ J16 : List Value → World → Prop, (∀ t19, ∀ w18 : World, (∀ u17 : Env,
 Cnd t19 (
 R (.bool false) w18) (
 LnL t14 fun t20 =>
 ∃ (I21 : List Value → World → Prop) (m22 : List Value → World → Nat), I21 [(.int .i64 0)] w18 ∧ ∀ t25, ∀ (u23 : Env) (w24 : World), I21 [t25] w24 →
 Bi .lss t25 t20 fun t26 =>
 Cnd t26 (
 ∀ J27 : List Value → World → Prop, (∀ w29 : World, (∀ u28 : Env,
 Bi .add t25 (.int .i64 1) fun t30 =>
 I21 [t30] w29 ∧ m22 [t30] w29 < m22 [t25] w24) → J27 [] w29) →
 IxA 12 t14 t25 fun t31 =>
 LdA PP 12 t31 w24 fun t32 =>
 Al Ty.tree_File #[.string ⟨#[]⟩, .int .i64 0, .int .i64 0, .int .i64 0, .int .i64 0, .int .i64 0, .int .i64 0, .string ⟨#[]⟩, .string ⟨#[]⟩, .string ⟨#[]⟩, .string ⟨#[]⟩, .string ⟨#[]⟩] w24 fun t33 w34 =>
 St PP 12 t33 t32 w34 fun w35 =>
 Fa 1 t33 fun t36 =>
 Fa 0 t36 fun t37 =>
 Fa 2 t37 fun t38 =>
 Ld t38 w35 fun t39 =>
 Ca PP Fn.tree_Tree_Stat #[t11, (.string ⟨#[]⟩), t39] w35 fun t40 w41 =>
 Ex t40 0 fun t42 =>
 Ex t40 1 fun t43 =>
 Al Ty.api_Dir #[.int .i64 0, .int .i64 0, .int .i64 0, .int .i64 0, .int .i64 0, .int .i64 0, .string ⟨#[]⟩, .string ⟨#[]⟩, .string ⟨#[]⟩, .string ⟨#[]⟩] w41 fun t44 w45 =>
 St PP 10 t44 t42 w45 fun w46 =>
 Fa 1 t33 fun t47 =>
 Fa 0 t47 fun t48 =>
 Fa 2 t48 fun t49 =>
 Ld t49 w46 fun t50 =>
 Ca PP Fn.tree_Tree_Path #[t11, t50] w46 fun t51 w52 =>
 Ex t51 0 fun t53 =>
 Ex t51 1 fun t54 =>
 Fa 0 t33 fun t55 =>
 Ld t55 w52 fun t56 =>
 Ca PP Fn.tree_Tree_Find #[t11, t56] w52 fun t57 w58 =>
 Ex t57 0 fun t59 =>
 Ex t57 1 fun t60 =>
 Al Ty.api_Qid #[.int .i64 0, .int .i64 0, .int .i64 0] w58 fun t61 w62 =>
 St PP 3 t61 t59 w62 fun w63 =>
 ∀ J64 : List Value → World → Prop, (∀ t67, ∀ w66 : World, (∀ u65 : Env,
 Cnd t67 (
 R (.bool false) w66) (
 ∀ J68 : List Value → World → Prop, (∀ t71, ∀ w70 : World, (∀ u69 : Env,
 Cnd t71 (
 R (.bool false) w70) (
 Bi .eql t25 (.int .i64 0) fun t72 =>
 Cnd t72 (
 J27 [] w70) (
 Fa 0 t33 fun t73 =>
 Ld t73 w70 fun t74 =>
 Ca PP Fn.strings_LastIndexByte #[t74, (.int .u8 47)] w70 fun t75 w76 =>
 Al Ty.int #[.int .i64 0] w76 fun t77 w78 =>
 St PP 1 t77 t75 w78 fun w79 =>
 ∀ J80 : List Value → World → Prop, (∀ t83, ∀ w82 : World, (∀ u81 : Env,
 Cnd t83 (
 R (.bool false) w82) (
 Sl 12 t14 none (some t25) fun t84 =>
 Ca PP Fn.slices_IndexFunc_sl_tree_File_tree_File #[t84, (.func (.func Fn.law28_TreeNames_1) #[] #[t33, t77])] w82 fun t85 w86 =>
 ∀ J87 : List Value → World → Prop, (∀ t90, ∀ w89 : World, (∀ u88 : Env,
 Cnd t90 (
 R (.bool false) w89) (
 J27 [] w89)) → J87 [t90] w89) →
 Bi .lss t85 (.int .i64 0) fun t91 =>
 Gd t91 false (fun k92 => k92 t14 w86) w86 fun t93 w94 =>
 Gd t91 false (fun k95 => k95 t85 w94) w94 fun t96 w97 =>
 Gd t91 false (fun k98 => IxA 12 t93 t96 fun t101 =>
 k98 t101 w97) w97 fun t99 w100 =>
 Gd t91 false (fun k102 => Fa 1 t99 fun t105 =>
 k102 t105 w100) w100 fun t103 w104 =>
 Gd t91 false (fun k106 => Fa 3 t103 fun t109 =>
 k106 t109 w104) w104 fun t107 w108 =>
 Gd t91 false (fun k110 => Ld t107 w108 fun t113 =>
 k110 t113 w108) w108 fun t111 w112 =>
 Gd t91 false (fun k114 => Bi .and t111 (.int .i64 2147483648) fun t117 =>
 k114 t117 w112) w112 fun t115 w116 =>
 Gd t91 false (fun k118 => Bi .eql t115 (.int .i64 0) fun t121 =>
 k118 t121 w116) w116 fun t119 w120 =>
 Pk t91 (.bool true) t119 fun t122 =>
 Gd t122 false (fun k123 => k123 t14 w120) w120 fun t124 w125 =>
 Gd t122 false (fun k126 => k126 t25 w125) w125 fun t127 w128 =>
 Gd t122 false (fun k129 => Sl 12 t124 none (some t127) fun t132 =>
 k129 t132 w128) w128 fun t130 w131 =>
 Gd t122 false (fun k133 => k133 (.func (.func Fn.law28_TreeNames_2) #[] #[t33]) w131) w131 fun t134 w135 =>
 Gd t122 false (fun k136 => Ca PP Fn.slices_ContainsFunc_sl_tree_File_tree_File #[t130, t134] w135 fun t139 w140 =>
 k136 t139 w140) w135 fun t137 w138 =>
 Pk t122 (.bool true) t137 fun t141 =>
 J87 [t141] w138)) → J80 [t83] w82) →
 Dr w79 fun w142 =>
 Fa 1 t33 fun t143 =>
 Fa 6 t143 fun t144 =>
 Ld t144 w142 fun t145 =>
 Ca PP Fn.tree_Valid #[t145] w142 fun t146 w147 =>
 Un .not t146 fun t148 =>
 Gd t148 false (fun k149 => Fa 0 t33 fun t152 =>
 k149 t152 w147) w147 fun t150 w151 =>
 Gd t148 false (fun k153 => Ld t150 w151 fun t156 =>
 k153 t156 w151) w151 fun t154 w155 =>
 Gd t148 false (fun k157 => Ld t77 w155 fun t160 =>
 k157 t160 w155) w155 fun t158 w159 =>
 Gd t148 false (fun k161 => Bi .add t158 (.int .i64 1) fun t164 =>
 k161 t164 w159) w159 fun t162 w163 =>
 Gd t148 false (fun k165 => SlS t154 (some t162) none fun t168 =>
 k165 t168 w163) w163 fun t166 w167 =>
 Gd t148 false (fun k169 => Fa 1 t33 fun t172 =>
 k169 t172 w167) w167 fun t170 w171 =>
 Gd t148 false (fun k173 => Fa 6 t170 fun t176 =>
 k173 t176 w171) w171 fun t174 w175 =>
 Gd t148 false (fun k177 => Ld t174 w175 fun t180 =>
 k177 t180 w175) w175 fun t178 w179 =>
 Gd t148 false (fun k181 => Bi .neq t166 t178 fun t184 =>
 k181 t184 w179) w179 fun t182 w183 =>
 Pk t148 (.bool true) t182 fun t185 =>
 J80 [t185] w183))) → J68 [t71] w70) →
 Fa 1 t33 fun t186 =>
 Fa 3 t186 fun t187 =>
 Ld t187 w66 fun t188 =>
 Bi .and t188 (.int .i64 2147483648) fun t189 =>
 Bi .neq t189 (.int .i64 0) fun t190 =>
 Gd t190 true (fun k191 => Fa 11 t33 fun t194 =>
 k191 t194 w66) w66 fun t192 w193 =>
 Gd t190 true (fun k195 => Ld t192 w193 fun t198 =>
 k195 t198 w193) w193 fun t196 w197 =>
 Gd t190 true (fun k199 => Bi .neq t196 (.string ⟨#[]⟩) fun t202 =>
 k199 t202 w197) w197 fun t200 w201 =>
 Gd t190 true (fun k203 => k203 t200 w201) w201 fun t204 w205 =>
 Gd t204 false (fun k206 => Fa 1 t33 fun t209 =>
 k206 t209 w205) w205 fun t207 w208 =>
 Gd t204 false (fun k210 => Fa 5 t207 fun t213 =>
 k210 t213 w208) w208 fun t211 w212 =>
 Gd t204 false (fun k214 => Ld t211 w212 fun t217 =>
 k214 t217 w212) w212 fun t215 w216 =>
 Gd t204 false (fun k218 => Bi .neq t215 (.int .i64 0) fun t221 =>
 k218 t221 w216) w216 fun t219 w220 =>
 Gd t190 true (fun k222 => Pk t204 (.bool true) t219 fun t225 =>
 k222 t225 w220) w220 fun t223 w224 =>
 Pk t190 t223 (.bool false) fun t226 =>
 Gd t226 false (fun k227 => Fa 1 t33 fun t230 =>
 k227 t230 w224) w224 fun t228 w229 =>
 Gd t226 false (fun k231 => Fa 5 t228 fun t234 =>
 k231 t234 w229) w229 fun t232 w233 =>
 Gd t226 false (fun k235 => Ld t232 w233 fun t238 =>
 k235 t238 w233) w233 fun t236 w237 =>
 Gd t226 false (fun k239 => Fa 11 t33 fun t242 =>
 k239 t242 w237) w237 fun t240 w241 =>
 Gd t226 false (fun k243 => Ld t240 w241 fun t246 =>
 k243 t246 w241) w241 fun t244 w245 =>
 Gd t226 false (fun k247 => LnS t244 fun t250 =>
 k247 t250 w245) w245 fun t248 w249 =>
 Gd t226 false (fun k251 => Bi .neq t236 t248 fun t254 =>
 k251 t254 w249) w249 fun t252 w253 =>
 Pk t226 (.bool true) t252 fun t255 =>
 J68 [t255] w253)) → J64 [t67] w66) →
 Bi .neq t43 (.int .i64 0) fun t256 =>
 Gd t256 false (fun k257 => LdA PP 10 t44 w63 fun t260 =>
 k257 t260 w63) w63 fun t258 w259 =>
 Gd t256 false (fun k261 => Fa 1 t33 fun t264 =>
 k261 t264 w259) w259 fun t262 w263 =>
 Gd t256 false (fun k265 => LdA PP 10 t262 w263 fun t268 =>
 k265 t268 w263) w263 fun t266 w267 =>
 Gd t256 false (fun k269 => Rd PP (eqS .neq Ty.api_Dir (.tmp 88) (.tmp 90) t258 t266) w267 fun t272 =>
 k269 t272 w267) w267 fun t270 w271 =>
 Pk t256 (.bool true) t270 fun t273 =>
 Gd t273 false (fun k274 => k274 t54 w271) w271 fun t275 w276 =>
 Gd t273 false (fun k277 => Bi .neq t275 (.int .i64 0) fun t280 =>
 k277 t280 w276) w276 fun t278 w279 =>
 Pk t273 (.bool true) t278 fun t281 =>
 Gd t281 false (fun k282 => k282 t53 w279) w279 fun t283 w284 =>
 Gd t281 false (fun k285 => Fa 0 t33 fun t288 =>
 k285 t288 w284) w284 fun t286 w287 =>
 Gd t281 false (fun k289 => Ld t286 w287 fun t292 =>
 k289 t292 w287) w287 fun t290 w291 =>
 Gd t281 false (fun k293 => Bi .neq t283 t290 fun t296 =>
 k293 t296 w291) w291 fun t294 w295 =>
 Pk t281 (.bool true) t294 fun t297 =>
 Gd t297 false (fun k298 => k298 t53 w295) w295 fun t299 w300 =>
 Gd t297 false (fun k301 => LnS t299 fun t304 =>
 k301 t304 w300) w300 fun t302 w303 =>
 Gd t297 false (fun k305 => Bi .leq t302 (.int .i64 1024) fun t308 =>
 k305 t308 w303) w303 fun t306 w307 =>
 Gd t297 false (fun k309 => k309 t306 w307) w307 fun t310 w311 =>
 Gd t310 true (fun k312 => k312 t60 w311) w311 fun t313 w314 =>
 Gd t310 true (fun k315 => Bi .neq t313 (.int .i64 0) fun t318 =>
 k315 t318 w314) w314 fun t316 w317 =>
 Gd t310 true (fun k319 => k319 t316 w317) w317 fun t320 w321 =>
 Gd t320 false (fun k322 => LdA PP 3 t61 w321 fun t325 =>
 k322 t325 w321) w321 fun t323 w324 =>
 Gd t320 false (fun k326 => Fa 1 t33 fun t329 =>
 k326 t329 w324) w324 fun t327 w328 =>
 Gd t320 false (fun k330 => Fa 0 t327 fun t333 =>
 k330 t333 w328) w328 fun t331 w332 =>
 Gd t320 false (fun k334 => LdA PP 3 t331 w332 fun t337 =>
 k334 t337 w332) w332 fun t335 w336 =>
 Gd t320 false (fun k338 => Rd PP (eqS .neq Ty.api_Qid (.tmp 111) (.tmp 114) t323 t335) w336 fun t341 =>
 k338 t341 w336) w336 fun t339 w340 =>
 Gd t310 true (fun k342 => Pk t320 (.bool true) t339 fun t345 =>
 k342 t345 w340) w340 fun t343 w344 =>
 Gd t297 false (fun k346 => Pk t310 t343 (.bool false) fun t349 =>
 k346 t349 w344) w344 fun t347 w348 =>
 Pk t297 (.bool true) t347 fun t350 =>
 J64 [t350] w348) (
 R (.bool true) w24))) → J16 [t19] w18) →
 LnL t14 fun t351 =>
 Bi .eql t351 (.int .i64 0) fun t352 =>
 Gd t352 false (fun k353 => k353 t14 w15) w15 fun t354 w355 =>
 Gd t352 false (fun k356 => IxA 12 t354 (.int .i64 0) fun t359 =>
 k356 t359 w355) w355 fun t357 w358 =>
 Gd t352 false (fun k360 => Fa 0 t357 fun t363 =>
 k360 t363 w358) w358 fun t361 w362 =>
 Gd t352 false (fun k364 => Ld t361 w362 fun t367 =>
 k364 t367 w362) w362 fun t365 w366 =>
 Gd t352 false (fun k368 => Bi .neq t365 (.string ⟨#[47]⟩) fun t371 =>
 k368 t371 w366) w366 fun t369 w370 =>
 Pk t352 (.bool true) t369 fun t372 =>
 Gd t372 false (fun k373 => k373 t14 w370) w370 fun t374 w375 =>
 Gd t372 false (fun k376 => IxA 12 t374 (.int .i64 0) fun t379 =>
 k376 t379 w375) w375 fun t377 w378 =>
 Gd t372 false (fun k380 => Fa 1 t377 fun t383 =>
 k380 t383 w378) w378 fun t381 w382 =>
 Gd t372 false (fun k384 => Fa 0 t381 fun t387 =>
 k384 t387 w382) w382 fun t385 w386 =>
 Gd t372 false (fun k388 => Fa 2 t385 fun t391 =>
 k388 t391 w386) w386 fun t389 w390 =>
 Gd t372 false (fun k392 => Ld t389 w390 fun t395 =>
 k392 t395 w390) w390 fun t393 w394 =>
 Gd t372 false (fun k396 => Bi .neq t393 (.int .i64 0) fun t399 =>
 k396 t399 w394) w394 fun t397 w398 =>
 Pk t372 (.bool true) t397 fun t400 =>
 J16 [t400] w398))) → J6 [t9] w8) →
 LdA PP 2 t1 w4 fun t401 =>
 Ca PP Fn.law28_small #[t401] w4 fun t402 w403 =>
 Un .not t402 fun t404 =>
 Gd t404 false (fun k405 => k405 a1 w403) w403 fun t406 w407 =>
 Gd t404 false (fun k408 => Ca PP Fn.law28_Few #[t406] w407 fun t411 w412 =>
 k408 t411 w412) w407 fun t409 w410 =>
 Gd t404 false (fun k413 => Un .not t409 fun t416 =>
 k413 t416 w410) w410 fun t414 w415 =>
 Pk t404 (.bool true) t414 fun t417 =>
 J6 [t417] w415)
def S.law28_TreeNames.an : Ann := (.seq .leaf (.seq (.seq .leaf (.cond (.seq .leaf .leaf) .leaf)) (.seq (.join .leaf [26] [19,20,21,22,23,24,25] (.cond (.seq .leaf .leaf) .leaf)) (.seq .leaf (.seq (.seq .leaf (.cond (.seq .leaf .leaf) .leaf)) (.seq .leaf (.seq (.join .leaf [52] [34,35,36,37,38,39,40,41,42,43,44,45,46,47,48,49,50,51] (.cond (.seq .leaf .leaf) .leaf)) (.seq (.seq .leaf (.block (.loop (.seq .leaf (.seq (.cond .leaf .leaf) (.join (.block (.seq .leaf (.seq .leaf (.seq .leaf (.seq .leaf (.seq (.join .leaf [118] [85,86,87,88,89,90,91,92,93,94,95,96,97,98,99,100,101,102,103,104,105,106,107,108,109,110,111,112,113,114,115,116,117] (.cond (.seq .leaf .leaf) .leaf)) (.seq (.join .leaf [143] [119,120,121,122,123,124,125,126,127,128,129,130,131,132,133,134,135,136,137,138,139,140,141,142] (.cond (.seq .leaf .leaf) .leaf)) (.seq (.seq .leaf (.cond .leaf .leaf)) (.seq .leaf (.seq (.join (.draw [[],[0],[0,1],[0,1,2],[0,1,2,3],[0,1,2,3,4],[0,1,2,3,4,5],[0,1,2,3,4,5,6],[0,1,2,3,4,5],[0,1,2,3,4,5,8],[0,1,2,3,4,5,6,7,8,9],[0,1,2,3,4,5],[0,1,2,3,4,5,11],[0,1,2,3,4,5,11,12],[0,1,2,3,4,5,6,7,8,9,10,11,12,13],[0,1,2,3,4,5,6,7,8,9,10,11,12,13,14]] (.calm 0 (.calm 1 (.calm 2 (.eff1 3 [] (.calm 4 (.calm 5 (.calm 6 (.calm 7 (.calm 8 (.calm 9 (.calm 10 (.calm 11 (.calm 12 (.calm 13 (.calm 14 (.calm 15 .done))))))))))))))))) [164] [149,150,151,152,153,154,155,156,157,158,159,160,161,162,163] (.cond (.seq .leaf .leaf) .leaf)) (.seq .leaf (.join .leaf [188] [170,171,172,173,174,175,176,177,178,179,180,181,182,183,184,185,186,187] (.cond (.seq .leaf .leaf) .leaf))))))))))))) [] [4,7,8,9,10,11,12,13,14,15,16,57,58,59,60,61,62,63,64,65,66,67,68,69,70,71,72,73,74,75,76,77,78,79,80,81,82,83,84,85,86,87,88,89,90,91,92,93,94,95,96,97,98,99,100,101,102,103,104,105,106,107,108,109,110,111,112,113,114,115,116,117,118,119,120,121,122,123,124,125,126,127,128,129,130,131,132,133,134,135,136,137,138,139,140,141,142,143,144,145,146,147,148,149,150,151,152,153,154,155,156,157,158,159,160,161,162,163,164,165,166,167,168,169,170,171,172,173,174,175,176,177,178,179,180,181,182,183,184,185,186,187,188] .leaf))) [55] [4,7,8,9,10,11,12,13,14,15,16,56,57,58,59,60,61,62,63,64,65,66,67,68,69,70,71,72,73,74,75,76,77,78,79,80,81,82,83,84,85,86,87,88,89,90,91,92,93,94,95,96,97,98,99,100,101,102,103,104,105,106,107,108,109,110,111,112,113,114,115,116,117,118,119,120,121,122,123,124,125,126,127,128,129,130,131,132,133,134,135,136,137,138,139,140,141,142,143,144,145,146,147,148,149,150,151,152,153,154,155,156,157,158,159,160,161,162,163,164,165,166,167,168,169,170,171,172,173,174,175,176,177,178,179,180,181,182,183,184,185,186,187,188,189]))) (.seq .leaf .leaf)))))))))
theorem S.law28_TreeNames.eq (a0 a1 : Value) (w : World) (R : Value → World → Prop) : S.law28_TreeNames a0 a1 w R = fnC PP 190 (Tryz.f6.body.getD .skip) S.law28_TreeNames.an [.tmp 4] [a0, a1] w R := by kernel_rfl
theorem S.law28_TreeNames.calls {a0 a1 : Value} {w : World} {R : Value → World → Prop} (h : S.law28_TreeNames a0 a1 w R) : Ca PP Fn.law28_TreeNames #[a0, a1] w R :=
  fnC_calls mixed (f := Fn.law28_TreeNames) (an := S.law28_TreeNames.an) Tryz.func6 rfl (by show _ ≤ _; exact Nat.le_of_ble_eq_true rfl) (S.law28_TreeNames.eq a0 a1 w R ▸ h)
/-- acheron/acheronlaw28.awake -/
def S.law28_awake (w : World) (R : Value → World → Prop) : Prop :=
 Ca PP Fn.tree_New #[(.string ⟨#[97, 110, 110]⟩), (.slice none 0 0)] w fun t1 w2 =>
 Ex t1 0 fun t3 =>
 Ex t1 1 fun t4 =>
 ∀ J5 : List Value → World → Prop, (∀ t8, ∀ w7 : World, (∀ u6 : Env,
 Cnd t8 (
 R (.bool false) w7) (
 Ca PP Fn.tree_Tree_Create #[t3, (.string ⟨#[97, 110, 110]⟩), (.int .i64 0), (.string ⟨#[102]⟩), (.int .i64 438), (.int .i64 2)] w7 fun t9 w10 =>
 Ex t9 0 fun t11 =>
 Ex t9 1 fun t12 =>
 Ex t9 2 fun t13 =>
 Al Ty.api_Qid #[.int .i64 0, .int .i64 0, .int .i64 0] w10 fun t14 w15 =>
 St PP 3 t14 t12 w15 fun w16 =>
 ∀ J17 : List Value → World → Prop, (∀ t20, ∀ w19 : World, (∀ u18 : Env,
 Cnd t20 (
 R (.bool false) w19) (
 Ca PP Fn.tree_Tree_Write #[t3, (.int .i64 1), (.int .i64 2), (.string ⟨#[97, 98]⟩)] w19 fun t21 w22 =>
 Ex t21 0 fun t23 =>
 Ex t21 1 fun t24 =>
 Ca PP Fn.tree_Tree_Read #[t3, (.int .i64 1), (.int .i64 0), (.int .i64 9)] w22 fun t25 w26 =>
 Ex t25 0 fun t27 =>
 Ex t25 1 fun t28 =>
 Ca PP Fn.tree_Tree_Stat #[t3, (.string ⟨#[98, 111, 98]⟩), (.int .i64 1)] w26 fun t29 w30 =>
 Ex t29 0 fun t31 =>
 Ex t29 1 fun t32 =>
 Al Ty.api_Dir #[.int .i64 0, .int .i64 0, .int .i64 0, .int .i64 0, .int .i64 0, .int .i64 0, .string ⟨#[]⟩, .string ⟨#[]⟩, .string ⟨#[]⟩, .string ⟨#[]⟩] w30 fun t33 w34 =>
 St PP 10 t33 t31 w34 fun w35 =>
 Ca PP Fn.tree_Tree_Open #[t3, (.string ⟨#[98, 111, 98]⟩), (.int .i64 1), (.int .i64 1)] w35 fun t36 w37 =>
 Ex t36 0 fun t38 =>
 Ex t36 1 fun t39 =>
 Ex t36 2 fun t40 =>
 Al Ty.api_Qid #[.int .i64 0, .int .i64 0, .int .i64 0] w37 fun t41 w42 =>
 St PP 3 t41 t39 w42 fun w43 =>
 ∀ J44 : List Value → World → Prop, (∀ t47, ∀ w46 : World, (∀ u45 : Env,
 R t47 w46) → J44 [t47] w46) →
 Bi .eql t23 (.int .i64 2) fun t48 =>
 Gd t48 true (fun k49 => k49 t24 w43) w43 fun t50 w51 =>
 Gd t48 true (fun k52 => Bi .eql t50 (.int .i64 0) fun t55 =>
 k52 t55 w51) w51 fun t53 w54 =>
 Pk t48 t53 (.bool false) fun t56 =>
 Gd t56 true (fun k57 => k57 t27 w54) w54 fun t58 w59 =>
 Gd t56 true (fun k60 => Bi .eql t58 (.string ⟨#[0, 0, 97, 98]⟩) fun t63 =>
 k60 t63 w59) w59 fun t61 w62 =>
 Pk t56 t61 (.bool false) fun t64 =>
 Gd t64 true (fun k65 => k65 t28 w62) w62 fun t66 w67 =>
 Gd t64 true (fun k68 => Bi .eql t66 (.int .i64 0) fun t71 =>
 k68 t71 w67) w67 fun t69 w70 =>
 Pk t64 t69 (.bool false) fun t72 =>
 Gd t72 true (fun k73 => k73 t32 w70) w70 fun t74 w75 =>
 Gd t72 true (fun k76 => Bi .eql t74 (.int .i64 0) fun t79 =>
 k76 t79 w75) w75 fun t77 w78 =>
 Pk t72 t77 (.bool false) fun t80 =>
 Gd t80 true (fun k81 => Fa 3 t33 fun t84 =>
 k81 t84 w78) w78 fun t82 w83 =>
 Gd t80 true (fun k85 => Ld t82 w83 fun t88 =>
 k85 t88 w83) w83 fun t86 w87 =>
 Gd t80 true (fun k89 => Bi .eql t86 (.int .i64 436) fun t92 =>
 k89 t92 w87) w87 fun t90 w91 =>
 Pk t80 t90 (.bool false) fun t93 =>
 Gd t93 true (fun k94 => Fa 0 t33 fun t97 =>
 k94 t97 w91) w91 fun t95 w96 =>
 Gd t93 true (fun k98 => Fa 1 t95 fun t101 =>
 k98 t101 w96) w96 fun t99 w100 =>
 Gd t93 true (fun k102 => Ld t99 w100 fun t105 =>
 k102 t105 w100) w100 fun t103 w104 =>
 Gd t93 true (fun k106 => Bi .eql t103 (.int .i64 1) fun t109 =>
 k106 t109 w104) w104 fun t107 w108 =>
 Pk t93 t107 (.bool false) fun t110 =>
 Gd t110 true (fun k111 => Fa 4 t33 fun t114 =>
 k111 t114 w108) w108 fun t112 w113 =>
 Gd t110 true (fun k115 => Ld t112 w113 fun t118 =>
 k115 t118 w113) w113 fun t116 w117 =>
 Gd t110 true (fun k119 => Bi .eql t116 (.int .i64 2) fun t122 =>
 k119 t122 w117) w117 fun t120 w121 =>
 Pk t110 t120 (.bool false) fun t123 =>
 Gd t123 true (fun k124 => k124 t40 w121) w121 fun t125 w126 =>
 Gd t123 true (fun k127 => Bi .eql t125 (.int .i64 17) fun t130 =>
 k127 t130 w126) w126 fun t128 w129 =>
 Pk t123 t128 (.bool false) fun t131 =>
 Gd t131 true (fun k132 => Ca PP Fn.tree_Clean #[(.string ⟨#[47, 97, 47, 47, 98, 47, 46, 47, 46, 46, 47, 99, 47, 46, 46]⟩)] w129 fun t135 w136 =>
 k132 t135 w136) w129 fun t133 w134 =>
 Gd t131 true (fun k137 => Bi .eql t133 (.string ⟨#[47, 97]⟩) fun t140 =>
 k137 t140 w134) w134 fun t138 w139 =>
 Pk t131 t138 (.bool false) fun t141 =>
 J44 [t141] w139)) → J17 [t20] w19) →
 Bi .neq t11 (.int .i64 1) fun t142 =>
 Gd t142 false (fun k143 => LdA PP 3 t14 w16 fun t146 =>
 k143 t146 w16) w16 fun t144 w145 =>
 Gd t142 false (fun k147 => Bd #[.int .i64 0, .int .i64 0, .int .i64 0] [(0, 1), (1, 1), (2, 1)] [(2, (.int .i64 1))] fun t150 =>
 k147 t150 w145) w145 fun t148 w149 =>
 Gd t142 false (fun k151 => Rd PP (eqS .neq Ty.api_Qid (.tmp 32) (.tmp 33) t144 t148) w149 fun t154 =>
 k151 t154 w149) w149 fun t152 w153 =>
 Pk t142 (.bool true) t152 fun t155 =>
 Gd t155 false (fun k156 => k156 t13 w153) w153 fun t157 w158 =>
 Gd t155 false (fun k159 => Bi .neq t157 (.int .i64 0) fun t162 =>
 k159 t162 w158) w158 fun t160 w161 =>
 Pk t155 (.bool true) t160 fun t163 =>
 J17 [t163] w161)) → J5 [t8] w7) →
 Bi .neq t4 (.int .i64 0) fun t164 =>
 Gd t164 false (fun k165 => k165 t3 w2) w2 fun t166 w167 =>
 Gd t164 false (fun k168 => Rd PP (eqS .eql Ty.p_tree_Tree (.tmp 20) (.const (.pointer none)) t166 (.pointer none)) w167 fun t171 =>
 k168 t171 w167) w167 fun t169 w170 =>
 Pk t164 (.bool true) t169 fun t172 =>
 J5 [t172] w170
def S.law28_awake.an : Ann := (.seq .leaf (.seq .leaf (.seq (.join .leaf [22] [17,18,19,20,21] (.cond (.seq .leaf .leaf) .leaf)) (.seq .leaf (.seq (.join .leaf [39] [29,30,31,32,33,34,35,36,37,38] (.cond (.seq .leaf .leaf) .leaf)) (.seq .leaf (.seq .leaf (.seq .leaf (.seq .leaf (.join .leaf [0] [61,62,63,64,65,66,67,68,69,70,71,72,73,74,75,76,77,78,79,80,81,82,83,84,85,86,87,88,89,90,91,92,93,94,95,96,97,98,99,100,101,102] .leaf))))))))))
theorem S.law28_awake.eq (w : World) (R : Value → World → Prop) : S.law28_awake  w R = fnC PP 103 (Tryz.f12.body.getD .skip) S.law28_awake.an [.tmp 0] [] w R := by kernel_rfl
theorem S.law28_awake.calls {w : World} {R : Value → World → Prop} (h : S.law28_awake w R) : Ca PP Fn.law28_awake #[] w R :=
  fnC_calls mixed (f := Fn.law28_awake) (an := S.law28_awake.an) Tryz.func12 rfl (by show _ ≤ _; exact Nat.le_of_ble_eq_true rfl) (S.law28_awake.eq w R ▸ h)
/-- acheron/acheronlaw28.Few -/
def S.law28_Few (a0 : Value) (w : World) (R : Value → World → Prop) : Prop :=
 LnL a0 fun t1 =>
 ∃ (I2 : List Value → World → Prop) (m3 : List Value → World → Nat), I2 [(.int .i64 0)] w ∧ ∀ t6, ∀ (u4 : Env) (w5 : World), I2 [t6] w5 →
 Bi .lss t6 t1 fun t7 =>
 Cnd t7 (
 IxA 20 a0 t6 fun t8 =>
 LdA PP 20 t8 w5 fun t9 =>
 Al Ty.law28_Act #[.int .i64 0, .int .i64 0, .int .i64 0, .string ⟨#[]⟩, .string ⟨#[]⟩, .int .i64 0, .int .i64 0, .int .i64 0, .int .i64 0, .string ⟨#[]⟩, .int .i64 0, .int .i64 0, .int .i64 0, .int .i64 0, .int .i64 0, .int .i64 0, .string ⟨#[]⟩, .string ⟨#[]⟩, .string ⟨#[]⟩, .string ⟨#[]⟩] w5 fun t10 w11 =>
 St PP 20 t10 t9 w11 fun w12 =>
 ∀ J13 : List Value → World → Prop, (∀ t16, ∀ w15 : World, (∀ u14 : Env,
 Cnd t16 (
 R (.bool false) w15) (
 Bi .add t6 (.int .i64 1) fun t17 =>
 I2 [t17] w15 ∧ m3 [t17] w15 < m3 [t6] w5)) → J13 [t16] w15) →
 Fa 3 t10 fun t18 =>
 Ld t18 w12 fun t19 =>
 LnS t19 fun t20 =>
 Fa 4 t10 fun t21 =>
 Ld t21 w12 fun t22 =>
 LnS t22 fun t23 =>
 Bi .add t20 t23 fun t24 =>
 Fa 9 t10 fun t25 =>
 Ld t25 w12 fun t26 =>
 LnS t26 fun t27 =>
 Bi .add t24 t27 fun t28 =>
 Fa 10 t10 fun t29 =>
 Fa 6 t29 fun t30 =>
 Ld t30 w12 fun t31 =>
 LnS t31 fun t32 =>
 Bi .add t28 t32 fun t33 =>
 Fa 10 t10 fun t34 =>
 Fa 8 t34 fun t35 =>
 Ld t35 w12 fun t36 =>
 LnS t36 fun t37 =>
 Bi .add t33 t37 fun t38 =>
 Fa 10 t10 fun t39 =>
 Fa 7 t39 fun t40 =>
 Ld t40 w12 fun t41 =>
 LnS t41 fun t42 =>
 Bi .add t38 t42 fun t43 =>
 Fa 10 t10 fun t44 =>
 Fa 9 t44 fun t45 =>
 Ld t45 w12 fun t46 =>
 LnS t46 fun t47 =>
 Bi .add t43 t47 fun t48 =>
 Bi .gtr t48 (.int .i64 600) fun t49 =>
 Gd t49 false (fun k50 => Fa 8 t10 fun t53 =>
 k50 t53 w12) w12 fun t51 w52 =>
 Gd t49 false (fun k54 => Ld t51 w52 fun t57 =>
 k54 t57 w52) w52 fun t55 w56 =>
 Gd t49 false (fun k58 => Bi .gtr t55 (.int .i64 5000) fun t61 =>
 k58 t61 w56) w56 fun t59 w60 =>
 Gd t49 false (fun k62 => k62 t59 w60) w60 fun t63 w64 =>
 Gd t63 true (fun k65 => Fa 8 t10 fun t68 =>
 k65 t68 w64) w64 fun t66 w67 =>
 Gd t63 true (fun k69 => Ld t66 w67 fun t72 =>
 k69 t72 w67) w67 fun t70 w71 =>
 Gd t63 true (fun k73 => Bi .leq t70 (.int .i64 1048576) fun t76 =>
 k73 t76 w71) w71 fun t74 w75 =>
 Gd t49 false (fun k77 => Pk t63 t74 (.bool false) fun t80 =>
 k77 t80 w75) w75 fun t78 w79 =>
 Pk t49 (.bool true) t78 fun t81 =>
 Gd t81 false (fun k82 => Fa 10 t10 fun t85 =>
 k82 t85 w79) w79 fun t83 w84 =>
 Gd t81 false (fun k86 => Fa 5 t83 fun t89 =>
 k86 t89 w84) w84 fun t87 w88 =>
 Gd t81 false (fun k90 => Ld t87 w88 fun t93 =>
 k90 t93 w88) w88 fun t91 w92 =>
 Gd t81 false (fun k94 => Bi .gtr t91 (.int .i64 5000) fun t97 =>
 k94 t97 w92) w92 fun t95 w96 =>
 Gd t81 false (fun k98 => k98 t95 w96) w96 fun t99 w100 =>
 Gd t99 true (fun k101 => Fa 10 t10 fun t104 =>
 k101 t104 w100) w100 fun t102 w103 =>
 Gd t99 true (fun k105 => Fa 5 t102 fun t108 =>
 k105 t108 w103) w103 fun t106 w107 =>
 Gd t99 true (fun k109 => Ld t106 w107 fun t112 =>
 k109 t112 w107) w107 fun t110 w111 =>
 Gd t99 true (fun k113 => Bi .leq t110 (.int .i64 1048576) fun t116 =>
 k113 t116 w111) w111 fun t114 w115 =>
 Gd t81 false (fun k117 => Pk t99 t114 (.bool false) fun t120 =>
 k117 t120 w115) w115 fun t118 w119 =>
 Pk t81 (.bool true) t118 fun t121 =>
 J13 [t121] w119) (
 LnL a0 fun t122 =>
 Bi .leq t122 (.int .i64 40) fun t123 =>
 R t123 w5)
def S.law28_Few.an : Ann := (.seq .leaf (.seq (.seq .leaf (.block (.loop (.seq .leaf (.seq (.cond .leaf .leaf) (.seq (.block (.seq .leaf (.join .leaf [64] [11,12,13,14,15,16,17,18,19,20,21,22,23,24,25,26,27,28,29,30,31,32,33,34,35,36,37,38,39,40,41,42,43,44,45,46,47,48,49,50,51,52,53,54,55,56,57,58,59,60,61,62,63] (.cond (.seq .leaf .leaf) .leaf)))) .leaf))) [7] [2,4,8,9,10,11,12,13,14,15,16,17,18,19,20,21,22,23,24,25,26,27,28,29,30,31,32,33,34,35,36,37,38,39,40,41,42,43,44,45,46,47,48,49,50,51,52,53,54,55,56,57,58,59,60,61,62,63,64,65]))) (.seq .leaf .leaf)))
theorem S.law28_Few.eq (a0 : Value) (w : World) (R : Value → World → Prop) : S.law28_Few a0 w R = fnC PP 69 (Tryz.f13.body.getD .skip) S.law28_Few.an [.tmp 2] [a0] w R := by kernel_rfl
theorem S.law28_Few.calls {a0 : Value} {w : World} {R : Value → World → Prop} (h : S.law28_Few a0 w R) : Ca PP Fn.law28_Few #[a0] w R :=
  fnC_calls mixed (f := Fn.law28_Few) (an := S.law28_Few.an) Tryz.func13 rfl (by show _ ≤ _; exact Nat.le_of_ble_eq_true rfl) (S.law28_Few.eq a0 w R ▸ h)
/-- acheron/tree.Clean -/
def S.tree_Clean (a0 : Value) (w : World) (R : Value → World → Prop) : Prop :=
 Ca PP Fn.strings_HasPrefix #[a0, (.string ⟨#[47]⟩)] w fun t1 w2 =>
 Al Ty.bool #[.bool false] w2 fun t3 w4 =>
 St PP 1 t3 t1 w4 fun w5 =>
 Al Ty.sl_string #[.slice none 0 0] w5 fun t6 w7 =>
 Ca PP Fn.strings_SplitSeq #[a0, (.string ⟨#[47]⟩)] w7 fun t8 w9 =>
 RFo PP t8 w9 (RB.one fun r_10 L_11 t12 w13 Rn_14 Re_15 Rr_16 =>
 Bgn r_10 L_11 w13 fun w17 =>
 ∀ J18 : List Value → World → Prop, (∀ t21, ∀ w20 : World, (∀ u19 : Env,
 Cnd t21 (
 Rn_14 w20) (
 Bi .neq t12 (.string ⟨#[46, 46]⟩) fun t22 =>
 Cnd t22 (
 Ld t6 w20 fun t23 =>
 Ef PP (Instr.buildSlice Ty.sl_string 1 #[(0, t12)]) w20 fun t24 w25 =>
 Ef PP (Builtin.append_ #[Ty.sl_string, Ty.sl_string] Ty.sl_string #[t23, t24]) w25 fun t26 w27 =>
 St PP 1 t6 t26 w27 fun w28 =>
 Rn_14 w28) (
 ∀ J29 : List Value → World → Prop, (∀ t32, ∀ w31 : World, (∀ u30 : Env,
 Cnd t32 (
 Ld t6 w31 fun t33 =>
 Ld t6 w31 fun t34 =>
 LnL t34 fun t35 =>
 Bi .sub t35 (.int .i64 1) fun t36 =>
 Sl 1 t33 none (some t36) fun t37 =>
 St PP 1 t6 t37 w31 fun w38 =>
 Rn_14 w38) (
 Ld t3 w31 fun t39 =>
 Un .not t39 fun t40 =>
 Cnd t40 (
 Ld t6 w31 fun t41 =>
 Ef PP (Instr.buildSlice Ty.sl_string 1 #[(0, t12)]) w31 fun t42 w43 =>
 Ef PP (Builtin.append_ #[Ty.sl_string, Ty.sl_string] Ty.sl_string #[t41, t42]) w43 fun t44 w45 =>
 St PP 1 t6 t44 w45 fun w46 =>
 Rn_14 w46) (
 Rn_14 w31))) → J29 [t32] w31) →
 Ld t6 w20 fun t47 =>
 LnL t47 fun t48 =>
 Bi .gtr t48 (.int .i64 0) fun t49 =>
 Gd t49 true (fun k50 => Ld t6 w20 fun t53 =>
 k50 t53 w20) w20 fun t51 w52 =>
 Gd t49 true (fun k54 => Ld t6 w52 fun t57 =>
 k54 t57 w52) w52 fun t55 w56 =>
 Gd t49 true (fun k58 => LnL t55 fun t61 =>
 k58 t61 w56) w56 fun t59 w60 =>
 Gd t49 true (fun k62 => Bi .sub t59 (.int .i64 1) fun t65 =>
 k62 t65 w60) w60 fun t63 w64 =>
 Gd t49 true (fun k66 => IxA 1 t51 t63 fun t69 =>
 k66 t69 w64) w64 fun t67 w68 =>
 Gd t49 true (fun k70 => Ld t67 w68 fun t73 =>
 k70 t73 w68) w68 fun t71 w72 =>
 Gd t49 true (fun k74 => Bi .neq t71 (.string ⟨#[46, 46]⟩) fun t77 =>
 k74 t77 w72) w72 fun t75 w76 =>
 Pk t49 t75 (.bool false) fun t78 =>
 J29 [t78] w76))) → J18 [t21] w20) →
 Bi .eql t12 (.string ⟨#[]⟩) fun t79 =>
 Gd t79 false (fun k80 => k80 t12 w17) w17 fun t81 w82 =>
 Gd t79 false (fun k83 => Bi .eql t81 (.string ⟨#[46]⟩) fun t86 =>
 k83 t86 w82) w82 fun t84 w85 =>
 Pk t79 (.bool true) t84 fun t87 =>
 J18 [t87] w85) (fun D_88 w89 =>
 Ld t6 w89 fun t90 =>
 Ca PP Fn.strings_Join #[t90, (.string ⟨#[47]⟩)] w89 fun t91 w92 =>
 Ld t3 w92 fun t93 =>
 Cnd t93 (
 Bi .add (.string ⟨#[47]⟩) t91 fun t94 =>
 Lvs PP (.mark D_88 :: []) w92 fun w95 =>
 R t94 w95) (
 Bi .eql t91 (.string ⟨#[]⟩) fun t96 =>
 Cnd t96 (
 Lvs PP (.mark D_88 :: []) w92 fun w97 =>
 R (.string ⟨#[46]⟩) w97) (
 Lvs PP (.mark D_88 :: []) w92 fun w98 =>
 R t91 w98))) [] (fun D_99 w100 =>
 Lvs PP (.mark D_99 :: []) w100 fun w101 =>
 R (.string ⟨#[]⟩) w101)
def S.tree_Clean.an : Ann := (.seq .leaf (.seq .leaf (.seq .leaf (.seq (.seq .leaf (.block (.rf .leaf (.block (.block (.join .leaf [12] [13,14,15,16,17,18] (.cond .leaf (.seq .leaf (.cond .leaf (.join .leaf [26] [27,28,29,30,31,32,33,34,35,36,37,38] (.cond .leaf (.seq .leaf (.cond .leaf .leaf)))))))))) []))) (.seq .leaf (.seq (.block (.seq .leaf (.cond (.seq .leaf .leaf) (.seq .leaf (.cond (.seq .leaf .leaf) .leaf))))) (.seq .leaf .leaf)))))))
theorem S.tree_Clean.eq (a0 : Value) (w : World) (R : Value → World → Prop) : S.tree_Clean a0 w R = fnC PP 61 (Tryz.f14.body.getD .skip) S.tree_Clean.an [.tmp 2] [a0] w R := by kernel_rfl
theorem S.tree_Clean.calls {a0 : Value} {w : World} {R : Value → World → Prop} (h : S.tree_Clean a0 w R) : Ca PP Fn.tree_Clean #[a0] w R :=
  fnC_calls mixed (f := Fn.tree_Clean) (an := S.tree_Clean.an) Tryz.func14 rfl (by show _ ≤ _; exact Nat.le_of_ble_eq_true rfl) (S.tree_Clean.eq a0 w R ▸ h)
/-- acheron/tree.Split -/
def S.tree_Split (a0 : Value) (w : World) (R : Value → World → Prop) : Prop :=
 Al Ty.sl_string #[.slice none 0 0] w fun t1 w2 =>
 Al Ty.api_Errno #[.int .i64 0] w2 fun t3 w4 =>
 LnS a0 fun t5 =>
 Bi .gtr t5 (.int .i64 1024) fun t6 =>
 Cnd t6 (
 St PP 1 t1 (.slice none 0 0) w4 fun w7 =>
 St PP 1 t3 (.int .i64 3) w7 fun w8 =>
 Ld t1 w8 fun t9 =>
 Ld t3 w8 fun t10 =>
 R (.tuple #[t9, t10]) w8) (
 Al Ty.sl_string #[.slice none 0 0] w4 fun t11 w12 =>
 Ca PP Fn.tree_Clean #[a0] w12 fun t13 w14 =>
 Ca PP Fn.strings_TrimPrefix #[t13, (.string ⟨#[47]⟩)] w14 fun t15 w16 =>
 Ca PP Fn.strings_SplitSeq #[t15, (.string ⟨#[47]⟩)] w16 fun t17 w18 =>
 RFo PP t17 w18 (RB.one fun r_19 L_20 t21 w22 Rn_23 Re_24 Rr_25 =>
 Bgn r_19 L_20 w22 fun w26 =>
 ∀ J27 : List Value → World → Prop, (∀ t30, ∀ w29 : World, (∀ u28 : Env,
 Cnd t30 (
 Rn_23 w29) (
 ∀ J31 : List Value → World → Prop, (∀ t34, ∀ w33 : World, (∀ u32 : Env,
 Cnd t34 (
 St PP 1 t1 (.slice none 0 0) w33 fun w35 =>
 St PP 1 t3 (.int .i64 8) w35 fun w36 =>
 Rr_25 w36) (
 Ld t11 w33 fun t37 =>
 Ef PP (Instr.buildSlice Ty.sl_string 1 #[(0, t21)]) w33 fun t38 w39 =>
 Ef PP (Builtin.append_ #[Ty.sl_string, Ty.sl_string] Ty.sl_string #[t37, t38]) w39 fun t40 w41 =>
 St PP 1 t11 t40 w41 fun w42 =>
 Rn_23 w42)) → J31 [t34] w33) →
 Bi .neq t21 (.string ⟨#[46, 46]⟩) fun t43 =>
 Gd t43 true (fun k44 => k44 t21 w29) w29 fun t45 w46 =>
 Gd t43 true (fun k47 => Ca PP Fn.tree_Valid #[t45] w46 fun t50 w51 =>
 k47 t50 w51) w46 fun t48 w49 =>
 Gd t43 true (fun k52 => Un .not t48 fun t55 =>
 k52 t55 w49) w49 fun t53 w54 =>
 Pk t43 t53 (.bool false) fun t56 =>
 J31 [t56] w54)) → J27 [t30] w29) →
 Bi .eql t21 (.string ⟨#[]⟩) fun t57 =>
 Gd t57 false (fun k58 => k58 t21 w26) w26 fun t59 w60 =>
 Gd t57 false (fun k61 => Bi .eql t59 (.string ⟨#[46]⟩) fun t64 =>
 k61 t64 w60) w60 fun t62 w63 =>
 Pk t57 (.bool true) t62 fun t65 =>
 J27 [t65] w63) (fun D_66 w67 =>
 Ld t11 w67 fun t68 =>
 St PP 1 t1 t68 w67 fun w69 =>
 St PP 1 t3 (.int .i64 0) w69 fun w70 =>
 Lvs PP (.mark D_66 :: []) w70 fun w71 =>
 Ld t1 w71 fun t72 =>
 Ld t3 w71 fun t73 =>
 R (.tuple #[t72, t73]) w71) [] (fun D_74 w75 =>
 Lvs PP (.mark D_74 :: []) w75 fun w76 =>
 Ld t1 w76 fun t77 =>
 Ld t3 w76 fun t78 =>
 R (.tuple #[t77, t78]) w76))
def S.tree_Split.an : Ann := (.seq .leaf (.seq (.seq .leaf (.cond (.seq .leaf .leaf) .leaf)) (.seq .leaf (.seq (.seq .leaf (.block (.rf .leaf (.block (.block (.join .leaf [18] [19,20,21,22,23,24] (.cond .leaf (.join .leaf [25] [26,27,28,29,30,31,32] (.cond (.seq .leaf .leaf) .leaf)))))) []))) (.seq .leaf .leaf)))))
theorem S.tree_Split.eq (a0 : Value) (w : World) (R : Value → World → Prop) : S.tree_Split a0 w R = fnC PP 34 (Tryz.f15.body.getD .skip) S.tree_Split.an [.cell 2 26, .cell 3 27] [a0] w R := by kernel_rfl
theorem S.tree_Split.calls {a0 : Value} {w : World} {R : Value → World → Prop} (h : S.tree_Split a0 w R) : Ca PP Fn.tree_Split #[a0] w R :=
  fnC_calls mixed (f := Fn.tree_Split) (an := S.tree_Split.an) Tryz.func15 rfl (by show _ ≤ _; exact Nat.le_of_ble_eq_true rfl) (S.tree_Split.eq a0 w R ▸ h)
/-- acheron/acheronlaw28.played -/
def S.law28_played (a0 a1 : Value) (w : World) (R : Value → World → Prop) : Prop :=
 Al Ty.law28_Setting (a0 : Value).cells w fun t1 w2 =>
 Fa 0 t1 fun t3 =>
 Ld t3 w2 fun t4 =>
 Fa 1 t1 fun t5 =>
 Ld t5 w2 fun t6 =>
 Ca PP Fn.tree_New #[t4, t6] w2 fun t7 w8 =>
 Ex t7 0 fun t9 =>
 Ex t7 1 fun t10 =>
 Bi .neq t10 (.int .i64 0) fun t11 =>
 Cnd t11 (
 R (.pointer none) w8) (
 LnL a1 fun t12 =>
 ∃ (I13 : List Value → World → Prop) (m14 : List Value → World → Nat), I13 [(.int .i64 0)] w8 ∧ ∀ t17, ∀ (u15 : Env) (w16 : World), I13 [t17] w16 →
 Bi .lss t17 t12 fun t18 =>
 Cnd t18 (
 IxA 20 a1 t17 fun t19 =>
 LdA PP 20 t19 w16 fun t20 =>
 Al Ty.law28_Act #[.int .i64 0, .int .i64 0, .int .i64 0, .string ⟨#[]⟩, .string ⟨#[]⟩, .int .i64 0, .int .i64 0, .int .i64 0, .int .i64 0, .string ⟨#[]⟩, .int .i64 0, .int .i64 0, .int .i64 0, .int .i64 0, .int .i64 0, .int .i64 0, .string ⟨#[]⟩, .string ⟨#[]⟩, .string ⟨#[]⟩, .string ⟨#[]⟩] w16 fun t21 w22 =>
 St PP 20 t21 t20 w22 fun w23 =>
 LdA PP 20 t21 w23 fun t24 =>
 Ca PP Fn.law28_Do #[t9, t24] w23 fun t25 w26 =>
 Bi .add t17 (.int .i64 1) fun t27 =>
 I13 [t27] w26 ∧ m14 [t27] w26 < m14 [t17] w16) (
 R t9 w16))
def S.law28_played.an : Ann := (.seq .leaf (.seq .leaf (.seq (.seq .leaf (.cond (.seq .leaf .leaf) .leaf)) (.seq (.seq .leaf (.block (.loop (.seq .leaf (.seq (.cond .leaf .leaf) (.seq (.block (.seq .leaf .leaf)) .leaf))) [21] [8,22,23,24,25,26,27,28]))) (.seq .leaf .leaf)))))
theorem S.law28_played.eq (a0 a1 : Value) (w : World) (R : Value → World → Prop) : S.law28_played a0 a1 w R = fnC PP 30 (Tryz.f19.body.getD .skip) S.law28_played.an [.tmp 4] [a0, a1] w R := by kernel_rfl
theorem S.law28_played.calls {a0 a1 : Value} {w : World} {R : Value → World → Prop} (h : S.law28_played a0 a1 w R) : Ca PP Fn.law28_played #[a0, a1] w R :=
  fnC_calls mixed (f := Fn.law28_played) (an := S.law28_played.an) Tryz.func19 rfl (by show _ ≤ _; exact Nat.le_of_ble_eq_true rfl) (S.law28_played.eq a0 a1 w R ▸ h)
/-- (*acheron/tree.Tree).Find -/
def S.tree_Tree_Find (a0 a1 : Value) (w : World) (R : Value → World → Prop) : Prop :=
 Al Ty.api_Qid #[.int .i64 0, .int .i64 0, .int .i64 0] w fun t1 w2 =>
 Rd PP (eqS .eql Ty.p_tree_Tree (.tmp 11) (.const (.pointer none)) a0 (.pointer none)) w2 fun t3 =>
 Cnd t3 (
 Bd #[.int .i64 0, .int .i64 0, .int .i64 0] [(0, 1), (1, 1), (2, 1)] [] fun t4 =>
 St PP 3 t1 t4 w2 fun w5 =>
 LdA PP 3 t1 w5 fun t6 =>
 R (.tuple #[t6, (.int .i64 6)]) w5) (
 ∀ J7 : List Value → World → Prop, (∀ t10, ∀ w9 : World, (∀ u8 : Env,
 Cnd t10 (
 Bd #[.int .i64 0, .int .i64 0, .int .i64 0] [(0, 1), (1, 1), (2, 1)] [] fun t11 =>
 St PP 3 t1 t11 w9 fun w12 =>
 LdA PP 3 t1 w12 fun t13 =>
 R (.tuple #[t13, (.int .i64 1)]) w12) (
 Ca PP Fn.tree_Split #[a1] w9 fun t14 w15 =>
 Ex t14 0 fun t16 =>
 Ex t14 1 fun t17 =>
 Bi .neq t17 (.int .i64 0) fun t18 =>
 Cnd t18 (
 Bd #[.int .i64 0, .int .i64 0, .int .i64 0] [(0, 1), (1, 1), (2, 1)] [] fun t19 =>
 St PP 3 t1 t19 w15 fun w20 =>
 LdA PP 3 t1 w20 fun t21 =>
 R (.tuple #[t21, t17]) w20) (
 Nc a0 fun t22 =>
 Fa 0 t22 fun t23 =>
 Ld t23 w15 fun t24 =>
 LnL t16 fun t25 =>
 ∃ (I26 : List Value → World → Prop) (m27 : List Value → World → Nat), I26 [t24, (.int .i64 0)] w15 ∧ ∀ t30 t31, ∀ (u28 : Env) (w29 : World), I26 [t30, t31] w29 →
 Bi .lss t31 t25 fun t32 =>
 Cnd t32 (
 IxA 1 t16 t31 fun t33 =>
 Ld t33 w29 fun t34 =>
 Ca PP Fn.tree_node_isDir #[t30] w29 fun t35 w36 =>
 Un .not t35 fun t37 =>
 Cnd t37 (
 Bd #[.int .i64 0, .int .i64 0, .int .i64 0] [(0, 1), (1, 1), (2, 1)] [] fun t38 =>
 St PP 3 t1 t38 w36 fun w39 =>
 LdA PP 3 t1 w39 fun t40 =>
 R (.tuple #[t40, (.int .i64 18)]) w39) (
 Nc t30 fun t41 =>
 Fa 11 t41 fun t42 =>
 Ld t42 w36 fun t43 =>
 Rd PP (Instr.lookup Ty.map_string_p_tree_node t43 t34 false) w36 fun t44 =>
 Rd PP (eqS .eql Ty.p_tree_node (.tmp 51) (.const (.pointer none)) t44 (.pointer none)) w36 fun t45 =>
 Cnd t45 (
 Bd #[.int .i64 0, .int .i64 0, .int .i64 0] [(0, 1), (1, 1), (2, 1)] [] fun t46 =>
 St PP 3 t1 t46 w36 fun w47 =>
 LdA PP 3 t1 w47 fun t48 =>
 R (.tuple #[t48, (.int .i64 4)]) w47) (
 Bi .add t31 (.int .i64 1) fun t49 =>
 I26 [t44, t49] w36 ∧ m27 [t44, t49] w36 < m27 [t30, t31] w29))) (
 Nc t30 fun t50 =>
 Fa 0 t50 fun t51 =>
 Fa 0 t51 fun t52 =>
 LdA PP 3 t52 w29 fun t53 =>
 St PP 3 t1 t53 w29 fun w54 =>
 LdA PP 3 t1 w54 fun t55 =>
 R (.tuple #[t55, (.int .i64 0)]) w54)))) → J7 [t10] w9) →
 Bi .eql a1 (.string ⟨#[]⟩) fun t56 =>
 Gd t56 false (fun k57 => k57 a1 w2) w2 fun t58 w59 =>
 Gd t56 false (fun k60 => IxS t58 (.int .i64 0) fun t63 =>
 k60 t63 w59) w59 fun t61 w62 =>
 Gd t56 false (fun k64 => Bi .neq t61 (.int .u8 47) fun t67 =>
 k64 t67 w62) w62 fun t65 w66 =>
 Pk t56 (.bool true) t65 fun t68 =>
 J7 [t68] w66)
def S.tree_Tree_Find.an : Ann := (.seq .leaf (.seq (.seq .leaf (.cond (.seq .leaf .leaf) .leaf)) (.seq (.join .leaf [20] [14,15,16,17,18,19] (.cond (.seq .leaf .leaf) .leaf)) (.seq .leaf (.seq (.seq .leaf (.cond (.seq .leaf .leaf) .leaf)) (.seq .leaf (.seq (.seq .leaf (.block (.loop (.seq .leaf (.seq (.cond .leaf .leaf) (.seq (.block (.seq .leaf (.seq (.seq .leaf (.cond (.seq .leaf .leaf) .leaf)) (.seq .leaf (.seq .leaf (.cond (.seq .leaf .leaf) .leaf)))))) .leaf))) [8,37] [5,10,38,39,40,41,42,43,44,45,46,47,48,49,50,51,52,53,54]))) (.seq .leaf .leaf))))))))
theorem S.tree_Tree_Find.eq (a0 a1 : Value) (w : World) (R : Value → World → Prop) : S.tree_Tree_Find a0 a1 w R = fnC PP 60 (Tryz.f20.body.getD .skip) S.tree_Tree_Find.an [.cell 4 37, .tmp 5] [a0, a1] w R := by kernel_rfl
theorem S.tree_Tree_Find.calls {a0 a1 : Value} {w : World} {R : Value → World → Prop} (h : S.tree_Tree_Find a0 a1 w R) : Ca PP Fn.tree_Tree_Find #[a0, a1] w R :=
  fnC_calls mixed (f := Fn.tree_Tree_Find) (an := S.tree_Tree_Find.an) Tryz.func20 rfl (by show _ ≤ _; exact Nat.le_of_ble_eq_true rfl) (S.tree_Tree_Find.eq a0 a1 w R ▸ h)
/-- acheron/tree.New -/
def S.tree_New (a0 a1 : Value) (w : World) (R : Value → World → Prop) : Prop :=
 Ef PP (Instr.buildSlice Ty.sl_string 1 #[(0, a0)]) w fun t1 w2 =>
 Ca PP Fn.tree_check #[a1, t1] w2 fun t3 w4 =>
 Bi .neq t3 (.int .i64 0) fun t5 =>
 Cnd t5 (
 R (.tuple #[(.pointer none), t3]) w4) (
 Ca PP Fn.tree_empty #[a1] w4 fun t6 w7 =>
 MkM w7 fun t8 w9 =>
 Bd #[.int .i64 0, .int .i64 0, .int .i64 0, .int .i64 0, .int .i64 0, .int .i64 0, .string ⟨#[]⟩, .string ⟨#[]⟩, .string ⟨#[]⟩, .string ⟨#[]⟩, .slice none 0 0, .map none, .pointer none, .bool false] [(0, 10), (10, 1), (11, 1), (12, 1), (13, 1)] [(2, t8)] fun t10 =>
 Al Ty.tree_node (t10 : Value).cells w9 fun t11 w12 =>
 Nc t6 fun t13 =>
 Fa 0 t13 fun t14 =>
 St PP 1 t14 t11 w12 fun w15 =>
 Nc t6 fun t16 =>
 Fa 0 t16 fun t17 =>
 Ld t17 w15 fun t18 =>
 Bd #[.int .i64 0, .int .i64 0, .int .i64 0, .int .i64 0, .int .i64 0, .int .i64 0, .string ⟨#[]⟩, .string ⟨#[]⟩, .string ⟨#[]⟩, .string ⟨#[]⟩] [(0, 3), (3, 1), (4, 1), (5, 1), (6, 1), (7, 1), (8, 1), (9, 1)] [(5, a0), (6, a0), (7, a0)] fun t19 =>
 Nc t18 fun t20 =>
 Fa 0 t20 fun t21 =>
 St PP 10 t21 t19 w15 fun w22 =>
 Nc t6 fun t23 =>
 Fa 0 t23 fun t24 =>
 Ld t24 w22 fun t25 =>
 Ca PP Fn.tree_node_is #[t25, (.int .i64 2147484157)] w22 fun t26 w27 =>
 Dr w27 fun w28 =>
 Nc t6 fun t29 =>
 Fa 1 t29 fun t30 =>
 Ld t30 w28 fun t31 =>
 Nc t6 fun t32 =>
 Fa 0 t32 fun t33 =>
 Ld t33 w28 fun t34 =>
 Ef PP (Instr.mapUpdate Ty.map_int64_p_tree_node t31 (.int .i64 0) t34) w28 fun _ w35 =>
 R (.tuple #[t6, (.int .i64 0)]) w35)
def S.tree_New.an : Ann := (.seq .leaf (.seq (.seq .leaf (.seq .leaf (.cond (.seq .leaf .leaf) .leaf))) (.seq .leaf (.seq .leaf (.seq .leaf (.seq .leaf (.seq (.draw [[],[0],[0,1],[0,1,2],[],[4],[4,5],[4,5,6],[0,1,2,3,4,5,6,7]] (.calm 0 (.calm 1 (.calm 2 (.calm 3 (.calm 4 (.calm 5 (.calm 6 (.calm 7 (.eff1 8 [] .done)))))))))) (.seq .leaf .leaf))))))))
theorem S.tree_New.eq (a0 a1 : Value) (w : World) (R : Value → World → Prop) : S.tree_New a0 a1 w R = fnC PP 47 (Tryz.f21.body.getD .skip) S.tree_New.an [.tmp 4, .tmp 5] [a0, a1] w R := by kernel_rfl
theorem S.tree_New.calls {a0 a1 : Value} {w : World} {R : Value → World → Prop} (h : S.tree_New a0 a1 w R) : Ca PP Fn.tree_New #[a0, a1] w R :=
  fnC_calls mixed (f := Fn.tree_New) (an := S.tree_New.an) Tryz.func21 rfl (by show _ ≤ _; exact Nat.le_of_ble_eq_true rfl) (S.tree_New.eq a0 a1 w R ▸ h)
/-- (*acheron/tree.Tree).Create -/
def S.tree_Tree_Create (a0 a1 a2 a3 a4 a5 : Value) (w : World) (R : Value → World → Prop) : Prop :=
 Al Ty.api_Qid #[.int .i64 0, .int .i64 0, .int .i64 0] w fun t1 w2 =>
 Rd PP (eqS .eql Ty.p_tree_Tree (.tmp 19) (.const (.pointer none)) a0 (.pointer none)) w2 fun t3 =>
 Cnd t3 (
 Bd #[.int .i64 0, .int .i64 0, .int .i64 0] [(0, 1), (1, 1), (2, 1)] [] fun t4 =>
 St PP 3 t1 t4 w2 fun w5 =>
 LdA PP 3 t1 w5 fun t6 =>
 R (.tuple #[(.int .i64 0), t6, (.int .i64 6)]) w5) (
 ∀ J7 : List Value → World → Prop, (∀ t10, ∀ w9 : World, (∀ u8 : Env,
 Cnd t10 (
 Bd #[.int .i64 0, .int .i64 0, .int .i64 0] [(0, 1), (1, 1), (2, 1)] [] fun t11 =>
 St PP 3 t1 t11 w9 fun w12 =>
 LdA PP 3 t1 w12 fun t13 =>
 R (.tuple #[(.int .i64 0), t13, (.int .i64 20)]) w12) (
 Ca PP Fn.tree_Tree_folder #[a0, a2] w9 fun t14 w15 =>
 Ex t14 0 fun t16 =>
 Ex t14 1 fun t17 =>
 Bi .neq t17 (.int .i64 0) fun t18 =>
 Cnd t18 (
 Bd #[.int .i64 0, .int .i64 0, .int .i64 0] [(0, 1), (1, 1), (2, 1)] [] fun t19 =>
 St PP 3 t1 t19 w15 fun w20 =>
 LdA PP 3 t1 w20 fun t21 =>
 R (.tuple #[(.int .i64 0), t21, t17]) w20) (
 ∀ J22 : List Value → World → Prop, (∀ t25, ∀ w24 : World, (∀ u23 : Env,
 Cnd t25 (
 Bd #[.int .i64 0, .int .i64 0, .int .i64 0] [(0, 1), (1, 1), (2, 1)] [] fun t26 =>
 St PP 3 t1 t26 w24 fun w27 =>
 LdA PP 3 t1 w27 fun t28 =>
 R (.tuple #[(.int .i64 0), t28, (.int .i64 8)]) w27) (
 Ca PP Fn.tree_Tree_may #[a0, a1, t16, (.int .i64 2)] w24 fun t29 w30 =>
 Un .not t29 fun t31 =>
 Cnd t31 (
 Bd #[.int .i64 0, .int .i64 0, .int .i64 0] [(0, 1), (1, 1), (2, 1)] [] fun t32 =>
 St PP 3 t1 t32 w30 fun w33 =>
 LdA PP 3 t1 w33 fun t34 =>
 R (.tuple #[(.int .i64 0), t34, (.int .i64 17)]) w33) (
 Nc t16 fun t35 =>
 Fa 11 t35 fun t36 =>
 Ld t36 w30 fun t37 =>
 Rd PP (Instr.lookup Ty.map_string_p_tree_node t37 a3 false) w30 fun t38 =>
 Rd PP (eqS .neq Ty.p_tree_node (.tmp 74) (.const (.pointer none)) t38 (.pointer none)) w30 fun t39 =>
 Cnd t39 (
 Bd #[.int .i64 0, .int .i64 0, .int .i64 0] [(0, 1), (1, 1), (2, 1)] [] fun t40 =>
 St PP 3 t1 t40 w30 fun w41 =>
 LdA PP 3 t1 w41 fun t42 =>
 R (.tuple #[(.int .i64 0), t42, (.int .i64 5)]) w41) (
 ∀ J43 : List Value → World → Prop, (∀ t46, ∀ w45 : World, (∀ u44 : Env,
 Cnd t46 (
 Bd #[.int .i64 0, .int .i64 0, .int .i64 0] [(0, 1), (1, 1), (2, 1)] [] fun t47 =>
 St PP 3 t1 t47 w45 fun w48 =>
 LdA PP 3 t1 w48 fun t49 =>
 R (.tuple #[(.int .i64 0), t49, (.int .i64 3)]) w48) (
 Ef PP (Instr.buildSlice Ty.sl_p_tree_node 1 #[(0, t16)]) w45 fun t50 w51 =>
 Ca PP Fn.tree_Tree_change #[a0, a1, t50] w51 fun t52 w53 =>
 Bd #[.int .i64 0, .int .i64 0, .int .i64 0, .int .i64 0, .int .i64 0, .int .i64 0, .string ⟨#[]⟩, .string ⟨#[]⟩, .string ⟨#[]⟩, .string ⟨#[]⟩, .slice none 0 0, .map none, .pointer none, .bool false] [(0, 10), (10, 1), (11, 1), (12, 1), (13, 1)] [(3, t16)] fun t54 =>
 Al Ty.tree_node (t54 : Value).cells w53 fun t55 w56 =>
 Dr w56 fun w57 =>
 Nc a0 fun t58 =>
 Fa 3 t58 fun t59 =>
 Ld t59 w57 fun t60 =>
 Bd #[.int .i64 0, .int .i64 0, .int .i64 0] [(0, 1), (1, 1), (2, 1)] [(2, t60)] fun t61 =>
 Nc a0 fun t62 =>
 Fa 4 t62 fun t63 =>
 Ld t63 w57 fun t64 =>
 Nc t16 fun t65 =>
 Fa 0 t65 fun t66 =>
 Fa 8 t66 fun t67 =>
 Ld t67 w57 fun t68 =>
 Bd #[.int .i64 0, .int .i64 0, .int .i64 0, .int .i64 0, .int .i64 0, .int .i64 0, .string ⟨#[]⟩, .string ⟨#[]⟩, .string ⟨#[]⟩, .string ⟨#[]⟩] [(0, 3), (3, 1), (4, 1), (5, 1), (6, 1), (7, 1), (8, 1), (9, 1)] [(0, t61), (2, t64), (4, a3), (5, a1), (6, t68), (7, a1)] fun t69 =>
 Nc t55 fun t70 =>
 Fa 0 t70 fun t71 =>
 St PP 10 t71 t69 w57 fun w72 =>
 ∀ J73 : List Value → World → Prop, (∀ t76, ∀ w75 : World, (∀ u74 : Env,
 Un .xor t76 fun t77 =>
 Nc t16 fun t78 =>
 Fa 0 t78 fun t79 =>
 Fa 3 t79 fun t80 =>
 Ld t80 w75 fun t81 =>
 Bi .and t81 t76 fun t82 =>
 Bi .or t77 t82 fun t83 =>
 Bi .and a4 t83 fun t84 =>
 Ca PP Fn.tree_node_is #[t55, t84] w75 fun t85 w86 =>
 Dr w86 fun w87 =>
 Nc a0 fun t88 =>
 Fa 1 t88 fun t89 =>
 Ld t89 w87 fun t90 =>
 Nc a0 fun t91 =>
 Fa 3 t91 fun t92 =>
 Ld t92 w87 fun t93 =>
 Ef PP (Instr.mapUpdate Ty.map_int64_p_tree_node t90 t93 t55) w87 fun _ w94 =>
 Nc t16 fun t95 =>
 Fa 11 t95 fun t96 =>
 Ld t96 w94 fun t97 =>
 Ef PP (Instr.mapUpdate Ty.map_string_p_tree_node t97 a3 t55) w94 fun _ w98 =>
 Nc a0 fun t99 =>
 Fa 3 t99 fun t100 =>
 Ld t100 w98 fun t101 =>
 Bi .add t101 (.int .i64 1) fun t102 =>
 Nc a0 fun t103 =>
 Fa 3 t103 fun t104 =>
 St PP 1 t104 t102 w98 fun w105 =>
 Ca PP Fn.tree_Tree_handle #[a0, t55, a5, a1] w105 fun t106 w107 =>
 Ex t106 0 fun t108 =>
 Ex t106 1 fun t109 =>
 Ex t106 2 fun t110 =>
 St PP 3 t1 t109 w107 fun w111 =>
 LdA PP 3 t1 w111 fun t112 =>
 R (.tuple #[t108, t112, t110]) w111) → J73 [t76] w75) →
 Bi .and a4 (.int .i64 2147483648) fun t113 =>
 Bi .neq t113 (.int .i64 0) fun t114 =>
 Cnd t114 (
 MkM w72 fun t115 w116 =>
 Nc t55 fun t117 =>
 Fa 11 t117 fun t118 =>
 St PP 1 t118 t115 w116 fun w119 =>
 J73 [(.int .i64 511)] w119) (
 J73 [(.int .i64 438)] w72))) → J43 [t46] w45) →
 Nc a0 fun t120 =>
 Fa 1 t120 fun t121 =>
 Ld t121 w30 fun t122 =>
 Rd PP (Builtin.len_ #[Ty.map_int64_p_tree_node] Ty.int #[t122]) w30 fun t123 =>
 Bi .geq t123 (.int .i64 1024) fun t124 =>
 Gd t124 false (fun k125 => k125 a0 w30) w30 fun t126 w127 =>
 Gd t124 false (fun k128 => Ca PP Fn.tree_Tree_room #[t126] w127 fun t131 w132 =>
 k128 t131 w132) w127 fun t129 w130 =>
 Gd t124 false (fun k133 => Un .not t129 fun t136 =>
 k133 t136 w130) w130 fun t134 w135 =>
 Pk t124 (.bool true) t134 fun t137 =>
 J43 [t137] w135)))) → J22 [t25] w24) →
 Ca PP Fn.tree_Valid #[a3] w15 fun t138 w139 =>
 Un .not t138 fun t140 =>
 Gd t140 false (fun k141 => k141 a1 w139) w139 fun t142 w143 =>
 Gd t140 false (fun k144 => Ca PP Fn.tree_Valid #[t142] w143 fun t147 w148 =>
 k144 t147 w148) w143 fun t145 w146 =>
 Gd t140 false (fun k149 => Un .not t145 fun t152 =>
 k149 t152 w146) w146 fun t150 w151 =>
 Pk t140 (.bool true) t150 fun t153 =>
 J22 [t153] w151))) → J7 [t10] w9) →
 Bi .andNot a5 (.int .i64 83) fun t154 =>
 Bi .neq t154 (.int .i64 0) fun t155 =>
 Gd t155 false (fun k156 => k156 a4 w2) w2 fun t157 w158 =>
 Gd t155 false (fun k159 => Ca PP Fn.tree_right #[t157] w158 fun t162 w163 =>
 k159 t162 w163) w158 fun t160 w161 =>
 Gd t155 false (fun k164 => Un .not t160 fun t167 =>
 k164 t167 w161) w161 fun t165 w166 =>
 Pk t155 (.bool true) t165 fun t168 =>
 Gd t168 false (fun k169 => k169 a4 w166) w166 fun t170 w171 =>
 Gd t168 false (fun k172 => Bi .and t170 (.int .i64 2147483648) fun t175 =>
 k172 t175 w171) w171 fun t173 w174 =>
 Gd t168 false (fun k176 => Bi .neq t173 (.int .i64 0) fun t179 =>
 k176 t179 w174) w174 fun t177 w178 =>
 Gd t168 false (fun k180 => k180 t177 w178) w178 fun t181 w182 =>
 Gd t181 true (fun k183 => k183 a5 w182) w182 fun t184 w185 =>
 Gd t181 true (fun k186 => Bi .neq t184 (.int .i64 0) fun t189 =>
 k186 t189 w185) w185 fun t187 w188 =>
 Gd t168 false (fun k190 => Pk t181 t187 (.bool false) fun t193 =>
 k190 t193 w188) w188 fun t191 w192 =>
 Pk t168 (.bool true) t191 fun t194 =>
 J7 [t194] w192)
def S.tree_Tree_Create.an : Ann := (.seq .leaf (.seq (.seq .leaf (.cond (.seq .leaf .leaf) .leaf)) (.seq (.join .leaf [38] [22,23,24,25,26,27,28,29,30,31,32,33,34,35,36,37] (.cond (.seq .leaf .leaf) .leaf)) (.seq .leaf (.seq (.block (.seq .leaf (.cond (.seq .leaf .leaf) (.join .leaf [51] [52,53,54,55,56,57,58,59] (.cond (.seq .leaf .leaf) (.seq .leaf (.cond (.seq .leaf .leaf) (.seq .leaf (.cond (.seq .leaf .leaf) (.join .leaf [77] [78,79,80,81,82,83,84,85,86,87,88] (.cond (.seq .leaf .leaf) .leaf))))))))))) (.seq .leaf (.seq .leaf (.seq (.draw [[],[],[1],[1,2],[1,2,3],[1,2,3,4],[],[6],[6,7],[6,7,8],[],[],[],[12],[12,13],[12,13,14],[12,13,14,15],[],[1,2,3,4,5,6,7,8,9,10,11,12,13,14,15,16,17],[0,1,2,3,4,5,6,7,8,9,10,11,12,13,14,15,16,17,18],[0,1,2,3,4,5,6,7,8,9,10,11,12,13,14,15,16,17,18,19],[0,1,2,3,4,5,6,7,8,9,10,11,12,13,14,15,16,17,18,19,20]] (.calm 0 (.calm 1 (.calm 2 (.calm 3 (.calm 4 (.calm 5 (.calm 6 (.calm 7 (.calm 8 (.calm 9 (.calm 10 (.calm 11 (.calm 12 (.calm 13 (.calm 14 (.calm 15 (.calm 16 (.calm 17 (.calm 18 (.calm 19 (.calm 20 (.eff1 21 [] .done))))))))))))))))))))))) (.seq .leaf (.join (.seq .leaf (.cond .leaf .leaf)) [18] [119,120,121,122,123,124,125] (.seq .leaf (.seq (.draw [[],[0],[0,1],[0,1,2],[],[4],[4,5],[4,5,6],[],[0,1,2,3,4,5,6,7,8]] (.calm 0 (.calm 1 (.calm 2 (.calm 3 (.calm 4 (.calm 5 (.calm 6 (.calm 7 (.calm 8 (.eff1 9 [] .done))))))))))) (.seq .leaf (.seq .leaf (.seq .leaf .leaf)))))))))))))))
theorem S.tree_Tree_Create.eq (a0 a1 a2 a3 a4 a5 : Value) (w : World) (R : Value → World → Prop) : S.tree_Tree_Create a0 a1 a2 a3 a4 a5 w R = fnC PP 170 (Tryz.f22.body.getD .skip) S.tree_Tree_Create.an [.tmp 12, .cell 13 37, .tmp 14] [a0, a1, a2, a3, a4, a5] w R := by kernel_rfl
theorem S.tree_Tree_Create.calls {a0 a1 a2 a3 a4 a5 : Value} {w : World} {R : Value → World → Prop} (h : S.tree_Tree_Create a0 a1 a2 a3 a4 a5 w R) : Ca PP Fn.tree_Tree_Create #[a0, a1, a2, a3, a4, a5] w R :=
  fnC_calls mixed (f := Fn.tree_Tree_Create) (an := S.tree_Tree_Create.an) Tryz.func22 rfl (by show _ ≤ _; exact Nat.le_of_ble_eq_true rfl) (S.tree_Tree_Create.eq a0 a1 a2 a3 a4 a5 w R ▸ h)
/-- (*acheron/tree.Tree).Close -/
def S.tree_Tree_Close (a0 a1 : Value) (w : World) (R : Value → World → Prop) : Prop :=
 Ca PP Fn.tree_Tree_opened #[a0, a1] w fun t1 w2 =>
 Ex t1 0 fun t3 =>
 Ex t1 1 fun t4 =>
 Al Ty.tree_handle #[.pointer none, .int .i64 0, .string ⟨#[]⟩] w2 fun t5 w6 =>
 St PP 3 t5 t3 w6 fun w7 =>
 Bi .neq t4 (.int .i64 0) fun t8 =>
 Cnd t8 (
 R t4 w7) (
 Nc a0 fun t9 =>
 Fa 5 t9 fun t10 =>
 Ld t10 w7 fun t11 =>
 Ef PP (Builtin.delete_ #[Ty.map_int_tree_handle, Ty.int] Ty.t #[t11, a1]) w7 fun x_12 w13 =>
 ∀ J14 : List Value → World → Prop, (∀ w16 : World, (∀ u15 : Env,
 R (.int .i64 0) w16) → J14 [] w16) →
 ∀ J17 : List Value → World → Prop, (∀ t20, ∀ w19 : World, (∀ u18 : Env,
 Cnd t20 (
 Fa 2 t5 fun t21 =>
 Ld t21 w19 fun t22 =>
 Fa 0 t5 fun t23 =>
 Ld t23 w19 fun t24 =>
 Ca PP Fn.tree_Tree_remove #[a0, t22, t24] w19 fun t25 w26 =>
 J14 [] w26) (
 J14 [] w19)) → J17 [t20] w19) →
 Fa 1 t5 fun t27 =>
 Ld t27 w13 fun t28 =>
 Bi .and t28 (.int .i64 64) fun t29 =>
 Bi .neq t29 (.int .i64 0) fun t30 =>
 Gd t30 true (fun k31 => Fa 0 t5 fun t34 =>
 k31 t34 w13) w13 fun t32 w33 =>
 Gd t30 true (fun k35 => Ld t32 w33 fun t38 =>
 k35 t38 w33) w33 fun t36 w37 =>
 Gd t30 true (fun k39 => Nc t36 fun t42 =>
 k39 t42 w37) w37 fun t40 w41 =>
 Gd t30 true (fun k43 => Fa 13 t40 fun t46 =>
 k43 t46 w41) w41 fun t44 w45 =>
 Gd t30 true (fun k47 => Ld t44 w45 fun t50 =>
 k47 t50 w45) w45 fun t48 w49 =>
 Gd t30 true (fun k51 => Un .not t48 fun t54 =>
 k51 t54 w49) w49 fun t52 w53 =>
 Pk t30 t52 (.bool false) fun t55 =>
 J17 [t55] w53)
def S.tree_Tree_Close.an : Ann := (.seq .leaf (.seq .leaf (.seq (.seq .leaf (.cond (.seq .leaf .leaf) .leaf)) (.seq .leaf (.join (.join .leaf [32] [21,22,23,24,25,26,27,28,29,30,31] (.cond .leaf .leaf)) [] [21,22,23,24,25,26,27,28,29,30,31,32,33,34,35,36,37,38] (.seq .leaf .leaf))))))
theorem S.tree_Tree_Close.eq (a0 a1 : Value) (w : World) (R : Value → World → Prop) : S.tree_Tree_Close a0 a1 w R = fnC PP 39 (Tryz.f23.body.getD .skip) S.tree_Tree_Close.an [.tmp 4] [a0, a1] w R := by kernel_rfl
theorem S.tree_Tree_Close.calls {a0 a1 : Value} {w : World} {R : Value → World → Prop} (h : S.tree_Tree_Close a0 a1 w R) : Ca PP Fn.tree_Tree_Close #[a0, a1] w R :=
  fnC_calls mixed (f := Fn.tree_Tree_Close) (an := S.tree_Tree_Close.an) Tryz.func23 rfl (by show _ ≤ _; exact Nat.le_of_ble_eq_true rfl) (S.tree_Tree_Close.eq a0 a1 w R ▸ h)
/-- (*acheron/tree.Tree).Write -/
def S.tree_Tree_Write (a0 a1 a2 a3 : Value) (w : World) (R : Value → World → Prop) : Prop :=
 Ca PP Fn.tree_Tree_opened #[a0, a1] w fun t1 w2 =>
 Ex t1 0 fun t3 =>
 Ex t1 1 fun t4 =>
 Al Ty.tree_handle #[.pointer none, .int .i64 0, .string ⟨#[]⟩] w2 fun t5 w6 =>
 St PP 3 t5 t3 w6 fun w7 =>
 Bi .neq t4 (.int .i64 0) fun t8 =>
 Cnd t8 (
 R (.tuple #[(.int .i64 0), t4]) w7) (
 ∀ J9 : List Value → World → Prop, (∀ t12, ∀ w11 : World, (∀ u10 : Env,
 Cnd t12 (
 R (.tuple #[(.int .i64 0), (.int .i64 20)]) w11) (
 Fa 0 t5 fun t13 =>
 Ld t13 w11 fun t14 =>
 Nc t14 fun t15 =>
 Fa 13 t15 fun t16 =>
 Ld t16 w11 fun t17 =>
 Cnd t17 (
 R (.tuple #[(.int .i64 0), (.int .i64 4)]) w11) (
 Bi .lss a2 (.int .i64 0) fun t18 =>
 Cnd t18 (
 R (.tuple #[(.int .i64 0), (.int .i64 11)]) w11) (
 Bi .eql a3 (.string ⟨#[]⟩) fun t19 =>
 Cnd t19 (
 R (.tuple #[(.int .i64 0), (.int .i64 0)]) w11) (
 ∀ J20 : List Value → World → Prop, (∀ t23, ∀ w22 : World, (∀ u21 : Env,
 ∀ J24 : List Value → World → Prop, (∀ t27, ∀ w26 : World, (∀ u25 : Env,
 Cnd t27 (
 R (.tuple #[(.int .i64 0), (.int .i64 3)]) w26) (
 Dr w26 fun w28 =>
 Fa 0 t5 fun t29 =>
 Ld t29 w28 fun t30 =>
 Fa 0 t5 fun t31 =>
 Ld t31 w28 fun t32 =>
 Nc t32 fun t33 =>
 Fa 10 t33 fun t34 =>
 Ld t34 w28 fun t35 =>
 LnL t35 fun t36 =>
 LnS a3 fun t37 =>
 Bi .add t23 t37 fun t38 =>
 Mx t36 t38 fun t39 =>
 Ca PP Fn.tree_node_resize #[t30, t39] w28 fun t40 w41 =>
 Fa 0 t5 fun t42 =>
 Ld t42 w41 fun t43 =>
 Nc t43 fun t44 =>
 Fa 10 t44 fun t45 =>
 Ld t45 w41 fun t46 =>
 Sl 1 t46 (some t23) none fun t47 =>
 Ef PP (Builtin.copy_ #[Ty.sl_uint8, Ty.string] Ty.int #[t47, a3]) w41 fun t48 w49 =>
 Fa 2 t5 fun t50 =>
 Ld t50 w49 fun t51 =>
 Fa 0 t5 fun t52 =>
 Ld t52 w49 fun t53 =>
 Ef PP (Instr.buildSlice Ty.sl_p_tree_node 1 #[(0, t53)]) w49 fun t54 w55 =>
 Ca PP Fn.tree_Tree_change #[a0, t51, t54] w55 fun t56 w57 =>
 LnS a3 fun t58 =>
 R (.tuple #[t58, (.int .i64 0)]) w57)) → J24 [t27] w26) →
 LnS a3 fun t59 =>
 Bi .gtr t59 (.int .i64 1048576) fun t60 =>
 Gd t60 false (fun k61 => k61 t23 w22) w22 fun t62 w63 =>
 Gd t60 false (fun k64 => k64 a3 w63) w63 fun t65 w66 =>
 Gd t60 false (fun k67 => LnS t65 fun t70 =>
 k67 t70 w66) w66 fun t68 w69 =>
 Gd t60 false (fun k71 => Bi .sub (.int .i64 1048576) t68 fun t74 =>
 k71 t74 w69) w69 fun t72 w73 =>
 Gd t60 false (fun k75 => Bi .gtr t62 t72 fun t78 =>
 k75 t78 w73) w73 fun t76 w77 =>
 Pk t60 (.bool true) t76 fun t79 =>
 J24 [t79] w77) → J20 [t23] w22) →
 Fa 0 t5 fun t80 =>
 Ld t80 w11 fun t81 =>
 Nc t81 fun t82 =>
 Fa 0 t82 fun t83 =>
 Fa 3 t83 fun t84 =>
 Ld t84 w11 fun t85 =>
 Bi .and t85 (.int .i64 1073741824) fun t86 =>
 Bi .neq t86 (.int .i64 0) fun t87 =>
 Cnd t87 (
 Fa 0 t5 fun t88 =>
 Ld t88 w11 fun t89 =>
 Nc t89 fun t90 =>
 Fa 10 t90 fun t91 =>
 Ld t91 w11 fun t92 =>
 LnL t92 fun t93 =>
 J20 [t93] w11) (
 J20 [a2] w11)))))) → J9 [t12] w11) →
 Fa 1 t5 fun t94 =>
 Ld t94 w7 fun t95 =>
 Bi .and t95 (.int .i64 3) fun t96 =>
 Bi .neq t96 (.int .i64 1) fun t97 =>
 Gd t97 true (fun k98 => Fa 1 t5 fun t101 =>
 k98 t101 w7) w7 fun t99 w100 =>
 Gd t97 true (fun k102 => Ld t99 w100 fun t105 =>
 k102 t105 w100) w100 fun t103 w104 =>
 Gd t97 true (fun k106 => Bi .and t103 (.int .i64 3) fun t109 =>
 k106 t109 w104) w104 fun t107 w108 =>
 Gd t97 true (fun k110 => Bi .neq t107 (.int .i64 2) fun t113 =>
 k110 t113 w108) w108 fun t111 w112 =>
 Pk t97 t111 (.bool false) fun t114 =>
 J9 [t114] w112)
def S.tree_Tree_Write.an : Ann := (.seq .leaf (.seq .leaf (.seq (.block (.seq .leaf (.cond (.seq .leaf .leaf) (.join .leaf [22] [23,24,25,26,27,28,29,30,31,32] (.cond (.seq .leaf .leaf) (.seq .leaf (.cond (.seq .leaf .leaf) (.seq .leaf (.cond (.seq .leaf .leaf) (.seq .leaf (.cond (.seq .leaf .leaf) .leaf))))))))))) (.join (.seq .leaf (.cond .leaf .leaf)) [2] [45,46,47,48,49,50,51,52,53,54,55,56,57,58] (.seq (.join .leaf [68] [59,60,61,62,63,64,65,66,67] (.cond (.seq .leaf .leaf) .leaf)) (.seq (.draw [[],[0],[],[2],[2,3],[2,3,4],[2,3,4,5],[2,3,4,5,6],[],[],[9],[8,9,10],[2,3,4,5,6,7,8,9,10,11],[0,1,2,3,4,5,6,7,8,9,10,11,12]] (.calm 0 (.calm 1 (.calm 2 (.calm 3 (.calm 4 (.calm 5 (.calm 6 (.calm 7 (.calm 8 (.calm 9 (.calm 10 (.calm 11 (.calm 12 (.eff1 13 [] .done))))))))))))))) (.seq .leaf (.seq .leaf (.seq .leaf .leaf)))))))))
theorem S.tree_Tree_Write.eq (a0 a1 a2 a3 : Value) (w : World) (R : Value → World → Prop) : S.tree_Tree_Write a0 a1 a2 a3 w R = fnC PP 101 (Tryz.f24.body.getD .skip) S.tree_Tree_Write.an [.tmp 8, .tmp 9] [a0, a1, a2, a3] w R := by kernel_rfl
theorem S.tree_Tree_Write.calls {a0 a1 a2 a3 : Value} {w : World} {R : Value → World → Prop} (h : S.tree_Tree_Write a0 a1 a2 a3 w R) : Ca PP Fn.tree_Tree_Write #[a0, a1, a2, a3] w R :=
  fnC_calls mixed (f := Fn.tree_Tree_Write) (an := S.tree_Tree_Write.an) Tryz.func24 rfl (by show _ ≤ _; exact Nat.le_of_ble_eq_true rfl) (S.tree_Tree_Write.eq a0 a1 a2 a3 w R ▸ h)
/-- (*acheron/tree.Tree).Stat -/
def S.tree_Tree_Stat (a0 a1 a2 : Value) (w : World) (R : Value → World → Prop) : Prop :=
 Al Ty.api_Dir #[.int .i64 0, .int .i64 0, .int .i64 0, .int .i64 0, .int .i64 0, .int .i64 0, .string ⟨#[]⟩, .string ⟨#[]⟩, .string ⟨#[]⟩, .string ⟨#[]⟩] w fun t1 w2 =>
 Ca PP Fn.tree_Tree_find #[a0, a2] w2 fun t3 w4 =>
 Ex t3 0 fun t5 =>
 Ex t3 1 fun t6 =>
 Bi .neq t6 (.int .i64 0) fun t7 =>
 Cnd t7 (
 Bd #[.int .i64 0, .int .i64 0, .int .i64 0, .int .i64 0, .int .i64 0, .int .i64 0, .string ⟨#[]⟩, .string ⟨#[]⟩, .string ⟨#[]⟩, .string ⟨#[]⟩] [(0, 3), (3, 1), (4, 1), (5, 1), (6, 1), (7, 1), (8, 1), (9, 1)] [] fun t8 =>
 St PP 10 t1 t8 w4 fun w9 =>
 LdA PP 10 t1 w9 fun t10 =>
 R (.tuple #[t10, t6]) w9) (
 Ca PP Fn.tree_node_stat #[t5] w4 fun t11 w12 =>
 St PP 10 t1 t11 w12 fun w13 =>
 LdA PP 10 t1 w13 fun t14 =>
 R (.tuple #[t14, (.int .i64 0)]) w13)
def S.tree_Tree_Stat.an : Ann := (.seq .leaf (.seq .leaf (.seq (.seq .leaf (.cond (.seq .leaf .leaf) .leaf)) (.seq .leaf .leaf))))
theorem S.tree_Tree_Stat.eq (a0 a1 a2 : Value) (w : World) (R : Value → World → Prop) : S.tree_Tree_Stat a0 a1 a2 w R = fnC PP 22 (Tryz.f25.body.getD .skip) S.tree_Tree_Stat.an [.cell 6 51, .tmp 7] [a0, a1, a2] w R := by kernel_rfl
theorem S.tree_Tree_Stat.calls {a0 a1 a2 : Value} {w : World} {R : Value → World → Prop} (h : S.tree_Tree_Stat a0 a1 a2 w R) : Ca PP Fn.tree_Tree_Stat #[a0, a1, a2] w R :=
  fnC_calls mixed (f := Fn.tree_Tree_Stat) (an := S.tree_Tree_Stat.an) Tryz.func25 rfl (by show _ ≤ _; exact Nat.le_of_ble_eq_true rfl) (S.tree_Tree_Stat.eq a0 a1 a2 w R ▸ h)
/-- acheron/acheronlaw28.Do -/
def S.law28_Do (a0 a1 : Value) (w : World) (R : Value → World → Prop) : Prop :=
 Al Ty.law28_Act (a1 : Value).cells w fun t1 w2 =>
 Al Ty.law28_Answer #[.int .i64 0, .int .i64 0, .int .i64 0, .int .i64 0, .int .i64 0, .int .i64 0, .int .i64 0, .int .i64 0, .int .i64 0, .string ⟨#[]⟩, .string ⟨#[]⟩, .string ⟨#[]⟩, .string ⟨#[]⟩, .int .i64 0, .string ⟨#[]⟩, .slice none 0 0, .int .i64 0] w2 fun t3 w4 =>
 Bd #[.int .i64 0, .int .i64 0, .int .i64 0, .int .i64 0, .int .i64 0, .int .i64 0, .int .i64 0, .int .i64 0, .int .i64 0, .string ⟨#[]⟩, .string ⟨#[]⟩, .string ⟨#[]⟩, .string ⟨#[]⟩, .int .i64 0, .string ⟨#[]⟩, .slice none 0 0, .int .i64 0] [(0, 3), (3, 10), (13, 1), (14, 1), (15, 1), (16, 1)] [] fun t5 =>
 Al Ty.law28_Answer #[.int .i64 0, .int .i64 0, .int .i64 0, .int .i64 0, .int .i64 0, .int .i64 0, .int .i64 0, .int .i64 0, .int .i64 0, .string ⟨#[]⟩, .string ⟨#[]⟩, .string ⟨#[]⟩, .string ⟨#[]⟩, .int .i64 0, .string ⟨#[]⟩, .slice none 0 0, .int .i64 0] w4 fun t6 w7 =>
 St PP 17 t6 t5 w7 fun w8 =>
 ∀ J9 : List Value → World → Prop, (∀ w11 : World, (∀ u10 : Env,
 LdA PP 17 t6 w11 fun t12 =>
 St PP 17 t3 t12 w11 fun w13 =>
 LdA PP 17 t3 w13 fun t14 =>
 R t14 w13) → J9 [] w11) →
 Fa 0 t1 fun t15 =>
 Ld t15 w8 fun t16 =>
 Bi .eql t16 (.int .i64 0) fun t17 =>
 Cnd t17 (
 Fa 3 t1 fun t18 =>
 Ld t18 w8 fun t19 =>
 Fa 2 t1 fun t20 =>
 Ld t20 w8 fun t21 =>
 Fa 4 t1 fun t22 =>
 Ld t22 w8 fun t23 =>
 Ca PP Fn.tree_Tree_Walk #[a0, t19, t21, t23] w8 fun t24 w25 =>
 Ex t24 0 fun t26 =>
 Ex t24 1 fun t27 =>
 Fa 0 t6 fun t28 =>
 St PP 3 t28 t26 w25 fun w29 =>
 Fa 16 t6 fun t30 =>
 St PP 1 t30 t27 w29 fun w31 =>
 J9 [] w31) (
 Bi .eql t16 (.int .i64 1) fun t32 =>
 Cnd t32 (
 Fa 3 t1 fun t33 =>
 Ld t33 w8 fun t34 =>
 Fa 2 t1 fun t35 =>
 Ld t35 w8 fun t36 =>
 Ca PP Fn.tree_Tree_Stat #[a0, t34, t36] w8 fun t37 w38 =>
 Ex t37 0 fun t39 =>
 Ex t37 1 fun t40 =>
 Fa 3 t6 fun t41 =>
 St PP 10 t41 t39 w38 fun w42 =>
 Fa 16 t6 fun t43 =>
 St PP 1 t43 t40 w42 fun w44 =>
 J9 [] w44) (
 Bi .eql t16 (.int .i64 2) fun t45 =>
 Cnd t45 (
 Fa 3 t1 fun t46 =>
 Ld t46 w8 fun t47 =>
 Fa 2 t1 fun t48 =>
 Ld t48 w8 fun t49 =>
 Fa 10 t1 fun t50 =>
 LdA PP 10 t50 w8 fun t51 =>
 Ca PP Fn.tree_Tree_Wstat #[a0, t47, t49, t51] w8 fun t52 w53 =>
 Fa 16 t6 fun t54 =>
 St PP 1 t54 t52 w53 fun w55 =>
 J9 [] w55) (
 Bi .eql t16 (.int .i64 3) fun t56 =>
 Cnd t56 (
 Fa 3 t1 fun t57 =>
 Ld t57 w8 fun t58 =>
 Fa 2 t1 fun t59 =>
 Ld t59 w8 fun t60 =>
 Fa 5 t1 fun t61 =>
 Ld t61 w8 fun t62 =>
 Ca PP Fn.tree_Tree_Open #[a0, t58, t60, t62] w8 fun t63 w64 =>
 Ex t63 0 fun t65 =>
 Ex t63 1 fun t66 =>
 Ex t63 2 fun t67 =>
 Fa 13 t6 fun t68 =>
 St PP 1 t68 t65 w64 fun w69 =>
 Fa 0 t6 fun t70 =>
 St PP 3 t70 t66 w69 fun w71 =>
 Fa 16 t6 fun t72 =>
 St PP 1 t72 t67 w71 fun w73 =>
 J9 [] w73) (
 Bi .eql t16 (.int .i64 4) fun t74 =>
 Cnd t74 (
 Fa 3 t1 fun t75 =>
 Ld t75 w8 fun t76 =>
 Fa 2 t1 fun t77 =>
 Ld t77 w8 fun t78 =>
 Fa 4 t1 fun t79 =>
 Ld t79 w8 fun t80 =>
 Fa 6 t1 fun t81 =>
 Ld t81 w8 fun t82 =>
 Fa 5 t1 fun t83 =>
 Ld t83 w8 fun t84 =>
 Ca PP Fn.tree_Tree_Create #[a0, t76, t78, t80, t82, t84] w8 fun t85 w86 =>
 Ex t85 0 fun t87 =>
 Ex t85 1 fun t88 =>
 Ex t85 2 fun t89 =>
 Fa 13 t6 fun t90 =>
 St PP 1 t90 t87 w86 fun w91 =>
 Fa 0 t6 fun t92 =>
 St PP 3 t92 t88 w91 fun w93 =>
 Fa 16 t6 fun t94 =>
 St PP 1 t94 t89 w93 fun w95 =>
 J9 [] w95) (
 Bi .eql t16 (.int .i64 5) fun t96 =>
 Cnd t96 (
 Fa 1 t1 fun t97 =>
 Ld t97 w8 fun t98 =>
 Fa 8 t1 fun t99 =>
 Ld t99 w8 fun t100 =>
 Fa 7 t1 fun t101 =>
 Ld t101 w8 fun t102 =>
 Ca PP Fn.tree_Tree_Read #[a0, t98, t100, t102] w8 fun t103 w104 =>
 Ex t103 0 fun t105 =>
 Ex t103 1 fun t106 =>
 Fa 14 t6 fun t107 =>
 St PP 1 t107 t105 w104 fun w108 =>
 Fa 16 t6 fun t109 =>
 St PP 1 t109 t106 w108 fun w110 =>
 J9 [] w110) (
 Bi .eql t16 (.int .i64 6) fun t111 =>
 Cnd t111 (
 Fa 1 t1 fun t112 =>
 Ld t112 w8 fun t113 =>
 Ca PP Fn.tree_Tree_List #[a0, t113] w8 fun t114 w115 =>
 Ex t114 0 fun t116 =>
 Ex t114 1 fun t117 =>
 Fa 15 t6 fun t118 =>
 St PP 1 t118 t116 w115 fun w119 =>
 Fa 16 t6 fun t120 =>
 St PP 1 t120 t117 w119 fun w121 =>
 J9 [] w121) (
 Bi .eql t16 (.int .i64 7) fun t122 =>
 Cnd t122 (
 Fa 1 t1 fun t123 =>
 Ld t123 w8 fun t124 =>
 Fa 8 t1 fun t125 =>
 Ld t125 w8 fun t126 =>
 Fa 9 t1 fun t127 =>
 Ld t127 w8 fun t128 =>
 Ca PP Fn.tree_Tree_Write #[a0, t124, t126, t128] w8 fun t129 w130 =>
 Ex t129 0 fun t131 =>
 Ex t129 1 fun t132 =>
 Fa 13 t6 fun t133 =>
 St PP 1 t133 t131 w130 fun w134 =>
 Fa 16 t6 fun t135 =>
 St PP 1 t135 t132 w134 fun w136 =>
 J9 [] w136) (
 Bi .eql t16 (.int .i64 8) fun t137 =>
 Cnd t137 (
 Fa 1 t1 fun t138 =>
 Ld t138 w8 fun t139 =>
 Ca PP Fn.tree_Tree_Close #[a0, t139] w8 fun t140 w141 =>
 Fa 16 t6 fun t142 =>
 St PP 1 t142 t140 w141 fun w143 =>
 J9 [] w143) (
 Bi .eql t16 (.int .i64 9) fun t144 =>
 Cnd t144 (
 Fa 3 t1 fun t145 =>
 Ld t145 w8 fun t146 =>
 Fa 2 t1 fun t147 =>
 Ld t147 w8 fun t148 =>
 Ca PP Fn.tree_Tree_Remove #[a0, t146, t148] w8 fun t149 w150 =>
 Fa 16 t6 fun t151 =>
 St PP 1 t151 t149 w150 fun w152 =>
 J9 [] w152) (
 Bi .eql t16 (.int .i64 10) fun t153 =>
 Cnd t153 (
 Fa 4 t1 fun t154 =>
 Ld t154 w8 fun t155 =>
 Ca PP Fn.tree_Tree_Find #[a0, t155] w8 fun t156 w157 =>
 Ex t156 0 fun t158 =>
 Ex t156 1 fun t159 =>
 Fa 0 t6 fun t160 =>
 St PP 3 t160 t158 w157 fun w161 =>
 Fa 16 t6 fun t162 =>
 St PP 1 t162 t159 w161 fun w163 =>
 J9 [] w163) (
 Bi .eql t16 (.int .i64 11) fun t164 =>
 Cnd t164 (
 Fa 2 t1 fun t165 =>
 Ld t165 w8 fun t166 =>
 Ca PP Fn.tree_Tree_Path #[a0, t166] w8 fun t167 w168 =>
 Ex t167 0 fun t169 =>
 Ex t167 1 fun t170 =>
 Fa 14 t6 fun t171 =>
 St PP 1 t171 t169 w168 fun w172 =>
 Fa 16 t6 fun t173 =>
 St PP 1 t173 t170 w172 fun w174 =>
 J9 [] w174) (
 J9 [] w8))))))))))))
def S.law28_Do.an : Ann := (.seq .leaf (.seq .leaf (.join (.seq .leaf (.block (.seq .leaf (.cond .leaf (.seq .leaf (.cond .leaf (.seq .leaf (.cond .leaf (.seq .leaf (.cond .leaf (.seq .leaf (.cond .leaf (.seq .leaf (.cond .leaf (.seq .leaf (.cond .leaf (.seq .leaf (.cond .leaf (.seq .leaf (.cond .leaf (.seq .leaf (.cond .leaf (.seq .leaf (.cond .leaf (.seq .leaf (.cond .leaf .leaf)))))))))))))))))))))))))) [] [7,8,9,10,11,12,13,14,15,16,17,18,19,20,21,22,23,24,25,26,27,28,29,30,31,32,33,34,35,36,37,38,39,40,41,42,43,44,45,46,47,48,49,50,51,52,53,54,55,56,57,58,59,60,61,62,63,64,65,66,67,68,69,70,71,72,73,74,75,76,77,78,79,80,81,82,83,84,85,86,87,88,89,90,91,92,93,94,95,96,97,98,99,100,101,102,103,104,105,106,107,108,109,110,111,112,113,114,115,116,117,118,119,120,121,122,123,124,125,126,127,128,129,130,131,132,133,134,135,136,137,138,139,140,141,142,143,144,145,146,147,148,149,150,151,152,153,154,155,156,157,158,159,160,161,162,163,164] (.seq .leaf .leaf))))
theorem S.law28_Do.eq (a0 a1 : Value) (w : World) (R : Value → World → Prop) : S.law28_Do a0 a1 w R = fnC PP 166 (Tryz.f26.body.getD .skip) S.law28_Do.an [.cell 4 58] [a0, a1] w R := by kernel_rfl
theorem S.law28_Do.calls {a0 a1 : Value} {w : World} {R : Value → World → Prop} (h : S.law28_Do a0 a1 w R) : Ca PP Fn.law28_Do #[a0, a1] w R :=
  fnC_calls mixed (f := Fn.law28_Do) (an := S.law28_Do.an) Tryz.func26 rfl (by show _ ≤ _; exact Nat.le_of_ble_eq_true rfl) (S.law28_Do.eq a0 a1 w R ▸ h)
/-- (*acheron/tree.Tree).Files -/
def S.tree_Tree_Files (a0 : Value) (w : World) (R : Value → World → Prop) : Prop :=
 Al Ty.sl_tree_File #[.slice none 0 0] w fun t1 w2 =>
 ∀ J3 : List Df → List Value → World → Prop, (∀ (ds_6 : List Df) (w5 : World), (∀ u4 : Env,
 Ld t1 w5 fun t7 =>
 Lvs PP ds_6 w5 fun w8 =>
 R t7 w8) → J3 ds_6 [] w5) →
 Rd PP (eqS .neq Ty.p_tree_Tree (.tmp 5) (.const (.pointer none)) a0 (.pointer none)) w2 fun t9 =>
 Cnd t9 (
 Nc a0 fun t10 =>
 Fa 0 t10 fun t11 =>
 Ld t11 w2 fun t12 =>
 Ca PP Fn.tree_node_all #[t12] w2 fun t13 w14 =>
 RFo PP t13 w14 (RB.one fun r_15 L_16 t17 w18 Rn_19 Re_20 Rr_21 =>
 Bgn r_15 L_16 w18 fun w22 =>
 Dr w22 fun w23 =>
 Ld t1 w23 fun t24 =>
 Nc t17 fun t25 =>
 Fa 10 t25 fun t26 =>
 Ld t26 w23 fun t27 =>
 Rd PP (convert Ty.sl_uint8 Ty.string t27) w23 fun t28 =>
 Ca PP Fn.tree_node_path #[t17] w23 fun t29 w30 =>
 (Ld t1 w30 fun t31 =>
 t31 = t24) ∧
 (Ld t26 w30 fun t32 =>
 t32 = t27) ∧
 (Rd PP (convert Ty.sl_uint8 Ty.string t27) w30 fun t33 =>
 t33 = t28) ∧
 Ca PP Fn.tree_node_stat #[t17] w30 fun t34 w35 =>
 (Ld t1 w35 fun t36 =>
 t36 = t24) ∧
 (Ld t26 w35 fun t37 =>
 t37 = t27) ∧
 (Rd PP (convert Ty.sl_uint8 Ty.string t27) w35 fun t38 =>
 t38 = t28) ∧
 Bd #[.string ⟨#[]⟩, .int .i64 0, .int .i64 0, .int .i64 0, .int .i64 0, .int .i64 0, .int .i64 0, .string ⟨#[]⟩, .string ⟨#[]⟩, .string ⟨#[]⟩, .string ⟨#[]⟩, .string ⟨#[]⟩] [(0, 1), (1, 10), (11, 1)] [(0, t29), (1, t34), (2, t28)] fun t39 =>
 Ef PP (Instr.buildSlice Ty.sl_tree_File 1 #[(0, t39)]) w35 fun t40 w41 =>
 (Ld t1 w41 fun t42 =>
 t42 = t24) ∧
 Ef PP (Builtin.append_ #[Ty.sl_tree_File, Ty.sl_tree_File] Ty.sl_tree_File #[t24, t40]) w41 fun t43 w44 =>
 St PP 1 t1 t43 w44 fun w45 =>
 Rn_19 w45) (fun D_46 w47 =>
 J3 (.mark D_46 :: []) [] w47) [] (fun D_48 w49 =>
 Lvs PP (.mark D_48 :: []) w49 fun w50 =>
 R (.slice none 0 0) w50)) (
 J3 [] [] w2)
def S.tree_Tree_Files.an : Ann := (.seq .leaf (.seq .leaf (.joinD (.seq .leaf (.cond (.seq .leaf (.block (.rf .leaf (.block (.draw [[],[],[1],[],[1,2,3],[],[5],[5,6],[5,6,7],[5,6,7,8],[1,2,3,4,5,6,7,8,9],[1,2,3,4,5,6,7,8,9,10],[0,1,2,3,4,5,6,7,8,9,10,11],[0,1,2,3,4,5,6,7,8,9,10,11,12]] (.calm 0 (.calm 1 (.calm 3 (.calm 5 (.calm 6 (.calm 7 (.calm 8 (.calm 9 (.eff1 2 [0,8,9] (.eff1 4 [0,8,9] (.calm 10 (.eff1 11 [0] (.eff1 12 [] (.eff1 13 [] .done)))))))))))))))) []))) .leaf)) [] [5,6,7,8,9,10,11] (.seq .leaf .leaf))))
theorem S.tree_Tree_Files.eq (a0 : Value) (w : World) (R : Value → World → Prop) : S.tree_Tree_Files a0 w R = fnC PP 27 (Tryz.f27.body.getD .skip) S.tree_Tree_Files.an [.tmp 2] [a0] w R := by kernel_rfl
theorem S.tree_Tree_Files.calls {a0 : Value} {w : World} {R : Value → World → Prop} (h : S.tree_Tree_Files a0 w R) : Ca PP Fn.tree_Tree_Files #[a0] w R :=
  fnC_calls mixed (f := Fn.tree_Tree_Files) (an := S.tree_Tree_Files.an) Tryz.func27 rfl (by show _ ≤ _; exact Nat.le_of_ble_eq_true rfl) (S.tree_Tree_Files.eq a0 w R ▸ h)
/-- acheron/acheronlaw28.small -/
def S.law28_small (a0 : Value) (w : World) (R : Value → World → Prop) : Prop :=
 Al Ty.law28_Setting (a0 : Value).cells w fun t1 w2 =>
 Fa 0 t1 fun t3 =>
 Ld t3 w2 fun t4 =>
 LnS t4 fun t5 =>
 Fa 1 t1 fun t6 =>
 Ld t6 w2 fun t7 =>
 LnL t7 fun t8 =>
 Bi .add t5 t8 fun t9 =>
 Fa 1 t1 fun t10 =>
 Ld t10 w2 fun t11 =>
 LnL t11 fun t12 =>
 ∃ (I13 : List Value → World → Prop) (m14 : List Value → World → Nat), I13 [t9, (.int .i64 0)] w2 ∧ ∀ t17 t18, ∀ (u15 : Env) (w16 : World), I13 [t17, t18] w16 →
 Bi .lss t18 t12 fun t19 =>
 Cnd t19 (
 IxA 2 t11 t18 fun t20 =>
 LdA PP 2 t20 w16 fun t21 =>
 Al Ty.tree_Group #[.string ⟨#[]⟩, .slice none 0 0] w16 fun t22 w23 =>
 St PP 2 t22 t21 w23 fun w24 =>
 Fa 0 t22 fun t25 =>
 Ld t25 w24 fun t26 =>
 LnS t26 fun t27 =>
 Fa 1 t22 fun t28 =>
 Ld t28 w24 fun t29 =>
 LnL t29 fun t30 =>
 Bi .add t27 t30 fun t31 =>
 Bi .add t17 t31 fun t32 =>
 Fa 1 t22 fun t33 =>
 Ld t33 w24 fun t34 =>
 LnL t34 fun t35 =>
 ∃ (I36 : List Value → World → Prop) (m37 : List Value → World → Nat), I36 [t32, (.int .i64 0)] w24 ∧ ∀ t40 t41, ∀ (u38 : Env) (w39 : World), I36 [t40, t41] w39 →
 Bi .lss t41 t35 fun t42 =>
 Cnd t42 (
 IxA 1 t34 t41 fun t43 =>
 Ld t43 w39 fun t44 =>
 LnS t44 fun t45 =>
 Bi .add t40 t45 fun t46 =>
 Bi .add t41 (.int .i64 1) fun t47 =>
 I36 [t46, t47] w39 ∧ m37 [t46, t47] w39 < m37 [t40, t41] w39) (
 Bi .add t18 (.int .i64 1) fun t48 =>
 I13 [t40, t48] w39 ∧ m14 [t40, t48] w39 < m14 [t17, t18] w16)) (
 Bi .leq t17 (.int .i64 2000) fun t49 =>
 R t49 w16)
def S.law28_small.an : Ann := (.seq .leaf (.seq .leaf (.seq (.seq .leaf (.block (.loop (.seq .leaf (.seq (.cond .leaf .leaf) (.seq (.block (.seq .leaf (.seq .leaf (.seq .leaf (.block (.loop (.seq .leaf (.seq (.cond .leaf .leaf) (.seq (.block (.seq .leaf .leaf)) .leaf))) [3,34] [7,35,36,37,38,39,40,41,42])))))) .leaf))) [3,18] [5,7,19,20,21,22,23,24,25,26,27,28,29,30,31,32,33,34,35,36,37,38,39,40,41,42,43]))) (.seq .leaf .leaf))))
theorem S.law28_small.eq (a0 : Value) (w : World) (R : Value → World → Prop) : S.law28_small a0 w R = fnC PP 46 (Tryz.f28.body.getD .skip) S.law28_small.an [.tmp 2] [a0] w R := by kernel_rfl
theorem S.law28_small.calls {a0 : Value} {w : World} {R : Value → World → Prop} (h : S.law28_small a0 w R) : Ca PP Fn.law28_small #[a0] w R :=
  fnC_calls mixed (f := Fn.law28_small) (an := S.law28_small.an) Tryz.func28 rfl (by show _ ≤ _; exact Nat.le_of_ble_eq_true rfl) (S.law28_small.eq a0 w R ▸ h)
/-- slices.IndexFunc[[]acheron/tree.File,acheron/tree.File] -/
def S.slices_IndexFunc_sl_tree_File_tree_File (a0 a1 : Value) (w : World) (R : Value → World → Prop) : Prop :=
 LnL a0 fun t1 =>
 ∃ (I2 : List Value → World → Prop) (m3 : List Value → World → Nat), I2 [(.int .i64 0)] w ∧ ∀ t6, ∀ (u4 : Env) (w5 : World), I2 [t6] w5 →
 Bi .lss t6 t1 fun t7 =>
 Cnd t7 (
 IxA 12 a0 t6 fun t8 =>
 LdA PP 12 t8 w5 fun t9 =>
 CaV PP a1 #[t9] w5 fun t10 w11 =>
 Cnd t10 (
 R t6 w11) (
 Bi .add t6 (.int .i64 1) fun t12 =>
 I2 [t12] w11 ∧ m3 [t12] w11 < m3 [t6] w5)) (
 R (.int .i64 (-1)) w5)
def S.slices_IndexFunc_sl_tree_File_tree_File.an : Ann := (.seq .leaf (.seq (.seq .leaf (.block (.loop (.seq .leaf (.seq (.cond .leaf .leaf) (.seq (.block (.seq .leaf (.seq .leaf (.cond (.seq .leaf .leaf) .leaf)))) .leaf))) [8] [4,5,9,10,11,12,13,14,15,16,17,18]))) (.seq .leaf .leaf)))
theorem S.slices_IndexFunc_sl_tree_File_tree_File.eq (a0 a1 : Value) (w : World) (R : Value → World → Prop) : S.slices_IndexFunc_sl_tree_File_tree_File a0 a1 w R = fnC PP 19 (Tryz.f30.body.getD .skip) S.slices_IndexFunc_sl_tree_File_tree_File.an [.tmp 4] [a0, a1] w R := by kernel_rfl
theorem S.slices_IndexFunc_sl_tree_File_tree_File.calls {a0 a1 : Value} {w : World} {R : Value → World → Prop} (h : S.slices_IndexFunc_sl_tree_File_tree_File a0 a1 w R) : Ca PP Fn.slices_IndexFunc_sl_tree_File_tree_File #[a0, a1] w R :=
  fnC_calls mixed (f := Fn.slices_IndexFunc_sl_tree_File_tree_File) (an := S.slices_IndexFunc_sl_tree_File_tree_File.an) Tryz.func30 rfl (by show _ ≤ _; exact Nat.le_of_ble_eq_true rfl) (S.slices_IndexFunc_sl_tree_File_tree_File.eq a0 a1 w R ▸ h)
/-- (*acheron/tree.Tree).Path -/
def S.tree_Tree_Path (a0 a1 : Value) (w : World) (R : Value → World → Prop) : Prop :=
 Ca PP Fn.tree_Tree_find #[a0, a1] w fun t1 w2 =>
 Ex t1 0 fun t3 =>
 Ex t1 1 fun t4 =>
 Bi .neq t4 (.int .i64 0) fun t5 =>
 Cnd t5 (
 R (.tuple #[(.string ⟨#[]⟩), t4]) w2) (
 Ca PP Fn.tree_node_path #[t3] w2 fun t6 w7 =>
 R (.tuple #[t6, (.int .i64 0)]) w7)
def S.tree_Tree_Path.an : Ann := (.seq .leaf (.seq .leaf (.seq (.seq .leaf (.cond (.seq .leaf .leaf) .leaf)) (.seq .leaf .leaf))))
theorem S.tree_Tree_Path.eq (a0 a1 : Value) (w : World) (R : Value → World → Prop) : S.tree_Tree_Path a0 a1 w R = fnC PP 19 (Tryz.f32.body.getD .skip) S.tree_Tree_Path.an [.tmp 4, .tmp 5] [a0, a1] w R := by kernel_rfl
theorem S.tree_Tree_Path.calls {a0 a1 : Value} {w : World} {R : Value → World → Prop} (h : S.tree_Tree_Path a0 a1 w R) : Ca PP Fn.tree_Tree_Path #[a0, a1] w R :=
  fnC_calls mixed (f := Fn.tree_Tree_Path) (an := S.tree_Tree_Path.an) Tryz.func32 rfl (by show _ ≤ _; exact Nat.le_of_ble_eq_true rfl) (S.tree_Tree_Path.eq a0 a1 w R ▸ h)
/-- acheron/tree.Valid -/
def S.tree_Valid (a0 : Value) (w : World) (R : Value → World → Prop) : Prop :=
 LnS a0 fun t1 =>
 ∃ (I2 : List Value → World → Prop) (m3 : List Value → World → Nat), I2 [(.int .i64 0)] w ∧ ∀ t6, ∀ (u4 : Env) (w5 : World), I2 [t6] w5 →
 Bi .lss t6 t1 fun t7 =>
 Cnd t7 (
 IxS a0 t6 fun t8 =>
 ∀ J9 : List Value → World → Prop, (∀ t12, ∀ w11 : World, (∀ u10 : Env,
 Cnd t12 (
 R (.bool false) w11) (
 Bi .add t6 (.int .i64 1) fun t13 =>
 I2 [t13] w11 ∧ m3 [t13] w11 < m3 [t6] w5)) → J9 [t12] w11) →
 Bi .lss t8 (.int .u8 33) fun t14 =>
 Gd t14 false (fun k15 => k15 t8 w5) w5 fun t16 w17 =>
 Gd t14 false (fun k18 => Bi .gtr t16 (.int .u8 126) fun t21 =>
 k18 t21 w17) w17 fun t19 w20 =>
 Pk t14 (.bool true) t19 fun t22 =>
 Gd t22 false (fun k23 => k23 t8 w20) w20 fun t24 w25 =>
 Gd t22 false (fun k26 => Bi .eql t24 (.int .u8 47) fun t29 =>
 k26 t29 w25) w25 fun t27 w28 =>
 Pk t22 (.bool true) t27 fun t30 =>
 J9 [t30] w28) (
 ∀ J31 : List Value → World → Prop, (∀ t34, ∀ w33 : World, (∀ u32 : Env,
 R t34 w33) → J31 [t34] w33) →
 Bi .neq a0 (.string ⟨#[]⟩) fun t35 =>
 Gd t35 true (fun k36 => k36 a0 w5) w5 fun t37 w38 =>
 Gd t35 true (fun k39 => LnS t37 fun t42 =>
 k39 t42 w38) w38 fun t40 w41 =>
 Gd t35 true (fun k43 => Bi .leq t40 (.int .i64 40) fun t46 =>
 k43 t46 w41) w41 fun t44 w45 =>
 Pk t35 t44 (.bool false) fun t47 =>
 Gd t47 true (fun k48 => k48 a0 w45) w45 fun t49 w50 =>
 Gd t47 true (fun k51 => Bi .neq t49 (.string ⟨#[46]⟩) fun t54 =>
 k51 t54 w50) w50 fun t52 w53 =>
 Pk t47 t52 (.bool false) fun t55 =>
 Gd t55 true (fun k56 => k56 a0 w53) w53 fun t57 w58 =>
 Gd t55 true (fun k59 => Bi .neq t57 (.string ⟨#[46, 46]⟩) fun t62 =>
 k59 t62 w58) w58 fun t60 w61 =>
 Pk t55 t60 (.bool false) fun t63 =>
 J31 [t63] w61)
def S.tree_Valid.an : Ann := (.seq .leaf (.seq (.seq .leaf (.block (.loop (.seq .leaf (.seq (.cond .leaf .leaf) (.seq (.block (.seq .leaf (.seq .leaf (.join .leaf [22] [13,14,15,16,17,18,19,20,21] (.cond (.seq .leaf .leaf) .leaf))))) .leaf))) [7] [2,3,4,8,9,10,11,12,13,14,15,16,17,18,19,20,21,22,23]))) (.join .leaf [2] [24,25,26,27,28,29,30,31,32,33,34,35,36,37,38] .leaf)))
theorem S.tree_Valid.eq (a0 : Value) (w : World) (R : Value → World → Prop) : S.tree_Valid a0 w R = fnC PP 39 (Tryz.f34.body.getD .skip) S.tree_Valid.an [.tmp 2] [a0] w R := by kernel_rfl
theorem S.tree_Valid.calls {a0 : Value} {w : World} {R : Value → World → Prop} (h : S.tree_Valid a0 w R) : Ca PP Fn.tree_Valid #[a0] w R :=
  fnC_calls mixed (f := Fn.tree_Valid) (an := S.tree_Valid.an) Tryz.func34 rfl (by show _ ≤ _; exact Nat.le_of_ble_eq_true rfl) (S.tree_Valid.eq a0 w R ▸ h)
/-- acheron/acheronlaw28.TreeNames$1 -/
def S.law28_TreeNames_1 (a0 a1 a2 : Value) (w : World) (R : Value → World → Prop) : Prop :=
 Al Ty.tree_File (a0 : Value).cells w fun t1 w2 =>
 Dr w2 fun w3 =>
 Fa 0 t1 fun t4 =>
 Ld t4 w3 fun t5 =>
 Fa 0 a1 fun t6 =>
 Ld t6 w3 fun t7 =>
 Ld a2 w3 fun t8 =>
 Mx t8 (.int .i64 1) fun t9 =>
 SlS t7 none (some t9) fun t10 =>
 Bi .eql t5 t10 fun t11 =>
 R t11 w3
def S.law28_TreeNames_1.an : Ann := (.seq .leaf (.seq (.draw [[],[0],[],[2],[],[4],[2,3,4,5],[0,1,2,3,4,5,6],[0,1,2,3,4,5,6,7]] (.calm 0 (.calm 1 (.calm 2 (.calm 3 (.calm 4 (.calm 5 (.calm 6 (.calm 7 (.calm 8 .done)))))))))) .leaf))
theorem S.law28_TreeNames_1.eq (a0 a1 a2 : Value) (w : World) (R : Value → World → Prop) : S.law28_TreeNames_1 a0 a1 a2 w R = fnC PP 13 (Tryz.f35.body.getD .skip) S.law28_TreeNames_1.an [.tmp 4] [a0, a1, a2] w R := by kernel_rfl
theorem S.law28_TreeNames_1.calls {a0 a1 a2 : Value} {w : World} {R : Value → World → Prop} (h : S.law28_TreeNames_1 a0 a1 a2 w R) : Ca PP Fn.law28_TreeNames_1 #[a0, a1, a2] w R :=
  fnC_calls mixed (f := Fn.law28_TreeNames_1) (an := S.law28_TreeNames_1.an) Tryz.func35 rfl (by show _ ≤ _; exact Nat.le_of_ble_eq_true rfl) (S.law28_TreeNames_1.eq a0 a1 a2 w R ▸ h)
/-- slices.ContainsFunc[[]acheron/tree.File,acheron/tree.File] -/
def S.slices_ContainsFunc_sl_tree_File_tree_File (a0 a1 : Value) (w : World) (R : Value → World → Prop) : Prop :=
 Ca PP Fn.slices_IndexFunc_sl_tree_File_tree_File #[a0, a1] w fun t1 w2 =>
 Bi .geq t1 (.int .i64 0) fun t3 =>
 R t3 w2
def S.slices_ContainsFunc_sl_tree_File_tree_File.an : Ann := (.seq .leaf (.seq .leaf .leaf))
theorem S.slices_ContainsFunc_sl_tree_File_tree_File.eq (a0 a1 : Value) (w : World) (R : Value → World → Prop) : S.slices_ContainsFunc_sl_tree_File_tree_File a0 a1 w R = fnC PP 9 (Tryz.f36.body.getD .skip) S.slices_ContainsFunc_sl_tree_File_tree_File.an [.tmp 4] [a0, a1] w R := by kernel_rfl
theorem S.slices_ContainsFunc_sl_tree_File_tree_File.calls {a0 a1 : Value} {w : World} {R : Value → World → Prop} (h : S.slices_ContainsFunc_sl_tree_File_tree_File a0 a1 w R) : Ca PP Fn.slices_ContainsFunc_sl_tree_File_tree_File #[a0, a1] w R :=
  fnC_calls mixed (f := Fn.slices_ContainsFunc_sl_tree_File_tree_File) (an := S.slices_ContainsFunc_sl_tree_File_tree_File.an) Tryz.func36 rfl (by show _ ≤ _; exact Nat.le_of_ble_eq_true rfl) (S.slices_ContainsFunc_sl_tree_File_tree_File.eq a0 a1 w R ▸ h)
/-- acheron/acheronlaw28.TreeNames$2 -/
def S.law28_TreeNames_2 (a0 a1 : Value) (w : World) (R : Value → World → Prop) : Prop :=
 Al Ty.tree_File (a0 : Value).cells w fun t1 w2 =>
 ∀ J3 : List Value → World → Prop, (∀ t6, ∀ w5 : World, (∀ u4 : Env,
 R t6 w5) → J3 [t6] w5) →
 Fa 0 t1 fun t7 =>
 Ld t7 w2 fun t8 =>
 Fa 0 a1 fun t9 =>
 Ld t9 w2 fun t10 =>
 Bi .eql t8 t10 fun t11 =>
 Gd t11 false (fun k12 => Fa 1 t1 fun t15 =>
 k12 t15 w2) w2 fun t13 w14 =>
 Gd t11 false (fun k16 => Fa 0 t13 fun t19 =>
 k16 t19 w14) w14 fun t17 w18 =>
 Gd t11 false (fun k20 => Fa 2 t17 fun t23 =>
 k20 t23 w18) w18 fun t21 w22 =>
 Gd t11 false (fun k24 => Ld t21 w22 fun t27 =>
 k24 t27 w22) w22 fun t25 w26 =>
 Gd t11 false (fun k28 => Fa 1 a1 fun t31 =>
 k28 t31 w26) w26 fun t29 w30 =>
 Gd t11 false (fun k32 => Fa 0 t29 fun t35 =>
 k32 t35 w30) w30 fun t33 w34 =>
 Gd t11 false (fun k36 => Fa 2 t33 fun t39 =>
 k36 t39 w34) w34 fun t37 w38 =>
 Gd t11 false (fun k40 => Ld t37 w38 fun t43 =>
 k40 t43 w38) w38 fun t41 w42 =>
 Gd t11 false (fun k44 => Bi .eql t25 t41 fun t47 =>
 k44 t47 w42) w42 fun t45 w46 =>
 Pk t11 (.bool true) t45 fun t48 =>
 J3 [t48] w46
def S.law28_TreeNames_2.an : Ann := (.seq .leaf (.join .leaf [3] [4,5,6,7,8,9,10,11,12,13,14,15,16,17,18,19] .leaf))
theorem S.law28_TreeNames_2.eq (a0 a1 : Value) (w : World) (R : Value → World → Prop) : S.law28_TreeNames_2 a0 a1 w R = fnC PP 20 (Tryz.f37.body.getD .skip) S.law28_TreeNames_2.an [.tmp 3] [a0, a1] w R := by kernel_rfl
theorem S.law28_TreeNames_2.calls {a0 a1 : Value} {w : World} {R : Value → World → Prop} (h : S.law28_TreeNames_2 a0 a1 w R) : Ca PP Fn.law28_TreeNames_2 #[a0, a1] w R :=
  fnC_calls mixed (f := Fn.law28_TreeNames_2) (an := S.law28_TreeNames_2.an) Tryz.func37 rfl (by show _ ≤ _; exact Nat.le_of_ble_eq_true rfl) (S.law28_TreeNames_2.eq a0 a1 w R ▸ h)
/-- acheron/acheronlaw28.Same -/
def S.law28_Same (a0 a1 : Value) (w : World) (R : Value → World → Prop) : Prop :=
 Al Ty.law28_Answer (a0 : Value).cells w fun t1 w2 =>
 Al Ty.law28_Answer (a1 : Value).cells w2 fun t3 w4 =>
 ∀ J5 : List Value → World → Prop, (∀ t8, ∀ w7 : World, (∀ u6 : Env,
 R t8 w7) → J5 [t8] w7) →
 Fa 0 t1 fun t9 =>
 LdA PP 3 t9 w4 fun t10 =>
 Fa 0 t3 fun t11 =>
 LdA PP 3 t11 w4 fun t12 =>
 Rd PP (eqS .eql Ty.api_Qid (.tmp 6) (.tmp 8) t10 t12) w4 fun t13 =>
 Gd t13 true (fun k14 => Fa 3 t1 fun t17 =>
 k14 t17 w4) w4 fun t15 w16 =>
 Gd t13 true (fun k18 => LdA PP 10 t15 w16 fun t21 =>
 k18 t21 w16) w16 fun t19 w20 =>
 Gd t13 true (fun k22 => Fa 3 t3 fun t25 =>
 k22 t25 w20) w20 fun t23 w24 =>
 Gd t13 true (fun k26 => LdA PP 10 t23 w24 fun t29 =>
 k26 t29 w24) w24 fun t27 w28 =>
 Gd t13 true (fun k30 => Rd PP (eqS .eql Ty.api_Dir (.tmp 12) (.tmp 14) t19 t27) w28 fun t33 =>
 k30 t33 w28) w28 fun t31 w32 =>
 Pk t13 t31 (.bool false) fun t34 =>
 Gd t34 true (fun k35 => Fa 13 t1 fun t38 =>
 k35 t38 w32) w32 fun t36 w37 =>
 Gd t34 true (fun k39 => Ld t36 w37 fun t42 =>
 k39 t42 w37) w37 fun t40 w41 =>
 Gd t34 true (fun k43 => Fa 13 t3 fun t46 =>
 k43 t46 w41) w41 fun t44 w45 =>
 Gd t34 true (fun k47 => Ld t44 w45 fun t50 =>
 k47 t50 w45) w45 fun t48 w49 =>
 Gd t34 true (fun k51 => Bi .eql t40 t48 fun t54 =>
 k51 t54 w49) w49 fun t52 w53 =>
 Pk t34 t52 (.bool false) fun t55 =>
 Gd t55 true (fun k56 => Fa 14 t1 fun t59 =>
 k56 t59 w53) w53 fun t57 w58 =>
 Gd t55 true (fun k60 => Ld t57 w58 fun t63 =>
 k60 t63 w58) w58 fun t61 w62 =>
 Gd t55 true (fun k64 => Fa 14 t3 fun t67 =>
 k64 t67 w62) w62 fun t65 w66 =>
 Gd t55 true (fun k68 => Ld t65 w66 fun t71 =>
 k68 t71 w66) w66 fun t69 w70 =>
 Gd t55 true (fun k72 => Bi .eql t61 t69 fun t75 =>
 k72 t75 w70) w70 fun t73 w74 =>
 Pk t55 t73 (.bool false) fun t76 =>
 Gd t76 true (fun k77 => Fa 16 t1 fun t80 =>
 k77 t80 w74) w74 fun t78 w79 =>
 Gd t76 true (fun k81 => Ld t78 w79 fun t84 =>
 k81 t84 w79) w79 fun t82 w83 =>
 Gd t76 true (fun k85 => Fa 16 t3 fun t88 =>
 k85 t88 w83) w83 fun t86 w87 =>
 Gd t76 true (fun k89 => Ld t86 w87 fun t92 =>
 k89 t92 w87) w87 fun t90 w91 =>
 Gd t76 true (fun k93 => Bi .eql t82 t90 fun t96 =>
 k93 t96 w91) w91 fun t94 w95 =>
 Pk t76 t94 (.bool false) fun t97 =>
 Gd t97 true (fun k98 => Fa 15 t1 fun t101 =>
 k98 t101 w95) w95 fun t99 w100 =>
 Gd t97 true (fun k102 => Ld t99 w100 fun t105 =>
 k102 t105 w100) w100 fun t103 w104 =>
 Gd t97 true (fun k106 => Fa 15 t3 fun t109 =>
 k106 t109 w104) w104 fun t107 w108 =>
 Gd t97 true (fun k110 => Ld t107 w108 fun t113 =>
 k110 t113 w108) w108 fun t111 w112 =>
 Gd t97 true (fun k114 => Ca PP Fn.slices_Equal_sl_api_Dir_api_Dir #[t103, t111] w112 fun t117 w118 =>
 k114 t117 w118) w112 fun t115 w116 =>
 Pk t97 t115 (.bool false) fun t119 =>
 J5 [t119] w116
def S.law28_Same.an : Ann := (.seq .leaf (.join .leaf [4] [5,6,7,8,9,10,11,12,13,14,15,16,17,18,19,20,21,22,23,24,25,26,27,28,29,30,31,32,33,34,35,36,37,38,39,40,41,42,43,44] .leaf))
theorem S.law28_Same.eq (a0 a1 : Value) (w : World) (R : Value → World → Prop) : S.law28_Same a0 a1 w R = fnC PP 45 (Tryz.f39.body.getD .skip) S.law28_Same.an [.tmp 4] [a0, a1] w R := by kernel_rfl
theorem S.law28_Same.calls {a0 a1 : Value} {w : World} {R : Value → World → Prop} (h : S.law28_Same a0 a1 w R) : Ca PP Fn.law28_Same #[a0, a1] w R :=
  fnC_calls mixed (f := Fn.law28_Same) (an := S.law28_Same.an) Tryz.func39 rfl (by show _ ≤ _; exact Nat.le_of_ble_eq_true rfl) (S.law28_Same.eq a0 a1 w R ▸ h)
/-- slices.Equal[[]acheron/tree.File,acheron/tree.File] -/
def S.slices_Equal_sl_tree_File_tree_File (a0 a1 : Value) (w : World) (R : Value → World → Prop) : Prop :=
 LnL a0 fun t1 =>
 LnL a1 fun t2 =>
 Bi .neq t1 t2 fun t3 =>
 Cnd t3 (
 R (.bool false) w) (
 LnL a0 fun t4 =>
 ∃ (I5 : List Value → World → Prop) (m6 : List Value → World → Nat), I5 [(.int .i64 0)] w ∧ ∀ t9, ∀ (u7 : Env) (w8 : World), I5 [t9] w8 →
 Bi .lss t9 t4 fun t10 =>
 Cnd t10 (
 Dr w8 fun w11 =>
 IxA 12 a0 t9 fun t12 =>
 LdA PP 12 t12 w11 fun t13 =>
 IxA 12 a1 t9 fun t14 =>
 LdA PP 12 t14 w11 fun t15 =>
 Rd PP (eqS .neq Ty.tree_File (.tmp 19) (.tmp 23) t13 t15) w11 fun t16 =>
 Cnd t16 (
 R (.bool false) w11) (
 Bi .add t9 (.int .i64 1) fun t17 =>
 I5 [t17] w11 ∧ m6 [t17] w11 < m6 [t9] w8)) (
 R (.bool true) w8))
def S.slices_Equal_sl_tree_File_tree_File.an : Ann := (.seq .leaf (.seq (.seq .leaf (.cond (.seq .leaf .leaf) .leaf)) (.seq (.seq .leaf (.block (.loop (.seq .leaf (.seq (.cond .leaf .leaf) (.seq (.block (.seq .leaf (.seq (.draw [[],[],[0,1],[0,1,2],[],[],[4,5],[4,5,6],[0,1,2,3,4,5,6,7]] (.calm 0 (.calm 1 (.calm 2 (.calm 3 (.calm 4 (.calm 5 (.calm 6 (.calm 7 (.calm 8 .done)))))))))) (.cond (.seq .leaf .leaf) .leaf)))) .leaf))) [13] [4,5,14,15,16,17,18,19,20,21,22,23,24,25]))) (.seq .leaf .leaf))))
theorem S.slices_Equal_sl_tree_File_tree_File.eq (a0 a1 : Value) (w : World) (R : Value → World → Prop) : S.slices_Equal_sl_tree_File_tree_File a0 a1 w R = fnC PP 26 (Tryz.f40.body.getD .skip) S.slices_Equal_sl_tree_File_tree_File.an [.tmp 4] [a0, a1] w R := by kernel_rfl
theorem S.slices_Equal_sl_tree_File_tree_File.calls {a0 a1 : Value} {w : World} {R : Value → World → Prop} (h : S.slices_Equal_sl_tree_File_tree_File a0 a1 w R) : Ca PP Fn.slices_Equal_sl_tree_File_tree_File #[a0, a1] w R :=
  fnC_calls mixed (f := Fn.slices_Equal_sl_tree_File_tree_File) (an := S.slices_Equal_sl_tree_File_tree_File.an) Tryz.func40 rfl (by show _ ≤ _; exact Nat.le_of_ble_eq_true rfl) (S.slices_Equal_sl_tree_File_tree_File.eq a0 a1 w R ▸ h)
/-- slices.Equal[[]int,int] -/
def S.slices_Equal_sl_int_int (a0 a1 : Value) (w : World) (R : Value → World → Prop) : Prop :=
 LnL a0 fun t1 =>
 LnL a1 fun t2 =>
 Bi .neq t1 t2 fun t3 =>
 Cnd t3 (
 R (.bool false) w) (
 LnL a0 fun t4 =>
 ∃ (I5 : List Value → World → Prop) (m6 : List Value → World → Nat), I5 [(.int .i64 0)] w ∧ ∀ t9, ∀ (u7 : Env) (w8 : World), I5 [t9] w8 →
 Bi .lss t9 t4 fun t10 =>
 Cnd t10 (
 Dr w8 fun w11 =>
 IxA 1 a0 t9 fun t12 =>
 Ld t12 w11 fun t13 =>
 IxA 1 a1 t9 fun t14 =>
 Ld t14 w11 fun t15 =>
 Bi .neq t13 t15 fun t16 =>
 Cnd t16 (
 R (.bool false) w11) (
 Bi .add t9 (.int .i64 1) fun t17 =>
 I5 [t17] w11 ∧ m6 [t17] w11 < m6 [t9] w8)) (
 R (.bool true) w8))
def S.slices_Equal_sl_int_int.an : Ann := (.seq .leaf (.seq (.seq .leaf (.cond (.seq .leaf .leaf) .leaf)) (.seq (.seq .leaf (.block (.loop (.seq .leaf (.seq (.cond .leaf .leaf) (.seq (.block (.seq .leaf (.seq (.draw [[],[],[0,1],[0,1,2],[],[],[4,5],[4,5,6],[0,1,2,3,4,5,6,7]] (.calm 0 (.calm 1 (.calm 2 (.calm 3 (.calm 4 (.calm 5 (.calm 6 (.calm 7 (.calm 8 .done)))))))))) (.cond (.seq .leaf .leaf) .leaf)))) .leaf))) [13] [4,5,14,15,16,17,18,19,20,21,22,23,24,25]))) (.seq .leaf .leaf))))
theorem S.slices_Equal_sl_int_int.eq (a0 a1 : Value) (w : World) (R : Value → World → Prop) : S.slices_Equal_sl_int_int a0 a1 w R = fnC PP 26 (Tryz.f41.body.getD .skip) S.slices_Equal_sl_int_int.an [.tmp 4] [a0, a1] w R := by kernel_rfl
theorem S.slices_Equal_sl_int_int.calls {a0 a1 : Value} {w : World} {R : Value → World → Prop} (h : S.slices_Equal_sl_int_int a0 a1 w R) : Ca PP Fn.slices_Equal_sl_int_int #[a0, a1] w R :=
  fnC_calls mixed (f := Fn.slices_Equal_sl_int_int) (an := S.slices_Equal_sl_int_int.an) Tryz.func41 rfl (by show _ ≤ _; exact Nat.le_of_ble_eq_true rfl) (S.slices_Equal_sl_int_int.eq a0 a1 w R ▸ h)
/-- (*acheron/tree.Tree).Read -/
def S.tree_Tree_Read (a0 a1 a2 a3 : Value) (w : World) (R : Value → World → Prop) : Prop :=
 Ca PP Fn.tree_Tree_opened #[a0, a1] w fun t1 w2 =>
 Ex t1 0 fun t3 =>
 Ex t1 1 fun t4 =>
 Al Ty.tree_handle #[.pointer none, .int .i64 0, .string ⟨#[]⟩] w2 fun t5 w6 =>
 St PP 3 t5 t3 w6 fun w7 =>
 Bi .neq t4 (.int .i64 0) fun t8 =>
 Cnd t8 (
 R (.tuple #[(.string ⟨#[]⟩), t4]) w7) (
 Fa 1 t5 fun t9 =>
 Ld t9 w7 fun t10 =>
 Bi .and t10 (.int .i64 3) fun t11 =>
 Bi .eql t11 (.int .i64 1) fun t12 =>
 Cnd t12 (
 R (.tuple #[(.string ⟨#[]⟩), (.int .i64 20)]) w7) (
 Fa 0 t5 fun t13 =>
 Ld t13 w7 fun t14 =>
 Nc t14 fun t15 =>
 Fa 13 t15 fun t16 =>
 Ld t16 w7 fun t17 =>
 Cnd t17 (
 R (.tuple #[(.string ⟨#[]⟩), (.int .i64 4)]) w7) (
 Fa 0 t5 fun t18 =>
 Ld t18 w7 fun t19 =>
 Ca PP Fn.tree_node_isDir #[t19] w7 fun t20 w21 =>
 Cnd t20 (
 R (.tuple #[(.string ⟨#[]⟩), (.int .i64 18)]) w21) (
 ∀ J22 : List Value → World → Prop, (∀ t25, ∀ w24 : World, (∀ u23 : Env,
 Cnd t25 (
 R (.tuple #[(.string ⟨#[]⟩), (.int .i64 11)]) w24) (
 Fa 0 t5 fun t26 =>
 Ld t26 w24 fun t27 =>
 Nc t27 fun t28 =>
 Fa 10 t28 fun t29 =>
 Ld t29 w24 fun t30 =>
 LnL t30 fun t31 =>
 Bi .geq a2 t31 fun t32 =>
 Cnd t32 (
 R (.tuple #[(.string ⟨#[]⟩), (.int .i64 0)]) w24) (
 Fa 0 t5 fun t33 =>
 Ld t33 w24 fun t34 =>
 Nc t34 fun t35 =>
 Fa 10 t35 fun t36 =>
 Ld t36 w24 fun t37 =>
 Sl 1 t37 (some a2) none fun t38 =>
 LnL t38 fun t39 =>
 Mn a3 t39 fun t40 =>
 Sl 1 t38 none (some t40) fun t41 =>
 Rd PP (convert Ty.sl_uint8 Ty.string t41) w24 fun t42 =>
 R (.tuple #[t42, (.int .i64 0)]) w24))) → J22 [t25] w24) →
 Bi .lss a2 (.int .i64 0) fun t43 =>
 Gd t43 false (fun k44 => k44 a3 w21) w21 fun t45 w46 =>
 Gd t43 false (fun k47 => Bi .lss t45 (.int .i64 0) fun t50 =>
 k47 t50 w46) w46 fun t48 w49 =>
 Pk t43 (.bool true) t48 fun t51 =>
 J22 [t51] w49))))
def S.tree_Tree_Read.an : Ann := (.seq .leaf (.seq .leaf (.seq (.block (.seq .leaf (.cond (.seq .leaf .leaf) (.seq .leaf (.cond (.seq .leaf .leaf) (.seq .leaf (.cond (.seq .leaf .leaf) (.seq .leaf (.cond (.seq .leaf .leaf) (.join .leaf [38] [39,40,41,42,43,44] (.cond (.seq .leaf .leaf) (.seq .leaf (.cond (.seq .leaf .leaf) .leaf))))))))))))) (.seq .leaf (.seq .leaf .leaf)))))
theorem S.tree_Tree_Read.eq (a0 a1 a2 a3 : Value) (w : World) (R : Value → World → Prop) : S.tree_Tree_Read a0 a1 a2 a3 w R = fnC PP 68 (Tryz.f55.body.getD .skip) S.tree_Tree_Read.an [.tmp 8, .tmp 9] [a0, a1, a2, a3] w R := by kernel_rfl
theorem S.tree_Tree_Read.calls {a0 a1 a2 a3 : Value} {w : World} {R : Value → World → Prop} (h : S.tree_Tree_Read a0 a1 a2 a3 w R) : Ca PP Fn.tree_Tree_Read #[a0, a1, a2, a3] w R :=
  fnC_calls mixed (f := Fn.tree_Tree_Read) (an := S.tree_Tree_Read.an) Tryz.func55 rfl (by show _ ≤ _; exact Nat.le_of_ble_eq_true rfl) (S.tree_Tree_Read.eq a0 a1 a2 a3 w R ▸ h)
/-- (*acheron/tree.Tree).Open -/
def S.tree_Tree_Open (a0 a1 a2 a3 : Value) (w : World) (R : Value → World → Prop) : Prop :=
 Al Ty.api_Qid #[.int .i64 0, .int .i64 0, .int .i64 0] w fun t1 w2 =>
 Rd PP (eqS .eql Ty.p_tree_Tree (.tmp 16) (.const (.pointer none)) a0 (.pointer none)) w2 fun t3 =>
 Cnd t3 (
 Bd #[.int .i64 0, .int .i64 0, .int .i64 0] [(0, 1), (1, 1), (2, 1)] [] fun t4 =>
 St PP 3 t1 t4 w2 fun w5 =>
 LdA PP 3 t1 w5 fun t6 =>
 R (.tuple #[(.int .i64 0), t6, (.int .i64 6)]) w5) (
 Bi .andNot a3 (.int .i64 83) fun t7 =>
 Bi .neq t7 (.int .i64 0) fun t8 =>
 Cnd t8 (
 Bd #[.int .i64 0, .int .i64 0, .int .i64 0] [(0, 1), (1, 1), (2, 1)] [] fun t9 =>
 St PP 3 t1 t9 w2 fun w10 =>
 LdA PP 3 t1 w10 fun t11 =>
 R (.tuple #[(.int .i64 0), t11, (.int .i64 20)]) w10) (
 Ca PP Fn.tree_Tree_find #[a0, a2] w2 fun t12 w13 =>
 Ex t12 0 fun t14 =>
 Ex t12 1 fun t15 =>
 Bi .neq t15 (.int .i64 0) fun t16 =>
 Cnd t16 (
 Bd #[.int .i64 0, .int .i64 0, .int .i64 0] [(0, 1), (1, 1), (2, 1)] [] fun t17 =>
 St PP 3 t1 t17 w13 fun w18 =>
 LdA PP 3 t1 w18 fun t19 =>
 R (.tuple #[(.int .i64 0), t19, t15]) w18) (
 ∀ J20 : List Value → World → Prop, (∀ t23, ∀ w22 : World, (∀ u21 : Env,
 Cnd t23 (
 Bd #[.int .i64 0, .int .i64 0, .int .i64 0] [(0, 1), (1, 1), (2, 1)] [] fun t24 =>
 St PP 3 t1 t24 w22 fun w25 =>
 LdA PP 3 t1 w25 fun t26 =>
 R (.tuple #[(.int .i64 0), t26, (.int .i64 18)]) w25) (
 BdA #[.int .i64 0, .int .i64 0, .int .i64 0, .int .i64 0] 1 [(0, (.int .i64 4)), (1, (.int .i64 2)), (2, (.int .i64 6)), (3, (.int .i64 1))] fun t27 =>
 Bi .and a3 (.int .i64 3) fun t28 =>
 Rd PP (Instr.index Ty.f_4_int t27 t28) w22 fun t29 =>
 ∀ J30 : List Value → World → Prop, (∀ t33, ∀ w32 : World, (∀ u31 : Env,
 ∀ J34 : List Value → World → Prop, (∀ t37, ∀ w36 : World, (∀ u35 : Env,
 Cnd t37 (
 Bd #[.int .i64 0, .int .i64 0, .int .i64 0] [(0, 1), (1, 1), (2, 1)] [] fun t38 =>
 St PP 3 t1 t38 w36 fun w39 =>
 LdA PP 3 t1 w39 fun t40 =>
 R (.tuple #[(.int .i64 0), t40, (.int .i64 17)]) w39) (
 Nc a0 fun t41 =>
 Fa 5 t41 fun t42 =>
 Ld t42 w36 fun t43 =>
 Ef PP (Instr.range Ty.map_int_tree_handle t43) w36 fun t44 w45 =>
 ∃ (I46 : List Value → World → Prop) (m47 : List Value → World → Nat), I46 [] w45 ∧ ∀ (u48 : Env) (w49 : World), I46 [] w49 →
 Ef PP (Instr.next t44 false Ty.t) w49 fun t50 w51 =>
 Ex t50 0 fun t52 =>
 Cnd t52 (
 Rd PP (Instr.entry t44) w51 fun t53 =>
 Ex t53 1 fun t54 =>
 Al Ty.tree_handle #[.pointer none, .int .i64 0, .string ⟨#[]⟩] w51 fun t55 w56 =>
 St PP 3 t55 t54 w56 fun w57 =>
 ∀ J58 : List Value → World → Prop, (∀ t61, ∀ w60 : World, (∀ u59 : Env,
 Cnd t61 (
 Bd #[.int .i64 0, .int .i64 0, .int .i64 0] [(0, 1), (1, 1), (2, 1)] [] fun t62 =>
 St PP 3 t1 t62 w60 fun w63 =>
 LdA PP 3 t1 w63 fun t64 =>
 R (.tuple #[(.int .i64 0), t64, (.int .i64 19)]) w63) (
 I46 [] w60 ∧ m47 [] w60 < m47 [] w49)) → J58 [t61] w60) →
 Fa 0 t55 fun t65 =>
 Ld t65 w57 fun t66 =>
 Rd PP (eqS .eql Ty.p_tree_node (.tmp 81) (.tmp 82) t66 t14) w57 fun t67 =>
 Gd t67 true (fun k68 => k68 t14 w57) w57 fun t69 w70 =>
 Gd t67 true (fun k71 => Nc t69 fun t74 =>
 k71 t74 w70) w70 fun t72 w73 =>
 Gd t67 true (fun k75 => Fa 0 t72 fun t78 =>
 k75 t78 w73) w73 fun t76 w77 =>
 Gd t67 true (fun k79 => Fa 3 t76 fun t82 =>
 k79 t82 w77) w77 fun t80 w81 =>
 Gd t67 true (fun k83 => Ld t80 w81 fun t86 =>
 k83 t86 w81) w81 fun t84 w85 =>
 Gd t67 true (fun k87 => Bi .and t84 (.int .i64 536870912) fun t90 =>
 k87 t90 w85) w85 fun t88 w89 =>
 Gd t67 true (fun k91 => Bi .neq t88 (.int .i64 0) fun t94 =>
 k91 t94 w89) w89 fun t92 w93 =>
 Pk t67 t92 (.bool false) fun t95 =>
 J58 [t95] w93) (
 Ca PP Fn.tree_Tree_room #[a0] w51 fun t96 w97 =>
 Un .not t96 fun t98 =>
 Cnd t98 (
 Bd #[.int .i64 0, .int .i64 0, .int .i64 0] [(0, 1), (1, 1), (2, 1)] [] fun t99 =>
 St PP 3 t1 t99 w97 fun w100 =>
 LdA PP 3 t1 w100 fun t101 =>
 R (.tuple #[(.int .i64 0), t101, (.int .i64 3)]) w100) (
 ∀ J102 : List Value → World → Prop, (∀ w104 : World, (∀ u103 : Env,
 Ca PP Fn.tree_Tree_handle #[a0, t14, a3, a1] w104 fun t105 w106 =>
 Ex t105 0 fun t107 =>
 Ex t105 1 fun t108 =>
 Ex t105 2 fun t109 =>
 St PP 3 t1 t108 w106 fun w110 =>
 LdA PP 3 t1 w110 fun t111 =>
 R (.tuple #[t107, t111, t109]) w110) → J102 [] w104) →
 ∀ J112 : List Value → World → Prop, (∀ t115, ∀ w114 : World, (∀ u113 : Env,
 Cnd t115 (
 Nc t14 fun t116 =>
 Fa 10 t116 fun t117 =>
 St PP 1 t117 (.slice none 0 0) w114 fun w118 =>
 Ef PP (Instr.buildSlice Ty.sl_p_tree_node 1 #[(0, t14)]) w118 fun t119 w120 =>
 Ca PP Fn.tree_Tree_change #[a0, a1, t119] w120 fun t121 w122 =>
 J102 [] w122) (
 J102 [] w114)) → J112 [t115] w114) →
 Bi .and a3 (.int .i64 16) fun t123 =>
 Bi .neq t123 (.int .i64 0) fun t124 =>
 Gd t124 true (fun k125 => k125 t14 w97) w97 fun t126 w127 =>
 Gd t124 true (fun k128 => Nc t126 fun t131 =>
 k128 t131 w127) w127 fun t129 w130 =>
 Gd t124 true (fun k132 => Fa 0 t129 fun t135 =>
 k132 t135 w130) w130 fun t133 w134 =>
 Gd t124 true (fun k136 => Fa 3 t133 fun t139 =>
 k136 t139 w134) w134 fun t137 w138 =>
 Gd t124 true (fun k140 => Ld t137 w138 fun t143 =>
 k140 t143 w138) w138 fun t141 w142 =>
 Gd t124 true (fun k144 => Bi .and t141 (.int .i64 1073741824) fun t147 =>
 k144 t147 w142) w142 fun t145 w146 =>
 Gd t124 true (fun k148 => Bi .eql t145 (.int .i64 0) fun t151 =>
 k148 t151 w146) w146 fun t149 w150 =>
 Pk t124 t149 (.bool false) fun t152 =>
 J112 [t152] w150)))) → J34 [t37] w36) →
 Ca PP Fn.tree_Tree_may #[a0, a1, t14, t33] w32 fun t153 w154 =>
 Un .not t153 fun t155 =>
 Gd t155 false (fun k156 => k156 a3 w154) w154 fun t157 w158 =>
 Gd t155 false (fun k159 => Bi .and t157 (.int .i64 64) fun t162 =>
 k159 t162 w158) w158 fun t160 w161 =>
 Gd t155 false (fun k163 => Bi .neq t160 (.int .i64 0) fun t166 =>
 k163 t166 w161) w161 fun t164 w165 =>
 Gd t155 false (fun k167 => k167 t164 w165) w165 fun t168 w169 =>
 Gd t168 true (fun k170 => k170 a0 w169) w169 fun t171 w172 =>
 Gd t168 true (fun k173 => k173 a1 w172) w172 fun t174 w175 =>
 Gd t168 true (fun k176 => k176 t14 w175) w175 fun t177 w178 =>
 Gd t168 true (fun k179 => Nc t177 fun t182 =>
 k179 t182 w178) w178 fun t180 w181 =>
 Gd t168 true (fun k183 => Fa 12 t180 fun t186 =>
 k183 t186 w181) w181 fun t184 w185 =>
 Gd t168 true (fun k187 => Ld t184 w185 fun t190 =>
 k187 t190 w185) w185 fun t188 w189 =>
 Gd t168 true (fun k191 => Ca PP Fn.tree_Tree_may #[t171, t174, t188, (.int .i64 2)] w189 fun t194 w195 =>
 k191 t194 w195) w189 fun t192 w193 =>
 Gd t168 true (fun k196 => Un .not t192 fun t199 =>
 k196 t199 w193) w193 fun t197 w198 =>
 Gd t155 false (fun k200 => Pk t168 t197 (.bool false) fun t203 =>
 k200 t203 w198) w198 fun t201 w202 =>
 Pk t155 (.bool true) t201 fun t204 =>
 J34 [t204] w202) → J30 [t33] w32) →
 Bi .and a3 (.int .i64 16) fun t205 =>
 Bi .neq t205 (.int .i64 0) fun t206 =>
 Cnd t206 (
 Bi .or t29 (.int .i64 2) fun t207 =>
 J30 [t207] w22) (
 J30 [t29] w22))) → J20 [t23] w22) →
 Ca PP Fn.tree_node_isDir #[t14] w13 fun t208 w209 =>
 Gd t208 true (fun k210 => k210 a3 w209) w209 fun t211 w212 =>
 Gd t208 true (fun k213 => Bi .neq t211 (.int .i64 0) fun t216 =>
 k213 t216 w212) w212 fun t214 w215 =>
 Pk t208 t214 (.bool false) fun t217 =>
 J20 [t217] w215)))
def S.tree_Tree_Open.an : Ann := (.seq .leaf (.seq (.seq .leaf (.cond (.seq .leaf .leaf) .leaf)) (.seq (.seq .leaf (.cond (.seq .leaf .leaf) .leaf)) (.seq .leaf (.seq (.seq .leaf (.cond (.seq .leaf .leaf) .leaf)) (.seq (.join .leaf [38] [33,34,35,36,37] (.cond (.seq .leaf .leaf) .leaf)) (.seq .leaf (.join (.seq .leaf (.cond .leaf .leaf)) [13] [44,45,46,47,48] (.seq (.join .leaf [69] [49,50,51,52,53,54,55,56,57,58,59,60,61,62,63,64,65,66,67,68] (.cond (.seq .leaf .leaf) .leaf)) (.seq (.seq .leaf (.block (.loop (.seq .leaf (.seq (.cond .leaf .leaf) (.block (.seq .leaf (.join .leaf [92] [80,81,82,83,84,85,86,87,88,89,90,91] (.cond (.seq .leaf .leaf) .leaf)))))) [] [8,10,15,76,77,78,79,80,81,82,83,84,85,86,87,88,89,90,91,92,93]))) (.seq (.seq .leaf (.cond (.seq .leaf .leaf) .leaf)) (.join (.join .leaf [109] [98,99,100,101,102,103,104,105,106,107,108] (.cond (.seq .leaf .leaf) .leaf)) [] [98,99,100,101,102,103,104,105,106,107,108,109,110,111,112,113,114,115,116,117] (.seq .leaf .leaf)))))))))))))
theorem S.tree_Tree_Open.eq (a0 a1 a2 a3 : Value) (w : World) (R : Value → World → Prop) : S.tree_Tree_Open a0 a1 a2 a3 w R = fnC PP 126 (Tryz.f56.body.getD .skip) S.tree_Tree_Open.an [.tmp 8, .cell 9 37, .tmp 10] [a0, a1, a2, a3] w R := by kernel_rfl
theorem S.tree_Tree_Open.calls {a0 a1 a2 a3 : Value} {w : World} {R : Value → World → Prop} (h : S.tree_Tree_Open a0 a1 a2 a3 w R) : Ca PP Fn.tree_Tree_Open #[a0, a1, a2, a3] w R :=
  fnC_calls mixed (f := Fn.tree_Tree_Open) (an := S.tree_Tree_Open.an) Tryz.func56 rfl (by show _ ≤ _; exact Nat.le_of_ble_eq_true rfl) (S.tree_Tree_Open.eq a0 a1 a2 a3 w R ▸ h)
/-- strings.SplitSeq -/
def S.strings_SplitSeq (a0 a1 : Value) (w : World) (R : Value → World → Prop) : Prop :=
 Ca PP Fn.strings_splitSeq #[a0, a1, (.int .i64 0)] w fun t1 w2 =>
 R t1 w2
def S.strings_SplitSeq.an : Ann := (.seq .leaf (.seq .leaf .leaf))
theorem S.strings_SplitSeq.eq (a0 a1 : Value) (w : World) (R : Value → World → Prop) : S.strings_SplitSeq a0 a1 w R = fnC PP 8 (Tryz.f58.body.getD .skip) S.strings_SplitSeq.an [.tmp 4] [a0, a1] w R := by kernel_rfl
theorem S.strings_SplitSeq.calls {a0 a1 : Value} {w : World} {R : Value → World → Prop} (h : S.strings_SplitSeq a0 a1 w R) : Ca PP Fn.strings_SplitSeq #[a0, a1] w R :=
  fnC_calls mixed (f := Fn.strings_SplitSeq) (an := S.strings_SplitSeq.an) Tryz.func58 rfl (by show _ ≤ _; exact Nat.le_of_ble_eq_true rfl) (S.strings_SplitSeq.eq a0 a1 w R ▸ h)
/-- (*acheron/tree.node).isDir -/
def S.tree_node_isDir (a0 : Value) (w : World) (R : Value → World → Prop) : Prop :=
 Nc a0 fun t1 =>
 Fa 0 t1 fun t2 =>
 Fa 3 t2 fun t3 =>
 Ld t3 w fun t4 =>
 Bi .and t4 (.int .i64 2147483648) fun t5 =>
 Bi .neq t5 (.int .i64 0) fun t6 =>
 R t6 w
def S.tree_node_isDir.an : Ann := (.seq .leaf (.seq .leaf .leaf))
theorem S.tree_node_isDir.eq (a0 : Value) (w : World) (R : Value → World → Prop) : S.tree_node_isDir a0 w R = fnC PP 10 (Tryz.f63.body.getD .skip) S.tree_node_isDir.an [.tmp 2] [a0] w R := by kernel_rfl
theorem S.tree_node_isDir.calls {a0 : Value} {w : World} {R : Value → World → Prop} (h : S.tree_node_isDir a0 w R) : Ca PP Fn.tree_node_isDir #[a0] w R :=
  fnC_calls mixed (f := Fn.tree_node_isDir) (an := S.tree_node_isDir.an) Tryz.func63 rfl (by show _ ≤ _; exact Nat.le_of_ble_eq_true rfl) (S.tree_node_isDir.eq a0 w R ▸ h)
end Go.Proofs.YtnnhmahemklnkaaGreatDoor
