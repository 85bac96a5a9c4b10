/- Own text. -/
import Derived.Test.YtjffgllkfbcaeaaGreatDoorSc
namespace Go.Proofs.YtjffgllkfbcaeaaGreatDoor
open Go Go.Sh
set_option linter.unusedVariables false
set_option maxRecDepth 100000
/-- acheron/acheronlaw29.SpaceNil -/
def S.law29_SpaceNil (a0 : Value) (w : World) (R : Value → World → Prop) : Prop :=
 Al Ty.law29_Act (a0 : Value).cells w fun t1 w2 =>
 Ca PP Fn.law29_awake #[] w2 fun t3 w4 =>
 Un .not t3 fun t5 =>
 Cnd t5 (
 R (.bool false) w4) (
 LdA PP 18 t1 w4 fun t6 =>
 Ef PP (Instr.buildSlice Ty.sl_law29_Act 1 #[(0, t6)]) w4 fun t7 w8 =>
 Ca PP Fn.law29_Few #[t7] w8 fun t9 w10 =>
 Un .not t9 fun t11 =>
 Cnd t11 (
 R (.bool true) w10) (
 ∀ J12 : List Value → World → Prop, (∀ t15, ∀ w14 : World, (∀ u13 : Env,
 Cnd t15 (
 R (.bool false) w14) (
 Bd #[.int .i64 0, .string ⟨#[]⟩, .slice none 0 0, .slice none 0 0, .int .i64 0] [(0, 1), (1, 1), (2, 1), (3, 1), (4, 1)] [(4, (.int .i64 6))] fun t16 =>
 Al Ty.law29_Result #[.int .i64 0, .string ⟨#[]⟩, .slice none 0 0, .slice none 0 0, .int .i64 0] w14 fun t17 w18 =>
 St PP 5 t17 t16 w18 fun w19 =>
 ∀ J20 : List Value → World → Prop, (∀ w22 : World, (∀ u21 : Env,
 Ca PP Fn.space_New #[(.string ⟨#[97, 110, 110]⟩), .nilIface] w22 fun t23 w24 =>
 Ex t23 0 fun t25 =>
 Ex t23 1 fun t26 =>
 ∀ J27 : List Value → World → Prop, (∀ t30, ∀ w29 : World, (∀ u28 : Env,
 R t30 w29) → J27 [t30] w29) →
 Dr w24 fun w31 =>
 Rd PP (eqS .eql Ty.p_space_Space (.tmp 49) (.const (.pointer none)) t25 (.pointer none)) w31 fun t32 =>
 Gd t32 true (fun k33 => k33 t26 w31) w31 fun t34 w35 =>
 Gd t32 true (fun k36 => Bi .eql t34 (.int .i64 1) fun t39 =>
 k36 t39 w35) w35 fun t37 w38 =>
 Pk t32 t37 (.bool false) fun t40 =>
 Gd t40 true (fun k41 => Fa 0 t1 fun t44 =>
 k41 t44 w38) w38 fun t42 w43 =>
 Gd t40 true (fun k45 => Ld t42 w43 fun t48 =>
 k45 t48 w43) w43 fun t46 w47 =>
 Gd t40 true (fun k49 => Bi .lss t46 (.int .i64 0) fun t52 =>
 k49 t52 w47) w47 fun t50 w51 =>
 Gd t40 true (fun k53 => k53 t50 w51) w51 fun t54 w55 =>
 Gd t54 false (fun k56 => Fa 0 t1 fun t59 =>
 k56 t59 w55) w55 fun t57 w58 =>
 Gd t54 false (fun k60 => Ld t57 w58 fun t63 =>
 k60 t63 w58) w58 fun t61 w62 =>
 Gd t54 false (fun k64 => Bi .geq t61 (.int .i64 14) fun t67 =>
 k64 t67 w62) w62 fun t65 w66 =>
 Gd t40 true (fun k68 => Pk t54 (.bool true) t65 fun t71 =>
 k68 t71 w66) w66 fun t69 w70 =>
 Gd t40 true (fun k72 => k72 t69 w70) w70 fun t73 w74 =>
 Gd t73 false (fun k75 => k75 (.pointer none) w74) w74 fun t76 w77 =>
 Gd t73 false (fun k78 => LdA PP 18 t1 w77 fun t81 =>
 k78 t81 w77) w77 fun t79 w80 =>
 Gd t73 false (fun k82 => LdA PP 5 t17 w80 fun t85 =>
 k82 t85 w80) w80 fun t83 w84 =>
 Gd t73 false (fun k86 => Ca PP Fn.law29_Do #[t76, (.slice none 0 0), t79] w84 fun t89 w90 =>
 k86 t89 w90) w84 fun t87 w88 =>
 (Gd t73 false (fun k91 => LdA PP 5 t17 w88 fun t94 =>
 k91 t94 w88) w88 fun t92 w93 =>
 t92 = t83) ∧
 Gd t73 false (fun k95 => Ca PP Fn.law29_Same #[t87, t83] w88 fun t98 w99 =>
 k95 t98 w99) w88 fun t96 w97 =>
 Gd t40 true (fun k100 => Pk t73 (.bool true) t96 fun t103 =>
 k100 t103 w97) w97 fun t101 w102 =>
 Pk t40 t101 (.bool false) fun t104 =>
 J27 [t104] w102) → J20 [] w22) →
 Fa 0 t1 fun t105 =>
 Ld t105 w19 fun t106 =>
 Bi .eql t106 (.int .i64 4) fun t107 =>
 Cnd t107 (
 Bd #[.int .i64 0, .int .i64 0, .int .i64 0, .int .i64 0, .int .i64 0, .int .i64 0, .string ⟨#[]⟩, .string ⟨#[]⟩, .string ⟨#[]⟩, .string ⟨#[]⟩] [(0, 3), (3, 1), (4, 1), (5, 1), (6, 1), (7, 1), (8, 1), (9, 1)] [] fun t108 =>
 Ef PP (Instr.buildSlice Ty.sl_api_Dir 1 #[(0, t108)]) w19 fun t109 w110 =>
 Fa 2 t17 fun t111 =>
 St PP 1 t111 t109 w110 fun w112 =>
 J20 [] w112) (
 J20 [] w19))) → J12 [t15] w14) →
 Ca PP Fn.space_Space_Table #[(.pointer none)] w10 fun t113 w114 =>
 LnL t113 fun t115 =>
 Bi .gtr t115 (.int .i64 0) fun t116 =>
 Gd t116 false (fun k117 => k117 (.pointer none) w114) w114 fun t118 w119 =>
 Gd t116 false (fun k120 => Ca PP Fn.space_Space_Dir #[t118] w119 fun t123 w124 =>
 k120 t123 w124) w119 fun t121 w122 =>
 Gd t116 false (fun k125 => Bi .neq t121 (.string ⟨#[]⟩) fun t128 =>
 k125 t128 w122) w122 fun t126 w127 =>
 Pk t116 (.bool true) t126 fun t129 =>
 Gd t129 false (fun k130 => k130 (.pointer none) w127) w127 fun t131 w132 =>
 Gd t129 false (fun k133 => Ca PP Fn.space_Space_Fork #[t131] w132 fun t136 w137 =>
 k133 t136 w137) w132 fun t134 w135 =>
 Gd t129 false (fun k138 => Rd PP (eqS .neq Ty.p_space_Space (.tmp 24) (.const (.pointer none)) t134 (.pointer none)) w135 fun t141 =>
 k138 t141 w135) w135 fun t139 w140 =>
 Pk t129 (.bool true) t139 fun t142 =>
 Gd t142 false (fun k143 => k143 (.pointer none) w140) w140 fun t144 w145 =>
 Gd t142 false (fun k146 => Ca PP Fn.space_Space_Share #[t144] w145 fun t149 w150 =>
 k146 t149 w150) w145 fun t147 w148 =>
 Gd t142 false (fun k151 => Rd PP (eqS .neq Ty.p_space_Space (.tmp 29) (.const (.pointer none)) t147 (.pointer none)) w148 fun t154 =>
 k151 t154 w148) w148 fun t152 w153 =>
 Pk t142 (.bool true) t152 fun t155 =>
 Gd t155 false (fun k156 => k156 (.pointer none) w153) w153 fun t157 w158 =>
 Gd t155 false (fun k159 => Ca PP Fn.space_Space_Files #[t157] w158 fun t162 w163 =>
 k159 t162 w163) w158 fun t160 w161 =>
 Gd t155 false (fun k164 => LnL t160 fun t167 =>
 k164 t167 w161) w161 fun t165 w166 =>
 Gd t155 false (fun k168 => Bi .gtr t165 (.int .i64 0) fun t171 =>
 k168 t171 w166) w166 fun t169 w170 =>
 Pk t155 (.bool true) t169 fun t172 =>
 J12 [t172] w170))
def S.law29_SpaceNil.an : Ann := (.seq .leaf (.seq (.seq .leaf (.cond (.seq .leaf .leaf) .leaf)) (.seq (.seq .leaf (.cond (.seq .leaf .leaf) .leaf)) (.seq .leaf (.seq (.join .leaf [37] [13,14,15,16,17,18,19,20,21,22,23,24,25,26,27,28,29,30,31,32,33,34,35,36] (.cond (.seq .leaf .leaf) .leaf)) (.seq .leaf (.join (.seq .leaf (.cond .leaf .leaf)) [] [39,40,41,42,43,44] (.seq .leaf (.join (.draw [[],[0],[0,1],[0,1,2],[0,1,2,3],[0,1,2,3,4],[0,1,2,3,4,5],[0,1,2,3,4,5,6],[0,1,2,3,4,5,6,7],[0,1,2,3,4,5,6,7,8],[0,1,2,3,4,5,6,7,8,9],[0,1,2,3,4,5,6,7,8,9,10],[0,1,2,3,4,5,6,7,8,9,10,11],[0,1,2,3,4,5,6,7,8,9,10,11,12],[0,1,2,3,4,5,6,7,8,9,10,11,12,13],[0,1,2,3,4,5,6,7,8,9,10,11,12,13,14],[0,1,2,3,4,5,6,7,8,9,10,11,12,13,14,15],[0,1,2,3,4,5,6,7,8,9,10,11,12,13,14,15],[0,1,2,3,4,5,6,7,8,9,10,11,12,13,14,15,16,17],[0,1,2,3,4,5,6,7,8,9,10,11,12,13,14,15],[0,1,2,3,4,5,6,7,8,9,10,11,12,13,14,15,16,17,18,19],[0,1,2,3,4,5,6,7,8,9,10,11,12,13,14,15,16,17,18,19,20],[0,1,2,3,4,5,6,7,8,9,10,11,12,13,14,15,16,17,18,19,20,21],[0,1,2,3,4,5,6,7,8,9,10,11,12,13,14,15,16,17,18,19,20,21,22]] (.calm 0 (.calm 1 (.calm 2 (.calm 3 (.calm 4 (.calm 5 (.calm 6 (.calm 7 (.calm 8 (.calm 9 (.calm 10 (.calm 11 (.calm 12 (.calm 13 (.calm 14 (.calm 15 (.calm 16 (.calm 17 (.calm 19 (.eff1 18 [19] (.eff1 20 [] (.calm 21 (.calm 22 (.calm 23 .done))))))))))))))))))))))))) [2] [49,50,51,52,53,54,55,56,57,58,59,60,61,62,63,64,65,66,67,68,69,70,71] .leaf)))))))))
theorem S.law29_SpaceNil.eq (a0 : Value) (w : World) (R : Value → World → Prop) : S.law29_SpaceNil a0 w R = fnC PP 72 (Tryz.f7.body.getD .skip) S.law29_SpaceNil.an [.tmp 2] [a0] w R := by kernel_rfl
theorem S.law29_SpaceNil.calls {a0 : Value} {w : World} {R : Value → World → Prop} (h : S.law29_SpaceNil a0 w R) : Ca PP Fn.law29_SpaceNil #[a0] w R :=
  fnC_calls mixed (f := Fn.law29_SpaceNil) (an := S.law29_SpaceNil.an) Tryz.func7 rfl (by show _ ≤ _; exact Nat.le_of_ble_eq_true rfl) (S.law29_SpaceNil.eq a0 w R ▸ h)
/-- acheron/acheronlaw29.awake -/
def S.law29_awake (w : World) (R : Value → World → Prop) : Prop :=
 Ca PP Fn.law29_sample #[] w fun t1 w2 =>
 Ca PP Fn.law29_made #[t1] w2 fun t3 w4 =>
 ∀ J5 : List Value → World → Prop, (∀ t8, ∀ w7 : World, (∀ u6 : Env,
 Cnd t8 (
 R (.bool false) w7) (
 Nc t3 fun t9 =>
 Fa 0 t9 fun t10 =>
 Ld t10 w7 fun t11 =>
 Ca PP Fn.space_Space_Where #[t11, (.string ⟨#[47, 97]⟩)] w7 fun t12 w13 =>
 Ex t12 0 fun t14 =>
 Ex t12 1 fun t15 =>
 Nc t3 fun t16 =>
 Fa 0 t16 fun t17 =>
 Ld t17 w13 fun t18 =>
 Ca PP Fn.space_Space_Open #[t18, (.string ⟨#[47, 97, 47, 103]⟩), (.int .i64 0)] w13 fun t19 w20 =>
 Ex t19 0 fun t21 =>
 Ex t19 1 fun t22 =>
 Nc t3 fun t23 =>
 Fa 0 t23 fun t24 =>
 Ld t24 w20 fun t25 =>
 Ca PP Fn.space_Space_Read #[t25, t21, (.int .i64 0), (.int .i64 9)] w20 fun t26 w27 =>
 Ex t26 0 fun t28 =>
 Ex t26 1 fun t29 =>
 ∀ J30 : List Value → World → Prop, (∀ t33, ∀ w32 : World, (∀ u31 : Env,
 R t33 w32) → J30 [t33] w32) →
 Bi .eql t15 (.int .i64 0) fun t34 =>
 Gd t34 true (fun k35 => k35 t22 w27) w27 fun t36 w37 =>
 Gd t34 true (fun k38 => Bi .eql t36 (.int .i64 0) fun t41 =>
 k38 t41 w37) w37 fun t39 w40 =>
 Pk t34 t39 (.bool false) fun t42 =>
 Gd t42 true (fun k43 => k43 t29 w40) w40 fun t44 w45 =>
 Gd t42 true (fun k46 => Bi .eql t44 (.int .i64 0) fun t49 =>
 k46 t49 w45) w45 fun t47 w48 =>
 Pk t42 t47 (.bool false) fun t50 =>
 Gd t50 true (fun k51 => k51 t28 w48) w48 fun t52 w53 =>
 Gd t50 true (fun k54 => Bi .eql t52 (.string ⟨#[51]⟩) fun t57 =>
 k54 t57 w53) w53 fun t55 w56 =>
 Pk t50 t55 (.bool false) fun t58 =>
 Gd t58 true (fun k59 => k59 t14 w56) w56 fun t60 w61 =>
 Gd t58 true (fun k62 => Bd #[.int .i64 0, .int .i64 0] [(0, 1), (1, 1)] [(1, (.int .i64 1))] fun t65 =>
 k62 t65 w61) w61 fun t63 w64 =>
 Gd t58 true (fun k66 => Bd #[.int .i64 0, .int .i64 0] [(0, 1), (1, 1)] [(1, (.int .i64 3))] fun t69 =>
 k66 t69 w64) w64 fun t67 w68 =>
 Gd t58 true (fun k70 => Ef PP (Instr.buildSlice Ty.sl_space_Place 2 #[(0, t63), (1, t67)]) w68 fun t73 w74 =>
 k70 t73 w74) w68 fun t71 w72 =>
 Gd t58 true (fun k75 => Ca PP Fn.slices_Equal_sl_space_Place_space_Place #[t60, t71] w72 fun t78 w79 =>
 k75 t78 w79) w72 fun t76 w77 =>
 Pk t58 t76 (.bool false) fun t80 =>
 J30 [t80] w77)) → J5 [t8] w7) →
 Rd PP (eqS .eql Ty.p_law29_World (.tmp 10) (.const (.pointer none)) t3 (.pointer none)) w4 fun t81 =>
 Gd t81 false (fun k82 => k82 t3 w4) w4 fun t83 w84 =>
 Gd t81 false (fun k85 => Nc t83 fun t88 =>
 k85 t88 w84) w84 fun t86 w87 =>
 Gd t81 false (fun k89 => Fa 0 t86 fun t92 =>
 k89 t92 w87) w87 fun t90 w91 =>
 Gd t81 false (fun k93 => Ld t90 w91 fun t96 =>
 k93 t96 w91) w91 fun t94 w95 =>
 Gd t81 false (fun k97 => Ca PP Fn.space_Space_Bind #[t94, (.string ⟨#[47, 98]⟩), (.string ⟨#[47, 97]⟩), (.int .i64 2)] w95 fun t100 w101 =>
 k97 t100 w101) w95 fun t98 w99 =>
 Gd t81 false (fun k102 => Bi .neq t98 (.int .i64 0) fun t105 =>
 k102 t105 w99) w99 fun t103 w104 =>
 Pk t81 (.bool true) t103 fun t106 =>
 Gd t106 false (fun k107 => k107 t3 w104) w104 fun t108 w109 =>
 Gd t106 false (fun k110 => Nc t108 fun t113 =>
 k110 t113 w109) w109 fun t111 w112 =>
 Gd t106 false (fun k114 => Fa 0 t111 fun t117 =>
 k114 t117 w112) w112 fun t115 w116 =>
 Gd t106 false (fun k118 => Ld t115 w116 fun t121 =>
 k118 t121 w116) w116 fun t119 w120 =>
 Gd t106 false (fun k122 => Ca PP Fn.space_Space_Bind #[t119, (.string ⟨#[47, 98]⟩), (.string ⟨#[47, 97]⟩), (.int .i64 1)] w120 fun t125 w126 =>
 k122 t125 w126) w120 fun t123 w124 =>
 Gd t106 false (fun k127 => Bi .neq t123 (.int .i64 5) fun t130 =>
 k127 t130 w124) w124 fun t128 w129 =>
 Pk t106 (.bool true) t128 fun t131 =>
 J5 [t131] w129
def S.law29_awake.an : Ann := (.seq .leaf (.seq .leaf (.seq (.join .leaf [27] [10,11,12,13,14,15,16,17,18,19,20,21,22,23,24,25,26] (.cond (.seq .leaf .leaf) .leaf)) (.seq .leaf (.seq .leaf (.seq .leaf (.join .leaf [0] [53,54,55,56,57,58,59,60,61,62,63,64,65,66,67,68,69,70,71,72,73] .leaf)))))))
theorem S.law29_awake.eq (w : World) (R : Value → World → Prop) : S.law29_awake  w R = fnC PP 74 (Tryz.f9.body.getD .skip) S.law29_awake.an [.tmp 0] [] w R := by kernel_rfl
theorem S.law29_awake.calls {w : World} {R : Value → World → Prop} (h : S.law29_awake w R) : Ca PP Fn.law29_awake #[] w R :=
  fnC_calls mixed (f := Fn.law29_awake) (an := S.law29_awake.an) Tryz.func9 rfl (by show _ ≤ _; exact Nat.le_of_ble_eq_true rfl) (S.law29_awake.eq w R ▸ h)
/-- acheron/acheronlaw29.Few -/
def S.law29_Few (a0 : Value) (w : World) (R : Value → World → Prop) : Prop :=
 ∀ J1 : List Value → World → Prop, (∀ t4, ∀ w3 : World, (∀ u2 : Env,
 R t4 w3) → J1 [t4] w3) →
 LnL a0 fun t5 =>
 Bi .leq t5 (.int .i64 40) fun t6 =>
 Gd t6 true (fun k7 => k7 a0 w) w fun t8 w9 =>
 Gd t6 true (fun k10 => Ca PP Fn.slices_ContainsFunc_sl_law29_Act_law29_Act #[t8, (.func (.func Fn.law29_Few_1) #[] #[])] w9 fun t13 w14 =>
 k10 t13 w14) w9 fun t11 w12 =>
 Gd t6 true (fun k15 => Un .not t11 fun t18 =>
 k15 t18 w12) w12 fun t16 w17 =>
 Pk t6 t16 (.bool false) fun t19 =>
 J1 [t19] w17
def S.law29_Few.an : Ann := (.seq .leaf (.join .leaf [2] [3,4,5,6,7,8,9,10] .leaf))
theorem S.law29_Few.eq (a0 : Value) (w : World) (R : Value → World → Prop) : S.law29_Few a0 w R = fnC PP 11 (Tryz.f11.body.getD .skip) S.law29_Few.an [.tmp 2] [a0] w R := by kernel_rfl
theorem S.law29_Few.calls {a0 : Value} {w : World} {R : Value → World → Prop} (h : S.law29_Few a0 w R) : Ca PP Fn.law29_Few #[a0] w R :=
  fnC_calls mixed (f := Fn.law29_Few) (an := S.law29_Few.an) Tryz.func11 rfl (by show _ ≤ _; exact Nat.le_of_ble_eq_true rfl) (S.law29_Few.eq a0 w R ▸ h)
/-- acheron/acheronlaw29.made -/
def S.law29_made (a0 : Value) (w : World) (R : Value → World → Prop) : Prop :=
 Al Ty.law29_Setting (a0 : Value).cells w fun t1 w2 =>
 Bd #[.pointer none, .slice none 0 0] [(0, 1), (1, 1)] [] fun t3 =>
 Al Ty.law29_World (t3 : Value).cells w2 fun t4 w5 =>
 Fa 1 t1 fun t6 =>
 Ld t6 w5 fun t7 =>
 LnL t7 fun t8 =>
 ∃ (I9 : List Value → World → Prop) (m10 : List Value → World → Nat), I9 [(.int .i64 0)] w5 ∧ ∀ t13, ∀ (u11 : Env) (w12 : World), I9 [t13] w12 →
 Bi .lss t13 t8 fun t14 =>
 Cnd t14 (
 IxA 1 t7 t13 fun t15 =>
 Ld t15 w12 fun t16 =>
 Ca PP Fn.law29_grow #[t16] w12 fun t17 w18 =>
 Rd PP (eqS .eql Ty.p_tree_Tree (.tmp 20) (.const (.pointer none)) t17 (.pointer none)) w18 fun t19 =>
 Cnd t19 (
 R (.pointer none) w18) (
 Nc t4 fun t20 =>
 Fa 1 t20 fun t21 =>
 Ld t21 w18 fun t22 =>
 Ef PP (Instr.buildSlice Ty.sl_p_tree_Tree 1 #[(0, t17)]) w18 fun t23 w24 =>
 Ef PP (Builtin.append_ #[Ty.sl_p_tree_Tree, Ty.sl_p_tree_Tree] Ty.sl_p_tree_Tree #[t22, t23]) w24 fun t25 w26 =>
 Nc t4 fun t27 =>
 Fa 1 t27 fun t28 =>
 St PP 1 t28 t25 w26 fun w29 =>
 Bi .add t13 (.int .i64 1) fun t30 =>
 I9 [t30] w29 ∧ m10 [t30] w29 < m10 [t13] w12)) (
 Dr w12 fun w31 =>
 Fa 0 t1 fun t32 =>
 Ld t32 w31 fun t33 =>
 Nc t4 fun t34 =>
 Fa 1 t34 fun t35 =>
 Ld t35 w31 fun t36 =>
 IxA 1 t36 (.int .i64 0) fun t37 =>
 Ld t37 w31 fun t38 =>
 Ca PP Fn.space_New #[t33, (.iface Ty.p_tree_Tree t38)] w31 fun t39 w40 =>
 Ex t39 0 fun t41 =>
 Ex t39 1 fun t42 =>
 ∀ J43 : List Value → World → Prop, (∀ t46, ∀ w45 : World, (∀ u44 : Env,
 Cnd t46 (
 R (.pointer none) w45) (
 Nc t4 fun t47 =>
 Fa 0 t47 fun t48 =>
 St PP 1 t48 t41 w45 fun w49 =>
 R t4 w49)) → J43 [t46] w45) →
 Bi .neq t42 (.int .i64 0) fun t50 =>
 Gd t50 false (fun k51 => k51 t41 w40) w40 fun t52 w53 =>
 Gd t50 false (fun k54 => Rd PP (eqS .eql Ty.p_space_Space (.tmp 49) (.const (.pointer none)) t52 (.pointer none)) w53 fun t57 =>
 k54 t57 w53) w53 fun t55 w56 =>
 Pk t50 (.bool true) t55 fun t58 =>
 J43 [t58] w56)
def S.law29_made.an : Ann := (.seq .leaf (.seq .leaf (.seq (.seq .leaf (.block (.loop (.seq .leaf (.seq (.cond .leaf .leaf) (.seq (.block (.seq .leaf (.seq .leaf (.seq (.seq .leaf (.cond (.seq .leaf .leaf) .leaf)) .leaf)))) .leaf))) [14] [2,5,6,15,16,17,18,19,20,21,22,23,24,25,26,27,28,29,30,31,32]))) (.seq (.draw [[],[0],[],[2],[2,3],[2,3,4],[2,3,4,5],[2,3,4,5,6],[2,3,4,5,6,7],[0,1,2,3,4,5,6,7,8],[0,1,2,3,4,5,6,7,8,9],[0,1,2,3,4,5,6,7,8,9,10],[0,1,2,3,4,5,6,7,8,9,10],[0,1,2,3,4,5,6,7,8,9,10,11],[0,1,2,3,4,5,6,7,8,9,10,11,12,13]] (.calm 0 (.calm 1 (.calm 2 (.calm 3 (.calm 4 (.calm 5 (.calm 6 (.calm 7 (.calm 8 (.eff1 9 [] (.calm 10 (.calm 11 (.calm 12 (.calm 13 (.calm 14 .done)))))))))))))))) (.seq (.join .leaf [51] [46,47,48,49,50] (.cond (.seq .leaf .leaf) .leaf)) (.seq .leaf (.seq .leaf .leaf)))))))
theorem S.law29_made.eq (a0 : Value) (w : World) (R : Value → World → Prop) : S.law29_made a0 w R = fnC PP 57 (Tryz.f13.body.getD .skip) S.law29_made.an [.tmp 2] [a0] w R := by kernel_rfl
theorem S.law29_made.calls {a0 : Value} {w : World} {R : Value → World → Prop} (h : S.law29_made a0 w R) : Ca PP Fn.law29_made #[a0] w R :=
  fnC_calls mixed (f := Fn.law29_made) (an := S.law29_made.an) Tryz.func13 rfl (by show _ ≤ _; exact Nat.le_of_ble_eq_true rfl) (S.law29_made.eq a0 w R ▸ h)
/-- acheron/acheronlaw29.Do -/
def S.law29_Do (a0 a1 a2 : Value) (w : World) (R : Value → World → Prop) : Prop :=
 Al Ty.law29_Act (a2 : Value).cells w fun t1 w2 =>
 Al Ty.law29_Result #[.int .i64 0, .string ⟨#[]⟩, .slice none 0 0, .slice none 0 0, .int .i64 0] w2 fun t3 w4 =>
 Bd #[.int .i64 0, .string ⟨#[]⟩, .slice none 0 0, .slice none 0 0, .int .i64 0] [(0, 1), (1, 1), (2, 1), (3, 1), (4, 1)] [] fun t5 =>
 Al Ty.law29_Result #[.int .i64 0, .string ⟨#[]⟩, .slice none 0 0, .slice none 0 0, .int .i64 0] w4 fun t6 w7 =>
 St PP 5 t6 t5 w7 fun w8 =>
 ∀ J9 : List Value → World → Prop, (∀ w11 : World, (∀ u10 : Env,
 LdA PP 5 t6 w11 fun t12 =>
 St PP 5 t3 t12 w11 fun w13 =>
 LdA PP 5 t3 w13 fun t14 =>
 R t14 w13) → J9 [] w11) →
 Fa 0 t1 fun t15 =>
 Ld t15 w8 fun t16 =>
 Bi .eql t16 (.int .i64 0) fun t17 =>
 Cnd t17 (
 Fa 3 t1 fun t18 =>
 Ld t18 w8 fun t19 =>
 Fa 4 t1 fun t20 =>
 Ld t20 w8 fun t21 =>
 Fa 2 t1 fun t22 =>
 Ld t22 w8 fun t23 =>
 Ca PP Fn.space_Space_Bind #[a0, t19, t21, t23] w8 fun t24 w25 =>
 Fa 4 t6 fun t26 =>
 St PP 1 t26 t24 w25 fun w27 =>
 J9 [] w27) (
 Bi .eql t16 (.int .i64 1) fun t28 =>
 Cnd t28 (
 ∀ J29 : List Value → World → Prop, (∀ t32, ∀ w31 : World, (∀ u30 : Env,
 Cnd t32 (
 Dr w31 fun w33 =>
 Fa 1 t1 fun t34 =>
 Ld t34 w33 fun t35 =>
 IxA 1 a1 t35 fun t36 =>
 Ld t36 w33 fun t37 =>
 Fa 4 t1 fun t38 =>
 Ld t38 w33 fun t39 =>
 Fa 2 t1 fun t40 =>
 Ld t40 w33 fun t41 =>
 Ca PP Fn.space_Space_Mount #[a0, (.iface Ty.p_tree_Tree t37), t39, t41] w33 fun t42 w43 =>
 Fa 4 t6 fun t44 =>
 St PP 1 t44 t42 w43 fun w45 =>
 J9 [] w45) (
 Fa 4 t1 fun t46 =>
 Ld t46 w31 fun t47 =>
 Fa 2 t1 fun t48 =>
 Ld t48 w31 fun t49 =>
 Ca PP Fn.space_Space_Mount #[a0, .nilIface, t47, t49] w31 fun t50 w51 =>
 Fa 4 t6 fun t52 =>
 St PP 1 t52 t50 w51 fun w53 =>
 J9 [] w53)) → J29 [t32] w31) →
 Fa 1 t1 fun t54 =>
 Ld t54 w8 fun t55 =>
 Bi .geq t55 (.int .i64 0) fun t56 =>
 Gd t56 true (fun k57 => Fa 1 t1 fun t60 =>
 k57 t60 w8) w8 fun t58 w59 =>
 Gd t56 true (fun k61 => Ld t58 w59 fun t64 =>
 k61 t64 w59) w59 fun t62 w63 =>
 Gd t56 true (fun k65 => k65 a1 w63) w63 fun t66 w67 =>
 Gd t56 true (fun k68 => LnL t66 fun t71 =>
 k68 t71 w67) w67 fun t69 w70 =>
 Gd t56 true (fun k72 => Bi .lss t62 t69 fun t75 =>
 k72 t75 w70) w70 fun t73 w74 =>
 Pk t56 t73 (.bool false) fun t76 =>
 J29 [t76] w74) (
 Bi .eql t16 (.int .i64 2) fun t77 =>
 Cnd t77 (
 Fa 3 t1 fun t78 =>
 Ld t78 w8 fun t79 =>
 Fa 4 t1 fun t80 =>
 Ld t80 w8 fun t81 =>
 Ca PP Fn.space_Space_Unmount #[a0, t79, t81] w8 fun t82 w83 =>
 Fa 4 t6 fun t84 =>
 St PP 1 t84 t82 w83 fun w85 =>
 J9 [] w85) (
 Bi .eql t16 (.int .i64 3) fun t86 =>
 Cnd t86 (
 Fa 3 t1 fun t87 =>
 Ld t87 w8 fun t88 =>
 Ca PP Fn.space_Space_Chdir #[a0, t88] w8 fun t89 w90 =>
 Fa 4 t6 fun t91 =>
 St PP 1 t91 t89 w90 fun w92 =>
 J9 [] w92) (
 Bi .eql t16 (.int .i64 4) fun t93 =>
 Cnd t93 (
 Fa 3 t1 fun t94 =>
 Ld t94 w8 fun t95 =>
 Ca PP Fn.space_Space_Stat #[a0, t95] w8 fun t96 w97 =>
 Ex t96 0 fun t98 =>
 Ex t96 1 fun t99 =>
 Al Ty.api_Dir #[.int .i64 0, .int .i64 0, .int .i64 0, .int .i64 0, .int .i64 0, .int .i64 0, .string ⟨#[]⟩, .string ⟨#[]⟩, .string ⟨#[]⟩, .string ⟨#[]⟩] w97 fun t100 w101 =>
 St PP 10 t100 t98 w101 fun w102 =>
 LdA PP 10 t100 w102 fun t103 =>
 Ef PP (Instr.buildSlice Ty.sl_api_Dir 1 #[(0, t103)]) w102 fun t104 w105 =>
 Fa 2 t6 fun t106 =>
 St PP 1 t106 t104 w105 fun w107 =>
 Fa 4 t6 fun t108 =>
 St PP 1 t108 t99 w107 fun w109 =>
 J9 [] w109) (
 Bi .eql t16 (.int .i64 5) fun t110 =>
 Cnd t110 (
 Fa 3 t1 fun t111 =>
 Ld t111 w8 fun t112 =>
 Fa 8 t1 fun t113 =>
 LdA PP 10 t113 w8 fun t114 =>
 Ca PP Fn.space_Space_Wstat #[a0, t112, t114] w8 fun t115 w116 =>
 Fa 4 t6 fun t117 =>
 St PP 1 t117 t115 w116 fun w118 =>
 J9 [] w118) (
 Bi .eql t16 (.int .i64 6) fun t119 =>
 Cnd t119 (
 Fa 3 t1 fun t120 =>
 Ld t120 w8 fun t121 =>
 Fa 2 t1 fun t122 =>
 Ld t122 w8 fun t123 =>
 Ca PP Fn.space_Space_Open #[a0, t121, t123] w8 fun t124 w125 =>
 Ex t124 0 fun t126 =>
 Ex t124 1 fun t127 =>
 Fa 0 t6 fun t128 =>
 St PP 1 t128 t126 w125 fun w129 =>
 Fa 4 t6 fun t130 =>
 St PP 1 t130 t127 w129 fun w131 =>
 J9 [] w131) (
 Bi .eql t16 (.int .i64 7) fun t132 =>
 Cnd t132 (
 Fa 3 t1 fun t133 =>
 Ld t133 w8 fun t134 =>
 Fa 6 t1 fun t135 =>
 Ld t135 w8 fun t136 =>
 Fa 2 t1 fun t137 =>
 Ld t137 w8 fun t138 =>
 Ca PP Fn.space_Space_Create #[a0, t134, t136, t138] w8 fun t139 w140 =>
 Ex t139 0 fun t141 =>
 Ex t139 1 fun t142 =>
 Fa 0 t6 fun t143 =>
 St PP 1 t143 t141 w140 fun w144 =>
 Fa 4 t6 fun t145 =>
 St PP 1 t145 t142 w144 fun w146 =>
 J9 [] w146) (
 Bi .eql t16 (.int .i64 8) fun t147 =>
 Cnd t147 (
 Fa 1 t1 fun t148 =>
 Ld t148 w8 fun t149 =>
 Fa 7 t1 fun t150 =>
 Ld t150 w8 fun t151 =>
 Fa 2 t1 fun t152 =>
 Ld t152 w8 fun t153 =>
 Ca PP Fn.space_Space_Read #[a0, t149, t151, t153] w8 fun t154 w155 =>
 Ex t154 0 fun t156 =>
 Ex t154 1 fun t157 =>
 Fa 1 t6 fun t158 =>
 St PP 1 t158 t156 w155 fun w159 =>
 Fa 4 t6 fun t160 =>
 St PP 1 t160 t157 w159 fun w161 =>
 J9 [] w161) (
 Bi .eql t16 (.int .i64 9) fun t162 =>
 Cnd t162 (
 Fa 1 t1 fun t163 =>
 Ld t163 w8 fun t164 =>
 Ca PP Fn.space_Space_List #[a0, t164] w8 fun t165 w166 =>
 Ex t165 0 fun t167 =>
 Ex t165 1 fun t168 =>
 Fa 2 t6 fun t169 =>
 St PP 1 t169 t167 w166 fun w170 =>
 Fa 4 t6 fun t171 =>
 St PP 1 t171 t168 w170 fun w172 =>
 J9 [] w172) (
 Bi .eql t16 (.int .i64 10) fun t173 =>
 Cnd t173 (
 Fa 1 t1 fun t174 =>
 Ld t174 w8 fun t175 =>
 Fa 7 t1 fun t176 =>
 Ld t176 w8 fun t177 =>
 Fa 5 t1 fun t178 =>
 Ld t178 w8 fun t179 =>
 Ca PP Fn.space_Space_Write #[a0, t175, t177, t179] w8 fun t180 w181 =>
 Ex t180 0 fun t182 =>
 Ex t180 1 fun t183 =>
 Fa 0 t6 fun t184 =>
 St PP 1 t184 t182 w181 fun w185 =>
 Fa 4 t6 fun t186 =>
 St PP 1 t186 t183 w185 fun w187 =>
 J9 [] w187) (
 Bi .eql t16 (.int .i64 11) fun t188 =>
 Cnd t188 (
 Fa 1 t1 fun t189 =>
 Ld t189 w8 fun t190 =>
 Ca PP Fn.space_Space_Close #[a0, t190] w8 fun t191 w192 =>
 Fa 4 t6 fun t193 =>
 St PP 1 t193 t191 w192 fun w194 =>
 J9 [] w194) (
 Bi .eql t16 (.int .i64 12) fun t195 =>
 Cnd t195 (
 Fa 3 t1 fun t196 =>
 Ld t196 w8 fun t197 =>
 Ca PP Fn.space_Space_Remove #[a0, t197] w8 fun t198 w199 =>
 Fa 4 t6 fun t200 =>
 St PP 1 t200 t198 w199 fun w201 =>
 J9 [] w201) (
 Bi .eql t16 (.int .i64 13) fun t202 =>
 Cnd t202 (
 Fa 3 t1 fun t203 =>
 Ld t203 w8 fun t204 =>
 Ca PP Fn.space_Space_Where #[a0, t204] w8 fun t205 w206 =>
 Ex t205 0 fun t207 =>
 Ex t205 1 fun t208 =>
 Fa 3 t6 fun t209 =>
 St PP 1 t209 t207 w206 fun w210 =>
 Fa 4 t6 fun t211 =>
 St PP 1 t211 t208 w210 fun w212 =>
 J9 [] w212) (
 J9 [] w8))))))))))))))
def S.law29_Do.an : Ann := (.seq .leaf (.seq .leaf (.join (.seq .leaf (.block (.seq .leaf (.cond .leaf (.seq .leaf (.cond (.join .leaf [35] [26,27,28,29,30,31,32,33,34] (.cond (.draw [[],[],[],[2],[1,2,3],[1,2,3,4],[1,2,3,4,5],[],[7],[],[9],[0,1,2,3,4,5,6,7,8,9,10],[0,1,2,3,4,5,6,7,8,9,10,11],[0,1,2,3,4,5,6,7,8,9,10,11,12]] (.calm 0 (.calm 1 (.calm 2 (.calm 3 (.calm 4 (.calm 5 (.calm 6 (.calm 7 (.calm 8 (.calm 9 (.calm 10 (.eff1 11 [] (.calm 12 (.eff1 13 [] .done))))))))))))))) .leaf)) (.seq .leaf (.cond .leaf (.seq .leaf (.cond .leaf (.seq .leaf (.cond (.seq .leaf .leaf) (.seq .leaf (.cond .leaf (.seq .leaf (.cond .leaf (.seq .leaf (.cond .leaf (.seq .leaf (.cond .leaf (.seq .leaf (.cond .leaf (.seq .leaf (.cond .leaf (.seq .leaf (.cond .leaf (.seq .leaf (.cond .leaf (.seq .leaf (.cond .leaf .leaf)))))))))))))))))))))))))))))) [] [8,9,11,12,13,14,15,16,17,18,19,20,21,22,23,24,25,26,27,28,29,30,31,32,33,34,35,36,37,38,39,40,41,42,43,44,45,46,47,48,49,50,51,52,53,54,55,56,57,58,59,60,61,62,63,64,65,66,67,68,69,70,71,72,73,74,75,76,77,78,79,80,81,82,83,84,85,86,87,88,89,90,91,92,93,94,95,96,97,98,99,100,101,102,103,104,105,106,107,108,109,110,111,112,113,114,115,116,117,118,119,120,121,122,123,124,125,126,127,128,129,130,131,132,133,134,135,136,137,138,139,140,141,142,143,144,145,146,147,148,149,150,151,152,153,154,155,156,157,158,159,160,161,162,163,164,165,166,167,168,169,170,171,172,173,174,175,176,177,178,179,180,181,182,183,184,185,186,187,188] (.seq .leaf .leaf))))
theorem S.law29_Do.eq (a0 a1 a2 : Value) (w : World) (R : Value → World → Prop) : S.law29_Do a0 a1 a2 w R = fnC PP 190 (Tryz.f14.body.getD .skip) S.law29_Do.an [.cell 6 46] [a0, a1, a2] w R := by kernel_rfl
theorem S.law29_Do.calls {a0 a1 a2 : Value} {w : World} {R : Value → World → Prop} (h : S.law29_Do a0 a1 a2 w R) : Ca PP Fn.law29_Do #[a0, a1, a2] w R :=
  fnC_calls mixed (f := Fn.law29_Do) (an := S.law29_Do.an) Tryz.func14 rfl (by show _ ≤ _; exact Nat.le_of_ble_eq_true rfl) (S.law29_Do.eq a0 a1 a2 w R ▸ h)
/-- (*acheron/space.Space).Where -/
def S.space_Space_Where (a0 a1 : Value) (w : World) (R : Value → World → Prop) : Prop :=
 Ca PP Fn.space_Space_place #[a0, a1] w fun t1 w2 =>
 Ex t1 0 fun t3 =>
 Ex t1 1 fun t4 =>
 Al Ty.space_Place #[.int .i64 0, .int .i64 0] w2 fun t5 w6 =>
 St PP 2 t5 t3 w6 fun w7 =>
 Bi .neq t4 (.int .i64 0) fun t8 =>
 Cnd t8 (
 R (.tuple #[(.slice none 0 0), t4]) w7) (
 Dr w7 fun w9 =>
 Nc a0 fun t10 =>
 Fa 0 t10 fun t11 =>
 Ld t11 w9 fun t12 =>
 LdA PP 2 t5 w9 fun t13 =>
 Ca PP Fn.space_table_stand #[t12, t13] w9 fun t14 w15 =>
 Ex t14 0 fun t16 =>
 Ex t14 1 fun t17 =>
 Ca PP Fn.slices_Clone_sl_space_Place_space_Place #[t16] w15 fun t18 w19 =>
 R (.tuple #[t18, (.int .i64 0)]) w19)
def S.space_Space_Where.an : Ann := (.seq .leaf (.seq .leaf (.seq (.seq .leaf (.cond (.seq .leaf .leaf) .leaf)) (.seq (.draw [[],[0],[0,1],[0,1,2],[],[0,1,2,3,4],[0,1,2,3,4,5],[0,1,2,3,4,5,6],[0,1,2,3,4,5,6],[0,1,2,3,4,5,6,7],[0,1,2,3,4,5,6,7,8,9]] (.calm 0 (.calm 1 (.calm 2 (.calm 3 (.calm 4 (.eff1 5 [] (.calm 6 (.calm 7 (.calm 8 (.calm 9 (.calm 10 .done)))))))))))) (.seq .leaf .leaf)))))
theorem S.space_Space_Where.eq (a0 a1 : Value) (w : World) (R : Value → World → Prop) : S.space_Space_Where a0 a1 w R = fnC PP 30 (Tryz.f15.body.getD .skip) S.space_Space_Where.an [.tmp 4, .tmp 5] [a0, a1] w R := by kernel_rfl
theorem S.space_Space_Where.calls {a0 a1 : Value} {w : World} {R : Value → World → Prop} (h : S.space_Space_Where a0 a1 w R) : Ca PP Fn.space_Space_Where #[a0, a1] w R :=
  fnC_calls mixed (f := Fn.space_Space_Where) (an := S.space_Space_Where.an) Tryz.func15 rfl (by show _ ≤ _; exact Nat.le_of_ble_eq_true rfl) (S.space_Space_Where.eq a0 a1 w R ▸ h)
/-- (*acheron/space.Space).Open -/
def S.space_Space_Open (a0 a1 a2 : Value) (w : World) (R : Value → World → Prop) : Prop :=
 Ca PP Fn.space_Space_Where #[a0, a1] w fun t1 w2 =>
 Ex t1 0 fun t3 =>
 Ex t1 1 fun t4 =>
 Bi .neq t4 (.int .i64 0) fun t5 =>
 Cnd t5 (
 R (.tuple #[(.int .i64 0), t4]) w2) (
 IxA 2 t3 (.int .i64 0) fun t6 =>
 LdA PP 2 t6 w2 fun t7 =>
 Ca PP Fn.space_Space_isDir #[a0, t7] w2 fun t8 w9 =>
 Ex t8 0 fun t10 =>
 Ex t8 1 fun t11 =>
 ∀ J12 : List Value → World → Prop, (∀ t15, ∀ w14 : World, (∀ u13 : Env,
 LnL t15 fun t16 =>
 ∃ (I17 : List Value → World → Prop) (m18 : List Value → World → Nat), I17 [(.slice none 0 0), (.int .i64 0)] w14 ∧ ∀ t21 t22, ∀ (u19 : Env) (w20 : World), I17 [t21, t22] w20 →
 Bi .lss t22 t16 fun t23 =>
 Cnd t23 (
 IxA 2 t15 t22 fun t24 =>
 LdA PP 2 t24 w20 fun t25 =>
 Al Ty.space_Place #[.int .i64 0, .int .i64 0] w20 fun t26 w27 =>
 St PP 2 t26 t25 w27 fun w28 =>
 Dr w28 fun w29 =>
 Nc a0 fun t30 =>
 Fa 0 t30 fun t31 =>
 Ld t31 w29 fun t32 =>
 Nc t32 fun t33 =>
 Fa 0 t33 fun t34 =>
 Ld t34 w29 fun t35 =>
 Fa 0 t26 fun t36 =>
 Ld t36 w29 fun t37 =>
 IxA 1 t35 t37 fun t38 =>
 Ld t38 w29 fun t39 =>
 Dr w29 fun w40 =>
 Nc a0 fun t41 =>
 Fa 1 t41 fun t42 =>
 Ld t42 w40 fun t43 =>
 Fa 1 t26 fun t44 =>
 Ld t44 w40 fun t45 =>
 NcF PP (.func (.method "Open") #[t39] #[]) fun t46 =>
 (Iv PP t39 "Open" #[t43, t45, a2] w40 fun t47 w48 =>
 Ex t47 0 fun t49 =>
 Ex t47 1 fun t50 =>
 Ex t47 2 fun t51 =>
 Al Ty.api_Qid #[.int .i64 0, .int .i64 0, .int .i64 0] w48 fun t52 w53 =>
 (Ld t42 w53 fun t54 =>
 t54 = t43) ∧
 (Ld t44 w53 fun t55 =>
 t55 = t45) ∧
 St PP 3 t52 t50 w53 fun w56 =>
 Bi .neq t51 (.int .i64 0) fun t57 =>
 Cnd t57 (
 LnL t21 fun t58 =>
 ∃ (I59 : List Value → World → Prop) (m60 : List Value → World → Nat), I59 [(.int .i64 0)] w56 ∧ ∀ t63, ∀ (u61 : Env) (w62 : World), I59 [t63] w62 →
 Bi .lss t63 t58 fun t64 =>
 Cnd t64 (
 IxA 2 t21 t63 fun t65 =>
 LdA PP 2 t65 w62 fun t66 =>
 Al Ty.space_handle #[.nilIface, .int .i64 0] w62 fun t67 w68 =>
 St PP 2 t67 t66 w68 fun w69 =>
 Fa 0 t67 fun t70 =>
 Ld t70 w69 fun t71 =>
 Fa 1 t67 fun t72 =>
 Ld t72 w69 fun t73 =>
 Iv PP t71 "Close" #[t73] w69 fun t74 w75 =>
 Bi .add t63 (.int .i64 1) fun t76 =>
 I59 [t76] w75 ∧ m60 [t76] w75 < m60 [t63] w62) (
 R (.tuple #[(.int .i64 0), t51]) w62)) (
 Bd #[.nilIface, .int .i64 0] [(0, 1), (1, 1)] [(0, t39), (1, t49)] fun t77 =>
 Ef PP (Instr.buildSlice Ty.sl_space_handle 1 #[(0, t77)]) w56 fun t78 w79 =>
 Ef PP (Builtin.append_ #[Ty.sl_space_handle, Ty.sl_space_handle] Ty.sl_space_handle #[t21, t78]) w79 fun t80 w81 =>
 Bi .add t22 (.int .i64 1) fun t82 =>
 I17 [t80, t82] w81 ∧ m18 [t80, t82] w81 < m18 [t21, t22] w20)) ∧ (Al Ty.api_Qid #[.int .i64 0, .int .i64 0, .int .i64 0] w40 fun t83 w84 =>
 (Ld t42 w84 fun t85 =>
 t85 = t43) ∧
 (Ld t44 w84 fun t86 =>
 t86 = t45) ∧
 Iv PP t39 "Open" #[t43, t45, a2] w84 fun t87 w88 =>
 Ex t87 0 fun t89 =>
 Ex t87 1 fun t90 =>
 Ex t87 2 fun t91 =>
 St PP 3 t83 t90 w88 fun w92 =>
 Bi .neq t91 (.int .i64 0) fun t93 =>
 Cnd t93 (
 LnL t21 fun t94 =>
 ∃ (I95 : List Value → World → Prop) (m96 : List Value → World → Nat), I95 [(.int .i64 0)] w92 ∧ ∀ t99, ∀ (u97 : Env) (w98 : World), I95 [t99] w98 →
 Bi .lss t99 t94 fun t100 =>
 Cnd t100 (
 IxA 2 t21 t99 fun t101 =>
 LdA PP 2 t101 w98 fun t102 =>
 Al Ty.space_handle #[.nilIface, .int .i64 0] w98 fun t103 w104 =>
 St PP 2 t103 t102 w104 fun w105 =>
 Fa 0 t103 fun t106 =>
 Ld t106 w105 fun t107 =>
 Fa 1 t103 fun t108 =>
 Ld t108 w105 fun t109 =>
 Iv PP t107 "Close" #[t109] w105 fun t110 w111 =>
 Bi .add t99 (.int .i64 1) fun t112 =>
 I95 [t112] w111 ∧ m96 [t112] w111 < m96 [t99] w98) (
 R (.tuple #[(.int .i64 0), t91]) w98)) (
 Bd #[.nilIface, .int .i64 0] [(0, 1), (1, 1)] [(0, t39), (1, t89)] fun t113 =>
 Ef PP (Instr.buildSlice Ty.sl_space_handle 1 #[(0, t113)]) w92 fun t114 w115 =>
 Ef PP (Builtin.append_ #[Ty.sl_space_handle, Ty.sl_space_handle] Ty.sl_space_handle #[t21, t114]) w115 fun t116 w117 =>
 Bi .add t22 (.int .i64 1) fun t118 =>
 I17 [t116, t118] w117 ∧ m18 [t116, t118] w117 < m18 [t21, t22] w20)) ∧ True) (
 Ca PP Fn.space_Space_add #[a0, t21] w20 fun t119 w120 =>
 R (.tuple #[t119, (.int .i64 0)]) w120)) → J12 [t15] w14) →
 Bi .neq t11 (.int .i64 0) fun t121 =>
 Cnd t121 (
 R (.tuple #[(.int .i64 0), t11]) w9) (
 Nc a0 fun t122 =>
 Fa 3 t122 fun t123 =>
 Ld t123 w9 fun t124 =>
 Rd PP (Builtin.len_ #[Ty.map_int_sl_space_handle] Ty.int #[t124]) w9 fun t125 =>
 Bi .geq t125 (.int .i64 64) fun t126 =>
 Cnd t126 (
 R (.tuple #[(.int .i64 0), (.int .i64 3)]) w9) (
 Un .not t10 fun t127 =>
 Cnd t127 (
 Sl 2 t3 none (some (.int .i64 1)) fun t128 =>
 J12 [t128] w9) (
 J12 [t3] w9))))
def S.space_Space_Open.an : Ann := (.seq .leaf (.seq .leaf (.seq (.seq .leaf (.cond (.seq .leaf .leaf) .leaf)) (.seq .leaf (.join (.block (.seq .leaf (.cond (.seq .leaf .leaf) (.seq .leaf (.cond (.seq .leaf .leaf) (.seq .leaf (.cond .leaf .leaf))))))) [8] [6,7,37,38,39,40,41,42,43,44,45,46,47,48,49,50,51,52] (.seq .leaf (.seq (.seq .leaf (.block (.loop (.seq .leaf (.seq (.cond .leaf .leaf) (.seq (.block (.seq .leaf (.seq (.draw [[],[0],[0,1],[0,1,2],[0,1,2,3],[0,1,2,3,4],[0,1,2,3,4,5],[],[7],[0,1,2,3,4,5,6,7,8],[0,1,2,3,4,5,6,7,8,9],[0,1,2,3,4,5,6,7,8,9,10]] (.calm 0 (.calm 1 (.calm 2 (.calm 3 (.calm 4 (.calm 5 (.calm 6 (.calm 7 (.calm 8 (.calm 9 (.calm 10 (.calm 11 .done))))))))))))) (.seq (.draw [[],[],[1],[1,2],[1,2,3],[],[5],[],[0],[0,8],[0,8,9],[0,1,2,3,4,5,6,7,8,9,10],[0,1,2,3,4,5,6,7,8,9,10,11],[0,1,2,3,4,5,6,7,8,9,10,11,12],[0,1,2,3,4,5,6,7,8,9,10,11,12],[0,1,2,3,4,5,6,7,8,9,10,11,12],[],[0,1,2,3,4,5,6,7,8,9,10,11,12,13,16],[0,1,2,3,4,5,6,7,8,9,10,11,12,13,14,16,17],[0,1,2,3,4,5,6,7,8,9,10,11,12,13,14,15,16,17,18]] (.calm 0 (.calm 1 (.calm 2 (.calm 3 (.calm 4 (.calm 5 (.calm 6 (.calm 7 (.calm 8 (.calm 9 (.calm 10 (.effs 11 [] (.calm 12 (.calm 13 (.calm 14 (.calm 15 (.eff1 16 [4,6] (.calm 17 (.eff1 18 [] (.calm 19 .done)))))))) (.effs 16 [4,6] (.eff1 11 [] (.calm 12 (.calm 13 (.calm 14 (.calm 15 (.calm 17 (.eff1 18 [] (.calm 19 .done)))))))) .none)))))))))))))) (.seq (.seq .leaf (.cond (.seq (.seq .leaf (.block (.loop (.seq .leaf (.seq (.cond .leaf .leaf) (.seq (.block (.seq .leaf .leaf)) .leaf))) [90] [19,91,92,93,94,95,96,97,98,99]))) (.seq .leaf .leaf)) .leaf)) .leaf))))) .leaf))) [11,55] [6,7,13,14,15,16,17,19,56,57,58,59,60,61,62,63,64,65,66,67,68,69,70,71,72,73,74,75,76,77,78,79,80,81,82,83,84,85,86,87,88,89,90,91,92,93,94,95,96,97,98,99,100,101,102,103,104,105,106,107]))) (.seq .leaf .leaf))))))))
theorem S.space_Space_Open.eq (a0 a1 a2 : Value) (w : World) (R : Value → World → Prop) : S.space_Space_Open a0 a1 a2 w R = fnC PP 111 (Tryz.f16.body.getD .skip) S.space_Space_Open.an [.tmp 6, .tmp 7] [a0, a1, a2] w R := by kernel_rfl
theorem S.space_Space_Open.calls {a0 a1 a2 : Value} {w : World} {R : Value → World → Prop} (h : S.space_Space_Open a0 a1 a2 w R) : Ca PP Fn.space_Space_Open #[a0, a1, a2] w R :=
  fnC_calls mixed (f := Fn.space_Space_Open) (an := S.space_Space_Open.an) Tryz.func16 rfl (by show _ ≤ _; exact Nat.le_of_ble_eq_true rfl) (S.space_Space_Open.eq a0 a1 a2 w R ▸ h)
/-- (*acheron/space.Space).List -/
def S.space_Space_List (a0 a1 : Value) (w : World) (R : Value → World → Prop) : Prop :=
 Ca PP Fn.space_Space_opened #[a0, a1] w fun t1 w2 =>
 Ex t1 0 fun t3 =>
 Ex t1 1 fun t4 =>
 Bi .neq t4 (.int .i64 0) fun t5 =>
 Cnd t5 (
 R (.tuple #[(.slice none 0 0), t4]) w2) (
 MkM w2 fun t6 w7 =>
 LnL t3 fun t8 =>
 ∃ (I9 : List Value → World → Prop) (m10 : List Value → World → Nat), I9 [(.slice none 0 0), (.int .i64 0)] w7 ∧ ∀ t13 t14, ∀ (u11 : Env) (w12 : World), I9 [t13, t14] w12 →
 Bi .lss t14 t8 fun t15 =>
 Cnd t15 (
 IxA 2 t3 t14 fun t16 =>
 LdA PP 2 t16 w12 fun t17 =>
 Al Ty.space_handle #[.nilIface, .int .i64 0] w12 fun t18 w19 =>
 St PP 2 t18 t17 w19 fun w20 =>
 Fa 0 t18 fun t21 =>
 Ld t21 w20 fun t22 =>
 Fa 1 t18 fun t23 =>
 Ld t23 w20 fun t24 =>
 Iv PP t22 "List" #[t24] w20 fun t25 w26 =>
 Ex t25 0 fun t27 =>
 Ex t25 1 fun t28 =>
 Bi .neq t28 (.int .i64 0) fun t29 =>
 Cnd t29 (
 R (.tuple #[(.slice none 0 0), t28]) w26) (
 LnL t27 fun t30 =>
 ∃ (I31 : List Value → World → Prop) (m32 : List Value → World → Nat), I31 [t13, (.int .i64 0)] w26 ∧ ∀ t35 t36, ∀ (u33 : Env) (w34 : World), I31 [t35, t36] w34 →
 Bi .lss t36 t30 fun t37 =>
 Cnd t37 (
 ∀ J38 : List Value → World → Prop, (∀ t41, ∀ w40 : World, (∀ u39 : Env,
 Bi .add t36 (.int .i64 1) fun t42 =>
 I31 [t41, t42] w40 ∧ m32 [t41, t42] w40 < m32 [t35, t36] w34) → J38 [t41] w40) →
 IxA 10 t27 t36 fun t43 =>
 LdA PP 10 t43 w34 fun t44 =>
 Al Ty.api_Dir #[.int .i64 0, .int .i64 0, .int .i64 0, .int .i64 0, .int .i64 0, .int .i64 0, .string ⟨#[]⟩, .string ⟨#[]⟩, .string ⟨#[]⟩, .string ⟨#[]⟩] w34 fun t45 w46 =>
 St PP 10 t45 t44 w46 fun w47 =>
 Fa 6 t45 fun t48 =>
 Ld t48 w47 fun t49 =>
 Rd PP (Instr.lookup Ty.map_string_bool t6 t49 false) w47 fun t50 =>
 Un .not t50 fun t51 =>
 Cnd t51 (
 Fa 6 t45 fun t52 =>
 Ld t52 w47 fun t53 =>
 Ef PP (Instr.mapUpdate Ty.map_string_bool t6 t53 (.bool true)) w47 fun _ w54 =>
 LdA PP 10 t45 w54 fun t55 =>
 Ef PP (Instr.buildSlice Ty.sl_api_Dir 1 #[(0, t55)]) w54 fun t56 w57 =>
 Ef PP (Builtin.append_ #[Ty.sl_api_Dir, Ty.sl_api_Dir] Ty.sl_api_Dir #[t35, t56]) w57 fun t58 w59 =>
 J38 [t58] w59) (
 J38 [t35] w47)) (
 Bi .add t14 (.int .i64 1) fun t60 =>
 I9 [t35, t60] w34 ∧ m10 [t35, t60] w34 < m10 [t13, t14] w12))) (
 R (.tuple #[t13, (.int .i64 0)]) w12))
def S.space_Space_List.an : Ann := (.seq .leaf (.seq .leaf (.seq (.seq .leaf (.cond (.seq .leaf .leaf) .leaf)) (.seq .leaf (.seq .leaf (.seq (.seq .leaf (.block (.loop (.seq .leaf (.seq (.cond .leaf .leaf) (.seq (.block (.seq .leaf (.seq .leaf (.seq (.seq .leaf (.cond (.seq .leaf .leaf) .leaf)) (.seq .leaf (.block (.loop (.seq .leaf (.seq (.cond .leaf .leaf) (.join (.block (.seq .leaf (.seq .leaf (.cond (.seq .leaf .leaf) .leaf)))) [8] [15,47,48,49,50,51,52,53,54,55,56,57,58,59,60] .leaf))) [8,45] [15,46,47,48,49,50,51,52,53,54,55,56,57,58,59,60,61]))))))) .leaf))) [8,28] [4,5,11,12,13,15,29,30,31,32,33,34,35,36,37,38,39,40,41,42,43,44,45,46,47,48,49,50,51,52,53,54,55,56,57,58,59,60,61,62]))) (.seq .leaf .leaf)))))))
theorem S.space_Space_List.eq (a0 a1 : Value) (w : World) (R : Value → World → Prop) : S.space_Space_List a0 a1 w R = fnC PP 64 (Tryz.f17.body.getD .skip) S.space_Space_List.an [.tmp 4, .tmp 5] [a0, a1] w R := by kernel_rfl
theorem S.space_Space_List.calls {a0 a1 : Value} {w : World} {R : Value → World → Prop} (h : S.space_Space_List a0 a1 w R) : Ca PP Fn.space_Space_List #[a0, a1] w R :=
  fnC_calls mixed (f := Fn.space_Space_List) (an := S.space_Space_List.an) Tryz.func17 rfl (by show _ ≤ _; exact Nat.le_of_ble_eq_true rfl) (S.space_Space_List.eq a0 a1 w R ▸ h)
/-- (*acheron/tree.Tree).Open -/
def S.tree_Tree_Open (a0 a1 a2 a3 : Value) (w : World) (R : Value → World → Prop) : Prop :=
 Al Ty.api_Qid #[.int .i64 0, .int .i64 0, .int .i64 0] w fun t1 w2 =>
 Rd PP (eqS .eql Ty.p_tree_Tree (.tmp 16) (.const (.pointer none)) a0 (.pointer none)) w2 fun t3 =>
 Cnd t3 (
 Bd #[.int .i64 0, .int .i64 0, .int .i64 0] [(0, 1), (1, 1), (2, 1)] [] fun t4 =>
 St PP 3 t1 t4 w2 fun w5 =>
 LdA PP 3 t1 w5 fun t6 =>
 R (.tuple #[(.int .i64 0), t6, (.int .i64 6)]) w5) (
 Bi .andNot a3 (.int .i64 83) fun t7 =>
 Bi .neq t7 (.int .i64 0) fun t8 =>
 Cnd t8 (
 Bd #[.int .i64 0, .int .i64 0, .int .i64 0] [(0, 1), (1, 1), (2, 1)] [] fun t9 =>
 St PP 3 t1 t9 w2 fun w10 =>
 LdA PP 3 t1 w10 fun t11 =>
 R (.tuple #[(.int .i64 0), t11, (.int .i64 20)]) w10) (
 Ca PP Fn.tree_Tree_find #[a0, a2] w2 fun t12 w13 =>
 Ex t12 0 fun t14 =>
 Ex t12 1 fun t15 =>
 Bi .neq t15 (.int .i64 0) fun t16 =>
 Cnd t16 (
 Bd #[.int .i64 0, .int .i64 0, .int .i64 0] [(0, 1), (1, 1), (2, 1)] [] fun t17 =>
 St PP 3 t1 t17 w13 fun w18 =>
 LdA PP 3 t1 w18 fun t19 =>
 R (.tuple #[(.int .i64 0), t19, t15]) w18) (
 ∀ J20 : List Value → World → Prop, (∀ t23, ∀ w22 : World, (∀ u21 : Env,
 Cnd t23 (
 Bd #[.int .i64 0, .int .i64 0, .int .i64 0] [(0, 1), (1, 1), (2, 1)] [] fun t24 =>
 St PP 3 t1 t24 w22 fun w25 =>
 LdA PP 3 t1 w25 fun t26 =>
 R (.tuple #[(.int .i64 0), t26, (.int .i64 18)]) w25) (
 BdA #[.int .i64 0, .int .i64 0, .int .i64 0, .int .i64 0] 1 [(0, (.int .i64 4)), (1, (.int .i64 2)), (2, (.int .i64 6)), (3, (.int .i64 1))] fun t27 =>
 Bi .and a3 (.int .i64 3) fun t28 =>
 Rd PP (Instr.index Ty.f_4_int t27 t28) w22 fun t29 =>
 ∀ J30 : List Value → World → Prop, (∀ t33, ∀ w32 : World, (∀ u31 : Env,
 ∀ J34 : List Value → World → Prop, (∀ t37, ∀ w36 : World, (∀ u35 : Env,
 Cnd t37 (
 Bd #[.int .i64 0, .int .i64 0, .int .i64 0] [(0, 1), (1, 1), (2, 1)] [] fun t38 =>
 St PP 3 t1 t38 w36 fun w39 =>
 LdA PP 3 t1 w39 fun t40 =>
 R (.tuple #[(.int .i64 0), t40, (.int .i64 17)]) w39) (
 Nc a0 fun t41 =>
 Fa 5 t41 fun t42 =>
 Ld t42 w36 fun t43 =>
 Ef PP (Instr.range Ty.map_int_tree_handle t43) w36 fun t44 w45 =>
 ∃ (I46 : List Value → World → Prop) (m47 : List Value → World → Nat), I46 [] w45 ∧ ∀ (u48 : Env) (w49 : World), I46 [] w49 →
 Ef PP (Instr.next t44 false Ty.t) w49 fun t50 w51 =>
 Ex t50 0 fun t52 =>
 Cnd t52 (
 Rd PP (Instr.entry t44) w51 fun t53 =>
 Ex t53 1 fun t54 =>
 Al Ty.tree_handle #[.pointer none, .int .i64 0, .string ⟨#[]⟩] w51 fun t55 w56 =>
 St PP 3 t55 t54 w56 fun w57 =>
 ∀ J58 : List Value → World → Prop, (∀ t61, ∀ w60 : World, (∀ u59 : Env,
 Cnd t61 (
 Bd #[.int .i64 0, .int .i64 0, .int .i64 0] [(0, 1), (1, 1), (2, 1)] [] fun t62 =>
 St PP 3 t1 t62 w60 fun w63 =>
 LdA PP 3 t1 w63 fun t64 =>
 R (.tuple #[(.int .i64 0), t64, (.int .i64 19)]) w63) (
 I46 [] w60 ∧ m47 [] w60 < m47 [] w49)) → J58 [t61] w60) →
 Fa 0 t55 fun t65 =>
 Ld t65 w57 fun t66 =>
 Rd PP (eqS .eql Ty.p_tree_node (.tmp 81) (.tmp 82) t66 t14) w57 fun t67 =>
 Gd t67 true (fun k68 => k68 t14 w57) w57 fun t69 w70 =>
 Gd t67 true (fun k71 => Nc t69 fun t74 =>
 k71 t74 w70) w70 fun t72 w73 =>
 Gd t67 true (fun k75 => Fa 0 t72 fun t78 =>
 k75 t78 w73) w73 fun t76 w77 =>
 Gd t67 true (fun k79 => Fa 3 t76 fun t82 =>
 k79 t82 w77) w77 fun t80 w81 =>
 Gd t67 true (fun k83 => Ld t80 w81 fun t86 =>
 k83 t86 w81) w81 fun t84 w85 =>
 Gd t67 true (fun k87 => Bi .and t84 (.int .i64 536870912) fun t90 =>
 k87 t90 w85) w85 fun t88 w89 =>
 Gd t67 true (fun k91 => Bi .neq t88 (.int .i64 0) fun t94 =>
 k91 t94 w89) w89 fun t92 w93 =>
 Pk t67 t92 (.bool false) fun t95 =>
 J58 [t95] w93) (
 Ca PP Fn.tree_Tree_room #[a0] w51 fun t96 w97 =>
 Un .not t96 fun t98 =>
 Cnd t98 (
 Bd #[.int .i64 0, .int .i64 0, .int .i64 0] [(0, 1), (1, 1), (2, 1)] [] fun t99 =>
 St PP 3 t1 t99 w97 fun w100 =>
 LdA PP 3 t1 w100 fun t101 =>
 R (.tuple #[(.int .i64 0), t101, (.int .i64 3)]) w100) (
 ∀ J102 : List Value → World → Prop, (∀ w104 : World, (∀ u103 : Env,
 Ca PP Fn.tree_Tree_handle #[a0, t14, a3, a1] w104 fun t105 w106 =>
 Ex t105 0 fun t107 =>
 Ex t105 1 fun t108 =>
 Ex t105 2 fun t109 =>
 St PP 3 t1 t108 w106 fun w110 =>
 LdA PP 3 t1 w110 fun t111 =>
 R (.tuple #[t107, t111, t109]) w110) → J102 [] w104) →
 ∀ J112 : List Value → World → Prop, (∀ t115, ∀ w114 : World, (∀ u113 : Env,
 Cnd t115 (
 Nc t14 fun t116 =>
 Fa 10 t116 fun t117 =>
 St PP 1 t117 (.slice none 0 0) w114 fun w118 =>
 Ef PP (Instr.buildSlice Ty.sl_p_tree_node 1 #[(0, t14)]) w118 fun t119 w120 =>
 Ca PP Fn.tree_Tree_change #[a0, a1, t119] w120 fun t121 w122 =>
 J102 [] w122) (
 J102 [] w114)) → J112 [t115] w114) →
 Bi .and a3 (.int .i64 16) fun t123 =>
 Bi .neq t123 (.int .i64 0) fun t124 =>
 Gd t124 true (fun k125 => k125 t14 w97) w97 fun t126 w127 =>
 Gd t124 true (fun k128 => Nc t126 fun t131 =>
 k128 t131 w127) w127 fun t129 w130 =>
 Gd t124 true (fun k132 => Fa 0 t129 fun t135 =>
 k132 t135 w130) w130 fun t133 w134 =>
 Gd t124 true (fun k136 => Fa 3 t133 fun t139 =>
 k136 t139 w134) w134 fun t137 w138 =>
 Gd t124 true (fun k140 => Ld t137 w138 fun t143 =>
 k140 t143 w138) w138 fun t141 w142 =>
 Gd t124 true (fun k144 => Bi .and t141 (.int .i64 1073741824) fun t147 =>
 k144 t147 w142) w142 fun t145 w146 =>
 Gd t124 true (fun k148 => Bi .eql t145 (.int .i64 0) fun t151 =>
 k148 t151 w146) w146 fun t149 w150 =>
 Pk t124 t149 (.bool false) fun t152 =>
 J112 [t152] w150)))) → J34 [t37] w36) →
 Ca PP Fn.tree_Tree_may #[a0, a1, t14, t33] w32 fun t153 w154 =>
 Un .not t153 fun t155 =>
 Gd t155 false (fun k156 => k156 a3 w154) w154 fun t157 w158 =>
 Gd t155 false (fun k159 => Bi .and t157 (.int .i64 64) fun t162 =>
 k159 t162 w158) w158 fun t160 w161 =>
 Gd t155 false (fun k163 => Bi .neq t160 (.int .i64 0) fun t166 =>
 k163 t166 w161) w161 fun t164 w165 =>
 Gd t155 false (fun k167 => k167 t164 w165) w165 fun t168 w169 =>
 Gd t168 true (fun k170 => k170 a0 w169) w169 fun t171 w172 =>
 Gd t168 true (fun k173 => k173 a1 w172) w172 fun t174 w175 =>
 Gd t168 true (fun k176 => k176 t14 w175) w175 fun t177 w178 =>
 Gd t168 true (fun k179 => Nc t177 fun t182 =>
 k179 t182 w178) w178 fun t180 w181 =>
 Gd t168 true (fun k183 => Fa 12 t180 fun t186 =>
 k183 t186 w181) w181 fun t184 w185 =>
 Gd t168 true (fun k187 => Ld t184 w185 fun t190 =>
 k187 t190 w185) w185 fun t188 w189 =>
 Gd t168 true (fun k191 => Ca PP Fn.tree_Tree_may #[t171, t174, t188, (.int .i64 2)] w189 fun t194 w195 =>
 k191 t194 w195) w189 fun t192 w193 =>
 Gd t168 true (fun k196 => Un .not t192 fun t199 =>
 k196 t199 w193) w193 fun t197 w198 =>
 Gd t155 false (fun k200 => Pk t168 t197 (.bool false) fun t203 =>
 k200 t203 w198) w198 fun t201 w202 =>
 Pk t155 (.bool true) t201 fun t204 =>
 J34 [t204] w202) → J30 [t33] w32) →
 Bi .and a3 (.int .i64 16) fun t205 =>
 Bi .neq t205 (.int .i64 0) fun t206 =>
 Cnd t206 (
 Bi .or t29 (.int .i64 2) fun t207 =>
 J30 [t207] w22) (
 J30 [t29] w22))) → J20 [t23] w22) →
 Ca PP Fn.tree_node_isDir #[t14] w13 fun t208 w209 =>
 Gd t208 true (fun k210 => k210 a3 w209) w209 fun t211 w212 =>
 Gd t208 true (fun k213 => Bi .neq t211 (.int .i64 0) fun t216 =>
 k213 t216 w212) w212 fun t214 w215 =>
 Pk t208 t214 (.bool false) fun t217 =>
 J20 [t217] w215)))
def S.tree_Tree_Open.an : Ann := (.seq .leaf (.seq (.seq .leaf (.cond (.seq .leaf .leaf) .leaf)) (.seq (.seq .leaf (.cond (.seq .leaf .leaf) .leaf)) (.seq .leaf (.seq (.seq .leaf (.cond (.seq .leaf .leaf) .leaf)) (.seq (.join .leaf [38] [33,34,35,36,37] (.cond (.seq .leaf .leaf) .leaf)) (.seq .leaf (.join (.seq .leaf (.cond .leaf .leaf)) [13] [44,45,46,47,48] (.seq (.join .leaf [69] [49,50,51,52,53,54,55,56,57,58,59,60,61,62,63,64,65,66,67,68] (.cond (.seq .leaf .leaf) .leaf)) (.seq (.seq .leaf (.block (.loop (.seq .leaf (.seq (.cond .leaf .leaf) (.block (.seq .leaf (.join .leaf [92] [80,81,82,83,84,85,86,87,88,89,90,91] (.cond (.seq .leaf .leaf) .leaf)))))) [] [8,10,15,76,77,78,79,80,81,82,83,84,85,86,87,88,89,90,91,92,93]))) (.seq (.seq .leaf (.cond (.seq .leaf .leaf) .leaf)) (.join (.join .leaf [109] [98,99,100,101,102,103,104,105,106,107,108] (.cond (.seq .leaf .leaf) .leaf)) [] [98,99,100,101,102,103,104,105,106,107,108,109,110,111,112,113,114,115,116,117] (.seq .leaf .leaf)))))))))))))
theorem S.tree_Tree_Open.eq (a0 a1 a2 a3 : Value) (w : World) (R : Value → World → Prop) : S.tree_Tree_Open a0 a1 a2 a3 w R = fnC PP 126 (Tryz.f18.body.getD .skip) S.tree_Tree_Open.an [.tmp 8, .cell 9 37, .tmp 10] [a0, a1, a2, a3] w R := by kernel_rfl
theorem S.tree_Tree_Open.calls {a0 a1 a2 a3 : Value} {w : World} {R : Value → World → Prop} (h : S.tree_Tree_Open a0 a1 a2 a3 w R) : Ca PP Fn.tree_Tree_Open #[a0, a1, a2, a3] w R :=
  fnC_calls mixed (f := Fn.tree_Tree_Open) (an := S.tree_Tree_Open.an) Tryz.func18 rfl (by show _ ≤ _; exact Nat.le_of_ble_eq_true rfl) (S.tree_Tree_Open.eq a0 a1 a2 a3 w R ▸ h)
/-- (*acheron/tree.Tree).List -/
def S.tree_Tree_List (a0 a1 : Value) (w : World) (R : Value → World → Prop) : Prop :=
 Ca PP Fn.tree_Tree_opened #[a0, a1] w fun t1 w2 =>
 Ex t1 0 fun t3 =>
 Ex t1 1 fun t4 =>
 Al Ty.tree_handle #[.pointer none, .int .i64 0, .string ⟨#[]⟩] w2 fun t5 w6 =>
 St PP 3 t5 t3 w6 fun w7 =>
 Bi .neq t4 (.int .i64 0) fun t8 =>
 Cnd t8 (
 R (.tuple #[(.slice none 0 0), t4]) w7) (
 Fa 0 t5 fun t9 =>
 Ld t9 w7 fun t10 =>
 Nc t10 fun t11 =>
 Fa 13 t11 fun t12 =>
 Ld t12 w7 fun t13 =>
 Cnd t13 (
 R (.tuple #[(.slice none 0 0), (.int .i64 4)]) w7) (
 Fa 0 t5 fun t14 =>
 Ld t14 w7 fun t15 =>
 Ca PP Fn.tree_node_isDir #[t15] w7 fun t16 w17 =>
 Un .not t16 fun t18 =>
 Cnd t18 (
 R (.tuple #[(.slice none 0 0), (.int .i64 18)]) w17) (
 Al Ty.sl_api_Dir #[.slice none 0 0] w17 fun t19 w20 =>
 Fa 0 t5 fun t21 =>
 Ld t21 w20 fun t22 =>
 Ca PP Fn.tree_node_sorted #[t22] w20 fun t23 w24 =>
 RFo PP t23 w24 (RB.one fun r_25 L_26 t27 w28 Rn_29 Re_30 Rr_31 =>
 Bgn r_25 L_26 w28 fun w32 =>
 Dr w32 fun w33 =>
 Ld t19 w33 fun t34 =>
 Ca PP Fn.tree_node_stat #[t27] w33 fun t35 w36 =>
 (Ld t19 w36 fun t37 =>
 t37 = t34) ∧
 Ef PP (Instr.buildSlice Ty.sl_api_Dir 1 #[(0, t35)]) w36 fun t38 w39 =>
 (Ld t19 w39 fun t40 =>
 t40 = t34) ∧
 Ef PP (Builtin.append_ #[Ty.sl_api_Dir, Ty.sl_api_Dir] Ty.sl_api_Dir #[t34, t38]) w39 fun t41 w42 =>
 St PP 1 t19 t41 w42 fun w43 =>
 Rn_29 w43) (fun D_44 w45 =>
 Ld t19 w45 fun t46 =>
 Lvs PP (.mark D_44 :: []) w45 fun w47 =>
 R (.tuple #[t46, (.int .i64 0)]) w47) [] (fun D_48 w49 =>
 Lvs PP (.mark D_48 :: []) w49 fun w50 =>
 R (.tuple #[(.slice none 0 0), (.int .i64 0)]) w50))))
def S.tree_Tree_List.an : Ann := (.seq .leaf (.seq .leaf (.seq (.block (.seq .leaf (.cond (.seq .leaf .leaf) (.seq .leaf (.cond (.seq .leaf .leaf) (.seq .leaf (.cond (.seq .leaf .leaf) .leaf))))))) (.seq .leaf (.seq (.seq .leaf (.block (.rf .leaf (.block (.draw [[],[],[1],[1,2],[0,1,2,3],[0,1,2,3,4]] (.calm 0 (.calm 1 (.eff1 2 [0] (.eff1 3 [0] (.eff1 4 [] (.eff1 5 [] .done)))))))) []))) (.seq .leaf .leaf))))))
theorem S.tree_Tree_List.eq (a0 a1 : Value) (w : World) (R : Value → World → Prop) : S.tree_Tree_List a0 a1 w R = fnC PP 41 (Tryz.f19.body.getD .skip) S.tree_Tree_List.an [.tmp 4, .tmp 5] [a0, a1] w R := by kernel_rfl
theorem S.tree_Tree_List.calls {a0 a1 : Value} {w : World} {R : Value → World → Prop} (h : S.tree_Tree_List a0 a1 w R) : Ca PP Fn.tree_Tree_List #[a0, a1] w R :=
  fnC_calls mixed (f := Fn.tree_Tree_List) (an := S.tree_Tree_List.an) Tryz.func19 rfl (by show _ ≤ _; exact Nat.le_of_ble_eq_true rfl) (S.tree_Tree_List.eq a0 a1 w R ▸ h)
/-- (*acheron/tree.Tree).Walk -/
def S.tree_Tree_Walk (a0 a1 a2 a3 : Value) (w : World) (R : Value → World → Prop) : Prop :=
 Al Ty.api_Qid #[.int .i64 0, .int .i64 0, .int .i64 0] w fun t1 w2 =>
 Ca PP Fn.tree_Tree_folder #[a0, a2] w2 fun t3 w4 =>
 Ex t3 0 fun t5 =>
 Ex t3 1 fun t6 =>
 Bi .neq t6 (.int .i64 0) fun t7 =>
 Cnd t7 (
 Bd #[.int .i64 0, .int .i64 0, .int .i64 0] [(0, 1), (1, 1), (2, 1)] [] fun t8 =>
 St PP 3 t1 t8 w4 fun w9 =>
 LdA PP 3 t1 w9 fun t10 =>
 R (.tuple #[t10, t6]) w9) (
 Ca PP Fn.tree_Tree_may #[a0, a1, t5, (.int .i64 1)] w4 fun t11 w12 =>
 Un .not t11 fun t13 =>
 Cnd t13 (
 Bd #[.int .i64 0, .int .i64 0, .int .i64 0] [(0, 1), (1, 1), (2, 1)] [] fun t14 =>
 St PP 3 t1 t14 w12 fun w15 =>
 LdA PP 3 t1 w15 fun t16 =>
 R (.tuple #[t16, (.int .i64 17)]) w15) (
 Bi .eql a3 (.string ⟨#[46]⟩) fun t17 =>
 Cnd t17 (
 Nc t5 fun t18 =>
 Fa 0 t18 fun t19 =>
 Fa 0 t19 fun t20 =>
 LdA PP 3 t20 w12 fun t21 =>
 St PP 3 t1 t21 w12 fun w22 =>
 LdA PP 3 t1 w22 fun t23 =>
 R (.tuple #[t23, (.int .i64 0)]) w22) (
 Bi .eql a3 (.string ⟨#[46, 46]⟩) fun t24 =>
 Cnd t24 (
 ∀ J25 : List Value → World → Prop, (∀ t28, ∀ w27 : World, (∀ u26 : Env,
 Nc t28 fun t29 =>
 Fa 0 t29 fun t30 =>
 Fa 0 t30 fun t31 =>
 LdA PP 3 t31 w27 fun t32 =>
 St PP 3 t1 t32 w27 fun w33 =>
 LdA PP 3 t1 w33 fun t34 =>
 R (.tuple #[t34, (.int .i64 0)]) w33) → J25 [t28] w27) →
 Nc t5 fun t35 =>
 Fa 12 t35 fun t36 =>
 Ld t36 w12 fun t37 =>
 Rd PP (eqS .neq Ty.p_tree_node (.tmp 46) (.const (.pointer none)) t37 (.pointer none)) w12 fun t38 =>
 Cnd t38 (
 Nc t5 fun t39 =>
 Fa 12 t39 fun t40 =>
 Ld t40 w12 fun t41 =>
 J25 [t41] w12) (
 J25 [t5] w12)) (
 Ca PP Fn.tree_Valid #[a3] w12 fun t42 w43 =>
 Un .not t42 fun t44 =>
 Cnd t44 (
 Bd #[.int .i64 0, .int .i64 0, .int .i64 0] [(0, 1), (1, 1), (2, 1)] [] fun t45 =>
 St PP 3 t1 t45 w43 fun w46 =>
 LdA PP 3 t1 w46 fun t47 =>
 R (.tuple #[t47, (.int .i64 8)]) w46) (
 Nc t5 fun t48 =>
 Fa 11 t48 fun t49 =>
 Ld t49 w43 fun t50 =>
 Rd PP (Instr.lookup Ty.map_string_p_tree_node t50 a3 true) w43 fun t51 =>
 Ex t51 0 fun t52 =>
 Ex t51 1 fun t53 =>
 Cnd t53 (
 Nc t52 fun t54 =>
 Fa 0 t54 fun t55 =>
 Fa 0 t55 fun t56 =>
 LdA PP 3 t56 w43 fun t57 =>
 St PP 3 t1 t57 w43 fun w58 =>
 LdA PP 3 t1 w58 fun t59 =>
 R (.tuple #[t59, (.int .i64 0)]) w58) (
 Bd #[.int .i64 0, .int .i64 0, .int .i64 0] [(0, 1), (1, 1), (2, 1)] [] fun t60 =>
 St PP 3 t1 t60 w43 fun w61 =>
 LdA PP 3 t1 w61 fun t62 =>
 R (.tuple #[t62, (.int .i64 4)]) w61))))))
def S.tree_Tree_Walk.an : Ann := (.seq .leaf (.seq .leaf (.seq (.block (.seq .leaf (.cond (.seq .leaf .leaf) (.seq .leaf (.cond (.seq .leaf .leaf) (.seq .leaf (.cond (.seq .leaf .leaf) (.seq .leaf (.cond (.join (.seq .leaf (.cond .leaf .leaf)) [10] [43,44,45,46,47,48,49,50,51] (.seq .leaf .leaf)) (.seq .leaf (.cond (.seq .leaf .leaf) .leaf))))))))))) (.seq (.seq .leaf (.seq .leaf (.cond (.seq .leaf .leaf) .leaf))) (.seq .leaf .leaf)))))
theorem S.tree_Tree_Walk.eq (a0 a1 a2 a3 : Value) (w : World) (R : Value → World → Prop) : S.tree_Tree_Walk a0 a1 a2 a3 w R = fnC PP 78 (Tryz.f22.body.getD .skip) S.tree_Tree_Walk.an [.cell 8 37, .tmp 9] [a0, a1, a2, a3] w R := by kernel_rfl
theorem S.tree_Tree_Walk.calls {a0 a1 a2 a3 : Value} {w : World} {R : Value → World → Prop} (h : S.tree_Tree_Walk a0 a1 a2 a3 w R) : Ca PP Fn.tree_Tree_Walk #[a0, a1, a2, a3] w R :=
  fnC_calls mixed (f := Fn.tree_Tree_Walk) (an := S.tree_Tree_Walk.an) Tryz.func22 rfl (by show _ ≤ _; exact Nat.le_of_ble_eq_true rfl) (S.tree_Tree_Walk.eq a0 a1 a2 a3 w R ▸ h)
/-- (*acheron/space.Space).Table -/
def S.space_Space_Table (a0 : Value) (w : World) (R : Value → World → Prop) : Prop :=
 Rd PP (eqS .eql Ty.p_space_Space (.tmp 3) (.const (.pointer none)) a0 (.pointer none)) w fun t1 =>
 Cnd t1 (
 R (.slice none 0 0) w) (
 Nc a0 fun t2 =>
 Fa 0 t2 fun t3 =>
 Ld t3 w fun t4 =>
 Ca PP Fn.space_table_copied #[t4] w fun t5 w6 =>
 R t5 w6)
def S.space_Space_Table.an : Ann := (.seq .leaf (.seq (.seq .leaf (.cond (.seq .leaf .leaf) .leaf)) (.seq .leaf .leaf)))
theorem S.space_Space_Table.eq (a0 : Value) (w : World) (R : Value → World → Prop) : S.space_Space_Table a0 w R = fnC PP 10 (Tryz.f24.body.getD .skip) S.space_Space_Table.an [.tmp 2] [a0] w R := by kernel_rfl
theorem S.space_Space_Table.calls {a0 : Value} {w : World} {R : Value → World → Prop} (h : S.space_Space_Table a0 w R) : Ca PP Fn.space_Space_Table #[a0] w R :=
  fnC_calls mixed (f := Fn.space_Space_Table) (an := S.space_Space_Table.an) Tryz.func24 rfl (by show _ ≤ _; exact Nat.le_of_ble_eq_true rfl) (S.space_Space_Table.eq a0 w R ▸ h)
/-- slices.Equal[[]acheron/space.Place,acheron/space.Place] -/
def S.slices_Equal_sl_space_Place_space_Place (a0 a1 : Value) (w : World) (R : Value → World → Prop) : Prop :=
 LnL a0 fun t1 =>
 LnL a1 fun t2 =>
 Bi .neq t1 t2 fun t3 =>
 Cnd t3 (
 R (.bool false) w) (
 LnL a0 fun t4 =>
 ∃ (I5 : List Value → World → Prop) (m6 : List Value → World → Nat), I5 [(.int .i64 0)] w ∧ ∀ t9, ∀ (u7 : Env) (w8 : World), I5 [t9] w8 →
 Bi .lss t9 t4 fun t10 =>
 Cnd t10 (
 Dr w8 fun w11 =>
 IxA 2 a0 t9 fun t12 =>
 LdA PP 2 t12 w11 fun t13 =>
 IxA 2 a1 t9 fun t14 =>
 LdA PP 2 t14 w11 fun t15 =>
 Rd PP (eqS .neq Ty.space_Place (.tmp 19) (.tmp 23) t13 t15) w11 fun t16 =>
 Cnd t16 (
 R (.bool false) w11) (
 Bi .add t9 (.int .i64 1) fun t17 =>
 I5 [t17] w11 ∧ m6 [t17] w11 < m6 [t9] w8)) (
 R (.bool true) w8))
def S.slices_Equal_sl_space_Place_space_Place.an : Ann := (.seq .leaf (.seq (.seq .leaf (.cond (.seq .leaf .leaf) .leaf)) (.seq (.seq .leaf (.block (.loop (.seq .leaf (.seq (.cond .leaf .leaf) (.seq (.block (.seq .leaf (.seq (.draw [[],[],[0,1],[0,1,2],[],[],[4,5],[4,5,6],[0,1,2,3,4,5,6,7]] (.calm 0 (.calm 1 (.calm 2 (.calm 3 (.calm 4 (.calm 5 (.calm 6 (.calm 7 (.calm 8 .done)))))))))) (.cond (.seq .leaf .leaf) .leaf)))) .leaf))) [13] [4,5,14,15,16,17,18,19,20,21,22,23,24,25]))) (.seq .leaf .leaf))))
theorem S.slices_Equal_sl_space_Place_space_Place.eq (a0 a1 : Value) (w : World) (R : Value → World → Prop) : S.slices_Equal_sl_space_Place_space_Place a0 a1 w R = fnC PP 26 (Tryz.f26.body.getD .skip) S.slices_Equal_sl_space_Place_space_Place.an [.tmp 4] [a0, a1] w R := by kernel_rfl
theorem S.slices_Equal_sl_space_Place_space_Place.calls {a0 a1 : Value} {w : World} {R : Value → World → Prop} (h : S.slices_Equal_sl_space_Place_space_Place a0 a1 w R) : Ca PP Fn.slices_Equal_sl_space_Place_space_Place #[a0, a1] w R :=
  fnC_calls mixed (f := Fn.slices_Equal_sl_space_Place_space_Place) (an := S.slices_Equal_sl_space_Place_space_Place.an) Tryz.func26 rfl (by show _ ≤ _; exact Nat.le_of_ble_eq_true rfl) (S.slices_Equal_sl_space_Place_space_Place.eq a0 a1 w R ▸ h)
/-- slices.Equal[[]acheron/api.Dir,acheron/api.Dir] -/
def S.slices_Equal_sl_api_Dir_api_Dir (a0 a1 : Value) (w : World) (R : Value → World → Prop) : Prop :=
 LnL a0 fun t1 =>
 LnL a1 fun t2 =>
 Bi .neq t1 t2 fun t3 =>
 Cnd t3 (
 R (.bool false) w) (
 LnL a0 fun t4 =>
 ∃ (I5 : List Value → World → Prop) (m6 : List Value → World → Nat), I5 [(.int .i64 0)] w ∧ ∀ t9, ∀ (u7 : Env) (w8 : World), I5 [t9] w8 →
 Bi .lss t9 t4 fun t10 =>
 Cnd t10 (
 Dr w8 fun w11 =>
 IxA 10 a0 t9 fun t12 =>
 LdA PP 10 t12 w11 fun t13 =>
 IxA 10 a1 t9 fun t14 =>
 LdA PP 10 t14 w11 fun t15 =>
 Rd PP (eqS .neq Ty.api_Dir (.tmp 19) (.tmp 23) t13 t15) w11 fun t16 =>
 Cnd t16 (
 R (.bool false) w11) (
 Bi .add t9 (.int .i64 1) fun t17 =>
 I5 [t17] w11 ∧ m6 [t17] w11 < m6 [t9] w8)) (
 R (.bool true) w8))
def S.slices_Equal_sl_api_Dir_api_Dir.an : Ann := (.seq .leaf (.seq (.seq .leaf (.cond (.seq .leaf .leaf) .leaf)) (.seq (.seq .leaf (.block (.loop (.seq .leaf (.seq (.cond .leaf .leaf) (.seq (.block (.seq .leaf (.seq (.draw [[],[],[0,1],[0,1,2],[],[],[4,5],[4,5,6],[0,1,2,3,4,5,6,7]] (.calm 0 (.calm 1 (.calm 2 (.calm 3 (.calm 4 (.calm 5 (.calm 6 (.calm 7 (.calm 8 .done)))))))))) (.cond (.seq .leaf .leaf) .leaf)))) .leaf))) [13] [4,5,14,15,16,17,18,19,20,21,22,23,24,25]))) (.seq .leaf .leaf))))
theorem S.slices_Equal_sl_api_Dir_api_Dir.eq (a0 a1 : Value) (w : World) (R : Value → World → Prop) : S.slices_Equal_sl_api_Dir_api_Dir a0 a1 w R = fnC PP 26 (Tryz.f27.body.getD .skip) S.slices_Equal_sl_api_Dir_api_Dir.an [.tmp 4] [a0, a1] w R := by kernel_rfl
theorem S.slices_Equal_sl_api_Dir_api_Dir.calls {a0 a1 : Value} {w : World} {R : Value → World → Prop} (h : S.slices_Equal_sl_api_Dir_api_Dir a0 a1 w R) : Ca PP Fn.slices_Equal_sl_api_Dir_api_Dir #[a0, a1] w R :=
  fnC_calls mixed (f := Fn.slices_Equal_sl_api_Dir_api_Dir) (an := S.slices_Equal_sl_api_Dir_api_Dir.an) Tryz.func27 rfl (by show _ ≤ _; exact Nat.le_of_ble_eq_true rfl) (S.slices_Equal_sl_api_Dir_api_Dir.eq a0 a1 w R ▸ h)
/-- slices.ContainsFunc[[]string,string] -/
def S.slices_ContainsFunc_sl_string_string (a0 a1 : Value) (w : World) (R : Value → World → Prop) : Prop :=
 Ca PP Fn.slices_IndexFunc_sl_string_string #[a0, a1] w fun t1 w2 =>
 Bi .geq t1 (.int .i64 0) fun t3 =>
 R t3 w2
def S.slices_ContainsFunc_sl_string_string.an : Ann := (.seq .leaf (.seq .leaf .leaf))
theorem S.slices_ContainsFunc_sl_string_string.eq (a0 a1 : Value) (w : World) (R : Value → World → Prop) : S.slices_ContainsFunc_sl_string_string a0 a1 w R = fnC PP 9 (Tryz.f29.body.getD .skip) S.slices_ContainsFunc_sl_string_string.an [.tmp 4] [a0, a1] w R := by kernel_rfl
theorem S.slices_ContainsFunc_sl_string_string.calls {a0 a1 : Value} {w : World} {R : Value → World → Prop} (h : S.slices_ContainsFunc_sl_string_string a0 a1 w R) : Ca PP Fn.slices_ContainsFunc_sl_string_string #[a0, a1] w R :=
  fnC_calls mixed (f := Fn.slices_ContainsFunc_sl_string_string) (an := S.slices_ContainsFunc_sl_string_string.an) Tryz.func29 rfl (by show _ ≤ _; exact Nat.le_of_ble_eq_true rfl) (S.slices_ContainsFunc_sl_string_string.eq a0 a1 w R ▸ h)
/-- slices.Contains[[]acheron/space.Place,acheron/space.Place] -/
def S.slices_Contains_sl_space_Place_space_Place (a0 a1 : Value) (w : World) (R : Value → World → Prop) : Prop :=
 Al Ty.space_Place (a1 : Value).cells w fun t1 w2 =>
 LdA PP 2 t1 w2 fun t3 =>
 Ca PP Fn.slices_Index_sl_space_Place_space_Place #[a0, t3] w2 fun t4 w5 =>
 Bi .geq t4 (.int .i64 0) fun t6 =>
 R t6 w5
def S.slices_Contains_sl_space_Place_space_Place.an : Ann := (.seq .leaf (.seq .leaf .leaf))
theorem S.slices_Contains_sl_space_Place_space_Place.eq (a0 a1 : Value) (w : World) (R : Value → World → Prop) : S.slices_Contains_sl_space_Place_space_Place a0 a1 w R = fnC PP 9 (Tryz.f32.body.getD .skip) S.slices_Contains_sl_space_Place_space_Place.an [.tmp 4] [a0, a1] w R := by kernel_rfl
theorem S.slices_Contains_sl_space_Place_space_Place.calls {a0 a1 : Value} {w : World} {R : Value → World → Prop} (h : S.slices_Contains_sl_space_Place_space_Place a0 a1 w R) : Ca PP Fn.slices_Contains_sl_space_Place_space_Place #[a0, a1] w R :=
  fnC_calls mixed (f := Fn.slices_Contains_sl_space_Place_space_Place) (an := S.slices_Contains_sl_space_Place_space_Place.an) Tryz.func32 rfl (by show _ ≤ _; exact Nat.le_of_ble_eq_true rfl) (S.slices_Contains_sl_space_Place_space_Place.eq a0 a1 w R ▸ h)
/-- (*acheron/space.Space).Bind -/
def S.space_Space_Bind (a0 a1 a2 a3 : Value) (w : World) (R : Value → World → Prop) : Prop :=
 Rd PP (eqS .eql Ty.p_space_Space (.tmp 19) (.const (.pointer none)) a0 (.pointer none)) w fun t1 =>
 Cnd t1 (
 R (.int .i64 6) w) (
 Ca PP Fn.space_flags #[a3] w fun t2 w3 =>
 Ex t2 0 fun t4 =>
 Ex t2 1 fun t5 =>
 Ex t2 2 fun t6 =>
 Un .not t6 fun t7 =>
 Cnd t7 (
 R (.int .i64 20) w3) (
 Ca PP Fn.space_Space_Where #[a0, a1] w3 fun t8 w9 =>
 Ex t8 0 fun t10 =>
 Ex t8 1 fun t11 =>
 Bi .neq t11 (.int .i64 0) fun t12 =>
 Cnd t12 (
 R t11 w9) (
 Ca PP Fn.space_Space_place #[a0, a2] w9 fun t13 w14 =>
 Ex t13 0 fun t15 =>
 Ex t13 1 fun t16 =>
 Al Ty.space_Place #[.int .i64 0, .int .i64 0] w14 fun t17 w18 =>
 St PP 2 t17 t15 w18 fun w19 =>
 Bi .neq t16 (.int .i64 0) fun t20 =>
 Cnd t20 (
 R t16 w19) (
 IxA 2 t10 (.int .i64 0) fun t21 =>
 LdA PP 2 t21 w19 fun t22 =>
 Ca PP Fn.space_Space_isDir #[a0, t22] w19 fun t23 w24 =>
 Ex t23 0 fun t25 =>
 Ex t23 1 fun t26 =>
 Bi .neq t26 (.int .i64 0) fun t27 =>
 Cnd t27 (
 R t26 w24) (
 LdA PP 2 t17 w24 fun t28 =>
 Ca PP Fn.space_Space_isDir #[a0, t28] w24 fun t29 w30 =>
 Ex t29 0 fun t31 =>
 Ex t29 1 fun t32 =>
 Bi .neq t32 (.int .i64 0) fun t33 =>
 Cnd t33 (
 R t32 w30) (
 ∀ J34 : List Value → World → Prop, (∀ t37, ∀ w36 : World, (∀ u35 : Env,
 Cnd t37 (
 R (.int .i64 18) w36) (
 Dr w36 fun w38 =>
 Nc a0 fun t39 =>
 Fa 0 t39 fun t40 =>
 Ld t40 w38 fun t41 =>
 LdA PP 2 t17 w38 fun t42 =>
 (Ca PP Fn.space_table_stand #[t41, t42] w38 fun t43 w44 =>
 Ex t43 0 fun t45 =>
 Ex t43 1 fun t46 =>
 Al Ty.sl_space_Place #[.slice none 0 0] w44 fun t47 w48 =>
 (Ld t40 w48 fun t49 =>
 t49 = t41) ∧
 (LdA PP 2 t17 w48 fun t50 =>
 t50 = t42) ∧
 St PP 1 t47 t45 w48 fun w51 =>
 ∀ J52 : List Value → World → Prop, (∀ t55, ∀ w54 : World, (∀ u53 : Env,
 Cnd t55 (
 R (.int .i64 5) w54) (
 LdA PP 2 t17 w54 fun t56 =>
 Ca PP Fn.space_Space_set #[a0, t56, t10, t5, t4] w54 fun t57 w58 =>
 R t57 w58)) → J52 [t55] w54) →
 Bi .neq t4 (.int .i64 0) fun t59 =>
 Gd t59 true (fun k60 => k60 t10 w51) w51 fun t61 w62 =>
 Gd t59 true (fun k63 => k63 (.func (.func Fn.space_Space_Bind_1) #[] #[t47]) w62) w62 fun t64 w65 =>
 Gd t59 true (fun k66 => Ca PP Fn.slices_ContainsFunc_sl_space_Place_space_Place #[t61, t64] w65 fun t69 w70 =>
 k66 t69 w70) w65 fun t67 w68 =>
 Pk t59 t67 (.bool false) fun t71 =>
 J52 [t71] w68) ∧ (Al Ty.sl_space_Place #[.slice none 0 0] w38 fun t72 w73 =>
 (Ld t40 w73 fun t74 =>
 t74 = t41) ∧
 (LdA PP 2 t17 w73 fun t75 =>
 t75 = t42) ∧
 Ca PP Fn.space_table_stand #[t41, t42] w73 fun t76 w77 =>
 Ex t76 0 fun t78 =>
 Ex t76 1 fun t79 =>
 St PP 1 t72 t78 w77 fun w80 =>
 ∀ J81 : List Value → World → Prop, (∀ t84, ∀ w83 : World, (∀ u82 : Env,
 Cnd t84 (
 R (.int .i64 5) w83) (
 LdA PP 2 t17 w83 fun t85 =>
 Ca PP Fn.space_Space_set #[a0, t85, t10, t5, t4] w83 fun t86 w87 =>
 R t86 w87)) → J81 [t84] w83) →
 Bi .neq t4 (.int .i64 0) fun t88 =>
 Gd t88 true (fun k89 => k89 t10 w80) w80 fun t90 w91 =>
 Gd t88 true (fun k92 => k92 (.func (.func Fn.space_Space_Bind_1) #[] #[t72]) w91) w91 fun t93 w94 =>
 Gd t88 true (fun k95 => Ca PP Fn.slices_ContainsFunc_sl_space_Place_space_Place #[t90, t93] w94 fun t98 w99 =>
 k95 t98 w99) w94 fun t96 w97 =>
 Pk t88 t96 (.bool false) fun t100 =>
 J81 [t100] w97) ∧ True)) → J34 [t37] w36) →
 Beq true t25 t31 fun t101 =>
 Gd t101 false (fun k102 => k102 t4 w30) w30 fun t103 w104 =>
 Gd t101 false (fun k105 => Bi .neq t103 (.int .i64 0) fun t108 =>
 k105 t108 w104) w104 fun t106 w107 =>
 Gd t101 false (fun k109 => k109 t106 w107) w107 fun t110 w111 =>
 Gd t110 true (fun k112 => k112 t31 w111) w111 fun t113 w114 =>
 Gd t110 true (fun k115 => Un .not t113 fun t118 =>
 k115 t118 w114) w114 fun t116 w117 =>
 Gd t101 false (fun k119 => Pk t110 t116 (.bool false) fun t122 =>
 k119 t122 w117) w117 fun t120 w121 =>
 Pk t101 (.bool true) t120 fun t123 =>
 J34 [t123] w121))))))
def S.space_Space_Bind.an : Ann := (.seq .leaf (.seq (.seq .leaf (.cond (.seq .leaf .leaf) .leaf)) (.seq .leaf (.seq (.seq .leaf (.cond (.seq .leaf .leaf) .leaf)) (.seq .leaf (.seq (.seq .leaf (.cond (.seq .leaf .leaf) .leaf)) (.seq .leaf (.seq (.seq .leaf (.cond (.seq .leaf .leaf) .leaf)) (.seq .leaf (.seq (.seq .leaf (.cond (.seq .leaf .leaf) .leaf)) (.seq .leaf (.seq (.seq .leaf (.cond (.seq .leaf .leaf) .leaf)) (.seq (.join .leaf [77] [67,68,69,70,71,72,73,74,75,76] (.cond (.seq .leaf .leaf) .leaf)) (.seq (.seq (.draw [[],[0],[0,1],[0,1,2],[],[0,1,2,3,4],[0,1,2,3,4,5],[0,1,2,3,4,5,6],[0,1,2,3,4,5,6],[],[0,1,2,3,4,5,6,7,9],[0,1,2,3,4,5,6,7,8,9,10]] (.calm 0 (.calm 1 (.calm 2 (.calm 3 (.calm 4 (.effs 5 [] (.calm 6 (.calm 7 (.calm 8 (.eff1 9 [3,4] (.eff1 10 [] (.calm 11 .done)))))) (.effs 9 [3,4] (.eff1 5 [] (.calm 6 (.calm 7 (.calm 8 (.eff1 10 [] (.calm 11 .done)))))) .none)))))))) (.join .leaf [93] [87,88,89,90,91,92] (.cond (.seq .leaf .leaf) .leaf))) (.seq .leaf .leaf)))))))))))))))
theorem S.space_Space_Bind.eq (a0 a1 a2 a3 : Value) (w : World) (R : Value → World → Prop) : S.space_Space_Bind a0 a1 a2 a3 w R = fnC PP 100 (Tryz.f33.body.getD .skip) S.space_Space_Bind.an [.tmp 8] [a0, a1, a2, a3] w R := by kernel_rfl
theorem S.space_Space_Bind.calls {a0 a1 a2 a3 : Value} {w : World} {R : Value → World → Prop} (h : S.space_Space_Bind a0 a1 a2 a3 w R) : Ca PP Fn.space_Space_Bind #[a0, a1, a2, a3] w R :=
  fnC_calls mixed (f := Fn.space_Space_Bind) (an := S.space_Space_Bind.an) Tryz.func33 rfl (by show _ ≤ _; exact Nat.le_of_ble_eq_true rfl) (S.space_Space_Bind.eq a0 a1 a2 a3 w R ▸ h)
/-- (*acheron/space.Space).Unmount -/
def S.space_Space_Unmount (a0 a1 a2 : Value) (w : World) (R : Value → World → Prop) : Prop :=
 Ca PP Fn.space_Space_place #[a0, a2] w fun t1 w2 =>
 Ex t1 0 fun t3 =>
 Ex t1 1 fun t4 =>
 Al Ty.space_Place #[.int .i64 0, .int .i64 0] w2 fun t5 w6 =>
 St PP 2 t5 t3 w6 fun w7 =>
 Bi .neq t4 (.int .i64 0) fun t8 =>
 Cnd t8 (
 R t4 w7) (
 Dr w7 fun w9 =>
 Nc a0 fun t10 =>
 Fa 0 t10 fun t11 =>
 Ld t11 w9 fun t12 =>
 LdA PP 2 t5 w9 fun t13 =>
 Ca PP Fn.space_table_find #[t12, t13] w9 fun t14 w15 =>
 ∀ J16 : List Value → World → Prop, (∀ w18 : World, (∀ u17 : Env,
 Bi .lss t14 (.int .i64 0) fun t19 =>
 Cnd t19 (
 R (.int .i64 23) w18) (
 Dr w18 fun w20 =>
 Nc a0 fun t21 =>
 Fa 0 t21 fun t22 =>
 Ld t22 w20 fun t23 =>
 Nc a0 fun t24 =>
 Fa 0 t24 fun t25 =>
 Ld t25 w20 fun t26 =>
 Nc t26 fun t27 =>
 Fa 1 t27 fun t28 =>
 Ld t28 w20 fun t29 =>
 Bi .add t14 (.int .i64 1) fun t30 =>
 Ca PP Fn.slices_Delete_sl_space_Mount_space_Mount #[t29, t14, t30] w20 fun t31 w32 =>
 (Ld t22 w32 fun t33 =>
 t33 = t23) ∧
 Nc t23 fun t34 =>
 Fa 1 t34 fun t35 =>
 St PP 1 t35 t31 w32 fun w36 =>
 R (.int .i64 0) w36)) → J16 [] w18) →
 Bi .neq a1 (.string ⟨#[]⟩) fun t37 =>
 Cnd t37 (
 Ca PP Fn.space_Space_place #[a0, a1] w15 fun t38 w39 =>
 Ex t38 0 fun t40 =>
 Ex t38 1 fun t41 =>
 Al Ty.space_Place #[.int .i64 0, .int .i64 0] w39 fun t42 w43 =>
 St PP 2 t42 t40 w43 fun w44 =>
 Bi .neq t41 (.int .i64 0) fun t45 =>
 Cnd t45 (
 R t41 w44) (
 ∀ J46 : List Value → World → Prop, (∀ t49, ∀ w48 : World, (∀ u47 : Env,
 Bi .lss t49 (.int .i64 0) fun t50 =>
 Cnd t50 (
 R (.int .i64 23) w48) (
 Nc a0 fun t51 =>
 Fa 0 t51 fun t52 =>
 Ld t52 w48 fun t53 =>
 Nc t53 fun t54 =>
 Fa 1 t54 fun t55 =>
 Ld t55 w48 fun t56 =>
 IxA 4 t56 t14 fun t57 =>
 Dr w48 fun w58 =>
 Nc t57 fun t59 =>
 Fa 2 t59 fun t60 =>
 Ld t60 w58 fun t61 =>
 Bi .add t49 (.int .i64 1) fun t62 =>
 Nc t57 fun t63 =>
 Fa 3 t63 fun t64 =>
 Ld t64 w58 fun t65 =>
 Bi .add t49 (.int .i64 1) fun t66 =>
 Ca PP Fn.slices_Clone_sl_space_Place_space_Place #[t61] w58 fun t67 w68 =>
 (Ld t64 w68 fun t69 =>
 t69 = t65) ∧
 Ca PP Fn.slices_Delete_sl_space_Place_space_Place #[t67, t49, t62] w68 fun t70 w71 =>
 (Ld t64 w71 fun t72 =>
 t72 = t65) ∧
 Ca PP Fn.slices_Clone_sl_bool_bool #[t65] w71 fun t73 w74 =>
 Ca PP Fn.slices_Delete_sl_bool_bool #[t73, t49, t66] w74 fun t75 w76 =>
 Nc t57 fun t77 =>
 Fa 2 t77 fun t78 =>
 St PP 1 t78 t70 w76 fun w79 =>
 Nc t57 fun t80 =>
 Fa 3 t80 fun t81 =>
 St PP 1 t81 t75 w79 fun w82 =>
 ∀ J83 : List Value → World → Prop, (∀ t86, ∀ w85 : World, (∀ u84 : Env,
 Cnd t86 (
 R (.int .i64 0) w85) (
 J16 [] w85)) → J83 [t86] w85) →
 Dr w82 fun w87 =>
 Nc t57 fun t88 =>
 Fa 2 t88 fun t89 =>
 Ld t89 w87 fun t90 =>
 LnL t90 fun t91 =>
 Bi .gtr t91 (.int .i64 0) fun t92 =>
 Gd t92 true (fun k93 => k93 t57 w87) w87 fun t94 w95 =>
 Gd t92 true (fun k96 => Nc t94 fun t99 =>
 k96 t99 w95) w95 fun t97 w98 =>
 Gd t92 true (fun k100 => Fa 2 t97 fun t103 =>
 k100 t103 w98) w98 fun t101 w102 =>
 Gd t92 true (fun k104 => Ld t101 w102 fun t107 =>
 k104 t107 w102) w102 fun t105 w106 =>
 Gd t92 true (fun k108 => LdA PP 2 t5 w106 fun t111 =>
 k108 t111 w106) w106 fun t109 w110 =>
 Gd t92 true (fun k112 => Ef PP (Instr.buildSlice Ty.sl_space_Place 1 #[(0, t109)]) w110 fun t115 w116 =>
 k112 t115 w116) w110 fun t113 w114 =>
 (Gd t92 true (fun k117 => Ld t101 w114 fun t120 =>
 k117 t120 w114) w114 fun t118 w119 =>
 t118 = t105) ∧
 Gd t92 true (fun k121 => Ca PP Fn.slices_Equal_sl_space_Place_space_Place #[t105, t113] w114 fun t124 w125 =>
 k121 t124 w125) w114 fun t122 w123 =>
 Gd t92 true (fun k126 => Un .not t122 fun t129 =>
 k126 t129 w123) w123 fun t127 w128 =>
 Pk t92 t127 (.bool false) fun t130 =>
 J83 [t130] w128)) → J46 [t49] w48) →
 Bi .geq t14 (.int .i64 0) fun t131 =>
 Cnd t131 (
 Dr w44 fun w132 =>
 Nc a0 fun t133 =>
 Fa 0 t133 fun t134 =>
 Ld t134 w132 fun t135 =>
 Nc t135 fun t136 =>
 Fa 1 t136 fun t137 =>
 Ld t137 w132 fun t138 =>
 IxA 4 t138 t14 fun t139 =>
 Fa 2 t139 fun t140 =>
 Ld t140 w132 fun t141 =>
 LdA PP 2 t42 w132 fun t142 =>
 Ca PP Fn.slices_Index_sl_space_Place_space_Place #[t141, t142] w132 fun t143 w144 =>
 J46 [t143] w144) (
 J46 [(.int .i64 (-1))] w44))) (
 J16 [] w15))
def S.space_Space_Unmount.an : Ann := (.seq .leaf (.seq .leaf (.seq (.seq .leaf (.cond (.seq .leaf .leaf) .leaf)) (.seq (.draw [[],[0],[0,1],[0,1,2],[],[0,1,2,3,4],[0,1,2,3,4,5]] (.calm 0 (.calm 1 (.calm 2 (.calm 3 (.calm 4 (.eff1 5 [] (.calm 6 .done)))))))) (.join (.seq .leaf (.cond (.seq .leaf (.seq (.seq .leaf (.cond (.seq .leaf .leaf) .leaf)) (.seq .leaf (.join (.seq .leaf (.cond (.draw [[],[0],[0,1],[0,1,2],[0,1,2,3],[0,1,2,3,4],[0,1,2,3,4,5],[],[0,1,2,3,4,5,6,7],[0,1,2,3,4,5,6,7,8],[0,1,2,3,4,5,6,7,8,9],[],[0,1,2,3,4,5,6,7,8,9,10,11],[0,1,2,3,4,5,6,7,8,9,10,11,12]] (.calm 0 (.calm 1 (.calm 2 (.calm 3 (.calm 4 (.calm 5 (.calm 6 (.calm 7 (.calm 8 (.calm 9 (.calm 10 (.calm 11 (.eff1 12 [] (.calm 13 .done))))))))))))))) .leaf)) [12] [40,41,42,43,44,45,46,47,48,49,50,51,52,53,54] (.seq (.seq .leaf (.cond (.seq .leaf .leaf) .leaf)) (.seq .leaf (.seq (.draw [[],[],[],[2],[2,3],[2,3,4],[2,3,4,5],[],[],[8],[2,3,4,5,6,7,8,9],[],[11],[11,12],[11,12,13],[2,3,4,5,6,7,8,9,10,11,12,13,14],[],[],[17],[2,3,4,5,6,7,8,9,10,11,12,13,14,15,16,17,18],[0,2,3,4,5,6,7,8,9,10,11,12,13,14,15,16,17,18,19],[0,2,3,4,5,6,7,8,9,10,11,12,13,14,15,16,17,18,19,20],[0,2,3,4,5,6,7,8,9,10,11,12,13,14,15,16,17,18,19,20,21],[0,1,2,3,4,5,6,7,8,9,10,11,12,13,14,15,16,17,18,19,20,21,22],[0,1,2,3,4,5,6,7,8,9,10,11,12,13,14,15,16,17,18,19,20,21,22,23],[0,1,2,3,4,5,6,7,8,9,10,11,12,13,14,15,16,17,18,19,20,21,22,23,24]] (.calm 0 (.calm 1 (.calm 2 (.calm 3 (.calm 4 (.calm 5 (.calm 7 (.calm 8 (.calm 9 (.calm 11 (.calm 12 (.calm 13 (.calm 14 (.calm 16 (.calm 17 (.calm 18 (.eff1 6 [14] (.eff1 10 [14] (.eff1 15 [] (.eff1 19 [] (.calm 20 (.calm 21 (.eff1 22 [] (.calm 23 (.calm 24 (.eff1 25 [] .done))))))))))))))))))))))))))) (.join (.draw [[],[0],[0,1],[0,1,2],[0,1,2,3],[0,1,2,3,4],[0,1,2,3,4,5],[0,1,2,3,4,5,6],[0,1,2,3,4,5,6,7],[0,1,2,3,4,5,6,7,8],[0,1,2,3,4,5,6,7,8,9],[0,1,2,3,4,5,6],[0,1,2,3,4,5,6,11],[0,1,2,3,4,5,6,7,8,9,10,11,12],[0,1,2,3,4,5,6,7,8,9,10,11,12,13],[0,1,2,3,4,5,6,7,8,9,10,11,12,13,14]] (.calm 0 (.calm 1 (.calm 2 (.calm 3 (.calm 4 (.calm 5 (.calm 6 (.calm 7 (.calm 8 (.calm 9 (.calm 10 (.calm 11 (.eff1 12 [10] (.eff1 13 [] (.calm 14 (.calm 15 .done))))))))))))))))) [105] [90,91,92,93,94,95,96,97,98,99,100,101,102,103,104] (.cond (.seq .leaf .leaf) .leaf))))))))) .leaf)) [] [6,10,11,12,13,29,30,31,32,33,34,35,36,37,38,39,40,41,42,43,44,45,46,47,48,49,50,51,52,53,54,55,56,57,58,59,60,61,62,63,64,65,66,67,68,69,70,71,72,73,74,75,76,77,78,79,80,81,82,83,84,85,86,87,88,89,90,91,92,93,94,95,96,97,98,99,100,101,102,103,104,105] (.seq (.seq .leaf (.cond (.seq .leaf .leaf) .leaf)) (.seq (.draw [[],[0],[0,1],[0,1,2],[],[4],[4,5],[4,5,6],[4,5,6,7],[4,5,6,7,8],[4,5,6,7,8,9],[],[],[12],[4,5,6,7,8,9,10,11,12,13],[0,1,2,3,4,5,6,7,8,9,10,11,12,13,14],[0,1,2,3,4,5,6,7,8,9,10,11,12,13,14,15],[0,1,2,3,4,5,6,7,8,9,10,11,12,13,14,15,16]] (.calm 0 (.calm 1 (.calm 2 (.calm 3 (.calm 4 (.calm 5 (.calm 6 (.calm 7 (.calm 8 (.calm 9 (.calm 10 (.calm 11 (.calm 12 (.calm 13 (.eff1 14 [3] (.calm 15 (.calm 16 (.eff1 17 [] .done))))))))))))))))))) (.seq .leaf .leaf))))))))
theorem S.space_Space_Unmount.eq (a0 a1 a2 : Value) (w : World) (R : Value → World → Prop) : S.space_Space_Unmount a0 a1 a2 w R = fnC PP 125 (Tryz.f35.body.getD .skip) S.space_Space_Unmount.an [.tmp 6] [a0, a1, a2] w R := by kernel_rfl
theorem S.space_Space_Unmount.calls {a0 a1 a2 : Value} {w : World} {R : Value → World → Prop} (h : S.space_Space_Unmount a0 a1 a2 w R) : Ca PP Fn.space_Space_Unmount #[a0, a1, a2] w R :=
  fnC_calls mixed (f := Fn.space_Space_Unmount) (an := S.space_Space_Unmount.an) Tryz.func35 rfl (by show _ ≤ _; exact Nat.le_of_ble_eq_true rfl) (S.space_Space_Unmount.eq a0 a1 a2 w R ▸ h)
/-- (*acheron/space.Space).Dir -/
def S.space_Space_Dir (a0 : Value) (w : World) (R : Value → World → Prop) : Prop :=
 Rd PP (eqS .eql Ty.p_space_Space (.tmp 3) (.const (.pointer none)) a0 (.pointer none)) w fun t1 =>
 Cnd t1 (
 R (.string ⟨#[]⟩) w) (
 Nc a0 fun t2 =>
 Fa 2 t2 fun t3 =>
 Ld t3 w fun t4 =>
 R t4 w)
def S.space_Space_Dir.an : Ann := (.seq .leaf (.seq (.seq .leaf (.cond (.seq .leaf .leaf) .leaf)) (.seq .leaf .leaf)))
theorem S.space_Space_Dir.eq (a0 : Value) (w : World) (R : Value → World → Prop) : S.space_Space_Dir a0 w R = fnC PP 9 (Tryz.f36.body.getD .skip) S.space_Space_Dir.an [.tmp 2] [a0] w R := by kernel_rfl
theorem S.space_Space_Dir.calls {a0 : Value} {w : World} {R : Value → World → Prop} (h : S.space_Space_Dir a0 w R) : Ca PP Fn.space_Space_Dir #[a0] w R :=
  fnC_calls mixed (f := Fn.space_Space_Dir) (an := S.space_Space_Dir.an) Tryz.func36 rfl (by show _ ≤ _; exact Nat.le_of_ble_eq_true rfl) (S.space_Space_Dir.eq a0 w R ▸ h)
/-- (*acheron/space.Space).Fork -/
def S.space_Space_Fork (a0 : Value) (w : World) (R : Value → World → Prop) : Prop :=
 Rd PP (eqS .eql Ty.p_space_Space (.tmp 3) (.const (.pointer none)) a0 (.pointer none)) w fun t1 =>
 Cnd t1 (
 R (.pointer none) w) (
 Dr w fun w2 =>
 Nc a0 fun t3 =>
 Fa 0 t3 fun t4 =>
 Ld t4 w2 fun t5 =>
 Nc t5 fun t6 =>
 Fa 0 t6 fun t7 =>
 Ld t7 w2 fun t8 =>
 Nc a0 fun t9 =>
 Fa 0 t9 fun t10 =>
 Ld t10 w2 fun t11 =>
 Nc a0 fun t12 =>
 Fa 1 t12 fun t13 =>
 Ld t13 w2 fun t14 =>
 Nc a0 fun t15 =>
 Fa 2 t15 fun t16 =>
 Ld t16 w2 fun t17 =>
 (Ca PP Fn.slices_Clone_sl_api_Tree_api_Tree #[t8] w2 fun t18 w19 =>
 (Ld t10 w19 fun t20 =>
 t20 = t11) ∧
 (Ld t13 w19 fun t21 =>
 t21 = t14) ∧
 (Ld t16 w19 fun t22 =>
 t22 = t17) ∧
 (Ca PP Fn.space_table_copied #[t11] w19 fun t23 w24 =>
 (Ld t13 w24 fun t25 =>
 t25 = t14) ∧
 (Ld t16 w24 fun t26 =>
 t26 = t17) ∧
 Bd #[.slice none 0 0, .slice none 0 0] [(0, 1), (1, 1)] [(0, t18), (1, t23)] fun t27 =>
 (Al Ty.space_table (t27 : Value).cells w24 fun t28 w29 =>
 (Ld t13 w29 fun t30 =>
 t30 = t14) ∧
 (Ld t16 w29 fun t31 =>
 t31 = t17) ∧
 MkM w29 fun t32 w33 =>
 (Ld t4 w33 fun t34 =>
 t34 = t5) ∧
 (Ld t7 w33 fun t35 =>
 t35 = t8) ∧
 (Ld t10 w33 fun t36 =>
 t36 = t11) ∧
 (Ld t13 w33 fun t37 =>
 t37 = t14) ∧
 (Ld t16 w33 fun t38 =>
 t38 = t17) ∧
 Bd #[.pointer none, .string ⟨#[]⟩, .string ⟨#[]⟩, .map none] [(0, 1), (1, 1), (2, 1), (3, 1)] [(0, t28), (1, t14), (2, t17), (3, t32)] fun t39 =>
 Al Ty.space_Space (t39 : Value).cells w33 fun t40 w41 =>
 R t40 w41) ∧ (MkM w24 fun t42 w43 =>
 (Ld t4 w43 fun t44 =>
 t44 = t5) ∧
 (Ld t7 w43 fun t45 =>
 t45 = t8) ∧
 (Ld t10 w43 fun t46 =>
 t46 = t11) ∧
 (Ld t13 w43 fun t47 =>
 t47 = t14) ∧
 (Ld t16 w43 fun t48 =>
 t48 = t17) ∧
 Al Ty.space_table (t27 : Value).cells w43 fun t49 w50 =>
 (Ld t13 w50 fun t51 =>
 t51 = t14) ∧
 (Ld t16 w50 fun t52 =>
 t52 = t17) ∧
 Bd #[.pointer none, .string ⟨#[]⟩, .string ⟨#[]⟩, .map none] [(0, 1), (1, 1), (2, 1), (3, 1)] [(0, t49), (1, t14), (2, t17), (3, t42)] fun t53 =>
 Al Ty.space_Space (t53 : Value).cells w50 fun t54 w55 =>
 R t54 w55) ∧ True) ∧ (MkM w19 fun t56 w57 =>
 (Ld t4 w57 fun t58 =>
 t58 = t5) ∧
 (Ld t7 w57 fun t59 =>
 t59 = t8) ∧
 (Ld t10 w57 fun t60 =>
 t60 = t11) ∧
 (Ld t13 w57 fun t61 =>
 t61 = t14) ∧
 (Ld t16 w57 fun t62 =>
 t62 = t17) ∧
 Ca PP Fn.space_table_copied #[t11] w57 fun t63 w64 =>
 (Ld t13 w64 fun t65 =>
 t65 = t14) ∧
 (Ld t16 w64 fun t66 =>
 t66 = t17) ∧
 Bd #[.slice none 0 0, .slice none 0 0] [(0, 1), (1, 1)] [(0, t18), (1, t63)] fun t67 =>
 Al Ty.space_table (t67 : Value).cells w64 fun t68 w69 =>
 (Ld t13 w69 fun t70 =>
 t70 = t14) ∧
 (Ld t16 w69 fun t71 =>
 t71 = t17) ∧
 Bd #[.pointer none, .string ⟨#[]⟩, .string ⟨#[]⟩, .map none] [(0, 1), (1, 1), (2, 1), (3, 1)] [(0, t68), (1, t14), (2, t17), (3, t56)] fun t72 =>
 Al Ty.space_Space (t72 : Value).cells w69 fun t73 w74 =>
 R t73 w74) ∧ True) ∧ (MkM w2 fun t75 w76 =>
 (Ld t4 w76 fun t77 =>
 t77 = t5) ∧
 (Ld t7 w76 fun t78 =>
 t78 = t8) ∧
 (Ld t10 w76 fun t79 =>
 t79 = t11) ∧
 (Ld t13 w76 fun t80 =>
 t80 = t14) ∧
 (Ld t16 w76 fun t81 =>
 t81 = t17) ∧
 Ca PP Fn.slices_Clone_sl_api_Tree_api_Tree #[t8] w76 fun t82 w83 =>
 (Ld t10 w83 fun t84 =>
 t84 = t11) ∧
 (Ld t13 w83 fun t85 =>
 t85 = t14) ∧
 (Ld t16 w83 fun t86 =>
 t86 = t17) ∧
 Ca PP Fn.space_table_copied #[t11] w83 fun t87 w88 =>
 (Ld t13 w88 fun t89 =>
 t89 = t14) ∧
 (Ld t16 w88 fun t90 =>
 t90 = t17) ∧
 Bd #[.slice none 0 0, .slice none 0 0] [(0, 1), (1, 1)] [(0, t82), (1, t87)] fun t91 =>
 Al Ty.space_table (t91 : Value).cells w88 fun t92 w93 =>
 (Ld t13 w93 fun t94 =>
 t94 = t14) ∧
 (Ld t16 w93 fun t95 =>
 t95 = t17) ∧
 Bd #[.pointer none, .string ⟨#[]⟩, .string ⟨#[]⟩, .map none] [(0, 1), (1, 1), (2, 1), (3, 1)] [(0, t92), (1, t14), (2, t17), (3, t75)] fun t96 =>
 Al Ty.space_Space (t96 : Value).cells w93 fun t97 w98 =>
 R t97 w98) ∧ True)
def S.space_Space_Fork.an : Ann := (.seq .leaf (.seq (.seq .leaf (.cond (.seq .leaf .leaf) .leaf)) (.seq (.draw [[],[0],[0,1],[0,1,2],[0,1,2,3],[0,1,2,3,4],[0,1,2,3,4,5],[0,1,2,3,4,5,6],[],[8],[8,9],[8,9,10],[0,1,2,3,4,5,6,7,8,9,10,11],[0,1,2,3,4,5,6,7,8,9,10,11,12],[0,1,2,3,4,5,6,7,8,9,10,11,12,13],[],[15],[15,16],[15,16,17],[],[19],[19,20],[19,20,21],[],[0,1,2,3,4,5,6,7,8,9,10,11,12,13,14,15,16,17,18,19,20,21,22,23],[0,1,2,3,4,5,6,7,8,9,10,11,12,13,14,15,16,17,18,19,20,21,22,23,24],[0,1,2,3,4,5,6,7,8,9,10,11,12,13,14,15,16,17,18,19,20,21,22,23,24,25]] (.calm 0 (.calm 1 (.calm 2 (.calm 3 (.calm 4 (.calm 5 (.calm 6 (.calm 8 (.calm 9 (.calm 10 (.calm 11 (.calm 15 (.calm 16 (.calm 17 (.calm 18 (.calm 19 (.calm 20 (.calm 21 (.calm 22 (.effs 7 [11,18,22] (.effs 12 [18,22] (.calm 13 (.effs 14 [18,22] (.eff1 23 [3,6,11,18,22] (.calm 24 (.eff1 25 [] (.calm 26 .done)))) (.effs 23 [3,6,11,18,22] (.eff1 14 [18,22] (.calm 24 (.eff1 25 [] (.calm 26 .done)))) .none))) (.effs 23 [3,6,11,18,22] (.eff1 12 [18,22] (.calm 13 (.eff1 14 [18,22] (.calm 24 (.eff1 25 [] (.calm 26 .done)))))) .none)) (.effs 23 [3,6,11,18,22] (.eff1 7 [11,18,22] (.eff1 12 [18,22] (.calm 13 (.eff1 14 [18,22] (.calm 24 (.eff1 25 [] (.calm 26 .done))))))) .none)))))))))))))))))))))) .leaf)))
theorem S.space_Space_Fork.eq (a0 : Value) (w : World) (R : Value → World → Prop) : S.space_Space_Fork a0 w R = fnC PP 31 (Tryz.f38.body.getD .skip) S.space_Space_Fork.an [.tmp 2] [a0] w R := by kernel_rfl
theorem S.space_Space_Fork.calls {a0 : Value} {w : World} {R : Value → World → Prop} (h : S.space_Space_Fork a0 w R) : Ca PP Fn.space_Space_Fork #[a0] w R :=
  fnC_calls mixed (f := Fn.space_Space_Fork) (an := S.space_Space_Fork.an) Tryz.func38 rfl (by show _ ≤ _; exact Nat.le_of_ble_eq_true rfl) (S.space_Space_Fork.eq a0 w R ▸ h)
/-- acheron/acheronlaw29.Same -/
def S.law29_Same (a0 a1 : Value) (w : World) (R : Value → World → Prop) : Prop :=
 Al Ty.law29_Result (a0 : Value).cells w fun t1 w2 =>
 Al Ty.law29_Result (a1 : Value).cells w2 fun t3 w4 =>
 ∀ J5 : List Value → World → Prop, (∀ t8, ∀ w7 : World, (∀ u6 : Env,
 R t8 w7) → J5 [t8] w7) →
 Fa 0 t1 fun t9 =>
 Ld t9 w4 fun t10 =>
 Fa 0 t3 fun t11 =>
 Ld t11 w4 fun t12 =>
 Bi .eql t10 t12 fun t13 =>
 Gd t13 true (fun k14 => Fa 1 t1 fun t17 =>
 k14 t17 w4) w4 fun t15 w16 =>
 Gd t13 true (fun k18 => Ld t15 w16 fun t21 =>
 k18 t21 w16) w16 fun t19 w20 =>
 Gd t13 true (fun k22 => Fa 1 t3 fun t25 =>
 k22 t25 w20) w20 fun t23 w24 =>
 Gd t13 true (fun k26 => Ld t23 w24 fun t29 =>
 k26 t29 w24) w24 fun t27 w28 =>
 Gd t13 true (fun k30 => Bi .eql t19 t27 fun t33 =>
 k30 t33 w28) w28 fun t31 w32 =>
 Pk t13 t31 (.bool false) fun t34 =>
 Gd t34 true (fun k35 => Fa 4 t1 fun t38 =>
 k35 t38 w32) w32 fun t36 w37 =>
 Gd t34 true (fun k39 => Ld t36 w37 fun t42 =>
 k39 t42 w37) w37 fun t40 w41 =>
 Gd t34 true (fun k43 => Fa 4 t3 fun t46 =>
 k43 t46 w41) w41 fun t44 w45 =>
 Gd t34 true (fun k47 => Ld t44 w45 fun t50 =>
 k47 t50 w45) w45 fun t48 w49 =>
 Gd t34 true (fun k51 => Bi .eql t40 t48 fun t54 =>
 k51 t54 w49) w49 fun t52 w53 =>
 Pk t34 t52 (.bool false) fun t55 =>
 Gd t55 true (fun k56 => Fa 2 t1 fun t59 =>
 k56 t59 w53) w53 fun t57 w58 =>
 Gd t55 true (fun k60 => Ld t57 w58 fun t63 =>
 k60 t63 w58) w58 fun t61 w62 =>
 Gd t55 true (fun k64 => Fa 2 t3 fun t67 =>
 k64 t67 w62) w62 fun t65 w66 =>
 Gd t55 true (fun k68 => Ld t65 w66 fun t71 =>
 k68 t71 w66) w66 fun t69 w70 =>
 Gd t55 true (fun k72 => Ca PP Fn.slices_Equal_sl_api_Dir_api_Dir #[t61, t69] w70 fun t75 w76 =>
 k72 t75 w76) w70 fun t73 w74 =>
 Pk t55 t73 (.bool false) fun t77 =>
 Gd t77 true (fun k78 => Fa 3 t1 fun t81 =>
 k78 t81 w74) w74 fun t79 w80 =>
 Gd t77 true (fun k82 => Ld t79 w80 fun t85 =>
 k82 t85 w80) w80 fun t83 w84 =>
 Gd t77 true (fun k86 => Fa 3 t3 fun t89 =>
 k86 t89 w84) w84 fun t87 w88 =>
 Gd t77 true (fun k90 => Ld t87 w88 fun t93 =>
 k90 t93 w88) w88 fun t91 w92 =>
 Gd t77 true (fun k94 => Ca PP Fn.slices_Equal_sl_space_Place_space_Place #[t83, t91] w92 fun t97 w98 =>
 k94 t97 w98) w92 fun t95 w96 =>
 Pk t77 t95 (.bool false) fun t99 =>
 J5 [t99] w96
def S.law29_Same.an : Ann := (.seq .leaf (.join .leaf [4] [5,6,7,8,9,10,11,12,13,14,15,16,17,18,19,20,21,22,23,24,25,26,27,28,29,30,31,32,33,34,35,36,37] .leaf))
theorem S.law29_Same.eq (a0 a1 : Value) (w : World) (R : Value → World → Prop) : S.law29_Same a0 a1 w R = fnC PP 38 (Tryz.f39.body.getD .skip) S.law29_Same.an [.tmp 4] [a0, a1] w R := by kernel_rfl
theorem S.law29_Same.calls {a0 a1 : Value} {w : World} {R : Value → World → Prop} (h : S.law29_Same a0 a1 w R) : Ca PP Fn.law29_Same #[a0, a1] w R :=
  fnC_calls mixed (f := Fn.law29_Same) (an := S.law29_Same.an) Tryz.func39 rfl (by show _ ≤ _; exact Nat.le_of_ble_eq_true rfl) (S.law29_Same.eq a0 a1 w R ▸ h)
/-- (*acheron/space.Space).Share -/
def S.space_Space_Share (a0 : Value) (w : World) (R : Value → World → Prop) : Prop :=
 Rd PP (eqS .eql Ty.p_space_Space (.tmp 3) (.const (.pointer none)) a0 (.pointer none)) w fun t1 =>
 Cnd t1 (
 R (.pointer none) w) (
 Dr w fun w2 =>
 Nc a0 fun t3 =>
 Fa 0 t3 fun t4 =>
 Ld t4 w2 fun t5 =>
 Nc a0 fun t6 =>
 Fa 1 t6 fun t7 =>
 Ld t7 w2 fun t8 =>
 Nc a0 fun t9 =>
 Fa 2 t9 fun t10 =>
 Ld t10 w2 fun t11 =>
 MkM w2 fun t12 w13 =>
 (Ld t4 w13 fun t14 =>
 t14 = t5) ∧
 (Ld t7 w13 fun t15 =>
 t15 = t8) ∧
 (Ld t10 w13 fun t16 =>
 t16 = t11) ∧
 Bd #[.pointer none, .string ⟨#[]⟩, .string ⟨#[]⟩, .map none] [(0, 1), (1, 1), (2, 1), (3, 1)] [(0, t5), (1, t8), (2, t11), (3, t12)] fun t17 =>
 Al Ty.space_Space (t17 : Value).cells w13 fun t18 w19 =>
 R t18 w19)
def S.space_Space_Share.an : Ann := (.seq .leaf (.seq (.seq .leaf (.cond (.seq .leaf .leaf) .leaf)) (.seq (.draw [[],[0],[0,1],[0,1,2],[],[4],[4,5],[4,5,6],[],[8],[8,9],[8,9,10],[],[0,1,2,3,4,5,6,7,8,9,10,11,12],[0,1,2,3,4,5,6,7,8,9,10,11,12,13],[0,1,2,3,4,5,6,7,8,9,10,11,12,13,14]] (.calm 0 (.calm 1 (.calm 2 (.calm 3 (.calm 4 (.calm 5 (.calm 6 (.calm 7 (.calm 8 (.calm 9 (.calm 10 (.calm 11 (.eff1 12 [3,7,11] (.calm 13 (.eff1 14 [] (.calm 15 .done))))))))))))))))) .leaf)))
theorem S.space_Space_Share.eq (a0 : Value) (w : World) (R : Value → World → Prop) : S.space_Space_Share a0 w R = fnC PP 20 (Tryz.f40.body.getD .skip) S.space_Space_Share.an [.tmp 2] [a0] w R := by kernel_rfl
theorem S.space_Space_Share.calls {a0 : Value} {w : World} {R : Value → World → Prop} (h : S.space_Space_Share a0 w R) : Ca PP Fn.space_Space_Share #[a0] w R :=
  fnC_calls mixed (f := Fn.space_Space_Share) (an := S.space_Space_Share.an) Tryz.func40 rfl (by show _ ≤ _; exact Nat.le_of_ble_eq_true rfl) (S.space_Space_Share.eq a0 w R ▸ h)
/-- (*acheron/space.Space).Files -/
def S.space_Space_Files (a0 : Value) (w : World) (R : Value → World → Prop) : Prop :=
 Rd PP (eqS .eql Ty.p_space_Space (.tmp 3) (.const (.pointer none)) a0 (.pointer none)) w fun t1 =>
 Cnd t1 (
 R (.slice none 0 0) w) (
 Nc a0 fun t2 =>
 Fa 3 t2 fun t3 =>
 Ld t3 w fun t4 =>
 Ca PP Fn.maps_Keys_map_int_sl_space_handle_int_sl_space_handle #[t4] w fun t5 w6 =>
 Ca PP Fn.slices_Sorted_int #[t5] w6 fun t7 w8 =>
 R t7 w8)
def S.space_Space_Files.an : Ann := (.seq .leaf (.seq (.seq .leaf (.cond (.seq .leaf .leaf) .leaf)) (.seq .leaf .leaf)))
theorem S.space_Space_Files.eq (a0 : Value) (w : World) (R : Value → World → Prop) : S.space_Space_Files a0 w R = fnC PP 11 (Tryz.f41.body.getD .skip) S.space_Space_Files.an [.tmp 2] [a0] w R := by kernel_rfl
theorem S.space_Space_Files.calls {a0 : Value} {w : World} {R : Value → World → Prop} (h : S.space_Space_Files a0 w R) : Ca PP Fn.space_Space_Files #[a0] w R :=
  fnC_calls mixed (f := Fn.space_Space_Files) (an := S.space_Space_Files.an) Tryz.func41 rfl (by show _ ≤ _; exact Nat.le_of_ble_eq_true rfl) (S.space_Space_Files.eq a0 w R ▸ h)
/-- acheron/space.New -/
def S.space_New (a0 a1 : Value) (w : World) (R : Value → World → Prop) : Prop :=
 Rd PP (eqS .eql Ty.api_Tree (.tmp 6) (.const .nilIface) a1 .nilIface) w fun t1 =>
 Cnd t1 (
 R (.tuple #[(.pointer none), (.int .i64 1)]) w) (
 Ef PP (Instr.buildSlice Ty.sl_api_Tree 1 #[(0, a1)]) w fun t2 w3 =>
 Bd #[.slice none 0 0, .slice none 0 0] [(0, 1), (1, 1)] [(0, t2)] fun t4 =>
 Al Ty.space_table (t4 : Value).cells w3 fun t5 w6 =>
 MkM w6 fun t7 w8 =>
 Bd #[.pointer none, .string ⟨#[]⟩, .string ⟨#[]⟩, .map none] [(0, 1), (1, 1), (2, 1), (3, 1)] [(0, t5), (1, a0), (2, (.string ⟨#[47]⟩)), (3, t7)] fun t9 =>
 Al Ty.space_Space (t9 : Value).cells w8 fun t10 w11 =>
 R (.tuple #[t10, (.int .i64 0)]) w11)
def S.space_New.an : Ann := (.seq .leaf (.seq (.seq .leaf (.cond (.seq .leaf .leaf) .leaf)) (.seq .leaf .leaf)))
theorem S.space_New.eq (a0 a1 : Value) (w : World) (R : Value → World → Prop) : S.space_New a0 a1 w R = fnC PP 16 (Tryz.f42.body.getD .skip) S.space_New.an [.tmp 4, .tmp 5] [a0, a1] w R := by kernel_rfl
theorem S.space_New.calls {a0 a1 : Value} {w : World} {R : Value → World → Prop} (h : S.space_New a0 a1 w R) : Ca PP Fn.space_New #[a0, a1] w R :=
  fnC_calls mixed (f := Fn.space_New) (an := S.space_New.an) Tryz.func42 rfl (by show _ ≤ _; exact Nat.le_of_ble_eq_true rfl) (S.space_New.eq a0 a1 w R ▸ h)
/-- acheron/acheronlaw29.sample -/
def S.law29_sample (w : World) (R : Value → World → Prop) : Prop :=
 Al Ty.law29_Setting #[.string ⟨#[]⟩, .slice none 0 0] w fun t1 w2 =>
 Bd #[.string ⟨#[]⟩, .bool false, .string ⟨#[]⟩] [(0, 1), (1, 1), (2, 1)] [(0, (.string ⟨#[97]⟩)), (1, (.bool true))] fun t3 =>
 Bd #[.string ⟨#[]⟩, .bool false, .string ⟨#[]⟩] [(0, 1), (1, 1), (2, 1)] [(0, (.string ⟨#[97, 47, 102]⟩)), (2, (.string ⟨#[49]⟩))] fun t4 =>
 Bd #[.string ⟨#[]⟩, .bool false, .string ⟨#[]⟩] [(0, 1), (1, 1), (2, 1)] [(0, (.string ⟨#[98]⟩)), (1, (.bool true))] fun t5 =>
 Bd #[.string ⟨#[]⟩, .bool false, .string ⟨#[]⟩] [(0, 1), (1, 1), (2, 1)] [(0, (.string ⟨#[98, 47, 102]⟩)), (2, (.string ⟨#[50]⟩))] fun t6 =>
 Bd #[.string ⟨#[]⟩, .bool false, .string ⟨#[]⟩] [(0, 1), (1, 1), (2, 1)] [(0, (.string ⟨#[98, 47, 103]⟩)), (2, (.string ⟨#[51]⟩))] fun t7 =>
 Ef PP (Instr.buildSlice Ty.sl_law29_Plant 5 #[(0, t3), (1, t4), (2, t5), (3, t6), (4, t7)]) w2 fun t8 w9 =>
 Ef PP (Instr.buildSlice Ty.sl_sl_law29_Plant 1 #[(0, t8)]) w9 fun t10 w11 =>
 Bd #[.string ⟨#[]⟩, .slice none 0 0] [(0, 1), (1, 1)] [(0, (.string ⟨#[97, 110, 110]⟩)), (1, t10)] fun t12 =>
 St PP 2 t1 t12 w11 fun w13 =>
 LdA PP 2 t1 w13 fun t14 =>
 R t14 w13
def S.law29_sample.an : Ann := (.seq .leaf (.seq .leaf .leaf))
theorem S.law29_sample.eq (w : World) (R : Value → World → Prop) : S.law29_sample  w R = fnC PP 9 (Tryz.f43.body.getD .skip) S.law29_sample.an [.cell 0 24] [] w R := by kernel_rfl
theorem S.law29_sample.calls {w : World} {R : Value → World → Prop} (h : S.law29_sample w R) : Ca PP Fn.law29_sample #[] w R :=
  fnC_calls mixed (f := Fn.law29_sample) (an := S.law29_sample.an) Tryz.func43 rfl (by show _ ≤ _; exact Nat.le_of_ble_eq_true rfl) (S.law29_sample.eq w R ▸ h)
/-- (*acheron/space.Space).Read -/
def S.space_Space_Read (a0 a1 a2 a3 : Value) (w : World) (R : Value → World → Prop) : Prop :=
 Ca PP Fn.space_Space_single #[a0, a1] w fun t1 w2 =>
 Ex t1 0 fun t3 =>
 Ex t1 1 fun t4 =>
 Al Ty.space_handle #[.nilIface, .int .i64 0] w2 fun t5 w6 =>
 St PP 2 t5 t3 w6 fun w7 =>
 Bi .neq t4 (.int .i64 0) fun t8 =>
 Cnd t8 (
 R (.tuple #[(.string ⟨#[]⟩), t4]) w7) (
 Fa 0 t5 fun t9 =>
 Ld t9 w7 fun t10 =>
 Fa 1 t5 fun t11 =>
 Ld t11 w7 fun t12 =>
 Iv PP t10 "Read" #[t12, a2, a3] w7 fun t13 w14 =>
 Ex t13 0 fun t15 =>
 Ex t13 1 fun t16 =>
 R (.tuple #[t15, t16]) w14)
def S.space_Space_Read.an : Ann := (.seq .leaf (.seq .leaf (.seq (.seq .leaf (.cond (.seq .leaf .leaf) .leaf)) (.seq .leaf .leaf))))
theorem S.space_Space_Read.eq (a0 a1 a2 a3 : Value) (w : World) (R : Value → World → Prop) : S.space_Space_Read a0 a1 a2 a3 w R = fnC PP 30 (Tryz.f44.body.getD .skip) S.space_Space_Read.an [.tmp 8, .tmp 9] [a0, a1, a2, a3] w R := by kernel_rfl
theorem S.space_Space_Read.calls {a0 a1 a2 a3 : Value} {w : World} {R : Value → World → Prop} (h : S.space_Space_Read a0 a1 a2 a3 w R) : Ca PP Fn.space_Space_Read #[a0, a1, a2, a3] w R :=
  fnC_calls mixed (f := Fn.space_Space_Read) (an := S.space_Space_Read.an) Tryz.func44 rfl (by show _ ≤ _; exact Nat.le_of_ble_eq_true rfl) (S.space_Space_Read.eq a0 a1 a2 a3 w R ▸ h)
/-- slices.ContainsFunc[[]acheron/acheronlaw29.Act,acheron/acheronlaw29.Act] -/
def S.slices_ContainsFunc_sl_law29_Act_law29_Act (a0 a1 : Value) (w : World) (R : Value → World → Prop) : Prop :=
 Ca PP Fn.slices_IndexFunc_sl_law29_Act_law29_Act #[a0, a1] w fun t1 w2 =>
 Bi .geq t1 (.int .i64 0) fun t3 =>
 R t3 w2
def S.slices_ContainsFunc_sl_law29_Act_law29_Act.an : Ann := (.seq .leaf (.seq .leaf .leaf))
theorem S.slices_ContainsFunc_sl_law29_Act_law29_Act.eq (a0 a1 : Value) (w : World) (R : Value → World → Prop) : S.slices_ContainsFunc_sl_law29_Act_law29_Act a0 a1 w R = fnC PP 9 (Tryz.f47.body.getD .skip) S.slices_ContainsFunc_sl_law29_Act_law29_Act.an [.tmp 4] [a0, a1] w R := by kernel_rfl
theorem S.slices_ContainsFunc_sl_law29_Act_law29_Act.calls {a0 a1 : Value} {w : World} {R : Value → World → Prop} (h : S.slices_ContainsFunc_sl_law29_Act_law29_Act a0 a1 w R) : Ca PP Fn.slices_ContainsFunc_sl_law29_Act_law29_Act #[a0, a1] w R :=
  fnC_calls mixed (f := Fn.slices_ContainsFunc_sl_law29_Act_law29_Act) (an := S.slices_ContainsFunc_sl_law29_Act_law29_Act.an) Tryz.func47 rfl (by show _ ≤ _; exact Nat.le_of_ble_eq_true rfl) (S.slices_ContainsFunc_sl_law29_Act_law29_Act.eq a0 a1 w R ▸ h)
/-- acheron/acheronlaw29.Few$1 -/
def S.law29_Few_1 (a0 : Value) (w : World) (R : Value → World → Prop) : Prop :=
 Al Ty.law29_Act (a0 : Value).cells w fun t1 w2 =>
 ∀ J3 : List Value → World → Prop, (∀ t6, ∀ w5 : World, (∀ u4 : Env,
 R t6 w5) → J3 [t6] w5) →
 Fa 3 t1 fun t7 =>
 Ld t7 w2 fun t8 =>
 LnS t8 fun t9 =>
 Fa 4 t1 fun t10 =>
 Ld t10 w2 fun t11 =>
 LnS t11 fun t12 =>
 Bi .add t9 t12 fun t13 =>
 Fa 5 t1 fun t14 =>
 Ld t14 w2 fun t15 =>
 LnS t15 fun t16 =>
 Bi .add t13 t16 fun t17 =>
 Fa 8 t1 fun t18 =>
 Fa 6 t18 fun t19 =>
 Ld t19 w2 fun t20 =>
 LnS t20 fun t21 =>
 Bi .add t17 t21 fun t22 =>
 Fa 8 t1 fun t23 =>
 Fa 8 t23 fun t24 =>
 Ld t24 w2 fun t25 =>
 LnS t25 fun t26 =>
 Bi .add t22 t26 fun t27 =>
 Fa 8 t1 fun t28 =>
 Fa 7 t28 fun t29 =>
 Ld t29 w2 fun t30 =>
 LnS t30 fun t31 =>
 Bi .add t27 t31 fun t32 =>
 Fa 8 t1 fun t33 =>
 Fa 9 t33 fun t34 =>
 Ld t34 w2 fun t35 =>
 LnS t35 fun t36 =>
 Bi .add t32 t36 fun t37 =>
 Bi .gtr t37 (.int .i64 700) fun t38 =>
 Gd t38 false (fun k39 => Fa 7 t1 fun t42 =>
 k39 t42 w2) w2 fun t40 w41 =>
 Gd t38 false (fun k43 => Ld t40 w41 fun t46 =>
 k43 t46 w41) w41 fun t44 w45 =>
 Gd t38 false (fun k47 => Bi .gtr t44 (.int .i64 3000) fun t50 =>
 k47 t50 w45) w45 fun t48 w49 =>
 Gd t38 false (fun k51 => k51 t48 w49) w49 fun t52 w53 =>
 Gd t52 true (fun k54 => Fa 7 t1 fun t57 =>
 k54 t57 w53) w53 fun t55 w56 =>
 Gd t52 true (fun k58 => Ld t55 w56 fun t61 =>
 k58 t61 w56) w56 fun t59 w60 =>
 Gd t52 true (fun k62 => Bi .leq t59 (.int .i64 1048576) fun t65 =>
 k62 t65 w60) w60 fun t63 w64 =>
 Gd t38 false (fun k66 => Pk t52 t63 (.bool false) fun t69 =>
 k66 t69 w64) w64 fun t67 w68 =>
 Pk t38 (.bool true) t67 fun t70 =>
 Gd t70 false (fun k71 => Fa 8 t1 fun t74 =>
 k71 t74 w68) w68 fun t72 w73 =>
 Gd t70 false (fun k75 => Fa 5 t72 fun t78 =>
 k75 t78 w73) w73 fun t76 w77 =>
 Gd t70 false (fun k79 => Ld t76 w77 fun t82 =>
 k79 t82 w77) w77 fun t80 w81 =>
 Gd t70 false (fun k83 => Bi .gtr t80 (.int .i64 3000) fun t86 =>
 k83 t86 w81) w81 fun t84 w85 =>
 Gd t70 false (fun k87 => k87 t84 w85) w85 fun t88 w89 =>
 Gd t88 true (fun k90 => Fa 8 t1 fun t93 =>
 k90 t93 w89) w89 fun t91 w92 =>
 Gd t88 true (fun k94 => Fa 5 t91 fun t97 =>
 k94 t97 w92) w92 fun t95 w96 =>
 Gd t88 true (fun k98 => Ld t95 w96 fun t101 =>
 k98 t101 w96) w96 fun t99 w100 =>
 Gd t88 true (fun k102 => Bi .leq t99 (.int .i64 1048576) fun t105 =>
 k102 t105 w100) w100 fun t103 w104 =>
 Gd t70 false (fun k106 => Pk t88 t103 (.bool false) fun t109 =>
 k106 t109 w104) w104 fun t107 w108 =>
 Pk t70 (.bool true) t107 fun t110 =>
 J3 [t110] w108
def S.law29_Few_1.an : Ann := (.seq .leaf (.join .leaf [2] [3,4,5,6,7,8,9,10,11,12,13,14,15,16,17,18,19,20,21,22,23,24,25,26,27,28,29,30,31,32,33,34,35,36,37,38,39,40,41,42,43,44,45,46,47,48,49,50,51,52,53,54,55,56] .leaf))
theorem S.law29_Few_1.eq (a0 : Value) (w : World) (R : Value → World → Prop) : S.law29_Few_1 a0 w R = fnC PP 57 (Tryz.f48.body.getD .skip) S.law29_Few_1.an [.tmp 2] [a0] w R := by kernel_rfl
theorem S.law29_Few_1.calls {a0 : Value} {w : World} {R : Value → World → Prop} (h : S.law29_Few_1 a0 w R) : Ca PP Fn.law29_Few_1 #[a0] w R :=
  fnC_calls mixed (f := Fn.law29_Few_1) (an := S.law29_Few_1.an) Tryz.func48 rfl (by show _ ≤ _; exact Nat.le_of_ble_eq_true rfl) (S.law29_Few_1.eq a0 w R ▸ h)
end Go.Proofs.YtjffgllkfbcaeaaGreatDoor
