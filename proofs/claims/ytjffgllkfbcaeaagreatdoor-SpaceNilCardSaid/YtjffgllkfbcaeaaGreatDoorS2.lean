/- Own text. -/
import Derived.Test.YtjffgllkfbcaeaaGreatDoorSc
namespace Go.Proofs.YtjffgllkfbcaeaaGreatDoor
open Go Go.Sh
set_option linter.unusedVariables false
set_option maxRecDepth 100000
/-- (*acheron/tree.Tree).Create -/
def S.tree_Tree_Create (a0 a1 a2 a3 a4 a5 : Value) (w : World) (R : Value → World → Prop) : Prop :=
 Al Ty.api_Qid #[.int .i64 0, .int .i64 0, .int .i64 0] w fun t1 w2 =>
 Rd PP (eqS .eql Ty.p_tree_Tree (.tmp 19) (.const (.pointer none)) a0 (.pointer none)) w2 fun t3 =>
 Cnd t3 (
 Bd #[.int .i64 0, .int .i64 0, .int .i64 0] [(0, 1), (1, 1), (2, 1)] [] fun t4 =>
 St PP 3 t1 t4 w2 fun w5 =>
 LdA PP 3 t1 w5 fun t6 =>
 R (.tuple #[(.int .i64 0), t6, (.int .i64 6)]) w5) (
 ∀ J7 : List Value → World → Prop, (∀ t10, ∀ w9 : World, (∀ u8 : Env,
 Cnd t10 (
 Bd #[.int .i64 0, .int .i64 0, .int .i64 0] [(0, 1), (1, 1), (2, 1)] [] fun t11 =>
 St PP 3 t1 t11 w9 fun w12 =>
 LdA PP 3 t1 w12 fun t13 =>
 R (.tuple #[(.int .i64 0), t13, (.int .i64 20)]) w12) (
 Ca PP Fn.tree_Tree_folder #[a0, a2] w9 fun t14 w15 =>
 Ex t14 0 fun t16 =>
 Ex t14 1 fun t17 =>
 Bi .neq t17 (.int .i64 0) fun t18 =>
 Cnd t18 (
 Bd #[.int .i64 0, .int .i64 0, .int .i64 0] [(0, 1), (1, 1), (2, 1)] [] fun t19 =>
 St PP 3 t1 t19 w15 fun w20 =>
 LdA PP 3 t1 w20 fun t21 =>
 R (.tuple #[(.int .i64 0), t21, t17]) w20) (
 ∀ J22 : List Value → World → Prop, (∀ t25, ∀ w24 : World, (∀ u23 : Env,
 Cnd t25 (
 Bd #[.int .i64 0, .int .i64 0, .int .i64 0] [(0, 1), (1, 1), (2, 1)] [] fun t26 =>
 St PP 3 t1 t26 w24 fun w27 =>
 LdA PP 3 t1 w27 fun t28 =>
 R (.tuple #[(.int .i64 0), t28, (.int .i64 8)]) w27) (
 Ca PP Fn.tree_Tree_may #[a0, a1, t16, (.int .i64 2)] w24 fun t29 w30 =>
 Un .not t29 fun t31 =>
 Cnd t31 (
 Bd #[.int .i64 0, .int .i64 0, .int .i64 0] [(0, 1), (1, 1), (2, 1)] [] fun t32 =>
 St PP 3 t1 t32 w30 fun w33 =>
 LdA PP 3 t1 w33 fun t34 =>
 R (.tuple #[(.int .i64 0), t34, (.int .i64 17)]) w33) (
 Nc t16 fun t35 =>
 Fa 11 t35 fun t36 =>
 Ld t36 w30 fun t37 =>
 Rd PP (Instr.lookup Ty.map_string_p_tree_node t37 a3 false) w30 fun t38 =>
 Rd PP (eqS .neq Ty.p_tree_node (.tmp 74) (.const (.pointer none)) t38 (.pointer none)) w30 fun t39 =>
 Cnd t39 (
 Bd #[.int .i64 0, .int .i64 0, .int .i64 0] [(0, 1), (1, 1), (2, 1)] [] fun t40 =>
 St PP 3 t1 t40 w30 fun w41 =>
 LdA PP 3 t1 w41 fun t42 =>
 R (.tuple #[(.int .i64 0), t42, (.int .i64 5)]) w41) (
 ∀ J43 : List Value → World → Prop, (∀ t46, ∀ w45 : World, (∀ u44 : Env,
 Cnd t46 (
 Bd #[.int .i64 0, .int .i64 0, .int .i64 0] [(0, 1), (1, 1), (2, 1)] [] fun t47 =>
 St PP 3 t1 t47 w45 fun w48 =>
 LdA PP 3 t1 w48 fun t49 =>
 R (.tuple #[(.int .i64 0), t49, (.int .i64 3)]) w48) (
 Ef PP (Instr.buildSlice Ty.sl_p_tree_node 1 #[(0, t16)]) w45 fun t50 w51 =>
 Ca PP Fn.tree_Tree_change #[a0, a1, t50] w51 fun t52 w53 =>
 Bd #[.int .i64 0, .int .i64 0, .int .i64 0, .int .i64 0, .int .i64 0, .int .i64 0, .string ⟨#[]⟩, .string ⟨#[]⟩, .string ⟨#[]⟩, .string ⟨#[]⟩, .slice none 0 0, .map none, .pointer none, .bool false] [(0, 10), (10, 1), (11, 1), (12, 1), (13, 1)] [(3, t16)] fun t54 =>
 Al Ty.tree_node (t54 : Value).cells w53 fun t55 w56 =>
 Dr w56 fun w57 =>
 Nc a0 fun t58 =>
 Fa 3 t58 fun t59 =>
 Ld t59 w57 fun t60 =>
 Bd #[.int .i64 0, .int .i64 0, .int .i64 0] [(0, 1), (1, 1), (2, 1)] [(2, t60)] fun t61 =>
 Nc a0 fun t62 =>
 Fa 4 t62 fun t63 =>
 Ld t63 w57 fun t64 =>
 Nc t16 fun t65 =>
 Fa 0 t65 fun t66 =>
 Fa 8 t66 fun t67 =>
 Ld t67 w57 fun t68 =>
 Bd #[.int .i64 0, .int .i64 0, .int .i64 0, .int .i64 0, .int .i64 0, .int .i64 0, .string ⟨#[]⟩, .string ⟨#[]⟩, .string ⟨#[]⟩, .string ⟨#[]⟩] [(0, 3), (3, 1), (4, 1), (5, 1), (6, 1), (7, 1), (8, 1), (9, 1)] [(0, t61), (2, t64), (4, a3), (5, a1), (6, t68), (7, a1)] fun t69 =>
 Nc t55 fun t70 =>
 Fa 0 t70 fun t71 =>
 St PP 10 t71 t69 w57 fun w72 =>
 ∀ J73 : List Value → World → Prop, (∀ t76, ∀ w75 : World, (∀ u74 : Env,
 Un .xor t76 fun t77 =>
 Nc t16 fun t78 =>
 Fa 0 t78 fun t79 =>
 Fa 3 t79 fun t80 =>
 Ld t80 w75 fun t81 =>
 Bi .and t81 t76 fun t82 =>
 Bi .or t77 t82 fun t83 =>
 Bi .and a4 t83 fun t84 =>
 Ca PP Fn.tree_node_is #[t55, t84] w75 fun t85 w86 =>
 Dr w86 fun w87 =>
 Nc a0 fun t88 =>
 Fa 1 t88 fun t89 =>
 Ld t89 w87 fun t90 =>
 Nc a0 fun t91 =>
 Fa 3 t91 fun t92 =>
 Ld t92 w87 fun t93 =>
 Ef PP (Instr.mapUpdate Ty.map_int64_p_tree_node t90 t93 t55) w87 fun _ w94 =>
 Nc t16 fun t95 =>
 Fa 11 t95 fun t96 =>
 Ld t96 w94 fun t97 =>
 Ef PP (Instr.mapUpdate Ty.map_string_p_tree_node t97 a3 t55) w94 fun _ w98 =>
 Nc a0 fun t99 =>
 Fa 3 t99 fun t100 =>
 Ld t100 w98 fun t101 =>
 Bi .add t101 (.int .i64 1) fun t102 =>
 Nc a0 fun t103 =>
 Fa 3 t103 fun t104 =>
 St PP 1 t104 t102 w98 fun w105 =>
 Ca PP Fn.tree_Tree_handle #[a0, t55, a5, a1] w105 fun t106 w107 =>
 Ex t106 0 fun t108 =>
 Ex t106 1 fun t109 =>
 Ex t106 2 fun t110 =>
 St PP 3 t1 t109 w107 fun w111 =>
 LdA PP 3 t1 w111 fun t112 =>
 R (.tuple #[t108, t112, t110]) w111) → J73 [t76] w75) →
 Bi .and a4 (.int .i64 2147483648) fun t113 =>
 Bi .neq t113 (.int .i64 0) fun t114 =>
 Cnd t114 (
 MkM w72 fun t115 w116 =>
 Nc t55 fun t117 =>
 Fa 11 t117 fun t118 =>
 St PP 1 t118 t115 w116 fun w119 =>
 J73 [(.int .i64 511)] w119) (
 J73 [(.int .i64 438)] w72))) → J43 [t46] w45) →
 Nc a0 fun t120 =>
 Fa 1 t120 fun t121 =>
 Ld t121 w30 fun t122 =>
 Rd PP (Builtin.len_ #[Ty.map_int64_p_tree_node] Ty.int #[t122]) w30 fun t123 =>
 Bi .geq t123 (.int .i64 1024) fun t124 =>
 Gd t124 false (fun k125 => k125 a0 w30) w30 fun t126 w127 =>
 Gd t124 false (fun k128 => Ca PP Fn.tree_Tree_room #[t126] w127 fun t131 w132 =>
 k128 t131 w132) w127 fun t129 w130 =>
 Gd t124 false (fun k133 => Un .not t129 fun t136 =>
 k133 t136 w130) w130 fun t134 w135 =>
 Pk t124 (.bool true) t134 fun t137 =>
 J43 [t137] w135)))) → J22 [t25] w24) →
 Ca PP Fn.tree_Valid #[a3] w15 fun t138 w139 =>
 Un .not t138 fun t140 =>
 Gd t140 false (fun k141 => k141 a1 w139) w139 fun t142 w143 =>
 Gd t140 false (fun k144 => Ca PP Fn.tree_Valid #[t142] w143 fun t147 w148 =>
 k144 t147 w148) w143 fun t145 w146 =>
 Gd t140 false (fun k149 => Un .not t145 fun t152 =>
 k149 t152 w146) w146 fun t150 w151 =>
 Pk t140 (.bool true) t150 fun t153 =>
 J22 [t153] w151))) → J7 [t10] w9) →
 Bi .andNot a5 (.int .i64 83) fun t154 =>
 Bi .neq t154 (.int .i64 0) fun t155 =>
 Gd t155 false (fun k156 => k156 a4 w2) w2 fun t157 w158 =>
 Gd t155 false (fun k159 => Ca PP Fn.tree_right #[t157] w158 fun t162 w163 =>
 k159 t162 w163) w158 fun t160 w161 =>
 Gd t155 false (fun k164 => Un .not t160 fun t167 =>
 k164 t167 w161) w161 fun t165 w166 =>
 Pk t155 (.bool true) t165 fun t168 =>
 Gd t168 false (fun k169 => k169 a4 w166) w166 fun t170 w171 =>
 Gd t168 false (fun k172 => Bi .and t170 (.int .i64 2147483648) fun t175 =>
 k172 t175 w171) w171 fun t173 w174 =>
 Gd t168 false (fun k176 => Bi .neq t173 (.int .i64 0) fun t179 =>
 k176 t179 w174) w174 fun t177 w178 =>
 Gd t168 false (fun k180 => k180 t177 w178) w178 fun t181 w182 =>
 Gd t181 true (fun k183 => k183 a5 w182) w182 fun t184 w185 =>
 Gd t181 true (fun k186 => Bi .neq t184 (.int .i64 0) fun t189 =>
 k186 t189 w185) w185 fun t187 w188 =>
 Gd t168 false (fun k190 => Pk t181 t187 (.bool false) fun t193 =>
 k190 t193 w188) w188 fun t191 w192 =>
 Pk t168 (.bool true) t191 fun t194 =>
 J7 [t194] w192)
def S.tree_Tree_Create.an : Ann := (.seq .leaf (.seq (.seq .leaf (.cond (.seq .leaf .leaf) .leaf)) (.seq (.join .leaf [38] [22,23,24,25,26,27,28,29,30,31,32,33,34,35,36,37] (.cond (.seq .leaf .leaf) .leaf)) (.seq .leaf (.seq (.block (.seq .leaf (.cond (.seq .leaf .leaf) (.join .leaf [51] [52,53,54,55,56,57,58,59] (.cond (.seq .leaf .leaf) (.seq .leaf (.cond (.seq .leaf .leaf) (.seq .leaf (.cond (.seq .leaf .leaf) (.join .leaf [77] [78,79,80,81,82,83,84,85,86,87,88] (.cond (.seq .leaf .leaf) .leaf))))))))))) (.seq .leaf (.seq .leaf (.seq (.draw [[],[],[1],[1,2],[1,2,3],[1,2,3,4],[],[6],[6,7],[6,7,8],[],[],[],[12],[12,13],[12,13,14],[12,13,14,15],[],[1,2,3,4,5,6,7,8,9,10,11,12,13,14,15,16,17],[0,1,2,3,4,5,6,7,8,9,10,11,12,13,14,15,16,17,18],[0,1,2,3,4,5,6,7,8,9,10,11,12,13,14,15,16,17,18,19],[0,1,2,3,4,5,6,7,8,9,10,11,12,13,14,15,16,17,18,19,20]] (.calm 0 (.calm 1 (.calm 2 (.calm 3 (.calm 4 (.calm 5 (.calm 6 (.calm 7 (.calm 8 (.calm 9 (.calm 10 (.calm 11 (.calm 12 (.calm 13 (.calm 14 (.calm 15 (.calm 16 (.calm 17 (.calm 18 (.calm 19 (.calm 20 (.eff1 21 [] .done))))))))))))))))))))))) (.seq .leaf (.join (.seq .leaf (.cond .leaf .leaf)) [18] [119,120,121,122,123,124,125] (.seq .leaf (.seq (.draw [[],[0],[0,1],[0,1,2],[],[4],[4,5],[4,5,6],[],[0,1,2,3,4,5,6,7,8]] (.calm 0 (.calm 1 (.calm 2 (.calm 3 (.calm 4 (.calm 5 (.calm 6 (.calm 7 (.calm 8 (.eff1 9 [] .done))))))))))) (.seq .leaf (.seq .leaf (.seq .leaf .leaf)))))))))))))))
theorem S.tree_Tree_Create.eq (a0 a1 a2 a3 a4 a5 : Value) (w : World) (R : Value → World → Prop) : S.tree_Tree_Create a0 a1 a2 a3 a4 a5 w R = fnC PP 170 (Tryz.f102.body.getD .skip) S.tree_Tree_Create.an [.tmp 12, .cell 13 37, .tmp 14] [a0, a1, a2, a3, a4, a5] w R := by kernel_rfl
theorem S.tree_Tree_Create.calls {a0 a1 a2 a3 a4 a5 : Value} {w : World} {R : Value → World → Prop} (h : S.tree_Tree_Create a0 a1 a2 a3 a4 a5 w R) : Ca PP Fn.tree_Tree_Create #[a0, a1, a2, a3, a4, a5] w R :=
  fnC_calls mixed (f := Fn.tree_Tree_Create) (an := S.tree_Tree_Create.an) Tryz.func102 rfl (by show _ ≤ _; exact Nat.le_of_ble_eq_true rfl) (S.tree_Tree_Create.eq a0 a1 a2 a3 a4 a5 w R ▸ h)
/-- (*acheron/tree.Tree).Write -/
def S.tree_Tree_Write (a0 a1 a2 a3 : Value) (w : World) (R : Value → World → Prop) : Prop :=
 Ca PP Fn.tree_Tree_opened #[a0, a1] w fun t1 w2 =>
 Ex t1 0 fun t3 =>
 Ex t1 1 fun t4 =>
 Al Ty.tree_handle #[.pointer none, .int .i64 0, .string ⟨#[]⟩] w2 fun t5 w6 =>
 St PP 3 t5 t3 w6 fun w7 =>
 Bi .neq t4 (.int .i64 0) fun t8 =>
 Cnd t8 (
 R (.tuple #[(.int .i64 0), t4]) w7) (
 ∀ J9 : List Value → World → Prop, (∀ t12, ∀ w11 : World, (∀ u10 : Env,
 Cnd t12 (
 R (.tuple #[(.int .i64 0), (.int .i64 20)]) w11) (
 Fa 0 t5 fun t13 =>
 Ld t13 w11 fun t14 =>
 Nc t14 fun t15 =>
 Fa 13 t15 fun t16 =>
 Ld t16 w11 fun t17 =>
 Cnd t17 (
 R (.tuple #[(.int .i64 0), (.int .i64 4)]) w11) (
 Bi .lss a2 (.int .i64 0) fun t18 =>
 Cnd t18 (
 R (.tuple #[(.int .i64 0), (.int .i64 11)]) w11) (
 Bi .eql a3 (.string ⟨#[]⟩) fun t19 =>
 Cnd t19 (
 R (.tuple #[(.int .i64 0), (.int .i64 0)]) w11) (
 ∀ J20 : List Value → World → Prop, (∀ t23, ∀ w22 : World, (∀ u21 : Env,
 ∀ J24 : List Value → World → Prop, (∀ t27, ∀ w26 : World, (∀ u25 : Env,
 Cnd t27 (
 R (.tuple #[(.int .i64 0), (.int .i64 3)]) w26) (
 Dr w26 fun w28 =>
 Fa 0 t5 fun t29 =>
 Ld t29 w28 fun t30 =>
 Fa 0 t5 fun t31 =>
 Ld t31 w28 fun t32 =>
 Nc t32 fun t33 =>
 Fa 10 t33 fun t34 =>
 Ld t34 w28 fun t35 =>
 LnL t35 fun t36 =>
 LnS a3 fun t37 =>
 Bi .add t23 t37 fun t38 =>
 Mx t36 t38 fun t39 =>
 Ca PP Fn.tree_node_resize #[t30, t39] w28 fun t40 w41 =>
 Fa 0 t5 fun t42 =>
 Ld t42 w41 fun t43 =>
 Nc t43 fun t44 =>
 Fa 10 t44 fun t45 =>
 Ld t45 w41 fun t46 =>
 Sl 1 t46 (some t23) none fun t47 =>
 Ef PP (Builtin.copy_ #[Ty.sl_uint8, Ty.string] Ty.int #[t47, a3]) w41 fun t48 w49 =>
 Fa 2 t5 fun t50 =>
 Ld t50 w49 fun t51 =>
 Fa 0 t5 fun t52 =>
 Ld t52 w49 fun t53 =>
 Ef PP (Instr.buildSlice Ty.sl_p_tree_node 1 #[(0, t53)]) w49 fun t54 w55 =>
 Ca PP Fn.tree_Tree_change #[a0, t51, t54] w55 fun t56 w57 =>
 LnS a3 fun t58 =>
 R (.tuple #[t58, (.int .i64 0)]) w57)) → J24 [t27] w26) →
 LnS a3 fun t59 =>
 Bi .gtr t59 (.int .i64 1048576) fun t60 =>
 Gd t60 false (fun k61 => k61 t23 w22) w22 fun t62 w63 =>
 Gd t60 false (fun k64 => k64 a3 w63) w63 fun t65 w66 =>
 Gd t60 false (fun k67 => LnS t65 fun t70 =>
 k67 t70 w66) w66 fun t68 w69 =>
 Gd t60 false (fun k71 => Bi .sub (.int .i64 1048576) t68 fun t74 =>
 k71 t74 w69) w69 fun t72 w73 =>
 Gd t60 false (fun k75 => Bi .gtr t62 t72 fun t78 =>
 k75 t78 w73) w73 fun t76 w77 =>
 Pk t60 (.bool true) t76 fun t79 =>
 J24 [t79] w77) → J20 [t23] w22) →
 Fa 0 t5 fun t80 =>
 Ld t80 w11 fun t81 =>
 Nc t81 fun t82 =>
 Fa 0 t82 fun t83 =>
 Fa 3 t83 fun t84 =>
 Ld t84 w11 fun t85 =>
 Bi .and t85 (.int .i64 1073741824) fun t86 =>
 Bi .neq t86 (.int .i64 0) fun t87 =>
 Cnd t87 (
 Fa 0 t5 fun t88 =>
 Ld t88 w11 fun t89 =>
 Nc t89 fun t90 =>
 Fa 10 t90 fun t91 =>
 Ld t91 w11 fun t92 =>
 LnL t92 fun t93 =>
 J20 [t93] w11) (
 J20 [a2] w11)))))) → J9 [t12] w11) →
 Fa 1 t5 fun t94 =>
 Ld t94 w7 fun t95 =>
 Bi .and t95 (.int .i64 3) fun t96 =>
 Bi .neq t96 (.int .i64 1) fun t97 =>
 Gd t97 true (fun k98 => Fa 1 t5 fun t101 =>
 k98 t101 w7) w7 fun t99 w100 =>
 Gd t97 true (fun k102 => Ld t99 w100 fun t105 =>
 k102 t105 w100) w100 fun t103 w104 =>
 Gd t97 true (fun k106 => Bi .and t103 (.int .i64 3) fun t109 =>
 k106 t109 w104) w104 fun t107 w108 =>
 Gd t97 true (fun k110 => Bi .neq t107 (.int .i64 2) fun t113 =>
 k110 t113 w108) w108 fun t111 w112 =>
 Pk t97 t111 (.bool false) fun t114 =>
 J9 [t114] w112)
def S.tree_Tree_Write.an : Ann := (.seq .leaf (.seq .leaf (.seq (.block (.seq .leaf (.cond (.seq .leaf .leaf) (.join .leaf [22] [23,24,25,26,27,28,29,30,31,32] (.cond (.seq .leaf .leaf) (.seq .leaf (.cond (.seq .leaf .leaf) (.seq .leaf (.cond (.seq .leaf .leaf) (.seq .leaf (.cond (.seq .leaf .leaf) .leaf))))))))))) (.join (.seq .leaf (.cond .leaf .leaf)) [2] [45,46,47,48,49,50,51,52,53,54,55,56,57,58] (.seq (.join .leaf [68] [59,60,61,62,63,64,65,66,67] (.cond (.seq .leaf .leaf) .leaf)) (.seq (.draw [[],[0],[],[2],[2,3],[2,3,4],[2,3,4,5],[2,3,4,5,6],[],[],[9],[8,9,10],[2,3,4,5,6,7,8,9,10,11],[0,1,2,3,4,5,6,7,8,9,10,11,12]] (.calm 0 (.calm 1 (.calm 2 (.calm 3 (.calm 4 (.calm 5 (.calm 6 (.calm 7 (.calm 8 (.calm 9 (.calm 10 (.calm 11 (.calm 12 (.eff1 13 [] .done))))))))))))))) (.seq .leaf (.seq .leaf (.seq .leaf .leaf)))))))))
theorem S.tree_Tree_Write.eq (a0 a1 a2 a3 : Value) (w : World) (R : Value → World → Prop) : S.tree_Tree_Write a0 a1 a2 a3 w R = fnC PP 101 (Tryz.f103.body.getD .skip) S.tree_Tree_Write.an [.tmp 8, .tmp 9] [a0, a1, a2, a3] w R := by kernel_rfl
theorem S.tree_Tree_Write.calls {a0 a1 a2 a3 : Value} {w : World} {R : Value → World → Prop} (h : S.tree_Tree_Write a0 a1 a2 a3 w R) : Ca PP Fn.tree_Tree_Write #[a0, a1, a2, a3] w R :=
  fnC_calls mixed (f := Fn.tree_Tree_Write) (an := S.tree_Tree_Write.an) Tryz.func103 rfl (by show _ ≤ _; exact Nat.le_of_ble_eq_true rfl) (S.tree_Tree_Write.eq a0 a1 a2 a3 w R ▸ h)
/-- (*acheron/tree.Tree).Close -/
def S.tree_Tree_Close (a0 a1 : Value) (w : World) (R : Value → World → Prop) : Prop :=
 Ca PP Fn.tree_Tree_opened #[a0, a1] w fun t1 w2 =>
 Ex t1 0 fun t3 =>
 Ex t1 1 fun t4 =>
 Al Ty.tree_handle #[.pointer none, .int .i64 0, .string ⟨#[]⟩] w2 fun t5 w6 =>
 St PP 3 t5 t3 w6 fun w7 =>
 Bi .neq t4 (.int .i64 0) fun t8 =>
 Cnd t8 (
 R t4 w7) (
 Nc a0 fun t9 =>
 Fa 5 t9 fun t10 =>
 Ld t10 w7 fun t11 =>
 Ef PP (Builtin.delete_ #[Ty.map_int_tree_handle, Ty.int] Ty.t #[t11, a1]) w7 fun x_12 w13 =>
 ∀ J14 : List Value → World → Prop, (∀ w16 : World, (∀ u15 : Env,
 R (.int .i64 0) w16) → J14 [] w16) →
 ∀ J17 : List Value → World → Prop, (∀ t20, ∀ w19 : World, (∀ u18 : Env,
 Cnd t20 (
 Fa 2 t5 fun t21 =>
 Ld t21 w19 fun t22 =>
 Fa 0 t5 fun t23 =>
 Ld t23 w19 fun t24 =>
 Ca PP Fn.tree_Tree_remove #[a0, t22, t24] w19 fun t25 w26 =>
 J14 [] w26) (
 J14 [] w19)) → J17 [t20] w19) →
 Fa 1 t5 fun t27 =>
 Ld t27 w13 fun t28 =>
 Bi .and t28 (.int .i64 64) fun t29 =>
 Bi .neq t29 (.int .i64 0) fun t30 =>
 Gd t30 true (fun k31 => Fa 0 t5 fun t34 =>
 k31 t34 w13) w13 fun t32 w33 =>
 Gd t30 true (fun k35 => Ld t32 w33 fun t38 =>
 k35 t38 w33) w33 fun t36 w37 =>
 Gd t30 true (fun k39 => Nc t36 fun t42 =>
 k39 t42 w37) w37 fun t40 w41 =>
 Gd t30 true (fun k43 => Fa 13 t40 fun t46 =>
 k43 t46 w41) w41 fun t44 w45 =>
 Gd t30 true (fun k47 => Ld t44 w45 fun t50 =>
 k47 t50 w45) w45 fun t48 w49 =>
 Gd t30 true (fun k51 => Un .not t48 fun t54 =>
 k51 t54 w49) w49 fun t52 w53 =>
 Pk t30 t52 (.bool false) fun t55 =>
 J17 [t55] w53)
def S.tree_Tree_Close.an : Ann := (.seq .leaf (.seq .leaf (.seq (.seq .leaf (.cond (.seq .leaf .leaf) .leaf)) (.seq .leaf (.join (.join .leaf [32] [21,22,23,24,25,26,27,28,29,30,31] (.cond .leaf .leaf)) [] [21,22,23,24,25,26,27,28,29,30,31,32,33,34,35,36,37,38] (.seq .leaf .leaf))))))
theorem S.tree_Tree_Close.eq (a0 a1 : Value) (w : World) (R : Value → World → Prop) : S.tree_Tree_Close a0 a1 w R = fnC PP 39 (Tryz.f104.body.getD .skip) S.tree_Tree_Close.an [.tmp 4] [a0, a1] w R := by kernel_rfl
theorem S.tree_Tree_Close.calls {a0 a1 : Value} {w : World} {R : Value → World → Prop} (h : S.tree_Tree_Close a0 a1 w R) : Ca PP Fn.tree_Tree_Close #[a0, a1] w R :=
  fnC_calls mixed (f := Fn.tree_Tree_Close) (an := S.tree_Tree_Close.an) Tryz.func104 rfl (by show _ ≤ _; exact Nat.le_of_ble_eq_true rfl) (S.tree_Tree_Close.eq a0 a1 w R ▸ h)
/-- (*acheron/space.Space).clean -/
def S.space_Space_clean (a0 a1 : Value) (w : World) (R : Value → World → Prop) : Prop :=
 ∀ J1 : List Value → World → Prop, (∀ t4, ∀ w3 : World, (∀ u2 : Env,
 R t4 w3) → J1 [t4] w3) →
 Ca PP Fn.strings_HasPrefix #[a1, (.string ⟨#[47]⟩)] w fun t5 w6 =>
 Un .not t5 fun t7 =>
 Cnd t7 (
 Nc a0 fun t8 =>
 Fa 2 t8 fun t9 =>
 Ld t9 w6 fun t10 =>
 Bi .add t10 (.string ⟨#[47]⟩) fun t11 =>
 Bi .add t11 a1 fun t12 =>
 J1 [t12] w6) (
 J1 [a1] w6)
def S.space_Space_clean.an : Ann := (.seq .leaf (.join (.seq .leaf (.cond .leaf .leaf)) [1] [5,6,7,8,9,10,11,12,13,14] (.seq .leaf .leaf)))
theorem S.space_Space_clean.eq (a0 a1 : Value) (w : World) (R : Value → World → Prop) : S.space_Space_clean a0 a1 w R = fnC PP 16 (Tryz.f105.body.getD .skip) S.space_Space_clean.an [.tmp 4] [a0, a1] w R := by kernel_rfl
theorem S.space_Space_clean.calls {a0 a1 : Value} {w : World} {R : Value → World → Prop} (h : S.space_Space_clean a0 a1 w R) : Ca PP Fn.space_Space_clean #[a0, a1] w R :=
  fnC_calls mixed (f := Fn.space_Space_clean) (an := S.space_Space_clean.an) Tryz.func105 rfl (by show _ ≤ _; exact Nat.le_of_ble_eq_true rfl) (S.space_Space_clean.eq a0 a1 w R ▸ h)
/-- (*acheron/space.Space).elements -/
def S.space_Space_elements (a0 a1 : Value) (w : World) (R : Value → World → Prop) : Prop :=
 Rd PP (eqS .eql Ty.p_space_Space (.tmp 6) (.const (.pointer none)) a0 (.pointer none)) w fun t1 =>
 Cnd t1 (
 R (.tuple #[(.slice none 0 0), (.int .i64 6)]) w) (
 Ca PP Fn.space_Space_clean #[a0, a1] w fun t2 w3 =>
 Ca PP Fn.tree_Clean #[t2] w3 fun t4 w5 =>
 Ca PP Fn.tree_Split #[t4] w5 fun t6 w7 =>
 Ex t6 0 fun t8 =>
 Ex t6 1 fun t9 =>
 R (.tuple #[t8, t9]) w7)
def S.space_Space_elements.an : Ann := (.seq .leaf (.seq (.seq .leaf (.cond (.seq .leaf .leaf) .leaf)) (.seq .leaf .leaf)))
theorem S.space_Space_elements.eq (a0 a1 : Value) (w : World) (R : Value → World → Prop) : S.space_Space_elements a0 a1 w R = fnC PP 15 (Tryz.f106.body.getD .skip) S.space_Space_elements.an [.tmp 4, .tmp 5] [a0, a1] w R := by kernel_rfl
theorem S.space_Space_elements.calls {a0 a1 : Value} {w : World} {R : Value → World → Prop} (h : S.space_Space_elements a0 a1 w R) : Ca PP Fn.space_Space_elements #[a0, a1] w R :=
  fnC_calls mixed (f := Fn.space_Space_elements) (an := S.space_Space_elements.an) Tryz.func106 rfl (by show _ ≤ _; exact Nat.le_of_ble_eq_true rfl) (S.space_Space_elements.eq a0 a1 w R ▸ h)
/-- (*acheron/space.Space).walk -/
def S.space_Space_walk (a0 a1 : Value) (w : World) (R : Value → World → Prop) : Prop :=
 Al Ty.space_Place #[.int .i64 0, .int .i64 0] w fun t1 w2 =>
 Nc a0 fun t3 =>
 Fa 0 t3 fun t4 =>
 Ld t4 w2 fun t5 =>
 Nc t5 fun t6 =>
 Fa 0 t6 fun t7 =>
 Ld t7 w2 fun t8 =>
 IxA 1 t8 (.int .i64 0) fun t9 =>
 Ld t9 w2 fun t10 =>
 Iv PP t10 "Root" #[] w2 fun t11 w12 =>
 Fi 2 t11 fun t13 =>
 Bd #[.int .i64 0, .int .i64 0] [(0, 1), (1, 1)] [(0, (.int .i64 0)), (1, t13)] fun t14 =>
 Al Ty.space_Place #[.int .i64 0, .int .i64 0] w12 fun t15 w16 =>
 St PP 2 t15 t14 w16 fun w17 =>
 LnL a1 fun t18 =>
 ∃ (I19 : List Value → World → Prop) (m20 : List Value → World → Nat), I19 [(.int .i64 0)] w17 ∧ ∀ t23, ∀ (u21 : Env) (w22 : World), I19 [t23] w22 →
 Bi .lss t23 t18 fun t24 =>
 Cnd t24 (
 IxA 1 a1 t23 fun t25 =>
 Ld t25 w22 fun t26 =>
 Dr w22 fun w27 =>
 Nc a0 fun t28 =>
 Fa 0 t28 fun t29 =>
 Ld t29 w27 fun t30 =>
 LdA PP 2 t15 w27 fun t31 =>
 Ca PP Fn.space_table_stand #[t30, t31] w27 fun t32 w33 =>
 Ex t32 0 fun t34 =>
 Ex t32 1 fun t35 =>
 LnL t34 fun t36 =>
 ∃ (I37 : List Value → World → Prop) (m38 : List Value → World → Nat), I37 [(.int .i64 0), (.int .i64 0)] w33 ∧ ∀ t41 t42, ∀ (u39 : Env) (w40 : World), I37 [t41, t42] w40 →
 Bi .lss t42 t36 fun t43 =>
 Cnd t43 (
 ∀ J44 : List Value → World → Prop, (∀ t47, ∀ w46 : World, (∀ u45 : Env,
 Bi .add t42 (.int .i64 1) fun t48 =>
 I37 [t47, t48] w46 ∧ m38 [t47, t48] w46 < m38 [t41, t42] w40) → J44 [t47] w46) →
 IxA 2 t34 t42 fun t49 =>
 LdA PP 2 t49 w40 fun t50 =>
 Al Ty.space_Place #[.int .i64 0, .int .i64 0] w40 fun t51 w52 =>
 St PP 2 t51 t50 w52 fun w53 =>
 Dr w53 fun w54 =>
 Nc a0 fun t55 =>
 Fa 0 t55 fun t56 =>
 Ld t56 w54 fun t57 =>
 Nc t57 fun t58 =>
 Fa 0 t58 fun t59 =>
 Ld t59 w54 fun t60 =>
 Fa 0 t51 fun t61 =>
 Ld t61 w54 fun t62 =>
 IxA 1 t60 t62 fun t63 =>
 Ld t63 w54 fun t64 =>
 Nc a0 fun t65 =>
 Fa 1 t65 fun t66 =>
 Ld t66 w54 fun t67 =>
 Fa 1 t51 fun t68 =>
 Ld t68 w54 fun t69 =>
 Nc t64 fun t70 =>
 (Iv PP t64 "Walk" #[t67, t69, t26] w54 fun t71 w72 =>
 Ex t71 0 fun t73 =>
 Ex t71 1 fun t74 =>
 Al Ty.api_Qid #[.int .i64 0, .int .i64 0, .int .i64 0] w72 fun t75 w76 =>
 (Ld t56 w76 fun t77 =>
 t77 = t57) ∧
 (Ld t59 w76 fun t78 =>
 t78 = t60) ∧
 (Ld t61 w76 fun t79 =>
 t79 = t62) ∧
 (Ld t63 w76 fun t80 =>
 t80 = t64) ∧
 (Ld t66 w76 fun t81 =>
 t81 = t67) ∧
 (Ld t68 w76 fun t82 =>
 t82 = t69) ∧
 St PP 3 t75 t73 w76 fun w83 =>
 Bi .eql t74 (.int .i64 0) fun t84 =>
 Cnd t84 (
 Fa 0 t51 fun t85 =>
 Ld t85 w83 fun t86 =>
 Fa 2 t75 fun t87 =>
 Ld t87 w83 fun t88 =>
 Bd #[.int .i64 0, .int .i64 0] [(0, 1), (1, 1)] [(0, t86), (1, t88)] fun t89 =>
 St PP 2 t15 t89 w83 fun w90 =>
 Bi .add t23 (.int .i64 1) fun t91 =>
 I19 [t91] w90 ∧ m20 [t91] w90 < m20 [t23] w22) (
 Bi .eql t42 (.int .i64 0) fun t92 =>
 Cnd t92 (
 J44 [t74] w83) (
 J44 [t41] w83))) ∧ (Al Ty.api_Qid #[.int .i64 0, .int .i64 0, .int .i64 0] w54 fun t93 w94 =>
 (Ld t56 w94 fun t95 =>
 t95 = t57) ∧
 (Ld t59 w94 fun t96 =>
 t96 = t60) ∧
 (Ld t61 w94 fun t97 =>
 t97 = t62) ∧
 (Ld t63 w94 fun t98 =>
 t98 = t64) ∧
 (Ld t66 w94 fun t99 =>
 t99 = t67) ∧
 (Ld t68 w94 fun t100 =>
 t100 = t69) ∧
 Iv PP t64 "Walk" #[t67, t69, t26] w94 fun t101 w102 =>
 Ex t101 0 fun t103 =>
 Ex t101 1 fun t104 =>
 St PP 3 t93 t103 w102 fun w105 =>
 Bi .eql t104 (.int .i64 0) fun t106 =>
 Cnd t106 (
 Fa 0 t51 fun t107 =>
 Ld t107 w105 fun t108 =>
 Fa 2 t93 fun t109 =>
 Ld t109 w105 fun t110 =>
 Bd #[.int .i64 0, .int .i64 0] [(0, 1), (1, 1)] [(0, t108), (1, t110)] fun t111 =>
 St PP 2 t15 t111 w105 fun w112 =>
 Bi .add t23 (.int .i64 1) fun t113 =>
 I19 [t113] w112 ∧ m20 [t113] w112 < m20 [t23] w22) (
 Bi .eql t42 (.int .i64 0) fun t114 =>
 Cnd t114 (
 J44 [t104] w105) (
 J44 [t41] w105))) ∧ True) (
 Bd #[.int .i64 0, .int .i64 0] [(0, 1), (1, 1)] [] fun t115 =>
 St PP 2 t1 t115 w40 fun w116 =>
 LdA PP 2 t1 w116 fun t117 =>
 R (.tuple #[t117, t41]) w116)) (
 LdA PP 2 t15 w22 fun t118 =>
 St PP 2 t1 t118 w22 fun w119 =>
 LdA PP 2 t1 w119 fun t120 =>
 R (.tuple #[t120, (.int .i64 0)]) w119)
def S.space_Space_walk.an : Ann := (.seq .leaf (.block (.seq .leaf (.seq .leaf (.seq (.seq .leaf (.block (.loop (.seq .leaf (.seq (.cond .leaf .leaf) (.seq (.block (.seq .leaf (.seq .leaf (.seq (.draw [[],[0],[0,1],[0,1,2],[],[0,1,2,3,4],[0,1,2,3,4,5],[0,1,2,3,4,5,6],[0,1,2,3,4,5,6],[0,1,2,3,4,5,6,7],[0,1,2,3,4,5,6,7,8,9]] (.calm 0 (.calm 1 (.calm 2 (.calm 3 (.calm 4 (.eff1 5 [] (.calm 6 (.calm 7 (.calm 8 (.calm 9 (.calm 10 .done)))))))))))) (.seq (.seq .leaf (.block (.loop (.seq .leaf (.seq (.cond .leaf .leaf) (.join (.block (.seq .leaf (.seq (.draw [[],[0],[0,1],[0,1,2],[0,1,2,3],[0,1,2,3,4],[0,1,2,3,4,5],[],[7],[0,1,2,3,4,5,6,7,8],[0,1,2,3,4,5,6,7,8,9],[],[11],[11,12],[11,12,13],[],[15],[],[0,1,2,3,4,5,6,7,8,9,10],[0,1,2,3,4,5,6,7,8,9,10,18],[0,1,2,3,4,5,6,7,8,9,10,11,12,13,14,15,16,17,18,19],[0,1,2,3,4,5,6,7,8,9,10,11,12,13,14,15,16,17,18,19,20],[0,1,2,3,4,5,6,7,8,9,10,11,12,13,14,15,16,17,18,19,20,21],[0,1,2,3,4,5,6,7,8,9,10,11,12,13,14,15,16,17,18,19,20,21],[],[0,1,2,3,4,5,6,7,8,9,10,11,12,13,14,15,16,17,18,19,20,21,22,24],[0,1,2,3,4,5,6,7,8,9,10,11,12,13,14,15,16,17,18,19,20,21,22,23,24,25]] (.calm 0 (.calm 1 (.calm 2 (.calm 3 (.calm 4 (.calm 5 (.calm 6 (.calm 7 (.calm 8 (.calm 9 (.calm 10 (.calm 11 (.calm 12 (.calm 13 (.calm 14 (.calm 15 (.calm 16 (.calm 17 (.calm 18 (.calm 19 (.effs 20 [] (.calm 21 (.calm 22 (.calm 23 (.eff1 24 [3,6,8,10,14,16] (.eff1 25 [] (.calm 26 .done)))))) (.effs 24 [3,6,8,10,14,16] (.eff1 20 [] (.calm 21 (.calm 22 (.calm 23 (.eff1 25 [] (.calm 26 .done)))))) .none))))))))))))))))))))))) (.seq (.seq .leaf (.cond (.seq .leaf .leaf) .leaf)) (.seq .leaf (.cond .leaf .leaf)))))) [9] [12,13,14,15,47,48,49,50,51,52,53,54,55,56,57,58,59,60,61,62,63,64,65,66,67,68,69,70,71,72,73,74,75,76,77,78,79,80,81,82,83] .leaf))) [9,45] [12,13,14,15,46,47,48,49,50,51,52,53,54,55,56,57,58,59,60,61,62,63,64,65,66,67,68,69,70,71,72,73,74,75,76,77,78,79,80,81,82,83,84]))) (.seq .leaf .leaf)))))) .leaf))) [30] [5,8,9,10,11,12,13,14,15,31,32,33,34,35,36,37,38,39,40,41,42,43,44,45,46,47,48,49,50,51,52,53,54,55,56,57,58,59,60,61,62,63,64,65,66,67,68,69,70,71,72,73,74,75,76,77,78,79,80,81,82,83,84,85,86,87]))) (.seq .leaf .leaf))))))
theorem S.space_Space_walk.eq (a0 a1 : Value) (w : World) (R : Value → World → Prop) : S.space_Space_walk a0 a1 w R = fnC PP 89 (Tryz.f107.body.getD .skip) S.space_Space_walk.an [.cell 4 55, .tmp 5] [a0, a1] w R := by kernel_rfl
theorem S.space_Space_walk.calls {a0 a1 : Value} {w : World} {R : Value → World → Prop} (h : S.space_Space_walk a0 a1 w R) : Ca PP Fn.space_Space_walk #[a0, a1] w R :=
  fnC_calls mixed (f := Fn.space_Space_walk) (an := S.space_Space_walk.an) Tryz.func107 rfl (by show _ ≤ _; exact Nat.le_of_ble_eq_true rfl) (S.space_Space_walk.eq a0 a1 w R ▸ h)
/-- acheron/tree.Permits -/
def S.tree_Permits (a0 a1 a2 a3 : Value) (w : World) (R : Value → World → Prop) : Prop :=
 ∀ J1 : List Value → World → Prop, (∀ t4, ∀ w3 : World, (∀ u2 : Env,
 Bi .and a3 (.int .i64 7) fun t5 =>
 Bi .andNot t5 t4 fun t6 =>
 Bi .eql t6 (.int .i64 0) fun t7 =>
 R t7 w3) → J1 [t4] w3) →
 Cnd a1 (
 Bi .shr a0 (.int .u64 6) fun t8 =>
 J1 [t8] w) (
 Cnd a2 (
 Bi .shr a0 (.int .u64 3) fun t9 =>
 J1 [t9] w) (
 J1 [a0] w))
def S.tree_Permits.an : Ann := (.seq .leaf (.join (.block (.seq .leaf (.cond .leaf (.seq .leaf (.cond .leaf .leaf))))) [0] [9,10,11,12,13,14,15,16] (.seq .leaf .leaf)))
theorem S.tree_Permits.eq (a0 a1 a2 a3 : Value) (w : World) (R : Value → World → Prop) : S.tree_Permits a0 a1 a2 a3 w R = fnC PP 22 (Tryz.f109.body.getD .skip) S.tree_Permits.an [.tmp 8] [a0, a1, a2, a3] w R := by kernel_rfl
theorem S.tree_Permits.calls {a0 a1 a2 a3 : Value} {w : World} {R : Value → World → Prop} (h : S.tree_Permits a0 a1 a2 a3 w R) : Ca PP Fn.tree_Permits #[a0, a1, a2, a3] w R :=
  fnC_calls mixed (f := Fn.tree_Permits) (an := S.tree_Permits.an) Tryz.func109 rfl (by show _ ≤ _; exact Nat.le_of_ble_eq_true rfl) (S.tree_Permits.eq a0 a1 a2 a3 w R ▸ h)
/-- (*acheron/tree.Tree).member -/
def S.tree_Tree_member (a0 a1 a2 : Value) (w : World) (R : Value → World → Prop) : Prop :=
 ∀ J1 : List Value → World → Prop, (∀ t4, ∀ w3 : World, (∀ u2 : Env,
 R t4 w3) → J1 [t4] w3) →
 Bi .eql a1 a2 fun t5 =>
 Gd t5 false (fun k6 => k6 a0 w) w fun t7 w8 =>
 Gd t5 false (fun k9 => Nc t7 fun t12 =>
 k9 t12 w8) w8 fun t10 w11 =>
 Gd t5 false (fun k13 => Fa 2 t10 fun t16 =>
 k13 t16 w11) w11 fun t14 w15 =>
 Gd t5 false (fun k17 => Ld t14 w15 fun t20 =>
 k17 t20 w15) w15 fun t18 w19 =>
 Gd t5 false (fun k21 => k21 a2 w19) w19 fun t22 w23 =>
 Gd t5 false (fun k24 => Rd PP (Instr.lookup Ty.map_string_sl_string t18 t22 false) w23 fun t27 =>
 k24 t27 w23) w23 fun t25 w26 =>
 Gd t5 false (fun k28 => k28 a1 w26) w26 fun t29 w30 =>
 Gd t5 false (fun k31 => Ca PP Fn.slices_Contains_sl_string_string #[t25, t29] w30 fun t34 w35 =>
 k31 t34 w35) w30 fun t32 w33 =>
 Pk t5 (.bool true) t32 fun t36 =>
 J1 [t36] w33
def S.tree_Tree_member.an : Ann := (.seq .leaf (.join .leaf [6] [7,8,9,10,11,12,13,14,15,16,17,18,19] .leaf))
theorem S.tree_Tree_member.eq (a0 a1 a2 : Value) (w : World) (R : Value → World → Prop) : S.tree_Tree_member a0 a1 a2 w R = fnC PP 20 (Tryz.f110.body.getD .skip) S.tree_Tree_member.an [.tmp 6] [a0, a1, a2] w R := by kernel_rfl
theorem S.tree_Tree_member.calls {a0 a1 a2 : Value} {w : World} {R : Value → World → Prop} (h : S.tree_Tree_member a0 a1 a2 w R) : Ca PP Fn.tree_Tree_member #[a0, a1, a2] w R :=
  fnC_calls mixed (f := Fn.tree_Tree_member) (an := S.tree_Tree_member.an) Tryz.func110 rfl (by show _ ≤ _; exact Nat.le_of_ble_eq_true rfl) (S.tree_Tree_member.eq a0 a1 a2 w R ▸ h)
/-- (*acheron/tree.node).sorted$1 -/
def S.tree_node_sorted_1 (a0 a1 : Value) (w : World) (R : Value → World → Prop) : Prop :=
 Ld a1 w fun t1 =>
 Nc t1 fun t2 =>
 Fa 11 t2 fun t3 =>
 Ld t3 w fun t4 =>
 Ca PP Fn.maps_Keys_map_string_p_tree_node_string_p_tree_node #[t4] w fun t5 w6 =>
 Ca PP Fn.slices_Sorted_string #[t5] w6 fun t7 w8 =>
 LnL t7 fun t9 =>
 ∃ (I10 : List Value → World → Prop) (m11 : List Value → World → Nat), I10 [(.int .i64 0)] w8 ∧ ∀ t14, ∀ (u12 : Env) (w13 : World), I10 [t14] w13 →
 Bi .lss t14 t9 fun t15 =>
 Cnd t15 (
 IxA 1 t7 t14 fun t16 =>
 Ld t16 w13 fun t17 =>
 Ld a1 w13 fun t18 =>
 Nc t18 fun t19 =>
 Fa 11 t19 fun t20 =>
 Ld t20 w13 fun t21 =>
 Rd PP (Instr.lookup Ty.map_string_p_tree_node t21 t17 false) w13 fun t22 =>
 CaV PP a0 #[t22] w13 fun t23 w24 =>
 Un .not t23 fun t25 =>
 Cnd t25 (
 R (.tuple #[]) w24) (
 Bi .add t14 (.int .i64 1) fun t26 =>
 I10 [t26] w24 ∧ m11 [t26] w24 < m11 [t14] w13)) (
 R (.tuple #[]) w13)
def S.tree_node_sorted_1.an : Ann := (.seq .leaf (.block (.loop (.seq .leaf (.seq (.cond .leaf .leaf) (.seq (.block (.seq .leaf (.seq .leaf (.cond .leaf .leaf)))) .leaf))) [12] [4,13,14,15,16,17,18,19,20,21,22,23,24,25])))
theorem S.tree_node_sorted_1.eq (a0 a1 : Value) (w : World) (R : Value → World → Prop) : S.tree_node_sorted_1 a0 a1 w R = fnC PP 26 (Tryz.f111.body.getD .skip) S.tree_node_sorted_1.an [] [a0, a1] w R := by kernel_rfl
theorem S.tree_node_sorted_1.calls {a0 a1 : Value} {w : World} {R : Value → World → Prop} (h : S.tree_node_sorted_1 a0 a1 w R) : Ca PP Fn.tree_node_sorted_1 #[a0, a1] w R :=
  fnC_calls mixed (f := Fn.tree_node_sorted_1) (an := S.tree_node_sorted_1.an) Tryz.func111 rfl (by show _ ≤ _; exact Nat.le_of_ble_eq_true rfl) (S.tree_node_sorted_1.eq a0 a1 w R ▸ h)
/-- slices.Sorted[string] -/
def S.slices_Sorted_string (a0 : Value) (w : World) (R : Value → World → Prop) : Prop :=
 Ca PP Fn.slices_Collect_string #[a0] w fun t1 w2 =>
 Ca PP Fn.slices_Sort_sl_string_string #[t1] w2 fun t3 w4 =>
 R t1 w4
def S.slices_Sorted_string.an : Ann := (.seq .leaf (.seq .leaf (.seq .leaf (.seq .leaf .leaf))))
theorem S.slices_Sorted_string.eq (a0 : Value) (w : World) (R : Value → World → Prop) : S.slices_Sorted_string a0 w R = fnC PP 9 (Tryz.f112.body.getD .skip) S.slices_Sorted_string.an [.tmp 2] [a0] w R := by kernel_rfl
theorem S.slices_Sorted_string.calls {a0 : Value} {w : World} {R : Value → World → Prop} (h : S.slices_Sorted_string a0 w R) : Ca PP Fn.slices_Sorted_string #[a0] w R :=
  fnC_calls mixed (f := Fn.slices_Sorted_string) (an := S.slices_Sorted_string.an) Tryz.func112 rfl (by show _ ≤ _; exact Nat.le_of_ble_eq_true rfl) (S.slices_Sorted_string.eq a0 w R ▸ h)
/-- maps.Keys[map[string]*acheron/tree.node,string,*acheron/tree.node] -/
def S.maps_Keys_map_string_p_tree_node_string_p_tree_node (a0 : Value) (w : World) (R : Value → World → Prop) : Prop :=
 Al Ty.map_string_p_tree_node (a0 : Value).cells w fun t1 w2 =>
 R (.func (.func Fn.maps_Keys_map_string_p_tree_node_string_p_tree_node_1) #[] #[t1]) w2
def S.maps_Keys_map_string_p_tree_node_string_p_tree_node.an : Ann := (.seq .leaf (.seq .leaf .leaf))
theorem S.maps_Keys_map_string_p_tree_node_string_p_tree_node.eq (a0 : Value) (w : World) (R : Value → World → Prop) : S.maps_Keys_map_string_p_tree_node_string_p_tree_node a0 w R = fnC PP 4 (Tryz.f113.body.getD .skip) S.maps_Keys_map_string_p_tree_node_string_p_tree_node.an [.tmp 2] [a0] w R := by kernel_rfl
theorem S.maps_Keys_map_string_p_tree_node_string_p_tree_node.calls {a0 : Value} {w : World} {R : Value → World → Prop} (h : S.maps_Keys_map_string_p_tree_node_string_p_tree_node a0 w R) : Ca PP Fn.maps_Keys_map_string_p_tree_node_string_p_tree_node #[a0] w R :=
  fnC_calls mixed (f := Fn.maps_Keys_map_string_p_tree_node_string_p_tree_node) (an := S.maps_Keys_map_string_p_tree_node_string_p_tree_node.an) Tryz.func113 rfl (by show _ ≤ _; exact Nat.le_of_ble_eq_true rfl) (S.maps_Keys_map_string_p_tree_node_string_p_tree_node.eq a0 w R ▸ h)
/-- slices.IndexFunc[[]acheron/space.Place,acheron/space.Place] -/
def S.slices_IndexFunc_sl_space_Place_space_Place (a0 a1 : Value) (w : World) (R : Value → World → Prop) : Prop :=
 LnL a0 fun t1 =>
 ∃ (I2 : List Value → World → Prop) (m3 : List Value → World → Nat), I2 [(.int .i64 0)] w ∧ ∀ t6, ∀ (u4 : Env) (w5 : World), I2 [t6] w5 →
 Bi .lss t6 t1 fun t7 =>
 Cnd t7 (
 IxA 2 a0 t6 fun t8 =>
 LdA PP 2 t8 w5 fun t9 =>
 CaV PP a1 #[t9] w5 fun t10 w11 =>
 Cnd t10 (
 R t6 w11) (
 Bi .add t6 (.int .i64 1) fun t12 =>
 I2 [t12] w11 ∧ m3 [t12] w11 < m3 [t6] w5)) (
 R (.int .i64 (-1)) w5)
def S.slices_IndexFunc_sl_space_Place_space_Place.an : Ann := (.seq .leaf (.seq (.seq .leaf (.block (.loop (.seq .leaf (.seq (.cond .leaf .leaf) (.seq (.block (.seq .leaf (.seq .leaf (.cond (.seq .leaf .leaf) .leaf)))) .leaf))) [8] [4,5,9,10,11,12,13,14,15,16,17,18]))) (.seq .leaf .leaf)))
theorem S.slices_IndexFunc_sl_space_Place_space_Place.eq (a0 a1 : Value) (w : World) (R : Value → World → Prop) : S.slices_IndexFunc_sl_space_Place_space_Place a0 a1 w R = fnC PP 19 (Tryz.f114.body.getD .skip) S.slices_IndexFunc_sl_space_Place_space_Place.an [.tmp 4] [a0, a1] w R := by kernel_rfl
theorem S.slices_IndexFunc_sl_space_Place_space_Place.calls {a0 a1 : Value} {w : World} {R : Value → World → Prop} (h : S.slices_IndexFunc_sl_space_Place_space_Place a0 a1 w R) : Ca PP Fn.slices_IndexFunc_sl_space_Place_space_Place #[a0, a1] w R :=
  fnC_calls mixed (f := Fn.slices_IndexFunc_sl_space_Place_space_Place) (an := S.slices_IndexFunc_sl_space_Place_space_Place.an) Tryz.func114 rfl (by show _ ≤ _; exact Nat.le_of_ble_eq_true rfl) (S.slices_IndexFunc_sl_space_Place_space_Place.eq a0 a1 w R ▸ h)
/-- slices.Repeat[[]bool,bool] -/
def S.slices_Repeat_sl_bool_bool (a0 a1 : Value) (w : World) (R : Value → World → Prop) : Prop :=
 ∀ J1 : List Value → World → Prop, (∀ w3 : World, (∀ u2 : Env,
 LnL a0 fun t4 =>
 Cv .u64 t4 fun t5 =>
 Cv .u64 a1 fun t6 =>
 Ca PP Fn.math_bits_Mul #[t5, t6] w3 fun t7 w8 =>
 Ex t7 0 fun t9 =>
 Ex t7 1 fun t10 =>
 ∀ J11 : List Value → World → Prop, (∀ w13 : World, (∀ u12 : Env,
 Cv .i64 t10 fun t14 =>
 Ef PP (Instr.makeSlice Ty.sl_bool t14 t14) w13 fun t15 w16 =>
 Ef PP (Builtin.copy_ #[Ty.sl_bool, Ty.sl_bool] Ty.int #[t15, a0]) w16 fun t17 w18 =>
 ∃ (I19 : List Value → World → Prop) (m20 : List Value → World → Nat), I19 [t17] w18 ∧ ∀ t23, ∀ (u21 : Env) (w22 : World), I19 [t23] w22 →
 LnL t15 fun t24 =>
 Bi .lss t23 t24 fun t25 =>
 Cnd t25 (
 Dr w22 fun w26 =>
 Sl 1 t15 (some t23) none fun t27 =>
 Sl 1 t15 none (some t23) fun t28 =>
 Ef PP (Builtin.copy_ #[Ty.sl_bool, Ty.sl_bool] Ty.int #[t27, t28]) w26 fun t29 w30 =>
 Bi .add t23 t29 fun t31 =>
 I19 [t31] w30 ∧ m20 [t31] w30 < m20 [t23] w22) (
 R t15 w22)) → J11 [] w13) →
 ∀ J32 : List Value → World → Prop, (∀ t35, ∀ w34 : World, (∀ u33 : Env,
 Cnd t35 (
 False) (
 J11 [] w34)) → J32 [t35] w34) →
 Bi .gtr t9 (.int .u64 0) fun t36 =>
 Gd t36 false (fun k37 => k37 t10 w8) w8 fun t38 w39 =>
 Gd t36 false (fun k40 => Bi .gtr t38 (.int .u64 9223372036854775807) fun t43 =>
 k40 t43 w39) w39 fun t41 w42 =>
 Pk t36 (.bool true) t41 fun t44 =>
 J32 [t44] w42) → J1 [] w3) →
 Bi .lss a1 (.int .i64 0) fun t45 =>
 Cnd t45 (
 False) (
 J1 [] w)
def S.slices_Repeat_sl_bool_bool.an : Ann := (.seq .leaf (.join (.seq .leaf (.cond .leaf .leaf)) [] [9,10,11] (.seq .leaf (.join (.join .leaf [26] [21,22,23,24,25] (.cond .leaf .leaf)) [] [21,22,23,24,25,26,27] (.seq .leaf (.seq .leaf (.seq (.block (.loop (.seq (.seq .leaf (.cond .leaf .leaf)) (.block (.draw [[],[],[],[1,2],[],[],[4,5],[1,2,3,4,5,6],[0,1,2,3,4,5,6,7],[0,1,2,3,4,5,6,7,8]] (.calm 0 (.calm 1 (.calm 2 (.calm 3 (.calm 4 (.calm 5 (.calm 6 (.eff1 7 [] (.calm 8 (.calm 9 .done))))))))))))) [8] [34,35,36,37,38,39,40,41,42,43,44,45,46])) (.seq .leaf .leaf))))))))
theorem S.slices_Repeat_sl_bool_bool.eq (a0 a1 : Value) (w : World) (R : Value → World → Prop) : S.slices_Repeat_sl_bool_bool a0 a1 w R = fnC PP 48 (Tryz.f115.body.getD .skip) S.slices_Repeat_sl_bool_bool.an [.tmp 4] [a0, a1] w R := by kernel_rfl
theorem S.slices_Repeat_sl_bool_bool.calls {a0 a1 : Value} {w : World} {R : Value → World → Prop} (h : S.slices_Repeat_sl_bool_bool a0 a1 w R) : Ca PP Fn.slices_Repeat_sl_bool_bool #[a0, a1] w R :=
  fnC_calls mixed (f := Fn.slices_Repeat_sl_bool_bool) (an := S.slices_Repeat_sl_bool_bool.an) Tryz.func115 rfl (by show _ ≤ _; exact Nat.le_of_ble_eq_true rfl) (S.slices_Repeat_sl_bool_bool.eq a0 a1 w R ▸ h)
/-- slices.Concat[[]acheron/space.Place,acheron/space.Place] -/
def S.slices_Concat_sl_space_Place_space_Place (a0 : Value) (w : World) (R : Value → World → Prop) : Prop :=
 LnL a0 fun t1 =>
 ∃ (I2 : List Value → World → Prop) (m3 : List Value → World → Nat), I2 [(.int .i64 0), (.int .i64 0)] w ∧ ∀ t6 t7, ∀ (u4 : Env) (w5 : World), I2 [t6, t7] w5 →
 Bi .lss t7 t1 fun t8 =>
 Cnd t8 (
 ∀ J9 : List Value → World → Prop, (∀ t12, ∀ w11 : World, (∀ u10 : Env,
 Bi .add t7 (.int .i64 1) fun t13 =>
 I2 [t12, t13] w11 ∧ m3 [t12, t13] w11 < m3 [t6, t7] w5) → J9 [t12] w11) →
 IxA 1 a0 t7 fun t14 =>
 Ld t14 w5 fun t15 =>
 LnL t15 fun t16 =>
 Bi .add t6 t16 fun t17 =>
 Bi .lss t17 (.int .i64 0) fun t18 =>
 Cnd t18 (
 False) (
 J9 [t17] w5)) (
 Ca PP Fn.slices_Grow_sl_space_Place_space_Place #[(.slice none 0 0), t6] w5 fun t19 w20 =>
 LnL a0 fun t21 =>
 ∃ (I22 : List Value → World → Prop) (m23 : List Value → World → Nat), I22 [t19, (.int .i64 0)] w20 ∧ ∀ t26 t27, ∀ (u24 : Env) (w25 : World), I22 [t26, t27] w25 →
 Bi .lss t27 t21 fun t28 =>
 Cnd t28 (
 IxA 1 a0 t27 fun t29 =>
 Ld t29 w25 fun t30 =>
 Ef PP (Builtin.append_ #[Ty.sl_space_Place, Ty.sl_space_Place] Ty.sl_space_Place #[t26, t30]) w25 fun t31 w32 =>
 Bi .add t27 (.int .i64 1) fun t33 =>
 I22 [t31, t33] w32 ∧ m23 [t31, t33] w32 < m23 [t26, t27] w25) (
 R t26 w25))
def S.slices_Concat_sl_space_Place_space_Place.an : Ann := (.seq .leaf (.seq .leaf (.seq (.seq .leaf (.block (.loop (.seq .leaf (.seq (.cond .leaf .leaf) (.join (.block (.seq .leaf (.seq .leaf (.seq .leaf (.cond .leaf .leaf))))) [3] [5,13,14,15,16,17,18,19,20,21] .leaf))) [3,11] [5,12,13,14,15,16,17,18,19,20,21,22]))) (.seq .leaf (.seq (.seq .leaf (.block (.loop (.seq .leaf (.seq (.cond .leaf .leaf) (.seq (.block (.seq .leaf .leaf)) .leaf))) [6,27] [8,28,29,30,31,32,33,34]))) (.seq .leaf .leaf))))))
theorem S.slices_Concat_sl_space_Place_space_Place.eq (a0 : Value) (w : World) (R : Value → World → Prop) : S.slices_Concat_sl_space_Place_space_Place a0 w R = fnC PP 36 (Tryz.f116.body.getD .skip) S.slices_Concat_sl_space_Place_space_Place.an [.tmp 2] [a0] w R := by kernel_rfl
theorem S.slices_Concat_sl_space_Place_space_Place.calls {a0 : Value} {w : World} {R : Value → World → Prop} (h : S.slices_Concat_sl_space_Place_space_Place a0 w R) : Ca PP Fn.slices_Concat_sl_space_Place_space_Place #[a0] w R :=
  fnC_calls mixed (f := Fn.slices_Concat_sl_space_Place_space_Place) (an := S.slices_Concat_sl_space_Place_space_Place.an) Tryz.func116 rfl (by show _ ≤ _; exact Nat.le_of_ble_eq_true rfl) (S.slices_Concat_sl_space_Place_space_Place.eq a0 w R ▸ h)
/-- slices.Concat[[]bool,bool] -/
def S.slices_Concat_sl_bool_bool (a0 : Value) (w : World) (R : Value → World → Prop) : Prop :=
 LnL a0 fun t1 =>
 ∃ (I2 : List Value → World → Prop) (m3 : List Value → World → Nat), I2 [(.int .i64 0), (.int .i64 0)] w ∧ ∀ t6 t7, ∀ (u4 : Env) (w5 : World), I2 [t6, t7] w5 →
 Bi .lss t7 t1 fun t8 =>
 Cnd t8 (
 ∀ J9 : List Value → World → Prop, (∀ t12, ∀ w11 : World, (∀ u10 : Env,
 Bi .add t7 (.int .i64 1) fun t13 =>
 I2 [t12, t13] w11 ∧ m3 [t12, t13] w11 < m3 [t6, t7] w5) → J9 [t12] w11) →
 IxA 1 a0 t7 fun t14 =>
 Ld t14 w5 fun t15 =>
 LnL t15 fun t16 =>
 Bi .add t6 t16 fun t17 =>
 Bi .lss t17 (.int .i64 0) fun t18 =>
 Cnd t18 (
 False) (
 J9 [t17] w5)) (
 Ca PP Fn.slices_Grow_sl_bool_bool #[(.slice none 0 0), t6] w5 fun t19 w20 =>
 LnL a0 fun t21 =>
 ∃ (I22 : List Value → World → Prop) (m23 : List Value → World → Nat), I22 [t19, (.int .i64 0)] w20 ∧ ∀ t26 t27, ∀ (u24 : Env) (w25 : World), I22 [t26, t27] w25 →
 Bi .lss t27 t21 fun t28 =>
 Cnd t28 (
 IxA 1 a0 t27 fun t29 =>
 Ld t29 w25 fun t30 =>
 Ef PP (Builtin.append_ #[Ty.sl_bool, Ty.sl_bool] Ty.sl_bool #[t26, t30]) w25 fun t31 w32 =>
 Bi .add t27 (.int .i64 1) fun t33 =>
 I22 [t31, t33] w32 ∧ m23 [t31, t33] w32 < m23 [t26, t27] w25) (
 R t26 w25))
def S.slices_Concat_sl_bool_bool.an : Ann := (.seq .leaf (.seq .leaf (.seq (.seq .leaf (.block (.loop (.seq .leaf (.seq (.cond .leaf .leaf) (.join (.block (.seq .leaf (.seq .leaf (.seq .leaf (.cond .leaf .leaf))))) [3] [5,13,14,15,16,17,18,19,20,21] .leaf))) [3,11] [5,12,13,14,15,16,17,18,19,20,21,22]))) (.seq .leaf (.seq (.seq .leaf (.block (.loop (.seq .leaf (.seq (.cond .leaf .leaf) (.seq (.block (.seq .leaf .leaf)) .leaf))) [6,27] [8,28,29,30,31,32,33,34]))) (.seq .leaf .leaf))))))
theorem S.slices_Concat_sl_bool_bool.eq (a0 : Value) (w : World) (R : Value → World → Prop) : S.slices_Concat_sl_bool_bool a0 w R = fnC PP 36 (Tryz.f117.body.getD .skip) S.slices_Concat_sl_bool_bool.an [.tmp 2] [a0] w R := by kernel_rfl
theorem S.slices_Concat_sl_bool_bool.calls {a0 : Value} {w : World} {R : Value → World → Prop} (h : S.slices_Concat_sl_bool_bool a0 w R) : Ca PP Fn.slices_Concat_sl_bool_bool #[a0] w R :=
  fnC_calls mixed (f := Fn.slices_Concat_sl_bool_bool) (an := S.slices_Concat_sl_bool_bool.an) Tryz.func117 rfl (by show _ ≤ _; exact Nat.le_of_ble_eq_true rfl) (S.slices_Concat_sl_bool_bool.eq a0 w R ▸ h)
/-- (*acheron/space.table).find$1 -/
def S.space_table_find_1 (a0 a1 : Value) (w : World) (R : Value → World → Prop) : Prop :=
 Al Ty.space_Mount (a0 : Value).cells w fun t1 w2 =>
 Fa 0 t1 fun t3 =>
 LdA PP 2 t3 w2 fun t4 =>
 LdA PP 2 a1 w2 fun t5 =>
 Rd PP (eqS .eql Ty.space_Place (.tmp 5) (.tmp 6) t4 t5) w2 fun t6 =>
 R t6 w2
def S.space_table_find_1.an : Ann := (.seq .leaf (.seq .leaf .leaf))
theorem S.space_table_find_1.eq (a0 a1 : Value) (w : World) (R : Value → World → Prop) : S.space_table_find_1 a0 a1 w R = fnC PP 8 (Tryz.f118.body.getD .skip) S.space_table_find_1.an [.tmp 3] [a0, a1] w R := by kernel_rfl
theorem S.space_table_find_1.calls {a0 a1 : Value} {w : World} {R : Value → World → Prop} (h : S.space_table_find_1 a0 a1 w R) : Ca PP Fn.space_table_find_1 #[a0, a1] w R :=
  fnC_calls mixed (f := Fn.space_table_find_1) (an := S.space_table_find_1.an) Tryz.func118 rfl (by show _ ≤ _; exact Nat.le_of_ble_eq_true rfl) (S.space_table_find_1.eq a0 a1 w R ▸ h)
/-- maps.Keys[map[int][]acheron/space.handle,int,[]acheron/space.handle]$1 -/
def S.maps_Keys_map_int_sl_space_handle_int_sl_space_handle_1 (a0 a1 : Value) (w : World) (R : Value → World → Prop) : Prop :=
 Ld a1 w fun t1 =>
 Ef PP (Instr.range Ty.map_int_sl_space_handle t1) w fun t2 w3 =>
 ∃ (I4 : List Value → World → Prop) (m5 : List Value → World → Nat), I4 [] w3 ∧ ∀ (u6 : Env) (w7 : World), I4 [] w7 →
 Ef PP (Instr.next t2 false Ty.t) w7 fun t8 w9 =>
 Ex t8 0 fun t10 =>
 Cnd t10 (
 Rd PP (Instr.entry t2) w9 fun t11 =>
 Ex t11 0 fun t12 =>
 CaV PP a0 #[t12] w9 fun t13 w14 =>
 Un .not t13 fun t15 =>
 Cnd t15 (
 R (.tuple #[]) w14) (
 I4 [] w14 ∧ m5 [] w14 < m5 [] w7)) (
 R (.tuple #[]) w9)
def S.maps_Keys_map_int_sl_space_handle_int_sl_space_handle_1.an : Ann := (.seq .leaf (.block (.loop (.seq .leaf (.seq (.cond .leaf .leaf) (.block (.seq .leaf (.seq .leaf (.cond .leaf .leaf)))))) [] [3,6,7,8,9,10,11,12,13])))
theorem S.maps_Keys_map_int_sl_space_handle_int_sl_space_handle_1.eq (a0 a1 : Value) (w : World) (R : Value → World → Prop) : S.maps_Keys_map_int_sl_space_handle_int_sl_space_handle_1 a0 a1 w R = fnC PP 14 (Tryz.f121.body.getD .skip) S.maps_Keys_map_int_sl_space_handle_int_sl_space_handle_1.an [] [a0, a1] w R := by kernel_rfl
theorem S.maps_Keys_map_int_sl_space_handle_int_sl_space_handle_1.calls {a0 a1 : Value} {w : World} {R : Value → World → Prop} (h : S.maps_Keys_map_int_sl_space_handle_int_sl_space_handle_1 a0 a1 w R) : Ca PP Fn.maps_Keys_map_int_sl_space_handle_int_sl_space_handle_1 #[a0, a1] w R :=
  fnC_calls mixed (f := Fn.maps_Keys_map_int_sl_space_handle_int_sl_space_handle_1) (an := S.maps_Keys_map_int_sl_space_handle_int_sl_space_handle_1.an) Tryz.func121 rfl (by show _ ≤ _; exact Nat.le_of_ble_eq_true rfl) (S.maps_Keys_map_int_sl_space_handle_int_sl_space_handle_1.eq a0 a1 w R ▸ h)
/-- acheron/tree.check -/
def S.tree_check (a0 a1 : Value) (w : World) (R : Value → World → Prop) : Prop :=
 LnL a0 fun t1 =>
 Bi .gtr t1 (.int .i64 16) fun t2 =>
 LnL a0 fun t3 =>
 ∃ (I4 : List Value → World → Prop) (m5 : List Value → World → Nat), I4 [a1, (.slice none 0 0), t2, (.bool false), (.int .i64 0)] w ∧ ∀ t8 t9 t10 t11 t12, ∀ (u6 : Env) (w7 : World), I4 [t8, t9, t10, t11, t12] w7 →
 Bi .lss t12 t3 fun t13 =>
 Cnd t13 (
 ∀ J14 : List Value → World → Prop, (∀ t17 t18 t19 t20, ∀ w16 : World, (∀ u15 : Env,
 Bi .add t12 (.int .i64 1) fun t21 =>
 I4 [t17, t18, t19, t20, t21] w16 ∧ m5 [t17, t18, t19, t20, t21] w16 < m5 [t8, t9, t10, t11, t12] w7) → J14 [t17, t18, t19, t20] w16) →
 IxA 2 a0 t12 fun t22 =>
 LdA PP 2 t22 w7 fun t23 =>
 Al Ty.tree_Group #[.string ⟨#[]⟩, .slice none 0 0] w7 fun t24 w25 =>
 St PP 2 t24 t23 w25 fun w26 =>
 ∀ J27 : List Value → World → Prop, (∀ t30, ∀ w29 : World, (∀ u28 : Env,
 Dr w29 fun w31 =>
 Fa 0 t24 fun t32 =>
 Ld t32 w31 fun t33 =>
 Fa 1 t24 fun t34 =>
 Ld t34 w31 fun t35 =>
 Ef PP (Instr.buildSlice Ty.sl_string 1 #[(0, t33)]) w31 fun t36 w37 =>
 (Ld t34 w37 fun t38 =>
 t38 = t35) ∧
 Ef PP (Builtin.append_ #[Ty.sl_string, Ty.sl_string] Ty.sl_string #[t8, t36]) w37 fun t39 w40 =>
 (Ld t34 w40 fun t41 =>
 t41 = t35) ∧
 Ef PP (Builtin.append_ #[Ty.sl_string, Ty.sl_string] Ty.sl_string #[t39, t35]) w40 fun t42 w43 =>
 Fa 0 t24 fun t44 =>
 Ld t44 w43 fun t45 =>
 Ef PP (Instr.buildSlice Ty.sl_string 1 #[(0, t45)]) w43 fun t46 w47 =>
 Ef PP (Builtin.append_ #[Ty.sl_string, Ty.sl_string] Ty.sl_string #[t9, t46]) w47 fun t48 w49 =>
 Gd t11 false (fun k50 => Fa 1 t24 fun t53 =>
 k50 t53 w49) w49 fun t51 w52 =>
 Gd t11 false (fun k54 => Ld t51 w52 fun t57 =>
 k54 t57 w52) w52 fun t55 w56 =>
 Gd t11 false (fun k58 => Ca PP Fn.tree_repeated #[t55] w56 fun t61 w62 =>
 k58 t61 w62) w56 fun t59 w60 =>
 Pk t11 (.bool true) t59 fun t63 =>
 J14 [t42, t48, t30, t63] w60) → J27 [t30] w29) →
 Gd t10 false (fun k64 => Fa 1 t24 fun t67 =>
 k64 t67 w26) w26 fun t65 w66 =>
 Gd t10 false (fun k68 => Ld t65 w66 fun t71 =>
 k68 t71 w66) w66 fun t69 w70 =>
 Gd t10 false (fun k72 => LnL t69 fun t75 =>
 k72 t75 w70) w70 fun t73 w74 =>
 Gd t10 false (fun k76 => Bi .gtr t73 (.int .i64 16) fun t79 =>
 k76 t79 w74) w74 fun t77 w78 =>
 Pk t10 (.bool true) t77 fun t80 =>
 J27 [t80] w78) (
 Cnd t10 (
 R (.int .i64 3) w7) (
 Ca PP Fn.slices_ContainsFunc_sl_string_string #[t8, (.func (.func Fn.tree_check_1) #[] #[])] w7 fun t81 w82 =>
 Cnd t81 (
 R (.int .i64 8) w82) (
 ∀ J83 : List Value → World → Prop, (∀ t86, ∀ w85 : World, (∀ u84 : Env,
 Cnd t86 (
 R (.int .i64 5) w85) (
 R (.int .i64 0) w85)) → J83 [t86] w85) →
 Gd t11 false (fun k87 => k87 t9 w82) w82 fun t88 w89 =>
 Gd t11 false (fun k90 => Ca PP Fn.tree_repeated #[t88] w89 fun t93 w94 =>
 k90 t93 w94) w89 fun t91 w92 =>
 Pk t11 (.bool true) t91 fun t95 =>
 J83 [t95] w92)))
def S.tree_check.an : Ann := (.seq .leaf (.seq .leaf (.seq .leaf (.seq (.seq .leaf (.block (.loop (.seq .leaf (.seq (.cond .leaf .leaf) (.join (.block (.seq .leaf (.join .leaf [6] [19,20,21,22,23,24,25] (.seq (.draw [[],[],[1],[1,2],[0,1,2,3],[],[5],[0,1,2,3,4,5,6],[0,1,2,3,4,5,6,7]] (.calm 0 (.calm 1 (.calm 2 (.calm 5 (.calm 6 (.eff1 3 [6] (.eff1 4 [6] (.eff1 7 [] (.calm 8 .done)))))))))) (.seq .leaf .leaf))))) [1,5,6,7] [9,17,18,19,20,21,22,23,24,25,26,27,28,29,30,31,32,33,34,35,36,37,38,39,40,41,42,43,44] .leaf))) [1,5,6,7,15] [9,16,17,18,19,20,21,22,23,24,25,26,27,28,29,30,31,32,33,34,35,36,37,38,39,40,41,42,43,44,45]))) (.seq (.block (.seq .leaf (.cond (.seq .leaf .leaf) (.seq .leaf (.cond (.seq .leaf .leaf) (.join .leaf [51] [52,53,54,55,56] (.cond (.seq .leaf .leaf) .leaf))))))) (.seq .leaf .leaf))))))
theorem S.tree_check.eq (a0 a1 : Value) (w : World) (R : Value → World → Prop) : S.tree_check a0 a1 w R = fnC PP 57 (Tryz.f122.body.getD .skip) S.tree_check.an [.tmp 4] [a0, a1] w R := by kernel_rfl
theorem S.tree_check.calls {a0 a1 : Value} {w : World} {R : Value → World → Prop} (h : S.tree_check a0 a1 w R) : Ca PP Fn.tree_check #[a0, a1] w R :=
  fnC_calls mixed (f := Fn.tree_check) (an := S.tree_check.an) Tryz.func122 rfl (by show _ ≤ _; exact Nat.le_of_ble_eq_true rfl) (S.tree_check.eq a0 a1 w R ▸ h)
/-- acheron/tree.empty -/
def S.tree_empty (a0 : Value) (w : World) (R : Value → World → Prop) : Prop :=
 MkM w fun t1 w2 =>
 MkM w2 fun t3 w4 =>
 MkM w4 fun t5 w6 =>
 Bd #[.pointer none, .map none, .map none, .int .i64 0, .int .i64 0, .map none] [(0, 1), (1, 1), (2, 1), (3, 1), (4, 1), (5, 1)] [(1, t1), (2, t3), (3, (.int .i64 1)), (5, t5)] fun t7 =>
 Al Ty.tree_Tree (t7 : Value).cells w6 fun t8 w9 =>
 LnL a0 fun t10 =>
 ∃ (I11 : List Value → World → Prop) (m12 : List Value → World → Nat), I11 [(.int .i64 0)] w9 ∧ ∀ t15, ∀ (u13 : Env) (w14 : World), I11 [t15] w14 →
 Bi .lss t15 t10 fun t16 =>
 Cnd t16 (
 IxA 2 a0 t15 fun t17 =>
 LdA PP 2 t17 w14 fun t18 =>
 Al Ty.tree_Group #[.string ⟨#[]⟩, .slice none 0 0] w14 fun t19 w20 =>
 St PP 2 t19 t18 w20 fun w21 =>
 Dr w21 fun w22 =>
 Nc t8 fun t23 =>
 Fa 2 t23 fun t24 =>
 Ld t24 w22 fun t25 =>
 Fa 0 t19 fun t26 =>
 Ld t26 w22 fun t27 =>
 Fa 1 t19 fun t28 =>
 Ld t28 w22 fun t29 =>
 Ca PP Fn.slices_Clone_sl_string_string #[t29] w22 fun t30 w31 =>
 (Ld t24 w31 fun t32 =>
 t32 = t25) ∧
 (Ld t26 w31 fun t33 =>
 t33 = t27) ∧
 Ef PP (Instr.mapUpdate Ty.map_string_sl_string t25 t27 t30) w31 fun _ w34 =>
 Bi .add t15 (.int .i64 1) fun t35 =>
 I11 [t35] w34 ∧ m12 [t35] w34 < m12 [t15] w14) (
 R t8 w14)
def S.tree_empty.an : Ann := (.seq .leaf (.seq .leaf (.seq (.seq .leaf (.block (.loop (.seq .leaf (.seq (.cond .leaf .leaf) (.seq (.block (.seq .leaf (.draw [[],[0],[0,1],[0,1,2],[],[4],[],[6],[6,7],[0,1,2,3,4,5,6,7,8]] (.calm 0 (.calm 1 (.calm 2 (.calm 3 (.calm 4 (.calm 5 (.calm 6 (.calm 7 (.eff1 8 [3,5] (.eff1 9 [] .done))))))))))))) .leaf))) [13] [5,14,15,16,17,18,19,20,21,22,23,24,25,26]))) (.seq .leaf .leaf))))
theorem S.tree_empty.eq (a0 : Value) (w : World) (R : Value → World → Prop) : S.tree_empty a0 w R = fnC PP 28 (Tryz.f123.body.getD .skip) S.tree_empty.an [.tmp 2] [a0] w R := by kernel_rfl
theorem S.tree_empty.calls {a0 : Value} {w : World} {R : Value → World → Prop} (h : S.tree_empty a0 w R) : Ca PP Fn.tree_empty #[a0] w R :=
  fnC_calls mixed (f := Fn.tree_empty) (an := S.tree_empty.an) Tryz.func123 rfl (by show _ ≤ _; exact Nat.le_of_ble_eq_true rfl) (S.tree_empty.eq a0 w R ▸ h)
/-- (*acheron/tree.node).is -/
def S.tree_node_is (a0 a1 : Value) (w : World) (R : Value → World → Prop) : Prop :=
 Nc a0 fun t1 =>
 Fa 0 t1 fun t2 =>
 Fa 3 t2 fun t3 =>
 St PP 1 t3 a1 w fun w4 =>
 Nc a0 fun t5 =>
 Fa 0 t5 fun t6 =>
 Fa 0 t6 fun t7 =>
 Fa 0 t7 fun t8 =>
 St PP 1 t8 (.int .i64 0) w4 fun w9 =>
 MkM w9 fun t10 w11 =>
 Ef PP (Instr.mapUpdate Ty.map_int_int t10 (.int .i64 2147483648) (.int .i64 128)) w11 fun _ w12 =>
 Ef PP (Instr.mapUpdate Ty.map_int_int t10 (.int .i64 1073741824) (.int .i64 64)) w12 fun _ w13 =>
 Ef PP (Instr.mapUpdate Ty.map_int_int t10 (.int .i64 536870912) (.int .i64 32)) w13 fun _ w14 =>
 Ef PP (Instr.range Ty.map_int_int t10) w14 fun t15 w16 =>
 ∃ (I17 : List Value → World → Prop) (m18 : List Value → World → Nat), I17 [] w16 ∧ ∀ (u19 : Env) (w20 : World), I17 [] w20 →
 Ef PP (Instr.next t15 false Ty.t) w20 fun t21 w22 =>
 Ex t21 0 fun t23 =>
 Cnd t23 (
 Rd PP (Instr.entry t15) w22 fun t24 =>
 Ex t24 0 fun t25 =>
 Ex t24 1 fun t26 =>
 Bi .and a1 t25 fun t27 =>
 Bi .neq t27 (.int .i64 0) fun t28 =>
 Cnd t28 (
 Nc a0 fun t29 =>
 Fa 0 t29 fun t30 =>
 Fa 0 t30 fun t31 =>
 Fa 0 t31 fun t32 =>
 Ld t32 w22 fun t33 =>
 Bi .or t33 t26 fun t34 =>
 Nc a0 fun t35 =>
 Fa 0 t35 fun t36 =>
 Fa 0 t36 fun t37 =>
 Fa 0 t37 fun t38 =>
 St PP 1 t38 t34 w22 fun w39 =>
 I17 [] w39 ∧ m18 [] w39 < m18 [] w20) (
 I17 [] w22 ∧ m18 [] w22 < m18 [] w20)) (
 R (.tuple #[]) w22)
def S.tree_node_is.an : Ann := (.seq .leaf (.seq .leaf (.block (.loop (.seq .leaf (.seq (.cond .leaf .leaf) (.block (.seq .leaf (.seq .leaf (.cond .leaf .leaf)))))) [] [4,5,19,20,21,22,23,24,25,26,27,28,29,30,31,32,33,34,35,36,37,38,39]))))
theorem S.tree_node_is.eq (a0 a1 : Value) (w : World) (R : Value → World → Prop) : S.tree_node_is a0 a1 w R = fnC PP 40 (Tryz.f124.body.getD .skip) S.tree_node_is.an [] [a0, a1] w R := by kernel_rfl
theorem S.tree_node_is.calls {a0 a1 : Value} {w : World} {R : Value → World → Prop} (h : S.tree_node_is a0 a1 w R) : Ca PP Fn.tree_node_is #[a0, a1] w R :=
  fnC_calls mixed (f := Fn.tree_node_is) (an := S.tree_node_is.an) Tryz.func124 rfl (by show _ ≤ _; exact Nat.le_of_ble_eq_true rfl) (S.tree_node_is.eq a0 a1 w R ▸ h)
/-- strings.SplitSeq -/
def S.strings_SplitSeq (a0 a1 : Value) (w : World) (R : Value → World → Prop) : Prop :=
 Ca PP Fn.strings_splitSeq #[a0, a1, (.int .i64 0)] w fun t1 w2 =>
 R t1 w2
def S.strings_SplitSeq.an : Ann := (.seq .leaf (.seq .leaf .leaf))
theorem S.strings_SplitSeq.eq (a0 a1 : Value) (w : World) (R : Value → World → Prop) : S.strings_SplitSeq a0 a1 w R = fnC PP 8 (Tryz.f126.body.getD .skip) S.strings_SplitSeq.an [.tmp 4] [a0, a1] w R := by kernel_rfl
theorem S.strings_SplitSeq.calls {a0 a1 : Value} {w : World} {R : Value → World → Prop} (h : S.strings_SplitSeq a0 a1 w R) : Ca PP Fn.strings_SplitSeq #[a0, a1] w R :=
  fnC_calls mixed (f := Fn.strings_SplitSeq) (an := S.strings_SplitSeq.an) Tryz.func126 rfl (by show _ ≤ _; exact Nat.le_of_ble_eq_true rfl) (S.strings_SplitSeq.eq a0 a1 w R ▸ h)
/-- acheron/tree.Split -/
def S.tree_Split (a0 : Value) (w : World) (R : Value → World → Prop) : Prop :=
 Al Ty.sl_string #[.slice none 0 0] w fun t1 w2 =>
 Al Ty.api_Errno #[.int .i64 0] w2 fun t3 w4 =>
 LnS a0 fun t5 =>
 Bi .gtr t5 (.int .i64 1024) fun t6 =>
 Cnd t6 (
 St PP 1 t1 (.slice none 0 0) w4 fun w7 =>
 St PP 1 t3 (.int .i64 3) w7 fun w8 =>
 Ld t1 w8 fun t9 =>
 Ld t3 w8 fun t10 =>
 R (.tuple #[t9, t10]) w8) (
 Al Ty.sl_string #[.slice none 0 0] w4 fun t11 w12 =>
 Ca PP Fn.tree_Clean #[a0] w12 fun t13 w14 =>
 Ca PP Fn.strings_TrimPrefix #[t13, (.string ⟨#[47]⟩)] w14 fun t15 w16 =>
 Ca PP Fn.strings_SplitSeq #[t15, (.string ⟨#[47]⟩)] w16 fun t17 w18 =>
 RFo PP t17 w18 (RB.one fun r_19 L_20 t21 w22 Rn_23 Re_24 Rr_25 =>
 Bgn r_19 L_20 w22 fun w26 =>
 ∀ J27 : List Value → World → Prop, (∀ t30, ∀ w29 : World, (∀ u28 : Env,
 Cnd t30 (
 Rn_23 w29) (
 ∀ J31 : List Value → World → Prop, (∀ t34, ∀ w33 : World, (∀ u32 : Env,
 Cnd t34 (
 St PP 1 t1 (.slice none 0 0) w33 fun w35 =>
 St PP 1 t3 (.int .i64 8) w35 fun w36 =>
 Rr_25 w36) (
 Ld t11 w33 fun t37 =>
 Ef PP (Instr.buildSlice Ty.sl_string 1 #[(0, t21)]) w33 fun t38 w39 =>
 Ef PP (Builtin.append_ #[Ty.sl_string, Ty.sl_string] Ty.sl_string #[t37, t38]) w39 fun t40 w41 =>
 St PP 1 t11 t40 w41 fun w42 =>
 Rn_23 w42)) → J31 [t34] w33) →
 Bi .neq t21 (.string ⟨#[46, 46]⟩) fun t43 =>
 Gd t43 true (fun k44 => k44 t21 w29) w29 fun t45 w46 =>
 Gd t43 true (fun k47 => Ca PP Fn.tree_Valid #[t45] w46 fun t50 w51 =>
 k47 t50 w51) w46 fun t48 w49 =>
 Gd t43 true (fun k52 => Un .not t48 fun t55 =>
 k52 t55 w49) w49 fun t53 w54 =>
 Pk t43 t53 (.bool false) fun t56 =>
 J31 [t56] w54)) → J27 [t30] w29) →
 Bi .eql t21 (.string ⟨#[]⟩) fun t57 =>
 Gd t57 false (fun k58 => k58 t21 w26) w26 fun t59 w60 =>
 Gd t57 false (fun k61 => Bi .eql t59 (.string ⟨#[46]⟩) fun t64 =>
 k61 t64 w60) w60 fun t62 w63 =>
 Pk t57 (.bool true) t62 fun t65 =>
 J27 [t65] w63) (fun D_66 w67 =>
 Ld t11 w67 fun t68 =>
 St PP 1 t1 t68 w67 fun w69 =>
 St PP 1 t3 (.int .i64 0) w69 fun w70 =>
 Lvs PP (.mark D_66 :: []) w70 fun w71 =>
 Ld t1 w71 fun t72 =>
 Ld t3 w71 fun t73 =>
 R (.tuple #[t72, t73]) w71) [] (fun D_74 w75 =>
 Lvs PP (.mark D_74 :: []) w75 fun w76 =>
 Ld t1 w76 fun t77 =>
 Ld t3 w76 fun t78 =>
 R (.tuple #[t77, t78]) w76))
def S.tree_Split.an : Ann := (.seq .leaf (.seq (.seq .leaf (.cond (.seq .leaf .leaf) .leaf)) (.seq .leaf (.seq (.seq .leaf (.block (.rf .leaf (.block (.block (.join .leaf [18] [19,20,21,22,23,24] (.cond .leaf (.join .leaf [25] [26,27,28,29,30,31,32] (.cond (.seq .leaf .leaf) .leaf)))))) []))) (.seq .leaf .leaf)))))
theorem S.tree_Split.eq (a0 : Value) (w : World) (R : Value → World → Prop) : S.tree_Split a0 w R = fnC PP 34 (Tryz.f129.body.getD .skip) S.tree_Split.an [.cell 2 72, .cell 3 44] [a0] w R := by kernel_rfl
theorem S.tree_Split.calls {a0 : Value} {w : World} {R : Value → World → Prop} (h : S.tree_Split a0 w R) : Ca PP Fn.tree_Split #[a0] w R :=
  fnC_calls mixed (f := Fn.tree_Split) (an := S.tree_Split.an) Tryz.func129 rfl (by show _ ≤ _; exact Nat.le_of_ble_eq_true rfl) (S.tree_Split.eq a0 w R ▸ h)
/-- acheron/tree.right -/
def S.tree_right (a0 : Value) (w : World) (R : Value → World → Prop) : Prop :=
 ∀ J1 : List Value → World → Prop, (∀ t4, ∀ w3 : World, (∀ u2 : Env,
 R t4 w3) → J1 [t4] w3) →
 Bi .andNot a0 (.int .i64 3758096895) fun t5 =>
 Bi .eql t5 (.int .i64 0) fun t6 =>
 Gd t6 true (fun k7 => k7 a0 w) w fun t8 w9 =>
 Gd t6 true (fun k10 => Bi .and t8 (.int .i64 2147483648) fun t13 =>
 k10 t13 w9) w9 fun t11 w12 =>
 Gd t6 true (fun k14 => Bi .eql t11 (.int .i64 0) fun t17 =>
 k14 t17 w12) w12 fun t15 w16 =>
 Gd t6 true (fun k18 => k18 t15 w16) w16 fun t19 w20 =>
 Gd t19 false (fun k21 => k21 a0 w20) w20 fun t22 w23 =>
 Gd t19 false (fun k24 => Bi .and t22 (.int .i64 1610612736) fun t27 =>
 k24 t27 w23) w23 fun t25 w26 =>
 Gd t19 false (fun k28 => Bi .eql t25 (.int .i64 0) fun t31 =>
 k28 t31 w26) w26 fun t29 w30 =>
 Gd t6 true (fun k32 => Pk t19 (.bool true) t29 fun t35 =>
 k32 t35 w30) w30 fun t33 w34 =>
 Pk t6 t33 (.bool false) fun t36 =>
 J1 [t36] w34
def S.tree_right.an : Ann := (.seq .leaf (.join .leaf [2] [3,4,5,6,7,8,9,10,11,12,13,14,15] .leaf))
theorem S.tree_right.eq (a0 : Value) (w : World) (R : Value → World → Prop) : S.tree_right a0 w R = fnC PP 16 (Tryz.f130.body.getD .skip) S.tree_right.an [.tmp 2] [a0] w R := by kernel_rfl
theorem S.tree_right.calls {a0 : Value} {w : World} {R : Value → World → Prop} (h : S.tree_right a0 w R) : Ca PP Fn.tree_right #[a0] w R :=
  fnC_calls mixed (f := Fn.tree_right) (an := S.tree_right.an) Tryz.func130 rfl (by show _ ≤ _; exact Nat.le_of_ble_eq_true rfl) (S.tree_right.eq a0 w R ▸ h)
/-- (*acheron/tree.node).resize -/
def S.tree_node_resize (a0 a1 : Value) (w : World) (R : Value → World → Prop) : Prop :=
 Ef PP (Instr.makeSlice Ty.sl_uint8 a1 a1) w fun t1 w2 =>
 Nc a0 fun t3 =>
 Fa 10 t3 fun t4 =>
 Ld t4 w2 fun t5 =>
 Ef PP (Builtin.copy_ #[Ty.sl_uint8, Ty.sl_uint8] Ty.int #[t1, t5]) w2 fun t6 w7 =>
 Nc a0 fun t8 =>
 Fa 10 t8 fun t9 =>
 St PP 1 t9 t1 w7 fun w10 =>
 R (.tuple #[]) w10
def S.tree_node_resize.an : Ann := (.seq .leaf (.seq .leaf .leaf))
theorem S.tree_node_resize.eq (a0 a1 : Value) (w : World) (R : Value → World → Prop) : S.tree_node_resize a0 a1 w R = fnC PP 17 (Tryz.f131.body.getD .skip) S.tree_node_resize.an [] [a0, a1] w R := by kernel_rfl
theorem S.tree_node_resize.calls {a0 a1 : Value} {w : World} {R : Value → World → Prop} (h : S.tree_node_resize a0 a1 w R) : Ca PP Fn.tree_node_resize #[a0, a1] w R :=
  fnC_calls mixed (f := Fn.tree_node_resize) (an := S.tree_node_resize.an) Tryz.func131 rfl (by show _ ≤ _; exact Nat.le_of_ble_eq_true rfl) (S.tree_node_resize.eq a0 a1 w R ▸ h)
/-- (*acheron/tree.Tree).remove -/
def S.tree_Tree_remove (a0 a1 a2 : Value) (w : World) (R : Value → World → Prop) : Prop :=
 Dr w fun w1 =>
 Nc a2 fun t2 =>
 Fa 12 t2 fun t3 =>
 Ld t3 w1 fun t4 =>
 Nc t4 fun t5 =>
 Fa 11 t5 fun t6 =>
 Ld t6 w1 fun t7 =>
 Nc a2 fun t8 =>
 Fa 0 t8 fun t9 =>
 Fa 6 t9 fun t10 =>
 Ld t10 w1 fun t11 =>
 Ef PP (Builtin.delete_ #[Ty.map_string_p_tree_node, Ty.string] Ty.t #[t7, t11]) w1 fun x_12 w13 =>
 Dr w13 fun w14 =>
 Nc a0 fun t15 =>
 Fa 1 t15 fun t16 =>
 Ld t16 w14 fun t17 =>
 Nc a2 fun t18 =>
 Fa 0 t18 fun t19 =>
 Fa 0 t19 fun t20 =>
 Fa 2 t20 fun t21 =>
 Ld t21 w14 fun t22 =>
 Ef PP (Builtin.delete_ #[Ty.map_int64_p_tree_node, Ty.int64] Ty.t #[t17, t22]) w14 fun x_23 w24 =>
 Nc a2 fun t25 =>
 Fa 13 t25 fun t26 =>
 St PP 1 t26 (.bool true) w24 fun w27 =>
 Nc a2 fun t28 =>
 Fa 12 t28 fun t29 =>
 Ld t29 w27 fun t30 =>
 Ef PP (Instr.buildSlice Ty.sl_p_tree_node 1 #[(0, t30)]) w27 fun t31 w32 =>
 Ca PP Fn.tree_Tree_change #[a0, a1, t31] w32 fun t33 w34 =>
 R (.tuple #[]) w34
def S.tree_Tree_remove.an : Ann := (.seq (.draw [[],[0],[0,1],[0,1,2],[0,1,2,3],[0,1,2,3,4],[0,1,2,3,4,5],[],[7],[7,8],[7,8,9],[7,8,9,10],[0,1,2,3,4,5,6,7,8,9,10,11]] (.calm 0 (.calm 1 (.calm 2 (.calm 3 (.calm 4 (.calm 5 (.calm 6 (.calm 7 (.calm 8 (.calm 9 (.calm 10 (.calm 11 (.eff1 12 [] .done)))))))))))))) (.seq (.draw [[],[0],[0,1],[0,1,2],[],[4],[4,5],[4,5,6],[4,5,6,7],[4,5,6,7,8],[0,1,2,3,4,5,6,7,8,9]] (.calm 0 (.calm 1 (.calm 2 (.calm 3 (.calm 4 (.calm 5 (.calm 6 (.calm 7 (.calm 8 (.calm 9 (.eff1 10 [] .done)))))))))))) (.seq .leaf .leaf)))
theorem S.tree_Tree_remove.eq (a0 a1 a2 : Value) (w : World) (R : Value → World → Prop) : S.tree_Tree_remove a0 a1 a2 w R = fnC PP 39 (Tryz.f132.body.getD .skip) S.tree_Tree_remove.an [] [a0, a1, a2] w R := by kernel_rfl
theorem S.tree_Tree_remove.calls {a0 a1 a2 : Value} {w : World} {R : Value → World → Prop} (h : S.tree_Tree_remove a0 a1 a2 w R) : Ca PP Fn.tree_Tree_remove #[a0, a1, a2] w R :=
  fnC_calls mixed (f := Fn.tree_Tree_remove) (an := S.tree_Tree_remove.an) Tryz.func132 rfl (by show _ ≤ _; exact Nat.le_of_ble_eq_true rfl) (S.tree_Tree_remove.eq a0 a1 a2 w R ▸ h)
/-- slices.Contains[[]string,string] -/
def S.slices_Contains_sl_string_string (a0 a1 : Value) (w : World) (R : Value → World → Prop) : Prop :=
 Ca PP Fn.slices_Index_sl_string_string #[a0, a1] w fun t1 w2 =>
 Bi .geq t1 (.int .i64 0) fun t3 =>
 R t3 w2
def S.slices_Contains_sl_string_string.an : Ann := (.seq .leaf (.seq .leaf .leaf))
theorem S.slices_Contains_sl_string_string.eq (a0 a1 : Value) (w : World) (R : Value → World → Prop) : S.slices_Contains_sl_string_string a0 a1 w R = fnC PP 9 (Tryz.f133.body.getD .skip) S.slices_Contains_sl_string_string.an [.tmp 4] [a0, a1] w R := by kernel_rfl
theorem S.slices_Contains_sl_string_string.calls {a0 a1 : Value} {w : World} {R : Value → World → Prop} (h : S.slices_Contains_sl_string_string a0 a1 w R) : Ca PP Fn.slices_Contains_sl_string_string #[a0, a1] w R :=
  fnC_calls mixed (f := Fn.slices_Contains_sl_string_string) (an := S.slices_Contains_sl_string_string.an) Tryz.func133 rfl (by show _ ≤ _; exact Nat.le_of_ble_eq_true rfl) (S.slices_Contains_sl_string_string.eq a0 a1 w R ▸ h)
/-- slices.Collect[string] -/
def S.slices_Collect_string (a0 : Value) (w : World) (R : Value → World → Prop) : Prop :=
 Ca PP Fn.slices_AppendSeq_sl_string_string #[(.slice none 0 0), a0] w fun t1 w2 =>
 R t1 w2
def S.slices_Collect_string.an : Ann := (.seq .leaf (.seq .leaf .leaf))
theorem S.slices_Collect_string.eq (a0 : Value) (w : World) (R : Value → World → Prop) : S.slices_Collect_string a0 w R = fnC PP 5 (Tryz.f134.body.getD .skip) S.slices_Collect_string.an [.tmp 2] [a0] w R := by kernel_rfl
theorem S.slices_Collect_string.calls {a0 : Value} {w : World} {R : Value → World → Prop} (h : S.slices_Collect_string a0 w R) : Ca PP Fn.slices_Collect_string #[a0] w R :=
  fnC_calls mixed (f := Fn.slices_Collect_string) (an := S.slices_Collect_string.an) Tryz.func134 rfl (by show _ ≤ _; exact Nat.le_of_ble_eq_true rfl) (S.slices_Collect_string.eq a0 w R ▸ h)
/-- maps.Keys[map[string]*acheron/tree.node,string,*acheron/tree.node]$1 -/
def S.maps_Keys_map_string_p_tree_node_string_p_tree_node_1 (a0 a1 : Value) (w : World) (R : Value → World → Prop) : Prop :=
 Ld a1 w fun t1 =>
 Ef PP (Instr.range Ty.map_string_p_tree_node t1) w fun t2 w3 =>
 ∃ (I4 : List Value → World → Prop) (m5 : List Value → World → Nat), I4 [] w3 ∧ ∀ (u6 : Env) (w7 : World), I4 [] w7 →
 Ef PP (Instr.next t2 false Ty.t) w7 fun t8 w9 =>
 Ex t8 0 fun t10 =>
 Cnd t10 (
 Rd PP (Instr.entry t2) w9 fun t11 =>
 Ex t11 0 fun t12 =>
 CaV PP a0 #[t12] w9 fun t13 w14 =>
 Un .not t13 fun t15 =>
 Cnd t15 (
 R (.tuple #[]) w14) (
 I4 [] w14 ∧ m5 [] w14 < m5 [] w7)) (
 R (.tuple #[]) w9)
def S.maps_Keys_map_string_p_tree_node_string_p_tree_node_1.an : Ann := (.seq .leaf (.block (.loop (.seq .leaf (.seq (.cond .leaf .leaf) (.block (.seq .leaf (.seq .leaf (.cond .leaf .leaf)))))) [] [3,6,7,8,9,10,11,12,13])))
theorem S.maps_Keys_map_string_p_tree_node_string_p_tree_node_1.eq (a0 a1 : Value) (w : World) (R : Value → World → Prop) : S.maps_Keys_map_string_p_tree_node_string_p_tree_node_1 a0 a1 w R = fnC PP 14 (Tryz.f136.body.getD .skip) S.maps_Keys_map_string_p_tree_node_string_p_tree_node_1.an [] [a0, a1] w R := by kernel_rfl
theorem S.maps_Keys_map_string_p_tree_node_string_p_tree_node_1.calls {a0 a1 : Value} {w : World} {R : Value → World → Prop} (h : S.maps_Keys_map_string_p_tree_node_string_p_tree_node_1 a0 a1 w R) : Ca PP Fn.maps_Keys_map_string_p_tree_node_string_p_tree_node_1 #[a0, a1] w R :=
  fnC_calls mixed (f := Fn.maps_Keys_map_string_p_tree_node_string_p_tree_node_1) (an := S.maps_Keys_map_string_p_tree_node_string_p_tree_node_1.an) Tryz.func136 rfl (by show _ ≤ _; exact Nat.le_of_ble_eq_true rfl) (S.maps_Keys_map_string_p_tree_node_string_p_tree_node_1.eq a0 a1 w R ▸ h)
/-- slices.Grow[[]acheron/space.Place,acheron/space.Place] -/
def S.slices_Grow_sl_space_Place_space_Place (a0 a1 : Value) (w : World) (R : Value → World → Prop) : Prop :=
 ∀ J1 : List Value → World → Prop, (∀ w3 : World, (∀ u2 : Env,
 ∀ J4 : List Value → World → Prop, (∀ t7, ∀ w6 : World, (∀ u5 : Env,
 R t7 w6) → J4 [t7] w6) →
 Cp a0 fun t8 =>
 LnL a0 fun t9 =>
 Bi .sub t8 t9 fun t10 =>
 Bi .sub a1 t10 fun t11 =>
 Bi .gtr t11 (.int .i64 0) fun t12 =>
 Cnd t12 (
 Cp a0 fun t13 =>
 Sl 2 a0 none (some t13) fun t14 =>
 Ef PP (Builtin.append_ #[Ty.sl_space_Place, Ty.int] Ty.sl_space_Place #[t14, t11]) w3 fun t15 w16 =>
 LnL a0 fun t17 =>
 Sl 2 t15 none (some t17) fun t18 =>
 J4 [t18] w16) (
 J4 [a0] w3)) → J1 [] w3) →
 Bi .lss a1 (.int .i64 0) fun t19 =>
 Cnd t19 (
 False) (
 J1 [] w)
def S.slices_Grow_sl_space_Place_space_Place.an : Ann := (.seq .leaf (.join (.seq .leaf (.cond .leaf .leaf)) [] [5,6,7] (.join (.seq .leaf (.seq .leaf (.cond .leaf .leaf))) [0] [1,8,9,10,11,12,13,14,15,16,17,18,19,20,21,22,23,24,25] (.seq .leaf .leaf))))
theorem S.slices_Grow_sl_space_Place_space_Place.eq (a0 a1 : Value) (w : World) (R : Value → World → Prop) : S.slices_Grow_sl_space_Place_space_Place a0 a1 w R = fnC PP 27 (Tryz.f138.body.getD .skip) S.slices_Grow_sl_space_Place_space_Place.an [.tmp 4] [a0, a1] w R := by kernel_rfl
theorem S.slices_Grow_sl_space_Place_space_Place.calls {a0 a1 : Value} {w : World} {R : Value → World → Prop} (h : S.slices_Grow_sl_space_Place_space_Place a0 a1 w R) : Ca PP Fn.slices_Grow_sl_space_Place_space_Place #[a0, a1] w R :=
  fnC_calls mixed (f := Fn.slices_Grow_sl_space_Place_space_Place) (an := S.slices_Grow_sl_space_Place_space_Place.an) Tryz.func138 rfl (by show _ ≤ _; exact Nat.le_of_ble_eq_true rfl) (S.slices_Grow_sl_space_Place_space_Place.eq a0 a1 w R ▸ h)
/-- slices.Grow[[]bool,bool] -/
def S.slices_Grow_sl_bool_bool (a0 a1 : Value) (w : World) (R : Value → World → Prop) : Prop :=
 ∀ J1 : List Value → World → Prop, (∀ w3 : World, (∀ u2 : Env,
 ∀ J4 : List Value → World → Prop, (∀ t7, ∀ w6 : World, (∀ u5 : Env,
 R t7 w6) → J4 [t7] w6) →
 Cp a0 fun t8 =>
 LnL a0 fun t9 =>
 Bi .sub t8 t9 fun t10 =>
 Bi .sub a1 t10 fun t11 =>
 Bi .gtr t11 (.int .i64 0) fun t12 =>
 Cnd t12 (
 Cp a0 fun t13 =>
 Sl 1 a0 none (some t13) fun t14 =>
 Ef PP (Builtin.append_ #[Ty.sl_bool, Ty.int] Ty.sl_bool #[t14, t11]) w3 fun t15 w16 =>
 LnL a0 fun t17 =>
 Sl 1 t15 none (some t17) fun t18 =>
 J4 [t18] w16) (
 J4 [a0] w3)) → J1 [] w3) →
 Bi .lss a1 (.int .i64 0) fun t19 =>
 Cnd t19 (
 False) (
 J1 [] w)
def S.slices_Grow_sl_bool_bool.an : Ann := (.seq .leaf (.join (.seq .leaf (.cond .leaf .leaf)) [] [5,6,7] (.join (.seq .leaf (.seq .leaf (.cond .leaf .leaf))) [0] [1,8,9,10,11,12,13,14,15,16,17,18,19,20,21,22,23,24,25] (.seq .leaf .leaf))))
theorem S.slices_Grow_sl_bool_bool.eq (a0 a1 : Value) (w : World) (R : Value → World → Prop) : S.slices_Grow_sl_bool_bool a0 a1 w R = fnC PP 27 (Tryz.f139.body.getD .skip) S.slices_Grow_sl_bool_bool.an [.tmp 4] [a0, a1] w R := by kernel_rfl
theorem S.slices_Grow_sl_bool_bool.calls {a0 a1 : Value} {w : World} {R : Value → World → Prop} (h : S.slices_Grow_sl_bool_bool a0 a1 w R) : Ca PP Fn.slices_Grow_sl_bool_bool #[a0, a1] w R :=
  fnC_calls mixed (f := Fn.slices_Grow_sl_bool_bool) (an := S.slices_Grow_sl_bool_bool.an) Tryz.func139 rfl (by show _ ≤ _; exact Nat.le_of_ble_eq_true rfl) (S.slices_Grow_sl_bool_bool.eq a0 a1 w R ▸ h)
/-- acheron/tree.repeated -/
def S.tree_repeated (a0 : Value) (w : World) (R : Value → World → Prop) : Prop :=
 Ca PP Fn.slices_Values_sl_string_string #[a0] w fun t1 w2 =>
 Ca PP Fn.slices_Sorted_string #[t1] w2 fun t3 w4 =>
 Ca PP Fn.slices_Compact_sl_string_string #[t3] w4 fun t5 w6 =>
 LnL t5 fun t7 =>
 LnL t3 fun t8 =>
 Bi .lss t7 t8 fun t9 =>
 R t9 w6
def S.tree_repeated.an : Ann := (.seq .leaf (.seq .leaf (.seq .leaf .leaf)))
theorem S.tree_repeated.eq (a0 : Value) (w : World) (R : Value → World → Prop) : S.tree_repeated a0 w R = fnC PP 12 (Tryz.f143.body.getD .skip) S.tree_repeated.an [.tmp 2] [a0] w R := by kernel_rfl
theorem S.tree_repeated.calls {a0 : Value} {w : World} {R : Value → World → Prop} (h : S.tree_repeated a0 w R) : Ca PP Fn.tree_repeated #[a0] w R :=
  fnC_calls mixed (f := Fn.tree_repeated) (an := S.tree_repeated.an) Tryz.func143 rfl (by show _ ≤ _; exact Nat.le_of_ble_eq_true rfl) (S.tree_repeated.eq a0 w R ▸ h)
/-- acheron/tree.check$1 -/
def S.tree_check_1 (a0 : Value) (w : World) (R : Value → World → Prop) : Prop :=
 Ca PP Fn.tree_Valid #[a0] w fun t1 w2 =>
 Un .not t1 fun t3 =>
 R t3 w2
def S.tree_check_1.an : Ann := (.seq .leaf (.seq .leaf .leaf))
theorem S.tree_check_1.eq (a0 : Value) (w : World) (R : Value → World → Prop) : S.tree_check_1 a0 w R = fnC PP 6 (Tryz.f144.body.getD .skip) S.tree_check_1.an [.tmp 2] [a0] w R := by kernel_rfl
theorem S.tree_check_1.calls {a0 : Value} {w : World} {R : Value → World → Prop} (h : S.tree_check_1 a0 w R) : Ca PP Fn.tree_check_1 #[a0] w R :=
  fnC_calls mixed (f := Fn.tree_check_1) (an := S.tree_check_1.an) Tryz.func144 rfl (by show _ ≤ _; exact Nat.le_of_ble_eq_true rfl) (S.tree_check_1.eq a0 w R ▸ h)
/-- slices.Clone[[]string,string] -/
def S.slices_Clone_sl_string_string (a0 : Value) (w : World) (R : Value → World → Prop) : Prop :=
 Rd PP (eqS .eql Ty.sl_string (.tmp 3) (.const (.slice none 0 0)) a0 (.slice none 0 0)) w fun t1 =>
 Cnd t1 (
 R (.slice none 0 0) w) (
 Ef PP (Instr.buildSlice Ty.sl_string 0 #[]) w fun t2 w3 =>
 Ef PP (Builtin.append_ #[Ty.sl_string, Ty.sl_string] Ty.sl_string #[t2, a0]) w3 fun t4 w5 =>
 R t4 w5)
def S.slices_Clone_sl_string_string.an : Ann := (.seq .leaf (.seq (.seq .leaf (.cond (.seq .leaf .leaf) .leaf)) (.seq .leaf .leaf)))
theorem S.slices_Clone_sl_string_string.eq (a0 : Value) (w : World) (R : Value → World → Prop) : S.slices_Clone_sl_string_string a0 w R = fnC PP 8 (Tryz.f145.body.getD .skip) S.slices_Clone_sl_string_string.an [.tmp 2] [a0] w R := by kernel_rfl
theorem S.slices_Clone_sl_string_string.calls {a0 : Value} {w : World} {R : Value → World → Prop} (h : S.slices_Clone_sl_string_string a0 w R) : Ca PP Fn.slices_Clone_sl_string_string #[a0] w R :=
  fnC_calls mixed (f := Fn.slices_Clone_sl_string_string) (an := S.slices_Clone_sl_string_string.an) Tryz.func145 rfl (by show _ ≤ _; exact Nat.le_of_ble_eq_true rfl) (S.slices_Clone_sl_string_string.eq a0 w R ▸ h)
/-- strings.splitSeq -/
def S.strings_splitSeq (a0 a1 a2 : Value) (w : World) (R : Value → World → Prop) : Prop :=
 Al Ty.string (a0 : Value).cells w fun t1 w2 =>
 Al Ty.string (a1 : Value).cells w2 fun t3 w4 =>
 Al Ty.int (a2 : Value).cells w4 fun t5 w6 =>
 R (.func (.func Fn.strings_splitSeq_1) #[] #[t3, t1, t5]) w6
def S.strings_splitSeq.an : Ann := (.seq .leaf (.seq .leaf .leaf))
theorem S.strings_splitSeq.eq (a0 a1 a2 : Value) (w : World) (R : Value → World → Prop) : S.strings_splitSeq a0 a1 a2 w R = fnC PP 8 (Tryz.f147.body.getD .skip) S.strings_splitSeq.an [.tmp 6] [a0, a1, a2] w R := by kernel_rfl
theorem S.strings_splitSeq.calls {a0 a1 a2 : Value} {w : World} {R : Value → World → Prop} (h : S.strings_splitSeq a0 a1 a2 w R) : Ca PP Fn.strings_splitSeq #[a0, a1, a2] w R :=
  fnC_calls mixed (f := Fn.strings_splitSeq) (an := S.strings_splitSeq.an) Tryz.func147 rfl (by show _ ≤ _; exact Nat.le_of_ble_eq_true rfl) (S.strings_splitSeq.eq a0 a1 a2 w R ▸ h)
/-- slices.Index[[]string,string] -/
def S.slices_Index_sl_string_string (a0 a1 : Value) (w : World) (R : Value → World → Prop) : Prop :=
 LnL a0 fun t1 =>
 ∃ (I2 : List Value → World → Prop) (m3 : List Value → World → Nat), I2 [(.int .i64 0)] w ∧ ∀ t6, ∀ (u4 : Env) (w5 : World), I2 [t6] w5 →
 Bi .lss t6 t1 fun t7 =>
 Cnd t7 (
 IxA 1 a0 t6 fun t8 =>
 Ld t8 w5 fun t9 =>
 Bi .eql a1 t9 fun t10 =>
 Cnd t10 (
 R t6 w5) (
 Bi .add t6 (.int .i64 1) fun t11 =>
 I2 [t11] w5 ∧ m3 [t11] w5 < m3 [t6] w5)) (
 R (.int .i64 (-1)) w5)
def S.slices_Index_sl_string_string.an : Ann := (.seq .leaf (.seq (.seq .leaf (.block (.loop (.seq .leaf (.seq (.cond .leaf .leaf) (.seq (.block (.seq .leaf (.seq .leaf (.cond (.seq .leaf .leaf) .leaf)))) .leaf))) [8] [4,5,9,10,11,12,13,14,15,16,17,18]))) (.seq .leaf .leaf)))
theorem S.slices_Index_sl_string_string.eq (a0 a1 : Value) (w : World) (R : Value → World → Prop) : S.slices_Index_sl_string_string a0 a1 w R = fnC PP 19 (Tryz.f152.body.getD .skip) S.slices_Index_sl_string_string.an [.tmp 4] [a0, a1] w R := by kernel_rfl
theorem S.slices_Index_sl_string_string.calls {a0 a1 : Value} {w : World} {R : Value → World → Prop} (h : S.slices_Index_sl_string_string a0 a1 w R) : Ca PP Fn.slices_Index_sl_string_string #[a0, a1] w R :=
  fnC_calls mixed (f := Fn.slices_Index_sl_string_string) (an := S.slices_Index_sl_string_string.an) Tryz.func152 rfl (by show _ ≤ _; exact Nat.le_of_ble_eq_true rfl) (S.slices_Index_sl_string_string.eq a0 a1 w R ▸ h)
/-- slices.AppendSeq[[]string,string] -/
def S.slices_AppendSeq_sl_string_string (a0 a1 : Value) (w : World) (R : Value → World → Prop) : Prop :=
 Al Ty.sl_string (a0 : Value).cells w fun t1 w2 =>
 RFo PP a1 w2 (RB.one fun r_3 L_4 t5 w6 Rn_7 Re_8 Rr_9 =>
 Bgn r_3 L_4 w6 fun w10 =>
 Ld t1 w10 fun t11 =>
 Ef PP (Instr.buildSlice Ty.sl_string 1 #[(0, t5)]) w10 fun t12 w13 =>
 Ef PP (Builtin.append_ #[Ty.sl_string, Ty.sl_string] Ty.sl_string #[t11, t12]) w13 fun t14 w15 =>
 St PP 1 t1 t14 w15 fun w16 =>
 Rn_7 w16) (fun D_17 w18 =>
 Ld t1 w18 fun t19 =>
 Lvs PP (.mark D_17 :: []) w18 fun w20 =>
 R t19 w20) [] (fun D_21 w22 =>
 Lvs PP (.mark D_21 :: []) w22 fun w23 =>
 R (.slice none 0 0) w23)
def S.slices_AppendSeq_sl_string_string.an : Ann := (.seq .leaf (.seq (.seq .leaf (.block (.rf .leaf (.block .leaf) []))) (.seq .leaf .leaf)))
theorem S.slices_AppendSeq_sl_string_string.eq (a0 a1 : Value) (w : World) (R : Value → World → Prop) : S.slices_AppendSeq_sl_string_string a0 a1 w R = fnC PP 13 (Tryz.f153.body.getD .skip) S.slices_AppendSeq_sl_string_string.an [.tmp 4] [a0, a1] w R := by kernel_rfl
theorem S.slices_AppendSeq_sl_string_string.calls {a0 a1 : Value} {w : World} {R : Value → World → Prop} (h : S.slices_AppendSeq_sl_string_string a0 a1 w R) : Ca PP Fn.slices_AppendSeq_sl_string_string #[a0, a1] w R :=
  fnC_calls mixed (f := Fn.slices_AppendSeq_sl_string_string) (an := S.slices_AppendSeq_sl_string_string.an) Tryz.func153 rfl (by show _ ≤ _; exact Nat.le_of_ble_eq_true rfl) (S.slices_AppendSeq_sl_string_string.eq a0 a1 w R ▸ h)
/-- slices.Values[[]string,string] -/
def S.slices_Values_sl_string_string (a0 : Value) (w : World) (R : Value → World → Prop) : Prop :=
 Al Ty.sl_string (a0 : Value).cells w fun t1 w2 =>
 R (.func (.func Fn.slices_Values_sl_string_string_1) #[] #[t1]) w2
def S.slices_Values_sl_string_string.an : Ann := (.seq .leaf (.seq .leaf .leaf))
theorem S.slices_Values_sl_string_string.eq (a0 : Value) (w : World) (R : Value → World → Prop) : S.slices_Values_sl_string_string a0 w R = fnC PP 4 (Tryz.f168.body.getD .skip) S.slices_Values_sl_string_string.an [.tmp 2] [a0] w R := by kernel_rfl
theorem S.slices_Values_sl_string_string.calls {a0 : Value} {w : World} {R : Value → World → Prop} (h : S.slices_Values_sl_string_string a0 w R) : Ca PP Fn.slices_Values_sl_string_string #[a0] w R :=
  fnC_calls mixed (f := Fn.slices_Values_sl_string_string) (an := S.slices_Values_sl_string_string.an) Tryz.func168 rfl (by show _ ≤ _; exact Nat.le_of_ble_eq_true rfl) (S.slices_Values_sl_string_string.eq a0 w R ▸ h)
/-- strings.splitSeq$1 -/
def S.strings_splitSeq_1 (a0 a1 a2 a3 : Value) (w : World) (R : Value → World → Prop) : Prop :=
 Ld a1 w fun t1 =>
 LnS t1 fun t2 =>
 Bi .eql t2 (.int .i64 0) fun t3 =>
 Cnd t3 (
 ∃ (I4 : List Value → World → Prop) (m5 : List Value → World → Nat), I4 [] w ∧ ∀ (u6 : Env) (w7 : World), I4 [] w7 →
 Ld a2 w7 fun t8 =>
 LnS t8 fun t9 =>
 Bi .gtr t9 (.int .i64 0) fun t10 =>
 Cnd t10 (
 Ld a2 w7 fun t11 =>
 Ca PP Fn.unicode_utf8_DecodeRuneInString #[t11] w7 fun t12 w13 =>
 Ex t12 0 fun t14 =>
 Ex t12 1 fun t15 =>
 Ld a2 w13 fun t16 =>
 SlS t16 none (some t15) fun t17 =>
 CaV PP a0 #[t17] w13 fun t18 w19 =>
 Un .not t18 fun t20 =>
 Cnd t20 (
 R (.tuple #[]) w19) (
 Ld a2 w19 fun t21 =>
 SlS t21 (some t15) none fun t22 =>
 St PP 1 a2 t22 w19 fun w23 =>
 I4 [] w23 ∧ m5 [] w23 < m5 [] w7)) (
 R (.tuple #[]) w7)) (
 ∃ (I24 : List Value → World → Prop) (m25 : List Value → World → Nat), I24 [] w ∧ ∀ (u26 : Env) (w27 : World), I24 [] w27 →
 Ld a2 w27 fun t28 =>
 Ld a1 w27 fun t29 =>
 Ca PP Fn.strings_Index #[t28, t29] w27 fun t30 w31 =>
 Bi .lss t30 (.int .i64 0) fun t32 =>
 Cnd t32 (
 Ld a2 w31 fun t33 =>
 CaV PP a0 #[t33] w31 fun t34 w35 =>
 R (.tuple #[]) w35) (
 Ld a2 w31 fun t36 =>
 Ld a3 w31 fun t37 =>
 Bi .add t30 t37 fun t38 =>
 SlS t36 none (some t38) fun t39 =>
 CaV PP a0 #[t39] w31 fun t40 w41 =>
 Un .not t40 fun t42 =>
 Cnd t42 (
 R (.tuple #[]) w41) (
 Ld a2 w41 fun t43 =>
 Ld a1 w41 fun t44 =>
 LnS t44 fun t45 =>
 Bi .add t30 t45 fun t46 =>
 SlS t43 (some t46) none fun t47 =>
 St PP 1 a2 t47 w41 fun w48 =>
 I24 [] w48 ∧ m25 [] w48 < m25 [] w27)))
def S.strings_splitSeq_1.an : Ann := (.seq (.seq .leaf (.cond (.seq (.block (.loop (.seq (.seq .leaf (.cond .leaf .leaf)) (.block (.seq .leaf (.seq (.seq .leaf (.cond .leaf .leaf)) .leaf)))) [] [5,6,12,13,14,15,16,17,18,19,20,21,22,23,24,25,26,27,28])) .leaf) .leaf)) (.seq (.block (.loop (.block (.seq .leaf (.seq (.seq .leaf (.cond .leaf .leaf)) (.seq .leaf (.seq (.seq .leaf (.cond .leaf .leaf)) .leaf))))) [] [7,8,29,30,31,32,33,34,35,36,37,38,39,40,41,42,43,44,45,46,47,48])) .leaf))
theorem S.strings_splitSeq_1.eq (a0 a1 a2 a3 : Value) (w : World) (R : Value → World → Prop) : S.strings_splitSeq_1 a0 a1 a2 a3 w R = fnC PP 52 (Tryz.f170.body.getD .skip) S.strings_splitSeq_1.an [] [a0, a1, a2, a3] w R := by kernel_rfl
theorem S.strings_splitSeq_1.calls {a0 a1 a2 a3 : Value} {w : World} {R : Value → World → Prop} (h : S.strings_splitSeq_1 a0 a1 a2 a3 w R) : Ca PP Fn.strings_splitSeq_1 #[a0, a1, a2, a3] w R :=
  fnC_calls mixed (f := Fn.strings_splitSeq_1) (an := S.strings_splitSeq_1.an) Tryz.func170 rfl (by show _ ≤ _; exact Nat.le_of_ble_eq_true rfl) (S.strings_splitSeq_1.eq a0 a1 a2 a3 w R ▸ h)
/-- slices.Values[[]string,string]$1 -/
def S.slices_Values_sl_string_string_1 (a0 a1 : Value) (w : World) (R : Value → World → Prop) : Prop :=
 Ld a1 w fun t1 =>
 LnL t1 fun t2 =>
 ∃ (I3 : List Value → World → Prop) (m4 : List Value → World → Nat), I3 [(.int .i64 0)] w ∧ ∀ t7, ∀ (u5 : Env) (w6 : World), I3 [t7] w6 →
 Bi .lss t7 t2 fun t8 =>
 Cnd t8 (
 IxA 1 t1 t7 fun t9 =>
 Ld t9 w6 fun t10 =>
 CaV PP a0 #[t10] w6 fun t11 w12 =>
 Un .not t11 fun t13 =>
 Cnd t13 (
 R (.tuple #[]) w12) (
 Bi .add t7 (.int .i64 1) fun t14 =>
 I3 [t14] w12 ∧ m4 [t14] w12 < m4 [t7] w6)) (
 R (.tuple #[]) w6)
def S.slices_Values_sl_string_string_1.an : Ann := (.seq .leaf (.block (.loop (.seq .leaf (.seq (.cond .leaf .leaf) (.seq (.block (.seq .leaf (.seq .leaf (.cond .leaf .leaf)))) .leaf))) [7] [4,8,9,10,11,12,13,14,15])))
theorem S.slices_Values_sl_string_string_1.eq (a0 a1 : Value) (w : World) (R : Value → World → Prop) : S.slices_Values_sl_string_string_1 a0 a1 w R = fnC PP 16 (Tryz.f191.body.getD .skip) S.slices_Values_sl_string_string_1.an [] [a0, a1] w R := by kernel_rfl
theorem S.slices_Values_sl_string_string_1.calls {a0 a1 : Value} {w : World} {R : Value → World → Prop} (h : S.slices_Values_sl_string_string_1 a0 a1 w R) : Ca PP Fn.slices_Values_sl_string_string_1 #[a0, a1] w R :=
  fnC_calls mixed (f := Fn.slices_Values_sl_string_string_1) (an := S.slices_Values_sl_string_string_1.an) Tryz.func191 rfl (by show _ ≤ _; exact Nat.le_of_ble_eq_true rfl) (S.slices_Values_sl_string_string_1.eq a0 a1 w R ▸ h)
/-- (*acheron/tree.Tree).Read -/
def S.tree_Tree_Read (a0 a1 a2 a3 : Value) (w : World) (R : Value → World → Prop) : Prop :=
 Ca PP Fn.tree_Tree_opened #[a0, a1] w fun t1 w2 =>
 Ex t1 0 fun t3 =>
 Ex t1 1 fun t4 =>
 Al Ty.tree_handle #[.pointer none, .int .i64 0, .string ⟨#[]⟩] w2 fun t5 w6 =>
 St PP 3 t5 t3 w6 fun w7 =>
 Bi .neq t4 (.int .i64 0) fun t8 =>
 Cnd t8 (
 R (.tuple #[(.string ⟨#[]⟩), t4]) w7) (
 Fa 1 t5 fun t9 =>
 Ld t9 w7 fun t10 =>
 Bi .and t10 (.int .i64 3) fun t11 =>
 Bi .eql t11 (.int .i64 1) fun t12 =>
 Cnd t12 (
 R (.tuple #[(.string ⟨#[]⟩), (.int .i64 20)]) w7) (
 Fa 0 t5 fun t13 =>
 Ld t13 w7 fun t14 =>
 Nc t14 fun t15 =>
 Fa 13 t15 fun t16 =>
 Ld t16 w7 fun t17 =>
 Cnd t17 (
 R (.tuple #[(.string ⟨#[]⟩), (.int .i64 4)]) w7) (
 Fa 0 t5 fun t18 =>
 Ld t18 w7 fun t19 =>
 Ca PP Fn.tree_node_isDir #[t19] w7 fun t20 w21 =>
 Cnd t20 (
 R (.tuple #[(.string ⟨#[]⟩), (.int .i64 18)]) w21) (
 ∀ J22 : List Value → World → Prop, (∀ t25, ∀ w24 : World, (∀ u23 : Env,
 Cnd t25 (
 R (.tuple #[(.string ⟨#[]⟩), (.int .i64 11)]) w24) (
 Fa 0 t5 fun t26 =>
 Ld t26 w24 fun t27 =>
 Nc t27 fun t28 =>
 Fa 10 t28 fun t29 =>
 Ld t29 w24 fun t30 =>
 LnL t30 fun t31 =>
 Bi .geq a2 t31 fun t32 =>
 Cnd t32 (
 R (.tuple #[(.string ⟨#[]⟩), (.int .i64 0)]) w24) (
 Fa 0 t5 fun t33 =>
 Ld t33 w24 fun t34 =>
 Nc t34 fun t35 =>
 Fa 10 t35 fun t36 =>
 Ld t36 w24 fun t37 =>
 Sl 1 t37 (some a2) none fun t38 =>
 LnL t38 fun t39 =>
 Mn a3 t39 fun t40 =>
 Sl 1 t38 none (some t40) fun t41 =>
 Rd PP (convert Ty.sl_uint8 Ty.string t41) w24 fun t42 =>
 R (.tuple #[t42, (.int .i64 0)]) w24))) → J22 [t25] w24) →
 Bi .lss a2 (.int .i64 0) fun t43 =>
 Gd t43 false (fun k44 => k44 a3 w21) w21 fun t45 w46 =>
 Gd t43 false (fun k47 => Bi .lss t45 (.int .i64 0) fun t50 =>
 k47 t50 w46) w46 fun t48 w49 =>
 Pk t43 (.bool true) t48 fun t51 =>
 J22 [t51] w49))))
def S.tree_Tree_Read.an : Ann := (.seq .leaf (.seq .leaf (.seq (.block (.seq .leaf (.cond (.seq .leaf .leaf) (.seq .leaf (.cond (.seq .leaf .leaf) (.seq .leaf (.cond (.seq .leaf .leaf) (.seq .leaf (.cond (.seq .leaf .leaf) (.join .leaf [38] [39,40,41,42,43,44] (.cond (.seq .leaf .leaf) (.seq .leaf (.cond (.seq .leaf .leaf) .leaf))))))))))))) (.seq .leaf (.seq .leaf .leaf)))))
theorem S.tree_Tree_Read.eq (a0 a1 a2 a3 : Value) (w : World) (R : Value → World → Prop) : S.tree_Tree_Read a0 a1 a2 a3 w R = fnC PP 68 (Tryz.f224.body.getD .skip) S.tree_Tree_Read.an [.tmp 8, .tmp 9] [a0, a1, a2, a3] w R := by kernel_rfl
theorem S.tree_Tree_Read.calls {a0 a1 a2 a3 : Value} {w : World} {R : Value → World → Prop} (h : S.tree_Tree_Read a0 a1 a2 a3 w R) : Ca PP Fn.tree_Tree_Read #[a0, a1, a2, a3] w R :=
  fnC_calls mixed (f := Fn.tree_Tree_Read) (an := S.tree_Tree_Read.an) Tryz.func224 rfl (by show _ ≤ _; exact Nat.le_of_ble_eq_true rfl) (S.tree_Tree_Read.eq a0 a1 a2 a3 w R ▸ h)
/-- (*acheron/tree.Tree).Remove -/
def S.tree_Tree_Remove (a0 a1 a2 : Value) (w : World) (R : Value → World → Prop) : Prop :=
 Ca PP Fn.tree_Tree_find #[a0, a2] w fun t1 w2 =>
 Ex t1 0 fun t3 =>
 Ex t1 1 fun t4 =>
 Bi .neq t4 (.int .i64 0) fun t5 =>
 Cnd t5 (
 R t4 w2) (
 Nc a0 fun t6 =>
 Fa 0 t6 fun t7 =>
 Ld t7 w2 fun t8 =>
 Rd PP (eqS .eql Ty.p_tree_node (.tmp 20) (.tmp 24) t3 t8) w2 fun t9 =>
 Cnd t9 (
 R (.int .i64 1) w2) (
 Nc t3 fun t10 =>
 Fa 12 t10 fun t11 =>
 Ld t11 w2 fun t12 =>
 Ca PP Fn.tree_Tree_may #[a0, a1, t12, (.int .i64 2)] w2 fun t13 w14 =>
 Un .not t13 fun t15 =>
 Cnd t15 (
 R (.int .i64 17) w14) (
 Nc t3 fun t16 =>
 Fa 11 t16 fun t17 =>
 Ld t17 w14 fun t18 =>
 Rd PP (Builtin.len_ #[Ty.map_string_p_tree_node] Ty.int #[t18]) w14 fun t19 =>
 Bi .gtr t19 (.int .i64 0) fun t20 =>
 Cnd t20 (
 R (.int .i64 6) w14) (
 Ca PP Fn.tree_Tree_remove #[a0, a1, t3] w14 fun t21 w22 =>
 R (.int .i64 0) w22))))
def S.tree_Tree_Remove.an : Ann := (.seq .leaf (.seq .leaf (.seq (.block (.seq .leaf (.cond (.seq .leaf .leaf) (.seq .leaf (.cond (.seq .leaf .leaf) (.seq .leaf (.cond (.seq .leaf .leaf) (.seq .leaf (.cond (.seq .leaf .leaf) .leaf))))))))) (.seq .leaf (.seq .leaf .leaf)))))
theorem S.tree_Tree_Remove.eq (a0 a1 a2 : Value) (w : World) (R : Value → World → Prop) : S.tree_Tree_Remove a0 a1 a2 w R = fnC PP 46 (Tryz.f225.body.getD .skip) S.tree_Tree_Remove.an [.tmp 6] [a0, a1, a2] w R := by kernel_rfl
theorem S.tree_Tree_Remove.calls {a0 a1 a2 : Value} {w : World} {R : Value → World → Prop} (h : S.tree_Tree_Remove a0 a1 a2 w R) : Ca PP Fn.tree_Tree_Remove #[a0, a1, a2] w R :=
  fnC_calls mixed (f := Fn.tree_Tree_Remove) (an := S.tree_Tree_Remove.an) Tryz.func225 rfl (by show _ ≤ _; exact Nat.le_of_ble_eq_true rfl) (S.tree_Tree_Remove.eq a0 a1 a2 w R ▸ h)
/-- (*acheron/tree.Tree).Root -/
def S.tree_Tree_Root (a0 : Value) (w : World) (R : Value → World → Prop) : Prop :=
 Al Ty.api_Qid #[.int .i64 0, .int .i64 0, .int .i64 0] w fun t1 w2 =>
 Rd PP (eqS .eql Ty.p_tree_Tree (.tmp 3) (.const (.pointer none)) a0 (.pointer none)) w2 fun t3 =>
 Cnd t3 (
 Bd #[.int .i64 0, .int .i64 0, .int .i64 0] [(0, 1), (1, 1), (2, 1)] [] fun t4 =>
 St PP 3 t1 t4 w2 fun w5 =>
 LdA PP 3 t1 w5 fun t6 =>
 R t6 w5) (
 Nc a0 fun t7 =>
 Fa 0 t7 fun t8 =>
 Ld t8 w2 fun t9 =>
 Nc t9 fun t10 =>
 Fa 0 t10 fun t11 =>
 Fa 0 t11 fun t12 =>
 LdA PP 3 t12 w2 fun t13 =>
 St PP 3 t1 t13 w2 fun w14 =>
 LdA PP 3 t1 w14 fun t15 =>
 R t15 w14)
def S.tree_Tree_Root.an : Ann := (.seq .leaf (.seq (.seq .leaf (.cond (.seq .leaf .leaf) .leaf)) (.seq .leaf .leaf)))
theorem S.tree_Tree_Root.eq (a0 : Value) (w : World) (R : Value → World → Prop) : S.tree_Tree_Root a0 w R = fnC PP 14 (Tryz.f226.body.getD .skip) S.tree_Tree_Root.an [.cell 2 37] [a0] w R := by kernel_rfl
theorem S.tree_Tree_Root.calls {a0 : Value} {w : World} {R : Value → World → Prop} (h : S.tree_Tree_Root a0 w R) : Ca PP Fn.tree_Tree_Root #[a0] w R :=
  fnC_calls mixed (f := Fn.tree_Tree_Root) (an := S.tree_Tree_Root.an) Tryz.func226 rfl (by show _ ≤ _; exact Nat.le_of_ble_eq_true rfl) (S.tree_Tree_Root.eq a0 w R ▸ h)
/-- (*acheron/tree.Tree).Stat -/
def S.tree_Tree_Stat (a0 a1 a2 : Value) (w : World) (R : Value → World → Prop) : Prop :=
 Al Ty.api_Dir #[.int .i64 0, .int .i64 0, .int .i64 0, .int .i64 0, .int .i64 0, .int .i64 0, .string ⟨#[]⟩, .string ⟨#[]⟩, .string ⟨#[]⟩, .string ⟨#[]⟩] w fun t1 w2 =>
 Ca PP Fn.tree_Tree_find #[a0, a2] w2 fun t3 w4 =>
 Ex t3 0 fun t5 =>
 Ex t3 1 fun t6 =>
 Bi .neq t6 (.int .i64 0) fun t7 =>
 Cnd t7 (
 Bd #[.int .i64 0, .int .i64 0, .int .i64 0, .int .i64 0, .int .i64 0, .int .i64 0, .string ⟨#[]⟩, .string ⟨#[]⟩, .string ⟨#[]⟩, .string ⟨#[]⟩] [(0, 3), (3, 1), (4, 1), (5, 1), (6, 1), (7, 1), (8, 1), (9, 1)] [] fun t8 =>
 St PP 10 t1 t8 w4 fun w9 =>
 LdA PP 10 t1 w9 fun t10 =>
 R (.tuple #[t10, t6]) w9) (
 Ca PP Fn.tree_node_stat #[t5] w4 fun t11 w12 =>
 St PP 10 t1 t11 w12 fun w13 =>
 LdA PP 10 t1 w13 fun t14 =>
 R (.tuple #[t14, (.int .i64 0)]) w13)
def S.tree_Tree_Stat.an : Ann := (.seq .leaf (.seq .leaf (.seq (.seq .leaf (.cond (.seq .leaf .leaf) .leaf)) (.seq .leaf .leaf))))
theorem S.tree_Tree_Stat.eq (a0 a1 a2 : Value) (w : World) (R : Value → World → Prop) : S.tree_Tree_Stat a0 a1 a2 w R = fnC PP 22 (Tryz.f227.body.getD .skip) S.tree_Tree_Stat.an [.cell 6 39, .tmp 7] [a0, a1, a2] w R := by kernel_rfl
theorem S.tree_Tree_Stat.calls {a0 a1 a2 : Value} {w : World} {R : Value → World → Prop} (h : S.tree_Tree_Stat a0 a1 a2 w R) : Ca PP Fn.tree_Tree_Stat #[a0, a1, a2] w R :=
  fnC_calls mixed (f := Fn.tree_Tree_Stat) (an := S.tree_Tree_Stat.an) Tryz.func227 rfl (by show _ ≤ _; exact Nat.le_of_ble_eq_true rfl) (S.tree_Tree_Stat.eq a0 a1 a2 w R ▸ h)
end Go.Proofs.YtjffgllkfbcaeaaGreatDoor
