/- Own text. -/
import Derived.Test.YtnnhmahemklnkaaGreatDoorSc
namespace Go.Proofs.YtnnhmahemklnkaaGreatDoor
open Go Go.Sh
set_option linter.unusedVariables false
set_option maxRecDepth 100000
/-- acheron/acheronlaw28.TreeClones -/
def S.law28_TreeClones (a0 a1 a2 : Value) (w : World) (R : Value → World → Prop) : Prop :=
 Al Ty.law28_Setting (a0 : Value).cells w fun t1 w2 =>
 Ca PP Fn.law28_awake #[] w2 fun t3 w4 =>
 Un .not t3 fun t5 =>
 Cnd t5 (
 R (.bool false) w4) (
 ∀ J6 : List Value → World → Prop, (∀ t9, ∀ w8 : World, (∀ u7 : Env,
 Cnd t9 (
 R (.bool true) w8) (
 LdA PP 2 t1 w8 fun t10 =>
 Ca PP Fn.law28_played #[t10, a1] w8 fun t11 w12 =>
 Rd PP (eqS .eql Ty.p_tree_Tree (.tmp 38) (.const (.pointer none)) t11 (.pointer none)) w12 fun t13 =>
 Cnd t13 (
 R (.bool true) w12) (
 Ca PP Fn.tree_Tree_Clone #[t11] w12 fun t14 w15 =>
 Ca PP Fn.tree_Tree_Clone #[t11] w15 fun t16 w17 =>
 ∀ J18 : List Value → World → Prop, (∀ t21, ∀ w20 : World, (∀ u19 : Env,
 Cnd t21 (
 R (.bool false) w20) (
 Ca PP Fn.tree_Tree_Files #[t11] w20 fun t22 w23 =>
 Ca PP Fn.tree_Tree_Handles #[t11] w23 fun t24 w25 =>
 Ca PP Fn.tree_Tree_Clock #[t11] w25 fun t26 w27 =>
 LnL a2 fun t28 =>
 ∃ (I29 : List Value → World → Prop) (m30 : List Value → World → Nat), I29 [(.int .i64 0)] w27 ∧ ∀ t33, ∀ (u31 : Env) (w32 : World), I29 [t33] w32 →
 Bi .lss t33 t28 fun t34 =>
 Cnd t34 (
 IxA 20 a2 t33 fun t35 =>
 LdA PP 20 t35 w32 fun t36 =>
 Al Ty.law28_Act #[.int .i64 0, .int .i64 0, .int .i64 0, .string ⟨#[]⟩, .string ⟨#[]⟩, .int .i64 0, .int .i64 0, .int .i64 0, .int .i64 0, .string ⟨#[]⟩, .int .i64 0, .int .i64 0, .int .i64 0, .int .i64 0, .int .i64 0, .int .i64 0, .string ⟨#[]⟩, .string ⟨#[]⟩, .string ⟨#[]⟩, .string ⟨#[]⟩] w32 fun t37 w38 =>
 St PP 20 t37 t36 w38 fun w39 =>
 LdA PP 20 t37 w39 fun t40 =>
 Ca PP Fn.law28_Do #[t14, t40] w39 fun t41 w42 =>
 Bi .add t33 (.int .i64 1) fun t43 =>
 I29 [t43] w42 ∧ m30 [t43] w42 < m30 [t33] w32) (
 ∀ J44 : List Value → World → Prop, (∀ t47, ∀ w46 : World, (∀ u45 : Env,
 Cnd t47 (
 R (.bool false) w46) (
 Ca PP Fn.tree_Tree_Handles #[t11] w46 fun t48 w49 =>
 LnL t48 fun t50 =>
 ∃ (I51 : List Value → World → Prop) (m52 : List Value → World → Nat), I51 [(.int .i64 0)] w49 ∧ ∀ t55, ∀ (u53 : Env) (w54 : World), I51 [t55] w54 →
 Bi .lss t55 t50 fun t56 =>
 Cnd t56 (
 IxA 1 t48 t55 fun t57 =>
 Ld t57 w54 fun t58 =>
 Ca PP Fn.tree_Tree_Close #[t11, t58] w54 fun t59 w60 =>
 Bi .neq t59 (.int .i64 0) fun t61 =>
 Cnd t61 (
 R (.bool false) w60) (
 Bi .add t55 (.int .i64 1) fun t62 =>
 I51 [t62] w60 ∧ m52 [t62] w60 < m52 [t55] w54)) (
 Ca PP Fn.law28_equal #[t11, t16] w54 fun t63 w64 =>
 Un .not t63 fun t65 =>
 Cnd t65 (
 R (.bool true) w64) (
 LnL a2 fun t66 =>
 ∃ (I67 : List Value → World → Prop) (m68 : List Value → World → Nat), I67 [(.int .i64 0)] w64 ∧ ∀ t71, ∀ (u69 : Env) (w70 : World), I67 [t71] w70 →
 Bi .lss t71 t66 fun t72 =>
 Cnd t72 (
 IxA 20 a2 t71 fun t73 =>
 LdA PP 20 t73 w70 fun t74 =>
 Al Ty.law28_Act #[.int .i64 0, .int .i64 0, .int .i64 0, .string ⟨#[]⟩, .string ⟨#[]⟩, .int .i64 0, .int .i64 0, .int .i64 0, .int .i64 0, .string ⟨#[]⟩, .int .i64 0, .int .i64 0, .int .i64 0, .int .i64 0, .int .i64 0, .int .i64 0, .string ⟨#[]⟩, .string ⟨#[]⟩, .string ⟨#[]⟩, .string ⟨#[]⟩] w70 fun t75 w76 =>
 St PP 20 t75 t74 w76 fun w77 =>
 LdA PP 20 t75 w77 fun t78 =>
 Ca PP Fn.law28_Do #[t11, t78] w77 fun t79 w80 =>
 Bi .add t71 (.int .i64 1) fun t81 =>
 I67 [t81] w80 ∧ m68 [t81] w80 < m68 [t71] w70) (
 ∀ J82 : List Value → World → Prop, (∀ t85, ∀ w84 : World, (∀ u83 : Env,
 R t85 w84) → J82 [t85] w84) →
 Ca PP Fn.law28_equal #[t11, t14] w70 fun t86 w87 =>
 Gd t86 true (fun k88 => k88 t11 w87) w87 fun t89 w90 =>
 Gd t86 true (fun k91 => Ca PP Fn.tree_Tree_Handles #[t89] w90 fun t94 w95 =>
 k91 t94 w95) w90 fun t92 w93 =>
 Gd t86 true (fun k96 => k96 t14 w93) w93 fun t97 w98 =>
 Gd t86 true (fun k99 => Ca PP Fn.tree_Tree_Handles #[t97] w98 fun t102 w103 =>
 k99 t102 w103) w98 fun t100 w101 =>
 Gd t86 true (fun k104 => Ca PP Fn.slices_Equal_sl_int_int #[t92, t100] w101 fun t107 w108 =>
 k104 t107 w108) w101 fun t105 w106 =>
 Pk t86 t105 (.bool false) fun t109 =>
 J82 [t109] w106))))) → J44 [t47] w46) →
 Ca PP Fn.tree_Tree_Files #[t11] w32 fun t110 w111 =>
 Ca PP Fn.slices_Equal_sl_tree_File_tree_File #[t22, t110] w111 fun t112 w113 =>
 Un .not t112 fun t114 =>
 Gd t114 false (fun k115 => k115 t24 w113) w113 fun t116 w117 =>
 Gd t114 false (fun k118 => k118 t11 w117) w117 fun t119 w120 =>
 Gd t114 false (fun k121 => Ca PP Fn.tree_Tree_Handles #[t119] w120 fun t124 w125 =>
 k121 t124 w125) w120 fun t122 w123 =>
 Gd t114 false (fun k126 => Ca PP Fn.slices_Equal_sl_int_int #[t116, t122] w123 fun t129 w130 =>
 k126 t129 w130) w123 fun t127 w128 =>
 Gd t114 false (fun k131 => Un .not t127 fun t134 =>
 k131 t134 w128) w128 fun t132 w133 =>
 Pk t114 (.bool true) t132 fun t135 =>
 Gd t135 false (fun k136 => k136 t26 w133) w133 fun t137 w138 =>
 Gd t135 false (fun k139 => k139 t11 w138) w138 fun t140 w141 =>
 Gd t135 false (fun k142 => Ca PP Fn.tree_Tree_Clock #[t140] w141 fun t145 w146 =>
 k142 t145 w146) w141 fun t143 w144 =>
 Gd t135 false (fun k147 => Bi .neq t137 t143 fun t150 =>
 k147 t150 w144) w144 fun t148 w149 =>
 Pk t135 (.bool true) t148 fun t151 =>
 Gd t151 false (fun k152 => k152 t16 w149) w149 fun t153 w154 =>
 Gd t151 false (fun k155 => k155 t11 w154) w154 fun t156 w157 =>
 Gd t151 false (fun k158 => Ca PP Fn.law28_equal #[t153, t156] w157 fun t161 w162 =>
 k158 t161 w162) w157 fun t159 w160 =>
 Gd t151 false (fun k163 => Un .not t159 fun t166 =>
 k163 t166 w160) w160 fun t164 w165 =>
 Pk t151 (.bool true) t164 fun t167 =>
 J44 [t167] w165))) → J18 [t21] w20) →
 Rd PP (eqS .eql Ty.p_tree_Tree (.tmp 44) (.const (.pointer none)) t14 (.pointer none)) w17 fun t168 =>
 Gd t168 false (fun k169 => k169 t16 w17) w17 fun t170 w171 =>
 Gd t168 false (fun k172 => Rd PP (eqS .eql Ty.p_tree_Tree (.tmp 47) (.const (.pointer none)) t170 (.pointer none)) w171 fun t175 =>
 k172 t175 w171) w171 fun t173 w174 =>
 Pk t168 (.bool true) t173 fun t176 =>
 Gd t176 false (fun k177 => k177 t14 w174) w174 fun t178 w179 =>
 Gd t176 false (fun k180 => k180 t11 w179) w179 fun t181 w182 =>
 Gd t176 false (fun k183 => Ca PP Fn.law28_equal #[t178, t181] w182 fun t186 w187 =>
 k183 t186 w187) w182 fun t184 w185 =>
 Gd t176 false (fun k188 => Un .not t184 fun t191 =>
 k188 t191 w185) w185 fun t189 w190 =>
 Pk t176 (.bool true) t189 fun t192 =>
 Gd t192 false (fun k193 => k193 t14 w190) w190 fun t194 w195 =>
 Gd t192 false (fun k196 => Ca PP Fn.tree_Tree_Handles #[t194] w195 fun t199 w200 =>
 k196 t199 w200) w195 fun t197 w198 =>
 Gd t192 false (fun k201 => LnL t197 fun t204 =>
 k201 t204 w198) w198 fun t202 w203 =>
 Gd t192 false (fun k205 => Bi .gtr t202 (.int .i64 0) fun t208 =>
 k205 t208 w203) w203 fun t206 w207 =>
 Pk t192 (.bool true) t206 fun t209 =>
 J18 [t209] w207))) → J6 [t9] w8) →
 LdA PP 2 t1 w4 fun t210 =>
 Ca PP Fn.law28_small #[t210] w4 fun t211 w212 =>
 Un .not t211 fun t213 =>
 Gd t213 false (fun k214 => k214 a1 w212) w212 fun t215 w216 =>
 Gd t213 false (fun k217 => Ca PP Fn.law28_Few #[t215] w216 fun t220 w221 =>
 k217 t220 w221) w216 fun t218 w219 =>
 Gd t213 false (fun k222 => Un .not t218 fun t225 =>
 k222 t225 w219) w219 fun t223 w224 =>
 Pk t213 (.bool true) t223 fun t226 =>
 Gd t226 false (fun k227 => k227 a2 w224) w224 fun t228 w229 =>
 Gd t226 false (fun k230 => Ca PP Fn.law28_Few #[t228] w229 fun t233 w234 =>
 k230 t233 w234) w229 fun t231 w232 =>
 Gd t226 false (fun k235 => Un .not t231 fun t238 =>
 k235 t238 w232) w232 fun t236 w237 =>
 Pk t226 (.bool true) t236 fun t239 =>
 J6 [t239] w237)
def S.law28_TreeClones.an : Ann := (.seq .leaf (.seq (.seq .leaf (.cond (.seq .leaf .leaf) .leaf)) (.seq (.join .leaf [34] [22,23,24,25,26,27,28,29,30,31,32,33] (.cond (.seq .leaf .leaf) .leaf)) (.seq .leaf (.seq (.seq .leaf (.cond (.seq .leaf .leaf) .leaf)) (.seq .leaf (.seq (.join .leaf [61] [44,45,46,47,48,49,50,51,52,53,54,55,56,57,58,59,60] (.cond (.seq .leaf .leaf) .leaf)) (.seq .leaf (.seq (.seq .leaf (.block (.loop (.seq .leaf (.seq (.cond .leaf .leaf) (.seq (.block (.seq .leaf .leaf)) .leaf))) [70] [14,71,72,73,74,75,76,77]))) (.seq (.join .leaf [101] [78,79,80,81,82,83,84,85,86,87,88,89,90,91,92,93,94,95,96,97,98,99,100] (.cond (.seq .leaf .leaf) .leaf)) (.seq (.seq .leaf (.block (.loop (.seq .leaf (.seq (.cond .leaf .leaf) (.seq (.block (.seq .leaf (.seq .leaf (.seq .leaf (.cond (.seq .leaf .leaf) .leaf))))) .leaf))) [105] [6,16,17,106,107,108,109,110,111,112,113,114]))) (.seq (.seq .leaf (.cond (.seq .leaf .leaf) .leaf)) (.seq (.seq .leaf (.block (.loop (.seq .leaf (.seq (.cond .leaf .leaf) (.seq (.block (.seq .leaf .leaf)) .leaf))) [121] [19,122,123,124,125,126,127,128]))) (.join .leaf [6] [129,130,131,132,133,134,135,136,137,138] .leaf))))))))))))))
theorem S.law28_TreeClones.eq (a0 a1 a2 : Value) (w : World) (R : Value → World → Prop) : S.law28_TreeClones a0 a1 a2 w R = fnC PP 139 (Tryz.f9.body.getD .skip) S.law28_TreeClones.an [.tmp 6] [a0, a1, a2] w R := by kernel_rfl
theorem S.law28_TreeClones.calls {a0 a1 a2 : Value} {w : World} {R : Value → World → Prop} (h : S.law28_TreeClones a0 a1 a2 w R) : Ca PP Fn.law28_TreeClones #[a0, a1, a2] w R :=
  fnC_calls mixed (f := Fn.law28_TreeClones) (an := S.law28_TreeClones.an) Tryz.func9 rfl (by show _ ≤ _; exact Nat.le_of_ble_eq_true rfl) (S.law28_TreeClones.eq a0 a1 a2 w R ▸ h)
/-- acheron/acheronlaw28.awake -/
def S.law28_awake (w : World) (R : Value → World → Prop) : Prop :=
 Ca PP Fn.tree_New #[(.string ⟨#[97, 110, 110]⟩), (.slice none 0 0)] w fun t1 w2 =>
 Ex t1 0 fun t3 =>
 Ex t1 1 fun t4 =>
 ∀ J5 : List Value → World → Prop, (∀ t8, ∀ w7 : World, (∀ u6 : Env,
 Cnd t8 (
 R (.bool false) w7) (
 Ca PP Fn.tree_Tree_Create #[t3, (.string ⟨#[97, 110, 110]⟩), (.int .i64 0), (.string ⟨#[102]⟩), (.int .i64 438), (.int .i64 2)] w7 fun t9 w10 =>
 Ex t9 0 fun t11 =>
 Ex t9 1 fun t12 =>
 Ex t9 2 fun t13 =>
 Al Ty.api_Qid #[.int .i64 0, .int .i64 0, .int .i64 0] w10 fun t14 w15 =>
 St PP 3 t14 t12 w15 fun w16 =>
 ∀ J17 : List Value → World → Prop, (∀ t20, ∀ w19 : World, (∀ u18 : Env,
 Cnd t20 (
 R (.bool false) w19) (
 Ca PP Fn.tree_Tree_Write #[t3, (.int .i64 1), (.int .i64 2), (.string ⟨#[97, 98]⟩)] w19 fun t21 w22 =>
 Ex t21 0 fun t23 =>
 Ex t21 1 fun t24 =>
 Ca PP Fn.tree_Tree_Read #[t3, (.int .i64 1), (.int .i64 0), (.int .i64 9)] w22 fun t25 w26 =>
 Ex t25 0 fun t27 =>
 Ex t25 1 fun t28 =>
 Ca PP Fn.tree_Tree_Stat #[t3, (.string ⟨#[98, 111, 98]⟩), (.int .i64 1)] w26 fun t29 w30 =>
 Ex t29 0 fun t31 =>
 Ex t29 1 fun t32 =>
 Al Ty.api_Dir #[.int .i64 0, .int .i64 0, .int .i64 0, .int .i64 0, .int .i64 0, .int .i64 0, .string ⟨#[]⟩, .string ⟨#[]⟩, .string ⟨#[]⟩, .string ⟨#[]⟩] w30 fun t33 w34 =>
 St PP 10 t33 t31 w34 fun w35 =>
 Ca PP Fn.tree_Tree_Open #[t3, (.string ⟨#[98, 111, 98]⟩), (.int .i64 1), (.int .i64 1)] w35 fun t36 w37 =>
 Ex t36 0 fun t38 =>
 Ex t36 1 fun t39 =>
 Ex t36 2 fun t40 =>
 Al Ty.api_Qid #[.int .i64 0, .int .i64 0, .int .i64 0] w37 fun t41 w42 =>
 St PP 3 t41 t39 w42 fun w43 =>
 ∀ J44 : List Value → World → Prop, (∀ t47, ∀ w46 : World, (∀ u45 : Env,
 R t47 w46) → J44 [t47] w46) →
 Bi .eql t23 (.int .i64 2) fun t48 =>
 Gd t48 true (fun k49 => k49 t24 w43) w43 fun t50 w51 =>
 Gd t48 true (fun k52 => Bi .eql t50 (.int .i64 0) fun t55 =>
 k52 t55 w51) w51 fun t53 w54 =>
 Pk t48 t53 (.bool false) fun t56 =>
 Gd t56 true (fun k57 => k57 t27 w54) w54 fun t58 w59 =>
 Gd t56 true (fun k60 => Bi .eql t58 (.string ⟨#[0, 0, 97, 98]⟩) fun t63 =>
 k60 t63 w59) w59 fun t61 w62 =>
 Pk t56 t61 (.bool false) fun t64 =>
 Gd t64 true (fun k65 => k65 t28 w62) w62 fun t66 w67 =>
 Gd t64 true (fun k68 => Bi .eql t66 (.int .i64 0) fun t71 =>
 k68 t71 w67) w67 fun t69 w70 =>
 Pk t64 t69 (.bool false) fun t72 =>
 Gd t72 true (fun k73 => k73 t32 w70) w70 fun t74 w75 =>
 Gd t72 true (fun k76 => Bi .eql t74 (.int .i64 0) fun t79 =>
 k76 t79 w75) w75 fun t77 w78 =>
 Pk t72 t77 (.bool false) fun t80 =>
 Gd t80 true (fun k81 => Fa 3 t33 fun t84 =>
 k81 t84 w78) w78 fun t82 w83 =>
 Gd t80 true (fun k85 => Ld t82 w83 fun t88 =>
 k85 t88 w83) w83 fun t86 w87 =>
 Gd t80 true (fun k89 => Bi .eql t86 (.int .i64 436) fun t92 =>
 k89 t92 w87) w87 fun t90 w91 =>
 Pk t80 t90 (.bool false) fun t93 =>
 Gd t93 true (fun k94 => Fa 0 t33 fun t97 =>
 k94 t97 w91) w91 fun t95 w96 =>
 Gd t93 true (fun k98 => Fa 1 t95 fun t101 =>
 k98 t101 w96) w96 fun t99 w100 =>
 Gd t93 true (fun k102 => Ld t99 w100 fun t105 =>
 k102 t105 w100) w100 fun t103 w104 =>
 Gd t93 true (fun k106 => Bi .eql t103 (.int .i64 1) fun t109 =>
 k106 t109 w104) w104 fun t107 w108 =>
 Pk t93 t107 (.bool false) fun t110 =>
 Gd t110 true (fun k111 => Fa 4 t33 fun t114 =>
 k111 t114 w108) w108 fun t112 w113 =>
 Gd t110 true (fun k115 => Ld t112 w113 fun t118 =>
 k115 t118 w113) w113 fun t116 w117 =>
 Gd t110 true (fun k119 => Bi .eql t116 (.int .i64 2) fun t122 =>
 k119 t122 w117) w117 fun t120 w121 =>
 Pk t110 t120 (.bool false) fun t123 =>
 Gd t123 true (fun k124 => k124 t40 w121) w121 fun t125 w126 =>
 Gd t123 true (fun k127 => Bi .eql t125 (.int .i64 17) fun t130 =>
 k127 t130 w126) w126 fun t128 w129 =>
 Pk t123 t128 (.bool false) fun t131 =>
 Gd t131 true (fun k132 => Ca PP Fn.tree_Clean #[(.string ⟨#[47, 97, 47, 47, 98, 47, 46, 47, 46, 46, 47, 99, 47, 46, 46]⟩)] w129 fun t135 w136 =>
 k132 t135 w136) w129 fun t133 w134 =>
 Gd t131 true (fun k137 => Bi .eql t133 (.string ⟨#[47, 97]⟩) fun t140 =>
 k137 t140 w134) w134 fun t138 w139 =>
 Pk t131 t138 (.bool false) fun t141 =>
 J44 [t141] w139)) → J17 [t20] w19) →
 Bi .neq t11 (.int .i64 1) fun t142 =>
 Gd t142 false (fun k143 => LdA PP 3 t14 w16 fun t146 =>
 k143 t146 w16) w16 fun t144 w145 =>
 Gd t142 false (fun k147 => Bd #[.int .i64 0, .int .i64 0, .int .i64 0] [(0, 1), (1, 1), (2, 1)] [(2, (.int .i64 1))] fun t150 =>
 k147 t150 w145) w145 fun t148 w149 =>
 Gd t142 false (fun k151 => Rd PP (eqS .neq Ty.api_Qid (.tmp 32) (.tmp 33) t144 t148) w149 fun t154 =>
 k151 t154 w149) w149 fun t152 w153 =>
 Pk t142 (.bool true) t152 fun t155 =>
 Gd t155 false (fun k156 => k156 t13 w153) w153 fun t157 w158 =>
 Gd t155 false (fun k159 => Bi .neq t157 (.int .i64 0) fun t162 =>
 k159 t162 w158) w158 fun t160 w161 =>
 Pk t155 (.bool true) t160 fun t163 =>
 J17 [t163] w161)) → J5 [t8] w7) →
 Bi .neq t4 (.int .i64 0) fun t164 =>
 Gd t164 false (fun k165 => k165 t3 w2) w2 fun t166 w167 =>
 Gd t164 false (fun k168 => Rd PP (eqS .eql Ty.p_tree_Tree (.tmp 20) (.const (.pointer none)) t166 (.pointer none)) w167 fun t171 =>
 k168 t171 w167) w167 fun t169 w170 =>
 Pk t164 (.bool true) t169 fun t172 =>
 J5 [t172] w170
def S.law28_awake.an : Ann := (.seq .leaf (.seq .leaf (.seq (.join .leaf [22] [17,18,19,20,21] (.cond (.seq .leaf .leaf) .leaf)) (.seq .leaf (.seq (.join .leaf [39] [29,30,31,32,33,34,35,36,37,38] (.cond (.seq .leaf .leaf) .leaf)) (.seq .leaf (.seq .leaf (.seq .leaf (.seq .leaf (.join .leaf [0] [61,62,63,64,65,66,67,68,69,70,71,72,73,74,75,76,77,78,79,80,81,82,83,84,85,86,87,88,89,90,91,92,93,94,95,96,97,98,99,100,101,102] .leaf))))))))))
theorem S.law28_awake.eq (w : World) (R : Value → World → Prop) : S.law28_awake  w R = fnC PP 103 (Tryz.f12.body.getD .skip) S.law28_awake.an [.tmp 0] [] w R := by kernel_rfl
theorem S.law28_awake.calls {w : World} {R : Value → World → Prop} (h : S.law28_awake w R) : Ca PP Fn.law28_awake #[] w R :=
  fnC_calls mixed (f := Fn.law28_awake) (an := S.law28_awake.an) Tryz.func12 rfl (by show _ ≤ _; exact Nat.le_of_ble_eq_true rfl) (S.law28_awake.eq w R ▸ h)
/-- acheron/acheronlaw28.Few -/
def S.law28_Few (a0 : Value) (w : World) (R : Value → World → Prop) : Prop :=
 LnL a0 fun t1 =>
 ∃ (I2 : List Value → World → Prop) (m3 : List Value → World → Nat), I2 [(.int .i64 0)] w ∧ ∀ t6, ∀ (u4 : Env) (w5 : World), I2 [t6] w5 →
 Bi .lss t6 t1 fun t7 =>
 Cnd t7 (
 IxA 20 a0 t6 fun t8 =>
 LdA PP 20 t8 w5 fun t9 =>
 Al Ty.law28_Act #[.int .i64 0, .int .i64 0, .int .i64 0, .string ⟨#[]⟩, .string ⟨#[]⟩, .int .i64 0, .int .i64 0, .int .i64 0, .int .i64 0, .string ⟨#[]⟩, .int .i64 0, .int .i64 0, .int .i64 0, .int .i64 0, .int .i64 0, .int .i64 0, .string ⟨#[]⟩, .string ⟨#[]⟩, .string ⟨#[]⟩, .string ⟨#[]⟩] w5 fun t10 w11 =>
 St PP 20 t10 t9 w11 fun w12 =>
 ∀ J13 : List Value → World → Prop, (∀ t16, ∀ w15 : World, (∀ u14 : Env,
 Cnd t16 (
 R (.bool false) w15) (
 Bi .add t6 (.int .i64 1) fun t17 =>
 I2 [t17] w15 ∧ m3 [t17] w15 < m3 [t6] w5)) → J13 [t16] w15) →
 Fa 3 t10 fun t18 =>
 Ld t18 w12 fun t19 =>
 LnS t19 fun t20 =>
 Fa 4 t10 fun t21 =>
 Ld t21 w12 fun t22 =>
 LnS t22 fun t23 =>
 Bi .add t20 t23 fun t24 =>
 Fa 9 t10 fun t25 =>
 Ld t25 w12 fun t26 =>
 LnS t26 fun t27 =>
 Bi .add t24 t27 fun t28 =>
 Fa 10 t10 fun t29 =>
 Fa 6 t29 fun t30 =>
 Ld t30 w12 fun t31 =>
 LnS t31 fun t32 =>
 Bi .add t28 t32 fun t33 =>
 Fa 10 t10 fun t34 =>
 Fa 8 t34 fun t35 =>
 Ld t35 w12 fun t36 =>
 LnS t36 fun t37 =>
 Bi .add t33 t37 fun t38 =>
 Fa 10 t10 fun t39 =>
 Fa 7 t39 fun t40 =>
 Ld t40 w12 fun t41 =>
 LnS t41 fun t42 =>
 Bi .add t38 t42 fun t43 =>
 Fa 10 t10 fun t44 =>
 Fa 9 t44 fun t45 =>
 Ld t45 w12 fun t46 =>
 LnS t46 fun t47 =>
 Bi .add t43 t47 fun t48 =>
 Bi .gtr t48 (.int .i64 600) fun t49 =>
 Gd t49 false (fun k50 => Fa 8 t10 fun t53 =>
 k50 t53 w12) w12 fun t51 w52 =>
 Gd t49 false (fun k54 => Ld t51 w52 fun t57 =>
 k54 t57 w52) w52 fun t55 w56 =>
 Gd t49 false (fun k58 => Bi .gtr t55 (.int .i64 5000) fun t61 =>
 k58 t61 w56) w56 fun t59 w60 =>
 Gd t49 false (fun k62 => k62 t59 w60) w60 fun t63 w64 =>
 Gd t63 true (fun k65 => Fa 8 t10 fun t68 =>
 k65 t68 w64) w64 fun t66 w67 =>
 Gd t63 true (fun k69 => Ld t66 w67 fun t72 =>
 k69 t72 w67) w67 fun t70 w71 =>
 Gd t63 true (fun k73 => Bi .leq t70 (.int .i64 1048576) fun t76 =>
 k73 t76 w71) w71 fun t74 w75 =>
 Gd t49 false (fun k77 => Pk t63 t74 (.bool false) fun t80 =>
 k77 t80 w75) w75 fun t78 w79 =>
 Pk t49 (.bool true) t78 fun t81 =>
 Gd t81 false (fun k82 => Fa 10 t10 fun t85 =>
 k82 t85 w79) w79 fun t83 w84 =>
 Gd t81 false (fun k86 => Fa 5 t83 fun t89 =>
 k86 t89 w84) w84 fun t87 w88 =>
 Gd t81 false (fun k90 => Ld t87 w88 fun t93 =>
 k90 t93 w88) w88 fun t91 w92 =>
 Gd t81 false (fun k94 => Bi .gtr t91 (.int .i64 5000) fun t97 =>
 k94 t97 w92) w92 fun t95 w96 =>
 Gd t81 false (fun k98 => k98 t95 w96) w96 fun t99 w100 =>
 Gd t99 true (fun k101 => Fa 10 t10 fun t104 =>
 k101 t104 w100) w100 fun t102 w103 =>
 Gd t99 true (fun k105 => Fa 5 t102 fun t108 =>
 k105 t108 w103) w103 fun t106 w107 =>
 Gd t99 true (fun k109 => Ld t106 w107 fun t112 =>
 k109 t112 w107) w107 fun t110 w111 =>
 Gd t99 true (fun k113 => Bi .leq t110 (.int .i64 1048576) fun t116 =>
 k113 t116 w111) w111 fun t114 w115 =>
 Gd t81 false (fun k117 => Pk t99 t114 (.bool false) fun t120 =>
 k117 t120 w115) w115 fun t118 w119 =>
 Pk t81 (.bool true) t118 fun t121 =>
 J13 [t121] w119) (
 LnL a0 fun t122 =>
 Bi .leq t122 (.int .i64 40) fun t123 =>
 R t123 w5)
def S.law28_Few.an : Ann := (.seq .leaf (.seq (.seq .leaf (.block (.loop (.seq .leaf (.seq (.cond .leaf .leaf) (.seq (.block (.seq .leaf (.join .leaf [64] [11,12,13,14,15,16,17,18,19,20,21,22,23,24,25,26,27,28,29,30,31,32,33,34,35,36,37,38,39,40,41,42,43,44,45,46,47,48,49,50,51,52,53,54,55,56,57,58,59,60,61,62,63] (.cond (.seq .leaf .leaf) .leaf)))) .leaf))) [7] [2,4,8,9,10,11,12,13,14,15,16,17,18,19,20,21,22,23,24,25,26,27,28,29,30,31,32,33,34,35,36,37,38,39,40,41,42,43,44,45,46,47,48,49,50,51,52,53,54,55,56,57,58,59,60,61,62,63,64,65]))) (.seq .leaf .leaf)))
theorem S.law28_Few.eq (a0 : Value) (w : World) (R : Value → World → Prop) : S.law28_Few a0 w R = fnC PP 69 (Tryz.f13.body.getD .skip) S.law28_Few.an [.tmp 2] [a0] w R := by kernel_rfl
theorem S.law28_Few.calls {a0 : Value} {w : World} {R : Value → World → Prop} (h : S.law28_Few a0 w R) : Ca PP Fn.law28_Few #[a0] w R :=
  fnC_calls mixed (f := Fn.law28_Few) (an := S.law28_Few.an) Tryz.func13 rfl (by show _ ≤ _; exact Nat.le_of_ble_eq_true rfl) (S.law28_Few.eq a0 w R ▸ h)
/-- acheron/tree.Clean -/
def S.tree_Clean (a0 : Value) (w : World) (R : Value → World → Prop) : Prop :=
 Ca PP Fn.strings_HasPrefix #[a0, (.string ⟨#[47]⟩)] w fun t1 w2 =>
 Al Ty.bool #[.bool false] w2 fun t3 w4 =>
 St PP 1 t3 t1 w4 fun w5 =>
 Al Ty.sl_string #[.slice none 0 0] w5 fun t6 w7 =>
 Ca PP Fn.strings_SplitSeq #[a0, (.string ⟨#[47]⟩)] w7 fun t8 w9 =>
 RFo PP t8 w9 (RB.one fun r_10 L_11 t12 w13 Rn_14 Re_15 Rr_16 =>
 Bgn r_10 L_11 w13 fun w17 =>
 ∀ J18 : List Value → World → Prop, (∀ t21, ∀ w20 : World, (∀ u19 : Env,
 Cnd t21 (
 Rn_14 w20) (
 Bi .neq t12 (.string ⟨#[46, 46]⟩) fun t22 =>
 Cnd t22 (
 Ld t6 w20 fun t23 =>
 Ef PP (Instr.buildSlice Ty.sl_string 1 #[(0, t12)]) w20 fun t24 w25 =>
 Ef PP (Builtin.append_ #[Ty.sl_string, Ty.sl_string] Ty.sl_string #[t23, t24]) w25 fun t26 w27 =>
 St PP 1 t6 t26 w27 fun w28 =>
 Rn_14 w28) (
 ∀ J29 : List Value → World → Prop, (∀ t32, ∀ w31 : World, (∀ u30 : Env,
 Cnd t32 (
 Ld t6 w31 fun t33 =>
 Ld t6 w31 fun t34 =>
 LnL t34 fun t35 =>
 Bi .sub t35 (.int .i64 1) fun t36 =>
 Sl 1 t33 none (some t36) fun t37 =>
 St PP 1 t6 t37 w31 fun w38 =>
 Rn_14 w38) (
 Ld t3 w31 fun t39 =>
 Un .not t39 fun t40 =>
 Cnd t40 (
 Ld t6 w31 fun t41 =>
 Ef PP (Instr.buildSlice Ty.sl_string 1 #[(0, t12)]) w31 fun t42 w43 =>
 Ef PP (Builtin.append_ #[Ty.sl_string, Ty.sl_string] Ty.sl_string #[t41, t42]) w43 fun t44 w45 =>
 St PP 1 t6 t44 w45 fun w46 =>
 Rn_14 w46) (
 Rn_14 w31))) → J29 [t32] w31) →
 Ld t6 w20 fun t47 =>
 LnL t47 fun t48 =>
 Bi .gtr t48 (.int .i64 0) fun t49 =>
 Gd t49 true (fun k50 => Ld t6 w20 fun t53 =>
 k50 t53 w20) w20 fun t51 w52 =>
 Gd t49 true (fun k54 => Ld t6 w52 fun t57 =>
 k54 t57 w52) w52 fun t55 w56 =>
 Gd t49 true (fun k58 => LnL t55 fun t61 =>
 k58 t61 w56) w56 fun t59 w60 =>
 Gd t49 true (fun k62 => Bi .sub t59 (.int .i64 1) fun t65 =>
 k62 t65 w60) w60 fun t63 w64 =>
 Gd t49 true (fun k66 => IxA 1 t51 t63 fun t69 =>
 k66 t69 w64) w64 fun t67 w68 =>
 Gd t49 true (fun k70 => Ld t67 w68 fun t73 =>
 k70 t73 w68) w68 fun t71 w72 =>
 Gd t49 true (fun k74 => Bi .neq t71 (.string ⟨#[46, 46]⟩) fun t77 =>
 k74 t77 w72) w72 fun t75 w76 =>
 Pk t49 t75 (.bool false) fun t78 =>
 J29 [t78] w76))) → J18 [t21] w20) →
 Bi .eql t12 (.string ⟨#[]⟩) fun t79 =>
 Gd t79 false (fun k80 => k80 t12 w17) w17 fun t81 w82 =>
 Gd t79 false (fun k83 => Bi .eql t81 (.string ⟨#[46]⟩) fun t86 =>
 k83 t86 w82) w82 fun t84 w85 =>
 Pk t79 (.bool true) t84 fun t87 =>
 J18 [t87] w85) (fun D_88 w89 =>
 Ld t6 w89 fun t90 =>
 Ca PP Fn.strings_Join #[t90, (.string ⟨#[47]⟩)] w89 fun t91 w92 =>
 Ld t3 w92 fun t93 =>
 Cnd t93 (
 Bi .add (.string ⟨#[47]⟩) t91 fun t94 =>
 Lvs PP (.mark D_88 :: []) w92 fun w95 =>
 R t94 w95) (
 Bi .eql t91 (.string ⟨#[]⟩) fun t96 =>
 Cnd t96 (
 Lvs PP (.mark D_88 :: []) w92 fun w97 =>
 R (.string ⟨#[46]⟩) w97) (
 Lvs PP (.mark D_88 :: []) w92 fun w98 =>
 R t91 w98))) [] (fun D_99 w100 =>
 Lvs PP (.mark D_99 :: []) w100 fun w101 =>
 R (.string ⟨#[]⟩) w101)
def S.tree_Clean.an : Ann := (.seq .leaf (.seq .leaf (.seq .leaf (.seq (.seq .leaf (.block (.rf .leaf (.block (.block (.join .leaf [12] [13,14,15,16,17,18] (.cond .leaf (.seq .leaf (.cond .leaf (.join .leaf [26] [27,28,29,30,31,32,33,34,35,36,37,38] (.cond .leaf (.seq .leaf (.cond .leaf .leaf)))))))))) []))) (.seq .leaf (.seq (.block (.seq .leaf (.cond (.seq .leaf .leaf) (.seq .leaf (.cond (.seq .leaf .leaf) .leaf))))) (.seq .leaf .leaf)))))))
theorem S.tree_Clean.eq (a0 : Value) (w : World) (R : Value → World → Prop) : S.tree_Clean a0 w R = fnC PP 61 (Tryz.f14.body.getD .skip) S.tree_Clean.an [.tmp 2] [a0] w R := by kernel_rfl
theorem S.tree_Clean.calls {a0 : Value} {w : World} {R : Value → World → Prop} (h : S.tree_Clean a0 w R) : Ca PP Fn.tree_Clean #[a0] w R :=
  fnC_calls mixed (f := Fn.tree_Clean) (an := S.tree_Clean.an) Tryz.func14 rfl (by show _ ≤ _; exact Nat.le_of_ble_eq_true rfl) (S.tree_Clean.eq a0 w R ▸ h)
/-- acheron/tree.Split -/
def S.tree_Split (a0 : Value) (w : World) (R : Value → World → Prop) : Prop :=
 Al Ty.sl_string #[.slice none 0 0] w fun t1 w2 =>
 Al Ty.api_Errno #[.int .i64 0] w2 fun t3 w4 =>
 LnS a0 fun t5 =>
 Bi .gtr t5 (.int .i64 1024) fun t6 =>
 Cnd t6 (
 St PP 1 t1 (.slice none 0 0) w4 fun w7 =>
 St PP 1 t3 (.int .i64 3) w7 fun w8 =>
 Ld t1 w8 fun t9 =>
 Ld t3 w8 fun t10 =>
 R (.tuple #[t9, t10]) w8) (
 Al Ty.sl_string #[.slice none 0 0] w4 fun t11 w12 =>
 Ca PP Fn.tree_Clean #[a0] w12 fun t13 w14 =>
 Ca PP Fn.strings_TrimPrefix #[t13, (.string ⟨#[47]⟩)] w14 fun t15 w16 =>
 Ca PP Fn.strings_SplitSeq #[t15, (.string ⟨#[47]⟩)] w16 fun t17 w18 =>
 RFo PP t17 w18 (RB.one fun r_19 L_20 t21 w22 Rn_23 Re_24 Rr_25 =>
 Bgn r_19 L_20 w22 fun w26 =>
 ∀ J27 : List Value → World → Prop, (∀ t30, ∀ w29 : World, (∀ u28 : Env,
 Cnd t30 (
 Rn_23 w29) (
 ∀ J31 : List Value → World → Prop, (∀ t34, ∀ w33 : World, (∀ u32 : Env,
 Cnd t34 (
 St PP 1 t1 (.slice none 0 0) w33 fun w35 =>
 St PP 1 t3 (.int .i64 8) w35 fun w36 =>
 Rr_25 w36) (
 Ld t11 w33 fun t37 =>
 Ef PP (Instr.buildSlice Ty.sl_string 1 #[(0, t21)]) w33 fun t38 w39 =>
 Ef PP (Builtin.append_ #[Ty.sl_string, Ty.sl_string] Ty.sl_string #[t37, t38]) w39 fun t40 w41 =>
 St PP 1 t11 t40 w41 fun w42 =>
 Rn_23 w42)) → J31 [t34] w33) →
 Bi .neq t21 (.string ⟨#[46, 46]⟩) fun t43 =>
 Gd t43 true (fun k44 => k44 t21 w29) w29 fun t45 w46 =>
 Gd t43 true (fun k47 => Ca PP Fn.tree_Valid #[t45] w46 fun t50 w51 =>
 k47 t50 w51) w46 fun t48 w49 =>
 Gd t43 true (fun k52 => Un .not t48 fun t55 =>
 k52 t55 w49) w49 fun t53 w54 =>
 Pk t43 t53 (.bool false) fun t56 =>
 J31 [t56] w54)) → J27 [t30] w29) →
 Bi .eql t21 (.string ⟨#[]⟩) fun t57 =>
 Gd t57 false (fun k58 => k58 t21 w26) w26 fun t59 w60 =>
 Gd t57 false (fun k61 => Bi .eql t59 (.string ⟨#[46]⟩) fun t64 =>
 k61 t64 w60) w60 fun t62 w63 =>
 Pk t57 (.bool true) t62 fun t65 =>
 J27 [t65] w63) (fun D_66 w67 =>
 Ld t11 w67 fun t68 =>
 St PP 1 t1 t68 w67 fun w69 =>
 St PP 1 t3 (.int .i64 0) w69 fun w70 =>
 Lvs PP (.mark D_66 :: []) w70 fun w71 =>
 Ld t1 w71 fun t72 =>
 Ld t3 w71 fun t73 =>
 R (.tuple #[t72, t73]) w71) [] (fun D_74 w75 =>
 Lvs PP (.mark D_74 :: []) w75 fun w76 =>
 Ld t1 w76 fun t77 =>
 Ld t3 w76 fun t78 =>
 R (.tuple #[t77, t78]) w76))
def S.tree_Split.an : Ann := (.seq .leaf (.seq (.seq .leaf (.cond (.seq .leaf .leaf) .leaf)) (.seq .leaf (.seq (.seq .leaf (.block (.rf .leaf (.block (.block (.join .leaf [18] [19,20,21,22,23,24] (.cond .leaf (.join .leaf [25] [26,27,28,29,30,31,32] (.cond (.seq .leaf .leaf) .leaf)))))) []))) (.seq .leaf .leaf)))))
theorem S.tree_Split.eq (a0 : Value) (w : World) (R : Value → World → Prop) : S.tree_Split a0 w R = fnC PP 34 (Tryz.f15.body.getD .skip) S.tree_Split.an [.cell 2 26, .cell 3 27] [a0] w R := by kernel_rfl
theorem S.tree_Split.calls {a0 : Value} {w : World} {R : Value → World → Prop} (h : S.tree_Split a0 w R) : Ca PP Fn.tree_Split #[a0] w R :=
  fnC_calls mixed (f := Fn.tree_Split) (an := S.tree_Split.an) Tryz.func15 rfl (by show _ ≤ _; exact Nat.le_of_ble_eq_true rfl) (S.tree_Split.eq a0 w R ▸ h)
/-- acheron/acheronlaw28.played -/
def S.law28_played (a0 a1 : Value) (w : World) (R : Value → World → Prop) : Prop :=
 Al Ty.law28_Setting (a0 : Value).cells w fun t1 w2 =>
 Fa 0 t1 fun t3 =>
 Ld t3 w2 fun t4 =>
 Fa 1 t1 fun t5 =>
 Ld t5 w2 fun t6 =>
 Ca PP Fn.tree_New #[t4, t6] w2 fun t7 w8 =>
 Ex t7 0 fun t9 =>
 Ex t7 1 fun t10 =>
 Bi .neq t10 (.int .i64 0) fun t11 =>
 Cnd t11 (
 R (.pointer none) w8) (
 LnL a1 fun t12 =>
 ∃ (I13 : List Value → World → Prop) (m14 : List Value → World → Nat), I13 [(.int .i64 0)] w8 ∧ ∀ t17, ∀ (u15 : Env) (w16 : World), I13 [t17] w16 →
 Bi .lss t17 t12 fun t18 =>
 Cnd t18 (
 IxA 20 a1 t17 fun t19 =>
 LdA PP 20 t19 w16 fun t20 =>
 Al Ty.law28_Act #[.int .i64 0, .int .i64 0, .int .i64 0, .string ⟨#[]⟩, .string ⟨#[]⟩, .int .i64 0, .int .i64 0, .int .i64 0, .int .i64 0, .string ⟨#[]⟩, .int .i64 0, .int .i64 0, .int .i64 0, .int .i64 0, .int .i64 0, .int .i64 0, .string ⟨#[]⟩, .string ⟨#[]⟩, .string ⟨#[]⟩, .string ⟨#[]⟩] w16 fun t21 w22 =>
 St PP 20 t21 t20 w22 fun w23 =>
 LdA PP 20 t21 w23 fun t24 =>
 Ca PP Fn.law28_Do #[t9, t24] w23 fun t25 w26 =>
 Bi .add t17 (.int .i64 1) fun t27 =>
 I13 [t27] w26 ∧ m14 [t27] w26 < m14 [t17] w16) (
 R t9 w16))
def S.law28_played.an : Ann := (.seq .leaf (.seq .leaf (.seq (.seq .leaf (.cond (.seq .leaf .leaf) .leaf)) (.seq (.seq .leaf (.block (.loop (.seq .leaf (.seq (.cond .leaf .leaf) (.seq (.block (.seq .leaf .leaf)) .leaf))) [21] [8,22,23,24,25,26,27,28]))) (.seq .leaf .leaf)))))
theorem S.law28_played.eq (a0 a1 : Value) (w : World) (R : Value → World → Prop) : S.law28_played a0 a1 w R = fnC PP 30 (Tryz.f19.body.getD .skip) S.law28_played.an [.tmp 4] [a0, a1] w R := by kernel_rfl
theorem S.law28_played.calls {a0 a1 : Value} {w : World} {R : Value → World → Prop} (h : S.law28_played a0 a1 w R) : Ca PP Fn.law28_played #[a0, a1] w R :=
  fnC_calls mixed (f := Fn.law28_played) (an := S.law28_played.an) Tryz.func19 rfl (by show _ ≤ _; exact Nat.le_of_ble_eq_true rfl) (S.law28_played.eq a0 a1 w R ▸ h)
/-- (*acheron/tree.Tree).Find -/
def S.tree_Tree_Find (a0 a1 : Value) (w : World) (R : Value → World → Prop) : Prop :=
 Al Ty.api_Qid #[.int .i64 0, .int .i64 0, .int .i64 0] w fun t1 w2 =>
 Rd PP (eqS .eql Ty.p_tree_Tree (.tmp 11) (.const (.pointer none)) a0 (.pointer none)) w2 fun t3 =>
 Cnd t3 (
 Bd #[.int .i64 0, .int .i64 0, .int .i64 0] [(0, 1), (1, 1), (2, 1)] [] fun t4 =>
 St PP 3 t1 t4 w2 fun w5 =>
 LdA PP 3 t1 w5 fun t6 =>
 R (.tuple #[t6, (.int .i64 6)]) w5) (
 ∀ J7 : List Value → World → Prop, (∀ t10, ∀ w9 : World, (∀ u8 : Env,
 Cnd t10 (
 Bd #[.int .i64 0, .int .i64 0, .int .i64 0] [(0, 1), (1, 1), (2, 1)] [] fun t11 =>
 St PP 3 t1 t11 w9 fun w12 =>
 LdA PP 3 t1 w12 fun t13 =>
 R (.tuple #[t13, (.int .i64 1)]) w12) (
 Ca PP Fn.tree_Split #[a1] w9 fun t14 w15 =>
 Ex t14 0 fun t16 =>
 Ex t14 1 fun t17 =>
 Bi .neq t17 (.int .i64 0) fun t18 =>
 Cnd t18 (
 Bd #[.int .i64 0, .int .i64 0, .int .i64 0] [(0, 1), (1, 1), (2, 1)] [] fun t19 =>
 St PP 3 t1 t19 w15 fun w20 =>
 LdA PP 3 t1 w20 fun t21 =>
 R (.tuple #[t21, t17]) w20) (
 Nc a0 fun t22 =>
 Fa 0 t22 fun t23 =>
 Ld t23 w15 fun t24 =>
 LnL t16 fun t25 =>
 ∃ (I26 : List Value → World → Prop) (m27 : List Value → World → Nat), I26 [t24, (.int .i64 0)] w15 ∧ ∀ t30 t31, ∀ (u28 : Env) (w29 : World), I26 [t30, t31] w29 →
 Bi .lss t31 t25 fun t32 =>
 Cnd t32 (
 IxA 1 t16 t31 fun t33 =>
 Ld t33 w29 fun t34 =>
 Ca PP Fn.tree_node_isDir #[t30] w29 fun t35 w36 =>
 Un .not t35 fun t37 =>
 Cnd t37 (
 Bd #[.int .i64 0, .int .i64 0, .int .i64 0] [(0, 1), (1, 1), (2, 1)] [] fun t38 =>
 St PP 3 t1 t38 w36 fun w39 =>
 LdA PP 3 t1 w39 fun t40 =>
 R (.tuple #[t40, (.int .i64 18)]) w39) (
 Nc t30 fun t41 =>
 Fa 11 t41 fun t42 =>
 Ld t42 w36 fun t43 =>
 Rd PP (Instr.lookup Ty.map_string_p_tree_node t43 t34 false) w36 fun t44 =>
 Rd PP (eqS .eql Ty.p_tree_node (.tmp 51) (.const (.pointer none)) t44 (.pointer none)) w36 fun t45 =>
 Cnd t45 (
 Bd #[.int .i64 0, .int .i64 0, .int .i64 0] [(0, 1), (1, 1), (2, 1)] [] fun t46 =>
 St PP 3 t1 t46 w36 fun w47 =>
 LdA PP 3 t1 w47 fun t48 =>
 R (.tuple #[t48, (.int .i64 4)]) w47) (
 Bi .add t31 (.int .i64 1) fun t49 =>
 I26 [t44, t49] w36 ∧ m27 [t44, t49] w36 < m27 [t30, t31] w29))) (
 Nc t30 fun t50 =>
 Fa 0 t50 fun t51 =>
 Fa 0 t51 fun t52 =>
 LdA PP 3 t52 w29 fun t53 =>
 St PP 3 t1 t53 w29 fun w54 =>
 LdA PP 3 t1 w54 fun t55 =>
 R (.tuple #[t55, (.int .i64 0)]) w54)))) → J7 [t10] w9) →
 Bi .eql a1 (.string ⟨#[]⟩) fun t56 =>
 Gd t56 false (fun k57 => k57 a1 w2) w2 fun t58 w59 =>
 Gd t56 false (fun k60 => IxS t58 (.int .i64 0) fun t63 =>
 k60 t63 w59) w59 fun t61 w62 =>
 Gd t56 false (fun k64 => Bi .neq t61 (.int .u8 47) fun t67 =>
 k64 t67 w62) w62 fun t65 w66 =>
 Pk t56 (.bool true) t65 fun t68 =>
 J7 [t68] w66)
def S.tree_Tree_Find.an : Ann := (.seq .leaf (.seq (.seq .leaf (.cond (.seq .leaf .leaf) .leaf)) (.seq (.join .leaf [20] [14,15,16,17,18,19] (.cond (.seq .leaf .leaf) .leaf)) (.seq .leaf (.seq (.seq .leaf (.cond (.seq .leaf .leaf) .leaf)) (.seq .leaf (.seq (.seq .leaf (.block (.loop (.seq .leaf (.seq (.cond .leaf .leaf) (.seq (.block (.seq .leaf (.seq (.seq .leaf (.cond (.seq .leaf .leaf) .leaf)) (.seq .leaf (.seq .leaf (.cond (.seq .leaf .leaf) .leaf)))))) .leaf))) [8,37] [5,10,38,39,40,41,42,43,44,45,46,47,48,49,50,51,52,53,54]))) (.seq .leaf .leaf))))))))
theorem S.tree_Tree_Find.eq (a0 a1 : Value) (w : World) (R : Value → World → Prop) : S.tree_Tree_Find a0 a1 w R = fnC PP 60 (Tryz.f20.body.getD .skip) S.tree_Tree_Find.an [.cell 4 37, .tmp 5] [a0, a1] w R := by kernel_rfl
theorem S.tree_Tree_Find.calls {a0 a1 : Value} {w : World} {R : Value → World → Prop} (h : S.tree_Tree_Find a0 a1 w R) : Ca PP Fn.tree_Tree_Find #[a0, a1] w R :=
  fnC_calls mixed (f := Fn.tree_Tree_Find) (an := S.tree_Tree_Find.an) Tryz.func20 rfl (by show _ ≤ _; exact Nat.le_of_ble_eq_true rfl) (S.tree_Tree_Find.eq a0 a1 w R ▸ h)
/-- acheron/tree.New -/
def S.tree_New (a0 a1 : Value) (w : World) (R : Value → World → Prop) : Prop :=
 Ef PP (Instr.buildSlice Ty.sl_string 1 #[(0, a0)]) w fun t1 w2 =>
 Ca PP Fn.tree_check #[a1, t1] w2 fun t3 w4 =>
 Bi .neq t3 (.int .i64 0) fun t5 =>
 Cnd t5 (
 R (.tuple #[(.pointer none), t3]) w4) (
 Ca PP Fn.tree_empty #[a1] w4 fun t6 w7 =>
 MkM w7 fun t8 w9 =>
 Bd #[.int .i64 0, .int .i64 0, .int .i64 0, .int .i64 0, .int .i64 0, .int .i64 0, .string ⟨#[]⟩, .string ⟨#[]⟩, .string ⟨#[]⟩, .string ⟨#[]⟩, .slice none 0 0, .map none, .pointer none, .bool false] [(0, 10), (10, 1), (11, 1), (12, 1), (13, 1)] [(2, t8)] fun t10 =>
 Al Ty.tree_node (t10 : Value).cells w9 fun t11 w12 =>
 Nc t6 fun t13 =>
 Fa 0 t13 fun t14 =>
 St PP 1 t14 t11 w12 fun w15 =>
 Nc t6 fun t16 =>
 Fa 0 t16 fun t17 =>
 Ld t17 w15 fun t18 =>
 Bd #[.int .i64 0, .int .i64 0, .int .i64 0, .int .i64 0, .int .i64 0, .int .i64 0, .string ⟨#[]⟩, .string ⟨#[]⟩, .string ⟨#[]⟩, .string ⟨#[]⟩] [(0, 3), (3, 1), (4, 1), (5, 1), (6, 1), (7, 1), (8, 1), (9, 1)] [(5, a0), (6, a0), (7, a0)] fun t19 =>
 Nc t18 fun t20 =>
 Fa 0 t20 fun t21 =>
 St PP 10 t21 t19 w15 fun w22 =>
 Nc t6 fun t23 =>
 Fa 0 t23 fun t24 =>
 Ld t24 w22 fun t25 =>
 Ca PP Fn.tree_node_is #[t25, (.int .i64 2147484157)] w22 fun t26 w27 =>
 Dr w27 fun w28 =>
 Nc t6 fun t29 =>
 Fa 1 t29 fun t30 =>
 Ld t30 w28 fun t31 =>
 Nc t6 fun t32 =>
 Fa 0 t32 fun t33 =>
 Ld t33 w28 fun t34 =>
 Ef PP (Instr.mapUpdate Ty.map_int64_p_tree_node t31 (.int .i64 0) t34) w28 fun _ w35 =>
 R (.tuple #[t6, (.int .i64 0)]) w35)
def S.tree_New.an : Ann := (.seq .leaf (.seq (.seq .leaf (.seq .leaf (.cond (.seq .leaf .leaf) .leaf))) (.seq .leaf (.seq .leaf (.seq .leaf (.seq .leaf (.seq (.draw [[],[0],[0,1],[0,1,2],[],[4],[4,5],[4,5,6],[0,1,2,3,4,5,6,7]] (.calm 0 (.calm 1 (.calm 2 (.calm 3 (.calm 4 (.calm 5 (.calm 6 (.calm 7 (.eff1 8 [] .done)))))))))) (.seq .leaf .leaf))))))))
theorem S.tree_New.eq (a0 a1 : Value) (w : World) (R : Value → World → Prop) : S.tree_New a0 a1 w R = fnC PP 47 (Tryz.f21.body.getD .skip) S.tree_New.an [.tmp 4, .tmp 5] [a0, a1] w R := by kernel_rfl
theorem S.tree_New.calls {a0 a1 : Value} {w : World} {R : Value → World → Prop} (h : S.tree_New a0 a1 w R) : Ca PP Fn.tree_New #[a0, a1] w R :=
  fnC_calls mixed (f := Fn.tree_New) (an := S.tree_New.an) Tryz.func21 rfl (by show _ ≤ _; exact Nat.le_of_ble_eq_true rfl) (S.tree_New.eq a0 a1 w R ▸ h)
/-- (*acheron/tree.Tree).Create -/
def S.tree_Tree_Create (a0 a1 a2 a3 a4 a5 : Value) (w : World) (R : Value → World → Prop) : Prop :=
 Al Ty.api_Qid #[.int .i64 0, .int .i64 0, .int .i64 0] w fun t1 w2 =>
 Rd PP (eqS .eql Ty.p_tree_Tree (.tmp 19) (.const (.pointer none)) a0 (.pointer none)) w2 fun t3 =>
 Cnd t3 (
 Bd #[.int .i64 0, .int .i64 0, .int .i64 0] [(0, 1), (1, 1), (2, 1)] [] fun t4 =>
 St PP 3 t1 t4 w2 fun w5 =>
 LdA PP 3 t1 w5 fun t6 =>
 R (.tuple #[(.int .i64 0), t6, (.int .i64 6)]) w5) (
 ∀ J7 : List Value → World → Prop, (∀ t10, ∀ w9 : World, (∀ u8 : Env,
 Cnd t10 (
 Bd #[.int .i64 0, .int .i64 0, .int .i64 0] [(0, 1), (1, 1), (2, 1)] [] fun t11 =>
 St PP 3 t1 t11 w9 fun w12 =>
 LdA PP 3 t1 w12 fun t13 =>
 R (.tuple #[(.int .i64 0), t13, (.int .i64 20)]) w12) (
 Ca PP Fn.tree_Tree_folder #[a0, a2] w9 fun t14 w15 =>
 Ex t14 0 fun t16 =>
 Ex t14 1 fun t17 =>
 Bi .neq t17 (.int .i64 0) fun t18 =>
 Cnd t18 (
 Bd #[.int .i64 0, .int .i64 0, .int .i64 0] [(0, 1), (1, 1), (2, 1)] [] fun t19 =>
 St PP 3 t1 t19 w15 fun w20 =>
 LdA PP 3 t1 w20 fun t21 =>
 R (.tuple #[(.int .i64 0), t21, t17]) w20) (
 ∀ J22 : List Value → World → Prop, (∀ t25, ∀ w24 : World, (∀ u23 : Env,
 Cnd t25 (
 Bd #[.int .i64 0, .int .i64 0, .int .i64 0] [(0, 1), (1, 1), (2, 1)] [] fun t26 =>
 St PP 3 t1 t26 w24 fun w27 =>
 LdA PP 3 t1 w27 fun t28 =>
 R (.tuple #[(.int .i64 0), t28, (.int .i64 8)]) w27) (
 Ca PP Fn.tree_Tree_may #[a0, a1, t16, (.int .i64 2)] w24 fun t29 w30 =>
 Un .not t29 fun t31 =>
 Cnd t31 (
 Bd #[.int .i64 0, .int .i64 0, .int .i64 0] [(0, 1), (1, 1), (2, 1)] [] fun t32 =>
 St PP 3 t1 t32 w30 fun w33 =>
 LdA PP 3 t1 w33 fun t34 =>
 R (.tuple #[(.int .i64 0), t34, (.int .i64 17)]) w33) (
 Nc t16 fun t35 =>
 Fa 11 t35 fun t36 =>
 Ld t36 w30 fun t37 =>
 Rd PP (Instr.lookup Ty.map_string_p_tree_node t37 a3 false) w30 fun t38 =>
 Rd PP (eqS .neq Ty.p_tree_node (.tmp 74) (.const (.pointer none)) t38 (.pointer none)) w30 fun t39 =>
 Cnd t39 (
 Bd #[.int .i64 0, .int .i64 0, .int .i64 0] [(0, 1), (1, 1), (2, 1)] [] fun t40 =>
 St PP 3 t1 t40 w30 fun w41 =>
 LdA PP 3 t1 w41 fun t42 =>
 R (.tuple #[(.int .i64 0), t42, (.int .i64 5)]) w41) (
 ∀ J43 : List Value → World → Prop, (∀ t46, ∀ w45 : World, (∀ u44 : Env,
 Cnd t46 (
 Bd #[.int .i64 0, .int .i64 0, .int .i64 0] [(0, 1), (1, 1), (2, 1)] [] fun t47 =>
 St PP 3 t1 t47 w45 fun w48 =>
 LdA PP 3 t1 w48 fun t49 =>
 R (.tuple #[(.int .i64 0), t49, (.int .i64 3)]) w48) (
 Ef PP (Instr.buildSlice Ty.sl_p_tree_node 1 #[(0, t16)]) w45 fun t50 w51 =>
 Ca PP Fn.tree_Tree_change #[a0, a1, t50] w51 fun t52 w53 =>
 Bd #[.int .i64 0, .int .i64 0, .int .i64 0, .int .i64 0, .int .i64 0, .int .i64 0, .string ⟨#[]⟩, .string ⟨#[]⟩, .string ⟨#[]⟩, .string ⟨#[]⟩, .slice none 0 0, .map none, .pointer none, .bool false] [(0, 10), (10, 1), (11, 1), (12, 1), (13, 1)] [(3, t16)] fun t54 =>
 Al Ty.tree_node (t54 : Value).cells w53 fun t55 w56 =>
 Dr w56 fun w57 =>
 Nc a0 fun t58 =>
 Fa 3 t58 fun t59 =>
 Ld t59 w57 fun t60 =>
 Bd #[.int .i64 0, .int .i64 0, .int .i64 0] [(0, 1), (1, 1), (2, 1)] [(2, t60)] fun t61 =>
 Nc a0 fun t62 =>
 Fa 4 t62 fun t63 =>
 Ld t63 w57 fun t64 =>
 Nc t16 fun t65 =>
 Fa 0 t65 fun t66 =>
 Fa 8 t66 fun t67 =>
 Ld t67 w57 fun t68 =>
 Bd #[.int .i64 0, .int .i64 0, .int .i64 0, .int .i64 0, .int .i64 0, .int .i64 0, .string ⟨#[]⟩, .string ⟨#[]⟩, .string ⟨#[]⟩, .string ⟨#[]⟩] [(0, 3), (3, 1), (4, 1), (5, 1), (6, 1), (7, 1), (8, 1), (9, 1)] [(0, t61), (2, t64), (4, a3), (5, a1), (6, t68), (7, a1)] fun t69 =>
 Nc t55 fun t70 =>
 Fa 0 t70 fun t71 =>
 St PP 10 t71 t69 w57 fun w72 =>
 ∀ J73 : List Value → World → Prop, (∀ t76, ∀ w75 : World, (∀ u74 : Env,
 Un .xor t76 fun t77 =>
 Nc t16 fun t78 =>
 Fa 0 t78 fun t79 =>
 Fa 3 t79 fun t80 =>
 Ld t80 w75 fun t81 =>
 Bi .and t81 t76 fun t82 =>
 Bi .or t77 t82 fun t83 =>
 Bi .and a4 t83 fun t84 =>
 Ca PP Fn.tree_node_is #[t55, t84] w75 fun t85 w86 =>
 Dr w86 fun w87 =>
 Nc a0 fun t88 =>
 Fa 1 t88 fun t89 =>
 Ld t89 w87 fun t90 =>
 Nc a0 fun t91 =>
 Fa 3 t91 fun t92 =>
 Ld t92 w87 fun t93 =>
 Ef PP (Instr.mapUpdate Ty.map_int64_p_tree_node t90 t93 t55) w87 fun _ w94 =>
 Nc t16 fun t95 =>
 Fa 11 t95 fun t96 =>
 Ld t96 w94 fun t97 =>
 Ef PP (Instr.mapUpdate Ty.map_string_p_tree_node t97 a3 t55) w94 fun _ w98 =>
 Nc a0 fun t99 =>
 Fa 3 t99 fun t100 =>
 Ld t100 w98 fun t101 =>
 Bi .add t101 (.int .i64 1) fun t102 =>
 Nc a0 fun t103 =>
 Fa 3 t103 fun t104 =>
 St PP 1 t104 t102 w98 fun w105 =>
 Ca PP Fn.tree_Tree_handle #[a0, t55, a5, a1] w105 fun t106 w107 =>
 Ex t106 0 fun t108 =>
 Ex t106 1 fun t109 =>
 Ex t106 2 fun t110 =>
 St PP 3 t1 t109 w107 fun w111 =>
 LdA PP 3 t1 w111 fun t112 =>
 R (.tuple #[t108, t112, t110]) w111) → J73 [t76] w75) →
 Bi .and a4 (.int .i64 2147483648) fun t113 =>
 Bi .neq t113 (.int .i64 0) fun t114 =>
 Cnd t114 (
 MkM w72 fun t115 w116 =>
 Nc t55 fun t117 =>
 Fa 11 t117 fun t118 =>
 St PP 1 t118 t115 w116 fun w119 =>
 J73 [(.int .i64 511)] w119) (
 J73 [(.int .i64 438)] w72))) → J43 [t46] w45) →
 Nc a0 fun t120 =>
 Fa 1 t120 fun t121 =>
 Ld t121 w30 fun t122 =>
 Rd PP (Builtin.len_ #[Ty.map_int64_p_tree_node] Ty.int #[t122]) w30 fun t123 =>
 Bi .geq t123 (.int .i64 1024) fun t124 =>
 Gd t124 false (fun k125 => k125 a0 w30) w30 fun t126 w127 =>
 Gd t124 false (fun k128 => Ca PP Fn.tree_Tree_room #[t126] w127 fun t131 w132 =>
 k128 t131 w132) w127 fun t129 w130 =>
 Gd t124 false (fun k133 => Un .not t129 fun t136 =>
 k133 t136 w130) w130 fun t134 w135 =>
 Pk t124 (.bool true) t134 fun t137 =>
 J43 [t137] w135)))) → J22 [t25] w24) →
 Ca PP Fn.tree_Valid #[a3] w15 fun t138 w139 =>
 Un .not t138 fun t140 =>
 Gd t140 false (fun k141 => k141 a1 w139) w139 fun t142 w143 =>
 Gd t140 false (fun k144 => Ca PP Fn.tree_Valid #[t142] w143 fun t147 w148 =>
 k144 t147 w148) w143 fun t145 w146 =>
 Gd t140 false (fun k149 => Un .not t145 fun t152 =>
 k149 t152 w146) w146 fun t150 w151 =>
 Pk t140 (.bool true) t150 fun t153 =>
 J22 [t153] w151))) → J7 [t10] w9) →
 Bi .andNot a5 (.int .i64 83) fun t154 =>
 Bi .neq t154 (.int .i64 0) fun t155 =>
 Gd t155 false (fun k156 => k156 a4 w2) w2 fun t157 w158 =>
 Gd t155 false (fun k159 => Ca PP Fn.tree_right #[t157] w158 fun t162 w163 =>
 k159 t162 w163) w158 fun t160 w161 =>
 Gd t155 false (fun k164 => Un .not t160 fun t167 =>
 k164 t167 w161) w161 fun t165 w166 =>
 Pk t155 (.bool true) t165 fun t168 =>
 Gd t168 false (fun k169 => k169 a4 w166) w166 fun t170 w171 =>
 Gd t168 false (fun k172 => Bi .and t170 (.int .i64 2147483648) fun t175 =>
 k172 t175 w171) w171 fun t173 w174 =>
 Gd t168 false (fun k176 => Bi .neq t173 (.int .i64 0) fun t179 =>
 k176 t179 w174) w174 fun t177 w178 =>
 Gd t168 false (fun k180 => k180 t177 w178) w178 fun t181 w182 =>
 Gd t181 true (fun k183 => k183 a5 w182) w182 fun t184 w185 =>
 Gd t181 true (fun k186 => Bi .neq t184 (.int .i64 0) fun t189 =>
 k186 t189 w185) w185 fun t187 w188 =>
 Gd t168 false (fun k190 => Pk t181 t187 (.bool false) fun t193 =>
 k190 t193 w188) w188 fun t191 w192 =>
 Pk t168 (.bool true) t191 fun t194 =>
 J7 [t194] w192)
def S.tree_Tree_Create.an : Ann := (.seq .leaf (.seq (.seq .leaf (.cond (.seq .leaf .leaf) .leaf)) (.seq (.join .leaf [38] [22,23,24,25,26,27,28,29,30,31,32,33,34,35,36,37] (.cond (.seq .leaf .leaf) .leaf)) (.seq .leaf (.seq (.block (.seq .leaf (.cond (.seq .leaf .leaf) (.join .leaf [51] [52,53,54,55,56,57,58,59] (.cond (.seq .leaf .leaf) (.seq .leaf (.cond (.seq .leaf .leaf) (.seq .leaf (.cond (.seq .leaf .leaf) (.join .leaf [77] [78,79,80,81,82,83,84,85,86,87,88] (.cond (.seq .leaf .leaf) .leaf))))))))))) (.seq .leaf (.seq .leaf (.seq (.draw [[],[],[1],[1,2],[1,2,3],[1,2,3,4],[],[6],[6,7],[6,7,8],[],[],[],[12],[12,13],[12,13,14],[12,13,14,15],[],[1,2,3,4,5,6,7,8,9,10,11,12,13,14,15,16,17],[0,1,2,3,4,5,6,7,8,9,10,11,12,13,14,15,16,17,18],[0,1,2,3,4,5,6,7,8,9,10,11,12,13,14,15,16,17,18,19],[0,1,2,3,4,5,6,7,8,9,10,11,12,13,14,15,16,17,18,19,20]] (.calm 0 (.calm 1 (.calm 2 (.calm 3 (.calm 4 (.calm 5 (.calm 6 (.calm 7 (.calm 8 (.calm 9 (.calm 10 (.calm 11 (.calm 12 (.calm 13 (.calm 14 (.calm 15 (.calm 16 (.calm 17 (.calm 18 (.calm 19 (.calm 20 (.eff1 21 [] .done))))))))))))))))))))))) (.seq .leaf (.join (.seq .leaf (.cond .leaf .leaf)) [18] [119,120,121,122,123,124,125] (.seq .leaf (.seq (.draw [[],[0],[0,1],[0,1,2],[],[4],[4,5],[4,5,6],[],[0,1,2,3,4,5,6,7,8]] (.calm 0 (.calm 1 (.calm 2 (.calm 3 (.calm 4 (.calm 5 (.calm 6 (.calm 7 (.calm 8 (.eff1 9 [] .done))))))))))) (.seq .leaf (.seq .leaf (.seq .leaf .leaf)))))))))))))))
theorem S.tree_Tree_Create.eq (a0 a1 a2 a3 a4 a5 : Value) (w : World) (R : Value → World → Prop) : S.tree_Tree_Create a0 a1 a2 a3 a4 a5 w R = fnC PP 170 (Tryz.f22.body.getD .skip) S.tree_Tree_Create.an [.tmp 12, .cell 13 37, .tmp 14] [a0, a1, a2, a3, a4, a5] w R := by kernel_rfl
theorem S.tree_Tree_Create.calls {a0 a1 a2 a3 a4 a5 : Value} {w : World} {R : Value → World → Prop} (h : S.tree_Tree_Create a0 a1 a2 a3 a4 a5 w R) : Ca PP Fn.tree_Tree_Create #[a0, a1, a2, a3, a4, a5] w R :=
  fnC_calls mixed (f := Fn.tree_Tree_Create) (an := S.tree_Tree_Create.an) Tryz.func22 rfl (by show _ ≤ _; exact Nat.le_of_ble_eq_true rfl) (S.tree_Tree_Create.eq a0 a1 a2 a3 a4 a5 w R ▸ h)
/-- (*acheron/tree.Tree).Close -/
def S.tree_Tree_Close (a0 a1 : Value) (w : World) (R : Value → World → Prop) : Prop :=
 Ca PP Fn.tree_Tree_opened #[a0, a1] w fun t1 w2 =>
 Ex t1 0 fun t3 =>
 Ex t1 1 fun t4 =>
 Al Ty.tree_handle #[.pointer none, .int .i64 0, .string ⟨#[]⟩] w2 fun t5 w6 =>
 St PP 3 t5 t3 w6 fun w7 =>
 Bi .neq t4 (.int .i64 0) fun t8 =>
 Cnd t8 (
 R t4 w7) (
 Nc a0 fun t9 =>
 Fa 5 t9 fun t10 =>
 Ld t10 w7 fun t11 =>
 Ef PP (Builtin.delete_ #[Ty.map_int_tree_handle, Ty.int] Ty.t #[t11, a1]) w7 fun x_12 w13 =>
 ∀ J14 : List Value → World → Prop, (∀ w16 : World, (∀ u15 : Env,
 R (.int .i64 0) w16) → J14 [] w16) →
 ∀ J17 : List Value → World → Prop, (∀ t20, ∀ w19 : World, (∀ u18 : Env,
 Cnd t20 (
 Fa 2 t5 fun t21 =>
 Ld t21 w19 fun t22 =>
 Fa 0 t5 fun t23 =>
 Ld t23 w19 fun t24 =>
 Ca PP Fn.tree_Tree_remove #[a0, t22, t24] w19 fun t25 w26 =>
 J14 [] w26) (
 J14 [] w19)) → J17 [t20] w19) →
 Fa 1 t5 fun t27 =>
 Ld t27 w13 fun t28 =>
 Bi .and t28 (.int .i64 64) fun t29 =>
 Bi .neq t29 (.int .i64 0) fun t30 =>
 Gd t30 true (fun k31 => Fa 0 t5 fun t34 =>
 k31 t34 w13) w13 fun t32 w33 =>
 Gd t30 true (fun k35 => Ld t32 w33 fun t38 =>
 k35 t38 w33) w33 fun t36 w37 =>
 Gd t30 true (fun k39 => Nc t36 fun t42 =>
 k39 t42 w37) w37 fun t40 w41 =>
 Gd t30 true (fun k43 => Fa 13 t40 fun t46 =>
 k43 t46 w41) w41 fun t44 w45 =>
 Gd t30 true (fun k47 => Ld t44 w45 fun t50 =>
 k47 t50 w45) w45 fun t48 w49 =>
 Gd t30 true (fun k51 => Un .not t48 fun t54 =>
 k51 t54 w49) w49 fun t52 w53 =>
 Pk t30 t52 (.bool false) fun t55 =>
 J17 [t55] w53)
def S.tree_Tree_Close.an : Ann := (.seq .leaf (.seq .leaf (.seq (.seq .leaf (.cond (.seq .leaf .leaf) .leaf)) (.seq .leaf (.join (.join .leaf [32] [21,22,23,24,25,26,27,28,29,30,31] (.cond .leaf .leaf)) [] [21,22,23,24,25,26,27,28,29,30,31,32,33,34,35,36,37,38] (.seq .leaf .leaf))))))
theorem S.tree_Tree_Close.eq (a0 a1 : Value) (w : World) (R : Value → World → Prop) : S.tree_Tree_Close a0 a1 w R = fnC PP 39 (Tryz.f23.body.getD .skip) S.tree_Tree_Close.an [.tmp 4] [a0, a1] w R := by kernel_rfl
theorem S.tree_Tree_Close.calls {a0 a1 : Value} {w : World} {R : Value → World → Prop} (h : S.tree_Tree_Close a0 a1 w R) : Ca PP Fn.tree_Tree_Close #[a0, a1] w R :=
  fnC_calls mixed (f := Fn.tree_Tree_Close) (an := S.tree_Tree_Close.an) Tryz.func23 rfl (by show _ ≤ _; exact Nat.le_of_ble_eq_true rfl) (S.tree_Tree_Close.eq a0 a1 w R ▸ h)
/-- (*acheron/tree.Tree).Write -/
def S.tree_Tree_Write (a0 a1 a2 a3 : Value) (w : World) (R : Value → World → Prop) : Prop :=
 Ca PP Fn.tree_Tree_opened #[a0, a1] w fun t1 w2 =>
 Ex t1 0 fun t3 =>
 Ex t1 1 fun t4 =>
 Al Ty.tree_handle #[.pointer none, .int .i64 0, .string ⟨#[]⟩] w2 fun t5 w6 =>
 St PP 3 t5 t3 w6 fun w7 =>
 Bi .neq t4 (.int .i64 0) fun t8 =>
 Cnd t8 (
 R (.tuple #[(.int .i64 0), t4]) w7) (
 ∀ J9 : List Value → World → Prop, (∀ t12, ∀ w11 : World, (∀ u10 : Env,
 Cnd t12 (
 R (.tuple #[(.int .i64 0), (.int .i64 20)]) w11) (
 Fa 0 t5 fun t13 =>
 Ld t13 w11 fun t14 =>
 Nc t14 fun t15 =>
 Fa 13 t15 fun t16 =>
 Ld t16 w11 fun t17 =>
 Cnd t17 (
 R (.tuple #[(.int .i64 0), (.int .i64 4)]) w11) (
 Bi .lss a2 (.int .i64 0) fun t18 =>
 Cnd t18 (
 R (.tuple #[(.int .i64 0), (.int .i64 11)]) w11) (
 Bi .eql a3 (.string ⟨#[]⟩) fun t19 =>
 Cnd t19 (
 R (.tuple #[(.int .i64 0), (.int .i64 0)]) w11) (
 ∀ J20 : List Value → World → Prop, (∀ t23, ∀ w22 : World, (∀ u21 : Env,
 ∀ J24 : List Value → World → Prop, (∀ t27, ∀ w26 : World, (∀ u25 : Env,
 Cnd t27 (
 R (.tuple #[(.int .i64 0), (.int .i64 3)]) w26) (
 Dr w26 fun w28 =>
 Fa 0 t5 fun t29 =>
 Ld t29 w28 fun t30 =>
 Fa 0 t5 fun t31 =>
 Ld t31 w28 fun t32 =>
 Nc t32 fun t33 =>
 Fa 10 t33 fun t34 =>
 Ld t34 w28 fun t35 =>
 LnL t35 fun t36 =>
 LnS a3 fun t37 =>
 Bi .add t23 t37 fun t38 =>
 Mx t36 t38 fun t39 =>
 Ca PP Fn.tree_node_resize #[t30, t39] w28 fun t40 w41 =>
 Fa 0 t5 fun t42 =>
 Ld t42 w41 fun t43 =>
 Nc t43 fun t44 =>
 Fa 10 t44 fun t45 =>
 Ld t45 w41 fun t46 =>
 Sl 1 t46 (some t23) none fun t47 =>
 Ef PP (Builtin.copy_ #[Ty.sl_uint8, Ty.string] Ty.int #[t47, a3]) w41 fun t48 w49 =>
 Fa 2 t5 fun t50 =>
 Ld t50 w49 fun t51 =>
 Fa 0 t5 fun t52 =>
 Ld t52 w49 fun t53 =>
 Ef PP (Instr.buildSlice Ty.sl_p_tree_node 1 #[(0, t53)]) w49 fun t54 w55 =>
 Ca PP Fn.tree_Tree_change #[a0, t51, t54] w55 fun t56 w57 =>
 LnS a3 fun t58 =>
 R (.tuple #[t58, (.int .i64 0)]) w57)) → J24 [t27] w26) →
 LnS a3 fun t59 =>
 Bi .gtr t59 (.int .i64 1048576) fun t60 =>
 Gd t60 false (fun k61 => k61 t23 w22) w22 fun t62 w63 =>
 Gd t60 false (fun k64 => k64 a3 w63) w63 fun t65 w66 =>
 Gd t60 false (fun k67 => LnS t65 fun t70 =>
 k67 t70 w66) w66 fun t68 w69 =>
 Gd t60 false (fun k71 => Bi .sub (.int .i64 1048576) t68 fun t74 =>
 k71 t74 w69) w69 fun t72 w73 =>
 Gd t60 false (fun k75 => Bi .gtr t62 t72 fun t78 =>
 k75 t78 w73) w73 fun t76 w77 =>
 Pk t60 (.bool true) t76 fun t79 =>
 J24 [t79] w77) → J20 [t23] w22) →
 Fa 0 t5 fun t80 =>
 Ld t80 w11 fun t81 =>
 Nc t81 fun t82 =>
 Fa 0 t82 fun t83 =>
 Fa 3 t83 fun t84 =>
 Ld t84 w11 fun t85 =>
 Bi .and t85 (.int .i64 1073741824) fun t86 =>
 Bi .neq t86 (.int .i64 0) fun t87 =>
 Cnd t87 (
 Fa 0 t5 fun t88 =>
 Ld t88 w11 fun t89 =>
 Nc t89 fun t90 =>
 Fa 10 t90 fun t91 =>
 Ld t91 w11 fun t92 =>
 LnL t92 fun t93 =>
 J20 [t93] w11) (
 J20 [a2] w11)))))) → J9 [t12] w11) →
 Fa 1 t5 fun t94 =>
 Ld t94 w7 fun t95 =>
 Bi .and t95 (.int .i64 3) fun t96 =>
 Bi .neq t96 (.int .i64 1) fun t97 =>
 Gd t97 true (fun k98 => Fa 1 t5 fun t101 =>
 k98 t101 w7) w7 fun t99 w100 =>
 Gd t97 true (fun k102 => Ld t99 w100 fun t105 =>
 k102 t105 w100) w100 fun t103 w104 =>
 Gd t97 true (fun k106 => Bi .and t103 (.int .i64 3) fun t109 =>
 k106 t109 w104) w104 fun t107 w108 =>
 Gd t97 true (fun k110 => Bi .neq t107 (.int .i64 2) fun t113 =>
 k110 t113 w108) w108 fun t111 w112 =>
 Pk t97 t111 (.bool false) fun t114 =>
 J9 [t114] w112)
def S.tree_Tree_Write.an : Ann := (.seq .leaf (.seq .leaf (.seq (.block (.seq .leaf (.cond (.seq .leaf .leaf) (.join .leaf [22] [23,24,25,26,27,28,29,30,31,32] (.cond (.seq .leaf .leaf) (.seq .leaf (.cond (.seq .leaf .leaf) (.seq .leaf (.cond (.seq .leaf .leaf) (.seq .leaf (.cond (.seq .leaf .leaf) .leaf))))))))))) (.join (.seq .leaf (.cond .leaf .leaf)) [2] [45,46,47,48,49,50,51,52,53,54,55,56,57,58] (.seq (.join .leaf [68] [59,60,61,62,63,64,65,66,67] (.cond (.seq .leaf .leaf) .leaf)) (.seq (.draw [[],[0],[],[2],[2,3],[2,3,4],[2,3,4,5],[2,3,4,5,6],[],[],[9],[8,9,10],[2,3,4,5,6,7,8,9,10,11],[0,1,2,3,4,5,6,7,8,9,10,11,12]] (.calm 0 (.calm 1 (.calm 2 (.calm 3 (.calm 4 (.calm 5 (.calm 6 (.calm 7 (.calm 8 (.calm 9 (.calm 10 (.calm 11 (.calm 12 (.eff1 13 [] .done))))))))))))))) (.seq .leaf (.seq .leaf (.seq .leaf .leaf)))))))))
theorem S.tree_Tree_Write.eq (a0 a1 a2 a3 : Value) (w : World) (R : Value → World → Prop) : S.tree_Tree_Write a0 a1 a2 a3 w R = fnC PP 101 (Tryz.f24.body.getD .skip) S.tree_Tree_Write.an [.tmp 8, .tmp 9] [a0, a1, a2, a3] w R := by kernel_rfl
theorem S.tree_Tree_Write.calls {a0 a1 a2 a3 : Value} {w : World} {R : Value → World → Prop} (h : S.tree_Tree_Write a0 a1 a2 a3 w R) : Ca PP Fn.tree_Tree_Write #[a0, a1, a2, a3] w R :=
  fnC_calls mixed (f := Fn.tree_Tree_Write) (an := S.tree_Tree_Write.an) Tryz.func24 rfl (by show _ ≤ _; exact Nat.le_of_ble_eq_true rfl) (S.tree_Tree_Write.eq a0 a1 a2 a3 w R ▸ h)
/-- (*acheron/tree.Tree).Stat -/
def S.tree_Tree_Stat (a0 a1 a2 : Value) (w : World) (R : Value → World → Prop) : Prop :=
 Al Ty.api_Dir #[.int .i64 0, .int .i64 0, .int .i64 0, .int .i64 0, .int .i64 0, .int .i64 0, .string ⟨#[]⟩, .string ⟨#[]⟩, .string ⟨#[]⟩, .string ⟨#[]⟩] w fun t1 w2 =>
 Ca PP Fn.tree_Tree_find #[a0, a2] w2 fun t3 w4 =>
 Ex t3 0 fun t5 =>
 Ex t3 1 fun t6 =>
 Bi .neq t6 (.int .i64 0) fun t7 =>
 Cnd t7 (
 Bd #[.int .i64 0, .int .i64 0, .int .i64 0, .int .i64 0, .int .i64 0, .int .i64 0, .string ⟨#[]⟩, .string ⟨#[]⟩, .string ⟨#[]⟩, .string ⟨#[]⟩] [(0, 3), (3, 1), (4, 1), (5, 1), (6, 1), (7, 1), (8, 1), (9, 1)] [] fun t8 =>
 St PP 10 t1 t8 w4 fun w9 =>
 LdA PP 10 t1 w9 fun t10 =>
 R (.tuple #[t10, t6]) w9) (
 Ca PP Fn.tree_node_stat #[t5] w4 fun t11 w12 =>
 St PP 10 t1 t11 w12 fun w13 =>
 LdA PP 10 t1 w13 fun t14 =>
 R (.tuple #[t14, (.int .i64 0)]) w13)
def S.tree_Tree_Stat.an : Ann := (.seq .leaf (.seq .leaf (.seq (.seq .leaf (.cond (.seq .leaf .leaf) .leaf)) (.seq .leaf .leaf))))
theorem S.tree_Tree_Stat.eq (a0 a1 a2 : Value) (w : World) (R : Value → World → Prop) : S.tree_Tree_Stat a0 a1 a2 w R = fnC PP 22 (Tryz.f25.body.getD .skip) S.tree_Tree_Stat.an [.cell 6 51, .tmp 7] [a0, a1, a2] w R := by kernel_rfl
theorem S.tree_Tree_Stat.calls {a0 a1 a2 : Value} {w : World} {R : Value → World → Prop} (h : S.tree_Tree_Stat a0 a1 a2 w R) : Ca PP Fn.tree_Tree_Stat #[a0, a1, a2] w R :=
  fnC_calls mixed (f := Fn.tree_Tree_Stat) (an := S.tree_Tree_Stat.an) Tryz.func25 rfl (by show _ ≤ _; exact Nat.le_of_ble_eq_true rfl) (S.tree_Tree_Stat.eq a0 a1 a2 w R ▸ h)
/-- acheron/acheronlaw28.Do -/
def S.law28_Do (a0 a1 : Value) (w : World) (R : Value → World → Prop) : Prop :=
 Al Ty.law28_Act (a1 : Value).cells w fun t1 w2 =>
 Al Ty.law28_Answer #[.int .i64 0, .int .i64 0, .int .i64 0, .int .i64 0, .int .i64 0, .int .i64 0, .int .i64 0, .int .i64 0, .int .i64 0, .string ⟨#[]⟩, .string ⟨#[]⟩, .string ⟨#[]⟩, .string ⟨#[]⟩, .int .i64 0, .string ⟨#[]⟩, .slice none 0 0, .int .i64 0] w2 fun t3 w4 =>
 Bd #[.int .i64 0, .int .i64 0, .int .i64 0, .int .i64 0, .int .i64 0, .int .i64 0, .int .i64 0, .int .i64 0, .int .i64 0, .string ⟨#[]⟩, .string ⟨#[]⟩, .string ⟨#[]⟩, .string ⟨#[]⟩, .int .i64 0, .string ⟨#[]⟩, .slice none 0 0, .int .i64 0] [(0, 3), (3, 10), (13, 1), (14, 1), (15, 1), (16, 1)] [] fun t5 =>
 Al Ty.law28_Answer #[.int .i64 0, .int .i64 0, .int .i64 0, .int .i64 0, .int .i64 0, .int .i64 0, .int .i64 0, .int .i64 0, .int .i64 0, .string ⟨#[]⟩, .string ⟨#[]⟩, .string ⟨#[]⟩, .string ⟨#[]⟩, .int .i64 0, .string ⟨#[]⟩, .slice none 0 0, .int .i64 0] w4 fun t6 w7 =>
 St PP 17 t6 t5 w7 fun w8 =>
 ∀ J9 : List Value → World → Prop, (∀ w11 : World, (∀ u10 : Env,
 LdA PP 17 t6 w11 fun t12 =>
 St PP 17 t3 t12 w11 fun w13 =>
 LdA PP 17 t3 w13 fun t14 =>
 R t14 w13) → J9 [] w11) →
 Fa 0 t1 fun t15 =>
 Ld t15 w8 fun t16 =>
 Bi .eql t16 (.int .i64 0) fun t17 =>
 Cnd t17 (
 Fa 3 t1 fun t18 =>
 Ld t18 w8 fun t19 =>
 Fa 2 t1 fun t20 =>
 Ld t20 w8 fun t21 =>
 Fa 4 t1 fun t22 =>
 Ld t22 w8 fun t23 =>
 Ca PP Fn.tree_Tree_Walk #[a0, t19, t21, t23] w8 fun t24 w25 =>
 Ex t24 0 fun t26 =>
 Ex t24 1 fun t27 =>
 Fa 0 t6 fun t28 =>
 St PP 3 t28 t26 w25 fun w29 =>
 Fa 16 t6 fun t30 =>
 St PP 1 t30 t27 w29 fun w31 =>
 J9 [] w31) (
 Bi .eql t16 (.int .i64 1) fun t32 =>
 Cnd t32 (
 Fa 3 t1 fun t33 =>
 Ld t33 w8 fun t34 =>
 Fa 2 t1 fun t35 =>
 Ld t35 w8 fun t36 =>
 Ca PP Fn.tree_Tree_Stat #[a0, t34, t36] w8 fun t37 w38 =>
 Ex t37 0 fun t39 =>
 Ex t37 1 fun t40 =>
 Fa 3 t6 fun t41 =>
 St PP 10 t41 t39 w38 fun w42 =>
 Fa 16 t6 fun t43 =>
 St PP 1 t43 t40 w42 fun w44 =>
 J9 [] w44) (
 Bi .eql t16 (.int .i64 2) fun t45 =>
 Cnd t45 (
 Fa 3 t1 fun t46 =>
 Ld t46 w8 fun t47 =>
 Fa 2 t1 fun t48 =>
 Ld t48 w8 fun t49 =>
 Fa 10 t1 fun t50 =>
 LdA PP 10 t50 w8 fun t51 =>
 Ca PP Fn.tree_Tree_Wstat #[a0, t47, t49, t51] w8 fun t52 w53 =>
 Fa 16 t6 fun t54 =>
 St PP 1 t54 t52 w53 fun w55 =>
 J9 [] w55) (
 Bi .eql t16 (.int .i64 3) fun t56 =>
 Cnd t56 (
 Fa 3 t1 fun t57 =>
 Ld t57 w8 fun t58 =>
 Fa 2 t1 fun t59 =>
 Ld t59 w8 fun t60 =>
 Fa 5 t1 fun t61 =>
 Ld t61 w8 fun t62 =>
 Ca PP Fn.tree_Tree_Open #[a0, t58, t60, t62] w8 fun t63 w64 =>
 Ex t63 0 fun t65 =>
 Ex t63 1 fun t66 =>
 Ex t63 2 fun t67 =>
 Fa 13 t6 fun t68 =>
 St PP 1 t68 t65 w64 fun w69 =>
 Fa 0 t6 fun t70 =>
 St PP 3 t70 t66 w69 fun w71 =>
 Fa 16 t6 fun t72 =>
 St PP 1 t72 t67 w71 fun w73 =>
 J9 [] w73) (
 Bi .eql t16 (.int .i64 4) fun t74 =>
 Cnd t74 (
 Fa 3 t1 fun t75 =>
 Ld t75 w8 fun t76 =>
 Fa 2 t1 fun t77 =>
 Ld t77 w8 fun t78 =>
 Fa 4 t1 fun t79 =>
 Ld t79 w8 fun t80 =>
 Fa 6 t1 fun t81 =>
 Ld t81 w8 fun t82 =>
 Fa 5 t1 fun t83 =>
 Ld t83 w8 fun t84 =>
 Ca PP Fn.tree_Tree_Create #[a0, t76, t78, t80, t82, t84] w8 fun t85 w86 =>
 Ex t85 0 fun t87 =>
 Ex t85 1 fun t88 =>
 Ex t85 2 fun t89 =>
 Fa 13 t6 fun t90 =>
 St PP 1 t90 t87 w86 fun w91 =>
 Fa 0 t6 fun t92 =>
 St PP 3 t92 t88 w91 fun w93 =>
 Fa 16 t6 fun t94 =>
 St PP 1 t94 t89 w93 fun w95 =>
 J9 [] w95) (
 Bi .eql t16 (.int .i64 5) fun t96 =>
 Cnd t96 (
 Fa 1 t1 fun t97 =>
 Ld t97 w8 fun t98 =>
 Fa 8 t1 fun t99 =>
 Ld t99 w8 fun t100 =>
 Fa 7 t1 fun t101 =>
 Ld t101 w8 fun t102 =>
 Ca PP Fn.tree_Tree_Read #[a0, t98, t100, t102] w8 fun t103 w104 =>
 Ex t103 0 fun t105 =>
 Ex t103 1 fun t106 =>
 Fa 14 t6 fun t107 =>
 St PP 1 t107 t105 w104 fun w108 =>
 Fa 16 t6 fun t109 =>
 St PP 1 t109 t106 w108 fun w110 =>
 J9 [] w110) (
 Bi .eql t16 (.int .i64 6) fun t111 =>
 Cnd t111 (
 Fa 1 t1 fun t112 =>
 Ld t112 w8 fun t113 =>
 Ca PP Fn.tree_Tree_List #[a0, t113] w8 fun t114 w115 =>
 Ex t114 0 fun t116 =>
 Ex t114 1 fun t117 =>
 Fa 15 t6 fun t118 =>
 St PP 1 t118 t116 w115 fun w119 =>
 Fa 16 t6 fun t120 =>
 St PP 1 t120 t117 w119 fun w121 =>
 J9 [] w121) (
 Bi .eql t16 (.int .i64 7) fun t122 =>
 Cnd t122 (
 Fa 1 t1 fun t123 =>
 Ld t123 w8 fun t124 =>
 Fa 8 t1 fun t125 =>
 Ld t125 w8 fun t126 =>
 Fa 9 t1 fun t127 =>
 Ld t127 w8 fun t128 =>
 Ca PP Fn.tree_Tree_Write #[a0, t124, t126, t128] w8 fun t129 w130 =>
 Ex t129 0 fun t131 =>
 Ex t129 1 fun t132 =>
 Fa 13 t6 fun t133 =>
 St PP 1 t133 t131 w130 fun w134 =>
 Fa 16 t6 fun t135 =>
 St PP 1 t135 t132 w134 fun w136 =>
 J9 [] w136) (
 Bi .eql t16 (.int .i64 8) fun t137 =>
 Cnd t137 (
 Fa 1 t1 fun t138 =>
 Ld t138 w8 fun t139 =>
 Ca PP Fn.tree_Tree_Close #[a0, t139] w8 fun t140 w141 =>
 Fa 16 t6 fun t142 =>
 St PP 1 t142 t140 w141 fun w143 =>
 J9 [] w143) (
 Bi .eql t16 (.int .i64 9) fun t144 =>
 Cnd t144 (
 Fa 3 t1 fun t145 =>
 Ld t145 w8 fun t146 =>
 Fa 2 t1 fun t147 =>
 Ld t147 w8 fun t148 =>
 Ca PP Fn.tree_Tree_Remove #[a0, t146, t148] w8 fun t149 w150 =>
 Fa 16 t6 fun t151 =>
 St PP 1 t151 t149 w150 fun w152 =>
 J9 [] w152) (
 Bi .eql t16 (.int .i64 10) fun t153 =>
 Cnd t153 (
 Fa 4 t1 fun t154 =>
 Ld t154 w8 fun t155 =>
 Ca PP Fn.tree_Tree_Find #[a0, t155] w8 fun t156 w157 =>
 Ex t156 0 fun t158 =>
 Ex t156 1 fun t159 =>
 Fa 0 t6 fun t160 =>
 St PP 3 t160 t158 w157 fun w161 =>
 Fa 16 t6 fun t162 =>
 St PP 1 t162 t159 w161 fun w163 =>
 J9 [] w163) (
 Bi .eql t16 (.int .i64 11) fun t164 =>
 Cnd t164 (
 Fa 2 t1 fun t165 =>
 Ld t165 w8 fun t166 =>
 Ca PP Fn.tree_Tree_Path #[a0, t166] w8 fun t167 w168 =>
 Ex t167 0 fun t169 =>
 Ex t167 1 fun t170 =>
 Fa 14 t6 fun t171 =>
 St PP 1 t171 t169 w168 fun w172 =>
 Fa 16 t6 fun t173 =>
 St PP 1 t173 t170 w172 fun w174 =>
 J9 [] w174) (
 J9 [] w8))))))))))))
def S.law28_Do.an : Ann := (.seq .leaf (.seq .leaf (.join (.seq .leaf (.block (.seq .leaf (.cond .leaf (.seq .leaf (.cond .leaf (.seq .leaf (.cond .leaf (.seq .leaf (.cond .leaf (.seq .leaf (.cond .leaf (.seq .leaf (.cond .leaf (.seq .leaf (.cond .leaf (.seq .leaf (.cond .leaf (.seq .leaf (.cond .leaf (.seq .leaf (.cond .leaf (.seq .leaf (.cond .leaf (.seq .leaf (.cond .leaf .leaf)))))))))))))))))))))))))) [] [7,8,9,10,11,12,13,14,15,16,17,18,19,20,21,22,23,24,25,26,27,28,29,30,31,32,33,34,35,36,37,38,39,40,41,42,43,44,45,46,47,48,49,50,51,52,53,54,55,56,57,58,59,60,61,62,63,64,65,66,67,68,69,70,71,72,73,74,75,76,77,78,79,80,81,82,83,84,85,86,87,88,89,90,91,92,93,94,95,96,97,98,99,100,101,102,103,104,105,106,107,108,109,110,111,112,113,114,115,116,117,118,119,120,121,122,123,124,125,126,127,128,129,130,131,132,133,134,135,136,137,138,139,140,141,142,143,144,145,146,147,148,149,150,151,152,153,154,155,156,157,158,159,160,161,162,163,164] (.seq .leaf .leaf))))
theorem S.law28_Do.eq (a0 a1 : Value) (w : World) (R : Value → World → Prop) : S.law28_Do a0 a1 w R = fnC PP 166 (Tryz.f26.body.getD .skip) S.law28_Do.an [.cell 4 58] [a0, a1] w R := by kernel_rfl
theorem S.law28_Do.calls {a0 a1 : Value} {w : World} {R : Value → World → Prop} (h : S.law28_Do a0 a1 w R) : Ca PP Fn.law28_Do #[a0, a1] w R :=
  fnC_calls mixed (f := Fn.law28_Do) (an := S.law28_Do.an) Tryz.func26 rfl (by show _ ≤ _; exact Nat.le_of_ble_eq_true rfl) (S.law28_Do.eq a0 a1 w R ▸ h)
/-- (*acheron/tree.Tree).Files -/
def S.tree_Tree_Files (a0 : Value) (w : World) (R : Value → World → Prop) : Prop :=
 Al Ty.sl_tree_File #[.slice none 0 0] w fun t1 w2 =>
 ∀ J3 : List Df → List Value → World → Prop, (∀ (ds_6 : List Df) (w5 : World), (∀ u4 : Env,
 Ld t1 w5 fun t7 =>
 Lvs PP ds_6 w5 fun w8 =>
 R t7 w8) → J3 ds_6 [] w5) →
 Rd PP (eqS .neq Ty.p_tree_Tree (.tmp 5) (.const (.pointer none)) a0 (.pointer none)) w2 fun t9 =>
 Cnd t9 (
 Nc a0 fun t10 =>
 Fa 0 t10 fun t11 =>
 Ld t11 w2 fun t12 =>
 Ca PP Fn.tree_node_all #[t12] w2 fun t13 w14 =>
 RFo PP t13 w14 (RB.one fun r_15 L_16 t17 w18 Rn_19 Re_20 Rr_21 =>
 Bgn r_15 L_16 w18 fun w22 =>
 Dr w22 fun w23 =>
 Ld t1 w23 fun t24 =>
 Nc t17 fun t25 =>
 Fa 10 t25 fun t26 =>
 Ld t26 w23 fun t27 =>
 Rd PP (convert Ty.sl_uint8 Ty.string t27) w23 fun t28 =>
 Ca PP Fn.tree_node_path #[t17] w23 fun t29 w30 =>
 (Ld t1 w30 fun t31 =>
 t31 = t24) ∧
 (Ld t26 w30 fun t32 =>
 t32 = t27) ∧
 (Rd PP (convert Ty.sl_uint8 Ty.string t27) w30 fun t33 =>
 t33 = t28) ∧
 Ca PP Fn.tree_node_stat #[t17] w30 fun t34 w35 =>
 (Ld t1 w35 fun t36 =>
 t36 = t24) ∧
 (Ld t26 w35 fun t37 =>
 t37 = t27) ∧
 (Rd PP (convert Ty.sl_uint8 Ty.string t27) w35 fun t38 =>
 t38 = t28) ∧
 Bd #[.string ⟨#[]⟩, .int .i64 0, .int .i64 0, .int .i64 0, .int .i64 0, .int .i64 0, .int .i64 0, .string ⟨#[]⟩, .string ⟨#[]⟩, .string ⟨#[]⟩, .string ⟨#[]⟩, .string ⟨#[]⟩] [(0, 1), (1, 10), (11, 1)] [(0, t29), (1, t34), (2, t28)] fun t39 =>
 Ef PP (Instr.buildSlice Ty.sl_tree_File 1 #[(0, t39)]) w35 fun t40 w41 =>
 (Ld t1 w41 fun t42 =>
 t42 = t24) ∧
 Ef PP (Builtin.append_ #[Ty.sl_tree_File, Ty.sl_tree_File] Ty.sl_tree_File #[t24, t40]) w41 fun t43 w44 =>
 St PP 1 t1 t43 w44 fun w45 =>
 Rn_19 w45) (fun D_46 w47 =>
 J3 (.mark D_46 :: []) [] w47) [] (fun D_48 w49 =>
 Lvs PP (.mark D_48 :: []) w49 fun w50 =>
 R (.slice none 0 0) w50)) (
 J3 [] [] w2)
def S.tree_Tree_Files.an : Ann := (.seq .leaf (.seq .leaf (.joinD (.seq .leaf (.cond (.seq .leaf (.block (.rf .leaf (.block (.draw [[],[],[1],[],[1,2,3],[],[5],[5,6],[5,6,7],[5,6,7,8],[1,2,3,4,5,6,7,8,9],[1,2,3,4,5,6,7,8,9,10],[0,1,2,3,4,5,6,7,8,9,10,11],[0,1,2,3,4,5,6,7,8,9,10,11,12]] (.calm 0 (.calm 1 (.calm 3 (.calm 5 (.calm 6 (.calm 7 (.calm 8 (.calm 9 (.eff1 2 [0,8,9] (.eff1 4 [0,8,9] (.calm 10 (.eff1 11 [0] (.eff1 12 [] (.eff1 13 [] .done)))))))))))))))) []))) .leaf)) [] [5,6,7,8,9,10,11] (.seq .leaf .leaf))))
theorem S.tree_Tree_Files.eq (a0 : Value) (w : World) (R : Value → World → Prop) : S.tree_Tree_Files a0 w R = fnC PP 27 (Tryz.f27.body.getD .skip) S.tree_Tree_Files.an [.tmp 2] [a0] w R := by kernel_rfl
theorem S.tree_Tree_Files.calls {a0 : Value} {w : World} {R : Value → World → Prop} (h : S.tree_Tree_Files a0 w R) : Ca PP Fn.tree_Tree_Files #[a0] w R :=
  fnC_calls mixed (f := Fn.tree_Tree_Files) (an := S.tree_Tree_Files.an) Tryz.func27 rfl (by show _ ≤ _; exact Nat.le_of_ble_eq_true rfl) (S.tree_Tree_Files.eq a0 w R ▸ h)
/-- acheron/acheronlaw28.small -/
def S.law28_small (a0 : Value) (w : World) (R : Value → World → Prop) : Prop :=
 Al Ty.law28_Setting (a0 : Value).cells w fun t1 w2 =>
 Fa 0 t1 fun t3 =>
 Ld t3 w2 fun t4 =>
 LnS t4 fun t5 =>
 Fa 1 t1 fun t6 =>
 Ld t6 w2 fun t7 =>
 LnL t7 fun t8 =>
 Bi .add t5 t8 fun t9 =>
 Fa 1 t1 fun t10 =>
 Ld t10 w2 fun t11 =>
 LnL t11 fun t12 =>
 ∃ (I13 : List Value → World → Prop) (m14 : List Value → World → Nat), I13 [t9, (.int .i64 0)] w2 ∧ ∀ t17 t18, ∀ (u15 : Env) (w16 : World), I13 [t17, t18] w16 →
 Bi .lss t18 t12 fun t19 =>
 Cnd t19 (
 IxA 2 t11 t18 fun t20 =>
 LdA PP 2 t20 w16 fun t21 =>
 Al Ty.tree_Group #[.string ⟨#[]⟩, .slice none 0 0] w16 fun t22 w23 =>
 St PP 2 t22 t21 w23 fun w24 =>
 Fa 0 t22 fun t25 =>
 Ld t25 w24 fun t26 =>
 LnS t26 fun t27 =>
 Fa 1 t22 fun t28 =>
 Ld t28 w24 fun t29 =>
 LnL t29 fun t30 =>
 Bi .add t27 t30 fun t31 =>
 Bi .add t17 t31 fun t32 =>
 Fa 1 t22 fun t33 =>
 Ld t33 w24 fun t34 =>
 LnL t34 fun t35 =>
 ∃ (I36 : List Value → World → Prop) (m37 : List Value → World → Nat), I36 [t32, (.int .i64 0)] w24 ∧ ∀ t40 t41, ∀ (u38 : Env) (w39 : World), I36 [t40, t41] w39 →
 Bi .lss t41 t35 fun t42 =>
 Cnd t42 (
 IxA 1 t34 t41 fun t43 =>
 Ld t43 w39 fun t44 =>
 LnS t44 fun t45 =>
 Bi .add t40 t45 fun t46 =>
 Bi .add t41 (.int .i64 1) fun t47 =>
 I36 [t46, t47] w39 ∧ m37 [t46, t47] w39 < m37 [t40, t41] w39) (
 Bi .add t18 (.int .i64 1) fun t48 =>
 I13 [t40, t48] w39 ∧ m14 [t40, t48] w39 < m14 [t17, t18] w16)) (
 Bi .leq t17 (.int .i64 2000) fun t49 =>
 R t49 w16)
def S.law28_small.an : Ann := (.seq .leaf (.seq .leaf (.seq (.seq .leaf (.block (.loop (.seq .leaf (.seq (.cond .leaf .leaf) (.seq (.block (.seq .leaf (.seq .leaf (.seq .leaf (.block (.loop (.seq .leaf (.seq (.cond .leaf .leaf) (.seq (.block (.seq .leaf .leaf)) .leaf))) [3,34] [7,35,36,37,38,39,40,41,42])))))) .leaf))) [3,18] [5,7,19,20,21,22,23,24,25,26,27,28,29,30,31,32,33,34,35,36,37,38,39,40,41,42,43]))) (.seq .leaf .leaf))))
theorem S.law28_small.eq (a0 : Value) (w : World) (R : Value → World → Prop) : S.law28_small a0 w R = fnC PP 46 (Tryz.f28.body.getD .skip) S.law28_small.an [.tmp 2] [a0] w R := by kernel_rfl
theorem S.law28_small.calls {a0 : Value} {w : World} {R : Value → World → Prop} (h : S.law28_small a0 w R) : Ca PP Fn.law28_small #[a0] w R :=
  fnC_calls mixed (f := Fn.law28_small) (an := S.law28_small.an) Tryz.func28 rfl (by show _ ≤ _; exact Nat.le_of_ble_eq_true rfl) (S.law28_small.eq a0 w R ▸ h)
/-- (*acheron/tree.Tree).Clock -/
def S.tree_Tree_Clock (a0 : Value) (w : World) (R : Value → World → Prop) : Prop :=
 Rd PP (eqS .eql Ty.p_tree_Tree (.tmp 3) (.const (.pointer none)) a0 (.pointer none)) w fun t1 =>
 Cnd t1 (
 R (.int .i64 0) w) (
 Nc a0 fun t2 =>
 Fa 4 t2 fun t3 =>
 Ld t3 w fun t4 =>
 R t4 w)
def S.tree_Tree_Clock.an : Ann := (.seq .leaf (.seq (.seq .leaf (.cond (.seq .leaf .leaf) .leaf)) (.seq .leaf .leaf)))
theorem S.tree_Tree_Clock.eq (a0 : Value) (w : World) (R : Value → World → Prop) : S.tree_Tree_Clock a0 w R = fnC PP 9 (Tryz.f29.body.getD .skip) S.tree_Tree_Clock.an [.tmp 2] [a0] w R := by kernel_rfl
theorem S.tree_Tree_Clock.calls {a0 : Value} {w : World} {R : Value → World → Prop} (h : S.tree_Tree_Clock a0 w R) : Ca PP Fn.tree_Tree_Clock #[a0] w R :=
  fnC_calls mixed (f := Fn.tree_Tree_Clock) (an := S.tree_Tree_Clock.an) Tryz.func29 rfl (by show _ ≤ _; exact Nat.le_of_ble_eq_true rfl) (S.tree_Tree_Clock.eq a0 w R ▸ h)
/-- slices.IndexFunc[[]acheron/tree.File,acheron/tree.File] -/
def S.slices_IndexFunc_sl_tree_File_tree_File (a0 a1 : Value) (w : World) (R : Value → World → Prop) : Prop :=
 LnL a0 fun t1 =>
 ∃ (I2 : List Value → World → Prop) (m3 : List Value → World → Nat), I2 [(.int .i64 0)] w ∧ ∀ t6, ∀ (u4 : Env) (w5 : World), I2 [t6] w5 →
 Bi .lss t6 t1 fun t7 =>
 Cnd t7 (
 IxA 12 a0 t6 fun t8 =>
 LdA PP 12 t8 w5 fun t9 =>
 CaV PP a1 #[t9] w5 fun t10 w11 =>
 Cnd t10 (
 R t6 w11) (
 Bi .add t6 (.int .i64 1) fun t12 =>
 I2 [t12] w11 ∧ m3 [t12] w11 < m3 [t6] w5)) (
 R (.int .i64 (-1)) w5)
def S.slices_IndexFunc_sl_tree_File_tree_File.an : Ann := (.seq .leaf (.seq (.seq .leaf (.block (.loop (.seq .leaf (.seq (.cond .leaf .leaf) (.seq (.block (.seq .leaf (.seq .leaf (.cond (.seq .leaf .leaf) .leaf)))) .leaf))) [8] [4,5,9,10,11,12,13,14,15,16,17,18]))) (.seq .leaf .leaf)))
theorem S.slices_IndexFunc_sl_tree_File_tree_File.eq (a0 a1 : Value) (w : World) (R : Value → World → Prop) : S.slices_IndexFunc_sl_tree_File_tree_File a0 a1 w R = fnC PP 19 (Tryz.f30.body.getD .skip) S.slices_IndexFunc_sl_tree_File_tree_File.an [.tmp 4] [a0, a1] w R := by kernel_rfl
theorem S.slices_IndexFunc_sl_tree_File_tree_File.calls {a0 a1 : Value} {w : World} {R : Value → World → Prop} (h : S.slices_IndexFunc_sl_tree_File_tree_File a0 a1 w R) : Ca PP Fn.slices_IndexFunc_sl_tree_File_tree_File #[a0, a1] w R :=
  fnC_calls mixed (f := Fn.slices_IndexFunc_sl_tree_File_tree_File) (an := S.slices_IndexFunc_sl_tree_File_tree_File.an) Tryz.func30 rfl (by show _ ≤ _; exact Nat.le_of_ble_eq_true rfl) (S.slices_IndexFunc_sl_tree_File_tree_File.eq a0 a1 w R ▸ h)
/-- (*acheron/tree.Tree).Path -/
def S.tree_Tree_Path (a0 a1 : Value) (w : World) (R : Value → World → Prop) : Prop :=
 Ca PP Fn.tree_Tree_find #[a0, a1] w fun t1 w2 =>
 Ex t1 0 fun t3 =>
 Ex t1 1 fun t4 =>
 Bi .neq t4 (.int .i64 0) fun t5 =>
 Cnd t5 (
 R (.tuple #[(.string ⟨#[]⟩), t4]) w2) (
 Ca PP Fn.tree_node_path #[t3] w2 fun t6 w7 =>
 R (.tuple #[t6, (.int .i64 0)]) w7)
def S.tree_Tree_Path.an : Ann := (.seq .leaf (.seq .leaf (.seq (.seq .leaf (.cond (.seq .leaf .leaf) .leaf)) (.seq .leaf .leaf))))
theorem S.tree_Tree_Path.eq (a0 a1 : Value) (w : World) (R : Value → World → Prop) : S.tree_Tree_Path a0 a1 w R = fnC PP 19 (Tryz.f32.body.getD .skip) S.tree_Tree_Path.an [.tmp 4, .tmp 5] [a0, a1] w R := by kernel_rfl
theorem S.tree_Tree_Path.calls {a0 a1 : Value} {w : World} {R : Value → World → Prop} (h : S.tree_Tree_Path a0 a1 w R) : Ca PP Fn.tree_Tree_Path #[a0, a1] w R :=
  fnC_calls mixed (f := Fn.tree_Tree_Path) (an := S.tree_Tree_Path.an) Tryz.func32 rfl (by show _ ≤ _; exact Nat.le_of_ble_eq_true rfl) (S.tree_Tree_Path.eq a0 a1 w R ▸ h)
/-- acheron/tree.Valid -/
def S.tree_Valid (a0 : Value) (w : World) (R : Value → World → Prop) : Prop :=
 LnS a0 fun t1 =>
 ∃ (I2 : List Value → World → Prop) (m3 : List Value → World → Nat), I2 [(.int .i64 0)] w ∧ ∀ t6, ∀ (u4 : Env) (w5 : World), I2 [t6] w5 →
 Bi .lss t6 t1 fun t7 =>
 Cnd t7 (
 IxS a0 t6 fun t8 =>
 ∀ J9 : List Value → World → Prop, (∀ t12, ∀ w11 : World, (∀ u10 : Env,
 Cnd t12 (
 R (.bool false) w11) (
 Bi .add t6 (.int .i64 1) fun t13 =>
 I2 [t13] w11 ∧ m3 [t13] w11 < m3 [t6] w5)) → J9 [t12] w11) →
 Bi .lss t8 (.int .u8 33) fun t14 =>
 Gd t14 false (fun k15 => k15 t8 w5) w5 fun t16 w17 =>
 Gd t14 false (fun k18 => Bi .gtr t16 (.int .u8 126) fun t21 =>
 k18 t21 w17) w17 fun t19 w20 =>
 Pk t14 (.bool true) t19 fun t22 =>
 Gd t22 false (fun k23 => k23 t8 w20) w20 fun t24 w25 =>
 Gd t22 false (fun k26 => Bi .eql t24 (.int .u8 47) fun t29 =>
 k26 t29 w25) w25 fun t27 w28 =>
 Pk t22 (.bool true) t27 fun t30 =>
 J9 [t30] w28) (
 ∀ J31 : List Value → World → Prop, (∀ t34, ∀ w33 : World, (∀ u32 : Env,
 R t34 w33) → J31 [t34] w33) →
 Bi .neq a0 (.string ⟨#[]⟩) fun t35 =>
 Gd t35 true (fun k36 => k36 a0 w5) w5 fun t37 w38 =>
 Gd t35 true (fun k39 => LnS t37 fun t42 =>
 k39 t42 w38) w38 fun t40 w41 =>
 Gd t35 true (fun k43 => Bi .leq t40 (.int .i64 40) fun t46 =>
 k43 t46 w41) w41 fun t44 w45 =>
 Pk t35 t44 (.bool false) fun t47 =>
 Gd t47 true (fun k48 => k48 a0 w45) w45 fun t49 w50 =>
 Gd t47 true (fun k51 => Bi .neq t49 (.string ⟨#[46]⟩) fun t54 =>
 k51 t54 w50) w50 fun t52 w53 =>
 Pk t47 t52 (.bool false) fun t55 =>
 Gd t55 true (fun k56 => k56 a0 w53) w53 fun t57 w58 =>
 Gd t55 true (fun k59 => Bi .neq t57 (.string ⟨#[46, 46]⟩) fun t62 =>
 k59 t62 w58) w58 fun t60 w61 =>
 Pk t55 t60 (.bool false) fun t63 =>
 J31 [t63] w61)
def S.tree_Valid.an : Ann := (.seq .leaf (.seq (.seq .leaf (.block (.loop (.seq .leaf (.seq (.cond .leaf .leaf) (.seq (.block (.seq .leaf (.seq .leaf (.join .leaf [22] [13,14,15,16,17,18,19,20,21] (.cond (.seq .leaf .leaf) .leaf))))) .leaf))) [7] [2,3,4,8,9,10,11,12,13,14,15,16,17,18,19,20,21,22,23]))) (.join .leaf [2] [24,25,26,27,28,29,30,31,32,33,34,35,36,37,38] .leaf)))
theorem S.tree_Valid.eq (a0 : Value) (w : World) (R : Value → World → Prop) : S.tree_Valid a0 w R = fnC PP 39 (Tryz.f34.body.getD .skip) S.tree_Valid.an [.tmp 2] [a0] w R := by kernel_rfl
theorem S.tree_Valid.calls {a0 : Value} {w : World} {R : Value → World → Prop} (h : S.tree_Valid a0 w R) : Ca PP Fn.tree_Valid #[a0] w R :=
  fnC_calls mixed (f := Fn.tree_Valid) (an := S.tree_Valid.an) Tryz.func34 rfl (by show _ ≤ _; exact Nat.le_of_ble_eq_true rfl) (S.tree_Valid.eq a0 w R ▸ h)
/-- slices.ContainsFunc[[]acheron/tree.File,acheron/tree.File] -/
def S.slices_ContainsFunc_sl_tree_File_tree_File (a0 a1 : Value) (w : World) (R : Value → World → Prop) : Prop :=
 Ca PP Fn.slices_IndexFunc_sl_tree_File_tree_File #[a0, a1] w fun t1 w2 =>
 Bi .geq t1 (.int .i64 0) fun t3 =>
 R t3 w2
def S.slices_ContainsFunc_sl_tree_File_tree_File.an : Ann := (.seq .leaf (.seq .leaf .leaf))
theorem S.slices_ContainsFunc_sl_tree_File_tree_File.eq (a0 a1 : Value) (w : World) (R : Value → World → Prop) : S.slices_ContainsFunc_sl_tree_File_tree_File a0 a1 w R = fnC PP 9 (Tryz.f36.body.getD .skip) S.slices_ContainsFunc_sl_tree_File_tree_File.an [.tmp 4] [a0, a1] w R := by kernel_rfl
theorem S.slices_ContainsFunc_sl_tree_File_tree_File.calls {a0 a1 : Value} {w : World} {R : Value → World → Prop} (h : S.slices_ContainsFunc_sl_tree_File_tree_File a0 a1 w R) : Ca PP Fn.slices_ContainsFunc_sl_tree_File_tree_File #[a0, a1] w R :=
  fnC_calls mixed (f := Fn.slices_ContainsFunc_sl_tree_File_tree_File) (an := S.slices_ContainsFunc_sl_tree_File_tree_File.an) Tryz.func36 rfl (by show _ ≤ _; exact Nat.le_of_ble_eq_true rfl) (S.slices_ContainsFunc_sl_tree_File_tree_File.eq a0 a1 w R ▸ h)
/-- (*acheron/tree.Tree).Handles -/
def S.tree_Tree_Handles (a0 : Value) (w : World) (R : Value → World → Prop) : Prop :=
 Rd PP (eqS .eql Ty.p_tree_Tree (.tmp 3) (.const (.pointer none)) a0 (.pointer none)) w fun t1 =>
 Cnd t1 (
 R (.slice none 0 0) w) (
 Nc a0 fun t2 =>
 Fa 5 t2 fun t3 =>
 Ld t3 w fun t4 =>
 Ca PP Fn.maps_Keys_map_int_tree_handle_int_tree_handle #[t4] w fun t5 w6 =>
 Ca PP Fn.slices_Sorted_int #[t5] w6 fun t7 w8 =>
 R t7 w8)
def S.tree_Tree_Handles.an : Ann := (.seq .leaf (.seq (.seq .leaf (.cond (.seq .leaf .leaf) .leaf)) (.seq .leaf .leaf)))
theorem S.tree_Tree_Handles.eq (a0 : Value) (w : World) (R : Value → World → Prop) : S.tree_Tree_Handles a0 w R = fnC PP 11 (Tryz.f38.body.getD .skip) S.tree_Tree_Handles.an [.tmp 2] [a0] w R := by kernel_rfl
theorem S.tree_Tree_Handles.calls {a0 : Value} {w : World} {R : Value → World → Prop} (h : S.tree_Tree_Handles a0 w R) : Ca PP Fn.tree_Tree_Handles #[a0] w R :=
  fnC_calls mixed (f := Fn.tree_Tree_Handles) (an := S.tree_Tree_Handles.an) Tryz.func38 rfl (by show _ ≤ _; exact Nat.le_of_ble_eq_true rfl) (S.tree_Tree_Handles.eq a0 w R ▸ h)
/-- acheron/acheronlaw28.Same -/
def S.law28_Same (a0 a1 : Value) (w : World) (R : Value → World → Prop) : Prop :=
 Al Ty.law28_Answer (a0 : Value).cells w fun t1 w2 =>
 Al Ty.law28_Answer (a1 : Value).cells w2 fun t3 w4 =>
 ∀ J5 : List Value → World → Prop, (∀ t8, ∀ w7 : World, (∀ u6 : Env,
 R t8 w7) → J5 [t8] w7) →
 Fa 0 t1 fun t9 =>
 LdA PP 3 t9 w4 fun t10 =>
 Fa 0 t3 fun t11 =>
 LdA PP 3 t11 w4 fun t12 =>
 Rd PP (eqS .eql Ty.api_Qid (.tmp 6) (.tmp 8) t10 t12) w4 fun t13 =>
 Gd t13 true (fun k14 => Fa 3 t1 fun t17 =>
 k14 t17 w4) w4 fun t15 w16 =>
 Gd t13 true (fun k18 => LdA PP 10 t15 w16 fun t21 =>
 k18 t21 w16) w16 fun t19 w20 =>
 Gd t13 true (fun k22 => Fa 3 t3 fun t25 =>
 k22 t25 w20) w20 fun t23 w24 =>
 Gd t13 true (fun k26 => LdA PP 10 t23 w24 fun t29 =>
 k26 t29 w24) w24 fun t27 w28 =>
 Gd t13 true (fun k30 => Rd PP (eqS .eql Ty.api_Dir (.tmp 12) (.tmp 14) t19 t27) w28 fun t33 =>
 k30 t33 w28) w28 fun t31 w32 =>
 Pk t13 t31 (.bool false) fun t34 =>
 Gd t34 true (fun k35 => Fa 13 t1 fun t38 =>
 k35 t38 w32) w32 fun t36 w37 =>
 Gd t34 true (fun k39 => Ld t36 w37 fun t42 =>
 k39 t42 w37) w37 fun t40 w41 =>
 Gd t34 true (fun k43 => Fa 13 t3 fun t46 =>
 k43 t46 w41) w41 fun t44 w45 =>
 Gd t34 true (fun k47 => Ld t44 w45 fun t50 =>
 k47 t50 w45) w45 fun t48 w49 =>
 Gd t34 true (fun k51 => Bi .eql t40 t48 fun t54 =>
 k51 t54 w49) w49 fun t52 w53 =>
 Pk t34 t52 (.bool false) fun t55 =>
 Gd t55 true (fun k56 => Fa 14 t1 fun t59 =>
 k56 t59 w53) w53 fun t57 w58 =>
 Gd t55 true (fun k60 => Ld t57 w58 fun t63 =>
 k60 t63 w58) w58 fun t61 w62 =>
 Gd t55 true (fun k64 => Fa 14 t3 fun t67 =>
 k64 t67 w62) w62 fun t65 w66 =>
 Gd t55 true (fun k68 => Ld t65 w66 fun t71 =>
 k68 t71 w66) w66 fun t69 w70 =>
 Gd t55 true (fun k72 => Bi .eql t61 t69 fun t75 =>
 k72 t75 w70) w70 fun t73 w74 =>
 Pk t55 t73 (.bool false) fun t76 =>
 Gd t76 true (fun k77 => Fa 16 t1 fun t80 =>
 k77 t80 w74) w74 fun t78 w79 =>
 Gd t76 true (fun k81 => Ld t78 w79 fun t84 =>
 k81 t84 w79) w79 fun t82 w83 =>
 Gd t76 true (fun k85 => Fa 16 t3 fun t88 =>
 k85 t88 w83) w83 fun t86 w87 =>
 Gd t76 true (fun k89 => Ld t86 w87 fun t92 =>
 k89 t92 w87) w87 fun t90 w91 =>
 Gd t76 true (fun k93 => Bi .eql t82 t90 fun t96 =>
 k93 t96 w91) w91 fun t94 w95 =>
 Pk t76 t94 (.bool false) fun t97 =>
 Gd t97 true (fun k98 => Fa 15 t1 fun t101 =>
 k98 t101 w95) w95 fun t99 w100 =>
 Gd t97 true (fun k102 => Ld t99 w100 fun t105 =>
 k102 t105 w100) w100 fun t103 w104 =>
 Gd t97 true (fun k106 => Fa 15 t3 fun t109 =>
 k106 t109 w104) w104 fun t107 w108 =>
 Gd t97 true (fun k110 => Ld t107 w108 fun t113 =>
 k110 t113 w108) w108 fun t111 w112 =>
 Gd t97 true (fun k114 => Ca PP Fn.slices_Equal_sl_api_Dir_api_Dir #[t103, t111] w112 fun t117 w118 =>
 k114 t117 w118) w112 fun t115 w116 =>
 Pk t97 t115 (.bool false) fun t119 =>
 J5 [t119] w116
def S.law28_Same.an : Ann := (.seq .leaf (.join .leaf [4] [5,6,7,8,9,10,11,12,13,14,15,16,17,18,19,20,21,22,23,24,25,26,27,28,29,30,31,32,33,34,35,36,37,38,39,40,41,42,43,44] .leaf))
theorem S.law28_Same.eq (a0 a1 : Value) (w : World) (R : Value → World → Prop) : S.law28_Same a0 a1 w R = fnC PP 45 (Tryz.f39.body.getD .skip) S.law28_Same.an [.tmp 4] [a0, a1] w R := by kernel_rfl
theorem S.law28_Same.calls {a0 a1 : Value} {w : World} {R : Value → World → Prop} (h : S.law28_Same a0 a1 w R) : Ca PP Fn.law28_Same #[a0, a1] w R :=
  fnC_calls mixed (f := Fn.law28_Same) (an := S.law28_Same.an) Tryz.func39 rfl (by show _ ≤ _; exact Nat.le_of_ble_eq_true rfl) (S.law28_Same.eq a0 a1 w R ▸ h)
/-- slices.Equal[[]acheron/tree.File,acheron/tree.File] -/
def S.slices_Equal_sl_tree_File_tree_File (a0 a1 : Value) (w : World) (R : Value → World → Prop) : Prop :=
 LnL a0 fun t1 =>
 LnL a1 fun t2 =>
 Bi .neq t1 t2 fun t3 =>
 Cnd t3 (
 R (.bool false) w) (
 LnL a0 fun t4 =>
 ∃ (I5 : List Value → World → Prop) (m6 : List Value → World → Nat), I5 [(.int .i64 0)] w ∧ ∀ t9, ∀ (u7 : Env) (w8 : World), I5 [t9] w8 →
 Bi .lss t9 t4 fun t10 =>
 Cnd t10 (
 Dr w8 fun w11 =>
 IxA 12 a0 t9 fun t12 =>
 LdA PP 12 t12 w11 fun t13 =>
 IxA 12 a1 t9 fun t14 =>
 LdA PP 12 t14 w11 fun t15 =>
 Rd PP (eqS .neq Ty.tree_File (.tmp 19) (.tmp 23) t13 t15) w11 fun t16 =>
 Cnd t16 (
 R (.bool false) w11) (
 Bi .add t9 (.int .i64 1) fun t17 =>
 I5 [t17] w11 ∧ m6 [t17] w11 < m6 [t9] w8)) (
 R (.bool true) w8))
def S.slices_Equal_sl_tree_File_tree_File.an : Ann := (.seq .leaf (.seq (.seq .leaf (.cond (.seq .leaf .leaf) .leaf)) (.seq (.seq .leaf (.block (.loop (.seq .leaf (.seq (.cond .leaf .leaf) (.seq (.block (.seq .leaf (.seq (.draw [[],[],[0,1],[0,1,2],[],[],[4,5],[4,5,6],[0,1,2,3,4,5,6,7]] (.calm 0 (.calm 1 (.calm 2 (.calm 3 (.calm 4 (.calm 5 (.calm 6 (.calm 7 (.calm 8 .done)))))))))) (.cond (.seq .leaf .leaf) .leaf)))) .leaf))) [13] [4,5,14,15,16,17,18,19,20,21,22,23,24,25]))) (.seq .leaf .leaf))))
theorem S.slices_Equal_sl_tree_File_tree_File.eq (a0 a1 : Value) (w : World) (R : Value → World → Prop) : S.slices_Equal_sl_tree_File_tree_File a0 a1 w R = fnC PP 26 (Tryz.f40.body.getD .skip) S.slices_Equal_sl_tree_File_tree_File.an [.tmp 4] [a0, a1] w R := by kernel_rfl
theorem S.slices_Equal_sl_tree_File_tree_File.calls {a0 a1 : Value} {w : World} {R : Value → World → Prop} (h : S.slices_Equal_sl_tree_File_tree_File a0 a1 w R) : Ca PP Fn.slices_Equal_sl_tree_File_tree_File #[a0, a1] w R :=
  fnC_calls mixed (f := Fn.slices_Equal_sl_tree_File_tree_File) (an := S.slices_Equal_sl_tree_File_tree_File.an) Tryz.func40 rfl (by show _ ≤ _; exact Nat.le_of_ble_eq_true rfl) (S.slices_Equal_sl_tree_File_tree_File.eq a0 a1 w R ▸ h)
/-- slices.Equal[[]int,int] -/
def S.slices_Equal_sl_int_int (a0 a1 : Value) (w : World) (R : Value → World → Prop) : Prop :=
 LnL a0 fun t1 =>
 LnL a1 fun t2 =>
 Bi .neq t1 t2 fun t3 =>
 Cnd t3 (
 R (.bool false) w) (
 LnL a0 fun t4 =>
 ∃ (I5 : List Value → World → Prop) (m6 : List Value → World → Nat), I5 [(.int .i64 0)] w ∧ ∀ t9, ∀ (u7 : Env) (w8 : World), I5 [t9] w8 →
 Bi .lss t9 t4 fun t10 =>
 Cnd t10 (
 Dr w8 fun w11 =>
 IxA 1 a0 t9 fun t12 =>
 Ld t12 w11 fun t13 =>
 IxA 1 a1 t9 fun t14 =>
 Ld t14 w11 fun t15 =>
 Bi .neq t13 t15 fun t16 =>
 Cnd t16 (
 R (.bool false) w11) (
 Bi .add t9 (.int .i64 1) fun t17 =>
 I5 [t17] w11 ∧ m6 [t17] w11 < m6 [t9] w8)) (
 R (.bool true) w8))
def S.slices_Equal_sl_int_int.an : Ann := (.seq .leaf (.seq (.seq .leaf (.cond (.seq .leaf .leaf) .leaf)) (.seq (.seq .leaf (.block (.loop (.seq .leaf (.seq (.cond .leaf .leaf) (.seq (.block (.seq .leaf (.seq (.draw [[],[],[0,1],[0,1,2],[],[],[4,5],[4,5,6],[0,1,2,3,4,5,6,7]] (.calm 0 (.calm 1 (.calm 2 (.calm 3 (.calm 4 (.calm 5 (.calm 6 (.calm 7 (.calm 8 .done)))))))))) (.cond (.seq .leaf .leaf) .leaf)))) .leaf))) [13] [4,5,14,15,16,17,18,19,20,21,22,23,24,25]))) (.seq .leaf .leaf))))
theorem S.slices_Equal_sl_int_int.eq (a0 a1 : Value) (w : World) (R : Value → World → Prop) : S.slices_Equal_sl_int_int a0 a1 w R = fnC PP 26 (Tryz.f41.body.getD .skip) S.slices_Equal_sl_int_int.an [.tmp 4] [a0, a1] w R := by kernel_rfl
theorem S.slices_Equal_sl_int_int.calls {a0 a1 : Value} {w : World} {R : Value → World → Prop} (h : S.slices_Equal_sl_int_int a0 a1 w R) : Ca PP Fn.slices_Equal_sl_int_int #[a0, a1] w R :=
  fnC_calls mixed (f := Fn.slices_Equal_sl_int_int) (an := S.slices_Equal_sl_int_int.an) Tryz.func41 rfl (by show _ ≤ _; exact Nat.le_of_ble_eq_true rfl) (S.slices_Equal_sl_int_int.eq a0 a1 w R ▸ h)
end Go.Proofs.YtnnhmahemklnkaaGreatDoor
