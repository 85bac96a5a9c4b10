/- Own text. -/
import Derived.Test.YtmlccboapkkcfaaGreatDoorSc
namespace Go.Proofs.YtmlccboapkkcfaaGreatDoor
open Go Go.Sh
set_option linter.unusedVariables false
set_option maxRecDepth 100000
/-- acheron/acheronlaw31.StyxDirs -/
def S.law31_StyxDirs (a0 a1 : Value) (w : World) (R : Value → World → Prop) : Prop :=
 Al Ty.api_Dir (a0 : Value).cells w fun t1 w2 =>
 Ca PP Fn.law31_awake #[] w2 fun t3 w4 =>
 Un .not t3 fun t5 =>
 Cnd t5 (
 R (.bool false) w4) (
 ∀ J6 : List Value → World → Prop, (∀ t9, ∀ w8 : World, (∀ u7 : Env,
 Cnd t9 (
 R (.bool true) w8) (
 LdA PP 10 t1 w8 fun t10 =>
 Ca PP Fn.styx_EncodeDir #[t10] w8 fun t11 w12 =>
 Ex t11 0 fun t13 =>
 Ex t11 1 fun t14 =>
 LdA PP 10 t1 w12 fun t15 =>
 Ca PP Fn.r31_EncodeDir #[t15] w12 fun t16 w17 =>
 Ex t16 0 fun t18 =>
 Ex t16 1 fun t19 =>
 ∀ J20 : List Value → World → Prop, (∀ t23, ∀ w22 : World, (∀ u21 : Env,
 Cnd t23 (
 R (.bool false) w22) (
 Ca PP Fn.styx_DecodeDir #[a1] w22 fun t24 w25 =>
 Ex t24 0 fun t26 =>
 Ex t24 1 fun t27 =>
 Ex t24 2 fun t28 =>
 Al Ty.api_Dir #[.int .i64 0, .int .i64 0, .int .i64 0, .int .i64 0, .int .i64 0, .int .i64 0, .string ⟨#[]⟩, .string ⟨#[]⟩, .string ⟨#[]⟩, .string ⟨#[]⟩] w25 fun t29 w30 =>
 St PP 10 t29 t26 w30 fun w31 =>
 Ca PP Fn.r31_DecodeDir #[a1] w31 fun t32 w33 =>
 Ex t32 0 fun t34 =>
 Ex t32 1 fun t35 =>
 Ex t32 2 fun t36 =>
 Al Ty.api_Dir #[.int .i64 0, .int .i64 0, .int .i64 0, .int .i64 0, .int .i64 0, .int .i64 0, .string ⟨#[]⟩, .string ⟨#[]⟩, .string ⟨#[]⟩, .string ⟨#[]⟩] w33 fun t37 w38 =>
 St PP 10 t37 t34 w38 fun w39 =>
 Ca PP Fn.styx_Dirs #[a1] w39 fun t40 w41 =>
 Ex t40 0 fun t42 =>
 Ex t40 1 fun t43 =>
 Ca PP Fn.r31_Dirs #[a1] w41 fun t44 w45 =>
 Ex t44 0 fun t46 =>
 Ex t44 1 fun t47 =>
 ∀ J48 : List Value → World → Prop, (∀ t51, ∀ w50 : World, (∀ u49 : Env,
 Cnd t51 (
 R (.bool false) w50) (
 LdA PP 10 t1 w50 fun t52 =>
 Ca PP Fn.styx_CheckDir #[t52] w50 fun t53 w54 =>
 Bi .neq t53 (.int .i64 0) fun t55 =>
 Cnd t55 (
 R (.bool true) w54) (
 Bi .add t13 a1 fun t56 =>
 Ca PP Fn.styx_DecodeDir #[t56] w54 fun t57 w58 =>
 Ex t57 0 fun t59 =>
 Ex t57 1 fun t60 =>
 Ex t57 2 fun t61 =>
 Al Ty.api_Dir #[.int .i64 0, .int .i64 0, .int .i64 0, .int .i64 0, .int .i64 0, .int .i64 0, .string ⟨#[]⟩, .string ⟨#[]⟩, .string ⟨#[]⟩, .string ⟨#[]⟩] w58 fun t62 w63 =>
 St PP 10 t62 t59 w63 fun w64 =>
 ∀ J65 : List Value → World → Prop, (∀ t68, ∀ w67 : World, (∀ u66 : Env,
 R t68 w67) → J65 [t68] w67) →
 Bi .eql t61 (.int .i64 0) fun t69 =>
 Gd t69 true (fun k70 => k70 t60 w64) w64 fun t71 w72 =>
 Gd t69 true (fun k73 => k73 t13 w72) w72 fun t74 w75 =>
 Gd t69 true (fun k76 => LnS t74 fun t79 =>
 k76 t79 w75) w75 fun t77 w78 =>
 Gd t69 true (fun k80 => Bi .eql t71 t77 fun t83 =>
 k80 t83 w78) w78 fun t81 w82 =>
 Pk t69 t81 (.bool false) fun t84 =>
 Gd t84 true (fun k85 => LdA PP 10 t62 w82 fun t88 =>
 k85 t88 w82) w82 fun t86 w87 =>
 Gd t84 true (fun k89 => LdA PP 10 t1 w87 fun t92 =>
 k89 t92 w87) w87 fun t90 w91 =>
 Gd t84 true (fun k93 => Rd PP (eqS .eql Ty.api_Dir (.tmp 118) (.tmp 119) t86 t90) w91 fun t96 =>
 k93 t96 w91) w91 fun t94 w95 =>
 Pk t84 t94 (.bool false) fun t97 =>
 J65 [t97] w95))) → J48 [t51] w50) →
 LdA PP 10 t29 w45 fun t98 =>
 LdA PP 10 t37 w45 fun t99 =>
 Rd PP (eqS .neq Ty.api_Dir (.tmp 74) (.tmp 75) t98 t99) w45 fun t100 =>
 Gd t100 false (fun k101 => k101 t27 w45) w45 fun t102 w103 =>
 Gd t100 false (fun k104 => k104 t35 w103) w103 fun t105 w106 =>
 Gd t100 false (fun k107 => Bi .neq t102 t105 fun t110 =>
 k107 t110 w106) w106 fun t108 w109 =>
 Pk t100 (.bool true) t108 fun t111 =>
 Gd t111 false (fun k112 => k112 t28 w109) w109 fun t113 w114 =>
 Gd t111 false (fun k115 => k115 t36 w114) w114 fun t116 w117 =>
 Gd t111 false (fun k118 => Bi .neq t113 t116 fun t121 =>
 k118 t121 w117) w117 fun t119 w120 =>
 Pk t111 (.bool true) t119 fun t122 =>
 Gd t122 false (fun k123 => k123 t43 w120) w120 fun t124 w125 =>
 Gd t122 false (fun k126 => k126 t47 w125) w125 fun t127 w128 =>
 Gd t122 false (fun k129 => Bi .neq t124 t127 fun t132 =>
 k129 t132 w128) w128 fun t130 w131 =>
 Pk t122 (.bool true) t130 fun t133 =>
 Gd t133 false (fun k134 => k134 t42 w131) w131 fun t135 w136 =>
 Gd t133 false (fun k137 => k137 t46 w136) w136 fun t138 w139 =>
 Gd t133 false (fun k140 => Ca PP Fn.slices_Equal_sl_api_Dir_api_Dir #[t135, t138] w139 fun t143 w144 =>
 k140 t143 w144) w139 fun t141 w142 =>
 Gd t133 false (fun k145 => Un .not t141 fun t148 =>
 k145 t148 w142) w142 fun t146 w147 =>
 Pk t133 (.bool true) t146 fun t149 =>
 J48 [t149] w147)) → J20 [t23] w22) →
 Bi .neq t13 t18 fun t150 =>
 Gd t150 false (fun k151 => k151 t14 w17) w17 fun t152 w153 =>
 Gd t150 false (fun k154 => k154 t19 w153) w153 fun t155 w156 =>
 Gd t150 false (fun k157 => Bi .neq t152 t155 fun t160 =>
 k157 t160 w156) w156 fun t158 w159 =>
 Pk t150 (.bool true) t158 fun t161 =>
 Gd t161 false (fun k162 => LdA PP 10 t1 w159 fun t165 =>
 k162 t165 w159) w159 fun t163 w164 =>
 Gd t161 false (fun k166 => Ca PP Fn.styx_CheckDir #[t163] w164 fun t169 w170 =>
 k166 t169 w170) w164 fun t167 w168 =>
 Gd t161 false (fun k171 => k171 t14 w168) w168 fun t172 w173 =>
 Gd t161 false (fun k174 => Bi .neq t167 t172 fun t177 =>
 k174 t177 w173) w173 fun t175 w176 =>
 Pk t161 (.bool true) t175 fun t178 =>
 J20 [t178] w176)) → J6 [t9] w8) →
 LdA PP 10 t1 w4 fun t179 =>
 Ca PP Fn.law31_room #[t179] w4 fun t180 w181 =>
 Bi .gtr t180 (.int .i64 3000) fun t182 =>
 Gd t182 false (fun k183 => k183 a1 w181) w181 fun t184 w185 =>
 Gd t182 false (fun k186 => LnS t184 fun t189 =>
 k186 t189 w185) w185 fun t187 w188 =>
 Gd t182 false (fun k190 => Bi .gtr t187 (.int .i64 3000) fun t193 =>
 k190 t193 w188) w188 fun t191 w192 =>
 Pk t182 (.bool true) t191 fun t194 =>
 J6 [t194] w192)
def S.law31_StyxDirs.an : Ann := (.seq .leaf (.seq (.seq .leaf (.cond (.seq .leaf .leaf) .leaf)) (.seq (.join .leaf [27] [20,21,22,23,24,25,26] (.cond (.seq .leaf .leaf) .leaf)) (.seq .leaf (.seq .leaf (.seq (.join .leaf [51] [38,39,40,41,42,43,44,45,46,47,48,49,50] (.cond (.seq .leaf .leaf) .leaf)) (.seq .leaf (.seq .leaf (.seq .leaf (.seq .leaf (.seq (.join .leaf [97] [74,75,76,77,78,79,80,81,82,83,84,85,86,87,88,89,90,91,92,93,94,95,96] (.cond (.seq .leaf .leaf) .leaf)) (.seq (.seq .leaf (.cond (.seq .leaf .leaf) .leaf)) (.seq .leaf (.join .leaf [4] [109,110,111,112,113,114,115,116,117,118,119,120,121] .leaf))))))))))))))
theorem S.law31_StyxDirs.eq (a0 a1 : Value) (w : World) (R : Value → World → Prop) : S.law31_StyxDirs a0 a1 w R = fnC PP 122 (Tryz.f3.body.getD .skip) S.law31_StyxDirs.an [.tmp 4] [a0, a1] w R := by kernel_rfl
theorem S.law31_StyxDirs.calls {a0 a1 : Value} {w : World} {R : Value → World → Prop} (h : S.law31_StyxDirs a0 a1 w R) : Ca PP Fn.law31_StyxDirs #[a0, a1] w R :=
  fnC_calls mixed (f := Fn.law31_StyxDirs) (an := S.law31_StyxDirs.an) Tryz.func3 rfl (by show _ ≤ _; exact Nat.le_of_ble_eq_true rfl) (S.law31_StyxDirs.eq a0 a1 w R ▸ h)
/-- acheron/acheronlaw31.awake -/
def S.law31_awake (w : World) (R : Value → World → Prop) : Prop :=
 Bd #[.int .i64 0, .int .i64 0, .int .i64 0, .int .i64 0, .int .i64 0, .int .i64 0, .int .i64 0, .int .i64 0, .int .i64 0, .string ⟨#[]⟩, .string ⟨#[]⟩, .string ⟨#[]⟩, .string ⟨#[]⟩, .slice none 0 0, .slice none 0 0, .string ⟨#[]⟩, .int .i64 0, .int .i64 0, .int .i64 0, .int .i64 0, .int .i64 0, .int .i64 0, .string ⟨#[]⟩, .string ⟨#[]⟩, .string ⟨#[]⟩, .string ⟨#[]⟩, .int .i64 0] [(0, 1), (1, 1), (2, 1), (3, 1), (4, 1), (5, 1), (6, 1), (7, 1), (8, 1), (9, 1), (10, 1), (11, 1), (12, 1), (13, 1), (14, 1), (15, 1), (16, 10), (26, 1)] [(0, (.int .i64 120)), (1, (.int .i64 1)), (2, (.int .i64 2))] fun t1 =>
 Ca PP Fn.styx_Encode #[t1] w fun t2 w3 =>
 Ex t2 0 fun t4 =>
 Ex t2 1 fun t5 =>
 Bd #[.int .i64 0, .int .i64 0, .int .i64 0, .int .i64 0, .int .i64 0, .int .i64 0, .int .i64 0, .int .i64 0, .int .i64 0, .string ⟨#[]⟩, .string ⟨#[]⟩, .string ⟨#[]⟩, .string ⟨#[]⟩, .slice none 0 0, .slice none 0 0, .string ⟨#[]⟩, .int .i64 0, .int .i64 0, .int .i64 0, .int .i64 0, .int .i64 0, .int .i64 0, .string ⟨#[]⟩, .string ⟨#[]⟩, .string ⟨#[]⟩, .string ⟨#[]⟩, .int .i64 0] [(0, 1), (1, 1), (2, 1), (3, 1), (4, 1), (5, 1), (6, 1), (7, 1), (8, 1), (9, 1), (10, 1), (11, 1), (12, 1), (13, 1), (14, 1), (15, 1), (16, 10), (26, 1)] [(0, (.int .i64 107)), (1, (.int .i64 65535)), (17, (.int .i64 4))] fun t6 =>
 Ca PP Fn.styx_Encode #[t6] w3 fun t7 w8 =>
 Ex t7 0 fun t9 =>
 Ex t7 1 fun t10 =>
 Ca PP Fn.styx_Decode #[(.string ⟨#[20, 0, 0, 0, 110, 2, 1, 1, 0, 0, 0, 2, 0, 0, 0, 1, 0, 1, 0, 97]⟩)] w8 fun t11 w12 =>
 Ex t11 0 fun t13 =>
 Ex t11 1 fun t14 =>
 Al Ty.api_Msg #[.int .i64 0, .int .i64 0, .int .i64 0, .int .i64 0, .int .i64 0, .int .i64 0, .int .i64 0, .int .i64 0, .int .i64 0, .string ⟨#[]⟩, .string ⟨#[]⟩, .string ⟨#[]⟩, .string ⟨#[]⟩, .slice none 0 0, .slice none 0 0, .string ⟨#[]⟩, .int .i64 0, .int .i64 0, .int .i64 0, .int .i64 0, .int .i64 0, .int .i64 0, .string ⟨#[]⟩, .string ⟨#[]⟩, .string ⟨#[]⟩, .string ⟨#[]⟩, .int .i64 0] w12 fun t15 w16 =>
 St PP 27 t15 t13 w16 fun w17 =>
 ∀ J18 : List Value → World → Prop, (∀ t21, ∀ w20 : World, (∀ u19 : Env,
 R t21 w20) → J18 [t21] w20) →
 Bi .eql t5 (.int .i64 0) fun t22 =>
 Gd t22 true (fun k23 => k23 t4 w17) w17 fun t24 w25 =>
 Gd t22 true (fun k26 => Bi .eql t24 (.string ⟨#[11, 0, 0, 0, 120, 1, 0, 2, 0, 0, 0]⟩) fun t29 =>
 k26 t29 w25) w25 fun t27 w28 =>
 Pk t22 t27 (.bool false) fun t30 =>
 Gd t30 true (fun k31 => k31 t10 w28) w28 fun t32 w33 =>
 Gd t30 true (fun k34 => Bi .eql t32 (.int .i64 0) fun t37 =>
 k34 t37 w33) w33 fun t35 w36 =>
 Pk t30 t35 (.bool false) fun t38 =>
 Gd t38 true (fun k39 => k39 t9 w36) w36 fun t40 w41 =>
 Gd t38 true (fun k42 => Bi .eql t40 (.string ⟨#[9, 0, 0, 0, 107, 255, 255, 4, 0]⟩) fun t45 =>
 k42 t45 w41) w41 fun t43 w44 =>
 Pk t38 t43 (.bool false) fun t46 =>
 Gd t46 true (fun k47 => k47 t14 w44) w44 fun t48 w49 =>
 Gd t46 true (fun k50 => Bi .eql t48 (.int .i64 0) fun t53 =>
 k50 t53 w49) w49 fun t51 w52 =>
 Pk t46 t51 (.bool false) fun t54 =>
 Gd t54 true (fun k55 => LdA PP 27 t15 w52 fun t58 =>
 k55 t58 w52) w52 fun t56 w57 =>
 Gd t54 true (fun k59 => Ef PP (Instr.buildSlice Ty.sl_string 1 #[(0, (.string ⟨#[97]⟩))]) w57 fun t62 w63 =>
 k59 t62 w63) w57 fun t60 w61 =>
 Gd t54 true (fun k64 => Bd #[.int .i64 0, .int .i64 0, .int .i64 0, .int .i64 0, .int .i64 0, .int .i64 0, .int .i64 0, .int .i64 0, .int .i64 0, .string ⟨#[]⟩, .string ⟨#[]⟩, .string ⟨#[]⟩, .string ⟨#[]⟩, .slice none 0 0, .slice none 0 0, .string ⟨#[]⟩, .int .i64 0, .int .i64 0, .int .i64 0, .int .i64 0, .int .i64 0, .int .i64 0, .string ⟨#[]⟩, .string ⟨#[]⟩, .string ⟨#[]⟩, .string ⟨#[]⟩, .int .i64 0] [(0, 1), (1, 1), (2, 1), (3, 1), (4, 1), (5, 1), (6, 1), (7, 1), (8, 1), (9, 1), (10, 1), (11, 1), (12, 1), (13, 1), (14, 1), (15, 1), (16, 10), (26, 1)] [(0, (.int .i64 110)), (1, (.int .i64 258)), (2, (.int .i64 1)), (3, (.int .i64 2)), (13, t60)] fun t67 =>
 k64 t67 w61) w61 fun t65 w66 =>
 Gd t54 true (fun k68 => Ca PP Fn.law31_Same #[t56, t65] w66 fun t71 w72 =>
 k68 t71 w72) w66 fun t69 w70 =>
 Pk t54 t69 (.bool false) fun t73 =>
 J18 [t73] w70
def S.law31_awake.an : Ann := (.seq .leaf (.seq .leaf (.seq .leaf (.seq .leaf (.join .leaf [0] [21,22,23,24,25,26,27,28,29,30,31,32,33,34,35,36,37,38,39,40,41,42,43,44] .leaf)))))
theorem S.law31_awake.eq (w : World) (R : Value → World → Prop) : S.law31_awake  w R = fnC PP 45 (Tryz.f4.body.getD .skip) S.law31_awake.an [.tmp 0] [] w R := by kernel_rfl
theorem S.law31_awake.calls {w : World} {R : Value → World → Prop} (h : S.law31_awake w R) : Ca PP Fn.law31_awake #[] w R :=
  fnC_calls mixed (f := Fn.law31_awake) (an := S.law31_awake.an) Tryz.func4 rfl (by show _ ≤ _; exact Nat.le_of_ble_eq_true rfl) (S.law31_awake.eq w R ▸ h)
/-- acheron/acheronlaw31.room -/
def S.law31_room (a0 : Value) (w : World) (R : Value → World → Prop) : Prop :=
 Al Ty.api_Dir (a0 : Value).cells w fun t1 w2 =>
 Fa 6 t1 fun t3 =>
 Ld t3 w2 fun t4 =>
 LnS t4 fun t5 =>
 Fa 7 t1 fun t6 =>
 Ld t6 w2 fun t7 =>
 LnS t7 fun t8 =>
 Bi .add t5 t8 fun t9 =>
 Fa 8 t1 fun t10 =>
 Ld t10 w2 fun t11 =>
 LnS t11 fun t12 =>
 Bi .add t9 t12 fun t13 =>
 Fa 9 t1 fun t14 =>
 Ld t14 w2 fun t15 =>
 LnS t15 fun t16 =>
 Bi .add t13 t16 fun t17 =>
 R t17 w2
def S.law31_room.an : Ann := (.seq .leaf (.seq .leaf .leaf))
theorem S.law31_room.eq (a0 : Value) (w : World) (R : Value → World → Prop) : S.law31_room a0 w R = fnC PP 18 (Tryz.f5.body.getD .skip) S.law31_room.an [.tmp 2] [a0] w R := by kernel_rfl
theorem S.law31_room.calls {a0 : Value} {w : World} {R : Value → World → Prop} (h : S.law31_room a0 w R) : Ca PP Fn.law31_room #[a0] w R :=
  fnC_calls mixed (f := Fn.law31_room) (an := S.law31_room.an) Tryz.func5 rfl (by show _ ≤ _; exact Nat.le_of_ble_eq_true rfl) (S.law31_room.eq a0 w R ▸ h)
/-- acheron/styx.EncodeDir -/
def S.styx_EncodeDir (a0 : Value) (w : World) (R : Value → World → Prop) : Prop :=
 Al Ty.api_Dir (a0 : Value).cells w fun t1 w2 =>
 Bd #[.slice none 0 0, .bool false, .bool false] [(0, 1), (1, 1), (2, 1)] [] fun t3 =>
 Al Ty.styx_output (t3 : Value).cells w2 fun t4 w5 =>
 Ca PP Fn.styx_output_dir #[t4, t1] w5 fun t6 w7 =>
 Ca PP Fn.styx_output_err #[t4] w7 fun t8 w9 =>
 Bi .neq t8 (.int .i64 0) fun t10 =>
 Cnd t10 (
 R (.tuple #[(.string ⟨#[]⟩), t8]) w9) (
 Nc t4 fun t11 =>
 Fa 0 t11 fun t12 =>
 Ca PP Fn.wire_Writer_Text #[t12] w9 fun t13 w14 =>
 R (.tuple #[t13, (.int .i64 0)]) w14)
def S.styx_EncodeDir.an : Ann := (.seq .leaf (.seq .leaf (.seq .leaf (.seq (.seq .leaf (.seq .leaf (.cond (.seq .leaf .leaf) .leaf))) (.seq .leaf .leaf)))))
theorem S.styx_EncodeDir.eq (a0 : Value) (w : World) (R : Value → World → Prop) : S.styx_EncodeDir a0 w R = fnC PP 19 (Tryz.f6.body.getD .skip) S.styx_EncodeDir.an [.tmp 2, .tmp 3] [a0] w R := by kernel_rfl
theorem S.styx_EncodeDir.calls {a0 : Value} {w : World} {R : Value → World → Prop} (h : S.styx_EncodeDir a0 w R) : Ca PP Fn.styx_EncodeDir #[a0] w R :=
  fnC_calls mixed (f := Fn.styx_EncodeDir) (an := S.styx_EncodeDir.an) Tryz.func6 rfl (by show _ ≤ _; exact Nat.le_of_ble_eq_true rfl) (S.styx_EncodeDir.eq a0 w R ▸ h)
/-- acheron/acheronref31.EncodeDir -/
def S.r31_EncodeDir (a0 : Value) (w : World) (R : Value → World → Prop) : Prop :=
 Al Ty.api_Dir (a0 : Value).cells w fun t1 w2 =>
 LdA PP 10 t1 w2 fun t3 =>
 Ca PP Fn.r31_CheckDir #[t3] w2 fun t4 w5 =>
 Bi .neq t4 (.int .i64 0) fun t6 =>
 Cnd t6 (
 R (.tuple #[(.string ⟨#[]⟩), t4]) w5) (
 LdA PP 10 t1 w5 fun t7 =>
 Ca PP Fn.r31_dir #[t7] w5 fun t8 w9 =>
 R (.tuple #[t8, (.int .i64 0)]) w9)
def S.r31_EncodeDir.an : Ann := (.seq .leaf (.seq (.seq .leaf (.seq .leaf (.cond (.seq .leaf .leaf) .leaf))) (.seq .leaf .leaf)))
theorem S.r31_EncodeDir.eq (a0 : Value) (w : World) (R : Value → World → Prop) : S.r31_EncodeDir a0 w R = fnC PP 12 (Tryz.f7.body.getD .skip) S.r31_EncodeDir.an [.tmp 2, .tmp 3] [a0] w R := by kernel_rfl
theorem S.r31_EncodeDir.calls {a0 : Value} {w : World} {R : Value → World → Prop} (h : S.r31_EncodeDir a0 w R) : Ca PP Fn.r31_EncodeDir #[a0] w R :=
  fnC_calls mixed (f := Fn.r31_EncodeDir) (an := S.r31_EncodeDir.an) Tryz.func7 rfl (by show _ ≤ _; exact Nat.le_of_ble_eq_true rfl) (S.r31_EncodeDir.eq a0 w R ▸ h)
/-- acheron/styx.CheckDir -/
def S.styx_CheckDir (a0 : Value) (w : World) (R : Value → World → Prop) : Prop :=
 Al Ty.api_Dir (a0 : Value).cells w fun t1 w2 =>
 LdA PP 10 t1 w2 fun t3 =>
 Ca PP Fn.styx_EncodeDir #[t3] w2 fun t4 w5 =>
 Ex t4 0 fun t6 =>
 Ex t4 1 fun t7 =>
 R t7 w5
def S.styx_CheckDir.an : Ann := (.seq .leaf (.seq .leaf (.seq .leaf .leaf)))
theorem S.styx_CheckDir.eq (a0 : Value) (w : World) (R : Value → World → Prop) : S.styx_CheckDir a0 w R = fnC PP 11 (Tryz.f8.body.getD .skip) S.styx_CheckDir.an [.tmp 2] [a0] w R := by kernel_rfl
theorem S.styx_CheckDir.calls {a0 : Value} {w : World} {R : Value → World → Prop} (h : S.styx_CheckDir a0 w R) : Ca PP Fn.styx_CheckDir #[a0] w R :=
  fnC_calls mixed (f := Fn.styx_CheckDir) (an := S.styx_CheckDir.an) Tryz.func8 rfl (by show _ ≤ _; exact Nat.le_of_ble_eq_true rfl) (S.styx_CheckDir.eq a0 w R ▸ h)
/-- acheron/styx.DecodeDir -/
def S.styx_DecodeDir (a0 : Value) (w : World) (R : Value → World → Prop) : Prop :=
 Al Ty.api_Dir #[.int .i64 0, .int .i64 0, .int .i64 0, .int .i64 0, .int .i64 0, .int .i64 0, .string ⟨#[]⟩, .string ⟨#[]⟩, .string ⟨#[]⟩, .string ⟨#[]⟩] w fun t1 w2 =>
 Ca PP Fn.wire_NewReader #[a0] w2 fun t3 w4 =>
 Ca PP Fn.wire_Reader_Little #[t3, (.int .i64 2)] w4 fun t5 w6 =>
 Ex t5 0 fun t7 =>
 Ex t5 1 fun t8 =>
 Bi .add t7 (.int .i64 2) fun t9 =>
 ∀ J10 : List Value → World → Prop, (∀ t13, ∀ w12 : World, (∀ u11 : Env,
 Cnd t13 (
 Bd #[.int .i64 0, .int .i64 0, .int .i64 0, .int .i64 0, .int .i64 0, .int .i64 0, .string ⟨#[]⟩, .string ⟨#[]⟩, .string ⟨#[]⟩, .string ⟨#[]⟩] [(0, 3), (3, 1), (4, 1), (5, 1), (6, 1), (7, 1), (8, 1), (9, 1)] [] fun t14 =>
 St PP 10 t1 t14 w12 fun w15 =>
 LdA PP 10 t1 w15 fun t16 =>
 R (.tuple #[t16, (.int .i64 0), (.int .i64 16)]) w15) (
 Bi .gtr t9 (.int .i64 1024) fun t17 =>
 Cnd t17 (
 Bd #[.int .i64 0, .int .i64 0, .int .i64 0, .int .i64 0, .int .i64 0, .int .i64 0, .string ⟨#[]⟩, .string ⟨#[]⟩, .string ⟨#[]⟩, .string ⟨#[]⟩] [(0, 3), (3, 1), (4, 1), (5, 1), (6, 1), (7, 1), (8, 1), (9, 1)] [] fun t18 =>
 St PP 10 t1 t18 w12 fun w19 =>
 LdA PP 10 t1 w19 fun t20 =>
 R (.tuple #[t20, (.int .i64 0), (.int .i64 3)]) w19) (
 SlS a0 (some (.int .i64 2)) (some t9) fun t21 =>
 Ca PP Fn.wire_NewReader #[t21] w12 fun t22 w23 =>
 Bd #[.pointer none, .bool false, .bool false, .bool false] [(0, 1), (1, 1), (2, 1), (3, 1)] [(0, t22)] fun t24 =>
 Al Ty.styx_input (t24 : Value).cells w23 fun t25 w26 =>
 Al Ty.api_Dir #[.int .i64 0, .int .i64 0, .int .i64 0, .int .i64 0, .int .i64 0, .int .i64 0, .string ⟨#[]⟩, .string ⟨#[]⟩, .string ⟨#[]⟩, .string ⟨#[]⟩] w26 fun t27 w28 =>
 Ca PP Fn.styx_body #[(.iface Ty.p_styx_input t25), t27] w28 fun t29 w30 =>
 Ca PP Fn.styx_input_finish #[t25] w30 fun t31 w32 =>
 Ca PP Fn.styx_input_err #[t25] w32 fun t33 w34 =>
 Bi .neq t33 (.int .i64 0) fun t35 =>
 Cnd t35 (
 Bd #[.int .i64 0, .int .i64 0, .int .i64 0, .int .i64 0, .int .i64 0, .int .i64 0, .string ⟨#[]⟩, .string ⟨#[]⟩, .string ⟨#[]⟩, .string ⟨#[]⟩] [(0, 3), (3, 1), (4, 1), (5, 1), (6, 1), (7, 1), (8, 1), (9, 1)] [] fun t36 =>
 St PP 10 t1 t36 w34 fun w37 =>
 LdA PP 10 t1 w37 fun t38 =>
 R (.tuple #[t38, (.int .i64 0), t33]) w37) (
 LdA PP 10 t27 w34 fun t39 =>
 St PP 10 t1 t39 w34 fun w40 =>
 LdA PP 10 t1 w40 fun t41 =>
 R (.tuple #[t41, t9, (.int .i64 0)]) w40)))) → J10 [t13] w12) →
 Bi .neq t8 (.int .i64 0) fun t42 =>
 Gd t42 false (fun k43 => k43 t9 w6) w6 fun t44 w45 =>
 Gd t42 false (fun k46 => k46 a0 w45) w45 fun t47 w48 =>
 Gd t42 false (fun k49 => LnS t47 fun t52 =>
 k49 t52 w48) w48 fun t50 w51 =>
 Gd t42 false (fun k53 => Bi .gtr t44 t50 fun t56 =>
 k53 t56 w51) w51 fun t54 w55 =>
 Pk t42 (.bool true) t54 fun t57 =>
 J10 [t57] w55
def S.styx_DecodeDir.an : Ann := (.seq .leaf (.seq .leaf (.seq .leaf (.seq (.block (.join .leaf [19] [20,21,22,23,24,25,26,27] (.cond (.seq .leaf .leaf) (.seq .leaf (.cond (.seq .leaf .leaf) .leaf))))) (.seq .leaf (.seq .leaf (.seq .leaf (.seq .leaf (.seq (.seq .leaf (.seq .leaf (.cond (.seq .leaf .leaf) .leaf))) (.seq .leaf .leaf))))))))))
theorem S.styx_DecodeDir.eq (a0 : Value) (w : World) (R : Value → World → Prop) : S.styx_DecodeDir a0 w R = fnC PP 52 (Tryz.f9.body.getD .skip) S.styx_DecodeDir.an [.cell 2 25, .tmp 3, .tmp 4] [a0] w R := by kernel_rfl
theorem S.styx_DecodeDir.calls {a0 : Value} {w : World} {R : Value → World → Prop} (h : S.styx_DecodeDir a0 w R) : Ca PP Fn.styx_DecodeDir #[a0] w R :=
  fnC_calls mixed (f := Fn.styx_DecodeDir) (an := S.styx_DecodeDir.an) Tryz.func9 rfl (by show _ ≤ _; exact Nat.le_of_ble_eq_true rfl) (S.styx_DecodeDir.eq a0 w R ▸ h)
/-- acheron/acheronref31.DecodeDir -/
def S.r31_DecodeDir (a0 : Value) (w : World) (R : Value → World → Prop) : Prop :=
 Al Ty.api_Dir #[.int .i64 0, .int .i64 0, .int .i64 0, .int .i64 0, .int .i64 0, .int .i64 0, .string ⟨#[]⟩, .string ⟨#[]⟩, .string ⟨#[]⟩, .string ⟨#[]⟩] w fun t1 w2 =>
 LnS a0 fun t3 =>
 Bi .lss t3 (.int .i64 2) fun t4 =>
 Cnd t4 (
 Bd #[.int .i64 0, .int .i64 0, .int .i64 0, .int .i64 0, .int .i64 0, .int .i64 0, .string ⟨#[]⟩, .string ⟨#[]⟩, .string ⟨#[]⟩, .string ⟨#[]⟩] [(0, 3), (3, 1), (4, 1), (5, 1), (6, 1), (7, 1), (8, 1), (9, 1)] [] fun t5 =>
 St PP 10 t1 t5 w2 fun w6 =>
 LdA PP 10 t1 w6 fun t7 =>
 R (.tuple #[t7, (.int .i64 0), (.int .i64 16)]) w6) (
 SlS a0 none (some (.int .i64 2)) fun t8 =>
 Ca PP Fn.r31_value #[t8] w2 fun t9 w10 =>
 Cv .i64 t9 fun t11 =>
 Bi .add (.int .i64 2) t11 fun t12 =>
 LnS a0 fun t13 =>
 Bi .gtr t12 t13 fun t14 =>
 Cnd t14 (
 Bd #[.int .i64 0, .int .i64 0, .int .i64 0, .int .i64 0, .int .i64 0, .int .i64 0, .string ⟨#[]⟩, .string ⟨#[]⟩, .string ⟨#[]⟩, .string ⟨#[]⟩] [(0, 3), (3, 1), (4, 1), (5, 1), (6, 1), (7, 1), (8, 1), (9, 1)] [] fun t15 =>
 St PP 10 t1 t15 w10 fun w16 =>
 LdA PP 10 t1 w16 fun t17 =>
 R (.tuple #[t17, (.int .i64 0), (.int .i64 16)]) w16) (
 Bi .gtr t12 (.int .i64 1024) fun t18 =>
 Cnd t18 (
 Bd #[.int .i64 0, .int .i64 0, .int .i64 0, .int .i64 0, .int .i64 0, .int .i64 0, .string ⟨#[]⟩, .string ⟨#[]⟩, .string ⟨#[]⟩, .string ⟨#[]⟩] [(0, 3), (3, 1), (4, 1), (5, 1), (6, 1), (7, 1), (8, 1), (9, 1)] [] fun t19 =>
 St PP 10 t1 t19 w10 fun w20 =>
 LdA PP 10 t1 w20 fun t21 =>
 R (.tuple #[t21, (.int .i64 0), (.int .i64 3)]) w20) (
 SlS a0 none (some t12) fun t22 =>
 Bd #[.string ⟨#[]⟩, .int .i64 0, .bool false] [(0, 1), (1, 1), (2, 1)] [(0, t22)] fun t23 =>
 Ca PP Fn.r31_readDir #[t23] w10 fun t24 w25 =>
 Ex t24 0 fun t26 =>
 Ex t24 1 fun t27 =>
 Al Ty.api_Dir #[.int .i64 0, .int .i64 0, .int .i64 0, .int .i64 0, .int .i64 0, .int .i64 0, .string ⟨#[]⟩, .string ⟨#[]⟩, .string ⟨#[]⟩, .string ⟨#[]⟩] w25 fun t28 w29 =>
 Al Ty.r31_reader #[.string ⟨#[]⟩, .int .i64 0, .bool false] w29 fun t30 w31 =>
 St PP 10 t28 t26 w31 fun w32 =>
 St PP 3 t30 t27 w32 fun w33 =>
 Fa 2 t30 fun t34 =>
 Ld t34 w33 fun t35 =>
 Cnd t35 (
 Bd #[.int .i64 0, .int .i64 0, .int .i64 0, .int .i64 0, .int .i64 0, .int .i64 0, .string ⟨#[]⟩, .string ⟨#[]⟩, .string ⟨#[]⟩, .string ⟨#[]⟩] [(0, 3), (3, 1), (4, 1), (5, 1), (6, 1), (7, 1), (8, 1), (9, 1)] [] fun t36 =>
 St PP 10 t1 t36 w33 fun w37 =>
 LdA PP 10 t1 w37 fun t38 =>
 R (.tuple #[t38, (.int .i64 0), (.int .i64 2)]) w37) (
 LdA PP 10 t28 w33 fun t39 =>
 Ca PP Fn.r31_rightDir #[t39] w33 fun t40 w41 =>
 Un .not t40 fun t42 =>
 Cnd t42 (
 Bd #[.int .i64 0, .int .i64 0, .int .i64 0, .int .i64 0, .int .i64 0, .int .i64 0, .string ⟨#[]⟩, .string ⟨#[]⟩, .string ⟨#[]⟩, .string ⟨#[]⟩] [(0, 3), (3, 1), (4, 1), (5, 1), (6, 1), (7, 1), (8, 1), (9, 1)] [] fun t43 =>
 St PP 10 t1 t43 w41 fun w44 =>
 LdA PP 10 t1 w44 fun t45 =>
 R (.tuple #[t45, (.int .i64 0), (.int .i64 11)]) w44) (
 LdA PP 10 t28 w41 fun t46 =>
 St PP 10 t1 t46 w41 fun w47 =>
 LdA PP 10 t1 w47 fun t48 =>
 R (.tuple #[t48, t12, (.int .i64 0)]) w47)))))
def S.r31_DecodeDir.an : Ann := (.seq .leaf (.seq (.seq .leaf (.cond (.seq .leaf .leaf) .leaf)) (.seq .leaf (.seq (.seq .leaf (.cond (.seq .leaf .leaf) .leaf)) (.seq (.seq .leaf (.cond (.seq .leaf .leaf) .leaf)) (.seq .leaf (.seq (.seq .leaf (.cond (.seq .leaf .leaf) .leaf)) (.seq (.seq .leaf (.cond (.seq .leaf .leaf) .leaf)) (.seq .leaf .leaf)))))))))
theorem S.r31_DecodeDir.eq (a0 : Value) (w : World) (R : Value → World → Prop) : S.r31_DecodeDir a0 w R = fnC PP 42 (Tryz.f10.body.getD .skip) S.r31_DecodeDir.an [.cell 2 25, .tmp 3, .tmp 4] [a0] w R := by kernel_rfl
theorem S.r31_DecodeDir.calls {a0 : Value} {w : World} {R : Value → World → Prop} (h : S.r31_DecodeDir a0 w R) : Ca PP Fn.r31_DecodeDir #[a0] w R :=
  fnC_calls mixed (f := Fn.r31_DecodeDir) (an := S.r31_DecodeDir.an) Tryz.func10 rfl (by show _ ≤ _; exact Nat.le_of_ble_eq_true rfl) (S.r31_DecodeDir.eq a0 w R ▸ h)
/-- acheron/styx.Dirs -/
def S.styx_Dirs (a0 : Value) (w : World) (R : Value → World → Prop) : Prop :=
 ∃ (I1 : List Value → World → Prop) (m2 : List Value → World → Nat), I1 [a0, (.slice none 0 0)] w ∧ ∀ t5 t6, ∀ (u3 : Env) (w4 : World), I1 [t5, t6] w4 →
 Bi .neq t5 (.string ⟨#[]⟩) fun t7 =>
 Cnd t7 (
 Ca PP Fn.styx_DecodeDir #[t5] w4 fun t8 w9 =>
 Ex t8 0 fun t10 =>
 Ex t8 1 fun t11 =>
 Ex t8 2 fun t12 =>
 Al Ty.api_Dir #[.int .i64 0, .int .i64 0, .int .i64 0, .int .i64 0, .int .i64 0, .int .i64 0, .string ⟨#[]⟩, .string ⟨#[]⟩, .string ⟨#[]⟩, .string ⟨#[]⟩] w9 fun t13 w14 =>
 St PP 10 t13 t10 w14 fun w15 =>
 Bi .neq t12 (.int .i64 0) fun t16 =>
 Cnd t16 (
 R (.tuple #[(.slice none 0 0), t12]) w15) (
 Dr w15 fun w17 =>
 LdA PP 10 t13 w17 fun t18 =>
 SlS t5 (some t11) none fun t19 =>
 Ef PP (Instr.buildSlice Ty.sl_api_Dir 1 #[(0, t18)]) w17 fun t20 w21 =>
 Ef PP (Builtin.append_ #[Ty.sl_api_Dir, Ty.sl_api_Dir] Ty.sl_api_Dir #[t6, t20]) w21 fun t22 w23 =>
 I1 [t19, t22] w23 ∧ m2 [t19, t22] w23 < m2 [t5, t6] w4)) (
 R (.tuple #[t6, (.int .i64 0)]) w4)
def S.styx_Dirs.an : Ann := (.seq .leaf (.seq .leaf (.seq (.block (.loop (.seq (.seq .leaf (.cond .leaf .leaf)) (.block (.seq .leaf (.seq (.seq .leaf (.cond (.seq .leaf .leaf) .leaf)) (.draw [[],[],[1],[0,1,2],[],[],[4,5],[0,1,2,3],[0,1,2,3,4,5,6,7]] (.calm 0 (.calm 1 (.calm 4 (.calm 5 (.calm 6 (.eff1 2 [] (.eff1 3 [] (.calm 7 (.calm 8 .done)))))))))))))) [0,4] [2,3,5,6,7,8,9,10,11,12,13,14,15,16,17,18,19,20,21,22,23,24,25])) (.seq .leaf .leaf))))
theorem S.styx_Dirs.eq (a0 : Value) (w : World) (R : Value → World → Prop) : S.styx_Dirs a0 w R = fnC PP 27 (Tryz.f11.body.getD .skip) S.styx_Dirs.an [.tmp 2, .tmp 3] [a0] w R := by kernel_rfl
theorem S.styx_Dirs.calls {a0 : Value} {w : World} {R : Value → World → Prop} (h : S.styx_Dirs a0 w R) : Ca PP Fn.styx_Dirs #[a0] w R :=
  fnC_calls mixed (f := Fn.styx_Dirs) (an := S.styx_Dirs.an) Tryz.func11 rfl (by show _ ≤ _; exact Nat.le_of_ble_eq_true rfl) (S.styx_Dirs.eq a0 w R ▸ h)
/-- acheron/acheronref31.Dirs -/
def S.r31_Dirs (a0 : Value) (w : World) (R : Value → World → Prop) : Prop :=
 Ef PP (Instr.buildSlice Ty.sl_api_Dir 0 #[]) w fun t1 w2 =>
 ∃ (I3 : List Value → World → Prop) (m4 : List Value → World → Nat), I3 [a0, t1] w2 ∧ ∀ t7 t8, ∀ (u5 : Env) (w6 : World), I3 [t7, t8] w6 →
 LnS t7 fun t9 =>
 Bi .gtr t9 (.int .i64 0) fun t10 =>
 Cnd t10 (
 Ca PP Fn.r31_DecodeDir #[t7] w6 fun t11 w12 =>
 Ex t11 0 fun t13 =>
 Ex t11 1 fun t14 =>
 Ex t11 2 fun t15 =>
 Al Ty.api_Dir #[.int .i64 0, .int .i64 0, .int .i64 0, .int .i64 0, .int .i64 0, .int .i64 0, .string ⟨#[]⟩, .string ⟨#[]⟩, .string ⟨#[]⟩, .string ⟨#[]⟩] w12 fun t16 w17 =>
 St PP 10 t16 t13 w17 fun w18 =>
 Bi .neq t15 (.int .i64 0) fun t19 =>
 Cnd t19 (
 R (.tuple #[(.slice none 0 0), t15]) w18) (
 LdA PP 10 t16 w18 fun t20 =>
 Ef PP (Instr.buildSlice Ty.sl_api_Dir 1 #[(0, t20)]) w18 fun t21 w22 =>
 Ef PP (Builtin.append_ #[Ty.sl_api_Dir, Ty.sl_api_Dir] Ty.sl_api_Dir #[t8, t21]) w22 fun t23 w24 =>
 SlS t7 (some t14) none fun t25 =>
 I3 [t25, t23] w24 ∧ m4 [t25, t23] w24 < m4 [t7, t8] w6)) (
 R (.tuple #[t8, (.int .i64 0)]) w6)
def S.r31_Dirs.an : Ann := (.seq .leaf (.seq .leaf (.seq (.block (.loop (.seq (.seq .leaf (.cond .leaf .leaf)) (.block (.seq .leaf (.seq (.seq .leaf (.cond (.seq .leaf .leaf) .leaf)) (.seq .leaf .leaf))))) [0,4] [2,3,5,6,7,9,10,11,12,13,14,15,16,17,18,19,20,21,22,23,24,25,26,27])) (.seq .leaf .leaf))))
theorem S.r31_Dirs.eq (a0 : Value) (w : World) (R : Value → World → Prop) : S.r31_Dirs a0 w R = fnC PP 29 (Tryz.f12.body.getD .skip) S.r31_Dirs.an [.tmp 2, .tmp 3] [a0] w R := by kernel_rfl
theorem S.r31_Dirs.calls {a0 : Value} {w : World} {R : Value → World → Prop} (h : S.r31_Dirs a0 w R) : Ca PP Fn.r31_Dirs #[a0] w R :=
  fnC_calls mixed (f := Fn.r31_Dirs) (an := S.r31_Dirs.an) Tryz.func12 rfl (by show _ ≤ _; exact Nat.le_of_ble_eq_true rfl) (S.r31_Dirs.eq a0 w R ▸ h)
/-- slices.Equal[[]acheron/api.Dir,acheron/api.Dir] -/
def S.slices_Equal_sl_api_Dir_api_Dir (a0 a1 : Value) (w : World) (R : Value → World → Prop) : Prop :=
 LnL a0 fun t1 =>
 LnL a1 fun t2 =>
 Bi .neq t1 t2 fun t3 =>
 Cnd t3 (
 R (.bool false) w) (
 LnL a0 fun t4 =>
 ∃ (I5 : List Value → World → Prop) (m6 : List Value → World → Nat), I5 [(.int .i64 0)] w ∧ ∀ t9, ∀ (u7 : Env) (w8 : World), I5 [t9] w8 →
 Bi .lss t9 t4 fun t10 =>
 Cnd t10 (
 Dr w8 fun w11 =>
 IxA 10 a0 t9 fun t12 =>
 LdA PP 10 t12 w11 fun t13 =>
 IxA 10 a1 t9 fun t14 =>
 LdA PP 10 t14 w11 fun t15 =>
 Rd PP (eqS .neq Ty.api_Dir (.tmp 19) (.tmp 23) t13 t15) w11 fun t16 =>
 Cnd t16 (
 R (.bool false) w11) (
 Bi .add t9 (.int .i64 1) fun t17 =>
 I5 [t17] w11 ∧ m6 [t17] w11 < m6 [t9] w8)) (
 R (.bool true) w8))
def S.slices_Equal_sl_api_Dir_api_Dir.an : Ann := (.seq .leaf (.seq (.seq .leaf (.cond (.seq .leaf .leaf) .leaf)) (.seq (.seq .leaf (.block (.loop (.seq .leaf (.seq (.cond .leaf .leaf) (.seq (.block (.seq .leaf (.seq (.draw [[],[],[0,1],[0,1,2],[],[],[4,5],[4,5,6],[0,1,2,3,4,5,6,7]] (.calm 0 (.calm 1 (.calm 2 (.calm 3 (.calm 4 (.calm 5 (.calm 6 (.calm 7 (.calm 8 .done)))))))))) (.cond (.seq .leaf .leaf) .leaf)))) .leaf))) [13] [4,5,14,15,16,17,18,19,20,21,22,23,24,25]))) (.seq .leaf .leaf))))
theorem S.slices_Equal_sl_api_Dir_api_Dir.eq (a0 a1 : Value) (w : World) (R : Value → World → Prop) : S.slices_Equal_sl_api_Dir_api_Dir a0 a1 w R = fnC PP 26 (Tryz.f13.body.getD .skip) S.slices_Equal_sl_api_Dir_api_Dir.an [.tmp 4] [a0, a1] w R := by kernel_rfl
theorem S.slices_Equal_sl_api_Dir_api_Dir.calls {a0 a1 : Value} {w : World} {R : Value → World → Prop} (h : S.slices_Equal_sl_api_Dir_api_Dir a0 a1 w R) : Ca PP Fn.slices_Equal_sl_api_Dir_api_Dir #[a0, a1] w R :=
  fnC_calls mixed (f := Fn.slices_Equal_sl_api_Dir_api_Dir) (an := S.slices_Equal_sl_api_Dir_api_Dir.an) Tryz.func13 rfl (by show _ ≤ _; exact Nat.le_of_ble_eq_true rfl) (S.slices_Equal_sl_api_Dir_api_Dir.eq a0 a1 w R ▸ h)
/-- acheron/styx.Encode -/
def S.styx_Encode (a0 : Value) (w : World) (R : Value → World → Prop) : Prop :=
 Al Ty.api_Msg (a0 : Value).cells w fun t1 w2 =>
 Fa 0 t1 fun t3 =>
 Ld t3 w2 fun t4 =>
 Ca PP Fn.styx_known #[t4] w2 fun t5 w6 =>
 Un .not t5 fun t7 =>
 Cnd t7 (
 R (.tuple #[(.string ⟨#[]⟩), (.int .i64 13)]) w6) (
 LdA PP 27 t1 w6 fun t8 =>
 Ca PP Fn.styx_shaped #[t8] w6 fun t9 w10 =>
 Un .not t9 fun t11 =>
 Cnd t11 (
 R (.tuple #[(.string ⟨#[]⟩), (.int .i64 14)]) w10) (
 Bd #[.slice none 0 0, .bool false, .bool false] [(0, 1), (1, 1), (2, 1)] [] fun t12 =>
 Al Ty.styx_output (t12 : Value).cells w10 fun t13 w14 =>
 Dr w14 fun w15 =>
 Nc t13 fun t16 =>
 Fa 0 t16 fun t17 =>
 Fa 0 t1 fun t18 =>
 Ld t18 w15 fun t19 =>
 Ca PP Fn.wire_Writer_Little #[t17, t19, (.int .i64 1)] w15 fun t20 w21 =>
 Fa 1 t1 fun t22 =>
 Ca PP Fn.styx_output_num #[t13, t22, (.int .i64 2)] w21 fun t23 w24 =>
 Ca PP Fn.styx_fields #[(.iface Ty.p_styx_output t13), t1] w24 fun t25 w26 =>
 ∀ J27 : List Value → World → Prop, (∀ w29 : World, (∀ u28 : Env,
 Ca PP Fn.styx_output_err #[t13] w29 fun t30 w31 =>
 Bi .neq t30 (.int .i64 0) fun t32 =>
 Cnd t32 (
 R (.tuple #[(.string ⟨#[]⟩), t30]) w31) (
 Ca PP Fn.wire_NewWriter #[] w31 fun t33 w34 =>
 Nc t13 fun t35 =>
 Fa 0 t35 fun t36 =>
 Ca PP Fn.wire_Writer_Len #[t36] w34 fun t37 w38 =>
 Bi .add t37 (.int .i64 4) fun t39 =>
 Ca PP Fn.wire_Writer_Little #[t33, t39, (.int .i64 4)] w38 fun t40 w41 =>
 Nc t13 fun t42 =>
 Fa 0 t42 fun t43 =>
 Ca PP Fn.wire_Writer_Text #[t43] w41 fun t44 w45 =>
 Ca PP Fn.wire_Writer_Raw #[t33, t44] w45 fun t46 w47 =>
 Ca PP Fn.wire_Writer_Text #[t33] w47 fun t48 w49 =>
 R (.tuple #[t48, (.int .i64 0)]) w49)) → J27 [] w29) →
 Nc t13 fun t50 =>
 Fa 2 t50 fun t51 =>
 Ld t51 w26 fun t52 =>
 Gd t52 false (fun k53 => k53 t13 w26) w26 fun t54 w55 =>
 Gd t52 false (fun k56 => Nc t54 fun t59 =>
 k56 t59 w55) w55 fun t57 w58 =>
 Gd t52 false (fun k60 => Fa 0 t57 fun t63 =>
 k60 t63 w58) w58 fun t61 w62 =>
 Gd t52 false (fun k64 => Ca PP Fn.wire_Writer_Len #[t61] w62 fun t67 w68 =>
 k64 t67 w68) w62 fun t65 w66 =>
 Gd t52 false (fun k69 => Bi .add t65 (.int .i64 4) fun t72 =>
 k69 t72 w66) w66 fun t70 w71 =>
 Gd t52 false (fun k73 => Bi .gtr t70 (.int .i64 8192) fun t76 =>
 k73 t76 w71) w71 fun t74 w75 =>
 Pk t52 (.bool true) t74 fun t77 =>
 Nc t13 fun t78 =>
 Fa 2 t78 fun t79 =>
 St PP 1 t79 t77 w75 fun w80 =>
 J27 [] w80))
def S.styx_Encode.an : Ann := (.seq .leaf (.seq (.block (.seq .leaf (.cond (.seq .leaf .leaf) (.seq .leaf (.cond (.seq .leaf .leaf) .leaf))))) (.seq .leaf (.seq (.draw [[],[0],[0,1],[],[3],[0,1,2,3,4]] (.calm 0 (.calm 1 (.calm 2 (.calm 3 (.calm 4 (.eff1 5 [] .done))))))) (.seq .leaf (.seq .leaf (.join .leaf [] [30,31,32,33,34,35,36,37,38,39,40,41,42,43,44] (.seq (.seq .leaf (.seq .leaf (.cond (.seq .leaf .leaf) .leaf))) (.seq .leaf (.seq .leaf (.seq .leaf (.seq .leaf .leaf))))))))))))
theorem S.styx_Encode.eq (a0 : Value) (w : World) (R : Value → World → Prop) : S.styx_Encode a0 w R = fnC PP 66 (Tryz.f14.body.getD .skip) S.styx_Encode.an [.tmp 2, .tmp 3] [a0] w R := by kernel_rfl
theorem S.styx_Encode.calls {a0 : Value} {w : World} {R : Value → World → Prop} (h : S.styx_Encode a0 w R) : Ca PP Fn.styx_Encode #[a0] w R :=
  fnC_calls mixed (f := Fn.styx_Encode) (an := S.styx_Encode.an) Tryz.func14 rfl (by show _ ≤ _; exact Nat.le_of_ble_eq_true rfl) (S.styx_Encode.eq a0 w R ▸ h)
/-- acheron/styx.Decode -/
def S.styx_Decode (a0 : Value) (w : World) (R : Value → World → Prop) : Prop :=
 Al Ty.api_Msg #[.int .i64 0, .int .i64 0, .int .i64 0, .int .i64 0, .int .i64 0, .int .i64 0, .int .i64 0, .int .i64 0, .int .i64 0, .string ⟨#[]⟩, .string ⟨#[]⟩, .string ⟨#[]⟩, .string ⟨#[]⟩, .slice none 0 0, .slice none 0 0, .string ⟨#[]⟩, .int .i64 0, .int .i64 0, .int .i64 0, .int .i64 0, .int .i64 0, .int .i64 0, .string ⟨#[]⟩, .string ⟨#[]⟩, .string ⟨#[]⟩, .string ⟨#[]⟩, .int .i64 0] w fun t1 w2 =>
 Ca PP Fn.styx_length #[a0] w2 fun t3 w4 =>
 LnS a0 fun t5 =>
 Bi .lss t5 (.int .i64 7) fun t6 =>
 Cnd t6 (
 Bd #[.int .i64 0, .int .i64 0, .int .i64 0, .int .i64 0, .int .i64 0, .int .i64 0, .int .i64 0, .int .i64 0, .int .i64 0, .string ⟨#[]⟩, .string ⟨#[]⟩, .string ⟨#[]⟩, .string ⟨#[]⟩, .slice none 0 0, .slice none 0 0, .string ⟨#[]⟩, .int .i64 0, .int .i64 0, .int .i64 0, .int .i64 0, .int .i64 0, .int .i64 0, .string ⟨#[]⟩, .string ⟨#[]⟩, .string ⟨#[]⟩, .string ⟨#[]⟩, .int .i64 0] [(0, 1), (1, 1), (2, 1), (3, 1), (4, 1), (5, 1), (6, 1), (7, 1), (8, 1), (9, 1), (10, 1), (11, 1), (12, 1), (13, 1), (14, 1), (15, 1), (16, 10), (26, 1)] [] fun t7 =>
 St PP 27 t1 t7 w4 fun w8 =>
 LdA PP 27 t1 w8 fun t9 =>
 R (.tuple #[t9, (.int .i64 16)]) w8) (
 Bi .gtr t3 (.int .i64 8192) fun t10 =>
 Cnd t10 (
 Bd #[.int .i64 0, .int .i64 0, .int .i64 0, .int .i64 0, .int .i64 0, .int .i64 0, .int .i64 0, .int .i64 0, .int .i64 0, .string ⟨#[]⟩, .string ⟨#[]⟩, .string ⟨#[]⟩, .string ⟨#[]⟩, .slice none 0 0, .slice none 0 0, .string ⟨#[]⟩, .int .i64 0, .int .i64 0, .int .i64 0, .int .i64 0, .int .i64 0, .int .i64 0, .string ⟨#[]⟩, .string ⟨#[]⟩, .string ⟨#[]⟩, .string ⟨#[]⟩, .int .i64 0] [(0, 1), (1, 1), (2, 1), (3, 1), (4, 1), (5, 1), (6, 1), (7, 1), (8, 1), (9, 1), (10, 1), (11, 1), (12, 1), (13, 1), (14, 1), (15, 1), (16, 10), (26, 1)] [] fun t11 =>
 St PP 27 t1 t11 w4 fun w12 =>
 LdA PP 27 t1 w12 fun t13 =>
 R (.tuple #[t13, (.int .i64 3)]) w12) (
 LnS a0 fun t14 =>
 Bi .neq t3 t14 fun t15 =>
 Cnd t15 (
 Bd #[.int .i64 0, .int .i64 0, .int .i64 0, .int .i64 0, .int .i64 0, .int .i64 0, .int .i64 0, .int .i64 0, .int .i64 0, .string ⟨#[]⟩, .string ⟨#[]⟩, .string ⟨#[]⟩, .string ⟨#[]⟩, .slice none 0 0, .slice none 0 0, .string ⟨#[]⟩, .int .i64 0, .int .i64 0, .int .i64 0, .int .i64 0, .int .i64 0, .int .i64 0, .string ⟨#[]⟩, .string ⟨#[]⟩, .string ⟨#[]⟩, .string ⟨#[]⟩, .int .i64 0] [(0, 1), (1, 1), (2, 1), (3, 1), (4, 1), (5, 1), (6, 1), (7, 1), (8, 1), (9, 1), (10, 1), (11, 1), (12, 1), (13, 1), (14, 1), (15, 1), (16, 10), (26, 1)] [] fun t16 =>
 St PP 27 t1 t16 w4 fun w17 =>
 LdA PP 27 t1 w17 fun t18 =>
 R (.tuple #[t18, (.int .i64 14)]) w17) (
 SlS a0 (some (.int .i64 4)) none fun t19 =>
 Ca PP Fn.wire_NewReader #[t19] w4 fun t20 w21 =>
 Bd #[.pointer none, .bool false, .bool false, .bool false] [(0, 1), (1, 1), (2, 1), (3, 1)] [(0, t20)] fun t22 =>
 Al Ty.styx_input (t22 : Value).cells w21 fun t23 w24 =>
 Al Ty.api_Msg #[.int .i64 0, .int .i64 0, .int .i64 0, .int .i64 0, .int .i64 0, .int .i64 0, .int .i64 0, .int .i64 0, .int .i64 0, .string ⟨#[]⟩, .string ⟨#[]⟩, .string ⟨#[]⟩, .string ⟨#[]⟩, .slice none 0 0, .slice none 0 0, .string ⟨#[]⟩, .int .i64 0, .int .i64 0, .int .i64 0, .int .i64 0, .int .i64 0, .int .i64 0, .string ⟨#[]⟩, .string ⟨#[]⟩, .string ⟨#[]⟩, .string ⟨#[]⟩, .int .i64 0] w24 fun t25 w26 =>
 Fa 0 t25 fun t27 =>
 Ca PP Fn.styx_input_num #[t23, t27, (.int .i64 1)] w26 fun t28 w29 =>
 Fa 1 t25 fun t30 =>
 Ca PP Fn.styx_input_num #[t23, t30, (.int .i64 2)] w29 fun t31 w32 =>
 Fa 0 t25 fun t33 =>
 Ld t33 w32 fun t34 =>
 Ca PP Fn.styx_known #[t34] w32 fun t35 w36 =>
 Un .not t35 fun t37 =>
 Cnd t37 (
 Bd #[.int .i64 0, .int .i64 0, .int .i64 0, .int .i64 0, .int .i64 0, .int .i64 0, .int .i64 0, .int .i64 0, .int .i64 0, .string ⟨#[]⟩, .string ⟨#[]⟩, .string ⟨#[]⟩, .string ⟨#[]⟩, .slice none 0 0, .slice none 0 0, .string ⟨#[]⟩, .int .i64 0, .int .i64 0, .int .i64 0, .int .i64 0, .int .i64 0, .int .i64 0, .string ⟨#[]⟩, .string ⟨#[]⟩, .string ⟨#[]⟩, .string ⟨#[]⟩, .int .i64 0] [(0, 1), (1, 1), (2, 1), (3, 1), (4, 1), (5, 1), (6, 1), (7, 1), (8, 1), (9, 1), (10, 1), (11, 1), (12, 1), (13, 1), (14, 1), (15, 1), (16, 10), (26, 1)] [] fun t38 =>
 St PP 27 t1 t38 w36 fun w39 =>
 LdA PP 27 t1 w39 fun t40 =>
 R (.tuple #[t40, (.int .i64 13)]) w39) (
 Ca PP Fn.styx_fields #[(.iface Ty.p_styx_input t23), t25] w36 fun t41 w42 =>
 Ca PP Fn.styx_input_finish #[t23] w42 fun t43 w44 =>
 Ca PP Fn.styx_input_err #[t23] w44 fun t45 w46 =>
 Bi .neq t45 (.int .i64 0) fun t47 =>
 Cnd t47 (
 Bd #[.int .i64 0, .int .i64 0, .int .i64 0, .int .i64 0, .int .i64 0, .int .i64 0, .int .i64 0, .int .i64 0, .int .i64 0, .string ⟨#[]⟩, .string ⟨#[]⟩, .string ⟨#[]⟩, .string ⟨#[]⟩, .slice none 0 0, .slice none 0 0, .string ⟨#[]⟩, .int .i64 0, .int .i64 0, .int .i64 0, .int .i64 0, .int .i64 0, .int .i64 0, .string ⟨#[]⟩, .string ⟨#[]⟩, .string ⟨#[]⟩, .string ⟨#[]⟩, .int .i64 0] [(0, 1), (1, 1), (2, 1), (3, 1), (4, 1), (5, 1), (6, 1), (7, 1), (8, 1), (9, 1), (10, 1), (11, 1), (12, 1), (13, 1), (14, 1), (15, 1), (16, 10), (26, 1)] [] fun t48 =>
 St PP 27 t1 t48 w46 fun w49 =>
 LdA PP 27 t1 w49 fun t50 =>
 R (.tuple #[t50, t45]) w49) (
 LdA PP 27 t25 w46 fun t51 =>
 St PP 27 t1 t51 w46 fun w52 =>
 LdA PP 27 t1 w52 fun t53 =>
 R (.tuple #[t53, (.int .i64 0)]) w52)))))
def S.styx_Decode.an : Ann := (.seq .leaf (.seq (.seq .leaf (.block (.seq .leaf (.cond (.seq .leaf .leaf) (.seq .leaf (.cond (.seq .leaf .leaf) (.seq .leaf (.cond (.seq .leaf .leaf) .leaf)))))))) (.seq .leaf (.seq .leaf (.seq .leaf (.seq .leaf (.seq (.seq .leaf (.cond (.seq .leaf .leaf) .leaf)) (.seq .leaf (.seq .leaf (.seq (.seq .leaf (.seq .leaf (.cond (.seq .leaf .leaf) .leaf))) (.seq .leaf .leaf)))))))))))
theorem S.styx_Decode.eq (a0 : Value) (w : World) (R : Value → World → Prop) : S.styx_Decode a0 w R = fnC PP 53 (Tryz.f15.body.getD .skip) S.styx_Decode.an [.cell 2 43, .tmp 3] [a0] w R := by kernel_rfl
theorem S.styx_Decode.calls {a0 : Value} {w : World} {R : Value → World → Prop} (h : S.styx_Decode a0 w R) : Ca PP Fn.styx_Decode #[a0] w R :=
  fnC_calls mixed (f := Fn.styx_Decode) (an := S.styx_Decode.an) Tryz.func15 rfl (by show _ ≤ _; exact Nat.le_of_ble_eq_true rfl) (S.styx_Decode.eq a0 w R ▸ h)
/-- acheron/acheronlaw31.Same -/
def S.law31_Same (a0 a1 : Value) (w : World) (R : Value → World → Prop) : Prop :=
 Al Ty.api_Msg (a0 : Value).cells w fun t1 w2 =>
 Al Ty.api_Msg (a1 : Value).cells w2 fun t3 w4 =>
 ∀ J5 : List Value → World → Prop, (∀ t8, ∀ w7 : World, (∀ u6 : Env,
 Cnd t8 (
 R (.bool false) w7) (
 ∀ J9 : List Value → World → Prop, (∀ t12, ∀ w11 : World, (∀ u10 : Env,
 R t12 w11) → J9 [t12] w11) →
 Fa 0 t1 fun t13 =>
 Ld t13 w7 fun t14 =>
 Fa 0 t3 fun t15 =>
 Ld t15 w7 fun t16 =>
 Bi .eql t14 t16 fun t17 =>
 Gd t17 true (fun k18 => Fa 1 t1 fun t21 =>
 k18 t21 w7) w7 fun t19 w20 =>
 Gd t17 true (fun k22 => Ld t19 w20 fun t25 =>
 k22 t25 w20) w20 fun t23 w24 =>
 Gd t17 true (fun k26 => Fa 1 t3 fun t29 =>
 k26 t29 w24) w24 fun t27 w28 =>
 Gd t17 true (fun k30 => Ld t27 w28 fun t33 =>
 k30 t33 w28) w28 fun t31 w32 =>
 Gd t17 true (fun k34 => Bi .eql t23 t31 fun t37 =>
 k34 t37 w32) w32 fun t35 w36 =>
 Pk t17 t35 (.bool false) fun t38 =>
 Gd t38 true (fun k39 => Fa 2 t1 fun t42 =>
 k39 t42 w36) w36 fun t40 w41 =>
 Gd t38 true (fun k43 => Ld t40 w41 fun t46 =>
 k43 t46 w41) w41 fun t44 w45 =>
 Gd t38 true (fun k47 => Fa 2 t3 fun t50 =>
 k47 t50 w45) w45 fun t48 w49 =>
 Gd t38 true (fun k51 => Ld t48 w49 fun t54 =>
 k51 t54 w49) w49 fun t52 w53 =>
 Gd t38 true (fun k55 => Bi .eql t44 t52 fun t58 =>
 k55 t58 w53) w53 fun t56 w57 =>
 Pk t38 t56 (.bool false) fun t59 =>
 Gd t59 true (fun k60 => Fa 3 t1 fun t63 =>
 k60 t63 w57) w57 fun t61 w62 =>
 Gd t59 true (fun k64 => Ld t61 w62 fun t67 =>
 k64 t67 w62) w62 fun t65 w66 =>
 Gd t59 true (fun k68 => Fa 3 t3 fun t71 =>
 k68 t71 w66) w66 fun t69 w70 =>
 Gd t59 true (fun k72 => Ld t69 w70 fun t75 =>
 k72 t75 w70) w70 fun t73 w74 =>
 Gd t59 true (fun k76 => Bi .eql t65 t73 fun t79 =>
 k76 t79 w74) w74 fun t77 w78 =>
 Pk t59 t77 (.bool false) fun t80 =>
 Gd t80 true (fun k81 => Fa 4 t1 fun t84 =>
 k81 t84 w78) w78 fun t82 w83 =>
 Gd t80 true (fun k85 => Ld t82 w83 fun t88 =>
 k85 t88 w83) w83 fun t86 w87 =>
 Gd t80 true (fun k89 => Fa 4 t3 fun t92 =>
 k89 t92 w87) w87 fun t90 w91 =>
 Gd t80 true (fun k93 => Ld t90 w91 fun t96 =>
 k93 t96 w91) w91 fun t94 w95 =>
 Gd t80 true (fun k97 => Bi .eql t86 t94 fun t100 =>
 k97 t100 w95) w95 fun t98 w99 =>
 Pk t80 t98 (.bool false) fun t101 =>
 Gd t101 true (fun k102 => Fa 5 t1 fun t105 =>
 k102 t105 w99) w99 fun t103 w104 =>
 Gd t101 true (fun k106 => Ld t103 w104 fun t109 =>
 k106 t109 w104) w104 fun t107 w108 =>
 Gd t101 true (fun k110 => Fa 5 t3 fun t113 =>
 k110 t113 w108) w108 fun t111 w112 =>
 Gd t101 true (fun k114 => Ld t111 w112 fun t117 =>
 k114 t117 w112) w112 fun t115 w116 =>
 Gd t101 true (fun k118 => Bi .eql t107 t115 fun t121 =>
 k118 t121 w116) w116 fun t119 w120 =>
 Pk t101 t119 (.bool false) fun t122 =>
 Gd t122 true (fun k123 => Fa 6 t1 fun t126 =>
 k123 t126 w120) w120 fun t124 w125 =>
 Gd t122 true (fun k127 => Ld t124 w125 fun t130 =>
 k127 t130 w125) w125 fun t128 w129 =>
 Gd t122 true (fun k131 => Fa 6 t3 fun t134 =>
 k131 t134 w129) w129 fun t132 w133 =>
 Gd t122 true (fun k135 => Ld t132 w133 fun t138 =>
 k135 t138 w133) w133 fun t136 w137 =>
 Gd t122 true (fun k139 => Bi .eql t128 t136 fun t142 =>
 k139 t142 w137) w137 fun t140 w141 =>
 Pk t122 t140 (.bool false) fun t143 =>
 Gd t143 true (fun k144 => Fa 7 t1 fun t147 =>
 k144 t147 w141) w141 fun t145 w146 =>
 Gd t143 true (fun k148 => Ld t145 w146 fun t151 =>
 k148 t151 w146) w146 fun t149 w150 =>
 Gd t143 true (fun k152 => Fa 7 t3 fun t155 =>
 k152 t155 w150) w150 fun t153 w154 =>
 Gd t143 true (fun k156 => Ld t153 w154 fun t159 =>
 k156 t159 w154) w154 fun t157 w158 =>
 Gd t143 true (fun k160 => Bi .eql t149 t157 fun t163 =>
 k160 t163 w158) w158 fun t161 w162 =>
 Pk t143 t161 (.bool false) fun t164 =>
 Gd t164 true (fun k165 => Fa 8 t1 fun t168 =>
 k165 t168 w162) w162 fun t166 w167 =>
 Gd t164 true (fun k169 => Ld t166 w167 fun t172 =>
 k169 t172 w167) w167 fun t170 w171 =>
 Gd t164 true (fun k173 => Fa 8 t3 fun t176 =>
 k173 t176 w171) w171 fun t174 w175 =>
 Gd t164 true (fun k177 => Ld t174 w175 fun t180 =>
 k177 t180 w175) w175 fun t178 w179 =>
 Gd t164 true (fun k181 => Bi .eql t170 t178 fun t184 =>
 k181 t184 w179) w179 fun t182 w183 =>
 Pk t164 t182 (.bool false) fun t185 =>
 Gd t185 true (fun k186 => Fa 9 t1 fun t189 =>
 k186 t189 w183) w183 fun t187 w188 =>
 Gd t185 true (fun k190 => Ld t187 w188 fun t193 =>
 k190 t193 w188) w188 fun t191 w192 =>
 Gd t185 true (fun k194 => Fa 9 t3 fun t197 =>
 k194 t197 w192) w192 fun t195 w196 =>
 Gd t185 true (fun k198 => Ld t195 w196 fun t201 =>
 k198 t201 w196) w196 fun t199 w200 =>
 Gd t185 true (fun k202 => Bi .eql t191 t199 fun t205 =>
 k202 t205 w200) w200 fun t203 w204 =>
 Pk t185 t203 (.bool false) fun t206 =>
 Gd t206 true (fun k207 => Fa 10 t1 fun t210 =>
 k207 t210 w204) w204 fun t208 w209 =>
 Gd t206 true (fun k211 => Ld t208 w209 fun t214 =>
 k211 t214 w209) w209 fun t212 w213 =>
 Gd t206 true (fun k215 => Fa 10 t3 fun t218 =>
 k215 t218 w213) w213 fun t216 w217 =>
 Gd t206 true (fun k219 => Ld t216 w217 fun t222 =>
 k219 t222 w217) w217 fun t220 w221 =>
 Gd t206 true (fun k223 => Bi .eql t212 t220 fun t226 =>
 k223 t226 w221) w221 fun t224 w225 =>
 Pk t206 t224 (.bool false) fun t227 =>
 Gd t227 true (fun k228 => Fa 11 t1 fun t231 =>
 k228 t231 w225) w225 fun t229 w230 =>
 Gd t227 true (fun k232 => Ld t229 w230 fun t235 =>
 k232 t235 w230) w230 fun t233 w234 =>
 Gd t227 true (fun k236 => Fa 11 t3 fun t239 =>
 k236 t239 w234) w234 fun t237 w238 =>
 Gd t227 true (fun k240 => Ld t237 w238 fun t243 =>
 k240 t243 w238) w238 fun t241 w242 =>
 Gd t227 true (fun k244 => Bi .eql t233 t241 fun t247 =>
 k244 t247 w242) w242 fun t245 w246 =>
 Pk t227 t245 (.bool false) fun t248 =>
 Gd t248 true (fun k249 => Fa 12 t1 fun t252 =>
 k249 t252 w246) w246 fun t250 w251 =>
 Gd t248 true (fun k253 => Ld t250 w251 fun t256 =>
 k253 t256 w251) w251 fun t254 w255 =>
 Gd t248 true (fun k257 => Fa 12 t3 fun t260 =>
 k257 t260 w255) w255 fun t258 w259 =>
 Gd t248 true (fun k261 => Ld t258 w259 fun t264 =>
 k261 t264 w259) w259 fun t262 w263 =>
 Gd t248 true (fun k265 => Bi .eql t254 t262 fun t268 =>
 k265 t268 w263) w263 fun t266 w267 =>
 Pk t248 t266 (.bool false) fun t269 =>
 Gd t269 true (fun k270 => Fa 15 t1 fun t273 =>
 k270 t273 w267) w267 fun t271 w272 =>
 Gd t269 true (fun k274 => Ld t271 w272 fun t277 =>
 k274 t277 w272) w272 fun t275 w276 =>
 Gd t269 true (fun k278 => Fa 15 t3 fun t281 =>
 k278 t281 w276) w276 fun t279 w280 =>
 Gd t269 true (fun k282 => Ld t279 w280 fun t285 =>
 k282 t285 w280) w280 fun t283 w284 =>
 Gd t269 true (fun k286 => Bi .eql t275 t283 fun t289 =>
 k286 t289 w284) w284 fun t287 w288 =>
 Pk t269 t287 (.bool false) fun t290 =>
 Gd t290 true (fun k291 => Fa 16 t1 fun t294 =>
 k291 t294 w288) w288 fun t292 w293 =>
 Gd t290 true (fun k295 => LdA PP 10 t292 w293 fun t298 =>
 k295 t298 w293) w293 fun t296 w297 =>
 Gd t290 true (fun k299 => Fa 16 t3 fun t302 =>
 k299 t302 w297) w297 fun t300 w301 =>
 Gd t290 true (fun k303 => LdA PP 10 t300 w301 fun t306 =>
 k303 t306 w301) w301 fun t304 w305 =>
 Gd t290 true (fun k307 => Rd PP (eqS .eql Ty.api_Dir (.tmp 117) (.tmp 119) t296 t304) w305 fun t310 =>
 k307 t310 w305) w305 fun t308 w309 =>
 Pk t290 t308 (.bool false) fun t311 =>
 Gd t311 true (fun k312 => Fa 26 t1 fun t315 =>
 k312 t315 w309) w309 fun t313 w314 =>
 Gd t311 true (fun k316 => Ld t313 w314 fun t319 =>
 k316 t319 w314) w314 fun t317 w318 =>
 Gd t311 true (fun k320 => Fa 26 t3 fun t323 =>
 k320 t323 w318) w318 fun t321 w322 =>
 Gd t311 true (fun k324 => Ld t321 w322 fun t327 =>
 k324 t327 w322) w322 fun t325 w326 =>
 Gd t311 true (fun k328 => Bi .eql t317 t325 fun t331 =>
 k328 t331 w326) w326 fun t329 w330 =>
 Pk t311 t329 (.bool false) fun t332 =>
 J9 [t332] w330)) → J5 [t8] w7) →
 Fa 13 t1 fun t333 =>
 Ld t333 w4 fun t334 =>
 Fa 13 t3 fun t335 =>
 Ld t335 w4 fun t336 =>
 Ca PP Fn.slices_Equal_sl_string_string #[t334, t336] w4 fun t337 w338 =>
 Un .not t337 fun t339 =>
 Gd t339 false (fun k340 => Fa 14 t1 fun t343 =>
 k340 t343 w338) w338 fun t341 w342 =>
 Gd t339 false (fun k344 => Ld t341 w342 fun t347 =>
 k344 t347 w342) w342 fun t345 w346 =>
 Gd t339 false (fun k348 => Fa 14 t3 fun t351 =>
 k348 t351 w346) w346 fun t349 w350 =>
 Gd t339 false (fun k352 => Ld t349 w350 fun t355 =>
 k352 t355 w350) w350 fun t353 w354 =>
 Gd t339 false (fun k356 => Ca PP Fn.slices_Equal_sl_api_Qid_api_Qid #[t345, t353] w354 fun t359 w360 =>
 k356 t359 w360) w354 fun t357 w358 =>
 Gd t339 false (fun k361 => Un .not t357 fun t364 =>
 k361 t364 w358) w358 fun t362 w363 =>
 Pk t339 (.bool true) t362 fun t365 =>
 J5 [t365] w363
def S.law31_Same.an : Ann := (.seq .leaf (.seq (.join .leaf [18] [5,6,7,8,9,10,11,12,13,14,15,16,17] (.cond (.seq .leaf .leaf) .leaf)) (.join .leaf [4] [19,20,21,22,23,24,25,26,27,28,29,30,31,32,33,34,35,36,37,38,39,40,41,42,43,44,45,46,47,48,49,50,51,52,53,54,55,56,57,58,59,60,61,62,63,64,65,66,67,68,69,70,71,72,73,74,75,76,77,78,79,80,81,82,83,84,85,86,87,88,89,90,91,92,93,94,95,96,97,98,99,100,101,102,103,104,105,106,107,108,109,110,111,112,113,114,115,116,117,118,119,120,121,122,123,124,125,126,127,128] .leaf)))
theorem S.law31_Same.eq (a0 a1 : Value) (w : World) (R : Value → World → Prop) : S.law31_Same a0 a1 w R = fnC PP 129 (Tryz.f16.body.getD .skip) S.law31_Same.an [.tmp 4] [a0, a1] w R := by kernel_rfl
theorem S.law31_Same.calls {a0 a1 : Value} {w : World} {R : Value → World → Prop} (h : S.law31_Same a0 a1 w R) : Ca PP Fn.law31_Same #[a0, a1] w R :=
  fnC_calls mixed (f := Fn.law31_Same) (an := S.law31_Same.an) Tryz.func16 rfl (by show _ ≤ _; exact Nat.le_of_ble_eq_true rfl) (S.law31_Same.eq a0 a1 w R ▸ h)
/-- (*acheron/styx.output).dir -/
def S.styx_output_dir (a0 a1 : Value) (w : World) (R : Value → World → Prop) : Prop :=
 Bd #[.slice none 0 0, .bool false, .bool false] [(0, 1), (1, 1), (2, 1)] [] fun t1 =>
 Al Ty.styx_output (t1 : Value).cells w fun t2 w3 =>
 Ca PP Fn.styx_body #[(.iface Ty.p_styx_output t2), a1] w3 fun t4 w5 =>
 ∀ J6 : List Value → World → Prop, (∀ w8 : World, (∀ u7 : Env,
 Nc t2 fun t9 =>
 Fa 0 t9 fun t10 =>
 Ca PP Fn.wire_Writer_Text #[t10] w8 fun t11 w12 =>
 Ca PP Fn.styx_output_sized #[a0, t11, (.int .i64 2)] w12 fun t13 w14 =>
 R (.tuple #[]) w14) → J6 [] w8) →
 Dr w5 fun w15 =>
 Nc a0 fun t16 =>
 Fa 1 t16 fun t17 =>
 Ld t17 w15 fun t18 =>
 Gd t18 false (fun k19 => k19 t2 w15) w15 fun t20 w21 =>
 Gd t18 false (fun k22 => Nc t20 fun t25 =>
 k22 t25 w21) w21 fun t23 w24 =>
 Gd t18 false (fun k26 => Fa 1 t23 fun t29 =>
 k26 t29 w24) w24 fun t27 w28 =>
 Gd t18 false (fun k30 => Ld t27 w28 fun t33 =>
 k30 t33 w28) w28 fun t31 w32 =>
 Pk t18 (.bool true) t31 fun t34 =>
 Nc a0 fun t35 =>
 Fa 2 t35 fun t36 =>
 Ld t36 w32 fun t37 =>
 Gd t37 false (fun k38 => k38 t2 w32) w32 fun t39 w40 =>
 Gd t37 false (fun k41 => Nc t39 fun t44 =>
 k41 t44 w40) w40 fun t42 w43 =>
 Gd t37 false (fun k45 => Fa 2 t42 fun t48 =>
 k45 t48 w43) w43 fun t46 w47 =>
 Gd t37 false (fun k49 => Ld t46 w47 fun t52 =>
 k49 t52 w47) w47 fun t50 w51 =>
 Pk t37 (.bool true) t50 fun t53 =>
 Gd t53 false (fun k54 => k54 t2 w51) w51 fun t55 w56 =>
 Gd t53 false (fun k57 => Nc t55 fun t60 =>
 k57 t60 w56) w56 fun t58 w59 =>
 Gd t53 false (fun k61 => Fa 0 t58 fun t64 =>
 k61 t64 w59) w59 fun t62 w63 =>
 Gd t53 false (fun k65 => Ca PP Fn.wire_Writer_Len #[t62] w63 fun t68 w69 =>
 k65 t68 w69) w63 fun t66 w67 =>
 (Gd t18 false (fun k70 => Ld t27 w67 fun t73 =>
 k70 t73 w67) w67 fun t71 w72 =>
 t71 = t31) ∧
 Gd t53 false (fun k74 => Bi .add t66 (.int .i64 2) fun t77 =>
 k74 t77 w67) w67 fun t75 w76 =>
 Gd t53 false (fun k78 => Bi .gtr t75 (.int .i64 1024) fun t81 =>
 k78 t81 w76) w76 fun t79 w80 =>
 Pk t53 (.bool true) t79 fun t82 =>
 Nc a0 fun t83 =>
 Fa 1 t83 fun t84 =>
 St PP 1 t84 t34 w80 fun w85 =>
 Nc a0 fun t86 =>
 Fa 2 t86 fun t87 =>
 St PP 1 t87 t82 w85 fun w88 =>
 J6 [] w88
def S.styx_output_dir.an : Ann := (.seq .leaf (.seq .leaf (.join (.draw [[],[],[],[2],[2,3],[2,3,4],[2,3,4,5],[2,3,4,5,6],[2,3,4,5,6,7],[2,3,4,5,6,7,8],[2,3,4,5,6,7,8,9],[2,3,4,5,6,7,8,9,10],[],[12],[12,13],[12,13,14],[2,3,4,5,6,12,13,14,15],[2,3,4,5,6,12,13,14,15,16],[2,3,4,5,6,12,13,14,15,16,17],[2,3,4,5,6,12,13,14,15,16,17,18],[2,3,4,5,6,12,13,14,15,16,17,18,19],[2,3,4,5,6,12,13,14,15,16,17,18,19,20],[2,3,4,5,6,12,13,14,15,16,17,18,19,20,21],[2,3,4,5,6,12,13,14,15,16,17,18,19,20,21,22],[2,3,4,5,6,12,13,14,15,16,17,18,19,20,21,22,23],[2,3,4,5,6,12,13,14,15,16,17,18,19,20,21,22,23,24],[2,3,4,5,6,12,13,14,15,16,17,18,19,20,21,22,23,24,25],[2,3,4,5,6,12,13,14,15,16,17,18,19,20,21,22,23,24,25,26],[2,3,4,5,6,12,13,14,15,16,17,18,19,20,21,22,23,24,25,26,27],[2,3,4,5,6,12,13,14,15,16,17,18,19,20,21,22,23,24,25,26,27,28],[0,2,3,4,5,6,7,8,9,10,11,12,13,14,15,16,17,18,19,20,21,22,23,24,25,26],[0,2,3,4,5,6,7,8,9,10,11,12,13,14,15,16,17,18,19,20,21,22,23,24,25,26,30],[0,2,3,4,5,6,7,8,9,10,11,12,13,14,15,16,17,18,19,20,21,22,23,24,25,26,30,31],[0,1,2,3,4,5,6,7,8,9,10,11,12,13,14,15,16,17,18,19,20,21,22,23,24,25,26,27,28,29,30,31,32],[0,1,2,3,4,5,6,7,8,9,10,11,12,13,14,15,16,17,18,19,20,21,22,23,24,25,26,27,28,29,30,31,32,33],[0,1,2,3,4,5,6,7,8,9,10,11,12,13,14,15,16,17,18,19,20,21,22,23,24,25,26,27,28,29,30,31,32,33,34]] (.calm 0 (.calm 1 (.calm 2 (.calm 3 (.calm 4 (.calm 5 (.calm 6 (.calm 7 (.calm 8 (.calm 9 (.calm 10 (.calm 11 (.calm 12 (.calm 13 (.calm 14 (.calm 15 (.calm 16 (.calm 17 (.calm 18 (.calm 19 (.calm 20 (.calm 21 (.calm 22 (.calm 23 (.calm 24 (.calm 25 (.eff1 26 [10] (.calm 27 (.calm 28 (.calm 29 (.calm 30 (.calm 31 (.eff1 32 [] (.calm 33 (.calm 34 (.eff1 35 [] .done))))))))))))))))))))))))))))))))))))) [] [11,12,13,14,15,16,17,18,19,20,21,22,23,24,25,26,27,28,29,30,31,32,33,34,35,36,37,38,39,40,41,42,43,44] .leaf)))
theorem S.styx_output_dir.eq (a0 a1 : Value) (w : World) (R : Value → World → Prop) : S.styx_output_dir a0 a1 w R = fnC PP 51 (Tryz.f17.body.getD .skip) S.styx_output_dir.an [] [a0, a1] w R := by kernel_rfl
theorem S.styx_output_dir.calls {a0 a1 : Value} {w : World} {R : Value → World → Prop} (h : S.styx_output_dir a0 a1 w R) : Ca PP Fn.styx_output_dir #[a0, a1] w R :=
  fnC_calls mixed (f := Fn.styx_output_dir) (an := S.styx_output_dir.an) Tryz.func17 rfl (by show _ ≤ _; exact Nat.le_of_ble_eq_true rfl) (S.styx_output_dir.eq a0 a1 w R ▸ h)
/-- (*acheron/styx.output).err -/
def S.styx_output_err (a0 : Value) (w : World) (R : Value → World → Prop) : Prop :=
 Nc a0 fun t1 =>
 Fa 1 t1 fun t2 =>
 Ld t2 w fun t3 =>
 Cnd t3 (
 R (.int .i64 11) w) (
 Nc a0 fun t4 =>
 Fa 2 t4 fun t5 =>
 Ld t5 w fun t6 =>
 Cnd t6 (
 R (.int .i64 3) w) (
 R (.int .i64 0) w))
def S.styx_output_err.an : Ann := (.seq .leaf (.seq (.block (.seq .leaf (.cond (.seq .leaf .leaf) (.seq .leaf (.cond (.seq .leaf .leaf) .leaf))))) (.seq .leaf .leaf)))
theorem S.styx_output_err.eq (a0 : Value) (w : World) (R : Value → World → Prop) : S.styx_output_err a0 w R = fnC PP 13 (Tryz.f18.body.getD .skip) S.styx_output_err.an [.tmp 2] [a0] w R := by kernel_rfl
theorem S.styx_output_err.calls {a0 : Value} {w : World} {R : Value → World → Prop} (h : S.styx_output_err a0 w R) : Ca PP Fn.styx_output_err #[a0] w R :=
  fnC_calls mixed (f := Fn.styx_output_err) (an := S.styx_output_err.an) Tryz.func18 rfl (by show _ ≤ _; exact Nat.le_of_ble_eq_true rfl) (S.styx_output_err.eq a0 w R ▸ h)
/-- (*acheron/wire.Writer).Text -/
def S.wire_Writer_Text (a0 : Value) (w : World) (R : Value → World → Prop) : Prop :=
 Rd PP (eqS .eql Ty.p_wire_Writer (.tmp 3) (.const (.pointer none)) a0 (.pointer none)) w fun t1 =>
 Cnd t1 (
 R (.string ⟨#[]⟩) w) (
 Nc a0 fun t2 =>
 Fa 0 t2 fun t3 =>
 Ld t3 w fun t4 =>
 Rd PP (convert Ty.sl_uint8 Ty.string t4) w fun t5 =>
 R t5 w)
def S.wire_Writer_Text.an : Ann := (.seq .leaf (.seq (.seq .leaf (.cond (.seq .leaf .leaf) .leaf)) (.seq .leaf .leaf)))
theorem S.wire_Writer_Text.eq (a0 : Value) (w : World) (R : Value → World → Prop) : S.wire_Writer_Text a0 w R = fnC PP 10 (Tryz.f19.body.getD .skip) S.wire_Writer_Text.an [.tmp 2] [a0] w R := by kernel_rfl
theorem S.wire_Writer_Text.calls {a0 : Value} {w : World} {R : Value → World → Prop} (h : S.wire_Writer_Text a0 w R) : Ca PP Fn.wire_Writer_Text #[a0] w R :=
  fnC_calls mixed (f := Fn.wire_Writer_Text) (an := S.wire_Writer_Text.an) Tryz.func19 rfl (by show _ ≤ _; exact Nat.le_of_ble_eq_true rfl) (S.wire_Writer_Text.eq a0 w R ▸ h)
/-- acheron/acheronref31.CheckDir -/
def S.r31_CheckDir (a0 : Value) (w : World) (R : Value → World → Prop) : Prop :=
 Al Ty.api_Dir (a0 : Value).cells w fun t1 w2 =>
 LdA PP 10 t1 w2 fun t3 =>
 Ca PP Fn.r31_rightDir #[t3] w2 fun t4 w5 =>
 Un .not t4 fun t6 =>
 Cnd t6 (
 R (.int .i64 11) w5) (
 LdA PP 10 t1 w5 fun t7 =>
 Ca PP Fn.r31_dirBytes #[t7] w5 fun t8 w9 =>
 Bi .gtr t8 (.int .i64 1024) fun t10 =>
 Cnd t10 (
 R (.int .i64 3) w9) (
 R (.int .i64 0) w9))
def S.r31_CheckDir.an : Ann := (.seq .leaf (.seq (.seq .leaf (.cond (.seq .leaf .leaf) .leaf)) (.seq (.seq .leaf (.cond (.seq .leaf .leaf) .leaf)) (.seq .leaf .leaf))))
theorem S.r31_CheckDir.eq (a0 : Value) (w : World) (R : Value → World → Prop) : S.r31_CheckDir a0 w R = fnC PP 9 (Tryz.f20.body.getD .skip) S.r31_CheckDir.an [.tmp 2] [a0] w R := by kernel_rfl
theorem S.r31_CheckDir.calls {a0 : Value} {w : World} {R : Value → World → Prop} (h : S.r31_CheckDir a0 w R) : Ca PP Fn.r31_CheckDir #[a0] w R :=
  fnC_calls mixed (f := Fn.r31_CheckDir) (an := S.r31_CheckDir.an) Tryz.func20 rfl (by show _ ≤ _; exact Nat.le_of_ble_eq_true rfl) (S.r31_CheckDir.eq a0 w R ▸ h)
/-- acheron/acheronref31.dir -/
def S.r31_dir (a0 : Value) (w : World) (R : Value → World → Prop) : Prop :=
 Al Ty.api_Dir (a0 : Value).cells w fun t1 w2 =>
 Dr w2 fun w3 =>
 Fa 0 t1 fun t4 =>
 LdA PP 3 t4 w3 fun t5 =>
 Fa 3 t1 fun t6 =>
 Ld t6 w3 fun t7 =>
 Fa 4 t1 fun t8 =>
 Ld t8 w3 fun t9 =>
 Fa 5 t1 fun t10 =>
 Ld t10 w3 fun t11 =>
 Fa 6 t1 fun t12 =>
 Ld t12 w3 fun t13 =>
 Fa 7 t1 fun t14 =>
 Ld t14 w3 fun t15 =>
 Fa 8 t1 fun t16 =>
 Ld t16 w3 fun t17 =>
 Fa 9 t1 fun t18 =>
 Ld t18 w3 fun t19 =>
 Ca PP Fn.r31_qid #[t5] w3 fun t20 w21 =>
 (Ld t6 w21 fun t22 =>
 t22 = t7) ∧
 (Ld t8 w21 fun t23 =>
 t23 = t9) ∧
 (Ld t10 w21 fun t24 =>
 t24 = t11) ∧
 (Ld t12 w21 fun t25 =>
 t25 = t13) ∧
 (Ld t14 w21 fun t26 =>
 t26 = t15) ∧
 (Ld t16 w21 fun t27 =>
 t27 = t17) ∧
 (Ld t18 w21 fun t28 =>
 t28 = t19) ∧
 Ca PP Fn.r31_number #[t7, (.int .i64 4)] w21 fun t29 w30 =>
 (Ld t8 w30 fun t31 =>
 t31 = t9) ∧
 (Ld t10 w30 fun t32 =>
 t32 = t11) ∧
 (Ld t12 w30 fun t33 =>
 t33 = t13) ∧
 (Ld t14 w30 fun t34 =>
 t34 = t15) ∧
 (Ld t16 w30 fun t35 =>
 t35 = t17) ∧
 (Ld t18 w30 fun t36 =>
 t36 = t19) ∧
 Bi .add t20 t29 fun t37 =>
 Ca PP Fn.r31_number #[t9, (.int .i64 8)] w30 fun t38 w39 =>
 (Ld t10 w39 fun t40 =>
 t40 = t11) ∧
 (Ld t12 w39 fun t41 =>
 t41 = t13) ∧
 (Ld t14 w39 fun t42 =>
 t42 = t15) ∧
 (Ld t16 w39 fun t43 =>
 t43 = t17) ∧
 (Ld t18 w39 fun t44 =>
 t44 = t19) ∧
 Bi .add t37 t38 fun t45 =>
 Ca PP Fn.r31_number #[t11, (.int .i64 8)] w39 fun t46 w47 =>
 (Ld t12 w47 fun t48 =>
 t48 = t13) ∧
 (Ld t14 w47 fun t49 =>
 t49 = t15) ∧
 (Ld t16 w47 fun t50 =>
 t50 = t17) ∧
 (Ld t18 w47 fun t51 =>
 t51 = t19) ∧
 Bi .add t45 t46 fun t52 =>
 Ca PP Fn.r31_word #[t13] w47 fun t53 w54 =>
 (Ld t14 w54 fun t55 =>
 t55 = t15) ∧
 (Ld t16 w54 fun t56 =>
 t56 = t17) ∧
 (Ld t18 w54 fun t57 =>
 t57 = t19) ∧
 Bi .add t52 t53 fun t58 =>
 Ca PP Fn.r31_word #[t15] w54 fun t59 w60 =>
 (Ld t16 w60 fun t61 =>
 t61 = t17) ∧
 (Ld t18 w60 fun t62 =>
 t62 = t19) ∧
 Bi .add t58 t59 fun t63 =>
 Ca PP Fn.r31_word #[t17] w60 fun t64 w65 =>
 (Ld t18 w65 fun t66 =>
 t66 = t19) ∧
 Bi .add t63 t64 fun t67 =>
 Ca PP Fn.r31_word #[t19] w65 fun t68 w69 =>
 Bi .add t67 t68 fun t70 =>
 LnS t70 fun t71 =>
 Ca PP Fn.r31_number #[t71, (.int .i64 2)] w69 fun t72 w73 =>
 Bi .add t72 t70 fun t74 =>
 R t74 w73
def S.r31_dir.an : Ann := (.seq .leaf (.seq (.draw [[],[0],[0,1],[],[3],[0,1,2,3,4],[0,1,2,3,4,5],[],[7],[0,1,2,3,4,5,7,8],[0,1,2,3,4,5,6,7,8,9],[],[11],[0,1,2,3,4,5,7,8,9,11,12],[0,1,2,3,4,5,6,7,8,9,10,11,12,13],[],[15],[0,1,2,3,4,5,7,8,9,11,12,13,15,16],[0,1,2,3,4,5,6,7,8,9,10,11,12,13,14,15,16,17],[],[19],[0,1,2,3,4,5,7,8,9,11,12,13,15,16,17,19,20],[0,1,2,3,4,5,6,7,8,9,10,11,12,13,14,15,16,17,18,19,20,21],[],[23],[0,1,2,3,4,5,7,8,9,11,12,13,15,16,17,19,20,21,23,24],[0,1,2,3,4,5,6,7,8,9,10,11,12,13,14,15,16,17,18,19,20,21,22,23,24,25],[],[27],[0,1,2,3,4,5,7,8,9,11,12,13,15,16,17,19,20,21,23,24,25,27,28],[0,1,2,3,4,5,6,7,8,9,10,11,12,13,14,15,16,17,18,19,20,21,22,23,24,25,26,27,28,29],[0,1,2,3,4,5,6,7,8,9,10,11,12,13,14,15,16,17,18,19,20,21,22,23,24,25,26,27,28,29,30]] (.calm 0 (.calm 1 (.calm 3 (.calm 4 (.calm 7 (.calm 8 (.calm 11 (.calm 12 (.calm 15 (.calm 16 (.calm 19 (.calm 20 (.calm 23 (.calm 24 (.calm 27 (.calm 28 (.eff1 2 [4,8,12,16,20,24,28] (.eff1 5 [8,12,16,20,24,28] (.calm 6 (.eff1 9 [12,16,20,24,28] (.calm 10 (.eff1 13 [16,20,24,28] (.calm 14 (.eff1 17 [20,24,28] (.calm 18 (.eff1 21 [24,28] (.calm 22 (.eff1 25 [28] (.calm 26 (.eff1 29 [] (.calm 30 (.calm 31 .done))))))))))))))))))))))))))))))))) (.seq .leaf .leaf)))
theorem S.r31_dir.eq (a0 : Value) (w : World) (R : Value → World → Prop) : S.r31_dir a0 w R = fnC PP 40 (Tryz.f21.body.getD .skip) S.r31_dir.an [.tmp 2] [a0] w R := by kernel_rfl
theorem S.r31_dir.calls {a0 : Value} {w : World} {R : Value → World → Prop} (h : S.r31_dir a0 w R) : Ca PP Fn.r31_dir #[a0] w R :=
  fnC_calls mixed (f := Fn.r31_dir) (an := S.r31_dir.an) Tryz.func21 rfl (by show _ ≤ _; exact Nat.le_of_ble_eq_true rfl) (S.r31_dir.eq a0 w R ▸ h)
/-- acheron/wire.NewReader -/
def S.wire_NewReader (a0 : Value) (w : World) (R : Value → World → Prop) : Prop :=
 Bd #[.string ⟨#[]⟩, .int .i64 0, .int .i64 0] [(0, 1), (1, 1), (2, 1)] [(0, a0)] fun t1 =>
 Al Ty.wire_Reader (t1 : Value).cells w fun t2 w3 =>
 R t2 w3
def S.wire_NewReader.an : Ann := (.seq .leaf (.seq .leaf .leaf))
theorem S.wire_NewReader.eq (a0 : Value) (w : World) (R : Value → World → Prop) : S.wire_NewReader a0 w R = fnC PP 6 (Tryz.f22.body.getD .skip) S.wire_NewReader.an [.tmp 2] [a0] w R := by kernel_rfl
theorem S.wire_NewReader.calls {a0 : Value} {w : World} {R : Value → World → Prop} (h : S.wire_NewReader a0 w R) : Ca PP Fn.wire_NewReader #[a0] w R :=
  fnC_calls mixed (f := Fn.wire_NewReader) (an := S.wire_NewReader.an) Tryz.func22 rfl (by show _ ≤ _; exact Nat.le_of_ble_eq_true rfl) (S.wire_NewReader.eq a0 w R ▸ h)
/-- (*acheron/wire.Reader).Little -/
def S.wire_Reader_Little (a0 a1 : Value) (w : World) (R : Value → World → Prop) : Prop :=
 Al Ty.p_wire_Reader (a0 : Value).cells w fun t1 w2 =>
 Al Ty.int (a1 : Value).cells w2 fun t3 w4 =>
 Ld t1 w4 fun t5 =>
 Ca PP Fn.wire_reading_int64 #[t5, (.func (.func Fn.wire_Reader_Little_1) #[] #[t1, t3])] w4 fun t6 w7 =>
 Ex t6 0 fun t8 =>
 Ex t6 1 fun t9 =>
 R (.tuple #[t8, t9]) w7
def S.wire_Reader_Little.an : Ann := (.seq .leaf (.seq .leaf .leaf))
theorem S.wire_Reader_Little.eq (a0 a1 : Value) (w : World) (R : Value → World → Prop) : S.wire_Reader_Little a0 a1 w R = fnC PP 11 (Tryz.f23.body.getD .skip) S.wire_Reader_Little.an [.tmp 4, .tmp 5] [a0, a1] w R := by kernel_rfl
theorem S.wire_Reader_Little.calls {a0 a1 : Value} {w : World} {R : Value → World → Prop} (h : S.wire_Reader_Little a0 a1 w R) : Ca PP Fn.wire_Reader_Little #[a0, a1] w R :=
  fnC_calls mixed (f := Fn.wire_Reader_Little) (an := S.wire_Reader_Little.an) Tryz.func23 rfl (by show _ ≤ _; exact Nat.le_of_ble_eq_true rfl) (S.wire_Reader_Little.eq a0 a1 w R ▸ h)
/-- acheron/styx.body -/
def S.styx_body (a0 a1 : Value) (w : World) (R : Value → World → Prop) : Prop :=
 Nc a1 fun t1 =>
 Fa 0 t1 fun t2 =>
 Ca PP Fn.styx_qid #[a0, t2] w fun t3 w4 =>
 Dr w4 fun w5 =>
 Nc a1 fun t6 =>
 Fa 3 t6 fun t7 =>
 NcF PP (.func (.method "acheron/styx.mode") #[a0] #[]) fun t8 =>
 Iv PP a0 "acheron/styx.mode" #[t7] w5 fun t9 w10 =>
 Dr w10 fun w11 =>
 Nc a1 fun t12 =>
 Fa 4 t12 fun t13 =>
 NcF PP (.func (.method "acheron/styx.optional") #[a0] #[]) fun t14 =>
 Iv PP a0 "acheron/styx.optional" #[t13] w11 fun t15 w16 =>
 Dr w16 fun w17 =>
 Nc a1 fun t18 =>
 Fa 5 t18 fun t19 =>
 NcF PP (.func (.method "acheron/styx.optional") #[a0] #[]) fun t20 =>
 Iv PP a0 "acheron/styx.optional" #[t19] w17 fun t21 w22 =>
 Dr w22 fun w23 =>
 Nc a1 fun t24 =>
 Fa 6 t24 fun t25 =>
 Nc a1 fun t26 =>
 Fa 7 t26 fun t27 =>
 Nc a1 fun t28 =>
 Fa 8 t28 fun t29 =>
 Nc a1 fun t30 =>
 Fa 9 t30 fun t31 =>
 Ef PP (Instr.buildSlice Ty.sl_p_string 4 #[(0, t25), (1, t27), (2, t29), (3, t31)]) w23 fun t32 w33 =>
 LnL t32 fun t34 =>
 ∃ (I35 : List Value → World → Prop) (m36 : List Value → World → Nat), I35 [(.int .i64 0)] w33 ∧ ∀ t39, ∀ (u37 : Env) (w38 : World), I35 [t39] w38 →
 Bi .lss t39 t34 fun t40 =>
 Cnd t40 (
 IxA 1 t32 t39 fun t41 =>
 Ld t41 w38 fun t42 =>
 Iv PP a0 "acheron/styx.text" #[t42] w38 fun t43 w44 =>
 Bi .add t39 (.int .i64 1) fun t45 =>
 I35 [t45] w44 ∧ m36 [t45] w44 < m36 [t39] w38) (
 R (.tuple #[]) w38)
def S.styx_body.an : Ann := (.seq .leaf (.seq (.draw [[],[],[1],[1,2],[0],[0,4],[0,4,5],[0,1,2,3,4,5,6]] (.calm 0 (.calm 1 (.calm 2 (.calm 3 (.calm 4 (.calm 5 (.calm 6 (.eff1 7 [] .done))))))))) (.seq (.draw [[],[],[1],[1,2],[0],[0,4],[0,4,5],[0,1,2,3,4,5,6]] (.calm 0 (.calm 1 (.calm 2 (.calm 3 (.calm 4 (.calm 5 (.calm 6 (.eff1 7 [] .done))))))))) (.seq (.draw [[],[],[1],[1,2],[0],[0,4],[0,4,5],[0,1,2,3,4,5,6]] (.calm 0 (.calm 1 (.calm 2 (.calm 3 (.calm 4 (.calm 5 (.calm 6 (.eff1 7 [] .done))))))))) (.seq (.draw [[],[0],[0,1],[],[3],[3,4],[],[6],[6,7],[],[9],[9,10],[0,1,2,3,4,5,6,7,8,9,10,11],[0,1,2,3,4,5,6,7,8,9,10,11,12],[]] (.calm 0 (.calm 1 (.calm 2 (.calm 3 (.calm 4 (.calm 5 (.calm 6 (.calm 7 (.calm 8 (.calm 9 (.calm 10 (.calm 11 (.calm 14 (.eff1 12 [] (.calm 13 .done)))))))))))))))) (.block (.loop (.seq .leaf (.seq (.cond .leaf .leaf) (.seq (.block (.seq .leaf .leaf)) .leaf))) [49] [5,50,51,52,53,54,55,56])))))))
theorem S.styx_body.eq (a0 a1 : Value) (w : World) (R : Value → World → Prop) : S.styx_body a0 a1 w R = fnC PP 57 (Tryz.f24.body.getD .skip) S.styx_body.an [] [a0, a1] w R := by kernel_rfl
theorem S.styx_body.calls {a0 a1 : Value} {w : World} {R : Value → World → Prop} (h : S.styx_body a0 a1 w R) : Ca PP Fn.styx_body #[a0, a1] w R :=
  fnC_calls mixed (f := Fn.styx_body) (an := S.styx_body.an) Tryz.func24 rfl (by show _ ≤ _; exact Nat.le_of_ble_eq_true rfl) (S.styx_body.eq a0 a1 w R ▸ h)
/-- (*acheron/styx.input).finish -/
def S.styx_input_finish (a0 : Value) (w : World) (R : Value → World → Prop) : Prop :=
 Nc a0 fun t1 =>
 Fa 0 t1 fun t2 =>
 Ld t2 w fun t3 =>
 Ca PP Fn.wire_Reader_End #[t3] w fun t4 w5 =>
 Bi .neq t4 (.int .i64 0) fun t6 =>
 Gd t6 false (fun k7 => k7 a0 w5) w5 fun t8 w9 =>
 Gd t6 false (fun k10 => Nc t8 fun t13 =>
 k10 t13 w9) w9 fun t11 w12 =>
 Gd t6 false (fun k14 => Fa 3 t11 fun t17 =>
 k14 t17 w12) w12 fun t15 w16 =>
 Gd t6 false (fun k18 => Ld t15 w16 fun t21 =>
 k18 t21 w16) w16 fun t19 w20 =>
 Pk t6 (.bool true) t19 fun t22 =>
 Nc a0 fun t23 =>
 Fa 3 t23 fun t24 =>
 St PP 1 t24 t22 w20 fun w25 =>
 R (.tuple #[]) w25
def S.styx_input_finish.an : Ann := .leaf
theorem S.styx_input_finish.eq (a0 : Value) (w : World) (R : Value → World → Prop) : S.styx_input_finish a0 w R = fnC PP 17 (Tryz.f25.body.getD .skip) S.styx_input_finish.an [] [a0] w R := by kernel_rfl
theorem S.styx_input_finish.calls {a0 : Value} {w : World} {R : Value → World → Prop} (h : S.styx_input_finish a0 w R) : Ca PP Fn.styx_input_finish #[a0] w R :=
  fnC_calls mixed (f := Fn.styx_input_finish) (an := S.styx_input_finish.an) Tryz.func25 rfl (by show _ ≤ _; exact Nat.le_of_ble_eq_true rfl) (S.styx_input_finish.eq a0 w R ▸ h)
/-- (*acheron/styx.input).err -/
def S.styx_input_err (a0 : Value) (w : World) (R : Value → World → Prop) : Prop :=
 Nc a0 fun t1 =>
 Fa 3 t1 fun t2 =>
 Ld t2 w fun t3 =>
 Cnd t3 (
 R (.int .i64 2) w) (
 Nc a0 fun t4 =>
 Fa 1 t4 fun t5 =>
 Ld t5 w fun t6 =>
 Cnd t6 (
 R (.int .i64 11) w) (
 Nc a0 fun t7 =>
 Fa 2 t7 fun t8 =>
 Ld t8 w fun t9 =>
 Cnd t9 (
 R (.int .i64 3) w) (
 R (.int .i64 0) w)))
def S.styx_input_err.an : Ann := (.seq .leaf (.seq (.block (.seq .leaf (.cond (.seq .leaf .leaf) (.seq .leaf (.cond (.seq .leaf .leaf) (.seq .leaf (.cond (.seq .leaf .leaf) .leaf))))))) (.seq .leaf .leaf)))
theorem S.styx_input_err.eq (a0 : Value) (w : World) (R : Value → World → Prop) : S.styx_input_err a0 w R = fnC PP 18 (Tryz.f26.body.getD .skip) S.styx_input_err.an [.tmp 2] [a0] w R := by kernel_rfl
theorem S.styx_input_err.calls {a0 : Value} {w : World} {R : Value → World → Prop} (h : S.styx_input_err a0 w R) : Ca PP Fn.styx_input_err #[a0] w R :=
  fnC_calls mixed (f := Fn.styx_input_err) (an := S.styx_input_err.an) Tryz.func26 rfl (by show _ ≤ _; exact Nat.le_of_ble_eq_true rfl) (S.styx_input_err.eq a0 w R ▸ h)
/-- acheron/acheronref31.value -/
def S.r31_value (a0 : Value) (w : World) (R : Value → World → Prop) : Prop :=
 LnS a0 fun t1 =>
 Bi .sub t1 (.int .i64 1) fun t2 =>
 ∃ (I3 : List Value → World → Prop) (m4 : List Value → World → Nat), I3 [(.int .u64 0), t2] w ∧ ∀ t7 t8, ∀ (u5 : Env) (w6 : World), I3 [t7, t8] w6 →
 Bi .geq t8 (.int .i64 0) fun t9 =>
 Cnd t9 (
 Bi .shl t7 (.int .u64 8) fun t10 =>
 IxS a0 t8 fun t11 =>
 Cv .u64 t11 fun t12 =>
 Bi .or t10 t12 fun t13 =>
 Bi .sub t8 (.int .i64 1) fun t14 =>
 I3 [t13, t14] w6 ∧ m4 [t13, t14] w6 < m4 [t7, t8] w6) (
 R t7 w6)
def S.r31_value.an : Ann := (.seq .leaf (.seq .leaf (.seq (.seq .leaf (.block (.loop (.seq (.seq .leaf (.cond .leaf .leaf)) (.seq (.block .leaf) .leaf)) [3,4] [8,9,10,11,12,13,14,15,16,17,18]))) (.seq .leaf .leaf))))
theorem S.r31_value.eq (a0 : Value) (w : World) (R : Value → World → Prop) : S.r31_value a0 w R = fnC PP 20 (Tryz.f27.body.getD .skip) S.r31_value.an [.tmp 2] [a0] w R := by kernel_rfl
theorem S.r31_value.calls {a0 : Value} {w : World} {R : Value → World → Prop} (h : S.r31_value a0 w R) : Ca PP Fn.r31_value #[a0] w R :=
  fnC_calls mixed (f := Fn.r31_value) (an := S.r31_value.an) Tryz.func27 rfl (by show _ ≤ _; exact Nat.le_of_ble_eq_true rfl) (S.r31_value.eq a0 w R ▸ h)
/-- acheron/acheronref31.readDir -/
def S.r31_readDir (a0 : Value) (w : World) (R : Value → World → Prop) : Prop :=
 Al Ty.r31_reader (a0 : Value).cells w fun t1 w2 =>
 Al Ty.api_Dir #[.int .i64 0, .int .i64 0, .int .i64 0, .int .i64 0, .int .i64 0, .int .i64 0, .string ⟨#[]⟩, .string ⟨#[]⟩, .string ⟨#[]⟩, .string ⟨#[]⟩] w2 fun t3 w4 =>
 Al Ty.r31_reader #[.string ⟨#[]⟩, .int .i64 0, .bool false] w4 fun t5 w6 =>
 LdA PP 3 t1 w6 fun t7 =>
 Ca PP Fn.r31_readNumber #[t7, (.int .i64 2)] w6 fun t8 w9 =>
 Ex t8 0 fun t10 =>
 Ex t8 1 fun t11 =>
 St PP 3 t1 t11 w9 fun w12 =>
 LdA PP 3 t1 w12 fun t13 =>
 Ca PP Fn.r31_take #[t13, t10] w12 fun t14 w15 =>
 Ex t14 0 fun t16 =>
 Ex t14 1 fun t17 =>
 St PP 3 t1 t17 w15 fun w18 =>
 Bd #[.string ⟨#[]⟩, .int .i64 0, .bool false] [(0, 1), (1, 1), (2, 1)] [(0, t16)] fun t19 =>
 Al Ty.r31_reader #[.string ⟨#[]⟩, .int .i64 0, .bool false] w18 fun t20 w21 =>
 St PP 3 t20 t19 w21 fun w22 =>
 Bd #[.int .i64 0, .int .i64 0, .int .i64 0, .int .i64 0, .int .i64 0, .int .i64 0, .string ⟨#[]⟩, .string ⟨#[]⟩, .string ⟨#[]⟩, .string ⟨#[]⟩] [(0, 3), (3, 1), (4, 1), (5, 1), (6, 1), (7, 1), (8, 1), (9, 1)] [] fun t23 =>
 Al Ty.api_Dir #[.int .i64 0, .int .i64 0, .int .i64 0, .int .i64 0, .int .i64 0, .int .i64 0, .string ⟨#[]⟩, .string ⟨#[]⟩, .string ⟨#[]⟩, .string ⟨#[]⟩] w22 fun t24 w25 =>
 St PP 10 t24 t23 w25 fun w26 =>
 LdA PP 3 t20 w26 fun t27 =>
 Ca PP Fn.r31_readQid #[t27] w26 fun t28 w29 =>
 Ex t28 0 fun t30 =>
 Ex t28 1 fun t31 =>
 Fa 0 t24 fun t32 =>
 St PP 3 t32 t30 w29 fun w33 =>
 St PP 3 t20 t31 w33 fun w34 =>
 LdA PP 3 t20 w34 fun t35 =>
 Ca PP Fn.r31_readNumber #[t35, (.int .i64 4)] w34 fun t36 w37 =>
 Ex t36 0 fun t38 =>
 Ex t36 1 fun t39 =>
 Fa 3 t24 fun t40 =>
 St PP 1 t40 t38 w37 fun w41 =>
 St PP 3 t20 t39 w41 fun w42 =>
 LdA PP 3 t20 w42 fun t43 =>
 Ca PP Fn.r31_readLong #[t43] w42 fun t44 w45 =>
 Ex t44 0 fun t46 =>
 Ex t44 1 fun t47 =>
 Fa 4 t24 fun t48 =>
 St PP 1 t48 t46 w45 fun w49 =>
 St PP 3 t20 t47 w49 fun w50 =>
 LdA PP 3 t20 w50 fun t51 =>
 Ca PP Fn.r31_readLong #[t51] w50 fun t52 w53 =>
 Ex t52 0 fun t54 =>
 Ex t52 1 fun t55 =>
 Fa 5 t24 fun t56 =>
 St PP 1 t56 t54 w53 fun w57 =>
 St PP 3 t20 t55 w57 fun w58 =>
 LdA PP 3 t20 w58 fun t59 =>
 Ca PP Fn.r31_readWord #[t59] w58 fun t60 w61 =>
 Ex t60 0 fun t62 =>
 Ex t60 1 fun t63 =>
 Fa 6 t24 fun t64 =>
 St PP 1 t64 t62 w61 fun w65 =>
 St PP 3 t20 t63 w65 fun w66 =>
 LdA PP 3 t20 w66 fun t67 =>
 Ca PP Fn.r31_readWord #[t67] w66 fun t68 w69 =>
 Ex t68 0 fun t70 =>
 Ex t68 1 fun t71 =>
 Fa 7 t24 fun t72 =>
 St PP 1 t72 t70 w69 fun w73 =>
 St PP 3 t20 t71 w73 fun w74 =>
 LdA PP 3 t20 w74 fun t75 =>
 Ca PP Fn.r31_readWord #[t75] w74 fun t76 w77 =>
 Ex t76 0 fun t78 =>
 Ex t76 1 fun t79 =>
 Fa 8 t24 fun t80 =>
 St PP 1 t80 t78 w77 fun w81 =>
 St PP 3 t20 t79 w81 fun w82 =>
 LdA PP 3 t20 w82 fun t83 =>
 Ca PP Fn.r31_readWord #[t83] w82 fun t84 w85 =>
 Ex t84 0 fun t86 =>
 Ex t84 1 fun t87 =>
 Fa 9 t24 fun t88 =>
 St PP 1 t88 t86 w85 fun w89 =>
 St PP 3 t20 t87 w89 fun w90 =>
 ∀ J91 : List Value → World → Prop, (∀ w93 : World, (∀ u92 : Env,
 ∀ J94 : List Value → World → Prop, (∀ w96 : World, (∀ u95 : Env,
 Dr w96 fun w97 =>
 LdA PP 10 t24 w97 fun t98 =>
 LdA PP 3 t1 w97 fun t99 =>
 St PP 10 t3 t98 w97 fun w100 =>
 (LdA PP 3 t1 w100 fun t101 =>
 t101 = t99) ∧
 St PP 3 t5 t99 w100 fun w102 =>
 LdA PP 10 t3 w102 fun t103 =>
 LdA PP 3 t5 w102 fun t104 =>
 R (.tuple #[t103, t104]) w102) → J94 [] w96) →
 Fa 3 t24 fun t105 =>
 Ld t105 w93 fun t106 =>
 Bi .eql t106 (.int .i64 4294967295) fun t107 =>
 Cnd t107 (
 Fa 3 t24 fun t108 =>
 St PP 1 t108 (.int .i64 (-1)) w93 fun w109 =>
 J94 [] w109) (
 J94 [] w93)) → J91 [] w93) →
 ∀ J110 : List Value → World → Prop, (∀ t113, ∀ w112 : World, (∀ u111 : Env,
 Cnd t113 (
 Fa 2 t1 fun t114 =>
 St PP 1 t114 (.bool true) w112 fun w115 =>
 J91 [] w115) (
 J91 [] w112)) → J110 [t113] w112) →
 Fa 2 t20 fun t116 =>
 Ld t116 w90 fun t117 =>
 Gd t117 false (fun k118 => Fa 1 t20 fun t121 =>
 k118 t121 w90) w90 fun t119 w120 =>
 Gd t117 false (fun k122 => Ld t119 w120 fun t125 =>
 k122 t125 w120) w120 fun t123 w124 =>
 Gd t117 false (fun k126 => k126 t16 w124) w124 fun t127 w128 =>
 Gd t117 false (fun k129 => LnS t127 fun t132 =>
 k129 t132 w128) w128 fun t130 w131 =>
 Gd t117 false (fun k133 => Bi .neq t123 t130 fun t136 =>
 k133 t136 w131) w131 fun t134 w135 =>
 Pk t117 (.bool true) t134 fun t137 =>
 J110 [t137] w135
def S.r31_readDir.an : Ann := (.seq .leaf (.seq .leaf (.seq .leaf (.seq .leaf (.seq .leaf (.seq .leaf (.seq .leaf (.seq .leaf (.seq .leaf (.seq .leaf (.seq .leaf (.seq .leaf (.seq .leaf (.join (.join .leaf [78] [70,71,72,73,74,75,76,77] (.cond .leaf .leaf)) [] [70,71,72,73,74,75,76,77,78,79] (.join (.seq .leaf (.cond .leaf .leaf)) [] [80,81,82,83] (.seq (.draw [[],[],[0],[0,1,2]] (.calm 0 (.calm 1 (.eff1 2 [1] (.eff1 3 [] .done))))) .leaf))))))))))))))))
theorem S.r31_readDir.eq (a0 : Value) (w : World) (R : Value → World → Prop) : S.r31_readDir a0 w R = fnC PP 86 (Tryz.f28.body.getD .skip) S.r31_readDir.an [.cell 2 25, .cell 3 69] [a0] w R := by kernel_rfl
theorem S.r31_readDir.calls {a0 : Value} {w : World} {R : Value → World → Prop} (h : S.r31_readDir a0 w R) : Ca PP Fn.r31_readDir #[a0] w R :=
  fnC_calls mixed (f := Fn.r31_readDir) (an := S.r31_readDir.an) Tryz.func28 rfl (by show _ ≤ _; exact Nat.le_of_ble_eq_true rfl) (S.r31_readDir.eq a0 w R ▸ h)
/-- acheron/acheronref31.rightDir -/
def S.r31_rightDir (a0 : Value) (w : World) (R : Value → World → Prop) : Prop :=
 Al Ty.api_Dir (a0 : Value).cells w fun t1 w2 =>
 ∀ J3 : List Value → World → Prop, (∀ t6, ∀ w5 : World, (∀ u4 : Env,
 R t6 w5) → J3 [t6] w5) →
 Fa 0 t1 fun t7 =>
 LdA PP 3 t7 w2 fun t8 =>
 Ca PP Fn.r31_rightQid #[t8] w2 fun t9 w10 =>
 Gd t9 true (fun k11 => Fa 3 t1 fun t14 =>
 k11 t14 w10) w10 fun t12 w13 =>
 Gd t9 true (fun k15 => Ld t12 w13 fun t18 =>
 k15 t18 w13) w13 fun t16 w17 =>
 Gd t9 true (fun k19 => Bi .geq t16 (.int .i64 (-1)) fun t22 =>
 k19 t22 w17) w17 fun t20 w21 =>
 Pk t9 t20 (.bool false) fun t23 =>
 Gd t23 true (fun k24 => Fa 3 t1 fun t27 =>
 k24 t27 w21) w21 fun t25 w26 =>
 Gd t23 true (fun k28 => Ld t25 w26 fun t31 =>
 k28 t31 w26) w26 fun t29 w30 =>
 Gd t23 true (fun k32 => Bi .lss t29 (.int .i64 4294967295) fun t35 =>
 k32 t35 w30) w30 fun t33 w34 =>
 Pk t23 t33 (.bool false) fun t36 =>
 Gd t36 true (fun k37 => Fa 4 t1 fun t40 =>
 k37 t40 w34) w34 fun t38 w39 =>
 Gd t36 true (fun k41 => Ld t38 w39 fun t44 =>
 k41 t44 w39) w39 fun t42 w43 =>
 Gd t36 true (fun k45 => Bi .geq t42 (.int .i64 (-1)) fun t48 =>
 k45 t48 w43) w43 fun t46 w47 =>
 Pk t36 t46 (.bool false) fun t49 =>
 Gd t49 true (fun k50 => Fa 5 t1 fun t53 =>
 k50 t53 w47) w47 fun t51 w52 =>
 Gd t49 true (fun k54 => Ld t51 w52 fun t57 =>
 k54 t57 w52) w52 fun t55 w56 =>
 Gd t49 true (fun k58 => Bi .geq t55 (.int .i64 (-1)) fun t61 =>
 k58 t61 w56) w56 fun t59 w60 =>
 Pk t49 t59 (.bool false) fun t62 =>
 J3 [t62] w60
def S.r31_rightDir.an : Ann := (.seq .leaf (.join .leaf [2] [3,4,5,6,7,8,9,10,11,12,13,14,15,16,17,18,19,20,21,22,23,24,25] .leaf))
theorem S.r31_rightDir.eq (a0 : Value) (w : World) (R : Value → World → Prop) : S.r31_rightDir a0 w R = fnC PP 26 (Tryz.f29.body.getD .skip) S.r31_rightDir.an [.tmp 2] [a0] w R := by kernel_rfl
theorem S.r31_rightDir.calls {a0 : Value} {w : World} {R : Value → World → Prop} (h : S.r31_rightDir a0 w R) : Ca PP Fn.r31_rightDir #[a0] w R :=
  fnC_calls mixed (f := Fn.r31_rightDir) (an := S.r31_rightDir.an) Tryz.func29 rfl (by show _ ≤ _; exact Nat.le_of_ble_eq_true rfl) (S.r31_rightDir.eq a0 w R ▸ h)
/-- acheron/styx.known -/
def S.styx_known (a0 : Value) (w : World) (R : Value → World → Prop) : Prop :=
 Ca PP Fn.styx_Word #[a0] w fun t1 w2 =>
 Bi .neq t1 (.string ⟨#[]⟩) fun t3 =>
 R t3 w2
def S.styx_known.an : Ann := (.seq .leaf (.seq .leaf .leaf))
theorem S.styx_known.eq (a0 : Value) (w : World) (R : Value → World → Prop) : S.styx_known a0 w R = fnC PP 6 (Tryz.f30.body.getD .skip) S.styx_known.an [.tmp 2] [a0] w R := by kernel_rfl
theorem S.styx_known.calls {a0 : Value} {w : World} {R : Value → World → Prop} (h : S.styx_known a0 w R) : Ca PP Fn.styx_known #[a0] w R :=
  fnC_calls mixed (f := Fn.styx_known) (an := S.styx_known.an) Tryz.func30 rfl (by show _ ≤ _; exact Nat.le_of_ble_eq_true rfl) (S.styx_known.eq a0 w R ▸ h)
/-- acheron/styx.shaped -/
def S.styx_shaped (a0 : Value) (w : World) (R : Value → World → Prop) : Prop :=
 Al Ty.api_Msg (a0 : Value).cells w fun t1 w2 =>
 ∀ J3 : List Value → World → Prop, (∀ w5 : World, (∀ u4 : Env,
 Bd #[] [] [] fun t6 =>
 Ca PP Fn.styx_fields #[(.iface Ty.styx_blank t6), t1] w5 fun t7 w8 =>
 ∀ J9 : List Value → World → Prop, (∀ w11 : World, (∀ u10 : Env,
 ∀ J12 : List Value → World → Prop, (∀ t15, ∀ w14 : World, (∀ u13 : Env,
 R t15 w14) → J12 [t15] w14) →
 Fa 13 t1 fun t16 =>
 Ld t16 w11 fun t17 =>
 LnL t17 fun t18 =>
 Bi .eql t18 (.int .i64 0) fun t19 =>
 Gd t19 true (fun k20 => Fa 14 t1 fun t23 =>
 k20 t23 w11) w11 fun t21 w22 =>
 Gd t19 true (fun k24 => Ld t21 w22 fun t27 =>
 k24 t27 w22) w22 fun t25 w26 =>
 Gd t19 true (fun k28 => LnL t25 fun t31 =>
 k28 t31 w26) w26 fun t29 w30 =>
 Gd t19 true (fun k32 => Bi .eql t29 (.int .i64 0) fun t35 =>
 k32 t35 w30) w30 fun t33 w34 =>
 Pk t19 t33 (.bool false) fun t36 =>
 Gd t36 true (fun k37 => Fa 2 t1 fun t40 =>
 k37 t40 w34) w34 fun t38 w39 =>
 Gd t36 true (fun k41 => Ld t38 w39 fun t44 =>
 k41 t44 w39) w39 fun t42 w43 =>
 Gd t36 true (fun k45 => Fa 3 t1 fun t48 =>
 k45 t48 w43) w43 fun t46 w47 =>
 Gd t36 true (fun k49 => Ld t46 w47 fun t52 =>
 k49 t52 w47) w47 fun t50 w51 =>
 Gd t36 true (fun k53 => Bi .or t42 t50 fun t56 =>
 k53 t56 w51) w51 fun t54 w55 =>
 Gd t36 true (fun k57 => Fa 4 t1 fun t60 =>
 k57 t60 w55) w55 fun t58 w59 =>
 Gd t36 true (fun k61 => Ld t58 w59 fun t64 =>
 k61 t64 w59) w59 fun t62 w63 =>
 Gd t36 true (fun k65 => Bi .or t54 t62 fun t68 =>
 k65 t68 w63) w63 fun t66 w67 =>
 Gd t36 true (fun k69 => Fa 5 t1 fun t72 =>
 k69 t72 w67) w67 fun t70 w71 =>
 Gd t36 true (fun k73 => Ld t70 w71 fun t76 =>
 k73 t76 w71) w71 fun t74 w75 =>
 Gd t36 true (fun k77 => Bi .or t66 t74 fun t80 =>
 k77 t80 w75) w75 fun t78 w79 =>
 Gd t36 true (fun k81 => Fa 7 t1 fun t84 =>
 k81 t84 w79) w79 fun t82 w83 =>
 Gd t36 true (fun k85 => Ld t82 w83 fun t88 =>
 k85 t88 w83) w83 fun t86 w87 =>
 Gd t36 true (fun k89 => Bi .or t78 t86 fun t92 =>
 k89 t92 w87) w87 fun t90 w91 =>
 Gd t36 true (fun k93 => Fa 8 t1 fun t96 =>
 k93 t96 w91) w91 fun t94 w95 =>
 Gd t36 true (fun k97 => Ld t94 w95 fun t100 =>
 k97 t100 w95) w95 fun t98 w99 =>
 Gd t36 true (fun k101 => Bi .or t90 t98 fun t104 =>
 k101 t104 w99) w99 fun t102 w103 =>
 Gd t36 true (fun k105 => Fa 26 t1 fun t108 =>
 k105 t108 w103) w103 fun t106 w107 =>
 Gd t36 true (fun k109 => Ld t106 w107 fun t112 =>
 k109 t112 w107) w107 fun t110 w111 =>
 Gd t36 true (fun k113 => Bi .or t102 t110 fun t116 =>
 k113 t116 w111) w111 fun t114 w115 =>
 Gd t36 true (fun k117 => Bi .eql t114 (.int .i64 0) fun t120 =>
 k117 t120 w115) w115 fun t118 w119 =>
 Pk t36 t118 (.bool false) fun t121 =>
 Gd t121 true (fun k122 => Fa 6 t1 fun t125 =>
 k122 t125 w119) w119 fun t123 w124 =>
 Gd t121 true (fun k126 => Ld t123 w124 fun t129 =>
 k126 t129 w124) w124 fun t127 w128 =>
 Gd t121 true (fun k130 => Bi .eql t127 (.int .i64 0) fun t133 =>
 k130 t133 w128) w128 fun t131 w132 =>
 Pk t121 t131 (.bool false) fun t134 =>
 Gd t134 true (fun k135 => Fa 9 t1 fun t138 =>
 k135 t138 w132) w132 fun t136 w137 =>
 Gd t134 true (fun k139 => Ld t136 w137 fun t142 =>
 k139 t142 w137) w137 fun t140 w141 =>
 Gd t134 true (fun k143 => Fa 10 t1 fun t146 =>
 k143 t146 w141) w141 fun t144 w145 =>
 Gd t134 true (fun k147 => Ld t144 w145 fun t150 =>
 k147 t150 w145) w145 fun t148 w149 =>
 Gd t134 true (fun k151 => Bi .add t140 t148 fun t154 =>
 k151 t154 w149) w149 fun t152 w153 =>
 Gd t134 true (fun k155 => Fa 11 t1 fun t158 =>
 k155 t158 w153) w153 fun t156 w157 =>
 Gd t134 true (fun k159 => Ld t156 w157 fun t162 =>
 k159 t162 w157) w157 fun t160 w161 =>
 Gd t134 true (fun k163 => Bi .add t152 t160 fun t166 =>
 k163 t166 w161) w161 fun t164 w165 =>
 Gd t134 true (fun k167 => Fa 12 t1 fun t170 =>
 k167 t170 w165) w165 fun t168 w169 =>
 Gd t134 true (fun k171 => Ld t168 w169 fun t174 =>
 k171 t174 w169) w169 fun t172 w173 =>
 Gd t134 true (fun k175 => Bi .add t164 t172 fun t178 =>
 k175 t178 w173) w173 fun t176 w177 =>
 Gd t134 true (fun k179 => Fa 15 t1 fun t182 =>
 k179 t182 w177) w177 fun t180 w181 =>
 Gd t134 true (fun k183 => Ld t180 w181 fun t186 =>
 k183 t186 w181) w181 fun t184 w185 =>
 Gd t134 true (fun k187 => Bi .add t176 t184 fun t190 =>
 k187 t190 w185) w185 fun t188 w189 =>
 Gd t134 true (fun k191 => Bi .eql t188 (.string ⟨#[]⟩) fun t194 =>
 k191 t194 w189) w189 fun t192 w193 =>
 Pk t134 t192 (.bool false) fun t195 =>
 Gd t195 true (fun k196 => Fa 16 t1 fun t199 =>
 k196 t199 w193) w193 fun t197 w198 =>
 Gd t195 true (fun k200 => LdA PP 10 t197 w198 fun t203 =>
 k200 t203 w198) w198 fun t201 w202 =>
 Gd t195 true (fun k204 => Bd #[.int .i64 0, .int .i64 0, .int .i64 0, .int .i64 0, .int .i64 0, .int .i64 0, .string ⟨#[]⟩, .string ⟨#[]⟩, .string ⟨#[]⟩, .string ⟨#[]⟩] [(0, 3), (3, 1), (4, 1), (5, 1), (6, 1), (7, 1), (8, 1), (9, 1)] [] fun t207 =>
 k204 t207 w202) w202 fun t205 w206 =>
 Gd t195 true (fun k208 => Rd PP (eqS .eql Ty.api_Dir (.tmp 76) (.tmp 77) t201 t205) w206 fun t211 =>
 k208 t211 w206) w206 fun t209 w210 =>
 Pk t195 t209 (.bool false) fun t212 =>
 J12 [t212] w210) → J9 [] w11) →
 Fa 0 t1 fun t213 =>
 Ld t213 w8 fun t214 =>
 Ca PP Fn.styx_single #[t214] w8 fun t215 w216 =>
 Cnd t215 (
 Fa 14 t1 fun t217 =>
 St PP 1 t217 (.slice none 0 0) w216 fun w218 =>
 J9 [] w218) (
 J9 [] w216)) → J3 [] w5) →
 Fa 0 t1 fun t219 =>
 Ld t219 w2 fun t220 =>
 Ca PP Fn.styx_single #[t220] w2 fun t221 w222 =>
 Cnd t221 (
 Fa 14 t1 fun t223 =>
 Ld t223 w222 fun t224 =>
 LnL t224 fun t225 =>
 Bi .neq t225 (.int .i64 1) fun t226 =>
 Cnd t226 (
 R (.bool false) w222) (
 Ef PP (Instr.makeSlice Ty.sl_api_Qid (.int .i64 1) (.int .i64 1)) w222 fun t227 w228 =>
 Fa 14 t1 fun t229 =>
 St PP 1 t229 t227 w228 fun w230 =>
 J3 [] w230)) (
 J3 [] w222)
def S.styx_shaped.an : Ann := (.seq .leaf (.join (.seq .leaf (.cond (.seq (.seq .leaf (.cond (.seq .leaf .leaf) .leaf)) .leaf) .leaf)) [] [2,3,4,5,6,7,8,9,10,11] (.seq .leaf (.join (.seq .leaf (.cond .leaf .leaf)) [] [15,16,17,18] (.join .leaf [2] [19,20,21,22,23,24,25,26,27,28,29,30,31,32,33,34,35,36,37,38,39,40,41,42,43,44,45,46,47,48,49,50,51,52,53,54,55,56,57,58,59,60,61,62,63,64,65,66,67,68,69,70,71,72,73,74,75,76,77,78,79] .leaf)))))
theorem S.styx_shaped.eq (a0 : Value) (w : World) (R : Value → World → Prop) : S.styx_shaped a0 w R = fnC PP 80 (Tryz.f31.body.getD .skip) S.styx_shaped.an [.tmp 2] [a0] w R := by kernel_rfl
theorem S.styx_shaped.calls {a0 : Value} {w : World} {R : Value → World → Prop} (h : S.styx_shaped a0 w R) : Ca PP Fn.styx_shaped #[a0] w R :=
  fnC_calls mixed (f := Fn.styx_shaped) (an := S.styx_shaped.an) Tryz.func31 rfl (by show _ ≤ _; exact Nat.le_of_ble_eq_true rfl) (S.styx_shaped.eq a0 w R ▸ h)
/-- (*acheron/wire.Writer).Little -/
def S.wire_Writer_Little (a0 a1 a2 : Value) (w : World) (R : Value → World → Prop) : Prop :=
 Rd PP (eqS .eql Ty.p_wire_Writer (.tmp 8) (.const (.pointer none)) a0 (.pointer none)) w fun t1 =>
 Cnd t1 (
 R (.int .i64 6) w) (
 Ca PP Fn.wire_width #[a2] w fun t2 w3 =>
 Un .not t2 fun t4 =>
 Cnd t4 (
 R (.int .i64 1) w3) (
 ∀ J5 : List Value → World → Prop, (∀ t8, ∀ w7 : World, (∀ u6 : Env,
 Cnd t8 (
 R (.int .i64 11) w7) (
 Ca PP Fn.wire_Writer_little #[a0, a1, a2] w7 fun t9 w10 =>
 R t9 w10)) → J5 [t8] w7) →
 Bi .lss a1 (.int .i64 0) fun t11 =>
 Gd t11 false (fun k12 => k12 a2 w3) w3 fun t13 w14 =>
 Gd t11 false (fun k15 => Bi .lss t13 (.int .i64 8) fun t18 =>
 k15 t18 w14) w14 fun t16 w17 =>
 Gd t11 false (fun k19 => k19 t16 w17) w17 fun t20 w21 =>
 Gd t20 true (fun k22 => k22 a1 w21) w21 fun t23 w24 =>
 Gd t20 true (fun k25 => k25 a2 w24) w24 fun t26 w27 =>
 Gd t20 true (fun k28 => Bi .mul (.int .i64 8) t26 fun t31 =>
 k28 t31 w27) w27 fun t29 w30 =>
 Gd t20 true (fun k32 => Bi .shr t23 t29 fun t35 =>
 k32 t35 w30) w30 fun t33 w34 =>
 Gd t20 true (fun k36 => Bi .neq t33 (.int .i64 0) fun t39 =>
 k36 t39 w34) w34 fun t37 w38 =>
 Gd t11 false (fun k40 => Pk t20 t37 (.bool false) fun t43 =>
 k40 t43 w38) w38 fun t41 w42 =>
 Pk t11 (.bool true) t41 fun t44 =>
 J5 [t44] w42))
def S.wire_Writer_Little.an : Ann := (.seq .leaf (.seq (.block (.seq .leaf (.cond (.seq .leaf .leaf) (.seq .leaf (.cond (.seq .leaf .leaf) (.join .leaf [14] [15,16,17,18,19,20,21,22,23,24,25,26,27] (.cond (.seq .leaf .leaf) .leaf))))))) (.seq .leaf .leaf)))
theorem S.wire_Writer_Little.eq (a0 a1 a2 : Value) (w : World) (R : Value → World → Prop) : S.wire_Writer_Little a0 a1 a2 w R = fnC PP 32 (Tryz.f32.body.getD .skip) S.wire_Writer_Little.an [.tmp 6] [a0, a1, a2] w R := by kernel_rfl
theorem S.wire_Writer_Little.calls {a0 a1 a2 : Value} {w : World} {R : Value → World → Prop} (h : S.wire_Writer_Little a0 a1 a2 w R) : Ca PP Fn.wire_Writer_Little #[a0, a1, a2] w R :=
  fnC_calls mixed (f := Fn.wire_Writer_Little) (an := S.wire_Writer_Little.an) Tryz.func32 rfl (by show _ ≤ _; exact Nat.le_of_ble_eq_true rfl) (S.wire_Writer_Little.eq a0 a1 a2 w R ▸ h)
/-- (*acheron/styx.output).num -/
def S.styx_output_num (a0 a1 a2 : Value) (w : World) (R : Value → World → Prop) : Prop :=
 Dr w fun w1 =>
 Nc a0 fun t2 =>
 Fa 0 t2 fun t3 =>
 Nc a1 fun t4 =>
 Ld t4 w1 fun t5 =>
 Ca PP Fn.wire_Writer_Little #[t3, t5, a2] w1 fun t6 w7 =>
 Bi .neq t6 (.int .i64 0) fun t8 =>
 Cnd t8 (
 Nc a0 fun t9 =>
 Fa 1 t9 fun t10 =>
 St PP 1 t10 (.bool true) w7 fun w11 =>
 R (.tuple #[]) w11) (
 R (.tuple #[]) w7)
def S.styx_output_num.an : Ann := (.seq (.draw [[],[0],[0,1],[],[3],[3,4],[],[0,1,2,3,4,5,6],[0,1,2,3,4,5,6,7]] (.calm 0 (.calm 1 (.calm 2 (.calm 3 (.calm 4 (.calm 5 (.calm 6 (.eff1 7 [] (.calm 8 .done)))))))))) (.cond .leaf .leaf))
theorem S.styx_output_num.eq (a0 a1 a2 : Value) (w : World) (R : Value → World → Prop) : S.styx_output_num a0 a1 a2 w R = fnC PP 18 (Tryz.f33.body.getD .skip) S.styx_output_num.an [] [a0, a1, a2] w R := by kernel_rfl
theorem S.styx_output_num.calls {a0 a1 a2 : Value} {w : World} {R : Value → World → Prop} (h : S.styx_output_num a0 a1 a2 w R) : Ca PP Fn.styx_output_num #[a0, a1, a2] w R :=
  fnC_calls mixed (f := Fn.styx_output_num) (an := S.styx_output_num.an) Tryz.func33 rfl (by show _ ≤ _; exact Nat.le_of_ble_eq_true rfl) (S.styx_output_num.eq a0 a1 a2 w R ▸ h)
/-- acheron/styx.fields -/
def S.styx_fields (a0 a1 : Value) (w : World) (R : Value → World → Prop) : Prop :=
 Nc a1 fun t1 =>
 Fa 0 t1 fun t2 =>
 Ld t2 w fun t3 =>
 ∀ J4 : List Value → World → Prop, (∀ t7, ∀ w6 : World, (∀ u5 : Env,
 Cnd t7 (
 Dr w6 fun w8 =>
 Nc a1 fun t9 =>
 Fa 5 t9 fun t10 =>
 NcF PP (.func (.method "acheron/styx.num") #[a0] #[]) fun t11 =>
 Iv PP a0 "acheron/styx.num" #[t10, (.int .i64 4)] w8 fun t12 w13 =>
 Dr w13 fun w14 =>
 Nc a1 fun t15 =>
 Fa 9 t15 fun t16 =>
 NcF PP (.func (.method "acheron/styx.text") #[a0] #[]) fun t17 =>
 Iv PP a0 "acheron/styx.text" #[t16] w14 fun t18 w19 =>
 R (.tuple #[]) w19) (
 Bi .eql t3 (.int .i64 102) fun t20 =>
 Cnd t20 (
 Dr w6 fun w21 =>
 Nc a1 fun t22 =>
 Fa 2 t22 fun t23 =>
 NcF PP (.func (.method "acheron/styx.num") #[a0] #[]) fun t24 =>
 Iv PP a0 "acheron/styx.num" #[t23, (.int .i64 4)] w21 fun t25 w26 =>
 Dr w26 fun w27 =>
 Nc a1 fun t28 =>
 Fa 10 t28 fun t29 =>
 NcF PP (.func (.method "acheron/styx.text") #[a0] #[]) fun t30 =>
 Iv PP a0 "acheron/styx.text" #[t29] w27 fun t31 w32 =>
 Dr w32 fun w33 =>
 Nc a1 fun t34 =>
 Fa 11 t34 fun t35 =>
 NcF PP (.func (.method "acheron/styx.text") #[a0] #[]) fun t36 =>
 Iv PP a0 "acheron/styx.text" #[t35] w33 fun t37 w38 =>
 R (.tuple #[]) w38) (
 Bi .eql t3 (.int .i64 104) fun t39 =>
 Cnd t39 (
 Dr w6 fun w40 =>
 Nc a1 fun t41 =>
 Fa 2 t41 fun t42 =>
 NcF PP (.func (.method "acheron/styx.num") #[a0] #[]) fun t43 =>
 Iv PP a0 "acheron/styx.num" #[t42, (.int .i64 4)] w40 fun t44 w45 =>
 Dr w45 fun w46 =>
 Nc a1 fun t47 =>
 Fa 3 t47 fun t48 =>
 NcF PP (.func (.method "acheron/styx.num") #[a0] #[]) fun t49 =>
 Iv PP a0 "acheron/styx.num" #[t48, (.int .i64 4)] w46 fun t50 w51 =>
 Dr w51 fun w52 =>
 Nc a1 fun t53 =>
 Fa 10 t53 fun t54 =>
 NcF PP (.func (.method "acheron/styx.text") #[a0] #[]) fun t55 =>
 Iv PP a0 "acheron/styx.text" #[t54] w52 fun t56 w57 =>
 Dr w57 fun w58 =>
 Nc a1 fun t59 =>
 Fa 11 t59 fun t60 =>
 NcF PP (.func (.method "acheron/styx.text") #[a0] #[]) fun t61 =>
 Iv PP a0 "acheron/styx.text" #[t60] w58 fun t62 w63 =>
 R (.tuple #[]) w63) (
 ∀ J64 : List Value → World → Prop, (∀ t67, ∀ w66 : World, (∀ u65 : Env,
 Cnd t67 (
 Ca PP Fn.styx_one #[a0, a1] w66 fun t68 w69 =>
 R (.tuple #[]) w69) (
 Bi .eql t3 (.int .i64 107) fun t70 =>
 Cnd t70 (
 Nc a1 fun t71 =>
 Fa 26 t71 fun t72 =>
 Ld t72 w66 fun t73 =>
 Al Ty.int #[.int .i64 0] w66 fun t74 w75 =>
 St PP 1 t74 t73 w75 fun w76 =>
 Iv PP a0 "acheron/styx.num" #[t74, (.int .i64 2)] w76 fun t77 w78 =>
 Ld t74 w78 fun t79 =>
 Nc a1 fun t80 =>
 Fa 26 t80 fun t81 =>
 St PP 1 t81 t79 w78 fun w82 =>
 R (.tuple #[]) w82) (
 Bi .eql t3 (.int .i64 108) fun t83 =>
 Cnd t83 (
 Dr w66 fun w84 =>
 Nc a1 fun t85 =>
 Fa 4 t85 fun t86 =>
 NcF PP (.func (.method "acheron/styx.num") #[a0] #[]) fun t87 =>
 Iv PP a0 "acheron/styx.num" #[t86, (.int .i64 2)] w84 fun t88 w89 =>
 R (.tuple #[]) w89) (
 Bi .eql t3 (.int .i64 110) fun t90 =>
 Cnd t90 (
 Dr w66 fun w91 =>
 Nc a1 fun t92 =>
 Fa 2 t92 fun t93 =>
 NcF PP (.func (.method "acheron/styx.num") #[a0] #[]) fun t94 =>
 Iv PP a0 "acheron/styx.num" #[t93, (.int .i64 4)] w91 fun t95 w96 =>
 Dr w96 fun w97 =>
 Nc a1 fun t98 =>
 Fa 3 t98 fun t99 =>
 NcF PP (.func (.method "acheron/styx.num") #[a0] #[]) fun t100 =>
 Iv PP a0 "acheron/styx.num" #[t99, (.int .i64 4)] w97 fun t101 w102 =>
 Dr w102 fun w103 =>
 Nc a1 fun t104 =>
 Fa 13 t104 fun t105 =>
 NcF PP (.func (.method "acheron/styx.names") #[a0] #[]) fun t106 =>
 Iv PP a0 "acheron/styx.names" #[t105] w103 fun t107 w108 =>
 R (.tuple #[]) w108) (
 Bi .eql t3 (.int .i64 111) fun t109 =>
 Cnd t109 (
 Dr w66 fun w110 =>
 Nc a1 fun t111 =>
 Fa 14 t111 fun t112 =>
 NcF PP (.func (.method "acheron/styx.qids") #[a0] #[]) fun t113 =>
 Iv PP a0 "acheron/styx.qids" #[t112] w110 fun t114 w115 =>
 R (.tuple #[]) w115) (
 Bi .eql t3 (.int .i64 112) fun t116 =>
 Cnd t116 (
 Dr w66 fun w117 =>
 Nc a1 fun t118 =>
 Fa 2 t118 fun t119 =>
 NcF PP (.func (.method "acheron/styx.num") #[a0] #[]) fun t120 =>
 Iv PP a0 "acheron/styx.num" #[t119, (.int .i64 4)] w117 fun t121 w122 =>
 Dr w122 fun w123 =>
 Nc a1 fun t124 =>
 Fa 7 t124 fun t125 =>
 NcF PP (.func (.method "acheron/styx.num") #[a0] #[]) fun t126 =>
 Iv PP a0 "acheron/styx.num" #[t125, (.int .i64 1)] w123 fun t127 w128 =>
 R (.tuple #[]) w128) (
 Bi .eql t3 (.int .i64 114) fun t129 =>
 Cnd t129 (
 Dr w66 fun w130 =>
 Nc a1 fun t131 =>
 Fa 2 t131 fun t132 =>
 NcF PP (.func (.method "acheron/styx.num") #[a0] #[]) fun t133 =>
 Iv PP a0 "acheron/styx.num" #[t132, (.int .i64 4)] w130 fun t134 w135 =>
 Dr w135 fun w136 =>
 Nc a1 fun t137 =>
 Fa 12 t137 fun t138 =>
 NcF PP (.func (.method "acheron/styx.text") #[a0] #[]) fun t139 =>
 Iv PP a0 "acheron/styx.text" #[t138] w136 fun t140 w141 =>
 Dr w141 fun w142 =>
 Nc a1 fun t143 =>
 Fa 8 t143 fun t144 =>
 NcF PP (.func (.method "acheron/styx.num") #[a0] #[]) fun t145 =>
 Iv PP a0 "acheron/styx.num" #[t144, (.int .i64 4)] w142 fun t146 w147 =>
 Dr w147 fun w148 =>
 Nc a1 fun t149 =>
 Fa 7 t149 fun t150 =>
 NcF PP (.func (.method "acheron/styx.num") #[a0] #[]) fun t151 =>
 Iv PP a0 "acheron/styx.num" #[t150, (.int .i64 1)] w148 fun t152 w153 =>
 R (.tuple #[]) w153) (
 ∀ J154 : List Value → World → Prop, (∀ t157, ∀ w156 : World, (∀ u155 : Env,
 Cnd t157 (
 Ca PP Fn.styx_one #[a0, a1] w156 fun t158 w159 =>
 Dr w159 fun w160 =>
 Nc a1 fun t161 =>
 Fa 5 t161 fun t162 =>
 NcF PP (.func (.method "acheron/styx.num") #[a0] #[]) fun t163 =>
 Iv PP a0 "acheron/styx.num" #[t162, (.int .i64 4)] w160 fun t164 w165 =>
 R (.tuple #[]) w165) (
 Bi .eql t3 (.int .i64 116) fun t166 =>
 Cnd t166 (
 Dr w156 fun w167 =>
 Nc a1 fun t168 =>
 Fa 2 t168 fun t169 =>
 NcF PP (.func (.method "acheron/styx.num") #[a0] #[]) fun t170 =>
 Iv PP a0 "acheron/styx.num" #[t169, (.int .i64 4)] w167 fun t171 w172 =>
 Dr w172 fun w173 =>
 Nc a1 fun t174 =>
 Fa 6 t174 fun t175 =>
 NcF PP (.func (.method "acheron/styx.long") #[a0] #[]) fun t176 =>
 Iv PP a0 "acheron/styx.long" #[t175] w173 fun t177 w178 =>
 Dr w178 fun w179 =>
 Nc a1 fun t180 =>
 Fa 5 t180 fun t181 =>
 NcF PP (.func (.method "acheron/styx.num") #[a0] #[]) fun t182 =>
 Iv PP a0 "acheron/styx.num" #[t181, (.int .i64 4)] w179 fun t183 w184 =>
 R (.tuple #[]) w184) (
 Bi .eql t3 (.int .i64 117) fun t185 =>
 Cnd t185 (
 Dr w156 fun w186 =>
 Nc a1 fun t187 =>
 Fa 15 t187 fun t188 =>
 NcF PP (.func (.method "acheron/styx.data") #[a0] #[]) fun t189 =>
 Iv PP a0 "acheron/styx.data" #[t188] w186 fun t190 w191 =>
 R (.tuple #[]) w191) (
 Bi .eql t3 (.int .i64 118) fun t192 =>
 Cnd t192 (
 Dr w156 fun w193 =>
 Nc a1 fun t194 =>
 Fa 2 t194 fun t195 =>
 NcF PP (.func (.method "acheron/styx.num") #[a0] #[]) fun t196 =>
 Iv PP a0 "acheron/styx.num" #[t195, (.int .i64 4)] w193 fun t197 w198 =>
 Dr w198 fun w199 =>
 Nc a1 fun t200 =>
 Fa 6 t200 fun t201 =>
 NcF PP (.func (.method "acheron/styx.long") #[a0] #[]) fun t202 =>
 Iv PP a0 "acheron/styx.long" #[t201] w199 fun t203 w204 =>
 Dr w204 fun w205 =>
 Nc a1 fun t206 =>
 Fa 15 t206 fun t207 =>
 NcF PP (.func (.method "acheron/styx.data") #[a0] #[]) fun t208 =>
 Iv PP a0 "acheron/styx.data" #[t207] w205 fun t209 w210 =>
 R (.tuple #[]) w210) (
 Bi .eql t3 (.int .i64 119) fun t211 =>
 Cnd t211 (
 Dr w156 fun w212 =>
 Nc a1 fun t213 =>
 Fa 5 t213 fun t214 =>
 NcF PP (.func (.method "acheron/styx.num") #[a0] #[]) fun t215 =>
 Iv PP a0 "acheron/styx.num" #[t214, (.int .i64 4)] w212 fun t216 w217 =>
 R (.tuple #[]) w217) (
 ∀ J218 : List Value → World → Prop, (∀ t221, ∀ w220 : World, (∀ u219 : Env,
 Cnd t221 (
 Dr w220 fun w222 =>
 Nc a1 fun t223 =>
 Fa 2 t223 fun t224 =>
 NcF PP (.func (.method "acheron/styx.num") #[a0] #[]) fun t225 =>
 Iv PP a0 "acheron/styx.num" #[t224, (.int .i64 4)] w222 fun t226 w227 =>
 R (.tuple #[]) w227) (
 Bi .eql t3 (.int .i64 125) fun t228 =>
 Cnd t228 (
 Dr w220 fun w229 =>
 Nc a1 fun t230 =>
 Fa 16 t230 fun t231 =>
 NcF PP (.func (.method "acheron/styx.dir") #[a0] #[]) fun t232 =>
 Iv PP a0 "acheron/styx.dir" #[t231] w229 fun t233 w234 =>
 R (.tuple #[]) w234) (
 Bi .eql t3 (.int .i64 126) fun t235 =>
 Cnd t235 (
 Dr w220 fun w236 =>
 Nc a1 fun t237 =>
 Fa 2 t237 fun t238 =>
 NcF PP (.func (.method "acheron/styx.num") #[a0] #[]) fun t239 =>
 Iv PP a0 "acheron/styx.num" #[t238, (.int .i64 4)] w236 fun t240 w241 =>
 Dr w241 fun w242 =>
 Nc a1 fun t243 =>
 Fa 16 t243 fun t244 =>
 NcF PP (.func (.method "acheron/styx.dir") #[a0] #[]) fun t245 =>
 Iv PP a0 "acheron/styx.dir" #[t244] w242 fun t246 w247 =>
 R (.tuple #[]) w247) (
 R (.tuple #[]) w220)))) → J218 [t221] w220) →
 Bi .eql t3 (.int .i64 120) fun t248 =>
 Cnd t248 (
 J218 [t248] w156) (
 Bi .eql t3 (.int .i64 122) fun t249 =>
 Cnd t249 (
 J218 [t249] w156) (
 Bi .eql t3 (.int .i64 124) fun t250 =>
 J218 [t250] w156)))))))) → J154 [t157] w156) →
 Bi .eql t3 (.int .i64 113) fun t251 =>
 Cnd t251 (
 J154 [t251] w66) (
 Bi .eql t3 (.int .i64 115) fun t252 =>
 J154 [t252] w66))))))))) → J64 [t67] w66) →
 Bi .eql t3 (.int .i64 103) fun t253 =>
 Cnd t253 (
 J64 [t253] w6) (
 Bi .eql t3 (.int .i64 105) fun t254 =>
 J64 [t254] w6))))) → J4 [t7] w6) →
 Bi .eql t3 (.int .i64 100) fun t255 =>
 Cnd t255 (
 J4 [t255] w) (
 Bi .eql t3 (.int .i64 101) fun t256 =>
 J4 [t256] w)
def S.styx_fields.an : Ann := (.seq .leaf (.block (.join (.seq .leaf (.cond .leaf .leaf)) [9] [10,11] (.cond (.seq (.draw [[],[],[1],[1,2],[0],[0,4],[0,4,5],[0,1,2,3,4,5,6]] (.calm 0 (.calm 1 (.calm 2 (.calm 3 (.calm 4 (.calm 5 (.calm 6 (.eff1 7 [] .done))))))))) (.draw [[],[],[1],[1,2],[0],[0,4],[0,4,5],[0,1,2,3,4,5,6]] (.calm 0 (.calm 1 (.calm 2 (.calm 3 (.calm 4 (.calm 5 (.calm 6 (.eff1 7 [] .done)))))))))) (.seq .leaf (.cond (.seq (.draw [[],[],[1],[1,2],[0],[0,4],[0,4,5],[0,1,2,3,4,5,6]] (.calm 0 (.calm 1 (.calm 2 (.calm 3 (.calm 4 (.calm 5 (.calm 6 (.eff1 7 [] .done))))))))) (.seq (.draw [[],[],[1],[1,2],[0],[0,4],[0,4,5],[0,1,2,3,4,5,6]] (.calm 0 (.calm 1 (.calm 2 (.calm 3 (.calm 4 (.calm 5 (.calm 6 (.eff1 7 [] .done))))))))) (.draw [[],[],[1],[1,2],[0],[0,4],[0,4,5],[0,1,2,3,4,5,6]] (.calm 0 (.calm 1 (.calm 2 (.calm 3 (.calm 4 (.calm 5 (.calm 6 (.eff1 7 [] .done))))))))))) (.seq .leaf (.cond (.seq (.draw [[],[],[1],[1,2],[0],[0,4],[0,4,5],[0,1,2,3,4,5,6]] (.calm 0 (.calm 1 (.calm 2 (.calm 3 (.calm 4 (.calm 5 (.calm 6 (.eff1 7 [] .done))))))))) (.seq (.draw [[],[],[1],[1,2],[0],[0,4],[0,4,5],[0,1,2,3,4,5,6]] (.calm 0 (.calm 1 (.calm 2 (.calm 3 (.calm 4 (.calm 5 (.calm 6 (.eff1 7 [] .done))))))))) (.seq (.draw [[],[],[1],[1,2],[0],[0,4],[0,4,5],[0,1,2,3,4,5,6]] (.calm 0 (.calm 1 (.calm 2 (.calm 3 (.calm 4 (.calm 5 (.calm 6 (.eff1 7 [] .done))))))))) (.draw [[],[],[1],[1,2],[0],[0,4],[0,4,5],[0,1,2,3,4,5,6]] (.calm 0 (.calm 1 (.calm 2 (.calm 3 (.calm 4 (.calm 5 (.calm 6 (.eff1 7 [] .done)))))))))))) (.join (.seq .leaf (.cond .leaf .leaf)) [88] [89,90] (.cond .leaf (.seq .leaf (.cond (.seq .leaf (.seq .leaf .leaf)) (.seq .leaf (.cond (.draw [[],[],[1],[1,2],[0],[0,4],[0,4,5],[0,1,2,3,4,5,6]] (.calm 0 (.calm 1 (.calm 2 (.calm 3 (.calm 4 (.calm 5 (.calm 6 (.eff1 7 [] .done))))))))) (.seq .leaf (.cond (.seq (.draw [[],[],[1],[1,2],[0],[0,4],[0,4,5],[0,1,2,3,4,5,6]] (.calm 0 (.calm 1 (.calm 2 (.calm 3 (.calm 4 (.calm 5 (.calm 6 (.eff1 7 [] .done))))))))) (.seq (.draw [[],[],[1],[1,2],[0],[0,4],[0,4,5],[0,1,2,3,4,5,6]] (.calm 0 (.calm 1 (.calm 2 (.calm 3 (.calm 4 (.calm 5 (.calm 6 (.eff1 7 [] .done))))))))) (.draw [[],[],[1],[1,2],[0],[0,4],[0,4,5],[0,1,2,3,4,5,6]] (.calm 0 (.calm 1 (.calm 2 (.calm 3 (.calm 4 (.calm 5 (.calm 6 (.eff1 7 [] .done))))))))))) (.seq .leaf (.cond (.draw [[],[],[1],[1,2],[0],[0,4],[0,4,5],[0,1,2,3,4,5,6]] (.calm 0 (.calm 1 (.calm 2 (.calm 3 (.calm 4 (.calm 5 (.calm 6 (.eff1 7 [] .done))))))))) (.seq .leaf (.cond (.seq (.draw [[],[],[1],[1,2],[0],[0,4],[0,4,5],[0,1,2,3,4,5,6]] (.calm 0 (.calm 1 (.calm 2 (.calm 3 (.calm 4 (.calm 5 (.calm 6 (.eff1 7 [] .done))))))))) (.draw [[],[],[1],[1,2],[0],[0,4],[0,4,5],[0,1,2,3,4,5,6]] (.calm 0 (.calm 1 (.calm 2 (.calm 3 (.calm 4 (.calm 5 (.calm 6 (.eff1 7 [] .done)))))))))) (.seq .leaf (.cond (.seq (.draw [[],[],[1],[1,2],[0],[0,4],[0,4,5],[0,1,2,3,4,5,6]] (.calm 0 (.calm 1 (.calm 2 (.calm 3 (.calm 4 (.calm 5 (.calm 6 (.eff1 7 [] .done))))))))) (.seq (.draw [[],[],[1],[1,2],[0],[0,4],[0,4,5],[0,1,2,3,4,5,6]] (.calm 0 (.calm 1 (.calm 2 (.calm 3 (.calm 4 (.calm 5 (.calm 6 (.eff1 7 [] .done))))))))) (.seq (.draw [[],[],[1],[1,2],[0],[0,4],[0,4,5],[0,1,2,3,4,5,6]] (.calm 0 (.calm 1 (.calm 2 (.calm 3 (.calm 4 (.calm 5 (.calm 6 (.eff1 7 [] .done))))))))) (.draw [[],[],[1],[1,2],[0],[0,4],[0,4,5],[0,1,2,3,4,5,6]] (.calm 0 (.calm 1 (.calm 2 (.calm 3 (.calm 4 (.calm 5 (.calm 6 (.eff1 7 [] .done)))))))))))) (.join (.seq .leaf (.cond .leaf .leaf)) [204] [205,206] (.cond (.seq .leaf (.draw [[],[],[1],[1,2],[0],[0,4],[0,4,5],[0,1,2,3,4,5,6]] (.calm 0 (.calm 1 (.calm 2 (.calm 3 (.calm 4 (.calm 5 (.calm 6 (.eff1 7 [] .done)))))))))) (.seq .leaf (.cond (.seq (.draw [[],[],[1],[1,2],[0],[0,4],[0,4,5],[0,1,2,3,4,5,6]] (.calm 0 (.calm 1 (.calm 2 (.calm 3 (.calm 4 (.calm 5 (.calm 6 (.eff1 7 [] .done))))))))) (.seq (.draw [[],[],[1],[1,2],[0],[0,4],[0,4,5],[0,1,2,3,4,5,6]] (.calm 0 (.calm 1 (.calm 2 (.calm 3 (.calm 4 (.calm 5 (.calm 6 (.eff1 7 [] .done))))))))) (.draw [[],[],[1],[1,2],[0],[0,4],[0,4,5],[0,1,2,3,4,5,6]] (.calm 0 (.calm 1 (.calm 2 (.calm 3 (.calm 4 (.calm 5 (.calm 6 (.eff1 7 [] .done))))))))))) (.seq .leaf (.cond (.draw [[],[],[1],[1,2],[0],[0,4],[0,4,5],[0,1,2,3,4,5,6]] (.calm 0 (.calm 1 (.calm 2 (.calm 3 (.calm 4 (.calm 5 (.calm 6 (.eff1 7 [] .done))))))))) (.seq .leaf (.cond (.seq (.draw [[],[],[1],[1,2],[0],[0,4],[0,4,5],[0,1,2,3,4,5,6]] (.calm 0 (.calm 1 (.calm 2 (.calm 3 (.calm 4 (.calm 5 (.calm 6 (.eff1 7 [] .done))))))))) (.seq (.draw [[],[],[1],[1,2],[0],[0,4],[0,4,5],[0,1,2,3,4,5,6]] (.calm 0 (.calm 1 (.calm 2 (.calm 3 (.calm 4 (.calm 5 (.calm 6 (.eff1 7 [] .done))))))))) (.draw [[],[],[1],[1,2],[0],[0,4],[0,4,5],[0,1,2,3,4,5,6]] (.calm 0 (.calm 1 (.calm 2 (.calm 3 (.calm 4 (.calm 5 (.calm 6 (.eff1 7 [] .done))))))))))) (.seq .leaf (.cond (.draw [[],[],[1],[1,2],[0],[0,4],[0,4,5],[0,1,2,3,4,5,6]] (.calm 0 (.calm 1 (.calm 2 (.calm 3 (.calm 4 (.calm 5 (.calm 6 (.eff1 7 [] .done))))))))) (.join (.seq .leaf (.cond .leaf (.seq .leaf (.cond .leaf .leaf)))) [290] [291,292,293] (.cond (.draw [[],[],[1],[1,2],[0],[0,4],[0,4,5],[0,1,2,3,4,5,6]] (.calm 0 (.calm 1 (.calm 2 (.calm 3 (.calm 4 (.calm 5 (.calm 6 (.eff1 7 [] .done))))))))) (.seq .leaf (.cond (.draw [[],[],[1],[1,2],[0],[0,4],[0,4,5],[0,1,2,3,4,5,6]] (.calm 0 (.calm 1 (.calm 2 (.calm 3 (.calm 4 (.calm 5 (.calm 6 (.eff1 7 [] .done))))))))) (.seq .leaf (.cond (.seq (.draw [[],[],[1],[1,2],[0],[0,4],[0,4,5],[0,1,2,3,4,5,6]] (.calm 0 (.calm 1 (.calm 2 (.calm 3 (.calm 4 (.calm 5 (.calm 6 (.eff1 7 [] .done))))))))) (.draw [[],[],[1],[1,2],[0],[0,4],[0,4,5],[0,1,2,3,4,5,6]] (.calm 0 (.calm 1 (.calm 2 (.calm 3 (.calm 4 (.calm 5 (.calm 6 (.eff1 7 [] .done)))))))))) .leaf))))))))))))))))))))))))))))))))))))))
theorem S.styx_fields.eq (a0 a1 : Value) (w : World) (R : Value → World → Prop) : S.styx_fields a0 a1 w R = fnC PP 330 (Tryz.f34.body.getD .skip) S.styx_fields.an [] [a0, a1] w R := by kernel_rfl
theorem S.styx_fields.calls {a0 a1 : Value} {w : World} {R : Value → World → Prop} (h : S.styx_fields a0 a1 w R) : Ca PP Fn.styx_fields #[a0, a1] w R :=
  fnC_calls mixed (f := Fn.styx_fields) (an := S.styx_fields.an) Tryz.func34 rfl (by show _ ≤ _; exact Nat.le_of_ble_eq_true rfl) (S.styx_fields.eq a0 a1 w R ▸ h)
/-- (*acheron/wire.Writer).Len -/
def S.wire_Writer_Len (a0 : Value) (w : World) (R : Value → World → Prop) : Prop :=
 Rd PP (eqS .eql Ty.p_wire_Writer (.tmp 3) (.const (.pointer none)) a0 (.pointer none)) w fun t1 =>
 Cnd t1 (
 R (.int .i64 0) w) (
 Nc a0 fun t2 =>
 Fa 0 t2 fun t3 =>
 Ld t3 w fun t4 =>
 LnL t4 fun t5 =>
 R t5 w)
def S.wire_Writer_Len.an : Ann := (.seq .leaf (.seq (.seq .leaf (.cond (.seq .leaf .leaf) .leaf)) (.seq .leaf .leaf)))
theorem S.wire_Writer_Len.eq (a0 : Value) (w : World) (R : Value → World → Prop) : S.wire_Writer_Len a0 w R = fnC PP 10 (Tryz.f35.body.getD .skip) S.wire_Writer_Len.an [.tmp 2] [a0] w R := by kernel_rfl
theorem S.wire_Writer_Len.calls {a0 : Value} {w : World} {R : Value → World → Prop} (h : S.wire_Writer_Len a0 w R) : Ca PP Fn.wire_Writer_Len #[a0] w R :=
  fnC_calls mixed (f := Fn.wire_Writer_Len) (an := S.wire_Writer_Len.an) Tryz.func35 rfl (by show _ ≤ _; exact Nat.le_of_ble_eq_true rfl) (S.wire_Writer_Len.eq a0 w R ▸ h)
/-- acheron/wire.NewWriter -/
def S.wire_NewWriter (w : World) (R : Value → World → Prop) : Prop :=
 Bd #[.slice none 0 0] [(0, 1)] [] fun t1 =>
 Al Ty.wire_Writer (t1 : Value).cells w fun t2 w3 =>
 R t2 w3
def S.wire_NewWriter.an : Ann := (.seq .leaf (.seq .leaf .leaf))
theorem S.wire_NewWriter.eq (w : World) (R : Value → World → Prop) : S.wire_NewWriter  w R = fnC PP 3 (Tryz.f36.body.getD .skip) S.wire_NewWriter.an [.tmp 0] [] w R := by kernel_rfl
theorem S.wire_NewWriter.calls {w : World} {R : Value → World → Prop} (h : S.wire_NewWriter w R) : Ca PP Fn.wire_NewWriter #[] w R :=
  fnC_calls mixed (f := Fn.wire_NewWriter) (an := S.wire_NewWriter.an) Tryz.func36 rfl (by show _ ≤ _; exact Nat.le_of_ble_eq_true rfl) (S.wire_NewWriter.eq w R ▸ h)
/-- (*acheron/wire.Writer).Raw -/
def S.wire_Writer_Raw (a0 a1 : Value) (w : World) (R : Value → World → Prop) : Prop :=
 Rd PP (eqS .eql Ty.p_wire_Writer (.tmp 5) (.const (.pointer none)) a0 (.pointer none)) w fun t1 =>
 Cnd t1 (
 R (.int .i64 6) w) (
 Nc a0 fun t2 =>
 Fa 0 t2 fun t3 =>
 Ld t3 w fun t4 =>
 Ef PP (Builtin.append_ #[Ty.sl_uint8, Ty.string] Ty.sl_uint8 #[t4, a1]) w fun t5 w6 =>
 Nc a0 fun t7 =>
 Fa 0 t7 fun t8 =>
 St PP 1 t8 t5 w6 fun w9 =>
 R (.int .i64 0) w9)
def S.wire_Writer_Raw.an : Ann := (.seq .leaf (.seq (.seq .leaf (.cond (.seq .leaf .leaf) .leaf)) (.seq .leaf (.seq .leaf .leaf))))
theorem S.wire_Writer_Raw.eq (a0 a1 : Value) (w : World) (R : Value → World → Prop) : S.wire_Writer_Raw a0 a1 w R = fnC PP 16 (Tryz.f37.body.getD .skip) S.wire_Writer_Raw.an [.tmp 4] [a0, a1] w R := by kernel_rfl
theorem S.wire_Writer_Raw.calls {a0 a1 : Value} {w : World} {R : Value → World → Prop} (h : S.wire_Writer_Raw a0 a1 w R) : Ca PP Fn.wire_Writer_Raw #[a0, a1] w R :=
  fnC_calls mixed (f := Fn.wire_Writer_Raw) (an := S.wire_Writer_Raw.an) Tryz.func37 rfl (by show _ ≤ _; exact Nat.le_of_ble_eq_true rfl) (S.wire_Writer_Raw.eq a0 a1 w R ▸ h)
/-- acheron/styx.length -/
def S.styx_length (a0 : Value) (w : World) (R : Value → World → Prop) : Prop :=
 Ca PP Fn.wire_NewReader #[a0] w fun t1 w2 =>
 Ca PP Fn.wire_Reader_Little #[t1, (.int .i64 4)] w2 fun t3 w4 =>
 Ex t3 0 fun t5 =>
 Ex t3 1 fun t6 =>
 R t5 w4
def S.styx_length.an : Ann := (.seq .leaf (.seq .leaf (.seq .leaf .leaf)))
theorem S.styx_length.eq (a0 : Value) (w : World) (R : Value → World → Prop) : S.styx_length a0 w R = fnC PP 12 (Tryz.f38.body.getD .skip) S.styx_length.an [.tmp 2] [a0] w R := by kernel_rfl
theorem S.styx_length.calls {a0 : Value} {w : World} {R : Value → World → Prop} (h : S.styx_length a0 w R) : Ca PP Fn.styx_length #[a0] w R :=
  fnC_calls mixed (f := Fn.styx_length) (an := S.styx_length.an) Tryz.func38 rfl (by show _ ≤ _; exact Nat.le_of_ble_eq_true rfl) (S.styx_length.eq a0 w R ▸ h)
end Go.Proofs.YtmlccboapkkcfaaGreatDoor
