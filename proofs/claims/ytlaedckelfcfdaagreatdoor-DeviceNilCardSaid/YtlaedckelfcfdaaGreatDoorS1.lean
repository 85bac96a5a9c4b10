/- Own text. -/
import Derived.Test.YtlaedckelfcfdaaGreatDoorSc
namespace Go.Proofs.YtlaedckelfcfdaaGreatDoor
open Go Go.Sh
set_option linter.unusedVariables false
set_option maxRecDepth 100000
/-- (*acheron/device.Device).List -/
def S.device_Device_List (a0 a1 : Value) (w : World) (R : Value → World → Prop) : Prop :=
 Ca PP Fn.device_Device_opened #[a0, a1] w fun t1 w2 =>
 Ex t1 0 fun t3 =>
 Ex t1 1 fun t4 =>
 Al Ty.device_handle #[.pointer none, .int .i64 0] w2 fun t5 w6 =>
 St PP 2 t5 t3 w6 fun w7 =>
 Bi .neq t4 (.int .i64 0) fun t8 =>
 Cnd t8 (
 R (.tuple #[(.slice none 0 0), t4]) w7) (
 Fa 0 t5 fun t9 =>
 Ld t9 w7 fun t10 =>
 Nc t10 fun t11 =>
 Fa 12 t11 fun t12 =>
 Ld t12 w7 fun t13 =>
 Cnd t13 (
 R (.tuple #[(.slice none 0 0), (.int .i64 4)]) w7) (
 Fa 0 t5 fun t14 =>
 Ld t14 w7 fun t15 =>
 Ca PP Fn.device_file_isDir #[t15] w7 fun t16 w17 =>
 Un .not t16 fun t18 =>
 Cnd t18 (
 R (.tuple #[(.slice none 0 0), (.int .i64 18)]) w17) (
 Fa 0 t5 fun t19 =>
 Ld t19 w17 fun t20 =>
 Nc t20 fun t21 =>
 Fa 11 t21 fun t22 =>
 Ld t22 w17 fun t23 =>
 Ca PP Fn.maps_Keys_map_string_p_device_file_string_p_device_file #[t23] w17 fun t24 w25 =>
 Ca PP Fn.slices_Sorted_string #[t24] w25 fun t26 w27 =>
 LnL t26 fun t28 =>
 ∃ (I29 : List Value → World → Prop) (m30 : List Value → World → Nat), I29 [(.slice none 0 0), (.int .i64 0)] w27 ∧ ∀ t33 t34, ∀ (u31 : Env) (w32 : World), I29 [t33, t34] w32 →
 Bi .lss t34 t28 fun t35 =>
 Cnd t35 (
 IxA 1 t26 t34 fun t36 =>
 Ld t36 w32 fun t37 =>
 Fa 0 t5 fun t38 =>
 Ld t38 w32 fun t39 =>
 Nc t39 fun t40 =>
 Fa 11 t40 fun t41 =>
 Ld t41 w32 fun t42 =>
 Rd PP (Instr.lookup Ty.map_string_p_device_file t42 t37 false) w32 fun t43 =>
 Nc t43 fun t44 =>
 Fa 0 t44 fun t45 =>
 LdA PP 10 t45 w32 fun t46 =>
 Ef PP (Instr.buildSlice Ty.sl_api_Dir 1 #[(0, t46)]) w32 fun t47 w48 =>
 Ef PP (Builtin.append_ #[Ty.sl_api_Dir, Ty.sl_api_Dir] Ty.sl_api_Dir #[t33, t47]) w48 fun t49 w50 =>
 Bi .add t34 (.int .i64 1) fun t51 =>
 I29 [t49, t51] w50 ∧ m30 [t49, t51] w50 < m30 [t33, t34] w32) (
 R (.tuple #[t33, (.int .i64 0)]) w32))))
def S.device_Device_List.an : Ann := (.seq .leaf (.seq .leaf (.seq (.block (.seq .leaf (.cond (.seq .leaf .leaf) (.seq .leaf (.cond (.seq .leaf .leaf) (.seq .leaf (.cond (.seq .leaf .leaf) .leaf))))))) (.seq .leaf (.seq (.seq .leaf (.block (.loop (.seq .leaf (.seq (.cond .leaf .leaf) (.seq (.block (.seq .leaf .leaf)) .leaf))) [8,40] [10,41,42,43,44,45,46,47,48,49,50,51,52,53,54,55,56,57]))) (.seq .leaf .leaf))))))
theorem S.device_Device_List.eq (a0 a1 : Value) (w : World) (R : Value → World → Prop) : S.device_Device_List a0 a1 w R = fnC PP 59 (Tryz.f135.body.getD .skip) S.device_Device_List.an [.tmp 4, .tmp 5] [a0, a1] w R := by kernel_rfl
theorem S.device_Device_List.calls {a0 a1 : Value} {w : World} {R : Value → World → Prop} (h : S.device_Device_List a0 a1 w R) : Ca PP Fn.device_Device_List #[a0, a1] w R :=
  fnC_calls mixed (f := Fn.device_Device_List) (an := S.device_Device_List.an) Tryz.func135 rfl (by show _ ≤ _; exact Nat.le_of_ble_eq_true rfl) (S.device_Device_List.eq a0 a1 w R ▸ h)
/-- (*acheron/device.Device).Remove -/
def S.device_Device_Remove (a0 a1 a2 : Value) (w : World) (R : Value → World → Prop) : Prop :=
 Ca PP Fn.device_Device_refuse #[a0, a2] w fun t1 w2 =>
 R t1 w2
def S.device_Device_Remove.an : Ann := (.seq .leaf (.seq .leaf .leaf))
theorem S.device_Device_Remove.eq (a0 a1 a2 : Value) (w : World) (R : Value → World → Prop) : S.device_Device_Remove a0 a1 a2 w R = fnC PP 10 (Tryz.f136.body.getD .skip) S.device_Device_Remove.an [.tmp 6] [a0, a1, a2] w R := by kernel_rfl
theorem S.device_Device_Remove.calls {a0 a1 a2 : Value} {w : World} {R : Value → World → Prop} (h : S.device_Device_Remove a0 a1 a2 w R) : Ca PP Fn.device_Device_Remove #[a0, a1, a2] w R :=
  fnC_calls mixed (f := Fn.device_Device_Remove) (an := S.device_Device_Remove.an) Tryz.func136 rfl (by show _ ≤ _; exact Nat.le_of_ble_eq_true rfl) (S.device_Device_Remove.eq a0 a1 a2 w R ▸ h)
/-- (*acheron/device.Device).Stat -/
def S.device_Device_Stat (a0 a1 a2 : Value) (w : World) (R : Value → World → Prop) : Prop :=
 Al Ty.api_Dir #[.int .i64 0, .int .i64 0, .int .i64 0, .int .i64 0, .int .i64 0, .int .i64 0, .string ⟨#[]⟩, .string ⟨#[]⟩, .string ⟨#[]⟩, .string ⟨#[]⟩] w fun t1 w2 =>
 Ca PP Fn.device_Device_find #[a0, a2] w2 fun t3 w4 =>
 Ex t3 0 fun t5 =>
 Ex t3 1 fun t6 =>
 Bi .neq t6 (.int .i64 0) fun t7 =>
 Cnd t7 (
 Bd #[.int .i64 0, .int .i64 0, .int .i64 0, .int .i64 0, .int .i64 0, .int .i64 0, .string ⟨#[]⟩, .string ⟨#[]⟩, .string ⟨#[]⟩, .string ⟨#[]⟩] [(0, 3), (3, 1), (4, 1), (5, 1), (6, 1), (7, 1), (8, 1), (9, 1)] [] fun t8 =>
 St PP 10 t1 t8 w4 fun w9 =>
 LdA PP 10 t1 w9 fun t10 =>
 R (.tuple #[t10, t6]) w9) (
 Nc t5 fun t11 =>
 Fa 0 t11 fun t12 =>
 LdA PP 10 t12 w4 fun t13 =>
 St PP 10 t1 t13 w4 fun w14 =>
 LdA PP 10 t1 w14 fun t15 =>
 R (.tuple #[t15, (.int .i64 0)]) w14)
def S.device_Device_Stat.an : Ann := (.seq .leaf (.seq .leaf (.seq (.seq .leaf (.cond (.seq .leaf .leaf) .leaf)) (.seq .leaf .leaf))))
theorem S.device_Device_Stat.eq (a0 a1 a2 : Value) (w : World) (R : Value → World → Prop) : S.device_Device_Stat a0 a1 a2 w R = fnC PP 24 (Tryz.f137.body.getD .skip) S.device_Device_Stat.an [.cell 6 25, .tmp 7] [a0, a1, a2] w R := by kernel_rfl
theorem S.device_Device_Stat.calls {a0 a1 a2 : Value} {w : World} {R : Value → World → Prop} (h : S.device_Device_Stat a0 a1 a2 w R) : Ca PP Fn.device_Device_Stat #[a0, a1, a2] w R :=
  fnC_calls mixed (f := Fn.device_Device_Stat) (an := S.device_Device_Stat.an) Tryz.func137 rfl (by show _ ≤ _; exact Nat.le_of_ble_eq_true rfl) (S.device_Device_Stat.eq a0 a1 a2 w R ▸ h)
/-- (*acheron/device.Device).Walk -/
def S.device_Device_Walk (a0 a1 a2 a3 : Value) (w : World) (R : Value → World → Prop) : Prop :=
 Al Ty.api_Qid #[.int .i64 0, .int .i64 0, .int .i64 0] w fun t1 w2 =>
 Ca PP Fn.device_Device_find #[a0, a2] w2 fun t3 w4 =>
 Ex t3 0 fun t5 =>
 Ex t3 1 fun t6 =>
 Bi .neq t6 (.int .i64 0) fun t7 =>
 Cnd t7 (
 Bd #[.int .i64 0, .int .i64 0, .int .i64 0] [(0, 1), (1, 1), (2, 1)] [] fun t8 =>
 St PP 3 t1 t8 w4 fun w9 =>
 LdA PP 3 t1 w9 fun t10 =>
 R (.tuple #[t10, t6]) w9) (
 Ca PP Fn.device_file_isDir #[t5] w4 fun t11 w12 =>
 Un .not t11 fun t13 =>
 Cnd t13 (
 Bd #[.int .i64 0, .int .i64 0, .int .i64 0] [(0, 1), (1, 1), (2, 1)] [] fun t14 =>
 St PP 3 t1 t14 w12 fun w15 =>
 LdA PP 3 t1 w15 fun t16 =>
 R (.tuple #[t16, (.int .i64 18)]) w15) (
 Ca PP Fn.device_file_may #[t5, a1, (.int .i64 1)] w12 fun t17 w18 =>
 Un .not t17 fun t19 =>
 Cnd t19 (
 Bd #[.int .i64 0, .int .i64 0, .int .i64 0] [(0, 1), (1, 1), (2, 1)] [] fun t20 =>
 St PP 3 t1 t20 w18 fun w21 =>
 LdA PP 3 t1 w21 fun t22 =>
 R (.tuple #[t22, (.int .i64 17)]) w21) (
 ∀ J23 : List Value → World → Prop, (∀ t26, ∀ w25 : World, (∀ u24 : Env,
 Cnd t26 (
 Nc t5 fun t27 =>
 Fa 0 t27 fun t28 =>
 Fa 0 t28 fun t29 =>
 LdA PP 3 t29 w25 fun t30 =>
 St PP 3 t1 t30 w25 fun w31 =>
 LdA PP 3 t1 w31 fun t32 =>
 R (.tuple #[t32, (.int .i64 0)]) w31) (
 Bi .eql a3 (.string ⟨#[46, 46]⟩) fun t33 =>
 Cnd t33 (
 Nc t5 fun t34 =>
 Fa 10 t34 fun t35 =>
 Ld t35 w25 fun t36 =>
 Nc t36 fun t37 =>
 Fa 0 t37 fun t38 =>
 Fa 0 t38 fun t39 =>
 LdA PP 3 t39 w25 fun t40 =>
 St PP 3 t1 t40 w25 fun w41 =>
 LdA PP 3 t1 w41 fun t42 =>
 R (.tuple #[t42, (.int .i64 0)]) w41) (
 Ca PP Fn.tree_Valid #[a3] w25 fun t43 w44 =>
 Un .not t43 fun t45 =>
 Cnd t45 (
 Bd #[.int .i64 0, .int .i64 0, .int .i64 0] [(0, 1), (1, 1), (2, 1)] [] fun t46 =>
 St PP 3 t1 t46 w44 fun w47 =>
 LdA PP 3 t1 w47 fun t48 =>
 R (.tuple #[t48, (.int .i64 8)]) w47) (
 Nc t5 fun t49 =>
 Fa 11 t49 fun t50 =>
 Ld t50 w44 fun t51 =>
 Rd PP (Instr.lookup Ty.map_string_p_device_file t51 a3 true) w44 fun t52 =>
 Ex t52 0 fun t53 =>
 Ex t52 1 fun t54 =>
 Cnd t54 (
 Nc t53 fun t55 =>
 Fa 0 t55 fun t56 =>
 Fa 0 t56 fun t57 =>
 LdA PP 3 t57 w44 fun t58 =>
 St PP 3 t1 t58 w44 fun w59 =>
 LdA PP 3 t1 w59 fun t60 =>
 R (.tuple #[t60, (.int .i64 0)]) w59) (
 Bd #[.int .i64 0, .int .i64 0, .int .i64 0] [(0, 1), (1, 1), (2, 1)] [] fun t61 =>
 St PP 3 t1 t61 w44 fun w62 =>
 LdA PP 3 t1 w62 fun t63 =>
 R (.tuple #[t63, (.int .i64 4)]) w62))))) → J23 [t26] w25) →
 Bi .eql a3 (.string ⟨#[46]⟩) fun t64 =>
 Cnd t64 (
 J23 [t64] w18) (
 Bi .eql a3 (.string ⟨#[46, 46]⟩) fun t65 =>
 Gd t65 true (fun k66 => k66 t5 w18) w18 fun t67 w68 =>
 Gd t65 true (fun k69 => Nc t67 fun t72 =>
 k69 t72 w68) w68 fun t70 w71 =>
 Gd t65 true (fun k73 => Fa 10 t70 fun t76 =>
 k73 t76 w71) w71 fun t74 w75 =>
 Gd t65 true (fun k77 => Ld t74 w75 fun t80 =>
 k77 t80 w75) w75 fun t78 w79 =>
 Gd t65 true (fun k81 => Rd PP (eqS .eql Ty.p_device_file (.tmp 45) (.const (.pointer none)) t78 (.pointer none)) w79 fun t84 =>
 k81 t84 w79) w79 fun t82 w83 =>
 Pk t65 t82 (.bool false) fun t85 =>
 J23 [t85] w83))))
def S.device_Device_Walk.an : Ann := (.seq .leaf (.seq .leaf (.seq (.block (.seq .leaf (.cond (.seq .leaf .leaf) (.seq .leaf (.cond (.seq .leaf .leaf) (.seq .leaf (.cond (.seq .leaf .leaf) (.join (.seq .leaf (.cond .leaf .leaf)) [36] [37,38,39,40,41,42,43,44,45,46,47] (.cond (.seq .leaf .leaf) (.seq .leaf (.cond (.seq .leaf .leaf) (.seq .leaf (.cond (.seq .leaf .leaf) .leaf))))))))))))) (.seq (.seq .leaf (.seq .leaf (.cond (.seq .leaf .leaf) .leaf))) (.seq .leaf .leaf)))))
theorem S.device_Device_Walk.eq (a0 a1 a2 a3 : Value) (w : World) (R : Value → World → Prop) : S.device_Device_Walk a0 a1 a2 a3 w R = fnC PP 85 (Tryz.f138.body.getD .skip) S.device_Device_Walk.an [.cell 8 23, .tmp 9] [a0, a1, a2, a3] w R := by kernel_rfl
theorem S.device_Device_Walk.calls {a0 a1 a2 a3 : Value} {w : World} {R : Value → World → Prop} (h : S.device_Device_Walk a0 a1 a2 a3 w R) : Ca PP Fn.device_Device_Walk #[a0, a1, a2, a3] w R :=
  fnC_calls mixed (f := Fn.device_Device_Walk) (an := S.device_Device_Walk.an) Tryz.func138 rfl (by show _ ≤ _; exact Nat.le_of_ble_eq_true rfl) (S.device_Device_Walk.eq a0 a1 a2 a3 w R ▸ h)
/-- (*acheron/device.Device).Write -/
def S.device_Device_Write (a0 a1 a2 a3 : Value) (w : World) (R : Value → World → Prop) : Prop :=
 Ca PP Fn.device_Device_opened #[a0, a1] w fun t1 w2 =>
 Ex t1 0 fun t3 =>
 Ex t1 1 fun t4 =>
 Al Ty.device_handle #[.pointer none, .int .i64 0] w2 fun t5 w6 =>
 St PP 2 t5 t3 w6 fun w7 =>
 Bi .neq t4 (.int .i64 0) fun t8 =>
 Cnd t8 (
 R (.tuple #[(.int .i64 0), t4]) w7) (
 ∀ J9 : List Value → World → Prop, (∀ t12, ∀ w11 : World, (∀ u10 : Env,
 Cnd t12 (
 R (.tuple #[(.int .i64 0), (.int .i64 20)]) w11) (
 Fa 0 t5 fun t13 =>
 Ld t13 w11 fun t14 =>
 Nc t14 fun t15 =>
 Fa 12 t15 fun t16 =>
 Ld t16 w11 fun t17 =>
 Cnd t17 (
 R (.tuple #[(.int .i64 0), (.int .i64 4)]) w11) (
 Bi .lss a2 (.int .i64 0) fun t18 =>
 Cnd t18 (
 R (.tuple #[(.int .i64 0), (.int .i64 11)]) w11) (
 LnS a3 fun t19 =>
 Bi .gtr t19 (.int .i64 8192) fun t20 =>
 Cnd t20 (
 R (.tuple #[(.int .i64 0), (.int .i64 3)]) w11) (
 Fa 0 t5 fun t21 =>
 Ld t21 w11 fun t22 =>
 Nc t22 fun t23 =>
 Fa 14 t23 fun t24 =>
 Ld t24 w11 fun t25 =>
 CaV PP t25 #[a3] w11 fun t26 w27 =>
 Bi .neq t26 (.int .i64 0) fun t28 =>
 Cnd t28 (
 R (.tuple #[(.int .i64 0), t26]) w27) (
 LnS a3 fun t29 =>
 R (.tuple #[t29, (.int .i64 0)]) w27)))))) → J9 [t12] w11) →
 Fa 1 t5 fun t30 =>
 Ld t30 w7 fun t31 =>
 Bi .and t31 (.int .i64 3) fun t32 =>
 Bi .neq t32 (.int .i64 1) fun t33 =>
 Gd t33 true (fun k34 => Fa 1 t5 fun t37 =>
 k34 t37 w7) w7 fun t35 w36 =>
 Gd t33 true (fun k38 => Ld t35 w36 fun t41 =>
 k38 t41 w36) w36 fun t39 w40 =>
 Gd t33 true (fun k42 => Bi .and t39 (.int .i64 3) fun t45 =>
 k42 t45 w40) w40 fun t43 w44 =>
 Gd t33 true (fun k46 => Bi .neq t43 (.int .i64 2) fun t49 =>
 k46 t49 w44) w44 fun t47 w48 =>
 Pk t33 t47 (.bool false) fun t50 =>
 J9 [t50] w48)
def S.device_Device_Write.an : Ann := (.seq .leaf (.seq .leaf (.seq (.block (.seq .leaf (.cond (.seq .leaf .leaf) (.join .leaf [23] [24,25,26,27,28,29,30,31,32,33] (.cond (.seq .leaf .leaf) (.seq .leaf (.cond (.seq .leaf .leaf) (.seq .leaf (.cond (.seq .leaf .leaf) (.seq .leaf (.cond (.seq .leaf .leaf) .leaf))))))))))) (.seq (.seq .leaf (.seq .leaf (.cond (.seq .leaf .leaf) .leaf))) (.seq .leaf .leaf)))))
theorem S.device_Device_Write.eq (a0 a1 a2 a3 : Value) (w : World) (R : Value → World → Prop) : S.device_Device_Write a0 a1 a2 a3 w R = fnC PP 59 (Tryz.f139.body.getD .skip) S.device_Device_Write.an [.tmp 8, .tmp 9] [a0, a1, a2, a3] w R := by kernel_rfl
theorem S.device_Device_Write.calls {a0 a1 a2 a3 : Value} {w : World} {R : Value → World → Prop} (h : S.device_Device_Write a0 a1 a2 a3 w R) : Ca PP Fn.device_Device_Write #[a0, a1, a2, a3] w R :=
  fnC_calls mixed (f := Fn.device_Device_Write) (an := S.device_Device_Write.an) Tryz.func139 rfl (by show _ ≤ _; exact Nat.le_of_ble_eq_true rfl) (S.device_Device_Write.eq a0 a1 a2 a3 w R ▸ h)
/-- (*acheron/device.Device).Wstat -/
def S.device_Device_Wstat (a0 a1 a2 a3 : Value) (w : World) (R : Value → World → Prop) : Prop :=
 Al Ty.api_Dir (a3 : Value).cells w fun t1 w2 =>
 Ca PP Fn.device_Device_refuse #[a0, a2] w2 fun t3 w4 =>
 R t3 w4
def S.device_Device_Wstat.an : Ann := (.seq .leaf (.seq .leaf .leaf))
theorem S.device_Device_Wstat.eq (a0 a1 a2 a3 : Value) (w : World) (R : Value → World → Prop) : S.device_Device_Wstat a0 a1 a2 a3 w R = fnC PP 12 (Tryz.f140.body.getD .skip) S.device_Device_Wstat.an [.tmp 8] [a0, a1, a2, a3] w R := by kernel_rfl
theorem S.device_Device_Wstat.calls {a0 a1 a2 a3 : Value} {w : World} {R : Value → World → Prop} (h : S.device_Device_Wstat a0 a1 a2 a3 w R) : Ca PP Fn.device_Device_Wstat #[a0, a1, a2, a3] w R :=
  fnC_calls mixed (f := Fn.device_Device_Wstat) (an := S.device_Device_Wstat.an) Tryz.func140 rfl (by show _ ≤ _; exact Nat.le_of_ble_eq_true rfl) (S.device_Device_Wstat.eq a0 a1 a2 a3 w R ▸ h)
/-- (*acheron/device.Device).refuse -/
def S.device_Device_refuse (a0 a1 : Value) (w : World) (R : Value → World → Prop) : Prop :=
 Ca PP Fn.device_Device_find #[a0, a1] w fun t1 w2 =>
 Ex t1 0 fun t3 =>
 Ex t1 1 fun t4 =>
 Bi .neq t4 (.int .i64 0) fun t5 =>
 Cnd t5 (
 R t4 w2) (
 R (.int .i64 17) w2)
def S.device_Device_refuse.an : Ann := (.seq .leaf (.seq (.seq .leaf (.seq .leaf (.cond (.seq .leaf .leaf) .leaf))) (.seq .leaf .leaf)))
theorem S.device_Device_refuse.eq (a0 a1 : Value) (w : World) (R : Value → World → Prop) : S.device_Device_refuse a0 a1 w R = fnC PP 16 (Tryz.f141.body.getD .skip) S.device_Device_refuse.an [.tmp 4] [a0, a1] w R := by kernel_rfl
theorem S.device_Device_refuse.calls {a0 a1 : Value} {w : World} {R : Value → World → Prop} (h : S.device_Device_refuse a0 a1 w R) : Ca PP Fn.device_Device_refuse #[a0, a1] w R :=
  fnC_calls mixed (f := Fn.device_Device_refuse) (an := S.device_Device_refuse.an) Tryz.func141 rfl (by show _ ≤ _; exact Nat.le_of_ble_eq_true rfl) (S.device_Device_refuse.eq a0 a1 w R ▸ h)
end Go.Proofs.YtlaedckelfcfdaaGreatDoor
