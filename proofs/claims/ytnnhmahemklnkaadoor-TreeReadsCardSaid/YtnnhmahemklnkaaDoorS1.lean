import Derived.Test.YtnnhmahemklnkaaDoorSc
namespace Go.Proofs.YtnnhmahemklnkaaDoor
open Go Go.Sh
set_option linter.unusedVariables false
set_option maxRecDepth 100000
/-- slices.AppendSeq[[]string,string] -/
def S.slices_AppendSeq_sl_string_string (a0 a1 : Value) (w : World) (R : Value → World → Prop) : Prop :=
 Al Ty.sl_string (a0 : Value).cells w fun t2_1 w_2 =>
 RFo PP a1 w_2 (RB.one fun r_3 L_4 t7_5 w_6 Rn_7 Re_8 Rr_9 =>
 Bgn r_3 L_4 w_6 fun w_10 =>
 Ld t2_1 w_10 fun t8_11 =>
 Ef PP (Instr.buildSlice Ty.sl_string 1 #[(0, t7_5)]) w_10 fun t10_12 w_13 =>
 Ef PP (Builtin.append_ #[Ty.sl_string, Ty.sl_string] Ty.sl_string #[t8_11, t10_12]) w_13 fun t11_14 w_15 =>
 St PP 1 t2_1 t11_14 w_15 fun w_16 =>
 Rn_7 w_16) (fun D_17 w_18 =>
 Ld t2_1 w_18 fun t12_19 =>
 Lvs PP (.mark D_17 :: []) w_18 fun w_20 =>
 R t12_19 w_20) [] (fun D_21 w_22 =>
 Lvs PP (.mark D_21 :: []) w_22 fun w_23 =>
 R (.slice none 0 0) w_23)
def S.slices_AppendSeq_sl_string_string.an : Ann := (.seq .leaf (.seq (.seq .leaf (.block (.rf .leaf (.block .leaf) []))) (.seq .leaf .leaf)))
theorem S.slices_AppendSeq_sl_string_string.eq (a0 a1 : Value) (w : World) (R : Value → World → Prop) : S.slices_AppendSeq_sl_string_string a0 a1 w R = fnC PP 13 (Tryd.f62.body.getD .skip) S.slices_AppendSeq_sl_string_string.an [.tmp 4] [a0, a1] w R := by kernel_rfl
theorem S.slices_AppendSeq_sl_string_string.calls {a0 a1 : Value} {w : World} {R : Value → World → Prop} (h : S.slices_AppendSeq_sl_string_string a0 a1 w R) : Ca PP Fn.slices_AppendSeq_sl_string_string #[a0, a1] w R :=
  fnC_calls mixed (f := Fn.slices_AppendSeq_sl_string_string) (an := S.slices_AppendSeq_sl_string_string.an) Tryd.func62 rfl (by show _ ≤ _; exact Nat.le_of_ble_eq_true rfl) (S.slices_AppendSeq_sl_string_string.eq a0 a1 w R ▸ h)
end Go.Proofs.YtnnhmahemklnkaaDoor
