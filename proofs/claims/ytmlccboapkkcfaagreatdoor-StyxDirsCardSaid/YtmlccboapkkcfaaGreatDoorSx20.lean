/-
  The protocol: the writer of fields visits a message.
-/
import Derived.Test.YtmlccboapkkcfaaGreatDoorSx8
import Derived.Test.YtmlccboapkkcfaaGreatDoorSh21
namespace Go.Proofs.YtmlccboapkkcfaaGreatDoor
open Go Go.Sh
set_option maxRecDepth 100000
set_option linter.unusedVariables false
set_option linter.unusedSimpArgs false
variable {w0 w : World} {F : Nat → Prop} {l : List As}
variable {o mb : Nat} {O : Ou} {m : Ms} {nv qv : Value} {N : Nat}
/-- A message's cells. -/
abbrev MC (m : Ms) (nv qv : Value) : List Value :=
  [i64 m.kind, i64 m.tag, i64 m.fid, i64 m.other, i64 m.old, i64 m.size, i64 m.off, i64 m.mode, i64 m.perm, sb m.ver, sb m.user, sb m.tree, sb m.name, nv, qv, sb m.data,
   i64 m.dir.q.kind, i64 m.dir.q.vers, i64 m.dir.q.path, i64 m.dir.mode, i64 m.dir.time, i64 m.dir.len, sb m.dir.name, sb m.dir.owner, sb m.dir.group, sb m.dir.last, i64 m.code]
abbrev mA (mb : Nat) (m : Ms) (nv qv : Value) : As := pt mb (oc (MC m nv qv) Ty.api_Msg)
def rngI (n : Int) : Prop := -9223372036854775808 ≤ n ∧ n ≤ 9223372036854775807
/-- A message that is small enough, and where its lists are read. -/
structure MI (w0 : World) (F : Nat → Prop) (l : List As) (m : Ms) (nv qv : Value) : Prop where
  ok : m.Ok
  rg : rngI m.fid ∧ rngI m.other ∧ rngI m.old ∧ rngI m.size ∧ rngI m.mode ∧ rngI m.perm ∧ rngI m.code
  kd : -9223372036854775808 ≤ m.kind ∧ m.kind ≤ 9223372036854775807
  n1 : m.names.length ≤ 1000
  q1 : m.qids.length ≤ 1000
  zn : ∀ t ∈ m.names, t.length ≤ 9223372036854775807
  zs : m.ver.length ≤ 1048576 ∧ m.user.length ≤ 1048576 ∧ m.tree.length ≤ 1048576 ∧ m.name.length ≤ 1048576 ∧ m.data.length ≤ 1048576
  zd : m.dir.name.length ≤ 9223372036854775807 ∧ m.dir.owner.length ≤ 9223372036854775807 ∧ m.dir.group.length ≤ 9223372036854775807 ∧ m.dir.last.length ≤ 9223372036854775807
  rn : RdS w0 F l 1 m.names.length nv (m.names.map sb)
  rq : RdS w0 F l 3 m.qids.length qv (qqs m.qids)
theorem fls_cases {k : Int} {fl : List Fl} (h : fls k = some fl) : ((k = 100 ∨ k = 101) ∧ fl = [.xS, .xv]) ∨ ((k = 102) ∧ fl = [.xf, .xu, .xt]) ∨ ((k = 103 ∨ k = 105) ∧ fl = [.xq]) ∨ ((k = 104) ∧ fl = [.xf, .xo, .xu, .xt]) ∨ ((k = 107) ∧ fl = [.xc]) ∨ ((k = 108) ∧ fl = [.xd]) ∨ ((k = 110) ∧ fl = [.xf, .xo, .xn]) ∨ ((k = 111) ∧ fl = [.xQ]) ∨ ((k = 112) ∧ fl = [.xf, .xm]) ∨ ((k = 113 ∨ k = 115) ∧ fl = [.xq, .xS]) ∨ ((k = 114) ∧ fl = [.xf, .xN, .xp, .xm]) ∨ ((k = 116) ∧ fl = [.xf, .xO, .xS]) ∨ ((k = 117) ∧ fl = [.xD]) ∨ ((k = 118) ∧ fl = [.xf, .xO, .xD]) ∨ ((k = 119) ∧ fl = [.xS]) ∨ ((k = 120 ∨ k = 122 ∨ k = 124) ∧ fl = [.xf]) ∨ ((k = 125) ∧ fl = [.xi]) ∨ ((k = 126) ∧ fl = [.xf, .xi]) ∨ ((k = 109 ∨ k = 121 ∨ k = 123 ∨ k = 127) ∧ fl = []) := by
  unfold fls at h
  by_cases c0 : k = 100 ∨ k = 101
  · rw [if_pos c0] at h; exact .inl ⟨c0, (Option.some.inj h).symm⟩
  rw [if_neg c0] at h
  by_cases c1 : k = 102
  · rw [if_pos c1] at h; exact .inr (.inl ⟨c1, (Option.some.inj h).symm⟩)
  rw [if_neg c1] at h
  by_cases c2 : k = 103 ∨ k = 105
  · rw [if_pos c2] at h; exact .inr (.inr (.inl ⟨c2, (Option.some.inj h).symm⟩))
  rw [if_neg c2] at h
  by_cases c3 : k = 104
  · rw [if_pos c3] at h; exact .inr (.inr (.inr (.inl ⟨c3, (Option.some.inj h).symm⟩)))
  rw [if_neg c3] at h
  by_cases c4 : k = 107
  · rw [if_pos c4] at h; exact .inr (.inr (.inr (.inr (.inl ⟨c4, (Option.some.inj h).symm⟩))))
  rw [if_neg c4] at h
  by_cases c5 : k = 108
  · rw [if_pos c5] at h; exact .inr (.inr (.inr (.inr (.inr (.inl ⟨c5, (Option.some.inj h).symm⟩)))))
  rw [if_neg c5] at h
  by_cases c6 : k = 110
  · rw [if_pos c6] at h; exact .inr (.inr (.inr (.inr (.inr (.inr (.inl ⟨c6, (Option.some.inj h).symm⟩))))))
  rw [if_neg c6] at h
  by_cases c7 : k = 111
  · rw [if_pos c7] at h; exact .inr (.inr (.inr (.inr (.inr (.inr (.inr (.inl ⟨c7, (Option.some.inj h).symm⟩)))))))
  rw [if_neg c7] at h
  by_cases c8 : k = 112
  · rw [if_pos c8] at h; exact .inr (.inr (.inr (.inr (.inr (.inr (.inr (.inr (.inl ⟨c8, (Option.some.inj h).symm⟩))))))))
  rw [if_neg c8] at h
  by_cases c9 : k = 113 ∨ k = 115
  · rw [if_pos c9] at h; exact .inr (.inr (.inr (.inr (.inr (.inr (.inr (.inr (.inr (.inl ⟨c9, (Option.some.inj h).symm⟩)))))))))
  rw [if_neg c9] at h
  by_cases c10 : k = 114
  · rw [if_pos c10] at h; exact .inr (.inr (.inr (.inr (.inr (.inr (.inr (.inr (.inr (.inr (.inl ⟨c10, (Option.some.inj h).symm⟩))))))))))
  rw [if_neg c10] at h
  by_cases c11 : k = 116
  · rw [if_pos c11] at h; exact .inr (.inr (.inr (.inr (.inr (.inr (.inr (.inr (.inr (.inr (.inr (.inl ⟨c11, (Option.some.inj h).symm⟩)))))))))))
  rw [if_neg c11] at h
  by_cases c12 : k = 117
  · rw [if_pos c12] at h; exact .inr (.inr (.inr (.inr (.inr (.inr (.inr (.inr (.inr (.inr (.inr (.inr (.inl ⟨c12, (Option.some.inj h).symm⟩))))))))))))
  rw [if_neg c12] at h
  by_cases c13 : k = 118
  · rw [if_pos c13] at h; exact .inr (.inr (.inr (.inr (.inr (.inr (.inr (.inr (.inr (.inr (.inr (.inr (.inr (.inl ⟨c13, (Option.some.inj h).symm⟩)))))))))))))
  rw [if_neg c13] at h
  by_cases c14 : k = 119
  · rw [if_pos c14] at h; exact .inr (.inr (.inr (.inr (.inr (.inr (.inr (.inr (.inr (.inr (.inr (.inr (.inr (.inr (.inl ⟨c14, (Option.some.inj h).symm⟩))))))))))))))
  rw [if_neg c14] at h
  by_cases c15 : k = 120 ∨ k = 122 ∨ k = 124
  · rw [if_pos c15] at h; exact .inr (.inr (.inr (.inr (.inr (.inr (.inr (.inr (.inr (.inr (.inr (.inr (.inr (.inr (.inr (.inl ⟨c15, (Option.some.inj h).symm⟩)))))))))))))))
  rw [if_neg c15] at h
  by_cases c16 : k = 125
  · rw [if_pos c16] at h; exact .inr (.inr (.inr (.inr (.inr (.inr (.inr (.inr (.inr (.inr (.inr (.inr (.inr (.inr (.inr (.inr (.inl ⟨c16, (Option.some.inj h).symm⟩))))))))))))))))
  rw [if_neg c16] at h
  by_cases c17 : k = 126
  · rw [if_pos c17] at h; exact .inr (.inr (.inr (.inr (.inr (.inr (.inr (.inr (.inr (.inr (.inr (.inr (.inr (.inr (.inr (.inr (.inr (.inl ⟨c17, (Option.some.inj h).symm⟩)))))))))))))))))
  rw [if_neg c17] at h
  by_cases c18 : k = 109 ∨ k = 121 ∨ k = 123 ∨ k = 127
  · rw [if_pos c18] at h; exact .inr (.inr (.inr (.inr (.inr (.inr (.inr (.inr (.inr (.inr (.inr (.inr (.inr (.inr (.inr (.inr (.inr (.inr (⟨c18, (Option.some.inj h).symm⟩))))))))))))))))))
  rw [if_neg c18] at h
  cases h
theorem flds0 (m : Ms) (O : Ou) : Ou.flds m [] O = O := rfl
theorem flds1 (m : Ms) (O : Ou) (a : Fl) : Ou.flds m [a] O = Ou.fld m O a := rfl
theorem flds2 (m : Ms) (O : Ou) (a b : Fl) : Ou.flds m [a, b] O = Ou.fld m (Ou.fld m O a) b := rfl
theorem flds3 (m : Ms) (O : Ou) (a b c : Fl) : Ou.flds m [a, b, c] O = Ou.fld m (Ou.fld m (Ou.fld m O a) b) c := rfl
theorem flds4 (m : Ms) (O : Ou) (a b c d : Fl) : Ou.flds m [a, b, c, d] O = Ou.fld m (Ou.fld m (Ou.fld m (Ou.fld m O a) b) c) d := rfl
theorem fld_c (m : Ms) (O : Ou) : Ou.fld m O .xc = O.num m.code 2 := rfl
theorem names_len2 (O : Ou) {ns : List (List UInt8)} (h : ns.length ≤ 1000) : ((O.count ns.length).texts ns).s.length ≤ O.s.length + 8500000 := by
  have h1 := count_len O ns.length
  have h2 := texts_len ns (O.count ns.length)
  have h3 : ns.length * 8194 ≤ 1000 * 8194 := Nat.mul_le_mul_right _ h
  omega
theorem qids_len2 (O : Ou) {qs : List Qi} (h : qs.length ≤ 1000) : ((O.count qs.length).qs qs).s.length ≤ O.s.length + 15000 := by
  have h1 := count_len O qs.length
  have h2 := qs_len qs (O.count qs.length)
  have h3 : qs.length * 13 ≤ 1000 * 13 := Nat.mul_le_mul_right _ h
  omega
theorem dir_len (O : Ou) (d : Di) : (O.dir d).s.length ≤ O.s.length + 10000 := by
  unfold Ou.dir
  have h1 := sized_len { O with bad := O.bad || (o0.body d).bad, ov := O.ov || (o0.body d).ov || decide ((o0.body d).s.length + 2 > 1024) } (o0.body d).s 2
  have h3 : ({ O with bad := O.bad || (o0.body d).bad, ov := O.ov || (o0.body d).ov || decide ((o0.body d).s.length + 2 > 1024) } : Ou).s.length = O.s.length := rfl
  exact Nat.le_trans h1 (by rw [h3]; omega)
theorem of_S (M : MI w0 F l m nv qv) (hN : N ≤ 50000000) (hs : O.s.length ≤ N) (E : OT w0 F o O (mA mb m nv qv :: l) w) :
    Ca PP Fn.styx_output_num #[ptr o, .pointer (some ⟨mb, 5, none⟩), i64 4] w fun r w' => r = .tuple #[] ∧ (Ou.fld m O .xS).s.length ≤ N + 9000000 ∧ OT w0 F o (Ou.fld m O .xS) (mA mb m nv qv :: l) w' :=
  (onum_ok (k := 4) (by omega) (RdP.pt (off := 5) List.mem_cons_self) (by omega) E).mono fun r w' h => ⟨h.1, by
    have h1 := num_len O m.size 4
    have h2 : Ou.fld m O .xS = O.num m.size 4 := rfl
    rw [h2]
    omega, h.2⟩
theorem of_f (M : MI w0 F l m nv qv) (hN : N ≤ 50000000) (hs : O.s.length ≤ N) (E : OT w0 F o O (mA mb m nv qv :: l) w) :
    Ca PP Fn.styx_output_num #[ptr o, .pointer (some ⟨mb, 2, none⟩), i64 4] w fun r w' => r = .tuple #[] ∧ (Ou.fld m O .xf).s.length ≤ N + 9000000 ∧ OT w0 F o (Ou.fld m O .xf) (mA mb m nv qv :: l) w' :=
  (onum_ok (k := 4) (by omega) (RdP.pt (off := 2) List.mem_cons_self) (by omega) E).mono fun r w' h => ⟨h.1, by
    have h1 := num_len O m.fid 4
    have h2 : Ou.fld m O .xf = O.num m.fid 4 := rfl
    rw [h2]
    omega, h.2⟩
theorem of_o (M : MI w0 F l m nv qv) (hN : N ≤ 50000000) (hs : O.s.length ≤ N) (E : OT w0 F o O (mA mb m nv qv :: l) w) :
    Ca PP Fn.styx_output_num #[ptr o, .pointer (some ⟨mb, 3, none⟩), i64 4] w fun r w' => r = .tuple #[] ∧ (Ou.fld m O .xo).s.length ≤ N + 9000000 ∧ OT w0 F o (Ou.fld m O .xo) (mA mb m nv qv :: l) w' :=
  (onum_ok (k := 4) (by omega) (RdP.pt (off := 3) List.mem_cons_self) (by omega) E).mono fun r w' h => ⟨h.1, by
    have h1 := num_len O m.other 4
    have h2 : Ou.fld m O .xo = O.num m.other 4 := rfl
    rw [h2]
    omega, h.2⟩
theorem of_d (M : MI w0 F l m nv qv) (hN : N ≤ 50000000) (hs : O.s.length ≤ N) (E : OT w0 F o O (mA mb m nv qv :: l) w) :
    Ca PP Fn.styx_output_num #[ptr o, .pointer (some ⟨mb, 4, none⟩), i64 2] w fun r w' => r = .tuple #[] ∧ (Ou.fld m O .xd).s.length ≤ N + 9000000 ∧ OT w0 F o (Ou.fld m O .xd) (mA mb m nv qv :: l) w' :=
  (onum_ok (k := 2) (by omega) (RdP.pt (off := 4) List.mem_cons_self) (by omega) E).mono fun r w' h => ⟨h.1, by
    have h1 := num_len O m.old 2
    have h2 : Ou.fld m O .xd = O.num m.old 2 := rfl
    rw [h2]
    omega, h.2⟩
theorem of_m (M : MI w0 F l m nv qv) (hN : N ≤ 50000000) (hs : O.s.length ≤ N) (E : OT w0 F o O (mA mb m nv qv :: l) w) :
    Ca PP Fn.styx_output_num #[ptr o, .pointer (some ⟨mb, 7, none⟩), i64 1] w fun r w' => r = .tuple #[] ∧ (Ou.fld m O .xm).s.length ≤ N + 9000000 ∧ OT w0 F o (Ou.fld m O .xm) (mA mb m nv qv :: l) w' :=
  (onum_ok (k := 1) (by omega) (RdP.pt (off := 7) List.mem_cons_self) (by omega) E).mono fun r w' h => ⟨h.1, by
    have h1 := num_len O m.mode 1
    have h2 : Ou.fld m O .xm = O.num m.mode 1 := rfl
    rw [h2]
    omega, h.2⟩
theorem of_p (M : MI w0 F l m nv qv) (hN : N ≤ 50000000) (hs : O.s.length ≤ N) (E : OT w0 F o O (mA mb m nv qv :: l) w) :
    Ca PP Fn.styx_output_num #[ptr o, .pointer (some ⟨mb, 8, none⟩), i64 4] w fun r w' => r = .tuple #[] ∧ (Ou.fld m O .xp).s.length ≤ N + 9000000 ∧ OT w0 F o (Ou.fld m O .xp) (mA mb m nv qv :: l) w' :=
  (onum_ok (k := 4) (by omega) (RdP.pt (off := 8) List.mem_cons_self) (by omega) E).mono fun r w' h => ⟨h.1, by
    have h1 := num_len O m.perm 4
    have h2 : Ou.fld m O .xp = O.num m.perm 4 := rfl
    rw [h2]
    omega, h.2⟩
theorem of_v (M : MI w0 F l m nv qv) (hN : N ≤ 50000000) (hs : O.s.length ≤ N) (E : OT w0 F o O (mA mb m nv qv :: l) w) :
    Ca PP Fn.styx_output_text #[ptr o, .pointer (some ⟨mb, 9, none⟩)] w fun r w' => r = .tuple #[] ∧ (Ou.fld m O .xv).s.length ≤ N + 9000000 ∧ OT w0 F o (Ou.fld m O .xv) (mA mb m nv qv :: l) w' :=
  (otext_ok (RdP.pt (off := 9) List.mem_cons_self) (by have := M.zs; omega) (by omega) E).mono fun r w' h => ⟨h.1, by
    have h1 := sized_len O m.ver 2
    have h2 : Ou.fld m O .xv = O.sized m.ver 2 := rfl
    rw [h2]
    omega, h.2⟩
theorem of_u (M : MI w0 F l m nv qv) (hN : N ≤ 50000000) (hs : O.s.length ≤ N) (E : OT w0 F o O (mA mb m nv qv :: l) w) :
    Ca PP Fn.styx_output_text #[ptr o, .pointer (some ⟨mb, 10, none⟩)] w fun r w' => r = .tuple #[] ∧ (Ou.fld m O .xu).s.length ≤ N + 9000000 ∧ OT w0 F o (Ou.fld m O .xu) (mA mb m nv qv :: l) w' :=
  (otext_ok (RdP.pt (off := 10) List.mem_cons_self) (by have := M.zs; omega) (by omega) E).mono fun r w' h => ⟨h.1, by
    have h1 := sized_len O m.user 2
    have h2 : Ou.fld m O .xu = O.sized m.user 2 := rfl
    rw [h2]
    omega, h.2⟩
theorem of_t (M : MI w0 F l m nv qv) (hN : N ≤ 50000000) (hs : O.s.length ≤ N) (E : OT w0 F o O (mA mb m nv qv :: l) w) :
    Ca PP Fn.styx_output_text #[ptr o, .pointer (some ⟨mb, 11, none⟩)] w fun r w' => r = .tuple #[] ∧ (Ou.fld m O .xt).s.length ≤ N + 9000000 ∧ OT w0 F o (Ou.fld m O .xt) (mA mb m nv qv :: l) w' :=
  (otext_ok (RdP.pt (off := 11) List.mem_cons_self) (by have := M.zs; omega) (by omega) E).mono fun r w' h => ⟨h.1, by
    have h1 := sized_len O m.tree 2
    have h2 : Ou.fld m O .xt = O.sized m.tree 2 := rfl
    rw [h2]
    omega, h.2⟩
theorem of_N (M : MI w0 F l m nv qv) (hN : N ≤ 50000000) (hs : O.s.length ≤ N) (E : OT w0 F o O (mA mb m nv qv :: l) w) :
    Ca PP Fn.styx_output_text #[ptr o, .pointer (some ⟨mb, 12, none⟩)] w fun r w' => r = .tuple #[] ∧ (Ou.fld m O .xN).s.length ≤ N + 9000000 ∧ OT w0 F o (Ou.fld m O .xN) (mA mb m nv qv :: l) w' :=
  (otext_ok (RdP.pt (off := 12) List.mem_cons_self) (by have := M.zs; omega) (by omega) E).mono fun r w' h => ⟨h.1, by
    have h1 := sized_len O m.name 2
    have h2 : Ou.fld m O .xN = O.sized m.name 2 := rfl
    rw [h2]
    omega, h.2⟩
theorem of_D (M : MI w0 F l m nv qv) (hN : N ≤ 50000000) (hs : O.s.length ≤ N) (E : OT w0 F o O (mA mb m nv qv :: l) w) :
    Ca PP Fn.styx_output_data #[ptr o, .pointer (some ⟨mb, 15, none⟩)] w fun r w' => r = .tuple #[] ∧ (Ou.fld m O .xD).s.length ≤ N + 9000000 ∧ OT w0 F o (Ou.fld m O .xD) (mA mb m nv qv :: l) w' :=
  (odata_ok (RdP.pt (off := 15) List.mem_cons_self) (by have := M.zs; omega) (by omega) E).mono fun r w' h => ⟨h.1, by
    have h1 := sized_len O m.data 4
    have h2 : Ou.fld m O .xD = O.sized m.data 4 := rfl
    rw [h2]
    omega, h.2⟩
theorem of_O (M : MI w0 F l m nv qv) (hN : N ≤ 50000000) (hs : O.s.length ≤ N) (E : OT w0 F o O (mA mb m nv qv :: l) w) :
    Ca PP Fn.styx_output_long #[ptr o, .pointer (some ⟨mb, 6, none⟩)] w fun r w' => r = .tuple #[] ∧ (Ou.fld m O .xO).s.length ≤ N + 9000000 ∧ OT w0 F o (Ou.fld m O .xO) (mA mb m nv qv :: l) w' :=
  (olong_ok (RdP.pt (off := 6) List.mem_cons_self) M.ok.off (by omega) E).mono fun r w' h => ⟨h.1, by
    have h1 := least_len O m.off 0
    have h2 : Ou.fld m O .xO = O.least m.off 0 := rfl
    rw [h2]
    omega, h.2⟩
theorem of_n (M : MI w0 F l m nv qv) (hN : N ≤ 50000000) (hs : O.s.length ≤ N) (E : OT w0 F o O (mA mb m nv qv :: l) w) :
    Ca PP Fn.styx_output_names #[ptr o, .pointer (some ⟨mb, 13, none⟩)] w fun r w' => r = .tuple #[] ∧ (Ou.fld m O .xn).s.length ≤ N + 9000000 ∧ OT w0 F o (Ou.fld m O .xn) (mA mb m nv qv :: l) w' :=
  (onames_ok (RdP.pt (off := 13) List.mem_cons_self) (M.rn.cons _) M.n1 M.zn (by omega) E).mono fun r w' h => ⟨h.1, by
    have h1 := names_len2 O M.n1
    have h2 : Ou.fld m O .xn = (O.count m.names.length).texts m.names := rfl
    rw [h2]
    omega, h.2⟩
theorem of_Q (M : MI w0 F l m nv qv) (hN : N ≤ 50000000) (hs : O.s.length ≤ N) (E : OT w0 F o O (mA mb m nv qv :: l) w) :
    Ca PP Fn.styx_output_qids #[ptr o, .pointer (some ⟨mb, 14, none⟩)] w fun r w' => r = .tuple #[] ∧ (Ou.fld m O .xQ).s.length ≤ N + 9000000 ∧ OT w0 F o (Ou.fld m O .xQ) (mA mb m nv qv :: l) w' :=
  (oqids_ok (RdP.pt (off := 14) List.mem_cons_self) (M.rq.cons _) M.q1 M.ok.qids (by omega) E).mono fun r w' h => ⟨h.1, by
    have h1 := qids_len2 O M.q1
    have h2 : Ou.fld m O .xQ = (O.count m.qids.length).qs m.qids := rfl
    rw [h2]
    omega, h.2⟩
theorem of_i (M : MI w0 F l m nv qv) (hN : N ≤ 50000000) (hs : O.s.length ≤ N) (E : OT w0 F o O (mA mb m nv qv :: l) w) :
    Ca PP Fn.styx_output_dir #[ptr o, .pointer (some ⟨mb, 16, none⟩)] w fun r w' => r = .tuple #[] ∧ (Ou.fld m O .xi).s.length ≤ N + 9000000 ∧ OT w0 F o (Ou.fld m O .xi) (mA mb m nv qv :: l) w' :=
  (odir_ok (xs := [i64 m.code]) (RdP.pt (off := 16) List.mem_cons_self) M.ok.dir M.zd (by omega) E).mono fun r w' h => ⟨h.1, by
    have h1 := dir_len O m.dir
    have h2 : Ou.fld m O .xi = O.dir m.dir := rfl
    rw [h2]
    omega, h.2⟩
theorem of_q (M : MI w0 F l m nv qv) (hq : ∃ x, m.qids = [x]) (hN : N ≤ 50000000) (hs : O.s.length ≤ N) (E : OT w0 F o O (mA mb m nv qv :: l) w) :
    Ca PP Fn.styx_one #[.iface Ty.p_styx_output (ptr o), ptr mb] w fun r w' => r = .tuple #[] ∧ (Ou.fld m O .xq).s.length ≤ N + 9000000 ∧ OT w0 F o (Ou.fld m O .xq) (mA mb m nv qv :: l) w' := by
  obtain ⟨x, hx⟩ := hq
  obtain ⟨v, E⟩ := E
  have hr := M.rq.cons (mA mb m nv qv)
  have ho := M.ok.qids
  rw [hx] at hr ho
  refine S.styx_one.calls ?_
  unfold S.styx_one
  (intro J1 hJ1)
  have fin1 : ∀ w_, Hs w0 F w_ (pt o (oc [v, .bool O.bad, .bool O.ov] Ty.styx_output) :: bsA v O.s :: mA mb m nv qv :: l) → J1 [] w_ := by
    intro w_ E
    (repeat with_reducible first | refine Stp.go ?_ | refine StpE.go E ?_ | (apply hJ1; intro u_))
    refine hr.ix (by omega) (by show 0 < 1; omega) (by omega) ?_
    intro a1 ha1
    have h1 := qid_len O x
    refine (oqid_ok (q := x) (xs := []) ha1 (ho x List.mem_cons_self) (by omega) ⟨_, E⟩).mono ?_
    clear E
    rintro r w_ ⟨rfl, E⟩
    have h2 : Ou.fld m O .xq = O.qid x := by unfold Ou.fld; rw [hx]
    rw [h2]
    exact ⟨rfl, by omega, E⟩
  clear hJ1
  (repeat with_reducible first | refine Stp.go ?_ | refine StpE.go E ?_)
  refine hr.len ?_
  (repeat first | (with_reducible first | refine Stp.go ?_) | ((with_reducible refine Bi.dec false ?_ ?_); focus exact rfl))
  exact fin1 _ E
end Go.Proofs.YtmlccboapkkcfaaGreatDoor

/-
  The protocol: the writer of fields visits a message: kinds.
-/
namespace Go.Proofs.YtmlccboapkkcfaaGreatDoor
open Go Go.Sh
set_option maxRecDepth 100000
set_option linter.unusedVariables false
set_option linter.unusedSimpArgs false
variable {w0 w : World} {F : Nat → Prop} {l : List As}
variable {o mb : Nat} {O : Ou} {m : Ms} {nv qv : Value} {N : Nat}
theorem ok_100 (hk : m.kind = 100) (M : MI w0 F l m nv qv) (hq : Fl.xq ∈ ([.xS, .xv] : List Fl) → ∃ x, m.qids = [x]) (hs : O.s.length ≤ 1000000) (E : OT w0 F o O (mA mb m nv qv :: l) w) :
    Ca PP Fn.styx_fields #[.iface Ty.p_styx_output (ptr o), ptr mb] w fun r w' => r = .tuple #[] ∧ (Ou.flds m [.xS, .xv] O).s.length ≤ 50000000 ∧ OT w0 F o (Ou.flds m [.xS, .xv] O) (mA mb m nv qv :: l) w' := by
  refine S.styx_fields.calls ?_
  unfold S.styx_fields
  obtain ⟨v, E⟩ := E
  (repeat with_reducible first | refine Stp.go ?_ | refine StpE.go E ?_)
  rw [hk]
  (repeat first | (with_reducible first | refine Stp.go ?_ | (refine StpW.go E ?_; clear E; intro w_ E) | (apply hJ_; intro u_)) | ((with_reducible refine Bi.dec true ?_ ?_); focus exact rfl) | (intro J_ hJ_))
  refine (of_S M (by omega) hs ⟨_, E⟩).mono ?_
  clear E
  rintro r w_ ⟨rfl, hs1, v, E⟩
  (repeat with_reducible first | refine Stp.go ?_ | (refine StpW.go E ?_; clear E; intro w_ E))
  refine (of_v M (by omega) hs1 ⟨_, E⟩).mono ?_
  clear E
  rintro r w_ ⟨rfl, hs2, v, E⟩
  skip
  rw [flds2]
  exact ⟨rfl, by omega, v, E⟩
theorem ok_101 (hk : m.kind = 101) (M : MI w0 F l m nv qv) (hq : Fl.xq ∈ ([.xS, .xv] : List Fl) → ∃ x, m.qids = [x]) (hs : O.s.length ≤ 1000000) (E : OT w0 F o O (mA mb m nv qv :: l) w) :
    Ca PP Fn.styx_fields #[.iface Ty.p_styx_output (ptr o), ptr mb] w fun r w' => r = .tuple #[] ∧ (Ou.flds m [.xS, .xv] O).s.length ≤ 50000000 ∧ OT w0 F o (Ou.flds m [.xS, .xv] O) (mA mb m nv qv :: l) w' := by
  refine S.styx_fields.calls ?_
  unfold S.styx_fields
  obtain ⟨v, E⟩ := E
  (repeat with_reducible first | refine Stp.go ?_ | refine StpE.go E ?_)
  rw [hk]
  (repeat first | (with_reducible first | refine Stp.go ?_ | (refine StpW.go E ?_; clear E; intro w_ E) | (apply hJ_; intro u_)) | ((with_reducible refine Bi.dec true ?_ ?_); focus exact rfl) | ((with_reducible refine Bi.dec false ?_ ?_); focus exact rfl) | (intro J_ hJ_))
  refine (of_S M (by omega) hs ⟨_, E⟩).mono ?_
  clear E
  rintro r w_ ⟨rfl, hs1, v, E⟩
  (repeat with_reducible first | refine Stp.go ?_ | (refine StpW.go E ?_; clear E; intro w_ E))
  refine (of_v M (by omega) hs1 ⟨_, E⟩).mono ?_
  clear E
  rintro r w_ ⟨rfl, hs2, v, E⟩
  skip
  rw [flds2]
  exact ⟨rfl, by omega, v, E⟩
theorem ok_102 (hk : m.kind = 102) (M : MI w0 F l m nv qv) (hq : Fl.xq ∈ ([.xf, .xu, .xt] : List Fl) → ∃ x, m.qids = [x]) (hs : O.s.length ≤ 1000000) (E : OT w0 F o O (mA mb m nv qv :: l) w) :
    Ca PP Fn.styx_fields #[.iface Ty.p_styx_output (ptr o), ptr mb] w fun r w' => r = .tuple #[] ∧ (Ou.flds m [.xf, .xu, .xt] O).s.length ≤ 50000000 ∧ OT w0 F o (Ou.flds m [.xf, .xu, .xt] O) (mA mb m nv qv :: l) w' := by
  refine S.styx_fields.calls ?_
  unfold S.styx_fields
  obtain ⟨v, E⟩ := E
  (repeat with_reducible first | refine Stp.go ?_ | refine StpE.go E ?_)
  rw [hk]
  (repeat first | (with_reducible first | refine Stp.go ?_ | (refine StpW.go E ?_; clear E; intro w_ E) | (apply hJ_; intro u_)) | ((with_reducible refine Bi.dec true ?_ ?_); focus exact rfl) | ((with_reducible refine Bi.dec false ?_ ?_); focus exact rfl) | (intro J_ hJ_))
  refine (of_f M (by omega) hs ⟨_, E⟩).mono ?_
  clear E
  rintro r w_ ⟨rfl, hs1, v, E⟩
  (repeat with_reducible first | refine Stp.go ?_ | (refine StpW.go E ?_; clear E; intro w_ E))
  refine (of_u M (by omega) hs1 ⟨_, E⟩).mono ?_
  clear E
  rintro r w_ ⟨rfl, hs2, v, E⟩
  (repeat with_reducible first | refine Stp.go ?_ | (refine StpW.go E ?_; clear E; intro w_ E))
  refine (of_t M (by omega) hs2 ⟨_, E⟩).mono ?_
  clear E
  rintro r w_ ⟨rfl, hs3, v, E⟩
  skip
  rw [flds3]
  exact ⟨rfl, by omega, v, E⟩
theorem ok_103 (hk : m.kind = 103) (M : MI w0 F l m nv qv) (hq : Fl.xq ∈ ([.xq] : List Fl) → ∃ x, m.qids = [x]) (hs : O.s.length ≤ 1000000) (E : OT w0 F o O (mA mb m nv qv :: l) w) :
    Ca PP Fn.styx_fields #[.iface Ty.p_styx_output (ptr o), ptr mb] w fun r w' => r = .tuple #[] ∧ (Ou.flds m [.xq] O).s.length ≤ 50000000 ∧ OT w0 F o (Ou.flds m [.xq] O) (mA mb m nv qv :: l) w' := by
  refine S.styx_fields.calls ?_
  unfold S.styx_fields
  obtain ⟨v, E⟩ := E
  (repeat with_reducible first | refine Stp.go ?_ | refine StpE.go E ?_)
  rw [hk]
  (repeat first | (with_reducible first | refine Stp.go ?_ | (apply hJ_; intro u_)) | ((with_reducible refine Bi.dec true ?_ ?_); focus exact rfl) | ((with_reducible refine Bi.dec false ?_ ?_); focus exact rfl) | (intro J_ hJ_))
  refine (of_q M (hq List.mem_cons_self) (by omega) hs ⟨_, E⟩).mono ?_
  clear E
  rintro r w_ ⟨rfl, hs1, v, E⟩
  skip
  rw [flds1]
  exact ⟨rfl, by omega, v, E⟩
theorem ok_105 (hk : m.kind = 105) (M : MI w0 F l m nv qv) (hq : Fl.xq ∈ ([.xq] : List Fl) → ∃ x, m.qids = [x]) (hs : O.s.length ≤ 1000000) (E : OT w0 F o O (mA mb m nv qv :: l) w) :
    Ca PP Fn.styx_fields #[.iface Ty.p_styx_output (ptr o), ptr mb] w fun r w' => r = .tuple #[] ∧ (Ou.flds m [.xq] O).s.length ≤ 50000000 ∧ OT w0 F o (Ou.flds m [.xq] O) (mA mb m nv qv :: l) w' := by
  refine S.styx_fields.calls ?_
  unfold S.styx_fields
  obtain ⟨v, E⟩ := E
  (repeat with_reducible first | refine Stp.go ?_ | refine StpE.go E ?_)
  rw [hk]
  (repeat first | (with_reducible first | refine Stp.go ?_ | (apply hJ_; intro u_)) | ((with_reducible refine Bi.dec true ?_ ?_); focus exact rfl) | ((with_reducible refine Bi.dec false ?_ ?_); focus exact rfl) | (intro J_ hJ_))
  refine (of_q M (hq List.mem_cons_self) (by omega) hs ⟨_, E⟩).mono ?_
  clear E
  rintro r w_ ⟨rfl, hs1, v, E⟩
  skip
  rw [flds1]
  exact ⟨rfl, by omega, v, E⟩
theorem ok_104 (hk : m.kind = 104) (M : MI w0 F l m nv qv) (hq : Fl.xq ∈ ([.xf, .xo, .xu, .xt] : List Fl) → ∃ x, m.qids = [x]) (hs : O.s.length ≤ 1000000) (E : OT w0 F o O (mA mb m nv qv :: l) w) :
    Ca PP Fn.styx_fields #[.iface Ty.p_styx_output (ptr o), ptr mb] w fun r w' => r = .tuple #[] ∧ (Ou.flds m [.xf, .xo, .xu, .xt] O).s.length ≤ 50000000 ∧ OT w0 F o (Ou.flds m [.xf, .xo, .xu, .xt] O) (mA mb m nv qv :: l) w' := by
  refine S.styx_fields.calls ?_
  unfold S.styx_fields
  obtain ⟨v, E⟩ := E
  (repeat with_reducible first | refine Stp.go ?_ | refine StpE.go E ?_)
  rw [hk]
  (repeat first | (with_reducible first | refine Stp.go ?_ | (refine StpW.go E ?_; clear E; intro w_ E) | (apply hJ_; intro u_)) | ((with_reducible refine Bi.dec true ?_ ?_); focus exact rfl) | ((with_reducible refine Bi.dec false ?_ ?_); focus exact rfl) | (intro J_ hJ_))
  refine (of_f M (by omega) hs ⟨_, E⟩).mono ?_
  clear E
  rintro r w_ ⟨rfl, hs1, v, E⟩
  (repeat with_reducible first | refine Stp.go ?_ | (refine StpW.go E ?_; clear E; intro w_ E))
  refine (of_o M (by omega) hs1 ⟨_, E⟩).mono ?_
  clear E
  rintro r w_ ⟨rfl, hs2, v, E⟩
  (repeat with_reducible first | refine Stp.go ?_ | (refine StpW.go E ?_; clear E; intro w_ E))
  refine (of_u M (by omega) hs2 ⟨_, E⟩).mono ?_
  clear E
  rintro r w_ ⟨rfl, hs3, v, E⟩
  (repeat with_reducible first | refine Stp.go ?_ | (refine StpW.go E ?_; clear E; intro w_ E))
  refine (of_t M (by omega) hs3 ⟨_, E⟩).mono ?_
  clear E
  rintro r w_ ⟨rfl, hs4, v, E⟩
  skip
  rw [flds4]
  exact ⟨rfl, by omega, v, E⟩
theorem ok_107 (hk : m.kind = 107) (M : MI w0 F l m nv qv) (hq : Fl.xq ∈ ([.xc] : List Fl) → ∃ x, m.qids = [x]) (hs : O.s.length ≤ 1000000) (E : OT w0 F o O (mA mb m nv qv :: l) w) :
    Ca PP Fn.styx_fields #[.iface Ty.p_styx_output (ptr o), ptr mb] w fun r w' => r = .tuple #[] ∧ (Ou.flds m [.xc] O).s.length ≤ 50000000 ∧ OT w0 F o (Ou.flds m [.xc] O) (mA mb m nv qv :: l) w' := by
  refine S.styx_fields.calls ?_
  unfold S.styx_fields
  obtain ⟨v, E⟩ := E
  (repeat with_reducible first | refine Stp.go ?_ | refine StpE.go E ?_)
  rw [hk]
  (repeat first | (with_reducible first | refine Stp.go ?_ | refine StpE.go E ?_ | (refine StpW.go E ?_; clear E; intro w_ E) | (refine StpA.go E ?_; clear E; intro b_ w_ hb_ E) | (apply hJ_; intro u_)) | ((with_reducible refine Bi.dec true ?_ ?_); focus exact rfl) | ((with_reducible refine Bi.dec false ?_ ?_); focus exact rfl) | (intro J_ hJ_))
  (revert b_; intro c hbc E)
  (replace E := (((E.bIx 0).bIx 2).bIx 2))
  have hn := num_len O m.code 2
  refine (onum_ok (k := 2) (n := m.code) (xs := []) (by omega) (RdP.pt (off := 0) List.mem_cons_self) (by omega) ⟨_, E⟩).mono ?_
  clear E
  rintro r w_ ⟨rfl, v, E⟩
  (repeat with_reducible first | refine Stp.go ?_ | refine StpE.go E ?_ | (refine StpW.go E ?_; clear E; intro w_ E))
  rw [flds1, fld_c]
  exact ⟨rfl, by omega, v, E.drop (.cons_cons _ (.cons_cons _ (.cons _ (List.Sublist.refl _))))⟩
theorem ok_108 (hk : m.kind = 108) (M : MI w0 F l m nv qv) (hq : Fl.xq ∈ ([.xd] : List Fl) → ∃ x, m.qids = [x]) (hs : O.s.length ≤ 1000000) (E : OT w0 F o O (mA mb m nv qv :: l) w) :
    Ca PP Fn.styx_fields #[.iface Ty.p_styx_output (ptr o), ptr mb] w fun r w' => r = .tuple #[] ∧ (Ou.flds m [.xd] O).s.length ≤ 50000000 ∧ OT w0 F o (Ou.flds m [.xd] O) (mA mb m nv qv :: l) w' := by
  refine S.styx_fields.calls ?_
  unfold S.styx_fields
  obtain ⟨v, E⟩ := E
  (repeat with_reducible first | refine Stp.go ?_ | refine StpE.go E ?_)
  rw [hk]
  (repeat first | (with_reducible first | refine Stp.go ?_ | (refine StpW.go E ?_; clear E; intro w_ E) | (apply hJ_; intro u_)) | ((with_reducible refine Bi.dec true ?_ ?_); focus exact rfl) | ((with_reducible refine Bi.dec false ?_ ?_); focus exact rfl) | (intro J_ hJ_))
  refine (of_d M (by omega) hs ⟨_, E⟩).mono ?_
  clear E
  rintro r w_ ⟨rfl, hs1, v, E⟩
  skip
  rw [flds1]
  exact ⟨rfl, by omega, v, E⟩
theorem ok_110 (hk : m.kind = 110) (M : MI w0 F l m nv qv) (hq : Fl.xq ∈ ([.xf, .xo, .xn] : List Fl) → ∃ x, m.qids = [x]) (hs : O.s.length ≤ 1000000) (E : OT w0 F o O (mA mb m nv qv :: l) w) :
    Ca PP Fn.styx_fields #[.iface Ty.p_styx_output (ptr o), ptr mb] w fun r w' => r = .tuple #[] ∧ (Ou.flds m [.xf, .xo, .xn] O).s.length ≤ 50000000 ∧ OT w0 F o (Ou.flds m [.xf, .xo, .xn] O) (mA mb m nv qv :: l) w' := by
  refine S.styx_fields.calls ?_
  unfold S.styx_fields
  obtain ⟨v, E⟩ := E
  (repeat with_reducible first | refine Stp.go ?_ | refine StpE.go E ?_)
  rw [hk]
  (repeat first | (with_reducible first | refine Stp.go ?_ | (refine StpW.go E ?_; clear E; intro w_ E) | (apply hJ_; intro u_)) | ((with_reducible refine Bi.dec true ?_ ?_); focus exact rfl) | ((with_reducible refine Bi.dec false ?_ ?_); focus exact rfl) | (intro J_ hJ_))
  refine (of_f M (by omega) hs ⟨_, E⟩).mono ?_
  clear E
  rintro r w_ ⟨rfl, hs1, v, E⟩
  (repeat with_reducible first | refine Stp.go ?_ | (refine StpW.go E ?_; clear E; intro w_ E))
  refine (of_o M (by omega) hs1 ⟨_, E⟩).mono ?_
  clear E
  rintro r w_ ⟨rfl, hs2, v, E⟩
  (repeat with_reducible first | refine Stp.go ?_ | (refine StpW.go E ?_; clear E; intro w_ E))
  refine (of_n M (by omega) hs2 ⟨_, E⟩).mono ?_
  clear E
  rintro r w_ ⟨rfl, hs3, v, E⟩
  skip
  rw [flds3]
  exact ⟨rfl, by omega, v, E⟩
theorem ok_111 (hk : m.kind = 111) (M : MI w0 F l m nv qv) (hq : Fl.xq ∈ ([.xQ] : List Fl) → ∃ x, m.qids = [x]) (hs : O.s.length ≤ 1000000) (E : OT w0 F o O (mA mb m nv qv :: l) w) :
    Ca PP Fn.styx_fields #[.iface Ty.p_styx_output (ptr o), ptr mb] w fun r w' => r = .tuple #[] ∧ (Ou.flds m [.xQ] O).s.length ≤ 50000000 ∧ OT w0 F o (Ou.flds m [.xQ] O) (mA mb m nv qv :: l) w' := by
  refine S.styx_fields.calls ?_
  unfold S.styx_fields
  obtain ⟨v, E⟩ := E
  (repeat with_reducible first | refine Stp.go ?_ | refine StpE.go E ?_)
  rw [hk]
  (repeat first | (with_reducible first | refine Stp.go ?_ | (refine StpW.go E ?_; clear E; intro w_ E) | (apply hJ_; intro u_)) | ((with_reducible refine Bi.dec true ?_ ?_); focus exact rfl) | ((with_reducible refine Bi.dec false ?_ ?_); focus exact rfl) | (intro J_ hJ_))
  refine (of_Q M (by omega) hs ⟨_, E⟩).mono ?_
  clear E
  rintro r w_ ⟨rfl, hs1, v, E⟩
  skip
  rw [flds1]
  exact ⟨rfl, by omega, v, E⟩
theorem ok_112 (hk : m.kind = 112) (M : MI w0 F l m nv qv) (hq : Fl.xq ∈ ([.xf, .xm] : List Fl) → ∃ x, m.qids = [x]) (hs : O.s.length ≤ 1000000) (E : OT w0 F o O (mA mb m nv qv :: l) w) :
    Ca PP Fn.styx_fields #[.iface Ty.p_styx_output (ptr o), ptr mb] w fun r w' => r = .tuple #[] ∧ (Ou.flds m [.xf, .xm] O).s.length ≤ 50000000 ∧ OT w0 F o (Ou.flds m [.xf, .xm] O) (mA mb m nv qv :: l) w' := by
  refine S.styx_fields.calls ?_
  unfold S.styx_fields
  obtain ⟨v, E⟩ := E
  (repeat with_reducible first | refine Stp.go ?_ | refine StpE.go E ?_)
  rw [hk]
  (repeat first | (with_reducible first | refine Stp.go ?_ | (refine StpW.go E ?_; clear E; intro w_ E) | (apply hJ_; intro u_)) | ((with_reducible refine Bi.dec true ?_ ?_); focus exact rfl) | ((with_reducible refine Bi.dec false ?_ ?_); focus exact rfl) | (intro J_ hJ_))
  refine (of_f M (by omega) hs ⟨_, E⟩).mono ?_
  clear E
  rintro r w_ ⟨rfl, hs1, v, E⟩
  (repeat with_reducible first | refine Stp.go ?_ | (refine StpW.go E ?_; clear E; intro w_ E))
  refine (of_m M (by omega) hs1 ⟨_, E⟩).mono ?_
  clear E
  rintro r w_ ⟨rfl, hs2, v, E⟩
  skip
  rw [flds2]
  exact ⟨rfl, by omega, v, E⟩
end Go.Proofs.YtmlccboapkkcfaaGreatDoor

/-
  The protocol: the writer of fields visits a message: kinds.
-/
namespace Go.Proofs.YtmlccboapkkcfaaGreatDoor
open Go Go.Sh
set_option maxRecDepth 100000
set_option linter.unusedVariables false
set_option linter.unusedSimpArgs false
variable {w0 w : World} {F : Nat → Prop} {l : List As}
variable {o mb : Nat} {O : Ou} {m : Ms} {nv qv : Value} {N : Nat}
theorem ok_113 (hk : m.kind = 113) (M : MI w0 F l m nv qv) (hq : Fl.xq ∈ ([.xq, .xS] : List Fl) → ∃ x, m.qids = [x]) (hs : O.s.length ≤ 1000000) (E : OT w0 F o O (mA mb m nv qv :: l) w) :
    Ca PP Fn.styx_fields #[.iface Ty.p_styx_output (ptr o), ptr mb] w fun r w' => r = .tuple #[] ∧ (Ou.flds m [.xq, .xS] O).s.length ≤ 50000000 ∧ OT w0 F o (Ou.flds m [.xq, .xS] O) (mA mb m nv qv :: l) w' := by
  refine S.styx_fields.calls ?_
  unfold S.styx_fields
  obtain ⟨v, E⟩ := E
  (repeat with_reducible first | refine Stp.go ?_ | refine StpE.go E ?_)
  rw [hk]
  (repeat first | (with_reducible first | refine Stp.go ?_ | (apply hJ_; intro u_)) | ((with_reducible refine Bi.dec true ?_ ?_); focus exact rfl) | ((with_reducible refine Bi.dec false ?_ ?_); focus exact rfl) | (intro J_ hJ_))
  refine (of_q M (hq List.mem_cons_self) (by omega) hs ⟨_, E⟩).mono ?_
  clear E
  rintro r w_ ⟨rfl, hs1, v, E⟩
  (repeat with_reducible first | refine Stp.go ?_ | (refine StpW.go E ?_; clear E; intro w_ E))
  refine (of_S M (by omega) hs1 ⟨_, E⟩).mono ?_
  clear E
  rintro r w_ ⟨rfl, hs2, v, E⟩
  skip
  rw [flds2]
  exact ⟨rfl, by omega, v, E⟩
theorem ok_115 (hk : m.kind = 115) (M : MI w0 F l m nv qv) (hq : Fl.xq ∈ ([.xq, .xS] : List Fl) → ∃ x, m.qids = [x]) (hs : O.s.length ≤ 1000000) (E : OT w0 F o O (mA mb m nv qv :: l) w) :
    Ca PP Fn.styx_fields #[.iface Ty.p_styx_output (ptr o), ptr mb] w fun r w' => r = .tuple #[] ∧ (Ou.flds m [.xq, .xS] O).s.length ≤ 50000000 ∧ OT w0 F o (Ou.flds m [.xq, .xS] O) (mA mb m nv qv :: l) w' := by
  refine S.styx_fields.calls ?_
  unfold S.styx_fields
  obtain ⟨v, E⟩ := E
  (repeat with_reducible first | refine Stp.go ?_ | refine StpE.go E ?_)
  rw [hk]
  (repeat first | (with_reducible first | refine Stp.go ?_ | (apply hJ_; intro u_)) | ((with_reducible refine Bi.dec true ?_ ?_); focus exact rfl) | ((with_reducible refine Bi.dec false ?_ ?_); focus exact rfl) | (intro J_ hJ_))
  refine (of_q M (hq List.mem_cons_self) (by omega) hs ⟨_, E⟩).mono ?_
  clear E
  rintro r w_ ⟨rfl, hs1, v, E⟩
  (repeat with_reducible first | refine Stp.go ?_ | (refine StpW.go E ?_; clear E; intro w_ E))
  refine (of_S M (by omega) hs1 ⟨_, E⟩).mono ?_
  clear E
  rintro r w_ ⟨rfl, hs2, v, E⟩
  skip
  rw [flds2]
  exact ⟨rfl, by omega, v, E⟩
theorem ok_114 (hk : m.kind = 114) (M : MI w0 F l m nv qv) (hq : Fl.xq ∈ ([.xf, .xN, .xp, .xm] : List Fl) → ∃ x, m.qids = [x]) (hs : O.s.length ≤ 1000000) (E : OT w0 F o O (mA mb m nv qv :: l) w) :
    Ca PP Fn.styx_fields #[.iface Ty.p_styx_output (ptr o), ptr mb] w fun r w' => r = .tuple #[] ∧ (Ou.flds m [.xf, .xN, .xp, .xm] O).s.length ≤ 50000000 ∧ OT w0 F o (Ou.flds m [.xf, .xN, .xp, .xm] O) (mA mb m nv qv :: l) w' := by
  refine S.styx_fields.calls ?_
  unfold S.styx_fields
  obtain ⟨v, E⟩ := E
  (repeat with_reducible first | refine Stp.go ?_ | refine StpE.go E ?_)
  rw [hk]
  (repeat first | (with_reducible first | refine Stp.go ?_ | (refine StpW.go E ?_; clear E; intro w_ E) | (apply hJ_; intro u_)) | ((with_reducible refine Bi.dec true ?_ ?_); focus exact rfl) | ((with_reducible refine Bi.dec false ?_ ?_); focus exact rfl) | (intro J_ hJ_))
  refine (of_f M (by omega) hs ⟨_, E⟩).mono ?_
  clear E
  rintro r w_ ⟨rfl, hs1, v, E⟩
  (repeat with_reducible first | refine Stp.go ?_ | (refine StpW.go E ?_; clear E; intro w_ E))
  refine (of_N M (by omega) hs1 ⟨_, E⟩).mono ?_
  clear E
  rintro r w_ ⟨rfl, hs2, v, E⟩
  (repeat with_reducible first | refine Stp.go ?_ | (refine StpW.go E ?_; clear E; intro w_ E))
  refine (of_p M (by omega) hs2 ⟨_, E⟩).mono ?_
  clear E
  rintro r w_ ⟨rfl, hs3, v, E⟩
  (repeat with_reducible first | refine Stp.go ?_ | (refine StpW.go E ?_; clear E; intro w_ E))
  refine (of_m M (by omega) hs3 ⟨_, E⟩).mono ?_
  clear E
  rintro r w_ ⟨rfl, hs4, v, E⟩
  skip
  rw [flds4]
  exact ⟨rfl, by omega, v, E⟩
theorem ok_116 (hk : m.kind = 116) (M : MI w0 F l m nv qv) (hq : Fl.xq ∈ ([.xf, .xO, .xS] : List Fl) → ∃ x, m.qids = [x]) (hs : O.s.length ≤ 1000000) (E : OT w0 F o O (mA mb m nv qv :: l) w) :
    Ca PP Fn.styx_fields #[.iface Ty.p_styx_output (ptr o), ptr mb] w fun r w' => r = .tuple #[] ∧ (Ou.flds m [.xf, .xO, .xS] O).s.length ≤ 50000000 ∧ OT w0 F o (Ou.flds m [.xf, .xO, .xS] O) (mA mb m nv qv :: l) w' := by
  refine S.styx_fields.calls ?_
  unfold S.styx_fields
  obtain ⟨v, E⟩ := E
  (repeat with_reducible first | refine Stp.go ?_ | refine StpE.go E ?_)
  rw [hk]
  (repeat first | (with_reducible first | refine Stp.go ?_ | (refine StpW.go E ?_; clear E; intro w_ E) | (apply hJ_; intro u_)) | ((with_reducible refine Bi.dec true ?_ ?_); focus exact rfl) | ((with_reducible refine Bi.dec false ?_ ?_); focus exact rfl) | (intro J_ hJ_))
  refine (of_f M (by omega) hs ⟨_, E⟩).mono ?_
  clear E
  rintro r w_ ⟨rfl, hs1, v, E⟩
  (repeat with_reducible first | refine Stp.go ?_ | (refine StpW.go E ?_; clear E; intro w_ E))
  refine (of_O M (by omega) hs1 ⟨_, E⟩).mono ?_
  clear E
  rintro r w_ ⟨rfl, hs2, v, E⟩
  (repeat with_reducible first | refine Stp.go ?_ | (refine StpW.go E ?_; clear E; intro w_ E))
  refine (of_S M (by omega) hs2 ⟨_, E⟩).mono ?_
  clear E
  rintro r w_ ⟨rfl, hs3, v, E⟩
  skip
  rw [flds3]
  exact ⟨rfl, by omega, v, E⟩
theorem ok_117 (hk : m.kind = 117) (M : MI w0 F l m nv qv) (hq : Fl.xq ∈ ([.xD] : List Fl) → ∃ x, m.qids = [x]) (hs : O.s.length ≤ 1000000) (E : OT w0 F o O (mA mb m nv qv :: l) w) :
    Ca PP Fn.styx_fields #[.iface Ty.p_styx_output (ptr o), ptr mb] w fun r w' => r = .tuple #[] ∧ (Ou.flds m [.xD] O).s.length ≤ 50000000 ∧ OT w0 F o (Ou.flds m [.xD] O) (mA mb m nv qv :: l) w' := by
  refine S.styx_fields.calls ?_
  unfold S.styx_fields
  obtain ⟨v, E⟩ := E
  (repeat with_reducible first | refine Stp.go ?_ | refine StpE.go E ?_)
  rw [hk]
  (repeat first | (with_reducible first | refine Stp.go ?_ | (refine StpW.go E ?_; clear E; intro w_ E) | (apply hJ_; intro u_)) | ((with_reducible refine Bi.dec true ?_ ?_); focus exact rfl) | ((with_reducible refine Bi.dec false ?_ ?_); focus exact rfl) | (intro J_ hJ_))
  refine (of_D M (by omega) hs ⟨_, E⟩).mono ?_
  clear E
  rintro r w_ ⟨rfl, hs1, v, E⟩
  skip
  rw [flds1]
  exact ⟨rfl, by omega, v, E⟩
theorem ok_118 (hk : m.kind = 118) (M : MI w0 F l m nv qv) (hq : Fl.xq ∈ ([.xf, .xO, .xD] : List Fl) → ∃ x, m.qids = [x]) (hs : O.s.length ≤ 1000000) (E : OT w0 F o O (mA mb m nv qv :: l) w) :
    Ca PP Fn.styx_fields #[.iface Ty.p_styx_output (ptr o), ptr mb] w fun r w' => r = .tuple #[] ∧ (Ou.flds m [.xf, .xO, .xD] O).s.length ≤ 50000000 ∧ OT w0 F o (Ou.flds m [.xf, .xO, .xD] O) (mA mb m nv qv :: l) w' := by
  refine S.styx_fields.calls ?_
  unfold S.styx_fields
  obtain ⟨v, E⟩ := E
  (repeat with_reducible first | refine Stp.go ?_ | refine StpE.go E ?_)
  rw [hk]
  (repeat first | (with_reducible first | refine Stp.go ?_ | (refine StpW.go E ?_; clear E; intro w_ E) | (apply hJ_; intro u_)) | ((with_reducible refine Bi.dec true ?_ ?_); focus exact rfl) | ((with_reducible refine Bi.dec false ?_ ?_); focus exact rfl) | (intro J_ hJ_))
  refine (of_f M (by omega) hs ⟨_, E⟩).mono ?_
  clear E
  rintro r w_ ⟨rfl, hs1, v, E⟩
  (repeat with_reducible first | refine Stp.go ?_ | (refine StpW.go E ?_; clear E; intro w_ E))
  refine (of_O M (by omega) hs1 ⟨_, E⟩).mono ?_
  clear E
  rintro r w_ ⟨rfl, hs2, v, E⟩
  (repeat with_reducible first | refine Stp.go ?_ | (refine StpW.go E ?_; clear E; intro w_ E))
  refine (of_D M (by omega) hs2 ⟨_, E⟩).mono ?_
  clear E
  rintro r w_ ⟨rfl, hs3, v, E⟩
  skip
  rw [flds3]
  exact ⟨rfl, by omega, v, E⟩
theorem ok_119 (hk : m.kind = 119) (M : MI w0 F l m nv qv) (hq : Fl.xq ∈ ([.xS] : List Fl) → ∃ x, m.qids = [x]) (hs : O.s.length ≤ 1000000) (E : OT w0 F o O (mA mb m nv qv :: l) w) :
    Ca PP Fn.styx_fields #[.iface Ty.p_styx_output (ptr o), ptr mb] w fun r w' => r = .tuple #[] ∧ (Ou.flds m [.xS] O).s.length ≤ 50000000 ∧ OT w0 F o (Ou.flds m [.xS] O) (mA mb m nv qv :: l) w' := by
  refine S.styx_fields.calls ?_
  unfold S.styx_fields
  obtain ⟨v, E⟩ := E
  (repeat with_reducible first | refine Stp.go ?_ | refine StpE.go E ?_)
  rw [hk]
  (repeat first | (with_reducible first | refine Stp.go ?_ | (refine StpW.go E ?_; clear E; intro w_ E) | (apply hJ_; intro u_)) | ((with_reducible refine Bi.dec true ?_ ?_); focus exact rfl) | ((with_reducible refine Bi.dec false ?_ ?_); focus exact rfl) | (intro J_ hJ_))
  refine (of_S M (by omega) hs ⟨_, E⟩).mono ?_
  clear E
  rintro r w_ ⟨rfl, hs1, v, E⟩
  skip
  rw [flds1]
  exact ⟨rfl, by omega, v, E⟩
theorem ok_120 (hk : m.kind = 120) (M : MI w0 F l m nv qv) (hq : Fl.xq ∈ ([.xf] : List Fl) → ∃ x, m.qids = [x]) (hs : O.s.length ≤ 1000000) (E : OT w0 F o O (mA mb m nv qv :: l) w) :
    Ca PP Fn.styx_fields #[.iface Ty.p_styx_output (ptr o), ptr mb] w fun r w' => r = .tuple #[] ∧ (Ou.flds m [.xf] O).s.length ≤ 50000000 ∧ OT w0 F o (Ou.flds m [.xf] O) (mA mb m nv qv :: l) w' := by
  refine S.styx_fields.calls ?_
  unfold S.styx_fields
  obtain ⟨v, E⟩ := E
  (repeat with_reducible first | refine Stp.go ?_ | refine StpE.go E ?_)
  rw [hk]
  (repeat first | (with_reducible first | refine Stp.go ?_ | (refine StpW.go E ?_; clear E; intro w_ E) | (apply hJ_; intro u_)) | ((with_reducible refine Bi.dec true ?_ ?_); focus exact rfl) | ((with_reducible refine Bi.dec false ?_ ?_); focus exact rfl) | (intro J_ hJ_))
  refine (of_f M (by omega) hs ⟨_, E⟩).mono ?_
  clear E
  rintro r w_ ⟨rfl, hs1, v, E⟩
  skip
  rw [flds1]
  exact ⟨rfl, by omega, v, E⟩
theorem ok_122 (hk : m.kind = 122) (M : MI w0 F l m nv qv) (hq : Fl.xq ∈ ([.xf] : List Fl) → ∃ x, m.qids = [x]) (hs : O.s.length ≤ 1000000) (E : OT w0 F o O (mA mb m nv qv :: l) w) :
    Ca PP Fn.styx_fields #[.iface Ty.p_styx_output (ptr o), ptr mb] w fun r w' => r = .tuple #[] ∧ (Ou.flds m [.xf] O).s.length ≤ 50000000 ∧ OT w0 F o (Ou.flds m [.xf] O) (mA mb m nv qv :: l) w' := by
  refine S.styx_fields.calls ?_
  unfold S.styx_fields
  obtain ⟨v, E⟩ := E
  (repeat with_reducible first | refine Stp.go ?_ | refine StpE.go E ?_)
  rw [hk]
  (repeat first | (with_reducible first | refine Stp.go ?_ | (refine StpW.go E ?_; clear E; intro w_ E) | (apply hJ_; intro u_)) | ((with_reducible refine Bi.dec true ?_ ?_); focus exact rfl) | ((with_reducible refine Bi.dec false ?_ ?_); focus exact rfl) | (intro J_ hJ_))
  refine (of_f M (by omega) hs ⟨_, E⟩).mono ?_
  clear E
  rintro r w_ ⟨rfl, hs1, v, E⟩
  skip
  rw [flds1]
  exact ⟨rfl, by omega, v, E⟩
theorem ok_124 (hk : m.kind = 124) (M : MI w0 F l m nv qv) (hq : Fl.xq ∈ ([.xf] : List Fl) → ∃ x, m.qids = [x]) (hs : O.s.length ≤ 1000000) (E : OT w0 F o O (mA mb m nv qv :: l) w) :
    Ca PP Fn.styx_fields #[.iface Ty.p_styx_output (ptr o), ptr mb] w fun r w' => r = .tuple #[] ∧ (Ou.flds m [.xf] O).s.length ≤ 50000000 ∧ OT w0 F o (Ou.flds m [.xf] O) (mA mb m nv qv :: l) w' := by
  refine S.styx_fields.calls ?_
  unfold S.styx_fields
  obtain ⟨v, E⟩ := E
  (repeat with_reducible first | refine Stp.go ?_ | refine StpE.go E ?_)
  rw [hk]
  (repeat first | (with_reducible first | refine Stp.go ?_ | (refine StpW.go E ?_; clear E; intro w_ E) | (apply hJ_; intro u_)) | ((with_reducible refine Bi.dec true ?_ ?_); focus exact rfl) | ((with_reducible refine Bi.dec false ?_ ?_); focus exact rfl) | (intro J_ hJ_))
  refine (of_f M (by omega) hs ⟨_, E⟩).mono ?_
  clear E
  rintro r w_ ⟨rfl, hs1, v, E⟩
  skip
  rw [flds1]
  exact ⟨rfl, by omega, v, E⟩
theorem ok_125 (hk : m.kind = 125) (M : MI w0 F l m nv qv) (hq : Fl.xq ∈ ([.xi] : List Fl) → ∃ x, m.qids = [x]) (hs : O.s.length ≤ 1000000) (E : OT w0 F o O (mA mb m nv qv :: l) w) :
    Ca PP Fn.styx_fields #[.iface Ty.p_styx_output (ptr o), ptr mb] w fun r w' => r = .tuple #[] ∧ (Ou.flds m [.xi] O).s.length ≤ 50000000 ∧ OT w0 F o (Ou.flds m [.xi] O) (mA mb m nv qv :: l) w' := by
  refine S.styx_fields.calls ?_
  unfold S.styx_fields
  obtain ⟨v, E⟩ := E
  (repeat with_reducible first | refine Stp.go ?_ | refine StpE.go E ?_)
  rw [hk]
  (repeat first | (with_reducible first | refine Stp.go ?_ | (refine StpW.go E ?_; clear E; intro w_ E) | (apply hJ_; intro u_)) | ((with_reducible refine Bi.dec true ?_ ?_); focus exact rfl) | ((with_reducible refine Bi.dec false ?_ ?_); focus exact rfl) | (intro J_ hJ_))
  refine (of_i M (by omega) hs ⟨_, E⟩).mono ?_
  clear E
  rintro r w_ ⟨rfl, hs1, v, E⟩
  skip
  rw [flds1]
  exact ⟨rfl, by omega, v, E⟩
theorem ok_126 (hk : m.kind = 126) (M : MI w0 F l m nv qv) (hq : Fl.xq ∈ ([.xf, .xi] : List Fl) → ∃ x, m.qids = [x]) (hs : O.s.length ≤ 1000000) (E : OT w0 F o O (mA mb m nv qv :: l) w) :
    Ca PP Fn.styx_fields #[.iface Ty.p_styx_output (ptr o), ptr mb] w fun r w' => r = .tuple #[] ∧ (Ou.flds m [.xf, .xi] O).s.length ≤ 50000000 ∧ OT w0 F o (Ou.flds m [.xf, .xi] O) (mA mb m nv qv :: l) w' := by
  refine S.styx_fields.calls ?_
  unfold S.styx_fields
  obtain ⟨v, E⟩ := E
  (repeat with_reducible first | refine Stp.go ?_ | refine StpE.go E ?_)
  rw [hk]
  (repeat first | (with_reducible first | refine Stp.go ?_ | (refine StpW.go E ?_; clear E; intro w_ E) | (apply hJ_; intro u_)) | ((with_reducible refine Bi.dec true ?_ ?_); focus exact rfl) | ((with_reducible refine Bi.dec false ?_ ?_); focus exact rfl) | (intro J_ hJ_))
  refine (of_f M (by omega) hs ⟨_, E⟩).mono ?_
  clear E
  rintro r w_ ⟨rfl, hs1, v, E⟩
  (repeat with_reducible first | refine Stp.go ?_ | (refine StpW.go E ?_; clear E; intro w_ E))
  refine (of_i M (by omega) hs1 ⟨_, E⟩).mono ?_
  clear E
  rintro r w_ ⟨rfl, hs2, v, E⟩
  skip
  rw [flds2]
  exact ⟨rfl, by omega, v, E⟩
theorem ok_109 (hk : m.kind = 109) (M : MI w0 F l m nv qv) (hq : Fl.xq ∈ ([] : List Fl) → ∃ x, m.qids = [x]) (hs : O.s.length ≤ 1000000) (E : OT w0 F o O (mA mb m nv qv :: l) w) :
    Ca PP Fn.styx_fields #[.iface Ty.p_styx_output (ptr o), ptr mb] w fun r w' => r = .tuple #[] ∧ (Ou.flds m [] O).s.length ≤ 50000000 ∧ OT w0 F o (Ou.flds m [] O) (mA mb m nv qv :: l) w' := by
  refine S.styx_fields.calls ?_
  unfold S.styx_fields
  obtain ⟨v, E⟩ := E
  (repeat with_reducible first | refine Stp.go ?_ | refine StpE.go E ?_)
  rw [hk]
  (repeat first | (with_reducible first | refine Stp.go ?_ | (apply hJ_; intro u_)) | ((with_reducible refine Bi.dec false ?_ ?_); focus exact rfl) | (intro J_ hJ_))
  rw [flds0]
  exact ⟨rfl, by omega, v, E⟩
theorem ok_121 (hk : m.kind = 121) (M : MI w0 F l m nv qv) (hq : Fl.xq ∈ ([] : List Fl) → ∃ x, m.qids = [x]) (hs : O.s.length ≤ 1000000) (E : OT w0 F o O (mA mb m nv qv :: l) w) :
    Ca PP Fn.styx_fields #[.iface Ty.p_styx_output (ptr o), ptr mb] w fun r w' => r = .tuple #[] ∧ (Ou.flds m [] O).s.length ≤ 50000000 ∧ OT w0 F o (Ou.flds m [] O) (mA mb m nv qv :: l) w' := by
  refine S.styx_fields.calls ?_
  unfold S.styx_fields
  obtain ⟨v, E⟩ := E
  (repeat with_reducible first | refine Stp.go ?_ | refine StpE.go E ?_)
  rw [hk]
  (repeat first | (with_reducible first | refine Stp.go ?_ | (apply hJ_; intro u_)) | ((with_reducible refine Bi.dec false ?_ ?_); focus exact rfl) | (intro J_ hJ_))
  rw [flds0]
  exact ⟨rfl, by omega, v, E⟩
theorem ok_123 (hk : m.kind = 123) (M : MI w0 F l m nv qv) (hq : Fl.xq ∈ ([] : List Fl) → ∃ x, m.qids = [x]) (hs : O.s.length ≤ 1000000) (E : OT w0 F o O (mA mb m nv qv :: l) w) :
    Ca PP Fn.styx_fields #[.iface Ty.p_styx_output (ptr o), ptr mb] w fun r w' => r = .tuple #[] ∧ (Ou.flds m [] O).s.length ≤ 50000000 ∧ OT w0 F o (Ou.flds m [] O) (mA mb m nv qv :: l) w' := by
  refine S.styx_fields.calls ?_
  unfold S.styx_fields
  obtain ⟨v, E⟩ := E
  (repeat with_reducible first | refine Stp.go ?_ | refine StpE.go E ?_)
  rw [hk]
  (repeat first | (with_reducible first | refine Stp.go ?_ | (apply hJ_; intro u_)) | ((with_reducible refine Bi.dec false ?_ ?_); focus exact rfl) | (intro J_ hJ_))
  rw [flds0]
  exact ⟨rfl, by omega, v, E⟩
theorem ok_127 (hk : m.kind = 127) (M : MI w0 F l m nv qv) (hq : Fl.xq ∈ ([] : List Fl) → ∃ x, m.qids = [x]) (hs : O.s.length ≤ 1000000) (E : OT w0 F o O (mA mb m nv qv :: l) w) :
    Ca PP Fn.styx_fields #[.iface Ty.p_styx_output (ptr o), ptr mb] w fun r w' => r = .tuple #[] ∧ (Ou.flds m [] O).s.length ≤ 50000000 ∧ OT w0 F o (Ou.flds m [] O) (mA mb m nv qv :: l) w' := by
  refine S.styx_fields.calls ?_
  unfold S.styx_fields
  obtain ⟨v, E⟩ := E
  (repeat with_reducible first | refine Stp.go ?_ | refine StpE.go E ?_)
  rw [hk]
  (repeat first | (with_reducible first | refine Stp.go ?_ | (apply hJ_; intro u_)) | ((with_reducible refine Bi.dec false ?_ ?_); focus exact rfl) | (intro J_ hJ_))
  rw [flds0]
  exact ⟨rfl, by omega, v, E⟩
end Go.Proofs.YtmlccboapkkcfaaGreatDoor

/-
  The protocol: the writer of fields visits a message: kinds.
-/
namespace Go.Proofs.YtmlccboapkkcfaaGreatDoor
open Go Go.Sh
set_option maxRecDepth 100000
set_option linter.unusedVariables false
set_option linter.unusedSimpArgs false
variable {w0 w : World} {F : Nat → Prop} {l : List As}
variable {o mb : Nat} {O : Ou} {m : Ms} {nv qv : Value} {N : Nat}
theorem ofields_ok {fl : List Fl} (hfl : fls m.kind = some fl) (M : MI w0 F l m nv qv) (hq : Fl.xq ∈ (fl : List Fl) → ∃ x, m.qids = [x]) (hs : O.s.length ≤ 1000000) (E : OT w0 F o O (mA mb m nv qv :: l) w) :
    Ca PP Fn.styx_fields #[.iface Ty.p_styx_output (ptr o), ptr mb] w fun r w' => r = .tuple #[] ∧ (Ou.flds m fl O).s.length ≤ 50000000 ∧ OT w0 F o (Ou.flds m fl O) (mA mb m nv qv :: l) w' := by
  rcases fls_cases hfl with ⟨(hk | hk), rfl⟩ | ⟨hk, rfl⟩ | ⟨(hk | hk), rfl⟩ | ⟨hk, rfl⟩ | ⟨hk, rfl⟩ | ⟨hk, rfl⟩ | ⟨hk, rfl⟩ | ⟨hk, rfl⟩ | ⟨hk, rfl⟩ | ⟨(hk | hk), rfl⟩ | ⟨hk, rfl⟩ | ⟨hk, rfl⟩ | ⟨hk, rfl⟩ | ⟨hk, rfl⟩ | ⟨hk, rfl⟩ | ⟨(hk | hk | hk), rfl⟩ | ⟨hk, rfl⟩ | ⟨hk, rfl⟩ | ⟨(hk | hk | hk | hk), rfl⟩
  · exact ok_100 hk M hq hs E
  · exact ok_101 hk M hq hs E
  · exact ok_102 hk M hq hs E
  · exact ok_103 hk M hq hs E
  · exact ok_105 hk M hq hs E
  · exact ok_104 hk M hq hs E
  · exact ok_107 hk M hq hs E
  · exact ok_108 hk M hq hs E
  · exact ok_110 hk M hq hs E
  · exact ok_111 hk M hq hs E
  · exact ok_112 hk M hq hs E
  · exact ok_113 hk M hq hs E
  · exact ok_115 hk M hq hs E
  · exact ok_114 hk M hq hs E
  · exact ok_116 hk M hq hs E
  · exact ok_117 hk M hq hs E
  · exact ok_118 hk M hq hs E
  · exact ok_119 hk M hq hs E
  · exact ok_120 hk M hq hs E
  · exact ok_122 hk M hq hs E
  · exact ok_124 hk M hq hs E
  · exact ok_125 hk M hq hs E
  · exact ok_126 hk M hq hs E
  · exact ok_109 hk M hq hs E
  · exact ok_121 hk M hq hs E
  · exact ok_123 hk M hq hs E
  · exact ok_127 hk M hq hs E
end Go.Proofs.YtmlccboapkkcfaaGreatDoor

/-
  The protocol: a message's own fields are blanked; what is left is looked at.
-/
namespace Go.Proofs.YtmlccboapkkcfaaGreatDoor
open Go Go.Sh
set_option maxRecDepth 100000
set_option linter.unusedVariables false
set_option linter.unusedSimpArgs false
variable {w0 w : World} {F : Nat → Prop} {l : List As}
variable {b off : Nat} {cs : List Value} {T : TypeId}
theorem u_sl_qid : PP.underlying Ty.sl_api_Qid = some (.slice Ty.api_Qid) := by kernel_rfl
theorem e_qid : el3 PP Ty.api_Qid = some (some (.agg #[i64 0, i64 0, i64 0]), 3, 24) := by kernel_rfl
/-- 'make([]Qid, 1)' -/
theorem MkQ {k : Value → World → Prop} (E : Hs w0 F w l) (hk : ∀ b w', w0.heap.size ≤ b → Hs w0 F w' (pt b (oc [i64 0, i64 0, i64 0] Ty.api_Qid) :: l) → k (.slice (some ⟨b, 0, none⟩) 1 1) w') :
    Ef PP (Instr.makeSlice Ty.sl_api_Qid (.int .i64 1) (.int .i64 1)) w k := by
  have hi := e_qid
  unfold el3 at hi
  cases hi' : PP.info? Ty.api_Qid with
  | none => rw [hi'] at hi; cases hi
  | some i =>
    rw [hi'] at hi
    simp only [Option.map_some, Option.some.injEq, Prod.mk.injEq] at hi
    obtain ⟨hz1, hs1, hb1⟩ := hi
    have hr := run_make (P := PP) w Ty.sl_api_Qid Ty.api_Qid i _ u_sl_qid hi' hz1 .i64 .i64 1 1 (by omega) (Int.le_refl _) (by rw [hb1]; decide) (by omega)
    refine ⟨_, _, hr, ?_⟩
    refine hk _ _ E.upd.size (E.add (Upd.alloc w _) ?_ fun x hx => by cases hx; exact Nat.le_refl _)
    show (w.alloc _).heap[w.heap.size]? = _
    have hc : madeCells (Value.agg #[i64 0, i64 0, i64 0]).cells (Int.toNat 1 * 3) = #[i64 0, i64 0, i64 0] := by kernel_rfl
    rw [heap_alloc_new, hs1, hc]
    rfl
theorem bnum_ok {n : Int} (h : off < cs.length) (E : Hs w0 F w (pt b (oc cs T) :: l)) :
    Ca PP Fn.styx_blank_num #[.agg #[], .pointer (some ⟨b, off, none⟩), i64 n] w fun r w' => r = .tuple #[] ∧ Hs w0 F w' (pt b (oc (cs.set off (i64 0)) T) :: l) := by
  refine S.styx_blank_num.calls ?_
  unfold S.styx_blank_num
  (repeat with_reducible first | refine Stp.go ?_ | (refine StpA.go E ?_; clear E; intro b_ w_ hb_ E))
  refine St.by E h rfl ?_
  intro w_ E
  exact ⟨rfl, E.tl⟩
theorem blong_ok (h : off < cs.length) (E : Hs w0 F w (pt b (oc cs T) :: l)) :
    Ca PP Fn.styx_blank_long #[.agg #[], .pointer (some ⟨b, off, none⟩)] w fun r w' => r = .tuple #[] ∧ Hs w0 F w' (pt b (oc (cs.set off (i64 0)) T) :: l) := by
  refine S.styx_blank_long.calls ?_
  unfold S.styx_blank_long
  (repeat with_reducible first | refine Stp.go ?_ | (refine StpA.go E ?_; clear E; intro b_ w_ hb_ E))
  refine St.by E h rfl ?_
  intro w_ E
  exact ⟨rfl, E.tl⟩
theorem btext_ok (h : off < cs.length) (E : Hs w0 F w (pt b (oc cs T) :: l)) :
    Ca PP Fn.styx_blank_text #[.agg #[], .pointer (some ⟨b, off, none⟩)] w fun r w' => r = .tuple #[] ∧ Hs w0 F w' (pt b (oc (cs.set off (sb [])) T) :: l) := by
  refine S.styx_blank_text.calls ?_
  unfold S.styx_blank_text
  (repeat with_reducible first | refine Stp.go ?_ | (refine StpA.go E ?_; clear E; intro b_ w_ hb_ E))
  refine St.by E h rfl ?_
  intro w_ E
  exact ⟨rfl, E.tl⟩
theorem bdata_ok (h : off < cs.length) (E : Hs w0 F w (pt b (oc cs T) :: l)) :
    Ca PP Fn.styx_blank_data #[.agg #[], .pointer (some ⟨b, off, none⟩)] w fun r w' => r = .tuple #[] ∧ Hs w0 F w' (pt b (oc (cs.set off (sb [])) T) :: l) := by
  refine S.styx_blank_data.calls ?_
  unfold S.styx_blank_data
  (repeat with_reducible first | refine Stp.go ?_ | (refine StpA.go E ?_; clear E; intro b_ w_ hb_ E))
  refine St.by E h rfl ?_
  intro w_ E
  exact ⟨rfl, E.tl⟩
theorem bnames_ok (h : off < cs.length) (E : Hs w0 F w (pt b (oc cs T) :: l)) :
    Ca PP Fn.styx_blank_names #[.agg #[], .pointer (some ⟨b, off, none⟩)] w fun r w' => r = .tuple #[] ∧ Hs w0 F w' (pt b (oc (cs.set off (.slice none 0 0)) T) :: l) := by
  refine S.styx_blank_names.calls ?_
  unfold S.styx_blank_names
  (repeat with_reducible first | refine Stp.go ?_ | (refine StpA.go E ?_; clear E; intro b_ w_ hb_ E))
  refine St.by E h rfl ?_
  intro w_ E
  exact ⟨rfl, E.tl⟩
theorem bqids_ok (h : off < cs.length) (E : Hs w0 F w (pt b (oc cs T) :: l)) :
    Ca PP Fn.styx_blank_qids #[.agg #[], .pointer (some ⟨b, off, none⟩)] w fun r w' => r = .tuple #[] ∧ Hs w0 F w' (pt b (oc (cs.set off (.slice none 0 0)) T) :: l) := by
  refine S.styx_blank_qids.calls ?_
  unfold S.styx_blank_qids
  (repeat with_reducible first | refine Stp.go ?_ | (refine StpA.go E ?_; clear E; intro b_ w_ hb_ E))
  refine St.by E h rfl ?_
  intro w_ E
  exact ⟨rfl, E.tl⟩
abbrev z10 : List Value := [i64 0, i64 0, i64 0, i64 0, i64 0, i64 0, sb [], sb [], sb [], sb []]
theorem bdir_ok (h : off + 10 ≤ cs.length) (E : Hs w0 F w (pt b (oc cs T) :: l)) :
    Ca PP Fn.styx_blank_dir #[.agg #[], .pointer (some ⟨b, off, none⟩)] w fun r w' => r = .tuple #[] ∧ Hs w0 F w' (pt b (oc (setCs cs off z10) T) :: l) := by
  refine S.styx_blank_dir.calls ?_
  unfold S.styx_blank_dir
  (repeat with_reducible first | refine Stp.go ?_ | refine StpE.go E ?_ | (refine StpA.go E ?_; clear E; intro b_ w_ hb_ E))
  refine StA.pt (vs := z10) E 1 rfl rfl h rfl ?_
  intro w_ E
  (try simp only [List.set_cons_zero, List.set_cons_succ, List.cons_append, List.nil_append, Nat.zero_add, Nat.add_zero] at E)
  exact ⟨rfl, E.tl⟩
theorem bqid_ok {x y z : Value} (E : Hs w0 F w (pt b (oc [x, y, z] T) :: l)) :
    Ca PP Fn.styx_qid #[.iface Ty.styx_blank (.agg #[]), ptr b] w fun r w' => r = .tuple #[] ∧ Hs w0 F w' (pt b (oc [i64 0, i64 0, i64 0] T) :: l) := by
  refine S.styx_qid.calls ?_
  unfold S.styx_qid
  (repeat with_reducible first | refine Stp.go ?_ | (refine StpW.go E ?_; clear E; intro w_ E))
  refine (bnum_ok (by simp) E).mono ?_
  clear E
  rintro r w_ ⟨rfl, E⟩
  (repeat with_reducible first | refine Stp.go ?_ | (refine StpW.go E ?_; clear E; intro w_ E))
  refine (bnum_ok (by simp) E).mono ?_
  clear E
  rintro r w_ ⟨rfl, E⟩
  (repeat with_reducible first | refine Stp.go ?_ | (refine StpW.go E ?_; clear E; intro w_ E))
  refine (blong_ok (by simp) E).mono ?_
  clear E
  rintro r w_ ⟨rfl, E⟩
  exact ⟨rfl, E⟩
end Go.Proofs.YtmlccboapkkcfaaGreatDoor

/-
  The protocol: the fields of a kind are blanked.
-/
namespace Go.Proofs.YtmlccboapkkcfaaGreatDoor
open Go Go.Sh
set_option maxRecDepth 100000
set_option linter.unusedVariables false
set_option linter.unusedSimpArgs false
variable {w0 w : World} {F : Nat → Prop} {l : List As}
variable {mb qb : Nat} {m : Ms} {nv qv x y z : Value}
abbrev nilV : Value := .slice none 0 0
abbrev oneV (qb : Nat) : Value := .slice (some ⟨qb, 0, none⟩) 1 1
theorem blk0 (m : Ms) : blk m [] = m := rfl
theorem blk1 (m : Ms) (a : Fl) : blk m [a] = setF m0 m a := rfl
theorem blk2 (m : Ms) (a b : Fl) : blk m [a, b] = setF m0 (setF m0 m a) b := rfl
theorem blk3 (m : Ms) (a b c : Fl) : blk m [a, b, c] = setF m0 (setF m0 (setF m0 m a) b) c := rfl
theorem blk4 (m : Ms) (a b c d : Fl) : blk m [a, b, c, d] = setF m0 (setF m0 (setF m0 (setF m0 m a) b) c) d := rfl
theorem bl_S (E : Hs w0 F w (mA mb m nv qv :: l)) : Ca PP Fn.styx_blank_num #[.agg #[], .pointer (some ⟨mb, 5, none⟩), i64 4] w fun r w' => r = .tuple #[] ∧ Hs w0 F w' (mA mb (setF m0 m .xS) nv qv :: l) :=
  (bnum_ok (by simp) E).mono fun r w' h => h
theorem bl_f (E : Hs w0 F w (mA mb m nv qv :: l)) : Ca PP Fn.styx_blank_num #[.agg #[], .pointer (some ⟨mb, 2, none⟩), i64 4] w fun r w' => r = .tuple #[] ∧ Hs w0 F w' (mA mb (setF m0 m .xf) nv qv :: l) :=
  (bnum_ok (by simp) E).mono fun r w' h => h
theorem bl_o (E : Hs w0 F w (mA mb m nv qv :: l)) : Ca PP Fn.styx_blank_num #[.agg #[], .pointer (some ⟨mb, 3, none⟩), i64 4] w fun r w' => r = .tuple #[] ∧ Hs w0 F w' (mA mb (setF m0 m .xo) nv qv :: l) :=
  (bnum_ok (by simp) E).mono fun r w' h => h
theorem bl_d (E : Hs w0 F w (mA mb m nv qv :: l)) : Ca PP Fn.styx_blank_num #[.agg #[], .pointer (some ⟨mb, 4, none⟩), i64 2] w fun r w' => r = .tuple #[] ∧ Hs w0 F w' (mA mb (setF m0 m .xd) nv qv :: l) :=
  (bnum_ok (by simp) E).mono fun r w' h => h
theorem bl_m (E : Hs w0 F w (mA mb m nv qv :: l)) : Ca PP Fn.styx_blank_num #[.agg #[], .pointer (some ⟨mb, 7, none⟩), i64 1] w fun r w' => r = .tuple #[] ∧ Hs w0 F w' (mA mb (setF m0 m .xm) nv qv :: l) :=
  (bnum_ok (by simp) E).mono fun r w' h => h
theorem bl_p (E : Hs w0 F w (mA mb m nv qv :: l)) : Ca PP Fn.styx_blank_num #[.agg #[], .pointer (some ⟨mb, 8, none⟩), i64 4] w fun r w' => r = .tuple #[] ∧ Hs w0 F w' (mA mb (setF m0 m .xp) nv qv :: l) :=
  (bnum_ok (by simp) E).mono fun r w' h => h
theorem bl_v (E : Hs w0 F w (mA mb m nv qv :: l)) : Ca PP Fn.styx_blank_text #[.agg #[], .pointer (some ⟨mb, 9, none⟩)] w fun r w' => r = .tuple #[] ∧ Hs w0 F w' (mA mb (setF m0 m .xv) nv qv :: l) :=
  (btext_ok (by simp) E).mono fun r w' h => h
theorem bl_u (E : Hs w0 F w (mA mb m nv qv :: l)) : Ca PP Fn.styx_blank_text #[.agg #[], .pointer (some ⟨mb, 10, none⟩)] w fun r w' => r = .tuple #[] ∧ Hs w0 F w' (mA mb (setF m0 m .xu) nv qv :: l) :=
  (btext_ok (by simp) E).mono fun r w' h => h
theorem bl_t (E : Hs w0 F w (mA mb m nv qv :: l)) : Ca PP Fn.styx_blank_text #[.agg #[], .pointer (some ⟨mb, 11, none⟩)] w fun r w' => r = .tuple #[] ∧ Hs w0 F w' (mA mb (setF m0 m .xt) nv qv :: l) :=
  (btext_ok (by simp) E).mono fun r w' h => h
theorem bl_N (E : Hs w0 F w (mA mb m nv qv :: l)) : Ca PP Fn.styx_blank_text #[.agg #[], .pointer (some ⟨mb, 12, none⟩)] w fun r w' => r = .tuple #[] ∧ Hs w0 F w' (mA mb (setF m0 m .xN) nv qv :: l) :=
  (btext_ok (by simp) E).mono fun r w' h => h
theorem bl_D (E : Hs w0 F w (mA mb m nv qv :: l)) : Ca PP Fn.styx_blank_data #[.agg #[], .pointer (some ⟨mb, 15, none⟩)] w fun r w' => r = .tuple #[] ∧ Hs w0 F w' (mA mb (setF m0 m .xD) nv qv :: l) :=
  (bdata_ok (by simp) E).mono fun r w' h => h
theorem bl_O (E : Hs w0 F w (mA mb m nv qv :: l)) : Ca PP Fn.styx_blank_long #[.agg #[], .pointer (some ⟨mb, 6, none⟩)] w fun r w' => r = .tuple #[] ∧ Hs w0 F w' (mA mb (setF m0 m .xO) nv qv :: l) :=
  (blong_ok (by simp) E).mono fun r w' h => h
theorem bl_n (E : Hs w0 F w (mA mb m nv qv :: l)) : Ca PP Fn.styx_blank_names #[.agg #[], .pointer (some ⟨mb, 13, none⟩)] w fun r w' => r = .tuple #[] ∧ Hs w0 F w' (mA mb (setF m0 m .xn) nilV qv :: l) :=
  (bnames_ok (by simp) E).mono fun r w' h => h
theorem bl_Q (E : Hs w0 F w (mA mb m nv qv :: l)) : Ca PP Fn.styx_blank_qids #[.agg #[], .pointer (some ⟨mb, 14, none⟩)] w fun r w' => r = .tuple #[] ∧ Hs w0 F w' (mA mb (setF m0 m .xQ) nv nilV :: l) :=
  (bqids_ok (by simp) E).mono fun r w' h => h
theorem bl_i (E : Hs w0 F w (mA mb m nv qv :: l)) : Ca PP Fn.styx_blank_dir #[.agg #[], .pointer (some ⟨mb, 16, none⟩)] w fun r w' => r = .tuple #[] ∧ Hs w0 F w' (mA mb (setF m0 m .xi) nv qv :: l) :=
  (bdir_ok (by simp) E).mono fun r w' h => h
theorem bl_q (E : Hs w0 F w (mA mb m nv (oneV qb) :: pt qb (oc [x, y, z] Ty.api_Qid) :: l)) :
    Ca PP Fn.styx_one #[.iface Ty.styx_blank (.agg #[]), ptr mb] w fun r w' => r = .tuple #[] ∧ Hs w0 F w' (mA mb (setF m0 m .xq) nv (oneV qb) :: pt qb (oc [i64 0, i64 0, i64 0] Ty.api_Qid) :: l) := by
  refine S.styx_one.calls ?_
  unfold S.styx_one
  (repeat first | (with_reducible first | refine Stp.go ?_ | refine StpE.go E ?_) | (intro J_ hJ_))
  refine LnL.mk ?_
  (repeat first | (with_reducible first | refine Stp.go ?_ | refine StpE.go E ?_ | (apply hJ_; intro u_)) | ((with_reducible refine Bi.dec false ?_ ?_); focus exact rfl))
  refine ⟨_, 1, 1, .i64, 0, rfl, rfl, by omega, by decide, ?_⟩
  show Ca PP Fn.styx_qid #[.iface Ty.styx_blank (.agg #[]), ptr qb] w _
  (replace E := ((E.bIx 0).bIx 1))
  refine (bqid_ok E).mono ?_
  clear E
  rintro r w_ ⟨rfl, E⟩
  (replace E := ((E.bIx 0).bIx 1))
  exact ⟨rfl, E⟩
theorem bk_100 (hk : m.kind = 100) (E : Hs w0 F w (mA mb m nv qv :: l)) :
    Ca PP Fn.styx_fields #[.iface Ty.styx_blank (.agg #[]), ptr mb] w fun r w' => r = .tuple #[] ∧ Hs w0 F w' (mA mb (blk m [.xS, .xv]) nv qv :: l) := by
  refine S.styx_fields.calls ?_
  unfold S.styx_fields
  (repeat with_reducible first | refine Stp.go ?_ | refine StpE.go E ?_)
  rw [hk, blk2]
  (repeat first | (with_reducible first | refine Stp.go ?_ | (refine StpW.go E ?_; clear E; intro w_ E) | (apply hJ_; intro u_)) | ((with_reducible refine Bi.dec true ?_ ?_); focus exact rfl) | (intro J_ hJ_))
  refine (bl_S E).mono ?_
  clear E
  rintro r w_ ⟨rfl, E⟩
  (repeat with_reducible first | refine Stp.go ?_ | (refine StpW.go E ?_; clear E; intro w_ E))
  refine (bl_v E).mono ?_
  clear E
  rintro r w_ ⟨rfl, E⟩
  skip
  exact ⟨rfl, E⟩
theorem bk_101 (hk : m.kind = 101) (E : Hs w0 F w (mA mb m nv qv :: l)) :
    Ca PP Fn.styx_fields #[.iface Ty.styx_blank (.agg #[]), ptr mb] w fun r w' => r = .tuple #[] ∧ Hs w0 F w' (mA mb (blk m [.xS, .xv]) nv qv :: l) := by
  refine S.styx_fields.calls ?_
  unfold S.styx_fields
  (repeat with_reducible first | refine Stp.go ?_ | refine StpE.go E ?_)
  rw [hk, blk2]
  (repeat first | (with_reducible first | refine Stp.go ?_ | (refine StpW.go E ?_; clear E; intro w_ E) | (apply hJ_; intro u_)) | ((with_reducible refine Bi.dec true ?_ ?_); focus exact rfl) | ((with_reducible refine Bi.dec false ?_ ?_); focus exact rfl) | (intro J_ hJ_))
  refine (bl_S E).mono ?_
  clear E
  rintro r w_ ⟨rfl, E⟩
  (repeat with_reducible first | refine Stp.go ?_ | (refine StpW.go E ?_; clear E; intro w_ E))
  refine (bl_v E).mono ?_
  clear E
  rintro r w_ ⟨rfl, E⟩
  skip
  exact ⟨rfl, E⟩
theorem bk_102 (hk : m.kind = 102) (E : Hs w0 F w (mA mb m nv qv :: l)) :
    Ca PP Fn.styx_fields #[.iface Ty.styx_blank (.agg #[]), ptr mb] w fun r w' => r = .tuple #[] ∧ Hs w0 F w' (mA mb (blk m [.xf, .xu, .xt]) nv qv :: l) := by
  refine S.styx_fields.calls ?_
  unfold S.styx_fields
  (repeat with_reducible first | refine Stp.go ?_ | refine StpE.go E ?_)
  rw [hk, blk3]
  (repeat first | (with_reducible first | refine Stp.go ?_ | (refine StpW.go E ?_; clear E; intro w_ E) | (apply hJ_; intro u_)) | ((with_reducible refine Bi.dec true ?_ ?_); focus exact rfl) | ((with_reducible refine Bi.dec false ?_ ?_); focus exact rfl) | (intro J_ hJ_))
  refine (bl_f E).mono ?_
  clear E
  rintro r w_ ⟨rfl, E⟩
  (repeat with_reducible first | refine Stp.go ?_ | (refine StpW.go E ?_; clear E; intro w_ E))
  refine (bl_u E).mono ?_
  clear E
  rintro r w_ ⟨rfl, E⟩
  (repeat with_reducible first | refine Stp.go ?_ | (refine StpW.go E ?_; clear E; intro w_ E))
  refine (bl_t E).mono ?_
  clear E
  rintro r w_ ⟨rfl, E⟩
  skip
  exact ⟨rfl, E⟩
theorem bk_103 (hk : m.kind = 103) (E : Hs w0 F w (mA mb m nv (oneV qb) :: pt qb (oc [x, y, z] Ty.api_Qid) :: l)) :
    Ca PP Fn.styx_fields #[.iface Ty.styx_blank (.agg #[]), ptr mb] w fun r w' => r = .tuple #[] ∧ Hs w0 F w' (mA mb (blk m [.xq]) nv (oneV qb) :: pt qb (oc [i64 0, i64 0, i64 0] Ty.api_Qid) :: l) := by
  refine S.styx_fields.calls ?_
  unfold S.styx_fields
  (repeat with_reducible first | refine Stp.go ?_ | refine StpE.go E ?_)
  rw [hk, blk1]
  (repeat first | (with_reducible first | refine Stp.go ?_ | (apply hJ_; intro u_)) | ((with_reducible refine Bi.dec true ?_ ?_); focus exact rfl) | ((with_reducible refine Bi.dec false ?_ ?_); focus exact rfl) | (intro J_ hJ_))
  refine (bl_q E).mono ?_
  clear E
  rintro r w_ ⟨rfl, E⟩
  skip
  exact ⟨rfl, E⟩
theorem bk_105 (hk : m.kind = 105) (E : Hs w0 F w (mA mb m nv (oneV qb) :: pt qb (oc [x, y, z] Ty.api_Qid) :: l)) :
    Ca PP Fn.styx_fields #[.iface Ty.styx_blank (.agg #[]), ptr mb] w fun r w' => r = .tuple #[] ∧ Hs w0 F w' (mA mb (blk m [.xq]) nv (oneV qb) :: pt qb (oc [i64 0, i64 0, i64 0] Ty.api_Qid) :: l) := by
  refine S.styx_fields.calls ?_
  unfold S.styx_fields
  (repeat with_reducible first | refine Stp.go ?_ | refine StpE.go E ?_)
  rw [hk, blk1]
  (repeat first | (with_reducible first | refine Stp.go ?_ | (apply hJ_; intro u_)) | ((with_reducible refine Bi.dec true ?_ ?_); focus exact rfl) | ((with_reducible refine Bi.dec false ?_ ?_); focus exact rfl) | (intro J_ hJ_))
  refine (bl_q E).mono ?_
  clear E
  rintro r w_ ⟨rfl, E⟩
  skip
  exact ⟨rfl, E⟩
theorem bk_104 (hk : m.kind = 104) (E : Hs w0 F w (mA mb m nv qv :: l)) :
    Ca PP Fn.styx_fields #[.iface Ty.styx_blank (.agg #[]), ptr mb] w fun r w' => r = .tuple #[] ∧ Hs w0 F w' (mA mb (blk m [.xf, .xo, .xu, .xt]) nv qv :: l) := by
  refine S.styx_fields.calls ?_
  unfold S.styx_fields
  (repeat with_reducible first | refine Stp.go ?_ | refine StpE.go E ?_)
  rw [hk, blk4]
  (repeat first | (with_reducible first | refine Stp.go ?_ | (refine StpW.go E ?_; clear E; intro w_ E) | (apply hJ_; intro u_)) | ((with_reducible refine Bi.dec true ?_ ?_); focus exact rfl) | ((with_reducible refine Bi.dec false ?_ ?_); focus exact rfl) | (intro J_ hJ_))
  refine (bl_f E).mono ?_
  clear E
  rintro r w_ ⟨rfl, E⟩
  (repeat with_reducible first | refine Stp.go ?_ | (refine StpW.go E ?_; clear E; intro w_ E))
  refine (bl_o E).mono ?_
  clear E
  rintro r w_ ⟨rfl, E⟩
  (repeat with_reducible first | refine Stp.go ?_ | (refine StpW.go E ?_; clear E; intro w_ E))
  refine (bl_u E).mono ?_
  clear E
  rintro r w_ ⟨rfl, E⟩
  (repeat with_reducible first | refine Stp.go ?_ | (refine StpW.go E ?_; clear E; intro w_ E))
  refine (bl_t E).mono ?_
  clear E
  rintro r w_ ⟨rfl, E⟩
  skip
  exact ⟨rfl, E⟩
theorem bk_107 (hk : m.kind = 107) (E : Hs w0 F w (mA mb m nv qv :: l)) :
    Ca PP Fn.styx_fields #[.iface Ty.styx_blank (.agg #[]), ptr mb] w fun r w' => r = .tuple #[] ∧ Hs w0 F w' (mA mb (blk m [.xc]) nv qv :: l) := by
  refine S.styx_fields.calls ?_
  unfold S.styx_fields
  (repeat with_reducible first | refine Stp.go ?_ | refine StpE.go E ?_)
  rw [hk, blk1]
  (repeat first | (with_reducible first | refine Stp.go ?_ | refine StpE.go E ?_ | (refine StpW.go E ?_; clear E; intro w_ E) | (refine StpA.go E ?_; clear E; intro b_ w_ hb_ E) | (apply hJ_; intro u_)) | ((with_reducible refine Bi.dec true ?_ ?_); focus exact rfl) | ((with_reducible refine Bi.dec false ?_ ?_); focus exact rfl) | (intro J_ hJ_))
  (revert b_; intro c hbc E)
  refine (bnum_ok (by simp) E).mono ?_
  clear E
  rintro r w_ ⟨rfl, E⟩
  (try simp only [List.set_cons_zero, List.set_cons_succ, List.cons_append, List.nil_append, Nat.zero_add, Nat.add_zero] at E)
  (repeat with_reducible first | refine Stp.go ?_ | refine StpE.go E ?_ | (refine StpW.go E ?_; clear E; intro w_ E))
  exact ⟨rfl, E.tl⟩
theorem bk_108 (hk : m.kind = 108) (E : Hs w0 F w (mA mb m nv qv :: l)) :
    Ca PP Fn.styx_fields #[.iface Ty.styx_blank (.agg #[]), ptr mb] w fun r w' => r = .tuple #[] ∧ Hs w0 F w' (mA mb (blk m [.xd]) nv qv :: l) := by
  refine S.styx_fields.calls ?_
  unfold S.styx_fields
  (repeat with_reducible first | refine Stp.go ?_ | refine StpE.go E ?_)
  rw [hk, blk1]
  (repeat first | (with_reducible first | refine Stp.go ?_ | (refine StpW.go E ?_; clear E; intro w_ E) | (apply hJ_; intro u_)) | ((with_reducible refine Bi.dec true ?_ ?_); focus exact rfl) | ((with_reducible refine Bi.dec false ?_ ?_); focus exact rfl) | (intro J_ hJ_))
  refine (bl_d E).mono ?_
  clear E
  rintro r w_ ⟨rfl, E⟩
  skip
  exact ⟨rfl, E⟩
theorem bk_110 (hk : m.kind = 110) (E : Hs w0 F w (mA mb m nv qv :: l)) :
    Ca PP Fn.styx_fields #[.iface Ty.styx_blank (.agg #[]), ptr mb] w fun r w' => r = .tuple #[] ∧ Hs w0 F w' (mA mb (blk m [.xf, .xo, .xn]) nilV qv :: l) := by
  refine S.styx_fields.calls ?_
  unfold S.styx_fields
  (repeat with_reducible first | refine Stp.go ?_ | refine StpE.go E ?_)
  rw [hk, blk3]
  (repeat first | (with_reducible first | refine Stp.go ?_ | (refine StpW.go E ?_; clear E; intro w_ E) | (apply hJ_; intro u_)) | ((with_reducible refine Bi.dec true ?_ ?_); focus exact rfl) | ((with_reducible refine Bi.dec false ?_ ?_); focus exact rfl) | (intro J_ hJ_))
  refine (bl_f E).mono ?_
  clear E
  rintro r w_ ⟨rfl, E⟩
  (repeat with_reducible first | refine Stp.go ?_ | (refine StpW.go E ?_; clear E; intro w_ E))
  refine (bl_o E).mono ?_
  clear E
  rintro r w_ ⟨rfl, E⟩
  (repeat with_reducible first | refine Stp.go ?_ | (refine StpW.go E ?_; clear E; intro w_ E))
  refine (bl_n E).mono ?_
  clear E
  rintro r w_ ⟨rfl, E⟩
  skip
  exact ⟨rfl, E⟩
theorem bk_111 (hk : m.kind = 111) (E : Hs w0 F w (mA mb m nv qv :: l)) :
    Ca PP Fn.styx_fields #[.iface Ty.styx_blank (.agg #[]), ptr mb] w fun r w' => r = .tuple #[] ∧ Hs w0 F w' (mA mb (blk m [.xQ]) nv nilV :: l) := by
  refine S.styx_fields.calls ?_
  unfold S.styx_fields
  (repeat with_reducible first | refine Stp.go ?_ | refine StpE.go E ?_)
  rw [hk, blk1]
  (repeat first | (with_reducible first | refine Stp.go ?_ | (refine StpW.go E ?_; clear E; intro w_ E) | (apply hJ_; intro u_)) | ((with_reducible refine Bi.dec true ?_ ?_); focus exact rfl) | ((with_reducible refine Bi.dec false ?_ ?_); focus exact rfl) | (intro J_ hJ_))
  refine (bl_Q E).mono ?_
  clear E
  rintro r w_ ⟨rfl, E⟩
  skip
  exact ⟨rfl, E⟩
theorem bk_112 (hk : m.kind = 112) (E : Hs w0 F w (mA mb m nv qv :: l)) :
    Ca PP Fn.styx_fields #[.iface Ty.styx_blank (.agg #[]), ptr mb] w fun r w' => r = .tuple #[] ∧ Hs w0 F w' (mA mb (blk m [.xf, .xm]) nv qv :: l) := by
  refine S.styx_fields.calls ?_
  unfold S.styx_fields
  (repeat with_reducible first | refine Stp.go ?_ | refine StpE.go E ?_)
  rw [hk, blk2]
  (repeat first | (with_reducible first | refine Stp.go ?_ | (refine StpW.go E ?_; clear E; intro w_ E) | (apply hJ_; intro u_)) | ((with_reducible refine Bi.dec true ?_ ?_); focus exact rfl) | ((with_reducible refine Bi.dec false ?_ ?_); focus exact rfl) | (intro J_ hJ_))
  refine (bl_f E).mono ?_
  clear E
  rintro r w_ ⟨rfl, E⟩
  (repeat with_reducible first | refine Stp.go ?_ | (refine StpW.go E ?_; clear E; intro w_ E))
  refine (bl_m E).mono ?_
  clear E
  rintro r w_ ⟨rfl, E⟩
  skip
  exact ⟨rfl, E⟩
theorem bk_113 (hk : m.kind = 113) (E : Hs w0 F w (mA mb m nv (oneV qb) :: pt qb (oc [x, y, z] Ty.api_Qid) :: l)) :
    Ca PP Fn.styx_fields #[.iface Ty.styx_blank (.agg #[]), ptr mb] w fun r w' => r = .tuple #[] ∧ Hs w0 F w' (mA mb (blk m [.xq, .xS]) nv (oneV qb) :: pt qb (oc [i64 0, i64 0, i64 0] Ty.api_Qid) :: l) := by
  refine S.styx_fields.calls ?_
  unfold S.styx_fields
  (repeat with_reducible first | refine Stp.go ?_ | refine StpE.go E ?_)
  rw [hk, blk2]
  (repeat first | (with_reducible first | refine Stp.go ?_ | (apply hJ_; intro u_)) | ((with_reducible refine Bi.dec true ?_ ?_); focus exact rfl) | ((with_reducible refine Bi.dec false ?_ ?_); focus exact rfl) | (intro J_ hJ_))
  refine (bl_q E).mono ?_
  clear E
  rintro r w_ ⟨rfl, E⟩
  (repeat with_reducible first | refine Stp.go ?_ | (refine StpW.go E ?_; clear E; intro w_ E))
  refine (bl_S E).mono ?_
  clear E
  rintro r w_ ⟨rfl, E⟩
  skip
  exact ⟨rfl, E⟩
theorem bk_115 (hk : m.kind = 115) (E : Hs w0 F w (mA mb m nv (oneV qb) :: pt qb (oc [x, y, z] Ty.api_Qid) :: l)) :
    Ca PP Fn.styx_fields #[.iface Ty.styx_blank (.agg #[]), ptr mb] w fun r w' => r = .tuple #[] ∧ Hs w0 F w' (mA mb (blk m [.xq, .xS]) nv (oneV qb) :: pt qb (oc [i64 0, i64 0, i64 0] Ty.api_Qid) :: l) := by
  refine S.styx_fields.calls ?_
  unfold S.styx_fields
  (repeat with_reducible first | refine Stp.go ?_ | refine StpE.go E ?_)
  rw [hk, blk2]
  (repeat first | (with_reducible first | refine Stp.go ?_ | (apply hJ_; intro u_)) | ((with_reducible refine Bi.dec true ?_ ?_); focus exact rfl) | ((with_reducible refine Bi.dec false ?_ ?_); focus exact rfl) | (intro J_ hJ_))
  refine (bl_q E).mono ?_
  clear E
  rintro r w_ ⟨rfl, E⟩
  (repeat with_reducible first | refine Stp.go ?_ | (refine StpW.go E ?_; clear E; intro w_ E))
  refine (bl_S E).mono ?_
  clear E
  rintro r w_ ⟨rfl, E⟩
  skip
  exact ⟨rfl, E⟩
theorem bk_114 (hk : m.kind = 114) (E : Hs w0 F w (mA mb m nv qv :: l)) :
    Ca PP Fn.styx_fields #[.iface Ty.styx_blank (.agg #[]), ptr mb] w fun r w' => r = .tuple #[] ∧ Hs w0 F w' (mA mb (blk m [.xf, .xN, .xp, .xm]) nv qv :: l) := by
  refine S.styx_fields.calls ?_
  unfold S.styx_fields
  (repeat with_reducible first | refine Stp.go ?_ | refine StpE.go E ?_)
  rw [hk, blk4]
  (repeat first | (with_reducible first | refine Stp.go ?_ | (refine StpW.go E ?_; clear E; intro w_ E) | (apply hJ_; intro u_)) | ((with_reducible refine Bi.dec true ?_ ?_); focus exact rfl) | ((with_reducible refine Bi.dec false ?_ ?_); focus exact rfl) | (intro J_ hJ_))
  refine (bl_f E).mono ?_
  clear E
  rintro r w_ ⟨rfl, E⟩
  (repeat with_reducible first | refine Stp.go ?_ | (refine StpW.go E ?_; clear E; intro w_ E))
  refine (bl_N E).mono ?_
  clear E
  rintro r w_ ⟨rfl, E⟩
  (repeat with_reducible first | refine Stp.go ?_ | (refine StpW.go E ?_; clear E; intro w_ E))
  refine (bl_p E).mono ?_
  clear E
  rintro r w_ ⟨rfl, E⟩
  (repeat with_reducible first | refine Stp.go ?_ | (refine StpW.go E ?_; clear E; intro w_ E))
  refine (bl_m E).mono ?_
  clear E
  rintro r w_ ⟨rfl, E⟩
  skip
  exact ⟨rfl, E⟩
theorem bk_116 (hk : m.kind = 116) (E : Hs w0 F w (mA mb m nv qv :: l)) :
    Ca PP Fn.styx_fields #[.iface Ty.styx_blank (.agg #[]), ptr mb] w fun r w' => r = .tuple #[] ∧ Hs w0 F w' (mA mb (blk m [.xf, .xO, .xS]) nv qv :: l) := by
  refine S.styx_fields.calls ?_
  unfold S.styx_fields
  (repeat with_reducible first | refine Stp.go ?_ | refine StpE.go E ?_)
  rw [hk, blk3]
  (repeat first | (with_reducible first | refine Stp.go ?_ | (refine StpW.go E ?_; clear E; intro w_ E) | (apply hJ_; intro u_)) | ((with_reducible refine Bi.dec true ?_ ?_); focus exact rfl) | ((with_reducible refine Bi.dec false ?_ ?_); focus exact rfl) | (intro J_ hJ_))
  refine (bl_f E).mono ?_
  clear E
  rintro r w_ ⟨rfl, E⟩
  (repeat with_reducible first | refine Stp.go ?_ | (refine StpW.go E ?_; clear E; intro w_ E))
  refine (bl_O E).mono ?_
  clear E
  rintro r w_ ⟨rfl, E⟩
  (repeat with_reducible first | refine Stp.go ?_ | (refine StpW.go E ?_; clear E; intro w_ E))
  refine (bl_S E).mono ?_
  clear E
  rintro r w_ ⟨rfl, E⟩
  skip
  exact ⟨rfl, E⟩
theorem bk_117 (hk : m.kind = 117) (E : Hs w0 F w (mA mb m nv qv :: l)) :
    Ca PP Fn.styx_fields #[.iface Ty.styx_blank (.agg #[]), ptr mb] w fun r w' => r = .tuple #[] ∧ Hs w0 F w' (mA mb (blk m [.xD]) nv qv :: l) := by
  refine S.styx_fields.calls ?_
  unfold S.styx_fields
  (repeat with_reducible first | refine Stp.go ?_ | refine StpE.go E ?_)
  rw [hk, blk1]
  (repeat first | (with_reducible first | refine Stp.go ?_ | (refine StpW.go E ?_; clear E; intro w_ E) | (apply hJ_; intro u_)) | ((with_reducible refine Bi.dec true ?_ ?_); focus exact rfl) | ((with_reducible refine Bi.dec false ?_ ?_); focus exact rfl) | (intro J_ hJ_))
  refine (bl_D E).mono ?_
  clear E
  rintro r w_ ⟨rfl, E⟩
  skip
  exact ⟨rfl, E⟩
theorem bk_118 (hk : m.kind = 118) (E : Hs w0 F w (mA mb m nv qv :: l)) :
    Ca PP Fn.styx_fields #[.iface Ty.styx_blank (.agg #[]), ptr mb] w fun r w' => r = .tuple #[] ∧ Hs w0 F w' (mA mb (blk m [.xf, .xO, .xD]) nv qv :: l) := by
  refine S.styx_fields.calls ?_
  unfold S.styx_fields
  (repeat with_reducible first | refine Stp.go ?_ | refine StpE.go E ?_)
  rw [hk, blk3]
  (repeat first | (with_reducible first | refine Stp.go ?_ | (refine StpW.go E ?_; clear E; intro w_ E) | (apply hJ_; intro u_)) | ((with_reducible refine Bi.dec true ?_ ?_); focus exact rfl) | ((with_reducible refine Bi.dec false ?_ ?_); focus exact rfl) | (intro J_ hJ_))
  refine (bl_f E).mono ?_
  clear E
  rintro r w_ ⟨rfl, E⟩
  (repeat with_reducible first | refine Stp.go ?_ | (refine StpW.go E ?_; clear E; intro w_ E))
  refine (bl_O E).mono ?_
  clear E
  rintro r w_ ⟨rfl, E⟩
  (repeat with_reducible first | refine Stp.go ?_ | (refine StpW.go E ?_; clear E; intro w_ E))
  refine (bl_D E).mono ?_
  clear E
  rintro r w_ ⟨rfl, E⟩
  skip
  exact ⟨rfl, E⟩
theorem bk_119 (hk : m.kind = 119) (E : Hs w0 F w (mA mb m nv qv :: l)) :
    Ca PP Fn.styx_fields #[.iface Ty.styx_blank (.agg #[]), ptr mb] w fun r w' => r = .tuple #[] ∧ Hs w0 F w' (mA mb (blk m [.xS]) nv qv :: l) := by
  refine S.styx_fields.calls ?_
  unfold S.styx_fields
  (repeat with_reducible first | refine Stp.go ?_ | refine StpE.go E ?_)
  rw [hk, blk1]
  (repeat first | (with_reducible first | refine Stp.go ?_ | (refine StpW.go E ?_; clear E; intro w_ E) | (apply hJ_; intro u_)) | ((with_reducible refine Bi.dec true ?_ ?_); focus exact rfl) | ((with_reducible refine Bi.dec false ?_ ?_); focus exact rfl) | (intro J_ hJ_))
  refine (bl_S E).mono ?_
  clear E
  rintro r w_ ⟨rfl, E⟩
  skip
  exact ⟨rfl, E⟩
theorem bk_120 (hk : m.kind = 120) (E : Hs w0 F w (mA mb m nv qv :: l)) :
    Ca PP Fn.styx_fields #[.iface Ty.styx_blank (.agg #[]), ptr mb] w fun r w' => r = .tuple #[] ∧ Hs w0 F w' (mA mb (blk m [.xf]) nv qv :: l) := by
  refine S.styx_fields.calls ?_
  unfold S.styx_fields
  (repeat with_reducible first | refine Stp.go ?_ | refine StpE.go E ?_)
  rw [hk, blk1]
  (repeat first | (with_reducible first | refine Stp.go ?_ | (refine StpW.go E ?_; clear E; intro w_ E) | (apply hJ_; intro u_)) | ((with_reducible refine Bi.dec true ?_ ?_); focus exact rfl) | ((with_reducible refine Bi.dec false ?_ ?_); focus exact rfl) | (intro J_ hJ_))
  refine (bl_f E).mono ?_
  clear E
  rintro r w_ ⟨rfl, E⟩
  skip
  exact ⟨rfl, E⟩
theorem bk_122 (hk : m.kind = 122) (E : Hs w0 F w (mA mb m nv qv :: l)) :
    Ca PP Fn.styx_fields #[.iface Ty.styx_blank (.agg #[]), ptr mb] w fun r w' => r = .tuple #[] ∧ Hs w0 F w' (mA mb (blk m [.xf]) nv qv :: l) := by
  refine S.styx_fields.calls ?_
  unfold S.styx_fields
  (repeat with_reducible first | refine Stp.go ?_ | refine StpE.go E ?_)
  rw [hk, blk1]
  (repeat first | (with_reducible first | refine Stp.go ?_ | (refine StpW.go E ?_; clear E; intro w_ E) | (apply hJ_; intro u_)) | ((with_reducible refine Bi.dec true ?_ ?_); focus exact rfl) | ((with_reducible refine Bi.dec false ?_ ?_); focus exact rfl) | (intro J_ hJ_))
  refine (bl_f E).mono ?_
  clear E
  rintro r w_ ⟨rfl, E⟩
  skip
  exact ⟨rfl, E⟩
theorem bk_124 (hk : m.kind = 124) (E : Hs w0 F w (mA mb m nv qv :: l)) :
    Ca PP Fn.styx_fields #[.iface Ty.styx_blank (.agg #[]), ptr mb] w fun r w' => r = .tuple #[] ∧ Hs w0 F w' (mA mb (blk m [.xf]) nv qv :: l) := by
  refine S.styx_fields.calls ?_
  unfold S.styx_fields
  (repeat with_reducible first | refine Stp.go ?_ | refine StpE.go E ?_)
  rw [hk, blk1]
  (repeat first | (with_reducible first | refine Stp.go ?_ | (refine StpW.go E ?_; clear E; intro w_ E) | (apply hJ_; intro u_)) | ((with_reducible refine Bi.dec true ?_ ?_); focus exact rfl) | ((with_reducible refine Bi.dec false ?_ ?_); focus exact rfl) | (intro J_ hJ_))
  refine (bl_f E).mono ?_
  clear E
  rintro r w_ ⟨rfl, E⟩
  skip
  exact ⟨rfl, E⟩
theorem bk_125 (hk : m.kind = 125) (E : Hs w0 F w (mA mb m nv qv :: l)) :
    Ca PP Fn.styx_fields #[.iface Ty.styx_blank (.agg #[]), ptr mb] w fun r w' => r = .tuple #[] ∧ Hs w0 F w' (mA mb (blk m [.xi]) nv qv :: l) := by
  refine S.styx_fields.calls ?_
  unfold S.styx_fields
  (repeat with_reducible first | refine Stp.go ?_ | refine StpE.go E ?_)
  rw [hk, blk1]
  (repeat first | (with_reducible first | refine Stp.go ?_ | (refine StpW.go E ?_; clear E; intro w_ E) | (apply hJ_; intro u_)) | ((with_reducible refine Bi.dec true ?_ ?_); focus exact rfl) | ((with_reducible refine Bi.dec false ?_ ?_); focus exact rfl) | (intro J_ hJ_))
  refine (bl_i E).mono ?_
  clear E
  rintro r w_ ⟨rfl, E⟩
  skip
  exact ⟨rfl, E⟩
theorem bk_126 (hk : m.kind = 126) (E : Hs w0 F w (mA mb m nv qv :: l)) :
    Ca PP Fn.styx_fields #[.iface Ty.styx_blank (.agg #[]), ptr mb] w fun r w' => r = .tuple #[] ∧ Hs w0 F w' (mA mb (blk m [.xf, .xi]) nv qv :: l) := by
  refine S.styx_fields.calls ?_
  unfold S.styx_fields
  (repeat with_reducible first | refine Stp.go ?_ | refine StpE.go E ?_)
  rw [hk, blk2]
  (repeat first | (with_reducible first | refine Stp.go ?_ | (refine StpW.go E ?_; clear E; intro w_ E) | (apply hJ_; intro u_)) | ((with_reducible refine Bi.dec true ?_ ?_); focus exact rfl) | ((with_reducible refine Bi.dec false ?_ ?_); focus exact rfl) | (intro J_ hJ_))
  refine (bl_f E).mono ?_
  clear E
  rintro r w_ ⟨rfl, E⟩
  (repeat with_reducible first | refine Stp.go ?_ | (refine StpW.go E ?_; clear E; intro w_ E))
  refine (bl_i E).mono ?_
  clear E
  rintro r w_ ⟨rfl, E⟩
  skip
  exact ⟨rfl, E⟩
theorem bk_109 (hk : m.kind = 109) (E : Hs w0 F w (mA mb m nv qv :: l)) :
    Ca PP Fn.styx_fields #[.iface Ty.styx_blank (.agg #[]), ptr mb] w fun r w' => r = .tuple #[] ∧ Hs w0 F w' (mA mb (blk m []) nv qv :: l) := by
  refine S.styx_fields.calls ?_
  unfold S.styx_fields
  (repeat with_reducible first | refine Stp.go ?_ | refine StpE.go E ?_)
  rw [hk, blk0]
  (repeat first | (with_reducible first | refine Stp.go ?_ | (apply hJ_; intro u_)) | ((with_reducible refine Bi.dec false ?_ ?_); focus exact rfl) | (intro J_ hJ_))
  exact ⟨rfl, E⟩
theorem bk_121 (hk : m.kind = 121) (E : Hs w0 F w (mA mb m nv qv :: l)) :
    Ca PP Fn.styx_fields #[.iface Ty.styx_blank (.agg #[]), ptr mb] w fun r w' => r = .tuple #[] ∧ Hs w0 F w' (mA mb (blk m []) nv qv :: l) := by
  refine S.styx_fields.calls ?_
  unfold S.styx_fields
  (repeat with_reducible first | refine Stp.go ?_ | refine StpE.go E ?_)
  rw [hk, blk0]
  (repeat first | (with_reducible first | refine Stp.go ?_ | (apply hJ_; intro u_)) | ((with_reducible refine Bi.dec false ?_ ?_); focus exact rfl) | (intro J_ hJ_))
  exact ⟨rfl, E⟩
theorem bk_123 (hk : m.kind = 123) (E : Hs w0 F w (mA mb m nv qv :: l)) :
    Ca PP Fn.styx_fields #[.iface Ty.styx_blank (.agg #[]), ptr mb] w fun r w' => r = .tuple #[] ∧ Hs w0 F w' (mA mb (blk m []) nv qv :: l) := by
  refine S.styx_fields.calls ?_
  unfold S.styx_fields
  (repeat with_reducible first | refine Stp.go ?_ | refine StpE.go E ?_)
  rw [hk, blk0]
  (repeat first | (with_reducible first | refine Stp.go ?_ | (apply hJ_; intro u_)) | ((with_reducible refine Bi.dec false ?_ ?_); focus exact rfl) | (intro J_ hJ_))
  exact ⟨rfl, E⟩
theorem bk_127 (hk : m.kind = 127) (E : Hs w0 F w (mA mb m nv qv :: l)) :
    Ca PP Fn.styx_fields #[.iface Ty.styx_blank (.agg #[]), ptr mb] w fun r w' => r = .tuple #[] ∧ Hs w0 F w' (mA mb (blk m []) nv qv :: l) := by
  refine S.styx_fields.calls ?_
  unfold S.styx_fields
  (repeat with_reducible first | refine Stp.go ?_ | refine StpE.go E ?_)
  rw [hk, blk0]
  (repeat first | (with_reducible first | refine Stp.go ?_ | (apply hJ_; intro u_)) | ((with_reducible refine Bi.dec false ?_ ?_); focus exact rfl) | (intro J_ hJ_))
  exact ⟨rfl, E⟩
end Go.Proofs.YtmlccboapkkcfaaGreatDoor

/-
  The protocol: whether a message has the fields of its kind alone.
-/
namespace Go.Proofs.YtmlccboapkkcfaaGreatDoor
open Go Go.Sh
set_option maxRecDepth 100000
set_option linter.unusedVariables false
set_option linter.unusedSimpArgs false
variable {w0 w : World} {F : Nat → Prop} {l : List As}
variable {mb : Nat} {m : Ms} {nv qv : Value}
def orI (a b : Int) : Int := IntKind.i64.wrap (BitVec.ofInt 64 a ||| BitVec.ofInt 64 b).toNat
theorem Bi.or' {a b : Int} {k : Value → Prop} (h : k (i64 (orI a b))) : Bi .or (i64 a) (i64 b) k := Bi.mk rfl h
theorem ofInt_wrap (x : BitVec 64) : BitVec.ofInt 64 (IntKind.i64.wrap (x.toNat : Int)) = x := by
  apply BitVec.eq_of_toNat_eq
  rw [BitVec.toNat_ofInt]
  have h := x.isLt
  have h2 : ((x.toNat : Int) % (2 ^ IntKind.i64.bits : Int)) = x.toNat := Int.emod_eq_of_lt (by omega) (by show (x.toNat : Int) < 18446744073709551616; omega)
  unfold IntKind.wrap
  simp only [h2]
  show ((if (IntKind.i64.signed && decide ((x.toNat : Int) ≥ 9223372036854775808)) = true then (x.toNat : Int) - 18446744073709551616 else (x.toNat : Int)) % 18446744073709551616).toNat = x.toNat
  split <;> omega
theorem orI_ofInt (a b : Int) : BitVec.ofInt 64 (orI a b) = BitVec.ofInt 64 a ||| BitVec.ofInt 64 b := ofInt_wrap _
theorem ofInt_zero {a : Int} (h : rngI a) : BitVec.ofInt 64 a = 0#64 ↔ a = 0 := by
  unfold rngI at h
  constructor
  · intro e
    have := congrArg BitVec.toInt e
    rw [BitVec.toInt_ofInt] at this
    have e2 : a.bmod (2 ^ 64) = a := by
      rw [Int.bmod_eq_of_le] <;> omega
    rw [e2] at this
    simpa using this
  · rintro rfl; rfl
theorem wrap_rng (n : Int) : rngI (IntKind.i64.wrap n) := by
  unfold rngI IntKind.wrap
  simp only [IntKind.signed, IntKind.bits, Bool.true_and]
  have h1 := Int.emod_nonneg n (b := (2 ^ 64 : Int)) (by omega)
  have h2 := Int.emod_lt_of_pos n (b := (2 ^ 64 : Int)) (by omega)
  split
  · rename_i h
    have h := of_decide_eq_true h
    omega
  · rename_i h
    have h : n % 18446744073709551616 < 9223372036854775808 := by simpa using h
    omega
theorem orI_rng (a b : Int) : rngI (orI a b) := wrap_rng _
theorem orI_zero {a b : Int} (ha : rngI a) (hb : rngI b) : orI a b = 0 ↔ a = 0 ∧ b = 0 := by
  rw [← ofInt_zero (orI_rng a b), orI_ofInt, BitVec.or_eq_zero_iff, ofInt_zero ha, ofInt_zero hb]
abbrev lkDir : List LK := [.int .i64, .int .i64, .int .i64, .int .i64, .int .i64, .int .i64, .str, .str, .str, .str]
theorem lv_Dir : lv PP 20 Ty.api_Dir = some lkDir := by kernel_rfl
theorem st_Dir : isSt PP Ty.api_Dir = true := by kernel_rfl
theorem g_Dir : PP.eqGuardType PP.depth Ty.api_Dir = false := by kernel_rfl
theorem ceq_str (a b : List UInt8) : ceq (sb a) (sb b) = decide (a = b) := by
  show decide (mkB a = mkB b) = _
  apply decide_eq_decide.2
  exact ⟨mkB_inj, fun h => by rw [h]⟩
theorem ceq_int (a b : Int) : ceq (i64 a) (i64 b) = decide (a = b) := rfl
theorem ceq_dir (d e : Di) : ceqL (dcs d) (dcs e) = decide (d = e) := by
  obtain ⟨⟨a1, a2, a3⟩, a4, a5, a6, a7, a8, a9, a10⟩ := d
  obtain ⟨⟨b1, b2, b3⟩, b4, b5, b6, b7, b8, b9, b10⟩ := e
  simp only [ceqL, ceq_str, ceq_int, Bool.and_true]
  rw [Bool.eq_iff_iff]
  simp only [Bool.and_eq_true, decide_eq_true_eq, Di.mk.injEq, Qi.mk.injEq]
  constructor
  · rintro ⟨h1, h2, h3, h4, h5, h6, h7, h8, h9, h10⟩
    exact ⟨⟨h1, h2, h3⟩, h4, h5, h6, h7, h8, h9, h10⟩
  · rintro ⟨⟨h1, h2, h3⟩, h4, h5, h6, h7, h8, h9, h10⟩
    exact ⟨h1, h2, h3, h4, h5, h6, h7, h8, h9, h10⟩
/-- What the look at what is left needs. -/
structure MZ (m : Ms) : Prop where
  zs : m.ver.length ≤ 1048576 ∧ m.user.length ≤ 1048576 ∧ m.tree.length ≤ 1048576 ∧ m.name.length ≤ 1048576 ∧ m.data.length ≤ 1048576
  rg : rngI m.fid ∧ rngI m.other ∧ rngI m.old ∧ rngI m.size ∧ rngI m.mode ∧ rngI m.perm ∧ rngI m.code
theorem MZ.set {m : Ms} (h : MZ m) (f : Fl) : MZ (setF m0 m f) := by
  have z : rngI 0 := by unfold rngI; omega
  obtain ⟨h1, h2, h3, h4, h5⟩ := h.zs
  obtain ⟨r1, r2, r3, r4, r5, r6, r7⟩ := h.rg
  cases f <;> refine ⟨⟨?_, ?_, ?_, ?_, ?_⟩, ⟨?_, ?_, ?_, ?_, ?_, ?_, ?_⟩⟩ <;> first | assumption | exact z | exact Nat.zero_le _
theorem MZ.blk : ∀ {fl : List Fl} {m : Ms}, MZ m → MZ (blk m fl)
  | [], m, h => h
  | f :: r, m, h => MZ.blk (fl := r) (h.set f)
theorem MI.mz (M : MI w0 F l m nv qv) : MZ m := ⟨M.zs, M.rg⟩
def LnO (v : Value) (n : Nat) : Prop := ∃ a c, v = .slice a n c
theorem LnO.ln {v : Value} {n : Nat} (h : LnO v n) {k : Value → Prop} (hk : k (i64 n)) : LnL v k := by
  obtain ⟨a, c, rfl⟩ := h
  exact LnL.mk hk
theorem mkB_nil {a : List UInt8} : mkB a = (⟨#[]⟩ : ByteArray) ↔ a = [] := ⟨fun h => mkB_inj h, fun h => by rw [h]⟩
theorem blk_kind : ∀ {fl : List Fl} {m : Ms}, (blk m fl).kind = m.kind
  | [], m => rfl
  | f :: r, m => by
    have e : blk m (f :: r) = blk (setF m0 m f) r := rfl
    rw [e, blk_kind]
    cases f <;> rfl
theorem RdS.lno {sz n : Nat} {v : Value} {xs : List Value} (h : RdS w0 F l sz n v xs) : LnO v n := by
  obtain ⟨a, c, h, _⟩ := h; exact ⟨a, c, h⟩
theorem nil_lno : LnO nilV 0 := ⟨none, 0, rfl⟩
abbrev qz (qb : Nat) : As := pt qb (oc [i64 0, i64 0, i64 0] Ty.api_Qid)
theorem bfields_ok {fl : List Fl} (hfl : fls m.kind = some fl) (hn : LnO nv m.names.length) (hqv : LnO qv m.qids.length)
    (h : (sng m.kind = false ∧ Hs w0 F w (mA mb m nv qv :: l)) ∨ (sng m.kind = true ∧ ∃ qb, Hs w0 F w (mA mb m nv (oneV qb) :: qz qb :: l))) :
    Ca PP Fn.styx_fields #[.iface Ty.styx_blank (.agg #[]), ptr mb] w fun r w' => r = .tuple #[] ∧
      ((sng m.kind = false ∧ ∃ nv' qv', LnO nv' (blk m fl).names.length ∧ LnO qv' (blk m fl).qids.length ∧ Hs w0 F w' (mA mb (blk m fl) nv' qv' :: l)) ∨
       (sng m.kind = true ∧ ∃ qb, LnO nv (blk m fl).names.length ∧ Hs w0 F w' (mA mb (blk m fl) nv (oneV qb) :: qz qb :: l))) := by
  rcases fls_cases hfl with ⟨(hk | hk), rfl⟩ | ⟨hk, rfl⟩ | ⟨(hk | hk), rfl⟩ | ⟨hk, rfl⟩ | ⟨hk, rfl⟩ | ⟨hk, rfl⟩ | ⟨hk, rfl⟩ | ⟨hk, rfl⟩ | ⟨hk, rfl⟩ | ⟨(hk | hk), rfl⟩ | ⟨hk, rfl⟩ | ⟨hk, rfl⟩ | ⟨hk, rfl⟩ | ⟨hk, rfl⟩ | ⟨hk, rfl⟩ | ⟨(hk | hk | hk), rfl⟩ | ⟨hk, rfl⟩ | ⟨hk, rfl⟩ | ⟨(hk | hk | hk | hk), rfl⟩
  · rcases h with ⟨s, E⟩ | ⟨s, qb, E⟩
    · exact (bk_100 hk E).mono fun r w' h => ⟨h.1, .inl ⟨s, _, _, hn, hqv, h.2⟩⟩
    · rw [hk] at s; exact absurd s (by decide)
  · rcases h with ⟨s, E⟩ | ⟨s, qb, E⟩
    · exact (bk_101 hk E).mono fun r w' h => ⟨h.1, .inl ⟨s, _, _, hn, hqv, h.2⟩⟩
    · rw [hk] at s; exact absurd s (by decide)
  · rcases h with ⟨s, E⟩ | ⟨s, qb, E⟩
    · exact (bk_102 hk E).mono fun r w' h => ⟨h.1, .inl ⟨s, _, _, hn, hqv, h.2⟩⟩
    · rw [hk] at s; exact absurd s (by decide)
  · rcases h with ⟨s, E⟩ | ⟨s, qb, E⟩
    · rw [hk] at s; exact absurd s (by decide)
    · exact (bk_103 hk E).mono fun r w' h => ⟨h.1, .inr ⟨s, qb, hn, h.2⟩⟩
  · rcases h with ⟨s, E⟩ | ⟨s, qb, E⟩
    · rw [hk] at s; exact absurd s (by decide)
    · exact (bk_105 hk E).mono fun r w' h => ⟨h.1, .inr ⟨s, qb, hn, h.2⟩⟩
  · rcases h with ⟨s, E⟩ | ⟨s, qb, E⟩
    · exact (bk_104 hk E).mono fun r w' h => ⟨h.1, .inl ⟨s, _, _, hn, hqv, h.2⟩⟩
    · rw [hk] at s; exact absurd s (by decide)
  · rcases h with ⟨s, E⟩ | ⟨s, qb, E⟩
    · exact (bk_107 hk E).mono fun r w' h => ⟨h.1, .inl ⟨s, _, _, hn, hqv, h.2⟩⟩
    · rw [hk] at s; exact absurd s (by decide)
  · rcases h with ⟨s, E⟩ | ⟨s, qb, E⟩
    · exact (bk_108 hk E).mono fun r w' h => ⟨h.1, .inl ⟨s, _, _, hn, hqv, h.2⟩⟩
    · rw [hk] at s; exact absurd s (by decide)
  · rcases h with ⟨s, E⟩ | ⟨s, qb, E⟩
    · exact (bk_110 hk E).mono fun r w' h => ⟨h.1, .inl ⟨s, _, _, nil_lno, hqv, h.2⟩⟩
    · rw [hk] at s; exact absurd s (by decide)
  · rcases h with ⟨s, E⟩ | ⟨s, qb, E⟩
    · exact (bk_111 hk E).mono fun r w' h => ⟨h.1, .inl ⟨s, _, _, hn, nil_lno, h.2⟩⟩
    · rw [hk] at s; exact absurd s (by decide)
  · rcases h with ⟨s, E⟩ | ⟨s, qb, E⟩
    · exact (bk_112 hk E).mono fun r w' h => ⟨h.1, .inl ⟨s, _, _, hn, hqv, h.2⟩⟩
    · rw [hk] at s; exact absurd s (by decide)
  · rcases h with ⟨s, E⟩ | ⟨s, qb, E⟩
    · rw [hk] at s; exact absurd s (by decide)
    · exact (bk_113 hk E).mono fun r w' h => ⟨h.1, .inr ⟨s, qb, hn, h.2⟩⟩
  · rcases h with ⟨s, E⟩ | ⟨s, qb, E⟩
    · rw [hk] at s; exact absurd s (by decide)
    · exact (bk_115 hk E).mono fun r w' h => ⟨h.1, .inr ⟨s, qb, hn, h.2⟩⟩
  · rcases h with ⟨s, E⟩ | ⟨s, qb, E⟩
    · exact (bk_114 hk E).mono fun r w' h => ⟨h.1, .inl ⟨s, _, _, hn, hqv, h.2⟩⟩
    · rw [hk] at s; exact absurd s (by decide)
  · rcases h with ⟨s, E⟩ | ⟨s, qb, E⟩
    · exact (bk_116 hk E).mono fun r w' h => ⟨h.1, .inl ⟨s, _, _, hn, hqv, h.2⟩⟩
    · rw [hk] at s; exact absurd s (by decide)
  · rcases h with ⟨s, E⟩ | ⟨s, qb, E⟩
    · exact (bk_117 hk E).mono fun r w' h => ⟨h.1, .inl ⟨s, _, _, hn, hqv, h.2⟩⟩
    · rw [hk] at s; exact absurd s (by decide)
  · rcases h with ⟨s, E⟩ | ⟨s, qb, E⟩
    · exact (bk_118 hk E).mono fun r w' h => ⟨h.1, .inl ⟨s, _, _, hn, hqv, h.2⟩⟩
    · rw [hk] at s; exact absurd s (by decide)
  · rcases h with ⟨s, E⟩ | ⟨s, qb, E⟩
    · exact (bk_119 hk E).mono fun r w' h => ⟨h.1, .inl ⟨s, _, _, hn, hqv, h.2⟩⟩
    · rw [hk] at s; exact absurd s (by decide)
  · rcases h with ⟨s, E⟩ | ⟨s, qb, E⟩
    · exact (bk_120 hk E).mono fun r w' h => ⟨h.1, .inl ⟨s, _, _, hn, hqv, h.2⟩⟩
    · rw [hk] at s; exact absurd s (by decide)
  · rcases h with ⟨s, E⟩ | ⟨s, qb, E⟩
    · exact (bk_122 hk E).mono fun r w' h => ⟨h.1, .inl ⟨s, _, _, hn, hqv, h.2⟩⟩
    · rw [hk] at s; exact absurd s (by decide)
  · rcases h with ⟨s, E⟩ | ⟨s, qb, E⟩
    · exact (bk_124 hk E).mono fun r w' h => ⟨h.1, .inl ⟨s, _, _, hn, hqv, h.2⟩⟩
    · rw [hk] at s; exact absurd s (by decide)
  · rcases h with ⟨s, E⟩ | ⟨s, qb, E⟩
    · exact (bk_125 hk E).mono fun r w' h => ⟨h.1, .inl ⟨s, _, _, hn, hqv, h.2⟩⟩
    · rw [hk] at s; exact absurd s (by decide)
  · rcases h with ⟨s, E⟩ | ⟨s, qb, E⟩
    · exact (bk_126 hk E).mono fun r w' h => ⟨h.1, .inl ⟨s, _, _, hn, hqv, h.2⟩⟩
    · rw [hk] at s; exact absurd s (by decide)
  · rcases h with ⟨s, E⟩ | ⟨s, qb, E⟩
    · exact (bk_109 hk E).mono fun r w' h => ⟨h.1, .inl ⟨s, _, _, hn, hqv, h.2⟩⟩
    · rw [hk] at s; exact absurd s (by decide)
  · rcases h with ⟨s, E⟩ | ⟨s, qb, E⟩
    · exact (bk_121 hk E).mono fun r w' h => ⟨h.1, .inl ⟨s, _, _, hn, hqv, h.2⟩⟩
    · rw [hk] at s; exact absurd s (by decide)
  · rcases h with ⟨s, E⟩ | ⟨s, qb, E⟩
    · exact (bk_123 hk E).mono fun r w' h => ⟨h.1, .inl ⟨s, _, _, hn, hqv, h.2⟩⟩
    · rw [hk] at s; exact absurd s (by decide)
  · rcases h with ⟨s, E⟩ | ⟨s, qb, E⟩
    · exact (bk_127 hk E).mono fun r w' h => ⟨h.1, .inl ⟨s, _, _, hn, hqv, h.2⟩⟩
    · rw [hk] at s; exact absurd s (by decide)
theorem shaped_ok {fl : List Fl} (hfl : fls m.kind = some fl) (M : MI w0 F l m nv qv) (E : Hs w0 F w l) :
    Ca PP Fn.styx_shaped #[.agg (MC m nv qv).toArray] w fun r w' => r = .bool (shp m fl) ∧ Hs w0 F w' l := by
  have ha := fls_mem hfl
  have hsng := sng_fls hfl
  refine S.styx_shaped.calls ?_
  unfold S.styx_shaped
  (repeat with_reducible (refine StpA.go E ?_; clear E; intro b_ w_ hb_ E))
  (revert b_; intro mb hbmb E)
  (intro J3 hJ3)
  have fin3 : ∀ w_, ((sng m.kind = false ∧ Hs w0 F w_ (mA mb m nv qv :: l)) ∨ (sng m.kind = true ∧ m.qids.length = 1 ∧ ∃ qb, Hs w0 F w_ (mA mb m nv (oneV qb) :: qz qb :: l))) → J3 [] w_ := by
    intro w_ hE
    apply hJ3
    intro u_
    clear hJ3
    refine Bd.mk3 (cs := []) rfl ?_
    have hq1 : sng m.kind = true → m.qids.length = 1 := by
      intro h
      rcases hE with ⟨h2, _⟩ | ⟨_, h2, _⟩
      · rw [h] at h2; cases h2
      · exact h2
    refine (bfields_ok hfl (RdS.lno M.rn) (RdS.lno M.rq) (hE.imp id fun h => ⟨h.1, h.2.2⟩)).mono ?_
    clear hE
    rintro r w_ ⟨rfl, hE⟩
    (intro J9 hJ9)
    have fin9 : ∀ (m2 : Ms) (nv2 qv2 : Value) (L : List As) w_, (∀ w, Hs w0 F w L → Hs w0 F w l) → LnO nv2 m2.names.length → LnO qv2 m2.qids.length → MZ m2 → zchk m2 = shp m fl → Hs w0 F w_ (mA mb m2 nv2 qv2 :: L) → J9 [] w_ := by
      intro m2 nv2 qv2 L w_ hL h1 h2 hz hzc E
      apply hJ9
      intro u_
      clear hJ9
      rw [← hzc]
      (intro J12 hJ12)
      have fin12 : ∀ b, b = zchk m2 → J12 [.bool b] w_ := by
        intro b hb
        apply hJ12
        intro u_
        rw [hb]
        exact ⟨rfl, hL _ E.tl⟩
      clear hJ12
      obtain ⟨r1, r2, r3, r4, r5, r6, r7⟩ := hz.rg
      obtain ⟨z1, z2, z3, z4, z5⟩ := hz.zs
      (repeat with_reducible first | refine Stp.go ?_ | refine StpE.go E ?_)
      refine h1.ln ?_
      refine Bi.eql ?_ ?_ <;> intro c1 <;> (repeat with_reducible first | refine Stp.go ?_ | refine StpE.go E ?_)
      rotate_left
      · exact fin12 _ (by unfold zchk; rw [beq_eq_false_iff_ne.2 (show m2.names.length ≠ 0 by omega)]; rfl)
      refine h2.ln ?_
      (repeat with_reducible refine Stp.go ?_)
      refine Bi.eql ?_ ?_ <;> intro c2 <;> (repeat with_reducible first | refine Stp.go ?_ | refine StpE.go E ?_)
      rotate_left
      · exact fin12 _ (by unfold zchk; rw [beq_eq_false_iff_ne.2 (show m2.qids.length ≠ 0 by omega), Bool.and_false]; rfl)
      refine Bi.or' ?_
      (repeat with_reducible first | refine Stp.go ?_ | refine StpE.go E ?_)
      refine Bi.or' ?_
      (repeat with_reducible first | refine Stp.go ?_ | refine StpE.go E ?_)
      refine Bi.or' ?_
      (repeat with_reducible first | refine Stp.go ?_ | refine StpE.go E ?_)
      refine Bi.or' ?_
      (repeat with_reducible first | refine Stp.go ?_ | refine StpE.go E ?_)
      refine Bi.or' ?_
      (repeat with_reducible first | refine Stp.go ?_ | refine StpE.go E ?_)
      refine Bi.or' ?_
      (repeat with_reducible refine Stp.go ?_)
      have ho : orI (orI (orI (orI (orI (orI m2.fid m2.other) m2.old) m2.size) m2.mode) m2.perm) m2.code = 0 ↔ (m2.fid == 0 && m2.other == 0 && m2.old == 0 && m2.size == 0 && m2.mode == 0 && m2.perm == 0 && m2.code == 0) = true := by
        rw [orI_zero (orI_rng _ _) r7, orI_zero (orI_rng _ _) r6, orI_zero (orI_rng _ _) r5, orI_zero (orI_rng _ _) r4, orI_zero (orI_rng _ _) r3, orI_zero r1 r2]
        simp only [Bool.and_eq_true, beq_iff_eq]
      have hzz : zchk m2 = (m2.names.length == 0 && m2.qids.length == 0 && (m2.fid == 0 && m2.other == 0 && m2.old == 0 && m2.size == 0 && m2.mode == 0 && m2.perm == 0 && m2.code == 0) && m2.off == 0 && m2.ver == [] && m2.user == [] && m2.tree == [] && m2.name == [] && m2.data == [] && m2.dir == d0) := by
        unfold zchk; simp only [Bool.and_assoc]
      generalize hA : (m2.fid == 0 && m2.other == 0 && m2.old == 0 && m2.size == 0 && m2.mode == 0 && m2.perm == 0 && m2.code == 0) = A at ho hzz
      refine Bi.eql ?_ ?_ <;> intro c3 <;> (repeat with_reducible first | refine Stp.go ?_ | refine StpE.go E ?_)
      rotate_left
      · refine fin12 _ ?_
        have : A = false := by cases A with | false => rfl | true => exact absurd (ho.2 rfl) c3
        rw [hzz, this, Bool.and_false]; rfl
      have hA1 := ho.1 c3
      refine Bi.eql ?_ ?_ <;> intro c4 <;> (repeat with_reducible first | refine Stp.go ?_ | refine StpE.go E ?_)
      rotate_left
      · exact fin12 _ (by rw [hzz, beq_eq_false_iff_ne.2 c4, Bool.and_false]; rfl)
      refine Bi.sadd (by rw [mkB_size, mkB_size]; omega) ?_
      rw [mkB_app]
      (repeat with_reducible first | refine Stp.go ?_ | refine StpE.go E ?_)
      refine Bi.sadd (by rw [mkB_size, mkB_size, List.length_append]; omega) ?_
      rw [mkB_app]
      (repeat with_reducible first | refine Stp.go ?_ | refine StpE.go E ?_)
      refine Bi.sadd (by rw [mkB_size, mkB_size]; simp only [List.length_append]; omega) ?_
      rw [mkB_app]
      (repeat with_reducible first | refine Stp.go ?_ | refine StpE.go E ?_)
      refine Bi.sadd (by rw [mkB_size, mkB_size]; simp only [List.length_append]; omega) ?_
      rw [mkB_app]
      (repeat with_reducible refine Stp.go ?_)
      refine Bi.seql ?_ ?_ <;> intro c5 <;> (repeat with_reducible first | refine Stp.go ?_ | refine StpE.go E ?_)
      rotate_left
      · refine fin12 _ ?_
        rw [hzz]
        cases hv : (m2.ver == [] && m2.user == [] && m2.tree == [] && m2.name == [] && m2.data == []) with
        | true =>
          exfalso
          simp only [Bool.and_eq_true, beq_iff_eq] at hv
          obtain ⟨⟨⟨⟨v1, v2⟩, v3⟩, v4⟩, v5⟩ := hv
          exact c5 (by rw [v1, v2, v3, v4, v5]; rfl)
        | false =>
          have : ∀ a b c d e f g h i j : Bool, (e && f && g && h && i) = false → false = (a && b && c && d && e && f && g && h && i && j) := by decide
          exact this _ _ _ _ _ _ _ _ _ _ hv
      have hv : m2.ver = [] ∧ m2.user = [] ∧ m2.tree = [] ∧ m2.name = [] ∧ m2.data = [] := by
        have := mkB_nil.1 c5
        simp only [List.append_eq_nil_iff] at this
        obtain ⟨⟨⟨⟨v1, v2⟩, v3⟩, v4⟩, v5⟩ := this
        exact ⟨v1, v2, v3, v4, v5⟩
      refine EqS.e (xs := dcs m2.dir) (ys := z10) lv_Dir st_Dir g_Dir rfl rfl ?_
      have hd : ceqL (dcs m2.dir) z10 = decide (m2.dir = d0) := ceq_dir m2.dir d0
      rw [hd]
      (repeat with_reducible refine Stp.go ?_)
      refine fin12 _ ?_
      rw [hzz, hA1, c4, hv.1, hv.2.1, hv.2.2.1, hv.2.2.2.1, hv.2.2.2.2]
      rw [show m2.names.length = 0 by omega, show m2.qids.length = 0 by omega]
      simp only [beq_self_eq_true, Bool.true_and, if_true]
      exact (Bool.beq_eq_decide_eq _ _).symm
    clear hJ9
    have hmz := (MI.mz M).blk (fl := fl)
    rcases hE with ⟨s, nv2, qv2, h1, h2, E⟩ | ⟨s, qb, h1, E⟩
    · (repeat with_reducible first | refine Stp.go ?_ | refine StpE.go E ?_)
      refine (single_ok E).mono ?_
      clear E
      rintro r w_ ⟨rfl, E⟩
      rw [blk_kind, s]
      (repeat with_reducible refine Stp.go ?_)
      refine fin9 _ _ _ _ _ (fun _ h => h) h1 h2 hmz ?_ E
      rw [s] at hsng
      rw [shp_z ha (fun h => by rw [List.contains_iff_mem.2 h] at hsng; cases hsng), ← hsng]
      rfl
    · (repeat with_reducible first | refine Stp.go ?_ | refine StpE.go E ?_)
      refine (single_ok E).mono ?_
      clear E
      rintro r w_ ⟨rfl, E⟩
      rw [blk_kind, s]
      (repeat with_reducible first | refine Stp.go ?_ | (refine StpW.go E ?_; clear E; intro w_ E))
      have hmz2 : MZ { blk m fl with qids := [] } := ⟨hmz.zs, hmz.rg⟩
      refine fin9 { blk m fl with qids := [] } _ _ _ _ (fun _ h => h.tl) h1 nil_lno hmz2 ?_ E
      rw [s] at hsng
      rw [shp_z ha (fun h => hq1 s), ← hsng]
      rfl
  clear hJ3
  (repeat with_reducible first | refine Stp.go ?_ | refine StpE.go E ?_)
  refine (single_ok E).mono ?_
  clear E
  rintro r w_ ⟨rfl, E⟩
  cases s : sng m.kind with
  | false =>
    (repeat with_reducible refine Stp.go ?_)
    exact fin3 _ (.inl ⟨s, E⟩)
  | true =>
    (repeat with_reducible first | refine Stp.go ?_ | refine StpE.go E ?_)
    refine M.rq.len ?_
    refine Bi.neq ?_ ?_ <;> intro c <;> (repeat with_reducible refine Stp.go ?_)
    · rw [s] at hsng
      rw [shp_one (List.contains_iff_mem.1 hsng.symm) (by omega)]
      exact ⟨rfl, E.tl⟩
    · refine MkQ E ?_
      clear E
      intro qb w_ hqb E
      (replace E := ((E.bIx 0).bIx 1))
      (repeat with_reducible first | refine Stp.go ?_ | (refine StpW.go E ?_; clear E; intro w_ E))
      exact fin3 _ (.inr ⟨s, by omega, qb, E⟩)
end Go.Proofs.YtmlccboapkkcfaaGreatDoor

/-
  The protocol: Encode, Check, Size, and the same of a Dir.
-/
namespace Go.Proofs.YtmlccboapkkcfaaGreatDoor
open Go Go.Sh
set_option maxRecDepth 100000
set_option linter.unusedVariables false
set_option linter.unusedSimpArgs false
variable {w0 w : World} {F : Nat → Prop} {l : List As}
variable {o : Nat} {O : Ou} {m : Ms} {nv qv : Value}
theorem MI.cons (M : MI w0 F l m nv qv) (A : As) : MI w0 F (A :: l) m nv qv := { M with rn := M.rn.cons A, rq := M.rq.cons A }
theorem err_ok (E : OT w0 F o O l w) : Ca PP Fn.styx_output_err #[ptr o] w fun r w' => r = i64 (if O.bad then 11 else if O.ov then 3 else 0) ∧ OT w0 F o O l w' := by
  obtain ⟨v, E⟩ := E
  refine S.styx_output_err.calls ?_
  unfold S.styx_output_err
  obtain ⟨s, b, c⟩ := O
  cases b
  · cases c
    · (repeat with_reducible first | refine Stp.go ?_ | refine StpE.go E ?_)
      exact ⟨rfl, v, E⟩
    · (repeat with_reducible first | refine Stp.go ?_ | refine StpE.go E ?_)
      exact ⟨rfl, v, E⟩
  · (repeat with_reducible first | refine Stp.go ?_ | refine StpE.go E ?_)
    exact ⟨rfl, v, E⟩
theorem Encode_ok (hW : Wds w0 F) (M : MI w0 F l m nv qv) (E : Hs w0 F w l) :
    Ca PP Fn.styx_Encode #[.agg (MC m nv qv).toArray] w fun r w' => r = .tuple #[sb (enc m).1, i64 (enc m).2] ∧ Hs w0 F w' l := by
  rw [← encP_enc]
  refine S.styx_Encode.calls ?_
  unfold S.styx_Encode
  (repeat with_reducible first | refine Stp.go ?_ | refine StpE.go E ?_ | (refine StpA.go E ?_; clear E; intro b_ w_ hb_ E))
  (revert b_; intro mb hbmb E)
  refine (known_ok hW M.kd E).mono ?_
  clear E
  rintro r w_ ⟨rfl, E⟩
  cases hfl : fls m.kind with
  | none =>
    have hP : encP m = ([], 13) := by unfold encP; rw [hfl]
    rw [hP]
    refine Un.nt ?_
    (repeat with_reducible refine Stp.go ?_)
    exact ⟨rfl, E.tl⟩
  | some fl =>
    have hk := fls_rng hfl
    refine Un.nf ?_
    (repeat with_reducible first | refine Stp.go ?_ | refine StpE.go E ?_)
    refine (shaped_ok hfl (M.cons _) E).mono ?_
    clear E
    rintro r w_ ⟨rfl, E⟩
    cases hs : shp m fl with
    | false =>
      have hP : encP m = ([], 14) := by unfold encP; rw [hfl]; simp only [hs]; rfl
      rw [hP]
      refine Un.nt ?_
      (repeat with_reducible refine Stp.go ?_)
      exact ⟨rfl, E.tl⟩
    | true =>
      have hP : encP m = if (ouM m fl).bad then ([], 11) else if (ouM m fl).ov || decide ((ouM m fl).s.length + 4 > 8192) then ([], 3) else (le ((ouM m fl).s.length + 4 : Nat) 4 ++ (ouM m fl).s, 0) := by
        unfold encP; rw [hfl]; simp only [hs, Bool.not_true, Bool.false_eq_true, if_false]
      rw [hP]
      refine Un.nf ?_
      have E := E.nilSl Ty.uint8 1
      (repeat with_reducible first | refine Stp.go ?_ | refine StpE.go E ?_ | (refine StpW.go E ?_; clear E; intro w_ E) | (refine StpA.go E ?_; clear E; intro b_ w_ hb_ E))
      (revert b_; intro o hbo E)
      (replace E := ((E.bIx 1).bIx 1))
      refine (oput_ok (O := o0) (k := 1) (n := m.kind) (by omega) (by decide) E).mono ?_
      clear E
      rintro r w_ ⟨-, E⟩
      have hp : o0.put m.kind 1 = o0.num m.kind 1 := by
        have hki : inR m.kind 1 = true := by
          unfold inR; rw [Bool.and_eq_true, decide_eq_true_eq, decide_eq_true_eq, show ((256 ^ 1 : Nat) : Int) = 256 by decide]; omega
        unfold Ou.put Ou.num
        rw [if_pos hki, if_pos hki]
      rw [hp] at E
      have h1 := num_len o0 m.kind 1
      have h0 : o0.s.length = 0 := rfl
      (repeat with_reducible refine Stp.go ?_)
      refine (onum_ok (k := 2) (n := m.tag) (by omega) (RdP.pt (off := 1) (cs := MC m nv qv) (T := Ty.api_Msg) List.mem_cons_self) (by omega) E).mono ?_
      clear E
      rintro r w_ ⟨rfl, E⟩
      have h2 := num_len (o0.num m.kind 1) m.tag 2
      skip
      refine (ofields_ok hfl M (fun h => shp_q hs h) (by omega) E).mono ?_
      clear E
      rintro r w_ ⟨rfl, hlen, E⟩
      have hO : Ou.flds m fl ((o0.num m.kind 1).num m.tag 2) = ouM m fl := rfl
      rw [hO] at E hlen
      clear hO
      generalize ouM m fl = O at E hlen ⊢
      (intro J27 hJ27)
      have fin27 : ∀ w_, OT w0 F o { O with ov := O.ov || decide (O.s.length + 4 > 8192) } (mA mb m nv qv :: l) w_ → J27 [] w_ := by
        intro w_ E
        apply hJ27
        intro u_
        clear hJ27
        refine (err_ok E).mono ?_
        clear E
        rintro r w_ ⟨rfl, E⟩
        simp only []
        cases hb : O.bad with
        | true =>
          obtain ⟨v, E⟩ := E
          simp only [if_true]
          (repeat first | (with_reducible first | refine Stp.go ?_) | ((with_reducible refine Bi.dec true ?_ ?_); focus exact rfl))
          exact ⟨trivial, E.tl.tl.tl⟩
        | false =>
          cases hv : (O.ov || decide (O.s.length + 4 > 8192)) with
          | true =>
            obtain ⟨v, E⟩ := E
            simp only [Bool.false_eq_true, if_false, if_true]
            (repeat first | (with_reducible first | refine Stp.go ?_) | ((with_reducible refine Bi.dec true ?_ ?_); focus exact rfl))
            exact ⟨trivial, E.tl.tl.tl⟩
          | false =>
            obtain ⟨v, E⟩ := E
            have hl : ¬ O.s.length + 4 > 8192 := by
              intro h
              rw [decide_eq_true h, Bool.or_true] at hv
              cases hv
            simp only [Bool.false_eq_true, if_false]
            (repeat first | (with_reducible first | refine Stp.go ?_) | ((with_reducible refine Bi.dec false ?_ ?_); focus exact rfl))
            refine (NewWriter_ok E).mono ?_
            clear E
            rintro r w_ ⟨q, v2, rfl, E⟩
            (replace E := ((E.bIx 3).bIx 3))
            (repeat with_reducible refine Stp.go ?_)
            refine (Len_ok E).mono ?_
            clear E
            rintro r w_ ⟨rfl, E⟩
            refine Bi.add (by simp only []; omega) ?_
            (replace E := ((E.bIx 3).bIx 3))
            have hin : inR ((O.s.length : Int) + 4) 4 = true := by
              unfold inR; rw [Bool.and_eq_true, decide_eq_true_eq, decide_eq_true_eq, show ((256 ^ 4 : Nat) : Int) = 4294967296 by decide]; omega
            refine (Little_ok (k := 4) (s := []) (by omega) (by decide) E).mono ?_
            clear E
            rintro r w_ ⟨-, v3, E⟩
            simp only [] at E
            rw [if_pos hin, List.nil_append] at E
            (replace E := ((E.bIx 3).bIx 3))
            (repeat with_reducible refine Stp.go ?_)
            refine (Text_ok E).mono ?_
            clear E
            rintro r w_ ⟨rfl, E⟩
            (replace E := ((E.bIx 3).bIx 3))
            refine (Raw_ok (by rw [le_length]; decide) (by omega) E).mono ?_
            clear E
            rintro r w_ ⟨-, v4, E⟩
            refine (Text_ok E).mono ?_
            clear E
            rintro r w_ ⟨rfl, E⟩
            exact ⟨rfl, E.tl.tl.tl.tl.tl⟩
      clear hJ27
      obtain ⟨v, E⟩ := E
      cases hv : O.ov with
      | true =>
        rw [hv] at E
        (repeat with_reducible first | refine Stp.go ?_ | refine StpE.go E ?_ | (refine StpW.go E ?_; clear E; intro w_ E))
        refine fin27 _ ⟨v, ?_⟩
        rw [hv]
        exact E
      | false =>
        rw [hv] at E
        (repeat with_reducible first | refine Stp.go ?_ | refine StpE.go E ?_)
        refine (Len_ok E).mono ?_
        clear E
        rintro r w_ ⟨rfl, E⟩
        (repeat with_reducible refine Stp.go ?_)
        refine Bi.add (by omega) ?_
        (repeat with_reducible refine Stp.go ?_)
        refine Bi.gtr ?_ ?_ <;> intro c <;> (repeat with_reducible first | refine Stp.go ?_ | (refine StpW.go E ?_; clear E; intro w_ E))
        · refine fin27 _ ⟨v, ?_⟩
          rw [hv, decide_eq_true (show O.s.length + 4 > 8192 by omega)]
          exact E
        · refine fin27 _ ⟨v, ?_⟩
          rw [hv, decide_eq_false (show ¬ O.s.length + 4 > 8192 by omega)]
          exact E
theorem EncodeDir_ok {d : Di} (hd : d.Ok) (hz : d.name.length ≤ 9223372036854775807 ∧ d.owner.length ≤ 9223372036854775807 ∧ d.group.length ≤ 9223372036854775807 ∧ d.last.length ≤ 9223372036854775807) (E : Hs w0 F w l) :
    Ca PP Fn.styx_EncodeDir #[.agg (dcs d).toArray] w fun r w' => r = .tuple #[sb (encD d).1, i64 (encD d).2] ∧ Hs w0 F w' l := by
  rw [← encDP_encD]
  refine S.styx_EncodeDir.calls ?_
  unfold S.styx_EncodeDir
  have E := E.nilSl Ty.uint8 1
  (repeat with_reducible first | refine StpE.go E ?_ | (refine StpA.go E ?_; clear E; intro b_ w_ hb_ E))
  (revert b_; intro o hbo E)
  (replace E := (((E.bIx 1).bIx 2).bIx 2))
  refine (odir_ok (O := o0) (xs := []) (RdP.pt (off := 0) (cs := dcs d) (T := Ty.api_Dir) List.mem_cons_self) hd hz (by decide) ⟨_, E⟩).mono ?_
  clear E
  rintro r w_ ⟨rfl, E⟩
  refine (err_ok E).mono ?_
  clear E
  rintro r w_ ⟨rfl, E⟩
  unfold encDP
  generalize o0.dir d = O at E ⊢
  obtain ⟨v, E⟩ := E
  cases hb : O.bad with
  | true =>
    simp only [if_true]
    (repeat first | (with_reducible first | refine Stp.go ?_) | ((with_reducible refine Bi.dec true ?_ ?_); focus exact rfl))
    exact ⟨trivial, E.tl.tl.tl⟩
  | false =>
    cases hv : O.ov with
    | true =>
      simp only [Bool.false_eq_true, if_false, if_true]
      (repeat first | (with_reducible first | refine Stp.go ?_) | ((with_reducible refine Bi.dec true ?_ ?_); focus exact rfl))
      exact ⟨trivial, E.tl.tl.tl⟩
    | false =>
      simp only [Bool.false_eq_true, if_false]
      (repeat first | (with_reducible first | refine Stp.go ?_) | ((with_reducible refine Bi.dec false ?_ ?_); focus exact rfl))
      refine (Text_ok E).mono ?_
      clear E
      rintro r w_ ⟨rfl, E⟩
      exact ⟨rfl, E.tl.tl.tl⟩
theorem CheckDir_ok {d : Di} (hd : d.Ok) (hz : d.name.length ≤ 9223372036854775807 ∧ d.owner.length ≤ 9223372036854775807 ∧ d.group.length ≤ 9223372036854775807 ∧ d.last.length ≤ 9223372036854775807) (E : Hs w0 F w l) :
    Ca PP Fn.styx_CheckDir #[.agg (dcs d).toArray] w fun r w' => r = i64 (encD d).2 ∧ Hs w0 F w' l := by
  refine S.styx_CheckDir.calls ?_
  unfold S.styx_CheckDir
  (repeat with_reducible first | refine StpE.go E ?_ | (refine StpA.go E ?_; clear E; intro b_ w_ hb_ E))
  refine (EncodeDir_ok hd hz E).mono ?_
  clear E
  rintro r w_ ⟨rfl, E⟩
  (repeat with_reducible refine Stp.go ?_)
  exact ⟨rfl, E.tl⟩
end Go.Proofs.YtmlccboapkkcfaaGreatDoor

/-
  The protocol: the reader of bytes.
-/
namespace Go.Proofs.YtmlccboapkkcfaaGreatDoor
open Go Go.Sh
set_option maxRecDepth 100000
set_option linter.unusedVariables false
set_option linter.unusedSimpArgs false
variable {w0 w : World} {F : Nat → Prop} {l : List As}
variable {r at_ : Nat} {e : Int} {t : List UInt8}
theorem u_reader : PP.underlying Ty.p_wire_Reader = some (.pointer Ty.wire_Reader) := by kernel_rfl
/-- A reader: a text, how many bytes were read, the error. -/
abbrev rA (r : Nat) (t : List UInt8) (n : Nat) (e : Int) : As := pt r (oc [sb t, i64 n, i64 e] Ty.wire_Reader)
theorem NewReader_ok (E : Hs w0 F w l) : Ca PP Fn.wire_NewReader #[sb t] w fun q w' => ∃ r, q = ptr r ∧ Hs w0 F w' (rA r t 0 0 :: l) := by
  refine S.wire_NewReader.calls ?_
  unfold S.wire_NewReader
  (repeat with_reducible first | refine StpE.go E ?_ | (refine StpA.go E ?_; clear E; intro b_ w_ hb_ E))
  exact ⟨_, rfl, E⟩
theorem take_ok {n : Nat} (hl : t.length ≤ 1000000000000) (ha : at_ ≤ t.length) (hn : n ≤ 1000000000000) (E : Hs w0 F w (rA r t at_ e :: l)) :
    Ca PP Fn.wire_Reader_take #[ptr r, i64 n] w fun q w' =>
      (n ≤ (t.drop at_).length ∧ q = .tuple #[sb ((t.drop at_).take n), i64 0] ∧ Hs w0 F w' (rA r t (at_ + n) e :: l)) ∨
      ((t.drop at_).length < n ∧ q = .tuple #[sb [], i64 16] ∧ Hs w0 F w' (rA r t at_ e :: l)) := by
  refine S.wire_Reader_take.calls ?_
  unfold S.wire_Reader_take
  (repeat with_reducible first | refine Stp.go ?_ | refine StpE.go E ?_ | (refine StpW.go E ?_; clear E; intro w_ E))
  rw [mkB_size]
  refine Bi.sub (by omega) ?_
  refine Bi.gtr ?_ ?_ <;> intro c <;> (repeat with_reducible first | refine Stp.go ?_ | refine StpE.go E ?_ | (refine StpW.go E ?_; clear E; intro w_ E))
  · exact .inr ⟨by rw [List.length_drop]; omega, rfl, E⟩
  · refine Bi.add (by omega) ?_
    refine SlS.mid (by omega) (by omega) (by rw [mkB_size]; omega) ?_
    (repeat with_reducible first | refine Stp.go ?_ | refine StpE.go E ?_)
    refine Bi.add (by omega) ?_
    (repeat with_reducible first | refine Stp.go ?_ | (refine StpW.go E ?_; clear E; intro w_ E))
    refine .inl ⟨by rw [List.length_drop]; omega, ?_, ?_⟩
    · rw [mkB_ext]
      have e1 : ((at_ : Int) + (n : Int)).toNat = at_ + n := by omega
      rw [Int.toNat_natCast, e1, List.drop_take, Nat.add_sub_cancel_left]
    · rw [show ((at_ : Int) + (n : Int)) = ((at_ + n : Nat) : Int) by omega] at E
      exact E
theorem un_snoc : ∀ (l : List UInt8) (b : UInt8), un (l ++ [b]) = un l + b.toNat * 256 ^ l.length
  | [], b => by simp [un]
  | a :: l, b => by
    rw [List.cons_append, un, un_snoc l b, un, List.length_cons, Nat.pow_succ]
    rw [Nat.mul_add, Nat.add_assoc]
    congr 2
    rw [Nat.mul_comm 256, Nat.mul_assoc]
theorem or_u64 {a b i : Nat} {k : Value → Prop} (hi : i < 8) (ha : a < 256 ^ i) (hb : b < 256) (hk : k (.int .u64 ((a + b * 256 ^ i : Nat) : Int))) : Bi .or (.int .u64 (a : Int)) (.int .u64 ((b * 256 ^ i : Nat) : Int)) k := by
  have hp : 256 ^ i = 2 ^ (8 * i) := by rw [Nat.pow_mul]
  have hpb : 256 ^ i ≤ 256 ^ 7 := Nat.pow_le_pow_right (by omega) (by omega)
  have h7 : 256 ^ 7 = 72057594037927936 := by decide
  have hbi : b * 256 ^ i ≤ 255 * 256 ^ i := Nat.mul_le_mul_right _ (by omega)
  have hlt : a + b * 256 ^ i < 18446744073709551616 := by
    rw [h7] at hpb
    omega
  refine Bi.mk (v := .int .u64 ((a + b * 256 ^ i : Nat) : Int)) ?_ hk
  show some (Value.int .u64 (IntKind.u64.wrap (BitVec.ofInt 64 (a : Int) ||| BitVec.ofInt 64 ((b * 256 ^ i : Nat) : Int)).toNat)) = _
  have e1 : (BitVec.ofInt 64 (a : Int) ||| BitVec.ofInt 64 ((b * 256 ^ i : Nat) : Int)).toNat = a + b * 256 ^ i := by
    rw [BitVec.toNat_or, BitVec.ofInt_natCast, BitVec.ofInt_natCast, BitVec.toNat_ofNat, BitVec.toNat_ofNat, Nat.mod_eq_of_lt (by omega), Nat.mod_eq_of_lt (by omega)]
    have := Nat.two_pow_add_eq_or_of_lt (i := 8 * i) (b := a) (by rw [← hp]; exact ha) b
    rw [← hp, Nat.mul_comm] at this
    rw [Nat.or_comm, ← this, Nat.add_comm]
  rw [e1]
  have : IntKind.u64.wrap ((a + b * 256 ^ i : Nat) : Int) = ((a + b * 256 ^ i : Nat) : Int) := by
    show (((a + b * 256 ^ i : Nat) : Int) % 18446744073709551616) = _
    omega
  rw [this]
theorem shl_u64 {b i : Nat} {k : Value → Prop} (hi : i < 8) (hb : b < 256) (hk : k (.int .u64 ((b * 256 ^ i : Nat) : Int))) : Bi .shl (.int .u64 (b : Int)) (i64 (8 * i)) k := by
  have hpb : 256 ^ i ≤ 256 ^ 7 := Nat.pow_le_pow_right (by omega) (by omega)
  have h7 : 256 ^ 7 = 72057594037927936 := by decide
  have hbi : b * 256 ^ i ≤ 255 * 256 ^ i := Nat.mul_le_mul_right _ (by omega)
  refine Bi.mk (v := .int .u64 ((b * 256 ^ i : Nat) : Int)) ?_ hk
  have h1 : min (8 * (i : Int)).toNat (IntKind.bits .u64) = 8 * i := by
    have : IntKind.bits .u64 = 64 := rfl
    omega
  simp only [binV]
  rw [if_neg (by omega), h1]
  have h2 : (b : Int) * (2 : Int) ^ (8 * i) = ((b * 256 ^ i : Nat) : Int) := by rw [Int.pow_mul]; norm_cast
  rw [h2]
  have : IntKind.u64.wrap ((b * 256 ^ i : Nat) : Int) = ((b * 256 ^ i : Nat) : Int) := by
    show (((b * 256 ^ i : Nat) : Int) % 18446744073709551616) = _
    omega
  rw [this]
theorem rlittle_ok {n : Nat} (hn : n = 1 ∨ n = 2 ∨ n = 4 ∨ n = 8) (hl : t.length ≤ 1000000000000) (ha : at_ ≤ t.length) (E : Hs w0 F w (rA r t at_ e :: l)) :
    Ca PP Fn.wire_Reader_little #[ptr r, i64 n] w fun q w' =>
      (n ≤ (t.drop at_).length ∧ q = .tuple #[.int .u64 (un ((t.drop at_).take n) : Nat), i64 0] ∧ Hs w0 F w' (rA r t (at_ + n) e :: l)) ∨
      ((t.drop at_).length < n ∧ q = .tuple #[.int .u64 0, i64 16] ∧ Hs w0 F w' (rA r t at_ e :: l)) := by
  refine S.wire_Reader_little.calls ?_
  unfold S.wire_Reader_little
  refine (width_ok E).mono ?_
  clear E
  rintro q w_ ⟨rfl, E⟩
  rw [decide_eq_true (by omega)]
  (repeat with_reducible refine Stp.go ?_)
  refine (take_ok hl ha (by omega) E).mono ?_
  clear E
  rintro q w_ (⟨hle, rfl, E⟩ | ⟨hlt, rfl, E⟩)
  · (repeat with_reducible refine Stp.go ?_)
    rw [mkB_size]
    generalize hs : (t.drop at_).take n = s
    have hsl : s.length = n := by rw [← hs, List.length_take]; omega
    refine ⟨fun l1 w1 => ∃ i : Nat, l1 = [.int .u64 (un (s.take i) : Nat), i64 i] ∧ i ≤ s.length ∧ Hs w0 F w1 (rA r t (at_ + n) e :: l), fun l1 _ => match l1 with | [_, .int _ i] => s.length - i.toNat | _ => 0, ⟨0, rfl, by omega, E⟩, ?_⟩
    clear E
    rintro x y u1 w1 ⟨i, e1, hi, E⟩
    cases e1
    refine Bi.lss ?_ ?_ <;> intro hlt <;> (repeat with_reducible refine Stp.go ?_)
    · have hb : s[i]? = some s[i] := List.getElem?_eq_getElem (by omega)
      refine IxS.mk (b := s[i]) (by omega) (by rw [Int.toNat_natCast]; show s.toArray[i]? = _; rw [List.getElem?_toArray]; exact hb) ?_
      refine Cv.mk ?_
      have hb8 := s[i].toNat_lt
      have hw : IntKind.u64.wrap (s[i].toNat : Int) = (s[i].toNat : Int) := by
        show ((s[i].toNat : Int) % 18446744073709551616) = _
        omega
      rw [hw]
      refine Bi.mul (by omega) ?_
      refine shl_u64 (i := i) (by omega) hb8 ?_
      refine or_u64 (by omega) ?_ hb8 ?_
      · have := un_lt (s.take i)
        rwa [List.length_take, Nat.min_eq_left (by omega)] at this
      refine Bi.add (by omega) ?_
      refine ⟨⟨i + 1, ?_, by omega, E⟩, by simp only []; omega⟩
      rw [List.take_add_one, hb, Option.toList_some, un_snoc, List.length_take, Nat.min_eq_left (by omega)]
      simp
    · have hi2 : i = s.length := by omega
      rw [hi2, List.take_length]
      exact .inl ⟨hle, rfl, E⟩
  · (repeat with_reducible refine Stp.go ?_)
    refine ⟨fun l1 w1 => l1 = [.int .u64 0, i64 0] ∧ Hs w0 F w1 (rA r t at_ e :: l), fun _ _ => 0, ⟨rfl, E⟩, ?_⟩
    clear E
    rintro x y u1 w1 ⟨e1, E⟩
    cases e1
    (repeat first | (with_reducible first | refine Stp.go ?_) | ((with_reducible refine Bi.dec false ?_ ?_); focus exact rfl))
    exact .inr ⟨hlt, rfl, E⟩
end Go.Proofs.YtmlccboapkkcfaaGreatDoor

/-
  The protocol: the reader of bytes: its functions.
-/
namespace Go.Proofs.YtmlccboapkkcfaaGreatDoor
open Go Go.Sh
set_option maxRecDepth 100000
set_option linter.unusedVariables false
set_option linter.unusedSimpArgs false
variable {w0 w : World} {F : Nat → Prop} {l : List As}
variable {r at_ : Nat} {e : Int} {t : List UInt8}
theorem b_lit : hasBody PP Fn.wire_Reader_Little_1 = true := by kernel_rfl
theorem b_sgn : hasBody PP Fn.wire_Reader_Signed_1 = true := by kernel_rfl
theorem b_raw : hasBody PP Fn.wire_Reader_Raw_1 = true := by kernel_rfl
theorem b_end : hasBody PP Fn.wire_Reader_End_1 = true := by kernel_rfl
theorem CaV.monoT {P : Program} {fv : Value} {args : Array Value} {w : World} {k k' : Value → World → Prop} (h : CaV P fv args w k) (hk : ∀ v w', k v w' → k' v w') : CaV P fv args w k' := by
  rcases h with ⟨f, first, cap, h1, h2, h3⟩ | ⟨L, h1, r, h2, h3, h4⟩
  · exact .inl ⟨f, first, cap, h1, h2, h3.mono hk⟩
  · exact .inr ⟨L, h1, r, h2, h3, h4.mono fun e w' ⟨v, he, hv⟩ => ⟨v, he, hk _ _ hv⟩⟩
/-- Reading: the closure's contract. -/
theorem reading_int64_ok {fv : Value} {Q : Value → Nat → Prop} {N : Int → Prop}
    (hcl : ∀ w, Hs w0 F w (rA r t at_ 0 :: l) → CaV PP fv #[] w fun q w' => (∃ x n', q = .tuple #[x, i64 0] ∧ Q x n' ∧ Hs w0 F w' (rA r t n' 0 :: l)) ∨ (∃ x e' n', e' ≠ 0 ∧ N e' ∧ q = .tuple #[x, i64 e'] ∧ Hs w0 F w' (rA r t n' 0 :: l)))
    (E : Hs w0 F w (rA r t at_ e :: l)) :
    Ca PP Fn.wire_reading_int64 #[ptr r, fv] w fun q w' =>
      (e ≠ 0 ∧ q = .tuple #[i64 0, i64 e] ∧ Hs w0 F w' (rA r t at_ e :: l)) ∨
      (e = 0 ∧ ∃ x n', q = .tuple #[x, i64 0] ∧ Q x n' ∧ Hs w0 F w' (rA r t n' 0 :: l)) ∨
      (e = 0 ∧ ∃ e', e' ≠ 0 ∧ N e' ∧ q = .tuple #[i64 0, i64 e'] ∧ Hs w0 F w' (rA r t at_ e' :: l)) := by
  refine S.wire_reading_int64.calls ?_
  unfold S.wire_reading_int64
  refine Eq.ef u_reader rfl ?_
  (repeat with_reducible first | refine Stp.go ?_ | refine StpE.go E ?_)
  refine Bi.neq ?_ ?_ <;> intro c <;> (repeat with_reducible first | refine Stp.go ?_ | refine StpE.go E ?_ | (refine StpW.go E ?_; clear E; intro w_ E))
  · exact .inl ⟨c, rfl, E⟩
  · subst c
    have h := hcl _ E
    refine CaV.monoT h ?_
    clear h E
    rintro q w_ (⟨x, n', rfl, hq, E⟩ | ⟨x, e', n', he', hN, rfl, E⟩)
    · (repeat first | (with_reducible first | refine Stp.go ?_) | ((with_reducible refine Bi.dec false ?_ ?_); focus exact rfl))
      exact .inr (.inl ⟨rfl, x, n', rfl, hq, E⟩)
    · (repeat with_reducible refine Stp.go ?_)
      refine Bi.neq ?_ (fun h => absurd h he')
      intro _
      (repeat with_reducible first | refine Stp.go ?_ | (refine StpW.go E ?_; clear E; intro w_ E))
      exact .inr (.inr ⟨rfl, e', he', hN, rfl, E⟩)
/-- Reading: the closure's contract. -/
theorem reading_string_ok {fv : Value} {Q : Value → Nat → Prop} {N : Int → Prop}
    (hcl : ∀ w, Hs w0 F w (rA r t at_ 0 :: l) → CaV PP fv #[] w fun q w' => (∃ x n', q = .tuple #[x, i64 0] ∧ Q x n' ∧ Hs w0 F w' (rA r t n' 0 :: l)) ∨ (∃ x e' n', e' ≠ 0 ∧ N e' ∧ q = .tuple #[x, i64 e'] ∧ Hs w0 F w' (rA r t n' 0 :: l)))
    (E : Hs w0 F w (rA r t at_ e :: l)) :
    Ca PP Fn.wire_reading_string #[ptr r, fv] w fun q w' =>
      (e ≠ 0 ∧ q = .tuple #[sb [], i64 e] ∧ Hs w0 F w' (rA r t at_ e :: l)) ∨
      (e = 0 ∧ ∃ x n', q = .tuple #[x, i64 0] ∧ Q x n' ∧ Hs w0 F w' (rA r t n' 0 :: l)) ∨
      (e = 0 ∧ ∃ e', e' ≠ 0 ∧ N e' ∧ q = .tuple #[sb [], i64 e'] ∧ Hs w0 F w' (rA r t at_ e' :: l)) := by
  refine S.wire_reading_string.calls ?_
  unfold S.wire_reading_string
  refine Eq.ef u_reader rfl ?_
  (repeat with_reducible first | refine Stp.go ?_ | refine StpE.go E ?_)
  refine Bi.neq ?_ ?_ <;> intro c <;> (repeat with_reducible first | refine Stp.go ?_ | refine StpE.go E ?_ | (refine StpW.go E ?_; clear E; intro w_ E))
  · exact .inl ⟨c, rfl, E⟩
  · subst c
    have h := hcl _ E
    refine CaV.monoT h ?_
    clear h E
    rintro q w_ (⟨x, n', rfl, hq, E⟩ | ⟨x, e', n', he', hN, rfl, E⟩)
    · (repeat first | (with_reducible first | refine Stp.go ?_) | ((with_reducible refine Bi.dec false ?_ ?_); focus exact rfl))
      exact .inr (.inl ⟨rfl, x, n', rfl, hq, E⟩)
    · (repeat with_reducible refine Stp.go ?_)
      refine Bi.neq ?_ (fun h => absurd h he')
      intro _
      (repeat with_reducible first | refine Stp.go ?_ | (refine StpW.go E ?_; clear E; intro w_ E))
      exact .inr (.inr ⟨rfl, e', he', hN, rfl, E⟩)
/-- Reading: the closure's contract. -/
theorem reading_bool_ok {fv : Value} {Q : Value → Nat → Prop} {N : Int → Prop}
    (hcl : ∀ w, Hs w0 F w (rA r t at_ 0 :: l) → CaV PP fv #[] w fun q w' => (∃ x n', q = .tuple #[x, i64 0] ∧ Q x n' ∧ Hs w0 F w' (rA r t n' 0 :: l)) ∨ (∃ x e' n', e' ≠ 0 ∧ N e' ∧ q = .tuple #[x, i64 e'] ∧ Hs w0 F w' (rA r t n' 0 :: l)))
    (E : Hs w0 F w (rA r t at_ e :: l)) :
    Ca PP Fn.wire_reading_bool #[ptr r, fv] w fun q w' =>
      (e ≠ 0 ∧ q = .tuple #[.bool false, i64 e] ∧ Hs w0 F w' (rA r t at_ e :: l)) ∨
      (e = 0 ∧ ∃ x n', q = .tuple #[x, i64 0] ∧ Q x n' ∧ Hs w0 F w' (rA r t n' 0 :: l)) ∨
      (e = 0 ∧ ∃ e', e' ≠ 0 ∧ N e' ∧ q = .tuple #[.bool false, i64 e'] ∧ Hs w0 F w' (rA r t at_ e' :: l)) := by
  refine S.wire_reading_bool.calls ?_
  unfold S.wire_reading_bool
  refine Eq.ef u_reader rfl ?_
  (repeat with_reducible first | refine Stp.go ?_ | refine StpE.go E ?_)
  refine Bi.neq ?_ ?_ <;> intro c <;> (repeat with_reducible first | refine Stp.go ?_ | refine StpE.go E ?_ | (refine StpW.go E ?_; clear E; intro w_ E))
  · exact .inl ⟨c, rfl, E⟩
  · subst c
    have h := hcl _ E
    refine CaV.monoT h ?_
    clear h E
    rintro q w_ (⟨x, n', rfl, hq, E⟩ | ⟨x, e', n', he', hN, rfl, E⟩)
    · (repeat first | (with_reducible first | refine Stp.go ?_) | ((with_reducible refine Bi.dec false ?_ ?_); focus exact rfl))
      exact .inr (.inl ⟨rfl, x, n', rfl, hq, E⟩)
    · (repeat with_reducible refine Stp.go ?_)
      refine Bi.neq ?_ (fun h => absurd h he')
      intro _
      (repeat with_reducible first | refine Stp.go ?_ | (refine StpW.go E ?_; clear E; intro w_ E))
      exact .inr (.inr ⟨rfl, e', he', hN, rfl, E⟩)
/-- What a read number leaves. -/
def RdN (w0 : World) (F : Nat → Prop) (r at_ : Nat) (e : Int) (t : List UInt8) (l : List As) (p : Option (Value × List UInt8)) (z : Value) (q : Value) (w : World) : Prop :=
  (e ≠ 0 ∧ q = .tuple #[z, i64 e] ∧ Hs w0 F w (rA r t at_ e :: l)) ∨
  (e = 0 ∧ ∃ x n', q = .tuple #[x, i64 0] ∧ n' ≤ t.length ∧ p = some (x, t.drop n') ∧ Hs w0 F w (rA r t n' 0 :: l)) ∨
  (e = 0 ∧ p = none ∧ ∃ e', e' ≠ 0 ∧ q = .tuple #[z, i64 e'] ∧ Hs w0 F w (rA r t at_ e' :: l))
theorem i64_sg {k : Nat} (h : k < 18446744073709551616) : IntKind.i64.wrap (k : Int) = sg k := by
  have h2 : ((k : Int) % (2 ^ IntKind.i64.bits : Int)) = k := Int.emod_eq_of_lt (by omega) (by show (k : Int) < 18446744073709551616; omega)
  unfold IntKind.wrap
  simp only [h2]
  show (if (IntKind.i64.signed && decide ((k : Int) ≥ 9223372036854775808)) = true then (k : Int) - 18446744073709551616 else (k : Int)) = sg k
  unfold sg
  by_cases c : k < 9223372036854775808
  · rw [if_pos c, if_neg]
    intro h3
    have h3 := of_decide_eq_true h3
    omega
  · rw [if_neg c, if_pos]
    show decide _ = true
    exact decide_eq_true (by omega)
theorem RLittle_ok {n : Nat} (hn : n = 1 ∨ n = 2 ∨ n = 4) (hl : t.length ≤ 1000000000000) (ha : at_ ≤ t.length) (E : Hs w0 F w (rA r t at_ e :: l)) :
    Ca PP Fn.wire_Reader_Little #[ptr r, i64 n] w fun q w' => RdN w0 F r at_ e t l ((rd n (t.drop at_)).map fun x => (i64 x.1, x.2)) (i64 0) q w' := by
  refine S.wire_Reader_Little.calls ?_
  unfold S.wire_Reader_Little
  (repeat with_reducible first | refine StpE.go E ?_ | (refine StpA.go E ?_; clear E; intro b_ w_ hb_ E))
  (revert b_; intro b2 hbb2 E)
  (revert b_; intro b1 hbb1 E)
  (replace E := (((E.bIx 1).bIx 1).bIx 2))
  refine (reading_int64_ok (Q := fun x n' => n ≤ (t.drop at_).length ∧ n' = at_ + n ∧ x = i64 (un ((t.drop at_).take n))) (N := fun e' => (t.drop at_).length < n) ?_ E).mono ?_
  · clear E
    intro w E
    refine CaV.mk b_lit ?_
    show Ca PP Fn.wire_Reader_Little_1 #[ptr b1, ptr b2] w _
    refine S.wire_Reader_Little_1.calls ?_
    unfold S.wire_Reader_Little_1
    (repeat with_reducible refine StpE.go E ?_)
    refine (rlittle_ok (n := n) (by omega) hl ha E).mono ?_
    clear E
    rintro q w_ (⟨hle, rfl, E⟩ | ⟨hlt, rfl, E⟩)
    · (repeat with_reducible refine Stp.go ?_)
      (intro J7 hJ7)
      have hu : un ((t.drop at_).take n) < 4294967296 := by
        have := un_lt ((t.drop at_).take n)
        rw [List.length_take, Nat.min_eq_left hle] at this
        exact Nat.lt_of_lt_of_le this (by rcases hn with rfl | rfl | rfl <;> decide)
      have hw : IntKind.i64.wrap (un ((t.drop at_).take n) : Int) = (un ((t.drop at_).take n) : Int) := by
        rw [i64_sg (by omega)]
        unfold sg
        rw [if_pos (by omega)]
      (repeat first | (with_reducible first | refine Stp.go ?_) | ((with_reducible refine Bi.dec true ?_ ?_); focus exact rfl))
      refine Cv.mk ?_
      rw [hw]
      (repeat first | (with_reducible first | refine Stp.go ?_ | (apply hJ7; intro u_)) | ((with_reducible refine Bi.dec false ?_ ?_); focus exact rfl))
      refine Cv.mk ?_
      rw [hw]
      exact .inl ⟨_, _, rfl, ⟨hle, rfl, rfl⟩, E⟩
    · (repeat with_reducible refine Stp.go ?_)
      (intro J7 hJ7)
      (repeat first | (with_reducible first | refine Stp.go ?_ | (apply hJ7; intro u_)) | ((with_reducible refine Bi.dec false ?_ ?_); focus exact rfl))
      refine Cv.mk ?_
      exact .inr ⟨_, 16, _, by decide, hlt, rfl, E⟩
  · clear E
    rintro q w_ (⟨he, rfl, E⟩ | ⟨he, x, n', rfl, ⟨hle, rfl, rfl⟩, E⟩ | ⟨he, e', he', hN, rfl, E⟩)
    · (repeat with_reducible refine Stp.go ?_)
      (replace E := (E.bIx 0))
      exact .inl ⟨he, rfl, E.drop (.cons_cons _ (.cons _ (.cons _ (List.Sublist.refl _))))⟩
    · (repeat with_reducible refine Stp.go ?_)
      refine .inr (.inl ⟨he, _, at_ + n, rfl, by rw [List.length_drop] at hle; omega, ?_, E.drop (.cons_cons _ (.cons _ (.cons _ (List.Sublist.refl _))))⟩)
      unfold rd
      rw [if_pos hle, List.drop_drop]
      rfl
    · (repeat with_reducible refine Stp.go ?_)
      refine .inr (.inr ⟨he, ?_, e', he', rfl, E.drop (.cons_cons _ (.cons _ (.cons _ (List.Sublist.refl _))))⟩)
      unfold rd
      rw [if_neg (by omega)]
      rfl
theorem RSigned_ok (hl : t.length ≤ 1000000000000) (ha : at_ ≤ t.length) (E : Hs w0 F w (rA r t at_ e :: l)) :
    Ca PP Fn.wire_Reader_Signed #[ptr r, i64 8] w fun q w' => RdN w0 F r at_ e t l ((rd8 (t.drop at_)).map fun x => (i64 x.1, x.2)) (i64 0) q w' := by
  refine S.wire_Reader_Signed.calls ?_
  unfold S.wire_Reader_Signed
  (repeat with_reducible first | refine StpE.go E ?_ | (refine StpA.go E ?_; clear E; intro b_ w_ hb_ E))
  (revert b_; intro b2 hbb2 E)
  (revert b_; intro b1 hbb1 E)
  (replace E := (((E.bIx 1).bIx 1).bIx 2))
  refine (reading_int64_ok (Q := fun x n' => 8 ≤ (t.drop at_).length ∧ n' = at_ + 8 ∧ x = i64 (sg (un ((t.drop at_).take 8)))) (N := fun e' => (t.drop at_).length < 8) ?_ E).mono ?_
  · clear E
    intro w E
    refine CaV.mk b_sgn ?_
    show Ca PP Fn.wire_Reader_Signed_1 #[ptr b1, ptr b2] w _
    refine S.wire_Reader_Signed_1.calls ?_
    unfold S.wire_Reader_Signed_1
    (repeat with_reducible refine StpE.go E ?_)
    refine (rlittle_ok (n := 8) (by omega) hl ha E).mono ?_
    clear E
    rintro q w_ (⟨hle, rfl, E⟩ | ⟨hlt, rfl, E⟩)
    · (repeat first | (with_reducible first | refine Stp.go ?_ | refine StpE.go E ?_) | ((with_reducible refine Bi.dec false ?_ ?_); focus exact rfl))
      have hu : un ((t.drop at_).take 8) < 18446744073709551616 := by
        have := un_lt ((t.drop at_).take 8)
        rw [List.length_take, Nat.min_eq_left hle] at this
        exact Nat.lt_of_lt_of_le this (by decide)
      refine Bi.mul (by omega) ?_
      refine Bi.sub (by omega) ?_
      refine Bi.mk (v := .int .u64 (un ((t.drop at_).take 8) : Nat)) (by
        show (if (64 - 8 * 8 : Int) < 0 then none else some (Value.int .u64 (IntKind.u64.wrap ((un ((t.drop at_).take 8) : Int) * 2 ^ (min (64 - 8 * 8 : Int).toNat 64))))) = _
        rw [if_neg (by decide)]
        have e1 : ((un ((t.drop at_).take 8) : Nat) : Int) * 2 ^ (min (64 - 8 * 8 : Int).toNat 64) = (un ((t.drop at_).take 8) : Int) := by
          rw [show min (64 - 8 * 8 : Int).toNat 64 = 0 by decide]; omega
        rw [e1]
        congr 2
        show ((un ((t.drop at_).take 8) : Int) % 18446744073709551616) = _
        omega) ?_
      refine Cv.mk ?_
      rw [i64_sg hu]
      have hs : -9223372036854775808 ≤ sg (un ((t.drop at_).take 8)) ∧ sg (un ((t.drop at_).take 8)) ≤ 9223372036854775807 := by unfold sg; split <;> omega
      refine Bi.mk (v := i64 (sg (un ((t.drop at_).take 8)))) (by
        show (if (64 - 8 * 8 : Int) < 0 then none else some (Value.int .i64 ((sg (un ((t.drop at_).take 8))).fdiv (2 ^ (min (64 - 8 * 8 : Int).toNat 64))))) = _
        rw [if_neg (by decide)]
        have e1 : (2 : Int) ^ (min (64 - 8 * 8 : Int).toNat 64) = 1 := by decide
        rw [e1, Int.fdiv_one]) ?_
      exact .inl ⟨_, _, rfl, ⟨hle, rfl, rfl⟩, E⟩
    · (repeat first | (with_reducible first | refine Stp.go ?_) | ((with_reducible refine Bi.dec true ?_ ?_); focus exact rfl))
      exact .inr ⟨_, 16, _, by decide, hlt, rfl, E⟩
  · clear E
    rintro q w_ (⟨he, rfl, E⟩ | ⟨he, x, n', rfl, ⟨hle, rfl, rfl⟩, E⟩ | ⟨he, e', he', hN, rfl, E⟩)
    · (repeat with_reducible refine Stp.go ?_)
      exact .inl ⟨he, rfl, E.drop (.cons_cons _ (.cons _ (.cons _ (List.Sublist.refl _))))⟩
    · (repeat with_reducible refine Stp.go ?_)
      refine .inr (.inl ⟨he, _, at_ + 8, rfl, by rw [List.length_drop] at hle; omega, ?_, E.drop (.cons_cons _ (.cons _ (.cons _ (List.Sublist.refl _))))⟩)
      unfold rd8 rd
      rw [if_pos hle, List.drop_drop]
      rfl
    · (repeat with_reducible refine Stp.go ?_)
      refine .inr (.inr ⟨he, ?_, e', he', rfl, E.drop (.cons_cons _ (.cons _ (.cons _ (List.Sublist.refl _))))⟩)
      unfold rd8 rd
      rw [if_neg (by omega)]
      rfl
theorem RRaw_ok {n : Nat} (hn : n ≤ 1000000000000) (hl : t.length ≤ 1000000000000) (ha : at_ ≤ t.length) (E : Hs w0 F w (rA r t at_ e :: l)) :
    Ca PP Fn.wire_Reader_Raw #[ptr r, i64 n] w fun q w' => RdN w0 F r at_ e t l ((rdN n (t.drop at_)).map fun x => (sb x.1, x.2)) (sb []) q w' := by
  refine S.wire_Reader_Raw.calls ?_
  unfold S.wire_Reader_Raw
  (repeat with_reducible first | refine StpE.go E ?_ | (refine StpA.go E ?_; clear E; intro b_ w_ hb_ E))
  (revert b_; intro b2 hbb2 E)
  (revert b_; intro b1 hbb1 E)
  (replace E := (((E.bIx 1).bIx 1).bIx 2))
  refine (reading_string_ok (Q := fun x n' => n ≤ (t.drop at_).length ∧ n' = at_ + n ∧ x = sb ((t.drop at_).take n)) (N := fun e' => (t.drop at_).length < n) ?_ E).mono ?_
  · clear E
    intro w E
    refine CaV.mk b_raw ?_
    show Ca PP Fn.wire_Reader_Raw_1 #[ptr b2, ptr b1] w _
    refine S.wire_Reader_Raw_1.calls ?_
    unfold S.wire_Reader_Raw_1
    (repeat first | (with_reducible first | refine Stp.go ?_ | refine StpE.go E ?_) | ((with_reducible refine Bi.dec false ?_ ?_); focus exact rfl))
    refine (take_ok (n := n) hl ha hn E).mono ?_
    clear E
    rintro q w_ (⟨hle, rfl, E⟩ | ⟨hlt, rfl, E⟩)
    · (repeat with_reducible refine Stp.go ?_)
      exact .inl ⟨_, _, rfl, ⟨hle, rfl, rfl⟩, E⟩
    · (repeat with_reducible refine Stp.go ?_)
      exact .inr ⟨_, 16, _, by decide, hlt, rfl, E⟩
  · clear E
    rintro q w_ (⟨he, rfl, E⟩ | ⟨he, x, n', rfl, ⟨hle, rfl, rfl⟩, E⟩ | ⟨he, e', he', hN, rfl, E⟩)
    · (repeat with_reducible refine Stp.go ?_)
      exact .inl ⟨he, rfl, E.drop (.cons_cons _ (.cons _ (.cons _ (List.Sublist.refl _))))⟩
    · (repeat with_reducible refine Stp.go ?_)
      refine .inr (.inl ⟨he, _, at_ + n, rfl, by rw [List.length_drop] at hle; omega, ?_, E.drop (.cons_cons _ (.cons _ (.cons _ (List.Sublist.refl _))))⟩)
      unfold rdN
      rw [if_pos hle, List.drop_drop]
      rfl
    · (repeat with_reducible refine Stp.go ?_)
      refine .inr (.inr ⟨he, ?_, e', he', rfl, E.drop (.cons_cons _ (.cons _ (.cons _ (List.Sublist.refl _))))⟩)
      unfold rdN
      rw [if_neg (by omega)]
      rfl
theorem REnd_ok (hl : t.length ≤ 1000000000000) (ha : at_ ≤ t.length) (E : Hs w0 F w (rA r t at_ e :: l)) :
    Ca PP Fn.wire_Reader_End #[ptr r] w fun q w' => ∃ e', q = i64 e' ∧ (e' = 0 ↔ e = 0 ∧ t.drop at_ = []) ∧ Hs w0 F w' (rA r t at_ e' :: l) := by
  refine S.wire_Reader_End.calls ?_
  unfold S.wire_Reader_End
  (repeat with_reducible first | refine StpE.go E ?_ | (refine StpA.go E ?_; clear E; intro b_ w_ hb_ E))
  (revert b_; intro b1 hbb1 E)
  (replace E := ((E.bIx 0).bIx 1))
  refine (reading_bool_ok (Q := fun x n' => n' = at_ ∧ t.drop at_ = []) (N := fun e' => t.drop at_ ≠ []) ?_ E).mono ?_
  · clear E
    intro w E
    refine CaV.mk b_end ?_
    show Ca PP Fn.wire_Reader_End_1 #[ptr b1] w _
    refine S.wire_Reader_End_1.calls ?_
    unfold S.wire_Reader_End_1
    (repeat with_reducible first | refine Stp.go ?_ | refine StpE.go E ?_ | (refine StpW.go E ?_; clear E; intro w_ E))
    rw [mkB_size]
    refine Bi.lss ?_ ?_ <;> intro c <;> (repeat with_reducible refine Stp.go ?_)
    · refine .inr ⟨_, 2, _, by decide, ?_, rfl, E⟩
      intro h
      have := congrArg List.length h
      rw [List.length_drop, List.length_nil] at this
      omega
    · exact .inl ⟨_, _, rfl, ⟨rfl, List.drop_eq_nil_of_le (by omega)⟩, E⟩
  · clear E
    rintro q w_ (⟨he, rfl, E⟩ | ⟨he, x, n', rfl, ⟨rfl, hd⟩, E⟩ | ⟨he, e', he', hN, rfl, E⟩)
    · (repeat with_reducible refine Stp.go ?_)
      exact ⟨e, rfl, ⟨fun h => absurd h he, fun h => absurd h.1 he⟩, E.drop (.cons_cons _ (.cons _ (List.Sublist.refl _)))⟩
    · (repeat with_reducible refine Stp.go ?_)
      exact ⟨0, rfl, ⟨fun _ => ⟨he, hd⟩, fun _ => rfl⟩, E.drop (.cons_cons _ (.cons _ (List.Sublist.refl _)))⟩
    · (repeat with_reducible refine Stp.go ?_)
      exact ⟨e', rfl, ⟨fun h => absurd h he', fun h => absurd h.2 hN⟩, E.drop (.cons_cons _ (.cons _ (List.Sublist.refl _)))⟩
end Go.Proofs.YtmlccboapkkcfaaGreatDoor

/-
  The protocol: the reader of fields.
-/
namespace Go.Proofs.YtmlccboapkkcfaaGreatDoor
open Go Go.Sh
set_option maxRecDepth 100000
set_option linter.unusedVariables false
set_option linter.unusedSimpArgs false
variable {w0 w : World} {F : Nat → Prop} {l : List As}
variable {r at_ : Nat} {e : Int} {t : List UInt8}
variable {i : Nat} {I : Ip} {b off : Nat} {cs : List Value} {T : TypeId}
/-- What reading gave: a value, an error, the place and the error behind. -/
def Rel (e : Int) (at_ : Nat) (t : List UInt8) (p : Option (Value × List UInt8)) (z x : Value) (er : Int) (n' : Nat) (e' : Int) : Prop :=
  (e ≠ 0 ∧ x = z ∧ er = e ∧ n' = at_ ∧ e' = e) ∨ (e = 0 ∧ er = 0 ∧ e' = 0 ∧ p = some (x, t.drop n')) ∨ (e = 0 ∧ p = none ∧ x = z ∧ er ≠ 0 ∧ e' = er ∧ n' = at_)
theorem RdN.uni {p : Option (Value × List UInt8)} {z q : Value} (ha : at_ ≤ t.length) (h : RdN w0 F r at_ e t l p z q w) : ∃ x er n' e', q = .tuple #[x, i64 er] ∧ n' ≤ t.length ∧ Rel e at_ t p z x er n' e' ∧ Hs w0 F w (rA r t n' e' :: l) := by
  rcases h with ⟨he, rfl, E⟩ | ⟨he, x, n', rfl, hn, hp, E⟩ | ⟨he, hp, e', he', rfl, E⟩
  · exact ⟨z, e, at_, e, rfl, ha, .inl ⟨he, rfl, rfl, rfl, rfl⟩, E⟩
  · exact ⟨x, 0, n', 0, rfl, hn, .inr (.inl ⟨he, rfl, rfl, hp⟩), E⟩
  · exact ⟨z, e', at_, e', rfl, ha, .inr (.inr ⟨he, hp, rfl, he', rfl, rfl⟩), E⟩
/-- The reader of fields in memory. -/
def IT (w0 : World) (F : Nat → Prop) (i : Nat) (I : Ip) (l : List As) (w : World) : Prop :=
  ∃ r t n e, Hs w0 F w (pt i (oc [ptr r, .bool I.bad, .bool I.ov, .bool I.cut] Ty.styx_input) :: rA r t n e :: l) ∧ n ≤ t.length ∧ t.length ≤ 1000000000000 ∧ t.drop n = I.r ∧ (I.err = true ↔ e ≠ 0)
theorem rel_num {k : Nat} {x : Value} {er : Int} {n' : Nat} {e' : Int} (hr : t.drop at_ = I.r) (he : I.err = true ↔ e ≠ 0) (h : Rel e at_ t ((rd k (t.drop at_)).map fun x => (i64 x.1, x.2)) (i64 0) x er n' e') :
    x = i64 (I.num k).1 ∧ t.drop n' = (I.num k).2.r ∧ ((I.num k).2.err = true ↔ e' ≠ 0) ∧ (I.num k).2.cut = (I.cut || decide (er ≠ 0)) ∧ (I.num k).2.bad = I.bad ∧ (I.num k).2.ov = I.ov := by
  rw [hr] at h
  unfold Ip.num
  rcases h with ⟨h1, rfl, rfl, rfl, rfl⟩ | ⟨h1, rfl, rfl, hp⟩ | ⟨h1, hp, rfl, h2, rfl, rfl⟩
  · rw [if_pos (he.2 h1)]
    exact ⟨rfl, hr, he, by simp [h1], rfl, rfl⟩
  · have hf : I.err = false := by cases hh : I.err with | false => rfl | true => exact absurd h1 (he.1 hh)
    rw [if_neg (by rw [hf]; decide)]
    obtain ⟨y, hy, hx⟩ := Option.map_eq_some_iff.1 hp
    have hx1 := congrArg Prod.fst hx
    have hx2 := congrArg Prod.snd hx
    simp only [hy]
    exact ⟨hx1.symm, hx2.symm, by simp [hf], by simp, trivial, trivial⟩
  · have hf : I.err = false := by cases hh : I.err with | false => rfl | true => exact absurd h1 (he.1 hh)
    rw [if_neg (by rw [hf]; decide)]
    have hn : rd k I.r = none := by
      cases hh : rd k I.r with
      | none => rfl
      | some y => rw [hh] at hp; cases hp
    simp only [hn]
    exact ⟨by first | trivial | rfl, hr, by simp [h2], by simp [h2], trivial, trivial⟩
theorem inum_ok {k : Nat} (hk : k = 1 ∨ k = 2 ∨ k = 4) (ho : off < cs.length) (E : IT w0 F i I (pt b (oc cs T) :: l) w) :
    Ca PP Fn.styx_input_num #[ptr i, .pointer (some ⟨b, off, none⟩), i64 k] w fun q w' => q = .tuple #[] ∧ IT w0 F i (I.num k).2 (pt b (oc (cs.set off (i64 (I.num k).1)) T) :: l) w' := by
  obtain ⟨r, t, n, e, E, hn, ht, hr, he⟩ := E
  refine S.styx_input_num.calls ?_
  unfold S.styx_input_num
  (repeat with_reducible first | refine Stp.go ?_ | refine StpE.go E ?_)
  (replace E := ((E.bIx 0).bIx 1))
  refine (RLittle_ok hk ht hn E).mono ?_
  clear E
  rintro q w_ hq
  obtain ⟨x, er, n', e', rfl, hn', hrel, E⟩ := hq.uni hn
  clear hq
  obtain ⟨hx, h1, h2, h3, h4, h5⟩ := rel_num hr he hrel
  (replace E := ((E.bIx 0).bIx 1))
  subst hx
  cases hc : I.cut with
  | true =>
    rw [hc] at E
    (repeat with_reducible first | refine Stp.go ?_ | refine StpE.go E ?_)
    refine St.by E ho rfl ?_
    clear E
    intro w_ E
    (repeat with_reducible first | refine Stp.go ?_ | (refine StpW.go E ?_; clear E; intro w_ E))
    refine ⟨rfl, r, t, n', e', ?_, hn', ht, h1, h2⟩
    rw [h4, h5, h3, hc]
    exact E
  | false =>
    rw [hc] at E
    (repeat with_reducible first | refine Stp.go ?_ | refine StpE.go E ?_)
    refine Bi.neq ?_ ?_ <;> intro c <;> (repeat with_reducible refine Stp.go ?_)
    · refine St.by E ho rfl ?_
      clear E
      intro w_ E
      (repeat with_reducible first | refine Stp.go ?_ | (refine StpW.go E ?_; clear E; intro w_ E))
      refine ⟨rfl, r, t, n', e', ?_, hn', ht, h1, h2⟩
      rw [h4, h5, h3, hc, decide_eq_true c]
      exact E
    · refine St.by E ho rfl ?_
      clear E
      intro w_ E
      (repeat with_reducible first | refine Stp.go ?_ | (refine StpW.go E ?_; clear E; intro w_ E))
      refine ⟨rfl, r, t, n', e', ?_, hn', ht, h1, h2⟩
      rw [h4, h5, h3, hc, decide_eq_false (fun h => h c)]
      exact E
theorem rel_least {bd : Int} {x : Value} {er : Int} {n' : Nat} {e' : Int} (hr : t.drop at_ = I.r) (he : I.err = true ↔ e ≠ 0) (h : Rel e at_ t ((rd8 (t.drop at_)).map fun x => (i64 x.1, x.2)) (i64 0) x er n' e') :
    x = i64 (I.least bd).1 ∧ t.drop n' = (I.least bd).2.r ∧ ((I.least bd).2.err = true ↔ e' ≠ 0) ∧ (I.least bd).2.cut = (I.cut || decide (er ≠ 0)) ∧ (I.least bd).2.bad = (I.bad || decide ((I.least bd).1 < bd)) ∧ (I.least bd).2.ov = I.ov := by
  rw [hr] at h
  unfold rd8 at h
  unfold Ip.least
  rcases h with ⟨h1, rfl, rfl, rfl, rfl⟩ | ⟨h1, rfl, rfl, hp⟩ | ⟨h1, hp, rfl, h2, rfl, rfl⟩
  · rw [if_pos (he.2 h1)]
    exact ⟨rfl, hr, he, by simp [h1], rfl, rfl⟩
  · have hf : I.err = false := by cases hh : I.err with | false => rfl | true => exact absurd h1 (he.1 hh)
    rw [if_neg (by rw [hf]; decide)]
    obtain ⟨y, hy, hx⟩ := Option.map_eq_some_iff.1 hp
    obtain ⟨z, hz, hy⟩ := Option.bind_eq_some_iff.1 hy
    cases hy
    have hx1 := congrArg Prod.fst hx
    have hx2 := congrArg Prod.snd hx
    simp only [hz]
    exact ⟨hx1.symm, hx2.symm, by simp [hf], by simp, trivial, trivial⟩
  · have hf : I.err = false := by cases hh : I.err with | false => rfl | true => exact absurd h1 (he.1 hh)
    rw [if_neg (by rw [hf]; decide)]
    have hn : rd 8 I.r = none := by
      cases hh : rd 8 I.r with
      | none => rfl
      | some y => rw [hh] at hp; cases hp
    simp only [hn]
    exact ⟨by first | trivial | rfl, hr, by simp [h2], by simp [h2], trivial, trivial⟩
theorem ileast_ok {bd : Int} (ho : off < cs.length) (E : IT w0 F i I (pt b (oc cs T) :: l) w) :
    Ca PP Fn.styx_input_least #[ptr i, .pointer (some ⟨b, off, none⟩), i64 bd] w fun q w' => q = .tuple #[] ∧ IT w0 F i (I.least bd).2 (pt b (oc (cs.set off (i64 (I.least bd).1)) T) :: l) w' := by
  obtain ⟨r, t, n, e, E, hn, ht, hr, he⟩ := E
  refine S.styx_input_least.calls ?_
  unfold S.styx_input_least
  (repeat with_reducible first | refine Stp.go ?_ | refine StpE.go E ?_)
  (replace E := ((E.bIx 0).bIx 1))
  refine (RSigned_ok ht hn E).mono ?_
  clear E
  rintro q w_ hq
  obtain ⟨x, er, n', e', rfl, hn', hrel, E⟩ := hq.uni hn
  clear hq
  obtain ⟨hx, h1, h2, h3, h4, h5⟩ := rel_least (bd := bd) hr he hrel
  (replace E := ((E.bIx 0).bIx 1))
  subst hx
  have fin : ∀ (bb cc : Bool) w_, bb = (I.bad || decide ((I.least bd).1 < bd)) → cc = (I.cut || decide (er ≠ 0)) → Hs w0 F w_ (pt i (oc [ptr r, .bool bb, .bool I.ov, .bool cc] Ty.styx_input) :: rA r t n' e' :: pt b (oc (cs.set off (i64 (I.least bd).1)) T) :: l) →
      IT w0 F i (I.least bd).2 (pt b (oc (cs.set off (i64 (I.least bd).1)) T) :: l) w_ := by
    intro bb cc w_ hb hcc E
    refine ⟨r, t, n', e', ?_, hn', ht, h1, h2⟩
    rw [h4, h5, h3, ← hb, ← hcc]
    exact E
  generalize (I.least bd).1 = y at fin E ⊢
  cases hb : I.bad <;> cases hc : I.cut <;> rw [hb, hc] at E <;> rw [hb, hc] at fin
  · (repeat with_reducible first | refine Stp.go ?_ | refine StpE.go E ?_ | (refine StpW.go E ?_; clear E; intro w_ E))
    refine Bi.lss ?_ ?_ <;> intro c1 <;> (repeat with_reducible first | refine Stp.go ?_ | refine StpE.go E ?_)
    · refine Bi.neq ?_ ?_ <;> intro c <;> (repeat with_reducible refine Stp.go ?_)
      · refine St.by E ho rfl ?_
        clear E
        intro w_ E
        (repeat with_reducible first | refine Stp.go ?_ | (refine StpW.go E ?_; clear E; intro w_ E))
        exact ⟨rfl, fin _ _ _ (by rw [decide_eq_true c1]; rfl) (by rw [decide_eq_true c]; rfl) E⟩
      · refine St.by E ho rfl ?_
        clear E
        intro w_ E
        (repeat with_reducible first | refine Stp.go ?_ | (refine StpW.go E ?_; clear E; intro w_ E))
        exact ⟨rfl, fin _ _ _ (by rw [decide_eq_true c1]; rfl) (by rw [decide_eq_false (fun h => h c)]; rfl) E⟩
    · refine Bi.neq ?_ ?_ <;> intro c <;> (repeat with_reducible refine Stp.go ?_)
      · refine St.by E ho rfl ?_
        clear E
        intro w_ E
        (repeat with_reducible first | refine Stp.go ?_ | (refine StpW.go E ?_; clear E; intro w_ E))
        exact ⟨rfl, fin _ _ _ (by rw [decide_eq_false (by omega)]; rfl) (by rw [decide_eq_true c]; rfl) E⟩
      · refine St.by E ho rfl ?_
        clear E
        intro w_ E
        (repeat with_reducible first | refine Stp.go ?_ | (refine StpW.go E ?_; clear E; intro w_ E))
        exact ⟨rfl, fin _ _ _ (by rw [decide_eq_false (by omega)]; rfl) (by rw [decide_eq_false (fun h => h c)]; rfl) E⟩
  · (repeat with_reducible first | refine Stp.go ?_ | refine StpE.go E ?_ | (refine StpW.go E ?_; clear E; intro w_ E))
    refine Bi.lss ?_ ?_ <;> intro c1 <;> (repeat with_reducible first | refine Stp.go ?_ | refine StpE.go E ?_)
    · refine St.by E ho rfl ?_
      clear E
      intro w_ E
      (repeat with_reducible first | refine Stp.go ?_ | (refine StpW.go E ?_; clear E; intro w_ E))
      exact ⟨rfl, fin _ _ _ (by rw [decide_eq_true c1]; rfl) rfl E⟩
    · refine St.by E ho rfl ?_
      clear E
      intro w_ E
      (repeat with_reducible first | refine Stp.go ?_ | (refine StpW.go E ?_; clear E; intro w_ E))
      exact ⟨rfl, fin _ _ _ (by rw [decide_eq_false (by omega)]; rfl) rfl E⟩
  · (repeat with_reducible first | refine Stp.go ?_ | refine StpE.go E ?_ | (refine StpW.go E ?_; clear E; intro w_ E))
    refine Bi.neq ?_ ?_ <;> intro c <;> (repeat with_reducible refine Stp.go ?_)
    · refine St.by E ho rfl ?_
      clear E
      intro w_ E
      (repeat with_reducible first | refine Stp.go ?_ | (refine StpW.go E ?_; clear E; intro w_ E))
      exact ⟨rfl, fin _ _ _ rfl (by rw [decide_eq_true c]; rfl) E⟩
    · refine St.by E ho rfl ?_
      clear E
      intro w_ E
      (repeat with_reducible first | refine Stp.go ?_ | (refine StpW.go E ?_; clear E; intro w_ E))
      exact ⟨rfl, fin _ _ _ rfl (by rw [decide_eq_false (fun h => h c)]; rfl) E⟩
  · (repeat with_reducible first | refine Stp.go ?_ | refine StpE.go E ?_ | (refine StpW.go E ?_; clear E; intro w_ E))
    refine St.by E ho rfl ?_
    clear E
    intro w_ E
    (repeat with_reducible first | refine Stp.go ?_ | (refine StpW.go E ?_; clear E; intro w_ E))
    exact ⟨rfl, fin _ _ _ rfl rfl E⟩
theorem ilong_ok (ho : off < cs.length) (E : IT w0 F i I (pt b (oc cs T) :: l) w) :
    Ca PP Fn.styx_input_long #[ptr i, .pointer (some ⟨b, off, none⟩)] w fun q w' => q = .tuple #[] ∧ IT w0 F i (I.least 0).2 (pt b (oc (cs.set off (i64 (I.least 0).1)) T) :: l) w' := by
  refine S.styx_input_long.calls ?_
  unfold S.styx_input_long
  refine (ileast_ok ho E).mono ?_
  rintro q w_ ⟨rfl, E⟩
  exact ⟨rfl, E⟩
theorem iopt_ok (ho : off < cs.length) (E : IT w0 F i I (pt b (oc cs T) :: l) w) :
    Ca PP Fn.styx_input_optional #[ptr i, .pointer (some ⟨b, off, none⟩)] w fun q w' => q = .tuple #[] ∧ IT w0 F i (I.least (-1)).2 (pt b (oc (cs.set off (i64 (I.least (-1)).1)) T) :: l) w' := by
  refine S.styx_input_optional.calls ?_
  unfold S.styx_input_optional
  refine (ileast_ok ho E).mono ?_
  rintro q w_ ⟨rfl, E⟩
  exact ⟨rfl, E⟩
theorem imode_ok (ho : off < cs.length) (E : IT w0 F i I (pt b (oc cs T) :: l) w) :
    Ca PP Fn.styx_input_mode #[ptr i, .pointer (some ⟨b, off, none⟩)] w fun q w' => q = .tuple #[] ∧ IT w0 F i I.mode.2 (pt b (oc (cs.set off (i64 I.mode.1)) T) :: l) w' := by
  refine S.styx_input_mode.calls ?_
  unfold S.styx_input_mode Ip.mode
  refine (inum_ok (k := 4) (by omega) ho E).mono ?_
  clear E
  rintro q w_ ⟨rfl, E⟩
  generalize I.num 4 = y at E ⊢
  obtain ⟨x, J⟩ := y
  obtain ⟨r, t, n, e, E, hn, ht, hr, he⟩ := E
  simp only [] at E hr he ⊢
  (repeat with_reducible refine Stp.go ?_)
  refine Ld.pt E (List.mem_cons_of_mem _ (List.mem_cons_of_mem _ List.mem_cons_self)) (v := i64 x) (by rw [List.getElem?_set_self ho]) ?_
  unfold mdI
  refine Bi.eql ?_ ?_ <;> intro c <;> (repeat with_reducible refine Stp.go ?_)
  · refine St.by E (by rw [List.length_set]; exact ho) rfl ?_
    clear E
    intro w_ E
    rw [List.set_set] at E
    rw [if_pos c]
    exact ⟨trivial, r, t, n, e, E, hn, ht, hr, he⟩
  · rw [if_neg c]
    exact ⟨trivial, r, t, n, e, E, hn, ht, hr, he⟩
end Go.Proofs.YtmlccboapkkcfaaGreatDoor

/-
  The protocol: the reader of fields: texts, qids, Dirs.
-/
namespace Go.Proofs.YtmlccboapkkcfaaGreatDoor
open Go Go.Sh
set_option maxRecDepth 100000
set_option linter.unusedVariables false
set_option linter.unusedSimpArgs false
variable {w0 w : World} {F : Nat → Prop} {l : List As}
variable {at_ : Nat} {e : Int} {t : List UInt8}
variable {i : Nat} {I : Ip} {b off : Nat} {cs : List Value} {T : TypeId}
theorem u_sl_string : PP.underlying Ty.sl_string = some (.slice Ty.string) := by kernel_rfl
theorem e_string : el3 PP Ty.string = some (some (.string ⟨#[]⟩), 1, 16) := by kernel_rfl
theorem IT.sub {l' : List As} (h : l'.Sublist l) (E : IT w0 F i I l w) : IT w0 F i I l' w := by
  obtain ⟨r, t, n, e, E, h2⟩ := E
  exact ⟨r, t, n, e, E.drop (.cons_cons _ (.cons_cons _ h)), h2⟩
theorem IT.sw {A B : As} (E : IT w0 F i I (A :: B :: l) w) : IT w0 F i I (B :: A :: l) w := by
  obtain ⟨r, t, n, e, E, h2⟩ := E
  exact ⟨r, t, n, e, E.perm ((List.Perm.swap _ _ _).cons _ |>.cons _), h2⟩
theorem IT.rest (E : IT w0 F i I l w) : Hs w0 F w l := by obtain ⟨r, t, n, e, E, h2⟩ := E; exact E.tl.tl
theorem rel_raw {k : Nat} {x : Value} {er : Int} {n' : Nat} {e' : Int} (hr : t.drop at_ = I.r) (he : I.err = true ↔ e ≠ 0) (h : Rel e at_ t ((rdN k (t.drop at_)).map fun x => (sb x.1, x.2)) (sb []) x er n' e') :
    x = sb (I.raw k).1 ∧ t.drop n' = (I.raw k).2.r ∧ ((I.raw k).2.err = true ↔ e' ≠ 0) ∧ (I.raw k).2.cut = (I.cut || decide (er ≠ 0)) ∧ (I.raw k).2.bad = I.bad ∧ (I.raw k).2.ov = I.ov := by
  rw [hr] at h
  unfold Ip.raw
  rcases h with ⟨h1, rfl, rfl, rfl, rfl⟩ | ⟨h1, rfl, rfl, hp⟩ | ⟨h1, hp, rfl, h2, rfl, rfl⟩
  · rw [if_pos (he.2 h1)]
    exact ⟨rfl, hr, he, by simp [h1], rfl, rfl⟩
  · have hf : I.err = false := by cases hh : I.err with | false => rfl | true => exact absurd h1 (he.1 hh)
    rw [if_neg (by rw [hf]; decide)]
    obtain ⟨y, hy, hx⟩ := Option.map_eq_some_iff.1 hp
    have hx1 := congrArg Prod.fst hx
    have hx2 := congrArg Prod.snd hx
    simp only [hy]
    exact ⟨hx1.symm, hx2.symm, by simp [hf], by simp, trivial, trivial⟩
  · have hf : I.err = false := by cases hh : I.err with | false => rfl | true => exact absurd h1 (he.1 hh)
    rw [if_neg (by rw [hf]; decide)]
    have hn : rdN k I.r = none := by
      cases hh : rdN k I.r with
      | none => rfl
      | some y => rw [hh] at hp; cases hp
    simp only [hn]
    exact ⟨by first | trivial | rfl, hr, by simp [h2], by simp [h2], trivial, trivial⟩
theorem num_lt (I : Ip) {k : Nat} (hk : k = 1 ∨ k = 2 ∨ k = 4) : (I.num k).1 < 4294967296 := by
  unfold Ip.num
  split
  · exact (show (0 : Nat) < 4294967296 by omega)
  · split
    · rename_i x hx
      obtain ⟨_, h⟩ := rd_eq (r := x.2) (n := x.1) hx
      exact Nat.lt_of_lt_of_le h (by rcases hk with rfl | rfl | rfl <;> decide)
    · exact (show (0 : Nat) < 4294967296 by omega)
theorem isized_ok {k : Nat} (hk : k = 2 ∨ k = 4) (E : IT w0 F i I l w) :
    Ca PP Fn.styx_input_sized #[ptr i, i64 k] w fun q w' => q = sb (I.sized k).1 ∧ IT w0 F i (I.sized k).2 l w' := by
  refine S.styx_input_sized.calls ?_
  unfold S.styx_input_sized Ip.sized
  obtain ⟨r, t, n, e, E, hn, ht, hr, he⟩ := E
  (repeat with_reducible first | (refine StpW.go E ?_; clear E; intro w_ E) | (refine StpA.go E ?_; clear E; intro b_ w_ hb_ E))
  (revert b_; intro c hbc E)
  (replace E := (((E.bIx 0).bIx 2).bIx 2))
  refine (inum_ok (k := k) (off := 0) (by omega) (by simp) ⟨r, t, n, e, E, hn, ht, hr, he⟩).mono ?_
  clear E hn ht hr he
  rintro q w_ ⟨rfl, E⟩
  have hlt := num_lt I (k := k) (by omega)
  generalize I.num k = y at E hlt ⊢
  obtain ⟨x, J⟩ := y
  obtain ⟨r, t, n, e, E, hn, ht, hr, he⟩ := E
  (try simp only [List.set_cons_zero, List.set_cons_succ, List.cons_append, List.nil_append, Nat.zero_add, Nat.add_zero] at E)
  simp only [] at E hr he hlt ⊢
  (repeat with_reducible first | refine Stp.go ?_ | refine StpE.go E ?_ | (refine StpW.go E ?_; clear E; intro w_ E))
  (replace E := ((E.bIx 0).bIx 1))
  refine (RRaw_ok (n := x) (by omega) ht hn E).mono ?_
  clear E
  rintro q w_ hq
  obtain ⟨x2, er, n', e', rfl, hn', hrel, E⟩ := hq.uni hn
  clear hq
  obtain ⟨hx, h1, h2, h3, h4, h5⟩ := rel_raw hr he hrel
  (replace E := ((E.bIx 0).bIx 1))
  subst hx
  (repeat with_reducible refine Stp.go ?_)
  (intro J15 hJ15)
  have fin15 : ∀ cc w_, cc = (J.cut || decide (er ≠ 0)) → Hs w0 F w_ (pt i (oc [ptr r, .bool J.bad, .bool J.ov, .bool cc] Ty.styx_input) :: rA r t n' e' :: pt c (oc [i64 x] Ty.int) :: l) → J15 [] w_ := by
    intro cc w_ hcc E
    apply hJ15
    intro u_
    refine ⟨by first | trivial | rfl, r, t, n', e', ?_, hn', ht, h1, h2⟩
    rw [h4, h5, h3, ← hcc]
    exact E.drop (.cons_cons _ (.cons_cons _ (.cons _ (List.Sublist.refl _))))
  clear hJ15
  cases hc : J.cut with
  | true =>
    rw [hc] at E fin15
    (repeat with_reducible first | refine Stp.go ?_ | refine StpE.go E ?_ | (refine StpW.go E ?_; clear E; intro w_ E))
    exact fin15 _ _ rfl E
  | false =>
    rw [hc] at E fin15
    (repeat with_reducible first | refine Stp.go ?_ | refine StpE.go E ?_)
    refine Bi.neq ?_ ?_ <;> intro c <;> (repeat with_reducible first | refine Stp.go ?_ | (refine StpW.go E ?_; clear E; intro w_ E))
    · exact fin15 _ _ (by rw [decide_eq_true c]; rfl) E
    · exact fin15 _ _ (by rw [decide_eq_false (fun h => h c)]; rfl) E
theorem itext_ok (ho : off < cs.length) (E : IT w0 F i I (pt b (oc cs T) :: l) w) :
    Ca PP Fn.styx_input_text #[ptr i, .pointer (some ⟨b, off, none⟩)] w fun q w' => q = .tuple #[] ∧ IT w0 F i (I.sized 2).2 (pt b (oc (cs.set off (sb (I.sized 2).1)) T) :: l) w' := by
  refine S.styx_input_text.calls ?_
  unfold S.styx_input_text
  refine (isized_ok (k := 2) (by omega) E).mono ?_
  clear E
  rintro q w_ ⟨rfl, r, t, n, e, E, h⟩
  (repeat with_reducible refine Stp.go ?_)
  refine St.by E ho rfl ?_
  clear E
  intro w_ E
  exact ⟨rfl, r, t, n, e, E, h⟩
theorem idata_ok (ho : off < cs.length) (E : IT w0 F i I (pt b (oc cs T) :: l) w) :
    Ca PP Fn.styx_input_data #[ptr i, .pointer (some ⟨b, off, none⟩)] w fun q w' => q = .tuple #[] ∧ IT w0 F i (I.sized 4).2 (pt b (oc (cs.set off (sb (I.sized 4).1)) T) :: l) w' := by
  refine S.styx_input_data.calls ?_
  unfold S.styx_input_data
  refine (isized_ok (k := 4) (by omega) E).mono ?_
  clear E
  rintro q w_ ⟨rfl, r, t, n, e, E, h⟩
  (repeat with_reducible refine Stp.go ?_)
  refine St.by E ho rfl ?_
  clear E
  intro w_ E
  exact ⟨rfl, r, t, n, e, E, h⟩
theorem icount_ok (E : IT w0 F i I l w) :
    Ca PP Fn.styx_input_count #[ptr i] w fun q w' => q = i64 (I.count.1 : Nat) ∧ IT w0 F i I.count.2 l w' := by
  refine S.styx_input_count.calls ?_
  unfold S.styx_input_count Ip.count
  obtain ⟨r, t, n, e, E, hn, ht, hr, he⟩ := E
  (repeat with_reducible first | (refine StpW.go E ?_; clear E; intro w_ E) | (refine StpA.go E ?_; clear E; intro b_ w_ hb_ E))
  (revert b_; intro c hbc E)
  (replace E := (((E.bIx 0).bIx 2).bIx 2))
  refine (inum_ok (k := 2) (off := 0) (by omega) (by simp) ⟨r, t, n, e, E, hn, ht, hr, he⟩).mono ?_
  clear E hn ht hr he
  rintro q w_ ⟨rfl, E⟩
  generalize I.num 2 = y at E ⊢
  obtain ⟨x, J⟩ := y
  obtain ⟨r, t, n, e, E, hn, ht, hr, he⟩ := E
  (try simp only [List.set_cons_zero, List.set_cons_succ, List.cons_append, List.nil_append, Nat.zero_add, Nat.add_zero] at E)
  simp only [] at E hr he ⊢
  (intro J6 hJ6)
  have fin6 : ∀ oo w_, oo = (J.ov || decide (x > 16)) → Hs w0 F w_ (pt i (oc [ptr r, .bool J.bad, .bool oo, .bool J.cut] Ty.styx_input) :: rA r t n e :: pt c (oc [i64 x] Ty.int) :: l) → J6 [] w_ := by
    intro oo w_ ho E
    apply hJ6
    intro u_
    (repeat with_reducible refine StpE.go E ?_)
    refine ⟨by first | trivial | rfl, r, t, n, e, ?_, hn, ht, hr, he⟩
    simp only [← ho]
    exact E.drop (.cons_cons _ (.cons_cons _ (.cons _ (List.Sublist.refl _))))
  clear hJ6
  cases hc : J.ov with
  | true =>
    rw [hc] at E fin6
    (repeat with_reducible first | refine Stp.go ?_ | refine StpE.go E ?_ | (refine StpW.go E ?_; clear E; intro w_ E))
    exact fin6 _ _ rfl E
  | false =>
    rw [hc] at E fin6
    (repeat with_reducible first | refine Stp.go ?_ | refine StpE.go E ?_)
    refine Bi.gtr ?_ ?_ <;> intro c <;> (repeat with_reducible first | refine Stp.go ?_ | (refine StpW.go E ?_; clear E; intro w_ E))
    · exact fin6 _ _ (by rw [decide_eq_true (show x > 16 by omega)]; rfl) E
    · exact fin6 _ _ (by rw [decide_eq_false (show ¬ x > 16 by omega)]; rfl) E
theorem iqid_ok {c0 c1 c2 : Value} {pre post : List Value} (hcs : cs = pre ++ c0 :: c1 :: c2 :: post) (ho : off = pre.length) (E : IT w0 F i I (pt b (oc cs T) :: l) w) :
    Ca PP Fn.styx_qid #[.iface Ty.p_styx_input (ptr i), .pointer (some ⟨b, off, none⟩)] w fun q w' => q = .tuple #[] ∧ IT w0 F i I.qid.2 (pt b (oc (pre ++ qcs I.qid.1 ++ post) T) :: l) w' := by
  subst hcs
  subst ho
  refine S.styx_qid.calls ?_
  unfold S.styx_qid
  obtain ⟨r, t, n, e, E, h⟩ := E
  (repeat with_reducible first | refine Stp.go ?_ | (refine StpW.go E ?_; clear E; intro w_ E))
  refine (inum_ok (k := 1) (off := pre.length) (by omega) (by simp) ⟨r, t, n, e, E, h⟩).mono ?_
  clear E h
  rintro q w_ ⟨rfl, r, t, n, e, E, h⟩
  (repeat with_reducible first | refine Stp.go ?_ | (refine StpW.go E ?_; clear E; intro w_ E))
  refine (inum_ok (k := 4) (off := pre.length + 1) (by omega) (by simp) ⟨r, t, n, e, E, h⟩).mono ?_
  clear E h
  rintro q w_ ⟨rfl, r, t, n, e, E, h⟩
  (repeat with_reducible first | refine Stp.go ?_ | (refine StpW.go E ?_; clear E; intro w_ E))
  refine (ilong_ok (off := pre.length + 2) (by simp) ⟨r, t, n, e, E, h⟩).mono ?_
  clear E h
  rintro q w_ ⟨rfl, r, t, n, e, E, h⟩
  refine ⟨rfl, r, t, n, e, ?_, h⟩
  have e1 : (((pre ++ c0 :: c1 :: c2 :: post).set pre.length (i64 (I.num 1).1)).set (pre.length + 1) (i64 ((I.num 1).2.num 4).1)).set (pre.length + 2) (i64 (((I.num 1).2.num 4).2.least 0).1) = pre ++ qcs I.qid.1 ++ post := by
    rw [List.set_append_right _ _ (Nat.le_refl _), Nat.sub_self, List.set_cons_zero, List.set_append_right _ _ (by omega), Nat.add_sub_cancel_left, List.set_append_right _ _ (by omega), Nat.add_sub_cancel_left, List.append_assoc]
    rfl
  rw [e1] at E
  exact E
end Go.Proofs.YtmlccboapkkcfaaGreatDoor

/-
  The protocol: the reader of fields: lists.
-/
namespace Go.Proofs.YtmlccboapkkcfaaGreatDoor
open Go Go.Sh
set_option maxRecDepth 100000
set_option linter.unusedVariables false
set_option linter.unusedSimpArgs false
variable {w0 w : World} {F : Nat → Prop} {l : List As}
variable {i : Nat} {I : Ip} {b off : Nat} {cs : List Value} {T : TypeId}
theorem count_lt (I : Ip) : I.count.1 < 4294967296 := num_lt I (by omega)
theorem loop_succ {α : Type} (f : Ip → α × Ip) (n : Nat) (J : Ip) : Ip.loop f (n + 1) J = if J.cut then ([], J) else ((f J).1 :: (Ip.loop f n (f J).2).1, (Ip.loop f n (f J).2).2) := rfl
theorem inames_ok (ho : off < cs.length) (h0 : cs[off]? = some (.slice none 0 0)) (E : IT w0 F i I (pt b (oc cs T) :: l) w) :
    Ca PP Fn.styx_input_names #[ptr i, .pointer (some ⟨b, off, none⟩)] w fun q w' => q = .tuple #[] ∧
      ∃ v, IT w0 F i (Ip.loop (Ip.sized · 2) I.count.1 I.count.2).2 (pt b (oc (cs.set off v) T) :: slA v Ty.string 1 ((Ip.loop (Ip.sized · 2) I.count.1 I.count.2).1.map sb) :: l) w' := by
  refine S.styx_input_names.calls ?_
  unfold S.styx_input_names
  refine (icount_ok E).mono ?_
  clear E
  rintro q w_ ⟨rfl, E⟩
  have hlt := count_lt I
  generalize I.count = c at E hlt ⊢
  obtain ⟨n, J0⟩ := c
  simp only [] at E hlt ⊢
  generalize hL : Ip.loop (Ip.sized · 2) n J0 = L
  refine ⟨fun l1 w1 => ∃ (k : Nat) (done : List (List UInt8)) (v : Value) (J : Ip), l1 = [i64 k] ∧ done.length + k ≤ n ∧ L = (done ++ (Ip.loop (Ip.sized · 2) k J).1, (Ip.loop (Ip.sized · 2) k J).2) ∧
      IT w0 F i J (pt b (oc (cs.set off v) T) :: slA v Ty.string 1 (done.map sb) :: l) w1,
    fun l1 _ => match l1 with | [.int _ k] => k.toNat | _ => 0, ⟨n, [], .slice none 0 0, J0, rfl, by simp, by rw [List.nil_append, hL], ?_⟩, ?_⟩
  · obtain ⟨r, t, m, e, E, h⟩ := E
    have E := E.nilSl Ty.string 1
    (replace E := ((((E.bIx 0).bIx 3).bIx 3).bIx 3))
    have e1 : cs.set off (.slice none 0 0) = cs := by
      obtain ⟨h1, h2⟩ := List.getElem?_eq_some_iff.1 h0
      rw [← h2, List.set_getElem_self]
    rw [e1]
    exact ⟨r, t, m, e, E, h⟩
  clear E hL
  rintro t1 u1 w1 ⟨k, done, v, J, e1, hk, hL, E⟩
  cases e1
  (intro J8 hJ8)
  have fin8 : ∀ bb, bb = (decide (0 < k) && !J.cut) → J8 [.bool bb] w1 := by
    intro bb hb
    apply hJ8
    intro u_
    clear hJ8
    cases bb with
    | false =>
      obtain ⟨r, t, m, e, E, h⟩ := E
      (repeat with_reducible refine Stp.go ?_)
      refine ⟨by first | trivial | rfl, v, ?_⟩
      have hz : Ip.loop (Ip.sized · 2) k J = ([], J) := by
        cases k with
        | zero => rfl
        | succ k =>
          have : J.cut = true := by simpa using hb
          rw [loop_succ, if_pos this]
      rw [hz] at hL
      rw [hL, List.append_nil]
      exact ⟨r, t, m, e, E, h⟩
    | true =>
      have hb' := hb.symm
      rw [Bool.and_eq_true, decide_eq_true_eq] at hb'
      obtain ⟨hk0, hcut⟩ := hb'
      obtain ⟨k, rfl⟩ : ∃ k', k = k' + 1 := ⟨k - 1, by omega⟩
      have hc : J.cut = false := by simpa using hcut
      rw [loop_succ, if_neg (by rw [hc]; decide)] at hL
      obtain ⟨r, t, m, e, E, h⟩ := E
      have hset : (cs.set off v)[off]? = some v := by rw [List.getElem?_set_self ho]
      (repeat with_reducible first | refine Stp.go ?_ | (refine StpW.go E ?_; clear E; intro w_ E))
      refine Ld.pt E (List.mem_cons_of_mem _ (List.mem_cons_of_mem _ List.mem_cons_self)) hset ?_
      refine (isized_ok (k := 2) (by omega) ⟨r, t, m, e, E, h⟩).mono ?_
      clear E h
      rintro q w_ ⟨rfl, r, t, m, e, E, h⟩
      refine ⟨Ld.pt E (List.mem_cons_of_mem _ (List.mem_cons_of_mem _ List.mem_cons_self)) hset rfl, ?_⟩
      refine BdS.one E u_sl_string e_string rfl ?_
      clear E
      intro v2 w_ E
      refine ⟨Ld.pt E (List.mem_cons_of_mem _ (List.mem_cons_of_mem _ (List.mem_cons_of_mem _ List.mem_cons_self))) hset rfl, ?_⟩
      refine Ap.one E (i := 4) rfl u_sl_string ⟨_, u_sl_string, fun _ h => by cases h⟩ e_string (Src.one E (by (first | assumption | exact FPt.mem | exact FMp.mem | exact FSl.mem | (repeat (first | assumption | with_reducible exact List.mem_cons_self | refine List.mem_cons_of_mem _ ?_)))) rfl) rfl (by rw [List.length_map]; simp only [List.length_cons, List.length_nil]; omega) (by rw [List.length_map]; simp only [List.length_cons, List.length_nil]; omega) ?_
      clear E
      intro v3 w_ E
      (try simp only [List.set_cons_zero, List.set_cons_succ, List.cons_append, List.nil_append, Nat.zero_add, Nat.add_zero] at E)
      (repeat with_reducible refine Stp.go ?_)
      refine St.by E (by rw [List.length_set]; exact ho) (Hs.slScal E FSl.mem) ?_
      clear E
      intro w_ E
      rw [List.set_set] at E
      refine Bi.sub (by omega) ?_
      (replace E := (E.bIx 0).tl)
      refine ⟨⟨k, done ++ [(J.sized 2).1], v3, (J.sized 2).2, by simp, by simp; omega, ?_, r, t, m, e, ?_, h⟩, by simp only []; omega⟩
      · rw [hL, List.append_assoc]
        rfl
      · rw [List.map_append]
        exact E
  clear hJ8
  obtain ⟨r, t, m, e, E, h⟩ := E
  refine Bi.gtr ?_ ?_ <;> intro c <;> (repeat with_reducible first | refine Stp.go ?_ | refine StpE.go E ?_)
  · cases hc : J.cut with
    | true =>
      rw [hc] at E fin8
      (repeat with_reducible refine Stp.go ?_)
      exact fin8 _ (by simp)
    | false =>
      rw [hc] at E fin8
      (repeat with_reducible refine Stp.go ?_)
      exact fin8 _ (by simp; omega)
  · exact fin8 _ (by rw [decide_eq_false (by omega)]; rfl)
theorem iqids_ok (ho : off < cs.length) (h0 : cs[off]? = some (.slice none 0 0)) (E : IT w0 F i I (pt b (oc cs T) :: l) w) :
    Ca PP Fn.styx_input_qids #[ptr i, .pointer (some ⟨b, off, none⟩)] w fun q w' => q = .tuple #[] ∧
      ∃ v, IT w0 F i (Ip.loop Ip.qid I.count.1 I.count.2).2 (pt b (oc (cs.set off v) T) :: slA v Ty.api_Qid 3 (qqs (Ip.loop Ip.qid I.count.1 I.count.2).1) :: l) w' := by
  refine S.styx_input_qids.calls ?_
  unfold S.styx_input_qids
  refine (icount_ok E).mono ?_
  clear E
  rintro q w_ ⟨rfl, E⟩
  have hlt := count_lt I
  generalize I.count = c at E hlt ⊢
  obtain ⟨n, J0⟩ := c
  simp only [] at E hlt ⊢
  generalize hL : Ip.loop Ip.qid n J0 = L
  refine ⟨fun l1 w1 => ∃ (k : Nat) (done : List Qi) (v : Value) (J : Ip), l1 = [i64 k] ∧ done.length + k ≤ n ∧ L = (done ++ (Ip.loop Ip.qid k J).1, (Ip.loop Ip.qid k J).2) ∧
      IT w0 F i J (pt b (oc (cs.set off v) T) :: slA v Ty.api_Qid 3 (qqs done) :: l) w1,
    fun l1 _ => match l1 with | [.int _ k] => k.toNat | _ => 0, ⟨n, [], .slice none 0 0, J0, rfl, by simp, by rw [List.nil_append, hL], ?_⟩, ?_⟩
  · obtain ⟨r, t, m, e, E, h⟩ := E
    have E := E.nilSl Ty.api_Qid 3
    (replace E := ((((E.bIx 0).bIx 3).bIx 3).bIx 3))
    have e1 : cs.set off (.slice none 0 0) = cs := by
      obtain ⟨h1, h2⟩ := List.getElem?_eq_some_iff.1 h0
      rw [← h2, List.set_getElem_self]
    rw [e1]
    exact ⟨r, t, m, e, E, h⟩
  clear E hL
  rintro t1 u1 w1 ⟨k, done, v, J, e1, hk, hL, E⟩
  cases e1
  (intro J8 hJ8)
  have fin8 : ∀ bb, bb = (decide (0 < k) && !J.cut) → J8 [.bool bb] w1 := by
    intro bb hb
    apply hJ8
    intro u_
    clear hJ8
    cases bb with
    | false =>
      obtain ⟨r, t, m, e, E, h⟩ := E
      (repeat with_reducible refine Stp.go ?_)
      refine ⟨by first | trivial | rfl, v, ?_⟩
      have hz : Ip.loop Ip.qid k J = ([], J) := by
        cases k with
        | zero => rfl
        | succ k =>
          have : J.cut = true := by simpa using hb
          rw [loop_succ, if_pos this]
      rw [hz] at hL
      rw [hL, List.append_nil]
      exact ⟨r, t, m, e, E, h⟩
    | true =>
      have hb' := hb.symm
      rw [Bool.and_eq_true, decide_eq_true_eq] at hb'
      obtain ⟨hk0, hcut⟩ := hb'
      obtain ⟨k, rfl⟩ : ∃ k', k = k' + 1 := ⟨k - 1, by omega⟩
      have hc : J.cut = false := by simpa using hcut
      rw [loop_succ, if_neg (by rw [hc]; decide)] at hL
      obtain ⟨r, t, m, e, E, h⟩ := E
      have hset : (cs.set off v)[off]? = some v := by rw [List.getElem?_set_self ho]
      (repeat with_reducible first | refine Stp.go ?_ | (refine StpA.go E ?_; clear E; intro b_ w_ hb_ E))
      (revert b_; intro c hbc E)
      (replace E := (((E.bIx 0).bIx 2).bIx 2))
      refine (iqid_ok (pre := []) (post := []) rfl rfl ⟨r, t, m, e, E, h⟩).mono ?_
      clear E h
      rintro q w_ ⟨rfl, r, t, m, e, E, h⟩
      (repeat with_reducible first | refine Stp.go ?_ | (refine StpW.go E ?_; clear E; intro w_ E))
      refine Ld.pt E (List.mem_cons_of_mem _ (List.mem_cons_of_mem _ (List.mem_cons_of_mem _ List.mem_cons_self))) hset ?_
      refine LdA.pt (n := 3) (o := 0) E (List.mem_cons_of_mem _ (List.mem_cons_of_mem _ List.mem_cons_self)) (ds := qcs J.qid.1) rfl rfl ?_
      refine BdS.sl (sz := 3) (n := 1) (z := .agg #[i64 0, i64 0, i64 0]) (xs := qcs J.qid.1) E u_sl_qid (by kernel_rfl) (by kernel_rfl) (by omega) (by omega) (by kernel_rfl) rfl ?_
      clear E
      intro v2 w_ E
      refine ⟨Ld.pt E (List.mem_cons_of_mem _ (List.mem_cons_of_mem _ (List.mem_cons_of_mem _ (List.mem_cons_of_mem _ List.mem_cons_self)))) hset rfl, ?_⟩
      have hql : (qqs done).length / 3 = done.length := by rw [qqs_len]; omega
      refine Ap.el E (i := 5) (n := 1) (ys := qcs J.qid.1) rfl u_sl_qid ⟨_, u_sl_qid, fun _ h => by cases h⟩ e_qid (by omega) (Src.slice (show SliceAt v2 Ty.api_Qid 3 (qcs J.qid.1) _ from E.sat _ List.mem_cons_self) rfl (by omega) rfl) rfl (by rw [hql]; omega) (by rw [hql]; omega) ?_
      clear E
      intro v3 w_ E
      (try simp only [List.set_cons_zero, List.set_cons_succ, List.cons_append, List.nil_append, Nat.zero_add, Nat.add_zero] at E)
      (repeat with_reducible refine Stp.go ?_)
      refine St.by E (by rw [List.length_set]; exact ho) (Hs.slScal E FSl.mem) ?_
      clear E
      intro w_ E
      rw [List.set_set] at E
      refine Bi.sub (by omega) ?_
      (replace E := (E.bIx 0).tl)
      (replace E := (E.bIx 2).tl)
      refine ⟨⟨k, done ++ [J.qid.1], v3, J.qid.2, by simp, by simp; omega, ?_, r, t, m, e, ?_, h⟩, by simp only []; omega⟩
      · rw [hL, List.append_assoc]
        rfl
      · have : qqs (done ++ [J.qid.1]) = qqs done ++ qcs J.qid.1 := by simp [qqs]
        rw [this]
        exact E
  clear hJ8
  obtain ⟨r, t, m, e, E, h⟩ := E
  refine Bi.gtr ?_ ?_ <;> intro c <;> (repeat with_reducible first | refine Stp.go ?_ | refine StpE.go E ?_)
  · cases hc : J.cut with
    | true =>
      rw [hc] at E fin8
      (repeat with_reducible refine Stp.go ?_)
      exact fin8 _ (by simp)
    | false =>
      rw [hc] at E fin8
      (repeat with_reducible refine Stp.go ?_)
      exact fin8 _ (by simp; omega)
  · exact fin8 _ (by rw [decide_eq_false (by omega)]; rfl)
end Go.Proofs.YtmlccboapkkcfaaGreatDoor

/-
  The protocol: the reader of fields: Dirs.
-/
namespace Go.Proofs.YtmlccboapkkcfaaGreatDoor
open Go Go.Sh
set_option maxRecDepth 100000
set_option linter.unusedVariables false
set_option linter.unusedSimpArgs false
variable {w0 w : World} {F : Nat → Prop} {l : List As}
variable {i : Nat} {I : Ip} {b off : Nat} {cs : List Value} {T : TypeId}
theorem set_pre (A L : List Value) (k : Nat) (x : Value) : (A ++ L).set (A.length + k) x = A ++ L.set k x := by
  rw [List.set_append_right _ _ (by omega), Nat.add_sub_cancel_left]
theorem set_mid {A B : List Value} {c x : Value} {n : Nat} (h : n = A.length) : (A ++ c :: B).set n x = A ++ x :: B := by
  subst h
  have := set_pre A (c :: B) 0 x
  rwa [Nat.add_zero, List.set_cons_zero] at this
/-- Texts that are read, one behind the other. -/
def txs : Nat → Ip → List (List UInt8) × Ip
  | 0, J => ([], J)
  | j + 1, J => ((txs j J).1 ++ [((txs j J).2.sized 2).1], ((txs j J).2.sized 2).2)
theorem txs_len : ∀ (j : Nat) (J : Ip), (txs j J).1.length = j
  | 0, J => rfl
  | j + 1, J => by rw [txs, List.length_append, txs_len j J]; rfl
theorem body_txs (I : Ip) : I.body = ((⟨I.qid.1, I.qid.2.mode.1, (I.qid.2.mode.2.least (-1)).1, ((I.qid.2.mode.2.least (-1)).2.least (-1)).1,
    ((txs 4 ((I.qid.2.mode.2.least (-1)).2.least (-1)).2).1.getD 0 []), ((txs 4 ((I.qid.2.mode.2.least (-1)).2.least (-1)).2).1.getD 1 []), ((txs 4 ((I.qid.2.mode.2.least (-1)).2.least (-1)).2).1.getD 2 []), ((txs 4 ((I.qid.2.mode.2.least (-1)).2.least (-1)).2).1.getD 3 [])⟩ : Di), (txs 4 ((I.qid.2.mode.2.least (-1)).2.least (-1)).2).2) := rfl
theorem txs_four (J : Ip) : ∃ a b c d, (txs 4 J).1 = [a, b, c, d] := ⟨_, _, _, _, rfl⟩
theorem ibody_ok {pre post : List Value} {c0 c1 c2 c3 c4 c5 c6 c7 c8 c9 : Value} (ho : off = pre.length) (E : IT w0 F i I (pt b (oc (pre ++ [c0, c1, c2, c3, c4, c5, c6, c7, c8, c9] ++ post) T) :: l) w) :
    Ca PP Fn.styx_body #[.iface Ty.p_styx_input (ptr i), .pointer (some ⟨b, off, none⟩)] w fun q w' => q = .tuple #[] ∧ IT w0 F i I.body.2 (pt b (oc (pre ++ dcs I.body.1 ++ post) T) :: l) w' := by
  subst ho
  refine S.styx_body.calls ?_
  unfold S.styx_body
  obtain ⟨r, t, n, e, E, h⟩ := E
  (repeat with_reducible refine Stp.go ?_)
  refine (iqid_ok (pre := pre) (c0 := c0) (c1 := c1) (c2 := c2) (post := [c3, c4, c5, c6, c7, c8, c9] ++ post) (by simp) rfl ⟨r, t, n, e, E, h⟩).mono ?_
  clear E h
  rintro q w_ ⟨rfl, r, t, n, e, E, h⟩
  have hl1 : pre ++ qcs I.qid.1 ++ ([c3, c4, c5, c6, c7, c8, c9] ++ post) = pre ++ (qcs I.qid.1 ++ [c3, c4, c5, c6, c7, c8, c9] ++ post) := by simp
  rw [hl1] at E
  (repeat with_reducible first | refine Stp.go ?_ | (refine StpW.go E ?_; clear E; intro w_ E))
  refine (imode_ok (off := pre.length + 3) (by simp <;> omega) ⟨r, t, n, e, E, h⟩).mono ?_
  clear E h
  rintro q w_ ⟨rfl, r, t, n, e, E, h⟩
  rw [set_pre] at E
  (repeat with_reducible first | refine Stp.go ?_ | (refine StpW.go E ?_; clear E; intro w_ E))
  refine (iopt_ok (off := pre.length + 4) (by simp <;> omega) ⟨r, t, n, e, E, h⟩).mono ?_
  clear E h
  rintro q w_ ⟨rfl, r, t, n, e, E, h⟩
  rw [set_pre] at E
  (repeat with_reducible first | refine Stp.go ?_ | (refine StpW.go E ?_; clear E; intro w_ E))
  refine (iopt_ok (off := pre.length + 5) (by simp <;> omega) ⟨r, t, n, e, E, h⟩).mono ?_
  clear E h
  rintro q w_ ⟨rfl, r, t, n, e, E, h⟩
  rw [set_pre] at E
  rw [body_txs]
  generalize I.qid.2.mode.2.least (-1) = tm at E h ⊢
  generalize tm.2.least (-1) = ln at E h ⊢
  generalize I.qid.2.mode.1 = md at E h ⊢
  generalize I.qid.1 = qd at E h ⊢
  have hl2 : ((((qcs qd ++ [c3, c4, c5, c6, c7, c8, c9] ++ post).set 3 (i64 md)).set 4 (i64 tm.1)).set 5 (i64 ln.1)) = qcs qd ++ [i64 md, i64 tm.1, i64 ln.1] ++ ([c6, c7, c8, c9] ++ post) := by
    simp
  rw [hl2] at E
  clear hl1 hl2
  (repeat with_reducible first | refine Stp.go ?_ | (refine StpW.go E ?_; clear E; intro w_ E))
  refine BdS.sl (xs := [.pointer (some ⟨b, pre.length + 6, none⟩), .pointer (some ⟨b, pre.length + 7, none⟩), .pointer (some ⟨b, pre.length + 8, none⟩), .pointer (some ⟨b, pre.length + 9, none⟩)]) E u_sl_p_string n_p_string z_p_string (by omega) (by omega) (by kernel_rfl) rfl ?_
  clear E
  intro v4 w_ E
  (replace E := ((((E.bIx 0).bIx 3).bIx 3).bIx 3))
  have hps : ∀ j : Nat, j < 4 → [Value.pointer (some ⟨b, pre.length + 6, none⟩), .pointer (some ⟨b, pre.length + 7, none⟩), .pointer (some ⟨b, pre.length + 8, none⟩), .pointer (some ⟨b, pre.length + 9, none⟩)][j]? = some (.pointer (some ⟨b, pre.length + (6 + j), none⟩)) := by
    intro j hj
    match j, hj with
    | 0, _ => rfl
    | 1, _ => rfl
    | 2, _ => rfl
    | 3, _ => rfl
  generalize hps4 : [Value.pointer (some ⟨b, pre.length + 6, none⟩), .pointer (some ⟨b, pre.length + 7, none⟩), .pointer (some ⟨b, pre.length + 8, none⟩), .pointer (some ⟨b, pre.length + 9, none⟩)] = ps at E hps
  have hpl : ps.length = 4 := by rw [← hps4]; rfl
  clear hps4
  (repeat with_reducible refine StpE.go E ?_)
  rw [hpl]
  refine ⟨fun l1 w1 => ∃ j : Nat, l1 = [i64 j] ∧ j ≤ 4 ∧ IT w0 F i (txs j ln.2).2 (pt b (oc ((pre ++ (qcs qd ++ [i64 md, i64 tm.1, i64 ln.1]) ++ (txs j ln.2).1.map sb) ++ ([c6, c7, c8, c9].drop j ++ post)) T) :: slA v4 Ty.p_string 1 ps :: l) w1,
    fun l1 _ => match l1 with | [.int _ j] => 4 - j.toNat | _ => 0, ⟨0, rfl, by omega, r, t, n, e, ?_, h⟩, ?_⟩
  · have : (pre ++ (qcs qd ++ [i64 md, i64 tm.1, i64 ln.1]) ++ (txs 0 ln.2).1.map sb) ++ ([c6, c7, c8, c9].drop 0 ++ post) = pre ++ (qcs qd ++ [i64 md, i64 tm.1, i64 ln.1] ++ ([c6, c7, c8, c9] ++ post)) := by simp [txs]
    rw [this]
    exact E
  clear E h
  rintro t1 u1 w1 ⟨j, e1, hj, E⟩
  cases e1
  refine Bi.lss ?_ ?_ <;> intro hlt
  · obtain ⟨r, t, n, e, E, h⟩ := E
    have hj4 : j < 4 := by omega
    (repeat with_reducible refine Stp.go ?_)
    refine IxA.sl E (by (first | assumption | exact FPt.mem | exact FMp.mem | exact FSl.mem | (repeat (first | assumption | with_reducible exact List.mem_cons_self | refine List.mem_cons_of_mem _ ?_)))) (by omega) (by omega) (by rw [hpl]; omega) ?_
    intro q hq
    refine Ld.sl E (by (first | assumption | exact FPt.mem | exact FMp.mem | exact FSl.mem | (repeat (first | assumption | with_reducible exact List.mem_cons_self | refine List.mem_cons_of_mem _ ?_)))) hq (x := .pointer (some ⟨b, pre.length + (6 + j), none⟩)) (by rw [Int.toNat_natCast, Nat.mul_one]; exact hps j hj4) ?_
    obtain ⟨c, hc⟩ : ∃ c, [c6, c7, c8, c9][j]? = some c := ⟨_, List.getElem?_eq_getElem (by simpa using hj4)⟩
    have hd : [c6, c7, c8, c9].drop j = c :: [c6, c7, c8, c9].drop (j + 1) := by
      obtain ⟨h1, h2⟩ := List.getElem?_eq_some_iff.1 hc
      rw [List.drop_eq_getElem_cons h1, h2]
    have hd2 : [c6, c7, c8, c9].drop j ++ post = c :: ([c6, c7, c8, c9].drop (j + 1) ++ post) := by rw [hd]; rfl
    rw [hd2] at E
    have hal : (pre ++ (qcs qd ++ [i64 md, i64 tm.1, i64 ln.1]) ++ (txs j ln.2).1.map sb).length = pre.length + (6 + j) := by
      rw [List.length_append, List.length_append, List.length_map, txs_len]
      show pre.length + 6 + j = _
      omega
    (repeat with_reducible refine Stp.go ?_)
    refine (itext_ok (off := pre.length + (6 + j)) (by rw [List.length_append, hal, List.length_cons]; omega) ⟨r, t, n, e, E, h⟩).mono ?_
    clear E h
    rintro q w_ ⟨rfl, r, t, n, e, E, h⟩
    rw [set_mid hal.symm] at E
    refine Bi.add (by omega) ?_
    refine ⟨⟨j + 1, by simp, by omega, r, t, n, e, ?_, h⟩, by simp only []; omega⟩
    have : (pre ++ (qcs qd ++ [i64 md, i64 tm.1, i64 ln.1]) ++ (txs (j + 1) ln.2).1.map sb) ++ ([c6, c7, c8, c9].drop (j + 1) ++ post) = pre ++ (qcs qd ++ [i64 md, i64 tm.1, i64 ln.1]) ++ (txs j ln.2).1.map sb ++ sb ((txs j ln.2).2.sized 2).1 :: ([c6, c7, c8, c9].drop (j + 1) ++ post) := by
      rw [txs, List.map_append]
      simp only [List.append_assoc, List.map_cons, List.map_nil, List.cons_append, List.nil_append]
    rw [this]
    exact E
  · have : j = 4 := by omega
    subst this
    (repeat with_reducible refine Stp.go ?_)
    refine ⟨rfl, ?_⟩
    obtain ⟨r, t, n, e, E, h⟩ := E
    refine ⟨r, t, n, e, ?_, h⟩
    obtain ⟨x1, x2, x3, x4, hx⟩ := txs_four ln.2
    rw [hx] at E ⊢
    have : (pre ++ (qcs qd ++ [i64 md, i64 tm.1, i64 ln.1]) ++ [x1, x2, x3, x4].map sb) ++ ([c6, c7, c8, c9].drop 4 ++ post) = pre ++ dcs ⟨qd, md, tm.1, ln.1, x1, x2, x3, x4⟩ ++ post := by simp
    rw [this] at E
    exact E.drop (.cons_cons _ (.cons_cons _ (.cons_cons _ (.cons _ (List.Sublist.refl _)))))
theorem ifinish_ok (E : IT w0 F i I l w) : Ca PP Fn.styx_input_finish #[ptr i] w fun q w' => q = .tuple #[] ∧ IT w0 F i I.fin l w' := by
  obtain ⟨r, t, n, e, E, hn, ht, hr, he⟩ := E
  refine S.styx_input_finish.calls ?_
  unfold S.styx_input_finish
  (repeat with_reducible first | refine Stp.go ?_ | refine StpE.go E ?_)
  (replace E := ((E.bIx 0).bIx 1))
  refine (REnd_ok ht hn E).mono ?_
  clear E
  rintro q w_ ⟨e', rfl, he', E⟩
  (replace E := ((E.bIx 0).bIx 1))
  have hx : (I.err || !I.r.isEmpty) = decide (e' ≠ 0) := by
    rw [Bool.eq_iff_iff, decide_eq_true_eq, ne_eq, he', Bool.or_eq_true, he, hr]
    cases I.r with
    | nil => simp
    | cons a r => simp
  have h2 : I.fin = { I with err := decide (e' ≠ 0), cut := decide (e' ≠ 0) || I.cut } := by unfold Ip.fin; rw [hx]
  rw [h2]
  refine Bi.neq ?_ ?_ <;> intro c <;> (repeat with_reducible first | refine Stp.go ?_ | refine StpE.go E ?_ | (refine StpW.go E ?_; clear E; intro w_ E))
  · refine ⟨rfl, r, t, n, e', ?_, hn, ht, hr, by simp⟩
    simp only [decide_eq_true c, Bool.true_or]
    exact E
  · refine ⟨rfl, r, t, n, e', ?_, hn, ht, hr, by simp⟩
    simp only [c, ne_eq, not_true_eq_false, decide_false, Bool.false_or]
    rw [c] at E
    exact E
theorem ierr_ok (E : IT w0 F i I l w) : Ca PP Fn.styx_input_err #[ptr i] w fun q w' => q = i64 (if I.cut then 2 else if I.bad then 11 else if I.ov then 3 else 0) ∧ IT w0 F i I l w' := by
  obtain ⟨r, t, n, e, E, h⟩ := E
  refine S.styx_input_err.calls ?_
  unfold S.styx_input_err
  obtain ⟨s, er, bb, oo, cc⟩ := I
  cases cc
  · cases bb
    · cases oo
      · (repeat with_reducible first | refine Stp.go ?_ | refine StpE.go E ?_)
        exact ⟨rfl, r, t, n, e, E, h⟩
      · (repeat with_reducible first | refine Stp.go ?_ | refine StpE.go E ?_)
        exact ⟨rfl, r, t, n, e, E, h⟩
    · (repeat with_reducible first | refine Stp.go ?_ | refine StpE.go E ?_)
      exact ⟨rfl, r, t, n, e, E, h⟩
  · (repeat with_reducible first | refine Stp.go ?_ | refine StpE.go E ?_)
    exact ⟨rfl, r, t, n, e, E, h⟩
end Go.Proofs.YtmlccboapkkcfaaGreatDoor

/-
  The protocol: the reader of fields: a Dir with its length.
-/
namespace Go.Proofs.YtmlccboapkkcfaaGreatDoor
open Go Go.Sh
set_option maxRecDepth 100000
set_option linter.unusedVariables false
set_option linter.unusedSimpArgs false
variable {w0 w : World} {F : Nat → Prop} {l : List As}
variable {i : Nat} {I : Ip} {b off : Nat} {cs : List Value} {T : TypeId}
theorem raw_len (I : Ip) (n : Nat) : (I.raw n).1.length ≤ n := by
  unfold Ip.raw
  split
  · exact Nat.zero_le _
  · split
    · rename_i x hx
      obtain ⟨_, h⟩ := rdN_eq (a := x.1) (r := x.2) hx
      exact Nat.le_of_eq h
    · exact Nat.zero_le _
theorem sized_lt (I : Ip) {k : Nat} (hk : k = 2 ∨ k = 4) : (I.sized k).1.length < 4294967296 := by
  have h1 := raw_len (I.num k).2 (I.num k).1
  have h2 := num_lt I (k := k) (by omega)
  exact Nat.lt_of_le_of_lt h1 h2
theorem idir_ok {pre post : List Value} {c0 c1 c2 c3 c4 c5 c6 c7 c8 c9 : Value} (ho : off = pre.length) (E : IT w0 F i I (pt b (oc (pre ++ [c0, c1, c2, c3, c4, c5, c6, c7, c8, c9] ++ post) T) :: l) w) :
    Ca PP Fn.styx_input_dir #[ptr i, .pointer (some ⟨b, off, none⟩)] w fun q w' => q = .tuple #[] ∧ IT w0 F i I.dir.2 (pt b (oc (pre ++ dcs I.dir.1 ++ post) T) :: l) w' := by
  refine S.styx_input_dir.calls ?_
  unfold S.styx_input_dir
  refine (isized_ok (k := 2) (by omega) E).mono ?_
  clear E
  rintro q w_ ⟨rfl, r, t, n, e, E, hn, ht, hr, he⟩
  have hs := sized_lt I (k := 2) (by omega)
  have hdir : I.dir = ((i0 (I.sized 2).1).body.1, { (I.sized 2).2 with bad := (I.sized 2).2.bad || (i0 (I.sized 2).1).body.2.fin.bad, cut := (I.sized 2).2.cut || (i0 (I.sized 2).1).body.2.fin.cut, ov := (I.sized 2).2.ov || (i0 (I.sized 2).1).body.2.fin.ov || decide ((I.sized 2).1.length + 2 > 1024) }) := rfl
  rw [hdir]
  clear hdir
  generalize I.sized 2 = y at E hs hr he ⊢
  obtain ⟨s, J⟩ := y
  simp only [] at E hs hr he ⊢
  refine (NewReader_ok E).mono ?_
  clear E
  rintro q w_ ⟨r2, rfl, E⟩
  (repeat with_reducible first | refine StpE.go E ?_ | (refine StpA.go E ?_; clear E; intro b_ w_ hb_ E))
  (revert b_; intro i2 hbi2 E)
  (replace E := (((E.bIx 4).bIx 2).bIx 2))
  refine (ibody_ok (I := i0 s) (off := off) (pre := pre) ho ⟨r2, s, 0, 0, E, Nat.zero_le _, by omega, rfl, by simp [i0]⟩).mono ?_
  clear E
  rintro q w_ ⟨rfl, E⟩
  refine (ifinish_ok E).mono ?_
  clear E
  rintro q w_ ⟨rfl, E⟩
  generalize hB : (i0 s).body = B at E ⊢
  obtain ⟨d, K⟩ := B
  simp only [] at E ⊢
  obtain ⟨r3, t3, n3, e3, E, -⟩ := E
  generalize K.fin = K at E ⊢
  (replace E := ((((E.bIx 0).bIx 2).bIx 4).bIx 4))
  have fin : ∀ (bb oo cc : Bool) w_, bb = (J.bad || K.bad) → oo = (J.ov || K.ov || decide (s.length + 2 > 1024)) → cc = (J.cut || K.cut) →
      Hs w0 F w_ (pt i (oc [ptr r, .bool bb, .bool oo, .bool cc] Ty.styx_input) :: rA r t n e :: pt b (oc (pre ++ dcs d ++ post) T) :: pt i2 (oc [ptr r3, .bool K.bad, .bool K.ov, .bool K.cut] Ty.styx_input) :: rA r3 t3 n3 e3 :: l) →
      IT w0 F i { J with bad := J.bad || K.bad, cut := J.cut || K.cut, ov := J.ov || K.ov || decide (s.length + 2 > 1024) } (pt b (oc (pre ++ dcs d ++ post) T) :: l) w_ := by
    intro bb oo cc w_ h1 h2 h3 E
    refine ⟨r, t, n, e, ?_, hn, ht, hr, he⟩
    simp only [← h1, ← h2, ← h3]
    exact E.drop (.cons_cons _ (.cons_cons _ (.cons_cons _ (.cons _ (.cons _ (List.Sublist.refl _))))))
  clear hn ht hr he hB
  obtain ⟨jr, je, jb, jo, jc⟩ := J
  obtain ⟨kr, ke, kb, ko, kc⟩ := K
  simp only [] at E fin ⊢
  cases jb <;> cases jc <;> cases jo <;> cases ko
  all_goals (repeat with_reducible first | refine Stp.go ?_ | refine StpE.go E ?_ | (refine StpW.go E ?_; clear E; intro w_ E))
  all_goals first
    | exact ⟨by first | trivial | rfl, fin _ _ _ _ rfl rfl rfl E⟩
    | (rw [mkB_size]
       refine Bi.add (by omega) ?_
       (repeat with_reducible refine Stp.go ?_)
       refine Bi.gtr ?_ ?_ <;> intro c <;> (repeat with_reducible first | refine Stp.go ?_ | (refine StpW.go E ?_; clear E; intro w_ E))
       · exact ⟨by first | trivial | rfl, fin _ _ _ _ rfl (by rw [decide_eq_true (show s.length + 2 > 1024 by omega)]; rfl) rfl E⟩
       · exact ⟨by first | trivial | rfl, fin _ _ _ _ rfl (by rw [decide_eq_false (show ¬ s.length + 2 > 1024 by omega)]; rfl) rfl E⟩)
end Go.Proofs.YtmlccboapkkcfaaGreatDoor
