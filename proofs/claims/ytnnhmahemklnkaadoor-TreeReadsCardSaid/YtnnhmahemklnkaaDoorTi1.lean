/-
  Trees, plain: what always holds of a tree holds behind every operation.
-/
import Derived.Test.YtnnhmahemklnkaaDoorTp2
namespace Go.Proofs.YtnnhmahemklnkaaDoor
open Go Go.Sh
set_option maxRecDepth 100000
set_option linter.unusedVariables false
set_option linter.unusedSimpArgs false
variable {T : Tr}

theorem Inv.tick (h : Inv T) : Inv T.tick :=
  ⟨h.sorted, h.root, h.bound, h.rootD, h.up, h.names, h.good, h.rank, h.data, h.form, h.hsorted, h.hpos, h.hfile, h.hclose, h.few, by have := h.clock; show 0 ≤ T.clock + 1; omega, h.rootN⟩
theorem Inv.touch (h : Inv T) (user : BA) (p : Int) : Inv (T.upd p (touchN T.clock user)) :=
  h.upd T.clock h.clock (fun _ _ _ => ⟨rfl, rfl, rfl, rfl⟩) (fun n hn _ => h.data n hn) fun n hn _ => by
    have := h.form n hn
    exact ⟨this.1, this.2.1, this.2.2.1, by show 0 ≤ n.vers + 1; omega, h.clock⟩
theorem Inv.change (h : Inv T) (user : BA) (ps : List Int) : Inv (T.change user ps) := by
  have key : ∀ (ps : List Int) (T : Tr), Inv T → Inv (ps.foldl (fun T p => T.upd p (touchN T.clock user)) T) := by
    intro ps
    induction ps with
    | nil => intro T h; exact h
    | cons p ps ih => intro T h; exact ih _ (h.touch user p)
  exact key ps _ h.tick
theorem change_keeps (T : Tr) (user : BA) (ps : List Int) : (T.change user ps).next = T.next ∧ (T.change user ps).hs = T.hs ∧ (T.change user ps).gs = T.gs ∧ (T.change user ps).clock = T.clock + 1 ∧ (T.change user ps).ns.length = T.ns.length := by
  have key : ∀ (ps : List Int) (T : Tr), let T' := ps.foldl (fun T p => T.upd p (touchN T.clock user)) T; T'.next = T.next ∧ T'.hs = T.hs ∧ T'.gs = T.gs ∧ T'.clock = T.clock ∧ T'.ns.length = T.ns.length := by
    intro ps
    induction ps with
    | nil => intro T; exact ⟨rfl, rfl, rfl, rfl, rfl⟩
    | cons p ps ih =>
      intro T
      obtain ⟨h1, h2, h3, h4, h5⟩ := ih (T.upd p (touchN T.clock user))
      refine ⟨h1, h2, h3, h4, ?_⟩
      rw [List.foldl_cons]
      rw [h5]
      show (updN T.ns p _).length = _
      unfold updN; simp
  exact key ps T.tick
theorem updN_mem {ns : List Nd} {p : Int} {f : Nd → Nd} {m : Nd} (h : m ∈ updN ns p f) : ∃ n ∈ ns, m = if n.path = p then f n else n := by
  obtain ⟨n, hn, rfl⟩ := List.mem_map.1 h
  exact ⟨n, hn, rfl⟩
theorem Inv.hsN (h : Inv T) : (T.hs.map (·.1)).Nodup := by
  rw [List.Nodup, List.pairwise_map]
  exact h.hsorted.imp fun {a b} hab => by omega
theorem Inv.openedM (h : Inv T) {hd : Int} {x : Hd} (hx : T.opened hd = some x) : (hd, x) ∈ T.hs := (getL_some h.hsN).1 hx

theorem write_inv (h : Inv T) (hd off : Int) (d : BA) : Inv (T.write hd off d).1 := by
  unfold Tr.write
  split
  · exact h
  rename_i x hx
  split
  · exact h
  rename_i hm
  split
  · exact h
  rename_i n hg
  obtain ⟨hn, hp⟩ := h.get.1 hg
  split
  · exact h
  split
  · exact h
  rename_i hoff hde
  simp only []
  generalize (if andI n.mode 1073741824 ≠ 0 then (n.data.size : Int) else off) = at_
  split
  · exact h
  rename_i hsz
  have hmode : x.mode ≠ 0 := fun e => hm (by rw [e]; decide)
  have hm := h.openedM hx
  show Inv ((T.change x.user [x.file]).upd x.file _)
  rw [change_one]
  unfold Tr.upd
  simp only []
  rw [updN_updN (f1 := touchN (T.clock + 1) x.user) fun _ => rfl]
  have hc := h.clock
  refine h.upd (T.clock + 1) (by omega) (fun _ _ _ => ⟨rfl, rfl, rfl, rfl⟩) (fun m hmm he => ?_) fun m hmm _ => ?_
  · have hdir := h.hclose _ hm hmode m hmm he
    refine ⟨fun hc => ?_, ?_⟩
    · have hc : m.dir = true := hc
      rw [hdir] at hc; cases hc
    · show (overW m.data _ d).size ≤ 1048576
      rw [over_size]
      have h1 := (h.data m hmm).2
      have h2 : m = n := h.inj hmm hn (by rw [he, hp])
      rw [h2] at h1 ⊢
      omega
  · have := h.form m hmm
    exact ⟨this.1, this.2.1, this.2.2.1, by show 0 ≤ m.vers + 1; omega, by show 0 ≤ T.clock + 1; omega⟩

theorem open_inv (h : Inv T) (user : BA) (file mode : Int) : Inv (T.openF user file mode).1 := by
  unfold Tr.openF
  split
  · exact h
  split
  · exact h
  rename_i n hg
  obtain ⟨hn, hp⟩ := h.get.1 hg
  split
  · exact h
  rename_i hdm
  split
  · exact h
  split
  · exact h
  split
  · exact h
  rename_i hlen
  simp only []
  have hc := h.clock
  have hfile : 0 ≤ file ∧ file < T.next := by have := h.bound n hn; rw [hp] at this; exact this
  have hdir : mode ≠ 0 → ∀ m ∈ T.ns, m.path = file → m.dir = false := fun hm m hmm he => by
    have h2 : m = n := h.inj hmm hn (by rw [he, hp])
    rw [h2]
    cases hd : n.dir with
    | false => rfl
    | true => exact absurd ⟨hd, hm⟩ hdm
  split
  · rw [change_one]
    unfold Tr.upd
    simp only []
    rw [updN_updN (f1 := touchN (T.clock + 1) user) fun _ => rfl]
    have hu := h.upd (p := file) (g := fun n => { touchN (T.clock + 1) user n with data := emp }) (T.clock + 1) (by omega) (fun _ _ _ => ⟨rfl, rfl, rfl, rfl⟩) (fun m hmm he => ⟨fun _ => rfl, Nat.zero_le _⟩) fun m hmm _ => by
      have := h.form m hmm
      exact ⟨this.1, this.2.1, this.2.2.1, by show 0 ≤ m.vers + 1; omega, by show 0 ≤ T.clock + 1; omega⟩
    refine Inv.hold hu (x := ⟨file, mode, user⟩) (Classical.not_not.1 hlen) hfile fun hm m hmm he => ?_
    obtain ⟨q, hq, rfl⟩ := updN_mem hmm
    split at he <;> rename_i hqf
    · rw [if_pos hqf]
      exact hdir hm q hq hqf
    · exact absurd he hqf
  · exact Inv.hold h (Classical.not_not.1 hlen) hfile hdir

theorem create_inv (h : Inv T) (user : BA) (dir : Int) (name : BA) (perm mode : Int) : Inv (T.create user dir name perm mode).1 := by
  unfold Tr.create
  split
  · exact h
  rename_i c7
  split
  · exact h
  rename_i u hg
  obtain ⟨hu, hp⟩ := h.get.1 hg
  split
  · exact h
  rename_i hdir
  split
  · exact h
  rename_i c22
  split
  · exact h
  split
  · exact h
  rename_i hkid
  split
  · exact h
  rename_i hfew
  simp only []
  obtain ⟨k1, k2, k3, k4, k5⟩ := change_keeps T user [dir]
  have hi1 := h.change user [dir]
  have hc := h.clock
  have hshape : ∀ m ∈ (T.change user [dir]).ns, ∃ q ∈ T.ns, m.path = q.path ∧ m.up = q.up ∧ m.name = q.name ∧ m.dir = q.dir := by
    intro m hm
    rw [change_one] at hm
    obtain ⟨q, hq, rfl⟩ := updN_mem hm
    refine ⟨q, hq, ?_⟩
    split <;> exact ⟨rfl, rfl, rfl, rfl⟩
  have hgood : goodName name = true ∧ goodName user = true := by
    constructor
    · cases hx : goodName name with
      | true => rfl
      | false => exact absurd (.inl hx) c22
    · cases hx : goodName user with
      | true => rfl
      | false => exact absurd (.inr hx) c22
  have hr : rightM perm = true := by
    cases hx : rightM perm with
    | true => rfl
    | false => exact absurd (.inr (.inl hx)) c7
  have hf := h.form u hu
  have hi2 := hi1.newN (n := ⟨T.next, 0, Tr.modeN perm u.mode, (T.change user [dir]).clock, dir, name, user, u.group, user, emp⟩) (by rw [k1]) ⟨if u.path = dir then touchN (T.clock + 1) user u else u, by
      rw [change_one]
      exact List.mem_map.2 ⟨u, hu, rfl⟩, by rw [if_pos hp]; exact hp, by rw [if_pos hp]; show u.dir = true; cases hx : u.dir with
      | true => rfl
      | false => exact absurd hx hdir⟩ (by
      intro m hm h0 h1 h2
      obtain ⟨q, hq, e1, e2, e3, e4⟩ := hshape m hm
      have : T.kid dir name = some q := (kid_some h).2 ⟨hq, by rw [← e1]; exact h0, e2.symm.trans h1, e3.symm.trans h2⟩
      exact hkid (by rw [this]; rfl)) hgood.1 rfl ⟨hgood.2, hf.2.1, modeN_right _ hr, Int.le_refl _, by rw [k4]; show 0 ≤ T.clock + 1; omega⟩ (by rw [k5]; omega)
  rw [k1] at hi2
  refine hi2.hold (by show (T.change user [dir]).hs.length < 64; rw [k2]; omega) (by
    obtain ⟨r0, hr0, hr1⟩ := h.root
    have := h.bound r0 hr0
    exact ⟨by show 0 ≤ T.next; omega, by show T.next < T.next + 1; omega⟩) fun hm m hmm he => ?_
  have hmm : m ∈ (T.change user [dir]).ns ++ [_] := hmm
  rcases List.mem_append.1 hmm with hmm | hmm
  · have := hi1.bound m hmm
    rw [k1] at this
    have he : m.path = T.next := he
    omega
  · rw [List.mem_singleton.1 hmm]
    show isD (Tr.modeN perm u.mode) = false
    rw [modeN_isD]
    cases hx : isD perm with
    | false => rfl
    | true => exact absurd (.inr (.inr ⟨by simpa [isD] using hx, hm⟩)) c7

/-- A file that has no files below it goes. -/
theorem Inv.filter (h : Inv T) {n : Nd} (h0 : n.path ≠ 0) (hk : ∀ m ∈ T.ns, m.path ≠ 0 → m.up ≠ n.path) : Inv { T with ns := T.ns.filter fun x => decide (x.path ≠ n.path) } := by
  have sub : ∀ m ∈ T.ns.filter (fun x => decide (x.path ≠ n.path)), m ∈ T.ns := fun m hm => (List.mem_filter.1 hm).1
  have back : ∀ m ∈ T.ns, m.path ≠ n.path → m ∈ T.ns.filter (fun x => decide (x.path ≠ n.path)) := fun m hm hne => List.mem_filter.2 ⟨hm, by simpa using hne⟩
  obtain ⟨r0, hr0, hr1⟩ := h.root
  refine ⟨h.sorted.filter _, ⟨r0, back r0 hr0 (by rw [hr1]; exact fun e => h0 e.symm), hr1⟩, fun m hm => h.bound m (sub m hm), fun m hm => h.rootD m (sub m hm), fun m hm hm0 => ?_, fun a ha b hb => h.names a (sub a ha) b (sub b hb),
    fun m hm => h.good m (sub m hm), ?_, fun m hm => h.data m (sub m hm), fun m hm => h.form m (sub m hm), h.hsorted, h.hpos, h.hfile, fun x hx h1 m hm => h.hclose x hx h1 m (sub m hm), ⟨Nat.le_trans (List.length_filter_le _ _) h.few.1, h.few.2⟩, h.clock, fun m hm => h.rootN m (sub m hm)⟩
  · obtain ⟨u, hu, h1, h2⟩ := h.up m (sub m hm) hm0
    exact ⟨u, back u hu (by rw [h1]; exact hk m (sub m hm) hm0), h1, h2⟩
  · obtain ⟨rk, hrk⟩ := h.rank
    exact ⟨rk, fun m hm => hrk m (sub m hm)⟩
theorem drop_inv (h : Inv T) {n : Nd} (h0 : n.path ≠ 0) (hk : ∀ m ∈ T.ns, m.path ≠ 0 → m.up ≠ n.path) (user : BA) : Inv (T.drop user n) := (h.filter h0 hk).change user _
theorem delL_sub {κ β : Type} [DecidableEq κ] (k : κ) : ∀ L : List (κ × β), (delL L k).Sublist L
  | [] => List.Sublist.refl _
  | p :: r => by
    unfold delL
    split
    · exact List.sublist_cons_self _ _
    · exact (delL_sub k r).cons_cons _
theorem Inv.hdel (h : Inv T) (k : Int) : Inv { T with hs := delL T.hs k } := by
  have hs := delL_sub k T.hs
  exact ⟨h.sorted, h.root, h.bound, h.rootD, h.up, h.names, h.good, h.rank, h.data, h.form, h.hsorted.sublist hs, fun x hx => h.hpos x (hs.subset hx), fun x hx => h.hfile x (hs.subset hx), fun x hx => h.hclose x (hs.subset hx), ⟨h.few.1, Nat.le_trans hs.length_le h.few.2⟩, h.clock, h.rootN⟩
/-- A file that is no directory has no files below it. -/
theorem Inv.leaf (h : Inv T) {n : Nd} (hn : n ∈ T.ns) (hd : n.dir = false) : n.path ≠ 0 ∧ ∀ m ∈ T.ns, m.path ≠ 0 → m.up ≠ n.path := by
  refine ⟨fun h0 => ?_, fun m hm h0 he => ?_⟩
  · have := (h.rootD n hn h0).1
    rw [hd] at this; cases this
  · obtain ⟨u, hu, h1, h2⟩ := h.up m hm h0
    have : u = n := h.inj hu hn (by rw [h1, he])
    rw [this, hd] at h2; cases h2
theorem close_inv (h : Inv T) (hd : Int) : Inv (T.close hd).1 := by
  unfold Tr.close
  split
  · exact h
  rename_i x hx
  simp only []
  split
  · rename_i n hg
    obtain ⟨hn, hp⟩ := h.get.1 hg
    split
    · rename_i h64
      have hmode : x.mode ≠ 0 := fun e => h64 (by rw [e]; decide)
      obtain ⟨h0, hk⟩ := h.leaf hn (h.hclose _ (h.openedM hx) hmode n hn hp)
      exact drop_inv (h.hdel hd) h0 hk _
    · exact h.hdel hd
  · exact h.hdel hd
theorem remove_inv (h : Inv T) (user : BA) (file : Int) : Inv (T.remove user file).1 := by
  unfold Tr.remove
  split
  · exact h
  rename_i n hg
  obtain ⟨hn, hp⟩ := h.get.1 hg
  split
  · exact h
  rename_i h0
  split
  · exact h
  split
  · exact h
  rename_i hk
  refine drop_inv h h0 (fun m hm hm0 he => hk ?_) _
  refine List.length_pos_of_mem (a := m) (List.mem_filter.2 ⟨hm, ?_⟩)
  unfold Tr.isKid
  exact decide_eq_true ⟨hm0, by rw [he, hp]⟩
end Go.Proofs.YtnnhmahemklnkaaDoor
