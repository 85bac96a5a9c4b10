/-
  Trees, plain: a path that is read byte by byte has the elements of its parts; what is split is valid.
-/
import Derived.Test.YtnnhmahemklnkaaGreatDoorTp1
import Derived.Test.YtnnhmahemklnkaaGreatDoorSh18
import Derived.Test.YtnnhmahemklnkaaGreatDoorSh20
namespace Go.Proofs.YtnnhmahemklnkaaGreatDoor
open Go Go.Sh
set_option maxRecDepth 100000
set_option linter.unusedVariables false
set_option linter.unusedSimpArgs false

/-- The parts of what is left, behind a word that has begun. -/
def preB (w r : List UInt8) : List (List UInt8) := match splitB r with
  | [] => [w]
  | p :: ps => (w ++ p) :: ps
theorem preB_end (w : List UInt8) : preB w [] = [w] := by simp [preB, splitB]
theorem preB_ne {w r : List UInt8} {x : UInt8} (h : x ≠ 47) : preB w (x :: r) = preB (w ++ [x]) r := by
  unfold preB
  rw [splitB, if_neg h]
  cases hq : splitB r with
  | nil => exact absurd hq (splitB_ne r)
  | cons p ps => simp
theorem preB_eq (w r : List UInt8) : preB w (47 :: r) = w :: preB [] r := by
  unfold preB
  rw [splitB, if_pos rfl]
  cases hq : splitB r with
  | nil => exact absurd hq (splitB_ne r)
  | cons p ps => simp
theorem preB_start (r : List UInt8) : preB [] r = splitB r := by
  unfold preB
  cases hq : splitB r with
  | nil => exact absurd hq (splitB_ne r)
  | cons p ps => simp

/-- An element that no file can have. -/
def badE (x : BA) : Bool := decide (x ≠ dot2) && !goodName x
def splitP (s : BA) : List BA × Int :=
  if 1024 < s.size then ([], 3) else if (elemsC s).any badE then ([], 8) else (elemsC s, 0)
/-- The elements one by one, as 'Split' takes them. -/
def walkE : List BA → List BA → Option (List BA)
  | out, [] => some out
  | out, p :: ps => if p = emp ∨ p = dot1 then walkE out ps else if badE p = true then none else walkE (out ++ [p]) ps
theorem walkE_okl : ∀ {ps out : List BA}, (∀ x ∈ ps, x ≠ emp ∧ x ≠ dot1) → walkE out ps = if ps.any badE then none else some (out ++ ps)
  | [], out, _ => by simp [walkE]
  | p :: ps, out, h => by
    obtain ⟨h1, h2⟩ := h p List.mem_cons_self
    rw [walkE, if_neg (by rintro (e | e); exact h1 e; exact h2 e), walkE_okl (ps := ps) fun x hx => h x (List.mem_cons_of_mem _ hx)]
    cases hb : badE p <;> simp [hb]
def trimS (s : BA) : BA := ⟨(Lib.trimPrefix s.data.toList sep.data.toList).toArray⟩
theorem trim_clean (s : BA) : trimS (cleanS s) = if absP s = true then joinS (elemsC s) else if joinS (elemsC s) = emp then dot1 else joinS (elemsC s) := by
  have h := elems_okl s
  unfold cleanS
  by_cases ha : absP s = true
  · rw [if_pos ha, if_pos ha]
    unfold trimS Lib.trimPrefix
    rw [if_pos (show Lib.hasPrefix (sep ++ joinS (elemsC s)).data.toList sep.data.toList = true from absP_sep _)]
    refine ba_ext ?_
    have : (sep ++ joinS (elemsC s)).data.toList = 47 :: (joinS (elemsC s)).data.toList := by simp
    rw [this]
    simp
  · rw [if_neg ha, if_neg ha]
    by_cases h0 : joinS (elemsC s) = emp
    · rw [if_pos h0]; rfl
    · rw [if_neg h0]
      have hj := absP_join h
      unfold absP at hj
      unfold trimS Lib.trimPrefix
      rw [if_neg (by rw [hj]; simp)]
theorem walkE_clean (s : BA) : walkE [] (splitS (trimS (cleanS s))) = if (elemsC s).any badE then none else some (elemsC s) := by
  have h := elems_okl s
  rw [trim_clean]
  have key : walkE [] (splitS (joinS (elemsC s))) = if (elemsC s).any badE then none else some (elemsC s) := by
    by_cases h0 : elemsC s = []
    · rw [h0]; rfl
    · rw [splitS_join h0 fun x hx => (h.one x hx).2.2]
      rw [walkE_okl fun x hx => ⟨(h.one x hx).1, (h.one x hx).2.1⟩, List.nil_append]
  by_cases ha : absP s = true
  · rw [if_pos ha]; exact key
  · rw [if_neg ha]
    by_cases h0 : joinS (elemsC s) = emp
    · rw [if_pos h0, (joinS_emp h).1 h0]; rfl
    · rw [if_neg h0]; exact key
/-- How far 'Split' is. -/
theorem walkE_step {out ps : List BA} {p : BA} : walkE out (p :: ps) = if p = emp ∨ p = dot1 then walkE out ps else if badE p = true then none else walkE (out ++ [p]) ps := rfl
theorem walkE_len : ∀ {ps out r : List BA}, walkE out ps = some r → r.length ≤ out.length + ps.length
  | [], out, r, h => by
    cases h; simp
  | p :: ps, out, r, h => by
    rw [walkE] at h
    split at h
    · have := walkE_len h; simp only [List.length_cons]; omega
    split at h
    · cases h
    · have := walkE_len h; simp only [List.length_cons, List.length_append, List.length_nil] at this ⊢; omega
end Go.Proofs.YtnnhmahemklnkaaGreatDoor

/-
  Trees, plain: what always holds of a tree holds behind every operation.
-/
namespace Go.Proofs.YtnnhmahemklnkaaGreatDoor
open Go Go.Sh
set_option maxRecDepth 100000
set_option linter.unusedVariables false
set_option linter.unusedSimpArgs false
variable {T : Tr}

theorem Inv.tick (h : Inv T) : Inv T.tick :=
  ⟨h.sorted, h.root, h.bound, h.rootD, h.up, h.names, h.good, h.rank, h.data, h.form, h.hsorted, h.hpos, h.hfile, h.hclose, h.few, by have := h.clock; show 0 ≤ T.clock + 1; omega, h.rootN⟩
theorem Inv.touch (h : Inv T) (user : BA) (p : Int) : Inv (T.upd p (touchN T.clock user)) :=
  h.upd T.clock h.clock (fun _ _ _ => ⟨rfl, rfl, rfl, rfl⟩) (fun n hn _ => h.data n hn) fun n hn _ => by
    have := h.form n hn
    exact ⟨this.1, this.2.1, this.2.2.1, by show 0 ≤ n.vers + 1; omega, h.clock⟩
theorem Inv.change (h : Inv T) (user : BA) (ps : List Int) : Inv (T.change user ps) := by
  have key : ∀ (ps : List Int) (T : Tr), Inv T → Inv (ps.foldl (fun T p => T.upd p (touchN T.clock user)) T) := by
    intro ps
    induction ps with
    | nil => intro T h; exact h
    | cons p ps ih => intro T h; exact ih _ (h.touch user p)
  exact key ps _ h.tick
theorem change_keeps (T : Tr) (user : BA) (ps : List Int) : (T.change user ps).next = T.next ∧ (T.change user ps).hs = T.hs ∧ (T.change user ps).gs = T.gs ∧ (T.change user ps).clock = T.clock + 1 ∧ (T.change user ps).ns.length = T.ns.length := by
  have key : ∀ (ps : List Int) (T : Tr), let T' := ps.foldl (fun T p => T.upd p (touchN T.clock user)) T; T'.next = T.next ∧ T'.hs = T.hs ∧ T'.gs = T.gs ∧ T'.clock = T.clock ∧ T'.ns.length = T.ns.length := by
    intro ps
    induction ps with
    | nil => intro T; exact ⟨rfl, rfl, rfl, rfl, rfl⟩
    | cons p ps ih =>
      intro T
      obtain ⟨h1, h2, h3, h4, h5⟩ := ih (T.upd p (touchN T.clock user))
      refine ⟨h1, h2, h3, h4, ?_⟩
      rw [List.foldl_cons]
      rw [h5]
      show (updN T.ns p _).length = _
      unfold updN; simp
  exact key ps T.tick
theorem updN_mem {ns : List Nd} {p : Int} {f : Nd → Nd} {m : Nd} (h : m ∈ updN ns p f) : ∃ n ∈ ns, m = if n.path = p then f n else n := by
  obtain ⟨n, hn, rfl⟩ := List.mem_map.1 h
  exact ⟨n, hn, rfl⟩
theorem Inv.hsN (h : Inv T) : (T.hs.map (·.1)).Nodup := by
  rw [List.Nodup, List.pairwise_map]
  exact h.hsorted.imp fun {a b} hab => by omega
theorem Inv.openedM (h : Inv T) {hd : Int} {x : Hd} (hx : T.opened hd = some x) : (hd, x) ∈ T.hs := (getL_some h.hsN).1 hx

theorem write_inv (h : Inv T) (hd off : Int) (d : BA) : Inv (T.write hd off d).1 := by
  unfold Tr.write
  split
  · exact h
  rename_i x hx
  split
  · exact h
  rename_i hm
  split
  · exact h
  rename_i n hg
  obtain ⟨hn, hp⟩ := h.get.1 hg
  split
  · exact h
  split
  · exact h
  rename_i hoff hde
  simp only []
  generalize (if andI n.mode 1073741824 ≠ 0 then (n.data.size : Int) else off) = at_
  split
  · exact h
  rename_i hsz
  have hmode : x.mode ≠ 0 := fun e => hm (by rw [e]; decide)
  have hm := h.openedM hx
  show Inv ((T.change x.user [x.file]).upd x.file _)
  rw [change_one]
  unfold Tr.upd
  simp only []
  rw [updN_updN (f1 := touchN (T.clock + 1) x.user) fun _ => rfl]
  have hc := h.clock
  refine h.upd (T.clock + 1) (by omega) (fun _ _ _ => ⟨rfl, rfl, rfl, rfl⟩) (fun m hmm he => ?_) fun m hmm _ => ?_
  · have hdir := h.hclose _ hm hmode m hmm he
    refine ⟨fun hc => ?_, ?_⟩
    · have hc : m.dir = true := hc
      rw [hdir] at hc; cases hc
    · show (overW m.data _ d).size ≤ 1048576
      rw [over_size]
      have h1 := (h.data m hmm).2
      have h2 : m = n := h.inj hmm hn (by rw [he, hp])
      rw [h2] at h1 ⊢
      omega
  · have := h.form m hmm
    exact ⟨this.1, this.2.1, this.2.2.1, by show 0 ≤ m.vers + 1; omega, by show 0 ≤ T.clock + 1; omega⟩

theorem open_inv (h : Inv T) (user : BA) (file mode : Int) : Inv (T.openF user file mode).1 := by
  unfold Tr.openF
  split
  · exact h
  split
  · exact h
  rename_i n hg
  obtain ⟨hn, hp⟩ := h.get.1 hg
  split
  · exact h
  rename_i hdm
  split
  · exact h
  split
  · exact h
  split
  · exact h
  rename_i hlen
  simp only []
  have hc := h.clock
  have hfile : 0 ≤ file ∧ file < T.next := by have := h.bound n hn; rw [hp] at this; exact this
  have hdir : mode ≠ 0 → ∀ m ∈ T.ns, m.path = file → m.dir = false := fun hm m hmm he => by
    have h2 : m = n := h.inj hmm hn (by rw [he, hp])
    rw [h2]
    cases hd : n.dir with
    | false => rfl
    | true => exact absurd ⟨hd, hm⟩ hdm
  split
  · rw [change_one]
    unfold Tr.upd
    simp only []
    rw [updN_updN (f1 := touchN (T.clock + 1) user) fun _ => rfl]
    have hu := h.upd (p := file) (g := fun n => { touchN (T.clock + 1) user n with data := emp }) (T.clock + 1) (by omega) (fun _ _ _ => ⟨rfl, rfl, rfl, rfl⟩) (fun m hmm he => ⟨fun _ => rfl, Nat.zero_le _⟩) fun m hmm _ => by
      have := h.form m hmm
      exact ⟨this.1, this.2.1, this.2.2.1, by show 0 ≤ m.vers + 1; omega, by show 0 ≤ T.clock + 1; omega⟩
    refine Inv.hold hu (x := ⟨file, mode, user⟩) (Classical.not_not.1 hlen) hfile fun hm m hmm he => ?_
    obtain ⟨q, hq, rfl⟩ := updN_mem hmm
    split at he <;> rename_i hqf
    · rw [if_pos hqf]
      exact hdir hm q hq hqf
    · exact absurd he hqf
  · exact Inv.hold h (Classical.not_not.1 hlen) hfile hdir

theorem create_inv (h : Inv T) (user : BA) (dir : Int) (name : BA) (perm mode : Int) : Inv (T.create user dir name perm mode).1 := by
  unfold Tr.create
  split
  · exact h
  rename_i c7
  split
  · exact h
  rename_i u hg
  obtain ⟨hu, hp⟩ := h.get.1 hg
  split
  · exact h
  rename_i hdir
  split
  · exact h
  rename_i c22
  split
  · exact h
  split
  · exact h
  rename_i hkid
  split
  · exact h
  rename_i hfew
  simp only []
  obtain ⟨k1, k2, k3, k4, k5⟩ := change_keeps T user [dir]
  have hi1 := h.change user [dir]
  have hc := h.clock
  have hshape : ∀ m ∈ (T.change user [dir]).ns, ∃ q ∈ T.ns, m.path = q.path ∧ m.up = q.up ∧ m.name = q.name ∧ m.dir = q.dir := by
    intro m hm
    rw [change_one] at hm
    obtain ⟨q, hq, rfl⟩ := updN_mem hm
    refine ⟨q, hq, ?_⟩
    split <;> exact ⟨rfl, rfl, rfl, rfl⟩
  have hgood : goodName name = true ∧ goodName user = true := by
    constructor
    · cases hx : goodName name with
      | true => rfl
      | false => exact absurd (.inl hx) c22
    · cases hx : goodName user with
      | true => rfl
      | false => exact absurd (.inr hx) c22
  have hr : rightM perm = true := by
    cases hx : rightM perm with
    | true => rfl
    | false => exact absurd (.inr (.inl hx)) c7
  have hf := h.form u hu
  have hi2 := hi1.newN (n := ⟨T.next, 0, Tr.modeN perm u.mode, (T.change user [dir]).clock, dir, name, user, u.group, user, emp⟩) (by rw [k1]) ⟨if u.path = dir then touchN (T.clock + 1) user u else u, by
      rw [change_one]
      exact List.mem_map.2 ⟨u, hu, rfl⟩, by rw [if_pos hp]; exact hp, by rw [if_pos hp]; show u.dir = true; cases hx : u.dir with
      | true => rfl
      | false => exact absurd hx hdir⟩ (by
      intro m hm h0 h1 h2
      obtain ⟨q, hq, e1, e2, e3, e4⟩ := hshape m hm
      have : T.kid dir name = some q := (kid_some h).2 ⟨hq, by rw [← e1]; exact h0, e2.symm.trans h1, e3.symm.trans h2⟩
      exact hkid (by rw [this]; rfl)) hgood.1 rfl ⟨hgood.2, hf.2.1, modeN_right _ hr, Int.le_refl _, by rw [k4]; show 0 ≤ T.clock + 1; omega⟩ (by rw [k5]; omega)
  rw [k1] at hi2
  refine hi2.hold (by show (T.change user [dir]).hs.length < 64; rw [k2]; omega) (by
    obtain ⟨r0, hr0, hr1⟩ := h.root
    have := h.bound r0 hr0
    exact ⟨by show 0 ≤ T.next; omega, by show T.next < T.next + 1; omega⟩) fun hm m hmm he => ?_
  have hmm : m ∈ (T.change user [dir]).ns ++ [_] := hmm
  rcases List.mem_append.1 hmm with hmm | hmm
  · have := hi1.bound m hmm
    rw [k1] at this
    have he : m.path = T.next := he
    omega
  · rw [List.mem_singleton.1 hmm]
    show isD (Tr.modeN perm u.mode) = false
    rw [modeN_isD]
    cases hx : isD perm with
    | false => rfl
    | true => exact absurd (.inr (.inr ⟨by simpa [isD] using hx, hm⟩)) c7

/-- A file that has no files below it goes. -/
theorem Inv.filter (h : Inv T) {n : Nd} (h0 : n.path ≠ 0) (hk : ∀ m ∈ T.ns, m.path ≠ 0 → m.up ≠ n.path) : Inv { T with ns := T.ns.filter fun x => decide (x.path ≠ n.path) } := by
  have sub : ∀ m ∈ T.ns.filter (fun x => decide (x.path ≠ n.path)), m ∈ T.ns := fun m hm => (List.mem_filter.1 hm).1
  have back : ∀ m ∈ T.ns, m.path ≠ n.path → m ∈ T.ns.filter (fun x => decide (x.path ≠ n.path)) := fun m hm hne => List.mem_filter.2 ⟨hm, by simpa using hne⟩
  obtain ⟨r0, hr0, hr1⟩ := h.root
  refine ⟨h.sorted.filter _, ⟨r0, back r0 hr0 (by rw [hr1]; exact fun e => h0 e.symm), hr1⟩, fun m hm => h.bound m (sub m hm), fun m hm => h.rootD m (sub m hm), fun m hm hm0 => ?_, fun a ha b hb => h.names a (sub a ha) b (sub b hb),
    fun m hm => h.good m (sub m hm), ?_, fun m hm => h.data m (sub m hm), fun m hm => h.form m (sub m hm), h.hsorted, h.hpos, h.hfile, fun x hx h1 m hm => h.hclose x hx h1 m (sub m hm), ⟨Nat.le_trans (List.length_filter_le _ _) h.few.1, h.few.2⟩, h.clock, fun m hm => h.rootN m (sub m hm)⟩
  · obtain ⟨u, hu, h1, h2⟩ := h.up m (sub m hm) hm0
    exact ⟨u, back u hu (by rw [h1]; exact hk m (sub m hm) hm0), h1, h2⟩
  · obtain ⟨rk, hrk⟩ := h.rank
    exact ⟨rk, fun m hm => hrk m (sub m hm)⟩
theorem drop_inv (h : Inv T) {n : Nd} (h0 : n.path ≠ 0) (hk : ∀ m ∈ T.ns, m.path ≠ 0 → m.up ≠ n.path) (user : BA) : Inv (T.drop user n) := (h.filter h0 hk).change user _
theorem delL_sub {κ β : Type} [DecidableEq κ] (k : κ) : ∀ L : List (κ × β), (delL L k).Sublist L
  | [] => List.Sublist.refl _
  | p :: r => by
    unfold delL
    split
    · exact List.sublist_cons_self _ _
    · exact (delL_sub k r).cons_cons _
theorem Inv.hdel (h : Inv T) (k : Int) : Inv { T with hs := delL T.hs k } := by
  have hs := delL_sub k T.hs
  exact ⟨h.sorted, h.root, h.bound, h.rootD, h.up, h.names, h.good, h.rank, h.data, h.form, h.hsorted.sublist hs, fun x hx => h.hpos x (hs.subset hx), fun x hx => h.hfile x (hs.subset hx), fun x hx => h.hclose x (hs.subset hx), ⟨h.few.1, Nat.le_trans hs.length_le h.few.2⟩, h.clock, h.rootN⟩
/-- A file that is no directory has no files below it. -/
theorem Inv.leaf (h : Inv T) {n : Nd} (hn : n ∈ T.ns) (hd : n.dir = false) : n.path ≠ 0 ∧ ∀ m ∈ T.ns, m.path ≠ 0 → m.up ≠ n.path := by
  refine ⟨fun h0 => ?_, fun m hm h0 he => ?_⟩
  · have := (h.rootD n hn h0).1
    rw [hd] at this; cases this
  · obtain ⟨u, hu, h1, h2⟩ := h.up m hm h0
    have : u = n := h.inj hu hn (by rw [h1, he])
    rw [this, hd] at h2; cases h2
theorem close_inv (h : Inv T) (hd : Int) : Inv (T.close hd).1 := by
  unfold Tr.close
  split
  · exact h
  rename_i x hx
  simp only []
  split
  · rename_i n hg
    obtain ⟨hn, hp⟩ := h.get.1 hg
    split
    · rename_i h64
      have hmode : x.mode ≠ 0 := fun e => h64 (by rw [e]; decide)
      obtain ⟨h0, hk⟩ := h.leaf hn (h.hclose _ (h.openedM hx) hmode n hn hp)
      exact drop_inv (h.hdel hd) h0 hk _
    · exact h.hdel hd
  · exact h.hdel hd
theorem remove_inv (h : Inv T) (user : BA) (file : Int) : Inv (T.remove user file).1 := by
  unfold Tr.remove
  split
  · exact h
  rename_i n hg
  obtain ⟨hn, hp⟩ := h.get.1 hg
  split
  · exact h
  rename_i h0
  split
  · exact h
  split
  · exact h
  rename_i hk
  refine drop_inv h h0 (fun m hm hm0 he => hk ?_) _
  refine List.length_pos_of_mem (a := m) (List.mem_filter.2 ⟨hm, ?_⟩)
  unfold Tr.isKid
  exact decide_eq_true ⟨hm0, by rw [he, hp]⟩
end Go.Proofs.YtnnhmahemklnkaaGreatDoor

/-
  Trees, plain: how far the numbers of a tree grow in one operation.
-/
namespace Go.Proofs.YtnnhmahemklnkaaGreatDoor
open Go Go.Sh
set_option maxRecDepth 100000
set_option linter.unusedVariables false
set_option linter.unusedSimpArgs false
variable {T : Tr} {N : Int}

theorem Lim.mono {M : Int} (h : Lim N T) (hm : N ≤ M) : Lim M T := ⟨by have := h.clock; omega, by have := h.next; omega, fun n hn => by have := h.vers n hn; omega⟩
theorem Lim.tick (h : Lim N T) : Lim (N + 1) T.tick := ⟨by have := h.clock; show T.clock + 1 ≤ N + 1; omega, by have := h.next; show T.next ≤ N + 1; omega, fun n hn => by have := h.vers n hn; omega⟩
theorem Lim.updV (h : Lim N T) {p : Int} {f : Nd → Nd} (hf : ∀ n, (f n).vers ≤ n.vers + 1) : Lim (N + 1) (T.upd p f) := ⟨by have := h.clock; show T.clock ≤ N + 1; omega, by have := h.next; show T.next ≤ N + 1; omega, fun n hn => by
  obtain ⟨m, hm, rfl⟩ := updN_mem hn
  have := h.vers m hm
  have := hf m
  split <;> omega⟩
theorem Lim.upd0 (h : Lim N T) {p : Int} {f : Nd → Nd} (hf : ∀ n, (f n).vers = n.vers) : Lim N (T.upd p f) := ⟨h.clock, h.next, fun n hn => by
  obtain ⟨m, hm, rfl⟩ := updN_mem hn
  have := h.vers m hm
  have := hf m
  split <;> omega⟩
theorem Lim.change1 (h : Lim N T) (user : BA) (p : Int) : Lim (N + 2) (T.change user [p]) := by
  have := (h.tick).updV (p := p) (f := touchN T.tick.clock user) (fun n => by show n.vers + 1 ≤ n.vers + 1; omega)
  exact this.mono (by omega)
theorem Lim.change2 (h : Lim N T) (user : BA) (p q : Int) : Lim (N + 3) (T.change user [p, q]) := by
  have := ((h.tick).updV (p := p) (f := touchN T.tick.clock user) (fun n => by show n.vers + 1 ≤ n.vers + 1; omega)).updV (p := q) (f := touchN T.tick.clock user) (fun n => by show n.vers + 1 ≤ n.vers + 1; omega)
  exact this.mono (by omega)
theorem Lim.hold (h : Lim N T) (x : Hd) : Lim N (T.hold x).1 := ⟨h.clock, h.next, h.vers⟩
theorem write_lim (h : Lim N T) (hd off : Int) (d : BA) : Lim (N + 3) (T.write hd off d).1 := by
  have h3 := h.mono (M := N + 3) (by omega)
  unfold Tr.write
  split
  · exact h3
  split
  · exact h3
  split
  · exact h3
  split
  · exact h3
  split
  · exact h3
  simp only []
  generalize (if andI _ 1073741824 ≠ 0 then _ else off) = at_
  split
  · exact h3
  · exact ((h.change1 _ _).upd0 (by intro n; rfl)).mono (by omega)
theorem open_lim (h : Lim N T) (user : BA) (file mode : Int) : Lim (N + 3) (T.openF user file mode).1 := by
  have h3 := h.mono (M := N + 3) (by omega)
  unfold Tr.openF
  split
  · exact h3
  split
  · exact h3
  split
  · exact h3
  split
  · exact h3
  split
  · exact h3
  split
  · exact h3
  simp only []
  refine Lim.hold ?_ _
  split
  · exact ((h.change1 _ _).upd0 (by intro n; rfl)).mono (by omega)
  · exact h3
theorem create_lim (h : Lim N T) (h0 : 0 ≤ N) (user : BA) (dir : Int) (name : BA) (perm mode : Int) : Lim (N + 3) (T.create user dir name perm mode).1 := by
  have h3 := h.mono (M := N + 3) (by omega)
  unfold Tr.create
  split
  · exact h3
  split
  · exact h3
  split
  · exact h3
  split
  · exact h3
  split
  · exact h3
  split
  · exact h3
  split
  · exact h3
  simp only []
  refine Lim.hold ?_ _
  have h2 := h.change1 user dir
  refine ⟨by have := h2.clock; show (T.change user [dir]).clock ≤ N + 3; omega, by have := h.next; show T.next + 1 ≤ N + 3; omega, fun n hn => ?_⟩
  have hn : n ∈ (T.change user [dir]).ns ++ [_] := hn
  rcases List.mem_append.1 hn with hn | hn
  · have := h2.vers n hn; omega
  · rw [List.mem_singleton.1 hn]; show (0 : Int) ≤ N + 3; omega
theorem drop_lim (h : Lim N T) (user : BA) (n : Nd) : Lim (N + 2) (T.drop user n) :=
  Lim.change1 (T := { T with ns := T.ns.filter fun x => decide (x.path ≠ n.path) }) ⟨h.clock, h.next, fun m hm => h.vers m (List.mem_filter.1 hm).1⟩ user n.up
theorem close_lim (h : Lim N T) (hd : Int) : Lim (N + 3) (T.close hd).1 := by
  have h3 := h.mono (M := N + 3) (by omega)
  have hh : Lim N { T with hs := delL T.hs hd } := ⟨h.clock, h.next, h.vers⟩
  unfold Tr.close
  split
  · exact h3
  simp only []
  split
  · split
    · exact (drop_lim hh _ _).mono (by omega)
    · exact hh.mono (by omega)
  · exact hh.mono (by omega)
theorem remove_lim (h : Lim N T) (user : BA) (file : Int) : Lim (N + 3) (T.remove user file).1 := by
  have h3 := h.mono (M := N + 3) (by omega)
  unfold Tr.remove
  split
  · exact h3
  split
  · exact h3
  split
  · exact h3
  split
  · exact h3
  · exact (drop_lim h _ _).mono (by omega)
theorem wstat_lim (h : Lim N T) (user : BA) (file : Int) (d : Dr) : Lim (N + 3) (T.wstat user file d).1 := by
  have h3 := h.mono (M := N + 3) (by omega)
  unfold Tr.wstat
  split
  · exact h3
  simp only []
  split
  · exact h3
  split
  · exact h3
  split
  · exact h3
  split
  · exact h3
  split
  · exact h3
  split
  · exact h3
  split
  · exact h3
  split
  · exact h3
  refine Lim.upd0 ?_ fun n => rfl
  split
  · exact h.change2 _ _ _
  · exact (h.change1 _ _).mono (by omega)
theorem newT_lim (owner : BA) (gs : Gs) : Lim 1 (newT owner gs) := ⟨by show (0 : Int) ≤ 1; omega, Int.le_refl _, fun n hn => by
  rw [List.mem_singleton.1 hn]; show (0 : Int) ≤ 1; omega⟩
end Go.Proofs.YtnnhmahemklnkaaGreatDoor

/-
  Trees: the example of the chapter.
-/
namespace Go.Proofs.YtnnhmahemklnkaaGreatDoor
open Go Go.Sh
set_option maxRecDepth 100000
set_option linter.unusedVariables false
set_option linter.unusedSimpArgs false
variable {w0 w : World} {F : Nat → Prop} {l : List As}

abbrev ann : BA := ⟨#[97, 110, 110]⟩
abbrev bob : BA := ⟨#[98, 111, 98]⟩
abbrev nmF : BA := ⟨#[102]⟩
abbrev aw0 : Tr := newT ann []
abbrev aw1 : Tr := (aw0.create ann 0 nmF 438 2).1
abbrev aw2 : Tr := (aw1.write 1 2 ⟨#[97, 98]⟩).1
theorem gin_nil (v : Value) (hv : v = .slice none 0 0) : GIn w0 F l v [] [] := by
  subst hv
  exact ⟨⟨none, 0, rfl, Nat.le_refl _, rfl, .inl rfl⟩, rfl, fun i a b h => by simp at h⟩
theorem checkG_ann : checkG [] [ann] = 0 := by decide
theorem aw_create : (aw0.create ann 0 nmF 438 2).2 = (1, ⟨0, 0, 1⟩, 0) := by kernel_rfl
theorem aw_write : (aw1.write 1 2 ⟨#[97, 98]⟩).2 = (2, 0) := by kernel_rfl
theorem aw_read : aw2.read 1 0 9 = (⟨#[0, 0, 97, 98]⟩, 0) := by kernel_rfl
theorem aw_stat : aw2.stat 1 = (⟨0, 1, 1, 436, 2, 4, nmF, ann, ann, ann⟩, 0) := by kernel_rfl
theorem aw_open : (aw2.openF bob 1 1).2.2.2 = 17 := by kernel_rfl
theorem aw_clean : cleanS ⟨#[47, 97, 47, 47, 98, 47, 46, 47, 46, 46, 47, 99, 47, 46, 46]⟩ = ⟨#[47, 97]⟩ := by kernel_rfl
theorem Hs.drop2 {A B : As} (E : Hs w0 F w (A :: B :: l)) : Hs w0 F w l := E.tl.tl
abbrev lkQid : List LK := [.int .i64, .int .i64, .int .i64]
theorem lv_Qid : lv PP 20 Ty.api_Qid = some lkQid := by kernel_rfl
theorem st_Qid : isSt PP Ty.api_Qid = true := by kernel_rfl
theorem g_Qid : PP.eqGuardType PP.depth Ty.api_Qid = false := by kernel_rfl

theorem awake_ok {D : List Row} (E : Hs w0 F w (Pool D :: l)) : Ca PP Fn.law28_awake #[] w fun r w' => r = .bool true ∧ ∃ D', (∀ x ∈ D, x ∈ D') ∧ Hs w0 F w' (Pool D' :: l) := by
  refine S.law28_awake.calls ?_
  unfold S.law28_awake
  refine (New_ok (owner := ann) (gin_nil _ rfl) (by simp) (fun g h => by cases h) (by
    intro s hs
    have : s = ann := by simpa [gwords] using hs
    rw [this]; decide) E).mono ?_
  clear E
  rintro r w_ (⟨hc, -, -⟩ | ⟨-, D1, X, β, rfl, hD1, h, hi, E⟩)
  · exact absurd checkG_ann hc
  (repeat first | (with_reducible first | refine Stp.go ?_ | refine StpE.go E ?_ | (refine StpW.go E ?_; clear E; intro w_ E) | (refine StpA.go E ?_; clear E; intro b_ w_ hb_ E) | (apply hJ5; intro u_) | (apply hJ17; intro u_) | (apply hJ44; intro u_) | refine LnL.nil ?_) | ((with_reducible refine Bi.dec true ?_ ?_); focus exact rfl) | ((with_reducible refine Bi.dec false ?_ ?_); focus exact rfl) | ((with_reducible refine Bi.sdec true ?_ ?_); focus decide) | ((with_reducible refine Bi.sdec false ?_ ?_); focus decide))
  (intro J5 hJ5)
  have fin5 : ∀ b w_, b = false → Hs w0 F w_ (trA X :: Pool D1 :: l) → J5 [.bool b] w_ := by
    intro b w_ hb E
    subst hb
    (repeat first | (with_reducible first | refine Stp.go ?_ | refine StpE.go E ?_ | (refine StpW.go E ?_; clear E; intro w_ E) | (refine StpA.go E ?_; clear E; intro b_ w_ hb_ E) | (apply hJ5; intro u_) | (apply hJ17; intro u_) | (apply hJ44; intro u_) | refine LnL.nil ?_) | ((with_reducible refine Bi.dec true ?_ ?_); focus exact rfl) | ((with_reducible refine Bi.dec false ?_ ?_); focus exact rfl) | ((with_reducible refine Bi.sdec true ?_ ?_); focus decide) | ((with_reducible refine Bi.sdec false ?_ ?_); focus decide))
    have l0 : Lim 1 aw0 := newT_lim _ _
    refine (Create_ok h hi (N := 1) (by omega) l0 (by decide) (by decide) E).mono ?_
    clear E
    rintro r w_ ⟨rfl, D2, X2, β2, hD2, ht2, h2, E⟩
    rw [aw_create]
    have i1 : Inv aw1 := create_inv hi _ _ _ _ _
    have l1 : Lim 4 aw1 := create_lim l0 (by omega) _ _ _ _ _
    (repeat first | (with_reducible first | refine Stp.go ?_ | refine StpE.go E ?_ | (refine StpW.go E ?_; clear E; intro w_ E) | (refine StpA.go E ?_; clear E; intro b_ w_ hb_ E) | (apply hJ5; intro u_) | (apply hJ17; intro u_) | (apply hJ44; intro u_) | refine LnL.nil ?_) | ((with_reducible refine Bi.dec true ?_ ?_); focus exact rfl) | ((with_reducible refine Bi.dec false ?_ ?_); focus exact rfl) | ((with_reducible refine Bi.sdec true ?_ ?_); focus decide) | ((with_reducible refine Bi.sdec false ?_ ?_); focus decide))
    (revert b_; intro q hbq E)
    (intro J17 hJ17)
    have fin17 : ∀ b w_, b = false → Hs w0 F w_ (pt q (oc [i64 0, i64 0, i64 1] Ty.api_Qid) :: trA X2 :: Pool D2 :: l) → J17 [.bool b] w_ := by
      intro b w_ hb E
      subst hb
      (repeat first | (with_reducible first | refine Stp.go ?_ | refine StpE.go E ?_ | (refine StpW.go E ?_; clear E; intro w_ E) | (refine StpA.go E ?_; clear E; intro b_ w_ hb_ E) | (apply hJ5; intro u_) | (apply hJ17; intro u_) | (apply hJ44; intro u_) | refine LnL.nil ?_) | ((with_reducible refine Bi.dec true ?_ ?_); focus exact rfl) | ((with_reducible refine Bi.dec false ?_ ?_); focus exact rfl) | ((with_reducible refine Bi.sdec true ?_ ?_); focus decide) | ((with_reducible refine Bi.sdec false ?_ ?_); focus decide))
      rw [← ht2]
      (replace E := (((E.bIx 0).bIx 2).bIx 2))
      refine (Write_ok h2 i1 (N := 4) (by omega) l1 E).mono ?_
      clear E
      rintro r w_ ⟨rfl, D3, X3, β3, hD3, ht3, h3, E⟩
      rw [aw_write]
      have i2 : Inv aw2 := write_inv i1 _ _ _
      have l2 : Lim 7 aw2 := write_lim l1 _ _ _
      (repeat first | (with_reducible first | refine Stp.go ?_ | refine StpE.go E ?_ | (refine StpW.go E ?_; clear E; intro w_ E) | (refine StpA.go E ?_; clear E; intro b_ w_ hb_ E) | (apply hJ5; intro u_) | (apply hJ17; intro u_) | (apply hJ44; intro u_) | refine LnL.nil ?_) | ((with_reducible refine Bi.dec true ?_ ?_); focus exact rfl) | ((with_reducible refine Bi.dec false ?_ ?_); focus exact rfl) | ((with_reducible refine Bi.sdec true ?_ ?_); focus decide) | ((with_reducible refine Bi.sdec false ?_ ?_); focus decide))
      rw [← ht3]
      refine (Read_ok h3 i2 (D := D3) (by simp) E).mono ?_
      clear E
      rintro r w_ ⟨rfl, E⟩
      rw [aw_read]
      (repeat first | (with_reducible first | refine Stp.go ?_ | refine StpE.go E ?_ | (refine StpW.go E ?_; clear E; intro w_ E) | (refine StpA.go E ?_; clear E; intro b_ w_ hb_ E) | (apply hJ5; intro u_) | (apply hJ17; intro u_) | (apply hJ44; intro u_) | refine LnL.nil ?_) | ((with_reducible refine Bi.dec true ?_ ?_); focus exact rfl) | ((with_reducible refine Bi.dec false ?_ ?_); focus exact rfl) | ((with_reducible refine Bi.sdec true ?_ ?_); focus decide) | ((with_reducible refine Bi.sdec false ?_ ?_); focus decide))
      refine (Stat_ok h3 i2 (D := D3) (by simp) E).mono ?_
      clear E
      rintro r w_ ⟨rfl, E⟩
      rw [aw_stat]
      (repeat first | (with_reducible first | refine Stp.go ?_ | refine StpE.go E ?_ | (refine StpW.go E ?_; clear E; intro w_ E) | (refine StpA.go E ?_; clear E; intro b_ w_ hb_ E) | (apply hJ5; intro u_) | (apply hJ17; intro u_) | (apply hJ44; intro u_) | refine LnL.nil ?_) | ((with_reducible refine Bi.dec true ?_ ?_); focus exact rfl) | ((with_reducible refine Bi.dec false ?_ ?_); focus exact rfl) | ((with_reducible refine Bi.sdec true ?_ ?_); focus decide) | ((with_reducible refine Bi.sdec false ?_ ?_); focus decide))
      (revert b_; intro d hbd E)
      (replace E := (((E.bIx 0).bIx 2).bIx 2))
      refine (Open_ok h3 i2 (N := 7) (by omega) l2 E).mono ?_
      clear E
      rintro r w_ ⟨rfl, D4, X4, β4, hD4, ht4, h4, E⟩
      rw [aw_open]
      (repeat first | (with_reducible first | refine Stp.go ?_ | refine StpE.go E ?_ | (refine StpW.go E ?_; clear E; intro w_ E) | (refine StpA.go E ?_; clear E; intro b_ w_ hb_ E) | (apply hJ5; intro u_) | (apply hJ17; intro u_) | (apply hJ44; intro u_) | refine LnL.nil ?_) | ((with_reducible refine Bi.dec true ?_ ?_); focus exact rfl) | ((with_reducible refine Bi.dec false ?_ ?_); focus exact rfl) | ((with_reducible refine Bi.sdec true ?_ ?_); focus decide) | ((with_reducible refine Bi.sdec false ?_ ?_); focus decide))
      (revert b_; intro q2 hbq2 E)
      (intro J44 hJ44)
      have fin44 : ∀ b w_, b = true → Hs w0 F w_ (Pool D4 :: l) → J44 [.bool b] w_ := by
        intro b w_ hb E
        subst hb
        (repeat first | (with_reducible first | refine Stp.go ?_ | refine StpE.go E ?_ | (refine StpW.go E ?_; clear E; intro w_ E) | (refine StpA.go E ?_; clear E; intro b_ w_ hb_ E) | (apply hJ5; intro u_) | (apply hJ17; intro u_) | (apply hJ44; intro u_) | refine LnL.nil ?_) | ((with_reducible refine Bi.dec true ?_ ?_); focus exact rfl) | ((with_reducible refine Bi.dec false ?_ ?_); focus exact rfl) | ((with_reducible refine Bi.sdec true ?_ ?_); focus decide) | ((with_reducible refine Bi.sdec false ?_ ?_); focus decide))
        exact ⟨rfl, D4, fun x hx => hD4 _ (hD3 _ (hD2 _ (hD1 _ hx))), E⟩
      clear hJ44
      (repeat first | (with_reducible first | refine Stp.go ?_ | refine StpE.go E ?_ | (refine StpW.go E ?_; clear E; intro w_ E) | (refine StpA.go E ?_; clear E; intro b_ w_ hb_ E) | (apply hJ5; intro u_) | (apply hJ17; intro u_) | (apply hJ44; intro u_) | refine LnL.nil ?_) | ((with_reducible refine Bi.dec true ?_ ?_); focus exact rfl) | ((with_reducible refine Bi.dec false ?_ ?_); focus exact rfl) | ((with_reducible refine Bi.sdec true ?_ ?_); focus decide) | ((with_reducible refine Bi.sdec false ?_ ?_); focus decide))
      refine (Clean_ok (by decide) E).mono ?_
      clear E
      rintro r w_ ⟨rfl, E⟩
      rw [aw_clean]
      (repeat first | (with_reducible first | refine Stp.go ?_ | refine StpE.go E ?_ | (refine StpW.go E ?_; clear E; intro w_ E) | (refine StpA.go E ?_; clear E; intro b_ w_ hb_ E) | (apply hJ5; intro u_) | (apply hJ17; intro u_) | (apply hJ44; intro u_) | refine LnL.nil ?_) | ((with_reducible refine Bi.dec true ?_ ?_); focus exact rfl) | ((with_reducible refine Bi.dec false ?_ ?_); focus exact rfl) | ((with_reducible refine Bi.sdec true ?_ ?_); focus decide) | ((with_reducible refine Bi.sdec false ?_ ?_); focus decide))
      refine fin44 _ _ rfl ?_
      (replace E := (E.bIx 0).tl)
      (replace E := (E.bIx 0).tl)
      (replace E := (E.bPt d))
      (replace E := (E.bIx 0).tl)
      (replace E := (E.bPt q))
      exact E.tl
    clear hJ17
    (repeat first | (with_reducible first | refine Stp.go ?_ | refine StpE.go E ?_ | (refine StpW.go E ?_; clear E; intro w_ E) | (refine StpA.go E ?_; clear E; intro b_ w_ hb_ E) | (apply hJ5; intro u_) | (apply hJ17; intro u_) | (apply hJ44; intro u_) | refine LnL.nil ?_) | ((with_reducible refine Bi.dec true ?_ ?_); focus exact rfl) | ((with_reducible refine Bi.dec false ?_ ?_); focus exact rfl) | ((with_reducible refine Bi.sdec true ?_ ?_); focus decide) | ((with_reducible refine Bi.sdec false ?_ ?_); focus decide))
    refine EqS.n (xs := [i64 0, i64 0, i64 1]) (ys := [i64 0, i64 0, i64 1]) lv_Qid st_Qid g_Qid rfl rfl ?_
    simp only [ceqL, ceq, decide_true, Bool.and_self, Bool.not_true]
    (repeat first | (with_reducible first | refine Stp.go ?_ | refine StpE.go E ?_ | (refine StpW.go E ?_; clear E; intro w_ E) | (refine StpA.go E ?_; clear E; intro b_ w_ hb_ E) | (apply hJ5; intro u_) | (apply hJ17; intro u_) | (apply hJ44; intro u_) | refine LnL.nil ?_) | ((with_reducible refine Bi.dec true ?_ ?_); focus exact rfl) | ((with_reducible refine Bi.dec false ?_ ?_); focus exact rfl) | ((with_reducible refine Bi.sdec true ?_ ?_); focus decide) | ((with_reducible refine Bi.sdec false ?_ ?_); focus decide))
    exact fin17 _ _ rfl E
  clear hJ5
  (repeat first | (with_reducible first | refine Stp.go ?_ | refine StpE.go E ?_ | (refine StpW.go E ?_; clear E; intro w_ E) | (refine StpA.go E ?_; clear E; intro b_ w_ hb_ E) | (apply hJ5; intro u_) | (apply hJ17; intro u_) | (apply hJ44; intro u_) | refine LnL.nil ?_) | ((with_reducible refine Bi.dec true ?_ ?_); focus exact rfl) | ((with_reducible refine Bi.dec false ?_ ?_); focus exact rfl) | ((with_reducible refine Bi.sdec true ?_ ?_); focus decide) | ((with_reducible refine Bi.sdec false ?_ ?_); focus decide))
  refine Eq.ef u_p_tree rfl ?_
  (repeat first | (with_reducible first | refine Stp.go ?_ | refine StpE.go E ?_ | (refine StpW.go E ?_; clear E; intro w_ E) | (refine StpA.go E ?_; clear E; intro b_ w_ hb_ E) | (apply hJ5; intro u_) | (apply hJ17; intro u_) | (apply hJ44; intro u_) | refine LnL.nil ?_) | ((with_reducible refine Bi.dec true ?_ ?_); focus exact rfl) | ((with_reducible refine Bi.dec false ?_ ?_); focus exact rfl) | ((with_reducible refine Bi.sdec true ?_ ?_); focus decide) | ((with_reducible refine Bi.sdec false ?_ ?_); focus decide))
  exact fin5 _ _ rfl E
end Go.Proofs.YtnnhmahemklnkaaGreatDoor

/-
  Numbers and their bits; what is permitted, bit by bit.
-/
namespace Go.Proofs.YtnnhmahemklnkaaGreatDoor
open Go Go.Sh
set_option maxRecDepth 100000
set_option linter.unusedVariables false
set_option linter.unusedSimpArgs false
variable {w0 w : World} {F : Nat → Prop} {l : List As}

/-! ### Bits -/
def bitI (m : Int) (i : Nat) : Bool := (BitVec.ofInt 64 m).getLsbD i
def rngI (m : Int) : Prop := -9223372036854775808 ≤ m ∧ m ≤ 9223372036854775807
/-- Where the bits of an owner, a group, others lie. -/
def shO (o g : Bool) : Nat := if o then 6 else if g then 3 else 0
def shI (m : Int) (o g : Bool) : Int := if o then m.fdiv 64 else if g then m.fdiv 8 else m
theorem toInt_rng {m : Int} (h : rngI m) : (BitVec.ofInt 64 m).toInt = m := by
  rw [BitVec.toInt_ofInt]
  unfold rngI at h
  unfold Int.bmod
  simp only [Nat.reducePow]
  split <;> omega
theorem ofInt_fdiv {m : Int} (h : rngI m) (k : Nat) : BitVec.ofInt 64 (m.fdiv (2 ^ k : Nat)) = (BitVec.ofInt 64 m).sshiftRight k := by
  unfold BitVec.sshiftRight
  rw [toInt_rng h, Int.shiftRight_eq_div_pow, Int.fdiv_eq_ediv_of_nonneg _ (Int.natCast_nonneg _)]
theorem bit_sh {m : Int} (h : rngI m) (o g : Bool) {i : Nat} (hi : i < 3) : bitI (shI m o g) i = bitI m (shO o g + i) := by
  unfold bitI shI shO
  cases o with
  | true =>
    simp only [if_true]
    have e := ofInt_fdiv h 6
    rw [show ((2 ^ 6 : Nat) : Int) = 64 from rfl] at e
    rw [e, BitVec.getLsbD_sshiftRight, if_pos (by omega), decide_eq_false (by omega)]
    rfl
  | false =>
    cases g with
    | true =>
      simp only [if_true, if_false, Bool.false_eq_true]
      have e := ofInt_fdiv h 3
      rw [show ((2 ^ 3 : Nat) : Int) = 8 from rfl] at e
      rw [e, BitVec.getLsbD_sshiftRight, if_pos (by omega), decide_eq_false (by omega)]
      rfl
    | false => simp
theorem wrap_rng (n : Int) : rngI (IntKind.i64.wrap n) := by
  unfold rngI IntKind.wrap
  simp only [IntKind.signed, IntKind.bits, Bool.true_and]
  have h1 := Int.emod_nonneg n (b := (2 ^ 64 : Int)) (by omega)
  have h2 := Int.emod_lt_of_pos n (b := (2 ^ 64 : Int)) (by omega)
  split
  · rename_i h
    have h := of_decide_eq_true h
    omega
  · rename_i h
    have h : n % 18446744073709551616 < 9223372036854775808 := by simpa using h
    omega
theorem bit7 (i : Nat) : (BitVec.ofInt 64 7).getLsbD i = decide (i < 3) := by
  by_cases h : i < 3
  · rcases i with _ | _ | _ | i
    · decide
    · decide
    · decide
    · omega
  · rw [decide_eq_false h]
    by_cases h2 : i < 64
    · have : BitVec.ofInt 64 7 = (7 : BitVec 64) := by decide
      rw [this]
      show (BitVec.ofNat 64 7).getLsbD i = false
      rw [BitVec.getLsbD_ofNat]
      have : Nat.testBit 7 i = false := Nat.testBit_lt_two_pow (Nat.lt_of_lt_of_le (by decide : 7 < 2 ^ 3) (Nat.pow_le_pow_right (by omega) (by omega)))
      simp [this]
    · exact BitVec.getLsbD_of_ge _ _ (by omega)
/-- What is permitted, bit by bit. -/
theorem permF_iff {m : Int} (h : rngI m) (o g : Bool) (need : Int) : permF m o g need = true ↔ ∀ i, i < 3 → bitI need i = true → bitI m (shO o g + i) = true := by
  have e0 : permF m o g need = (clrI (andI need 7) (shI m o g) == 0) := rfl
  rw [e0, beq_iff_eq, clrI_zero, andI_ofInt]
  constructor
  · intro hz i hi hb
    have := congrArg (fun x : BitVec 64 => x.getLsbD i) hz
    simp only [BitVec.getLsbD_and, BitVec.getLsbD_not, BitVec.getLsbD_zero, bit7, decide_eq_true hi, decide_eq_true (show i < 64 by omega), Bool.and_true, Bool.true_and] at this
    rw [← bit_sh h o g hi]
    unfold bitI at hb ⊢
    rw [hb] at this
    simpa using this
  · intro H
    apply BitVec.eq_of_getLsbD_eq
    intro i hi
    simp only [BitVec.getLsbD_and, BitVec.getLsbD_not, BitVec.getLsbD_zero, bit7, decide_eq_true hi, Bool.true_and]
    by_cases h3 : i < 3
    · rw [decide_eq_true h3, Bool.and_true]
      cases hb : (BitVec.ofInt 64 need).getLsbD i with
      | false => rfl
      | true =>
        have := H i h3 hb
        rw [← bit_sh h o g h3] at this
        unfold bitI at this
        rw [this]; rfl
    · rw [decide_eq_false h3]; simp
theorem permF_more {p m : Int} (hp : rngI p) (o g : Bool) {n : Int} (h : permF p o g n = true) : permF (orI p m) o g n = true := by
  rw [permF_iff hp] at h
  rw [permF_iff (m := orI p m) (wrap_rng _)]
  intro i hi hb
  have := h i hi hb
  unfold bitI at this ⊢
  rw [orI_ofInt, BitVec.getLsbD_or, this]; rfl
theorem permF_less {p : Int} (hp : rngI p) (o g : Bool) {n k : Int} (h : permF p o g n = true) : permF p o g (andI n k) = true := by
  rw [permF_iff hp] at h ⊢
  intro i hi hb
  refine h i hi ?_
  unfold bitI at hb ⊢
  rw [andI_ofInt, BitVec.getLsbD_and] at hb
  exact (Bool.and_eq_true_iff.1 hb).1

end Go.Proofs.YtnnhmahemklnkaaGreatDoor

/-
  Trees: a nil tree.
-/
namespace Go.Proofs.YtnnhmahemklnkaaGreatDoor
open Go Go.Sh
set_option maxRecDepth 100000
set_option linter.unusedVariables false
set_option linter.unusedSimpArgs false
variable {w0 w : World} {F : Nat → Prop} {l : List As}

abbrev np : Value := .pointer none
theorem Clock_nil (E : Hs w0 F w l) : Ca PP Fn.tree_Tree_Clock #[np] w fun r w' => r = i64 0 ∧ Hs w0 F w' l := by
  refine S.tree_Tree_Clock.calls ?_
  unfold S.tree_Tree_Clock
  refine Eq.et u_p_tree rfl ?_
  (repeat first | (with_reducible first | refine Stp.go ?_ | refine StpE.go E ?_ | (refine StpW.go E ?_; clear E; intro w_ E) | (refine StpA.go E ?_; clear E; intro b_ w_ hb_ E) | refine LnL.nil ?_) | ((with_reducible refine Bi.dec true ?_ ?_); focus exact rfl) | ((with_reducible refine Bi.dec false ?_ ?_); focus exact rfl) | ((with_reducible refine Bi.sdec true ?_ ?_); focus decide) | ((with_reducible refine Bi.sdec false ?_ ?_); focus decide))
  exact ⟨rfl, E⟩
theorem Next_nil (E : Hs w0 F w l) : Ca PP Fn.tree_Tree_Next #[np] w fun r w' => r = i64 0 ∧ Hs w0 F w' l := by
  refine S.tree_Tree_Next.calls ?_
  unfold S.tree_Tree_Next
  refine Eq.et u_p_tree rfl ?_
  (repeat first | (with_reducible first | refine Stp.go ?_ | refine StpE.go E ?_ | (refine StpW.go E ?_; clear E; intro w_ E) | (refine StpA.go E ?_; clear E; intro b_ w_ hb_ E) | refine LnL.nil ?_) | ((with_reducible refine Bi.dec true ?_ ?_); focus exact rfl) | ((with_reducible refine Bi.dec false ?_ ?_); focus exact rfl) | ((with_reducible refine Bi.sdec true ?_ ?_); focus decide) | ((with_reducible refine Bi.sdec false ?_ ?_); focus decide))
  exact ⟨rfl, E⟩
theorem Handles_nil (E : Hs w0 F w l) : Ca PP Fn.tree_Tree_Handles #[np] w fun r w' => r = .slice none 0 0 ∧ Hs w0 F w' l := by
  refine S.tree_Tree_Handles.calls ?_
  unfold S.tree_Tree_Handles
  refine Eq.et u_p_tree rfl ?_
  (repeat first | (with_reducible first | refine Stp.go ?_ | refine StpE.go E ?_ | (refine StpW.go E ?_; clear E; intro w_ E) | (refine StpA.go E ?_; clear E; intro b_ w_ hb_ E) | refine LnL.nil ?_) | ((with_reducible refine Bi.dec true ?_ ?_); focus exact rfl) | ((with_reducible refine Bi.dec false ?_ ?_); focus exact rfl) | ((with_reducible refine Bi.sdec true ?_ ?_); focus decide) | ((with_reducible refine Bi.sdec false ?_ ?_); focus decide))
  exact ⟨rfl, E⟩
theorem Clone_nil (E : Hs w0 F w l) : Ca PP Fn.tree_Tree_Clone #[np] w fun r w' => r = np ∧ Hs w0 F w' l := by
  refine S.tree_Tree_Clone.calls ?_
  unfold S.tree_Tree_Clone
  refine Eq.et u_p_tree rfl ?_
  refine Cnd.t ?_
  exact ⟨rfl, E⟩
theorem Root_nil (E : Hs w0 F w l) : Ca PP Fn.tree_Tree_Root #[np] w fun r w' => r = q0.V ∧ Hs w0 F w' l := by
  refine S.tree_Tree_Root.calls ?_
  unfold S.tree_Tree_Root
  (repeat first | (with_reducible first | refine Stp.go ?_ | refine StpE.go E ?_ | (refine StpW.go E ?_; clear E; intro w_ E) | (refine StpA.go E ?_; clear E; intro b_ w_ hb_ E) | refine LnL.nil ?_) | ((with_reducible refine Bi.dec true ?_ ?_); focus exact rfl) | ((with_reducible refine Bi.dec false ?_ ?_); focus exact rfl) | ((with_reducible refine Bi.sdec true ?_ ?_); focus decide) | ((with_reducible refine Bi.sdec false ?_ ?_); focus decide))
  refine Eq.et u_p_tree rfl ?_
  (repeat first | (with_reducible first | refine Stp.go ?_ | refine StpE.go E ?_ | (refine StpW.go E ?_; clear E; intro w_ E) | (refine StpA.go E ?_; clear E; intro b_ w_ hb_ E) | refine LnL.nil ?_) | ((with_reducible refine Bi.dec true ?_ ?_); focus exact rfl) | ((with_reducible refine Bi.dec false ?_ ?_); focus exact rfl) | ((with_reducible refine Bi.sdec true ?_ ?_); focus decide) | ((with_reducible refine Bi.sdec false ?_ ?_); focus decide))
  exact ⟨rfl, E.tl⟩
theorem Files_nil (E : Hs w0 F w l) : Ca PP Fn.tree_Tree_Files #[np] w fun r w' => r = .slice none 0 0 ∧ Hs w0 F w' l := by
  refine S.tree_Tree_Files.calls ?_
  unfold S.tree_Tree_Files
  (repeat first | (with_reducible first | refine Stp.go ?_ | refine StpE.go E ?_ | (refine StpW.go E ?_; clear E; intro w_ E) | (refine StpA.go E ?_; clear E; intro b_ w_ hb_ E) | (apply hJ3; intro u_) | refine LnL.nil ?_) | ((with_reducible refine Bi.dec true ?_ ?_); focus exact rfl) | ((with_reducible refine Bi.dec false ?_ ?_); focus exact rfl) | ((with_reducible refine Bi.sdec true ?_ ?_); focus decide) | ((with_reducible refine Bi.sdec false ?_ ?_); focus decide))
  (intro J3 hJ3)
  refine Eq.nf u_p_tree rfl ?_
  (repeat first | (with_reducible first | refine Stp.go ?_ | refine StpE.go E ?_ | (refine StpW.go E ?_; clear E; intro w_ E) | (refine StpA.go E ?_; clear E; intro b_ w_ hb_ E) | (apply hJ3; intro u_) | refine LnL.nil ?_) | ((with_reducible refine Bi.dec true ?_ ?_); focus exact rfl) | ((with_reducible refine Bi.dec false ?_ ?_); focus exact rfl) | ((with_reducible refine Bi.sdec true ?_ ?_); focus decide) | ((with_reducible refine Bi.sdec false ?_ ?_); focus decide))
  exact ⟨rfl, E.tl⟩
theorem folder_nil {p : Int} (E : Hs w0 F w l) : Ca PP Fn.tree_Tree_folder #[np, i64 p] w fun r w' => r = .tuple #[np, i64 6] ∧ Hs w0 F w' l := by
  refine S.tree_Tree_folder.calls ?_
  unfold S.tree_Tree_folder
  refine (find_nil E).mono ?_
  clear E
  rintro r w_ ⟨rfl, E⟩
  (repeat first | (with_reducible first | refine Stp.go ?_ | refine StpE.go E ?_ | (refine StpW.go E ?_; clear E; intro w_ E) | (refine StpA.go E ?_; clear E; intro b_ w_ hb_ E) | (apply hJ5; intro u_) | refine LnL.nil ?_) | ((with_reducible refine Bi.dec true ?_ ?_); focus exact rfl) | ((with_reducible refine Bi.dec false ?_ ?_); focus exact rfl) | ((with_reducible refine Bi.sdec true ?_ ?_); focus decide) | ((with_reducible refine Bi.sdec false ?_ ?_); focus decide))
  (intro J5 hJ5)
  (repeat first | (with_reducible first | refine Stp.go ?_ | refine StpE.go E ?_ | (refine StpW.go E ?_; clear E; intro w_ E) | (refine StpA.go E ?_; clear E; intro b_ w_ hb_ E) | (apply hJ5; intro u_) | refine LnL.nil ?_) | ((with_reducible refine Bi.dec true ?_ ?_); focus exact rfl) | ((with_reducible refine Bi.dec false ?_ ?_); focus exact rfl) | ((with_reducible refine Bi.sdec true ?_ ?_); focus decide) | ((with_reducible refine Bi.sdec false ?_ ?_); focus decide))
  exact ⟨rfl, E⟩
theorem Walk_nil {user name : BA} {p : Int} (E : Hs w0 F w l) : Ca PP Fn.tree_Tree_Walk #[np, str user, i64 p, str name] w fun r w' => r = .tuple #[q0.V, i64 6] ∧ Hs w0 F w' l := by
  refine S.tree_Tree_Walk.calls ?_
  unfold S.tree_Tree_Walk
  (repeat first | (with_reducible first | refine Stp.go ?_ | refine StpE.go E ?_ | (refine StpW.go E ?_; clear E; intro w_ E) | (refine StpA.go E ?_; clear E; intro b_ w_ hb_ E) | refine LnL.nil ?_) | ((with_reducible refine Bi.dec true ?_ ?_); focus exact rfl) | ((with_reducible refine Bi.dec false ?_ ?_); focus exact rfl) | ((with_reducible refine Bi.sdec true ?_ ?_); focus decide) | ((with_reducible refine Bi.sdec false ?_ ?_); focus decide))
  refine (folder_nil E).mono ?_
  clear E
  rintro r w_ ⟨rfl, E⟩
  (repeat first | (with_reducible first | refine Stp.go ?_ | refine StpE.go E ?_ | (refine StpW.go E ?_; clear E; intro w_ E) | (refine StpA.go E ?_; clear E; intro b_ w_ hb_ E) | refine LnL.nil ?_) | ((with_reducible refine Bi.dec true ?_ ?_); focus exact rfl) | ((with_reducible refine Bi.dec false ?_ ?_); focus exact rfl) | ((with_reducible refine Bi.sdec true ?_ ?_); focus decide) | ((with_reducible refine Bi.sdec false ?_ ?_); focus decide))
  exact ⟨rfl, E.tl⟩
theorem Stat_nil {user : BA} {p : Int} (E : Hs w0 F w l) : Ca PP Fn.tree_Tree_Stat #[np, str user, i64 p] w fun r w' => r = .tuple #[d0.V, i64 6] ∧ Hs w0 F w' l := by
  refine S.tree_Tree_Stat.calls ?_
  unfold S.tree_Tree_Stat
  (repeat first | (with_reducible first | refine Stp.go ?_ | refine StpE.go E ?_ | (refine StpW.go E ?_; clear E; intro w_ E) | (refine StpA.go E ?_; clear E; intro b_ w_ hb_ E) | refine LnL.nil ?_) | ((with_reducible refine Bi.dec true ?_ ?_); focus exact rfl) | ((with_reducible refine Bi.dec false ?_ ?_); focus exact rfl) | ((with_reducible refine Bi.sdec true ?_ ?_); focus decide) | ((with_reducible refine Bi.sdec false ?_ ?_); focus decide))
  refine (find_nil E).mono ?_
  clear E
  rintro r w_ ⟨rfl, E⟩
  (repeat first | (with_reducible first | refine Stp.go ?_ | refine StpE.go E ?_ | (refine StpW.go E ?_; clear E; intro w_ E) | (refine StpA.go E ?_; clear E; intro b_ w_ hb_ E) | refine LnL.nil ?_) | ((with_reducible refine Bi.dec true ?_ ?_); focus exact rfl) | ((with_reducible refine Bi.dec false ?_ ?_); focus exact rfl) | ((with_reducible refine Bi.sdec true ?_ ?_); focus decide) | ((with_reducible refine Bi.sdec false ?_ ?_); focus decide))
  exact ⟨rfl, E.tl⟩
theorem Open_nil {user : BA} {p m : Int} (E : Hs w0 F w l) : Ca PP Fn.tree_Tree_Open #[np, str user, i64 p, i64 m] w fun r w' => r = .tuple #[i64 0, q0.V, i64 6] ∧ Hs w0 F w' l := by
  refine S.tree_Tree_Open.calls ?_
  unfold S.tree_Tree_Open
  (repeat first | (with_reducible first | refine Stp.go ?_ | refine StpE.go E ?_ | (refine StpW.go E ?_; clear E; intro w_ E) | (refine StpA.go E ?_; clear E; intro b_ w_ hb_ E) | refine LnL.nil ?_) | ((with_reducible refine Bi.dec true ?_ ?_); focus exact rfl) | ((with_reducible refine Bi.dec false ?_ ?_); focus exact rfl) | ((with_reducible refine Bi.sdec true ?_ ?_); focus decide) | ((with_reducible refine Bi.sdec false ?_ ?_); focus decide))
  refine Eq.et u_p_tree rfl ?_
  (repeat first | (with_reducible first | refine Stp.go ?_ | refine StpE.go E ?_ | (refine StpW.go E ?_; clear E; intro w_ E) | (refine StpA.go E ?_; clear E; intro b_ w_ hb_ E) | refine LnL.nil ?_) | ((with_reducible refine Bi.dec true ?_ ?_); focus exact rfl) | ((with_reducible refine Bi.dec false ?_ ?_); focus exact rfl) | ((with_reducible refine Bi.sdec true ?_ ?_); focus decide) | ((with_reducible refine Bi.sdec false ?_ ?_); focus decide))
  exact ⟨rfl, E.tl⟩
theorem Create_nil {user name : BA} {p m k : Int} (E : Hs w0 F w l) : Ca PP Fn.tree_Tree_Create #[np, str user, i64 p, str name, i64 m, i64 k] w fun r w' => r = .tuple #[i64 0, q0.V, i64 6] ∧ Hs w0 F w' l := by
  refine S.tree_Tree_Create.calls ?_
  unfold S.tree_Tree_Create
  (repeat first | (with_reducible first | refine Stp.go ?_ | refine StpE.go E ?_ | (refine StpW.go E ?_; clear E; intro w_ E) | (refine StpA.go E ?_; clear E; intro b_ w_ hb_ E) | refine LnL.nil ?_) | ((with_reducible refine Bi.dec true ?_ ?_); focus exact rfl) | ((with_reducible refine Bi.dec false ?_ ?_); focus exact rfl) | ((with_reducible refine Bi.sdec true ?_ ?_); focus decide) | ((with_reducible refine Bi.sdec false ?_ ?_); focus decide))
  refine Eq.et u_p_tree rfl ?_
  (repeat first | (with_reducible first | refine Stp.go ?_ | refine StpE.go E ?_ | (refine StpW.go E ?_; clear E; intro w_ E) | (refine StpA.go E ?_; clear E; intro b_ w_ hb_ E) | refine LnL.nil ?_) | ((with_reducible refine Bi.dec true ?_ ?_); focus exact rfl) | ((with_reducible refine Bi.dec false ?_ ?_); focus exact rfl) | ((with_reducible refine Bi.sdec true ?_ ?_); focus decide) | ((with_reducible refine Bi.sdec false ?_ ?_); focus decide))
  exact ⟨rfl, E.tl⟩
theorem Read_nil {h off k : Int} (E : Hs w0 F w l) : Ca PP Fn.tree_Tree_Read #[np, i64 h, i64 off, i64 k] w fun r w' => r = .tuple #[str emp, i64 6] ∧ Hs w0 F w' l := by
  refine S.tree_Tree_Read.calls ?_
  unfold S.tree_Tree_Read
  refine (opened_nil E).mono ?_
  clear E
  rintro r w_ ⟨rfl, E⟩
  (repeat first | (with_reducible first | refine Stp.go ?_ | refine StpE.go E ?_ | (refine StpW.go E ?_; clear E; intro w_ E) | (refine StpA.go E ?_; clear E; intro b_ w_ hb_ E) | refine LnL.nil ?_) | ((with_reducible refine Bi.dec true ?_ ?_); focus exact rfl) | ((with_reducible refine Bi.dec false ?_ ?_); focus exact rfl) | ((with_reducible refine Bi.sdec true ?_ ?_); focus decide) | ((with_reducible refine Bi.sdec false ?_ ?_); focus decide))
  exact ⟨rfl, E.tl⟩
theorem List_nil {h : Int} (E : Hs w0 F w l) : Ca PP Fn.tree_Tree_List #[np, i64 h] w fun r w' => r = .tuple #[.slice none 0 0, i64 6] ∧ Hs w0 F w' l := by
  refine S.tree_Tree_List.calls ?_
  unfold S.tree_Tree_List
  refine (opened_nil E).mono ?_
  clear E
  rintro r w_ ⟨rfl, E⟩
  (repeat first | (with_reducible first | refine Stp.go ?_ | refine StpE.go E ?_ | (refine StpW.go E ?_; clear E; intro w_ E) | (refine StpA.go E ?_; clear E; intro b_ w_ hb_ E) | refine LnL.nil ?_) | ((with_reducible refine Bi.dec true ?_ ?_); focus exact rfl) | ((with_reducible refine Bi.dec false ?_ ?_); focus exact rfl) | ((with_reducible refine Bi.sdec true ?_ ?_); focus decide) | ((with_reducible refine Bi.sdec false ?_ ?_); focus decide))
  exact ⟨rfl, E.tl⟩
theorem Write_nil {h off : Int} {d : BA} (E : Hs w0 F w l) : Ca PP Fn.tree_Tree_Write #[np, i64 h, i64 off, str d] w fun r w' => r = .tuple #[i64 0, i64 6] ∧ Hs w0 F w' l := by
  refine S.tree_Tree_Write.calls ?_
  unfold S.tree_Tree_Write
  refine (opened_nil E).mono ?_
  clear E
  rintro r w_ ⟨rfl, E⟩
  (repeat first | (with_reducible first | refine Stp.go ?_ | refine StpE.go E ?_ | (refine StpW.go E ?_; clear E; intro w_ E) | (refine StpA.go E ?_; clear E; intro b_ w_ hb_ E) | refine LnL.nil ?_) | ((with_reducible refine Bi.dec true ?_ ?_); focus exact rfl) | ((with_reducible refine Bi.dec false ?_ ?_); focus exact rfl) | ((with_reducible refine Bi.sdec true ?_ ?_); focus decide) | ((with_reducible refine Bi.sdec false ?_ ?_); focus decide))
  exact ⟨rfl, E.tl⟩
theorem Close_nil {h : Int} (E : Hs w0 F w l) : Ca PP Fn.tree_Tree_Close #[np, i64 h] w fun r w' => r = i64 6 ∧ Hs w0 F w' l := by
  refine S.tree_Tree_Close.calls ?_
  unfold S.tree_Tree_Close
  refine (opened_nil E).mono ?_
  clear E
  rintro r w_ ⟨rfl, E⟩
  (repeat first | (with_reducible first | refine Stp.go ?_ | refine StpE.go E ?_ | (refine StpW.go E ?_; clear E; intro w_ E) | (refine StpA.go E ?_; clear E; intro b_ w_ hb_ E) | refine LnL.nil ?_) | ((with_reducible refine Bi.dec true ?_ ?_); focus exact rfl) | ((with_reducible refine Bi.dec false ?_ ?_); focus exact rfl) | ((with_reducible refine Bi.sdec true ?_ ?_); focus decide) | ((with_reducible refine Bi.sdec false ?_ ?_); focus decide))
  exact ⟨rfl, E.tl⟩
theorem Remove_nil {user : BA} {p : Int} (E : Hs w0 F w l) : Ca PP Fn.tree_Tree_Remove #[np, str user, i64 p] w fun r w' => r = i64 6 ∧ Hs w0 F w' l := by
  refine S.tree_Tree_Remove.calls ?_
  unfold S.tree_Tree_Remove
  refine (find_nil E).mono ?_
  clear E
  rintro r w_ ⟨rfl, E⟩
  (repeat first | (with_reducible first | refine Stp.go ?_ | refine StpE.go E ?_ | (refine StpW.go E ?_; clear E; intro w_ E) | (refine StpA.go E ?_; clear E; intro b_ w_ hb_ E) | refine LnL.nil ?_) | ((with_reducible refine Bi.dec true ?_ ?_); focus exact rfl) | ((with_reducible refine Bi.dec false ?_ ?_); focus exact rfl) | ((with_reducible refine Bi.sdec true ?_ ?_); focus decide) | ((with_reducible refine Bi.sdec false ?_ ?_); focus decide))
  exact ⟨rfl, E⟩
theorem Wstat_nil {user : BA} {p : Int} {d : Dr} (E : Hs w0 F w l) : Ca PP Fn.tree_Tree_Wstat #[np, str user, i64 p, d.V] w fun r w' => r = i64 6 ∧ ∃ l', Hs w0 F w' l' ∧ ∃ k, l' = k ++ l := by
  refine S.tree_Tree_Wstat.calls ?_
  unfold S.tree_Tree_Wstat
  (repeat first | (with_reducible first | refine Stp.go ?_ | refine StpE.go E ?_ | (refine StpW.go E ?_; clear E; intro w_ E) | (refine StpA.go E ?_; clear E; intro b_ w_ hb_ E) | refine LnL.nil ?_) | ((with_reducible refine Bi.dec true ?_ ?_); focus exact rfl) | ((with_reducible refine Bi.dec false ?_ ?_); focus exact rfl) | ((with_reducible refine Bi.sdec true ?_ ?_); focus decide) | ((with_reducible refine Bi.sdec false ?_ ?_); focus decide))
  refine (find_nil E).mono ?_
  clear E
  rintro r w_ ⟨rfl, E⟩
  (repeat first | (with_reducible first | refine Stp.go ?_ | refine StpE.go E ?_ | (refine StpW.go E ?_; clear E; intro w_ E) | (refine StpA.go E ?_; clear E; intro b_ w_ hb_ E) | refine LnL.nil ?_) | ((with_reducible refine Bi.dec true ?_ ?_); focus exact rfl) | ((with_reducible refine Bi.dec false ?_ ?_); focus exact rfl) | ((with_reducible refine Bi.sdec true ?_ ?_); focus decide) | ((with_reducible refine Bi.sdec false ?_ ?_); focus decide))
  exact ⟨rfl, _, E, [_], rfl⟩
theorem Find_nil {p : BA} (E : Hs w0 F w l) : Ca PP Fn.tree_Tree_Find #[np, str p] w fun r w' => r = .tuple #[q0.V, i64 6] ∧ Hs w0 F w' l := by
  refine S.tree_Tree_Find.calls ?_
  unfold S.tree_Tree_Find
  (repeat first | (with_reducible first | refine Stp.go ?_ | refine StpE.go E ?_ | (refine StpW.go E ?_; clear E; intro w_ E) | (refine StpA.go E ?_; clear E; intro b_ w_ hb_ E) | refine LnL.nil ?_) | ((with_reducible refine Bi.dec true ?_ ?_); focus exact rfl) | ((with_reducible refine Bi.dec false ?_ ?_); focus exact rfl) | ((with_reducible refine Bi.sdec true ?_ ?_); focus decide) | ((with_reducible refine Bi.sdec false ?_ ?_); focus decide))
  refine Eq.et u_p_tree rfl ?_
  (repeat first | (with_reducible first | refine Stp.go ?_ | refine StpE.go E ?_ | (refine StpW.go E ?_; clear E; intro w_ E) | (refine StpA.go E ?_; clear E; intro b_ w_ hb_ E) | refine LnL.nil ?_) | ((with_reducible refine Bi.dec true ?_ ?_); focus exact rfl) | ((with_reducible refine Bi.dec false ?_ ?_); focus exact rfl) | ((with_reducible refine Bi.sdec true ?_ ?_); focus decide) | ((with_reducible refine Bi.sdec false ?_ ?_); focus decide))
  exact ⟨rfl, E.tl⟩
theorem Path_nil {p : Int} (E : Hs w0 F w l) : Ca PP Fn.tree_Tree_Path #[np, i64 p] w fun r w' => r = .tuple #[str emp, i64 6] ∧ Hs w0 F w' l := by
  refine S.tree_Tree_Path.calls ?_
  unfold S.tree_Tree_Path
  refine (find_nil E).mono ?_
  clear E
  rintro r w_ ⟨rfl, E⟩
  (repeat first | (with_reducible first | refine Stp.go ?_ | refine StpE.go E ?_ | (refine StpW.go E ?_; clear E; intro w_ E) | (refine StpA.go E ?_; clear E; intro b_ w_ hb_ E) | refine LnL.nil ?_) | ((with_reducible refine Bi.dec true ?_ ?_); focus exact rfl) | ((with_reducible refine Bi.dec false ?_ ?_); focus exact rfl) | ((with_reducible refine Bi.sdec true ?_ ?_); focus decide) | ((with_reducible refine Bi.sdec false ?_ ?_); focus decide))
  exact ⟨rfl, E⟩
end Go.Proofs.YtnnhmahemklnkaaGreatDoor

/-
  Trees: answers; whether two are the same; what is done to a nil tree.
-/
namespace Go.Proofs.YtnnhmahemklnkaaGreatDoor
open Go Go.Sh
set_option maxRecDepth 100000
set_option linter.unusedVariables false
set_option linter.unusedSimpArgs false
variable {w0 w : World} {F : Nat → Prop} {l : List As}

/-- What an operation answers. -/
structure An where
  qid : Qd := q0
  dir : Dr := d0
  handle : Int := 0
  text : BA := emp
  dirs : List Dr := []
  errno : Int := 0
abbrev An.C (a : An) (dv : Value) : List Value :=
  [i64 a.qid.kind, i64 a.qid.vers, i64 a.qid.path, i64 a.dir.kind, i64 a.dir.vers, i64 a.dir.path, i64 a.dir.mode, i64 a.dir.time, i64 a.dir.len, str a.dir.name, str a.dir.owner, str a.dir.group, str a.dir.last, i64 a.handle, str a.text, dv, i64 a.errno]
abbrev An.V (a : An) (dv : Value) : Value := .agg (a.C dv).toArray
abbrev dcs (ds : List Dr) : List Value := ds.flatMap Dr.cs
/-- An operation that is asked for. -/
structure Ac where
  kind : Int
  handle : Int
  file : Int
  user : BA
  name : BA
  mode : Int
  perm : Int
  count : Int
  offset : Int
  data : BA
  dir : Dr
abbrev Ac.C (x : Ac) : List Value :=
  [i64 x.kind, i64 x.handle, i64 x.file, str x.user, str x.name, i64 x.mode, i64 x.perm, i64 x.count, i64 x.offset, str x.data, i64 x.dir.kind, i64 x.dir.vers, i64 x.dir.path, i64 x.dir.mode, i64 x.dir.time, i64 x.dir.len, str x.dir.name, str x.dir.owner, str x.dir.group, str x.dir.last]
abbrev Ac.V (x : Ac) : Value := .agg x.C.toArray

theorem ceq_self : ∀ {k : LK} {v : Value}, k.fit v = true → ceq v v = true
  | .int _, .int _ _, _ => by simp [ceq]
  | .str, .string _, _ => by simp [ceq]
  | .bool, .bool _, _ => by simp [ceq]
theorem ceqL_self : ∀ {ks : List LK} {xs : List Value}, fitL ks xs = true → ceqL xs xs = true
  | [], [], _ => rfl
  | k :: ks, x :: xs, h => by
    simp only [fitL, Bool.and_eq_true] at h
    simp only [ceqL, ceq_self h.1, ceqL_self h.2, Bool.and_self]
  | [], _ :: _, h => by simp [fitL] at h
  | _ :: _, [], h => by simp [fitL] at h
theorem EqS.eS {P : Program} {w : World} {t : TypeId} {ks : List LK} {xs : List Value} {x y : Operand} {k : Value → Prop} (h : lv P 20 t = some ks) (hs : isSt P t = true) (hg : P.eqGuardType P.depth t = false) (hx : fitL ks xs = true)
    (hk : k (.bool true)) : Rd P (eqS .eql t x y (.agg xs.toArray) (.agg xs.toArray)) w k := EqS.e h hs hg hx hx (by rw [ceqL_self hx]; exact hk)
theorem EqS.nS {P : Program} {w : World} {t : TypeId} {ks : List LK} {xs : List Value} {x y : Operand} {k : Value → Prop} (h : lv P 20 t = some ks) (hs : isSt P t = true) (hg : P.eqGuardType P.depth t = false) (hx : fitL ks xs = true)
    (hk : k (.bool false)) : Rd P (eqS .neq t x y (.agg xs.toArray) (.agg xs.toArray)) w k := EqS.n h hs hg hx hx (by rw [ceqL_self hx]; exact hk)
abbrev lkDir : List LK := [.int .i64, .int .i64, .int .i64, .int .i64, .int .i64, .int .i64, .str, .str, .str, .str]
theorem lv_Dir : lv PP 20 Ty.api_Dir = some lkDir := by kernel_rfl
theorem st_Dir : isSt PP Ty.api_Dir = true := by kernel_rfl
theorem g_Dir : PP.eqGuardType PP.depth Ty.api_Dir = false := by kernel_rfl
theorem dcs_len (ds : List Dr) : (dcs ds).length = ds.length * 10 := by
  induction ds with
  | nil => rfl
  | cons d r ih =>
    rw [dcs, List.flatMap_cons, List.length_append, List.length_cons]
    have : (List.flatMap Dr.cs r).length = r.length * 10 := ih
    rw [this]
    show 10 + r.length * 10 = (r.length + 1) * 10
    omega
theorem dcs_drop (ds : List Dr) : ∀ i : Nat, (dcs ds).drop (i * 10) = dcs (ds.drop i) := by
  induction ds with
  | nil => intro i; simp
  | cons d r ih =>
    intro i
    cases i with
    | zero => simp
    | succ i =>
      rw [dcs, List.flatMap_cons, show (i + 1) * 10 = i * 10 + 10 by omega]
      simp only [Dr.cs, List.cons_append, List.nil_append, List.drop_succ_cons]
      exact ih i
theorem eqDirs_ok {u v : Value} {ds : List Dr} (hn : ds.length ≤ 1000000000) (E : Hs w0 F w l) (h1 : RdS w0 F l 10 ds.length u (dcs ds)) (h2 : RdS w0 F l 10 ds.length v (dcs ds)) :
    Ca PP Fn.slices_Equal_sl_api_Dir_api_Dir #[u, v] w fun r w' => r = .bool true ∧ Hs w0 F w' l := by
  refine S.slices_Equal_sl_api_Dir_api_Dir.calls ?_
  unfold S.slices_Equal_sl_api_Dir_api_Dir
  refine h1.len ?_
  refine h2.len ?_
  refine Bi.neq (fun h => absurd rfl h) fun _ => ?_
  (repeat first | (with_reducible first | refine Stp.go ?_ | refine StpE.go E ?_ | (refine StpW.go E ?_; clear E; intro w_ E) | (refine StpA.go E ?_; clear E; intro b_ w_ hb_ E) | refine LnL.nil ?_) | ((with_reducible refine Bi.dec true ?_ ?_); focus exact rfl) | ((with_reducible refine Bi.dec false ?_ ?_); focus exact rfl) | ((with_reducible refine Bi.sdec true ?_ ?_); focus decide) | ((with_reducible refine Bi.sdec false ?_ ?_); focus decide))
  refine h1.len ?_
  refine ⟨fun l1 w1 => ∃ i : Nat, l1 = [i64 i] ∧ i ≤ ds.length ∧ Hs w0 F w1 l, fun l1 _ => match l1 with | [.int _ i] => ds.length - i.toNat | _ => 0, ⟨0, rfl, Nat.zero_le _, E⟩, ?_⟩
  clear E
  rintro t u1 w1 ⟨i, e, hi, E⟩
  cases e
  refine Bi.lss ?_ ?_ <;> intro hlt <;> (repeat first | (with_reducible first | refine Stp.go ?_ | refine StpE.go E ?_ | (refine StpW.go E ?_; clear E; intro w_ E) | (refine StpA.go E ?_; clear E; intro b_ w_ hb_ E) | refine LnL.nil ?_) | ((with_reducible refine Bi.dec true ?_ ?_); focus exact rfl) | ((with_reducible refine Bi.dec false ?_ ?_); focus exact rfl) | ((with_reducible refine Bi.sdec true ?_ ?_); focus decide) | ((with_reducible refine Bi.sdec false ?_ ?_); focus decide))
  · have hx : ds[i]? = some ds[i] := List.getElem?_eq_getElem (by omega)
    have hd : (dcs ds).drop (((i : Int)).toNat * 10) = ds[i].cs ++ dcs (ds.drop (i + 1)) := by
      rw [Int.toNat_natCast, dcs_drop, List.drop_eq_getElem_cons (by omega)]; rfl
    refine h1.ix (by omega) (by omega) (by omega) ?_
    intro a ha
    rw [hd] at ha
    refine ha.lda E (m := 10) (ds := ds[i].cs) rfl rfl (by omega) ?_
    refine h2.ix (by omega) (by omega) (by omega) ?_
    intro a2 ha2
    rw [hd] at ha2
    refine ha2.lda E (m := 10) (ds := ds[i].cs) rfl rfl (by omega) ?_
    refine EqS.nS lv_Dir st_Dir g_Dir rfl ?_
    (repeat first | (with_reducible first | refine Stp.go ?_ | refine StpE.go E ?_ | (refine StpW.go E ?_; clear E; intro w_ E) | (refine StpA.go E ?_; clear E; intro b_ w_ hb_ E) | refine LnL.nil ?_) | ((with_reducible refine Bi.dec true ?_ ?_); focus exact rfl) | ((with_reducible refine Bi.dec false ?_ ?_); focus exact rfl) | ((with_reducible refine Bi.sdec true ?_ ?_); focus decide) | ((with_reducible refine Bi.sdec false ?_ ?_); focus decide))
    refine Bi.add (by omega) ?_
    exact ⟨⟨i + 1, by simp, by omega, E⟩, by simp only []; omega⟩
  · exact ⟨rfl, E⟩
theorem Bi.seqR {s : ByteArray} {k : Value → Prop} (hk : k (.bool true)) : Bi .eql (.string s) (.string s) k := Bi.seqT rfl hk
theorem Bi.eqlR {kk : IntKind} {a : Int} {k : Value → Prop} (hk : k (.bool true)) : Bi .eql (.int kk a) (.int kk a) k := Bi.eql (fun _ => hk) fun h => absurd rfl h
/-- Slices are values of one cell. -/
theorem RdS_scal {n sz : Nat} {v : Value} {xs : List Value} (h : RdS w0 F l sz n v xs) : Scal v := by
  obtain ⟨a, c, rfl, _⟩ := h; exact ⟨rfl⟩
theorem Same_ok {a : An} {u v : Value} (hn : a.dirs.length ≤ 1000000000) (E : Hs w0 F w l) (h1 : RdS w0 F l 10 a.dirs.length u (dcs a.dirs)) (h2 : RdS w0 F l 10 a.dirs.length v (dcs a.dirs)) :
    Ca PP Fn.law28_Same #[a.V u, a.V v] w fun r w' => r = .bool true ∧ Hs w0 F w' l := by
  refine S.law28_Same.calls ?_
  unfold S.law28_Same
  have i1 := RdS_scal h1
  have i2 := RdS_scal h2
  (repeat first | (with_reducible first | refine Stp.go ?_ | refine StpE.go E ?_ | (refine StpW.go E ?_; clear E; intro w_ E) | (refine StpA.go E ?_; clear E; intro b_ w_ hb_ E) | (apply hJ5; intro u_) | refine LnL.nil ?_) | ((with_reducible refine Bi.dec true ?_ ?_); focus exact rfl) | ((with_reducible refine Bi.dec false ?_ ?_); focus exact rfl) | ((with_reducible refine Bi.sdec true ?_ ?_); focus decide) | ((with_reducible refine Bi.sdec false ?_ ?_); focus decide))
  (intro J5 hJ5)
  (repeat first | (with_reducible first | refine Stp.go ?_ | refine StpE.go E ?_ | (refine StpW.go E ?_; clear E; intro w_ E) | (refine StpA.go E ?_; clear E; intro b_ w_ hb_ E) | (apply hJ5; intro u_) | refine LnL.nil ?_) | ((with_reducible refine Bi.dec true ?_ ?_); focus exact rfl) | ((with_reducible refine Bi.dec false ?_ ?_); focus exact rfl) | ((with_reducible refine Bi.sdec true ?_ ?_); focus decide) | ((with_reducible refine Bi.sdec false ?_ ?_); focus decide))
  refine EqS.eS (xs := a.qid.cs) lv_Qid st_Qid g_Qid rfl ?_
  (repeat first | (with_reducible first | refine Stp.go ?_ | refine StpE.go E ?_ | (refine StpW.go E ?_; clear E; intro w_ E) | (refine StpA.go E ?_; clear E; intro b_ w_ hb_ E) | (apply hJ5; intro u_) | refine LnL.nil ?_) | ((with_reducible refine Bi.dec true ?_ ?_); focus exact rfl) | ((with_reducible refine Bi.dec false ?_ ?_); focus exact rfl) | ((with_reducible refine Bi.sdec true ?_ ?_); focus decide) | ((with_reducible refine Bi.sdec false ?_ ?_); focus decide))
  refine EqS.eS (xs := a.dir.cs) lv_Dir st_Dir g_Dir rfl ?_
  (repeat first | (with_reducible first | refine Stp.go ?_ | refine StpE.go E ?_ | (refine StpW.go E ?_; clear E; intro w_ E) | (refine StpA.go E ?_; clear E; intro b_ w_ hb_ E) | (apply hJ5; intro u_) | refine LnL.nil ?_) | ((with_reducible refine Bi.dec true ?_ ?_); focus exact rfl) | ((with_reducible refine Bi.dec false ?_ ?_); focus exact rfl) | ((with_reducible refine Bi.sdec true ?_ ?_); focus decide) | ((with_reducible refine Bi.sdec false ?_ ?_); focus decide))
  refine Bi.eqlR ?_
  (repeat first | (with_reducible first | refine Stp.go ?_ | refine StpE.go E ?_ | (refine StpW.go E ?_; clear E; intro w_ E) | (refine StpA.go E ?_; clear E; intro b_ w_ hb_ E) | (apply hJ5; intro u_) | refine LnL.nil ?_) | ((with_reducible refine Bi.dec true ?_ ?_); focus exact rfl) | ((with_reducible refine Bi.dec false ?_ ?_); focus exact rfl) | ((with_reducible refine Bi.sdec true ?_ ?_); focus decide) | ((with_reducible refine Bi.sdec false ?_ ?_); focus decide))
  refine Bi.seqR ?_
  (repeat first | (with_reducible first | refine Stp.go ?_ | refine StpE.go E ?_ | (refine StpW.go E ?_; clear E; intro w_ E) | (refine StpA.go E ?_; clear E; intro b_ w_ hb_ E) | (apply hJ5; intro u_) | refine LnL.nil ?_) | ((with_reducible refine Bi.dec true ?_ ?_); focus exact rfl) | ((with_reducible refine Bi.dec false ?_ ?_); focus exact rfl) | ((with_reducible refine Bi.sdec true ?_ ?_); focus decide) | ((with_reducible refine Bi.sdec false ?_ ?_); focus decide))
  refine Bi.eqlR ?_
  (repeat first | (with_reducible first | refine Stp.go ?_ | refine StpE.go E ?_ | (refine StpW.go E ?_; clear E; intro w_ E) | (refine StpA.go E ?_; clear E; intro b_ w_ hb_ E) | (apply hJ5; intro u_) | refine LnL.nil ?_) | ((with_reducible refine Bi.dec true ?_ ?_); focus exact rfl) | ((with_reducible refine Bi.dec false ?_ ?_); focus exact rfl) | ((with_reducible refine Bi.sdec true ?_ ?_); focus decide) | ((with_reducible refine Bi.sdec false ?_ ?_); focus decide))
  refine (eqDirs_ok hn E ((h1.cons _).cons _) ((h2.cons _).cons _)).mono ?_
  clear E
  rintro r w_ ⟨rfl, E⟩
  (repeat first | (with_reducible first | refine Stp.go ?_ | refine StpE.go E ?_ | (refine StpW.go E ?_; clear E; intro w_ E) | (refine StpA.go E ?_; clear E; intro b_ w_ hb_ E) | (apply hJ5; intro u_) | refine LnL.nil ?_) | ((with_reducible refine Bi.dec true ?_ ?_); focus exact rfl) | ((with_reducible refine Bi.dec false ?_ ?_); focus exact rfl) | ((with_reducible refine Bi.sdec true ?_ ?_); focus decide) | ((with_reducible refine Bi.sdec false ?_ ?_); focus decide))
  exact ⟨rfl, E.tl.tl⟩
end Go.Proofs.YtnnhmahemklnkaaGreatDoor

/-
  TreeNil: the law.
-/
namespace Go.Proofs.YtnnhmahemklnkaaGreatDoor
open Go Go.Sh
set_option maxRecDepth 100000
set_option linter.unusedVariables false
set_option linter.unusedSimpArgs false
variable {w0 w : World} {F : Nat → Prop} {l : List As}

abbrev a0V : An := {}
abbrev a6V : An := { errno := 6 }
theorem Do_nil {x : Ac} (hk : 0 ≤ x.kind ∧ x.kind < 12) (E : Hs w0 F w l) : Ca PP Fn.law28_Do #[np, x.V] w fun r w' => r = a6V.V (.slice none 0 0) ∧ ∃ l', Hs w0 F w' (l' ++ l) := by
  refine S.law28_Do.calls ?_
  unfold S.law28_Do
  refine StpA.go E ?_
  clear E
  intro q w_ h1 E
  refine StpA.go E ?_
  clear E
  intro b w_ h2 E
  (repeat first | (with_reducible first | refine Stp.go ?_ | refine StpE.go E ?_ | (refine StpW.go E ?_; clear E; intro w_ E) | (refine StpA.go E ?_; clear E; intro b_ w_ hb_ E) | (apply hJ9; intro u_) | refine LnL.nil ?_) | ((with_reducible refine Bi.dec true ?_ ?_); focus exact rfl) | ((with_reducible refine Bi.dec false ?_ ?_); focus exact rfl) | ((with_reducible refine Bi.sdec true ?_ ?_); focus decide) | ((with_reducible refine Bi.sdec false ?_ ?_); focus decide))
  (revert b_; intro c hbc E)
  (first | (refine StA.all E rfl rfl (by first | exact rfl | assumption) ?_; clear E; intro w_ E) | try (refine StA.by E rfl (by first | exact rfl | assumption) ?_; clear E; intro w_ E))
  (intro J9 hJ9)
  have fin : ∀ w_, Hs w0 F w_ (pt c (oc (a6V.C (.slice none 0 0)) Ty.law28_Answer) :: pt b (oc (a0V.C (.slice none 0 0)) Ty.law28_Answer) :: pt q (oc x.C Ty.law28_Act) :: l) → J9 [] w_ := by
    intro w_ E
    (repeat first | (with_reducible first | refine Stp.go ?_ | refine StpE.go E ?_ | (refine StpW.go E ?_; clear E; intro w_ E) | (refine StpA.go E ?_; clear E; intro b_ w_ hb_ E) | (apply hJ9; intro u_) | refine LnL.nil ?_) | ((with_reducible refine Bi.dec true ?_ ?_); focus exact rfl) | ((with_reducible refine Bi.dec false ?_ ?_); focus exact rfl) | ((with_reducible refine Bi.sdec true ?_ ?_); focus decide) | ((with_reducible refine Bi.sdec false ?_ ?_); focus decide))
    (first | (refine StA.all E rfl rfl (by first | exact rfl | assumption) ?_; clear E; intro w_ E) | try (refine StA.by E rfl (by first | exact rfl | assumption) ?_; clear E; intro w_ E))
    (repeat first | (with_reducible first | refine Stp.go ?_ | refine StpE.go E ?_ | (refine StpW.go E ?_; clear E; intro w_ E) | (refine StpA.go E ?_; clear E; intro b_ w_ hb_ E) | (apply hJ9; intro u_) | refine LnL.nil ?_) | ((with_reducible refine Bi.dec true ?_ ?_); focus exact rfl) | ((with_reducible refine Bi.dec false ?_ ?_); focus exact rfl) | ((with_reducible refine Bi.sdec true ?_ ?_); focus decide) | ((with_reducible refine Bi.sdec false ?_ ?_); focus decide))
    exact ⟨rfl, _, show Hs w0 F _ ([_, _, _] ++ l) from E⟩
  clear hJ9
  (repeat first | (with_reducible first | refine Stp.go ?_ | refine StpE.go E ?_ | (refine StpW.go E ?_; clear E; intro w_ E) | (refine StpA.go E ?_; clear E; intro b_ w_ hb_ E) | (apply hJ9; intro u_) | refine LnL.nil ?_) | ((with_reducible refine Bi.dec true ?_ ?_); focus exact rfl) | ((with_reducible refine Bi.dec false ?_ ?_); focus exact rfl) | ((with_reducible refine Bi.sdec true ?_ ?_); focus decide) | ((with_reducible refine Bi.sdec false ?_ ?_); focus decide))
  refine Bi.eql ?_ ?_ <;> intro c0 <;> (repeat first | (with_reducible first | refine Stp.go ?_ | refine StpE.go E ?_ | (refine StpW.go E ?_; clear E; intro w_ E) | (refine StpA.go E ?_; clear E; intro b_ w_ hb_ E) | (apply hJ9; intro u_) | refine LnL.nil ?_) | ((with_reducible refine Bi.dec true ?_ ?_); focus exact rfl) | ((with_reducible refine Bi.dec false ?_ ?_); focus exact rfl) | ((with_reducible refine Bi.sdec true ?_ ?_); focus decide) | ((with_reducible refine Bi.sdec false ?_ ?_); focus decide))
  · refine (Walk_nil E).mono ?_
    clear E
    rintro r w_ ⟨rfl, E⟩
    (repeat first | (with_reducible first | refine Stp.go ?_ | refine StpE.go E ?_ | (refine StpW.go E ?_; clear E; intro w_ E) | (refine StpA.go E ?_; clear E; intro b_ w_ hb_ E) | (apply hJ9; intro u_) | refine LnL.nil ?_) | ((with_reducible refine Bi.dec true ?_ ?_); focus exact rfl) | ((with_reducible refine Bi.dec false ?_ ?_); focus exact rfl) | ((with_reducible refine Bi.sdec true ?_ ?_); focus decide) | ((with_reducible refine Bi.sdec false ?_ ?_); focus decide))
    exact fin _ E
  refine Bi.eql ?_ ?_ <;> intro c1 <;> (repeat first | (with_reducible first | refine Stp.go ?_ | refine StpE.go E ?_ | (refine StpW.go E ?_; clear E; intro w_ E) | (refine StpA.go E ?_; clear E; intro b_ w_ hb_ E) | (apply hJ9; intro u_) | refine LnL.nil ?_) | ((with_reducible refine Bi.dec true ?_ ?_); focus exact rfl) | ((with_reducible refine Bi.dec false ?_ ?_); focus exact rfl) | ((with_reducible refine Bi.sdec true ?_ ?_); focus decide) | ((with_reducible refine Bi.sdec false ?_ ?_); focus decide))
  · refine (Stat_nil E).mono ?_
    clear E
    rintro r w_ ⟨rfl, E⟩
    (repeat first | (with_reducible first | refine Stp.go ?_ | refine StpE.go E ?_ | (refine StpW.go E ?_; clear E; intro w_ E) | (refine StpA.go E ?_; clear E; intro b_ w_ hb_ E) | (apply hJ9; intro u_) | refine LnL.nil ?_) | ((with_reducible refine Bi.dec true ?_ ?_); focus exact rfl) | ((with_reducible refine Bi.dec false ?_ ?_); focus exact rfl) | ((with_reducible refine Bi.sdec true ?_ ?_); focus decide) | ((with_reducible refine Bi.sdec false ?_ ?_); focus decide))
    refine St.ten E rfl ?_
    clear E
    intro w_ E
    (repeat first | (with_reducible first | refine Stp.go ?_ | refine StpE.go E ?_ | (refine StpW.go E ?_; clear E; intro w_ E) | (refine StpA.go E ?_; clear E; intro b_ w_ hb_ E) | (apply hJ9; intro u_) | refine LnL.nil ?_) | ((with_reducible refine Bi.dec true ?_ ?_); focus exact rfl) | ((with_reducible refine Bi.dec false ?_ ?_); focus exact rfl) | ((with_reducible refine Bi.sdec true ?_ ?_); focus decide) | ((with_reducible refine Bi.sdec false ?_ ?_); focus decide))
    exact fin _ E
  refine Bi.eql ?_ ?_ <;> intro c2 <;> (repeat first | (with_reducible first | refine Stp.go ?_ | refine StpE.go E ?_ | (refine StpW.go E ?_; clear E; intro w_ E) | (refine StpA.go E ?_; clear E; intro b_ w_ hb_ E) | (apply hJ9; intro u_) | refine LnL.nil ?_) | ((with_reducible refine Bi.dec true ?_ ?_); focus exact rfl) | ((with_reducible refine Bi.dec false ?_ ?_); focus exact rfl) | ((with_reducible refine Bi.sdec true ?_ ?_); focus decide) | ((with_reducible refine Bi.sdec false ?_ ?_); focus decide))
  · refine (Wstat_nil (d := x.dir) E).mono ?_
    clear E
    rintro r w_ ⟨rfl, l', E, k, rfl⟩
    replace E := E.drop (List.sublist_append_right _ _)
    (repeat first | (with_reducible first | refine Stp.go ?_ | refine StpE.go E ?_ | (refine StpW.go E ?_; clear E; intro w_ E) | (refine StpA.go E ?_; clear E; intro b_ w_ hb_ E) | (apply hJ9; intro u_) | refine LnL.nil ?_) | ((with_reducible refine Bi.dec true ?_ ?_); focus exact rfl) | ((with_reducible refine Bi.dec false ?_ ?_); focus exact rfl) | ((with_reducible refine Bi.sdec true ?_ ?_); focus decide) | ((with_reducible refine Bi.sdec false ?_ ?_); focus decide))
    exact fin _ E
  refine Bi.eql ?_ ?_ <;> intro c3 <;> (repeat first | (with_reducible first | refine Stp.go ?_ | refine StpE.go E ?_ | (refine StpW.go E ?_; clear E; intro w_ E) | (refine StpA.go E ?_; clear E; intro b_ w_ hb_ E) | (apply hJ9; intro u_) | refine LnL.nil ?_) | ((with_reducible refine Bi.dec true ?_ ?_); focus exact rfl) | ((with_reducible refine Bi.dec false ?_ ?_); focus exact rfl) | ((with_reducible refine Bi.sdec true ?_ ?_); focus decide) | ((with_reducible refine Bi.sdec false ?_ ?_); focus decide))
  · refine (Open_nil E).mono ?_
    clear E
    rintro r w_ ⟨rfl, E⟩
    (repeat first | (with_reducible first | refine Stp.go ?_ | refine StpE.go E ?_ | (refine StpW.go E ?_; clear E; intro w_ E) | (refine StpA.go E ?_; clear E; intro b_ w_ hb_ E) | (apply hJ9; intro u_) | refine LnL.nil ?_) | ((with_reducible refine Bi.dec true ?_ ?_); focus exact rfl) | ((with_reducible refine Bi.dec false ?_ ?_); focus exact rfl) | ((with_reducible refine Bi.sdec true ?_ ?_); focus decide) | ((with_reducible refine Bi.sdec false ?_ ?_); focus decide))
    exact fin _ E
  refine Bi.eql ?_ ?_ <;> intro c4 <;> (repeat first | (with_reducible first | refine Stp.go ?_ | refine StpE.go E ?_ | (refine StpW.go E ?_; clear E; intro w_ E) | (refine StpA.go E ?_; clear E; intro b_ w_ hb_ E) | (apply hJ9; intro u_) | refine LnL.nil ?_) | ((with_reducible refine Bi.dec true ?_ ?_); focus exact rfl) | ((with_reducible refine Bi.dec false ?_ ?_); focus exact rfl) | ((with_reducible refine Bi.sdec true ?_ ?_); focus decide) | ((with_reducible refine Bi.sdec false ?_ ?_); focus decide))
  · refine (Create_nil E).mono ?_
    clear E
    rintro r w_ ⟨rfl, E⟩
    (repeat first | (with_reducible first | refine Stp.go ?_ | refine StpE.go E ?_ | (refine StpW.go E ?_; clear E; intro w_ E) | (refine StpA.go E ?_; clear E; intro b_ w_ hb_ E) | (apply hJ9; intro u_) | refine LnL.nil ?_) | ((with_reducible refine Bi.dec true ?_ ?_); focus exact rfl) | ((with_reducible refine Bi.dec false ?_ ?_); focus exact rfl) | ((with_reducible refine Bi.sdec true ?_ ?_); focus decide) | ((with_reducible refine Bi.sdec false ?_ ?_); focus decide))
    exact fin _ E
  refine Bi.eql ?_ ?_ <;> intro c5 <;> (repeat first | (with_reducible first | refine Stp.go ?_ | refine StpE.go E ?_ | (refine StpW.go E ?_; clear E; intro w_ E) | (refine StpA.go E ?_; clear E; intro b_ w_ hb_ E) | (apply hJ9; intro u_) | refine LnL.nil ?_) | ((with_reducible refine Bi.dec true ?_ ?_); focus exact rfl) | ((with_reducible refine Bi.dec false ?_ ?_); focus exact rfl) | ((with_reducible refine Bi.sdec true ?_ ?_); focus decide) | ((with_reducible refine Bi.sdec false ?_ ?_); focus decide))
  · refine (Read_nil E).mono ?_
    clear E
    rintro r w_ ⟨rfl, E⟩
    (repeat first | (with_reducible first | refine Stp.go ?_ | refine StpE.go E ?_ | (refine StpW.go E ?_; clear E; intro w_ E) | (refine StpA.go E ?_; clear E; intro b_ w_ hb_ E) | (apply hJ9; intro u_) | refine LnL.nil ?_) | ((with_reducible refine Bi.dec true ?_ ?_); focus exact rfl) | ((with_reducible refine Bi.dec false ?_ ?_); focus exact rfl) | ((with_reducible refine Bi.sdec true ?_ ?_); focus decide) | ((with_reducible refine Bi.sdec false ?_ ?_); focus decide))
    exact fin _ E
  refine Bi.eql ?_ ?_ <;> intro c6 <;> (repeat first | (with_reducible first | refine Stp.go ?_ | refine StpE.go E ?_ | (refine StpW.go E ?_; clear E; intro w_ E) | (refine StpA.go E ?_; clear E; intro b_ w_ hb_ E) | (apply hJ9; intro u_) | refine LnL.nil ?_) | ((with_reducible refine Bi.dec true ?_ ?_); focus exact rfl) | ((with_reducible refine Bi.dec false ?_ ?_); focus exact rfl) | ((with_reducible refine Bi.sdec true ?_ ?_); focus decide) | ((with_reducible refine Bi.sdec false ?_ ?_); focus decide))
  · refine (List_nil E).mono ?_
    clear E
    rintro r w_ ⟨rfl, E⟩
    (repeat first | (with_reducible first | refine Stp.go ?_ | refine StpE.go E ?_ | (refine StpW.go E ?_; clear E; intro w_ E) | (refine StpA.go E ?_; clear E; intro b_ w_ hb_ E) | (apply hJ9; intro u_) | refine LnL.nil ?_) | ((with_reducible refine Bi.dec true ?_ ?_); focus exact rfl) | ((with_reducible refine Bi.dec false ?_ ?_); focus exact rfl) | ((with_reducible refine Bi.sdec true ?_ ?_); focus decide) | ((with_reducible refine Bi.sdec false ?_ ?_); focus decide))
    exact fin _ E
  refine Bi.eql ?_ ?_ <;> intro c7 <;> (repeat first | (with_reducible first | refine Stp.go ?_ | refine StpE.go E ?_ | (refine StpW.go E ?_; clear E; intro w_ E) | (refine StpA.go E ?_; clear E; intro b_ w_ hb_ E) | (apply hJ9; intro u_) | refine LnL.nil ?_) | ((with_reducible refine Bi.dec true ?_ ?_); focus exact rfl) | ((with_reducible refine Bi.dec false ?_ ?_); focus exact rfl) | ((with_reducible refine Bi.sdec true ?_ ?_); focus decide) | ((with_reducible refine Bi.sdec false ?_ ?_); focus decide))
  · refine (Write_nil E).mono ?_
    clear E
    rintro r w_ ⟨rfl, E⟩
    (repeat first | (with_reducible first | refine Stp.go ?_ | refine StpE.go E ?_ | (refine StpW.go E ?_; clear E; intro w_ E) | (refine StpA.go E ?_; clear E; intro b_ w_ hb_ E) | (apply hJ9; intro u_) | refine LnL.nil ?_) | ((with_reducible refine Bi.dec true ?_ ?_); focus exact rfl) | ((with_reducible refine Bi.dec false ?_ ?_); focus exact rfl) | ((with_reducible refine Bi.sdec true ?_ ?_); focus decide) | ((with_reducible refine Bi.sdec false ?_ ?_); focus decide))
    exact fin _ E
  refine Bi.eql ?_ ?_ <;> intro c8 <;> (repeat first | (with_reducible first | refine Stp.go ?_ | refine StpE.go E ?_ | (refine StpW.go E ?_; clear E; intro w_ E) | (refine StpA.go E ?_; clear E; intro b_ w_ hb_ E) | (apply hJ9; intro u_) | refine LnL.nil ?_) | ((with_reducible refine Bi.dec true ?_ ?_); focus exact rfl) | ((with_reducible refine Bi.dec false ?_ ?_); focus exact rfl) | ((with_reducible refine Bi.sdec true ?_ ?_); focus decide) | ((with_reducible refine Bi.sdec false ?_ ?_); focus decide))
  · refine (Close_nil E).mono ?_
    clear E
    rintro r w_ ⟨rfl, E⟩
    (repeat first | (with_reducible first | refine Stp.go ?_ | refine StpE.go E ?_ | (refine StpW.go E ?_; clear E; intro w_ E) | (refine StpA.go E ?_; clear E; intro b_ w_ hb_ E) | (apply hJ9; intro u_) | refine LnL.nil ?_) | ((with_reducible refine Bi.dec true ?_ ?_); focus exact rfl) | ((with_reducible refine Bi.dec false ?_ ?_); focus exact rfl) | ((with_reducible refine Bi.sdec true ?_ ?_); focus decide) | ((with_reducible refine Bi.sdec false ?_ ?_); focus decide))
    exact fin _ E
  refine Bi.eql ?_ ?_ <;> intro c9 <;> (repeat first | (with_reducible first | refine Stp.go ?_ | refine StpE.go E ?_ | (refine StpW.go E ?_; clear E; intro w_ E) | (refine StpA.go E ?_; clear E; intro b_ w_ hb_ E) | (apply hJ9; intro u_) | refine LnL.nil ?_) | ((with_reducible refine Bi.dec true ?_ ?_); focus exact rfl) | ((with_reducible refine Bi.dec false ?_ ?_); focus exact rfl) | ((with_reducible refine Bi.sdec true ?_ ?_); focus decide) | ((with_reducible refine Bi.sdec false ?_ ?_); focus decide))
  · refine (Remove_nil E).mono ?_
    clear E
    rintro r w_ ⟨rfl, E⟩
    (repeat first | (with_reducible first | refine Stp.go ?_ | refine StpE.go E ?_ | (refine StpW.go E ?_; clear E; intro w_ E) | (refine StpA.go E ?_; clear E; intro b_ w_ hb_ E) | (apply hJ9; intro u_) | refine LnL.nil ?_) | ((with_reducible refine Bi.dec true ?_ ?_); focus exact rfl) | ((with_reducible refine Bi.dec false ?_ ?_); focus exact rfl) | ((with_reducible refine Bi.sdec true ?_ ?_); focus decide) | ((with_reducible refine Bi.sdec false ?_ ?_); focus decide))
    exact fin _ E
  refine Bi.eql ?_ ?_ <;> intro c10 <;> (repeat first | (with_reducible first | refine Stp.go ?_ | refine StpE.go E ?_ | (refine StpW.go E ?_; clear E; intro w_ E) | (refine StpA.go E ?_; clear E; intro b_ w_ hb_ E) | (apply hJ9; intro u_) | refine LnL.nil ?_) | ((with_reducible refine Bi.dec true ?_ ?_); focus exact rfl) | ((with_reducible refine Bi.dec false ?_ ?_); focus exact rfl) | ((with_reducible refine Bi.sdec true ?_ ?_); focus decide) | ((with_reducible refine Bi.sdec false ?_ ?_); focus decide))
  · refine (Find_nil E).mono ?_
    clear E
    rintro r w_ ⟨rfl, E⟩
    (repeat first | (with_reducible first | refine Stp.go ?_ | refine StpE.go E ?_ | (refine StpW.go E ?_; clear E; intro w_ E) | (refine StpA.go E ?_; clear E; intro b_ w_ hb_ E) | (apply hJ9; intro u_) | refine LnL.nil ?_) | ((with_reducible refine Bi.dec true ?_ ?_); focus exact rfl) | ((with_reducible refine Bi.dec false ?_ ?_); focus exact rfl) | ((with_reducible refine Bi.sdec true ?_ ?_); focus decide) | ((with_reducible refine Bi.sdec false ?_ ?_); focus decide))
    exact fin _ E
  refine Bi.eql ?_ ?_ <;> intro c11 <;> (repeat first | (with_reducible first | refine Stp.go ?_ | refine StpE.go E ?_ | (refine StpW.go E ?_; clear E; intro w_ E) | (refine StpA.go E ?_; clear E; intro b_ w_ hb_ E) | (apply hJ9; intro u_) | refine LnL.nil ?_) | ((with_reducible refine Bi.dec true ?_ ?_); focus exact rfl) | ((with_reducible refine Bi.dec false ?_ ?_); focus exact rfl) | ((with_reducible refine Bi.sdec true ?_ ?_); focus decide) | ((with_reducible refine Bi.sdec false ?_ ?_); focus decide))
  · refine (Path_nil E).mono ?_
    clear E
    rintro r w_ ⟨rfl, E⟩
    (repeat first | (with_reducible first | refine Stp.go ?_ | refine StpE.go E ?_ | (refine StpW.go E ?_; clear E; intro w_ E) | (refine StpA.go E ?_; clear E; intro b_ w_ hb_ E) | (apply hJ9; intro u_) | refine LnL.nil ?_) | ((with_reducible refine Bi.dec true ?_ ?_); focus exact rfl) | ((with_reducible refine Bi.dec false ?_ ?_); focus exact rfl) | ((with_reducible refine Bi.sdec true ?_ ?_); focus decide) | ((with_reducible refine Bi.sdec false ?_ ?_); focus decide))
    exact fin _ E
  · omega
theorem rd_none {sz : Nat} : RdS w0 F l sz 0 (.slice none 0 0) [] := ⟨none, 0, rfl, Nat.le_refl _, by simp, .inl rfl⟩
theorem Nil_law {D : List Row} {x : Ac} (E : Hs w0 F w (Pool D :: l)) : Ca PP Fn.law28_TreeNil #[x.V] w fun r w' => r = .bool true ∧ ∃ l', Hs w0 F w' l' := by
  refine S.law28_TreeNil.calls ?_
  unfold S.law28_TreeNil
  refine StpA.go E ?_
  clear E
  intro q w_ h1 E
  (replace E := ((E.bIx 0).bIx 1))
  refine (awake_ok E).mono ?_
  clear E
  rintro r w_ ⟨rfl, D', -, E⟩
  (repeat first | (with_reducible first | refine Stp.go ?_ | refine StpE.go E ?_ | (refine StpW.go E ?_; clear E; intro w_ E) | (refine StpA.go E ?_; clear E; intro b_ w_ hb_ E) | (apply hJ6; intro u_) | (apply hJ10; intro u_) | refine LnL.nil ?_) | ((with_reducible refine Bi.dec true ?_ ?_); focus exact rfl) | ((with_reducible refine Bi.dec false ?_ ?_); focus exact rfl) | ((with_reducible refine Bi.sdec true ?_ ?_); focus decide) | ((with_reducible refine Bi.sdec false ?_ ?_); focus decide))
  (intro J6 hJ6)
  have fin6 : ∀ b w_, b = false → Hs w0 F w_ (Pool D' :: pt q (oc x.C Ty.law28_Act) :: l) → J6 [.bool b] w_ := by
    intro b w_ hb E
    subst hb
    (repeat first | (with_reducible first | refine Stp.go ?_ | refine StpE.go E ?_ | (refine StpW.go E ?_; clear E; intro w_ E) | (refine StpA.go E ?_; clear E; intro b_ w_ hb_ E) | (apply hJ6; intro u_) | (apply hJ10; intro u_) | refine LnL.nil ?_) | ((with_reducible refine Bi.dec true ?_ ?_); focus exact rfl) | ((with_reducible refine Bi.dec false ?_ ?_); focus exact rfl) | ((with_reducible refine Bi.sdec true ?_ ?_); focus decide) | ((with_reducible refine Bi.sdec false ?_ ?_); focus decide))
    (intro J10 hJ10)
    have fin10 : ∀ b w_, b = true → (∃ l', Hs w0 F w_ l') → J10 [.bool b] w_ := by
      intro b w_ hb E
      subst hb
      (repeat first | (with_reducible first | refine Stp.go ?_ | refine StpE.go E ?_ | (refine StpW.go E ?_; clear E; intro w_ E) | (refine StpA.go E ?_; clear E; intro b_ w_ hb_ E) | (apply hJ6; intro u_) | (apply hJ10; intro u_) | refine LnL.nil ?_) | ((with_reducible refine Bi.dec true ?_ ?_); focus exact rfl) | ((with_reducible refine Bi.dec false ?_ ?_); focus exact rfl) | ((with_reducible refine Bi.sdec true ?_ ?_); focus decide) | ((with_reducible refine Bi.sdec false ?_ ?_); focus decide))
      exact ⟨rfl, E⟩
    clear hJ10
    (repeat first | (with_reducible first | refine Stp.go ?_ | refine StpE.go E ?_ | (refine StpW.go E ?_; clear E; intro w_ E) | (refine StpA.go E ?_; clear E; intro b_ w_ hb_ E) | (apply hJ6; intro u_) | (apply hJ10; intro u_) | refine LnL.nil ?_) | ((with_reducible refine Bi.dec true ?_ ?_); focus exact rfl) | ((with_reducible refine Bi.dec false ?_ ?_); focus exact rfl) | ((with_reducible refine Bi.sdec true ?_ ?_); focus decide) | ((with_reducible refine Bi.sdec false ?_ ?_); focus decide))
    refine Bi.lss ?_ ?_ <;> intro c1 <;> (repeat first | (with_reducible first | refine Stp.go ?_ | refine StpE.go E ?_ | (refine StpW.go E ?_; clear E; intro w_ E) | (refine StpA.go E ?_; clear E; intro b_ w_ hb_ E) | (apply hJ6; intro u_) | (apply hJ10; intro u_) | refine LnL.nil ?_) | ((with_reducible refine Bi.dec true ?_ ?_); focus exact rfl) | ((with_reducible refine Bi.dec false ?_ ?_); focus exact rfl) | ((with_reducible refine Bi.sdec true ?_ ?_); focus decide) | ((with_reducible refine Bi.sdec false ?_ ?_); focus decide))
    · exact fin10 _ _ rfl ⟨_, E⟩
    refine Bi.geq ?_ ?_ <;> intro c2 <;> (repeat first | (with_reducible first | refine Stp.go ?_ | refine StpE.go E ?_ | (refine StpW.go E ?_; clear E; intro w_ E) | (refine StpA.go E ?_; clear E; intro b_ w_ hb_ E) | (apply hJ6; intro u_) | (apply hJ10; intro u_) | refine LnL.nil ?_) | ((with_reducible refine Bi.dec true ?_ ?_); focus exact rfl) | ((with_reducible refine Bi.dec false ?_ ?_); focus exact rfl) | ((with_reducible refine Bi.sdec true ?_ ?_); focus decide) | ((with_reducible refine Bi.sdec false ?_ ?_); focus decide))
    · exact fin10 _ _ rfl ⟨_, E⟩
    refine (Do_nil (x := x) ⟨c1, c2⟩ E).mono ?_
    clear E
    rintro r w_ ⟨rfl, l', E⟩
    (repeat first | (with_reducible first | refine Stp.go ?_ | refine StpE.go E ?_ | (refine StpW.go E ?_; clear E; intro w_ E) | (refine StpA.go E ?_; clear E; intro b_ w_ hb_ E) | (apply hJ6; intro u_) | (apply hJ10; intro u_) | refine LnL.nil ?_) | ((with_reducible refine Bi.dec true ?_ ?_); focus exact rfl) | ((with_reducible refine Bi.dec false ?_ ?_); focus exact rfl) | ((with_reducible refine Bi.sdec true ?_ ?_); focus decide) | ((with_reducible refine Bi.sdec false ?_ ?_); focus decide))
    refine (Same_ok (a := a6V) (by simp) E rd_none rd_none).mono ?_
    clear E
    rintro r w_ ⟨rfl, E⟩
    (repeat first | (with_reducible first | refine Stp.go ?_ | refine StpE.go E ?_ | (refine StpW.go E ?_; clear E; intro w_ E) | (refine StpA.go E ?_; clear E; intro b_ w_ hb_ E) | (apply hJ6; intro u_) | (apply hJ10; intro u_) | refine LnL.nil ?_) | ((with_reducible refine Bi.dec true ?_ ?_); focus exact rfl) | ((with_reducible refine Bi.dec false ?_ ?_); focus exact rfl) | ((with_reducible refine Bi.sdec true ?_ ?_); focus decide) | ((with_reducible refine Bi.sdec false ?_ ?_); focus decide))
    exact fin10 _ _ rfl ⟨_, E⟩
  clear hJ6
  refine (Clock_nil E).mono ?_
  clear E
  rintro r w_ ⟨rfl, E⟩
  (repeat first | (with_reducible first | refine Stp.go ?_ | refine StpE.go E ?_ | (refine StpW.go E ?_; clear E; intro w_ E) | (refine StpA.go E ?_; clear E; intro b_ w_ hb_ E) | (apply hJ6; intro u_) | (apply hJ10; intro u_) | refine LnL.nil ?_) | ((with_reducible refine Bi.dec true ?_ ?_); focus exact rfl) | ((with_reducible refine Bi.dec false ?_ ?_); focus exact rfl) | ((with_reducible refine Bi.sdec true ?_ ?_); focus decide) | ((with_reducible refine Bi.sdec false ?_ ?_); focus decide))
  refine (Files_nil E).mono ?_
  clear E
  rintro r w_ ⟨rfl, E⟩
  (repeat first | (with_reducible first | refine Stp.go ?_ | refine StpE.go E ?_ | (refine StpW.go E ?_; clear E; intro w_ E) | (refine StpA.go E ?_; clear E; intro b_ w_ hb_ E) | (apply hJ6; intro u_) | (apply hJ10; intro u_) | refine LnL.nil ?_) | ((with_reducible refine Bi.dec true ?_ ?_); focus exact rfl) | ((with_reducible refine Bi.dec false ?_ ?_); focus exact rfl) | ((with_reducible refine Bi.sdec true ?_ ?_); focus decide) | ((with_reducible refine Bi.sdec false ?_ ?_); focus decide))
  refine (Handles_nil E).mono ?_
  clear E
  rintro r w_ ⟨rfl, E⟩
  (repeat first | (with_reducible first | refine Stp.go ?_ | refine StpE.go E ?_ | (refine StpW.go E ?_; clear E; intro w_ E) | (refine StpA.go E ?_; clear E; intro b_ w_ hb_ E) | (apply hJ6; intro u_) | (apply hJ10; intro u_) | refine LnL.nil ?_) | ((with_reducible refine Bi.dec true ?_ ?_); focus exact rfl) | ((with_reducible refine Bi.dec false ?_ ?_); focus exact rfl) | ((with_reducible refine Bi.sdec true ?_ ?_); focus decide) | ((with_reducible refine Bi.sdec false ?_ ?_); focus decide))
  refine (Clone_nil E).mono ?_
  clear E
  rintro r w_ ⟨rfl, E⟩
  (repeat first | (with_reducible first | refine Stp.go ?_ | refine StpE.go E ?_ | (refine StpW.go E ?_; clear E; intro w_ E) | (refine StpA.go E ?_; clear E; intro b_ w_ hb_ E) | (apply hJ6; intro u_) | (apply hJ10; intro u_) | refine LnL.nil ?_) | ((with_reducible refine Bi.dec true ?_ ?_); focus exact rfl) | ((with_reducible refine Bi.dec false ?_ ?_); focus exact rfl) | ((with_reducible refine Bi.sdec true ?_ ?_); focus decide) | ((with_reducible refine Bi.sdec false ?_ ?_); focus decide))
  refine Eq.nf u_p_tree rfl ?_
  (repeat first | (with_reducible first | refine Stp.go ?_ | refine StpE.go E ?_ | (refine StpW.go E ?_; clear E; intro w_ E) | (refine StpA.go E ?_; clear E; intro b_ w_ hb_ E) | (apply hJ6; intro u_) | (apply hJ10; intro u_) | refine LnL.nil ?_) | ((with_reducible refine Bi.dec true ?_ ?_); focus exact rfl) | ((with_reducible refine Bi.dec false ?_ ?_); focus exact rfl) | ((with_reducible refine Bi.sdec true ?_ ?_); focus decide) | ((with_reducible refine Bi.sdec false ?_ ?_); focus decide))
  refine (Next_nil E).mono ?_
  clear E
  rintro r w_ ⟨rfl, E⟩
  (repeat first | (with_reducible first | refine Stp.go ?_ | refine StpE.go E ?_ | (refine StpW.go E ?_; clear E; intro w_ E) | (refine StpA.go E ?_; clear E; intro b_ w_ hb_ E) | (apply hJ6; intro u_) | (apply hJ10; intro u_) | refine LnL.nil ?_) | ((with_reducible refine Bi.dec true ?_ ?_); focus exact rfl) | ((with_reducible refine Bi.dec false ?_ ?_); focus exact rfl) | ((with_reducible refine Bi.sdec true ?_ ?_); focus decide) | ((with_reducible refine Bi.sdec false ?_ ?_); focus decide))
  refine (Root_nil E).mono ?_
  clear E
  rintro r w_ ⟨rfl, E⟩
  (repeat first | (with_reducible first | refine Stp.go ?_ | refine StpE.go E ?_ | (refine StpW.go E ?_; clear E; intro w_ E) | (refine StpA.go E ?_; clear E; intro b_ w_ hb_ E) | (apply hJ6; intro u_) | (apply hJ10; intro u_) | refine LnL.nil ?_) | ((with_reducible refine Bi.dec true ?_ ?_); focus exact rfl) | ((with_reducible refine Bi.dec false ?_ ?_); focus exact rfl) | ((with_reducible refine Bi.sdec true ?_ ?_); focus decide) | ((with_reducible refine Bi.sdec false ?_ ?_); focus decide))
  refine EqS.nS (xs := q0.cs) lv_Qid st_Qid g_Qid rfl ?_
  (repeat first | (with_reducible first | refine Stp.go ?_ | refine StpE.go E ?_ | (refine StpW.go E ?_; clear E; intro w_ E) | (refine StpA.go E ?_; clear E; intro b_ w_ hb_ E) | (apply hJ6; intro u_) | (apply hJ10; intro u_) | refine LnL.nil ?_) | ((with_reducible refine Bi.dec true ?_ ?_); focus exact rfl) | ((with_reducible refine Bi.dec false ?_ ?_); focus exact rfl) | ((with_reducible refine Bi.sdec true ?_ ?_); focus decide) | ((with_reducible refine Bi.sdec false ?_ ?_); focus decide))
  exact fin6 _ _ rfl E
end Go.Proofs.YtnnhmahemklnkaaGreatDoor

/-
  Laws: operations that are asked for, as arguments.
-/
namespace Go.Proofs.YtnnhmahemklnkaaGreatDoor
open Go Go.Sh
set_option maxRecDepth 100000
set_option linter.unusedVariables false

abbrev lkAct : List LK := [.int .i64, .int .i64, .int .i64, .str, .str, .int .i64, .int .i64, .int .i64, .int .i64, .str, .int .i64, .int .i64, .int .i64, .int .i64, .int .i64, .int .i64, .str, .str, .str, .str]
/-- Texts and numbers of an operation are such as a machine holds. -/
structure Ac.Ok (x : Ac) : Prop where
  user : x.user.size ≤ 9223372036854775807
  name : x.name.size ≤ 9223372036854775807
  data : x.data.size ≤ 9223372036854775807
  dname : x.dir.name.size ≤ 9223372036854775807
  downer : x.dir.owner.size ≤ 9223372036854775807
  dgroup : x.dir.group.size ≤ 9223372036854775807
  dlast : x.dir.last.size ≤ 9223372036854775807
  nums : rngI x.kind ∧ rngI x.handle ∧ rngI x.file ∧ rngI x.mode ∧ rngI x.perm ∧ rngI x.count ∧ rngI x.offset ∧ rngI x.dir.kind ∧ rngI x.dir.vers ∧ rngI x.dir.path ∧ rngI x.dir.mode ∧ rngI x.dir.time ∧ rngI x.dir.len
theorem rng_wf {n : Int} (h : (Lit.int .i64 n).wf = true) : rngI n := by
  have : -9223372036854775808 ≤ n ∧ n ≤ 9223372036854775807 := by simpa [Lit.wf, IntKind.min, IntKind.max, IntKind.signed, IntKind.bits] using h
  exact this
theorem int_of {v : Value} (h : LK.fitW (.int .i64) v) : ∃ n, v = i64 n ∧ rngI n := by
  obtain ⟨n, rfl, hw⟩ := LK.int_of h
  exact ⟨n, rfl, rng_wf hw⟩
theorem str_of {v : Value} (h : LK.fitW .str v) : ∃ s, v = str s ∧ s.size ≤ 9223372036854775807 := by
  obtain ⟨s, rfl, hw⟩ := LK.str_of h
  exact ⟨s, rfl, Nat.le_trans hw (by decide)⟩
theorem act_of {xs : List Value} (hx : fitWL lkAct xs) : ∃ x : Ac, xs = x.C ∧ x.Ok := by
  obtain ⟨y0, t0, rfl, f0, z0⟩ := fitWL_cons hx
  obtain ⟨y1, t1, rfl, f1, z1⟩ := fitWL_cons z0
  obtain ⟨y2, t2, rfl, f2, z2⟩ := fitWL_cons z1
  obtain ⟨y3, t3, rfl, f3, z3⟩ := fitWL_cons z2
  obtain ⟨y4, t4, rfl, f4, z4⟩ := fitWL_cons z3
  obtain ⟨y5, t5, rfl, f5, z5⟩ := fitWL_cons z4
  obtain ⟨y6, t6, rfl, f6, z6⟩ := fitWL_cons z5
  obtain ⟨y7, t7, rfl, f7, z7⟩ := fitWL_cons z6
  obtain ⟨y8, t8, rfl, f8, z8⟩ := fitWL_cons z7
  obtain ⟨y9, t9, rfl, f9, z9⟩ := fitWL_cons z8
  obtain ⟨y10, t10, rfl, f10, z10⟩ := fitWL_cons z9
  obtain ⟨y11, t11, rfl, f11, z11⟩ := fitWL_cons z10
  obtain ⟨y12, t12, rfl, f12, z12⟩ := fitWL_cons z11
  obtain ⟨y13, t13, rfl, f13, z13⟩ := fitWL_cons z12
  obtain ⟨y14, t14, rfl, f14, z14⟩ := fitWL_cons z13
  obtain ⟨y15, t15, rfl, f15, z15⟩ := fitWL_cons z14
  obtain ⟨y16, t16, rfl, f16, z16⟩ := fitWL_cons z15
  obtain ⟨y17, t17, rfl, f17, z17⟩ := fitWL_cons z16
  obtain ⟨y18, t18, rfl, f18, z18⟩ := fitWL_cons z17
  obtain ⟨y19, t19, rfl, f19, z19⟩ := fitWL_cons z18
  obtain rfl := fitWL_nil z19
  obtain ⟨n0, rfl, k0⟩ := int_of f0
  obtain ⟨n1, rfl, k1⟩ := int_of f1
  obtain ⟨n2, rfl, k2⟩ := int_of f2
  obtain ⟨s3, rfl, k3⟩ := str_of f3
  obtain ⟨s4, rfl, k4⟩ := str_of f4
  obtain ⟨n5, rfl, k5⟩ := int_of f5
  obtain ⟨n6, rfl, k6⟩ := int_of f6
  obtain ⟨n7, rfl, k7⟩ := int_of f7
  obtain ⟨n8, rfl, k8⟩ := int_of f8
  obtain ⟨s9, rfl, k9⟩ := str_of f9
  obtain ⟨d0, rfl, e0⟩ := int_of f10
  obtain ⟨d1, rfl, e1⟩ := int_of f11
  obtain ⟨d2, rfl, e2⟩ := int_of f12
  obtain ⟨d3, rfl, e3⟩ := int_of f13
  obtain ⟨d4, rfl, e4⟩ := int_of f14
  obtain ⟨d5, rfl, e5⟩ := int_of f15
  obtain ⟨d6, rfl, e6⟩ := str_of f16
  obtain ⟨d7, rfl, e7⟩ := str_of f17
  obtain ⟨d8, rfl, e8⟩ := str_of f18
  obtain ⟨d9, rfl, e9⟩ := str_of f19
  exact ⟨⟨n0, n1, n2, s3, s4, n5, n6, n7, n8, s9, ⟨d0, d1, d2, d3, d4, d5, d6, d7, d8, d9⟩⟩, rfl, ⟨k3, k4, k9, e6, e7, e8, e9, k0, k1, k2, k5, k6, k7, k8, e0, e1, e2, e3, e4, e5⟩⟩
end Go.Proofs.YtnnhmahemklnkaaGreatDoor
