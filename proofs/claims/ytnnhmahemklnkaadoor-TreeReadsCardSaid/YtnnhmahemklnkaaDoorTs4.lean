/-
  Trees: new handles, new files.
-/
import Derived.Test.YtnnhmahemklnkaaDoorTr6
namespace Go.Proofs.YtnnhmahemklnkaaDoor
open Go Go.Sh
set_option maxRecDepth 100000
set_option linter.unusedVariables false
set_option linter.unusedSimpArgs false
variable {w0 w : World} {F : Nat → Prop} {l : List As}
variable {D : List Row} {X : PT} {T : Tr} {β : Int → Nat}

structure HoldS (L : List (Int × Hd)) (h0 : Int) (x : Hd) (k : Int) (L' : List (Int × Hd)) : Prop where
  perm : L'.Perm ((k, x) :: L)
  sorted : L'.Pairwise fun a b => a.1 < b.1
  le : h0 ≤ k
  out : k ∉ L.map (·.1)
  all : ∀ j, h0 ≤ j → j < k → j ∈ L.map (·.1)
theorem holdL_spec (x : Hd) : ∀ (L : List (Int × Hd)) (h0 : Int), L.Pairwise (fun a b => a.1 < b.1) → (∀ p ∈ L, h0 ≤ p.1) → HoldS L h0 x (holdL L h0 x).1 (holdL L h0 x).2
  | [], h0, _, _ => ⟨List.Perm.refl _, List.pairwise_singleton _ _, Int.le_refl _, by simp, fun j h1 h2 => by simp only [holdL] at h2; omega⟩
  | p :: r, h0, hs, hb => by
    rw [List.pairwise_cons] at hs
    unfold holdL
    by_cases h : p.1 = h0
    · rw [if_pos h]
      have ih := holdL_spec x r (h0 + 1) hs.2 fun q hq => by have := hs.1 q hq; omega
      refine ⟨(ih.perm.cons p).trans (List.Perm.swap _ _ _), List.pairwise_cons.2 ⟨fun q hq => ?_, ih.sorted⟩, by have := ih.le; simp only []; omega, ?_, fun j h1 h2 => ?_⟩
      · rcases List.mem_cons.1 (ih.perm.mem_iff.1 hq) with rfl | hq
        · have := ih.le; simp only []; omega
        · exact hs.1 q hq
      · rw [List.map_cons, List.mem_cons, not_or]
        refine ⟨?_, ih.out⟩
        have := ih.le
        simp only []
        omega
      · rw [List.map_cons, List.mem_cons]
        by_cases hj : j = p.1
        · exact .inl hj
        · exact .inr (ih.all j (by omega) h2)
    · rw [if_neg h]
      have hp := hb p List.mem_cons_self
      refine ⟨List.Perm.refl _, List.pairwise_cons.2 ⟨fun q hq => ?_, List.pairwise_cons.2 hs⟩, Int.le_refl _, ?_, fun j h1 h2 => by simp only [] at h2; omega⟩
      · rcases List.mem_cons.1 hq with rfl | hq
        · simp only []; omega
        · have := hs.1 q hq; simp only []; omega
      · rw [List.mem_map]
        rintro ⟨q, hq, he⟩
        rcases List.mem_cons.1 hq with rfl | hq
        · exact h he
        · have := hs.1 q hq; omega
theorem hold_spec (hi : Inv T) (x : Hd) : HoldS T.hs 1 x (T.hold x).2 (T.hold x).1.hs := holdL_spec x T.hs 1 hi.hsorted hi.hpos
theorem Tie.keys (h : Tie D X T β) : (X.ol.map (·.1)).Perm (T.hs.map (·.1)) := by
  have := h.ol.map (·.1)
  rwa [List.map_map] at this
theorem Tie.hold (h : Tie D X T β) (hi : Inv T) {k : Int} (hk : Free1 (X.ol.map (·.1)) k) {n : PN} (hn : n ∈ X.ps) {mode : Int} {user : BA} :
    k = (T.hold ⟨n.f.path, mode, user⟩).2 ∧ Tie D { X with ol := putL X.ol k ⟨n.blk, mode, user⟩ } (T.hold ⟨n.f.path, mode, user⟩).1 β := by
  have hs := hold_spec hi ⟨n.f.path, mode, user⟩
  have hm : ∀ j, j ∈ X.ol.map (·.1) ↔ j ∈ T.hs.map (·.1) := fun j => h.keys.mem_iff
  have he : k = (T.hold ⟨n.f.path, mode, user⟩).2 := by
    rcases Int.lt_trichotomy k (T.hold ⟨n.f.path, mode, user⟩).2 with hl | hl | hl
    · exact absurd ((hm k).2 (hs.all k hk.pos hl)) hk.out
    · exact hl
    · exact absurd ((hm _).1 (hk.all _ hs.le hl)) hs.out
  refine ⟨he, h.ns, h.clock, h.next, h.data, h.ub, h.kl, h.fl, h.root, h.gs, h.bl, ?_, ?_⟩
  · show (putL X.ol k ⟨n.blk, mode, user⟩).Perm ((T.hold ⟨n.f.path, mode, user⟩).1.hs.map _)
    rw [putL_new hk.out]
    have h1 := hs.perm.map fun x : Int × Hd => (x.1, (⟨β x.2.file, x.2.mode, x.2.user⟩ : HV))
    rw [List.map_cons, ← he, h.bl n hn] at h1
    refine List.Perm.trans ?_ h1.symm
    exact List.perm_append_comm.trans (h.ol.cons _)
  · intro y hy hno
    rcases List.mem_cons.1 (hs.perm.mem_iff.1 hy) with rfl | hy
    · exact absurd rfl (hno n.f (h.mem.2 ⟨n, hn, rfl⟩))
    · exact h.dead y hy hno
theorem Inv.hold (hi : Inv T) {x : Hd} (hl : T.hs.length < 64) (hf : 0 ≤ x.file ∧ x.file < T.next) (hc : x.mode ≠ 0 → ∀ n ∈ T.ns, n.path = x.file → n.dir = false) : Inv (T.hold x).1 := by
  have hs := hold_spec hi x
  have mm : ∀ {P : Int × Hd → Prop}, P ((T.hold x).2, x) → (∀ p ∈ T.hs, P p) → ∀ p ∈ (T.hold x).1.hs, P p := by
    intro P h1 h2 p hp
    rcases List.mem_cons.1 (hs.perm.mem_iff.1 hp) with rfl | hp
    · exact h1
    · exact h2 p hp
  exact ⟨hi.sorted, hi.root, hi.bound, hi.rootD, hi.up, hi.names, hi.good, hi.rank, hi.data, hi.form, hs.sorted, mm hs.le hi.hpos, mm hf hi.hfile, mm hc hi.hclose, ⟨hi.few.1, by
    rw [hs.perm.length_eq, List.length_cons]; omega⟩, hi.clock, hi.rootN⟩

/-- A new file. -/
theorem Inv.newN (hi : Inv T) {n : Nd} (hp : n.path = T.next) (hu : ∃ u ∈ T.ns, u.path = n.up ∧ u.dir = true) (hname : ∀ m ∈ T.ns, m.path ≠ 0 → m.up = n.up → m.name ≠ n.name) (hg : goodName n.name = true)
    (hd : n.data = emp) (hf : goodName n.owner = true ∧ goodName n.group = true ∧ rightM n.mode = true ∧ 0 ≤ n.vers ∧ 0 ≤ n.time) (hl : T.ns.length < 1024) : Inv { T with ns := T.ns ++ [n], next := T.next + 1 } := by
  have mm : ∀ {P : Nd → Prop}, (∀ p ∈ T.ns, P p) → P n → ∀ p ∈ T.ns ++ [n], P p := by
    intro P h1 h2 p hp
    rcases List.mem_append.1 hp with hp | hp
    · exact h1 p hp
    · rw [List.mem_singleton.1 hp]; exact h2
  obtain ⟨r0, hr0, hr1⟩ := hi.root
  have hnx := hi.bound r0 hr0
  have h0 : n.path ≠ 0 := by omega
  obtain ⟨u, hu1, hu2, hu3⟩ := hu
  refine ⟨?_, ⟨r0, List.mem_append_left _ hr0, hr1⟩, mm (fun m hm => by have := hi.bound m hm; simp only []; omega) (by simp only []; omega), mm hi.rootD (fun h => absurd h h0), mm ?_ ?_, mm ?_ ?_, mm hi.good (fun _ => hg), ?_, mm hi.data ⟨fun _ => hd, by rw [hd]; exact Nat.zero_le _⟩,
    mm hi.form hf, hi.hsorted, hi.hpos, fun x hx => by have := hi.hfile x hx; simp only []; omega, fun x hx h64 => mm (hi.hclose x hx h64) (fun he => by have := hi.hfile x hx; omega), ⟨by simp; omega, hi.few.2⟩, hi.clock, mm hi.rootN fun h => absurd h h0⟩
  · rw [List.pairwise_append]
    refine ⟨hi.sorted, List.pairwise_singleton _ _, fun a ha b hb => ?_⟩
    rw [List.mem_singleton.1 hb, hp]
    exact (hi.bound a ha).2
  · intro m hm h
    obtain ⟨v, hv, h1⟩ := hi.up m hm h
    exact ⟨v, List.mem_append_left _ hv, h1⟩
  · intro _
    exact ⟨u, List.mem_append_left _ hu1, hu2, hu3⟩
  · intro a ha
    refine mm (hi.names a ha) fun h1 h2 h3 h4 => ?_
    exact absurd h4 (hname a ha h1 h3)
  · refine mm (fun b hb h1 h2 h3 h4 => ?_) fun _ _ _ _ => rfl
    exact absurd h4.symm (hname b hb h2 h3.symm)
  · obtain ⟨rk, hrk⟩ := hi.rank
    refine ⟨fun p => if p = T.next then rk n.up + 1 else rk p, mm (fun m hm h => ?_) fun _ => ?_⟩
    · have h1 := hi.bound m hm
      obtain ⟨v, hv, h2, _⟩ := hi.up m hm h
      have h3 := hi.bound v hv
      show (if m.up = T.next then rk n.up + 1 else rk m.up) < (if m.path = T.next then rk n.up + 1 else rk m.path)
      rw [if_neg (by omega), if_neg (by omega)]
      exact hrk m hm h
    · have h3 := hi.bound u hu1
      show (if n.up = T.next then rk n.up + 1 else rk n.up) < (if n.path = T.next then rk n.up + 1 else rk n.path)
      rw [if_pos hp, if_neg (by omega)]
      omega
theorem Tie.newN (h : Tie D X T β) (hi : Inv T) (hnd : (X.ps.map PN.blk).Nodup) {u q : PN} (hu : u ∈ X.ps) (hp : q.f.path = T.next) (hup : q.f.up = u.f.path) (hname : q.f.name ∉ u.kl.map (·.1)) (hd : q.f.data = emp) (hdv : q.dv = .slice none 0 0)
    (hkl : q.kl = []) (hub : q.ub = some u.blk) :
    Tie D { X with ps := q :: updB X.ps u.blk (fun m => { m with kl := putL m.kl q.f.name q.blk }), fl := putL X.fl X.next q.blk, next := X.next + 1 } { T with ns := T.ns ++ [q.f], next := T.next + 1 } (fun p => if p = T.next then q.blk else β p) := by
  obtain ⟨r0, hr0, hr1⟩ := hi.root
  have hnx := hi.bound r0 hr0
  have hT : ∀ n ∈ X.ps, n.f ∈ T.ns := fun n hn => h.mem.2 ⟨n, hn, rfl⟩
  have hb := fun n hn => hi.bound _ (hT n hn)
  -- the others, with the directory's map turned
  have hsame : (updB X.ps u.blk fun m => { m with kl := putL m.kl q.f.name q.blk }).map PN.f = X.ps.map PN.f := by
    unfold updB
    rw [List.map_map]
    refine List.map_congr_left fun m _ => ?_
    simp only [Function.comp]; split <;> rfl
  have huni : ∀ m ∈ X.ps, m.blk = u.blk → m = u := by
    intro m hm he
    have key : ∀ (ps : List PN), (ps.map PN.blk).Nodup → m ∈ ps → u ∈ ps → m = u := by
      intro ps
      induction ps with
      | nil => intro _ h; cases h
      | cons x r ih =>
        intro hp ha hb
        rw [List.map_cons, List.nodup_cons] at hp
        rcases List.mem_cons.1 ha with h1 | ha <;> rcases List.mem_cons.1 hb with h2 | hb
        · rw [h1, h2]
        · exact absurd (List.mem_map.2 ⟨u, hb, by rw [← h1, he]⟩) hp.1
        · exact absurd (List.mem_map.2 ⟨m, ha, by rw [← h2, he]⟩) hp.1
        · exact ih hp.2 ha hb
    exact key _ hnd hm hu
  have mm : ∀ {P : PN → Prop}, (∀ m ∈ X.ps, P (if m.blk = u.blk then { m with kl := putL m.kl q.f.name q.blk } else m)) → P q → ∀ p ∈ q :: updB X.ps u.blk (fun m => { m with kl := putL m.kl q.f.name q.blk }), P p := by
    intro P h1 h2 p hp
    rcases List.mem_cons.1 hp with rfl | hp
    · exact h2
    · obtain ⟨m, hm, rfl⟩ := List.mem_map.1 hp
      exact h1 m hm
  have hfilt : ∀ p, ((q :: updB X.ps u.blk fun m => { m with kl := putL m.kl q.f.name q.blk }).filter fun k => Tr.isKid p k.f).map (fun k => (k.f.name, k.blk)) = (if p = u.f.path then [(q.f.name, q.blk)] else []) ++ (X.ps.filter fun k => Tr.isKid p k.f).map fun k => (k.f.name, k.blk) := by
    intro p
    have e1 : ((updB X.ps u.blk fun m => { m with kl := putL m.kl q.f.name q.blk }).filter fun k => Tr.isKid p k.f).map (fun k => (k.f.name, k.blk)) = (X.ps.filter fun k => Tr.isKid p k.f).map fun k => (k.f.name, k.blk) := by
      unfold updB
      rw [List.filter_map, List.map_map]
      have e2 : X.ps.filter ((fun k => Tr.isKid p k.f) ∘ fun m => if m.blk = u.blk then { m with kl := putL m.kl q.f.name q.blk } else m) = X.ps.filter fun k => Tr.isKid p k.f := by
        refine List.filter_congr fun k _ => ?_
        simp only [Function.comp]; split <;> rfl
      rw [e2]
      refine List.map_congr_left fun k _ => ?_
      simp only [Function.comp]; split <;> rfl
    have hk : Tr.isKid p q.f = decide (p = u.f.path) := by
      unfold Tr.isKid
      rw [hup]
      by_cases hpp : p = u.f.path
      · rw [decide_eq_true hpp, decide_eq_true ⟨by omega, hpp.symm⟩]
      · rw [decide_eq_false hpp, decide_eq_false fun hc => hpp hc.2.symm]
    rw [List.filter_cons, hk]
    by_cases hpp : p = u.f.path
    · rw [decide_eq_true hpp, if_pos rfl, if_pos hpp, List.map_cons, e1]; rfl
    · rw [decide_eq_false hpp, if_neg (by simp), if_neg hpp, e1]; rfl
  refine ⟨?_, h.clock, by show X.next + 1 = T.next + 1; rw [h.next], mm ?_ ?_, mm ?_ ?_, mm ?_ ?_, ?_, ?_, h.gs, mm ?_ ?_, ?_, ?_⟩
  · show ((q :: updB X.ps u.blk _).map PN.f).Perm (T.ns ++ [q.f])
    rw [List.map_cons, hsame]
    exact (h.ns.cons q.f).trans (List.perm_append_comm (l₁ := [q.f]))
  · intro m hm
    have := h.data m hm
    split <;> exact this
  · rw [hdv, hd]; exact .inl ⟨rfl, _, _, rfl⟩
  · intro m hm
    have h1 := h.ub m hm
    have key : ∀ v ∈ X.ps, (if v.blk = u.blk then { v with kl := putL v.kl q.f.name q.blk } else v) ∈ q :: updB X.ps u.blk (fun m => { m with kl := putL m.kl q.f.name q.blk }) := fun v hv => List.mem_cons_of_mem _ (List.mem_map.2 ⟨v, hv, rfl⟩)
    have h2 : (m.f.path = 0 → m.ub = none) ∧ (m.f.path ≠ 0 → ∃ u_1 ∈ q :: updB X.ps u.blk (fun m => { m with kl := putL m.kl q.f.name q.blk }), u_1.f.path = m.f.up ∧ m.ub = some u_1.blk) := by
      refine ⟨h1.1, fun h0 => ?_⟩
      obtain ⟨v, hv, h3, h4⟩ := h1.2 h0
      refine ⟨_, key v hv, ?_, ?_⟩
      · split <;> exact h3
      · split <;> exact h4
    split <;> exact h2
  · refine ⟨fun h0 => by omega, fun _ => ?_⟩
    refine ⟨_, List.mem_cons_of_mem _ (List.mem_map.2 ⟨u, hu, rfl⟩), ?_, ?_⟩
    · rw [if_pos rfl]; exact hup.symm
    · rw [if_pos rfl]; exact hub
  · intro m hm
    have h1 := h.kl m hm
    by_cases he : m.blk = u.blk
    · obtain rfl := huni m hm he
      rw [if_pos rfl]
      show (putL m.kl q.f.name q.blk).Perm _
      rw [hfilt, if_pos rfl, putL_new hname]
      exact List.perm_append_comm.trans (h1.cons _)
    · rw [if_neg he]
      rw [hfilt, if_neg fun hc => he (by rw [h.inj hi hm hu hc])]
      exact h1
  · rw [hkl, hfilt]
    have hq : q.f.path ≠ u.f.path := by have := hb u hu; omega
    rw [if_neg hq, List.nil_append]
    have : (X.ps.filter fun k => Tr.isKid q.f.path k.f) = [] := by
      rw [List.filter_eq_nil_iff]
      intro k hk hc
      have hc : k.f.path ≠ 0 ∧ k.f.up = q.f.path := by simpa [Tr.isKid] using hc
      obtain ⟨v, hv, h1, _⟩ := hi.up _ (hT k hk) hc.1
      have := hi.bound v hv
      omega
    rw [this]
    exact List.Perm.refl _
  · have hout : X.next ∉ X.fl.map (·.1) := by
      intro hc
      have := (h.fl.map (·.1)).mem_iff.1 hc
      rw [List.map_map] at this
      obtain ⟨m, hm, he⟩ := List.mem_map.1 this
      have := hb m hm
      have he : m.f.path = X.next := he
      rw [h.next] at he
      omega
    show (putL X.fl X.next q.blk).Perm ((q :: updB X.ps u.blk _).map fun n => (n.f.path, n.blk))
    rw [putL_new hout, List.map_cons, hp, ← h.next]
    have e1 : (updB X.ps u.blk fun m => { m with kl := putL m.kl q.f.name q.blk }).map (fun n => (n.f.path, n.blk)) = X.ps.map fun n => (n.f.path, n.blk) := by
      unfold updB
      rw [List.map_map]
      refine List.map_congr_left fun k _ => ?_
      simp only [Function.comp]; split <;> rfl
    rw [e1]
    exact List.perm_append_comm.trans (h.fl.cons _)
  · obtain ⟨r, hr, h1, h2⟩ := h.root
    refine ⟨_, List.mem_cons_of_mem _ (List.mem_map.2 ⟨r, hr, rfl⟩), ?_, ?_⟩
    · split <;> exact h1
    · split <;> exact h2
  · intro m hm
    have h1 := h.bl m hm
    have h2 := hb m hm
    split
    · show (if m.f.path = T.next then q.blk else β m.f.path) = m.blk
      rw [if_neg (by omega)]; exact h1
    · rw [if_neg (by omega)]; exact h1
  · rw [if_pos hp]
  · have e : (T.hs.map fun x => (x.1, (⟨if x.2.file = T.next then q.blk else β x.2.file, x.2.mode, x.2.user⟩ : HV))) = T.hs.map fun x => (x.1, (⟨β x.2.file, x.2.mode, x.2.user⟩ : HV)) := by
      refine List.map_congr_left fun x hx => ?_
      have := hi.hfile x hx
      rw [if_neg (by omega)]
    show X.ol.Perm (T.hs.map fun x => (x.1, (⟨if x.2.file = T.next then q.blk else β x.2.file, x.2.mode, x.2.user⟩ : HV)))
    rw [e]; exact h.ol
  · intro x hx hno
    have := hi.hfile x hx
    rw [if_neg (by omega)]
    exact h.dead x hx fun n hn => hno n (List.mem_append_left _ hn)
end Go.Proofs.YtnnhmahemklnkaaDoor
