/-
  Trees: files that are changed, in memory and plain.
-/
import Derived.Test.YtnnhmahemklnkaaDoorTs2
namespace Go.Proofs.YtnnhmahemklnkaaDoor
open Go Go.Sh
set_option maxRecDepth 100000
set_option linter.unusedVariables false
set_option linter.unusedSimpArgs false
variable {w0 w : World} {F : Nat → Prop} {l : List As}

theorem updB_updB {ps : List PN} {b : Nat} {g1 g2 : PN → PN} (h : ∀ n, (g1 n).blk = n.blk) : updB (updB ps b g1) b g2 = updB ps b fun n => g2 (g1 n) := by
  unfold updB
  rw [List.map_map]
  refine List.map_congr_left fun n _ => ?_
  simp only [Function.comp]
  by_cases hb : n.blk = b
  · rw [if_pos hb, if_pos (by rw [h, hb]), if_pos hb]
  · rw [if_neg hb, if_neg hb, if_neg hb]
theorem updN_updN {ns : List Nd} {p : Int} {f1 f2 : Nd → Nd} (h : ∀ n, (f1 n).path = n.path) : updN (updN ns p f1) p f2 = updN ns p fun n => f2 (f1 n) := by
  unfold updN
  rw [List.map_map]
  refine List.map_congr_left fun n _ => ?_
  simp only [Function.comp]
  by_cases hb : n.path = p
  · rw [if_pos hb, if_pos (by rw [h, hb]), if_pos hb]
  · rw [if_neg hb, if_neg hb, if_neg hb]
section
variable {D D' : List Row} {X : PT} {T : Tr} {β : Int → Nat}
theorem Hs.nodupT (E : Hs w0 F w (trA X :: l)) : (X.ps.map PN.blk).Nodup := Hs.nodupN ((Hs.openT E).bIx 4)
/-- A file's parts change, not its place. -/
theorem Tie.mapN (h : Tie D X T β) {G : PN → PN} {g : Nd → Nd} (c : Int) (hs : ∀ n, (G n).blk = n.blk ∧ (G n).kl = n.kl ∧ (G n).ub = n.ub) (hg : ∀ n ∈ X.ps, (G n).f = g n.f)
    (hsh : ∀ n ∈ T.ns, (g n).path = n.path ∧ (g n).up = n.up ∧ (g n).name = n.name) (hD : ∀ x ∈ D, x ∈ D') (hdata : ∀ n ∈ X.ps, Rdy D' Ty.uint8 (G n).dv (bts (g n.f).data)) :
    Tie D' { X with ps := X.ps.map G, clock := c } { T with ns := T.ns.map g, clock := c } β := by
  have hT : ∀ n ∈ X.ps, (g n.f).path = n.f.path ∧ (g n.f).up = n.f.up ∧ (g n.f).name = n.f.name := fun n hn => hsh _ (h.mem.2 ⟨n, hn, rfl⟩)
  refine ⟨?_, rfl, h.next, ?_, ?_, ?_, ?_, ?_, ?_, ?_, h.ol, ?_⟩
  · have e : (X.ps.map G).map PN.f = (X.ps.map PN.f).map g := by
      rw [List.map_map, List.map_map]
      exact List.map_congr_left fun n hn => hg n hn
    show ((X.ps.map G).map PN.f).Perm (T.ns.map g)
    rw [e]
    exact h.ns.map g
  · intro n hn
    obtain ⟨m, hm, rfl⟩ := List.mem_map.1 hn
    rw [hg m hm]
    exact hdata m hm
  · intro n hn
    obtain ⟨m, hm, rfl⟩ := List.mem_map.1 hn
    rw [hg m hm, (hT m hm).1, (hT m hm).2.1, (hs m).2.2]
    refine ⟨(h.ub m hm).1, fun h0 => ?_⟩
    obtain ⟨u, hu, h1, h2⟩ := (h.ub m hm).2 h0
    exact ⟨G u, List.mem_map.2 ⟨u, hu, rfl⟩, by rw [hg u hu, (hT u hu).1, h1], by rw [(hs u).1, h2]⟩
  · intro n hn
    obtain ⟨m, hm, rfl⟩ := List.mem_map.1 hn
    rw [hg m hm, (hT m hm).1, (hs m).2.1]
    have e : (((X.ps.map G).filter fun k => Tr.isKid m.f.path k.f).map fun k => (k.f.name, k.blk)) = ((X.ps.filter fun k => Tr.isKid m.f.path k.f).map fun k => (k.f.name, k.blk)) := by
      rw [List.filter_map, List.map_map]
      have e1 : X.ps.filter ((fun k => Tr.isKid m.f.path k.f) ∘ G) = X.ps.filter fun k => Tr.isKid m.f.path k.f := by
        refine List.filter_congr fun k hk => ?_
        simp only [Function.comp, Tr.isKid]
        rw [hg k hk, (hT k hk).1, (hT k hk).2.1]
      rw [e1]
      refine List.map_congr_left fun k hk => ?_
      have hk := (List.mem_filter.1 hk).1
      simp only [Function.comp]
      rw [hg k hk, (hT k hk).2.2, (hs k).1]
    show m.kl.Perm _
    rw [e]
    exact h.kl m hm
  · have e : ((X.ps.map G).map fun n => (n.f.path, n.blk)) = X.ps.map fun n => (n.f.path, n.blk) := by
      rw [List.map_map]
      refine List.map_congr_left fun k hk => ?_
      simp only [Function.comp]
      rw [hg k hk, (hT k hk).1, (hs k).1]
    show X.fl.Perm ((X.ps.map G).map fun n => (n.f.path, n.blk))
    rw [e]; exact h.fl
  · obtain ⟨r, hr, h1, h2⟩ := h.root
    exact ⟨G r, List.mem_map.2 ⟨r, hr, rfl⟩, by rw [hg r hr, (hT r hr).1, h1], by rw [(hs r).1, h2]⟩
  · intro x
    have := h.gs x
    revert this
    show (match getL T.gs x with | some us => _ | none => _) → (match getL T.gs x with | some us => _ | none => _)
    cases getL T.gs x with
    | none => exact id
    | some us => rintro ⟨h1, v, h2, h3⟩; exact ⟨h1, v, h2, h3.mono hD⟩
  · intro n hn
    obtain ⟨m, hm, rfl⟩ := List.mem_map.1 hn
    rw [hg m hm, (hT m hm).1, (hs m).1]
    exact h.bl m hm
  · intro x hx hno
    refine h.dead x hx fun n hn he => ?_
    refine hno (g n) (List.mem_map.2 ⟨n, hn, rfl⟩) ?_
    rw [(hsh n hn).1, he]
theorem Tie.upd (h : Tie D X T β) (hi : Inv T) (hnd : (X.ps.map PN.blk).Nodup) {n : PN} (hn : n ∈ X.ps) {G : PN → PN} {g : Nd → Nd} (c : Int) (hs : ∀ n, (G n).blk = n.blk ∧ (G n).kl = n.kl ∧ (G n).ub = n.ub) (hg : ∀ n, (G n).f = g n.f)
    (hsh : ∀ n, (g n).path = n.path ∧ (g n).up = n.up ∧ (g n).name = n.name) (hD : ∀ x ∈ D, x ∈ D') (hdata : Rdy D' Ty.uint8 (G n).dv (bts (g n.f).data)) :
    Tie D' { X with ps := updB X.ps n.blk G, clock := c } { T with ns := updN T.ns n.f.path g, clock := c } β := by
  have hb : ∀ m ∈ X.ps, m.blk = n.blk ↔ m.f.path = n.f.path := by
    intro m hm
    constructor
    · intro he
      have : m = n := by
        have key : ∀ (ps : List PN), (ps.map PN.blk).Nodup → m ∈ ps → n ∈ ps → m = n := by
          intro ps
          induction ps with
          | nil => intro _ h; cases h
          | cons x r ih =>
            intro hp ha hb
            rw [List.map_cons, List.nodup_cons] at hp
            rcases List.mem_cons.1 ha with h1 | ha <;> rcases List.mem_cons.1 hb with h2 | hb
            · rw [h1, h2]
            · exact absurd (List.mem_map.2 ⟨n, hb, by rw [← h1, he]⟩) hp.1
            · exact absurd (List.mem_map.2 ⟨m, ha, by rw [← h2, he]⟩) hp.1
            · exact ih hp.2 ha hb
        exact key _ hnd hm hn
      rw [this]
    · intro he
      rw [← h.bl m hm, ← h.bl n hn, he]
  refine h.mapN (G := fun m => if m.blk = n.blk then G m else m) (g := fun m => if m.path = n.f.path then g m else m) c ?_ ?_ ?_ hD ?_
  · intro m
    split
    · exact hs m
    · exact ⟨rfl, rfl, rfl⟩
  · intro m hm
    by_cases he : m.blk = n.blk
    · rw [if_pos he, if_pos ((hb m hm).1 he), hg]
    · rw [if_neg he, if_neg fun hc => he ((hb m hm).2 hc)]
  · intro m _
    split
    · exact hsh m
    · exact ⟨rfl, rfl, rfl⟩
  · intro m hm
    by_cases he : m.f.path = n.f.path
    · have := h.inj hi hm hn he
      subst this
      simp only [if_true]
      exact hdata
    · simp only [if_neg he, if_neg fun hc => he ((hb m hm).1 hc)]
      exact (h.data m hm).mono hD

/-- What always holds, of files that change in their parts. -/
theorem Inv.mapN (h : Inv T) {g : Nd → Nd} (c : Int) (hc : 0 ≤ c) (hsh : ∀ n ∈ T.ns, (g n).path = n.path ∧ (g n).up = n.up ∧ (g n).name = n.name ∧ (g n).dir = n.dir)
    (hd : ∀ n ∈ T.ns, ((g n).dir = true → (g n).data = emp) ∧ (g n).data.size ≤ 1048576) (hf : ∀ n ∈ T.ns, goodName (g n).owner = true ∧ goodName (g n).group = true ∧ rightM (g n).mode = true ∧ 0 ≤ (g n).vers ∧ 0 ≤ (g n).time) :
    Inv { T with ns := T.ns.map g, clock := c } := by
  have mm : ∀ {P : Nd → Prop}, (∀ n ∈ T.ns, P (g n)) → ∀ n ∈ T.ns.map g, P n := by
    intro P hP n hn
    obtain ⟨m, hm, rfl⟩ := List.mem_map.1 hn
    exact hP m hm
  refine ⟨?_, ?_, mm ?_, mm ?_, mm ?_, mm ?_, mm ?_, ?_, mm hd, mm hf, h.hsorted, h.hpos, h.hfile, ?_, ⟨by show (T.ns.map g).length ≤ _; rw [List.length_map]; exact h.few.1, h.few.2⟩, hc, mm fun n hn => by rw [(hsh n hn).1, (hsh n hn).2.2.1]; exact h.rootN n hn⟩
  · show (T.ns.map g).Pairwise _
    rw [List.pairwise_map]
    refine h.sorted.imp_of_mem fun {a b} ha hb hab => ?_
    rw [(hsh a ha).1, (hsh b hb).1]; exact hab
  · obtain ⟨r, hr, h0⟩ := h.root
    exact ⟨g r, List.mem_map.2 ⟨r, hr, rfl⟩, by rw [(hsh r hr).1, h0]⟩
  · intro n hn; rw [(hsh n hn).1]; exact h.bound n hn
  · intro n hn; rw [(hsh n hn).1, (hsh n hn).2.1, (hsh n hn).2.2.2]; exact h.rootD n hn
  · intro n hn h0
    rw [(hsh n hn).1] at h0
    obtain ⟨u, hu, h1, h2⟩ := h.up n hn h0
    exact ⟨g u, List.mem_map.2 ⟨u, hu, rfl⟩, by rw [(hsh u hu).1, (hsh n hn).2.1, h1], by rw [(hsh u hu).2.2.2, h2]⟩
  · intro a ha
    refine mm fun b hb => ?_
    rw [(hsh a ha).1, (hsh a ha).2.1, (hsh a ha).2.2.1, (hsh b hb).1, (hsh b hb).2.1, (hsh b hb).2.2.1]
    exact h.names a ha b hb
  · intro n hn; rw [(hsh n hn).1, (hsh n hn).2.2.1]; exact h.good n hn
  · obtain ⟨rk, hrk⟩ := h.rank
    refine ⟨rk, mm fun n hn => ?_⟩
    rw [(hsh n hn).1, (hsh n hn).2.1]; exact hrk n hn
  · intro x hx h64
    refine mm fun n hn he => ?_
    rw [(hsh n hn).2.2.2]
    rw [(hsh n hn).1] at he
    exact h.hclose x hx h64 n hn he
theorem Inv.upd (h : Inv T) {g : Nd → Nd} {p : Int} (c : Int) (hc : 0 ≤ c) (hsh : ∀ n ∈ T.ns, n.path = p → (g n).path = n.path ∧ (g n).up = n.up ∧ (g n).name = n.name ∧ (g n).dir = n.dir)
    (hd : ∀ n ∈ T.ns, n.path = p → ((g n).dir = true → (g n).data = emp) ∧ (g n).data.size ≤ 1048576) (hf : ∀ n ∈ T.ns, n.path = p → goodName (g n).owner = true ∧ goodName (g n).group = true ∧ rightM (g n).mode = true ∧ 0 ≤ (g n).vers ∧ 0 ≤ (g n).time) :
    Inv { T with ns := updN T.ns p g, clock := c } := by
  refine h.mapN (g := fun n => if n.path = p then g n else n) c hc ?_ ?_ ?_
  · intro n hn
    split
    · rename_i he; exact hsh n hn he
    · exact ⟨rfl, rfl, rfl, rfl⟩
  · intro n hn
    by_cases he : n.path = p
    · simp only [if_pos he]; exact hd n hn he
    · simp only [if_neg he]; exact h.data n hn
  · intro n hn
    by_cases he : n.path = p
    · simp only [if_pos he]; exact hf n hn he
    · simp only [if_neg he]; exact h.form n hn
end
end Go.Proofs.YtnnhmahemklnkaaDoor
