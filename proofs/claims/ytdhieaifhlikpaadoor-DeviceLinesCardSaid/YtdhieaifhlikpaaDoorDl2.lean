/-
  DeviceLines: the library's functions; reading line by line.
-/
import Derived.Test.YtdhieaifhlikpaaDoorDl1
namespace Go.Proofs.YtdhieaifhlikpaaDoor
open Go Go.Sh
set_option maxRecDepth 100000
set_option linter.unusedVariables false
set_option linter.unusedSimpArgs false
variable {w0 : World} {F : Nat → Prop} {l : List As}

theorem indexByte_mem (c : UInt8) : ∀ l : List UInt8, 0 ≤ Lib.indexByte l c ↔ c ∈ l
  | [] => by simp [Lib.indexByte]
  | b :: r => by
    have ih := indexByte_mem c r
    unfold Lib.indexByte
    by_cases h : b = c
    · subst h; simp
    · have h' : (b == c) = false := by simpa using h
      rw [h']
      by_cases h2 : Lib.indexByte r c = -1
      · have : c ∉ r := fun hh => by have := ih.2 hh; omega
        simp [h2, this, Ne.symm h]
      · have h3 : (Lib.indexByte r c == -1) = false := by simpa using h2
        rw [h3]
        simp only [Bool.false_eq_true, if_false, List.mem_cons, Ne.symm h, false_or]
        rw [← ih]
        have : -1 ≤ Lib.indexByte r c := by
          clear ih h2 h3
          induction r with
          | nil => simp [Lib.indexByte]
          | cons x r ih => unfold Lib.indexByte; split <;> first | omega | (split <;> omega)
        omega
theorem Contains_ok {w : World} {s : ByteArray} {c : UInt8} : Ca PP Fn.strings_Contains #[str s, str ⟨#[c]⟩] w fun r w' => r = .bool (decide (c ∈ s.data.toList)) ∧ w' = w := by
  refine (Tryd.strings_Contains_one s c w).mono ?_
  rintro e w' ⟨rfl, rfl⟩
  refine ⟨_, rfl, ?_, rfl⟩
  congr 1
  by_cases h : c ∈ s.data.toList
  · simp [h, (indexByte_mem c _).2 h]
  · have := fun hh => h ((indexByte_mem c _).1 hh)
    rw [decide_eq_false h, decide_eq_false this]
/-- The lines of a text, the rest among them. -/
def linesS (s : ByteArray) : List ByteArray := ((lines [] s.data.toList).1 ++ [(lines [] s.data.toList).2]).map mkB
theorem SplitAfter_ok {w : World} {s : ByteArray} {m : Int} (hs : s.size ≤ 1000000) (E : Hs w0 Emp w l) (hm : w0.cell? ⟨0, 0, none⟩ = some (.int .i64 m)) :
    Ca PP Fn.strings_SplitAfter #[str s, str ⟨#[10]⟩] w fun r w' => Hs w0 Emp w' l ∧ Rdl w' r ((linesS s).map str) := by
  refine S.strings_SplitAfter.calls ?_
  unfold S.strings_SplitAfter
  (repeat (first | (with_reducible refine Nc.ptr ?_) | (with_reducible refine Fa.ptr ?_) | (((with_reducible apply Ld.pt E); (focus ((repeat (first | assumption | with_reducible exact List.mem_cons_self | refine List.mem_cons_of_mem _ ?_)); done)); (focus exact rfl))) | (((with_reducible apply LdA.pt E); (focus ((repeat (first | assumption | with_reducible exact List.mem_cons_self | refine List.mem_cons_of_mem _ ?_)); done)); (focus (simp only [Nat.reduceAdd, Nat.zero_add, List.drop_succ_cons, List.drop_zero, List.take_succ_cons, List.take_zero, List.take_nil, List.drop_nil]; exact rfl)); (focus exact rfl))) | (with_reducible refine Cnd.t ?_) | (with_reducible refine Cnd.f ?_) | (with_reducible refine Gd.t _ ?_) | (with_reducible refine Gd.tf ?_) | (with_reducible refine Gd.ft ?_) | (with_reducible refine Pk.t ?_) | (with_reducible refine Pk.f ?_) | (with_reducible refine Un.nt ?_) | (with_reducible refine Un.nf ?_) | (with_reducible refine Un.not ?_) | (((with_reducible apply LnL.sl1 E); (focus ((repeat (first | assumption | with_reducible exact List.mem_cons_self | refine List.mem_cons_of_mem _ ?_)); done)))) | (((with_reducible apply Ex.ls); (focus exact rfl))) | (((with_reducible apply Fi.ls); (focus exact rfl))) | (((with_reducible apply FiA.ls); (focus (simp only [Nat.reduceAdd, Nat.zero_add, List.drop_succ_cons, List.drop_zero, List.take_succ_cons, List.take_zero, List.take_nil, List.drop_nil]; exact rfl)))) | (with_reducible refine LnS.mk ?_) | (((with_reducible refine Bi.seqT ?_ ?_); (focus exact rfl))) | (((with_reducible refine Bi.seqF ?_ ?_); (focus decide))) | (((with_reducible refine Bi.snF ?_ ?_); (focus exact rfl))) | (((with_reducible refine Bi.snT ?_ ?_); (focus decide))) | (((with_reducible refine Bi.mk (v := .bool true) ?_ ?_); (focus exact rfl))) | (((with_reducible refine Bi.mk (v := .bool false) ?_ ?_); (focus exact rfl))) | (((with_reducible apply Bd.mk3); (focus simp only [fillL, setCs, Value.cells, List.getElem?_cons_zero, List.getElem?_cons_succ, List.length_cons, List.length_nil, List.set_cons_zero, List.set_cons_succ, Nat.reduceAdd, Nat.reduceLeDiff, and_self, ↓reduceIte, Nat.zero_add, Nat.add_zero]; exact rfl))) | (((with_reducible show Sh.Al _ _ _ _); refine Al.pt E ?_; intro b_ w_ hb_ E2; clear E; have E := E2; clear E2)) | (((with_reducible refine Dr.st E ?_); clear E; intro w_ E)) | ((apply hJ1; intro u_)) | ((apply hJ2; intro u_)) | ((apply hJ3; intro u_)) | ((apply hJ4; intro u_)) | ((apply hJ5; intro u_)) | ((apply hJ6; intro u_))))
  have hm' : w.cell? ⟨0, 0, none⟩ = some (.int .i64 m) := by
    obtain ⟨-, hlt⟩ := spot_none hm
    have E2 := E.upd.same 0 hlt (fun h => h)
    unfold World.cell? at hm ⊢
    rw [E2]; exact hm
  have hcnt : Lib.countB s ⟨#[10]⟩ ≤ s.size := Lib.countB_le ⟨#[10]⟩ (by decide) s.size s (Nat.le_refl _)
  have hcb : Lib.count s.data.toList [10] = Lib.countB s ⟨#[10]⟩ := rfl
  have hsp : Lib.splitB ⟨#[10]⟩ 1 (Lib.countB s ⟨#[10]⟩) s = linesS s := by
    have h1 := Lib.splitB_data ⟨#[10]⟩ 1 (Lib.countB s ⟨#[10]⟩) s
    have h2 := splitK_lines _ s.data.toList hcb
    have h3 : (Lib.splitB ⟨#[10]⟩ 1 (Lib.countB s ⟨#[10]⟩) s).map (·.data.toList) = (lines [] s.data.toList).1 ++ [(lines [] s.data.toList).2] := h1.trans h2
    have h4 := congrArg (List.map mkB) h3
    rw [List.map_map] at h4
    have h5 : (mkB ∘ fun x : ByteArray => x.data.toList) = id := by funext x; exact mkB_data x
    rw [h5, List.map_id] at h4
    exact h4
  have hlen : (linesS s).length = Lib.countB s ⟨#[10]⟩ + 1 := by
    rw [← hsp]; exact Lib.splitB_all ⟨#[10]⟩ (by decide) 1 _ s rfl
  have hg := Tryd.strings_genSplit s ⟨#[10]⟩ 1 (-1) (Lib.countB s ⟨#[10]⟩ + 1) m w (by omega) hm' (by decide) (by decide) (by decide) (by decide) (by simp; omega)
  refine Ca.mono (show Ca _ _ _ _ (fun r w' => r = .slice (some ⟨w.heap.size, 0, none⟩) (linesS s).length (Lib.countB s ⟨#[10]⟩ + 1) ∧ w' = w.alloc (.cells (Lib.cellsOf (linesS s) (Lib.countB s ⟨#[10]⟩ + 1)) 9)) from ?_) ?_
  · refine hg.mono ?_
    rintro e w' ⟨rfl, rfl⟩
    simp only [Nat.add_sub_cancel]
    rw [hsp]
    exact ⟨_, rfl, rfl, rfl⟩
  · rintro r w' ⟨rfl, rfl⟩
    refine ⟨E.grow (Upd.alloc _ _), rdl_of (by omega) (by simp) fun j hj => ?_⟩
    rw [add_mk]
    rw [cell_of (heap_alloc_new w _) (v := str ((linesS s)[j])) ?_]
    · rw [List.getElem?_map, List.getElem?_eq_getElem hj]; rfl
    · rw [Nat.zero_add, ← hlen, Lib.cellsOf_full]
      simp [hj]
end Go.Proofs.YtdhieaifhlikpaaDoor
