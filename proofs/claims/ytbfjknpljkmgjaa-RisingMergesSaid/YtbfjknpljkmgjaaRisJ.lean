/- What is added from the begin of now's pane on changes no rise, plainly. -/
import Derived.Test.YtbfjknpljkmgjaaRisH
namespace Go.Proofs.Ytbfjknpljkmgjaa
open Go.ChangeShapes Go.WideShapes Go.ChangeAt Go.RowKit Go.Shelf Go.Lib Go.Sort Go.Proofs
set_option linter.unusedVariables false
set_option linter.unusedSimpArgs false

theorem histTot_append (wd : Int) (hist ext : List AddD) (key : ByteArray) (lo hi : Int) : histTot wd (hist ++ ext) key lo hi = histTot wd hist key lo hi + histTot wd ext key lo hi := by
  unfold histTot
  rw [List.filter_append, List.map_append, List.sum_append]
theorem histTot_none {wd : Int} {ext : List AddD} {key : ByteArray} {lo hi : Int} (h : ∀ a ∈ ext, hi ≤ a.at_ / wd) : histTot wd ext key lo hi = 0 := by
  by_cases h0 : histTot wd ext key lo hi = 0
  · exact h0
  · obtain ⟨a, ha, _, _, h3⟩ := histTot_key h0
    have := h a ha
    omega
theorem rises_ext {wd span now floor : Int} {hist ext : List AddD} {rs : List RiseV} (hw : 1 ≤ wd) (hx : ∀ a ∈ ext, begB wd now ≤ a.at_) (h : RisesOf wd (hist ++ ext) span now floor rs) : RisesOf wd hist span now floor rs := by
  unfold RisesOf at h ⊢
  by_cases hB : ofB wd span now = true
  · rw [if_pos hB] at h ⊢
    refine ⟨h.1, fun r => ?_⟩
    have hsp : 1 ≤ span := by simp only [ofB, Bool.and_eq_true, decide_eq_true_eq] at hB; omega
    have e1 : ∀ hi lo key, hi ≤ begB wd now / wd → histTot wd (hist ++ ext) key lo hi = histTot wd hist key lo hi := by
      intro hi lo key hhi
      rw [histTot_append, histTot_none (fun a ha => Int.le_trans hhi (Int.ediv_le_ediv (by omega) (hx a ha))), Int.add_zero]
    have e2 : riseOf wd (hist ++ ext) span (begB wd now) r.key = riseOf wd hist span (begB wd now) r.key := by
      unfold riseOf
      rw [e1 _ _ _ (Int.le_refl _), e1 _ _ _ (Int.ediv_le_ediv (by omega) (by omega))]
    rw [h.2, e2]
  · rw [if_neg hB] at h ⊢
    exact h
end Go.Proofs.Ytbfjknpljkmgjaa
