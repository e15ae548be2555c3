/- Sorting by a strict order under which no two are level: the sorted row is the one row that is sorted. -/
import Derived.Test.YtmigjlceogofaaaKitQ
import Derived.Test.YtmigjlceogofaaaKitV
namespace Go.Proofs.Ytmigjlceogofaaa
open Go.ChangeShapes Go.WideShapes Go.ChangeAt Go.RowKit Go.Shelf Go.Lib Go.Sort Go.Proofs
set_option linter.unusedVariables false
set_option linter.unusedSimpArgs false

section
variable {α : Type}
theorem ntrans_of {lt : α → α → Bool} (tr : ∀ x y z, lt x y = true → lt y z = true → lt x z = true) (tot : ∀ x y, lt x y = false → lt y x = false → x = y) (x y z : α) (h1 : lt x y = false) (h2 : lt y z = false) : lt x z = false := by
  cases h : lt x z with
  | false => rfl
  | true =>
    exfalso
    cases hyx : lt y x with
    | true => have := tr _ _ _ hyx h; rw [h2] at this; cases this
    | false =>
      have := tot _ _ h1 hyx
      subst this
      rw [h] at h2; cases h2
theorem mergeSort_is {lt : α → α → Bool} (irr : ∀ x, lt x x = false) (tr : ∀ x y z, lt x y = true → lt y z = true → lt x z = true) (tot : ∀ x y, lt x y = false → lt y x = false → x = y) {L M : List α} (hp : L.Perm M) (hM : M.Pairwise (fun x y => lt x y = true)) :
    L.mergeSort (fun x y => !lt y x) = M := by
  have hpm : (L.mergeSort (fun x y => !lt y x)).Perm M := (List.mergeSort_perm _ _).trans hp
  have hnd : M.Nodup := hM.imp (fun {x y} h e => by subst e; rw [irr] at h; cases h)
  have hnd2 : (L.mergeSort (fun x y => !lt y x)).Nodup := hpm.nodup_iff.2 hnd
  have h1 : (L.mergeSort (fun x y => !lt y x)).Pairwise (fun x y => (!lt y x) = true) := List.pairwise_mergeSort (fun a b c h1 h2 => by
      simp only [Bool.not_eq_true'] at *
      exact ntrans_of tr tot c b a h2 h1) (fun a b => by
      simp only [Bool.or_eq_true, Bool.not_eq_true']
      cases h : lt b a with
      | false => exact .inl rfl
      | true => right; cases h' : lt a b with
        | false => rfl
        | true => have := tr _ _ _ h h'; rw [irr] at this; cases this) _
  refine sorted_unique lt irr tr hpm ?_ hM
  refine (List.pairwise_and_iff.2 ⟨h1, hnd2⟩).imp (fun {x y} h => ?_)
  cases hxy : lt x y with
  | true => rfl
  | false =>
    have := tot x y hxy (by have := h.1; simpa using this)
    exact absurd this h.2
theorem swo_of {lt : α → α → Bool} (irr : ∀ x, lt x x = false) (tr : ∀ x y z, lt x y = true → lt y z = true → lt x z = true) (tot : ∀ x y, lt x y = false → lt y x = false → x = y) : SWO lt := ⟨irr, tr, fun x y z h1 h2 => ntrans_of tr tot x y z h1 h2⟩
/-- A row in which no two are alike can be sorted. -/
theorem sort_ex {lt : α → α → Bool} (irr : ∀ x, lt x x = false) (tr : ∀ x y z, lt x y = true → lt y z = true → lt x z = true) (tot : ∀ x y, lt x y = false → lt y x = false → x = y) {L : List α} (hn : L.Nodup) : ∃ M, L.Perm M ∧ M.Pairwise (fun x y => lt x y = true) := by
  have hpm : (L.mergeSort (fun x y => !lt y x)).Perm L := List.mergeSort_perm _ _
  have hnd2 : (L.mergeSort (fun x y => !lt y x)).Nodup := hpm.nodup_iff.2 hn
  have h1 : (L.mergeSort (fun x y => !lt y x)).Pairwise (fun x y => (!lt y x) = true) := List.pairwise_mergeSort (fun a b c h1 h2 => by
      simp only [Bool.not_eq_true'] at *
      exact ntrans_of tr tot c b a h2 h1) (fun a b => by
      simp only [Bool.or_eq_true, Bool.not_eq_true']
      cases h : lt b a with
      | false => exact .inl rfl
      | true => right; cases h' : lt a b with
        | false => rfl
        | true => have := tr _ _ _ h h'; rw [irr] at this; cases this) _
  refine ⟨_, hpm.symm, (List.pairwise_and_iff.2 ⟨h1, hnd2⟩).imp (fun {x y} h => ?_)⟩
  cases hxy : lt x y with
  | true => rfl
  | false =>
    have := tot x y hxy (by have := h.1; simpa using this)
    exact absurd this h.2
end
end Go.Proofs.Ytmigjlceogofaaa
