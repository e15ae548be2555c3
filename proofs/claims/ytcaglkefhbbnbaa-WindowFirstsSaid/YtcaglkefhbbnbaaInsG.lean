/- Putting something into a row ahead of the first one that it is less than, one by one: plain, over any order. -/
import Derived.Test.YtcaglkefhbbnbaaIns
namespace Go.Proofs.Ytcaglkefhbbnbaa
set_option linter.unusedVariables false
set_option linter.unusedSimpArgs false

section
variable {α : Type} (lt : α → α → Bool)
def insG (r : α) (l : List α) : List α := insV (fun y => !lt r y) r l
/-- What the loop has made of the first ones. -/
def partG (r : α) (xs : List α) : List α := if xs.any (lt r) = true then insG lt r xs else xs
variable {lt}
theorem insG_any {r : α} {ys : List α} : ∀ {xs : List α}, xs.any (lt r) = true → insG lt r (xs ++ ys) = insG lt r xs ++ ys
  | [], h => by simp at h
  | a :: xs, h => by
    unfold insG
    rw [List.cons_append, insV_cons, insV_cons]
    by_cases ha : lt r a = true
    · have : ¬ (!lt r a) = true := by simp [ha]
      rw [if_neg this, if_neg this]
      simp
    · have hp : (!lt r a) = true := by simpa using ha
      rw [if_pos hp, if_pos hp]
      have h' : xs.any (lt r) = true := by simpa [ha] using h
      have := insG_any (ys := ys) h'
      unfold insG at this
      rw [this]
      simp
theorem insG_end {r : α} {ys : List α} (hy : insG lt r ys = r :: ys) : ∀ {xs : List α}, xs.any (lt r) = false → insG lt r (xs ++ ys) = xs ++ r :: ys
  | [], h => by simpa using hy
  | a :: xs, h => by
    rw [List.any_cons, Bool.or_eq_false_iff] at h
    have := insG_end hy h.2
    unfold insG at this ⊢
    rw [List.cons_append, insV_cons, if_pos (by simp [h.1]), this]
    simp
theorem insG_nil (r : α) : insG lt r [] = [r] := by simp [insG, insV, insAt]
theorem partG_snoc (r y : α) (xs : List α) : partG lt r (xs ++ [y]) = partG lt r xs ++ (if (!xs.any (lt r) && lt r y) = true then [r] else []) ++ [y] := by
  unfold partG
  rw [List.any_append]
  by_cases h : xs.any (lt r) = true
  · rw [if_pos (by rw [h]; rfl), if_pos h, insG_any h, h]
    simp
  · have h' : xs.any (lt r) = false := by simpa using h
    by_cases hy : lt r y = true
    · have e : insG lt r [y] = [r, y] := by
        unfold insG
        rw [insV_cons, if_neg (by simp [hy])]
      rw [if_pos (by rw [h']; simp [hy]), if_neg h, insG_end e h', h', hy]
      simp
    · have hy' : lt r y = false := by simpa using hy
      rw [if_neg (by rw [h']; simp [hy']), if_neg h, h', hy']
      simp
theorem partG_fin (r : α) (xs : List α) : partG lt r xs ++ (if (!xs.any (lt r)) = true then [r] else []) = insG lt r xs := by
  unfold partG
  by_cases h : xs.any (lt r) = true
  · rw [if_pos h, if_neg (by rw [h]; simp), List.append_nil]
  · have h' : xs.any (lt r) = false := by simpa using h
    have := insG_end (insG_nil r) h'
    rw [List.append_nil] at this
    rw [if_neg h, if_pos (by rw [h']; rfl), this]
theorem partG_len (r : α) (xs : List α) : (partG lt r xs).length ≤ xs.length + 1 := by
  unfold partG
  split
  · unfold insG; rw [insV_len]; omega
  · omega
theorem insG_mem (r : α) (l : List α) (x : α) : x ∈ insG lt r l ↔ x = r ∨ x ∈ l := by
  unfold insG
  rw [(insV_perm _ _ _).mem_iff, List.mem_cons]
theorem insG_len (r : α) (l : List α) : (insG lt r l).length = l.length + 1 := insV_len _ _ _
theorem insG_sorted (tr : ∀ x y z, lt x y = true → lt y z = true → lt x z = true) (tot : ∀ x y, lt x y = false → lt y x = false → x = y) {r : α} {l : List α} (hl : l.Pairwise (fun a b => lt a b = true)) (hr : r ∉ l) : (insG lt r l).Pairwise (fun a b => lt a b = true) := by
  refine insV_sorted lt tr _ r l hl (fun y hy => ⟨fun hp => ?_, fun hp => by simpa using hp⟩)
  have hp' : lt r y = false := by simpa using hp
  cases hc : lt y r with
  | true => rfl
  | false => exact absurd (tot y r hc hp' ▸ hy) hr
theorem any_take_snoc (l : List α) (p : α → Bool) {k : Nat} (hk : k < l.length) : (l.take (k + 1)).any p = ((l.take k).any p || p l[k]) := by
  rw [List.take_succ_eq_append_getElem hk, List.any_append]
  simp
end
end Go.Proofs.Ytcaglkefhbbnbaa
