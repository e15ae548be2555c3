/- Plain law of KinApart. -/
import Derived.Test.YtbmkejiijkbmlaaPrL
namespace Go.Proofs.Ytbmkejiijkbmlaa
open Go.ChangeShapes Go.WideShapes Go.ChangeAt Go.RowKit Go.Shelf Go.Lib Go.Sort Go.Proofs
set_option linter.unusedVariables false
set_option linter.unusedSimpArgs false

theorem cnt1_snoc1 (L : List (List ByteArray)) (s : List ByteArray) (a : ByteArray) : cnt1 (L ++ [s]) a = cnt1 L a + if a ∈ s then 1 else 0 := by
  unfold cnt1
  rw [List.countP_append]
  by_cases ha : a ∈ s <;> simp [ha]
theorem cnt2_le1 (L : List (List ByteArray)) (a b : ByteArray) : cnt2 L a b ≤ cnt1 L a ∧ cnt2 L a b ≤ cnt1 L b := by
  obtain ⟨p, q, h1, h2, h3⟩ := cnt_parts L a b
  omega
theorem apart_none (L : List (List ByteArray)) (s : List ByteArray) (a b : ByteArray) (ha : a ∉ s) (hb : b ∉ s) : likeNum (L ++ [s]) a b = likeNum L a b ∧ likeDen (L ++ [s]) a b = likeDen L a b := by
  have h1 := cnt1_snoc1 L s a
  have h2 := cnt1_snoc1 L s b
  have h3 := cnt2_snoc L s a b
  rw [if_neg ha, Int.add_zero] at h1
  rw [if_neg hb, Int.add_zero] at h2
  have h3' : cnt2 (L ++ [s]) a b = cnt2 L a b := by rw [h3]; simp [ha]
  unfold likeNum likeDen
  rw [h1, h2, h3']
  exact ⟨rfl, rfl⟩
theorem apart_both (L : List (List ByteArray)) (s : List ByteArray) (a b : ByteArray) (ha : a ∈ s) (hb : b ∈ s) : likeNum L a b * likeDen (L ++ [s]) a b ≤ likeNum (L ++ [s]) a b * likeDen L a b := by
  have h1 := cnt1_snoc1 L s a
  have h2 := cnt1_snoc1 L s b
  have h3 := cnt2_snoc L s a b
  rw [if_pos ha] at h1
  rw [if_pos hb] at h2
  have h3' : cnt2 (L ++ [s]) a b = cnt2 L a b + 1 := by rw [h3]; simp [ha, hb]
  have n0 := (cnt2_le L a b).1
  obtain ⟨nx, ny⟩ := cnt2_le1 L a b
  unfold likeNum likeDen
  rw [h1, h2, h3']
  generalize cnt1 L a = x at *
  generalize cnt1 L b = y at *
  generalize cnt2 L a b = n at *
  have hne : ¬ (x + 1 = 0 ∨ y + 1 = 0) := by omega
  rw [if_neg hne, if_neg hne]
  by_cases h0 : x = 0 ∨ y = 0
  · rw [if_pos h0, if_pos h0]
    split
    · simp
    · have : 0 ≤ (n + 1) * (n + 1) := Int.mul_nonneg (by omega) (by omega)
      omega
  · rw [if_neg h0, if_neg h0]
    by_cases hab : a = b
    · simp [hab]
    · simp only [if_neg hab]
      have k1 : n * (x + 1) ≤ (n + 1) * x := by
        have e1 : n * (x + 1) = n * x + n := by grind
        have e2 : (n + 1) * x = n * x + x := by grind
        omega
      have k2 : n * (y + 1) ≤ (n + 1) * y := by
        have e1 : n * (y + 1) = n * y + n := by grind
        have e2 : (n + 1) * y = n * y + y := by grind
        omega
      have k3 : n * (x + 1) * (n * (y + 1)) ≤ (n + 1) * x * ((n + 1) * y) := Int.mul_le_mul k1 k2 (Int.mul_nonneg n0 (by omega)) (Int.mul_nonneg (by omega) (by omega))
      have e1 : n * n * ((x + 1) * (y + 1)) = n * (x + 1) * (n * (y + 1)) := by grind
      have e2 : (n + 1) * (n + 1) * (x * y) = (n + 1) * x * ((n + 1) * y) := by grind
      rw [e1, e2]
      exact k3
end Go.Proofs.Ytbmkejiijkbmlaa
