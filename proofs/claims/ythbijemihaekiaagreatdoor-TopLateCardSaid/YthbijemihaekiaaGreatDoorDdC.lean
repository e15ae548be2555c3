/- Contract of (*dedupe.Set).Put. -/
import Derived.Test.YthbijemihaekiaaGreatDoorDdB
import Derived.Test.YthbijemihaekiaaGreatDoorNam
namespace Go.Proofs.YthbijemihaekiaaGreatDoor
open Go.ChangeShapes Go.WideShapes Go.ChangeAt Go.RowKit
set_option linter.unusedVariables false
set_option linter.unusedSimpArgs false

theorem lastTo_take {R : List Rg} {k : Nat} (hk : k ≤ R.length) : (k = 0 ∧ lastTo 0 (R.take k) = 0) ∨ (∃ h : 0 < k, lastTo 0 (R.take k) = (R[k - 1]'(by omega)).2 ∧ (R.take k).dropLast = R.take (k - 1) ∧ (R.take k).getLast? = some (R[k - 1]'(by omega))) := by
  rcases Nat.eq_zero_or_pos k with rfl | h
  · exact .inl ⟨rfl, by simp [lastTo]⟩
  · refine .inr ⟨h, ?_⟩
    obtain ⟨j, rfl⟩ : ∃ j, k = j + 1 := ⟨k - 1, by omega⟩
    have e := List.take_succ_eq_append_getElem (l := R) (i := j) (by omega)
    obtain ⟨T, hT⟩ : ∃ T, T = R.take j := ⟨_, rfl⟩
    have e2 : R.take (j + 1 - 1) = T := by rw [hT]; rfl
    have e3 : j + 1 - 1 = j := rfl
    rw [e2, e, ← hT]
    simp [lastTo_snoc]
theorem set_split {R : List Rg} {k : Nat} (hk : k < R.length) (x : Rg) : R.set k x = R.take k ++ x :: R.drop (k + 1) := by
  rw [List.set_eq_take_append_cons_drop, if_pos hk]
theorem head_drop {R : List Rg} {k : Nat} (hk : k < R.length) : (R.drop k).head? = some R[k] ∧ (R.drop k).tail = R.drop (k + 1) := by
  rw [List.drop_eq_getElem_cons hk]
  exact ⟨rfl, rfl⟩
section
variable {R : List Rg} {n : Int} {k : Nat}
theorem putR_both (hp : placeR R n = k) (hn : 1 ≤ n) (h0 : 0 < k) (hk : k < R.length) (hl : (R[k - 1]'(by omega)).2 = n) (hr : R[k].1 = n + 1) :
    putR R n = (R.set (k - 1) ((R[k - 1]'(by omega)).1, R[k].2)).take k ++ (R.set (k - 1) ((R[k - 1]'(by omega)).1, R[k].2)).drop (k + 1) := by
  unfold putR
  simp only [hp]
  rcases lastTo_take (R := R) (k := k) (by omega) with ⟨h, -⟩ | ⟨h, e1, e2, e3⟩
  · omega
  obtain ⟨e4, e5⟩ := head_drop hk
  rw [e1, e2, e3, e4, e5]
  simp only [Option.map_some, Option.getD_some, if_pos hl, if_pos hr]
  rw [set_split (by omega)]
  have hk1 : k - 1 + 1 = k := by omega
  rw [hk1]
  have l1 : (R.take (k - 1)).length = k - 1 := by rw [List.length_take]; omega
  obtain ⟨A0, hA⟩ : ∃ A0, A0 = R.take (k - 1) := ⟨_, rfl⟩
  obtain ⟨x, hx⟩ : ∃ x : Rg, x = (R[k - 1].1, R[k].2) := ⟨_, rfl⟩
  rw [← hA] at l1 ⊢
  rw [← hx]
  have hkk : k = A0.length + 1 := by omega
  have t1 : (A0 ++ x :: R.drop k).take k = A0 ++ [x] := by
    have : A0 ++ x :: R.drop k = (A0 ++ [x]) ++ R.drop k := by simp
    rw [this, List.take_append_of_le_length (by simp; omega), List.take_of_length_le (by simp; omega)]
  have t2 : (A0 ++ x :: R.drop k).drop (k + 1) = R.drop (k + 1) := by
    have : A0 ++ x :: R.drop k = (A0 ++ [x]) ++ R.drop k := by simp
    have h1 : k + 1 = (A0 ++ [x]).length + 1 := by simp; omega
    rw [this]
    conv => lhs; rw [h1, ← List.drop_drop, List.drop_left]
    rw [List.drop_drop]
  rw [t1, t2]
  simp
theorem putR_left (hp : placeR R n = k) (hn : 1 ≤ n) (h0 : 0 < k) (hk : k ≤ R.length) (hl : (R[k - 1]'(by omega)).2 = n) (hr : ∀ h : k < R.length, R[k].1 ≠ n + 1) :
    putR R n = R.set (k - 1) ((R[k - 1]'(by omega)).1, n + 1) := by
  unfold putR
  simp only [hp]
  rcases lastTo_take (R := R) (k := k) (by omega) with ⟨h, -⟩ | ⟨h, e1, e2, e3⟩
  · omega
  rw [e1, e2, e3]
  simp only [Option.map_some, Option.getD_some, if_pos hl]
  rw [set_split (by omega)]
  have hk1 : k - 1 + 1 = k := by omega
  rw [hk1]
  rcases Nat.lt_or_ge k R.length with q | q
  · obtain ⟨e4, e5⟩ := head_drop q
    rw [e4]
    simp only [Option.map_some, Option.getD_some, if_neg (hr q)]
  · rw [List.drop_of_length_le q]
    have : ¬ (0 : Int) = n + 1 := by omega
    simp [this]
theorem putR_right (hp : placeR R n = k) (hn : 1 ≤ n) (hk : k < R.length) (hl : ∀ h : 0 < k, (R[k - 1]'(by omega)).2 ≠ n) (hr : R[k].1 = n + 1) :
    putR R n = R.set k (n, R[k].2) := by
  unfold putR
  simp only [hp]
  obtain ⟨e4, e5⟩ := head_drop hk
  rw [e4, e5]
  simp only [Option.map_some, Option.getD_some, if_pos hr]
  rw [set_split hk]
  rcases lastTo_take (R := R) (k := k) (by omega) with ⟨h, e⟩ | ⟨h, e1, e2, e3⟩
  · have : ¬ (0 : Int) = n := by omega
    rw [e, if_neg this, if_neg this]
  · rw [e1, if_neg (hl h), if_neg (hl h)]
theorem putR_none (hp : placeR R n = k) (hn : 1 ≤ n) (hk : k ≤ R.length) (hl : ∀ h : 0 < k, (R[k - 1]'(by omega)).2 ≠ n) (hr : ∀ h : k < R.length, R[k].1 ≠ n + 1) :
    putR R n = R.take k ++ (n, n + 1) :: R.drop k := by
  unfold putR
  simp only [hp]
  have h1 : ¬ lastTo 0 (R.take k) = n := by
    rcases lastTo_take (R := R) (k := k) (by omega) with ⟨h, e⟩ | ⟨h, e1, e2, e3⟩
    · rw [e]; omega
    · rw [e1]; exact hl h
  rw [if_neg h1, if_neg h1]
  rcases Nat.lt_or_ge k R.length with q | q
  · obtain ⟨e4, e5⟩ := head_drop q
    rw [e4]
    simp only [Option.map_some, Option.getD_some, if_neg (hr q)]
  · rw [List.drop_of_length_le q]
    have : ¬ (0 : Int) = n + 1 := by omega
    simp [this]
end

theorem rgsCells_set {R : List Rg} {i : Nat} (hi : i < R.length) (f : Nat) (hf : f = 0 ∨ f = 1) (v : Int) : (rgsCells R).set (i * 2 + f) (.int .i64 v) = rgsCells (R.set i (if f = 0 then (v, R[i].2) else (R[i].1, v))) := by
  induction R generalizing i with
  | nil => simp at hi
  | cons r R ih =>
    cases i with
    | zero => rcases hf with rfl | rfl <;> simp [rgsCells, rgCells]
    | succ i =>
      have e : rgsCells (r :: R) = .int .i64 r.1 :: .int .i64 r.2 :: rgsCells R := rfl
      have e2 : (i + 1) * 2 + f = (i * 2 + f) + 1 + 1 := by omega
      rw [e, e2, List.set_cons_succ, List.set_cons_succ, ih (by simpa using hi)]
      rfl
theorem row_set {w : World} {base g c i : Nat} {R : List Rg} (h : w.ownsRow base 99 2 (.slice (some ⟨g, 0, none⟩) R.length c) R.length (rgsCells R)) (hi : i < R.length) (f : Nat) (hf : f = 0 ∨ f = 1) (v : Int) :
    (w.setCell ⟨g, i * 2 + f, none⟩ (.int .i64 v)).ownsRow base 99 2 (.slice (some ⟨g, 0, none⟩) R.length c) R.length (rgsCells (R.set i (if f = 0 then (v, R[i].2) else (R[i].1, v)))) ∧ w.grownBy (w.setCell ⟨g, i * 2 + f, none⟩ (.int .i64 v)) (some g) := by
  obtain ⟨cur, hg, hb, hn, hc, hcl, htk, -⟩ := own_block h
  rw [setCell_eq_setRow w g (i * 2 + f) cur.toArray _ _ _ hg]
  refine ⟨?_, grown_setRow _ _ _⟩
  have e : cur.toArray.setIfInBounds (i * 2 + f) (.int .i64 v) = (cur.set (i * 2 + f) (.int .i64 v)).toArray := by simp
  rw [e]
  refine own_of_block (setRow_block hg) hb hn hc (by rw [List.length_set]; exact hcl) ?_
  rw [← rgsCells_set hi f hf, ← htk, List.take_set]
end Go.Proofs.YthbijemihaekiaaGreatDoor
