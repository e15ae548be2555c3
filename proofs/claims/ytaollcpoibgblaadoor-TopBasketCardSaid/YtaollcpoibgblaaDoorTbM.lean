/- Contract of event.May at what is bought (cut out of TlM). -/
import Derived.Test.YtaollcpoibgblaaDoorTlH
import Derived.Test.YtaollcpoibgblaaDoorNam
import Derived.Test.YtaollcpoibgblaaDoorKitC
namespace Go.Proofs.YtaollcpoibgblaaDoor
open Go.ChangeShapes Go.WideShapes Go.ChangeAt Go.RowKit
set_option linter.unusedVariables false
set_option linter.unusedSimpArgs false

theorem nm_name {c : UInt8} {n : Int} (hc : c = 109 ∨ c = 112 ∨ c = 105 ∨ c = 115) (h : 0 ≤ n ∧ n ≤ 9) : nameB (nm c n) = true := by
  have hn : n = 0 ∨ n = 1 ∨ n = 2 ∨ n = 3 ∨ n = 4 ∨ n = 5 ∨ n = 6 ∨ n = 7 ∨ n = 8 ∨ n = 9 := by omega
  rcases hc with rfl | rfl | rfl | rfl <;> rcases hn with rfl | rfl | rfl | rfl | rfl | rfl | rfl | rfl | rfl | rfl <;> decide
theorem noT_name : nameB ⟨#[]⟩ = false := by decide
theorem nameB_size {s : ByteArray} (h : nameB s = true) : s.size ≤ 24 ∧ 1 ≤ s.size := by unfold nameB at h; simp at h; omega
theorem nameQ (s : ByteArray) (h : nameB s = true) (w : World) : Calls Tryd.prog 27 #[.string s] w fun e w' => e = .returned (.bool true) ∧ w = w' := by
  have := name_any s w (by have := nameB_size h; unfold maxLen; omega)
  rwa [h] at this
theorem nameQ0 (w : World) : Calls Tryd.prog 27 #[.string ⟨#[]⟩] w fun e w' => e = .returned (.bool false) ∧ w = w' := by
  have := name_any ⟨#[]⟩ w (by unfold maxLen; decide)
  rwa [noT_name] at this
def MayNew (w : World) (e : Ending) (w' : World) : Prop := e = .returned (.bool true) ∧ Below w.heap.size w w'
theorem name_ne {s : ByteArray} (h : nameB s = true) : (s.toList == []) = false := by
  rw [toList_data]
  have := (nameB_size h).2
  cases hq : s.data.toList with
  | nil => (have e : s.size = 0 := by show s.data.toList.length = 0; rw [hq]; rfl); omega
  | cons a l => rfl

set_option maxRecDepth 20000 in
set_option maxHeartbeats 2000000 in
theorem may3 (src : ByteArray) (num at_ : Int) (p : ByteArray) (i : ByteArray) (w : World) (hs : nameB src = true) (hn : 1 ≤ num ∧ num ≤ 1000) (ha : 0 ≤ at_ ∧ at_ ≤ 100000) (hp : nameB p = true) (hi : nameB i = true) :
    Calls Tryd.prog 17 #[.agg #[.string src, .int .i64 num, .int .i64 at_, .int .i64 3, .string p, .string i, .int .i64 0, .string ⟨#[]⟩]] w (MayNew w) := by
  have QS := Lib.hid (nameQ src hs)
  have QP := Lib.hid (nameQ p hp)
  have QI := Lib.hid (nameQ i hi)
  clear hs hp hi 
  obtain ⟨W1, hW1⟩ : ∃ W1, W1 = w.alloc (.cells #[.string src, .int .i64 num, .int .i64 at_, .int .i64 3, .string p, .string i, .int .i64 0, .string ⟨#[]⟩] 51) := ⟨_, rfl⟩
  have hbx : W1.heap[w.heap.size]? = some (.cells #[.string src, .int .i64 num, .int .i64 at_, .int .i64 3, .string p, .string i, .int .i64 0, .string ⟨#[]⟩] 51 (0, 0)) := by rw [hW1]; exact heap_alloc_new w _
  have hB : Below w.heap.size w W1 := by rw [hW1]; exact (Below.refl _ w).alloc (Nat.le_refl _) _
  have c0 : W1.cell? ⟨w.heap.size, 0, none⟩ = some (.string src) := by rw [cell_of_row W1 w.heap.size 0 _ _ _ hbx]; rfl
  have c1 : W1.cell? ⟨w.heap.size, 1, none⟩ = some (.int .i64 num) := by rw [cell_of_row W1 w.heap.size 1 _ _ _ hbx]; rfl
  have c2 : W1.cell? ⟨w.heap.size, 2, none⟩ = some (.int .i64 at_) := by rw [cell_of_row W1 w.heap.size 2 _ _ _ hbx]; rfl
  have c3 : W1.cell? ⟨w.heap.size, 3, none⟩ = some (.int .i64 3) := by rw [cell_of_row W1 w.heap.size 3 _ _ _ hbx]; rfl
  have c4 : W1.cell? ⟨w.heap.size, 4, none⟩ = some (.string p) := by rw [cell_of_row W1 w.heap.size 4 _ _ _ hbx]; rfl
  have c5 : W1.cell? ⟨w.heap.size, 5, none⟩ = some (.string i) := by rw [cell_of_row W1 w.heap.size 5 _ _ _ hbx]; rfl
  have c6 : W1.cell? ⟨w.heap.size, 6, none⟩ = some (.int .i64 0) := by rw [cell_of_row W1 w.heap.size 6 _ _ _ hbx]; rfl
  have c7 : W1.cell? ⟨w.heap.size, 7, none⟩ = some (.string ⟨#[]⟩) := by rw [cell_of_row W1 w.heap.size 7 _ _ _ hbx]; rfl
  have HB := Lib.hid hB
  clear hbx hB
  go_enter Tryd.func17, Tryd.ntmps17
  go_upto_region 1 with fail
  rw [← hW1]
  clear hW1
  go_wp2_with fail
  refine (QS.out _).mono ?_
  rintro e w6 ⟨rfl, rfl⟩
  go_upto_region 3 with fail
  refine heldStart 11 (S := fun W => W.cell? ⟨w.heap.size, 4, none⟩ = some (.string p) ∧ W.cell? ⟨w.heap.size, 5, none⟩ = some (.string i) ∧ W.cell? ⟨w.heap.size, 7, none⟩ = some (.string ⟨#[]⟩)) (by kernel_rfl) ?_ (fun hHeld => ?_)
  · exact ⟨c4, c5, c7⟩
  refine heldTake 0 (v := ?_) (by simp only [List.getElem?_toArray, List.getElem?_cons_succ, List.getElem?_cons_zero]; rfl) (by kernel_rfl) (by intro _ _ _ h; exact h) (by rfl) (by assumption) ?_ ?_
  rotate_left
  · intro W hSw; (try dsimp only at hSw); go_simp; try with_reducible rfl
  simp only [Act.put, List.setIfInBounds_toArray, List.set_cons_zero, List.set_cons_succ]
  refine heldTake 1 (v := ?_) (by simp only [List.getElem?_toArray, List.getElem?_cons_succ, List.getElem?_cons_zero]; rfl) (by kernel_rfl) (by intro _ _ _ h; exact h) (by rfl) (by assumption) ?_ ?_
  rotate_left
  · intro W hSw; (try dsimp only at hSw); go_simp; try with_reducible rfl
  simp only [Act.put, List.setIfInBounds_toArray, List.set_cons_zero, List.set_cons_succ]
  refine heldTake 3 (v := ?_) (by simp only [List.getElem?_toArray, List.getElem?_cons_succ, List.getElem?_cons_zero]; rfl) (by kernel_rfl) (by intro _ _ _ h; exact h) (by rfl) (by assumption) ?_ ?_
  rotate_left
  · intro W hSw; (try dsimp only at hSw); go_simp; try with_reducible rfl
  simp only [Act.put, List.setIfInBounds_toArray, List.set_cons_zero, List.set_cons_succ]
  refine heldTake 4 (v := ?_) (by simp only [List.getElem?_toArray, List.getElem?_cons_succ, List.getElem?_cons_zero]; rfl) (by kernel_rfl) (by intro _ _ _ h; exact h) (by rfl) (by assumption) ?_ ?_
  rotate_left
  · intro W hSw; (try dsimp only at hSw); go_simp; try with_reducible rfl
  simp only [Act.put, List.setIfInBounds_toArray, List.set_cons_zero, List.set_cons_succ]
  refine heldTake 6 (v := ?_) (by simp only [List.getElem?_toArray, List.getElem?_cons_succ, List.getElem?_cons_zero]; rfl) (by kernel_rfl) (by intro _ _ _ h; exact h) (by rfl) (by assumption) ?_ ?_
  rotate_left
  · intro W hSw; (try dsimp only at hSw); go_simp; try with_reducible rfl
  simp only [Act.put, List.setIfInBounds_toArray, List.set_cons_zero, List.set_cons_succ]
  refine heldTake 7 (v := ?_) (by simp only [List.getElem?_toArray, List.getElem?_cons_succ, List.getElem?_cons_zero]; rfl) (by kernel_rfl) (by intro _ _ _ h; exact h) (by rfl) (by assumption) ?_ ?_
  rotate_left
  · intro W hSw; (try dsimp only at hSw); go_simp; try with_reducible rfl
  simp only [Act.put, List.setIfInBounds_toArray, List.set_cons_zero, List.set_cons_succ]
  refine heldTake 8 (v := ?_) (by simp only [List.getElem?_toArray, List.getElem?_cons_succ, List.getElem?_cons_zero]; rfl) (by kernel_rfl) (by intro _ _ _ h; exact h) (by rfl) (by assumption) ?_ ?_
  rotate_left
  · intro W hSw; (try dsimp only at hSw); go_simp; try with_reducible rfl
  simp only [Act.put, List.setIfInBounds_toArray, List.set_cons_zero, List.set_cons_succ]
  refine heldCall 2 (by simp only [List.getElem?_toArray, List.getElem?_cons_succ, List.getElem?_cons_zero]; rfl) (by kernel_rfl) (fun K hK => ?_)
  go_simp
  refine (QP.out _).mono ?_
  rintro e w6 ⟨rfl, rfl⟩
  go_wp2_with fail
  refine hK.out _ _ ?_ (fun hHeld => ?_)
  · exact ⟨c4, c5, c7⟩
  clear hK K
  (try simp only [Act.put, List.setIfInBounds_toArray, List.set_cons_zero, List.set_cons_succ])
  refine heldCall 5 (by simp only [List.getElem?_toArray, List.getElem?_cons_succ, List.getElem?_cons_zero]; rfl) (by kernel_rfl) (fun K hK => ?_)
  go_simp
  refine (QI.out _).mono ?_
  rintro e w6 ⟨rfl, rfl⟩
  go_wp2_with fail
  refine hK.out _ _ ?_ (fun hHeld => ?_)
  · exact ⟨c4, c5, c7⟩
  clear hK K
  (try simp only [Act.put, List.setIfInBounds_toArray, List.set_cons_zero, List.set_cons_succ])
  refine heldTake 9 (v := ?_) (by simp only [List.getElem?_toArray, List.getElem?_cons_succ, List.getElem?_cons_zero]; rfl) (by kernel_rfl) (by intro _ _ _ h; exact h) (by rfl) (by assumption) ?_ ?_
  rotate_left
  · intro W hSw; (try dsimp only at hSw); go_simp; try with_reducible rfl
  simp only [Act.put, List.setIfInBounds_toArray, List.set_cons_zero, List.set_cons_succ]
  refine heldTake 10 (v := ?_) (by simp only [List.getElem?_toArray, List.getElem?_cons_succ, List.getElem?_cons_zero]; rfl) (by kernel_rfl) (by intro _ _ _ h; exact h) (by rfl) (by assumption) ?_ ?_
  rotate_left
  · intro W hSw; (try dsimp only at hSw); go_simp; try with_reducible rfl
  simp only [Act.put, List.setIfInBounds_toArray, List.set_cons_zero, List.set_cons_succ]
  refine heldTake 11 (v := ?_) (by simp only [List.getElem?_toArray, List.getElem?_cons_succ, List.getElem?_cons_zero]; rfl) (by kernel_rfl) (by intro _ _ _ h; exact h) (by rfl) (by assumption) ?_ ?_
  rotate_left
  · intro W hSw; (try dsimp only at hSw); go_simp; try with_reducible rfl
  simp only [Act.put, List.setIfInBounds_toArray, List.set_cons_zero, List.set_cons_succ]
  refine heldDone (by kernel_rfl) ?_ _
  go_wp2_with fail
  go_ret
  exact ⟨rfl, HB.out.drew⟩
end Go.Proofs.YtaollcpoibgblaaDoor
