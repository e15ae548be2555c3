/- Contract of event.May at the events that tales tell (printed by gen_tlm.py). -/
import Derived.Test.YthbijemihaekiaaGreatDoorTlL
import Derived.Test.YthbijemihaekiaaGreatDoorKitC
namespace Go.Proofs.YthbijemihaekiaaGreatDoor
open Go.ChangeShapes Go.WideShapes Go.ChangeAt Go.RowKit
set_option linter.unusedVariables false
set_option linter.unusedSimpArgs false

theorem nm_name {c : UInt8} {n : Int} (hc : c = 109 ∨ c = 112 ∨ c = 105 ∨ c = 115) (h : 0 ≤ n ∧ n ≤ 9) : nameB (nm c n) = true := by
  have hn : n = 0 ∨ n = 1 ∨ n = 2 ∨ n = 3 ∨ n = 4 ∨ n = 5 ∨ n = 6 ∨ n = 7 ∨ n = 8 ∨ n = 9 := by omega
  rcases hc with rfl | rfl | rfl | rfl <;> rcases hn with rfl | rfl | rfl | rfl | rfl | rfl | rfl | rfl | rfl | rfl <;> decide
theorem noT_name : nameB ⟨#[]⟩ = false := by decide
theorem nameB_size {s : ByteArray} (h : nameB s = true) : s.size ≤ 24 ∧ 1 ≤ s.size := by unfold nameB at h; simp at h; omega
theorem nameQ (s : ByteArray) (h : nameB s = true) (w : World) : Calls Tryz.prog 40 #[.string s] w fun e w' => e = .returned (.bool true) ∧ w = w' := by
  have := name_any s w (by have := nameB_size h; unfold maxLen; omega)
  rwa [h] at this
theorem nameQ0 (w : World) : Calls Tryz.prog 40 #[.string ⟨#[]⟩] w fun e w' => e = .returned (.bool false) ∧ w = w' := by
  have := name_any ⟨#[]⟩ w (by unfold maxLen; decide)
  rwa [noT_name] at this
def MayNew (w : World) (e : Ending) (w' : World) : Prop := e = .returned (.bool true) ∧ Below w.heap.size w w'
theorem name_ne {s : ByteArray} (h : nameB s = true) : (s.toList == []) = false := by
  rw [toList_data]
  have := (nameB_size h).2
  cases hq : s.data.toList with
  | nil => (have e : s.size = 0 := by show s.data.toList.length = 0; rw [hq]; rfl); omega
  | cons a l => rfl

set_option maxRecDepth 20000 in
set_option maxHeartbeats 2000000 in
theorem may0 (src : ByteArray) (num at_ : Int) (p : ByteArray) (i : ByteArray) (w : World) (hs : nameB src = true) (hn : 1 ≤ num ∧ num ≤ 1000) (ha : 0 ≤ at_ ∧ at_ ≤ 100000) (hp : nameB p = true) (hi : nameB i = true) :
    Calls Tryz.prog 27 #[.agg #[.string src, .int .i64 num, .int .i64 at_, .int .i64 0, .string p, .string i, .int .i64 0, .string ⟨#[]⟩]] w (MayNew w) := by
  have QS := Lib.hid (nameQ src hs)
  have QP := Lib.hid (nameQ p hp)
  have QI := Lib.hid (nameQ i hi)
  clear hs hp hi 
  obtain ⟨W1, hW1⟩ : ∃ W1, W1 = w.alloc (.cells #[.string src, .int .i64 num, .int .i64 at_, .int .i64 0, .string p, .string i, .int .i64 0, .string ⟨#[]⟩] 41) := ⟨_, rfl⟩
  have hbx : W1.heap[w.heap.size]? = some (.cells #[.string src, .int .i64 num, .int .i64 at_, .int .i64 0, .string p, .string i, .int .i64 0, .string ⟨#[]⟩] 41 (0, 0)) := by rw [hW1]; exact heap_alloc_new w _
  have hB : Below w.heap.size w W1 := by rw [hW1]; exact (Below.refl _ w).alloc (Nat.le_refl _) _
  have c0 : W1.cell? ⟨w.heap.size, 0, none⟩ = some (.string src) := by rw [cell_of_row W1 w.heap.size 0 _ _ _ hbx]; rfl
  have c1 : W1.cell? ⟨w.heap.size, 1, none⟩ = some (.int .i64 num) := by rw [cell_of_row W1 w.heap.size 1 _ _ _ hbx]; rfl
  have c2 : W1.cell? ⟨w.heap.size, 2, none⟩ = some (.int .i64 at_) := by rw [cell_of_row W1 w.heap.size 2 _ _ _ hbx]; rfl
  have c3 : W1.cell? ⟨w.heap.size, 3, none⟩ = some (.int .i64 0) := by rw [cell_of_row W1 w.heap.size 3 _ _ _ hbx]; rfl
  have c4 : W1.cell? ⟨w.heap.size, 4, none⟩ = some (.string p) := by rw [cell_of_row W1 w.heap.size 4 _ _ _ hbx]; rfl
  have c5 : W1.cell? ⟨w.heap.size, 5, none⟩ = some (.string i) := by rw [cell_of_row W1 w.heap.size 5 _ _ _ hbx]; rfl
  have c6 : W1.cell? ⟨w.heap.size, 6, none⟩ = some (.int .i64 0) := by rw [cell_of_row W1 w.heap.size 6 _ _ _ hbx]; rfl
  have c7 : W1.cell? ⟨w.heap.size, 7, none⟩ = some (.string ⟨#[]⟩) := by rw [cell_of_row W1 w.heap.size 7 _ _ _ hbx]; rfl
  have HB := Lib.hid hB
  clear hbx hB
  go_enter Tryz.func27, Tryz.ntmps27
  go_upto_region 1 with fail
  rw [← hW1]
  clear hW1
  go_wp2_with fail
  refine (QS.out _).mono ?_
  rintro e w6 ⟨rfl, rfl⟩
  go_upto_region 3 with fail
  refine heldStart 11 (S := fun W => W.cell? ⟨w.heap.size, 4, none⟩ = some (.string p) ∧ W.cell? ⟨w.heap.size, 5, none⟩ = some (.string i) ∧ W.cell? ⟨w.heap.size, 7, none⟩ = some (.string ⟨#[]⟩)) (by kernel_rfl) ?_ (fun hHeld => ?_)
  · exact ⟨c4, c5, c7⟩
  refine heldTake 0 (v := ?_) (by simp only [List.getElem?_toArray, List.getElem?_cons_succ, List.getElem?_cons_zero]; rfl) (by kernel_rfl) (by intro _ _ _ h; exact h) (by rfl) (by assumption) ?_ ?_
  rotate_left
  · intro W hSw; (try dsimp only at hSw); go_simp; try with_reducible rfl
  simp only [Act.put, List.setIfInBounds_toArray, List.set_cons_zero, List.set_cons_succ]
  refine heldTake 1 (v := ?_) (by simp only [List.getElem?_toArray, List.getElem?_cons_succ, List.getElem?_cons_zero]; rfl) (by kernel_rfl) (by intro _ _ _ h; exact h) (by rfl) (by assumption) ?_ ?_
  rotate_left
  · intro W hSw; (try dsimp only at hSw); go_simp; try with_reducible rfl
  simp only [Act.put, List.setIfInBounds_toArray, List.set_cons_zero, List.set_cons_succ]
  refine heldTake 3 (v := ?_) (by simp only [List.getElem?_toArray, List.getElem?_cons_succ, List.getElem?_cons_zero]; rfl) (by kernel_rfl) (by intro _ _ _ h; exact h) (by rfl) (by assumption) ?_ ?_
  rotate_left
  · intro W hSw; (try dsimp only at hSw); go_simp; try with_reducible rfl
  simp only [Act.put, List.setIfInBounds_toArray, List.set_cons_zero, List.set_cons_succ]
  refine heldTake 4 (v := ?_) (by simp only [List.getElem?_toArray, List.getElem?_cons_succ, List.getElem?_cons_zero]; rfl) (by kernel_rfl) (by intro _ _ _ h; exact h) (by rfl) (by assumption) ?_ ?_
  rotate_left
  · intro W hSw; (try dsimp only at hSw); go_simp; try with_reducible rfl
  simp only [Act.put, List.setIfInBounds_toArray, List.set_cons_zero, List.set_cons_succ]
  refine heldTake 6 (v := ?_) (by simp only [List.getElem?_toArray, List.getElem?_cons_succ, List.getElem?_cons_zero]; rfl) (by kernel_rfl) (by intro _ _ _ h; exact h) (by rfl) (by assumption) ?_ ?_
  rotate_left
  · intro W hSw; (try dsimp only at hSw); go_simp; try with_reducible rfl
  simp only [Act.put, List.setIfInBounds_toArray, List.set_cons_zero, List.set_cons_succ]
  refine heldTake 7 (v := ?_) (by simp only [List.getElem?_toArray, List.getElem?_cons_succ, List.getElem?_cons_zero]; rfl) (by kernel_rfl) (by intro _ _ _ h; exact h) (by rfl) (by assumption) ?_ ?_
  rotate_left
  · intro W hSw; (try dsimp only at hSw); go_simp; try with_reducible rfl
  simp only [Act.put, List.setIfInBounds_toArray, List.set_cons_zero, List.set_cons_succ]
  refine heldTake 8 (v := ?_) (by simp only [List.getElem?_toArray, List.getElem?_cons_succ, List.getElem?_cons_zero]; rfl) (by kernel_rfl) (by intro _ _ _ h; exact h) (by rfl) (by assumption) ?_ ?_
  rotate_left
  · intro W hSw; (try dsimp only at hSw); go_simp; try with_reducible rfl
  simp only [Act.put, List.setIfInBounds_toArray, List.set_cons_zero, List.set_cons_succ]
  refine heldCall 2 (by simp only [List.getElem?_toArray, List.getElem?_cons_succ, List.getElem?_cons_zero]; rfl) (by kernel_rfl) (fun K hK => ?_)
  go_simp
  refine (QP.out _).mono ?_
  rintro e w6 ⟨rfl, rfl⟩
  go_wp2_with fail
  refine hK.out _ _ ?_ (fun hHeld => ?_)
  · exact ⟨c4, c5, c7⟩
  clear hK K
  (try simp only [Act.put, List.setIfInBounds_toArray, List.set_cons_zero, List.set_cons_succ])
  refine heldCall 5 (by simp only [List.getElem?_toArray, List.getElem?_cons_succ, List.getElem?_cons_zero]; rfl) (by kernel_rfl) (fun K hK => ?_)
  go_simp
  refine (QI.out _).mono ?_
  rintro e w6 ⟨rfl, rfl⟩
  go_wp2_with fail
  refine hK.out _ _ ?_ (fun hHeld => ?_)
  · exact ⟨c4, c5, c7⟩
  clear hK K
  (try simp only [Act.put, List.setIfInBounds_toArray, List.set_cons_zero, List.set_cons_succ])
  refine heldTake 9 (v := ?_) (by simp only [List.getElem?_toArray, List.getElem?_cons_succ, List.getElem?_cons_zero]; rfl) (by kernel_rfl) (by intro _ _ _ h; exact h) (by rfl) (by assumption) ?_ ?_
  rotate_left
  · intro W hSw; (try dsimp only at hSw); go_simp; try with_reducible rfl
  simp only [Act.put, List.setIfInBounds_toArray, List.set_cons_zero, List.set_cons_succ]
  refine heldTake 10 (v := ?_) (by simp only [List.getElem?_toArray, List.getElem?_cons_succ, List.getElem?_cons_zero]; rfl) (by kernel_rfl) (by intro _ _ _ h; exact h) (by rfl) (by assumption) ?_ ?_
  rotate_left
  · intro W hSw; (try dsimp only at hSw); go_simp; try with_reducible rfl
  simp only [Act.put, List.setIfInBounds_toArray, List.set_cons_zero, List.set_cons_succ]
  refine heldTake 11 (v := ?_) (by simp only [List.getElem?_toArray, List.getElem?_cons_succ, List.getElem?_cons_zero]; rfl) (by kernel_rfl) (by intro _ _ _ h; exact h) (by rfl) (by assumption) ?_ ?_
  rotate_left
  · intro W hSw; (try dsimp only at hSw); go_simp; try with_reducible rfl
  simp only [Act.put, List.setIfInBounds_toArray, List.set_cons_zero, List.set_cons_succ]
  refine heldDone (by kernel_rfl) ?_ _
  go_wp2_with fail
  go_ret
  exact ⟨rfl, HB.out.drew⟩
set_option maxRecDepth 20000 in
set_option maxHeartbeats 2000000 in
theorem may1 (src : ByteArray) (num at_ : Int) (p : ByteArray) (i : ByteArray) (w : World) (hs : nameB src = true) (hn : 1 ≤ num ∧ num ≤ 1000) (ha : 0 ≤ at_ ∧ at_ ≤ 100000) (hp : nameB p = true) (hi : nameB i = true) :
    Calls Tryz.prog 27 #[.agg #[.string src, .int .i64 num, .int .i64 at_, .int .i64 1, .string p, .string i, .int .i64 0, .string ⟨#[]⟩]] w (MayNew w) := by
  have QS := Lib.hid (nameQ src hs)
  have QP := Lib.hid (nameQ p hp)
  have QI := Lib.hid (nameQ i hi)
  clear hs hp hi 
  obtain ⟨W1, hW1⟩ : ∃ W1, W1 = w.alloc (.cells #[.string src, .int .i64 num, .int .i64 at_, .int .i64 1, .string p, .string i, .int .i64 0, .string ⟨#[]⟩] 41) := ⟨_, rfl⟩
  have hbx : W1.heap[w.heap.size]? = some (.cells #[.string src, .int .i64 num, .int .i64 at_, .int .i64 1, .string p, .string i, .int .i64 0, .string ⟨#[]⟩] 41 (0, 0)) := by rw [hW1]; exact heap_alloc_new w _
  have hB : Below w.heap.size w W1 := by rw [hW1]; exact (Below.refl _ w).alloc (Nat.le_refl _) _
  have c0 : W1.cell? ⟨w.heap.size, 0, none⟩ = some (.string src) := by rw [cell_of_row W1 w.heap.size 0 _ _ _ hbx]; rfl
  have c1 : W1.cell? ⟨w.heap.size, 1, none⟩ = some (.int .i64 num) := by rw [cell_of_row W1 w.heap.size 1 _ _ _ hbx]; rfl
  have c2 : W1.cell? ⟨w.heap.size, 2, none⟩ = some (.int .i64 at_) := by rw [cell_of_row W1 w.heap.size 2 _ _ _ hbx]; rfl
  have c3 : W1.cell? ⟨w.heap.size, 3, none⟩ = some (.int .i64 1) := by rw [cell_of_row W1 w.heap.size 3 _ _ _ hbx]; rfl
  have c4 : W1.cell? ⟨w.heap.size, 4, none⟩ = some (.string p) := by rw [cell_of_row W1 w.heap.size 4 _ _ _ hbx]; rfl
  have c5 : W1.cell? ⟨w.heap.size, 5, none⟩ = some (.string i) := by rw [cell_of_row W1 w.heap.size 5 _ _ _ hbx]; rfl
  have c6 : W1.cell? ⟨w.heap.size, 6, none⟩ = some (.int .i64 0) := by rw [cell_of_row W1 w.heap.size 6 _ _ _ hbx]; rfl
  have c7 : W1.cell? ⟨w.heap.size, 7, none⟩ = some (.string ⟨#[]⟩) := by rw [cell_of_row W1 w.heap.size 7 _ _ _ hbx]; rfl
  have HB := Lib.hid hB
  clear hbx hB
  go_enter Tryz.func27, Tryz.ntmps27
  go_upto_region 1 with fail
  rw [← hW1]
  clear hW1
  go_wp2_with fail
  refine (QS.out _).mono ?_
  rintro e w6 ⟨rfl, rfl⟩
  go_upto_region 3 with fail
  refine heldStart 11 (S := fun W => W.cell? ⟨w.heap.size, 4, none⟩ = some (.string p) ∧ W.cell? ⟨w.heap.size, 5, none⟩ = some (.string i) ∧ W.cell? ⟨w.heap.size, 7, none⟩ = some (.string ⟨#[]⟩)) (by kernel_rfl) ?_ (fun hHeld => ?_)
  · exact ⟨c4, c5, c7⟩
  refine heldTake 0 (v := ?_) (by simp only [List.getElem?_toArray, List.getElem?_cons_succ, List.getElem?_cons_zero]; rfl) (by kernel_rfl) (by intro _ _ _ h; exact h) (by rfl) (by assumption) ?_ ?_
  rotate_left
  · intro W hSw; (try dsimp only at hSw); go_simp; try with_reducible rfl
  simp only [Act.put, List.setIfInBounds_toArray, List.set_cons_zero, List.set_cons_succ]
  refine heldTake 1 (v := ?_) (by simp only [List.getElem?_toArray, List.getElem?_cons_succ, List.getElem?_cons_zero]; rfl) (by kernel_rfl) (by intro _ _ _ h; exact h) (by rfl) (by assumption) ?_ ?_
  rotate_left
  · intro W hSw; (try dsimp only at hSw); go_simp; try with_reducible rfl
  simp only [Act.put, List.setIfInBounds_toArray, List.set_cons_zero, List.set_cons_succ]
  refine heldTake 3 (v := ?_) (by simp only [List.getElem?_toArray, List.getElem?_cons_succ, List.getElem?_cons_zero]; rfl) (by kernel_rfl) (by intro _ _ _ h; exact h) (by rfl) (by assumption) ?_ ?_
  rotate_left
  · intro W hSw; (try dsimp only at hSw); go_simp; try with_reducible rfl
  simp only [Act.put, List.setIfInBounds_toArray, List.set_cons_zero, List.set_cons_succ]
  refine heldTake 4 (v := ?_) (by simp only [List.getElem?_toArray, List.getElem?_cons_succ, List.getElem?_cons_zero]; rfl) (by kernel_rfl) (by intro _ _ _ h; exact h) (by rfl) (by assumption) ?_ ?_
  rotate_left
  · intro W hSw; (try dsimp only at hSw); go_simp; try with_reducible rfl
  simp only [Act.put, List.setIfInBounds_toArray, List.set_cons_zero, List.set_cons_succ]
  refine heldTake 6 (v := ?_) (by simp only [List.getElem?_toArray, List.getElem?_cons_succ, List.getElem?_cons_zero]; rfl) (by kernel_rfl) (by intro _ _ _ h; exact h) (by rfl) (by assumption) ?_ ?_
  rotate_left
  · intro W hSw; (try dsimp only at hSw); go_simp; try with_reducible rfl
  simp only [Act.put, List.setIfInBounds_toArray, List.set_cons_zero, List.set_cons_succ]
  refine heldTake 7 (v := ?_) (by simp only [List.getElem?_toArray, List.getElem?_cons_succ, List.getElem?_cons_zero]; rfl) (by kernel_rfl) (by intro _ _ _ h; exact h) (by rfl) (by assumption) ?_ ?_
  rotate_left
  · intro W hSw; (try dsimp only at hSw); go_simp; try with_reducible rfl
  simp only [Act.put, List.setIfInBounds_toArray, List.set_cons_zero, List.set_cons_succ]
  refine heldTake 8 (v := ?_) (by simp only [List.getElem?_toArray, List.getElem?_cons_succ, List.getElem?_cons_zero]; rfl) (by kernel_rfl) (by intro _ _ _ h; exact h) (by rfl) (by assumption) ?_ ?_
  rotate_left
  · intro W hSw; (try dsimp only at hSw); go_simp; try with_reducible rfl
  simp only [Act.put, List.setIfInBounds_toArray, List.set_cons_zero, List.set_cons_succ]
  refine heldCall 2 (by simp only [List.getElem?_toArray, List.getElem?_cons_succ, List.getElem?_cons_zero]; rfl) (by kernel_rfl) (fun K hK => ?_)
  go_simp
  refine (QP.out _).mono ?_
  rintro e w6 ⟨rfl, rfl⟩
  go_wp2_with fail
  refine hK.out _ _ ?_ (fun hHeld => ?_)
  · exact ⟨c4, c5, c7⟩
  clear hK K
  (try simp only [Act.put, List.setIfInBounds_toArray, List.set_cons_zero, List.set_cons_succ])
  refine heldCall 5 (by simp only [List.getElem?_toArray, List.getElem?_cons_succ, List.getElem?_cons_zero]; rfl) (by kernel_rfl) (fun K hK => ?_)
  go_simp
  refine (QI.out _).mono ?_
  rintro e w6 ⟨rfl, rfl⟩
  go_wp2_with fail
  refine hK.out _ _ ?_ (fun hHeld => ?_)
  · exact ⟨c4, c5, c7⟩
  clear hK K
  (try simp only [Act.put, List.setIfInBounds_toArray, List.set_cons_zero, List.set_cons_succ])
  refine heldTake 9 (v := ?_) (by simp only [List.getElem?_toArray, List.getElem?_cons_succ, List.getElem?_cons_zero]; rfl) (by kernel_rfl) (by intro _ _ _ h; exact h) (by rfl) (by assumption) ?_ ?_
  rotate_left
  · intro W hSw; (try dsimp only at hSw); go_simp; try with_reducible rfl
  simp only [Act.put, List.setIfInBounds_toArray, List.set_cons_zero, List.set_cons_succ]
  refine heldTake 10 (v := ?_) (by simp only [List.getElem?_toArray, List.getElem?_cons_succ, List.getElem?_cons_zero]; rfl) (by kernel_rfl) (by intro _ _ _ h; exact h) (by rfl) (by assumption) ?_ ?_
  rotate_left
  · intro W hSw; (try dsimp only at hSw); go_simp; try with_reducible rfl
  simp only [Act.put, List.setIfInBounds_toArray, List.set_cons_zero, List.set_cons_succ]
  refine heldTake 11 (v := ?_) (by simp only [List.getElem?_toArray, List.getElem?_cons_succ, List.getElem?_cons_zero]; rfl) (by kernel_rfl) (by intro _ _ _ h; exact h) (by rfl) (by assumption) ?_ ?_
  rotate_left
  · intro W hSw; (try dsimp only at hSw); go_simp; try with_reducible rfl
  simp only [Act.put, List.setIfInBounds_toArray, List.set_cons_zero, List.set_cons_succ]
  refine heldDone (by kernel_rfl) ?_ _
  go_wp2_with fail
  go_ret
  exact ⟨rfl, HB.out.drew⟩
set_option maxRecDepth 20000 in
set_option maxHeartbeats 2000000 in
theorem may2 (src : ByteArray) (num at_ : Int) (p : ByteArray) (i : ByteArray) (w : World) (hs : nameB src = true) (hn : 1 ≤ num ∧ num ≤ 1000) (ha : 0 ≤ at_ ∧ at_ ≤ 100000) (hp : nameB p = true) (hi : nameB i = true) :
    Calls Tryz.prog 27 #[.agg #[.string src, .int .i64 num, .int .i64 at_, .int .i64 2, .string p, .string i, .int .i64 0, .string ⟨#[]⟩]] w (MayNew w) := by
  have QS := Lib.hid (nameQ src hs)
  have QP := Lib.hid (nameQ p hp)
  have QI := Lib.hid (nameQ i hi)
  clear hs hp hi 
  obtain ⟨W1, hW1⟩ : ∃ W1, W1 = w.alloc (.cells #[.string src, .int .i64 num, .int .i64 at_, .int .i64 2, .string p, .string i, .int .i64 0, .string ⟨#[]⟩] 41) := ⟨_, rfl⟩
  have hbx : W1.heap[w.heap.size]? = some (.cells #[.string src, .int .i64 num, .int .i64 at_, .int .i64 2, .string p, .string i, .int .i64 0, .string ⟨#[]⟩] 41 (0, 0)) := by rw [hW1]; exact heap_alloc_new w _
  have hB : Below w.heap.size w W1 := by rw [hW1]; exact (Below.refl _ w).alloc (Nat.le_refl _) _
  have c0 : W1.cell? ⟨w.heap.size, 0, none⟩ = some (.string src) := by rw [cell_of_row W1 w.heap.size 0 _ _ _ hbx]; rfl
  have c1 : W1.cell? ⟨w.heap.size, 1, none⟩ = some (.int .i64 num) := by rw [cell_of_row W1 w.heap.size 1 _ _ _ hbx]; rfl
  have c2 : W1.cell? ⟨w.heap.size, 2, none⟩ = some (.int .i64 at_) := by rw [cell_of_row W1 w.heap.size 2 _ _ _ hbx]; rfl
  have c3 : W1.cell? ⟨w.heap.size, 3, none⟩ = some (.int .i64 2) := by rw [cell_of_row W1 w.heap.size 3 _ _ _ hbx]; rfl
  have c4 : W1.cell? ⟨w.heap.size, 4, none⟩ = some (.string p) := by rw [cell_of_row W1 w.heap.size 4 _ _ _ hbx]; rfl
  have c5 : W1.cell? ⟨w.heap.size, 5, none⟩ = some (.string i) := by rw [cell_of_row W1 w.heap.size 5 _ _ _ hbx]; rfl
  have c6 : W1.cell? ⟨w.heap.size, 6, none⟩ = some (.int .i64 0) := by rw [cell_of_row W1 w.heap.size 6 _ _ _ hbx]; rfl
  have c7 : W1.cell? ⟨w.heap.size, 7, none⟩ = some (.string ⟨#[]⟩) := by rw [cell_of_row W1 w.heap.size 7 _ _ _ hbx]; rfl
  have HB := Lib.hid hB
  clear hbx hB
  go_enter Tryz.func27, Tryz.ntmps27
  go_upto_region 1 with fail
  rw [← hW1]
  clear hW1
  go_wp2_with fail
  refine (QS.out _).mono ?_
  rintro e w6 ⟨rfl, rfl⟩
  go_upto_region 3 with fail
  refine heldStart 11 (S := fun W => W.cell? ⟨w.heap.size, 4, none⟩ = some (.string p) ∧ W.cell? ⟨w.heap.size, 5, none⟩ = some (.string i) ∧ W.cell? ⟨w.heap.size, 7, none⟩ = some (.string ⟨#[]⟩)) (by kernel_rfl) ?_ (fun hHeld => ?_)
  · exact ⟨c4, c5, c7⟩
  refine heldTake 0 (v := ?_) (by simp only [List.getElem?_toArray, List.getElem?_cons_succ, List.getElem?_cons_zero]; rfl) (by kernel_rfl) (by intro _ _ _ h; exact h) (by rfl) (by assumption) ?_ ?_
  rotate_left
  · intro W hSw; (try dsimp only at hSw); go_simp; try with_reducible rfl
  simp only [Act.put, List.setIfInBounds_toArray, List.set_cons_zero, List.set_cons_succ]
  refine heldTake 1 (v := ?_) (by simp only [List.getElem?_toArray, List.getElem?_cons_succ, List.getElem?_cons_zero]; rfl) (by kernel_rfl) (by intro _ _ _ h; exact h) (by rfl) (by assumption) ?_ ?_
  rotate_left
  · intro W hSw; (try dsimp only at hSw); go_simp; try with_reducible rfl
  simp only [Act.put, List.setIfInBounds_toArray, List.set_cons_zero, List.set_cons_succ]
  refine heldTake 3 (v := ?_) (by simp only [List.getElem?_toArray, List.getElem?_cons_succ, List.getElem?_cons_zero]; rfl) (by kernel_rfl) (by intro _ _ _ h; exact h) (by rfl) (by assumption) ?_ ?_
  rotate_left
  · intro W hSw; (try dsimp only at hSw); go_simp; try with_reducible rfl
  simp only [Act.put, List.setIfInBounds_toArray, List.set_cons_zero, List.set_cons_succ]
  refine heldTake 4 (v := ?_) (by simp only [List.getElem?_toArray, List.getElem?_cons_succ, List.getElem?_cons_zero]; rfl) (by kernel_rfl) (by intro _ _ _ h; exact h) (by rfl) (by assumption) ?_ ?_
  rotate_left
  · intro W hSw; (try dsimp only at hSw); go_simp; try with_reducible rfl
  simp only [Act.put, List.setIfInBounds_toArray, List.set_cons_zero, List.set_cons_succ]
  refine heldTake 6 (v := ?_) (by simp only [List.getElem?_toArray, List.getElem?_cons_succ, List.getElem?_cons_zero]; rfl) (by kernel_rfl) (by intro _ _ _ h; exact h) (by rfl) (by assumption) ?_ ?_
  rotate_left
  · intro W hSw; (try dsimp only at hSw); go_simp; try with_reducible rfl
  simp only [Act.put, List.setIfInBounds_toArray, List.set_cons_zero, List.set_cons_succ]
  refine heldTake 7 (v := ?_) (by simp only [List.getElem?_toArray, List.getElem?_cons_succ, List.getElem?_cons_zero]; rfl) (by kernel_rfl) (by intro _ _ _ h; exact h) (by rfl) (by assumption) ?_ ?_
  rotate_left
  · intro W hSw; (try dsimp only at hSw); go_simp; try with_reducible rfl
  simp only [Act.put, List.setIfInBounds_toArray, List.set_cons_zero, List.set_cons_succ]
  refine heldTake 8 (v := ?_) (by simp only [List.getElem?_toArray, List.getElem?_cons_succ, List.getElem?_cons_zero]; rfl) (by kernel_rfl) (by intro _ _ _ h; exact h) (by rfl) (by assumption) ?_ ?_
  rotate_left
  · intro W hSw; (try dsimp only at hSw); go_simp; try with_reducible rfl
  simp only [Act.put, List.setIfInBounds_toArray, List.set_cons_zero, List.set_cons_succ]
  refine heldCall 2 (by simp only [List.getElem?_toArray, List.getElem?_cons_succ, List.getElem?_cons_zero]; rfl) (by kernel_rfl) (fun K hK => ?_)
  go_simp
  refine (QP.out _).mono ?_
  rintro e w6 ⟨rfl, rfl⟩
  go_wp2_with fail
  refine hK.out _ _ ?_ (fun hHeld => ?_)
  · exact ⟨c4, c5, c7⟩
  clear hK K
  (try simp only [Act.put, List.setIfInBounds_toArray, List.set_cons_zero, List.set_cons_succ])
  refine heldCall 5 (by simp only [List.getElem?_toArray, List.getElem?_cons_succ, List.getElem?_cons_zero]; rfl) (by kernel_rfl) (fun K hK => ?_)
  go_simp
  refine (QI.out _).mono ?_
  rintro e w6 ⟨rfl, rfl⟩
  go_wp2_with fail
  refine hK.out _ _ ?_ (fun hHeld => ?_)
  · exact ⟨c4, c5, c7⟩
  clear hK K
  (try simp only [Act.put, List.setIfInBounds_toArray, List.set_cons_zero, List.set_cons_succ])
  refine heldTake 9 (v := ?_) (by simp only [List.getElem?_toArray, List.getElem?_cons_succ, List.getElem?_cons_zero]; rfl) (by kernel_rfl) (by intro _ _ _ h; exact h) (by rfl) (by assumption) ?_ ?_
  rotate_left
  · intro W hSw; (try dsimp only at hSw); go_simp; try with_reducible rfl
  simp only [Act.put, List.setIfInBounds_toArray, List.set_cons_zero, List.set_cons_succ]
  refine heldTake 10 (v := ?_) (by simp only [List.getElem?_toArray, List.getElem?_cons_succ, List.getElem?_cons_zero]; rfl) (by kernel_rfl) (by intro _ _ _ h; exact h) (by rfl) (by assumption) ?_ ?_
  rotate_left
  · intro W hSw; (try dsimp only at hSw); go_simp; try with_reducible rfl
  simp only [Act.put, List.setIfInBounds_toArray, List.set_cons_zero, List.set_cons_succ]
  refine heldTake 11 (v := ?_) (by simp only [List.getElem?_toArray, List.getElem?_cons_succ, List.getElem?_cons_zero]; rfl) (by kernel_rfl) (by intro _ _ _ h; exact h) (by rfl) (by assumption) ?_ ?_
  rotate_left
  · intro W hSw; (try dsimp only at hSw); go_simp; try with_reducible rfl
  simp only [Act.put, List.setIfInBounds_toArray, List.set_cons_zero, List.set_cons_succ]
  refine heldDone (by kernel_rfl) ?_ _
  go_wp2_with fail
  go_ret
  exact ⟨rfl, HB.out.drew⟩
set_option maxRecDepth 20000 in
set_option maxHeartbeats 2000000 in
theorem may3 (src : ByteArray) (num at_ : Int) (p : ByteArray) (i : ByteArray) (w : World) (hs : nameB src = true) (hn : 1 ≤ num ∧ num ≤ 1000) (ha : 0 ≤ at_ ∧ at_ ≤ 100000) (hp : nameB p = true) (hi : nameB i = true) :
    Calls Tryz.prog 27 #[.agg #[.string src, .int .i64 num, .int .i64 at_, .int .i64 3, .string p, .string i, .int .i64 0, .string ⟨#[]⟩]] w (MayNew w) := by
  have QS := Lib.hid (nameQ src hs)
  have QP := Lib.hid (nameQ p hp)
  have QI := Lib.hid (nameQ i hi)
  clear hs hp hi 
  obtain ⟨W1, hW1⟩ : ∃ W1, W1 = w.alloc (.cells #[.string src, .int .i64 num, .int .i64 at_, .int .i64 3, .string p, .string i, .int .i64 0, .string ⟨#[]⟩] 41) := ⟨_, rfl⟩
  have hbx : W1.heap[w.heap.size]? = some (.cells #[.string src, .int .i64 num, .int .i64 at_, .int .i64 3, .string p, .string i, .int .i64 0, .string ⟨#[]⟩] 41 (0, 0)) := by rw [hW1]; exact heap_alloc_new w _
  have hB : Below w.heap.size w W1 := by rw [hW1]; exact (Below.refl _ w).alloc (Nat.le_refl _) _
  have c0 : W1.cell? ⟨w.heap.size, 0, none⟩ = some (.string src) := by rw [cell_of_row W1 w.heap.size 0 _ _ _ hbx]; rfl
  have c1 : W1.cell? ⟨w.heap.size, 1, none⟩ = some (.int .i64 num) := by rw [cell_of_row W1 w.heap.size 1 _ _ _ hbx]; rfl
  have c2 : W1.cell? ⟨w.heap.size, 2, none⟩ = some (.int .i64 at_) := by rw [cell_of_row W1 w.heap.size 2 _ _ _ hbx]; rfl
  have c3 : W1.cell? ⟨w.heap.size, 3, none⟩ = some (.int .i64 3) := by rw [cell_of_row W1 w.heap.size 3 _ _ _ hbx]; rfl
  have c4 : W1.cell? ⟨w.heap.size, 4, none⟩ = some (.string p) := by rw [cell_of_row W1 w.heap.size 4 _ _ _ hbx]; rfl
  have c5 : W1.cell? ⟨w.heap.size, 5, none⟩ = some (.string i) := by rw [cell_of_row W1 w.heap.size 5 _ _ _ hbx]; rfl
  have c6 : W1.cell? ⟨w.heap.size, 6, none⟩ = some (.int .i64 0) := by rw [cell_of_row W1 w.heap.size 6 _ _ _ hbx]; rfl
  have c7 : W1.cell? ⟨w.heap.size, 7, none⟩ = some (.string ⟨#[]⟩) := by rw [cell_of_row W1 w.heap.size 7 _ _ _ hbx]; rfl
  have HB := Lib.hid hB
  clear hbx hB
  go_enter Tryz.func27, Tryz.ntmps27
  go_upto_region 1 with fail
  rw [← hW1]
  clear hW1
  go_wp2_with fail
  refine (QS.out _).mono ?_
  rintro e w6 ⟨rfl, rfl⟩
  go_upto_region 3 with fail
  refine heldStart 11 (S := fun W => W.cell? ⟨w.heap.size, 4, none⟩ = some (.string p) ∧ W.cell? ⟨w.heap.size, 5, none⟩ = some (.string i) ∧ W.cell? ⟨w.heap.size, 7, none⟩ = some (.string ⟨#[]⟩)) (by kernel_rfl) ?_ (fun hHeld => ?_)
  · exact ⟨c4, c5, c7⟩
  refine heldTake 0 (v := ?_) (by simp only [List.getElem?_toArray, List.getElem?_cons_succ, List.getElem?_cons_zero]; rfl) (by kernel_rfl) (by intro _ _ _ h; exact h) (by rfl) (by assumption) ?_ ?_
  rotate_left
  · intro W hSw; (try dsimp only at hSw); go_simp; try with_reducible rfl
  simp only [Act.put, List.setIfInBounds_toArray, List.set_cons_zero, List.set_cons_succ]
  refine heldTake 1 (v := ?_) (by simp only [List.getElem?_toArray, List.getElem?_cons_succ, List.getElem?_cons_zero]; rfl) (by kernel_rfl) (by intro _ _ _ h; exact h) (by rfl) (by assumption) ?_ ?_
  rotate_left
  · intro W hSw; (try dsimp only at hSw); go_simp; try with_reducible rfl
  simp only [Act.put, List.setIfInBounds_toArray, List.set_cons_zero, List.set_cons_succ]
  refine heldTake 3 (v := ?_) (by simp only [List.getElem?_toArray, List.getElem?_cons_succ, List.getElem?_cons_zero]; rfl) (by kernel_rfl) (by intro _ _ _ h; exact h) (by rfl) (by assumption) ?_ ?_
  rotate_left
  · intro W hSw; (try dsimp only at hSw); go_simp; try with_reducible rfl
  simp only [Act.put, List.setIfInBounds_toArray, List.set_cons_zero, List.set_cons_succ]
  refine heldTake 4 (v := ?_) (by simp only [List.getElem?_toArray, List.getElem?_cons_succ, List.getElem?_cons_zero]; rfl) (by kernel_rfl) (by intro _ _ _ h; exact h) (by rfl) (by assumption) ?_ ?_
  rotate_left
  · intro W hSw; (try dsimp only at hSw); go_simp; try with_reducible rfl
  simp only [Act.put, List.setIfInBounds_toArray, List.set_cons_zero, List.set_cons_succ]
  refine heldTake 6 (v := ?_) (by simp only [List.getElem?_toArray, List.getElem?_cons_succ, List.getElem?_cons_zero]; rfl) (by kernel_rfl) (by intro _ _ _ h; exact h) (by rfl) (by assumption) ?_ ?_
  rotate_left
  · intro W hSw; (try dsimp only at hSw); go_simp; try with_reducible rfl
  simp only [Act.put, List.setIfInBounds_toArray, List.set_cons_zero, List.set_cons_succ]
  refine heldTake 7 (v := ?_) (by simp only [List.getElem?_toArray, List.getElem?_cons_succ, List.getElem?_cons_zero]; rfl) (by kernel_rfl) (by intro _ _ _ h; exact h) (by rfl) (by assumption) ?_ ?_
  rotate_left
  · intro W hSw; (try dsimp only at hSw); go_simp; try with_reducible rfl
  simp only [Act.put, List.setIfInBounds_toArray, List.set_cons_zero, List.set_cons_succ]
  refine heldTake 8 (v := ?_) (by simp only [List.getElem?_toArray, List.getElem?_cons_succ, List.getElem?_cons_zero]; rfl) (by kernel_rfl) (by intro _ _ _ h; exact h) (by rfl) (by assumption) ?_ ?_
  rotate_left
  · intro W hSw; (try dsimp only at hSw); go_simp; try with_reducible rfl
  simp only [Act.put, List.setIfInBounds_toArray, List.set_cons_zero, List.set_cons_succ]
  refine heldCall 2 (by simp only [List.getElem?_toArray, List.getElem?_cons_succ, List.getElem?_cons_zero]; rfl) (by kernel_rfl) (fun K hK => ?_)
  go_simp
  refine (QP.out _).mono ?_
  rintro e w6 ⟨rfl, rfl⟩
  go_wp2_with fail
  refine hK.out _ _ ?_ (fun hHeld => ?_)
  · exact ⟨c4, c5, c7⟩
  clear hK K
  (try simp only [Act.put, List.setIfInBounds_toArray, List.set_cons_zero, List.set_cons_succ])
  refine heldCall 5 (by simp only [List.getElem?_toArray, List.getElem?_cons_succ, List.getElem?_cons_zero]; rfl) (by kernel_rfl) (fun K hK => ?_)
  go_simp
  refine (QI.out _).mono ?_
  rintro e w6 ⟨rfl, rfl⟩
  go_wp2_with fail
  refine hK.out _ _ ?_ (fun hHeld => ?_)
  · exact ⟨c4, c5, c7⟩
  clear hK K
  (try simp only [Act.put, List.setIfInBounds_toArray, List.set_cons_zero, List.set_cons_succ])
  refine heldTake 9 (v := ?_) (by simp only [List.getElem?_toArray, List.getElem?_cons_succ, List.getElem?_cons_zero]; rfl) (by kernel_rfl) (by intro _ _ _ h; exact h) (by rfl) (by assumption) ?_ ?_
  rotate_left
  · intro W hSw; (try dsimp only at hSw); go_simp; try with_reducible rfl
  simp only [Act.put, List.setIfInBounds_toArray, List.set_cons_zero, List.set_cons_succ]
  refine heldTake 10 (v := ?_) (by simp only [List.getElem?_toArray, List.getElem?_cons_succ, List.getElem?_cons_zero]; rfl) (by kernel_rfl) (by intro _ _ _ h; exact h) (by rfl) (by assumption) ?_ ?_
  rotate_left
  · intro W hSw; (try dsimp only at hSw); go_simp; try with_reducible rfl
  simp only [Act.put, List.setIfInBounds_toArray, List.set_cons_zero, List.set_cons_succ]
  refine heldTake 11 (v := ?_) (by simp only [List.getElem?_toArray, List.getElem?_cons_succ, List.getElem?_cons_zero]; rfl) (by kernel_rfl) (by intro _ _ _ h; exact h) (by rfl) (by assumption) ?_ ?_
  rotate_left
  · intro W hSw; (try dsimp only at hSw); go_simp; try with_reducible rfl
  simp only [Act.put, List.setIfInBounds_toArray, List.set_cons_zero, List.set_cons_succ]
  refine heldDone (by kernel_rfl) ?_ _
  go_wp2_with fail
  go_ret
  exact ⟨rfl, HB.out.drew⟩
set_option maxRecDepth 20000 in
set_option maxHeartbeats 2000000 in
theorem may4 (src : ByteArray) (num at_ : Int) (p : ByteArray) (i : ByteArray) (v : Int) (w : World) (hs : nameB src = true) (hn : 1 ≤ num ∧ num ≤ 1000) (ha : 0 ≤ at_ ∧ at_ ≤ 100000) (hp : nameB p = true) (hi : nameB i = true) (hv : 1 ≤ v ∧ v ≤ 5) :
    Calls Tryz.prog 27 #[.agg #[.string src, .int .i64 num, .int .i64 at_, .int .i64 4, .string p, .string i, .int .i64 v, .string ⟨#[]⟩]] w (MayNew w) := by
  have QS := Lib.hid (nameQ src hs)
  have QP := Lib.hid (nameQ p hp)
  have QI := Lib.hid (nameQ i hi)
  clear hs hp hi 
  obtain ⟨W1, hW1⟩ : ∃ W1, W1 = w.alloc (.cells #[.string src, .int .i64 num, .int .i64 at_, .int .i64 4, .string p, .string i, .int .i64 v, .string ⟨#[]⟩] 41) := ⟨_, rfl⟩
  have hbx : W1.heap[w.heap.size]? = some (.cells #[.string src, .int .i64 num, .int .i64 at_, .int .i64 4, .string p, .string i, .int .i64 v, .string ⟨#[]⟩] 41 (0, 0)) := by rw [hW1]; exact heap_alloc_new w _
  have hB : Below w.heap.size w W1 := by rw [hW1]; exact (Below.refl _ w).alloc (Nat.le_refl _) _
  have c0 : W1.cell? ⟨w.heap.size, 0, none⟩ = some (.string src) := by rw [cell_of_row W1 w.heap.size 0 _ _ _ hbx]; rfl
  have c1 : W1.cell? ⟨w.heap.size, 1, none⟩ = some (.int .i64 num) := by rw [cell_of_row W1 w.heap.size 1 _ _ _ hbx]; rfl
  have c2 : W1.cell? ⟨w.heap.size, 2, none⟩ = some (.int .i64 at_) := by rw [cell_of_row W1 w.heap.size 2 _ _ _ hbx]; rfl
  have c3 : W1.cell? ⟨w.heap.size, 3, none⟩ = some (.int .i64 4) := by rw [cell_of_row W1 w.heap.size 3 _ _ _ hbx]; rfl
  have c4 : W1.cell? ⟨w.heap.size, 4, none⟩ = some (.string p) := by rw [cell_of_row W1 w.heap.size 4 _ _ _ hbx]; rfl
  have c5 : W1.cell? ⟨w.heap.size, 5, none⟩ = some (.string i) := by rw [cell_of_row W1 w.heap.size 5 _ _ _ hbx]; rfl
  have c6 : W1.cell? ⟨w.heap.size, 6, none⟩ = some (.int .i64 v) := by rw [cell_of_row W1 w.heap.size 6 _ _ _ hbx]; rfl
  have c7 : W1.cell? ⟨w.heap.size, 7, none⟩ = some (.string ⟨#[]⟩) := by rw [cell_of_row W1 w.heap.size 7 _ _ _ hbx]; rfl
  have HB := Lib.hid hB
  clear hbx hB
  go_enter Tryz.func27, Tryz.ntmps27
  go_upto_region 1 with fail
  rw [← hW1]
  clear hW1
  go_wp2_with fail
  refine (QS.out _).mono ?_
  rintro e w6 ⟨rfl, rfl⟩
  go_upto_region 3 with fail
  refine heldStart 11 (S := fun W => W.cell? ⟨w.heap.size, 4, none⟩ = some (.string p) ∧ W.cell? ⟨w.heap.size, 5, none⟩ = some (.string i) ∧ W.cell? ⟨w.heap.size, 7, none⟩ = some (.string ⟨#[]⟩)) (by kernel_rfl) ?_ (fun hHeld => ?_)
  · exact ⟨c4, c5, c7⟩
  refine heldTake 0 (v := ?_) (by simp only [List.getElem?_toArray, List.getElem?_cons_succ, List.getElem?_cons_zero]; rfl) (by kernel_rfl) (by intro _ _ _ h; exact h) (by rfl) (by assumption) ?_ ?_
  rotate_left
  · intro W hSw; (try dsimp only at hSw); go_simp; try with_reducible rfl
  simp only [Act.put, List.setIfInBounds_toArray, List.set_cons_zero, List.set_cons_succ]
  refine heldTake 1 (v := ?_) (by simp only [List.getElem?_toArray, List.getElem?_cons_succ, List.getElem?_cons_zero]; rfl) (by kernel_rfl) (by intro _ _ _ h; exact h) (by rfl) (by assumption) ?_ ?_
  rotate_left
  · intro W hSw; (try dsimp only at hSw); go_simp; try with_reducible rfl
  simp only [Act.put, List.setIfInBounds_toArray, List.set_cons_zero, List.set_cons_succ]
  refine heldTake 3 (v := ?_) (by simp only [List.getElem?_toArray, List.getElem?_cons_succ, List.getElem?_cons_zero]; rfl) (by kernel_rfl) (by intro _ _ _ h; exact h) (by rfl) (by assumption) ?_ ?_
  rotate_left
  · intro W hSw; (try dsimp only at hSw); go_simp; try with_reducible rfl
  simp only [Act.put, List.setIfInBounds_toArray, List.set_cons_zero, List.set_cons_succ]
  refine heldTake 4 (v := ?_) (by simp only [List.getElem?_toArray, List.getElem?_cons_succ, List.getElem?_cons_zero]; rfl) (by kernel_rfl) (by intro _ _ _ h; exact h) (by rfl) (by assumption) ?_ ?_
  rotate_left
  · intro W hSw; (try dsimp only at hSw); go_simp; try with_reducible rfl
  simp only [Act.put, List.setIfInBounds_toArray, List.set_cons_zero, List.set_cons_succ]
  refine heldTake 6 (v := ?_) (by simp only [List.getElem?_toArray, List.getElem?_cons_succ, List.getElem?_cons_zero]; rfl) (by kernel_rfl) (by intro _ _ _ h; exact h) (by rfl) (by assumption) ?_ ?_
  rotate_left
  · intro W hSw; (try dsimp only at hSw); go_simp; try with_reducible rfl
  simp only [Act.put, List.setIfInBounds_toArray, List.set_cons_zero, List.set_cons_succ]
  refine heldTake 7 (v := ?_) (by simp only [List.getElem?_toArray, List.getElem?_cons_succ, List.getElem?_cons_zero]; rfl) (by kernel_rfl) (by intro _ _ _ h; exact h) (by rfl) (by assumption) ?_ ?_
  rotate_left
  · intro W hSw; (try dsimp only at hSw); go_simp; try with_reducible rfl
  simp only [Act.put, List.setIfInBounds_toArray, List.set_cons_zero, List.set_cons_succ]
  refine heldTake 8 (v := ?_) (by simp only [List.getElem?_toArray, List.getElem?_cons_succ, List.getElem?_cons_zero]; rfl) (by kernel_rfl) (by intro _ _ _ h; exact h) (by rfl) (by assumption) ?_ ?_
  rotate_left
  · intro W hSw; (try dsimp only at hSw); go_simp; try with_reducible rfl
  simp only [Act.put, List.setIfInBounds_toArray, List.set_cons_zero, List.set_cons_succ]
  refine heldCall 2 (by simp only [List.getElem?_toArray, List.getElem?_cons_succ, List.getElem?_cons_zero]; rfl) (by kernel_rfl) (fun K hK => ?_)
  go_simp
  refine (QP.out _).mono ?_
  rintro e w6 ⟨rfl, rfl⟩
  go_wp2_with fail
  refine hK.out _ _ ?_ (fun hHeld => ?_)
  · exact ⟨c4, c5, c7⟩
  clear hK K
  (try simp only [Act.put, List.setIfInBounds_toArray, List.set_cons_zero, List.set_cons_succ])
  refine heldCall 5 (by simp only [List.getElem?_toArray, List.getElem?_cons_succ, List.getElem?_cons_zero]; rfl) (by kernel_rfl) (fun K hK => ?_)
  go_simp
  refine (QI.out _).mono ?_
  rintro e w6 ⟨rfl, rfl⟩
  go_wp2_with fail
  refine hK.out _ _ ?_ (fun hHeld => ?_)
  · exact ⟨c4, c5, c7⟩
  clear hK K
  (try simp only [Act.put, List.setIfInBounds_toArray, List.set_cons_zero, List.set_cons_succ])
  refine heldTake 9 (v := ?_) (by simp only [List.getElem?_toArray, List.getElem?_cons_succ, List.getElem?_cons_zero]; rfl) (by kernel_rfl) (by intro _ _ _ h; exact h) (by rfl) (by assumption) ?_ ?_
  rotate_left
  · intro W hSw; (try dsimp only at hSw); go_simp; try with_reducible rfl
  simp only [Act.put, List.setIfInBounds_toArray, List.set_cons_zero, List.set_cons_succ]
  refine heldTake 10 (v := ?_) (by simp only [List.getElem?_toArray, List.getElem?_cons_succ, List.getElem?_cons_zero]; rfl) (by kernel_rfl) (by intro _ _ _ h; exact h) (by rfl) (by assumption) ?_ ?_
  rotate_left
  · intro W hSw; (try dsimp only at hSw); go_simp; try with_reducible rfl
  simp only [Act.put, List.setIfInBounds_toArray, List.set_cons_zero, List.set_cons_succ]
  refine heldTake 11 (v := ?_) (by simp only [List.getElem?_toArray, List.getElem?_cons_succ, List.getElem?_cons_zero]; rfl) (by kernel_rfl) (by intro _ _ _ h; exact h) (by rfl) (by assumption) ?_ ?_
  rotate_left
  · intro W hSw; (try dsimp only at hSw); go_simp; try with_reducible rfl
  simp only [Act.put, List.setIfInBounds_toArray, List.set_cons_zero, List.set_cons_succ]
  refine heldDone (by kernel_rfl) ?_ _
  go_wp2_with fail
  go_ret
  exact ⟨rfl, HB.out.drew⟩
set_option maxRecDepth 20000 in
set_option maxHeartbeats 2000000 in
theorem may5 (src : ByteArray) (num at_ : Int) (p : ByteArray) (i : ByteArray) (w : World) (hs : nameB src = true) (hn : 1 ≤ num ∧ num ≤ 1000) (ha : 0 ≤ at_ ∧ at_ ≤ 100000) (hp : nameB p = true) (hi : nameB i = true) :
    Calls Tryz.prog 27 #[.agg #[.string src, .int .i64 num, .int .i64 at_, .int .i64 5, .string p, .string i, .int .i64 0, .string ⟨#[]⟩]] w (MayNew w) := by
  have QS := Lib.hid (nameQ src hs)
  have QP := Lib.hid (nameQ p hp)
  have QI := Lib.hid (nameQ i hi)
  clear hs hp hi 
  obtain ⟨W1, hW1⟩ : ∃ W1, W1 = w.alloc (.cells #[.string src, .int .i64 num, .int .i64 at_, .int .i64 5, .string p, .string i, .int .i64 0, .string ⟨#[]⟩] 41) := ⟨_, rfl⟩
  have hbx : W1.heap[w.heap.size]? = some (.cells #[.string src, .int .i64 num, .int .i64 at_, .int .i64 5, .string p, .string i, .int .i64 0, .string ⟨#[]⟩] 41 (0, 0)) := by rw [hW1]; exact heap_alloc_new w _
  have hB : Below w.heap.size w W1 := by rw [hW1]; exact (Below.refl _ w).alloc (Nat.le_refl _) _
  have c0 : W1.cell? ⟨w.heap.size, 0, none⟩ = some (.string src) := by rw [cell_of_row W1 w.heap.size 0 _ _ _ hbx]; rfl
  have c1 : W1.cell? ⟨w.heap.size, 1, none⟩ = some (.int .i64 num) := by rw [cell_of_row W1 w.heap.size 1 _ _ _ hbx]; rfl
  have c2 : W1.cell? ⟨w.heap.size, 2, none⟩ = some (.int .i64 at_) := by rw [cell_of_row W1 w.heap.size 2 _ _ _ hbx]; rfl
  have c3 : W1.cell? ⟨w.heap.size, 3, none⟩ = some (.int .i64 5) := by rw [cell_of_row W1 w.heap.size 3 _ _ _ hbx]; rfl
  have c4 : W1.cell? ⟨w.heap.size, 4, none⟩ = some (.string p) := by rw [cell_of_row W1 w.heap.size 4 _ _ _ hbx]; rfl
  have c5 : W1.cell? ⟨w.heap.size, 5, none⟩ = some (.string i) := by rw [cell_of_row W1 w.heap.size 5 _ _ _ hbx]; rfl
  have c6 : W1.cell? ⟨w.heap.size, 6, none⟩ = some (.int .i64 0) := by rw [cell_of_row W1 w.heap.size 6 _ _ _ hbx]; rfl
  have c7 : W1.cell? ⟨w.heap.size, 7, none⟩ = some (.string ⟨#[]⟩) := by rw [cell_of_row W1 w.heap.size 7 _ _ _ hbx]; rfl
  have HB := Lib.hid hB
  clear hbx hB
  go_enter Tryz.func27, Tryz.ntmps27
  go_upto_region 1 with fail
  rw [← hW1]
  clear hW1
  go_wp2_with fail
  refine (QS.out _).mono ?_
  rintro e w6 ⟨rfl, rfl⟩
  go_upto_region 3 with fail
  refine heldStart 11 (S := fun W => W.cell? ⟨w.heap.size, 4, none⟩ = some (.string p) ∧ W.cell? ⟨w.heap.size, 5, none⟩ = some (.string i) ∧ W.cell? ⟨w.heap.size, 7, none⟩ = some (.string ⟨#[]⟩)) (by kernel_rfl) ?_ (fun hHeld => ?_)
  · exact ⟨c4, c5, c7⟩
  refine heldTake 0 (v := ?_) (by simp only [List.getElem?_toArray, List.getElem?_cons_succ, List.getElem?_cons_zero]; rfl) (by kernel_rfl) (by intro _ _ _ h; exact h) (by rfl) (by assumption) ?_ ?_
  rotate_left
  · intro W hSw; (try dsimp only at hSw); go_simp; try with_reducible rfl
  simp only [Act.put, List.setIfInBounds_toArray, List.set_cons_zero, List.set_cons_succ]
  refine heldTake 1 (v := ?_) (by simp only [List.getElem?_toArray, List.getElem?_cons_succ, List.getElem?_cons_zero]; rfl) (by kernel_rfl) (by intro _ _ _ h; exact h) (by rfl) (by assumption) ?_ ?_
  rotate_left
  · intro W hSw; (try dsimp only at hSw); go_simp; try with_reducible rfl
  simp only [Act.put, List.setIfInBounds_toArray, List.set_cons_zero, List.set_cons_succ]
  refine heldTake 3 (v := ?_) (by simp only [List.getElem?_toArray, List.getElem?_cons_succ, List.getElem?_cons_zero]; rfl) (by kernel_rfl) (by intro _ _ _ h; exact h) (by rfl) (by assumption) ?_ ?_
  rotate_left
  · intro W hSw; (try dsimp only at hSw); go_simp; try with_reducible rfl
  simp only [Act.put, List.setIfInBounds_toArray, List.set_cons_zero, List.set_cons_succ]
  refine heldTake 4 (v := ?_) (by simp only [List.getElem?_toArray, List.getElem?_cons_succ, List.getElem?_cons_zero]; rfl) (by kernel_rfl) (by intro _ _ _ h; exact h) (by rfl) (by assumption) ?_ ?_
  rotate_left
  · intro W hSw; (try dsimp only at hSw); go_simp; try with_reducible rfl
  simp only [Act.put, List.setIfInBounds_toArray, List.set_cons_zero, List.set_cons_succ]
  refine heldTake 6 (v := ?_) (by simp only [List.getElem?_toArray, List.getElem?_cons_succ, List.getElem?_cons_zero]; rfl) (by kernel_rfl) (by intro _ _ _ h; exact h) (by rfl) (by assumption) ?_ ?_
  rotate_left
  · intro W hSw; (try dsimp only at hSw); go_simp; try with_reducible rfl
  simp only [Act.put, List.setIfInBounds_toArray, List.set_cons_zero, List.set_cons_succ]
  refine heldTake 7 (v := ?_) (by simp only [List.getElem?_toArray, List.getElem?_cons_succ, List.getElem?_cons_zero]; rfl) (by kernel_rfl) (by intro _ _ _ h; exact h) (by rfl) (by assumption) ?_ ?_
  rotate_left
  · intro W hSw; (try dsimp only at hSw); go_simp; try with_reducible rfl
  simp only [Act.put, List.setIfInBounds_toArray, List.set_cons_zero, List.set_cons_succ]
  refine heldTake 8 (v := ?_) (by simp only [List.getElem?_toArray, List.getElem?_cons_succ, List.getElem?_cons_zero]; rfl) (by kernel_rfl) (by intro _ _ _ h; exact h) (by rfl) (by assumption) ?_ ?_
  rotate_left
  · intro W hSw; (try dsimp only at hSw); go_simp; try with_reducible rfl
  simp only [Act.put, List.setIfInBounds_toArray, List.set_cons_zero, List.set_cons_succ]
  refine heldCall 2 (by simp only [List.getElem?_toArray, List.getElem?_cons_succ, List.getElem?_cons_zero]; rfl) (by kernel_rfl) (fun K hK => ?_)
  go_simp
  refine (QP.out _).mono ?_
  rintro e w6 ⟨rfl, rfl⟩
  go_wp2_with fail
  refine hK.out _ _ ?_ (fun hHeld => ?_)
  · exact ⟨c4, c5, c7⟩
  clear hK K
  (try simp only [Act.put, List.setIfInBounds_toArray, List.set_cons_zero, List.set_cons_succ])
  refine heldCall 5 (by simp only [List.getElem?_toArray, List.getElem?_cons_succ, List.getElem?_cons_zero]; rfl) (by kernel_rfl) (fun K hK => ?_)
  go_simp
  refine (QI.out _).mono ?_
  rintro e w6 ⟨rfl, rfl⟩
  go_wp2_with fail
  refine hK.out _ _ ?_ (fun hHeld => ?_)
  · exact ⟨c4, c5, c7⟩
  clear hK K
  (try simp only [Act.put, List.setIfInBounds_toArray, List.set_cons_zero, List.set_cons_succ])
  refine heldTake 9 (v := ?_) (by simp only [List.getElem?_toArray, List.getElem?_cons_succ, List.getElem?_cons_zero]; rfl) (by kernel_rfl) (by intro _ _ _ h; exact h) (by rfl) (by assumption) ?_ ?_
  rotate_left
  · intro W hSw; (try dsimp only at hSw); go_simp; try with_reducible rfl
  simp only [Act.put, List.setIfInBounds_toArray, List.set_cons_zero, List.set_cons_succ]
  refine heldTake 10 (v := ?_) (by simp only [List.getElem?_toArray, List.getElem?_cons_succ, List.getElem?_cons_zero]; rfl) (by kernel_rfl) (by intro _ _ _ h; exact h) (by rfl) (by assumption) ?_ ?_
  rotate_left
  · intro W hSw; (try dsimp only at hSw); go_simp; try with_reducible rfl
  simp only [Act.put, List.setIfInBounds_toArray, List.set_cons_zero, List.set_cons_succ]
  refine heldTake 11 (v := ?_) (by simp only [List.getElem?_toArray, List.getElem?_cons_succ, List.getElem?_cons_zero]; rfl) (by kernel_rfl) (by intro _ _ _ h; exact h) (by rfl) (by assumption) ?_ ?_
  rotate_left
  · intro W hSw; (try dsimp only at hSw); go_simp; try with_reducible rfl
  simp only [Act.put, List.setIfInBounds_toArray, List.set_cons_zero, List.set_cons_succ]
  refine heldDone (by kernel_rfl) ?_ _
  go_wp2_with fail
  go_ret
  exact ⟨rfl, HB.out.drew⟩
set_option maxRecDepth 20000 in
set_option maxHeartbeats 2000000 in
theorem may6 (src : ByteArray) (num at_ : Int) (p : ByteArray) (i : ByteArray) (w : World) (hs : nameB src = true) (hn : 1 ≤ num ∧ num ≤ 1000) (ha : 0 ≤ at_ ∧ at_ ≤ 100000) (hp : nameB p = true) (hi : nameB i = true) :
    Calls Tryz.prog 27 #[.agg #[.string src, .int .i64 num, .int .i64 at_, .int .i64 6, .string p, .string i, .int .i64 0, .string ⟨#[]⟩]] w (MayNew w) := by
  have QS := Lib.hid (nameQ src hs)
  have QP := Lib.hid (nameQ p hp)
  have QI := Lib.hid (nameQ i hi)
  clear hs hp hi 
  obtain ⟨W1, hW1⟩ : ∃ W1, W1 = w.alloc (.cells #[.string src, .int .i64 num, .int .i64 at_, .int .i64 6, .string p, .string i, .int .i64 0, .string ⟨#[]⟩] 41) := ⟨_, rfl⟩
  have hbx : W1.heap[w.heap.size]? = some (.cells #[.string src, .int .i64 num, .int .i64 at_, .int .i64 6, .string p, .string i, .int .i64 0, .string ⟨#[]⟩] 41 (0, 0)) := by rw [hW1]; exact heap_alloc_new w _
  have hB : Below w.heap.size w W1 := by rw [hW1]; exact (Below.refl _ w).alloc (Nat.le_refl _) _
  have c0 : W1.cell? ⟨w.heap.size, 0, none⟩ = some (.string src) := by rw [cell_of_row W1 w.heap.size 0 _ _ _ hbx]; rfl
  have c1 : W1.cell? ⟨w.heap.size, 1, none⟩ = some (.int .i64 num) := by rw [cell_of_row W1 w.heap.size 1 _ _ _ hbx]; rfl
  have c2 : W1.cell? ⟨w.heap.size, 2, none⟩ = some (.int .i64 at_) := by rw [cell_of_row W1 w.heap.size 2 _ _ _ hbx]; rfl
  have c3 : W1.cell? ⟨w.heap.size, 3, none⟩ = some (.int .i64 6) := by rw [cell_of_row W1 w.heap.size 3 _ _ _ hbx]; rfl
  have c4 : W1.cell? ⟨w.heap.size, 4, none⟩ = some (.string p) := by rw [cell_of_row W1 w.heap.size 4 _ _ _ hbx]; rfl
  have c5 : W1.cell? ⟨w.heap.size, 5, none⟩ = some (.string i) := by rw [cell_of_row W1 w.heap.size 5 _ _ _ hbx]; rfl
  have c6 : W1.cell? ⟨w.heap.size, 6, none⟩ = some (.int .i64 0) := by rw [cell_of_row W1 w.heap.size 6 _ _ _ hbx]; rfl
  have c7 : W1.cell? ⟨w.heap.size, 7, none⟩ = some (.string ⟨#[]⟩) := by rw [cell_of_row W1 w.heap.size 7 _ _ _ hbx]; rfl
  have HB := Lib.hid hB
  clear hbx hB
  go_enter Tryz.func27, Tryz.ntmps27
  go_upto_region 1 with fail
  rw [← hW1]
  clear hW1
  go_wp2_with fail
  refine (QS.out _).mono ?_
  rintro e w6 ⟨rfl, rfl⟩
  go_upto_region 3 with fail
  refine heldStart 11 (S := fun W => W.cell? ⟨w.heap.size, 4, none⟩ = some (.string p) ∧ W.cell? ⟨w.heap.size, 5, none⟩ = some (.string i) ∧ W.cell? ⟨w.heap.size, 7, none⟩ = some (.string ⟨#[]⟩)) (by kernel_rfl) ?_ (fun hHeld => ?_)
  · exact ⟨c4, c5, c7⟩
  refine heldTake 0 (v := ?_) (by simp only [List.getElem?_toArray, List.getElem?_cons_succ, List.getElem?_cons_zero]; rfl) (by kernel_rfl) (by intro _ _ _ h; exact h) (by rfl) (by assumption) ?_ ?_
  rotate_left
  · intro W hSw; (try dsimp only at hSw); go_simp; try with_reducible rfl
  simp only [Act.put, List.setIfInBounds_toArray, List.set_cons_zero, List.set_cons_succ]
  refine heldTake 1 (v := ?_) (by simp only [List.getElem?_toArray, List.getElem?_cons_succ, List.getElem?_cons_zero]; rfl) (by kernel_rfl) (by intro _ _ _ h; exact h) (by rfl) (by assumption) ?_ ?_
  rotate_left
  · intro W hSw; (try dsimp only at hSw); go_simp; try with_reducible rfl
  simp only [Act.put, List.setIfInBounds_toArray, List.set_cons_zero, List.set_cons_succ]
  refine heldTake 3 (v := ?_) (by simp only [List.getElem?_toArray, List.getElem?_cons_succ, List.getElem?_cons_zero]; rfl) (by kernel_rfl) (by intro _ _ _ h; exact h) (by rfl) (by assumption) ?_ ?_
  rotate_left
  · intro W hSw; (try dsimp only at hSw); go_simp; try with_reducible rfl
  simp only [Act.put, List.setIfInBounds_toArray, List.set_cons_zero, List.set_cons_succ]
  refine heldTake 4 (v := ?_) (by simp only [List.getElem?_toArray, List.getElem?_cons_succ, List.getElem?_cons_zero]; rfl) (by kernel_rfl) (by intro _ _ _ h; exact h) (by rfl) (by assumption) ?_ ?_
  rotate_left
  · intro W hSw; (try dsimp only at hSw); go_simp; try with_reducible rfl
  simp only [Act.put, List.setIfInBounds_toArray, List.set_cons_zero, List.set_cons_succ]
  refine heldTake 6 (v := ?_) (by simp only [List.getElem?_toArray, List.getElem?_cons_succ, List.getElem?_cons_zero]; rfl) (by kernel_rfl) (by intro _ _ _ h; exact h) (by rfl) (by assumption) ?_ ?_
  rotate_left
  · intro W hSw; (try dsimp only at hSw); go_simp; try with_reducible rfl
  simp only [Act.put, List.setIfInBounds_toArray, List.set_cons_zero, List.set_cons_succ]
  refine heldTake 7 (v := ?_) (by simp only [List.getElem?_toArray, List.getElem?_cons_succ, List.getElem?_cons_zero]; rfl) (by kernel_rfl) (by intro _ _ _ h; exact h) (by rfl) (by assumption) ?_ ?_
  rotate_left
  · intro W hSw; (try dsimp only at hSw); go_simp; try with_reducible rfl
  simp only [Act.put, List.setIfInBounds_toArray, List.set_cons_zero, List.set_cons_succ]
  refine heldTake 8 (v := ?_) (by simp only [List.getElem?_toArray, List.getElem?_cons_succ, List.getElem?_cons_zero]; rfl) (by kernel_rfl) (by intro _ _ _ h; exact h) (by rfl) (by assumption) ?_ ?_
  rotate_left
  · intro W hSw; (try dsimp only at hSw); go_simp; try with_reducible rfl
  simp only [Act.put, List.setIfInBounds_toArray, List.set_cons_zero, List.set_cons_succ]
  refine heldCall 2 (by simp only [List.getElem?_toArray, List.getElem?_cons_succ, List.getElem?_cons_zero]; rfl) (by kernel_rfl) (fun K hK => ?_)
  go_simp
  refine (QP.out _).mono ?_
  rintro e w6 ⟨rfl, rfl⟩
  go_wp2_with fail
  refine hK.out _ _ ?_ (fun hHeld => ?_)
  · exact ⟨c4, c5, c7⟩
  clear hK K
  (try simp only [Act.put, List.setIfInBounds_toArray, List.set_cons_zero, List.set_cons_succ])
  refine heldCall 5 (by simp only [List.getElem?_toArray, List.getElem?_cons_succ, List.getElem?_cons_zero]; rfl) (by kernel_rfl) (fun K hK => ?_)
  go_simp
  refine (QI.out _).mono ?_
  rintro e w6 ⟨rfl, rfl⟩
  go_wp2_with fail
  refine hK.out _ _ ?_ (fun hHeld => ?_)
  · exact ⟨c4, c5, c7⟩
  clear hK K
  (try simp only [Act.put, List.setIfInBounds_toArray, List.set_cons_zero, List.set_cons_succ])
  refine heldTake 9 (v := ?_) (by simp only [List.getElem?_toArray, List.getElem?_cons_succ, List.getElem?_cons_zero]; rfl) (by kernel_rfl) (by intro _ _ _ h; exact h) (by rfl) (by assumption) ?_ ?_
  rotate_left
  · intro W hSw; (try dsimp only at hSw); go_simp; try with_reducible rfl
  simp only [Act.put, List.setIfInBounds_toArray, List.set_cons_zero, List.set_cons_succ]
  refine heldTake 10 (v := ?_) (by simp only [List.getElem?_toArray, List.getElem?_cons_succ, List.getElem?_cons_zero]; rfl) (by kernel_rfl) (by intro _ _ _ h; exact h) (by rfl) (by assumption) ?_ ?_
  rotate_left
  · intro W hSw; (try dsimp only at hSw); go_simp; try with_reducible rfl
  simp only [Act.put, List.setIfInBounds_toArray, List.set_cons_zero, List.set_cons_succ]
  refine heldTake 11 (v := ?_) (by simp only [List.getElem?_toArray, List.getElem?_cons_succ, List.getElem?_cons_zero]; rfl) (by kernel_rfl) (by intro _ _ _ h; exact h) (by rfl) (by assumption) ?_ ?_
  rotate_left
  · intro W hSw; (try dsimp only at hSw); go_simp; try with_reducible rfl
  simp only [Act.put, List.setIfInBounds_toArray, List.set_cons_zero, List.set_cons_succ]
  refine heldDone (by kernel_rfl) ?_ _
  go_wp2_with fail
  go_ret
  exact ⟨rfl, HB.out.drew⟩
set_option maxRecDepth 20000 in
set_option maxHeartbeats 2000000 in
theorem may7 (src : ByteArray) (num at_ : Int) (p : ByteArray) (t : ByteArray) (w : World) (hs : nameB src = true) (hn : 1 ≤ num ∧ num ≤ 1000) (ha : 0 ≤ at_ ∧ at_ ≤ 100000) (hp : nameB p = true) (ht : nameB t = true) :
    Calls Tryz.prog 27 #[.agg #[.string src, .int .i64 num, .int .i64 at_, .int .i64 7, .string p, .string ⟨#[]⟩, .int .i64 0, .string t]] w (MayNew w) := by
  have hle := name_ne ht
  have QT := Lib.hid (nameQ t ht)
  have QS := Lib.hid (nameQ src hs)
  have QP := Lib.hid (nameQ p hp)
  have QI := Lib.hid (nameQ0)
  clear hs hp  ht
  obtain ⟨W1, hW1⟩ : ∃ W1, W1 = w.alloc (.cells #[.string src, .int .i64 num, .int .i64 at_, .int .i64 7, .string p, .string ⟨#[]⟩, .int .i64 0, .string t] 41) := ⟨_, rfl⟩
  have hbx : W1.heap[w.heap.size]? = some (.cells #[.string src, .int .i64 num, .int .i64 at_, .int .i64 7, .string p, .string ⟨#[]⟩, .int .i64 0, .string t] 41 (0, 0)) := by rw [hW1]; exact heap_alloc_new w _
  have hB : Below w.heap.size w W1 := by rw [hW1]; exact (Below.refl _ w).alloc (Nat.le_refl _) _
  have c0 : W1.cell? ⟨w.heap.size, 0, none⟩ = some (.string src) := by rw [cell_of_row W1 w.heap.size 0 _ _ _ hbx]; rfl
  have c1 : W1.cell? ⟨w.heap.size, 1, none⟩ = some (.int .i64 num) := by rw [cell_of_row W1 w.heap.size 1 _ _ _ hbx]; rfl
  have c2 : W1.cell? ⟨w.heap.size, 2, none⟩ = some (.int .i64 at_) := by rw [cell_of_row W1 w.heap.size 2 _ _ _ hbx]; rfl
  have c3 : W1.cell? ⟨w.heap.size, 3, none⟩ = some (.int .i64 7) := by rw [cell_of_row W1 w.heap.size 3 _ _ _ hbx]; rfl
  have c4 : W1.cell? ⟨w.heap.size, 4, none⟩ = some (.string p) := by rw [cell_of_row W1 w.heap.size 4 _ _ _ hbx]; rfl
  have c5 : W1.cell? ⟨w.heap.size, 5, none⟩ = some (.string ⟨#[]⟩) := by rw [cell_of_row W1 w.heap.size 5 _ _ _ hbx]; rfl
  have c6 : W1.cell? ⟨w.heap.size, 6, none⟩ = some (.int .i64 0) := by rw [cell_of_row W1 w.heap.size 6 _ _ _ hbx]; rfl
  have c7 : W1.cell? ⟨w.heap.size, 7, none⟩ = some (.string t) := by rw [cell_of_row W1 w.heap.size 7 _ _ _ hbx]; rfl
  have HB := Lib.hid hB
  clear hbx hB
  go_enter Tryz.func27, Tryz.ntmps27
  go_upto_region 1 with fail
  rw [← hW1]
  clear hW1
  go_wp2_with fail
  refine (QS.out _).mono ?_
  rintro e w6 ⟨rfl, rfl⟩
  go_upto_region 3 with fail
  refine heldStart 11 (S := fun W => W.cell? ⟨w.heap.size, 4, none⟩ = some (.string p) ∧ W.cell? ⟨w.heap.size, 5, none⟩ = some (.string ⟨#[]⟩) ∧ W.cell? ⟨w.heap.size, 7, none⟩ = some (.string t)) (by kernel_rfl) ?_ (fun hHeld => ?_)
  · exact ⟨c4, c5, c7⟩
  refine heldTake 0 (v := ?_) (by simp only [List.getElem?_toArray, List.getElem?_cons_succ, List.getElem?_cons_zero]; rfl) (by kernel_rfl) (by intro _ _ _ h; exact h) (by rfl) (by assumption) ?_ ?_
  rotate_left
  · intro W hSw; (try dsimp only at hSw); go_simp; try with_reducible rfl
  simp only [Act.put, List.setIfInBounds_toArray, List.set_cons_zero, List.set_cons_succ]
  refine heldTake 1 (v := ?_) (by simp only [List.getElem?_toArray, List.getElem?_cons_succ, List.getElem?_cons_zero]; rfl) (by kernel_rfl) (by intro _ _ _ h; exact h) (by rfl) (by assumption) ?_ ?_
  rotate_left
  · intro W hSw; (try dsimp only at hSw); go_simp; try with_reducible rfl
  simp only [Act.put, List.setIfInBounds_toArray, List.set_cons_zero, List.set_cons_succ]
  refine heldTake 3 (v := ?_) (by simp only [List.getElem?_toArray, List.getElem?_cons_succ, List.getElem?_cons_zero]; rfl) (by kernel_rfl) (by intro _ _ _ h; exact h) (by rfl) (by assumption) ?_ ?_
  rotate_left
  · intro W hSw; (try dsimp only at hSw); go_simp; try with_reducible rfl
  simp only [Act.put, List.setIfInBounds_toArray, List.set_cons_zero, List.set_cons_succ]
  refine heldTake 4 (v := ?_) (by simp only [List.getElem?_toArray, List.getElem?_cons_succ, List.getElem?_cons_zero]; rfl) (by kernel_rfl) (by intro _ _ _ h; exact h) (by rfl) (by assumption) ?_ ?_
  rotate_left
  · intro W hSw; (try dsimp only at hSw); go_simp; try with_reducible rfl
  simp only [Act.put, List.setIfInBounds_toArray, List.set_cons_zero, List.set_cons_succ]
  refine heldTake 6 (v := ?_) (by simp only [List.getElem?_toArray, List.getElem?_cons_succ, List.getElem?_cons_zero]; rfl) (by kernel_rfl) (by intro _ _ _ h; exact h) (by rfl) (by assumption) ?_ ?_
  rotate_left
  · intro W hSw; (try dsimp only at hSw); go_simp; try with_reducible rfl
  simp only [Act.put, List.setIfInBounds_toArray, List.set_cons_zero, List.set_cons_succ]
  refine heldTake 7 (v := ?_) (by simp only [List.getElem?_toArray, List.getElem?_cons_succ, List.getElem?_cons_zero]; rfl) (by kernel_rfl) (by intro _ _ _ h; exact h) (by rfl) (by assumption) ?_ ?_
  rotate_left
  · intro W hSw; (try dsimp only at hSw); go_simp; try with_reducible rfl
  simp only [Act.put, List.setIfInBounds_toArray, List.set_cons_zero, List.set_cons_succ]
  refine heldTake 8 (v := ?_) (by simp only [List.getElem?_toArray, List.getElem?_cons_succ, List.getElem?_cons_zero]; rfl) (by kernel_rfl) (by intro _ _ _ h; exact h) (by rfl) (by assumption) ?_ ?_
  rotate_left
  · intro W hSw; (try dsimp only at hSw); go_simp; try with_reducible rfl
  simp only [Act.put, List.setIfInBounds_toArray, List.set_cons_zero, List.set_cons_succ]
  refine heldCall 2 (by simp only [List.getElem?_toArray, List.getElem?_cons_succ, List.getElem?_cons_zero]; rfl) (by kernel_rfl) (fun K hK => ?_)
  go_simp
  refine (QP.out _).mono ?_
  rintro e w6 ⟨rfl, rfl⟩
  go_wp2_with fail
  refine hK.out _ _ ?_ (fun hHeld => ?_)
  · exact ⟨c4, c5, c7⟩
  clear hK K
  (try simp only [Act.put, List.setIfInBounds_toArray, List.set_cons_zero, List.set_cons_succ])
  refine heldCall 5 (by simp only [List.getElem?_toArray, List.getElem?_cons_succ, List.getElem?_cons_zero]; rfl) (by kernel_rfl) (fun K hK => ?_)
  go_simp
  refine (QI.out _).mono ?_
  rintro e w6 ⟨rfl, rfl⟩
  go_wp2_with fail
  refine hK.out _ _ ?_ (fun hHeld => ?_)
  · exact ⟨c4, c5, c7⟩
  clear hK K
  (try simp only [Act.put, List.setIfInBounds_toArray, List.set_cons_zero, List.set_cons_succ])
  refine heldTake 9 (v := ?_) (by simp only [List.getElem?_toArray, List.getElem?_cons_succ, List.getElem?_cons_zero]; rfl) (by kernel_rfl) (by intro _ _ _ h; exact h) (by rfl) (by assumption) ?_ ?_
  rotate_left
  · intro W hSw; (try dsimp only at hSw); go_simp; try with_reducible rfl
  simp only [Act.put, List.setIfInBounds_toArray, List.set_cons_zero, List.set_cons_succ]
  refine heldTake 10 (v := ?_) (by simp only [List.getElem?_toArray, List.getElem?_cons_succ, List.getElem?_cons_zero]; rfl) (by kernel_rfl) (by intro _ _ _ h; exact h) (by rfl) (by assumption) ?_ ?_
  rotate_left
  · intro W hSw; (try dsimp only at hSw); go_simp; try with_reducible rfl
  simp only [Act.put, List.setIfInBounds_toArray, List.set_cons_zero, List.set_cons_succ]
  refine heldTake 11 (v := ?_) (by simp only [List.getElem?_toArray, List.getElem?_cons_succ, List.getElem?_cons_zero]; rfl) (by kernel_rfl) (by intro _ _ _ h; exact h) (by rfl) (by assumption) ?_ ?_
  rotate_left
  · intro W hSw; (try dsimp only at hSw); go_simp; try with_reducible rfl
  simp only [Act.put, List.setIfInBounds_toArray, List.set_cons_zero, List.set_cons_succ]
  refine heldDone (by kernel_rfl) ?_ _
  go_wp2_with fail
  refine (QT.out _).mono ?_
  rintro e w6 ⟨rfl, rfl⟩
  go_wp2_with fail
  go_ret
  exact ⟨rfl, HB.out.drew⟩
set_option maxRecDepth 20000 in
set_option maxHeartbeats 2000000 in
theorem may9 (src : ByteArray) (num at_ : Int) (p : ByteArray) (t : ByteArray) (w : World) (hs : nameB src = true) (hn : 1 ≤ num ∧ num ≤ 1000) (ha : 0 ≤ at_ ∧ at_ ≤ 100000) (hp : nameB p = true) (ht : nameB t = true) :
    Calls Tryz.prog 27 #[.agg #[.string src, .int .i64 num, .int .i64 at_, .int .i64 9, .string p, .string ⟨#[]⟩, .int .i64 0, .string t]] w (MayNew w) := by
  have hle := name_ne ht
  have QT := Lib.hid (nameQ t ht)
  have QS := Lib.hid (nameQ src hs)
  have QP := Lib.hid (nameQ p hp)
  have QI := Lib.hid (nameQ0)
  clear hs hp  ht
  obtain ⟨W1, hW1⟩ : ∃ W1, W1 = w.alloc (.cells #[.string src, .int .i64 num, .int .i64 at_, .int .i64 9, .string p, .string ⟨#[]⟩, .int .i64 0, .string t] 41) := ⟨_, rfl⟩
  have hbx : W1.heap[w.heap.size]? = some (.cells #[.string src, .int .i64 num, .int .i64 at_, .int .i64 9, .string p, .string ⟨#[]⟩, .int .i64 0, .string t] 41 (0, 0)) := by rw [hW1]; exact heap_alloc_new w _
  have hB : Below w.heap.size w W1 := by rw [hW1]; exact (Below.refl _ w).alloc (Nat.le_refl _) _
  have c0 : W1.cell? ⟨w.heap.size, 0, none⟩ = some (.string src) := by rw [cell_of_row W1 w.heap.size 0 _ _ _ hbx]; rfl
  have c1 : W1.cell? ⟨w.heap.size, 1, none⟩ = some (.int .i64 num) := by rw [cell_of_row W1 w.heap.size 1 _ _ _ hbx]; rfl
  have c2 : W1.cell? ⟨w.heap.size, 2, none⟩ = some (.int .i64 at_) := by rw [cell_of_row W1 w.heap.size 2 _ _ _ hbx]; rfl
  have c3 : W1.cell? ⟨w.heap.size, 3, none⟩ = some (.int .i64 9) := by rw [cell_of_row W1 w.heap.size 3 _ _ _ hbx]; rfl
  have c4 : W1.cell? ⟨w.heap.size, 4, none⟩ = some (.string p) := by rw [cell_of_row W1 w.heap.size 4 _ _ _ hbx]; rfl
  have c5 : W1.cell? ⟨w.heap.size, 5, none⟩ = some (.string ⟨#[]⟩) := by rw [cell_of_row W1 w.heap.size 5 _ _ _ hbx]; rfl
  have c6 : W1.cell? ⟨w.heap.size, 6, none⟩ = some (.int .i64 0) := by rw [cell_of_row W1 w.heap.size 6 _ _ _ hbx]; rfl
  have c7 : W1.cell? ⟨w.heap.size, 7, none⟩ = some (.string t) := by rw [cell_of_row W1 w.heap.size 7 _ _ _ hbx]; rfl
  have HB := Lib.hid hB
  clear hbx hB
  go_enter Tryz.func27, Tryz.ntmps27
  go_upto_region 1 with fail
  rw [← hW1]
  clear hW1
  go_wp2_with fail
  refine (QS.out _).mono ?_
  rintro e w6 ⟨rfl, rfl⟩
  go_upto_region 3 with fail
  refine heldStart 11 (S := fun W => W.cell? ⟨w.heap.size, 4, none⟩ = some (.string p) ∧ W.cell? ⟨w.heap.size, 5, none⟩ = some (.string ⟨#[]⟩) ∧ W.cell? ⟨w.heap.size, 7, none⟩ = some (.string t)) (by kernel_rfl) ?_ (fun hHeld => ?_)
  · exact ⟨c4, c5, c7⟩
  refine heldTake 0 (v := ?_) (by simp only [List.getElem?_toArray, List.getElem?_cons_succ, List.getElem?_cons_zero]; rfl) (by kernel_rfl) (by intro _ _ _ h; exact h) (by rfl) (by assumption) ?_ ?_
  rotate_left
  · intro W hSw; (try dsimp only at hSw); go_simp; try with_reducible rfl
  simp only [Act.put, List.setIfInBounds_toArray, List.set_cons_zero, List.set_cons_succ]
  refine heldTake 1 (v := ?_) (by simp only [List.getElem?_toArray, List.getElem?_cons_succ, List.getElem?_cons_zero]; rfl) (by kernel_rfl) (by intro _ _ _ h; exact h) (by rfl) (by assumption) ?_ ?_
  rotate_left
  · intro W hSw; (try dsimp only at hSw); go_simp; try with_reducible rfl
  simp only [Act.put, List.setIfInBounds_toArray, List.set_cons_zero, List.set_cons_succ]
  refine heldTake 3 (v := ?_) (by simp only [List.getElem?_toArray, List.getElem?_cons_succ, List.getElem?_cons_zero]; rfl) (by kernel_rfl) (by intro _ _ _ h; exact h) (by rfl) (by assumption) ?_ ?_
  rotate_left
  · intro W hSw; (try dsimp only at hSw); go_simp; try with_reducible rfl
  simp only [Act.put, List.setIfInBounds_toArray, List.set_cons_zero, List.set_cons_succ]
  refine heldTake 4 (v := ?_) (by simp only [List.getElem?_toArray, List.getElem?_cons_succ, List.getElem?_cons_zero]; rfl) (by kernel_rfl) (by intro _ _ _ h; exact h) (by rfl) (by assumption) ?_ ?_
  rotate_left
  · intro W hSw; (try dsimp only at hSw); go_simp; try with_reducible rfl
  simp only [Act.put, List.setIfInBounds_toArray, List.set_cons_zero, List.set_cons_succ]
  refine heldTake 6 (v := ?_) (by simp only [List.getElem?_toArray, List.getElem?_cons_succ, List.getElem?_cons_zero]; rfl) (by kernel_rfl) (by intro _ _ _ h; exact h) (by rfl) (by assumption) ?_ ?_
  rotate_left
  · intro W hSw; (try dsimp only at hSw); go_simp; try with_reducible rfl
  simp only [Act.put, List.setIfInBounds_toArray, List.set_cons_zero, List.set_cons_succ]
  refine heldTake 7 (v := ?_) (by simp only [List.getElem?_toArray, List.getElem?_cons_succ, List.getElem?_cons_zero]; rfl) (by kernel_rfl) (by intro _ _ _ h; exact h) (by rfl) (by assumption) ?_ ?_
  rotate_left
  · intro W hSw; (try dsimp only at hSw); go_simp; try with_reducible rfl
  simp only [Act.put, List.setIfInBounds_toArray, List.set_cons_zero, List.set_cons_succ]
  refine heldTake 8 (v := ?_) (by simp only [List.getElem?_toArray, List.getElem?_cons_succ, List.getElem?_cons_zero]; rfl) (by kernel_rfl) (by intro _ _ _ h; exact h) (by rfl) (by assumption) ?_ ?_
  rotate_left
  · intro W hSw; (try dsimp only at hSw); go_simp; try with_reducible rfl
  simp only [Act.put, List.setIfInBounds_toArray, List.set_cons_zero, List.set_cons_succ]
  refine heldCall 2 (by simp only [List.getElem?_toArray, List.getElem?_cons_succ, List.getElem?_cons_zero]; rfl) (by kernel_rfl) (fun K hK => ?_)
  go_simp
  refine (QP.out _).mono ?_
  rintro e w6 ⟨rfl, rfl⟩
  go_wp2_with fail
  refine hK.out _ _ ?_ (fun hHeld => ?_)
  · exact ⟨c4, c5, c7⟩
  clear hK K
  (try simp only [Act.put, List.setIfInBounds_toArray, List.set_cons_zero, List.set_cons_succ])
  refine heldCall 5 (by simp only [List.getElem?_toArray, List.getElem?_cons_succ, List.getElem?_cons_zero]; rfl) (by kernel_rfl) (fun K hK => ?_)
  go_simp
  refine (QI.out _).mono ?_
  rintro e w6 ⟨rfl, rfl⟩
  go_wp2_with fail
  refine hK.out _ _ ?_ (fun hHeld => ?_)
  · exact ⟨c4, c5, c7⟩
  clear hK K
  (try simp only [Act.put, List.setIfInBounds_toArray, List.set_cons_zero, List.set_cons_succ])
  refine heldTake 9 (v := ?_) (by simp only [List.getElem?_toArray, List.getElem?_cons_succ, List.getElem?_cons_zero]; rfl) (by kernel_rfl) (by intro _ _ _ h; exact h) (by rfl) (by assumption) ?_ ?_
  rotate_left
  · intro W hSw; (try dsimp only at hSw); go_simp; try with_reducible rfl
  simp only [Act.put, List.setIfInBounds_toArray, List.set_cons_zero, List.set_cons_succ]
  refine heldTake 10 (v := ?_) (by simp only [List.getElem?_toArray, List.getElem?_cons_succ, List.getElem?_cons_zero]; rfl) (by kernel_rfl) (by intro _ _ _ h; exact h) (by rfl) (by assumption) ?_ ?_
  rotate_left
  · intro W hSw; (try dsimp only at hSw); go_simp; try with_reducible rfl
  simp only [Act.put, List.setIfInBounds_toArray, List.set_cons_zero, List.set_cons_succ]
  refine heldTake 11 (v := ?_) (by simp only [List.getElem?_toArray, List.getElem?_cons_succ, List.getElem?_cons_zero]; rfl) (by kernel_rfl) (by intro _ _ _ h; exact h) (by rfl) (by assumption) ?_ ?_
  rotate_left
  · intro W hSw; (try dsimp only at hSw); go_simp; try with_reducible rfl
  simp only [Act.put, List.setIfInBounds_toArray, List.set_cons_zero, List.set_cons_succ]
  refine heldDone (by kernel_rfl) ?_ _
  go_wp2_with fail
  refine (QT.out _).mono ?_
  rintro e w6 ⟨rfl, rfl⟩
  go_wp2_with fail
  go_ret
  exact ⟨rfl, HB.out.drew⟩
set_option maxRecDepth 20000 in
set_option maxHeartbeats 2000000 in
theorem may11 (src : ByteArray) (num at_ : Int) (i : ByteArray) (v : Int) (m : Int) (x y z : Bool) (w : World) (hs : nameB src = true) (hn : 1 ≤ num ∧ num ≤ 1000) (ha : 0 ≤ at_ ∧ at_ ≤ 100000) (hi : nameB i = true) (hv : 0 ≤ v ∧ v ≤ 255) (hm : 0 ≤ m ∧ m ≤ 2) (hx : MxAt w) :
    Calls Tryz.prog 27 #[.agg #[.string src, .int .i64 num, .int .i64 at_, .int .i64 11, .string ⟨#[]⟩, .string i, .int .i64 v, .string (lstT m x y z)]] w (MayNew w) := by
  have hlq := fun w2 h2 => elisting_any hm x y z w2 h2
  have hle : ((lstT m x y z).toList == []) = false := by rw [toList_data]; rcases m3 hm with rfl | rfl | rfl <;> cases x <;> cases y <;> cases z <;> rfl
  generalize lstT m x y z = t at *
  have HLQ := Lib.hid hlq
  have HMX := Lib.hid hx
  clear hlq hm hx
  have QS := Lib.hid (nameQ src hs)
  have QP := Lib.hid (nameQ0)
  have QI := Lib.hid (nameQ i hi)
  clear hs  hi 
  obtain ⟨W1, hW1⟩ : ∃ W1, W1 = w.alloc (.cells #[.string src, .int .i64 num, .int .i64 at_, .int .i64 11, .string ⟨#[]⟩, .string i, .int .i64 v, .string t] 41) := ⟨_, rfl⟩
  have hbx : W1.heap[w.heap.size]? = some (.cells #[.string src, .int .i64 num, .int .i64 at_, .int .i64 11, .string ⟨#[]⟩, .string i, .int .i64 v, .string t] 41 (0, 0)) := by rw [hW1]; exact heap_alloc_new w _
  have hB : Below w.heap.size w W1 := by rw [hW1]; exact (Below.refl _ w).alloc (Nat.le_refl _) _
  have c0 : W1.cell? ⟨w.heap.size, 0, none⟩ = some (.string src) := by rw [cell_of_row W1 w.heap.size 0 _ _ _ hbx]; rfl
  have c1 : W1.cell? ⟨w.heap.size, 1, none⟩ = some (.int .i64 num) := by rw [cell_of_row W1 w.heap.size 1 _ _ _ hbx]; rfl
  have c2 : W1.cell? ⟨w.heap.size, 2, none⟩ = some (.int .i64 at_) := by rw [cell_of_row W1 w.heap.size 2 _ _ _ hbx]; rfl
  have c3 : W1.cell? ⟨w.heap.size, 3, none⟩ = some (.int .i64 11) := by rw [cell_of_row W1 w.heap.size 3 _ _ _ hbx]; rfl
  have c4 : W1.cell? ⟨w.heap.size, 4, none⟩ = some (.string ⟨#[]⟩) := by rw [cell_of_row W1 w.heap.size 4 _ _ _ hbx]; rfl
  have c5 : W1.cell? ⟨w.heap.size, 5, none⟩ = some (.string i) := by rw [cell_of_row W1 w.heap.size 5 _ _ _ hbx]; rfl
  have c6 : W1.cell? ⟨w.heap.size, 6, none⟩ = some (.int .i64 v) := by rw [cell_of_row W1 w.heap.size 6 _ _ _ hbx]; rfl
  have c7 : W1.cell? ⟨w.heap.size, 7, none⟩ = some (.string t) := by rw [cell_of_row W1 w.heap.size 7 _ _ _ hbx]; rfl
  have HB := Lib.hid hB
  clear hbx hB
  go_enter Tryz.func27, Tryz.ntmps27
  go_upto_region 1 with fail
  rw [← hW1]
  clear hW1
  go_wp2_with fail
  refine (QS.out _).mono ?_
  rintro e w6 ⟨rfl, rfl⟩
  go_upto_region 3 with fail
  refine heldStart 11 (S := fun W => W.cell? ⟨w.heap.size, 4, none⟩ = some (.string ⟨#[]⟩) ∧ W.cell? ⟨w.heap.size, 5, none⟩ = some (.string i) ∧ W.cell? ⟨w.heap.size, 7, none⟩ = some (.string t)) (by kernel_rfl) ?_ (fun hHeld => ?_)
  · exact ⟨c4, c5, c7⟩
  refine heldTake 0 (v := ?_) (by simp only [List.getElem?_toArray, List.getElem?_cons_succ, List.getElem?_cons_zero]; rfl) (by kernel_rfl) (by intro _ _ _ h; exact h) (by rfl) (by assumption) ?_ ?_
  rotate_left
  · intro W hSw; (try dsimp only at hSw); go_simp; try with_reducible rfl
  simp only [Act.put, List.setIfInBounds_toArray, List.set_cons_zero, List.set_cons_succ]
  refine heldTake 1 (v := ?_) (by simp only [List.getElem?_toArray, List.getElem?_cons_succ, List.getElem?_cons_zero]; rfl) (by kernel_rfl) (by intro _ _ _ h; exact h) (by rfl) (by assumption) ?_ ?_
  rotate_left
  · intro W hSw; (try dsimp only at hSw); go_simp; try with_reducible rfl
  simp only [Act.put, List.setIfInBounds_toArray, List.set_cons_zero, List.set_cons_succ]
  refine heldTake 3 (v := ?_) (by simp only [List.getElem?_toArray, List.getElem?_cons_succ, List.getElem?_cons_zero]; rfl) (by kernel_rfl) (by intro _ _ _ h; exact h) (by rfl) (by assumption) ?_ ?_
  rotate_left
  · intro W hSw; (try dsimp only at hSw); go_simp; try with_reducible rfl
  simp only [Act.put, List.setIfInBounds_toArray, List.set_cons_zero, List.set_cons_succ]
  refine heldTake 4 (v := ?_) (by simp only [List.getElem?_toArray, List.getElem?_cons_succ, List.getElem?_cons_zero]; rfl) (by kernel_rfl) (by intro _ _ _ h; exact h) (by rfl) (by assumption) ?_ ?_
  rotate_left
  · intro W hSw; (try dsimp only at hSw); go_simp; try with_reducible rfl
  simp only [Act.put, List.setIfInBounds_toArray, List.set_cons_zero, List.set_cons_succ]
  refine heldTake 6 (v := ?_) (by simp only [List.getElem?_toArray, List.getElem?_cons_succ, List.getElem?_cons_zero]; rfl) (by kernel_rfl) (by intro _ _ _ h; exact h) (by rfl) (by assumption) ?_ ?_
  rotate_left
  · intro W hSw; (try dsimp only at hSw); go_simp; try with_reducible rfl
  simp only [Act.put, List.setIfInBounds_toArray, List.set_cons_zero, List.set_cons_succ]
  refine heldTake 7 (v := ?_) (by simp only [List.getElem?_toArray, List.getElem?_cons_succ, List.getElem?_cons_zero]; rfl) (by kernel_rfl) (by intro _ _ _ h; exact h) (by rfl) (by assumption) ?_ ?_
  rotate_left
  · intro W hSw; (try dsimp only at hSw); go_simp; try with_reducible rfl
  simp only [Act.put, List.setIfInBounds_toArray, List.set_cons_zero, List.set_cons_succ]
  refine heldTake 8 (v := ?_) (by simp only [List.getElem?_toArray, List.getElem?_cons_succ, List.getElem?_cons_zero]; rfl) (by kernel_rfl) (by intro _ _ _ h; exact h) (by rfl) (by assumption) ?_ ?_
  rotate_left
  · intro W hSw; (try dsimp only at hSw); go_simp; try with_reducible rfl
  simp only [Act.put, List.setIfInBounds_toArray, List.set_cons_zero, List.set_cons_succ]
  refine heldCall 2 (by simp only [List.getElem?_toArray, List.getElem?_cons_succ, List.getElem?_cons_zero]; rfl) (by kernel_rfl) (fun K hK => ?_)
  go_simp
  refine (QP.out _).mono ?_
  rintro e w6 ⟨rfl, rfl⟩
  go_wp2_with fail
  refine hK.out _ _ ?_ (fun hHeld => ?_)
  · exact ⟨c4, c5, c7⟩
  clear hK K
  (try simp only [Act.put, List.setIfInBounds_toArray, List.set_cons_zero, List.set_cons_succ])
  refine heldCall 5 (by simp only [List.getElem?_toArray, List.getElem?_cons_succ, List.getElem?_cons_zero]; rfl) (by kernel_rfl) (fun K hK => ?_)
  go_simp
  refine (QI.out _).mono ?_
  rintro e w6 ⟨rfl, rfl⟩
  go_wp2_with fail
  refine hK.out _ _ ?_ (fun hHeld => ?_)
  · exact ⟨c4, c5, c7⟩
  clear hK K
  (try simp only [Act.put, List.setIfInBounds_toArray, List.set_cons_zero, List.set_cons_succ])
  refine heldTake 9 (v := ?_) (by simp only [List.getElem?_toArray, List.getElem?_cons_succ, List.getElem?_cons_zero]; rfl) (by kernel_rfl) (by intro _ _ _ h; exact h) (by rfl) (by assumption) ?_ ?_
  rotate_left
  · intro W hSw; (try dsimp only at hSw); go_simp; try with_reducible rfl
  simp only [Act.put, List.setIfInBounds_toArray, List.set_cons_zero, List.set_cons_succ]
  refine heldTake 10 (v := ?_) (by simp only [List.getElem?_toArray, List.getElem?_cons_succ, List.getElem?_cons_zero]; rfl) (by kernel_rfl) (by intro _ _ _ h; exact h) (by rfl) (by assumption) ?_ ?_
  rotate_left
  · intro W hSw; (try dsimp only at hSw); go_simp; try with_reducible rfl
  simp only [Act.put, List.setIfInBounds_toArray, List.set_cons_zero, List.set_cons_succ]
  refine heldTake 11 (v := ?_) (by simp only [List.getElem?_toArray, List.getElem?_cons_succ, List.getElem?_cons_zero]; rfl) (by kernel_rfl) (by intro _ _ _ h; exact h) (by rfl) (by assumption) ?_ ?_
  rotate_left
  · intro W hSw; (try dsimp only at hSw); go_simp; try with_reducible rfl
  simp only [Act.put, List.setIfInBounds_toArray, List.set_cons_zero, List.set_cons_succ]
  refine heldDone (by kernel_rfl) ?_ _
  go_wp2_with fail
  refine (HLQ.out _ (HMX.out.next HB.out.drew)).mono ?_
  rintro e w6 ⟨rfl, hb6⟩
  have HB6 := Lib.hid hb6
  clear hb6
  go_wp2_with fail
  go_ret
  exact ⟨rfl, HB.out.drew.trans (HB6.out.mono HB.out.drew.size)⟩
set_option maxRecDepth 20000 in
set_option maxHeartbeats 2000000 in
theorem may12 (src : ByteArray) (num at_ : Int) (i : ByteArray) (v : Int) (w : World) (hs : nameB src = true) (hn : 1 ≤ num ∧ num ≤ 1000) (ha : 0 ≤ at_ ∧ at_ ≤ 100000) (hi : nameB i = true) (hv : 0 ≤ v ∧ v ≤ 2) :
    Calls Tryz.prog 27 #[.agg #[.string src, .int .i64 num, .int .i64 at_, .int .i64 12, .string ⟨#[]⟩, .string i, .int .i64 v, .string ⟨#[]⟩]] w (MayNew w) := by
  have QS := Lib.hid (nameQ src hs)
  have QP := Lib.hid (nameQ0)
  have QI := Lib.hid (nameQ i hi)
  clear hs  hi 
  obtain ⟨W1, hW1⟩ : ∃ W1, W1 = w.alloc (.cells #[.string src, .int .i64 num, .int .i64 at_, .int .i64 12, .string ⟨#[]⟩, .string i, .int .i64 v, .string ⟨#[]⟩] 41) := ⟨_, rfl⟩
  have hbx : W1.heap[w.heap.size]? = some (.cells #[.string src, .int .i64 num, .int .i64 at_, .int .i64 12, .string ⟨#[]⟩, .string i, .int .i64 v, .string ⟨#[]⟩] 41 (0, 0)) := by rw [hW1]; exact heap_alloc_new w _
  have hB : Below w.heap.size w W1 := by rw [hW1]; exact (Below.refl _ w).alloc (Nat.le_refl _) _
  have c0 : W1.cell? ⟨w.heap.size, 0, none⟩ = some (.string src) := by rw [cell_of_row W1 w.heap.size 0 _ _ _ hbx]; rfl
  have c1 : W1.cell? ⟨w.heap.size, 1, none⟩ = some (.int .i64 num) := by rw [cell_of_row W1 w.heap.size 1 _ _ _ hbx]; rfl
  have c2 : W1.cell? ⟨w.heap.size, 2, none⟩ = some (.int .i64 at_) := by rw [cell_of_row W1 w.heap.size 2 _ _ _ hbx]; rfl
  have c3 : W1.cell? ⟨w.heap.size, 3, none⟩ = some (.int .i64 12) := by rw [cell_of_row W1 w.heap.size 3 _ _ _ hbx]; rfl
  have c4 : W1.cell? ⟨w.heap.size, 4, none⟩ = some (.string ⟨#[]⟩) := by rw [cell_of_row W1 w.heap.size 4 _ _ _ hbx]; rfl
  have c5 : W1.cell? ⟨w.heap.size, 5, none⟩ = some (.string i) := by rw [cell_of_row W1 w.heap.size 5 _ _ _ hbx]; rfl
  have c6 : W1.cell? ⟨w.heap.size, 6, none⟩ = some (.int .i64 v) := by rw [cell_of_row W1 w.heap.size 6 _ _ _ hbx]; rfl
  have c7 : W1.cell? ⟨w.heap.size, 7, none⟩ = some (.string ⟨#[]⟩) := by rw [cell_of_row W1 w.heap.size 7 _ _ _ hbx]; rfl
  have HB := Lib.hid hB
  clear hbx hB
  go_enter Tryz.func27, Tryz.ntmps27
  go_upto_region 1 with fail
  rw [← hW1]
  clear hW1
  go_wp2_with fail
  refine (QS.out _).mono ?_
  rintro e w6 ⟨rfl, rfl⟩
  go_upto_region 3 with fail
  refine heldStart 11 (S := fun W => W.cell? ⟨w.heap.size, 4, none⟩ = some (.string ⟨#[]⟩) ∧ W.cell? ⟨w.heap.size, 5, none⟩ = some (.string i) ∧ W.cell? ⟨w.heap.size, 7, none⟩ = some (.string ⟨#[]⟩)) (by kernel_rfl) ?_ (fun hHeld => ?_)
  · exact ⟨c4, c5, c7⟩
  refine heldTake 0 (v := ?_) (by simp only [List.getElem?_toArray, List.getElem?_cons_succ, List.getElem?_cons_zero]; rfl) (by kernel_rfl) (by intro _ _ _ h; exact h) (by rfl) (by assumption) ?_ ?_
  rotate_left
  · intro W hSw; (try dsimp only at hSw); go_simp; try with_reducible rfl
  simp only [Act.put, List.setIfInBounds_toArray, List.set_cons_zero, List.set_cons_succ]
  refine heldTake 1 (v := ?_) (by simp only [List.getElem?_toArray, List.getElem?_cons_succ, List.getElem?_cons_zero]; rfl) (by kernel_rfl) (by intro _ _ _ h; exact h) (by rfl) (by assumption) ?_ ?_
  rotate_left
  · intro W hSw; (try dsimp only at hSw); go_simp; try with_reducible rfl
  simp only [Act.put, List.setIfInBounds_toArray, List.set_cons_zero, List.set_cons_succ]
  refine heldTake 3 (v := ?_) (by simp only [List.getElem?_toArray, List.getElem?_cons_succ, List.getElem?_cons_zero]; rfl) (by kernel_rfl) (by intro _ _ _ h; exact h) (by rfl) (by assumption) ?_ ?_
  rotate_left
  · intro W hSw; (try dsimp only at hSw); go_simp; try with_reducible rfl
  simp only [Act.put, List.setIfInBounds_toArray, List.set_cons_zero, List.set_cons_succ]
  refine heldTake 4 (v := ?_) (by simp only [List.getElem?_toArray, List.getElem?_cons_succ, List.getElem?_cons_zero]; rfl) (by kernel_rfl) (by intro _ _ _ h; exact h) (by rfl) (by assumption) ?_ ?_
  rotate_left
  · intro W hSw; (try dsimp only at hSw); go_simp; try with_reducible rfl
  simp only [Act.put, List.setIfInBounds_toArray, List.set_cons_zero, List.set_cons_succ]
  refine heldTake 6 (v := ?_) (by simp only [List.getElem?_toArray, List.getElem?_cons_succ, List.getElem?_cons_zero]; rfl) (by kernel_rfl) (by intro _ _ _ h; exact h) (by rfl) (by assumption) ?_ ?_
  rotate_left
  · intro W hSw; (try dsimp only at hSw); go_simp; try with_reducible rfl
  simp only [Act.put, List.setIfInBounds_toArray, List.set_cons_zero, List.set_cons_succ]
  refine heldTake 7 (v := ?_) (by simp only [List.getElem?_toArray, List.getElem?_cons_succ, List.getElem?_cons_zero]; rfl) (by kernel_rfl) (by intro _ _ _ h; exact h) (by rfl) (by assumption) ?_ ?_
  rotate_left
  · intro W hSw; (try dsimp only at hSw); go_simp; try with_reducible rfl
  simp only [Act.put, List.setIfInBounds_toArray, List.set_cons_zero, List.set_cons_succ]
  refine heldTake 8 (v := ?_) (by simp only [List.getElem?_toArray, List.getElem?_cons_succ, List.getElem?_cons_zero]; rfl) (by kernel_rfl) (by intro _ _ _ h; exact h) (by rfl) (by assumption) ?_ ?_
  rotate_left
  · intro W hSw; (try dsimp only at hSw); go_simp; try with_reducible rfl
  simp only [Act.put, List.setIfInBounds_toArray, List.set_cons_zero, List.set_cons_succ]
  refine heldCall 2 (by simp only [List.getElem?_toArray, List.getElem?_cons_succ, List.getElem?_cons_zero]; rfl) (by kernel_rfl) (fun K hK => ?_)
  go_simp
  refine (QP.out _).mono ?_
  rintro e w6 ⟨rfl, rfl⟩
  go_wp2_with fail
  refine hK.out _ _ ?_ (fun hHeld => ?_)
  · exact ⟨c4, c5, c7⟩
  clear hK K
  (try simp only [Act.put, List.setIfInBounds_toArray, List.set_cons_zero, List.set_cons_succ])
  refine heldCall 5 (by simp only [List.getElem?_toArray, List.getElem?_cons_succ, List.getElem?_cons_zero]; rfl) (by kernel_rfl) (fun K hK => ?_)
  go_simp
  refine (QI.out _).mono ?_
  rintro e w6 ⟨rfl, rfl⟩
  go_wp2_with fail
  refine hK.out _ _ ?_ (fun hHeld => ?_)
  · exact ⟨c4, c5, c7⟩
  clear hK K
  (try simp only [Act.put, List.setIfInBounds_toArray, List.set_cons_zero, List.set_cons_succ])
  refine heldTake 9 (v := ?_) (by simp only [List.getElem?_toArray, List.getElem?_cons_succ, List.getElem?_cons_zero]; rfl) (by kernel_rfl) (by intro _ _ _ h; exact h) (by rfl) (by assumption) ?_ ?_
  rotate_left
  · intro W hSw; (try dsimp only at hSw); go_simp; try with_reducible rfl
  simp only [Act.put, List.setIfInBounds_toArray, List.set_cons_zero, List.set_cons_succ]
  refine heldTake 10 (v := ?_) (by simp only [List.getElem?_toArray, List.getElem?_cons_succ, List.getElem?_cons_zero]; rfl) (by kernel_rfl) (by intro _ _ _ h; exact h) (by rfl) (by assumption) ?_ ?_
  rotate_left
  · intro W hSw; (try dsimp only at hSw); go_simp; try with_reducible rfl
  simp only [Act.put, List.setIfInBounds_toArray, List.set_cons_zero, List.set_cons_succ]
  refine heldTake 11 (v := ?_) (by simp only [List.getElem?_toArray, List.getElem?_cons_succ, List.getElem?_cons_zero]; rfl) (by kernel_rfl) (by intro _ _ _ h; exact h) (by rfl) (by assumption) ?_ ?_
  rotate_left
  · intro W hSw; (try dsimp only at hSw); go_simp; try with_reducible rfl
  simp only [Act.put, List.setIfInBounds_toArray, List.set_cons_zero, List.set_cons_succ]
  refine heldDone (by kernel_rfl) ?_ _
  go_wp2_with fail
  go_ret
  exact ⟨rfl, HB.out.drew⟩
set_option maxRecDepth 20000 in
set_option maxHeartbeats 2000000 in
theorem may13 (src : ByteArray) (num at_ : Int) (i : ByteArray) (w : World) (hs : nameB src = true) (hn : 1 ≤ num ∧ num ≤ 1000) (ha : 0 ≤ at_ ∧ at_ ≤ 100000) (hi : nameB i = true) :
    Calls Tryz.prog 27 #[.agg #[.string src, .int .i64 num, .int .i64 at_, .int .i64 13, .string ⟨#[]⟩, .string i, .int .i64 0, .string ⟨#[]⟩]] w (MayNew w) := by
  have QS := Lib.hid (nameQ src hs)
  have QP := Lib.hid (nameQ0)
  have QI := Lib.hid (nameQ i hi)
  clear hs  hi 
  obtain ⟨W1, hW1⟩ : ∃ W1, W1 = w.alloc (.cells #[.string src, .int .i64 num, .int .i64 at_, .int .i64 13, .string ⟨#[]⟩, .string i, .int .i64 0, .string ⟨#[]⟩] 41) := ⟨_, rfl⟩
  have hbx : W1.heap[w.heap.size]? = some (.cells #[.string src, .int .i64 num, .int .i64 at_, .int .i64 13, .string ⟨#[]⟩, .string i, .int .i64 0, .string ⟨#[]⟩] 41 (0, 0)) := by rw [hW1]; exact heap_alloc_new w _
  have hB : Below w.heap.size w W1 := by rw [hW1]; exact (Below.refl _ w).alloc (Nat.le_refl _) _
  have c0 : W1.cell? ⟨w.heap.size, 0, none⟩ = some (.string src) := by rw [cell_of_row W1 w.heap.size 0 _ _ _ hbx]; rfl
  have c1 : W1.cell? ⟨w.heap.size, 1, none⟩ = some (.int .i64 num) := by rw [cell_of_row W1 w.heap.size 1 _ _ _ hbx]; rfl
  have c2 : W1.cell? ⟨w.heap.size, 2, none⟩ = some (.int .i64 at_) := by rw [cell_of_row W1 w.heap.size 2 _ _ _ hbx]; rfl
  have c3 : W1.cell? ⟨w.heap.size, 3, none⟩ = some (.int .i64 13) := by rw [cell_of_row W1 w.heap.size 3 _ _ _ hbx]; rfl
  have c4 : W1.cell? ⟨w.heap.size, 4, none⟩ = some (.string ⟨#[]⟩) := by rw [cell_of_row W1 w.heap.size 4 _ _ _ hbx]; rfl
  have c5 : W1.cell? ⟨w.heap.size, 5, none⟩ = some (.string i) := by rw [cell_of_row W1 w.heap.size 5 _ _ _ hbx]; rfl
  have c6 : W1.cell? ⟨w.heap.size, 6, none⟩ = some (.int .i64 0) := by rw [cell_of_row W1 w.heap.size 6 _ _ _ hbx]; rfl
  have c7 : W1.cell? ⟨w.heap.size, 7, none⟩ = some (.string ⟨#[]⟩) := by rw [cell_of_row W1 w.heap.size 7 _ _ _ hbx]; rfl
  have HB := Lib.hid hB
  clear hbx hB
  go_enter Tryz.func27, Tryz.ntmps27
  go_upto_region 1 with fail
  rw [← hW1]
  clear hW1
  go_wp2_with fail
  refine (QS.out _).mono ?_
  rintro e w6 ⟨rfl, rfl⟩
  go_upto_region 3 with fail
  refine heldStart 11 (S := fun W => W.cell? ⟨w.heap.size, 4, none⟩ = some (.string ⟨#[]⟩) ∧ W.cell? ⟨w.heap.size, 5, none⟩ = some (.string i) ∧ W.cell? ⟨w.heap.size, 7, none⟩ = some (.string ⟨#[]⟩)) (by kernel_rfl) ?_ (fun hHeld => ?_)
  · exact ⟨c4, c5, c7⟩
  refine heldTake 0 (v := ?_) (by simp only [List.getElem?_toArray, List.getElem?_cons_succ, List.getElem?_cons_zero]; rfl) (by kernel_rfl) (by intro _ _ _ h; exact h) (by rfl) (by assumption) ?_ ?_
  rotate_left
  · intro W hSw; (try dsimp only at hSw); go_simp; try with_reducible rfl
  simp only [Act.put, List.setIfInBounds_toArray, List.set_cons_zero, List.set_cons_succ]
  refine heldTake 1 (v := ?_) (by simp only [List.getElem?_toArray, List.getElem?_cons_succ, List.getElem?_cons_zero]; rfl) (by kernel_rfl) (by intro _ _ _ h; exact h) (by rfl) (by assumption) ?_ ?_
  rotate_left
  · intro W hSw; (try dsimp only at hSw); go_simp; try with_reducible rfl
  simp only [Act.put, List.setIfInBounds_toArray, List.set_cons_zero, List.set_cons_succ]
  refine heldTake 3 (v := ?_) (by simp only [List.getElem?_toArray, List.getElem?_cons_succ, List.getElem?_cons_zero]; rfl) (by kernel_rfl) (by intro _ _ _ h; exact h) (by rfl) (by assumption) ?_ ?_
  rotate_left
  · intro W hSw; (try dsimp only at hSw); go_simp; try with_reducible rfl
  simp only [Act.put, List.setIfInBounds_toArray, List.set_cons_zero, List.set_cons_succ]
  refine heldTake 4 (v := ?_) (by simp only [List.getElem?_toArray, List.getElem?_cons_succ, List.getElem?_cons_zero]; rfl) (by kernel_rfl) (by intro _ _ _ h; exact h) (by rfl) (by assumption) ?_ ?_
  rotate_left
  · intro W hSw; (try dsimp only at hSw); go_simp; try with_reducible rfl
  simp only [Act.put, List.setIfInBounds_toArray, List.set_cons_zero, List.set_cons_succ]
  refine heldTake 6 (v := ?_) (by simp only [List.getElem?_toArray, List.getElem?_cons_succ, List.getElem?_cons_zero]; rfl) (by kernel_rfl) (by intro _ _ _ h; exact h) (by rfl) (by assumption) ?_ ?_
  rotate_left
  · intro W hSw; (try dsimp only at hSw); go_simp; try with_reducible rfl
  simp only [Act.put, List.setIfInBounds_toArray, List.set_cons_zero, List.set_cons_succ]
  refine heldTake 7 (v := ?_) (by simp only [List.getElem?_toArray, List.getElem?_cons_succ, List.getElem?_cons_zero]; rfl) (by kernel_rfl) (by intro _ _ _ h; exact h) (by rfl) (by assumption) ?_ ?_
  rotate_left
  · intro W hSw; (try dsimp only at hSw); go_simp; try with_reducible rfl
  simp only [Act.put, List.setIfInBounds_toArray, List.set_cons_zero, List.set_cons_succ]
  refine heldTake 8 (v := ?_) (by simp only [List.getElem?_toArray, List.getElem?_cons_succ, List.getElem?_cons_zero]; rfl) (by kernel_rfl) (by intro _ _ _ h; exact h) (by rfl) (by assumption) ?_ ?_
  rotate_left
  · intro W hSw; (try dsimp only at hSw); go_simp; try with_reducible rfl
  simp only [Act.put, List.setIfInBounds_toArray, List.set_cons_zero, List.set_cons_succ]
  refine heldCall 2 (by simp only [List.getElem?_toArray, List.getElem?_cons_succ, List.getElem?_cons_zero]; rfl) (by kernel_rfl) (fun K hK => ?_)
  go_simp
  refine (QP.out _).mono ?_
  rintro e w6 ⟨rfl, rfl⟩
  go_wp2_with fail
  refine hK.out _ _ ?_ (fun hHeld => ?_)
  · exact ⟨c4, c5, c7⟩
  clear hK K
  (try simp only [Act.put, List.setIfInBounds_toArray, List.set_cons_zero, List.set_cons_succ])
  refine heldCall 5 (by simp only [List.getElem?_toArray, List.getElem?_cons_succ, List.getElem?_cons_zero]; rfl) (by kernel_rfl) (fun K hK => ?_)
  go_simp
  refine (QI.out _).mono ?_
  rintro e w6 ⟨rfl, rfl⟩
  go_wp2_with fail
  refine hK.out _ _ ?_ (fun hHeld => ?_)
  · exact ⟨c4, c5, c7⟩
  clear hK K
  (try simp only [Act.put, List.setIfInBounds_toArray, List.set_cons_zero, List.set_cons_succ])
  refine heldTake 9 (v := ?_) (by simp only [List.getElem?_toArray, List.getElem?_cons_succ, List.getElem?_cons_zero]; rfl) (by kernel_rfl) (by intro _ _ _ h; exact h) (by rfl) (by assumption) ?_ ?_
  rotate_left
  · intro W hSw; (try dsimp only at hSw); go_simp; try with_reducible rfl
  simp only [Act.put, List.setIfInBounds_toArray, List.set_cons_zero, List.set_cons_succ]
  refine heldTake 10 (v := ?_) (by simp only [List.getElem?_toArray, List.getElem?_cons_succ, List.getElem?_cons_zero]; rfl) (by kernel_rfl) (by intro _ _ _ h; exact h) (by rfl) (by assumption) ?_ ?_
  rotate_left
  · intro W hSw; (try dsimp only at hSw); go_simp; try with_reducible rfl
  simp only [Act.put, List.setIfInBounds_toArray, List.set_cons_zero, List.set_cons_succ]
  refine heldTake 11 (v := ?_) (by simp only [List.getElem?_toArray, List.getElem?_cons_succ, List.getElem?_cons_zero]; rfl) (by kernel_rfl) (by intro _ _ _ h; exact h) (by rfl) (by assumption) ?_ ?_
  rotate_left
  · intro W hSw; (try dsimp only at hSw); go_simp; try with_reducible rfl
  simp only [Act.put, List.setIfInBounds_toArray, List.set_cons_zero, List.set_cons_succ]
  refine heldDone (by kernel_rfl) ?_ _
  go_wp2_with fail
  go_ret
  exact ⟨rfl, HB.out.drew⟩

theorem may_any (e : EvV) (w : World) (h : EvOk e) (hn : 1 ≤ e.num ∧ e.num ≤ 1000) (hx : MxAt w) : Calls Tryz.prog 27 #[evVal e] w (MayNew w) := by
  obtain ⟨src, num, at_, kind, p, i, v, t⟩ := e
  obtain ⟨h1, h2, h3, h4⟩ := h
  simp only at h2 h3 h4 hn
  have hs : nameB src = true := by rcases h2 with rfl | rfl <;> exact nm_name (by simp) (by omega)
  rcases h1 with ⟨hk, ⟨a, a1, a2, hp⟩, hi, hv, b, b1, b2, ht⟩ | ⟨hk, hp, ⟨a, a1, a2, hi⟩, hv, m, x, y, z, b1, b2, ht⟩ | ⟨hk, hp, ⟨a, a1, a2, hi⟩, hv, ht⟩ | ⟨hk, hp, ⟨a, a1, a2, hi⟩, hv, ht⟩ | ⟨hk, ⟨a, a1, a2, hp⟩, ⟨b, b1, b2, hi⟩, hv, ht⟩ | ⟨hk, ⟨a, a1, a2, hp⟩, ⟨b, b1, b2, hi⟩, hv, ht⟩
  all_goals simp only at hk hp hi hv ht
  · have hpn : nameB p = true := by rw [hp]; exact nm_name (by simp) (by omega)
    have htn : nameB t = true := by rw [ht]; exact nm_name (by simp) (by omega)
    subst hi hv
    rcases hk with rfl | rfl
    · exact may7 src num at_ p t w hs hn ⟨h3, h4⟩ hpn htn
    · exact may9 src num at_ p t w hs hn ⟨h3, h4⟩ hpn htn
  · have hin : nameB i = true := by rw [hi]; exact nm_name (by simp) (by omega)
    subst hk hp ht
    exact may11 src num at_ i v m x y z w hs hn ⟨h3, h4⟩ hin hv ⟨b1, b2⟩ hx
  · have hin : nameB i = true := by rw [hi]; exact nm_name (by simp) (by omega)
    subst hk hp ht
    exact may12 src num at_ i v w hs hn ⟨h3, h4⟩ hin hv
  · have hin : nameB i = true := by rw [hi]; exact nm_name (by simp) (by omega)
    subst hk hp ht hv
    exact may13 src num at_ i w hs hn ⟨h3, h4⟩ hin
  · have hpn : nameB p = true := by rw [hp]; exact nm_name (by simp) (by omega)
    have hin : nameB i = true := by rw [hi]; exact nm_name (by simp) (by omega)
    subst hk ht
    exact may4 src num at_ p i v w hs hn ⟨h3, h4⟩ hpn hin hv
  · have hpn : nameB p = true := by rw [hp]; exact nm_name (by simp) (by omega)
    have hin : nameB i = true := by rw [hi]; exact nm_name (by simp) (by omega)
    subst hv ht
    rcases hk with rfl | rfl | rfl | rfl | rfl | rfl
    · exact may0 src num at_ p i w hs hn ⟨h3, h4⟩ hpn hin
    · exact may1 src num at_ p i w hs hn ⟨h3, h4⟩ hpn hin
    · exact may2 src num at_ p i w hs hn ⟨h3, h4⟩ hpn hin
    · exact may3 src num at_ p i w hs hn ⟨h3, h4⟩ hpn hin
    · exact may5 src num at_ p i w hs hn ⟨h3, h4⟩ hpn hin
    · exact may6 src num at_ p i w hs hn ⟨h3, h4⟩ hpn hin
end Go.Proofs.YthbijemihaekiaaGreatDoor
