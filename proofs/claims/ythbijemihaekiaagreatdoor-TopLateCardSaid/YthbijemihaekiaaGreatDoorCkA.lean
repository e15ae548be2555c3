/- The clock in memory; contracts of clock.name at the sources' names, bound, active. -/
import Derived.Test.YthbijemihaekiaaGreatDoorLayM
import Derived.Test.YthbijemihaekiaaGreatDoorTlB
import Derived.Test.YthbijemihaekiaaGreatDoorKitC
import Derived.Test.YthbijemihaekiaaGreatDoorKitR
import Derived.Test.YthbijemihaekiaaGreatDoorKitL
import Derived.Test.YthbijemihaekiaaGreatDoorKitNs
import Derived.Test.YthbijemihaekiaaGreatDoorKitZ
import Derived.Shelf.GgClosure.StringsIndexFuncTop
import Derived.Deep.DeepCutAuto
namespace Go.Proofs.YthbijemihaekiaaGreatDoor
open Go.ChangeShapes Go.WideShapes Go.ChangeAt Go.RowKit
set_option linter.unusedVariables false
set_option linter.unusedSimpArgs false

def ckP (x : Nat) : Bool := !(decide (97 ≤ x) && decide (x ≤ 122) || decide (48 ≤ x) && decide (x ≤ 57) || decide (x = 45))
set_option maxRecDepth 20000 in
set_option maxHeartbeats 1000000 in
theorem ckP_any (x : Nat) (W : World) : Calls Tryz.prog 44 #[.int .i32 x] W fun e w' => e = .returned (.bool (ckP x)) ∧ W = w' := by
  go_enter Tryz.func44, Tryz.ntmps44
  go_wp2
  all_goals go_ret
  all_goals
    refine ⟨ret_bool ?_, rfl⟩
    unfold ckP
    rw [Bool.eq_iff_iff]
    simp
    try omega
theorem enter_nm (args : Array Value) (w : World) : (callFunc 44 args).run Tryz.prog w = .ok (.enter 44 args) w := enters_of (P := Tryz.prog) Tryz.func44 (by kernel_rfl) rfl args w
theorem ix_nm (s : ByteArray) (w : World) : Calls Tryz.prog 43 #[.string s, .func (.func 44) #[] #[]] w fun e w' => e = .returned (.int .i64 (Lib.idxFunc ckP true s)) ∧ Below w.heap.size w w' :=
  Any.strings_IndexFunc Tryz.ixf 44 #[] enter_nm ckP s w (fun W x _ => (ckP_any x W).mono fun e w' h => ⟨h.1, 0, by rw [← h.2]; rfl⟩)
theorem ix_val {n : Int} (h : n = 0 ∨ n = 1) : Lib.idxFunc ckP true (nm 115 n) = -1 := by
  rcases h with rfl | rfl <;> rfl
set_option maxRecDepth 20000 in
set_option maxHeartbeats 1000000 in
theorem cname_any {n : Int} (h : n = 0 ∨ n = 1) (w : World) : Calls Tryz.prog 29 #[.string (nm 115 n)] w fun e w' => e = .returned (.bool true) ∧ Below w.heap.size w w' := by
  have Q := ix_nm (nm 115 n) w
  rw [ix_val h] at Q
  have hs : (nm 115 n).size = 2 := rfl
  generalize nm 115 n = s at *
  have Q := Lib.hid Q
  go_enter Tryz.func29, Tryz.ntmps29
  go_wp2_with fail
  refine Q.out.mono ?_
  rintro e w2 ⟨rfl, hb⟩
  go_wp2_with fail
  go_ret
  exact ⟨rfl, hb⟩
set_option maxRecDepth 20000 in
set_option maxHeartbeats 1000000 in
theorem bound_any (n : Int) (h : 0 ≤ n ∧ n ≤ 1000000) (w : World) : Calls Tryz.prog 25 #[.int .i64 n] w fun e w' => e = .returned (.int .i64 n) ∧ w = w' := by
  have h1 : max n 0 = n := by omega
  have h2 : min n 1099511627776 = n := by omega
  go_enter Tryz.func25, Tryz.ntmps25
  go_wp2
  go_ret
  exact ⟨rfl, rfl⟩

/-- How far a source has come, and when it was heard. -/
abbrev CkD := List (ByteArray × (Int × Int))
def ckVf (p : Int × Int) : Value := .agg #[.int .i64 p.1, .int .i64 p.2]
structure ClkAt (w : World) (cb mb : Nat) (sl mk : Int) (D : CkD) : Prop where
  blk : w.heap[cb]? = some (.cells #[.int .i64 sl, .int .i64 0, .int .i64 0, .int .i64 mk, .map (some mb)] 78 (0, 0))
  mp : MapIs w strKf ckVf strOk mb D
  bd : -1 ≤ mk ∧ mk ≤ 100000 ∧ 0 ≤ sl ∧ sl ≤ 255 ∧ ∀ p ∈ D, 0 ≤ p.2.1 ∧ p.2.1 ≤ 100000
/-- The mark is not below what the sources tell. -/
def CkInv (sl mk : Int) (D : CkD) : Prop := D = [] ∨ ∃ p ∈ D, p.2.1 - sl - 1 ≤ mk
theorem ClkAt.keep {w w' : World} {cb mb : Nat} {sl mk : Int} {D : CkD} {F : Nat → Prop} (h : ClkAt w cb mb sl mk D) (hk : Keeps F w w') (h1 : ¬ F cb) (h2 : ¬ F mb) : ClkAt w' cb mb sl mk D :=
  ⟨(hk.block cb (Array.getElem?_eq_some_iff.1 h.blk).1 h1).trans h.blk, h.mp.keep hk h2, h.bd⟩
theorem ClkAt.next {w w' : World} {cb mb : Nat} {sl mk : Int} {D : CkD} (h : ClkAt w cb mb sl mk D) (hb : Below w.heap.size w w') : ClkAt w' cb mb sl mk D := h.keep (Keeps.ofBelow hb (fun _ => False)) id id
theorem ClkAt.lt {w : World} {cb mb : Nat} {sl mk : Int} {D : CkD} (h : ClkAt w cb mb sl mk D) : cb < w.heap.size ∧ mb < w.heap.size ∧ cb ≠ mb := by
  refine ⟨(Array.getElem?_eq_some_iff.1 h.blk).1, h.mp.lt, fun e => ?_⟩
  obtain ⟨es, c, h1, _⟩ := h.mp
  have h2 := h.blk
  rw [e, h1] at h2
  cases h2
theorem ClkAt.cells {w : World} {cb mb : Nat} {sl mk : Int} {D : CkD} (h : ClkAt w cb mb sl mk D) : w.cell? ⟨cb, 0, none⟩ = some (.int .i64 sl) ∧ w.cell? ⟨cb, 1, none⟩ = some (.int .i64 0) ∧ w.cell? ⟨cb, 2, none⟩ = some (.int .i64 0) ∧ w.cell? ⟨cb, 3, none⟩ = some (.int .i64 mk) ∧ w.cell? ⟨cb, 4, none⟩ = some (.map (some mb)) := by
  refine ⟨?_, ?_, ?_, ?_, ?_⟩ <;> rw [cell_of_row w cb _ _ _ _ h.blk] <;> rfl

set_option maxRecDepth 20000 in
set_option maxHeartbeats 1000000 in
theorem active_any (cb mb : Nat) (sl mk : Int) (D : CkD) (w : World) (h : ClkAt w cb mb sl mk D) (a b : Int) :
    Calls Tryz.prog 55 #[.pointer (some ⟨cb, 0, none⟩), .agg #[.int .i64 a, .int .i64 b]] w fun e w' => e = .returned (.bool true) ∧ Below w.heap.size w w' := by
  obtain ⟨W1, hW1⟩ : ∃ W1, W1 = w.alloc (.cells #[.int .i64 a, .int .i64 b] 86) := ⟨_, rfl⟩
  have hb : Below w.heap.size w W1 := by rw [hW1]; exact (Below.refl _ w).alloc (Nat.le_refl _) _
  have c1 := (h.next hb).cells.2.1
  have HB := Lib.hid hb
  clear h hb
  go_enter Tryz.func55, Tryz.ntmps55
  go_upto_region 1 with fail
  rw [← hW1]
  clear hW1
  refine heldStart 19 (S := fun W => W.cell? ⟨cb, 1, none⟩ = some (.int .i64 0)) (by kernel_rfl) ?_ (fun hHeld => ?_)
  · exact c1
  refine heldTake 0 (v := ?_) (by simp only [List.getElem?_toArray, List.getElem?_cons_succ, List.getElem?_cons_zero]; rfl) (by kernel_rfl) (by intro _ _ _ h; exact h) (by rfl) (by assumption) ?_ ?_
  rotate_left
  · intro W hSw; (try dsimp only at hSw); go_simp; try with_reducible rfl
  simp only [Act.put, List.setIfInBounds_toArray, List.set_cons_zero, List.set_cons_succ]
  refine heldTake 1 (v := ?_) (by simp only [List.getElem?_toArray, List.getElem?_cons_succ, List.getElem?_cons_zero]; rfl) (by kernel_rfl) (by intro _ _ _ h; exact h) (by rfl) (by assumption) ?_ ?_
  rotate_left
  · intro W hSw; (try dsimp only at hSw); go_simp; try with_reducible rfl
  simp only [Act.put, List.setIfInBounds_toArray, List.set_cons_zero, List.set_cons_succ]
  refine heldTake 2 (v := ?_) (by simp only [List.getElem?_toArray, List.getElem?_cons_succ, List.getElem?_cons_zero]; rfl) (by kernel_rfl) (by intro _ _ _ h; exact h) (by rfl) (by assumption) ?_ ?_
  rotate_left
  · intro W hSw; (try dsimp only at hSw); go_simp; try with_reducible rfl
  simp only [Act.put, List.setIfInBounds_toArray, List.set_cons_zero, List.set_cons_succ]
  refine heldTake 3 (v := ?_) (by simp only [List.getElem?_toArray, List.getElem?_cons_succ, List.getElem?_cons_zero]; rfl) (by kernel_rfl) (by intro _ _ _ h; exact h) (by rfl) (by assumption) ?_ ?_
  rotate_left
  · intro W hSw; (try dsimp only at hSw); go_simp; try with_reducible rfl
  simp only [Act.put, List.setIfInBounds_toArray, List.set_cons_zero, List.set_cons_succ]
  refine heldTake 4 (v := ?_) (by simp only [List.getElem?_toArray, List.getElem?_cons_succ, List.getElem?_cons_zero]; rfl) (by kernel_rfl) (by intro _ _ _ h; exact h) (by rfl) (by assumption) ?_ ?_
  rotate_left
  · intro W hSw; (try dsimp only at hSw); go_simp; try with_reducible rfl
  simp only [Act.put, List.setIfInBounds_toArray, List.set_cons_zero, List.set_cons_succ]
  refine heldTake 5 (v := ?_) (by simp only [List.getElem?_toArray, List.getElem?_cons_succ, List.getElem?_cons_zero]; rfl) (by kernel_rfl) (by intro _ _ _ h; exact h) (by rfl) (by assumption) ?_ ?_
  rotate_left
  · intro W hSw; (try dsimp only at hSw); go_simp; try with_reducible rfl
  simp only [Act.put, List.setIfInBounds_toArray, List.set_cons_zero, List.set_cons_succ]
  refine heldSkip 6 (by simp only [List.getElem?_toArray, List.getElem?_cons_succ, List.getElem?_cons_zero]; rfl) (by kernel_rfl) (by intro _ _ _ h; exact h) (by rfl) (by assumption) ?_
  simp only [Act.put, List.setIfInBounds_toArray, List.set_cons_zero, List.set_cons_succ]
  refine heldSkip 7 (by simp only [List.getElem?_toArray, List.getElem?_cons_succ, List.getElem?_cons_zero]; rfl) (by kernel_rfl) (by intro _ _ _ h; exact h) (by rfl) (by assumption) ?_
  simp only [Act.put, List.setIfInBounds_toArray, List.set_cons_zero, List.set_cons_succ]
  refine heldSkip 8 (by simp only [List.getElem?_toArray, List.getElem?_cons_succ, List.getElem?_cons_zero]; rfl) (by kernel_rfl) (by intro _ _ _ h; exact h) (by rfl) (by assumption) ?_
  simp only [Act.put, List.setIfInBounds_toArray, List.set_cons_zero, List.set_cons_succ]
  refine heldSkip 9 (by simp only [List.getElem?_toArray, List.getElem?_cons_succ, List.getElem?_cons_zero]; rfl) (by kernel_rfl) (by intro _ _ _ h; exact h) (by rfl) (by assumption) ?_
  simp only [Act.put, List.setIfInBounds_toArray, List.set_cons_zero, List.set_cons_succ]
  refine heldSkip 10 (by simp only [List.getElem?_toArray, List.getElem?_cons_succ, List.getElem?_cons_zero]; rfl) (by kernel_rfl) (by intro _ _ _ h; exact h) (by rfl) (by assumption) ?_
  simp only [Act.put, List.setIfInBounds_toArray, List.set_cons_zero, List.set_cons_succ]
  refine heldSkip 11 (by simp only [List.getElem?_toArray, List.getElem?_cons_succ, List.getElem?_cons_zero]; rfl) (by kernel_rfl) (by intro _ _ _ h; exact h) (by rfl) (by assumption) ?_
  simp only [Act.put, List.setIfInBounds_toArray, List.set_cons_zero, List.set_cons_succ]
  refine heldSkip 12 (by simp only [List.getElem?_toArray, List.getElem?_cons_succ, List.getElem?_cons_zero]; rfl) (by kernel_rfl) (by intro _ _ _ h; exact h) (by rfl) (by assumption) ?_
  simp only [Act.put, List.setIfInBounds_toArray, List.set_cons_zero, List.set_cons_succ]
  refine heldSkip 13 (by simp only [List.getElem?_toArray, List.getElem?_cons_succ, List.getElem?_cons_zero]; rfl) (by kernel_rfl) (by intro _ _ _ h; exact h) (by rfl) (by assumption) ?_
  simp only [Act.put, List.setIfInBounds_toArray, List.set_cons_zero, List.set_cons_succ]
  refine heldSkip 14 (by simp only [List.getElem?_toArray, List.getElem?_cons_succ, List.getElem?_cons_zero]; rfl) (by kernel_rfl) (by intro _ _ _ h; exact h) (by rfl) (by assumption) ?_
  simp only [Act.put, List.setIfInBounds_toArray, List.set_cons_zero, List.set_cons_succ]
  refine heldSkip 15 (by simp only [List.getElem?_toArray, List.getElem?_cons_succ, List.getElem?_cons_zero]; rfl) (by kernel_rfl) (by intro _ _ _ h; exact h) (by rfl) (by assumption) ?_
  simp only [Act.put, List.setIfInBounds_toArray, List.set_cons_zero, List.set_cons_succ]
  refine heldSkip 16 (by simp only [List.getElem?_toArray, List.getElem?_cons_succ, List.getElem?_cons_zero]; rfl) (by kernel_rfl) (by intro _ _ _ h; exact h) (by rfl) (by assumption) ?_
  simp only [Act.put, List.setIfInBounds_toArray, List.set_cons_zero, List.set_cons_succ]
  refine heldSkip 17 (by simp only [List.getElem?_toArray, List.getElem?_cons_succ, List.getElem?_cons_zero]; rfl) (by kernel_rfl) (by intro _ _ _ h; exact h) (by rfl) (by assumption) ?_
  simp only [Act.put, List.setIfInBounds_toArray, List.set_cons_zero, List.set_cons_succ]
  refine heldTake 18 (v := ?_) (by simp only [List.getElem?_toArray, List.getElem?_cons_succ, List.getElem?_cons_zero]; rfl) (by kernel_rfl) (by intro _ _ _ h; exact h) (by rfl) (by assumption) ?_ ?_
  rotate_left
  · intro W hSw; (try dsimp only at hSw); go_simp; try with_reducible rfl
  simp only [Act.put, List.setIfInBounds_toArray, List.set_cons_zero, List.set_cons_succ]
  refine heldTake 19 (v := ?_) (by simp only [List.getElem?_toArray, List.getElem?_cons_succ, List.getElem?_cons_zero]; rfl) (by kernel_rfl) (by intro _ _ _ h; exact h) (by rfl) (by assumption) ?_ ?_
  rotate_left
  · intro W hSw; (try dsimp only at hSw); go_simp; try with_reducible rfl
  simp only [Act.put, List.setIfInBounds_toArray, List.set_cons_zero, List.set_cons_succ]
  refine heldDone (by kernel_rfl) ?_ _
  go_wp2_with fail
  go_ret
  exact ⟨rfl, HB.out.drew⟩
end Go.Proofs.YthbijemihaekiaaGreatDoor
