/- Contract of the comparison that draw.Sample sorts by. -/
import Derived.Test.YtpbaokhlhhpiiaaDrawD
import Derived.Test.YtpbaokhlhhpiiaaKitC
namespace Go.Proofs.Ytpbaokhlhhpiiaa
open Go.ChangeShapes Go.WideShapes Go.ChangeAt Go.RowKit
set_option linter.unusedVariables false
set_option linter.unusedSimpArgs false

theorem cell_grew {W W1 : World} {b o : Nat} (h : Grew W W1) (hb : b < W.heap.size) : W1.cell? ⟨b, o, none⟩ = W.cell? ⟨b, o, none⟩ := h.below.cell (p := ⟨b, o, none⟩) hb
theorem strs_one {W : World} {b : Nat} {x : ByteArray} (h : W.cell? ⟨b, 0, none⟩ = some (.string x)) (hx : x.size ≤ maxLen) : StrsAt W (b + 1) (some ⟨b, 0, none⟩) [x] := by
  refine ⟨⟨rfl, fun _ => ⟨b, 0, rfl, Nat.lt_succ_self _, fun j u hu => ?_⟩⟩, by simpa using hx⟩
  cases j with
  | zero => simp at hu; subst hu; simpa using h
  | succ j => simp at hu

def smpCmp (seed : Int) (x y : ByteArray) : Int := orV [cmpInt (hashV seed [x]) (hashV seed [y]), cmpStr x y]

set_option maxHeartbeats 1000000 in
theorem scmp_any (seed : Int) (sb : Nat) (x y : ByteArray) (hx : x.size ≤ maxLen) (hy : y.size ≤ maxLen) (w : World) (hc : w.cell? ⟨sb, 0, none⟩ = some (.int .u64 seed)) (hsb : sb < w.heap.size) :
    Calls Try.prog 27 #[.string x, .string y, .pointer (some ⟨sb, 0, none⟩)] w fun e w' => e = .returned (.int .i64 (smpCmp seed x y)) ∧ Grew w w' := by
  unfold smpCmp
  have q1 := fun B c W (h : StrsAt W B (some ⟨c, 0, none⟩) [x]) => hash_any seed (some ⟨c, 0, none⟩) B 1 [x] W h (by simp)
  have q2 := fun B c W (h : StrsAt W B (some ⟨c, 0, none⟩) [y]) => hash_any seed (some ⟨c, 0, none⟩) B 1 [y] W h (by simp)
  generalize hashV seed [x] = hx1 at *
  generalize hashV seed [y] = hy1 at *
  have q3 := fun W => cmpU_any hx1 hy1 W
  have q4 := fun W => cmpS_any x y W
  generalize cmpInt hx1 hy1 = d1 at *
  generalize cmpStr x y = d2 at *
  have q5 := fun b W h => or_any b 0 2 [d1, d2] W (by simp) h
  generalize orV [d1, d2] = r at *
  have Q1 := Lib.hid q1
  have Q2 := Lib.hid q2
  have Q3 := Lib.hid q3
  have Q4 := Lib.hid q4
  have Q5 := Lib.hid q5
  clear q1 q2 q3 q4 q5
  go_enter Try.func27, Try.ntmps27
  go_wp2
  refine heldStart 14 (S := fun W => W.cell? ⟨sb, 0, none⟩ = some (.int .u64 seed)) (by kernel_rfl) ?_ (fun hHeld => ?_)
  · exact (cell_grew (by repeat (first | exact Grew.refl _ | refine Grew.alloc ?_ _ | refine Grew.drew ?_)) hsb).trans hc
  refine heldTake 0 (v := ?_) (by simp only [List.getElem?_toArray, List.getElem?_cons_succ, List.getElem?_cons_zero]; rfl) (by kernel_rfl) (by intro _ _ _ h; exact h) (by rfl) (by assumption) ?_ ?_
  rotate_left
  · intro W hSw; (try dsimp only at hSw); go_simp; try with_reducible rfl
  simp only [Act.put, List.setIfInBounds_toArray, List.set_cons_zero, List.set_cons_succ]
  refine heldTake 1 (v := ?_) (by simp only [List.getElem?_toArray, List.getElem?_cons_succ, List.getElem?_cons_zero]; rfl) (by kernel_rfl) (by intro _ _ _ h; exact h) (by rfl) (by assumption) ?_ ?_
  rotate_left
  · intro W hSw; (try dsimp only at hSw); go_simp; try with_reducible rfl
  simp only [Act.put, List.setIfInBounds_toArray, List.set_cons_zero, List.set_cons_succ]
  refine heldTake 4 (v := ?_) (by simp only [List.getElem?_toArray, List.getElem?_cons_succ, List.getElem?_cons_zero]; rfl) (by kernel_rfl) (by intro _ _ _ h; exact h) (by rfl) (by assumption) ?_ ?_
  rotate_left
  · intro W hSw; (try dsimp only at hSw); go_simp; try with_reducible rfl
  simp only [Act.put, List.setIfInBounds_toArray, List.set_cons_zero, List.set_cons_succ]
  refine heldTake 5 (v := ?_) (by simp only [List.getElem?_toArray, List.getElem?_cons_succ, List.getElem?_cons_zero]; rfl) (by kernel_rfl) (by intro _ _ _ h; exact h) (by rfl) (by assumption) ?_ ?_
  rotate_left
  · intro W hSw; (try dsimp only at hSw); go_simp; try with_reducible rfl
  simp only [Act.put, List.setIfInBounds_toArray, List.set_cons_zero, List.set_cons_succ]
  refine heldTake 9 (v := ?_) (by simp only [List.getElem?_toArray, List.getElem?_cons_succ, List.getElem?_cons_zero]; rfl) (by kernel_rfl) (by intro _ _ _ h; exact h) (by rfl) (by assumption) ?_ ?_
  rotate_left
  · intro W hSw; (try dsimp only at hSw); go_simp; try with_reducible rfl
  simp only [Act.put, List.setIfInBounds_toArray, List.set_cons_zero, List.set_cons_succ]
  refine heldTake 10 (v := ?_) (by simp only [List.getElem?_toArray, List.getElem?_cons_succ, List.getElem?_cons_zero]; rfl) (by kernel_rfl) (by intro _ _ _ h; exact h) (by rfl) (by assumption) ?_ ?_
  rotate_left
  · intro W hSw; (try dsimp only at hSw); go_simp; try with_reducible rfl
  simp only [Act.put, List.setIfInBounds_toArray, List.set_cons_zero, List.set_cons_succ]
  refine heldFork 2 6 (by kernel_rfl) ?_ ?_
  · refine heldOp 2 (by simp only [List.getElem?_toArray, List.getElem?_cons_succ, List.getElem?_cons_zero]; rfl) (fun K hK => ?_)
    go_simp
    refine hK.out _ _ ?_ (fun hHeld => ?_)
    · exact (cell_grew (by repeat (first | exact Grew.refl _ | refine Grew.alloc ?_ _ | refine Grew.drew ?_)) hsb).trans hc
    clear hK K
    (try simp only [Act.put, List.setIfInBounds_toArray, List.set_cons_zero, List.set_cons_succ])
    refine heldFork 3 6 (by kernel_rfl) ?_ ?_
    · refine heldOp 3 (by simp only [List.getElem?_toArray, List.getElem?_cons_succ, List.getElem?_cons_zero]; rfl) (fun K hK => ?_)
      go_simp
      refine (Q1.out _ _ _ (strs_one (by go_simp) hx)).mono ?_
      rintro e w1 ⟨rfl, rfl⟩
      go_wp2_with fail
      refine hK.out _ _ ?_ (fun hHeld => ?_)
      · exact (cell_grew (by repeat (first | exact Grew.refl _ | refine Grew.alloc ?_ _ | refine Grew.drew ?_)) hsb).trans hc
      clear hK K
      (try simp only [Act.put, List.setIfInBounds_toArray, List.set_cons_zero, List.set_cons_succ])
      refine heldCall 6 (by simp only [List.getElem?_toArray, List.getElem?_cons_succ, List.getElem?_cons_zero]; rfl) (by kernel_rfl) (fun K hK => ?_)
      go_simp
      refine hK.out _ _ ?_ (fun hHeld => ?_)
      · exact (cell_grew (by repeat (first | exact Grew.refl _ | refine Grew.alloc ?_ _ | refine Grew.drew ?_)) hsb).trans hc
      clear hK K
      (try simp only [Act.put, List.setIfInBounds_toArray, List.set_cons_zero, List.set_cons_succ])
      refine heldCall 7 (by simp only [List.getElem?_toArray, List.getElem?_cons_succ, List.getElem?_cons_zero]; rfl) (by kernel_rfl) (fun K hK => ?_)
      go_simp
      refine (Q2.out _ _ _ (strs_one (by go_simp) hy)).mono ?_
      rintro e w1 ⟨rfl, rfl⟩
      go_wp2_with fail
      refine hK.out _ _ ?_ (fun hHeld => ?_)
      · exact (cell_grew (by repeat (first | exact Grew.refl _ | refine Grew.alloc ?_ _ | refine Grew.drew ?_)) hsb).trans hc
      clear hK K
      (try simp only [Act.put, List.setIfInBounds_toArray, List.set_cons_zero, List.set_cons_succ])
      refine heldCall 8 (by simp only [List.getElem?_toArray, List.getElem?_cons_succ, List.getElem?_cons_zero]; rfl) (by kernel_rfl) (fun K hK => ?_)
      go_simp
      refine (Q3.out _).mono ?_
      rintro e w1 ⟨rfl, rfl⟩
      go_wp2_with fail
      refine hK.out _ _ ?_ (fun hHeld => ?_)
      · exact (cell_grew (by repeat (first | exact Grew.refl _ | refine Grew.alloc ?_ _ | refine Grew.drew ?_)) hsb).trans hc
      clear hK K
      (try simp only [Act.put, List.setIfInBounds_toArray, List.set_cons_zero, List.set_cons_succ])
      refine heldCall 11 (by simp only [List.getElem?_toArray, List.getElem?_cons_succ, List.getElem?_cons_zero]; rfl) (by kernel_rfl) (fun K hK => ?_)
      go_simp
      refine (Q4.out _).mono ?_
      rintro e w1 ⟨rfl, rfl⟩
      go_wp2_with fail
      refine hK.out _ _ ?_ (fun hHeld => ?_)
      · exact (cell_grew (by repeat (first | exact Grew.refl _ | refine Grew.alloc ?_ _ | refine Grew.drew ?_)) hsb).trans hc
      clear hK K
      (try simp only [Act.put, List.setIfInBounds_toArray, List.set_cons_zero, List.set_cons_succ])
      refine heldCall 12 (by simp only [List.getElem?_toArray, List.getElem?_cons_succ, List.getElem?_cons_zero]; rfl) (by kernel_rfl) (fun K hK => ?_)
      go_simp
      refine hK.out _ _ ?_ (fun hHeld => ?_)
      · exact (cell_grew (by repeat (first | exact Grew.refl _ | refine Grew.alloc ?_ _ | refine Grew.drew ?_)) hsb).trans hc
      clear hK K
      (try simp only [Act.put, List.setIfInBounds_toArray, List.set_cons_zero, List.set_cons_succ])
      refine heldCall 13 (by simp only [List.getElem?_toArray, List.getElem?_cons_succ, List.getElem?_cons_zero]; rfl) (by kernel_rfl) (fun K hK => ?_)
      go_simp
      refine (Q5.out _ _ (fun j hj => ?_)).mono ?_
      · match j, hj with
        | 0, _ => go_simp
        | 1, _ => go_simp
      rintro e w1 ⟨rfl, rfl⟩
      go_wp2_with fail
      refine hK.out _ _ ?_ (fun hHeld => ?_)
      · exact (cell_grew (by repeat (first | exact Grew.refl _ | refine Grew.alloc ?_ _ | refine Grew.drew ?_)) hsb).trans hc
      clear hK K
      (try simp only [Act.put, List.setIfInBounds_toArray, List.set_cons_zero, List.set_cons_succ])
      refine heldTake 14 (v := ?_) (by simp only [List.getElem?_toArray, List.getElem?_cons_succ, List.getElem?_cons_zero]; rfl) (by kernel_rfl) (by intro _ _ _ h; exact h) (by rfl) (by assumption) ?_ ?_
      rotate_left
      · intro W hSw; (try dsimp only at hSw); go_simp; try with_reducible rfl
      simp only [Act.put, List.setIfInBounds_toArray, List.set_cons_zero, List.set_cons_succ]
      refine heldDone (by kernel_rfl) ?_ _
      go_wp2
      go_ret
      exact ⟨rfl, by repeat (first | exact Grew.refl _ | refine Grew.alloc ?_ _ | refine Grew.drew ?_)⟩
    · refine heldOp 6 (by simp only [List.getElem?_toArray, List.getElem?_cons_succ, List.getElem?_cons_zero]; rfl) (fun K hK => ?_)
      go_simp
      refine hK.out _ _ ?_ (fun hHeld => ?_)
      · exact (cell_grew (by repeat (first | exact Grew.refl _ | refine Grew.alloc ?_ _ | refine Grew.drew ?_)) hsb).trans hc
      clear hK K
      (try simp only [Act.put, List.setIfInBounds_toArray, List.set_cons_zero, List.set_cons_succ])
      refine heldCall 3 (by simp only [List.getElem?_toArray, List.getElem?_cons_succ, List.getElem?_cons_zero]; rfl) (by kernel_rfl) (fun K hK => ?_)
      go_simp
      refine (Q1.out _ _ _ (strs_one (by go_simp) hx)).mono ?_
      rintro e w1 ⟨rfl, rfl⟩
      go_wp2_with fail
      refine hK.out _ _ ?_ (fun hHeld => ?_)
      · exact (cell_grew (by repeat (first | exact Grew.refl _ | refine Grew.alloc ?_ _ | refine Grew.drew ?_)) hsb).trans hc
      clear hK K
      (try simp only [Act.put, List.setIfInBounds_toArray, List.set_cons_zero, List.set_cons_succ])
      refine heldCall 7 (by simp only [List.getElem?_toArray, List.getElem?_cons_succ, List.getElem?_cons_zero]; rfl) (by kernel_rfl) (fun K hK => ?_)
      go_simp
      refine (Q2.out _ _ _ (strs_one (by go_simp) hy)).mono ?_
      rintro e w1 ⟨rfl, rfl⟩
      go_wp2_with fail
      refine hK.out _ _ ?_ (fun hHeld => ?_)
      · exact (cell_grew (by repeat (first | exact Grew.refl _ | refine Grew.alloc ?_ _ | refine Grew.drew ?_)) hsb).trans hc
      clear hK K
      (try simp only [Act.put, List.setIfInBounds_toArray, List.set_cons_zero, List.set_cons_succ])
      refine heldCall 8 (by simp only [List.getElem?_toArray, List.getElem?_cons_succ, List.getElem?_cons_zero]; rfl) (by kernel_rfl) (fun K hK => ?_)
      go_simp
      refine (Q3.out _).mono ?_
      rintro e w1 ⟨rfl, rfl⟩
      go_wp2_with fail
      refine hK.out _ _ ?_ (fun hHeld => ?_)
      · exact (cell_grew (by repeat (first | exact Grew.refl _ | refine Grew.alloc ?_ _ | refine Grew.drew ?_)) hsb).trans hc
      clear hK K
      (try simp only [Act.put, List.setIfInBounds_toArray, List.set_cons_zero, List.set_cons_succ])
      refine heldCall 11 (by simp only [List.getElem?_toArray, List.getElem?_cons_succ, List.getElem?_cons_zero]; rfl) (by kernel_rfl) (fun K hK => ?_)
      go_simp
      refine (Q4.out _).mono ?_
      rintro e w1 ⟨rfl, rfl⟩
      go_wp2_with fail
      refine hK.out _ _ ?_ (fun hHeld => ?_)
      · exact (cell_grew (by repeat (first | exact Grew.refl _ | refine Grew.alloc ?_ _ | refine Grew.drew ?_)) hsb).trans hc
      clear hK K
      (try simp only [Act.put, List.setIfInBounds_toArray, List.set_cons_zero, List.set_cons_succ])
      refine heldCall 12 (by simp only [List.getElem?_toArray, List.getElem?_cons_succ, List.getElem?_cons_zero]; rfl) (by kernel_rfl) (fun K hK => ?_)
      go_simp
      refine hK.out _ _ ?_ (fun hHeld => ?_)
      · exact (cell_grew (by repeat (first | exact Grew.refl _ | refine Grew.alloc ?_ _ | refine Grew.drew ?_)) hsb).trans hc
      clear hK K
      (try simp only [Act.put, List.setIfInBounds_toArray, List.set_cons_zero, List.set_cons_succ])
      refine heldCall 13 (by simp only [List.getElem?_toArray, List.getElem?_cons_succ, List.getElem?_cons_zero]; rfl) (by kernel_rfl) (fun K hK => ?_)
      go_simp
      refine (Q5.out _ _ (fun j hj => ?_)).mono ?_
      · match j, hj with
        | 0, _ => go_simp
        | 1, _ => go_simp
      rintro e w1 ⟨rfl, rfl⟩
      go_wp2_with fail
      refine hK.out _ _ ?_ (fun hHeld => ?_)
      · exact (cell_grew (by repeat (first | exact Grew.refl _ | refine Grew.alloc ?_ _ | refine Grew.drew ?_)) hsb).trans hc
      clear hK K
      (try simp only [Act.put, List.setIfInBounds_toArray, List.set_cons_zero, List.set_cons_succ])
      refine heldTake 14 (v := ?_) (by simp only [List.getElem?_toArray, List.getElem?_cons_succ, List.getElem?_cons_zero]; rfl) (by kernel_rfl) (by intro _ _ _ h; exact h) (by rfl) (by assumption) ?_ ?_
      rotate_left
      · intro W hSw; (try dsimp only at hSw); go_simp; try with_reducible rfl
      simp only [Act.put, List.setIfInBounds_toArray, List.set_cons_zero, List.set_cons_succ]
      refine heldDone (by kernel_rfl) ?_ _
      go_wp2
      go_ret
      exact ⟨rfl, by repeat (first | exact Grew.refl _ | refine Grew.alloc ?_ _ | refine Grew.drew ?_)⟩
  · refine heldOp 6 (by simp only [List.getElem?_toArray, List.getElem?_cons_succ, List.getElem?_cons_zero]; rfl) (fun K hK => ?_)
    go_simp
    refine hK.out _ _ ?_ (fun hHeld => ?_)
    · exact (cell_grew (by repeat (first | exact Grew.refl _ | refine Grew.alloc ?_ _ | refine Grew.drew ?_)) hsb).trans hc
    clear hK K
    (try simp only [Act.put, List.setIfInBounds_toArray, List.set_cons_zero, List.set_cons_succ])
    refine heldCall 2 (by simp only [List.getElem?_toArray, List.getElem?_cons_succ, List.getElem?_cons_zero]; rfl) (by kernel_rfl) (fun K hK => ?_)
    go_simp
    refine hK.out _ _ ?_ (fun hHeld => ?_)
    · exact (cell_grew (by repeat (first | exact Grew.refl _ | refine Grew.alloc ?_ _ | refine Grew.drew ?_)) hsb).trans hc
    clear hK K
    (try simp only [Act.put, List.setIfInBounds_toArray, List.set_cons_zero, List.set_cons_succ])
    refine heldCall 3 (by simp only [List.getElem?_toArray, List.getElem?_cons_succ, List.getElem?_cons_zero]; rfl) (by kernel_rfl) (fun K hK => ?_)
    go_simp
    refine (Q1.out _ _ _ (strs_one (by go_simp) hx)).mono ?_
    rintro e w1 ⟨rfl, rfl⟩
    go_wp2_with fail
    refine hK.out _ _ ?_ (fun hHeld => ?_)
    · exact (cell_grew (by repeat (first | exact Grew.refl _ | refine Grew.alloc ?_ _ | refine Grew.drew ?_)) hsb).trans hc
    clear hK K
    (try simp only [Act.put, List.setIfInBounds_toArray, List.set_cons_zero, List.set_cons_succ])
    refine heldCall 7 (by simp only [List.getElem?_toArray, List.getElem?_cons_succ, List.getElem?_cons_zero]; rfl) (by kernel_rfl) (fun K hK => ?_)
    go_simp
    refine (Q2.out _ _ _ (strs_one (by go_simp) hy)).mono ?_
    rintro e w1 ⟨rfl, rfl⟩
    go_wp2_with fail
    refine hK.out _ _ ?_ (fun hHeld => ?_)
    · exact (cell_grew (by repeat (first | exact Grew.refl _ | refine Grew.alloc ?_ _ | refine Grew.drew ?_)) hsb).trans hc
    clear hK K
    (try simp only [Act.put, List.setIfInBounds_toArray, List.set_cons_zero, List.set_cons_succ])
    refine heldCall 8 (by simp only [List.getElem?_toArray, List.getElem?_cons_succ, List.getElem?_cons_zero]; rfl) (by kernel_rfl) (fun K hK => ?_)
    go_simp
    refine (Q3.out _).mono ?_
    rintro e w1 ⟨rfl, rfl⟩
    go_wp2_with fail
    refine hK.out _ _ ?_ (fun hHeld => ?_)
    · exact (cell_grew (by repeat (first | exact Grew.refl _ | refine Grew.alloc ?_ _ | refine Grew.drew ?_)) hsb).trans hc
    clear hK K
    (try simp only [Act.put, List.setIfInBounds_toArray, List.set_cons_zero, List.set_cons_succ])
    refine heldCall 11 (by simp only [List.getElem?_toArray, List.getElem?_cons_succ, List.getElem?_cons_zero]; rfl) (by kernel_rfl) (fun K hK => ?_)
    go_simp
    refine (Q4.out _).mono ?_
    rintro e w1 ⟨rfl, rfl⟩
    go_wp2_with fail
    refine hK.out _ _ ?_ (fun hHeld => ?_)
    · exact (cell_grew (by repeat (first | exact Grew.refl _ | refine Grew.alloc ?_ _ | refine Grew.drew ?_)) hsb).trans hc
    clear hK K
    (try simp only [Act.put, List.setIfInBounds_toArray, List.set_cons_zero, List.set_cons_succ])
    refine heldCall 12 (by simp only [List.getElem?_toArray, List.getElem?_cons_succ, List.getElem?_cons_zero]; rfl) (by kernel_rfl) (fun K hK => ?_)
    go_simp
    refine hK.out _ _ ?_ (fun hHeld => ?_)
    · exact (cell_grew (by repeat (first | exact Grew.refl _ | refine Grew.alloc ?_ _ | refine Grew.drew ?_)) hsb).trans hc
    clear hK K
    (try simp only [Act.put, List.setIfInBounds_toArray, List.set_cons_zero, List.set_cons_succ])
    refine heldCall 13 (by simp only [List.getElem?_toArray, List.getElem?_cons_succ, List.getElem?_cons_zero]; rfl) (by kernel_rfl) (fun K hK => ?_)
    go_simp
    refine (Q5.out _ _ (fun j hj => ?_)).mono ?_
    · match j, hj with
      | 0, _ => go_simp
      | 1, _ => go_simp
    rintro e w1 ⟨rfl, rfl⟩
    go_wp2_with fail
    refine hK.out _ _ ?_ (fun hHeld => ?_)
    · exact (cell_grew (by repeat (first | exact Grew.refl _ | refine Grew.alloc ?_ _ | refine Grew.drew ?_)) hsb).trans hc
    clear hK K
    (try simp only [Act.put, List.setIfInBounds_toArray, List.set_cons_zero, List.set_cons_succ])
    refine heldTake 14 (v := ?_) (by simp only [List.getElem?_toArray, List.getElem?_cons_succ, List.getElem?_cons_zero]; rfl) (by kernel_rfl) (by intro _ _ _ h; exact h) (by rfl) (by assumption) ?_ ?_
    rotate_left
    · intro W hSw; (try dsimp only at hSw); go_simp; try with_reducible rfl
    simp only [Act.put, List.setIfInBounds_toArray, List.set_cons_zero, List.set_cons_succ]
    refine heldDone (by kernel_rfl) ?_ _
    go_wp2
    go_ret
    exact ⟨rfl, by repeat (first | exact Grew.refl _ | refine Grew.alloc ?_ _ | refine Grew.drew ?_)⟩
end Go.Proofs.Ytpbaokhlhhpiiaa
