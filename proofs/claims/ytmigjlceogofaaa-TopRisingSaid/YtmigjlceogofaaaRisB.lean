/- The comparison that rising.Of sorts by. -/
import Derived.Test.YtmigjlceogofaaaRisA
namespace Go.Proofs.Ytmigjlceogofaaa
open Go.ChangeShapes Go.WideShapes Go.ChangeAt Go.RowKit Go.Shelf Go.Lib Go.Sort Go.Proofs
set_option linter.unusedVariables false
set_option linter.unusedSimpArgs false

theorem keep6 {W0 W : World} (h : Grew W0 W) {a b : Nat} (ha : a < W0.heap.size) (hb : b < W0.heap.size) {v0 v1 v2 v3 v4 v5 : Option Value} (d0 : W0.cell? ⟨a, 0, none⟩ = v0) (d1 : W0.cell? ⟨a, 1, none⟩ = v1) (d2 : W0.cell? ⟨a, 2, none⟩ = v2) (d3 : W0.cell? ⟨b, 0, none⟩ = v3) (d4 : W0.cell? ⟨b, 1, none⟩ = v4) (d5 : W0.cell? ⟨b, 2, none⟩ = v5) :
    W.cell? ⟨a, 0, none⟩ = v0 ∧ W.cell? ⟨a, 1, none⟩ = v1 ∧ W.cell? ⟨a, 2, none⟩ = v2 ∧ W.cell? ⟨b, 0, none⟩ = v3 ∧ W.cell? ⟨b, 1, none⟩ = v4 ∧ W.cell? ⟨b, 2, none⟩ = v5 :=
  ⟨(h.below.cell (p := ⟨a, 0, none⟩) ha).trans d0, (h.below.cell (p := ⟨a, 1, none⟩) ha).trans d1, (h.below.cell (p := ⟨a, 2, none⟩) ha).trans d2, (h.below.cell (p := ⟨b, 0, none⟩) hb).trans d3, (h.below.cell (p := ⟨b, 1, none⟩) hb).trans d4, (h.below.cell (p := ⟨b, 2, none⟩) hb).trans d5⟩

set_option maxRecDepth 20000 in
set_option maxHeartbeats 2000000 in
theorem rcmp_any (kx ky : ByteArray) (nx ox ny oy : Int) (hx : RiseOk ⟨kx, nx, ox⟩) (hy : RiseOk ⟨ky, ny, oy⟩) (w : World) :
    Calls Try.prog 75 #[.agg #[.string kx, .int .i64 nx, .int .i64 ox], .agg #[.string ky, .int .i64 ny, .int .i64 oy]] w fun e w' => e = .returned (.int .i64 (riseCmp ⟨kx, nx, ox⟩ ⟨ky, ny, oy⟩)) ∧ Grew w w' := by
  unfold riseCmp
  simp only [RiseOk] at *
  have q1 := fun W => ratio_any ky ny oy (by omega) W
  have q2 := fun W => ratio_any kx nx ox (by omega) W
  rw [ratNum_ok (by omega) (by omega) (by omega), ratDen_ok (by omega) (by omega) (by omega)] at q1 q2
  have q3 := fun W => compare_any ny (oy + 1) nx (ox + 1) (by omega) (by omega) (by omega) (by omega) (by omega) (by omega) (by omega) (by omega) W
  generalize cmpInt (ny * (ox + 1)) (nx * (oy + 1)) = d1 at *
  have q4 := fun W => cmpI_any ny nx W
  generalize cmpInt ny nx = d2 at *
  have q5 := fun W => cmpS_any kx ky W
  generalize cmpStr kx ky = d3 at *
  have q6 := fun b W h => or_any b 0 3 [d1, d2, d3] W (by simp) h
  generalize orV [d1, d2, d3] = r at *
  have Q1 := Lib.hid q1
  have Q2 := Lib.hid q2
  have Q3 := Lib.hid q3
  have Q4 := Lib.hid q4
  have Q5 := Lib.hid q5
  have Q6 := Lib.hid q6
  clear q1 q2 q3 q4 q5 q6 hx hy
  go_enter Try.func75, Try.ntmps75
  go_wp2
  obtain ⟨W0, hW0⟩ : ∃ W0, W0 = (w.alloc (Obj.cells #[Value.string kx, Value.int .i64 nx, Value.int .i64 ox] 70)).alloc (Obj.cells #[Value.string ky, Value.int .i64 ny, Value.int .i64 oy] 70) := ⟨_, rfl⟩
  have d0 : W0.cell? ⟨w.heap.size, 0, none⟩ = some (.string kx) := by rw [hW0]; simp
  have d1' : W0.cell? ⟨w.heap.size, 1, none⟩ = some (.int .i64 nx) := by rw [hW0]; simp
  have d2' : W0.cell? ⟨w.heap.size, 2, none⟩ = some (.int .i64 ox) := by rw [hW0]; simp
  have d3' : W0.cell? ⟨w.heap.size + 1, 0, none⟩ = some (.string ky) := by rw [hW0]; simp
  have d4 : W0.cell? ⟨w.heap.size + 1, 1, none⟩ = some (.int .i64 ny) := by rw [hW0]; simp
  have d5 : W0.cell? ⟨w.heap.size + 1, 2, none⟩ = some (.int .i64 oy) := by rw [hW0]; simp
  have hz0 : w.heap.size < W0.heap.size := by rw [hW0]; simp; omega
  have hz1 : w.heap.size + 1 < W0.heap.size := by rw [hW0]; simp
  have HG : Hid (Grew w W0) := Lib.hid (by rw [hW0]; exact ((Grew.refl _).alloc _).alloc _)
  rw [← hW0]
  clear hW0
  have hKe : Grew W0 W0.drew := (Grew.refl _).drew
  refine heldStart 17 (S := fun W => W.cell? ⟨w.heap.size, 0, none⟩ = some (.string kx) ∧ W.cell? ⟨w.heap.size, 1, none⟩ = some (.int .i64 nx) ∧ W.cell? ⟨w.heap.size, 2, none⟩ = some (.int .i64 ox) ∧ W.cell? ⟨w.heap.size + 1, 0, none⟩ = some (.string ky) ∧ W.cell? ⟨w.heap.size + 1, 1, none⟩ = some (.int .i64 ny) ∧ W.cell? ⟨w.heap.size + 1, 2, none⟩ = some (.int .i64 oy)) (by kernel_rfl) ?_ (fun hHeld => ?_)
  · exact keep6 (by first | exact hKe | exact hKe.alloc _) hz0 hz1 d0 d1' d2' d3' d4 d5
  refine heldTake 0 (v := ?_) (by simp only [List.getElem?_toArray, List.getElem?_cons_succ, List.getElem?_cons_zero]; rfl) (by kernel_rfl) (by intro _ _ _ h; exact h) (by rfl) (by assumption) ?_ ?_
  rotate_left
  · intro W hSw; (try dsimp only at hSw); go_simp; try with_reducible rfl
  simp only [Act.put, List.setIfInBounds_toArray, List.set_cons_zero, List.set_cons_succ]
  refine heldTake 2 (v := ?_) (by simp only [List.getElem?_toArray, List.getElem?_cons_succ, List.getElem?_cons_zero]; rfl) (by kernel_rfl) (by intro _ _ _ h; exact h) (by rfl) (by assumption) ?_ ?_
  rotate_left
  · intro W hSw; (try dsimp only at hSw); go_simp; try with_reducible rfl
  simp only [Act.put, List.setIfInBounds_toArray, List.set_cons_zero, List.set_cons_succ]
  refine heldTake 5 (v := ?_) (by simp only [List.getElem?_toArray, List.getElem?_cons_succ, List.getElem?_cons_zero]; rfl) (by kernel_rfl) (by intro _ _ _ h; exact h) (by rfl) (by assumption) ?_ ?_
  rotate_left
  · intro W hSw; (try dsimp only at hSw); go_simp; try with_reducible rfl
  simp only [Act.put, List.setIfInBounds_toArray, List.set_cons_zero, List.set_cons_succ]
  refine heldTake 6 (v := ?_) (by simp only [List.getElem?_toArray, List.getElem?_cons_succ, List.getElem?_cons_zero]; rfl) (by kernel_rfl) (by intro _ _ _ h; exact h) (by rfl) (by assumption) ?_ ?_
  rotate_left
  · intro W hSw; (try dsimp only at hSw); go_simp; try with_reducible rfl
  simp only [Act.put, List.setIfInBounds_toArray, List.set_cons_zero, List.set_cons_succ]
  refine heldTake 7 (v := ?_) (by simp only [List.getElem?_toArray, List.getElem?_cons_succ, List.getElem?_cons_zero]; rfl) (by kernel_rfl) (by intro _ _ _ h; exact h) (by rfl) (by assumption) ?_ ?_
  rotate_left
  · intro W hSw; (try dsimp only at hSw); go_simp; try with_reducible rfl
  simp only [Act.put, List.setIfInBounds_toArray, List.set_cons_zero, List.set_cons_succ]
  refine heldTake 8 (v := ?_) (by simp only [List.getElem?_toArray, List.getElem?_cons_succ, List.getElem?_cons_zero]; rfl) (by kernel_rfl) (by intro _ _ _ h; exact h) (by rfl) (by assumption) ?_ ?_
  rotate_left
  · intro W hSw; (try dsimp only at hSw); go_simp; try with_reducible rfl
  simp only [Act.put, List.setIfInBounds_toArray, List.set_cons_zero, List.set_cons_succ]
  refine heldTake 10 (v := ?_) (by simp only [List.getElem?_toArray, List.getElem?_cons_succ, List.getElem?_cons_zero]; rfl) (by kernel_rfl) (by intro _ _ _ h; exact h) (by rfl) (by assumption) ?_ ?_
  rotate_left
  · intro W hSw; (try dsimp only at hSw); go_simp; try with_reducible rfl
  simp only [Act.put, List.setIfInBounds_toArray, List.set_cons_zero, List.set_cons_succ]
  refine heldTake 11 (v := ?_) (by simp only [List.getElem?_toArray, List.getElem?_cons_succ, List.getElem?_cons_zero]; rfl) (by kernel_rfl) (by intro _ _ _ h; exact h) (by rfl) (by assumption) ?_ ?_
  rotate_left
  · intro W hSw; (try dsimp only at hSw); go_simp; try with_reducible rfl
  simp only [Act.put, List.setIfInBounds_toArray, List.set_cons_zero, List.set_cons_succ]
  refine heldTake 12 (v := ?_) (by simp only [List.getElem?_toArray, List.getElem?_cons_succ, List.getElem?_cons_zero]; rfl) (by kernel_rfl) (by intro _ _ _ h; exact h) (by rfl) (by assumption) ?_ ?_
  rotate_left
  · intro W hSw; (try dsimp only at hSw); go_simp; try with_reducible rfl
  simp only [Act.put, List.setIfInBounds_toArray, List.set_cons_zero, List.set_cons_succ]
  refine heldTake 13 (v := ?_) (by simp only [List.getElem?_toArray, List.getElem?_cons_succ, List.getElem?_cons_zero]; rfl) (by kernel_rfl) (by intro _ _ _ h; exact h) (by rfl) (by assumption) ?_ ?_
  rotate_left
  · intro W hSw; (try dsimp only at hSw); go_simp; try with_reducible rfl
  simp only [Act.put, List.setIfInBounds_toArray, List.set_cons_zero, List.set_cons_succ]
  refine heldCall 1 (by simp only [List.getElem?_toArray, List.getElem?_cons_succ, List.getElem?_cons_zero]; rfl) (by kernel_rfl) (fun K hK => ?_)
  go_simp
  refine (Q1.out _).mono ?_
  rintro e w1 ⟨rfl, hg⟩
  have hK0 := hKe.trans hg
  clear hKe hg
  have hKe := hK0
  clear hK0
  go_wp2_with fail
  refine hK.out _ _ ?_ (fun hHeld => ?_)
  · exact keep6 (by first | exact hKe | exact hKe.alloc _) hz0 hz1 d0 d1' d2' d3' d4 d5
  clear hK K
  (try simp only [Act.put, List.setIfInBounds_toArray, List.set_cons_zero, List.set_cons_succ])
  refine heldCall 3 (by simp only [List.getElem?_toArray, List.getElem?_cons_succ, List.getElem?_cons_zero]; rfl) (by kernel_rfl) (fun K hK => ?_)
  go_simp
  refine (Q2.out _).mono ?_
  rintro e w2 ⟨rfl, hg⟩
  have hK0 := hKe.trans hg
  clear hKe hg
  have hKe := hK0
  clear hK0
  go_wp2_with fail
  refine hK.out _ _ ?_ (fun hHeld => ?_)
  · exact keep6 (by first | exact hKe | exact hKe.alloc _) hz0 hz1 d0 d1' d2' d3' d4 d5
  clear hK K
  (try simp only [Act.put, List.setIfInBounds_toArray, List.set_cons_zero, List.set_cons_succ])
  refine heldCall 4 (by simp only [List.getElem?_toArray, List.getElem?_cons_succ, List.getElem?_cons_zero]; rfl) (by kernel_rfl) (fun K hK => ?_)
  go_simp
  refine (Q3.out _).mono ?_
  rintro e w3 ⟨rfl, hg⟩
  have hK0 := hKe.trans hg
  clear hKe hg
  have hKe := hK0
  clear hK0
  go_wp2_with fail
  refine hK.out _ _ ?_ (fun hHeld => ?_)
  · exact keep6 (by first | exact hKe | exact hKe.alloc _) hz0 hz1 d0 d1' d2' d3' d4 d5
  clear hK K
  (try simp only [Act.put, List.setIfInBounds_toArray, List.set_cons_zero, List.set_cons_succ])
  refine heldCall 9 (by simp only [List.getElem?_toArray, List.getElem?_cons_succ, List.getElem?_cons_zero]; rfl) (by kernel_rfl) (fun K hK => ?_)
  go_simp
  refine (Q4.out _).mono ?_
  rintro e w4 ⟨rfl, rfl⟩
  go_wp2_with fail
  refine hK.out _ _ ?_ (fun hHeld => ?_)
  · exact keep6 (by first | exact hKe | exact hKe.alloc _) hz0 hz1 d0 d1' d2' d3' d4 d5
  clear hK K
  (try simp only [Act.put, List.setIfInBounds_toArray, List.set_cons_zero, List.set_cons_succ])
  refine heldCall 14 (by simp only [List.getElem?_toArray, List.getElem?_cons_succ, List.getElem?_cons_zero]; rfl) (by kernel_rfl) (fun K hK => ?_)
  go_simp
  refine (Q5.out _).mono ?_
  rintro e w5 ⟨rfl, rfl⟩
  go_wp2_with fail
  refine hK.out _ _ ?_ (fun hHeld => ?_)
  · exact keep6 (by first | exact hKe | exact hKe.alloc _) hz0 hz1 d0 d1' d2' d3' d4 d5
  clear hK K
  (try simp only [Act.put, List.setIfInBounds_toArray, List.set_cons_zero, List.set_cons_succ])
  refine heldCall 15 (by simp only [List.getElem?_toArray, List.getElem?_cons_succ, List.getElem?_cons_zero]; rfl) (by kernel_rfl) (fun K hK => ?_)
  go_simp
  refine hK.out _ _ ?_ (fun hHeld => ?_)
  · exact keep6 (by first | exact hKe | exact hKe.alloc _) hz0 hz1 d0 d1' d2' d3' d4 d5
  clear hK K
  (try simp only [Act.put, List.setIfInBounds_toArray, List.set_cons_zero, List.set_cons_succ])
  refine heldCall 16 (by simp only [List.getElem?_toArray, List.getElem?_cons_succ, List.getElem?_cons_zero]; rfl) (by kernel_rfl) (fun K hK => ?_)
  go_simp
  refine (Q6.out _ _ (fun j hj => ?_)).mono ?_
  · match j, hj with
    | 0, _ => go_simp
    | 1, _ => go_simp
    | 2, _ => go_simp
  rintro e w6 ⟨rfl, rfl⟩
  go_wp2_with fail
  refine hK.out _ _ ?_ (fun hHeld => ?_)
  · exact keep6 (by first | exact hKe | exact hKe.alloc _) hz0 hz1 d0 d1' d2' d3' d4 d5
  clear hK K
  (try simp only [Act.put, List.setIfInBounds_toArray, List.set_cons_zero, List.set_cons_succ])
  refine heldTake 17 (v := ?_) (by simp only [List.getElem?_toArray, List.getElem?_cons_succ, List.getElem?_cons_zero]; rfl) (by kernel_rfl) (by intro _ _ _ h; exact h) (by rfl) (by assumption) ?_ ?_
  rotate_left
  · intro W hSw; (try dsimp only at hSw); go_simp; try with_reducible rfl
  simp only [Act.put, List.setIfInBounds_toArray, List.set_cons_zero, List.set_cons_succ]
  refine heldDone (by kernel_rfl) ?_ _
  go_wp2
  go_ret
  exact ⟨rfl, HG.out.trans (by first | exact hKe | exact hKe.alloc _)⟩
end Go.Proofs.Ytmigjlceogofaaa
