/- The walk of the statement RisingRatios. -/
import Derived.Test.YtbfjknpljkmgjaaRisE
namespace Go.Proofs.Ytbfjknpljkmgjaa
open Go.ChangeShapes Go.WideShapes Go.ChangeAt Go.RowKit Go.Shelf Go.Lib Go.Sort Go.Proofs
set_option linter.unusedVariables false
set_option linter.unusedSimpArgs false

theorem keep5 {W0 W : World} (h : Below W0.heap.size W0 W) {a b : Nat} (ha : a < W0.heap.size) (hb : b < W0.heap.size) {v0 v1 v2 v3 v4 : Option Value} (d0 : W0.cell? ⟨a, 0, none⟩ = v0) (d1 : W0.cell? ⟨a, 1, none⟩ = v1) (d2 : W0.cell? ⟨a, 2, none⟩ = v2) (d3 : W0.cell? ⟨b, 0, none⟩ = v3) (d4 : W0.cell? ⟨b, 1, none⟩ = v4) :
    W.cell? ⟨a, 0, none⟩ = v0 ∧ W.cell? ⟨a, 1, none⟩ = v1 ∧ W.cell? ⟨a, 2, none⟩ = v2 ∧ W.cell? ⟨b, 0, none⟩ = v3 ∧ W.cell? ⟨b, 1, none⟩ = v4 :=
  ⟨(h.cell (p := ⟨a, 0, none⟩) ha).trans d0, (h.cell (p := ⟨a, 1, none⟩) ha).trans d1, (h.cell (p := ⟨a, 2, none⟩) ha).trans d2, (h.cell (p := ⟨b, 0, none⟩) hb).trans d3, (h.cell (p := ⟨b, 1, none⟩) hb).trans d4⟩

set_option maxRecDepth 20000 in
set_option maxHeartbeats 2000000 in
theorem ratios_walk (k : ByteArray) (n o : Int) (o1 : o ≤ 9223372036854775807) (w : World) :
    Calls Try.prog 4 #[.agg #[.string k, .int .i64 n, .int .i64 o]] w fun e w' => e = .returned (.bool true) ∧ Below w.heap.size w w' := by
  have q := fun W => ratio_any k n o o1 W
  by_cases h1 : 0 ≤ n
  · by_cases h2 : 0 ≤ o
    · by_cases h3 : o < 9223372036854775807
      · have e1 : ratNum n o = n := if_neg (by omega)
        have e2 : ratDen n o = o + 1 := if_neg (by omega)
        rw [e1, e2] at q
        have Q := Lib.hid q
        have hself := eql_ratio (n) (o + 1) (n) (o + 1)
        have hs2 : (((n) : Int) == (n) && ((o + 1) : Int) == (o + 1)) = true := by simp
        rw [hs2] at hself
        clear q e1 e2 hs2
        go_enter Try.func4, Try.ntmps4
        go_wp2
        obtain ⟨W0, hW0⟩ : ∃ W0, W0 = (w.alloc (Obj.cells #[Value.string k, Value.int .i64 n, Value.int .i64 o] 34)).alloc (Obj.cells #[Value.int .i64 (n), Value.int .i64 (o + 1)] 36) := ⟨_, rfl⟩
        have d0 : W0.cell? ⟨w.heap.size, 0, none⟩ = some (.string k) := by rw [hW0]; simp
        have d1 : W0.cell? ⟨w.heap.size, 1, none⟩ = some (.int .i64 n) := by rw [hW0]; simp
        have d2 : W0.cell? ⟨w.heap.size, 2, none⟩ = some (.int .i64 o) := by rw [hW0]; simp
        have d3 : W0.cell? ⟨w.heap.size + 1, 0, none⟩ = some (.int .i64 (n)) := by rw [hW0]; simp
        have d4 : W0.cell? ⟨w.heap.size + 1, 1, none⟩ = some (.int .i64 (o + 1)) := by rw [hW0]; simp
        have hz0 : w.heap.size < W0.heap.size := by rw [hW0]; simp; omega
        have hz1 : w.heap.size + 1 < W0.heap.size := by rw [hW0]; simp
        have HG : Hid (Below w.heap.size w W0) := Lib.hid (by rw [hW0]; exact ((Below.refl _ _).alloc (Nat.le_refl _) _).alloc (by simp) _)
        rw [← hW0]
        clear hW0
        have hKe : Below W0.heap.size W0 W0.drew := (Below.refl _ _).drew
        refine heldStart 7 (S := fun W => W.cell? ⟨w.heap.size, 0, none⟩ = some (.string k) ∧ W.cell? ⟨w.heap.size, 1, none⟩ = some (.int .i64 n) ∧ W.cell? ⟨w.heap.size, 2, none⟩ = some (.int .i64 o) ∧ W.cell? ⟨w.heap.size + 1, 0, none⟩ = some (.int .i64 (n)) ∧ W.cell? ⟨w.heap.size + 1, 1, none⟩ = some (.int .i64 (o + 1))) (by kernel_rfl) ?_ (fun hHeld => ?_)
        · exact keep5 hKe hz0 hz1 d0 d1 d2 d3 d4
        refine heldTake 0 (v := ?_) (by simp only [List.getElem?_toArray, List.getElem?_cons_succ, List.getElem?_cons_zero]; rfl) (by kernel_rfl) (by intro _ _ _ h; exact h) (by rfl) (by assumption) ?_ ?_
        rotate_left
        · intro W hSw; (try dsimp only at hSw); go_simp; try with_reducible rfl
        simp only [Act.put, List.setIfInBounds_toArray, List.set_cons_zero, List.set_cons_succ]
        refine heldTake 2 (v := ?_) (by simp only [List.getElem?_toArray, List.getElem?_cons_succ, List.getElem?_cons_zero]; rfl) (by kernel_rfl) (by intro _ _ _ h; exact h) (by rfl) (by assumption) ?_ ?_
        rotate_left
        · intro W hSw; (try dsimp only at hSw); go_simp; try with_reducible rfl
        simp only [Act.put, List.setIfInBounds_toArray, List.set_cons_zero, List.set_cons_succ]
        refine heldCall 1 (by simp only [List.getElem?_toArray, List.getElem?_cons_succ, List.getElem?_cons_zero]; rfl) (by kernel_rfl) (fun K hK => ?_)
        go_simp
        refine (Q.out _).mono ?_
        rintro e w1 ⟨rfl, hg⟩
        have hK0 := hKe.trans (hg.below.mono hKe.size)
        clear hKe hg
        have hKe := hK0
        clear hK0
        go_wp2_with fail
        refine hK.out _ _ ?_ (fun hHeld => ?_)
        · exact keep5 hKe hz0 hz1 d0 d1 d2 d3 d4
        clear hK K
        (try simp only [Act.put, List.setIfInBounds_toArray, List.set_cons_zero, List.set_cons_succ])
        refine heldTake 3 (v := ?_) (by simp only [List.getElem?_toArray, List.getElem?_cons_succ, List.getElem?_cons_zero]; rfl) (by kernel_rfl) (by intro _ _ _ h; exact h) (by rfl) (by assumption) ?_ ?_
        rotate_left
        · intro W hSw; (try dsimp only at hSw); go_simp; try with_reducible rfl
        simp only [Act.put, List.setIfInBounds_toArray, List.set_cons_zero, List.set_cons_succ]
        refine heldTake 4 (v := ?_) (by simp only [List.getElem?_toArray, List.getElem?_cons_succ, List.getElem?_cons_zero]; rfl) (by kernel_rfl) (by intro _ _ _ h; exact h) (by rfl) (by assumption) ?_ ?_
        rotate_left
        · intro W hSw; (try dsimp only at hSw); go_simp; try with_reducible rfl
        simp only [Act.put, List.setIfInBounds_toArray, List.set_cons_zero, List.set_cons_succ]
        refine heldCall 5 (by simp only [List.getElem?_toArray, List.getElem?_cons_succ, List.getElem?_cons_zero]; rfl) (by kernel_rfl) (fun K hK => ?_)
        go_simp
        refine (awake_any _).mono ?_
        rintro e w2 ⟨rfl, hg⟩
        have hK0 := hKe.trans (hg.mono hKe.size)
        clear hKe hg
        have hKe := hK0
        clear hK0
        go_wp2_with fail
        refine hK.out _ _ ?_ (fun hHeld => ?_)
        · exact keep5 hKe hz0 hz1 d0 d1 d2 d3 d4
        clear hK K
        (try simp only [Act.put, List.setIfInBounds_toArray, List.set_cons_zero, List.set_cons_succ])
        refine heldTake 6 (v := ?_) (by simp only [List.getElem?_toArray, List.getElem?_cons_succ, List.getElem?_cons_zero]; rfl) (by kernel_rfl) (by intro _ _ _ h; exact h) (by rfl) (by assumption) ?_ ?_
        rotate_left
        · intro W hSw; (try dsimp only at hSw); go_simp; try with_reducible rfl
        simp only [Act.put, List.setIfInBounds_toArray, List.set_cons_zero, List.set_cons_succ]
        refine heldTake 7 (v := ?_) (by simp only [List.getElem?_toArray, List.getElem?_cons_succ, List.getElem?_cons_zero]; rfl) (by kernel_rfl) (by intro _ _ _ h; exact h) (by rfl) (by assumption) ?_ ?_
        rotate_left
        · intro W hSw; (try dsimp only at hSw); go_simp; try with_reducible rfl
        simp only [Act.put, List.setIfInBounds_toArray, List.set_cons_zero, List.set_cons_succ]
        refine heldDone (by kernel_rfl) ?_ _
        go_wp2
        go_ret
        exact ⟨rfl, HG.out.trans (hKe.mono (by omega))⟩
      · have e1 : ratNum n o = 0 := if_pos (by omega)
        have e2 : ratDen n o = 1 := if_pos (by omega)
        rw [e1, e2] at q
        have Q := Lib.hid q
        have hself := eql_ratio (0) (1) (0) (1)
        have hs2 : (((0) : Int) == (0) && ((1) : Int) == (1)) = true := by simp
        rw [hs2] at hself
        clear q e1 e2 hs2
        go_enter Try.func4, Try.ntmps4
        go_wp2
        obtain ⟨W0, hW0⟩ : ∃ W0, W0 = (w.alloc (Obj.cells #[Value.string k, Value.int .i64 n, Value.int .i64 o] 34)).alloc (Obj.cells #[Value.int .i64 (0), Value.int .i64 (1)] 36) := ⟨_, rfl⟩
        have d0 : W0.cell? ⟨w.heap.size, 0, none⟩ = some (.string k) := by rw [hW0]; simp
        have d1 : W0.cell? ⟨w.heap.size, 1, none⟩ = some (.int .i64 n) := by rw [hW0]; simp
        have d2 : W0.cell? ⟨w.heap.size, 2, none⟩ = some (.int .i64 o) := by rw [hW0]; simp
        have d3 : W0.cell? ⟨w.heap.size + 1, 0, none⟩ = some (.int .i64 (0)) := by rw [hW0]; simp
        have d4 : W0.cell? ⟨w.heap.size + 1, 1, none⟩ = some (.int .i64 (1)) := by rw [hW0]; simp
        have hz0 : w.heap.size < W0.heap.size := by rw [hW0]; simp; omega
        have hz1 : w.heap.size + 1 < W0.heap.size := by rw [hW0]; simp
        have HG : Hid (Below w.heap.size w W0) := Lib.hid (by rw [hW0]; exact ((Below.refl _ _).alloc (Nat.le_refl _) _).alloc (by simp) _)
        rw [← hW0]
        clear hW0
        have hKe : Below W0.heap.size W0 W0.drew := (Below.refl _ _).drew
        refine heldStart 7 (S := fun W => W.cell? ⟨w.heap.size, 0, none⟩ = some (.string k) ∧ W.cell? ⟨w.heap.size, 1, none⟩ = some (.int .i64 n) ∧ W.cell? ⟨w.heap.size, 2, none⟩ = some (.int .i64 o) ∧ W.cell? ⟨w.heap.size + 1, 0, none⟩ = some (.int .i64 (0)) ∧ W.cell? ⟨w.heap.size + 1, 1, none⟩ = some (.int .i64 (1))) (by kernel_rfl) ?_ (fun hHeld => ?_)
        · exact keep5 hKe hz0 hz1 d0 d1 d2 d3 d4
        refine heldTake 0 (v := ?_) (by simp only [List.getElem?_toArray, List.getElem?_cons_succ, List.getElem?_cons_zero]; rfl) (by kernel_rfl) (by intro _ _ _ h; exact h) (by rfl) (by assumption) ?_ ?_
        rotate_left
        · intro W hSw; (try dsimp only at hSw); go_simp; try with_reducible rfl
        simp only [Act.put, List.setIfInBounds_toArray, List.set_cons_zero, List.set_cons_succ]
        refine heldTake 2 (v := ?_) (by simp only [List.getElem?_toArray, List.getElem?_cons_succ, List.getElem?_cons_zero]; rfl) (by kernel_rfl) (by intro _ _ _ h; exact h) (by rfl) (by assumption) ?_ ?_
        rotate_left
        · intro W hSw; (try dsimp only at hSw); go_simp; try with_reducible rfl
        simp only [Act.put, List.setIfInBounds_toArray, List.set_cons_zero, List.set_cons_succ]
        refine heldCall 1 (by simp only [List.getElem?_toArray, List.getElem?_cons_succ, List.getElem?_cons_zero]; rfl) (by kernel_rfl) (fun K hK => ?_)
        go_simp
        refine (Q.out _).mono ?_
        rintro e w1 ⟨rfl, hg⟩
        have hK0 := hKe.trans (hg.below.mono hKe.size)
        clear hKe hg
        have hKe := hK0
        clear hK0
        go_wp2_with fail
        refine hK.out _ _ ?_ (fun hHeld => ?_)
        · exact keep5 hKe hz0 hz1 d0 d1 d2 d3 d4
        clear hK K
        (try simp only [Act.put, List.setIfInBounds_toArray, List.set_cons_zero, List.set_cons_succ])
        refine heldTake 3 (v := ?_) (by simp only [List.getElem?_toArray, List.getElem?_cons_succ, List.getElem?_cons_zero]; rfl) (by kernel_rfl) (by intro _ _ _ h; exact h) (by rfl) (by assumption) ?_ ?_
        rotate_left
        · intro W hSw; (try dsimp only at hSw); go_simp; try with_reducible rfl
        simp only [Act.put, List.setIfInBounds_toArray, List.set_cons_zero, List.set_cons_succ]
        refine heldTake 4 (v := ?_) (by simp only [List.getElem?_toArray, List.getElem?_cons_succ, List.getElem?_cons_zero]; rfl) (by kernel_rfl) (by intro _ _ _ h; exact h) (by rfl) (by assumption) ?_ ?_
        rotate_left
        · intro W hSw; (try dsimp only at hSw); go_simp; try with_reducible rfl
        simp only [Act.put, List.setIfInBounds_toArray, List.set_cons_zero, List.set_cons_succ]
        refine heldCall 5 (by simp only [List.getElem?_toArray, List.getElem?_cons_succ, List.getElem?_cons_zero]; rfl) (by kernel_rfl) (fun K hK => ?_)
        go_simp
        refine (awake_any _).mono ?_
        rintro e w2 ⟨rfl, hg⟩
        have hK0 := hKe.trans (hg.mono hKe.size)
        clear hKe hg
        have hKe := hK0
        clear hK0
        go_wp2_with fail
        refine hK.out _ _ ?_ (fun hHeld => ?_)
        · exact keep5 hKe hz0 hz1 d0 d1 d2 d3 d4
        clear hK K
        (try simp only [Act.put, List.setIfInBounds_toArray, List.set_cons_zero, List.set_cons_succ])
        refine heldTake 6 (v := ?_) (by simp only [List.getElem?_toArray, List.getElem?_cons_succ, List.getElem?_cons_zero]; rfl) (by kernel_rfl) (by intro _ _ _ h; exact h) (by rfl) (by assumption) ?_ ?_
        rotate_left
        · intro W hSw; (try dsimp only at hSw); go_simp; try with_reducible rfl
        simp only [Act.put, List.setIfInBounds_toArray, List.set_cons_zero, List.set_cons_succ]
        refine heldTake 7 (v := ?_) (by simp only [List.getElem?_toArray, List.getElem?_cons_succ, List.getElem?_cons_zero]; rfl) (by kernel_rfl) (by intro _ _ _ h; exact h) (by rfl) (by assumption) ?_ ?_
        rotate_left
        · intro W hSw; (try dsimp only at hSw); go_simp; try with_reducible rfl
        simp only [Act.put, List.setIfInBounds_toArray, List.set_cons_zero, List.set_cons_succ]
        refine heldDone (by kernel_rfl) ?_ _
        go_wp2
        go_ret
        exact ⟨rfl, HG.out.trans (hKe.mono (by omega))⟩
    · have e1 : ratNum n o = 0 := if_pos (by omega)
      have e2 : ratDen n o = 1 := if_pos (by omega)
      rw [e1, e2] at q
      have Q := Lib.hid q
      have hself := eql_ratio (0) (1) (0) (1)
      have hs2 : (((0) : Int) == (0) && ((1) : Int) == (1)) = true := by simp
      rw [hs2] at hself
      clear q e1 e2 hs2
      go_enter Try.func4, Try.ntmps4
      go_wp2
      obtain ⟨W0, hW0⟩ : ∃ W0, W0 = (w.alloc (Obj.cells #[Value.string k, Value.int .i64 n, Value.int .i64 o] 34)).alloc (Obj.cells #[Value.int .i64 (0), Value.int .i64 (1)] 36) := ⟨_, rfl⟩
      have d0 : W0.cell? ⟨w.heap.size, 0, none⟩ = some (.string k) := by rw [hW0]; simp
      have d1 : W0.cell? ⟨w.heap.size, 1, none⟩ = some (.int .i64 n) := by rw [hW0]; simp
      have d2 : W0.cell? ⟨w.heap.size, 2, none⟩ = some (.int .i64 o) := by rw [hW0]; simp
      have d3 : W0.cell? ⟨w.heap.size + 1, 0, none⟩ = some (.int .i64 (0)) := by rw [hW0]; simp
      have d4 : W0.cell? ⟨w.heap.size + 1, 1, none⟩ = some (.int .i64 (1)) := by rw [hW0]; simp
      have hz0 : w.heap.size < W0.heap.size := by rw [hW0]; simp; omega
      have hz1 : w.heap.size + 1 < W0.heap.size := by rw [hW0]; simp
      have HG : Hid (Below w.heap.size w W0) := Lib.hid (by rw [hW0]; exact ((Below.refl _ _).alloc (Nat.le_refl _) _).alloc (by simp) _)
      rw [← hW0]
      clear hW0
      have hKe : Below W0.heap.size W0 W0.drew := (Below.refl _ _).drew
      refine heldStart 7 (S := fun W => W.cell? ⟨w.heap.size, 0, none⟩ = some (.string k) ∧ W.cell? ⟨w.heap.size, 1, none⟩ = some (.int .i64 n) ∧ W.cell? ⟨w.heap.size, 2, none⟩ = some (.int .i64 o) ∧ W.cell? ⟨w.heap.size + 1, 0, none⟩ = some (.int .i64 (0)) ∧ W.cell? ⟨w.heap.size + 1, 1, none⟩ = some (.int .i64 (1))) (by kernel_rfl) ?_ (fun hHeld => ?_)
      · exact keep5 hKe hz0 hz1 d0 d1 d2 d3 d4
      refine heldTake 0 (v := ?_) (by simp only [List.getElem?_toArray, List.getElem?_cons_succ, List.getElem?_cons_zero]; rfl) (by kernel_rfl) (by intro _ _ _ h; exact h) (by rfl) (by assumption) ?_ ?_
      rotate_left
      · intro W hSw; (try dsimp only at hSw); go_simp; try with_reducible rfl
      simp only [Act.put, List.setIfInBounds_toArray, List.set_cons_zero, List.set_cons_succ]
      refine heldTake 2 (v := ?_) (by simp only [List.getElem?_toArray, List.getElem?_cons_succ, List.getElem?_cons_zero]; rfl) (by kernel_rfl) (by intro _ _ _ h; exact h) (by rfl) (by assumption) ?_ ?_
      rotate_left
      · intro W hSw; (try dsimp only at hSw); go_simp; try with_reducible rfl
      simp only [Act.put, List.setIfInBounds_toArray, List.set_cons_zero, List.set_cons_succ]
      refine heldCall 1 (by simp only [List.getElem?_toArray, List.getElem?_cons_succ, List.getElem?_cons_zero]; rfl) (by kernel_rfl) (fun K hK => ?_)
      go_simp
      refine (Q.out _).mono ?_
      rintro e w1 ⟨rfl, hg⟩
      have hK0 := hKe.trans (hg.below.mono hKe.size)
      clear hKe hg
      have hKe := hK0
      clear hK0
      go_wp2_with fail
      refine hK.out _ _ ?_ (fun hHeld => ?_)
      · exact keep5 hKe hz0 hz1 d0 d1 d2 d3 d4
      clear hK K
      (try simp only [Act.put, List.setIfInBounds_toArray, List.set_cons_zero, List.set_cons_succ])
      refine heldTake 3 (v := ?_) (by simp only [List.getElem?_toArray, List.getElem?_cons_succ, List.getElem?_cons_zero]; rfl) (by kernel_rfl) (by intro _ _ _ h; exact h) (by rfl) (by assumption) ?_ ?_
      rotate_left
      · intro W hSw; (try dsimp only at hSw); go_simp; try with_reducible rfl
      simp only [Act.put, List.setIfInBounds_toArray, List.set_cons_zero, List.set_cons_succ]
      refine heldTake 4 (v := ?_) (by simp only [List.getElem?_toArray, List.getElem?_cons_succ, List.getElem?_cons_zero]; rfl) (by kernel_rfl) (by intro _ _ _ h; exact h) (by rfl) (by assumption) ?_ ?_
      rotate_left
      · intro W hSw; (try dsimp only at hSw); go_simp; try with_reducible rfl
      simp only [Act.put, List.setIfInBounds_toArray, List.set_cons_zero, List.set_cons_succ]
      refine heldCall 5 (by simp only [List.getElem?_toArray, List.getElem?_cons_succ, List.getElem?_cons_zero]; rfl) (by kernel_rfl) (fun K hK => ?_)
      go_simp
      refine (awake_any _).mono ?_
      rintro e w2 ⟨rfl, hg⟩
      have hK0 := hKe.trans (hg.mono hKe.size)
      clear hKe hg
      have hKe := hK0
      clear hK0
      go_wp2_with fail
      refine hK.out _ _ ?_ (fun hHeld => ?_)
      · exact keep5 hKe hz0 hz1 d0 d1 d2 d3 d4
      clear hK K
      (try simp only [Act.put, List.setIfInBounds_toArray, List.set_cons_zero, List.set_cons_succ])
      refine heldTake 6 (v := ?_) (by simp only [List.getElem?_toArray, List.getElem?_cons_succ, List.getElem?_cons_zero]; rfl) (by kernel_rfl) (by intro _ _ _ h; exact h) (by rfl) (by assumption) ?_ ?_
      rotate_left
      · intro W hSw; (try dsimp only at hSw); go_simp; try with_reducible rfl
      simp only [Act.put, List.setIfInBounds_toArray, List.set_cons_zero, List.set_cons_succ]
      refine heldTake 7 (v := ?_) (by simp only [List.getElem?_toArray, List.getElem?_cons_succ, List.getElem?_cons_zero]; rfl) (by kernel_rfl) (by intro _ _ _ h; exact h) (by rfl) (by assumption) ?_ ?_
      rotate_left
      · intro W hSw; (try dsimp only at hSw); go_simp; try with_reducible rfl
      simp only [Act.put, List.setIfInBounds_toArray, List.set_cons_zero, List.set_cons_succ]
      refine heldDone (by kernel_rfl) ?_ _
      go_wp2
      go_ret
      exact ⟨rfl, HG.out.trans (hKe.mono (by omega))⟩
  · have e1 : ratNum n o = 0 := if_pos (by omega)
    have e2 : ratDen n o = 1 := if_pos (by omega)
    rw [e1, e2] at q
    have Q := Lib.hid q
    have hself := eql_ratio (0) (1) (0) (1)
    have hs2 : (((0) : Int) == (0) && ((1) : Int) == (1)) = true := by simp
    rw [hs2] at hself
    clear q e1 e2 hs2
    go_enter Try.func4, Try.ntmps4
    go_wp2
    obtain ⟨W0, hW0⟩ : ∃ W0, W0 = (w.alloc (Obj.cells #[Value.string k, Value.int .i64 n, Value.int .i64 o] 34)).alloc (Obj.cells #[Value.int .i64 (0), Value.int .i64 (1)] 36) := ⟨_, rfl⟩
    have d0 : W0.cell? ⟨w.heap.size, 0, none⟩ = some (.string k) := by rw [hW0]; simp
    have d1 : W0.cell? ⟨w.heap.size, 1, none⟩ = some (.int .i64 n) := by rw [hW0]; simp
    have d2 : W0.cell? ⟨w.heap.size, 2, none⟩ = some (.int .i64 o) := by rw [hW0]; simp
    have d3 : W0.cell? ⟨w.heap.size + 1, 0, none⟩ = some (.int .i64 (0)) := by rw [hW0]; simp
    have d4 : W0.cell? ⟨w.heap.size + 1, 1, none⟩ = some (.int .i64 (1)) := by rw [hW0]; simp
    have hz0 : w.heap.size < W0.heap.size := by rw [hW0]; simp; omega
    have hz1 : w.heap.size + 1 < W0.heap.size := by rw [hW0]; simp
    have HG : Hid (Below w.heap.size w W0) := Lib.hid (by rw [hW0]; exact ((Below.refl _ _).alloc (Nat.le_refl _) _).alloc (by simp) _)
    rw [← hW0]
    clear hW0
    have hKe : Below W0.heap.size W0 W0.drew := (Below.refl _ _).drew
    refine heldStart 7 (S := fun W => W.cell? ⟨w.heap.size, 0, none⟩ = some (.string k) ∧ W.cell? ⟨w.heap.size, 1, none⟩ = some (.int .i64 n) ∧ W.cell? ⟨w.heap.size, 2, none⟩ = some (.int .i64 o) ∧ W.cell? ⟨w.heap.size + 1, 0, none⟩ = some (.int .i64 (0)) ∧ W.cell? ⟨w.heap.size + 1, 1, none⟩ = some (.int .i64 (1))) (by kernel_rfl) ?_ (fun hHeld => ?_)
    · exact keep5 hKe hz0 hz1 d0 d1 d2 d3 d4
    refine heldTake 0 (v := ?_) (by simp only [List.getElem?_toArray, List.getElem?_cons_succ, List.getElem?_cons_zero]; rfl) (by kernel_rfl) (by intro _ _ _ h; exact h) (by rfl) (by assumption) ?_ ?_
    rotate_left
    · intro W hSw; (try dsimp only at hSw); go_simp; try with_reducible rfl
    simp only [Act.put, List.setIfInBounds_toArray, List.set_cons_zero, List.set_cons_succ]
    refine heldTake 2 (v := ?_) (by simp only [List.getElem?_toArray, List.getElem?_cons_succ, List.getElem?_cons_zero]; rfl) (by kernel_rfl) (by intro _ _ _ h; exact h) (by rfl) (by assumption) ?_ ?_
    rotate_left
    · intro W hSw; (try dsimp only at hSw); go_simp; try with_reducible rfl
    simp only [Act.put, List.setIfInBounds_toArray, List.set_cons_zero, List.set_cons_succ]
    refine heldCall 1 (by simp only [List.getElem?_toArray, List.getElem?_cons_succ, List.getElem?_cons_zero]; rfl) (by kernel_rfl) (fun K hK => ?_)
    go_simp
    refine (Q.out _).mono ?_
    rintro e w1 ⟨rfl, hg⟩
    have hK0 := hKe.trans (hg.below.mono hKe.size)
    clear hKe hg
    have hKe := hK0
    clear hK0
    go_wp2_with fail
    refine hK.out _ _ ?_ (fun hHeld => ?_)
    · exact keep5 hKe hz0 hz1 d0 d1 d2 d3 d4
    clear hK K
    (try simp only [Act.put, List.setIfInBounds_toArray, List.set_cons_zero, List.set_cons_succ])
    refine heldTake 3 (v := ?_) (by simp only [List.getElem?_toArray, List.getElem?_cons_succ, List.getElem?_cons_zero]; rfl) (by kernel_rfl) (by intro _ _ _ h; exact h) (by rfl) (by assumption) ?_ ?_
    rotate_left
    · intro W hSw; (try dsimp only at hSw); go_simp; try with_reducible rfl
    simp only [Act.put, List.setIfInBounds_toArray, List.set_cons_zero, List.set_cons_succ]
    refine heldTake 4 (v := ?_) (by simp only [List.getElem?_toArray, List.getElem?_cons_succ, List.getElem?_cons_zero]; rfl) (by kernel_rfl) (by intro _ _ _ h; exact h) (by rfl) (by assumption) ?_ ?_
    rotate_left
    · intro W hSw; (try dsimp only at hSw); go_simp; try with_reducible rfl
    simp only [Act.put, List.setIfInBounds_toArray, List.set_cons_zero, List.set_cons_succ]
    refine heldCall 5 (by simp only [List.getElem?_toArray, List.getElem?_cons_succ, List.getElem?_cons_zero]; rfl) (by kernel_rfl) (fun K hK => ?_)
    go_simp
    refine (awake_any _).mono ?_
    rintro e w2 ⟨rfl, hg⟩
    have hK0 := hKe.trans (hg.mono hKe.size)
    clear hKe hg
    have hKe := hK0
    clear hK0
    go_wp2_with fail
    refine hK.out _ _ ?_ (fun hHeld => ?_)
    · exact keep5 hKe hz0 hz1 d0 d1 d2 d3 d4
    clear hK K
    (try simp only [Act.put, List.setIfInBounds_toArray, List.set_cons_zero, List.set_cons_succ])
    refine heldTake 6 (v := ?_) (by simp only [List.getElem?_toArray, List.getElem?_cons_succ, List.getElem?_cons_zero]; rfl) (by kernel_rfl) (by intro _ _ _ h; exact h) (by rfl) (by assumption) ?_ ?_
    rotate_left
    · intro W hSw; (try dsimp only at hSw); go_simp; try with_reducible rfl
    simp only [Act.put, List.setIfInBounds_toArray, List.set_cons_zero, List.set_cons_succ]
    refine heldTake 7 (v := ?_) (by simp only [List.getElem?_toArray, List.getElem?_cons_succ, List.getElem?_cons_zero]; rfl) (by kernel_rfl) (by intro _ _ _ h; exact h) (by rfl) (by assumption) ?_ ?_
    rotate_left
    · intro W hSw; (try dsimp only at hSw); go_simp; try with_reducible rfl
    simp only [Act.put, List.setIfInBounds_toArray, List.set_cons_zero, List.set_cons_succ]
    refine heldDone (by kernel_rfl) ?_ _
    go_wp2
    go_ret
    exact ⟨rfl, HG.out.trans (hKe.mono (by omega))⟩
end Go.Proofs.Ytbfjknpljkmgjaa
