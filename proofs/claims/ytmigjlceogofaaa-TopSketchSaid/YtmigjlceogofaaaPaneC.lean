/- Contract of (*pane.Panes).put: the walk. -/
import Derived.Test.YtmigjlceogofaaaPaneB
namespace Go.Proofs.Ytmigjlceogofaaa
open Go.ChangeShapes Go.WideShapes Go.ChangeAt Go.RowKit
set_option linter.unusedVariables false
set_option linter.unusedSimpArgs false

theorem look_sum {W : World} {bs : Nat} {S : SumsL} (h : MapIs W cellKf intVf cellOk bs S) {key : ByteArray} {q : Int} (hok : cellOk (key, q)) :
    (Instr.lookup 142 (.map (some bs)) (.agg #[.string key, .int .i64 q]) false).run Try.prog W = .ok (.int .i64 (val S (key, q))) W := by
  have := h.look cellKey Try.underlying142 zero_i64 hok
  have e : ((mget S (key, q)).map intVf).getD (.int .i64 0) = .int .i64 (val S (key, q)) := by
    unfold val
    cases mget S (key, q) <;> rfl
  rw [e] at this
  exact this

theorem look_row {W : World} {br : Nat} {R : RowsL} (h : MapIs W strKf rowVf strOk br R) {key : ByteArray} (hok : strOk key) :
    (Instr.lookup 143 (.map (some br)) (.string key) false).run Try.prog W = .ok (.slice (rowOf R key).A (rowOf R key).ns.length (rowOf R key).c) W := by
  have := h.look strKey Try.underlying143 zero_row hok
  have e : ((mget R key).map rowVf).getD (.slice none 0 0) = .slice (rowOf R key).A (rowOf R key).ns.length (rowOf R key).c := by
    unfold rowOf
    cases mget R key <;> rfl
  rw [e] at this
  exact this

theorem cell_of_panes {w : World} {pb bs br : Nat} {wd ad : Int} {S : SumsL} {R : RowsL} (h : PanesAt w pb bs br wd ad S R) :
    w.cell? ⟨pb, 0, none⟩ = some (.int .i64 wd) ∧ w.cell? ⟨pb, 1, none⟩ = some (.int .i64 ad) ∧ w.cell? ⟨pb, 2, none⟩ = some (.map (some bs)) ∧ w.cell? ⟨pb, 3, none⟩ = some (.map (some br)) := by
  refine ⟨?_, ?_, ?_, ?_⟩ <;> (rw [cell_of_row w pb _ _ _ _ h.blk]; rfl)

/-- What put leaves. -/
def PutLeaves (w : World) (pb bs br : Nat) (wd ad : Int) (S S' : SumsL) (R : RowsL) (P : RowsL → Prop) (e : Ending) (w' : World) : Prop :=
  e = .returned (.tuple #[]) ∧ ∃ R', PanesAt w' pb bs br wd ad S' R' ∧ P R' ∧ Keeps (paneFoot pb bs br R) w w' ∧ (∀ k, paneFoot pb bs br R' k → paneFoot pb bs br R k ∨ w.heap.size ≤ k)

theorem PanesAt.alloc {w : World} {pb bs br : Nat} {wd ad : Int} {S : SumsL} {R : RowsL} (h : PanesAt w pb bs br wd ad S R) (o : Obj) : PanesAt (w.alloc o) pb bs br wd ad S R :=
  h.keep ((Keeps.refl (fun _ => False) w).alloc o) (fun _ _ h => h)
theorem PanesAt.drewN {w : World} {pb bs br : Nat} {wd ad : Int} {S : SumsL} {R : RowsL} (h : PanesAt w pb bs br wd ad S R) (n : Nat) : PanesAt (w.drewN n) pb bs br wd ad S R :=
  h.keep ((Keeps.refl (fun _ => False) w).drewN n) (fun _ _ h => h)

set_option maxHeartbeats 400000 in
theorem pput_zero (pb bs br : Nat) (wd ad : Int) (S : SumsL) (R : RowsL) (key : ByteArray) (q : Int) (w : World) (h : PanesAt w pb bs br wd ad S R) :
    Calls Try.prog 70 #[.pointer (some ⟨pb, 0, none⟩), .agg #[.string key, .int .i64 q], .int .i64 0] w (PutLeaves w pb bs br wd ad S S R (fun R' => R' = R)) := by
  go_enter Try.func70, Try.ntmps70
  go_wp2
  refine bodyPost_ret (results_none rfl _ _ _) rfl ?_
  exact ⟨rfl, R, h.alloc _, rfl, (Keeps.refl _ _).alloc _, fun k hk => .inl hk⟩

set_option maxHeartbeats 1000000 in
theorem pput_old (pb bs br : Nat) (wd ad : Int) (S : SumsL) (R : RowsL) (key : ByteArray) (q n : Int) (w : World) (h : PanesAt w pb bs br wd ad S R) (hok : cellOk (key, q))
    (hn : 1 ≤ n) (hn2 : n ≤ 1099511627776) (hv : 0 < val S (key, q)) (hv2 : val S (key, q) ≤ 1099511627776) :
    Calls Try.prog 70 #[.pointer (some ⟨pb, 0, none⟩), .agg #[.string key, .int .i64 q], .int .i64 n] w (PutLeaves w pb bs br wd ad S (mput S (key, q) (val S (key, q) + n)) R (fun R' => R' = R)) := by
  have h0 : (n == 0) = false := by simp; omega
  have hv0 : (val S (key, q) == 0) = false := by simp; omega
  have ha := h.alloc (.cells #[.string key, .int .i64 q] 148)
  obtain ⟨c0, c1, c2, c3⟩ := cell_of_panes ha
  have hl := fun m => look_sum (ha.drewN m).sums hok
  have hw1 : IntKind.i64.wrap (val S (key, q) + n) = val S (key, q) + n := IntWalk.i64_in _ (by omega)
  have hpb : pb < w.heap.size := (Array.getElem?_eq_some_iff.1 h.blk).1
  have HA := Lib.hid ha
  clear ha
  go_enter Try.func70, Try.ntmps70
  go_wp2_with fail
  go_quiet (fail)
  go_wp2_with fail
  have hP := HA.out.drewN nq
  have hK := ((Keeps.refl (paneFoot pb bs br R) w).alloc (.cells #[.string key, .int .i64 q] 148)).drewN nq
  have hB : (w.alloc (.cells #[.string key, .int .i64 q] 148)).drewN nq = (w.alloc (.cells #[.string key, .int .i64 q] 148)).drewN nq := rfl
  have b0 : ((w.alloc (.cells #[.string key, .int .i64 q] 148)).drewN nq).cell? ⟨w.heap.size, 0, none⟩ = some (.string key) := by simp
  have b1 : ((w.alloc (.cells #[.string key, .int .i64 q] 148)).drewN nq).cell? ⟨w.heap.size, 1, none⟩ = some (.int .i64 q) := by simp
  clear hl c0 c1 c2 c3 HA hB
  generalize (w.alloc (.cells #[.string key, .int .i64 q] 148)).drewN nq = W4 at *
  obtain ⟨c0, c1, c2, c3⟩ := cell_of_panes hP
  obtain ⟨W2, hrun, hP2, hK2⟩ := panes_store (hP.drewN 1) hok (val S (key, q) + n)
  have hrun' : (Instr.mapUpdate 142 (.map (some bs)) (.agg #[.string key, .int .i64 q]) (.int .i64 (val S (key, q) + n))).run Try.prog W4.drew = .ok () W2 := hrun
  clear hrun
  refine heldStart 8 (S := fun W => W.cell? ⟨pb, 2, none⟩ = some (.map (some bs)) ∧ W.cell? ⟨w.heap.size, 0, none⟩ = some (.string key) ∧ W.cell? ⟨w.heap.size, 1, none⟩ = some (.int .i64 q)) (by kernel_rfl) ?_ (fun hHeld => ?_)
  · exact ⟨c2, b0, b1⟩
  refine heldTake 0 (v := ?_) (by simp only [List.getElem?_toArray, List.getElem?_cons_succ, List.getElem?_cons_zero]; rfl) (by kernel_rfl) (by intro _ _ _ h; exact h) (by rfl) (by assumption) ?_ ?_
  rotate_left
  · intro W hSw; (try dsimp only at hSw); go_simp; try with_reducible rfl
  simp only [Act.put, List.setIfInBounds_toArray, List.set_cons_zero, List.set_cons_succ]
  refine heldTake 1 (v := ?_) (by simp only [List.getElem?_toArray, List.getElem?_cons_succ, List.getElem?_cons_zero]; rfl) (by kernel_rfl) (by intro _ _ _ h; exact h) (by rfl) (by assumption) ?_ ?_
  rotate_left
  · intro W hSw; (try dsimp only at hSw); go_simp; try with_reducible rfl
  simp only [Act.put, List.setIfInBounds_toArray, List.set_cons_zero, List.set_cons_succ]
  refine heldTake 2 (v := ?_) (by simp only [List.getElem?_toArray, List.getElem?_cons_succ, List.getElem?_cons_zero]; rfl) (by kernel_rfl) (by intro _ _ _ h; exact h) (by rfl) (by assumption) ?_ ?_
  rotate_left
  · intro W hSw; (try dsimp only at hSw); go_simp; try with_reducible rfl
  simp only [Act.put, List.setIfInBounds_toArray, List.set_cons_zero, List.set_cons_succ]
  refine heldTake 3 (v := ?_) (by simp only [List.getElem?_toArray, List.getElem?_cons_succ, List.getElem?_cons_zero]; rfl) (by kernel_rfl) (by intro _ _ _ h; exact h) (by rfl) (by assumption) ?_ ?_
  rotate_left
  · intro W hSw; (try dsimp only at hSw); go_simp; try with_reducible rfl
  simp only [Act.put, List.setIfInBounds_toArray, List.set_cons_zero, List.set_cons_succ]
  refine heldTake 4 (v := ?_) (by simp only [List.getElem?_toArray, List.getElem?_cons_succ, List.getElem?_cons_zero]; rfl) (by kernel_rfl) (by intro _ _ _ h; exact h) (by rfl) (by assumption) ?_ ?_
  rotate_left
  · intro W hSw; (try dsimp only at hSw); go_simp; try with_reducible rfl
  simp only [Act.put, List.setIfInBounds_toArray, List.set_cons_zero, List.set_cons_succ]
  refine heldTake 5 (v := ?_) (by simp only [List.getElem?_toArray, List.getElem?_cons_succ, List.getElem?_cons_zero]; rfl) (by kernel_rfl) (by intro _ _ _ h; exact h) (by rfl) (by assumption) ?_ ?_
  rotate_left
  · intro W hSw; (try dsimp only at hSw); go_simp; try with_reducible rfl
  simp only [Act.put, List.setIfInBounds_toArray, List.set_cons_zero, List.set_cons_succ]
  refine heldTake 6 (v := ?_) (by simp only [List.getElem?_toArray, List.getElem?_cons_succ, List.getElem?_cons_zero]; rfl) (by kernel_rfl) (by intro _ _ _ h; exact h) (by rfl) (by assumption) ?_ ?_
  rotate_left
  · intro W hSw; (try dsimp only at hSw); go_simp; try with_reducible rfl
  simp only [Act.put, List.setIfInBounds_toArray, List.set_cons_zero, List.set_cons_succ]
  refine heldTake 7 (v := ?_) (by simp only [List.getElem?_toArray, List.getElem?_cons_succ, List.getElem?_cons_zero]; rfl) (by kernel_rfl) (by intro _ _ _ h; exact h) (by rfl) (by assumption) ?_ ?_
  rotate_left
  · intro W hSw; (try dsimp only at hSw); go_simp; try with_reducible rfl
  simp only [Act.put, List.setIfInBounds_toArray, List.set_cons_zero, List.set_cons_succ]
  refine heldLast 8 (by simp only [List.getElem?_toArray, List.getElem?_cons_succ, List.getElem?_cons_zero]; rfl) (by kernel_rfl) rfl (fun K hK => ?_)
  go_simp
  refine hK.out _ _ ?_
  clear hK K
  (try simp only [Act.put, List.setIfInBounds_toArray, List.set_cons_zero, List.set_cons_succ])
  refine heldDone (by kernel_rfl) ?_ _
  go_wp2
  go_end0
  refine ⟨rfl, R, hP2, rfl, (hK.drewN 1).trans hK2 (fun k _ hk => hk), fun k hk => .inl hk⟩

theorem put_keep {W0 W' : World} {G : Nat → Prop} (hk : Keeps G W0 W') {pb bs br B : Nat} {wd ad : Int} {S : SumsL} {R : RowsL} (h : PanesAt W0 pb bs br wd ad S R) {key : ByteArray} {q : Int} (hok : strOk key)
    (b0 : W0.cell? ⟨B, 0, none⟩ = some (.string key)) (b1 : W0.cell? ⟨B, 1, none⟩ = some (.int .i64 q)) (gp : ¬ G pb) (gb : ¬ G B) (gr : ¬ G br) (hB : B < W0.heap.size) :
    W'.cell? ⟨pb, 3, none⟩ = some (.map (some br)) ∧ W'.cell? ⟨B, 0, none⟩ = some (.string key) ∧ W'.cell? ⟨B, 1, none⟩ = some (.int .i64 q) ∧
      (Instr.lookup 143 (.map (some br)) (.string key) false).run Try.prog W' = .ok (.slice (rowOf R key).A (rowOf R key).ns.length (rowOf R key).c) W' := by
  obtain ⟨c0, c1, c2, c3⟩ := cell_of_panes h
  exact ⟨(hk.cell (Array.getElem?_eq_some_iff.1 h.blk).1 gp).trans c3, (hk.cell hB gb).trans b0, (hk.cell hB gb).trans b1, look_row (h.rows.keep hk gr) hok⟩

set_option maxRecDepth 20000 in
set_option maxHeartbeats 2000000 in
theorem pput_new (pb bs br : Nat) (wd ad : Int) (S : SumsL) (R : RowsL) (key : ByteArray) (q n : Int) (w : World) (h : PanesAt w pb bs br wd ad S R) (hok : cellOk (key, q))
    (hn : 1 ≤ n) (hn2 : n ≤ 1099511627776) (hv : val S (key, q) = 0) (hr : (rowOf R key).ns.length ≤ 1048576) :
    Calls Try.prog 70 #[.pointer (some ⟨pb, 0, none⟩), .agg #[.string key, .int .i64 q], .int .i64 n] w (PutLeaves w pb bs br wd ad S (mput S (key, q) n) R (fun R' => ∃ A c, R' = mput R key ⟨A, c, (rowOf R key).ns ++ [q]⟩)) := by
  have h0 : (n == 0) = false := by simp; omega
  have ha := h.alloc (.cells #[.string key, .int .i64 q] 148)
  obtain ⟨c0, c1, c2, c3⟩ := cell_of_panes ha
  have hl := fun m => look_sum (ha.drewN m).sums hok
  rw [hv] at hl
  clear hv
  have hw1 : IntKind.i64.wrap (0 + n) = n := by rw [Int.zero_add]; exact IntWalk.i64_in _ (by omega)
  have hw2 : IntKind.i64.wrap n = n := IntWalk.i64_in _ (by omega)
  have hpb : pb < w.heap.size := (Array.getElem?_eq_some_iff.1 h.blk).1
  have HA := Lib.hid ha
  clear ha
  go_enter Try.func70, Try.ntmps70
  go_wp2_with fail
  go_quiet (fail)
  go_wp2_with fail
  have hP := HA.out.drewN nq
  have hK := ((Keeps.refl (paneFoot pb bs br R) w).alloc (.cells #[.string key, .int .i64 q] 148)).drewN nq
  have b0 : ((w.alloc (.cells #[.string key, .int .i64 q] 148)).drewN nq).cell? ⟨w.heap.size, 0, none⟩ = some (.string key) := by simp
  have b1 : ((w.alloc (.cells #[.string key, .int .i64 q] 148)).drewN nq).cell? ⟨w.heap.size, 1, none⟩ = some (.int .i64 q) := by simp
  have hBt : ((w.alloc (.cells #[.string key, .int .i64 q] 148)).drewN nq).heap[w.heap.size]? = some (.cells #[.string key, .int .i64 q] 148 (0, 0)) := heap_alloc_new w _
  clear hl c0 c1 c2 c3 HA
  generalize (w.alloc (.cells #[.string key, .int .i64 q] 148)).drewN nq = W4 at *
  have hBlt : w.heap.size < W4.heap.size := (Array.getElem?_eq_some_iff.1 hBt).1
  obtain ⟨c0, c1, c2, c3⟩ := cell_of_panes hP
  have hro := hP.rowOwn key
  have gP : ∀ k, some k = (rowVf (rowOf R key)).ownBlock → k ≠ pb ∧ k ≠ bs ∧ k ≠ br := fun k hk => hP.row_ne hro hk.symm
  have gB : ¬ some w.heap.size = (rowVf (rowOf R key)).ownBlock := fun e => by
    obtain ⟨cur, hh⟩ := own_obj hro e.symm
    rw [hBt] at hh
    simp at hh
  have GP := Lib.hid gP
  have GB := Lib.hid gB
  clear gP gB
  have hKe : Keeps (fun k => some k = (rowVf (rowOf R key)).ownBlock) W4 W4.drew := (Keeps.refl _ _).drew
  refine heldStart 17 (S := fun W => W.cell? ⟨pb, 3, none⟩ = some (.map (some br)) ∧ W.cell? ⟨w.heap.size, 0, none⟩ = some (.string key) ∧ W.cell? ⟨w.heap.size, 1, none⟩ = some (.int .i64 q) ∧ (Instr.lookup 143 (.map (some br)) (.string key) false).run Try.prog W = .ok (.slice (rowOf R key).A (rowOf R key).ns.length (rowOf R key).c) W) (by kernel_rfl) ?_ (fun hHeld => ?_)
  · exact put_keep (by assumption) hP hok.1 b0 b1 (fun e => (GP.out _ e).1 rfl) GB.out (fun e => (GP.out _ e).2.2 rfl) hBlt
  refine heldTake 0 (v := ?_) (by simp only [List.getElem?_toArray, List.getElem?_cons_succ, List.getElem?_cons_zero]; rfl) (by kernel_rfl) (by intro _ _ _ h; exact h) (by rfl) (by assumption) ?_ ?_
  rotate_left
  · intro W hSw; (try dsimp only at hSw); go_simp; try with_reducible rfl
  simp only [Act.put, List.setIfInBounds_toArray, List.set_cons_zero, List.set_cons_succ]
  refine heldTake 1 (v := ?_) (by simp only [List.getElem?_toArray, List.getElem?_cons_succ, List.getElem?_cons_zero]; rfl) (by kernel_rfl) (by intro _ _ _ h; exact h) (by rfl) (by assumption) ?_ ?_
  rotate_left
  · intro W hSw; (try dsimp only at hSw); go_simp; try with_reducible rfl
  simp only [Act.put, List.setIfInBounds_toArray, List.set_cons_zero, List.set_cons_succ]
  refine heldTake 2 (v := ?_) (by simp only [List.getElem?_toArray, List.getElem?_cons_succ, List.getElem?_cons_zero]; rfl) (by kernel_rfl) (by intro _ _ _ h; exact h) (by rfl) (by assumption) ?_ ?_
  rotate_left
  · intro W hSw; (try dsimp only at hSw); go_simp; try with_reducible rfl
  simp only [Act.put, List.setIfInBounds_toArray, List.set_cons_zero, List.set_cons_succ]
  refine heldTake 3 (v := ?_) (by simp only [List.getElem?_toArray, List.getElem?_cons_succ, List.getElem?_cons_zero]; rfl) (by kernel_rfl) (by intro _ _ _ h; exact h) (by rfl) (by assumption) ?_ ?_
  rotate_left
  · intro W hSw; (try dsimp only at hSw); go_simp; try with_reducible rfl
  simp only [Act.put, List.setIfInBounds_toArray, List.set_cons_zero, List.set_cons_succ]
  refine heldTake 4 (v := ?_) (by simp only [List.getElem?_toArray, List.getElem?_cons_succ, List.getElem?_cons_zero]; rfl) (by kernel_rfl) (by intro _ _ _ h; exact h) (by rfl) (by assumption) ?_ ?_
  rotate_left
  · intro W hSw; (try dsimp only at hSw); go_simp; try with_reducible rfl
  simp only [Act.put, List.setIfInBounds_toArray, List.set_cons_zero, List.set_cons_succ]
  refine heldTake 5 (v := ?_) (by simp only [List.getElem?_toArray, List.getElem?_cons_succ, List.getElem?_cons_zero]; rfl) (by kernel_rfl) (by intro _ _ _ h; exact h) (by rfl) (by assumption) ?_ ?_
  rotate_left
  · intro W hSw; (try dsimp only at hSw); go_simp; try with_reducible rfl
  simp only [Act.put, List.setIfInBounds_toArray, List.set_cons_zero, List.set_cons_succ]
  refine heldTake 6 (v := ?_) (by simp only [List.getElem?_toArray, List.getElem?_cons_succ, List.getElem?_cons_zero]; rfl) (by kernel_rfl) (by intro _ _ _ h; exact h) (by rfl) (by assumption) ?_ ?_
  rotate_left
  · intro W hSw; (try dsimp only at hSw); go_simp; try with_reducible rfl
  simp only [Act.put, List.setIfInBounds_toArray, List.set_cons_zero, List.set_cons_succ]
  refine heldTake 7 (v := ?_) (by simp only [List.getElem?_toArray, List.getElem?_cons_succ, List.getElem?_cons_zero]; rfl) (by kernel_rfl) (by intro _ _ _ h; exact h) (by rfl) (by assumption) ?_ ?_
  rotate_left
  · intro W hSw; (try dsimp only at hSw); go_simp; try with_reducible rfl
  simp only [Act.put, List.setIfInBounds_toArray, List.set_cons_zero, List.set_cons_succ]
  refine heldTake 8 (v := ?_) (by simp only [List.getElem?_toArray, List.getElem?_cons_succ, List.getElem?_cons_zero]; rfl) (by kernel_rfl) (by intro _ _ _ h; exact h) (by rfl) (by assumption) ?_ ?_
  rotate_left
  · intro W hSw; (try dsimp only at hSw); go_simp; try with_reducible rfl
  simp only [Act.put, List.setIfInBounds_toArray, List.set_cons_zero, List.set_cons_succ]
  refine heldTake 9 (v := ?_) (by simp only [List.getElem?_toArray, List.getElem?_cons_succ, List.getElem?_cons_zero]; rfl) (by kernel_rfl) (by intro _ _ _ h; exact h) (by rfl) (by assumption) ?_ ?_
  rotate_left
  · intro W hSw; (try dsimp only at hSw); go_simp; try with_reducible rfl
  simp only [Act.put, List.setIfInBounds_toArray, List.set_cons_zero, List.set_cons_succ]
  refine heldTake 10 (v := ?_) (by simp only [List.getElem?_toArray, List.getElem?_cons_succ, List.getElem?_cons_zero]; rfl) (by kernel_rfl) (by intro _ _ _ h; exact h) (by rfl) (by assumption) ?_ ?_
  rotate_left
  · intro W hSw; (try dsimp only at hSw); go_simp; try with_reducible rfl
  simp only [Act.put, List.setIfInBounds_toArray, List.set_cons_zero, List.set_cons_succ]
  refine heldTake 11 (v := ?_) (by simp only [List.getElem?_toArray, List.getElem?_cons_succ, List.getElem?_cons_zero]; rfl) (by kernel_rfl) (by intro _ _ _ h; exact h) (by rfl) (by assumption) ?_ ?_
  rotate_left
  · intro W hSw; (try dsimp only at hSw); go_simp; try with_reducible rfl
  simp only [Act.put, List.setIfInBounds_toArray, List.set_cons_zero, List.set_cons_succ]
  refine heldTake 12 (v := ?_) (by simp only [List.getElem?_toArray, List.getElem?_cons_succ, List.getElem?_cons_zero]; rfl) (by kernel_rfl) (by intro _ _ _ h; exact h) (by rfl) (by assumption) ?_ ?_
  rotate_left
  · intro W hSw; (try dsimp only at hSw); go_simp; try with_reducible rfl
  simp only [Act.put, List.setIfInBounds_toArray, List.set_cons_zero, List.set_cons_succ]
  refine heldTake 13 (v := ?_) (by simp only [List.getElem?_toArray, List.getElem?_cons_succ, List.getElem?_cons_zero]; rfl) (by kernel_rfl) (by intro _ _ _ h; exact h) (by rfl) (by assumption) ?_ ?_
  rotate_left
  · intro W hSw; (try dsimp only at hSw); go_simp; try with_reducible rfl
  simp only [Act.put, List.setIfInBounds_toArray, List.set_cons_zero, List.set_cons_succ]
  refine heldTake 14 (v := ?_) (by simp only [List.getElem?_toArray, List.getElem?_cons_succ, List.getElem?_cons_zero]; rfl) (by kernel_rfl) (by intro _ _ _ h; exact h) (by rfl) (by assumption) ?_ ?_
  rotate_left
  · intro W hSw; (try dsimp only at hSw); go_simp; try with_reducible rfl
  simp only [Act.put, List.setIfInBounds_toArray, List.set_cons_zero, List.set_cons_succ]
  refine heldCall 15 (by simp only [List.getElem?_toArray, List.getElem?_cons_succ, List.getElem?_cons_zero]; rfl) (by kernel_rfl) (fun K hK => ?_)
  clear hKe
  go_simp
  have hKe : Keeps (fun k => some k = (rowVf (rowOf R key)).ownBlock) W4 (W4.alloc (.cells #[.int .i64 q] 3)).drew := ((Keeps.refl _ _).alloc _).drew
  refine hK.out _ _ ?_ (fun hHeld => ?_)
  · exact put_keep (by assumption) hP hok.1 b0 b1 (fun e => (GP.out _ e).1 rfl) GB.out (fun e => (GP.out _ e).2.2 rfl) hBlt
  clear hK K
  (try simp only [Act.put, List.setIfInBounds_toArray, List.set_cons_zero, List.set_cons_succ])
  refine heldLaw 16 (by simp only [List.getElem?_toArray, List.getElem?_cons_succ, List.getElem?_cons_zero]; rfl) (by kernel_rfl) (by rfl) (fun K hK => ?_)
  clear hKe
  have hAW : (W4.alloc (.cells #[.int .i64 q] 3)).drew = W4.drew.alloc (.cells #[.int .i64 q] 3) := rfl
  rw [hAW]
  clear hAW
  refine wp_append_one W4.drew (.tmp 29) (.tmp 32) _ rfl 0 3 (.int .i64 0) 1 8 Try.underlying87 pint_info rfl (by decide) (rowOf R key).A (rowOf R key).ns.length (rowOf R key).c _ rfl hro [.int .i64 q] rfl rfl (by intro u hu; simp at hu; subst hu; rfl) (by omega) (by unfold maxLen; omega) (Nat.zero_le _) ?_
  intro A' c' W1 hown1 hg1 _ hloc1
  have hg1' : W4.grownBy W1 (rowVf (rowOf R key)).ownBlock := ⟨hg1.os, hg1.tape, hg1.output, hg1.size, hg1.block⟩
  have hKe : Keeps (fun k => some k = (rowVf (rowOf R key)).ownBlock) W4 W1 := Keeps.ofGrown hg1'
  refine hK.out _ _ ?_ (fun hHeld => ?_)
  · exact put_keep (by assumption) hP hok.1 b0 b1 (fun e => (GP.out _ e).1 rfl) GB.out (fun e => (GP.out _ e).2.2 rfl) hBlt
  clear hK K
  (try simp only [Act.put, List.setIfInBounds_toArray, List.set_cons_zero, List.set_cons_succ])
  refine heldLast 17 (by simp only [List.getElem?_toArray, List.getElem?_cons_succ, List.getElem?_cons_zero]; rfl) (by kernel_rfl) rfl (fun K hK => ?_)
  clear hKe
  obtain ⟨W2, hrun, hP2, hK2, hF2⟩ := panes_append hP hok.1 hown1 hg1' (hloc1.imp id (fun e => ⟨_, e, Nat.le_succ _⟩))
  go_simp
  refine hK.out _ _ ?_
  clear hK K
  (try simp only [Act.put, List.setIfInBounds_toArray, List.set_cons_zero, List.set_cons_succ])
  refine heldDone (by kernel_rfl) ?_ _
  go_wp2_with fail
  obtain ⟨d0, d1, d2, d3⟩ := cell_of_panes hP2
  have hK3 : Keeps (paneFoot pb bs br R) w W2 := hK.trans hK2 (fun k _ hk => hk)
  have e0 : W2.cell? ⟨w.heap.size, 0, none⟩ = some (.string key) := (hK2.cell hBlt (fun e => Nat.lt_irrefl _ (h.foot_lt _ e))).trans b0
  have e1 : W2.cell? ⟨w.heap.size, 1, none⟩ = some (.int .i64 q) := (hK2.cell hBlt (fun e => Nat.lt_irrefl _ (h.foot_lt _ e))).trans b1
  have hsz : W4.heap.size ≤ W2.heap.size := hK2.size
  have hFF : ∀ k, paneFoot pb bs br (mput R key ⟨A', c', (rowOf R key).ns ++ [q]⟩) k → paneFoot pb bs br R k ∨ w.heap.size ≤ k := fun k hk => (hF2 k hk).imp id (fun h => by omega)
  obtain ⟨W3, hrun3, hP3, hK4⟩ := panes_store (hP2.drewN 1) hok n
  have hrun' : (Instr.mapUpdate 142 (.map (some bs)) (.agg #[.string key, .int .i64 q]) (.int .i64 n)).run Try.prog W2.drew = .ok () W3 := hrun3
  clear hrun3 hF2 hHeld hrun hown1 hg1 hloc1 hg1' c0 c1 c2 c3 b0 b1 hBt hro
  refine heldStart 8 (S := fun W => W.cell? ⟨pb, 2, none⟩ = some (.map (some bs)) ∧ W.cell? ⟨w.heap.size, 0, none⟩ = some (.string key) ∧ W.cell? ⟨w.heap.size, 1, none⟩ = some (.int .i64 q)) (by kernel_rfl) ?_ (fun hHeld => ?_)
  · exact ⟨d2, e0, e1⟩
  refine heldTake 0 (v := ?_) (by simp only [List.getElem?_toArray, List.getElem?_cons_succ, List.getElem?_cons_zero]; rfl) (by kernel_rfl) (by intro _ _ _ h; exact h) (by rfl) (by assumption) ?_ ?_
  rotate_left
  · intro W hSw; (try dsimp only at hSw); go_simp; try with_reducible rfl
  simp only [Act.put, List.setIfInBounds_toArray, List.set_cons_zero, List.set_cons_succ]
  refine heldTake 1 (v := ?_) (by simp only [List.getElem?_toArray, List.getElem?_cons_succ, List.getElem?_cons_zero]; rfl) (by kernel_rfl) (by intro _ _ _ h; exact h) (by rfl) (by assumption) ?_ ?_
  rotate_left
  · intro W hSw; (try dsimp only at hSw); go_simp; try with_reducible rfl
  simp only [Act.put, List.setIfInBounds_toArray, List.set_cons_zero, List.set_cons_succ]
  refine heldTake 2 (v := ?_) (by simp only [List.getElem?_toArray, List.getElem?_cons_succ, List.getElem?_cons_zero]; rfl) (by kernel_rfl) (by intro _ _ _ h; exact h) (by rfl) (by assumption) ?_ ?_
  rotate_left
  · intro W hSw; (try dsimp only at hSw); go_simp; try with_reducible rfl
  simp only [Act.put, List.setIfInBounds_toArray, List.set_cons_zero, List.set_cons_succ]
  refine heldTake 3 (v := ?_) (by simp only [List.getElem?_toArray, List.getElem?_cons_succ, List.getElem?_cons_zero]; rfl) (by kernel_rfl) (by intro _ _ _ h; exact h) (by rfl) (by assumption) ?_ ?_
  rotate_left
  · intro W hSw; (try dsimp only at hSw); go_simp; try with_reducible rfl
  simp only [Act.put, List.setIfInBounds_toArray, List.set_cons_zero, List.set_cons_succ]
  refine heldTake 4 (v := ?_) (by simp only [List.getElem?_toArray, List.getElem?_cons_succ, List.getElem?_cons_zero]; rfl) (by kernel_rfl) (by intro _ _ _ h; exact h) (by rfl) (by assumption) ?_ ?_
  rotate_left
  · intro W hSw; (try dsimp only at hSw); go_simp; try with_reducible rfl
  simp only [Act.put, List.setIfInBounds_toArray, List.set_cons_zero, List.set_cons_succ]
  refine heldTake 5 (v := ?_) (by simp only [List.getElem?_toArray, List.getElem?_cons_succ, List.getElem?_cons_zero]; rfl) (by kernel_rfl) (by intro _ _ _ h; exact h) (by rfl) (by assumption) ?_ ?_
  rotate_left
  · intro W hSw; (try dsimp only at hSw); go_simp; try with_reducible rfl
  simp only [Act.put, List.setIfInBounds_toArray, List.set_cons_zero, List.set_cons_succ]
  refine heldTake 6 (v := ?_) (by simp only [List.getElem?_toArray, List.getElem?_cons_succ, List.getElem?_cons_zero]; rfl) (by kernel_rfl) (by intro _ _ _ h; exact h) (by rfl) (by assumption) ?_ ?_
  rotate_left
  · intro W hSw; (try dsimp only at hSw); go_simp; try with_reducible rfl
  simp only [Act.put, List.setIfInBounds_toArray, List.set_cons_zero, List.set_cons_succ]
  refine heldTake 7 (v := ?_) (by simp only [List.getElem?_toArray, List.getElem?_cons_succ, List.getElem?_cons_zero]; rfl) (by kernel_rfl) (by intro _ _ _ h; exact h) (by rfl) (by assumption) ?_ ?_
  rotate_left
  · intro W hSw; (try dsimp only at hSw); go_simp; try with_reducible rfl
  simp only [Act.put, List.setIfInBounds_toArray, List.set_cons_zero, List.set_cons_succ]
  refine heldLast 8 (by simp only [List.getElem?_toArray, List.getElem?_cons_succ, List.getElem?_cons_zero]; rfl) (by kernel_rfl) rfl (fun K hK => ?_)
  go_simp
  refine hK.out _ _ ?_
  clear hK K
  (try simp only [Act.put, List.setIfInBounds_toArray, List.set_cons_zero, List.set_cons_succ])
  refine heldDone (by kernel_rfl) ?_ _
  go_wp2
  go_end0
  exact ⟨rfl, _, hP3, ⟨A', c', rfl⟩, (hK3.drewN 1).trans hK4 (fun k hk hf => by
    rcases hFF k hf with h1 | h1
    · exact h1
    · omega), hFF⟩
end Go.Proofs.Ytmigjlceogofaaa
