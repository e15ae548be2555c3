/- Contract of tale.settings. -/
import Derived.Test.YtaollcpoibgblaaDoorTlB
import Derived.Test.YtaollcpoibgblaaDoorKitAg
import Derived.Test.YtaollcpoibgblaaDoorKitC
import Derived.Test.YtaollcpoibgblaaDoorKitNs
import Derived.Laws.CopyOwn
namespace Go.Proofs.YtaollcpoibgblaaDoor
open Go.ChangeShapes Go.WideShapes Go.ChangeAt Go.RowKit
set_option linter.unusedVariables false
set_option linter.unusedSimpArgs false

def Set1 (g rb : Nat) (W : World) (rest : Nat) (i : Value) (wr : World) : Prop :=
  ∃ (k : Nat) (cs z : List Value), i = .int .i64 k ∧ k + rest = 6 ∧ Hid (wr.heap[g]? = some (.cells cs.toArray 32 (0, 0))) ∧ Hid (cs.length = 22) ∧ Hid (∀ u ∈ cs, u.oneCell' = true) ∧
    Hid (wr.heap[rb]? = some (.cells z.toArray 32 (0, 0))) ∧ Hid (z.length = 22) ∧ Hid (Below W.heap.size W wr)

set_option maxRecDepth 20000 in
set_option maxHeartbeats 4000000 in
theorem settings_any (b0 b1 b2 b3 b4 b5 b6 b7 : Int) (w : World) :
    Calls Tryd.prog 24 #[.agg #[.int .i64 b0, .int .i64 b1, .int .i64 b2, .int .i64 b3, .int .i64 b4, .int .i64 b5, .int .i64 b6, .int .i64 b7]] w fun e w' => ∃ v, e = .returned v ∧ AgN 22 v ∧ Below w.heap.size w w' := by
  go_enter Tryd.func24, Tryd.ntmps24
  go_wp2_with (refine wpList_store_new rfl 32 _ _ rfl _ _ _ _ (by rfl) (by rfl) (by kernel_rfl) (by rfl) (by rfl) (by simp) ?_)
  go_loopg [40] 6 (Set1 (w.heap.size + 1 + 1) (w.heap.size + 1) w)
  case atStart => exact ⟨0, _, _, rfl, rfl, Lib.hid (alloc3 w _ _ _).1, Lib.hid rfl, Lib.hid (by simp [Value.oneCell']), Lib.hid (alloc3 w _ _ _).2.1, Lib.hid rfl, Lib.hid (alloc3 w _ _ _).2.2.2⟩
  case round =>
    obtain ⟨k, cs, z, rfl, hk, HG, HL, HO, HR, HZ, HB⟩ := hrel
    have HN := Lib.hid (show w.heap.size + 1 ≠ w.heap.size + 1 + 1 ∧ w.heap.size ≤ w.heap.size + 1 + 1 ∧ w.heap.size ≤ w.heap.size + 1 by omega)
    by_cases hk6 : (k : Int) < 6
    · have hlt : 6 + k < cs.length := by have := HL.out; omega
      have hc : wr.cell? ⟨w.heap.size + 1 + 1, 6 + k, none⟩ = some cs[6 + k] := by rw [cell_of_row wr (w.heap.size + 1 + 1) (6 + k) _ _ _ HG.out]; simp [hlt]
      have hf : wr.frozen? ⟨w.heap.size + 1 + 1, 6 + k, none⟩ = false := frozen_block HG.out _
      go_wp2
      go_roundg (gk - 1)
      case measure => omega
      case rel =>
        have hs : wr.setCell ⟨w.heap.size + 1 + 1, 6 + k, none⟩ (.int .i64 100) = wr.setRow (w.heap.size + 1 + 1) (cs.set (6 + k) (.int .i64 100)).toArray := by
          rw [setCell_eq_setRow wr (w.heap.size + 1 + 1) (6 + k) _ _ _ _ HG.out]; simp
        rw [hs]
        exact ⟨k + 1, cs.set (6 + k) (.int .i64 100), z, by go_num, by omega, Lib.hid (setRow_heap wr _ _ _ _ _ HG.out), Lib.hid (by rw [List.length_set]; exact HL.out),
          Lib.hid (fun u hu => by
            rcases List.mem_or_eq_of_mem_set hu with h | h
            · exact HO.out u h
            · rw [h]; rfl), Lib.hid (by rw [setRow_other wr _ _ _ HN.out.1]; exact HR.out), HZ, Lib.hid (below_setRow HB.out HN.out.2.1 _)⟩
    · have hk2 : k = 6 := by omega
      go_wp2_with (first | (refine wpList_load_row rfl _ _ rfl _ (by rfl) _ _ _ _ HG.out Tryd.underlying32 (by rfl) (by simp only [List.size_toArray, HL.out]; kernel_rfl) ?_) | (refine wpList_store_row rfl 32 _ _ rfl (w.heap.size + 1) _ (by rfl) (by rfl) _ _ HR.out (by simp only [List.size_toArray, HL.out]; kernel_rfl) (by simp only [List.size_toArray, HL.out, HZ.out]) (by simpa using HO.out) ?_))
      refine bodyPost_ret (results_cell_row rfl _ _ _ _ _ _ _ (by rfl) (setRow_heap wr _ _ _ _ _ HR.out) Tryd.underlying32 (by rfl) (by simp only [List.size_toArray, HL.out]; kernel_rfl)) rfl ?_
      exact ⟨_, rfl, ⟨cs, rfl, HL.out, HO.out⟩, below_setRow HB.out HN.out.2.2 _⟩
end Go.Proofs.YtaollcpoibgblaaDoor
