/- The walk of the statement WindowMays. -/
import Derived.Test.YtcaglkefhbbnbaaWinF
import Derived.Deep.RegionHeld3
namespace Go.Proofs.Ytcaglkefhbbnbaa
open Go.ChangeShapes Go.WideShapes Go.ChangeAt Go.RowKit
set_option linter.unusedVariables false

/-- A struct of two numbers at block b, in a world that is w0 below B. -/
theorem spec_keep {B b : Nat} {s h : Int} {w0 W w1 : World} (hb : Below W.heap.size W w1) (hB : B ≤ w0.heap.size) (hlt : b < w0.heap.size)
    (hS : W.cell? ⟨b, 0, none⟩ = some (.int .i64 s) ∧ W.cell? ⟨b, 1, none⟩ = some (.int .i64 h) ∧ Below B w0 W) :
    w1.cell? ⟨b, 0, none⟩ = some (.int .i64 s) ∧ w1.cell? ⟨b, 1, none⟩ = some (.int .i64 h) ∧ Below B w0 w1 := by
  have := hS.2.2.size
  exact ⟨(hb.cell (by simp; omega)).trans hS.1, (hb.cell (by simp; omega)).trans hS.2.1, hS.2.2.trans (hb.mono (by omega))⟩

theorem endsL_len (s h f t : Int) : (endsL s h f t).length ≤ 4096 := by
  unfold endsL
  split
  · exact endsFrom_len _ _ _ _
  · simp

set_option maxHeartbeats 1000000 in
theorem mays_walk (s h wd f t : Int) (hwd : wd ≤ 9223372036854775807) (w : World) :
    Calls Try.prog 3 #[.agg #[.int .i64 s, .int .i64 h], .int .i64 wd, .int .i64 f, .int .i64 t] w fun e w' => e = .returned (.bool true) ∧ Below w.heap.size w w' := by
  have hself : ((endsL s h f t) == (endsL s h f t)) = true := by simp
  have hlen := endsL_len s h f t
  have hsm : (mayB s h wd == mayB s h wd) = true := by simp
  go_enter Try.func3, Try.ntmps3
  go_wp2_with fail
  go_region_held3 (fun W => W.cell? ⟨w.heap.size, 0, none⟩ = some (.int .i64 s) ∧ W.cell? ⟨w.heap.size, 1, none⟩ = some (.int .i64 h) ∧ Below (w.heap.size + 1) (w.alloc (.cells #[.int .i64 s, .int .i64 h] 23)) W)
    (first | exact ⟨by simp, by simp, (Below.refl _ _).drew⟩ | exact spec_keep (by assumption) (by simp) (by simp) (by assumption))
    (first 
     | (go_at_call 11; refine (may_any _ _ _ hwd _).mono ?_; rintro e w1 ⟨rfl, hb1⟩)
     | (go_at_call 12; refine (rmay_any _ _ _ _).mono ?_; rintro e w2 ⟨rfl, hb2⟩)
     | (go_at_call 14; refine (ends_any _ _ _ _ _).mono ?_; rintro e w3 ⟨A3, c3, rfl, hown3, hb3⟩)
     | (go_at_call 15; refine (rends_any _ _ _ _ _).mono ?_; rintro e w4 ⟨A4, c4, rfl, hown4, hb4⟩)
     | (go_at_call 13; refine (same_any _ _ _ _ _ _ _ (((Reads.of_own hown3).below hb4).more hb4.size) (Reads.of_own hown4) (by omega)).mono ?_; rintro e w5 ⟨rfl, hb5⟩)
     | (go_at_call 16; refine (awake_any _).mono ?_; rintro e w6 ⟨rfl, hb6⟩))
  go_wp2
  go_ret
  refine ⟨ret_bool (by simp), ?_⟩
  have hS : Below (w.heap.size + 1) (w.alloc (.cells #[.int .i64 s, .int .i64 h] 23)) w6 := by
    rename_i hS
    exact hS.2.2
  exact ((Below.refl _ _).alloc (Nat.le_refl _) _).trans (hS.mono (by omega))

end Go.Proofs.Ytcaglkefhbbnbaa
