/- Contracts of the reference's May and Ends, of window.Holds and of the comparison of two rows of numbers. -/
import Derived.Test.YtcaglkefhbbnbaaWinB
namespace Go.Proofs.Ytcaglkefhbbnbaa
open Go.ChangeShapes Go.WideShapes Go.ChangeAt Go.RowKit
set_option linter.unusedVariables false

theorem may_div (s h : Int) (h1 : 1 ≤ s) (h2 : 1 ≤ h) : decide ((s - 1) / h < 4096) = decide (s ≤ 4096 * h) := by
  rw [decide_eq_decide, Int.ediv_lt_iff_lt_mul (by omega)]
  omega

set_option maxHeartbeats 1000000 in
theorem rmay_any (s h wd : Int) (w : World) :
    Calls Try.prog 12 #[.agg #[.int .i64 s, .int .i64 h], .int .i64 wd] w fun e w' => e = .returned (.bool (mayB s h wd)) ∧ Below w.heap.size w w' := by
  by_cases c1 : 1 ≤ wd
  · by_cases c2 : 1 ≤ s
    · by_cases c3 : s ≤ 1099511627776
      · by_cases c4 : 1 ≤ h
        · by_cases c5 : h ≤ 1099511627776
          · by_cases c6 : s % wd = 0
            · have b6 : (s % wd == 0) = true := by simpa using c6
              have C6 := Lib.hid c6; clear c6
              by_cases c7 : h % wd = 0
              · have b7 : (h % wd == 0) = true := by simpa using c7
                have C7 := Lib.hid c7; clear c7
                have b8 := may_div s h c2 c4
                go_enter Try.func12, Try.ntmps12
                go_wp2
                go_ret
                exact ⟨ret_bool (by simp [mayB, fitsB, c1, c2, c3, c4, c5, C6.out, C7.out]), ((Below.refl _ _).alloc (by simp) _)⟩
              · have b7 : (h % wd == 0) = false := by simpa using c7
                go_enter Try.func12, Try.ntmps12
                go_wp2
                go_ret
                exact ⟨ret_bool (by simp [mayB, fitsB]; try omega), ((Below.refl _ _).alloc (by simp) _)⟩
            · have b6 : (s % wd == 0) = false := by simpa using c6
              go_enter Try.func12, Try.ntmps12
              go_wp2
              go_ret
              exact ⟨ret_bool (by simp [mayB, fitsB]; try omega), ((Below.refl _ _).alloc (by simp) _)⟩
          · go_enter Try.func12, Try.ntmps12
            go_wp2
            go_ret
            exact ⟨ret_bool (by simp [mayB, fitsB]; try omega), ((Below.refl _ _).alloc (by simp) _)⟩
        · go_enter Try.func12, Try.ntmps12
          go_wp2
          go_ret
          exact ⟨ret_bool (by simp [mayB, fitsB]; try omega), ((Below.refl _ _).alloc (by simp) _)⟩
      · go_enter Try.func12, Try.ntmps12
        go_wp2
        go_ret
        exact ⟨ret_bool (by simp [mayB, fitsB]; try omega), ((Below.refl _ _).alloc (by simp) _)⟩
    · go_enter Try.func12, Try.ntmps12
      go_wp2
      go_ret
      exact ⟨ret_bool (by simp [mayB, fitsB]; try omega), ((Below.refl _ _).alloc (by simp) _)⟩
  · go_enter Try.func12, Try.ntmps12
    go_wp2
    go_ret
    exact ⟨ret_bool (by simp [mayB, fitsB]; try omega), ((Below.refl _ _).alloc (by simp) _)⟩

end Go.Proofs.Ytcaglkefhbbnbaa
