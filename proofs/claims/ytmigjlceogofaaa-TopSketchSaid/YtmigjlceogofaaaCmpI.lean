/- Contract of cmp.Compare at int64. -/
import Derived.Test.YtmigjlceogofaaaKitQ
import Derived.Test.YtmigjlceogofaaaKitV
import Derived.Test.YtmigjlceogofaaaProg
namespace Go.Proofs.Ytmigjlceogofaaa
open Go.ChangeShapes Go.WideShapes Go.ChangeAt Go.RowKit
set_option linter.unusedVariables false
set_option linter.unusedSimpArgs false

set_option maxHeartbeats 400000 in
theorem cmpI_any (x y : Int) (w : World) : Calls Try.prog 77 #[.int .i64 x, .int .i64 y] w fun e w' => e = .returned (.int .i64 (cmpInt x y)) ∧ w = w' := by
  unfold cmpInt
  by_cases h1 : x < y
  · rw [if_pos h1]
    go_enter Try.func77, Try.ntmps77
    go_wp2
    go_ret
    exact ⟨rfl, rfl⟩
  · rw [if_neg h1]
    by_cases h2 : y < x
    · rw [if_pos h2]
      go_enter Try.func77, Try.ntmps77
      go_wp2
      go_ret
      exact ⟨rfl, rfl⟩
    · rw [if_neg h2]
      go_enter Try.func77, Try.ntmps77
      go_wp2
      go_ret
      exact ⟨rfl, rfl⟩
end Go.Proofs.Ytmigjlceogofaaa
