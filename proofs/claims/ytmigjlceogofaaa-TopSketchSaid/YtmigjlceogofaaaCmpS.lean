/- Contract of cmp.Compare at texts. -/
import Derived.Test.YtmigjlceogofaaaKitQ
import Derived.Test.YtmigjlceogofaaaKitV
import Derived.Test.YtmigjlceogofaaaProg
namespace Go.Proofs.Ytmigjlceogofaaa
open Go.ChangeShapes Go.WideShapes Go.ChangeAt Go.RowKit
set_option linter.unusedVariables false
set_option linter.unusedSimpArgs false

set_option maxHeartbeats 400000 in
theorem cmpS_any (x y : ByteArray) (w : World) : Calls Try.prog 78 #[.string x, .string y] w fun e w' => e = .returned (.int .i64 (cmpStr x y)) ∧ w = w' := by
  cases h1 : sLt x y with
  | true =>
    have e : cmpStr x y = -1 := by unfold cmpStr; rw [if_pos h1]
    rw [e]
    unfold sLt at h1
    clear e
    go_enter Try.func78, Try.ntmps78
    go_wp2
    go_ret
    exact ⟨rfl, rfl⟩
  | false =>
    cases h2 : sLt y x with
    | true =>
      have e : cmpStr x y = 1 := by unfold cmpStr; rw [if_neg (by simp [h1]), if_pos h2]
      rw [e]
      have hne : (x.toList == y.toList) = false := by
        rw [str_beq]
        have : ¬ x = y := fun e => by subst e; rw [sLt_irrefl] at h2; cases h2
        simp [this]
      unfold sLt at h1
      clear e h2
      go_enter Try.func78, Try.ntmps78
      go_wp2
      go_ret
      exact ⟨rfl, rfl⟩
    | false =>
      have e : cmpStr x y = 0 := by unfold cmpStr; rw [if_neg (by simp [h1]), if_neg (by simp [h2])]
      rw [e]
      have hne : (x.toList == y.toList) = true := by rw [str_beq]; simp [sLt_total h1 h2]
      unfold sLt at h1
      clear e h2
      go_enter Try.func78, Try.ntmps78
      go_wp2
      go_ret
      exact ⟨rfl, rfl⟩
end Go.Proofs.Ytmigjlceogofaaa
