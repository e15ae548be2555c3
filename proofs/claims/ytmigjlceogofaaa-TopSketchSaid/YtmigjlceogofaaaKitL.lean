/- The zero of int64. -/
import Derived.Test.YtmigjlceogofaaaKitK
namespace Go.Proofs.Ytmigjlceogofaaa
theorem zero_i64 (w : World) : (zeroValue 2).run Try.prog w = .ok (.int .i64 0) w := by kernel_rfl
end Go.Proofs.Ytmigjlceogofaaa
