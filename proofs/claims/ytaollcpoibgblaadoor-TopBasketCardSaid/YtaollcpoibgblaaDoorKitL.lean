/- The zero of int64. -/
import Derived.Test.YtaollcpoibgblaaDoorKitK
namespace Go.Proofs.YtaollcpoibgblaaDoor
theorem zero_i64 (w : World) : (zeroValue 2).run Tryd.prog w = .ok (.int .i64 0) w := by kernel_rfl
end Go.Proofs.YtaollcpoibgblaaDoor
