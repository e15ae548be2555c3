/- The zero of int64. -/
import Derived.Test.YthbijemihaekiaaGreatDoorKitK
namespace Go.Proofs.YthbijemihaekiaaGreatDoor
theorem zero_i64 (w : World) : (zeroValue 2).run Tryz.prog w = .ok (.int .i64 0) w := by kernel_rfl
end Go.Proofs.YthbijemihaekiaaGreatDoor
