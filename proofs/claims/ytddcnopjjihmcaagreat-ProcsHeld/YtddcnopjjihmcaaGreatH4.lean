import Derived.Test.YtddcnopjjihmcaaGreatH3
set_option linter.unusedVariables false
set_option maxRecDepth 100000
namespace Go.Ev.G
open Go.Ev
theorem held_false : valB (.bool true) (F.callF tab prim2 200 (.it p5) [.sb .i64 0 (.ofNat 0), .bool false] mt) = true := by kernel_rfl
end Go.Ev.G
