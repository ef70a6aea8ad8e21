/- A part of an evaluator of the program's operations over values that are known whole or in part, and of the proof that what it answers holds of the program's run. No condition. -/
import Derived.Test.YtofkgopegmoidaaGreatDoorQS65
namespace T1
open Go Go.Ab Go.Proofs
open Go.RowKit (Below)
set_option maxRecDepth 100000
theorem kp2 : see [0, 1, 2, 3] [47, 6241, 45, 6216, 20, 43, 6199, 6214, 18, 41] (exec E46 6000 A2 z2) = some x2 := by kernel_rfl
end T1
