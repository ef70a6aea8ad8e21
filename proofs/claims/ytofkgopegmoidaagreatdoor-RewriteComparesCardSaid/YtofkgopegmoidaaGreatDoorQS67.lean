/- A part of an evaluator of the program's operations over values that are known whole or in part, and of the proof that what it answers holds of the program's run. No condition. -/
import Derived.Test.YtofkgopegmoidaaGreatDoorQS65
namespace T1
open Go Go.Ab Go.Proofs
open Go.RowKit (Below)
set_option maxRecDepth 100000
theorem kp3 : see [0, 2, 3, 4, 5] [6241, 11953, 6216, 6199, 6214] (exec E46 6000 A3 z3) = some x3 := by kernel_rfl
end T1
