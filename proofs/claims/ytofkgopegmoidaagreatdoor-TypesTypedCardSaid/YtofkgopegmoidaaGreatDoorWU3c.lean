/- A part of an evaluator of the program's operations over values that are known whole or in part, and of the proof that what it answers holds of the program's run. No condition. -/
import Derived.Test.YtofkgopegmoidaaGreatDoorWU3
namespace T1
open Go Go.Ab Go.Proofs
theorem numc : numChk (from' 128 64) = true := by kernel_rfl
end T1
