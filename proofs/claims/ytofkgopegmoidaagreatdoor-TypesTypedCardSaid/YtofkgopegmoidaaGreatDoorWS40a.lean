/- A part of an evaluator of the program's operations over values that are known whole or in part, and of the proof that what it answers holds of the program's run. No condition. -/
import Derived.Test.YtofkgopegmoidaaGreatDoorWS39
namespace T1
open Go Go.Ab Go.Proofs
set_option maxRecDepth 100000
theorem q0 : chkQ (.negSucc 2) = true := by kernel_rfl
theorem q1 : chkQ (.negSucc 1) = true := by kernel_rfl
theorem q2 : chkQ (.negSucc 0) = true := by kernel_rfl
theorem q3 : chkQ (.ofNat 0) = true := by kernel_rfl
theorem q4 : chkQ (.ofNat 1) = true := by kernel_rfl
theorem q5 : chkQ (.ofNat 2) = true := by kernel_rfl
theorem q6 : chkQ (.ofNat 3) = true := by kernel_rfl
theorem q7 : chkQ (.ofNat 4) = true := by kernel_rfl
theorem q8 : chkQ (.ofNat 5) = true := by kernel_rfl
theorem q9 : chkQ (.ofNat 6) = true := by kernel_rfl
theorem q10 : chkQ (.ofNat 7) = true := by kernel_rfl
theorem q11 : chkQ (.ofNat 8) = true := by kernel_rfl
theorem q12 : chkQ (.ofNat 9) = true := by kernel_rfl
theorem q13 : chkQ (.ofNat 10) = true := by kernel_rfl
theorem q14 : chkQ (.ofNat 11) = true := by kernel_rfl
theorem q15 : chkQ (.ofNat 12) = true := by kernel_rfl
end T1
