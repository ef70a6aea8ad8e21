/- A part of an evaluator of the program's operations over values that are known whole or in part, and of the proof that what it answers holds of the program's run. No condition. -/
import Derived.Test.YtofkgopegmoidaaGreatDoorWS39
namespace T1
open Go Go.Ab Go.Proofs
set_option maxRecDepth 100000
theorem q16 : chkQ (.ofNat 13) = true := by kernel_rfl
theorem q17 : chkQ (.ofNat 14) = true := by kernel_rfl
theorem q18 : chkQ (.ofNat 15) = true := by kernel_rfl
theorem q19 : chkQ (.ofNat 16) = true := by kernel_rfl
theorem q20 : chkQ (.ofNat 17) = true := by kernel_rfl
theorem q21 : chkQ (.ofNat 18) = true := by kernel_rfl
theorem q22 : chkQ (.ofNat 19) = true := by kernel_rfl
theorem q23 : chkQ (.ofNat 20) = true := by kernel_rfl
theorem q24 : chkQ (.ofNat 21) = true := by kernel_rfl
theorem q25 : chkQ (.ofNat 22) = true := by kernel_rfl
theorem q26 : chkQ (.ofNat 23) = true := by kernel_rfl
theorem q27 : chkQ (.ofNat 24) = true := by kernel_rfl
theorem q28 : chkQ (.ofNat 25) = true := by kernel_rfl
theorem q29 : chkQ (.ofNat 26) = true := by kernel_rfl
theorem q30 : chkQ (.ofNat 27) = true := by kernel_rfl
theorem q31 : chkQ (.ofNat 28) = true := by kernel_rfl
end T1
