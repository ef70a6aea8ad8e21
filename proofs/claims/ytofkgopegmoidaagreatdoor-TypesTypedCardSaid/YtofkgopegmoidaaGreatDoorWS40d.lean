/- A part of an evaluator of the program's operations over values that are known whole or in part, and of the proof that what it answers holds of the program's run. No condition. -/
import Derived.Test.YtofkgopegmoidaaGreatDoorWS39
namespace T1
open Go Go.Ab Go.Proofs
set_option maxRecDepth 100000
theorem q48 : chkQ (.ofNat 45) = true := by kernel_rfl
theorem q49 : chkQ (.ofNat 46) = true := by kernel_rfl
theorem q50 : chkQ (.ofNat 47) = true := by kernel_rfl
theorem q51 : chkQ (.ofNat 48) = true := by kernel_rfl
theorem q52 : chkQ (.ofNat 49) = true := by kernel_rfl
theorem q53 : chkQ (.ofNat 50) = true := by kernel_rfl
theorem q54 : chkQ (.ofNat 51) = true := by kernel_rfl
theorem q55 : chkQ (.ofNat 52) = true := by kernel_rfl
theorem q56 : chkQ (.ofNat 53) = true := by kernel_rfl
theorem q57 : chkQ (.ofNat 54) = true := by kernel_rfl
theorem q58 : chkQ (.ofNat 55) = true := by kernel_rfl
theorem q59 : chkQ (.ofNat 56) = true := by kernel_rfl
theorem q60 : chkQ (.ofNat 57) = true := by kernel_rfl
theorem q61 : chkQ (.ofNat 58) = true := by kernel_rfl
theorem q62 : chkQ (.ofNat 59) = true := by kernel_rfl
theorem q63 : chkQ (.ofNat 60) = true := by kernel_rfl
end T1
