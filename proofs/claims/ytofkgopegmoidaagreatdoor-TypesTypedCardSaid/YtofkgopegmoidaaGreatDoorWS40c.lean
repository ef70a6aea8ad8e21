/- A part of an evaluator of the program's operations over values that are known whole or in part, and of the proof that what it answers holds of the program's run. No condition. -/
import Derived.Test.YtofkgopegmoidaaGreatDoorWS39
namespace T1
open Go Go.Ab Go.Proofs
set_option maxRecDepth 100000
theorem q32 : chkQ (.ofNat 29) = true := by kernel_rfl
theorem q33 : chkQ (.ofNat 30) = true := by kernel_rfl
theorem q34 : chkQ (.ofNat 31) = true := by kernel_rfl
theorem q35 : chkQ (.ofNat 32) = true := by kernel_rfl
theorem q36 : chkQ (.ofNat 33) = true := by kernel_rfl
theorem q37 : chkQ (.ofNat 34) = true := by kernel_rfl
theorem q38 : chkQ (.ofNat 35) = true := by kernel_rfl
theorem q39 : chkQ (.ofNat 36) = true := by kernel_rfl
theorem q40 : chkQ (.ofNat 37) = true := by kernel_rfl
theorem q41 : chkQ (.ofNat 38) = true := by kernel_rfl
theorem q42 : chkQ (.ofNat 39) = true := by kernel_rfl
theorem q43 : chkQ (.ofNat 40) = true := by kernel_rfl
theorem q44 : chkQ (.ofNat 41) = true := by kernel_rfl
theorem q45 : chkQ (.ofNat 42) = true := by kernel_rfl
theorem q46 : chkQ (.ofNat 43) = true := by kernel_rfl
theorem q47 : chkQ (.ofNat 44) = true := by kernel_rfl
end T1
