/- A part of an evaluator of the program's operations over values that are known whole or in part, and of the proof that what it answers holds of the program's run. No condition. -/
import Derived.Test.YtlegocibpfflnaaGreatDoorS33
namespace T1
open Go Go.Ab Go.Proofs
open Go.RowKit (Below)
set_option maxRecDepth 100000
theorem fn5 : T1.E.fn.get 5 = some Tryz.f5 := by kernel_rfl
theorem body5 : Tryz.f5.body = some (bodyOf Tryz.f5) := by kernel_rfl
theorem known44_true : T1.isTrue (enter T1.E (exec T1.E 3000) ⟨.lf, .lf, 0, 0, []⟩ [] Tryz.f5 (bodyOf Tryz.f5)) = true := by kernel_rfl
theorem known44 (w : World) : Calls Tryz.prog 5 #[] w fun e w' => e = .returned (.bool true) ∧ Below w.heap.size w w' :=
  isTrue_ok (xs := []) envOK bodyOK fn5 body5 known44_true .nil w
end T1
