/- A part of an evaluator of the program's operations over values that are known whole or in part, and of the proof that what it answers holds of the program's run. No condition. -/
import Derived.Test.YtofkgopegmoidaaGreatDoorWS27
import Derived.KernelRfl
namespace T1
open Go Go.Ab Go.Proofs
set_option maxRecDepth 100000
noncomputable section
theorem mix : Tryz.prog.follows .mixedOrders = true := by kernel_rfl
theorem tysOK : tysB Tryz.prog [25, 27] 0 T1.tys = true := by kernel_rfl
def fnB (g : Func) : Bool := !(g.name == "runtime.NumGoroutine") && (match g.body with | some c => okCode g.ntmps c | none => true)
theorem funsOK : T1.fns.all fnB = true := by kernel_rfl
theorem funsEq : Tryz.prog.funcs.toList = T1.fns := by kernel_rfl
end
end T1
