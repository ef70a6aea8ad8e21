/- A part of an evaluator of the program's operations over values that are known whole or in part, and of the proof that what it answers holds of the program's run. No condition. -/
import Derived.Test.YtofkgopegmoidaaGreatDoorQS66
import Derived.Test.YtofkgopegmoidaaGreatDoorQS67
namespace T1
open Go Go.Ab Go.Proofs
open Go.RowKit (Below)
set_option maxRecDepth 100000
theorem known46 (w : World) : Calls Tryz.prog 9 #[] w fun e w' => e = .returned (.bool true) ∧ Below w.heap.size w w' := by
  obtain ⟨q, s, h', c, tl, h1, h2⟩ := endT_eq kp4
  have r4 : Runs Tryz.prog Tryz.f9.ntmps B3 z4 q s := Runs.of_exec envOK46 bodyOK46 h1 okB3
  have r3 : Runs Tryz.prog Tryz.f9.ntmps B2 z3 q s := seq3 ▸ Runs.piece envOK46 bodyOK46 kp3 okA3 r4
  have r2 : Runs Tryz.prog Tryz.f9.ntmps B1 z2 q s := seq2 ▸ Runs.piece envOK46 bodyOK46 kp2 okA2 r3
  have r1 : Runs Tryz.prog Tryz.f9.ntmps B0 z1 q s := seq1 ▸ Runs.piece envOK46 bodyOK46 kp1 okA1 r2
  have r0 : Runs Tryz.prog Tryz.f9.ntmps code9 z0 q s := seq0 ▸ Runs.piece envOK46 bodyOK46 kp0 okA0 r1
  exact calls_of_runs (xs := []) envOK46 Tryz.func9 (by kernel_rfl) r0 h2 .nil w fun ρ u w' hu hw => by cases hu; exact ⟨rfl, hw⟩
#print axioms known46
end T1
