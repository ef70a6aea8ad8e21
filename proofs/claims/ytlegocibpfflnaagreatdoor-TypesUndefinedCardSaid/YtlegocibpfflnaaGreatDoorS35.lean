/- A part of an evaluator of the program's operations over values that are known whole or in part, and of the proof that what it answers holds of the program's run. No condition. -/
import Derived.Test.YtlegocibpfflnaaGreatDoorS34
namespace T1
open Go Go.Ab Go.Proofs
open Go.RowKit (Below)
set_option maxRecDepth 100000
noncomputable def E5 : Env := ⟨fnT, tyT, exT, Tr.lf.set 5 (constK (.bool true))⟩
theorem envOK5 : EnvOK Tryz.prog E5 := envOK_con (conOK_one fn5 body5 known44)
theorem bodyOK5 : BodyOK E5 := bodyOK
theorem fn3 : E5.fn.get 3 = some Tryz.f3 := by kernel_rfl
theorem body3 : Tryz.f3.body = some (bodyOf Tryz.f3) := by kernel_rfl
/-- TypesUndefined at a number that is known in part. -/
noncomputable def tu (a : AV) : Bool := isTrue (enter E5 (exec E5 3000) ⟨.lf, .lf, 0, 0, []⟩ [a] Tryz.f3 (bodyOf Tryz.f3))
noncomputable def nums : List AV := [.rng .i64 none (some 0), .rng .i64 (some 9) none, .int .i64 1, .int .i64 2, .int .i64 3, .int .i64 4, .int .i64 5, .int .i64 6, .int .i64 7, .int .i64 8]
theorem tu_all : allB tu nums = true := by kernel_rfl
theorem nums_has (t : Int) : ∃ a ∈ nums, RV (fun _ => none) a (.int .i64 t) := by
  by_cases h0 : t ≤ 0
  · exact ⟨.rng .i64 none (some 0), by simp [nums], .rng _ _ _ _ (fun l h => by cases h) (fun l h => by cases h; exact h0)⟩
  by_cases h9 : 9 ≤ t
  · exact ⟨.rng .i64 (some 9) none, by simp [nums], .rng _ _ _ _ (fun l h => by cases h; exact h9) (fun l h => by cases h)⟩
  refine ⟨.int .i64 t, ?_, .int _ _⟩
  have : t = 1 ∨ t = 2 ∨ t = 3 ∨ t = 4 ∨ t = 5 ∨ t = 6 ∨ t = 7 ∨ t = 8 := by omega
  rcases this with rfl | rfl | rfl | rfl | rfl | rfl | rfl | rfl <;> simp [nums]
theorem law3 (t : Int) (w : World) : Calls Tryz.prog 3 #[.int .i64 t] w fun e w' => e = .returned (.bool true) ∧ Below w.heap.size w w' := by
  obtain ⟨a, ha, hra⟩ := nums_has t
  exact isTrue_ok (xs := [.int .i64 t]) envOK5 bodyOK5 fn3 body3 (allB_ok tu_all a ha) (.cons hra .nil) w
#print axioms law3
end T1
