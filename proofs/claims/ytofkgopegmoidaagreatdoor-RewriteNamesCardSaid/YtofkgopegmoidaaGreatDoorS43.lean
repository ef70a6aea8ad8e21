/- A part of an evaluator of the program's operations over values that are known whole or in part, and of the proof that what it answers holds of the program's run. No condition. -/
import Derived.Test.YtofkgopegmoidaaGreatDoorS42
import Derived.Test.YtofkgopegmoidaaGreatDoorS34
namespace T1
open Go Go.Ab Go.Proofs
open Go.RowKit (Below)
set_option maxRecDepth 100000
/-- The tables, with known's answer. -/
noncomputable def E9 : Env := ⟨fnT, tyT, exT, Tr.lf.set 9 (constK (.bool true))⟩
theorem fn9 : T1.E.fn.get 9 = some Tryz.f9 := by kernel_rfl
theorem body9 : Tryz.f9.body = some (bodyOf Tryz.f9) := by kernel_rfl
theorem envOK9 : EnvOK Tryz.prog E9 := envOK_con fun f k h ρ H args v xs e hx => by
  have h' : (Tr.lf.set 9 (constK (.bool true))).get f = some k := h
  rw [Tr.get_set] at h'
  by_cases h1 : f = 9
  · rw [if_pos h1] at h'; cases h'; subst h1
    obtain ⟨rfl, rfl⟩ := constK_eq e
    cases hx
    refine ⟨has fn9 body9, fun B G w _ _ => (known46 w).mono fun e w' he => ?_⟩
    exact ⟨_, he.1, .bool true, he.2⟩
  · rw [if_neg h1] at h'; simp at h'
theorem bodyOK9 : BodyOK E9 := bodyOK
noncomputable def code4 : Code := bodyOf Tryz.f4
theorem fn4 : E9.fn.get 4 = some Tryz.f4 := by kernel_rfl
theorem body4 : Tryz.f4.body = some code4 := by kernel_rfl
/-- RewriteNames at a number that is known in part. -/
noncomputable def rn (a : AV) : Bool := isTrue (enter E9 (exec E9 3000) ⟨.lf, .lf, 0, 0, []⟩ [a] Tryz.f4 code4)
noncomputable def rules : List AV := [.rng .i64 none (some 0), .rng .i64 (some 18) none, .int .i64 1, .int .i64 2, .int .i64 3, .int .i64 4, .int .i64 5, .int .i64 6, .int .i64 7, .int .i64 8, .int .i64 9, .int .i64 10, .int .i64 11, .int .i64 12, .int .i64 13, .int .i64 14, .int .i64 15, .int .i64 16, .int .i64 17]
theorem rn_all : allB rn rules = true := by kernel_rfl
theorem rules_has (t : Int) : ∃ a ∈ rules, RV (fun _ => none) a (.int .i64 t) := by
  by_cases h0 : t ≤ 0
  · exact ⟨.rng .i64 none (some 0), by simp [rules], .rng _ _ _ _ (fun l h => by cases h) (fun l h => by cases h; exact h0)⟩
  by_cases h9 : 18 ≤ t
  · exact ⟨.rng .i64 (some 18) none, by simp [rules], .rng _ _ _ _ (fun l h => by cases h; exact h9) (fun l h => by cases h)⟩
  refine ⟨.int .i64 t, ?_, .int _ _⟩
  have : t = 1 ∨ t = 2 ∨ t = 3 ∨ t = 4 ∨ t = 5 ∨ t = 6 ∨ t = 7 ∨ t = 8 ∨ t = 9 ∨ t = 10 ∨ t = 11 ∨ t = 12 ∨ t = 13 ∨ t = 14 ∨ t = 15 ∨ t = 16 ∨ t = 17 := by omega
  rcases this with rfl | rfl | rfl | rfl | rfl | rfl | rfl | rfl | rfl | rfl | rfl | rfl | rfl | rfl | rfl | rfl | rfl <;> simp [rules]
theorem law4 (t : Int) (w : World) : Calls Tryz.prog 4 #[.int .i64 t] w fun e w' => e = .returned (.bool true) ∧ Below w.heap.size w w' := by
  obtain ⟨a, ha, hra⟩ := rules_has t
  exact isTrue_ok (xs := [.int .i64 t]) envOK9 bodyOK9 fn4 body4 (allB_ok rn_all a ha) (.cons hra .nil) w
#print axioms law4
end T1
