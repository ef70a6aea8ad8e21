/- A part of an evaluator of the program's operations over values that are known whole or in part, and of the proof that what it answers holds of the program's run. No condition. -/
import Derived.Test.YtofkgopegmoidaaGreatDoorS32
namespace T1
open Go Go.Ab Go.Proofs
open Go.RowKit (Below)
set_option maxRecDepth 100000
noncomputable def code16 : Code := (Tryz.f16.body).getD .skip
theorem known44_true : T1.isTrue (enter T1.E (exec T1.E 3000) ⟨.lf, .lf, 0, 0, []⟩ [] Tryz.f16 code16) = true := by kernel_rfl
theorem isTrue_eq {r : Out} (h : T1.isTrue r = true) : ∃ h' c tl, r = .ok (.bool true) h' c tl := by
  cases r with
  | no => cases h
  | ok v h' c tl =>
    have h2 : oE (asBool v) false (fun b => b) = true := h
    cases hb : asBool v with
    | none => rw [hb] at h2; cases h2
    | some b =>
      rw [hb, oE_some] at h2
      obtain rfl := asBool_eq hb
      subst h2
      exact ⟨h', c, tl, rfl⟩
theorem fn16 : T1.E.fn.get 16 = some Tryz.f16 := by kernel_rfl
theorem body16 : Tryz.f16.body = some code16 := by kernel_rfl
theorem known44 (w : World) : Calls Tryz.prog 16 #[] w fun e w' => e = .returned (.bool true) ∧ Below w.heap.size w w' := by
  obtain ⟨h, c, tl, e⟩ := isTrue_eq known44_true
  exact closed_ok envOK bodyOK fn16 body16 e w fun ρ u w' hu hw => by cases hu; exact ⟨rfl, hw⟩
end T1
