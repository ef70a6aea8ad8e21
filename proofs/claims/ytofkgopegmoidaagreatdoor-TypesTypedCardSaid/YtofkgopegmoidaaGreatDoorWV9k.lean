/- A part of an evaluator of the program's operations over values that are known whole or in part, and of the proof that what it answers holds of the program's run. No condition. -/
import Derived.Test.YtofkgopegmoidaaGreatDoorWS64
import Derived.Test.YtofkgopegmoidaaGreatDoorWS59
namespace T1
open Go Go.Ab Go.Proofs
open Go.RowKit (Below)
set_option maxRecDepth 100000
noncomputable def isTrueO (r : Out) : Bool := okE r false (fun v _ _ _ => oE (asBool v) false (fun b => b))
theorem known44_run : isTrueO (enter EN (exec EN 3000) ⟨.lf, .lf, 0, 0, []⟩ [] Tryz.f16 (bodyOf Tryz.f16)) = true := by kernel_rfl
theorem isTrueO_eq {r : Out} (h : isTrueO r = true) : ∃ h' c tl, r = .ok (.bool true) h' c tl := by
  cases r with
  | no => cases h
  | ok v h' c tl =>
    have h2 : oE (asBool v) false (fun b => b) = true := h
    cases hb : asBool v with
    | none => rw [hb] at h2; cases h2
    | some b =>
      rw [hb, oE_some] at h2
      obtain rfl := asBool_eq hb
      subst h2
      exact ⟨h', c, tl, rfl⟩
theorem fn16 : T1.E.fn.get 16 = some Tryz.f16 := by kernel_rfl
theorem body16 : Tryz.f16.body = some (bodyOf Tryz.f16) := by kernel_rfl
theorem known44 (w : World) : Calls Tryz.prog 16 #[] w fun e w' => e = .returned (.bool true) ∧ Below w.heap.size w w' := by
  obtain ⟨h, c, tl, e⟩ := isTrueO_eq known44_run
  refine run_gen (E := EN) (I := invT) (B := w.heap.size) (ρ := fun _ => none) (G := fun _ => none) (xs := []) ⟨envOK_con _, invT_ok, conLf_ok⟩ bodyOK fn16 body16 e .nil
    ⟨fun _ _ h => (by cases h), fun _ _ _ _ _ _ h => (by cases h), fun n L h => (by cases h)⟩ trivial (Nat.le_refl _) (fun _ _ => by simp) (fun _ _ _ => rfl) (fun _ _ h => by simp at h) fun u ρ' G' w' A _ => ?_
  have hu := A.rv
  cases hu
  exact ⟨rfl, A.bel⟩
#print axioms known44
end T1
