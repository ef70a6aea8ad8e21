/- A part of an evaluator of the program's operations over values that are known whole or in part, and of the proof that what it answers holds of the program's run. No condition. -/
import Derived.Test.YtlegocibpfflnaaGreatDoorS31
namespace Go.Ab
open Go.RowKit (Below)
/-- A run in an empty heap of the evaluator's: arguments that lead to no memory. -/
theorem run_ok {P : Program} {E : Env} (hE : EnvOK P E) (hb : BodyOK E) {n f : Nat} {fn : Func} {code : Code} {args : List AV} {xs : List Value} (hf : E.fn.get f = some fn) (hbody : fn.body = some code) {v : AV} {h : Tr AB} {c : Nat} {tl : List Nat}
    (e : enter E (exec E n) ⟨.lf, .lf, 0, 0, []⟩ args fn code = .ok v h c tl) (hx : RVs (fun _ => none) args xs) (w : World) {R : Ending → World → Prop}
    (hR : ∀ ρ u w', RV ρ v u → Below w.heap.size w w' → R (.returned u) w') : Calls P f xs.toArray w R :=
  enter_ok (P := P) (B := w.heap.size) (ρ := fun _ => none) (G := fun _ => none) (w := w) hE hb (Mono.exec E n) (exec_ok hE hb n) hf hbody e hx
    ⟨fun _ _ h => (by cases h), fun _ _ _ _ _ _ h => (by cases h), fun _ _ h => (by cases h)⟩ (Nat.le_refl _) (fun _ _ => rfl) (fun _ _ _ => rfl) (fun _ _ h => by simp at h) (R := R) (fun u ρ' G' w' A => hR ρ' u w' A.rv A.bel)
/-- A closed run: no arguments. -/
theorem closed_ok {P : Program} {E : Env} (hE : EnvOK P E) (hb : BodyOK E) {n f : Nat} {fn : Func} {code : Code} (hf : E.fn.get f = some fn) (hbody : fn.body = some code) {v : AV} {h : Tr AB} {c : Nat} {tl : List Nat}
    (e : enter E (exec E n) ⟨.lf, .lf, 0, 0, []⟩ [] fn code = .ok v h c tl) (w : World) {R : Ending → World → Prop}
    (hR : ∀ ρ u w', RV ρ v u → Below w.heap.size w w' → R (.returned u) w') : Calls P f #[] w R :=
  run_ok hE hb hf hbody e .nil w hR
/-- a function that takes no arguments, and its one result -/
noncomputable def constK (v : AV) (_ : Tr AB) (l : List AV) : Option AV := lE l (some v) (fun _ _ => none)
theorem constK_eq {v u : AV} {H : Tr AB} {l : List AV} (h : constK v H l = some u) : l = [] ∧ u = v := by
  cases l with
  | nil => cases (show some v = some u from h); exact ⟨rfl, rfl⟩
  | cons => cases h
end Go.Ab
