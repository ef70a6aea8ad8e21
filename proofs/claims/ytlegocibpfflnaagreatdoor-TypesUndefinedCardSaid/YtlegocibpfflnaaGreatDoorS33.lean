/- A part of an evaluator of the program's operations over values that are known whole or in part, and of the proof that what it answers holds of the program's run. No condition. -/
import Derived.Test.YtlegocibpfflnaaGreatDoorS32
namespace T1
open Go Go.Ab Go.Proofs
open Go.RowKit (Below)
set_option maxRecDepth 100000
noncomputable def bodyOf (f : Func) : Code := (f.body).getD .skip
theorem isTrue_eq {r : Out} (h : T1.isTrue r = true) : ∃ h' c tl, r = .ok (.bool true) h' c tl := by
  cases r with
  | no => cases h
  | ok v h' c tl =>
    have h2 : oE (asBool v) false (fun b => b) = true := h
    cases hb : asBool v with
    | none => rw [hb] at h2; cases h2
    | some b =>
      rw [hb, oE_some] at h2
      obtain rfl := asBool_eq hb
      subst h2
      exact ⟨h', c, tl, rfl⟩
theorem isTrue_ok {E : Env} (hE : EnvOK Tryz.prog E) (hb : BodyOK E) {n f : Nat} {fn : Func} {code : Code} {args : List AV} {xs : List Value} (hf : E.fn.get f = some fn) (hbody : fn.body = some code)
    (h : isTrue (enter E (exec E n) ⟨.lf, .lf, 0, 0, []⟩ args fn code) = true) (hx : RVs (fun _ => none) args xs) (w : World) :
    Calls Tryz.prog f xs.toArray w fun e w' => e = .returned (.bool true) ∧ Below w.heap.size w w' := by
  obtain ⟨h', c, tl, e⟩ := isTrue_eq h
  exact run_ok hE hb hf hbody e hx w fun ρ u w' hu hw => by cases hu; exact ⟨rfl, hw⟩
noncomputable def allB (f : AV → Bool) (l : List AV) : Bool := List.rec (motive := fun _ => Bool) true (fun x _ ih => bE (f x) ih false) l
theorem allB_ok {f : AV → Bool} : ∀ {l : List AV}, allB f l = true → ∀ x ∈ l, f x = true
  | [], _, x, hx => by simp at hx
  | y :: l, h, x, hx => by
    have h' : bE (f y) (allB f l) false = true := h
    cases hy : f y with
    | false => rw [hy] at h'; cases h'
    | true =>
      rw [hy, bE_true] at h'
      rcases List.mem_cons.1 hx with rfl | hx
      · exact hy
      · exact allB_ok h' x hx
/-- what is asked of a table of contracts -/
def ConOK (con : Tr (Tr AB → List AV → Option AV)) : Prop := ∀ f k, con.get f = some k → ∀ (ρ : Rho) (h : Tr AB) (args : List AV) (v : AV) (xs : List Value), k h args = some v → RVs ρ args xs →
    (∃ fn code, Tryz.prog.funcs[f]? = some fn ∧ fn.name ≠ "runtime.NumGoroutine" ∧ fn.body = some code) ∧
    ∀ (B : Nat) (G : Hp) (w : World), RH B ρ G w → (∀ n o, h.get n = some o → G n = some o) →
      Calls Tryz.prog f xs.toArray w fun e w' => ∃ u, e = .returned u ∧ RV ρ v u ∧ Below w.heap.size w w'
theorem envOK_con {con : Tr (Tr AB → List AV → Option AV)} (h : ConOK con) : EnvOK Tryz.prog ⟨fnT, tyT, exT, con⟩ where
  mix := envOK.mix
  ty := envOK.ty
  fn := envOK.fn
  ext := envOK.ext
  con := h
theorem has {f : Nat} {fn : Func} (h : T1.E.fn.get f = some fn) (hb : fn.body = some (bodyOf fn)) : ∃ g code, Tryz.prog.funcs[f]? = some g ∧ g.name ≠ "runtime.NumGoroutine" ∧ g.body = some code :=
  ⟨fn, _, (envOK.fn f fn h).1, (envOK.fn f fn h).2, hb⟩
/-- a table of one contract: a function of no arguments, its answer true -/
theorem conOK_one {g : Nat} {fn : Func} (hf : T1.E.fn.get g = some fn) (hb : fn.body = some (bodyOf fn)) (h : ∀ w, Calls Tryz.prog g #[] w fun e w' => e = .returned (.bool true) ∧ Below w.heap.size w w') : ConOK (Tr.lf.set g (constK (.bool true))) := by
  intro f k hk ρ H args v xs e hx
  rw [Tr.get_set] at hk
  by_cases h1 : f = g
  · rw [if_pos h1] at hk; cases hk; subst h1
    obtain ⟨rfl, rfl⟩ := constK_eq e
    cases hx
    refine ⟨has hf hb, fun B G w _ _ => (h w).mono fun e w' he => ?_⟩
    exact ⟨_, he.1, .bool true, he.2⟩
  · rw [if_neg h1] at hk; simp at hk
end T1
