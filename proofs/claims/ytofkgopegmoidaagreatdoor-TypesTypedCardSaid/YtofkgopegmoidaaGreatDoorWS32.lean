/- A part of an evaluator of the program's operations over values that are known whole or in part, and of the proof that what it answers holds of the program's run. No condition. -/
import Derived.Test.YtofkgopegmoidaaGreatDoorWS28
import Derived.Test.YtofkgopegmoidaaGreatDoorWS29
namespace Go.Ab
theorem ofList_get {α : Type} (l : List α) (k : Nat) : (Tr.ofList l).get k = l[k]? := by
  have key : ∀ (l : List α) (i : Nat) (t : Tr α), (List.rec (motive := fun _ => Nat → Tr α → Tr α) (fun _ t => t)
      (fun x _ ih i t => Tr.tE (Tr.set t i x) .lf (fun a b c => ih (.succ i) (.nd a b c))) l i t).get k = if i ≤ k ∧ k < i + l.length then l[k - i]? else t.get k := by
    intro l
    induction l with
    | nil => intro i t; rw [if_neg (by simp only [List.length_nil]; omega)]
    | cons x l ih =>
      intro i t
      have hstep : (List.rec (motive := fun _ => Nat → Tr α → Tr α) (fun _ t => t)
        (fun x _ ih i t => Tr.tE (Tr.set t i x) .lf (fun a b c => ih (.succ i) (.nd a b c))) (x :: l) i t) =
        (List.rec (motive := fun _ => Nat → Tr α → Tr α) (fun _ t => t)
        (fun x _ ih i t => Tr.tE (Tr.set t i x) .lf (fun a b c => ih (.succ i) (.nd a b c))) l (i + 1) (Tr.set t i x)) := by
        show Tr.tE (Tr.set t i x) _ _ = _
        cases h : Tr.set t i x with
        | lf =>
          exfalso
          have := Tr.get_set t i x i
          rw [h, if_pos rfl] at this
          cases this
        | nd a b c => rfl
      rw [hstep, ih (i + 1) (Tr.set t i x), Tr.get_set]
      by_cases h : k = i
      · subst h
        rw [if_neg (by omega), if_pos rfl, if_pos (by simp)]
        simp
      · rw [if_neg h]
        by_cases h2 : i + 1 ≤ k ∧ k < i + 1 + l.length
        · rw [if_pos h2, if_pos (by simp; omega), show k - i = (k - (i + 1)) + 1 by omega, List.getElem?_cons_succ]
        · rw [if_neg h2, if_neg (by simp; omega)]
  have := key l 0 .lf
  rw [show Tr.ofList l = (List.rec (motive := fun _ => Nat → Tr α → Tr α) (fun _ t => t)
      (fun x _ ih i t => Tr.tE (Tr.set t i x) .lf (fun a b c => ih (.succ i) (.nd a b c))) l 0 .lf) from rfl, this]
  simp only [Nat.zero_le, Nat.sub_zero, Nat.zero_add, true_and, Tr.get_lf]
  split
  · rfl
  · next h => rw [List.getElem?_eq_none (by omega)]
end Go.Ab
namespace T1
open Go Go.Ab Go.Proofs
theorem func_of {f : Nat} {g : Func} (h : T1.E.fn.get f = some g) : Tryz.prog.funcs[f]? = some g ∧ fnB g = true := by
  have hE : T1.E.fn = Tr.ofList T1.fns := by kernel_rfl
  rw [hE, ofList_get] at h
  have h1 := h
  refine ⟨by rw [← Array.getElem?_toList, funsEq]; exact h1, List.all_eq_true.1 funsOK g (List.mem_of_getElem? h1)⟩
theorem bodyOK : BodyOK T1.E := by
  intro f g c hf hc
  have h := (func_of hf).2
  unfold fnB at h
  rw [hc, Bool.and_eq_true] at h
  exact h.2
theorem envOK : EnvOK Tryz.prog T1.E where
  mix := mix
  ty := fun t i h => by
    have hE : T1.E.ty = Tr.ofListO T1.tys := by kernel_rfl
    rw [hE, ofListO_get] at h
    have h1 := h
    have h2 : T1.tys[t]? = some (some i) := by
      cases hx : T1.tys[t]? with
      | none => rw [hx] at h1; cases h1
      | some o => rw [hx] at h1; cases o <;> cases h1; rfl
    have := tysB_ok tysOK (fun j i hj hm => ?_) t i h2
    · rwa [Nat.zero_add] at this
    · rw [Nat.zero_add] at hm ⊢
      rcases List.mem_cons.1 hm with rfl | hm
      · have : T1.tys[25]? = some (some ⟨2, 24, true, [.bool false, .str []], .st [(4, 0), (9, 1)], true⟩) := by kernel_rfl
        rw [this] at hj; cases hj
        exact eqOK25
      · rcases List.mem_cons.1 hm with rfl | hm
        · have : T1.tys[27]? = some (some ⟨4, 48, true, [.bool false, .str [], .bool false, .str []], .st [(25, 0), (25, 2)], true⟩) := by kernel_rfl
          rw [this] at hj; cases hj
          exact eqOK27
        · simp at hm
  fn := fun f g h => by
    obtain ⟨h1, h2⟩ := func_of h
    refine ⟨h1, fun hn => ?_⟩
    unfold fnB at h2
    rw [Bool.and_eq_true, hn] at h2
    simp at h2
  ext := fun f k h ρ args v xs e hx => by
    have h' : (((Tr.lf.set 268 0).set 270 2).set 271 1 : Tr Nat).get f = some k := h
    rw [Tr.get_set, Tr.get_set, Tr.get_set] at h'
    by_cases h1 : f = 271
    · rw [if_pos h1] at h'; cases h'; subst h1
      exact ext_idx Tryz.func271 (by kernel_rfl) (by kernel_rfl) (by kernel_rfl) (by kernel_rfl) e hx
    · rw [if_neg h1] at h'
      by_cases h2 : f = 270
      · rw [if_pos h2] at h'; cases h'; subst h2
        exact ext_add Tryz.func270 (by kernel_rfl) (by kernel_rfl) (by kernel_rfl) (by kernel_rfl) e hx
      · rw [if_neg h2] at h'
        by_cases h3 : f = 268
        · rw [if_pos h3] at h'; cases h'; subst h3
          exact ext_cmp Tryz.func268 (by kernel_rfl) (by kernel_rfl) (by kernel_rfl) (by kernel_rfl) e hx
        · rw [if_neg h3] at h'; simp at h'
end T1
namespace Go.Ab
open Go.RowKit (Below)
/-- A run of a function out of any state of the evaluator's. -/
theorem run_gen {P : Program} {E : Env} {I : Inv} (hE : Ctx P E I) (hb : BodyOK E) {B : Nat} {ρ : Rho} {G : Hp} {w : World} {n : Nat} {s : St} {f : Nat} {fn : Func} {code : Code} {args : List AV} {xs : List Value} {v : AV} {h : Tr AB} {c : Nat} {tl : List Nat}
    (hf : E.fn.get f = some fn) (hbody : fn.body = some code) (e : enter E (exec E n) s args fn code = .ok v h c tl) (hx : RVs ρ args xs) (rh : RH B ρ G w) (inv : I B ρ G w) (hB : B ≤ w.heap.size) (wf : Wf s.h s.c)
    (fr : ∀ n, s.c ≤ n → n < c → ρ n = none) (hp : ∀ n o, s.h.get n = some o → G n = some o) {R : Ending → World → Prop}
    (hR : ∀ u ρ' G' w', Aft B ρ G w s v h c tl u ρ' G' w' → I B ρ' G' w' → R (.returned u) w') : Calls P f xs.toArray w R :=
  enter_ok hE hb (Mono.exec E n) (exec_ok hE hb n) hf hbody e hx rh inv hB wf fr hp hR
noncomputable def bodyOf (f : Func) : Code := (f.body).getD .skip
end Go.Ab
