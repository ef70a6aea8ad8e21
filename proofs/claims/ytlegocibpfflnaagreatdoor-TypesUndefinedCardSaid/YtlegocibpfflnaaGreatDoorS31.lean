/- A part of an evaluator of the program's operations over values that are known whole or in part, and of the proof that what it answers holds of the program's run. No condition. -/
import Derived.Test.YtlegocibpfflnaaGreatDoorS30
namespace T1
open Go Go.Ab Go.Proofs
theorem func_of {f : Nat} {g : Func} (h : T1.E.fn.get f = some g) : Tryz.prog.funcs[f]? = some g ∧ fnB g = true := by
  have hE : T1.E.fn = Tr.ofList T1.fns := by kernel_rfl
  rw [hE, ofList_get] at h
  have h1 := h
  refine ⟨by rw [← Array.getElem?_toList, funsEq]; exact h1, List.all_eq_true.1 funsOK g (List.mem_of_getElem? h1)⟩
theorem bodyOK : BodyOK T1.E := by
  intro f g c hf hc
  have h := (func_of hf).2
  unfold fnB at h
  rw [hc, Bool.and_eq_true] at h
  exact h.2
theorem envOK : EnvOK Tryz.prog T1.E where
  mix := mix
  ty := fun t i h => by
    have hE : T1.E.ty = Tr.ofListO T1.tys := by kernel_rfl
    rw [hE, ofListO_get] at h
    have h1 := h
    have h2 : T1.tys[t]? = some (some i) := by
      cases hx : T1.tys[t]? with
      | none => rw [hx] at h1; cases h1
      | some o => rw [hx] at h1; cases o <;> cases h1; rfl
    have := tysB_ok tysOK (fun j i hj hm => ?_) t i h2
    · rwa [Nat.zero_add] at this
    · rw [Nat.zero_add] at hm ⊢
      rcases List.mem_cons.1 hm with rfl | hm
      · have : T1.tys[23]? = some (some ⟨2, 24, true, [.bool false, .str []], .st [(4, 0), (9, 1)], true⟩) := by kernel_rfl
        rw [this] at hj; cases hj
        exact eqOKIN
      rcases List.mem_cons.1 hm with rfl | hm
      · have : T1.tys[25]? = some (some ⟨4, 48, true, [.bool false, .str [], .bool false, .str []], .st [(23, 0), (23, 2)], true⟩) := by kernel_rfl
        rw [this] at hj; cases hj
        exact eqOKRR
      rcases List.mem_cons.1 hm with rfl | hm
      · have : T1.tys[27]? = some (some ⟨8, 96, true, [.bool false, .str [], .bool false, .str [], .bool false, .str [], .bool false, .str []], .st [(25, 0), (25, 4)], true⟩) := by kernel_rfl
        rw [this] at hj; cases hj
        exact eqOKPT
      simp at hm
  fn := fun f g h => by
    obtain ⟨h1, h2⟩ := func_of h
    refine ⟨h1, fun hn => ?_⟩
    unfold fnB at h2
    rw [Bool.and_eq_true, hn] at h2
    simp at h2
  con := fun f k h => by
    have h' : (Tr.lf : Tr (Tr AB → List AV → Option AV)).get f = some k := h
    simp at h'
  ext := fun f k h ρ args v xs e hx => by
    have h' : ((((Tr.lf.set 206 1).set 212 0).set 219 2) : Tr Nat).get f = some k := h
    rw [Tr.get_set, Tr.get_set, Tr.get_set] at h'
    by_cases h219 : f = 219
    · rw [if_pos h219] at h'; cases h'; subst h219
      exact ext_add Tryz.func219 (by kernel_rfl) (by kernel_rfl) (by kernel_rfl) (by kernel_rfl) e hx
    rw [if_neg h219] at h'
    by_cases h212 : f = 212
    · rw [if_pos h212] at h'; cases h'; subst h212
      exact ext_cmp Tryz.func212 (by kernel_rfl) (by kernel_rfl) (by kernel_rfl) (by kernel_rfl) e hx
    rw [if_neg h212] at h'
    by_cases h206 : f = 206
    · rw [if_pos h206] at h'; cases h'; subst h206
      exact ext_idx Tryz.func206 (by kernel_rfl) (by kernel_rfl) (by kernel_rfl) (by kernel_rfl) e hx
    rw [if_neg h206] at h'
    simp at h'
end T1
