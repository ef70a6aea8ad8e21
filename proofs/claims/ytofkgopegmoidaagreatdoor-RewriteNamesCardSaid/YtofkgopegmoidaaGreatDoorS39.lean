/- A part of an evaluator of the program's operations over values that are known whole or in part, and of the proof that what it answers holds of the program's run. No condition. -/
import Derived.Test.YtofkgopegmoidaaGreatDoorS37
import Derived.Test.YtofkgopegmoidaaGreatDoorS38
import Derived.Test.YtofkgopegmoidaaGreatDoorS33
namespace T1
open Go Go.Ab Go.Proofs
open Go.RowKit (Below)
set_option maxRecDepth 100000
/-- The tables, with slices.Index, slices.Contains and rewrite.is as contracts. -/
noncomputable def cons46 : Tr (Tr AB → List AV → Option AV) := ((Tr.lf.set 213 containsK).set 247 indexK).set 149 isK
noncomputable def E46 : Env := ⟨fnT, tyT, exT, cons46⟩
noncomputable def bodyOf (f : Func) : Code := (f.body).getD .skip
theorem fn213 : T1.E.fn.get 213 = some Tryz.f213 := by kernel_rfl
theorem fn247 : T1.E.fn.get 247 = some Tryz.f247 := by kernel_rfl
theorem fn149 : T1.E.fn.get 149 = some Tryz.f149 := by kernel_rfl
theorem body213 : Tryz.f213.body = some (bodyOf Tryz.f213) := by kernel_rfl
theorem body247 : Tryz.f247.body = some (bodyOf Tryz.f247) := by kernel_rfl
theorem body149 : Tryz.f149.body = some (bodyOf Tryz.f149) := by kernel_rfl
theorem has {f : Nat} {fn : Func} (h : T1.E.fn.get f = some fn) (hb : fn.body = some (bodyOf fn)) : ∃ g code, Tryz.prog.funcs[f]? = some g ∧ g.name ≠ "runtime.NumGoroutine" ∧ g.body = some code :=
  ⟨fn, _, (envOK.fn f fn h).1, (envOK.fn f fn h).2, hb⟩
/-- what is asked of a table of contracts -/
def ConOK (con : Tr (Tr AB → List AV → Option AV)) : Prop := ∀ f k, con.get f = some k → ∀ (ρ : Rho) (h : Tr AB) (args : List AV) (v : AV) (xs : List Value), k h args = some v → RVs ρ args xs →
    (∃ fn code, Tryz.prog.funcs[f]? = some fn ∧ fn.name ≠ "runtime.NumGoroutine" ∧ fn.body = some code) ∧
    ∀ (B : Nat) (G : Hp) (w : World), RH B ρ G w → (∀ n o, h.get n = some o → G n = some o) →
      Calls Tryz.prog f xs.toArray w fun e w' => ∃ u, e = .returned u ∧ RV ρ v u ∧ Below w.heap.size w w'
theorem envOK_con {con : Tr (Tr AB → List AV → Option AV)} (h : ConOK con) : EnvOK Tryz.prog ⟨fnT, tyT, exT, con⟩ where
  mix := envOK.mix
  ty := envOK.ty
  fn := envOK.fn
  ext := envOK.ext
  con := h
theorem conOK46 : ConOK cons46 := by
  intro f k h ρ H args v xs e hx
  have h' : (((Tr.lf.set 213 containsK).set 247 indexK).set 149 isK).get f = some k := h
  rw [Tr.get_set, Tr.get_set, Tr.get_set] at h'
  by_cases h1 : f = 149
  · rw [if_pos h1] at h'; cases h'; subst h1
    exact ⟨has fn149 body149, fun B G w rh hp => is_con e hx rh hp⟩
  rw [if_neg h1] at h'
  by_cases h2 : f = 247
  · rw [if_pos h2] at h'; cases h'; subst h2
    exact ⟨has fn247 body247, fun B G w rh hp => index_con e hx rh hp⟩
  rw [if_neg h2] at h'
  by_cases h3 : f = 213
  · rw [if_pos h3] at h'; cases h'; subst h3
    exact ⟨has fn213 body213, fun B G w rh hp => contains_con e hx rh hp⟩
  rw [if_neg h3] at h'; simp at h'
theorem envOK46 : EnvOK Tryz.prog E46 := envOK_con conOK46
theorem bodyOK46 : BodyOK E46 := bodyOK
def fstC : Code → Code
  | .seq a _ => a
  | c => c
def sndC : Code → Code
  | .seq _ b => b
  | c => c
noncomputable def code9 : Code := bodyOf Tryz.f9
noncomputable def A0 : Code := fstC code9
noncomputable def B0 : Code := sndC code9
noncomputable def A1 : Code := fstC B0
noncomputable def B1 : Code := sndC B0
noncomputable def A2 : Code := fstC B1
noncomputable def B2 : Code := sndC B1
noncomputable def A3 : Code := fstC B2
noncomputable def B3 : Code := sndC B2
theorem seq0 : code9 = .seq A0 B0 := by kernel_rfl
theorem seq1 : B0 = .seq A1 B1 := by kernel_rfl
theorem seq2 : B1 = .seq A2 B2 := by kernel_rfl
theorem seq3 : B2 = .seq A3 B3 := by kernel_rfl
theorem okA0 : okCode Tryz.f9.ntmps A0 = true := by kernel_rfl
theorem okA1 : okCode Tryz.f9.ntmps A1 = true := by kernel_rfl
theorem okA2 : okCode Tryz.f9.ntmps A2 = true := by kernel_rfl
theorem okA3 : okCode Tryz.f9.ntmps A3 = true := by kernel_rfl
theorem okB3 : okCode Tryz.f9.ntmps B3 = true := by kernel_rfl
noncomputable def z0 : St := ⟨params [] .zero .lf, .lf, 0, 0, []⟩
noncomputable def x0 : Seen := ⟨[(.some (.bool .false))], [], 0⟩
noncomputable def z1 : St := mkS [0] [] x0
noncomputable def x1 : Seen := ⟨[(.some (.bool .false)), (.some (.ptr 47 0))], [(.some (.cells .fix [(.int .i64 (.ofNat 13)), (.str []), (.bool .false), (.str []), (.bool .false), (.str []), (.sl 45 0 2 (.fix 2))])), (.some (.cells .fix [(.int .i64 (.ofNat 12)), (.str []), (.bool .false), (.str []), (.bool .false), (.str []), (.sl 20 0 2 (.fix 2)), (.int .i64 (.ofNat 12)), (.str []), (.bool .false), (.str []), (.bool .false), (.str []), (.sl 43 0 2 (.fix 2))])), (.some (.cells .fix [(.int .i64 (.ofNat 3)), (.str []), (.bool .false), (.str [2]), (.bool .false), (.str []), .nils, (.int .i64 (.ofNat 6)), (.str []), (.bool .false), (.str []), (.bool .false), (.str []), (.sl 18 0 2 (.fix 2))])), (.some (.cells .fix [(.int .i64 (.ofNat 3)), (.str []), (.bool .false), (.str [1]), (.bool .false), (.str []), .nils, (.int .i64 (.ofNat 6)), (.str []), (.bool .false), (.str []), (.bool .false), (.str []), (.sl 41 0 2 (.fix 2))])), (.some (.cells .fix [(.int .i64 (.ofNat 1)), (.str []), (.bool .false), (.str []), (.bool .false), (.str []), .nils, (.int .i64 (.ofNat 1)), (.str []), (.bool .false), (.str [9]), (.bool .false), (.str []), .nils])), (.some (.cells .fix [(.int .i64 (.ofNat 1)), (.str []), (.bool .false), (.str [5]), (.bool .false), (.str []), .nils, (.int .i64 (.ofNat 1)), (.str []), (.bool .false), (.str [12]), (.bool .false), (.str []), .nils]))], 48⟩
noncomputable def z2 : St := mkS [0, 1] [47, 45, 20, 43, 18, 41] x1
noncomputable def x2 : Seen := ⟨[(.some (.bool .false)), (.some (.ptr 47 0)), (.some (.ptr 6241 0)), (.some (.int .i64 (.ofNat 0)))], [(.some (.cells .fix [(.int .i64 (.ofNat 13)), (.str []), (.bool .false), (.str []), (.bool .false), (.str []), (.sl 45 0 2 (.fix 2))])), (.some (.cells .fix [(.int .i64 (.ofNat 12)), (.str []), (.bool .false), (.str []), (.bool .false), (.str []), (.sl 6216 0 2 (.el 7))])), (.some (.cells .fix [(.int .i64 (.ofNat 12)), (.str []), (.bool .false), (.str []), (.bool .false), (.str []), (.sl 20 0 2 (.fix 2)), (.int .i64 (.ofNat 12)), (.str []), (.bool .false), (.str []), (.bool .false), (.str []), (.sl 43 0 2 (.fix 2))])), (.some (.cells .el [(.int .i64 (.ofNat 13)), (.str []), (.bool .false), (.str []), (.bool .false), (.str []), (.sl 6199 0 2 (.el 7)), (.int .i64 (.ofNat 6)), (.str []), (.bool .false), (.str []), (.bool .false), (.str []), (.sl 6214 0 2 (.el 7))])), (.some (.cells .fix [(.int .i64 (.ofNat 3)), (.str []), (.bool .false), (.str [2]), (.bool .false), (.str []), .nils, (.int .i64 (.ofNat 6)), (.str []), (.bool .false), (.str []), (.bool .false), (.str []), (.sl 18 0 2 (.fix 2))])), (.some (.cells .fix [(.int .i64 (.ofNat 3)), (.str []), (.bool .false), (.str [1]), (.bool .false), (.str []), .nils, (.int .i64 (.ofNat 6)), (.str []), (.bool .false), (.str []), (.bool .false), (.str []), (.sl 41 0 2 (.fix 2))])), (.some (.cells .el [(.int .i64 (.ofNat 3)), (.str []), (.bool .false), (.str [1]), (.bool .false), (.str []), .nils, (.int .i64 (.ofNat 3)), (.str []), (.bool .false), (.str [2]), (.bool .false), (.str []), .nils])), (.some (.cells .el [(.int .i64 (.ofNat 1)), (.str []), (.bool .false), (.str [5]), (.bool .false), (.str []), .nils, (.int .i64 (.ofNat 1)), (.str []), (.bool .false), (.str [9]), (.bool .false), (.str []), .nils])), (.some (.cells .fix [(.int .i64 (.ofNat 1)), (.str []), (.bool .false), (.str []), (.bool .false), (.str []), .nils, (.int .i64 (.ofNat 1)), (.str []), (.bool .false), (.str [9]), (.bool .false), (.str []), .nils])), (.some (.cells .fix [(.int .i64 (.ofNat 1)), (.str []), (.bool .false), (.str [5]), (.bool .false), (.str []), .nils, (.int .i64 (.ofNat 1)), (.str []), (.bool .false), (.str [12]), (.bool .false), (.str []), .nils]))], 6242⟩
noncomputable def z3 : St := mkS [0, 1, 2, 3] [47, 6241, 45, 6216, 20, 43, 6199, 6214, 18, 41] x2
noncomputable def x3 : Seen := ⟨[(.some (.bool .false)), (.some (.ptr 6241 0)), (.some (.int .i64 (.ofNat 0))), (.some (.sl 11953 0 5 (.el 1))), (.some (.int .i64 (.ofNat 0)))], [(.some (.cells .fix [(.int .i64 (.ofNat 12)), (.str []), (.bool .false), (.str []), (.bool .false), (.str []), (.sl 6216 0 2 (.el 7))])), (.some (.cells .el [(.int .i64 (.ofNat 5)), (.int .i64 (.ofNat 12)), (.int .i64 (.ofNat 12)), (.int .i64 (.ofNat 9)), (.int .i64 (.ofNat 7))])), (.some (.cells .el [(.int .i64 (.ofNat 13)), (.str []), (.bool .false), (.str []), (.bool .false), (.str []), (.sl 6199 0 2 (.el 7)), (.int .i64 (.ofNat 6)), (.str []), (.bool .false), (.str []), (.bool .false), (.str []), (.sl 6214 0 2 (.el 7))])), (.some (.cells .el [(.int .i64 (.ofNat 3)), (.str []), (.bool .false), (.str [1]), (.bool .false), (.str []), .nils, (.int .i64 (.ofNat 3)), (.str []), (.bool .false), (.str [2]), (.bool .false), (.str []), .nils])), (.some (.cells .el [(.int .i64 (.ofNat 1)), (.str []), (.bool .false), (.str [5]), (.bool .false), (.str []), .nils, (.int .i64 (.ofNat 1)), (.str []), (.bool .false), (.str [9]), (.bool .false), (.str []), .nils]))], 12434⟩
noncomputable def z4 : St := mkS [0, 2, 3, 4, 5] [6241, 11953, 6216, 6199, 6214] x3
theorem p0 : see [0] [] (exec E46 6000 A0 z0) = some x0 := by kernel_rfl
theorem p1 : see [0, 1] [47, 45, 20, 43, 18, 41] (exec E46 6000 A1 z1) = some x1 := by kernel_rfl
theorem p4 : endT E46 Tryz.f9 (exec E46 6000 B3 z4) = true := by kernel_rfl
end T1
