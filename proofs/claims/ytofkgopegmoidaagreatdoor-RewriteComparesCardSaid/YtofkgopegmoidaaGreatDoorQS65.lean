/- A part of an evaluator of the program's operations over values that are known whole or in part, and of the proof that what it answers holds of the program's run. No condition. -/
import Derived.Test.YtofkgopegmoidaaGreatDoorQS63
import Derived.Test.YtofkgopegmoidaaGreatDoorQS64
namespace T1
open Go Go.Ab Go.Proofs
open Go.RowKit (Below)
set_option maxRecDepth 100000
/-- The tables, with slices.Index, slices.Contains and rewrite.is as contracts. -/
noncomputable def cons46 : Tr (Tr AB → Nat → List AV → ConR) := ((Tr.lf.set 213 containsK).set 247 indexK).set 149 isQ
noncomputable def E46 : Env := ⟨fnT, tyT, exT, cons46⟩
theorem fn9 : T1.E.fn.get 9 = some Tryz.f9 := by kernel_rfl
theorem body9 : Tryz.f9.body = some (bodyOf Tryz.f9) := by kernel_rfl
theorem fn213 : T1.E.fn.get 213 = some Tryz.f213 := by kernel_rfl
theorem fn247 : T1.E.fn.get 247 = some Tryz.f247 := by kernel_rfl
theorem fn149 : T1.E.fn.get 149 = some Tryz.f149 := by kernel_rfl
theorem body213 : Tryz.f213.body = some (bodyOf Tryz.f213) := by kernel_rfl
theorem body247 : Tryz.f247.body = some (bodyOf Tryz.f247) := by kernel_rfl
theorem body149 : Tryz.f149.body = some (bodyOf Tryz.f149) := by kernel_rfl
/-- a call that makes no names -/
theorem con_wrapT {f : Nat} {xs : List Value} {c : Nat} {v : AV} {B : Nat} {ρ : Rho} {G : Hp} {w : World} (rh : RH B ρ G w) (hB : B ≤ w.heap.size)
    (h : Calls Tryz.prog f xs.toArray w fun e w' => ∃ u, e = .returned u ∧ RV ρ v u ∧ Below w.heap.size w w') :
    Calls Tryz.prog f xs.toArray w fun e w' => ∃ u ρ', e = .returned u ∧ ρ.le ρ' ∧ (∀ n, (n < c ∨ c + 0 ≤ n) → ρ' n = ρ n) ∧ RV ρ' v u ∧ RH B ρ' G w' ∧ Below B w w' ∧ invT B ρ' G w' :=
  h.mono fun _ _ ⟨u, he, hv, hw⟩ => ⟨u, ρ, he, Rho.le_refl _, fun _ _ => rfl, hv, rh.grow hw, hw.mono hB, trivial⟩
theorem conOK46 : ConOK Tryz.prog cons46 invT := by
  intro f k hk h c args v m o hkm B ρ G w xs hx inv rh hB hp fr
  have h' : (((Tr.lf.set 213 containsK).set 247 indexK).set 149 isQ).get f = some k := hk
  rw [Tr.get_set, Tr.get_set, Tr.get_set] at h'
  by_cases h1 : f = 149
  · rw [if_pos h1] at h'; cases h'; subst h1
    obtain ⟨e1, rfl, rfl⟩ := res0_eq hkm
    exact ⟨has fn149 body149, con_wrapT rh hB (is_con e1 hx rh hp)⟩
  rw [if_neg h1] at h'
  by_cases h2 : f = 247
  · rw [if_pos h2] at h'; cases h'; subst h2
    obtain ⟨e1, rfl, rfl⟩ := res0_eq hkm
    exact ⟨has fn247 body247, con_wrapT rh hB (index_con e1 hx rh hp)⟩
  rw [if_neg h2] at h'
  by_cases h3 : f = 213
  · rw [if_pos h3] at h'; cases h'; subst h3
    obtain ⟨e1, rfl, rfl⟩ := res0_eq hkm
    exact ⟨has fn213 body213, con_wrapT rh hB (contains_con e1 hx rh hp)⟩
  rw [if_neg h3] at h'; simp at h'
theorem envOK46 : Ctx Tryz.prog E46 invT := ⟨envOK_con _, invT_ok, conOK46⟩
theorem bodyOK46 : BodyOK E46 := bodyOK
def fstC : Code → Code
  | .seq a _ => a
  | c => c
def sndC : Code → Code
  | .seq _ b => b
  | c => c
noncomputable def code9 : Code := bodyOf Tryz.f9
noncomputable def A0 : Code := fstC code9
noncomputable def B0 : Code := sndC code9
noncomputable def A1 : Code := fstC B0
noncomputable def B1 : Code := sndC B0
noncomputable def A2 : Code := fstC B1
noncomputable def B2 : Code := sndC B1
noncomputable def A3 : Code := fstC B2
noncomputable def B3 : Code := sndC B2
theorem seq0 : code9 = .seq A0 B0 := by kernel_rfl
theorem seq1 : B0 = .seq A1 B1 := by kernel_rfl
theorem seq2 : B1 = .seq A2 B2 := by kernel_rfl
theorem seq3 : B2 = .seq A3 B3 := by kernel_rfl
theorem okA0 : okCode Tryz.f9.ntmps A0 = true := by kernel_rfl
theorem okA1 : okCode Tryz.f9.ntmps A1 = true := by kernel_rfl
theorem okA2 : okCode Tryz.f9.ntmps A2 = true := by kernel_rfl
theorem okA3 : okCode Tryz.f9.ntmps A3 = true := by kernel_rfl
theorem okB3 : okCode Tryz.f9.ntmps B3 = true := by kernel_rfl
noncomputable def z0 : St := ⟨params [] .zero .lf, .lf, 0, 0, []⟩
noncomputable def x0 : Seen := ⟨[(.some (.bool .false))], [], 0⟩
noncomputable def z1 : St := mkS [0] [] x0
noncomputable def x1 : Seen := ⟨[(.some (.bool .false)), (.some (.ptr 47 0))], [(.some (.cells .fix [(.int .i64 (.ofNat 13)), (.str []), (.bool .false), (.str []), (.bool .false), (.str []), (.sl 45 0 2 (.fix 2))])), (.some (.cells .fix [(.int .i64 (.ofNat 12)), (.str []), (.bool .false), (.str []), (.bool .false), (.str []), (.sl 20 0 2 (.fix 2)), (.int .i64 (.ofNat 12)), (.str []), (.bool .false), (.str []), (.bool .false), (.str []), (.sl 43 0 2 (.fix 2))])), (.some (.cells .fix [(.int .i64 (.ofNat 3)), (.str []), (.bool .false), (.str [2]), (.bool .false), (.str []), .nils, (.int .i64 (.ofNat 6)), (.str []), (.bool .false), (.str []), (.bool .false), (.str []), (.sl 18 0 2 (.fix 2))])), (.some (.cells .fix [(.int .i64 (.ofNat 3)), (.str []), (.bool .false), (.str [1]), (.bool .false), (.str []), .nils, (.int .i64 (.ofNat 6)), (.str []), (.bool .false), (.str []), (.bool .false), (.str []), (.sl 41 0 2 (.fix 2))])), (.some (.cells .fix [(.int .i64 (.ofNat 1)), (.str []), (.bool .false), (.str []), (.bool .false), (.str []), .nils, (.int .i64 (.ofNat 1)), (.str []), (.bool .false), (.str [9]), (.bool .false), (.str []), .nils])), (.some (.cells .fix [(.int .i64 (.ofNat 1)), (.str []), (.bool .false), (.str [5]), (.bool .false), (.str []), .nils, (.int .i64 (.ofNat 1)), (.str []), (.bool .false), (.str [12]), (.bool .false), (.str []), .nils]))], 48⟩
noncomputable def z2 : St := mkS [0, 1] [47, 45, 20, 43, 18, 41] x1
noncomputable def x2 : Seen := ⟨[(.some (.bool .false)), (.some (.ptr 47 0)), (.some (.ptr 6241 0)), (.some (.int .i64 (.ofNat 0)))], [(.some (.cells .fix [(.int .i64 (.ofNat 13)), (.str []), (.bool .false), (.str []), (.bool .false), (.str []), (.sl 45 0 2 (.fix 2))])), (.some (.cells .fix [(.int .i64 (.ofNat 12)), (.str []), (.bool .false), (.str []), (.bool .false), (.str []), (.sl 6216 0 2 (.el 7))])), (.some (.cells .fix [(.int .i64 (.ofNat 12)), (.str []), (.bool .false), (.str []), (.bool .false), (.str []), (.sl 20 0 2 (.fix 2)), (.int .i64 (.ofNat 12)), (.str []), (.bool .false), (.str []), (.bool .false), (.str []), (.sl 43 0 2 (.fix 2))])), (.some (.cells .el [(.int .i64 (.ofNat 13)), (.str []), (.bool .false), (.str []), (.bool .false), (.str []), (.sl 6199 0 2 (.el 7)), (.int .i64 (.ofNat 6)), (.str []), (.bool .false), (.str []), (.bool .false), (.str []), (.sl 6214 0 2 (.el 7))])), (.some (.cells .fix [(.int .i64 (.ofNat 3)), (.str []), (.bool .false), (.str [2]), (.bool .false), (.str []), .nils, (.int .i64 (.ofNat 6)), (.str []), (.bool .false), (.str []), (.bool .false), (.str []), (.sl 18 0 2 (.fix 2))])), (.some (.cells .fix [(.int .i64 (.ofNat 3)), (.str []), (.bool .false), (.str [1]), (.bool .false), (.str []), .nils, (.int .i64 (.ofNat 6)), (.str []), (.bool .false), (.str []), (.bool .false), (.str []), (.sl 41 0 2 (.fix 2))])), (.some (.cells .el [(.int .i64 (.ofNat 3)), (.str []), (.bool .false), (.str [1]), (.bool .false), (.str []), .nils, (.int .i64 (.ofNat 3)), (.str []), (.bool .false), (.str [2]), (.bool .false), (.str []), .nils])), (.some (.cells .el [(.int .i64 (.ofNat 1)), (.str []), (.bool .false), (.str [5]), (.bool .false), (.str []), .nils, (.int .i64 (.ofNat 1)), (.str []), (.bool .false), (.str [9]), (.bool .false), (.str []), .nils])), (.some (.cells .fix [(.int .i64 (.ofNat 1)), (.str []), (.bool .false), (.str []), (.bool .false), (.str []), .nils, (.int .i64 (.ofNat 1)), (.str []), (.bool .false), (.str [9]), (.bool .false), (.str []), .nils])), (.some (.cells .fix [(.int .i64 (.ofNat 1)), (.str []), (.bool .false), (.str [5]), (.bool .false), (.str []), .nils, (.int .i64 (.ofNat 1)), (.str []), (.bool .false), (.str [12]), (.bool .false), (.str []), .nils]))], 6242⟩
noncomputable def z3 : St := mkS [0, 1, 2, 3] [47, 6241, 45, 6216, 20, 43, 6199, 6214, 18, 41] x2
noncomputable def x3 : Seen := ⟨[(.some (.bool .false)), (.some (.ptr 6241 0)), (.some (.int .i64 (.ofNat 0))), (.some (.sl 11953 0 5 (.el 1))), (.some (.int .i64 (.ofNat 0)))], [(.some (.cells .fix [(.int .i64 (.ofNat 12)), (.str []), (.bool .false), (.str []), (.bool .false), (.str []), (.sl 6216 0 2 (.el 7))])), (.some (.cells .el [(.int .i64 (.ofNat 5)), (.int .i64 (.ofNat 12)), (.int .i64 (.ofNat 12)), (.int .i64 (.ofNat 9)), (.int .i64 (.ofNat 7))])), (.some (.cells .el [(.int .i64 (.ofNat 13)), (.str []), (.bool .false), (.str []), (.bool .false), (.str []), (.sl 6199 0 2 (.el 7)), (.int .i64 (.ofNat 6)), (.str []), (.bool .false), (.str []), (.bool .false), (.str []), (.sl 6214 0 2 (.el 7))])), (.some (.cells .el [(.int .i64 (.ofNat 3)), (.str []), (.bool .false), (.str [1]), (.bool .false), (.str []), .nils, (.int .i64 (.ofNat 3)), (.str []), (.bool .false), (.str [2]), (.bool .false), (.str []), .nils])), (.some (.cells .el [(.int .i64 (.ofNat 1)), (.str []), (.bool .false), (.str [5]), (.bool .false), (.str []), .nils, (.int .i64 (.ofNat 1)), (.str []), (.bool .false), (.str [9]), (.bool .false), (.str []), .nils]))], 12434⟩
noncomputable def z4 : St := mkS [0, 2, 3, 4, 5] [6241, 11953, 6216, 6199, 6214] x3
theorem kp0 : see [0] [] (exec E46 6000 A0 z0) = some x0 := by kernel_rfl
theorem kp1 : see [0, 1] [47, 45, 20, 43, 18, 41] (exec E46 6000 A1 z1) = some x1 := by kernel_rfl
theorem kp4 : endT E46 Tryz.f9 (exec E46 6000 B3 z4) = true := by kernel_rfl
end T1
