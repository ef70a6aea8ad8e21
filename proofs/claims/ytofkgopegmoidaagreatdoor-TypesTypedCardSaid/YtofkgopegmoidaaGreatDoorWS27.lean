/- A part of an evaluator of the program's operations over values that are known whole or in part, and of the proof that what it answers holds of the program's run. No condition. -/
import Derived.Test.YtofkgopegmoidaaGreatDoorWS26
import Derived.Test.YtofkgopegmoidaaGreatDoorWKH
import Derived.Laws.StructEq
import Derived.Tactics
import Derived.Tactics2
namespace T1
open Go Go.Ab Go.Proofs

theorem eq25 (d : Nat) (p q : Bool) (s t : ByteArray) (w : World) : (Op.equalIn (d + 2) 25 (.agg #[.bool p, .string s]) (.agg #[.bool q, .string t])).run Tryz.prog w = .ok (p == q && s.toList == t.toList) w := by
  have hS : Tryz.prog.underlying 25 = some (.struct (Tryz.prog.fieldsOf 25)) := by unfold Program.fieldsOf; rw [Tryz.underlying25]
  have u4 := Tryz.underlying4
  have u9 := Tryz.underlying9
  have a4 := Tryz.isAgg4
  have a9 := Tryz.isAgg9
  rw [show d + 2 = (d + 1) + 1 from rfl, run_equalIn_agg w (d + 1) 25 _ _ hS Tryz.stoodInHeld25]
  simp only [Program.fieldsOf, Tryz.underlying25]
  go_simp
  cases p <;> cases q <;> simp <;> (by_cases h : s.toList = t.toList <;> simp [h])
theorem eq27 (d : Nat) (p q p' q' : Bool) (s t s' t' : ByteArray) (w : World) : (Op.equalIn (d + 3) 27 (.agg #[.bool p, .string s, .bool p', .string s']) (.agg #[.bool q, .string t, .bool q', .string t'])).run Tryz.prog w =
    .ok ((p == q && s.toList == t.toList) && (p' == q' && s'.toList == t'.toList)) w := by
  have hS : Tryz.prog.underlying 27 = some (.struct (Tryz.prog.fieldsOf 27)) := by unfold Program.fieldsOf; rw [Tryz.underlying27]
  have p1 : ∀ (x0 x1 x2 x3 : Value) (w : World), (part 25 #[x0, x1, x2, x3] 0).run Tryz.prog w = .ok (.agg #[x0, x1]) w := fun x0 x1 x2 x3 w => by
    simp [part, Tryz.isAgg25, Tryz.sizeOf25]
  have p2 : ∀ (x0 x1 x2 x3 : Value) (w : World), (part 25 #[x0, x1, x2, x3] 2).run Tryz.prog w = .ok (.agg #[x2, x3]) w := fun x0 x1 x2 x3 w => by
    simp [part, Tryz.isAgg25, Tryz.sizeOf25]
  rw [show d + 3 = (d + 2) + 1 from rfl, run_equalIn_agg w (d + 2) 27 _ _ hS Tryz.stoodInHeld27]
  simp only [Program.fieldsOf, Tryz.underlying27, Op.eqFields]
  simp only [Sem.run_bind, Sem.run_ite, Sem.run_pure, p1, p2, Result.andThen_ok, eq25, ne_eq, reduceCtorEq, not_false_eq_true, if_true, String.reduceEq]
  cases (p == q && s.toList == t.toList) <;> cases (p' == q' && s'.toList == t'.toList) <;> simp
theorem seq_bytes (s t : ByteArray) : seq (bytesOf s) (bytesOf t) = (s.toList == t.toList) := by
  rw [Bool.eq_iff_iff, seq_iff]
  constructor
  · intro h; rw [bytes_inj h]; simp
  · intro h
    have h' : s.toList = t.toList := by simpa using h
    rw [toList_data, toList_data] at h'
    unfold bytesOf; rw [h']
theorem shp_cons {z : AV} {zs : List AV} {x : List AV} (h : shp (z :: zs) x = true) : ∃ y r, x = y :: r ∧ shp1 z y = true ∧ shp zs r = true := by
  cases x with
  | nil => cases h
  | cons y r =>
    have h' : bE (shp1 z y) (shp zs r) false = true := h
    cases hb : shp1 z y with
    | true => rw [hb, bE_true] at h'; exact ⟨y, r, rfl, hb, h'⟩
    | false => rw [hb] at h'; cases h'
theorem shp_nil {x : List AV} (h : shp [] x = true) : x = [] := by cases x <;> first | rfl | cases h
theorem shp_bool {b : Bool} {y : AV} (h : shp1 (.bool b) y = true) : ∃ c, y = .bool c := by cases y <;> first | exact ⟨_, rfl⟩ | cases h
theorem shp_str {l : List Nat} {y : AV} (h : shp1 (.str l) y = true) : ∃ c, y = .str c := by cases y <;> first | exact ⟨_, rfl⟩ | cases h
theorem ceqs_cons {x : AV} {l : List AV} {y : List AV} {b : Bool} (h : ceqs (x :: l) y = some b) : ∃ z r p q, y = z :: r ∧ ceq x z = some p ∧ ceqs l r = some q ∧ b = (p && q) := by
  cases y with
  | nil => cases h
  | cons z r =>
    obtain ⟨p, hp, h1⟩ := oE_none_eq (show oE (ceq x z) none (fun p => oE (ceqs l r) none (fun q => some (p && q))) = some b from h)
    obtain ⟨q, hq, h2⟩ := oE_none_eq h1
    cases h2
    exact ⟨z, r, p, q, rfl, hp, hq, rfl⟩
theorem ceqs_nil {y : List AV} {b : Bool} (h : ceqs [] y = some b) : y = [] ∧ b = true := by
  cases y with
  | nil => cases h; exact ⟨rfl, rfl⟩
  | cons z r => cases h
theorem ceq_bool {a : Bool} {z : AV} {p : Bool} (h : ceq (.bool a) z = some p) : ∃ c, z = .bool c ∧ p = (a == c) := by
  cases z <;> first | (cases h; done) | exact ⟨_, rfl, by cases h; rw [beqB_eq]⟩
theorem ceq_str {a : List Nat} {z : AV} {p : Bool} (h : ceq (.str a) z = some p) : ∃ c, z = .str c ∧ p = seq a c := by
  cases z <;> first | (cases h; done) | exact ⟨_, rfl, by cases h; rfl⟩
theorem rvs_cons {ρ : Rho} {v : AV} {l : List AV} {x : List Value} (h : RVs ρ (v :: l) x) : ∃ u r, x = u :: r ∧ RV ρ v u ∧ RVs ρ l r := by
  cases h with
  | cons h1 h2 => exact ⟨_, _, rfl, h1, h2⟩
theorem rvs_nil {ρ : Rho} {x : List Value} (h : RVs ρ [] x) : x = [] := by cases h; rfl
theorem eqOK25 : EqOK Tryz.prog 25 [.bool false, .str []] := by
  intro ρ x y X Y b hx hy hs hc w
  obtain ⟨x0, _, rfl, h0, hs1⟩ := shp_cons hs
  obtain ⟨x1, _, rfl, h1, hs2⟩ := shp_cons hs1
  obtain rfl := shp_nil hs2
  obtain ⟨a0, rfl⟩ := shp_bool h0
  obtain ⟨a1, rfl⟩ := shp_str h1
  obtain ⟨y0, _, p0, q0, rfl, k0, hc1, rfl⟩ := ceqs_cons hc
  obtain ⟨y1, _, p1, q1, rfl, k1, hc2, rfl⟩ := ceqs_cons hc1
  obtain ⟨rfl, rfl⟩ := ceqs_nil hc2
  obtain ⟨b0, rfl, rfl⟩ := ceq_bool k0
  obtain ⟨b1, rfl, rfl⟩ := ceq_str k1
  obtain ⟨X⟩ := X; obtain ⟨Y⟩ := Y
  simp only at hx hy
  obtain ⟨_, _, rfl, hx0, hx⟩ := rvs_cons hx
  obtain ⟨_, _, rfl, hx1, hx⟩ := rvs_cons hx
  obtain rfl := rvs_nil hx
  obtain ⟨_, _, rfl, hy0, hy⟩ := rvs_cons hy
  obtain ⟨_, _, rfl, hy1, hy⟩ := rvs_cons hy
  obtain rfl := rvs_nil hy
  cases hx0; cases hx1; cases hy0; cases hy1
  refine ⟨?_, Tryz.eqGuardType25⟩
  rw [seq_bytes, Bool.and_true]
  exact eq25 9998 _ _ _ _ w
theorem eqOK27 : EqOK Tryz.prog 27 [.bool false, .str [], .bool false, .str []] := by
  intro ρ x y X Y b hx hy hs hc w
  obtain ⟨x0, _, rfl, h0, hs1⟩ := shp_cons hs
  obtain ⟨x1, _, rfl, h1, hs2⟩ := shp_cons hs1
  obtain ⟨x2, _, rfl, h2, hs3⟩ := shp_cons hs2
  obtain ⟨x3, _, rfl, h3, hs4⟩ := shp_cons hs3
  obtain rfl := shp_nil hs4
  obtain ⟨a0, rfl⟩ := shp_bool h0
  obtain ⟨a1, rfl⟩ := shp_str h1
  obtain ⟨a2, rfl⟩ := shp_bool h2
  obtain ⟨a3, rfl⟩ := shp_str h3
  obtain ⟨y0, _, p0, q0, rfl, k0, hc1, rfl⟩ := ceqs_cons hc
  obtain ⟨y1, _, p1, q1, rfl, k1, hc2, rfl⟩ := ceqs_cons hc1
  obtain ⟨y2, _, p2, q2, rfl, k2, hc3, rfl⟩ := ceqs_cons hc2
  obtain ⟨y3, _, p3, q3, rfl, k3, hc4, rfl⟩ := ceqs_cons hc3
  obtain ⟨rfl, rfl⟩ := ceqs_nil hc4
  obtain ⟨b0, rfl, rfl⟩ := ceq_bool k0
  obtain ⟨b1, rfl, rfl⟩ := ceq_str k1
  obtain ⟨b2, rfl, rfl⟩ := ceq_bool k2
  obtain ⟨b3, rfl, rfl⟩ := ceq_str k3
  obtain ⟨X⟩ := X; obtain ⟨Y⟩ := Y
  simp only at hx hy
  obtain ⟨_, _, rfl, hx0, hx⟩ := rvs_cons hx
  obtain ⟨_, _, rfl, hx1, hx⟩ := rvs_cons hx
  obtain ⟨_, _, rfl, hx2, hx⟩ := rvs_cons hx
  obtain ⟨_, _, rfl, hx3, hx⟩ := rvs_cons hx
  obtain rfl := rvs_nil hx
  obtain ⟨_, _, rfl, hy0, hy⟩ := rvs_cons hy
  obtain ⟨_, _, rfl, hy1, hy⟩ := rvs_cons hy
  obtain ⟨_, _, rfl, hy2, hy⟩ := rvs_cons hy
  obtain ⟨_, _, rfl, hy3, hy⟩ := rvs_cons hy
  obtain rfl := rvs_nil hy
  cases hx0; cases hx1; cases hx2; cases hx3; cases hy0; cases hy1; cases hy2; cases hy3
  refine ⟨?_, Tryz.eqGuardType27⟩
  rw [seq_bytes, seq_bytes, Bool.and_true, ← Bool.and_assoc]
  exact eq27 9997 _ _ _ _ _ _ _ _ w
end T1
