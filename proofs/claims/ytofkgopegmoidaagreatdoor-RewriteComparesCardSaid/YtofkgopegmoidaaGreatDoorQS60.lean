/- A part of an evaluator of the program's operations over values that are known whole or in part, and of the proof that what it answers holds of the program's run. No condition. -/
import Derived.Test.YtofkgopegmoidaaGreatDoorQS42
namespace T1
open Go Go.Ab Go.Proofs
/-! The order of expressions is transitive. -/
def Tri (p q r : Int) : Prop := p ≤ 0 → q ≤ 0 → (p = 0 ∧ q = 0 ∧ r = 0) ∨ ((p < 0 ∨ q < 0) ∧ r < 0)
theorem Tri.lex {p q r : Int} {P Q R : List Int} (h : Tri p q r) (k : p = 0 → q = 0 → r = 0 → Tri (fst0 P) (fst0 Q) (fst0 R)) : Tri (fst0 (p :: P)) (fst0 (q :: Q)) (fst0 (r :: R)) := by
  rw [fst0_cons, fst0_cons, fst0_cons]
  by_cases hp : p = 0
  · by_cases hq : q = 0
    · rcases h (by omega) (by omega) with ⟨_, _, hr⟩ | ⟨h1, _⟩
      · rw [if_pos hp, if_pos hq, if_pos hr]; exact k hp hq hr
      · omega
    · rw [if_neg hq, if_pos hp]
      intro h1 h2
      rcases h (by omega) h2 with ⟨_, h3, _⟩ | ⟨_, h3⟩
      · exact absurd h3 hq
      · rw [if_neg (show r ≠ 0 by omega)]; exact .inr ⟨.inr (by omega), h3⟩
  · rw [if_neg hp]
    intro h1 h2
    by_cases hq : q = 0
    · rcases h h1 (by omega) with ⟨h3, _, _⟩ | ⟨_, h3⟩
      · exact absurd h3 hp
      · rw [if_neg (show r ≠ 0 by omega)]; exact .inr ⟨.inl (by omega), h3⟩
    · rw [if_neg hq] at h2
      rcases h h1 h2 with ⟨h3, _, _⟩ | ⟨_, h3⟩
      · exact absurd h3 hp
      · rw [if_neg (show r ≠ 0 by omega)]; exact .inr ⟨.inl (by omega), h3⟩
theorem cmpI_tri (a b c : Int) : Tri (cmpI a b) (cmpI b c) (cmpI a c) := by
  rw [cmpI_eq, cmpI_eq, cmpI_eq]
  intro h1 h2
  split at h1
  · split at h2
    · rw [if_pos (by assumption), if_pos (by assumption), if_pos (by omega)]; exact .inr ⟨.inl (by omega), by omega⟩
    · split at h2
      · subst b; rw [if_pos (by assumption)]; exact .inr ⟨.inl (by omega), by omega⟩
      · omega
  · split at h1
    · subst a
      split at h2
      · rw [if_neg (by omega), if_pos rfl, if_pos (by assumption)]; exact .inr ⟨.inr (by omega), by omega⟩
      · split at h2
        · subst b; exact .inl ⟨by simp, by simp, by simp⟩
        · omega
    · omega
theorem cmpI_refl (a : Int) : cmpI a a = 0 := by rw [cmpI_eq]; simp
theorem slt_cons (x y : Nat) (a b : List Nat) : slt (x :: a) (y :: b) = (decide (x < y) || (decide (x = y) && slt a b)) := by
  show bE (Nat.ble (.succ x) y) true (bE (Nat.beq x y) (slt a b) false) = _
  by_cases h : x < y
  · have h1 : Nat.ble (.succ x) y = true := Nat.ble_eq_true_of_le h
    rw [h1]; simp [h, bE]
  · have h1 : Nat.ble (.succ x) y = false := by
      cases hb : Nat.ble (.succ x) y with
      | false => rfl
      | true => exact absurd (Nat.le_of_ble_eq_true hb) h
    rw [h1]
    by_cases h2 : x = y
    · subst h2
      have h3 : Nat.beq x x = true := Nat.beq_refl x
      rw [h3]; simp [bE]
    · have h3 : Nat.beq x y = false := by
        cases hb : Nat.beq x y with
        | false => rfl
        | true => exact absurd (Nat.eq_of_beq_eq_true hb) h2
      rw [h3]; simp [h, h2, bE]
theorem slt_irr : ∀ a : List Nat, slt a a = false
  | [] => rfl
  | x :: a => by rw [slt_cons, slt_irr a]; simp
theorem slt_trans : ∀ a b c : List Nat, slt a b = true → slt b c = true → slt a c = true
  | [], [], _, h, _ => by cases h
  | [], y :: b, [], _, h => by cases h
  | [], y :: b, z :: c, _, _ => rfl
  | x :: a, [], _, h, _ => by cases h
  | x :: a, y :: b, [], _, h => by cases h
  | x :: a, y :: b, z :: c, h, k => by
    rw [slt_cons, Bool.or_eq_true, Bool.and_eq_true, decide_eq_true_eq, decide_eq_true_eq] at h k ⊢
    rcases h with h | ⟨h1, h2⟩
    · rcases k with k | ⟨k1, _⟩
      · exact .inl (by omega)
      · exact .inl (by omega)
    · rcases k with k | ⟨k1, k2⟩
      · exact .inl (by omega)
      · exact .inr ⟨by omega, slt_trans a b c h2 k2⟩
theorem cmpStr_refl (a : ByteArray) : cmpStr a a = 0 := by unfold cmpStr; rw [slt_irr]; simp
theorem cmpStr_tri (a b c : ByteArray) : Tri (cmpStr a b) (cmpStr b c) (cmpStr a c) := by
  unfold cmpStr
  intro h1 h2
  by_cases k1 : slt (bytesOf a) (bytesOf b) = true
  · rw [if_pos k1]
    by_cases k2 : slt (bytesOf b) (bytesOf c) = true
    · rw [if_pos (slt_trans _ _ _ k1 k2)]; exact .inr ⟨.inl (by omega), by omega⟩
    · rw [if_neg k2] at h2
      by_cases k3 : bytesOf b = bytesOf c
      · rw [← k3, if_pos k1]; exact .inr ⟨.inl (by omega), by omega⟩
      · rw [if_neg k3] at h2; omega
  · rw [if_neg k1] at h1 ⊢
    by_cases k3 : bytesOf a = bytesOf b
    · rw [k3]
      rw [if_pos rfl]
      by_cases k2 : slt (bytesOf b) (bytesOf c) = true
      · rw [if_pos k2]; exact .inr ⟨.inr (by omega), by omega⟩
      · rw [if_neg k2] at h2 ⊢
        by_cases k4 : bytesOf b = bytesOf c
        · rw [if_pos k4]; exact .inl ⟨rfl, rfl, rfl⟩
        · rw [if_neg k4] at h2; omega
    · rw [if_neg k3] at h1; omega
theorem cmpI_zero {a b : Int} (h : cmpI a b = 0) : a = b := by
  rw [cmpI_eq] at h
  split at h
  · omega
  · split at h
    · assumption
    · omega
mutual
theorem cmpE_refl : ∀ a : Ex, cmpE a a = 0
  | .mk op nm b1 m1 b2 m2 ys => by
    rw [cmpE, fst0_cons, if_pos (cmpI_refl _), fst0_cons, if_pos (cmpStr_refl _), fst0_cons, if_pos (show cmpQ b1 m1 b1 m1 = 0 from cmpI_refl _), fst0_cons, if_pos (cmpI_refl _)]
    exact cmpL_refl ys
theorem cmpL_refl : ∀ l : List Ex, fst0 (cmpL l l) = 0
  | [] => by rw [cmpL]; rfl
  | a :: l => by rw [cmpL, fst0_cons, if_pos (cmpE_refl a)]; exact cmpL_refl l
end
mutual
theorem cmpE_tri : ∀ a b c : Ex, Tri (cmpE a b) (cmpE b c) (cmpE a c)
  | .mk op nm b1 m1 _ _ ys, .mk op' nm' b1' m1' _ _ ys', .mk op'' nm'' b1'' m1'' _ _ ys'' => by
    rw [cmpE, cmpE, cmpE]
    refine (cmpI_tri op op' op'').lex fun _ _ _ => (cmpStr_tri nm nm' nm'').lex fun _ _ _ => (cmpI_tri _ _ _).lex fun _ _ _ => (cmpI_tri _ _ _).lex fun h1 h2 _ => ?_
    have k1 := cmpI_zero h1
    have k2 := cmpI_zero h2
    exact cmpL_tri ys ys' ys'' (by omega) (by omega)
theorem cmpL_tri : ∀ l m n : List Ex, l.length = m.length → m.length = n.length → Tri (fst0 (cmpL l m)) (fst0 (cmpL m n)) (fst0 (cmpL l n))
  | [], [], [], _, _ => by rw [cmpL]; exact fun _ _ => .inl ⟨rfl, rfl, rfl⟩
  | a :: l, b :: m, c :: n, h1, h2 => by
    rw [cmpL, cmpL, cmpL]
    exact (cmpE_tri a b c).lex fun _ _ _ => cmpL_tri l m n (by simpa using h1) (by simpa using h2)
  | [], [], _ :: _, _, h => by simp at h
  | [], _ :: _, _, h, _ => by simp at h
  | _ :: _, [], _, h, _ => by simp at h
  | _ :: _, _ :: _, [], _, h => by simp at h
end
/-- the order is transitive -/
theorem cmpE_trans {a b c : Ex} (h1 : cmpE a b ≤ 0) (h2 : cmpE b c ≤ 0) : cmpE a c ≤ 0 := by
  rcases cmpE_tri a b c h1 h2 with ⟨_, _, h⟩ | ⟨_, h⟩ <;> omega
end T1
