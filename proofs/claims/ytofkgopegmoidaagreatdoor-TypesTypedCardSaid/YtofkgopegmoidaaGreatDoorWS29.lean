/- A part of an evaluator of the program's operations over values that are known whole or in part, and of the proof that what it answers holds of the program's run. No condition. -/
import Derived.Test.YtofkgopegmoidaaGreatDoorWS27
import Derived.Laws.Externs
import Derived.Lib.Bytealg
namespace Go.Ab
open Go

theorem slt_lt : ∀ a b : List UInt8, (slt (a.map (·.toNat)) (b.map (·.toNat)) = true → Go.Lib.compareBytes a b = -1) ∧ (slt (a.map (·.toNat)) (b.map (·.toNat)) = false → 0 ≤ Go.Lib.compareBytes a b)
  | [], [] => ⟨fun h => (by cases h), fun _ => Int.le_refl _⟩
  | [], y :: b => ⟨fun _ => rfl, fun h => (by cases h)⟩
  | x :: a, [] => ⟨fun h => (by cases h), fun _ => (by decide : (0 : Int) ≤ 1)⟩
  | x :: a, y :: b => by
    have ih := slt_lt a b
    show (bE (Nat.ble (.succ x.toNat) y.toNat) true (bE (Nat.beq x.toNat y.toNat) (slt (a.map (·.toNat)) (b.map (·.toNat))) false) = true → (if x < y then -1 else if y < x then 1 else Go.Lib.compareBytes a b) = -1) ∧
      (bE (Nat.ble (.succ x.toNat) y.toNat) true (bE (Nat.beq x.toNat y.toNat) (slt (a.map (·.toNat)) (b.map (·.toNat))) false) = false → 0 ≤ (if x < y then -1 else if y < x then 1 else Go.Lib.compareBytes a b))
    cases h : Nat.ble (.succ x.toNat) y.toNat with
    | true =>
      have hlt : x < y := UInt8.lt_iff_toNat_lt.2 (ble_true h)
      rw [if_pos hlt]
      exact ⟨fun _ => rfl, fun h => (by cases h)⟩
    | false =>
      have hle := ble_false h
      have hlt : ¬ x < y := fun hh => by have := UInt8.lt_iff_toNat_lt.1 hh; omega
      rw [if_neg hlt, bE_false]
      cases h2 : Nat.beq x.toNat y.toNat with
      | true =>
        have := beq_true h2
        have hgt : ¬ y < x := fun hh => by have := UInt8.lt_iff_toNat_lt.1 hh; omega
        rw [if_neg hgt, bE_true]
        exact ih
      | false =>
        have := beq_false h2
        have hgt : y < x := UInt8.lt_iff_toNat_lt.2 (by omega)
        rw [if_pos hgt, bE_false]
        exact ⟨fun h => (by cases h), fun _ => by decide⟩
theorem slt_gt : ∀ a b : List UInt8, slt (a.map (·.toNat)) (b.map (·.toNat)) = false → Go.Lib.compareBytes a b = bE (slt (b.map (·.toNat)) (a.map (·.toNat))) (.ofNat (nat_lit 1)) (.ofNat .zero)
  | [], [], _ => rfl
  | [], y :: b, h => by cases h
  | x :: a, [], _ => rfl
  | x :: a, y :: b, h => by
    have ih := slt_gt a b
    have h' : bE (Nat.ble (.succ x.toNat) y.toNat) true (bE (Nat.beq x.toNat y.toNat) (slt (a.map (·.toNat)) (b.map (·.toNat))) false) = false := h
    show (if x < y then -1 else if y < x then 1 else Go.Lib.compareBytes a b) = bE (bE (Nat.ble (.succ y.toNat) x.toNat) true (bE (Nat.beq y.toNat x.toNat) (slt (b.map (·.toNat)) (a.map (·.toNat))) false)) (.ofNat (nat_lit 1)) (.ofNat .zero)
    cases h1 : Nat.ble (.succ x.toNat) y.toNat with
    | true => rw [h1] at h'; cases h'
    | false =>
      rw [h1, bE_false] at h'
      have hle := ble_false h1
      have hlt : ¬ x < y := fun hh => by have := UInt8.lt_iff_toNat_lt.1 hh; omega
      rw [if_neg hlt]
      cases h2 : Nat.ble (.succ y.toNat) x.toNat with
      | true =>
        have hgt : y < x := UInt8.lt_iff_toNat_lt.2 (ble_true h2)
        rw [if_pos hgt]; rfl
      | false =>
        have := ble_false h2
        have heq : x.toNat = y.toNat := by omega
        have hgt : ¬ y < x := fun hh => by have := UInt8.lt_iff_toNat_lt.1 hh; omega
        rw [if_neg hgt, bE_false]
        have e1 : Nat.beq x.toNat y.toNat = true := by rw [heq]; exact Nat.beq_refl _
        have e2 : Nat.beq y.toNat x.toNat = true := by rw [heq]; exact Nat.beq_refl _
        rw [e1, bE_true] at h'
        rw [e2, bE_true]
        exact ih h'
theorem cmpS_eq (a b : ByteArray) : cmpS (bytesOf a) (bytesOf b) = Go.Lib.compareBytes a.data.toList b.data.toList := by
  unfold cmpS
  have h1 := slt_lt a.data.toList b.data.toList
  have h2 := slt_gt a.data.toList b.data.toList
  cases h : slt (bytesOf a) (bytesOf b) with
  | true => rw [h1.1 h]; rfl
  | false => rw [h2 h]; rfl
theorem idx_eq : ∀ (l : List UInt8) (c : Nat) (i : Nat), c < 256 → idx c (l.map (·.toNat)) i = if Go.Lib.indexByte l c.toUInt8 = -1 then -1 else Go.Lib.indexByte l c.toUInt8 + i
  | [], _, _, _ => by simp [Go.Lib.indexByte]; rfl
  | x :: l, c, i, hc => by
    have ih := idx_eq l c (i + 1) hc
    show bE (Nat.beq x.toNat c) (.ofNat i) (idx c (l.map (·.toNat)) (.succ i)) = _
    have hx : (x == c.toUInt8) = Nat.beq x.toNat c := by
      rw [Bool.eq_iff_iff, beq_iff_eq]
      constructor
      · rintro rfl
        have : c.toUInt8.toNat = c := by simp; omega
        rw [this]; exact Nat.beq_refl _
      · intro h
        have := beq_true h
        apply UInt8.toNat_inj.1
        rw [this]; simp; omega
    have hge := Go.Lib.indexByte_ge l c.toUInt8
    simp only [Go.Lib.indexByte, hx]
    cases Nat.beq x.toNat c with
    | true => simp [bE_true]
    | false =>
      rw [bE_false, show Nat.succ i = i + 1 from rfl, ih]
      by_cases h : Go.Lib.indexByte l c.toUInt8 = -1
      · simp [h]
      · have h2 : (Go.Lib.indexByte l c.toUInt8 == -1) = false := by simpa using h
        have h3 : ¬ (Go.Lib.indexByte l c.toUInt8 + 1 = -1) := by omega
        simp only [h2, Bool.false_eq_true, if_false, if_neg h, if_neg h3]
        omega
theorem rvs_cons {ρ : Rho} {v : AV} {l : List AV} {x : List Value} (h : RVs ρ (v :: l) x) : ∃ u r, x = u :: r ∧ RV ρ v u ∧ RVs ρ l r := by
  cases h with
  | cons h1 h2 => exact ⟨_, _, rfl, h1, h2⟩
theorem rvs_nil {ρ : Rho} {x : List Value} (h : RVs ρ [] x) : x = [] := by cases h; rfl
section
variable {P : Program} {f : FuncId} {fn : Func}
theorem ext_cmp (hf : P.funcs[f]? = some fn) (hname : (fn.name == "runtime.NumGoroutine") = false) (hb : fn.body.isNone = true) (hn : Extern.findNext fn = none) (he : Extern.find fn = some Extern.BytealgCompare.compare)
    {ρ : Rho} {args : List AV} {v : AV} {xs : List Value} (e : ext 0 args = some v) (hx : RVs ρ args xs) : ∃ u, RV ρ v u ∧ ∀ w, (callFunc f xs.toArray).run P w = .ok (.value u) w := by
  unfold ext at e
  split at e <;> rename_i h <;> first | (cases h; done) | skip
  · obtain ⟨_, _, rfl, h1, hx⟩ := rvs_cons hx
    obtain ⟨_, _, rfl, h2, hx⟩ := rvs_cons hx
    obtain rfl := rvs_nil hx
    cases h1; cases h2; cases e
    exact ⟨_, .int _ _, fun w => by rw [run_callFunc_extern hf hname hb hn he, Go.Lib.run_compareString, cmpS_eq]; rfl⟩
  · cases e
theorem ext_idx (hf : P.funcs[f]? = some fn) (hname : (fn.name == "runtime.NumGoroutine") = false) (hb : fn.body.isNone = true) (hn : Extern.findNext fn = none) (he : Extern.find fn = some Extern.BytealgIndexByte.indexByte)
    {ρ : Rho} {args : List AV} {v : AV} {xs : List Value} (e : ext 1 args = some v) (hx : RVs ρ args xs) : ∃ u, RV ρ v u ∧ ∀ w, (callFunc f xs.toArray).run P w = .ok (.value u) w := by
  unfold ext at e
  split at e <;> rename_i h <;> first | (cases h; done) | skip
  · obtain ⟨_, _, rfl, h1, hx⟩ := rvs_cons hx
    obtain ⟨_, _, rfl, h2, hx⟩ := rvs_cons hx
    obtain rfl := rvs_nil hx
    obtain ⟨hc, e⟩ := bE_none_eq e
    have hc := ble_true hc
    cases h2; cases e
    rename_i l c _ _ _ _
    generalize hl : AV.str l = L at h1
    cases h1 <;> cases hl
    rename_i s
    refine ⟨_, .int _ _, fun w => ?_⟩
    rw [run_callFunc_extern hf hname hb hn he, Go.Lib.run_indexByteString]
    have := idx_eq s.data.toList c 0 hc
    unfold bytesOf
    rw [this, show (Int.ofNat c).toNat = c from rfl]
    by_cases hm : Go.Lib.indexByte s.data.toList c.toUInt8 = -1
    · simp [hm]
    · simp [hm]
  · cases e
theorem ext_add (hf : P.funcs[f]? = some fn) (hname : (fn.name == "runtime.NumGoroutine") = false) (hb : fn.body.isNone = true) (hn : Extern.findNext fn = none) (he : Extern.find fn = some add64Entry)
    {ρ : Rho} {args : List AV} {v : AV} {xs : List Value} (e : ext 2 args = some v) (hx : RVs ρ args xs) : ∃ u, RV ρ v u ∧ ∀ w, (callFunc f xs.toArray).run P w = .ok (.value u) w := by
  unfold ext at e
  split at e <;> rename_i h <;> first | (cases h; done) | skip
  · obtain ⟨_, _, rfl, h1, hx⟩ := rvs_cons hx
    obtain ⟨_, _, rfl, h2, hx⟩ := rvs_cons hx
    obtain ⟨_, _, rfl, h3, hx⟩ := rvs_cons hx
    obtain rfl := rvs_nil hx
    obtain ⟨hc, e⟩ := bE_none_eq e
    have hc := ble_true hc
    cases h1; cases h2; cases h3; cases e
    refine ⟨.tuple #[.int .u64 _, .int .u64 _], .tup _ _ (.cons (.int _ _) (.cons (.int _ _) .nil)), fun w => ?_⟩
    rw [run_callFunc_extern hf hname hb hn he]
    erw [run_add64 _ _ _ (Int.natCast_nonneg _) (Int.natCast_nonneg _) (Int.natCast_nonneg _) (by exact_mod_cast hc)]
    rfl
  · cases e
end
end Go.Ab
