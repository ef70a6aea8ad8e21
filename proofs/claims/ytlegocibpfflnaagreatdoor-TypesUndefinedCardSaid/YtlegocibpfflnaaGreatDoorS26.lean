/- A part of an evaluator of the program's operations over values that are known whole or in part, and of the proof that what it answers holds of the program's run. No condition. -/
import Derived.Test.YtlegocibpfflnaaGreatDoorS25
namespace Go.Ab
open Go.RowKit (Below)
noncomputable section

/-! Checks of the tables against a program. -/
def okz : AV → Value → Bool
  | .any, _ => true
  | .bool false, .bool false => true
  | .int k (.ofNat 0), .int j (.ofNat 0) => keq k j
  | .str [], .string s => Nat.beq s.size 0
  | .nilp, .pointer none => true
  | .nils, .slice none 0 0 => true
  | .nilm, .map none => true
  | .nilf, .nilFunc => true
  | .nili, .nilIface => true
  | _, _ => false
def okzs : List AV → List Value → Bool
  | [], [] => true
  | a :: l, v :: x => okz a v && okzs l x
  | _, _ => false
theorem okz_ok {ρ : Rho} {a : AV} {v : Value} (h : okz a v = true) : RV ρ a v := by
  unfold okz at h
  split at h
  · exact .any _
  · exact .bool _
  · obtain rfl := keq_eq h; exact .int _ _
  · next s =>
    have h0 : s.size = 0 := beq_true h
    have : bytesOf s = [] := List.eq_nil_of_length_eq_zero (by rw [bytesOf_length]; exact h0)
    have r := RV.str (ρ := ρ) s
    rwa [this] at r
  · exact .nilp
  · exact .nils
  · exact .nilm
  · exact .nilf
  · exact .nili
  · cases h
theorem okzs_ok {ρ : Rho} : ∀ {l : List AV} {x : List Value}, okzs l x = true → RVs ρ l x
  | [], [], _ => .nil
  | [], _ :: _, h => by cases h
  | _ :: _, [], h => by cases h
  | a :: l, v :: x, h => by
    have h' : (okz a v && okzs l x) = true := h
    rw [Bool.and_eq_true] at h'
    exact .cons (okz_ok h'.1) (okzs_ok h'.2)
def flB : List (Nat × Nat) → List Field → Bool
  | [], [] => true
  | p :: l, g :: x => (Nat.beq p.1 g.type && Nat.beq p.2 g.offset) && flB l x
  | _, _ => false
theorem flB_ok : ∀ {l : List (Nat × Nat)} {x : List Field}, flB l x = true → l = x.map fun g => (g.type, g.offset)
  | [], [], _ => rfl
  | [], _ :: _, h => by cases h
  | _ :: _, [], h => by cases h
  | p :: l, g :: x, h => by
    have h' : ((Nat.beq p.1 g.type && Nat.beq p.2 g.offset) && flB l x) = true := h
    rw [Bool.and_eq_true, Bool.and_eq_true] at h'
    obtain ⟨⟨h1, h2⟩, h3⟩ := h'
    rw [List.map_cons, ← flB_ok h3, ← beq_true h1, ← beq_true h2]
def drB : TD → TypeDesc → Bool
  | .bool, .bool => true
  | .int k, .int j => keq j k
  | .str, .string => true
  | .ptr, .pointer _ => true
  | .sl e, .slice f => Nat.beq f e
  | .arr n e, .array m f => Nat.beq m n && Nat.beq f e
  | .map k e, .map j f => Nat.beq j k && Nat.beq f e
  | .st fs, .struct gs => flB fs gs.toList
  | .fn, .func _ _ _ => true
  | .ifc, .interface _ => true
  | .oth, _ => true
  | _, _ => false
theorem drB_ok {d : TD} {D : TypeDesc} (h : drB d D = true) : DR d D := by
  unfold drB at h
  split at h
  · trivial
  · exact keq_eq h
  · trivial
  · trivial
  · exact beq_true h
  · rw [Bool.and_eq_true] at h; exact ⟨beq_true h.1, beq_true h.2⟩
  · rw [Bool.and_eq_true] at h; exact ⟨beq_true h.1, beq_true h.2⟩
  · exact flB_ok h
  · trivial
  · trivial
  · cases D <;> trivial
  · cases h
def fldB (P : Program) : TD → Bool
  | .st fs => fs.all fun p => (P.info? p.1).isSome
  | _ => true
def tyB (P : Program) (eqs : List Nat) (t : Nat) (i : TI) : Bool := match P.info? t with
  | none => false
  | some f => match f.zero with
    | none => false
    | some z => match P.underlying t with
      | none => false
      | some d => Nat.beq f.size i.size && (Nat.beq f.bytes i.bytes && (okzs i.z z.cells.toList && (beqB (aggV z) i.agg && (Nat.beq (len i.z) i.size && (drB i.d d && (beqB (aggD d) i.agg && ((!i.eq || mem t eqs) && fldB P i.d)))))))
theorem beqB_iff {a b : Bool} (h : beqB a b = true) : a = b := by cases a <;> cases b <;> first | rfl | cases h
theorem tyB_ok {P : Program} {eqs : List Nat} {t : Nat} {i : TI} (he : t ∈ eqs → EqOK P t i.z) (h : tyB P eqs t i = true) : TyOK P t i := by
  unfold tyB at h
  split at h
  · cases h
  · next f hf =>
    split at h
    · cases h
    · next z hz =>
      split at h
      · cases h
      · next d hd =>
        simp only [Bool.and_eq_true] at h
        obtain ⟨h1, h2, h3, h4, h5, h6, h7, h8, h9⟩ := h
        refine ⟨⟨f, z, d, hf, beq_true h1, beq_true h2, hz, fun ρ => okzs_ok h3, beqB_iff h4, by rw [← len_eq]; exact beq_true h5, hd, drB_ok h6, beqB_iff h7⟩, fun h => ?_, fun fs hfs p hp => ?_⟩
        · rw [h] at h8; exact he ((mem_eq _ _).1 (by simpa using h8))
        · rw [hfs] at h9
          exact List.all_eq_true.1 h9 p hp
def tysB (P : Program) (eqs : List Nat) : Nat → List (Option TI) → Bool
  | _, [] => true
  | t, none :: l => tysB P eqs (t + 1) l
  | t, some i :: l => tyB P eqs t i && tysB P eqs (t + 1) l
theorem tysB_ok {P : Program} {eqs : List Nat} : ∀ {l : List (Option TI)} {t : Nat}, tysB P eqs t l = true → (∀ j i, l[j]? = some (some i) → (t + j) ∈ eqs → EqOK P (t + j) i.z) → ∀ j i, l[j]? = some (some i) → TyOK P (t + j) i
  | [], _, _, _, _, _, h => by simp at h
  | none :: l, t, h, he, j, i, hj => by
    cases j with
    | zero => simp at hj
    | succ j =>
      have := tysB_ok (t := t + 1) (show tysB P eqs (t + 1) l = true from h) (fun j i hj h => by
        have := he (j + 1) i (by simpa using hj) (by rwa [show t + (j + 1) = t + 1 + j by omega])
        rwa [show t + (j + 1) = t + 1 + j by omega] at this) j i (by simpa using hj)
      rwa [show t + (j + 1) = t + 1 + j by omega]
  | some x :: l, t, h, he, j, i, hj => by
    have h' : (tyB P eqs t x && tysB P eqs (t + 1) l) = true := h
    rw [Bool.and_eq_true] at h'
    cases j with
    | zero => simp at hj; subst hj; exact tyB_ok (he 0 x rfl) h'.1
    | succ j =>
      have := tysB_ok (t := t + 1) h'.2 (fun j i hj h => by
        have := he (j + 1) i (by simpa using hj) (by rwa [show t + (j + 1) = t + 1 + j by omega])
        rwa [show t + (j + 1) = t + 1 + j by omega] at this) j i (by simpa using hj)
      rwa [show t + (j + 1) = t + 1 + j by omega]

/-! Tables laid out of lists. -/
theorem ofListO_get {α : Type} (l : List (Option α)) (k : Nat) : (Tr.ofListO l).get k = (l[k]?).join := by
  have key : ∀ (l : List (Option α)) (i : Nat) (t : Tr α), (List.rec (motive := fun _ => Nat → Tr α → Tr α) (fun _ t => t)
      (fun x _ ih i t => Tr.rec (motive := fun _ => Tr α) (ih (.succ i) .lf) (fun a b c _ _ => ih (.succ i) (.nd a b c)) (Tr.setO t i x)) l i t).get k = if i ≤ k ∧ k < i + l.length ∧ (l[k - i]?).join ≠ none then (l[k - i]?).join else t.get k := by
    intro l
    induction l with
    | nil => intro i t; simp; 
    | cons x l ih =>
      intro i t
      have hstep : (List.rec (motive := fun _ => Nat → Tr α → Tr α) (fun _ t => t)
        (fun x _ ih i t => Tr.rec (motive := fun _ => Tr α) (ih (.succ i) .lf) (fun a b c _ _ => ih (.succ i) (.nd a b c)) (Tr.setO t i x)) (x :: l) i t) =
        (List.rec (motive := fun _ => Nat → Tr α → Tr α) (fun _ t => t)
        (fun x _ ih i t => Tr.rec (motive := fun _ => Tr α) (ih (.succ i) .lf) (fun a b c _ _ => ih (.succ i) (.nd a b c)) (Tr.setO t i x)) l (i + 1) (Tr.setO t i x)) := by
        show Tr.rec (motive := fun _ => Tr α) _ _ (Tr.setO t i x) = _
        cases Tr.setO t i x <;> rfl
      rw [hstep, ih (i + 1) (Tr.setO t i x)]
      by_cases h : k = i
      · subst h
        rw [if_neg (by omega)]
        cases x with
        | none => simp [Tr.setO]
        | some y => simp [Tr.setO, Tr.get_set]
      · have hs : (Tr.setO t i x).get k = t.get k := by
          cases x with
          | none => rfl
          | some y => show (t.set i y).get k = _; rw [Tr.get_set, if_neg h]
        rw [hs]
        by_cases h2 : i + 1 ≤ k
        · have : (x :: l)[k - i]? = l[k - (i + 1)]? := by rw [show k - i = (k - (i + 1)) + 1 by omega, List.getElem?_cons_succ]
          rw [this]
          simp only [List.length_cons]
          by_cases h3 : i + 1 ≤ k ∧ k < i + 1 + l.length ∧ (l[k - (i + 1)]?).join ≠ none
          · rw [if_pos h3, if_pos ⟨by omega, by omega, h3.2.2⟩]
          · rw [if_neg h3, if_neg (fun h4 => h3 ⟨by omega, by omega, h4.2.2⟩)]
        · rw [if_neg (fun h3 => h2 h3.1), if_neg (fun h3 => by omega)]
  have := key l 0 .lf
  rw [show Tr.ofListO l = (List.rec (motive := fun _ => Nat → Tr α → Tr α) (fun _ t => t)
      (fun x _ ih i t => Tr.rec (motive := fun _ => Tr α) (ih (.succ i) .lf) (fun a b c _ _ => ih (.succ i) (.nd a b c)) (Tr.setO t i x)) l 0 .lf) from rfl, this]
  simp only [Nat.zero_le, Nat.sub_zero, Nat.zero_add, true_and, Tr.get_lf]
  split
  · rfl
  · next h =>
    cases hj : (l[k]?).join with
    | none => rfl
    | some y =>
      exfalso
      apply h
      refine ⟨?_, by rw [hj]; simp⟩
      rcases Nat.lt_or_ge k l.length with h1 | h1
      · exact h1
      · rw [List.getElem?_eq_none h1] at hj; cases hj
end
end Go.Ab
