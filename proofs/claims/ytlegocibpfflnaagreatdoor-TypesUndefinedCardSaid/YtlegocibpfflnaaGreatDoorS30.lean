/- A part of an evaluator of the program's operations over values that are known whole or in part, and of the proof that what it answers holds of the program's run. No condition. -/
import Derived.Test.YtlegocibpfflnaaGreatDoorS28
import Derived.Test.YtlegocibpfflnaaGreatDoorS29
namespace Go.Ab
theorem ofList_get {α : Type} (l : List α) (k : Nat) : (Tr.ofList l).get k = l[k]? := by
  have key : ∀ (l : List α) (i : Nat) (t : Tr α), (List.rec (motive := fun _ => Nat → Tr α → Tr α) (fun _ t => t)
      (fun x _ ih i t => Tr.tE (Tr.set t i x) .lf (fun a b c => ih (.succ i) (.nd a b c))) l i t).get k = if i ≤ k ∧ k < i + l.length then l[k - i]? else t.get k := by
    intro l
    induction l with
    | nil => intro i t; rw [if_neg (by simp only [List.length_nil]; omega)]
    | cons x l ih =>
      intro i t
      have hstep : (List.rec (motive := fun _ => Nat → Tr α → Tr α) (fun _ t => t)
        (fun x _ ih i t => Tr.tE (Tr.set t i x) .lf (fun a b c => ih (.succ i) (.nd a b c))) (x :: l) i t) =
        (List.rec (motive := fun _ => Nat → Tr α → Tr α) (fun _ t => t)
        (fun x _ ih i t => Tr.tE (Tr.set t i x) .lf (fun a b c => ih (.succ i) (.nd a b c))) l (i + 1) (Tr.set t i x)) := by
        show Tr.tE (Tr.set t i x) _ _ = _
        cases h : Tr.set t i x with
        | lf =>
          exfalso
          have := Tr.get_set t i x i
          rw [h, if_pos rfl] at this
          cases this
        | nd a b c => rfl
      rw [hstep, ih (i + 1) (Tr.set t i x), Tr.get_set]
      by_cases h : k = i
      · subst h
        rw [if_neg (by omega), if_pos rfl, if_pos (by simp)]
        simp
      · rw [if_neg h]
        by_cases h2 : i + 1 ≤ k ∧ k < i + 1 + l.length
        · rw [if_pos h2, if_pos (by simp; omega), show k - i = (k - (i + 1)) + 1 by omega, List.getElem?_cons_succ]
        · rw [if_neg h2, if_neg (by simp; omega)]
  have := key l 0 .lf
  rw [show Tr.ofList l = (List.rec (motive := fun _ => Nat → Tr α → Tr α) (fun _ t => t)
      (fun x _ ih i t => Tr.tE (Tr.set t i x) .lf (fun a b c => ih (.succ i) (.nd a b c))) l 0 .lf) from rfl, this]
  simp only [Nat.zero_le, Nat.sub_zero, Nat.zero_add, true_and, Tr.get_lf]
  split
  · rfl
  · next h => rw [List.getElem?_eq_none (by omega)]
end Go.Ab
