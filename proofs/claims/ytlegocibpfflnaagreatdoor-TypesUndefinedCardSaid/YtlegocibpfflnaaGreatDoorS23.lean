/- A part of an evaluator of the program's operations over values that are known whole or in part, and of the proof that what it answers holds of the program's run. No condition. -/
import Derived.Test.YtlegocibpfflnaaGreatDoorS22
namespace Go.Ab
open Go.RowKit (Below)
section
variable {P : Program} {E : Env} {rec : Rec} {ops : Array Oper} {p : List Ent} {S : Nat → St} {T : Nat → Stp}

def tch (S : Nat → St) (T : Nat → Stp) (k nn : Nat) : Prop := (T k).on = true ∧ (nn ∈ (T k).tl ∨ ((S k).c ≤ nn ∧ nn < (S (k + 1)).c))
theorem Draw.mono1 (D : Draw P E rec ops p S T) (hm : RecM rec) {k : Nat} {x : Ent} (hx : p[k]? = some x) : Mono (S k) (S (k + 1)) := by
  rcases D.step k x hx with ⟨_, _, h1, h2⟩ | ⟨_, _, h2⟩
  · rw [h2]; exact Mono.put (Gr.all hm (S k) x.o.op) h1
  · rw [h2]; exact Mono.skip _ _
theorem Draw.mono (D : Draw P E rec ops p S T) (hm : RecM rec) {j k : Nat} (hjk : j ≤ k) (hk : k ≤ p.length) : Mono (S j) (S k) := by
  induction k with
  | zero => obtain rfl : j = 0 := (by omega); exact Mono.refl _
  | succ k ih =>
    by_cases h : j = k + 1
    · subst h; exact Mono.refl _
    · exact (ih (by omega) (by omega)).trans (D.mono1 hm (List.getElem?_eq_getElem (show k < p.length by omega)))
theorem Draw.wfk (D : Draw P E rec ops p S T) (hm : RecM rec) {k : Nat} (hk : k ≤ p.length) : Wf (S k).h (S k).c := (D.mono hm (Nat.zero_le k) hk).wf D.wf
theorem Draw.ck (D : Draw P E rec ops p S T) {k : Nat} {x : Ent} (hx : p[k]? = some x) (hon : (T k).on = true) : (S (k + 1)).c = (T k).c ∧ (S (k + 1)).h = (T k).h ∧ disp x.o.op E rec (S k) = .ok (T k).v (T k).h (T k).c (T k).tl ∧ (S (k + 1)).t = setD (S k).t x.o.dst (T k).v := by
  rcases D.step k x hx with ⟨_, _, h1, h2⟩ | ⟨h, _, _⟩
  · rw [h2, putS_eq]; exact ⟨rfl, rfl, h1, rfl⟩
  · rw [hon] at h; cases h
theorem Draw.off (D : Draw P E rec ops p S T) {k : Nat} {x : Ent} (hx : p[k]? = some x) (hon : (T k).on = false) : S (k + 1) = skipS (S k) x.o.dst := by
  rcases D.step k x hx with ⟨h, _, h1, h2⟩ | ⟨_, _, h⟩
  · rw [hon] at h; cases h
  · exact h
/-- what a step does not touch, it leaves -/
theorem Draw.keep1 (D : Draw P E rec ops p S T) (hm : RecM rec) {k : Nat} {x : Ent} (hx : p[k]? = some x) {nn : Nat} (h : ¬ tch S T k nn) : (S (k + 1)).h.get nn = (S k).h.get nn := by
  have hk : k < p.length := (List.getElem?_eq_some_iff.1 hx).1
  cases hon : (T k).on with
  | false => rw [D.off hx hon, skipS_eq]
  | true =>
    obtain ⟨h1, h2, h3, _⟩ := D.ck hx hon
    obtain ⟨g1, g2, g3, g4⟩ := Gr.all hm (S k) x.o.op _ _ _ _ h3
    have hnt : nn ∉ (T k).tl := fun h' => h ⟨hon, .inl h'⟩
    by_cases hc : nn < (S k).c
    · rw [h2]; exact g2 nn hnt hc
    · have hc' : (S (k + 1)).c ≤ nn := by
        rcases Nat.lt_or_ge nn (S (k + 1)).c with h4 | h4
        · exact absurd ⟨hon, .inr ⟨by omega, h4⟩⟩ h
        · exact h4
      rw [D.wfk hm (show k + 1 ≤ p.length by omega) nn hc', D.wfk hm (Nat.le_of_lt hk) nn (by omega)]
theorem Draw.keep (D : Draw P E rec ops p S T) (hm : RecM rec) {a b nn : Nat} (hab : a ≤ b) (hb : b ≤ p.length) (h : ∀ j, a ≤ j → j < b → ¬ tch S T j nn) : (S b).h.get nn = (S a).h.get nn := by
  induction b with
  | zero => obtain rfl : a = 0 := (by omega); rfl
  | succ b ih =>
    by_cases h' : a = b + 1
    · subst h'; rfl
    · rw [D.keep1 hm (List.getElem?_eq_getElem (show b < p.length by omega)) (h b (by omega) (by omega))]
      exact ih (by omega) (by omega) fun j h1 h2 => h j h1 (by omega)
theorem setD_other {t : Tr AV} {dst : Option Tmp} {v : AV} {i : Nat} (h : dst ≠ some i) : (setD t dst v).get i = t.get i := by
  cases dst with
  | none => rfl
  | some d => rw [show setD t (some d) v = t.set d v from rfl, Tr.get_set, if_neg (fun h' => h (by rw [h']))]
theorem setD_same {t : Tr AV} {v : AV} {i : Nat} : (setD t (some i) v).get i = some v := by
  rw [show setD t (some i) v = t.set i v from rfl, Tr.get_set, if_pos rfl]
theorem Draw.tkeep (D : Draw P E rec ops p S T) {a b t : Nat} (hab : a ≤ b) (hb : b ≤ p.length) (h : ∀ j x, a ≤ j → j < b → p[j]? = some x → x.o.dst ≠ some t) : (S b).t.get t = (S a).t.get t := by
  induction b with
  | zero => obtain rfl : a = 0 := (by omega); rfl
  | succ b ih =>
    by_cases h' : a = b + 1
    · subst h'; rfl
    · have hx : p[b]? = some p[b] := List.getElem?_eq_getElem (show b < p.length by omega)
      have hne := h b _ (by omega) (by omega) hx
      have : (S (b + 1)).t.get t = (S b).t.get t := by
        cases hon : (T b).on with
        | false => rw [D.off hx hon, skipS_eq]; exact setD_other hne
        | true => rw [(D.ck hx hon).2.2.2]; exact setD_other hne
      rw [this]
      exact ih (by omega) (by omega) fun j x h1 h2 => h j x h1 (by omega)
/-- what an operation looks at -/
def reads (S : Nat → St) (k : Nat) (x : Ent) (nn : Nat) : Prop := ((x.k = 1 ∧ nn ∈ refsO (S k).t x.o.op.operands.toList) ∨ x.k = 2) ∧ ∃ o, (S k).h.get nn = some o
theorem Draw.clash (D : Draw P E rec ops p S T) (hm : RecM rec) {j k : Nat} {x y : Ent} (hjk : j < k) (hx : p[j]? = some x) (hy : p[k]? = some y) (hb : bit y.m x.i = false) (hok : (T k).on = true) :
    (∀ nn, tch S T j nn → tch S T k nn → False) ∧ (∀ nn, reads S k y nn → tch S T j nn → False) ∧ ((T j).on = true → ∀ nn, reads S j x nn → tch S T k nn → False) := by
  have hk : k < p.length := (List.getElem?_eq_some_iff.1 hy).1
  have hj : j < p.length := (List.getElem?_eq_some_iff.1 hx).1
  have m1 := (D.mono hm (show j + 1 ≤ k by omega) (by omega)).cc
  have m0 := (D.mono1 hm hx).cc
  -- an operation of kind 0 touches nothing
  have zero : ∀ {i : Nat} {z : Ent}, p[i]? = some z → ∀ nn, tch S T i nn → z.k ≠ 0 := by
    intro i z hz nn ⟨hon, ht⟩ h0
    obtain ⟨h1, h2, h3, _⟩ := D.ck hz hon
    rw [(D.op i z hz).2.2] at h0
    obtain ⟨h4, h5⟩ := Pr.disp z.o.op h0 _ _ _ _ h3
    rw [h4] at ht
    rcases ht with ht | ht
    · simp at ht
    · omega
  -- old blocks alone are turned
  have old : ∀ {i : Nat} {z : Ent}, p[i]? = some z → (T i).on = true → ∀ nn ∈ (T i).tl, nn < (S i).c := by
    intro i z hz hon nn hn
    have hi : i < p.length := (List.getElem?_eq_some_iff.1 hz).1
    obtain ⟨h1, h2, h3, _⟩ := D.ck hz hon
    obtain ⟨_, _, _, g4⟩ := Gr.all hm (S i) z.o.op _ _ _ _ h3
    obtain ⟨o, ho⟩ := g4 nn hn
    rcases Nat.lt_or_ge nn (S i).c with h | h
    · exact h
    · rw [D.wfk hm (Nat.le_of_lt hi) nn h] at ho; cases ho
  have live : ∀ {i : Nat} {z : Ent}, p[i]? = some z → ∀ nn, reads S i z nn → nn < (S i).c := by
    intro i z hz nn ⟨_, o, ho⟩
    have hi : i < p.length := (List.getElem?_eq_some_iff.1 hz).1
    rcases Nat.lt_or_ge nn (S i).c with h | h
    · exact h
    · rw [D.wfk hm (Nat.le_of_lt hi) nn h] at ho; cases ho
  have comp : (T j).on = true → x.k ≠ 0 → y.k ≠ 0 → Go.Ab.compat (rcdOf x (S j) (T j)) (rcdOf y (S k) (T k)) = true := fun hoj h1 h2 => by
    rcases D.compat j k x y hjk hx hy hoj hok h1 h2 with h | h
    · rw [hb] at h; cases h
    · exact h
  refine ⟨fun nn hj' hk' => ?_, fun nn hr hj' => ?_, fun hoj nn hr hk' => ?_⟩
  · obtain ⟨c1, c2, _, _⟩ := compat_ok (comp hj'.1 (zero hx nn hj') (zero hy nn hk'))
    have hcj := (D.ck hx hj'.1).1
    rcases hj'.2 with h1 | h1
    · rcases hk'.2 with h2 | h2
      · exact c1 nn h1 h2
      · have := old hx hj'.1 nn h1
        omega
    · rcases hk'.2 with h2 | h2
      · exact c2 nn h2 ⟨h1.1, by have := h1.2; rw [hcj] at this; exact this⟩
      · omega
  · have hcj := (D.ck hx hj'.1).1
    have hk0 : y.k ≠ 0 := by rcases hr.1 with ⟨h, _⟩ | h <;> omega
    obtain ⟨_, _, ⟨c3, c4, c5⟩, _⟩ := compat_ok (comp hj'.1 (zero hx nn hj') hk0)
    rcases hr.1 with ⟨h, hr1⟩ | h
    · rcases hj'.2 with h1 | h1
      · exact c4 nn h1 hr1
      · exact c5 nn hr1 ⟨h1.1, by have := h1.2; rw [hcj] at this; exact this⟩
    · have : Nat.beq y.k 2 = false := c3
      rw [h] at this; cases this
  · have hj0 : x.k ≠ 0 := by rcases hr.1 with ⟨h, _⟩ | h <;> omega
    obtain ⟨_, _, _, c6, c7⟩ := compat_ok (comp hoj hj0 (zero hy nn hk'))
    have hlive := live hx nn hr
    rcases hk'.2 with h1 | h1
    · rcases hr.1 with ⟨h, hr1⟩ | h
      · exact c7 (by show Nat.beq x.k 2 = false; rw [h]; rfl) nn h1 hr1
      · have := c6 (by show Nat.beq x.k 2 = true; rw [h]; rfl) nn h1
        have : (S j).c ≤ nn := this
        omega
    · omega
end
end Go.Ab
