/- A part of an evaluator of the program's operations over values that are known whole or in part, and of the proof that what it answers holds of the program's run. No condition. -/
import Derived.Test.YtlegocibpfflnaaGreatDoorS21
namespace Go.Ab
open Go.RowKit (Below)

/-! Operations of kind 0 touch no block. -/
def Pr (s : St) (r : Out) : Prop := ∀ v h c tl, r = .ok v h c tl → tl = [] ∧ c = s.c
theorem Pr.no (s : St) : Pr s .no := fun _ _ _ _ e => by cases e
theorem Pr.pure (s : St) (v : AV) : Pr s (Go.Ab.pure s v) := fun _ _ _ _ e => by rw [pure_eq] at e; cases e; exact ⟨rfl, rfl⟩
theorem Pr.pureO (s : St) (v : Option AV) : Pr s (Go.Ab.pureO s v) := by
  cases v with
  | none => exact Pr.no s
  | some v => exact Pr.pure s v
theorem Pr.oE {α : Type} {s : St} {x : Option α} {f : α → Out} (h : ∀ a, Pr s (f a)) : Pr s (Go.Ab.oE x .no f) := by
  cases x with
  | none => exact Pr.no s
  | some a => exact h a
theorem Pr.disp {E : Env} {rec : Rec} {s : St} (op : Op) (hk : kindOp op = 0) : Pr s (Go.Ab.disp op E rec s) := by
  cases op with
  | move x => exact Pr.pureO _ _
  | assign x => exact Pr.pureO _ _
  | pick q x y => exact Pr.pureO _ _
  | build t ps => exact Pr.oE fun l => Pr.oE fun ti => Pr.pureO _ _
  | nilCheck x => exact Pr.pureO _ _
  | binOp op t x y hint => exact Pr.oE fun a => Pr.oE fun b => Pr.pureO _ _
  | unOp op t x => exact Pr.oE fun a => Pr.pureO _ _
  | makeFunc f first cap =>
    cases f with
    | func f => exact Pr.oE fun a => Pr.oE fun b => Pr.pure _ _
    | _ => exact Pr.no s
  | slice t x lo hi mx => exact Pr.oE fun v => Pr.pureO _ _
  | fieldAddr t x f => exact Pr.oE fun v => Pr.oE fun p => Pr.pureO _ _
  | field t x f => exact Pr.oE fun v => Pr.oE fun p => Pr.pureO _ _
  | indexAddr t x i => exact Pr.oE fun a => Pr.oE fun b => Pr.pureO _ _
  | index t x i => exact Pr.oE fun a => Pr.oE fun b => Pr.oE fun n => Pr.pureO _ _
  | extract x i => exact Pr.pureO _ _
  | call cl =>
    obtain ⟨callee, args, argTypes⟩ := cl
    cases callee <;> cases hk
  | _ => cases hk

theorem disj_ok : ∀ {a b : List Nat}, disj a b = true → ∀ x ∈ a, x ∉ b
  | [], _, _, _, h => by simp at h
  | y :: a, b, h, x, hx => by
    have h' : bE (mem y b) false (disj a b) = true := h
    cases hm : mem y b with
    | true => rw [hm] at h'; cases h'
    | false =>
      rw [hm, bE_false] at h'
      rcases List.mem_cons.1 hx with rfl | hx
      · intro hb
        rw [(mem_eq _ _).2 hb] at hm; cases hm
      · exact disj_ok h' x hx
theorem outside_ok {c0 c1 : Nat} : ∀ {l : List Nat}, outside c0 c1 l = true → ∀ x ∈ l, ¬ (c0 ≤ x ∧ x < c1)
  | [], _, _, h => by simp at h
  | y :: l, h, x, hx => by
    have h' : bE (Nat.ble c0 y && Nat.ble (.succ y) c1) false (outside c0 c1 l) = true := h
    cases hm : (Nat.ble c0 y && Nat.ble (.succ y) c1) with
    | true => rw [hm] at h'; cases h'
    | false =>
      rw [hm, bE_false] at h'
      rcases List.mem_cons.1 hx with rfl | hx
      · rintro ⟨h1, h2⟩
        have h3 : Nat.ble c0 x = true := Nat.ble_eq_true_of_le h1
        have h4 : Nat.ble (.succ x) c1 = true := Nat.ble_eq_true_of_le h2
        rw [h3, h4] at hm; cases hm
      · exact outside_ok h' x hx
theorem above_ok {c0 : Nat} : ∀ {l : List Nat}, above c0 l = true → ∀ x ∈ l, c0 ≤ x
  | [], _, _, h => by simp at h
  | y :: l, h, x, hx => by
    have h' : bE (Nat.ble c0 y) (above c0 l) false = true := h
    obtain ⟨h1, h2⟩ : Nat.ble c0 y = true ∧ above c0 l = true := by
      cases hm : Nat.ble c0 y with
      | true => rw [hm, bE_true] at h'; exact ⟨rfl, h'⟩
      | false => rw [hm] at h'; cases h'
    rcases List.mem_cons.1 hx with rfl | hx
    · exact ble_true h1
    · exact above_ok h2 x hx
theorem compat_ok {a b : Rcd} (h : compat a b = true) : (∀ n ∈ a.w, n ∉ b.w) ∧ (∀ n ∈ b.w, ¬ (a.c0 ≤ n ∧ n < a.c1)) ∧ (b.call = false ∧ (∀ n ∈ a.w, n ∉ b.r) ∧ ∀ n ∈ b.r, ¬ (a.c0 ≤ n ∧ n < a.c1)) ∧
    ((a.call = true → ∀ n ∈ b.w, a.c0 ≤ n) ∧ (a.call = false → ∀ n ∈ b.w, n ∉ a.r)) := by
  unfold compat at h
  rw [Bool.and_eq_true, Bool.and_eq_true, Bool.and_eq_true] at h
  obtain ⟨⟨⟨h1, h2⟩, h3⟩, h4⟩ := h
  refine ⟨disj_ok h1, outside_ok h2, ?_, ?_, ?_⟩
  · cases hc : b.call with
    | true => rw [hc] at h3; cases h3
    | false =>
      rw [hc, bE_false, Bool.and_eq_true] at h3
      exact ⟨rfl, disj_ok h3.1, outside_ok h3.2⟩
  · intro hc
    rw [hc, bE_true] at h4
    exact above_ok h4
  · intro hc
    rw [hc, bE_false] at h4
    exact disj_ok h4
theorem binds_eq (e : Edge) : binds e.ground = Region.binds .any e := by
  unfold binds Region.binds
  cases e.ground <;> rfl

/-! What is known of a region that draws, and of its evaluation. -/
structure Draw (P : Program) (E : Env) (rec : Rec) (ops : Array Oper) (p : List Ent) (S : Nat → St) (T : Nat → Stp) : Prop where
  cover : ∀ i, i < ops.size → ∃ (k : Nat) (x : Ent), p[k]? = some x ∧ x.i = i
  nodup : ∀ (j k : Nat) (x y : Ent), p[j]? = some x → p[k]? = some y → x.i = y.i → j = k
  op : ∀ (k : Nat) (x : Ent), p[k]? = some x → ops[x.i]? = some x.o ∧ x.i < ops.size ∧ x.k = kindOp x.o.op
  edges : ∀ (k : Nat) (x : Ent), p[k]? = some x → ∀ g ∈ x.o.after, Region.binds .any g = true → g.on < x.i
  mask : ∀ (k : Nat) (x : Ent), p[k]? = some x → ∀ i, i < ops.size → bit x.m i = true → ∃ g ∈ x.o.after, Region.binds .any g = true ∧ (g.on = i ∨ ∀ (j : Nat) (y : Ent), p[j]? = some y → y.i = g.on → bit y.m i = true)
  apart : ∀ (j k : Nat) (x y : Ent), j < k → p[j]? = some x → p[k]? = some y → bit y.m x.i = true ∨ x.o.apart ops y.o = true
  step : ∀ (k : Nat) (e : Ent), p[k]? = some e → StepAt E rec ops.toList e (S k) (S (k + 1)) (T k)
  compat : ∀ (j k : Nat) (x y : Ent), j < k → p[j]? = some x → p[k]? = some y → (T j).on = true → (T k).on = true → x.k ≠ 0 → y.k ≠ 0 → bit y.m x.i = true ∨ compat (rcdOf x (S j) (T j)) (rcdOf y (S k) (T k)) = true
  wf : Wf (S 0).h (S 0).c
theorem draw_of {P : Program} {E : Env} {rec : Rec} {ops : Array Oper} (hok : drawOK ops = true) {s s' : St} (wf : Wf s.h s.c) (e : runD E rec ops.toList (plan ops.toList) s [] = some s') :
    ∃ S T, S 0 = s ∧ S (plan ops.toList).length = s' ∧ Draw P E rec ops (plan ops.toList) S T := by
  obtain ⟨S, T, h1, h2, h3, _, h5⟩ := runD_trace e
  unfold drawOK at hok
  rw [Bool.and_eq_true, Bool.and_eq_true, Bool.and_eq_true, Bool.and_eq_true] at hok
  obtain ⟨k1, k2, k3, k4, k5⟩ := hok
  have hmem : ∀ {k : Nat} {x : Ent}, (plan ops.toList)[k]? = some x → x ∈ plan ops.toList := fun h => List.mem_of_getElem? h
  refine ⟨S, T, h1, h2, ⟨fun i hi => ?_, fun j k x y hx hy hxy => ?_, fun k x hx => ?_, fun k x hx g hg hb => ?_, fun k x hx i hi hb => ?_, fun j k x y hjk hx hy => pairsOK_get k5 j k hjk hx hy, h3, h5, h1 ▸ wf⟩⟩
  · have := List.all_eq_true.1 k1 i (by simpa using hi)
    obtain ⟨x, hx, hxi⟩ := List.any_eq_true.1 this
    obtain ⟨k, hk, hkx⟩ := List.mem_iff_getElem.1 hx
    exact ⟨k, x, by rw [List.getElem?_eq_getElem hk, hkx], beq_true hxi⟩
  · have hj : j < ((plan ops.toList).map (·.i)).length := by
      rw [List.length_map]; exact (List.getElem?_eq_some_iff.1 hx).1
    exact (List.getElem?_inj hj (nodupB_ok k2)).1 (by rw [List.getElem?_map, List.getElem?_map, hx, hy]; simp [hxy])
  · obtain ⟨a, _, c⟩ := plan_mem (hmem hx)
    rw [Array.getElem?_toList] at a
    exact ⟨a, (Array.getElem?_eq_some_iff.1 a).1, c⟩
  · have := List.all_eq_true.1 (List.all_eq_true.1 k3 x (hmem hx)) g (by simpa using hg)
    rw [binds_eq, hb] at this
    exact ble_true (by simpa using this)
  · have := List.all_eq_true.1 (List.all_eq_true.1 k4 x (hmem hx)) i (by simpa using hi)
    rw [hb] at this
    obtain ⟨g, hg, hgb⟩ := List.any_eq_true.1 (by simpa using this : (x.o.after.toList.any fun g => binds g.ground && (Nat.beq g.on i || bit ((masks ops.toList []).getD g.on 0) i)) = true)
    rw [Bool.and_eq_true, Bool.or_eq_true] at hgb
    refine ⟨g, by simpa using hg, by rw [← binds_eq]; exact hgb.1, ?_⟩
    rcases hgb.2 with h6 | h6
    · exact .inl (beq_true h6)
    · refine .inr fun j y hy hyi => ?_
      obtain ⟨_, b, _⟩ := plan_mem (hmem hy)
      rw [hyi] at b
      rw [List.getD_eq_getElem?_getD, b] at h6
      exact h6
end Go.Ab
