/- A part of an evaluator of the program's operations over values that are known whole or in part, and of the proof that what it answers holds of the program's run. No condition. -/
import Derived.Test.YtlegocibpfflnaaGreatDoorS18
namespace Go.Ab
noncomputable section

/-! What is checked of a code once and for all. -/
def dstOK (N : Nat) (o : Oper) : Bool := match o.dst with
  | some d => Nat.ble (d + 1) N
  | none => true
def pairsOK (ops : Array Oper) : List Ent → Bool
  | [] => true
  | x :: r => r.all (fun y => bit y.m x.i || x.o.apart ops y.o) && pairsOK ops r
def edgesOK (e : Ent) : Bool := e.o.after.toList.all fun g => !binds g.ground || Nat.ble (g.on + 1) e.i
def maskOK (n : Nat) (ms : List Nat) (e : Ent) : Bool := (List.range n).all fun i => !bit e.m i || e.o.after.toList.any fun g => binds g.ground && (Nat.beq g.on i || bit (ms.getD g.on 0) i)
def nodupB : List Nat → Bool
  | [] => true
  | x :: r => !mem x r && nodupB r
def coverB (n : Nat) (p : List Ent) : Bool := (List.range n).all fun i => p.any fun e => Nat.beq e.i i
def drawOK (ops : Array Oper) : Bool :=
  coverB ops.size (plan ops.toList) && (nodupB ((plan ops.toList).map (·.i)) && ((plan ops.toList).all edgesOK && ((plan ops.toList).all (maskOK ops.size (masks ops.toList [])) && pairsOK ops (plan ops.toList))))
def okCode (N : Nat) : Code → Bool
  | .region _ ops draw => ops.toList.all (dstOK N) && (!draw || drawOK ops)
  | .seq a b => okCode N a && okCode N b
  | .cond _ a b => okCode N a && okCode N b
  | .block _ b => okCode N b
  | .loop b => okCode N b
  | _ => true

theorem nodupB_ok : ∀ {l : List Nat}, nodupB l = true → l.Nodup
  | [], _ => List.nodup_nil
  | x :: r, h => by
    simp only [nodupB, Bool.and_eq_true, Bool.not_eq_true'] at h
    refine List.nodup_cons.2 ⟨fun hx => ?_, nodupB_ok h.2⟩
    have := (mem_eq x r).2 hx
    rw [h.1] at this; cases this
theorem pairsOK_cons {ops : Array Oper} {x : Ent} {r : List Ent} (h : pairsOK ops (x :: r) = true) : (∀ y ∈ r, bit y.m x.i = true ∨ x.o.apart ops y.o = true) ∧ pairsOK ops r = true := by
  have h' : (r.all (fun y => bit y.m x.i || x.o.apart ops y.o) && pairsOK ops r) = true := h
  rw [Bool.and_eq_true, List.all_eq_true] at h'
  exact ⟨fun y hy => by have := h'.1 y hy; rwa [Bool.or_eq_true] at this, h'.2⟩
theorem pairsOK_get {ops : Array Oper} : ∀ {p : List Ent}, pairsOK ops p = true → ∀ (j k : Nat) {x y : Ent}, j < k → p[j]? = some x → p[k]? = some y → bit y.m x.i = true ∨ x.o.apart ops y.o = true := by
  intro p
  induction p with
  | nil => intro _ j k x y _ hx; simp at hx
  | cons z r ih =>
    intro h j k x y hjk hx hy
    obtain ⟨h1, h2⟩ := pairsOK_cons h
    cases k with
    | zero => omega
    | succ k =>
      rw [List.getElem?_cons_succ] at hy
      cases j with
      | zero =>
        rw [List.getElem?_cons_zero] at hx
        cases hx
        exact h1 y (List.mem_of_getElem? hy)
      | succ j =>
        rw [List.getElem?_cons_succ] at hx
        exact ih h2 j k (by omega) hx hy

/-! The order of evaluation has the operations of the text. -/
theorem ents_mem : ∀ {l : List Oper} {i : Nat} {ms : List Nat} {e : Ent}, e ∈ ents l i ms → ∃ j, e.i = i + j ∧ l[j]? = some e.o ∧ ms[j]? = some e.m ∧ e.k = kindOp e.o.op
  | [], _, _, _, h => by cases (show _ ∈ ([] : List Ent) from h)
  | o :: l, i, [], e, h => by cases (show _ ∈ ([] : List Ent) from h)
  | o :: l, i, m :: r, e, h => by
    rcases List.mem_cons.1 (show e ∈ (⟨i, o, m, kindOp o.op⟩ : Ent) :: ents l (i + 1) r from h) with rfl | h
    · exact ⟨0, rfl, rfl, rfl, rfl⟩
    · obtain ⟨j, h1, h2, h3, h4⟩ := ents_mem h
      exact ⟨j + 1, by omega, by simpa using h2, by simpa using h3, h4⟩
theorem orderN_mem : ∀ {n : Nat} {l : List Ent} {e : Ent}, e ∈ orderN n l → e ∈ l
  | 0, _, _, h => h
  | n + 1, l, e, h => by
    have h' : e ∈ oE (l.find? (fun e => Nat.beq e.k (nat_lit 2))) l (fun e => firsts e.m l ++ e :: orderN n (others e.m e.i l)) := h
    cases hf : l.find? (fun e => Nat.beq e.k (nat_lit 2)) with
    | none => rw [hf] at h'; exact h'
    | some x =>
      rw [hf, oE_some] at h'
      rcases List.mem_append.1 h' with h1 | h1
      · exact (List.mem_filter.1 h1).1
      · rcases List.mem_cons.1 h1 with rfl | h2
        · exact List.mem_of_find?_eq_some hf
        · exact (List.mem_filter.1 (orderN_mem h2)).1
theorem plan_mem {l : List Oper} {e : Ent} (h : e ∈ plan l) : l[e.i]? = some e.o ∧ (masks l [])[e.i]? = some e.m ∧ e.k = kindOp e.o.op := by
  obtain ⟨j, h1, h2, h3, h4⟩ := ents_mem (orderN_mem (show e ∈ orderN (len l) (ents l .zero (masks l [])) from h))
  have : e.i = j := by rw [h1]; exact Nat.zero_add j
  rw [this]
  exact ⟨h2, h3, h4⟩

/-! The evaluation of a region that draws, step by step. -/
structure Stp where
  on : Bool
  v : AV
  h : Tr AB
  c : Nat
  tl : List Nat
def StepAt (E : Env) (rec : Rec) (ops : List Oper) (e : Ent) (s s' : St) (x : Stp) : Prop :=
  (x.on = true ∧ wanted ops s e.o.guard = some true ∧ disp e.o.op E rec s = .ok x.v x.h x.c x.tl ∧ s' = putS s e.o.dst x.v x.h x.c x.tl) ∨
    (x.on = false ∧ wanted ops s e.o.guard = some false ∧ s' = skipS s e.o.dst)
def rcdOf (e : Ent) (s : St) (x : Stp) : Rcd := ⟨e.i, Nat.beq e.k (nat_lit 2), refsO s.t e.o.op.operands.toList, x.tl, s.c, x.c⟩
theorem compats_ok {m : Nat} {b : Rcd} : ∀ {l : List Rcd}, compats m b l = true → ∀ a ∈ l, bit m a.i = true ∨ compat a b = true
  | [], _, _, h => by simp at h
  | x :: l, h, a, ha => by
    have h' : bE (bit m x.i) (compats m b l) (bE (compat x b) (compats m b l) false) = true := h
    cases hb : bit m x.i with
    | true =>
      rw [hb, bE_true] at h'
      rcases List.mem_cons.1 ha with rfl | ha
      · exact .inl hb
      · exact compats_ok h' a ha
    | false =>
      rw [hb, bE_false] at h'
      cases hc : compat x b with
      | false => rw [hc] at h'; cases h'
      | true =>
        rw [hc, bE_true] at h'
        rcases List.mem_cons.1 ha with rfl | ha
        · exact .inr hc
        · exact compats_ok h' a ha
theorem recd_ok {e : Ent} {s : St} {x : Stp} {l l' : List Rcd} (h : recd e s x.c x.tl l = some l') :
    (e.k = 0 ∧ l' = l) ∨ (l' = rcdOf e s x :: l ∧ ∀ a ∈ l, bit e.m a.i = true ∨ compat a (rcdOf e s x) = true) := by
  have h' : bE (Nat.beq e.k .zero) (some l) (bE (compats e.m (rcdOf e s x) l) (some (rcdOf e s x :: l)) none) = some l' := h
  cases hk : Nat.beq e.k .zero with
  | true => rw [hk, bE_true] at h'; cases h'; exact .inl ⟨beq_true hk, rfl⟩
  | false =>
    rw [hk, bE_false] at h'
    obtain ⟨h1, h2⟩ := bE_none_eq h'
    cases h2
    exact .inr ⟨rfl, compats_ok h1⟩
theorem runD_trace {E : Env} {rec : Rec} {ops : List Oper} : ∀ {p : List Ent} {s s' : St} {l : List Rcd}, runD E rec ops p s l = some s' →
    ∃ (S : Nat → St) (T : Nat → Stp), S 0 = s ∧ S p.length = s' ∧ (∀ k e, p[k]? = some e → StepAt E rec ops e (S k) (S (k + 1)) (T k)) ∧
      (∀ k e, p[k]? = some e → (T k).on = true → e.k ≠ 0 → ∀ a ∈ l, bit e.m a.i = true ∨ compat a (rcdOf e (S k) (T k)) = true) ∧
      (∀ j k x y, j < k → p[j]? = some x → p[k]? = some y → (T j).on = true → (T k).on = true → x.k ≠ 0 → y.k ≠ 0 → bit y.m x.i = true ∨ compat (rcdOf x (S j) (T j)) (rcdOf y (S k) (T k)) = true)
  | [], s, s', l, h => by cases h; exact ⟨fun _ => s, fun _ => ⟨false, .any, .lf, 0, []⟩, rfl, rfl, by simp, by simp, by simp⟩
  | e :: p, s, s', l, h => by
    have build : ∀ (x : Stp) (s1 : St) (l1 : List Rcd), StepAt E rec ops e s s1 x → (x.on = true → recd e s x.c x.tl l = some l1) → (x.on = false → l1 = l) → runD E rec ops p s1 l1 = some s' →
        ∃ (S : Nat → St) (T : Nat → Stp), S 0 = s ∧ S (e :: p).length = s' ∧ (∀ k e', (e :: p)[k]? = some e' → StepAt E rec ops e' (S k) (S (k + 1)) (T k)) ∧
          (∀ k e', (e :: p)[k]? = some e' → (T k).on = true → e'.k ≠ 0 → ∀ a ∈ l, bit e'.m a.i = true ∨ compat a (rcdOf e' (S k) (T k)) = true) ∧
          (∀ j k y z, j < k → (e :: p)[j]? = some y → (e :: p)[k]? = some z → (T j).on = true → (T k).on = true → y.k ≠ 0 → z.k ≠ 0 → bit z.m y.i = true ∨ compat (rcdOf y (S j) (T j)) (rcdOf z (S k) (T k)) = true) := by
      intro x s1 l1 h1 h2 h3 h4
      obtain ⟨S, T, a1, a2, a3, a4, a5⟩ := runD_trace h4
      have sub : ∀ a ∈ l, a ∈ l1 := by
        intro a ha
        cases ho : x.on with
        | false => rw [h3 ho]; exact ha
        | true =>
          rcases recd_ok (x := x) (h2 ho) with ⟨_, rfl⟩ | ⟨rfl, _⟩
          · exact ha
          · exact List.mem_cons_of_mem _ ha
      refine ⟨fun k => match k with | 0 => s | k + 1 => S k, fun k => match k with | 0 => x | k + 1 => T k, rfl, a2, ?_, ?_, ?_⟩
      · intro k e' he
        cases k with
        | zero => simp at he; subst he; simpa [a1] using h1
        | succ k => exact a3 k e' (by simpa using he)
      · intro k e' he hon hk a ha
        cases k with
        | zero =>
          simp at he; subst he
          rcases recd_ok (x := x) (h2 hon) with ⟨h5, _⟩ | ⟨_, h5⟩
          · exact absurd h5 hk
          · exact h5 a ha
        | succ k => exact a4 k e' (by simpa using he) hon hk a (sub a ha)
      · intro j k y z hjk hy hz hoj hok hky hkz
        cases k with
        | zero => omega
        | succ k =>
          cases j with
          | zero =>
            simp at hy; subst hy
            rcases recd_ok (x := x) (h2 hoj) with ⟨h5, _⟩ | ⟨rfl, _⟩
            · exact absurd h5 hky
            · exact a4 k z (by simpa using hz) hok hkz _ (List.mem_cons_self ..)
          | succ j => exact a5 j k y z (by omega) (by simpa using hy) (by simpa using hz) hoj hok hky hkz
    rcases runD_cons h with ⟨hw, v, hh, c, tl, l', hd, hr, hrun⟩ | ⟨hw, hrun⟩
    · exact build ⟨true, v, hh, c, tl⟩ _ l' (.inl ⟨rfl, hw, hd, rfl⟩) (fun _ => hr) (fun h => by cases h) hrun
    · exact build ⟨false, .any, .lf, 0, []⟩ _ l (.inr ⟨rfl, hw, rfl⟩) (fun h => by cases h) (fun _ => rfl) hrun
end
end Go.Ab
