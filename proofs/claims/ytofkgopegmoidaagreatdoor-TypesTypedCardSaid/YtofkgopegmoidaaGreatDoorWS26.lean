/- A part of an evaluator of the program's operations over values that are known whole or in part, and of the proof that what it answers holds of the program's run. No condition. -/
import Derived.Test.YtofkgopegmoidaaGreatDoorWS21
import Derived.Deep.LoopGhost
namespace Go.Ab
open Go.RowKit (Below)

/-! Operations of kind 0 touch no block. -/
def Pr (s : St) (r : Out) : Prop := ∀ v h c tl, r = .ok v h c tl → tl = [] ∧ c = s.c
theorem Pr.no (s : St) : Pr s .no := fun _ _ _ _ e => by cases e
theorem Pr.pure (s : St) (v : AV) : Pr s (Go.Ab.pure s v) := fun _ _ _ _ e => by rw [pure_eq] at e; cases e; exact ⟨rfl, rfl⟩
theorem Pr.pureO (s : St) (v : Option AV) : Pr s (Go.Ab.pureO s v) := by
  cases v with
  | none => exact Pr.no s
  | some v => exact Pr.pure s v
theorem Pr.oE {α : Type} {s : St} {x : Option α} {f : α → Out} (h : ∀ a, Pr s (f a)) : Pr s (Go.Ab.oE x .no f) := by
  cases x with
  | none => exact Pr.no s
  | some a => exact h a
theorem Pr.disp {E : Env} {rec : Rec} {s : St} (op : Op) (hk : kindOp op = 0) : Pr s (Go.Ab.disp op E rec s) := by
  cases op with
  | move x => exact Pr.pureO _ _
  | assign x => exact Pr.pureO _ _
  | pick q x y => exact Pr.pureO _ _
  | build t ps => exact Pr.oE fun l => Pr.oE fun ti => Pr.pureO _ _
  | nilCheck x => exact Pr.pureO _ _
  | binOp op t x y hint => exact Pr.oE fun a => Pr.oE fun b => Pr.pureO _ _
  | unOp op t x => exact Pr.oE fun a => Pr.pureO _ _
  | makeFunc f first cap =>
    cases f with
    | func f => exact Pr.oE fun a => Pr.oE fun b => Pr.pure _ _
    | _ => exact Pr.no s
  | slice t x lo hi mx => exact Pr.oE fun v => Pr.pureO _ _
  | fieldAddr t x f => exact Pr.oE fun v => Pr.oE fun p => Pr.pureO _ _
  | field t x f => exact Pr.oE fun v => Pr.oE fun p => Pr.pureO _ _
  | indexAddr t x i => exact Pr.oE fun a => Pr.oE fun b => Pr.pureO _ _
  | index t x i => exact Pr.oE fun a => Pr.oE fun b => Pr.oE fun n => Pr.pureO _ _
  | extract x i => exact Pr.pureO _ _
  | call cl =>
    obtain ⟨callee, args, argTypes⟩ := cl
    cases callee <;> cases hk
  | _ => cases hk

theorem disj_ok : ∀ {a b : List Nat}, disj a b = true → ∀ x ∈ a, x ∉ b
  | [], _, _, _, h => by simp at h
  | y :: a, b, h, x, hx => by
    have h' : bE (mem y b) false (disj a b) = true := h
    cases hm : mem y b with
    | true => rw [hm] at h'; cases h'
    | false =>
      rw [hm, bE_false] at h'
      rcases List.mem_cons.1 hx with rfl | hx
      · intro hb
        rw [(mem_eq _ _).2 hb] at hm; cases hm
      · exact disj_ok h' x hx
theorem outside_ok {c0 c1 : Nat} : ∀ {l : List Nat}, outside c0 c1 l = true → ∀ x ∈ l, ¬ (c0 ≤ x ∧ x < c1)
  | [], _, _, h => by simp at h
  | y :: l, h, x, hx => by
    have h' : bE (Nat.ble c0 y && Nat.ble (.succ y) c1) false (outside c0 c1 l) = true := h
    cases hm : (Nat.ble c0 y && Nat.ble (.succ y) c1) with
    | true => rw [hm] at h'; cases h'
    | false =>
      rw [hm, bE_false] at h'
      rcases List.mem_cons.1 hx with rfl | hx
      · rintro ⟨h1, h2⟩
        have h3 : Nat.ble c0 x = true := Nat.ble_eq_true_of_le h1
        have h4 : Nat.ble (.succ x) c1 = true := Nat.ble_eq_true_of_le h2
        rw [h3, h4] at hm; cases hm
      · exact outside_ok h' x hx
theorem above_ok {c0 : Nat} : ∀ {l : List Nat}, above c0 l = true → ∀ x ∈ l, c0 ≤ x
  | [], _, _, h => by simp at h
  | y :: l, h, x, hx => by
    have h' : bE (Nat.ble c0 y) (above c0 l) false = true := h
    obtain ⟨h1, h2⟩ : Nat.ble c0 y = true ∧ above c0 l = true := by
      cases hm : Nat.ble c0 y with
      | true => rw [hm, bE_true] at h'; exact ⟨rfl, h'⟩
      | false => rw [hm] at h'; cases h'
    rcases List.mem_cons.1 hx with rfl | hx
    · exact ble_true h1
    · exact above_ok h2 x hx
theorem compat_ok {a b : Rcd} (h : compat a b = true) : (∀ n ∈ a.w, n ∉ b.w) ∧ (∀ n ∈ b.w, ¬ (a.c0 ≤ n ∧ n < a.c1)) ∧ (b.call = false ∧ (∀ n ∈ a.w, n ∉ b.r) ∧ ∀ n ∈ b.r, ¬ (a.c0 ≤ n ∧ n < a.c1)) ∧
    ((a.call = true → ∀ n ∈ b.w, a.c0 ≤ n) ∧ (a.call = false → ∀ n ∈ b.w, n ∉ a.r)) := by
  unfold compat at h
  rw [Bool.and_eq_true, Bool.and_eq_true, Bool.and_eq_true] at h
  obtain ⟨⟨⟨h1, h2⟩, h3⟩, h4⟩ := h
  refine ⟨disj_ok h1, outside_ok h2, ?_, ?_, ?_⟩
  · cases hc : b.call with
    | true => rw [hc] at h3; cases h3
    | false =>
      rw [hc, bE_false, Bool.and_eq_true] at h3
      exact ⟨rfl, disj_ok h3.1, outside_ok h3.2⟩
  · intro hc
    rw [hc, bE_true] at h4
    exact above_ok h4
  · intro hc
    rw [hc, bE_false] at h4
    exact disj_ok h4
theorem binds_eq (e : Edge) : binds e.ground = Region.binds .any e := by
  unfold binds Region.binds
  cases e.ground <;> rfl

/-! What is known of a region that draws, and of its evaluation. -/
structure Draw (P : Program) (E : Env) (rec : Rec) (ops : Array Oper) (p : List Ent) (S : Nat → St) (T : Nat → Stp) : Prop where
  cover : ∀ i, i < ops.size → ∃ (k : Nat) (x : Ent), p[k]? = some x ∧ x.i = i
  nodup : ∀ (j k : Nat) (x y : Ent), p[j]? = some x → p[k]? = some y → x.i = y.i → j = k
  op : ∀ (k : Nat) (x : Ent), p[k]? = some x → ops[x.i]? = some x.o ∧ x.i < ops.size ∧ x.k = kindOp x.o.op
  edges : ∀ (k : Nat) (x : Ent), p[k]? = some x → ∀ g ∈ x.o.after, Region.binds .any g = true → g.on < x.i
  mask : ∀ (k : Nat) (x : Ent), p[k]? = some x → ∀ i, i < ops.size → bit x.m i = true → ∃ g ∈ x.o.after, Region.binds .any g = true ∧ (g.on = i ∨ ∀ (j : Nat) (y : Ent), p[j]? = some y → y.i = g.on → bit y.m i = true)
  apart : ∀ (j k : Nat) (x y : Ent), j < k → p[j]? = some x → p[k]? = some y → bit y.m x.i = true ∨ x.o.apart ops y.o = true
  step : ∀ (k : Nat) (e : Ent), p[k]? = some e → StepAt E rec ops.toList e (S k) (S (k + 1)) (T k)
  compat : ∀ (j k : Nat) (x y : Ent), j < k → p[j]? = some x → p[k]? = some y → (T j).on = true → (T k).on = true → x.k ≠ 0 → y.k ≠ 0 → bit y.m x.i = true ∨ compat (rcdOf x (S j) (T j)) (rcdOf y (S k) (T k)) = true
  wf : Wf (S 0).h (S 0).c
theorem draw_of {P : Program} {E : Env} {rec : Rec} {ops : Array Oper} (hok : drawOK ops = true) {s s' : St} (wf : Wf s.h s.c) (e : runD E rec ops.toList (plan ops.toList) s [] = some s') :
    ∃ S T, S 0 = s ∧ S (plan ops.toList).length = s' ∧ Draw P E rec ops (plan ops.toList) S T := by
  obtain ⟨S, T, h1, h2, h3, _, h5⟩ := runD_trace e
  unfold drawOK at hok
  rw [Bool.and_eq_true, Bool.and_eq_true, Bool.and_eq_true, Bool.and_eq_true] at hok
  obtain ⟨k1, k2, k3, k4, k5⟩ := hok
  have hmem : ∀ {k : Nat} {x : Ent}, (plan ops.toList)[k]? = some x → x ∈ plan ops.toList := fun h => List.mem_of_getElem? h
  refine ⟨S, T, h1, h2, ⟨fun i hi => ?_, fun j k x y hx hy hxy => ?_, fun k x hx => ?_, fun k x hx g hg hb => ?_, fun k x hx i hi hb => ?_, fun j k x y hjk hx hy => pairsOK_get k5 j k hjk hx hy, h3, h5, h1 ▸ wf⟩⟩
  · have := List.all_eq_true.1 k1 i (by simpa using hi)
    obtain ⟨x, hx, hxi⟩ := List.any_eq_true.1 this
    obtain ⟨k, hk, hkx⟩ := List.mem_iff_getElem.1 hx
    exact ⟨k, x, by rw [List.getElem?_eq_getElem hk, hkx], beq_true hxi⟩
  · have hj : j < ((plan ops.toList).map (·.i)).length := by
      rw [List.length_map]; exact (List.getElem?_eq_some_iff.1 hx).1
    exact (List.getElem?_inj hj (nodupB_ok k2)).1 (by rw [List.getElem?_map, List.getElem?_map, hx, hy]; simp [hxy])
  · obtain ⟨a, _, c⟩ := plan_mem (hmem hx)
    rw [Array.getElem?_toList] at a
    exact ⟨a, (Array.getElem?_eq_some_iff.1 a).1, c⟩
  · have := List.all_eq_true.1 (List.all_eq_true.1 k3 x (hmem hx)) g (by simpa using hg)
    rw [binds_eq, hb] at this
    exact ble_true (by simpa using this)
  · have := List.all_eq_true.1 (List.all_eq_true.1 k4 x (hmem hx)) i (by simpa using hi)
    rw [hb] at this
    obtain ⟨g, hg, hgb⟩ := List.any_eq_true.1 (by simpa using this : (x.o.after.toList.any fun g => binds g.ground && (Nat.beq g.on i || bit ((masks ops.toList []).getD g.on 0) i)) = true)
    rw [Bool.and_eq_true, Bool.or_eq_true] at hgb
    refine ⟨g, by simpa using hg, by rw [← binds_eq]; exact hgb.1, ?_⟩
    rcases hgb.2 with h6 | h6
    · exact .inl (beq_true h6)
    · refine .inr fun j y hy hyi => ?_
      obtain ⟨_, b, _⟩ := plan_mem (hmem hy)
      rw [hyi] at b
      rw [List.getD_eq_getElem?_getD, b] at h6
      exact h6
end Go.Ab
namespace Go.Ab
open Go.RowKit (Below)
section
variable {P : Program} {E : Env} {rec : Rec} {ops : Array Oper} {p : List Ent} {S : Nat → St} {T : Nat → Stp}

def tch (S : Nat → St) (T : Nat → Stp) (k nn : Nat) : Prop := (T k).on = true ∧ (nn ∈ (T k).tl ∨ ((S k).c ≤ nn ∧ nn < (S (k + 1)).c))
theorem Draw.mono1 (D : Draw P E rec ops p S T) (hm : RecM rec) {k : Nat} {x : Ent} (hx : p[k]? = some x) : Mono (S k) (S (k + 1)) := by
  rcases D.step k x hx with ⟨_, _, h1, h2⟩ | ⟨_, _, h2⟩
  · rw [h2]; exact Mono.put (Gr.all hm (S k) x.o.op) h1
  · rw [h2]; exact Mono.skip _ _
theorem Draw.mono (D : Draw P E rec ops p S T) (hm : RecM rec) {j k : Nat} (hjk : j ≤ k) (hk : k ≤ p.length) : Mono (S j) (S k) := by
  induction k with
  | zero => obtain rfl : j = 0 := (by omega); exact Mono.refl _
  | succ k ih =>
    by_cases h : j = k + 1
    · subst h; exact Mono.refl _
    · exact (ih (by omega) (by omega)).trans (D.mono1 hm (List.getElem?_eq_getElem (show k < p.length by omega)))
theorem Draw.wfk (D : Draw P E rec ops p S T) (hm : RecM rec) {k : Nat} (hk : k ≤ p.length) : Wf (S k).h (S k).c := (D.mono hm (Nat.zero_le k) hk).wf D.wf
theorem Draw.ck (D : Draw P E rec ops p S T) {k : Nat} {x : Ent} (hx : p[k]? = some x) (hon : (T k).on = true) : (S (k + 1)).c = (T k).c ∧ (S (k + 1)).h = (T k).h ∧ disp x.o.op E rec (S k) = .ok (T k).v (T k).h (T k).c (T k).tl ∧ (S (k + 1)).t = setD (S k).t x.o.dst (T k).v := by
  rcases D.step k x hx with ⟨_, _, h1, h2⟩ | ⟨h, _, _⟩
  · rw [h2, putS_eq]; exact ⟨rfl, rfl, h1, rfl⟩
  · rw [hon] at h; cases h
theorem Draw.off (D : Draw P E rec ops p S T) {k : Nat} {x : Ent} (hx : p[k]? = some x) (hon : (T k).on = false) : S (k + 1) = skipS (S k) x.o.dst := by
  rcases D.step k x hx with ⟨h, _, h1, h2⟩ | ⟨_, _, h⟩
  · rw [hon] at h; cases h
  · exact h
/-- what a step does not touch, it leaves -/
theorem Draw.keep1 (D : Draw P E rec ops p S T) (hm : RecM rec) {k : Nat} {x : Ent} (hx : p[k]? = some x) {nn : Nat} (h : ¬ tch S T k nn) : (S (k + 1)).h.get nn = (S k).h.get nn := by
  have hk : k < p.length := (List.getElem?_eq_some_iff.1 hx).1
  cases hon : (T k).on with
  | false => rw [D.off hx hon, skipS_eq]
  | true =>
    obtain ⟨h1, h2, h3, _⟩ := D.ck hx hon
    obtain ⟨g1, g2, g3, g4⟩ := Gr.all hm (S k) x.o.op _ _ _ _ h3
    have hnt : nn ∉ (T k).tl := fun h' => h ⟨hon, .inl h'⟩
    by_cases hc : nn < (S k).c
    · rw [h2]; exact g2 nn hnt hc
    · have hc' : (S (k + 1)).c ≤ nn := by
        rcases Nat.lt_or_ge nn (S (k + 1)).c with h4 | h4
        · exact absurd ⟨hon, .inr ⟨by omega, h4⟩⟩ h
        · exact h4
      rw [D.wfk hm (show k + 1 ≤ p.length by omega) nn hc', D.wfk hm (Nat.le_of_lt hk) nn (by omega)]
theorem Draw.keep (D : Draw P E rec ops p S T) (hm : RecM rec) {a b nn : Nat} (hab : a ≤ b) (hb : b ≤ p.length) (h : ∀ j, a ≤ j → j < b → ¬ tch S T j nn) : (S b).h.get nn = (S a).h.get nn := by
  induction b with
  | zero => obtain rfl : a = 0 := (by omega); rfl
  | succ b ih =>
    by_cases h' : a = b + 1
    · subst h'; rfl
    · rw [D.keep1 hm (List.getElem?_eq_getElem (show b < p.length by omega)) (h b (by omega) (by omega))]
      exact ih (by omega) (by omega) fun j h1 h2 => h j h1 (by omega)
theorem setD_other {t : Tr AV} {dst : Option Tmp} {v : AV} {i : Nat} (h : dst ≠ some i) : (setD t dst v).get i = t.get i := by
  cases dst with
  | none => rfl
  | some d => rw [show setD t (some d) v = t.set d v from rfl, Tr.get_set, if_neg (fun h' => h (by rw [h']))]
theorem setD_same {t : Tr AV} {v : AV} {i : Nat} : (setD t (some i) v).get i = some v := by
  rw [show setD t (some i) v = t.set i v from rfl, Tr.get_set, if_pos rfl]
theorem Draw.tkeep (D : Draw P E rec ops p S T) {a b t : Nat} (hab : a ≤ b) (hb : b ≤ p.length) (h : ∀ j x, a ≤ j → j < b → p[j]? = some x → x.o.dst ≠ some t) : (S b).t.get t = (S a).t.get t := by
  induction b with
  | zero => obtain rfl : a = 0 := (by omega); rfl
  | succ b ih =>
    by_cases h' : a = b + 1
    · subst h'; rfl
    · have hx : p[b]? = some p[b] := List.getElem?_eq_getElem (show b < p.length by omega)
      have hne := h b _ (by omega) (by omega) hx
      have : (S (b + 1)).t.get t = (S b).t.get t := by
        cases hon : (T b).on with
        | false => rw [D.off hx hon, skipS_eq]; exact setD_other hne
        | true => rw [(D.ck hx hon).2.2.2]; exact setD_other hne
      rw [this]
      exact ih (by omega) (by omega) fun j x h1 h2 => h j x h1 (by omega)
/-- what an operation looks at -/
def reads (S : Nat → St) (k : Nat) (x : Ent) (nn : Nat) : Prop := ((x.k = 1 ∧ nn ∈ refsO (S k).t x.o.op.operands.toList) ∨ x.k = 2) ∧ ∃ o, (S k).h.get nn = some o
theorem Draw.clash (D : Draw P E rec ops p S T) (hm : RecM rec) {j k : Nat} {x y : Ent} (hjk : j < k) (hx : p[j]? = some x) (hy : p[k]? = some y) (hb : bit y.m x.i = false) (hok : (T k).on = true) :
    (∀ nn, tch S T j nn → tch S T k nn → False) ∧ (∀ nn, reads S k y nn → tch S T j nn → False) ∧ ((T j).on = true → ∀ nn, reads S j x nn → tch S T k nn → False) := by
  have hk : k < p.length := (List.getElem?_eq_some_iff.1 hy).1
  have hj : j < p.length := (List.getElem?_eq_some_iff.1 hx).1
  have m1 := (D.mono hm (show j + 1 ≤ k by omega) (by omega)).cc
  have m0 := (D.mono1 hm hx).cc
  -- an operation of kind 0 touches nothing
  have zero : ∀ {i : Nat} {z : Ent}, p[i]? = some z → ∀ nn, tch S T i nn → z.k ≠ 0 := by
    intro i z hz nn ⟨hon, ht⟩ h0
    obtain ⟨h1, h2, h3, _⟩ := D.ck hz hon
    rw [(D.op i z hz).2.2] at h0
    obtain ⟨h4, h5⟩ := Pr.disp z.o.op h0 _ _ _ _ h3
    rw [h4] at ht
    rcases ht with ht | ht
    · simp at ht
    · omega
  -- old blocks alone are turned
  have old : ∀ {i : Nat} {z : Ent}, p[i]? = some z → (T i).on = true → ∀ nn ∈ (T i).tl, nn < (S i).c := by
    intro i z hz hon nn hn
    have hi : i < p.length := (List.getElem?_eq_some_iff.1 hz).1
    obtain ⟨h1, h2, h3, _⟩ := D.ck hz hon
    obtain ⟨_, _, _, g4⟩ := Gr.all hm (S i) z.o.op _ _ _ _ h3
    obtain ⟨o, ho⟩ := g4 nn hn
    rcases Nat.lt_or_ge nn (S i).c with h | h
    · exact h
    · rw [D.wfk hm (Nat.le_of_lt hi) nn h] at ho; cases ho
  have live : ∀ {i : Nat} {z : Ent}, p[i]? = some z → ∀ nn, reads S i z nn → nn < (S i).c := by
    intro i z hz nn ⟨_, o, ho⟩
    have hi : i < p.length := (List.getElem?_eq_some_iff.1 hz).1
    rcases Nat.lt_or_ge nn (S i).c with h | h
    · exact h
    · rw [D.wfk hm (Nat.le_of_lt hi) nn h] at ho; cases ho
  have comp : (T j).on = true → x.k ≠ 0 → y.k ≠ 0 → Go.Ab.compat (rcdOf x (S j) (T j)) (rcdOf y (S k) (T k)) = true := fun hoj h1 h2 => by
    rcases D.compat j k x y hjk hx hy hoj hok h1 h2 with h | h
    · rw [hb] at h; cases h
    · exact h
  refine ⟨fun nn hj' hk' => ?_, fun nn hr hj' => ?_, fun hoj nn hr hk' => ?_⟩
  · obtain ⟨c1, c2, _, _⟩ := compat_ok (comp hj'.1 (zero hx nn hj') (zero hy nn hk'))
    have hcj := (D.ck hx hj'.1).1
    rcases hj'.2 with h1 | h1
    · rcases hk'.2 with h2 | h2
      · exact c1 nn h1 h2
      · have := old hx hj'.1 nn h1
        omega
    · rcases hk'.2 with h2 | h2
      · exact c2 nn h2 ⟨h1.1, by have := h1.2; rw [hcj] at this; exact this⟩
      · omega
  · have hcj := (D.ck hx hj'.1).1
    have hk0 : y.k ≠ 0 := by rcases hr.1 with ⟨h, _⟩ | h <;> omega
    obtain ⟨_, _, ⟨c3, c4, c5⟩, _⟩ := compat_ok (comp hj'.1 (zero hx nn hj') hk0)
    rcases hr.1 with ⟨h, hr1⟩ | h
    · rcases hj'.2 with h1 | h1
      · exact c4 nn h1 hr1
      · exact c5 nn hr1 ⟨h1.1, by have := h1.2; rw [hcj] at this; exact this⟩
    · have : Nat.beq y.k 2 = false := c3
      rw [h] at this; cases this
  · have hj0 : x.k ≠ 0 := by rcases hr.1 with ⟨h, _⟩ | h <;> omega
    obtain ⟨_, _, _, c6, c7⟩ := compat_ok (comp hoj hj0 (zero hy nn hk'))
    have hlive := live hx nn hr
    rcases hk'.2 with h1 | h1
    · rcases hr.1 with ⟨h, hr1⟩ | h
      · exact c7 (by show Nat.beq x.k 2 = false; rw [h]; rfl) nn h1 hr1
      · have := c6 (by show Nat.beq x.k 2 = true; rw [h]; rfl) nn h1
        have : (S j).c ≤ nn := this
        omega
    · omega
end
end Go.Ab
namespace Go.Ab
open Go.RowKit (Below)
section
variable {P : Program} {E : Env} {I : Inv} {rec : Rec} {ops : Array Oper} {p : List Ent} {S : Nat → St} {T : Nat → Stp}

/-- The invariant of a region that draws: R holds the operations that have still to come. -/
structure DInv (Iv : Inv) (B N : Nat) (ops : Array Oper) (p : List Ent) (S : Nat → St) (T : Nat → Stp) (ρ0 : Rho) (G0 : Hp) (w0 : World) (R : List Nat) (listed : Array Bool) (ρ : Rho) (G : Hp) (a : Act) (w : World) : Prop where
  nd : R.Nodup
  lt : ∀ i ∈ R, i < ops.size
  ls : listed.size = ops.size
  li : ∀ i, i < ops.size → (listed.getD i true = false ↔ i ∈ R)
  cl : ∀ (k : Nat) (x : Ent), p[k]? = some x → x.i ∉ R → ∀ i, i < ops.size → bit x.m i = true → i ∉ R
  tm : ∀ k, k ≤ p.length → ∀ t, (∀ (j : Nat) (x : Ent), p[j]? = some x → x.o.dst = some t → (x.i ∉ R ↔ j < k)) → ∀ v, (S k).t.get t = some v → ∃ u, a.tmps[t]? = some u ∧ RV ρ v u
  hp : ∀ k, k ≤ p.length → ∀ nn, (∀ (j : Nat) (x : Ent), p[j]? = some x → tch S T j nn → (x.i ∉ R ↔ j < k)) → ∀ o, (S k).h.get nn = some o → G nn = some o
  rh : RH B ρ G w
  sz : B ≤ w.heap.size
  df : a.defers = []
  ts : N ≤ a.tmps.size
  fr : ∀ (k : Nat) (x : Ent), p[k]? = some x → x.i ∈ R → ∀ nn, (S k).c ≤ nn → nn < (S (k + 1)).c → ρ nn = none
  le : ρ0.le ρ
  out : ∀ nn, (nn < (S 0).c ∨ (S p.length).c ≤ nn) → ρ nn = ρ0 nn
  off : ∀ nn, (∀ (j : Nat) (x : Ent), p[j]? = some x → tch S T j nn → x.i ∈ R) → G nn = G0 nn
  bel : Below B w0 w
  inv : Iv B ρ G w

theorem runD_ok (hE : Ctx P E I) (hb : BodyOK E) (hm : RecM rec) (hr : RecS P I rec) (D : Draw P E rec ops p S T) {B N : Nat} (hdst : ops.toList.all (dstOK N) = true) {ρ0 : Rho} {G0 : Hp} {w0 : World} {Q : Exit → Act → World → Prop}
    (hQ : ∀ ρ G a w, DInv I B N ops p S T ρ0 G0 w0 [] (Array.replicate ops.size true) ρ G a w → Q .normal a w) :
    ∀ (fuel : Nat) (R : List Nat) (listed : Array Bool) (ρ : Rho) (G : Hp) (a : Act) (w : World), R.length ≤ fuel → DInv I B N ops p S T ρ0 G0 w0 R listed ρ G a w → wpAny P .any ops Q fuel listed a w := by
  -- what is ready
  have some_ready : ∀ {R : List Nat} {listed : Array Bool} {ρ : Rho} {G : Hp} {a : Act} {w : World}, DInv I B N ops p S T ρ0 G0 w0 R listed ρ G a w → Region.ready .any ops listed = [] → R = [] := by
    intro R listed ρ G a w J hre
    refine Classical.byContradiction fun hne => ?_
    have hex : ∃ i, i ∈ R := by
      cases R with
      | nil => exact absurd rfl hne
      | cons i r => exact ⟨i, by simp⟩
    have key : ∀ n i, i ≤ n → i ∈ R → False := by
      intro n
      induction n with
      | zero =>
        intro i hi hiR
        obtain rfl : i = 0 := (by omega)
        obtain ⟨k, x, hx, hxi⟩ := D.cover 0 (J.lt 0 hiR)
        have : 0 ∈ Region.ready .any ops listed := mem_ready.2 ⟨(J.li 0 (J.lt 0 hiR)).2 hiR, x.o, by rw [← hxi]; exact (D.op k x hx).1, fun g hg hgb => by
          have := D.edges k x hx g hg hgb
          omega⟩
        rw [hre] at this; simp at this
      | succ n ih =>
        intro i hi hiR
        obtain ⟨k, x, hx, hxi⟩ := D.cover i (J.lt i hiR)
        have : i ∈ Region.ready .any ops listed := mem_ready.2 ⟨(J.li i (J.lt i hiR)).2 hiR, x.o, by rw [← hxi]; exact (D.op k x hx).1, fun g hg hgb => by
          have hlt := D.edges k x hx g hg hgb
          have hgn : g.on < ops.size := by have := J.lt i hiR; omega
          have hnR : g.on ∉ R := fun h => ih g.on (by omega) h
          have h1 : listed.getD g.on true ≠ false := fun h => hnR ((J.li g.on hgn).1 h)
          have hsz : g.on < listed.size := by rw [J.ls]; exact hgn
          simp only [Array.getD_eq_getD_getElem?, Array.getElem?_eq_getElem hsz, Option.getD_some] at h1 ⊢
          simpa using h1⟩
        rw [hre] at this; simp at this
    obtain ⟨i, hi⟩ := hex
    exact key i i (Nat.le_refl _) hi
  have fin : ∀ {listed : Array Bool} {ρ : Rho} {G : Hp} {a : Act} {w : World}, DInv I B N ops p S T ρ0 G0 w0 [] listed ρ G a w → Q .normal a w := by
    intro listed ρ G a w J
    exact hQ ρ G a w ⟨J.nd, J.lt, by simp, fun i hi => by simp [hi], J.cl, J.tm, J.hp, J.rh, J.sz, J.df, J.ts, J.fr, J.le, J.out, J.off, J.bel, J.inv⟩
  intro fuel
  induction fuel with
  | zero =>
    intro R listed ρ G a w hf J
    obtain rfl : R = [] := List.eq_nil_of_length_eq_zero (by omega)
    refine ⟨?_, fin J⟩
    cases hre : Region.ready .any ops listed with
    | nil => rfl
    | cons i r =>
      have : i ∈ Region.ready .any ops listed := by rw [hre]; simp
      obtain ⟨h1, o, ho, _⟩ := mem_ready.1 this
      have hi : i < ops.size := (Array.getElem?_eq_some_iff.1 ho).1
      exact absurd ((J.li i hi).1 h1) (by simp)
  | succ fuel ih =>
    intro R listed ρ G a w hf J
    refine ⟨fun hre => ?_, fun i hi => ?_⟩
    · obtain rfl := some_ready J hre
      exact fin J
    · obtain ⟨h1, o, ho, hpre⟩ := mem_ready.1 hi
      have hin : i < ops.size := (Array.getElem?_eq_some_iff.1 ho).1
      have hiR : i ∈ R := (J.li i hin).1 h1
      obtain ⟨k, x, hx, hxi⟩ := D.cover i hin
      subst hxi
      obtain ⟨hxo, _, hxk⟩ := D.op k x hx
      rw [ho] at hxo; cases hxo
      have hk : k < p.length := (List.getElem?_eq_some_iff.1 hx).1
      -- what it waits for has come
      have hmask : ∀ j, j < ops.size → bit x.m j = true → j ∉ R := by
        intro j hj hbj
        obtain ⟨g, hg, hgb, hor⟩ := D.mask k x hx j hj hbj
        have hgl := D.edges k x hx g hg hgb
        have hgn : g.on < ops.size := by omega
        have hgR : g.on ∉ R := by
          have h2 := hpre g hg hgb
          intro hR
          have h3 := (J.li g.on hgn).2 hR
          have hsz : g.on < listed.size := by rw [J.ls]; exact hgn
          simp only [Array.getD_eq_getD_getElem?, Array.getElem?_eq_getElem hsz, Option.getD_some] at h2 h3
          rw [h2] at h3; cases h3
        rcases hor with h2 | h2
        · rw [← h2]; exact hgR
        · obtain ⟨k', y, hy, hyi⟩ := D.cover g.on hgn
          exact J.cl k' y hy (by rw [hyi]; exact hgR) j hj (h2 k' y hy hyi)
      -- an operation before it in the evaluation that has not come, and one behind it that has come, are free of it
      have before : ∀ (j : Nat) (y : Ent), p[j]? = some y → j < k → y.i ∈ R → bit x.m y.i = false := by
        intro j y hy _ hyR
        cases hbb : bit x.m y.i with
        | false => rfl
        | true => exact absurd hyR (hmask y.i (D.op j y hy).2.1 hbb)
      have behind : ∀ (j : Nat) (y : Ent), p[j]? = some y → y.i ∉ R → bit y.m x.i = false := by
        intro j y hy hyR
        cases hbb : bit y.m x.i with
        | false => rfl
        | true => exact absurd hiR (J.cl j y hy hyR x.i hin hbb)
      have tread : ∀ t, t ∈ x.o.looksAt ops → ∀ (j : Nat) (y : Ent), p[j]? = some y → y.o.dst = some t → (y.i ∉ R ↔ j < k) := by
        intro t ht j y hy hyt
        constructor
        · intro hyR
          rcases Nat.lt_trichotomy j k with h2 | h2 | h2
          · exact h2
          · subst h2
            rw [hx] at hy; cases hy
            exact absurd hiR hyR
          · rcases D.apart k j x y h2 hx hy with h3 | h3
            · rw [behind j y hy hyR] at h3; cases h3
            · exact absurd ht ((Oper.apart_spec h3).2.2 t hyt)
        · intro h2 hyR
          rcases D.apart j k y x h2 hy hx with h3 | h3
          · rw [before j y hy h2 hyR] at h3; cases h3
          · exact absurd ht ((Oper.apart_spec h3).1 t hyt)
      have htm : ∀ d v, d ∈ x.o.looksAt ops → (S k).t.get d = some v → ∃ u, a.tmps[d]? = some u ∧ RV ρ v u := fun d v hd => J.tm k (Nat.le_of_lt hk) d (tread d hd) v
      have hTO : TO ρ (S k).t a x.o.op.operands.toList := by
        intro q hq v hv
        cases q with
        | tmp t =>
          obtain ⟨u, hu, hru⟩ := htm t v (List.mem_append_left _ (List.mem_filterMap.2 ⟨.tmp t, hq, rfl⟩)) hv
          simpa [Act.eval, hu] using hru
        | const c => exact rv_cv ρ c v hv
        | global g => cases hv
        | func f => cases (show some (AV.fn f [] []) = some v from hv); exact .fn f [] [] #[] #[] .nil .nil
      have hR' : ∀ j, j ∈ R.erase x.i ↔ j ≠ x.i ∧ j ∈ R := fun j => J.nd.mem_erase_iff
      have hlen : (R.erase x.i).length ≤ fuel := by rw [List.length_erase_of_mem hiR]; omega
      have hdx : dstOK N x.o = true := List.all_eq_true.1 hdst x.o (by simpa using Array.mem_of_getElem? ho)
      have tother : ∀ (j : Nat) (y : Ent), p[j]? = some y → j ≠ k → (y.i ∈ R.erase x.i ↔ y.i ∈ R) := by
        intro j y hy hjk
        rw [hR']
        exact ⟨fun h => h.2, fun h => ⟨fun he => hjk (D.nodup j k y x hy hx he), h⟩⟩
      have kgone : x.i ∉ R.erase x.i := fun h => ((hR' _).1 h).1 rfl
      -- the parts of the invariant that the step has in common
      have common : ∀ (v : AV) (u : Value) (ρ' : Rho) (G' : Hp) (w' : World), (S (k + 1)).t = setD (S k).t x.o.dst v → RV ρ' v u → ρ.le ρ' →
          (∀ nn, ¬ tch S T k nn → G' nn = G nn) → (∀ nn o, tch S T k nn → (S (k + 1)).h.get nn = some o → G' nn = some o) → RH B ρ' G' w' → Below B w w' → I B ρ' G' w' →
          (∀ nn, (nn < (S k).c ∨ (S (k + 1)).c ≤ nn) → ρ' nn = ρ nn) → (tchk : ∀ (nn j : Nat) (y : Ent), p[j]? = some y → k < j → y.i ∉ R → tch S T k nn → tch S T j nn → False) →
          DInv I B N ops p S T ρ0 G0 w0 (R.erase x.i) (listed.setIfInBounds x.i true) ρ' G' (a.put x.o.dst u) w' := by
        intro v u ρ' G' w' hSt hv hle hoff hon hrh hbel hinv hout htchk
        refine ⟨J.nd.erase _, fun j hj => J.lt j ((hR' j).1 hj).2, by simpa using J.ls, fun j hj => ?_, fun j y hy hyR q hq hqb hqR => ?_, fun k' hk' t hcond v' hv' => ?_, fun k' hk' nn hcond o' ho' => ?_, hrh,
          Nat.le_trans J.sz hbel.size, by rw [put_df]; exact J.df, by rw [put_size]; exact J.ts, fun j y hy hyR nn h2 h3 => ?_, Rho.le_trans J.le hle, fun nn hn => ?_, fun nn hn => ?_, J.bel.trans hbel, hinv⟩
        · by_cases hji : j = x.i
          · subst hji
            have hsz : x.i < listed.size := by rw [J.ls]; exact hin
            simp [hsz, kgone]
          · rw [getD_set_ne true (Ne.symm hji), J.li j hj, hR']
            exact ⟨fun h => ⟨hji, h⟩, fun h => h.2⟩
        · have hq2 := ((hR' q).1 hqR)
          by_cases hjk : j = k
          · subst hjk
            rw [hx] at hy; cases hy
            exact hmask q hq hqb hq2.2
          · exact J.cl j y hy (fun h => hyR ((tother j y hy hjk).2 h)) q hq hqb hq2.2
        · by_cases hdt : x.o.dst = some t
          · have hkk : k < k' := (hcond k x hx hdt).1 kgone
            have hbetween : ∀ (j : Nat) (y : Ent), k + 1 ≤ j → j < k' → p[j]? = some y → y.o.dst ≠ some t := by
              intro j y h2 h3 hy hyt
              have hyR : y.i ∉ R := fun h => (hcond j y hy hyt).2 h3 ((tother j y hy (by omega)).2 h)
              rcases D.apart k j x y (by omega) hx hy with h4 | h4
              · rw [behind j y hy hyR] at h4; cases h4
              · exact (Oper.apart_spec h4).2.1 t hdt hyt
            rw [D.tkeep (show k + 1 ≤ k' by omega) hk' hbetween, hSt, hdt, setD_same] at hv'
            cases hv'
            refine ⟨u, ?_, hv⟩
            have : t < a.tmps.size := Nat.lt_of_lt_of_le (dstOK_ok hdx t hdt) J.ts
            simp [Act.put, hdt, this]
          · have hcond' : ∀ (j : Nat) (y : Ent), p[j]? = some y → y.o.dst = some t → (y.i ∉ R ↔ j < k') := by
              intro j y hy hyt
              have hjk : j ≠ k := by rintro rfl; rw [hx] at hy; cases hy; exact hdt hyt
              rw [← hcond j y hy hyt, tother j y hy hjk]
            obtain ⟨u', h2, h3⟩ := J.tm k' hk' t hcond' v' hv'
            refine ⟨u', ?_, h3.mono hle⟩
            cases hd : x.o.dst with
            | none => exact h2
            | some d =>
              show (a.tmps.setIfInBounds d u)[t]? = some u'
              rw [Array.getElem?_setIfInBounds_ne (fun h => hdt (by rw [hd, h]))]
              exact h2
        · by_cases ht : tch S T k nn
          · have hkk : k < k' := (hcond k x hx ht).1 kgone
            have hbetween : ∀ j, k + 1 ≤ j → j < k' → ¬ tch S T j nn := by
              intro j h2 h3 hj
              have hy : p[j]? = some p[j] := List.getElem?_eq_getElem (show j < p.length by omega)
              have hyR : p[j].i ∉ R := fun h => (hcond j _ hy hj).2 h3 ((tother j _ hy (by omega)).2 h)
              exact htchk nn j _ hy (by omega) hyR ht hj
            rw [D.keep hm (show k + 1 ≤ k' by omega) hk' hbetween] at ho'
            exact hon nn o' ht ho'
          · rw [hoff nn ht]
            refine J.hp k' hk' nn (fun j y hy hj => ?_) o' ho'
            have hjk : j ≠ k := by rintro rfl; exact ht hj
            rw [← hcond j y hy hj, tother j y hy hjk]
        · have hjk : j ≠ k := by rintro rfl; rw [hx] at hy; cases hy; exact kgone hyR
          have hjR := (tother j y hy hjk).1 hyR
          have hj : j < p.length := (List.getElem?_eq_some_iff.1 hy).1
          rw [hout nn ?_]
          · exact J.fr j y hy hjR nn h2 h3
          · rcases Nat.lt_or_gt_of_ne hjk with h4 | h4
            · have := (D.mono hm (show j + 1 ≤ k by omega) (Nat.le_of_lt hk)).cc
              left; omega
            · have := (D.mono hm (show k + 1 ≤ j by omega) (Nat.le_of_lt hj)).cc
              right; omega
        · rw [hout nn, J.out nn hn]
          have m1 := (D.mono hm (Nat.zero_le k) (Nat.le_of_lt hk)).cc
          have m2 := (D.mono hm (show k + 1 ≤ p.length by omega) (Nat.le_refl _)).cc
          rcases hn with hn | hn
          · left; omega
          · right; omega
        · have hnt : ¬ tch S T k nn := fun h => kgone (hn k x hx h)
          rw [hoff nn hnt]
          refine J.off nn fun j y hy hj => ?_
          have hjk : j ≠ k := by rintro rfl; exact hnt hj
          exact (tother j y hy hjk).1 (hn j y hy hj)
      unfold wpOp
      simp only [ho]
      cases hon : (T k).on with
      | false =>
        have hw : wanted ops.toList (S k) x.o.guard = some false := by
          rcases D.step k x hx with ⟨h, _, _, _⟩ | ⟨_, h, _⟩
          · rw [hon] at h; cases h
          · exact h
        rw [if_neg (by rw [wanted_ok hw htm]; simp)]
        have hS := D.off hx hon
        refine ih _ _ ρ G _ w hlen (common (.tup []) undef ρ G w (by rw [hS, skipS_eq]) (.tup [] #[] .nil) (Rho.le_refl _) (fun _ _ => rfl) (fun nn o' ht _ => ?_) J.rh (Below.refl _ _) J.inv (fun _ _ => rfl) fun nn j y hy hj hyR ht => ?_)
        · have := ht.1; rw [hon] at this; cases this
        · have := ht.1; rw [hon] at this; cases this
      | true =>
        obtain ⟨hc, hh, hd, ht⟩ := D.ck hx hon
        have hw : wanted ops.toList (S k) x.o.guard = some true := by
          rcases D.step k x hx with ⟨_, h, _, _⟩ | ⟨h, _, _⟩
          · exact h
          · rw [hon] at h; cases h
        rw [if_pos (wanted_ok hw htm)]
        have hread : ∀ nn, reads S k x nn → ∀ b, (S k).h.get nn = some b → G nn = some b := by
          intro nn hrd b hgb
          refine J.hp k (Nat.le_of_lt hk) nn (fun j y hy hj => ?_) b hgb
          constructor
          · intro hyR
            rcases Nat.lt_trichotomy j k with h2 | h2 | h2
            · exact h2
            · subst h2
              rw [hx] at hy; cases hy
              exact absurd hiR hyR
            · exact ((D.clash hm h2 hx hy (behind j y hy hyR) hj.1).2.2 hon nn hrd hj).elim
          · intro h2 hyR
            exact (D.clash hm h2 hy hx (before j y hy h2 hyR) hon).2.1 nn hrd hj
        refine .inl (op_wp hE hb hm hr hd J.rh J.inv J.sz (D.wfk hm (Nat.le_of_lt hk)) hTO (fun nn h2 h3 => J.fr k x hx hiR nn h2 (by rw [hc]; exact h3))
          (fun hk1 nn hn b hgb => hread nn ⟨.inl ⟨by rw [hxk]; exact hk1, hn⟩, b, hgb⟩ b hgb) (fun hk2 nn b hgb => hread nn ⟨.inr (by rw [hxk]; exact hk2), b, hgb⟩ b hgb) fun u ρ' G' w' A inv => ?_)
        refine ih _ _ ρ' G' _ w' hlen (common (T k).v u ρ' G' w' ht A.rv A.le (fun nn hnt => ?_) (fun nn o' htc hg => ?_) A.rh A.bel inv (fun nn hn => A.out nn (by rw [← hc]; exact hn)) fun nn j y hy hj hyR htk htj => ?_)
        · have h2 : nn ∉ (T k).tl := fun h => hnt ⟨hon, .inl h⟩
          refine A.off nn h2 ?_
          rcases Nat.lt_or_ge nn (S k).c with h3 | h3
          · exact .inl h3
          · rcases Nat.lt_or_ge nn (S (k + 1)).c with h4 | h4
            · exact absurd ⟨hon, .inr ⟨h3, h4⟩⟩ hnt
            · rw [← hc]; exact .inr h4
        · refine A.on nn o' ?_ (by rw [← hh]; exact hg)
          rcases htc.2 with h2 | h2
          · exact .inl h2
          · rw [← hc]; exact .inr h2
        · exact (D.clash hm hj hx hy (behind j y hy hyR) htj.1).1 nn htk htj
end
end Go.Ab
namespace Go.Ab
open Go.RowKit (Below)
section
variable {P : Program} {E : Env} {I : Inv}

theorem Rel.drew (hI : InvOK I) {B N : Nat} {ρ : Rho} {G : Hp} {s : St} {a : Act} {w : World} (R : Rel I B N ρ G s a w) (d : Nat) : Rel I B N ρ G s a { w with drawn := d } :=
  ⟨R.tm, R.hp, R.rh.drew d, R.sz, R.wf, R.bc, R.df, R.ts, hI _ _ _ _ _ _ _ R.inv (StepD.drew ..)⟩
/-- A region that draws its order. -/
theorem draw_ok (hE : Ctx P E I) (hb : BodyOK E) {rec : Rec} (hm : RecM rec) (hr : RecS P I rec) {ops : Array Oper} {id B N : Nat} (hdst : ops.toList.all (dstOK N) = true) (hok : drawOK ops = true) {s s' : St} {a : Act} {w : World} {ρ : Rho} {G : Hp}
    (e : runD E rec ops.toList (plan ops.toList) s [] = some s') (R : Rel I B N ρ G s a w) (fr : ∀ n, s.c ≤ n → n < s'.c → ρ n = none) {Q : Exit → Act → World → Prop}
    (hQ : ∀ ρ' G' a' w', Rel I B N ρ' G' s' a' w' → Ev B s ρ G w s' ρ' G' w' → Q .normal a' w') : (Code.region id ops true).wp P Q a w := by
  obtain ⟨S, T, h0, hlast, D⟩ := draw_of (P := P) hok R.wf e
  refine wp_region_any hE.env.mix (runD_ok hE hb hm hr D (B := B) (N := N) hdst (ρ0 := ρ) (G0 := G) (w0 := w) ?_ ops.size (List.range ops.size) _ ρ G a _ (by simp) ?_)
  · intro ρ' G' a' w' J
    have mono := Mono.runD hm e
    have hall : ∀ nn, ∀ (j : Nat) (x : Ent), (plan ops.toList)[j]? = some x → tch S T j nn → (x.i ∉ ([] : List Nat) ↔ j < (plan ops.toList).length) := fun nn j x hx _ =>
      ⟨fun _ => (List.getElem?_eq_some_iff.1 hx).1, fun _ => by simp⟩
    refine hQ ρ' G' a' w' ⟨fun t v hv => ?_, fun n o ho => ?_, J.rh, J.sz, mono.wf R.wf, by rw [mono.bb]; exact Nat.le_trans R.bc mono.cc, J.df, J.ts, J.inv⟩ ⟨J.le, fun n hn => ?_, fun n hn => ?_, J.bel⟩
    · exact J.tm _ (Nat.le_refl _) t (fun j x hx _ => ⟨fun _ => (List.getElem?_eq_some_iff.1 hx).1, fun _ => by simp⟩) v (by rw [hlast]; exact hv)
    · exact J.hp _ (Nat.le_refl _) n (hall n) o (by rw [hlast]; exact ho)
    · exact J.out n (by rw [h0, hlast]; exact hn)
    · refine J.off n fun j x hx ht => ?_
      exfalso
      have hj : j < (plan ops.toList).length := (List.getElem?_eq_some_iff.1 hx).1
      have m1 := D.mono hm (Nat.zero_le j) (Nat.le_of_lt hj)
      have m2 := D.mono hm (show j + 1 ≤ (plan ops.toList).length by omega) (Nat.le_refl _)
      have m3 := D.mono1 hm hx
      rw [h0] at m1
      rw [hlast] at m2
      have hbc := R.bc
      have hb1 := m1.bb; have hc1 := m1.cc; have hc2 := m2.cc; have hc3 := m3.cc
      obtain ⟨hc, hh, hd, _⟩ := D.ck hx ht.1
      obtain ⟨_, _, _, g4⟩ := Gr.all hm (S j) x.o.op _ _ _ _ hd
      rcases ht.2 with h1 | h1
      · obtain ⟨o, ho⟩ := g4 n h1
        rcases hn with ⟨h2, h3⟩ | h2
        · refine h3 (m2.wl n ?_)
          have hs : S (j + 1) = putS (S j) x.o.dst (T j).v (T j).h (T j).c (T j).tl := by
            rcases D.step j x hx with ⟨_, _, _, h⟩ | ⟨h, _, _⟩
            · exact h
            · rw [ht.1] at h; cases h
          rw [hs, putS_eq]
          exact mem_notesL.2 (.inr ⟨h1, by rw [hb1]; exact h2⟩)
        · rw [D.wfk hm (Nat.le_of_lt hj) n (by omega)] at ho; cases ho
      · rcases hn with ⟨h2, h3⟩ | h2
        · omega
        · omega
  · refine ⟨List.nodup_range, fun i hi => by simpa using hi, by simp, fun i hi => by simp [hi], fun k x hx hR => absurd (by simpa using (D.op k x hx).2.1) hR, fun k hk t hcond v hv => ?_, fun k hk nn hcond o ho => ?_, R.rh.drew _, R.sz, R.df, R.ts,
      fun k x hx _ nn h1 h2 => ?_, Rho.le_refl _, fun _ _ => rfl, fun _ _ => rfl, ⟨rfl, rfl, rfl, Nat.le_refl _, fun _ _ => rfl⟩, hE.inv _ _ _ _ _ _ _ R.inv (StepD.drew ..)⟩
    · refine R.tm t v ?_
      rw [← hv, ← h0]
      symm
      refine D.tkeep (Nat.zero_le k) hk fun j x _ h2 hx hd => ?_
      exact (hcond j x hx hd).2 h2 (by simpa using (D.op j x hx).2.1)
    · refine R.hp nn o ?_
      rw [← ho, ← h0]
      symm
      refine D.keep hm (Nat.zero_le k) hk fun j _ h2 ht => ?_
      have hx : (plan ops.toList)[j]? = some (plan ops.toList)[j] := List.getElem?_eq_getElem (show j < (plan ops.toList).length by omega)
      exact (hcond j _ hx ht).2 h2 (by simpa using (D.op j _ hx).2.1)
    · have hk : k < (plan ops.toList).length := (List.getElem?_eq_some_iff.1 hx).1
      have m1 := (D.mono hm (Nat.zero_le k) (Nat.le_of_lt hk)).cc
      have m2 := (D.mono hm (show k + 1 ≤ (plan ops.toList).length by omega) (Nat.le_refl _)).cc
      rw [h0] at m1
      rw [hlast] at m2
      exact fr nn (by omega) (by omega)

theorem step_ok (hE : Ctx P E I) (hb : BodyOK E) {rec : Rec} (hm : RecM rec) (hr : RecS P I rec) (code : Code) (hnl : ∀ c, code ≠ .loop c) (s : St) (r : Res) (s' : St) (N : Nat) (e : step code E rec s = some (r, s')) (hok : okCode N code = true)
    (B : Nat) (ρ : Rho) (G : Hp) (a : Act) (w : World) (Q : Exit → Act → World → Prop) (R : Rel I B N ρ G s a w) (fr : ∀ n, s.c ≤ n → n < s'.c → ρ n = none)
    (hQ : ∀ ρ' G' a' w', Rel I B N ρ' G' s' a' w' → Ev B s ρ G w s' ρ' G' w' → Q (exitOf r) a' w') : code.wp P Q a w := by
  -- one piece of code, and then another
  have hseq : ∀ {b : Code} {q : Res} {s1 : St} {ρ1 : Rho} {G1 : Hp} {a1 : Act} {w1 : World}, okCode N b = true → seqK rec b (q, s1) = some (r, s') → Mono s s1 → Rel I B N ρ1 G1 s1 a1 w1 → Ev B s ρ G w s1 ρ1 G1 w1 →
      Exit.then (b.wp P Q) Q (exitOf q) a1 w1 := by
    intro b q s1 ρ1 G1 a1 w1 hokb h m R1 ev
    cases q with
    | normal =>
      have h' : rec b s1 = some (r, s') := h
      have m2 := hm _ _ _ _ h'
      refine hr b s1 r s' N h' hokb B ρ1 G1 a1 w1 Q R1 (fun n h3 h4 => ?_) fun ρ' G' a' w' R' ev' => hQ ρ' G' a' w' R' (ev.trans m m2 ev')
      have := m.cc
      rw [ev.out n (.inr h3)]; exact fr n (by omega) h4
    | exit id => cases (show some (Res.exit id, s1) = some (r, s') from h); exact hQ ρ1 G1 a1 w1 R1 ev
    | ret => cases (show some (Res.ret, s1) = some (r, s') from h); exact hQ ρ1 G1 a1 w1 R1 ev
  have mseq : ∀ {b : Code} {q : Res} {s1 : St}, seqK rec b (q, s1) = some (r, s') → s1.c ≤ s'.c := by
    intro b q s1 h
    cases q with
    | normal => exact (hm _ _ _ _ (show rec b s1 = some (r, s') from h)).cc
    | exit id => cases (show some (Res.exit id, s1) = some (r, s') from h); exact Nat.le_refl _
    | ret => cases (show some (Res.ret, s1) = some (r, s') from h); exact Nat.le_refl _
  cases code with
  | skip => cases e; exact wp_skip (hQ ρ G a w R (Ev.refl ..))
  | region id ops draw =>
    have e1 : Go.Ab.region E rec ops.toList draw s = some (r, s') := e
    unfold Go.Ab.region at e1
    have hok' : (ops.toList.all (dstOK N) && (!draw || drawOK ops)) = true := hok
    rw [Bool.and_eq_true] at hok'
    cases draw with
    | true =>
      obtain ⟨s1, h1, h2⟩ := oE_none_eq (show oE (Go.Ab.runD E rec ops.toList (plan ops.toList) s []) none nrm = some (r, s') from e1)
      cases h2
      exact draw_ok hE hb hm hr hok'.1 (by simpa using hok'.2) h1 R fr hQ
    | false =>
      obtain ⟨s1, h1, h2⟩ := oE_none_eq (show oE (Go.Ab.runOps E rec ops.toList ops.toList s) none nrm = some (r, s') from e1)
      cases h2
      refine wp_region (runOps_ok hE hb hm hr (List.range ops.size) ops.toList (by simp) (fun k i hk => ?_) hok'.1 h1 R fr hQ)
      have hlt : k < ops.size := by
        have := (List.getElem?_eq_some_iff.1 hk).1
        simpa using this
      rw [List.getElem?_range hlt] at hk
      cases hk
      simp
  | seq x b =>
    obtain ⟨⟨q, s1⟩, h1, h2⟩ := oE_none_eq (show oE (rec x s) none (seqK rec b) = some (r, s') from e)
    have hok' : (okCode N x && okCode N b) = true := hok
    rw [Bool.and_eq_true] at hok'
    refine wp_seq (hr x s q s1 N h1 hok'.1 B ρ G a w _ R (fun n h3 h4 => fr n h3 (Nat.lt_of_lt_of_le h4 (mseq h2))) fun ρ1 G1 a1 w1 R1 ev => hseq hok'.2 h2 (hm _ _ _ _ h1) R1 ev)
  | cond c x b =>
    obtain ⟨v, hv, h1⟩ := oE_none_eq (show oE (ev s.t c) none (condK rec x b s) = some (r, s') from e)
    obtain ⟨t, ht, h2⟩ := oE_none_eq (show oE (asBool v) none (fun c => rec (bE c x b) s) = some (r, s') from h1)
    obtain rfl := asBool_eq ht
    have hok' : (okCode N x && okCode N b) = true := hok
    rw [Bool.and_eq_true] at hok'
    have hc : a.eval c = .bool t := by
      have := R.tm.ev hv
      generalize a.eval c = C at this
      cases this; rfl
    refine wp_cond hc ?_
    cases t with
    | true => exact hr x s r s' N h2 hok'.1 B ρ G a w Q R fr hQ
    | false => exact hr b s r s' N h2 hok'.2 B ρ G a w Q R fr hQ
  | block id b =>
    obtain ⟨⟨q, s1⟩, h1, h2⟩ := oE_none_eq (show oE (rec b s) none (blockK id) = some (r, s') from e)
    have hs1 : s1 = s' := by
      cases q with
      | normal => cases (show some (Res.normal, s1) = some (r, s') from h2); rfl
      | ret => cases (show some (Res.ret, s1) = some (r, s') from h2); rfl
      | exit j =>
        have h3 : bE (Nat.beq j id) (some (Res.normal, s1)) (some (Res.exit j, s1)) = some (r, s') := h2
        cases hb : Nat.beq j id with
        | true => rw [hb, bE_true] at h3; cases h3; rfl
        | false => rw [hb, bE_false] at h3; cases h3; rfl
    subst hs1
    refine wp_block (hr b s q s1 N h1 hok B ρ G a w _ R fr fun ρ1 G1 a1 w1 R1 ev => ?_)
    cases q with
    | normal => cases (show some (Res.normal, s1) = some (r, s1) from h2); exact hQ ρ1 G1 a1 w1 R1 ev
    | ret => cases (show some (Res.ret, s1) = some (r, s1) from h2); exact hQ ρ1 G1 a1 w1 R1 ev
    | exit j =>
      have h3 : bE (Nat.beq j id) (some (Res.normal, s1)) (some (Res.exit j, s1)) = some (r, s1) := h2
      show (if j = id then Q .normal a1 w1 else Q (.exit j) a1 w1)
      cases hb : Nat.beq j id with
      | true => rw [hb, bE_true] at h3; cases h3; rw [if_pos (beq_true hb)]; exact hQ ρ1 G1 a1 w1 R1 ev
      | false => rw [hb, bE_false] at h3; cases h3; rw [if_neg (beq_false hb)]; exact hQ ρ1 G1 a1 w1 R1 ev
  | loop b => exact absurd rfl (hnl b)
  | exit id => cases e; exact wp_exit (hQ ρ G a w R (Ev.refl ..))
  | label l => cases e; exact wp_label (hQ ρ G a w R (Ev.refl ..))
  | ret => cases e; exact wp_ret (hQ ρ G a w R (Ev.refl ..))
  | _ => cases e
theorem seq_mono {rec : Rec} (hm : RecM rec) {b : Code} {q : Res} {s1 : St} {r : Res} {s' : St} (h : seqK rec b (q, s1) = some (r, s')) : Mono s1 s' := by
  cases q with
  | normal => exact hm _ _ _ _ (show rec b s1 = some (r, s') from h)
  | exit id => cases (show some (Res.exit id, s1) = some (r, s') from h); exact Mono.refl _
  | ret => cases (show some (Res.ret, s1) = some (r, s') from h); exact Mono.refl _
theorem loop_ok (n : Nat) (hall : ∀ k, k < n → RecS P I (exec E k)) (b : Code) (s : St) (r : Res) (s' : St) (N : Nat) (e : exec E n (.loop b) s = some (r, s')) (hok : okCode N (.loop b) = true)
    (B : Nat) (ρ : Rho) (G : Hp) (a : Act) (w : World) (Q : Exit → Act → World → Prop) (R : Rel I B N ρ G s a w) (fr : ∀ n, s.c ≤ n → n < s'.c → ρ n = none)
    (hQ : ∀ ρ' G' a' w', Rel I B N ρ' G' s' a' w' → Ev B s ρ G w s' ρ' G' w' → Q (exitOf r) a' w') : (Code.loop b).wp P Q a w := by
  refine wp_loop_ghost (fun k a1 w1 => k ≤ n ∧ ∃ s1 ρ1 G1, exec E k (.loop b) s1 = some (r, s') ∧ Mono s s1 ∧ Rel I B N ρ1 G1 s1 a1 w1 ∧ Ev B s ρ G w s1 ρ1 G1 w1) n ⟨Nat.le_refl _, s, ρ, G, e, Mono.refl _, R, Ev.refl ..⟩ ?_
  rintro k a1 w1 ⟨hk, s1, ρ1, G1, e1, m1, R1, ev1⟩
  cases k with
  | zero => cases e1
  | succ k =>
    obtain ⟨⟨q, s2⟩, h1, h2⟩ := oE_none_eq (show oE (exec E k b s1) none (seqK (exec E k) (.loop b)) = some (r, s') from e1)
    have m2 := Mono.exec E k _ _ _ _ h1
    have m3 := seq_mono (Mono.exec E k) h2
    have c1 := m1.cc; have c2 := m2.cc; have c3 := m3.cc
    refine hall k (by omega) b s1 q s2 N h1 hok B ρ1 G1 a1 w1 _ R1 (fun n h3 h4 => ?_) fun ρ2 G2 a2 w2 R2 ev2 => ?_
    · rw [ev1.out n (.inr (by omega))]; exact fr n (by omega) (by omega)
    · have ev := ev1.trans m1 m2 ev2
      cases q with
      | normal => exact ⟨k, by omega, by omega, s2, ρ2, G2, h2, m1.trans m2, R2, ev⟩
      | exit id => cases (show some (Res.exit id, s2) = some (r, s') from h2); exact hQ ρ2 G2 a2 w2 R2 ev
      | ret => cases (show some (Res.ret, s2) = some (r, s') from h2); exact hQ ρ2 G2 a2 w2 R2 ev
theorem exec_ok (hE : Ctx P E I) (hb : BodyOK E) : ∀ n, RecS P I (exec E n) := by
  intro n
  induction n using Nat.strongRecOn with
  | _ n ih =>
    intro code s r s' N e hok B ρ G a w Q R fr hQ
    cases n with
    | zero => cases e
    | succ n =>
      by_cases hl : ∃ c, code = .loop c
      · obtain ⟨c, rfl⟩ := hl
        exact loop_ok (n + 1) ih c s r s' N e hok B ρ G a w Q R fr hQ
      · exact step_ok hE hb (Mono.exec E n) (ih n (Nat.lt_succ_self n)) code (fun c h => hl ⟨c, h⟩) s r s' N e hok B ρ G a w Q R fr hQ
end
end Go.Ab
namespace Go.Ab
open Go.RowKit (Below)
noncomputable section

/-! Checks of the tables against a program. -/
def okz : AV → Value → Bool
  | .any, _ => true
  | .bool false, .bool false => true
  | .int k (.ofNat 0), .int j (.ofNat 0) => keq k j
  | .str [], .string s => Nat.beq s.size 0
  | .nilp, .pointer none => true
  | .nils, .slice none 0 0 => true
  | .nilm, .map none => true
  | .nilf, .nilFunc => true
  | .nili, .nilIface => true
  | _, _ => false
def okzs : List AV → List Value → Bool
  | [], [] => true
  | a :: l, v :: x => okz a v && okzs l x
  | _, _ => false
theorem okz_ok {ρ : Rho} {a : AV} {v : Value} (h : okz a v = true) : RV ρ a v := by
  unfold okz at h
  split at h
  · exact .any _
  · exact .bool _
  · obtain rfl := keq_eq h; exact .int _ _
  · next s =>
    have h0 : s.size = 0 := beq_true h
    have : bytesOf s = [] := List.eq_nil_of_length_eq_zero (by rw [bytesOf_length]; exact h0)
    have r := RV.str (ρ := ρ) s
    rwa [this] at r
  · exact .nilp
  · exact .nils
  · exact .nilm
  · exact .nilf
  · exact .nili
  · cases h
theorem okzs_ok {ρ : Rho} : ∀ {l : List AV} {x : List Value}, okzs l x = true → RVs ρ l x
  | [], [], _ => .nil
  | [], _ :: _, h => by cases h
  | _ :: _, [], h => by cases h
  | a :: l, v :: x, h => by
    have h' : (okz a v && okzs l x) = true := h
    rw [Bool.and_eq_true] at h'
    exact .cons (okz_ok h'.1) (okzs_ok h'.2)
def flB : List (Nat × Nat) → List Field → Bool
  | [], [] => true
  | p :: l, g :: x => (Nat.beq p.1 g.type && Nat.beq p.2 g.offset) && flB l x
  | _, _ => false
theorem flB_ok : ∀ {l : List (Nat × Nat)} {x : List Field}, flB l x = true → l = x.map fun g => (g.type, g.offset)
  | [], [], _ => rfl
  | [], _ :: _, h => by cases h
  | _ :: _, [], h => by cases h
  | p :: l, g :: x, h => by
    have h' : ((Nat.beq p.1 g.type && Nat.beq p.2 g.offset) && flB l x) = true := h
    rw [Bool.and_eq_true, Bool.and_eq_true] at h'
    obtain ⟨⟨h1, h2⟩, h3⟩ := h'
    rw [List.map_cons, ← flB_ok h3, ← beq_true h1, ← beq_true h2]
def drB : TD → TypeDesc → Bool
  | .bool, .bool => true
  | .int k, .int j => keq j k
  | .str, .string => true
  | .ptr, .pointer _ => true
  | .sl e, .slice f => Nat.beq f e
  | .arr n e, .array m f => Nat.beq m n && Nat.beq f e
  | .map k e, .map j f => Nat.beq j k && Nat.beq f e
  | .st fs, .struct gs => flB fs gs.toList
  | .fn, .func _ _ _ => true
  | .ifc, .interface _ => true
  | .oth, _ => true
  | _, _ => false
theorem drB_ok {d : TD} {D : TypeDesc} (h : drB d D = true) : DR d D := by
  unfold drB at h
  split at h
  · trivial
  · exact keq_eq h
  · trivial
  · trivial
  · exact beq_true h
  · rw [Bool.and_eq_true] at h; exact ⟨beq_true h.1, beq_true h.2⟩
  · rw [Bool.and_eq_true] at h; exact ⟨beq_true h.1, beq_true h.2⟩
  · exact flB_ok h
  · trivial
  · trivial
  · cases D <;> trivial
  · cases h
def fldB (P : Program) : TD → Bool
  | .st fs => fs.all fun p => (P.info? p.1).isSome
  | _ => true
def tyB (P : Program) (eqs : List Nat) (t : Nat) (i : TI) : Bool := match P.info? t with
  | none => false
  | some f => match f.zero with
    | none => false
    | some z => match P.underlying t with
      | none => false
      | some d => Nat.beq f.size i.size && (Nat.beq f.bytes i.bytes && (okzs i.z z.cells.toList && (beqB (aggV z) i.agg && (Nat.beq (len i.z) i.size && (drB i.d d && (beqB (aggD d) i.agg && ((!i.eq || mem t eqs) && fldB P i.d)))))))
theorem beqB_iff {a b : Bool} (h : beqB a b = true) : a = b := by cases a <;> cases b <;> first | rfl | cases h
theorem tyB_ok {P : Program} {eqs : List Nat} {t : Nat} {i : TI} (he : t ∈ eqs → EqOK P t i.z) (h : tyB P eqs t i = true) : TyOK P t i := by
  unfold tyB at h
  split at h
  · cases h
  · next f hf =>
    split at h
    · cases h
    · next z hz =>
      split at h
      · cases h
      · next d hd =>
        simp only [Bool.and_eq_true] at h
        obtain ⟨h1, h2, h3, h4, h5, h6, h7, h8, h9⟩ := h
        refine ⟨⟨f, z, d, hf, beq_true h1, beq_true h2, hz, fun ρ => okzs_ok h3, beqB_iff h4, by rw [← len_eq]; exact beq_true h5, hd, drB_ok h6, beqB_iff h7⟩, fun h => ?_, fun fs hfs p hp => ?_⟩
        · rw [h] at h8; exact he ((mem_eq _ _).1 (by simpa using h8))
        · rw [hfs] at h9
          exact List.all_eq_true.1 h9 p hp
def tysB (P : Program) (eqs : List Nat) : Nat → List (Option TI) → Bool
  | _, [] => true
  | t, none :: l => tysB P eqs (t + 1) l
  | t, some i :: l => tyB P eqs t i && tysB P eqs (t + 1) l
theorem tysB_ok {P : Program} {eqs : List Nat} : ∀ {l : List (Option TI)} {t : Nat}, tysB P eqs t l = true → (∀ j i, l[j]? = some (some i) → (t + j) ∈ eqs → EqOK P (t + j) i.z) → ∀ j i, l[j]? = some (some i) → TyOK P (t + j) i
  | [], _, _, _, _, _, h => by simp at h
  | none :: l, t, h, he, j, i, hj => by
    cases j with
    | zero => simp at hj
    | succ j =>
      have := tysB_ok (t := t + 1) (show tysB P eqs (t + 1) l = true from h) (fun j i hj h => by
        have := he (j + 1) i (by simpa using hj) (by rwa [show t + (j + 1) = t + 1 + j by omega])
        rwa [show t + (j + 1) = t + 1 + j by omega] at this) j i (by simpa using hj)
      rwa [show t + (j + 1) = t + 1 + j by omega]
  | some x :: l, t, h, he, j, i, hj => by
    have h' : (tyB P eqs t x && tysB P eqs (t + 1) l) = true := h
    rw [Bool.and_eq_true] at h'
    cases j with
    | zero => simp at hj; subst hj; exact tyB_ok (he 0 x rfl) h'.1
    | succ j =>
      have := tysB_ok (t := t + 1) h'.2 (fun j i hj h => by
        have := he (j + 1) i (by simpa using hj) (by rwa [show t + (j + 1) = t + 1 + j by omega])
        rwa [show t + (j + 1) = t + 1 + j by omega] at this) j i (by simpa using hj)
      rwa [show t + (j + 1) = t + 1 + j by omega]

/-! Tables laid out of lists. -/
theorem ofListO_get {α : Type} (l : List (Option α)) (k : Nat) : (Tr.ofListO l).get k = (l[k]?).join := by
  have key : ∀ (l : List (Option α)) (i : Nat) (t : Tr α), (List.rec (motive := fun _ => Nat → Tr α → Tr α) (fun _ t => t)
      (fun x _ ih i t => Tr.rec (motive := fun _ => Tr α) (ih (.succ i) .lf) (fun a b c _ _ => ih (.succ i) (.nd a b c)) (Tr.setO t i x)) l i t).get k = if i ≤ k ∧ k < i + l.length ∧ (l[k - i]?).join ≠ none then (l[k - i]?).join else t.get k := by
    intro l
    induction l with
    | nil => intro i t; simp; 
    | cons x l ih =>
      intro i t
      have hstep : (List.rec (motive := fun _ => Nat → Tr α → Tr α) (fun _ t => t)
        (fun x _ ih i t => Tr.rec (motive := fun _ => Tr α) (ih (.succ i) .lf) (fun a b c _ _ => ih (.succ i) (.nd a b c)) (Tr.setO t i x)) (x :: l) i t) =
        (List.rec (motive := fun _ => Nat → Tr α → Tr α) (fun _ t => t)
        (fun x _ ih i t => Tr.rec (motive := fun _ => Tr α) (ih (.succ i) .lf) (fun a b c _ _ => ih (.succ i) (.nd a b c)) (Tr.setO t i x)) l (i + 1) (Tr.setO t i x)) := by
        show Tr.rec (motive := fun _ => Tr α) _ _ (Tr.setO t i x) = _
        cases Tr.setO t i x <;> rfl
      rw [hstep, ih (i + 1) (Tr.setO t i x)]
      by_cases h : k = i
      · subst h
        rw [if_neg (by omega)]
        cases x with
        | none => simp [Tr.setO]
        | some y => simp [Tr.setO, Tr.get_set]
      · have hs : (Tr.setO t i x).get k = t.get k := by
          cases x with
          | none => rfl
          | some y => show (t.set i y).get k = _; rw [Tr.get_set, if_neg h]
        rw [hs]
        by_cases h2 : i + 1 ≤ k
        · have : (x :: l)[k - i]? = l[k - (i + 1)]? := by rw [show k - i = (k - (i + 1)) + 1 by omega, List.getElem?_cons_succ]
          rw [this]
          simp only [List.length_cons]
          by_cases h3 : i + 1 ≤ k ∧ k < i + 1 + l.length ∧ (l[k - (i + 1)]?).join ≠ none
          · rw [if_pos h3, if_pos ⟨by omega, by omega, h3.2.2⟩]
          · rw [if_neg h3, if_neg (fun h4 => h3 ⟨by omega, by omega, h4.2.2⟩)]
        · rw [if_neg (fun h3 => h2 h3.1), if_neg (fun h3 => by omega)]
  have := key l 0 .lf
  rw [show Tr.ofListO l = (List.rec (motive := fun _ => Nat → Tr α → Tr α) (fun _ t => t)
      (fun x _ ih i t => Tr.rec (motive := fun _ => Tr α) (ih (.succ i) .lf) (fun a b c _ _ => ih (.succ i) (.nd a b c)) (Tr.setO t i x)) l 0 .lf) from rfl, this]
  simp only [Nat.zero_le, Nat.sub_zero, Nat.zero_add, true_and, Tr.get_lf]
  split
  · rfl
  · next h =>
    cases hj : (l[k]?).join with
    | none => rfl
    | some y =>
      exfalso
      apply h
      refine ⟨?_, by rw [hj]; simp⟩
      rcases Nat.lt_or_ge k l.length with h1 | h1
      · exact h1
      · rw [List.getElem?_eq_none h1] at hj; cases hj
end
end Go.Ab
