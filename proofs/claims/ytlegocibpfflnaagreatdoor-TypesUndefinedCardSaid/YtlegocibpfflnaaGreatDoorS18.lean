/- A part of an evaluator of the program's operations over values that are known whole or in part, and of the proof that what it answers holds of the program's run. No condition. -/
import Derived.Test.YtlegocibpfflnaaGreatDoorS17
namespace Go.Ab

theorem mem_note {b n : Nat} {wl : List Nat} {m : Nat} : m ∈ note b n wl ↔ m ∈ wl ∨ (m = n ∧ n < b) := by
  unfold note
  cases h : Nat.ble (.succ n) b with
  | false =>
    have := ble_false h
    rw [bE_false]
    constructor
    · exact .inl
    · rintro (h | h)
      · exact h
      · omega
  | true =>
    have hb : n < b := ble_true h
    rw [bE_true]
    cases h2 : mem n wl with
    | true =>
      have := (mem_eq n wl).1 h2
      rw [bE_true]
      constructor
      · exact .inl
      · rintro (h | ⟨rfl, _⟩) <;> assumption
    | false =>
      rw [bE_false, List.mem_cons]
      constructor
      · rintro (h | h)
        · exact .inr ⟨h, hb⟩
        · exact .inl h
      · rintro (h | h)
        · exact .inr h
        · exact .inl h.1
theorem mem_notesL {b m : Nat} : ∀ {tl : List Nat} {wl : List Nat}, m ∈ notesL tl b wl ↔ m ∈ wl ∨ (m ∈ tl ∧ m < b)
  | [], wl => by
    show m ∈ wl ↔ _
    simp
  | n :: tl, wl => by
    show m ∈ notesL tl b (note b n wl) ↔ _
    rw [mem_notesL, mem_note, List.mem_cons]
    constructor
    · rintro ((h | ⟨rfl, h⟩) | ⟨h, k⟩)
      · exact .inl h
      · exact .inr ⟨.inl rfl, h⟩
      · exact .inr ⟨.inr h, k⟩
    · rintro (h | ⟨rfl | h, k⟩)
      · exact .inl (.inl h)
      · exact .inl (.inr ⟨rfl, k⟩)
      · exact .inr ⟨h, k⟩
noncomputable def setD (t : Tr AV) (dst : Option Tmp) (v : AV) : Tr AV := match dst with
  | some d => t.set d v
  | none => t
theorem putS_eq (s : St) (dst : Option Tmp) (v : AV) (h : Tr AB) (c : Nat) (tl : List Nat) :
    putS s dst v h c tl = ⟨setD s.t dst v, h, c, s.b, notesL tl s.b s.wl⟩ := by
  show forceL (notesL tl s.b s.wl) (putD dst s.t v h c s.b) = _
  rw [forceL_eq]
  cases dst with
  | none => rfl
  | some d => exact putT_eq _ _ _ _ _
theorem skipS_eq (s : St) (dst : Option Tmp) : skipS s dst = ⟨setD s.t dst (.tup []), s.h, s.c, s.b, s.wl⟩ := by
  show putD dst s.t (.tup []) s.h s.c s.b s.wl = _
  cases dst with
  | none => rfl
  | some d => exact putT_eq _ _ _ _ _

/-- From one state to a later one of the same frame. -/
structure Mono (s s' : St) : Prop where
  cc : s.c ≤ s'.c
  bb : s'.b = s.b
  wl : ∀ n ∈ s.wl, n ∈ s'.wl
  wf : Wf s.h s.c → Wf s'.h s'.c
  kp : s.b ≤ s.c → ∀ n, n < s.b → n ∉ s'.wl → s'.h.get n = s.h.get n
  wb : s.b ≤ s.c → ∀ n ∈ s'.wl, n ∈ s.wl ∨ (n < s.b ∧ ∃ o, s.h.get n = some o)
theorem Mono.refl (s : St) : Mono s s := ⟨Nat.le_refl _, rfl, fun _ h => h, fun h => h, fun _ _ _ _ => rfl, fun _ _ h => .inl h⟩
theorem Mono.trans {a b c : St} (h : Mono a b) (k : Mono b c) : Mono a c := by
  refine ⟨Nat.le_trans h.cc k.cc, k.bb.trans h.bb, fun n hn => k.wl n (h.wl n hn), fun hw => k.wf (h.wf hw), fun hb n hn hw => ?_, fun hb n hn => ?_⟩
  · have := h.cc; have hbb := h.bb
    rw [k.kp (by omega) n (by omega) hw, h.kp hb n hn fun h3 => hw (k.wl n h3)]
  · have := h.cc; have hbb := h.bb
    rcases k.wb (by omega) n hn with h1 | ⟨h1, o, h2⟩
    · exact h.wb hb n h1
    · by_cases h3 : n ∈ b.wl
      · exact h.wb hb n h3
      · exact .inr ⟨by omega, o, by rw [← h.kp hb n (by omega) h3]; exact h2⟩
theorem Mono.put {s : St} {r : Out} (g : Gr s r) {dst : Option Tmp} {v : AV} {h : Tr AB} {c : Nat} {tl : List Nat} (e : r = .ok v h c tl) : Mono s (putS s dst v h c tl) := by
  obtain ⟨h1, h2, h3, h4⟩ := g v h c tl e
  rw [putS_eq]
  refine ⟨h1, rfl, fun n hn => mem_notesL.2 (.inl hn), h3, fun hb n hn hw => ?_, fun hb n hn => ?_⟩
  · exact h2 n (fun h5 => hw (mem_notesL.2 (.inr ⟨h5, hn⟩))) (by omega)
  · rcases mem_notesL.1 hn with h5 | ⟨h5, h6⟩
    · exact .inl h5
    · exact .inr ⟨h6, h4 n h5⟩
theorem Mono.skip (s : St) (dst : Option Tmp) : Mono s (skipS s dst) := by
  rw [skipS_eq]
  exact ⟨Nat.le_refl _, rfl, fun _ h => h, fun h => h, fun _ _ _ _ => rfl, fun _ _ h => .inl h⟩

def RecM (rec : Rec) : Prop := ∀ code s r s', rec code s = some (r, s') → Mono s s'
theorem pair_eq {α β : Type} (p : α × β) : p = (p.1, p.2) := rfl
theorem Gr.endF {E : Env} {fn : Func} {s : St} {p : Res × St} (h : ∀ v, Gr s (Go.Ab.back v p.2)) : Gr s (Go.Ab.endF E fn p) := by
  obtain ⟨r, s'⟩ := p
  cases r with
  | normal => exact Gr.oE fun l => h _
  | ret => exact Gr.oE fun l => h _
  | exit id => exact Gr.no s
theorem Gr.enter {E : Env} {rec : Rec} (hr : RecM rec) (s : St) (args : List AV) (fn : Func) (code : Code) : Gr s (Go.Ab.enter E rec s args fn code) := by
  show Gr s (forceT (params args .zero .lf) (runF E rec fn s.h s.c code))
  rw [forceT_eq]
  refine Gr.oE' fun p hp => Gr.endF fun v => ?_
  obtain ⟨r, s'⟩ := p
  have m := hr _ _ _ _ hp
  intro v' h c tl e
  rw [show Go.Ab.back v s' = out v s'.h s'.c s'.wl from rfl, out_eq] at e
  cases e
  refine ⟨m.cc, fun n hn hc => m.kp (Nat.le_refl _) n hc hn, m.wf, fun n hn => ?_⟩
  rcases m.wb (Nat.le_refl _) n hn with h | h
  · exact absurd h (by simp)
  · exact h.2
theorem Gr.callF {E : Env} {rec : Rec} (hr : RecM rec) (s : St) (f : Nat) (args : List AV) : Gr s (Go.Ab.callF E rec s f args) := by
  unfold Go.Ab.callF
  cases E.ext.get f with
  | none =>
    rw [oE_none]
    cases E.con.get f with
    | none => exact Gr.oE fun fn => Gr.oE fun body => Gr.enter hr s args fn body
    | some k => exact Gr.pureO _ _
  | some k => exact Gr.pureO _ _
theorem Gr.all {E : Env} {rec : Rec} (hr : RecM rec) (s : St) (op : Op) : Gr s (Go.Ab.disp op E rec s) := by
  by_cases hk : kindOp op = 2
  · cases op with
    | call cl =>
      obtain ⟨callee, args, argTypes⟩ := cl
      cases callee with
      | builtin b => exact Gr.bi _ _ _ _ _
      | value x => exact Gr.oE fun v => Gr.oE fun l => Gr.oE fun p => Gr.pE fun f q => Gr.pE fun first cap => Gr.callF hr _ _ _
      | invoke x n => exact Gr.no s
    | _ => cases hk
  · exact Gr.disp op hk
theorem putO_eq {r : Out} {s s' : St} {dst : Option Tmp} (e : putO r s dst = some s') : ∃ v h c tl, r = .ok v h c tl ∧ s' = putS s dst v h c tl := by
  cases r with
  | no => cases e
  | ok v h c tl => cases e; exact ⟨v, h, c, tl, rfl, rfl⟩
/-- what one operation of a region in the order of its text comes to -/
theorem stepOp_eq {E : Env} {rec : Rec} {ops : List Oper} {s s' : St} {o : Oper} (e : stepOp E rec ops s o = some s') :
    (wanted ops s o.guard = some true ∧ ∃ v h c tl, disp o.op E rec s = .ok v h c tl ∧ s' = putS s o.dst v h c tl) ∨ (wanted ops s o.guard = some false ∧ s' = skipS s o.dst) := by
  unfold stepOp at e
  cases hg : o.guard with
  | none => rw [hg] at e; exact .inl ⟨rfl, putO_eq e⟩
  | some g =>
    rw [hg, oE_some] at e
    obtain ⟨b, hb, e1⟩ := oE_none_eq e
    cases b with
    | true => exact .inl ⟨hb, putO_eq e1⟩
    | false => cases e1; exact .inr ⟨hb, rfl⟩
theorem Mono.stepOp {E : Env} {rec : Rec} (hr : RecM rec) {ops : List Oper} {s s' : St} {o : Oper} (e : Go.Ab.stepOp E rec ops s o = some s') : Mono s s' := by
  rcases stepOp_eq e with ⟨_, v, h, c, tl, h1, rfl⟩ | ⟨_, rfl⟩
  · exact Mono.put (Gr.all hr s o.op) h1
  · exact Mono.skip _ _
theorem Mono.runOps {E : Env} {rec : Rec} (hr : RecM rec) {ops : List Oper} : ∀ {l : List Oper} {s s' : St}, Go.Ab.runOps E rec ops l s = some s' → Mono s s'
  | [], s, s', e => by cases e; exact Mono.refl _
  | o :: l, s, s', e => by
    obtain ⟨s1, h1, h2⟩ := oE_none_eq (show oE (Go.Ab.stepOp E rec ops s o) none (forceS (Go.Ab.runOps E rec ops l)) = some s' from e)
    rw [forceS_eq] at h2
    exact (Mono.stepOp hr h1).trans (Mono.runOps hr h2)
/-- what one operation of a region that draws comes to -/
theorem runD_cons {E : Env} {rec : Rec} {ops : List Oper} {e : Ent} {p : List Ent} {s s' : St} {l : List Rcd} (h : runD E rec ops (e :: p) s l = some s') :
    (wanted ops s e.o.guard = some true ∧ ∃ v h c tl l', disp e.o.op E rec s = .ok v h c tl ∧ recd e s c tl l = some l' ∧ runD E rec ops p (putS s e.o.dst v h c tl) l' = some s') ∨
      (wanted ops s e.o.guard = some false ∧ runD E rec ops p (skipS s e.o.dst) l = some s') := by
  obtain ⟨b, hb, h1⟩ := oE_none_eq (show oE (wanted ops s e.o.guard) none (fun w => bE w (goD e (runD E rec ops p) (disp e.o.op E rec s) s l) (forceS (fun s' => runD E rec ops p s' l) (skipS s e.o.dst))) = some s' from h)
  cases b with
  | true =>
    rw [bE_true] at h1
    cases hd : disp e.o.op E rec s with
    | no => rw [hd] at h1; cases h1
    | ok v h c tl =>
      rw [hd] at h1
      obtain ⟨l', h2, h3⟩ := oE_none_eq (show oE (recd e s c tl l) none (fun l' => forceS (fun s' => runD E rec ops p s' l') (putS s e.o.dst v h c tl)) = some s' from h1)
      rw [forceS_eq] at h3
      exact .inl ⟨hb, v, h, c, tl, l', rfl, h2, h3⟩
  | false =>
    rw [bE_false, forceS_eq] at h1
    exact .inr ⟨hb, h1⟩
theorem Mono.runD {E : Env} {rec : Rec} (hr : RecM rec) {ops : List Oper} : ∀ {p : List Ent} {s s' : St} {l : List Rcd}, Go.Ab.runD E rec ops p s l = some s' → Mono s s'
  | [], s, s', l, e => by cases e; exact Mono.refl _
  | e :: p, s, s', l, h => by
    rcases runD_cons h with ⟨_, v, h, c, tl, l', h1, _, h3⟩ | ⟨_, h3⟩
    · exact (Mono.put (Gr.all hr s e.o.op) h1).trans (Mono.runD hr h3)
    · exact (Mono.skip _ _).trans (Mono.runD hr h3)
theorem Mono.step {E : Env} {rec : Rec} (hr : RecM rec) (code : Code) (s : St) (r : Res) (s' : St) (e : Go.Ab.step code E rec s = some (r, s')) : Mono s s' := by
  have hseq : ∀ {b : Code} {p : Res × St}, seqK rec b p = some (r, s') → Mono s p.2 → Mono s s' := by
    intro b p h m
    obtain ⟨q, s1⟩ := p
    cases q with
    | normal => exact m.trans (hr _ _ _ _ (show rec b s1 = some (r, s') from h))
    | exit id => cases (show some (Res.exit id, s1) = some (r, s') from h); exact m
    | ret => cases (show some (Res.ret, s1) = some (r, s') from h); exact m
  cases code with
  | skip => cases e; exact Mono.refl _
  | region id ops draw =>
    have e1 : Go.Ab.region E rec ops.toList draw s = some (r, s') := e
    unfold Go.Ab.region at e1
    cases draw with
    | true =>
      obtain ⟨s1, h1, h2⟩ := oE_none_eq (show oE (Go.Ab.runD E rec ops.toList (plan ops.toList) s []) none nrm = some (r, s') from e1)
      cases h2
      exact Mono.runD hr h1
    | false =>
      obtain ⟨s1, h1, h2⟩ := oE_none_eq (show oE (Go.Ab.runOps E rec ops.toList ops.toList s) none nrm = some (r, s') from e1)
      cases h2
      exact Mono.runOps hr h1
  | seq a b =>
    obtain ⟨⟨q, s1⟩, h1, h2⟩ := oE_none_eq (show oE (rec a s) none (seqK rec b) = some (r, s') from e)
    exact hseq h2 (hr _ _ _ _ h1)
  | cond c a b =>
    obtain ⟨v, hv, h1⟩ := oE_none_eq (show oE (ev s.t c) none (condK rec a b s) = some (r, s') from e)
    obtain ⟨q, _, h2⟩ := oE_none_eq (show oE (asBool v) none (fun c => rec (bE c a b) s) = some (r, s') from h1)
    exact hr _ _ _ _ h2
  | block id b =>
    obtain ⟨⟨q, s1⟩, h1, h2⟩ := oE_none_eq (show oE (rec b s) none (blockK id) = some (r, s') from e)
    have m := hr _ _ _ _ h1
    cases q with
    | normal => cases (show some (Res.normal, s1) = some (r, s') from h2); exact m
    | ret => cases (show some (Res.ret, s1) = some (r, s') from h2); exact m
    | exit j =>
      have h3 : bE (Nat.beq j id) (some (Res.normal, s1)) (some (Res.exit j, s1)) = some (r, s') := h2
      cases hb : Nat.beq j id with
      | true => rw [hb, bE_true] at h3; cases h3; exact m
      | false => rw [hb, bE_false] at h3; cases h3; exact m
  | loop b =>
    obtain ⟨⟨q, s1⟩, h1, h2⟩ := oE_none_eq (show oE (rec b s) none (seqK rec (.loop b)) = some (r, s') from e)
    exact hseq h2 (hr _ _ _ _ h1)
  | exit id => cases e; exact Mono.refl _
  | label l => cases e; exact Mono.refl _
  | ret => cases e; exact Mono.refl _
  | _ => cases e
theorem Mono.exec (E : Env) : ∀ n, RecM (Go.Ab.exec E n)
  | 0 => fun _ _ _ _ e => by cases e
  | n + 1 => fun code s r s' e => Mono.step (Mono.exec E n) code s r s' e
end Go.Ab
