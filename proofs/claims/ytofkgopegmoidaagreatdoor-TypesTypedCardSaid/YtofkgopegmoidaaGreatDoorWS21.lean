/- A part of an evaluator of the program's operations over values that are known whole or in part, and of the proof that what it answers holds of the program's run. No condition. -/
import Derived.Test.YtofkgopegmoidaaGreatDoorWS18
namespace Go.Ab
noncomputable section

/-! What is checked of a code once and for all. -/
def dstOK (N : Nat) (o : Oper) : Bool := match o.dst with
  | some d => Nat.ble (d + 1) N
  | none => true
def pairsOK (ops : Array Oper) : List Ent → Bool
  | [] => true
  | x :: r => r.all (fun y => bit y.m x.i || x.o.apart ops y.o) && pairsOK ops r
def edgesOK (e : Ent) : Bool := e.o.after.toList.all fun g => !binds g.ground || Nat.ble (g.on + 1) e.i
def maskOK (n : Nat) (ms : List Nat) (e : Ent) : Bool := (List.range n).all fun i => !bit e.m i || e.o.after.toList.any fun g => binds g.ground && (Nat.beq g.on i || bit (ms.getD g.on 0) i)
def nodupB : List Nat → Bool
  | [] => true
  | x :: r => !mem x r && nodupB r
def coverB (n : Nat) (p : List Ent) : Bool := (List.range n).all fun i => p.any fun e => Nat.beq e.i i
def drawOK (ops : Array Oper) : Bool :=
  coverB ops.size (plan ops.toList) && (nodupB ((plan ops.toList).map (·.i)) && ((plan ops.toList).all edgesOK && ((plan ops.toList).all (maskOK ops.size (masks ops.toList [])) && pairsOK ops (plan ops.toList))))
def okCode (N : Nat) : Code → Bool
  | .region _ ops draw => ops.toList.all (dstOK N) && (!draw || drawOK ops)
  | .seq a b => okCode N a && okCode N b
  | .cond _ a b => okCode N a && okCode N b
  | .block _ b => okCode N b
  | .loop b => okCode N b
  | _ => true

theorem nodupB_ok : ∀ {l : List Nat}, nodupB l = true → l.Nodup
  | [], _ => List.nodup_nil
  | x :: r, h => by
    simp only [nodupB, Bool.and_eq_true, Bool.not_eq_true'] at h
    refine List.nodup_cons.2 ⟨fun hx => ?_, nodupB_ok h.2⟩
    have := (mem_eq x r).2 hx
    rw [h.1] at this; cases this
theorem pairsOK_cons {ops : Array Oper} {x : Ent} {r : List Ent} (h : pairsOK ops (x :: r) = true) : (∀ y ∈ r, bit y.m x.i = true ∨ x.o.apart ops y.o = true) ∧ pairsOK ops r = true := by
  have h' : (r.all (fun y => bit y.m x.i || x.o.apart ops y.o) && pairsOK ops r) = true := h
  rw [Bool.and_eq_true, List.all_eq_true] at h'
  exact ⟨fun y hy => by have := h'.1 y hy; rwa [Bool.or_eq_true] at this, h'.2⟩
theorem pairsOK_get {ops : Array Oper} : ∀ {p : List Ent}, pairsOK ops p = true → ∀ (j k : Nat) {x y : Ent}, j < k → p[j]? = some x → p[k]? = some y → bit y.m x.i = true ∨ x.o.apart ops y.o = true := by
  intro p
  induction p with
  | nil => intro _ j k x y _ hx; simp at hx
  | cons z r ih =>
    intro h j k x y hjk hx hy
    obtain ⟨h1, h2⟩ := pairsOK_cons h
    cases k with
    | zero => omega
    | succ k =>
      rw [List.getElem?_cons_succ] at hy
      cases j with
      | zero =>
        rw [List.getElem?_cons_zero] at hx
        cases hx
        exact h1 y (List.mem_of_getElem? hy)
      | succ j =>
        rw [List.getElem?_cons_succ] at hx
        exact ih h2 j k (by omega) hx hy

/-! The order of evaluation has the operations of the text. -/
theorem ents_mem : ∀ {l : List Oper} {i : Nat} {ms : List Nat} {e : Ent}, e ∈ ents l i ms → ∃ j, e.i = i + j ∧ l[j]? = some e.o ∧ ms[j]? = some e.m ∧ e.k = kindOp e.o.op
  | [], _, _, _, h => by cases (show _ ∈ ([] : List Ent) from h)
  | o :: l, i, [], e, h => by cases (show _ ∈ ([] : List Ent) from h)
  | o :: l, i, m :: r, e, h => by
    rcases List.mem_cons.1 (show e ∈ (⟨i, o, m, kindOp o.op⟩ : Ent) :: ents l (i + 1) r from h) with rfl | h
    · exact ⟨0, rfl, rfl, rfl, rfl⟩
    · obtain ⟨j, h1, h2, h3, h4⟩ := ents_mem h
      exact ⟨j + 1, by omega, by simpa using h2, by simpa using h3, h4⟩
theorem orderN_mem : ∀ {n : Nat} {l : List Ent} {e : Ent}, e ∈ orderN n l → e ∈ l
  | 0, _, _, h => h
  | n + 1, l, e, h => by
    have h' : e ∈ oE (l.find? (fun e => Nat.beq e.k (nat_lit 2))) l (fun e => firsts e.m l ++ e :: orderN n (others e.m e.i l)) := h
    cases hf : l.find? (fun e => Nat.beq e.k (nat_lit 2)) with
    | none => rw [hf] at h'; exact h'
    | some x =>
      rw [hf, oE_some] at h'
      rcases List.mem_append.1 h' with h1 | h1
      · exact (List.mem_filter.1 h1).1
      · rcases List.mem_cons.1 h1 with rfl | h2
        · exact List.mem_of_find?_eq_some hf
        · exact (List.mem_filter.1 (orderN_mem h2)).1
theorem plan_mem {l : List Oper} {e : Ent} (h : e ∈ plan l) : l[e.i]? = some e.o ∧ (masks l [])[e.i]? = some e.m ∧ e.k = kindOp e.o.op := by
  obtain ⟨j, h1, h2, h3, h4⟩ := ents_mem (orderN_mem (show e ∈ orderN (len l) (ents l .zero (masks l [])) from h))
  have : e.i = j := by rw [h1]; exact Nat.zero_add j
  rw [this]
  exact ⟨h2, h3, h4⟩

/-! The evaluation of a region that draws, step by step. -/
structure Stp where
  on : Bool
  v : AV
  h : Tr AB
  c : Nat
  tl : List Nat
def StepAt (E : Env) (rec : Rec) (ops : List Oper) (e : Ent) (s s' : St) (x : Stp) : Prop :=
  (x.on = true ∧ wanted ops s e.o.guard = some true ∧ disp e.o.op E rec s = .ok x.v x.h x.c x.tl ∧ s' = putS s e.o.dst x.v x.h x.c x.tl) ∨
    (x.on = false ∧ wanted ops s e.o.guard = some false ∧ s' = skipS s e.o.dst)
def rcdOf (e : Ent) (s : St) (x : Stp) : Rcd := ⟨e.i, Nat.beq e.k (nat_lit 2), refsO s.t e.o.op.operands.toList, x.tl, s.c, x.c⟩
theorem compats_ok {m : Nat} {b : Rcd} : ∀ {l : List Rcd}, compats m b l = true → ∀ a ∈ l, bit m a.i = true ∨ compat a b = true
  | [], _, _, h => by simp at h
  | x :: l, h, a, ha => by
    have h' : bE (bit m x.i) (compats m b l) (bE (compat x b) (compats m b l) false) = true := h
    cases hb : bit m x.i with
    | true =>
      rw [hb, bE_true] at h'
      rcases List.mem_cons.1 ha with rfl | ha
      · exact .inl hb
      · exact compats_ok h' a ha
    | false =>
      rw [hb, bE_false] at h'
      cases hc : compat x b with
      | false => rw [hc] at h'; cases h'
      | true =>
        rw [hc, bE_true] at h'
        rcases List.mem_cons.1 ha with rfl | ha
        · exact .inr hc
        · exact compats_ok h' a ha
theorem recd_ok {e : Ent} {s : St} {x : Stp} {l l' : List Rcd} (h : recd e s x.c x.tl l = some l') :
    (e.k = 0 ∧ l' = l) ∨ (l' = rcdOf e s x :: l ∧ ∀ a ∈ l, bit e.m a.i = true ∨ compat a (rcdOf e s x) = true) := by
  have h' : bE (Nat.beq e.k .zero) (some l) (bE (compats e.m (rcdOf e s x) l) (some (rcdOf e s x :: l)) none) = some l' := h
  cases hk : Nat.beq e.k .zero with
  | true => rw [hk, bE_true] at h'; cases h'; exact .inl ⟨beq_true hk, rfl⟩
  | false =>
    rw [hk, bE_false] at h'
    obtain ⟨h1, h2⟩ := bE_none_eq h'
    cases h2
    exact .inr ⟨rfl, compats_ok h1⟩
theorem runD_trace {E : Env} {rec : Rec} {ops : List Oper} : ∀ {p : List Ent} {s s' : St} {l : List Rcd}, runD E rec ops p s l = some s' →
    ∃ (S : Nat → St) (T : Nat → Stp), S 0 = s ∧ S p.length = s' ∧ (∀ k e, p[k]? = some e → StepAt E rec ops e (S k) (S (k + 1)) (T k)) ∧
      (∀ k e, p[k]? = some e → (T k).on = true → e.k ≠ 0 → ∀ a ∈ l, bit e.m a.i = true ∨ compat a (rcdOf e (S k) (T k)) = true) ∧
      (∀ j k x y, j < k → p[j]? = some x → p[k]? = some y → (T j).on = true → (T k).on = true → x.k ≠ 0 → y.k ≠ 0 → bit y.m x.i = true ∨ compat (rcdOf x (S j) (T j)) (rcdOf y (S k) (T k)) = true)
  | [], s, s', l, h => by cases h; exact ⟨fun _ => s, fun _ => ⟨false, .any, .lf, 0, []⟩, rfl, rfl, by simp, by simp, by simp⟩
  | e :: p, s, s', l, h => by
    have build : ∀ (x : Stp) (s1 : St) (l1 : List Rcd), StepAt E rec ops e s s1 x → (x.on = true → recd e s x.c x.tl l = some l1) → (x.on = false → l1 = l) → runD E rec ops p s1 l1 = some s' →
        ∃ (S : Nat → St) (T : Nat → Stp), S 0 = s ∧ S (e :: p).length = s' ∧ (∀ k e', (e :: p)[k]? = some e' → StepAt E rec ops e' (S k) (S (k + 1)) (T k)) ∧
          (∀ k e', (e :: p)[k]? = some e' → (T k).on = true → e'.k ≠ 0 → ∀ a ∈ l, bit e'.m a.i = true ∨ compat a (rcdOf e' (S k) (T k)) = true) ∧
          (∀ j k y z, j < k → (e :: p)[j]? = some y → (e :: p)[k]? = some z → (T j).on = true → (T k).on = true → y.k ≠ 0 → z.k ≠ 0 → bit z.m y.i = true ∨ compat (rcdOf y (S j) (T j)) (rcdOf z (S k) (T k)) = true) := by
      intro x s1 l1 h1 h2 h3 h4
      obtain ⟨S, T, a1, a2, a3, a4, a5⟩ := runD_trace h4
      have sub : ∀ a ∈ l, a ∈ l1 := by
        intro a ha
        cases ho : x.on with
        | false => rw [h3 ho]; exact ha
        | true =>
          rcases recd_ok (x := x) (h2 ho) with ⟨_, rfl⟩ | ⟨rfl, _⟩
          · exact ha
          · exact List.mem_cons_of_mem _ ha
      refine ⟨fun k => match k with | 0 => s | k + 1 => S k, fun k => match k with | 0 => x | k + 1 => T k, rfl, a2, ?_, ?_, ?_⟩
      · intro k e' he
        cases k with
        | zero => simp at he; subst he; simpa [a1] using h1
        | succ k => exact a3 k e' (by simpa using he)
      · intro k e' he hon hk a ha
        cases k with
        | zero =>
          simp at he; subst he
          rcases recd_ok (x := x) (h2 hon) with ⟨h5, _⟩ | ⟨_, h5⟩
          · exact absurd h5 hk
          · exact h5 a ha
        | succ k => exact a4 k e' (by simpa using he) hon hk a (sub a ha)
      · intro j k y z hjk hy hz hoj hok hky hkz
        cases k with
        | zero => omega
        | succ k =>
          cases j with
          | zero =>
            simp at hy; subst hy
            rcases recd_ok (x := x) (h2 hoj) with ⟨h5, _⟩ | ⟨rfl, _⟩
            · exact absurd h5 hky
            · exact a4 k z (by simpa using hz) hok hkz _ (List.mem_cons_self ..)
          | succ j => exact a5 j k y z (by omega) (by simpa using hy) (by simpa using hz) hoj hok hky hkz
    rcases runD_cons h with ⟨hw, v, hh, c, tl, l', hd, hr, hrun⟩ | ⟨hw, hrun⟩
    · exact build ⟨true, v, hh, c, tl⟩ _ l' (.inl ⟨rfl, hw, hd, rfl⟩) (fun _ => hr) (fun h => by cases h) hrun
    · exact build ⟨false, .any, .lf, 0, []⟩ _ l (.inr ⟨rfl, hw, rfl⟩) (fun h => by cases h) (fun _ => rfl) hrun
end
end Go.Ab
namespace Go.Ab
open Go.RowKit (Below)

/-! What holds of the world besides (trees that no block of the evaluator's holds): it must bear every step. -/
abbrev Inv := Nat → Rho → Hp → World → Prop
def InvOK (I : Inv) : Prop := ∀ (B : Nat) (ρ : Rho) (G : Hp) (w : World) (ρ' : Rho) (G' : Hp) (w' : World), I B ρ G w → StepD ρ G w ρ' G' w' → I B ρ' G' w'
/-- one block turned, or none -/
def updG (G : Hp) : Option (Nat × AB) → Hp
  | none => G
  | some p => upF G p.1 (some p.2)
/-- The contracts: what a call of a function does, out of its arguments and of the heap: its result, the new names, one block that is turned. -/
def ConOK (P : Program) (con : Tr (Tr AB → Nat → List AV → Option (AV × Nat × Option (Nat × AB)))) (I : Inv) : Prop := ∀ f k, con.get f = some k → ∀ (h : Tr AB) (c : Nat) (args : List AV) (v : AV) (m : Nat) (o : Option (Nat × AB)), k h c args = some (v, m, o) →
  ∀ (B : Nat) (ρ : Rho) (G : Hp) (w : World) (xs : List Value), RVs ρ args xs → I B ρ G w → RH B ρ G w → B ≤ w.heap.size → (∀ n o, h.get n = some o → G n = some o) → (∀ n, c ≤ n → n < c + m → ρ n = none) →
    (∃ fn code, P.funcs[f]? = some fn ∧ fn.name ≠ "runtime.NumGoroutine" ∧ fn.body = some code) ∧
    Calls P f xs.toArray w fun e w' => ∃ u ρ', e = .returned u ∧ ρ.le ρ' ∧ (∀ n, (n < c ∨ c + m ≤ n) → ρ' n = ρ n) ∧ RV ρ' v u ∧ RH B ρ' (updG G o) w' ∧ Below B w w' ∧ I B ρ' (updG G o) w'
structure Ctx (P : Program) (E : Env) (I : Inv) : Prop where
  env : EnvOK P E
  inv : InvOK I
  con : ConOK P E.con I
/-- The state of the evaluator's frame and the state of the program's. -/
structure Rel (I : Inv) (B N : Nat) (ρ : Rho) (G : Hp) (s : St) (a : Act) (w : World) : Prop where
  tm : TM ρ s.t a
  hp : ∀ n o, s.h.get n = some o → G n = some o
  rh : RH B ρ G w
  sz : B ≤ w.heap.size
  wf : Wf s.h s.c
  bc : s.b ≤ s.c
  df : a.defers = []
  ts : N ≤ a.tmps.size
  inv : I B ρ G w
structure Ev (B : Nat) (s : St) (ρ : Rho) (G : Hp) (w : World) (s' : St) (ρ' : Rho) (G' : Hp) (w' : World) : Prop where
  le : ρ.le ρ'
  out : ∀ n, (n < s.c ∨ s'.c ≤ n) → ρ' n = ρ n
  off : ∀ n, (n < s.b ∧ n ∉ s'.wl) ∨ s'.c ≤ n → G' n = G n
  bel : Below B w w'
theorem Ev.refl (B : Nat) (s : St) (ρ : Rho) (G : Hp) (w : World) : Ev B s ρ G w s ρ G w := ⟨Rho.le_refl _, fun _ _ => rfl, fun _ _ => rfl, Below.refl _ _⟩
theorem Ev.trans {B : Nat} {a b c : St} {ρ ρ' ρ'' : Rho} {G G' G'' : Hp} {w w' w'' : World} (m : Mono a b) (n : Mono b c) (h : Ev B a ρ G w b ρ' G' w') (k : Ev B b ρ' G' w' c ρ'' G'' w'') :
    Ev B a ρ G w c ρ'' G'' w'' := by
  have h1 := m.cc; have h2 := n.cc; have h3 := m.bb
  refine ⟨Rho.le_trans h.le k.le, fun i hi => ?_, fun i hi => ?_, h.bel.trans k.bel⟩
  · rw [k.out i (by omega), h.out i (by omega)]
  · rw [k.off i (by rw [h3]; exact hi), h.off i ?_]
    rcases hi with ⟨h4, h5⟩ | h4
    · exact .inl ⟨h4, fun h6 => h5 (n.wl i h6)⟩
    · exact .inr (by omega)
def exitOf : Res → Exit
  | .normal => .normal
  | .exit id => .exit id
  | .ret => .ret
/-- The evaluator's answer for a piece of code holds of the program. -/
def RecS (P : Program) (I : Inv) (rec : Rec) : Prop := ∀ (code : Code) (s : St) (r : Res) (s' : St) (N : Nat), rec code s = some (r, s') → okCode N code = true →
  ∀ (B : Nat) (ρ : Rho) (G : Hp) (a : Act) (w : World) (Q : Exit → Act → World → Prop), Rel I B N ρ G s a w → (∀ n, s.c ≤ n → n < s'.c → ρ n = none) →
    (∀ ρ' G' a' w', Rel I B N ρ' G' s' a' w' → Ev B s ρ G w s' ρ' G' w' → Q (exitOf r) a' w') → code.wp P Q a w
def BodyOK (E : Env) : Prop := ∀ f g c, E.fn.get f = some g → g.body = some c → okCode g.ntmps c = true

section
variable {P : Program} {E : Env} {I : Inv} {B : Nat} {ρ : Rho} {G : Hp} {w : World}
theorem params_get : ∀ (l : List AV) (i : Nat) (t : Tr AV) (j : Nat), (params l i t).get j = if i ≤ j ∧ j < i + l.length then l[j - i]? else t.get j
  | [], i, t, j => by
    show t.get j = _
    rw [if_neg (by simp only [List.length_nil]; omega)]
  | v :: l, i, t, j => by
    have : params (v :: l) i t = params l (i + 1) (t.set i v) := by
      show Tr.tE (t.set i v) .lf (fun a b c => params l (i + 1) (.nd a b c)) = _
      cases h : t.set i v with
      | lf =>
        exfalso
        have := Tr.get_set t i v i
        rw [h, if_pos rfl] at this
        cases this
      | nd a b c => rfl
    rw [this, params_get l (i + 1) (t.set i v) j, Tr.get_set]
    by_cases h : j = i
    · subst h
      rw [if_neg (by omega), if_pos rfl, if_pos (by simp)]
      simp
    · rw [if_neg h]
      by_cases h2 : i + 1 ≤ j ∧ j < i + 1 + l.length
      · rw [if_pos h2, if_pos (by simp; omega), show j - i = (j - (i + 1)) + 1 by omega, List.getElem?_cons_succ]
      · rw [if_neg h2, if_neg (by simp; omega)]
theorem params_tm {l : List AV} {xs : List Value} {n : Nat} (h : RVs ρ l xs) : TM ρ (params l 0 .lf) { tmps := xs.toArray ++ Array.replicate n undef, defers := [] } := by
  intro i v e
  rw [params_get] at e
  have hl := h.length
  by_cases hi : 0 ≤ i ∧ i < 0 + l.length
  · rw [if_pos hi] at e
    obtain ⟨u, hu, hr⟩ := h.get i (by simpa using e)
    refine ⟨u, ?_, hr⟩
    rw [Array.getElem?_append_left (by simp; omega)]
    simpa using hu
  · rw [if_neg hi] at e; simp at e
theorem resVs_ok (hE : EnvOK P E) {s : St} {a : Act} (tm : TM ρ s.t a) (hp : ∀ n o, s.h.get n = some o → G n = some o) (rh : RH B ρ G w) : ∀ {l : List ResultVar} {vs : List AV}, resVs E s l = some vs →
    ∃ us, RVs ρ vs us ∧ (l.mapM fun (x : ResultVar) => match x with | .tmp t => (Pure.pure (a.tmps.getD t undef) : Sem Value) | .cell q t => do loadVar t (← asAddr (a.tmps.getD q undef))).run P w = .ok us w
  | [], _, e => by cases e; exact ⟨[], .nil, rfl⟩
  | x :: l, vs, e => by
    obtain ⟨v, hv, e1⟩ := oE_none_eq (show oE (resV E s x) none (fun v => oE (resVs E s l) none (fun r => some (v :: r))) = some vs from e)
    obtain ⟨r, hr, e2⟩ := oE_none_eq e1
    cases e2
    obtain ⟨us, h1, h2⟩ := resVs_ok hE tm hp rh hr
    have one : ∃ u, RV ρ v u ∧ (match x with | .tmp t => (Pure.pure (a.tmps.getD t undef) : Sem Value) | .cell q t => do loadVar t (← asAddr (a.tmps.getD q undef))).run P w = .ok u w := by
      cases x with
      | tmp t =>
        obtain ⟨u, hu, hru⟩ := tm t v hv
        exact ⟨u, hru, by simp [hu]⟩
      | cell q t =>
        obtain ⟨p, hpq, e3⟩ := oE_none_eq (show oE (s.t.get q) none (load E s.h t) = some v from hv)
        obtain ⟨u, hu, hru⟩ := tm q p hpq
        obtain ⟨u', h3, h4⟩ := load_ok (P := P) hE rh hru e3 (fun n _ b hb => hp n b hb)
        refine ⟨u', h4, ?_⟩
        unfold load at e3
        obtain ⟨⟨n, o⟩, hpo, _⟩ := oE_none_eq e3
        obtain rfl := asPtr_eq hpo
        cases hru with
        | ptr n o L hL =>
          have : (a.tmps.getD q undef) = .pointer (some (L.adr o)) := by simp [hu]
          simp only [this, Go.asAddr, Sem.run_bind, Sem.run_pure, Result.andThen_ok]
          simpa [Instr.loadAt, Instr.sureAddr] using h3
    obtain ⟨u, h3, h4⟩ := one
    refine ⟨u :: us, .cons h3 h1, ?_⟩
    rw [List.mapM_cons]
    simp only [Sem.run_bind, h4, h2, Result.andThen_ok, Sem.run_pure]
theorem one_ok {vs : List AV} {us : List Value} (h : RVs ρ vs us) : RV ρ (one vs) (if h : us.toArray.size = 1 then us.toArray[0] else .tuple us.toArray) := by
  cases h with
  | nil => exact .tup [] _ .nil
  | cons h1 h2 =>
    cases h2 with
    | nil => exact h1
    | cons h2 h3 => exact .tup _ _ (.cons h1 (.cons h2 h3))
theorem results_ok (hE : EnvOK P E) {s : St} {a : Act} (tm : TM ρ s.t a) (hp : ∀ n o, s.h.get n = some o → G n = some o) (rh : RH B ρ G w) {fn : Func} {vs : List AV} (e : resVs E s fn.results.toList = some vs) :
    ∃ u, (results fn a.tmps).run P w = .ok u w ∧ RV ρ (one vs) u := by
  obtain ⟨us, h1, h2⟩ := resVs_ok hE tm hp rh e
  refine ⟨_, ?_, one_ok h1⟩
  unfold results
  rw [Array.mapM_eq_mapM_toList]
  simp only [Sem.run_bind, Sem.run_map]
  erw [h2]
  rfl

/-- A function entered. -/
theorem enter_ok (hE : Ctx P E I) (hb : BodyOK E) {rec : Rec} (hm : RecM rec) (hr : RecS P I rec) {s : St} {f : Nat} {fn : Func} {code : Code} {args : List AV} {xs : List Value} {v : AV} {h : Tr AB} {c : Nat} {tl : List Nat}
    (hf : E.fn.get f = some fn) (hbody : fn.body = some code) (e : enter E rec s args fn code = .ok v h c tl) (hx : RVs ρ args xs) (rh : RH B ρ G w) (inv : I B ρ G w) (hB : B ≤ w.heap.size) (wf : Wf s.h s.c)
    (fr : ∀ n, s.c ≤ n → n < c → ρ n = none) (hp : ∀ n o, s.h.get n = some o → G n = some o) {R : Ending → World → Prop}
    (hR : ∀ u ρ' G' w', Aft B ρ G w s v h c tl u ρ' G' w' → I B ρ' G' w' → R (.returned u) w') : Calls P f xs.toArray w R := by
  obtain ⟨hpf, hname⟩ := hE.env.fn f fn hf
  have e0 : runF E rec fn s.h s.c code (params args .zero .lf) = .ok v h c tl := by rw [← e, show enter E rec s args fn code = forceT (params args .zero .lf) (runF E rec fn s.h s.c code) from rfl, forceT_eq]
  obtain ⟨⟨r, s'⟩, h1, h2⟩ := oE_no_eq (show oE (rec code ⟨params args .zero .lf, s.h, s.c, s.c, []⟩) .no (endF E fn) = .ok v h c tl from e0)
  have key : (r = .normal ∨ r = .ret) ∧ endV E fn s' = .ok v h c tl := by
    cases r with
    | normal => exact ⟨.inl rfl, h2⟩
    | ret => exact ⟨.inr rfl, h2⟩
    | exit id => cases h2
  obtain ⟨vs, hvs, h3⟩ := oE_no_eq (show oE (resVs E s' fn.results.toList) .no (fun l => back (one l) s') = .ok v h c tl from key.2)
  rw [show back (one vs) s' = out (one vs) s'.h s'.c s'.wl from rfl, out_eq] at h3
  cases h3
  have mono := hm _ _ _ _ h1
  refine calls_of_wp hpf hbody (hr code _ r s' fn.ntmps h1 (hb f fn code hf hbody) B ρ G _ w _ ⟨params_tm hx, hp, rh, hB, wf, Nat.le_refl _, rfl, by simp; omega, inv⟩ fr fun ρ' G' a' w' hrel hev => ?_)
  obtain ⟨u, h4, h5⟩ := results_ok (P := P) (w := w') hE.env hrel.tm hrel.hp hrel.rh hvs
  have hpost : a'.defers = [] ∧ ∃ v, (results fn a'.tmps).run P w' = .ok v w' ∧ R (.returned v) w' := by
    refine ⟨hrel.df, u, h4, hR u ρ' G' w' ⟨mono.cc, hev.le, hev.out, h5, hrel.rh, fun n hn hc => hev.off n ?_, fun n o _ hg => hrel.hp n o hg, fun n hn hc => ?_, hev.bel⟩ hrel.inv⟩
    · rcases hc with hc | hc
      · exact .inl ⟨hc, hn⟩
      · exact .inr hc
    · rcases hc with hc | hc
      · exact mono.kp (Nat.le_refl _) n hc hn
      · rw [hrel.wf n hc, wf n (Nat.le_trans mono.cc hc)]
  rcases key.1 with rfl | rfl
  · exact hpost
  · exact hpost

theorem run_callFunc_enter {f : FuncId} {fn : Func} {code : Code} {args : Array Value} (hf : P.funcs[f]? = some fn) (hn : fn.name ≠ "runtime.NumGoroutine") (hb : fn.body = some code) :
    (callFunc f args).run P w = .ok (.enter f args) w := by
  unfold callFunc
  simp [hf, hb, hn]
/-- One operation. -/
theorem op_wp (hE : Ctx P E I) (hb : BodyOK E) {rec : Rec} (hm : RecM rec) (hr : RecS P I rec) {s : St} {a : Act} {o : Oper} {v : AV} {h : Tr AB} {c : Nat} {tl : List Nat}
    (e : disp o.op E rec s = .ok v h c tl) (rh : RH B ρ G w) (inv : I B ρ G w) (hB : B ≤ w.heap.size) (wf : Wf s.h s.c) (tm : TO ρ s.t a o.op.operands.toList) (fr : ∀ n, s.c ≤ n → n < c → ρ n = none)
    (hp1 : kindOp o.op = 1 → ∀ n ∈ refsO s.t o.op.operands.toList, ∀ b, s.h.get n = some b → G n = some b) (hp2 : kindOp o.op = 2 → ∀ n b, s.h.get n = some b → G n = some b)
    {K : Act → World → Prop} {Q : Exit → Act → World → Prop} (hK : ∀ u ρ' G' w', Aft B ρ G w s v h c tl u ρ' G' w' → I B ρ' G' w' → K (a.put o.dst u) w') : o.wp P a w K Q := by
  by_cases hk : kindOp o.op = 2
  · obtain ⟨dst, op, type, pos, after, guard⟩ := o
    simp only at e hk tm hp2
    replace hp2 := hp2 hk
    cases op with
    | call cl =>
      obtain ⟨callee, args, argTypes⟩ := cl
      cases callee with
      | builtin b => cases hk
      | invoke x n => cases e
      | value x =>
        obtain ⟨fv, hfv, e1⟩ := oE_no_eq (show oE (ev s.t x) .no (fun v => oE (evs s.t args.toList) .no (fun l => callV E rec s l v)) = .ok v h c tl from e)
        obtain ⟨l, hl, e2⟩ := oE_no_eq e1
        obtain ⟨⟨f, first, cap⟩, hfn, e3⟩ := oE_no_eq (show oE (asFn fv) .no (fun p => pE p (fun f p => pE p (fun first cap => callF E rec s f (first ++ (l ++ cap))))) = .ok v h c tl from e2)
        rw [pE_mk, pE_mk] at e3
        obtain rfl := asFn_eq hfn
        have hx := tm x (by simp [Op.operands, Call.operands]) _ hfv
        have hargs := (tm.sub (m := args.toList) fun y hy => by simp [Op.operands, Call.operands]; exact .inr (by simpa using hy)).evs hl
        generalize hX : a.eval x = X at hx
        cases hx with
        | fn f _ _ xf xc hxf hxc =>
          have hres : (execOp a.eval { dst, op := .call { callee := .value x, args, argTypes }, type, pos, after, guard }).run P w = (callFunc f (xf ++ args.map a.eval ++ xc)).run P w := by
            simp only [execOp, resolve, hX, Deferred.ofValue, Sem.run_bind, Sem.run_pure, Result.andThen_ok, invoke]
          have hall : RVs ρ (first ++ (l ++ cap)) (xf ++ args.map a.eval ++ xc).toList := by
            have := hxf.append (hargs.append hxc)
            simpa using this
          unfold Oper.wp
          rw [hres]
          unfold Go.Ab.callF at e3
          cases hext : E.ext.get f with
          | some k =>
            rw [hext, oE_some] at e3
            obtain ⟨e4, rfl, rfl, rfl⟩ := pureO_eq e3
            obtain ⟨u, hu1, hu2⟩ := hE.env.ext f k hext ρ _ v _ e4 hall
            have := hu2 w
            simp only [Array.toArray_toList] at this
            rw [this, Oper.upon_value]
            exact hK u ρ G w (AftO.pure rh hu1).toAft inv
          | none =>
            rw [hext, oE_none] at e3
            cases hcon : E.con.get f with
            | some k =>
              rw [hcon, oE_some] at e3
              obtain ⟨⟨v1, m, o⟩, hk1, e4⟩ := oE_no_eq e3
              have e5 : fN (Nat.add s.c m) (fun c => oE o (Out.ok v1 s.h c []) (fun p => pE p fun n b => oE (s.h.get n) .no (fun _ => out v1 (s.h.set n b) c [n]))) = .ok v h c tl := e4
              rw [fN_eq] at e5
              have hsh : c = s.c + m ∧ v = v1 ∧ ((o = none ∧ h = s.h ∧ tl = []) ∨ ∃ n b x, o = some (n, b) ∧ s.h.get n = some x ∧ h = s.h.set n b ∧ tl = [n]) := by
                cases o with
                | none => cases (show Out.ok v1 s.h (Nat.add s.c m) [] = .ok v h c tl from e5); exact ⟨rfl, rfl, .inl ⟨rfl, rfl, rfl⟩⟩
                | some p =>
                  obtain ⟨n, b⟩ := p
                  obtain ⟨x, hx, e2⟩ := oE_no_eq (show oE (s.h.get n) .no (fun _ => out v1 (s.h.set n b) (Nat.add s.c m) [n]) = .ok v h c tl from e5)
                  rw [out_eq] at e2
                  cases e2
                  exact ⟨rfl, rfl, .inr ⟨n, b, x, rfl, hx, rfl, rfl⟩⟩
              obtain ⟨rfl, rfl, hsh⟩ := hsh
              obtain ⟨⟨fn, code, hpf, hname, hbody⟩, hc⟩ := hE.con f k hcon _ _ _ _ m o hk1 B ρ G w _ hall inv rh hB hp2 fr
              rw [Array.toArray_toList] at hc
              rw [run_callFunc_enter hpf hname hbody, Oper.upon_enter]
              refine Calls.mono hc fun e w'' he => ?_
              obtain ⟨u, ρ', rfl, hle, hout, hu, hrh, hbel, hinv⟩ := he
              rcases hsh with ⟨rfl, rfl, rfl⟩ | ⟨n, b, y, rfl, hx, rfl, rfl⟩
              · refine hK u ρ' G w'' ⟨Nat.le_add_right _ _, hle, hout, hu, hrh, fun _ _ _ => rfl, fun n o hn hg => ?_, fun _ _ _ => rfl, hbel⟩ hinv
                rcases hn with hn | hn
                · simp at hn
                · rw [wf n hn.1] at hg; cases hg
              · refine hK u ρ' (upF G n (some b)) w'' ⟨Nat.le_add_right _ _, hle, hout, hu, hrh, fun k hk _ => upF_other _ _ _ (by simpa using hk), fun k o hk hg => ?_, fun k hk _ => by rw [Tr.get_set, if_neg (by simpa using hk)], hbel⟩ hinv
                rw [Tr.get_set] at hg
                by_cases hkn : k = n
                · rw [if_pos hkn] at hg; cases hg; subst hkn; exact upF_same _ _ _
                · rw [if_neg hkn] at hg
                  rcases hk with hk | hk
                  · exact absurd (by simpa using hk) hkn
                  · rw [wf k hk.1] at hg; cases hg
            | none =>
            rw [hcon, oE_none] at e3
            obtain ⟨fn, hf, e4⟩ := oE_no_eq e3
            obtain ⟨code, hbody, e5⟩ := oE_no_eq e4
            obtain ⟨hpf, hname⟩ := hE.env.fn f fn hf
            rw [run_callFunc_enter hpf hname hbody, Oper.upon_enter]
            have := enter_ok (P := P) hE hb hm hr hf hbody e5 hall rh inv hB wf fr hp2 (R := fun
              | .returned v, w'' => K (a.put dst v) w''
              | .panicked chain, w'' => Q (.panic chain) a w''
              | .outgrown, _ => LetsOut Q) (fun u ρ' G' w' haft hinv => hK u ρ' G' w' haft hinv)
            rw [Array.toArray_toList] at this
            exact Calls.mono this fun e w'' he => by cases e <;> exact he
    | _ => cases hk
  · obtain ⟨u, nx, w', ρ', G', h1, h2, h3⟩ := disp_ok (P := P) hE.env rh hB o tm hk e fr hp1
    unfold Oper.wp
    rw [h1]
    rcases h2 with rfl | ⟨rfl, rfl⟩
    · rw [Oper.upon_value]; exact hK u ρ' G' w' h3.toAft (hE.inv _ _ _ _ _ _ _ inv h3.st)
    · rw [Oper.upon_skip]; exact hK _ ρ' G' w' h3.toAft (hE.inv _ _ _ _ _ _ _ inv h3.st)
end
end Go.Ab
namespace Go.Ab
open Go.RowKit (Below)
section
variable {P : Program} {E : Env} {I : Inv} {B N : Nat} {ρ : Rho} {G : Hp} {w : World}

theorem wanted_ok {ops : Array Oper} {s : St} {a : Act} {o : Oper} {b : Bool} (e : wanted ops.toList s o.guard = some b)
    (tm : ∀ d v, d ∈ o.looksAt ops → s.t.get d = some v → ∃ u, a.tmps[d]? = some u ∧ RV ρ v u) : Region.wanted o (yielded ops a.tmps) = b := by
  unfold Region.wanted
  cases hg : o.guard with
  | none => rw [hg] at e; cases e; rfl
  | some g =>
    obtain ⟨j, want⟩ := g
    rw [hg] at e
    obtain ⟨oj, hoj, e1⟩ := oE_none_eq (show oE (nth ops.toList j) none (fun oj => oE oj.dst none (fun d => oE (s.t.get d) none (wantV want))) = some b from e)
    obtain ⟨d, hd, e2⟩ := oE_none_eq e1
    obtain ⟨v, hv, e3⟩ := oE_none_eq e2
    rw [nth_eq, Array.getElem?_toList] at hoj
    obtain ⟨u, hu, hr⟩ := tm d v (by simp [Oper.looksAt, hg, hoj, hd]) hv
    simp only [yielded, hoj, Option.bind_some, hd, hu]
    unfold wantV at e3
    cases hb : asBool v with
    | some q =>
      rw [hb, oE_some] at e3
      obtain rfl := asBool_eq hb
      cases hr
      cases e3
      rw [beqB_eq]
      simp
    | none =>
      rw [hb, oE_none] at e3
      obtain ⟨l, hl, e4⟩ := oE_none_eq e3
      cases e4
      obtain rfl := asTup_eq hl
      cases hr
      simp
theorem TM.put {s : St} {a : Act} {dst : Option Tmp} {v : AV} {u : Value} (h : TM ρ s.t a) (hv : RV ρ v u) (hd : ∀ d, dst = some d → d < a.tmps.size) :
    TM ρ (setD s.t dst v) (a.put dst u) := by
  cases dst with
  | none => exact h
  | some d =>
    intro i x e
    rw [show setD s.t (some d) v = s.t.set d v from rfl, Tr.get_set] at e
    show ∃ u', (a.tmps.setIfInBounds d u)[i]? = some u' ∧ RV ρ x u'
    by_cases hi : i = d
    · rw [if_pos hi] at e; cases e
      subst hi
      exact ⟨u, by simp [hd i rfl], hv⟩
    · rw [if_neg hi] at e
      obtain ⟨u', h1, h2⟩ := h i x e
      exact ⟨u', by rw [Array.getElem?_setIfInBounds_ne (Ne.symm hi)]; exact h1, h2⟩
theorem put_size (a : Act) (dst : Option Tmp) (u : Value) : (a.put dst u).tmps.size = a.tmps.size := by cases dst <;> simp [Act.put]
theorem put_df (a : Act) (dst : Option Tmp) (u : Value) : (a.put dst u).defers = a.defers := by cases dst <;> rfl
theorem dstOK_ok {o : Oper} (h : dstOK N o = true) : ∀ d, o.dst = some d → d < N := by
  intro d hd
  unfold dstOK at h
  rw [hd] at h
  exact ble_true h
theorem Rel.put {s : St} {a : Act} (R : Rel I B N ρ G s a w) {o : Oper} (hd : dstOK N o = true) {r : Out} (g : Gr s r) {v : AV} {h : Tr AB} {c : Nat} {tl : List Nat} (e : r = .ok v h c tl) {u : Value} {ρ' : Rho} {G' : Hp} {w' : World}
    (A : Aft B ρ G w s v h c tl u ρ' G' w') (inv : I B ρ' G' w') : Rel I B N ρ' G' (putS s o.dst v h c tl) (a.put o.dst u) w' ∧ Ev B s ρ G w (putS s o.dst v h c tl) ρ' G' w' := by
  obtain ⟨g1, g2, g3, g4⟩ := g v h c tl e
  have hbc := R.bc
  rw [putS_eq]
  refine ⟨⟨?_, fun n x hx => ?_, A.rh, Nat.le_trans R.sz A.bel.size, g3 R.wf, Nat.le_trans R.bc g1, by rw [put_df]; exact R.df, by rw [put_size]; exact R.ts, inv⟩, A.le, A.out, fun n hn => ?_, A.bel⟩
  · exact (R.tm.mono A.le).put A.rv fun d h => Nat.lt_of_lt_of_le (dstOK_ok hd d h) R.ts
  · by_cases ht : n ∈ tl
    · exact A.on n x (.inl ht) hx
    · by_cases hc : s.c ≤ n ∧ n < c
      · exact A.on n x (.inr hc) hx
      · rw [A.off n ht (by omega)]
        exact R.hp n x (by rw [← A.kp n ht (by omega)]; exact hx)
  · simp only at hn
    rcases hn with ⟨h1, h2⟩ | h1
    · exact A.off n (fun h3 => h2 (mem_notesL.2 (.inr ⟨h3, h1⟩))) (.inl (by omega))
    · refine A.off n (fun h3 => ?_) (.inr h1)
      obtain ⟨x, hx⟩ := g4 n h3
      rw [R.wf n (by omega)] at hx; cases hx
theorem Rel.skip {s : St} {a : Act} (R : Rel I B N ρ G s a w) {o : Oper} (hd : dstOK N o = true) : Rel I B N ρ G (skipS s o.dst) (a.put o.dst undef) w ∧ Ev B s ρ G w (skipS s o.dst) ρ G w := by
  rw [skipS_eq]
  refine ⟨⟨?_, R.hp, R.rh, R.sz, R.wf, R.bc, by rw [put_df]; exact R.df, by rw [put_size]; exact R.ts, R.inv⟩, Rho.le_refl _, fun _ _ => rfl, fun _ _ => rfl, Below.refl _ _⟩
  exact R.tm.put (.tup [] #[] .nil) fun d h => Nat.lt_of_lt_of_le (dstOK_ok hd d h) R.ts

/-- A region in the order of its text. -/
theorem runOps_ok (hE : Ctx P E I) (hb : BodyOK E) {rec : Rec} (hm : RecM rec) (hr : RecS P I rec) {ops : Array Oper} {Q : Exit → Act → World → Prop} : ∀ (l : List Nat) (lo : List Oper) {s s' : St} {a : Act} {w : World} {ρ : Rho} {G : Hp},
    lo.length = l.length → (∀ (k i : Nat), l[k]? = some i → ops[i]? = lo[k]?) → lo.all (dstOK N) = true → runOps E rec ops.toList lo s = some s' → Rel I B N ρ G s a w → (∀ n, s.c ≤ n → n < s'.c → ρ n = none) →
    (∀ ρ' G' a' w', Rel I B N ρ' G' s' a' w' → Ev B s ρ G w s' ρ' G' w' → Q .normal a' w') → wpOps P ops Q l a w
  | [], [], s, s', a, w, ρ, G, _, _, _, e, R, _, hQ => by
    cases e
    exact hQ ρ G a w R (Ev.refl ..)
  | [], _ :: _, _, _, _, _, _, _, h, _, _, _, _, _, _ => by simp at h
  | _ :: _, [], _, _, _, _, _, _, h, _, _, _, _, _, _ => by simp at h
  | i :: l, o :: lo, s, s', a, w, ρ, G, hlen, hl, hd, e, R, fr, hQ => by
    obtain ⟨s1, h1, h2⟩ := oE_none_eq (show oE (stepOp E rec ops.toList s o) none (forceS (runOps E rec ops.toList lo)) = some s' from e)
    rw [forceS_eq] at h2
    have hi : ops[i]? = some o := by simpa using hl 0 i rfl
    have hl' : ∀ (k j : Nat), l[k]? = some j → ops[j]? = lo[k]? := fun k j h => by simpa using hl (k + 1) j (by simpa using h)
    rw [List.all_cons, Bool.and_eq_true] at hd
    have m1 := Mono.stepOp hm h1
    have m2 := Mono.runOps hm h2
    have hnext : ∀ ρ' G' a' w', Rel I B N ρ' G' s1 a' w' → Ev B s ρ G w s1 ρ' G' w' → wpOps P ops Q l a' w' := fun ρ' G' a' w' R' ev =>
      runOps_ok hE hb hm hr l lo (by simpa using hlen) hl' hd.2 h2 R' (fun n h3 h4 => by
        have := m1.cc
        rw [ev.out n (.inr h3)]; exact fr n (by omega) h4) fun ρ'' G'' a'' w'' R'' ev' => hQ ρ'' G'' a'' w'' R'' (ev.trans m1 m2 ev')
    have htm : ∀ d v, d ∈ o.looksAt ops → s.t.get d = some v → ∃ u, a.tmps[d]? = some u ∧ RV ρ v u := fun d v _ h => R.tm d v h
    simp only [wpOps, hi]
    rcases stepOp_eq h1 with ⟨hw, v, hh, c, tl, hdi, rfl⟩ | ⟨hw, rfl⟩
    · rw [if_pos (wanted_ok hw htm)]
      rw [putS_eq] at m2
      refine .inl (op_wp hE hb hm hr hdi R.rh R.inv R.sz R.wf (R.tm.to _) (fun n h3 h4 => fr n h3 ?_) (fun _ n _ b h => R.hp n b h) (fun _ n b h => R.hp n b h) fun u ρ' G' w' A inv => ?_)
      · exact Nat.lt_of_lt_of_le h4 m2.cc
      · obtain ⟨R', ev⟩ := R.put hd.1 (Gr.all hm s o.op) hdi A inv
        exact hnext ρ' G' _ w' R' ev
    · rw [if_neg (by rw [wanted_ok hw htm]; simp)]
      obtain ⟨R', ev⟩ := R.skip hd.1
      exact hnext ρ G _ w R' ev
end
end Go.Ab
