/- A part of an evaluator of the program's operations over values that are known whole or in part, and of the proof that what it answers holds of the program's run. No condition. -/
import Derived.Test.YtlegocibpfflnaaGreatDoorS19
namespace Go.Ab
open Go.RowKit (Below)

/-- The state of the evaluator's frame and the state of the program's. -/
structure Rel (B N : Nat) (ρ : Rho) (G : Hp) (s : St) (a : Act) (w : World) : Prop where
  tm : TM ρ s.t a
  hp : ∀ n o, s.h.get n = some o → G n = some o
  rh : RH B ρ G w
  sz : B ≤ w.heap.size
  wf : Wf s.h s.c
  bc : s.b ≤ s.c
  df : a.defers = []
  ts : N ≤ a.tmps.size
structure Ev (B : Nat) (s : St) (ρ : Rho) (G : Hp) (w : World) (s' : St) (ρ' : Rho) (G' : Hp) (w' : World) : Prop where
  le : ρ.le ρ'
  out : ∀ n, (n < s.c ∨ s'.c ≤ n) → ρ' n = ρ n
  off : ∀ n, (n < s.b ∧ n ∉ s'.wl) ∨ s'.c ≤ n → G' n = G n
  bel : Below B w w'
theorem Ev.refl (B : Nat) (s : St) (ρ : Rho) (G : Hp) (w : World) : Ev B s ρ G w s ρ G w := ⟨Rho.le_refl _, fun _ _ => rfl, fun _ _ => rfl, Below.refl _ _⟩
theorem Ev.trans {B : Nat} {a b c : St} {ρ ρ' ρ'' : Rho} {G G' G'' : Hp} {w w' w'' : World} (m : Mono a b) (n : Mono b c) (h : Ev B a ρ G w b ρ' G' w') (k : Ev B b ρ' G' w' c ρ'' G'' w'') :
    Ev B a ρ G w c ρ'' G'' w'' := by
  have h1 := m.cc; have h2 := n.cc; have h3 := m.bb
  refine ⟨Rho.le_trans h.le k.le, fun i hi => ?_, fun i hi => ?_, h.bel.trans k.bel⟩
  · rw [k.out i (by omega), h.out i (by omega)]
  · rw [k.off i (by rw [h3]; exact hi), h.off i ?_]
    rcases hi with ⟨h4, h5⟩ | h4
    · exact .inl ⟨h4, fun h6 => h5 (n.wl i h6)⟩
    · exact .inr (by omega)
def exitOf : Res → Exit
  | .normal => .normal
  | .exit id => .exit id
  | .ret => .ret
/-- The evaluator's answer for a piece of code holds of the program. -/
def RecS (P : Program) (rec : Rec) : Prop := ∀ (code : Code) (s : St) (r : Res) (s' : St) (N : Nat), rec code s = some (r, s') → okCode N code = true →
  ∀ (B : Nat) (ρ : Rho) (G : Hp) (a : Act) (w : World) (Q : Exit → Act → World → Prop), Rel B N ρ G s a w → (∀ n, s.c ≤ n → n < s'.c → ρ n = none) →
    (∀ ρ' G' a' w', Rel B N ρ' G' s' a' w' → Ev B s ρ G w s' ρ' G' w' → Q (exitOf r) a' w') → code.wp P Q a w
def BodyOK (E : Env) : Prop := ∀ f g c, E.fn.get f = some g → g.body = some c → okCode g.ntmps c = true

section
variable {P : Program} {E : Env} {B : Nat} {ρ : Rho} {G : Hp} {w : World}
theorem params_get : ∀ (l : List AV) (i : Nat) (t : Tr AV) (j : Nat), (params l i t).get j = if i ≤ j ∧ j < i + l.length then l[j - i]? else t.get j
  | [], i, t, j => by
    show t.get j = _
    rw [if_neg (by simp only [List.length_nil]; omega)]
  | v :: l, i, t, j => by
    have : params (v :: l) i t = params l (i + 1) (t.set i v) := by
      show Tr.tE (t.set i v) .lf (fun a b c => params l (i + 1) (.nd a b c)) = _
      cases h : t.set i v with
      | lf =>
        exfalso
        have := Tr.get_set t i v i
        rw [h, if_pos rfl] at this
        cases this
      | nd a b c => rfl
    rw [this, params_get l (i + 1) (t.set i v) j, Tr.get_set]
    by_cases h : j = i
    · subst h
      rw [if_neg (by omega), if_pos rfl, if_pos (by simp)]
      simp
    · rw [if_neg h]
      by_cases h2 : i + 1 ≤ j ∧ j < i + 1 + l.length
      · rw [if_pos h2, if_pos (by simp; omega), show j - i = (j - (i + 1)) + 1 by omega, List.getElem?_cons_succ]
      · rw [if_neg h2, if_neg (by simp; omega)]
theorem params_tm {l : List AV} {xs : List Value} {n : Nat} (h : RVs ρ l xs) : TM ρ (params l 0 .lf) { tmps := xs.toArray ++ Array.replicate n undef, defers := [] } := by
  intro i v e
  rw [params_get] at e
  have hl := h.length
  by_cases hi : 0 ≤ i ∧ i < 0 + l.length
  · rw [if_pos hi] at e
    obtain ⟨u, hu, hr⟩ := h.get i (by simpa using e)
    refine ⟨u, ?_, hr⟩
    rw [Array.getElem?_append_left (by simp; omega)]
    simpa using hu
  · rw [if_neg hi] at e; simp at e
theorem resVs_ok (hE : EnvOK P E) {s : St} {a : Act} (tm : TM ρ s.t a) (hp : ∀ n o, s.h.get n = some o → G n = some o) (rh : RH B ρ G w) : ∀ {l : List ResultVar} {vs : List AV}, resVs E s l = some vs →
    ∃ us, RVs ρ vs us ∧ (l.mapM fun (x : ResultVar) => match x with | .tmp t => (Pure.pure (a.tmps.getD t undef) : Sem Value) | .cell q t => do loadVar t (← asAddr (a.tmps.getD q undef))).run P w = .ok us w
  | [], _, e => by cases e; exact ⟨[], .nil, rfl⟩
  | x :: l, vs, e => by
    obtain ⟨v, hv, e1⟩ := oE_none_eq (show oE (resV E s x) none (fun v => oE (resVs E s l) none (fun r => some (v :: r))) = some vs from e)
    obtain ⟨r, hr, e2⟩ := oE_none_eq e1
    cases e2
    obtain ⟨us, h1, h2⟩ := resVs_ok hE tm hp rh hr
    have one : ∃ u, RV ρ v u ∧ (match x with | .tmp t => (Pure.pure (a.tmps.getD t undef) : Sem Value) | .cell q t => do loadVar t (← asAddr (a.tmps.getD q undef))).run P w = .ok u w := by
      cases x with
      | tmp t =>
        obtain ⟨u, hu, hru⟩ := tm t v hv
        exact ⟨u, hru, by simp [hu]⟩
      | cell q t =>
        obtain ⟨p, hpq, e3⟩ := oE_none_eq (show oE (s.t.get q) none (load E s.h t) = some v from hv)
        obtain ⟨u, hu, hru⟩ := tm q p hpq
        obtain ⟨u', h3, h4⟩ := load_ok (P := P) hE rh hru e3 (fun n _ b hb => hp n b hb)
        refine ⟨u', h4, ?_⟩
        unfold load at e3
        obtain ⟨⟨n, o⟩, hpo, _⟩ := oE_none_eq e3
        obtain rfl := asPtr_eq hpo
        cases hru with
        | ptr n o L hL =>
          have : (a.tmps.getD q undef) = .pointer (some (L.adr o)) := by simp [hu]
          simp only [this, Go.asAddr, Sem.run_bind, Sem.run_pure, Result.andThen_ok]
          simpa [Instr.loadAt, Instr.sureAddr] using h3
    obtain ⟨u, h3, h4⟩ := one
    refine ⟨u :: us, .cons h3 h1, ?_⟩
    rw [List.mapM_cons]
    simp only [Sem.run_bind, h4, h2, Result.andThen_ok, Sem.run_pure]
theorem one_ok {vs : List AV} {us : List Value} (h : RVs ρ vs us) : RV ρ (one vs) (if h : us.toArray.size = 1 then us.toArray[0] else .tuple us.toArray) := by
  cases h with
  | nil => exact .tup [] _ .nil
  | cons h1 h2 =>
    cases h2 with
    | nil => exact h1
    | cons h2 h3 => exact .tup _ _ (.cons h1 (.cons h2 h3))
theorem results_ok (hE : EnvOK P E) {s : St} {a : Act} (tm : TM ρ s.t a) (hp : ∀ n o, s.h.get n = some o → G n = some o) (rh : RH B ρ G w) {fn : Func} {vs : List AV} (e : resVs E s fn.results.toList = some vs) :
    ∃ u, (results fn a.tmps).run P w = .ok u w ∧ RV ρ (one vs) u := by
  obtain ⟨us, h1, h2⟩ := resVs_ok hE tm hp rh e
  refine ⟨_, ?_, one_ok h1⟩
  unfold results
  rw [Array.mapM_eq_mapM_toList]
  simp only [Sem.run_bind, Sem.run_map]
  erw [h2]
  rfl

/-- A function entered. -/
theorem enter_ok (hE : EnvOK P E) (hb : BodyOK E) {rec : Rec} (hm : RecM rec) (hr : RecS P rec) {s : St} {f : Nat} {fn : Func} {code : Code} {args : List AV} {xs : List Value} {v : AV} {h : Tr AB} {c : Nat} {tl : List Nat}
    (hf : E.fn.get f = some fn) (hbody : fn.body = some code) (e : enter E rec s args fn code = .ok v h c tl) (hx : RVs ρ args xs) (rh : RH B ρ G w) (hB : B ≤ w.heap.size) (wf : Wf s.h s.c)
    (fr : ∀ n, s.c ≤ n → n < c → ρ n = none) (hp : ∀ n o, s.h.get n = some o → G n = some o) {R : Ending → World → Prop}
    (hR : ∀ u ρ' G' w', Aft B ρ G w s v h c tl u ρ' G' w' → R (.returned u) w') : Calls P f xs.toArray w R := by
  obtain ⟨hpf, hname⟩ := hE.fn f fn hf
  have e0 : runF E rec fn s.h s.c code (params args .zero .lf) = .ok v h c tl := by rw [← e, show enter E rec s args fn code = forceT (params args .zero .lf) (runF E rec fn s.h s.c code) from rfl, forceT_eq]
  obtain ⟨⟨r, s'⟩, h1, h2⟩ := oE_no_eq (show oE (rec code ⟨params args .zero .lf, s.h, s.c, s.c, []⟩) .no (endF E fn) = .ok v h c tl from e0)
  have key : (r = .normal ∨ r = .ret) ∧ endV E fn s' = .ok v h c tl := by
    cases r with
    | normal => exact ⟨.inl rfl, h2⟩
    | ret => exact ⟨.inr rfl, h2⟩
    | exit id => cases h2
  obtain ⟨vs, hvs, h3⟩ := oE_no_eq (show oE (resVs E s' fn.results.toList) .no (fun l => back (one l) s') = .ok v h c tl from key.2)
  rw [show back (one vs) s' = out (one vs) s'.h s'.c s'.wl from rfl, out_eq] at h3
  cases h3
  have mono := hm _ _ _ _ h1
  refine calls_of_wp hpf hbody (hr code _ r s' fn.ntmps h1 (hb f fn code hf hbody) B ρ G _ w _ ⟨params_tm hx, hp, rh, hB, wf, Nat.le_refl _, rfl, by simp; omega⟩ fr fun ρ' G' a' w' hrel hev => ?_)
  obtain ⟨u, h4, h5⟩ := results_ok (P := P) (w := w') hE hrel.tm hrel.hp hrel.rh hvs
  have hpost : a'.defers = [] ∧ ∃ v, (results fn a'.tmps).run P w' = .ok v w' ∧ R (.returned v) w' := by
    refine ⟨hrel.df, u, h4, hR u ρ' G' w' ⟨mono.cc, hev.le, hev.out, h5, hrel.rh, fun n hn hc => hev.off n ?_, fun n o _ hg => hrel.hp n o hg, fun n hn hc => ?_, hev.bel⟩⟩
    · rcases hc with hc | hc
      · exact .inl ⟨hc, hn⟩
      · exact .inr hc
    · rcases hc with hc | hc
      · exact mono.kp (Nat.le_refl _) n hc hn
      · rw [hrel.wf n hc, wf n (Nat.le_trans mono.cc hc)]
  rcases key.1 with rfl | rfl
  · exact hpost
  · exact hpost

theorem run_callFunc_enter {f : FuncId} {fn : Func} {code : Code} {args : Array Value} (hf : P.funcs[f]? = some fn) (hn : fn.name ≠ "runtime.NumGoroutine") (hb : fn.body = some code) :
    (callFunc f args).run P w = .ok (.enter f args) w := by
  unfold callFunc
  simp [hf, hb, hn]
/-- One operation. -/
theorem op_wp (hE : EnvOK P E) (hb : BodyOK E) {rec : Rec} (hm : RecM rec) (hr : RecS P rec) {s : St} {a : Act} {o : Oper} {v : AV} {h : Tr AB} {c : Nat} {tl : List Nat}
    (e : disp o.op E rec s = .ok v h c tl) (rh : RH B ρ G w) (hB : B ≤ w.heap.size) (wf : Wf s.h s.c) (tm : TO ρ s.t a o.op.operands.toList) (fr : ∀ n, s.c ≤ n → n < c → ρ n = none)
    (hp1 : kindOp o.op = 1 → ∀ n ∈ refsO s.t o.op.operands.toList, ∀ b, s.h.get n = some b → G n = some b) (hp2 : kindOp o.op = 2 → ∀ n b, s.h.get n = some b → G n = some b)
    {K : Act → World → Prop} {Q : Exit → Act → World → Prop} (hK : ∀ u ρ' G' w', Aft B ρ G w s v h c tl u ρ' G' w' → K (a.put o.dst u) w') : o.wp P a w K Q := by
  by_cases hk : kindOp o.op = 2
  · obtain ⟨dst, op, type, pos, after, guard⟩ := o
    simp only at e hk tm hp2
    replace hp2 := hp2 hk
    cases op with
    | call cl =>
      obtain ⟨callee, args, argTypes⟩ := cl
      cases callee with
      | builtin b => cases hk
      | invoke x n => cases e
      | value x =>
        obtain ⟨fv, hfv, e1⟩ := oE_no_eq (show oE (ev s.t x) .no (fun v => oE (evs s.t args.toList) .no (fun l => callV E rec s l v)) = .ok v h c tl from e)
        obtain ⟨l, hl, e2⟩ := oE_no_eq e1
        obtain ⟨⟨f, first, cap⟩, hfn, e3⟩ := oE_no_eq (show oE (asFn fv) .no (fun p => pE p (fun f p => pE p (fun first cap => callF E rec s f (first ++ (l ++ cap))))) = .ok v h c tl from e2)
        rw [pE_mk, pE_mk] at e3
        obtain rfl := asFn_eq hfn
        have hx := tm x (by simp [Op.operands, Call.operands]) _ hfv
        have hargs := (tm.sub (m := args.toList) fun y hy => by simp [Op.operands, Call.operands]; exact .inr (by simpa using hy)).evs hl
        generalize hX : a.eval x = X at hx
        cases hx with
        | fn f _ _ xf xc hxf hxc =>
          have hres : (execOp a.eval { dst, op := .call { callee := .value x, args, argTypes }, type, pos, after, guard }).run P w = (callFunc f (xf ++ args.map a.eval ++ xc)).run P w := by
            simp only [execOp, resolve, hX, Deferred.ofValue, Sem.run_bind, Sem.run_pure, Result.andThen_ok, invoke]
          have hall : RVs ρ (first ++ (l ++ cap)) (xf ++ args.map a.eval ++ xc).toList := by
            have := hxf.append (hargs.append hxc)
            simpa using this
          unfold Oper.wp
          rw [hres]
          unfold Go.Ab.callF at e3
          cases hext : E.ext.get f with
          | some k =>
            rw [hext, oE_some] at e3
            obtain ⟨e4, rfl, rfl, rfl⟩ := pureO_eq e3
            obtain ⟨u, hu1, hu2⟩ := hE.ext f k hext ρ _ v _ e4 hall
            have := hu2 w
            simp only [Array.toArray_toList] at this
            rw [this, Oper.upon_value]
            exact hK u ρ G w (Aft.pure rh hu1)
          | none =>
            rw [hext, oE_none] at e3
            cases hcon : E.con.get f with
            | some k =>
              rw [hcon, oE_some] at e3
              obtain ⟨e4, rfl, rfl, rfl⟩ := pureO_eq e3
              obtain ⟨⟨fn, code, hpf, hname, hbody⟩, hc⟩ := hE.con f k hcon ρ _ _ v _ e4 hall
              have hc := hc B G w rh hp2
              rw [Array.toArray_toList] at hc
              rw [run_callFunc_enter hpf hname hbody, Oper.upon_enter]
              refine Calls.mono hc fun e w'' he => ?_
              obtain ⟨u, rfl, hu, hbel⟩ := he
              exact hK u ρ G w'' (Aft.grown rh hB hu hbel)
            | none =>
            rw [hcon, oE_none] at e3
            obtain ⟨fn, hf, e4⟩ := oE_no_eq e3
            obtain ⟨code, hbody, e5⟩ := oE_no_eq e4
            obtain ⟨hpf, hname⟩ := hE.fn f fn hf
            rw [run_callFunc_enter hpf hname hbody, Oper.upon_enter]
            have := enter_ok (P := P) hE hb hm hr hf hbody e5 hall rh hB wf fr hp2 (R := fun
              | .returned v, w'' => K (a.put dst v) w''
              | .panicked chain, w'' => Q (.panic chain) a w''
              | .outgrown, _ => LetsOut Q) (fun u ρ' G' w' haft => hK u ρ' G' w' haft)
            rw [Array.toArray_toList] at this
            exact Calls.mono this fun e w'' he => by cases e <;> exact he
    | _ => cases hk
  · obtain ⟨u, nx, w', ρ', G', h1, h2, h3⟩ := disp_ok (P := P) hE rh hB o tm hk e fr hp1
    unfold Oper.wp
    rw [h1]
    rcases h2 with rfl | ⟨rfl, rfl⟩
    · rw [Oper.upon_value]; exact hK u ρ' G' w' h3
    · rw [Oper.upon_skip]; exact hK _ ρ' G' w' h3
end
end Go.Ab
