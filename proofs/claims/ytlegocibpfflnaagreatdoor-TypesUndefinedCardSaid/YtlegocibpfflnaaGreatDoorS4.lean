/- A part of an evaluator of the program's operations over values that are known whole or in part, and of the proof that what it answers holds of the program's run. No condition. -/
import Derived.Test.YtlegocibpfflnaaGreatDoorS3
import Derived.Laws.Entries
import Derived.ChangeKeysEq
namespace Go.Ab
open Go.RowKit (Below)

/-! What the tables of the evaluator must say of the program. -/
def DR : TD → TypeDesc → Prop
  | .bool, .bool => True
  | .int k, .int j => j = k
  | .str, .string => True
  | .ptr, .pointer _ => True
  | .sl e, .slice f => f = e
  | .arr n e, .array m f => m = n ∧ f = e
  | .map k e, .map j f => j = k ∧ f = e
  | .st fs, .struct gs => fs = gs.toList.map fun g => (g.type, g.offset)
  | .fn, .func _ _ _ => True
  | .ifc, .interface _ => True
  | .oth, _ => True
  | _, _ => False
def aggD : TypeDesc → Bool
  | .struct _ | .array _ _ => true
  | _ => false
def aggV : Value → Bool
  | .agg _ => true
  | _ => false
def EqOK (P : Program) (t : Nat) (z : List AV) : Prop := ∀ (ρ : Rho) (x y : List AV) (X Y : Array Value) (b : Bool), RVs ρ x X.toList → RVs ρ y Y.toList → shp z x = true → ceqs x y = some b →
  ∀ w, (Op.equal t (.agg X) (.agg Y)).run P w = .ok b w ∧ P.eqGuardType P.depth t = false
structure TyOK (P : Program) (t : Nat) (i : TI) : Prop where
  inf : ∃ f z d, P.info? t = some f ∧ f.size = i.size ∧ f.bytes = i.bytes ∧ f.zero = some z ∧ (∀ ρ, RVs ρ i.z z.cells.toList) ∧ aggV z = i.agg ∧ i.z.length = i.size ∧
    P.underlying t = some d ∧ DR i.d d ∧ aggD d = i.agg
  eq : i.eq = true → EqOK P t i.z
  fld : ∀ fs, i.d = .st fs → ∀ p ∈ fs, (P.info? p.1).isSome = true
/-- everything that the run of a function needs but its own text -/
structure EnvOK (P : Program) (E : Env) : Prop where
  mix : P.follows .mixedOrders = true
  ty : ∀ t i, E.ty.get t = some i → TyOK P t i
  fn : ∀ f g, E.fn.get f = some g → P.funcs[f]? = some g ∧ g.name ≠ "runtime.NumGoroutine"
  ext : ∀ f k, E.ext.get f = some k → ∀ (ρ : Rho) (args : List AV) (v : AV) (xs : List Value), ext k args = some v → RVs ρ args xs →
    ∃ u, RV ρ v u ∧ ∀ w, (callFunc f xs.toArray).run P w = .ok (.value u) w
  con : ∀ f k, E.con.get f = some k → ∀ (ρ : Rho) (h : Tr AB) (args : List AV) (v : AV) (xs : List Value), k h args = some v → RVs ρ args xs →
    (∃ fn code, P.funcs[f]? = some fn ∧ fn.name ≠ "runtime.NumGoroutine" ∧ fn.body = some code) ∧
    ∀ (B : Nat) (G : Hp) (w : World), RH B ρ G w → (∀ n o, h.get n = some o → G n = some o) →
      Calls P f xs.toArray w fun e w' => ∃ u, e = .returned u ∧ RV ρ v u ∧ Below w.heap.size w w'

section
variable {P : Program} {E : Env}
theorem run_ti {t : TypeId} {i : TypeInfo} (h : P.info? t = some i) (w : World) : (typeInfo t).run P w = .ok i w := by
  simp [typeInfo, h]
theorem TyOK.size {t : Nat} {i : TI} (h : TyOK P t i) (w : World) : (sizeOf t).run P w = .ok i.size w := by
  obtain ⟨f, z, d, h1, h2, _⟩ := h.inf
  simp [sizeOf, run_ti h1, h2]
theorem TyOK.bytes {t : Nat} {i : TI} (h : TyOK P t i) : ∃ f, P.info? t = some f ∧ f.bytes = i.bytes ∧ ∀ w, (typeInfo t).run P w = .ok f w := by
  obtain ⟨f, z, d, h1, h2, h3, _⟩ := h.inf
  exact ⟨f, h1, h3, fun w => run_ti h1 w⟩
theorem TyOK.und {t : Nat} {i : TI} (h : TyOK P t i) : ∃ d, P.underlying t = some d ∧ DR i.d d ∧ aggD d = i.agg ∧ ∀ w, (underlying t).run P w = .ok d w := by
  obtain ⟨f, z, d, _, _, _, _, _, _, _, h1, h2, h3⟩ := h.inf
  exact ⟨d, h1, h2, h3, fun w => run_underlying h1 w⟩
theorem TyOK.zero {t : Nat} {i : TI} (h : TyOK P t i) : ∃ z, (∀ ρ, RVs ρ i.z z.cells.toList) ∧ aggV z = i.agg ∧ ∀ w, (zeroValue t).run P w = .ok z w := by
  obtain ⟨f, z, d, h1, _, _, h2, h3, h4, _⟩ := h.inf
  exact ⟨z, h3, h4, fun w => by simp [zeroValue, run_ti h1, h2]⟩
theorem TyOK.zlen {t : Nat} {i : TI} (h : TyOK P t i) : i.z.length = i.size := by
  obtain ⟨f, z, d, _, _, _, _, _, _, h1, _⟩ := h.inf
  exact h1
theorem TyOK.isAgg {t : Nat} {i : TI} (h : TyOK P t i) (w : World) : (isAgg t).run P w = .ok i.agg w := by
  obtain ⟨d, _, _, h3, h4⟩ := h.und
  simp only [Go.isAgg, Sem.run_bind, h4, Result.andThen_ok]
  cases d <;> simp [aggD] at h3 <;> simp [← h3]

/-! Operands. -/
/-- temporaries -/
def TM (ρ : Rho) (t : Tr AV) (a : Act) : Prop := ∀ i v, t.get i = some v → ∃ u, a.tmps[i]? = some u ∧ RV ρ v u
theorem TM.mono {ρ ρ' : Rho} (h : ρ.le ρ') {t : Tr AV} {a : Act} (k : TM ρ t a) : TM ρ' t a := fun i v e => by obtain ⟨u, h1, h2⟩ := k i v e; exact ⟨u, h1, h2.mono h⟩
theorem rv_cv1 (ρ : Rho) : ∀ (v : Value) (x : AV), cv1 v = some x → RV ρ x v := by
  intro v x h
  unfold cv1 at h
  split at h <;> cases h <;> constructor
theorem rv_cvs (ρ : Rho) : ∀ (l : List Value) (x : List AV), cvs l = some x → RVs ρ x l
  | [], x, h => by cases h; exact .nil
  | v :: r, x, h => by
    obtain ⟨a, ha, h⟩ := oE_none_eq (show oE (cv1 v) none (fun a => oE (cvs r) none (fun r => some (a :: r))) = some x from h)
    obtain ⟨q, hq, h⟩ := oE_none_eq h
    cases h
    exact .cons (rv_cv1 ρ _ _ ha) (rv_cvs ρ _ _ hq)
theorem rv_cv (ρ : Rho) (v : Value) (x : AV) (h : cv v = some x) : RV ρ x v := by
  unfold cv at h
  split at h
  · obtain ⟨l, hl, h⟩ := oE_none_eq h
    cases h
    exact .agg _ _ (rv_cvs ρ _ _ hl)
  · obtain ⟨l, hl, h⟩ := oE_none_eq h
    cases h
    exact .tup _ _ (rv_cvs ρ _ _ hl)
  · exact rv_cv1 ρ _ _ h
theorem TM.ev {ρ : Rho} {t : Tr AV} {a : Act} (h : TM ρ t a) {x : Operand} {v : AV} (e : ev t x = some v) : RV ρ v (a.eval x) := by
  cases x with
  | tmp i =>
    obtain ⟨u, h1, h2⟩ := h i v e
    simpa [Act.eval, h1] using h2
  | const c => exact rv_cv ρ c v e
  | global g => cases e
  | func f => cases (show some (AV.fn f [] []) = some v from e); exact .fn f [] [] #[] #[] .nil .nil
theorem TM.evs {ρ : Rho} {t : Tr AV} {a : Act} (h : TM ρ t a) : ∀ {l : List Operand} {vs : List AV}, evs t l = some vs → RVs ρ vs (l.map a.eval)
  | [], _, e => by cases e; exact .nil
  | x :: r, vs, e => by
    obtain ⟨v, hv, e⟩ := oE_none_eq (show oE (Go.Ab.ev t x) none (fun v => oE (Go.Ab.evs t r) none (fun r => some (v :: r))) = some vs from e)
    obtain ⟨q, hq, e⟩ := oE_none_eq e
    cases e
    exact .cons (h.ev hv) (h.evs hq)
theorem TM.evp {ρ : Rho} {t : Tr AV} {a : Act} (h : TM ρ t a) : ∀ {l : List (Nat × Operand)} {vs : List (Nat × AV)}, evp t l = some vs →
    vs.map (·.1) = l.map (·.1) ∧ RVs ρ (vs.map (·.2)) (l.map fun p => a.eval p.2)
  | [], _, e => by cases e; exact ⟨rfl, .nil⟩
  | (i, x) :: r, vs, e => by
    obtain ⟨v, hv, e⟩ := oE_none_eq (show oE (Go.Ab.ev t x) none (fun v => oE (Go.Ab.evp t r) none (fun r => some ((i, v) :: r))) = some vs from e)
    obtain ⟨q, hq, e⟩ := oE_none_eq e
    cases e
    have := h.evp hq
    exact ⟨by simp [this.1], .cons (h.ev hv) this.2⟩

/-- operands, as they are read -/
def TO (ρ : Rho) (t : Tr AV) (a : Act) (l : List Operand) : Prop := ∀ x ∈ l, ∀ v, Go.Ab.ev t x = some v → RV ρ v (a.eval x)
theorem TM.to {ρ : Rho} {t : Tr AV} {a : Act} (h : TM ρ t a) (l : List Operand) : TO ρ t a l := fun _ _ _ e => h.ev e
theorem TO.sub {ρ : Rho} {t : Tr AV} {a : Act} {l m : List Operand} (h : TO ρ t a l) (k : ∀ x ∈ m, x ∈ l) : TO ρ t a m := fun x hx v e => h x (k x hx) v e
theorem TO.evs {ρ : Rho} {t : Tr AV} {a : Act} : ∀ {l : List Operand} (_ : TO ρ t a l) {vs : List AV}, Go.Ab.evs t l = some vs → RVs ρ vs (l.map a.eval)
  | [], _, _, e => by cases e; exact .nil
  | x :: r, h, vs, e => by
    obtain ⟨v, hv, e⟩ := oE_none_eq (show oE (Go.Ab.ev t x) none (fun v => oE (Go.Ab.evs t r) none (fun r => some (v :: r))) = some vs from e)
    obtain ⟨q, hq, e⟩ := oE_none_eq e
    cases e
    exact .cons (h x (by simp) _ hv) (TO.evs (h.sub fun y hy => by simp [hy]) hq)
theorem TO.evp {ρ : Rho} {t : Tr AV} {a : Act} : ∀ {l : List (Nat × Operand)} (_ : TO ρ t a (l.map (·.2))) {vs : List (Nat × AV)}, Go.Ab.evp t l = some vs →
    vs.map (·.1) = l.map (·.1) ∧ RVs ρ (vs.map (·.2)) (l.map fun p => a.eval p.2)
  | [], _, _, e => by cases e; exact ⟨rfl, .nil⟩
  | (i, x) :: r, h, vs, e => by
    obtain ⟨v, hv, e⟩ := oE_none_eq (show oE (Go.Ab.ev t x) none (fun v => oE (Go.Ab.evp t r) none (fun r => some ((i, v) :: r))) = some vs from e)
    obtain ⟨q, hq, e⟩ := oE_none_eq e
    cases e
    have := TO.evp (h.sub fun y hy => by simp only [List.map_cons, List.mem_cons]; exact .inr hy) hq
    exact ⟨by simp [this.1], .cons (h x (by simp) _ hv) this.2⟩

/-! The as-functions. -/
theorem asInt_eq {v : AV} {k : IntKind} {n : Int} (h : asInt v = some (k, n)) : v = .int k n := by cases v <;> cases h; rfl
theorem asBool_eq {v : AV} {b : Bool} (h : asBool v = some b) : v = .bool b := by cases v <;> cases h; rfl
theorem asStr_eq {v : AV} {l : List Nat} (h : asStr v = some l) : v = .str l := by cases v <;> cases h; rfl
theorem asPtr_eq {v : AV} {n o : Nat} (h : asPtr v = some (n, o)) : v = .ptr n o := by cases v <;> cases h; rfl
theorem asAgg_eq {v : AV} {l : List AV} (h : asAgg v = some l) : v = .agg l := by cases v <;> cases h; rfl
theorem asTup_eq {v : AV} {l : List AV} (h : asTup v = some l) : v = .tup l := by cases v <;> cases h; rfl
theorem asFn_eq {v : AV} {f : Nat} {a b : List AV} (h : asFn v = some (f, a, b)) : v = .fn f a b := by cases v <;> cases h; rfl
theorem cellsO_rv {ρ : Rho} {v : AV} {u : Value} {cs : List AV} (h : RV ρ v u) (e : cellsO v = some cs) : RVs ρ cs u.cells.toList := by
  cases h with
  | agg l x h => cases (show some l = some cs from e); exact h
  | any => cases e
  | tup => cases e
  | bool b => cases e; exact .cons (.bool b) .nil
  | int k n => cases e; exact .cons (.int k n) .nil
  | str s => cases e; exact .cons (.str s) .nil
  | nilp => cases e; exact .cons .nilp .nil
  | ptr n o L h => cases e; exact .cons (.ptr n o L h) .nil
  | nils => cases e; exact .cons .nils .nil
  | slf n o l c L h => cases e; exact .cons (.slf n o l c L h) .nil
  | sle n o l z cap L h h1 h2 => cases e; exact .cons (.sle n o l z cap L h h1 h2) .nil
  | slz n o z L a h h1 h2 => cases e; exact .cons (.slz n o z L a h h1 h2) .nil
  | slx n o a h1 => cases e; exact .cons (.slx n o a h1) .nil
  | nilm => cases e; exact .cons .nilm .nil
  | map n L h => cases e; exact .cons (.map n L h) .nil
  | nilf => cases e; exact .cons .nilf .nil
  | fn f a b x y h1 h2 => cases e; exact .cons (.fn f a b x y h1 h2) .nil
  | nili => cases e; exact .cons .nili .nil
  | iface t v u h => cases e; exact .cons (.iface t v u h) .nil
  | rng k lo hi n h1 h2 => cases e; exact .cons (.rng k lo hi n h1 h2) .nil
  | snot ne lo hi s h1 h2 h3 => cases e; exact .cons (.snot ne lo hi s h1 h2 h3) .nil
theorem scal_one {ρ : Rho} {v : AV} {u : Value} (h : RV ρ v u) (e : scal v = true) : u.oneCell' = true := by
  cases h <;> first | rfl | cases e
theorem scals_one {ρ : Rho} : ∀ {l : List AV} {x : List Value}, RVs ρ l x → scals l = true → ∀ u ∈ x, u.oneCell' = true
  | _, _, .nil, _, _, h => by simp at h
  | _, _, .cons h1 h2, e, u, hu => by
    rename_i v u' l x
    have e' : bE (scal v) (scals l) false = true := e
    have hs : scal v = true ∧ scals l = true := by
      cases hv : scal v with
      | false => rw [hv] at e'; cases e'
      | true => rw [hv] at e'; exact ⟨rfl, e'⟩
    rcases List.mem_cons.1 hu with rfl | hu
    · exact scal_one h1 hs.1
    · exact scals_one h2 hs.2 u hu
end
end Go.Ab
