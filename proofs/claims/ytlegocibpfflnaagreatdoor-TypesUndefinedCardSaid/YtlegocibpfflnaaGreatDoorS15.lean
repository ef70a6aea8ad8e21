/- A part of an evaluator of the program's operations over values that are known whole or in part, and of the proof that what it answers holds of the program's run. No condition. -/
import Derived.Test.YtlegocibpfflnaaGreatDoorS14
namespace Go.Ab
open Go.RowKit (Below)
section
variable {P : Program} {E : Env} {B : Nat} {ρ : Rho} {G : Hp} {w : World}

theorem refsO_mem {t : Tr AV} {x : Operand} {v : AV} {n : Nat} : ∀ {l : List Operand}, x ∈ l → ev t x = some v → n ∈ refsV v → n ∈ refsO t l
  | [], h, _, _ => by simp at h
  | y :: l, h, e, hn => by
    show n ∈ oE (ev t y) (refsO t l) (fun v => refsV v ++ refsO t l)
    rcases List.mem_cons.1 h with rfl | h
    · rw [e, oE_some]; exact List.mem_append_left _ hn
    · have := refsO_mem h e hn
      cases ev t y with
      | none => exact this
      | some q => exact List.mem_append_right _ this

/-- What an operation that is no call of a function comes to. -/
def OpOK (P : Program) (B : Nat) (ρ : Rho) (G : Hp) (w : World) (s : St) (sem : Sem Next) (v : AV) (h : Tr AB) (c : Nat) (tl : List Nat) : Prop :=
  ∃ u nx w' ρ' G', sem.run P w = .ok nx w' ∧ (nx = .value u ∨ nx = .skip ∧ u = undef) ∧ Aft B ρ G w s v h c tl u ρ' G' w'
theorem OpOK.pure {s : St} {m : Sem Value} {x : Option AV} {v : AV} {h : Tr AB} {c : Nat} {tl : List Nat} (rh : RH B ρ G w) (e : pureO s x = .ok v h c tl)
    (hm : ∀ v, x = some v → ∃ u, m.run P w = .ok u w ∧ RV ρ v u) : OpOK P B ρ G w s (do Pure.pure (.value (← m))) v h c tl := by
  obtain ⟨e1, rfl, rfl, rfl⟩ := pureO_eq e
  obtain ⟨u, h1, h2⟩ := hm v e1
  exact ⟨u, _, w, ρ, G, by simp [h1], .inl rfl, Aft.pure rh h2⟩
theorem OpOK.val {s : St} {m : Sem Value} {v : AV} {h : Tr AB} {c : Nat} {tl : List Nat} (hm : ∃ u w' ρ' G', m.run P w = .ok u w' ∧ Aft B ρ G w s v h c tl u ρ' G' w') :
    OpOK P B ρ G w s (do Pure.pure (.value (← m))) v h c tl := by
  obtain ⟨u, w', ρ', G', h1, h2⟩ := hm
  exact ⟨u, _, w', ρ', G', by simp [h1], .inl rfl, h2⟩
theorem OpOK.unit {s : St} {m : Sem Unit} {v : AV} {h : Tr AB} {c : Nat} {tl : List Nat} (hm : ∃ w' G', m.run P w = .ok () w' ∧ Aft B ρ G w s v h c tl undef ρ G' w') :
    OpOK P B ρ G w s (do m; Pure.pure .skip) v h c tl := by
  obtain ⟨w', G', h1, h2⟩ := hm
  exact ⟨undef, .skip, w', ρ, G', by simp [h1], .inr ⟨rfl, rfl⟩, h2⟩

theorem bi_ok {s : St} {a : Act} (hE : EnvOK P E) (rh : RH B ρ G w) (hB : B ≤ w.heap.size) {cl : Call} (tm : TO ρ s.t a cl.args.toList) {b : Builtin} (hcl : cl.callee = .builtin b) {T : TypeId} {v : AV} {h : Tr AB} {c : Nat} {tl : List Nat} (e : bi E s b cl.args.toList cl.argTypes.toList = .ok v h c tl)
    (fr : ∀ n, s.c ≤ n → n < c → ρ n = none) (hp : ∀ n ∈ refsO s.t cl.args.toList, ∀ b, s.h.get n = some b → G n = some b) :
    OpOK P B ρ G w s (do let d ← resolve a.eval cl T; invoke d.target d.args) v h c tl := by
  have hres : ∀ w, (resolve a.eval cl T).run P w = .ok { target := .builtin b cl.argTypes T (cl.args.map fun | .const _ => true | _ => false), args := cl.args.map a.eval } w := by
    intro w; simp only [resolve, hcl]; rfl
  have key : ∀ m : Sem Value, (∀ cs, builtin b cl.argTypes T cs (cl.args.map a.eval) = (do Pure.pure (.value (← m)))) → (∃ u w' ρ' G', m.run P w = .ok u w' ∧ Aft B ρ G w s v h c tl u ρ' G' w') →
      OpOK P B ρ G w s (do let d ← resolve a.eval cl T; invoke d.target d.args) v h c tl := by
    intro m hb ⟨u, w', ρ', G', h1, h2⟩
    refine ⟨u, .value u, w', ρ', G', ?_, .inl rfl, h2⟩
    simp only [Sem.run_bind, hres, Result.andThen_ok, invoke, hb, h1, Sem.run_pure]
  have args : ∀ {l}, cl.args.toList = l → cl.args = l.toArray := fun h => by rw [← h]
  have types : ∀ {l}, cl.argTypes.toList = l → cl.argTypes = l.toArray := fun h => by rw [← h]
  unfold bi at e
  split at e
  · next x t hx ht =>
    obtain ⟨xv, hxv, e1⟩ := oE_no_eq e
    obtain ⟨ti, hti, e2⟩ := oE_no_eq e1
    obtain ⟨e3, rfl, rfl, rfl⟩ := pureO_eq e2
    obtain ⟨u, h1, h2⟩ := lenOf_ok (T := T) hE rh (tm x (by rw [hx]; simp) _ hxv) hti e3 (fun n hn => hp n (refsO_mem (x := x) (by rw [hx]; simp) hxv hn))
    refine key _ (fun cs => rfl) ⟨u, w, ρ, G, ?_, Aft.pure rh h2⟩
    rw [args hx, types ht]
    simpa using h1
  · next x y t u hxy htu =>
    obtain ⟨xv, hxv, e1⟩ := oE_no_eq e
    obtain ⟨yv, hyv, e2⟩ := oE_no_eq e1
    obtain ⟨ei, hei, e3⟩ := oE_no_eq e2
    obtain ⟨ui, hui, e4⟩ := oE_no_eq e3
    obtain ⟨hz, e5⟩ := bE_no_eq' e4
    obtain ⟨hrow, e6⟩ := bE_no_eq e5
    obtain ⟨m, hm, e7⟩ := oE_no_eq e6
    obtain ⟨cs, hcs, e8⟩ := oE_no_eq e7
    obtain ⟨hl, e9⟩ := bE_no_eq e8
    obtain ⟨el, hel, hT⟩ := elemT_ok hE hei
    obtain ⟨N, hN1, hN2, hN3, _⟩ := rowOf_ok (P := P) rh (tm y (by rw [hxy]; simp) _ hyv) hcs hm (fun n hn => hp n (refsO_mem (x := y) (by rw [hxy]; simp) hyv hn))
    obtain ⟨d, hd, hr, _, _⟩ := (hE.ty _ _ hui).und
    have hni : (∃ e, d = .slice e) ∨ d = .string := by
      unfold isRow at hrow
      split at hrow
      · next hdd => rw [hdd] at hr; cases d <;> simp [DR] at hr ⊢
      · next hdd => rw [hdd] at hr; cases d <;> simp [DR] at hr ⊢
      · cases hrow
    have hl' := beq_true hl
    rw [len_eq] at hl'
    obtain ⟨u', w', ρ', G', h1, h2⟩ := append_ok (P := P) hE hel hT hd hni hN2 hN3 hN1 hl' (beq_false hz) (tm x (by rw [hxy]; simp) _ hxv) e9 rh hB (fun n hn => hp n (refsO_mem (x := x) (by rw [hxy]; simp) hxv hn)) fr
    refine key _ (fun cs => rfl) ⟨u', w', ρ', G', ?_, h2⟩
    rw [args hxy, types htu]
    simpa using h1
  · obtain ⟨l, hl, e1⟩ := oE_no_eq e
    cases l with
    | nil => cases e1
    | cons x r =>
      obtain ⟨e3, rfl, rfl, rfl⟩ := pureO_eq (show pureO s (maxs ilt r x) = .ok v h c tl from e1)
      obtain ⟨u, h1, h2⟩ := max_ok (P := P) (w := w) (ρ := ρ) (xs := cl.args.map a.eval) (tt := cl.argTypes) (T := T) (A := undef) (by simpa using tm.evs hl) e3
      exact key _ (fun cs => rfl) ⟨u, w, ρ, G, h1, Aft.pure rh h2⟩
  · obtain ⟨l, hl, e1⟩ := oE_no_eq e
    cases l with
    | nil => cases e1
    | cons x r =>
      obtain ⟨e3, rfl, rfl, rfl⟩ := pureO_eq (show pureO s (maxs ige r x) = .ok v h c tl from e1)
      obtain ⟨u, h1, h2⟩ := min_ok (P := P) (w := w) (ρ := ρ) (xs := cl.args.map a.eval) (tt := cl.argTypes) (T := T) (A := undef) (by simpa using tm.evs hl) e3
      exact key _ (fun cs => rfl) ⟨u, w, ρ, G, h1, Aft.pure rh h2⟩
  · cases e
end
end Go.Ab
