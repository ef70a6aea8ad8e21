/- A part of an evaluator of the program's operations over values that are known whole or in part, and of the proof that what it answers holds of the program's run. No condition. -/
import Derived.Test.YtofkgopegmoidaaGreatDoorWS57
namespace Go.Ab
open Go.RowKit (Below)
/-! A run in pieces: the state between two pieces is written down, no more of it than what the next piece looks at. -/
def invT : Inv := fun _ _ _ _ => True
theorem invT_ok : InvOK invT := fun _ _ _ _ _ _ _ _ _ => trivial
section
variable {P : Program} {E : Env}
def Runs (P : Program) (N : Nat) (code : Code) (s : St) (r : Res) (s' : St) : Prop :=
  s.c ≤ s'.c ∧ s'.b = s.b ∧ (∀ n ∈ s.wl, n ∈ s'.wl) ∧
  ∀ (B : Nat) (ρ : Rho) (G : Hp) (a : Act) (w : World) (Q : Exit → Act → World → Prop), Rel invT B N ρ G s a w → (∀ n, s.c ≤ n → n < s'.c → ρ n = none) →
    (∀ ρ' G' a' w', Rel invT B N ρ' G' s' a' w' → Ev B s ρ G w s' ρ' G' w' → Q (exitOf r) a' w') → code.wp P Q a w
theorem Runs.of_exec (hE : Ctx P E invT) (hb : BodyOK E) {n N : Nat} {code : Code} {s s' : St} {r : Res} (h : exec E n code s = some (r, s')) (hok : okCode N code = true) : Runs P N code s r s' := by
  have m := Mono.exec E n _ _ _ _ h
  exact ⟨m.cc, m.bb, m.wl, fun B ρ G a w Q R fr hQ => exec_ok hE hb n code s r s' N h hok B ρ G a w Q R fr hQ⟩
/-- less is known -/
structure Weak (s s' : St) : Prop where
  t : ∀ i v, s'.t.get i = some v → s.t.get i = some v
  h : ∀ n o, s'.h.get n = some o → s.h.get n = some o
  c : s'.c = s.c
  b : s'.b = s.b
  wl : s'.wl = s.wl
theorem Weak.rel {B N : Nat} {ρ : Rho} {G : Hp} {s s' : St} {a : Act} {w : World} (k : Weak s s') (R : Rel invT B N ρ G s a w) : Rel invT B N ρ G s' a w := by
  have hwf : Wf s'.h s'.c := by
    intro n hn
    cases hg : s'.h.get n with
    | none => rfl
    | some o =>
      have h3 := k.h n o hg
      rw [R.wf n (by rw [← k.c]; exact hn)] at h3
      cases h3
  exact ⟨fun i v e => R.tm i v (k.t i v e), fun n o e => R.hp n o (k.h n o e), R.rh, R.sz, hwf, by rw [k.b, k.c]; exact R.bc, R.df, R.ts, trivial⟩
theorem Runs.seq {N : Nat} {x y : Code} {s0 s1 s2 s3 : St} {r : Res} (h1 : Runs P N x s0 .normal s1) (hw : Weak s1 s2) (h2 : Runs P N y s2 r s3) : Runs P N (.seq x y) s0 r s3 := by
  obtain ⟨a1, a2, a3, a4⟩ := h1
  obtain ⟨b1, b2, b3, b4⟩ := h2
  have hc := hw.c; have hb := hw.b; have hwl := hw.wl
  refine ⟨by omega, by rw [b2, hb, a2], fun n hn => b3 n (by rw [hwl]; exact a3 n hn), fun B ρ G a w Q R fr hQ => wp_seq (a4 B ρ G a w _ R (fun n h3 h4 => fr n h3 (by omega)) fun ρ1 G1 a1' w1 R1 ev1 => ?_)⟩
  refine b4 B ρ1 G1 a1' w1 Q (hw.rel R1) (fun n h3 h4 => ?_) fun ρ2 G2 a2' w2 R2 ev2 => hQ ρ2 G2 a2' w2 R2 ?_
  · rw [ev1.out n (.inr (by omega))]; exact fr n (by omega) h4
  · refine ⟨Rho.le_trans ev1.le ev2.le, fun i hi => ?_, fun i hi => ?_, ev1.bel.trans ev2.bel⟩
    · rw [ev2.out i (by omega), ev1.out i (by omega)]
    · rw [ev2.off i (by rw [hb, a2]; exact hi), ev1.off i ?_]
      rcases hi with ⟨h4, h5⟩ | h4
      · exact .inl ⟨h4, fun h6 => h5 (b3 i (by rw [hwl]; exact h6))⟩
      · exact .inr (by omega)
end
noncomputable section
def layT {α : Type} : List Nat → List (Option α) → Tr α → Tr α
  | k :: ks, some v :: vs, t => layT ks vs (t.set k v)
  | _ :: ks, none :: vs, t => layT ks vs t
  | _, _, t => t
/-- what is looked at of a state -/
structure Seen where
  t : List (Option AV)
  h : List (Option AB)
  c : Nat
def mkS (ts bs : List Nat) (x : Seen) : St := ⟨layT ts x.t .lf, layT bs x.h .lf, x.c, 0, []⟩
def seeL {α : Type} (t : Tr α) (l : List Nat) : List (Option α) := List.rec (motive := fun _ => List (Option α)) [] (fun k _ ih => t.get k :: ih) l
def noL (l : List Nat) : Bool := lE l true (fun _ _ => false)
/-- the run came to its end by no exit, in the outermost frame; and this is seen of its state -/
def see (ts bs : List Nat) (r : Option (Res × St)) : Option Seen := oE r none (fun p => pE p (fun q s => rE q (bE (Nat.beq s.b .zero && noL s.wl) (some ⟨seeL s.t ts, seeL s.h bs, s.c⟩) none) (fun _ => none) none))
def endT (E : Env) (fn : Func) (r : Option (Res × St)) : Bool := oE r false (fun p => okE (endF E fn p) false (fun v _ _ _ => oE (asBool v) false (fun b => b)))
end
theorem layT_get {α : Type} : ∀ (ks : List Nat) (vs : List (Option α)) (t : Tr α) (k : Nat) (v : α), (layT ks vs t).get k = some v → t.get k = some v ∨ ∃ i : Nat, ks[i]? = some k ∧ vs[i]? = some (some v)
  | [], vs, t, k, v, h => by cases vs <;> exact .inl h
  | _ :: _, [], t, k, v, h => .inl h
  | x :: ks, some u :: vs, t, k, v, h => by
    rcases layT_get ks vs (t.set x u) k v h with h1 | ⟨i, h1, h2⟩
    · rw [Tr.get_set] at h1
      by_cases hk : k = x
      · rw [if_pos hk] at h1; exact .inr ⟨0, by simp [hk], by simpa using h1⟩
      · rw [if_neg hk] at h1; exact .inl h1
    · exact .inr ⟨i + 1, by simpa using h1, by simpa using h2⟩
  | x :: ks, none :: vs, t, k, v, h => by
    rcases layT_get ks vs t k v h with h1 | ⟨i, h1, h2⟩
    · exact .inl h1
    · exact .inr ⟨i + 1, by simpa using h1, by simpa using h2⟩
theorem seeL_eq {α : Type} (t : Tr α) : ∀ l, seeL t l = l.map t.get
  | [] => rfl
  | x :: l => by show t.get x :: seeL t l = _; rw [seeL_eq t l]; rfl
theorem layT_see {α : Type} {t : Tr α} {l : List Nat} {k : Nat} {v : α} (h : (layT l (seeL t l) .lf).get k = some v) : t.get k = some v := by
  rcases layT_get _ _ _ _ _ h with h1 | ⟨i, h1, h2⟩
  · simp at h1
  · rw [seeL_eq, List.getElem?_map, h1] at h2
    simpa using h2
theorem see_eq {ts bs : List Nat} {r : Option (Res × St)} {x : Seen} (h : see ts bs r = some x) : ∃ s, r = some (.normal, s) ∧ Weak s (mkS ts bs x) := by
  obtain ⟨⟨q, s⟩, rfl, h1⟩ := oE_none_eq h
  cases q with
  | normal =>
    obtain ⟨h2, h3⟩ := bE_none_eq (show bE (Nat.beq s.b .zero && noL s.wl) (some (Seen.mk (seeL s.t ts) (seeL s.h bs) s.c)) none = some x from h1)
    cases h3
    rw [Bool.and_eq_true] at h2
    refine ⟨s, rfl, fun i v e => layT_see e, fun n o e => layT_see e, rfl, (beq_true h2.1).symm, ?_⟩
    cases hw : s.wl with
    | nil => rfl
    | cons => rw [hw] at h2; cases h2.2
  | exit id => cases h1
  | ret => cases h1
section
variable {P : Program} {E : Env}
/-- one piece -/
theorem Runs.piece (hE : Ctx P E invT) (hb : BodyOK E) {n N : Nat} {x y : Code} {s : St} {ts bs : List Nat} {z : Seen} {r : Res} {s' : St} (h : see ts bs (exec E n x s) = some z) (hok : okCode N x = true) (k : Runs P N y (mkS ts bs z) r s') :
    Runs P N (.seq x y) s r s' := by
  obtain ⟨s1, h1, h2⟩ := see_eq h
  exact (Runs.of_exec hE hb h1 hok).seq h2 k
/-- the whole run of a function, out of its pieces -/
theorem calls_of_runs (hE : Ctx P E invT) {f : Nat} {fn : Func} {code : Code} {args : List AV} {xs : List Value} {r : Res} {s' : St} {v : AV} {h : Tr AB} {c : Nat} {tl : List Nat} (hpf : P.funcs[f]? = some fn) (hbody : fn.body = some code)
    (k : Runs P fn.ntmps code ⟨params args .zero .lf, .lf, 0, 0, []⟩ r s') (e : endF E fn (r, s') = .ok v h c tl) (hx : RVs (fun _ => none) args xs) (w : World) {R : Ending → World → Prop}
    (hR : ∀ ρ u w', RV ρ v u → Below w.heap.size w w' → R (.returned u) w') : Calls P f xs.toArray w R := by
  have key : (r = .normal ∨ r = .ret) ∧ endV E fn s' = .ok v h c tl := by
    cases r with
    | normal => exact ⟨.inl rfl, e⟩
    | ret => exact ⟨.inr rfl, e⟩
    | exit id => cases e
  obtain ⟨vs, hvs, h3⟩ := oE_no_eq (show oE (resVs E s' fn.results.toList) .no (fun l => back (one l) s') = .ok v h c tl from key.2)
  rw [show back (one vs) s' = out (one vs) s'.h s'.c s'.wl from rfl, out_eq] at h3
  cases h3
  refine calls_of_wp hpf hbody (k.2.2.2 w.heap.size (fun _ => none) (fun _ => none) _ w _ ⟨params_tm hx, fun n o hg => by simp at hg, ⟨fun _ _ h => (by cases h), fun _ _ _ _ _ _ h => (by cases h), fun _ _ h => (by cases h)⟩, Nat.le_refl _, fun _ _ => by simp, Nat.le_refl _, rfl, by simp; omega, trivial⟩ (fun _ _ _ => rfl) fun ρ' G' a' w' hrel hev => ?_)
  obtain ⟨u, h4, h5⟩ := results_ok (P := P) (w := w') hE.env hrel.tm hrel.hp hrel.rh hvs
  have hpost : a'.defers = [] ∧ ∃ v, (results fn a'.tmps).run P w' = .ok v w' ∧ R (.returned v) w' := ⟨hrel.df, u, h4, hR ρ' u w' h5 hev.bel⟩
  rcases key.1 with rfl | rfl
  · exact hpost
  · exact hpost
theorem endT_eq {fn : Func} {r : Option (Res × St)} (h : endT E fn r = true) : ∃ q s h' c tl, r = some (q, s) ∧ endF E fn (q, s) = .ok (.bool true) h' c tl := by
  cases r with
  | none => cases h
  | some p =>
    obtain ⟨q, s⟩ := p
    have h1 : okE (endF E fn (q, s)) false (fun v _ _ _ => oE (asBool v) false (fun b => b)) = true := h
    cases he : endF E fn (q, s) with
    | no => rw [he] at h1; cases h1
    | ok v h' c tl =>
      rw [he] at h1
      have h2 : oE (asBool v) false (fun b => b) = true := h1
      cases hb : asBool v with
      | none => rw [hb] at h2; cases h2
      | some b =>
        rw [hb, oE_some] at h2
        obtain rfl := asBool_eq hb
        subst h2
        exact ⟨q, s, h', c, tl, rfl, he⟩
end
end Go.Ab
