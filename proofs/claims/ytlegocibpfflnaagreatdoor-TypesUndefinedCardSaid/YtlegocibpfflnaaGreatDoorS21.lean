/- A part of an evaluator of the program's operations over values that are known whole or in part, and of the proof that what it answers holds of the program's run. No condition. -/
import Derived.Test.YtlegocibpfflnaaGreatDoorS20
namespace Go.Ab
open Go.RowKit (Below)
section
variable {P : Program} {E : Env} {B N : Nat} {ρ : Rho} {G : Hp} {w : World}

theorem wanted_ok {ops : Array Oper} {s : St} {a : Act} {o : Oper} {b : Bool} (e : wanted ops.toList s o.guard = some b)
    (tm : ∀ d v, d ∈ o.looksAt ops → s.t.get d = some v → ∃ u, a.tmps[d]? = some u ∧ RV ρ v u) : Region.wanted o (yielded ops a.tmps) = b := by
  unfold Region.wanted
  cases hg : o.guard with
  | none => rw [hg] at e; cases e; rfl
  | some g =>
    obtain ⟨j, want⟩ := g
    rw [hg] at e
    obtain ⟨oj, hoj, e1⟩ := oE_none_eq (show oE (nth ops.toList j) none (fun oj => oE oj.dst none (fun d => oE (s.t.get d) none (wantV want))) = some b from e)
    obtain ⟨d, hd, e2⟩ := oE_none_eq e1
    obtain ⟨v, hv, e3⟩ := oE_none_eq e2
    rw [nth_eq, Array.getElem?_toList] at hoj
    obtain ⟨u, hu, hr⟩ := tm d v (by simp [Oper.looksAt, hg, hoj, hd]) hv
    simp only [yielded, hoj, Option.bind_some, hd, hu]
    unfold wantV at e3
    cases hb : asBool v with
    | some q =>
      rw [hb, oE_some] at e3
      obtain rfl := asBool_eq hb
      cases hr
      cases e3
      rw [beqB_eq]
      simp
    | none =>
      rw [hb, oE_none] at e3
      obtain ⟨l, hl, e4⟩ := oE_none_eq e3
      cases e4
      obtain rfl := asTup_eq hl
      cases hr
      simp
theorem TM.put {s : St} {a : Act} {dst : Option Tmp} {v : AV} {u : Value} (h : TM ρ s.t a) (hv : RV ρ v u) (hd : ∀ d, dst = some d → d < a.tmps.size) :
    TM ρ (setD s.t dst v) (a.put dst u) := by
  cases dst with
  | none => exact h
  | some d =>
    intro i x e
    rw [show setD s.t (some d) v = s.t.set d v from rfl, Tr.get_set] at e
    show ∃ u', (a.tmps.setIfInBounds d u)[i]? = some u' ∧ RV ρ x u'
    by_cases hi : i = d
    · rw [if_pos hi] at e; cases e
      subst hi
      exact ⟨u, by simp [hd i rfl], hv⟩
    · rw [if_neg hi] at e
      obtain ⟨u', h1, h2⟩ := h i x e
      exact ⟨u', by rw [Array.getElem?_setIfInBounds_ne (Ne.symm hi)]; exact h1, h2⟩
theorem put_size (a : Act) (dst : Option Tmp) (u : Value) : (a.put dst u).tmps.size = a.tmps.size := by cases dst <;> simp [Act.put]
theorem put_df (a : Act) (dst : Option Tmp) (u : Value) : (a.put dst u).defers = a.defers := by cases dst <;> rfl
theorem dstOK_ok {o : Oper} (h : dstOK N o = true) : ∀ d, o.dst = some d → d < N := by
  intro d hd
  unfold dstOK at h
  rw [hd] at h
  exact ble_true h
theorem Rel.put {s : St} {a : Act} (R : Rel B N ρ G s a w) {o : Oper} (hd : dstOK N o = true) {r : Out} (g : Gr s r) {v : AV} {h : Tr AB} {c : Nat} {tl : List Nat} (e : r = .ok v h c tl) {u : Value} {ρ' : Rho} {G' : Hp} {w' : World}
    (A : Aft B ρ G w s v h c tl u ρ' G' w') : Rel B N ρ' G' (putS s o.dst v h c tl) (a.put o.dst u) w' ∧ Ev B s ρ G w (putS s o.dst v h c tl) ρ' G' w' := by
  obtain ⟨g1, g2, g3, g4⟩ := g v h c tl e
  have hbc := R.bc
  rw [putS_eq]
  refine ⟨⟨?_, fun n x hx => ?_, A.rh, Nat.le_trans R.sz A.bel.size, g3 R.wf, Nat.le_trans R.bc g1, by rw [put_df]; exact R.df, by rw [put_size]; exact R.ts⟩, A.le, A.out, fun n hn => ?_, A.bel⟩
  · exact (R.tm.mono A.le).put A.rv fun d h => Nat.lt_of_lt_of_le (dstOK_ok hd d h) R.ts
  · by_cases ht : n ∈ tl
    · exact A.on n x (.inl ht) hx
    · by_cases hc : s.c ≤ n ∧ n < c
      · exact A.on n x (.inr hc) hx
      · rw [A.off n ht (by omega)]
        exact R.hp n x (by rw [← A.kp n ht (by omega)]; exact hx)
  · simp only at hn
    rcases hn with ⟨h1, h2⟩ | h1
    · exact A.off n (fun h3 => h2 (mem_notesL.2 (.inr ⟨h3, h1⟩))) (.inl (by omega))
    · refine A.off n (fun h3 => ?_) (.inr h1)
      obtain ⟨x, hx⟩ := g4 n h3
      rw [R.wf n (by omega)] at hx; cases hx
theorem Rel.skip {s : St} {a : Act} (R : Rel B N ρ G s a w) {o : Oper} (hd : dstOK N o = true) : Rel B N ρ G (skipS s o.dst) (a.put o.dst undef) w ∧ Ev B s ρ G w (skipS s o.dst) ρ G w := by
  rw [skipS_eq]
  refine ⟨⟨?_, R.hp, R.rh, R.sz, R.wf, R.bc, by rw [put_df]; exact R.df, by rw [put_size]; exact R.ts⟩, Rho.le_refl _, fun _ _ => rfl, fun _ _ => rfl, Below.refl _ _⟩
  exact R.tm.put (.tup [] #[] .nil) fun d h => Nat.lt_of_lt_of_le (dstOK_ok hd d h) R.ts

/-- A region in the order of its text. -/
theorem runOps_ok (hE : EnvOK P E) (hb : BodyOK E) {rec : Rec} (hm : RecM rec) (hr : RecS P rec) {ops : Array Oper} {Q : Exit → Act → World → Prop} : ∀ (l : List Nat) (lo : List Oper) {s s' : St} {a : Act} {w : World} {ρ : Rho} {G : Hp},
    lo.length = l.length → (∀ (k i : Nat), l[k]? = some i → ops[i]? = lo[k]?) → lo.all (dstOK N) = true → runOps E rec ops.toList lo s = some s' → Rel B N ρ G s a w → (∀ n, s.c ≤ n → n < s'.c → ρ n = none) →
    (∀ ρ' G' a' w', Rel B N ρ' G' s' a' w' → Ev B s ρ G w s' ρ' G' w' → Q .normal a' w') → wpOps P ops Q l a w
  | [], [], s, s', a, w, ρ, G, _, _, _, e, R, _, hQ => by
    cases e
    exact hQ ρ G a w R (Ev.refl ..)
  | [], _ :: _, _, _, _, _, _, _, h, _, _, _, _, _, _ => by simp at h
  | _ :: _, [], _, _, _, _, _, _, h, _, _, _, _, _, _ => by simp at h
  | i :: l, o :: lo, s, s', a, w, ρ, G, hlen, hl, hd, e, R, fr, hQ => by
    obtain ⟨s1, h1, h2⟩ := oE_none_eq (show oE (stepOp E rec ops.toList s o) none (forceS (runOps E rec ops.toList lo)) = some s' from e)
    rw [forceS_eq] at h2
    have hi : ops[i]? = some o := by simpa using hl 0 i rfl
    have hl' : ∀ (k j : Nat), l[k]? = some j → ops[j]? = lo[k]? := fun k j h => by simpa using hl (k + 1) j (by simpa using h)
    rw [List.all_cons, Bool.and_eq_true] at hd
    have m1 := Mono.stepOp hm h1
    have m2 := Mono.runOps hm h2
    have hnext : ∀ ρ' G' a' w', Rel B N ρ' G' s1 a' w' → Ev B s ρ G w s1 ρ' G' w' → wpOps P ops Q l a' w' := fun ρ' G' a' w' R' ev =>
      runOps_ok hE hb hm hr l lo (by simpa using hlen) hl' hd.2 h2 R' (fun n h3 h4 => by
        have := m1.cc
        rw [ev.out n (.inr h3)]; exact fr n (by omega) h4) fun ρ'' G'' a'' w'' R'' ev' => hQ ρ'' G'' a'' w'' R'' (ev.trans m1 m2 ev')
    have htm : ∀ d v, d ∈ o.looksAt ops → s.t.get d = some v → ∃ u, a.tmps[d]? = some u ∧ RV ρ v u := fun d v _ h => R.tm d v h
    simp only [wpOps, hi]
    rcases stepOp_eq h1 with ⟨hw, v, hh, c, tl, hdi, rfl⟩ | ⟨hw, rfl⟩
    · rw [if_pos (wanted_ok hw htm)]
      rw [putS_eq] at m2
      refine .inl (op_wp hE hb hm hr hdi R.rh R.sz R.wf (R.tm.to _) (fun n h3 h4 => fr n h3 ?_) (fun _ n _ b h => R.hp n b h) (fun _ n b h => R.hp n b h) fun u ρ' G' w' A => ?_)
      · exact Nat.lt_of_lt_of_le h4 m2.cc
      · obtain ⟨R', ev⟩ := R.put hd.1 (Gr.all hm s o.op) hdi A
        exact hnext ρ' G' _ w' R' ev
    · rw [if_neg (by rw [wanted_ok hw htm]; simp)]
      obtain ⟨R', ev⟩ := R.skip hd.1
      exact hnext ρ G _ w R' ev
end
end Go.Ab
