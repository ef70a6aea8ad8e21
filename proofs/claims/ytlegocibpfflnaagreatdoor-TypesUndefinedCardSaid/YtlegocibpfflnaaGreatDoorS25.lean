/- A part of an evaluator of the program's operations over values that are known whole or in part, and of the proof that what it answers holds of the program's run. No condition. -/
import Derived.Test.YtlegocibpfflnaaGreatDoorS24
import Derived.Deep.LoopGhost
namespace Go.Ab
open Go.RowKit (Below)
section
variable {P : Program} {E : Env}

theorem Rel.drew {B N : Nat} {ρ : Rho} {G : Hp} {s : St} {a : Act} {w : World} (R : Rel B N ρ G s a w) (d : Nat) : Rel B N ρ G s a { w with drawn := d } :=
  ⟨R.tm, R.hp, R.rh.drew d, R.sz, R.wf, R.bc, R.df, R.ts⟩
/-- A region that draws its order. -/
theorem draw_ok (hE : EnvOK P E) (hb : BodyOK E) {rec : Rec} (hm : RecM rec) (hr : RecS P rec) {ops : Array Oper} {id B N : Nat} (hdst : ops.toList.all (dstOK N) = true) (hok : drawOK ops = true) {s s' : St} {a : Act} {w : World} {ρ : Rho} {G : Hp}
    (e : runD E rec ops.toList (plan ops.toList) s [] = some s') (R : Rel B N ρ G s a w) (fr : ∀ n, s.c ≤ n → n < s'.c → ρ n = none) {Q : Exit → Act → World → Prop}
    (hQ : ∀ ρ' G' a' w', Rel B N ρ' G' s' a' w' → Ev B s ρ G w s' ρ' G' w' → Q .normal a' w') : (Code.region id ops true).wp P Q a w := by
  obtain ⟨S, T, h0, hlast, D⟩ := draw_of (P := P) hok R.wf e
  refine wp_region_any hE.mix (runD_ok hE hb hm hr D (B := B) (N := N) hdst (ρ0 := ρ) (G0 := G) (w0 := w) ?_ ops.size (List.range ops.size) _ ρ G a _ (by simp) ?_)
  · intro ρ' G' a' w' I
    have mono := Mono.runD hm e
    have hall : ∀ nn, ∀ (j : Nat) (x : Ent), (plan ops.toList)[j]? = some x → tch S T j nn → (x.i ∉ ([] : List Nat) ↔ j < (plan ops.toList).length) := fun nn j x hx _ =>
      ⟨fun _ => (List.getElem?_eq_some_iff.1 hx).1, fun _ => by simp⟩
    refine hQ ρ' G' a' w' ⟨fun t v hv => ?_, fun n o ho => ?_, I.rh, I.sz, mono.wf R.wf, by rw [mono.bb]; exact Nat.le_trans R.bc mono.cc, I.df, I.ts⟩ ⟨I.le, fun n hn => ?_, fun n hn => ?_, I.bel⟩
    · exact I.tm _ (Nat.le_refl _) t (fun j x hx _ => ⟨fun _ => (List.getElem?_eq_some_iff.1 hx).1, fun _ => by simp⟩) v (by rw [hlast]; exact hv)
    · exact I.hp _ (Nat.le_refl _) n (hall n) o (by rw [hlast]; exact ho)
    · exact I.out n (by rw [h0, hlast]; exact hn)
    · refine I.off n fun j x hx ht => ?_
      exfalso
      have hj : j < (plan ops.toList).length := (List.getElem?_eq_some_iff.1 hx).1
      have m1 := D.mono hm (Nat.zero_le j) (Nat.le_of_lt hj)
      have m2 := D.mono hm (show j + 1 ≤ (plan ops.toList).length by omega) (Nat.le_refl _)
      have m3 := D.mono1 hm hx
      rw [h0] at m1
      rw [hlast] at m2
      have hbc := R.bc
      have hb1 := m1.bb; have hc1 := m1.cc; have hc2 := m2.cc; have hc3 := m3.cc
      obtain ⟨hc, hh, hd, _⟩ := D.ck hx ht.1
      obtain ⟨_, _, _, g4⟩ := Gr.all hm (S j) x.o.op _ _ _ _ hd
      rcases ht.2 with h1 | h1
      · obtain ⟨o, ho⟩ := g4 n h1
        rcases hn with ⟨h2, h3⟩ | h2
        · refine h3 (m2.wl n ?_)
          have hs : S (j + 1) = putS (S j) x.o.dst (T j).v (T j).h (T j).c (T j).tl := by
            rcases D.step j x hx with ⟨_, _, _, h⟩ | ⟨h, _, _⟩
            · exact h
            · rw [ht.1] at h; cases h
          rw [hs, putS_eq]
          exact mem_notesL.2 (.inr ⟨h1, by rw [hb1]; exact h2⟩)
        · rw [D.wfk hm (Nat.le_of_lt hj) n (by omega)] at ho; cases ho
      · rcases hn with ⟨h2, h3⟩ | h2
        · omega
        · omega
  · refine ⟨List.nodup_range, fun i hi => by simpa using hi, by simp, fun i hi => by simp [hi], fun k x hx hR => absurd (by simpa using (D.op k x hx).2.1) hR, fun k hk t hcond v hv => ?_, fun k hk nn hcond o ho => ?_, R.rh.drew _, R.sz, R.df, R.ts,
      fun k x hx _ nn h1 h2 => ?_, Rho.le_refl _, fun _ _ => rfl, fun _ _ => rfl, ⟨rfl, rfl, rfl, Nat.le_refl _, fun _ _ => rfl⟩⟩
    · refine R.tm t v ?_
      rw [← hv, ← h0]
      symm
      refine D.tkeep (Nat.zero_le k) hk fun j x _ h2 hx hd => ?_
      exact (hcond j x hx hd).2 h2 (by simpa using (D.op j x hx).2.1)
    · refine R.hp nn o ?_
      rw [← ho, ← h0]
      symm
      refine D.keep hm (Nat.zero_le k) hk fun j _ h2 ht => ?_
      have hx : (plan ops.toList)[j]? = some (plan ops.toList)[j] := List.getElem?_eq_getElem (show j < (plan ops.toList).length by omega)
      exact (hcond j _ hx ht).2 h2 (by simpa using (D.op j _ hx).2.1)
    · have hk : k < (plan ops.toList).length := (List.getElem?_eq_some_iff.1 hx).1
      have m1 := (D.mono hm (Nat.zero_le k) (Nat.le_of_lt hk)).cc
      have m2 := (D.mono hm (show k + 1 ≤ (plan ops.toList).length by omega) (Nat.le_refl _)).cc
      rw [h0] at m1
      rw [hlast] at m2
      exact fr nn (by omega) (by omega)

theorem step_ok (hE : EnvOK P E) (hb : BodyOK E) {rec : Rec} (hm : RecM rec) (hr : RecS P rec) (code : Code) (hnl : ∀ c, code ≠ .loop c) (s : St) (r : Res) (s' : St) (N : Nat) (e : step code E rec s = some (r, s')) (hok : okCode N code = true)
    (B : Nat) (ρ : Rho) (G : Hp) (a : Act) (w : World) (Q : Exit → Act → World → Prop) (R : Rel B N ρ G s a w) (fr : ∀ n, s.c ≤ n → n < s'.c → ρ n = none)
    (hQ : ∀ ρ' G' a' w', Rel B N ρ' G' s' a' w' → Ev B s ρ G w s' ρ' G' w' → Q (exitOf r) a' w') : code.wp P Q a w := by
  -- one piece of code, and then another
  have hseq : ∀ {b : Code} {q : Res} {s1 : St} {ρ1 : Rho} {G1 : Hp} {a1 : Act} {w1 : World}, okCode N b = true → seqK rec b (q, s1) = some (r, s') → Mono s s1 → Rel B N ρ1 G1 s1 a1 w1 → Ev B s ρ G w s1 ρ1 G1 w1 →
      Exit.then (b.wp P Q) Q (exitOf q) a1 w1 := by
    intro b q s1 ρ1 G1 a1 w1 hokb h m R1 ev
    cases q with
    | normal =>
      have h' : rec b s1 = some (r, s') := h
      have m2 := hm _ _ _ _ h'
      refine hr b s1 r s' N h' hokb B ρ1 G1 a1 w1 Q R1 (fun n h3 h4 => ?_) fun ρ' G' a' w' R' ev' => hQ ρ' G' a' w' R' (ev.trans m m2 ev')
      have := m.cc
      rw [ev.out n (.inr h3)]; exact fr n (by omega) h4
    | exit id => cases (show some (Res.exit id, s1) = some (r, s') from h); exact hQ ρ1 G1 a1 w1 R1 ev
    | ret => cases (show some (Res.ret, s1) = some (r, s') from h); exact hQ ρ1 G1 a1 w1 R1 ev
  have mseq : ∀ {b : Code} {q : Res} {s1 : St}, seqK rec b (q, s1) = some (r, s') → s1.c ≤ s'.c := by
    intro b q s1 h
    cases q with
    | normal => exact (hm _ _ _ _ (show rec b s1 = some (r, s') from h)).cc
    | exit id => cases (show some (Res.exit id, s1) = some (r, s') from h); exact Nat.le_refl _
    | ret => cases (show some (Res.ret, s1) = some (r, s') from h); exact Nat.le_refl _
  cases code with
  | skip => cases e; exact wp_skip (hQ ρ G a w R (Ev.refl ..))
  | region id ops draw =>
    have e1 : Go.Ab.region E rec ops.toList draw s = some (r, s') := e
    unfold Go.Ab.region at e1
    have hok' : (ops.toList.all (dstOK N) && (!draw || drawOK ops)) = true := hok
    rw [Bool.and_eq_true] at hok'
    cases draw with
    | true =>
      obtain ⟨s1, h1, h2⟩ := oE_none_eq (show oE (Go.Ab.runD E rec ops.toList (plan ops.toList) s []) none nrm = some (r, s') from e1)
      cases h2
      exact draw_ok hE hb hm hr hok'.1 (by simpa using hok'.2) h1 R fr hQ
    | false =>
      obtain ⟨s1, h1, h2⟩ := oE_none_eq (show oE (Go.Ab.runOps E rec ops.toList ops.toList s) none nrm = some (r, s') from e1)
      cases h2
      refine wp_region (runOps_ok hE hb hm hr (List.range ops.size) ops.toList (by simp) (fun k i hk => ?_) hok'.1 h1 R fr hQ)
      have hlt : k < ops.size := by
        have := (List.getElem?_eq_some_iff.1 hk).1
        simpa using this
      rw [List.getElem?_range hlt] at hk
      cases hk
      simp
  | seq x b =>
    obtain ⟨⟨q, s1⟩, h1, h2⟩ := oE_none_eq (show oE (rec x s) none (seqK rec b) = some (r, s') from e)
    have hok' : (okCode N x && okCode N b) = true := hok
    rw [Bool.and_eq_true] at hok'
    refine wp_seq (hr x s q s1 N h1 hok'.1 B ρ G a w _ R (fun n h3 h4 => fr n h3 (Nat.lt_of_lt_of_le h4 (mseq h2))) fun ρ1 G1 a1 w1 R1 ev => hseq hok'.2 h2 (hm _ _ _ _ h1) R1 ev)
  | cond c x b =>
    obtain ⟨v, hv, h1⟩ := oE_none_eq (show oE (ev s.t c) none (condK rec x b s) = some (r, s') from e)
    obtain ⟨t, ht, h2⟩ := oE_none_eq (show oE (asBool v) none (fun c => rec (bE c x b) s) = some (r, s') from h1)
    obtain rfl := asBool_eq ht
    have hok' : (okCode N x && okCode N b) = true := hok
    rw [Bool.and_eq_true] at hok'
    have hc : a.eval c = .bool t := by
      have := R.tm.ev hv
      generalize a.eval c = C at this
      cases this; rfl
    refine wp_cond hc ?_
    cases t with
    | true => exact hr x s r s' N h2 hok'.1 B ρ G a w Q R fr hQ
    | false => exact hr b s r s' N h2 hok'.2 B ρ G a w Q R fr hQ
  | block id b =>
    obtain ⟨⟨q, s1⟩, h1, h2⟩ := oE_none_eq (show oE (rec b s) none (blockK id) = some (r, s') from e)
    have hs1 : s1 = s' := by
      cases q with
      | normal => cases (show some (Res.normal, s1) = some (r, s') from h2); rfl
      | ret => cases (show some (Res.ret, s1) = some (r, s') from h2); rfl
      | exit j =>
        have h3 : bE (Nat.beq j id) (some (Res.normal, s1)) (some (Res.exit j, s1)) = some (r, s') := h2
        cases hb : Nat.beq j id with
        | true => rw [hb, bE_true] at h3; cases h3; rfl
        | false => rw [hb, bE_false] at h3; cases h3; rfl
    subst hs1
    refine wp_block (hr b s q s1 N h1 hok B ρ G a w _ R fr fun ρ1 G1 a1 w1 R1 ev => ?_)
    cases q with
    | normal => cases (show some (Res.normal, s1) = some (r, s1) from h2); exact hQ ρ1 G1 a1 w1 R1 ev
    | ret => cases (show some (Res.ret, s1) = some (r, s1) from h2); exact hQ ρ1 G1 a1 w1 R1 ev
    | exit j =>
      have h3 : bE (Nat.beq j id) (some (Res.normal, s1)) (some (Res.exit j, s1)) = some (r, s1) := h2
      show (if j = id then Q .normal a1 w1 else Q (.exit j) a1 w1)
      cases hb : Nat.beq j id with
      | true => rw [hb, bE_true] at h3; cases h3; rw [if_pos (beq_true hb)]; exact hQ ρ1 G1 a1 w1 R1 ev
      | false => rw [hb, bE_false] at h3; cases h3; rw [if_neg (beq_false hb)]; exact hQ ρ1 G1 a1 w1 R1 ev
  | loop b => exact absurd rfl (hnl b)
  | exit id => cases e; exact wp_exit (hQ ρ G a w R (Ev.refl ..))
  | label l => cases e; exact wp_label (hQ ρ G a w R (Ev.refl ..))
  | ret => cases e; exact wp_ret (hQ ρ G a w R (Ev.refl ..))
  | _ => cases e
theorem seq_mono {rec : Rec} (hm : RecM rec) {b : Code} {q : Res} {s1 : St} {r : Res} {s' : St} (h : seqK rec b (q, s1) = some (r, s')) : Mono s1 s' := by
  cases q with
  | normal => exact hm _ _ _ _ (show rec b s1 = some (r, s') from h)
  | exit id => cases (show some (Res.exit id, s1) = some (r, s') from h); exact Mono.refl _
  | ret => cases (show some (Res.ret, s1) = some (r, s') from h); exact Mono.refl _
theorem loop_ok (n : Nat) (hall : ∀ k, k < n → RecS P (exec E k)) (b : Code) (s : St) (r : Res) (s' : St) (N : Nat) (e : exec E n (.loop b) s = some (r, s')) (hok : okCode N (.loop b) = true)
    (B : Nat) (ρ : Rho) (G : Hp) (a : Act) (w : World) (Q : Exit → Act → World → Prop) (R : Rel B N ρ G s a w) (fr : ∀ n, s.c ≤ n → n < s'.c → ρ n = none)
    (hQ : ∀ ρ' G' a' w', Rel B N ρ' G' s' a' w' → Ev B s ρ G w s' ρ' G' w' → Q (exitOf r) a' w') : (Code.loop b).wp P Q a w := by
  refine wp_loop_ghost (fun k a1 w1 => k ≤ n ∧ ∃ s1 ρ1 G1, exec E k (.loop b) s1 = some (r, s') ∧ Mono s s1 ∧ Rel B N ρ1 G1 s1 a1 w1 ∧ Ev B s ρ G w s1 ρ1 G1 w1) n ⟨Nat.le_refl _, s, ρ, G, e, Mono.refl _, R, Ev.refl ..⟩ ?_
  rintro k a1 w1 ⟨hk, s1, ρ1, G1, e1, m1, R1, ev1⟩
  cases k with
  | zero => cases e1
  | succ k =>
    obtain ⟨⟨q, s2⟩, h1, h2⟩ := oE_none_eq (show oE (exec E k b s1) none (seqK (exec E k) (.loop b)) = some (r, s') from e1)
    have m2 := Mono.exec E k _ _ _ _ h1
    have m3 := seq_mono (Mono.exec E k) h2
    have c1 := m1.cc; have c2 := m2.cc; have c3 := m3.cc
    refine hall k (by omega) b s1 q s2 N h1 hok B ρ1 G1 a1 w1 _ R1 (fun n h3 h4 => ?_) fun ρ2 G2 a2 w2 R2 ev2 => ?_
    · rw [ev1.out n (.inr (by omega))]; exact fr n (by omega) (by omega)
    · have ev := ev1.trans m1 m2 ev2
      cases q with
      | normal => exact ⟨k, by omega, by omega, s2, ρ2, G2, h2, m1.trans m2, R2, ev⟩
      | exit id => cases (show some (Res.exit id, s2) = some (r, s') from h2); exact hQ ρ2 G2 a2 w2 R2 ev
      | ret => cases (show some (Res.ret, s2) = some (r, s') from h2); exact hQ ρ2 G2 a2 w2 R2 ev
theorem exec_ok (hE : EnvOK P E) (hb : BodyOK E) : ∀ n, RecS P (exec E n) := by
  intro n
  induction n using Nat.strongRecOn with
  | _ n ih =>
    intro code s r s' N e hok B ρ G a w Q R fr hQ
    cases n with
    | zero => cases e
    | succ n =>
      by_cases hl : ∃ c, code = .loop c
      · obtain ⟨c, rfl⟩ := hl
        exact loop_ok (n + 1) ih c s r s' N e hok B ρ G a w Q R fr hQ
      · exact step_ok hE hb (Mono.exec E n) (ih n (Nat.lt_succ_self n)) code (fun c h => hl ⟨c, h⟩) s r s' N e hok B ρ G a w Q R fr hQ
end
end Go.Ab
