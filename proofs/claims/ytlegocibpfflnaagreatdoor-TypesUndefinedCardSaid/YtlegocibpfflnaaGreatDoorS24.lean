/- A part of an evaluator of the program's operations over values that are known whole or in part, and of the proof that what it answers holds of the program's run. No condition. -/
import Derived.Test.YtlegocibpfflnaaGreatDoorS23
namespace Go.Ab
open Go.RowKit (Below)
section
variable {P : Program} {E : Env} {rec : Rec} {ops : Array Oper} {p : List Ent} {S : Nat → St} {T : Nat → Stp}

/-- The invariant of a region that draws: R holds the operations that have still to come. -/
structure DInv (B N : Nat) (ops : Array Oper) (p : List Ent) (S : Nat → St) (T : Nat → Stp) (ρ0 : Rho) (G0 : Hp) (w0 : World) (R : List Nat) (listed : Array Bool) (ρ : Rho) (G : Hp) (a : Act) (w : World) : Prop where
  nd : R.Nodup
  lt : ∀ i ∈ R, i < ops.size
  ls : listed.size = ops.size
  li : ∀ i, i < ops.size → (listed.getD i true = false ↔ i ∈ R)
  cl : ∀ (k : Nat) (x : Ent), p[k]? = some x → x.i ∉ R → ∀ i, i < ops.size → bit x.m i = true → i ∉ R
  tm : ∀ k, k ≤ p.length → ∀ t, (∀ (j : Nat) (x : Ent), p[j]? = some x → x.o.dst = some t → (x.i ∉ R ↔ j < k)) → ∀ v, (S k).t.get t = some v → ∃ u, a.tmps[t]? = some u ∧ RV ρ v u
  hp : ∀ k, k ≤ p.length → ∀ nn, (∀ (j : Nat) (x : Ent), p[j]? = some x → tch S T j nn → (x.i ∉ R ↔ j < k)) → ∀ o, (S k).h.get nn = some o → G nn = some o
  rh : RH B ρ G w
  sz : B ≤ w.heap.size
  df : a.defers = []
  ts : N ≤ a.tmps.size
  fr : ∀ (k : Nat) (x : Ent), p[k]? = some x → x.i ∈ R → ∀ nn, (S k).c ≤ nn → nn < (S (k + 1)).c → ρ nn = none
  le : ρ0.le ρ
  out : ∀ nn, (nn < (S 0).c ∨ (S p.length).c ≤ nn) → ρ nn = ρ0 nn
  off : ∀ nn, (∀ (j : Nat) (x : Ent), p[j]? = some x → tch S T j nn → x.i ∈ R) → G nn = G0 nn
  bel : Below B w0 w

theorem runD_ok (hE : EnvOK P E) (hb : BodyOK E) (hm : RecM rec) (hr : RecS P rec) (D : Draw P E rec ops p S T) {B N : Nat} (hdst : ops.toList.all (dstOK N) = true) {ρ0 : Rho} {G0 : Hp} {w0 : World} {Q : Exit → Act → World → Prop}
    (hQ : ∀ ρ G a w, DInv B N ops p S T ρ0 G0 w0 [] (Array.replicate ops.size true) ρ G a w → Q .normal a w) :
    ∀ (fuel : Nat) (R : List Nat) (listed : Array Bool) (ρ : Rho) (G : Hp) (a : Act) (w : World), R.length ≤ fuel → DInv B N ops p S T ρ0 G0 w0 R listed ρ G a w → wpAny P .any ops Q fuel listed a w := by
  -- what is ready
  have some_ready : ∀ {R : List Nat} {listed : Array Bool} {ρ : Rho} {G : Hp} {a : Act} {w : World}, DInv B N ops p S T ρ0 G0 w0 R listed ρ G a w → Region.ready .any ops listed = [] → R = [] := by
    intro R listed ρ G a w I hre
    refine Classical.byContradiction fun hne => ?_
    have hex : ∃ i, i ∈ R := by
      cases R with
      | nil => exact absurd rfl hne
      | cons i r => exact ⟨i, by simp⟩
    have key : ∀ n i, i ≤ n → i ∈ R → False := by
      intro n
      induction n with
      | zero =>
        intro i hi hiR
        obtain rfl : i = 0 := (by omega)
        obtain ⟨k, x, hx, hxi⟩ := D.cover 0 (I.lt 0 hiR)
        have : 0 ∈ Region.ready .any ops listed := mem_ready.2 ⟨(I.li 0 (I.lt 0 hiR)).2 hiR, x.o, by rw [← hxi]; exact (D.op k x hx).1, fun g hg hgb => by
          have := D.edges k x hx g hg hgb
          omega⟩
        rw [hre] at this; simp at this
      | succ n ih =>
        intro i hi hiR
        obtain ⟨k, x, hx, hxi⟩ := D.cover i (I.lt i hiR)
        have : i ∈ Region.ready .any ops listed := mem_ready.2 ⟨(I.li i (I.lt i hiR)).2 hiR, x.o, by rw [← hxi]; exact (D.op k x hx).1, fun g hg hgb => by
          have hlt := D.edges k x hx g hg hgb
          have hgn : g.on < ops.size := by have := I.lt i hiR; omega
          have hnR : g.on ∉ R := fun h => ih g.on (by omega) h
          have h1 : listed.getD g.on true ≠ false := fun h => hnR ((I.li g.on hgn).1 h)
          have hsz : g.on < listed.size := by rw [I.ls]; exact hgn
          simp only [Array.getD_eq_getD_getElem?, Array.getElem?_eq_getElem hsz, Option.getD_some] at h1 ⊢
          simpa using h1⟩
        rw [hre] at this; simp at this
    obtain ⟨i, hi⟩ := hex
    exact key i i (Nat.le_refl _) hi
  have fin : ∀ {listed : Array Bool} {ρ : Rho} {G : Hp} {a : Act} {w : World}, DInv B N ops p S T ρ0 G0 w0 [] listed ρ G a w → Q .normal a w := by
    intro listed ρ G a w I
    exact hQ ρ G a w ⟨I.nd, I.lt, by simp, fun i hi => by simp [hi], I.cl, I.tm, I.hp, I.rh, I.sz, I.df, I.ts, I.fr, I.le, I.out, I.off, I.bel⟩
  intro fuel
  induction fuel with
  | zero =>
    intro R listed ρ G a w hf I
    obtain rfl : R = [] := List.eq_nil_of_length_eq_zero (by omega)
    refine ⟨?_, fin I⟩
    cases hre : Region.ready .any ops listed with
    | nil => rfl
    | cons i r =>
      have : i ∈ Region.ready .any ops listed := by rw [hre]; simp
      obtain ⟨h1, o, ho, _⟩ := mem_ready.1 this
      have hi : i < ops.size := (Array.getElem?_eq_some_iff.1 ho).1
      exact absurd ((I.li i hi).1 h1) (by simp)
  | succ fuel ih =>
    intro R listed ρ G a w hf I
    refine ⟨fun hre => ?_, fun i hi => ?_⟩
    · obtain rfl := some_ready I hre
      exact fin I
    · obtain ⟨h1, o, ho, hpre⟩ := mem_ready.1 hi
      have hin : i < ops.size := (Array.getElem?_eq_some_iff.1 ho).1
      have hiR : i ∈ R := (I.li i hin).1 h1
      obtain ⟨k, x, hx, hxi⟩ := D.cover i hin
      subst hxi
      obtain ⟨hxo, _, hxk⟩ := D.op k x hx
      rw [ho] at hxo; cases hxo
      have hk : k < p.length := (List.getElem?_eq_some_iff.1 hx).1
      -- what it waits for has come
      have hmask : ∀ j, j < ops.size → bit x.m j = true → j ∉ R := by
        intro j hj hbj
        obtain ⟨g, hg, hgb, hor⟩ := D.mask k x hx j hj hbj
        have hgl := D.edges k x hx g hg hgb
        have hgn : g.on < ops.size := by omega
        have hgR : g.on ∉ R := by
          have h2 := hpre g hg hgb
          intro hR
          have h3 := (I.li g.on hgn).2 hR
          have hsz : g.on < listed.size := by rw [I.ls]; exact hgn
          simp only [Array.getD_eq_getD_getElem?, Array.getElem?_eq_getElem hsz, Option.getD_some] at h2 h3
          rw [h2] at h3; cases h3
        rcases hor with h2 | h2
        · rw [← h2]; exact hgR
        · obtain ⟨k', y, hy, hyi⟩ := D.cover g.on hgn
          exact I.cl k' y hy (by rw [hyi]; exact hgR) j hj (h2 k' y hy hyi)
      -- an operation before it in the evaluation that has not come, and one behind it that has come, are free of it
      have before : ∀ (j : Nat) (y : Ent), p[j]? = some y → j < k → y.i ∈ R → bit x.m y.i = false := by
        intro j y hy _ hyR
        cases hbb : bit x.m y.i with
        | false => rfl
        | true => exact absurd hyR (hmask y.i (D.op j y hy).2.1 hbb)
      have behind : ∀ (j : Nat) (y : Ent), p[j]? = some y → y.i ∉ R → bit y.m x.i = false := by
        intro j y hy hyR
        cases hbb : bit y.m x.i with
        | false => rfl
        | true => exact absurd hiR (I.cl j y hy hyR x.i hin hbb)
      have tread : ∀ t, t ∈ x.o.looksAt ops → ∀ (j : Nat) (y : Ent), p[j]? = some y → y.o.dst = some t → (y.i ∉ R ↔ j < k) := by
        intro t ht j y hy hyt
        constructor
        · intro hyR
          rcases Nat.lt_trichotomy j k with h2 | h2 | h2
          · exact h2
          · subst h2
            rw [hx] at hy; cases hy
            exact absurd hiR hyR
          · rcases D.apart k j x y h2 hx hy with h3 | h3
            · rw [behind j y hy hyR] at h3; cases h3
            · exact absurd ht ((Oper.apart_spec h3).2.2 t hyt)
        · intro h2 hyR
          rcases D.apart j k y x h2 hy hx with h3 | h3
          · rw [before j y hy h2 hyR] at h3; cases h3
          · exact absurd ht ((Oper.apart_spec h3).1 t hyt)
      have htm : ∀ d v, d ∈ x.o.looksAt ops → (S k).t.get d = some v → ∃ u, a.tmps[d]? = some u ∧ RV ρ v u := fun d v hd => I.tm k (Nat.le_of_lt hk) d (tread d hd) v
      have hTO : TO ρ (S k).t a x.o.op.operands.toList := by
        intro q hq v hv
        cases q with
        | tmp t =>
          obtain ⟨u, hu, hru⟩ := htm t v (List.mem_append_left _ (List.mem_filterMap.2 ⟨.tmp t, hq, rfl⟩)) hv
          simpa [Act.eval, hu] using hru
        | const c => exact rv_cv ρ c v hv
        | global g => cases hv
        | func f => cases (show some (AV.fn f [] []) = some v from hv); exact .fn f [] [] #[] #[] .nil .nil
      have hR' : ∀ j, j ∈ R.erase x.i ↔ j ≠ x.i ∧ j ∈ R := fun j => I.nd.mem_erase_iff
      have hlen : (R.erase x.i).length ≤ fuel := by rw [List.length_erase_of_mem hiR]; omega
      have hdx : dstOK N x.o = true := List.all_eq_true.1 hdst x.o (by simpa using Array.mem_of_getElem? ho)
      have tother : ∀ (j : Nat) (y : Ent), p[j]? = some y → j ≠ k → (y.i ∈ R.erase x.i ↔ y.i ∈ R) := by
        intro j y hy hjk
        rw [hR']
        exact ⟨fun h => h.2, fun h => ⟨fun he => hjk (D.nodup j k y x hy hx he), h⟩⟩
      have kgone : x.i ∉ R.erase x.i := fun h => ((hR' _).1 h).1 rfl
      -- the parts of the invariant that the step has in common
      have common : ∀ (v : AV) (u : Value) (ρ' : Rho) (G' : Hp) (w' : World), (S (k + 1)).t = setD (S k).t x.o.dst v → RV ρ' v u → ρ.le ρ' →
          (∀ nn, ¬ tch S T k nn → G' nn = G nn) → (∀ nn o, tch S T k nn → (S (k + 1)).h.get nn = some o → G' nn = some o) → RH B ρ' G' w' → Below B w w' →
          (∀ nn, (nn < (S k).c ∨ (S (k + 1)).c ≤ nn) → ρ' nn = ρ nn) → (tchk : ∀ (nn j : Nat) (y : Ent), p[j]? = some y → k < j → y.i ∉ R → tch S T k nn → tch S T j nn → False) →
          DInv B N ops p S T ρ0 G0 w0 (R.erase x.i) (listed.setIfInBounds x.i true) ρ' G' (a.put x.o.dst u) w' := by
        intro v u ρ' G' w' hSt hv hle hoff hon hrh hbel hout htchk
        refine ⟨I.nd.erase _, fun j hj => I.lt j ((hR' j).1 hj).2, by simpa using I.ls, fun j hj => ?_, fun j y hy hyR q hq hqb hqR => ?_, fun k' hk' t hcond v' hv' => ?_, fun k' hk' nn hcond o' ho' => ?_, hrh,
          Nat.le_trans I.sz hbel.size, by rw [put_df]; exact I.df, by rw [put_size]; exact I.ts, fun j y hy hyR nn h2 h3 => ?_, Rho.le_trans I.le hle, fun nn hn => ?_, fun nn hn => ?_, I.bel.trans hbel⟩
        · by_cases hji : j = x.i
          · subst hji
            have hsz : x.i < listed.size := by rw [I.ls]; exact hin
            simp [hsz, kgone]
          · rw [getD_set_ne true (Ne.symm hji), I.li j hj, hR']
            exact ⟨fun h => ⟨hji, h⟩, fun h => h.2⟩
        · have hq2 := ((hR' q).1 hqR)
          by_cases hjk : j = k
          · subst hjk
            rw [hx] at hy; cases hy
            exact hmask q hq hqb hq2.2
          · exact I.cl j y hy (fun h => hyR ((tother j y hy hjk).2 h)) q hq hqb hq2.2
        · by_cases hdt : x.o.dst = some t
          · have hkk : k < k' := (hcond k x hx hdt).1 kgone
            have hbetween : ∀ (j : Nat) (y : Ent), k + 1 ≤ j → j < k' → p[j]? = some y → y.o.dst ≠ some t := by
              intro j y h2 h3 hy hyt
              have hyR : y.i ∉ R := fun h => (hcond j y hy hyt).2 h3 ((tother j y hy (by omega)).2 h)
              rcases D.apart k j x y (by omega) hx hy with h4 | h4
              · rw [behind j y hy hyR] at h4; cases h4
              · exact (Oper.apart_spec h4).2.1 t hdt hyt
            rw [D.tkeep (show k + 1 ≤ k' by omega) hk' hbetween, hSt, hdt, setD_same] at hv'
            cases hv'
            refine ⟨u, ?_, hv⟩
            have : t < a.tmps.size := Nat.lt_of_lt_of_le (dstOK_ok hdx t hdt) I.ts
            simp [Act.put, hdt, this]
          · have hcond' : ∀ (j : Nat) (y : Ent), p[j]? = some y → y.o.dst = some t → (y.i ∉ R ↔ j < k') := by
              intro j y hy hyt
              have hjk : j ≠ k := by rintro rfl; rw [hx] at hy; cases hy; exact hdt hyt
              rw [← hcond j y hy hyt, tother j y hy hjk]
            obtain ⟨u', h2, h3⟩ := I.tm k' hk' t hcond' v' hv'
            refine ⟨u', ?_, h3.mono hle⟩
            cases hd : x.o.dst with
            | none => exact h2
            | some d =>
              show (a.tmps.setIfInBounds d u)[t]? = some u'
              rw [Array.getElem?_setIfInBounds_ne (fun h => hdt (by rw [hd, h]))]
              exact h2
        · by_cases ht : tch S T k nn
          · have hkk : k < k' := (hcond k x hx ht).1 kgone
            have hbetween : ∀ j, k + 1 ≤ j → j < k' → ¬ tch S T j nn := by
              intro j h2 h3 hj
              have hy : p[j]? = some p[j] := List.getElem?_eq_getElem (show j < p.length by omega)
              have hyR : p[j].i ∉ R := fun h => (hcond j _ hy hj).2 h3 ((tother j _ hy (by omega)).2 h)
              exact htchk nn j _ hy (by omega) hyR ht hj
            rw [D.keep hm (show k + 1 ≤ k' by omega) hk' hbetween] at ho'
            exact hon nn o' ht ho'
          · rw [hoff nn ht]
            refine I.hp k' hk' nn (fun j y hy hj => ?_) o' ho'
            have hjk : j ≠ k := by rintro rfl; exact ht hj
            rw [← hcond j y hy hj, tother j y hy hjk]
        · have hjk : j ≠ k := by rintro rfl; rw [hx] at hy; cases hy; exact kgone hyR
          have hjR := (tother j y hy hjk).1 hyR
          have hj : j < p.length := (List.getElem?_eq_some_iff.1 hy).1
          rw [hout nn ?_]
          · exact I.fr j y hy hjR nn h2 h3
          · rcases Nat.lt_or_gt_of_ne hjk with h4 | h4
            · have := (D.mono hm (show j + 1 ≤ k by omega) (Nat.le_of_lt hk)).cc
              left; omega
            · have := (D.mono hm (show k + 1 ≤ j by omega) (Nat.le_of_lt hj)).cc
              right; omega
        · rw [hout nn, I.out nn hn]
          have m1 := (D.mono hm (Nat.zero_le k) (Nat.le_of_lt hk)).cc
          have m2 := (D.mono hm (show k + 1 ≤ p.length by omega) (Nat.le_refl _)).cc
          rcases hn with hn | hn
          · left; omega
          · right; omega
        · have hnt : ¬ tch S T k nn := fun h => kgone (hn k x hx h)
          rw [hoff nn hnt]
          refine I.off nn fun j y hy hj => ?_
          have hjk : j ≠ k := by rintro rfl; exact hnt hj
          exact (tother j y hy hjk).1 (hn j y hy hj)
      unfold wpOp
      simp only [ho]
      cases hon : (T k).on with
      | false =>
        have hw : wanted ops.toList (S k) x.o.guard = some false := by
          rcases D.step k x hx with ⟨h, _, _, _⟩ | ⟨_, h, _⟩
          · rw [hon] at h; cases h
          · exact h
        rw [if_neg (by rw [wanted_ok hw htm]; simp)]
        have hS := D.off hx hon
        refine ih _ _ ρ G _ w hlen (common (.tup []) undef ρ G w (by rw [hS, skipS_eq]) (.tup [] #[] .nil) (Rho.le_refl _) (fun _ _ => rfl) (fun nn o' ht _ => ?_) I.rh (Below.refl _ _) (fun _ _ => rfl) fun nn j y hy hj hyR ht => ?_)
        · have := ht.1; rw [hon] at this; cases this
        · have := ht.1; rw [hon] at this; cases this
      | true =>
        obtain ⟨hc, hh, hd, ht⟩ := D.ck hx hon
        have hw : wanted ops.toList (S k) x.o.guard = some true := by
          rcases D.step k x hx with ⟨_, h, _, _⟩ | ⟨h, _, _⟩
          · exact h
          · rw [hon] at h; cases h
        rw [if_pos (wanted_ok hw htm)]
        have hread : ∀ nn, reads S k x nn → ∀ b, (S k).h.get nn = some b → G nn = some b := by
          intro nn hrd b hgb
          refine I.hp k (Nat.le_of_lt hk) nn (fun j y hy hj => ?_) b hgb
          constructor
          · intro hyR
            rcases Nat.lt_trichotomy j k with h2 | h2 | h2
            · exact h2
            · subst h2
              rw [hx] at hy; cases hy
              exact absurd hiR hyR
            · exact ((D.clash hm h2 hx hy (behind j y hy hyR) hj.1).2.2 hon nn hrd hj).elim
          · intro h2 hyR
            exact (D.clash hm h2 hy hx (before j y hy h2 hyR) hon).2.1 nn hrd hj
        refine .inl (op_wp hE hb hm hr hd I.rh I.sz (D.wfk hm (Nat.le_of_lt hk)) hTO (fun nn h2 h3 => I.fr k x hx hiR nn h2 (by rw [hc]; exact h3))
          (fun hk1 nn hn b hgb => hread nn ⟨.inl ⟨by rw [hxk]; exact hk1, hn⟩, b, hgb⟩ b hgb) (fun hk2 nn b hgb => hread nn ⟨.inr (by rw [hxk]; exact hk2), b, hgb⟩ b hgb) fun u ρ' G' w' A => ?_)
        refine ih _ _ ρ' G' _ w' hlen (common (T k).v u ρ' G' w' ht A.rv A.le (fun nn hnt => ?_) (fun nn o' htc hg => ?_) A.rh A.bel (fun nn hn => A.out nn (by rw [← hc]; exact hn)) fun nn j y hy hj hyR htk htj => ?_)
        · have h2 : nn ∉ (T k).tl := fun h => hnt ⟨hon, .inl h⟩
          refine A.off nn h2 ?_
          rcases Nat.lt_or_ge nn (S k).c with h3 | h3
          · exact .inl h3
          · rcases Nat.lt_or_ge nn (S (k + 1)).c with h4 | h4
            · exact absurd ⟨hon, .inr ⟨h3, h4⟩⟩ hnt
            · rw [← hc]; exact .inr h4
        · refine A.on nn o' ?_ (by rw [← hh]; exact hg)
          rcases htc.2 with h2 | h2
          · exact .inl h2
          · rw [← hc]; exact .inr h2
        · exact (D.clash hm hj hx hy (behind j y hy hyR) htj.1).1 nn htk htj
end
end Go.Ab
