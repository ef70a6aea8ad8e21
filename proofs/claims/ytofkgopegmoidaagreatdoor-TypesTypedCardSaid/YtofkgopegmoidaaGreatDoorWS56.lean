/- A part of an evaluator of the program's operations over values that are known whole or in part, and of the proof that what it answers holds of the program's run. No condition. -/
import Derived.Test.YtofkgopegmoidaaGreatDoorWS55
import Derived.Test.YtofkgopegmoidaaGreatDoorWS42
namespace T1
open Go Go.Ab Go.Proofs
open Go.RowKit (Below)
theorem grp_eq : ∀ (n a tag : Nat) (l : List AV), grp a n tag l = true → l = opxL tag a n
  | 0, a, tag, l, h => by
    have h' : Nat.beq (len l) 0 = true := h
    have := beq_true h'
    rw [len_eq] at this
    exact List.eq_nil_of_length_eq_zero this
  | n + 1, a, tag, [], h => by cases h
  | n + 1, a, tag, x :: l, h => by
    have h' : (isOpx tag a x && grp (a + 1) n (tag + 1) l) = true := h
    rw [Bool.and_eq_true] at h'
    rw [grp_eq n (a + 1) (tag + 1) l h'.2]
    have hx : x = .opx tag a := by
      have h1 := h'.1
      cases x <;> try (cases h1; done)
      rename_i t i
      have h2 : (Nat.beq t tag && Nat.beq i a) = true := h1
      rw [Bool.and_eq_true] at h2
      rw [beq_true h2.1, beq_true h2.2]
    rw [hx]; rfl
theorem opxL_vals {ρ : Rho} : ∀ (n tag a : Nat) {xs : List Value}, RVs ρ (opxL tag a n) xs → xs.length = n ∧ ∀ j, j < n → ∃ L, ρ (a + j) = some L ∧ L.tag = tag + j ∧ xs[j]? = some L.val
  | 0, tag, a, xs, h => by
    have h' : RVs ρ [] xs := h
    cases h'
    exact ⟨rfl, fun j hj => absurd hj (by omega)⟩
  | n + 1, tag, a, xs, h => by
    have h' : RVs ρ (.opx tag a :: opxL (tag + 1) (a + 1) n) xs := h
    cases h' with
    | cons h1 h2 =>
      obtain ⟨k1, k2⟩ := opxL_vals n (tag + 1) (a + 1) h2
      refine ⟨by simp [k1], fun j hj => ?_⟩
      cases j with
      | zero =>
        cases h1 with
        | opx _ _ L hL ht _ => exact ⟨L, hL, ht, rfl⟩
      | succ j =>
        obtain ⟨L, l1, l2, l3⟩ := k2 j (by omega)
        exact ⟨L, by rw [show a + (j + 1) = a + 1 + j by omega]; exact l1, by omega, by simpa using l3⟩
section
variable {wb w0 : World} {gb m r B : Nat} {ρ : Rho} {G : Hp} {w : World}
theorem group_ex (J : InvG wb w0 gb m r B ρ G w) {a : Nat} {xs : List Value} (h : RVs ρ (opxL 10 a 7) xs) : ∃ ex, Good ex ∧ IsEx w (Tg w0 ρ G w) ex xs := by
  obtain ⟨hl, hv⟩ := opxL_vals 7 10 a h
  obtain ⟨L, h1, h2, _⟩ := hv 0 (by omega)
  obtain ⟨cs, ex, k1, k2, k3⟩ := J.tr a L h1 h2
  have : xs = cs := by
    apply List.ext_getElem?
    intro j
    by_cases hj : j < 7
    · obtain ⟨M, l1, _, l3⟩ := hv j hj
      obtain ⟨M', m1, _, m3⟩ := k3 j hj
      rw [l1] at m1; cases m1
      rw [l3, m3]
    · rw [List.getElem?_eq_none (by omega), List.getElem?_eq_none (by rw [k2.one.1]; omega)]
  subst this
  exact ⟨ex, k1, k2⟩
theorem cells_list {blk : Nat} : ∀ (l : List AV) (off : Nat), (∀ (i : Nat) (v : AV), l[i]? = some v → ∃ u, w.cell? ⟨blk, off + i, none⟩ = some u ∧ RV ρ v u) → ∃ xs, RVs ρ l xs ∧ ∀ (j : Nat) (u : Value), xs[j]? = some u → w.cell? ⟨blk, off + j, none⟩ = some u
  | [], off, _ => ⟨[], .nil, fun j u h => by simp at h⟩
  | v :: l, off, h => by
    obtain ⟨u, h1, h2⟩ := h 0 v rfl
    obtain ⟨xs, k1, k2⟩ := cells_list l (off + 1) fun i v hv => by
      obtain ⟨u, l1, l2⟩ := h (i + 1) v (by simpa using hv)
      exact ⟨u, by rw [show off + 1 + i = off + (i + 1) by omega]; exact l1, l2⟩
    refine ⟨u :: xs, .cons h2 k1, fun j u' hj => ?_⟩
    cases j with
    | zero => simp at hj; subst hj; exact h1
    | succ j => rw [show off + (j + 1) = off + 1 + j by omega]; exact k2 j u' (by simpa using hj)
theorem row_of (J : InvG wb w0 gb m r B ρ G w) {T : Nat → Prop} (hT : ∀ k, Tg w0 ρ G w k → T k) {blk : Nat} : ∀ (n : Nat) (l : List AV) (off : Nat), grps n l = true → (∀ (i : Nat) (v : AV), l[i]? = some v → ∃ u, w.cell? ⟨blk, off + i, none⟩ = some u ∧ RV ρ v u) →
    ∃ ys : List Ex, ys.length = n ∧ (∀ a ∈ ys, Good a) ∧ IsRow w T blk off ys
  | 0, l, off, _, _ => ⟨[], rfl, fun _ h => by simp at h, .nil⟩
  | n + 1, l, off, h, hc => by
    have h' : oE (takeN 7 l) false (fun q => grp (fstId q) 7 10 q && oE (dropN 7 l) false (fun l => grps n l)) = true := h
    cases ht : takeN 7 l with
    | none => rw [ht] at h'; cases h'
    | some q =>
      rw [ht, oE_some, Bool.and_eq_true] at h'
      cases hd : dropN 7 l with
      | none => rw [hd] at h'; exact absurd h'.2 (by simp [oE])
      | some l' =>
        rw [hd, oE_some] at h'
        obtain ⟨rfl, hle⟩ := takeN_eq _ _ _ ht
        obtain ⟨rfl, _⟩ := dropN_eq _ _ _ hd
        have hq := grp_eq _ _ _ _ h'.1
        obtain ⟨xs, x1, x2⟩ := cells_list (ρ := ρ) (w := w) (blk := blk) (l.take 7) off fun i v hv => hc i v (by
          rw [List.getElem?_take] at hv
          split at hv
          · exact hv
          · cases hv)
        rw [hq] at x1
        obtain ⟨ex, g1, g2⟩ := group_ex J x1
        obtain ⟨ys, y1, y2, y3⟩ := row_of J hT n (l.drop 7) (off + 7) h'.2 fun i v hv => by
          obtain ⟨u, l1, l2⟩ := hc (7 + i) v (by rw [List.getElem?_drop] at hv; exact hv)
          exact ⟨u, by rw [show off + 7 + i = off + (7 + i) by omega]; exact l1, l2⟩
        refine ⟨ex :: ys, by simp [y1], fun a ha => ?_, .cons (g2.mono hT (fun _ _ => rfl)) x2 y3⟩
        rcases List.mem_cons.1 ha with rfl | ha
        · exact g1
        · exact y2 a ha
end
theorem isF_eq {v : AV} (h : isF v = true) : v = .bool false := by
  unfold isF at h
  cases hb : asBool v with
  | none => rw [hb] at h; cases h
  | some b => rw [hb] at h; cases b with
    | true => cases h
    | false => exact asBool_eq hb
theorem isE_eq {v : AV} (h : isE v = true) : v = .str [] := by
  unfold isE at h
  cases hb : asStr v with
  | none => rw [hb] at h; cases h
  | some b => rw [hb] at h; cases b with
    | cons => cases h
    | nil => exact asStr_eq hb
theorem isM_eq {v : AV} (h : isM v = true) : ∃ n : Nat, n ≤ 60 ∧ v = .str (if n = 0 then [] else [n]) := by
  unfold isM at h
  cases hb : asStr v with
  | none => rw [hb] at h; cases h
  | some b =>
    rw [hb, oE_some] at h
    match b, h with
    | [], h => exact ⟨0, by omega, asStr_eq hb⟩
    | [x], h =>
      have h' : (Nat.ble 1 x && Nat.ble x 60) = true := h
      rw [Bool.and_eq_true] at h'
      have h1 := ble_true h'.1
      have h2 := ble_true h'.2
      exact ⟨x, h2, by rw [if_neg (by omega)]; exact asStr_eq hb⟩
    | _ :: _ :: _, h => cases h
section
variable {wb w : World} {gb m r : Nat}
/-- what the run's end says -/
theorem close {ρ : Rho} {G : Hp} {v : AV} {h : Tr AB} {c : Nat} {tl : List Nat} {u : Value} {ρ' : Rho} {G' : Hp} {w' : World} (A : Aft gb ρ G w sG v h c tl u ρ' G' w') (J : InvG wb w gb m r gb ρ' G' w') (hc : closeB (.ok v h c tl) = true) : GrowRes wb gb w (.returned u) w' := by
  have tgm : ∀ k, Tg w ρ' G' w' k → (w.heap.size ≤ k ∧ k < w'.heap.size) := fun k hk => ⟨hk.1, hk.2.1⟩
  have key : ∃ (cs : List Value) (ex : Ex), u = .agg cs.toArray ∧ Good ex ∧ IsEx w' (fun k => w.heap.size ≤ k ∧ k < w'.heap.size) ex cs := by
    have h1 : oE (asAgg v) false (fun l => grp (fstId l) 7 10 l || closeL h l) = true := hc
    cases hv : asAgg v with
    | none => rw [hv] at h1; cases h1
    | some l =>
      obtain rfl := asAgg_eq hv
      rw [hv, oE_some] at h1
      have hu := A.rv
      cases hu with
      | agg _ X hX =>
        obtain ⟨X⟩ := X
        rcases Bool.or_eq_true _ _ ▸ h1 with h1 | h1
        · have := grp_eq _ _ _ _ h1
          rw [this] at hX
          obtain ⟨ex, g1, g2⟩ := group_ex J hX
          exact ⟨X, ex, rfl, g1, g2.mono tgm (fun _ _ => rfl)⟩
        · unfold closeL at h1
          split at h1
          · rename_i op nm b1 m1 b2 m2 s h1o
            rw [Bool.and_eq_true, Bool.and_eq_true, Bool.and_eq_true, Bool.and_eq_true] at h1
            obtain ⟨⟨⟨⟨c1, c2⟩, c3⟩, c4⟩, c5⟩ := h1
            obtain rfl := isF_eq c1
            obtain rfl := isF_eq c3
            obtain rfl := isE_eq c4
            obtain ⟨n, hn, rfl⟩ := isM_eq c2
            match X, hX with
            | [x0, x1, x2, x3, x4, x5, x6], .cons r0 (.cons r1 (.cons r2 (.cons r3 (.cons r4 (.cons r5 (.cons r6 .nil)))))) =>
              cases r0; cases r2; cases r4
              obtain ⟨s1, rfl, _⟩ := rv_str r1
              obtain ⟨s3, rfl, e3⟩ := rv_str r3
              obtain ⟨s5, rfl, e5⟩ := rv_str r5
              have nok : NumOK false s3 false s5 := ⟨n, by omega, by omega, by simp, by rw [e3]; by_cases h0 : n = 0 <;> simp [h0], rfl, e5⟩
              have fin : ∀ ys : List Ex, ys.length ≤ 3 → (∀ a ∈ ys, Good a) → IsSl w' (fun k => w.heap.size ≤ k ∧ k < w'.heap.size) ys x6 → ∃ (cs : List Value) (ex : Ex), Value.agg #[.int .i64 op, .string s1, .bool false, .string s3, .bool false, .string s5, x6] = .agg cs.toArray ∧ Good ex ∧ IsEx w' (fun k => w.heap.size ≤ k ∧ k < w'.heap.size) ex cs :=
                fun ys y1 y2 y3 => ⟨[.int .i64 op, .string s1, .bool false, .string s3, .bool false, .string s5, x6], .mk op s1 false s3 false s5 ys, rfl, .mk y1 nok y2, .mk y3⟩
              unfold isSlA at c5
              split at c5
              · cases r6
                exact fin [] (by simp) (fun _ h => by simp at h) .nil
              · next n' l cap =>
                rw [Bool.and_eq_true, Bool.and_eq_true, Bool.and_eq_true] at c5
                obtain ⟨⟨⟨d1, d2⟩, d3⟩, d4⟩ := c5
                have l1 := ble_true d1
                have l3 := ble_true d2
                cases hw : wcells h n' with
                | none => rw [hw] at d4; cases d4
                | some p =>
                  obtain ⟨k, cc⟩ := p
                  rw [hw, oE_some, pE_mk] at d4
                  obtain ⟨hg, hk⟩ := wcells_eq hw
                  have hG' : G' n' = some (.cells k cc) := by
                    by_cases hin : n' ∈ tl ∨ (sG.c ≤ n' ∧ n' < c)
                    · exact A.on _ _ hin hg
                    · exfalso
                      have hin1 : n' ∉ tl := fun h => hin (.inl h)
                      have hin2 : n' < sG.c ∨ c ≤ n' := by
                        by_cases h7 : sG.c ≤ n'
                        · refine .inr ?_
                          by_cases h8 : n' < c
                          · exact absurd (.inr ⟨h7, h8⟩) hin
                          · omega
                        · exact .inl (by omega)
                      have h9 := A.kp n' hin1 hin2
                      rw [hg] at h9
                      have h10 : ((Tr.lf : Tr AB).set 0 (.cells .ro [.op 90, .nils])).get n' = some (.cells k cc) := h9.symm
                      rw [Tr.get_set] at h10
                      by_cases h0 : n' = 0
                      · rw [if_pos h0] at h10; cases h10; exact hk rfl
                      · rw [if_neg h0] at h10; simp at h10
                  obtain ⟨L, hL, hrb⟩ := A.rh.blk n' _ hG'
                  have hown := J.own n' _ L hG' (own_of hk) hL
                  have hin := A.rh.inn n' L hL
                  obtain ⟨ys, y1, y2, y3⟩ := row_of J tgm (blk := L.blk) l cc L.base d4 fun i v hv => hrb.1 i v hv
                  have fin2 : ∀ cp, l ≤ cp → x6 = .slice (some ⟨L.blk, L.base + 0, none⟩) l cp → ∃ (cs : List Value) (ex : Ex), Value.agg #[.int .i64 op, .string s1, .bool false, .string s3, .bool false, .string s5, x6] = .agg cs.toArray ∧ Good ex ∧ IsEx w' (fun k => w.heap.size ≤ k ∧ k < w'.heap.size) ex cs := by
                    intro cp hcp hx6
                    cases ys with
                    | nil => simp at y1; omega
                    | cons a ys =>
                      refine fin (a :: ys) (by omega) y2 ?_
                      rw [hx6, ← y1]
                      exact .row (by omega) ⟨hown, hin⟩ y3
                  cases r6 with
                  | slf _ _ _ c2 M hM => rw [hL] at hM; cases hM; exact fin2 c2 (ble_true d3) rfl
                  | sle _ _ _ z cp M hM _ hle => rw [hL] at hM; cases hM; exact fin2 cp hle rfl
                  | slz => omega
                  | slx => omega
              · cases c5
          · cases h1
  obtain ⟨cs, ex, rfl, h1, h2⟩ := key
  exact ⟨cs, ex, rfl, h1, h2, A.bel, J.sz, J.old, J.gs⟩
end
end T1
