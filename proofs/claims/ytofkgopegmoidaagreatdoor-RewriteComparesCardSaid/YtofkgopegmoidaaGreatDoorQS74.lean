/- A part of an evaluator of the program's operations over values that are known whole or in part, and of the proof that what it answers holds of the program's run. No condition. -/
import Derived.Test.YtofkgopegmoidaaGreatDoorQS71
namespace T1
open Go Go.Ab Go.Proofs
open Go.RowKit (Below)
theorem fn13 : T1.E.fn.get 13 = some Tryz.f13 := by kernel_rfl
theorem body13 : Tryz.f13.body = some (bodyOf Tryz.f13) := by kernel_rfl
theorem run3_ok {m n r q : Int} (h1 : Sg m) (h2 : Sg n) (h3 : Sg r) (h4 : Sg q) (ht : m ≤ 0 → n ≤ 0 → r ≤ 0) : run3 m n r q = true := by
  have hc : chk3 m = true := by
    rcases h1 with h | h | h
    · obtain rfl : m = Int.negSucc 0 := h
      exact c3a
    · obtain rfl : m = Int.ofNat 0 := h
      exact c3b
    · obtain rfl : m = Int.ofNat 1 := h
      exact c3c
  have h5 : bE (bad m n r) true (run3 m n r q) = true := allB_ok (allB_ok (allB_ok hc n (sgn_mem h2)) r (sgn_mem h3)) q (sgn_mem h4)
  have hb : bad m n r = false := by
    have pe : ∀ x, pos x = decide (0 < x) := fun x => by unfold pos; rw [ilt_eq]; rfl
    unfold bad
    rw [pe, pe, pe]
    by_cases k1 : 0 < m
    · simp [k1]
    · by_cases k2 : 0 < n
      · simp [k2]
      · have := ht (by omega) (by omega)
        have k3 : ¬ 0 < r := by omega
        simp [k3]
  rw [hb, bE_false] at h5
  exact h5
section
variable {ex ey ez : Ex} {X Y Z : List Value} {w : World} {p0 p1 p2 : Nat}
def tab3 (X Y Z : List Value) (n : Nat) : Option Value := if n < 20 then X[n - 10]? else if n < 30 then Y[n - 20]? else if n < 37 then Z[n - 30]? else none
def rho3 (p0 p1 p2 : Nat) (X Y Z : List Value) : Rho := fun n => if n = 0 then some ⟨p0, 0, 0, undef, 0⟩ else if n = 1 then some ⟨p1, 0, 0, undef, 0⟩ else if n = 2 then some ⟨p2, 0, 0, undef, 0⟩ else if 10 ≤ n then (tab3 X Y Z n).map vloc else none
theorem rho3_x {j : Nat} (h : j < 7) : rho3 p0 p1 p2 X Y Z (10 + j) = (X[j]?).map vloc := by
  unfold rho3 tab3
  rw [if_neg (by omega), if_neg (by omega), if_neg (by omega), if_pos (by omega), if_pos (by omega), show 10 + j - 10 = j by omega]
theorem rho3_y {j : Nat} (h : j < 7) : rho3 p0 p1 p2 X Y Z (20 + j) = (Y[j]?).map vloc := by
  unfold rho3 tab3
  rw [if_neg (by omega), if_neg (by omega), if_neg (by omega), if_pos (by omega), if_neg (by omega), if_pos (by omega), show 20 + j - 20 = j by omega]
theorem rho3_z {j : Nat} (h : j < 7) : rho3 p0 p1 p2 X Y Z (30 + j) = (Z[j]?).map vloc := by
  unfold rho3 tab3
  rw [if_neg (by omega), if_neg (by omega), if_neg (by omega), if_pos (by omega), if_neg (by omega), if_neg (by omega), if_pos (by omega), show 30 + j - 30 = j by omega]
theorem rho3_loc {n : Nat} {L : Go.Ab.Loc} (h : rho3 p0 p1 p2 X Y Z n = some L) : L.blk = p0 ∨ L.blk = p1 ∨ L.blk = p2 ∨ L.blk = 0 := by
  unfold rho3 at h
  split at h
  · cases h; exact .inl rfl
  · split at h
    · cases h; exact .inr (.inl rfl)
    · split at h
      · cases h; exact .inr (.inr (.inl rfl))
      · split at h
        · rw [Option.map_eq_some_iff] at h
          obtain ⟨v, _, rfl⟩ := h
          exact .inr (.inr (.inr rfl))
        · cases h
theorem rho3_big {n : Nat} (h : 50 ≤ n) : rho3 p0 p1 p2 X Y Z n = none := by
  unfold rho3 tab3
  rw [if_neg (by omega), if_neg (by omega), if_neg (by omega), if_pos (by omega), if_neg (by omega), if_neg (by omega), if_neg (by omega)]; rfl
theorem h3_get {n : Nat} {o : AB} (h : h3T.get n = some o) : (n = 0 ∧ o = .cells .ro (opsL 10 7)) ∨ (n = 1 ∧ o = .cells .ro (opsL 20 7)) ∨ (n = 2 ∧ o = .cells .ro (opsL 30 7)) := by
  have h' : (((Tr.lf.set 0 (.cells .ro (opsL 10 7))).set 1 (.cells .ro (opsL 20 7))).set 2 (.cells .ro (opsL 30 7))).get n = some o := h
  rw [Tr.get_set, Tr.get_set, Tr.get_set] at h'
  by_cases h1 : n = 2
  · rw [if_pos h1] at h'; cases h'; exact .inr (.inr ⟨h1, rfl⟩)
  rw [if_neg h1] at h'
  by_cases h2 : n = 1
  · rw [if_pos h2] at h'; cases h'; exact .inr (.inl ⟨h2, rfl⟩)
  rw [if_neg h2] at h'
  by_cases h3 : n = 0
  · rw [if_pos h3] at h'; cases h'; exact .inl ⟨h3, rfl⟩
  rw [if_neg h3] at h'; simp at h'
theorem t3_get {n : Nat} {v : AV} (h : t3T.get n = some v) : (n = 7 ∧ v = .ptr 0 0) ∨ (n = 8 ∧ v = .ptr 1 0) ∨ (n = 9 ∧ v = .ptr 2 0) := by
  have h' : (((Tr.lf.set 7 (.ptr 0 0)).set 8 (.ptr 1 0)).set 9 (.ptr 2 0)).get n = some v := h
  rw [Tr.get_set, Tr.get_set, Tr.get_set] at h'
  by_cases h1 : n = 9
  · rw [if_pos h1] at h'; cases h'; exact .inr (.inr ⟨h1, rfl⟩)
  rw [if_neg h1] at h'
  by_cases h2 : n = 8
  · rw [if_pos h2] at h'; cases h'; exact .inr (.inl ⟨h2, rfl⟩)
  rw [if_neg h2] at h'
  by_cases h3 : n = 7
  · rw [if_pos h3] at h'; cases h'; exact .inl ⟨h3, rfl⟩
  rw [if_neg h3] at h'; simp at h'
/-- an argument, by its cells' names -/
theorem arg_of {ρ ρ0 : Rho} {a : Nat} {v : AV} {u : Value} {V : List Value} (le : ρ0.le ρ) (hV : V.length = 7) (hr : ∀ j, j < 7 → ρ0 (a + j) = (V[j]?).map vloc) (h : opsAt 7 v = some a) (hv : RV ρ v u) : u = .agg V.toArray := by
  obtain ⟨xa, rfl, hxa, hxa2⟩ := opsAt_rv h hv
  congr 1
  refine agg_of hxa hV fun j hj => ?_
  obtain ⟨L, hL, hLx⟩ := hxa2 j hj
  have hg : V[j]? = some V[j] := List.getElem?_eq_getElem (by omega)
  have h1 := hr j hj
  rw [hg] at h1
  have := le _ _ h1
  rw [hL] at this; cases this
  rw [hLx, hg]; rfl
variable (gx : Good ex) (gy : Good ey) (gz : Good ez) (hX : IsEx w (· < w.heap.size) ex X) (hY : IsEx w (· < w.heap.size) ey Y) (hZ : IsEx w (· < w.heap.size) ez Z) (h0 : 0 < w.heap.size)
include gx gy gz hX hY hZ h0 in
theorem conT_ok : ConOK Tryz.prog (conT (cmpE ex ey) (cmpE ey ez) (cmpE ex ez) (cmpE ey ex)) (invC (rho3 p0 p1 p2 X Y Z) w) := by
  intro f k hk h c args v m o hkm B ρ G w1 zs hz inv1 rh1 hB hp fr
  have le := inv1.1
  have hw1 : 0 < w1.heap.size := Nat.lt_of_lt_of_le h0 inv1.2.1
  have pers : ∀ {e : Ex} {cs : List Value}, IsEx w (· < w.heap.size) e cs → IsEx w1 (· < w1.heap.size) e cs := fun h => h.mono (fun k hk => Nat.lt_of_lt_of_le hk inv1.2.1) (fun k hk => inv1.2.2.1 k hk)
  have ax : ∀ {v : AV} {u : Value}, opsAt 7 v = some 10 → RV ρ v u → u = .agg X.toArray := fun h hv => arg_of le hX.one.1 (fun j hj => rho3_x hj) h hv
  have ay : ∀ {v : AV} {u : Value}, opsAt 7 v = some 20 → RV ρ v u → u = .agg Y.toArray := fun h hv => arg_of le hY.one.1 (fun j hj => rho3_y hj) h hv
  have az : ∀ {v : AV} {u : Value}, opsAt 7 v = some 30 → RV ρ v u → u = .agg Z.toArray := fun h hv => arg_of le hZ.one.1 (fun j hj => rho3_z hj) h hv
  have tab : ∀ {tb : List (Nat × Nat × AV)}, pairK 7 tb h c args = some (v, m, o) → ∃ p q a b, args = [p, q] ∧ opsAt 7 p = some a ∧ opsAt 7 q = some b ∧ (a, b, v) ∈ tb ∧ m = 0 ∧ o = none := by
    intro tb e
    obtain ⟨e1, rfl, rfl⟩ := res0_eq e
    obtain ⟨p, q, rfl, e2⟩ := two_eq e1
    obtain ⟨a, hpa, e3⟩ := oE_none_eq e2
    obtain ⟨b, hqb, e4⟩ := oE_none_eq e3
    exact ⟨p, q, a, b, rfl, hpa, hqb, tab_eq e4, rfl, rfl⟩
  have ints : ∀ f, (∀ {e1 e2 : Ex} {U V : List Value}, Good e1 → Good e2 → IsEx w1 (· < w1.heap.size) e1 U → IsEx w1 (· < w1.heap.size) e2 V → Calls Tryz.prog f #[.agg U.toArray, .agg V.toArray] w1 fun e w' => e = .returned (.int .i64 (cmpE e1 e2)) ∧ Below w1.heap.size w1 w') →
      pairK 7 (tabI (cmpE ex ey) (cmpE ey ez) (cmpE ex ez) (cmpE ey ex)) h c args = some (v, m, o) → Calls Tryz.prog f zs.toArray w1 fun e w' => ∃ u ρ', e = .returned u ∧ ρ.le ρ' ∧ (∀ n, (n < c ∨ c + m ≤ n) → ρ' n = ρ n) ∧ RV ρ' v u ∧ RH B ρ' (updG G o) w' ∧ Below B w1 w' ∧ invC (rho3 p0 p1 p2 X Y Z) w B ρ' (updG G o) w' := by
    intro f hf e
    obtain ⟨p, q, a, b, rfl, hpa, hqb, hm, rfl, rfl⟩ := tab e
    cases hz with
    | cons hz1 hz2 => cases hz2 with
      | cons hz2 hz3 =>
        cases hz3
        simp only [tabI, List.mem_cons, List.mem_nil_iff, or_false, Prod.mk.injEq] at hm
        rcases hm with ⟨rfl, rfl, rfl⟩ | ⟨rfl, rfl, rfl⟩ | ⟨rfl, rfl, rfl⟩ | ⟨rfl, rfl, rfl⟩
        · obtain rfl := ax hpa hz1
          obtain rfl := ay hqb hz2
          exact con_wrap rh1 inv1 hB (.int _ _) (hf gx gy (pers hX) (pers hY))
        · obtain rfl := ay hpa hz1
          obtain rfl := az hqb hz2
          exact con_wrap rh1 inv1 hB (.int _ _) (hf gy gz (pers hY) (pers hZ))
        · obtain rfl := ax hpa hz1
          obtain rfl := az hqb hz2
          exact con_wrap rh1 inv1 hB (.int _ _) (hf gx gz (pers hX) (pers hZ))
        · obtain rfl := ay hpa hz1
          obtain rfl := ax hqb hz2
          exact con_wrap rh1 inv1 hB (.int _ _) (hf gy gx (pers hY) (pers hX))
  have hk' : (((Tr.lf.set 11 (pairK 7 (tabI (cmpE ex ey) (cmpE ey ez) (cmpE ex ez) (cmpE ey ex)))).set 12 (pairK 7 (tabI (cmpE ex ey) (cmpE ey ez) (cmpE ex ez) (cmpE ey ex)))).set 13 (pairK 7 (tabB (cmpE ex ey)))).get f = some k := hk
  rw [Tr.get_set, Tr.get_set, Tr.get_set] at hk'
  by_cases h1 : f = 13
  · rw [if_pos h1] at hk'; cases hk'; subst h1
    refine ⟨has fn13 body13, ?_⟩
    obtain ⟨p, q, a, b, rfl, hpa, hqb, hm, rfl, rfl⟩ := tab hkm
    cases hz with
    | cons hz1 hz2 => cases hz2 with
      | cons hz2 hz3 =>
        cases hz3
        simp only [tabB, List.mem_cons, List.mem_nil_iff, or_false, Prod.mk.injEq] at hm
        rcases hm with ⟨rfl, rfl, rfl⟩ | ⟨rfl, rfl, rfl⟩
        · obtain rfl := ax hpa hz1
          obtain rfl := ay hqb hz2
          refine con_wrap rh1 inv1 hB ?_ (equal13 gx gy hw1 (pers hX) (pers hY))
          have : ieq (cmpE ex ey) (.ofNat .zero) = decide (cmpE ex ey = 0) := by
            rw [ieq_eq]
            by_cases hc : cmpE ex ey = 0
            · rw [hc]; rfl
            · have : (cmpE ex ey == Int.ofNat Nat.zero) = false := by simpa using hc
              rw [this]; simp [hc]
          rw [this]; exact .bool _
        · obtain rfl := ax hpa hz1
          obtain rfl := ax hqb hz2
          refine con_wrap rh1 inv1 hB ?_ (equal13 gx gx hw1 (pers hX) (pers hX))
          rw [cmpE_refl]; exact .bool true
  rw [if_neg h1] at hk'
  by_cases h2 : f = 12
  · rw [if_pos h2] at hk'; cases hk'; subst h2
    exact ⟨has fn12 body12, ints 12 (fun g1 g2 i1 i2 => cmp12 g1 g2 hw1 i1 i2) hkm⟩
  rw [if_neg h2] at hk'
  by_cases h3 : f = 11
  · rw [if_pos h3] at hk'; cases hk'; subst h3
    exact ⟨has fn11 body11, ints 11 (fun g1 g2 i1 i2 => cmp11 g1 g2 hw1 i1 i2) hkm⟩
  rw [if_neg h3] at hk'; simp at hk'
end
end T1
namespace T1
open Go Go.Ab Go.Proofs
open Go.RowKit (Below)
theorem isNorm_eq {x : Res} (h : isNorm x = true) : x = .normal := by cases x <;> first | rfl | cases h
theorem run3_eq {m n r q : Int} (h : run3 m n r q = true) : ∃ s1 x s2 h' c tl, exec (ET m n r q) 2000 D4 s3T = some (.normal, s1) ∧ exec (ET m n r q) 2000 D5 s1 = some (x, s2) ∧ endF (ET m n r q) Tryz.f3 (x, s2) = .ok (.bool true) h' c tl := by
  have h1 : oE (exec (ET m n r q) 2000 D4 s3T) false (fun p => pE p (fun x s1 => isNorm x && endT (ET m n r q) Tryz.f3 (exec (ET m n r q) 2000 D5 s1))) = true := h
  cases h2 : exec (ET m n r q) 2000 D4 s3T with
  | none => rw [h2] at h1; cases h1
  | some p =>
    obtain ⟨x, s1⟩ := p
    rw [h2, oE_some, pE_mk, Bool.and_eq_true] at h1
    obtain rfl := isNorm_eq h1.1
    obtain ⟨y, s2, h', c, tl, h3, h4⟩ := endT_eq h1.2
    exact ⟨s1, y, s2, h', c, tl, rfl, h3, h4⟩
section
variable {ex ey ez : Ex} {X Y Z : List Value} {w : World} {p0 p1 p2 : Nat}
theorem blk_of {p : Nat} {V : List Value} {a : Nat} {B : Nat} {ρ : Rho} (hV : V.length = 7) (hone : ∀ u ∈ V, u.oneCell' = true) (hr : ∀ j, j < 7 → ρ (a + j) = (V[j]?).map vloc) (hc : ∀ (j : Nat) (u : Value), V[j]? = some u → w.cell? ⟨p, j, none⟩ = some u) : RB B ρ w ⟨p, 0, 0, undef, 0⟩ (.cells .ro (opsL a 7)) := by
  refine ⟨fun i v hv => ?_, trivial⟩
  obtain ⟨rfl, hi⟩ := opsL_get _ _ _ _ hv
  have hg : V[i]? = some V[i] := List.getElem?_eq_getElem (by omega)
  have h1 := hr i hi
  rw [hg] at h1
  have hadr : (Go.Ab.Loc.mk p 0 0 undef 0).adr i = ⟨p, i, none⟩ := by simp [Loc.adr]
  exact ⟨V[i], by rw [hadr]; exact hc i _ hg, .op _ (vloc V[i]) h1 (hone _ (List.mem_of_getElem? hg))⟩
theorem tail3 (gx : Good ex) (gy : Good ey) (gz : Good ez) (hX : IsEx w (· < w.heap.size) ex X) (hY : IsEx w (· < w.heap.size) ey Y) (hZ : IsEx w (· < w.heap.size) ez Z)
    (l0 : p0 < w.heap.size) (l1 : p1 < w.heap.size) (l2 : p2 < w.heap.size) (e0 : ∀ (j : Nat) (u : Value), X[j]? = some u → w.cell? ⟨p0, j, none⟩ = some u) (e1 : ∀ (j : Nat) (u : Value), Y[j]? = some u → w.cell? ⟨p1, j, none⟩ = some u) (e2 : ∀ (j : Nat) (u : Value), Z[j]? = some u → w.cell? ⟨p2, j, none⟩ = some u)
    {a : Act} (t7 : a.tmps[7]? = some (.pointer (some ⟨p0, 0, none⟩))) (t8 : a.tmps[8]? = some (.pointer (some ⟨p1, 0, none⟩))) (t9 : a.tmps[9]? = some (.pointer (some ⟨p2, 0, none⟩))) (hd : a.defers = []) (hs : Tryz.f3.ntmps ≤ a.tmps.size)
    {K : Act → World → Prop} {R : Ending → World → Prop} (hK : ∀ a w, D5.wp Tryz.prog (bodyPost Tryz.prog Tryz.f3 R) a w → K a w) (hR : ∀ w', Below w.heap.size w w' → R (.returned (.bool true)) w') :
    D4.wp Tryz.prog (Exit.then K (bodyPost Tryz.prog Tryz.f3 R)) a w := by
  have h0 : 0 < w.heap.size := by omega
  obtain ⟨s1, x, s2, h', c, tl, x1, x2, x3⟩ := run3_eq (run3_ok (cmpE_sg ex ey) (cmpE_sg ey ez) (cmpE_sg ex ez) (cmpE_sg ey ex) (fun h1 h2 => cmpE_trans h1 h2))
  have hctx : Ctx Tryz.prog (ET (cmpE ex ey) (cmpE ey ez) (cmpE ex ez) (cmpE ey ex)) (invC (rho3 p0 p1 p2 X Y Z) w) := ⟨envOK_con _, invC_ok _ _, conT_ok gx gy gz hX hY hZ h0⟩
  have inn : ∀ n L, rho3 p0 p1 p2 X Y Z n = some L → L.blk < w.heap.size := by
    intro n L hL
    rcases rho3_loc hL with h | h | h | h <;> omega
  have own : ∀ n o, h3T.get n = some o → o.own = false := by
    intro n o hg
    rcases h3_get hg with ⟨_, rfl⟩ | ⟨_, rfl⟩ | ⟨_, rfl⟩ <;> rfl
  have rh : RH w.heap.size (rho3 p0 p1 p2 X Y Z) (fun n => h3T.get n) w := by
    refine ⟨fun n o hg => ?_, fun n k a b L M hn _ _ _ _ ho => ?_, inn⟩
    · rcases h3_get hg with ⟨rfl, rfl⟩ | ⟨rfl, rfl⟩ | ⟨rfl, rfl⟩
      · exact ⟨_, rfl, blk_of hX.one.1 hX.one.2 (fun j hj => rho3_x hj) e0⟩
      · exact ⟨_, rfl, blk_of hY.one.1 hY.one.2 (fun j hj => rho3_y hj) e1⟩
      · exact ⟨_, rfl, blk_of hZ.one.1 hZ.one.2 (fun j hj => rho3_z hj) e2⟩
    · rw [own n a hn] at ho; cases ho
  have inv : invC (rho3 p0 p1 p2 X Y Z) w w.heap.size (rho3 p0 p1 p2 X Y Z) (fun n => h3T.get n) w := ⟨Rho.le_refl _, Nat.le_refl _, fun _ _ => rfl, fun n o L hn ho _ => by rw [own n o hn] at ho; cases ho⟩
  have tm : TM (rho3 p0 p1 p2 X Y Z) s3T.t a := by
    intro i v hv
    rcases t3_get hv with ⟨rfl, rfl⟩ | ⟨rfl, rfl⟩ | ⟨rfl, rfl⟩
    · exact ⟨_, t7, .ptr 0 0 ⟨p0, 0, 0, undef, 0⟩ rfl⟩
    · exact ⟨_, t8, .ptr 1 0 ⟨p1, 0, 0, undef, 0⟩ rfl⟩
    · exact ⟨_, t9, .ptr 2 0 ⟨p2, 0, 0, undef, 0⟩ rfl⟩
  have wf : Wf s3T.h s3T.c := by
    intro n hn
    have hn' : 50 ≤ n := hn
    cases hg : s3T.h.get n with
    | none => rfl
    | some o => rcases h3_get (n := n) (o := o) hg with ⟨h, _⟩ | ⟨h, _⟩ | ⟨h, _⟩ <;> omega
  have m1 := Mono.exec _ _ _ _ _ _ x1
  have m2 := Mono.exec _ _ _ _ _ _ x2
  refine exec_ok hctx bodyOK 2000 D4 s3T .normal s1 Tryz.f3.ntmps x1 okD4 w.heap.size (rho3 p0 p1 p2 X Y Z) (fun n => h3T.get n) a w _ ⟨tm, fun _ _ h => h, rh, Nat.le_refl _, wf, Nat.le_refl _, hd, hs, inv⟩ (fun n hn _ => rho3_big hn) fun ρ1 G1 a1 w1 R1 ev1 => ?_
  refine hK a1 w1 (exec_ok hctx bodyOK 2000 D5 s1 x s2 Tryz.f3.ntmps x2 okD5 w.heap.size ρ1 G1 a1 w1 _ R1 (fun n hn _ => ?_) fun ρ2 G2 a2 w2 R2 ev2 => ?_)
  · rw [ev1.out n (.inr hn)]
    exact rho3_big (Nat.le_trans (show 50 ≤ s1.c from m1.cc) hn)
  · have key : (x = .normal ∨ x = .ret) ∧ endV (ET (cmpE ex ey) (cmpE ey ez) (cmpE ex ez) (cmpE ey ex)) Tryz.f3 s2 = .ok (.bool true) h' c tl := by
      cases x with
      | normal => exact ⟨.inl rfl, x3⟩
      | ret => exact ⟨.inr rfl, x3⟩
      | exit id => cases x3
    obtain ⟨vs, hvs, h3⟩ := oE_no_eq (show oE (resVs (ET (cmpE ex ey) (cmpE ey ez) (cmpE ex ez) (cmpE ey ex)) s2 Tryz.f3.results.toList) .no (fun l => back (one l) s2) = .ok (.bool true) h' c tl from key.2)
    rw [show back (one vs) s2 = out (one vs) s2.h s2.c s2.wl from rfl, out_eq] at h3
    obtain ⟨u, h4, h5⟩ := results_ok (P := Tryz.prog) (w := w2) hctx.env R2.tm R2.hp R2.rh hvs
    have hone : one vs = .bool true := by injection h3
    rw [hone] at h5
    cases h5
    have hpost : a2.defers = [] ∧ ∃ v, (results Tryz.f3 a2.tmps).run Tryz.prog w2 = .ok v w2 ∧ R (.returned v) w2 := ⟨R2.df, _, h4, hR w2 (ev1.bel.trans ev2.bel)⟩
    rcases key.1 with rfl | rfl
    · exact hpost
    · exact hpost
end
end T1
namespace T1
open Go Go.Ab Go.Proofs
open Go.RowKit (Below)
def KnownSpec : Prop := ∀ w : World, Calls Tryz.prog 9 #[] w fun e w' => e = .returned (.bool true) ∧ Below w.heap.size w w'
theorem isEx_up {w w' : World} {T : Nat → Prop} {e : Ex} {cs : List Value} (h : IsEx w T e cs) (hT : ∀ k, T k → k < w.heap.size) (hb : Below w.heap.size w w') : IsEx w' (· < w'.heap.size) e cs :=
  h.mono (fun k hk => Nat.lt_of_lt_of_le (hT k hk) hb.size) (fun k hk => hb.block k (hT k hk))
theorem a3_0 (w : World) (o1 o2 o3 : Obj) : (((w.alloc o1).alloc o2).alloc o3).heap[w.heap.size]? = some o1 := by
  show (((w.heap.push o1).push o2).push o3)[w.heap.size]? = _
  rw [Array.getElem?_push, if_neg (by simp; omega), Array.getElem?_push, if_neg (by simp), Array.getElem?_push, if_pos rfl]
theorem a3_1 (w : World) (o1 o2 o3 : Obj) : (((w.alloc o1).alloc o2).alloc o3).heap[w.heap.size + 1]? = some o2 := by
  show (((w.heap.push o1).push o2).push o3)[w.heap.size + 1]? = _
  rw [Array.getElem?_push, if_neg (by simp), Array.getElem?_push, if_pos (by simp)]
theorem a3_2 (w : World) (o1 o2 o3 : Obj) : (((w.alloc o1).alloc o2).alloc o3).heap[w.heap.size + 1 + 1]? = some o3 := by
  show (((w.heap.push o1).push o2).push o3)[w.heap.size + 1 + 1]? = _
  rw [Array.getElem?_push, if_pos (by simp)]
theorem cells_of {w : World} {p : Nat} {cs : Array Value} {t : TypeId} (h : w.heap[p]? = some (.cells cs t)) (j : Nat) (u : Value) (hj : cs.toList[j]? = some u) : w.cell? ⟨p, j, none⟩ = some u := by
  simp [World.cell?, h]
  simpa using hj
set_option maxRecDepth 20000 in
set_option maxHeartbeats 4000000 in
theorem law3 (kn : KnownSpec) (a1 a2 a3 : Option Addr) (l1 l2 l3 c1 c2 c3 : Nat) (w : World) (h1 : U8r w (.slice a1 l1 c1)) (h2 : U8r w (.slice a2 l2 c2)) (h3 : U8r w (.slice a3 l3 c3)) :
    Calls Tryz.prog 3 #[.slice a1 l1 c1, .slice a2 l2 c2, .slice a3 l3 c3] w fun e w' => e = .returned (.bool true) ∧ Below w.heap.size w w' := by
  go_enter Tryz.func3, Tryz.ntmps3
  go_wp2_with fail
  refine (kn w).mono ?_
  rintro e w0 ⟨rfl, hb0⟩
  go_wp2_with fail
  rotate_left 1
  · refine (grow10 a1 l1 c1 w0 (h1.below hb0)).mono ?_
    rintro e w1 ⟨cx, ex, rfl, gx, ix, hb1⟩
    go_wp2_with fail
    refine (grow10 a2 l2 c2 w1 ((h2.below hb0).below hb1)).mono ?_
    rintro e w2 ⟨cy, ey, rfl, gy, iy, hb2⟩
    go_wp2_with fail
    refine (grow10 a3 l3 c3 w2 (((h3.below hb0).below hb1).below hb2)).mono ?_
    rintro e w3 ⟨cz, ez, rfl, gz, iz, hb3⟩
    cases ix with
    | mk ix => cases iy with
      | mk iy => cases iz with
        | mk iz =>
          rename_i q0 q1 q2 q3 q4 q5 q6 q7 r0 r1 r2 r3 r4 r5 r6 r7 s0 s1 s2 s3 s4 s5 s6 s7
          obtain ⟨t0, t1, t2, rfl⟩ : ∃ a l c, q7 = .slice a l c := by cases ix <;> exact ⟨_, _, _, rfl⟩
          obtain ⟨u0, u1, u2, rfl⟩ : ∃ a l c, r7 = .slice a l c := by cases iy <;> exact ⟨_, _, _, rfl⟩
          obtain ⟨v0, v1, v2, rfl⟩ : ∃ a l c, s7 = .slice a l c := by cases iz <;> exact ⟨_, _, _, rfl⟩
          go_wp2_with fail
          have hb4 : ∀ o1 o2 o3, Below w3.heap.size w3 (((w3.alloc o1).alloc o2).alloc o3) := fun o1 o2 o3 => (((Below.refl _ w3).alloc (Nat.le_refl _) o1).alloc (by simp) o2).alloc (by simp; omega) o3
          have hsz : ∀ o1 o2 o3, (((w3.alloc o1).alloc o2).alloc o3).heap.size = w3.heap.size + 3 := fun o1 o2 o3 => by simp
          refine tail3 (p0 := w3.heap.size) (p1 := w3.heap.size + 1) (p2 := w3.heap.size + 1 + 1) gx gy gz (isEx_up (.mk ix) (fun k hk => hk.2) (((hb2.trans (hb3.mono hb2.size)).trans ((hb4 _ _ _).mono (hb2.trans (hb3.mono hb2.size)).size))))
            (isEx_up (.mk iy) (fun k hk => hk.2) (hb3.trans ((hb4 _ _ _).mono hb3.size))) (isEx_up (.mk iz) (fun k hk => hk.2) (hb4 _ _ _)) (by rw [hsz]; omega) (by rw [hsz]; omega) (by rw [hsz]; omega) ?_ ?_ ?_ rfl rfl rfl rfl ?_ (by assumption) ?_
          · exact fun j u hj => cells_of (a3_0 _ _ _ _) j u hj
          · exact fun j u hj => cells_of (a3_1 _ _ _ _) j u hj
          · exact fun j u hj => cells_of (a3_2 _ _ _ _) j u hj
          · exact Nat.le_refl _
          · intro w' hw
            refine ⟨rfl, ?_⟩
            have h3 := hb0.trans ((hb1.trans ((hb2.trans (hb3.mono hb2.size)).mono hb1.size)).mono hb0.size)
            exact (h3.trans ((hb4 _ _ _).mono h3.size)).trans (hw.mono ((h3.trans ((hb4 _ _ _).mono h3.size)).size))
  all_goals
    refine (kn w0).mono ?_
    rintro e w1 ⟨rfl, hb1⟩
    go_wp2_with fail
    go_ret
    exact ⟨rfl, hb0.trans (hb1.mono hb0.size)⟩
#print axioms law3
end T1
