/- A part of an evaluator of the program's operations over values that are known whole or in part, and of the proof that what it answers holds of the program's run. No condition. -/
import Derived.Test.YtofkgopegmoidaaGreatDoorWS37
namespace T1
open Go Go.Ab Go.Proofs
open Go.RowKit (Below)
theorem fn47 : T1.E.fn.get 47 = some Tryz.f47 := by kernel_rfl
theorem fn48 : T1.E.fn.get 48 = some Tryz.f48 := by kernel_rfl
theorem fn49 : T1.E.fn.get 49 = some Tryz.f49 := by kernel_rfl
theorem body47 : Tryz.f47.body = some (bodyOf Tryz.f47) := by kernel_rfl
theorem body48 : Tryz.f48.body = some (bodyOf Tryz.f48) := by kernel_rfl
theorem body49 : Tryz.f49.body = some (bodyOf Tryz.f49) := by kernel_rfl
theorem has {f : Nat} {fn : Func} (h : T1.E.fn.get f = some fn) (hb : fn.body = some (bodyOf fn)) : ∃ g code, Tryz.prog.funcs[f]? = some g ∧ g.name ≠ "runtime.NumGoroutine" ∧ g.body = some code :=
  ⟨fn, _, (envOK.fn f fn h).1, (envOK.fn f fn h).2, hb⟩
theorem envOK_con (con : Tr (Tr AB → Nat → List AV → ConR)) : EnvOK Tryz.prog ⟨fnT, tyT, exT, con⟩ := ⟨envOK.mix, envOK.ty, envOK.fn, envOK.ext⟩
theorem cmpV_int {X : Value} {b r : Int} (h : cmpV X (.int .i64 b) = some r) : ∃ a, X = .int .i64 a := by
  unfold cmpV at h
  split at h
  · next j a k b' heq =>
    cases heq
    split at h
    · next hj => subst hj; exact ⟨a, rfl⟩
    · cases h
  · next heq => cases heq
  · cases h
theorem cmpV_str {X : Value} {b : ByteArray} {r : Int} (h : cmpV X (.string b) = some r) : ∃ a, X = .string a := by
  unfold cmpV at h
  split at h
  · next heq => cases heq
  · exact ⟨_, rfl⟩
  · cases h
theorem cmpV_ii (a b : Int) : cmpV (.int .i64 a) (.int .i64 b) = some (cmpI a b) := by rw [cmpI_eq]; simp [cmpV]
theorem cmpV_ss (a b : ByteArray) : cmpV (.string a) (.string b) = some (cmpStr a b) := by simp [cmpV, cmpStr]
/-- what rational.Compare does with small numbers -/
def NumC : Prop := ∀ (b1 : Bool) (m1 : ByteArray) (b2 : Bool) (m2 : ByteArray) (b1' : Bool) (m1' : ByteArray) (b2' : Bool) (m2' : ByteArray) (w : World), 0 < w.heap.size → NumOK b1 m1 b2 m2 → NumOK b1' m1' b2' m2' →
  Calls Tryz.prog 49 #[.agg #[.bool b1, .string m1, .bool b2, .string m2], .agg #[.bool b1', .string m1', .bool b2', .string m2']] w fun e w' => e = .returned (.int .i64 (cmpQ b1 m1 b1' m1')) ∧ Below w.heap.size w w'
theorem agg_of {xs : Array Value} {k : Nat} (hs : xs.size = k) {l : List Value} (hl : l.length = k) (h : ∀ j, j < k → xs[j]? = l[j]?) : xs = l.toArray := by
  apply Array.ext'
  apply List.ext_getElem?
  intro j
  by_cases hj : j < k
  · rw [Array.getElem?_toList]; simpa using h j hj
  · rw [List.getElem?_eq_none (by simp; omega), List.getElem?_eq_none (by simp; omega)]
set_option maxHeartbeats 4000000 in
theorem cmp_step (g : Nat) (fn : Func) (hfn : T1.E.fn.get g = some fn) (hbody : fn.body = some (bodyOf fn))
    (ha : chkH g fn (.negSucc 0) = true) (hb : chkH g fn (.ofNat 0) = true) (hc : chkH g fn (.ofNat 1) = true) (ht : chkT g fn = true) (num : NumC) :
    ∀ (n : Nat) (ex ey : Ex), sizeOf ex ≤ n → Good ex → Good ey → ∀ (w : World) (X Y : List Value), 0 < w.heap.size → IsEx w (· < w.heap.size) ex X → IsEx w (· < w.heap.size) ey Y →
      Calls Tryz.prog g #[.agg X.toArray, .agg Y.toArray] w fun e w' => e = .returned (.int .i64 (cmpE ex ey)) ∧ Below w.heap.size w w' := by
  intro n
  induction n with
  | zero => intro ex ey hsz; exfalso; cases ex; simp at hsz
  | succ n ih =>
    intro ex ey hsz gx gy w X Y h0 hX hY
    cases gx with
    | mk hxl hxn hxg => cases gy with
      | mk hyl hyn hyg => cases hX with
        | mk hsx => cases hY with
          | mk hsy =>
            rename_i op nm b1 m1 b2 m2 ys op' nm' b1' m1' b2' m2' ys' sl sl'
            obtain ⟨vx, Lx, x1, x2, x3, x4, x5, x6, x7⟩ := slA_ok hsx (fun _ h => h)
            obtain ⟨vy, Ly, y1, y2, y3, y4, y5, y6, y7⟩ := slA_ok hsy (fun _ h => h)
            have hE : cmpE (.mk op nm b1 m1 b2 m2 ys) (.mk op' nm' b1' m1' b2' m2' ys') = fst0 (cmpI op op' :: cmpStr nm nm' :: cmpQ b1 m1 b1' m1' :: cmpI ys.length ys'.length :: cmpL ys ys') := by rw [cmpE]
            obtain ⟨rs, hrs, hrun⟩ := run_of ha hb hc ht (ro := cmpI op op') (rn := cmpStr nm nm') (rq := cmpQ b1 m1 b1' m1') (rl := cmpL ys ys') (l1 := ys.length) (l2 := ys'.length)
              (cmpI_sg _ _) (cmpStr_sg _ _) (cmpI_sg _ _) hxl hyl (cmpL_sg ys ys') (fun h => cmpL_length ys ys' h)
            rw [← hE] at hrun
            obtain ⟨h', c, tl, hok⟩ := isInt_eq hrun
            generalize hres : cmpE (.mk op nm b1 m1 b2 m2 ys) (.mk op' nm' b1' m1' b2' m2' ys') = res at hok ⊢
            clear hE hrun
            let x : List Value := [.int .i64 op, .string nm, .bool b1, .string m1, .bool b2, .string m2, sl]
            let y : List Value := [.int .i64 op', .string nm', .bool b1', .string m1', .bool b2', .string m2', sl']
            have hinn : ∀ m L, rhoC x y vx vy Lx Ly m = some L → L.blk < w.heap.size := by
              intro m L hL
              rcases rhoC_loc hL with h | h | h
              · omega
              · exact (x4 L h).1
              · exact (y4 L h).1
            have hxlen : vx.length ≤ 21 := by omega
            have hylen : vy.length ≤ 21 := by omega
            have rvx : ∀ (j : Nat) (u : Value), vx[j]? = some u → rhoC x y vx vy Lx Ly (20 + j) = some (vloc u) := by
              intro j u hu
              have hj : j < vx.length := (List.getElem?_eq_some_iff.1 hu).1
              rw [rhoC_vx ⟨by omega, by omega⟩, show 20 + j - 20 = j by omega, hu]; rfl
            have rvy : ∀ (j : Nat) (u : Value), vy[j]? = some u → rhoC x y vx vy Lx Ly (41 + j) = some (vloc u) := by
              intro j u hu
              have hj : j < vy.length := (List.getElem?_eq_some_iff.1 hu).1
              rw [rhoC_vy ⟨by omega, by omega⟩, show 41 + j - 41 = j by omega, hu]; rfl
            have rh : RH w.heap.size (rhoC x y vx vy Lx Ly) (fun m => (hA ys.length ys'.length).get m) w := by
              refine ⟨fun m o hg => ?_, fun m k a b L M hm hk _ _ _ ho => ?_, hinn⟩
              · rcases hA_get hg with ⟨rfl, hl, rfl⟩ | ⟨rfl, hl, rfl⟩
                · obtain ⟨L, hL⟩ := Option.isSome_iff_exists.1 (x5 hl)
                  refine ⟨L, by rw [rhoC_12]; exact hL, fun i v hv => ?_, trivial⟩
                  obtain ⟨rfl, hi⟩ := opsL_get _ _ _ _ hv
                  have hg : vx[i]? = some vx[i] := List.getElem?_eq_getElem (by omega)
                  exact ⟨_, (x4 L hL).2 i _ hg, .op _ _ (rvx i _ hg) (x2 i _ hg)⟩
                · obtain ⟨L, hL⟩ := Option.isSome_iff_exists.1 (y5 hl)
                  refine ⟨L, by rw [rhoC_13]; exact hL, fun i v hv => ?_, trivial⟩
                  obtain ⟨rfl, hi⟩ := opsL_get _ _ _ _ hv
                  have hg : vy[i]? = some vy[i] := List.getElem?_eq_getElem (by omega)
                  exact ⟨_, (y4 L hL).2 i _ hg, .op _ _ (rvy i _ hg) (y2 i _ hg)⟩
              · rcases hA_get hm with ⟨_, _, rfl⟩ | ⟨_, _, rfl⟩ <;> cases ho
            have inv : invC (rhoC x y vx vy Lx Ly) w w.heap.size (rhoC x y vx vy Lx Ly) (fun m => (hA ys.length ys'.length).get m) w :=
              ⟨Rho.le_refl _, Nat.le_refl _, fun _ _ => rfl, fun m o L hg ho _ => by rcases hA_get hg with ⟨_, _, rfl⟩ | ⟨_, _, rfl⟩ <;> cases ho⟩
            -- the contracts
            have con : ConOK Tryz.prog (conC g (cmpQ b1 m1 b1' m1') rs) (invC (rhoC x y vx vy Lx Ly) w) := by
              intro f k hk H c args v m o hkm B ρ G w1 zs hz inv1 rh1 hB hp fr
              have hk' : ((((Tr.lf.set 47 (cmpK 0)).set 48 (cmpK 1)).set 49 (pairK 4 [(2, 8, i64r (cmpQ b1 m1 b1' m1'))])).set g (pairK 7 (rsTab rs 20 41))).get f = some k := hk
              rw [Tr.get_set, Tr.get_set, Tr.get_set, Tr.get_set] at hk'
              have le := inv1.1
              have hw1 : 0 < w1.heap.size := Nat.lt_of_lt_of_le h0 inv1.2.1
              by_cases h1 : f = g
              · rw [if_pos h1] at hk'; cases hk'; subst h1
                refine ⟨has hfn hbody, ?_⟩
                obtain ⟨e1, rfl, rfl⟩ := res0_eq hkm
                obtain ⟨p, q, rfl, e2⟩ := two_eq e1
                obtain ⟨a, hpa, e3⟩ := oE_none_eq e2
                obtain ⟨b, hqb, e4⟩ := oE_none_eq e3
                obtain ⟨i, r, hri, rfl, rfl, rfl⟩ := rsTab_mem rs 20 41 a b v (tab_eq e4)
                obtain ⟨ea, eb, hea, heb, rfl⟩ := cmpL_get ys ys' i r (hrs i r hri)
                obtain ⟨ca, hca, hca2⟩ := x3 i ea hea
                obtain ⟨cb, hcb, hcb2⟩ := y3 i eb heb
                have hia : i < ys.length := (List.getElem?_eq_some_iff.1 hea).1
                have hib : i < ys'.length := (List.getElem?_eq_some_iff.1 heb).1
                cases hz with
                | cons hz1 hz2 => cases hz2 with
                  | cons hz2 hz3 =>
                    cases hz3
                    obtain ⟨xa, rfl, hxa, hxa2⟩ := opsAt_rv hpa hz1
                    obtain ⟨xb, rfl, hxb, hxb2⟩ := opsAt_rv hqb hz2
                    have ea1 : xa = ca.toArray := agg_of hxa hca.one.1 fun j hj => by
                      obtain ⟨L, hL, hLx⟩ := hxa2 j hj
                      have hg : vx[7 * i + j]? = some vx[7 * i + j] := List.getElem?_eq_getElem (by omega)
                      have := le _ _ (rvx _ _ hg)
                      rw [show 20 + (7 * i + j) = 20 + 7 * i + j by omega, hL] at this
                      cases this
                      rw [hLx, ← hca2 j hj, hg]; rfl
                    have eb1 : xb = cb.toArray := agg_of hxb hcb.one.1 fun j hj => by
                      obtain ⟨L, hL, hLx⟩ := hxb2 j hj
                      have hg : vy[7 * i + j]? = some vy[7 * i + j] := List.getElem?_eq_getElem (by omega)
                      have := le _ _ (rvy _ _ hg)
                      rw [show 41 + (7 * i + j) = 41 + 7 * i + j by omega, hL] at this
                      cases this
                      rw [hLx, ← hcb2 j hj, hg]; rfl
                    subst ea1; subst eb1
                    have hma := List.mem_of_getElem? hea
                    have hsub : sizeOf ea ≤ n := by
                      have := List.sizeOf_lt_of_mem hma
                      simp at hsz
                      omega
                    have pers : ∀ {e : Ex} {cs : List Value}, IsEx w (· < w.heap.size) e cs → IsEx w1 (· < w1.heap.size) e cs := fun h => h.mono (fun k hk => Nat.lt_of_lt_of_le hk inv1.2.1) (fun k hk => inv1.2.2.1 k hk)
                    exact con_wrap rh1 inv1 hB (.int _ _) (ih ea eb hsub (hxg ea hma) (hyg eb (List.mem_of_getElem? heb)) w1 ca cb hw1 (pers hca) (pers hcb))
              rw [if_neg h1] at hk'
              by_cases h2 : f = 49
              · rw [if_pos h2] at hk'; cases hk'; subst h2
                refine ⟨has fn49 body49, ?_⟩
                obtain ⟨e1, rfl, rfl⟩ := res0_eq hkm
                obtain ⟨p, q, rfl, e2⟩ := two_eq e1
                obtain ⟨a, hpa, e3⟩ := oE_none_eq e2
                obtain ⟨b, hqb, e4⟩ := oE_none_eq e3
                have hm := tab_eq (tab := [(2, 8, i64r (cmpQ b1 m1 b1' m1'))]) (a := a) (b := b) (v := v) e4
                simp only [List.mem_cons, List.mem_nil_iff, or_false] at hm
                cases hm
                cases hz with
                | cons hz1 hz2 => cases hz2 with
                  | cons hz2 hz3 =>
                    cases hz3
                    obtain ⟨xa, rfl, hxa, hxa2⟩ := opsAt_rv hpa hz1
                    obtain ⟨xb, rfl, hxb, hxb2⟩ := opsAt_rv hqb hz2
                    have ea1 : xa = [.bool b1, .string m1, .bool b2, .string m2].toArray := agg_of hxa rfl fun j hj => by
                      obtain ⟨L, hL, hLx⟩ := hxa2 j hj
                      have hr : rhoC x y vx vy Lx Ly (2 + j) = (x[2 + j]?).map vloc := rhoC_x (by omega)
                      have : j = 0 ∨ j = 1 ∨ j = 2 ∨ j = 3 := by omega
                      rcases this with rfl | rfl | rfl | rfl <;> (have h5 := le _ _ hr; rw [hL] at h5; cases h5; exact hLx)
                    have eb1 : xb = [.bool b1', .string m1', .bool b2', .string m2'].toArray := agg_of hxb rfl fun j hj => by
                      obtain ⟨L, hL, hLx⟩ := hxb2 j hj
                      have hr : rhoC x y vx vy Lx Ly (8 + j) = (y[8 + j - 6]?).map vloc := rhoC_y ⟨by omega, by omega⟩
                      have : j = 0 ∨ j = 1 ∨ j = 2 ∨ j = 3 := by omega
                      rcases this with rfl | rfl | rfl | rfl <;> (have h5 := le _ _ hr; rw [hL] at h5; cases h5; exact hLx)
                    subst ea1; subst eb1
                    exact con_wrap rh1 inv1 hB (.int _ _) (num b1 m1 b2 m2 b1' m1' b2' m2' w1 hw1 hxn hyn)
              rw [if_neg h2] at hk'
              by_cases h3 : f = 48
              · rw [if_pos h3] at hk'; cases hk'; subst h3
                refine ⟨has fn48 body48, ?_⟩
                obtain ⟨e1, rfl, rfl⟩ := res0_eq hkm
                obtain ⟨p, q, rfl, e2⟩ := two_eq e1
                obtain ⟨s, hs, e3⟩ := oE_none_eq e2
                cases e3
                cases hz with
                | cons hz1 hz2 => cases hz2 with
                  | cons hz2 hz3 =>
                    cases hz3
                    unfold ordAV at hs
                    split at hs
                    · obtain ⟨e5, _⟩ := bE_none_eq hs; cases e5
                    · obtain ⟨e5, e6⟩ := bE_none_eq hs
                      rw [Bool.and_eq_true] at e5
                      obtain rfl := beq_true e5.1
                      obtain rfl := beq_true e5.2
                      cases hz1 with
                      | ordv _ _ L Z hL hc1 => cases hz2 with
                        | ordv _ _ M Z' hM hc2 =>
                          have h5 := le 1 _ (rhoC_x (by omega))
                          rw [hL] at h5 hM; cases h5; cases hM
                          have h6 := ordS_ok hc1 hc2 e6
                          obtain ⟨za, rfl⟩ := cmpV_str hc1
                          obtain ⟨zb, rfl⟩ := cmpV_str hc2
                          rw [cmpV_ss] at h6; cases h6
                          exact con_wrap rh1 inv1 hB (.int _ _) ((cmp_str za zb w1).mono fun e w' ⟨he, hw⟩ => ⟨he, by rw [hw]; exact Below.refl _ _⟩)
                    · cases hs
              rw [if_neg h3] at hk'
              by_cases h4 : f = 47
              · rw [if_pos h4] at hk'; cases hk'; subst h4
                refine ⟨has fn47 body47, ?_⟩
                obtain ⟨e1, rfl, rfl⟩ := res0_eq hkm
                obtain ⟨p, q, rfl, e2⟩ := two_eq e1
                obtain ⟨s, hs, e3⟩ := oE_none_eq e2
                cases e3
                cases hz with
                | cons hz1 hz2 => cases hz2 with
                  | cons hz2 hz3 =>
                    cases hz3
                    unfold ordAV at hs
                    split at hs
                    · obtain ⟨e5, e6⟩ := bE_none_eq hs
                      rw [Bool.and_eq_true, Bool.and_eq_true] at e5
                      obtain rfl := keq_eq e5.2.1
                      obtain rfl := keq_eq e5.2.2
                      cases e6
                      cases hz1; cases hz2
                      exact con_wrap rh1 inv1 hB (.int _ _) ((cmp_int _ _ w1).mono fun e w' ⟨he, hw⟩ => ⟨he, by rw [hw]; exact Below.refl _ _⟩)
                    · obtain ⟨e5, e6⟩ := bE_none_eq hs
                      rw [Bool.and_eq_true] at e5
                      obtain rfl := beq_true e5.1
                      obtain rfl := beq_true e5.2
                      cases hz1 with
                      | ordv _ _ L Z hL hc1 => cases hz2 with
                        | ordv _ _ M Z' hM hc2 =>
                          have h5 := le 0 _ (rhoC_x (by omega))
                          rw [hL] at h5 hM; cases h5; cases hM
                          have h6 := ordS_ok hc1 hc2 e6
                          obtain ⟨za, rfl⟩ := cmpV_int hc1
                          obtain ⟨zb, rfl⟩ := cmpV_int hc2
                          rw [cmpV_ii] at h6; cases h6
                          exact con_wrap rh1 inv1 hB (.int _ _) ((cmp_int _ _ w1).mono fun e w' ⟨he, hw⟩ => ⟨he, by rw [hw]; exact Below.refl _ _⟩)
                    · cases hs
              rw [if_neg h4] at hk'; simp at hk'
            -- the run
            have rx : ∀ (j : Nat) (u : Value), j < 6 → x[j]? = some u → rhoC x y vx vy Lx Ly j = some (vloc u) := fun j u hj hu => by rw [rhoC_x hj, hu]; rfl
            have ry : ∀ (j : Nat) (u : Value), 2 ≤ j → j < 6 → y[j]? = some u → rhoC x y vx vy Lx Ly (6 + j) = some (vloc u) := fun j u h1 hj hu => by rw [rhoC_y ⟨by omega, by omega⟩, show 6 + j - 6 = j by omega, hu]; rfl
            have rvX : RV (rhoC x y vx vy Lx Ly) (xA ys.length) (.agg x.toArray) := by
              refine .agg _ _ ?_
              refine .cons (.ordv 0 0 _ _ (rx 0 _ (by omega) rfl) ?_) (.cons (.ordv 1 0 _ _ (rx 1 _ (by omega) rfl) ?_) (.cons (.op 2 _ (rx 2 _ (by omega) rfl) rfl) (.cons (.op 3 _ (rx 3 _ (by omega) rfl) rfl) (.cons (.op 4 _ (rx 4 _ (by omega) rfl) rfl) (.cons (.op 5 _ (rx 5 _ (by omega) rfl) rfl) (.cons (x7 _ 12 rhoC_12) .nil))))))
              · show cmpV (.int .i64 op) (.int .i64 op) = some 0
                rw [cmpV_ii, cmpI_eq, if_neg (by omega), if_pos rfl]
              · show cmpV (.string nm) (.string nm) = some 0
                rw [cmpV_ss]
                unfold cmpStr
                rcases slt_tri (bytesOf nm) (bytesOf nm) with ⟨k1, k2, k3⟩ | ⟨k1, k2, k3⟩ | ⟨k1, k2, k3⟩
                · exact absurd rfl k3
                · rw [if_neg (by rw [k1]; simp), if_pos rfl]
                · exact absurd rfl k3
            have rvY : RV (rhoC x y vx vy Lx Ly) (yA (Int.neg (cmpI op op')) (Int.neg (cmpStr nm nm')) ys'.length) (.agg y.toArray) := by
              refine .agg _ _ ?_
              exact .cons (.ordv 0 _ _ _ (rx 0 _ (by omega) rfl) (cmpV_symm (cmpV_ii op op'))) (.cons (.ordv 1 _ _ _ (rx 1 _ (by omega) rfl) (cmpV_symm (cmpV_ss nm nm')))
                (.cons (.op 8 _ (ry 2 _ (by omega) (by omega) rfl) rfl) (.cons (.op 9 _ (ry 3 _ (by omega) (by omega) rfl) rfl) (.cons (.op 10 _ (ry 4 _ (by omega) (by omega) rfl) rfl) (.cons (.op 11 _ (ry 5 _ (by omega) (by omega) rfl) rfl) (.cons (y7 _ 13 rhoC_13) .nil))))))
            refine run_gen (xs := [.agg x.toArray, .agg y.toArray]) (s := sC ys.length ys'.length) ⟨envOK_con _, invC_ok _ _, con⟩ bodyOK hfn hbody hok (.cons rvX (.cons rvY .nil)) rh inv (Nat.le_refl _) (fun m hm => ?_) (fun m h1 _ => rhoC_big (by have : 70 ≤ m := h1; omega)) (fun _ _ h => h) fun u ρ' G' w' A _ => ?_
            · cases hg : (sC ys.length ys'.length).h.get m with
              | none => rfl
              | some o =>
                have h5 : 70 ≤ m := hm
                rcases hA_get hg with ⟨rfl, _, _⟩ | ⟨rfl, _, _⟩ <;> omega
            · have := A.rv
              cases this
              exact ⟨rfl, A.bel⟩
end T1
